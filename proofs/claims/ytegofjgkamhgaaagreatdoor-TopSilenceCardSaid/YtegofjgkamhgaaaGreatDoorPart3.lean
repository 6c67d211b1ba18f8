/- Part3 -/
import Derived.LoopN
import Derived.KernelRfl
import Derived.Below
import Derived.IntWalk
import Derived.Deep.Slices
import Derived.Deep.Fields
import Derived.ChangeSame
import Derived.OpenShut
import Derived.WalkKit
import Derived.ProofKit
import Derived.Test.YtegofjgkamhgaaaGreatDoorPart2
import Derived.Test.YtegofjgkamhgaaaGreatDoorPart1
set_option linter.unusedVariables false
set_option linter.unusedSectionVars false
set_option linter.unusedSimpArgs false
open _root_ renaming List → Ya, Option → Yb, Nat → Yk, UInt8 → Yl, cond → Yr, Bool → Ys, absurd → Yw, if_neg → Y4, if_pos → Y7, Array → YX, Decidable → Yap
open Bool renaming false → Yc, true → Yo, and_eq_false_iff → YaY
open Option renaming some → Yd, none → Ye
open Decidable renaming decide → Yf
open Nat renaming beq → Ym, blt → Yz, ble → YB, min → YS, add_zero → Ybf
open List renaming getD → Yn
open Go renaming Value → Yp, TypeId → Yq, run_underlying → Yu, Program → Yv, World → Yx, FuncId → Y6, maxLen → Yaj, MemPlace → YaX
open Go.Op renaming bytesLess → Yy
open Go.Result renaming andThen_ok → Y5
open Go.Sem renaming run_bind → YA, run_pure → YO
open Go.Builtin renaming append_ → YE, firstCells → YR, lenOf → Yaf, copy_ → Yam, clear_ → Yas, zeroCells → Yau
open Go.Value renaming okWide → YU, ownBlock → Yae
open Go.DataW renaming TrodAll → YV, trod → YaD
open Go.Cell renaming okWide → YaM
open Go.Ending renaming returned → Ybj
open Array renaming replicate → Ybk
namespace Go.Lift
noncomputable section
open Go.RowKit
theorem GA{E E':Env}{ids AZ:Ya Yk}(hb:Eg E)(hw:E'.w=E.w)(hr:Ren E E' ids AZ):∀{l:Ya CT}{cs:Ya C}{vs:Ya Yp}{y:CT.dens l},Rows E E.bl E'.ok (FL l cs)->CReps E cs vs->Bl E.bl ids l cs=Yd y->CReps E' (mkC AZ l y) vs
 |[],cs,vs,y,AH,h,hp=>by
  cases cs with
  |nil=>exact h
  |cons c cs=>simp[Bl]at hp
 |.data τ::l,cs,vs,y,AH,h,hp=>by
  simp only[Bl]at hp;split at hp
  ·cases hp
  ·rename_i x r hx
   split at hp
   ·cases hp
   ·rename_i y' hy
    simp only[Af]at hp;subst hp;obtain⟨ds,e1,e2,e3⟩:=gZ hx;subst e1
    have hd:FL (.data τ::l) (ds++r)=Cx ds++FL l r:=by simp only[FL,<-e2,Sb,Wh]
    rw[hd]at AH;obtain⟨us,ws,e,h1,h2⟩:=CReps.split h;subst e;obtain⟨us1,us2,e,d,c,_⟩:=LW hb (AH.sub λb DE=>CI _ DE) h1 e3;simp only[CReps]at c;subst c;rw[Gj]at e;subst e;exact CReps.append (FW (by rw[hw];exact d)) (GA hb hw hr (AH.sub λb DE=>Da _ DE) h2 hy)
 |.ptr b o::l,cs,vs,y,AH,h,hp=>by
  cases cs with
  |nil=>simp[Bl]at hp
  |cons c cs=>
   have Df:Rows E E.bl E'.ok (FL l cs):=AH;cases c<;>simp only[Bl]at hp<;>try(cases hp;done)
   rename_i b' o';split at hp
   ·rename_i i hi
    cases hc:(Ym i b'&&Ym o o')with
    |false=>rw[hc]at hp;cases hp
    |true=>simp only[hc,Ao]at hp;obtain⟨h1,h2⟩:=andB hc;have h1:=At h1;have h2:=At h2;subst h1 h2;obtain⟨v,Av,e,⟨g,hg,hv⟩,ht⟩:=h;exact⟨v,Av,e,⟨g,hr.cells b i g hi hg,hv⟩,GA hb hw hr Df ht hp⟩
   ·cases hp
 |.rowh b::l,cs,vs,y,AH,h,hp=>by
  cases cs with
  |nil=>simp[Bl]at hp
  |cons c cs=>
   have Df:Rows E E.bl E'.ok (FL l cs):=AH;cases c<;>simp only[Bl]at hp<;>try(cases hp;done)
   ·split at hp
    ·rename_i i hi
     split at hp
     ·rename_i hn
      obtain⟨v,Av,e,hv,ht⟩:=h;simp only[CRep]at hv;subst hv;exact⟨_,Av,e,⟨rfl,_,_,hr.nil b i hi hn,λ_ _ _ _ _=>⟨BD _,λ_=>rfl⟩⟩,GA hb hw hr Df ht hp⟩
     ·cases hp
    ·cases hp
   ·rename_i b' ver
    split at hp
    ·rename_i i hi
     cases hc:Ym i b' with
     |false=>rw[hc]at hp;cases hp
     |true=>
      have:=At hc;subst this;simp only[hc,Ao]at hp;split at hp
      ·rename_i t e ver' l' An
       cases Cq:Ym ver ver' with
       |false=>rw[Cq]at hp;cases hp
       |true=>have:=At Cq;subst this;simp only[Cq,Ao]at hp;obtain⟨v,Av,ev,⟨h1,sv,Ab,Au,AO⟩,ht⟩:=h;have Ck:=(AO t e ver l' An).2 rfl;exact⟨v,Av,ev,⟨h1,sv,Ab,hr.row b i sv Ab t e ver l' hi An Au,λ_ _ _ _ _=>⟨BD _,λ_=>Ck⟩⟩,GA hb hw hr Df ht hp⟩
      ·cases hp
    ·cases hp
 |.fn f BI::l,cs,vs,y,AH,h,hp=>by
  cases cs with
  |nil=>simp[Bl]at hp
  |cons c cs=>
   have Df:Rows E E.bl E'.ok (FL l cs):=AH;cases c<;>simp only[Bl]at hp<;>try(cases hp;done)
   rename_i f' HY;cases hc:(Ym f f'&&Yf (BI.map (ids[·]?)=HY.map Yd))with
   |false=>rw[hc]at hp;cases hp
   |true=>simp only[hc,Ao]at hp;obtain⟨h1,h2⟩:=andB hc;have h1:=At h1;have h2:=AC h2;subst h1;obtain⟨v,Av,e,⟨gs,hg,hv⟩,ht⟩:=h;refine⟨v,Av,e,⟨gs,?_,hv⟩,GA hb hw hr Df ht hp⟩;exact gA hr BI HY gs h2 hg
 |.bfnh f b::l,cs,vs,y,AH,h,hp=>by
  cases cs with
  |nil=>simp[Bl]at hp
  |cons c cs=>
   have Df:Rows E E.bl E'.ok (FL l cs):=AH;cases c<;>simp only[Bl]at hp<;>try(cases hp;done)
   rename_i f' b';split at hp
   ·rename_i i hi
    cases hc:(Ym f f'&&Ym i b')with
    |false=>rw[hc]at hp;cases hp
    |true=>simp only[hc,Ao]at hp;obtain⟨h1,h2⟩:=andB hc;have h1:=At h1;have h2:=At h2;subst h1;subst h2;obtain⟨v,Av,e,⟨g,hg,hv⟩,ht⟩:=h;exact⟨v,Av,e,⟨g,hr.cells b i g hi hg,hv⟩,GA hb hw hr Df ht hp⟩
   ·cases hp
 |.bself b::l,cs,vs,y,AH,h,hp=>by
  cases cs with
  |nil=>simp[Bl]at hp
  |cons c cs=>
   have Df:Rows E E.bl E'.ok (FL l cs):=AH;cases c<;>simp only[Bl]at hp<;>try(cases hp;done)
   ·obtain⟨v,Av,e,hv,ht⟩:=h
    exact⟨v,Av,e,.inl hv,GA hb hw hr Df ht hp⟩
   ·rename_i b'
    split at hp
    ·rename_i i hi
     cases hc:Ym i b' with
     |false=>rw[hc]at hp;cases hp
     |true=>
      simp only[hc,Ao]at hp;have h1:=At hc;subst h1;obtain⟨v,Av,e,hg,ht⟩:=h;refine⟨v,Av,e,?_,GA hb hw hr Df ht hp⟩;rcases hg with hg|⟨g,hg,hv⟩
      ·exact .inl hg
      ·exact .inr ⟨g,hr.cells b i g hi hg,hv⟩
    ·cases hp
 |.maph b::l,cs,vs,y,AH,h,hp=>by
  cases cs with
  |nil=>simp[Bl]at hp
  |cons c cs=>
   have Df:Rows E E.bl E'.ok (FL l cs):=AH;cases c<;>simp only[Bl]at hp<;>try(cases hp;done)
   rename_i b';split at hp
   ·rename_i i hi
    cases hc:Ym i b' with
    |false=>rw[hc]at hp;cases hp
    |true=>simp only[hc,Ao]at hp;have h1:=At hc;subst h1;obtain⟨v,Av,e,⟨g,hg,hv⟩,ht⟩:=h;exact⟨v,Av,e,⟨g,hr.cells b i g hi hg,hv⟩,GA hb hw hr Df ht hp⟩
   ·cases hp
 |.math b::l,cs,vs,y,AH,h,hp=>by
  cases cs with
  |nil=>simp[Bl]at hp
  |cons c cs=>
   have Df:Rows E E.bl E'.ok (FL l cs):=AH;cases c<;>simp only[Bl]at hp<;>try(cases hp;done)
   ·split at hp
    ·rename_i i hi
     split at hp
     ·rename_i hn
      obtain⟨v,Av,e,hv,ht⟩:=h;simp only[CRep]at hv;subst hv;exact⟨_,Av,e,⟨rfl,_,_,hr.nil b i hi hn,λ_ _ _ _ _ _ _ _=>⟨BD _,λ_=>rfl⟩⟩,GA hb hw hr Df ht hp⟩
     ·cases hp
    ·cases hp
   ·rename_i b' ver
    split at hp
    ·rename_i i hi
     cases hc:Ym i b' with
     |false=>rw[hc]at hp;cases hp
     |true=>
      have:=At hc;subst this;simp only[hc,Ao]at hp;split at hp
      ·rename_i t et e ver' Am l' An
       cases Cq:Ym ver ver' with
       |false=>rw[Cq]at hp;cases hp
       |true=>have:=At Cq;subst this;simp only[Cq,Ao]at hp;obtain⟨v,Av,ev,⟨h1,sv,Ab,Au,AO⟩,ht⟩:=h;have Ck:=(AO _ _ _ _ _ _ _ An).2 rfl;exact⟨v,Av,ev,⟨h1,sv,Ab,hr.mat b i sv Ab _ _ _ _ _ _ _ hi An Au,λ_ _ _ _ _ _ _ _=>⟨BD _,λ_=>Ck⟩⟩,GA hb hw hr Df ht hp⟩
      ·cases hp
    ·cases hp
 |.tptrh b ks o::l,cs,vs,y,AH,h,hp=>by
  cases cs with
  |nil=>simp[Bl]at hp
  |cons c cs=>
   have Df:Rows E E.bl E'.ok (FL l cs):=AH;cases c<;>simp only[Bl]at hp<;>try(cases hp;done)
   rename_i b' ver p ix o';split at hp
   ·rename_i i hi
    cases hc:(Ym i b'&&Ym o o')with
    |false=>rw[hc]at hp;cases hp
    |true=>
     rw[hc,Ao]at hp;obtain⟨h1,h2⟩:=andB hc;have h1:=At h1;have h2:=At h2;subst h1 h2;split at hp
     ·rename_i t e ver' By l' An
      cases Cq:Ym ver (tv ver' By p)with
      |false=>rw[Cq]at hp;cases hp
      |true=>
       have:=At Cq;subst this;rw[Cq,Ao]at hp;split at hp
       ·rename_i x hx
        split at hp
        ·rename_i y' hy
         simp only[Af]at hp;subst hp;obtain⟨w1,w2⟩:=gB hx;obtain⟨v,Av,ev,⟨sv,Ab,ad,Au,xX,AO⟩,ht⟩:=h;refine⟨v,Av,ev,⟨sv,Ab,ad,hr.tree b i sv Ab _ _ _ _ _ hi An Au,xX,λt2 e2 Gz RA Ia l2 Aj=>?_⟩,GA hb hw hr Df ht hy⟩;have:=hr.treeB b i _ _ _ _ _ _ _ _ _ _ _ hi An Aj;injection this with q1 q2 q3 q4 q5 q6;subst q1 q2 q3 q4 q5;simp only[Jj]at q6;subst q6;rw[w1,w2];exact⟨BD _,λ_ _=>(AO _ _ _ _ _ _ An).2 rfl λ_ h=>by cases h⟩
        ·cases hp
       ·cases hp
     ·cases hp
   ·cases hp
 |.trowh b::l,cs,vs,y,AH,h,hp=>by
  cases cs with
  |nil=>simp[Bl]at hp
  |cons c cs=>
   have Df:Rows E E.bl E'.ok (FL l cs):=AH;rcases MK (∃b ver p,c=.trow b ver p)with⟨b',ver,p,rfl⟩|Pq
   ·cases p with
    |cons _ _=>simp[Bl]at hp
    |nil=>
     simp only[Bl]at hp;split at hp
     ·rename_i i hi
      cases hc:Ym i b' with
      |false=>rw[hc]at hp;cases hp
      |true=>
       have:=At hc;subst this;simp only[hc,Ao]at hp;split at hp
       ·rename_i t e ver' Am l' An
        cases Cq:Ym ver ver' with
        |false=>rw[Cq]at hp;cases hp
        |true=>have:=At Cq;subst this;simp only[Cq,Ao]at hp;obtain⟨v,Av,ev,hv,ht⟩:=h;obtain⟨Ab,Au,_⟩:=WC hb An hv;exact⟨v,Av,ev,⟨hv.1,v,Ab,hr.tree b i v Ab _ _ _ _ _ hi An Au,λ_ _ _ _ _ _ _=>⟨BD _,λ_ _=>⟨_,rfl,rfl⟩⟩⟩,GA hb hw hr Df ht hp⟩
       ·cases hp
     ·cases hp
   cases c<;>first|exact Yw ⟨_,_,_,rfl⟩ Pq|skip
   all_goals simp only[Bl]at hp
   all_goals try(cases hp;done)
   split at hp
   ·rename_i i hi
    split at hp
    ·rename_i hn
     obtain⟨v,Av,e,hv,ht⟩:=h;simp only[CRep]at hv;subst hv;exact⟨_,Av,e,⟨rfl,_,_,hr.nil b i hi hn,λ_ _ _ _ _ _ _=>⟨BD _,λ_ _=>⟨_,rfl,rfl⟩⟩⟩,GA hb hw hr Df ht hp⟩
    ·cases hp
   ·cases hp
 |.nilc::l,cs,vs,y,AH,h,hp=>by
  cases cs with
  |nil=>simp[Bl]at hp
  |cons c cs=>cases c<;>simp[Bl]at hp
 |.lsome _::l,cs,vs,y,AH,h,hp=>by
  cases cs with
  |nil=>simp[Bl]at hp
  |cons c cs=>cases c<;>simp[Bl]at hp
 |.nils::l,cs,vs,y,AH,h,hp=>by
  cases cs with
  |nil=>simp[Bl]at hp
  |cons c cs=>
   have Df:Rows E E.bl E'.ok (FL l cs):=AH;cases c<;>simp only[Bl]at hp<;>first|(cases hp;done)|skip
   obtain⟨v,Av,e,hv,ht⟩:=h;exact⟨v,Av,e,hv,GA hb hw hr Df ht hp⟩
 |.junk::l,cs,vs,y,AH,h,hp=>by
  cases cs with
  |nil=>simp[Bl]at hp
  |cons c cs=>have Df:Rows E E.bl E'.ok (FL l cs):=AH;simp only[Bl]at hp;obtain⟨v,Av,e,hv,ht⟩:=h;exact⟨v,Av,e,CRep.oneCell hv,GA hb hw hr Df ht hp⟩
theorem hP{E E':Env}{ids AZ:Ya Yk}(hb:Eg E)(hw:E'.w=E.w)(hr:Ren E E' ids AZ):∀{l:Ya (Ys×Ya CT)}{vs:Ya V}{us:Ya Yp}{y:ST.dens l},Rows E E.bl E'.ok (FX l vs)->VReps E vs us->GP E.bl ids l vs=Yd y->TReps E' (mkS AZ l y) us
 |[],vs,us,y,AH,h,hp=>by
  cases vs with
  |nil=>exact h
  |cons v vs=>simp[GP]at hp
 |t::l,vs,us,y,AH,h,hp=>by
  cases vs with
  |nil=>simp[GP]at hp
  |cons v vs=>
   obtain⟨u,Cf,e,hv,ht⟩:=h;obtain⟨agg,ct⟩:=t;cases agg with
   |false=>
    cases v<;>simp only[GP]at hp<;>try(cases hp;done)
    rename_i x;split at hp
    ·cases hp
    ·rename_i y1 h1
     split at hp
     ·cases hp
     ·rename_i z h2
      simp only[Af]at hp;subst hp;have hrow:FX ((Yc,ct)::l) (V.c x::vs)=FL ct [x]++FX l vs:=rfl;rw[hrow]at AH;refine⟨u,Cf,e,⟨[u],?_,by simp⟩,hP hb hw hr (AH.sub λb DE=>Da _ DE) ht h2⟩;exact GA hb hw hr (AH.sub λb DE=>CI _ DE) (show CReps E [x] [u]from⟨u,[],rfl,hv,rfl⟩) h1
   |true=>
    cases v<;>simp only[GP]at hp<;>try(cases hp;done)
    rename_i cs;split at hp
    ·cases hp
    ·rename_i y1 h1
     split at hp
     ·cases hp
     ·rename_i z h2
      simp only[Af]at hp;subst hp;have hrow:FX ((Yo,ct)::l) (V.agg cs::vs)=FL ct cs++FX l vs:=rfl;rw[hrow]at AH;obtain⟨xs,Ad,hu⟩:=hv;refine⟨u,Cf,e,⟨xs,?_,hu⟩,hP hb hw hr (AH.sub λb DE=>Da _ DE) ht h2⟩;exact GA hb hw hr (AH.sub λb DE=>CI _ DE) Ad h1
def plOf(E:Env)(i:Yk):Pl:=
 match E.bl i with
 |some _=>(E.pl i).getD (.row (.slice Ye 0 0) [])
 |none=>.row (.slice Ye 0 0) []
theorem Li{E E':Env}{ids AZ:Ya Yk}(hb:Eg E)(hw:E'.w=E.w)(BM:E'.base=E.base)(hr:Ren E E' ids AZ)(Hb:∀g,E.ok g->E'.ok g):∀{l:Ya BT}{is:Ya Yk}{y:BT.dens l},Rows E E.bl E'.ok (EH E.bl l is)->CS E.bl ids l is=Yd y->is.length=l.length/\∀(j i:Yk),is[j]?=Yd i->∃B,(mkB AZ l y)[j]?=Yd B/\BRep E' B (plOf E i)/\(∀B0,E.bl i=Yd B0->B0.live=Yo)
 |[],is,y,AH,hp=>by
  cases is with
  |nil=>exact⟨rfl,λj i h=>by simp at h⟩
  |cons i is=>simp[CS]at hp
 |.row t e::r,is,y,AH,hp=>by
  cases is with
  |nil=>simp[CS]at hp
  |cons i is=>
   have Df:Rows E E.bl E'.ok (EH E.bl r is):=AH;simp only[CS]at hp;split at hp
   ·rename_i t' e' ver l An
    cases ht:Ym t t' with
    |false=>rw[ht]at hp;cases hp
    |true=>
     have:=At ht;subst this;simp only[ht,Ao]at hp;split at hp
     ·rename_i he
      subst he;split at hp
      ·cases hp
      ·rename_i z h2
       simp only[Af]at hp;subst hp;obtain⟨hl,Eb⟩:=Li hb hw BM hr Hb Df h2;refine⟨by simp[hl],λj k hj=>?_⟩;cases j with
       |zero=>
        simp only[Dg,Af]at hj;subst hj;refine⟨_,rfl,?_,λB0 h0=>by rw[An]at h0;injection h0 with h0;subst h0;rfl⟩;obtain⟨p,CB,hB⟩:=hb i _ An;have Bk:plOf E i=p:=by simp[plOf,An,CB]
        rw[Bk];cases p with
        |cells _=>exact hB.elim
        |row sv Ab=>obtain⟨h0,xs,h3,h4⟩:=hB;refine⟨h0,xs,h3.mono λx u hu=>?_,by rw[hw,BM];exact h4⟩;rw[hw];exact hu.mono λg hg _=>⟨Hb g hg,rfl⟩
       |succ j=>obtain⟨B,h3,h4⟩:=Eb j k (by simpa using hj);exact⟨B,by simpa [mkB]using h3,h4⟩
     ·cases hp
   ·rename_i An
    split at hp
    ·cases hp
    ·rename_i z h2
     simp only[Af]at hp;subst hp;obtain⟨hl,Eb⟩:=Li hb hw BM hr Hb Df h2;refine⟨by simp[hl],λj k hj=>?_⟩;cases j with
     |zero=>
      simp only[Dg,Af]at hj;subst hj;refine⟨_,rfl,?_,λB0 h0=>by rw[An]at h0;cases h0⟩;have Bk:plOf E i=.row (.slice Ye 0 0) []:=by simp[plOf,An]
      rw[Bk];exact⟨rfl,[],rfl,by simp,.inl ⟨rfl,rfl⟩⟩
     |succ j=>obtain⟨B,h3,h4⟩:=Eb j k (by simpa using hj);exact⟨B,by simpa [mkB]using h3,h4⟩
   ·cases hp
 |.mat t et e::r,is,y,AH,hp=>by
  cases is with
  |nil=>simp[CS]at hp
  |cons i is=>
   have Df:Rows E E.bl E'.ok (EH E.bl r is):=AH;simp only[CS]at hp;split at hp
   ·rename_i t' U5 e' ver Am l An
    cases ht:(Ym t t'&&Ym et U5)with
    |false=>rw[ht]at hp;cases hp
    |true=>
     obtain⟨JA,Py⟩:=andB ht;have:=At JA;subst this;have:=At Py;subst this;simp only[ht,Ao]at hp;split at hp
     ·rename_i he
      subst he;split at hp
      ·cases hp
      ·rename_i z h2
       simp only[Af]at hp;subst hp;obtain⟨hl,Eb⟩:=Li hb hw BM hr Hb Df h2;refine⟨by simp[hl],λj k hj=>?_⟩;cases j with
       |zero=>
        simp only[Dg,Af]at hj;subst hj;refine⟨_,rfl,?_,λB0 h0=>by rw[An]at h0;injection h0 with h0;subst h0;rfl⟩;obtain⟨p,CB,hB⟩:=hb i _ An;have Bk:plOf E i=p:=by simp[plOf,An,CB]
        rw[Bk];cases p with
        |cells _=>exact hB.elim
        |row sv Ab=>have hM:MatOk E t et e' Ye l sv Ab:=hB;obtain⟨vs,h3,h4⟩:=hM.outer;refine⟨⟨vs,by rw[hw,BM];exact h3,h4⟩,hM.len,hM.hole,λi s x hs hx=>?_,hM.sep0,hM.sep⟩;obtain⟨xs,h5,h6⟩:=hM.inner i s x hs hx;refine⟨xs,h5.mono λx u hu=>?_,by rw[hw,BM];exact h6⟩;rw[hw];exact hu.mono λg hg _=>⟨Hb g hg,rfl⟩
       |succ j=>obtain⟨B,h3,h4⟩:=Eb j k (by simpa using hj);exact⟨B,by simpa [mkB]using h3,h4⟩
     ·cases hp
   ·rename_i An
    split at hp
    ·cases hp
    ·rename_i z h2
     simp only[Af]at hp;subst hp;obtain⟨hl,Eb⟩:=Li hb hw BM hr Hb Df h2;refine⟨by simp[hl],λj k hj=>?_⟩;cases j with
     |zero=>
      simp only[Dg,Af]at hj;subst hj;refine⟨_,rfl,?_,λB0 h0=>by rw[An]at h0;cases h0⟩;have Bk:plOf E i=.row (.slice Ye 0 0) []:=by simp[plOf,An]
      rw[Bk];exact MatOk.nil E' t et e
     |succ j=>obtain⟨B,h3,h4⟩:=Eb j k (by simpa using hj);exact⟨B,by simpa [mkB]using h3,h4⟩
   ·cases hp
 |.tree t e::r,is,y,AH,hp=>by
  cases is with
  |nil=>simp[CS]at hp
  |cons i is=>
   have Df:Rows E E.bl E'.ok (EH E.bl r is):=AH;simp only[CS]at hp;split at hp
   ·rename_i t' e' ver Am l An
    cases ht:Ym t t' with
    |false=>rw[ht]at hp;cases hp
    |true=>
     have:=At ht;subst this;simp only[ht,Ao]at hp;split at hp
     ·rename_i he
      subst he;split at hp
      ·cases hp
      ·rename_i z h2
       simp only[Af]at hp;subst hp;obtain⟨hl,Eb⟩:=Li hb hw BM hr Hb Df h2;refine⟨by simp[hl],λj k hj=>?_⟩;cases j with
       |zero=>
        simp only[Dg,Af]at hj;subst hj;refine⟨_,rfl,?_,λB0 h0=>by rw[An]at h0;injection h0 with h0;subst h0;rfl⟩;obtain⟨p,CB,hB⟩:=hb i _ An;have Bk:plOf E i=p:=by simp[plOf,An,CB]
        rw[Bk];cases p with
        |cells _=>exact hB.elim
        |row sv Ab=>have hT:TreeOk E t e' Ye l sv Ab:=hB;obtain⟨hv,F,h3,h4,h5⟩:=hT.rep;refine⟨⟨hv,F,?_,h4,h5⟩,hT.top⟩;rw[hw];exact h3.ren (by rw[BM];exact Aw _) λτ x us hu=>hu.mono λg hg _=>⟨Hb g hg,rfl⟩
       |succ j=>obtain⟨B,h3,h4⟩:=Eb j k (by simpa using hj);exact⟨B,by simpa [mkB]using h3,h4⟩
     ·cases hp
   ·rename_i An
    split at hp
    ·cases hp
    ·rename_i z h2
     simp only[Af]at hp;subst hp;obtain⟨hl,Eb⟩:=Li hb hw BM hr Hb Df h2;refine⟨by simp[hl],λj k hj=>?_⟩;cases j with
     |zero=>
      simp only[Dg,Af]at hj;subst hj;refine⟨_,rfl,?_,λB0 h0=>by rw[An]at h0;cases h0⟩;have Bk:plOf E i=.row (.slice Ye 0 0) []:=by simp[plOf,An]
      rw[Bk];exact⟨⟨.slice Ye 0 0,[],⟨_,[],[],rfl,rfl,World.ownsRow_nil _ _ _ _,rfl,rfl⟩,rfl,by simp⟩,by simp⟩
     |succ j=>obtain⟨B,h3,h4⟩:=Eb j k (by simpa using hj);exact⟨B,by simpa [mkB]using h3,h4⟩
   ·cases hp
 |.map t k v vg::r,is,y,AH,hp=>by
  cases is with
  |nil=>simp[CS]at hp
  |cons i is=>
   have Df:Rows E E.bl E'.ok (EH E.bl r is):=AH;simp only[CS]at hp;split at hp
   ·rename_i t' k' v' RM l An
    cases ht:(Ym t t'&&(vg==RM))with
    |false=>rw[ht]at hp;cases hp
    |true=>
     obtain⟨JA,Py⟩:=andB ht;have:=At JA;subst this;have:vg=RM:=by simpa using Py
     subst this;simp only[ht,Ao]at hp;split at hp
     ·rename_i he
      subst he;split at hp
      ·rename_i he
       subst he;split at hp
       ·cases hp
       ·rename_i z h2
        simp only[Af]at hp;subst hp;obtain⟨hl,Eb⟩:=Li hb hw BM hr Hb Df h2;refine⟨by simp[hl],λj k hj=>?_⟩;cases j with
        |zero=>
         simp only[Dg,Af]at hj;subst hj;refine⟨_,rfl,?_,λB0 h0=>by rw[An]at h0;injection h0 with h0;subst h0;rfl⟩;obtain⟨p,CB,hB⟩:=hb i _ An;have Bk:plOf E i=p:=by simp[plOf,An,CB]
         rw[Bk];cases p with
         |row _ _=>exact hB.elim
         |cells g=>
          obtain⟨es,Ch,h3,h4⟩:=hB;refine⟨es,Ch,by rw[hw];exact h3,h4.mono (λx u hu=>?_) (λx u hu=>?_)⟩
          ·rw[hw]
           exact hu.mono λg hg _=>⟨Hb g hg,rfl⟩
          ·rw[hw]
           exact hu.mono λg hg _=>⟨Hb g hg,rfl⟩
        |succ j=>obtain⟨B,h3,h4⟩:=Eb j k (by simpa using hj);exact⟨B,by simpa [mkB]using h3,h4⟩
      ·cases hp
     ·cases hp
   ·cases hp
 |.fmap t l::r,is,y,AH,hp=>by
  cases is with
  |nil=>simp[CS]at hp
  |cons i is=>
   have Df:Rows E E.bl E'.ok (EH E.bl r is):=AH;simp only[CS]at hp;split at hp
   ·rename_i t' l' An
    cases ht:(Ym t t'&&fEq ids l l')with
    |false=>rw[ht]at hp;cases hp
    |true=>
     rw[ht,Ao]at hp;obtain⟨JA,Py⟩:=andB ht;have:=At JA;subst this;obtain⟨hl,Eb⟩:=Li hb hw BM hr Hb Df hp;refine⟨by simp[hl],λj k hj=>?_⟩;cases j with
     |zero=>
      simp only[Dg,Af]at hj;subst hj;refine⟨_,rfl,?_,λB0 h0=>by rw[An]at h0;injection h0 with h0;subst h0;rfl⟩;obtain⟨p,CB,hB⟩:=hb i _ An;have Bk:plOf E i=p:=by simp[plOf,An,CB]
      rw[Bk];cases p with
      |row _ _=>exact hB.elim
      |cells g=>
       obtain⟨es,Ch,hh,hm⟩:=hB;refine⟨es,Ch,by rw[hw];exact hh,?_⟩
       have key:∀{l l':Ya (Ya Yl×(Y6×Yk))}{es:Ya MapEntry},fEq ids l l'=Yo->FRep E l' es->FRep E' (fIds AZ l) es:=by
        intro l
        induction l with
        |nil=>intro l' es he h;cases l' with
         |nil=>exact h
         |cons _ _=>cases he
        |cons x l ih=>
         intro l' es he h;cases l' with
         |nil=>cases he
         |cons z l'=>
          obtain⟨wF,GD⟩:=andB (show((Yf (x.1=z.1)&&(Ym x.2.1 z.2.1&&(match ids[x.2.2]? with|some i=>Ym i z.2.2|none=>Yc)))&&fEq ids l l')=Yo from he);obtain⟨wG,UH⟩:=andB wF;obtain⟨UH,UI⟩:=andB UH;have wG:=AC wG;have UH:=At UH;split at UI
          ·rename_i i' Jd
           have UI:=At UI;subst UI;obtain⟨e,r,g,q1,q2,q3,q4,q5⟩:=h;exact⟨e,r,g,q1,by rw[q2];show _=Value.string ⟨x.1.toArray⟩;rw[wG],hr.cells x.2.2 _ g Jd q3,by rw[q4];show _=Value.func (.func x.2.1) _ _;rw[UH],ih GD q5⟩
          ·cases UI
       exact key Py hm
     |succ j=>obtain⟨B,h3,h4⟩:=Eb j k (by simpa using hj);exact⟨B,by simpa [mkB]using h3,h4⟩
   ·cases hp
 |.cells t l::r,is,y,AH,hp=>by
  cases is with
  |nil=>simp[CS]at hp
  |cons i is=>
   simp only[CS]at hp;split at hp
   ·rename_i t' cs An
    cases ht:Ym t t' with
    |false=>rw[ht]at hp;cases hp
    |true=>
     have:=At ht;subst this;simp only[ht,Ao]at hp;split at hp
     ·cases hp
     ·rename_i y1 h1
      split at hp
      ·cases hp
      ·rename_i z h2
       simp only[Af]at hp;subst hp;have hrow:EH E.bl (.cells t l::r) (i::is)=FL l cs++EH E.bl r is:=by simp[EH,An]
       rw[hrow]at AH;obtain⟨hl,Eb⟩:=Li hb hw BM hr Hb (AH.sub λb DE=>Da _ DE) h2;refine⟨by simp[hl],λj k hj=>?_⟩;cases j with
       |zero=>
        simp only[Dg,Af]at hj;subst hj;refine⟨_,rfl,?_,λB0 h0=>by rw[An]at h0;injection h0 with h0;subst h0;rfl⟩;obtain⟨p,CB,hB⟩:=hb i _ An;have Bk:plOf E i=p:=by simp[plOf,An,CB]
        rw[Bk];cases p with
        |row _ _=>exact hB.elim
        |cells g=>obtain⟨vs,hh,Bn⟩:=hB;refine⟨vs,by rw[hw];exact hh,?_⟩;exact GA hb hw hr (AH.sub λb DE=>CI _ DE) Bn h1
       |succ j=>obtain⟨B,h3,h4⟩:=Eb j k (by simpa using hj);exact⟨B,by simpa [mkB]using h3,h4⟩
   ·cases hp
theorem Ab1{E:Env}{tm:Ya (Yk×V)}{tmps:YX Yp}(h:∀t v,look tm t=Yd v->VRep E v (tmps.getD t undef)):∀{l:Ya Yk}{vs:Ya V},Qt tm l=Yd vs->VReps E vs (l.map λt=>tmps.getD t undef)
 |[],vs,hl=>by simp only[Qt,Af]at hl;subst hl;rfl
 |t::l,vs,hl=>by
  simp only[Qt]at hl;split at hl
  ·rename_i v hv
   split at hl
   ·rename_i Av Ck
    simp only[Af]at hl;subst hl;exact⟨_,_,rfl,h t v hv,Ab1 h Ck⟩
   ·cases hl
  ·cases hl
theorem Ab2{E:Env}{ids:Ya Yk}{tmps:YX Yp}:∀{slots:Ya Yk}{l:Ya (Ys×Ya CT)}{x:ST.dens l},TReps E (mkS ids l x) (slots.map λt=>tmps.getD t undef)->∀t v,look (mkT ids slots l x) t=Yd v->VRep E v (tmps.getD t undef)
 |[],_,_,_,t,v,h=>by simp[mkT,Fx,EG]at h
 |_::_,[],_,_,t,v,h=>by simp[mkT,Fx,EG]at h
 |s::ss,p::l,x,hr,t,v,h=>by
  obtain⟨u,us,e,h1,h2⟩:=hr;simp only[CP,CK]at e;obtain⟨e1,e2⟩:=e;subst e1 e2;simp only[mkT,Fx,EG]at h;by_cases H7:t=s
  ·subst H7
   rw[LO,Ao,Af]at h;subst h;exact VRep.mk h1
  ·rw[IE H7,BU]at h
   exact Ab2 h2 t v h
theorem Ab3:∀{a b:Ya Yk},Oo a b=Yo->a=b
 |[],[],_=>rfl
 |x::r,y::s,h=>by simp only[Oo,CO]at h;rw[At h.1,Ab3 h.2]
 |[],_::_,h=>by simp[Oo]at h
 |_::_,[],h=>by simp[Oo]at h
def BT.stands(B:Yb Blk)(B':Blk):BT->Prop
 |.row t e=>B=Ye\/∃ver l,B=Yd (.row t e ver l)
 |.tree t e=>B=Ye\/∃ver Am l,B=Yd (.tree t e ver Am Ye l)/\B'=.tree t e 0 0 Ye l
 |_=>∀t e ver Am h l,B'≠.tree t e ver Am h l
theorem hU{bl:Yk->Yb Blk}{ids:Ya Yk}(ids2:Ya Yk){t:BT}{r:Ya BT}{i:Yk}{js:Ya Yk}{y:BT.dens (t::r)}(h:CS bl ids (t::r) (i::js)=Yd y):(∃z,CS bl ids r js=Yd z/\∃B',mkB ids2 (t::r) y=B'::mkB ids2 r z/\BT.stands (bl i) B' t)/\∀B,bl i=Yd B->B.live=Yo:=by
 cases t with
 |cells t l=>
  simp only[CS]at h;split at h
  ·rename_i t' cs hb
   cases ht:Ym t _ with
   |false=>rw[ht]at h;cases h
   |true=>
    rw[ht,Ao]at h;split at h
    ·cases h
    ·split at h
     ·cases h
     ·rename_i z hz
      simp only[Af]at h;subst h;exact⟨⟨z,hz,_,rfl,λ_ _ _ _ _ _ h=>by cases h⟩,λB hB=>by rw[hb]at hB;injection hB with hB;subst hB;rfl⟩
  ·cases h
 |row t e=>
  simp only[CS]at h;split at h
  ·rename_i t' e' ver l hb
   cases ht:Ym t t' with
   |false=>rw[ht]at h;cases h
   |true=>
    rw[ht,Ao]at h;split at h
    ·rename_i he
     subst he;have:=At ht;subst this;split at h
     ·cases h
     ·rename_i z hz
      simp only[Af]at h;subst h;exact⟨⟨z,hz,_,rfl,.inr ⟨ver,l,hb⟩⟩,λB hB=>by rw[hb]at hB;injection hB with hB;subst hB;rfl⟩
    ·cases h
  ·rename_i hb
   split at h
   ·cases h
   ·rename_i z hz
    simp only[Af]at h;subst h;exact⟨⟨z,hz,_,rfl,.inl hb⟩,λB hB=>by rw[hb]at hB;cases hB⟩
  ·cases h
 |tree t e=>
  simp only[CS]at h;split at h
  ·rename_i t' e' ver Am l hb
   cases ht:Ym t t' with
   |false=>rw[ht]at h;cases h
   |true=>
    rw[ht,Ao]at h;split at h
    ·rename_i he
     subst he;have:=At ht;subst this;split at h
     ·cases h
     ·rename_i z hz
      simp only[Af]at h;subst h;exact⟨⟨z,hz,_,rfl,.inr ⟨ver,Am,l,hb,rfl⟩⟩,λB hB=>by rw[hb]at hB;injection hB with hB;subst hB;rfl⟩
    ·cases h
  ·rename_i hb
   split at h
   ·cases h
   ·rename_i z hz
    simp only[Af]at h;subst h;exact⟨⟨z,hz,_,rfl,.inl hb⟩,λB hB=>by rw[hb]at hB;cases hB⟩
  ·cases h
 |map t k v vg=>
  simp only[CS]at h;split at h
  ·rename_i t' k' v' RM l hb
   cases ht:(Ym t t'&&(vg==RM))with
   |false=>rw[ht]at h;cases h
   |true=>
    rw[ht,Ao]at h;split at h
    ·split at h
     ·split at h
      ·cases h
      ·rename_i z hz
       simp only[Af]at h;subst h;exact⟨⟨z,hz,_,rfl,λ_ _ _ _ _ _ h=>by cases h⟩,λB hB=>by rw[hb]at hB;injection hB with hB;subst hB;rfl⟩
     ·cases h
    ·cases h
  ·cases h
 |fmap t l=>
  simp only[CS]at h;split at h
  ·rename_i t' l' hb
   cases ht:(Ym t t'&&fEq ids l l')with
   |false=>rw[ht]at h;cases h
   |true=>rw[ht,Ao]at h;exact⟨⟨y,h,_,rfl,λ_ _ _ _ _ _ h=>by cases h⟩,λB hB=>by rw[hb]at hB;injection hB with hB;subst hB;rfl⟩
  ·cases h
 |mat t et e=>
  simp only[CS]at h;split at h
  ·rename_i t' U5 e' ver Am l hb
   cases ht:(Ym t t'&&Ym et U5)with
   |false=>rw[ht]at h;cases h
   |true=>
    rw[ht,Ao]at h;split at h
    ·split at h
     ·cases h
     ·rename_i z hz
      simp only[Af]at h;subst h;exact⟨⟨z,hz,_,rfl,λ_ _ _ _ _ _ h=>by cases h⟩,λB hB=>by rw[hb]at hB;injection hB with hB;subst hB;rfl⟩
    ·cases h
  ·rename_i hb
   split at h
   ·cases h
   ·rename_i z hz
    simp only[Af]at h;subst h;exact⟨⟨z,hz,_,rfl,λ_ _ _ _ _ _ h=>by cases h⟩,λB hB=>by rw[hb]at hB;cases hB⟩
  ·cases h
theorem hZ{bl:Yk->Yb Blk}{ids ids2:Ya Yk}:∀{is:Ya BT}{js:Ya Yk}{y:BT.dens is},CS bl ids is js=Yd y->js.length=is.length/\(∀i∈js,∀B,bl i=Yd B->B.live=Yo)/\∀(j i:Yk)(t e:_)(ver Am:Yk)(l:Ya e.ty.den)(t' e':_)(ver' By:Yk)(h':Yb Path)(l':Ya e'.ty.den),js[j]?=Yd i->bl i=Yd (.tree t e ver Am Ye l)->(mkB ids2 is y)[j]?=Yd (.tree t' e' ver' By h' l')->Blk.tree t' e' ver' By h' l'=.tree t e 0 0 Ye l
 |[],js,y,h=>by
  cases js with
  |nil=>exact⟨rfl,λi hi=>by simp at hi,λj i t e ver Am l t' e' ver' By h' l' hj=>by simp at hj⟩
  |cons _ _=>simp[CS]at h
 |t::is,[],y,h=>by cases t<;>simp[CS]at h
 |t::is,k::js,y,h=>by
  obtain⟨⟨z,hz,B',hB',hs⟩,hl⟩:=hU ids2 h;obtain⟨i1,i2,i3⟩:=hZ (ids2:=ids2) hz;refine⟨by simp[i1],λi hi B hB=>?_,λj i t0 e ver Am l t' e' ver' By h' l' hj hb hm=>?_⟩
  ·rcases Bg.1 hi with rfl|hi
   ·exact hl B hB
   ·exact i2 i hi B hB
  ·rw[hB']at hm
   cases j with
   |succ j=>exact i3 j i t0 e ver Am l t' e' ver' By h' l' (by simpa using hj) hb (by simpa using hm)
   |zero=>
    simp only[Dg,Af]at hj hm;subst hj hm;rw[hb]at hs;cases t with
    |tree t1 e1=>
     rcases hs with hs|⟨v1,v2,l1,hs,AP⟩
     ·cases hs
     ·injection hs with hs
      injection hs with q1 q2 q3 q4 q5 q6;subst q1 q2;simp only[Jj]at q6;subst q6;exact AP
    |row t1 e1=>rcases hs with hs|⟨_,_,hs⟩<;>cases hs
    |cells _ _=>exact Yw rfl (hs _ _ _ _ _ _)
    |map _ _ _ _=>exact Yw rfl (hs _ _ _ _ _ _)
    |mat _ _ _=>exact Yw rfl (hs _ _ _ _ _ _)
    |fmap _ _=>exact Yw rfl (hs _ _ _ _ _ _)
def envR{P:Yv}(ok0:OK0 P)(base:Yk)(pl:Yk->Yb Pl)(bl2 bl:Yk->Yb Blk)(w:Yx):Env:={w,ok:=λg=>(ok0 g\/(base<=g/\¬ok0.no g))/\¬Own pl bl2 g,base,pl,bl}
theorem Ab4{P:Yv}{is:Ya BT}{ids:Ya Yk}{y:BT.dens is}{ok0:OK0 P}{base:Yk}{pl:Yk->Yb Pl}{bl bl2:Yk->Yb Blk}{w:Yx}(hr:RelB ok0 base pl bl2 w)(AM:∀i B,bl i=Yd B->bl2 i=Yd B)(hy:CS bl ids is ids=Yd y){g:Yk}(ho:Own (λb=>(ids[b]?).map (plOf (envR ok0 base pl bl2 bl w))) (fnBl (mkB (AD 0 is.length) is y)) g):Own pl bl2 g:=by
 obtain⟨b,B,p,_,_,hp,hg⟩:=ho;cases hb:ids[b]? with
 |none=>simp[hb]at hp
 |some i=>
  simp only[hb,Ft,Af]at hp;cases C9:bl i with
  |none=>
   have:plOf (envR ok0 base pl bl2 bl w) i=.row (.slice Ye 0 0) []:=by simp[plOf,envR,C9]
   rw[this]at hp;subst hp;have hg:=Pl.has_row hg;simp[Yae]at hg
  |some B=>
   obtain⟨q,hq,_⟩:=hr.blks i B (AM i B C9);have:plOf (envR ok0 base pl bl2 bl w) i=q:=by simp[plOf,envR,C9,hq]
   rw[this]at hp;subst hp;obtain⟨_,Ib,_⟩:=hZ (ids2:=AD 0 is.length) hy;exact⟨i,B,q,AM i B C9,Ib i (CN hb) B C9,hq,hg⟩
theorem Ab5{P:Yv}{ps:Ya (Ys×Ya CT)}{is:Ya BT}{ids:Ya Yk}{vs:Ya V}{us:Ya Yp}{x:ST.dens ps}{y:BT.dens is}{ok0 ok1:OK0 P}{base:Yk}{pl:Yk->Yb Pl}{bl bl2:Yk->Yb Blk}{w:Yx}(hr:RelB ok0 base pl bl2 w)(AM:∀i B,bl i=Yd B->bl2 i=Yd B)(GF:∀i∈ids,bl i=Ye->bl2 i=Ye)(hx:GP bl ids ps vs=Yd x)(hy:CS bl ids is ids=Yd y)(c3:ids.Nodup)(c4:∀b∈FX ps vs++EH bl is ids,b∉ids)(Ck:VReps (envR ok0 base pl bl2 bl w) vs us)(k1:∀g,(ok0 g\/(base<=g/\¬ok0.no g))->¬Own pl bl2 g->(ok1 g\/(base<=g/\¬ok1.no g)))(k2:FX ps vs++EH bl is ids=[]\/ok1=ok0)(k3:∀g,ok1.no g->g<w.heap.size/\¬Own (λb=>(ids[b]?).map (plOf (envR ok0 base pl bl2 bl w))) (fnBl (mkB (AD 0 is.length) is y)) g)(k4:∀g,ok1.no g->ok0.no g\/Own pl bl2 g\/w.heap.size<=g):RelB ok1 base (λb=>(ids[b]?).map (plOf (envR ok0 base pl bl2 bl w))) (fnBl (mkB (AD 0 is.length) is y)) w/\TReps (Ak ok1 base (λb=>(ids[b]?).map (plOf (envR ok0 base pl bl2 bl w))) (fnBl (mkB (AD 0 is.length) is y)) w) (mkS (AD 0 is.length) ps x) us/\ids.length=is.length/\(∀i∈ids,∀B,bl i=Yd B->B.live=Yo)/\(∀g,Own (λb=>(ids[b]?).map (plOf (envR ok0 base pl bl2 bl w))) (fnBl (mkB (AD 0 is.length) is y)) g->∃i B p,i∈ids/\bl i=Yd B/\B.live=Yo/\pl i=Yd p/\p.has g):=by
 let E:Env:=(envR ok0 base pl bl2 bl w)
 let plv:Yk->Yb Pl:=λb=>(ids[b]?).map (plOf E)
 let blv:Yk->Yb Blk:=fnBl (mkB (AD 0 is.length) is y)
 let Ev:Env:=Ak ok1 base plv blv w
 have F5:Ext (Ak ok0 base pl bl2 w) E:=⟨Aw _,λg h _=>⟨h,rfl⟩,λ_ _ h=>h,λb sv Ab h=>⟨sv,Ab,h,KeepR.of_eq (λC hC=>AM b C hC) _ _⟩⟩
 have Mv:Eg E:=λi B hB=>by obtain⟨p,hp,hB2⟩:=hr.blks i B (AM i B hB);exact⟨p,hp,BRep.mono F5 hB2 λ_ _=>rfl⟩
 have R4:∀b p g,plv b=Yd p->p.has g->∃i B,ids[b]?=Yd i/\bl i=Yd B/\pl i=Yd p:=by
  intro b p g hp hg;cases hb:ids[b]? with
  |none=>simp[plv,hb]at hp
  |some i=>
   simp only[plv,hb,Ft,Af]at hp;cases C9:bl i with
   |none=>
    have:plOf E i=.row (.slice Ye 0 0) []:=by simp[plOf,E,envR,C9]
    rw[this]at hp;subst hp;have hg:=Pl.has_row hg;simp[Yae]at hg
   |some B=>
    obtain⟨q,hq,_⟩:=hr.blks i B (AM i B C9);have:plOf E i=q:=by simp[plOf,E,envR,C9,hq]
    rw[this]at hp;subst hp;exact⟨i,B,rfl,C9,hq⟩
 obtain⟨AK,Ib,htreeB⟩:=hZ (ids2:=AD 0 is.length) hy
 have Ah:∀g,Own plv blv g->∃i B p,i∈ids/\bl i=Yd B/\B.live=Yo/\pl i=Yd p/\p.has g:=by rintro g ⟨b,B,p,hB,hl,hp,hg⟩;obtain⟨i,B',h1,h2,h3⟩:=R4 b p g hp hg;have hi:=CN h1;exact⟨i,B',p,hi,h2,Ib i hi B' h2,h3,hg⟩
 have EZ:∀g,Own plv blv g->Own pl bl2 g:=λg h=>by obtain⟨i,B,p,_,h1,h2,h3,h4⟩:=Ah g h;exact⟨i,B,p,AM _ _ h1,h2,h3,h4⟩
 have BS:∀g,E.ok g->Ev.ok g:=λg h=>⟨k1 g h.1 h.2,λho=>h.2 (EZ g ho)⟩
 have key1:∀g b B p,b∈FX ps vs++EH bl is ids->bl2 b=Yd B->B.live=Yo->pl b=Yd p->p.has g->base<=g->(ok1 g\/(base<=g/\¬ok1.no g)):=λg b B p hb hB hl hp hg OY=>by
  rcases k2 with h|h
  ·rw[h]at hb;cases hb
  ·rw[h];exact .inr ⟨OY,λhn=>(hr.glob.no g hn).2 ⟨b,B,p,hB,hl,hp,hg⟩⟩
 have NG:∀l:Ya Yk,(∀b∈l,b∈FX ps vs++EH bl is ids)->Rows E E.bl Ev.ok l:=λl EN=>⟨BS,λb hb t e ver l' DW=>⟨DW,λsv g Au hg=>by
  have BN:bl2 b=Yd (.row t e ver l'):=AM _ _ DW;have Dk:pl b=Yd (.row sv []):=Au;refine⟨key1 g b _ _ (EN b hb) BN rfl Dk (.inl hg) ?_,λho=>?_⟩
  ·obtain⟨p,hp,hB⟩:=hr.blks b _ BN
   rw[Dk]at hp;injection hp with hp;subst hp;obtain⟨_,xs,_,ho⟩:=hB;rcases ho.2 with⟨h1,_⟩|⟨g',cap,AI,h1,h2,_⟩
   ·rw[h1]at hg;simp[Yae]at hg
   ·rw[h1]at hg
    simp only[Yae,Af]at hg;subst hg;exact h2
  ·obtain⟨i,B,p,hi,h1,h2,h3,h4⟩:=Ah g ho
   have Az:i≠b:=by rintro rfl;exact c4 i (EN i hb) hi
   exact hr.sep i b _ _ p (.row sv []) g Az (AM _ _ h1) BN h2 rfl h3 Dk h4 (.inl hg)⟩,λb hb t et e ver Am hole l' DW=>⟨DW,λsv Ab g Au hg=>by
  have BN:bl2 b=Yd (.mat t et e ver Am hole l'):=AM _ _ DW;have Dk:pl b=Yd (.row sv Ab):=Au;refine⟨key1 g b _ _ (EN b hb) BN rfl Dk hg ?_,λho=>?_⟩
  ·obtain⟨p,hp,hB⟩:=hr.blks b _ BN
   rw[Dk]at hp;injection hp with hp;subst hp;have hM:MatOk (Ak ok0 base pl bl2 w) t et e hole l' sv Ab:=hB;rcases hg with hg|⟨k,s,Alo,hg⟩
   ·obtain⟨vs,h1,_⟩:=hM.outer
    exact(h1.lt g hg).1
   ·have Ae:k<l'.length:=by rw[<-hM.len];exact(Do.1 Alo).1
    obtain⟨xs,_,h2⟩:=hM.inner k s l'[k] Alo (C0 Ae);exact(h2.lt g hg).1
  ·obtain⟨i,B,p,hi,h1,h2,h3,h4⟩:=Ah g ho
   have Az:i≠b:=by rintro rfl;exact c4 i (EN i hb) hi
   exact hr.sep i b _ _ p (.row sv Ab) g Az (AM _ _ h1) BN h2 rfl h3 Dk h4 hg⟩,λb hb t e ver Am hole l' DW=>⟨DW,λsv Ab g Au hg=>by
  have BN:bl2 b=Yd (.tree t e ver Am hole l'):=AM _ _ DW;have Dk:pl b=Yd (.row sv Ab):=Au;refine⟨key1 g b _ _ (EN b hb) BN rfl Dk hg (gG hr BN rfl Dk hg).1,λho=>?_⟩;obtain⟨i,B,p,hi,h1,h2,h3,h4⟩:=Ah g ho;have Az:i≠b:=by rintro rfl;exact c4 i (EN i hb) hi
  exact hr.sep i b _ _ p (.row sv Ab) g Az (AM _ _ h1) BN h2 rfl h3 Dk h4 hg⟩⟩
 have Vs:Ren E Ev ids (AD 0 is.length):=by
  have key:∀b i,ids[b]?=Yd i->Ev.pl ((AD 0 is.length).getD b 0)=Yd (plOf E i):=by
   intro b i hi;have Ae:b<is.length:=by rw[<-AK];exact(Do.1 hi).1
   rw[Oj Ae];simp[Ev,Ak,plv,hi]
  refine⟨λb i g hi h=>?_,λb i sv Ab t e ver l hi hb h=>?_,λb i sv Ab t et e ver Am hole l hi hb h=>?_,λb i sv Ab t e ver Am l hi hb h=>?_,λb i t e ver Am l t' e' ver' By h' l' hi An DW=>?_,λb i hi h=>?_⟩
  ·rw[key b i hi]
   have h':pl i=Yd (.cells g):=h;cases C9:bl i with
   |none=>rw[hr.fresh i (GF i (CN hi) C9)]at h';cases h'
   |some B=>simp[plOf,E,envR,C9,h']
  ·rw[key b i hi]
   have h':pl i=Yd (.row sv Ab):=h;have Ay:bl i=Yd _:=hb;simp[plOf,E,envR,Ay,h']
  ·rw[key b i hi]
   have h':pl i=Yd (.row sv Ab):=h;have Ay:bl i=Yd _:=hb;simp[plOf,E,envR,Ay,h']
  ·rw[key b i hi]
   have h':pl i=Yd (.row sv Ab):=h;have Ay:bl i=Yd _:=hb;simp[plOf,E,envR,Ay,h']
  ·have Ae:b<is.length:=by rw[<-AK];exact(Do.1 hi).1
   rw[Oj Ae]at DW;exact htreeB b i t e ver Am l t' e' ver' By h' l' hi An DW
  ·rw[key b i hi]
   have h':bl i=Ye:=h;simp[plOf,E,envR,h']
 have hS:=hP Mv (show Ev.w=E.w from rfl) Vs (NG _ λb hb=>CI _ hb) Ck hx;obtain⟨_,hB⟩:=Li Mv (show Ev.w=E.w from rfl) rfl Vs BS (NG _ λb hb=>Da _ hb) hy;refine⟨⟨hr.baseLe,λi B hBi=>?_,λi j B C p q g Du hBi hCj hl hlC hp hq C7 Bh=>?_,λi hi=>?_,⟨hr.glob.g0.gen (Aw _) (λg _ h1 _=>⟨rfl,λq=>h1 (EZ g q)⟩) k4,k3⟩⟩,hS,AK,Ib,Ah⟩
 ·have Ae:i<ids.length:=by have:=(Do.1 (show(mkB (AD 0 is.length) is y)[i]?=Yd B from hBi)).1;rw[G9]at this;omega
  obtain⟨B',h1,h2,_⟩:=hB i ids[i] (C0 Ae);have h4:(mkB (AD 0 is.length) is y)[i]?=Yd B:=hBi;rw[h1]at h4;injection h4 with h4;subst h4;exact⟨plOf E ids[i],by simp[C0 Ae,E],h2⟩
 ·obtain⟨i',B',h1,h2,h3⟩:=R4 i p g hp C7
  obtain⟨j',C',h4,h5,h6⟩:=R4 j q g hq Bh
  have Az:i'≠j':=by rintro rfl;have q1:=Kr c3 h1;have q2:=Kr c3 h4;rw[q1]at q2;injection q2 with q2;exact Du q2
  exact hr.sep i' j' B' C' p q g Az (AM _ _ h2) (AM _ _ h5) (Ib i' (CN h1) B' h2) (Ib j' (CN h4) C' h5) h3 h6 C7 Bh
 ·have OY:ids.length<=i:=by have h1:(mkB (AD 0 is.length) is y)[i]?=Ye:=hi;rw[PC,G9]at h1;omega
  simp[MG OY]
theorem Ab6{P:Yv}{ps:Ya (Ys×Ya CT)}{is:Ya BT}{ids:Ya Yk}{vs:Ya V}{us:Ya Yp}{x:ST.dens ps}{y:BT.dens is}{ok0:OK0 P}{base:Yk}{pl:Yk->Yb Pl}{bl bl2:Yk->Yb Blk}{w:Yx}(hr:RelB ok0 base pl bl2 w)(AM:∀i B,bl i=Yd B->bl2 i=Yd B)(GF:∀i∈ids,bl i=Ye->bl2 i=Ye)(hx:GP bl ids ps vs=Yd x)(hy:CS bl ids is ids=Yd y)(c3:ids.Nodup)(c4:∀b∈FX ps vs++EH bl is ids,b∉ids)(Ck:VReps (envR ok0 base pl bl2 bl w) vs us):RelB ok0 base (λb=>(ids[b]?).map (plOf (envR ok0 base pl bl2 bl w))) (fnBl (mkB (AD 0 is.length) is y)) w/\TReps (Ak ok0 base (λb=>(ids[b]?).map (plOf (envR ok0 base pl bl2 bl w))) (fnBl (mkB (AD 0 is.length) is y)) w) (mkS (AD 0 is.length) ps x) us/\ids.length=is.length/\(∀i∈ids,∀B,bl i=Yd B->B.live=Yo)/\(∀g,Own (λb=>(ids[b]?).map (plOf (envR ok0 base pl bl2 bl w))) (fnBl (mkB (AD 0 is.length) is y)) g->∃i B p,i∈ids/\bl i=Yd B/\B.live=Yo/\pl i=Yd p/\p.has g):=
 Ab5 hr AM GF hx hy c3 c4 Ck (λ_ h _=>h) (.inr rfl) (λg hn=>⟨(hr.glob.no g hn).1,λho=>(hr.glob.no g hn).2 (Ab4 hr AM hy ho)⟩) λ_ h=>.inl h
theorem View.weaken{P:Yv}{n:Yk}{v:View}{σ:St}{d:v.den}(hd:v.read σ=Yd d){ok0:OK0 P}{base:Yk}{pl:Yk->Yb Pl}{a:Act}{w:Yx}(hr:Rel n ok0 base pl (look σ.tm) (look σ.bl) a w):∃plv,Rel n ok0 base plv (look (v.mk' d).tm) (look (v.mk' d).bl) a w/\StepM v.m pl (look σ.bl) w plv (look (v.mk' d).bl) w:=by
 unfold View.read at hd;split at hd
 ·cases hd
 rename_i vs Ck;split at hd
 ·cases hd
 rename_i ids _;split at hd
 ·cases hd
 rename_i x hx;split at hd
 ·cases hd
 rename_i y hy;cases hc:(YB v.m v.ins.length&&(Oo (ids.take v.m) (AD 0 v.m)&&(JI ids&&!meet (FX v.params vs++EH (look σ.bl) v.ins ids) ids)))with
 |false=>rw[hc]at hd;cases hd
 |true=>
  simp only[hc,Ao,Af]at hd;subst hd;obtain⟨c1,hc⟩:=andB hc;obtain⟨c2,hc⟩:=andB hc;obtain⟨c3,c4⟩:=andB hc;have c2:=Ab3 c2;simp only[PH]at c4;obtain⟨q1,q2,_,_,q5⟩:=Ab6 (bl:=look σ.bl) hr.rel (λ_ _ h=>h) (λ_ _ h=>h) hx hy (Qn c3) (WT.1 c4) (Ab1 hr.tmps Ck);rw[Qu];refine⟨_,⟨hr.defers,hr.size,λt v' ht=>Ab2 q2 t v' ht,q1⟩,rfl,rfl,rfl,Aw _,λg _ ho=>⟨rfl,λh=>?_⟩,λb g hb hp=>?_,λb sv Ab hb hp=>?_⟩
  ·obtain⟨i,B,p,_,h1,h2,h3,h4⟩:=q5 g h
   exact ho ⟨i,B,p,h1,h2,h3,h4⟩
  all_goals
   have Hy:ids[b]?=Yd b:=by
    have h1:(ids.take v.m)[b]?=Yd b:=by rw[c2];simpa using fZ (n:=v.m) (s:=0) hb
    rwa [HA hb]at h1
  ·cases C9:look σ.bl b with
   |none=>rw[hr.rel.fresh b C9]at hp;cases hp
   |some B=>simp[Hy,plOf,envR,C9,hp]
  ·cases C9:look σ.bl b with
   |none=>rw[hr.rel.fresh b C9]at hp;cases hp
   |some B=>exact⟨sv,Ab,by simp[Hy,plOf,envR,C9,hp]⟩
end
end Go.Lift
namespace Go.Lift
noncomputable section
open Go.RowKit
def eqE:AExit->AExit->Ys
 |.normal,.normal=>Yo
 |.exit a,.exit b=>Ym a b
 |.ret,.ret=>Yo
 |_,_=>Yc
theorem Ao0{a b:AExit}(h:eqE a b=Yo):a=b:=by cases a<;>cases b<;>simp only[eqE]at h<;>first|rfl|(cases h;done)|(rw[At h])
@[reducible] def Outs.den:Ya (AExit×View)->Type
 |[]=>Empty
 |x::r=>x.2.den⊕Outs.den r
@[reducible] def Outs.K(β:Type):Ya (AExit×View)->Type
 |[]=>Unit
 |x::r=>(x.2.den->Yb β)×Outs.K β r
def outK{β:Type}:(outs:Ya (AExit×View))->Outs.K β outs->Kx β
 |[],_,_,_=>Ye
 |x::r,ks,e,σ=>
  bif eqE e x.1 then
   match x.2.read σ with
   |some d=>ks.1 d
   |none=>Ye
  else outK r ks.2 e σ
def Outs.app{β:Type}:(outs:Ya (AExit×View))->Outs.K β outs->Outs.den outs->Yb β
 |_::_,ks,.inl d=>ks.1 d
 |_::r,ks,.inr o=>Outs.app r ks.2 o
def mkK{β:Type}(k:Kx β):(outs:Ya (AExit×View))->Outs.K β outs
 |[]=>()
 |x::r=>(λd=>k x.1 (x.2.mk' d),mkK k r)
def Fz:(outs:Ya (AExit×View))->Outs.den outs->AExit×St
 |x::_,.inl d=>(x.1,x.2.mk' d)
 |_::r,.inr o=>Fz r o
def SP{β:Type}(v:View)(g:v.den->Yb β)(outs:Ya (AExit×View))(kk:Outs.K β outs):Kx β
 |.normal,σ=>
  match v.read σ with
  |some d=>g d
  |none=>Ye
 |e,σ=>outK outs kk e σ
section
variable{P:Yv}{n m:Yk}
structure PieceOk (P:Yv) (n m:Yk) (c:Code) (v:View) (outs:Ya (AExit×View)) (G:{β:Type}->v.den->Outs.K β outs->Yb β):Prop where
 ok:∀{β:Type}(d:v.den)(kk:Outs.K β outs)(r:β),G d kk=Yd r->∃o,Outs.app outs kk o=Yd r/\
  ∀(ok0:OK0 P)(base:Yk)(pl:Yk->Yb Pl)(a:Act)(w:Yx),Rel n ok0 base pl (look (v.mk' d).tm) (look (v.mk' d).bl) a w->
   c.wp P (λe a' w'=>e=(Fz outs o).1.toExit/\∃Ac,Rel n ok0 base Ac (look (Fz outs o).2.tm) (look (Fz outs o).2.bl) a' w'/\StepM m pl (look (v.mk' d).bl) w Ac (look (Fz outs o).2.bl) w') a w
def WV(v:View)(outs:Ya (AExit×View))(G:{β:Type}->v.den->Outs.K β outs->Yb β):Cut:=
 ⟨λσ k=>
  match v.read σ with
  |some d=>G d (mkK k outs)
  |none=>Ye⟩
theorem Ab7{β:Type}{k:Kx β}:∀{outs:Ya (AExit×View)}(o:Outs.den outs),Outs.app outs (mkK k outs) o=k (Fz outs o).1 (Fz outs o).2
 |[],o=>o.elim
 |_::_,.inl _=>rfl
 |_::r,.inr o=>Ab7 (outs:=r) o
theorem Ao1{c:Code}{v:View}{outs:Ya (AExit×View)}{G:{β:Type}->v.den->Outs.K β outs->Yb β}(hv:v.m=m)(h:PieceOk P n m c v outs G):On P n m c (WV v outs G):=by
 intro β σ k r hr;simp only[WV]at hr;split at hr
 ·rename_i d hd
  obtain⟨o,ho,hw⟩:=h.ok d _ r hr;rw[Ab7]at ho;refine⟨_,_,ho,λok0 base pl a w B7=>?_⟩;obtain⟨plv,h1,h2⟩:=View.weaken hd B7;rw[hv]at h2;exact Dq (hw ok0 base plv a w h1) λe a' w' ⟨he,Ac,h3,h4⟩=>⟨he,Ac,h3,h2.trans h4⟩
 ·cases hr
theorem i6{β:Type}{r:β}{e:AExit}{σ:St}:∀{outs:Ya (AExit×View)}{kk:Outs.K β outs},(∀x∈outs,x.2.m=m)->outK outs kk e σ=Yd r->∃o,Outs.app outs kk o=Yd r/\(Fz outs o).1=e/\∀(ok0:OK0 P)(base:Yk)(pl:Yk->Yb Pl)(a:Act)(w:Yx),Rel n ok0 base pl (look σ.tm) (look σ.bl) a w->∃plv,Rel n ok0 base plv (look (Fz outs o).2.tm) (look (Fz outs o).2.bl) a w/\StepM m pl (look σ.bl) w plv (look (Fz outs o).2.bl) w
 |[],kk,_,h=>by simp[outK]at h
 |x::l,kk,hm,h=>by
  simp only[outK]at h;cases he:eqE e x.1 with
  |true=>
   rw[he,Ao]at h;split at h
   ·rename_i d hd
    refine⟨.inl d,h,(Ao0 he).symm,λok0 base pl a w hr=>?_⟩;have:=View.weaken hd hr;rw[hm x (by simp)]at this;exact this
   ·cases h
  |false=>rw[he,BU]at h;obtain⟨o,h1,h2,h3⟩:=i6 (λy hy=>hm y (by simp[hy])) h;exact⟨.inr o,h1,h2,h3⟩
theorem Ao2{β:Type}{r:β}{c:Code}{σ:St}{outs:Ya (AExit×View)}{kk:Outs.K β outs}(hm:∀x∈outs,x.2.m=m)(h:Sim P n m c σ (outK outs kk) r):∃o,Outs.app outs kk o=Yd r/\∀(ok0:OK0 P)(base:Yk)(pl:Yk->Yb Pl)(a:Act)(w:Yx),Rel n ok0 base pl (look σ.tm) (look σ.bl) a w->c.wp P (λe a' w'=>e=(Fz outs o).1.toExit/\∃Ac,Rel n ok0 base Ac (look (Fz outs o).2.tm) (look (Fz outs o).2.bl) a' w'/\StepM m pl (look σ.bl) w Ac (look (Fz outs o).2.bl) w') a w:=by
 obtain⟨e',σ',h1,h2⟩:=h;obtain⟨o,h3,h4,h5⟩:=i6 (n:=n) hm h1;refine⟨o,h3,λok0 base pl a w hr=>Dq (h2 ok0 base pl a w hr) λe a' w' ⟨he,Ac,AR,B3⟩=>?_⟩;obtain⟨plv,h6,h7⟩:=h5 ok0 base Ac a' w' AR;exact⟨by rw[he,h4],plv,h6,B3.trans h7⟩
theorem Ab8{outs:Ya (AExit×View)}(h:(outs.all λx=>Ym x.2.m m)=Yo):∀x∈outs,x.2.m=m:=λx hx=>At (NW.1 h x hx)
theorem Ao3(C5:P.follows .mixedOrders=Yo){X:Ctx}(hT:TOk P X.T)(hΓ:ΓOk P X.Γ){Λ:Yk->Yb Cut}{p:Yk}{c:Code}{v:View}{outs:Ya (AExit×View)}{G:{β:Type}->v.den->Outs.K β outs->Yb β}(hmB:(outs.all λx=>Ym x.2.m m)=Yo)(hΛ:∀q cut,Λ q=Yd cut->∀c'∈find q p c,On P n m c' cut)(h:∀{β:Type}(d:v.den)(kk:Outs.K β outs)(r:β),G d kk=Yd r->exec X n Λ p c (v.mk' d) (outK outs kk)=Yd r):PieceOk P n m c v outs G:=
 ⟨λd kk r hr=>Ao2 (Ab8 hmB) (gY C5 hT hΓ hΛ (h d kk r hr))⟩
theorem Ao4(C5:P.follows .mixedOrders=Yo){X:Ctx}(hT:TOk P X.T)(hΓ:ΓOk P X.Γ){Λ:Yk->Yb Cut}{p:Yk}{c:Code}{v:View}{outs:Ya (AExit×View)}{G:Yk->{β:Type}->v.den->Outs.K β outs->Yb β}(hv:v.m=m)(hmB:(outs.all λx=>Ym x.2.m m)=Yo)(hΛ:∀q cut,Λ q=Yd cut->∀c'∈find q p c,On P n m c' cut)(h0:∀{β:Type}(d:v.den)(kk:Outs.K β outs),G 0 d kk=Ye)(hs:∀(i:Yk){β:Type}(d:v.den)(kk:Outs.K β outs)(r:β),G (i+1) d kk=Yd r->exec X n Λ p c (v.mk' d) (SP v (λd'=>G i d' kk) outs kk)=Yd r):∀i,PieceOk P n m (.loop c) v outs (G i):=by
 have hm:=Ab8 hmB
 have key:∀(i:Yk){β:Type}(d:v.den)(kk:Outs.K β outs)(r:β),G i d kk=Yd r->∃o,Outs.app outs kk o=Yd r/\
   ∀(ok0:OK0 P)(base:Yk)(pl:Yk->Yb Pl)(a:Act)(w:Yx),Rel n ok0 base pl (look (v.mk' d).tm) (look (v.mk' d).bl) a w->
    Code.rounds P c (λe a' w'=>e=(Fz outs o).1.toExit/\∃Ac,Rel n ok0 base Ac (look (Fz outs o).2.tm) (look (Fz outs o).2.bl) a' w'/\StepM m pl (look (v.mk' d).bl) w Ac (look (Fz outs o).2.bl) w') i a w:=by
  intro i
  induction i with
  |zero=>intro β d kk r h;rw[h0]at h;cases h
  |succ i ih=>
   intro β d kk r h;obtain⟨e',σ',h1,h2⟩:=gY C5 hT hΓ hΛ (hs i d kk r h)
   have hb:(e'=.normal/\∃d',v.read σ'=Yd d'/\G i d' kk=Yd r)\/(e'≠.normal/\outK outs kk e' σ'=Yd r):=by
    cases e' with
    |normal=>
     simp only[SP]at h1;split at h1
     ·rename_i d' hd;exact .inl ⟨rfl,d',hd,h1⟩
     ·cases h1
    |exit id=>exact .inr ⟨λh=>(by cases h),h1⟩
    |ret=>exact .inr ⟨λh=>(by cases h),h1⟩
   rcases hb with⟨he,d',hd,hg⟩|⟨he,hk⟩
   ·subst he
    obtain⟨o,ho,hw⟩:=ih d' kk r hg;refine⟨o,ho,λok0 base pl a w hr=>?_⟩;rw[rounds_succ];refine Dq (h2 ok0 base pl a w hr) λe a' w' ⟨he,Ac,AR,B3⟩=>?_;subst he;obtain⟨plv,h6,h7⟩:=View.weaken hd AR;rw[hv]at h7
    have Hb:∀(j:Yk){Q Q':Exit->Act->Yx->Prop}{a:Act}{w:Yx},(∀e a w,Q e a w->Q' e a w)->Code.rounds P c Q j a w->Code.rounds P c Q' j a w:=by
     intro j
     induction j with
     |zero=>intro _ _ _ _ _ h;exact h
     |succ j ihj=>
      intro Q Q' a w hq h;rw[rounds_succ]at h⊢;refine Dq h λe a w h=>?_;cases e with
      |normal=>exact ihj hq h
      |_=>exact hq _ _ _ h
    exact Hb i (λe a2 w2 ⟨q1,pl2,q2,q3⟩=>⟨q1,pl2,q2,(B3.trans h7).trans q3⟩) (hw ok0 base plv a' w' h6)
   ·obtain⟨o,h3,h4,h5⟩:=i6 (n:=n) hm hk
    refine⟨o,h3,λok0 base pl a w hr=>?_⟩;rw[rounds_succ];refine Dq (h2 ok0 base pl a w hr) λe a' w' ⟨Kh,Ac,AR,B3⟩=>?_;obtain⟨plv,h6,h7⟩:=h5 ok0 base Ac a' w' AR;subst Kh
    have hQ:e'.toExit=(Fz outs o).1.toExit/\∃Ac,Rel n ok0 base Ac (look (Fz outs o).2.tm) (look (Fz outs o).2.bl) a' w'/\StepM m pl (look (v.mk' d).bl) w Ac (look (Fz outs o).2.bl) w':=
     ⟨by rw[h4],plv,h6,B3.trans h7⟩
    cases e' with
    |normal=>exact Yw rfl he
    |exit id=>exact hQ
    |ret=>exact hQ
 refine λi=>⟨λ{β} d kk r h=>?_⟩;obtain⟨o,ho,hw⟩:=key i d kk r h;exact⟨o,ho,λok0 base pl a w hr=>wp_loop_rounds i (hw ok0 base pl a w hr)⟩
def vIn(S:Spec):View:={m:=S.ins.length,slots:=AD 0 S.params.length,params:=S.params,ins:=S.ins}
inductive RS where
 |tmp (t:Yk)
 |cell (a:Yk) (t:Yq)
def RS.toVar:RS->ResultVar
 |.tmp t=>.tmp t
 |.cell a t=>.cell a t
def i7(T:Yq->Yb TI)(tm:Ya (Yk×V))(bl:Ya (Yk×Blk)):RS->Yb V
 |.tmp t=>look tm t
 |.cell a t=>
  match T t with
  |none=>Ye
  |some ti=>
   bif ti.agg||Ym ti.size 1 then
    match look tm a with
    |some (.c (.ptr b o))=>
     match look bl b with
     |some (.cells _ cs)=>
      match sub cs o ti.size with
      |some rc=>Yd (V.mk ti.agg rc)
      |none=>Ye
     |_=>Ye
    |_=>Ye
   else Ye
def HG(T:Yq->Yb TI)(tm:Ya (Yk×V))(bl:Ya (Yk×Blk)):Ya RS->Yb (Ya V)
 |[]=>Yd []
 |x::r=>
  match i7 T tm bl x with
  |none=>Ye
  |some v=>
   match HG T tm bl r with
   |none=>Ye
   |some vs=>Yd (v::vs)
def numV:Yk->Ya V->Ya (Yk×V)
 |_,[]=>[]
 |i,v::r=>(i,v)::numV (i+1) r
def vRes(S:Spec):View:={m:=S.ins.length,slots:=AD 0 S.res.length,params:=S.res,ins:=S.outs}
def Qv{β:Type}(T:Yq->Yb TI)(S:Spec)(rs:Ya RS)(k:ST.dens S.res×BT.dens S.outs->Yb β)(σ:St):Yb β:=
 match HG T σ.tm σ.bl rs with
 |none=>Ye
 |some vs=>
  match(vRes S).read ⟨numV 0 vs,σ.bl,σ.nx⟩with
  |some y=>k y
  |none=>Ye
def retK{β:Type}(T:Yq->Yb TI)(S:Spec)(rs:Ya RS)(k:ST.dens S.res×BT.dens S.outs->Yb β):Kx β
 |.exit _,_=>Ye
 |.normal,σ=>Qv T S rs k σ
 |.ret,σ=>Qv T S rs k σ
theorem i8{E:Env}{ids:Ya Yk}{tmps:YX Yp}:∀{l:Ya (Ys×Ya CT)}{x:ST.dens l}{us:Ya Yp}{s:Yk},TReps E (mkS ids l x) us->(∀j,j<us.length->tmps.getD (s+j) undef=us.getD j undef)->∀t v,look (mkT ids (AD s l.length) l x) t=Yd v->VRep E v (tmps.getD t undef)
 |[],_,_,s,_,_,t,v,h=>by simp[mkT,AD,Fx,EG]at h
 |p::l,x,us,s,hr,hg,t,v,h=>by
  obtain⟨u,Cf,e,h1,h2⟩:=hr;subst e;simp only[Be,AD,mkT,Fx,EG]at h;by_cases H7:t=s
  ·subst H7
   rw[LO,Ao,Af]at h;subst h;have:=hg 0 (by simp);simp only[Ybf,List.getD_cons_zero]at this;rw[this];exact VRep.mk h1
  ·rw[IE H7,BU]at h
   refine i8 h2 (λj hj=>?_) t v h;have:=hg (j+1) (by simpa using hj);rw[show s+1+j=s+(j+1) by omega,this];simp
theorem TReps.length{E:Env}:∀{ts:Ya (Ys×Ya C)}{vs:Ya Yp},TReps E ts vs->vs.length=ts.length
 |[],vs,h=>by simp only[TReps]at h;simp[h]
 |_::ts,vs,⟨_,_,e,_,h⟩=>by rw[e,Be,Be,TReps.length h]
theorem iA{ids:Ya Yk}:∀{l:Ya (Ys×Ya CT)}{x:ST.dens l},(mkS ids l x).length=l.length
 |[],_=>rfl
 |_::l,x=>by simp[mkS,iA (l:=l)]
def CT.count:Ya CT->Yk
 |[]=>0
 |.data τ::r=>τ.size+CT.count r
 |_::r=>CT.count r+1
def ST.tidy:Ya (Ys×Ya CT)->Ys
 |[]=>Yo
 |p::r=>(p.1||Ym (CT.count p.2) 1)&&ST.tidy r
theorem Io{ids:Ya Yk}:∀{l:Ya CT}{x:CT.dens l},(mkC ids l x).length=CT.count l
 |[],_=>rfl
 |.data τ::l,x=>by simp[mkC,CT.count,fG,Io (l:=l)]
 |.ptr _ _::l,x=>by simp[mkC,CT.count,Io (l:=l)]
 |.rowh _::l,x=>by simp[mkC,CT.count,Io (l:=l)]
 |.fn _ _::l,x=>by simp[mkC,CT.count,Io (l:=l)]
 |.maph _::l,x=>by simp[mkC,CT.count,Io (l:=l)]
 |.math _::l,x=>by simp[mkC,CT.count,Io (l:=l)]
 |.bself _::l,x=>by simp[mkC,CT.count,Io (l:=l)]
 |.bfnh _ _::l,x=>by simp[mkC,CT.count,Io (l:=l)]
 |.trowh _::l,x=>by simp[mkC,CT.count,Io (l:=l)]
 |.tptrh _ _ _::l,x=>by simp[mkC,CT.count,Io (l:=l)]
 |.nilc::l,x=>by simp[mkC,CT.count,Io (l:=l)]
 |.nils::l,x=>by simp[mkC,CT.count,Io (l:=l)]
 |.lsome _::l,x=>by simp[mkC,CT.count,Io (l:=l)]
 |.junk::l,x=>by simp[mkC,CT.count,Io (l:=l)]
theorem Ab9{ids:Ya Yk}:∀{slots:Ya Yk}{l:Ya (Ys×Ya CT)}{x:ST.dens l}{t:Yk}{v:V},look (mkT ids slots l x) t=Yd v->t∈slots
 |[],_,_,t,v,h=>by simp[mkT,Fx,EG]at h
 |_::_,[],_,t,v,h=>by simp[mkT,Fx,EG]at h
 |s::ss,p::l,x,t,v,h=>by
  simp only[mkT,Fx,EG]at h;by_cases H7:t=s
  ·simp[H7]
  ·rw[IE H7,BU]at h
   exact E6 _ (Ab9 h)
theorem iB{E:Env}{ids:Ya Yk}{tmps:YX Yp}:∀{slots:Ya Yk}{l:Ya (Ys×Ya CT)}{x:ST.dens l},slots.length=l.length->(∀t v,look (mkT ids slots l x) t=Yd v->VRep E v (tmps.getD t undef))->slots.Nodup->ST.tidy l=Yo->TReps E (mkS ids l x) (slots.map λt=>tmps.getD t undef)
 |[],[],_,_,_,_,_=>rfl
 |[],_::_,_,hl,_,_,_=>by simp at hl
 |_::_,[],_,hl,_,_,_=>by simp at hl
 |s::ss,p::l,x,hl,h,hn,ht=>by
  obtain⟨t1,t2⟩:=andB (show((p.1||Ym (CT.count p.2) 1)&&ST.tidy l)=Yo from ht);obtain⟨n1,n2⟩:=La.1 hn;have h1:=h s (V.mk p.1 (mkC ids p.2 x.1)) (by simp[mkT,Fx,EG]);refine⟨_,_,rfl,?_,iB (by simpa using hl) (λt v hv=>h t v ?_) n2 t2⟩
  ·cases ha:p.1 with
   |true=>rw[ha]at h1;exact h1
   |false=>
    rw[ha]at h1 t1;simp only[Ko]at t1;have AK:=Io (ids:=ids) (l:=p.2) (x:=x.1);rw[At t1]at AK;show SRep E Yc (mkC ids p.2 x.1) _
    match hc:mkC ids p.2 x.1,AK with
    |[y],_=>rw[hc]at h1;exact⟨[_],⟨_,_,rfl,h1,rfl⟩,by simp⟩
  ·have:t∈ss:=Ab9 hv
   have Az:t≠s:=λe=>n1 (e▸this);rw[mkT,EG,IE Az,BU];exact hv
theorem VReps.length{E:Env}:∀{vs:Ya V}{us:Ya Yp},VReps E vs us->us.length=vs.length
 |[],us,h=>by simp only[VReps]at h;simp[h]
 |_::vs,us,⟨_,_,e,_,h⟩=>by rw[e,Be,Be,VReps.length h]
theorem VReps.get{E:Env}:∀{vs:Ya V}{us:Ya Yp}{s t:Yk}{v:V},VReps E vs us->look (numV s vs) t=Yd v->s<=t/\∃u,us[t-s]?=Yd u/\VRep E v u
 |[],us,s,t,v,h,hl=>by simp[numV,Fx,EG]at hl
 |x::vs,us,s,t,v,⟨u,Cf,e,h1,h2⟩,hl=>by
  simp only[numV,Fx,EG]at hl;by_cases H7:t=s
  ·subst H7
   rw[LO,Ao,Af]at hl;subst hl;exact⟨Aw _,u,by simp[e],h1⟩
  ·rw[IE H7,BU]at hl
   obtain⟨h3,u',h4,h5⟩:=VReps.get h2 hl;refine⟨by omega,u',?_,h5⟩;have h6:t-s=(t-(s+1))+1:=by omega
   rw[e,h6,Ee];exact h4
theorem Ao5{P:Yv}{n:Yk}{T:Yq->Yb TI}(hT:TOk P T){tm:Ya (Yk×V)}{bl:Ya (Yk×Blk)}{x:RS}{v:V}(hv:i7 T tm bl x=Yd v){ok0:OK0 P}{base:Yk}{pl:Yk->Yb Pl}{a:Act}{w:Yx}{blw:Yk->Yb Blk}(xR:∀b B,look bl b=Yd B->blw b=Yd B)(hr:Rel n ok0 base pl (look tm) blw a w):∃val,(match x.toVar with|.tmp t=>(pure (a.tmps.getD t undef):Sem Yp)|.cell b t=>do loadVar t (<-asAddr (a.tmps.getD b undef))).run P w=.ok val w/\VRep (Ak ok0 base pl blw w) v val:=by
 cases x with
 |tmp t=>exact⟨_,by simp only[RS.toVar,YO],hr.tmps t v hv⟩
 |cell b t=>
  simp only[i7]at hv;split at hv
  ·cases hv
  rename_i ti ht;obtain⟨i,d,z,f⟩:=hT.facts ht;cases h1:(ti.agg||Ym ti.size 1)with
  |false=>rw[h1]at hv;cases hv
  |true=>
   have BZ:ti.agg=Yo\/ti.size=1:=by
    rcases(Ik _ _).mp h1 with h|h
    ·exact .inl h
    ·exact .inr (At h)
   simp only[h1,Ao]at hv;split at hv
   ·rename_i b' o hb
    split at hv
    ·rename_i t0 cs An
     split at hv
     ·rename_i rc AM
      simp only[Af]at hv;subst hv;obtain⟨g,hg,Bc⟩:=hr.tmps b _ hb;obtain⟨p,hp,hB⟩:=hr.rel.blks b' _ (xR _ _ An);have:p=.cells g:=by have h2:pl b'=Yd (.cells g):=hg;rw[hp]at h2;injection h2
      subst this;obtain⟨vs,hh,Bn⟩:=hB;obtain⟨s1,s2,s3⟩:=LV Bn AM;obtain⟨val,El,FR⟩:=Qi f s2 BZ (λj u hj=>SB hh hj) s1;refine⟨val,?_,FR⟩;simp only[RS.toVar,Bc,asAddr,pure_bind];exact El
     ·cases hv
    ·cases hv
   ·cases hv
theorem iC{P:Yv}{n:Yk}{T:Yq->Yb TI}(hT:TOk P T){fn:Func}{rs:Ya RS}(h:fn.results.toList=rs.map RS.toVar){tm:Ya (Yk×V)}{bl:Ya (Yk×Blk)}{vs:Ya V}(hv:HG T tm bl rs=Yd vs){ok0:OK0 P}{base:Yk}{pl:Yk->Yb Pl}{a:Act}{w:Yx}{blw:Yk->Yb Blk}(xR:∀b B,look bl b=Yd B->blw b=Yd B)(hr:Rel n ok0 base pl (look tm) blw a w):∃vals,(results fn a.tmps).run P w=.ok (Gk vals) w/\VReps (Ak ok0 base pl blw w) vs vals:=by
 have h':fn.results=(rs.map RS.toVar).toArray:=by apply HC;simpa using h
 let F:ResultVar->Sem Yp:=λx=>match x with|.tmp t=>pure (a.tmps.getD t undef)|.cell b t=>do loadVar t (<-asAddr (a.tmps.getD b undef))
 have hl:∀(rs:Ya RS)(vs:Ya V),HG T tm bl rs=Yd vs->∃vals,((rs.map RS.toVar).mapM F).run P w=.ok vals w/\VReps (Ak ok0 base pl blw w) vs vals:=by
  intro rs
  induction rs with
  |nil=>intro vs h;simp only[HG,Af]at h;subst h;exact⟨[],by simp,rfl⟩
  |cons x rs ih=>
   intro vs h;simp only[HG]at h;split at h
   ·cases h
   ·rename_i v El
    split at h
    ·cases h
    ·rename_i Av xZ
     simp only[Af]at h;subst h;obtain⟨val,h1,h2⟩:=Ao5 hT El xR hr;obtain⟨vals,h3,h4⟩:=ih Av xZ;refine⟨val::vals,?_,val,vals,rfl,h2,h4⟩;rw[CP,List.mapM_cons];simp only[YA];have BZ:(F x.toVar).run P w=.ok val w:=h1;rw[BZ];simp only[Y5];rw[h3];simp
 obtain⟨vals,h1,h2⟩:=hl rs vs hv;refine⟨vals,?_,h2⟩
 have hm:(fn.results.mapM F).run P w=.ok vals.toArray w:=by rw[h',List.mapM_toArray,map_eq_pure_bind,YA,h1];simp only[Y5,YO]
 have key:(results fn a.tmps).run P w=((fn.results.mapM F)>>=λvs=>pure (if h:vs.size=1 then vs[0]else .tuple vs)).run P w:=rfl;rw[key,YA,hm];simp only[Y5,YO];congr 1;cases vals with
 |nil=>simp[Gk]
 |cons s ss=>
  cases ss with
  |nil=>simp[Gk]
  |cons _ _=>simp[Gk]
theorem Aba{us:Ya Yp}:∀{l s:Yk}{pre:Ya Yp},pre.length=s->us.length=l->((AD s l).map λt=>(pre++us).toArray.getD t undef)=us:=by
 induction us with
 |nil=>intro l s pre hp hl;simp at hl;subst hl;rfl
 |cons u us ih=>
  intro l s pre hp hl;cases l with
  |zero=>simp at hl
  |succ l=>
   simp only[AD,CP,CK];refine⟨?_,?_⟩
   ·simp[EQ,<-hp]
   ·have:=ih (l:=l) (s:=s+1) (pre:=pre++[u]) (by simp[hp]) (by simpa using hl)
    simpa [C1]using this
structure SpecOkB (P:Yv) (f:Y6) (S:Spec):Prop where
 fn:∃fn,P.funcs[f]?=Yd fn/\(fn.name== "runtime.NumGoroutine")=Yc/\fn.body.isNone=Yc
 ok:∀{β:Type}(x:ST.dens S.params×BT.dens S.ins)(k:ST.dens S.res×BT.dens S.outs->Yb β)(r:β),S.run x k=Yd r->
  ∃y,k y=Yd r/\∀(ok0:OK0 P)(base:Yk)(pl:Yk->Yb Pl)(w:Yx)(args:Ya Yp),base<=w.heap.size->
   RelB ok0 base pl (fnBl (mkB (AD 0 S.ins.length) S.ins x.2)) w->
   TReps (Ak ok0 base pl (fnBl (mkB (AD 0 S.ins.length) S.ins x.2)) w) (mkS (AD 0 S.ins.length) S.params x.1) args->
   Calls P f args.toArray w λe w'=>∃vals Ac,e=.returned (Gk vals)/\
    RelB ok0 base Ac (fnBl (mkB (AD 0 S.outs.length) S.outs y.2)) w'/\
    StepM S.ins.length pl (fnBl (mkB (AD 0 S.ins.length) S.ins x.2)) w Ac (fnBl (mkB (AD 0 S.outs.length) S.outs y.2)) w'/\
    TReps (Ak ok0 base Ac (fnBl (mkB (AD 0 S.outs.length) S.outs y.2)) w') (mkS (AD 0 S.outs.length) S.res y.1) vals
theorem SpecOkB.spec{P:Yv}{f:Y6}{S:Spec}(h:SpecOkB P f S):SpecOk P f S:=
 ⟨h.fn,λx k r hr=>by obtain⟨y,hy,hc⟩:=h.ok x k r hr;exact⟨y,hy,λok0 pl w args B7 Ba=>hc ok0 w.heap.size pl w args (Aw _) B7 Ba⟩⟩
theorem WW{P:Yv}(C5:P.follows .mixedOrders=Yo){X:Ctx}(hT:TOk P X.T)(hΓ:ΓOk P X.Γ){Λ:Yk->Yb Cut}{S:Spec}{f:Y6}{fn:Func}{c:Code}{rs:Ya RS}(hf:P.funcs[f]?=Yd fn)(Iz:(fn.name== "runtime.NumGoroutine")=Yc)(hb:fn.body=Yd c)(H5:fn.results.toList=rs.map RS.toVar)(BS:(Ym rs.length S.res.length&&(ST.tidy S.res&&YB S.params.length fn.ntmps))=Yo)(hΛ:∀q cut,Λ q=Yd cut->∀c'∈find q 1 c,On P fn.ntmps S.ins.length c' cut)(h:∀{β:Type}(x:ST.dens S.params×BT.dens S.ins)(k:ST.dens S.res×BT.dens S.outs->Yb β)(r:β),S.run x k=Yd r->exec X fn.ntmps Λ 1 c ((vIn S).mk' x) (retK X.T S rs k)=Yd r):SpecOkB P f S:=by
 obtain⟨o2,BS⟩:=andB BS;obtain⟨o3,o4⟩:=andB BS;have o2:=At o2;have o4:=IC o4;refine⟨⟨fn,hf,Iz,by rw[hb];rfl⟩,λx k r hr=>?_⟩;obtain⟨e',σ',hk,hw⟩:=gY C5 hT hΓ (m:=S.ins.length) hΛ (h x k r hr)
 have Er:(e'=.normal\/e'=.ret)/\Qv X.T S rs k σ'=Yd r:=by
  cases e' with
  |normal=>exact⟨.inl rfl,hk⟩
  |ret=>exact⟨.inr rfl,hk⟩
  |exit id=>cases hk
 obtain⟨Kh,hk⟩:=Er;unfold Qv at hk;split at hk
 ·cases hk
 rename_i vs Ck;split at hk
 ·rename_i y hy
  refine⟨y,hk,λokk base pl w args _hbase B7 Ba=>?_⟩
  refine Calls.mono (R:=λe w'=>∃vals Ac,e=.returned (Gk vals)/\RelB (⟨okk.f,okk.no,[]⟩:OK0 P) base Ac (fnBl (mkB (AD 0 S.outs.length) S.outs y.2)) w'/\
    StepM S.ins.length pl (fnBl (mkB (AD 0 S.ins.length) S.ins x.2)) w Ac (fnBl (mkB (AD 0 S.outs.length) S.outs y.2)) w'/\
    TReps (Ak (⟨okk.f,okk.no,[]⟩:OK0 P) base Ac (fnBl (mkB (AD 0 S.outs.length) S.outs y.2)) w') (mkS (AD 0 S.outs.length) S.res y.1) vals) ?_ (λe w' ⟨vals,Ac,h1,h2,h3,h4⟩=>⟨vals,Ac,h1,h2.ds okk.ds,h3,h4⟩)
  have B7:=B7.ds [];have Ba:TReps (Ak (⟨okk.f,okk.no,[]⟩:OK0 P) base pl (fnBl (mkB (AD 0 S.ins.length) S.ins x.2)) w) (mkS (AD 0 S.ins.length) S.params x.1) args:=Ba;obtain⟨ok0,BS⟩:∃ok0:OK0 P,ok0=⟨okk.f,okk.no,[]⟩:=⟨_,rfl⟩;rw[<-BS]at B7 Ba⊢;have F4:ok0.ds=[]:=by rw[BS]
  have AK:args.length=S.params.length:=by rw[TReps.length Ba,iA]
  refine calls_of_wp hf hb ?_
  have Vw:Rel fn.ntmps ok0 base pl (look ((vIn S).mk' x).tm) (look ((vIn S).mk' x).bl) {tmps:=args.toArray++Ybk (fn.ntmps-args.toArray.size) undef,defers:=[]} w:=by have ebl:look ((vIn S).mk' x).bl=fnBl (mkB (AD 0 S.ins.length) S.ins x.2):=Qu (vIn S) x;rw[ebl];refine⟨F4.symm,by simp;omega,λt v ht=>?_,B7⟩;refine i8 (s:=0) Ba (λj hj=>?_) t v ht;simp only[CQ,EQ];rw[VT (by simpa using hj)];simp[Yn]
  refine Dq (hw ok0 base pl _ w Vw) λe a' w' ⟨he,Ac,AR,B3⟩=>?_;obtain⟨vals,AE,M5⟩:=iC hT H5 Ck (λ_ _ h=>h) AR
  have xS:Rel vals.length ok0 base Ac (look (numV 0 vs)) (look σ'.bl) {tmps:=vals.toArray,defers:=[]} w':=by refine⟨F4.symm,by simp,λt v ht=>?_,AR.rel⟩;obtain⟨_,u,h1,h2⟩:=VReps.get M5 ht;simp only[Nat.sub_zero]at h1;simp only[EQ,PE,h1,Jh];exact h2
  obtain⟨plv,El,FR⟩:=View.weaken (σ:=⟨numV 0 vs,σ'.bl,σ'.nx⟩) hy xS
  have xY:vals.length=S.res.length:=by
   have:∃us,Qt (numV 0 vs) (AD 0 S.res.length)=Yd us/\True:=by
    unfold View.read at hy;split at hy
    ·cases hy
    ·rename_i us AN;exact⟨us,AN,trivial⟩
   rw[VReps.length M5]
   have xL:∀(rs:Ya RS)(vs:Ya V),HG X.T σ'.tm σ'.bl rs=Yd vs->vs.length=rs.length:=by
    intro rs
    induction rs with
    |nil=>intro vs h;simp only[HG,Af]at h;subst h;rfl
    |cons x rs ih=>
     intro vs h;simp only[HG]at h;split at h
     ·cases h
     ·split at h
      ·cases h
      ·rename_i Av xZ
       simp only[Af]at h;subst h;simp[ih Av xZ]
   rw[xL rs vs Ck,o2]
  have ebl:look ((vIn S).mk' x).bl=fnBl (mkB (AD 0 S.ins.length) S.ins x.2):=Qu (vIn S) x;have ebo:look ((vRes S).mk' y).bl=fnBl (mkB (AD 0 S.outs.length) S.outs y.2):=Qu (vRes S) y;rw[ebo]at El FR;rw[ebl]at B3;have IY:=iB (ids:=AD 0 S.outs.length) (l:=S.res) (x:=y.1) WM El.tmps WN o3
  have NJ:((AD 0 S.res.length).map λt=>vals.toArray.getD t undef)=vals:=by have:=Aba (us:=vals) (l:=S.res.length) (s:=0) (pre:=[]) rfl xY;simpa using this
  have F9:a'.defers=[]/\∃v,(results fn a'.tmps).run P w'=.ok v w'/\(∃vals Ac,Ybj v=.returned (Gk vals)/\RelB ok0 base Ac (fnBl (mkB (AD 0 S.outs.length) S.outs y.2)) w'/\
     StepM S.ins.length pl (fnBl (mkB (AD 0 S.ins.length) S.ins x.2)) w Ac (fnBl (mkB (AD 0 S.outs.length) S.outs y.2)) w'/\
     TReps (Ak ok0 base Ac (fnBl (mkB (AD 0 S.outs.length) S.outs y.2)) w') (mkS (AD 0 S.outs.length) S.res y.1) vals):=by
   refine⟨AR.defers.trans F4,_,AE,vals,plv,rfl,El.rel,B3.trans FR,?_⟩;rw[NJ]at IY;exact IY
  rcases Kh with e1|e1<;>rw[e1]at he<;>subst he<;>exact F9
 ·cases hk
theorem Eh{P:Yv}(C5:P.follows .mixedOrders=Yo){X:Ctx}(hT:TOk P X.T)(hΓ:ΓOk P X.Γ){Λ:Yk->Yb Cut}{S:Spec}{f:Y6}{fn:Func}{c:Code}{rs:Ya RS}(hf:P.funcs[f]?=Yd fn)(Iz:(fn.name== "runtime.NumGoroutine")=Yc)(hb:fn.body=Yd c)(H5:fn.results.toList=rs.map RS.toVar)(BS:(Ym rs.length S.res.length&&(ST.tidy S.res&&YB S.params.length fn.ntmps))=Yo)(hΛ:∀q cut,Λ q=Yd cut->∀c'∈find q 1 c,On P fn.ntmps S.ins.length c' cut)(h:∀{β:Type}(x:ST.dens S.params×BT.dens S.ins)(k:ST.dens S.res×BT.dens S.outs->Yb β)(r:β),S.run x k=Yd r->exec X fn.ntmps Λ 1 c ((vIn S).mk' x) (retK X.T S rs k)=Yd r):SpecOk P f S:=
 (WW C5 hT hΓ hf Iz hb H5 BS hΛ h).spec
end
end
end Go.Lift
namespace Go.Lift
noncomputable section
open Go.RowKit
def Bb{α:Type 1}:Ya (Yk×α)->Yk->Yb α
 |[],_=>Ye
 |(j,x)::r,i=>bif Ym i j then Yd x else Bb r i
theorem Abb{α:Type}:∀{l:Ya (Yk×α)}{i:Yk}{x:α},look l i=Yd x->(i,x)∈l
 |[],_,_,h=>by simp[Fx,EG]at h
 |(j,y)::r,i,x,h=>by
  simp only[Fx,EG]at h;cases hb:Ym i j with
  |true=>rw[hb,Ao]at h;injection h with h;rw[At hb,h];exact NT
  |false=>rw[hb,BU]at h;exact E6 _ (Abb h)
theorem Ao6{P:Yv}{tab:Ya (Yk×TI)}(h:tab.map (λp=>tiOf P p.1)=tab.map (λp=>Yd p.2)):TOk P (look tab):=by
 intro t ti ht;have hm:=Abb ht
 have key:∀{l:Ya (Yk×TI)},l.map (λp=>tiOf P p.1)=l.map (λp=>Yd p.2)->∀p∈l,tiOf P p.1=Yd p.2:=by
  intro l
  induction l with
  |nil=>intro _ p hp;simp at hp
  |cons q l ih=>
   intro h p hp;simp only[CP,CK]at h;rcases Bg.1 hp with e|hp
   ·rw[e];exact h.1
   ·exact ih h.2 p hp
 exact key h _ hm
theorem SpecOk.never{P:Yv}{f:Y6}{S:Spec}(hf:∃fn,P.funcs[f]?=Yd fn/\(fn.name== "runtime.NumGoroutine")=Yc/\fn.body.isNone=Yc)(h:∀{β:Type}(x:ST.dens S.params×BT.dens S.ins)(k:ST.dens S.res×BT.dens S.outs->Yb β),S.run x k=Ye):SpecOk P f S:=
 ⟨hf,λx k r hr=>by rw[h x k]at hr;cases hr⟩
theorem ΓOk_nil{P:Yv}:ΓOk P (Bb []):=⟨λ_ _ h=>by simp[Bb]at h,λ_ _ h=>by simp[Bb]at h,λ_ _ h=>by simp[Bb]at h,λ_ _ h=>by simp[Bb]at h⟩
theorem ΓOk_cons{P:Yv}{f:Yk}{S:Spec}{l:Ya (Yk×Fun)}(h:SpecOk P f S)(hl:ΓOk P (Bb l)):ΓOk P (Bb ((f,.spec S)::l)):=by
 constructor
 all_goals
  intro g S' hg;simp only[Bb]at hg;cases hb:Ym g f with
  |true=>
   rw[hb,Ao]at hg
   first
   |(simp only[Af,Fun.spec.injEq]at hg;have OZ:=At hb;rw[OZ,<-hg];exact h)
   |cases hg
  |false=>
   rw[hb,BU]at hg
   first|exact hl.spec g S' hg|exact hl.rows g S' hg|exact hl.bld g S' hg|exact hl.abs g S' hg
theorem ΓOk_row{P:Yv}{f:Yk}{F:RowF}{l:Ya (Yk×Fun)}(h:RowOk P f F)(hl:ΓOk P (Bb l)):ΓOk P (Bb ((f,.rows F)::l)):=by
 constructor
 all_goals
  intro g S' hg;simp only[Bb]at hg;cases hb:Ym g f with
  |true=>
   rw[hb,Ao]at hg
   first
   |(simp only[Af,Fun.rows.injEq]at hg;have OZ:=At hb;rw[OZ,<-hg];exact h)
   |cases hg
  |false=>
   rw[hb,BU]at hg
   first|exact hl.spec g S' hg|exact hl.rows g S' hg|exact hl.bld g S' hg|exact hl.abs g S' hg
theorem ΓOk_bld{P:Yv}{f:Yk}{F:BldF}{l:Ya (Yk×Fun)}(h:BldOk P f F)(hl:ΓOk P (Bb l)):ΓOk P (Bb ((f,.bld F)::l)):=by
 constructor
 all_goals
  intro g S' hg;simp only[Bb]at hg;cases hb:Ym g f with
  |true=>
   rw[hb,Ao]at hg
   first
   |(simp only[Af,Fun.bld.injEq]at hg;have OZ:=At hb;rw[OZ,<-hg];exact h)
   |cases hg
  |false=>
   rw[hb,BU]at hg
   first|exact hl.spec g S' hg|exact hl.rows g S' hg|exact hl.bld g S' hg|exact hl.abs g S' hg
theorem ΓOk_abs{P:Yv}{f:Yk}{A:AbsF}{l:Ya (Yk×Fun)}(h:AbsOk P f A)(hl:ΓOk P (Bb l)):ΓOk P (Bb ((f,.abs A)::l)):=by
 constructor
 all_goals
  intro g S' hg;simp only[Bb]at hg;cases hb:Ym g f with
  |true=>
   rw[hb,Ao]at hg
   first
   |(simp only[Af,Fun.abs.injEq]at hg;have OZ:=At hb;rw[OZ,<-hg];exact h)
   |cases hg
  |false=>
   rw[hb,BU]at hg
   first|exact hl.spec g S' hg|exact hl.rows g S' hg|exact hl.bld g S' hg|exact hl.abs g S' hg
def Na(P:Yv)(n m p:Yk)(c:Code)(Λ:Yk->Yb Cut):Prop:=∀q cut,Λ q=Yd cut->∀c'∈find q p c,On P n m c' cut
theorem DA{P:Yv}{n m p:Yk}{c:Code}:Na P n m p c (Bb []):=λ_ _ h=>by simp[Bb]at h
theorem Abc{P:Yv}{n m p:Yk}{c c':Code}{q:Yk}{v:View}{outs:Ya (AExit×View)}{G:{β:Type}->v.den->Outs.K β outs->Yb β}{l:Ya (Yk×Cut)}(hf:find q p c=[c'])(hv:v.m=m)(h:PieceOk P n m c' v outs G)(hl:Na P n m p c (Bb l)):Na P n m p c (Bb ((q,WV v outs G)::l)):=by
 intro q' cut hq c2 BG;simp only[Bb]at hq;cases hb:Ym q' q with
 |true=>rw[hb,Ao]at hq;injection hq with hq;have AEf:=At hb;rw[AEf,hf]at BG;simp only[DS]at BG;rw[BG,<-hq];intro β σ k r hr;exact Ao1 hv h σ k r hr
 |false=>rw[hb,BU]at hq;exact hl q' cut hq c2 BG
def AA(fn:Func):Code:=fn.body.getD .skip
def AS(q:Yk)(c:Code):Code:=
 match find q 1 c with
 |c'::_=>c'
 |[]=>.skip
def Gm:Code->Code
 |.loop c=>c
 |_=>.skip
structure Pc where
 n:Yk
 m:Yk
 c:Code
 v:View
 o:Ya (AExit×View)
abbrev Pc.G(p:Pc):={β:Type}->p.v.den->Outs.K β p.o->Yb β
abbrev Pc.Ok(P:Yv)(p:Pc)(G:p.G):Prop:=PieceOk P p.n p.m p.c p.v p.o G
abbrev Pc.cut(p:Pc)(G:p.G):Cut:=WV p.v p.o G
theorem pcE{P:Yv}(C5:P.follows .mixedOrders=Yo)(X:Ctx)(hT:TOk P X.T)(hΓ:ΓOk P X.Γ)(q:Yk){p:Pc}{G:p.G}(Λ:Yk->Yb Cut)(hm:(p.o.all λx=>Ym x.2.m p.m)=Yo)(hΛ:Na P p.n p.m q p.c Λ)(h:∀{β:Type}(d:p.v.den)(ks:Outs.K β p.o),exec X p.n Λ q p.c (p.v.mk' d) (outK p.o ks)=G d ks):p.Ok P G:=
 Ao3 C5 hT hΓ hm hΛ λd ks r hr=>(h d ks).trans hr
theorem pcL{P:Yv}(C5:P.follows .mixedOrders=Yo)(X:Ctx)(hT:TOk P X.T)(hΓ:ΓOk P X.Γ){p:Pc}{G:Yk->p.G}(Λ:Yk->Yb Cut)(hc:p.c=.loop (Gm p.c))(hv:p.v.m=p.m)(hm:(p.o.all λx=>Ym x.2.m p.m)=Yo)(hΛ:Na P p.n p.m 1 (Gm p.c) Λ)(h0:∀{β:Type}(d:p.v.den)(ks:Outs.K β p.o),G 0 d ks=Ye)(h:∀(i:Yk){β:Type}(d:p.v.den)(ks:Outs.K β p.o),exec X p.n Λ 1 (Gm p.c) (p.v.mk' d) (SP p.v (λd'=>G i d' ks) p.o ks)=G (i+1) d ks)(i:Yk):p.Ok P (G i):=by
 have key:=Ao4 C5 hT hΓ hv hm hΛ (G:=G) h0 (λi β d ks r hr=>(h i d ks).trans hr) i;rw[<-hc]at key;exact key
theorem pcSB{P:Yv}(C5:P.follows .mixedOrders=Yo)(X:Ctx)(hT:TOk P X.T)(hΓ:ΓOk P X.Γ)(Λ:Yk->Yb Cut){S:Spec}{f:Y6}{fn:Func}(rs:Ya RS)(hf:P.funcs[f]?=Yd fn)(Iz:(fn.name== "runtime.NumGoroutine")=Yc)(hb:fn.body=Yd (AA fn))(H5:fn.results.toList=rs.map RS.toVar)(BS:(Ym rs.length S.res.length&&(ST.tidy S.res&&YB S.params.length fn.ntmps))=Yo)(hΛ:Na P fn.ntmps S.ins.length 1 (AA fn) Λ)(h:∀{β:Type}(x:ST.dens S.params×BT.dens S.ins)(k:ST.dens S.res×BT.dens S.outs->Yb β),exec X fn.ntmps Λ 1 (AA fn) ((vIn S).mk' x) (retK X.T S rs k)=S.run x k):SpecOkB P f S:=
 WW C5 hT hΓ hf Iz hb H5 BS hΛ λx k r hr=>(h x k).trans hr
theorem pcS{P:Yv}(C5:P.follows .mixedOrders=Yo)(X:Ctx)(hT:TOk P X.T)(hΓ:ΓOk P X.Γ)(Λ:Yk->Yb Cut){S:Spec}{f:Y6}{fn:Func}(rs:Ya RS)(hf:P.funcs[f]?=Yd fn)(Iz:(fn.name== "runtime.NumGoroutine")=Yc)(hb:fn.body=Yd (AA fn))(H5:fn.results.toList=rs.map RS.toVar)(BS:(Ym rs.length S.res.length&&(ST.tidy S.res&&YB S.params.length fn.ntmps))=Yo)(hΛ:Na P fn.ntmps S.ins.length 1 (AA fn) Λ)(h:∀{β:Type}(x:ST.dens S.params×BT.dens S.ins)(k:ST.dens S.res×BT.dens S.outs->Yb β),exec X fn.ntmps Λ 1 (AA fn) ((vIn S).mk' x) (retK X.T S rs k)=S.run x k):SpecOk P f S:=(pcSB C5 X hT hΓ Λ rs hf Iz hb H5 BS hΛ h).spec
end
end Go.Lift
namespace Go.Lift
open Go.RowKit
def env0(P:Yv)(w:Yx):Env:=Ak (P:=P) ⟨λ_=>True,λ_=>False,[]⟩ w.heap.size (λ_=>Ye) (λ_=>Ye) w
theorem SpecOk.call0{P:Yv}{f:Y6}{S:Spec}(h:SpecOk P f S)(hi:S.ins=[])(x:ST.dens S.params×BT.dens S.ins)(y:ST.dens S.res×BT.dens S.outs)(hy:S.run x (λz=>Yd z)=Yd y)(w:Yx)(hw:Opened P w)(args:Ya Yp)(Ba:TReps (env0 P w) (mkS [] S.params x.1) args):Calls P f args.toArray w λe w'=>∃vals Ac,e=.returned (Gk vals)/\Below w.heap.size w w'/\TReps (Ak (P:=P) ⟨λ_=>True,λ_=>False,[]⟩ w.heap.size Ac (fnBl (mkB (AD 0 S.outs.length) S.outs y.2)) w') (mkS (AD 0 S.outs.length) S.res y.1) vals:=by
 obtain⟨y',cN,B8⟩:=h.ok x (λz=>Yd z) y hy;simp only[Af]at cN;subst cN;have AK:S.ins.length=0:=by rw[hi];rfl
 have Po:mkB (AD 0 S.ins.length) S.ins x.2=[]:=by have:=G9 (ids:=AD 0 S.ins.length) (l:=S.ins) (y:=x.2);rw[AK]at this;exact FT (by rw[AK];exact this)
 have An:fnBl (mkB (AD 0 S.ins.length) S.ins x.2)=λ_=>Ye:=by rw[Po];funext b;simp[fnBl]
 have L3:AD 0 S.ins.length=[]:=by rw[AK];rfl
 have B7:RelB (P:=P) ⟨λ_=>True,λ_=>False,[]⟩ w.heap.size (λ_=>Ye) (λ_=>Ye) w:=
  ⟨Aw _,λi B h=>(by cases h),λi j B C p q g _ h=>(by cases h),λ_ _=>rfl,
   ⟨w,hw,Aw _,λg _=>⟨rfl,λ⟨_,_,_,h,_⟩=>by cases h⟩,λ_ h=>h.elim⟩,λ_ h=>h.elim⟩
 have:=B8 ⟨λ_=>True,λ_=>False,[]⟩ (λ_=>Ye) w args (by rw[An];exact B7) (by rw[An,L3];exact Ba);refine this.mono λe w' ⟨vals,Ac,he,_,AY,ht⟩=>⟨vals,Ac,he,⟨AY.os,AY.tape,AY.output,AY.size,λk hk=>?_⟩,ht⟩;refine(AY.out k hk ?_).1;rintro⟨i,B,p,hB,_⟩;rw[An]at hB;cases hB
theorem TReps.bool{E:Env}{b:Ys}{vals:Ya Yp}(h:TReps E [(Yc,[.bool b])] vals):vals=[.bool b]:=by obtain⟨v,vs,e,⟨us,⟨u,Cf,e1,h1,h2⟩,h3⟩,h4⟩:=h;simp only[TReps]at h4;simp only[CReps]at h2;simp only[CRep]at h1;simp only[G3,Cb]at h3;subst h4 h2 h1 e1;simp only[CK,Ef]at h3;subst h3;exact e
theorem TReps.int{E:Env}{k:IntKind}{n:Int}{ts:Ya (Ys×Ya C)}{vals:Ya Yp}(h:TReps E ts vals):TReps E ((Yc,[.int k n])::ts) (.int k n::vals):=
 ⟨_,_,rfl,⟨[_],⟨_,_,rfl,rfl,rfl⟩,by simp⟩,h⟩
end Go.Lift
namespace Go.Lift
open Go.RowKit Go.IntWalk
def fuel:Yk:=18446744073709551616
end Go.Lift
namespace Go.Lift
open Go.RowKit Go.ChangeShapes Go.WideShapes Go.Deep
def fitF(P:Yv)(F:Yq->Ty->Ys):Ya Field->Yk->Ty->Ys
 |[],_,.unit=>Yo
 |[f],o,τ=>Ym f.offset o&&(Ym (P.cellsOf f.type) τ.size&&F f.type τ)
 |f::g::r,o,.prod a b=>Ym f.offset o&&(Ym (P.cellsOf f.type) a.size&&(F f.type a&&fitF P F (g::r) (o+a.size) b))
 |_,_,_=>Yc
def fitA(C:Yk)(F:Ty->Ys):Yk->Ty->Ys
 |0,.unit=>Yo
 |1,τ=>Ym C τ.size&&F τ
 |m+2,.prod a b=>Ym C a.size&&(F a&&fitA C F (m+1) b)
 |_,_=>Yc
def Mb(P:Yv):Yk->Yq->Ty->Ys
 |0,_,_=>Yc
 |n+1,t,τ=>
  match P.underlying t with
  |some .bool=>match τ with|.bool=>Yo|_=>Yc
  |some (.int k)=>match τ with|.int k'=>decide (k=k')|_=>Yc
  |some .string=>match τ with|.str=>Yo|_=>Yc
  |some (.slice e)=>match τ with|.slice ε=>Ym (P.cellsOf e) ε.size&&Mb P n e ε|_=>Yc
  |some (.struct fs)=>Ym (P.cellsOf t) τ.size&&fitF P (Mb P n) fs.toList 0 τ
  |some (.array m e)=>Ym (P.cellsOf t) τ.size&&fitA (P.cellsOf e) (Mb P n e) m τ
  |_=>Yc
def Wf:(τ:Ty)->τ.den->Prop
 |.int k,n=>(Lit.int k n).wf=Yo
 |.str,s=>s.length<=Yaj
 |.prod a b,x=>Wf a x.1/\Wf b x.2
 |.slice e,l=>l.length<=Yaj/\∀x∈l,Wf e x
 |.bool,_=>True
 |.unit,_=>True
 |.err,_=>True
section
variable{H:Type}{enc:Yq×Yp->H}{P:Yv}{w:Yx}
theorem Abd{F:Yq->Ty->Ys}{cs:Ya Yp}(hF:∀{t:Yq}{τ:Ty}{c:Ya Yp},F t τ=Yo->(∃n sp hd y,YaD enc P w 0 sp hd n t c=Yd y)->∃d:τ.den,DRep w (λ_=>True) τ d c/\Wf τ d):∀(fs:Ya Field)(o:Yk)(τ:Ty),fitF P F fs o τ=Yo->(∀f∈fs,∃n sp hd y,YaD enc P w 0 sp hd n f.type ((cs.drop f.offset).take (P.cellsOf f.type))=Yd y)->o+τ.size=cs.length->∃d:τ.den,DRep w (λ_=>True) τ d (cs.drop o)/\Wf τ d
 |[],o,τ,hf,_,hl=>by
  cases τ<;>simp only[fitF]at hf<;>first|(cases hf;done)|skip
  refine⟨(),?_,trivial⟩;simp only[DRep];simp only[Ty.size]at hl;exact dE (by omega)
 |[f],o,τ,hf,h,hl=>by simp only[fitF,CO]at hf;obtain⟨h1,h2,h3⟩:=hf;have h1:=At h1;have h2:=At h2;obtain⟨n,sp,hd,y,hy⟩:=h f (by simp);rw[h1,h2,GL (by rw[GN];omega)]at hy;exact hF h3 ⟨n,sp,hd,y,hy⟩
 |f::g::r,o,τ,hf,h,hl=>by
  cases τ with
  |prod a b=>simp only[fitF,CO]at hf;obtain⟨h1,h2,h3,h4⟩:=hf;have h1:=At h1;have h2:=At h2;simp only[Ty.size]at hl;obtain⟨n,sp,hd,y,hy⟩:=h f (by simp);rw[h1,h2]at hy;obtain⟨d1,k1,w1⟩:=hF h3 ⟨n,sp,hd,y,hy⟩;obtain⟨d2,k2,w2⟩:=Abd hF (g::r) (o+a.size) b h4 (λf' N5=>h f' (by simp at N5⊢;right;exact N5)) (by omega);refine⟨(d1,d2),?_,w1,w2⟩;simp only[DRep];refine⟨_,_,?_,k1,k2⟩;rw[<-PJ,NR]
  |bool=>simp[fitF]at hf
  |int k=>simp[fitF]at hf
  |str=>simp[fitF]at hf
  |unit=>simp[fitF]at hf
  |err=>simp[fitF]at hf
  |slice e=>simp[fitF]at hf
theorem Abe{C:Yk}{e:Yq}{F:Ty->Ys}{cs:Ya Yp}(hF:∀{τ:Ty}{c:Ya Yp},F τ=Yo->(∃n sp hd y,YaD enc P w 0 sp hd n e c=Yd y)->∃d:τ.den,DRep w (λ_=>True) τ d c/\Wf τ d):∀(m i:Yk)(τ:Ty),fitA C F m τ=Yo->(∀j,i<=j->j<i+m->∃n sp hd y,YaD enc P w 0 sp hd n e ((cs.drop (j*C)).take C)=Yd y)->i*C+τ.size=cs.length->∃d:τ.den,DRep w (λ_=>True) τ d (cs.drop (i*C))/\Wf τ d
 |0,i,τ,hf,_,hl=>by
  cases τ<;>simp only[fitA]at hf<;>first|(cases hf;done)|skip
  refine⟨(),?_,trivial⟩;simp only[DRep];simp only[Ty.size]at hl;exact dE (by omega)
 |1,i,τ,hf,h,hl=>by simp only[fitA,CO]at hf;obtain⟨h2,h3⟩:=hf;have h2:=At h2;obtain⟨n,sp,hd,y,hy⟩:=h i (Aw _) (by omega);rw[GL (by rw[GN];omega)]at hy;exact hF h3 ⟨n,sp,hd,y,hy⟩
 |m+2,i,τ,hf,h,hl=>by
  cases τ with
  |prod a b=>simp only[fitA,CO]at hf;obtain⟨h2,h3,h4⟩:=hf;have h2:=At h2;simp only[Ty.size]at hl;obtain⟨n,sp,hd,y,hy⟩:=h i (Aw _) (by omega);obtain⟨d1,k1,w1⟩:=hF h3 ⟨n,sp,hd,y,hy⟩;have hs:(i+1)*C=i*C+C:=DJ _ _;obtain⟨d2,k2,w2⟩:=Abe hF (m+1) (i+1) b h4 (λj hj Ha=>h j (by omega) (by omega)) (by omega);refine⟨(d1,d2),?_,w1,w2⟩;simp only[DRep];refine⟨_,_,?_,k1,k2⟩;rw[hs,<-PJ,NR]
  |bool=>simp[fitA]at hf
  |int k=>simp[fitA]at hf
  |str=>simp[fitA]at hf
  |unit=>simp[fitA]at hf
  |err=>simp[fitA]at hf
  |slice e=>simp[fitA]at hf
theorem Abf{ε:Ty}{a:Addr}{C:Yk}(hC:C=ε.size):∀(len:Yk),(∀i,i<len->∃cs':Ya Yp,cs'.length=C/\(∀j,j<C->w.cell? ((a.add (i*C)).add j)=cs'[j]?)/\∃d:ε.den,DRep w (λ_=>True) ε d cs'/\Wf ε d)->∃(l:Ya ε.den)(xs:Ya Yp),l.length=len/\xs.length=len*C/\DList (λx u=>DRep w (λ_=>True) ε x u) l xs/\(∀j v,xs[j]?=Yd v->w.cell? (a.add j)=Yd v)/\∀x∈l,Wf ε x
 |0,_=>⟨[],[],rfl,by simp,rfl,by simp,by simp⟩
 |len+1,h=>by
  obtain⟨l,xs,h1,h2,h3,h4,h5⟩:=Abf hC len λi hi=>h i (by omega);obtain⟨cs',k1,k2,d,k3,k4⟩:=h len (by omega);refine⟨l++[d],xs++cs',by simp[h1],by rw[Bd,h2,k1,DJ],DList.append h3 ⟨cs',[],by simp,k3,rfl⟩,λj v hj=>?_,?_⟩
  ·rw[List.getElem?_append]at hj
   split at hj
   ·exact h4 j v hj
   ·rename_i Ae
    obtain⟨AGA,_⟩:=Do.1 hj;have:=k2 (j-xs.length) (by omega);rw[MM,<-h2,show xs.length+(j-xs.length)=j by omega]at this;rw[this,hj]
  ·intro x hx
   rcases BV.1 hx with hx|hx
   ·exact h5 x hx
   ·simp only[DS]at hx
    subst hx;exact k4
theorem WX:∀(n:Yk){t:Yq}{τ:Ty}{cs:Ya Yp},Mb P n t τ=Yo->(∃m sp hd y,YaD enc P w 0 sp hd m t cs=Yd y)->∃d:τ.den,DRep w (λ_=>True) τ d cs/\Wf τ d
 |0,_,_,_,h,_=>by simp[Mb]at h
 |n+1,t,τ,cs,hf,⟨m,sp,hd,y,hy⟩=>by
  simp only[Mb]at hf;split at hf
  ·rename_i hu
   cases τ<;>simp only at hf<;>first|(cases hf;done)|skip
   obtain⟨b,rfl,-⟩:=DataW.trod_bool hu hy;exact⟨b,rfl,trivial⟩
  ·rename_i k hu
   cases τ<;>simp only at hf<;>first|(cases hf;done)|skip
   obtain rfl:=AC hf;obtain⟨b,rfl,-,hw⟩:=DataW.trod_int hu hy;exact⟨b,rfl,hw⟩
  ·rename_i hu
   cases τ<;>simp only at hf<;>first|(cases hf;done)|skip
   obtain⟨s,rfl,-,hs⟩:=DataW.trod_string hu hy;exact⟨s.data.toList,by simp only[DRep],by show s.data.toList.length<=Yaj;rw[FV];exact hs⟩
  ·rename_i e hu
   cases τ<;>simp only at hf<;>first|(cases hf;done)|skip
   rename_i ε;simp only[CO]at hf;obtain⟨h1,h2⟩:=hf;have h1:=At h1;rcases open_slice hu hy with⟨rfl,-⟩|⟨a,len,cap,m',n',D,Pl,rfl,hb,hl,hm,x4,-,hi⟩
   ·refine⟨[],?_,BD _,by simp⟩
    simp only[DRep];exact⟨Ye,0,[],rfl,Aw _,BD _,rfl,by simp⟩
   ·obtain⟨l,xs,k1,k2,k3,k4,k5⟩:=Abf (w:=w) (ε:=ε) (a:=a) h1 len (λi AGx=>by
     have ADC:i<m':=by rw[x4];split<;>omega
     obtain⟨cs',c1,c2⟩:=hi i ADC;obtain⟨-,q1,q2⟩:=World.cells?_some c1;exact⟨cs',q1,q2,WX n h2 ⟨_,_,_,_,c2⟩⟩)
    refine⟨l,?_,?_,k5⟩
    ·simp only[DRep]
     exact⟨Yd a,cap,xs,by rw[k1],by omega,hm,k3,λj v hj=>⟨a,rfl,trivial,k4 j v hj⟩⟩
    ·show l.length<=Yaj
     omega
  ·rename_i fs hu
   simp only[CO]at hf;obtain⟨h1,h2⟩:=hf;have h1:=At h1;obtain⟨xs,m',-,-,AK,Ad,hg⟩:=DataW.trod_struct hu hy
   have:=Abd (enc:=enc) (P:=P) (w:=w) (cs:=cs) (λ{t τ c} h1 h2=>WX n h1 h2) fs.toList 0 τ h2 (λf hf=>by obtain⟨i,hi,rfl⟩:=List.getElem_of_mem hf;have:=hg i fs[i] (by simp at hi;simp[hi]);simp at hi;rw[C0 (by omega)]at this;exact⟨_,_,_,_,this⟩) (by omega)
   simpa using this
  ·rename_i k e hu
   simp only[CO]at hf;obtain⟨h1,h2⟩:=hf;have h1:=At h1;obtain⟨xs,m',-,-,AK,Ad,hg⟩:=DataW.trod_array hu hy
   have:=Abe (enc:=enc) (P:=P) (w:=w) (C:=P.cellsOf e) (e:=e) (cs:=cs) (λ{τ c} h1 h2=>WX n h1 h2) k 0 τ h2 (λj _ hj=>by have:=hg j (by omega);rw[C0 (by omega)]at this;exact⟨_,_,_,_,this⟩) (by omega)
   simpa using this
  ·cases hf
def II(P:Yv)(t:Yq):Ys:=
 match P.underlying t with
 |some (.struct _)=>Yo
 |some (.array _ _)=>Yo
 |_=>Yc
def fitP(P:Yv):Ya Yq->Ya (Ys×Ya CT)->Ys
 |[],[]=>Yo
 |t::ts,(g,[.data τ])::ps=>(g==II P t)&&(Mb P 12 t τ&&fitP P ts ps)
 |_,_=>Yc
def WfC:(l:Ya CT)->CT.dens l->Prop
 |[],_=>True
 |.data τ::r,x=>Wf τ x.1/\WfC r x.2
 |.ptr _ _::r,x=>WfC r x
 |.rowh _::r,x=>WfC r x
 |.fn _ _::r,x=>WfC r x
 |.maph _::r,x=>WfC r x
 |.math _::r,x=>WfC r x
 |.bself _::r,x=>WfC r x
 |.bfnh _ _::r,x=>WfC r x
 |.trowh _::r,x=>WfC r x
 |.tptrh _ _ _::r,x=>WfC r x.2
 |.nilc::r,x=>WfC r x
 |.nils::r,x=>WfC r x
 |.lsome _::r,x=>WfC r x.2
 |.junk::r,x=>WfC r x
def WfS:(l:Ya (Ys×Ya CT))->ST.dens l->Prop
 |[],_=>True
 |p::r,x=>WfC p.2 x.1/\WfS r x.2
theorem Ao7{n base:Yk}{t:Yq}{v:Yp}(h:YU P w .any base t v)(hf:∃τ,Mb P (n+1) t τ=Yo):if II P t=Yo then v=.agg v.cells.toList.toArray else v.cells.toList=[v]:=by
 obtain⟨τ,hf⟩:=hf;simp only[Mb]at hf;split at hf
 ·rename_i hu
  rw[show II P t=Yc by simp only[II,hu]];simp only[YU,hu]at h;cases v with
  |agg cs=>simp only[YaM,Cell.ok,hu]at h
  |_=>rfl
 ·rename_i k hu
  rw[show II P t=Yc by simp only[II,hu]];simp only[YU,hu]at h;cases v with
  |agg cs=>simp only[YaM,Cell.ok,hu]at h
  |_=>rfl
 ·rename_i hu
  rw[show II P t=Yc by simp only[II,hu]];simp only[YU,hu]at h;cases v with
  |agg cs=>simp only[YaM,Cell.ok,hu]at h
  |_=>rfl
 ·rename_i e hu
  rw[show II P t=Yc by simp only[II,hu]];simp only[YU,hu]at h;cases v with
  |agg cs=>simp only[YaM,Cell.ok,hu]at h
  |_=>rfl
 ·rename_i fs hu
  rw[show II P t=Yo by simp only[II,hu]];simp only[YU,hu]at h;obtain⟨cs,rfl,-⟩:=h;rfl
 ·rename_i k e hu
  rw[show II P t=Yo by simp only[II,hu]];simp only[YU,hu]at h;obtain⟨cs,rfl,-⟩:=h;rfl
 ·cases hf
theorem Abg{base:Yk}:∀{ts:Ya Yq}{ps:Ya (Ys×Ya CT)}{vs:Ya Yp}{ds:Ya (DataW H)}{pl:Ya YaX},fitP P ts ps=Yo->YV enc P w 0 (λ_=>Yo) Yo ts vs ds pl->(∀(j:Yk) t v,ts[j]?=Yd t->vs[j]?=Yd v->YU P w .any base t v)->∃x:ST.dens ps,TReps (env0 P w) (mkS [] ps x) vs/\WfS ps x
 |[],[],vs,ds,pl,_,h,_=>by
  cases vs with
  |nil=>exact⟨(),rfl,trivial⟩
  |cons v vs=>cases ds<;>simp[YV]at h
 |[],_::_,_,_,_,hf,_,_=>by simp[fitP]at hf
 |_::_,[],_,_,_,hf,_,_=>by simp[fitP]at hf
 |t::ts,(g,cts)::ps,vs,ds,pl,hf,h,BS=>by
  match cts,hf with
  |[.data τ],hf=>
   simp only[fitP,CO,beq_iff_eq]at hf;obtain⟨hg,h1,h2⟩:=hf;obtain⟨v,Av,d,Al0,p,q,rfl,rfl,rfl,hd,Eb⟩:=trodAll_cons h;obtain⟨x2,r2,w2⟩:=Abg (base:=base) h2 Eb λj t v hj hv=>BS (j+1) t v (by simpa using hj) (by simpa using hv);obtain⟨m,hm⟩:=hd;obtain⟨x1,r1,w1⟩:=WX (enc:=enc) (P:=P) (w:=w) 12 h1 ⟨m,_,_,_,hm⟩;have hv:=Ao7 (n:=11) (BS 0 t v rfl rfl) ⟨τ,h1⟩;refine⟨((x1,()),x2),⟨v,Av,rfl,?_,r2⟩,⟨w1,trivial⟩,w2⟩
   have M5:CReps (env0 P w) (cells τ x1++[]) v.cells.toList:=by rw[Gj];refine FW ?_;refine DRep.mono ?_ r1;exact λg hg Ae=>⟨⟨.inl trivial,λ⟨i,B,p,hB,_⟩=>by cases hB⟩,rfl⟩
   refine⟨v.cells.toList,M5,?_⟩;rw[<-hg]at hv;exact hv
  |[],hf=>simp[fitP]at hf
  |[.ptr _ _],hf=>simp[fitP]at hf
  |[.rowh _],hf=>simp[fitP]at hf
  |[.fn _ _],hf=>simp[fitP]at hf
  |[.maph _],hf=>simp[fitP]at hf
  |[.math _],hf=>simp[fitP]at hf
  |[.bself _],hf=>simp[fitP]at hf
  |[.bfnh _ _],hf=>simp[fitP]at hf
  |[.trowh _],hf=>simp[fitP]at hf
  |[.tptrh _ _ _],hf=>simp[fitP]at hf
  |[.nilc],hf=>simp[fitP]at hf
  |[.nils],hf=>simp[fitP]at hf
  |[.lsome _],hf=>simp[fitP]at hf
  |[.junk],hf=>simp[fitP]at hf
  |.data _::_::_,hf=>simp[fitP]at hf
  |.ptr _ _::_::_,hf=>simp[fitP]at hf
  |.rowh _::_::_,hf=>simp[fitP]at hf
  |.fn _ _::_::_,hf=>simp[fitP]at hf
  |.maph _::_::_,hf=>simp[fitP]at hf
  |.math _::_::_,hf=>simp[fitP]at hf
  |.bself _::_::_,hf=>simp[fitP]at hf
  |.bfnh _ _::_::_,hf=>simp[fitP]at hf
  |.trowh _::_::_,hf=>simp[fitP]at hf
  |.tptrh _ _ _::_::_,hf=>simp[fitP]at hf
  |.nilc::_::_,hf=>simp[fitP]at hf
  |.nils::_::_,hf=>simp[fitP]at hf
  |.lsome _::_::_,hf=>simp[fitP]at hf
  |.junk::_::_,hf=>simp[fitP]at hf
theorem Ao8{f:Func}{s:ChangeSpec}{apart fresh handsOn again:Ys}{W W':Yx}{args:YX Yp}{v:Yp}{ds gs:Ya (DataW H)}{before pa pv:Ya YaX}(hW:DataW.Whole enc P f.params.toList s.vars apart W args.toList ds gs before)(H5:∀(b:Yk)(sp:Yk->Ys)(hd:Ys),YV enc P W' b sp hd f.resultTypes.toList (v.resultList f.resultTypes.size) (s.fn H (ds++gs)).results [])(Ba:∀sp:Yk->Ys,(∀p∈before,sp p.block=Yo)->YV enc P W' 0 sp Yo f.params.toList args.toList (s.fn H (ds++gs)).args pa)(V1:∀sp:Yk->Ys,(∀p∈before,sp p.block=Yo)->DataW.TrodVars enc P W' sp s.vars (s.fn H (ds++gs)).vars pv)(Ie:before=pa++pv)(hb:Below W.heap.size W W')(BS:∀(j:Yk)(t:Yq)(r:Yp),f.resultTypes[j]?=Yd t->(v.resultList f.resultTypes.size)[j]?=Yd r->YU P W' .any 0 t r):s.post enc P f apart fresh handsOn again W args v W':=by
 have Ae:∀p∈before,p.block<W.heap.size:=λp hp=>hW.lt p hp;have Vj:∀p∈before,(λb=>decide (b<W.heap.size)) p.block=Yo:=λp hp=>by simpa using Ae p hp
 refine⟨ds,gs,before,[],pa,pv,hW,H5 _ _ _,Ba _ Vj,V1 _ Vj,World.keptBut_mono (λp hp=>⟨hp,?_⟩) (hb.frame (· ∈before)),λ_=>?_⟩
 ·rw[Ie,BV]at hp
  exact Or.inr hp
 ·obtain⟨_,_,_,_,_,hz,hn⟩:=hW
  refine⟨BS,_,_,([]++pa)++pv,⟨[]++pa,pv,trodAll_append (Ba _ (λ_ _=>rfl)) (H5 _ _ _),V1 _ (λ_ _=>rfl),rfl,?_,?_⟩,?_⟩
  ·intro b off hp
   have Ci:MemPlace.cell b off∈before:=by rw[Ie];simpa using hp
   rw[hb.frozen (Ae _ Ci)];exact hz b off Ci
  ·intro ha
   have:=hn ha;rw[Ie]at this;simpa using this
  ·intro p hp _
   rw[Ie];simpa using hp
theorem Abh(hl:laidOutB P=Yo){W W':Yx}{sp:Yk->Ys}:∀{ts:Ya Yq}{vs:Ya Yp}{ds:Ya (DataW H)}{ps:Ya YaX},(ts.all λt=>P.readableRec t&&Yz t P.types.size)=Yo->YV enc P W 0 (λ_=>Yo) Yo ts vs ds ps->Below W.heap.size W W'->(∀x∈ps,x.block<W.heap.size)->(∀x∈ps,sp x.block=Yo)->YV enc P W' 0 sp Yo ts vs ds ps
 |[],vs,ds,ps,_,h,_,_,_=>by cases vs<;>cases ds<;>simp_all [YV]
 |t::ts,vs,ds,ps,hr,h,hb,Ae,Vv=>by obtain⟨v,Av,d,Al0,p,q,rfl,rfl,rfl,hd,Eb⟩:=trodAll_cons h;simp only[List.all_cons,CO]at hr;refine⟨p,q,WideElems.Trod_stays hl hr.1.1 (Nat.blt_eq▸hr.1.2) hd (λx hx=>hb.same (Ae x (by simp[hx]))) (λx hx=>Vv x (by simp[hx])),?_,rfl⟩;exact Abh hl (by simpa using hr.2) Eb hb (λx hx=>Ae x (by simp[hx])) (λx hx=>Vv x (by simp[hx]))
theorem Ao9{f:Y6}{fn:Func}{s:ChangeSpec}{S:Spec}{apart fresh handsOn again:Ys}{tb:Yq}(hS:SpecOk P f S)(hi:S.ins=[])(_hr:S.res=[(Yc,[.data .bool])])(ho:S.outs=[])(ADu:fitP P fn.params.toList S.params=Yo)(hl:laidOutB P=Yo)(Ek:(fn.params.toList.all λt=>P.readableRec t&&Yz t P.types.size)=Yo)(R6:fn.resultTypes=#[tb])(AlT:P.underlying tb=Yd .bool)(V1:s.vars=[])(B9:∀ds:Ya (DataW H),ds.length=fn.params.size->(s.fn H (ds++[])).results=[.lit (.bool Yo)]/\(s.fn H (ds++[])).args=ds/\(s.fn H (ds++[])).vars=[])(ADH:∀{β:Type}(x:ST.dens S.params)(y:BT.dens S.ins)(k:ST.dens S.res×BT.dens S.outs->Yb β),WfS S.params x->∃z,mkS [] S.res z.1=[(Yc,[.bool Yo])]/\S.run (x,y) k=k z){W:Yx}{base:Yk}{args:YX Yp}{ds gs:Ya (DataW H)}{before:Ya YaX}(V0:∀(j:Yk) t v,fn.params[j]?=Yd t->args[j]?=Yd v->YU P W .any base t v)(AE7:Opened P W)(hW:DataW.Whole enc P fn.params.toList s.vars apart W args.toList ds gs before):Calls P f args W λe W'=>∃v,e=.returned v/\s.post enc P fn apart fresh handsOn again W args v W':=by
 have hW':=hW;obtain⟨p,q,hA,hV,rfl,AGw,I0⟩:=hW';rw[V1]at hV
 obtain⟨rfl,rfl⟩:gs=[]/\q=[]:=by
  cases gs with
  |nil=>exact⟨rfl,hV⟩
  |cons g gs=>simp[DataW.TrodVars]at hV
 obtain⟨x,hx,y5⟩:=Abg (base:=base) ADu hA (λj t v hj hv=>V0 j t v (by simpa using hj) (by simpa using hv));have hy:BT.dens S.ins:=by rw[hi];exact()
 obtain⟨z,hz,AE⟩:=ADH x hy (λz=>Yd z) y5;have hc:=hS.call0 hi (x,hy) z AE W AE7 args.toList hx
 have AK:ds.length=fn.params.size:=by
  have:∀{ts:Ya Yq}{vs:Ya Yp}{ds:Ya (DataW H)}{ps:Ya YaX},YV enc P W 0 (λ_=>Yo) Yo ts vs ds ps->ds.length=ts.length:=by
   intro ts
   induction ts with
   |nil=>intro vs ds ps h;cases vs<;>cases ds<;>simp_all [YV]
   |cons t ts ih=>intro vs ds ps h;obtain⟨v,Av,d,Al0,p,q,rfl,rfl,rfl,hd,Eb⟩:=trodAll_cons h;simp[ih Eb]
  simpa using this hA
 obtain⟨f1,f2,f3⟩:=B9 ds AK;refine hc.mono λe W' ⟨vals,Ac,he,hb,ht⟩=>?_;have L3:AD 0 S.outs.length=[]:=by rw[ho];rfl
 rw[L3,hz]at ht;obtain rfl:=TReps.bool ht;refine⟨.bool Yo,he,Ao8 (pa:=p) (pv:=[]) hW (λb sp hd=>?_) (λsp Vv=>?_) (λsp Vv=>?_) rfl hb ?_⟩
 ·rw[f1,R6]
  exact trodAll_cons_mk (shut_bool AlT _) trodAll_mk0
 ·rw[f2]
  exact Abh hl Ek hA hb (λx hx=>hW.lt x (by simpa using hx)) (λx hx=>Vv x (by simpa using hx))
 ·rw[f3,V1];rfl
 ·exact ok_one R6 rfl (okWide_bool_mk AlT _)
end
end Go.Lift
namespace Go.Lift
noncomputable section
def Ho:Ya C->Ya Yk
 |[]=>[]
 |.ptr b _::r=>b::Ho r
 |.row b _::r=>b::Ho r
 |.hrow b::r=>b::Ho r
 |.fn _ BI::r=>BI++Ho r
 |.mapv b::r=>b::Ho r
 |.mat b _::r=>b::Ho r
 |.mrow b _ _::r=>b::Ho r
 |.sub b _ _ _::r=>b::Ho r
 |.bself b::r=>b::Ho r
 |.bfn _ b::r=>b::Ho r
 |.trow b _ _::r=>b::Ho r
 |.tptr b _ _ _ _::r=>b::Ho r
 |_::r=>Ho r
def Aoa:V->Ya Yk
 |.c x=>Ho [x]
 |.agg cs=>Ho cs
 |.eptr b _ _ _=>[b]
 |.mcell b _ _=>[b]
 |.mptr b _ _ _ _=>[b]
 |.arr b _ _ _=>[b]
 |.hptr b _=>[b]
 |_=>[]
def JR:Ya V->Ya Yk
 |[]=>[]
 |v::r=>Aoa v++JR r
def HH(bl:Yk->Yb Blk):Yk->Ya Yk->Ya Yk->Ya Yk
 |0,_,acc=>acc
 |_+1,[],acc=>acc
 |n+1,b::r,acc=>
  bif memB b acc then HH bl n r acc else
   match bl b with
   |some (.cells _ cs)=>HH bl n (Ho cs++r) (acc++[b])
   |some (.crow _ _ _ cs)=>HH bl n (Ho cs++r) (acc++[b])
   |some _=>HH bl n r (acc++[b])
   |none=>HH bl n r acc
def Nb(bl:Yk->Yb Blk):Ya Yk->Ya (Yk×Blk)
 |[]=>[]
 |b::r=>
  match bl b with
  |some B=>(b,B)::Nb bl r
  |none=>Nb bl r
def Qw:Ya V->Yb (Ya (Ys×Ya C))
 |[]=>Yd []
 |.c x::r=>
  match Qw r with
  |some ts=>Yd ((Yc,[x])::ts)
  |none=>Ye
 |.agg cs::r=>
  match Qw r with
  |some ts=>Yd ((Yo,cs)::ts)
  |none=>Ye
 |_::_=>Ye
def tupV:Ya V->Yb V
 |[v]=>Yd v
 |vs=>
  match Qw vs with
  |some ts=>Yd (.tup ts)
  |none=>Ye
def inlK{β:Type}(T:Yq->Yb TI)(rs:Ya RS)(ids new:Ya Yk)(kk:K β):Kx β:=λe σ=>
 match e with
 |.exit _=>Ye
 |_=>
  match HG T σ.tm σ.bl rs with
  |none=>Ye
  |some vs=>
   match tupV vs with
   |none=>Ye
   |some v=>bif JI (wids σ.bl)&&(LT (ids++new) (wids σ.bl)&&LT (wids σ.bl) ids)then kk v (ids++new) σ.bl else Ye
def Abi{β:Type}(X:Ctx)(n:Yk)(c:Code)(rs:Ya RS)(m:Yk)(bl:Yk->Yb Blk)(nx:Yk)(args:Ya V)(kk:K β):Yb β:=
 bif PW bl (AD nx m)&&YB args.length n then
  exec {X with A:=Yd (HH bl 99 (JR args) []++AD nx m)} n (λ_=>Ye) 1 c ⟨numV 0 args,Nb bl (HH bl 99 (JR args) []),nx⟩ (inlK X.T rs (HH bl 99 (JR args) []) (AD nx m) kk)
 else Ye
@[reducible] def inl(X:Ctx)(n:Yk)(c:Code)(rs:Ya RS)(m:Yk):AbsF:=⟨λbl nx args kk=>Abi X n c rs m bl nx args kk⟩
theorem WY{ids:Ya Yk}:∀{l:Ya Yk},LT ids l=Yo->∀b∈l,b∈ids
 |[],_,b,h=>by simp at h
 |c::r,h,b,hb=>by
  obtain⟨h1,h2⟩:=andB h;rcases Bg.1 hb with rfl|hb
  ·exact HE.1 h1
  ·exact WY h2 b hb
theorem Abj{ids:Ya Yk}:∀{l:Ya LogE},fD ids l=Yo->∀e∈l,∀b∈e.rd,b∈ids
 |[],_,e,h=>by simp at h
 |c::r,h,e,he=>by
  obtain⟨h1,h2⟩:=andB h;rcases Bg.1 he with rfl|he
  ·exact WY h1
  ·exact Abj h2 e he
theorem iD{bl:Yk->Yb Blk}:∀{l:Ya Yk}{i:Yk},look (Nb bl l) i=if i∈l then bl i else Ye
 |[],i=>by simp[Nb,Fx,EG]
 |b::r,i=>by
  simp only[Nb];cases hb:bl b with
  |none=>
   simp only;rw[iD];by_cases h:i=b
   ·subst h;simp[hb]
   ·simp[h]
  |some B=>
   simp only[Fx,EG];by_cases h:i=b
   ·subst h;simp[hb]
   ·rw[IE h,BU,iD];simp[h]
theorem Abk:∀{l:Ya (Yk×Blk)}{i:Yk},i∉wids l->look l i=Ye
 |[],_,_=>rfl
 |(j,x)::r,i,h=>by simp only[wids,Bg,not_or]at h;rw[EG,IE h.1,BU,Abk h.2]
theorem Abl:∀{l:Ya (Yk×Blk)}{f:Yk->Yb Blk}{i:Yk},(wids l).Nodup->updL f l i=if i∈wids l then look l i else f i
 |[],_,_,_=>by simp[wids,updL]
 |(j,x)::r,f,i,h=>by
  obtain⟨h1,h2⟩:=La.1 (show(j::wids r).Nodup from h);simp only[updL];rw[Abl h2];by_cases hi:i=j
  ·subst hi
   simp[h1,wids,Fx,EG,upd]
  ·simp only[wids,Bg,hi,false_or,Fx,EG,IE hi,BU,upd,Cb]
theorem Abm{E:Env}:∀{vs:Ya V}{us:Ya Yp}{ts:Ya (Ys×Ya C)},VReps E vs us->Qw vs=Yd ts->TReps E ts us
 |[],us,ts,h,ht=>by simp only[Qw,Af]at ht;subst ht;exact h
 |v::vs,us,ts,⟨u,Cf,e,h1,h2⟩,ht=>by
  cases v<;>simp only[Qw]at ht<;>first|(cases ht;done)|skip
  all_goals
   split at ht
   ·rename_i AGM H7
    simp only[Af]at ht;subst ht;refine⟨u,Cf,e,?_,Abm h2 H7⟩
    first|exact⟨[u],⟨u,[],rfl,h1,rfl⟩,by simp⟩|exact h1
   ·cases ht
theorem Aob{E:Env}{vs:Ya V}{us:Ya Yp}{v:V}(h:VReps E vs us)(ht:tupV vs=Yd v):VRep E v (Gk us):=by
 unfold tupV at ht;split at ht
 ·simp only[Af]at ht
  subst ht;obtain⟨u,Cf,e,h1,h2⟩:=h;have h2:Cf=[]:=h2;subst h2 e;exact h1
 ·rename_i Az
  split at ht
  ·rename_i ts H7
   simp only[Af]at ht;subst ht;refine⟨us,?_,Abm h H7⟩;have hl:=VReps.length h
   match us,hl with
   |[],_=>rfl
   |[u],hl=>
    exfalso
    match vs,hl,Az with
    |[v],_,Az=>exact Az v rfl
   |u::u2::us,_=>rfl
  ·cases ht
theorem Aoc{P:Yv}(C5:P.follows .mixedOrders=Yo){X:Ctx}(hT:TOk P X.T)(hΓ:ΓOk P X.Γ){f:Y6}{fn:Func}{c:Code}{rs:Ya RS}(m:Yk)(hf:P.funcs[f]?=Yd fn)(hc:((fn.name== "runtime.NumGoroutine"),fn.body,fn.results.toList)=(Yc,Yd c,rs.map RS.toVar)):AbsOk P f (inl X fn.ntmps c rs m):=by
 simp only[Bv]at hc;obtain⟨Iz,hb,H5⟩:=hc;refine⟨⟨fn,hf,Iz,by rw[hb];rfl⟩,λbl nx args kk r hk=>?_⟩;simp only[Abi]at hk;generalize L3:HH bl 99 (JR args) []=ids at hk;generalize I1:AD nx m=new at hk;cases GF:(PW bl new&&YB args.length fn.ntmps)with
 |false=>rw[GF]at hk;cases hk
 |true=>
  rw[GF,Ao]at hk;obtain⟨GF,AK⟩:=andB GF;have GF:=g9 GF;have AK:=IC AK
  obtain⟨e',σ',hk,hw⟩:=gX (R:=AaW) (fr:=λF:{F:Yk->Yb Blk // ∀b∈ids++new,F b=Ye}=>frF (ids++new) F.1 F.2) C5 (X:={X with A:=Yd (ids++new)})
   (λlog hl e he b hb i=>Abj hl e he b hb) hT hΓ (λ_ _ h=>by cases h) hk
  have Er:(e'=.normal\/e'=.ret)/\∃vs v,HG X.T σ'.tm σ'.bl rs=Yd vs/\tupV vs=Yd v/\(wids σ'.bl).Nodup/\(∀b∈wids σ'.bl,b∈ids++new)/\(∀b∈ids,b∈wids σ'.bl)/\kk v (ids++new) σ'.bl=Yd r:=by
   have go:(match HG X.T σ'.tm σ'.bl rs with
     |none=>Ye
     |some vs=>
      match tupV vs with
      |none=>Ye
      |some v=>bif JI (wids σ'.bl)&&(LT (ids++new) (wids σ'.bl)&&LT (wids σ'.bl) ids)then kk v (ids++new) σ'.bl else Ye)=Yd r->
     ∃vs v,HG X.T σ'.tm σ'.bl rs=Yd vs/\tupV vs=Yd v/\(wids σ'.bl).Nodup/\(∀b∈wids σ'.bl,b∈ids++new)/\(∀b∈ids,b∈wids σ'.bl)/\kk v (ids++new) σ'.bl=Yd r:=by
    intro h;split at h
    ·cases h
    rename_i vs Ck;split at h
    ·cases h
    rename_i v hv;cases HZ:(JI (wids σ'.bl)&&(LT (ids++new) (wids σ'.bl)&&LT (wids σ'.bl) ids))with
    |false=>rw[HZ]at h;cases h
    |true=>rw[HZ,Ao]at h;obtain⟨c1,c2⟩:=andB HZ;obtain⟨c2,c3⟩:=andB c2;exact⟨vs,v,Ck,hv,Qn c1,WY c2,WY c3,h⟩
   cases e' with
   |normal=>exact⟨.inl rfl,go hk⟩
   |ret=>exact⟨.inr rfl,go hk⟩
   |exit id=>cases hk
  obtain⟨Kh,vs,v,Ck,hv,I0,AM,AEx,hk⟩:=Er;refine⟨v,ids++new,σ'.bl,hk,λbl2 Aj okk base pl w us hr AN=>?_⟩
  let F:Yk->Yb Blk:=λi=>if i∈ids++new then Ye else bl2 i
  have hF:∀b∈ids++new,F b=Ye:=λb hb=>Y7 hb
  have E3:ov F (look (Nb bl ids))=bl2:=by
   funext i;simp only[ov,iD];by_cases hi:i∈ids
   ·rw[Y7 hi]
    have h2:=Aj i (CI _ hi);cases C9:bl i with
    |some B=>simp only;rw[h2,C9]
    |none=>simp only[F,Y7 (CI new hi)];rw[h2,C9]
   ·rw[Y4 hi]
    simp only[F];by_cases hn:i∈ids++new
    ·rw[Y7 hn]
     have Dj:i∈new:=(BV.1 hn).resolve_left hi;rw[Aj i hn,GF i Dj]
    ·rw[Y4 hn]
  have AlE:ov F (look σ'.bl)=updL bl2 σ'.bl:=by
   funext i;rw[Abl I0];simp only[ov];by_cases hi:i∈wids σ'.bl
   ·rw[Y7 hi]
    have:∀{l:Ya (Yk×Blk)},i∈wids l->∃B,look l i=Yd B:=by
     intro l
     induction l with
     |nil=>intro h;simp[wids]at h
     |cons p l ih=>
      intro h;rw[show look (p::l) i=bif Ym i p.1 then Yd p.2 else look l i from EG p.1 p.2 l i];by_cases hp:i=p.1
      ·rw[hp,LO];exact⟨p.2,rfl⟩
      ·rw[IE hp,BU]
       exact ih (by simpa [wids,hp]using h)
    obtain⟨B,hB⟩:=this hi;rw[hB]
   ·rw[Y4 hi,Abk hi]
    simp only[F];by_cases hn:i∈ids++new
    ·rw[Y7 hn]
     have Dj:i∈new:=(BV.1 hn).resolve_left λh=>hi (AEx i h);rw[Aj i hn,GF i Dj]
    ·rw[Y4 hn]
  have N8:us.length<=fn.ntmps:=by rw[VReps.length AN];exact AK
  refine Calls.mono (R:=λe w'=>∃u Ac,e=.returned u/\RelB (⟨okk.f,okk.no,[]⟩:OK0 P) base Ac (updL bl2 σ'.bl) w'/\Step pl bl2 w Ac (updL bl2 σ'.bl) w'/\VRep (Ak (⟨okk.f,okk.no,[]⟩:OK0 P) base Ac (updL bl2 σ'.bl) w') v u) ?_
   (λe w' ⟨u,Ac,h1,h2,h3,h4⟩=>⟨u,Ac,h1,h2.ds okk.ds,h3,h4⟩)
  have hr:=hr.ds [];have AN:VReps (Ak (⟨okk.f,okk.no,[]⟩:OK0 P) base pl bl2 w) args us:=AN;obtain⟨ok0,BS⟩:∃ok0:OK0 P,ok0=⟨okk.f,okk.no,[]⟩:=⟨_,rfl⟩;rw[<-BS]at hr AN⊢;have F4:ok0.ds=[]:=by rw[BS]
  refine calls_of_wp hf hb ?_
  have Vw:Rel fn.ntmps ok0 base pl (look (numV 0 args)) (ov F (look (Nb bl ids))) {tmps:=us.toArray++Ybk (fn.ntmps-us.toArray.size) undef,defers:=[]} w:=by rw[E3];refine⟨F4.symm,by simp;omega,λt v ht=>?_,hr⟩;obtain⟨_,u,h1,h2⟩:=VReps.get AN ht;simp only[Nat.sub_zero]at h1;rw[EQ,VT (by simpa using(Do.1 h1).1),PE,h1];exact h2
  refine Dq (hw ⟨F,hF⟩ ok0 base pl _ w Vw) λe a' w' ⟨he,Ac,AR,B3⟩=>?_;simp only[E3,AlE]at AR B3;obtain⟨vals,AE,M5⟩:=iC hT H5 Ck (blw:=updL bl2 σ'.bl) (λb B h=>by rw[<-AlE];simp only[ov,h]) AR
  have F9:a'.defers=[]/\∃u,(results fn a'.tmps).run P w'=.ok u w'/\(∃u' Ac,Ybj u=.returned u'/\RelB ok0 base Ac (updL bl2 σ'.bl) w'/\Step pl bl2 w Ac (updL bl2 σ'.bl) w'/\VRep (Ak ok0 base Ac (updL bl2 σ'.bl) w') v u'):=
   ⟨AR.defers.trans F4,_,AE,Gk vals,Ac,rfl,AR.rel,B3,Aob M5 hv⟩
  rcases Kh with e1|e1<;>rw[e1]at he<;>subst he<;>exact F9
end
end Go.Lift
namespace Go.Lift
noncomputable section
def GS(R:Ya Yk)(bl:Yk->Yb Blk):Yk->Yb Blk:=λi=>bif memB i R then bl i else Ye
def Nc:Yb Blk->Yk×Yk
 |some (.row _ _ ver _)=>(ver+1,0)
 |some (.tree _ _ ver Am _ _)=>(ver+1,Am)
 |_=>(0,0)
def Abn(f:Yk->Yk×Yk):C->C
 |.row b ver=>.row b (ver+(f b).1)
 |.trow b ver p=>.trow b (ver+tv (f b).1 (f b).2 p) p
 |.tptr b ver p i o=>.tptr b (ver+tv (f b).1 (f b).2 p) p i o
 |c=>c
def SQ(f:Yk->Yk×Yk):Ya C->Ya C
 |[]=>[]
 |c::r=>Abn f c::SQ f r
def Lj(f:Yk->Yk×Yk)(n:Yk×Yk):Blk->Blk
 |.cells t cs=>.cells t (SQ f cs)
 |.row t e ver l=>.row t e (ver+n.1) l
 |.tree t e ver Am h l=>.tree t e (ver+n.1) (Am+n.2) h l
 |.crow t e m cs=>.crow t e m (SQ f cs)
 |B=>B
def iE(f:Yk->Yk×Yk):Ya (Ys×Ya C)->Ya (Ys×Ya C)
 |[]=>[]
 |t::r=>(t.1,SQ f t.2)::iE f r
def Lk(f:Yk->Yk×Yk):Ya Yk->Ya Blk->Ya Blk
 |i::is,B::bs=>Lj f (f i) B::Lk f is bs
 |_,_=>[]
def WZ(bl:Yk->Yb Blk)(R:Ya Yk):Ya Yk->Ys
 |[]=>Yo
 |i::r=>(memB i R||(bl i).isNone)&&WZ bl R r
def BT.hand:Ya BT->Ys
 |[]=>Yo
 |.mat _ _ _::_=>Yc
 |_::r=>BT.hand r
def Abo(ps:Ya (Ys×Ya CT))(is:Ya BT)(bl:Yk->Yb Blk)(nx:Yk)(args:Ya V):Yb (Ya Yk×(ST.dens ps×BT.dens is)):=
 match idsB bl nx is 0 (Sv ps args)with
 |none=>Ye
 |some ids=>
  match GP bl ids ps args with
  |none=>Ye
  |some x=>
   match CS bl ids is ids with
   |none=>Ye
   |some y=>bif JI ids&&!meet (FX ps args++EH bl is ids) ids then Yd (ids,(x,y))else Ye
def SR(R ids:Ya Yk)(bl:Yk->Yb Blk):Yk->Yk×Yk:=λb=>bif memB b ids then Nc (GS R bl b)else(0,0)
def Abp{α:Type}:Ya α->Ys
 |[]=>Yo
 |_::_=>Yc
def Abq{β:Type}(ps rs:Ya (Ys×Ya CT))(is:Ya BT)(run:ST.dens ps×BT.dens is->(ST.dens rs×BT.dens is->Yb β)->Yb β)(bl:Yk->Yb Blk)(nx:Yk)(args:Ya V)(kk:K β):Yb β:=
 match Abo ps is (GS (HH bl 99 (JR args) []) bl) nx args with
 |none=>Ye
 |some (ids,d)=>
  bif WZ bl (HH bl 99 (JR args) []) ids&&((ST.flat rs&&BT.flat is)||Abp (FX ps args++EH (GS (HH bl 99 (JR args) []) bl) is ids))then
   run d λz=>kk (resV (iE (SR (HH bl 99 (JR args) []) ids bl) (mkS ids rs z.1))) (HH bl 99 (JR args) []++ids)
    (ids.zip (Lk (SR (HH bl 99 (JR args) []) ids bl) ids (mkB ids is z.2)))
  else Ye
@[reducible] def hand(S:Spec)(hs:S.outs=S.ins):AbsF:=⟨λ{β} bl nx args kk=>Abq (β:=β) S.params S.res S.ins (λd k=>S.run d (hs▸k)) bl nx args kk⟩
structure Bump (f:Yk->Yk×Yk) (E E':Env):Prop where
 w:E'.w=E.w
 ok:E'.ok=E.ok
 base:E'.base=E.base
 pl:E'.pl=E.pl
 row:∀b t e ver' l,E'.bl b=Yd (.row t e ver' l)->∃ver,E.bl b=Yd (.row t e ver l)/\ver'=ver+(f b).1
 tree:∀b t e ver' By h l,E'.bl b=Yd (.tree t e ver' By h l)->∃ver Am,E.bl b=Yd (.tree t e ver Am h l)/\ver'=ver+(f b).1/\By=Am+(f b).2
 mat:∀b t et e ver Am h l,E'.bl b=Yd (.mat t et e ver Am h l)->E.bl b=Yd (.mat t et e ver Am h l)
 crow:∀b t e n cs,E'.bl b=Yd (.crow t e n cs)->∃cs0,E.bl b=Yd (.crow t e n cs0)
theorem Abr(a b n m:Yk)(p:Path):tv (a+n) (b+m) p=tv a b p+tv n m p:=by cases p<;>simp only[tv]<;>omega
section
variable{f:Yk->Yk×Yk}{E E':Env}
theorem CRep.bump(hb:Bump f E E'):∀{c:C}{v:Yp},CRep E c v->CRep E' (Abn f c) v
 |.bool _,_,h=>h
 |.int _ _,_,h=>h
 |.str _,_,h=>h
 |.err _,_,h=>h
 |.list e l,v,h=>by show DRep E'.w E'.ok _ _ _;rw[hb.w,hb.ok];exact h
 |.nils,_,h=>h
 |.nilc,_,h=>h
 |.lsome e l,v,h=>by show DRep E'.w E'.ok _ _ _/\_;rw[hb.w,hb.ok];exact h
 |.nilp,_,h=>h
 |.ptr b o,v,h=>by show ∃g,E'.pl b=_/\_;rw[hb.pl];exact h
 |.row b ver,v,⟨h1,sv,Ab,h2,h3⟩=>⟨h1,sv,Ab,by rw[hb.pl];exact h2,λt e ver' l h=>by obtain⟨CY,h4,h5⟩:=hb.row b t e ver' l h;obtain⟨h6,h7⟩:=h3 t e CY l h4;exact⟨by omega,λh8=>h7 (by omega)⟩⟩
 |.fn g BI,v,h=>by show ∃gs:Ya Yk,BI.map E'.pl=_/\_;rw[hb.pl];exact h
 |.nilfn,_,h=>h
 |.mapv b,v,h=>by show ∃g,E'.pl b=_/\_;rw[hb.pl];exact h
 |.mat b ver,v,⟨h1,sv,Ab,h2,h3⟩=>⟨h1,sv,Ab,by rw[hb.pl];exact h2,λt et e ver' Am h l hh=>h3 t et e ver' Am h l (hb.mat b _ _ _ _ _ _ _ hh)⟩
 |.mrow b Am i,v,⟨h1,sv,Ab,h2,h3⟩=>⟨h1,sv,Ab,by rw[hb.pl];exact h2,λt et e ver' Am h l hh=>h3 t et e ver' Am h l (hb.mat b _ _ _ _ _ _ _ hh)⟩
 |.sub b ver i j,v,⟨h1,sv,Ab,h2,h3⟩=>⟨h1,sv,Ab,by rw[hb.pl];exact h2,λt e ver' l h=>by obtain⟨CY,h4,h5⟩:=hb.row b t e ver' l h;obtain⟨h6,h7⟩:=h3 t e CY l h4;exact⟨by omega,λh8=>h7 (by omega)⟩⟩
 |.bself b,v,h=>by show _\/∃g,E'.pl b=_/\_;rw[hb.pl];exact h
 |.trow b ver p,v,⟨h1,sv,Ab,h2,h3⟩=>⟨h1,sv,Ab,by rw[hb.pl];exact h2,λt e ver' Am h l hh=>by obtain⟨CY,FS,h4,h5,h8⟩:=hb.tree b t e ver' Am h l hh;obtain⟨h6,h7⟩:=h3 t e CY FS h l h4;rw[h5,h8,Abr];exact⟨by omega,λh8=>h7 (by omega)⟩⟩
 |.bfn g b,v,h=>by show ∃g,E'.pl b=_/\_;rw[hb.pl];exact h
 |.tptr b ver p i o,v,⟨sv,Ab,ad,h2,hv,h3⟩=>⟨sv,Ab,ad,by rw[hb.pl];exact h2,hv,λt e ver' Am h l hh=>by obtain⟨CY,FS,h4,h5,h8⟩:=hb.tree b t e ver' Am h l hh;obtain⟨h6,h7⟩:=h3 t e CY FS h l h4;rw[h5,h8,Abr];exact⟨by omega,λh8=>h7 (by omega)⟩⟩
 |.hrow b,v,⟨h1,sv,Ab,h2,h3⟩=>⟨h1,sv,Ab,by rw[hb.pl];exact h2,λt e n cs h=>by obtain⟨cs0,h4⟩:=hb.crow b t e n cs h;exact h3 t e n cs0 h4⟩
 |.junk,_,h=>h
theorem CReps.bump(hb:Bump f E E'):∀{cs:Ya C}{vs:Ya Yp},CReps E cs vs->CReps E' (SQ f cs) vs
 |[],_,h=>h
 |_::_,_,⟨v,Av,e,h1,h2⟩=>⟨v,Av,e,h1.bump hb,CReps.bump hb h2⟩
theorem TReps.bump(hb:Bump f E E'):∀{ts:Ya (Ys×Ya C)}{vs:Ya Yp},TReps E ts vs->TReps E' (iE f ts) vs
 |[],_,h=>h
 |_::_,_,⟨v,Av,e,⟨xs,h1,h2⟩,h3⟩=>⟨v,Av,e,⟨xs,h1.bump hb,h2⟩,TReps.bump hb h3⟩
theorem FRep.bump(hb:Bump f E E'):∀{l:Ya (Ya Yl×(Y6×Yk))}{es:Ya MapEntry},FRep E l es->FRep E' l es
 |[],_,h=>h
 |_::_,_,⟨e,r,g,h1,h2,h3,h4,h5⟩=>⟨e,r,g,h1,h2,by rw[hb.pl];exact h3,h4,FRep.bump hb h5⟩
theorem BRep.bump(hb:Bump f E E')(n:Yk×Yk){B:Blk}{p:Pl}(h:BRep E B p):BRep E' (Lj f n B) p:=by
 cases B with
 |dead=>exact trivial
 |cells t cs=>
  cases p with
  |row _ _=>exact h.elim
  |cells g=>obtain⟨vs,h1,h2⟩:=h;exact⟨vs,by rw[hb.w];exact h1,h2.bump hb⟩
 |map t k v vg l=>
  cases p with
  |row _ _=>exact h.elim
  |cells g=>obtain⟨es,Ch,h1,h2⟩:=h;exact⟨es,Ch,by rw[hb.w];exact h1,by rw[hb.w,hb.ok];exact h2⟩
 |fmap t l=>
  cases p with
  |row _ _=>exact h.elim
  |cells g=>obtain⟨es,Ch,h1,h2⟩:=h;exact⟨es,Ch,by rw[hb.w];exact h1,h2.bump hb⟩
 |crow t e m cs=>
  cases p with
  |cells _=>exact h.elim
  |row sv Ab=>obtain⟨h0,vs,h1,h2⟩:=h;exact⟨h0,vs,h1.bump hb,by rw[hb.w,hb.base];exact h2⟩
 |row t e ver l=>
  cases p with
  |cells _=>exact h.elim
  |row sv Ab=>obtain⟨h0,xs,h1,h2⟩:=h;exact⟨h0,xs,by rw[hb.w,hb.ok];exact h1,by rw[hb.w,hb.base];exact h2⟩
 |mat t et e ver Am hole l=>
  cases p with
  |cells _=>exact h.elim
  |row sv Ab=>have hM:MatOk E t et e hole l sv Ab:=h;obtain⟨vs,h1,h2⟩:=hM.outer;refine⟨⟨vs,by rw[hb.w,hb.base];exact h1,h2⟩,hM.len,hM.hole,λi s x hs hx=>?_,hM.sep0,hM.sep⟩;obtain⟨xs,h5,h6⟩:=hM.inner i s x hs hx;exact⟨xs,by rw[hb.w,hb.ok];exact h5,by rw[hb.w,hb.base];exact h6⟩
 |tree t e ver Am hole l=>
  cases p with
  |cells _=>exact h.elim
  |row sv Ab=>have hT:TreeOk E t e hole l sv Ab:=h;obtain⟨hv,F,h1,h2,h3⟩:=hT.rep;exact⟨⟨hv,F,by rw[hb.w,hb.ok,hb.base];exact h1,h2,h3⟩,hT.top⟩
end
theorem Abs{f:Nat->Nat×Nat}:∀{ids:List Nat}{Bs:List Blk},ids.length=Bs.length->(Lk f ids Bs).length=Bs.length
 |[],[],_=>rfl
 |_::is,_::bs,h=>by simp only[Lk,Be];rw[Abs (by simpa using h)]
theorem Abt{f:Yk->Yk×Yk}:∀{ids:Ya Yk}{Bs:Ya Blk}{j i:Yk},ids[j]?=Yd i->(Lk f ids Bs)[j]?=(Bs[j]?).map (Lj f (f i))
 |[],_,j,i,h=>by simp at h
 |_::_,[],j,i,_=>by simp[Lk]
 |k::is,B::bs,0,i,h=>by simp only[Dg,Af]at h;subst h;rfl
 |k::is,B::bs,j+1,i,h=>by simp only[Lk,Ee]at h⊢;exact Abt h
theorem Abu{bl:Yk->Yb Blk}{R:Ya Yk}:∀{ids:Ya Yk},WZ bl R ids=Yo->∀i∈ids,i∈R\/bl i=Ye
 |[],_,i,h=>by simp at h
 |j::r,h,i,hi=>by
  obtain⟨h1,h2⟩:=andB h;rcases Bg.1 hi with rfl|hi
  ·simp only[Ik,Option.isNone_iff_eq_none]at h1
   exact h1.imp (λh=>HE.1 h) id
  ·exact Abu h2 i hi
theorem Abv{bl:Yk->Yb Blk}{ids ids2:Ya Yk}{f:Yk->Yk×Yk}:∀{is:Ya BT}{js:Ya Yk}{y y2:BT.dens is},BT.hand is=Yo->CS bl ids is js=Yd y->∀(j i:Yk)(B B':Blk),js[j]?=Yd i->bl i=Yd B->(mkB ids2 is y2)[j]?=Yd B'->∀sv Ab As Bf,KeepR (Yd B) (Yd (Lj f (Nc (Yd B)) B')) sv Ab As Bf
 |[],js,y,y2,_,_,j,i,B,B',_,_,h=>by simp[mkB]at h
 |t::is,[],y,y2,_,h,j,i,B,B',hj,_,_=>by simp at hj
 |t::is,k::js,y,y2,hh,h,0,i,B,B',hj,hB,hm=>by
  obtain⟨⟨_,_,_,_,hs⟩,_⟩:=hU ids2 h;simp only[Dg,Af]at hj;subst hj;rw[hB]at hs;intro sv Ab As Bf;cases t with
  |mat t et e=>cases hh
  |row t e=>
   simp only[mkB,Dg,Af]at hm;subst hm;rcases hs with hs|⟨ver,l,hs⟩
   ·cases hs
   ·injection hs with hs
    subst hs;exact KeepR.ofRow ⟨by simp only[Nc];omega,λh=>Yw h (by simp only[Nc];omega)⟩
  |tree t e=>
   simp only[mkB,Dg,Af]at hm;subst hm;rcases hs with hs|⟨ver,Am,l,hs,_⟩
   ·cases hs
   ·injection hs with hs
    subst hs;exact KeepR.ofTree ⟨by simp only[Nc];omega,by simp only[Nc];omega,λh=>Yw h (by simp only[Nc];omega)⟩
  |cells t l=>simp only[mkB,Dg,Af]at hm;subst hm;exact⟨(λ_ _ _ _ h=>by cases h),(λ_ _ _ _ _ _ _ h=>by cases h),(λ_ _ _ _ _ _ h=>by cases h),λ_ _ _ _ h=>by cases h⟩
  |map t k v vg=>simp only[mkB,Dg,Af]at hm;subst hm;exact⟨(λ_ _ _ _ h=>by cases h),(λ_ _ _ _ _ _ _ h=>by cases h),(λ_ _ _ _ _ _ h=>by cases h),λ_ _ _ _ h=>by cases h⟩
  |fmap t l=>simp only[mkB,Dg,Af]at hm;subst hm;exact⟨(λ_ _ _ _ h=>by cases h),(λ_ _ _ _ _ _ _ h=>by cases h),(λ_ _ _ _ _ _ h=>by cases h),λ_ _ _ _ h=>by cases h⟩
 |t::is,k::js,y,y2,hh,h,j+1,i,B,B',hj,hB,hm=>by
  obtain⟨⟨z,hz,_,_,_⟩,_⟩:=hU ids2 h;have UU:BT.hand is=Yo:=by cases t<;>first|exact hh|cases hh
  have Ha:js[j]?=Yd i:=by simpa using hj
  cases t<;>simp only[mkB,Ee]at hm<;>exact Abv UU hz j i B B' Ha hB hm
theorem Abw{P:Yv}{f:Y6}{S:Spec}(h:SpecOkB P f S)(hs:S.outs=S.ins)(hc:(BT.hand S.ins&&(ST.bnd S.ins.length S.res&&BT.bnd S.ins.length S.ins))=Yo):AbsOk P f (hand S hs):=by
 obtain⟨ps,is0,rs,is,run⟩:=S;simp only at hs hc;subst hs;obtain⟨k1,hc⟩:=andB hc;obtain⟨k4,k5⟩:=andB hc;refine⟨h.fn,λbl nx args kk r hk=>?_⟩;simp only[Abq]at hk;generalize hR:HH bl 99 (JR args) []=R at hk;split at hk
 ·cases hk
 rename_i ids0 d hv;cases xC:(WZ bl R ids0&&((ST.flat rs&&BT.flat is)||Abp (FX ps args++EH (GS R bl) is ids0)))with
 |false=>rw[xC]at hk;cases hk
 |true=>
  rw[xC,Ao]at hk;obtain⟨BS,B9⟩:=andB xC;have BS:=Abu BS
  have B9:(ST.flat rs&&BT.flat is)=Yo\/FX ps args++EH (GS R bl) is ids0=[]:=by
   cases hq:(ST.flat rs&&BT.flat is)with
   |true=>exact .inl rfl
   |false=>
    rw[hq,Ko]at B9;refine .inr ?_;generalize FX ps args++EH (GS R bl) is ids0=q at B9;cases q with
    |nil=>rfl
    |cons _ _=>cases B9
  generalize hf:SR R ids0 bl=fb at hk;obtain⟨z,hz,B8⟩:=h.ok d _ r hk;refine⟨_,_,_,hz,λbl2 Aj ok0 base pl w us hr AN=>?_⟩
  have hagR:GS R bl=GS R bl2:=by
   funext i;simp only[GS];cases hm:memB i R with
   |false=>rfl
   |true=>rw[Ao,Ao,Aj i (CI _ (HE.1 hm))]
  have hidsB:∀i∈ids0,bl2 i=bl i:=λi hi=>Aj i (Da _ hi);generalize hblR:GS R bl2=blR at*;rw[hagR]at hv B9;unfold Abo at hv;split at hv
  ·cases hv
  rename_i ids _;split at hv
  ·cases hv
  rename_i x hx;split at hv
  ·cases hv
  rename_i y hy;cases HZ:(JI ids&&!meet (FX ps args++EH blR is ids) ids)with
  |false=>rw[HZ]at hv;cases hv
  |true=>
   rw[HZ,Ao,Af,Bv]at hv;obtain⟨rfl,rfl⟩:=hv;obtain⟨c3,c4⟩:=andB HZ;have c3:=Qn c3;simp only[PH]at c4;have c4:=WT.1 c4
   have AM:∀i B,blR i=Yd B->bl2 i=Yd B:=λi B hB=>by
    rw[<-hblR]at hB;simp only[GS]at hB;cases hm:memB i R with
    |false=>rw[hm]at hB;cases hB
    |true=>rw[hm]at hB;exact hB
   have GF:∀i∈ids,blR i=Ye->bl2 i=Ye:=λi hi hn=>by
    rcases BS i hi with h|h
    ·rw[<-hblR]at hn
     simp only[GS,HE.2 h,Ao]at hn;exact hn
    ·rw[hidsB i hi];exact h
   have xO:∀i∈ids,∀B,bl2 i=Yd B->blR i=Yd B:=λi hi B hB=>by
    cases hn:blR i with
    |none=>rw[GF i hi hn]at hB;cases hB
    |some B'=>rw[AM i B' hn]at hB;exact hB
   let ER:Env:=envR ok0 base pl bl2 blR w
   have F5:Ext (Ak ok0 base pl bl2 w) ER:=⟨Aw _,λg h _=>⟨h,rfl⟩,λ_ _ h=>h,λb sv Ab h=>⟨sv,Ab,h,KeepR.of_eq (λC hC=>AM b C hC) _ _⟩⟩
   have Ba:VReps ER args us:=by
    have:∀{vs:Ya V}{us:Ya Yp},VReps (Ak ok0 base pl bl2 w) vs us->VReps ER vs us:=by
     intro vs
     induction vs with
     |nil=>intro us h;exact h
     |cons v vs ih=>intro us ⟨u,Cf,e,h1,h2⟩;exact⟨u,Cf,e,VRep.mono F5 h1,ih h2⟩
    exact this AN
   let n:=is.length
   let plv:Yk->Yb Pl:=λb=>(ids[b]?).map (plOf ER)
   let blv:Yk->Yb Blk:=fnBl (mkB (AD 0 is.length) is y)
   let N:Yk->Prop:=λg=>(ST.flat rs&&BT.flat is)=Yc/\g<w.heap.size/\Own pl bl2 g/\¬Own plv blv g
   let ok1:OK0 P:=⟨λg=>ok0 g/\¬N g,λg=>ok0.no g\/N g,ok0.ds⟩
   have R1:FX ps args++EH blR is ids=[]\/ok1=ok0:=by
    rcases B9 with h|h
    ·refine .inr ?_
     have hN:∀g,¬N g:=λg hN=>by have h1:=hN.1;rw[h]at h1;cases h1
     have e1:ok1.f=ok0.f:=by funext g;exact propext ⟨λq=>q.1,λq=>⟨q,hN g⟩⟩
     have e2:ok1.no=ok0.no:=by funext g;exact propext ⟨λq=>q.resolve_right (hN g),.inl⟩
     obtain⟨f0,n0,d0⟩:=ok0;exact congr (congr (Ai OK0.mk e1) e2) rfl
    ·exact .inl h
   obtain⟨B7,hT,AK,Ib,Ah⟩:=Ab5 (ok1:=ok1) hr AM GF hx hy c3 c4 Ba
    (λg h1 h2=>h1.imp (λh=>⟨h,λhN=>h2 hN.2.2.1⟩) λh=>⟨h.1,λhn=>hn.elim h.2 λhN=>h2 hN.2.2.1⟩)
    R1
    (λg hn=>hn.elim (λh=>⟨(hr.glob.no g h).1,λho=>(hr.glob.no g h).2 (Ab4 hr AM hy ho)⟩) λhN=>⟨hN.2.1,hN.2.2.2⟩) (λg hn=>hn.imp id λhN=>.inl hN.2.2.1)
   have R4:∀b i B,ids[b]?=Yd i->bl2 i=Yd B->plv b=pl i:=λb i B hb hB=>by obtain⟨p,hp,_⟩:=hr.blks i B hB;have:=xO i (CN hb) B hB;simp[plv,hb,plOf,ER,envR,this,hp]
   have AEb:∀g,Own plv blv g->Own pl bl2 g:=λg h=>by obtain⟨i,B,p,_,h1,h2,h3,h4⟩:=Ah g h;exact⟨i,B,p,AM i B h1,h2,h3,h4⟩
   refine(B8 ok1 base plv w us hr.baseLe B7 hT).mono λe w' F9=>?_;obtain⟨vals,Ac,rfl,hRo,hS,hTo⟩:=F9
   let blo:Yk->Yb Blk:=fnBl (mkB (AD 0 is.length) is z.2)
   let Eo:Env:=Ak ok1 base Ac blo w'
   let pl3:Yk->Yb Pl:=λi=>match place ids i with|some b=>Ac b|none=>pl i
   have An:∀i,updL bl2 (ids.zip (Lk fb ids (mkB ids is z.2))) i=match place ids i with|some b=>(Lk fb ids (mkB ids is z.2))[b]?|none=>bl2 i:=
    λi=>Aav i c3 (by rw[Abs (by rw[G9];exact AK),G9];exact AK)
   generalize AGv:updL bl2 (ids.zip (Lk fb ids (mkB ids is z.2)))=bl3 at*;have NB:∀i,place ids i=Ye->pl3 i=pl i:=λi h=>by simp only[pl3,h]
   have NC:∀i b,place ids i=Yd b->pl3 i=Ac b:=λi b h=>by simp only[pl3,h]
   have Hv:∀i,place ids i=Ye->bl3 i=bl2 i:=λi h=>by rw[An,h]
   have N0:∀i b,place ids i=Yd b->bl3 i=((mkB ids is z.2)[b]?).map (Lj fb (fb i)):=λi b h=>by rw[An,h];exact Abt (Hn h)
   have H4:∀i b,place ids i=Yd b->b<is.length:=λi b h=>by rw[<-AK];exact(Do.1 (Hn h)).1
   have Kf:∀b,b<is.length->∃B,blo b=Yd B/\B.live=Yo:=λb hb=>by
    have Ay:b<(mkB (AD 0 is.length) is z.2).length:=by rw[G9];exact hb
    exact⟨_,C0 Ay,MY (C0 Ay)⟩
   have CH:∀g,Own pl3 bl3 g->(Own pl bl2 g/\∃i B p,place ids i=Ye/\bl2 i=Yd B/\B.live=Yo/\pl i=Yd p/\p.has g)\/Own Ac blo g:=by
    rintro g ⟨i,B,p,hB,hl,hp,hg⟩;cases AB:place ids i with
    |none=>rw[Hv i AB]at hB;rw[NB i AB]at hp;exact .inl ⟨⟨i,B,p,hB,hl,hp,hg⟩,i,B,p,AB,hB,hl,hp,hg⟩
    |some b=>rw[NC i b AB]at hp;obtain⟨B',hB',F8⟩:=Kf b (H4 i b AB);exact .inr ⟨b,B',p,hB',F8,hp,hg⟩
   have Ph:∀i B p g,place ids i=Ye->bl2 i=Yd B->B.live=Yo->pl i=Yd p->p.has g->w'.heap[g]?=w.heap[g]?/\¬Own Ac blo g:=by
    intro i B p g AB hB hl hp hg;have Ae:g<w.heap.size:=Own.lt hr ⟨i,B,p,hB,hl,hp,hg⟩;refine hS.out g Ae λho=>?_;obtain⟨j,C,q,hj,hC,hlC,hq,Bh⟩:=Ah g ho
    have Az:i≠j:=by rintro rfl;obtain⟨b,hb⟩:=VV hj;rw[Kr c3 hb]at AB;cases AB
    exact hr.sep i j _ _ _ _ g Az hB (AM j C hC) hl hlC hp hq hg Bh
   have DG:Step pl bl2 w pl3 bl3 w':=by
    refine⟨hS.os,hS.tape,hS.output,hS.size,λg Ae ho=>?_,λb g hb=>?_,λb sv Ab hb=>?_⟩
    ·obtain⟨h1,h2⟩:=hS.out g Ae λh=>ho (AEb g h)
     refine⟨h1,λh=>?_⟩;rcases CH g h with h|h
     ·exact ho h.1
     ·exact h2 h
    ·cases AB:place ids b with
     |none=>rw[NB b AB];exact hb
     |some j=>
      rw[NC b j AB];cases hB:bl2 b with
      |none=>rw[hr.fresh b hB]at hb;cases hb
      |some B=>exact hS.cells j g (H4 b j AB) (by rw[R4 j b B (Hn AB) hB];exact hb)
    ·cases AB:place ids b with
     |none=>exact⟨sv,Ab,by rw[NB b AB];exact hb,KeepR.of_eq (λC h=>by rw[Hv b AB]at h;exact h) _ _⟩
     |some j=>
      cases hB:bl2 b with
      |none=>rw[hr.fresh b hB]at hb;cases hb
      |some B=>
       obtain⟨As,Bf,h1⟩:=hS.rows j sv Ab (H4 b j AB) (by rw[R4 j b B (Hn AB) hB];exact hb);refine⟨As,Bf,by rw[NC b j AB];exact h1,?_⟩;have Ae:j<(mkB ids is z.2).length:=by rw[G9];exact H4 b j AB
       have ADs:fb b=Nc (Yd B):=by have hm:memB b ids=Yo:=HE.2 (CN (Hn AB));rw[<-hf];simp only[SR,hm,Ao];rw[hagR,xO b (CN (Hn AB)) B hB]
       rw[N0 b j AB,C0 Ae,Ft,ADs];exact Abv k1 hy j b B _ (Hn AB) (xO b (CN (Hn AB)) B hB) (C0 Ae) _ _ _ _
   let blm:Yk->Yb Blk:=λi=>match place ids i with|some b=>(mkB ids is z.2)[b]?|none=>bl2 i
   have ADc:∀i,place ids i=Ye->blm i=bl2 i:=λi h=>by simp only[blm,h]
   have Al5:∀i b,place ids i=Yd b->blm i=(mkB ids is z.2)[b]?:=λi b h=>by simp only[blm,h]
   let Em:Env:={w:=w',ok:=(Ak ok0 base pl3 bl3 w').ok,base:=base,pl:=pl3,bl:=blm}
   have Al6:Bump fb Em (Ak ok0 base pl3 bl3 w'):=by
    have key:∀i B,bl3 i=Yd B->∃B0,blm i=Yd B0/\((B=B0/\place ids i=Ye)\/B=Lj fb (fb i) B0):=by
     intro i B hB;cases AB:place ids i with
     |none=>rw[Hv i AB]at hB;exact⟨B,by rw[ADc i AB];exact hB,.inl ⟨rfl,rfl⟩⟩
     |some b=>rw[N0 i b AB]at hB;obtain⟨B0,h1,h2⟩:=NQ.1 hB;exact⟨B0,by rw[Al5 i b AB];exact h1,.inr h2.symm⟩
    have hz:∀i,place ids i=Ye->fb i=(0,0):=λi hi=>by
     have hm:memB i ids=Yc:=by
      cases hm:memB i ids with
      |false=>rfl
      |true=>obtain⟨b,hb⟩:=VV (HE.1 hm);rw[Kr c3 hb]at hi;cases hi
     rw[<-hf];simp only[SR,hm,BU]
    refine⟨rfl,rfl,rfl,rfl,λi t e ver l h=>?_,λi t e ver Am hh l h=>?_,λi t et e ver Am hh l h=>?_,λi t e m cs h=>?_⟩
    rotate_left 3
    ·obtain⟨B0,h1,h2⟩:=key i _ h
     rcases h2 with⟨h2,h3⟩|h2
     ·subst h2;exact⟨cs,h1⟩
     ·cases B0<;>simp only[Lj]at h2<;>first|(cases h2;done)|skip
      injection h2 with q1 q2 q3 q4;subst q1 q2 q3;exact⟨_,h1⟩
    ·obtain⟨B0,h1,h2⟩:=key i _ h
     rcases h2 with⟨h2,h3⟩|h2
     ·subst h2;exact⟨ver,h1,by rw[hz i h3];rfl⟩
     ·cases B0<;>simp only[Lj]at h2<;>first|(cases h2;done)|skip
      injection h2 with q1 q2 q3 q4;subst q1 q2 q3;exact⟨_,by rw[eq_of_heq q4];exact h1,rfl⟩
    ·obtain⟨B0,h1,h2⟩:=key i _ h
     rcases h2 with⟨h2,h3⟩|h2
     ·subst h2;exact⟨ver,Am,h1,by rw[hz i h3];rfl,by rw[hz i h3];rfl⟩
     ·cases B0<;>simp only[Lj]at h2<;>first|(cases h2;done)|skip
      injection h2 with q1 q2 q3 q4 q5 q6;subst q1 q2 q3 q4 q5;exact⟨_,_,by rw[eq_of_heq q6];exact h1,rfl,rfl⟩
    ·obtain⟨B0,h1,h2⟩:=key i _ h
     rcases h2 with⟨h2,h3⟩|h2
     ·subst h2;exact h1
     ·cases B0<;>simp only[Lj]at h2<;>first|(cases h2;done)|skip
      exact h2▸h1
   have Ki:(ST.flat rs&&BT.flat is)=Yc\/(ST.flat rs=Yo/\BT.flat is=Yo):=by
    cases hf:(ST.flat rs&&BT.flat is)with
    |false=>exact .inl rfl
    |true=>exact .inr (andB hf)
   have UE:∀(τ:Ty)(x:τ.den)(us:Ya Yp),((ST.flat rs&&BT.flat is)=Yc\/τ.flat=Yo)->DRep Eo.w Eo.ok τ x us->DRep Em.w Em.ok τ x us:=λτ x us xD hd=>by
    rcases xD with hq|hq
    ·refine hd.mono λg hg _=>⟨?_,rfl⟩
     obtain⟨h1,h2⟩:=hg;have hnN:¬N g:=h1.elim (λh=>h.2) λh hN=>h.2 (.inr hN);refine⟨h1.imp (λh=>h.1) λh=>⟨h.1,λhn=>h.2 (.inl hn)⟩,λho=>?_⟩;rcases CH g ho with⟨I2,i,B,p,AB,hB,hl,hp,C7⟩|I2
     ·refine hnN ⟨hq,Own.lt hr I2,I2,λE3=>?_⟩
      obtain⟨j,C,q,hj,hC,hlC,hq,Bh⟩:=Ah g E3
      have Az:i≠j:=by rintro rfl;obtain⟨b,hb⟩:=VV hj;rw[Kr c3 hb]at AB;cases AB
      exact hr.sep i j _ _ _ _ g Az hB (AM j C hC) hl hlC hp hq C7 Bh
     ·exact h2 I2
    ·exact hd.flat hq
   have Vt:Ren2 is.length Eo Em (AD 0 is.length) ids:=by
    have key:∀b,b<is.length->pl3 (ids.getD b 0)=Ac b/\blm (ids.getD b 0)=(mkB ids is z.2)[b]?:=by
     intro b hb;have Ay:b<ids.length:=by omega
     have Hy:ids[b]?=Yd ids[b]:=C0 Ay;have Hx:ids.getD b 0=ids[b]:=by simp[Yn,Hy]
     have Ps:=Kr c3 Hy;rw[Hx];exact⟨NC _ b Ps,Al5 _ b Ps⟩
    refine⟨λb g hb h=>?_,λb sv Ab hb h=>?_⟩
    ·rw[Oj hb]at h
     show pl3 _=_;rw[(key b hb).1];exact h
    ·rw[Oj hb]at h⊢
     refine⟨?_,λt e ver l h2=>?_,λt et e ver Am hole l h2=>?_,λt e ver Am hole l h2=>?_⟩
     ·show pl3 _=_
      rw[(key b hb).1];exact h
     ·have h3:blm (ids.getD b 0)=Yd (.row t e ver l):=h2
      rw[(key b hb).2]at h3;exact MW h3
     ·have h3:blm (ids.getD b 0)=Yd (.mat t et e ver Am hole l):=h2
      rw[(key b hb).2]at h3;exact MX h3
     ·have h3:blm (ids.getD b 0)=Yd (.tree t e ver Am hole l):=h2
      rw[(key b hb).2]at h3;exact gF h3
   refine⟨Gk vals,pl3,rfl,⟨BH hr.baseLe hS.size,λi B hB=>?_,λi j B C p q g Du hB hC hlB' hlC hp hq C7=>?_,λi hi=>?_,hr.glob.out DG.size DG.out⟩,DG,?_⟩
   ·cases AB:place ids i with
    |none=>
     rw[Hv i AB]at hB;obtain⟨p,hp,hBR⟩:=hr.blks i B hB;refine⟨p,by rw[NB i AB];exact hp,?_⟩;cases hl:B.live with
     |false=>cases B<;>first|exact trivial|simp[Blk.live]at hl
     |true=>exact BRep.mono DG.ext hBR λg hg=>(Ph i B p g AB hB hl hp hg).1
    |some b=>obtain⟨Bo,hBo,Ic⟩:=Kf b (H4 i b AB);obtain⟨p,hp,hBR⟩:=hRo.blks b Bo hBo;obtain⟨B',h1,h2,_,_,_,_⟩:=MV Vt (Aw _) UE rfl k5 (Ki.imp id (·.2)) hBo hBR;rw[N0 i b AB,h1,Ft,Af]at hB;subst hB;exact⟨p,by rw[NC i b AB];exact hp,h2.bump Al6 (fb i)⟩
   ·cases AB:place ids i with
    |none=>
     rw[Hv i AB]at hB;rw[NB i AB]at hp;cases Dw:place ids j with
     |none=>rw[Hv j Dw]at hC;rw[NB j Dw]at hq;exact hr.sep i j B C p q g Du hB hC hlB' hlC hp hq C7
     |some b=>rw[NC j b Dw]at hq;intro Bh;obtain⟨Bo,hBo,Ic⟩:=Kf b (H4 j b Dw);exact(Ph i B p g AB hB hlB' hp C7).2 ⟨b,Bo,q,hBo,Ic,hq,Bh⟩
    |some b=>
     rw[NC i b AB]at hp;obtain⟨Bo,hBo,Ic⟩:=Kf b (H4 i b AB);cases Dw:place ids j with
     |none=>rw[Hv j Dw]at hC;rw[NB j Dw]at hq;intro Bh;exact(Ph j C q g Dw hC hlC hq Bh).2 ⟨b,Bo,p,hBo,Ic,hp,C7⟩
     |some b'=>
      rw[NC j b' Dw]at hq;obtain⟨Bo',hBo',wY⟩:=Kf b' (H4 j b' Dw)
      have EX:b≠b':=by rintro rfl;have h1:=Hn AB;have h2:=Hn Dw;rw[h1]at h2;injection h2 with h2;exact Du h2
      exact hRo.sep b b' _ _ p q g EX hBo hBo' Ic wY hp hq C7
   ·cases AB:place ids i with
    |none=>rw[Hv i AB]at hi;rw[NB i AB];exact hr.fresh i hi
    |some b=>rw[N0 i b AB]at hi;have:=H4 i b AB;rw[Option.map_eq_none_iff,PC,G9]at hi;omega
   ·exact TReps.res ((gD Vt UE k4 (Ki.imp id (·.1)) hTo).bump Al6)
@[reducible] def frzA(A:AbsF):AbsF:=⟨λ{_} bl nx args kk=>JO bl (Ct args) (λbl' Dl=>A.run bl' nx (args.map (frzV bl)) Dl) kk⟩
theorem Aod{P:Yv}{f:Y6}{A:AbsF}(h:AbsOk P f A):AbsOk P f (frzA A):=by
 refine⟨h.fn,λbl nx args kk r hk=>?_⟩
 have hk:A.run (updL bl (Db bl (Ct args))) nx (args.map (frzV bl)) (λv rd wr=>kk v (Ct args++rd) (Db bl (Ct args)++wr))=Yd r:=by rw[<-MZ];exact hk
 obtain⟨v,rd,wr,KL,BS⟩:=h.ok _ _ _ _ _ hk;refine⟨v,_,_,KL,λbl2 Aj ok0 base pl w us hr AN=>?_⟩;obtain⟨h1,h2,h3⟩:=freeze (bl:=bl) hr (Ct args) λb hb=>Aj b (CI _ hb)
 have Ek:∀b∈rd,updL bl2 (Db bl (Ct args)) b=updL bl (Db bl (Ct args)) b:=λb hb=>by
  by_cases hm:b∈wids (Db bl (Ct args))
  ·exact Om hm
  ·rw[Gl hm,Gl hm]
   exact Aj b (Da _ hb)
 have key:∀(vs:Ya V)(us:Ya Yp),(∀v∈vs,v∈args)->VReps (Ak ok0 base pl bl2 w) vs us->VReps (Ak ok0 base pl (updL bl2 (Db bl (Ct args))) w) (vs.map (frzV bl)) us:=by
  intro vs
  induction vs with
  |nil=>intro us _ h;exact h
  |cons v vs ih=>rintro us hm ⟨u,Cf,e,q1,q2⟩;exact⟨u,Cf,e,h3 v u (gO (hm v (by simp))) q1,ih Cf (λx hx=>hm x (by simp[hx])) q2⟩
 refine(BS _ Ek ok0 base pl w us h1 (key args us (λ_ h=>h) AN)).mono λe w' ⟨u,Ac,q1,q2,q3,q4⟩=>?_;rw[LY];exact⟨u,Ac,q1,q2,h2.trans q3,q4⟩
end
end Go.Lift
namespace Go.Lift
noncomputable section
open Go.RowKit
universe u
class Sl where
 u:Yk
variable[S:Sl]
def hid{α:Sort u}(a:α):α:=match S.u with|0=>a|_+1=>a
theorem Aq{α:Sort u}(a:α):hid a=a:=by unfold hid;cases S.u<;>rfl
@[reducible] def CT.Fn(R:Type):Ya CT->Type
 |[]=>R
 |.data τ::r=>τ.den->CT.Fn R r
 |.lsome e::r=>Ya e.den->CT.Fn R r
 |.tptrh _ ks _::r=>WayT ks->CT.Fn R r
 |.ptr _ _::r|.rowh _::r|.fn _ _::r|.maph _::r|.math _::r|.bself _::r|.bfnh _ _::r|.trowh _::r|.nilc::r|.nils::r|.junk::r=>CT.Fn R r
@[reducible] def ST.Fn(R:Type):Ya (Ys×Ya CT)->Type
 |[]=>R
 |t::r=>CT.Fn (ST.Fn R r) t.2
@[reducible] def BT.Fn(R:Type):Ya BT->Type
 |[]=>R
 |.cells _ l::r=>CT.Fn (BT.Fn R r) l
 |.row _ e::r=>Ya e.den->BT.Fn R r
 |.map _ k v _::r=>Ya (k.den×v.den)->BT.Fn R r
 |.mat _ _ e::r=>Ya (Ya e.den)->BT.Fn R r
 |.tree _ e::r=>Ya e.ty.den->BT.Fn R r
 |.fmap _ _::r=>BT.Fn R r
def CT.app{R:Type}:(l:Ya CT)->CT.Fn R l->CT.dens l->R
 |[],f,_=>f
 |.data _::r,f,d=>CT.app r (f d.1) d.2
 |.lsome _::r,f,d=>CT.app r (f d.1) d.2
 |.tptrh _ _ _::r,f,d=>CT.app r (f d.1) d.2
 |.ptr _ _::r,f,d|.rowh _::r,f,d|.fn _ _::r,f,d|.maph _::r,f,d|.math _::r,f,d|.bself _::r,f,d|.bfnh _ _::r,f,d|.trowh _::r,f,d|.nilc::r,f,d|.nils::r,f,d|.junk::r,f,d=>CT.app r f d
def ST.app{R:Type}:(l:Ya (Ys×Ya CT))->ST.Fn R l->ST.dens l->R
 |[],f,_=>f
 |t::r,f,d=>ST.app r (CT.app t.2 f d.1) d.2
def BT.app{R:Type}:(l:Ya BT)->BT.Fn R l->BT.dens l->R
 |[],f,_=>f
 |.cells _ l::r,f,d=>BT.app r (CT.app l f d.1) d.2
 |.row _ _::r,f,d=>BT.app r (f d.1) d.2
 |.map _ _ _ _::r,f,d=>BT.app r (f d.1) d.2
 |.mat _ _ _::r,f,d=>BT.app r (f d.1) d.2
 |.tree _ _::r,f,d=>BT.app r (f d.1) d.2
 |.fmap _ _::r,f,d=>BT.app r f d
def CT.lam{R:Type}:(l:Ya CT)->(CT.dens l->R)->CT.Fn R l
 |[],f=>f ()
 |.data _::r,f=>λx=>CT.lam r λd=>f (x,d)
 |.lsome _::r,f=>λx=>CT.lam r λd=>f (x,d)
 |.tptrh _ _ _::r,f=>λx=>CT.lam r λd=>f (x,d)
 |.ptr _ _::r,f|.rowh _::r,f|.fn _ _::r,f|.maph _::r,f|.math _::r,f|.bself _::r,f|.bfnh _ _::r,f|.trowh _::r,f|.nilc::r,f|.nils::r,f|.junk::r,f=>CT.lam r f
def ST.lam{R:Type}:(l:Ya (Ys×Ya CT))->(ST.dens l->R)->ST.Fn R l
 |[],f=>f ()
 |t::r,f=>CT.lam t.2 λa=>ST.lam r λd=>f (a,d)
def BT.lam{R:Type}:(l:Ya BT)->(BT.dens l->R)->BT.Fn R l
 |[],f=>f ()
 |.cells _ l::r,f=>CT.lam l λa=>BT.lam r λd=>f (a,d)
 |.row _ _::r,f=>λx=>BT.lam r λd=>f (x,d)
 |.map _ _ _ _::r,f=>λx=>BT.lam r λd=>f (x,d)
 |.mat _ _ _::r,f=>λx=>BT.lam r λd=>f (x,d)
 |.tree _ _::r,f=>λx=>BT.lam r λd=>f (x,d)
 |.fmap _ _::r,f=>BT.lam r f
@[reducible] def VF(R:Type)(s:Ya (Ys×Ya CT))(b:Ya BT):Type:=ST.Fn (BT.Fn R b) s
def vapp{R:Type}(s:Ya (Ys×Ya CT))(b:Ya BT)(f:VF R s b)(d:ST.dens s×BT.dens b):R:=BT.app b (ST.app s f d.1) d.2
def vlam{R:Type}(s:Ya (Ys×Ya CT))(b:Ya BT)(g:ST.dens s×BT.dens b->R):VF R s b:=ST.lam s λx=>BT.lam b λy=>g (x,y)
def CT.some?:Ya CT->Ys
 |[]=>Yc
 |.data _::_=>Yo
 |.lsome _::_=>Yo
 |.tptrh _ _ _::_=>Yo
 |.ptr _ _::r|.rowh _::r|.fn _ _::r|.maph _::r|.math _::r|.bself _::r|.bfnh _ _::r|.trowh _::r|.nilc::r|.nils::r|.junk::r=>CT.some? r
def ST.some?:Ya (Ys×Ya CT)->Ys
 |[]=>Yc
 |t::r=>CT.some? t.2||ST.some? r
def BT.some?:Ya BT->Ys
 |[]=>Yc
 |.cells _ l::r=>CT.some? l||BT.some? r
 |.fmap _ _::r=>BT.some? r
 |_::_=>Yo
@[reducible] def selT(A B:Type):Ys->Type
 |true=>A
 |false=>B
@[reducible] def KF(R:Type)(s:Ya (Ys×Ya CT))(b:Ya BT):Type:=selT (VF R s b) (Unit->VF R s b) (ST.some? s||BT.some? b)
def selk{R:Type}{s:Ya (Ys×Ya CT)}{b:Ya BT}(f:VF R s b):(c:Ys)->selT (VF R s b) (Unit->VF R s b) c
 |true=>f
 |false=>λ_=>f
def klam{R:Type}(s:Ya (Ys×Ya CT))(b:Ya BT)(g:ST.dens s×BT.dens b->R):KF R s b:=selk (vlam s b g) _
def sgE(ps:Ya (Ys×Ya CT))(is:Ya BT)(rs:Ya (Ys×Ya CT))(os:Ya BT)(f:(β:Type)->VF (KF (Yb β) rs os->Yb β) ps is):Spec:=
 ⟨ps,is,rs,os,λ{β} x k=>vapp ps is (f β) x (klam rs os k)⟩
abbrev sg(ps:Ya (Ys×Ya CT))(is:Ya BT)(rs:Ya (Ys×Ya CT))(os:Ya BT)(f:{β:Type}->VF (KF (Yb β) rs os->Yb β) ps is):Spec:=sgE ps is rs os λβ=>f (β:=β)
theorem iF{F:Type->Type}(s:(β:Type)->F β):(λβ=>hid (s β))=s:=funext λβ=>Aq (s β)
@[reducible] def OF(β R:Type):Ya (AExit×View)->Type
 |[]=>R
 |x::r=>KF (Yb β) x.2.params x.2.ins->OF β R r
def oapp{β R:Type}:(l:Ya (AExit×View))->OF β R l->Outs.K β l->R
 |[],f,_=>f
 |x::r,f,ks=>oapp r (f (klam x.2.params x.2.ins ks.1)) ks.2
abbrev Pc.T(p:Pc)(β:Type):Type:=OF β (VF (Yb β) p.v.params p.v.ins) p.o
def Pc.un(p:Pc)(f:(β:Type)->p.T β):p.G:=λ{β} d ks=>vapp _ _ (oapp p.o (f β) ks) d
def Aoe(P:Yv)(f:Yk):Fun->Prop
 |.spec S=>SpecOk P f S
 |.rows F=>RowOk P f F
 |.bld F=>BldOk P f F
 |.abs A=>AbsOk P f A
structure Ent (P:Yv) where
 no:Yk
 F:Fun
 ok:Aoe P no F
def Ent.of{P:Yv}{no:Yk}{S:Spec}(h:SpecOk P no S):Ent P:=⟨no,.spec S,h⟩
@[reducible] def gam{P:Yv}(l:Ya (Ent P)):Yk->Yb Fun:=Bb (l.map λe=>(e.no,e.F))
theorem Kt{P:Yv}:∀l:Ya (Ent P),ΓOk P (gam l)
 |[]=>ΓOk_nil
 |⟨_,.spec _,h⟩::l=>ΓOk_cons h (Kt l)
 |⟨_,.rows _,h⟩::l=>ΓOk_row h (Kt l)
 |⟨_,.bld _,h⟩::l=>ΓOk_bld h (Kt l)
 |⟨_,.abs _,h⟩::l=>ΓOk_abs h (Kt l)
structure PB (P:Yv) where
 q:Yk
 p:Pc
 f:(β:Type)->p.T β
 ok:p.Ok P (p.un f)
@[reducible] def cuts{P:Yv}(l:Ya (PB P)):Yk->Yb Cut:=Bb (l.map λb=>(b.q,b.p.cut (b.p.un b.f)))
theorem Xa{P:Yv}{n m q:Yk}{c:Code}:∀{l:Ya (PB P)},l.map (λb=>(find b.q q c,b.p.v.m,b.p.n,b.p.m))=l.map (λb=>([b.p.c],m,n,m))->Na P n m q c (cuts l)
 |[],_=>DA
 |b::l,h=>by simp only[CP,CK,Bv]at h;obtain⟨⟨h1,h2,h3,h4⟩,h5⟩:=h;have hb:=b.ok;unfold Pc.Ok at hb;rw[h3,h4]at hb;exact Abc h1 h2 hb (Xa h5)
theorem Abx{P:Yv}(C5:P.follows .mixedOrders=Yo){X:Ctx}(hT:TOk P X.T)(es:Ya (Ent P))(hX:X.Γ=gam es)(cs:Ya (PB P)){ps rs:Ya (Ys×Ya CT)}{is os:Ya BT}{f:Y6}{fn:Func}(vs:Ya RS){s:(β:Type)->VF (KF (Yb β) rs os->Yb β) ps is}(hf:P.funcs[f]?=Yd fn)(hc:((fn.name== "runtime.NumGoroutine"),fn.body,fn.results.toList,(Ym vs.length rs.length&&(ST.tidy rs&&YB ps.length fn.ntmps)),cs.map (λb=>(find b.q 1 (AA fn),b.p.v.m,b.p.n,b.p.m)))=(Yc,Yd (AA fn),vs.map RS.toVar,Yo,cs.map (λb=>([b.p.c],is.length,fn.ntmps,is.length))))(h:∀{β:Type}(x:ST.dens ps×BT.dens is)(k:ST.dens rs×BT.dens os->Yb β),exec X fn.ntmps (cuts cs) 1 (AA fn) ((vIn (sgE ps is rs os s)).mk' x) (retK X.T (sgE ps is rs os s) vs k)=vapp ps is (s β) x (klam rs os k)):SpecOkB P f (sgE ps is rs os λβ=>hid (s β)):=by
 simp only[Bv]at hc;obtain⟨h1,h2,h3,h4,h5⟩:=hc;rw[iF];exact pcSB C5 X hT (hX▸Kt es) (cuts cs) vs hf h1 h2 h3 h4 (Xa h5) h
theorem iG{P:Yv}(C5:P.follows .mixedOrders=Yo){X:Ctx}(hT:TOk P X.T)(es:Ya (Ent P))(hX:X.Γ=gam es)(cs:Ya (PB P)){ps rs:Ya (Ys×Ya CT)}{is os:Ya BT}{f:Y6}{fn:Func}(vs:Ya RS){s:(β:Type)->VF (KF (Yb β) rs os->Yb β) ps is}(hf:P.funcs[f]?=Yd fn)(hc:((fn.name== "runtime.NumGoroutine"),fn.body,fn.results.toList,(Ym vs.length rs.length&&(ST.tidy rs&&YB ps.length fn.ntmps)),cs.map (λb=>(find b.q 1 (AA fn),b.p.v.m,b.p.n,b.p.m)))=(Yc,Yd (AA fn),vs.map RS.toVar,Yo,cs.map (λb=>([b.p.c],is.length,fn.ntmps,is.length))))(h:∀{β:Type}(x:ST.dens ps×BT.dens is)(k:ST.dens rs×BT.dens os->Yb β),exec X fn.ntmps (cuts cs) 1 (AA fn) ((vIn (sgE ps is rs os s)).mk' x) (retK X.T (sgE ps is rs os s) vs k)=vapp ps is (s β) x (klam rs os k)):SpecOk P f (sgE ps is rs os λβ=>hid (s β)):=(Abx C5 hT es hX cs vs hf hc h).spec
theorem Qx{P:Yv}(C5:P.follows .mixedOrders=Yo){X:Ctx}(hT:TOk P X.T)(es:Ya (Ent P))(hX:X.Γ=gam es)(cs:Ya (PB P)){p:Pc}{g:Yk->(β:Type)->p.T β}(hc:((p.o.all λx=>Ym x.2.m p.m),cs.map (λb=>(find b.q 1 (Gm p.c),b.p.v.m,b.p.n,b.p.m)))=(Yo,cs.map (λb=>([b.p.c],p.m,p.n,p.m))))(hv:p.v.m=p.m)(hl:p.c=.loop (Gm p.c))(h0:∀{β:Type}(d:p.v.den)(ks:Outs.K β p.o),p.un (g 0) d ks=Ye)(h:∀(i:Yk){β:Type}(d:p.v.den)(ks:Outs.K β p.o),exec X p.n (cuts cs) 1 (Gm p.c) (p.v.mk' d) (SP p.v (λd'=>p.un (g i) d' ks) p.o ks)=p.un (g (i+1)) d ks):p.Ok P (p.un λβ=>hid (g fuel β)):=by
 simp only[Bv]at hc;rw[iF];exact pcL C5 X hT (hX▸Kt es) (G:=λi=>p.un (g i)) (cuts cs) hl hv hc.1 (Xa hc.2) h0 h fuel
theorem Xb{P:Yv}(C5:P.follows .mixedOrders=Yo){X:Ctx}(hT:TOk P X.T)(es:Ya (Ent P))(hX:X.Γ=gam es)(cs:Ya (PB P))(q:Yk){p:Pc}{g:(β:Type)->p.T β}(hc:((p.o.all λx=>Ym x.2.m p.m),cs.map (λb=>(find b.q q p.c,b.p.v.m,b.p.n,b.p.m)))=(Yo,cs.map (λb=>([b.p.c],p.m,p.n,p.m))))(h:∀{β:Type}(d:p.v.den)(ks:Outs.K β p.o),exec X p.n (cuts cs) q p.c (p.v.mk' d) (outK p.o ks)=p.un g d ks):p.Ok P (p.un λβ=>hid (g β)):=by
 simp only[Bv]at hc;rw[iF];exact pcE C5 X hT (hX▸Kt es) q (cuts cs) hc.1 (Xa hc.2) h
noncomputable def Ent.inl{P:Yv}(C5:P.follows .mixedOrders=Yo){X:Ctx}(hT:TOk P X.T)(es:Ya (Ent P))(hX:X.Γ=gam es){no:Yk}{fn:Func}{rs:Ya RS}(m:Yk)(hf:P.funcs[no]?=Yd fn)(hc:((fn.name== "runtime.NumGoroutine"),fn.body,fn.results.toList)=(Yc,Yd (AA fn),rs.map RS.toVar)):Ent P:=
 ⟨no,.abs (Go.Lift.inl X fn.ntmps (AA fn) rs m),Aoc C5 hT (hX▸Kt es) m hf hc⟩
noncomputable def Ent.hand{P:Yv}{no:Yk}{S:Spec}(h:SpecOkB P no S)(hs:S.outs=S.ins)(hc:(BT.hand S.ins&&(ST.bnd S.ins.length S.res&&BT.bnd S.ins.length S.ins))=Yo):Ent P:=
 ⟨no,.abs (Go.Lift.hand S hs),Abw h hs hc⟩
noncomputable def Ent.handf{P:Yv}{no:Yk}{S:Spec}(h:SpecOkB P no S)(hs:S.outs=S.ins)(hc:(BT.hand S.ins&&(ST.bnd S.ins.length S.res&&BT.bnd S.ins.length S.ins))=Yo):Ent P:=
 ⟨no,.abs (frzA (Go.Lift.hand S hs)),Aod (Abw h hs hc)⟩
noncomputable def Ent.stub{P:Yv}(no:Yk)(hf:∃fn,P.funcs[no]?=Yd fn/\(fn.name== "runtime.NumGoroutine")=Yc/\fn.body.isNone=Yc):Ent P:=
 ⟨no,.abs ⟨λ_ _ _ _=>Ye⟩,hf,λ_ _ _ _ _ h=>nomatch h⟩
end
end Go.Lift
namespace Go.Lift
open Go.RowKit
def Raw(w:Yx)(g:Yk)(e:Yq)(ys:Ya Yp):Prop:=w.heap[g]?=Yd (.cells ys.toArray e (0,0))
def ovr(ys:Ya Yp)(o:Yk)(us:Ya Yp):Ya Yp:=ys.take o++us++ys.drop (o+us.length)
theorem IJ{ys:Ya Yp}{o:Yk}{us:Ya Yp}(h:o+us.length<=ys.length):(ovr ys o us).length=ys.length:=by simp only[ovr,Bd,CJ,GN];omega
theorem Aof(ys:Ya Yp)(o:Yk):ovr ys o []=ys:=by simp[ovr]
section
variable{P:Yv}{w:Yx}{g:Yk}{e:Yq}{ys:Ya Yp}
theorem Raw.drew(h:Raw w g e ys):Raw w.drew g e ys:=h
theorem Raw.cell(h:Raw w g e ys){j:Yk}{u:Yp}(hj:ys[j]?=Yd u):w.cell? ⟨g,j,Ye⟩=Yd u:=by have h:w.heap[g]?=Yd (.cells ys.toArray e (0,0)):=h;simp[World.cell?,h,hj]
theorem Raw.frozen(h:Raw w g e ys)(j:Yk):w.frozen? ⟨g,j,Ye⟩=Yc:=by have h:w.heap[g]?=Yd (.cells ys.toArray e (0,0)):=h;simp[World.frozen?,h]
theorem Raw.lt(h:Raw w g e ys):g<w.heap.size:=(Fb.1 h).1
theorem Oq{r:Yb Yk}:w.grownBy w.drew r:=⟨rfl,rfl,rfl,Aw _,λ_ _ _=>rfl⟩
theorem Mc{r:Yb Yk}:w.grownBy w r:=⟨rfl,rfl,rfl,Aw _,λ_ _ _=>rfl⟩
theorem Qy{w1 w2:Yx}{r:Yb Yk}(h1:w.grownBy w1 r)(h2:w1.grownBy w2 r):w.grownBy w2 r:=
 ⟨h2.os.trans h1.os,h2.tape.trans h1.tape,h2.output.trans h1.output,BH h1.size h2.size,λk hk Az=>(h2.block k (Ij hk h1.size) Az).trans (h1.block k hk Az)⟩
theorem Ot(h:Raw w g e ys){us:Ya Yp}(h1:∀u∈us,u.oneCell'=Yo){o:Yk}(Bx:o+us.length<=ys.length):∃w',(storeCells ⟨g,o,Ye⟩ us).run P w=.ok () w'/\w.grownBy w' (Yd g)/\Raw w' g e (ovr ys o us):=by
 have AY:=run_storeCells_at P g o e us 0 ys.toArray w h (by simpa using Bx) h1;simp only[Ybf]at AY;exact⟨_,AY,WJ w g _,setRow_heap w g _ _ e _ h⟩
theorem Aog{t:Yq}{i:TypeInfo}(ht:P.underlying t=Yd (.slice e))(hi:P.info? e=Yd i)(h:Raw w g e ys){n cap m c:Yk}{A:Addr}{us:Ya Yp}(AN:us.length=m*i.size)(hr:∀j u,us[j]?=Yd u->w.cell? (A.add j)=Yd u)(h1:∀u∈us,u.oneCell'=Yo)(Cj:n+m<=cap)(Bx:n*i.size+us.length<=ys.length):∃w',(∀ty,(YE #[t,t] ty #[.slice (Yd ⟨g,0,Ye⟩) n cap,.slice (Yd A) m c]).run P w=.ok (.slice (Yd ⟨g,0,Ye⟩) (n+m) cap) w')/\w.grownBy w' (Yd g)/\Raw w' g e (ovr ys (n*i.size) us):=by
 obtain⟨w',AY,hg,hR⟩:=Ot (P:=P) h h1 Bx;refine⟨w',λty=>?_,hg,hR⟩;have Rz:=run_firstCells_some (P:=P) w i.size m A m c us AN hr;have ha:(Addr.mk g 0 Ye).add (n*i.size)=⟨g,n*i.size,Ye⟩:=by simp[Addr.add_lit]
 simp[YE,Yu ht,sizeOf,typeInfo,hi,Yaf,Cj,Rz,ha,AY]
theorem iH{t:Yq}{z:Yp}(ht:P.underlying t=Yd (.slice e))(hz:∀w,(zeroValue e).run P w=.ok z w)(h1:∀u∈z.cells.toList,u.oneCell'=Yo)(hk:0<z.cells.size)(h:Raw w g e ys){o n c:Yk}(Bx:o+n*z.cells.size<=ys.length):∃w',(∀ty,(Yas #[t] ty #[.slice (Yd ⟨g,o,Ye⟩) n c]).run P w=.ok (.tuple #[]) w')/\w.grownBy w' (Yd g)/\Raw w' g e (ovr ys o (repL n z.cells.toList)):=by
 rcases RP n with rfl|hn
 ·refine⟨w,λty=>?_,Mc,?_⟩
  ·simp[Yas,Yu ht]
  ·have:repL 0 z.cells.toList=[]:=rfl
   rw[this,Aof];exact h
 ·have AK:∀n,(repL n z.cells.toList).length=n*z.cells.size:=λn=>by rw[<-SG z.cells hk n];simp[Yau]
  have D1:∀n,∀u∈repL n z.cells.toList,u.oneCell'=Yo:=λn=>by rw[<-SG z.cells hk n];intro u hu;simp only[Yau,PI,Fw]at hu;obtain⟨q,_,rfl⟩:=hu;have hq:q%z.cells.size<z.cells.size:=Nat.mod_lt _ hk;rw[getElem!_pos z.cells _ hq];exact h1 _ (Array.getElem_mem_toList _)
  obtain⟨w',AY,hg,hR⟩:=Ot (P:=P) h (D1 n) (o:=o) (by rw[AK];exact Bx);refine⟨w',λty=>?_,hg,hR⟩;obtain⟨m,rfl⟩:∃m,n=m+1:=⟨n-1,by omega⟩;have V8:=SG z.cells hk (m+1);simp only[Yas,Yu ht,hz,V8,YA,Y5,PE,Dg,YO];rw[AY];rfl
theorem Nd{t tS:Yq}{i:TypeInfo}(ht:P.underlying t=Yd (.slice e))(hi:P.info? e=Yd i)(h:Raw w g e ys){o dLen dCap sLen sCap:Yk}{A:Addr}{us:Ya Yp}(AN:us.length=YS sLen dLen*i.size)(hr:∀j u,us[j]?=Yd u->w.cell? (A.add j)=Yd u)(h1:∀u∈us,u.oneCell'=Yo)(Bx:o+us.length<=ys.length):∃w',(∀ty,(Yam #[t,tS] ty #[.slice (Yd ⟨g,o,Ye⟩) dLen dCap,.slice (Yd A) sLen sCap]).run P w=.ok (goInt (YS sLen dLen)) w')/\w.grownBy w' (Yd g)/\Raw w' g e (ovr ys o us):=by
 obtain⟨w',AY,hg,hR⟩:=Ot (P:=P) h h1 Bx;refine⟨w',λty=>?_,hg,hR⟩;have hl:=run_loadCells_list (P:=P) w A us hr;rw[AN]at hl;simp[Yam,Yu ht,Yaf,YR,sizeOf,typeInfo,hi,hl,AY]
end
end Go.Lift
namespace Go.Lift
open Go.RowKit
abbrev HI(et:Yq)(e:Ty)(bytes:Yk):Spec:={params:=[(Yc,[.lsome e])],ins:=[],res:=[(Yc,[.rowh 0])],outs:=[.row et e],run:=λx k=>Yr (Yf ((([]:Ya e.den).length+x.1.1.1.length)*bytes<=Cn)) (k (((),()),(([]:Ya e.den)++x.1.1.1,()))) Ye}
abbrev HJ(et:Yq)(e:Ty):Spec:={params:=[(Yc,[.nilc])],ins:=[],res:=[(Yc,[.rowh 0])],outs:=[.row et e],run:=λ_ k=>k (((),()),(([]:Ya e.den),()))}
abbrev Aoh(et:Yq)(e:Ty)(run:{β:Type}->Ya e.den->(Ya e.den->Yb β)->Yb β):Spec:={params:=[(Yc,[.data (.slice e)])],ins:=[],res:=[(Yc,[.rowh 0])],outs:=[.row et e],run:=λx k=>run x.1.1.1 (λy=>k (((),()),(y,())))}
@[reducible] def FM(e:Ty)(bytes:Yk){β:Type}(l:Ya e.den)(k:Ya e.den->Yb β):Yb β:=
 Yr (Yf (l.length*bytes<=Cn)) (k l) Ye
theorem Ip{P:Yv}{f:Y6}{et:Yq}{e:Ty}{bytes:Yk}(hs:Yz 0 e.size=Yo)(h1:SpecOk P f (HI et e bytes))(h2:SpecOk P f (HJ et e)):SpecOk P f (Aoh et e (FM e bytes)):=by
 refine⟨h1.fn,λ{β} x k r hr=>?_⟩;obtain⟨⟨⟨l,u⟩,u2⟩,u3⟩:=x
 have hc:l.length*bytes<=Cn/\k (((),()),(l,()))=Yd r:=by
  simp only[FM]at hr;by_cases h:l.length*bytes<=Cn
  ·simp only[h,decide_true,Ao]at hr
   exact⟨h,hr⟩
  ·simp[h]at hr
 obtain⟨Bx,hk⟩:=hc;refine⟨(((),()),(l,())),hk,λok0 pl w args B7 Ba=>?_⟩;obtain⟨v,Av,eargs,⟨us,AN,hv⟩,ht⟩:=Ba;subst eargs;simp only[G3,Cb]at hv;subst hv;obtain⟨v',vs2,e2,hv,hn⟩:=AN;simp only[CK]at e2;obtain⟨rfl,rfl⟩:=e2;have hd:DRep _ _ (.slice e) l [v]:=hv;by_cases C6:∀n c,v≠.slice Ye n c
 ·obtain⟨y,hy,B8⟩:=h1.ok (((l,()),()),()) (λz=>Yd z) (((),()),(([]:Ya e.den)++l,())) (by simp[Bx])
  simp only[Af]at hy;subst hy;have Ck:Av=[]:=ht;subst Ck;refine B8 ok0 pl w [v] B7 ⟨v,[],rfl,⟨[v],⟨v,[],rfl,⟨hd,C6⟩,rfl⟩,rfl⟩,rfl⟩
 ·have Fl:∃n c,v=.slice Ye n c:=by refine Classical.byContradiction λhh=>C6 λn c he=>hh ⟨n,c,he⟩
  obtain⟨n,c,rfl⟩:=Fl;simp only[DRep]at hd;obtain⟨A,c',xs,e1,hl,C4,L2,hx⟩:=hd;simp only[CK,Ef,Value.slice.injEq]at e1;obtain⟨rfl,rfl,rfl⟩:=e1
  have Ad:xs=[]:=by
   cases xs with
   |nil=>rfl
   |cons a as=>obtain⟨ad,h,_⟩:=hx 0 a rfl;cases h
  have EN:l.length=0:=by
   have:=DList.length L2;rw[Ad]at this;have Hd:0<e.size:=Dp hs;simp only[BP]at this;rcases Nat.mul_eq_zero.1 this.symm with h|h
   ·exact h
   ·omega
  have Ea:l=[]:=FT EN;subst Ea;obtain⟨y,hy,B8⟩:=h2.ok (((),()),()) (λz=>Yd z) (((),()),(([]:Ya e.den),())) rfl;simp only[Af]at hy;subst hy;have Ck:Av=[]:=ht;subst Ck;refine B8 ok0 pl w _ B7 ⟨.slice Ye 0 c,[],rfl,⟨[.slice Ye 0 c],⟨.slice Ye 0 c,[],rfl,⟨c,rfl⟩,rfl⟩,rfl⟩,rfl⟩
end Go.Lift
namespace Go.Lift
noncomputable section
open Go.RowKit
section
theorem CT.app_lam{R:Type}:∀(l:Ya CT)(f:CT.dens l->R)(d:CT.dens l),CT.app l (CT.lam l f) d=f d
 |[],_,_=>rfl
 |c::r,f,d=>by cases c<;>first|exact CT.app_lam r _ d|exact CT.app_lam r _ d.2
theorem ST.app_lam{R:Type}:∀(l:Ya (Ys×Ya CT))(f:ST.dens l->R)(d:ST.dens l),ST.app l (ST.lam l f) d=f d
 |[],_,_=>rfl
 |t::r,f,d=>by show ST.app r (CT.app t.2 (CT.lam t.2 λa=>ST.lam r λd=>f (a,d)) d.1) d.2=_;rw[CT.app_lam,ST.app_lam]
theorem BT.app_lam{R:Type}:∀(l:Ya BT)(f:BT.dens l->R)(d:BT.dens l),BT.app l (BT.lam l f) d=f d
 |[],_,_=>rfl
 |.cells _ l::r,f,d=>by show BT.app r (CT.app l (CT.lam l λa=>BT.lam r λd=>f (a,d)) d.1) d.2=_;rw[CT.app_lam,BT.app_lam]
 |.row _ _::r,f,d=>BT.app_lam r _ d.2
 |.map _ _ _ _::r,f,d=>BT.app_lam r _ d.2
 |.mat _ _ _::r,f,d=>BT.app_lam r _ d.2
 |.tree _ _::r,f,d=>BT.app_lam r _ d.2
 |.fmap _ _::r,f,d=>BT.app_lam r _ d
theorem Aby{R:Type}(s:Ya (Ys×Ya CT))(b:Ya BT)(g:ST.dens s×BT.dens b->R)(d:ST.dens s×BT.dens b):vapp s b (vlam s b g) d=g d:=by unfold vapp vlam;rw[ST.app_lam,BT.app_lam]
def selu{A:Type}:(c:Ys)->selT A (Unit->A) c->A
 |true,f=>f
 |false,f=>f ()
def kapp{R:Type}(s:Ya (Ys×Ya CT))(b:Ya BT)(f:KF R s b):ST.dens s×BT.dens b->R:=vapp s b (selu _ f)
theorem Aoi{R:Type}{s:Ya (Ys×Ya CT)}{b:Ya BT}(f:VF R s b):∀c,selu c (selk (s:=s) (b:=b) f c)=f
 |true=>rfl
 |false=>rfl
theorem Aoj{R:Type}(s:Ya (Ys×Ya CT))(b:Ya BT)(k:ST.dens s×BT.dens b->R):kapp s b (klam s b k)=k:=by funext d;unfold kapp klam;rw[Aoi,Aby]
end
variable[S:Sl]
def Xc(X:Ctx)(n:Yk)(c:Code)(ps:Ya (Ys×Ya CT))(is:Ya BT)(rs:Ya (Ys×Ya CT))(os:Ya BT)(vs:Ya RS){β:Type}(x:ST.dens ps×BT.dens is)(k:ST.dens rs×BT.dens os->Yb β):Yb β:=
 exec X n (λ_=>Ye) 1 c ((vIn ⟨ps,is,rs,os,λ_ _=>Ye⟩).mk' x) (retK X.T ⟨ps,is,rs,os,λ_ _=>Ye⟩ vs k)
theorem Abz(X:Ctx)(n:Yk)(c:Code){ps:Ya (Ys×Ya CT)}{is:Ya BT}{rs:Ya (Ys×Ya CT)}{os:Ya BT}(vs:Ya RS)(run:{β:Type}->ST.dens ps×BT.dens is->(ST.dens rs×BT.dens os->Yb β)->Yb β){β:Type}(x:ST.dens ps×BT.dens is)(k:ST.dens rs×BT.dens os->Yb β):exec X n (λ_=>Ye) 1 c ((vIn ⟨ps,is,rs,os,run⟩).mk' x) (retK X.T ⟨ps,is,rs,os,run⟩ vs k)=Xc X n c ps is rs os vs x k:=by
 have:retK X.T ⟨ps,is,rs,os,run⟩ vs k=retK X.T ⟨ps,is,rs,os,λ_ _=>Ye⟩ vs k:=by funext e σ;cases e<;>first|rfl|kernel_rfl
 rw[this];rfl
theorem Fe{P:Yv}(C5:P.follows .mixedOrders=Yo){X:Ctx}(hT:TOk P X.T)(es:Ya (Ent P))(hX:X.Γ=gam es){ps rs:Ya (Ys×Ya CT)}{is os:Ya BT}{f:Y6}{fn:Func}(vs:Ya RS)(hf:P.funcs[f]?=Yd fn)(hc:((fn.name== "runtime.NumGoroutine"),fn.body,fn.results.toList,(Ym vs.length rs.length&&(ST.tidy rs&&YB ps.length fn.ntmps)))=(Yc,Yd (AA fn),vs.map RS.toVar,Yo)):SpecOkB P f ⟨ps,is,rs,os,λ{_} x k=>Xc X fn.ntmps (AA fn) ps is rs os vs x k⟩:=by
 simp only[Bv]at hc;obtain⟨h1,h2,h3,h4⟩:=hc;exact WW C5 hT (hX▸Kt es) (Λ:=λ_=>Ye) hf h1 h2 h3 h4 (λ_ _ h=>nomatch h) λx k r hr=>(Abz X fn.ntmps (AA fn) vs _ x k).trans hr
noncomputable def Ent.auto{P:Yv}(C5:P.follows .mixedOrders=Yo){X:Ctx}(hT:TOk P X.T)(es:Ya (Ent P))(hX:X.Γ=gam es)(ps:Ya (Ys×Ya CT))(is:Ya BT)(rs:Ya (Ys×Ya CT))(os:Ya BT){f:Y6}{fn:Func}(vs:Ya RS)(hf:P.funcs[f]?=Yd fn)(hc:((fn.name== "runtime.NumGoroutine"),fn.body,fn.results.toList,(Ym vs.length rs.length&&(ST.tidy rs&&YB ps.length fn.ntmps)))=(Yc,Yd (AA fn),vs.map RS.toVar,Yo)):Ent P:=
 ⟨f,.spec _,(Fe C5 hT es hX (ps:=ps) (is:=is) (rs:=rs) (os:=os) vs hf hc).spec⟩
def ET(X:Ctx)(fn:Func)(ps:Ya (Ys×Ya CT))(is:Ya BT)(rs:Ya (Ys×Ya CT))(os:Ya BT)(vs:Ya RS){β:Type}:VF (KF (Yb β) rs os->Yb β) ps is:=
 hid (vlam ps is λx k=>Xc X fn.ntmps (AA fn) ps is rs os vs x (kapp rs os k))
theorem Aok(X:Ctx)(fn:Func){ps:Ya (Ys×Ya CT)}{is:Ya BT}{rs:Ya (Ys×Ya CT)}{os:Ya BT}(vs:Ya RS){β:Type}(x:ST.dens ps×BT.dens is)(k:ST.dens rs×BT.dens os->Yb β):vapp ps is (ET X fn ps is rs os vs) x (klam rs os k)=Xc X fn.ntmps (AA fn) ps is rs os vs x k:=by
 unfold ET;rw[Aq,Aby,Aoj]
theorem FN{P:Yv}(C5:P.follows .mixedOrders=Yo){X:Ctx}(hT:TOk P X.T)(es:Ya (Ent P))(hX:X.Γ=gam es){ps rs:Ya (Ys×Ya CT)}{is os:Ya BT}{f:Y6}{fn:Func}(vs:Ya RS)(hf:P.funcs[f]?=Yd fn)(hc:((fn.name== "runtime.NumGoroutine"),fn.body,fn.results.toList,(Ym vs.length rs.length&&(ST.tidy rs&&YB ps.length fn.ntmps)))=(Yc,Yd (AA fn),vs.map RS.toVar,Yo)):SpecOkB P f (sg ps is rs os λ{_}=>ET X fn ps is rs os vs):=by
 simp only[Bv]at hc;obtain⟨h1,h2,h3,h4⟩:=hc;refine WW C5 hT (hX▸Kt es) (Λ:=λ_=>Ye) hf h1 h2 h3 h4 (λ_ _ h=>nomatch h) λx k r hr=>?_;exact(Abz X fn.ntmps (AA fn) vs _ x k).trans ((Aok X fn vs x k).symm.trans hr)
end
end Go.Lift
namespace Go.Lift
open Go.RowKit
def iI(ps:Ya (Ys×Ya CT))(ct:CT)(os:Ya BT)(run:{β:Type}->ST.dens ps×BT.dens []->(ST.dens [(Yc,[ct])]×BT.dens os->Yb β)->Yb β):AbsF:=⟨λ{β} bl nx args kk=>
 match GP (GS (Ct args) bl) [] ps args with
 |some x=>run (x,()) λ_=>kk (.c .junk) (Ct args) []
 |none=>Ye⟩
theorem Aol{P:Yv}{f:Y6}{ps:Ya (Ys×Ya CT)}{ct:CT}{os:Ya BT}{run:{β:Type}->ST.dens ps×BT.dens []->(ST.dens [(Yc,[ct])]×BT.dens os->Yb β)->Yb β}(h:SpecOkB P f ⟨ps,[],[(Yc,[ct])],os,run⟩):AbsOk P f (iI ps ct os run):=by
 refine⟨h.fn,λ{β} bl nx args kk r hk=>?_⟩;simp only[iI]at hk;generalize hR:Ct args=R at hk;split at hk
 ·rename_i x hx
  obtain⟨y,hy,B8⟩:=h.ok (x,()) _ r hk;refine⟨_,_,_,hy,λbl2 Aj ok0 base pl w us hr AN=>?_⟩
  have hagR:GS R bl=GS R bl2:=by
   funext i;simp only[GS];cases hm:memB i R with
   |false=>rfl
   |true=>rw[Ao,Ao,Aj i (HE.1 hm)]
  generalize hblR:GS R bl2=blR at*;rw[hagR]at hx
  have AM:∀i B,blR i=Yd B->bl2 i=Yd B:=λi B hB=>by
   rw[<-hblR]at hB;simp only[GS]at hB;cases hm:memB i R with
   |false=>rw[hm]at hB;cases hB
   |true=>rw[hm]at hB;exact hB
  let ER:Env:=envR ok0 base pl bl2 blR w
  have F5:Ext (Ak ok0 base pl bl2 w) ER:=⟨Aw _,λg h _=>⟨h,rfl⟩,λ_ _ h=>h,λb sv Ab h=>⟨sv,Ab,h,KeepR.of_eq (λC hC=>AM b C hC) _ _⟩⟩
  have Ba:VReps ER args us:=by
   have:∀{vs:Ya V}{us:Ya Yp},VReps (Ak ok0 base pl bl2 w) vs us->VReps ER vs us:=by
    intro vs
    induction vs with
    |nil=>intro us h;exact h
    |cons v vs ih=>intro us ⟨u,Cf,e,h1,h2⟩;exact⟨u,Cf,e,VRep.mono F5 h1,ih h2⟩
   exact this AN
  obtain⟨B7,hT,_,_,_⟩:=Ab6 (ids:=[]) (is:=[]) (y:=()) hr AM (λi hi=>by simp at hi) hx rfl Wi (λb _=>by simp) Ba;refine(B8 ok0 base _ w us hr.baseLe B7 hT).mono ?_;rintro e w' ⟨vals,Ac,rfl,_,AY,hv⟩;have hg:w.grownBy w' Ye:=⟨AY.os,AY.tape,AY.output,AY.size,λg hg _=>(AY.out g hg ?_).1⟩
  ·refine⟨_,pl,rfl,hr.still hg,Step.still hg,?_⟩
   obtain⟨v,vs,rfl,⟨Cf,h1,h2⟩,h3⟩:=hv;have h3:vs=[]:=h3;subst h3;have h2:Cf=[v]:=h2;subst h2;exact h1.oneCell v (by simp)
  ·rintro⟨i,B,p,hb,_⟩
   simp[fnBl,mkB,AD]at hb
 ·cases hk
noncomputable def Ent.junk{P:Yv}{no:Yk}{ps:Ya (Ys×Ya CT)}{ct:CT}{os:Ya BT}{run:{β:Type}->ST.dens ps×BT.dens []->(ST.dens [(Yc,[ct])]×BT.dens os->Yb β)->Yb β}(h:SpecOkB P no ⟨ps,[],[(Yc,[ct])],os,run⟩):Ent P:=⟨no,.abs (iI ps ct os run),Aol h⟩
@[reducible] def Aom(fn:Yb Y6):Ya (Ys×Ya CT):=
 (Yc,[.rowh 0])::(match fn with|none=>[]|some g=>[(Yc,[.fn g []])])
@[reducible] def rowS(t:Yq)(e:Ty)(fn:Yb Y6)(c:{β:Type}->Ya e.den->(Ya e.den->Yb β)->Yb β):Spec:=
 ⟨Aom fn,[.row t e],[(Yc,[.rowh 0])],[.row t e],λx k=>c x.2.1 (λr=>k (((),()),(r,())))⟩
end Go.Lift
namespace Go.Lift
open Go.RowKit Go.IntWalk
section
variable{β:Type}
theorem B6{i n:Int}{a b:Yb β}(h:0<=i/\i<n):Yr (Yf (0<=i)&&Yf (i<n)) a b=a:=by rw[CD h.1,CD h.2];rfl
theorem GT{n:Yk}{a b:Yb β}(h:n<=140737488355328):Yr (Yf (n<=Cn)) a b=a:=by rw[CD (p:=n<=Cn) h];rfl
theorem Bp{p:Prop}[Yap p]{a b:Yb β}(h:p):Yr (decide p) a b=a:=by rw[CD h];rfl
theorem AJ{p:Prop}[Yap p]{a b:Yb β}(h:¬p):Yr (decide p) a b=b:=by rw[Ex h];rfl
theorem Dh{p:Prop}[Yap p]{a b:Yb β}(h:p):Yr (!decide p) a b=b:=by rw[CD h];rfl
theorem Ku{p:Prop}[Yap p]{a b:Yb β}(h:¬p):Yr (!decide p) a b=a:=by rw[Ex h];rfl
theorem c_t{a b:Yb β}:Yr Yo a b=a:=rfl
theorem c_f{a b:Yb β}:Yr Yc a b=b:=rfl
theorem c_p2{p q:Prop}[Yap p][Yap q]{a b:Yb β}(hp:p)(hq:q):Yr (decide p&&decide q) a b=a:=by rw[CD hp,CD hq];rfl
theorem c_p3{p q r:Prop}[Yap p][Yap q][Yap r]{a b:Yb β}(hp:p)(hq:q)(hr:r):Yr (decide p&&(decide q&&decide r)) a b=a:=by rw[CD hp,CD hq,CD hr];rfl
theorem c_kb(k:Ys->Yb β)(p q:Ys):Yr p (k q) (k Yc)=k (p&&q):=by cases p<;>rfl
end
end Go.Lift
namespace Go.Lift
section
theorem Ll:∀x:Ya Yl,Yy x x=Yc
 |[]=>rfl
 |a::x=>by rw[Yy,Ll x];simp
theorem SS:∀{x y z:Ya Yl},Yy x y=Yo->Yy y z=Yo->Yy x z=Yo
 |_,_,[],_,h=>by cases ‹Ya Yl›<;>simp[Yy]at h
 |_,[],_::_,h,_=>by cases ‹Ya Yl›<;>simp[Yy]at h
 |[],_::_,_::_,_,_=>rfl
 |a::x,b::y,c::z,h1,h2=>by
  simp only[Yy,Ik,CO,HB,beq_iff_eq]at h1 h2⊢;rcases h1 with h1|⟨h1,BZ⟩<;>rcases h2 with h2|⟨h2,DV⟩
  ·exact .inl (UInt8.lt_trans h1 h2)
  ·subst h2;exact .inl h1
  ·subst h1;exact .inl h2
  ·subst h1;subst h2;exact .inr ⟨rfl,SS BZ DV⟩
theorem iJ:∀{x y:Ya Yl},Yy x y=Yc->x≠y->Yy y x=Yo
 |[],[],_,h=>Yw rfl h
 |[],_::_,h,_=>by simp[Yy]at h
 |_::_,[],_,_=>rfl
 |a::x,b::y,h1,h2=>by
  simp only[Yy,NS,YaY,dD,dL]at h1;simp only[Yy,Ik,CO,HB,beq_iff_eq];by_cases Ru:a=b
  ·subst Ru
   refine .inr ⟨rfl,iJ (h1.2.resolve_left (λh=>h rfl)) λh=>h2 (by rw[h])⟩
  ·exact .inl (UInt8.lt_of_le_of_ne (UInt8.not_lt.mp h1.1) (Ne.symm Ru))
structure LtOk {κ:Type} (lt:κ->κ->Ys):Prop where
 irr:∀x,lt x x=Yc
 trans:∀{x y z},lt x y=Yo->lt y z=Yo->lt x z=Yo
 total:∀{x y},lt x y=Yc->x≠y->lt y x=Yo
theorem AbA:LtOk Yy:=⟨Ll,SS,iJ⟩
def plt(a b:Int×Ya Yl):Ys:=Yf (a.1<b.1)||(Yf (a.1=b.1)&&Yy a.2 b.2)
theorem iK:LtOk plt where
 irr x:=by simp[plt,Ll]
 trans {x y z} h1 h2:=by
  simp only[plt,Ik,CO,HB]at h1 h2⊢;rcases h1 with h1|⟨h1,BZ⟩<;>rcases h2 with h2|⟨h2,DV⟩
  ·exact .inl (by omega)
  ·exact .inl (by omega)
  ·exact .inl (by omega)
  ·exact .inr ⟨by omega,SS BZ DV⟩
 total {x y} h1 h2:=by
  simp only[plt,NS,YaY,dD]at h1;simp only[plt,Ik,CO,HB];by_cases h:x.1=y.1
  ·refine .inr ⟨h.symm,iJ ?_ λh'=>h2 (Prod.ext h h')⟩
   cases h3:Yy x.2 y.2 with
   |false=>rfl
   |true=>exact Yw h (λ_=>by have:=h1.2;simp[h3,h]at this)
  ·exact .inl (by omega)
section
variable{α κ:Type}[DecidableEq κ](lt:κ->κ->Ys)(key:α->κ)
def Srt(l:Ya α):Prop:=l.Pairwise λx y=>lt (key x) (key y)=Yo
def lowK(k:κ):Ya α->Ya α
 |[]=>[]
 |x::l=>bif lt (key x) k then x::lowK k l else []
def Ff(k:κ):Ya α->Ya α
 |[]=>[]
 |x::l=>bif lt (key x) k then Ff k l else x::l
def getK(k:κ)(l:Ya α):Yb α:=match Ff lt key k l with
 |[]=>Ye
 |x::_=>bif Yf (key x=k)then Yd x else Ye
def DB(k:κ)(l:Ya α):Ya α:=match Ff lt key k l with
 |[]=>[]
 |x::b=>bif Yf (key x=k)then b else x::b
def putK(k:κ)(f:Yb α->Yb α)(l:Ya α):Ya α:=lowK lt key k l++((f (getK lt key k l)).toList++DB lt key k l)
variable{lt key}
theorem Nf(k:κ):∀l:Ya α,lowK lt key k l++Ff lt key k l=l
 |[]=>rfl
 |x::l=>by
  unfold lowK Ff;cases lt (key x) k
  ·rfl
  ·show x::(lowK lt key k l++Ff lt key k l)=_
   rw[Nf k l]
theorem AbB(k:κ)(l:Ya α):(getK lt key k l).toList++DB lt key k l=Ff lt key k l:=by
 unfold getK DB;cases Ff lt key k l with
 |nil=>rfl
 |cons x b=>cases hk:Yf (key x=k)<;>simp[hk]
theorem Md(k:κ)(l:Ya α):lowK lt key k l++((getK lt key k l).toList++DB lt key k l)=l:=by rw[AbB,Nf]
theorem Xd{k:κ}:∀{l:Ya α}{x:α},x∈lowK lt key k l->lt (key x) k=Yo
 |y::l,x,h=>by
  unfold lowK at h;cases hy:lt (key y) k with
  |false=>rw[hy]at h;exact Yw h (by simp)
  |true=>
   rw[hy]at h;rcases Bg.mp h with rfl|h
   ·exact hy
   ·exact Xd h
theorem Aon{k:κ}{l:Ya α}{x:α}(h:x∈lowK lt key k l):x∈l:=by rw[<-Nf (lt:=lt) (key:=key) k l];exact CI _ h
theorem Me{k:κ}{l:Ya α}{x:α}(h:getK lt key k l=Yd x):x∈l:=by rw[<-Md (lt:=lt) (key:=key) k l,h];simp
theorem Aoo{k:κ}{l:Ya α}{x:α}(h:x∈DB lt key k l):x∈l:=by rw[<-Md (lt:=lt) (key:=key) k l];simp[h]
theorem IK{k:κ}{l:Ya α}{x:α}(h:getK lt key k l=Yd x):key x=k:=by
 unfold getK at h;cases hh:Ff lt key k l with
 |nil=>rw[hh]at h;exact Yw h (by simp)
 |cons y b=>
  rw[hh]at h;cases hk:Yf (key y=k)with
  |false=>rw[show(match y::b with|[]=>Ye|x::_=>bif Yf (key x=k)then Yd x else Ye)=(Ye:Yb α) by simp[hk]]at h;exact Yw h (by simp)
  |true=>rw[show(match y::b with|[]=>Ye|x::_=>bif Yf (key x=k)then Yd x else Ye)=Yd y by simp[hk]]at h;cases h;exact AC hk
theorem AbC{k:κ}:∀{l:Ya α}{x:α}{b:Ya α},Ff lt key k l=x::b->lt (key x) k=Yc
 |y::l,x,b,h=>by
  unfold Ff at h;cases hy:lt (key y) k with
  |true=>rw[hy]at h;exact AbC h
  |false=>rw[hy]at h;cases h;exact hy
theorem Xe(ok:LtOk lt){k:κ}{l:Ya α}(hs:Srt lt key l){x:α}(h:x∈DB lt key k l):lt k (key x)=Yo:=by
 have hl:=Nf (lt:=lt) (key:=key) k l
 have hp:Srt lt key (Ff lt key k l):=by rw[<-hl]at hs;exact(FU.mp hs).2.1
 unfold DB at h;cases hh:Ff lt key k l with
 |nil=>rw[hh]at h;exact Yw h (by simp)
 |cons y b=>
  have hy:=AbC hh;rw[hh]at h hp;have CB:=G4.mp hp;by_cases hk:key y=k
  ·simp only[hk,decide_true,Ao]at h
   rw[<-hk];exact CB.1 x h
  ·have Alp:lt k (key y)=Yo:=ok.total hy hk
   simp only[hk,decide_false,BU]at h;rcases Bg.mp h with rfl|h
   ·exact Alp
   ·exact ok.trans Alp (CB.1 x h)
theorem Ou{k:κ}{f:Yb α->Yb α}{l:Ya α}{y:α}(h:y∈putK lt key k f l):(y∈l/\(y∈lowK lt key k l\/y∈DB lt key k l))\/f (getK lt key k l)=Yd y:=by
 unfold putK at h;rcases BV.mp h with h|h
 ·exact .inl ⟨Aon h,.inl h⟩
 ·rcases BV.mp h with h|h
  ·exact .inr (by simpa using h)
  ·exact .inl ⟨Aoo h,.inr h⟩
theorem AbD(ok:LtOk lt){k:κ}{f:Yb α->Yb α}(hf:∀o y,(∀x,o=Yd x->key x=k)->f o=Yd y->key y=k){l:Ya α}(hs:Srt lt key l):Srt lt key (putK lt key k f l):=by
 have h3:=Md (lt:=lt) (key:=key) k l;have B3:=hs;rw[<-h3]at B3;obtain⟨p1,p2,p3⟩:=FU.mp B3;obtain⟨p4,p5,p6⟩:=FU.mp p2;have UP:∀y,f (getK lt key k l)=Yd y->key y=k:=λy hy=>hf _ y (λx hx=>IK hx) hy;unfold putK Srt;refine FU.mpr ⟨p1,FU.mpr ⟨?_,p5,?_⟩,?_⟩
 ·cases f (getK lt key k l)<;>simp
 ·intro a ha b hb
  have:=UP a (by simpa using ha);rw[this];exact Xe ok hs hb
 ·intro a ha b hb
  rcases BV.mp hb with hb|hb
  ·rw[UP b (by simpa using hb)]
   exact Xd ha
  ·exact p3 a ha b (Da _ hb)
theorem AbE{k:κ}{f:Yb α->Yb α}{l:Ya α}:(putK lt key k f l).length<=l.length+1:=by
 have h3:=Ai List.length (Md (lt:=lt) (key:=key) k l);unfold putK;simp only[Bd]at h3⊢;have:(f (getK lt key k l)).toList.length<=1:=by cases f (getK lt key k l)<;>simp
 omega
theorem Aop{k:κ}{f:Yb α->Yb α}{l:Ya α}{y:α}(h:y∈l)(hk:key y≠k):y∈putK lt key k f l:=by
 rw[<-Md (lt:=lt) (key:=key) k l]at h;unfold putK;rcases BV.mp h with h|h
 ·exact CI _ h
 ·rcases BV.mp h with h|h
  ·exact Yw (IK (by simpa using h)) hk
  ·exact Da _ (Da _ h)
theorem AbF{k:κ}:∀{a b:Ya α},(∀x∈a,lt (key x) k=Yo)->(∀x b',b=x::b'->lt (key x) k=Yc)->lowK lt key k (a++b)=a/\Ff lt key k (a++b)=b
 |[],[],_,_=>⟨rfl,rfl⟩
 |[],x::b,_,h=>by have:=h x b rfl;show lowK lt key k (x::b)=_/\Ff lt key k (x::b)=_;unfold lowK Ff;rw[this];exact⟨rfl,rfl⟩
 |x::a,b,h1,h2=>by have:=h1 x (by simp);have ih:=AbF (a:=a) (b:=b) (λy hy=>h1 y (by simp[hy])) h2;show lowK lt key k (x::(a++b))=_/\Ff lt key k (x::(a++b))=_;unfold lowK Ff;rw[this];exact⟨by rw[Ao,ih.1],ih.2⟩
theorem Aoq(ok:LtOk lt){k:κ}{f:Yb α->Yb α}{q:κ->Ys}(hf:∀o y,(∀x,o=Yd x->key x=k)->f o=Yd y->key y=k){l:Ya α}(hs:Srt lt key l):(putK lt key k f l).filter (λx=>q (key x))=bif q k then putK lt key k f (l.filter λx=>q (key x))else l.filter λx=>q (key x):=by
 have h3:=Md (lt:=lt) (key:=key) k l;have UP:∀y,f (getK lt key k l)=Yd y->key y=k:=λy hy=>hf _ y (λx hx=>IK hx) hy
 have e1:(putK lt key k f l).filter (λx=>q (key x))=(lowK lt key k l).filter (λx=>q (key x))++((f (getK lt key k l)).toList.filter (λx=>q (key x))++(DB lt key k l).filter (λx=>q (key x))):=by unfold putK;rw[LI,LI]
 have e2:l.filter (λx=>q (key x))=(lowK lt key k l).filter (λx=>q (key x))++((getK lt key k l).toList.filter (λx=>q (key x))++(DB lt key k l).filter (λx=>q (key x))):=by
  conv=>lhs;rw[<-h3]
  rw[LI,LI]
 cases hq:q k with
 |false=>
  rw[e1,BU,e2];congr 2
  have n1:(f (getK lt key k l)).toList.filter (λx=>q (key x))=[]:=by
   cases hg:f (getK lt key k l)with
   |none=>rfl
   |some y=>simp[UP y hg,hq]
  have n2:(getK lt key k l).toList.filter (λx=>q (key x))=[]:=by
   cases hg:getK lt key k l with
   |none=>rfl
   |some y=>simp[IK hg,hq]
  rw[n1,n2]
 |true=>
  rw[e1,Ao]
  have m1:(f (getK lt key k l)).toList.filter (λx=>q (key x))=(f (getK lt key k l)).toList:=by
   cases hg:f (getK lt key k l)with
   |none=>rfl
   |some y=>simp[UP y hg,hq]
  have m2:(getK lt key k l).toList.filter (λx=>q (key x))=(getK lt key k l).toList:=by
   cases hg:getK lt key k l with
   |none=>rfl
   |some y=>simp[IK hg,hq]
  rw[m1];rw[m2]at e2
  have hu:=AbF (lt:=lt) (key:=key) (k:=k) (a:=(lowK lt key k l).filter λx=>q (key x)) (b:=(getK lt key k l).toList++(DB lt key k l).filter λx=>q (key x)) (λx hx=>Xd (Fv.mp hx).1) (by
   intro x b' hb;cases hg:getK lt key k l with
   |some y=>rw[hg]at hb;cases hb;rw[IK hg];exact ok.irr k
   |none=>
    rw[hg]at hb;have hx:x∈DB lt key k l:=(Fv.mp (by rw[show(DB lt key k l).filter (λx=>q (key x))=x::b' from hb];simp:x∈(DB lt key k l).filter λx=>q (key x))).1;have:=Xe ok hs hx;cases AEM:lt (key x) k with
    |false=>rfl
    |true=>exact Yw (ok.trans this AEM) (by rw[ok.irr];simp))
  rw[<-e2]at hu
  have hg:getK lt key k (l.filter λx=>q (key x))=getK lt key k l/\DB lt key k (l.filter λx=>q (key x))=(DB lt key k l).filter λx=>q (key x):=by
   unfold getK DB;rw[hu.2];cases hg:getK lt key k l with
   |some y=>have hk:=IK hg;have BB:=hg;unfold getK at BB;have:((Yd y).toList++(DB lt key k l).filter λx=>q (key x))=y::(DB lt key k l).filter λx=>q (key x):=rfl;rw[this];simp only[hk,decide_true,Ao];exact⟨BB.symm,rfl⟩
   |none=>
    have BB:=hg;unfold getK at BB;rw[BB];have:((Ye:Yb α).toList++(DB lt key k l).filter λx=>q (key x))=(DB lt key k l).filter λx=>q (key x):=rfl;rw[this];show _/\_=(DB lt key k l).filter λx=>q (key x);cases hr:(DB lt key k l).filter λx=>q (key x)with
    |nil=>exact⟨rfl,rfl⟩
    |cons x b=>
     have hx:x∈DB lt key k l:=(Fv.mp (by rw[hr];simp:x∈(DB lt key k l).filter λx=>q (key x))).1;have:=Xe ok hs hx;have Az:key x≠k:=λh=>by rw[h,ok.irr]at this;exact Yw this (by simp)
     simp[Az]
  unfold putK;rw[hu.1,hg.1,hg.2]
end
end
end Go.Lift
