/- Part3: LiftS, LiftT, LiftU, LiftV, LiftW, LiftX. -/
import Derived.LoopN
import Derived.KernelRfl
import Derived.Below
import Derived.IntWalk
import Derived.Deep.Slices
import Derived.Deep.Fields
import Derived.ChangeSame
import Derived.OpenShut
import Derived.WalkKit
import Derived.ProofKit
import Derived.Test.YtdnpgahodmolkaaGreatDoorPart2
set_option linter.unusedVariables false
set_option linter.unusedSectionVars false
set_option linter.unusedSimpArgs false
namespace Go.Lift
noncomputable section
open Go.RowKit
theorem CV{E E':Env}{ids ids':List Nat}(hb:BX E)(hw:E'.w=E.w)(hr:Ren E E' ids ids'):∀{l:List CT}{cs:List C}{vs:List Value}{y:CT.dens l},Rows E E.bl E'.ok (C3 l cs)->CReps E cs vs->AI E.bl ids l cs=some y->CReps E' (mkC ids' l y) vs
 |[],cs,vs,y,hrw,h,hp=>by
  cases cs with
  |nil=>exact h
  |cons c cs=>simp[AI]at hp
 |.data τ::l,cs,vs,y,hrw,h,hp=>by
  simp only[AI]at hp;split at hp
  ·cases hp
  ·rename_i x r hx
   split at hp
   ·cases hp
   ·rename_i y' hy
    simp only[Ac]at hp;subst hp;obtain⟨ds,e1,e2,e3⟩:=TG hx;subst e1
    have hd:C3 (.data τ::l) (ds++r)=Bg ds++C3 l r:=by simp only[C3,<-e2,NH,List.drop_left]
    rw[hd]at hrw;obtain⟨us,ws,e,h1,h2⟩:=CReps.split h;subst e;obtain⟨us1,us2,e,d,c,_⟩:=HO hb (hrw.sub λb hbm=>BG _ hbm) h1 e3;simp only[CReps]at c;subst c;rw[CA]at e;subst e;exact CReps.append (D9 (by rw[hw];exact d)) (CV hb hw hr (hrw.sub λb hbm=>BM _ hbm) h2 hy)
 |.ptr b o::l,cs,vs,y,hrw,h,hp=>by
  cases cs with
  |nil=>simp[AI]at hp
  |cons c cs=>
   have hrw':Rows E E.bl E'.ok (C3 l cs):=hrw;cases c<;>simp only[AI]at hp<;>try(cases hp;done)
   rename_i b' o';split at hp
   ·rename_i i hi
    cases hc:(Nat.beq i b'&&Nat.beq o o')with
    |false=>rw[hc]at hp;cases hp
    |true=>simp only[hc,Af]at hp;obtain⟨h1,h2⟩:=andB hc;have h1:=Ag h1;have h2:=Ag h2;subst h1 h2;obtain⟨v,vs',e,⟨g,hg,hv⟩,ht⟩:=h;exact⟨v,vs',e,⟨g,hr.cells b i g hi hg,hv⟩,CV hb hw hr hrw' ht hp⟩
   ·cases hp
 |.rowh b::l,cs,vs,y,hrw,h,hp=>by
  cases cs with
  |nil=>simp[AI]at hp
  |cons c cs=>
   have hrw':Rows E E.bl E'.ok (C3 l cs):=hrw;cases c<;>simp only[AI]at hp<;>try(cases hp;done)
   ·split at hp
    ·rename_i i hi
     split at hp
     ·rename_i hn
      obtain⟨v,vs',e,hv,ht⟩:=h;simp only[CRep]at hv;subst hv;exact⟨_,vs',e,⟨rfl,_,_,hr.nil b i hi hn,λ_ _ _ _ _=>⟨BZ _,λ_=>rfl⟩⟩,CV hb hw hr hrw' ht hp⟩
     ·cases hp
    ·cases hp
   ·rename_i b' ver
    split at hp
    ·rename_i i hi
     cases hc:Nat.beq i b' with
     |false=>rw[hc]at hp;cases hp
     |true=>
      have:=Ag hc;subst this;simp only[hc,Af]at hp;split at hp
      ·rename_i t e ver' l' hbl
       cases hv':Nat.beq ver ver' with
       |false=>rw[hv']at hp;cases hp
       |true=>have:=Ag hv';subst this;simp only[hv',Af]at hp;obtain⟨v,vs',ev,⟨h1,sv,svs,hsv,hcur⟩,ht⟩:=h;have hvs:=(hcur t e ver l' hbl).2 rfl;exact⟨v,vs',ev,⟨h1,sv,svs,hr.row b i sv svs t e ver l' hi hbl hsv,λ_ _ _ _ _=>⟨BZ _,λ_=>hvs⟩⟩,CV hb hw hr hrw' ht hp⟩
      ·cases hp
    ·cases hp
 |.fn f caps::l,cs,vs,y,hrw,h,hp=>by
  cases cs with
  |nil=>simp[AI]at hp
  |cons c cs=>
   have hrw':Rows E E.bl E'.ok (C3 l cs):=hrw;cases c<;>simp only[AI]at hp<;>try(cases hp;done)
   rename_i f' caps';cases hc:(Nat.beq f f'&&decide (caps.map (ids[·]?)=caps'.map some))with
   |false=>rw[hc]at hp;cases hp
   |true=>simp only[hc,Af]at hp;obtain⟨h1,h2⟩:=andB hc;have h1:=Ag h1;have h2:=Az h2;subst h1;obtain⟨v,vs',e,⟨gs,hg,hv⟩,ht⟩:=h;refine⟨v,vs',e,⟨gs,?_,hv⟩,CV hb hw hr hrw' ht hp⟩;exact Ts hr caps caps' gs h2 hg
 |.bfnh f b::l,cs,vs,y,hrw,h,hp=>by
  cases cs with
  |nil=>simp[AI]at hp
  |cons c cs=>
   have hrw':Rows E E.bl E'.ok (C3 l cs):=hrw;cases c<;>simp only[AI]at hp<;>try(cases hp;done)
   rename_i f' b';split at hp
   ·rename_i i hi
    cases hc:(Nat.beq f f'&&Nat.beq i b')with
    |false=>rw[hc]at hp;cases hp
    |true=>simp only[hc,Af]at hp;obtain⟨h1,h2⟩:=andB hc;have h1:=Ag h1;have h2:=Ag h2;subst h1;subst h2;obtain⟨v,vs',e,⟨g,hg,hv⟩,ht⟩:=h;exact⟨v,vs',e,⟨g,hr.cells b i g hi hg,hv⟩,CV hb hw hr hrw' ht hp⟩
   ·cases hp
 |.bself b::l,cs,vs,y,hrw,h,hp=>by
  cases cs with
  |nil=>simp[AI]at hp
  |cons c cs=>
   have hrw':Rows E E.bl E'.ok (C3 l cs):=hrw;cases c<;>simp only[AI]at hp<;>try(cases hp;done)
   ·obtain⟨v,vs',e,hv,ht⟩:=h
    exact⟨v,vs',e,.inl hv,CV hb hw hr hrw' ht hp⟩
   ·rename_i b'
    split at hp
    ·rename_i i hi
     cases hc:Nat.beq i b' with
     |false=>rw[hc]at hp;cases hp
     |true=>
      simp only[hc,Af]at hp;have h1:=Ag hc;subst h1;obtain⟨v,vs',e,hg,ht⟩:=h;refine⟨v,vs',e,?_,CV hb hw hr hrw' ht hp⟩;rcases hg with hg|⟨g,hg,hv⟩
      ·exact .inl hg
      ·exact .inr ⟨g,hr.cells b i g hi hg,hv⟩
    ·cases hp
 |.maph b::l,cs,vs,y,hrw,h,hp=>by
  cases cs with
  |nil=>simp[AI]at hp
  |cons c cs=>
   have hrw':Rows E E.bl E'.ok (C3 l cs):=hrw;cases c<;>simp only[AI]at hp<;>try(cases hp;done)
   rename_i b';split at hp
   ·rename_i i hi
    cases hc:Nat.beq i b' with
    |false=>rw[hc]at hp;cases hp
    |true=>simp only[hc,Af]at hp;have h1:=Ag hc;subst h1;obtain⟨v,vs',e,⟨g,hg,hv⟩,ht⟩:=h;exact⟨v,vs',e,⟨g,hr.cells b i g hi hg,hv⟩,CV hb hw hr hrw' ht hp⟩
   ·cases hp
 |.math b::l,cs,vs,y,hrw,h,hp=>by
  cases cs with
  |nil=>simp[AI]at hp
  |cons c cs=>
   have hrw':Rows E E.bl E'.ok (C3 l cs):=hrw;cases c<;>simp only[AI]at hp<;>try(cases hp;done)
   ·split at hp
    ·rename_i i hi
     split at hp
     ·rename_i hn
      obtain⟨v,vs',e,hv,ht⟩:=h;simp only[CRep]at hv;subst hv;exact⟨_,vs',e,⟨rfl,_,_,hr.nil b i hi hn,λ_ _ _ _ _ _ _ _=>⟨BZ _,λ_=>rfl⟩⟩,CV hb hw hr hrw' ht hp⟩
     ·cases hp
    ·cases hp
   ·rename_i b' ver
    split at hp
    ·rename_i i hi
     cases hc:Nat.beq i b' with
     |false=>rw[hc]at hp;cases hp
     |true=>
      have:=Ag hc;subst this;simp only[hc,Af]at hp;split at hp
      ·rename_i t et e ver' iver l' hbl
       cases hv':Nat.beq ver ver' with
       |false=>rw[hv']at hp;cases hp
       |true=>have:=Ag hv';subst this;simp only[hv',Af]at hp;obtain⟨v,vs',ev,⟨h1,sv,svs,hsv,hcur⟩,ht⟩:=h;have hvs:=(hcur _ _ _ _ _ _ _ hbl).2 rfl;exact⟨v,vs',ev,⟨h1,sv,svs,hr.mat b i sv svs _ _ _ _ _ _ _ hi hbl hsv,λ_ _ _ _ _ _ _ _=>⟨BZ _,λ_=>hvs⟩⟩,CV hb hw hr hrw' ht hp⟩
      ·cases hp
    ·cases hp
 |.tptrh b ks o::l,cs,vs,y,hrw,h,hp=>by
  cases cs with
  |nil=>simp[AI]at hp
  |cons c cs=>
   have hrw':Rows E E.bl E'.ok (C3 l cs):=hrw;cases c<;>simp only[AI]at hp<;>try(cases hp;done)
   rename_i b' ver p ix o';split at hp
   ·rename_i i hi
    cases hc:(Nat.beq i b'&&Nat.beq o o')with
    |false=>rw[hc]at hp;cases hp
    |true=>
     rw[hc,Af]at hp;obtain⟨h1,h2⟩:=andB hc;have h1:=Ag h1;have h2:=Ag h2;subst h1 h2;split at hp
     ·rename_i t e ver' iver' l' hbl
      cases hv':Nat.beq ver (tv ver' iver' p)with
      |false=>rw[hv']at hp;cases hp
      |true=>
       have:=Ag hv';subst this;rw[hv',Af]at hp;split at hp
       ·rename_i x hx
        split at hp
        ·rename_i y' hy
         simp only[Ac]at hp;subst hp;obtain⟨w1,w2⟩:=Tt hx;obtain⟨v,vs',ev,⟨sv,svs,ad,hsv,hva,hcur⟩,ht⟩:=h;refine⟨v,vs',ev,⟨sv,svs,ad,hr.tree b i sv svs _ _ _ _ _ hi hbl hsv,hva,λt2 e2 ver2 iver2 hh2 l2 hb2=>?_⟩,CV hb hw hr hrw' ht hy⟩;have:=hr.treeB b i _ _ _ _ _ _ _ _ _ _ _ hi hbl hb2;injection this with q1 q2 q3 q4 q5 q6;subst q1 q2 q3 q4 q5;simp only[Dl]at q6;subst q6;rw[w1,w2];exact⟨BZ _,λ_ _=>(hcur _ _ _ _ _ _ hbl).2 rfl λ_ h=>by cases h⟩
        ·cases hp
       ·cases hp
     ·cases hp
   ·cases hp
 |.trowh b::l,cs,vs,y,hrw,h,hp=>by
  cases cs with
  |nil=>simp[AI]at hp
  |cons c cs=>
   have hrw':Rows E E.bl E'.ok (C3 l cs):=hrw;rcases Classical.em (∃b ver p,c=.trow b ver p)with⟨b',ver,p,rfl⟩|hnt
   ·cases p with
    |cons _ _=>simp[AI]at hp
    |nil=>
     simp only[AI]at hp;split at hp
     ·rename_i i hi
      cases hc:Nat.beq i b' with
      |false=>rw[hc]at hp;cases hp
      |true=>
       have:=Ag hc;subst this;simp only[hc,Af]at hp;split at hp
       ·rename_i t e ver' iver l' hbl
        cases hv':Nat.beq ver ver' with
        |false=>rw[hv']at hp;cases hp
        |true=>have:=Ag hv';subst this;simp only[hv',Af]at hp;obtain⟨v,vs',ev,hv,ht⟩:=h;obtain⟨svs,hsv,_⟩:=Og hb hbl hv;exact⟨v,vs',ev,⟨hv.1,v,svs,hr.tree b i v svs _ _ _ _ _ hi hbl hsv,λ_ _ _ _ _ _ _=>⟨BZ _,λ_ _=>⟨_,rfl,rfl⟩⟩⟩,CV hb hw hr hrw' ht hp⟩
       ·cases hp
     ·cases hp
   cases c<;>first|exact absurd ⟨_,_,_,rfl⟩ hnt|skip
   all_goals simp only[AI]at hp
   all_goals try(cases hp;done)
   split at hp
   ·rename_i i hi
    split at hp
    ·rename_i hn
     obtain⟨v,vs',e,hv,ht⟩:=h;simp only[CRep]at hv;subst hv;exact⟨_,vs',e,⟨rfl,_,_,hr.nil b i hi hn,λ_ _ _ _ _ _ _=>⟨BZ _,λ_ _=>⟨_,rfl,rfl⟩⟩⟩,CV hb hw hr hrw' ht hp⟩
    ·cases hp
   ·cases hp
 |.nilc::l,cs,vs,y,hrw,h,hp=>by
  cases cs with
  |nil=>simp[AI]at hp
  |cons c cs=>cases c<;>simp[AI]at hp
 |.lsome _::l,cs,vs,y,hrw,h,hp=>by
  cases cs with
  |nil=>simp[AI]at hp
  |cons c cs=>cases c<;>simp[AI]at hp
 |.nils::l,cs,vs,y,hrw,h,hp=>by
  cases cs with
  |nil=>simp[AI]at hp
  |cons c cs=>
   have hrw':Rows E E.bl E'.ok (C3 l cs):=hrw;cases c<;>simp only[AI]at hp<;>first|(cases hp;done)|skip
   obtain⟨v,vs',e,hv,ht⟩:=h;exact⟨v,vs',e,hv,CV hb hw hr hrw' ht hp⟩
 |.junk::l,cs,vs,y,hrw,h,hp=>by
  cases cs with
  |nil=>simp[AI]at hp
  |cons c cs=>have hrw':Rows E E.bl E'.ok (C3 l cs):=hrw;simp only[AI]at hp;obtain⟨v,vs',e,hv,ht⟩:=h;exact⟨v,vs',e,CRep.oneCell hv,CV hb hw hr hrw' ht hp⟩
theorem TH{E E':Env}{ids ids':List Nat}(hb:BX E)(hw:E'.w=E.w)(hr:Ren E E' ids ids'):∀{l:List (Bool×List CT)}{vs:List V}{us:List Value}{y:ST.dens l},Rows E E.bl E'.ok (CD l vs)->VReps E vs us->Do E.bl ids l vs=some y->TReps E' (mkS ids' l y) us
 |[],vs,us,y,hrw,h,hp=>by
  cases vs with
  |nil=>exact h
  |cons v vs=>simp[Do]at hp
 |t::l,vs,us,y,hrw,h,hp=>by
  cases vs with
  |nil=>simp[Do]at hp
  |cons v vs=>
   obtain⟨u,us',e,hv,ht⟩:=h;obtain⟨agg,ct⟩:=t;cases agg with
   |false=>
    cases v<;>simp only[Do]at hp<;>try(cases hp;done)
    rename_i x;split at hp
    ·cases hp
    ·rename_i y1 h1
     split at hp
     ·cases hp
     ·rename_i z h2
      simp only[Ac]at hp;subst hp;have hrow:CD ((false,ct)::l) (V.c x::vs)=C3 ct [x]++CD l vs:=rfl;rw[hrow]at hrw;refine⟨u,us',e,⟨[u],?_,by simp⟩,TH hb hw hr (hrw.sub λb hbm=>BM _ hbm) ht h2⟩;exact CV hb hw hr (hrw.sub λb hbm=>BG _ hbm) (show CReps E [x] [u]from⟨u,[],rfl,hv,rfl⟩) h1
   |true=>
    cases v<;>simp only[Do]at hp<;>try(cases hp;done)
    rename_i cs;split at hp
    ·cases hp
    ·rename_i y1 h1
     split at hp
     ·cases hp
     ·rename_i z h2
      simp only[Ac]at hp;subst hp;have hrow:CD ((true,ct)::l) (V.agg cs::vs)=C3 ct cs++CD l vs:=rfl;rw[hrow]at hrw;obtain⟨xs,hxs,hu⟩:=hv;refine⟨u,us',e,⟨xs,?_,hu⟩,TH hb hw hr (hrw.sub λb hbm=>BM _ hbm) ht h2⟩;exact CV hb hw hr (hrw.sub λb hbm=>BG _ hbm) hxs h1
def plOf(E:Env)(i:Nat):Pl:=
 match E.bl i with
 |some _=>(E.pl i).getD (.row (.slice none 0 0) [])
 |none=>.row (.slice none 0 0) []
theorem FD{E E':Env}{ids ids':List Nat}(hb:BX E)(hw:E'.w=E.w)(hbase:E'.base=E.base)(hr:Ren E E' ids ids')(hmono:∀g,E.ok g->E'.ok g):∀{l:List BT}{is:List Nat}{y:BT.dens l},Rows E E.bl E'.ok (Ci E.bl l is)->Bz E.bl ids l is=some y->is.length=l.length/\∀(j i:Nat),is[j]?=some i->∃B,(mkB ids' l y)[j]?=some B/\BRep E' B (plOf E i)/\(∀B0,E.bl i=some B0->B0.live=true)
 |[],is,y,hrw,hp=>by
  cases is with
  |nil=>exact⟨rfl,λj i h=>by simp at h⟩
  |cons i is=>simp[Bz]at hp
 |.row t e::r,is,y,hrw,hp=>by
  cases is with
  |nil=>simp[Bz]at hp
  |cons i is=>
   have hrw':Rows E E.bl E'.ok (Ci E.bl r is):=hrw;simp only[Bz]at hp;split at hp
   ·rename_i t' e' ver l hbl
    cases ht:Nat.beq t t' with
    |false=>rw[ht]at hp;cases hp
    |true=>
     have:=Ag ht;subst this;simp only[ht,Af]at hp;split at hp
     ·rename_i he
      subst he;split at hp
      ·cases hp
      ·rename_i z h2
       simp only[Ac]at hp;subst hp;obtain⟨hl,hrest⟩:=FD hb hw hbase hr hmono hrw' h2;refine⟨by simp[hl],λj k hj=>?_⟩;cases j with
       |zero=>
        simp only[BJ,Ac]at hj;subst hj;refine⟨_,rfl,?_,λB0 h0=>by rw[hbl]at h0;injection h0 with h0;subst h0;rfl⟩;obtain⟨p,hp',hB⟩:=hb i _ hbl;have hpl:plOf E i=p:=by simp[plOf,hbl,hp']
        rw[hpl];cases p with
        |cells _=>exact hB.elim
        |row sv svs=>obtain⟨h0,xs,h3,h4⟩:=hB;refine⟨h0,xs,h3.mono λx u hu=>?_,by rw[hw,hbase];exact h4⟩;rw[hw];exact hu.mono λg hg _=>⟨hmono g hg,rfl⟩
       |succ j=>obtain⟨B,h3,h4⟩:=hrest j k (by simpa using hj);exact⟨B,by simpa [mkB]using h3,h4⟩
     ·cases hp
   ·rename_i hbl
    split at hp
    ·cases hp
    ·rename_i z h2
     simp only[Ac]at hp;subst hp;obtain⟨hl,hrest⟩:=FD hb hw hbase hr hmono hrw' h2;refine⟨by simp[hl],λj k hj=>?_⟩;cases j with
     |zero=>
      simp only[BJ,Ac]at hj;subst hj;refine⟨_,rfl,?_,λB0 h0=>by rw[hbl]at h0;cases h0⟩;have hpl:plOf E i=.row (.slice none 0 0) []:=by simp[plOf,hbl]
      rw[hpl];exact⟨rfl,[],rfl,by simp,.inl ⟨rfl,rfl⟩⟩
     |succ j=>obtain⟨B,h3,h4⟩:=hrest j k (by simpa using hj);exact⟨B,by simpa [mkB]using h3,h4⟩
   ·cases hp
 |.mat t et e::r,is,y,hrw,hp=>by
  cases is with
  |nil=>simp[Bz]at hp
  |cons i is=>
   have hrw':Rows E E.bl E'.ok (Ci E.bl r is):=hrw;simp only[Bz]at hp;split at hp
   ·rename_i t' et' e' ver iver l hbl
    cases ht:(Nat.beq t t'&&Nat.beq et et')with
    |false=>rw[ht]at hp;cases hp
    |true=>
     obtain⟨ht1,ht2⟩:=andB ht;have:=Ag ht1;subst this;have:=Ag ht2;subst this;simp only[ht,Af]at hp;split at hp
     ·rename_i he
      subst he;split at hp
      ·cases hp
      ·rename_i z h2
       simp only[Ac]at hp;subst hp;obtain⟨hl,hrest⟩:=FD hb hw hbase hr hmono hrw' h2;refine⟨by simp[hl],λj k hj=>?_⟩;cases j with
       |zero=>
        simp only[BJ,Ac]at hj;subst hj;refine⟨_,rfl,?_,λB0 h0=>by rw[hbl]at h0;injection h0 with h0;subst h0;rfl⟩;obtain⟨p,hp',hB⟩:=hb i _ hbl;have hpl:plOf E i=p:=by simp[plOf,hbl,hp']
        rw[hpl];cases p with
        |cells _=>exact hB.elim
        |row sv svs=>have hM:MatOk E t et e' none l sv svs:=hB;obtain⟨vs,h3,h4⟩:=hM.outer;refine⟨⟨vs,by rw[hw,hbase];exact h3,h4⟩,hM.len,hM.hole,λi s x hs hx=>?_,hM.sep0,hM.sep⟩;obtain⟨xs,h5,h6⟩:=hM.inner i s x hs hx;refine⟨xs,h5.mono λx u hu=>?_,by rw[hw,hbase];exact h6⟩;rw[hw];exact hu.mono λg hg _=>⟨hmono g hg,rfl⟩
       |succ j=>obtain⟨B,h3,h4⟩:=hrest j k (by simpa using hj);exact⟨B,by simpa [mkB]using h3,h4⟩
     ·cases hp
   ·rename_i hbl
    split at hp
    ·cases hp
    ·rename_i z h2
     simp only[Ac]at hp;subst hp;obtain⟨hl,hrest⟩:=FD hb hw hbase hr hmono hrw' h2;refine⟨by simp[hl],λj k hj=>?_⟩;cases j with
     |zero=>
      simp only[BJ,Ac]at hj;subst hj;refine⟨_,rfl,?_,λB0 h0=>by rw[hbl]at h0;cases h0⟩;have hpl:plOf E i=.row (.slice none 0 0) []:=by simp[plOf,hbl]
      rw[hpl];exact MatOk.nil E' t et e
     |succ j=>obtain⟨B,h3,h4⟩:=hrest j k (by simpa using hj);exact⟨B,by simpa [mkB]using h3,h4⟩
   ·cases hp
 |.tree t e::r,is,y,hrw,hp=>by
  cases is with
  |nil=>simp[Bz]at hp
  |cons i is=>
   have hrw':Rows E E.bl E'.ok (Ci E.bl r is):=hrw;simp only[Bz]at hp;split at hp
   ·rename_i t' e' ver iver l hbl
    cases ht:Nat.beq t t' with
    |false=>rw[ht]at hp;cases hp
    |true=>
     have:=Ag ht;subst this;simp only[ht,Af]at hp;split at hp
     ·rename_i he
      subst he;split at hp
      ·cases hp
      ·rename_i z h2
       simp only[Ac]at hp;subst hp;obtain⟨hl,hrest⟩:=FD hb hw hbase hr hmono hrw' h2;refine⟨by simp[hl],λj k hj=>?_⟩;cases j with
       |zero=>
        simp only[BJ,Ac]at hj;subst hj;refine⟨_,rfl,?_,λB0 h0=>by rw[hbl]at h0;injection h0 with h0;subst h0;rfl⟩;obtain⟨p,hp',hB⟩:=hb i _ hbl;have hpl:plOf E i=p:=by simp[plOf,hbl,hp']
        rw[hpl];cases p with
        |cells _=>exact hB.elim
        |row sv svs=>have hT:TreeOk E t e' none l sv svs:=hB;obtain⟨hv,F,h3,h4,h5⟩:=hT.rep;refine⟨⟨hv,F,?_,h4,h5⟩,hT.top⟩;rw[hw];exact h3.ren (by rw[hbase];exact Ao _) λτ x us hu=>hu.mono λg hg _=>⟨hmono g hg,rfl⟩
       |succ j=>obtain⟨B,h3,h4⟩:=hrest j k (by simpa using hj);exact⟨B,by simpa [mkB]using h3,h4⟩
     ·cases hp
   ·rename_i hbl
    split at hp
    ·cases hp
    ·rename_i z h2
     simp only[Ac]at hp;subst hp;obtain⟨hl,hrest⟩:=FD hb hw hbase hr hmono hrw' h2;refine⟨by simp[hl],λj k hj=>?_⟩;cases j with
     |zero=>
      simp only[BJ,Ac]at hj;subst hj;refine⟨_,rfl,?_,λB0 h0=>by rw[hbl]at h0;cases h0⟩;have hpl:plOf E i=.row (.slice none 0 0) []:=by simp[plOf,hbl]
      rw[hpl];exact⟨⟨.slice none 0 0,[],⟨_,[],[],rfl,rfl,World.ownsRow_nil _ _ _ _,rfl,rfl⟩,rfl,by simp⟩,by simp⟩
     |succ j=>obtain⟨B,h3,h4⟩:=hrest j k (by simpa using hj);exact⟨B,by simpa [mkB]using h3,h4⟩
   ·cases hp
 |.map t k v vg::r,is,y,hrw,hp=>by
  cases is with
  |nil=>simp[Bz]at hp
  |cons i is=>
   have hrw':Rows E E.bl E'.ok (Ci E.bl r is):=hrw;simp only[Bz]at hp;split at hp
   ·rename_i t' k' v' vg' l hbl
    cases ht:(Nat.beq t t'&&(vg==vg'))with
    |false=>rw[ht]at hp;cases hp
    |true=>
     obtain⟨ht1,ht2⟩:=andB ht;have:=Ag ht1;subst this;have:vg=vg':=by simpa using ht2
     subst this;simp only[ht,Af]at hp;split at hp
     ·rename_i he
      subst he;split at hp
      ·rename_i he
       subst he;split at hp
       ·cases hp
       ·rename_i z h2
        simp only[Ac]at hp;subst hp;obtain⟨hl,hrest⟩:=FD hb hw hbase hr hmono hrw' h2;refine⟨by simp[hl],λj k hj=>?_⟩;cases j with
        |zero=>
         simp only[BJ,Ac]at hj;subst hj;refine⟨_,rfl,?_,λB0 h0=>by rw[hbl]at h0;injection h0 with h0;subst h0;rfl⟩;obtain⟨p,hp',hB⟩:=hb i _ hbl;have hpl:plOf E i=p:=by simp[plOf,hbl,hp']
         rw[hpl];cases p with
         |row _ _=>exact hB.elim
         |cells g=>
          obtain⟨es,clock,h3,h4⟩:=hB;refine⟨es,clock,by rw[hw];exact h3,h4.mono (λx u hu=>?_) (λx u hu=>?_)⟩
          ·rw[hw]
           exact hu.mono λg hg _=>⟨hmono g hg,rfl⟩
          ·rw[hw]
           exact hu.mono λg hg _=>⟨hmono g hg,rfl⟩
        |succ j=>obtain⟨B,h3,h4⟩:=hrest j k (by simpa using hj);exact⟨B,by simpa [mkB]using h3,h4⟩
      ·cases hp
     ·cases hp
   ·cases hp
 |.fmap t l::r,is,y,hrw,hp=>by
  cases is with
  |nil=>simp[Bz]at hp
  |cons i is=>
   have hrw':Rows E E.bl E'.ok (Ci E.bl r is):=hrw;simp only[Bz]at hp;split at hp
   ·rename_i t' l' hbl
    cases ht:(Nat.beq t t'&&fEq ids l l')with
    |false=>rw[ht]at hp;cases hp
    |true=>
     rw[ht,Af]at hp;obtain⟨ht1,ht2⟩:=andB ht;have:=Ag ht1;subst this;obtain⟨hl,hrest⟩:=FD hb hw hbase hr hmono hrw' hp;refine⟨by simp[hl],λj k hj=>?_⟩;cases j with
     |zero=>
      simp only[BJ,Ac]at hj;subst hj;refine⟨_,rfl,?_,λB0 h0=>by rw[hbl]at h0;injection h0 with h0;subst h0;rfl⟩;obtain⟨p,hp',hB⟩:=hb i _ hbl;have hpl:plOf E i=p:=by simp[plOf,hbl,hp']
      rw[hpl];cases p with
      |row _ _=>exact hB.elim
      |cells g=>
       obtain⟨es,clock,hh,hm⟩:=hB;refine⟨es,clock,by rw[hw];exact hh,?_⟩
       have key:∀{l l':List (List UInt8×(FuncId×Nat))}{es:List MapEntry},fEq ids l l'=true->FRep E l' es->FRep E' (fIds ids' l) es:=by
        intro l
        induction l with
        |nil=>intro l' es he h;cases l' with
         |nil=>exact h
         |cons _ _=>cases he
        |cons x l ih=>
         intro l' es he h;cases l' with
         |nil=>cases he
         |cons z l'=>
          obtain⟨he1,he2⟩:=andB (show((decide (x.1=z.1)&&(Nat.beq x.2.1 z.2.1&&(match ids[x.2.2]? with|some i=>Nat.beq i z.2.2|none=>false)))&&fEq ids l l')=true from he);obtain⟨he3,he4⟩:=andB he1;obtain⟨he4,he5⟩:=andB he4;have he3:=Az he3;have he4:=Ag he4;split at he5
          ·rename_i i' hi'
           have he5:=Ag he5;subst he5;obtain⟨e,r,g,q1,q2,q3,q4,q5⟩:=h;exact⟨e,r,g,q1,by rw[q2];show _=Value.string ⟨x.1.toArray⟩;rw[he3],hr.cells x.2.2 _ g hi' q3,by rw[q4];show _=Value.func (.func x.2.1) _ _;rw[he4],ih he2 q5⟩
          ·cases he5
       exact key ht2 hm
     |succ j=>obtain⟨B,h3,h4⟩:=hrest j k (by simpa using hj);exact⟨B,by simpa [mkB]using h3,h4⟩
   ·cases hp
 |.cells t l::r,is,y,hrw,hp=>by
  cases is with
  |nil=>simp[Bz]at hp
  |cons i is=>
   simp only[Bz]at hp;split at hp
   ·rename_i t' cs hbl
    cases ht:Nat.beq t t' with
    |false=>rw[ht]at hp;cases hp
    |true=>
     have:=Ag ht;subst this;simp only[ht,Af]at hp;split at hp
     ·cases hp
     ·rename_i y1 h1
      split at hp
      ·cases hp
      ·rename_i z h2
       simp only[Ac]at hp;subst hp;have hrow:Ci E.bl (.cells t l::r) (i::is)=C3 l cs++Ci E.bl r is:=by simp[Ci,hbl]
       rw[hrow]at hrw;obtain⟨hl,hrest⟩:=FD hb hw hbase hr hmono (hrw.sub λb hbm=>BM _ hbm) h2;refine⟨by simp[hl],λj k hj=>?_⟩;cases j with
       |zero=>
        simp only[BJ,Ac]at hj;subst hj;refine⟨_,rfl,?_,λB0 h0=>by rw[hbl]at h0;injection h0 with h0;subst h0;rfl⟩;obtain⟨p,hp',hB⟩:=hb i _ hbl;have hpl:plOf E i=p:=by simp[plOf,hbl,hp']
        rw[hpl];cases p with
        |row _ _=>exact hB.elim
        |cells g=>obtain⟨vs,hh,hcs⟩:=hB;refine⟨vs,by rw[hw];exact hh,?_⟩;exact CV hb hw hr (hrw.sub λb hbm=>BG _ hbm) hcs h1
       |succ j=>obtain⟨B,h3,h4⟩:=hrest j k (by simpa using hj);exact⟨B,by simpa [mkB]using h3,h4⟩
   ·cases hp
theorem aV{E:Env}{tm:List (Nat×V)}{tmps:Array Value}(h:∀t v,look tm t=some v->VRep E v (tmps.getD t undef)):∀{l:List Nat}{vs:List V},Jp tm l=some vs->VReps E vs (l.map λt=>tmps.getD t undef)
 |[],vs,hl=>by simp only[Jp,Ac]at hl;subst hl;rfl
 |t::l,vs,hl=>by
  simp only[Jp]at hl;split at hl
  ·rename_i v hv
   split at hl
   ·rename_i vs' hvs
    simp only[Ac]at hl;subst hl;exact⟨_,_,rfl,h t v hv,aV h hvs⟩
   ·cases hl
  ·cases hl
theorem aW{E:Env}{ids:List Nat}{tmps:Array Value}:∀{slots:List Nat}{l:List (Bool×List CT)}{x:ST.dens l},TReps E (mkS ids l x) (slots.map λt=>tmps.getD t undef)->∀t v,look (mkT ids slots l x) t=some v->VRep E v (tmps.getD t undef)
 |[],_,_,_,t,v,h=>by simp[mkT,Cn,Ch]at h
 |_::_,[],_,_,t,v,h=>by simp[mkT,Cn,Ch]at h
 |s::ss,p::l,x,hr,t,v,h=>by
  obtain⟨u,us,e,h1,h2⟩:=hr;simp only[Bp,BB]at e;obtain⟨e1,e2⟩:=e;subst e1 e2;simp only[mkT,Cn,Ch]at h;by_cases hts:t=s
  ·subst hts
   rw[GY,Af,Ac]at h;subst h;exact VRep.mk h1
  ·rw[DR hts,AT]at h
   exact aW h2 t v h
theorem aX:∀{a b:List Nat},HZ a b=true->a=b
 |[],[],_=>rfl
 |x::r,y::s,h=>by simp only[HZ,Bv]at h;rw[Ag h.1,aX h.2]
 |[],_::_,h=>by simp[HZ]at h
 |_::_,[],h=>by simp[HZ]at h
def BT.stands(B:Option Blk)(B':Blk):BT->Prop
 |.row t e=>B=none\/∃ver l,B=some (.row t e ver l)
 |.tree t e=>B=none\/∃ver iver l,B=some (.tree t e ver iver none l)/\B'=.tree t e 0 0 none l
 |_=>∀t e ver iver h l,B'≠.tree t e ver iver h l
theorem TJ{bl:Nat->Option Blk}{ids:List Nat}(ids2:List Nat){t:BT}{r:List BT}{i:Nat}{js:List Nat}{y:BT.dens (t::r)}(h:Bz bl ids (t::r) (i::js)=some y):(∃z,Bz bl ids r js=some z/\∃B',mkB ids2 (t::r) y=B'::mkB ids2 r z/\BT.stands (bl i) B' t)/\∀B,bl i=some B->B.live=true:=by
 cases t with
 |cells t l=>
  simp only[Bz]at h;split at h
  ·rename_i t' cs hb
   cases ht:Nat.beq t _ with
   |false=>rw[ht]at h;cases h
   |true=>
    rw[ht,Af]at h;split at h
    ·cases h
    ·split at h
     ·cases h
     ·rename_i z hz
      simp only[Ac]at h;subst h;exact⟨⟨z,hz,_,rfl,λ_ _ _ _ _ _ h=>by cases h⟩,λB hB=>by rw[hb]at hB;injection hB with hB;subst hB;rfl⟩
  ·cases h
 |row t e=>
  simp only[Bz]at h;split at h
  ·rename_i t' e' ver l hb
   cases ht:Nat.beq t t' with
   |false=>rw[ht]at h;cases h
   |true=>
    rw[ht,Af]at h;split at h
    ·rename_i he
     subst he;have:=Ag ht;subst this;split at h
     ·cases h
     ·rename_i z hz
      simp only[Ac]at h;subst h;exact⟨⟨z,hz,_,rfl,.inr ⟨ver,l,hb⟩⟩,λB hB=>by rw[hb]at hB;injection hB with hB;subst hB;rfl⟩
    ·cases h
  ·rename_i hb
   split at h
   ·cases h
   ·rename_i z hz
    simp only[Ac]at h;subst h;exact⟨⟨z,hz,_,rfl,.inl hb⟩,λB hB=>by rw[hb]at hB;cases hB⟩
  ·cases h
 |tree t e=>
  simp only[Bz]at h;split at h
  ·rename_i t' e' ver iver l hb
   cases ht:Nat.beq t t' with
   |false=>rw[ht]at h;cases h
   |true=>
    rw[ht,Af]at h;split at h
    ·rename_i he
     subst he;have:=Ag ht;subst this;split at h
     ·cases h
     ·rename_i z hz
      simp only[Ac]at h;subst h;exact⟨⟨z,hz,_,rfl,.inr ⟨ver,iver,l,hb,rfl⟩⟩,λB hB=>by rw[hb]at hB;injection hB with hB;subst hB;rfl⟩
    ·cases h
  ·rename_i hb
   split at h
   ·cases h
   ·rename_i z hz
    simp only[Ac]at h;subst h;exact⟨⟨z,hz,_,rfl,.inl hb⟩,λB hB=>by rw[hb]at hB;cases hB⟩
  ·cases h
 |map t k v vg=>
  simp only[Bz]at h;split at h
  ·rename_i t' k' v' vg' l hb
   cases ht:(Nat.beq t t'&&(vg==vg'))with
   |false=>rw[ht]at h;cases h
   |true=>
    rw[ht,Af]at h;split at h
    ·split at h
     ·split at h
      ·cases h
      ·rename_i z hz
       simp only[Ac]at h;subst h;exact⟨⟨z,hz,_,rfl,λ_ _ _ _ _ _ h=>by cases h⟩,λB hB=>by rw[hb]at hB;injection hB with hB;subst hB;rfl⟩
     ·cases h
    ·cases h
  ·cases h
 |fmap t l=>
  simp only[Bz]at h;split at h
  ·rename_i t' l' hb
   cases ht:(Nat.beq t t'&&fEq ids l l')with
   |false=>rw[ht]at h;cases h
   |true=>rw[ht,Af]at h;exact⟨⟨y,h,_,rfl,λ_ _ _ _ _ _ h=>by cases h⟩,λB hB=>by rw[hb]at hB;injection hB with hB;subst hB;rfl⟩
  ·cases h
 |mat t et e=>
  simp only[Bz]at h;split at h
  ·rename_i t' et' e' ver iver l hb
   cases ht:(Nat.beq t t'&&Nat.beq et et')with
   |false=>rw[ht]at h;cases h
   |true=>
    rw[ht,Af]at h;split at h
    ·split at h
     ·cases h
     ·rename_i z hz
      simp only[Ac]at h;subst h;exact⟨⟨z,hz,_,rfl,λ_ _ _ _ _ _ h=>by cases h⟩,λB hB=>by rw[hb]at hB;injection hB with hB;subst hB;rfl⟩
    ·cases h
  ·rename_i hb
   split at h
   ·cases h
   ·rename_i z hz
    simp only[Ac]at h;subst h;exact⟨⟨z,hz,_,rfl,λ_ _ _ _ _ _ h=>by cases h⟩,λB hB=>by rw[hb]at hB;cases hB⟩
  ·cases h
theorem TK{bl:Nat->Option Blk}{ids ids2:List Nat}:∀{is:List BT}{js:List Nat}{y:BT.dens is},Bz bl ids is js=some y->js.length=is.length/\(∀i∈js,∀B,bl i=some B->B.live=true)/\∀(j i:Nat)(t e:_)(ver iver:Nat)(l:List e.ty.den)(t' e':_)(ver' iver':Nat)(h':Option Path)(l':List e'.ty.den),js[j]?=some i->bl i=some (.tree t e ver iver none l)->(mkB ids2 is y)[j]?=some (.tree t' e' ver' iver' h' l')->Blk.tree t' e' ver' iver' h' l'=.tree t e 0 0 none l
 |[],js,y,h=>by
  cases js with
  |nil=>exact⟨rfl,λi hi=>by simp at hi,λj i t e ver iver l t' e' ver' iver' h' l' hj=>by simp at hj⟩
  |cons _ _=>simp[Bz]at h
 |t::is,[],y,h=>by cases t<;>simp[Bz]at h
 |t::is,k::js,y,h=>by
  obtain⟨⟨z,hz,B',hB',hs⟩,hl⟩:=TJ ids2 h;obtain⟨i1,i2,i3⟩:=TK (ids2:=ids2) hz;refine⟨by simp[i1],λi hi B hB=>?_,λj i t0 e ver iver l t' e' ver' iver' h' l' hj hb hm=>?_⟩
  ·rcases AH.1 hi with rfl|hi
   ·exact hl B hB
   ·exact i2 i hi B hB
  ·rw[hB']at hm
   cases j with
   |succ j=>exact i3 j i t0 e ver iver l t' e' ver' iver' h' l' (by simpa using hj) hb (by simpa using hm)
   |zero=>
    simp only[BJ,Ac]at hj hm;subst hj hm;rw[hb]at hs;cases t with
    |tree t1 e1=>
     rcases hs with hs|⟨v1,v2,l1,hs,hs2⟩
     ·cases hs
     ·injection hs with hs
      injection hs with q1 q2 q3 q4 q5 q6;subst q1 q2;simp only[Dl]at q6;subst q6;exact hs2
    |row t1 e1=>rcases hs with hs|⟨_,_,hs⟩<;>cases hs
    |cells _ _=>exact absurd rfl (hs _ _ _ _ _ _)
    |map _ _ _ _=>exact absurd rfl (hs _ _ _ _ _ _)
    |mat _ _ _=>exact absurd rfl (hs _ _ _ _ _ _)
    |fmap _ _=>exact absurd rfl (hs _ _ _ _ _ _)
def envR{P:Program}(ok0:OK0 P)(base:Nat)(pl:Nat->Option Pl)(bl2 bl:Nat->Option Blk)(w:World):Env:={w,ok:=λg=>(ok0 g\/(base<=g/\¬ok0.no g))/\¬Own pl bl2 g,base,pl,bl}
theorem aY{P:Program}{is:List BT}{ids:List Nat}{y:BT.dens is}{ok0:OK0 P}{base:Nat}{pl:Nat->Option Pl}{bl bl2:Nat->Option Blk}{w:World}(hr:RelB ok0 base pl bl2 w)(hsub:∀i B,bl i=some B->bl2 i=some B)(hy:Bz bl ids is ids=some y){g:Nat}(ho:Own (λb=>(ids[b]?).map (plOf (envR ok0 base pl bl2 bl w))) (fnBl (mkB (Ax 0 is.length) is y)) g):Own pl bl2 g:=by
 obtain⟨b,B,p,_,_,hp,hg⟩:=ho;cases hb:ids[b]? with
 |none=>simp[hb]at hp
 |some i=>
  simp only[hb,Cl,Ac]at hp;cases hbi:bl i with
  |none=>
   have:plOf (envR ok0 base pl bl2 bl w) i=.row (.slice none 0 0) []:=by simp[plOf,envR,hbi]
   rw[this]at hp;subst hp;have hg:=Pl.has_row hg;simp[Value.ownBlock]at hg
  |some B=>
   obtain⟨q,hq,_⟩:=hr.blks i B (hsub i B hbi);have:plOf (envR ok0 base pl bl2 bl w) i=q:=by simp[plOf,envR,hbi,hq]
   rw[this]at hp;subst hp;obtain⟨_,hlive,_⟩:=TK (ids2:=Ax 0 is.length) hy;exact⟨i,B,q,hsub i B hbi,hlive i (B6 hb) B hbi,hq,hg⟩
theorem aZ{P:Program}{ps:List (Bool×List CT)}{is:List BT}{ids:List Nat}{vs:List V}{us:List Value}{x:ST.dens ps}{y:BT.dens is}{ok0 ok1:OK0 P}{base:Nat}{pl:Nat->Option Pl}{bl bl2:Nat->Option Blk}{w:World}(hr:RelB ok0 base pl bl2 w)(hsub:∀i B,bl i=some B->bl2 i=some B)(hfree:∀i∈ids,bl i=none->bl2 i=none)(hx:Do bl ids ps vs=some x)(hy:Bz bl ids is ids=some y)(c3:ids.Nodup)(c4:∀b∈CD ps vs++Ci bl is ids,b∉ids)(hvs:VReps (envR ok0 base pl bl2 bl w) vs us)(k1:∀g,(ok0 g\/(base<=g/\¬ok0.no g))->¬Own pl bl2 g->(ok1 g\/(base<=g/\¬ok1.no g)))(k2:CD ps vs++Ci bl is ids=[]\/ok1=ok0)(k3:∀g,ok1.no g->g<w.heap.size/\¬Own (λb=>(ids[b]?).map (plOf (envR ok0 base pl bl2 bl w))) (fnBl (mkB (Ax 0 is.length) is y)) g)(k4:∀g,ok1.no g->ok0.no g\/Own pl bl2 g\/w.heap.size<=g):RelB ok1 base (λb=>(ids[b]?).map (plOf (envR ok0 base pl bl2 bl w))) (fnBl (mkB (Ax 0 is.length) is y)) w/\TReps (Ae ok1 base (λb=>(ids[b]?).map (plOf (envR ok0 base pl bl2 bl w))) (fnBl (mkB (Ax 0 is.length) is y)) w) (mkS (Ax 0 is.length) ps x) us/\ids.length=is.length/\(∀i∈ids,∀B,bl i=some B->B.live=true)/\(∀g,Own (λb=>(ids[b]?).map (plOf (envR ok0 base pl bl2 bl w))) (fnBl (mkB (Ax 0 is.length) is y)) g->∃i B p,i∈ids/\bl i=some B/\B.live=true/\pl i=some p/\p.has g):=by
 let E:Env:=(envR ok0 base pl bl2 bl w)
 let plv:Nat->Option Pl:=λb=>(ids[b]?).map (plOf E)
 let blv:Nat->Option Blk:=fnBl (mkB (Ax 0 is.length) is y)
 let Ev:Env:=Ae ok1 base plv blv w
 have hext:Ext (Ae ok0 base pl bl2 w) E:=⟨Ao _,λg h _=>⟨h,rfl⟩,λ_ _ h=>h,λb sv svs h=>⟨sv,svs,h,KeepR.of_eq (λC hC=>hsub b C hC) _ _⟩⟩
 have hblks:BX E:=λi B hB=>by obtain⟨p,hp,hB2⟩:=hr.blks i B (hsub i B hB);exact⟨p,hp,BRep.mono hext hB2 λ_ _=>rfl⟩
 have hplv:∀b p g,plv b=some p->p.has g->∃i B,ids[b]?=some i/\bl i=some B/\pl i=some p:=by
  intro b p g hp hg;cases hb:ids[b]? with
  |none=>simp[plv,hb]at hp
  |some i=>
   simp only[plv,hb,Cl,Ac]at hp;cases hbi:bl i with
   |none=>
    have:plOf E i=.row (.slice none 0 0) []:=by simp[plOf,E,envR,hbi]
    rw[this]at hp;subst hp;have hg:=Pl.has_row hg;simp[Value.ownBlock]at hg
   |some B=>
    obtain⟨q,hq,_⟩:=hr.blks i B (hsub i B hbi);have:plOf E i=q:=by simp[plOf,E,envR,hbi,hq]
    rw[this]at hp;subst hp;exact⟨i,B,rfl,hbi,hq⟩
 obtain⟨hlen,hlive,htreeB⟩:=TK (ids2:=Ax 0 is.length) hy
 have hown:∀g,Own plv blv g->∃i B p,i∈ids/\bl i=some B/\B.live=true/\pl i=some p/\p.has g:=by rintro g ⟨b,B,p,hB,hl,hp,hg⟩;obtain⟨i,B',h1,h2,h3⟩:=hplv b p g hp hg;have hi:=B6 h1;exact⟨i,B',p,hi,h2,hlive i hi B' h2,h3,hg⟩
 have hown':∀g,Own plv blv g->Own pl bl2 g:=λg h=>by obtain⟨i,B,p,_,h1,h2,h3,h4⟩:=hown g h;exact⟨i,B,p,hsub _ _ h1,h2,h3,h4⟩
 have hok:∀g,E.ok g->Ev.ok g:=λg h=>⟨k1 g h.1 h.2,λho=>h.2 (hown' g ho)⟩
 have key1:∀g b B p,b∈CD ps vs++Ci bl is ids->bl2 b=some B->B.live=true->pl b=some p->p.has g->base<=g->(ok1 g\/(base<=g/\¬ok1.no g)):=λg b B p hb hB hl hp hg hge=>by
  rcases k2 with h|h
  ·rw[h]at hb;cases hb
  ·rw[h];exact .inr ⟨hge,λhn=>(hr.glob.no g hn).2 ⟨b,B,p,hB,hl,hp,hg⟩⟩
 have hrows:∀l:List Nat,(∀b∈l,b∈CD ps vs++Ci bl is ids)->Rows E E.bl Ev.ok l:=λl hl0=>⟨hok,λb hb t e ver l' hbl'=>⟨hbl',λsv g hsv hg=>by
  have hbl2:bl2 b=some (.row t e ver l'):=hsub _ _ hbl';have hsv2:pl b=some (.row sv []):=hsv;refine⟨key1 g b _ _ (hl0 b hb) hbl2 rfl hsv2 (.inl hg) ?_,λho=>?_⟩
  ·obtain⟨p,hp,hB⟩:=hr.blks b _ hbl2
   rw[hsv2]at hp;injection hp with hp;subst hp;obtain⟨_,xs,_,ho⟩:=hB;rcases ho.2 with⟨h1,_⟩|⟨g',cap,cur,h1,h2,_⟩
   ·rw[h1]at hg;simp[Value.ownBlock]at hg
   ·rw[h1]at hg
    simp only[Value.ownBlock,Ac]at hg;subst hg;exact h2
  ·obtain⟨i,B,p,hi,h1,h2,h3,h4⟩:=hown g ho
   have hne:i≠b:=by rintro rfl;exact c4 i (hl0 i hb) hi
   exact hr.sep i b _ _ p (.row sv []) g hne (hsub _ _ h1) hbl2 h2 rfl h3 hsv2 h4 (.inl hg)⟩,λb hb t et e ver iver hole l' hbl'=>⟨hbl',λsv svs g hsv hg=>by
  have hbl2:bl2 b=some (.mat t et e ver iver hole l'):=hsub _ _ hbl';have hsv2:pl b=some (.row sv svs):=hsv;refine⟨key1 g b _ _ (hl0 b hb) hbl2 rfl hsv2 hg ?_,λho=>?_⟩
  ·obtain⟨p,hp,hB⟩:=hr.blks b _ hbl2
   rw[hsv2]at hp;injection hp with hp;subst hp;have hM:MatOk (Ae ok0 base pl bl2 w) t et e hole l' sv svs:=hB;rcases hg with hg|⟨k,s,hks,hg⟩
   ·obtain⟨vs,h1,_⟩:=hM.outer
    exact(h1.lt g hg).1
   ·have hlt:k<l'.length:=by rw[<-hM.len];exact(BI.1 hks).1
    obtain⟨xs,_,h2⟩:=hM.inner k s l'[k] hks (Bx hlt);exact(h2.lt g hg).1
  ·obtain⟨i,B,p,hi,h1,h2,h3,h4⟩:=hown g ho
   have hne:i≠b:=by rintro rfl;exact c4 i (hl0 i hb) hi
   exact hr.sep i b _ _ p (.row sv svs) g hne (hsub _ _ h1) hbl2 h2 rfl h3 hsv2 h4 hg⟩,λb hb t e ver iver hole l' hbl'=>⟨hbl',λsv svs g hsv hg=>by
  have hbl2:bl2 b=some (.tree t e ver iver hole l'):=hsub _ _ hbl';have hsv2:pl b=some (.row sv svs):=hsv;refine⟨key1 g b _ _ (hl0 b hb) hbl2 rfl hsv2 hg (Tz hr hbl2 rfl hsv2 hg).1,λho=>?_⟩;obtain⟨i,B,p,hi,h1,h2,h3,h4⟩:=hown g ho;have hne:i≠b:=by rintro rfl;exact c4 i (hl0 i hb) hi
  exact hr.sep i b _ _ p (.row sv svs) g hne (hsub _ _ h1) hbl2 h2 rfl h3 hsv2 h4 hg⟩⟩
 have hren:Ren E Ev ids (Ax 0 is.length):=by
  have key:∀b i,ids[b]?=some i->Ev.pl ((Ax 0 is.length).getD b 0)=some (plOf E i):=by
   intro b i hi;have hlt:b<is.length:=by rw[<-hlen];exact(BI.1 hi).1
   rw[HY hlt];simp[Ev,Ae,plv,hi]
  refine⟨λb i g hi h=>?_,λb i sv svs t e ver l hi hb h=>?_,λb i sv svs t et e ver iver hole l hi hb h=>?_,λb i sv svs t e ver iver l hi hb h=>?_,λb i t e ver iver l t' e' ver' iver' h' l' hi hbl hbl'=>?_,λb i hi h=>?_⟩
  ·rw[key b i hi]
   have h':pl i=some (.cells g):=h;cases hbi:bl i with
   |none=>rw[hr.fresh i (hfree i (B6 hi) hbi)]at h';cases h'
   |some B=>simp[plOf,E,envR,hbi,h']
  ·rw[key b i hi]
   have h':pl i=some (.row sv svs):=h;have hb':bl i=some _:=hb;simp[plOf,E,envR,hb',h']
  ·rw[key b i hi]
   have h':pl i=some (.row sv svs):=h;have hb':bl i=some _:=hb;simp[plOf,E,envR,hb',h']
  ·rw[key b i hi]
   have h':pl i=some (.row sv svs):=h;have hb':bl i=some _:=hb;simp[plOf,E,envR,hb',h']
  ·have hlt:b<is.length:=by rw[<-hlen];exact(BI.1 hi).1
   rw[HY hlt]at hbl';exact htreeB b i t e ver iver l t' e' ver' iver' h' l' hi hbl hbl'
  ·rw[key b i hi]
   have h':bl i=none:=h;simp[plOf,E,envR,h']
 have hS:=TH hblks (show Ev.w=E.w from rfl) hren (hrows _ λb hb=>BG _ hb) hvs hx;obtain⟨_,hB⟩:=FD hblks (show Ev.w=E.w from rfl) rfl hren hok (hrows _ λb hb=>BM _ hb) hy;refine⟨⟨hr.baseLe,λi B hBi=>?_,λi j B C p q g hij hBi hCj hl hlC hp hq hpg hqg=>?_,λi hi=>?_,⟨hr.glob.g0.gen (Ao _) (λg _ h1 _=>⟨rfl,λq=>h1 (hown' g q)⟩) k4,k3⟩⟩,hS,hlen,hlive,hown⟩
 ·have hlt:i<ids.length:=by have:=(BI.1 (show(mkB (Ax 0 is.length) is y)[i]?=some B from hBi)).1;rw[CU]at this;omega
  obtain⟨B',h1,h2,_⟩:=hB i ids[i] (Bx hlt);have h4:(mkB (Ax 0 is.length) is y)[i]?=some B:=hBi;rw[h1]at h4;injection h4 with h4;subst h4;exact⟨plOf E ids[i],by simp[Bx hlt,E],h2⟩
 ·obtain⟨i',B',h1,h2,h3⟩:=hplv i p g hp hpg
  obtain⟨j',C',h4,h5,h6⟩:=hplv j q g hq hqg
  have hne:i'≠j':=by rintro rfl;have q1:=Ff c3 h1;have q2:=Ff c3 h4;rw[q1]at q2;injection q2 with q2;exact hij q2
  exact hr.sep i' j' B' C' p q g hne (hsub _ _ h2) (hsub _ _ h5) (hlive i' (B6 h1) B' h2) (hlive j' (B6 h4) C' h5) h3 h6 hpg hqg
 ·have hge:ids.length<=i:=by have h1:(mkB (Ax 0 is.length) is y)[i]?=none:=hi;rw[IF,CU]at h1;omega
  simp[Km hge]
theorem xM{P:Program}{ps:List (Bool×List CT)}{is:List BT}{ids:List Nat}{vs:List V}{us:List Value}{x:ST.dens ps}{y:BT.dens is}{ok0:OK0 P}{base:Nat}{pl:Nat->Option Pl}{bl bl2:Nat->Option Blk}{w:World}(hr:RelB ok0 base pl bl2 w)(hsub:∀i B,bl i=some B->bl2 i=some B)(hfree:∀i∈ids,bl i=none->bl2 i=none)(hx:Do bl ids ps vs=some x)(hy:Bz bl ids is ids=some y)(c3:ids.Nodup)(c4:∀b∈CD ps vs++Ci bl is ids,b∉ids)(hvs:VReps (envR ok0 base pl bl2 bl w) vs us):RelB ok0 base (λb=>(ids[b]?).map (plOf (envR ok0 base pl bl2 bl w))) (fnBl (mkB (Ax 0 is.length) is y)) w/\TReps (Ae ok0 base (λb=>(ids[b]?).map (plOf (envR ok0 base pl bl2 bl w))) (fnBl (mkB (Ax 0 is.length) is y)) w) (mkS (Ax 0 is.length) ps x) us/\ids.length=is.length/\(∀i∈ids,∀B,bl i=some B->B.live=true)/\(∀g,Own (λb=>(ids[b]?).map (plOf (envR ok0 base pl bl2 bl w))) (fnBl (mkB (Ax 0 is.length) is y)) g->∃i B p,i∈ids/\bl i=some B/\B.live=true/\pl i=some p/\p.has g):=
 aZ hr hsub hfree hx hy c3 c4 hvs (λ_ h _=>h) (.inr rfl) (λg hn=>⟨(hr.glob.no g hn).1,λho=>(hr.glob.no g hn).2 (aY hr hsub hy ho)⟩) λ_ h=>.inl h
theorem View.weaken{P:Program}{n:Nat}{v:View}{σ:St}{d:v.den}(hd:v.read σ=some d){ok0:OK0 P}{base:Nat}{pl:Nat->Option Pl}{a:Act}{w:World}(hr:Rel n ok0 base pl (look σ.tm) (look σ.bl) a w):∃plv,Rel n ok0 base plv (look (v.mk' d).tm) (look (v.mk' d).bl) a w/\StepM v.m pl (look σ.bl) w plv (look (v.mk' d).bl) w:=by
 unfold View.read at hd;split at hd
 ·cases hd
 rename_i vs hvs;split at hd
 ·cases hd
 rename_i ids _;split at hd
 ·cases hd
 rename_i x hx;split at hd
 ·cases hd
 rename_i y hy;cases hc:(Nat.ble v.m v.ins.length&&(HZ (ids.take v.m) (Ax 0 v.m)&&(E9 ids&&!meet (CD v.params vs++Ci (look σ.bl) v.ins ids) ids)))with
 |false=>rw[hc]at hd;cases hd
 |true=>
  simp only[hc,Af,Ac]at hd;subst hd;obtain⟨c1,hc⟩:=andB hc;obtain⟨c2,hc⟩:=andB hc;obtain⟨c3,c4⟩:=andB hc;have c2:=aX c2;simp only[IK]at c4;obtain⟨q1,q2,_,_,q5⟩:=xM (bl:=look σ.bl) hr.rel (λ_ _ h=>h) (λ_ _ h=>h) hx hy (Ji c3) (Ox.1 c4) (aV hr.tmps hvs);rw[Ia];refine⟨_,⟨hr.defers,hr.size,λt v' ht=>aW q2 t v' ht,q1⟩,rfl,rfl,rfl,Ao _,λg _ ho=>⟨rfl,λh=>?_⟩,λb g hb hp=>?_,λb sv svs hb hp=>?_⟩
  ·obtain⟨i,B,p,_,h1,h2,h3,h4⟩:=q5 g h
   exact ho ⟨i,B,p,h1,h2,h3,h4⟩
  all_goals
   have hget:ids[b]?=some b:=by
    have h1:(ids.take v.m)[b]?=some b:=by rw[c2];simpa using Tp (n:=v.m) (s:=0) hb
    rwa [Kk hb]at h1
  ·cases hbi:look σ.bl b with
   |none=>rw[hr.rel.fresh b hbi]at hp;cases hp
   |some B=>simp[hget,plOf,envR,hbi,hp]
  ·cases hbi:look σ.bl b with
   |none=>rw[hr.rel.fresh b hbi]at hp;cases hp
   |some B=>exact⟨sv,svs,by simp[hget,plOf,envR,hbi,hp]⟩
end
end Go.Lift
namespace Go.Lift
noncomputable section
open Go.RowKit
def eqE:AExit->AExit->Bool
 |.normal,.normal=>true
 |.exit a,.exit b=>Nat.beq a b
 |.ret,.ret=>true
 |_,_=>false
theorem xN{a b:AExit}(h:eqE a b=true):a=b:=by cases a<;>cases b<;>simp only[eqE]at h<;>first|rfl|(cases h;done)|(rw[Ag h])
@[reducible] def Outs.den:List (AExit×View)->Type
 |[]=>Empty
 |x::r=>x.2.den⊕Outs.den r
@[reducible] def Outs.K(β:Type):List (AExit×View)->Type
 |[]=>Unit
 |x::r=>(x.2.den->Option β)×Outs.K β r
def outK{β:Type}:(outs:List (AExit×View))->Outs.K β outs->Kx β
 |[],_,_,_=>none
 |x::r,ks,e,σ=>
  bif eqE e x.1 then
   match x.2.read σ with
   |some d=>ks.1 d
   |none=>none
  else outK r ks.2 e σ
def Outs.app{β:Type}:(outs:List (AExit×View))->Outs.K β outs->Outs.den outs->Option β
 |_::_,ks,.inl d=>ks.1 d
 |_::r,ks,.inr o=>Outs.app r ks.2 o
def mkK{β:Type}(k:Kx β):(outs:List (AExit×View))->Outs.K β outs
 |[]=>()
 |x::r=>(λd=>k x.1 (x.2.mk' d),mkK k r)
def Cy:(outs:List (AExit×View))->Outs.den outs->AExit×St
 |x::_,.inl d=>(x.1,x.2.mk' d)
 |_::r,.inr o=>Cy r o
def La{β:Type}(v:View)(g:v.den->Option β)(outs:List (AExit×View))(kk:Outs.K β outs):Kx β
 |.normal,σ=>
  match v.read σ with
  |some d=>g d
  |none=>none
 |e,σ=>outK outs kk e σ
section
variable{P:Program}{n m:Nat}
structure PieceOk (P:Program) (n m:Nat) (c:Code) (v:View) (outs:List (AExit×View)) (G:{β:Type}->v.den->Outs.K β outs->Option β):Prop where
 ok:∀{β:Type}(d:v.den)(kk:Outs.K β outs)(r:β),G d kk=some r->∃o,Outs.app outs kk o=some r/\
  ∀(ok0:OK0 P)(base:Nat)(pl:Nat->Option Pl)(a:Act)(w:World),Rel n ok0 base pl (look (v.mk' d).tm) (look (v.mk' d).bl) a w->
   c.wp P (λe a' w'=>e=(Cy outs o).1.toExit/\∃pl',Rel n ok0 base pl' (look (Cy outs o).2.tm) (look (Cy outs o).2.bl) a' w'/\StepM m pl (look (v.mk' d).bl) w pl' (look (Cy outs o).2.bl) w') a w
def Oz(v:View)(outs:List (AExit×View))(G:{β:Type}->v.den->Outs.K β outs->Option β):Cut:=
 ⟨λσ k=>
  match v.read σ with
  |some d=>G d (mkK k outs)
  |none=>none⟩
theorem bA{β:Type}{k:Kx β}:∀{outs:List (AExit×View)}(o:Outs.den outs),Outs.app outs (mkK k outs) o=k (Cy outs o).1 (Cy outs o).2
 |[],o=>o.elim
 |_::_,.inl _=>rfl
 |_::r,.inr o=>bA (outs:=r) o
theorem xO{c:Code}{v:View}{outs:List (AExit×View)}{G:{β:Type}->v.den->Outs.K β outs->Option β}(hv:v.m=m)(h:PieceOk P n m c v outs G):Jo P n m c (Oz v outs G):=by
 intro β σ k r hr;simp only[Oz]at hr;split at hr
 ·rename_i d hd
  obtain⟨o,ho,hw⟩:=h.ok d _ r hr;rw[bA]at ho;refine⟨_,_,ho,λok0 base pl a w hrel=>?_⟩;obtain⟨plv,h1,h2⟩:=View.weaken hd hrel;rw[hv]at h2;exact Cq (hw ok0 base plv a w h1) λe a' w' ⟨he,pl',h3,h4⟩=>⟨he,pl',h3,h2.trans h4⟩
 ·cases hr
theorem TL{β:Type}{r:β}{e:AExit}{σ:St}:∀{outs:List (AExit×View)}{kk:Outs.K β outs},(∀x∈outs,x.2.m=m)->outK outs kk e σ=some r->∃o,Outs.app outs kk o=some r/\(Cy outs o).1=e/\∀(ok0:OK0 P)(base:Nat)(pl:Nat->Option Pl)(a:Act)(w:World),Rel n ok0 base pl (look σ.tm) (look σ.bl) a w->∃plv,Rel n ok0 base plv (look (Cy outs o).2.tm) (look (Cy outs o).2.bl) a w/\StepM m pl (look σ.bl) w plv (look (Cy outs o).2.bl) w
 |[],kk,_,h=>by simp[outK]at h
 |x::l,kk,hm,h=>by
  simp only[outK]at h;cases he:eqE e x.1 with
  |true=>
   rw[he,Af]at h;split at h
   ·rename_i d hd
    refine⟨.inl d,h,(xN he).symm,λok0 base pl a w hr=>?_⟩;have:=View.weaken hd hr;rw[hm x (by simp)]at this;exact this
   ·cases h
  |false=>rw[he,AT]at h;obtain⟨o,h1,h2,h3⟩:=TL (λy hy=>hm y (by simp[hy])) h;exact⟨.inr o,h1,h2,h3⟩
theorem xP{β:Type}{r:β}{c:Code}{σ:St}{outs:List (AExit×View)}{kk:Outs.K β outs}(hm:∀x∈outs,x.2.m=m)(h:Sim P n m c σ (outK outs kk) r):∃o,Outs.app outs kk o=some r/\∀(ok0:OK0 P)(base:Nat)(pl:Nat->Option Pl)(a:Act)(w:World),Rel n ok0 base pl (look σ.tm) (look σ.bl) a w->c.wp P (λe a' w'=>e=(Cy outs o).1.toExit/\∃pl',Rel n ok0 base pl' (look (Cy outs o).2.tm) (look (Cy outs o).2.bl) a' w'/\StepM m pl (look σ.bl) w pl' (look (Cy outs o).2.bl) w') a w:=by
 obtain⟨e',σ',h1,h2⟩:=h;obtain⟨o,h3,h4,h5⟩:=TL (n:=n) hm h1;refine⟨o,h3,λok0 base pl a w hr=>Cq (h2 ok0 base pl a w hr) λe a' w' ⟨he,pl',hr',hs'⟩=>?_⟩;obtain⟨plv,h6,h7⟩:=h5 ok0 base pl' a' w' hr';exact⟨by rw[he,h4],plv,h6,hs'.trans h7⟩
theorem bB{outs:List (AExit×View)}(h:(outs.all λx=>Nat.beq x.2.m m)=true):∀x∈outs,x.2.m=m:=λx hx=>Ag (C1.1 h x hx)
theorem xQ(hmx:P.follows .mixedOrders=true){X:Ctx}(hT:TOk P X.T)(hΓ:ΓOk P X.Γ){Λ:Nat->Option Cut}{p:Nat}{c:Code}{v:View}{outs:List (AExit×View)}{G:{β:Type}->v.den->Outs.K β outs->Option β}(hmB:(outs.all λx=>Nat.beq x.2.m m)=true)(hΛ:∀q cut,Λ q=some cut->∀c'∈find q p c,Jo P n m c' cut)(h:∀{β:Type}(d:v.den)(kk:Outs.K β outs)(r:β),G d kk=some r->exec X n Λ p c (v.mk' d) (outK outs kk)=some r):PieceOk P n m c v outs G:=
 ⟨λd kk r hr=>xP (bB hmB) (TF hmx hT hΓ hΛ (h d kk r hr))⟩
theorem xR(hmx:P.follows .mixedOrders=true){X:Ctx}(hT:TOk P X.T)(hΓ:ΓOk P X.Γ){Λ:Nat->Option Cut}{p:Nat}{c:Code}{v:View}{outs:List (AExit×View)}{G:Nat->{β:Type}->v.den->Outs.K β outs->Option β}(hv:v.m=m)(hmB:(outs.all λx=>Nat.beq x.2.m m)=true)(hΛ:∀q cut,Λ q=some cut->∀c'∈find q p c,Jo P n m c' cut)(h0:∀{β:Type}(d:v.den)(kk:Outs.K β outs),G 0 d kk=none)(hs:∀(i:Nat){β:Type}(d:v.den)(kk:Outs.K β outs)(r:β),G (i+1) d kk=some r->exec X n Λ p c (v.mk' d) (La v (λd'=>G i d' kk) outs kk)=some r):∀i,PieceOk P n m (.loop c) v outs (G i):=by
 have hm:=bB hmB
 have key:∀(i:Nat){β:Type}(d:v.den)(kk:Outs.K β outs)(r:β),G i d kk=some r->∃o,Outs.app outs kk o=some r/\
   ∀(ok0:OK0 P)(base:Nat)(pl:Nat->Option Pl)(a:Act)(w:World),Rel n ok0 base pl (look (v.mk' d).tm) (look (v.mk' d).bl) a w->
    Code.rounds P c (λe a' w'=>e=(Cy outs o).1.toExit/\∃pl',Rel n ok0 base pl' (look (Cy outs o).2.tm) (look (Cy outs o).2.bl) a' w'/\StepM m pl (look (v.mk' d).bl) w pl' (look (Cy outs o).2.bl) w') i a w:=by
  intro i
  induction i with
  |zero=>intro β d kk r h;rw[h0]at h;cases h
  |succ i ih=>
   intro β d kk r h;obtain⟨e',σ',h1,h2⟩:=TF hmx hT hΓ hΛ (hs i d kk r h)
   have hb:(e'=.normal/\∃d',v.read σ'=some d'/\G i d' kk=some r)\/(e'≠.normal/\outK outs kk e' σ'=some r):=by
    cases e' with
    |normal=>
     simp only[La]at h1;split at h1
     ·rename_i d' hd;exact .inl ⟨rfl,d',hd,h1⟩
     ·cases h1
    |exit id=>exact .inr ⟨λh=>(by cases h),h1⟩
    |ret=>exact .inr ⟨λh=>(by cases h),h1⟩
   rcases hb with⟨he,d',hd,hg⟩|⟨he,hk⟩
   ·subst he
    obtain⟨o,ho,hw⟩:=ih d' kk r hg;refine⟨o,ho,λok0 base pl a w hr=>?_⟩;rw[rounds_succ];refine Cq (h2 ok0 base pl a w hr) λe a' w' ⟨he,pl',hr',hs'⟩=>?_;subst he;obtain⟨plv,h6,h7⟩:=View.weaken hd hr';rw[hv]at h7
    have hmono:∀(j:Nat){Q Q':Exit->Act->World->Prop}{a:Act}{w:World},(∀e a w,Q e a w->Q' e a w)->Code.rounds P c Q j a w->Code.rounds P c Q' j a w:=by
     intro j
     induction j with
     |zero=>intro _ _ _ _ _ h;exact h
     |succ j ihj=>
      intro Q Q' a w hq h;rw[rounds_succ]at h⊢;refine Cq h λe a w h=>?_;cases e with
      |normal=>exact ihj hq h
      |_=>exact hq _ _ _ h
    exact hmono i (λe a2 w2 ⟨q1,pl2,q2,q3⟩=>⟨q1,pl2,q2,(hs'.trans h7).trans q3⟩) (hw ok0 base plv a' w' h6)
   ·obtain⟨o,h3,h4,h5⟩:=TL (n:=n) hm hk
    refine⟨o,h3,λok0 base pl a w hr=>?_⟩;rw[rounds_succ];refine Cq (h2 ok0 base pl a w hr) λe a' w' ⟨he',pl',hr',hs'⟩=>?_;obtain⟨plv,h6,h7⟩:=h5 ok0 base pl' a' w' hr';subst he'
    have hQ:e'.toExit=(Cy outs o).1.toExit/\∃pl',Rel n ok0 base pl' (look (Cy outs o).2.tm) (look (Cy outs o).2.bl) a' w'/\StepM m pl (look (v.mk' d).bl) w pl' (look (Cy outs o).2.bl) w':=
     ⟨by rw[h4],plv,h6,hs'.trans h7⟩
    cases e' with
    |normal=>exact absurd rfl he
    |exit id=>exact hQ
    |ret=>exact hQ
 refine λi=>⟨λ{β} d kk r h=>?_⟩;obtain⟨o,ho,hw⟩:=key i d kk r h;exact⟨o,ho,λok0 base pl a w hr=>wp_loop_rounds i (hw ok0 base pl a w hr)⟩
def vIn(S:Spec):View:={m:=S.ins.length,slots:=Ax 0 S.params.length,params:=S.params,ins:=S.ins}
inductive RS where
 |tmp (t:Nat)
 |cell (a:Nat) (t:TypeId)
def RS.toVar:RS->ResultVar
 |.tmp t=>.tmp t
 |.cell a t=>.cell a t
def TM(T:TypeId->Option TI)(tm:List (Nat×V))(bl:List (Nat×Blk)):RS->Option V
 |.tmp t=>look tm t
 |.cell a t=>
  match T t with
  |none=>none
  |some ti=>
   bif ti.agg||Nat.beq ti.size 1 then
    match look tm a with
    |some (.c (.ptr b o))=>
     match look bl b with
     |some (.cells _ cs)=>
      match sub cs o ti.size with
      |some rc=>some (V.mk ti.agg rc)
      |none=>none
     |_=>none
    |_=>none
   else none
def DU(T:TypeId->Option TI)(tm:List (Nat×V))(bl:List (Nat×Blk)):List RS->Option (List V)
 |[]=>some []
 |x::r=>
  match TM T tm bl x with
  |none=>none
  |some v=>
   match DU T tm bl r with
   |none=>none
   |some vs=>some (v::vs)
def numV:Nat->List V->List (Nat×V)
 |_,[]=>[]
 |i,v::r=>(i,v)::numV (i+1) r
def vRes(S:Spec):View:={m:=S.ins.length,slots:=Ax 0 S.res.length,params:=S.res,ins:=S.outs}
def Ib{β:Type}(T:TypeId->Option TI)(S:Spec)(rs:List RS)(k:ST.dens S.res×BT.dens S.outs->Option β)(σ:St):Option β:=
 match DU T σ.tm σ.bl rs with
 |none=>none
 |some vs=>
  match(vRes S).read ⟨numV 0 vs,σ.bl,σ.nx⟩with
  |some y=>k y
  |none=>none
def retK{β:Type}(T:TypeId->Option TI)(S:Spec)(rs:List RS)(k:ST.dens S.res×BT.dens S.outs->Option β):Kx β
 |.exit _,_=>none
 |.normal,σ=>Ib T S rs k σ
 |.ret,σ=>Ib T S rs k σ
theorem TN{E:Env}{ids:List Nat}{tmps:Array Value}:∀{l:List (Bool×List CT)}{x:ST.dens l}{us:List Value}{s:Nat},TReps E (mkS ids l x) us->(∀j,j<us.length->tmps.getD (s+j) undef=us.getD j undef)->∀t v,look (mkT ids (Ax s l.length) l x) t=some v->VRep E v (tmps.getD t undef)
 |[],_,_,s,_,_,t,v,h=>by simp[mkT,Ax,Cn,Ch]at h
 |p::l,x,us,s,hr,hg,t,v,h=>by
  obtain⟨u,us',e,h1,h2⟩:=hr;subst e;simp only[Aw,Ax,mkT,Cn,Ch]at h;by_cases hts:t=s
  ·subst hts
   rw[GY,Af,Ac]at h;subst h;have:=hg 0 (by simp);simp only[HE,List.getD_cons_zero]at this;rw[this];exact VRep.mk h1
  ·rw[DR hts,AT]at h
   refine TN h2 (λj hj=>?_) t v h;have:=hg (j+1) (by simpa using hj);rw[show s+1+j=s+(j+1) by omega,this];simp
theorem TReps.length{E:Env}:∀{ts:List (Bool×List C)}{vs:List Value},TReps E ts vs->vs.length=ts.length
 |[],vs,h=>by simp only[TReps]at h;simp[h]
 |_::ts,vs,⟨_,_,e,_,h⟩=>by rw[e,Aw,Aw,TReps.length h]
theorem TO{ids:List Nat}:∀{l:List (Bool×List CT)}{x:ST.dens l},(mkS ids l x).length=l.length
 |[],_=>rfl
 |_::l,x=>by simp[mkS,TO (l:=l)]
def CT.count:List CT->Nat
 |[]=>0
 |.data τ::r=>τ.size+CT.count r
 |_::r=>CT.count r+1
def ST.tidy:List (Bool×List CT)->Bool
 |[]=>true
 |p::r=>(p.1||Nat.beq (CT.count p.2) 1)&&ST.tidy r
theorem DC{ids:List Nat}:∀{l:List CT}{x:CT.dens l},(mkC ids l x).length=CT.count l
 |[],_=>rfl
 |.data τ::l,x=>by simp[mkC,CT.count,SR,DC (l:=l)]
 |.ptr _ _::l,x=>by simp[mkC,CT.count,DC (l:=l)]
 |.rowh _::l,x=>by simp[mkC,CT.count,DC (l:=l)]
 |.fn _ _::l,x=>by simp[mkC,CT.count,DC (l:=l)]
 |.maph _::l,x=>by simp[mkC,CT.count,DC (l:=l)]
 |.math _::l,x=>by simp[mkC,CT.count,DC (l:=l)]
 |.bself _::l,x=>by simp[mkC,CT.count,DC (l:=l)]
 |.bfnh _ _::l,x=>by simp[mkC,CT.count,DC (l:=l)]
 |.trowh _::l,x=>by simp[mkC,CT.count,DC (l:=l)]
 |.tptrh _ _ _::l,x=>by simp[mkC,CT.count,DC (l:=l)]
 |.nilc::l,x=>by simp[mkC,CT.count,DC (l:=l)]
 |.nils::l,x=>by simp[mkC,CT.count,DC (l:=l)]
 |.lsome _::l,x=>by simp[mkC,CT.count,DC (l:=l)]
 |.junk::l,x=>by simp[mkC,CT.count,DC (l:=l)]
theorem bC{ids:List Nat}:∀{slots:List Nat}{l:List (Bool×List CT)}{x:ST.dens l}{t:Nat}{v:V},look (mkT ids slots l x) t=some v->t∈slots
 |[],_,_,t,v,h=>by simp[mkT,Cn,Ch]at h
 |_::_,[],_,t,v,h=>by simp[mkT,Cn,Ch]at h
 |s::ss,p::l,x,t,v,h=>by
  simp only[mkT,Cn,Ch]at h;by_cases hts:t=s
  ·simp[hts]
  ·rw[DR hts,AT]at h
   exact AU _ (bC h)
theorem bD{E:Env}{ids:List Nat}{tmps:Array Value}:∀{slots:List Nat}{l:List (Bool×List CT)}{x:ST.dens l},slots.length=l.length->(∀t v,look (mkT ids slots l x) t=some v->VRep E v (tmps.getD t undef))->slots.Nodup->ST.tidy l=true->TReps E (mkS ids l x) (slots.map λt=>tmps.getD t undef)
 |[],[],_,_,_,_,_=>rfl
 |[],_::_,_,hl,_,_,_=>by simp at hl
 |_::_,[],_,hl,_,_,_=>by simp at hl
 |s::ss,p::l,x,hl,h,hn,ht=>by
  obtain⟨t1,t2⟩:=andB (show((p.1||Nat.beq (CT.count p.2) 1)&&ST.tidy l)=true from ht);obtain⟨n1,n2⟩:=GS.1 hn;have h1:=h s (V.mk p.1 (mkC ids p.2 x.1)) (by simp[mkT,Cn,Ch]);refine⟨_,_,rfl,?_,bD (by simpa using hl) (λt v hv=>h t v ?_) n2 t2⟩
  ·cases ha:p.1 with
   |true=>rw[ha]at h1;exact h1
   |false=>
    rw[ha]at h1 t1;simp only[HC]at t1;have hlen:=DC (ids:=ids) (l:=p.2) (x:=x.1);rw[Ag t1]at hlen;show SRep E false (mkC ids p.2 x.1) _
    match hc:mkC ids p.2 x.1,hlen with
    |[y],_=>rw[hc]at h1;exact⟨[_],⟨_,_,rfl,h1,rfl⟩,by simp⟩
  ·have:t∈ss:=bC hv
   have hne:t≠s:=λe=>n1 (e▸this);rw[mkT,Ch,DR hne,AT];exact hv
theorem VReps.length{E:Env}:∀{vs:List V}{us:List Value},VReps E vs us->us.length=vs.length
 |[],us,h=>by simp only[VReps]at h;simp[h]
 |_::vs,us,⟨_,_,e,_,h⟩=>by rw[e,Aw,Aw,VReps.length h]
theorem VReps.get{E:Env}:∀{vs:List V}{us:List Value}{s t:Nat}{v:V},VReps E vs us->look (numV s vs) t=some v->s<=t/\∃u,us[t-s]?=some u/\VRep E v u
 |[],us,s,t,v,h,hl=>by simp[numV,Cn,Ch]at hl
 |x::vs,us,s,t,v,⟨u,us',e,h1,h2⟩,hl=>by
  simp only[numV,Cn,Ch]at hl;by_cases hts:t=s
  ·subst hts
   rw[GY,Af,Ac]at hl;subst hl;exact⟨Ao _,u,by simp[e],h1⟩
  ·rw[DR hts,AT]at hl
   obtain⟨h3,u',h4,h5⟩:=VReps.get h2 hl;refine⟨by omega,u',?_,h5⟩;have h6:t-s=(t-(s+1))+1:=by omega
   rw[e,h6,BV];exact h4
theorem xS{P:Program}{n:Nat}{T:TypeId->Option TI}(hT:TOk P T){tm:List (Nat×V)}{bl:List (Nat×Blk)}{x:RS}{v:V}(hv:TM T tm bl x=some v){ok0:OK0 P}{base:Nat}{pl:Nat->Option Pl}{a:Act}{w:World}{blw:Nat->Option Blk}(hsw:∀b B,look bl b=some B->blw b=some B)(hr:Rel n ok0 base pl (look tm) blw a w):∃val,(match x.toVar with|.tmp t=>(pure (a.tmps.getD t undef):Sem Value)|.cell b t=>do loadVar t (<-asAddr (a.tmps.getD b undef))).run P w=.ok val w/\VRep (Ae ok0 base pl blw w) v val:=by
 cases x with
 |tmp t=>exact⟨_,by simp only[RS.toVar,Sem.run_pure],hr.tmps t v hv⟩
 |cell b t=>
  simp only[TM]at hv;split at hv
  ·cases hv
  rename_i ti ht;obtain⟨i,d,z,f⟩:=hT.facts ht;cases h1:(ti.agg||Nat.beq ti.size 1)with
  |false=>rw[h1]at hv;cases hv
  |true=>
   have h1':ti.agg=true\/ti.size=1:=by
    rcases(GR _ _).mp h1 with h|h
    ·exact .inl h
    ·exact .inr (Ag h)
   simp only[h1,Af]at hv;split at hv
   ·rename_i b' o hb
    split at hv
    ·rename_i t0 cs hbl
     split at hv
     ·rename_i rc hsub
      simp only[Ac]at hv;subst hv;obtain⟨g,hg,hav⟩:=hr.tmps b _ hb;obtain⟨p,hp,hB⟩:=hr.rel.blks b' _ (hsw _ _ hbl);have:p=.cells g:=by have h2:pl b'=some (.cells g):=hg;rw[hp]at h2;injection h2
      subst this;obtain⟨vs,hh,hcs⟩:=hB;obtain⟨s1,s2,s3⟩:=HN hcs hsub;obtain⟨val,hv1,hv2⟩:=Jg f s2 h1' (λj u hj=>On hh hj) s1;refine⟨val,?_,hv2⟩;simp only[RS.toVar,hav,asAddr,pure_bind];exact hv1
     ·cases hv
    ·cases hv
   ·cases hv
theorem TP{P:Program}{n:Nat}{T:TypeId->Option TI}(hT:TOk P T){fn:Func}{rs:List RS}(h:fn.results.toList=rs.map RS.toVar){tm:List (Nat×V)}{bl:List (Nat×Blk)}{vs:List V}(hv:DU T tm bl rs=some vs){ok0:OK0 P}{base:Nat}{pl:Nat->Option Pl}{a:Act}{w:World}{blw:Nat->Option Blk}(hsw:∀b B,look bl b=some B->blw b=some B)(hr:Rel n ok0 base pl (look tm) blw a w):∃vals,(results fn a.tmps).run P w=.ok (DB vals) w/\VReps (Ae ok0 base pl blw w) vs vals:=by
 have h':fn.results=(rs.map RS.toVar).toArray:=by apply Dc;simpa using h
 let F:ResultVar->Sem Value:=λx=>match x with|.tmp t=>pure (a.tmps.getD t undef)|.cell b t=>do loadVar t (<-asAddr (a.tmps.getD b undef))
 have hl:∀(rs:List RS)(vs:List V),DU T tm bl rs=some vs->∃vals,((rs.map RS.toVar).mapM F).run P w=.ok vals w/\VReps (Ae ok0 base pl blw w) vs vals:=by
  intro rs
  induction rs with
  |nil=>intro vs h;simp only[DU,Ac]at h;subst h;exact⟨[],by simp,rfl⟩
  |cons x rs ih=>
   intro vs h;simp only[DU]at h;split at h
   ·cases h
   ·rename_i v hv1
    split at h
    ·cases h
    ·rename_i vs' hvs'
     simp only[Ac]at h;subst h;obtain⟨val,h1,h2⟩:=xS hT hv1 hsw hr;obtain⟨vals,h3,h4⟩:=ih vs' hvs';refine⟨val::vals,?_,val,vals,rfl,h2,h4⟩;rw[Bp,List.mapM_cons];simp only[Sem.run_bind];have h1':(F x.toVar).run P w=.ok val w:=h1;rw[h1'];simp only[Result.andThen_ok];rw[h3];simp
 obtain⟨vals,h1,h2⟩:=hl rs vs hv;refine⟨vals,?_,h2⟩
 have hm:(fn.results.mapM F).run P w=.ok vals.toArray w:=by rw[h',List.mapM_toArray,map_eq_pure_bind,Sem.run_bind,h1];simp only[Result.andThen_ok,Sem.run_pure]
 have key:(results fn a.tmps).run P w=((fn.results.mapM F)>>=λvs=>pure (if h:vs.size=1 then vs[0]else .tuple vs)).run P w:=rfl;rw[key,Sem.run_bind,hm];simp only[Result.andThen_ok,Sem.run_pure];congr 1;cases vals with
 |nil=>simp[DB]
 |cons s ss=>
  cases ss with
  |nil=>simp[DB]
  |cons _ _=>simp[DB]
theorem xT{us:List Value}:∀{l s:Nat}{pre:List Value},pre.length=s->us.length=l->((Ax s l).map λt=>(pre++us).toArray.getD t undef)=us:=by
 induction us with
 |nil=>intro l s pre hp hl;simp at hl;subst hl;rfl
 |cons u us ih=>
  intro l s pre hp hl;cases l with
  |zero=>simp at hl
  |succ l=>
   simp only[Ax,Bp,BB];refine⟨?_,?_⟩
   ·simp[Co,<-hp]
   ·have:=ih (l:=l) (s:=s+1) (pre:=pre++[u]) (by simp[hp]) (by simpa using hl)
    simpa [AW]using this
structure SpecOkB (P:Program) (f:FuncId) (S:Spec):Prop where
 fn:∃fn,P.funcs[f]?=some fn/\(fn.name== "runtime.NumGoroutine")=false/\fn.body.isNone=false
 ok:∀{β:Type}(x:ST.dens S.params×BT.dens S.ins)(k:ST.dens S.res×BT.dens S.outs->Option β)(r:β),S.run x k=some r->
  ∃y,k y=some r/\∀(ok0:OK0 P)(base:Nat)(pl:Nat->Option Pl)(w:World)(args:List Value),base<=w.heap.size->
   RelB ok0 base pl (fnBl (mkB (Ax 0 S.ins.length) S.ins x.2)) w->
   TReps (Ae ok0 base pl (fnBl (mkB (Ax 0 S.ins.length) S.ins x.2)) w) (mkS (Ax 0 S.ins.length) S.params x.1) args->
   Calls P f args.toArray w λe w'=>∃vals pl',e=.returned (DB vals)/\
    RelB ok0 base pl' (fnBl (mkB (Ax 0 S.outs.length) S.outs y.2)) w'/\
    StepM S.ins.length pl (fnBl (mkB (Ax 0 S.ins.length) S.ins x.2)) w pl' (fnBl (mkB (Ax 0 S.outs.length) S.outs y.2)) w'/\
    TReps (Ae ok0 base pl' (fnBl (mkB (Ax 0 S.outs.length) S.outs y.2)) w') (mkS (Ax 0 S.outs.length) S.res y.1) vals
theorem SpecOkB.spec{P:Program}{f:FuncId}{S:Spec}(h:SpecOkB P f S):SpecOk P f S:=
 ⟨h.fn,λx k r hr=>by obtain⟨y,hy,hc⟩:=h.ok x k r hr;exact⟨y,hy,λok0 pl w args hrel hargs=>hc ok0 w.heap.size pl w args (Ao _) hrel hargs⟩⟩
theorem TQ{P:Program}(hmx:P.follows .mixedOrders=true){X:Ctx}(hT:TOk P X.T)(hΓ:ΓOk P X.Γ){Λ:Nat->Option Cut}{S:Spec}{f:FuncId}{fn:Func}{c:Code}{rs:List RS}(hf:P.funcs[f]?=some fn)(hname:(fn.name== "runtime.NumGoroutine")=false)(hb:fn.body=some c)(hres:fn.results.toList=rs.map RS.toVar)(hok:(Nat.beq rs.length S.res.length&&(ST.tidy S.res&&Nat.ble S.params.length fn.ntmps))=true)(hΛ:∀q cut,Λ q=some cut->∀c'∈find q 1 c,Jo P fn.ntmps S.ins.length c' cut)(h:∀{β:Type}(x:ST.dens S.params×BT.dens S.ins)(k:ST.dens S.res×BT.dens S.outs->Option β)(r:β),S.run x k=some r->exec X fn.ntmps Λ 1 c ((vIn S).mk' x) (retK X.T S rs k)=some r):SpecOkB P f S:=by
 obtain⟨o2,hok⟩:=andB hok;obtain⟨o3,o4⟩:=andB hok;have o2:=Ag o2;have o4:=D6 o4;refine⟨⟨fn,hf,hname,by rw[hb];rfl⟩,λx k r hr=>?_⟩;obtain⟨e',σ',hk,hw⟩:=TF hmx hT hΓ (m:=S.ins.length) hΛ (h x k r hr)
 have hk':(e'=.normal\/e'=.ret)/\Ib X.T S rs k σ'=some r:=by
  cases e' with
  |normal=>exact⟨.inl rfl,hk⟩
  |ret=>exact⟨.inr rfl,hk⟩
  |exit id=>cases hk
 obtain⟨he',hk⟩:=hk';unfold Ib at hk;split at hk
 ·cases hk
 rename_i vs hvs;split at hk
 ·rename_i y hy
  refine⟨y,hk,λok0 base pl w args _hbase hrel hargs=>?_⟩;have hlen:args.length=S.params.length:=by rw[TReps.length hargs,TO]
  refine calls_of_wp hf hb ?_
  have hstart:Rel fn.ntmps ok0 base pl (look ((vIn S).mk' x).tm) (look ((vIn S).mk' x).bl) {tmps:=args.toArray++Array.replicate (fn.ntmps-args.toArray.size) undef,defers:=[]} w:=by have ebl:look ((vIn S).mk' x).bl=fnBl (mkB (Ax 0 S.ins.length) S.ins x.2):=Ia (vIn S) x;rw[ebl];refine⟨rfl,by simp;omega,λt v ht=>?_,hrel⟩;refine TN (s:=0) hargs (λj hj=>?_) t v ht;simp only[BW,Co];rw[N3 (by simpa using hj)];simp[List.getD]
  refine Cq (hw ok0 base pl _ w hstart) λe a' w' ⟨he,pl',hr',hs'⟩=>?_;obtain⟨vals,hrun,hreps⟩:=TP hT hres hvs (λ_ _ h=>h) hr'
  have hsyn:Rel vals.length ok0 base pl' (look (numV 0 vs)) (look σ'.bl) {tmps:=vals.toArray,defers:=[]} w':=by refine⟨rfl,by simp,λt v ht=>?_,hr'.rel⟩;obtain⟨_,u,h1,h2⟩:=VReps.get hreps ht;simp only[Nat.sub_zero]at h1;simp only[Co,N5,h1,Gb];exact h2
  obtain⟨plv,hv1,hv2⟩:=View.weaken (σ:=⟨numV 0 vs,σ'.bl,σ'.nx⟩) hy hsyn
  have hvlen:vals.length=S.res.length:=by
   have:∃us,Jp (numV 0 vs) (Ax 0 S.res.length)=some us/\True:=by
    unfold View.read at hy;split at hy
    ·cases hy
    ·rename_i us hus;exact⟨us,hus,trivial⟩
   rw[VReps.length hreps]
   have hres':∀(rs:List RS)(vs:List V),DU X.T σ'.tm σ'.bl rs=some vs->vs.length=rs.length:=by
    intro rs
    induction rs with
    |nil=>intro vs h;simp only[DU,Ac]at h;subst h;rfl
    |cons x rs ih=>
     intro vs h;simp only[DU]at h;split at h
     ·cases h
     ·split at h
      ·cases h
      ·rename_i vs' hvs'
       simp only[Ac]at h;subst h;simp[ih vs' hvs']
   rw[hres' rs vs hvs,o2]
  have ebl:look ((vIn S).mk' x).bl=fnBl (mkB (Ax 0 S.ins.length) S.ins x.2):=Ia (vIn S) x;have ebo:look ((vRes S).mk' y).bl=fnBl (mkB (Ax 0 S.outs.length) S.outs y.2):=Ia (vRes S) y;rw[ebo]at hv1 hv2;rw[ebl]at hs';have hback:=bD (ids:=Ax 0 S.outs.length) (l:=S.res) (x:=y.1) To hv1.tmps Tq o3
  have hvals:((Ax 0 S.res.length).map λt=>vals.toArray.getD t undef)=vals:=by have:=xT (us:=vals) (l:=S.res.length) (s:=0) (pre:=[]) rfl hvlen;simpa using this
  have hpost:a'.defers=[]/\∃v,(results fn a'.tmps).run P w'=.ok v w'/\(∃vals pl',Ending.returned v=.returned (DB vals)/\RelB ok0 base pl' (fnBl (mkB (Ax 0 S.outs.length) S.outs y.2)) w'/\
     StepM S.ins.length pl (fnBl (mkB (Ax 0 S.ins.length) S.ins x.2)) w pl' (fnBl (mkB (Ax 0 S.outs.length) S.outs y.2)) w'/\
     TReps (Ae ok0 base pl' (fnBl (mkB (Ax 0 S.outs.length) S.outs y.2)) w') (mkS (Ax 0 S.outs.length) S.res y.1) vals):=by
   refine⟨hr'.defers,_,hrun,vals,plv,rfl,hv1.rel,hs'.trans hv2,?_⟩;rw[hvals]at hback;exact hback
  rcases he' with e1|e1<;>rw[e1]at he<;>subst he<;>exact hpost
 ·cases hk
end
end
end Go.Lift
namespace Go.Lift
noncomputable section
open Go.RowKit
def Cj{α:Type 1}:List (Nat×α)->Nat->Option α
 |[],_=>none
 |(j,x)::r,i=>bif Nat.beq i j then some x else Cj r i
theorem bE{α:Type}:∀{l:List (Nat×α)}{i:Nat}{x:α},look l i=some x->(i,x)∈l
 |[],_,_,h=>by simp[Cn,Ch]at h
 |(j,y)::r,i,x,h=>by
  simp only[Cn,Ch]at h;cases hb:Nat.beq i j with
  |true=>rw[hb,Af]at h;injection h with h;rw[Ag hb,h];exact Bu
  |false=>rw[hb,AT]at h;exact AU _ (bE h)
theorem xU{P:Program}{tab:List (Nat×TI)}(h:tab.map (λp=>tiOf P p.1)=tab.map (λp=>some p.2)):TOk P (look tab):=by
 intro t ti ht;have hm:=bE ht
 have key:∀{l:List (Nat×TI)},l.map (λp=>tiOf P p.1)=l.map (λp=>some p.2)->∀p∈l,tiOf P p.1=some p.2:=by
  intro l
  induction l with
  |nil=>intro _ p hp;simp at hp
  |cons q l ih=>
   intro h p hp;simp only[Bp,BB]at h;rcases AH.1 hp with e|hp
   ·rw[e];exact h.1
   ·exact ih h.2 p hp
 exact key h _ hm
theorem ΓOk_nil{P:Program}:ΓOk P (Cj []):=⟨λ_ _ h=>by simp[Cj]at h,λ_ _ h=>by simp[Cj]at h,λ_ _ h=>by simp[Cj]at h,λ_ _ h=>by simp[Cj]at h⟩
theorem ΓOk_cons{P:Program}{f:Nat}{S:Spec}{l:List (Nat×Fun)}(h:SpecOk P f S)(hl:ΓOk P (Cj l)):ΓOk P (Cj ((f,.spec S)::l)):=by
 constructor
 all_goals
  intro g S' hg;simp only[Cj]at hg;cases hb:Nat.beq g f with
  |true=>
   rw[hb,Af]at hg
   first
   |(simp only[Ac,Fun.spec.injEq]at hg;have hgf:=Ag hb;rw[hgf,<-hg];exact h)
   |cases hg
  |false=>
   rw[hb,AT]at hg
   first|exact hl.spec g S' hg|exact hl.rows g S' hg|exact hl.bld g S' hg|exact hl.abs g S' hg
theorem ΓOk_row{P:Program}{f:Nat}{F:RowF}{l:List (Nat×Fun)}(h:RowOk P f F)(hl:ΓOk P (Cj l)):ΓOk P (Cj ((f,.rows F)::l)):=by
 constructor
 all_goals
  intro g S' hg;simp only[Cj]at hg;cases hb:Nat.beq g f with
  |true=>
   rw[hb,Af]at hg
   first
   |(simp only[Ac,Fun.rows.injEq]at hg;have hgf:=Ag hb;rw[hgf,<-hg];exact h)
   |cases hg
  |false=>
   rw[hb,AT]at hg
   first|exact hl.spec g S' hg|exact hl.rows g S' hg|exact hl.bld g S' hg|exact hl.abs g S' hg
theorem ΓOk_bld{P:Program}{f:Nat}{F:BldF}{l:List (Nat×Fun)}(h:BldOk P f F)(hl:ΓOk P (Cj l)):ΓOk P (Cj ((f,.bld F)::l)):=by
 constructor
 all_goals
  intro g S' hg;simp only[Cj]at hg;cases hb:Nat.beq g f with
  |true=>
   rw[hb,Af]at hg
   first
   |(simp only[Ac,Fun.bld.injEq]at hg;have hgf:=Ag hb;rw[hgf,<-hg];exact h)
   |cases hg
  |false=>
   rw[hb,AT]at hg
   first|exact hl.spec g S' hg|exact hl.rows g S' hg|exact hl.bld g S' hg|exact hl.abs g S' hg
theorem ΓOk_abs{P:Program}{f:Nat}{A:AbsF}{l:List (Nat×Fun)}(h:AbsOk P f A)(hl:ΓOk P (Cj l)):ΓOk P (Cj ((f,.abs A)::l)):=by
 constructor
 all_goals
  intro g S' hg;simp only[Cj]at hg;cases hb:Nat.beq g f with
  |true=>
   rw[hb,Af]at hg
   first
   |(simp only[Ac,Fun.abs.injEq]at hg;have hgf:=Ag hb;rw[hgf,<-hg];exact h)
   |cases hg
  |false=>
   rw[hb,AT]at hg
   first|exact hl.spec g S' hg|exact hl.rows g S' hg|exact hl.bld g S' hg|exact hl.abs g S' hg
def Ic(P:Program)(n m p:Nat)(c:Code)(Λ:Nat->Option Cut):Prop:=∀q cut,Λ q=some cut->∀c'∈find q p c,Jo P n m c' cut
theorem xV{P:Program}{n m p:Nat}{c:Code}:Ic P n m p c (Cj []):=λ_ _ h=>by simp[Cj]at h
theorem xW{P:Program}{n m p:Nat}{c c':Code}{q:Nat}{v:View}{outs:List (AExit×View)}{G:{β:Type}->v.den->Outs.K β outs->Option β}{l:List (Nat×Cut)}(hf:find q p c=[c'])(hv:v.m=m)(h:PieceOk P n m c' v outs G)(hl:Ic P n m p c (Cj l)):Ic P n m p c (Cj ((q,Oz v outs G)::l)):=by
 intro q' cut hq c2 hc2;simp only[Cj]at hq;cases hb:Nat.beq q' q with
 |true=>rw[hb,Af]at hq;injection hq with hq;have hqq:=Ag hb;rw[hqq,hf]at hc2;simp only[Cv]at hc2;rw[hc2,<-hq];intro β σ k r hr;exact xO hv h σ k r hr
 |false=>rw[hb,AT]at hq;exact hl q' cut hq c2 hc2
def Ar(fn:Func):Code:=fn.body.getD .skip
def AA(q:Nat)(c:Code):Code:=
 match find q 1 c with
 |c'::_=>c'
 |[]=>.skip
def C4:Code->Code
 |.loop c=>c
 |_=>.skip
structure Pc where
 n:Nat
 m:Nat
 c:Code
 v:View
 o:List (AExit×View)
abbrev Pc.G(p:Pc):={β:Type}->p.v.den->Outs.K β p.o->Option β
abbrev Pc.Ok(P:Program)(p:Pc)(G:p.G):Prop:=PieceOk P p.n p.m p.c p.v p.o G
abbrev Pc.cut(p:Pc)(G:p.G):Cut:=Oz p.v p.o G
theorem pcE{P:Program}(hmx:P.follows .mixedOrders=true)(X:Ctx)(hT:TOk P X.T)(hΓ:ΓOk P X.Γ)(q:Nat){p:Pc}{G:p.G}(Λ:Nat->Option Cut)(hm:(p.o.all λx=>Nat.beq x.2.m p.m)=true)(hΛ:Ic P p.n p.m q p.c Λ)(h:∀{β:Type}(d:p.v.den)(ks:Outs.K β p.o),exec X p.n Λ q p.c (p.v.mk' d) (outK p.o ks)=G d ks):p.Ok P G:=
 xQ hmx hT hΓ hm hΛ λd ks r hr=>(h d ks).trans hr
theorem pcL{P:Program}(hmx:P.follows .mixedOrders=true)(X:Ctx)(hT:TOk P X.T)(hΓ:ΓOk P X.Γ){p:Pc}{G:Nat->p.G}(Λ:Nat->Option Cut)(hc:p.c=.loop (C4 p.c))(hv:p.v.m=p.m)(hm:(p.o.all λx=>Nat.beq x.2.m p.m)=true)(hΛ:Ic P p.n p.m 1 (C4 p.c) Λ)(h0:∀{β:Type}(d:p.v.den)(ks:Outs.K β p.o),G 0 d ks=none)(h:∀(i:Nat){β:Type}(d:p.v.den)(ks:Outs.K β p.o),exec X p.n Λ 1 (C4 p.c) (p.v.mk' d) (La p.v (λd'=>G i d' ks) p.o ks)=G (i+1) d ks)(i:Nat):p.Ok P (G i):=by
 have key:=xR hmx hT hΓ hv hm hΛ (G:=G) h0 (λi β d ks r hr=>(h i d ks).trans hr) i;rw[<-hc]at key;exact key
theorem pcSB{P:Program}(hmx:P.follows .mixedOrders=true)(X:Ctx)(hT:TOk P X.T)(hΓ:ΓOk P X.Γ)(Λ:Nat->Option Cut){S:Spec}{f:FuncId}{fn:Func}(rs:List RS)(hf:P.funcs[f]?=some fn)(hname:(fn.name== "runtime.NumGoroutine")=false)(hb:fn.body=some (Ar fn))(hres:fn.results.toList=rs.map RS.toVar)(hok:(Nat.beq rs.length S.res.length&&(ST.tidy S.res&&Nat.ble S.params.length fn.ntmps))=true)(hΛ:Ic P fn.ntmps S.ins.length 1 (Ar fn) Λ)(h:∀{β:Type}(x:ST.dens S.params×BT.dens S.ins)(k:ST.dens S.res×BT.dens S.outs->Option β),exec X fn.ntmps Λ 1 (Ar fn) ((vIn S).mk' x) (retK X.T S rs k)=S.run x k):SpecOkB P f S:=
 TQ hmx hT hΓ hf hname hb hres hok hΛ λx k r hr=>(h x k).trans hr
end
end Go.Lift
namespace Go.Lift
open Go.RowKit
def env0(P:Program)(w:World):Env:=Ae (P:=P) ⟨λ_=>True,λ_=>False⟩ w.heap.size (λ_=>none) (λ_=>none) w
theorem SpecOk.call0{P:Program}{f:FuncId}{S:Spec}(h:SpecOk P f S)(hi:S.ins=[])(x:ST.dens S.params×BT.dens S.ins)(y:ST.dens S.res×BT.dens S.outs)(hy:S.run x (λz=>some z)=some y)(w:World)(hw:Opened P w)(args:List Value)(hargs:TReps (env0 P w) (mkS [] S.params x.1) args):Calls P f args.toArray w λe w'=>∃vals pl',e=.returned (DB vals)/\Below w.heap.size w w'/\TReps (Ae (P:=P) ⟨λ_=>True,λ_=>False⟩ w.heap.size pl' (fnBl (mkB (Ax 0 S.outs.length) S.outs y.2)) w') (mkS (Ax 0 S.outs.length) S.res y.1) vals:=by
 obtain⟨y',hy',hcall⟩:=h.ok x (λz=>some z) y hy;simp only[Ac]at hy';subst hy';have hlen:S.ins.length=0:=by rw[hi];rfl
 have hmk:mkB (Ax 0 S.ins.length) S.ins x.2=[]:=by have:=CU (ids:=Ax 0 S.ins.length) (l:=S.ins) (y:=x.2);rw[hlen]at this;exact D5 (by rw[hlen];exact this)
 have hbl:fnBl (mkB (Ax 0 S.ins.length) S.ins x.2)=λ_=>none:=by rw[hmk];funext b;simp[fnBl]
 have hids:Ax 0 S.ins.length=[]:=by rw[hlen];rfl
 have hrel:RelB (P:=P) ⟨λ_=>True,λ_=>False⟩ w.heap.size (λ_=>none) (λ_=>none) w:=
  ⟨Ao _,λi B h=>(by cases h),λi j B C p q g _ h=>(by cases h),λ_ _=>rfl,
   ⟨w,hw,Ao _,λg _=>⟨rfl,λ⟨_,_,_,h,_⟩=>by cases h⟩,λ_ h=>h.elim⟩,λ_ h=>h.elim⟩
 have:=hcall ⟨λ_=>True,λ_=>False⟩ (λ_=>none) w args (by rw[hbl];exact hrel) (by rw[hbl,hids];exact hargs);refine this.mono λe w' ⟨vals,pl',he,_,hst,ht⟩=>⟨vals,pl',he,⟨hst.os,hst.tape,hst.output,hst.size,λk hk=>?_⟩,ht⟩;refine(hst.out k hk ?_).1;rintro⟨i,B,p,hB,_⟩;rw[hbl]at hB;cases hB
theorem TReps.bool{E:Env}{b:Bool}{vals:List Value}(h:TReps E [(false,[.bool b])] vals):vals=[.bool b]:=by obtain⟨v,vs,e,⟨us,⟨u,us',e1,h1,h2⟩,h3⟩,h4⟩:=h;simp only[TReps]at h4;simp only[CReps]at h2;simp only[CRep]at h1;simp only[DO,Bk]at h3;subst h4 h2 h1 e1;simp only[BB,Cm]at h3;subst h3;exact e
theorem TReps.int{E:Env}{k:IntKind}{n:Int}{ts:List (Bool×List C)}{vals:List Value}(h:TReps E ts vals):TReps E ((false,[.int k n])::ts) (.int k n::vals):=
 ⟨_,_,rfl,⟨[_],⟨_,_,rfl,rfl,rfl⟩,by simp⟩,h⟩
end Go.Lift
namespace Go.Lift
open Go.RowKit Go.IntWalk
def fuel:Nat:=18446744073709551616
theorem AY{n:Nat}(h:n<18446744073709551616):n<fuel:=h
end Go.Lift
namespace Go.Lift
open Go.RowKit Go.ChangeShapes Go.WideShapes Go.Deep
def fitF(P:Program)(F:TypeId->Ty->Bool):List Field->Nat->Ty->Bool
 |[],_,.unit=>true
 |[f],o,τ=>Nat.beq f.offset o&&(Nat.beq (P.cellsOf f.type) τ.size&&F f.type τ)
 |f::g::r,o,.prod a b=>Nat.beq f.offset o&&(Nat.beq (P.cellsOf f.type) a.size&&(F f.type a&&fitF P F (g::r) (o+a.size) b))
 |_,_,_=>false
def fitA(C:Nat)(F:Ty->Bool):Nat->Ty->Bool
 |0,.unit=>true
 |1,τ=>Nat.beq C τ.size&&F τ
 |m+2,.prod a b=>Nat.beq C a.size&&(F a&&fitA C F (m+1) b)
 |_,_=>false
def Gr(P:Program):Nat->TypeId->Ty->Bool
 |0,_,_=>false
 |n+1,t,τ=>
  match P.underlying t with
  |some .bool=>match τ with|.bool=>true|_=>false
  |some (.int k)=>match τ with|.int k'=>decide (k=k')|_=>false
  |some .string=>match τ with|.str=>true|_=>false
  |some (.slice e)=>match τ with|.slice ε=>Nat.beq (P.cellsOf e) ε.size&&Gr P n e ε|_=>false
  |some (.struct fs)=>Nat.beq (P.cellsOf t) τ.size&&fitF P (Gr P n) fs.toList 0 τ
  |some (.array m e)=>Nat.beq (P.cellsOf t) τ.size&&fitA (P.cellsOf e) (Gr P n e) m τ
  |_=>false
def Wf:(τ:Ty)->τ.den->Prop
 |.int k,n=>(Lit.int k n).wf=true
 |.str,s=>s.length<=maxLen
 |.prod a b,x=>Wf a x.1/\Wf b x.2
 |.slice e,l=>l.length<=maxLen/\∀x∈l,Wf e x
 |.bool,_=>True
 |.unit,_=>True
 |.err,_=>True
section
variable{H:Type}{enc:TypeId×Value->H}{P:Program}{w:World}
theorem bF{F:TypeId->Ty->Bool}{cs:List Value}(hF:∀{t:TypeId}{τ:Ty}{c:List Value},F t τ=true->(∃n sp hd y,DataW.trod enc P w 0 sp hd n t c=some y)->∃d:τ.den,DRep w (λ_=>True) τ d c/\Wf τ d):∀(fs:List Field)(o:Nat)(τ:Ty),fitF P F fs o τ=true->(∀f∈fs,∃n sp hd y,DataW.trod enc P w 0 sp hd n f.type ((cs.drop f.offset).take (P.cellsOf f.type))=some y)->o+τ.size=cs.length->∃d:τ.den,DRep w (λ_=>True) τ d (cs.drop o)/\Wf τ d
 |[],o,τ,hf,_,hl=>by
  cases τ<;>simp only[fitF]at hf<;>first|(cases hf;done)|skip
  refine⟨(),?_,trivial⟩;simp only[DRep];simp only[Ty.size]at hl;exact N4 (by omega)
 |[f],o,τ,hf,h,hl=>by simp only[fitF,Bv]at hf;obtain⟨h1,h2,h3⟩:=hf;have h1:=Ag h1;have h2:=Ag h2;obtain⟨n,sp,hd,y,hy⟩:=h f (by simp);rw[h1,h2,Dz (by rw[Fa];omega)]at hy;exact hF h3 ⟨n,sp,hd,y,hy⟩
 |f::g::r,o,τ,hf,h,hl=>by
  cases τ with
  |prod a b=>simp only[fitF,Bv]at hf;obtain⟨h1,h2,h3,h4⟩:=hf;have h1:=Ag h1;have h2:=Ag h2;simp only[Ty.size]at hl;obtain⟨n,sp,hd,y,hy⟩:=h f (by simp);rw[h1,h2]at hy;obtain⟨d1,k1,w1⟩:=hF h3 ⟨n,sp,hd,y,hy⟩;obtain⟨d2,k2,w2⟩:=bF hF (g::r) (o+a.size) b h4 (λf' hf'=>h f' (by simp at hf'⊢;right;exact hf')) (by omega);refine⟨(d1,d2),?_,w1,w2⟩;simp only[DRep];refine⟨_,_,?_,k1,k2⟩;rw[<-NI,H4]
  |bool=>simp[fitF]at hf
  |int k=>simp[fitF]at hf
  |str=>simp[fitF]at hf
  |unit=>simp[fitF]at hf
  |err=>simp[fitF]at hf
  |slice e=>simp[fitF]at hf
theorem bG{C:Nat}{e:TypeId}{F:Ty->Bool}{cs:List Value}(hF:∀{τ:Ty}{c:List Value},F τ=true->(∃n sp hd y,DataW.trod enc P w 0 sp hd n e c=some y)->∃d:τ.den,DRep w (λ_=>True) τ d c/\Wf τ d):∀(m i:Nat)(τ:Ty),fitA C F m τ=true->(∀j,i<=j->j<i+m->∃n sp hd y,DataW.trod enc P w 0 sp hd n e ((cs.drop (j*C)).take C)=some y)->i*C+τ.size=cs.length->∃d:τ.den,DRep w (λ_=>True) τ d (cs.drop (i*C))/\Wf τ d
 |0,i,τ,hf,_,hl=>by
  cases τ<;>simp only[fitA]at hf<;>first|(cases hf;done)|skip
  refine⟨(),?_,trivial⟩;simp only[DRep];simp only[Ty.size]at hl;exact N4 (by omega)
 |1,i,τ,hf,h,hl=>by simp only[fitA,Bv]at hf;obtain⟨h2,h3⟩:=hf;have h2:=Ag h2;obtain⟨n,sp,hd,y,hy⟩:=h i (Ao _) (by omega);rw[Dz (by rw[Fa];omega)]at hy;exact hF h3 ⟨n,sp,hd,y,hy⟩
 |m+2,i,τ,hf,h,hl=>by
  cases τ with
  |prod a b=>simp only[fitA,Bv]at hf;obtain⟨h2,h3,h4⟩:=hf;have h2:=Ag h2;simp only[Ty.size]at hl;obtain⟨n,sp,hd,y,hy⟩:=h i (Ao _) (by omega);obtain⟨d1,k1,w1⟩:=hF h3 ⟨n,sp,hd,y,hy⟩;have hs:(i+1)*C=i*C+C:=DP _ _;obtain⟨d2,k2,w2⟩:=bG hF (m+1) (i+1) b h4 (λj hj hj'=>h j (by omega) (by omega)) (by omega);refine⟨(d1,d2),?_,w1,w2⟩;simp only[DRep];refine⟨_,_,?_,k1,k2⟩;rw[hs,<-NI,H4]
  |bool=>simp[fitA]at hf
  |int k=>simp[fitA]at hf
  |str=>simp[fitA]at hf
  |unit=>simp[fitA]at hf
  |err=>simp[fitA]at hf
  |slice e=>simp[fitA]at hf
theorem bH{ε:Ty}{a:Addr}{C:Nat}(hC:C=ε.size):∀(len:Nat),(∀i,i<len->∃cs':List Value,cs'.length=C/\(∀j,j<C->w.cell? ((a.add (i*C)).add j)=cs'[j]?)/\∃d:ε.den,DRep w (λ_=>True) ε d cs'/\Wf ε d)->∃(l:List ε.den)(xs:List Value),l.length=len/\xs.length=len*C/\DList (λx u=>DRep w (λ_=>True) ε x u) l xs/\(∀j v,xs[j]?=some v->w.cell? (a.add j)=some v)/\∀x∈l,Wf ε x
 |0,_=>⟨[],[],rfl,by simp,rfl,by simp,by simp⟩
 |len+1,h=>by
  obtain⟨l,xs,h1,h2,h3,h4,h5⟩:=bH hC len λi hi=>h i (by omega);obtain⟨cs',k1,k2,d,k3,k4⟩:=h len (by omega);refine⟨l++[d],xs++cs',by simp[h1],by rw[Av,h2,k1,DP],DList.append h3 ⟨cs',[],by simp,k3,rfl⟩,λj v hj=>?_,?_⟩
  ·rw[List.getElem?_append]at hj
   split at hj
   ·exact h4 j v hj
   ·rename_i hlt
    obtain⟨hlt2,_⟩:=BI.1 hj;have:=k2 (j-xs.length) (by omega);rw[GX,<-h2,show xs.length+(j-xs.length)=j by omega]at this;rw[this,hj]
  ·intro x hx
   rcases Ba.1 hx with hx|hx
   ·exact h5 x hx
   ·simp only[Cv]at hx
    subst hx;exact k4
theorem O0:∀(n:Nat){t:TypeId}{τ:Ty}{cs:List Value},Gr P n t τ=true->(∃m sp hd y,DataW.trod enc P w 0 sp hd m t cs=some y)->∃d:τ.den,DRep w (λ_=>True) τ d cs/\Wf τ d
 |0,_,_,_,h,_=>by simp[Gr]at h
 |n+1,t,τ,cs,hf,⟨m,sp,hd,y,hy⟩=>by
  simp only[Gr]at hf;split at hf
  ·rename_i hu
   cases τ<;>simp only at hf<;>first|(cases hf;done)|skip
   obtain⟨b,rfl,-⟩:=DataW.trod_bool hu hy;exact⟨b,rfl,trivial⟩
  ·rename_i k hu
   cases τ<;>simp only at hf<;>first|(cases hf;done)|skip
   obtain rfl:=Az hf;obtain⟨b,rfl,-,hw⟩:=DataW.trod_int hu hy;exact⟨b,rfl,hw⟩
  ·rename_i hu
   cases τ<;>simp only at hf<;>first|(cases hf;done)|skip
   obtain⟨s,rfl,-,hs⟩:=DataW.trod_string hu hy;exact⟨s.data.toList,by simp only[DRep],by show s.data.toList.length<=maxLen;rw[CQ];exact hs⟩
  ·rename_i e hu
   cases τ<;>simp only at hf<;>first|(cases hf;done)|skip
   rename_i ε;simp only[Bv]at hf;obtain⟨h1,h2⟩:=hf;have h1:=Ag h1;rcases open_slice hu hy with⟨rfl,-⟩|⟨a,len,cap,m',n',D,Pl,rfl,hb,hl,hm,hmm,-,hi⟩
   ·refine⟨[],?_,BZ _,by simp⟩
    simp only[DRep];exact⟨none,0,[],rfl,Ao _,BZ _,rfl,by simp⟩
   ·obtain⟨l,xs,k1,k2,k3,k4,k5⟩:=bH (w:=w) (ε:=ε) (a:=a) h1 len (λi hil=>by
     have him:i<m':=by rw[hmm];split<;>omega
     obtain⟨cs',c1,c2⟩:=hi i him;obtain⟨-,q1,q2⟩:=World.cells?_some c1;exact⟨cs',q1,q2,O0 n h2 ⟨_,_,_,_,c2⟩⟩)
    refine⟨l,?_,?_,k5⟩
    ·simp only[DRep]
     exact⟨some a,cap,xs,by rw[k1],by omega,hm,k3,λj v hj=>⟨a,rfl,trivial,k4 j v hj⟩⟩
    ·show l.length<=maxLen
     omega
  ·rename_i fs hu
   simp only[Bv]at hf;obtain⟨h1,h2⟩:=hf;have h1:=Ag h1;obtain⟨xs,m',-,-,hlen,hxs,hg⟩:=DataW.trod_struct hu hy
   have:=bF (enc:=enc) (P:=P) (w:=w) (cs:=cs) (λ{t τ c} h1 h2=>O0 n h1 h2) fs.toList 0 τ h2 (λf hf=>by obtain⟨i,hi,rfl⟩:=List.getElem_of_mem hf;have:=hg i fs[i] (by simp at hi;simp[hi]);simp at hi;rw[Bx (by omega)]at this;exact⟨_,_,_,_,this⟩) (by omega)
   simpa using this
  ·rename_i k e hu
   simp only[Bv]at hf;obtain⟨h1,h2⟩:=hf;have h1:=Ag h1;obtain⟨xs,m',-,-,hlen,hxs,hg⟩:=DataW.trod_array hu hy
   have:=bG (enc:=enc) (P:=P) (w:=w) (C:=P.cellsOf e) (e:=e) (cs:=cs) (λ{τ c} h1 h2=>O0 n h1 h2) k 0 τ h2 (λj _ hj=>by have:=hg j (by omega);rw[Bx (by omega)]at this;exact⟨_,_,_,_,this⟩) (by omega)
   simpa using this
  ·cases hf
def isAgg(P:Program)(t:TypeId):Bool:=
 match P.underlying t with
 |some (.struct _)=>true
 |some (.array _ _)=>true
 |_=>false
def fitP(P:Program):List TypeId->List (Bool×List CT)->Bool
 |[],[]=>true
 |t::ts,(g,[.data τ])::ps=>(g==isAgg P t)&&(Gr P 12 t τ&&fitP P ts ps)
 |_,_=>false
def WfC:(l:List CT)->CT.dens l->Prop
 |[],_=>True
 |.data τ::r,x=>Wf τ x.1/\WfC r x.2
 |.ptr _ _::r,x=>WfC r x
 |.rowh _::r,x=>WfC r x
 |.fn _ _::r,x=>WfC r x
 |.maph _::r,x=>WfC r x
 |.math _::r,x=>WfC r x
 |.bself _::r,x=>WfC r x
 |.bfnh _ _::r,x=>WfC r x
 |.trowh _::r,x=>WfC r x
 |.tptrh _ _ _::r,x=>WfC r x.2
 |.nilc::r,x=>WfC r x
 |.nils::r,x=>WfC r x
 |.lsome _::r,x=>WfC r x.2
 |.junk::r,x=>WfC r x
def WfS:(l:List (Bool×List CT))->ST.dens l->Prop
 |[],_=>True
 |p::r,x=>WfC p.2 x.1/\WfS r x.2
theorem xX{n base:Nat}{t:TypeId}{v:Value}(h:Value.okWide P w .any base t v)(hf:∃τ,Gr P (n+1) t τ=true):if isAgg P t=true then v=.agg v.cells.toList.toArray else v.cells.toList=[v]:=by
 obtain⟨τ,hf⟩:=hf;simp only[Gr]at hf;split at hf
 ·rename_i hu
  rw[show isAgg P t=false by simp only[isAgg,hu]];simp only[Value.okWide,hu]at h;cases v with
  |agg cs=>simp only[Cell.okWide,Cell.ok,hu]at h
  |_=>rfl
 ·rename_i k hu
  rw[show isAgg P t=false by simp only[isAgg,hu]];simp only[Value.okWide,hu]at h;cases v with
  |agg cs=>simp only[Cell.okWide,Cell.ok,hu]at h
  |_=>rfl
 ·rename_i hu
  rw[show isAgg P t=false by simp only[isAgg,hu]];simp only[Value.okWide,hu]at h;cases v with
  |agg cs=>simp only[Cell.okWide,Cell.ok,hu]at h
  |_=>rfl
 ·rename_i e hu
  rw[show isAgg P t=false by simp only[isAgg,hu]];simp only[Value.okWide,hu]at h;cases v with
  |agg cs=>simp only[Cell.okWide,Cell.ok,hu]at h
  |_=>rfl
 ·rename_i fs hu
  rw[show isAgg P t=true by simp only[isAgg,hu]];simp only[Value.okWide,hu]at h;obtain⟨cs,rfl,-⟩:=h;rfl
 ·rename_i k e hu
  rw[show isAgg P t=true by simp only[isAgg,hu]];simp only[Value.okWide,hu]at h;obtain⟨cs,rfl,-⟩:=h;rfl
 ·cases hf
theorem bI{base:Nat}:∀{ts:List TypeId}{ps:List (Bool×List CT)}{vs:List Value}{ds:List (DataW H)}{pl:List MemPlace},fitP P ts ps=true->DataW.TrodAll enc P w 0 (λ_=>true) true ts vs ds pl->(∀(j:Nat) t v,ts[j]?=some t->vs[j]?=some v->Value.okWide P w .any base t v)->∃x:ST.dens ps,TReps (env0 P w) (mkS [] ps x) vs/\WfS ps x
 |[],[],vs,ds,pl,_,h,_=>by
  cases vs with
  |nil=>exact⟨(),rfl,trivial⟩
  |cons v vs=>cases ds<;>simp[DataW.TrodAll]at h
 |[],_::_,_,_,_,hf,_,_=>by simp[fitP]at hf
 |_::_,[],_,_,_,hf,_,_=>by simp[fitP]at hf
 |t::ts,(g,cts)::ps,vs,ds,pl,hf,h,hok=>by
  match cts,hf with
  |[.data τ],hf=>
   simp only[fitP,Bv,beq_iff_eq]at hf;obtain⟨hg,h1,h2⟩:=hf;obtain⟨v,vs',d,ds',p,q,rfl,rfl,rfl,hd,hrest⟩:=trodAll_cons h;obtain⟨x2,r2,w2⟩:=bI (base:=base) h2 hrest λj t v hj hv=>hok (j+1) t v (by simpa using hj) (by simpa using hv);obtain⟨m,hm⟩:=hd;obtain⟨x1,r1,w1⟩:=O0 (enc:=enc) (P:=P) (w:=w) 12 h1 ⟨m,_,_,_,hm⟩;have hv:=xX (n:=11) (hok 0 t v rfl rfl) ⟨τ,h1⟩;refine⟨((x1,()),x2),⟨v,vs',rfl,?_,r2⟩,⟨w1,trivial⟩,w2⟩
   have hreps:CReps (env0 P w) (cells τ x1++[]) v.cells.toList:=by rw[CA];refine D9 ?_;refine DRep.mono ?_ r1;exact λg hg hlt=>⟨⟨.inl trivial,λ⟨i,B,p,hB,_⟩=>by cases hB⟩,rfl⟩
   refine⟨v.cells.toList,hreps,?_⟩;rw[<-hg]at hv;exact hv
  |[],hf=>simp[fitP]at hf
  |[.ptr _ _],hf=>simp[fitP]at hf
  |[.rowh _],hf=>simp[fitP]at hf
  |[.fn _ _],hf=>simp[fitP]at hf
  |[.maph _],hf=>simp[fitP]at hf
  |[.math _],hf=>simp[fitP]at hf
  |[.bself _],hf=>simp[fitP]at hf
  |[.bfnh _ _],hf=>simp[fitP]at hf
  |[.trowh _],hf=>simp[fitP]at hf
  |[.tptrh _ _ _],hf=>simp[fitP]at hf
  |[.nilc],hf=>simp[fitP]at hf
  |[.nils],hf=>simp[fitP]at hf
  |[.lsome _],hf=>simp[fitP]at hf
  |[.junk],hf=>simp[fitP]at hf
  |.data _::_::_,hf=>simp[fitP]at hf
  |.ptr _ _::_::_,hf=>simp[fitP]at hf
  |.rowh _::_::_,hf=>simp[fitP]at hf
  |.fn _ _::_::_,hf=>simp[fitP]at hf
  |.maph _::_::_,hf=>simp[fitP]at hf
  |.math _::_::_,hf=>simp[fitP]at hf
  |.bself _::_::_,hf=>simp[fitP]at hf
  |.bfnh _ _::_::_,hf=>simp[fitP]at hf
  |.trowh _::_::_,hf=>simp[fitP]at hf
  |.tptrh _ _ _::_::_,hf=>simp[fitP]at hf
  |.nilc::_::_,hf=>simp[fitP]at hf
  |.nils::_::_,hf=>simp[fitP]at hf
  |.lsome _::_::_,hf=>simp[fitP]at hf
  |.junk::_::_,hf=>simp[fitP]at hf
theorem xY{f:Func}{s:ChangeSpec}{apart fresh handsOn again:Bool}{W W':World}{args:Array Value}{v:Value}{ds gs:List (DataW H)}{before pa pv:List MemPlace}(hW:DataW.Whole enc P f.params.toList s.vars apart W args.toList ds gs before)(hres:∀(b:Nat)(sp:Nat->Bool)(hd:Bool),DataW.TrodAll enc P W' b sp hd f.resultTypes.toList (v.resultList f.resultTypes.size) (s.fn H (ds++gs)).results [])(hargs:∀sp:Nat->Bool,(∀p∈before,sp p.block=true)->DataW.TrodAll enc P W' 0 sp true f.params.toList args.toList (s.fn H (ds++gs)).args pa)(hvars:∀sp:Nat->Bool,(∀p∈before,sp p.block=true)->DataW.TrodVars enc P W' sp s.vars (s.fn H (ds++gs)).vars pv)(hps:before=pa++pv)(hb:Below W.heap.size W W')(hok:∀(j:Nat)(t:TypeId)(r:Value),f.resultTypes[j]?=some t->(v.resultList f.resultTypes.size)[j]?=some r->Value.okWide P W' .any 0 t r):s.post enc P f apart fresh handsOn again W args v W':=by
 have hlt:∀p∈before,p.block<W.heap.size:=λp hp=>hW.lt p hp;have hold:∀p∈before,(λb=>decide (b<W.heap.size)) p.block=true:=λp hp=>by simpa using hlt p hp
 refine⟨ds,gs,before,[],pa,pv,hW,hres _ _ _,hargs _ hold,hvars _ hold,World.keptBut_mono (λp hp=>⟨hp,?_⟩) (hb.frame (· ∈before)),λ_=>?_⟩
 ·rw[hps,Ba]at hp
  exact Or.inr hp
 ·obtain⟨_,_,_,_,_,hz,hn⟩:=hW
  refine⟨hok,_,_,([]++pa)++pv,⟨[]++pa,pv,trodAll_append (hargs _ (λ_ _=>rfl)) (hres _ _ _),hvars _ (λ_ _=>rfl),rfl,?_,?_⟩,?_⟩
  ·intro b off hp
   have hin:MemPlace.cell b off∈before:=by rw[hps];simpa using hp
   rw[hb.frozen (hlt _ hin)];exact hz b off hin
  ·intro ha
   have:=hn ha;rw[hps]at this;simpa using this
  ·intro p hp _
   rw[hps];simpa using hp
theorem bJ(hl:laidOutB P=true){W W':World}{sp:Nat->Bool}:∀{ts:List TypeId}{vs:List Value}{ds:List (DataW H)}{ps:List MemPlace},(ts.all λt=>P.readableRec t&&Nat.blt t P.types.size)=true->DataW.TrodAll enc P W 0 (λ_=>true) true ts vs ds ps->Below W.heap.size W W'->(∀x∈ps,x.block<W.heap.size)->(∀x∈ps,sp x.block=true)->DataW.TrodAll enc P W' 0 sp true ts vs ds ps
 |[],vs,ds,ps,_,h,_,_,_=>by cases vs<;>cases ds<;>simp_all [DataW.TrodAll]
 |t::ts,vs,ds,ps,hr,h,hb,hlt,hsp=>by obtain⟨v,vs',d,ds',p,q,rfl,rfl,rfl,hd,hrest⟩:=trodAll_cons h;simp only[NJ,Bv]at hr;refine⟨p,q,WideElems.Trod_stays hl hr.1.1 (Nat.blt_eq▸hr.1.2) hd (λx hx=>hb.same (hlt x (by simp[hx]))) (λx hx=>hsp x (by simp[hx])),?_,rfl⟩;exact bJ hl (by simpa using hr.2) hrest hb (λx hx=>hlt x (by simp[hx])) (λx hx=>hsp x (by simp[hx]))
theorem xZ{f:FuncId}{fn:Func}{s:ChangeSpec}{S:Spec}{apart fresh handsOn again:Bool}{tb:TypeId}(hS:SpecOk P f S)(hi:S.ins=[])(_hr:S.res=[(false,[.data .bool])])(ho:S.outs=[])(hfit:fitP P fn.params.toList S.params=true)(hl:laidOutB P=true)(hrd:(fn.params.toList.all λt=>P.readableRec t&&Nat.blt t P.types.size)=true)(hrt:fn.resultTypes=#[tb])(htb:P.underlying tb=some .bool)(hvars:s.vars=[])(hfn:∀ds:List (DataW H),ds.length=fn.params.size->(s.fn H (ds++[])).results=[.lit (.bool true)]/\(s.fn H (ds++[])).args=ds/\(s.fn H (ds++[])).vars=[])(hlaw:∀{β:Type}(x:ST.dens S.params)(y:BT.dens S.ins)(k:ST.dens S.res×BT.dens S.outs->Option β),WfS S.params x->∃z,mkS [] S.res z.1=[(false,[.bool true])]/\S.run (x,y) k=k z){W:World}{base:Nat}{args:Array Value}{ds gs:List (DataW H)}{before:List MemPlace}(hval:∀(j:Nat) t v,fn.params[j]?=some t->args[j]?=some v->Value.okWide P W .any base t v)(hopen:Opened P W)(hW:DataW.Whole enc P fn.params.toList s.vars apart W args.toList ds gs before):Calls P f args W λe W'=>∃v,e=.returned v/\s.post enc P fn apart fresh handsOn again W args v W':=by
 have hW':=hW;obtain⟨p,q,hA,hV,rfl,hfz,hnd⟩:=hW';rw[hvars]at hV
 obtain⟨rfl,rfl⟩:gs=[]/\q=[]:=by
  cases gs with
  |nil=>exact⟨rfl,hV⟩
  |cons g gs=>simp[DataW.TrodVars]at hV
 obtain⟨x,hx,hwf⟩:=bI (base:=base) hfit hA (λj t v hj hv=>hval j t v (by simpa using hj) (by simpa using hv));have hy:BT.dens S.ins:=by rw[hi];exact()
 obtain⟨z,hz,hrun⟩:=hlaw x hy (λz=>some z) hwf;have hc:=hS.call0 hi (x,hy) z hrun W hopen args.toList hx
 have hlen:ds.length=fn.params.size:=by
  have:∀{ts:List TypeId}{vs:List Value}{ds:List (DataW H)}{ps:List MemPlace},DataW.TrodAll enc P W 0 (λ_=>true) true ts vs ds ps->ds.length=ts.length:=by
   intro ts
   induction ts with
   |nil=>intro vs ds ps h;cases vs<;>cases ds<;>simp_all [DataW.TrodAll]
   |cons t ts ih=>intro vs ds ps h;obtain⟨v,vs',d,ds',p,q,rfl,rfl,rfl,hd,hrest⟩:=trodAll_cons h;simp[ih hrest]
  simpa using this hA
 obtain⟨f1,f2,f3⟩:=hfn ds hlen;refine hc.mono λe W' ⟨vals,pl',he,hb,ht⟩=>?_;have hids:Ax 0 S.outs.length=[]:=by rw[ho];rfl
 rw[hids,hz]at ht;obtain rfl:=TReps.bool ht;refine⟨.bool true,he,xY (pa:=p) (pv:=[]) hW (λb sp hd=>?_) (λsp hsp=>?_) (λsp hsp=>?_) rfl hb ?_⟩
 ·rw[f1,hrt]
  exact trodAll_cons_mk (shut_bool htb _) trodAll_mk0
 ·rw[f2]
  exact bJ hl hrd hA hb (λx hx=>hW.lt x (by simpa using hx)) (λx hx=>hsp x (by simpa using hx))
 ·rw[f3,hvars];rfl
 ·exact ok_one hrt rfl (okWide_bool_mk htb _)
end
end Go.Lift
