/- Part15: LNames4, LNames5, LPrn1, LPrn2, LRef1, LRef2, LRef3, LRef4, LRef5, LRef6, LRef7, LRef8, LRef9, LPrn3, LPrn4, LPrn5, LStr, LNum, LLexNum, LLexNum2, LPrn6, LPrn7, LPrn8, LPrn9, LEdt1, LRefA, LSame4, LSame5, LEdt2. -/
import Derived.KernelRfl
import Derived.Test.YtgocccmoefchaaaGreatDoorPart14
set_option linter.unusedVariables false
set_option linter.unusedSectionVars false
set_option linter.unusedSimpArgs false
namespace Go.Lift
open Go.RowKit Go.IntWalk
noncomputable section
variable[Sl]
set_option maxRecDepth 10000
section
variable{β:Type}{G:Option β->Prop}
theorem AgL{nz np nc zone day sec unit every cal mode:Int}{n:List UInt8}{ms:List Int}{ws:List (Int×Int)}(hz:0<=zone/\zone<nz)(hd:1<=day/\day<98981)(hs:0<=sec/\sec<=86399)(hu:0<=unit/\unit<=2)(he:1<=every/\every<=400)(hm:1<=ms.length/\ms.length<=12)(Jj:∀m∈ms,0<=m/\m<np)(hw:ED ws=0)(hc:(mode=0/\cal=0)\/((1<=mode/\mode<=2)/\0<=cal/\cal<nc)):E4 nz np nc (n,zone,(day,sec),unit,every,ms,ws,cal,mode)=0:=by
 unfold E4 l2V;simp only
 rw[Mm hz,AF (show ¬day<1 by omega),rE (by omega),Ds hs,Ds hu,Ds he,AF (show ¬(ms.length:Int)=0 by omega),AF (show ¬(12:Int)<(ms.length:Int) by omega),
  Ef.2 λm h=>Mm (Jj m h),Ay hw,Ds (show 0<=mode/\mode<=2 by omega)]
 unfold l1V;simp only;rcases hc with⟨h1,h2⟩|⟨h1,h2⟩
 ·rw[Ay h1,Ay h2];rfl
 ·rw[AF (show ¬mode=0 by omega),Mm h2];rfl
theorem Awb{zs:List AG}{ps:List AX}{cs:List Bu}{t6 l1:List UInt8}{CZ FC Ff FQ FD FE FF l2 l3 l4 l5 l6 l7 l8:Int}{b4:List Int}{b5 b7:List (Int×Int)}{k:jR β}(hp:1<=ps.length/\ps.length<=8)(hk:∀d' ms,Ca d'->(1<=ms.length/\ms.length<=12)->(∀m∈ms,0<=m/\m<(ps.length:Int))->G (k d' zs ps cs t6 CZ FC Ff FQ FD FE FF l1 l2 l3 l4 l5 l6 l7 l8 b4 b5 ms b7)):∀(j m:Nat)(d:Dice)(ms:List Int),j<m->Ca d->(1<=ms.length+j/\ms.length+j<=12)->(∀x∈ms,0<=x/\x<(ps.length:Int))->G (S1 m k (j:Int) d zs ps cs t6 CZ FC Ff FQ FD FE FF l1 l2 l3 l4 l5 l6 l7 l8 b4 b5 ms b7):=by
 intro j
 induction j with
 |zero=>intro m d ms hm hd hl hx;obtain⟨m,rfl⟩:∃m',m=m'+1:=⟨m-1,by omega⟩;simp only[Ac8,Xm];exact w_n (by simp) (hk _ _ hd (by omega) hx)
 |succ j ih=>
  intro m d ms hm hd hl hx;obtain⟨m,rfl⟩:∃m',m=m'+1:=⟨m-1,by omega⟩;simp only[Ac8,Xm];refine w_p (by omega) ?_;refine CG hd ⟨by omega,by omega⟩ λx d1 h1 h2 BU=>?_;have hr:(ms.length+1)*8<=140737488355328:=by omega
  refine w_r hr ?_;simp(disch:=omega) only[i64_in];rw[show((j+1:Nat):Int)-1=(j:Int) by omega];refine ih m d1 _ (by omega) BU (by simp;omega) λy hy=>?_;rcases Ci.1 hy with hy|hy
  ·exact hx y hy
  ·rw[E9.1 hy];exact⟨h1,h2⟩
theorem AgM{zs:List AG}{ps:List AX}{cs:List Bu}{d:Dice}{t6 l1:List UInt8}{CZ FC Ff FQ FD FE FF l2 l3 l4 l5 l6:Int}{b4 b6:List Int}{b5 b7:List (Int×Int)}{k:Ac3 β}(hd:Ca d)(hc:cs.length<=8)(hk:∀d' c m,Ca d'->((m=0/\c=0)\/((1<=m/\m<=2)/\0<=c/\c<(cs.length:Int)))->G (k d' l1 l2 l3 l4 l5 l6 c m b6 b7)):G (S0 k d zs ps cs t6 CZ FC Ff FQ FD FE FF l1 l2 l3 l4 l5 l6 0 0 b4 b5 b6 b7):=by
 unfold S0;rw[Ad];unfold jU;refine Qd hd ⟨by omega,by omega⟩ λb d1 BU=>?_;unfold Xl;rw[Ad];unfold jT;refine w_c (λ_=>?_) (λ_=>hk _ _ _ BU (.inl ⟨rfl,rfl⟩));refine w_d (λh=>?_) (λ_=>hk _ _ _ BU (.inl ⟨rfl,rfl⟩));refine CG BU ⟨by omega,by omega⟩ λx d2 h1 h2 Cf=>?_;refine CG Cf ⟨by omega,by omega⟩ λy d3 h3 h4 E6=>?_;simp(disch:=omega) only[i64_in];exact hk _ _ _ E6 (.inr ⟨by omega,h1,h2⟩)
theorem AgN{zs:List AG}{ps:List AX}{cs:List Bu}{d:Dice}{t6 l1:List UInt8}{CZ FC Ff FQ FD FE FF l2 l3 l4 l5 l6:Int}{b4:List Int}{b5:List (Int×Int)}{k:Ac6 β}(hd:Ca d)(hp:1<=ps.length/\ps.length<=8)(hc:cs.length<=8)(hk:∀d' c m ms ws,Ca d'->((m=0/\c=0)\/((1<=m/\m<=2)/\0<=c/\c<(cs.length:Int)))->(1<=ms.length/\ms.length<=12)->(∀x∈ms,0<=x/\x<(ps.length:Int))->ED ws=0->G (k d' l1 l2 l3 l4 l5 l6 c m ms ws)):G (S2 k d zs ps cs t6 CZ FC Ff FQ FD FE FF l1 l2 l3 l4 l5 l6 0 0 b4 b5 [] []):=by
 unfold S2;rw[Ad];unfold jW;refine CG hd ⟨by omega,by omega⟩ λx d1 h1 h2 BU=>?_;simp(disch:=omega) only[i64_in];unfold jV;rw[Ad];obtain⟨j,hj⟩:∃j:Nat,1+x=j:=⟨(1+x).toNat,by omega⟩;rw[hj];refine Awb hp (λd2 ms Cf hm Jj=>?_) j fuel d1 [] (BI (by omega)) BU (by simp;omega) (λy hy=>absurd hy EX);refine Qd Cf ⟨by omega,by omega⟩ λb d3 E6=>?_;refine w_c (λ_=>?_) (λ_=>?_)
 ·refine AgH E6 λd4 ws GK hw=>?_
  exact AgM GK hc λd5 c m GL EQ=>hk _ _ _ _ _ GL EQ hm Jj hw
 ·refine AgM E6 hc λd5 c m GL EQ=>hk _ _ _ _ _ GL EQ hm Jj ?_
  exact ZG (t:=0) ⟨List.Pairwise.nil,λx hx=>absurd hx EX⟩ (by simp)
theorem Awc{zs:List AG}{ps:List AX}{cs:List Bu}{n:List UInt8}{d:Dice}{k:Bz->Dice->Option β}(hd:Ca d)(hz:1<=zs.length/\zs.length<=8)(hp:1<=ps.length/\ps.length<=8)(hc:cs.length<=8)(hk:∀l d',Ca d'->l.1=n->E4 (zs.length:Int) (ps.length:Int) (cs.length:Int) l=0->G (k l d')):G (Xn zs ps cs n d k):=by
 unfold Xn;rw[Ad];refine CG hd ⟨by omega,by omega⟩ λz d1 Ig Ih BU=>?_;refine CG BU ⟨by omega,by omega⟩ λy d2 DT H9 Cf=>?_;refine Kp Cf (by decide) λs d3 hs E6=>?_;have BN:0<=s/\s<=86399:=by simp at hs;omega
 refine CG E6 ⟨by omega,by omega⟩ λu d4 AC8 Q4 GK=>?_;refine CG GK ⟨by omega,by omega⟩ λe d5 ABX AhZ GL=>?_;simp(disch:=omega) only[i64_in];refine w_d (λ_=>?_) (λ_=>?_)
 ·refine Kp GL (by decide) λe2 d6 I1 Lr=>?_
  have AyQ:1<=e2/\e2<=400:=by simp at I1;omega
  refine AgN Lr hp hc λd' c m ms ws Cs h1 h2 h3 h4=>hk _ _ Cs rfl ?_;exact AgL ⟨Ig,Ih⟩ (by omega) BN (by omega) AyQ h2 h3 h4 h1
 ·refine AgN GL hp hc λd' c m ms ws Cs h1 h2 h3 h4=>hk _ _ Cs rfl ?_
  exact AgL ⟨Ig,Ih⟩ (by omega) BN (by omega) (by omega) h2 h3 h4 h1
def zNames:List (List UInt8):=[[104,101,114,101],[116,104,101,114,101]]
def pNames:List (List UInt8):=[[97,100,97],[98,111,98],[99,108,101,111],[100,97,110],[101,118,101],[102,97,121],[103,117,115],[104,97,108]]
def cNames:List (List UInt8):=[[100,97,121,115]]
def sNames:List (List UInt8):=[[102,105,114,115,116],[115,101,99,111,110,100],[116,104,105,114,100]]
def Named{α:Type}(of:α->List UInt8)(L:List (List UInt8))(xs:List α):Prop:=xs.length<=L.length/\xs.map of=L.take xs.length
theorem Named.nil{α:Type}{of:α->List UInt8}{L:List (List UInt8)}:Named of L []:=⟨DM _,by simp⟩
theorem Named.snoc{α:Type}{of:α->List UInt8}{L:List (List UInt8)}{xs:List α}{x:α}(h:Named of L xs)(hl:xs.length<L.length)(hx:of x=L.getD xs.length []):Named of L (xs++[x]):=by refine⟨by simp;omega,?_⟩;rw[LJ,h.2,AE,GY,NE [] hl,List.map_singleton,hx]
theorem Named.ok{α:Type}{of:α->List UInt8}{L:List (List UInt8)}{xs:List α}(h:Named of L xs)(hL:((List.range (L.length+1)).all λn=>Jb (L.take n) [])=true):Jb (xs.map of) []=true:=by rw[h.2];exact Ef.1 hL xs.length (VL.2 (by have:=h.1;omega))
theorem J1{α:Type}{P:α->Prop}{xs:List α}{x:α}(h:∀y∈xs,P y)(hx:P x):∀y∈xs++[x],P y:=by
 intro y hy;rcases Ci.1 hy with hy|hy
 ·exact h y hy
 ·rw[E9.1 hy];exact hx
def ZI(zs:List AG):Prop:=Named (·.1) zNames zs/\∀z∈zs,ZoneOk z/\FZ z=0/\Ml z
def ZJ(nz:Int)(ps:List AX):Prop:=Named (·.1) pNames ps/\∀p∈ps,H5 nz p=0
def ZK(nz:Int)(cs:List Bu):Prop:=Named (·.1) cNames cs/\∀x∈cs,calV nz x=0/\x.2.2.length<=20
theorem Awd{b3 b7:List AG}{b4 b8:List AX}{b5 b9:List Bu}{b6 b10:List B8}{k:jC β}(hk:∀d' zs,Ca d'->ZI zs->1<=zs.length->G (k d' b3 b4 b5 b6 zs b8 b9 b10)):∀(j m:Nat)(d:Dice)(zs:List AG),j<m->Ca d->ZI zs->(1<=zs.length+j/\zs.length+j<=2)->G (Sv m k (j:Int) d b3 b4 b5 b6 zs b8 b9 b10):=by
 intro j
 induction j with
 |zero=>intro m d zs hm hd hz hl;obtain⟨m,rfl⟩:∃m',m=m'+1:=⟨m-1,by omega⟩;simp only[AbY,Xg];exact w_n (by simp) (hk _ _ hd hz (by omega))
 |succ j ih=>
  intro m d zs hm hd hz hl;obtain⟨m,rfl⟩:∃m',m=m'+1:=⟨m-1,by omega⟩;simp only[AbY,Xg];refine w_p (by omega) ?_;refine w_i (by show 0<=(zs.length:Int)/\(zs.length:Int)<2;omega) ?_;refine Aw4 hd λz d1 BU Ih=>?_;have hr:(zs.length+1)*48<=140737488355328:=by omega
  refine w_r hr ?_;simp(disch:=omega) only[i64_in];rw[show((j+1:Nat):Int)-1=(j:Int) by omega];refine ih m d1 _ (by omega) BU ⟨hz.1.snoc (by show zs.length<2;omega) ?_,J1 hz.2 Ih.2⟩ (by simp;omega);have:=Ih.1;rw[Bw]at this;exact this
theorem Awe{nz zone w r:Int}{n:List UInt8}{q:List (Int×Int)}{b:Bool}(hz:0<=zone/\zone<nz)(hq:ED q=0)(hw:w∈[(0:Int),40,100,12])(hr:r∈[(0:Int),11,24,1]):H5 nz (n,zone,q,3600*w,3600*r,b)=0:=by
 unfold H5;simp only
 have h1:HR (3600*w)=true:=by simp at hw;rcases hw with rfl|rfl|rfl|rfl<;>decide
 have h2:HR (3600*r)=true:=by simp at hr;rcases hr with rfl|rfl|rfl|rfl<;>decide
 rw[Mm hz,Ay hq,h1,h2];rfl
theorem Awf{b3 b7:List AG}{b4:List AX}{b5 b9:List Bu}{b6 b10:List B8}{k:jE β}(h7:1<=b7.length/\b7.length<=8)(hk:∀d' ps,Ca d'->ZJ (b7.length:Int) ps->(1<=ps.length/\ps.length<=8)->G (k d' b3 b4 b5 b6 b7 ps b9 b10)):∀(j m:Nat)(d:Dice)(ps:List AX),j<m->Ca d->ZJ (b7.length:Int) ps->(1<=ps.length+j/\ps.length+j<=8)->G (PE m k (j:Int) d b3 b4 b5 b6 b7 ps b9 b10):=by
 intro j
 induction j with
 |zero=>intro m d ps hm hd hz hl;obtain⟨m,rfl⟩:∃m',m=m'+1:=⟨m-1,by omega⟩;simp only[AbZ,Xh];exact w_n (by simp) (hk _ _ hd hz (by omega))
 |succ j ih=>
  intro m d ps hm hd hz hl;obtain⟨m,rfl⟩:∃m',m=m'+1:=⟨m-1,by omega⟩;simp only[AbZ,Xh];refine w_p (by omega) ?_;unfold Sb;rw[Ad];refine w_i (by show 0<=(ps.length:Int)/\(ps.length:Int)<8;omega) ?_;refine CG hd ⟨by omega,by omega⟩ λz d1 h1 h2 BU=>?_;refine Qd BU ⟨by omega,by omega⟩ λbc d2 Cf=>?_;refine Qd Cf ⟨by omega,by omega⟩ λbq d3 E6=>?_
  have key:∀(d4:Dice)(q:List (Int×Int)),Ca d4->ED q=0->G (Sw (λBB d2 NJ Hj Gp Gq Iz Jf J7 Je=>PE m k (IntKind.i64.wrap (BB-1)) d2 NJ Hj Gp Gq Iz Jf J7 Je) ((j+1:Nat):Int) d4
    (List.getD pNames (Int.toNat (ps.length:Int)) []) z 0 0 bc b3 b4 b5 b6 b7 ps b9 b10 q):=by
   intro d4 q GK hq;unfold Sw;rw[Ad];unfold jN;refine Kp GK (by decide) λw d5 hw GL=>?_;refine Kp GL (by decide) λr d6 hr Lr=>?_;have AiN:0<=w/\w<=100:=by simp at hw;omega
   have Bv:0<=r/\r<=100:=by simp at hr;omega
   have hr:(ps.length+1)*72<=140737488355328:=by omega
   refine w_r hr ?_;simp(disch:=omega) only[i64_in];rw[show((j+1:Nat):Int)-1=(j:Int) by omega];refine ih m d6 _ (by omega) Lr ⟨hz.1.snoc (by show ps.length<8;omega) (by rw[Bw]),J1 hz.2 ?_⟩ (by simp;omega);exact Awe ⟨h1,h2⟩ hq hw (by assumption)
  refine w_c (λ_=>?_) (λ_=>?_)
  ·exact AgH E6 λd4 q GK hq=>key d4 q GK hq
  ·exact key d3 [] E6 (ZG (t:=0) ⟨List.Pairwise.nil,λx hx=>absurd hx EX⟩ (by simp))
theorem Awg{nz zone:Int}{n:List UInt8}{ds:List Int}(hz:0<=zone/\zone<nz)(hl:ds.length<=64)(hd:ds.Pairwise (· < ·))(hb:∀x∈ds,0<=x/\x<98981):calV nz (n,zone,ds)=0:=by
 unfold calV;simp only;rw[Mm hz,AF (by omega),Ef.2 λx hx=>rE (hb x hx),AgF 0 λi hi=>?_]
 ·rfl
 unfold ascG;by_cases h0:(0:Int)<i
 ·have:=V2.1 hd (i-1) i (by omega) hi (by omega)
  have e1:ds.getD i 0=ds[i]:=by simp[List.getD,hi]
  have e2:ds.getD (i-1) 0=ds[i-1]:=by simp[List.getD,show i-1<ds.length by omega]
  rw[Ay h0,e1,e2,AF (show ¬ds[i]<=ds[i-1] by omega)];rfl
 ·rw[AF h0];rfl
theorem Awh{i z:Int}{n:List UInt8}{b4 b8:List AG}{b5 b9:List AX}{b6 b10:List Bu}{b7 b11:List B8}{k:jK β}(hk:∀d' ds,Ca d'->ds.length<=20->ds.Pairwise (· < ·)->(∀x∈ds,0<=x/\x<98981)->G (k i d' n z b4 b5 b6 b7 b8 b9 b10 b11 ds)):∀(j m:Nat)(day:Int)(d:Dice)(ds:List Int),j<m->Ca d->ds.length+j<=20->ds.Pairwise (· < ·)->(∀x∈ds,0<=x/\x<=day)->(0<=day/\day+6*(j:Int)<98981)->G (Sx m k i (j:Int) day d n z b4 b5 b6 b7 b8 b9 b10 b11 ds):=by
 intro j
 induction j with
 |zero=>intro m day d ds hm hd hl hp hb aI;obtain⟨m,rfl⟩:∃m',m=m'+1:=⟨m-1,by omega⟩;simp only[Ac0,Xi];exact w_n (by simp) (hk _ _ hd (by omega) hp λx hx=>by have:=hb x hx;omega)
 |succ j ih=>
  intro m day d ds hm hd hl hp hb aI;obtain⟨m,rfl⟩:∃m',m=m'+1:=⟨m-1,by omega⟩;simp only[Ac0,Xi];refine w_p (by omega) ?_;refine CG hd ⟨by omega,by omega⟩ λx d1 h1 h2 BU=>?_;have hr:(ds.length+1)*8<=140737488355328:=by omega
  refine w_r hr ?_;simp(disch:=omega) only[i64_in];rw[show((j+1:Nat):Int)-1=(j:Int) by omega];refine ih m _ d1 _ (by omega) BU (by simp;omega) ?_ ?_ (by omega)
  ·rw[GZ]
   refine⟨hp,OG _ _,λa ha b Aw=>?_⟩;rw[E9.1 Aw];have:=hb a ha;omega
  ·intro a ha
   rcases Ci.1 ha with ha|ha
   ·have:=hb a ha;omega
   ·rw[E9.1 ha];omega
theorem Awi{b3 b7:List AG}{b4 b8:List AX}{b5:List Bu}{b6 b10:List B8}{k:jH β}(h7:1<=b7.length/\b7.length<=8)(hk:∀d' cs,Ca d'->ZK (b7.length:Int) cs->G (k d' b3 b4 b5 b6 b7 b8 cs b10)):∀(j m:Nat)(d:Dice)(cs:List Bu),j<m->Ca d->ZK (b7.length:Int) cs->cs.length+j<=1->G (Sy m k (j:Int) d b3 b4 b5 b6 b7 b8 cs b10):=by
 intro j
 induction j with
 |zero=>intro m d cs hm hd hz hl;obtain⟨m,rfl⟩:∃m',m=m'+1:=⟨m-1,by omega⟩;simp only[Ac1,Xj];exact w_n (by simp) (hk _ _ hd hz)
 |succ j ih=>
  intro m d cs hm hd hz hl;obtain⟨m,rfl⟩:∃m',m=m'+1:=⟨m-1,by omega⟩;simp only[Ac1,Xj];refine w_p (by omega) ?_;refine CG hd ⟨by omega,by omega⟩ λz d1 h1 h2 BU=>?_;refine CG BU ⟨by omega,by omega⟩ λt d2 h3 h4 Cf=>?_;unfold jP;rw[Ad];obtain⟨q,rfl⟩:∃q:Nat,t=q:=⟨t.toNat,by omega⟩;refine Awh (λd3 ds E6 g1 g2 g3=>?_) q fuel 20454 d2 [] (BI (by omega)) Cf (by simp;omega) List.Pairwise.nil (λx hx=>absurd hx EX) (by omega);have hr:(cs.length+1)*48<=140737488355328:=by omega
  refine w_r hr ?_;simp(disch:=omega) only[i64_in];rw[show((j+1:Nat):Int)-1=(j:Int) by omega];refine ih m d3 _ (by omega) E6 ⟨hz.1.snoc (by show cs.length<1;omega) ?_,J1 hz.2 ⟨Awg ⟨h1,h2⟩ (by omega) g2 g3,g1⟩⟩ (by simp;omega);rw[show cs.length=0 by omega];rfl
theorem Awj{d:Dice}{k:List AG->List AX->List Bu->Dice->List B8->Option β}(hd:Ca d)(hk:∀d' zs ps cs,Ca d'->ZI zs->1<=zs.length->ZJ (zs.length:Int) ps->(1<=ps.length/\ps.length<=8)->ZK (zs.length:Int) cs->G (k zs ps cs d' [])):G (Xk d k):=by
 unfold Xk;rw[Ad];refine CG hd ⟨by omega,by omega⟩ λx d1 h1 h2 BU=>?_;simp(disch:=omega) only[i64_in];unfold jM;rw[Ad];obtain⟨j,hj⟩:∃j:Nat,1+x=j:=⟨(1+x).toNat,by omega⟩;rw[hj];refine Awd (b7:=[]) (λd2 zs Cf hz HB=>?_) j fuel d1 [] (BI (by omega)) BU ⟨Named.nil,λz hz=>absurd hz EX⟩ (by simp;omega);refine CG Cf ⟨by omega,by omega⟩ λy d3 h3 h4 E6=>?_;simp(disch:=omega) only[i64_in];unfold jO;rw[Ad];obtain⟨q,hq⟩:∃q:Nat,1+y=q:=⟨(1+y).toNat,by omega⟩;rw[hq];have bK:zs.length<=8:=by have:=hz.1.1;have e:zNames.length=2:=rfl;omega
 refine Awf ⟨HB,bK⟩ (λd4 ps GK hp Be=>?_) q fuel d3 [] (BI (by omega)) E6 ⟨Named.nil,λz hz=>absurd hz EX⟩ (by simp;omega);refine CG GK ⟨by omega,by omega⟩ λt d5 h5 h6 GL=>?_;unfold jQ;rw[Ad];obtain⟨c,rfl⟩:∃c:Nat,t=c:=⟨t.toNat,by omega⟩;exact Awi ⟨HB,bK⟩ (λd6 cs Lr hc=>hk _ _ _ _ Lr hz HB hp Be hc) c fuel d5 [] (BI (by omega)) GL ⟨Named.nil,λz hz=>absurd hz EX⟩ (by simp;omega)
end
end
end Go.Lift
namespace Go.Lift
open Go.RowKit Go.IntWalk
noncomputable section
variable[Sl]
set_option maxRecDepth 10000
section
variable{β:Type}{G:Option β->Prop}
def rI(nz np nc:Int)(ls:List Bz):Prop:=Named (·.1) pNames ls/\∀l∈ls,E4 nz np nc l=0
def rJ(nz np nc:Int)(ss:List B8):Prop:=Named (·.1) sNames ss/\∀s∈ss,Gn nz np nc s=0/\∀x∈s.2.2,EdOk np x
theorem AgO:((List.range (pNames.length+1)).all λn=>Jb (pNames.take n) [])=true:=by kernel_rfl
theorem Awk:((List.range (sNames.length+1)).all λn=>Jb (sNames.take n) [])=true:=by kernel_rfl
theorem Awl:((List.range (zNames.length+1)).all λn=>Jb (zNames.take n) [])=true:=by kernel_rfl
theorem Awm:((List.range (cNames.length+1)).all λn=>Jb (cNames.take n) [])=true:=by kernel_rfl
theorem Awn{nz np nc:Int}{n:List UInt8}{ls:List Bz}{es:List Ed}(hl:rI nz np nc ls)(h6:ls.length<=6)(he:∀x∈es,Hg np x=0)(NK:es.length<=48):Gn nz np nc (n,ls,es)=0:=by unfold Gn;simp only;rw[AF (by omega),AF (by omega),Ay (ZH (hl.1.ok AgO) hl.2),rH np es 0 he];rfl
theorem Awo{i:Int}{zs b4:List AG}{ps b5:List AX}{cs b6:List Bu}{s:List UInt8}{b7 b8:List B8}{es:List Ed}{k:lZ β}(hz:1<=zs.length/\zs.length<=8)(hp:1<=ps.length/\ps.length<=8)(hc:cs.length<=8)(hk:∀d' ls,Ca d'->rI (zs.length:Int) (ps.length:Int) (cs.length:Int) ls->ls.length<=6->G (k i d' zs ps cs s b4 b5 b6 b7 b8 ls es)):∀(j m:Nat)(d:Dice)(ls:List Bz),j<m->Ca d->rI (zs.length:Int) (ps.length:Int) (cs.length:Int) ls->ls.length+j<=6->G (SW m k i (j:Int) d zs ps cs s b4 b5 b6 b7 b8 ls es):=by
 intro j
 induction j with
 |zero=>intro m d ls hm hd hl h6;obtain⟨m,rfl⟩:∃m',m=m'+1:=⟨m-1,by omega⟩;simp only[AdB,XR];exact w_n (by simp) (hk _ _ hd hl (by omega))
 |succ j ih=>
  intro m d ls hm hd hl h6;obtain⟨m,rfl⟩:∃m',m=m'+1:=⟨m-1,by omega⟩;simp only[AdB,XR];refine w_p (by omega) ?_;unfold Sb;rw[Ad];refine w_i (by show 0<=(ls.length:Int)/\(ls.length:Int)<8;omega) ?_;refine Awc hd hz hp hc λl d1 BU hn hv=>?_;have hr:(ls.length+1)*120<=140737488355328:=by omega
  refine w_r hr ?_;simp(disch:=omega) only[i64_in];rw[show((j+1:Nat):Int)-1=(j:Int) by omega];refine ih m d1 _ (by omega) BU ⟨hl.1.snoc (by show ls.length<8;omega) ?_,J1 hl.2 hv⟩ (by simp;omega);rw[Bw]at hn;exact hn
theorem Awp{i:Int}{zs b4:List AG}{ps b5:List AX}{cs b6:List Bu}{s:List UInt8}{b7 b8:List B8}{ls:List Bz}{k:m6 β}(hp:1<=ps.length/\ps.length<=8)(hk:∀d' es,Ca d'->(∀x∈es,EdOk (ps.length:Int) x)->es.length<=3->G (k i d' zs ps cs s b4 b5 b6 b7 b8 ls es)):∀(j m:Nat)(d:Dice)(es:List Ed),j<m->Ca d->(∀x∈es,EdOk (ps.length:Int) x)->es.length+j<=3->G (SX m k i (j:Int) d zs ps cs s b4 b5 b6 b7 b8 ls es):=by
 intro j
 induction j with
 |zero=>intro m d es hm hd hl h6;obtain⟨m,rfl⟩:∃m',m=m'+1:=⟨m-1,by omega⟩;simp only[AdC,XS];exact w_n (by simp) (hk _ _ hd hl (by omega))
 |succ j ih=>
  intro m d es hm hd hl h6;obtain⟨m,rfl⟩:∃m',m=m'+1:=⟨m-1,by omega⟩;simp only[AdC,XS];refine w_p (by omega) ?_;refine AgI hd hp λx d1 BU hv=>?_;have hr:(es.length+1)*40<=140737488355328:=by omega
  refine w_r hr ?_;simp(disch:=omega) only[i64_in];rw[show((j+1:Nat):Int)-1=(j:Int) by omega];exact ih m d1 _ (by omega) BU (J1 hl hv) (by simp;omega)
theorem Awq{zs b3:List AG}{ps b4:List AX}{cs b5:List Bu}{b6:List B8}{k:lW β}(hz:1<=zs.length/\zs.length<=8)(hp:1<=ps.length/\ps.length<=8)(hc:cs.length<=8)(hk:∀d' ss,Ca d'->rJ (zs.length:Int) (ps.length:Int) (cs.length:Int) ss->(1<=ss.length/\∀s∈ss,s.2.2.length<=3)->G (k d' zs ps cs b3 b4 b5 b6 ss)):∀(j m:Nat)(d:Dice)(ss:List B8),j<m->Ca d->rJ (zs.length:Int) (ps.length:Int) (cs.length:Int) ss->(1<=ss.length+j/\ss.length+j<=3)->(∀s∈ss,s.2.2.length<=3)->G (SY m k (j:Int) d zs ps cs b3 b4 b5 b6 ss):=by
 intro j
 induction j with
 |zero=>intro m d ss hm hd hl h6 My;obtain⟨m,rfl⟩:∃m',m=m'+1:=⟨m-1,by omega⟩;simp only[AdD,XT];exact w_n (by simp) (hk _ _ hd hl ⟨by omega,My⟩)
 |succ j ih=>
  intro m d ss hm hd hl h6 My;obtain⟨m,rfl⟩:∃m',m=m'+1:=⟨m-1,by omega⟩;simp only[AdD,XT];refine w_p (by omega) ?_
  have Azk:Int.tmod (ss.length:Int) 3=(ss.length:Int):=by rw[FH (by omega),cM (by omega) (by omega)]
  rw[Azk];refine w_i (by show 0<=(ss.length:Int)/\(ss.length:Int)<3;omega) ?_;refine CG hd ⟨by omega,by omega⟩ λx d1 h1 h2 BU=>?_;unfold m8;rw[Ad];obtain⟨q,rfl⟩:∃q:Nat,x=q:=⟨x.toNat,by omega⟩;refine Awo hz hp hc (λd2 ls Cf tW Aza=>?_) q fuel d1 [] (BI (by omega)) BU ⟨Named.nil,λz hz=>absurd hz EX⟩ (by simp;omega);refine CG Cf ⟨by omega,by omega⟩ λy d3 h3 h4 E6=>?_;unfold m9;rw[Ad];obtain⟨p,rfl⟩:∃p:Nat,y=p:=⟨y.toNat,by omega⟩;refine Awp hp (λd4 es GK GM AyR=>?_) p fuel d3 [] (BI (by omega)) E6 (λz hz=>absurd hz EX) (by simp;omega);have hr:(ss.length+1)*64<=140737488355328:=by omega
  refine w_r hr ?_;simp(disch:=omega) only[i64_in];rw[show((j+1:Nat):Int)-1=(j:Int) by omega];refine ih m d4 _ (by omega) GK ⟨hl.1.snoc (by show ss.length<3;omega) ?_,J1 hl.2 ⟨Awn tW Aza (λx hx=>(GM x hx).1) (by omega),GM⟩⟩ (by simp;omega) (J1 My AyR);rw[Bw];rfl
structure ConfOk (c:Au):Prop where
 oz:ZI c.1
 op:ZJ (c.1.length:Int) c.2.1
 oc:ZK (c.1.length:Int) c.2.2.1
 os:rJ (c.1.length:Int) (c.2.1.length:Int) (c.2.2.1.length:Int) c.2.2.2
theorem Awr{n:Int}{d:Dice}{k:Au->Dice->Option β}(hd:Ca d)(hn:1<=n/\n<=3)(hk:∀c d',Ca d'->ConfOk c->(1<=c.1.length/\1<=c.2.1.length/\1<=c.2.2.2.length)->(∀s∈c.2.2.2,s.2.2.length<=3)->G (k c d')):G (XU n d k):=by
 unfold XU;rw[Ad];refine Awj hd λd1 zs ps cs BU hz HB hp Be hc=>?_;refine CG BU ⟨by omega,by omega⟩ λx d2 h1 h2 Cf=>?_;simp(disch:=omega) only[i64_in];unfold mD;rw[Ad];obtain⟨q,hq⟩:∃q:Nat,1+x=q:=⟨(1+x).toNat,by omega⟩;rw[hq];have bK:zs.length<=8:=by have:=hz.1.1;have e:zNames.length=2:=rfl;omega
 have AyA:cs.length<=8:=by have:=hc.1.1;have e:cNames.length=1:=rfl;omega
 refine Awq ⟨HB,bK⟩ Be AyA (λd3 ss E6 hs Bk=>?_) q fuel d2 [] (BI (by omega)) Cf ⟨Named.nil,λz hz=>absurd hz EX⟩ (by simp;omega) (λz hz=>absurd hz EX);have AyB:ConfOk (zs,ps,cs,ss):=⟨hz,hp,hc,hs⟩;exact hk _ _ E6 AyB ⟨HB,Be.1,Bk.1⟩ Bk.2
theorem AgP(nz:Int):∀(xs:List AX)(j:Nat)(l:List (List UInt8)),Jb (xs.map (·.1)) l=true->J0∉xs.map (·.1)->(∀x∈xs,H5 nz x=0)->walk (Li nz) xs j l=.inr (l++xs.map (·.1))
 |[],j,l,_,_,_=>by simp[walk]
 |x::xs,j,l,h,hn,hc=>by
  simp only[CE,Jb,C5]at h;obtain⟨h1,h2,h3⟩:=h;have h2:x.1∉l:=by simpa using h2
  rw[CE,Bf,not_or]at hn
  have hf:Kn nz x l=0:=by unfold Kn;rw[AF (show ¬x.1=J0 from λe=>hn.1 e.symm),AgJ h1 h2];rfl
  have hg:Li nz j x l=.inr (l++[x.1]):=by unfold Li;rw[hf,Ay (hc x (Gh ..))];rfl
  rw[NF hg,AgP nz xs (j+1) _ h3 hn.2 λy hy=>hc y (Dm _ hy)];simp
theorem Aws{c:Au}(h:ConfOk c):ZA FZ c=0:=by
 have e1:zNames.length=2:=rfl;have e2:pNames.length=8:=rfl;have e3:cNames.length=1:=rfl;have e4:sNames.length=3:=rfl;have l1:=h.oz.1.1;have l2:=h.op.1.1;have l3:=h.oc.1.1;have l4:=h.os.1.1
 have UF:J0∉c.2.1.map (·.1):=by rw[h.op.1.2];intro g;have:=cJ g;exact absurd this (by decide)
 unfold ZA;rw[AF (by omega),AF (by omega),AF (by omega),AF (by omega),ZH (h.oz.1.ok Awl) λz hz=>(h.oz.2 z hz).2.1]
 have hp:TP (c.1.length:Int) c.2.1=0:=by unfold TP;rw[AgP _ _ 0 [] (h.op.1.ok AgO) UF h.op.2];rfl
 rw[hp,ZH (h.oc.1.ok Awm) (λx hx=>(h.oc.2 x hx).1),ZH (h.os.1.ok Awk) (λx hx=>(h.os.2 x hx).1)];rfl
end
end
end Go.Lift
namespace Go.Lift
open Go.RowKit Go.IntWalk
noncomputable section
variable[Sl]
set_option maxRecDepth 10000
abbrev Tok:=BF
def wd(s:List UInt8):Tok:=(0,s,0)
def nu(t n:Int):Tok:=(t,[],n)
def numb:Nat->List (List Tok)->List (Int×List Tok)
 |_,[]=>[]
 |n,t::r=>((n:Int)+1,t)::numb (n+1) r
theorem TU:∀(n:Nat)(ls:List (List Tok)),(numb n ls).length=ls.length
 |_,[]=>rfl
 |n,t::r=>by simp[numb,TU (n+1) r]
theorem AgQ:∀(n:Nat)(a b:List (List Tok)),numb n (a++b)=numb n a++numb (n+a.length) b
 |_,[],_=>rfl
 |n,t::r,b=>by simp only[Fw,numb,AgQ (n+1) r b,Ba];rw[show n+1+r.length=n+(r.length+1) by omega]
def NG:List (List UInt8):=[[109,111,110],[116,117,101],[119,101,100],[116,104,117],[102,114,105],[115,97,116],[115,117,110]]
def rK:List (List UInt8):=[[106,97,110],[102,101,98],[109,97,114],[97,112,114],[109,97,121],[106,117,110],[106,117,108],[97,117,103],[115,101,112],[111,99,116],[110,111,118],[100,101,99]]
def rL:List (List UInt8):=[[102,105,114,115,116],[115,101,99,111,110,100],[116,104,105,114,100],[102,111,117,114,116,104],[108,97,115,116]]
def untNs:List (List UInt8):=[[104,111,117,114,115],[100,97,121,115],[119,101,101,107,115]]
def rM:List (List UInt8):=[[],[110,111,116],[111,110,108,121]]
def TV:List (List UInt8):=[[108,101,97,118,101],[111,118,101,114,114,105,100,101],[115,119,97,112]]
def at'(l:List (List UInt8))(n:Int):List UInt8:=l.getD n.toNat []
section
variable{β:Type}
theorem GE(s:List UInt8)(k:Tok->Option β):Fk s k=k (wd s):=by unfold Fk;rw[Ad];rfl
theorem TW(n:Int)(k:Tok->Option β):Lb n k=k (nu 1 n):=by unfold Lb;rw[Ad];rfl
theorem ZL(n:Int)(k:Tok->Option β):Md n k=k (nu 2 n):=by unfold Md;rw[Ad];rfl
theorem AgR(n:Int)(k:Tok->Option β):P4 n k=k (nu 3 n):=by unfold P4;rw[Ad];rfl
theorem AgS(n:Int)(k:Tok->Option β):Sg n k=k (nu 4 n):=by unfold Sg;rw[Ad];rfl
theorem AgT(n:Int)(k:Tok->Option β):Sh n k=k (nu 5 n):=by unfold Sh;rw[Ad];rfl
theorem rN{n:Int}(h:0<=n/\n<7)(k:Tok->Option β):P3 n k=k (wd (at' NG n)):=by unfold P3;rw[Ad];exact(AR (show 0<=n/\n<((7:Nat):Int)from h)).trans (GE _ _)
variable{w:List AG}{w2:List AX}{w3:List Bu}{w4:List B8}
theorem J2(kw:List UInt8)(toks:List Tok)(ls:List (List Tok))(h1:ls.length<=1000000)(h2:toks.length<=1000000)(k:List AG->List AX->List Bu->List B8->List (Int×List Tok)->Option β):DA kw toks w w2 w3 w4 (numb 0 ls) k=k w w2 w3 w4 (numb 0 (ls++[wd kw::toks])):=by
 unfold DA;rw[Ad];refine(GE _ _).trans ?_;refine(DV (show(1+toks.length)*32<=_ by omega)).trans ?_;refine((At (λb=>cond b _ none) (Bool.true_and _)).trans (DV (show((numb 0 ls).length+1)*32<=_ by rw[TU];omega))).trans ?_;rw[AgQ,TU,i64_in ((ls.length:Int)+1) (by omega),DL];rfl
theorem rO{i:Int}(h:0<=i/\i<(w.length:Int)){b:List (Int×List Tok)}(k:Tok->List AG->List AX->List Bu->List B8->List (Int×List Tok)->Option β):Nu i w w2 w3 w4 b k=k (wd (w.getD i.toNat ([],0,[])).1) w w2 w3 w4 b:=by
 unfold Nu;rw[Ad];exact(AR h).trans (GE _ _)
def whoB(w2:List AX)(i:Int):List UInt8:=if i<0 then J0 else(w2.getD i.toNat ([],0,[],0,0,false)).1
theorem rP{i:Int}(h:i<(w2.length:Int)){b:List (Int×List Tok)}(k:Tok->List AG->List AX->List Bu->List B8->List (Int×List Tok)->Option β):FY i w w2 w3 w4 b k=k (wd (whoB w2 i)) w w2 w3 w4 b:=by
 unfold FY whoB;rw[Ad];by_cases hi:i<0
 ·rw[if_pos hi]
  exact(Ar hi).trans (GE _ _)
 ·rw[if_neg hi]
  exact(An hi).trans ((AR ⟨by omega,h⟩).trans (GE _ _))
def stW(kw:List UInt8)(x:Int×Int):List Tok:=
 [wd kw,wd (at' NG (Int.tdiv x.1 86400)),nu 2 (Int.tmod x.1 86400),wd (at' NG (Int.tdiv (x.2-1) 86400)),nu 2 (x.2-Int.tdiv (x.2-1) 86400*86400)]
def PWin(x:Int×Int):Prop:=0<=x.1/\x.1<604800/\1<=x.2/\x.2<=604800
theorem ZM{a:Int}(h:0<=a/\a<604800):0<=Int.tdiv a 86400/\Int.tdiv a 86400<7:=by rw[GW h.1];omega
theorem AgU(kw:List UInt8)(l:List (Int×Int))(ls:List (List Tok))(h1:ls.length+l.length<=1000000)(hl:∀x∈l,PWin x)(k:List AG->List AX->List Bu->List B8->List (Int×List Tok)->Option β):Ny kw l w w2 w3 w4 (numb 0 ls) k=k w w2 w3 w4 (numb 0 (ls++l.map (stW kw))):=by
 unfold Ny;rw[Ad];unfold jZ;rw[Ad,<-Awa (stW kw) l ls]
 refine Qc (λi s=>s.length=ls.length+i) (λm i s=>S4 m (λAJ B6 Cu Cv Cb=>k AJ B6 Cu Cv Cb) kw l (l.length:Int) i w w2 w3 w4 (numb 0 s)) (λs x=>s++[stW kw x]) (λs=>k w w2 w3 w4 (numb 0 s)) ((0:Int),(0:Int)) l ls fuel (BI (by omega)) rfl
  (λi s hi hs=>by rw[AE,GY];omega) (λm i s hi hs=>?_) (λm s hs=>?_)
 ·have hx:=hl _ (C1 (d:=((0:Int),(0:Int))) hi)
  obtain⟨x1,x2,x3,x4⟩:=hx;generalize hq:l.getD i ((0:Int),(0:Int))=q at x1 x2 x3 x4;simp only[Acc,Xs];refine(Ar (by omega)).trans ?_;refine(AR (by omega)).trans ?_;rw[Bw,hq];have d1:=ZM ⟨x1,x2⟩;have d2:=ZM (a:=q.2-1) ⟨by omega,by omega⟩;rw[i64_in (q.2-1) (by omega),i64_in (Int.tdiv (q.2-1) 86400) (by omega),i64_in (Int.tdiv q.1 86400) (by omega),i64_in (Int.tdiv (q.2-1) 86400*86400) (by omega),i64_in (q.2-Int.tdiv (q.2-1) 86400*86400) (by omega)];refine(rN d1 _).trans ?_;refine(ZL _ _).trans ?_;refine(rN d2 _).trans ?_;refine(ZL _ _).trans ?_;refine(J2 kw _ s (by omega) (by simp) _).trans ?_;rw[i64_in ((i:Int)+1) (by omega)];rfl
 ·simp only[Acc,Xs]
  exact An (by omega)
end
end
end Go.Lift
namespace Go.Lift
open Go.RowKit Go.IntWalk
noncomputable section
variable[Sl]
set_option maxRecDepth 10000
theorem cz{b:Bool}{e x:Int}(h:cond b e x=0)(he:e≠0:=by decide):b=false/\x=0:=by
 cases b with
 |true=>exact absurd h he
 |false=>exact⟨rfl,h⟩
theorem nt{b:Bool}(h:(!b)=false):b=true:=by simpa using h
theorem NH{i n:Int}(h:ixI i n=true):0<=i/\i<n:=by unfold ixI at h;simpa using h
theorem Mn{i a b:Int}(h:inI i a b=true):a<=i/\i<=b:=by unfold inI at h;simpa using h
theorem rQ{i:Int}(h:dayI i=true):0<=i/\i<98981:=by unfold dayI at h;simpa using h
theorem or2{a b:Bool}(h:(a||b)=false):a=false/\b=false:=by simpa using h
theorem df{p:Prop}[Decidable p](h:decide p=false):¬p:=V8 h
theorem dt{p:Prop}[Decidable p](h:decide p=true):p:=AV h
theorem ZN{α σ:Type}{g:Nat->α->σ->Int⊕σ}{P:α->Prop}(AL:∀j x s,g j x s≠.inl 0)(hP:∀j x s s',g j x s=.inr s'->P x):∀(xs:List α)(j:Nat)(s:σ),errV (walk g xs j s)=0->∀x∈xs,P x
 |[],_,_,_,x,hx=>absurd hx EX
 |y::r,j,s,h,x,hx=>by
  unfold walk at h;cases hg:g j y s with
  |inl e=>rw[hg]at h;exact absurd (hg.trans (At Sum.inl (show e=0 from h))) (AL j y s)
  |inr s'=>
   rw[hg]at h;rcases Bf.1 hx with e|hx
   ·rw[e];exact hP _ _ _ _ hg
   ·exact ZN AL hP r (j+1) s' h x hx
theorem TX{α:Type}{e:Int}(h:e≠0):(Sum.inl e:Int⊕α)≠.inl 0:=λg=>h (Sum.inl.inj g)
theorem AgV{ws:List (Int×Int)}(h:ED ws=0):ws.length<=14/\∀x∈ws,PWin x:=by
 unfold ED at h;obtain⟨h1,h⟩:=cz h;refine⟨by have:=df h1;omega,ZN (g:=Lg ws) (λj x s=>?_) (λj x s s' hg=>?_) ws 0 () h⟩
 ·unfold Lg
  cases(decide (x.1<0)||(decide (x.2<=x.1)||decide ((604800:Int)<x.2)))with
  |true=>exact TX (by decide)
  |false=>cases(decide (0<(j:Int))&&decide (x.1<(ws.getD (j-1) (0,0)).2))with
   |true=>exact TX (by decide)
   |false=>exact λg=>nomatch g
 ·unfold Lg at hg
  cases hb:(decide (x.1<0)||(decide (x.2<=x.1)||decide ((604800:Int)<x.2)))with
  |true=>rw[hb]at hg;cases hg
  |false=>obtain⟨a,b⟩:=or2 hb;obtain⟨b,c⟩:=or2 b;have:=df a;have:=df b;have:=df c;exact⟨by omega,by omega,by omega,by omega⟩
theorem rR{α:Type}{of:α->List UInt8}{chk:α->Int}{xs:List α}(h:FL of chk xs=0):∀x∈xs,chk x=0/\Cg (of x)=true:=by
 refine ZN (g:=F4 of chk) (λj x s=>?_) (λj x s s' hg=>?_) xs 0 [] h
 ·unfold F4
  by_cases h1:E3 (of x) s=0
  ·rw[Ay h1]
   by_cases h2:chk x=0
   ·rw[Ay h2];exact λg=>nomatch g
   ·rw[AF h2];exact TX h2
  ·rw[AF h1];exact TX h1
 ·unfold F4 at hg
  by_cases h1:E3 (of x) s=0
  ·rw[Ay h1]at hg
   by_cases h2:chk x=0
   ·refine⟨h2,?_⟩
    unfold E3 at h1;cases hn:Cg (of x)with
    |true=>rfl
    |false=>rw[hn]at h1;cases h1
   ·rw[AF h2]at hg;cases hg
  ·rw[AF h1]at hg;cases hg
structure LayF (nz np nc:Int) (l:Bz):Prop where
 z:0<=l.2.1/\l.2.1<nz
 d:1<=l.2.2.1.1/\l.2.2.1.1<98981
 s:0<=l.2.2.1.2/\l.2.2.1.2<=86399
 u:0<=l.2.2.2.1/\l.2.2.2.1<=2
 e:1<=l.2.2.2.2.1/\l.2.2.2.2.1<=400
 m:1<=l.2.2.2.2.2.1.length/\l.2.2.2.2.2.1.length<=12
 ms:∀x∈l.2.2.2.2.2.1,0<=x/\x<np
 w:l.2.2.2.2.2.2.1.length<=14/\∀x∈l.2.2.2.2.2.2.1,PWin x
 c:(l.2.2.2.2.2.2.2.2=0/\l.2.2.2.2.2.2.2.1=0)\/((1<=l.2.2.2.2.2.2.2.2/\l.2.2.2.2.2.2.2.2<=2)/\0<=l.2.2.2.2.2.2.2.1/\l.2.2.2.2.2.2.2.1<nc)
theorem AgW{nz np nc:Int}{l:Bz}(h:E4 nz np nc l=0):LayF nz np nc l:=by
 unfold E4 at h;obtain⟨h1,h⟩:=cz h;unfold l2V at h;obtain⟨h2,h⟩:=cz h;obtain⟨h3,h⟩:=cz h;obtain⟨h4,h⟩:=cz h;obtain⟨h5,h⟩:=cz h;obtain⟨h6,h⟩:=cz h;obtain⟨h7,h⟩:=cz h;unfold l1V at h;obtain⟨h8,h⟩:=cz h;obtain⟨a1,a⟩:=or2 h2;obtain⟨a2,a⟩:=or2 a;obtain⟨a3,a⟩:=or2 a;obtain⟨a4,a5⟩:=or2 a;have b1:=df a1;have b2:=rQ (nt a2);have b3:=df h3;have b4:=df h4;have b7:=Mn (nt h7);refine⟨NH (nt h1),by omega,Mn (nt a3),Mn (nt a4),Mn (nt a5),by omega,λx hx=>NH (Ef.1 (nt h5) x hx),AgV (dt (nt h6)),?_⟩;by_cases hm:l.2.2.2.2.2.2.2.2=0
 ·rw[Ay hm]at h
  cases hc:decide (l.2.2.2.2.2.2.2.1=0)with
  |true=>exact .inl ⟨hm,dt hc⟩
  |false=>rw[hc]at h;cases h
 ·rw[AF hm]at h8
  exact .inr ⟨by omega,NH (nt (by simpa using h8))⟩
structure EdF (np:Int) (x:Ed):Prop where
 k:0<=x.1/\x.1<=2
 a:(0<=x.2.1/\x.2.1<np)\/(x.1=1/\x.2.1=-1)
 b:x.1=2->0<=x.2.2.1/\x.2.2.1<np
 b0:x.1≠2->x.2.2.1=0
 ab:x.1=2->x.2.1≠x.2.2.1
 f:0<=x.2.2.2.1
 ft:x.2.2.2.1<x.2.2.2.2
 t:x.2.2.2.2<98981*86400
theorem ed_f{np:Int}{x:Ed}(h:EdOk np x):EdF np x:=by
 obtain⟨h,hb⟩:=h;unfold Hg at h;obtain⟨h1,h⟩:=cz h;unfold e4V at h;obtain⟨h2,h⟩:=cz h;unfold e3V at h;obtain⟨h3,h⟩:=cz h;unfold e2V at h;obtain⟨h4,h⟩:=cz h;unfold e1V at h;obtain⟨h5,h⟩:=cz h;obtain⟨h6,h⟩:=cz h;obtain⟨a1,a2⟩:=or2 h2;obtain⟨c1,c⟩:=or2 h5;obtain⟨c2,c3⟩:=or2 c;have d1:=df c1;have d2:=df c2;have d3:=df h6;have d4:=rQ (nt c3);rw[GW (by omega),i64_in _ (by omega)]at d4;refine⟨Mn (nt h1),?_,λhk=>?_,λhk=>?_,λhk=>?_,by omega,by omega,by omega⟩
 ·cases hi:ixI x.2.1 np with
  |true=>exact .inl (NH hi)
  |false=>
   rw[hi]at a1;have a2:(decide (x.1=1)&&decide (x.2.1=-1))=true:=by simpa using a1
   exact .inr (by simpa using a2)
 ·rw[Ay hk]at a2
  exact NH (by simpa using a2)
 ·rw[AF hk]at h3
  exact dt (by simpa using h3)
 ·rw[Ay hk]at h4
  exact df (by simpa using h4)
structure SchF (nz np nc:Int) (s:B8):Prop where
 l:s.2.1.length<=6
 ls:∀l∈s.2.1,LayF nz np nc l/\Cg l.1=true
 e:s.2.2.length<=48
 es:∀x∈s.2.2,Hg np x=0
theorem AgX{nz np nc:Int}{s:B8}(h:Gn nz np nc s=0):SchF nz np nc s:=by
 unfold Gn at h;obtain⟨h1,h⟩:=cz h;obtain⟨h2,h⟩:=cz h;have b1:=df h1;have b2:=df h2;by_cases hn:FL (·.1) (E4 nz np nc) s.2.1=0
 ·rw[Ay hn]at h
  refine⟨by omega,λl hl=>⟨AgW (rR hn l hl).1,(rR hn l hl).2⟩,by omega,?_⟩;refine ZN (g:=Lh np) (λj x s=>?_) (λj x s s' hg=>?_) _ 0 () h
  ·unfold Lh
   by_cases h2:Hg np x=0
   ·rw[Ay h2];exact λg=>nomatch g
   ·rw[AF h2];exact TX h2
  ·unfold Lh at hg
   by_cases h2:Hg np x=0
   ·exact h2
   ·rw[AF h2]at hg;cases hg
 ·rw[AF hn]at h
  exact absurd h hn
structure PerF (nz:Int) (p:AX):Prop where
 z:0<=p.2.1/\p.2.1<nz
 q:p.2.2.1.length<=14/\∀x∈p.2.2.1,PWin x
 w:(0<=p.2.2.2.1/\p.2.2.2.1<=604800)/\Int.tmod p.2.2.2.1 3600=0
 r:(0<=p.2.2.2.2.1/\p.2.2.2.2.1<=604800)/\Int.tmod p.2.2.2.2.1 3600=0
theorem AgY{n:Int}(h:HR n=true):(0<=n/\n<=604800)/\Int.tmod n 3600=0:=by
 unfold HR at h;cases hi:inI n 0 604800 with
 |true=>rw[hi]at h;exact⟨Mn hi,dt (by simpa using h)⟩
 |false=>rw[hi]at h;cases h
theorem AgZ{nz:Int}{p:AX}(h:H5 nz p=0):PerF nz p:=by unfold H5 at h;obtain⟨h1,h⟩:=cz h;obtain⟨h2,h⟩:=cz h;obtain⟨h3,h⟩:=cz h;obtain⟨h4,h⟩:=cz h;exact⟨NH (nt h1),AgV (dt (nt h2)),AgY (nt h3),AgY (nt h4)⟩
structure CalF (nz:Int) (x:Bu):Prop where
 z:0<=x.2.1/\x.2.1<nz
 l:x.2.2.length<=64
 d:∀d∈x.2.2,0<=d/\d<98981
theorem rS{nz:Int}{x:Bu}(h:calV nz x=0):CalF nz x:=by unfold calV at h;obtain⟨h1,h⟩:=cz h;obtain⟨h2,h⟩:=cz h;obtain⟨h3,h⟩:=cz h;have:=df h2;exact⟨NH (nt h1),by omega,λd hd=>rQ (Ef.1 (nt h3) d hd)⟩
end
end Go.Lift
namespace Go.Lift
open Go.RowKit Go.IntWalk
noncomputable section
set_option maxRecDepth 10000
theorem rT[S:Sl]{β:Type}(k:Int->Option β):S5 k=k 98980:=by rcases S with⟨_|_⟩<;>kernel_rfl
theorem Awt{s:List UInt8}(h:Cg s=true):0<s.length/\s.length<=24/\Ja ((s.getD 0 0).toNat:Int)=true/\∀c∈s,Jz c=true:=by unfold Cg at h;simp only[C5,MK,cH]at h;obtain⟨h1,h2,h3,h4⟩:=h;exact⟨OJ.2 h1,by omega,h3,λc hc=>Ef.1 h4 c hc⟩
variable[Sl]
section
variable{β:Type}
theorem f_in(n lo hi:Int)(k:Bool->Option β):FK n lo hi k=k (inI n lo hi):=by unfold FK;rw[Ad];exact c_kb k _ _
theorem Kq(n lo hi:Int)(k:Bool->Option β):Ix n lo hi k=k (inI n lo hi):=by unfold Ix;rw[Ad];exact c_kb k _ _
theorem Ah0(n:Int)(k:Bool->Option β):Sn n k=k (HR n):=by unfold Sn;rw[Ad];refine(f_in _ _ _ _).trans ?_;exact c_kb k _ _
theorem Awu(b:Int)(k:Bool->Option β):PA b k=k (ND b):=by unfold PA;rw[Ad];exact c_kb k _ _
theorem Ah1{c:UInt8}(hc:Jz c=true)(k:Bool->Option β)(g:Option β)(hn:¬(97<=c.toNat/\c.toNat<=122)):(PA (c.toNat:Int) λrdigit=>cond (!rdigit) (cond (!decide ((c.toNat:Int)=95)) (cond (!decide ((c.toNat:Int)=45)) (k false) g) g) g)=g:=by
 unfold Jz Ja ND inI at hc;simp only[KI,C5,IH]at hc;refine(Awu _ _).trans ?_;unfold ND inI;by_cases g1:48<=c.toNat/\c.toNat<=57
 ·rw[Ay (show(48:Int)<=(c.toNat:Int) by omega),Ay (show(c.toNat:Int)<=57 by omega)]
  rfl
 ·have hb:(decide ((48:Int)<=(c.toNat:Int))&&decide ((c.toNat:Int)<=57))=false:=by
   rw[Bool.and_eq_false_iff];by_cases g2:48<=c.toNat
   ·exact .inr (AF (by omega))
   ·exact .inl (AF (by omega))
  rw[hb];show cond (!decide ((c.toNat:Int)=95)) _ _=_;by_cases g2:(c.toNat:Int)=95
  ·exact BJ g2
  ·refine(Hf g2).trans ?_
   exact BJ (by omega)
theorem Awv{s:List UInt8}(h:Cg s=true)(k:Bool->Option β):X0 s k=k true:=by
 have hl:=Awt h;obtain⟨h1,h2,h3,h4⟩:=hl;unfold X0;rw[Ad]
 have hs:97<=(s.getD 0 0).toNat/\(s.getD 0 0).toNat<=122:=by unfold Ja at h3;have:=Mn h3;omega
 refine(An (by omega)).trans ?_;refine(An (by omega)).trans ?_;refine(AR (by omega)).trans ?_;rw[show Int.toNat (0:Int)=0 from rfl];refine(An (by omega)).trans ?_;refine(AR (by omega)).trans ?_;refine(An (by omega)).trans ?_;unfold kL;rw[Ad];refine(Jy (λm i=>SE m (λt2=>k t2) (λ_=>k true) s i) (λ_=>true) (k false) (k true) 0 s fuel (BI (by omega)) (λm i hi=>?_) (λm=>?_)).trans ?_
 ·have hc:=h4 _ (C1 (d:=(0:UInt8)) hi)
  have fin:∀g:Option β,cond (decide (0<=(i:Int))&&decide ((i:Int)<(s.length:Int))) g none=g:=λg=>AR (by omega);simp only[AcG,Xz,Bw,fin];refine(Ar (by omega)).trans ?_;rw[i64_in ((i:Int)+1) (by omega)];by_cases hl:((s.getD i 0).toNat:Int)<97
  ·refine(Ar hl).trans ?_
   exact Ah1 hc k _ (by omega)
  ·refine(An hl).trans ?_
   by_cases hu:(122:Int)<((s.getD i 0).toNat:Int)
   ·refine(Ar hu).trans ?_
    exact Ah1 hc k _ (by omega)
   ·exact An hu
 ·simp only[AcG,Xz]
  exact An (by omega)
 ·rw[Ef.2 λ_ _=>rfl];rfl
end
end
end Go.Lift
namespace Go.Lift
open Go.RowKit Go.IntWalk
noncomputable section
variable[Sl]
set_option maxRecDepth 10000
section
variable{β:Type}
theorem Ah2(l:List (Int×Int))(k:Int->Option β):Sm l k=k (ED l):=by
 unfold Sm;rw[Ad];unfold ED;by_cases h:(14:Int)<(l.length:Int)
 ·refine(Ar h).trans ?_
  rw[Ay h];rfl
 ·refine(An h).trans ?_
  rw[AF h];unfold iI;rw[Ad];refine(Kk (λm i(_:Unit)=>Sk m (λt2=>k t2) (λ_=>k 0) l i) (Lg l) (λe=>k e) (λ_=>k 0) (0,0) l () fuel (BI (by omega)) (λm i _ hi=>?_) (λm _=>?_)).trans (Km k _)
  ·have fin:∀g:Option β,cond (decide (0<=(i:Int))&&decide ((i:Int)<(l.length:Int))) g none=g:=λg=>AR (by omega)
   simp only[Abe,WY,Bw,fin];refine(Ar (by omega)).trans ?_;rw[i64_in ((i:Int)+1) (by omega)];unfold Lg;by_cases h1:(l.getD i (0,0)).1<0
   ·rw[Ay h1];rfl
   ·rw[AF h1]
    by_cases h2:(l.getD i (0,0)).2<=(l.getD i (0,0)).1
    ·rw[Ay h2];rfl
    ·rw[AF h2]
     by_cases h3:(604800:Int)<(l.getD i (0,0)).2
     ·rw[Ay h3];rfl
     ·rw[AF h3]
      by_cases h4:(0:Int)<(i:Int)
      ·rw[Ay h4,i64_in ((i:Int)-1) (by omega)]
       refine(AR (show 0<=(i:Int)-1/\(i:Int)-1<(l.length:Int) by omega)).trans ?_;rw[show Int.toNat ((i:Int)-1)=i-1 by omega];cases decide ((l.getD i (0,0)).1<(l.getD (i-1) (0,0)).2)<;>rfl
      ·rw[AF h4];rfl
  ·simp only[Abe,WY]
   exact An (by omega)
theorem Aww{z:AG}(hl:z.2.2.length<=1000)(h0:Int.tmod z.2.1 60=0)(hr:∀r∈z.2.2,Int.tmod r.2.2.2.2.2.2 60=0)(k:Bool->Option β):WX z k=k true:=by
 unfold WX;rw[Ad];unfold iG;rw[Ad,Ay h0];refine(Jy (λm i=>Si m (λok2=>k ok2) true i z) (λ_=>true) (k false) (k true) (0,0,0,0,0,0,0) z.2.2 fuel (BI (by omega)) (λm i hi=>?_) (λm=>?_)).trans ?_
 ·have hm:=hr _ (C1 (d:=((0,0,0,0,0,0,0):Cz)) hi)
  simp only[Aba,WW];refine(Ar (by omega)).trans ?_;refine c_t.trans ?_;refine(AR (by omega)).trans ?_;rw[Bw,Ay hm,i64_in ((i:Int)+1) (by omega)];rfl
 ·simp only[Aba,WW]
  exact An (by omega)
 ·rw[Ef.2 λ_ _=>rfl];rfl
theorem TY{l:List (List UInt8)}{s:List UInt8}(hl:l.length<=1000)(h:Cg s=true)(hs:s∉l)(k:Int->Option β):Mj (l++[s]) (l.length:Int) k=k 0:=by
 unfold Mj;rw[Ad];refine(AR (by rw[AE,GY];omega)).trans ?_;have e:(l++[s]).getD l.length []=s:=by simp[List.getD]
 rw[Bw,e];refine(Awv h _).trans ?_;refine c_f.trans ?_;unfold lK;rw[Ad];refine(Jy (λm i=>SQ m (λt4=>k t4) (λ_=>k 0) (l++[s]) (l.length:Int) i) (λ_=>true) (k 4) (k 0) [] l fuel (BI (by omega)) (λm i hi=>?_) (λm=>?_)).trans ?_
 ·have e2:(l++[s]).getD i []=l.getD i []:=by simp[List.getD,hi,GX hi]
  have hm:=C1 (d:=([]:List UInt8)) hi;simp only[Adn,XG];refine(Ar (by omega)).trans ?_;refine(AR (by rw[AE,GY];omega)).trans ?_;refine(AR (by rw[AE,GY];omega)).trans ?_;rw[Bw,Bw,e,e2,i64_in ((i:Int)+1) (by omega)];exact An λg=>hs (by rw[<-g];exact hm)
 ·simp only[Adn,XG]
  exact An (by omega)
 ·rw[Ef.2 λ_ _=>rfl];rfl
end
end
end Go.Lift
namespace Go.Lift
open Go.RowKit Go.IntWalk
noncomputable section
variable[Sl]
set_option maxRecDepth 10000
section
variable{β:Type}
theorem in_t{i:Int}{n:Nat}(h:0<=i/\i<(n:Int))(hn:n<=1000):inI i 0 (IntKind.i64.wrap ((n:Int)-1))=true:=by rw[i64_in _ (by omega)];exact Ds ⟨h.1,by omega⟩
theorem Awx{c:Au}{x:Ed}(hn:c.2.1.length<=1000)(hx:EdF (c.2.1.length:Int) x)(k:Int->Option β):Xv c x k=k 0:=by
 have hk:=hx.k;have hf:=hx.f;have AyY:=hx.ft;have ht:=hx.t
 have p1:PG (λt4=>k t4) (λ_=>k 0) false x=k 0:=by unfold PG;rw[Ad];unfold kD;refine c_f.trans ?_;exact An (by omega)
 have p2:SA (λt4=>k t4) (λ_=>k 0) false x=k 0:=by
  unfold SA;rw[Ad];unfold kE;refine c_f.trans ?_;refine(An (by omega)).trans ?_;refine(An (by omega)).trans ?_;refine(rT _).trans ?_
  have e:decide ((98980:Int)<IntKind.i64.wrap (Int.tdiv x.2.2.2.2 86400))=false:=by rw[GW (by omega),i64_in _ (by omega)];exact AF (by omega)
  rw[e];exact p1
 have p3:SB (λt4=>k t4) (λ_=>k 0) false x=k 0:=by
  unfold SB;rw[Ad];unfold kF;refine c_f.trans ?_;by_cases h:x.1=2
  ·refine(Ar h).trans ?_
   rw[AF (hx.ab h)];exact p2
  ·exact(An h).trans p2
 have p4:Jw (λt4=>k t4) (λ_=>k 0) false x=k 0:=by
  unfold Jw;rw[Ad];unfold kG;refine c_f.trans ?_;by_cases h:x.1=2
  ·exact(BJ h).trans p3
  ·refine(Hf h).trans ?_
   rw[Ay (hx.b0 h)];exact p3
 unfold Xv;rw[Ad];refine(f_in _ _ _ _).trans ?_;rw[Ds hk];refine c_f.trans ?_;refine(f_in _ _ _ _).trans ?_
 have BA:cond (decide (x.1=(2:Int))) (FK x.2.2.1 (0:Int) (IntKind.i64.wrap ((List.length c.2.1:Int)-(1:Int))) (λIG=>Jw (λt4=>k t4) (λ_=>k (0:Int)) (!IG) x)) (Jw (λt4=>k t4) (λ_=>k (0:Int)) false x)=k 0:=by
  by_cases h:x.1=2
  ·refine(Ar h).trans ?_
   refine(f_in _ _ _ _).trans ?_;rw[in_t (hx.b h) hn];exact p4
  ·exact(An h).trans p4
 rcases hx.a with ha|⟨h1,h2⟩
 ·rw[in_t ha hn]
  exact c_f.trans BA
 ·have e:inI x.2.1 0 (IntKind.i64.wrap ((c.2.1.length:Int)-1))=false:=by unfold inI;rw[AF (by omega)];rfl
  rw[e];refine c_t.trans ?_;refine(BJ h1).trans ?_;refine(BJ h2).trans ?_;exact BA
theorem Awy{c:Au}{l:Bz}(hz:c.1.length<=1000)(hp:c.2.1.length<=1000)(hc:c.2.2.1.length<=1000)(hl:LayF (c.1.length:Int) (c.2.1.length:Int) (c.2.2.1.length:Int) l)(hw:ED l.2.2.2.2.2.2.1=0)(k:Int->Option β):Xu c l k=k 0:=by
 have hm:=hl.m;have hd:=hl.d
 have p2:S8 (λt4=>k t4) (λ_=>k 0) false l=k 0:=by
  unfold S8;rw[Ad];unfold kA;refine c_f.trans ?_;by_cases h:l.2.2.2.2.2.2.2.2=0
  ·refine(Ar h).trans ?_
   have Mv:l.2.2.2.2.2.2.2.1=0:=by
    rcases hl.c with g|g
    ·exact g.2
    ·have:=g.1.1;omega
   exact BJ Mv
  ·exact An h
 have p3:Nz (λt4=>k t4) c l=k 0:=by
  unfold Nz;rw[Ad];unfold kB k9;rw[Ad];refine(Jy (λm i=>S7 m (λt4=>k t4) _ i c l) (λ_=>true) (k 3) (k 0) 0 l.2.2.2.2.2.1 fuel (BI (by omega)) (λm i hi=>?_) (λm=>?_)).trans ?_
  ·have hx:=hl.ms _ (C1 (d:=(0:Int)) hi)
   simp only[Ack,Xt];refine(Ar (by omega)).trans ?_;refine(AR (by omega)).trans ?_;refine(f_in _ _ _ _).trans ?_;rw[Bw,in_t hx hp,i64_in ((i:Int)+1) (by omega)];rfl
  ·simp only[Ack,Xt]
   refine(An (by omega)).trans ?_;refine(Ah2 _ _).trans ?_;rw[hw];refine(BJ rfl).trans ?_;refine(f_in _ _ _ _).trans ?_
   have Azl:0<=l.2.2.2.2.2.2.2.2/\l.2.2.2.2.2.2.2.2<=2:=by
    rcases hl.c with g|g
    ·have:=g.1;omega
    ·omega
   rw[Ds Azl];refine c_f.trans ?_;by_cases h:l.2.2.2.2.2.2.2.2=0
   ·exact(BJ h).trans p2
   ·refine(Hf h).trans ?_
    refine(f_in _ _ _ _).trans ?_
    have Mv:0<=l.2.2.2.2.2.2.2.1/\l.2.2.2.2.2.2.2.1<(c.2.2.1.length:Int):=by
     rcases hl.c with g|g
     ·exact absurd g.1 h
     ·exact g.2
    rw[in_t Mv hc];exact p2
  ·rw[Ef.2 λ_ _=>rfl];rfl
 unfold Xu;rw[Ad];refine(f_in _ _ _ _).trans ?_;rw[in_t hl.z hz];refine c_f.trans ?_;refine(rT _).trans ?_;refine(f_in _ _ _ _).trans ?_;rw[Ds (show 1<=l.2.2.1.1/\l.2.2.1.1<=98980 by omega)];refine c_f.trans ?_;refine(f_in _ _ _ _).trans ?_;rw[Ds hl.s];refine c_f.trans ?_;refine(f_in _ _ _ _).trans ?_;rw[Ds hl.u];refine c_f.trans ?_;refine(f_in _ _ _ _).trans ?_;rw[Ds hl.e];unfold PF;rw[Ad];unfold kC;refine c_f.trans ?_;refine(An (by omega)).trans ?_;refine(An (by omega)).trans ?_;exact p3
end
end
end Go.Lift
namespace Go.Lift
open Go.RowKit Go.IntWalk
noncomputable section
variable[Sl]
set_option maxRecDepth 10000
theorem Awz{nz np nc:Int}{l:Bz}(h:E4 nz np nc l=0):ED l.2.2.2.2.2.2.1=0:=by unfold E4 at h;obtain⟨_,h⟩:=cz h;unfold l2V at h;obtain⟨_,h⟩:=cz h;obtain⟨_,h⟩:=cz h;obtain⟨_,h⟩:=cz h;obtain⟨_,h⟩:=cz h;obtain⟨h6,h⟩:=cz h;exact dt (nt h6)
theorem AwA{nz:Int}{p:AX}(h:H5 nz p=0):ED p.2.2.1=0:=by unfold H5 at h;obtain⟨_,h⟩:=cz h;obtain⟨h2,h⟩:=cz h;exact dt (nt h2)
theorem Qe{α γ:Type}(f:α->γ){xs:List α}{i:Nat}(hi:i<xs.length)(d:α):(xs.take i).map f++[f (xs.getD i d)]=(xs.take (i+1)).map f:=by rw[NE d hi,LJ];rfl
theorem TZ{α γ:Type}{f:α->γ}{xs:List α}(h:(xs.map f).Nodup){i:Nat}(hi:i<xs.length)(d:α):f (xs.getD i d)∉(xs.take i).map f:=by
 intro g;have e:(xs.take (i+1)).map f=(xs.take i).map f++[f (xs.getD i d)]:=(Qe f hi d).symm
 have h2:((xs.take (i+1)).map f).Nodup:=by rw[List.map_take];exact h.sublist (List.take_sublist _ _)
 rw[e,VD]at h2;exact h2.2.2 _ g _ (E9.2 rfl) rfl
section
variable{β:Type}
theorem AwB{c:Au}(hz:c.1.length<=1000)(hp:c.2.1.length<=1000)(hv:∀p∈c.2.1,H5 (c.1.length:Int) p=0/\Cg p.1=true)(hn:(c.2.1.map (·.1)).Nodup)(UF:J0∉c.2.1.map (·.1))(k:Int->Option β):XW c k=k 0:=by
 unfold XW;rw[Ad];unfold mF;rw[Ad]
 have key:∀(j i m:Nat),i+j=c.2.1.length->j<m->SZ m (λt2=>k t2) (λ_=>k 0) (i:Int) c ((c.2.1.take i).map (·.1))=k 0:=by
  intro j
  induction j with
  |zero=>intro i m hi hm;obtain⟨m,rfl⟩:∃m',m=m'+1:=⟨m-1,by omega⟩;simp only[AdI,XV];exact An (by omega)
  |succ j ih=>
   intro i m hi hm;obtain⟨m,rfl⟩:∃m',m=m'+1:=⟨m-1,by omega⟩;have Ao:i<c.2.1.length:=by omega
   have CX:=C1 (d:=(([],0,[],0,0,false):AX)) Ao;have h1:=hv _ CX;have h2:=AgZ h1.1;have Gu:((c.2.1.take i).map (·.1)).length=i:=by rw[FJ,FR];omega
   have JC:=TZ hn Ao (([],0,[],0,0,false):AX);have L4:=Qe (λx:AX=>x.1) Ao (([],0,[],0,0,false):AX);have Azp:(c.2.1.getD i ([],0,[],0,0,false)).1≠J0:=λg=>UF (by rw[<-g];exact cK CX);simp only[AdI,XV];refine(Ar (by omega)).trans ?_;refine(AR (by omega)).trans ?_;rw[Bw];refine(DV (show(((c.2.1.take i).map (·.1)).length+1)*16<=_ by omega)).trans ?_;refine(An Azp).trans ?_;have E7:=TY (l:=(c.2.1.take i).map (·.1)) (by omega) h1.2 JC (β:=β);rw[Gu]at E7;refine(E7 _).trans ?_;refine(BJ rfl).trans ?_;refine(f_in _ _ _ _).trans ?_;rw[in_t h2.z hz];refine c_f.trans ?_;refine(Ah2 _ _).trans ?_;rw[AwA h1.1];refine(BJ rfl).trans ?_;refine(Ah0 _ _).trans ?_
   have hw:HR (c.2.1.getD i ([],0,[],0,0,false)).2.2.2.1=true:=by unfold HR;rw[Ds h2.w.1,Ay h2.w.2];rfl
   have hr:HR (c.2.1.getD i ([],0,[],0,0,false)).2.2.2.2.1=true:=by unfold HR;rw[Ds h2.r.1,Ay h2.r.2];rfl
   rw[hw];refine c_f.trans ?_;refine(Ah0 _ _).trans ?_;rw[hr];refine c_f.trans ?_;rw[i64_in ((i:Int)+1) (by omega),show(i:Int)+1=((i+1:Nat):Int) by omega,L4];exact ih (i+1) m (by omega) (by omega)
 exact key c.2.1.length 0 fuel (by omega) (BI (by omega))
end
end
end Go.Lift
namespace Go.Lift
open Go.RowKit Go.IntWalk
noncomputable section
variable[Sl]
set_option maxRecDepth 10000
section
variable{β:Type}
abbrev lay0:Bz:=([],0,(0,0),0,0,[],[],0,0)
theorem AwC{k1:mP β}{k2:mQ β}{i_:Int}{c:Au}{l:List (List UInt8)}{s:B8}(hz:c.1.length<=1000)(hp:c.2.1.length<=1000)(hc:c.2.2.1.length<=1000)(hs:s.2.1.length<=100)(hv:∀y∈s.2.1,E4 (c.1.length:Int) (c.2.1.length:Int) (c.2.2.1.length:Int) y=0/\Cg y.1=true)(hn:(s.2.1.map (·.1)).Nodup):Yi k1 k2 i_ 0 c l s []=k2 i_ c l s:=by
 unfold Yi;rw[Ad]
 have key:∀(j i m:Nat),i+j=s.2.1.length->j<m->Td m k1 k2 i_ (i:Int) c l s ((s.2.1.take i).map (·.1))=k2 i_ c l s:=by
  intro j
  induction j with
  |zero=>intro i m hi hm;obtain⟨m,rfl⟩:∃m',m=m'+1:=⟨m-1,by omega⟩;simp only[AdU,Yh];exact An (by omega)
  |succ j ih=>
   intro i m hi hm;obtain⟨m,rfl⟩:∃m',m=m'+1:=⟨m-1,by omega⟩;have Ao:i<s.2.1.length:=by omega
   have h1:=hv _ (C1 (d:=lay0) Ao);have Gu:((s.2.1.take i).map (·.1)).length=i:=by rw[FJ,FR];omega
   have JC:=TZ hn Ao lay0;have L4:=Qe (λx:Bz=>x.1) Ao lay0;simp only[AdU,Yh];refine(Ar (by omega)).trans ?_;refine(AR (by omega)).trans ?_;rw[Bw];refine(DV (show(((s.2.1.take i).map (·.1)).length+1)*16<=_ by omega)).trans ?_;have E7:=TY (l:=(s.2.1.take i).map (·.1)) (by omega) h1.2 JC (β:=β);rw[Gu]at E7;refine(E7 _).trans ?_;refine(BJ rfl).trans ?_;refine(AR (by omega)).trans ?_;refine(Awy hz hp hc (AgW h1.1) (Awz h1.1) _).trans ?_;refine(BJ rfl).trans ?_;rw[i64_in ((i:Int)+1) (by omega),show(i:Int)+1=((i+1:Nat):Int) by omega,L4];exact ih (i+1) m (by omega) (by omega)
 exact key s.2.1.length 0 fuel (by omega) (BI (by omega))
theorem AwD{k1:mS β}{k2:mT β}{i_:Int}{c:Au}{l:List (List UInt8)}{s:B8}(hp:c.2.1.length<=1000)(hs:s.2.2.length<=100)(hv:∀x∈s.2.2,EdF (c.2.1.length:Int) x):Yk k1 k2 i_ 0 c l s=k2 i_ c l:=by
 unfold Yk;rw[Ad];refine(Jy (λm i=>Te m k1 k2 i_ i c l s) (λ_=>true) (k2 i_ c l) (k2 i_ c l) (0,0,0,0,0) s.2.2 fuel (BI (by omega)) (λm i hi=>?_) (λm=>?_)).trans ?_
 ·simp only[AdV,Yj]
  refine(Ar (by omega)).trans ?_;refine(AR (by omega)).trans ?_;rw[Bw];refine(Awx hp (hv _ (C1 hi)) _).trans ?_;refine(BJ rfl).trans ?_;rw[i64_in ((i:Int)+1) (by omega)];rfl
 ·simp only[AdV,Yj]
  exact An (by omega)
 ·rw[Ef.2 λ_ _=>rfl];rfl
structure SchR (nz np nc:Int) (s:B8):Prop where
 l:s.2.1.length<=6
 e:s.2.2.length<=48
 ls:∀y∈s.2.1,E4 nz np nc y=0/\Cg y.1=true
 es:∀x∈s.2.2,EdF np x
 n:Cg s.1=true
 nd:(s.2.1.map (·.1)).Nodup
theorem AwE{c:Au}(hz:c.1.length<=1000)(hp:c.2.1.length<=1000)(hc:c.2.2.1.length<=1000)(hs:c.2.2.2.length<=1000)(hv:∀s∈c.2.2.2,SchR (c.1.length:Int) (c.2.1.length:Int) (c.2.2.1.length:Int) s)(hn:(c.2.2.2.map (·.1)).Nodup)(k:Int->Option β):Ym c k=k 0:=by
 unfold Ym;rw[Ad];unfold mV;rw[Ad]
 have key:∀(j i m:Nat),i+j=c.2.2.2.length->j<m->Tf m (λt2=>k t2) (λ_=>k 0) (i:Int) c ((c.2.2.2.take i).map (·.1))=k 0:=by
  intro j
  induction j with
  |zero=>intro i m hi hm;obtain⟨m,rfl⟩:∃m',m=m'+1:=⟨m-1,by omega⟩;simp only[AdW,Yl];exact An (by omega)
  |succ j ih=>
   intro i m hi hm;obtain⟨m,rfl⟩:∃m',m=m'+1:=⟨m-1,by omega⟩;have Ao:i<c.2.2.2.length:=by omega
   have h1:=hv _ (C1 (d:=(([],[],[]):B8)) Ao);have g1:=h1.l;have g2:=h1.e;have Gu:((c.2.2.2.take i).map (·.1)).length=i:=by rw[FJ,FR];omega
   have JC:=TZ hn Ao (([],[],[]):B8);have L4:=Qe (λx:B8=>x.1) Ao (([],[],[]):B8);simp only[AdW,Yl];refine(Ar (by omega)).trans ?_;refine(AR (by omega)).trans ?_;rw[Bw];refine(DV (show(((c.2.2.2.take i).map (·.1)).length+1)*16<=_ by omega)).trans ?_;have E7:=TY (l:=(c.2.2.2.take i).map (·.1)) (by omega) h1.n JC (β:=β);rw[Gu]at E7;refine(E7 _).trans ?_;refine(BJ rfl).trans ?_;refine(An (by omega)).trans ?_;refine(An (by omega)).trans ?_;refine(AwC hz hp hc (by omega) h1.ls h1.nd).trans ?_;refine(AwD hp (by omega) h1.es).trans ?_;rw[i64_in ((i:Int)+1) (by omega),show(i:Int)+1=((i+1:Nat):Int) by omega,L4];exact ih (i+1) m (by omega) (by omega)
 exact key c.2.2.2.length 0 fuel (by omega) (BI (by omega))
end
end
end Go.Lift
namespace Go.Lift
open Go.RowKit Go.IntWalk
noncomputable section
variable[Sl]
set_option maxRecDepth 10000
theorem AwF{l:List Int}(h:errV (walk (ascG l) l 0 ())=0):∀i,0<i->i<l.length->l.getD (i-1) 0<l.getD i 0:=by
 have key:∀(r:List Int)(j:Nat),l.drop j=r->errV (walk (ascG l) r j ())=0->∀i,j<=i->0<i->i<l.length->l.getD (i-1) 0<l.getD i 0:=by
  intro r
  induction r with
  |nil=>intro j hd _ i h1 h2 h3;have:=At List.length hd;rw[Il,CJ]at this;omega
  |cons x r ih=>
   intro j hd hw i h1 h2 h3
   have hj:j<l.length:=by have:=At List.length hd;rw[Il,Ba]at this;omega
   have hx:l.getD j 0=x:=by have:=At (λy=>y.getD 0 0) hd;simpa [List.getD,hj]using this
   have Cs:l.drop (j+1)=r:=by rw[<-VK,hd];rfl
   unfold walk at hw;by_cases hc:(0:Int)<(j:Int)/\x<=l.getD (j-1) 0
   ·have e:ascG l j x ()=.inl 6:=by unfold ascG;rw[Ay hc.1,Ay hc.2];rfl
    rw[e]at hw;cases hw
   ·have e:ascG l j x ()=.inr ():=by
     unfold ascG
     rw[show(decide (0<(j:Int))&&decide (x<=l.getD (j-1) 0))=false by
      rw[Bool.and_eq_false_iff];by_cases g:(0:Int)<(j:Int)
      ·exact .inr (AF λg2=>hc ⟨g,g2⟩)
      ·exact .inl (AF g)]
     rfl
    rw[e]at hw;by_cases Db:i=j
    ·subst Db
     rw[hx];have:=λg2=>hc ⟨by omega,g2⟩;omega
    ·exact ih (j+1) Cs hw i (by omega) h2 h3
 intro i h1 h2;exact key l 0 rfl h i (by omega) h1 h2
theorem AwG{nz:Int}{x:Bu}(h:calV nz x=0):∀i,0<i->i<x.2.2.length->x.2.2.getD (i-1) 0<x.2.2.getD i 0:=by unfold calV at h;obtain⟨_,h⟩:=cz h;obtain⟨_,h⟩:=cz h;obtain⟨_,h⟩:=cz h;exact AwF h
section
variable{β:Type}
theorem AwH{k1:mH β}{k2:mI β}{i_:Int}{c:Au}{l:List (List UInt8)}{x:Bu}(hl:x.2.2.length<=100)(hd:∀d∈x.2.2,0<=d/\d<98981):Ya k1 k2 i_ 0 c l x=k2 i_ c l x:=by
 unfold Ya;rw[Ad];refine(Jy (λm i=>Ta m k1 k2 i_ i c l x) (λ_=>true) (k2 i_ c l x) (k2 i_ c l x) 0 x.2.2 fuel (BI (by omega)) (λm i hi=>?_) (λm=>?_)).trans ?_
 ·have h1:=hd _ (C1 (d:=(0:Int)) hi)
  simp only[AdN,XZ];refine(Ar (by omega)).trans ?_;refine(AR (by omega)).trans ?_;rw[Bw];refine(rT _).trans ?_;refine(f_in _ _ _ _).trans ?_;rw[Ds (show 0<=x.2.2.getD i 0/\x.2.2.getD i 0<=98980 by omega),i64_in ((i:Int)+1) (by omega)];rfl
 ·simp only[AdN,XZ]
  exact An (by omega)
 ·rw[Ef.2 λ_ _=>rfl];rfl
theorem AwI{k1:mK β}{k2:mL β}{i_:Int}{c:Au}{l:List (List UInt8)}{x:Bu}(hl:x.2.2.length<=100)(hd:∀i,0<i->i<x.2.2.length->x.2.2.getD (i-1) 0<x.2.2.getD i 0):Yc k1 k2 i_ 1 c l x=k2 i_ c l:=by
 unfold Yc;rw[Ad]
 have key:∀(j i m:Nat),0<i->x.2.2.length<=i+j->j<m->Tb m k1 k2 i_ (i:Int) c l x=k2 i_ c l:=by
  intro j
  induction j with
  |zero=>intro i m h0 hi hm;obtain⟨m,rfl⟩:∃m',m=m'+1:=⟨m-1,by omega⟩;simp only[AdO,Yb];exact An (by omega)
  |succ j ih=>
   intro i m h0 hi hm;obtain⟨m,rfl⟩:∃m',m=m'+1:=⟨m-1,by omega⟩;simp only[AdO,Yb];by_cases Ao:i<x.2.2.length
   ·have h1:=hd i h0 Ao
    refine(Ar (by omega)).trans ?_;refine(AR (by omega)).trans ?_;rw[i64_in ((i:Int)-1) (by omega)];refine(AR (show 0<=(i:Int)-1/\(i:Int)-1<(x.2.2.length:Int) by omega)).trans ?_;rw[Bw,show Int.toNat ((i:Int)-1)=i-1 by omega];refine(An (by omega)).trans ?_;rw[i64_in ((i:Int)+1) (by omega),show(i:Int)+1=((i+1:Nat):Int) by omega];exact ih (i+1) m (by omega) (by omega) (by omega)
   ·exact An (by omega)
 exact key x.2.2.length 1 fuel (by omega) (by omega) (BI (by omega))
theorem AwJ{c:Au}(hz:c.1.length<=1000)(hc:c.2.2.1.length<=1000)(hv:∀x∈c.2.2.1,calV (c.1.length:Int) x=0/\Cg x.1=true)(hn:(c.2.2.1.map (·.1)).Nodup)(k:Int->Option β):Ye c k=k 0:=by
 unfold Ye;rw[Ad];unfold mN;rw[Ad]
 have key:∀(j i m:Nat),i+j=c.2.2.1.length->j<m->Tc m (λt2=>k t2) (λ_=>k 0) (i:Int) c ((c.2.2.1.take i).map (·.1))=k 0:=by
  intro j
  induction j with
  |zero=>intro i m hi hm;obtain⟨m,rfl⟩:∃m',m=m'+1:=⟨m-1,by omega⟩;simp only[AdP,Yd];exact An (by omega)
  |succ j ih=>
   intro i m hi hm;obtain⟨m,rfl⟩:∃m',m=m'+1:=⟨m-1,by omega⟩;have Ao:i<c.2.2.1.length:=by omega
   have h1:=hv _ (C1 (d:=(([],0,[]):Bu)) Ao);have h2:=rS h1.1;have h3:=h2.l;have Gu:((c.2.2.1.take i).map (·.1)).length=i:=by rw[FJ,FR];omega
   have JC:=TZ hn Ao (([],0,[]):Bu);have L4:=Qe (λx:Bu=>x.1) Ao (([],0,[]):Bu);simp only[AdP,Yd];refine(Ar (by omega)).trans ?_;refine(AR (by omega)).trans ?_;rw[Bw];refine(DV (show(((c.2.2.1.take i).map (·.1)).length+1)*16<=_ by omega)).trans ?_;have E7:=TY (l:=(c.2.2.1.take i).map (·.1)) (by omega) h1.2 JC (β:=β);rw[Gu]at E7;refine(E7 _).trans ?_;refine(BJ rfl).trans ?_;refine(f_in _ _ _ _).trans ?_;rw[in_t h2.z hz];refine c_f.trans ?_;refine(An (by omega)).trans ?_;refine(AwH (by omega) h2.d).trans ?_;refine(AwI (by omega) (AwG h1.1)).trans ?_;rw[i64_in ((i:Int)+1) (by omega),show(i:Int)+1=((i+1:Nat):Int) by omega,L4];exact ih (i+1) m (by omega) (by omega)
 exact key c.2.2.1.length 0 fuel (by omega) (BI (by omega))
end
end
end Go.Lift
namespace Go.Lift
open Go.RowKit Go.IntWalk
noncomputable section
variable[Sl]
set_option maxRecDepth 10000
section
variable{β:Type}
theorem AwK{r:Cz}(h:RuleOk r)(k:Bool->Option β):Xb r k=k true:=by have hf:=h.f;have ht:=h.t;have hd:=h.d;unfold Xb;rw[Ad];refine(Kq _ _ _ _).trans ?_;rw[Ds hf];refine c_t.trans ?_;refine(Kq _ _ _ _).trans ?_;rw[Ds ht];refine c_t.trans ?_;refine(Kq _ _ _ _).trans ?_;rw[Ds h.m];refine c_t.trans ?_;refine(Kq _ _ _ _).trans ?_;rw[Ds h.w];refine c_t.trans ?_;refine(Kq _ _ _ _).trans ?_;rw[Ds hd];refine c_t.trans ?_;refine(Kq _ _ _ _).trans ?_;rw[Ds h.s];refine c_t.trans ?_;refine(Kq _ _ _ _).trans ?_;rw[Ds h.o]
theorem AwL{z:AG}(h:ZoneOk z){k1:oD β}{k2:oE β}:YB k1 k2 z.2.1 0 [] (occS z)=sumK (λe=>k1 e []) (λs=>k2 s.2) (Hh z):=by
 have Bb:(occS z).length<=12:=by rw[(TR h).1.length_eq];exact h.n
 unfold YB;rw[Ad]
 refine r8 TrI (λm i(s:TrS)=>Tw m k1 k2 s.1 i s.2 (occS z)) GD (λe=>k1 e []) (λs=>k2 s.2) (0,0) (occS z)
  (λi s s' hi hs hg=>?_) (λm i s hi hs=>?_) (λm s=>?_) (occS z) 0 fuel (z.2.1,[]) rfl (by simp) (BI (by omega)) ⟨h.o,AC _,λx hx=>absurd hx EX⟩
 ·have ho:=ZB h (C1 (d:=((0,0):Int×Int)) hi)
  obtain⟨h1,h2,h3⟩:=hs;generalize(occS z).getD i (0,0)=o at ho hg;unfold GD at hg;by_cases e:o.2=s.1
  ·rw[Ay e]at hg
   injection hg with hg;subst hg;exact⟨h1,by omega,h3⟩
  ·rw[AF e]at hg
   cases hc:(decide (86400<=o.2-s.1)||(decide (o.2-s.1≤-86400)||((!inI (o.1-s.1) 0 8589934592)||(decide (0<(s.2.length:Int))&&decide (o.1-s.1<(s.2.getD (s.2.length-1) (0,0)).1+604800)))))with
   |true=>rw[hc]at hg;cases hg
   |false=>
    rw[hc]at hg;injection hg with hg;subst hg;simp only[MI,Bool.not_eq_false']at hc;have C9:=hc.2.2.1;unfold inI at C9;rw[C5,IH,IH]at C9;refine⟨ho.2,by simp;omega,λx hx=>?_⟩;rcases Ci.1 hx with hx|hx
    ·exact h3 x hx
    ·rw[E9.1 hx]
     exact C9
 ·have ho:=ZB h (C1 (d:=((0,0):Int×Int)) hi)
  obtain⟨h1,h2,h3⟩:=hs;have fin:∀g:Option β,cond (decide (0<=(i:Int))&&decide ((i:Int)<((occS z).length:Int))) g none=g:=λg=>AR (by omega);simp only[AeI,YA,Bw,fin];refine(Ar (by omega)).trans ?_;unfold GD;rw[i64_in ((i:Int)+1) (by omega)];by_cases e:((occS z).getD i (0,0)).2=s.1
  ·refine(Ar e).trans ?_
   rw[Ay e];rfl
  refine(An e).trans ?_;rw[AF e];have e1:=i64_in (((occS z).getD i (0,0)).2-s.1) (by omega);have e2:=i64_in (((occS z).getD i (0,0)).1-s.1) (by omega);simp only[e1,e2];refine(Kq _ _ _ _).trans ?_;by_cases a1:86400<=((occS z).getD i (0,0)).2-s.1
  ·rw[Ay a1]
   have:inI (((occS z).getD i (0,0)).2-s.1) (-86399) 86399=false:=by unfold inI;rw[AF (show ¬((occS z).getD i (0,0)).2-s.1<=86399 by omega),Bool.and_false]
   rw[this];rfl
  rw[AF a1];by_cases a2:((occS z).getD i (0,0)).2-s.1≤-86400
  ·rw[Ay a2]
   have:inI (((occS z).getD i (0,0)).2-s.1) (-86399) 86399=false:=by unfold inI;rw[AF (show ¬(-86399<=((occS z).getD i (0,0)).2-s.1) by omega)];rfl
   rw[this];rfl
  rw[AF a2,Ds (show-86399<=((occS z).getD i (0,0)).2-s.1/\((occS z).getD i (0,0)).2-s.1<=86399 by omega)];refine c_f.trans ?_;refine(Kq _ _ _ _).trans ?_;cases C9:inI (((occS z).getD i (0,0)).1-s.1) 0 8589934592 with
  |false=>rfl
  |true=>
   refine c_f.trans ?_;have hb:=Mn C9;by_cases a3:(0:Int)<(s.2.length:Int)
   ·refine(Ar a3).trans ?_
    rw[i64_in ((s.2.length:Int)-1) (by omega)];refine(AR (by omega)).trans ?_;rw[show Int.toNat ((s.2.length:Int)-1)=s.2.length-1 by omega];have h4:=h3 _ (C1 (d:=((0,0):Int×Int)) (show s.2.length-1<s.2.length by omega));rw[i64_in _ (by omega),Ay a3];by_cases a4:((occS z).getD i (0,0)).1-s.1<(s.2.getD (s.2.length-1) (0,0)).1+604800
    ·refine(Ar (by omega)).trans ?_
     rw[Ay a4];rfl
    ·refine(An (by omega)).trans ?_
     rw[AF a4];exact DV (show(s.2.length+1)*16<=_ by omega)
   ·refine(An a3).trans ?_
    rw[AF a3];exact DV (show(s.2.length+1)*16<=_ by omega)
 ·simp only[AeI,YA]
  exact An (by omega)
end
end
end Go.Lift
namespace Go.Lift
open Go.RowKit Go.IntWalk
noncomputable section
variable[Sl]
set_option maxRecDepth 10000
section
variable{β:Type}
theorem AwM{y:Int}(hy:0<=y)(k:Bool->Option β):Su y k=k (decide (AN y)):=by
 have e1:Int.tmod y 4=y%4:=FH hy;have e2:Int.tmod y 100=y%100:=FH hy;have e3:Int.tmod y 400=y%400:=FH hy;unfold Su;rw[Ad];rw[e1,e2,e3];by_cases h1:y%4=0
 ·refine(Ar h1).trans ?_
  by_cases h2:y%100=0
  ·refine(BJ h2).trans ?_
   exact k_eq (decide_eq_decide.2 ⟨λh=>⟨h1,.inr h⟩,λh=>by rcases h.2 with h|h;exact absurd h2 h;exact h⟩)
  ·refine(Hf h2).trans ?_
   exact k_eq (Ay (p:=AN y) ⟨h1,.inl h2⟩).symm
 ·refine(An h1).trans ?_
  exact k_eq (AF (p:=AN y) λh=>h1 h.1).symm
end
theorem AwN[S:Sl]{β:Type}(y:Int)(k:Int->Option β):GB y 2 k=Su y λr=>cond r (k 29) (k 28):=by rcases S with⟨_|_⟩<;>kernel_rfl
theorem AwO[S:Sl]{β:Type}(y:Int)(k:Int->Option β):GB y 1 k=k 31/\GB y 3 k=k 31/\GB y 4 k=k 30/\GB y 5 k=k 31/\GB y 6 k=k 30/\GB y 7 k=k 31/\GB y 8 k=k 31/\GB y 9 k=k 30/\GB y 10 k=k 31/\GB y 11 k=k 30/\GB y 12 k=k 31:=by rcases S with⟨_|_⟩<;>refine⟨?_,?_,?_,?_,?_,?_,?_,?_,?_,?_,?_⟩<;>kernel_rfl
section
variable{β:Type}
theorem ZO{y m:Int}(hy:0<=y)(hm:1<=m/\m<=12)(k:Int->Option β):GB y m k=k (BO (AN y) m):=by
 obtain⟨d1,d3,d4,d5,d6,d7,d8,d9,d10,d11,d12⟩:=AwO y k;have hm:m=1\/m=2\/m=3\/m=4\/m=5\/m=6\/m=7\/m=8\/m=9\/m=10\/m=11\/m=12:=by omega
 rcases hm with rfl|rfl|rfl|rfl|rfl|rfl|rfl|rfl|rfl|rfl|rfl|rfl
 ·exact d1
 ·refine(AwN y k).trans ((AwM hy _).trans ?_)
  by_cases h:AN y
  ·rw[Ay h]
   refine k_eq (x:=(29:Int)) (y:=BO (AN y) 2) ?_;unfold BO;simp[h]
  ·rw[AF h]
   refine k_eq (x:=(28:Int)) (y:=BO (AN y) 2) ?_;unfold BO;simp[h]
 ·exact d3
 ·exact d4
 ·exact d5
 ·exact d6
 ·exact d7
 ·exact d8
 ·exact d9
 ·exact d10
 ·exact d11
 ·exact d12
theorem AwP{y:Int}(hy:1970<=y/\y<=2241)(k:Int->Option β):Sq y k=k (cntN y):=by
 unfold Sq;rw[Ad];simp only
 rw[i64_in (y-1970) (by omega),i64_in ((y-1970)*365) (by omega),i64_in (y-1969) (by omega),i64_in (y-1901) (by omega),i64_in (y-1601) (by omega),
  GW (by omega:0<=y-1969),GW (by omega:0<=y-1901),GW (by omega:0<=y-1601)]
 rw[i64_in ((y-1969) / 4) (by omega),i64_in ((y-1901) / 100) (by omega),i64_in ((y-1601) / 400) (by omega)];rw[i64_in ((y-1970)*365+(y-1969) / 4) (by omega),i64_in ((y-1970)*365+(y-1969) / 4-(y-1901) / 100) (by omega),i64_in _ (by omega)];exact k_eq (by unfold cntN;omega)
theorem AwQ{y:Int}(hy:0<=y)(M d3:Int):∀(j f n:Nat)(s:Int),(n:Int)+1+j=M->M<=12->j<f->0<=s+1000->s+31*(j:Int)<=1000000->∀{β:Type}(k1:lT β),SV f k1 s ((n:Int)+1) (y,(M,d3))=k1 (s+(sumM (AN y) (n+j)-sumM (AN y) n)) (y,(M,d3)):=by
 intro j
 induction j with
 |zero=>intro f n s hn hM hf h0 h1 β k1;obtain⟨f,rfl⟩:∃f',f=f'+1:=⟨f-1,by omega⟩;simp only[Ady,XN];refine(An (by omega)).trans ?_;rw[show s+(sumM (AN y) (n+0)-sumM (AN y) n)=s by simp]
 |succ j ih=>intro f n s hn hM hf h0 h1 β k1;obtain⟨f,rfl⟩:∃f',f=f'+1:=⟨f-1,by omega⟩;have hd:=TN (AN y) ((n:Int)+1);simp only[Ady,XN];refine(Ar (by omega)).trans ?_;refine(ZO hy (by omega) _).trans ?_;rw[i64_in (s+BO (AN y) ((n:Int)+1)) (by omega),i64_in ((n:Int)+1+1) (by omega)];have:=ih f (n+1) (s+BO (AN y) ((n:Int)+1)) (by omega) hM (by omega) (by omega) (by omega) k1;rw[show((n+1:Nat):Int)=(n:Int)+1 by omega]at this;refine this.trans ?_;have hs:sumM (AN y) (n+1)=sumM (AN y) n+BO (AN y) ((n:Int)+1):=rfl;rw[show n+1+j=n+(j+1) by omega,show s+BO (AN y) ((n:Int)+1)+(sumM (AN y) (n+(j+1))-sumM (AN y) (n+1))=s+(sumM (AN y) (n+(j+1))-sumM (AN y) n) by omega]
theorem AwR{y m:Int}(hy:1970<=y/\y<=2240)(hm:1<=m/\m<=12)(k:Int->Int->Option β):XO (y,(m,1)) k=k (BS y m) 0:=by
 have hl:=TQ (AN y) hm;have hb:=NC (AN y) (m-1).toNat;have M8:sumM (AN y) 0=0:=rfl;have h0:0<=cntN y/\cntN y<=99000:=by unfold cntN;omega
 unfold XO;rw[Ad];unfold lC;rw[Ad];refine(Ar hy.1).trans ?_;refine(Ar hy.2).trans ?_;refine(Ar hm.1).trans ?_;refine(Ar hm.2).trans ?_;refine(Ar (by show(1:Int)<=1;omega)).trans ?_;refine(ZO (by show 0<=y;omega) hm _).trans ?_;refine(BJ (show(1:Int)<=BO (AN y) m by omega)).trans ?_;refine(AwP (by omega) _).trans ?_;unfold lV;rw[Ad];refine(AwQ (y:=y) (by omega) m 1 (m-1).toNat fuel 0 (cntN y) (by omega) (by omega) (BI (by omega)) (by omega) (by omega) _).trans ?_;simp only;rw[DL,M8,i64_in (cntN y+(sumM (AN y) (m-1).toNat-0)+1) (by omega),i64_in (cntN y+(sumM (AN y) (m-1).toNat-0)+1-1) (by omega)];refine At (λa=>k a 0) ?_;unfold BS;omega
theorem Ah3{d:Int}(hd:0<=d/\d<=1000000)(k:Int->Option β):Xf d k=k ((d+3)%7):=by unfold Xf;rw[Ad];have e1:Int.tmod d 7=d%7:=FH hd.1;simp only;rw[e1,i64_in (d%7+10) (by omega),FH (by omega:0<=d%7+10)];exact k_eq (by omega)
theorem AwS{y m w wd N:Int}(hN:0<=N/\N<=200000)(hd:0<=wd/\wd<=6){k1:nI β}:∀(j f:Nat)(day:Int),day+(j:Int)=N+(wd-(N+3)%7+7)%7->N<=day->j<f->Tn f k1 y m w wd N day=k1 y m w N (N+(wd-(N+3)%7+7)%7):=by
 intro j
 induction j with
 |zero=>intro f day h1 h2 hf;obtain⟨f,rfl⟩:∃f',f=f'+1:=⟨f-1,by omega⟩;simp only[Aei,Yv];refine(Ah3 (by omega) _).trans ?_;refine(BJ (by omega)).trans ?_;rw[show day=N+(wd-(N+3)%7+7)%7 by omega]
 |succ j ih=>intro f day h1 h2 hf;obtain⟨f,rfl⟩:∃f',f=f'+1:=⟨f-1,by omega⟩;simp only[Aei,Yv];refine(Ah3 (by omega) _).trans ?_;refine(Hf (by omega)).trans ?_;rw[i64_in (day+1) (by omega)];exact ih f (day+1) (by omega) (by omega) (by omega)
theorem Ah4{y m N:Int}(hy:0<=y)(hm:1<=m/\m<=12)(hN:0<=N/\N<=200000){k1:nK β}{e:Int}(he:e<N+BO (AN y) m/\N+BO (AN y) m<=e+7):∀(j f:Nat)(day:Int),day+7*(j:Int)=e->N<=day->j<f->To f k1 y m N day=k1 e:=by
 have hl:=TQ (AN y) hm;intro j
 induction j with
 |zero=>intro f day h1 h2 hf;obtain⟨f,rfl⟩:∃f',f=f'+1:=⟨f-1,by omega⟩;simp only[Aej,Yw];refine(ZO hy hm _).trans ?_;rw[i64_in (day+7) (by omega),i64_in (N+BO (AN y) m) (by omega)];refine(An (by omega)).trans ?_;rw[show day=e by omega]
 |succ j ih=>intro f day h1 h2 hf;obtain⟨f,rfl⟩:∃f',f=f'+1:=⟨f-1,by omega⟩;simp only[Aej,Yw];refine(ZO hy hm _).trans ?_;rw[i64_in (day+7) (by omega),i64_in (N+BO (AN y) m) (by omega)];refine(Ar (by omega)).trans ?_;exact ih f (day+7) (by omega) (by omega) (by omega)
theorem AwT{y m w wd:Int}(hy:1970<=y/\y<=2240)(hm:1<=m/\m<=12)(hw:1<=w/\w<=5)(hd:0<=wd/\wd<=6)(k:Int->Int->Option β):Yx y m w wd k=k (nthD y m w wd) 0:=by
 have hl:=TQ (AN y) hm;have hn:=Agx hy hm;unfold Yx;rw[Ad];refine(AwR hy hm _).trans ?_;refine(BJ rfl).trans ?_;refine(An (by omega)).trans ?_;refine(An (by omega)).trans ?_;refine(An (by omega)).trans ?_;refine(An (by omega)).trans ?_;generalize hN:BS y m=N at hn;unfold nM;rw[Ad];have hx:0<=(wd-(N+3)%7+7)%7/\(wd-(N+3)%7+7)%7<=6:=by omega
 refine(AwS hn hd ((wd-(N+3)%7+7)%7).toNat fuel N (by omega) (by omega) (BI (by omega))).trans ?_;unfold nthD;simp only;rw[hN];generalize(wd-(N+3)%7+7)%7=o at hx;by_cases h5:w<5
 ·refine(Ar h5).trans ?_
  rw[i64_in (w-1) (by omega),i64_in (7*(w-1)) (by omega),i64_in _ (by omega),if_neg (by omega)]
 ·refine(An h5).trans ?_
  have AA8:w=5:=by omega
  subst AA8;unfold nN;rw[Ad];by_cases h:N+BO (AN y) m<=N+o+7*(5-1)
  ·rw[if_pos h]
   exact Ah4 (by omega) hm hn (e:=N+o+7*(5-1)-7) (by omega) 3 fuel (N+o) (by omega) (by omega) (BI (by omega))
  ·rw[if_neg h]
   exact Ah4 (by omega) hm hn (e:=N+o+7*(5-1)) (by omega) 4 fuel (N+o) (by omega) (by omega) (BI (by omega))
end
end
end Go.Lift
namespace Go.Lift
open Go.RowKit Go.IntWalk
noncomputable section
variable[Sl]
set_option maxRecDepth 10000
abbrev Oc:=Int×Int
def posN(out:List Oc)(x:Oc):Nat->Nat
 |0=>0
 |k+1=>if x.1<(out.getD k (0,0)).1 then posN out x k else k+1
theorem rU(out:List Oc)(x:Oc):∀k,posN out x k<=k
 |0=>AC _
 |k+1=>by
  unfold posN;split
  ·exact Nat.le_succ_of_le (rU out x k)
  ·exact AC _
def insO(out:List Oc)(x:Oc):List Oc:=out.take (posN out x out.length)++x::out.drop (posN out x out.length)
theorem Ah5(out:List Oc)(x:Oc):(insO out x).Perm (x::out):=by
 unfold insO;have:=List.perm_middle (a:=x) (l₁:=out.take (posN out x out.length)) (l₂:=out.drop (posN out x out.length))
 rwa [LE]at this
theorem Ah6(out:List Oc)(x:Oc):∀k j,posN out x k<=j->j<k->x.1<(out.getD j (0,0)).1
 |0,j,_,h=>absurd h (MN _)
 |k+1,j,h1,h2=>by
  unfold posN at h1;split at h1
  ·rename_i hx
   by_cases e:j=k
   ·rw[e];exact hx
   ·exact Ah6 out x k j h1 (by omega)
  ·omega
theorem Ah7(out:List Oc)(x:Oc):∀k,0<posN out x k->(out.getD (posN out x k-1) (0,0)).1<=x.1
 |0,h=>absurd h (Nat.lt_irrefl _)
 |k+1,h=>by
  unfold posN at h⊢;split
  ·rename_i hx
   rw[if_pos hx]at h;exact Ah7 out x k h
  ·rename_i hx
   rw[Nat.add_sub_cancel];omega
abbrev ZP(l:List Oc):Prop:=l.Pairwise λa b=>a.1<=b.1
theorem AwU{out:List Oc}(x:Oc)(h:ZP out):ZP (insO out x):=by
 unfold insO;have hp:=rU out x out.length;have NT:=Ah6 out x out.length;have Ge:=Ah7 out x out.length;generalize posN out x out.length=p at hp NT Ge;have hg:∀{i:Nat}(hi:i<out.length),out.getD i (0,0)=out[i]:=λhi=>by simp[List.getD,hi]
 have h1:∀a∈out.take p,a.1<=x.1:=λa ha=>by
  obtain⟨i,hi,rfl⟩:=List.mem_iff_getElem.1 ha;have Lu:i<p:=by simp at hi;omega
  rw[List.getElem_take];have:=Ge (by omega);rw[hg (by omega)]at this;by_cases e:i=p-1
  ·subst e;exact this
  ·have:=(V2.1 h) i (p-1) (by omega) (by omega) (by omega)
   omega
 have h2:∀b∈out.drop p,x.1<=b.1:=λb hb=>by
  obtain⟨i,hi,rfl⟩:=List.mem_iff_getElem.1 hb;have Lu:p+i<out.length:=by simp at hi;omega
  rw[List.getElem_drop];have:=NT (p+i) (by omega) Lu;rw[hg Lu]at this;omega
 refine GZ.2 ⟨h.sublist (List.take_sublist _ _),Ha.2 ⟨h2,h.sublist (List.drop_sublist _ _)⟩,λa ha b hb=>?_⟩;have ha:=h1 a ha;rcases Bf.1 hb with rfl|hb
 ·exact ha
 ·have:=h2 b hb
  omega
theorem rV:∀(l out:List Oc),ZP out->ZP (l.foldl insO out)/\(l.foldl insO out).Perm (l++out)
 |[],out,h=>⟨h,.refl _⟩
 |x::l,out,h=>by obtain⟨h1,h2⟩:=rV l (insO out x) (AwU x h);refine⟨h1,h2.trans ?_⟩;exact((Ah5 out x).append_left l).trans List.perm_middle
theorem AwV{α:Type}(out:List α)(x:α)(k:Nat)(hk:k<=out.length):(List.take (k+1) (out++[x])++(List.take ((out++[x]).length-(k+1)) (List.drop k (List.take (out++[x]).length (out++[x])))++List.drop (k+1+Nat.min (List.drop k (List.take (out++[x]).length (out++[x]))).length ((out++[x]).length-(k+1))) (out++[x]))).set k x=out.take k++x::out.drop k:=by
 have hl:(out++[x]).length=out.length+1:=by simp
 rw[Jp,hl];have e1:List.drop k (out++[x])=List.drop k out++[x]:=OB hk
 have e2:List.take (out.length+1-(k+1)) (List.drop k out++[x])=List.drop k out:=by rw[JM (by simp)];exact G0 (by simp)
 have e3:Nat.min (List.drop k out++[x]).length (out.length+1-(k+1))=out.length-k:=by show min _ _=_;simp
 have e4:List.drop (k+1+(out.length-k)) (out++[x])=[]:=OH (by rw[hl];omega);rw[e1,e2,e3,e4,II,NE x (by simp;omega),JM hk,Cw];rw[List.set_append];have:(List.take k out).length=k:=by simp;omega
 rw[if_neg (by omega),this,Nat.sub_self];rfl
section
variable{β:Type}
theorem Ah8{l:List Cz}{i y:Int}{out:List Oc}{x:Oc}(hl:out.length<=100000){k1:nX β}:∀(k m:Nat),k<m->k<=out.length->Tr m k1 l i y (k:Int) out x=k1 l i y (posN out x k:Int) out x
 |k,0,h,_=>absurd h (MN _)
 |0,m+1,_,_=>by simp only[Aev,Y1];exact An (by omega)
 |k+1,m+1,h,hk=>by
  simp only[Aev,Y1];refine(Ar (by omega)).trans ?_;rw[i64_in (((k+1:Nat):Int)-1) (by omega),show((k+1:Nat):Int)-1=(k:Int) by omega];refine(AR (by omega)).trans ?_;rw[Bw];unfold posN;by_cases hx:x.1<(out.getD k (0,0)).1
  ·rw[if_pos hx]
   exact(Ar hx).trans (Ah8 hl k m (by omega) (by omega))
  ·rw[if_neg hx]
   exact An hx
theorem AwW{l:List Cz}{i:Nat}(hi:i<l.length){r:Cz}(hr:l.getD i (0,0,0,0,0,0,0)=r)(h:RuleOk r){K:nU β}:∀(j f:Nat)(y:Int)(out:List Oc),y+(j:Int)=r.2.1+1->r.1<=y->j<f->out.length+j<=10000->Ts f K l (i:Int) y out=K l (i:Int) (((List.range j).map λq=>occY r (y+(q:Nat))).foldl insO out):=by
 have h1:=h.f;have h2:=h.t;intro j
 induction j with
 |zero=>intro f y out hj hy hf hl;obtain⟨f,rfl⟩:∃f',f=f'+1:=⟨f-1,by omega⟩;have fin:∀g:Option β,cond (decide (0<=(i:Int))&&decide ((i:Int)<(l.length:Int))) g none=g:=λg=>AR (by omega);simp only[Aew,Y2,fin,Bw,hr];exact An (by omega)
 |succ j ih=>
  intro f y out hj hy hf hl;obtain⟨f,rfl⟩:∃f',f=f'+1:=⟨f-1,by omega⟩;have hb:=r6 h (y:=y) ⟨hy,by omega⟩;have hs:=h.s;have fin:∀g:Option β,cond (decide (0<=(i:Int))&&decide ((i:Int)<(l.length:Int))) g none=g:=λg=>AR (by omega);simp only[Aew,Y2,fin,Bw,hr];refine(Ar (by omega)).trans ?_;refine(AwT (by omega) h.m h.w h.d _).trans ?_;rw[i64_in (nthD y r.2.2.1 r.2.2.2.1 r.2.2.2.2.1*86400) (by omega),i64_in (nthD y r.2.2.1 r.2.2.2.1 r.2.2.2.2.1*86400+r.2.2.2.2.2.1) (by omega)];unfold nZ;rw[Ad];refine(Ah8 (by omega) out.length fuel (BI (by omega)) (AC _)).trans ?_;have hp:=rU out (occY r y) out.length;show cond (decide ((out.length+1)*16<=Bt)) _ _=_;refine(DV (by omega)).trans ?_;have Ail:(out++[occY r y]).length=out.length+1:=by simp
  have ho:∀{n:Int},n=nthD y r.2.2.1 r.2.2.2.1 r.2.2.2.2.1*86400+r.2.2.2.2.2.1->(n,r.2.2.2.2.2.2)=occY r y:=λe=>by rw[e];rfl
  simp only[ho rfl];rw[i64_in ((posN out (occY r y) out.length:Int)+1) (by omega)];refine(c_p3 (by omega) (by omega) (by omega)).trans ?_;refine(c_p3 (by omega) (by omega) (by omega)).trans ?_;rw[show((posN out (occY r y) out.length:Int)+1).toNat=posN out (occY r y) out.length+1 by omega,Bw];have K5:=AwV out (occY r y) _ hp;refine(AR ⟨by omega,?_⟩).trans ?_
  ·have:=At List.length K5
   rw[LI]at this;rw[this];simp;omega
  rw[K5,i64_in (y+1) (by omega)]
  have Oe:(insO out (occY r y)).length+j<=10000:=by rw[(Ah5 out _).length_eq];simp;omega
  refine(ih f (y+1) (insO out (occY r y)) (by omega) (by omega) (by omega) Oe).trans ?_;refine At (K l (i:Int)) ?_;rw[List.range_succ_eq_map,CE,OP,List.foldl_cons];have e0:occY r (y+((0:Nat):Int))=occY r y:=by simp
  rw[e0];refine At (λz=>List.foldl insO (insO out (occY r y)) z) ?_;refine List.map_congr_left λq _=>?_;simp only[Function.comp];congr 1;simp;omega
theorem AwX{z:AG}(h:ZoneOk z)(hS:Ml z)(k:List Oc->Option β):Y4 z.2.2 k=k (occS z):=by
 have hl:=h.l
 have GN:(CA z.2.2).foldl insO []=occS z:=by obtain⟨h1,h2⟩:=rV (CA z.2.2) [] List.Pairwise.nil;rw[II]at h2;obtain⟨g1,g2⟩:=TR h;refine List.Perm.eq_of_pairwise (le:=λx y=>x.1<=y.1) (λa b ha hb q1 q2=>?_) h1 (hS.imp λg=>Int.le_of_lt g) (h2.trans g1.symm);exact Agz hS ((h2.trans g1.symm).mem_iff.1 ha) hb (Int.le_antisymm q1 q2)
 unfold Y4;rw[Ad];unfold o5;rw[Ad]
 refine(Qc (λi(out:List Oc)=>out=(CA (z.2.2.take i)).foldl insO []) (λm i out=>Tt m (λout=>k out) z.2.2 i out) (λout r=>(occL r).foldl insO out) (λout=>k (occS z)) (0,0,0,0,0,0,0) z.2.2 [] fuel (BI (by omega)) rfl
  (λi out hi ho=>?_) (λm i out hi ho=>?_) (λm out ho=>?_))
 ·rw[NE (0,0,0,0,0,0,0) hi,ho]
  unfold CA;rw[MJ,QQ,List.foldl_append]
 ·have hr:RuleOk (z.2.2.getD i (0,0,0,0,0,0,0)):=h.r _ (C1 hi)
  have g1:=hr.f;have g2:=hr.t
  have Bb:out.length<=12:=by have e:z.2.2=z.2.2.take i++z.2.2.drop i:=(LE i z.2.2).symm;have M1:=h.n;rw[e]at M1;unfold CA at M1;rw[MJ,AE]at M1;rw[ho,(rV _ [] List.Pairwise.nil).2.length_eq,II];unfold CA;omega
  simp only[Aex,Y3];refine(Ar (by omega)).trans ?_;refine(AR (by omega)).trans ?_;rw[Bw];unfold o0;rw[Ad];refine(AwW hi rfl hr ((z.2.2.getD i (0,0,0,0,0,0,0)).2.1-(z.2.2.getD i (0,0,0,0,0,0,0)).1+1).toNat fuel _ out (by omega) (by omega) (BI (by omega)) (by omega)).trans ?_;rw[i64_in ((i:Int)+1) (by omega)];rfl
 ·rw[Jp]at ho
  simp only[Aex,Y3];refine(An (by omega)).trans ?_;rw[ho,GN]
theorem AwY{z:AG}(h:ZoneOk z)(k1:oA β)(K:oB β):Y9 k1 K 0 0 z=K ((CA z.2.2).length:Int) z:=by
 have hl:=h.l;unfold Y9;rw[Ad];have Oo:∀(i:Nat),i<z.2.2.length->RuleOk (z.2.2.getD i (0,0,0,0,0,0,0)):=λi hi=>h.r _ (C1 hi)
 refine(Qc (λi(n:Int)=>0<=n/\n<=300*(i:Int)/\n=((CA (z.2.2.take i)).length:Int)) (λm i n=>Tv m k1 K n i z) (λn r=>n+(r.2.1-r.1+1)) (λn=>K ((CA z.2.2).length:Int) z) (0,0,0,0,0,0,0) z.2.2 0 fuel (BI (by omega)) ⟨by omega,by omega,rfl⟩
  (λi n hi hn=>?_) (λm i n hi hn=>?_) (λm n hn=>?_))
 ·obtain⟨h1,h2,h3⟩:=hn
  have hr:=Oo i hi;have g1:=hr.f;have g2:=hr.t;refine⟨by omega,by omega,?_⟩;rw[NE (0,0,0,0,0,0,0) hi];unfold CA at h3⊢;rw[MJ,AE,QQ,Agy];omega
 ·obtain⟨h1,h2,h3⟩:=hn
  have hr:=Oo i hi;have g1:=hr.f;have g2:=hr.t;have fin:∀g:Option β,cond (decide (0<=(i:Int))&&decide ((i:Int)<(z.2.2.length:Int))) g none=g:=λg=>AR (by omega);simp only[AeH,Y8,fin,Bw];refine(Ar (by omega)).trans ?_;refine(AwK hr _).trans ?_;refine c_f.trans ?_;generalize z.2.2.getD i (0,0,0,0,0,0,0)=r at hr g1 g2;rw[i64_in (r.2.1-r.1) (by omega),i64_in (r.2.1-r.1+1) (by omega),i64_in (n+(r.2.1-r.1+1)) (by omega),i64_in ((i:Int)+1) (by omega)]
 ·obtain⟨h1,h2,h3⟩:=hn
  rw[Jp]at h3;simp only[AeH,Y8];refine(An (by omega)).trans ?_;rw[h3]
theorem AwZ{z:AG}(h:ZoneOk z)(hS:Ml z)(k:Int->Option β):YN z k=k (errV (Hh z)):=by have hl:=h.l;have hn:=h.n;unfold YN;rw[Ad];unfold oG;rw[Ad];refine(Kq _ _ _ _).trans ?_;rw[Ds h.o];refine c_f.trans ?_;refine(An (by omega)).trans ?_;refine(AwY h _ _).trans ?_;refine(An (by omega)).trans ?_;refine(AwX h hS _).trans ?_;refine(AwL h).trans ?_;exact Km k _
theorem Ax0{z:AG}(h:FZ z=0):errV (Hh z)=0/\Int.tmod z.2.1 60=0/\∀r∈z.2.2,Int.tmod r.2.2.2.2.2.2 60=0:=by
 unfold FZ at h
 have e1:errV (Hh z)=0:=by
  by_cases e:errV (Hh z)=0
  ·exact e
  ·rw[AF e]at h;cases h
 rw[Ay e1]at h
 have e2:Int.tmod z.2.1 60=0:=by
  by_cases e:Int.tmod z.2.1 60=0
  ·exact e
  ·rw[AF e]at h;cases h
 rw[Ay e2]at h;refine⟨e1,e2,?_⟩;cases e3:z.2.2.all λr=>decide (Int.tmod r.2.2.2.2.2.2 60=0)with
 |false=>rw[e3]at h;cases h
 |true=>exact λr hr=>AV (Ef.1 e3 r hr)
theorem Ax1{c:Au}(hz:c.1.length<=1000)(hv:∀z∈c.1,(ZoneOk z/\FZ z=0/\Ml z)/\Cg z.1=true)(hn:(c.1.map (·.1)).Nodup)(k:Int->Option β):YT c k=k 0:=by
 unfold YT;rw[Ad];unfold pD;rw[Ad]
 have key:∀(j i m:Nat),i+j=c.1.length->j<m->T7 m (λt2=>k t2) (λ_=>k 0) (i:Int) c ((c.1.take i).map (·.1))=k 0:=by
  intro j
  induction j with
  |zero=>intro i m hi hm;obtain⟨m,rfl⟩:∃m',m=m'+1:=⟨m-1,by omega⟩;simp only[Afe,YS];exact An (by omega)
  |succ j ih=>
   intro i m hi hm;obtain⟨m,rfl⟩:∃m',m=m'+1:=⟨m-1,by omega⟩;have Ao:i<c.1.length:=by omega
   have h1:=hv _ (C1 (d:=(([],0,[]):AG)) Ao);obtain⟨⟨g1,g2,g3⟩,g4⟩:=h1;obtain⟨e1,e2,e3⟩:=Ax0 g2;have gl:=g1.l;have Gu:((c.1.take i).map (·.1)).length=i:=by rw[FJ,FR];omega
   have JC:=TZ hn Ao (([],0,[]):AG);have L4:=Qe (λx:AG=>x.1) Ao (([],0,[]):AG);have fin:∀g:Option β,cond (decide (0<=(i:Int))&&decide ((i:Int)<(c.1.length:Int))) g none=g:=λg=>AR (by omega);simp only[Afe,YS,fin,Bw];refine(Ar (by omega)).trans ?_;refine(DV (show(((c.1.take i).map (·.1)).length+1)*16<=_ by omega)).trans ?_;have E7:=TY (l:=(c.1.take i).map (·.1)) (by omega) g4 JC (β:=β);rw[Gu]at E7;refine(E7 _).trans ?_;refine(BJ rfl).trans ?_;refine(AwZ g1 g3 _).trans ?_;refine(BJ e1).trans ?_;refine(Aww (by omega) e2 e3 _).trans ?_;refine c_f.trans ?_;rw[i64_in ((i:Int)+1) (by omega),show(i:Int)+1=((i+1:Nat):Int) by omega,L4];exact ih (i+1) m (by omega) (by omega)
 exact key c.1.length 0 fuel (by omega) (BI (by omega))
end
end
end Go.Lift
namespace Go.Lift
open Go.RowKit Go.IntWalk
noncomputable section
variable[Sl]
set_option maxRecDepth 10000
def Ua:List UInt8:=[122,111,110,101]
def rW:List UInt8:=[114,117,108,101]
def Hi:List UInt8:=[112,101,114,115,111,110]
def Mo:List UInt8:=[113,117,105,101,116]
def calW:List UInt8:=[99,97,108,101,110,100,97,114]
def Ub:List UInt8:=[100,97,121,115]
def Qf:List UInt8:=[119,101,101,107]
def Qg:List UInt8:=[114,101,115,116]
def Qh:List UInt8:=[99,111,110,115,101,110,116]
theorem Ax2{α γ:Type}(f:α->List γ)(xs:List α)(s:List γ):xs.foldl (λl i=>l++f i) s=s++xs.flatMap f:=by
 induction xs generalizing s with
 |nil=>simp
 |cons x xs ih=>simp[ih,Cw]
theorem Kr{β α γ:Type}(F:Nat->Int->List γ->Option β)(f:α->List γ)(K:List γ->Option β)(d:α)(xs:List α)(s:List γ)(B:Nat)(hx:xs.length<=1000)(hf:∀x∈xs,(f x).length<=B)(h1:∀(m i:Nat) t,i<xs.length->t.length<=s.length+i*B->F (m+1) (i:Int) t=F m ((i:Int)+1) (t++f (xs.getD i d)))(h2:∀(m:Nat) t,F (m+1) (xs.length:Int) t=K t):F fuel 0 s=K (s++xs.flatMap f):=by
 rw[<-Ax2 f xs s];refine Qc (λi t=>t.length<=s.length+i*B) F (λt x=>t++f x) K d xs s fuel (BI (by omega)) (by omega) (λi t hi ht=>?_) h1 λm t _=>h2 m t;have:=hf _ (C1 (d:=d) hi);rw[AE,IJ];omega
def Uc(r:Cz):List Tok:=
 [wd rW,nu 1 r.1,nu 1 r.2.1,wd (at' rK (r.2.2.1-1)),wd (at' rL (r.2.2.2.1-1)),wd (at' NG r.2.2.2.2.1),nu 2 r.2.2.2.2.2.1,nu 4 r.2.2.2.2.2.2]
def J3(z:AG):List (List Tok):=[wd Ua,wd z.1,nu 4 z.2.1]::z.2.2.map Uc
section
variable{β:Type}{w:List AG}{w2:List AX}{w3:List Bu}{w4:List B8}
theorem ZQ{α γ:Type}(f:α->γ)(xs:List α):xs.flatMap (λx=>[f x])=xs.map f:=by
 induction xs with
 |nil=>rfl
 |cons x xs ih=>simp[ih]
theorem Ax3{z:AG}(hz:ZoneOk z)(ls:List (List Tok))(h1:ls.length<=900000)(k:List AG->List AX->List Bu->List B8->List (Int×List Tok)->Option β):XB z w w2 w3 w4 (numb 0 ls) k=k w w2 w3 w4 (numb 0 (ls++J3 z)):=by
 have hl:=hz.l;unfold XB;rw[Ad];refine(GE _ _).trans ?_;refine(AgS _ _).trans ?_;refine(J2 Ua _ ls (by omega) (by simp) _).trans ?_;unfold lF;rw[Ad];refine(Kr (λm i s=>SM m (λAJ B6 Cu Cv Cb=>k AJ B6 Cu Cv Cb) z.2.2 (z.2.2.length:Int) i w w2 w3 w4 (numb 0 s) rK rL) (λr=>[Uc r]) (λs=>k w w2 w3 w4 (numb 0 s)) (0,0,0,0,0,0,0) z.2.2 _ 1 (by omega) (λ_ _=>by simp) (λm i s hi hs=>?_) λm s=>?_).trans ?_
 ·have hr:=hz.r _ (C1 (d:=((0,0,0,0,0,0,0):Cz)) hi)
  simp only[Add,XA];refine(Ar (by omega)).trans ?_;refine(AR (by omega)).trans ?_;rw[Bw];generalize z.2.2.getD i ((0,0,0,0,0,0,0):Cz)=r at hr;have m1:=hr.m;have m2:=hr.w;have m3:=hr.d;rw[i64_in (r.2.2.1-1) (by omega),i64_in (r.2.2.2.1-1) (by omega)];refine(TW _ _).trans ?_;refine(TW _ _).trans ?_;refine(AR (show 0<=r.2.2.1-1/\r.2.2.1-1<((12:Nat):Int) by omega)).trans ?_;refine(GE _ _).trans ?_;refine(AR (show 0<=r.2.2.2.1-1/\r.2.2.2.1-1<((5:Nat):Int) by omega)).trans ?_;refine(GE _ _).trans ?_;refine(rN (by omega) _).trans ?_;refine(ZL _ _).trans ?_;refine(AgS _ _).trans ?_;simp only[AE,GY]at hs;refine(J2 rW _ s (by omega) (by simp) _).trans ?_;rw[i64_in ((i:Int)+1) (by omega)];rfl
 ·simp only[Add,XA]
  exact An (by omega)
 ·show k w w2 w3 w4 (numb 0 (ls++[[wd Ua,wd z.1,nu 4 z.2.1]]++z.2.2.flatMap λr=>[Uc r]))=_
  rw[ZQ,Cw];rfl
def rX(p:AX):List Tok:=if p.2.2.2.1=0 then []else [wd Qf,nu 1 (Int.tdiv p.2.2.2.1 3600)]
def ZR(p:AX):List Tok:=if p.2.2.2.2.1=0 then []else [wd Qg,nu 1 (Int.tdiv p.2.2.2.2.1 3600)]
def Ud(p:AX):List Tok:=if p.2.2.2.2.2 then [wd Qh]else []
def HS(w:List AG)(i:Int):List UInt8:=(w.getD i.toNat ([],0,[])).1
def ZS(w:List AG)(p:AX):List Tok:=wd Hi::([wd p.1,wd (HS w p.2.1)]++rX p++ZR p++Ud p)
def J4(w:List AG)(p:AX):List (List Tok):=ZS w p::p.2.2.1.map (stW Mo)
theorem Ah9{p:AX}{nz:Int}(hp:PerF nz p)(toks:List Tok)(ht:toks.length<=20)(ls:List (List Tok))(h1:ls.length<=900000)(k:List AG->List AX->List Bu->List B8->List (Int×List Tok)->Option β):(DA Hi toks w w2 w3 w4 (numb 0 ls) λa b c d e=>Ny Mo p.2.2.1 a b c d e λa b c d e=>k a b c d e)=k w w2 w3 w4 (numb 0 (ls++(wd Hi::toks)::p.2.2.1.map (stW Mo))):=by
 have hq:=hp.q;refine(J2 Hi _ ls (by omega) (by omega) _).trans ?_;refine(AgU Mo _ _ (by simp;omega) hq.2 _).trans ?_;rw[Cw];rfl
theorem Aha{p:AX}{nz:Int}(hp:PerF nz p)(toks:List Tok)(ht:toks.length<=10)(ls:List (List Tok))(h1:ls.length<=900000)(k:List AG->List AX->List Bu->List B8->List (Int×List Tok)->Option β):SN k w w2 w3 w4 (numb 0 ls) p toks=k w w2 w3 w4 (numb 0 (ls++(wd Hi::(toks++Ud p))::p.2.2.1.map (stW Mo))):=by
 unfold SN;rw[Ad];unfold lG Ud;cases p.2.2.2.2.2 with
 |true=>refine(GE _ _).trans ?_;refine(DV (show(toks.length+1)*32<=_ by omega)).trans ?_;exact Ah9 hp _ (by simp;omega) ls h1 k
 |false=>refine(Ah9 hp _ (by omega) ls h1 k).trans ?_;simp
theorem Ahb{p:AX}{nz:Int}(hp:PerF nz p)(toks:List Tok)(ht:toks.length<=8)(ls:List (List Tok))(h1:ls.length<=900000)(k:List AG->List AX->List Bu->List B8->List (Int×List Tok)->Option β):SO k w w2 w3 w4 (numb 0 ls) p toks=k w w2 w3 w4 (numb 0 (ls++(wd Hi::(toks++ZR p++Ud p))::p.2.2.1.map (stW Mo))):=by
 have hr:=hp.r;unfold SO;rw[Ad];unfold lH ZR;by_cases h:p.2.2.2.2.1=0
 ·rw[if_pos h,II]
  refine(BJ h).trans ?_;exact Aha hp _ (by omega) ls h1 _
 ·rw[if_neg h]
  refine(Hf h).trans ?_;rw[i64_in _ (by rw[GW (by omega)];omega)];refine(GE _ _).trans ?_;refine(TW _ _).trans ?_;refine(DV (show(toks.length+2)*32<=_ by omega)).trans ?_;exact Aha hp _ (by simp;omega) ls h1 _
theorem Ax4{p:AX}(hp:PerF (w.length:Int) p)(ls:List (List Tok))(h1:ls.length<=900000)(k:List AG->List AX->List Bu->List B8->List (Int×List Tok)->Option β):XC p w w2 w3 w4 (numb 0 ls) k=k w w2 w3 w4 (numb 0 (ls++J4 w p)):=by
 have hr:=hp.w;unfold XC;rw[Ad];unfold J4 ZS rX;refine(GE _ _).trans ?_;refine(rO hp.z _).trans ?_;by_cases h:p.2.2.2.1=0
 ·rw[if_pos h,II]
  refine(BJ h).trans ?_;exact Ahb hp _ (by simp) ls h1 _
 ·rw[if_neg h]
  refine(Hf h).trans ?_;rw[i64_in _ (by rw[GW (by omega)];omega)];refine(GE _ _).trans ?_;refine(TW _ _).trans ?_;refine(DV (show(2+2)*32<=_ by omega)).trans ?_;exact Ahb hp _ (by simp) ls h1 _
def ZT(l:List Int):List (List Tok):=if l=[]then []else [wd Ub::l.map (nu 3)]
def Ks(w:List AG)(c:Bu):List (List Tok):=[wd calW,wd c.1,wd (HS w c.2.1)]::ZT c.2.2
theorem Ax5{l:List Int}(hl:l.length<=1000)(k:List Tok->Option β):Tq l k=k (l.map (nu 3)):=by
 unfold Tq;rw[Ad];unfold nQ;rw[Ad,<-ZQ];refine Kr (λm i s=>Tp m (λout=>k out) l (l.length:Int) i s) (λx=>[nu 3 x]) (λs=>k s) (0:Int) l [] 1 hl (λ_ _=>by simp) (λm i s hi hs=>?_) λm s=>?_
 ·simp only[Aen,Yy]
  simp only[CJ]at hs;refine(Ar (by omega)).trans ?_;refine(AR (by omega)).trans ?_;rw[Bw];refine(AgR _ _).trans ?_;refine(DV (show(s.length+1)*32<=_ by omega)).trans ?_;rw[i64_in ((i:Int)+1) (by omega)]
 ·simp only[Aen,Yy]
  exact An (by omega)
theorem Ax6{c:Bu}(hz:0<=c.2.1/\c.2.1<(w.length:Int))(hl:c.2.2.length<=32)(ls:List (List Tok))(h1:ls.length<=900000)(k:List AG->List AX->List Bu->List B8->List (Int×List Tok)->Option β):Yz c w w2 w3 w4 (numb 0 ls) k=k w w2 w3 w4 (numb 0 (ls++Ks w c)):=by
 unfold Yz;rw[Ad];unfold Ks ZT;refine(GE _ _).trans ?_;refine(rO hz _).trans ?_;refine(J2 calW _ ls (by omega) (by simp) _).trans ?_;refine(Ar (show c.2.2.length<=140737488355328 by omega)).trans ?_;by_cases h:c.2.2=[]
 ·rw[if_pos h]
  exact An (by rw[h];simp)
 ·rw[if_neg h]
  have h0:0<c.2.2.length:=OJ.2 h;refine(Ar h0).trans ?_;have ht:List.take 32 (List.drop 0 c.2.2)=c.2.2:=by rw[List.drop_zero,G0 hl]
  rw[ht];refine(Ax5 (by omega) _).trans ?_;refine(J2 Ub _ _ (by simp;omega) (by simp;omega) _).trans ?_;refine(Ar (show c.2.2.length<=140737488355328 by omega)).trans ?_;refine(An (by omega)).trans ?_;rw[Cw];rfl
end
end
end Go.Lift
namespace Go.Lift
open Go.RowKit Go.IntWalk
noncomputable section
variable[Sl]
set_option maxRecDepth 10000
def ZU:List UInt8:=[108,97,121,101,114]
def memW:List UInt8:=[109,101,109,98,101,114]
def onW:List UInt8:=[111,110]
def schW:List UInt8:=[115,99,104,101,100,117,108,101]
def calN(w3:List Bu)(i:Int):List UInt8:=(w3.getD i.toNat ([],0,[])).1
def Qi(w3:List Bu)(l:Bz):List (List Tok):=if l.2.2.2.2.2.2.2.2=0 then []else [[wd (at' rM l.2.2.2.2.2.2.2.2),wd (calN w3 l.2.2.2.2.2.2.2.1)]]
def rY(w:List AG)(l:Bz):List Tok:=[wd ZU,wd l.1,wd (HS w l.2.1),nu 3 l.2.2.1.1,nu 2 l.2.2.1.2,nu 1 l.2.2.2.2.1,wd (at' untNs l.2.2.2.1)]
def rZ(w2:List AX)(l:Bz):List Tok:=wd memW::l.2.2.2.2.2.1.map λm=>wd (whoB w2 m)
def Kt(w:List AG)(w2:List AX)(w3:List Bu)(l:Bz):List (List Tok):=
 rY w l::rZ w2 l::(l.2.2.2.2.2.2.1.map (stW onW)++Qi w3 l)
abbrev WK(β:Type):=List AG->List AX->List Bu->List B8->List (Int×List Tok)->Option β
def mch{β:Type}(ms:List Int)(F:List Tok->WK β):Nat->Int->List Tok->WK β
 |0,_,_=>λ_ _ _ _ _=>none
 |n+1,i,acc=>λa b c d e=>
  cond (decide (i<(ms.length:Int)))
   (cond (decide (0<=i)&&decide (i<(ms.length:Int)))
    (FY (ms.getD i.toNat 0) a b c d e λr a b c d e=>
     cond (decide ((acc.length+[r].length)*32<=Bt)) (mch ms F n (IntKind.i64.wrap (i+1)) (acc++[r]) a b c d e) none) none)
   (F acc a b c d e)
section
variable{β:Type}{w:List AG}{w2:List AX}{w3:List Bu}{w4:List B8}
theorem Ahc{ms:List Int}(hm:∀x∈ms,x<(w2.length:Int))(hl:ms.length<=100)(F:List Tok->WK β)(b:List (Int×List Tok)):∀(n i:Nat)(acc:List Tok),i<=ms.length->ms.length<i+n->acc.length<=i->mch ms F n (i:Int) acc w w2 w3 w4 b=F (acc++(ms.drop i).map λm=>wd (whoB w2 m)) w w2 w3 w4 b
 |0,i,acc,h1,h2,_=>absurd h2 (by omega)
 |n+1,i,acc,h1,h2,h3=>by
  unfold mch;by_cases h:i=ms.length
  ·refine(An (by omega)).trans ?_
   rw[h,List.drop_length];simp
  ·have hi:i<ms.length:=by omega
   refine(Ar (by omega)).trans ?_;refine(AR (by omega)).trans ?_;rw[Bw];refine(rP (hm _ (C1 hi)) _).trans ?_;refine(DV (show(acc.length+1)*32<=_ by omega)).trans ?_;rw[i64_in _ (by omega)];refine(Ahc hm hl F b n (i+1) _ (by omega) (by omega) (by simp;omega)).trans ?_
   have e:ms.drop i=ms.getD i 0::ms.drop (i+1):=by rw[JN hi,OC,DK hi];rfl
   rw[e,Cw];rfl
theorem Ax7(l:Bz)(k:WK β)(b:List (Int×List Tok)):Adi l w w2 w3 w4 b k=Fk l.1 λD0=>Nu l.2.1 w w2 w3 w4 b λrzone a b c d e=>P4 l.2.2.1.1 λrdate=>Md l.2.2.1.2 λGU=>Lb l.2.2.2.2.1 λEW=>cond (decide (0<=l.2.2.2.1)&&decide (l.2.2.2.1<(untNs.length:Int))) (Fk (untNs.getD l.2.2.2.1.toNat []) λO2=>DA ZU [D0,rzone,rdate,GU,EW,O2] a b c d e λa b c d e=>mch l.2.2.2.2.2.1 (λacc a b c d e=>DA memW acc a b c d e λa b c d e=>GC (λa b c d e=>k a b c d e) a b c d e l) 13 0 [] a b c d e) none:=by kernel_rfl
theorem Ax8{l:Bz}{nz np:Int}(hl:LayF nz np (w3.length:Int) l)(ls:List (List Tok))(h1:ls.length<=900000)(k:WK β):GC k w w2 w3 w4 (numb 0 ls) l=k w w2 w3 w4 (numb 0 (ls++(l.2.2.2.2.2.2.1.map (stW onW)++Qi w3 l))):=by
 have hw:=hl.w;unfold GC;rw[Ad];unfold lI Qi;refine(AgU onW _ ls (by omega) hw.2 _).trans ?_;by_cases h:l.2.2.2.2.2.2.2.2=0
 ·rw[if_pos h,II]
  exact BJ h
 ·rw[if_neg h]
  have hc:=hl.c
  have hc:(1<=l.2.2.2.2.2.2.2.2/\l.2.2.2.2.2.2.2.2<=2)/\0<=l.2.2.2.2.2.2.2.1/\l.2.2.2.2.2.2.2.1<(w3.length:Int):=by
   rcases hc with hc|hc
   ·exact absurd hc.1 h
   ·exact hc
  refine(Hf h).trans ?_;refine(AR (show 0<=l.2.2.2.2.2.2.2.2/\l.2.2.2.2.2.2.2.2<((3:Nat):Int) by omega)).trans ?_;refine(AR hc.2).trans ?_;refine(GE _ _).trans ?_;refine(J2 _ _ _ (by simp;omega) (by simp) _).trans ?_;rw[Cw];rfl
theorem Ax9{l:Bz}(hl:LayF (w.length:Int) (w2.length:Int) (w3.length:Int) l)(ls:List (List Tok))(h1:ls.length<=900000-5)(k:WK β):XE l w w2 w3 w4 (numb 0 ls) k=k w w2 w3 w4 (numb 0 (ls++Kt w w2 w3 l)):=by
 have hm:=hl.m;unfold XE;rw[Ad,Ax7];refine(GE _ _).trans ?_;refine(rO hl.z _).trans ?_;refine(AgR _ _).trans ?_;refine(ZL _ _).trans ?_;refine(TW _ _).trans ?_;have hu:=hl.u;refine(AR (show 0<=l.2.2.2.1/\l.2.2.2.1<((3:Nat):Int) by omega)).trans ?_;refine(GE _ _).trans ?_;refine(J2 ZU _ ls (by omega) (by simp) _).trans ?_;refine(Ahc (λx hx=>(hl.ms x hx).2) (by omega) _ _ 13 0 [] (by omega) (by omega) (by simp)).trans ?_;refine(J2 memW _ _ (by simp;omega) (by simp;omega) _).trans ?_;refine(Ax8 hl _ (by simp;omega) _).trans ?_;rw[Cw,Cw];rfl
def s5(w2:List AX)(x:Ed):List Tok:=if x.1=2 then [wd (whoB w2 x.2.1),wd (whoB w2 x.2.2.1)]else [wd (whoB w2 x.2.1)]
def J5(w2:List AX)(x:Ed):List Tok:=wd (at' TV x.1)::(s5 w2 x++[nu 5 x.2.2.2.1,nu 5 x.2.2.2.2])
theorem Ahd{x:Ed}{np:Int}(hx:EdF np x)(toks:List Tok)(ht:toks.length<=10)(ls:List (List Tok))(h1:ls.length<=900000)(k:WK β):S3 k w w2 w3 w4 (numb 0 ls) x toks=k w w2 w3 w4 (numb 0 (ls++[wd (at' TV x.1)::(toks++[nu 5 x.2.2.2.1,nu 5 x.2.2.2.2])])):=by
 have hk:=hx.k;unfold S3;rw[Ad];unfold jX;refine(AR (show 0<=x.1/\x.1<((3:Nat):Int) by omega)).trans ?_;refine(AgT _ _).trans ?_;refine(AgT _ _).trans ?_;refine(DV (show(toks.length+2)*32<=_ by omega)).trans ?_;exact J2 _ _ ls (by omega) (by simp;omega) _
theorem Axa{x:Ed}(hx:EdF (w2.length:Int) x)(ls:List (List Tok))(h1:ls.length<=900000)(k:WK β):Xq x w w2 w3 w4 (numb 0 ls) k=k w w2 w3 w4 (numb 0 (ls++[J5 w2 x])):=by
 have ha:=hx.a;unfold Xq;rw[Ad];unfold J5 s5;refine(rP (by omega) _).trans ?_;by_cases h:x.1=2
 ·rw[if_pos h]
  refine(Ar h).trans ?_;refine(rP (hx.b h).2 _).trans ?_;refine(DV (show(1+1)*32<=_ by omega)).trans ?_;exact Ahd hx _ (by simp) ls h1 _
 ·rw[if_neg h]
  refine(An h).trans ?_;exact Ahd hx _ (by simp) ls h1 _
end
end
end Go.Lift
namespace Go.Lift
open Go.RowKit Go.IntWalk
noncomputable section
variable[Sl]
set_option maxRecDepth 10000
def Lj(w:List AG)(w2:List AX)(w3:List Bu)(s:B8):List (List Tok):=
 [wd schW,wd s.1]::(s.2.1.flatMap (Kt w w2 w3)++s.2.2.map (J5 w2))
def Ku(c:Au):List (List Tok):=c.1.flatMap J3++(c.2.1.flatMap (J4 c.1)++(c.2.2.1.flatMap (Ks c.1)++c.2.2.2.flatMap (Lj c.1 c.2.1 c.2.2.1)))
theorem Lk{α γ:Type}{f:α->List γ}{xs:List α}{B:Nat}(h:∀x∈xs,(f x).length<=B):(xs.flatMap f).length<=xs.length*B:=by
 induction xs with
 |nil=>simp
 |cons x xs ih=>have h1:=h x (Gh ..);have h2:=ih λy hy=>h y (Dm _ hy);rw[ML,AE,Ba,IJ];omega
theorem s6{z:AG}(h:ZoneOk z):(J3 z).length<=13:=by have:=h.l;unfold J3;simp;omega
theorem s7{nz:Int}{w:List AG}{p:AX}(h:PerF nz p):(J4 w p).length<=15:=by have:=h.q.1;unfold J4;simp;omega
theorem s8{w:List AG}{c:Bu}:(Ks w c).length<=2:=by
 unfold Ks ZT;by_cases h:c.2.2=[]
 ·rw[if_pos h];simp
 ·rw[if_neg h];simp
theorem s9{nz np nc:Int}{w:List AG}{w2:List AX}{w3:List Bu}{l:Bz}(h:LayF nz np nc l):(Kt w w2 w3 l).length<=17:=by
 have:=h.w.1;unfold Kt Qi;by_cases h:l.2.2.2.2.2.2.2.2=0
 ·rw[if_pos h];simp;omega
 ·rw[if_neg h];simp;omega
structure SchG (nz np nc:Int) (s:B8):Prop where
 l:s.2.1.length<=6
 ls:∀l∈s.2.1,LayF nz np nc l/\Cg l.1=true
 e:s.2.2.length<=48
 es:∀x∈s.2.2,EdF np x
theorem Ahe{nz np nc:Int}{w:List AG}{w2:List AX}{w3:List Bu}{s:B8}(h:SchG nz np nc s):(Lj w w2 w3 s).length<=151:=by have h1:=h.l;have h2:=h.e;have h3:=Lk (f:=Kt w w2 w3) λl hl=>s9 (h.ls l hl).1;unfold Lj;rw[Ba,AE,FJ];omega
theorem ZV{c:Au}(h:ConfOk c):∀s∈c.2.2.2,SchG (c.1.length:Int) (c.2.1.length:Int) (c.2.2.1.length:Int) s:=by intro s hs;have h1:=AgX (h.os.2 s hs).1;exact⟨h1.l,h1.ls,h1.e,λx hx=>ed_f ((h.os.2 s hs).2 x hx)⟩
theorem Ue{c:Au}(h:ConfOk c):∀p∈c.2.1,PerF (c.1.length:Int) p:=λp hp=>AgZ (h.op.2 p hp)
section
variable{β:Type}
theorem Axb{w:List AG}{w2:List AX}{w3:List Bu}{w4 ss:List B8}{n i:Int}{es:List Ed}(he:es.length<=48)(hs:∀x∈es,EdF (w2.length:Int) x)(ls:List (List Tok))(h1:ls.length<=100000)(k:qV β):Qa k ss n i es (es.length:Int) 0 w w2 w3 w4 (numb 0 ls)=k ss n i w w2 w3 w4 (numb 0 (ls++es.map (J5 w2))):=by
 unfold Qa;rw[Ad,<-ZQ];refine Kr (λm i' s=>TM m k ss n i es (es.length:Int) i' w w2 w3 w4 (numb 0 s)) (λx=>[J5 w2 x]) (λs=>k ss n i w w2 w3 w4 (numb 0 s)) (0,0,0,0,0) es ls 1 (by omega) (λ_ _=>by simp) (λm i' t hi ht=>?_) λm t=>?_
 ·have hx:=hs _ (C1 (d:=((0,0,0,0,0):Ed)) hi)
  simp only[Agp,Z0];refine(Ar (by omega)).trans ?_;refine(AR (by omega)).trans ?_;rw[Bw];refine(Axa hx t (by omega) _).trans ?_;rw[i64_in ((i':Int)+1) (by omega)]
 ·simp only[Agp,Z0]
  exact An (by omega)
theorem Axc{w:List AG}{w2:List AX}{w3:List Bu}{w4 ss:List B8}(h3:ss.length<=12)(hs:∀s∈ss,SchG (w.length:Int) (w2.length:Int) (w3.length:Int) s)(ls:List (List Tok))(h1:ls.length<=10000)(k:WK β):Qb k ss (ss.length:Int) 0 w w2 w3 w4 (numb 0 ls)=k w w2 w3 w4 (numb 0 (ls++ss.flatMap (Lj w w2 w3))):=by
 unfold Qb;rw[Ad];refine Kr (λm i s=>N9 m k ss (ss.length:Int) i w w2 w3 w4 (numb 0 s)) (Lj w w2 w3) (λs=>k w w2 w3 w4 (numb 0 s)) ([],[],[]) ss ls 151 (by omega) (λs h=>Ahe (hs s h)) (λm i t hi ht=>?_) λm t=>?_
 ·have hS:=hs _ (C1 (d:=(([],[],[]):B8)) hi)
  have M9:t.length<=20000:=by omega
  simp only[Agq,Z1];refine(Ar (by omega)).trans ?_;refine(AR (by omega)).trans ?_;rw[Bw];generalize ss.getD i (([],[],[]):B8)=q at hS;have q1:=hS.l;have q2:=hS.e;refine(GE _ _).trans ?_;refine(J2 schW _ t (by omega) (by simp) _).trans ?_;unfold qX;rw[Ad]
  refine(Kr (λm' i' s=>TL m' (λvU MG O8 w5 w6 w7 w8 s EF=>Qa (λVy KD LB w9 w10 w11 w12 Cb=>N9 m k Vy KD (IntKind.i64.wrap (LB+(1:Int))) w9 w10 w11 w12 Cb) vU MG O8 s.2.2 (List.length s.2.2:Int) (0:Int) w5 w6 w7 w8 EF)
   ss (ss.length:Int) (i:Int) q.2.1 (q.2.1.length:Int) i' w w2 w3 w4 q (numb 0 s)) (Kt w w2 w3)
   (λs=>Qa (λVy KD LB w9 w10 w11 w12 Cb=>N9 m k Vy KD (IntKind.i64.wrap (LB+(1:Int))) w9 w10 w11 w12 Cb) ss (ss.length:Int) (i:Int) q.2.2 (List.length q.2.2:Int) (0:Int) w w2 w3 w4 (numb 0 s))
   ([],0,(0,0),0,0,[],[],0,0) q.2.1 (t++[[wd schW,wd q.1]]) 17 (by omega) (λl h=>s9 (hS.ls l h).1) (λm' i' t' NV M9=>?_) λm' t'=>?_).trans ?_
  ·have hL:=(hS.ls _ (C1 (d:=(([],0,(0,0),0,0,[],[],0,0):Bz)) NV)).1
   simp only[AE,GY]at M9;simp only[Ago,Zz];refine(Ar (by omega)).trans ?_;refine(AR (by omega)).trans ?_;rw[Bw];refine(Ax9 hL t' (by omega) _).trans ?_;rw[i64_in ((i':Int)+1) (by omega)]
  ·simp only[Ago,Zz]
   exact An (by omega)
  ·have h5:((t++[[wd schW,wd q.1]])++q.2.1.flatMap (Kt w w2 w3)).length<=30000:=by have:=Lk (f:=Kt w w2 w3) λl hl=>s9 (hS.ls l hl).1;rw[AE,AE,GY];omega
   refine(Axb (by omega) hS.es _ (by omega) _).trans ?_;rw[i64_in ((i:Int)+1) (by omega),Cw,Cw];rfl
 ·simp only[Agq,Z1]
  exact An (by omega)
def stK3(k:List (Int×List Tok)->Int->Option β):qR β:=λc4 w9 w10 w11 w12 b=>Qb (λ_ _ _ _ b1=>k b1 0) c4.2.2.2 (c4.2.2.2.length:Int) 0 w9 w10 w11 w12 b
def stK2(k:List (Int×List Tok)->Int->Option β):qP β:=λc4 w9 w10 w11 w12 b=>TK (stK3 k) c4.2.2.1 (c4.2.2.1.length:Int) 0 c4 w9 w10 w11 w12 b
def stK1(k:List (Int×List Tok)->Int->Option β):qN β:=λc4 w9 w10 w11 w12 b=>TH (stK2 k) c4.2.1 (c4.2.1.length:Int) 0 c4 w9 w10 w11 w12 b
theorem Axd{c:Au}(h:ConfOk c)(k:List (Int×List Tok)->Int->Option β):Z2 c k=k (numb 0 (Ku c)) 0:=by
 obtain⟨z,p,x,s⟩:=c;have l1:z.length<=2:=h.oz.1.1;have l2:p.length<=8:=h.op.1.1;have l3:x.length<=1:=h.oc.1.1;have l4:s.length<=3:=h.os.1.1;have z1:=Lk (f:=J3) λy(hy:y∈z)=>s6 (h.oz.2 y hy).1;have z2:=Lk (f:=J4 z) λy(hy:y∈p)=>s7 (Ue h y hy);have z3:=Lk (f:=Ks z) λy(hy:y∈x)=>s8;unfold Z2;rw[Ad];refine(AvH _ FZ (λy hy k=>AvR (h.oz.2 y hy).1 k) _).trans ?_;rw[Aws h];refine(BJ rfl).trans ?_;show Zw (stK1 k) z (z.length:Int) 0 (z,p,x,s) z p x s (numb 0 [])=_;unfold Zw;rw[Ad];refine(Kr (λm i t=>TF m (stK1 k) z (z.length:Int) i (z,p,x,s) z p x s (numb 0 t)) J3 (λt=>TH (stK2 k) p (p.length:Int) 0 (z,p,x,s) z p x s (numb 0 t)) ([],0,[]) z [] 13 (by omega) (λy hy=>s6 (h.oz.2 y hy).1) (λm i t hi ht=>?_) λm t=>?_).trans ?_
 ·simp only[CJ]at ht
  simp only[Agl,Zv];refine(Ar (by omega)).trans ?_;refine(AR (by omega)).trans ?_;rw[Bw];refine(Ax3 (h.oz.2 _ (C1 hi)).1 t (by omega) _).trans ?_;rw[i64_in ((i:Int)+1) (by omega)]
 ·simp only[Agl,Zv]
  exact An (by omega)
 unfold TH;rw[Ad,Gi];refine(Kr (λm i t=>TG m (stK2 k) p (p.length:Int) i (z,p,x,s) z p x s (numb 0 t)) (J4 z) (λt=>TK (stK3 k) x (x.length:Int) 0 (z,p,x,s) z p x s (numb 0 t)) ([],0,[],0,0,false) p (z.flatMap J3) 15 (by omega) (λy hy=>s7 (Ue h y hy)) (λm i t hi ht=>?_) λm t=>?_).trans ?_
 ·simp only[Agm,Zx]
  refine(Ar (by omega)).trans ?_;refine(AR (by omega)).trans ?_;rw[Bw];refine(Ax4 (Ue h _ (C1 hi)) t (by omega) _).trans ?_;rw[i64_in ((i:Int)+1) (by omega)]
 ·simp only[Agm,Zx]
  exact An (by omega)
 unfold TK;rw[Ad];refine(Kr (λm i t=>TJ m (stK3 k) x (x.length:Int) i (z,p,x,s) z p x s (numb 0 t)) (Ks z) (λt=>Qb (λ_ _ _ _ b1=>k b1 0) s (s.length:Int) 0 z p x s (numb 0 t)) ([],0,[]) x (z.flatMap J3++p.flatMap (J4 z)) 2 (by omega) (λy hy=>s8) (λm i t hi ht=>?_) λm t=>?_).trans ?_
 ·have hc:=h.oc.2 _ (C1 (d:=(([],0,[]):Bu)) hi)
  rw[AE]at ht;simp only[Agn,Zy];refine(Ar (by omega)).trans ?_;refine(AR (by omega)).trans ?_;rw[Bw];refine(Ax6 (rS hc.1).z (Df hc.2 (by decide)) t (by omega) _).trans ?_;rw[i64_in ((i:Int)+1) (by omega)]
 ·simp only[Agn,Zy]
  exact An (by omega)
 refine(Axc (show s.length<=12 by omega) (ZV h) _ (by rw[AE,AE];omega) _).trans ?_;unfold Ku;rw[Cw,Cw]
end
end
end Go.Lift
namespace Go.Lift
section
variable{b:UInt8}
theorem sA:∀{l:List UInt8},(∀c∈l,c≠b)->Lib.index l [b]=-1
 |[],_=>rfl
 |c::l,h=>by
  have h1:=sA (l:=l) λx hx=>h x (by simp[hx]);have h2:=h c (by simp);unfold Lib.index;rw[h1]
  have:List.isPrefixOf [b] (c::l)=false:=by simp[List.isPrefixOf];exact λe=>h2 e.symm
  rw[this];rfl
theorem sB:∀{l:List UInt8}(r:List UInt8),(∀c∈l,c≠b)->Lib.index (l++b::r) [b]=(l.length:Int)
 |[],r,_=>by show Lib.index (b::r) [b]=0;unfold Lib.index;simp[List.isPrefixOf]
 |c::l,r,h=>by
  have h1:=sB (l:=l) r λx hx=>h x (by simp[hx]);have h2:=h c (by simp);rw[Fw];unfold Lib.index;rw[h1]
  have:List.isPrefixOf [b] (c::(l++b::r))=false:=by simp[List.isPrefixOf];exact λe=>h2 e.symm
  rw[this];have h3:((l.length:Int)==-1)=false:=by rw[beq_eq_false_iff_ne];omega
  simp[h3]
theorem Axe(l:List UInt8):Lib.contains l [b]=decide (b∈l):=by
 unfold Lib.contains;by_cases h:b∈l
 ·obtain⟨p,q,rfl,hp⟩:=List.eq_append_cons_of_mem h
  rw[sB q (λc hc(e:c=b)=>hp (e▸hc)),Ay h,Ay (by omega)]
 ·rw[sA (λc hc(e:c=b)=>h (e▸hc)),AF h]
  rfl
theorem Ahf{l:List UInt8}(h:∀c∈l,c≠b):LY l [b]=[l]:=by have hi:=sA h;unfold LY;rw[Lib.splitB_data];show Lib.splitK [b] 0 (Lib.count l [b]) l=[l];rw[Lib.count_miss hi];rfl
theorem sC{l:List UInt8}(r:List UInt8)(h:∀c∈l,c≠b):LY (l++b::r) [b]=l::LY r [b]:=by
 have hi:=sB r h
 have hd:(l++b::r).drop (l.length+1)=r:=by rw[show l++b::r=(l++[b])++r by simp];exact List.drop_left' (by simp)
 unfold LY;rw[Lib.splitB_data,Lib.splitB_data];show Lib.splitK [b] 0 (Lib.count (l++b::r) [b]) (l++b::r)=l::Lib.splitK [b] 0 (Lib.count r [b]) r;rw[Lib.count_hit (i:=l.length) (by simp) hi,LK];show Lib.splitK [b] 0 (Lib.count ((l++b::r).drop (l.length+1)) [b]+1) (l++b::r)=_;rw[hd];rw[Lib.splitK,hi,if_neg (by rw[beq_iff_eq];omega)];show(l++b::r).take (l.length:Int).toNat::Lib.splitK [b] 0 (Lib.count r [b]) ((l++b::r).drop ((l.length:Int).toNat+1))=_;rw[Bw,hd,VJ]
end
end Go.Lift
namespace Go.Lift
open Go.RowKit Go.IntWalk
noncomputable section
set_option maxRecDepth 10000
def Fl(c:UInt8):Prop:=48<=c.toNat/\c.toNat<=57
def valF(a:Nat)(l:List UInt8):Nat:=l.foldl (λa c=>a*10+(c.toNat-48)) a
theorem Ahg:∀(l:List UInt8)(a:Nat),a<=valF a l
 |[],a=>AC _
 |c::r,a=>by have:=Ahg r (a*10+(c.toNat-48));show a<=valF (a*10+(c.toNat-48)) r;omega
theorem Uf{m:Nat}(h:m<10):(UInt8.ofNat (48+m)).toNat=48+m:=by rw[UInt8.toNat_ofNat'];omega
theorem Ahh:∀(u:Nat),(∀c∈Lib.decDigits u,Fl c)/\valF 0 (Lib.decDigits u)=u/\Lib.decDigits u≠[]:=by
 intro u
 induction u using Nat.strongRecOn with
 |_ u ih=>
  rw[Lib.decDigits];split
  ·rename_i h
   refine⟨λc hc=>?_,?_,by simp⟩
   ·simp only[E9]at hc
    subst hc;unfold Fl;rw[Uf h];omega
   ·show 0*10+((UInt8.ofNat (48+u)).toNat-48)=u
    rw[Uf h];omega
  ·rename_i h
   obtain⟨h1,h2,h3⟩:=ih (u / 10) (by omega);refine⟨λc hc=>?_,?_,by simp⟩
   ·rcases Ci.1 hc with hc|hc
    ·exact h1 c hc
    ·simp only[E9]at hc
     subst hc;unfold Fl;rw[Uf (by omega)];omega
   ·unfold valF at h2⊢
    rw[List.foldl_append,h2];show u / 10*10+((UInt8.ofNat (48+u%10)).toNat-48)=u;rw[Uf (by omega)];omega
theorem Ahi:∀(l:List UInt8)(a:Nat),(∀c∈l,Fl c)->valF a l<=4611686018427387904->Lib.parseUint10 a l=.ok (valF a l)
 |[],a,_,_=>rfl
 |c::r,a,hd,hv=>by have hc:=hd c (by simp);unfold Fl at hc;have Cc:valF (a*10+(c.toNat-48)) r<=4611686018427387904:=hv;have:=Ahg r (a*10+(c.toNat-48));unfold Lib.parseUint10;rw[if_pos hc,if_neg (by omega),if_neg (by omega),Ahi r _ (λc h=>hd c (by simp[h])) Cc];rfl
end
end Go.Lift
namespace Go.Lift
open Go.RowKit Go.IntWalk
noncomputable section
variable[Sl]
set_option maxRecDepth 10000
def DB(n:Nat)(x:Int)(s:List UInt8):Prop:=s.length=n/\(∀c∈s,Fl c)/\(valF 0 s:Int)=x
theorem Axf(a:Nat)(l r:List UInt8):valF a (l++r)=valF (valF a l) r:=by unfold valF;rw[List.foldl_append]
theorem sD:∀(l:List UInt8)(a:Nat),(∀c∈l,Fl c)->valF a l<(a+1)*10^l.length
 |[],a,_=>by show a<(a+1)*1;omega
 |c::r,a,h=>by have hc:=h c (by simp);unfold Fl at hc;have:=sD r (a*10+(c.toNat-48)) λx hx=>h x (by simp[hx]);have h2:(a*10+(c.toNat-48)+1)*10^r.length<=((a+1)*10)*10^r.length:=KG _ (by omega);show valF (a*10+(c.toNat-48)) r<(a+1)*10^(r.length+1);rw[Nat.pow_succ,Nat.mul_comm (10^r.length) 10,<-Nat.mul_assoc];omega
theorem sE:∀(n u:Nat),u<10^(n+1)->(Lib.decDigits u).length<=n+1
 |0,u,h=>by rw[Lib.decDigits,dif_pos (show u<10 by omega)];simp
 |n+1,u,h=>by
  rw[Lib.decDigits];split
  ·simp
  ·have:=sE n (u / 10) (by rw[Nat.pow_succ]at h;omega)
   rw[AE,GY];omega
theorem Axg:∀(u:Nat),0<u->∃c r,Lib.decDigits u=c::r/\c.toNat≠48:=by
 intro u
 induction u using Nat.strongRecOn with
 |_ u ih=>
  intro hu;rw[Lib.decDigits];split
  ·rename_i h
   exact⟨_,[],rfl,by rw[Uf h];omega⟩
  ·rename_i h
   obtain⟨c,r,h1,h2⟩:=ih (u / 10) (by omega) (by omega);exact⟨c,r++_,by rw[h1];rfl,h2⟩
theorem Axh{s:List UInt8}(h:∀c∈s,Fl c)(hn:s≠[])(hv:valF 0 s<=4611686018427387904):Kd s=((valF 0 s:Int),true):=by
 have hm:Lib.parseMag s=.ok (valF 0 s):=by unfold Lib.parseMag;rw[if_neg hn,Ahi _ 0 h hv]
 have key:Lib.atoiAll s=.ok (valF 0 s:Int):=by
  cases s with
  |nil=>exact absurd rfl hn
  |cons c r=>
   have hc:=h c (by simp);unfold Fl at hc;unfold Lib.atoiAll;simp only;rw[if_neg (by omega),hm];have tY:¬(c.toNat=45):=by omega
   simp only[tY,VC,true_and,false_and,Cx];rw[if_neg (by omega)]
 unfold Kd;rw[key]
theorem Ahj(b:UInt8):∀n,Lib.repeatL [b] n=List.replicate n b
 |0=>rfl
 |n+1=>by rw[Lib.repeatL,Ahj b n];rfl
theorem Ahk:∀n,valF 0 (List.replicate n 48)=0
 |0=>rfl
 |n+1=>by rw[List.replicate_succ];exact Ahk n
theorem len2{s:List UInt8}(h:s.length=2):∃a b,s=[a,b]:=by
 match s,h with
 |[a,b],_=>exact⟨a,b,rfl⟩
theorem len4{s:List UInt8}(h:s.length=4):∃a b c d,s=[a,b,c,d]:=by
 match s,h with
 |[a,b,c,d],_=>exact⟨a,b,c,d,rfl⟩
theorem Axi{n:Nat}{x:Int}{s:List UInt8}(h:DB n x s):0<=x/\x<10^n:=by obtain⟨h1,h2,h3⟩:=h;have:=sD s 0 h2;rw[h1,DL,Nat.one_mul]at this;rw[<-h3];exact⟨by omega,by exact_mod_cast this⟩
theorem Iy{x:Int}{s:List UInt8}(h:DB 2 x s):0<=x/\x<=99:=by have:=Axi h;omega
section
variable{β:Type}
theorem Qj{x:Int}{n:Nat}(hn:1<=n/\n<=4)(hx:0<=x/\x<10^n):∃s,DB n x s/\∀{β:Type}(k:List UInt8->Option β),Ld x (n:Int) k=k s:=by
 obtain⟨m,rfl⟩:∃m,n=m+1:=⟨n-1,by omega⟩
 have hu:x.toNat<10^(m+1):=by
  have:=hx.2;have e:((10:Int)^(m+1))=((10^(m+1):Nat):Int):=by norm_cast
  rw[e]at this;omega
 have hp:10^(m+1)<=10^4:=Nat.pow_le_pow_right (by omega) hn.2;have Bb:=sE m x.toNat hu;obtain⟨h1,h2,h3⟩:=Ahh x.toNat
 have hi:Lib.itoa x=Lib.decDigits x.toNat:=by unfold Lib.itoa;rw[if_neg (by omega)]
 refine⟨List.replicate (m+1-(Lib.decDigits x.toNat).length) 48++Lib.decDigits x.toNat,⟨?_,λc hc=>?_,?_⟩,λk=>?_⟩
 ·rw[AE,LF]
  omega
 ·rcases Ci.1 hc with hc|hc
  ·rw[List.eq_of_mem_replicate hc]
   unfold Fl;decide
  ·exact h1 c hc
 ·rw[Axf,Ahk,h2]
  omega
 ·have Ail:0<(Lib.decDigits x.toNat).length:=OJ.2 h3
  unfold Ld;rw[Ad];unfold Ss RL;refine(c_p2 (by omega) (by omega)).trans ?_;rw[hi];dsimp only;rw[i64_in (((m+1:Nat):Int)-((Lib.decDigits x.toNat).length:Int)) (by omega)]
  have e:(if(((m+1:Nat):Int)-((Lib.decDigits x.toNat).length:Int))>(0:Int)then(((m+1:Nat):Int)-((Lib.decDigits x.toNat).length:Int))else(0:Int))=((m+1-(Lib.decDigits x.toNat).length:Nat):Int):=by split<;>omega
  rw[e];unfold jA WE;rw[Bw,Ahj];refine(c_p3 (by omega) (by omega) (by rw[GY];omega)).trans ?_;exact Ar (by rw[LF];omega)
theorem Axj{c:UInt8}(h:Fl c)(k:Bool->Option β):Nw (c.toNat:Int) k=k true:=by unfold Fl at h;unfold Nw;rw[Ad];refine(Ar (by omega)).trans ?_;exact k_eq (Ay (by omega))
theorem sF{s:List UInt8}(h:∀c∈s,Fl c)(hn:s≠[])(hl:s.length<=9)(k:Int->Bool->Option β):PH s k=k (valF 0 s:Int) true:=by
 have hv:valF 0 s<=4611686018427387904:=by have h1:=sD s 0 h;have h2:10^s.length<=10^9:=Nat.pow_le_pow_right (by omega) hl;omega
 have key:∀(j i m:Nat),i+j=s.length->j<m->∀(k1:kN β)(k2:kO β),SF m k1 k2 s (s.length:Int) (i:Int)=k2 s:=by
  intro j
  induction j with
  |zero=>intro i m hi hm k1 k2;obtain⟨m,rfl⟩:∃m',m=m'+1:=⟨m-1,by omega⟩;simp only[AcL,X2];exact An (by omega)
  |succ j ih=>
   intro i m hi hm k1 k2;obtain⟨m,rfl⟩:∃m',m=m'+1:=⟨m-1,by omega⟩;simp only[AcL,X2];refine(Ar (by omega)).trans ?_;refine(AR (by omega)).trans ?_;have Ao:i<s.length:=by omega
   have hd:Fl (List.getD s (Int.toNat (i:Int)) 0):=by rw[Bw,OC,DK Ao];exact h _ (List.getElem_mem Ao)
   refine(Axj hd _).trans ?_;rw[i64_in ((i:Int)+1) (by omega)];exact ih (i+1) m (by omega) (by omega) k1 k2
 unfold PH;rw[Ad];unfold kQ;rw[Ad];refine(key s.length 0 fuel (by omega) (BI (by omega)) _ _).trans ?_;unfold iZ WB;refine(Ar (by omega)).trans ?_;rw[Axh h hn hv];refine c_t.trans ?_;exact congrFun (At k rfl) _ |>.trans (by rw[Ay (show((s.length:Int)<=9) by omega)])
theorem Ug{x:Int}{s:List UInt8}(h:DB 2 x s)(k:Int->Bool->Option β):PI s k=k x true:=by obtain⟨h1,h2,h3⟩:=h;unfold PI;rw[Ad];refine(sF h2 (by intro e;rw[e]at h1;simp at h1) (by omega) _).trans ?_;refine c_t.trans ?_;rw[h3,h1];rfl
theorem Axk:∃m,fuel=m+4:=⟨fuel-4,by have:=BI (n:=4) (by omega);omega⟩
theorem Ahl{a b c:Int}{A B C:List UInt8}(hA:DB 2 a A)(hB:DB 2 b B)(hC:DB 2 c C)(hb:b<=59)(hc:c<=59)(k1:lO β)(k2:lP β):XL k1 k2 0 3 0 [A,B,C]=k2 (60*(60*a+b)+c):=by
 have aB:=Iy hA;have Aw:=Iy hB;have Gr:=Iy hC;unfold XL;rw[Ad];obtain⟨m,hm⟩:=Axk;rw[hm];simp only[Arz,lR];refine(Ar (by decide)).trans ?_;refine(AR (by simp only[Ba,CJ];omega)).trans ?_;refine(Ug hA _).trans ?_;refine c_f.trans ?_;refine(An (by decide)).trans ?_;rw[show IntKind.i64.wrap (60*(0:Int))=0 by decide,show IntKind.i64.wrap ((0:Int)+a)=a by rw[i64_in _ (by omega)];omega,show IntKind.i64.wrap ((0:Int)+1)=1 by decide];refine(Ar (by decide)).trans ?_;refine(AR (by simp only[Ba,CJ];omega)).trans ?_;refine(Ug hB _).trans ?_;refine c_f.trans ?_;refine(Ar (by decide)).trans ?_;refine(An (by omega)).trans ?_;rw[i64_in (60*a) (by omega),i64_in (60*a+b) (by omega),show IntKind.i64.wrap ((1:Int)+1)=2 by decide];refine(Ar (by decide)).trans ?_;refine(AR (by simp only[Ba,CJ];omega)).trans ?_;refine(Ug hC _).trans ?_;refine c_f.trans ?_;refine(Ar (by decide)).trans ?_;refine(An (by omega)).trans ?_;rw[i64_in (60*(60*a+b)) (by omega),i64_in (60*(60*a+b)+c) (by omega),show IntKind.i64.wrap ((2:Int)+1)=3 by decide];exact An (by decide)
theorem GF{b:UInt8}(hb:b.toNat<48\/57<b.toNat){s:List UInt8}(h:∀c∈s,Fl c):∀c∈s,c≠b:=by intro c hc e;have:=h c hc;unfold Fl at this;rw[e]at this;omega
theorem Ahm{a b:Int}{A B:List UInt8}(hA:DB 2 a A)(hB:DB 2 b B)(hb:b<=59)(hs:3600*a+60*b<=86400)(k:Int->Bool->Option β):Kj (A++58::B) k=k (3600*a+60*b) true:=by
 have aB:=Iy hA;have Aw:=Iy hB;have hC:DB 2 0 [48,48]:=⟨rfl,by intro c hc;simp at hc;subst hc;unfold Fl;decide,rfl⟩;have e:=sC (b:=58) B (GF (by decide) hA.2.1);rw[Ahf (GF (by decide) hB.2.1)]at e;unfold Kj;rw[Ad];unfold Sf RM;refine(c_p2 (by rw[AE,Ba,hA.1,hB.1];decide) (by decide)).trans ?_;rw[e];refine(An (by simp only[Ba,CJ];omega)).trans ?_;refine(An (by simp only[Ba,CJ];omega)).trans ?_;refine(DV (by simp only[Ba,CJ];omega)).trans ?_;refine(c_p2 (by omega) (by simp only[AE,Ba,CJ];omega)).trans ?_;refine(Ahl hA hB hC hb (by omega) _ _).trans ?_;show k _ (decide _)=_;rw[show 60*(60*a+b)+0=3600*a+60*b by omega,Ay (by omega)]
theorem Ahn{a b c:Int}{A B C:List UInt8}(hA:DB 2 a A)(hB:DB 2 b B)(hC:DB 2 c C)(hb:b<=59)(hc:c<=59)(hs:3600*a+60*b+c<=86400)(k:Int->Bool->Option β):Kj (A++58::(B++58::C)) k=k (3600*a+60*b+c) true:=by
 have aB:=Iy hA;have Aw:=Iy hB;have Gr:=Iy hC;have e:=sC (b:=58) (B++58::C) (GF (by decide) hA.2.1);rw[sC (b:=58) C (GF (by decide) hB.2.1),Ahf (GF (by decide) hC.2.1)]at e;unfold Kj;rw[Ad];unfold Sf RM;refine(c_p2 (by simp only[AE,Ba,hA.1,hB.1,hC.1];decide) (by decide)).trans ?_;rw[e];refine(An (by simp only[Ba,CJ];omega)).trans ?_;refine(An (by simp only[Ba,CJ];omega)).trans ?_;refine(DV (by simp only[Ba,CJ];omega)).trans ?_;refine(c_p2 (by omega) (by simp only[AE,Ba,CJ];omega)).trans ?_;refine(Ahl hA hB hC hb hc _ _).trans ?_;show k _ (decide _)=_;rw[show 60*(60*a+b)+c=3600*a+60*b+c by omega,Ay (by omega)]
theorem Aho{y m d day:Int}{Y M D:List UInt8}(hY:DB 4 y Y)(hM:DB 2 m M)(hD:DB 2 d D)(h:∀{β:Type}(k:Int->Int->Option β),N4 (y,m,d) k=k day 0)(k:Int->Bool->Option β):N6 (Y++45::(M++45::D)) k=k day true:=by
 obtain⟨y1,y2,y3,y4,rfl⟩:=len4 hY.1;obtain⟨m1,m2,rfl⟩:=len2 hM.1;obtain⟨d1,d2,rfl⟩:=len2 hD.1;unfold N6;rw[Ad];refine(BJ rfl).trans ?_;refine(AR (by simp only[Ba,AE,CJ];omega)).trans ?_;refine(BJ rfl).trans ?_;refine(AR (by simp only[Ba,AE,CJ];omega)).trans ?_;refine(BJ rfl).trans ?_;refine(c_p3 (by decide) (by decide) (by simp only[Ba,AE,CJ];omega)).trans ?_;refine(sF (s:=[y1,y2,y3,y4]) hY.2.1 (by simp) (by simp) _).trans ?_;refine(c_p3 (by decide) (by decide) (by simp only[Ba,AE,CJ];omega)).trans ?_;refine(Ug (s:=[m1,m2]) hM _).trans ?_;refine(c_p3 (by decide) (by simp only[Ba,AE,CJ];omega) (by omega)).trans ?_;refine(Ug (s:=[d1,d2]) hD _).trans ?_;rw[hY.2.2];refine(h _).trans ?_;rfl
theorem Axl{a b:Int}{A B:List UInt8}{g:UInt8}(hA:DB 2 a A)(hB:DB 2 b B)(hb:b<=59)(hs:3600*a+60*b<=64800)(k:Int->Bool->Option β):Tm (g::(A++58::B)) k=k (if g=45 then-(3600*a+60*b)else 3600*a+60*b) true:=by
 have aB:=Iy hA;have Aw:=Iy hB;have hl:(g::(A++58::B)).length=6:=by simp only[Ba,AE,hA.1,hB.1]
 unfold Tm;rw[Ad];refine(c_p3 (by decide) (by rw[hl];decide) (by omega)).trans ?_
 have e:List.drop (Int.toNat 1) (List.take (Int.toNat ((g::(A++58::B)).length:Int)) (g::(A++58::B)))=A++58::B:=by rw[Bw,Jp];rfl
 rw[e];refine(Ahm hA hB hb (by omega) _).trans ?_;refine(AR (by rw[hl];decide)).trans ?_;by_cases hg:g=45
 ·subst hg
  refine(Ar rfl).trans ?_;rw[i64_in (0-(3600*a+60*b)) (by omega),if_pos rfl];unfold Tl;rw[Ad];unfold Yu;refine c_t.trans ?_;refine(Ar (by rw[hl];rfl)).trans ?_;refine(Ar (by omega)).trans ?_;show k _ (decide _)=_;rw[Ay (by omega),show 0-(3600*a+60*b)=-(3600*a+60*b) by omega]
 ·refine(An (λe=>hg ?_)).trans ?_
  ·have:g.toNat=45:=by have e:((g.toNat:Nat):Int)=45:=e;omega
   exact UInt8.toNat_inj.1 this
  ·rw[if_neg hg]
   unfold Tl;rw[Ad];unfold Yu;refine c_t.trans ?_;refine(Ar (by rw[hl];rfl)).trans ?_;refine(Ar (by omega)).trans ?_;show k _ (decide _)=_;rw[Ay (by omega)]
theorem Axm{y m d day a b c:Int}{Y M D A B C:List UInt8}(hY:DB 4 y Y)(hM:DB 2 m M)(hD:DB 2 d D)(h:∀{β:Type}(k:Int->Int->Option β),N4 (y,m,d) k=k day 0)(hd:0<=day/\day<=100000)(hA:DB 2 a A)(hB:DB 2 b B)(hC:DB 2 c C)(ha:a<=23)(hb:b<=59)(hc:c<=59)(k:Int->Bool->Option β):PQ (Y++45::(M++45::(D++84::(A++58::(B++58::(C++[90])))))) k=k (day*86400+(3600*a+60*b+c)) true:=by
 have aB:=Iy hA;have Aw:=Iy hB;have Gr:=Iy hC;have e1:=λk=>Aho (β:=β) hY hM hD h k;have e2:=λk=>Ahn (β:=β) hA hB hC hb hc (by omega) k;obtain⟨y1,y2,y3,y4,rfl⟩:=len4 hY.1;obtain⟨m1,m2,rfl⟩:=len2 hM.1;obtain⟨d1,d2,rfl⟩:=len2 hD.1;obtain⟨a1,a2,rfl⟩:=len2 hA.1;obtain⟨b1,b2,rfl⟩:=len2 hB.1;obtain⟨c1,c2,rfl⟩:=len2 hC.1;unfold PQ;rw[Ad];refine(BJ rfl).trans ?_;refine(AR (by simp only[Ba,AE,CJ];omega)).trans ?_;refine(BJ rfl).trans ?_;refine(AR (by simp only[Ba,AE,CJ];omega)).trans ?_;refine(BJ rfl).trans ?_;refine(c_p3 (by decide) (by decide) (by simp only[Ba,AE,CJ];omega)).trans ?_;refine(e1 _).trans ?_;refine(c_p3 (by decide) (by decide) (by simp only[Ba,AE,CJ];omega)).trans ?_;refine(e2 _).trans ?_;refine c_t.trans ?_;refine c_t.trans ?_;show k _ (decide _)=_;rw[i64_in (day*86400) (by omega),i64_in (day*86400+(3600*a+60*b+c)) (by omega),Ay (by omega)]
end
end
end Go.Lift
namespace Go.Lift
open Go.RowKit Go.IntWalk
noncomputable section
variable[Sl]
set_option maxRecDepth 10000
section
variable{β:Type}
theorem sG{c:Int}(h:c<97)(k:Bool->Option β):Me c k=k false:=by unfold Me;rw[Ad];exact An (by omega)
theorem Ahp{g:UInt8}{r:List UInt8}(hg:g.toNat<97)(hl:r.length<=23)(k:Bool->Option β):Ki (g::r) k=k false:=by unfold Ki;rw[Ad];refine(An (by simp)).trans ?_;refine(An (by rw[Ba];omega)).trans ?_;refine(AR (by rw[Ba];omega)).trans ?_;refine(sG (by show((g.toNat:Nat):Int)<97;omega) _).trans ?_;rfl
theorem sH{s:List UInt8}(b:UInt8)(hl:s.length<1000)(k:Bool->Option β):PC s [b] k=k (decide (b∈s)):=by unfold PC WC;rw[Axe];exact Ar (by omega)
theorem Axn{c:UInt8}{r:List UInt8}(hc:c.toNat<97/\c.toNat≠43/\c.toNat≠45)(hl:(c::r).length<1000)(k:Int->Int->Bool->Option β):Lf (c::r) k=cond (decide (84∈c::r)) (PQ (c::r) λn ok=>k 5 n ok) (cond (decide (45∈c::r)) (N6 (c::r) λn ok=>k 3 n ok) (cond (decide (58∈c::r)) (Kj (c::r) λn ok=>k 2 n ok) (PR (λa b d=>k a b d) (c::r)))):=by
 unfold Lf;rw[Ad];refine(AR (by rw[Ba];omega)).trans ?_;refine(sG (by show((c.toNat:Nat):Int)<97;omega) _).trans ?_;refine c_f.trans ?_;refine(An (by show ¬((c.toNat:Nat):Int)=43;omega)).trans ?_;dsimp only;rw[AF (show ¬(((List.getD (c::r) (Int.toNat 0) 0).toNat:Nat):Int)=45 by show ¬((c.toNat:Nat):Int)=45;omega)];unfold PS;rw[Ad];unfold Tx;refine c_f.trans ?_;refine(sH 84 hl _).trans ?_;congr 1;refine(sH 45 hl _).trans ?_;congr 1;refine(sH 58 hl _).trans ?_;rfl
def HeadOk(s:List UInt8):Prop:=∃c r,s=c::r/\c.toNat<97/\c.toNat≠43/\c.toNat≠45
theorem HeadOk.app{p:List UInt8}(h:HeadOk p)(q:List UInt8):HeadOk (p++q):=by obtain⟨c,r,rfl,h⟩:=h;exact⟨c,r++q,rfl,h⟩
theorem Uh{s:List UInt8}(h:HeadOk s)(hl:s.length<1000)(k:Int->Int->Bool->Option β):Lf s k=cond (decide (84∈s)) (PQ s λn ok=>k 5 n ok) (cond (decide (45∈s)) (N6 s λn ok=>k 3 n ok) (cond (decide (58∈s)) (Kj s λn ok=>k 2 n ok) (PR (λa b d=>k a b d) s))):=by
 obtain⟨c,r,rfl,h⟩:=h;exact Axn h hl k
theorem Ui{s:List UInt8}(h:HeadOk s)(hl:s.length<=20)(k:Bool->Option β):Ki s k=k false:=by obtain⟨c,r,rfl,h⟩:=h;exact Ahp h.1 (by rw[Ba]at hl;omega) k
theorem Axo{c:UInt8}{r:List UInt8}(hc:c.toNat=43\/c.toNat=45)(k:Int->Int->Bool->Option β):Lf (c::r) k=Tm (c::r) λn ok=>k 4 n ok:=by
 unfold Lf;rw[Ad];refine(AR (by rw[Ba];omega)).trans ?_;refine(sG (by show((c.toNat:Nat):Int)<97;omega) _).trans ?_;refine c_f.trans ?_;by_cases h:c.toNat=43
 ·refine(Ar (by show((c.toNat:Nat):Int)=43;omega)).trans ?_
  unfold PS;rw[Ad];unfold Tx;exact c_t
 ·refine(An (by show ¬((c.toNat:Nat):Int)=43;omega)).trans ?_
  dsimp only;rw[Ay (show(((List.getD (c::r) (Int.toNat 0) 0).toNat:Nat):Int)=45 by show((c.toNat:Nat):Int)=45;omega)];unfold PS;rw[Ad];unfold Tx;exact c_t
theorem Qk{s:List UInt8}{kind n:Int}(hs:s≠[])(hk:kind≠0)(h:∀{β:Type}(k:Int->Int->Bool->Option β),Lf s k=k kind n true)(k:Int×List UInt8×Int->Int->Option β):N8 s k=k (kind,[],n) 0:=by
 unfold N8;rw[Ad];refine(An hs).trans ?_;refine(h _).trans ?_;refine c_f.trans ?_;dsimp only;rw[AF hk];rfl
structure TokText (t:Int×List UInt8×Int) (s:List UInt8):Prop where
 txt:∀{β:Type}(k:List UInt8->Int->Option β),N7 t k=k s 0
 tok:∀{β:Type}(k:Int×List UInt8×Int->Int->Option β),N8 s k=k t 0
 nam:∀{β:Type}(k:Bool->Option β),Ki s k=k false
 ne:s≠[]
 ch:∀c∈s,43<=c.toNat/\c.toNat<=90
 len:s.length<=20
theorem GG{s:List UInt8}(h:∀c∈s,Fl c):∀c∈s,43<=c.toNat/\c.toNat<=90:=λc hc=>by have:=h c hc;unfold Fl at this;omega
theorem Jc{p q:List UInt8}{b:UInt8}(hp:∀c∈p,43<=c.toNat/\c.toNat<=90)(hb:43<=b.toNat/\b.toNat<=90)(hq:∀c∈q,43<=c.toNat/\c.toNat<=90):∀c∈p++b::q,43<=c.toNat/\c.toNat<=90:=by
 intro c hc;rcases Ci.1 hc with hc|hc
 ·exact hp c hc
 ·rcases Bf.1 hc with rfl|hc
  ·exact hb
  ·exact hq c hc
theorem Mp{p q:List UInt8}{a b:UInt8}(hp:∀c∈p,c≠a)(hb:b≠a)(hq:∀c∈q,c≠a):∀c∈p++b::q,c≠a:=by
 intro c hc;rcases Ci.1 hc with hc|hc
 ·exact hp c hc
 ·rcases Bf.1 hc with rfl|hc
  ·exact hb
  ·exact hq c hc
theorem Mq{s:List UInt8}{a:UInt8}(h:∀c∈s,c≠a):decide (a∈s)=false:=AF λhm=>h a hm rfl
theorem sI{p q:List UInt8}{a:UInt8}:decide (a∈p++a::q)=true:=Ay (by simp)
theorem sJ{n:Nat}{x:Int}{s:List UInt8}(h:DB (n+1) x s):HeadOk s:=by
 match s,h with
 |[],h=>exact absurd h.1 (by simp)
 |c::r,h=>have:=h.2.1 c (by simp);unfold Fl at this;exact⟨c,r,rfl,by omega,by omega,by omega⟩
theorem sK{n:Int}(hn:0<=n/\n<=300000):∃A B C,DB 2 (n / 3600) A/\DB 2 (n / 60%60) B/\DB 2 (n%60) C/\∀{β:Type}(sec:Bool)(k:List UInt8->Option β),N3 n sec k=k (cond sec (A++58::(B++58::C)) (A++58::B)):=by
 obtain⟨A,hA,fA⟩:=Qj (x:=n / 3600) (n:=2) (by omega) (by omega);obtain⟨B,hB,fB⟩:=Qj (x:=n / 60%60) (n:=2) (by omega) (by omega);obtain⟨C,hC,fC⟩:=Qj (x:=n%60) (n:=2) (by omega) (by omega);have e1:Int.tdiv n 3600=n / 3600:=GW hn.1;have e2:Int.tdiv n 60=n / 60:=GW hn.1;have e3:Int.tmod (n / 60) 60=n / 60%60:=FH (by omega);have e4:Int.tmod n 60=n%60:=FH hn.1;refine⟨A,B,C,hA,hB,hC,λsec k=>?_⟩;unfold N3;rw[Ad];rw[e1,i64_in (n / 3600) (by omega)];refine(fA _).trans ?_;refine(Ar (by rw[hA.1];decide)).trans ?_;rw[e2,i64_in (n / 60) (by omega),e3];refine(fB _).trans ?_;refine(Ar (by rw[AE,hA.1,hB.1];decide)).trans ?_;cases sec with
 |false=>refine c_f.trans ?_;exact k_eq (by simp)
 |true=>refine c_t.trans ?_;rw[e4];refine(fC _).trans ?_;refine(Ar (by rw[hC.1];decide)).trans ?_;refine(Ar (by simp only[AE,hA.1,hB.1,hC.1];decide)).trans ?_;exact k_eq (by simp)
theorem Ahq{day:Int}(h:0<=day/\day<98981):∃y m d Y M D,DB 4 y Y/\DB 2 m M/\DB 2 d D/\(∀{β:Type}(k:Int->Int->Option β),N4 (y,m,d) k=k day 0)/\∀{β:Type}(k:List UInt8->Bool->Option β),SU day k=k (Y++45::(M++45::D)) true:=by
 obtain⟨y,m,d,q⟩:=Agt h;have q1:=q.yr;have q2:=q.mo;have q3:=q.dd;obtain⟨Y,hY,fY⟩:=Qj (x:=y) (n:=4) (by omega) (by omega);obtain⟨M,hM,fM⟩:=Qj (x:=m) (n:=2) (by omega) (by omega);obtain⟨D,hD,fD⟩:=Qj (x:=d) (n:=2) (by omega) (by omega);refine⟨y,m,d,Y,M,D,hY,hM,hD,q.day,λk=>?_⟩;unfold SU;rw[Ad];refine(q.of _).trans ?_;refine(fY _).trans ?_;refine(Ar (by rw[hY.1];decide)).trans ?_;refine(fM _).trans ?_;refine(Ar (by simp only[AE,hY.1,hM.1];decide)).trans ?_;refine(Ar (by simp only[AE,hY.1,hM.1];decide)).trans ?_;refine(fD _).trans ?_;refine(Ar (by simp only[AE,hY.1,hM.1,hD.1];decide)).trans ?_;show k _ (decide _)=_;rw[Ay (by rfl)];simp
theorem Ql{t:Int×List UInt8×Int}{s:List UInt8}(h0:t.1≠0)(h1:t.2.1=[])(h:∀{β:Type}(k:List UInt8->Bool->Option β),Le t k=k s true)(k:List UInt8->Int->Option β):N7 t k=k s 0:=by unfold N7;rw[Ad];refine(An h0).trans ?_;refine(h _).trans ?_;refine c_f.trans ?_;exact BJ h1
theorem Axp{n:Int}(hn:0<=n/\n<=999999999):∃s,TokText (1,[],n) s:=by
 obtain⟨h1,h2,h3⟩:=Ahh n.toNat;have Bb:=sE 8 n.toNat (by omega)
 have hi:Lib.itoa n=Lib.decDigits n.toNat:=by unfold Lib.itoa;rw[if_neg (by omega)]
 have Az1:∃c r,Lib.decDigits n.toNat=c::r/\(c.toNat≠48\/Lib.decDigits n.toNat=[48]):=by
  by_cases h:n.toNat=0
  ·rw[h]
   exact⟨48,[],by rw[Lib.decDigits,dif_pos (by omega)];rfl,.inr (by rw[Lib.decDigits,dif_pos (by omega)];rfl)⟩
  ·obtain⟨c,r,h4,h5⟩:=Axg n.toNat (by omega)
   exact⟨c,r,h4,.inl h5⟩
 obtain⟨c,r,e,hz⟩:=Az1;have hc:=h1 c (by rw[e];simp);unfold Fl at hc;refine⟨Lib.decDigits n.toNat,Ql (by show(1:Int)≠0;decide) rfl λk=>?_,Qk h3 (by decide) λk=>?_,λk=>?_,h3,GG h1,by omega⟩
 ·unfold Le
  rw[Ad];unfold Ss RL;refine c_t.trans ?_;refine(c_p2 (by show-9223372036854775808<=n;omega) (by show n<=9223372036854775807;omega)).trans ?_;refine(Ar (by show 0<=n;omega)).trans ?_;show k _ (decide _)=_;rw[Ay (by show n<=999999999;omega)];show k (Lib.itoa n) true=_;rw[hi]
 ·refine(Uh ⟨c,r,e,by omega,by omega,by omega⟩ (by omega) _).trans ?_
  rw[Mq (GF (by decide) h1),Mq (GF (by decide) h1),Mq (GF (by decide) h1)];refine c_f.trans (c_f.trans (c_f.trans ?_));unfold PR;rw[Ad];unfold oI;refine(sF h1 h3 (by omega) _).trans ?_;refine c_t.trans ?_;refine(AR (by have:=OJ.2 h3;omega)).trans ?_;rw[show((valF 0 (Lib.decDigits n.toNat):Nat):Int)=n by rw[h2];omega];by_cases h0:c.toNat=48
  ·refine(BJ (by rw[e];show((c.toNat:Nat):Int)=48;omega)).trans ?_
   rcases hz with hz|hz
   ·exact absurd h0 hz
   ·show k _ _ (decide _)=_
    rw[Ay hz]
  ·exact Hf (by rw[e];show ¬((c.toNat:Nat):Int)=48;omega)
 ·exact Ui ⟨c,r,e,by omega,by omega,by omega⟩ (by omega) k
theorem Axq{n:Int}(hn:0<=n/\n<=86400):∃s,TokText (2,[],n) s:=by
 obtain⟨A,B,C,hA,hB,hC,f⟩:=sK (n:=n) (by omega);have ha:=sJ hA;have e4:Int.tmod n 60=n%60:=FH hn.1
 have ht:∀{β:Type}(k:List UInt8->Bool->Option β),Le (2,[],n) k=N3 n (!decide (n%60=0)) λs=>k s true:=by intro β k;unfold Le;rw[Ad];refine c_f.trans (c_t.trans ?_);refine(Ar (by show 0<=n;omega)).trans ?_;unfold Ys;rw[Ad];unfold nF;dsimp only;rw[e4,Ay (show n<=86400 by omega)]
 have nA:=GF (b:=84) (by decide) hA.2.1;have nB:=GF (b:=84) (by decide) hB.2.1;have nC:=GF (b:=84) (by decide) hC.2.1;have mA:=GF (b:=45) (by decide) hA.2.1;have mB:=GF (b:=45) (by decide) hB.2.1;have mC:=GF (b:=45) (by decide) hC.2.1;have lA:=hA.1;by_cases h0:n%60=0
 ·refine⟨A++58::B,Ql (by show(2:Int)≠0;decide) rfl λk=>?_,Qk (by simp) (by decide) λk=>?_,λk=>Ui (ha.app _) (by simp only[AE,Ba,hB.1,lA];omega) k,by simp,
   Jc (GG hA.2.1) (by decide) (GG hB.2.1),by simp only[AE,Ba,hB.1,lA];omega⟩
  ·refine(ht k).trans ((f _ _).trans ?_)
   rw[Ay h0];rfl
  ·refine(Uh (ha.app _) (by simp only[AE,Ba,hB.1,lA];omega) _).trans ?_
   have x1:=Mq (Mp nA (show(58:UInt8)≠84 by decide) nB);have x2:=Mq (Mp mA (show(58:UInt8)≠45 by decide) mB);have x3:=sI (p:=A) (q:=B) (a:=58);rw[x1,x2,x3];refine c_f.trans (c_f.trans (c_t.trans ?_));refine(Ahm hA hB (by omega) (by omega) _).trans ?_;rw[show 3600*(n / 3600)+60*(n / 60%60)=n by omega]
 ·refine⟨A++58::(B++58::C),Ql (by show(2:Int)≠0;decide) rfl λk=>?_,Qk (by simp) (by decide) λk=>?_,λk=>Ui (ha.app _) (by simp only[AE,Ba,hB.1,hC.1,lA];omega) k,by simp,
   Jc (GG hA.2.1) (by decide) (Jc (GG hB.2.1) (by decide) (GG hC.2.1)),by simp only[AE,Ba,hB.1,hC.1,lA];omega⟩
  ·refine(ht k).trans ((f _ _).trans ?_)
   rw[AF h0];rfl
  ·refine(Uh (ha.app _) (by simp only[AE,Ba,hB.1,hC.1,lA];omega) _).trans ?_
   have x1:=Mq (Mp nA (show(58:UInt8)≠84 by decide) (Mp nB (show(58:UInt8)≠84 by decide) nC));have x2:=Mq (Mp mA (show(58:UInt8)≠45 by decide) (Mp mB (show(58:UInt8)≠45 by decide) mC));have x3:=sI (p:=A) (q:=B++58::C) (a:=58);rw[x1,x2,x3];refine c_f.trans (c_f.trans (c_t.trans ?_));refine(Ahn hA hB hC (by omega) (by omega) (by omega) _).trans ?_;rw[show 3600*(n / 3600)+60*(n / 60%60)+n%60=n by omega]
theorem Axr{n:Int}(hn:0<=n/\n<98981):∃s,TokText (3,[],n) s:=by
 obtain⟨y,m,d,Y,M,D,hY,hM,hD,hq,f⟩:=Ahq hn;have ha:=sJ hY;have lY:=hY.1
 refine⟨Y++45::(M++45::D),Ql (by show(3:Int)≠0;decide) rfl λk=>?_,Qk (by simp) (by decide) λk=>?_,λk=>Ui (ha.app _) (by simp only[AE,Ba,hM.1,hD.1,lY];omega) k,by simp,
  Jc (GG hY.2.1) (by decide) (Jc (GG hM.2.1) (by decide) (GG hD.2.1)),by simp only[AE,Ba,hM.1,hD.1,lY];omega⟩
 ·unfold Le
  rw[Ad];refine c_f.trans (c_f.trans (c_t.trans ?_));exact f _
 ·refine(Uh (ha.app _) (by simp only[AE,Ba,hM.1,hD.1,lY];omega) _).trans ?_
  have x1:=Mq (Mp (GF (b:=84) (by decide) hY.2.1) (show(45:UInt8)≠84 by decide) (Mp (GF (b:=84) (by decide) hM.2.1) (show(45:UInt8)≠84 by decide) (GF (b:=84) (by decide) hD.2.1)));have x2:=sI (p:=Y) (q:=M++45::D) (a:=45);rw[x1,x2];refine c_f.trans (c_t.trans ?_);exact Aho hY hM hD hq _
theorem Axs{n:Int}(hn:-64800<=n/\n<=64800)(sV:n%60=0):∃s,TokText (4,[],n) s:=by
 have key:∀(p:Int)(g:UInt8),0<=p->p<=64800->p%60=0->(g=43/\n=p/\0<=n)\/(g=45/\n=-p/\n<0)->∃s,TokText (4,[],n) s:=by
  intro p g El CB E8 hg;obtain⟨A,B,C,hA,hB,hC,f⟩:=sK (n:=p) (by omega);have Ji:g.toNat=43\/g.toNat=45:=by rcases hg with⟨rfl,_⟩|⟨rfl,_⟩<;>decide
  have e4:Int.tmod p 60=p%60:=FH El
  have hp:∀{β:Type}(k1:Aeb β),Tk k1 p [g]=k1 (g::(A++58::B)) true:=by intro β k1;unfold Tk;rw[Ad];unfold nG;refine(f false _).trans ?_;refine(Ar (by simp only[AE,Ba,Cj,hA.1,hB.1];decide)).trans ?_;refine(Ar El).trans ?_;refine(Ar CB).trans ?_;show k1 _ (decide _)=_;rw[e4,Ay E8];rfl
  refine⟨g::(A++58::B),Ql (by show(4:Int)≠0;decide) rfl λk=>?_,Qk (by simp) (by decide) λk=>?_,λk=>Ahp (by omega) (by simp only[AE,Ba,hA.1,hB.1];decide) k,by simp,
   λc hc=>?_,by simp only[AE,Ba,hA.1,hB.1];decide⟩
  ·unfold Le
   rw[Ad];refine c_f.trans (c_f.trans (c_f.trans (c_t.trans ?_)));rcases hg with⟨rfl,rfl,h⟩|⟨rfl,rfl,h⟩
   ·refine(An (by show ¬n<0;omega)).trans ?_
    exact hp _
   ·refine(Ar (by show-p<0;omega)).trans ?_
    dsimp only;rw[show IntKind.i64.wrap (0- -p)=p by rw[i64_in _ (by omega)];omega];exact hp _
  ·refine(Axo Ji _).trans ?_
   refine(Axl hA hB (by omega) (by omega) _).trans ?_;rcases hg with⟨rfl,rfl,h⟩|⟨rfl,rfl,h⟩
   ·rw[if_neg (by decide),show 3600*(n / 3600)+60*(n / 60%60)=n by omega]
   ·rw[if_pos rfl,show 3600*(p / 3600)+60*(p / 60%60)=p by omega]
  ·rcases Bf.1 hc with rfl|hc
   ·omega
   ·exact Jc (GG hA.2.1) (by decide) (GG hB.2.1) c hc
 by_cases h:n<0
 ·exact key (-n) 45 (by omega) (by omega) (by omega) (.inr ⟨rfl,by omega,h⟩)
 ·exact key n 43 (by omega) (by omega) sV (.inl ⟨rfl,rfl,by omega⟩)
theorem Axt{n:Int}(hn:0<=n/\n<98981*86400):∃s,TokText (5,[],n) s:=by
 obtain⟨y,m,d,Y,M,D,hY,hM,hD,hq,f⟩:=Ahq (day:=n / 86400) (by omega);obtain⟨A,B,C,hA,hB,hC,f2⟩:=sK (n:=n%86400) (by omega);have ha:=sJ hY;have lY:=hY.1;have e1:Int.tdiv n 86400=n / 86400:=GW hn.1;have e2:Int.tmod n 86400=n%86400:=FH hn.1
 refine⟨Y++45::(M++45::(D++84::(A++58::(B++58::(C++[90]))))),Ql (by show(5:Int)≠0;decide) rfl λk=>?_,Qk (by simp) (by decide) λk=>?_,
  λk=>Ui (ha.app _) (by simp only[AE,Ba,CJ,hM.1,hD.1,hA.1,hB.1,hC.1,lY];omega) k,by simp,
  Jc (GG hY.2.1) (by decide) (Jc (GG hM.2.1) (by decide) (Jc (GG hD.2.1) (by decide) (Jc (GG hA.2.1) (by decide) (Jc (GG hB.2.1) (by decide) (Jc (GG hC.2.1) (by decide) (by simp)))))),
  by simp only[AE,Ba,CJ,hM.1,hD.1,hA.1,hB.1,hC.1,lY];omega⟩
 ·unfold Le
  rw[Ad];refine c_f.trans (c_f.trans (c_f.trans (c_f.trans (c_t.trans ?_))));dsimp only;rw[e1,i64_in (n / 86400) (by omega)];refine(f _).trans ?_;refine(Ar (by simp only[AE,Ba,CJ,hM.1,hD.1,lY];omega)).trans ?_;rw[e2];refine(f2 true _).trans ?_;refine(Ar (by simp only[AE,Ba,CJ,Am,hM.1,hD.1,hA.1,hB.1,hC.1,lY];omega)).trans ?_;refine(Ar (by simp only[AE,Ba,CJ,Am,hM.1,hD.1,hA.1,hB.1,hC.1,lY];omega)).trans ?_;refine c_t.trans ?_;show k _ (decide _)=_;rw[Ay hn.1];simp
 ·refine(Uh (ha.app _) (by simp only[AE,Ba,CJ,hM.1,hD.1,hA.1,hB.1,hC.1,lY];omega) _).trans ?_
  have x1:decide (84∈Y++45::(M++45::(D++84::(A++58::(B++58::(C++[90]))))))=true:=Ay (by simp);rw[x1];refine c_t.trans ?_;refine(Axm hY hM hD hq (by omega) hA hB hC (by omega) (by omega) (by omega) _).trans ?_;rw[show n / 86400*86400+(3600*(n%86400 / 3600)+60*(n%86400 / 60%60)+n%86400%60)=n by omega]
end
end
end Go.Lift
namespace Go.Lift
open Go.RowKit Go.IntWalk
noncomputable section
variable[Sl]
set_option maxRecDepth 10000
def Txt(t:Tok)(s:List UInt8):Prop:=∀{β:Type}(k:List UInt8->Int->Option β),N7 t k=k s 0
theorem Txt.uniq{t:Tok}{s s':List UInt8}(h:Txt t s)(h':Txt t s'):s=s':=
 MM ((h λa _=>some a).symm.trans (h' λa _=>some a))
def txOf(t:Tok):List UInt8:=by
 classical exact if h:∃s,Txt t s then Classical.choose h else []
theorem Ahr{t:Tok}{s:List UInt8}(h:Txt t s):txOf t=s:=by have hx:∃s,Txt t s:=⟨s,h⟩;unfold txOf;rw[dif_pos hx];exact Txt.uniq (t:=t) (Classical.choose_spec hx) h
def tw(t:Tok):Nat:=if t.1=0 then t.2.1.length else 20
structure TokG (t:Tok):Prop where
 txt:Txt t (txOf t)
 len:(txOf t).length<=tw t
 tok:∀{β:Type}(k:Tok->Int->Option β),N8 (txOf t) k=k t 0
 ne:txOf t≠[]
 ch:∀c∈txOf t,33<=c.toNat/\c.toNat<=126/\c.toNat≠35
theorem CO{s:List UInt8}(h:Cg s=true):TokG (wd s):=by
 have hx:Txt (wd s) s:=by intro β k;unfold N7;rw[Ad];refine(Ar rfl).trans ?_;refine(r5 _ _).trans ?_;show cond (!Cg s) _ _=_;rw[h];refine c_f.trans ?_;exact BJ (p:=(wd s).2.2=0) rfl
 have e:=Ahr hx
 have AL:s≠[]:=by intro g;rw[g]at h;cases h
 have Ut:s.all Jz=true:=by unfold Cg at h;simp only[C5]at h;exact h.2.2.2
 have AzW:Ja (s.getD 0 0).toNat=true:=by unfold Cg at h;simp only[C5]at h;exact h.2.2.1
 refine⟨by rw[e];exact hx,by rw[e];exact AC _,λ{β} k=>?_,by rw[e];exact AL,λc hc=>?_⟩
 ·rw[e]
  unfold N8;rw[Ad];refine(An AL).trans ?_;unfold Lf;rw[Ad];have Bb:0<s.length:=OJ.2 AL;refine(AR (show(0:Int)<=0/\(0:Int)<(s.length:Int) by omega)).trans ?_;refine(r4 _ _).trans ?_;rw[show Ja ((s.getD (Int.toNat (0:Int)) 0).toNat:Int)=true from AzW];refine c_t.trans ?_;refine(r5 _ _).trans ?_;rw[h];rfl
 ·rw[e]at hc
  have h1:=Ef.1 Ut c hc;unfold Jz Ja ND inI at h1;simp only[KI,C5,IH]at h1;omega
theorem Uj{t n:Int}{s:List UInt8}(ht:t≠0)(h:TokText (t,[],n) s):TokG (nu t n):=by
 have e:=Ahr (t:=nu t n) h.txt;refine⟨by rw[e];exact h.txt,?_,λk=>by rw[e];exact h.tok k,by rw[e];exact h.ne,λc hc=>?_⟩
 ·rw[e]
  unfold tw;rw[if_neg (show ¬(nu t n).1=0 from ht)];exact h.len
 ·rw[e]at hc
  have:=h.ch c hc;omega
theorem Uk{n:Int}(h:0<=n/\n<=999999999):TokG (nu 1 n):=let⟨_,h⟩:=Axp h;Uj (by decide) h
theorem ZW{n:Int}(h:0<=n/\n<=86400):TokG (nu 2 n):=let⟨_,h⟩:=Axq h;Uj (by decide) h
theorem Ahs{n:Int}(h:0<=n/\n<98981):TokG (nu 3 n):=let⟨_,h⟩:=Axr h;Uj (by decide) h
theorem Aht{n:Int}(h:-64800<=n/\n<=64800)(sV:n%60=0):TokG (nu 4 n):=let⟨_,h⟩:=Axs h sV;Uj (by decide) h
theorem Ahu{n:Int}(h:0<=n/\n<98981*86400):TokG (nu 5 n):=let⟨_,h⟩:=Axt h;Uj (by decide) h
def J6(ts:List Tok):List UInt8:=Lib.join (ts.map txOf) [32]
def lw:List Tok->Nat
 |[]=>0
 |t::r=>tw t+1+lw r
def Ga(ls:List (List Tok)):List UInt8:=ls.flatMap λts=>J6 ts++[10]
def lw3(ts:List Tok):Nat:=lw ts+2*ts.length
structure LineG (ts:List Tok):Prop where
 form:∀{β:Type}(k:Bool->Option β),DU ts k=k true
 toks:∀t∈ts,TokG t
 few:ts.length<=300
 room:lw3 ts<=512
theorem Ahv:∀{ts:List Tok},(∀t∈ts,TokG t)->(Lib.joinTail [32] (ts.map txOf)).length<=lw ts
 |[],_=>by simp[Lib.joinTail]
 |t::r,h=>by have h1:=(h t (Gh ..)).len;have h2:=Ahv (ts:=r) λx hx=>h x (Dm _ hx);unfold Lib.joinTail at h2⊢;simp only[CE,List.flatten_cons,AE,GY];unfold lw;omega
theorem ZX{ts:List Tok}(h:∀t∈ts,TokG t):(J6 ts).length<=lw ts:=by
 cases ts with
 |nil=>unfold J6;simp[Lib.join_nil]
 |cons t r=>have h1:=(h t (Gh ..)).len;have h2:=Ahv (ts:=r) λx hx=>h x (Dm _ hx);unfold J6;rw[CE,Lib.join_cons,AE];unfold lw;omega
section
variable{β:Type}
theorem Axu{ts:List Tok}(h:LineG ts)(n:Int)(k:List UInt8->Int->Option β):Y7 (n,ts) k=k (J6 ts) 0:=by
 have hl:=h.few;have hr:=ZX h.toks;have hm:=h.room;unfold lw3 at hm;unfold Y7;rw[Ad];unfold o8;rw[Ad];refine(h.form _).trans ?_;refine c_f.trans ?_
 refine(Kr (λm i s=>Tu m (λt2 t3=>k t2 t3) (λwords=>
   cond (decide (List.length words<=140737488355328)&&decide (List.length (Lib.join words ([32]:List UInt8))<=140737488355328))
   (cond (decide ((512:Int)<(List.length (Lib.join words ([32]:List UInt8)):Int))) (k ([]:List UInt8) (5:Int)) (k (Lib.join words ([32]:List UInt8)) (0:Int))) none) ts (ts.length:Int) i s)
  (λt=>[txOf t]) (λwords=>
   cond (decide (List.length words<=140737488355328)&&decide (List.length (Lib.join words ([32]:List UInt8))<=140737488355328))
   (cond (decide ((512:Int)<(List.length (Lib.join words ([32]:List UInt8)):Int))) (k ([]:List UInt8) (5:Int)) (k (Lib.join words ([32]:List UInt8)) (0:Int))) none)
  (0,[],0) ts [] 1 (by omega) (λ_ _=>by simp) (λm i s hi hs=>?_) λm s=>?_).trans ?_
 ·simp only[CJ]at hs
  simp only[AeE,Y6];refine(Ar (by omega)).trans ?_;refine(AR (by omega)).trans ?_;rw[Bw];refine((h.toks _ (C1 hi)).txt _).trans ?_;refine(BJ rfl).trans ?_;refine(DV (show(s.length+1)*16<=_ by omega)).trans ?_;rw[i64_in ((i:Int)+1) (by omega)]
 ·simp only[AeE,Y6]
  exact An (by omega)
 ·rw[Gi,ZQ]
  show cond (decide ((ts.map txOf).length<=140737488355328)&&decide ((J6 ts).length<=140737488355328)) (cond (decide ((512:Int)<((J6 ts).length:Int))) (k [] 5) (k (J6 ts) 0)) none=_;rw[Ay (show(ts.map txOf).length<=140737488355328 by rw[FJ];omega),Ay (show(J6 ts).length<=140737488355328 by omega)];exact An (by omega)
theorem Ahw:∀(ls:List (List Tok))(n i:Nat),i<ls.length->((numb n ls).getD i (0,[])).2=ls.getD i []
 |[],_,_,h=>absurd h (MN _)
 |t::r,n,0,_=>rfl
 |t::r,n,i+1,h=>Ahw r (n+1) i (by simpa using h)
theorem Axv(a b:List UInt8):C7 (a++b)=C7 a++C7 b:=by simp[C7]
theorem Ahx(a:List UInt8):(C7 a).length=a.length:=by simp[C7]
theorem Axw(a:List UInt8):JS (C7 a)=true:=by unfold JS C7;rw[Ef];intro n hn;obtain⟨c,_,rfl⟩:=Hb.1 hn;have:=c.toNat_lt;simp;omega
theorem Ahy{ls:List (List Tok)}(h:∀ts∈ls,LineG ts):(Ga ls).length<=(ls.map λts=>lw3 ts+1).sum:=by
 induction ls with
 |nil=>simp[Ga]
 |cons t r ih=>have h1:=ZX (h t (Gh ..)).toks;have h2:=ih λx hx=>h x (Dm _ hx);have h3:lw3 t=lw t+2*t.length:=rfl;unfold Ga at h2⊢;simp only[ML,AE,GY,CE,ON];omega
theorem Axx{ls:List (List Tok)}(h:∀ts∈ls,LineG ts)(hn:ls.length<=1000)(hs:(ls.map λts=>lw3 ts+1).sum<=65536)(k:List UInt8->Int->Option β):YM (numb 0 ls) k=k (Ga ls) 0:=by
 have AiL:=Ahy h;unfold YM;rw[Ad];unfold p6;rw[Ad,TU]
 refine(Kr (λm i s=>T4 m (λt2 t3=>k t2 t3) (λBL=>cond (decide ((65536:Int)<(List.length BL:Int))) (k ([]:List UInt8) (5:Int)) (cond (JS BL) (k (Hu BL) (0:Int)) none)) (numb 0 ls) (ls.length:Int) i (C7 s))
  (λts=>J6 ts++[10]) (λs=>cond (decide ((65536:Int)<(List.length (C7 s):Int))) (k ([]:List UInt8) (5:Int)) (cond (JS (C7 s)) (k (Hu (C7 s)) (0:Int)) none)) [] ls [] 513 hn (λts FN=>?_) (λm i s hi hs=>?_) λm s=>?_).trans ?_
 ·have:=ZX (h ts FN).toks
  have:=(h ts FN).room;unfold lw3 at this;simp;omega
 ·have hL:=h _ (C1 (d:=([]:List Tok)) hi)
  have h1:=ZX hL.toks;have h2:=hL.room;unfold lw3 at h2;simp only[CJ]at hs;simp only[Af4,YL];refine(Ar (by omega)).trans ?_;refine(AR (by rw[TU];omega)).trans ?_;rw[Bw];have e:(numb 0 ls).getD i ((0:Int),([]:List Tok))=(((numb 0 ls).getD i (0,[])).1,ls.getD i []):=by rw[<-Ahw ls 0 i hi]
  rw[e];refine(Axu hL _ _).trans ?_;refine(BJ rfl).trans ?_;refine(Ar (by simp only[GY];omega)).trans ?_;refine(Ar (by rw[Ahx];simp only[AE,GY];omega)).trans ?_;rw[i64_in ((i:Int)+1) (by omega),<-Axv]
 ·simp only[Af4,YL]
  exact An (by omega)
 ·rw[Gi]
  show cond (decide ((65536:Int)<((C7 (Ga ls)).length:Int))) (k [] 5) (cond (JS (C7 (Ga ls))) (k (Hu (C7 (Ga ls))) 0) none)=_;refine(An (by rw[Ahx];omega)).trans ?_;rw[Axw,gW];rfl
theorem Ahz(a b:List (List Tok)):Ga (a++b)=Ga a++Ga b:=by unfold Ga;rw[MJ]
end
end
end Go.Lift
namespace Go.Lift
open Go.RowKit Go.IntWalk
noncomputable section
set_option maxRecDepth 10000
section
variable{β:Type}
theorem Axy[S:Sl](a:List UInt8)(n:Int)(k:Bool->Option β):DU [wd Ua,wd a,nu 4 n] k=k true:=by rcases S with⟨_|_⟩<;>kernel_rfl
theorem Axz[S:Sl](a b d:List UInt8)(n1 n2 n3 n4:Int)(k:Bool->Option β):DU [wd rW,nu 1 n1,nu 1 n2,wd a,wd b,wd d,nu 2 n3,nu 4 n4] k=k true:=by rcases S with⟨_|_⟩<;>kernel_rfl
theorem AxA[S:Sl](a b:List UInt8)(k:Bool->Option β):DU [wd Hi,wd a,wd b] k=k true:=by rcases S with⟨_|_⟩<;>kernel_rfl
theorem AxB[S:Sl](a b:List UInt8)(k:Bool->Option β):DU [wd Hi,wd a,wd b,wd Qh] k=k true:=by rcases S with⟨_|_⟩<;>kernel_rfl
theorem AxC[S:Sl](a b:List UInt8)(n:Int)(k:Bool->Option β):DU [wd Hi,wd a,wd b,wd Qg,nu 1 n] k=k true:=by rcases S with⟨_|_⟩<;>kernel_rfl
theorem AxD[S:Sl](a b:List UInt8)(n:Int)(k:Bool->Option β):DU [wd Hi,wd a,wd b,wd Qg,nu 1 n,wd Qh] k=k true:=by rcases S with⟨_|_⟩<;>kernel_rfl
theorem AxE[S:Sl](a b:List UInt8)(n:Int)(k:Bool->Option β):DU [wd Hi,wd a,wd b,wd Qf,nu 1 n] k=k true:=by rcases S with⟨_|_⟩<;>kernel_rfl
theorem AxF[S:Sl](a b:List UInt8)(n:Int)(k:Bool->Option β):DU [wd Hi,wd a,wd b,wd Qf,nu 1 n,wd Qh] k=k true:=by rcases S with⟨_|_⟩<;>kernel_rfl
theorem AxG[S:Sl](a b:List UInt8)(n m:Int)(k:Bool->Option β):DU [wd Hi,wd a,wd b,wd Qf,nu 1 n,wd Qg,nu 1 m] k=k true:=by rcases S with⟨_|_⟩<;>kernel_rfl
theorem AxH[S:Sl](a b:List UInt8)(n m:Int)(k:Bool->Option β):DU [wd Hi,wd a,wd b,wd Qf,nu 1 n,wd Qg,nu 1 m,wd Qh] k=k true:=by rcases S with⟨_|_⟩<;>kernel_rfl
theorem AxI[S:Sl](a b:List UInt8)(n m:Int)(k:Bool->Option β):DU [wd Mo,wd a,nu 2 n,wd b,nu 2 m] k=k true:=by rcases S with⟨_|_⟩<;>kernel_rfl
theorem AxJ[S:Sl](a b:List UInt8)(n m:Int)(k:Bool->Option β):DU [wd onW,wd a,nu 2 n,wd b,nu 2 m] k=k true:=by rcases S with⟨_|_⟩<;>kernel_rfl
theorem AxK[S:Sl](a b:List UInt8)(k:Bool->Option β):DU [wd calW,wd a,wd b] k=k true:=by rcases S with⟨_|_⟩<;>kernel_rfl
theorem AxL[S:Sl](a:List UInt8)(k:Bool->Option β):DU [wd schW,wd a] k=k true:=by rcases S with⟨_|_⟩<;>kernel_rfl
theorem AxM[S:Sl](a b c:List UInt8)(n1 n2 n3:Int)(k:Bool->Option β):DU [wd ZU,wd a,wd b,nu 3 n1,nu 2 n2,nu 1 n3,wd c] k=k true:=by rcases S with⟨_|_⟩<;>kernel_rfl
theorem AxN[S:Sl](a:List UInt8)(k:Bool->Option β):DU [wd (at' rM 1),wd a] k=k true:=by rcases S with⟨_|_⟩<;>kernel_rfl
theorem AxO[S:Sl](a:List UInt8)(k:Bool->Option β):DU [wd (at' rM 2),wd a] k=k true:=by rcases S with⟨_|_⟩<;>kernel_rfl
theorem AxP[S:Sl](a:List UInt8)(n m:Int)(k:Bool->Option β):DU [wd (at' TV 0),wd a,nu 5 n,nu 5 m] k=k true:=by rcases S with⟨_|_⟩<;>kernel_rfl
theorem AxQ[S:Sl](a:List UInt8)(n m:Int)(k:Bool->Option β):DU [wd (at' TV 1),wd a,nu 5 n,nu 5 m] k=k true:=by rcases S with⟨_|_⟩<;>kernel_rfl
theorem AxR[S:Sl](a b:List UInt8)(n m:Int)(k:Bool->Option β):DU [wd (at' TV 2),wd a,wd b,nu 5 n,nu 5 m] k=k true:=by rcases S with⟨_|_⟩<;>kernel_rfl
theorem AxS[S:Sl](k:IW->Bool->Option β):SR Ub k=k (Ub,[3],true) true:=by rcases S with⟨_|_⟩<;>kernel_rfl
theorem AxT[S:Sl](k:IW->Bool->Option β):SR memW k=k (memW,[0],true) true:=by rcases S with⟨_|_⟩<;>kernel_rfl
theorem AhA[Sl]{kw:List UInt8}{kind:Int}(hf:∀k:IW->Bool->Option β,SR kw k=k (kw,[kind],true) true)(hp:kw≠Hi){l:List Tok}(h0:l≠[])(hl:l.length<=99)(hk:∀t∈l,t.1=kind)(k:Bool->Option β):DU (wd kw::l) k=k true:=by
 have h1:0<l.length:=OJ.2 h0
 have p2:Th (λt2=>k t2) (wd kw::l) (kw,[kind],true)=k true:=by
  unfold Th;rw[Ad];unfold mY
  have e:List.drop (Int.toNat (1:Int)) (List.take (Int.toNat (List.length (wd kw::l):Int)) (wd kw::l))=l:=by rw[Bw,Jp];rfl
  rw[e]
  have hb:(decide (0<=(1:Int))&&(decide ((1:Int)<=(List.length (wd kw::l):Int))&&decide ((List.length (wd kw::l):Int)<=(List.length (wd kw::l):Int))))=true:=by rw[Ay (show(0:Int)<=1 by omega),Ay (show(1:Int)<=(List.length (wd kw::l):Int) by rw[Ba];omega),Ay (OQ _)];rfl
  rw[hb];refine c_t.trans ?_;unfold mX;rw[Ad];refine(Jy (λm i=>Tg m (λt2=>k t2) (λ_=>k true) l (l.length:Int) i (kw,[kind],true)) (λt=>decide (t.1=kind)) (k false) (k true) (0,[],0) l fuel (BI (by omega)) (λm i hi=>?_) (λm=>?_)).trans ?_
  ·simp only[Ae2,Yo]
   refine(Ar (by omega)).trans ?_;refine(AR (by omega)).trans ?_
   have e2:(if(IntKind.i64.wrap ((List.length [kind]:Int)-(1:Int)))<(i:Int)then(IntKind.i64.wrap ((List.length [kind]:Int)-(1:Int)))else(i:Int))=0:=by rw[show IntKind.i64.wrap ((List.length [kind]:Int)-(1:Int))=0 from rfl];split<;>omega
   rw[e2];refine(AR (show(0:Int)<=0/\(0:Int)<((1:Nat):Int) by omega)).trans ?_;rw[i64_in ((i:Int)+1) (by omega),Bw];show cond (!decide ((l.getD i (0,[],0)).1=kind)) _ _=_;cases decide ((l.getD i (0,[],0)).1=kind)<;>rfl
  ·simp only[Ae2,Yo]
   exact An (by omega)
  ·rw[Ef.2 λt ht=>Ay (hk t ht)]
   rfl
 unfold DU;rw[Ad];refine(An (by rw[Ba];omega)).trans ?_;refine(AR (by rw[Ba];omega)).trans ?_;refine(BJ rfl).trans ?_;refine(AR (by rw[Ba];omega)).trans ?_;refine(hf _).trans ?_;refine c_f.trans ?_;refine(An hp).trans ?_;unfold Yp;rw[Ad];unfold mZ;rw[i64_in _ (by rw[Ba];omega)];refine(An (by rw[Ba];show ¬_<((1:Nat):Int);omega)).trans ?_;by_cases h2:((1:Nat):Int)<(((wd kw::l).length:Int)-1)
 ·refine(Ar h2).trans ?_
  exact c_f.trans p2
 ·exact(An h2).trans p2
end
end
end Go.Lift
namespace Go.Lift
open Go.RowKit Go.IntWalk
noncomputable section
variable[Sl]
set_option maxRecDepth 10000
theorem Jd{s:List UInt8}(h:Cg s=true):s.length<=24:=by unfold Cg at h;simp only[C5,MK,cH]at h;have:=h.2.1;omega
theorem Ul{α:Type}{of:α->List UInt8}{L:List (List UInt8)}{xs:List α}(h:Named of L xs)(hL:(L.all Cg)=true):∀x∈xs,Cg (of x)=true:=by
 intro x hx;have h1:of x∈L.take xs.length:=by rw[<-h.2];exact cK hx
 exact Ef.1 hL _ (cJ h1)
theorem Qm{L:List (List UInt8)}{n:Int}{b:Nat}(hL:(L.all λs=>Cg s&&Nat.ble s.length b)=true)(h:0<=n/\n<(L.length:Int)):Cg (at' L n)=true/\(at' L n).length<=b:=by have h1:=Ef.1 hL _ (C1 (d:=([]:List UInt8)) (show n.toNat<L.length by omega));rw[C5]at h1;exact⟨h1.1,Hs h1.2⟩
theorem tk0:∀x∈([]:List Tok),TokG x:=λ_ h=>absurd h EX
theorem tk1{t:Tok}{r:List Tok}(h:TokG t)(hr:∀x∈r,TokG x):∀x∈t::r,TokG x:=List.forall_mem_cons.2 ⟨h,hr⟩
theorem tw_w(s:List UInt8):tw (wd s)=s.length:=rfl
theorem tw_n{t n:Int}(h:t≠0):tw (nu t n)=20:=if_neg h
structure LG (ts:List Tok) (n:Nat):Prop where
 g:LineG ts
 n:lw3 ts+1<=n
theorem LG.mk'{ts:List Tok}{n0 m n:Nat}(form:∀{β:Type}(k:Bool->Option β),DU ts k=k true)(toks:∀t∈ts,TokG t)(few:ts.length<=m)(room:lw ts+1<=n0)(hn:n0+2*m<=n/\n<=513):LG ts n:=by have h3:lw3 ts=lw ts+2*ts.length:=rfl;exact⟨⟨form,toks,by omega,by omega⟩,by omega⟩
theorem AxU{z:AG}(hz:ZoneOk z)(hv:FZ z=0)(hn:Cg z.1=true):LG [wd Ua,wd z.1,nu 4 z.2.1] 58:=by have h1:=Jd hn;unfold FZ at hv;obtain⟨_,hv⟩:=cz hv;obtain⟨hv,_⟩:=cz hv;have hv:Int.tmod z.2.1 60=0:=dt (nt hv);refine LG.mk' (n0:=52) (m:=3) (λk=>Axy _ _ k) (tk1 (CO (by decide)) (tk1 (CO hn) (tk1 (Aht hz.o (wF (wG hv))) tk0))) (by simp) ?_ (by omega);unfold lw lw lw lw;rw[tw_w,tw_w,tw_n (by decide)];show 4+1+(z.1.length+1+(20+1+0))+1<=52;omega
theorem AxV{z:AG}(hz:ZoneOk z)(hv:FZ z=0){r:Cz}(hr:r∈z.2.2):LG (Uc r) 121:=by have h:=hz.r r hr;unfold FZ at hv;obtain⟨_,hv⟩:=cz hv;obtain⟨_,hv⟩:=cz hv;obtain⟨hv,_⟩:=cz hv;have hv:Int.tmod r.2.2.2.2.2.2 60=0:=dt (Ef.1 (nt hv) r hr);have hf:=h.f;have ht:=h.t;have hm:=h.m;have hw:=h.w;have hd:=h.d;have hs:=h.s;have m1:=Qm (L:=rK) (n:=r.2.2.1-1) (b:=3) (by decide) ⟨by omega,by show _<((12:Nat):Int);omega⟩;have m2:=Qm (L:=rL) (n:=r.2.2.2.1-1) (b:=6) (by decide) ⟨by omega,by show _<((5:Nat):Int);omega⟩;have m3:=Qm (L:=NG) (n:=r.2.2.2.2.1) (b:=3) (by decide) ⟨by omega,by show _<((7:Nat):Int);omega⟩;unfold Uc;refine LG.mk' (n0:=105) (m:=8) (λk=>Axz _ _ _ _ _ _ _ k) (tk1 (CO (by decide)) (tk1 (Uk (by omega)) (tk1 (Uk (by omega)) (tk1 (CO m1.1) (tk1 (CO m2.1) (tk1 (CO m3.1) (tk1 (ZW (by omega)) (tk1 (Aht h.o (wF (wG hv))) tk0)))))))) (by simp) ?_ (by omega);unfold lw lw lw lw lw lw lw lw lw;rw[tw_w,tw_w,tw_w,tw_w,tw_n (by decide),tw_n (by decide),tw_n (by decide),tw_n (by decide)];have:=m1.2;have:=m2.2;have:=m3.2;show 4+1+(20+1+(20+1+(_+1+(_+1+(_+1+(20+1+(20+1+0)))))))+1<=105;omega
theorem AhB{kw:List UInt8}{x:Int×Int}(hx:PWin x)(hk:Cg kw=true)(h5:kw.length<=5)(hf:∀{β:Type}(a b:List UInt8)(n m:Int)(k:Bool->Option β),DU [wd kw,wd a,nu 2 n,wd b,nu 2 m] k=k true):LG (stW kw x) 67:=by
 obtain⟨x1,x2,x3,x4⟩:=hx;have d1:=ZM ⟨x1,x2⟩;have d2:=ZM (a:=x.2-1) ⟨by omega,by omega⟩;have m1:=Qm (L:=NG) (n:=Int.tdiv x.1 86400) (b:=3) (by decide) ⟨by omega,by show _<((7:Nat):Int);omega⟩;have m2:=Qm (L:=NG) (n:=Int.tdiv (x.2-1) 86400) (b:=3) (by decide) ⟨by omega,by show _<((7:Nat):Int);omega⟩
 have c1:0<=Int.tmod x.1 86400/\Int.tmod x.1 86400<=86400:=by rw[FH x1];omega
 have c2:0<=x.2-Int.tdiv (x.2-1) 86400*86400/\x.2-Int.tdiv (x.2-1) 86400*86400<=86400:=by rw[GW (by omega)];omega
 unfold stW;refine LG.mk' (n0:=57) (m:=5) (λk=>hf _ _ _ _ k) (tk1 (CO hk) (tk1 (CO m1.1) (tk1 (ZW c1) (tk1 (CO m2.1) (tk1 (ZW c2) tk0))))) (by simp) ?_ (by omega);unfold lw lw lw lw lw lw;rw[tw_w,tw_w,tw_w,tw_n (by decide),tw_n (by decide)];have:=m1.2;have:=m2.2;omega
theorem AxW{x:Int×Int}(hx:PWin x):LG (stW Mo x) 67:=AhB hx (by decide) (by decide) λa b n m k=>AxI a b n m k
theorem AxX{x:Int×Int}(hx:PWin x):LG (stW onW x) 67:=AhB hx (by decide) (by decide) λa b n m k=>AxJ a b n m k
structure NamesG (w:List AG) (w2:List AX) (w3:List Bu):Prop where
 z:∀x∈w,Cg x.1=true
 p:∀x∈w2,Cg x.1=true
 c:∀x∈w3,Cg x.1=true
section
variable{w:List AG}{w2:List AX}{w3:List Bu}
theorem sL(h:NamesG w w2 w3){i:Int}(hi:0<=i/\i<(w.length:Int)):Cg (HS w i)=true:=h.z _ (C1 (by omega))
theorem AxY(h:NamesG w w2 w3){i:Int}(hi:0<=i/\i<(w3.length:Int)):Cg (calN w3 i)=true:=h.c _ (C1 (by omega))
theorem ZY(h:NamesG w w2 w3){i:Int}(hi:i<(w2.length:Int)):Cg (whoB w2 i)=true:=by
 unfold whoB;split
 ·decide
 ·exact h.p _ (C1 (by omega))
theorem AxZ(h:NamesG w w2 w3){p:AX}(hp:PerF (w.length:Int) p)(hn:Cg p.1=true):LG (ZS w p) 134:=by
 have hz:=sL h hp.z;have l1:=Jd hn;have l2:=Jd hz;have hw:=hp.w.1;have hr:=hp.r.1;have q1:0<=Int.tdiv p.2.2.2.1 3600/\Int.tdiv p.2.2.2.1 3600<=999999999:=by rw[GW hw.1];omega
 have q2:0<=Int.tdiv p.2.2.2.2.1 3600/\Int.tdiv p.2.2.2.2.1 3600<=999999999:=by rw[GW hr.1];omega
 have g1:=CO (s:=Hi) (by decide);have g2:=CO hn;have g3:=CO hz;have g4:=CO (s:=Qf) (by decide);have g5:=Uk q1;have g6:=CO (s:=Qg) (by decide);have g7:=Uk q2;have g8:=CO (s:=Qh) (by decide);unfold ZS rX ZR Ud;by_cases c1:p.2.2.2.1=0<;>by_cases c2:p.2.2.2.2.1=0<;>cases c3:p.2.2.2.2.2
 ·rw[if_pos c1,if_pos c2]
  refine LG.mk' (n0:=118) (m:=8) (λk=>AxA _ _ k) (tk1 g1 (tk1 g2 (tk1 g3 tk0))) (by simp) ?_ (by omega);show 6+1+(p.1.length+1+((HS w p.2.1).length+1+0))+1<=118;omega
 ·rw[if_pos c1,if_pos c2]
  refine LG.mk' (n0:=118) (m:=8) (λk=>AxB _ _ k) (tk1 g1 (tk1 g2 (tk1 g3 (tk1 g8 tk0)))) (by simp) ?_ (by omega);show 6+1+(p.1.length+1+((HS w p.2.1).length+1+(7+1+0)))+1<=118;omega
 ·rw[if_pos c1,if_neg c2]
  refine LG.mk' (n0:=118) (m:=8) (λk=>AxC _ _ _ k) (tk1 g1 (tk1 g2 (tk1 g3 (tk1 g6 (tk1 g7 tk0))))) (by simp) ?_ (by omega);show 6+1+(p.1.length+1+((HS w p.2.1).length+1+(4+1+(tw (nu 1 _)+1+0))))+1<=118;rw[tw_n (by decide)];omega
 ·rw[if_pos c1,if_neg c2]
  refine LG.mk' (n0:=118) (m:=8) (λk=>AxD _ _ _ k) (tk1 g1 (tk1 g2 (tk1 g3 (tk1 g6 (tk1 g7 (tk1 g8 tk0)))))) (by simp) ?_ (by omega);show 6+1+(p.1.length+1+((HS w p.2.1).length+1+(4+1+(tw (nu 1 _)+1+(7+1+0)))))+1<=118;rw[tw_n (by decide)];omega
 ·rw[if_neg c1,if_pos c2]
  refine LG.mk' (n0:=118) (m:=8) (λk=>AxE _ _ _ k) (tk1 g1 (tk1 g2 (tk1 g3 (tk1 g4 (tk1 g5 tk0))))) (by simp) ?_ (by omega);show 6+1+(p.1.length+1+((HS w p.2.1).length+1+(4+1+(tw (nu 1 _)+1+0))))+1<=118;rw[tw_n (by decide)];omega
 ·rw[if_neg c1,if_pos c2]
  refine LG.mk' (n0:=118) (m:=8) (λk=>AxF _ _ _ k) (tk1 g1 (tk1 g2 (tk1 g3 (tk1 g4 (tk1 g5 (tk1 g8 tk0)))))) (by simp) ?_ (by omega);show 6+1+(p.1.length+1+((HS w p.2.1).length+1+(4+1+(tw (nu 1 _)+1+(7+1+0)))))+1<=118;rw[tw_n (by decide)];omega
 ·rw[if_neg c1,if_neg c2]
  refine LG.mk' (n0:=118) (m:=8) (λk=>AxG _ _ _ _ k) (tk1 g1 (tk1 g2 (tk1 g3 (tk1 g4 (tk1 g5 (tk1 g6 (tk1 g7 tk0))))))) (by simp) ?_ (by omega);show 6+1+(p.1.length+1+((HS w p.2.1).length+1+(4+1+(tw (nu 1 _)+1+(4+1+(tw (nu 1 _)+1+0))))))+1<=118;rw[tw_n (by decide),tw_n (by decide)];omega
 ·rw[if_neg c1,if_neg c2]
  refine LG.mk' (n0:=118) (m:=8) (λk=>AxH _ _ _ _ k) (tk1 g1 (tk1 g2 (tk1 g3 (tk1 g4 (tk1 g5 (tk1 g6 (tk1 g7 (tk1 g8 tk0)))))))) (by simp) ?_ (by omega);show 6+1+(p.1.length+1+((HS w p.2.1).length+1+(4+1+(tw (nu 1 _)+1+(4+1+(tw (nu 1 _)+1+(7+1+0)))))))+1<=118;rw[tw_n (by decide),tw_n (by decide)];omega
theorem AhC(h:NamesG w w2 w3){c:Bu}(hz:0<=c.2.1/\c.2.1<(w.length:Int))(hn:Cg c.1=true):LG [wd calW,wd c.1,wd (HS w c.2.1)] 66:=by have hz:=sL h hz;have l1:=Jd hn;have l2:=Jd hz;refine LG.mk' (n0:=60) (m:=3) (λk=>AxK _ _ k) (tk1 (CO (by decide)) (tk1 (CO hn) (tk1 (CO hz) tk0))) (by simp) ?_ (by omega);show 8+1+(c.1.length+1+((HS w c.2.1).length+1+0))+1<=60;omega
theorem sM{α:Type}{f:α->Tok}{n:Nat}:∀{xs:List α},(∀x∈xs,tw (f x)<=n)->lw (xs.map f)<=xs.length*(n+1)
 |[],_=>by simp[lw]
 |x::xs,h=>by have h1:=h x (Gh ..);have h2:=sM (xs:=xs) λy hy=>h y (Dm _ hy);rw[CE,Ba,IJ];unfold lw;omega
theorem Ay0{l:List Int}(h0:l≠[])(hl:l.length<=20)(hd:∀d∈l,0<=d/\d<98981):LG (wd Ub::l.map (nu 3)) 468:=by
 have hm:=sM (f:=nu 3) (n:=20) (xs:=l) λx _=>JP (tw_n (by decide));refine LG.mk' (n0:=426) (m:=21) (λk=>AhA (λk=>AxS k) (by decide) (by simpa using h0) (by simp;omega) (λt ht=>?_) k) (tk1 (CO (by decide)) λt ht=>?_) (by simp;omega) ?_ (by omega)
 ·obtain⟨d,_,rfl⟩:=Hb.1 ht;rfl
 ·obtain⟨d,Cs,rfl⟩:=Hb.1 ht;exact Ahs (hd d Cs)
 ·unfold lw
  show 4+1+lw (l.map (nu 3))+1<=426;omega
theorem Ay1(h:NamesG w w2 w3){l:Bz}{nz nc:Int}(hl:LayF nz (w2.length:Int) nc l):LG (rZ w2 l) 334:=by
 have h1:=hl.m;have hm:=sM (f:=λm=>wd (whoB w2 m)) (n:=24) (xs:=l.2.2.2.2.2.1) λx hx=>Jd (ZY h (hl.ms x hx).2);unfold rZ;refine LG.mk' (n0:=308) (m:=13) (λk=>AhA (λk=>AxT k) (by decide) (λe=>?_) (by simp;omega) (λt ht=>?_) k) (tk1 (CO (by decide)) λt ht=>?_) (by simp;omega) ?_ (by omega)
 ·have:=At List.length e
  simp at this;rw[this]at h1;simp at h1
 ·obtain⟨d,_,rfl⟩:=Hb.1 ht;rfl
 ·obtain⟨d,Cs,rfl⟩:=Hb.1 ht;exact CO (ZY h (hl.ms d Cs).2)
 ·unfold lw
  show 6+1+lw _+1<=308;omega
theorem Ay2(h:NamesG w w2 w3){l:Bz}{np nc:Int}(hl:LayF (w.length:Int) np nc l)(hn:Cg l.1=true):LG (rY w l) 140:=by have hz:=sL h hl.z;have l1:=Jd hn;have l2:=Jd hz;have hu:=hl.u;have he:=hl.e;have hs:=hl.s;have hd:=hl.d;have m1:=Qm (L:=untNs) (n:=l.2.2.2.1) (b:=5) (by decide) ⟨by omega,by show _<((3:Nat):Int);omega⟩;have:=m1.2;unfold rY;refine LG.mk' (n0:=126) (m:=7) (λk=>AxM _ _ _ _ _ _ k) (tk1 (CO (by decide)) (tk1 (CO hn) (tk1 (CO hz) (tk1 (Ahs (by omega)) (tk1 (ZW (by omega)) (tk1 (Uk (by omega)) (tk1 (CO m1.1) tk0))))))) (by simp) ?_ (by omega);unfold lw lw lw lw lw lw lw lw;rw[tw_w,tw_w,tw_w,tw_w,tw_n (by decide),tw_n (by decide),tw_n (by decide)];show 5+1+_+1<=126;omega
theorem Ay3{n:List UInt8}(hn:Cg n=true):LG [wd schW,wd n] 39:=by have l1:=Jd hn;refine LG.mk' (n0:=35) (m:=2) (λk=>AxL _ k) (tk1 (CO (by decide)) (tk1 (CO hn) tk0)) (by simp) ?_ (by omega);unfold lw lw lw;rw[tw_w,tw_w];show 8+1+_+1<=35;omega
theorem Ay4(h:NamesG w w2 w3){x:Ed}(hx:EdF (w2.length:Int) x):LG (J5 w2 x) 112:=by
 have hk:=hx.k;have ha:x.2.1<(w2.length:Int):=by have:=hx.a;omega
 have n1:=ZY h ha;have l1:=Jd n1;have hf:=hx.f;have AyY:=hx.ft;have ht:=hx.t;have g1:=Ahu (n:=x.2.2.2.1) (by omega);have g2:=Ahu (n:=x.2.2.2.2) (by omega);unfold J5 s5;have key:x.1=0\/x.1=1\/x.1=2:=by omega
 rcases key with e|e|e
 ·rw[if_neg (by omega),e]
  refine LG.mk' (n0:=102) (m:=5) (λk=>AxP _ _ _ k) (tk1 (CO (by decide)) (tk1 (CO n1) (tk1 g1 (tk1 g2 tk0)))) (by simp) ?_ (by omega);show 5+1+((whoB w2 x.2.1).length+1+(tw (nu 5 _)+1+(tw (nu 5 _)+1+0)))+1<=102;rw[tw_n (by decide),tw_n (by decide)];omega
 ·rw[if_neg (by omega),e]
  refine LG.mk' (n0:=102) (m:=5) (λk=>AxQ _ _ _ k) (tk1 (CO (by decide)) (tk1 (CO n1) (tk1 g1 (tk1 g2 tk0)))) (by simp) ?_ (by omega);show 8+1+((whoB w2 x.2.1).length+1+(tw (nu 5 _)+1+(tw (nu 5 _)+1+0)))+1<=102;rw[tw_n (by decide),tw_n (by decide)];omega
 ·have n2:=ZY h (hx.b e).2
  have l2:=Jd n2;rw[if_pos e,e];refine LG.mk' (n0:=102) (m:=5) (λk=>AxR _ _ _ _ k) (tk1 (CO (by decide)) (tk1 (CO n1) (tk1 (CO n2) (tk1 g1 (tk1 g2 tk0))))) (by simp) ?_ (by omega);show 4+1+((whoB w2 x.2.1).length+1+((whoB w2 x.2.2.1).length+1+(tw (nu 5 _)+1+(tw (nu 5 _)+1+0))))+1<=102;rw[tw_n (by decide),tw_n (by decide)];omega
end
end
end Go.Lift
namespace Go.Lift
open Go.RowKit Go.IntWalk
noncomputable section
variable[Sl]
set_option maxRecDepth 10000
structure SL (ls:List (List Tok)) (n:Nat):Prop where
 g:∀ts∈ls,LineG ts
 n:(ls.map λts=>lw3 ts+1).sum<=n
theorem SL.nil{n:Nat}:SL [] n:=⟨λ_ h=>absurd h EX,DM _⟩
theorem SL.cons{t:List Tok}{r:List (List Tok)}{a b:Nat}(h:LG t a)(hr:SL r b):SL (t::r) (a+b):=by refine⟨List.forall_mem_cons.2 ⟨h.g,hr.g⟩,?_⟩;rw[CE,ON];have:=h.n;have:=hr.n;omega
theorem SL.app{r s:List (List Tok)}{a b:Nat}(h:SL r a)(hs:SL s b):SL (r++s) (a+b):=by
 refine⟨λt ht=>?_,?_⟩
 ·rcases Ci.1 ht with ht|ht
  ·exact h.g t ht
  ·exact hs.g t ht
 ·rw[LJ,List.sum_append]
  have:=h.n;have:=hs.n;omega
theorem SL.le{r:List (List Tok)}{a b:Nat}(h:SL r a)(Up:a<=b):SL r b:=⟨h.g,Df h.n Up⟩
theorem Qn{α:Type}{f:α->List (List Tok)}{n:Nat}:∀{xs:List α},(∀x∈xs,SL (f x) n)->SL (xs.flatMap f) (xs.length*n)
 |[],_=>SL.nil
 |x::xs,h=>by have h1:=h x (Gh ..);have h2:=Qn (xs:=xs) λy hy=>h y (Dm _ hy);refine(h1.app h2).le ?_;rw[Ba,IJ];omega
theorem Um{α:Type}{f:α->List Tok}{n:Nat}:∀{xs:List α},(∀x∈xs,LG (f x) n)->SL (xs.map f) (xs.length*n)
 |[],_=>SL.nil
 |x::xs,h=>by have h1:=h x (Gh ..);have h2:=Um (xs:=xs) λy hy=>h y (Dm _ hy);refine(SL.cons h1 h2).le ?_;rw[Ba,IJ];omega
section
variable{w:List AG}{w2:List AX}{w3:List Bu}
theorem Ay5{z:AG}(hz:ZoneOk z)(hv:FZ z=0)(hn:Cg z.1=true):SL (J3 z) 1510:=by have hl:=hz.l;unfold J3;refine(SL.cons (AxU hz hv hn) (Um λr hr=>AxV hz hv hr)).le ?_;omega
theorem Ay6(h:NamesG w w2 w3){p:AX}(hp:PerF (w.length:Int) p)(hn:Cg p.1=true):SL (J4 w p) 1072:=by have hq:=hp.q;unfold J4;refine(SL.cons (AxZ h hp hn) (Um λx hx=>AxW (hq.2 x hx))).le ?_;omega
theorem Ay7(h:NamesG w w2 w3){c:Bu}(hc:CalF (w.length:Int) c)(hl:c.2.2.length<=20)(hn:Cg c.1=true):SL (Ks w c) 534:=by
 unfold Ks ZT;by_cases e:c.2.2=[]
 ·rw[if_pos e]
  exact(SL.cons (AhC h hc.z hn) (SL.nil (n:=0))).le (by omega)
 ·rw[if_neg e]
  exact(SL.cons (AhC h hc.z hn) (SL.cons (Ay0 e hl hc.d) (SL.nil (n:=0)))).le (by omega)
theorem Ay8(h:NamesG w w2 w3){l:Bz}{nz np:Int}(hl:LayF nz np (w3.length:Int) l):SL (Qi w3 l) 35:=by
 unfold Qi;by_cases e:l.2.2.2.2.2.2.2.2=0
 ·rw[if_pos e];exact SL.nil
 ·rw[if_neg e]
  have hc:(1<=l.2.2.2.2.2.2.2.2/\l.2.2.2.2.2.2.2.2<=2)/\0<=l.2.2.2.2.2.2.2.1/\l.2.2.2.2.2.2.2.1<(w3.length:Int):=by
   rcases hl.c with hc|hc
   ·exact absurd hc.1 e
   ·exact hc
  have hn:=AxY h hc.2;have l1:=Jd hn;have key:l.2.2.2.2.2.2.2.2=1\/l.2.2.2.2.2.2.2.2=2:=by omega
  refine(SL.cons (a:=35) ?_ (SL.nil (n:=0))).le (by omega);rcases key with e1|e1
  ·rw[e1]
   refine LG.mk' (n0:=31) (m:=2) (λk=>AxN _ k) (tk1 (CO (by decide)) (tk1 (CO hn) tk0)) (by simp) ?_ (by omega);show 3+1+((calN w3 l.2.2.2.2.2.2.2.1).length+1+0)+1<=31;omega
  ·rw[e1]
   refine LG.mk' (n0:=31) (m:=2) (λk=>AxO _ k) (tk1 (CO (by decide)) (tk1 (CO hn) tk0)) (by simp) ?_ (by omega);show 4+1+((calN w3 l.2.2.2.2.2.2.2.1).length+1+0)+1<=31;omega
theorem Ay9(h:NamesG w w2 w3){l:Bz}(hl:LayF (w.length:Int) (w2.length:Int) (w3.length:Int) l)(hn:Cg l.1=true):SL (Kt w w2 w3 l) 1447:=by have hw:=hl.w;unfold Kt;refine(SL.cons (Ay2 h hl hn) (SL.cons (Ay1 h hl) (SL.app (Um λx hx=>AxX (hw.2 x hx)) (Ay8 h hl)))).le ?_;omega
theorem Aya(h:NamesG w w2 w3){s:B8}(hs:SchG (w.length:Int) (w2.length:Int) (w3.length:Int) s)(hn:Cg s.1=true):SL (Lj w w2 w3 s) 14097:=by have h1:=hs.l;have h2:=hs.e;unfold Lj;refine(SL.cons (Ay3 hn) (SL.app (Qn λl hl=>Ay9 h (hs.ls l hl).1 (hs.ls l hl).2) (Um λx hx=>Ay4 h (hs.es x hx)))).le ?_;omega
end
theorem AhD{c:Au}(h:ConfOk c):NamesG c.1 c.2.1 c.2.2.1:=
 ⟨Ul h.oz.1 (by decide),Ul h.op.1 (by decide),Ul h.oc.1 (by decide)⟩
theorem AhE{c:Au}(h:ConfOk c):SL (Ku c) 60000/\(Ku c).length<=1000:=by
 have hN:=AhD h;have l1:c.1.length<=2:=h.oz.1.1;have l2:c.2.1.length<=8:=h.op.1.1;have l3:c.2.2.1.length<=1:=h.oc.1.1;have l4:c.2.2.2.length<=3:=h.os.1.1;have uN:=Ul h.os.1 (by decide);have z1:=Lk (f:=J3) λy(hy:y∈c.1)=>s6 (h.oz.2 y hy).1;have z2:=Lk (f:=J4 c.1) λy(hy:y∈c.2.1)=>s7 (Ue h y hy);have z3:=Lk (f:=Ks c.1) λy(hy:y∈c.2.2.1)=>s8;have z4:=Lk (f:=Lj c.1 c.2.1 c.2.2.1) λy(hy:y∈c.2.2.2)=>Ahe (ZV h y hy);unfold Ku;refine⟨?_,?_⟩
 ·refine(SL.app (Qn λz hz=>Ay5 (h.oz.2 z hz).1 (h.oz.2 z hz).2.1 (hN.z z hz)) (SL.app (Qn λp hp=>Ay6 hN (Ue h p hp) (hN.p p hp)) (SL.app (Qn λx hx=>Ay7 hN (rS (h.oc.2 x hx).1) (h.oc.2 x hx).2 (hN.c x hx)) (Qn λs hs=>Aya hN (ZV h s hs) (uN s hs))))).le ?_
  omega
 ·rw[AE,AE,AE]
  omega
section
variable{β:Type}
theorem ZZ{c:Au}(h:ConfOk c)(k:List UInt8->Int->Option β):NA c k=k (Ga (Ku c)) 0:=by have hs:=AhE h;unfold NA;rw[Ad];refine(Axd h _).trans ?_;refine(BJ rfl).trans ?_;exact Axx hs.1.g hs.2 (Df hs.1.n (by decide)) _
end
end
end Go.Lift
namespace Go.Lift
open Go.RowKit Go.IntWalk
noncomputable section
variable[Sl]
set_option maxRecDepth 10000
abbrev sch0:B8:=([],[],[])
def GH(c:Au)(i:Nat)(es:List Ed):Au:=(c.1,c.2.1,c.2.2.1,c.2.2.2.set i ((c.2.2.2.getD i sch0).1,(c.2.2.2.getD i sch0).2.1,es))
theorem Ayb{nz np nc:Int}{n:List UInt8}{ls:List Bz}{e0 es:List Ed}(h:Gn nz np nc (n,ls,e0)=0)(NK:es.length<=48)(he:∀x∈es,Hg np x=0):Gn nz np nc (n,ls,es)=0:=by
 unfold Gn at h;obtain⟨h1,h⟩:=cz h;obtain⟨h2,h⟩:=cz h
 have hn:FL (·.1) (E4 nz np nc) ls=0:=by
  by_cases hn:FL (·.1) (E4 nz np nc) ls=0
  ·exact hn
  ·rw[AF hn]at h
   exact absurd h hn
 unfold Gn;rw[h1,AF (by show ¬_;simp only;omega),Ay hn,rH np es 0 he];rfl
theorem AhF{α γ:Type}(f:α->γ):∀(xs:List α)(i:Nat)(y d:α),f y=f (xs.getD i d)->(xs.set i y).map f=xs.map f
 |[],i,y,d,_=>rfl
 |x::xs,0,y,d,h=>by have h:f y=f x:=h;simp[h]
 |x::xs,i+1,y,d,h=>by rw[List.set_cons_succ,CE,CE,AhF f xs i y d h]
theorem sN{c:Au}(h:ConfOk c){i:Nat}(hi:i<c.2.2.2.length){es:List Ed}(NK:es.length<=48)(he:∀x∈es,EdOk (c.2.1.length:Int) x):ConfOk (GH c i es):=by
 refine⟨h.oz,h.op,h.oc,?_⟩;have hs:=h.os.2 _ (C1 (d:=sch0) hi);refine⟨⟨?_,?_⟩,λs BN=>?_⟩
 ·show(c.2.2.2.set i _).length<=_
  rw[LI];exact h.os.1.1
 ·show(c.2.2.2.set i _).map (·.1)=sNames.take (c.2.2.2.set i _).length
  rw[AhF (·.1) c.2.2.2 i ((c.2.2.2.getD i sch0).1,(c.2.2.2.getD i sch0).2.1,es) sch0 rfl,LI];exact h.os.1.2
 ·rcases List.mem_or_eq_of_mem_set BN with g|g
  ·exact h.os.2 s g
  ·rw[g]
   exact⟨Ayb (e0:=(c.2.2.2.getD i sch0).2.2) hs.1 NK λx hx=>(he x hx).1,he⟩
theorem sO{c:Au}(h:ConfOk c){i:Nat}(hi:i<c.2.2.2.length):∀x∈(c.2.2.2.getD i sch0).2.2,EdOk (c.2.1.length:Int) x:=(h.os.2 _ (C1 hi)).2
theorem AhG(c:Au)(i:Nat)(hi:i<c.2.2.2.length)(a b:List Ed):GH (GH c i a) i b=GH c i b:=by unfold GH;simp[List.getD,hi]
theorem AhH(c:Au)(i:Nat)(hi:i<c.2.2.2.length)(a:List Ed):((GH c i a).2.2.2.getD i sch0).2.2=a:=by unfold GH;simp[List.getD,hi]
theorem AhI(c:Au)(i:Nat)(a:List Ed):(GH c i a).2.2.2.length=c.2.2.2.length:=by unfold GH;simp
theorem AhJ{c:Au}{es:List Ed}(h1:1<=c.2.2.2.length)(y:Ed):Ku (GH c (c.2.2.2.length-1) (es++[y]))=Ku (GH c (c.2.2.2.length-1) es)++[J5 c.2.1 y]:=by
 obtain⟨z,p,x,s⟩:=c;rcases List.eq_nil_or_concat s with rfl|⟨t,q,rfl⟩
 ·simp at h1
 ·have hl:(t.concat q).length-1=t.length:=by simp
  have B5:∀v:B8,(t.concat q).set t.length v=t++[v]:=λv=>by rw[List.concat_eq_append,List.set_append];simp
  unfold Ku GH;simp only[hl,B5];simp[Lj,Cw]
theorem Ayc{c:Au}{i:Nat}(hi:i<c.2.2.2.length):GH c i (c.2.2.2.getD i sch0).2.2=c:=by
 obtain⟨z,p,x,s⟩:=c;unfold GH;simp only;have hi:i<s.length:=hi
 have e:s.set i (s.getD i sch0)=s:=by rw[OC,DK hi];exact List.set_getElem_self hi
 show(z,p,x,s.set i (s.getD i sch0))=_;rw[e]
end
end Go.Lift
namespace Go.Lift
open Go.RowKit Go.IntWalk
noncomputable section
variable[Sl]
set_option maxRecDepth 10000
theorem AhK{α:Type}{of:α->List UInt8}{chk:α->Int}:∀(xs:List α)(j:Nat)(l:List (List UInt8)),errV (walk (F4 of chk) xs j l)=0->l.Nodup->(l++xs.map of).Nodup
 |[],j,l,_,h=>by simpa using h
 |x::xs,j,l,he,h=>by
  unfold walk at he;by_cases h1:E3 (of x) l=0
  ·by_cases h2:chk x=0
   ·have e:F4 of chk j x l=.inr (l++[of x]):=by unfold F4;rw[Ay h1,Ay h2];rfl
    rw[e]at he
    have hx:of x∉l:=by
     intro g;unfold E3 at h1;cases hn:Cg (of x)with
     |false=>rw[hn]at h1;cases h1
     |true=>rw[hn,Ay g]at h1;cases h1
    have:=AhK xs (j+1) (l++[of x]) he (VD.2 ⟨h,KJ.2 ⟨EX,List.nodup_nil⟩,λa ha b hb=>by rw[E9.1 hb];exact λe=>hx (e▸ha)⟩);rw[Cw]at this;exact this
   ·have e:F4 of chk j x l=.inl (chk x):=by unfold F4;rw[Ay h1,AF h2];rfl
    rw[e]at he;exact absurd he h2
  ·have e:F4 of chk j x l=.inl (E3 (of x) l):=by unfold F4;rw[AF h1];rfl
   rw[e]at he;exact absurd he h1
theorem Ayd{nz np nc:Int}{s:B8}(h:Gn nz np nc s=0)(he:∀x∈s.2.2,EdOk np x)(hn:Cg s.1=true):SchR nz np nc s:=by
 have hf:=AgX h
 have h0:FL (·.1) (E4 nz np nc) s.2.1=0:=by
  unfold Gn at h;obtain⟨h1,h⟩:=cz h;obtain⟨h2,h⟩:=cz h;by_cases hn:FL (·.1) (E4 nz np nc) s.2.1=0
  ·exact hn
  ·rw[AF hn]at h
   exact absurd h hn
 have Gw:=AhK s.2.1 0 [] h0 List.nodup_nil;rw[Gi]at Gw;exact⟨hf.l,hf.e,λy hy=>rR h0 y hy,λx hx=>ed_f (he x hx),hn,Gw⟩
theorem a8{α:Type}{of:α->List UInt8}{L:List (List UInt8)}{xs:List α}(h:Named of L xs)(hL:L.Nodup):(xs.map of).Nodup:=by rw[h.2];exact hL.sublist (List.take_sublist _ _)
section
variable{β:Type}
theorem sP{c:Au}(h:ConfOk c)(k:Int->Option β):PT c k=k 0:=by
 have e1:zNames.length=2:=rfl;have e2:pNames.length=8:=rfl;have e3:cNames.length=1:=rfl;have e4:sNames.length=3:=rfl;have l1:=h.oz.1.1;have l2:=h.op.1.1;have l3:=h.oc.1.1;have l4:=h.os.1.1
 have UF:J0∉c.2.1.map (·.1):=by rw[h.op.1.2];intro g;have:=cJ g;exact absurd this (by decide)
 have hN:=AhD h;have uN:=Ul h.os.1 (by decide);unfold PT;rw[Ad];refine(An (by omega)).trans ?_;refine(An (by omega)).trans ?_;refine(An (by omega)).trans ?_;refine(An (by omega)).trans ?_;refine(Ax1 (by omega) (λz hz=>⟨h.oz.2 z hz,hN.z z hz⟩) (a8 h.oz.1 (by decide)) _).trans ?_;refine(BJ rfl).trans ?_;refine(AwB (by omega) (by omega) (λp hp=>⟨h.op.2 p hp,hN.p p hp⟩) (a8 h.op.1 (by decide)) UF _).trans ?_;refine(BJ rfl).trans ?_;refine(AwJ (by omega) (by omega) (λx hx=>⟨(h.oc.2 x hx).1,hN.c x hx⟩) (a8 h.oc.1 (by decide)) _).trans ?_;refine(BJ rfl).trans ?_;exact AwE (by omega) (by omega) (by omega) (by omega) (λs hs=>Ayd (h.os.2 s hs).1 (h.os.2 s hs).2 (uN s hs)) (a8 h.os.1 (by decide)) _
theorem AhL{c:Au}{i:Nat}(hi:i<c.2.2.2.length)(hl:c.2.2.2.length<=1000)(es:List Ed)(k:Au->Option β):Sc c (i:Int) es k=k (GH c i es):=by unfold Sc;rw[Ad];refine(DV (show c.2.2.2.length*64<=_ by omega)).trans ?_;refine(AR (by omega)).trans ?_;rw[Bw];rfl
theorem AhM{c:Au}(h:ConfOk c){i:Nat}(hi:i<c.2.2.2.length){y:Ed}(hy:EdOk (c.2.1.length:Int) y)(hn:(c.2.2.2.getD i sch0).2.2.length<=47)(k:Au->Int->Option β):TB c (i:Int) y k=k (GH c i ((c.2.2.2.getD i sch0).2.2++[y])) 0:=by
 have e4:sNames.length=3:=rfl;have l4:=h.os.1.1;unfold TB;rw[Ad];refine(sP h _).trans ?_;refine(BJ rfl).trans ?_;refine(An (by omega)).trans ?_;refine(An (by omega)).trans ?_;refine(AR (by omega)).trans ?_;rw[Bw];refine(DV (show(c.2.2.2.getD i sch0).2.2.length*40<=_ by omega)).trans ?_;refine(DV (show((c.2.2.2.getD i sch0).2.2.length+1)*40<=_ by omega)).trans ?_;refine(AhL hi (by omega) _ _).trans ?_;refine(sP (sN h hi (by rw[AE];show _+1<=48;omega) (J1 (sO h hi) hy)) _).trans ?_;exact BJ rfl
end
end
end Go.Lift
namespace Go.Lift
open Go.RowKit Go.IntWalk
noncomputable section
variable[Sl]
set_option maxRecDepth 10000
section
variable{β:Type}{G:Option β->Prop}
def sQ[Sl]:Prop:=∀{β:Type}(k:Bool->Option β),Z5 k=k true
end
end
end Go.Lift
namespace Go.Lift
noncomputable section
set_option maxRecDepth 100000
theorem Aye:@sQ ⟨0⟩:=λk=>by kernel_rfl
end
end Go.Lift
namespace Go.Lift
open Go.RowKit Go.IntWalk
noncomputable section
variable[Sl]
set_option maxRecDepth 10000
theorem Ayf{ls:List (List Tok)}:(ls.length:Nat)<=(Ga ls).length:=by
 induction ls with
 |nil=>simp
 |cons t r ih=>
  have e:Ga (t::r)=J6 t++([10]++Ga r):=by simp[Ga]
  rw[e];simp only[AE,Ba,CJ];omega
section
variable{β:Type}
theorem Ayg{c:Au}(h:ConfOk c){i:Nat}(hi:i<c.2.2.2.length){j:Nat}(hj:j<(c.2.2.2.getD i sch0).2.2.length)(k:Au->Int->Option β):Zf c (i:Int) (j:Int) k=k (GH c i ((c.2.2.2.getD i sch0).2.2.take j++(c.2.2.2.getD i sch0).2.2.drop (j+1))) 0:=by
 have e4:sNames.length=3:=rfl;have l4:=h.os.1.1;have NK:(c.2.2.2.getD i sch0).2.2.length<=48:=(ZV h _ (C1 hi)).e;unfold Zf;rw[Ad];refine(sP h _).trans ?_;refine(BJ rfl).trans ?_;refine(An (by omega)).trans ?_;unfold Ze;rw[Ad];unfold pW;refine(An (by omega)).trans ?_;refine(An (by omega)).trans ?_;refine(AR (by omega)).trans ?_;rw[Bw];refine(An (show ¬(((c.2.2.2.getD i sch0).2.2.length:Int)<=(j:Int)) by omega)).trans ?_;unfold Zd;rw[Ad];unfold pV;refine(AR (by omega)).trans ?_;rw[Bw];generalize GM:(c.2.2.2.getD i sch0).2.2=es at hj NK;have AyT:(c.2.2.2.getD i (([]:List UInt8),(([]:List Bz),([]:List Ed)))).2.2=es:=GM;simp only[AyT];refine(c_p3 (by omega) (by omega) (by omega)).trans ?_;rw[show Int.toNat (0:Int)=0 from rfl,Bw,List.drop_zero,Bw,Jp];refine(DV (show(es.take j).length*40<=_ by rw[FR];omega)).trans ?_;rw[i64_in ((j:Int)+1) (by omega),show((j:Int)+1).toNat=j+1 by omega];refine(c_p3 (by omega) (by omega) (by omega)).trans ?_;refine(DV (show((es.take j).length+(es.drop (j+1)).length)*40<=_ by rw[FR,Il];omega)).trans ?_;exact AhL hi (by omega) _ _
theorem printEdits(F:sQ)(t:List Int)(k:Bool->Option β):Z6 t k=k true:=by
 unfold Z6;rw[Ad];refine(AvS _ _).trans ?_;by_cases h0:¬(t.length:Int)<=500
 ·rw[AF h0]
  exact F _
 have h1:(t.length:Int)<=500:=by omega
 refine(BJ h1).trans ?_;refine(AvT _ _).trans ?_;refine Awr (G:=λA=>A=k true) (AvU h1) (by decide) λc d hd hc h1 he=>?_;have l2:c.2.1.length<=8:=hc.op.1.1;have l4:c.2.2.2.length<=3:=hc.os.1.1;have Azb:IntKind.i64.wrap ((c.2.2.2.length:Int)-1)=((c.2.2.2.length-1:Nat):Int):=by rw[i64_in _ (by omega)];omega
 have hi:c.2.2.2.length-1<c.2.2.2.length:=by omega
 have My:=he _ (C1 (d:=sch0) hi);simp only[Azb];refine AgI (G:=λA=>A=k true) hd ⟨h1.2.1,l2⟩ λy d' Cs hy=>?_;refine(AhM hc hi hy (by omega) _).trans ?_;have Mv:=sN hc hi (es:=(c.2.2.2.getD (c.2.2.2.length-1) sch0).2.2++[y]) (by rw[AE];show _+1<=48;omega) (J1 (sO hc hi) hy);have B5:=AhJ (es:=(c.2.2.2.getD (c.2.2.2.length-1) sch0).2.2) h1.2.2 y;rw[Ayc hi]at B5;have Ai0:=AhH c (c.2.2.2.length-1) hi ((c.2.2.2.getD (c.2.2.2.length-1) sch0).2.2++[y]);have AC0:=AhI c (c.2.2.2.length-1) ((c.2.2.2.getD (c.2.2.2.length-1) sch0).2.2++[y]);refine(AhM Mv (i:=c.2.2.2.length-1) (by omega) hy (by rw[Ai0,AE];show _+1<=47;omega) _).trans ?_;rw[Ai0,AhG c _ hi];refine(AR (by omega)).trans ?_;rw[Bw];have AhU:=sN hc hi (es:=(c.2.2.2.getD (c.2.2.2.length-1) sch0).2.2++[y]++[y]) (by rw[AE,AE];show _+1+1<=48;omega) (J1 (J1 (sO hc hi) hy) hy);have Ai1:=AhH c (c.2.2.2.length-1) hi ((c.2.2.2.getD (c.2.2.2.length-1) sch0).2.2++[y]++[y]);have AC1:=AhI c (c.2.2.2.length-1) ((c.2.2.2.getD (c.2.2.2.length-1) sch0).2.2++[y]++[y]);have AiI:=AhJ (es:=(c.2.2.2.getD (c.2.2.2.length-1) sch0).2.2++[y]) h1.2.2 y;rw[B5]at AiI;refine(Ayg AhU (i:=c.2.2.2.length-1) (by omega) (j:=(c.2.2.2.getD (c.2.2.2.length-1) sch0).2.2.length) (by rw[Ai1,AE,AE];show _<_+1+1;omega) _).trans ?_;rw[Ai1,AhG c _ hi]
 have hx:List.take (c.2.2.2.getD (c.2.2.2.length-1) sch0).2.2.length ((c.2.2.2.getD (c.2.2.2.length-1) sch0).2.2++[y]++[y])++List.drop ((c.2.2.2.getD (c.2.2.2.length-1) sch0).2.2.length+1) ((c.2.2.2.getD (c.2.2.2.length-1) sch0).2.2++[y]++[y])=(c.2.2.2.getD (c.2.2.2.length-1) sch0).2.2++[y]:=by generalize(c.2.2.2.getD (c.2.2.2.length-1) sch0).2.2=es;rw[Cw,JM (AC _),Jp,QU];simp
 rw[hx];refine(ZZ hc _).trans ?_;refine(ZZ Mv _).trans ?_;refine(ZZ AhU _).trans ?_;refine(ZZ Mv _).trans ?_;have AiF:=(AhE Mv).1;have AiJ:=Ahy AiF.g;have AC7:=AiF.n;rw[AiI,B5]at*;have hL:1<=(Ga [J5 c.2.1 y]).length:=Ayf (ls:=[J5 c.2.1 y]);rw[Ahz]at AiJ;refine(BJ rfl).trans ?_;refine(BJ rfl).trans ?_;refine(BJ rfl).trans ?_;refine(BJ rfl).trans ?_;refine(BJ rfl).trans ?_;refine(BJ rfl).trans ?_;refine(BJ rfl).trans ?_;simp only[Ahz];generalize Ga (Ku c)=S at*;generalize Ga [J5 c.2.1 y]=L at*;rw[AE]at AiJ;refine(An (by rw[AE];omega)).trans ?_;refine(c_p3 (by omega) (by omega) (by rw[AE];omega)).trans ?_;refine(BJ (by simp)).trans ?_;refine(c_p3 (by omega) (by rw[AE];omega) (by omega)).trans ?_;have e2:List.drop (Int.toNat (S.length:Int)) (List.take (Int.toNat ((S++L).length:Int)) (S++L))=L:=by rw[Bw,Bw,Jp];simp
 simp only[e2];refine(Ar (by rw[AE];omega)).trans ?_;refine(Ar trivial).trans ?_;refine(Ar trivial).trans ?_;exact F _
end
end
end Go.Lift
