/- Part15: LZone, LDice, LNames1, LNames2, LNames3, LLim, LNames4, LNames5, LPrn1, LPrn2, LRef1, LRef2, LRef3, LRef4, LRef5, LRef6, LRef7, LRef8, LRef9, LPrn3, LPrn4, LPrn5, LStr, LNum, LLexNum, LLexNum2, LPrn6, LPrn7, LPrn8, LPrn9, LEdt1, LRefA, LBld1. -/
import Derived.KernelRfl
import Derived.Test.YtadbbhhfdjjkhaaGreatDoorPart14
set_option linter.unusedVariables false
set_option linter.unusedSectionVars false
set_option linter.unusedSimpArgs false
namespace Go.Lift
open Go.RowKit Go.IntWalk
noncomputable section
variable[Sl]
set_option maxRecDepth 10000
section
variable{β:Type}
theorem ABQ{y m:Int}(hy:1970<=y/\y<=2240)(hm:1<=m/\m<=12)(k:Int->Option β):OO (y,(m,1)) k=k (cntN y+sumM (Be y) (m-1).toNat):=by
 have NJ:sumM (Be y) 0=0:=rfl;have hb:=Pa (Be y) (m-1).toNat;have h0:0<=cntN y/\cntN y<=100000:=by unfold cntN;omega
 unfold OO;rw[Ad];refine(Lc (y:=y) (by omega) _).trans ?_;simp only;rw[i64_in (cntN y+1) (by omega),i64_in (cntN y+1-1) (by omega)];unfold ZY;rw[Ad];refine(Al7 (y:=y) (by omega) m 1 (m-1).toNat fuel 0 (cntN y+1-1) (by omega) (by omega) (BB (by omega)) (by omega) (by omega) _).trans (k_eq ?_);rw[Ei,NJ];omega
def Cn(y m:Int):Int:=cntN y+sumM (Be y) (m-1).toNat
theorem VR(lp:Prop)[Decidable lp]{m:Int}(hm:1<=m/\m<=12):28<=Cf lp m/\Cf lp m<=31:=by
 unfold Cf;rw[if_neg (by omega),if_neg (by omega)];by_cases h2:m=2
 ·rw[if_pos h2]
  by_cases h3:lp
  ·rw[if_pos h3];omega
  ·rw[if_neg h3];omega
 ·rw[if_neg h2]
  by_cases h4:m=4\/m=6\/m=9\/m=11
  ·rw[if_pos h4];omega
  ·rw[if_neg h4];omega
def nthD(y m w wd:Int):Int:=
 let n:=Cn y m
 let d:=n+(wd-(n+3)%7+7)%7+7*(w-1)
 if n+Cf (Be y) m<=d then d-7 else d
theorem Ald{y m:Int}(hy:1970<=y/\y<=2240)(hm:1<=m/\m<=12):0<=Cn y m/\Cn y m<=200000:=by
 have hb:=Pa (Be y) (m-1).toNat;have Aj:sumM (Be y) (m-1).toNat<=sumM (Be y) (m-1).toNat:=MS _;have h0:0<=cntN y/\cntN y<=99000:=by unfold cntN;omega
 unfold Cn;omega
theorem ABR{y m w wd:Int}(hy:1970<=y/\y<=2240)(hm:1<=m/\m<=12)(hw:1<=w/\w<=5)(hd:0<=wd/\wd<=6)(k:Int->Int->Option β):aT y m w wd k=k (nthD y m w wd) 0:=by
 have hl:=VR (Be y) hm;have hb:=Pa (Be y) (m-1).toNat;have h0:0<=cntN y/\cntN y<=99000:=by unfold cntN;omega
 have hn:0<=Cn y m/\Cn y m<=100000:=by unfold Cn;omega
 unfold aT;rw[Ad]
 have hv:∀k:Bool->Option β,ON (y,m,1) k=k true:=by intro k;unfold ON;rw[Ad];refine(Ai hy.1).trans ?_;refine(Ai hy.2).trans ?_;refine(Ai (by show(1:Int)<=1;omega)).trans ?_;refine(OZ (by show 0<=y;omega) _ _).trans ?_;exact k_eq (At (by show 1<=Cf (Be y) m;omega))
 refine(hv _).trans ?_;refine(Ae (by omega)).trans ?_;refine(Ae (by omega)).trans ?_;refine(Ae (by omega)).trans ?_;refine(Ae (by omega)).trans ?_;refine(ABQ hy hm _).trans ?_;rw[show cntN y+sumM (Be y) (m-1).toNat=Cn y m from rfl];unfold pX;rw[Ad];refine(OZ (by omega) _ _).trans ?_;have e1:Int.tmod (Cn y m) 7=Cn y m%7:=FD hn.1;simp only;rw[e1];have e2:IntKind.i64.wrap (Cn y m%7+10)=Cn y m%7+10:=i64_in _ (by omega);rw[e2]
 have e3:Int.tmod (Cn y m%7+10) 7=(Cn y m+3)%7:=by rw[FD (by omega)];omega
 rw[e3];have g1:0<=(Cn y m+3)%7/\(Cn y m+3)%7<7:=by omega
 rw[i64_in (wd-(Cn y m+3)%7) (by omega),i64_in (wd-(Cn y m+3)%7+7) (by omega)];rw[FD (a:=wd-(Cn y m+3)%7+7) (by omega)];have g2:0<=(wd-(Cn y m+3)%7+7)%7/\(wd-(Cn y m+3)%7+7)%7<7:=by omega
 rw[i64_in (w-1) (by omega),i64_in (7*(w-1)) (by omega),i64_in (Cn y m+(wd-(Cn y m+3)%7+7)%7) (by omega),
  i64_in (Cn y m+(wd-(Cn y m+3)%7+7)%7+7*(w-1)) (by omega),i64_in (Cn y m+Cf (Be y) m) (by omega),
  i64_in (Cn y m+(wd-(Cn y m+3)%7+7)%7+7*(w-1)-7) (by omega)]
 unfold nthD;simp only;by_cases h:Cn y m+Cf (Be y) m<=Cn y m+(wd-(Cn y m+3)%7+7)%7+7*(w-1)
 ·refine(Ai h).trans ?_
  rw[if_pos h]
 ·refine(Ae h).trans ?_
  rw[if_neg h]
theorem Lf{y m w wd:Int}(hm:1<=m/\m<=12)(hw:1<=w/\w<=5):Cn y m+7*(w-1)-7<=nthD y m w wd/\nthD y m w wd<=Cn y m+7*w-1/\(w<=4->Cn y m+7*(w-1)<=nthD y m w wd)/\nthD y m w wd<=Cn y m+30:=by
 have hl:=VR (Be y) hm;unfold nthD;simp only;by_cases h:Cn y m+Cf (Be y) m<=Cn y m+(wd-(Cn y m+3)%7+7)%7+7*(w-1)
 ·rw[if_pos h];omega
 ·rw[if_neg h];omega
structure RuleOk (r:BZ):Prop where
 f:1970<=r.1/\r.1<=2240
 t:r.1<=r.2.1/\r.2.1<=2240
 m:1<=r.2.2.1/\r.2.2.1<=12
 w:1<=r.2.2.2.1/\r.2.2.2.1<=5
 d:0<=r.2.2.2.2.1/\r.2.2.2.2.1<=6
 s:0<=r.2.2.2.2.2.1/\r.2.2.2.2.2.1<=86399
 o:-64800<=r.2.2.2.2.2.2/\r.2.2.2.2.2.2<=64800
theorem D9{n lo hi:Int}(h:lo<=n/\n<=hi):inI n lo hi=true:=by unfold inI;rw[At h.1,At h.2];rfl
theorem ABS{r:BZ}(h:RuleOk r)(k:Int->Option β):Zy r k=k 0:=by unfold Zy;rw[Ad];refine(z_in _ _ _ _).trans ?_;rw[D9 h.f];refine(z_in _ _ _ _).trans ?_;rw[D9 h.t];refine(z_in _ _ _ _).trans ?_;rw[D9 h.m];refine(z_in _ _ _ _).trans ?_;rw[D9 h.w];refine(z_in _ _ _ _).trans ?_;rw[D9 h.d];refine(z_in _ _ _ _).trans ?_;rw[D9 h.s];refine(z_in _ _ _ _).trans ?_;rw[D9 h.o];rfl
def occY(r:BZ)(y:Int):Int×Int:=(nthD y r.2.2.1 r.2.2.2.1 r.2.2.2.2.1*86400+r.2.2.2.2.2.1,r.2.2.2.2.2.2)
def occL(r:BZ):List (Int×Int):=(List.range (r.2.1-r.1+1).toNat).map λi=>occY r (r.1+(i:Nat))
theorem yV{r:BZ}(h:RuleOk r){y:Int}(hy:r.1<=y/\y<=r.2.1):-10<=nthD y r.2.2.1 r.2.2.2.1 r.2.2.2.2.1/\nthD y r.2.2.1 r.2.2.2.1 r.2.2.2.2.1<=300000:=by have h1:=h.f;have h2:=h.t;have hb:=Lf (y:=y) (wd:=r.2.2.2.2.1) h.m h.w;have hn:=Ald (y:=y) (m:=r.2.2.1) (by omega) h.m;have:=h.w;omega
theorem ABT{r:BZ}(h:RuleOk r)(a:List BZ)(b c:Int)(K:wB β):∀(j f:Nat)(y:Int)(out:List (Int×Int)),y+(j:Int)=r.2.1+1->r.1<=y->j<f->out.length+j<=1000000->Vr f K y a b c out r=K a b c (out++(List.range j).map λi=>occY r (y+(i:Nat))):=by
 have h1:=h.f;have h2:=h.t;intro j
 induction j with
 |zero=>intro f y out hj hy hf hl;obtain⟨f,rfl⟩:∃f',f=f'+1:=⟨f-1,by omega⟩;simp only[Ajn,dF];refine(Ae (by omega)).trans ?_;simp
 |succ j ih=>
  intro f y out hj hy hf hl;obtain⟨f,rfl⟩:∃f',f=f'+1:=⟨f-1,by omega⟩;have hb:=yV h (y:=y) ⟨hy,by omega⟩;have hs:=h.s;simp only[Ajn,dF];refine(Ai (by omega)).trans ?_;refine(ABR (by omega) h.m h.w h.d _).trans ?_;rw[i64_in (nthD y r.2.2.1 r.2.2.2.1 r.2.2.2.2.1*86400) (by omega),i64_in (nthD y r.2.2.1 r.2.2.2.1 r.2.2.2.2.1*86400+r.2.2.2.2.2.1) (by omega)];have hr:(out.length+1)*16<=140737488355328:=by omega
  refine(Er hr).trans ?_;rw[i64_in (y+1) (by omega)];have NA:(out++[occY r y]).length+j<=1000000:=by simp;omega
  refine(ih f (y+1) (out++[occY r y]) (by omega) (by omega) (by omega) NA).trans ?_;refine Ax (K a b c) ?_;rw[Ci,List.range_succ_eq_map,CM,Qm];congr 1;simp only[List.singleton_append];congr 1
  ·simp
  ·refine List.map_congr_left λi _=>?_
   simp only[Function.comp];congr 1;simp;omega
def CY(l:List BZ):List (Int×Int):=l.flatMap occL
theorem Ale(r:BZ):(occL r).length=(r.2.1-r.1+1).toNat:=by simp[occL]
def occS(z:AK):List (Int×Int):=vI (CY z.2.2)
structure ZoneOk (z:AK):Prop where
 o:-64800<=z.2.1/\z.2.1<=64800
 r:∀r∈z.2.2,RuleOk r
 n:(CY z.2.2).length<=12
 l:z.2.2.length<=12
theorem yW{z:AK}(h:ZoneOk z){x:Int×Int}(hx:x∈CY z.2.2):(-1000000<=x.1/\x.1<=30000000000)/\(-64800<=x.2/\x.2<=64800):=by
 obtain⟨r,hr,hx⟩:=List.mem_flatMap.1 hx;obtain⟨i,hi,rfl⟩:=Gy.1 hx;have hi:i<(r.2.1-r.1+1).toNat:=by simpa using hi
 have hb:=yV (h.r r hr) (y:=r.1+(i:Nat)) (by omega);have hs:=(h.r r hr).s;have ho:=(h.r r hr).o;refine⟨?_,ho⟩;show-1000000<=nthD _ _ _ _*86400+r.2.2.2.2.2.1/\nthD _ _ _ _*86400+r.2.2.2.2.2.1<=30000000000;omega
theorem Nu{α:Type}{l:List α}{i:Nat}(d:α)(h:i<l.length):l.take (i+1)=l.take i++[l.getD i d]:=by rw[List.take_add_one];simp[List.getD,h]
theorem ABU{z:AK}(h:ZoneOk z)(k1:vV β)(K:vW β):dE k1 K 0 z.2.2 (z.2.2.length:Int) 0 z=K ((CY z.2.2).length:Int) z:=by
 have hl:=h.l;unfold dE;rw[Ad];have PE:∀(i:Nat),i<z.2.2.length->RuleOk (z.2.2.getD i (0,0,0,0,0,0,0)):=λi hi=>h.r _ (C5 hi)
 refine(Rz (λi(n:Int)=>0<=n/\n<=300*(i:Int)/\n=((CY (z.2.2.take i)).length:Int)) (λm i n=>Vq m k1 K n z.2.2 (z.2.2.length:Int) i z) (λn r=>n+(r.2.1-r.1+1)) (λn=>K ((CY z.2.2).length:Int) z) (0,0,0,0,0,0,0) z.2.2 0 fuel (BB (by omega)) ⟨by omega,by omega,rfl⟩
  (λi n hi hn=>?_) (λm i n hi hn=>?_) (λm n hn=>?_))
 ·obtain⟨h1,h2,h3⟩:=hn
  have hr:=PE i hi;have g1:=hr.f;have g2:=hr.t;refine⟨by omega,by omega,?_⟩;rw[Nu (0,0,0,0,0,0,0) hi];unfold CY at h3⊢;rw[Qj,AR,Su,Ale];omega
 ·obtain⟨h1,h2,h3⟩:=hn
  have hr:=PE i hi;have g1:=hr.f;have g2:=hr.t;simp only[Ajm,dD];refine(Ai (by omega)).trans ?_;refine(Al (by omega)).trans ?_;rw[AT];refine(ABS hr _).trans ?_;refine(BM rfl).trans ?_;generalize z.2.2.getD i (0,0,0,0,0,0,0)=r at hr g1 g2;rw[i64_in (r.2.1-r.1) (by omega),i64_in (r.2.1-r.1+1) (by omega),i64_in (n+(r.2.1-r.1+1)) (by omega),i64_in ((i:Int)+1) (by omega)]
 ·obtain⟨h1,h2,h3⟩:=hn
  rw[KA]at h3;simp only[Ajm,dD];refine(Ae (by omega)).trans ?_;rw[h3]
theorem ABV{z:AK}(h:ZoneOk z)(K:vY β):dH K z.2.2 (z.2.2.length:Int) 0 []=K (CY z.2.2):=by
 have hl:=h.l;unfold dH;rw[Ad]
 refine(Rz (λi(out:List (Int×Int))=>out=CY (z.2.2.take i)) (λm i out=>Vs m K z.2.2 (z.2.2.length:Int) i out) (λout r=>out++occL r) (λout=>K (CY z.2.2)) (0,0,0,0,0,0,0) z.2.2 [] fuel (BB (by omega)) rfl
  (λi out hi ho=>?_) (λm i out hi ho=>?_) (λm out ho=>?_))
 ·rw[Nu (0,0,0,0,0,0,0) hi,ho]
  unfold CY;rw[Qj,Su]
 ·have hr:RuleOk (z.2.2.getD i (0,0,0,0,0,0,0)):=h.r _ (C5 hi)
  have g1:=hr.f;have g2:=hr.t
  have Bp:out.length<=12:=by have e:z.2.2=z.2.2.take i++z.2.2.drop i:=(L8 i z.2.2).symm;have NC:=h.n;rw[e]at NC;unfold CY at NC;rw[Qj,AR]at NC;rw[ho];unfold CY;omega
  simp only[Ajo,dG];refine(Ai (by omega)).trans ?_;refine(Al (by omega)).trans ?_;rw[AT];generalize z.2.2.getD i (0,0,0,0,0,0,0)=r at hr g1 g2;unfold wD;rw[Ad];refine(ABT hr _ _ _ _ (r.2.1-r.1+1).toNat fuel r.1 out (by omega) (by omega) (BB (by omega)) (by omega)).trans ?_;rw[i64_in ((i:Int)+1) (by omega)];rfl
 ·rw[KA]at ho
  simp only[Ajo,dG];refine(Ae (by omega)).trans ?_;rw[ho]
theorem ABW{z:AK}(h:ZoneOk z)(k:Int->List (Int×Int)->Option β):dI z k=k 0 (occS z):=by
 have hl:=h.l;have NC:=h.n;unfold dI;rw[Ad];refine(z_in _ _ _ _).trans ?_;rw[D9 h.o];refine(Ae (by omega)).trans ?_;refine(ABU h _ _).trans ?_;refine(Ae (by omega)).trans ?_;refine(ABV h _).trans ?_
 have hg:(CY z.2.2).all Kj=true:=by rw[Eh];intro x hx;have:=(yW h hx).1;unfold Kj;rw[At (by omega),At (by omega)];rfl
 have hn:decide ((CY z.2.2).length<13)=true:=At (by omega);rw[hg,hn];rfl
abbrev TrS:=Int×List (Int×Int)
def Ho(_:Nat)(o:Int×Int)(s:TrS):Int⊕TrS:=
 cond (decide (o.2=s.1)) (.inr s)
  (cond (decide (86400<=o.2-s.1)||(decide (o.2-s.1≤-86400)||((!inI (o.1-s.1) 0 8589934592)||(decide (0<(s.2.length:Int))&&decide (o.1-s.1<(s.2.getD (s.2.length-1) (0,0)).1+604800)))))
   (.inl 6) (.inr (o.2,s.2++[(o.1-s.1,o.2)])))
def TrI(i:Nat)(s:TrS):Prop:=(-64800<=s.1/\s.1<=64800)/\s.2.length<=i/\∀x∈s.2,0<=x.1/\x.1<=8589934592
theorem yX{α σ ε:Type}(I:Nat->σ->Prop)(F:Nat->Int->σ->Option β)(g:Nat->α->σ->ε⊕σ)(E:ε->Option β)(K:σ->Option β)(d:α)(xs:List α)(hI:∀(i:Nat) s s',i<xs.length->I i s->g i (xs.getD i d) s=.inr s'->I (i+1) s')(h1:∀(m i:Nat) s,i<xs.length->I i s->F (m+1) (i:Int) s=sumK E (λs'=>F m ((i:Int)+1) s') (g i (xs.getD i d) s))(h2:∀(m:Nat) s,F (m+1) (xs.length:Int) s=K s):∀(r:List α)(j fuel:Nat)(s:σ),xs.drop j=r->j+r.length=xs.length->r.length<fuel->I j s->F fuel (j:Int) s=sumK E K (walk g r j s)
 |r,j,0,s,_,_,h,_=>absurd h (MN _)
 |[],j,m+1,s,hd,hj,_,_=>by simp only[CX,Oa]at hj;subst hj;rw[h2];rfl
 |x::r,j,m+1,s,hd,hj,hm,hs=>by
  simp only[AX]at hj hm;have h3:j<xs.length:=by omega
  have hx:xs.getD j d=x:=by rw[JY h3]at hd;injection hd with Cq Ct;simp[List.getD,h3,Cq]
  have hr:xs.drop (j+1)=r:=by rw[JY h3]at hd;injection hd with Cq Ct
  rw[h1 m j s h3 hs,hx,walk];cases hg:g j x s with
  |inl e=>rfl
  |inr s'=>simp only[sumK];exact yX I F g E K d xs hI h1 h2 r (j+1) m s' hr (by omega) (by omega) (hI j s s' h3 hs (hx▸hg))
theorem VS{z:AK}(h:ZoneOk z):(occS z).Perm (CY z.2.2)/\∀i j,i<j->j<(CY z.2.2).length->¬((occS z).getD j (0,0)).1-((occS z).getD i (0,0)).1<0:=by refine Ael Aj7 λx hx=>?_;have:=(yW h hx).1;unfold Kj;rw[At (by omega),At (by omega)];rfl
theorem fW{z:AK}(h:ZoneOk z){x:Int×Int}(hx:x∈occS z):(-1000000<=x.1/\x.1<=30000000000)/\(-64800<=x.2/\x.2<=64800):=
 yW h ((VS h).1.mem_iff.1 hx)
def HE(z:AK):Int⊕TrS:=walk Ho (occS z) 0 (z.2.1,[])
theorem ABX{z:AK}(h:ZoneOk z)(k:Int->List (Int×Int)->Option β):dR z k=sumK (λe=>k e []) (λs=>k 0 s.2) (HE z):=by
 have Bp:(occS z).length<=12:=by rw[(VS h).1.length_eq];exact h.n
 unfold dR;rw[Ad];refine(ABW h _).trans ?_;refine(BM rfl).trans ?_;unfold wS;rw[Ad]
 refine yX TrI (λm i(s:TrS)=>Vy m (λt3 t2=>k t3 t2) (λout=>k 0 out) s.1 ((occS z).length:Int) i s.2 (occS z)) Ho (λe=>k e []) (λs=>k 0 s.2) (0,0) (occS z)
  (λi s s' hi hs hg=>?_) (λm i s hi hs=>?_) (λm s=>?_) (occS z) 0 fuel (z.2.1,[]) rfl (by simp) (BB (by omega)) ⟨h.o,AQ _,λx hx=>absurd hx DQ⟩
 ·have ho:=fW h (C5 (d:=((0,0):Int×Int)) hi)
  obtain⟨h1,h2,h3⟩:=hs;generalize(occS z).getD i (0,0)=o at ho hg;unfold Ho at hg;by_cases e:o.2=s.1
  ·rw[At e]at hg
   injection hg with hg;subst hg;exact⟨h1,by omega,h3⟩
  ·rw[AN e]at hg
   cases hc:(decide (86400<=o.2-s.1)||(decide (o.2-s.1≤-86400)||((!inI (o.1-s.1) 0 8589934592)||(decide (0<(s.2.length:Int))&&decide (o.1-s.1<(s.2.getD (s.2.length-1) (0,0)).1+604800)))))with
   |true=>rw[hc]at hg;cases hg
   |false=>
    rw[hc]at hg;injection hg with hg;subst hg;simp only[MJ,Bool.not_eq_false']at hc;have CV:=hc.2.2.1;unfold inI at CV;rw[CE,Im,Im]at CV;refine⟨ho.2,by simp;omega,λx hx=>?_⟩;rcases Cs.1 hx with hx|hx
    ·exact h3 x hx
    ·rw[EO.1 hx]
     exact CV
 ·have ho:=fW h (C5 (d:=((0,0):Int×Int)) hi)
  obtain⟨h1,h2,h3⟩:=hs;simp only[AjN,dQ];refine(Ai (by omega)).trans ?_;refine(Al (by omega)).trans ?_;rw[AT];generalize(occS z).getD i (0,0)=o at ho;unfold Ho;rw[i64_in ((i:Int)+1) (by omega)];by_cases e:o.2=s.1
  ·refine(Ai e).trans ?_
   rw[At e];rfl
  refine(Ae e).trans ?_;rw[AN e,i64_in (o.2-s.1) (by omega),i64_in (o.1-s.1) (by omega)];by_cases a1:86400<=o.2-s.1
  ·refine(Ai a1).trans ?_
   rw[At a1];rfl
  refine(Ae a1).trans ?_;rw[AN a1];by_cases a2:o.2-s.1≤-86400
  ·refine(Ai a2).trans ?_
   rw[At a2];rfl
  refine(Ae a2).trans ?_;rw[AN a2];refine(z_in _ _ _ _).trans ?_;cases inI (o.1-s.1) 0 8589934592 with
  |false=>rfl
  |true=>
   have hp:∀a b t(K:AjL β),Vx K a ((occS z).length:Int) b s.2 o t=K o.2 ((occS z).length:Int) b (s.2++[(a,o.2)]) t:=by
    intro a b t K;unfold Vx;rw[Ad];unfold wR;have hr:(s.2.length+1)*16<=140737488355328:=by omega
    exact Er hr
   by_cases a3:(0:Int)<(s.2.length:Int)
   ·refine(Ai a3).trans ?_
    rw[i64_in ((s.2.length:Int)-1) (by omega)];refine(Al (by omega)).trans ?_;rw[At a3,show((s.2.length:Int)-1).toNat=s.2.length-1 by omega];have h4:=h3 _ (C5 (d:=((0,0):Int×Int)) (show s.2.length-1<s.2.length by omega));rw[i64_in ((s.2.getD (s.2.length-1) (0,0)).1+604800) (by omega)];by_cases a4:o.1-s.1<(s.2.getD (s.2.length-1) (0,0)).1+604800
    ·refine(Ai a4).trans ?_
     rw[At a4];rfl
    ·refine(Ae a4).trans ?_
     rw[AN a4];refine(hp _ _ _ _).trans ?_;rw[i64_in ((i:Int)+1) (by omega)];rfl
   ·refine(Ae a3).trans ?_
    rw[AN a3];refine(hp _ _ _ _).trans ?_;rw[i64_in ((i:Int)+1) (by omega)];rfl
 ·simp only[AjN,dQ]
  exact Ae (by omega)
def FZ(z:AK):Int:=
 cond (!decide (errV (HE z)=0)) 8 (cond (!decide (Int.tmod z.2.1 60=0)) 8 (cond (!z.2.2.all λr=>decide (Int.tmod r.2.2.2.2.2.2 60=0)) 8 0))
theorem ABY(s:List BZ)(hs:s.length<=1000000)(k:Bool->Option β):eS s k=k (!s.all λr=>decide (Int.tmod r.2.2.2.2.2.2 60=0)):=by
 unfold eS;rw[Ad];unfold xX;rw[Ad];unfold xW;rw[Ad];refine(Jb (λm i=>VA m (λt=>k (decide ((0:Int)<=t))) (λ_=>k (decide ((0:Int)≤-1))) s (s.length:Int) i) (λr=>decide (Int.tmod r.2.2.2.2.2.2 60=0)) (k true) (k false) (0,0,0,0,0,0,0) s fuel (BB (by omega)) (λm i hi=>?_) (λm=>?_)).trans ?_
 ·simp only[Aku,eR]
  refine(Ai (by omega)).trans ?_;refine(Al (by omega)).trans ?_;rw[AT,i64_in ((i:Int)+1) (by omega)];unfold oZ;rw[Ad];show cond (!decide _) _ _=cond (decide _) _ _;cases decide (Int.tmod (s.getD i (0,0,0,0,0,0,0)).2.2.2.2.2.2 60=0)with
  |true=>rfl
  |false=>show k (decide ((0:Int)<=i))=k true;rw[At (by omega:(0:Int)<=i)]
 ·simp only[Aku,eR]
  exact Ae (by omega)
 ·cases s.all λr=>decide (Int.tmod r.2.2.2.2.2.2 60=0)<;>rfl
theorem Alf{z:AK}(h:ZoneOk z)(k:Int->Option β):Rp z k=k (FZ z):=by
 have hl:=h.l;unfold Rp;rw[Ad];unfold x8;rw[Ad];refine(ABX h _).trans ?_;have e:∀K:Int->Option β,sumK (λe=>K e) (λ_=>K 0) (HE z)=K (errV (HE z)):=λK=>Ld K _;refine(e _).trans ?_;unfold FZ;cases decide (errV (HE z)=0)with
 |false=>rfl
 |true=>
  show cond (!decide (Int.tmod z.2.1 60=0)) _ _=k (cond (!decide (Int.tmod z.2.1 60=0)) _ _);cases decide (Int.tmod z.2.1 60=0)with
  |false=>rfl
  |true=>refine(ABY _ (by omega) _).trans ?_;cases z.2.2.all λr=>decide (Int.tmod r.2.2.2.2.2.2 60=0)<;>rfl
end
end
end Go.Lift
namespace Go.Lift
open Go.RowKit Go.IntWalk
noncomputable section
variable[Sl]
abbrev Dice:=List Int×Int
def Co(d:Dice):Prop:=0<=d.2/\d.2<=d.1.length/\d.1.length<=500
theorem ABZ{β:Type}(l:List Int)(k:Bool->Option β):YZ l k=k (decide ((l.length:Int)<=500)):=by simp only[YZ,Ad]
theorem AC0{β:Type}(l:List Int)(k:Dice->Option β):Za l k=k (l,0):=by simp only[Za,Ad]
theorem AC1{l:List Int}(h:(l.length:Int)<=500):Co (l,0):=⟨by simp,by simp,by show l.length<=500;omega⟩
theorem AC2{n:Int}{d:Dice}(hd:Co d)(hn:1<=n/\n<=4611686018427387904):∃x d',0<=x/\x<n/\Co d'/\∀{β:Type}(k:Int->Dice->Option β),C4 n d k=k x d':=by
 obtain⟨h1,h2,h3⟩:=hd;by_cases ha:(d.1.length:Int)<=d.2
 ·exact⟨0,d,by omega,by omega,⟨h1,h2,h3⟩,λk=>by simp(disch:=omega) only[C4,Ad,Ai]⟩
 ·generalize hv:List.getD d.1 (Int.toNat d.2) (0:Int)=v
  have AaM:=k8 v (show 0<n by omega)
  have AGK:-n<Int.tmod v n:=by have h5:=k8 (-v) (show 0<n by omega);rw[Int.neg_tmod]at h5;omega
  have Cv:Co (d.1,d.2+1):=⟨by show(0:Int)<=d.2+1;omega,by show d.2+1<=(d.1.length:Int);omega,h3⟩;by_cases hc:Int.tmod v n<0
  ·refine⟨Int.tmod v n+n,(d.1,d.2+1),by omega,by omega,Cv,λk=>?_⟩
   simp(disch:=omega) only[C4,Ad,hv,Ai,Ae,Al,Fe,i64_in]
  ·refine⟨Int.tmod v n,(d.1,d.2+1),by omega,by omega,Cv,λk=>?_⟩
   simp(disch:=omega) only[C4,Ad,hv,Ai,Ae,Al,Fe,i64_in]
end
end Go.Lift
namespace Go.Lift
open Go.RowKit Go.IntWalk
noncomputable section
variable[Sl]
set_option maxRecDepth 10000
theorem Alg{s:List (Int×Int)}(hs:s.Pairwise λx y=>x.1<y.1){a b:Int×Int}(ha:a∈s)(hb:b∈s)(e:a.1=b.1):a=b:=by
 induction hs with
 |nil=>exact absurd ha DQ
 |cons h _ ih=>
  rcases Bw.1 ha with ga|ga
  ·rcases Bw.1 hb with gb|gb
   ·exact ga.trans gb.symm
   ·have:=h b gb;rw[<-ga]at this;omega
  ·rcases Bw.1 hb with gb|gb
   ·have:=h a ga;rw[<-gb]at this;omega
   ·exact ih ga gb
theorem AC3{l:List (Int×Int)}(h:∀i j,i<j->j<l.length->¬(l.getD j (0,0)).1-(l.getD i (0,0)).1<0):l.Pairwise λx y=>x.1<=y.1:=by rw[XK];intro i j hi hj Dw;have:=h i j Dw hj;simp only[List.getD,hi,hj,Ef,LA]at this;omega
theorem fX{z:AK}(h:ZoneOk z){s:List (Int×Int)}(hp:(CY z.2.2).Perm s)(hs:s.Pairwise λx y=>x.1<y.1):occS z=s:=by obtain⟨h1,h2⟩:=VS h;have Di:(occS z).Perm s:=h1.trans hp;refine List.Perm.eq_of_pairwise (le:=λx y=>x.1<=y.1) (λa b ha hb g1 g2=>?_) (AC3 λi j Dw hj=>h2 i j Dw (h1.length_eq▸hj)) (hs.imp λg=>Int.le_of_lt g) Di;exact Alg hs (Di.mem_iff.1 ha) hb (Int.le_antisymm g1 g2)
theorem AC4(i:Nat){o:Int×Int}{s:TrS}(h:o.2=s.1):Ho i o s=.inr s:=by unfold Ho;rw[At h];rfl
theorem yY(i:Nat){o:Int×Int}{now:Int}(h:o.2≠now)(hd:-86400<o.2-now/\o.2-now<86400)(ha:0<=o.1-now/\o.1-now<=8589934592):Ho i o (now,[])=.inr (o.2,[(o.1-now,o.2)]):=by unfold Ho;simp only;rw[AN h,AN (by omega),AN (by omega),D9 ha];rfl
theorem fZ(i:Nat){o x:Int×Int}{now:Int}{p:List (Int×Int)}(h:o.2≠now)(hd:-86400<o.2-now/\o.2-now<86400)(ha:0<=o.1-now/\o.1-now<=8589934592)(hx:x.1+604800<=o.1-now):Ho i o (now,p++[x])=.inr (o.2,(p++[x])++[(o.1-now,o.2)]):=by
 unfold Ho;simp only;have e:(p++[x]).getD ((p++[x]).length-1) (0,0)=x:=by simp[List.getD]
 rw[AN h,AN (by omega),AN (by omega),D9 ha,e,AN (show ¬o.1-now<x.1+604800 by omega),Bool.and_false];rfl
theorem VT{z:AK}{s:TrS}(h:HE z=.inr s)(ho:Int.tmod z.2.1 60=0)(hr:∀r∈z.2.2,Int.tmod r.2.2.2.2.2.2 60=0):FZ z=0:=by unfold FZ;rw[h,At (show errV (Sum.inr s:Int⊕TrS)=0 from rfl),At ho,Eh.2 λr BD=>At (hr r BD)];rfl
abbrev Nv(z:AK):Prop:=(occS z).Pairwise λx y=>x.1<y.1
theorem AC5{n:List UInt8}{off:Int}(ho:-64800<=off/\off<=64800)(h6:Int.tmod off 60=0):ZoneOk (n,off,[])/\FZ (n,off,[])=0/\Nv (n,off,[]):=by have hz:ZoneOk (n,off,[]):=⟨ho,λr hr=>absurd hr DQ,by simp[CY],by simp⟩;have hs:occS (n,off,[])=[]:=fX hz (s:=[]) (List.Perm.refl _) List.Pairwise.nil;refine⟨hz,VT (s:=(off,[])) ?_ h6 λr hr=>absurd hr DQ,by show(occS _).Pairwise _;rw[hs];exact List.Pairwise.nil⟩;unfold HE;rw[hs];rfl
theorem yZ(r:BZ)(h:r.2.1=r.1):occL r=[occY r r.1]:=by unfold occL;rw[show(r.2.1-r.1+1).toNat=1 by omega];simp[List.range_succ]
theorem Alh(r:BZ)(h:r.2.1=r.1+1):occL r=[occY r r.1,occY r (r.1+1)]:=by unfold occL;rw[show(r.2.1-r.1+1).toNat=2 by omega];simp[List.range_succ]
theorem AC6{n:List UInt8}{off:Int}{r:BZ}(ho:-64800<=off/\off<=64800)(h6:Int.tmod off 60=0)(hr:RuleOk r)(hy:r.2.1=r.1)(AHb:Int.tmod r.2.2.2.2.2.2 60=0)(hd:-86400<r.2.2.2.2.2.2-off/\r.2.2.2.2.2.2-off<86400)(ht:100000<=(occY r r.1).1/\(occY r r.1).1<=8000000000):ZoneOk (n,off,[r])/\FZ (n,off,[r])=0/\Nv (n,off,[r]):=by
 have e:CY [r]=[occY r r.1]:=by unfold CY;rw[Su,yZ r hy]
 have hz:ZoneOk (n,off,[r]):=⟨ho,λx hx=>by rw[EO.1 hx];exact hr,by show(CY [r]).length<=12;rw[e];simp,by simp⟩;have hs:occS (n,off,[r])=[occY r r.1]:=fX hz (by show(CY [r]).Perm _;rw[e]) (Qg _ _);have Wu:∀x∈(n,off,[r]).2.2,Int.tmod x.2.2.2.2.2.2 60=0:=λx hx=>by rw[EO.1 hx];exact AHb
 by_cases g:(occY r r.1).2=off
 ·refine⟨hz,VT (s:=(off,[])) ?_ h6 Wu,by show(occS _).Pairwise _;rw[hs];exact Qg _ _⟩
  unfold HE;rw[hs];unfold walk;rw[AC4 0 (s:=((n,off,[r]).2.1,[])) g];rfl
 ·refine⟨hz,VT (s:=((occY r r.1).2,[((occY r r.1).1-off,(occY r r.1).2)])) ?_ h6 Wu,by show(occS _).Pairwise _;rw[hs];exact Qg _ _⟩
  unfold HE;rw[hs];unfold walk;rw[yY 0 (now:=(n,off,[r]).2.1) g hd (by show 0<=_-off/\_-off<=_;omega)];rfl
theorem Nw{α σ ε:Type}{g:Nat->α->σ->ε⊕σ}{x:α}{r:List α}{j:Nat}{s s':σ}(h:g j x s=.inr s'):walk g (x::r) j s=walk g r (j+1) s':=by rw[walk,h]
theorem alt2{off dl ta tb:Int}(ho:-43200<=off/\off<=45000)(hd:0<dl/\dl<=14400)(h0:100000<=ta)(h1:ta+619200<=tb)(h2:tb<=8000000000):walk Ho [(ta,off+dl),(tb,off)] 0 (off,[])=.inr (off,[(ta-off,off+dl)]++[(tb-(off+dl),off)]):=by
 refine(Nw (yY 0 (o:=(ta,off+dl)) (now:=off) (by show off+dl≠off;omega) (by show-86400<off+dl-off/\off+dl-off<86400;omega) (by show 0<=ta-off/\ta-off<=_;omega))).trans ?_;refine(Nw (fZ (0+1) (o:=(tb,off)) (now:=off+dl) (p:=[]) (x:=(ta-off,off+dl)) (by show off≠off+dl;omega) (by show-86400<off-(off+dl)/\off-(off+dl)<86400;omega) (by show 0<=tb-(off+dl)/\tb-(off+dl)<=_;omega) (by show ta-off+604800<=tb-(off+dl);omega))).trans ?_;rfl
theorem alt4{off dl ta tb tc td:Int}(ho:-43200<=off/\off<=45000)(hd:0<dl/\dl<=14400)(h0:100000<=ta)(h1:ta+619200<=tb)(h2:tb+619200<=tc)(h3:tc+619200<=td)(h4:td<=8000000000):∃l,walk Ho [(ta,off+dl),(tb,off),(tc,off+dl),(td,off)] 0 (off,[])=.inr (off,l):=by
 refine⟨([(ta-off,off+dl),(tb-(off+dl),off)]++[(tc-off,off+dl)])++[(td-(off+dl),off)],?_⟩;refine(Nw (yY 0 (o:=(ta,off+dl)) (now:=off) (by show off+dl≠off;omega) (by show-86400<off+dl-off/\off+dl-off<86400;omega) (by show 0<=ta-off/\ta-off<=_;omega))).trans ?_;refine(Nw (fZ (0+1) (o:=(tb,off)) (now:=off+dl) (p:=[]) (x:=(ta-off,off+dl)) (by show off≠off+dl;omega) (by show-86400<off-(off+dl)/\off-(off+dl)<86400;omega) (by show 0<=tb-(off+dl)/\tb-(off+dl)<=_;omega) (by show ta-off+604800<=tb-(off+dl);omega))).trans ?_;refine(Nw (fZ (0+1+1) (o:=(tc,off+dl)) (now:=off) (p:=[(ta-off,off+dl)]) (x:=(tb-(off+dl),off)) (by show off+dl≠off;omega) (by show-86400<off+dl-off/\off+dl-off<86400;omega) (by show 0<=tc-off/\tc-off<=_;omega) (by show tb-(off+dl)+604800<=tc-off;omega))).trans ?_;refine(Nw (fZ (0+1+1+1) (o:=(td,off)) (now:=off+dl) (p:=[(ta-off,off+dl),(tb-(off+dl),off)]) (x:=(tc-off,off+dl)) (by show off≠off+dl;omega) (by show-86400<off-(off+dl)/\off-(off+dl)<86400;omega) (by show 0<=td-(off+dl)/\td-(off+dl)<=_;omega) (by show tc-off+604800<=td-(off+dl);omega))).trans ?_;rfl
theorem Ali{n:List UInt8}{off dl last:Int}{A B:BZ}(ho:-43200<=off/\off<=45000)(h6:Int.tmod off 60=0)(hA:RuleOk A)(hB:RuleOk B)(hA6:Int.tmod A.2.2.2.2.2.2 60=0)(a1:A.1=2025)(b1:B.1=2025)(a2:A.2.1=last)(b2:B.2.1=last)(hl:last=2025\/last=2026)(ao:A.2.2.2.2.2.2=off+dl)(bo:B.2.2.2.2.2.2=off)(hd:0<dl/\dl<=14400)(t0:∀y,y=2025\/y=2026->100000<=(occY A y).1)(t1:∀y,y=2025\/y=2026->(occY A y).1+619200<=(occY B y).1)(t2:(occY B 2025).1+619200<=(occY A 2026).1)(t3:∀y,y=2025\/y=2026->(occY B y).1<=8000000000):ZoneOk (n,off,[A,B])/\FZ (n,off,[A,B])=0/\Nv (n,off,[A,B]):=by
 have Wu:∀x∈(n,off,[A,B]).2.2,Int.tmod x.2.2.2.2.2.2 60=0:=by
  intro x hx;rcases Bw.1 hx with rfl|hx
  ·exact hA6
  ·rw[EO.1 hx,bo];exact h6
 have Ab5:∀x∈(n,off,[A,B]).2.2,RuleOk x:=by
  intro x hx;rcases Bw.1 hx with rfl|hx
  ·exact hA
  ·rw[EO.1 hx];exact hB
 have s25:=t0 2025 (.inl rfl);have s26:=t0 2026 (.inr rfl);have u25:=t1 2025 (.inl rfl);have u26:=t1 2026 (.inr rfl);have v25:=t3 2025 (.inl rfl);have v26:=t3 2026 (.inr rfl);have eA:∀y,(occY A y).2=off+dl:=λ_=>ao;have eB:∀y,(occY B y).2=off:=λ_=>bo;have qA:∀y,occY A y=((occY A y).1,off+dl):=λy=>KG rfl (eA y);have qB:∀y,occY B y=((occY B y).1,off):=λy=>KG rfl (eB y);rcases hl with rfl|rfl
 ·have e:CY [A,B]=[occY A 2025,occY B 2025]:=by unfold CY;simp only[Jw,List.flatMap_nil];rw[yZ A (by omega),yZ B (by omega),a1,b1];rfl
  have hz:ZoneOk (n,off,[A,B]):=⟨by show-64800<=off/\off<=64800;omega,Ab5,by show(CY [A,B]).length<=12;rw[e];simp,by simp⟩
  have IE:[occY A 2025,occY B 2025].Pairwise λx y=>x.1<y.1:=by refine List.Pairwise.cons (λx hx=>?_) (Qg _ _);rw[EO.1 hx];omega
  have hs:occS (n,off,[A,B])=[occY A 2025,occY B 2025]:=fX hz (by show(CY [A,B]).Perm _;rw[e]) IE;refine⟨hz,VT (s:=(off,[((occY A 2025).1-off,off+dl)]++[((occY B 2025).1-(off+dl),off)])) ?_ h6 Wu,by show(occS _).Pairwise _;rw[hs];exact IE⟩;unfold HE;rw[hs];refine Eq.trans (Ax (λl=>walk Ho l 0 (off,[])) ?_) (alt2 ho hd s25 u25 v25);rw[qA 2025,qB 2025]
 ·have e:CY [A,B]=[occY A 2025,occY A 2026,occY B 2025,occY B 2026]:=by unfold CY;simp only[Jw,List.flatMap_nil];rw[Alh A (by omega),Alh B (by omega),a1,b1];rfl
  have hz:ZoneOk (n,off,[A,B]):=⟨by show-64800<=off/\off<=64800;omega,Ab5,by show(CY [A,B]).length<=12;rw[e];simp,by simp⟩
  have IE:[occY A 2025,occY B 2025,occY A 2026,occY B 2026].Pairwise λx y=>x.1<y.1:=by simp only[H7,Bw,DQ,or_false,forall_eq_or_imp,forall_eq,false_implies,implies_true,List.Pairwise.nil,Fb];omega
  have hs:occS (n,off,[A,B])=[occY A 2025,occY B 2025,occY A 2026,occY B 2026]:=fX hz (by show(CY [A,B]).Perm _;rw[e];exact .cons _ (.swap _ _ _)) IE;obtain⟨l,hl⟩:=alt4 ho hd s25 u25 t2 u26 v26;refine⟨hz,VT (s:=(off,l)) ?_ h6 Wu,by show(occS _).Pairwise _;rw[hs];exact IE⟩;unfold HE;rw[hs];refine Eq.trans (Ax (λl=>walk Ho l 0 (off,[])) ?_) hl;rw[qA 2025,qB 2025,qA 2026,qB 2026]
end
end Go.Lift
namespace Go.Lift
open Go.RowKit Go.IntWalk
noncomputable section
variable[Sl]
set_option maxRecDepth 10000
section
variable{β:Type}{G:Option β->Prop}
theorem w_e{A B:Option β}(e:A=B)(h:G B):G A:=e▸h
theorem w_c{b:Bool}{A B:Option β}(h1:b=true->G A)(h2:b=false->G B):G (cond b A B):=match b,h1,h2 with|true,h,_=>h rfl|false,_,h=>h rfl
theorem w_d{p:Prop}[Decidable p]{A B:Option β}(h1:p->G A)(h2:¬p->G B):G (cond (decide p) A B):=w_c (λh=>h1 (Bv h)) (λh=>h2 (XS h))
theorem w_i{i n:Int}{A B:Option β}(h:0<=i/\i<n)(h1:G A):G (cond (decide (0<=i)&&decide (i<n)) A B):=w_e (Al h) h1
theorem w_r{n:Nat}{A B:Option β}(h:n<=140737488355328)(h1:G A):G (cond (decide (n<=Bl)) A B):=w_e (Er h) h1
theorem w_p{p:Prop}[Decidable p]{A B:Option β}(h:p)(h1:G A):G (cond (decide p) A B):=w_e (Ai h) h1
theorem w_n{p:Prop}[Decidable p]{A B:Option β}(h:¬p)(h1:G B):G (cond (decide p) A B):=w_e (Ae h) h1
theorem CZ{n:Int}{d:Dice}{k:Int->Dice->Option β}(hd:Co d)(hn:1<=n/\n<=4611686018427387904)(hk:∀x d',0<=x->x<n->Co d'->G (k x d')):G (C4 n d k):=by obtain⟨x,d',h1,h2,h3,h4⟩:=AC2 hd hn;exact w_e (h4 k) (hk x d' h1 h2 h3)
theorem Lg{l:List Int}{d:Dice}{k:Int->Dice->Option β}(hd:Co d)(hl:0<l.length/\l.length<=1000000)(hk:∀x d',x∈l->Co d'->G (k x d')):G (IX l d k):=by unfold IX;rw[Ad];refine CZ hd ⟨by omega,by omega⟩ λx d' h1 h2 h3=>?_;refine w_i ⟨h1,h2⟩ ?_;exact hk _ _ (C5 (by omega)) h3
theorem R0{n:Int}{d:Dice}{k:Bool->Dice->Option β}(hd:Co d)(hn:1<=n/\n<=1000)(hk:∀b d',Co d'->G (k b d')):G (LV n d k):=by unfold LV;rw[Ad];exact CZ hd ⟨by omega,by omega⟩ λx d' h1 h2 h3=>hk _ _ h3
theorem VU{f t m w d s o:Int}(hf:1970<=f/\f<=2240)(ht:f<=t/\t<=2240)(hm:1<=m/\m<=12)(hw:1<=w/\w<=5)(hd:0<=d/\d<=6)(hs:0<=s/\s<=86399)(ho:-64800<=o/\o<=64800):RuleOk (f,t,m,w,d,s,o):=⟨hf,ht,hm,hw,hd,hs,ho⟩
theorem gA(q:Int):Int.tmod (900*q) 60=0:=Ac3 ⟨15*q,by omega⟩
theorem z6{o:Int}(h:∃q,o=300*q):Int.tmod o 60=0:=by obtain⟨q,rfl⟩:=h;exact Ac3 ⟨5*q,by omega⟩
theorem AC7:Cn 2025 1=20089:=by decide
theorem Alj:Cn 2026 1=20454:=by decide
theorem AC8:Cn 2025 2=20120:=by decide
theorem AC9:Cn 2026 2=20485:=by decide
theorem z7:Cn 2025 3=20148:=by decide
theorem gB:Cn 2026 3=20513:=by decide
theorem z8:Cn 2025 10=20362:=by decide
theorem Alk:Cn 2026 10=20727:=by decide
abbrev All(name:List UInt8)(z:AK):Prop:=z.1=name/\ZoneOk z/\FZ z=0/\Nv z
theorem ACa{x:Int}{d:Dice}{t:AK}{name:List UInt8}{q:Int}{k:AeF β}(hd:Co d)(hq:-47<=q/\q<=50)(hx:-64800<=x/\x<=64800)(h5:∃p,x=300*p)(hc:-86400<x-900*q/\x-900*q<86400)(hk:∀d' l,Co d'->All name (name,900*q,l)->G (k d' t name (900*q) l)):G (OC k x d t (name,900*q,[])):=by
 unfold OC;rw[Ad];unfold oE;refine CZ hd ⟨by omega,by omega⟩ λw d1 h1 h2 Cq=>?_;refine CZ Cq ⟨by omega,by omega⟩ λs d2 h3 h4 Ct=>?_;simp(disch:=omega) only[i64_in];refine hk _ _ Ct ⟨rfl,AC6 (by omega) (gA q) (VU (by omega) (by omega) (by omega) (by omega) (by omega) (by omega) hx) rfl (z6 h5) hc ?_⟩;have hb:=Lf (y:=2026) (wd:=w) (m:=1) (w:=2) (by omega) (by omega);rw[Alj]at hb;show 100000<=nthD 2026 1 2 w*86400+1800*s/\nthD 2026 1 2 w*86400+1800*s<=_;omega
theorem ACb{name:List UInt8}{d:Dice}{k:AK->Dice->Option β}(hd:Co d)(hk:∀z d',Co d'->All name z->G (k z d')):G (Zd name d k):=by
 unfold Zd;rw[Ad];refine Lg hd (by decide) λp d1 hp Cq=>?_;refine CZ Cq ⟨by omega,by omega⟩ λx d2 Cg HM Ct=>?_;refine CZ Ct ⟨by omega,by omega⟩ λy d3 Ez Ih EI=>?_;refine CZ EI ⟨by omega,by omega⟩ λl d4 GG AaG Hu=>?_;refine CZ Hu ⟨by omega,by omega⟩ λc d5 Wz Dp Hv=>?_;have Di:-47<=p/\p<=48:=by simp at hp;omega
 have Ao0:0<=x*y/\x*y<=2:=by
  rcases(show x=0\/x=1 by omega)with rfl|rfl
  ·simp
  ·simp;omega
 simp(disch:=omega) only[i64_in];generalize AnN:p+x*y=q;have hq:-47<=q/\q<=50:=by omega
 refine w_d (λh=>?_) (λ_=>?_)
 ·refine hk _ _ Hv ⟨rfl,Ali (dl:=3600) (last:=2025+l) (by omega) (gA q) (VU (by omega) (by omega) (by omega) (by omega) (by omega) (by omega) (by omega)) (VU (by omega) (by omega) (by omega) (by omega) (by omega) (by omega) (by omega))
   (z6 ⟨3*q+12,by show 900*q+3600=_;omega⟩) rfl rfl rfl rfl (by omega) rfl rfl (by omega) ?_ ?_ ?_ ?_⟩
  ·intro y hy
   have hb:=Lf (y:=y) (wd:=6) (m:=3) (w:=5) (by omega) (by omega);show 100000<=nthD y 3 5 6*86400+7200;rcases hy with rfl|rfl
   ·rw[z7]at hb;omega
   ·rw[gB]at hb;omega
  ·intro y hy
   have hb:=Lf (y:=y) (wd:=6) (m:=3) (w:=5) (by omega) (by omega);have Aj:=Lf (y:=y) (wd:=6) (m:=10) (w:=5) (by omega) (by omega);show nthD y 3 5 6*86400+7200+619200<=nthD y 10 5 6*86400+10800;rcases hy with rfl|rfl
   ·rw[z7]at hb;rw[z8]at Aj;omega
   ·rw[gB]at hb;rw[Alk]at Aj;omega
  ·have hb:=Lf (y:=2026) (wd:=6) (m:=3) (w:=5) (by omega) (by omega)
   have Aj:=Lf (y:=2025) (wd:=6) (m:=10) (w:=5) (by omega) (by omega);show nthD 2025 10 5 6*86400+10800+619200<=nthD 2026 3 5 6*86400+7200;rw[gB]at hb;rw[z8]at Aj;omega
  ·intro y hy
   have Aj:=Lf (y:=y) (wd:=6) (m:=10) (w:=5) (by omega) (by omega);show nthD y 10 5 6*86400+10800<=8000000000;rcases hy with rfl|rfl
   ·rw[z8]at Aj;omega
   ·rw[Alk]at Aj;omega
 refine w_d (λh=>?_) (λ_=>?_)
 ·refine CZ Hv ⟨by omega,by omega⟩ λw1 d6 g1 g2 Mt=>?_
  refine CZ Mt ⟨by omega,by omega⟩ λwd1 d7 g3 g4 AGc=>?_;refine CZ AGc ⟨by omega,by omega⟩ λs1 d8 g5 g6 AGd=>?_;refine CZ AGd ⟨by omega,by omega⟩ λo1 d9 g7 g8 AGe=>?_;refine CZ AGe ⟨by omega,by omega⟩ λmm d10 g9 g10 AG8=>?_;refine Lg AG8 (by decide) λw2 d11 Xg AG9=>?_;refine CZ AG9 ⟨by omega,by omega⟩ λwd2 d12 g11 g12 AGa=>?_;refine CZ AGa ⟨by omega,by omega⟩ λs2 d13 g13 g14 AGb=>?_;have AnX:w2=2\/w2=3\/w2=5:=by simpa using Xg
  simp(disch:=omega) only[i64_in];have hA:=λy=>Lf (y:=y) (wd:=wd1) (m:=1) (w:=1+w1) (by omega) (by omega);have hB:=λy=>Lf (y:=y) (wd:=wd2) (m:=2+mm) (w:=w2) (by omega) (by omega);have JR:mm=0\/mm=1:=by omega
  have e25:20120<=Cn 2025 (2+mm)/\Cn 2025 (2+mm)<=20148:=by
   rcases JR with rfl|rfl
   ·rw[show(2:Int)+0=2 from rfl,AC8];omega
   ·rw[show(2:Int)+1=3 from rfl,z7];omega
  have e26:20485<=Cn 2026 (2+mm)/\Cn 2026 (2+mm)<=20513:=by
   rcases JR with rfl|rfl
   ·rw[show(2:Int)+0=2 from rfl,AC9];omega
   ·rw[show(2:Int)+1=3 from rfl,gB];omega
  have A25:=hA 2025;have A26:=hA 2026;have B25:=hB 2025;have B26:=hB 2026;rw[AC7]at A25;rw[Alj]at A26;have B25':20127<=nthD 2025 (2+mm) w2 wd2:=by rcases AnX with h|h|h<;>omega
  have B26':20492<=nthD 2026 (2+mm) w2 wd2:=by rcases AnX with h|h|h<;>omega
  refine hk _ _ AGb ⟨rfl,Ali (dl:=1800*(1+o1)) (last:=2025+l) (by omega) (gA q) (VU (by omega) (by omega) (by omega) (by omega) (by omega) (by omega) (by omega)) (VU (by omega) (by omega) (by omega) (by omega) (by omega) (by omega) (by omega))
   (z6 ⟨3*q+6*(1+o1),by show 900*q+1800*(1+o1)=_;omega⟩) rfl rfl rfl rfl (by omega) rfl rfl (by omega) ?_ ?_ ?_ ?_⟩
  ·intro y hy
   show 100000<=nthD y 1 (1+w1) wd1*86400+3600*s1;rcases hy with rfl|rfl<;>omega
  ·intro y hy
   show nthD y 1 (1+w1) wd1*86400+3600*s1+619200<=nthD y (2+mm) w2 wd2*86400+3600*s2;rcases hy with rfl|rfl<;>omega
  ·show nthD 2025 (2+mm) w2 wd2*86400+3600*s2+619200<=nthD 2026 1 (1+w1) wd1*86400+3600*s1
   omega
  ·intro y hy
   show nthD y (2+mm) w2 wd2*86400+3600*s2<=8000000000;rcases hy with rfl|rfl<;>omega
 refine w_d (λh=>?_) (λ_=>?_)
 ·refine Lg Hv (by decide) λp2 d6 CD Mt=>?_
  have AH4:p2=3600\/p2=-3600\/p2=82800\/p2=-82800\/p2=43200:=by simpa using CD
  simp(disch:=omega) only[i64_in]
  have key:∀x,(-64800<=x/\x<=64800)->(∃p,x=300*p)->(-86400<x-900*q/\x-900*q<86400)->G (OC (λAZ t4 z z2 AG=>k (z,(z2,AG)) AZ) x d6 KT (name,900*q,[])):=λx h1 h2 h3=>
   ACa Mt hq h1 h2 h3 λd' l Cv hz=>hk _ _ Cv hz
  refine w_d (λh=>key 0 (by omega) ⟨0,rfl⟩ (by omega)) (λh=>?_);refine w_d (λh=>key 0 (by omega) ⟨0,rfl⟩ (by omega)) (λh=>?_);refine key _ (by omega) ?_ (by omega);rcases AH4 with rfl|rfl|rfl|rfl|rfl
  ·exact⟨3*q+12,by omega⟩
  ·exact⟨3*q-12,by omega⟩
  ·exact⟨3*q+276,by omega⟩
  ·exact⟨3*q-276,by omega⟩
  ·exact⟨3*q+144,by omega⟩
 ·exact hk _ _ Hv ⟨rfl,AC5 (by omega) (gA q)⟩
end
end
end Go.Lift
namespace Go.Lift
open Go.RowKit Go.IntWalk
noncomputable section
variable[Sl]
set_option maxRecDepth 10000
theorem Alm{α:Type}{g:Nat->α->Unit->Int⊕Unit}{xs:List α}(d:α)(h:∀i,i<xs.length->g i (xs.getD i d) ()=.inr ()):walk g xs 0 ()=.inr ():=by
 have key:∀(r:List α)(j:Nat),xs.drop j=r->walk g r j ()=.inr ():=by
  intro r
  induction r with
  |nil=>intro j _;rfl
  |cons x r ih=>
   intro j hj
   have h3:j<xs.length:=by
    rcases Ql j xs.length with h3|h3
    ·exact h3
    ·rw[XM h3]at hj;cases hj
   rw[JY h3]at hj;injection hj with Cq Ct;have hx:=h j h3;rw[show xs.getD j d=x by simp[List.getD,h3,Cq]]at hx;rw[walk,hx];exact ih (j+1) Ct
 exact key xs 0 rfl
def Aln(l:List (Int×Int))(at_:Int):Prop:=l.Pairwise (λx y=>x.2<=y.1)/\∀x∈l,(0<=x.1/\x.1<x.2)/\x.2<=at_/\x.2<=604800
theorem gC{l:List (Int×Int)}{t:Int}(h:Aln l t)(hl:l.length<=14):Es l=0:=by
 unfold Es;rw[AN (by omega),Alm (0,0) λi hi=>?_]
 ·rfl
 obtain⟨h1,h2,h3⟩:=h.2 _ (C5 (d:=((0,0):Int×Int)) hi);unfold Me;rw[AN (show ¬(l.getD i (0,0)).1<0 by omega),AN (show ¬(l.getD i (0,0)).2<=(l.getD i (0,0)).1 by omega),AN (show ¬604800<(l.getD i (0,0)).2 by omega)];by_cases h0:(0:Int)<i
 ·have:=XK.1 h.1 (i-1) i (by omega) hi (by omega)
  have e1:(l.getD i (0,0))=l[i]:=by simp[List.getD,hi]
  have e2:(l.getD (i-1) (0,0))=l[i-1]:=by simp[List.getD,show i-1<l.length by omega]
  rw[At h0,e1,e2,AN (show ¬l[i].1<l[i-1].2 by omega)];rfl
 ·rw[AN h0];rfl
section
variable{β:Type}{G:Option β->Prop}
theorem ACc{k:Dice->List (Int×Int)->Option β}(hk:∀d' l,Co d'->Es l=0->G (k d' l)):∀(j m:Nat)(t:Int)(d:Dice)(out:List (Int×Int)),j<m->Co d->Aln out t->(0<=t/\t<=604800)->out.length+j<=14->G (T7 m (λb o=>k b o) t (j:Int) d out):=by
 intro j
 induction j with
 |zero=>intro m t d out hm hd hw ht hl;obtain⟨m,rfl⟩:∃m',m=m'+1:=⟨m-1,by omega⟩;simp only[AeK,Ze];exact w_n (by simp) (hk _ _ hd (gC hw (by omega)))
 |succ j ih=>
  intro m t d out hm hd hw ht hl;obtain⟨m,rfl⟩:∃m',m=m'+1:=⟨m-1,by omega⟩;simp only[AeK,Ze];refine w_p (by omega) ?_;refine CZ hd ⟨by omega,by omega⟩ λx d1 h1 h2 Cq=>?_;refine CZ Cq ⟨by omega,by omega⟩ λy d2 h3 h4 Ct=>?_;refine Lg Ct (by decide) λz d3 hz EI=>?_;have GZ:1<=z/\z<=86400:=by simp at hz;omega
  simp(disch:=omega) only[i64_in];refine w_d (λ_=>hk _ _ EI (gC hw (by omega))) (λh=>?_);have hr:(out.length+1)*16<=140737488355328:=by omega
  refine w_r hr ?_;rw[show((j+1:Nat):Int)-1=(j:Int) by omega];refine ih m _ d3 _ (by omega) EI ⟨?_,?_⟩ (by omega) (by simp;omega)
  ·rw[H6]
   refine⟨hw.1,Qg _ _,λa ha b hb=>?_⟩;rw[EO.1 hb];have:=(hw.2 a ha).2.1;show a.2<=t+3600*x+60*y;omega
  ·intro a ha
   rcases Cs.1 ha with ha|ha
   ·have:=hw.2 a ha
    omega
   ·rw[EO.1 ha]
    simp only;omega
theorem Alo{d:Dice}{k:Dice->List (Int×Int)->Option β}(hd:Co d)(hk:∀d' l,Co d'->Es l=0->G (k d' l)):G (T8 d k):=by unfold T8;rw[Ad];refine CZ hd ⟨by omega,by omega⟩ λx d1 h1 h2 Cq=>?_;unfold oG;rw[Ad];obtain⟨j,rfl⟩:∃j:Nat,x=j:=⟨x.toNat,by omega⟩;exact ACc hk j fuel 0 d1 [] (BB (by omega)) Cq ⟨List.Pairwise.nil,λx hx=>absurd hx DQ⟩ (by omega) (by simp;omega)
theorem ACd{d:Dice}{k:Int->Dice->Option β}(hd:Co d)(hk:∀x d',1767100000<=x->x<=1770000000->Co d'->G (k x d')):G (ZE d k):=by
 unfold ZE;rw[Ad];refine CZ hd ⟨by omega,by omega⟩ λx d1 h1 h2 Cq=>?_;refine R0 Cq ⟨by omega,by omega⟩ λb d2 Ct=>?_;simp(disch:=omega) only[i64_in];refine w_c (λ_=>?_) (λ_=>hk _ _ (by omega) (by omega) Ct);refine Lg Ct (by decide) λp d3 hp EI=>?_;have Di:-1<=p/\p<=3599:=by simp at hp;omega
 simp(disch:=omega) only[i64_in];exact hk _ _ (by omega) (by omega) EI
theorem Nx{i n:Int}(h:0<=i/\i<n):ixI i n=true:=by unfold ixI;rw[At h.1,At h.2];rfl
theorem zA{n:Int}(h:0<=n/\n<98981):dayI n=true:=by unfold dayI;rw[At h.1,At h.2];rfl
theorem zB{f t:Int}(hf:1767100000<=f/\f<=1770000000)(ht:1<=t/\t<=300000)(a b c:Int):e1V (decide (f<0)||(decide (f+t<0)||!dayI (IntKind.i64.wrap (Int.tdiv (f+t) 86400)))) (a,b,c,f,f+t)=0:=by
 have h1:0<=Int.tdiv (f+t) 86400/\Int.tdiv (f+t) 86400<98981:=by rw[GJ (by omega)];omega
 rw[i64_in _ (by omega),zA h1,AN (by omega),AN (by omega)];unfold e1V;rw[AN (show ¬(f+t<=f) by omega)];rfl
def EdOk(np:Int)(x:Ed):Prop:=HD np x=0/\x.2.2.2.2<=2000000000
theorem zC{np a f t:Int}(ha:0<=a/\a<np)(hf:1767100000<=f/\f<=1770000000)(ht:1<=t/\t<=300000){K:Int}(hK:K=0\/K=1):EdOk np (K,a,0,f,f+t):=by refine⟨?_,by show f+t<=2000000000;omega⟩;unfold HD e4V e3V e2V;simp only;rw[zB hf ht,Nx ha];rcases hK with rfl|rfl<;>rfl
theorem ACe{np f t:Int}(hf:1767100000<=f/\f<=1770000000)(ht:1<=t/\t<=300000):EdOk np (1,-1,0,f,f+t):=by refine⟨?_,by show f+t<=2000000000;omega⟩;unfold HD e4V e3V e2V;simp only;rw[zB hf ht];cases ixI (-1) np<;>rfl
theorem ACf{np a b f t:Int}(ha:0<=a/\a<np)(hb:0<=b/\b<np)(Wv:a≠b)(hf:1767100000<=f/\f<=1770000000)(ht:1<=t/\t<=300000):EdOk np (2,a,b,f,f+t):=by refine⟨?_,by show f+t<=2000000000;omega⟩;unfold HD e4V e3V e2V;simp only;rw[zB hf ht,Nx ha,Nx hb,AN Wv];rfl
theorem ACg{np a f t:Int}{d:Dice}{t4:Ed}{K:Int}{k:AhC β}(hd:Co d)(ha:0<=a/\a<np)(hf:1767100000<=f/\f<=1770000000)(ht:1<=t/\t<=300000)(hK:K=0\/K=1)(hk:∀d' x,Co d'->EdOk np x->G (k d' x)):G (Ra k d t4 (K,a,0,f,f+t)):=by
 unfold Ra;rw[Ad];unfold aD;refine w_d (λh=>?_) (λ_=>hk _ _ hd (zC ha hf ht hK));obtain rfl:K=1:=h;refine R0 hd ⟨by omega,by omega⟩ λb d1 Cq=>?_;exact w_c (λ_=>hk _ _ Cq (ACe hf ht)) (λ_=>hk _ _ Cq (zC ha hf ht hK))
theorem Alp{zs:List AK}{ps:List Bb}{cs:List Bh}{d:Dice}{k:Ed->Dice->Option β}(hd:Co d)(hp:1<=ps.length/\ps.length<=8)(hk:∀x d',Co d'->EdOk (ps.length:Int) x->G (k x d')):G (U6 zs ps cs d k):=by
 unfold U6;rw[Ad];refine CZ hd ⟨by omega,by omega⟩ λK d1 hK0 hK1 Cq=>?_;refine CZ Cq ⟨by omega,by omega⟩ λa d2 Aal Mo Ct=>?_;refine ACd Ct λf d3 Aav If EI=>?_;refine Lg EI (by decide) λt d4 ht Hu=>?_;have NK:1<=t/\t<=300000:=by simp at ht;omega
 simp(disch:=omega) only[i64_in];refine w_d (λh=>?_) (λh=>?_)
 ·refine w_d (λ_=>hk _ _ Hu (zC ⟨Aal,Mo⟩ ⟨Aav,If⟩ NK (.inl rfl))) (λg=>?_)
  refine CZ Hu ⟨by omega,by omega⟩ λb d5 EH BH Hv=>?_;refine w_e (Fe (by omega)) ?_;simp(disch:=omega) only[i64_in];have Aj:0<=Int.tmod (a+1+b) (ps.length:Int)/\Int.tmod (a+1+b) (ps.length:Int)<(ps.length:Int):=⟨Int.tmod_nonneg _ (by omega),k8 _ (by omega)⟩
  have AW:a≠Int.tmod (a+1+b) (ps.length:Int):=by
   rw[FD (by omega)];by_cases c:a+1+b<(ps.length:Int)
   ·rw[k9 (by omega) c];omega
   ·have:(a+1+b)%(ps.length:Int)=a+1+b-(ps.length:Int):=by rw[show a+1+b=(a+1+b-(ps.length:Int))+(ps.length:Int) by omega,Int.add_emod_right,k9 (by omega) (by omega)];omega
    omega
  obtain rfl:K=2:=h;unfold Ra;rw[Ad];unfold aD;exact w_n (by show ¬(2:Int)=1;decide) (hk _ _ Hv (ACf ⟨Aal,Mo⟩ Aj AW ⟨Aav,If⟩ NK))
 ·exact ACg Hu ⟨Aal,Mo⟩ ⟨Aav,If⟩ NK (by omega) λd' x Cv hx=>hk _ _ Cv hx
end
end
end Go.Lift
namespace Go.Lift
open Go.RowKit Go.IntWalk
noncomputable section
variable[Sl]
set_option maxRecDepth 10000
section
variable{β:Type}
theorem c_b{b:Bool}{x y:Option β}(h:b=true):cond b x y=x:=by rw[h];rfl
theorem ACh{α γ:Type}(f:α->γ)(xs:List α)(s:List γ):xs.foldl (λl i=>l++[f i]) s=s++xs.map f:=by
 induction xs generalizing s with
 |nil=>simp
 |cons x xs ih=>simp[ih,Ci]
def nm(i:Int):List UInt8:=[110]++H8 [IntKind.u8.wrap (IntKind.i64.wrap (97+IntKind.i64.wrap (Int.tdiv i 20))),IntKind.u8.wrap (IntKind.i64.wrap (97+Int.tmod i 20))]
def JF:List (List UInt8)->List (List UInt8)->Bool
 |[],_=>true
 |s::r,l=>Cy s&&(!decide (s∈l)&&JF r (l++[s]))
theorem Alq{s:List UInt8}{l:List (List UInt8)}(h1:Cy s=true)(h2:s∉l):EE s l=0:=by unfold EE;rw[h1,AN h2];rfl
theorem Alr{α:Type}(of:α->List UInt8)(chk:α->Int):∀(xs:List α)(j:Nat)(l:List (List UInt8)),JF (xs.map of) l=true->(∀x∈xs,chk x=0)->walk (F7 of chk) xs j l=.inr (l++xs.map of)
 |[],j,l,_,_=>by simp[walk]
 |x::xs,j,l,h,hc=>by
  simp only[CM,JF,CE]at h;obtain⟨h1,h2,h3⟩:=h;have h2:of x∉l:=by simpa using h2
  have hg:F7 of chk j x l=.inr (l++[of x]):=by unfold F7;rw[At (Alq h1 h2),At (hc x (CW ..))];rfl
  unfold walk;rw[hg];show walk (F7 of chk) xs (j+1) (l++[of x])=_;rw[Alr of chk xs (j+1) _ h3 λy hy=>hc y (BY _ hy)];simp
theorem Als{α σ ε:Type}(g:Nat->α->σ->ε⊕σ):∀(a b:List α)(j:Nat)(s s':σ),walk g a j s=.inr s'->walk g (a++b) j s=walk g b (j+a.length) s'
 |[],b,j,s,s',h=>by injection h with h;subst h;simp
 |x::a,b,j,s,s',h=>by
  unfold walk at h;show walk g (x::(a++b)) j s=_;rw[walk];cases hg:g j x s with
  |inl e=>rw[hg]at h;cases h
  |inr t=>rw[hg]at h;show walk g (a++b) (j+1) t=_;rw[Als g a b (j+1) t s' h];simp only[AX];congr 1;omega
theorem gD{α:Type}{of:α->List UInt8}{chk:α->Int}{xs:List α}(h:JF (xs.map of) []=true)(hc:∀x∈xs,chk x=0):FX of chk xs=0:=by unfold FX;rw[Alr of chk xs 0 [] h hc];rfl
theorem zD(np:Int):∀(xs:List Ed)(j:Nat),(∀x∈xs,HD np x=0)->walk (Mf np) xs j ()=.inr ()
 |[],_,_=>rfl
 |x::xs,j,h=>by unfold walk Mf;rw[At (h x (CW ..))];exact zD np xs (j+1) λy hy=>h y (BY _ hy)
end
end
end Go.Lift
namespace Go.Lift
open Go.RowKit Go.IntWalk
noncomputable section
variable[Sl]
set_option maxRecDepth 10000
section
variable{β:Type}{G:Option β->Prop}
theorem Alt{nz np nc zone day sec unit every cal mode:Int}{n:List UInt8}{ms:List Int}{ws:List (Int×Int)}(hz:0<=zone/\zone<nz)(hd:1<=day/\day<98981)(hs:0<=sec/\sec<=86399)(hu:0<=unit/\unit<=2)(he:1<=every/\every<=400)(hm:1<=ms.length/\ms.length<=12)(JR:∀m∈ms,0<=m/\m<np)(hw:Es ws=0)(hc:(mode=0/\cal=0)\/((1<=mode/\mode<=2)/\0<=cal/\cal<nc)):Et nz np nc (n,zone,(day,sec),unit,every,ms,ws,cal,mode)=0:=by
 unfold Et l2V;simp only
 rw[Nx hz,AN (show ¬day<1 by omega),zA (by omega),D9 hs,D9 hu,D9 he,AN (show ¬(ms.length:Int)=0 by omega),AN (show ¬(12:Int)<(ms.length:Int) by omega),
  Eh.2 λm h=>Nx (JR m h),At hw,D9 (show 0<=mode/\mode<=2 by omega)]
 unfold l1V;simp only;rcases hc with⟨h1,h2⟩|⟨h1,h2⟩
 ·rw[At h1,At h2];rfl
 ·rw[AN (show ¬mode=0 by omega),Nx h2];rfl
theorem ACi{zs:List AK}{ps:List Bb}{cs:List Bh}{t6 l1:List UInt8}{DH Gj FC Gx Gk Gl Gm l2 l3 l4 l5 l6 l7 l8:Int}{b4:List Int}{b5 b7:List (Int×Int)}{k:qN β}(hp:1<=ps.length/\ps.length<=8)(hk:∀d' ms,Co d'->(1<=ms.length/\ms.length<=12)->(∀m∈ms,0<=m/\m<(ps.length:Int))->G (k d' zs ps cs t6 DH Gj FC Gx Gk Gl Gm l1 l2 l3 l4 l5 l6 l7 l8 b4 b5 ms b7)):∀(j m:Nat)(d:Dice)(ms:List Int),j<m->Co d->(1<=ms.length+j/\ms.length+j<=12)->(∀x∈ms,0<=x/\x<(ps.length:Int))->G (Ui m k (j:Int) d zs ps cs t6 DH Gj FC Gx Gk Gl Gm l1 l2 l3 l4 l5 l6 l7 l8 b4 b5 ms b7):=by
 intro j
 induction j with
 |zero=>intro m d ms hm hd hl hx;obtain⟨m,rfl⟩:∃m',m=m'+1:=⟨m-1,by omega⟩;simp only[Agr,Z7];exact w_n (by simp) (hk _ _ hd (by omega) hx)
 |succ j ih=>
  intro m d ms hm hd hl hx;obtain⟨m,rfl⟩:∃m',m=m'+1:=⟨m-1,by omega⟩;simp only[Agr,Z7];refine w_p (by omega) ?_;refine CZ hd ⟨by omega,by omega⟩ λx d1 h1 h2 Cq=>?_;have hr:(ms.length+1)*8<=140737488355328:=by omega
  refine w_r hr ?_;simp(disch:=omega) only[i64_in];rw[show((j+1:Nat):Int)-1=(j:Int) by omega];refine ih m d1 _ (by omega) Cq (by simp;omega) λy hy=>?_;rcases Cs.1 hy with hy|hy
  ·exact hx y hy
  ·rw[EO.1 hy];exact⟨h1,h2⟩
theorem Alu{zs:List AK}{ps:List Bb}{cs:List Bh}{d:Dice}{t6 l1:List UInt8}{DH Gj FC Gx Gk Gl Gm l2 l3 l4 l5 l6:Int}{b4 b6:List Int}{b5 b7:List (Int×Int)}{k:Agm β}(hd:Co d)(hc:cs.length<=8)(hk:∀d' c m,Co d'->((m=0/\c=0)\/((1<=m/\m<=2)/\0<=c/\c<(cs.length:Int)))->G (k d' l1 l2 l3 l4 l5 l6 c m b6 b7)):G (Uh k d zs ps cs t6 DH Gj FC Gx Gk Gl Gm l1 l2 l3 l4 l5 l6 0 0 b4 b5 b6 b7):=by
 unfold Uh;rw[Ad];unfold qQ;refine R0 hd ⟨by omega,by omega⟩ λb d1 Cq=>?_;unfold Z6;rw[Ad];unfold qP;refine w_c (λ_=>?_) (λ_=>hk _ _ _ Cq (.inl ⟨rfl,rfl⟩));refine w_d (λh=>?_) (λ_=>hk _ _ _ Cq (.inl ⟨rfl,rfl⟩));refine CZ Cq ⟨by omega,by omega⟩ λx d2 h1 h2 Ct=>?_;refine CZ Ct ⟨by omega,by omega⟩ λy d3 h3 h4 EI=>?_;simp(disch:=omega) only[i64_in];exact hk _ _ _ EI (.inr ⟨by omega,h1,h2⟩)
theorem Alv{zs:List AK}{ps:List Bb}{cs:List Bh}{d:Dice}{t6 l1:List UInt8}{DH Gj FC Gx Gk Gl Gm l2 l3 l4 l5 l6:Int}{b4:List Int}{b5:List (Int×Int)}{k:Agp β}(hd:Co d)(hp:1<=ps.length/\ps.length<=8)(hc:cs.length<=8)(hk:∀d' c m ms ws,Co d'->((m=0/\c=0)\/((1<=m/\m<=2)/\0<=c/\c<(cs.length:Int)))->(1<=ms.length/\ms.length<=12)->(∀x∈ms,0<=x/\x<(ps.length:Int))->Es ws=0->G (k d' l1 l2 l3 l4 l5 l6 c m ms ws)):G (Uj k d zs ps cs t6 DH Gj FC Gx Gk Gl Gm l1 l2 l3 l4 l5 l6 0 0 b4 b5 [] []):=by
 unfold Uj;rw[Ad];unfold qS;refine CZ hd ⟨by omega,by omega⟩ λx d1 h1 h2 Cq=>?_;simp(disch:=omega) only[i64_in];unfold qR;rw[Ad];obtain⟨j,hj⟩:∃j:Nat,1+x=j:=⟨(1+x).toNat,by omega⟩;rw[hj];refine ACi hp (λd2 ms Ct hm JR=>?_) j fuel d1 [] (BB (by omega)) Cq (by simp;omega) (λy hy=>absurd hy DQ);refine R0 Ct ⟨by omega,by omega⟩ λb d3 EI=>?_;refine w_c (λ_=>?_) (λ_=>?_)
 ·refine Alo EI λd4 ws Hu hw=>?_
  exact Alu Hu hc λd5 c m Hv Fs=>hk _ _ _ _ _ Hv Fs hm JR hw
 ·refine Alu EI hc λd5 c m Hv Fs=>hk _ _ _ _ _ Hv Fs hm JR ?_
  exact gC (t:=0) ⟨List.Pairwise.nil,λx hx=>absurd hx DQ⟩ (by simp)
theorem ACj{zs:List AK}{ps:List Bb}{cs:List Bh}{n:List UInt8}{d:Dice}{k:AU->Dice->Option β}(hd:Co d)(hz:1<=zs.length/\zs.length<=8)(hp:1<=ps.length/\ps.length<=8)(hc:cs.length<=8)(hk:∀l d',Co d'->l.1=n->Et (zs.length:Int) (ps.length:Int) (cs.length:Int) l=0->G (k l d')):G (Z8 zs ps cs n d k):=by
 unfold Z8;rw[Ad];refine CZ hd ⟨by omega,by omega⟩ λz d1 IG IH Cq=>?_;refine CZ Cq ⟨by omega,by omega⟩ λy d2 Ez Ih Ct=>?_;refine Lg Ct (by decide) λs d3 hs EI=>?_;have Cc:0<=s/\s<=86399:=by simp at hs;omega
 refine CZ EI ⟨by omega,by omega⟩ λu d4 AK1 RT Hu=>?_;refine CZ Hu ⟨by omega,by omega⟩ λe d5 AJS Ane Hv=>?_;simp(disch:=omega) only[i64_in];refine w_d (λ_=>?_) (λ_=>?_)
 ·refine Lg Hv (by decide) λe2 d6 Jh Mt=>?_
  have AGi:1<=e2/\e2<=400:=by simp at Jh;omega
  refine Alv Mt hp hc λd' c m ms ws Cv h1 h2 h3 h4=>hk _ _ Cv rfl ?_;exact Alt ⟨IG,IH⟩ (by omega) Cc (by omega) AGi h2 h3 h4 h1
 ·refine Alv Hv hp hc λd' c m ms ws Cv h1 h2 h3 h4=>hk _ _ Cv rfl ?_
  exact Alt ⟨IG,IH⟩ (by omega) Cc (by omega) (by omega) h2 h3 h4 h1
def zNames:List (List UInt8):=[[104,101,114,101],[116,104,101,114,101]]
def pNames:List (List UInt8):=[[97,100,97],[98,111,98],[99,108,101,111],[100,97,110],[101,118,101],[102,97,121],[103,117,115],[104,97,108]]
def cNames:List (List UInt8):=[[100,97,121,115]]
def sNames:List (List UInt8):=[[102,105,114,115,116],[115,101,99,111,110,100],[116,104,105,114,100]]
def Named{α:Type}(of:α->List UInt8)(L:List (List UInt8))(xs:List α):Prop:=xs.length<=L.length/\xs.map of=L.take xs.length
theorem Named.nil{α:Type}{of:α->List UInt8}{L:List (List UInt8)}:Named of L []:=⟨Ej _,by simp⟩
theorem Named.snoc{α:Type}{of:α->List UInt8}{L:List (List UInt8)}{xs:List α}{x:α}(h:Named of L xs)(hl:xs.length<L.length)(hx:of x=L.getD xs.length []):Named of L (xs++[x]):=by refine⟨by simp;omega,?_⟩;rw[KC,h.2,AR,Gp,Nu [] hl,List.map_singleton,hx]
theorem Named.ok{α:Type}{of:α->List UInt8}{L:List (List UInt8)}{xs:List α}(h:Named of L xs)(hL:((List.range (L.length+1)).all λn=>JF (L.take n) [])=true):JF (xs.map of) []=true:=by rw[h.2];exact Eh.1 hL xs.length (S2.2 (by have:=h.1;omega))
theorem Mh{α:Type}{P:α->Prop}{xs:List α}{x:α}(h:∀y∈xs,P y)(hx:P x):∀y∈xs++[x],P y:=by
 intro y hy;rcases Cs.1 hy with hy|hy
 ·exact h y hy
 ·rw[EO.1 hy];exact hx
def gE(zs:List AK):Prop:=Named (·.1) zNames zs/\∀z∈zs,ZoneOk z/\FZ z=0/\Nv z
def gF(nz:Int)(ps:List Bb):Prop:=Named (·.1) pNames ps/\∀p∈ps,HC nz p=0
def gG(nz:Int)(cs:List Bh):Prop:=Named (·.1) cNames cs/\∀x∈cs,calV nz x=0/\x.2.2.length<=20
theorem ACk{b3 b7:List AK}{b4 b8:List Bb}{b5 b9:List Bh}{b6 b10:List By}{k:pY β}(hk:∀d' zs,Co d'->gE zs->1<=zs.length->G (k d' b3 b4 b5 b6 zs b8 b9 b10)):∀(j m:Nat)(d:Dice)(zs:List AK),j<m->Co d->gE zs->(1<=zs.length+j/\zs.length+j<=2)->G (Uc m k (j:Int) d b3 b4 b5 b6 zs b8 b9 b10):=by
 intro j
 induction j with
 |zero=>intro m d zs hm hd hz hl;obtain⟨m,rfl⟩:∃m',m=m'+1:=⟨m-1,by omega⟩;simp only[Agh,Z1];exact w_n (by simp) (hk _ _ hd hz (by omega))
 |succ j ih=>
  intro m d zs hm hd hz hl;obtain⟨m,rfl⟩:∃m',m=m'+1:=⟨m-1,by omega⟩;simp only[Agh,Z1];refine w_p (by omega) ?_;refine w_i (by show 0<=(zs.length:Int)/\(zs.length:Int)<2;omega) ?_;refine ACb hd λz d1 Cq IH=>?_;have hr:(zs.length+1)*48<=140737488355328:=by omega
  refine w_r hr ?_;simp(disch:=omega) only[i64_in];rw[show((j+1:Nat):Int)-1=(j:Int) by omega];refine ih m d1 _ (by omega) Cq ⟨hz.1.snoc (by show zs.length<2;omega) ?_,Mh hz.2 IH.2⟩ (by simp;omega);have:=IH.1;rw[AT]at this;exact this
theorem ACl{nz zone w r:Int}{n:List UInt8}{q:List (Int×Int)}{b:Bool}(hz:0<=zone/\zone<nz)(hq:Es q=0)(hw:w∈[(0:Int),40,100,12])(hr:r∈[(0:Int),11,24,1]):HC nz (n,zone,q,3600*w,3600*r,b)=0:=by
 unfold HC;simp only
 have h1:I0 (3600*w)=true:=by simp at hw;rcases hw with rfl|rfl|rfl|rfl<;>decide
 have h2:I0 (3600*r)=true:=by simp at hr;rcases hr with rfl|rfl|rfl|rfl<;>decide
 rw[Nx hz,At hq,h1,h2];rfl
theorem ACm{b3 b7:List AK}{b4:List Bb}{b5 b9:List Bh}{b6 b10:List By}{k:q8 β}(h7:1<=b7.length/\b7.length<=8)(hk:∀d' ps,Co d'->gF (b7.length:Int) ps->(1<=ps.length/\ps.length<=8)->G (k d' b3 b4 b5 b6 b7 ps b9 b10)):∀(j m:Nat)(d:Dice)(ps:List Bb),j<m->Co d->gF (b7.length:Int) ps->(1<=ps.length+j/\ps.length+j<=8)->G (QU m k (j:Int) d b3 b4 b5 b6 b7 ps b9 b10):=by
 intro j
 induction j with
 |zero=>intro m d ps hm hd hz hl;obtain⟨m,rfl⟩:∃m',m=m'+1:=⟨m-1,by omega⟩;simp only[Agi,Z2];exact w_n (by simp) (hk _ _ hd hz (by omega))
 |succ j ih=>
  intro m d ps hm hd hz hl;obtain⟨m,rfl⟩:∃m',m=m'+1:=⟨m-1,by omega⟩;simp only[Agi,Z2];refine w_p (by omega) ?_;unfold T6;rw[Ad];refine w_i (by show 0<=(ps.length:Int)/\(ps.length:Int)<8;omega) ?_;refine CZ hd ⟨by omega,by omega⟩ λz d1 h1 h2 Cq=>?_;refine R0 Cq ⟨by omega,by omega⟩ λbc d2 Ct=>?_;refine R0 Ct ⟨by omega,by omega⟩ λbq d3 EI=>?_
  have key:∀(d4:Dice)(q:List (Int×Int)),Co d4->Es q=0->G (Ud (λBz d2 Bk AV C0 C1 CO CS Da CR=>QU m k (IntKind.i64.wrap (Bz-1)) d2 Bk AV C0 C1 CO CS Da CR) ((j+1:Nat):Int) d4
    (List.getD pNames (Int.toNat (ps.length:Int)) []) z 0 0 bc b3 b4 b5 b6 b7 ps b9 b10 q):=by
   intro d4 q Hu hq;unfold Ud;rw[Ad];unfold qJ;refine Lg Hu (by decide) λw d5 hw Hv=>?_;refine Lg Hv (by decide) λr d6 hr Mt=>?_;have AnW:0<=w/\w<=100:=by simp at hw;omega
   have BD:0<=r/\r<=100:=by simp at hr;omega
   have hr:(ps.length+1)*72<=140737488355328:=by omega
   refine w_r hr ?_;simp(disch:=omega) only[i64_in];rw[show((j+1:Nat):Int)-1=(j:Int) by omega];refine ih m d6 _ (by omega) Mt ⟨hz.1.snoc (by show ps.length<8;omega) (by rw[AT]),Mh hz.2 ?_⟩ (by simp;omega);exact ACl ⟨h1,h2⟩ hq hw (by assumption)
  refine w_c (λ_=>?_) (λ_=>?_)
  ·exact Alo EI λd4 q Hu hq=>key d4 q Hu hq
  ·exact key d3 [] EI (gC (t:=0) ⟨List.Pairwise.nil,λx hx=>absurd hx DQ⟩ (by simp))
theorem ACn{nz zone:Int}{n:List UInt8}{ds:List Int}(hz:0<=zone/\zone<nz)(hl:ds.length<=64)(hd:ds.Pairwise (· < ·))(hb:∀x∈ds,0<=x/\x<98981):calV nz (n,zone,ds)=0:=by
 unfold calV;simp only;rw[Nx hz,AN (by omega),Eh.2 λx hx=>zA (hb x hx),Alm 0 λi hi=>?_]
 ·rfl
 unfold ascG;by_cases h0:(0:Int)<i
 ·have:=XK.1 hd (i-1) i (by omega) hi (by omega)
  have e1:ds.getD i 0=ds[i]:=by simp[List.getD,hi]
  have e2:ds.getD (i-1) 0=ds[i-1]:=by simp[List.getD,show i-1<ds.length by omega]
  rw[At h0,e1,e2,AN (show ¬ds[i]<=ds[i-1] by omega)];rfl
 ·rw[AN h0];rfl
theorem ACo{i z:Int}{n:List UInt8}{b4 b8:List AK}{b5 b9:List Bb}{b6 b10:List Bh}{b7 b11:List By}{k:qG β}(hk:∀d' ds,Co d'->ds.length<=20->ds.Pairwise (· < ·)->(∀x∈ds,0<=x/\x<98981)->G (k i d' n z b4 b5 b6 b7 b8 b9 b10 b11 ds)):∀(j m:Nat)(day:Int)(d:Dice)(ds:List Int),j<m->Co d->ds.length+j<=20->ds.Pairwise (· < ·)->(∀x∈ds,0<=x/\x<=day)->(0<=day/\day+6*(j:Int)<98981)->G (Ue m k i (j:Int) day d n z b4 b5 b6 b7 b8 b9 b10 b11 ds):=by
 intro j
 induction j with
 |zero=>intro m day d ds hm hd hl hp hb iA;obtain⟨m,rfl⟩:∃m',m=m'+1:=⟨m-1,by omega⟩;simp only[Agj,Z3];exact w_n (by simp) (hk _ _ hd (by omega) hp λx hx=>by have:=hb x hx;omega)
 |succ j ih=>
  intro m day d ds hm hd hl hp hb iA;obtain⟨m,rfl⟩:∃m',m=m'+1:=⟨m-1,by omega⟩;simp only[Agj,Z3];refine w_p (by omega) ?_;refine CZ hd ⟨by omega,by omega⟩ λx d1 h1 h2 Cq=>?_;have hr:(ds.length+1)*8<=140737488355328:=by omega
  refine w_r hr ?_;simp(disch:=omega) only[i64_in];rw[show((j+1:Nat):Int)-1=(j:Int) by omega];refine ih m _ d1 _ (by omega) Cq (by simp;omega) ?_ ?_ (by omega)
  ·rw[H6]
   refine⟨hp,Qg _ _,λa ha b AH=>?_⟩;rw[EO.1 AH];have:=hb a ha;omega
  ·intro a ha
   rcases Cs.1 ha with ha|ha
   ·have:=hb a ha;omega
   ·rw[EO.1 ha];omega
theorem ACp{b3 b7:List AK}{b4 b8:List Bb}{b5:List Bh}{b6 b10:List By}{k:qD β}(h7:1<=b7.length/\b7.length<=8)(hk:∀d' cs,Co d'->gG (b7.length:Int) cs->G (k d' b3 b4 b5 b6 b7 b8 cs b10)):∀(j m:Nat)(d:Dice)(cs:List Bh),j<m->Co d->gG (b7.length:Int) cs->cs.length+j<=1->G (Uf m k (j:Int) d b3 b4 b5 b6 b7 b8 cs b10):=by
 intro j
 induction j with
 |zero=>intro m d cs hm hd hz hl;obtain⟨m,rfl⟩:∃m',m=m'+1:=⟨m-1,by omega⟩;simp only[Agk,Z4];exact w_n (by simp) (hk _ _ hd hz)
 |succ j ih=>
  intro m d cs hm hd hz hl;obtain⟨m,rfl⟩:∃m',m=m'+1:=⟨m-1,by omega⟩;simp only[Agk,Z4];refine w_p (by omega) ?_;refine CZ hd ⟨by omega,by omega⟩ λz d1 h1 h2 Cq=>?_;refine CZ Cq ⟨by omega,by omega⟩ λt d2 h3 h4 Ct=>?_;unfold qL;rw[Ad];obtain⟨q,rfl⟩:∃q:Nat,t=q:=⟨t.toNat,by omega⟩;refine ACo (λd3 ds EI g1 g2 g3=>?_) q fuel 20454 d2 [] (BB (by omega)) Ct (by simp;omega) List.Pairwise.nil (λx hx=>absurd hx DQ) (by omega);have hr:(cs.length+1)*48<=140737488355328:=by omega
  refine w_r hr ?_;simp(disch:=omega) only[i64_in];rw[show((j+1:Nat):Int)-1=(j:Int) by omega];refine ih m d3 _ (by omega) EI ⟨hz.1.snoc (by show cs.length<1;omega) ?_,Mh hz.2 ⟨ACn ⟨h1,h2⟩ (by omega) g2 g3,g1⟩⟩ (by simp;omega);rw[show cs.length=0 by omega];rfl
theorem ACq{d:Dice}{k:List AK->List Bb->List Bh->Dice->List By->Option β}(hd:Co d)(hk:∀d' zs ps cs,Co d'->gE zs->1<=zs.length->gF (zs.length:Int) ps->(1<=ps.length/\ps.length<=8)->gG (zs.length:Int) cs->G (k zs ps cs d' [])):G (Z5 d k):=by
 unfold Z5;rw[Ad];refine CZ hd ⟨by omega,by omega⟩ λx d1 h1 h2 Cq=>?_;simp(disch:=omega) only[i64_in];unfold qI;rw[Ad];obtain⟨j,hj⟩:∃j:Nat,1+x=j:=⟨(1+x).toNat,by omega⟩;rw[hj];refine ACk (b7:=[]) (λd2 zs Ct hz E1=>?_) j fuel d1 [] (BB (by omega)) Cq ⟨Named.nil,λz hz=>absurd hz DQ⟩ (by simp;omega);refine CZ Ct ⟨by omega,by omega⟩ λy d3 h3 h4 EI=>?_;simp(disch:=omega) only[i64_in];unfold qK;rw[Ad];obtain⟨q,hq⟩:∃q:Nat,1+y=q:=⟨(1+y).toNat,by omega⟩;rw[hq];have jB:zs.length<=8:=by have:=hz.1.1;have e:zNames.length=2:=rfl;omega
 refine ACm ⟨E1,jB⟩ (λd4 ps Hu hp Ba=>?_) q fuel d3 [] (BB (by omega)) EI ⟨Named.nil,λz hz=>absurd hz DQ⟩ (by simp;omega);refine CZ Hu ⟨by omega,by omega⟩ λt d5 h5 h6 Hv=>?_;unfold qM;rw[Ad];obtain⟨c,rfl⟩:∃c:Nat,t=c:=⟨t.toNat,by omega⟩;exact ACp ⟨E1,jB⟩ (λd6 cs Mt hc=>hk _ _ _ _ Mt hz E1 hp Ba hc) c fuel d5 [] (BB (by omega)) Hv ⟨Named.nil,λz hz=>absurd hz DQ⟩ (by simp;omega)
end
end
end Go.Lift
namespace Go.Lift
open Go.RowKit Go.IntWalk
noncomputable section
variable[Sl]
set_option maxRecDepth 10000
section
variable{β:Type}{G:Option β->Prop}
def zF(nz np nc:Int)(ls:List AU):Prop:=Named (·.1) pNames ls/\∀l∈ls,Et nz np nc l=0
def zG(nz np nc:Int)(ss:List By):Prop:=Named (·.1) sNames ss/\∀s∈ss,FY nz np nc s=0/\∀x∈s.2.2,EdOk np x
theorem Alw:((List.range (pNames.length+1)).all λn=>JF (pNames.take n) [])=true:=by kernel_rfl
theorem ACr:((List.range (sNames.length+1)).all λn=>JF (sNames.take n) [])=true:=by kernel_rfl
theorem ACs:((List.range (zNames.length+1)).all λn=>JF (zNames.take n) [])=true:=by kernel_rfl
theorem ACt:((List.range (cNames.length+1)).all λn=>JF (cNames.take n) [])=true:=by kernel_rfl
theorem ACu{nz np nc:Int}{n:List UInt8}{ls:List AU}{es:List Ed}(hl:zF nz np nc ls)(h6:ls.length<=6)(he:∀x∈es,HD np x=0)(Wt:es.length<=48):FY nz np nc (n,ls,es)=0:=by unfold FY;simp only;rw[AN (by omega),AN (by omega),At (gD (hl.1.ok Alw) hl.2),zD np es 0 he];rfl
theorem ACv{i:Int}{zs b4:List AK}{ps b5:List Bb}{cs b6:List Bh}{s:List UInt8}{b7 b8:List By}{es:List Ed}{k:sX β}(hz:1<=zs.length/\zs.length<=8)(hp:1<=ps.length/\ps.length<=8)(hc:cs.length<=8)(hk:∀d' ls,Co d'->zF (zs.length:Int) (ps.length:Int) (cs.length:Int) ls->ls.length<=6->G (k i d' zs ps cs s b4 b5 b6 b7 b8 ls es)):∀(j m:Nat)(d:Dice)(ls:List AU),j<m->Co d->zF (zs.length:Int) (ps.length:Int) (cs.length:Int) ls->ls.length+j<=6->G (UJ m k i (j:Int) d zs ps cs s b4 b5 b6 b7 b8 ls es):=by
 intro j
 induction j with
 |zero=>intro m d ls hm hd hl h6;obtain⟨m,rfl⟩:∃m',m=m'+1:=⟨m-1,by omega⟩;simp only[Ai2,aY];exact w_n (by simp) (hk _ _ hd hl (by omega))
 |succ j ih=>
  intro m d ls hm hd hl h6;obtain⟨m,rfl⟩:∃m',m=m'+1:=⟨m-1,by omega⟩;simp only[Ai2,aY];refine w_p (by omega) ?_;unfold T6;rw[Ad];refine w_i (by show 0<=(ls.length:Int)/\(ls.length:Int)<8;omega) ?_;refine ACj hd hz hp hc λl d1 Cq hn hv=>?_;have hr:(ls.length+1)*120<=140737488355328:=by omega
  refine w_r hr ?_;simp(disch:=omega) only[i64_in];rw[show((j+1:Nat):Int)-1=(j:Int) by omega];refine ih m d1 _ (by omega) Cq ⟨hl.1.snoc (by show ls.length<8;omega) ?_,Mh hl.2 hv⟩ (by simp;omega);rw[AT]at hn;exact hn
theorem ACw{i:Int}{zs b4:List AK}{ps b5:List Bb}{cs b6:List Bh}{s:List UInt8}{b7 b8:List By}{ls:List AU}{k:sZ β}(hp:1<=ps.length/\ps.length<=8)(hk:∀d' es,Co d'->(∀x∈es,EdOk (ps.length:Int) x)->es.length<=3->G (k i d' zs ps cs s b4 b5 b6 b7 b8 ls es)):∀(j m:Nat)(d:Dice)(es:List Ed),j<m->Co d->(∀x∈es,EdOk (ps.length:Int) x)->es.length+j<=3->G (UK m k i (j:Int) d zs ps cs s b4 b5 b6 b7 b8 ls es):=by
 intro j
 induction j with
 |zero=>intro m d es hm hd hl h6;obtain⟨m,rfl⟩:∃m',m=m'+1:=⟨m-1,by omega⟩;simp only[Ai3,aZ];exact w_n (by simp) (hk _ _ hd hl (by omega))
 |succ j ih=>
  intro m d es hm hd hl h6;obtain⟨m,rfl⟩:∃m',m=m'+1:=⟨m-1,by omega⟩;simp only[Ai3,aZ];refine w_p (by omega) ?_;refine Alp hd hp λx d1 Cq hv=>?_;have hr:(es.length+1)*40<=140737488355328:=by omega
  refine w_r hr ?_;simp(disch:=omega) only[i64_in];rw[show((j+1:Nat):Int)-1=(j:Int) by omega];exact ih m d1 _ (by omega) Cq (Mh hl hv) (by simp;omega)
theorem ACx{zs b3:List AK}{ps b4:List Bb}{cs b5:List Bh}{b6:List By}{k:sV β}(hz:1<=zs.length/\zs.length<=8)(hp:1<=ps.length/\ps.length<=8)(hc:cs.length<=8)(hk:∀d' ss,Co d'->zG (zs.length:Int) (ps.length:Int) (cs.length:Int) ss->(1<=ss.length/\∀s∈ss,s.2.2.length<=3)->G (k d' zs ps cs b3 b4 b5 b6 ss)):∀(j m:Nat)(d:Dice)(ss:List By),j<m->Co d->zG (zs.length:Int) (ps.length:Int) (cs.length:Int) ss->(1<=ss.length+j/\ss.length+j<=3)->(∀s∈ss,s.2.2.length<=3)->G (UL m k (j:Int) d zs ps cs b3 b4 b5 b6 ss):=by
 intro j
 induction j with
 |zero=>intro m d ss hm hd hl h6 Pq;obtain⟨m,rfl⟩:∃m',m=m'+1:=⟨m-1,by omega⟩;simp only[Ai4,bA];exact w_n (by simp) (hk _ _ hd hl ⟨by omega,Pq⟩)
 |succ j ih=>
  intro m d ss hm hd hl h6 Pq;obtain⟨m,rfl⟩:∃m',m=m'+1:=⟨m-1,by omega⟩;simp only[Ai4,bA];refine w_p (by omega) ?_
  have AGL:Int.tmod (ss.length:Int) 3=(ss.length:Int):=by rw[FD (by omega),k9 (by omega) (by omega)]
  rw[AGL];refine w_i (by show 0<=(ss.length:Int)/\(ss.length:Int)<3;omega) ?_;refine CZ hd ⟨by omega,by omega⟩ λx d1 h1 h2 Cq=>?_;unfold tB;rw[Ad];obtain⟨q,rfl⟩:∃q:Nat,x=q:=⟨x.toNat,by omega⟩;refine ACv hz hp hc (λd2 ls Ct Jk AGD=>?_) q fuel d1 [] (BB (by omega)) Cq ⟨Named.nil,λz hz=>absurd hz DQ⟩ (by simp;omega);refine CZ Ct ⟨by omega,by omega⟩ λy d3 h3 h4 EI=>?_;unfold tC;rw[Ad];obtain⟨p,rfl⟩:∃p:Nat,y=p:=⟨y.toNat,by omega⟩;refine ACw hp (λd4 es Hu Gs AGj=>?_) p fuel d3 [] (BB (by omega)) EI (λz hz=>absurd hz DQ) (by simp;omega);have hr:(ss.length+1)*64<=140737488355328:=by omega
  refine w_r hr ?_;simp(disch:=omega) only[i64_in];rw[show((j+1:Nat):Int)-1=(j:Int) by omega];refine ih m d4 _ (by omega) Hu ⟨hl.1.snoc (by show ss.length<3;omega) ?_,Mh hl.2 ⟨ACu Jk AGD (λx hx=>(Gs x hx).1) (by omega),Gs⟩⟩ (by simp;omega) (Mh Pq AGj);rw[AT];rfl
structure ConfOk (c:As):Prop where
 oz:gE c.1
 op:gF (c.1.length:Int) c.2.1
 oc:gG (c.1.length:Int) c.2.2.1
 os:zG (c.1.length:Int) (c.2.1.length:Int) (c.2.2.1.length:Int) c.2.2.2
theorem ACy{n:Int}{d:Dice}{k:As->Dice->Option β}(hd:Co d)(hn:1<=n/\n<=3)(hk:∀c d',Co d'->ConfOk c->(1<=c.1.length/\1<=c.2.1.length/\1<=c.2.2.2.length)->(∀s∈c.2.2.2,s.2.2.length<=3)->G (k c d')):G (bB n d k):=by
 unfold bB;rw[Ad];refine ACq hd λd1 zs ps cs Cq hz E1 hp Ba hc=>?_;refine CZ Cq ⟨by omega,by omega⟩ λx d2 h1 h2 Ct=>?_;simp(disch:=omega) only[i64_in];unfold tD;rw[Ad];obtain⟨q,hq⟩:∃q:Nat,1+x=q:=⟨(1+x).toNat,by omega⟩;rw[hq];have jB:zs.length<=8:=by have:=hz.1.1;have e:zNames.length=2:=rfl;omega
 have AG2:cs.length<=8:=by have:=hc.1.1;have e:cNames.length=1:=rfl;omega
 refine ACx ⟨E1,jB⟩ Ba AG2 (λd3 ss EI hs B5=>?_) q fuel d2 [] (BB (by omega)) Ct ⟨Named.nil,λz hz=>absurd hz DQ⟩ (by simp;omega) (λz hz=>absurd hz DQ);have AG3:ConfOk (zs,ps,cs,ss):=⟨hz,hp,hc,hs⟩;exact hk _ _ EI AG3 ⟨E1,Ba.1,B5.1⟩ B5.2
theorem Alx(nz:Int):∀(xs:List Bb)(j:Nat)(l:List (List UInt8)),JF (xs.map (·.1)) l=true->GS∉xs.map (·.1)->(∀x∈xs,HC nz x=0)->walk (Mg nz) xs j l=.inr (l++xs.map (·.1))
 |[],j,l,_,_,_=>by simp[walk]
 |x::xs,j,l,h,hn,hc=>by
  simp only[CM,JF,CE]at h;obtain⟨h1,h2,h3⟩:=h;have h2:x.1∉l:=by simpa using h2
  rw[CM,Bw,not_or]at hn
  have hf:Le nz x l=0:=by unfold Le;rw[AN (show ¬x.1=GS from λe=>hn.1 e.symm),Alq h1 h2];rfl
  have hg:Mg nz j x l=.inr (l++[x.1]):=by unfold Mg;rw[hf,At (hc x (CW ..))];rfl
  rw[Nw hg,Alx nz xs (j+1) _ h3 hn.2 λy hy=>hc y (BY _ hy)];simp
theorem Aly{c:As}(h:ConfOk c):VQ FZ c=0:=by
 have e1:zNames.length=2:=rfl;have e2:pNames.length=8:=rfl;have e3:cNames.length=1:=rfl;have e4:sNames.length=3:=rfl;have l1:=h.oz.1.1;have l2:=h.op.1.1;have l3:=h.oc.1.1;have l4:=h.os.1.1
 have F9:GS∉c.2.1.map (·.1):=by rw[h.op.1.2];intro g;have:=XP g;exact absurd this (by decide)
 unfold VQ;rw[AN (by omega),AN (by omega),AN (by omega),AN (by omega),gD (h.oz.1.ok ACs) λz hz=>(h.oz.2 z hz).2.1]
 have hp:VP (c.1.length:Int) c.2.1=0:=by unfold VP;rw[Alx _ _ 0 [] (h.op.1.ok Alw) F9 h.op.2];rfl
 rw[hp,gD (h.oc.1.ok ACt) (λx hx=>(h.oc.2 x hx).1),gD (h.os.1.ok ACr) (λx hx=>(h.os.2 x hx).1)];rfl
def idxG{α:Type}(of:α->List UInt8)(n:List UInt8)(j:Nat)(x:α)(_:Unit):Int⊕Unit:=cond (decide (of x=n)) (.inl (j:Int)) (.inr ())
def idxV{α:Type}(of:α->List UInt8)(n:List UInt8)(xs:List α):Int:=match walk (idxG of n) xs 0 ()with|.inl j=>j|.inr _=>-1
theorem Alz(c:As)(n:List UInt8)(h:c.2.1.length<=1000000)(k:Int->Bool->Option β):Rg c n k=k (if idxV (·.1) n c.2.1>0 then idxV (·.1) n c.2.1 else 0) (decide (0<=idxV (·.1) n c.2.1)):=by
 unfold Rg;rw[Ad];unfold pT;rw[Ad];unfold pS;rw[Ad];generalize hK:(λ(r:Int)(_:List UInt8)=>k (if r>0 then r else 0) (decide (0<=r)))=K;refine(Ja (λm i(_:Unit)=>TY m (λt b=>K t b) (λb=>K (-1) b) c.2.1 (c.2.1.length:Int) i n) (idxG (·.1) n) (λe=>K e n) (λ_=>K (-1) n) ([],0,[],0,0,false) c.2.1 () fuel (BB (by omega)) (λm i _ hi=>?_) (λm _=>?_)).trans ?_
 ·simp only[Ag4,Zw]
  refine(Ai (by omega)).trans ?_;refine(Al (by omega)).trans ?_;rw[AT,i64_in ((i:Int)+1) (by omega)];unfold pQ idxG;rw[Ad];show cond (decide _) _ _=_;cases decide ((c.2.1.getD i ([],0,[],0,0,false)).1=n)<;>rfl
 ·simp only[Ag4,Zw]
  exact Ae (by omega)
 ·subst hK
  unfold idxV;cases walk (idxG (·.1) n) c.2.1 0 ()<;>rfl
theorem AlA{α:Type}{of:α->List UInt8}{n:List UInt8}:∀(xs:List α)(j:Nat),(∀x∈xs,of x≠n)->walk (idxG of n) xs j ()=.inr ()
 |[],_,_=>rfl
 |x::xs,j,h=>by
  have hg:idxG of n j x ()=.inr ():=by unfold idxG;rw[AN (h x (CW ..))];rfl
  rw[Nw hg];exact AlA xs (j+1) λy hy=>h y (BY _ hy)
theorem ACz{α:Type}{of:α->List UInt8}{n:List UInt8}{a:List α}{x:α}{b:List α}(j:Nat)(ha:∀y∈a,of y≠n)(hx:of x=n):walk (idxG of n) (a++x::b) j ()=.inl ((j+a.length:Nat):Int):=by rw[Als _ a (x::b) j () () (AlA a j ha)];unfold walk idxG;rw[At hx];rfl
theorem zH{α:Type}{of:α->List UInt8}{xs:List α}(h:(xs.map of).Nodup){i:Nat}(hi:i<xs.length)(d:α):idxV of (of (xs.getD i d)) xs=(i:Int):=by
 have e:xs=xs.take i++xs.getD i d::xs.drop (i+1):=by have h1:=(L8 (i+1) xs).symm;rw[Nu d hi,Ci]at h1;simpa using h1
 have Bp:(xs.take i).length=i:=by simp;omega
 have AW:∀y∈xs.take i,of y≠of (xs.getD i d):=by intro y hy g;rw[e,KC,Sz]at h;exact h.2.2 (of y) (Qi hy) (of (xs.getD i d)) (by simp) g
 have hw:=ACz (b:=xs.drop (i+1)) 0 AW (rfl:of (xs.getD i d)=_);unfold idxV;rw[<-e]at hw;rw[hw,Bp];simp
theorem Named.nodup{α:Type}{of:α->List UInt8}{L:List (List UInt8)}{xs:List α}(h:Named of L xs)(hL:L.Nodup):(xs.map of).Nodup:=by rw[h.2];exact hL.sublist (List.take_sublist _ _)
end
end
end Go.Lift
namespace Go.Lift
open Go.RowKit Go.IntWalk
noncomputable section
variable[Sl]
set_option maxRecDepth 10000
abbrev Tok:=BV
def wd(s:List UInt8):Tok:=(0,s,0)
def nu(t n:Int):Tok:=(t,[],n)
def numb:Nat->List (List Tok)->List (Int×List Tok)
 |_,[]=>[]
 |n,t::r=>((n:Int)+1,t)::numb (n+1) r
theorem VV:∀(n:Nat)(ls:List (List Tok)),(numb n ls).length=ls.length
 |_,[]=>rfl
 |n,t::r=>by simp[numb,VV (n+1) r]
theorem AlB:∀(n:Nat)(a b:List (List Tok)),numb n (a++b)=numb n a++numb (n+a.length) b
 |_,[],_=>rfl
 |n,t::r,b=>by simp only[Fz,numb,AlB (n+1) r b,AX];rw[show n+1+r.length=n+(r.length+1) by omega]
def Mi:List (List UInt8):=[[109,111,110],[116,117,101],[119,101,100],[116,104,117],[102,114,105],[115,97,116],[115,117,110]]
def VW:List (List UInt8):=[[106,97,110],[102,101,98],[109,97,114],[97,112,114],[109,97,121],[106,117,110],[106,117,108],[97,117,103],[115,101,112],[111,99,116],[110,111,118],[100,101,99]]
def VX:List (List UInt8):=[[102,105,114,115,116],[115,101,99,111,110,100],[116,104,105,114,100],[102,111,117,114,116,104],[108,97,115,116]]
def untNs:List (List UInt8):=[[104,111,117,114,115],[100,97,121,115],[119,101,101,107,115]]
def VY:List (List UInt8):=[[],[110,111,116],[111,110,108,121]]
def JG:List (List UInt8):=[[108,101,97,118,101],[111,118,101,114,114,105,100,101],[115,119,97,112]]
def at'(l:List (List UInt8))(n:Int):List UInt8:=l.getD n.toNat []
section
variable{β:Type}
theorem Hp(s:List UInt8)(k:Tok->Option β):FK s k=k (wd s):=by unfold FK;rw[Ad];rfl
theorem VZ(n:Int)(k:Tok->Option β):LW n k=k (nu 1 n):=by unfold LW;rw[Ad];rfl
theorem gH(n:Int)(k:Tok->Option β):Ni n k=k (nu 2 n):=by unfold Ni;rw[Ad];rfl
theorem AlC(n:Int)(k:Tok->Option β):QP n k=k (nu 3 n):=by unfold QP;rw[Ad];rfl
theorem AlD(n:Int)(k:Tok->Option β):T9 n k=k (nu 4 n):=by unfold T9;rw[Ad];rfl
theorem AlE(n:Int)(k:Tok->Option β):TA n k=k (nu 5 n):=by unfold TA;rw[Ad];rfl
theorem zI{n:Int}(h:0<=n/\n<7)(k:Tok->Option β):QO n k=k (wd (at' Mi n)):=by unfold QO;rw[Ad];exact(Al (show 0<=n/\n<((7:Nat):Int)from h)).trans (Hp _ _)
variable{w:List AK}{w2:List Bb}{w3:List Bh}{w4:List By}
theorem Km(kw:List UInt8)(toks:List Tok)(ls:List (List Tok))(h1:ls.length<=1000000)(h2:toks.length<=1000000)(k:List AK->List Bb->List Bh->List By->List (Int×List Tok)->Option β):DU kw toks w w2 w3 w4 (numb 0 ls) k=k w w2 w3 w4 (numb 0 (ls++[wd kw::toks])):=by
 unfold DU;rw[Ad];refine(Hp _ _).trans ?_;refine(Er (show(1+toks.length)*32<=_ by omega)).trans ?_;refine((Ax (λb=>cond b _ none) (Bool.true_and _)).trans (Er (show((numb 0 ls).length+1)*32<=_ by rw[VV];omega))).trans ?_;rw[AlB,VV,i64_in ((ls.length:Int)+1) (by omega),Ei];rfl
theorem zJ{i:Int}(h:0<=i/\i<(w.length:Int)){b:List (Int×List Tok)}(k:Tok->List AK->List Bb->List Bh->List By->List (Int×List Tok)->Option β):OD i w w2 w3 w4 b k=k (wd (w.getD i.toNat ([],0,[])).1) w w2 w3 w4 b:=by
 unfold OD;rw[Ad];exact(Al h).trans (Hp _ _)
def whoB(w2:List Bb)(i:Int):List UInt8:=if i<0 then GS else(w2.getD i.toNat ([],0,[],0,0,false)).1
theorem zK{i:Int}(h:i<(w2.length:Int)){b:List (Int×List Tok)}(k:Tok->List AK->List Bb->List Bh->List By->List (Int×List Tok)->Option β):G9 i w w2 w3 w4 b k=k (wd (whoB w2 i)) w w2 w3 w4 b:=by
 unfold G9 whoB;rw[Ad];by_cases hi:i<0
 ·rw[if_pos hi]
  exact(Ai hi).trans (Hp _ _)
 ·rw[if_neg hi]
  exact(Ae hi).trans ((Al ⟨by omega,h⟩).trans (Hp _ _))
def stW(kw:List UInt8)(x:Int×Int):List Tok:=
 [wd kw,wd (at' Mi (Int.tdiv x.1 86400)),nu 2 (Int.tmod x.1 86400),wd (at' Mi (Int.tdiv (x.2-1) 86400)),nu 2 (x.2-Int.tdiv (x.2-1) 86400*86400)]
def PWin(x:Int×Int):Prop:=0<=x.1/\x.1<604800/\1<=x.2/\x.2<=604800
theorem R1{a:Int}(h:0<=a/\a<604800):0<=Int.tdiv a 86400/\Int.tdiv a 86400<7:=by rw[GJ h.1];omega
theorem AlF(kw:List UInt8)(l:List (Int×Int))(ls:List (List Tok))(h1:ls.length+l.length<=1000000)(hl:∀x∈l,PWin x)(k:List AK->List Bb->List Bh->List By->List (Int×List Tok)->Option β):OJ kw l w w2 w3 w4 (numb 0 ls) k=k w w2 w3 w4 (numb 0 (ls++l.map (stW kw))):=by
 unfold OJ;rw[Ad];unfold qV;rw[Ad,<-ACh (stW kw) l ls]
 refine Rz (λi s=>s.length=ls.length+i) (λm i s=>Ul m (λAZ BO CB CC Bn=>k AZ BO CB CC Bn) kw l (l.length:Int) i w w2 w3 w4 (numb 0 s)) (λs x=>s++[stW kw x]) (λs=>k w w2 w3 w4 (numb 0 s)) ((0:Int),(0:Int)) l ls fuel (BB (by omega)) rfl
  (λi s hi hs=>by rw[AR,Gp];omega) (λm i s hi hs=>?_) (λm s hs=>?_)
 ·have hx:=hl _ (C5 (d:=((0:Int),(0:Int))) hi)
  obtain⟨x1,x2,x3,x4⟩:=hx;generalize hq:l.getD i ((0:Int),(0:Int))=q at x1 x2 x3 x4;simp only[Agv,ZG];refine(Ai (by omega)).trans ?_;refine(Al (by omega)).trans ?_;rw[AT,hq];have d1:=R1 ⟨x1,x2⟩;have d2:=R1 (a:=q.2-1) ⟨by omega,by omega⟩;rw[i64_in (q.2-1) (by omega),i64_in (Int.tdiv (q.2-1) 86400) (by omega),i64_in (Int.tdiv q.1 86400) (by omega),i64_in (Int.tdiv (q.2-1) 86400*86400) (by omega),i64_in (q.2-Int.tdiv (q.2-1) 86400*86400) (by omega)];refine(zI d1 _).trans ?_;refine(gH _ _).trans ?_;refine(zI d2 _).trans ?_;refine(gH _ _).trans ?_;refine(Km kw _ s (by omega) (by simp) _).trans ?_;rw[i64_in ((i:Int)+1) (by omega)];rfl
 ·simp only[Agv,ZG]
  exact Ae (by omega)
end
end
end Go.Lift
namespace Go.Lift
open Go.RowKit Go.IntWalk
noncomputable section
variable[Sl]
set_option maxRecDepth 10000
theorem cz{b:Bool}{e x:Int}(h:cond b e x=0)(he:e≠0:=by decide):b=false/\x=0:=by
 cases b with
 |true=>exact absurd h he
 |false=>exact⟨rfl,h⟩
theorem nt{b:Bool}(h:(!b)=false):b=true:=by simpa using h
theorem Pe{i n:Int}(h:ixI i n=true):0<=i/\i<n:=by unfold ixI at h;simpa using h
theorem Ny{i a b:Int}(h:inI i a b=true):a<=i/\i<=b:=by unfold inI at h;simpa using h
theorem zL{i:Int}(h:dayI i=true):0<=i/\i<98981:=by unfold dayI at h;simpa using h
theorem or2{a b:Bool}(h:(a||b)=false):a=false/\b=false:=by simpa using h
theorem df{p:Prop}[Decidable p](h:decide p=false):¬p:=XS h
theorem dt{p:Prop}[Decidable p](h:decide p=true):p:=Bv h
theorem gI{α σ:Type}{g:Nat->α->σ->Int⊕σ}{P:α->Prop}(AW:∀j x s,g j x s≠.inl 0)(hP:∀j x s s',g j x s=.inr s'->P x):∀(xs:List α)(j:Nat)(s:σ),errV (walk g xs j s)=0->∀x∈xs,P x
 |[],_,_,_,x,hx=>absurd hx DQ
 |y::r,j,s,h,x,hx=>by
  unfold walk at h;cases hg:g j y s with
  |inl e=>rw[hg]at h;exact absurd (hg.trans (Ax Sum.inl (show e=0 from h))) (AW j y s)
  |inr s'=>
   rw[hg]at h;rcases Bw.1 hx with e|hx
   ·rw[e];exact hP _ _ _ _ hg
   ·exact gI AW hP r (j+1) s' h x hx
theorem Wa{α:Type}{e:Int}(h:e≠0):(Sum.inl e:Int⊕α)≠.inl 0:=λg=>h (Sum.inl.inj g)
theorem AlG{ws:List (Int×Int)}(h:Es ws=0):ws.length<=14/\∀x∈ws,PWin x:=by
 unfold Es at h;obtain⟨h1,h⟩:=cz h;refine⟨by have:=df h1;omega,gI (g:=Me ws) (λj x s=>?_) (λj x s s' hg=>?_) ws 0 () h⟩
 ·unfold Me
  cases(decide (x.1<0)||(decide (x.2<=x.1)||decide ((604800:Int)<x.2)))with
  |true=>exact Wa (by decide)
  |false=>cases(decide (0<(j:Int))&&decide (x.1<(ws.getD (j-1) (0,0)).2))with
   |true=>exact Wa (by decide)
   |false=>exact λg=>nomatch g
 ·unfold Me at hg
  cases hb:(decide (x.1<0)||(decide (x.2<=x.1)||decide ((604800:Int)<x.2)))with
  |true=>rw[hb]at hg;cases hg
  |false=>obtain⟨a,b⟩:=or2 hb;obtain⟨b,c⟩:=or2 b;have:=df a;have:=df b;have:=df c;exact⟨by omega,by omega,by omega,by omega⟩
theorem zM{α:Type}{of:α->List UInt8}{chk:α->Int}{xs:List α}(h:FX of chk xs=0):∀x∈xs,chk x=0/\Cy (of x)=true:=by
 refine gI (g:=F7 of chk) (λj x s=>?_) (λj x s s' hg=>?_) xs 0 [] h
 ·unfold F7
  by_cases h1:EE (of x) s=0
  ·rw[At h1]
   by_cases h2:chk x=0
   ·rw[At h2];exact λg=>nomatch g
   ·rw[AN h2];exact Wa h2
  ·rw[AN h1];exact Wa h1
 ·unfold F7 at hg
  by_cases h1:EE (of x) s=0
  ·rw[At h1]at hg
   by_cases h2:chk x=0
   ·refine⟨h2,?_⟩
    unfold EE at h1;cases hn:Cy (of x)with
    |true=>rfl
    |false=>rw[hn]at h1;cases h1
   ·rw[AN h2]at hg;cases hg
  ·rw[AN h1]at hg;cases hg
structure LayF (nz np nc:Int) (l:AU):Prop where
 z:0<=l.2.1/\l.2.1<nz
 d:1<=l.2.2.1.1/\l.2.2.1.1<98981
 s:0<=l.2.2.1.2/\l.2.2.1.2<=86399
 u:0<=l.2.2.2.1/\l.2.2.2.1<=2
 e:1<=l.2.2.2.2.1/\l.2.2.2.2.1<=400
 m:1<=l.2.2.2.2.2.1.length/\l.2.2.2.2.2.1.length<=12
 ms:∀x∈l.2.2.2.2.2.1,0<=x/\x<np
 w:l.2.2.2.2.2.2.1.length<=14/\∀x∈l.2.2.2.2.2.2.1,PWin x
 c:(l.2.2.2.2.2.2.2.2=0/\l.2.2.2.2.2.2.2.1=0)\/((1<=l.2.2.2.2.2.2.2.2/\l.2.2.2.2.2.2.2.2<=2)/\0<=l.2.2.2.2.2.2.2.1/\l.2.2.2.2.2.2.2.1<nc)
theorem AlH{nz np nc:Int}{l:AU}(h:Et nz np nc l=0):LayF nz np nc l:=by
 unfold Et at h;obtain⟨h1,h⟩:=cz h;unfold l2V at h;obtain⟨h2,h⟩:=cz h;obtain⟨h3,h⟩:=cz h;obtain⟨h4,h⟩:=cz h;obtain⟨h5,h⟩:=cz h;obtain⟨h6,h⟩:=cz h;obtain⟨h7,h⟩:=cz h;unfold l1V at h;obtain⟨h8,h⟩:=cz h;obtain⟨a1,a⟩:=or2 h2;obtain⟨a2,a⟩:=or2 a;obtain⟨a3,a⟩:=or2 a;obtain⟨a4,a5⟩:=or2 a;have b1:=df a1;have b2:=zL (nt a2);have b3:=df h3;have b4:=df h4;have b7:=Ny (nt h7);refine⟨Pe (nt h1),by omega,Ny (nt a3),Ny (nt a4),Ny (nt a5),by omega,λx hx=>Pe (Eh.1 (nt h5) x hx),AlG (dt (nt h6)),?_⟩;by_cases hm:l.2.2.2.2.2.2.2.2=0
 ·rw[At hm]at h
  cases hc:decide (l.2.2.2.2.2.2.2.1=0)with
  |true=>exact .inl ⟨hm,dt hc⟩
  |false=>rw[hc]at h;cases h
 ·rw[AN hm]at h8
  exact .inr ⟨by omega,Pe (nt (by simpa using h8))⟩
structure EdF (np:Int) (x:Ed):Prop where
 k:0<=x.1/\x.1<=2
 a:(0<=x.2.1/\x.2.1<np)\/(x.1=1/\x.2.1=-1)
 b:x.1=2->0<=x.2.2.1/\x.2.2.1<np
 b0:x.1≠2->x.2.2.1=0
 ab:x.1=2->x.2.1≠x.2.2.1
 f:0<=x.2.2.2.1
 ft:x.2.2.2.1<x.2.2.2.2
 t:x.2.2.2.2<98981*86400
theorem ed_f{np:Int}{x:Ed}(h:EdOk np x):EdF np x:=by
 obtain⟨h,hb⟩:=h;unfold HD at h;obtain⟨h1,h⟩:=cz h;unfold e4V at h;obtain⟨h2,h⟩:=cz h;unfold e3V at h;obtain⟨h3,h⟩:=cz h;unfold e2V at h;obtain⟨h4,h⟩:=cz h;unfold e1V at h;obtain⟨h5,h⟩:=cz h;obtain⟨h6,h⟩:=cz h;obtain⟨a1,a2⟩:=or2 h2;obtain⟨c1,c⟩:=or2 h5;obtain⟨c2,c3⟩:=or2 c;have d1:=df c1;have d2:=df c2;have d3:=df h6;have d4:=zL (nt c3);rw[GJ (by omega),i64_in _ (by omega)]at d4;refine⟨Ny (nt h1),?_,λhk=>?_,λhk=>?_,λhk=>?_,by omega,by omega,by omega⟩
 ·cases hi:ixI x.2.1 np with
  |true=>exact .inl (Pe hi)
  |false=>
   rw[hi]at a1;have a2:(decide (x.1=1)&&decide (x.2.1=-1))=true:=by simpa using a1
   exact .inr (by simpa using a2)
 ·rw[At hk]at a2
  exact Pe (by simpa using a2)
 ·rw[AN hk]at h3
  exact dt (by simpa using h3)
 ·rw[At hk]at h4
  exact df (by simpa using h4)
structure SchF (nz np nc:Int) (s:By):Prop where
 l:s.2.1.length<=6
 ls:∀l∈s.2.1,LayF nz np nc l/\Cy l.1=true
 e:s.2.2.length<=48
 es:∀x∈s.2.2,HD np x=0
theorem AlI{nz np nc:Int}{s:By}(h:FY nz np nc s=0):SchF nz np nc s:=by
 unfold FY at h;obtain⟨h1,h⟩:=cz h;obtain⟨h2,h⟩:=cz h;have b1:=df h1;have b2:=df h2;by_cases hn:FX (·.1) (Et nz np nc) s.2.1=0
 ·rw[At hn]at h
  refine⟨by omega,λl hl=>⟨AlH (zM hn l hl).1,(zM hn l hl).2⟩,by omega,?_⟩;refine gI (g:=Mf np) (λj x s=>?_) (λj x s s' hg=>?_) _ 0 () h
  ·unfold Mf
   by_cases h2:HD np x=0
   ·rw[At h2];exact λg=>nomatch g
   ·rw[AN h2];exact Wa h2
  ·unfold Mf at hg
   by_cases h2:HD np x=0
   ·exact h2
   ·rw[AN h2]at hg;cases hg
 ·rw[AN hn]at h
  exact absurd h hn
structure PerF (nz:Int) (p:Bb):Prop where
 z:0<=p.2.1/\p.2.1<nz
 q:p.2.2.1.length<=14/\∀x∈p.2.2.1,PWin x
 w:(0<=p.2.2.2.1/\p.2.2.2.1<=604800)/\Int.tmod p.2.2.2.1 3600=0
 r:(0<=p.2.2.2.2.1/\p.2.2.2.2.1<=604800)/\Int.tmod p.2.2.2.2.1 3600=0
theorem AlJ{n:Int}(h:I0 n=true):(0<=n/\n<=604800)/\Int.tmod n 3600=0:=by
 unfold I0 at h;cases hi:inI n 0 604800 with
 |true=>rw[hi]at h;exact⟨Ny hi,dt (by simpa using h)⟩
 |false=>rw[hi]at h;cases h
theorem AlK{nz:Int}{p:Bb}(h:HC nz p=0):PerF nz p:=by unfold HC at h;obtain⟨h1,h⟩:=cz h;obtain⟨h2,h⟩:=cz h;obtain⟨h3,h⟩:=cz h;obtain⟨h4,h⟩:=cz h;exact⟨Pe (nt h1),AlG (dt (nt h2)),AlJ (nt h3),AlJ (nt h4)⟩
structure CalF (nz:Int) (x:Bh):Prop where
 z:0<=x.2.1/\x.2.1<nz
 l:x.2.2.length<=64
 d:∀d∈x.2.2,0<=d/\d<98981
theorem gJ{nz:Int}{x:Bh}(h:calV nz x=0):CalF nz x:=by unfold calV at h;obtain⟨h1,h⟩:=cz h;obtain⟨h2,h⟩:=cz h;obtain⟨h3,h⟩:=cz h;have:=df h2;exact⟨Pe (nt h1),by omega,λd hd=>zL (Eh.1 (nt h3) d hd)⟩
end
end Go.Lift
namespace Go.Lift
open Go.RowKit Go.IntWalk
noncomputable section
set_option maxRecDepth 10000
theorem zN[S:Sl]{β:Type}(k:Int->Option β):Ur k=k 98980:=by rcases S with⟨_|_⟩<;>kernel_rfl
theorem ACA{s:List UInt8}(h:Cy s=true):0<s.length/\s.length<=24/\JE ((s.getD 0 0).toNat:Int)=true/\∀c∈s,Kl c=true:=by unfold Cy at h;simp only[CE,NW,XL]at h;obtain⟨h1,h2,h3,h4⟩:=h;exact⟨MK.2 h1,by omega,h3,λc hc=>Eh.1 h4 c hc⟩
variable[Sl]
section
variable{β:Type}
theorem f_in(n lo hi:Int)(k:Bool->Option β):Gq n lo hi k=k (inI n lo hi):=by unfold Gq;rw[Ad];exact c_kb k _ _
theorem Lh(n lo hi:Int)(k:Bool->Option β):IZ n lo hi k=k (inI n lo hi):=by unfold IZ;rw[Ad];exact c_kb k _ _
theorem AlL(n:Int)(k:Bool->Option β):TX n k=k (I0 n):=by unfold TX;rw[Ad];refine(f_in _ _ _ _).trans ?_;exact c_kb k _ _
theorem ACB(b:Int)(k:Bool->Option β):QS b k=k (Pd b):=by unfold QS;rw[Ad];exact c_kb k _ _
theorem AlM{c:UInt8}(hc:Kl c=true)(k:Bool->Option β)(g:Option β)(hn:¬(97<=c.toNat/\c.toNat<=122)):(QS (c.toNat:Int) λrdigit=>cond (!rdigit) (cond (!decide ((c.toNat:Int)=95)) (cond (!decide ((c.toNat:Int)=45)) (k false) g) g) g)=g:=by
 unfold Kl JE Pd inI at hc;simp only[LC,CE,Im]at hc;refine(ACB _ _).trans ?_;unfold Pd inI;by_cases g1:48<=c.toNat/\c.toNat<=57
 ·rw[At (show(48:Int)<=(c.toNat:Int) by omega),At (show(c.toNat:Int)<=57 by omega)]
  rfl
 ·have hb:(decide ((48:Int)<=(c.toNat:Int))&&decide ((c.toNat:Int)<=57))=false:=by
   rw[Bool.and_eq_false_iff];by_cases g2:48<=c.toNat
   ·exact .inr (AN (by omega))
   ·exact .inl (AN (by omega))
  rw[hb];show cond (!decide ((c.toNat:Int)=95)) _ _=_;by_cases g2:(c.toNat:Int)=95
  ·exact BM g2
  ·refine(Fe g2).trans ?_
   exact BM (by omega)
theorem ACC{s:List UInt8}(h:Cy s=true)(k:Bool->Option β):ZT s k=k true:=by
 have hl:=ACA h;obtain⟨h1,h2,h3,h4⟩:=hl;unfold ZT;rw[Ad]
 have hs:97<=(s.getD 0 0).toNat/\(s.getD 0 0).toNat<=122:=by unfold JE at h3;have:=Ny h3;omega
 refine(Ae (by omega)).trans ?_;refine(Ae (by omega)).trans ?_;refine(Al (by omega)).trans ?_;rw[show Int.toNat (0:Int)=0 from rfl];refine(Ae (by omega)).trans ?_;refine(Al (by omega)).trans ?_;refine(Ae (by omega)).trans ?_;unfold rN;rw[Ad];refine(Jb (λm i=>Uy m (λt2=>k t2) (λ_=>k true) s i) (λ_=>true) (k false) (k true) 0 s fuel (BB (by omega)) (λm i hi=>?_) (λm=>?_)).trans ?_
 ·have hc:=h4 _ (C5 (d:=(0:UInt8)) hi)
  have fin:∀g:Option β,cond (decide (0<=(i:Int))&&decide ((i:Int)<(s.length:Int))) g none=g:=λg=>Al (by omega);simp only[Ah2,ZS,AT,fin];refine(Ai (by omega)).trans ?_;rw[i64_in ((i:Int)+1) (by omega)];by_cases hl:((s.getD i 0).toNat:Int)<97
  ·refine(Ai hl).trans ?_
   exact AlM hc k _ (by omega)
  ·refine(Ae hl).trans ?_
   by_cases hu:(122:Int)<((s.getD i 0).toNat:Int)
   ·refine(Ai hu).trans ?_
    exact AlM hc k _ (by omega)
   ·exact Ae hu
 ·simp only[Ah2,ZS]
  exact Ae (by omega)
 ·rw[Eh.2 λ_ _=>rfl];rfl
end
end
end Go.Lift
namespace Go.Lift
open Go.RowKit Go.IntWalk
noncomputable section
variable[Sl]
set_option maxRecDepth 10000
section
variable{β:Type}
theorem AlN(l:List (Int×Int))(k:Int->Option β):TW l k=k (Es l):=by
 unfold TW;rw[Ad];unfold Es;by_cases h:(14:Int)<(l.length:Int)
 ·refine(Ai h).trans ?_
  rw[At h];rfl
 ·refine(Ae h).trans ?_
  rw[AN h];unfold pM;rw[Ad];refine(Ja (λm i(_:Unit)=>TV m (λt2=>k t2) (λ_=>k 0) l i) (Me l) (λe=>k e) (λ_=>k 0) (0,0) l () fuel (BB (by omega)) (λm i _ hi=>?_) (λm _=>?_)).trans (Ld k _)
  ·have fin:∀g:Option β,cond (decide (0<=(i:Int))&&decide ((i:Int)<(l.length:Int))) g none=g:=λg=>Al (by omega)
   simp only[AfV,Zu,AT,fin];refine(Ai (by omega)).trans ?_;rw[i64_in ((i:Int)+1) (by omega)];unfold Me;by_cases h1:(l.getD i (0,0)).1<0
   ·rw[At h1];rfl
   ·rw[AN h1]
    by_cases h2:(l.getD i (0,0)).2<=(l.getD i (0,0)).1
    ·rw[At h2];rfl
    ·rw[AN h2]
     by_cases h3:(604800:Int)<(l.getD i (0,0)).2
     ·rw[At h3];rfl
     ·rw[AN h3]
      by_cases h4:(0:Int)<(i:Int)
      ·rw[At h4,i64_in ((i:Int)-1) (by omega)]
       refine(Al (show 0<=(i:Int)-1/\(i:Int)-1<(l.length:Int) by omega)).trans ?_;rw[show Int.toNat ((i:Int)-1)=i-1 by omega];cases decide ((l.getD i (0,0)).1<(l.getD (i-1) (0,0)).2)<;>rfl
      ·rw[AN h4];rfl
  ·simp only[AfV,Zu]
   exact Ae (by omega)
theorem ACD{z:AK}(hl:z.2.2.length<=1000)(h0:Int.tmod z.2.1 60=0)(hr:∀r∈z.2.2,Int.tmod r.2.2.2.2.2.2 60=0)(k:Bool->Option β):Zt z k=k true:=by
 unfold Zt;rw[Ad];unfold pK;rw[Ad,At h0];refine(Jb (λm i=>TT m (λok2=>k ok2) true i z) (λ_=>true) (k false) (k true) (0,0,0,0,0,0,0) z.2.2 fuel (BB (by omega)) (λm i hi=>?_) (λm=>?_)).trans ?_
 ·have hm:=hr _ (C5 (d:=((0,0,0,0,0,0,0):BZ)) hi)
  simp only[AfR,Zs];refine(Ai (by omega)).trans ?_;refine c_t.trans ?_;refine(Al (by omega)).trans ?_;rw[AT,At hm,i64_in ((i:Int)+1) (by omega)];rfl
 ·simp only[AfR,Zs]
  exact Ae (by omega)
 ·rw[Eh.2 λ_ _=>rfl];rfl
theorem Wb{l:List (List UInt8)}{s:List UInt8}(hl:l.length<=1000)(h:Cy s=true)(hs:s∉l)(k:Int->Option β):Nq (l++[s]) (l.length:Int) k=k 0:=by
 unfold Nq;rw[Ad];refine(Al (by rw[AR,Gp];omega)).trans ?_;have e:(l++[s]).getD l.length []=s:=by simp[List.getD]
 rw[AT,e];refine(ACC h _).trans ?_;refine c_f.trans ?_;unfold sJ;rw[Ad];refine(Jb (λm i=>UF m (λt4=>k t4) (λ_=>k 0) (l++[s]) (l.length:Int) i) (λ_=>true) (k 4) (k 0) [] l fuel (BB (by omega)) (λm i hi=>?_) (λm=>?_)).trans ?_
 ·have e2:(l++[s]).getD i []=l.getD i []:=by simp[List.getD,hi,H5 hi]
  have hm:=C5 (d:=([]:List UInt8)) hi;simp only[AhR,aN];refine(Ai (by omega)).trans ?_;refine(Al (by rw[AR,Gp];omega)).trans ?_;refine(Al (by rw[AR,Gp];omega)).trans ?_;rw[AT,AT,e,e2,i64_in ((i:Int)+1) (by omega)];exact Ae λg=>hs (by rw[<-g];exact hm)
 ·simp only[AhR,aN]
  exact Ae (by omega)
 ·rw[Eh.2 λ_ _=>rfl];rfl
end
end
end Go.Lift
namespace Go.Lift
open Go.RowKit Go.IntWalk
noncomputable section
variable[Sl]
set_option maxRecDepth 10000
section
variable{β:Type}
theorem in_t{i:Int}{n:Nat}(h:0<=i/\i<(n:Int))(hn:n<=1000):inI i 0 (IntKind.i64.wrap ((n:Int)-1))=true:=by rw[i64_in _ (by omega)];exact D9 ⟨h.1,by omega⟩
theorem ACE{c:As}{x:Ed}(hn:c.2.1.length<=1000)(hx:EdF (c.2.1.length:Int) x)(k:Int->Option β):ZR c x k=k 0:=by
 have hk:=hx.k;have hf:=hx.f;have AGp:=hx.ft;have ht:=hx.t
 have p1:QX (λt4=>k t4) (λ_=>k 0) false x=k 0:=by unfold QX;rw[Ad];unfold rI;refine c_f.trans ?_;exact Ae (by omega)
 have p2:Uw (λt4=>k t4) (λ_=>k 0) false x=k 0:=by
  unfold Uw;rw[Ad];unfold rJ;refine c_f.trans ?_;refine(Ae (by omega)).trans ?_;refine(Ae (by omega)).trans ?_;refine(zN _).trans ?_
  have e:decide ((98980:Int)<IntKind.i64.wrap (Int.tdiv x.2.2.2.2 86400))=false:=by rw[GJ (by omega),i64_in _ (by omega)];exact AN (by omega)
  rw[e];exact p1
 have p3:Ux (λt4=>k t4) (λ_=>k 0) false x=k 0:=by
  unfold Ux;rw[Ad];unfold rK;refine c_f.trans ?_;by_cases h:x.1=2
  ·refine(Ai h).trans ?_
   rw[AN (hx.ab h)];exact p2
  ·exact(Ae h).trans p2
 have p4:Kh (λt4=>k t4) (λ_=>k 0) false x=k 0:=by
  unfold Kh;rw[Ad];unfold rL;refine c_f.trans ?_;by_cases h:x.1=2
  ·exact(BM h).trans p3
  ·refine(Fe h).trans ?_
   rw[At (hx.b0 h)];exact p3
 unfold ZR;rw[Ad];refine(f_in _ _ _ _).trans ?_;rw[D9 hk];refine c_f.trans ?_;refine(f_in _ _ _ _).trans ?_
 have rest:cond (decide (x.1=(2:Int))) (Gq x.2.2.1 (0:Int) (IntKind.i64.wrap ((List.length c.2.1:Int)-(1:Int))) (λJv=>Kh (λt4=>k t4) (λ_=>k (0:Int)) (!Jv) x)) (Kh (λt4=>k t4) (λ_=>k (0:Int)) false x)=k 0:=by
  by_cases h:x.1=2
  ·refine(Ai h).trans ?_
   refine(f_in _ _ _ _).trans ?_;rw[in_t (hx.b h) hn];exact p4
  ·exact(Ae h).trans p4
 rcases hx.a with ha|⟨h1,h2⟩
 ·rw[in_t ha hn]
  exact c_f.trans rest
 ·have e:inI x.2.1 0 (IntKind.i64.wrap ((c.2.1.length:Int)-1))=false:=by unfold inI;rw[AN (by omega)];rfl
  rw[e];refine c_t.trans ?_;refine(BM h1).trans ?_;refine(BM h2).trans ?_;exact rest
theorem ACF{c:As}{l:AU}(hz:c.1.length<=1000)(hp:c.2.1.length<=1000)(hc:c.2.2.1.length<=1000)(hl:LayF (c.1.length:Int) (c.2.1.length:Int) (c.2.2.1.length:Int) l)(hw:Es l.2.2.2.2.2.2.1=0)(k:Int->Option β):ZQ c l k=k 0:=by
 have hm:=hl.m;have hd:=hl.d
 have p2:Uu (λt4=>k t4) (λ_=>k 0) false l=k 0:=by
  unfold Uu;rw[Ad];unfold rF;refine c_f.trans ?_;by_cases h:l.2.2.2.2.2.2.2.2=0
  ·refine(Ai h).trans ?_
   have Pp:l.2.2.2.2.2.2.2.1=0:=by
    rcases hl.c with g|g
    ·exact g.2
    ·have:=g.1.1;omega
   exact BM Pp
  ·exact Ae h
 have p3:OM (λt4=>k t4) c l=k 0:=by
  unfold OM;rw[Ad];unfold rG rE;rw[Ad];refine(Jb (λm i=>Ut m (λt4=>k t4) _ i c l) (λ_=>true) (k 3) (k 0) 0 l.2.2.2.2.2.1 fuel (BB (by omega)) (λm i hi=>?_) (λm=>?_)).trans ?_
  ·have hx:=hl.ms _ (C5 (d:=(0:Int)) hi)
   simp only[AgT,ZP];refine(Ai (by omega)).trans ?_;refine(Al (by omega)).trans ?_;refine(f_in _ _ _ _).trans ?_;rw[AT,in_t hx hp,i64_in ((i:Int)+1) (by omega)];rfl
  ·simp only[AgT,ZP]
   refine(Ae (by omega)).trans ?_;refine(AlN _ _).trans ?_;rw[hw];refine(BM rfl).trans ?_;refine(f_in _ _ _ _).trans ?_
   have AGM:0<=l.2.2.2.2.2.2.2.2/\l.2.2.2.2.2.2.2.2<=2:=by
    rcases hl.c with g|g
    ·have:=g.1;omega
    ·omega
   rw[D9 AGM];refine c_f.trans ?_;by_cases h:l.2.2.2.2.2.2.2.2=0
   ·exact(BM h).trans p2
   ·refine(Fe h).trans ?_
    refine(f_in _ _ _ _).trans ?_
    have Pp:0<=l.2.2.2.2.2.2.2.1/\l.2.2.2.2.2.2.2.1<(c.2.2.1.length:Int):=by
     rcases hl.c with g|g
     ·exact absurd g.1 h
     ·exact g.2
    rw[in_t Pp hc];exact p2
  ·rw[Eh.2 λ_ _=>rfl];rfl
 unfold ZQ;rw[Ad];refine(f_in _ _ _ _).trans ?_;rw[in_t hl.z hz];refine c_f.trans ?_;refine(zN _).trans ?_;refine(f_in _ _ _ _).trans ?_;rw[D9 (show 1<=l.2.2.1.1/\l.2.2.1.1<=98980 by omega)];refine c_f.trans ?_;refine(f_in _ _ _ _).trans ?_;rw[D9 hl.s];refine c_f.trans ?_;refine(f_in _ _ _ _).trans ?_;rw[D9 hl.u];refine c_f.trans ?_;refine(f_in _ _ _ _).trans ?_;rw[D9 hl.e];unfold QW;rw[Ad];unfold rH;refine c_f.trans ?_;refine(Ae (by omega)).trans ?_;refine(Ae (by omega)).trans ?_;exact p3
end
end
end Go.Lift
namespace Go.Lift
open Go.RowKit Go.IntWalk
noncomputable section
variable[Sl]
set_option maxRecDepth 10000
theorem ACG{nz np nc:Int}{l:AU}(h:Et nz np nc l=0):Es l.2.2.2.2.2.2.1=0:=by unfold Et at h;obtain⟨_,h⟩:=cz h;unfold l2V at h;obtain⟨_,h⟩:=cz h;obtain⟨_,h⟩:=cz h;obtain⟨_,h⟩:=cz h;obtain⟨_,h⟩:=cz h;obtain⟨h6,h⟩:=cz h;exact dt (nt h6)
theorem ACH{nz:Int}{p:Bb}(h:HC nz p=0):Es p.2.2.1=0:=by unfold HC at h;obtain⟨_,h⟩:=cz h;obtain⟨h2,h⟩:=cz h;exact dt (nt h2)
theorem R2{α γ:Type}(f:α->γ){xs:List α}{i:Nat}(hi:i<xs.length)(d:α):(xs.take i).map f++[f (xs.getD i d)]=(xs.take (i+1)).map f:=by rw[Nu d hi,KC];rfl
theorem Wc{α γ:Type}{f:α->γ}{xs:List α}(h:(xs.map f).Nodup){i:Nat}(hi:i<xs.length)(d:α):f (xs.getD i d)∉(xs.take i).map f:=by
 intro g;have e:(xs.take (i+1)).map f=(xs.take i).map f++[f (xs.getD i d)]:=(R2 f hi d).symm
 have h2:((xs.take (i+1)).map f).Nodup:=by rw[List.map_take];exact h.sublist (List.take_sublist _ _)
 rw[e,Sz]at h2;exact h2.2.2 _ g _ (EO.2 rfl) rfl
section
variable{β:Type}
theorem ACI{c:As}(hz:c.1.length<=1000)(hp:c.2.1.length<=1000)(hv:∀p∈c.2.1,HC (c.1.length:Int) p=0/\Cy p.1=true)(hn:(c.2.1.map (·.1)).Nodup)(F9:GS∉c.2.1.map (·.1))(k:Int->Option β):bG c k=k 0:=by
 unfold bG;rw[Ad];unfold tK;rw[Ad]
 have key:∀(j i m:Nat),i+j=c.2.1.length->j<m->UQ m (λt2=>k t2) (λ_=>k 0) (i:Int) c ((c.2.1.take i).map (·.1))=k 0:=by
  intro j
  induction j with
  |zero=>intro i m hi hm;obtain⟨m,rfl⟩:∃m',m=m'+1:=⟨m-1,by omega⟩;simp only[Aif,bF];exact Ae (by omega)
  |succ j ih=>
   intro i m hi hm;obtain⟨m,rfl⟩:∃m',m=m'+1:=⟨m-1,by omega⟩;have Au:i<c.2.1.length:=by omega
   have Ds:=C5 (d:=(([],0,[],0,0,false):Bb)) Au;have h1:=hv _ Ds;have h2:=AlK h1.1;have GV:((c.2.1.take i).map (·.1)).length=i:=by rw[DK,Hd];omega
   have Kw:=Wc hn Au (([],0,[],0,0,false):Bb);have M5:=R2 (λx:Bb=>x.1) Au (([],0,[],0,0,false):Bb);have AGQ:(c.2.1.getD i ([],0,[],0,0,false)).1≠GS:=λg=>F9 (by rw[<-g];exact Qi Ds);simp only[Aif,bF];refine(Ai (by omega)).trans ?_;refine(Al (by omega)).trans ?_;rw[AT];refine(Er (show(((c.2.1.take i).map (·.1)).length+1)*16<=_ by omega)).trans ?_;refine(Ae AGQ).trans ?_;have EW:=Wb (l:=(c.2.1.take i).map (·.1)) (by omega) h1.2 Kw (β:=β);rw[GV]at EW;refine(EW _).trans ?_;refine(BM rfl).trans ?_;refine(f_in _ _ _ _).trans ?_;rw[in_t h2.z hz];refine c_f.trans ?_;refine(AlN _ _).trans ?_;rw[ACH h1.1];refine(BM rfl).trans ?_;refine(AlL _ _).trans ?_
   have hw:I0 (c.2.1.getD i ([],0,[],0,0,false)).2.2.2.1=true:=by unfold I0;rw[D9 h2.w.1,At h2.w.2];rfl
   have hr:I0 (c.2.1.getD i ([],0,[],0,0,false)).2.2.2.2.1=true:=by unfold I0;rw[D9 h2.r.1,At h2.r.2];rfl
   rw[hw];refine c_f.trans ?_;refine(AlL _ _).trans ?_;rw[hr];refine c_f.trans ?_;rw[i64_in ((i:Int)+1) (by omega),show(i:Int)+1=((i+1:Nat):Int) by omega,M5];exact ih (i+1) m (by omega) (by omega)
 exact key c.2.1.length 0 fuel (by omega) (BB (by omega))
end
end
end Go.Lift
namespace Go.Lift
open Go.RowKit Go.IntWalk
noncomputable section
variable[Sl]
set_option maxRecDepth 10000
section
variable{β:Type}
abbrev lay0:AU:=([],0,(0,0),0,0,[],[],0,0)
theorem ACJ{k1:tU β}{k2:tV β}{i_:Int}{c:As}{l:List (List UInt8)}{s:By}(hz:c.1.length<=1000)(hp:c.2.1.length<=1000)(hc:c.2.2.1.length<=1000)(hs:s.2.1.length<=100)(hv:∀y∈s.2.1,Et (c.1.length:Int) (c.2.1.length:Int) (c.2.2.1.length:Int) y=0/\Cy y.1=true)(hn:(s.2.1.map (·.1)).Nodup):bS k1 k2 i_ 0 c l s []=k2 i_ c l s:=by
 unfold bS;rw[Ad]
 have key:∀(j i m:Nat),i+j=s.2.1.length->j<m->UU m k1 k2 i_ (i:Int) c l s ((s.2.1.take i).map (·.1))=k2 i_ c l s:=by
  intro j
  induction j with
  |zero=>intro i m hi hm;obtain⟨m,rfl⟩:∃m',m=m'+1:=⟨m-1,by omega⟩;simp only[Air,bR];exact Ae (by omega)
  |succ j ih=>
   intro i m hi hm;obtain⟨m,rfl⟩:∃m',m=m'+1:=⟨m-1,by omega⟩;have Au:i<s.2.1.length:=by omega
   have h1:=hv _ (C5 (d:=lay0) Au);have GV:((s.2.1.take i).map (·.1)).length=i:=by rw[DK,Hd];omega
   have Kw:=Wc hn Au lay0;have M5:=R2 (λx:AU=>x.1) Au lay0;simp only[Air,bR];refine(Ai (by omega)).trans ?_;refine(Al (by omega)).trans ?_;rw[AT];refine(Er (show(((s.2.1.take i).map (·.1)).length+1)*16<=_ by omega)).trans ?_;have EW:=Wb (l:=(s.2.1.take i).map (·.1)) (by omega) h1.2 Kw (β:=β);rw[GV]at EW;refine(EW _).trans ?_;refine(BM rfl).trans ?_;refine(Al (by omega)).trans ?_;refine(ACF hz hp hc (AlH h1.1) (ACG h1.1) _).trans ?_;refine(BM rfl).trans ?_;rw[i64_in ((i:Int)+1) (by omega),show(i:Int)+1=((i+1:Nat):Int) by omega,M5];exact ih (i+1) m (by omega) (by omega)
 exact key s.2.1.length 0 fuel (by omega) (BB (by omega))
theorem ACK{k1:tX β}{k2:tY β}{i_:Int}{c:As}{l:List (List UInt8)}{s:By}(hp:c.2.1.length<=1000)(hs:s.2.2.length<=100)(hv:∀x∈s.2.2,EdF (c.2.1.length:Int) x):bU k1 k2 i_ 0 c l s=k2 i_ c l:=by
 unfold bU;rw[Ad];refine(Jb (λm i=>UV m k1 k2 i_ i c l s) (λ_=>true) (k2 i_ c l) (k2 i_ c l) (0,0,0,0,0) s.2.2 fuel (BB (by omega)) (λm i hi=>?_) (λm=>?_)).trans ?_
 ·simp only[Ais,bT]
  refine(Ai (by omega)).trans ?_;refine(Al (by omega)).trans ?_;rw[AT];refine(ACE hp (hv _ (C5 hi)) _).trans ?_;refine(BM rfl).trans ?_;rw[i64_in ((i:Int)+1) (by omega)];rfl
 ·simp only[Ais,bT]
  exact Ae (by omega)
 ·rw[Eh.2 λ_ _=>rfl];rfl
structure SchR (nz np nc:Int) (s:By):Prop where
 l:s.2.1.length<=6
 e:s.2.2.length<=48
 ls:∀y∈s.2.1,Et nz np nc y=0/\Cy y.1=true
 es:∀x∈s.2.2,EdF np x
 n:Cy s.1=true
 nd:(s.2.1.map (·.1)).Nodup
theorem ACL{c:As}(hz:c.1.length<=1000)(hp:c.2.1.length<=1000)(hc:c.2.2.1.length<=1000)(hs:c.2.2.2.length<=1000)(hv:∀s∈c.2.2.2,SchR (c.1.length:Int) (c.2.1.length:Int) (c.2.2.1.length:Int) s)(hn:(c.2.2.2.map (·.1)).Nodup)(k:Int->Option β):bW c k=k 0:=by
 unfold bW;rw[Ad];unfold u6;rw[Ad]
 have key:∀(j i m:Nat),i+j=c.2.2.2.length->j<m->UW m (λt2=>k t2) (λ_=>k 0) (i:Int) c ((c.2.2.2.take i).map (·.1))=k 0:=by
  intro j
  induction j with
  |zero=>intro i m hi hm;obtain⟨m,rfl⟩:∃m',m=m'+1:=⟨m-1,by omega⟩;simp only[Ait,bV];exact Ae (by omega)
  |succ j ih=>
   intro i m hi hm;obtain⟨m,rfl⟩:∃m',m=m'+1:=⟨m-1,by omega⟩;have Au:i<c.2.2.2.length:=by omega
   have h1:=hv _ (C5 (d:=(([],[],[]):By)) Au);have g1:=h1.l;have g2:=h1.e;have GV:((c.2.2.2.take i).map (·.1)).length=i:=by rw[DK,Hd];omega
   have Kw:=Wc hn Au (([],[],[]):By);have M5:=R2 (λx:By=>x.1) Au (([],[],[]):By);simp only[Ait,bV];refine(Ai (by omega)).trans ?_;refine(Al (by omega)).trans ?_;rw[AT];refine(Er (show(((c.2.2.2.take i).map (·.1)).length+1)*16<=_ by omega)).trans ?_;have EW:=Wb (l:=(c.2.2.2.take i).map (·.1)) (by omega) h1.n Kw (β:=β);rw[GV]at EW;refine(EW _).trans ?_;refine(BM rfl).trans ?_;refine(Ae (by omega)).trans ?_;refine(Ae (by omega)).trans ?_;refine(ACJ hz hp hc (by omega) h1.ls h1.nd).trans ?_;refine(ACK hp (by omega) h1.es).trans ?_;rw[i64_in ((i:Int)+1) (by omega),show(i:Int)+1=((i+1:Nat):Int) by omega,M5];exact ih (i+1) m (by omega) (by omega)
 exact key c.2.2.2.length 0 fuel (by omega) (BB (by omega))
end
end
end Go.Lift
namespace Go.Lift
open Go.RowKit Go.IntWalk
noncomputable section
variable[Sl]
set_option maxRecDepth 10000
theorem ACM{l:List Int}(h:errV (walk (ascG l) l 0 ())=0):∀i,0<i->i<l.length->l.getD (i-1) 0<l.getD i 0:=by
 have key:∀(r:List Int)(j:Nat),l.drop j=r->errV (walk (ascG l) r j ())=0->∀i,j<=i->0<i->i<l.length->l.getD (i-1) 0<l.getD i 0:=by
  intro r
  induction r with
  |nil=>intro j hd _ i h1 h2 h3;have:=Ax List.length hd;rw[IL,CX]at this;omega
  |cons x r ih=>
   intro j hd hw i h1 h2 h3
   have hj:j<l.length:=by have:=Ax List.length hd;rw[IL,AX]at this;omega
   have hx:l.getD j 0=x:=by have:=Ax (λy=>y.getD 0 0) hd;simpa [List.getD,hj]using this
   have Cv:l.drop (j+1)=r:=by rw[<-S1,hd];rfl
   unfold walk at hw;by_cases hc:(0:Int)<(j:Int)/\x<=l.getD (j-1) 0
   ·have e:ascG l j x ()=.inl 6:=by unfold ascG;rw[At hc.1,At hc.2];rfl
    rw[e]at hw;cases hw
   ·have e:ascG l j x ()=.inr ():=by
     unfold ascG
     rw[show(decide (0<(j:Int))&&decide (x<=l.getD (j-1) 0))=false by
      rw[Bool.and_eq_false_iff];by_cases g:(0:Int)<(j:Int)
      ·exact .inr (AN λg2=>hc ⟨g,g2⟩)
      ·exact .inl (AN g)]
     rfl
    rw[e]at hw;by_cases Dw:i=j
    ·subst Dw
     rw[hx];have:=λg2=>hc ⟨by omega,g2⟩;omega
    ·exact ih (j+1) Cv hw i (by omega) h2 h3
 intro i h1 h2;exact key l 0 rfl h i (by omega) h1 h2
theorem ACN{nz:Int}{x:Bh}(h:calV nz x=0):∀i,0<i->i<x.2.2.length->x.2.2.getD (i-1) 0<x.2.2.getD i 0:=by unfold calV at h;obtain⟨_,h⟩:=cz h;obtain⟨_,h⟩:=cz h;obtain⟨_,h⟩:=cz h;exact ACM h
section
variable{β:Type}
theorem ACO{k1:tM β}{k2:tN β}{i_:Int}{c:As}{l:List (List UInt8)}{x:Bh}(hl:x.2.2.length<=100)(hd:∀d∈x.2.2,0<=d/\d<98981):bK k1 k2 i_ 0 c l x=k2 i_ c l x:=by
 unfold bK;rw[Ad];refine(Jb (λm i=>UR m k1 k2 i_ i c l x) (λ_=>true) (k2 i_ c l x) (k2 i_ c l x) 0 x.2.2 fuel (BB (by omega)) (λm i hi=>?_) (λm=>?_)).trans ?_
 ·have h1:=hd _ (C5 (d:=(0:Int)) hi)
  simp only[Aik,bJ];refine(Ai (by omega)).trans ?_;refine(Al (by omega)).trans ?_;rw[AT];refine(zN _).trans ?_;refine(f_in _ _ _ _).trans ?_;rw[D9 (show 0<=x.2.2.getD i 0/\x.2.2.getD i 0<=98980 by omega),i64_in ((i:Int)+1) (by omega)];rfl
 ·simp only[Aik,bJ]
  exact Ae (by omega)
 ·rw[Eh.2 λ_ _=>rfl];rfl
theorem ACP{k1:tP β}{k2:tQ β}{i_:Int}{c:As}{l:List (List UInt8)}{x:Bh}(hl:x.2.2.length<=100)(hd:∀i,0<i->i<x.2.2.length->x.2.2.getD (i-1) 0<x.2.2.getD i 0):bM k1 k2 i_ 1 c l x=k2 i_ c l:=by
 unfold bM;rw[Ad]
 have key:∀(j i m:Nat),0<i->x.2.2.length<=i+j->j<m->US m k1 k2 i_ (i:Int) c l x=k2 i_ c l:=by
  intro j
  induction j with
  |zero=>intro i m h0 hi hm;obtain⟨m,rfl⟩:∃m',m=m'+1:=⟨m-1,by omega⟩;simp only[Ail,bL];exact Ae (by omega)
  |succ j ih=>
   intro i m h0 hi hm;obtain⟨m,rfl⟩:∃m',m=m'+1:=⟨m-1,by omega⟩;simp only[Ail,bL];by_cases Au:i<x.2.2.length
   ·have h1:=hd i h0 Au
    refine(Ai (by omega)).trans ?_;refine(Al (by omega)).trans ?_;rw[i64_in ((i:Int)-1) (by omega)];refine(Al (show 0<=(i:Int)-1/\(i:Int)-1<(x.2.2.length:Int) by omega)).trans ?_;rw[AT,show Int.toNat ((i:Int)-1)=i-1 by omega];refine(Ae (by omega)).trans ?_;rw[i64_in ((i:Int)+1) (by omega),show(i:Int)+1=((i+1:Nat):Int) by omega];exact ih (i+1) m (by omega) (by omega) (by omega)
   ·exact Ae (by omega)
 exact key x.2.2.length 1 fuel (by omega) (by omega) (BB (by omega))
theorem ACQ{c:As}(hz:c.1.length<=1000)(hc:c.2.2.1.length<=1000)(hv:∀x∈c.2.2.1,calV (c.1.length:Int) x=0/\Cy x.1=true)(hn:(c.2.2.1.map (·.1)).Nodup)(k:Int->Option β):bO c k=k 0:=by
 unfold bO;rw[Ad];unfold tS;rw[Ad]
 have key:∀(j i m:Nat),i+j=c.2.2.1.length->j<m->UT m (λt2=>k t2) (λ_=>k 0) (i:Int) c ((c.2.2.1.take i).map (·.1))=k 0:=by
  intro j
  induction j with
  |zero=>intro i m hi hm;obtain⟨m,rfl⟩:∃m',m=m'+1:=⟨m-1,by omega⟩;simp only[Aim,bN];exact Ae (by omega)
  |succ j ih=>
   intro i m hi hm;obtain⟨m,rfl⟩:∃m',m=m'+1:=⟨m-1,by omega⟩;have Au:i<c.2.2.1.length:=by omega
   have h1:=hv _ (C5 (d:=(([],0,[]):Bh)) Au);have h2:=gJ h1.1;have h3:=h2.l;have GV:((c.2.2.1.take i).map (·.1)).length=i:=by rw[DK,Hd];omega
   have Kw:=Wc hn Au (([],0,[]):Bh);have M5:=R2 (λx:Bh=>x.1) Au (([],0,[]):Bh);simp only[Aim,bN];refine(Ai (by omega)).trans ?_;refine(Al (by omega)).trans ?_;rw[AT];refine(Er (show(((c.2.2.1.take i).map (·.1)).length+1)*16<=_ by omega)).trans ?_;have EW:=Wb (l:=(c.2.2.1.take i).map (·.1)) (by omega) h1.2 Kw (β:=β);rw[GV]at EW;refine(EW _).trans ?_;refine(BM rfl).trans ?_;refine(f_in _ _ _ _).trans ?_;rw[in_t h2.z hz];refine c_f.trans ?_;refine(Ae (by omega)).trans ?_;refine(ACO (by omega) h2.d).trans ?_;refine(ACP (by omega) (ACN h1.1)).trans ?_;rw[i64_in ((i:Int)+1) (by omega),show(i:Int)+1=((i+1:Nat):Int) by omega,M5];exact ih (i+1) m (by omega) (by omega)
 exact key c.2.2.1.length 0 fuel (by omega) (BB (by omega))
end
end
end Go.Lift
namespace Go.Lift
open Go.RowKit Go.IntWalk
noncomputable section
variable[Sl]
set_option maxRecDepth 10000
section
variable{β:Type}
theorem ACR{r:BZ}(h:RuleOk r)(k:Bool->Option β):Zx r k=k true:=by have hf:=h.f;have ht:=h.t;have hd:=h.d;unfold Zx;rw[Ad];refine(Lh _ _ _ _).trans ?_;rw[D9 hf];refine c_t.trans ?_;refine(Lh _ _ _ _).trans ?_;rw[D9 ht];refine c_t.trans ?_;refine(Lh _ _ _ _).trans ?_;rw[D9 h.m];refine c_t.trans ?_;refine(Lh _ _ _ _).trans ?_;rw[D9 h.w];refine c_t.trans ?_;refine(Lh _ _ _ _).trans ?_;rw[D9 hd];refine c_t.trans ?_;refine(Lh _ _ _ _).trans ?_;rw[D9 h.s];refine c_t.trans ?_;refine(Lh _ _ _ _).trans ?_;rw[D9 h.o]
theorem ACS{z:AK}(h:ZoneOk z){k1:vR β}{k2:vS β}:dB k1 k2 z.2.1 0 [] (occS z)=sumK (λe=>k1 e []) (λs=>k2 s.2) (HE z):=by
 have Bp:(occS z).length<=12:=by rw[(VS h).1.length_eq];exact h.n
 unfold dB;rw[Ad]
 refine yX TrI (λm i(s:TrS)=>Vp m k1 k2 s.1 i s.2 (occS z)) Ho (λe=>k1 e []) (λs=>k2 s.2) (0,0) (occS z)
  (λi s s' hi hs hg=>?_) (λm i s hi hs=>?_) (λm s=>?_) (occS z) 0 fuel (z.2.1,[]) rfl (by simp) (BB (by omega)) ⟨h.o,AQ _,λx hx=>absurd hx DQ⟩
 ·have ho:=fW h (C5 (d:=((0,0):Int×Int)) hi)
  obtain⟨h1,h2,h3⟩:=hs;generalize(occS z).getD i (0,0)=o at ho hg;unfold Ho at hg;by_cases e:o.2=s.1
  ·rw[At e]at hg
   injection hg with hg;subst hg;exact⟨h1,by omega,h3⟩
  ·rw[AN e]at hg
   cases hc:(decide (86400<=o.2-s.1)||(decide (o.2-s.1≤-86400)||((!inI (o.1-s.1) 0 8589934592)||(decide (0<(s.2.length:Int))&&decide (o.1-s.1<(s.2.getD (s.2.length-1) (0,0)).1+604800)))))with
   |true=>rw[hc]at hg;cases hg
   |false=>
    rw[hc]at hg;injection hg with hg;subst hg;simp only[MJ,Bool.not_eq_false']at hc;have CV:=hc.2.2.1;unfold inI at CV;rw[CE,Im,Im]at CV;refine⟨ho.2,by simp;omega,λx hx=>?_⟩;rcases Cs.1 hx with hx|hx
    ·exact h3 x hx
    ·rw[EO.1 hx]
     exact CV
 ·have ho:=fW h (C5 (d:=((0,0):Int×Int)) hi)
  obtain⟨h1,h2,h3⟩:=hs;have fin:∀g:Option β,cond (decide (0<=(i:Int))&&decide ((i:Int)<((occS z).length:Int))) g none=g:=λg=>Al (by omega);simp only[Ajj,dA,AT,fin];refine(Ai (by omega)).trans ?_;unfold Ho;rw[i64_in ((i:Int)+1) (by omega)];by_cases e:((occS z).getD i (0,0)).2=s.1
  ·refine(Ai e).trans ?_
   rw[At e];rfl
  refine(Ae e).trans ?_;rw[AN e];have e1:=i64_in (((occS z).getD i (0,0)).2-s.1) (by omega);have e2:=i64_in (((occS z).getD i (0,0)).1-s.1) (by omega);simp only[e1,e2];refine(Lh _ _ _ _).trans ?_;by_cases a1:86400<=((occS z).getD i (0,0)).2-s.1
  ·rw[At a1]
   have:inI (((occS z).getD i (0,0)).2-s.1) (-86399) 86399=false:=by unfold inI;rw[AN (show ¬((occS z).getD i (0,0)).2-s.1<=86399 by omega),Bool.and_false]
   rw[this];rfl
  rw[AN a1];by_cases a2:((occS z).getD i (0,0)).2-s.1≤-86400
  ·rw[At a2]
   have:inI (((occS z).getD i (0,0)).2-s.1) (-86399) 86399=false:=by unfold inI;rw[AN (show ¬(-86399<=((occS z).getD i (0,0)).2-s.1) by omega)];rfl
   rw[this];rfl
  rw[AN a2,D9 (show-86399<=((occS z).getD i (0,0)).2-s.1/\((occS z).getD i (0,0)).2-s.1<=86399 by omega)];refine c_f.trans ?_;refine(Lh _ _ _ _).trans ?_;cases CV:inI (((occS z).getD i (0,0)).1-s.1) 0 8589934592 with
  |false=>rfl
  |true=>
   refine c_f.trans ?_;have hb:=Ny CV;by_cases a3:(0:Int)<(s.2.length:Int)
   ·refine(Ai a3).trans ?_
    rw[i64_in ((s.2.length:Int)-1) (by omega)];refine(Al (by omega)).trans ?_;rw[show Int.toNat ((s.2.length:Int)-1)=s.2.length-1 by omega];have h4:=h3 _ (C5 (d:=((0,0):Int×Int)) (show s.2.length-1<s.2.length by omega));rw[i64_in _ (by omega),At a3];by_cases a4:((occS z).getD i (0,0)).1-s.1<(s.2.getD (s.2.length-1) (0,0)).1+604800
    ·refine(Ai (by omega)).trans ?_
     rw[At a4];rfl
    ·refine(Ae (by omega)).trans ?_
     rw[AN a4];exact Er (show(s.2.length+1)*16<=_ by omega)
   ·refine(Ae a3).trans ?_
    rw[AN a3];exact Er (show(s.2.length+1)*16<=_ by omega)
 ·simp only[Ajj,dA]
  exact Ae (by omega)
end
end
end Go.Lift
namespace Go.Lift
open Go.RowKit Go.IntWalk
noncomputable section
variable[Sl]
set_option maxRecDepth 10000
section
variable{β:Type}
theorem ACT{y:Int}(hy:0<=y)(k:Bool->Option β):Ub y k=k (decide (Be y)):=by
 have e1:Int.tmod y 4=y%4:=FD hy;have e2:Int.tmod y 100=y%100:=FD hy;have e3:Int.tmod y 400=y%400:=FD hy;unfold Ub;rw[Ad];rw[e1,e2,e3];by_cases h1:y%4=0
 ·refine(Ai h1).trans ?_
  by_cases h2:y%100=0
  ·refine(BM h2).trans ?_
   exact k_eq (decide_eq_decide.2 ⟨λh=>⟨h1,.inr h⟩,λh=>by rcases h.2 with h|h;exact absurd h2 h;exact h⟩)
  ·refine(Fe h2).trans ?_
   exact k_eq (At (p:=Be y) ⟨h1,.inl h2⟩).symm
 ·refine(Ae h1).trans ?_
  exact k_eq (AN (p:=Be y) λh=>h1 h.1).symm
end
theorem ACU[S:Sl]{β:Type}(y:Int)(k:Int->Option β):Hm y 2 k=Ub y λr=>cond r (k 29) (k 28):=by rcases S with⟨_|_⟩<;>kernel_rfl
theorem ACV[S:Sl]{β:Type}(y:Int)(k:Int->Option β):Hm y 1 k=k 31/\Hm y 3 k=k 31/\Hm y 4 k=k 30/\Hm y 5 k=k 31/\Hm y 6 k=k 30/\Hm y 7 k=k 31/\Hm y 8 k=k 31/\Hm y 9 k=k 30/\Hm y 10 k=k 31/\Hm y 11 k=k 30/\Hm y 12 k=k 31:=by rcases S with⟨_|_⟩<;>refine⟨?_,?_,?_,?_,?_,?_,?_,?_,?_,?_,?_⟩<;>kernel_rfl
section
variable{β:Type}
theorem gK{y m:Int}(hy:0<=y)(hm:1<=m/\m<=12)(k:Int->Option β):Hm y m k=k (Cf (Be y) m):=by
 obtain⟨d1,d3,d4,d5,d6,d7,d8,d9,d10,d11,d12⟩:=ACV y k;have hm:m=1\/m=2\/m=3\/m=4\/m=5\/m=6\/m=7\/m=8\/m=9\/m=10\/m=11\/m=12:=by omega
 rcases hm with rfl|rfl|rfl|rfl|rfl|rfl|rfl|rfl|rfl|rfl|rfl|rfl
 ·exact d1
 ·refine(ACU y k).trans ((ACT hy _).trans ?_)
  by_cases h:Be y
  ·rw[At h]
   refine k_eq (x:=(29:Int)) (y:=Cf (Be y) 2) ?_;unfold Cf;simp[h]
  ·rw[AN h]
   refine k_eq (x:=(28:Int)) (y:=Cf (Be y) 2) ?_;unfold Cf;simp[h]
 ·exact d3
 ·exact d4
 ·exact d5
 ·exact d6
 ·exact d7
 ·exact d8
 ·exact d9
 ·exact d10
 ·exact d11
 ·exact d12
theorem ACW{y:Int}(hy:1970<=y/\y<=2241)(k:Int->Option β):TZ y k=k (cntN y):=by
 unfold TZ;rw[Ad];simp only
 rw[i64_in (y-1970) (by omega),i64_in ((y-1970)*365) (by omega),i64_in (y-1969) (by omega),i64_in (y-1901) (by omega),i64_in (y-1601) (by omega),
  GJ (by omega:0<=y-1969),GJ (by omega:0<=y-1901),GJ (by omega:0<=y-1601)]
 rw[i64_in ((y-1969) / 4) (by omega),i64_in ((y-1901) / 100) (by omega),i64_in ((y-1601) / 400) (by omega)];rw[i64_in ((y-1970)*365+(y-1969) / 4) (by omega),i64_in ((y-1970)*365+(y-1969) / 4-(y-1901) / 100) (by omega),i64_in _ (by omega)];exact k_eq (by unfold cntN;omega)
theorem ACX{y:Int}(hy:0<=y)(M d3:Int):∀(j f n:Nat)(s:Int),(n:Int)+1+j=M->M<=12->j<f->0<=s+1000->s+31*(j:Int)<=1000000->∀{β:Type}(k1:sS β),UI f k1 s ((n:Int)+1) (y,(M,d3))=k1 (s+(sumM (Be y) (n+j)-sumM (Be y) n)) (y,(M,d3)):=by
 intro j
 induction j with
 |zero=>intro f n s hn hM hf h0 h1 β k1;obtain⟨f,rfl⟩:∃f',f=f'+1:=⟨f-1,by omega⟩;simp only[AhZ,aU];refine(Ae (by omega)).trans ?_;rw[show s+(sumM (Be y) (n+0)-sumM (Be y) n)=s by simp]
 |succ j ih=>intro f n s hn hM hf h0 h1 β k1;obtain⟨f,rfl⟩:∃f',f=f'+1:=⟨f-1,by omega⟩;have hd:=VN (Be y) ((n:Int)+1);simp only[AhZ,aU];refine(Ai (by omega)).trans ?_;refine(gK hy (by omega) _).trans ?_;rw[i64_in (s+Cf (Be y) ((n:Int)+1)) (by omega),i64_in ((n:Int)+1+1) (by omega)];have:=ih f (n+1) (s+Cf (Be y) ((n:Int)+1)) (by omega) hM (by omega) (by omega) (by omega) k1;rw[show((n+1:Nat):Int)=(n:Int)+1 by omega]at this;refine this.trans ?_;have hs:sumM (Be y) (n+1)=sumM (Be y) n+Cf (Be y) ((n:Int)+1):=rfl;rw[show n+1+j=n+(j+1) by omega,show s+Cf (Be y) ((n:Int)+1)+(sumM (Be y) (n+(j+1))-sumM (Be y) (n+1))=s+(sumM (Be y) (n+(j+1))-sumM (Be y) n) by omega]
theorem ACY{y m:Int}(hy:1970<=y/\y<=2240)(hm:1<=m/\m<=12)(k:Int->Int->Option β):aV (y,(m,1)) k=k (Cn y m) 0:=by
 have hl:=VR (Be y) hm;have hb:=Pa (Be y) (m-1).toNat;have NJ:sumM (Be y) 0=0:=rfl;have h0:0<=cntN y/\cntN y<=99000:=by unfold cntN;omega
 unfold aV;rw[Ad];unfold s7;rw[Ad];refine(Ai hy.1).trans ?_;refine(Ai hy.2).trans ?_;refine(Ai hm.1).trans ?_;refine(Ai hm.2).trans ?_;refine(Ai (by show(1:Int)<=1;omega)).trans ?_;refine(gK (by show 0<=y;omega) hm _).trans ?_;refine(BM (show(1:Int)<=Cf (Be y) m by omega)).trans ?_;refine(ACW (by omega) _).trans ?_;unfold sU;rw[Ad];refine(ACX (y:=y) (by omega) m 1 (m-1).toNat fuel 0 (cntN y) (by omega) (by omega) (BB (by omega)) (by omega) (by omega) _).trans ?_;simp only;rw[Ei,NJ,i64_in (cntN y+(sumM (Be y) (m-1).toNat-0)+1) (by omega),i64_in (cntN y+(sumM (Be y) (m-1).toNat-0)+1-1) (by omega)];refine Ax (λa=>k a 0) ?_;unfold Cn;omega
theorem AlO{d:Int}(hd:0<=d/\d<=1000000)(k:Int->Option β):Z0 d k=k ((d+3)%7):=by unfold Z0;rw[Ad];have e1:Int.tmod d 7=d%7:=FD hd.1;simp only;rw[e1,i64_in (d%7+10) (by omega),FD (by omega:0<=d%7+10)];exact k_eq (by omega)
theorem ACZ{y m w wd N:Int}(hN:0<=N/\N<=200000)(hd:0<=wd/\wd<=6){k1:uJ β}:∀(j f:Nat)(day:Int),day+(j:Int)=N+(wd-(N+3)%7+7)%7->N<=day->j<f->Vc f k1 y m w wd N day=k1 y m w N (N+(wd-(N+3)%7+7)%7):=by
 intro j
 induction j with
 |zero=>intro f day h1 h2 hf;obtain⟨f,rfl⟩:∃f',f=f'+1:=⟨f-1,by omega⟩;simp only[AiI,cA];refine(AlO (by omega) _).trans ?_;refine(BM (by omega)).trans ?_;rw[show day=N+(wd-(N+3)%7+7)%7 by omega]
 |succ j ih=>intro f day h1 h2 hf;obtain⟨f,rfl⟩:∃f',f=f'+1:=⟨f-1,by omega⟩;simp only[AiI,cA];refine(AlO (by omega) _).trans ?_;refine(Fe (by omega)).trans ?_;rw[i64_in (day+1) (by omega)];exact ih f (day+1) (by omega) (by omega) (by omega)
theorem AlP{y m N:Int}(hy:0<=y)(hm:1<=m/\m<=12)(hN:0<=N/\N<=200000){k1:uL β}{e:Int}(he:e<N+Cf (Be y) m/\N+Cf (Be y) m<=e+7):∀(j f:Nat)(day:Int),day+7*(j:Int)=e->N<=day->j<f->Vd f k1 y m N day=k1 e:=by
 have hl:=VR (Be y) hm;intro j
 induction j with
 |zero=>intro f day h1 h2 hf;obtain⟨f,rfl⟩:∃f',f=f'+1:=⟨f-1,by omega⟩;simp only[AiJ,cB];refine(gK hy hm _).trans ?_;rw[i64_in (day+7) (by omega),i64_in (N+Cf (Be y) m) (by omega)];refine(Ae (by omega)).trans ?_;rw[show day=e by omega]
 |succ j ih=>intro f day h1 h2 hf;obtain⟨f,rfl⟩:∃f',f=f'+1:=⟨f-1,by omega⟩;simp only[AiJ,cB];refine(gK hy hm _).trans ?_;rw[i64_in (day+7) (by omega),i64_in (N+Cf (Be y) m) (by omega)];refine(Ai (by omega)).trans ?_;exact ih f (day+7) (by omega) (by omega) (by omega)
theorem AD0{y m w wd:Int}(hy:1970<=y/\y<=2240)(hm:1<=m/\m<=12)(hw:1<=w/\w<=5)(hd:0<=wd/\wd<=6)(k:Int->Int->Option β):cC y m w wd k=k (nthD y m w wd) 0:=by
 have hl:=VR (Be y) hm;have hn:=Ald hy hm;unfold cC;rw[Ad];refine(ACY hy hm _).trans ?_;refine(BM rfl).trans ?_;refine(Ae (by omega)).trans ?_;refine(Ae (by omega)).trans ?_;refine(Ae (by omega)).trans ?_;refine(Ae (by omega)).trans ?_;generalize hN:Cn y m=N at hn;unfold uN;rw[Ad];have hx:0<=(wd-(N+3)%7+7)%7/\(wd-(N+3)%7+7)%7<=6:=by omega
 refine(ACZ hn hd ((wd-(N+3)%7+7)%7).toNat fuel N (by omega) (by omega) (BB (by omega))).trans ?_;unfold nthD;simp only;rw[hN];generalize(wd-(N+3)%7+7)%7=o at hx;by_cases h5:w<5
 ·refine(Ai h5).trans ?_
  rw[i64_in (w-1) (by omega),i64_in (7*(w-1)) (by omega),i64_in _ (by omega),if_neg (by omega)]
 ·refine(Ae h5).trans ?_
  have AHz:w=5:=by omega
  subst AHz;unfold uO;rw[Ad];by_cases h:N+Cf (Be y) m<=N+o+7*(5-1)
  ·rw[if_pos h]
   exact AlP (by omega) hm hn (e:=N+o+7*(5-1)-7) (by omega) 3 fuel (N+o) (by omega) (by omega) (BB (by omega))
  ·rw[if_neg h]
   exact AlP (by omega) hm hn (e:=N+o+7*(5-1)) (by omega) 4 fuel (N+o) (by omega) (by omega) (BB (by omega))
end
end
end Go.Lift
namespace Go.Lift
open Go.RowKit Go.IntWalk
noncomputable section
variable[Sl]
set_option maxRecDepth 10000
abbrev Oc:=Int×Int
def posN(out:List Oc)(x:Oc):Nat->Nat
 |0=>0
 |k+1=>if x.1<(out.getD k (0,0)).1 then posN out x k else k+1
theorem zO(out:List Oc)(x:Oc):∀k,posN out x k<=k
 |0=>AQ _
 |k+1=>by
  unfold posN;split
  ·exact Nat.le_succ_of_le (zO out x k)
  ·exact AQ _
def insO(out:List Oc)(x:Oc):List Oc:=out.take (posN out x out.length)++x::out.drop (posN out x out.length)
theorem AlQ(out:List Oc)(x:Oc):(insO out x).Perm (x::out):=by
 unfold insO;have:=List.perm_middle (a:=x) (l₁:=out.take (posN out x out.length)) (l₂:=out.drop (posN out x out.length))
 rwa [L8]at this
theorem AlR(out:List Oc)(x:Oc):∀k j,posN out x k<=j->j<k->x.1<(out.getD j (0,0)).1
 |0,j,_,h=>absurd h (MN _)
 |k+1,j,h1,h2=>by
  unfold posN at h1;split at h1
  ·rename_i hx
   by_cases e:j=k
   ·rw[e];exact hx
   ·exact AlR out x k j h1 (by omega)
  ·omega
theorem AlS(out:List Oc)(x:Oc):∀k,0<posN out x k->(out.getD (posN out x k-1) (0,0)).1<=x.1
 |0,h=>absurd h (Nat.lt_irrefl _)
 |k+1,h=>by
  unfold posN at h⊢;split
  ·rename_i hx
   rw[if_pos hx]at h;exact AlS out x k h
  ·rename_i hx
   rw[Nat.add_sub_cancel];omega
abbrev gL(l:List Oc):Prop:=l.Pairwise λa b=>a.1<=b.1
theorem AD1{out:List Oc}(x:Oc)(h:gL out):gL (insO out x):=by
 unfold insO;have hp:=zO out x out.length;have Pv:=AlR out x out.length;have GH:=AlS out x out.length;generalize posN out x out.length=p at hp Pv GH;have hg:∀{i:Nat}(hi:i<out.length),out.getD i (0,0)=out[i]:=λhi=>by simp[List.getD,hi]
 have h1:∀a∈out.take p,a.1<=x.1:=λa ha=>by
  obtain⟨i,hi,rfl⟩:=List.mem_iff_getElem.1 ha;have Lp:i<p:=by simp at hi;omega
  rw[List.getElem_take];have:=GH (by omega);rw[hg (by omega)]at this;by_cases e:i=p-1
  ·subst e;exact this
  ·have:=(XK.1 h) i (p-1) (by omega) (by omega) (by omega)
   omega
 have h2:∀b∈out.drop p,x.1<=b.1:=λb hb=>by
  obtain⟨i,hi,rfl⟩:=List.mem_iff_getElem.1 hb;have Lp:p+i<out.length:=by simp at hi;omega
  rw[List.getElem_drop];have:=Pv (p+i) (by omega) Lp;rw[hg Lp]at this;omega
 refine H6.2 ⟨h.sublist (List.take_sublist _ _),H7.2 ⟨h2,h.sublist (List.drop_sublist _ _)⟩,λa ha b hb=>?_⟩;have ha:=h1 a ha;rcases Bw.1 hb with rfl|hb
 ·exact ha
 ·have:=h2 b hb
  omega
theorem zP:∀(l out:List Oc),gL out->gL (l.foldl insO out)/\(l.foldl insO out).Perm (l++out)
 |[],out,h=>⟨h,.refl _⟩
 |x::l,out,h=>by obtain⟨h1,h2⟩:=zP l (insO out x) (AD1 x h);refine⟨h1,h2.trans ?_⟩;exact((AlQ out x).append_left l).trans List.perm_middle
theorem AD2{α:Type}(out:List α)(x:α)(k:Nat)(hk:k<=out.length):(List.take (k+1) (out++[x])++(List.take ((out++[x]).length-(k+1)) (List.drop k (List.take (out++[x]).length (out++[x])))++List.drop (k+1+Nat.min (List.drop k (List.take (out++[x]).length (out++[x]))).length ((out++[x]).length-(k+1))) (out++[x]))).set k x=out.take k++x::out.drop k:=by
 have hl:(out++[x]).length=out.length+1:=by simp
 rw[KA,hl];have e1:List.drop k (out++[x])=List.drop k out++[x]:=Qc hk
 have e2:List.take (out.length+1-(k+1)) (List.drop k out++[x])=List.drop k out:=by rw[L7 (by simp)];exact Hb (by simp)
 have e3:Nat.min (List.drop k out++[x]).length (out.length+1-(k+1))=out.length-k:=by show min _ _=_;simp
 have e4:List.drop (k+1+(out.length-k)) (out++[x])=[]:=NU (by rw[hl];omega);rw[e1,e2,e3,e4,F3,Nu x (by simp;omega),L7 hk,Ci];rw[List.set_append];have:(List.take k out).length=k:=by simp;omega
 rw[if_neg (by omega),this,Nat.sub_self];rfl
section
variable{β:Type}
theorem AlT{l:List BZ}{i y:Int}{out:List Oc}{x:Oc}(hl:out.length<=100000){k1:vD β}:∀(k m:Nat),k<m->k<=out.length->Vj m k1 l i y (k:Int) out x=k1 l i y (posN out x k:Int) out x
 |k,0,h,_=>absurd h (MN _)
 |0,m+1,_,_=>by simp only[Aj4,cR];exact Ae (by omega)
 |k+1,m+1,h,hk=>by
  simp only[Aj4,cR];refine(Ai (by omega)).trans ?_;rw[i64_in (((k+1:Nat):Int)-1) (by omega),show((k+1:Nat):Int)-1=(k:Int) by omega];refine(Al (by omega)).trans ?_;rw[AT];unfold posN;by_cases hx:x.1<(out.getD k (0,0)).1
  ·rw[if_pos hx]
   exact(Ai hx).trans (AlT hl k m (by omega) (by omega))
  ·rw[if_neg hx]
   exact Ae hx
theorem AD3{l:List BZ}{i:Nat}(hi:i<l.length){r:BZ}(hr:l.getD i (0,0,0,0,0,0,0)=r)(h:RuleOk r){K:vA β}:∀(j f:Nat)(y:Int)(out:List Oc),y+(j:Int)=r.2.1+1->r.1<=y->j<f->out.length+j<=10000->Vk f K l (i:Int) y out=K l (i:Int) (((List.range j).map λq=>occY r (y+(q:Nat))).foldl insO out):=by
 have h1:=h.f;have h2:=h.t;intro j
 induction j with
 |zero=>intro f y out hj hy hf hl;obtain⟨f,rfl⟩:∃f',f=f'+1:=⟨f-1,by omega⟩;have fin:∀g:Option β,cond (decide (0<=(i:Int))&&decide ((i:Int)<(l.length:Int))) g none=g:=λg=>Al (by omega);simp only[Aj5,cS,fin,AT,hr];exact Ae (by omega)
 |succ j ih=>
  intro f y out hj hy hf hl;obtain⟨f,rfl⟩:∃f',f=f'+1:=⟨f-1,by omega⟩;have hb:=yV h (y:=y) ⟨hy,by omega⟩;have hs:=h.s;have fin:∀g:Option β,cond (decide (0<=(i:Int))&&decide ((i:Int)<(l.length:Int))) g none=g:=λg=>Al (by omega);simp only[Aj5,cS,fin,AT,hr];refine(Ai (by omega)).trans ?_;refine(AD0 (by omega) h.m h.w h.d _).trans ?_;rw[i64_in (nthD y r.2.2.1 r.2.2.2.1 r.2.2.2.2.1*86400) (by omega),i64_in (nthD y r.2.2.1 r.2.2.2.1 r.2.2.2.2.1*86400+r.2.2.2.2.2.1) (by omega)];unfold vF;rw[Ad];refine(AlT (by omega) out.length fuel (BB (by omega)) (AQ _)).trans ?_;have hp:=zO out (occY r y) out.length;show cond (decide ((out.length+1)*16<=Bl)) _ _=_;refine(Er (by omega)).trans ?_;have AaG:(out++[occY r y]).length=out.length+1:=by simp
  have ho:∀{n:Int},n=nthD y r.2.2.1 r.2.2.2.1 r.2.2.2.2.1*86400+r.2.2.2.2.2.1->(n,r.2.2.2.2.2.2)=occY r y:=λe=>by rw[e];rfl
  simp only[ho rfl];rw[i64_in ((posN out (occY r y) out.length:Int)+1) (by omega)];refine(c_p3 (by omega) (by omega) (by omega)).trans ?_;refine(c_p3 (by omega) (by omega) (by omega)).trans ?_;rw[show((posN out (occY r y) out.length:Int)+1).toNat=posN out (occY r y) out.length+1 by omega,AT];have Lw:=AD2 out (occY r y) _ hp;refine(Al ⟨by omega,?_⟩).trans ?_
  ·have:=Ax List.length Lw
   rw[MM]at this;rw[this];simp;omega
  rw[Lw,i64_in (y+1) (by omega)]
  have NA:(insO out (occY r y)).length+j<=10000:=by rw[(AlQ out _).length_eq];simp;omega
  refine(ih f (y+1) (insO out (occY r y)) (by omega) (by omega) (by omega) NA).trans ?_;refine Ax (K l (i:Int)) ?_;rw[List.range_succ_eq_map,CM,Qm,List.foldl_cons];have e0:occY r (y+((0:Nat):Int))=occY r y:=by simp
  rw[e0];refine Ax (λz=>List.foldl insO (insO out (occY r y)) z) ?_;refine List.map_congr_left λq _=>?_;simp only[Function.comp];congr 1;simp;omega
theorem AD4{z:AK}(h:ZoneOk z)(hS:Nv z)(k:List Oc->Option β):cU z.2.2 k=k (occS z):=by
 have hl:=h.l
 have Hw:(CY z.2.2).foldl insO []=occS z:=by obtain⟨h1,h2⟩:=zP (CY z.2.2) [] List.Pairwise.nil;rw[F3]at h2;obtain⟨g1,g2⟩:=VS h;refine List.Perm.eq_of_pairwise (le:=λx y=>x.1<=y.1) (λa b ha hb q1 q2=>?_) h1 (hS.imp λg=>Int.le_of_lt g) (h2.trans g1.symm);exact Alg hS ((h2.trans g1.symm).mem_iff.1 ha) hb (Int.le_antisymm q1 q2)
 unfold cU;rw[Ad];unfold vH;rw[Ad]
 refine(Rz (λi(out:List Oc)=>out=(CY (z.2.2.take i)).foldl insO []) (λm i out=>Vl m (λout=>k out) z.2.2 i out) (λout r=>(occL r).foldl insO out) (λout=>k (occS z)) (0,0,0,0,0,0,0) z.2.2 [] fuel (BB (by omega)) rfl
  (λi out hi ho=>?_) (λm i out hi ho=>?_) (λm out ho=>?_))
 ·rw[Nu (0,0,0,0,0,0,0) hi,ho]
  unfold CY;rw[Qj,Su,List.foldl_append]
 ·have hr:RuleOk (z.2.2.getD i (0,0,0,0,0,0,0)):=h.r _ (C5 hi)
  have g1:=hr.f;have g2:=hr.t
  have Bp:out.length<=12:=by have e:z.2.2=z.2.2.take i++z.2.2.drop i:=(L8 i z.2.2).symm;have NC:=h.n;rw[e]at NC;unfold CY at NC;rw[Qj,AR]at NC;rw[ho,(zP _ [] List.Pairwise.nil).2.length_eq,F3];unfold CY;omega
  simp only[Aj6,cT];refine(Ai (by omega)).trans ?_;refine(Al (by omega)).trans ?_;rw[AT];unfold vG;rw[Ad];refine(AD3 hi rfl hr ((z.2.2.getD i (0,0,0,0,0,0,0)).2.1-(z.2.2.getD i (0,0,0,0,0,0,0)).1+1).toNat fuel _ out (by omega) (by omega) (BB (by omega)) (by omega)).trans ?_;rw[i64_in ((i:Int)+1) (by omega)];rfl
 ·rw[KA]at ho
  simp only[Aj6,cT];refine(Ae (by omega)).trans ?_;rw[ho,Hw]
theorem AD5{z:AK}(h:ZoneOk z)(k1:vO β)(K:vP β):cZ k1 K 0 0 z=K ((CY z.2.2).length:Int) z:=by
 have hl:=h.l;unfold cZ;rw[Ad];have PE:∀(i:Nat),i<z.2.2.length->RuleOk (z.2.2.getD i (0,0,0,0,0,0,0)):=λi hi=>h.r _ (C5 hi)
 refine(Rz (λi(n:Int)=>0<=n/\n<=300*(i:Int)/\n=((CY (z.2.2.take i)).length:Int)) (λm i n=>Vo m k1 K n i z) (λn r=>n+(r.2.1-r.1+1)) (λn=>K ((CY z.2.2).length:Int) z) (0,0,0,0,0,0,0) z.2.2 0 fuel (BB (by omega)) ⟨by omega,by omega,rfl⟩
  (λi n hi hn=>?_) (λm i n hi hn=>?_) (λm n hn=>?_))
 ·obtain⟨h1,h2,h3⟩:=hn
  have hr:=PE i hi;have g1:=hr.f;have g2:=hr.t;refine⟨by omega,by omega,?_⟩;rw[Nu (0,0,0,0,0,0,0) hi];unfold CY at h3⊢;rw[Qj,AR,Su,Ale];omega
 ·obtain⟨h1,h2,h3⟩:=hn
  have hr:=PE i hi;have g1:=hr.f;have g2:=hr.t;have fin:∀g:Option β,cond (decide (0<=(i:Int))&&decide ((i:Int)<(z.2.2.length:Int))) g none=g:=λg=>Al (by omega);simp only[Aji,cY,fin,AT];refine(Ai (by omega)).trans ?_;refine(ACR hr _).trans ?_;refine c_f.trans ?_;generalize z.2.2.getD i (0,0,0,0,0,0,0)=r at hr g1 g2;rw[i64_in (r.2.1-r.1) (by omega),i64_in (r.2.1-r.1+1) (by omega),i64_in (n+(r.2.1-r.1+1)) (by omega),i64_in ((i:Int)+1) (by omega)]
 ·obtain⟨h1,h2,h3⟩:=hn
  rw[KA]at h3;simp only[Aji,cY];refine(Ae (by omega)).trans ?_;rw[h3]
theorem AD6{z:AK}(h:ZoneOk z)(hS:Nv z)(k:Int->Option β):dP z k=k (errV (HE z)):=by have hl:=h.l;have hn:=h.n;unfold dP;rw[Ad];unfold vU;rw[Ad];refine(Lh _ _ _ _).trans ?_;rw[D9 h.o];refine c_f.trans ?_;refine(Ae (by omega)).trans ?_;refine(AD5 h _ _).trans ?_;refine(Ae (by omega)).trans ?_;refine(AD4 h hS _).trans ?_;refine(ACS h).trans ?_;exact Ld k _
theorem AD7{z:AK}(h:FZ z=0):errV (HE z)=0/\Int.tmod z.2.1 60=0/\∀r∈z.2.2,Int.tmod r.2.2.2.2.2.2 60=0:=by
 unfold FZ at h
 have e1:errV (HE z)=0:=by
  by_cases e:errV (HE z)=0
  ·exact e
  ·rw[AN e]at h;cases h
 rw[At e1]at h
 have e2:Int.tmod z.2.1 60=0:=by
  by_cases e:Int.tmod z.2.1 60=0
  ·exact e
  ·rw[AN e]at h;cases h
 rw[At e2]at h;refine⟨e1,e2,?_⟩;cases e3:z.2.2.all λr=>decide (Int.tmod r.2.2.2.2.2.2 60=0)with
 |false=>rw[e3]at h;cases h
 |true=>exact λr hr=>Bv (Eh.1 e3 r hr)
theorem AD8{c:As}(hz:c.1.length<=1000)(hv:∀z∈c.1,(ZoneOk z/\FZ z=0/\Nv z)/\Cy z.1=true)(hn:(c.1.map (·.1)).Nodup)(k:Int->Option β):eE c k=k 0:=by
 unfold eE;rw[Ad];unfold x7;rw[Ad]
 have key:∀(j i m:Nat),i+j=c.1.length->j<m->V2 m (λt2=>k t2) (λ_=>k 0) (i:Int) c ((c.1.take i).map (·.1))=k 0:=by
  intro j
  induction j with
  |zero=>intro i m hi hm;obtain⟨m,rfl⟩:∃m',m=m'+1:=⟨m-1,by omega⟩;simp only[Ak1,eD];exact Ae (by omega)
  |succ j ih=>
   intro i m hi hm;obtain⟨m,rfl⟩:∃m',m=m'+1:=⟨m-1,by omega⟩;have Au:i<c.1.length:=by omega
   have h1:=hv _ (C5 (d:=(([],0,[]):AK)) Au);obtain⟨⟨g1,g2,g3⟩,g4⟩:=h1;obtain⟨e1,e2,e3⟩:=AD7 g2;have gl:=g1.l;have GV:((c.1.take i).map (·.1)).length=i:=by rw[DK,Hd];omega
   have Kw:=Wc hn Au (([],0,[]):AK);have M5:=R2 (λx:AK=>x.1) Au (([],0,[]):AK);have fin:∀g:Option β,cond (decide (0<=(i:Int))&&decide ((i:Int)<(c.1.length:Int))) g none=g:=λg=>Al (by omega);simp only[Ak1,eD,fin,AT];refine(Ai (by omega)).trans ?_;refine(Er (show(((c.1.take i).map (·.1)).length+1)*16<=_ by omega)).trans ?_;have EW:=Wb (l:=(c.1.take i).map (·.1)) (by omega) g4 Kw (β:=β);rw[GV]at EW;refine(EW _).trans ?_;refine(BM rfl).trans ?_;refine(AD6 g1 g3 _).trans ?_;refine(BM e1).trans ?_;refine(ACD (by omega) e2 e3 _).trans ?_;refine c_f.trans ?_;rw[i64_in ((i:Int)+1) (by omega),show(i:Int)+1=((i+1:Nat):Int) by omega,M5];exact ih (i+1) m (by omega) (by omega)
 exact key c.1.length 0 fuel (by omega) (BB (by omega))
end
end
end Go.Lift
namespace Go.Lift
open Go.RowKit Go.IntWalk
noncomputable section
variable[Sl]
set_option maxRecDepth 10000
def R3:List UInt8:=[122,111,110,101]
def zQ:List UInt8:=[114,117,108,101]
def Fo:List UInt8:=[112,101,114,115,111,110]
def Kn:List UInt8:=[113,117,105,101,116]
def calW:List UInt8:=[99,97,108,101,110,100,97,114]
def JH:List UInt8:=[100,97,121,115]
def Li:List UInt8:=[119,101,101,107]
def Lj:List UInt8:=[114,101,115,116]
def Lk:List UInt8:=[99,111,110,115,101,110,116]
theorem AD9{α γ:Type}(f:α->List γ)(xs:List α)(s:List γ):xs.foldl (λl i=>l++f i) s=s++xs.flatMap f:=by
 induction xs generalizing s with
 |nil=>simp
 |cons x xs ih=>simp[ih,Ci]
theorem Jc{β α γ:Type}(F:Nat->Int->List γ->Option β)(f:α->List γ)(K:List γ->Option β)(d:α)(xs:List α)(s:List γ)(B:Nat)(hx:xs.length<=1000)(hf:∀x∈xs,(f x).length<=B)(h1:∀(m i:Nat) t,i<xs.length->t.length<=s.length+i*B->F (m+1) (i:Int) t=F m ((i:Int)+1) (t++f (xs.getD i d)))(h2:∀(m:Nat) t,F (m+1) (xs.length:Int) t=K t):F fuel 0 s=K (s++xs.flatMap f):=by
 rw[<-AD9 f xs s];refine Rz (λi t=>t.length<=s.length+i*B) F (λt x=>t++f x) K d xs s fuel (BB (by omega)) (by omega) (λi t hi ht=>?_) h1 λm t _=>h2 m t;have:=hf _ (C5 (d:=d) hi);rw[AR,Jx];omega
def Mj(r:BZ):List Tok:=
 [wd zQ,nu 1 r.1,nu 1 r.2.1,wd (at' VW (r.2.2.1-1)),wd (at' VX (r.2.2.2.1-1)),wd (at' Mi r.2.2.2.2.1),nu 2 r.2.2.2.2.2.1,nu 4 r.2.2.2.2.2.2]
def Ib(z:AK):List (List Tok):=[wd R3,wd z.1,nu 4 z.2.1]::z.2.2.map Mj
section
variable{β:Type}{w:List AK}{w2:List Bb}{w3:List Bh}{w4:List By}
theorem Pf{α γ:Type}(f:α->γ)(xs:List α):xs.flatMap (λx=>[f x])=xs.map f:=by
 induction xs with
 |nil=>rfl
 |cons x xs ih=>simp[ih]
theorem ADa{z:AK}(hz:ZoneOk z)(ls:List (List Tok))(h1:ls.length<=900000)(k:List AK->List Bb->List Bh->List By->List (Int×List Tok)->Option β):aH z w w2 w3 w4 (numb 0 ls) k=k w w2 w3 w4 (numb 0 (ls++Ib z)):=by
 have hl:=hz.l;unfold aH;rw[Ad];refine(Hp _ _).trans ?_;refine(AlD _ _).trans ?_;refine(Km R3 _ ls (by omega) (by simp) _).trans ?_;unfold sE;rw[Ad];refine(Jc (λm i s=>U7 m (λAZ BO CB CC Bn=>k AZ BO CB CC Bn) z.2.2 (z.2.2.length:Int) i w w2 w3 w4 (numb 0 s) VW VX) (λr=>[Mj r]) (λs=>k w w2 w3 w4 (numb 0 s)) (0,0,0,0,0,0,0) z.2.2 _ 1 (by omega) (λ_ _=>by simp) (λm i s hi hs=>?_) λm s=>?_).trans ?_
 ·have hr:=hz.r _ (C5 (d:=((0,0,0,0,0,0,0):BZ)) hi)
  simp only[AhH,aG];refine(Ai (by omega)).trans ?_;refine(Al (by omega)).trans ?_;rw[AT];generalize z.2.2.getD i ((0,0,0,0,0,0,0):BZ)=r at hr;have m1:=hr.m;have m2:=hr.w;have m3:=hr.d;rw[i64_in (r.2.2.1-1) (by omega),i64_in (r.2.2.2.1-1) (by omega)];refine(VZ _ _).trans ?_;refine(VZ _ _).trans ?_;refine(Al (show 0<=r.2.2.1-1/\r.2.2.1-1<((12:Nat):Int) by omega)).trans ?_;refine(Hp _ _).trans ?_;refine(Al (show 0<=r.2.2.2.1-1/\r.2.2.2.1-1<((5:Nat):Int) by omega)).trans ?_;refine(Hp _ _).trans ?_;refine(zI (by omega) _).trans ?_;refine(gH _ _).trans ?_;refine(AlD _ _).trans ?_;simp only[AR,Gp]at hs;refine(Km zQ _ s (by omega) (by simp) _).trans ?_;rw[i64_in ((i:Int)+1) (by omega)];rfl
 ·simp only[AhH,aG]
  exact Ae (by omega)
 ·show k w w2 w3 w4 (numb 0 (ls++[[wd R3,wd z.1,nu 4 z.2.1]]++z.2.2.flatMap λr=>[Mj r]))=_
  rw[Pf,Ci];rfl
def gM(p:Bb):List Tok:=if p.2.2.2.1=0 then []else [wd Li,nu 1 (Int.tdiv p.2.2.2.1 3600)]
def Wd(p:Bb):List Tok:=if p.2.2.2.2.1=0 then []else [wd Lj,nu 1 (Int.tdiv p.2.2.2.2.1 3600)]
def R4(p:Bb):List Tok:=if p.2.2.2.2.2 then [wd Lk]else []
def GA(w:List AK)(i:Int):List UInt8:=(w.getD i.toNat ([],0,[])).1
def Pg(w:List AK)(p:Bb):List Tok:=wd Fo::([wd p.1,wd (GA w p.2.1)]++gM p++Wd p++R4 p)
def Ic(w:List AK)(p:Bb):List (List Tok):=Pg w p::p.2.2.1.map (stW Kn)
theorem AlU{p:Bb}{nz:Int}(hp:PerF nz p)(toks:List Tok)(ht:toks.length<=20)(ls:List (List Tok))(h1:ls.length<=900000)(k:List AK->List Bb->List Bh->List By->List (Int×List Tok)->Option β):(DU Fo toks w w2 w3 w4 (numb 0 ls) λa b c d e=>OJ Kn p.2.2.1 a b c d e λa b c d e=>k a b c d e)=k w w2 w3 w4 (numb 0 (ls++(wd Fo::toks)::p.2.2.1.map (stW Kn))):=by
 have hq:=hp.q;refine(Km Fo _ ls (by omega) (by omega) _).trans ?_;refine(AlF Kn _ _ (by simp;omega) hq.2 _).trans ?_;rw[Ci];rfl
theorem AlV{p:Bb}{nz:Int}(hp:PerF nz p)(toks:List Tok)(ht:toks.length<=10)(ls:List (List Tok))(h1:ls.length<=900000)(k:List AK->List Bb->List Bh->List By->List (Int×List Tok)->Option β):U8 k w w2 w3 w4 (numb 0 ls) p toks=k w w2 w3 w4 (numb 0 (ls++(wd Fo::(toks++R4 p))::p.2.2.1.map (stW Kn))):=by
 unfold U8;rw[Ad];unfold sF R4;cases p.2.2.2.2.2 with
 |true=>refine(Hp _ _).trans ?_;refine(Er (show(toks.length+1)*32<=_ by omega)).trans ?_;exact AlU hp _ (by simp;omega) ls h1 k
 |false=>refine(AlU hp _ (by omega) ls h1 k).trans ?_;simp
theorem AlW{p:Bb}{nz:Int}(hp:PerF nz p)(toks:List Tok)(ht:toks.length<=8)(ls:List (List Tok))(h1:ls.length<=900000)(k:List AK->List Bb->List Bh->List By->List (Int×List Tok)->Option β):U9 k w w2 w3 w4 (numb 0 ls) p toks=k w w2 w3 w4 (numb 0 (ls++(wd Fo::(toks++Wd p++R4 p))::p.2.2.1.map (stW Kn))):=by
 have hr:=hp.r;unfold U9;rw[Ad];unfold sG Wd;by_cases h:p.2.2.2.2.1=0
 ·rw[if_pos h,F3]
  refine(BM h).trans ?_;exact AlV hp _ (by omega) ls h1 _
 ·rw[if_neg h]
  refine(Fe h).trans ?_;rw[i64_in _ (by rw[GJ (by omega)];omega)];refine(Hp _ _).trans ?_;refine(VZ _ _).trans ?_;refine(Er (show(toks.length+2)*32<=_ by omega)).trans ?_;exact AlV hp _ (by simp;omega) ls h1 _
theorem ADb{p:Bb}(hp:PerF (w.length:Int) p)(ls:List (List Tok))(h1:ls.length<=900000)(k:List AK->List Bb->List Bh->List By->List (Int×List Tok)->Option β):aI p w w2 w3 w4 (numb 0 ls) k=k w w2 w3 w4 (numb 0 (ls++Ic w p)):=by
 have hr:=hp.w;unfold aI;rw[Ad];unfold Ic Pg gM;refine(Hp _ _).trans ?_;refine(zJ hp.z _).trans ?_;by_cases h:p.2.2.2.1=0
 ·rw[if_pos h,F3]
  refine(BM h).trans ?_;exact AlW hp _ (by simp) ls h1 _
 ·rw[if_neg h]
  refine(Fe h).trans ?_;rw[i64_in _ (by rw[GJ (by omega)];omega)];refine(Hp _ _).trans ?_;refine(VZ _ _).trans ?_;refine(Er (show(2+2)*32<=_ by omega)).trans ?_;exact AlW hp _ (by simp) ls h1 _
def R5(l:List Int):List (List Tok):=if l=[]then []else [wd JH::l.map (nu 3)]
def I1(w:List AK)(c:Bh):List (List Tok):=[wd calW,wd c.1,wd (GA w c.2.1)]::R5 c.2.2
theorem ADc{l:List Int}(hl:l.length<=1000)(k:List Tok->Option β):Vg l k=k (l.map (nu 3)):=by
 unfold Vg;rw[Ad];unfold uS;rw[Ad,<-Pf];refine Jc (λm i s=>Vf m (λout=>k out) l (l.length:Int) i s) (λx=>[nu 3 x]) (λs=>k s) (0:Int) l [] 1 hl (λ_ _=>by simp) (λm i s hi hs=>?_) λm s=>?_
 ·simp only[AiS,cF]
  simp only[CX]at hs;refine(Ai (by omega)).trans ?_;refine(Al (by omega)).trans ?_;rw[AT];refine(AlC _ _).trans ?_;refine(Er (show(s.length+1)*32<=_ by omega)).trans ?_;rw[i64_in ((i:Int)+1) (by omega)]
 ·simp only[AiS,cF]
  exact Ae (by omega)
theorem ADd{c:Bh}(hz:0<=c.2.1/\c.2.1<(w.length:Int))(hl:c.2.2.length<=32)(ls:List (List Tok))(h1:ls.length<=900000)(k:List AK->List Bb->List Bh->List By->List (Int×List Tok)->Option β):cG c w w2 w3 w4 (numb 0 ls) k=k w w2 w3 w4 (numb 0 (ls++I1 w c)):=by
 unfold cG;rw[Ad];unfold I1 R5;refine(Hp _ _).trans ?_;refine(zJ hz _).trans ?_;refine(Km calW _ ls (by omega) (by simp) _).trans ?_;refine(Ai (show c.2.2.length<=140737488355328 by omega)).trans ?_;by_cases h:c.2.2=[]
 ·rw[if_pos h]
  exact Ae (by rw[h];simp)
 ·rw[if_neg h]
  have h0:0<c.2.2.length:=MK.2 h;refine(Ai h0).trans ?_;have ht:List.take 32 (List.drop 0 c.2.2)=c.2.2:=by rw[List.drop_zero,Hb hl]
  rw[ht];refine(ADc (by omega) _).trans ?_;refine(Km JH _ _ (by simp;omega) (by simp;omega) _).trans ?_;refine(Ai (show c.2.2.length<=140737488355328 by omega)).trans ?_;refine(Ae (by omega)).trans ?_;rw[Ci];rfl
end
end
end Go.Lift
namespace Go.Lift
open Go.RowKit Go.IntWalk
noncomputable section
variable[Sl]
set_option maxRecDepth 10000
def gN:List UInt8:=[108,97,121,101,114]
def memW:List UInt8:=[109,101,109,98,101,114]
def onW:List UInt8:=[111,110]
def schW:List UInt8:=[115,99,104,101,100,117,108,101]
def calN(w3:List Bh)(i:Int):List UInt8:=(w3.getD i.toNat ([],0,[])).1
def Mk(w3:List Bh)(l:AU):List (List Tok):=if l.2.2.2.2.2.2.2.2=0 then []else [[wd (at' VY l.2.2.2.2.2.2.2.2),wd (calN w3 l.2.2.2.2.2.2.2.1)]]
def We(w:List AK)(l:AU):List Tok:=[wd gN,wd l.1,wd (GA w l.2.1),nu 3 l.2.2.1.1,nu 2 l.2.2.1.2,nu 1 l.2.2.2.2.1,wd (at' untNs l.2.2.2.1)]
def gO(w2:List Bb)(l:AU):List Tok:=wd memW::l.2.2.2.2.2.1.map λm=>wd (whoB w2 m)
def Jd(w:List AK)(w2:List Bb)(w3:List Bh)(l:AU):List (List Tok):=
 We w l::gO w2 l::(l.2.2.2.2.2.2.1.map (stW onW)++Mk w3 l)
abbrev WK(β:Type):=List AK->List Bb->List Bh->List By->List (Int×List Tok)->Option β
def mch{β:Type}(ms:List Int)(F:List Tok->WK β):Nat->Int->List Tok->WK β
 |0,_,_=>λ_ _ _ _ _=>none
 |n+1,i,acc=>λa b c d e=>
  cond (decide (i<(ms.length:Int)))
   (cond (decide (0<=i)&&decide (i<(ms.length:Int)))
    (G9 (ms.getD i.toNat 0) a b c d e λr a b c d e=>
     cond (decide ((acc.length+[r].length)*32<=Bl)) (mch ms F n (IntKind.i64.wrap (i+1)) (acc++[r]) a b c d e) none) none)
   (F acc a b c d e)
section
variable{β:Type}{w:List AK}{w2:List Bb}{w3:List Bh}{w4:List By}
theorem AlX{ms:List Int}(hm:∀x∈ms,x<(w2.length:Int))(hl:ms.length<=100)(F:List Tok->WK β)(b:List (Int×List Tok)):∀(n i:Nat)(acc:List Tok),i<=ms.length->ms.length<i+n->acc.length<=i->mch ms F n (i:Int) acc w w2 w3 w4 b=F (acc++(ms.drop i).map λm=>wd (whoB w2 m)) w w2 w3 w4 b
 |0,i,acc,h1,h2,_=>absurd h2 (by omega)
 |n+1,i,acc,h1,h2,h3=>by
  unfold mch;by_cases h:i=ms.length
  ·refine(Ae (by omega)).trans ?_
   rw[h,List.drop_length];simp
  ·have hi:i<ms.length:=by omega
   refine(Ai (by omega)).trans ?_;refine(Al (by omega)).trans ?_;rw[AT];refine(zK (hm _ (C5 hi)) _).trans ?_;refine(Er (show(acc.length+1)*32<=_ by omega)).trans ?_;rw[i64_in _ (by omega)];refine(AlX hm hl F b n (i+1) _ (by omega) (by omega) (by simp;omega)).trans ?_
   have e:ms.drop i=ms.getD i 0::ms.drop (i+1):=by rw[JY hi,Qd,Ef hi];rfl
   rw[e,Ci];rfl
theorem ADe(l:AU)(k:WK β)(b:List (Int×List Tok)):AhM l w w2 w3 w4 b k=FK l.1 λDG=>OD l.2.1 w w2 w3 w4 b λrzone a b c d e=>QP l.2.2.1.1 λrdate=>Ni l.2.2.1.2 λH4=>LW l.2.2.2.2.1 λFy=>cond (decide (0<=l.2.2.2.1)&&decide (l.2.2.2.1<(untNs.length:Int))) (FK (untNs.getD l.2.2.2.1.toNat []) λPV=>DU gN [DG,rzone,rdate,H4,Fy,PV] a b c d e λa b c d e=>mch l.2.2.2.2.2.1 (λacc a b c d e=>DU memW acc a b c d e λa b c d e=>Hn (λa b c d e=>k a b c d e) a b c d e l) 13 0 [] a b c d e) none:=by kernel_rfl
theorem ADf{l:AU}{nz np:Int}(hl:LayF nz np (w3.length:Int) l)(ls:List (List Tok))(h1:ls.length<=900000)(k:WK β):Hn k w w2 w3 w4 (numb 0 ls) l=k w w2 w3 w4 (numb 0 (ls++(l.2.2.2.2.2.2.1.map (stW onW)++Mk w3 l))):=by
 have hw:=hl.w;unfold Hn;rw[Ad];unfold sH Mk;refine(AlF onW _ ls (by omega) hw.2 _).trans ?_;by_cases h:l.2.2.2.2.2.2.2.2=0
 ·rw[if_pos h,F3]
  exact BM h
 ·rw[if_neg h]
  have hc:=hl.c
  have hc:(1<=l.2.2.2.2.2.2.2.2/\l.2.2.2.2.2.2.2.2<=2)/\0<=l.2.2.2.2.2.2.2.1/\l.2.2.2.2.2.2.2.1<(w3.length:Int):=by
   rcases hc with hc|hc
   ·exact absurd hc.1 h
   ·exact hc
  refine(Fe h).trans ?_;refine(Al (show 0<=l.2.2.2.2.2.2.2.2/\l.2.2.2.2.2.2.2.2<((3:Nat):Int) by omega)).trans ?_;refine(Al hc.2).trans ?_;refine(Hp _ _).trans ?_;refine(Km _ _ _ (by simp;omega) (by simp) _).trans ?_;rw[Ci];rfl
theorem ADg{l:AU}(hl:LayF (w.length:Int) (w2.length:Int) (w3.length:Int) l)(ls:List (List Tok))(h1:ls.length<=900000-5)(k:WK β):aK l w w2 w3 w4 (numb 0 ls) k=k w w2 w3 w4 (numb 0 (ls++Jd w w2 w3 l)):=by
 have hm:=hl.m;unfold aK;rw[Ad,ADe];refine(Hp _ _).trans ?_;refine(zJ hl.z _).trans ?_;refine(AlC _ _).trans ?_;refine(gH _ _).trans ?_;refine(VZ _ _).trans ?_;have hu:=hl.u;refine(Al (show 0<=l.2.2.2.1/\l.2.2.2.1<((3:Nat):Int) by omega)).trans ?_;refine(Hp _ _).trans ?_;refine(Km gN _ ls (by omega) (by simp) _).trans ?_;refine(AlX (λx hx=>(hl.ms x hx).2) (by omega) _ _ 13 0 [] (by omega) (by omega) (by simp)).trans ?_;refine(Km memW _ _ (by simp;omega) (by simp;omega) _).trans ?_;refine(ADf hl _ (by simp;omega) _).trans ?_;rw[Ci,Ci];rfl
def Wg(w2:List Bb)(x:Ed):List Tok:=if x.1=2 then [wd (whoB w2 x.2.1),wd (whoB w2 x.2.2.1)]else [wd (whoB w2 x.2.1)]
def Ga(w2:List Bb)(x:Ed):List Tok:=wd (at' JG x.1)::(Wg w2 x++[nu 5 x.2.2.2.1,nu 5 x.2.2.2.2])
theorem AlY{x:Ed}{np:Int}(hx:EdF np x)(toks:List Tok)(ht:toks.length<=10)(ls:List (List Tok))(h1:ls.length<=900000)(k:WK β):Uk k w w2 w3 w4 (numb 0 ls) x toks=k w w2 w3 w4 (numb 0 (ls++[wd (at' JG x.1)::(toks++[nu 5 x.2.2.2.1,nu 5 x.2.2.2.2])])):=by
 have hk:=hx.k;unfold Uk;rw[Ad];unfold qT;refine(Al (show 0<=x.1/\x.1<((3:Nat):Int) by omega)).trans ?_;refine(AlE _ _).trans ?_;refine(AlE _ _).trans ?_;refine(Er (show(toks.length+2)*32<=_ by omega)).trans ?_;exact Km _ _ ls (by omega) (by simp;omega) _
theorem ADh{x:Ed}(hx:EdF (w2.length:Int) x)(ls:List (List Tok))(h1:ls.length<=900000)(k:WK β):ZA x w w2 w3 w4 (numb 0 ls) k=k w w2 w3 w4 (numb 0 (ls++[Ga w2 x])):=by
 have ha:=hx.a;unfold ZA;rw[Ad];unfold Ga Wg;refine(zK (by omega) _).trans ?_;by_cases h:x.1=2
 ·rw[if_pos h]
  refine(Ai h).trans ?_;refine(zK (hx.b h).2 _).trans ?_;refine(Er (show(1+1)*32<=_ by omega)).trans ?_;exact AlY hx _ (by simp) ls h1 _
 ·rw[if_neg h]
  refine(Ae h).trans ?_;exact AlY hx _ (by simp) ls h1 _
end
end
end Go.Lift
namespace Go.Lift
open Go.RowKit Go.IntWalk
noncomputable section
variable[Sl]
set_option maxRecDepth 10000
def JI(w:List AK)(w2:List Bb)(w3:List Bh)(s:By):List (List Tok):=
 [wd schW,wd s.1]::(s.2.1.flatMap (Jd w w2 w3)++s.2.2.map (Ga w2))
def I2(c:As):List (List Tok):=c.1.flatMap Ib++(c.2.1.flatMap (Ic c.1)++(c.2.2.1.flatMap (I1 c.1)++c.2.2.2.flatMap (JI c.1 c.2.1 c.2.2.1)))
theorem Je{α γ:Type}{f:α->List γ}{xs:List α}{B:Nat}(h:∀x∈xs,(f x).length<=B):(xs.flatMap f).length<=xs.length*B:=by
 induction xs with
 |nil=>simp
 |cons x xs ih=>have h1:=h x (CW ..);have h2:=ih λy hy=>h y (BY _ hy);rw[Jw,AR,AX,Jx];omega
theorem gP{z:AK}(h:ZoneOk z):(Ib z).length<=13:=by have:=h.l;unfold Ib;simp;omega
theorem gQ{nz:Int}{w:List AK}{p:Bb}(h:PerF nz p):(Ic w p).length<=15:=by have:=h.q.1;unfold Ic;simp;omega
theorem gR{w:List AK}{c:Bh}:(I1 w c).length<=2:=by
 unfold I1 R5;by_cases h:c.2.2=[]
 ·rw[if_pos h];simp
 ·rw[if_neg h];simp
theorem zR{nz np nc:Int}{w:List AK}{w2:List Bb}{w3:List Bh}{l:AU}(h:LayF nz np nc l):(Jd w w2 w3 l).length<=17:=by
 have:=h.w.1;unfold Jd Mk;by_cases h:l.2.2.2.2.2.2.2.2=0
 ·rw[if_pos h];simp;omega
 ·rw[if_neg h];simp;omega
structure SchG (nz np nc:Int) (s:By):Prop where
 l:s.2.1.length<=6
 ls:∀l∈s.2.1,LayF nz np nc l/\Cy l.1=true
 e:s.2.2.length<=48
 es:∀x∈s.2.2,EdF np x
theorem zS{nz np nc:Int}{w:List AK}{w2:List Bb}{w3:List Bh}{s:By}(h:SchG nz np nc s):(JI w w2 w3 s).length<=151:=by have h1:=h.l;have h2:=h.e;have h3:=Je (f:=Jd w w2 w3) λl hl=>zR (h.ls l hl).1;unfold JI;rw[AX,AR,DK];omega
theorem Wh{c:As}(h:ConfOk c):∀s∈c.2.2.2,SchG (c.1.length:Int) (c.2.1.length:Int) (c.2.2.1.length:Int) s:=by intro s hs;have h1:=AlI (h.os.2 s hs).1;exact⟨h1.l,h1.ls,h1.e,λx hx=>ed_f ((h.os.2 s hs).2 x hx)⟩
theorem Ph{c:As}(h:ConfOk c):∀p∈c.2.1,PerF (c.1.length:Int) p:=λp hp=>AlK (h.op.2 p hp)
section
variable{β:Type}
theorem ADi{w:List AK}{w2:List Bb}{w3:List Bh}{w4 ss:List By}{n i:Int}{es:List Ed}(he:es.length<=48)(hs:∀x∈es,EdF (w2.length:Int) x)(ls:List (List Tok))(h1:ls.length<=100000)(k:yL β):Rv k ss n i es (es.length:Int) 0 w w2 w3 w4 (numb 0 ls)=k ss n i w w2 w3 w4 (numb 0 (ls++es.map (Ga w2))):=by
 unfold Rv;rw[Ad,<-Pf];refine Jc (λm i' s=>VJ m k ss n i es (es.length:Int) i' w w2 w3 w4 (numb 0 s)) (λx=>[Ga w2 x]) (λs=>k ss n i w w2 w3 w4 (numb 0 s)) (0,0,0,0,0) es ls 1 (by omega) (λ_ _=>by simp) (λm i' t hi ht=>?_) λm t=>?_
 ·have hx:=hs _ (C5 (d:=((0,0,0,0,0):Ed)) hi)
  simp only[Al0,fJ];refine(Ai (by omega)).trans ?_;refine(Al (by omega)).trans ?_;rw[AT];refine(ADh hx t (by omega) _).trans ?_;rw[i64_in ((i':Int)+1) (by omega)]
 ·simp only[Al0,fJ]
  exact Ae (by omega)
theorem ADj{w:List AK}{w2:List Bb}{w3:List Bh}{w4 ss:List By}(h3:ss.length<=12)(hs:∀s∈ss,SchG (w.length:Int) (w2.length:Int) (w3.length:Int) s)(ls:List (List Tok))(h1:ls.length<=10000)(k:WK β):Rw k ss (ss.length:Int) 0 w w2 w3 w4 (numb 0 ls)=k w w2 w3 w4 (numb 0 (ls++ss.flatMap (JI w w2 w3))):=by
 unfold Rw;rw[Ad];refine Jc (λm i s=>OY m k ss (ss.length:Int) i w w2 w3 w4 (numb 0 s)) (JI w w2 w3) (λs=>k w w2 w3 w4 (numb 0 s)) ([],[],[]) ss ls 151 (by omega) (λs h=>zS (hs s h)) (λm i t hi ht=>?_) λm t=>?_
 ·have hS:=hs _ (C5 (d:=(([],[],[]):By)) hi)
  have NK:t.length<=20000:=by omega
  simp only[Al1,fK];refine(Ai (by omega)).trans ?_;refine(Al (by omega)).trans ?_;rw[AT];generalize ss.getD i (([],[],[]):By)=q at hS;have q1:=hS.l;have q2:=hS.e;refine(Hp _ _).trans ?_;refine(Km schW _ t (by omega) (by simp) _).trans ?_;unfold yN;rw[Ad]
  refine(Jc (λm' i' s=>VI m' (λAbT NS PZ w5 w6 w7 w8 s AB=>Rv (λXG L5 MF w9 w10 w11 w12 Bn=>OY m k XG L5 (IntKind.i64.wrap (MF+(1:Int))) w9 w10 w11 w12 Bn) AbT NS PZ s.2.2 (List.length s.2.2:Int) (0:Int) w5 w6 w7 w8 AB)
   ss (ss.length:Int) (i:Int) q.2.1 (q.2.1.length:Int) i' w w2 w3 w4 q (numb 0 s)) (Jd w w2 w3)
   (λs=>Rv (λXG L5 MF w9 w10 w11 w12 Bn=>OY m k XG L5 (IntKind.i64.wrap (MF+(1:Int))) w9 w10 w11 w12 Bn) ss (ss.length:Int) (i:Int) q.2.2 (List.length q.2.2:Int) (0:Int) w w2 w3 w4 (numb 0 s))
   ([],0,(0,0),0,0,[],[],0,0) q.2.1 (t++[[wd schW,wd q.1]]) 17 (by omega) (λl h=>zR (hS.ls l h).1) (λm' i' t' Px NK=>?_) λm' t'=>?_).trans ?_
  ·have hL:=(hS.ls _ (C5 (d:=(([],0,(0,0),0,0,[],[],0,0):AU)) Px)).1
   simp only[AR,Gp]at NK;simp only[AkZ,fH];refine(Ai (by omega)).trans ?_;refine(Al (by omega)).trans ?_;rw[AT];refine(ADg hL t' (by omega) _).trans ?_;rw[i64_in ((i':Int)+1) (by omega)]
  ·simp only[AkZ,fH]
   exact Ae (by omega)
  ·have h5:((t++[[wd schW,wd q.1]])++q.2.1.flatMap (Jd w w2 w3)).length<=30000:=by have:=Je (f:=Jd w w2 w3) λl hl=>zR (hS.ls l hl).1;rw[AR,AR,Gp];omega
   refine(ADi (by omega) hS.es _ (by omega) _).trans ?_;rw[i64_in ((i:Int)+1) (by omega),Ci,Ci];rfl
 ·simp only[Al1,fK]
  exact Ae (by omega)
def stK3(k:List (Int×List Tok)->Int->Option β):yH β:=λc4 w9 w10 w11 w12 b=>Rw (λ_ _ _ _ b1=>k b1 0) c4.2.2.2 (c4.2.2.2.length:Int) 0 w9 w10 w11 w12 b
def stK2(k:List (Int×List Tok)->Int->Option β):yF β:=λc4 w9 w10 w11 w12 b=>VH (stK3 k) c4.2.2.1 (c4.2.2.1.length:Int) 0 c4 w9 w10 w11 w12 b
def stK1(k:List (Int×List Tok)->Int->Option β):yD β:=λc4 w9 w10 w11 w12 b=>VE (stK2 k) c4.2.1 (c4.2.1.length:Int) 0 c4 w9 w10 w11 w12 b
theorem AlZ{c:As}(h:ConfOk c)(k:List (Int×List Tok)->Int->Option β):VK c k=k (numb 0 (I2 c)) 0:=by
 obtain⟨z,p,x,s⟩:=c;have l1:z.length<=2:=h.oz.1.1;have l2:p.length<=8:=h.op.1.1;have l3:x.length<=1:=h.oc.1.1;have l4:s.length<=3:=h.os.1.1;have z1:=Je (f:=Ib) λy(hy:y∈z)=>gP (h.oz.2 y hy).1;have z2:=Je (f:=Ic z) λy(hy:y∈p)=>gQ (Ph h y hy);have z3:=Je (f:=I1 z) λy(hy:y∈x)=>gR;unfold VK;rw[Ad];refine(Alc _ FZ (λy hy k=>Alf (h.oz.2 y hy).1 k) _).trans ?_;rw[Aly h];refine(BM rfl).trans ?_;show fE (stK1 k) z (z.length:Int) 0 (z,p,x,s) z p x s (numb 0 [])=_;unfold fE;rw[Ad];refine(Jc (λm i t=>VC m (stK1 k) z (z.length:Int) i (z,p,x,s) z p x s (numb 0 t)) Ib (λt=>VE (stK2 k) p (p.length:Int) 0 (z,p,x,s) z p x s (numb 0 t)) ([],0,[]) z [] 13 (by omega) (λy hy=>gP (h.oz.2 y hy).1) (λm i t hi ht=>?_) λm t=>?_).trans ?_
 ·simp only[CX]at ht
  simp only[AkW,f9];refine(Ai (by omega)).trans ?_;refine(Al (by omega)).trans ?_;rw[AT];refine(ADa (h.oz.2 _ (C5 hi)).1 t (by omega) _).trans ?_;rw[i64_in ((i:Int)+1) (by omega)]
 ·simp only[AkW,f9]
  exact Ae (by omega)
 unfold VE;rw[Ad,Fl];refine(Jc (λm i t=>VD m (stK2 k) p (p.length:Int) i (z,p,x,s) z p x s (numb 0 t)) (Ic z) (λt=>VH (stK3 k) x (x.length:Int) 0 (z,p,x,s) z p x s (numb 0 t)) ([],0,[],0,0,false) p (z.flatMap Ib) 15 (by omega) (λy hy=>gQ (Ph h y hy)) (λm i t hi ht=>?_) λm t=>?_).trans ?_
 ·simp only[AkX,fF]
  refine(Ai (by omega)).trans ?_;refine(Al (by omega)).trans ?_;rw[AT];refine(ADb (Ph h _ (C5 hi)) t (by omega) _).trans ?_;rw[i64_in ((i:Int)+1) (by omega)]
 ·simp only[AkX,fF]
  exact Ae (by omega)
 unfold VH;rw[Ad];refine(Jc (λm i t=>VG m (stK3 k) x (x.length:Int) i (z,p,x,s) z p x s (numb 0 t)) (I1 z) (λt=>Rw (λ_ _ _ _ b1=>k b1 0) s (s.length:Int) 0 z p x s (numb 0 t)) ([],0,[]) x (z.flatMap Ib++p.flatMap (Ic z)) 2 (by omega) (λy hy=>gR) (λm i t hi ht=>?_) λm t=>?_).trans ?_
 ·have hc:=h.oc.2 _ (C5 (d:=(([],0,[]):Bh)) hi)
  rw[AR]at ht;simp only[AkY,fG];refine(Ai (by omega)).trans ?_;refine(Al (by omega)).trans ?_;rw[AT];refine(ADd (gJ hc.1).z (D2 hc.2 (by decide)) t (by omega) _).trans ?_;rw[i64_in ((i:Int)+1) (by omega)]
 ·simp only[AkY,fG]
  exact Ae (by omega)
 refine(ADj (show s.length<=12 by omega) (Wh h) _ (by rw[AR,AR];omega) _).trans ?_;unfold I2;rw[Ci,Ci]
end
end
end Go.Lift
namespace Go.Lift
section
variable{b:UInt8}
theorem zT:∀{l:List UInt8},(∀c∈l,c≠b)->Lib.index l [b]=-1
 |[],_=>rfl
 |c::l,h=>by
  have h1:=zT (l:=l) λx hx=>h x (by simp[hx]);have h2:=h c (by simp);unfold Lib.index;rw[h1]
  have:List.isPrefixOf [b] (c::l)=false:=by simp[List.isPrefixOf];exact λe=>h2 e.symm
  rw[this];rfl
theorem zU:∀{l:List UInt8}(r:List UInt8),(∀c∈l,c≠b)->Lib.index (l++b::r) [b]=(l.length:Int)
 |[],r,_=>by show Lib.index (b::r) [b]=0;unfold Lib.index;simp[List.isPrefixOf]
 |c::l,r,h=>by
  have h1:=zU (l:=l) r λx hx=>h x (by simp[hx]);have h2:=h c (by simp);rw[Fz];unfold Lib.index;rw[h1]
  have:List.isPrefixOf [b] (c::(l++b::r))=false:=by simp[List.isPrefixOf];exact λe=>h2 e.symm
  rw[this];have h3:((l.length:Int)==-1)=false:=by rw[beq_eq_false_iff_ne];omega
  simp[h3]
theorem ADk(l:List UInt8):Lib.contains l [b]=decide (b∈l):=by
 unfold Lib.contains;by_cases h:b∈l
 ·obtain⟨p,q,rfl,hp⟩:=List.eq_append_cons_of_mem h
  rw[zU q (λc hc(e:c=b)=>hp (e▸hc)),At h,At (by omega)]
 ·rw[zT (λc hc(e:c=b)=>h (e▸hc)),AN h]
  rfl
theorem zV{l:List UInt8}(h:∀c∈l,c≠b):Kd l [b]=[l]:=by have hi:=zT h;unfold Kd;rw[Lib.splitB_data];show Lib.splitK [b] 0 (Lib.count l [b]) l=[l];rw[Lib.count_miss hi];rfl
theorem gS{l:List UInt8}(r:List UInt8)(h:∀c∈l,c≠b):Kd (l++b::r) [b]=l::Kd r [b]:=by
 have hi:=zU r h
 have hd:(l++b::r).drop (l.length+1)=r:=by rw[show l++b::r=(l++[b])++r by simp];exact List.drop_left' (by simp)
 unfold Kd;rw[Lib.splitB_data,Lib.splitB_data];show Lib.splitK [b] 0 (Lib.count (l++b::r) [b]) (l++b::r)=l::Lib.splitK [b] 0 (Lib.count r [b]) r;rw[Lib.count_hit (i:=l.length) (by simp) hi,MP];show Lib.splitK [b] 0 (Lib.count ((l++b::r).drop (l.length+1)) [b]+1) (l++b::r)=_;rw[hd];rw[Lib.splitK,hi,if_neg (by rw[beq_iff_eq];omega)];show(l++b::r).take (l.length:Int).toNat::Lib.splitK [b] 0 (Lib.count r [b]) ((l++b::r).drop ((l.length:Int).toNat+1))=_;rw[AT,hd,Yc]
end
end Go.Lift
namespace Go.Lift
open Go.RowKit Go.IntWalk
noncomputable section
set_option maxRecDepth 10000
def FL(c:UInt8):Prop:=48<=c.toNat/\c.toNat<=57
def valF(a:Nat)(l:List UInt8):Nat:=l.foldl (λa c=>a*10+(c.toNat-48)) a
theorem Am0:∀(l:List UInt8)(a:Nat),a<=valF a l
 |[],a=>AQ _
 |c::r,a=>by have:=Am0 r (a*10+(c.toNat-48));show a<=valF (a*10+(c.toNat-48)) r;omega
theorem Wi{m:Nat}(h:m<10):(UInt8.ofNat (48+m)).toNat=48+m:=by rw[UInt8.toNat_ofNat'];omega
theorem Am1:∀(u:Nat),(∀c∈Lib.decDigits u,FL c)/\valF 0 (Lib.decDigits u)=u/\Lib.decDigits u≠[]:=by
 intro u
 induction u using Nat.strongRecOn with
 |_ u ih=>
  rw[Lib.decDigits];split
  ·rename_i h
   refine⟨λc hc=>?_,?_,by simp⟩
   ·simp only[EO]at hc
    subst hc;unfold FL;rw[Wi h];omega
   ·show 0*10+((UInt8.ofNat (48+u)).toNat-48)=u
    rw[Wi h];omega
  ·rename_i h
   obtain⟨h1,h2,h3⟩:=ih (u / 10) (by omega);refine⟨λc hc=>?_,?_,by simp⟩
   ·rcases Cs.1 hc with hc|hc
    ·exact h1 c hc
    ·simp only[EO]at hc
     subst hc;unfold FL;rw[Wi (by omega)];omega
   ·unfold valF at h2⊢
    rw[List.foldl_append,h2];show u / 10*10+((UInt8.ofNat (48+u%10)).toNat-48)=u;rw[Wi (by omega)];omega
theorem Am2:∀(l:List UInt8)(a:Nat),(∀c∈l,FL c)->valF a l<=4611686018427387904->Lib.parseUint10 a l=.ok (valF a l)
 |[],a,_,_=>rfl
 |c::r,a,hd,hv=>by have hc:=hd c (by simp);unfold FL at hc;have Cw:valF (a*10+(c.toNat-48)) r<=4611686018427387904:=hv;have:=Am0 r (a*10+(c.toNat-48));unfold Lib.parseUint10;rw[if_pos hc,if_neg (by omega),if_neg (by omega),Am2 r _ (λc h=>hd c (by simp[h])) Cw];rfl
end
end Go.Lift
namespace Go.Lift
open Go.RowKit Go.IntWalk
noncomputable section
variable[Sl]
set_option maxRecDepth 10000
def DW(n:Nat)(x:Int)(s:List UInt8):Prop:=s.length=n/\(∀c∈s,FL c)/\(valF 0 s:Int)=x
theorem ADl(a:Nat)(l r:List UInt8):valF a (l++r)=valF (valF a l) r:=by unfold valF;rw[List.foldl_append]
theorem zW:∀(l:List UInt8)(a:Nat),(∀c∈l,FL c)->valF a l<(a+1)*10^l.length
 |[],a,_=>by show a<(a+1)*1;omega
 |c::r,a,h=>by have hc:=h c (by simp);unfold FL at hc;have:=zW r (a*10+(c.toNat-48)) λx hx=>h x (by simp[hx]);have h2:(a*10+(c.toNat-48)+1)*10^r.length<=((a+1)*10)*10^r.length:=L9 _ (by omega);show valF (a*10+(c.toNat-48)) r<(a+1)*10^(r.length+1);rw[Nat.pow_succ,Nat.mul_comm (10^r.length) 10,<-Nat.mul_assoc];omega
theorem zX:∀(n u:Nat),u<10^(n+1)->(Lib.decDigits u).length<=n+1
 |0,u,h=>by rw[Lib.decDigits,dif_pos (show u<10 by omega)];simp
 |n+1,u,h=>by
  rw[Lib.decDigits];split
  ·simp
  ·have:=zX n (u / 10) (by rw[Nat.pow_succ]at h;omega)
   rw[AR,Gp];omega
theorem ADm:∀(u:Nat),0<u->∃c r,Lib.decDigits u=c::r/\c.toNat≠48:=by
 intro u
 induction u using Nat.strongRecOn with
 |_ u ih=>
  intro hu;rw[Lib.decDigits];split
  ·rename_i h
   exact⟨_,[],rfl,by rw[Wi h];omega⟩
  ·rename_i h
   obtain⟨c,r,h1,h2⟩:=ih (u / 10) (by omega) (by omega);exact⟨c,r++_,by rw[h1];rfl,h2⟩
theorem ADn{s:List UInt8}(h:∀c∈s,FL c)(hn:s≠[])(hv:valF 0 s<=4611686018427387904):KS s=((valF 0 s:Int),true):=by
 have hm:Lib.parseMag s=.ok (valF 0 s):=by unfold Lib.parseMag;rw[if_neg hn,Am2 _ 0 h hv]
 have key:Lib.atoiAll s=.ok (valF 0 s:Int):=by
  cases s with
  |nil=>exact absurd rfl hn
  |cons c r=>
   have hc:=h c (by simp);unfold FL at hc;unfold Lib.atoiAll;simp only;rw[if_neg (by omega),hm];have AaO:¬(c.toNat=45):=by omega
   simp only[AaO,XW,true_and,false_and,CF];rw[if_neg (by omega)]
 unfold KS;rw[key]
theorem Am3(b:UInt8):∀n,Lib.repeatL [b] n=List.replicate n b
 |0=>rfl
 |n+1=>by rw[Lib.repeatL,Am3 b n];rfl
theorem Am4:∀n,valF 0 (List.replicate n 48)=0
 |0=>rfl
 |n+1=>by rw[List.replicate_succ];exact Am4 n
theorem len2{s:List UInt8}(h:s.length=2):∃a b,s=[a,b]:=by
 match s,h with
 |[a,b],_=>exact⟨a,b,rfl⟩
theorem len4{s:List UInt8}(h:s.length=4):∃a b c d,s=[a,b,c,d]:=by
 match s,h with
 |[a,b,c,d],_=>exact⟨a,b,c,d,rfl⟩
theorem ADo{n:Nat}{x:Int}{s:List UInt8}(h:DW n x s):0<=x/\x<10^n:=by obtain⟨h1,h2,h3⟩:=h;have:=zW s 0 h2;rw[h1,Ei,Nat.one_mul]at this;rw[<-h3];exact⟨by omega,by exact_mod_cast this⟩
theorem Jf{x:Int}{s:List UInt8}(h:DW 2 x s):0<=x/\x<=99:=by have:=ADo h;omega
section
variable{β:Type}
theorem R6{x:Int}{n:Nat}(hn:1<=n/\n<=4)(hx:0<=x/\x<10^n):∃s,DW n x s/\∀{β:Type}(k:List UInt8->Option β),LZ x (n:Int) k=k s:=by
 obtain⟨m,rfl⟩:∃m,n=m+1:=⟨n-1,by omega⟩
 have hu:x.toNat<10^(m+1):=by
  have:=hx.2;have e:((10:Int)^(m+1))=((10^(m+1):Nat):Int):=by norm_cast
  rw[e]at this;omega
 have hp:10^(m+1)<=10^4:=Nat.pow_le_pow_right (by omega) hn.2;have Bp:=zX m x.toNat hu;obtain⟨h1,h2,h3⟩:=Am1 x.toNat
 have hi:Lib.itoa x=Lib.decDigits x.toNat:=by unfold Lib.itoa;rw[if_neg (by omega)]
 refine⟨List.replicate (m+1-(Lib.decDigits x.toNat).length) 48++Lib.decDigits x.toNat,⟨?_,λc hc=>?_,?_⟩,λk=>?_⟩
 ·rw[AR,MI]
  omega
 ·rcases Cs.1 hc with hc|hc
  ·rw[List.eq_of_mem_replicate hc]
   unfold FL;decide
  ·exact h1 c hc
 ·rw[ADl,Am4,h2]
  omega
 ·have AaG:0<(Lib.decDigits x.toNat).length:=MK.2 h3
  unfold LZ;rw[Ad];unfold Ua Tq;refine(c_p2 (by omega) (by omega)).trans ?_;rw[hi];dsimp only;rw[i64_in (((m+1:Nat):Int)-((Lib.decDigits x.toNat).length:Int)) (by omega)]
  have e:(if(((m+1:Nat):Int)-((Lib.decDigits x.toNat).length:Int))>(0:Int)then(((m+1:Nat):Int)-((Lib.decDigits x.toNat).length:Int))else(0:Int))=((m+1-(Lib.decDigits x.toNat).length:Nat):Int):=by split<;>omega
  rw[e];unfold pW YR;rw[AT,Am3];refine(c_p3 (by omega) (by omega) (by rw[Gp];omega)).trans ?_;exact Ai (by rw[MI];omega)
theorem ADp{c:UInt8}(h:FL c)(k:Bool->Option β):OH (c.toNat:Int) k=k true:=by unfold FL at h;unfold OH;rw[Ad];refine(Ai (by omega)).trans ?_;exact k_eq (At (by omega))
theorem zY{s:List UInt8}(h:∀c∈s,FL c)(hn:s≠[])(hl:s.length<=9)(k:Int->Bool->Option β):QY s k=k (valF 0 s:Int) true:=by
 have hv:valF 0 s<=4611686018427387904:=by have h1:=zW s 0 h;have h2:10^s.length<=10^9:=Nat.pow_le_pow_right (by omega) hl;omega
 have key:∀(j i m:Nat),i+j=s.length->j<m->∀(k1:rO β)(k2:rP β),Uz m k1 k2 s (s.length:Int) (i:Int)=k2 s:=by
  intro j
  induction j with
  |zero=>intro i m hi hm k1 k2;obtain⟨m,rfl⟩:∃m',m=m'+1:=⟨m-1,by omega⟩;simp only[Ah5,ZU];exact Ae (by omega)
  |succ j ih=>
   intro i m hi hm k1 k2;obtain⟨m,rfl⟩:∃m',m=m'+1:=⟨m-1,by omega⟩;simp only[Ah5,ZU];refine(Ai (by omega)).trans ?_;refine(Al (by omega)).trans ?_;have Au:i<s.length:=by omega
   have hd:FL (List.getD s (Int.toNat (i:Int)) 0):=by rw[AT,Qd,Ef Au];exact h _ (kB Au)
   refine(ADp hd _).trans ?_;rw[i64_in ((i:Int)+1) (by omega)];exact ih (i+1) m (by omega) (by omega) k1 k2
 unfold QY;rw[Ad];unfold rR;rw[Ad];refine(key s.length 0 fuel (by omega) (BB (by omega)) _ _).trans ?_;unfold pV YO;refine(Ai (by omega)).trans ?_;rw[ADn h hn hv];refine c_t.trans ?_;exact congrFun (Ax k rfl) _ |>.trans (by rw[At (show((s.length:Int)<=9) by omega)])
theorem Wj{x:Int}{s:List UInt8}(h:DW 2 x s)(k:Int->Bool->Option β):QZ s k=k x true:=by obtain⟨h1,h2,h3⟩:=h;unfold QZ;rw[Ad];refine(zY h2 (by intro e;rw[e]at h1;simp at h1) (by omega) _).trans ?_;refine c_t.trans ?_;rw[h3,h1];rfl
theorem ADq:∃m,fuel=m+4:=⟨fuel-4,by have:=BB (n:=4) (by omega);omega⟩
theorem Am5{a b c:Int}{A B C:List UInt8}(hA:DW 2 a A)(hB:DW 2 b B)(hC:DW 2 c C)(hb:b<=59)(hc:c<=59)(k1:sN β)(k2:sO β):aS k1 k2 0 3 0 [A,B,C]=k2 (60*(60*a+b)+c):=by
 have h9:=Jf hA;have AH:=Jf hB;have Gb:=Jf hC;unfold aS;rw[Ad];obtain⟨m,hm⟩:=ADq;rw[hm];simp only[Axh,sQ];refine(Ai (by decide)).trans ?_;refine(Al (by simp only[AX,CX];omega)).trans ?_;refine(Wj hA _).trans ?_;refine c_f.trans ?_;refine(Ae (by decide)).trans ?_;rw[show IntKind.i64.wrap (60*(0:Int))=0 by decide,show IntKind.i64.wrap ((0:Int)+a)=a by rw[i64_in _ (by omega)];omega,show IntKind.i64.wrap ((0:Int)+1)=1 by decide];refine(Ai (by decide)).trans ?_;refine(Al (by simp only[AX,CX];omega)).trans ?_;refine(Wj hB _).trans ?_;refine c_f.trans ?_;refine(Ai (by decide)).trans ?_;refine(Ae (by omega)).trans ?_;rw[i64_in (60*a) (by omega),i64_in (60*a+b) (by omega),show IntKind.i64.wrap ((1:Int)+1)=2 by decide];refine(Ai (by decide)).trans ?_;refine(Al (by simp only[AX,CX];omega)).trans ?_;refine(Wj hC _).trans ?_;refine c_f.trans ?_;refine(Ai (by decide)).trans ?_;refine(Ae (by omega)).trans ?_;rw[i64_in (60*(60*a+b)) (by omega),i64_in (60*(60*a+b)+c) (by omega),show IntKind.i64.wrap ((2:Int)+1)=3 by decide];exact Ae (by decide)
theorem Hq{b:UInt8}(hb:b.toNat<48\/57<b.toNat){s:List UInt8}(h:∀c∈s,FL c):∀c∈s,c≠b:=by intro c hc e;have:=h c hc;unfold FL at this;rw[e]at this;omega
theorem Am6{a b:Int}{A B:List UInt8}(hA:DW 2 a A)(hB:DW 2 b B)(hb:b<=59)(hs:3600*a+60*b<=86400)(k:Int->Bool->Option β):Lb (A++58::B) k=k (3600*a+60*b) true:=by
 have h9:=Jf hA;have AH:=Jf hB;have hC:DW 2 0 [48,48]:=⟨rfl,by intro c hc;simp at hc;subst hc;unfold FL;decide,rfl⟩;have e:=gS (b:=58) B (Hq (by decide) hA.2.1);rw[zV (Hq (by decide) hB.2.1)]at e;unfold Lb;rw[Ad];unfold QN QG;refine(c_p2 (by rw[AR,AX,hA.1,hB.1];decide) (by decide)).trans ?_;rw[e];refine(Ae (by simp only[AX,CX];omega)).trans ?_;refine(Ae (by simp only[AX,CX];omega)).trans ?_;refine(Er (by simp only[AX,CX];omega)).trans ?_;refine(c_p2 (by omega) (by simp only[AR,AX,CX];omega)).trans ?_;refine(Am5 hA hB hC hb (by omega) _ _).trans ?_;show k _ (decide _)=_;rw[show 60*(60*a+b)+0=3600*a+60*b by omega,At (by omega)]
theorem Am7{a b c:Int}{A B C:List UInt8}(hA:DW 2 a A)(hB:DW 2 b B)(hC:DW 2 c C)(hb:b<=59)(hc:c<=59)(hs:3600*a+60*b+c<=86400)(k:Int->Bool->Option β):Lb (A++58::(B++58::C)) k=k (3600*a+60*b+c) true:=by
 have h9:=Jf hA;have AH:=Jf hB;have Gb:=Jf hC;have e:=gS (b:=58) (B++58::C) (Hq (by decide) hA.2.1);rw[gS (b:=58) C (Hq (by decide) hB.2.1),zV (Hq (by decide) hC.2.1)]at e;unfold Lb;rw[Ad];unfold QN QG;refine(c_p2 (by simp only[AR,AX,hA.1,hB.1,hC.1];decide) (by decide)).trans ?_;rw[e];refine(Ae (by simp only[AX,CX];omega)).trans ?_;refine(Ae (by simp only[AX,CX];omega)).trans ?_;refine(Er (by simp only[AX,CX];omega)).trans ?_;refine(c_p2 (by omega) (by simp only[AR,AX,CX];omega)).trans ?_;refine(Am5 hA hB hC hb hc _ _).trans ?_;show k _ (decide _)=_;rw[show 60*(60*a+b)+c=3600*a+60*b+c by omega,At (by omega)]
theorem Am8{y m d day:Int}{Y M D:List UInt8}(hY:DW 4 y Y)(hM:DW 2 m M)(hD:DW 2 d D)(h:∀{β:Type}(k:Int->Int->Option β),OR (y,m,d) k=k day 0)(k:Int->Bool->Option β):OU (Y++45::(M++45::D)) k=k day true:=by
 obtain⟨y1,y2,y3,y4,rfl⟩:=len4 hY.1;obtain⟨m1,m2,rfl⟩:=len2 hM.1;obtain⟨d1,d2,rfl⟩:=len2 hD.1;unfold OU;rw[Ad];refine(BM rfl).trans ?_;refine(Al (by simp only[AX,AR,CX];omega)).trans ?_;refine(BM rfl).trans ?_;refine(Al (by simp only[AX,AR,CX];omega)).trans ?_;refine(BM rfl).trans ?_;refine(c_p3 (by decide) (by decide) (by simp only[AX,AR,CX];omega)).trans ?_;refine(zY (s:=[y1,y2,y3,y4]) hY.2.1 (by simp) (by simp) _).trans ?_;refine(c_p3 (by decide) (by decide) (by simp only[AX,AR,CX];omega)).trans ?_;refine(Wj (s:=[m1,m2]) hM _).trans ?_;refine(c_p3 (by decide) (by simp only[AX,AR,CX];omega) (by omega)).trans ?_;refine(Wj (s:=[d1,d2]) hD _).trans ?_;rw[hY.2.2];refine(h _).trans ?_;rfl
theorem ADr{a b:Int}{A B:List UInt8}{g:UInt8}(hA:DW 2 a A)(hB:DW 2 b B)(hb:b<=59)(hs:3600*a+60*b<=64800)(k:Int->Bool->Option β):Vb (g::(A++58::B)) k=k (if g=45 then-(3600*a+60*b)else 3600*a+60*b) true:=by
 have h9:=Jf hA;have AH:=Jf hB;have hl:(g::(A++58::B)).length=6:=by simp only[AX,AR,hA.1,hB.1]
 unfold Vb;rw[Ad];refine(c_p3 (by decide) (by rw[hl];decide) (by omega)).trans ?_
 have e:List.drop (Int.toNat 1) (List.take (Int.toNat ((g::(A++58::B)).length:Int)) (g::(A++58::B)))=A++58::B:=by rw[AT,KA];rfl
 rw[e];refine(Am6 hA hB hb (by omega) _).trans ?_;refine(Al (by rw[hl];decide)).trans ?_;by_cases hg:g=45
 ·subst hg
  refine(Ai rfl).trans ?_;rw[i64_in (0-(3600*a+60*b)) (by omega),if_pos rfl];unfold Va;rw[Ad];unfold bZ;refine c_t.trans ?_;refine(Ai (by rw[hl];rfl)).trans ?_;refine(Ai (by omega)).trans ?_;show k _ (decide _)=_;rw[At (by omega),show 0-(3600*a+60*b)=-(3600*a+60*b) by omega]
 ·refine(Ae (λe=>hg ?_)).trans ?_
  ·have:g.toNat=45:=by have e:((g.toNat:Nat):Int)=45:=e;omega
   exact UInt8.toNat_inj.1 this
  ·rw[if_neg hg]
   unfold Va;rw[Ad];unfold bZ;refine c_t.trans ?_;refine(Ai (by rw[hl];rfl)).trans ?_;refine(Ai (by omega)).trans ?_;show k _ (decide _)=_;rw[At (by omega)]
theorem ADs{y m d day a b c:Int}{Y M D A B C:List UInt8}(hY:DW 4 y Y)(hM:DW 2 m M)(hD:DW 2 d D)(h:∀{β:Type}(k:Int->Int->Option β),OR (y,m,d) k=k day 0)(hd:0<=day/\day<=100000)(hA:DW 2 a A)(hB:DW 2 b B)(hC:DW 2 c C)(ha:a<=23)(hb:b<=59)(hc:c<=59)(k:Int->Bool->Option β):Rk (Y++45::(M++45::(D++84::(A++58::(B++58::(C++[90])))))) k=k (day*86400+(3600*a+60*b+c)) true:=by
 have h9:=Jf hA;have AH:=Jf hB;have Gb:=Jf hC;have e1:=λk=>Am8 (β:=β) hY hM hD h k;have e2:=λk=>Am7 (β:=β) hA hB hC hb hc (by omega) k;obtain⟨y1,y2,y3,y4,rfl⟩:=len4 hY.1;obtain⟨m1,m2,rfl⟩:=len2 hM.1;obtain⟨d1,d2,rfl⟩:=len2 hD.1;obtain⟨a1,a2,rfl⟩:=len2 hA.1;obtain⟨b1,b2,rfl⟩:=len2 hB.1;obtain⟨c1,c2,rfl⟩:=len2 hC.1;unfold Rk;rw[Ad];refine(BM rfl).trans ?_;refine(Al (by simp only[AX,AR,CX];omega)).trans ?_;refine(BM rfl).trans ?_;refine(Al (by simp only[AX,AR,CX];omega)).trans ?_;refine(BM rfl).trans ?_;refine(c_p3 (by decide) (by decide) (by simp only[AX,AR,CX];omega)).trans ?_;refine(e1 _).trans ?_;refine(c_p3 (by decide) (by decide) (by simp only[AX,AR,CX];omega)).trans ?_;refine(e2 _).trans ?_;refine c_t.trans ?_;refine c_t.trans ?_;show k _ (decide _)=_;rw[i64_in (day*86400) (by omega),i64_in (day*86400+(3600*a+60*b+c)) (by omega),At (by omega)]
end
end
end Go.Lift
namespace Go.Lift
open Go.RowKit Go.IntWalk
noncomputable section
variable[Sl]
set_option maxRecDepth 10000
section
variable{β:Type}
theorem zZ{c:Int}(h:c<97)(k:Bool->Option β):Nk c k=k false:=by unfold Nk;rw[Ad];exact Ae (by omega)
theorem Am9{g:UInt8}{r:List UInt8}(hg:g.toNat<97)(hl:r.length<=23)(k:Bool->Option β):La (g::r) k=k false:=by unfold La;rw[Ad];refine(Ae (by simp)).trans ?_;refine(Ae (by rw[AX];omega)).trans ?_;refine(Al (by rw[AX];omega)).trans ?_;refine(zZ (by show((g.toNat:Nat):Int)<97;omega) _).trans ?_;rfl
theorem Aa0{s:List UInt8}(b:UInt8)(hl:s.length<1000)(k:Bool->Option β):QR s [b] k=k (decide (b∈s)):=by unfold QR YP;rw[ADk];exact Ai (by omega)
theorem ADt{c:UInt8}{r:List UInt8}(hc:c.toNat<97/\c.toNat≠43/\c.toNat≠45)(hl:(c::r).length<1000)(k:Int->Int->Bool->Option β):Md (c::r) k=cond (decide (84∈c::r)) (Rk (c::r) λn ok=>k 5 n ok) (cond (decide (45∈c::r)) (OU (c::r) λn ok=>k 3 n ok) (cond (decide (58∈c::r)) (Lb (c::r) λn ok=>k 2 n ok) (Rl (λa b d=>k a b d) (c::r)))):=by
 unfold Md;rw[Ad];refine(Al (by rw[AX];omega)).trans ?_;refine(zZ (by show((c.toNat:Nat):Int)<97;omega) _).trans ?_;refine c_f.trans ?_;refine(Ae (by show ¬((c.toNat:Nat):Int)=43;omega)).trans ?_;dsimp only;rw[AN (show ¬(((List.getD (c::r) (Int.toNat 0) 0).toNat:Nat):Int)=45 by show ¬((c.toNat:Nat):Int)=45;omega)];unfold Rm;rw[Ad];unfold Vn;refine c_f.trans ?_;refine(Aa0 84 hl _).trans ?_;congr 1;refine(Aa0 45 hl _).trans ?_;congr 1;refine(Aa0 58 hl _).trans ?_;rfl
def HeadOk(s:List UInt8):Prop:=∃c r,s=c::r/\c.toNat<97/\c.toNat≠43/\c.toNat≠45
theorem HeadOk.app{p:List UInt8}(h:HeadOk p)(q:List UInt8):HeadOk (p++q):=by obtain⟨c,r,rfl,h⟩:=h;exact⟨c,r++q,rfl,h⟩
theorem Wk{s:List UInt8}(h:HeadOk s)(hl:s.length<1000)(k:Int->Int->Bool->Option β):Md s k=cond (decide (84∈s)) (Rk s λn ok=>k 5 n ok) (cond (decide (45∈s)) (OU s λn ok=>k 3 n ok) (cond (decide (58∈s)) (Lb s λn ok=>k 2 n ok) (Rl (λa b d=>k a b d) s))):=by
 obtain⟨c,r,rfl,h⟩:=h;exact ADt h hl k
theorem Wl{s:List UInt8}(h:HeadOk s)(hl:s.length<=20)(k:Bool->Option β):La s k=k false:=by obtain⟨c,r,rfl,h⟩:=h;exact Am9 h.1 (by rw[AX]at hl;omega) k
theorem ADu{c:UInt8}{r:List UInt8}(hc:c.toNat=43\/c.toNat=45)(k:Int->Int->Bool->Option β):Md (c::r) k=Vb (c::r) λn ok=>k 4 n ok:=by
 unfold Md;rw[Ad];refine(Al (by rw[AX];omega)).trans ?_;refine(zZ (by show((c.toNat:Nat):Int)<97;omega) _).trans ?_;refine c_f.trans ?_;by_cases h:c.toNat=43
 ·refine(Ai (by show((c.toNat:Nat):Int)=43;omega)).trans ?_
  unfold Rm;rw[Ad];unfold Vn;exact c_t
 ·refine(Ae (by show ¬((c.toNat:Nat):Int)=43;omega)).trans ?_
  dsimp only;rw[At (show(((List.getD (c::r) (Int.toNat 0) 0).toNat:Nat):Int)=45 by show((c.toNat:Nat):Int)=45;omega)];unfold Rm;rw[Ad];unfold Vn;exact c_t
theorem R7{s:List UInt8}{kind n:Int}(hs:s≠[])(hk:kind≠0)(h:∀{β:Type}(k:Int->Int->Bool->Option β),Md s k=k kind n true)(k:Int×List UInt8×Int->Int->Option β):OX s k=k (kind,[],n) 0:=by
 unfold OX;rw[Ad];refine(Ae hs).trans ?_;refine(h _).trans ?_;refine c_f.trans ?_;dsimp only;rw[AN hk];rfl
structure TokText (t:Int×List UInt8×Int) (s:List UInt8):Prop where
 txt:∀{β:Type}(k:List UInt8->Int->Option β),OW t k=k s 0
 tok:∀{β:Type}(k:Int×List UInt8×Int->Int->Option β),OX s k=k t 0
 nam:∀{β:Type}(k:Bool->Option β),La s k=k false
 ne:s≠[]
 ch:∀c∈s,43<=c.toNat/\c.toNat<=90
 len:s.length<=20
theorem Hr{s:List UInt8}(h:∀c∈s,FL c):∀c∈s,43<=c.toNat/\c.toNat<=90:=λc hc=>by have:=h c hc;unfold FL at this;omega
theorem JJ{p q:List UInt8}{b:UInt8}(hp:∀c∈p,43<=c.toNat/\c.toNat<=90)(hb:43<=b.toNat/\b.toNat<=90)(hq:∀c∈q,43<=c.toNat/\c.toNat<=90):∀c∈p++b::q,43<=c.toNat/\c.toNat<=90:=by
 intro c hc;rcases Cs.1 hc with hc|hc
 ·exact hp c hc
 ·rcases Bw.1 hc with rfl|hc
  ·exact hb
  ·exact hq c hc
theorem Nz{p q:List UInt8}{a b:UInt8}(hp:∀c∈p,c≠a)(hb:b≠a)(hq:∀c∈q,c≠a):∀c∈p++b::q,c≠a:=by
 intro c hc;rcases Cs.1 hc with hc|hc
 ·exact hp c hc
 ·rcases Bw.1 hc with rfl|hc
  ·exact hb
  ·exact hq c hc
theorem N0{s:List UInt8}{a:UInt8}(h:∀c∈s,c≠a):decide (a∈s)=false:=AN λhm=>h a hm rfl
theorem Aa1{p q:List UInt8}{a:UInt8}:decide (a∈p++a::q)=true:=At (by simp)
theorem Aa2{n:Nat}{x:Int}{s:List UInt8}(h:DW (n+1) x s):HeadOk s:=by
 match s,h with
 |[],h=>exact absurd h.1 (by simp)
 |c::r,h=>have:=h.2.1 c (by simp);unfold FL at this;exact⟨c,r,rfl,by omega,by omega,by omega⟩
theorem Aa3{n:Int}(hn:0<=n/\n<=300000):∃A B C,DW 2 (n / 3600) A/\DW 2 (n / 60%60) B/\DW 2 (n%60) C/\∀{β:Type}(sec:Bool)(k:List UInt8->Option β),OQ n sec k=k (cond sec (A++58::(B++58::C)) (A++58::B)):=by
 obtain⟨A,hA,fA⟩:=R6 (x:=n / 3600) (n:=2) (by omega) (by omega);obtain⟨B,hB,fB⟩:=R6 (x:=n / 60%60) (n:=2) (by omega) (by omega);obtain⟨C,hC,fC⟩:=R6 (x:=n%60) (n:=2) (by omega) (by omega);have e1:Int.tdiv n 3600=n / 3600:=GJ hn.1;have e2:Int.tdiv n 60=n / 60:=GJ hn.1;have e3:Int.tmod (n / 60) 60=n / 60%60:=FD (by omega);have e4:Int.tmod n 60=n%60:=FD hn.1;refine⟨A,B,C,hA,hB,hC,λsec k=>?_⟩;unfold OQ;rw[Ad];rw[e1,i64_in (n / 3600) (by omega)];refine(fA _).trans ?_;refine(Ai (by rw[hA.1];decide)).trans ?_;rw[e2,i64_in (n / 60) (by omega),e3];refine(fB _).trans ?_;refine(Ai (by rw[AR,hA.1,hB.1];decide)).trans ?_;cases sec with
 |false=>refine c_f.trans ?_;exact k_eq (by simp)
 |true=>refine c_t.trans ?_;rw[e4];refine(fC _).trans ?_;refine(Ai (by rw[hC.1];decide)).trans ?_;refine(Ai (by simp only[AR,hA.1,hB.1,hC.1];decide)).trans ?_;exact k_eq (by simp)
theorem Ama{day:Int}(h:0<=day/\day<98981):∃y m d Y M D,DW 4 y Y/\DW 2 m M/\DW 2 d D/\(∀{β:Type}(k:Int->Int->Option β),OR (y,m,d) k=k day 0)/\∀{β:Type}(k:List UInt8->Bool->Option β),UH day k=k (Y++45::(M++45::D)) true:=by
 obtain⟨y,m,d,q⟩:=Al8 h;have q1:=q.yr;have q2:=q.mo;have q3:=q.dd;obtain⟨Y,hY,fY⟩:=R6 (x:=y) (n:=4) (by omega) (by omega);obtain⟨M,hM,fM⟩:=R6 (x:=m) (n:=2) (by omega) (by omega);obtain⟨D,hD,fD⟩:=R6 (x:=d) (n:=2) (by omega) (by omega);refine⟨y,m,d,Y,M,D,hY,hM,hD,q.day,λk=>?_⟩;unfold UH;rw[Ad];refine(q.of _).trans ?_;refine(fY _).trans ?_;refine(Ai (by rw[hY.1];decide)).trans ?_;refine(fM _).trans ?_;refine(Ai (by simp only[AR,hY.1,hM.1];decide)).trans ?_;refine(Ai (by simp only[AR,hY.1,hM.1];decide)).trans ?_;refine(fD _).trans ?_;refine(Ai (by simp only[AR,hY.1,hM.1,hD.1];decide)).trans ?_;show k _ (decide _)=_;rw[At (by rfl)];simp
theorem R8{t:Int×List UInt8×Int}{s:List UInt8}(h0:t.1≠0)(h1:t.2.1=[])(h:∀{β:Type}(k:List UInt8->Bool->Option β),Ma t k=k s true)(k:List UInt8->Int->Option β):OW t k=k s 0:=by unfold OW;rw[Ad];refine(Ae h0).trans ?_;refine(h _).trans ?_;refine c_f.trans ?_;exact BM h1
theorem ADv{n:Int}(hn:0<=n/\n<=999999999):∃s,TokText (1,[],n) s:=by
 obtain⟨h1,h2,h3⟩:=Am1 n.toNat;have Bp:=zX 8 n.toNat (by omega)
 have hi:Lib.itoa n=Lib.decDigits n.toNat:=by unfold Lib.itoa;rw[if_neg (by omega)]
 have AGt:∃c r,Lib.decDigits n.toNat=c::r/\(c.toNat≠48\/Lib.decDigits n.toNat=[48]):=by
  by_cases h:n.toNat=0
  ·rw[h]
   exact⟨48,[],by rw[Lib.decDigits,dif_pos (by omega)];rfl,.inr (by rw[Lib.decDigits,dif_pos (by omega)];rfl)⟩
  ·obtain⟨c,r,h4,h5⟩:=ADm n.toNat (by omega)
   exact⟨c,r,h4,.inl h5⟩
 obtain⟨c,r,e,hz⟩:=AGt;have hc:=h1 c (by rw[e];simp);unfold FL at hc;refine⟨Lib.decDigits n.toNat,R8 (by show(1:Int)≠0;decide) rfl λk=>?_,R7 h3 (by decide) λk=>?_,λk=>?_,h3,Hr h1,by omega⟩
 ·unfold Ma
  rw[Ad];unfold Ua Tq;refine c_t.trans ?_;refine(c_p2 (by show-9223372036854775808<=n;omega) (by show n<=9223372036854775807;omega)).trans ?_;refine(Ai (by show 0<=n;omega)).trans ?_;show k _ (decide _)=_;rw[At (by show n<=999999999;omega)];show k (Lib.itoa n) true=_;rw[hi]
 ·refine(Wk ⟨c,r,e,by omega,by omega,by omega⟩ (by omega) _).trans ?_
  rw[N0 (Hq (by decide) h1),N0 (Hq (by decide) h1),N0 (Hq (by decide) h1)];refine c_f.trans (c_f.trans (c_f.trans ?_));unfold Rl;rw[Ad];unfold vM;refine(zY h1 h3 (by omega) _).trans ?_;refine c_t.trans ?_;refine(Al (by have:=MK.2 h3;omega)).trans ?_;rw[show((valF 0 (Lib.decDigits n.toNat):Nat):Int)=n by rw[h2];omega];by_cases h0:c.toNat=48
  ·refine(BM (by rw[e];show((c.toNat:Nat):Int)=48;omega)).trans ?_
   rcases hz with hz|hz
   ·exact absurd h0 hz
   ·show k _ _ (decide _)=_
    rw[At hz]
  ·exact Fe (by rw[e];show ¬((c.toNat:Nat):Int)=48;omega)
 ·exact Wl ⟨c,r,e,by omega,by omega,by omega⟩ (by omega) k
theorem ADw{n:Int}(hn:0<=n/\n<=86400):∃s,TokText (2,[],n) s:=by
 obtain⟨A,B,C,hA,hB,hC,f⟩:=Aa3 (n:=n) (by omega);have ha:=Aa2 hA;have e4:Int.tmod n 60=n%60:=FD hn.1
 have ht:∀{β:Type}(k:List UInt8->Bool->Option β),Ma (2,[],n) k=OQ n (!decide (n%60=0)) λs=>k s true:=by intro β k;unfold Ma;rw[Ad];refine c_f.trans (c_t.trans ?_);refine(Ai (by show 0<=n;omega)).trans ?_;unfold bY;rw[Ad];unfold uG;dsimp only;rw[e4,At (show n<=86400 by omega)]
 have nA:=Hq (b:=84) (by decide) hA.2.1;have nB:=Hq (b:=84) (by decide) hB.2.1;have nC:=Hq (b:=84) (by decide) hC.2.1;have mA:=Hq (b:=45) (by decide) hA.2.1;have mB:=Hq (b:=45) (by decide) hB.2.1;have mC:=Hq (b:=45) (by decide) hC.2.1;have lA:=hA.1;by_cases h0:n%60=0
 ·refine⟨A++58::B,R8 (by show(2:Int)≠0;decide) rfl λk=>?_,R7 (by simp) (by decide) λk=>?_,λk=>Wl (ha.app _) (by simp only[AR,AX,hB.1,lA];omega) k,by simp,
   JJ (Hr hA.2.1) (by decide) (Hr hB.2.1),by simp only[AR,AX,hB.1,lA];omega⟩
  ·refine(ht k).trans ((f _ _).trans ?_)
   rw[At h0];rfl
  ·refine(Wk (ha.app _) (by simp only[AR,AX,hB.1,lA];omega) _).trans ?_
   have x1:=N0 (Nz nA (show(58:UInt8)≠84 by decide) nB);have x2:=N0 (Nz mA (show(58:UInt8)≠45 by decide) mB);have x3:=Aa1 (p:=A) (q:=B) (a:=58);rw[x1,x2,x3];refine c_f.trans (c_f.trans (c_t.trans ?_));refine(Am6 hA hB (by omega) (by omega) _).trans ?_;rw[show 3600*(n / 3600)+60*(n / 60%60)=n by omega]
 ·refine⟨A++58::(B++58::C),R8 (by show(2:Int)≠0;decide) rfl λk=>?_,R7 (by simp) (by decide) λk=>?_,λk=>Wl (ha.app _) (by simp only[AR,AX,hB.1,hC.1,lA];omega) k,by simp,
   JJ (Hr hA.2.1) (by decide) (JJ (Hr hB.2.1) (by decide) (Hr hC.2.1)),by simp only[AR,AX,hB.1,hC.1,lA];omega⟩
  ·refine(ht k).trans ((f _ _).trans ?_)
   rw[AN h0];rfl
  ·refine(Wk (ha.app _) (by simp only[AR,AX,hB.1,hC.1,lA];omega) _).trans ?_
   have x1:=N0 (Nz nA (show(58:UInt8)≠84 by decide) (Nz nB (show(58:UInt8)≠84 by decide) nC));have x2:=N0 (Nz mA (show(58:UInt8)≠45 by decide) (Nz mB (show(58:UInt8)≠45 by decide) mC));have x3:=Aa1 (p:=A) (q:=B++58::C) (a:=58);rw[x1,x2,x3];refine c_f.trans (c_f.trans (c_t.trans ?_));refine(Am7 hA hB hC (by omega) (by omega) (by omega) _).trans ?_;rw[show 3600*(n / 3600)+60*(n / 60%60)+n%60=n by omega]
theorem ADx{n:Int}(hn:0<=n/\n<98981):∃s,TokText (3,[],n) s:=by
 obtain⟨y,m,d,Y,M,D,hY,hM,hD,hq,f⟩:=Ama hn;have ha:=Aa2 hY;have lY:=hY.1
 refine⟨Y++45::(M++45::D),R8 (by show(3:Int)≠0;decide) rfl λk=>?_,R7 (by simp) (by decide) λk=>?_,λk=>Wl (ha.app _) (by simp only[AR,AX,hM.1,hD.1,lY];omega) k,by simp,
  JJ (Hr hY.2.1) (by decide) (JJ (Hr hM.2.1) (by decide) (Hr hD.2.1)),by simp only[AR,AX,hM.1,hD.1,lY];omega⟩
 ·unfold Ma
  rw[Ad];refine c_f.trans (c_f.trans (c_t.trans ?_));exact f _
 ·refine(Wk (ha.app _) (by simp only[AR,AX,hM.1,hD.1,lY];omega) _).trans ?_
  have x1:=N0 (Nz (Hq (b:=84) (by decide) hY.2.1) (show(45:UInt8)≠84 by decide) (Nz (Hq (b:=84) (by decide) hM.2.1) (show(45:UInt8)≠84 by decide) (Hq (b:=84) (by decide) hD.2.1)));have x2:=Aa1 (p:=Y) (q:=M++45::D) (a:=45);rw[x1,x2];refine c_f.trans (c_t.trans ?_);exact Am8 hY hM hD hq _
theorem ADy{n:Int}(hn:-64800<=n/\n<=64800)(Aak:n%60=0):∃s,TokText (4,[],n) s:=by
 have key:∀(p:Int)(g:UInt8),0<=p->p<=64800->p%60=0->(g=43/\n=p/\0<=n)\/(g=45/\n=-p/\n<0)->∃s,TokText (4,[],n) s:=by
  intro p g EJ CD EX hg;obtain⟨A,B,C,hA,hB,hC,f⟩:=Aa3 (n:=p) (by omega);have JQ:g.toNat=43\/g.toNat=45:=by rcases hg with⟨rfl,_⟩|⟨rfl,_⟩<;>decide
  have e4:Int.tmod p 60=p%60:=FD EJ
  have hp:∀{β:Type}(k1:AiB β),UZ k1 p [g]=k1 (g::(A++58::B)) true:=by intro β k1;unfold UZ;rw[Ad];unfold uH;refine(f false _).trans ?_;refine(Ai (by simp only[AR,AX,Cd,hA.1,hB.1];decide)).trans ?_;refine(Ai EJ).trans ?_;refine(Ai CD).trans ?_;show k1 _ (decide _)=_;rw[e4,At EX];rfl
  refine⟨g::(A++58::B),R8 (by show(4:Int)≠0;decide) rfl λk=>?_,R7 (by simp) (by decide) λk=>?_,λk=>Am9 (by omega) (by simp only[AR,AX,hA.1,hB.1];decide) k,by simp,
   λc hc=>?_,by simp only[AR,AX,hA.1,hB.1];decide⟩
  ·unfold Ma
   rw[Ad];refine c_f.trans (c_f.trans (c_f.trans (c_t.trans ?_)));rcases hg with⟨rfl,rfl,h⟩|⟨rfl,rfl,h⟩
   ·refine(Ae (by show ¬n<0;omega)).trans ?_
    exact hp _
   ·refine(Ai (by show-p<0;omega)).trans ?_
    dsimp only;rw[show IntKind.i64.wrap (0- -p)=p by rw[i64_in _ (by omega)];omega];exact hp _
  ·refine(ADu JQ _).trans ?_
   refine(ADr hA hB (by omega) (by omega) _).trans ?_;rcases hg with⟨rfl,rfl,h⟩|⟨rfl,rfl,h⟩
   ·rw[if_neg (by decide),show 3600*(n / 3600)+60*(n / 60%60)=n by omega]
   ·rw[if_pos rfl,show 3600*(p / 3600)+60*(p / 60%60)=p by omega]
  ·rcases Bw.1 hc with rfl|hc
   ·omega
   ·exact JJ (Hr hA.2.1) (by decide) (Hr hB.2.1) c hc
 by_cases h:n<0
 ·exact key (-n) 45 (by omega) (by omega) (by omega) (.inr ⟨rfl,by omega,h⟩)
 ·exact key n 43 (by omega) (by omega) Aak (.inl ⟨rfl,rfl,by omega⟩)
theorem ADz{n:Int}(hn:0<=n/\n<98981*86400):∃s,TokText (5,[],n) s:=by
 obtain⟨y,m,d,Y,M,D,hY,hM,hD,hq,f⟩:=Ama (day:=n / 86400) (by omega);obtain⟨A,B,C,hA,hB,hC,f2⟩:=Aa3 (n:=n%86400) (by omega);have ha:=Aa2 hY;have lY:=hY.1;have e1:Int.tdiv n 86400=n / 86400:=GJ hn.1;have e2:Int.tmod n 86400=n%86400:=FD hn.1
 refine⟨Y++45::(M++45::(D++84::(A++58::(B++58::(C++[90]))))),R8 (by show(5:Int)≠0;decide) rfl λk=>?_,R7 (by simp) (by decide) λk=>?_,
  λk=>Wl (ha.app _) (by simp only[AR,AX,CX,hM.1,hD.1,hA.1,hB.1,hC.1,lY];omega) k,by simp,
  JJ (Hr hY.2.1) (by decide) (JJ (Hr hM.2.1) (by decide) (JJ (Hr hD.2.1) (by decide) (JJ (Hr hA.2.1) (by decide) (JJ (Hr hB.2.1) (by decide) (JJ (Hr hC.2.1) (by decide) (by simp)))))),
  by simp only[AR,AX,CX,hM.1,hD.1,hA.1,hB.1,hC.1,lY];omega⟩
 ·unfold Ma
  rw[Ad];refine c_f.trans (c_f.trans (c_f.trans (c_f.trans (c_t.trans ?_))));dsimp only;rw[e1,i64_in (n / 86400) (by omega)];refine(f _).trans ?_;refine(Ai (by simp only[AR,AX,CX,hM.1,hD.1,lY];omega)).trans ?_;rw[e2];refine(f2 true _).trans ?_;refine(Ai (by simp only[AR,AX,CX,Ar,hM.1,hD.1,hA.1,hB.1,hC.1,lY];omega)).trans ?_;refine(Ai (by simp only[AR,AX,CX,Ar,hM.1,hD.1,hA.1,hB.1,hC.1,lY];omega)).trans ?_;refine c_t.trans ?_;show k _ (decide _)=_;rw[At hn.1];simp
 ·refine(Wk (ha.app _) (by simp only[AR,AX,CX,hM.1,hD.1,hA.1,hB.1,hC.1,lY];omega) _).trans ?_
  have x1:decide (84∈Y++45::(M++45::(D++84::(A++58::(B++58::(C++[90]))))))=true:=At (by simp);rw[x1];refine c_t.trans ?_;refine(ADs hY hM hD hq (by omega) hA hB hC (by omega) (by omega) (by omega) _).trans ?_;rw[show n / 86400*86400+(3600*(n%86400 / 3600)+60*(n%86400 / 60%60)+n%86400%60)=n by omega]
end
end
end Go.Lift
namespace Go.Lift
open Go.RowKit Go.IntWalk
noncomputable section
variable[Sl]
set_option maxRecDepth 10000
def Txt(t:Tok)(s:List UInt8):Prop:=∀{β:Type}(k:List UInt8->Int->Option β),OW t k=k s 0
theorem Txt.uniq{t:Tok}{s s':List UInt8}(h:Txt t s)(h':Txt t s'):s=s':=
 NX ((h λa _=>some a).symm.trans (h' λa _=>some a))
def txOf(t:Tok):List UInt8:=by
 classical exact if h:∃s,Txt t s then Classical.choose h else []
theorem Amb{t:Tok}{s:List UInt8}(h:Txt t s):txOf t=s:=by have hx:∃s,Txt t s:=⟨s,h⟩;unfold txOf;rw[dif_pos hx];exact Txt.uniq (t:=t) (Classical.choose_spec hx) h
def tw(t:Tok):Nat:=if t.1=0 then t.2.1.length else 20
structure TokG (t:Tok):Prop where
 txt:Txt t (txOf t)
 len:(txOf t).length<=tw t
 tok:∀{β:Type}(k:Tok->Int->Option β),OX (txOf t) k=k t 0
 ne:txOf t≠[]
 ch:∀c∈txOf t,33<=c.toNat/\c.toNat<=126/\c.toNat≠35
theorem Do{s:List UInt8}(h:Cy s=true):TokG (wd s):=by
 have hx:Txt (wd s) s:=by intro β k;unfold OW;rw[Ad];refine(Ai rfl).trans ?_;refine(yU _ _).trans ?_;show cond (!Cy s) _ _=_;rw[h];refine c_f.trans ?_;exact BM (p:=(wd s).2.2=0) rfl
 have e:=Amb hx
 have AW:s≠[]:=by intro g;rw[g]at h;cases h
 have Ms:s.all Kl=true:=by unfold Cy at h;simp only[CE]at h;exact h.2.2.2
 have AHn:JE (s.getD 0 0).toNat=true:=by unfold Cy at h;simp only[CE]at h;exact h.2.2.1
 refine⟨by rw[e];exact hx,by rw[e];exact AQ _,λ{β} k=>?_,by rw[e];exact AW,λc hc=>?_⟩
 ·rw[e]
  unfold OX;rw[Ad];refine(Ae AW).trans ?_;unfold Md;rw[Ad];have Bp:0<s.length:=MK.2 AW;refine(Al (show(0:Int)<=0/\(0:Int)<(s.length:Int) by omega)).trans ?_;refine(yT _ _).trans ?_;rw[show JE ((s.getD (Int.toNat (0:Int)) 0).toNat:Int)=true from AHn];refine c_t.trans ?_;refine(yU _ _).trans ?_;rw[h];rfl
 ·rw[e]at hc
  have h1:=Eh.1 Ms c hc;unfold Kl JE Pd inI at h1;simp only[LC,CE,Im]at h1;omega
theorem Wm{t n:Int}{s:List UInt8}(ht:t≠0)(h:TokText (t,[],n) s):TokG (nu t n):=by
 have e:=Amb (t:=nu t n) h.txt;refine⟨by rw[e];exact h.txt,?_,λk=>by rw[e];exact h.tok k,by rw[e];exact h.ne,λc hc=>?_⟩
 ·rw[e]
  unfold tw;rw[if_neg (show ¬(nu t n).1=0 from ht)];exact h.len
 ·rw[e]at hc
  have:=h.ch c hc;omega
theorem Wn{n:Int}(h:0<=n/\n<=999999999):TokG (nu 1 n):=let⟨_,h⟩:=ADv h;Wm (by decide) h
theorem gT{n:Int}(h:0<=n/\n<=86400):TokG (nu 2 n):=let⟨_,h⟩:=ADw h;Wm (by decide) h
theorem Amc{n:Int}(h:0<=n/\n<98981):TokG (nu 3 n):=let⟨_,h⟩:=ADx h;Wm (by decide) h
theorem Amd{n:Int}(h:-64800<=n/\n<=64800)(Aak:n%60=0):TokG (nu 4 n):=let⟨_,h⟩:=ADy h Aak;Wm (by decide) h
theorem Ame{n:Int}(h:0<=n/\n<98981*86400):TokG (nu 5 n):=let⟨_,h⟩:=ADz h;Wm (by decide) h
def GT(ts:List Tok):List UInt8:=Lib.join (ts.map txOf) [32]
def lw:List Tok->Nat
 |[]=>0
 |t::r=>tw t+1+lw r
def GB(ls:List (List Tok)):List UInt8:=ls.flatMap λts=>GT ts++[10]
def lw3(ts:List Tok):Nat:=lw ts+2*ts.length
structure LineG (ts:List Tok):Prop where
 form:∀{β:Type}(k:Bool->Option β),DV ts k=k true
 toks:∀t∈ts,TokG t
 few:ts.length<=300
 room:lw3 ts<=512
theorem Amf:∀{ts:List Tok},(∀t∈ts,TokG t)->(Lib.joinTail [32] (ts.map txOf)).length<=lw ts
 |[],_=>by simp[Lib.joinTail]
 |t::r,h=>by have h1:=(h t (CW ..)).len;have h2:=Amf (ts:=r) λx hx=>h x (BY _ hx);unfold Lib.joinTail at h2⊢;simp only[CM,List.flatten_cons,AR,Gp];unfold lw;omega
theorem Wo{ts:List Tok}(h:∀t∈ts,TokG t):(GT ts).length<=lw ts:=by
 cases ts with
 |nil=>unfold GT;simp[Lib.join_nil]
 |cons t r=>have h1:=(h t (CW ..)).len;have h2:=Amf (ts:=r) λx hx=>h x (BY _ hx);unfold GT;rw[CM,Lib.join_cons,AR];unfold lw;omega
section
variable{β:Type}
theorem ADA{ts:List Tok}(h:LineG ts)(n:Int)(k:List UInt8->Int->Option β):cX (n,ts) k=k (GT ts) 0:=by
 have hl:=h.few;have hr:=Wo h.toks;have hm:=h.room;unfold lw3 at hm;unfold cX;rw[Ad];unfold vK;rw[Ad];refine(h.form _).trans ?_;refine c_f.trans ?_
 refine(Jc (λm i s=>Vm m (λt2 t3=>k t2 t3) (λwords=>
   cond (decide (List.length words<=140737488355328)&&decide (List.length (Lib.join words ([32]:List UInt8))<=140737488355328))
   (cond (decide ((512:Int)<(List.length (Lib.join words ([32]:List UInt8)):Int))) (k ([]:List UInt8) (5:Int)) (k (Lib.join words ([32]:List UInt8)) (0:Int))) none) ts (ts.length:Int) i s)
  (λt=>[txOf t]) (λwords=>
   cond (decide (List.length words<=140737488355328)&&decide (List.length (Lib.join words ([32]:List UInt8))<=140737488355328))
   (cond (decide ((512:Int)<(List.length (Lib.join words ([32]:List UInt8)):Int))) (k ([]:List UInt8) (5:Int)) (k (Lib.join words ([32]:List UInt8)) (0:Int))) none)
  (0,[],0) ts [] 1 (by omega) (λ_ _=>by simp) (λm i s hi hs=>?_) λm s=>?_).trans ?_
 ·simp only[CX]at hs
  simp only[Ajd,cW];refine(Ai (by omega)).trans ?_;refine(Al (by omega)).trans ?_;rw[AT];refine((h.toks _ (C5 hi)).txt _).trans ?_;refine(BM rfl).trans ?_;refine(Er (show(s.length+1)*16<=_ by omega)).trans ?_;rw[i64_in ((i:Int)+1) (by omega)]
 ·simp only[Ajd,cW]
  exact Ae (by omega)
 ·rw[Fl,Pf]
  show cond (decide ((ts.map txOf).length<=140737488355328)&&decide ((GT ts).length<=140737488355328)) (cond (decide ((512:Int)<((GT ts).length:Int))) (k [] 5) (k (GT ts) 0)) none=_;rw[At (show(ts.map txOf).length<=140737488355328 by rw[DK];omega),At (show(GT ts).length<=140737488355328 by omega)];exact Ae (by omega)
theorem Amg:∀(ls:List (List Tok))(n i:Nat),i<ls.length->((numb n ls).getD i (0,[])).2=ls.getD i []
 |[],_,_,h=>absurd h (MN _)
 |t::r,n,0,_=>rfl
 |t::r,n,i+1,h=>Amg r (n+1) i (by simpa using h)
theorem ADB(a b:List UInt8):CQ (a++b)=CQ a++CQ b:=by simp[CQ]
theorem Amh(a:List UInt8):(CQ a).length=a.length:=by simp[CQ]
theorem ADC(a:List UInt8):KJ (CQ a)=true:=by unfold KJ CQ;rw[Eh];intro n hn;obtain⟨c,_,rfl⟩:=Gy.1 hn;have:=c.toNat_lt;simp;omega
theorem ADD{ls:List (List Tok)}(h:∀ts∈ls,LineG ts):(GB ls).length<=(ls.map λts=>lw3 ts+1).sum:=by
 induction ls with
 |nil=>simp[GB]
 |cons t r ih=>have h1:=Wo (h t (CW ..)).toks;have h2:=ih λx hx=>h x (BY _ hx);have h3:lw3 t=lw t+2*t.length:=rfl;unfold GB at h2⊢;simp only[Jw,AR,Gp,CM,NY];omega
theorem ADE{ls:List (List Tok)}(h:∀ts∈ls,LineG ts)(hn:ls.length<=1000)(hs:(ls.map λts=>lw3 ts+1).sum<=65536)(k:List UInt8->Int->Option β):dO (numb 0 ls) k=k (GB ls) 0:=by
 have AnU:=ADD h;unfold dO;rw[Ad];unfold wN;rw[Ad,VV]
 refine(Jc (λm i s=>Vw m (λt2 t3=>k t2 t3) (λAm=>cond (decide ((65536:Int)<(List.length Am:Int))) (k ([]:List UInt8) (5:Int)) (cond (KJ Am) (k (H8 Am) (0:Int)) none)) (numb 0 ls) (ls.length:Int) i (CQ s))
  (λts=>GT ts++[10]) (λs=>cond (decide ((65536:Int)<(List.length (CQ s):Int))) (k ([]:List UInt8) (5:Int)) (cond (KJ (CQ s)) (k (H8 (CQ s)) (0:Int)) none)) [] ls [] 513 hn (λts Gu=>?_) (λm i s hi hs=>?_) λm s=>?_).trans ?_
 ·have:=Wo (h ts Gu).toks
  have:=(h ts Gu).room;unfold lw3 at this;simp;omega
 ·have hL:=h _ (C5 (d:=([]:List Tok)) hi)
  have h1:=Wo hL.toks;have h2:=hL.room;unfold lw3 at h2;simp only[CX]at hs;simp only[AjI,dN];refine(Ai (by omega)).trans ?_;refine(Al (by rw[VV];omega)).trans ?_;rw[AT];have e:(numb 0 ls).getD i ((0:Int),([]:List Tok))=(((numb 0 ls).getD i (0,[])).1,ls.getD i []):=by rw[<-Amg ls 0 i hi]
  rw[e];refine(ADA hL _ _).trans ?_;refine(BM rfl).trans ?_;refine(Ai (by simp only[Gp];omega)).trans ?_;refine(Ai (by rw[Amh];simp only[AR,Gp];omega)).trans ?_;rw[i64_in ((i:Int)+1) (by omega),<-ADB]
 ·simp only[AjI,dN]
  exact Ae (by omega)
 ·rw[Fl]
  show cond (decide ((65536:Int)<((CQ (GB ls)).length:Int))) (k [] 5) (cond (KJ (CQ (GB ls))) (k (H8 (CQ (GB ls))) 0) none)=_;refine(Ae (by rw[Amh];omega)).trans ?_;rw[ADC,o6];rfl
end
end
end Go.Lift
namespace Go.Lift
open Go.RowKit Go.IntWalk
noncomputable section
set_option maxRecDepth 10000
section
variable{β:Type}
theorem ADF[S:Sl](a:List UInt8)(n:Int)(k:Bool->Option β):DV [wd R3,wd a,nu 4 n] k=k true:=by rcases S with⟨_|_⟩<;>kernel_rfl
theorem ADG[S:Sl](a b d:List UInt8)(n1 n2 n3 n4:Int)(k:Bool->Option β):DV [wd zQ,nu 1 n1,nu 1 n2,wd a,wd b,wd d,nu 2 n3,nu 4 n4] k=k true:=by rcases S with⟨_|_⟩<;>kernel_rfl
theorem ADH[S:Sl](a b:List UInt8)(k:Bool->Option β):DV [wd Fo,wd a,wd b] k=k true:=by rcases S with⟨_|_⟩<;>kernel_rfl
theorem ADI[S:Sl](a b:List UInt8)(k:Bool->Option β):DV [wd Fo,wd a,wd b,wd Lk] k=k true:=by rcases S with⟨_|_⟩<;>kernel_rfl
theorem ADJ[S:Sl](a b:List UInt8)(n:Int)(k:Bool->Option β):DV [wd Fo,wd a,wd b,wd Lj,nu 1 n] k=k true:=by rcases S with⟨_|_⟩<;>kernel_rfl
theorem ADK[S:Sl](a b:List UInt8)(n:Int)(k:Bool->Option β):DV [wd Fo,wd a,wd b,wd Lj,nu 1 n,wd Lk] k=k true:=by rcases S with⟨_|_⟩<;>kernel_rfl
theorem ADL[S:Sl](a b:List UInt8)(n:Int)(k:Bool->Option β):DV [wd Fo,wd a,wd b,wd Li,nu 1 n] k=k true:=by rcases S with⟨_|_⟩<;>kernel_rfl
theorem ADM[S:Sl](a b:List UInt8)(n:Int)(k:Bool->Option β):DV [wd Fo,wd a,wd b,wd Li,nu 1 n,wd Lk] k=k true:=by rcases S with⟨_|_⟩<;>kernel_rfl
theorem ADN[S:Sl](a b:List UInt8)(n m:Int)(k:Bool->Option β):DV [wd Fo,wd a,wd b,wd Li,nu 1 n,wd Lj,nu 1 m] k=k true:=by rcases S with⟨_|_⟩<;>kernel_rfl
theorem ADO[S:Sl](a b:List UInt8)(n m:Int)(k:Bool->Option β):DV [wd Fo,wd a,wd b,wd Li,nu 1 n,wd Lj,nu 1 m,wd Lk] k=k true:=by rcases S with⟨_|_⟩<;>kernel_rfl
theorem ADP[S:Sl](a b:List UInt8)(n m:Int)(k:Bool->Option β):DV [wd Kn,wd a,nu 2 n,wd b,nu 2 m] k=k true:=by rcases S with⟨_|_⟩<;>kernel_rfl
theorem ADQ[S:Sl](a b:List UInt8)(n m:Int)(k:Bool->Option β):DV [wd onW,wd a,nu 2 n,wd b,nu 2 m] k=k true:=by rcases S with⟨_|_⟩<;>kernel_rfl
theorem ADR[S:Sl](a b:List UInt8)(k:Bool->Option β):DV [wd calW,wd a,wd b] k=k true:=by rcases S with⟨_|_⟩<;>kernel_rfl
theorem ADS[S:Sl](a:List UInt8)(k:Bool->Option β):DV [wd schW,wd a] k=k true:=by rcases S with⟨_|_⟩<;>kernel_rfl
theorem ADT[S:Sl](a b c:List UInt8)(n1 n2 n3:Int)(k:Bool->Option β):DV [wd gN,wd a,wd b,nu 3 n1,nu 2 n2,nu 1 n3,wd c] k=k true:=by rcases S with⟨_|_⟩<;>kernel_rfl
theorem ADU[S:Sl](a:List UInt8)(k:Bool->Option β):DV [wd (at' VY 1),wd a] k=k true:=by rcases S with⟨_|_⟩<;>kernel_rfl
theorem ADV[S:Sl](a:List UInt8)(k:Bool->Option β):DV [wd (at' VY 2),wd a] k=k true:=by rcases S with⟨_|_⟩<;>kernel_rfl
theorem ADW[S:Sl](a:List UInt8)(n m:Int)(k:Bool->Option β):DV [wd (at' JG 0),wd a,nu 5 n,nu 5 m] k=k true:=by rcases S with⟨_|_⟩<;>kernel_rfl
theorem ADX[S:Sl](a:List UInt8)(n m:Int)(k:Bool->Option β):DV [wd (at' JG 1),wd a,nu 5 n,nu 5 m] k=k true:=by rcases S with⟨_|_⟩<;>kernel_rfl
theorem ADY[S:Sl](a b:List UInt8)(n m:Int)(k:Bool->Option β):DV [wd (at' JG 2),wd a,wd b,nu 5 n,nu 5 m] k=k true:=by rcases S with⟨_|_⟩<;>kernel_rfl
theorem ADZ[S:Sl](k:J9->Bool->Option β):UE JH k=k (JH,[3],true) true:=by rcases S with⟨_|_⟩<;>kernel_rfl
theorem AE0[S:Sl](k:J9->Bool->Option β):UE memW k=k (memW,[0],true) true:=by rcases S with⟨_|_⟩<;>kernel_rfl
theorem Ami[Sl]{kw:List UInt8}{kind:Int}(hf:∀k:J9->Bool->Option β,UE kw k=k (kw,[kind],true) true)(hp:kw≠Fo){l:List Tok}(h0:l≠[])(hl:l.length<=99)(hk:∀t∈l,t.1=kind)(k:Bool->Option β):DV (wd kw::l) k=k true:=by
 have h1:0<l.length:=MK.2 h0
 have p2:UN (λt2=>k t2) (wd kw::l) (kw,[kind],true)=k true:=by
  unfold UN;rw[Ad];unfold tG
  have e:List.drop (Int.toNat (1:Int)) (List.take (Int.toNat (List.length (wd kw::l):Int)) (wd kw::l))=l:=by rw[AT,KA];rfl
  rw[e]
  have hb:(decide (0<=(1:Int))&&(decide ((1:Int)<=(List.length (wd kw::l):Int))&&decide ((List.length (wd kw::l):Int)<=(List.length (wd kw::l):Int))))=true:=by rw[At (show(0:Int)<=1 by omega),At (show(1:Int)<=(List.length (wd kw::l):Int) by rw[AX];omega),At (MS _)];rfl
  rw[hb];refine c_t.trans ?_;unfold tF;rw[Ad];refine(Jb (λm i=>UM m (λt2=>k t2) (λ_=>k true) l (l.length:Int) i (kw,[kind],true)) (λt=>decide (t.1=kind)) (k false) (k true) (0,[],0) l fuel (BB (by omega)) (λm i hi=>?_) (λm=>?_)).trans ?_
  ·simp only[Aia,bD]
   refine(Ai (by omega)).trans ?_;refine(Al (by omega)).trans ?_
   have e2:(if(IntKind.i64.wrap ((List.length [kind]:Int)-(1:Int)))<(i:Int)then(IntKind.i64.wrap ((List.length [kind]:Int)-(1:Int)))else(i:Int))=0:=by rw[show IntKind.i64.wrap ((List.length [kind]:Int)-(1:Int))=0 from rfl];split<;>omega
   rw[e2];refine(Al (show(0:Int)<=0/\(0:Int)<((1:Nat):Int) by omega)).trans ?_;rw[i64_in ((i:Int)+1) (by omega),AT];show cond (!decide ((l.getD i (0,[],0)).1=kind)) _ _=_;cases decide ((l.getD i (0,[],0)).1=kind)<;>rfl
  ·simp only[Aia,bD]
   exact Ae (by omega)
  ·rw[Eh.2 λt ht=>At (hk t ht)]
   rfl
 unfold DV;rw[Ad];refine(Ae (by rw[AX];omega)).trans ?_;refine(Al (by rw[AX];omega)).trans ?_;refine(BM rfl).trans ?_;refine(Al (by rw[AX];omega)).trans ?_;refine(hf _).trans ?_;refine c_f.trans ?_;refine(Ae hp).trans ?_;unfold bE;rw[Ad];unfold tH;rw[i64_in _ (by rw[AX];omega)];refine(Ae (by rw[AX];show ¬_<((1:Nat):Int);omega)).trans ?_;by_cases h2:((1:Nat):Int)<(((wd kw::l).length:Int)-1)
 ·refine(Ai h2).trans ?_
  exact c_f.trans p2
 ·exact(Ae h2).trans p2
end
end
end Go.Lift
namespace Go.Lift
open Go.RowKit Go.IntWalk
noncomputable section
variable[Sl]
set_option maxRecDepth 10000
theorem JK{s:List UInt8}(h:Cy s=true):s.length<=24:=by unfold Cy at h;simp only[CE,NW,XL]at h;have:=h.2.1;omega
theorem Wp{α:Type}{of:α->List UInt8}{L:List (List UInt8)}{xs:List α}(h:Named of L xs)(hL:(L.all Cy)=true):∀x∈xs,Cy (of x)=true:=by
 intro x hx;have h1:of x∈L.take xs.length:=by rw[<-h.2];exact Qi hx
 exact Eh.1 hL _ (XP h1)
theorem R9{L:List (List UInt8)}{n:Int}{b:Nat}(hL:(L.all λs=>Cy s&&Nat.ble s.length b)=true)(h:0<=n/\n<(L.length:Int)):Cy (at' L n)=true/\(at' L n).length<=b:=by have h1:=Eh.1 hL _ (C5 (d:=([]:List UInt8)) (show n.toNat<L.length by omega));rw[CE]at h1;exact⟨h1.1,HQ h1.2⟩
theorem tk0:∀x∈([]:List Tok),TokG x:=λ_ h=>absurd h DQ
theorem tk1{t:Tok}{r:List Tok}(h:TokG t)(hr:∀x∈r,TokG x):∀x∈t::r,TokG x:=jZ.2 ⟨h,hr⟩
theorem tw_w(s:List UInt8):tw (wd s)=s.length:=rfl
theorem tw_n{t n:Int}(h:t≠0):tw (nu t n)=20:=if_neg h
structure LG (ts:List Tok) (n:Nat):Prop where
 g:LineG ts
 n:lw3 ts+1<=n
theorem LG.mk'{ts:List Tok}{n0 m n:Nat}(form:∀{β:Type}(k:Bool->Option β),DV ts k=k true)(toks:∀t∈ts,TokG t)(few:ts.length<=m)(room:lw ts+1<=n0)(hn:n0+2*m<=n/\n<=513):LG ts n:=by have h3:lw3 ts=lw ts+2*ts.length:=rfl;exact⟨⟨form,toks,by omega,by omega⟩,by omega⟩
theorem AE1{z:AK}(hz:ZoneOk z)(hv:FZ z=0)(hn:Cy z.1=true):LG [wd R3,wd z.1,nu 4 z.2.1] 58:=by have h1:=JK hn;unfold FZ at hv;obtain⟨_,hv⟩:=cz hv;obtain⟨hv,_⟩:=cz hv;have hv:Int.tmod z.2.1 60=0:=dt (nt hv);refine LG.mk' (n0:=52) (m:=3) (λk=>ADF _ _ k) (tk1 (Do (by decide)) (tk1 (Do hn) (tk1 (Amd hz.o (Ac4 (Ac5 hv))) tk0))) (by simp) ?_ (by omega);unfold lw lw lw lw;rw[tw_w,tw_w,tw_n (by decide)];show 4+1+(z.1.length+1+(20+1+0))+1<=52;omega
theorem AE2{z:AK}(hz:ZoneOk z)(hv:FZ z=0){r:BZ}(hr:r∈z.2.2):LG (Mj r) 121:=by have h:=hz.r r hr;unfold FZ at hv;obtain⟨_,hv⟩:=cz hv;obtain⟨_,hv⟩:=cz hv;obtain⟨hv,_⟩:=cz hv;have hv:Int.tmod r.2.2.2.2.2.2 60=0:=dt (Eh.1 (nt hv) r hr);have hf:=h.f;have ht:=h.t;have hm:=h.m;have hw:=h.w;have hd:=h.d;have hs:=h.s;have m1:=R9 (L:=VW) (n:=r.2.2.1-1) (b:=3) (by decide) ⟨by omega,by show _<((12:Nat):Int);omega⟩;have m2:=R9 (L:=VX) (n:=r.2.2.2.1-1) (b:=6) (by decide) ⟨by omega,by show _<((5:Nat):Int);omega⟩;have m3:=R9 (L:=Mi) (n:=r.2.2.2.2.1) (b:=3) (by decide) ⟨by omega,by show _<((7:Nat):Int);omega⟩;unfold Mj;refine LG.mk' (n0:=105) (m:=8) (λk=>ADG _ _ _ _ _ _ _ k) (tk1 (Do (by decide)) (tk1 (Wn (by omega)) (tk1 (Wn (by omega)) (tk1 (Do m1.1) (tk1 (Do m2.1) (tk1 (Do m3.1) (tk1 (gT (by omega)) (tk1 (Amd h.o (Ac4 (Ac5 hv))) tk0)))))))) (by simp) ?_ (by omega);unfold lw lw lw lw lw lw lw lw lw;rw[tw_w,tw_w,tw_w,tw_w,tw_n (by decide),tw_n (by decide),tw_n (by decide),tw_n (by decide)];have:=m1.2;have:=m2.2;have:=m3.2;show 4+1+(20+1+(20+1+(_+1+(_+1+(_+1+(20+1+(20+1+0)))))))+1<=105;omega
theorem Amj{kw:List UInt8}{x:Int×Int}(hx:PWin x)(hk:Cy kw=true)(h5:kw.length<=5)(hf:∀{β:Type}(a b:List UInt8)(n m:Int)(k:Bool->Option β),DV [wd kw,wd a,nu 2 n,wd b,nu 2 m] k=k true):LG (stW kw x) 67:=by
 obtain⟨x1,x2,x3,x4⟩:=hx;have d1:=R1 ⟨x1,x2⟩;have d2:=R1 (a:=x.2-1) ⟨by omega,by omega⟩;have m1:=R9 (L:=Mi) (n:=Int.tdiv x.1 86400) (b:=3) (by decide) ⟨by omega,by show _<((7:Nat):Int);omega⟩;have m2:=R9 (L:=Mi) (n:=Int.tdiv (x.2-1) 86400) (b:=3) (by decide) ⟨by omega,by show _<((7:Nat):Int);omega⟩
 have c1:0<=Int.tmod x.1 86400/\Int.tmod x.1 86400<=86400:=by rw[FD x1];omega
 have c2:0<=x.2-Int.tdiv (x.2-1) 86400*86400/\x.2-Int.tdiv (x.2-1) 86400*86400<=86400:=by rw[GJ (by omega)];omega
 unfold stW;refine LG.mk' (n0:=57) (m:=5) (λk=>hf _ _ _ _ k) (tk1 (Do hk) (tk1 (Do m1.1) (tk1 (gT c1) (tk1 (Do m2.1) (tk1 (gT c2) tk0))))) (by simp) ?_ (by omega);unfold lw lw lw lw lw lw;rw[tw_w,tw_w,tw_w,tw_n (by decide),tw_n (by decide)];have:=m1.2;have:=m2.2;omega
theorem AE3{x:Int×Int}(hx:PWin x):LG (stW Kn x) 67:=Amj hx (by decide) (by decide) λa b n m k=>ADP a b n m k
theorem AE4{x:Int×Int}(hx:PWin x):LG (stW onW x) 67:=Amj hx (by decide) (by decide) λa b n m k=>ADQ a b n m k
structure NamesG (w:List AK) (w2:List Bb) (w3:List Bh):Prop where
 z:∀x∈w,Cy x.1=true
 p:∀x∈w2,Cy x.1=true
 c:∀x∈w3,Cy x.1=true
section
variable{w:List AK}{w2:List Bb}{w3:List Bh}
theorem Aa4(h:NamesG w w2 w3){i:Int}(hi:0<=i/\i<(w.length:Int)):Cy (GA w i)=true:=h.z _ (C5 (by omega))
theorem AE5(h:NamesG w w2 w3){i:Int}(hi:0<=i/\i<(w3.length:Int)):Cy (calN w3 i)=true:=h.c _ (C5 (by omega))
theorem gU(h:NamesG w w2 w3){i:Int}(hi:i<(w2.length:Int)):Cy (whoB w2 i)=true:=by
 unfold whoB;split
 ·decide
 ·exact h.p _ (C5 (by omega))
theorem AE6(h:NamesG w w2 w3){p:Bb}(hp:PerF (w.length:Int) p)(hn:Cy p.1=true):LG (Pg w p) 134:=by
 have hz:=Aa4 h hp.z;have l1:=JK hn;have l2:=JK hz;have hw:=hp.w.1;have hr:=hp.r.1;have q1:0<=Int.tdiv p.2.2.2.1 3600/\Int.tdiv p.2.2.2.1 3600<=999999999:=by rw[GJ hw.1];omega
 have q2:0<=Int.tdiv p.2.2.2.2.1 3600/\Int.tdiv p.2.2.2.2.1 3600<=999999999:=by rw[GJ hr.1];omega
 have g1:=Do (s:=Fo) (by decide);have g2:=Do hn;have g3:=Do hz;have g4:=Do (s:=Li) (by decide);have g5:=Wn q1;have g6:=Do (s:=Lj) (by decide);have g7:=Wn q2;have g8:=Do (s:=Lk) (by decide);unfold Pg gM Wd R4;by_cases c1:p.2.2.2.1=0<;>by_cases c2:p.2.2.2.2.1=0<;>cases c3:p.2.2.2.2.2
 ·rw[if_pos c1,if_pos c2]
  refine LG.mk' (n0:=118) (m:=8) (λk=>ADH _ _ k) (tk1 g1 (tk1 g2 (tk1 g3 tk0))) (by simp) ?_ (by omega);show 6+1+(p.1.length+1+((GA w p.2.1).length+1+0))+1<=118;omega
 ·rw[if_pos c1,if_pos c2]
  refine LG.mk' (n0:=118) (m:=8) (λk=>ADI _ _ k) (tk1 g1 (tk1 g2 (tk1 g3 (tk1 g8 tk0)))) (by simp) ?_ (by omega);show 6+1+(p.1.length+1+((GA w p.2.1).length+1+(7+1+0)))+1<=118;omega
 ·rw[if_pos c1,if_neg c2]
  refine LG.mk' (n0:=118) (m:=8) (λk=>ADJ _ _ _ k) (tk1 g1 (tk1 g2 (tk1 g3 (tk1 g6 (tk1 g7 tk0))))) (by simp) ?_ (by omega);show 6+1+(p.1.length+1+((GA w p.2.1).length+1+(4+1+(tw (nu 1 _)+1+0))))+1<=118;rw[tw_n (by decide)];omega
 ·rw[if_pos c1,if_neg c2]
  refine LG.mk' (n0:=118) (m:=8) (λk=>ADK _ _ _ k) (tk1 g1 (tk1 g2 (tk1 g3 (tk1 g6 (tk1 g7 (tk1 g8 tk0)))))) (by simp) ?_ (by omega);show 6+1+(p.1.length+1+((GA w p.2.1).length+1+(4+1+(tw (nu 1 _)+1+(7+1+0)))))+1<=118;rw[tw_n (by decide)];omega
 ·rw[if_neg c1,if_pos c2]
  refine LG.mk' (n0:=118) (m:=8) (λk=>ADL _ _ _ k) (tk1 g1 (tk1 g2 (tk1 g3 (tk1 g4 (tk1 g5 tk0))))) (by simp) ?_ (by omega);show 6+1+(p.1.length+1+((GA w p.2.1).length+1+(4+1+(tw (nu 1 _)+1+0))))+1<=118;rw[tw_n (by decide)];omega
 ·rw[if_neg c1,if_pos c2]
  refine LG.mk' (n0:=118) (m:=8) (λk=>ADM _ _ _ k) (tk1 g1 (tk1 g2 (tk1 g3 (tk1 g4 (tk1 g5 (tk1 g8 tk0)))))) (by simp) ?_ (by omega);show 6+1+(p.1.length+1+((GA w p.2.1).length+1+(4+1+(tw (nu 1 _)+1+(7+1+0)))))+1<=118;rw[tw_n (by decide)];omega
 ·rw[if_neg c1,if_neg c2]
  refine LG.mk' (n0:=118) (m:=8) (λk=>ADN _ _ _ _ k) (tk1 g1 (tk1 g2 (tk1 g3 (tk1 g4 (tk1 g5 (tk1 g6 (tk1 g7 tk0))))))) (by simp) ?_ (by omega);show 6+1+(p.1.length+1+((GA w p.2.1).length+1+(4+1+(tw (nu 1 _)+1+(4+1+(tw (nu 1 _)+1+0))))))+1<=118;rw[tw_n (by decide),tw_n (by decide)];omega
 ·rw[if_neg c1,if_neg c2]
  refine LG.mk' (n0:=118) (m:=8) (λk=>ADO _ _ _ _ k) (tk1 g1 (tk1 g2 (tk1 g3 (tk1 g4 (tk1 g5 (tk1 g6 (tk1 g7 (tk1 g8 tk0)))))))) (by simp) ?_ (by omega);show 6+1+(p.1.length+1+((GA w p.2.1).length+1+(4+1+(tw (nu 1 _)+1+(4+1+(tw (nu 1 _)+1+(7+1+0)))))))+1<=118;rw[tw_n (by decide),tw_n (by decide)];omega
theorem Amk(h:NamesG w w2 w3){c:Bh}(hz:0<=c.2.1/\c.2.1<(w.length:Int))(hn:Cy c.1=true):LG [wd calW,wd c.1,wd (GA w c.2.1)] 66:=by have hz:=Aa4 h hz;have l1:=JK hn;have l2:=JK hz;refine LG.mk' (n0:=60) (m:=3) (λk=>ADR _ _ k) (tk1 (Do (by decide)) (tk1 (Do hn) (tk1 (Do hz) tk0))) (by simp) ?_ (by omega);show 8+1+(c.1.length+1+((GA w c.2.1).length+1+0))+1<=60;omega
theorem Aa5{α:Type}{f:α->Tok}{n:Nat}:∀{xs:List α},(∀x∈xs,tw (f x)<=n)->lw (xs.map f)<=xs.length*(n+1)
 |[],_=>by simp[lw]
 |x::xs,h=>by have h1:=h x (CW ..);have h2:=Aa5 (xs:=xs) λy hy=>h y (BY _ hy);rw[CM,AX,Jx];unfold lw;omega
theorem AE7{l:List Int}(h0:l≠[])(hl:l.length<=20)(hd:∀d∈l,0<=d/\d<98981):LG (wd JH::l.map (nu 3)) 468:=by
 have hm:=Aa5 (f:=nu 3) (n:=20) (xs:=l) λx _=>KE (tw_n (by decide));refine LG.mk' (n0:=426) (m:=21) (λk=>Ami (λk=>ADZ k) (by decide) (by simpa using h0) (by simp;omega) (λt ht=>?_) k) (tk1 (Do (by decide)) λt ht=>?_) (by simp;omega) ?_ (by omega)
 ·obtain⟨d,_,rfl⟩:=Gy.1 ht;rfl
 ·obtain⟨d,Cv,rfl⟩:=Gy.1 ht;exact Amc (hd d Cv)
 ·unfold lw
  show 4+1+lw (l.map (nu 3))+1<=426;omega
theorem AE8(h:NamesG w w2 w3){l:AU}{nz nc:Int}(hl:LayF nz (w2.length:Int) nc l):LG (gO w2 l) 334:=by
 have h1:=hl.m;have hm:=Aa5 (f:=λm=>wd (whoB w2 m)) (n:=24) (xs:=l.2.2.2.2.2.1) λx hx=>JK (gU h (hl.ms x hx).2);unfold gO;refine LG.mk' (n0:=308) (m:=13) (λk=>Ami (λk=>AE0 k) (by decide) (λe=>?_) (by simp;omega) (λt ht=>?_) k) (tk1 (Do (by decide)) λt ht=>?_) (by simp;omega) ?_ (by omega)
 ·have:=Ax List.length e
  simp at this;rw[this]at h1;simp at h1
 ·obtain⟨d,_,rfl⟩:=Gy.1 ht;rfl
 ·obtain⟨d,Cv,rfl⟩:=Gy.1 ht;exact Do (gU h (hl.ms d Cv).2)
 ·unfold lw
  show 6+1+lw _+1<=308;omega
theorem AE9(h:NamesG w w2 w3){l:AU}{np nc:Int}(hl:LayF (w.length:Int) np nc l)(hn:Cy l.1=true):LG (We w l) 140:=by have hz:=Aa4 h hl.z;have l1:=JK hn;have l2:=JK hz;have hu:=hl.u;have he:=hl.e;have hs:=hl.s;have hd:=hl.d;have m1:=R9 (L:=untNs) (n:=l.2.2.2.1) (b:=5) (by decide) ⟨by omega,by show _<((3:Nat):Int);omega⟩;have:=m1.2;unfold We;refine LG.mk' (n0:=126) (m:=7) (λk=>ADT _ _ _ _ _ _ k) (tk1 (Do (by decide)) (tk1 (Do hn) (tk1 (Do hz) (tk1 (Amc (by omega)) (tk1 (gT (by omega)) (tk1 (Wn (by omega)) (tk1 (Do m1.1) tk0))))))) (by simp) ?_ (by omega);unfold lw lw lw lw lw lw lw lw;rw[tw_w,tw_w,tw_w,tw_w,tw_n (by decide),tw_n (by decide),tw_n (by decide)];show 5+1+_+1<=126;omega
theorem AEa{n:List UInt8}(hn:Cy n=true):LG [wd schW,wd n] 39:=by have l1:=JK hn;refine LG.mk' (n0:=35) (m:=2) (λk=>ADS _ k) (tk1 (Do (by decide)) (tk1 (Do hn) tk0)) (by simp) ?_ (by omega);unfold lw lw lw;rw[tw_w,tw_w];show 8+1+_+1<=35;omega
theorem AEb(h:NamesG w w2 w3){x:Ed}(hx:EdF (w2.length:Int) x):LG (Ga w2 x) 112:=by
 have hk:=hx.k;have ha:x.2.1<(w2.length:Int):=by have:=hx.a;omega
 have n1:=gU h ha;have l1:=JK n1;have hf:=hx.f;have AGp:=hx.ft;have ht:=hx.t;have g1:=Ame (n:=x.2.2.2.1) (by omega);have g2:=Ame (n:=x.2.2.2.2) (by omega);unfold Ga Wg;have key:x.1=0\/x.1=1\/x.1=2:=by omega
 rcases key with e|e|e
 ·rw[if_neg (by omega),e]
  refine LG.mk' (n0:=102) (m:=5) (λk=>ADW _ _ _ k) (tk1 (Do (by decide)) (tk1 (Do n1) (tk1 g1 (tk1 g2 tk0)))) (by simp) ?_ (by omega);show 5+1+((whoB w2 x.2.1).length+1+(tw (nu 5 _)+1+(tw (nu 5 _)+1+0)))+1<=102;rw[tw_n (by decide),tw_n (by decide)];omega
 ·rw[if_neg (by omega),e]
  refine LG.mk' (n0:=102) (m:=5) (λk=>ADX _ _ _ k) (tk1 (Do (by decide)) (tk1 (Do n1) (tk1 g1 (tk1 g2 tk0)))) (by simp) ?_ (by omega);show 8+1+((whoB w2 x.2.1).length+1+(tw (nu 5 _)+1+(tw (nu 5 _)+1+0)))+1<=102;rw[tw_n (by decide),tw_n (by decide)];omega
 ·have n2:=gU h (hx.b e).2
  have l2:=JK n2;rw[if_pos e,e];refine LG.mk' (n0:=102) (m:=5) (λk=>ADY _ _ _ _ k) (tk1 (Do (by decide)) (tk1 (Do n1) (tk1 (Do n2) (tk1 g1 (tk1 g2 tk0))))) (by simp) ?_ (by omega);show 4+1+((whoB w2 x.2.1).length+1+((whoB w2 x.2.2.1).length+1+(tw (nu 5 _)+1+(tw (nu 5 _)+1+0))))+1<=102;rw[tw_n (by decide),tw_n (by decide)];omega
end
end
end Go.Lift
namespace Go.Lift
open Go.RowKit Go.IntWalk
noncomputable section
variable[Sl]
set_option maxRecDepth 10000
structure SL (ls:List (List Tok)) (n:Nat):Prop where
 g:∀ts∈ls,LineG ts
 n:(ls.map λts=>lw3 ts+1).sum<=n
theorem SL.nil{n:Nat}:SL [] n:=⟨λ_ h=>absurd h DQ,Ej _⟩
theorem SL.cons{t:List Tok}{r:List (List Tok)}{a b:Nat}(h:LG t a)(hr:SL r b):SL (t::r) (a+b):=by refine⟨jZ.2 ⟨h.g,hr.g⟩,?_⟩;rw[CM,NY];have:=h.n;have:=hr.n;omega
theorem SL.app{r s:List (List Tok)}{a b:Nat}(h:SL r a)(hs:SL s b):SL (r++s) (a+b):=by
 refine⟨λt ht=>?_,?_⟩
 ·rcases Cs.1 ht with ht|ht
  ·exact h.g t ht
  ·exact hs.g t ht
 ·rw[KC,List.sum_append]
  have:=h.n;have:=hs.n;omega
theorem SL.le{r:List (List Tok)}{a b:Nat}(h:SL r a)(Wv:a<=b):SL r b:=⟨h.g,D2 h.n Wv⟩
theorem RA{α:Type}{f:α->List (List Tok)}{n:Nat}:∀{xs:List α},(∀x∈xs,SL (f x) n)->SL (xs.flatMap f) (xs.length*n)
 |[],_=>SL.nil
 |x::xs,h=>by have h1:=h x (CW ..);have h2:=RA (xs:=xs) λy hy=>h y (BY _ hy);refine(h1.app h2).le ?_;rw[AX,Jx];omega
theorem Wq{α:Type}{f:α->List Tok}{n:Nat}:∀{xs:List α},(∀x∈xs,LG (f x) n)->SL (xs.map f) (xs.length*n)
 |[],_=>SL.nil
 |x::xs,h=>by have h1:=h x (CW ..);have h2:=Wq (xs:=xs) λy hy=>h y (BY _ hy);refine(SL.cons h1 h2).le ?_;rw[AX,Jx];omega
section
variable{w:List AK}{w2:List Bb}{w3:List Bh}
theorem AEc{z:AK}(hz:ZoneOk z)(hv:FZ z=0)(hn:Cy z.1=true):SL (Ib z) 1510:=by have hl:=hz.l;unfold Ib;refine(SL.cons (AE1 hz hv hn) (Wq λr hr=>AE2 hz hv hr)).le ?_;omega
theorem AEd(h:NamesG w w2 w3){p:Bb}(hp:PerF (w.length:Int) p)(hn:Cy p.1=true):SL (Ic w p) 1072:=by have hq:=hp.q;unfold Ic;refine(SL.cons (AE6 h hp hn) (Wq λx hx=>AE3 (hq.2 x hx))).le ?_;omega
theorem AEe(h:NamesG w w2 w3){c:Bh}(hc:CalF (w.length:Int) c)(hl:c.2.2.length<=20)(hn:Cy c.1=true):SL (I1 w c) 534:=by
 unfold I1 R5;by_cases e:c.2.2=[]
 ·rw[if_pos e]
  exact(SL.cons (Amk h hc.z hn) (SL.nil (n:=0))).le (by omega)
 ·rw[if_neg e]
  exact(SL.cons (Amk h hc.z hn) (SL.cons (AE7 e hl hc.d) (SL.nil (n:=0)))).le (by omega)
theorem AEf(h:NamesG w w2 w3){l:AU}{nz np:Int}(hl:LayF nz np (w3.length:Int) l):SL (Mk w3 l) 35:=by
 unfold Mk;by_cases e:l.2.2.2.2.2.2.2.2=0
 ·rw[if_pos e];exact SL.nil
 ·rw[if_neg e]
  have hc:(1<=l.2.2.2.2.2.2.2.2/\l.2.2.2.2.2.2.2.2<=2)/\0<=l.2.2.2.2.2.2.2.1/\l.2.2.2.2.2.2.2.1<(w3.length:Int):=by
   rcases hl.c with hc|hc
   ·exact absurd hc.1 e
   ·exact hc
  have hn:=AE5 h hc.2;have l1:=JK hn;have key:l.2.2.2.2.2.2.2.2=1\/l.2.2.2.2.2.2.2.2=2:=by omega
  refine(SL.cons (a:=35) ?_ (SL.nil (n:=0))).le (by omega);rcases key with e1|e1
  ·rw[e1]
   refine LG.mk' (n0:=31) (m:=2) (λk=>ADU _ k) (tk1 (Do (by decide)) (tk1 (Do hn) tk0)) (by simp) ?_ (by omega);show 3+1+((calN w3 l.2.2.2.2.2.2.2.1).length+1+0)+1<=31;omega
  ·rw[e1]
   refine LG.mk' (n0:=31) (m:=2) (λk=>ADV _ k) (tk1 (Do (by decide)) (tk1 (Do hn) tk0)) (by simp) ?_ (by omega);show 4+1+((calN w3 l.2.2.2.2.2.2.2.1).length+1+0)+1<=31;omega
theorem AEg(h:NamesG w w2 w3){l:AU}(hl:LayF (w.length:Int) (w2.length:Int) (w3.length:Int) l)(hn:Cy l.1=true):SL (Jd w w2 w3 l) 1447:=by have hw:=hl.w;unfold Jd;refine(SL.cons (AE9 h hl hn) (SL.cons (AE8 h hl) (SL.app (Wq λx hx=>AE4 (hw.2 x hx)) (AEf h hl)))).le ?_;omega
theorem AEh(h:NamesG w w2 w3){s:By}(hs:SchG (w.length:Int) (w2.length:Int) (w3.length:Int) s)(hn:Cy s.1=true):SL (JI w w2 w3 s) 14097:=by have h1:=hs.l;have h2:=hs.e;unfold JI;refine(SL.cons (AEa hn) (SL.app (RA λl hl=>AEg h (hs.ls l hl).1 (hs.ls l hl).2) (Wq λx hx=>AEb h (hs.es x hx)))).le ?_;omega
end
theorem Aml{c:As}(h:ConfOk c):NamesG c.1 c.2.1 c.2.2.1:=
 ⟨Wp h.oz.1 (by decide),Wp h.op.1 (by decide),Wp h.oc.1 (by decide)⟩
theorem gV{c:As}(h:ConfOk c):SL (I2 c) 60000/\(I2 c).length<=1000:=by
 have hN:=Aml h;have l1:c.1.length<=2:=h.oz.1.1;have l2:c.2.1.length<=8:=h.op.1.1;have l3:c.2.2.1.length<=1:=h.oc.1.1;have l4:c.2.2.2.length<=3:=h.os.1.1;have iU:=Wp h.os.1 (by decide);have z1:=Je (f:=Ib) λy(hy:y∈c.1)=>gP (h.oz.2 y hy).1;have z2:=Je (f:=Ic c.1) λy(hy:y∈c.2.1)=>gQ (Ph h y hy);have z3:=Je (f:=I1 c.1) λy(hy:y∈c.2.2.1)=>gR;have z4:=Je (f:=JI c.1 c.2.1 c.2.2.1) λy(hy:y∈c.2.2.2)=>zS (Wh h y hy);unfold I2;refine⟨?_,?_⟩
 ·refine(SL.app (RA λz hz=>AEc (h.oz.2 z hz).1 (h.oz.2 z hz).2.1 (hN.z z hz)) (SL.app (RA λp hp=>AEd hN (Ph h p hp) (hN.p p hp)) (SL.app (RA λx hx=>AEe hN (gJ (h.oc.2 x hx).1) (h.oc.2 x hx).2 (hN.c x hx)) (RA λs hs=>AEh hN (Wh h s hs) (iU s hs))))).le ?_
  omega
 ·rw[AR,AR,AR]
  omega
section
variable{β:Type}
theorem Amm{c:As}(h:ConfOk c)(k:List UInt8->Int->Option β):VM c k=k (GB (I2 c)) 0:=by have hs:=gV h;unfold VM;rw[Ad];refine(AlZ h _).trans ?_;refine(BM rfl).trans ?_;exact ADE hs.1.g hs.2 (D2 hs.1.n (by decide)) _
end
end
end Go.Lift
namespace Go.Lift
open Go.RowKit Go.IntWalk
noncomputable section
variable[Sl]
set_option maxRecDepth 10000
abbrev sch0:By:=([],[],[])
def Pi(c:As)(i:Nat)(es:List Ed):As:=(c.1,c.2.1,c.2.2.1,c.2.2.2.set i ((c.2.2.2.getD i sch0).1,(c.2.2.2.getD i sch0).2.1,es))
theorem AEi{nz np nc:Int}{n:List UInt8}{ls:List AU}{e0 es:List Ed}(h:FY nz np nc (n,ls,e0)=0)(Wt:es.length<=48)(he:∀x∈es,HD np x=0):FY nz np nc (n,ls,es)=0:=by
 unfold FY at h;obtain⟨h1,h⟩:=cz h;obtain⟨h2,h⟩:=cz h
 have hn:FX (·.1) (Et nz np nc) ls=0:=by
  by_cases hn:FX (·.1) (Et nz np nc) ls=0
  ·exact hn
  ·rw[AN hn]at h
   exact absurd h hn
 unfold FY;rw[h1,AN (by show ¬_;simp only;omega),At hn,zD np es 0 he];rfl
theorem Amn{α γ:Type}(f:α->γ):∀(xs:List α)(i:Nat)(y d:α),f y=f (xs.getD i d)->(xs.set i y).map f=xs.map f
 |[],i,y,d,_=>rfl
 |x::xs,0,y,d,h=>by have h:f y=f x:=h;simp[h]
 |x::xs,i+1,y,d,h=>by rw[List.set_cons_succ,CM,CM,Amn f xs i y d h]
theorem Amo{c:As}(h:ConfOk c){i:Nat}(hi:i<c.2.2.2.length){es:List Ed}(Wt:es.length<=48)(he:∀x∈es,EdOk (c.2.1.length:Int) x):ConfOk (Pi c i es):=by
 refine⟨h.oz,h.op,h.oc,?_⟩;have hs:=h.os.2 _ (C5 (d:=sch0) hi);refine⟨⟨?_,?_⟩,λs Cc=>?_⟩
 ·show(c.2.2.2.set i _).length<=_
  rw[MM];exact h.os.1.1
 ·show(c.2.2.2.set i _).map (·.1)=sNames.take (c.2.2.2.set i _).length
  rw[Amn (·.1) c.2.2.2 i ((c.2.2.2.getD i sch0).1,(c.2.2.2.getD i sch0).2.1,es) sch0 rfl,MM];exact h.os.1.2
 ·rcases List.mem_or_eq_of_mem_set Cc with g|g
  ·exact h.os.2 s g
  ·rw[g]
   exact⟨AEi (e0:=(c.2.2.2.getD i sch0).2.2) hs.1 Wt λx hx=>(he x hx).1,he⟩
theorem Amp{c:As}(h:ConfOk c){i:Nat}(hi:i<c.2.2.2.length):∀x∈(c.2.2.2.getD i sch0).2.2,EdOk (c.2.1.length:Int) x:=(h.os.2 _ (C5 hi)).2
theorem AEj(c:As)(i:Nat)(hi:i<c.2.2.2.length)(a:List Ed):((Pi c i a).2.2.2.getD i sch0).2.2=a:=by unfold Pi;simp[List.getD,hi]
theorem AEk(c:As)(i:Nat)(a:List Ed):(Pi c i a).2.2.2.length=c.2.2.2.length:=by unfold Pi;simp
end
end Go.Lift
namespace Go.Lift
open Go.RowKit Go.IntWalk
noncomputable section
variable[Sl]
set_option maxRecDepth 10000
theorem Amq{α:Type}{of:α->List UInt8}{chk:α->Int}:∀(xs:List α)(j:Nat)(l:List (List UInt8)),errV (walk (F7 of chk) xs j l)=0->l.Nodup->(l++xs.map of).Nodup
 |[],j,l,_,h=>by simpa using h
 |x::xs,j,l,he,h=>by
  unfold walk at he;by_cases h1:EE (of x) l=0
  ·by_cases h2:chk x=0
   ·have e:F7 of chk j x l=.inr (l++[of x]):=by unfold F7;rw[At h1,At h2];rfl
    rw[e]at he
    have hx:of x∉l:=by
     intro g;unfold EE at h1;cases hn:Cy (of x)with
     |false=>rw[hn]at h1;cases h1
     |true=>rw[hn,At g]at h1;cases h1
    have:=Amq xs (j+1) (l++[of x]) he (Sz.2 ⟨h,LD.2 ⟨DQ,List.nodup_nil⟩,λa ha b hb=>by rw[EO.1 hb];exact λe=>hx (e▸ha)⟩);rw[Ci]at this;exact this
   ·have e:F7 of chk j x l=.inl (chk x):=by unfold F7;rw[At h1,AN h2];rfl
    rw[e]at he;exact absurd he h2
  ·have e:F7 of chk j x l=.inl (EE (of x) l):=by unfold F7;rw[AN h1];rfl
   rw[e]at he;exact absurd he h1
theorem AEl{nz np nc:Int}{s:By}(h:FY nz np nc s=0)(he:∀x∈s.2.2,EdOk np x)(hn:Cy s.1=true):SchR nz np nc s:=by
 have hf:=AlI h
 have h0:FX (·.1) (Et nz np nc) s.2.1=0:=by
  unfold FY at h;obtain⟨h1,h⟩:=cz h;obtain⟨h2,h⟩:=cz h;by_cases hn:FX (·.1) (Et nz np nc) s.2.1=0
  ·exact hn
  ·rw[AN hn]at h
   exact absurd h hn
 have GX:=Amq s.2.1 0 [] h0 List.nodup_nil;rw[Fl]at GX;exact⟨hf.l,hf.e,λy hy=>zM h0 y hy,λx hx=>ed_f (he x hx),hn,GX⟩
theorem gW{α:Type}{of:α->List UInt8}{L:List (List UInt8)}{xs:List α}(h:Named of L xs)(hL:L.Nodup):(xs.map of).Nodup:=by rw[h.2];exact hL.sublist (List.take_sublist _ _)
section
variable{β:Type}
theorem Amr{c:As}(h:ConfOk c)(k:Int->Option β):V7 c k=k 0:=by
 have e1:zNames.length=2:=rfl;have e2:pNames.length=8:=rfl;have e3:cNames.length=1:=rfl;have e4:sNames.length=3:=rfl;have l1:=h.oz.1.1;have l2:=h.op.1.1;have l3:=h.oc.1.1;have l4:=h.os.1.1
 have F9:GS∉c.2.1.map (·.1):=by rw[h.op.1.2];intro g;have:=XP g;exact absurd this (by decide)
 have hN:=Aml h;have iU:=Wp h.os.1 (by decide);unfold V7;rw[Ad];refine(Ae (by omega)).trans ?_;refine(Ae (by omega)).trans ?_;refine(Ae (by omega)).trans ?_;refine(Ae (by omega)).trans ?_;refine(AD8 (by omega) (λz hz=>⟨h.oz.2 z hz,hN.z z hz⟩) (gW h.oz.1 (by decide)) _).trans ?_;refine(BM rfl).trans ?_;refine(ACI (by omega) (by omega) (λp hp=>⟨h.op.2 p hp,hN.p p hp⟩) (gW h.op.1 (by decide)) F9 _).trans ?_;refine(BM rfl).trans ?_;refine(ACQ (by omega) (by omega) (λx hx=>⟨(h.oc.2 x hx).1,hN.c x hx⟩) (gW h.oc.1 (by decide)) _).trans ?_;refine(BM rfl).trans ?_;exact ACL (by omega) (by omega) (by omega) (by omega) (λs hs=>AEl (h.os.2 s hs).1 (h.os.2 s hs).2 (iU s hs)) (gW h.os.1 (by decide)) _
theorem AEm{c:As}{i:Nat}(hi:i<c.2.2.2.length)(hl:c.2.2.2.length<=1000)(es:List Ed)(k:As->Option β):Zb c (i:Int) es k=k (Pi c i es):=by unfold Zb;rw[Ad];refine(Er (show c.2.2.2.length*64<=_ by omega)).trans ?_;refine(Al (by omega)).trans ?_;rw[AT];rfl
theorem AEn{c:As}(h:ConfOk c){i:Nat}(hi:i<c.2.2.2.length){y:Ed}(hy:EdOk (c.2.1.length:Int) y)(hn:(c.2.2.2.getD i sch0).2.2.length<=47)(k:As->Int->Option β):eM c (i:Int) y k=k (Pi c i ((c.2.2.2.getD i sch0).2.2++[y])) 0:=by
 have e4:sNames.length=3:=rfl;have l4:=h.os.1.1;unfold eM;rw[Ad];refine(Amr h _).trans ?_;refine(BM rfl).trans ?_;refine(Ae (by omega)).trans ?_;refine(Ae (by omega)).trans ?_;refine(Al (by omega)).trans ?_;rw[AT];refine(Er (show(c.2.2.2.getD i sch0).2.2.length*40<=_ by omega)).trans ?_;refine(Er (show((c.2.2.2.getD i sch0).2.2.length+1)*40<=_ by omega)).trans ?_;refine(AEm hi (by omega) _ _).trans ?_;refine(Amr (Amo h hi (by rw[AR];show _+1<=48;omega) (Mh (Amp h hi) hy)) _).trans ?_;exact BM rfl
end
end
end Go.Lift
namespace Go.Lift
open Go.RowKit Go.IntWalk
noncomputable section
set_option maxRecDepth 10000
section
variable{β:Type}
theorem AEo[S:Sl]{m:Int}(h:m=1\/m=2\/m=3\/m=4\/m=5\/m=6\/m=7\/m=8\/m=9\/m=10\/m=11\/m=12)(k:Int->Bool->Option β):ZM (at' VW (m-1)) k=k m true:=by rcases S with⟨_|_⟩<;>rcases h with e|e|e|e|e|e|e|e|e|e|e|e<;>rw[e]<;>kernel_rfl
theorem AEp[S:Sl]{m:Int}(h:1<=m/\m<=12)(k:Int->Bool->Option β):ZM (at' VW (m-1)) k=k m true:=AEo (by omega) k
theorem AEq[S:Sl]{m:Int}(h:m=1\/m=2\/m=3\/m=4\/m=5)(k:Int->Bool->Option β):ZN (at' VX (m-1)) k=k m true:=by rcases S with⟨_|_⟩<;>rcases h with e|e|e|e|e<;>rw[e]<;>kernel_rfl
theorem AEr[S:Sl]{m:Int}(h:1<=m/\m<=5)(k:Int->Bool->Option β):ZN (at' VX (m-1)) k=k m true:=AEq (by omega) k
theorem AEs[S:Sl]{m:Int}(h:m=0\/m=1\/m=2\/m=3\/m=4\/m=5\/m=6)(k:Int->Bool->Option β):QV (at' Mi m) k=k m true:=by rcases S with⟨_|_⟩<;>rcases h with e|e|e|e|e|e|e<;>rw[e]<;>kernel_rfl
theorem Aa6[S:Sl]{m:Int}(h:0<=m/\m<7)(k:Int->Bool->Option β):QV (at' Mi m) k=k m true:=AEs (by omega) k
theorem AEt[S:Sl]{m:Int}(h:m=0\/m=1\/m=2)(k:Int->Option β):Nj untNs (at' untNs m) k=k m:=by rcases S with⟨_|_⟩<;>rcases h with e|e|e<;>rw[e]<;>kernel_rfl
theorem AEu[S:Sl]{m:Int}(h:0<=m/\m<=2)(k:Int->Option β):Nj untNs (at' untNs m) k=k m:=AEt (by omega) k
theorem AEv[S:Sl]{m:Int}(h:m=0\/m=1\/m=2)(k:Int->Option β):Nj JG (at' JG m) k=k m:=by rcases S with⟨_|_⟩<;>rcases h with e|e|e<;>rw[e]<;>kernel_rfl
theorem AEw[S:Sl]{m:Int}(h:0<=m/\m<=2)(k:Int->Option β):Nj JG (at' JG m) k=k m:=AEv (by omega) k
end
variable[Sl]
theorem JL{α:Type}(a:List α)(x d:α):(a++[x]).getD a.length d=x:=by simp[List.getD]
theorem Ko{α:Type}(a:List α)(x y:α):(a++[x]).set a.length y=a++[y]:=by rw[List.set_append];simp
theorem Kp{α:Type}(a:List α)(x:α)(h:a.length<=1000000):IntKind.i64.wrap (((a++[x]).length:Int)-1)=(a.length:Int):=by rw[AR,Gp,i64_in _ (by omega)];omega
theorem Kq{α:Type}(a:List α)(x:α):¬((a++[x]).length:Int)=0:=by rw[AR,Gp];omega
theorem Kr{α:Type}(a:List α)(x:α):0<=(a.length:Int)/\(a.length:Int)<((a++[x]).length:Int):=by rw[AR,Gp];omega
section
variable{β:Type}{z:List AK}{p:List Bb}{c:List Bh}{s:List By}
abbrev KB(β:Type):=Int->List AK->List Bb->List Bh->List By->Option β
theorem JM{n:Nat}{a b:Option β}(h:n<=140737488355328):cond (true&&decide (n<=Bl)) a b=a:=by rw[At (p:=n<=Bl) h];rfl
theorem AEx(n:List UInt8)(o:Int)(hz:z.length<=1000)(k:KB β):TB [wd R3,wd n,nu 4 o] z p c s k=k 0 (z++[(n,o,[])]) p c s:=by unfold TB;rw[Ad];refine(Al (show(0:Int)<=1/\(1:Int)<((3:Nat):Int) by omega)).trans ?_;refine(Al (show(0:Int)<=2/\(2:Int)<((3:Nat):Int) by omega)).trans ?_;exact JM (show(z.length+1)*48<=_ by omega)
theorem AEy{r:BZ}(hr:RuleOk r)(n:List UInt8)(o:Int)(rs:List BZ)(hz:z.length<=1000)(Ab5:rs.length<=1000)(k:KB β):UB (Mj r) (z++[(n,o,rs)]) p c s k=k 0 (z++[(n,o,rs++[r])]) p c s:=by
 have h1:=hr.m;have h2:=hr.w;have h3:=hr.d;unfold UB;rw[Ad];refine(Al (show(0:Int)<=3/\(3:Int)<((8:Nat):Int) by omega)).trans ?_;refine(AEp h1 _).trans ?_;refine(Al (show(0:Int)<=4/\(4:Int)<((8:Nat):Int) by omega)).trans ?_;refine(AEr h2 _).trans ?_;refine(Al (show(0:Int)<=5/\(5:Int)<((8:Nat):Int) by omega)).trans ?_;refine(Aa6 (by omega) _).trans ?_;refine c_f.trans (c_f.trans (c_f.trans ?_));refine(Ae (Kq _ _)).trans ?_;simp only[Kp z (n,o,rs) (by omega),AT,JL,Ko];refine(Al (Kr _ _)).trans ?_;refine(Al (show(0:Int)<=1/\(1:Int)<((8:Nat):Int) by omega)).trans ?_;refine(Al (show(0:Int)<=2/\(2:Int)<((8:Nat):Int) by omega)).trans ?_;refine(Al (show(0:Int)<=6/\(6:Int)<((8:Nat):Int) by omega)).trans ?_;refine(Al (show(0:Int)<=7/\(7:Int)<((8:Nat):Int) by omega)).trans ?_;refine(JM (show(rs.length+1)*56<=_ by omega)).trans ?_;rfl
theorem Ams{kw:List UInt8}{x:Int×Int}(hx:PWin x)(k:Int×Int->Int->Option β):Uq (stW kw x) k=k x 0:=by
 obtain⟨x1,x2,x3,x4⟩:=hx;have d1:=R1 ⟨x1,x2⟩;have d2:=R1 (a:=x.2-1) ⟨by omega,by omega⟩;unfold Uq;rw[Ad];refine(Al (show(0:Int)<=1/\(1:Int)<((5:Nat):Int) by omega)).trans ?_;refine(Aa6 d1 _).trans ?_;refine(Al (show(0:Int)<=3/\(3:Int)<((5:Nat):Int) by omega)).trans ?_;refine(Aa6 d2 _).trans ?_;refine c_f.trans (c_f.trans ?_);refine(Al (show(0:Int)<=2/\(2:Int)<((5:Nat):Int) by omega)).trans ?_;refine(Al (show(0:Int)<=4/\(4:Int)<((5:Nat):Int) by omega)).trans ?_;show k (IntKind.i64.wrap (IntKind.i64.wrap (Int.tdiv x.1 86400*86400)+Int.tmod x.1 86400),IntKind.i64.wrap (IntKind.i64.wrap (Int.tdiv (x.2-1) 86400*86400)+(x.2-Int.tdiv (x.2-1) 86400*86400))) 0=_
 have e1:Int.tmod x.1 86400=x.1-Int.tdiv x.1 86400*86400:=by rw[FD x1,GJ x1];omega
 rw[e1,i64_in (Int.tdiv x.1 86400*86400) (by omega),i64_in (Int.tdiv (x.2-1) 86400*86400) (by omega),i64_in _ (by omega),i64_in _ (by omega)];rw[show Int.tdiv x.1 86400*86400+(x.1-Int.tdiv x.1 86400*86400)=x.1 by omega,show Int.tdiv (x.2-1) 86400*86400+(x.2-Int.tdiv (x.2-1) 86400*86400)=x.2 by omega]
theorem AEz{x:Int×Int}(hx:PWin x)(n:List UInt8)(pz:Int)(q:List (Int×Int))(r:Int×Int×Bool)(hp:p.length<=1000)(hq:q.length<=1000)(k:KB β):UC (stW Kn x) z (p++[(n,pz,q,r)]) c s k=k 0 z (p++[(n,pz,q++[x],r)]) c s:=by
 unfold UC;rw[Ad];refine(Ams hx _).trans ?_;refine(Ae (Kq _ _)).trans ?_;simp only[Kp p (n,pz,q,r) (by omega),AT,JL,Ko];refine(Al (Kr _ _)).trans ?_;refine(Ai trivial).trans ?_;refine(JM (show(q.length+1)*16<=_ by omega)).trans ?_;rfl
theorem AEA(n:List UInt8)(hs:s.length<=1000)(k:KB β):TC [wd schW,wd n] z p c s k=k 0 z p c (s++[(n,[],[])]):=by unfold TC;rw[Ad];refine(Al (show(0:Int)<=1/\(1:Int)<((2:Nat):Int) by omega)).trans ?_;exact JM (show(s.length+1)*64<=_ by omega)
end
end
end Go.Lift
