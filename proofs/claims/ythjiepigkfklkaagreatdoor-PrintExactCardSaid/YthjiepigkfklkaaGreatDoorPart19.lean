/- Part19 -/
import Derived.KernelRfl
import Derived.Test.YthjiepigkfklkaaGreatDoorPart18
set_option linter.unusedVariables false
set_option linter.unusedSectionVars false
set_option linter.unusedSimpArgs false
open _root_ renaming Option → Ya, List → Ye, Int → Yh, UInt8 → Yj, cond → Yk, Nat → Yn, Bool → Ys, if_neg → Yy, if_pos → Y1, absurd → Y7, Decidable → YK
open List renaming length → Yb, getD → Ym, drop → Y4, take → Y5, replicate → Y8, range → YaG, range_succ_eq_map → YaZ
open Go.IntKind renaming i64 → Yc
open Decidable renaming decide → Yd
open Option renaming none → Yf
open Bool renaming false → Yi, true → Yp, and_false → YaX
open Int renaming toNat → Yl, tmod → Yv, tdiv → Yz
open Go.Lib renaming decDigits → Y6, joinTail → Yat, join → Yay
open List.Pairwise renaming nil → YF
open Nat renaming min → YV, pow_le_pow_right → Ybh
open UInt8 renaming ofNat → Yad
namespace Go.Lift
open Go.RowKit Go.IntWalk
noncomputable section
variable[Sl]
set_option maxRecDepth 10000
section
variable{β:Type}
def Hh(nz:Yh)(p:AV):Yh:=Yk (!ixI p.2.1 nz) 3 (Yk (!Yd (Fl p.2.2.1=0)) 8 (Yk (!Kt p.2.2.2.1) 1 (Yk (!Kt p.2.2.2.2.1) 1 0)))
theorem AGV(c:Aj)(p:AV)(k:Yh->Ya β):gI c p k=k (Hh (c.1.length:Yh) p):=by
 unfold gI;rw[Ad];unfold Hh;refine(r_ix _ _ _).trans ?_;cases ixI p.2.1 (c.1.length:Yh)with
 |false=>rfl
 |true=>
  refine(Apn _ _).trans ?_;show Yk (!Yd (Fl p.2.2.1=0)) _ _=k (Yk (!Yd (Fl p.2.2.1=0)) _ _);cases Yd (Fl p.2.2.1=0)with
  |false=>rfl
  |true=>
   refine(Apk _ _).trans ?_;cases Kt p.2.2.2.1 with
   |false=>rfl
   |true=>refine(Apk _ _).trans ?_;cases Kt p.2.2.2.2.1<;>rfl
abbrev Ed:=Yh×(Yh×(Yh×(Yh×Yh)))
def e1V(b:Ys)(x:Ed):Yh:=Yk b 1 (Yk (Yd (x.2.2.2.2<=x.2.2.2.1)) 6 0)
def e2V(b:Ys)(x:Ed):Yh:=Yk b 4 (e1V (Yd (x.2.2.2.1<0)||(Yd (x.2.2.2.2<0)||!dayI (Yc.wrap (Yz x.2.2.2.2 86400)))) x)
def e3V(b:Ys)(x:Ed):Yh:=Yk b 1 (e2V (Yd (x.1=2)&&Yd (x.2.1=x.2.2.1)) x)
def e4V(b:Ys)(x:Ed):Yh:=Yk b 3 (e3V ((!Yd (x.1=2))&&!Yd (x.2.2.1=0)) x)
def G3(np:Yh)(x:Ed):Yh:=
 Yk (!inI x.1 0 2) 1 (e4V (((!ixI x.2.1 np)&&!(Yd (x.1=1)&&Yd (x.2.1=-1)))||(Yd (x.1=2)&&!ixI x.2.2.1 np)) x)
theorem r_e1(b:Ys)(x:Ed)(k:Yh->Ya β):Sr (λt=>k t) (λ_=>k 0) b x=k (e1V b x):=by
 unfold Sr;rw[Ad];unfold Aah e1V;cases b with
 |true=>rfl
 |false=>show Yk (Yd (x.2.2.2.2<=x.2.2.2.1)) _ _=k (Yk (Yd (x.2.2.2.2<=x.2.2.2.1)) _ _);cases Yd (x.2.2.2.2<=x.2.2.2.1)<;>rfl
theorem r_e2(b:Ys)(x:Ed)(k:Yh->Ya β):Wr (λt=>k t) (λ_=>k 0) b x=k (e2V b x):=by
 unfold Wr;rw[Ad];unfold Aai e2V;cases b with
 |true=>rfl
 |false=>
  show Yk (Yd (x.2.2.2.1<0)) _ _=k (e1V (Yd (x.2.2.2.1<0)||_) x);cases Yd (x.2.2.2.1<0)with
  |true=>exact r_e1 _ _ _
  |false=>
   show Yk (Yd (x.2.2.2.2<0)) _ _=k (e1V (Yd (x.2.2.2.2<0)||_) x);cases Yd (x.2.2.2.2<0)with
   |true=>exact r_e1 _ _ _
   |false=>exact(Aco _ _).trans (r_e1 _ _ _)
theorem r_e3(b:Ys)(x:Ed)(k:Yh->Ya β):Ws (λt=>k t) (λ_=>k 0) b x=k (e3V b x):=by
 unfold Ws;rw[Ad];unfold Aaj e3V;cases b with
 |true=>rfl
 |false=>show Yk (Yd (x.1=2)) _ _=k (e2V (Yd (x.1=2)&&_) x);cases Yd (x.1=2)<;>exact r_e2 _ _ _
theorem r_e4(b:Ys)(x:Ed)(k:Yh->Ya β):Qc (λt=>k t) (λ_=>k 0) b x=k (e4V b x):=by
 unfold Qc;rw[Ad];unfold Aak e4V;cases b with
 |true=>rfl
 |false=>show Yk (!Yd (x.1=2)) _ _=k (e3V ((!Yd (x.1=2))&&_) x);cases Yd (x.1=2)<;>exact r_e3 _ _ _
theorem AGW(c:Aj)(x:Ed)(k:Yh->Ya β):iQ c x k=k (G3 (c.2.1.length:Yh) x):=by
 have h5:∀b:Ys,Ss (λBM x2=>Qc (λt=>k t) (λ_=>k 0) BM x2) (c.2.1.length:Yh) b x=k (e4V (b||(Yd (x.1=2)&&!ixI x.2.2.1 (c.2.1.length:Yh))) x):=by
  intro b;unfold Ss;rw[Ad];unfold Aal;cases b with
  |true=>exact r_e4 _ _ _
  |false=>
   show Yk (Yd (x.1=2)) _ _=k (e4V (Yd (x.1=2)&&_) x);cases Yd (x.1=2)with
   |false=>exact r_e4 _ _ _
   |true=>exact(r_ix _ _ _).trans (r_e4 _ _ _)
 unfold iQ;rw[Ad];unfold G3;refine(r_in _ _ _ _).trans ?_;cases inI x.1 0 2 with
 |false=>rfl
 |true=>
  refine(r_ix _ _ _).trans ?_;show Yk (!ixI x.2.1 (c.2.1.length:Yh)) _ _=k (e4V (((!ixI x.2.1 (c.2.1.length:Yh))&&_)||_) x);cases ixI x.2.1 (c.2.1.length:Yh)with
  |true=>exact h5 _
  |false=>show Yk (Yd (x.1=1)) _ _=k (e4V ((!(Yd (x.1=1)&&_))||_) x);cases Yd (x.1=1)<;>exact h5 _
def l1V(b:Ys)(l:Bz):Yh:=Yk b 3 (Yk (Yd (l.2.2.2.2.2.2.2.2=0)) (Yk (!Yd (l.2.2.2.2.2.2.2.1=0)) 1 0) 0)
def l2V(np nc:Yh)(b:Ys)(l:Bz):Yh:=
 Yk b 1 (Yk (Yd ((l.2.2.2.2.2.1.length:Yh)=0)) 7 (Yk (Yd (12<(l.2.2.2.2.2.1.length:Yh))) 5 (Yk (!l.2.2.2.2.2.1.all λm=>ixI m np) 3
  (Yk (!Yd (Fl l.2.2.2.2.2.2.1=0)) 8 (Yk (!inI l.2.2.2.2.2.2.2.2 0 2) 1 (l1V ((!Yd (l.2.2.2.2.2.2.2.2=0))&&!ixI l.2.2.2.2.2.2.2.1 nc) l))))))
def FJ(nz np nc:Yh)(l:Bz):Yh:=
 Yk (!ixI l.2.1 nz) 3 (l2V np nc (Yd (l.2.2.1.1<1)||((!dayI l.2.2.1.1)||((!inI l.2.2.1.2 0 86399)||((!inI l.2.2.2.1 0 2)||!inI l.2.2.2.2.1 1 400)))) l)
theorem r_l1(b:Ys)(l:Bz)(k:Yh->Ya β):WN (λt=>k t) (λ_=>k 0) b l=k (l1V b l):=by
 unfold WN;rw[Ad];unfold Abu l1V;cases b with
 |true=>rfl
 |false=>show Yk (Yd (l.2.2.2.2.2.2.2.2=0)) (Yk (!Yd (l.2.2.2.2.2.2.2.1=0)) _ _) _=k (Yk (Yd (l.2.2.2.2.2.2.2.2=0)) (Yk (!Yd (l.2.2.2.2.2.2.2.1=0)) _ _) _);cases Yd (l.2.2.2.2.2.2.2.2=0)<;>cases Yd (l.2.2.2.2.2.2.2.1=0)<;>rfl
theorem AGX(s:Ye Yh)(hs:s.length<=1000000)(c:Aj)(k:Ys->Aj->Ya β):kC s c k=k (!s.all λm=>ixI m (c.2.1.length:Yh)) c:=by
 unfold kC;rw[Ad];unfold Ab8;rw[Ad];unfold Ab7;rw[Ad];refine(Ks (λm i=>WD m (λt b=>k (Yd ((0:Yh)<=t)) b) (λb=>k (Yd ((0:Yh)≤-1)) b) s (s.length:Yh) i c) (λm=>ixI m (c.2.1.length:Yh)) (k Yp c) (k Yi c) 0 s fuel (BB (by omega)) (λm i hi=>?_) (λm=>?_)).trans ?_
 ·simp only[Ani,jT]
  refine(Ag (by omega)).trans ?_;refine(AG (by omega)).trans ?_;rw[Bh,i64_in ((i:Yh)+1) (by omega)];unfold vF;rw[Ad];refine(r_ix _ _ _).trans ?_;cases ixI (s.getD i 0) (c.2.1.length:Yh)with
  |true=>rfl
  |false=>show k (Yd ((0:Yh)<=i)) c=k Yp c;rw[Ao (by omega:(0:Yh)<=i)]
 ·simp only[Ani,jT]
  exact Al (by omega)
 ·cases s.all λm=>ixI m (c.2.1.length:Yh)<;>rfl
theorem r_l2(b:Ys)(c:Aj)(l:Bz)(k:Yh->Ya β):Oj (λt=>k t) (λ_=>k 0) b c l=k (l2V (c.2.1.length:Yh) (c.2.2.1.length:Yh) b l):=by
 unfold Oj;rw[Ad];unfold Abv l2V;cases b with
 |true=>rfl
 |false=>
  show Yk (Yd ((l.2.2.2.2.2.1.length:Yh)=0)) _ _=k (Yk (Yd ((l.2.2.2.2.2.1.length:Yh)=0)) _ _);cases Yd ((l.2.2.2.2.2.1.length:Yh)=0)with
  |true=>rfl
  |false=>
   show Yk (Yd ((12:Yh)<(l.2.2.2.2.2.1.length:Yh))) _ _=k (Yk (Yd ((12:Yh)<(l.2.2.2.2.2.1.length:Yh))) _ _);by_cases h:(12:Yh)<(l.2.2.2.2.2.1.length:Yh)
   ·rw[Ao h];rfl
   ·rw[Ar h]
    refine(AGX _ (by omega) _ _).trans ?_;cases l.2.2.2.2.2.1.all λm=>ixI m (c.2.1.length:Yh)with
    |false=>rfl
    |true=>
     refine(Apn _ _).trans ?_;show Yk (!Yd (Fl l.2.2.2.2.2.2.1=0)) _ _=k (Yk (!Yd (Fl l.2.2.2.2.2.2.1=0)) _ _);cases Yd (Fl l.2.2.2.2.2.2.1=0)with
     |false=>rfl
     |true=>
      refine(r_in _ _ _ _).trans ?_;cases inI l.2.2.2.2.2.2.2.2 0 2 with
      |false=>rfl
      |true=>
       show Yk (!Yd (l.2.2.2.2.2.2.2.2=0)) _ _=k (l1V ((!Yd (l.2.2.2.2.2.2.2.2=0))&&_) l);cases Yd (l.2.2.2.2.2.2.2.2=0)with
       |true=>exact r_l1 _ _ _
       |false=>exact(r_ix _ _ _).trans (r_l1 _ _ _)
theorem AGY(c:Aj)(l:Bz)(k:Yh->Ya β):kI c l k=k (FJ (c.1.length:Yh) (c.2.1.length:Yh) (c.2.2.1.length:Yh) l):=by
 unfold kI;rw[Ad];unfold FJ;refine(r_ix _ _ _).trans ?_;cases ixI l.2.1 (c.1.length:Yh)with
 |false=>rfl
 |true=>
  show Yk (Yd (l.2.2.1.1<1)) _ _=k (l2V _ _ (Yd (l.2.2.1.1<1)||_) l);cases Yd (l.2.2.1.1<1)with
  |true=>exact r_l2 _ _ _ _
  |false=>
   refine(Aco _ _).trans ?_;show Yk (!dayI l.2.2.1.1) _ _=k (l2V _ _ ((!dayI l.2.2.1.1)||_) l);cases dayI l.2.2.1.1 with
   |false=>exact r_l2 _ _ _ _
   |true=>
    refine(r_in _ _ _ _).trans ?_;show Yk (!inI l.2.2.1.2 0 86399) _ _=k (l2V _ _ ((!inI l.2.2.1.2 0 86399)||_) l);cases inI l.2.2.1.2 0 86399 with
    |false=>exact r_l2 _ _ _ _
    |true=>
     refine(r_in _ _ _ _).trans ?_;show Yk (!inI l.2.2.2.1 0 2) _ _=k (l2V _ _ ((!inI l.2.2.2.1 0 2)||_) l);cases inI l.2.2.2.1 0 2 with
     |false=>exact r_l2 _ _ _ _
     |true=>exact(r_in _ _ _ _).trans (r_l2 _ _ _ _)
theorem AGZ(s:Ye Yh)(hs:s.length<=1000000)(k:Ys->Ya β):kB s k=k (!s.all dayI):=by
 unfold kB;rw[Ad];unfold Ab5;rw[Ad];unfold Ab4;rw[Ad];refine(Ks (λm i=>WC m (λt=>k (Yd ((0:Yh)<=t))) (λ_=>k (Yd ((0:Yh)≤-1))) s (s.length:Yh) i) dayI (k Yp) (k Yi) 0 s fuel (BB (by omega)) (λm i hi=>?_) (λm=>?_)).trans ?_
 ·simp only[And,jS]
  refine(Ag (by omega)).trans ?_;refine(AG (by omega)).trans ?_;rw[Bh,i64_in ((i:Yh)+1) (by omega)];unfold AaD;rw[Ad];refine(Aco _ _).trans ?_;cases dayI (s.getD i 0)with
  |true=>rfl
  |false=>show k (Yd ((0:Yh)<=i))=k Yp;rw[Ao (by omega:(0:Yh)<=i)]
 ·simp only[And,jS]
  exact Al (by omega)
 ·cases s.all dayI<;>rfl
def ascG(l:Ye Yh)(i:Yn)(d:Yh)(_:Unit):Yh⊕Unit:=Yk (Yd (0<(i:Yh))&&Yd (d<=l.getD (i-1) 0)) (.inl 6) (.inr ())
def calV(nz:Yh)(x:Bm):Yh:=
 Yk (!ixI x.2.1 nz) 3 (Yk (Yd (64<(x.2.2.length:Yh))) 5 (Yk (!x.2.2.all dayI) 1 (errV (walk (ascG x.2.2) x.2.2 0 ()))))
theorem AH0(c:Aj)(x:Bm)(k:Yh->Ya β):kF c x k=k (calV (c.1.length:Yh) x):=by
 unfold kF;rw[Ad];unfold calV;refine(r_ix _ _ _).trans ?_;cases ixI x.2.1 (c.1.length:Yh)with
 |false=>rfl
 |true=>
  show Yk (Yd ((64:Yh)<(x.2.2.length:Yh))) _ _=k (Yk (Yd ((64:Yh)<(x.2.2.length:Yh))) _ _);by_cases h:(64:Yh)<(x.2.2.length:Yh)
  ·rw[Ao h];rfl
  ·rw[Ar h]
   refine(AGZ _ (by omega) _).trans ?_;cases x.2.2.all dayI with
   |false=>rfl
   |true=>
    show kE (λt=>k t) (λ_=>k 0) (x.2.2.length:Yh) 0 x=k (errV (walk (ascG x.2.2) x.2.2 0 ()));unfold kE;rw[Ad];refine(JC (λm i(_:Unit)=>WM m (λt=>k t) (λ_=>k 0) (x.2.2.length:Yh) i x) (ascG x.2.2) (λe=>k e) (λ_=>k 0) 0 x.2.2 () fuel (BB (by omega)) (λm i _ hi=>?_) (λm _=>?_)).trans (Jd k _)
    ·simp only[AnJ,kD]
     refine(Ag (by omega)).trans ?_;unfold ascG;rw[i64_in ((i:Yh)+1) (by omega)];by_cases h0:(0:Yh)<i
     ·refine(Ag h0).trans ?_
      refine(AG (by omega)).trans ?_;rw[i64_in ((i:Yh)-1) (by omega)];refine(AG (by omega)).trans ?_;rw[show((i:Yh)-1).toNat=i-1 by omega,Bh,Ao h0];cases Yd (x.2.2.getD i 0<=x.2.2.getD (i-1) 0)<;>rfl
     ·refine(Al h0).trans ?_
      rw[Ar h0];rfl
    ·simp only[AnJ,kD]
     exact Al (by omega)
def FB{α:Type}(of:α->Ye Yj)(chk:α->Yh)(_:Yn)(x:α)(l:Ye (Ye Yj)):Yh⊕Ye (Ye Yj):=
 Yk (Yd (Eg (of x) l=0)) (Yk (Yd (chk x=0)) (.inr (l++[of x])) (.inl (chk x))) (.inl (Eg (of x) l))
def G4{α:Type}(of:α->Ye Yj)(chk:α->Yh)(xs:Ye α):Yh:=errV (walk (FB of chk) xs 0 [])
theorem Cn{α:Type}{xs:Ye α}{i:Yn}{d:α}(h:i<xs.length):xs.getD i d∈xs:=by rw[ZO,Ff h];exact List.getElem_mem h
theorem Oq{α:Type}(E:Yh->Ya β)(K:Ye (Ye Yj)->Ya β)(of:α->Ye Yj)(chk:α->Yh)(i:Yn)(x:α)(l:Ye (Ye Yj)):sumK E K (FB of chk i x l)=Yk (!Yd (Eg (of x) l=0)) (E (Eg (of x) l)) (Yk (!Yd (chk x=0)) (E (chk x)) (K (l++[of x]))):=by
 unfold FB;cases Yd (Eg (of x) l=0)<;>cases Yd (chk x=0)<;>rfl
theorem mB{s:Ye Yj}{l:Ye (Ye Yj)}{a:Ya β}{f:Ye (Ye Yj×Ys)->Ya β}:Yk (!Yd (Eg s l=0)) a (f (sn (Yk (Yd (Eg s l=0)) (l++[s]) l)))=Yk (!Yd (Eg s l=0)) a (f (sn (l++[s]))):=by
 cases Yd (Eg s l=0)<;>rfl
theorem AH1(xs:Ye AF)(zv:AF->Yh)(hz:∀z∈xs,∀k:Yh->Ya β,SB z k=k (zv z))(hs:xs.length<=1000000)(k:Yh->Ya β):lI xs k=k (G4 (·.1) zv xs):=by
 unfold lI;rw[Ad];unfold AbZ;rw[Ad];refine(JC (λm i l=>SC m (λt=>k t) (λ_=>k 0) xs (xs.length:Yh) i (sn l)) (FB (·.1) zv) (λe=>k e) (λ_=>k 0) ([],0,[]) xs [] fuel (BB (by omega)) (λm i l hi=>?_) (λm _=>?_)).trans (Jd k _)
 ·simp only[AoI,lH]
  refine(Ag (by omega)).trans ?_;refine(AG (by omega)).trans ?_;rw[Bh,i64_in ((i:Yh)+1) (by omega),Oq];generalize hx:xs.getD i ([],0,[])=x;have hm:x∈xs:=hx▸Cn hi;unfold uH;rw[Ad];refine(Xl _ _ _).trans ?_;rw[hz x hm];exact mB (f:=λt=>Yk (!Yd (zv x=0)) (k (zv x)) (SC m (λt=>k t) (λ_=>k 0) xs (xs.length:Yh) ((i:Yh)+1) t))
 ·simp only[AoI,lH]
  exact Al (by omega)
theorem AH2(c:Aj)(xs:Ye Bm)(hs:xs.length<=1000000)(k:Yh->Aj->Ya β):lK xs c k=k (G4 (·.1) (calV (c.1.length:Yh)) xs) c:=by
 unfold lK;rw[Ad];unfold Ac1;rw[Ad];refine(JC (λm i l=>SD m (λt b=>k t b) (λb=>k 0 b) xs (xs.length:Yh) i c (sn l)) (FB (·.1) (calV (c.1.length:Yh))) (λe=>k e c) (λ_=>k 0 c) ([],0,[]) xs [] fuel (BB (by omega)) (λm i l hi=>?_) (λm _=>?_)).trans (Jd (λe=>k e c) _)
 ·simp only[AoN,lJ]
  refine(Ag (by omega)).trans ?_;refine(AG (by omega)).trans ?_;rw[Bh,i64_in ((i:Yh)+1) (by omega),Oq];generalize hx:xs.getD i ([],0,[])=x;unfold uI AbL;rw[Ad,Ad];refine(Xl _ _ _).trans ?_;refine(Aw (Yk _ _) (AH0 _ _ _)).trans ?_;exact mB (f:=λt=>Yk (!Yd (calV (c.1.length:Yh) x=0)) (k (calV (c.1.length:Yh) x) c) (SD m (λt b=>k t b) (λb=>k 0 b) xs (xs.length:Yh) ((i:Yh)+1) c t))
 ·simp only[AoN,lJ]
  exact Al (by omega)
theorem AH3(c:Aj)(xs:Ye Bz)(hs:xs.length<=1000000)(k:Yh->Aj->Ya β):kW xs c k=k (G4 (·.1) (FJ (c.1.length:Yh) (c.2.1.length:Yh) (c.2.2.1.length:Yh)) xs) c:=by
 unfold kW;rw[Ad];unfold AbO;rw[Ad];refine(JC (λm i l=>SA m (λt b=>k t b) (λb=>k 0 b) xs (xs.length:Yh) i c (sn l)) (FB (·.1) (FJ (c.1.length:Yh) (c.2.1.length:Yh) (c.2.2.1.length:Yh))) (λe=>k e c) (λ_=>k 0 c) ([],0,(0,0),0,0,[],[],0,0) xs [] fuel (BB (by omega)) (λm i l hi=>?_) (λm _=>?_)).trans (Jd (λe=>k e c) _)
 ·simp only[Aoq,kV]
  refine(Ag (by omega)).trans ?_;refine(AG (by omega)).trans ?_;rw[Bh,i64_in ((i:Yh)+1) (by omega),Oq];generalize hx:xs.getD i ([],0,(0,0),0,0,[],[],0,0)=x;unfold uU AbM;rw[Ad,Ad];refine(Xl _ _ _).trans ?_;refine(Aw (Yk _ _) (AGY _ _ _)).trans ?_;exact mB (f:=λt=>Yk (!Yd (FJ (c.1.length:Yh) (c.2.1.length:Yh) (c.2.2.1.length:Yh) x=0)) (k (FJ (c.1.length:Yh) (c.2.1.length:Yh) (c.2.2.1.length:Yh) x) c) (SA m (λt b=>k t b) (λb=>k 0 b) xs (xs.length:Yh) ((i:Yh)+1) c t))
 ·simp only[Aoq,kV]
  exact Al (by omega)
def H7(np:Yh)(_:Yn)(x:Ed)(_:Unit):Yh⊕Unit:=Yk (Yd (G3 np x=0)) (.inr ()) (.inl (G3 np x))
def I2(nz np nc:Yh)(x:BC):Yh:=
 Yk (Yd (6<(x.2.1.length:Yh))) 5 (Yk (Yd (48<(x.2.2.length:Yh))) 5
  (Yk (Yd (G4 (·.1) (FJ nz np nc) x.2.1=0)) (errV (walk (H7 np) x.2.2 0 ())) (G4 (·.1) (FJ nz np nc) x.2.1)))
theorem AH4(c:Aj)(x:BC)(k:Yh->Ya β):lE c x k=k (I2 (c.1.length:Yh) (c.2.1.length:Yh) (c.2.2.1.length:Yh) x):=by
 unfold lE;rw[Ad];unfold I2;by_cases h1:(6:Yh)<(x.2.1.length:Yh)
 ·refine(Ag h1).trans ?_
  rw[Ao h1];rfl
 refine(Al h1).trans ?_;rw[Ar h1];by_cases h2:(48:Yh)<(x.2.2.length:Yh)
 ·refine(Ag h2).trans ?_
  rw[Ao h2];rfl
 refine(Al h2).trans ?_;rw[Ar h2];refine(AH3 c _ (by omega) _).trans ?_;show Yk (!Yd (G4 _ (FJ _ _ _) x.2.1=0)) _ _=k (Yk (Yd (G4 _ (FJ _ _ _) x.2.1=0)) _ _);cases Yd (G4 (·.1) (FJ (c.1.length:Yh) (c.2.1.length:Yh) (c.2.2.1.length:Yh)) x.2.1=0)with
 |false=>rfl
 |true=>
  show kZ (λt=>k t) (λ_=>k 0) x.2.2 (x.2.2.length:Yh) 0 c=k (errV (walk (H7 (c.2.1.length:Yh)) x.2.2 0 ()));unfold kZ;rw[Ad];refine(JC (λm i(_:Unit)=>WY m (λt=>k t) (λ_=>k 0) x.2.2 (x.2.2.length:Yh) i c) (H7 (c.2.1.length:Yh)) (λe=>k e) (λ_=>k 0) (0,0,0,0,0) x.2.2 () fuel (BB (by omega)) (λm i _ hi=>?_) (λm _=>?_)).trans (Jd k _)
  ·simp only[Aoy,kY]
   refine(Ag (by omega)).trans ?_;refine(AG (by omega)).trans ?_;rw[Bh,i64_in ((i:Yh)+1) (by omega)];refine(AGW _ _ _).trans ?_;unfold H7;cases Yd (G3 (c.2.1.length:Yh) (x.2.2.getD i (0,0,0,0,0))=0)<;>rfl
  ·simp only[Aoy,kY]
   exact Al (by omega)
theorem AH5(c:Aj)(xs:Ye BC)(hs:xs.length<=1000000)(k:Yh->Aj->Ya β):lN xs c k=k (G4 (·.1) (I2 (c.1.length:Yh) (c.2.1.length:Yh) (c.2.2.1.length:Yh)) xs) c:=by
 unfold lN;rw[Ad];unfold Ac3;rw[Ad];refine(JC (λm i l=>SE m (λt b=>k t b) (λb=>k 0 b) xs (xs.length:Yh) i c (sn l)) (FB (·.1) (I2 (c.1.length:Yh) (c.2.1.length:Yh) (c.2.2.1.length:Yh))) (λe=>k e c) (λ_=>k 0 c) ([],[],[]) xs [] fuel (BB (by omega)) (λm i l hi=>?_) (λm _=>?_)).trans (Jd (λe=>k e c) _)
 ·simp only[AoS,lL]
  refine(Ag (by omega)).trans ?_;refine(AG (by omega)).trans ?_;rw[Bh,i64_in ((i:Yh)+1) (by omega),Oq];generalize hx:xs.getD i ([],[],[])=x;unfold uJ AbU;rw[Ad,Ad];refine(Xl _ _ _).trans ?_;refine(Aw (Yk _ _) (AH4 _ _ _)).trans ?_;exact mB (f:=λt=>Yk (!Yd (I2 (c.1.length:Yh) (c.2.1.length:Yh) (c.2.2.1.length:Yh) x=0)) (k (I2 (c.1.length:Yh) (c.2.1.length:Yh) (c.2.2.1.length:Yh) x) c) (SE m (λt b=>k t b) (λb=>k 0 b) xs (xs.length:Yh) ((i:Yh)+1) c t))
 ·simp only[AoS,lL]
  exact Al (by omega)
def Qn:Ye Yj:=[110,111,98,111,100,121]
def Kv(nz:Yh)(p:AV)(l:Ye (Ye Yj)):Yh:=Yk (Yd (p.1=Qn)) 2 (Eg p.1 l)
def JD(nz:Yh)(_:Yn)(p:AV)(l:Ye (Ye Yj)):Yh⊕Ye (Ye Yj):=
 Yk (Yd (Kv nz p l=0)) (Yk (Yd (Hh nz p=0)) (.inr (l++[p.1])) (.inl (Hh nz p))) (.inl (Kv nz p l))
def Xm(nz:Yh)(xs:Ye AV):Yh:=errV (walk (JD nz) xs 0 [])
def orV(a b:Yh):Yh:=Yk (Yd (a=0)) b a
def Gi(zv:AF->Yh)(c:Aj):Yh:=
 Yk (Yd (16<(c.1.length:Yh))) 5 (Yk (Yd (32<(c.2.1.length:Yh))) 5 (Yk (Yd (8<(c.2.2.1.length:Yh))) 5 (Yk (Yd (12<(c.2.2.2.length:Yh))) 5
  (orV (G4 (·.1) zv c.1) (orV (Xm (c.1.length:Yh) c.2.1) (orV (G4 (·.1) (calV (c.1.length:Yh)) c.2.2.1)
   (G4 (·.1) (I2 (c.1.length:Yh) (c.2.1.length:Yh) (c.2.2.1.length:Yh)) c.2.2.2)))))))
theorem Xn{k:Yh->Ya β}{a b:Yh}{g:Ya β}(h:g=k b):Yk (!Yd (a=0)) (k a) g=k (orV a b):=by rw[h];unfold orV;cases Yd (a=0)<;>rfl
theorem AH6{nz:Yh}{xs:Ye AV}:∀{j:Yn}{l:Ye (Ye Yj)}{e:Yh},walk (JD nz) xs j l=.inl e->e≠0:=by
 induction xs with
 |nil=>intro j l e h;cases h
 |cons x xs ih=>
  intro j l e h;unfold walk at h;unfold JD at h;by_cases h1:Kv nz x l=0
  ·rw[Ao h1]at h
   by_cases h2:Hh nz x=0
   ·rw[Ao h2]at h
    exact ih h
   ·rw[Ar h2]at h
    injection h with h;exact h▸h2
  ·rw[Ar h1]at h
   injection h with h;exact h▸h1
theorem AH7(nz:Yh){p:AV}{l:Ye (Ye Yj)}{f:Yh->Ye (Ye Yj×Ys)->Ya β}:Yk (Yd (p.1=Qn)) (f 2 (sn (Yk (Yd (Eg p.1 l=0)) (l++[p.1]) l))) (f (Eg p.1 l) (sn (Yk (Yd (Eg p.1 l=0)) (l++[p.1]) l)))=f (Kv nz p l) (sn (Yk (Yd (Eg p.1 l=0)) (l++[p.1]) l)):=by
 unfold Kv;cases Yd (p.1=Qn)<;>rfl
theorem Apo{nz:Yh}{p:AV}{l:Ye (Ye Yj)}(h:Kv nz p l=0):Eg p.1 l=0:=by
 unfold Kv at h;cases hp:Yd (p.1=Qn)with
 |true=>rw[hp]at h;cases h
 |false=>rw[hp]at h;exact h
theorem AH8(c:Aj)(xs:Ye AV)(hs:xs.length<=1000000)(k:Yh->Ya β)(K:Aj->Ya β)(b:Yh)(hK:K c=k b):lP (λt=>k t) K xs (xs.length:Yh) 0 c []=k (orV (Xm (c.1.length:Yh) xs) b):=by
 unfold lP;rw[Ad];refine(JC (λm i l=>SF m (λt=>k t) K xs (xs.length:Yh) i c (sn l)) (JD (c.1.length:Yh)) (λe=>k e) (λ_=>k b) ([],0,[],0,0,Yi) xs [] fuel (BB (by omega)) (λm i l hi=>?_) (λm _=>?_)).trans ?_
 ·simp only[AoW,lO]
  refine(Ag (by omega)).trans ?_;refine(AG (by omega)).trans ?_;rw[Bh];generalize hx:xs.getD i ([],0,[],0,0,Yi)=x;refine(Xl _ _ _).trans ?_;refine(AH7 (c.1.length:Yh) (f:=λe s=>Xa (λt=>k t) (λZH ZI ZJ c2 seen2=>SF m (λt=>k t) K ZH ZI (Yc.wrap (ZJ+1)) c2 seen2) e xs (xs.length:Yh) (i:Yh) c s x)).trans ?_;unfold Xa;rw[Ad];unfold Ac7 JD;simp only;rw[i64_in ((i:Yh)+1) (by omega)];by_cases h1:Kv (c.1.length:Yh) x l=0
  ·refine(Ag h1).trans ?_
   rw[Ao h1,Apo h1];refine(AGV _ _ _).trans ?_;cases Yd (Hh (c.1.length:Yh) x=0)<;>rfl
  ·refine(Al h1).trans ?_
   refine(EF h1).trans ?_;rw[Ar h1];rfl
 ·simp only[AoW,lO]
  exact(Al (by omega)).trans hK
 ·unfold Xm
  cases hw:walk (JD (c.1.length:Yh)) xs 0 []with
  |inr _=>rfl
  |inl e=>have:=AH6 hw;show k e=k (orV e b);unfold orV;rw[Ar this];rfl
theorem App(c:Aj)(zv:AF->Yh)(hz:∀z∈c.1,∀k:Yh->Ya β,SB z k=k (zv z))(k:Yh->Ya β):lQ c k=k (Gi zv c):=by
 unfold lQ;rw[Ad];unfold Gi;by_cases h1:(16:Yh)<(c.1.length:Yh)
 ·refine(Ag h1).trans ?_
  rw[Ao h1];rfl
 refine(Al h1).trans ?_;rw[Ar h1];by_cases h2:(32:Yh)<(c.2.1.length:Yh)
 ·refine(Ag h2).trans ?_
  rw[Ao h2];rfl
 refine(Al h2).trans ?_;rw[Ar h2];by_cases h3:(8:Yh)<(c.2.2.1.length:Yh)
 ·refine(Ag h3).trans ?_
  rw[Ao h3];rfl
 refine(Al h3).trans ?_;rw[Ar h3];by_cases h4:(12:Yh)<(c.2.2.2.length:Yh)
 ·refine(Ag h4).trans ?_
  rw[Ao h4];rfl
 refine(Al h4).trans ?_;rw[Ar h4];refine(AH1 c.1 zv hz (by omega) _).trans ?_;refine Xn (k:=k) ?_;refine AH8 c c.2.1 (by omega) k _ _ ?_;refine(AH2 c c.2.2.1 (by omega) _).trans ?_;refine Xn (k:=k) ?_;exact AH5 c c.2.2.2 (by omega) _
end
end
end Go.Lift
namespace Go.Lift
open Go.RowKit Go.IntWalk
noncomputable section
variable[Sl]
set_option maxRecDepth 10000
section
variable{β:Type}
theorem AH9{y m:Yh}(hy:1970<=y/\y<=2240)(hm:1<=m/\m<=12)(k:Yh->Ya β):PY (y,(m,1)) k=k (cntN y+sumM (AH y) (m-1).toNat):=by
 have KH:sumM (AH y) 0=0:=rfl;have hb:=Ld (AH y) (m-1).toNat;have h0:0<=cntN y/\cntN y<=100000:=by unfold cntN;omega
 unfold PY;rw[Ad];refine(LX (y:=y) (by omega) _).trans ?_;simp only;rw[i64_in (cntN y+1) (by omega),i64_in (cntN y+1-1) (by omega)];unfold fQ;rw[Ad];refine(Api (y:=y) (by omega) m 1 (m-1).toNat fuel 0 (cntN y+1-1) (by omega) (by omega) (BB (by omega)) (by omega) (by omega) _).trans (k_eq ?_);rw[DZ,KH];omega
def Cv(y m:Yh):Yh:=cntN y+sumM (AH y) (m-1).toNat
theorem Xo(lp:Prop)[YK lp]{m:Yh}(hm:1<=m/\m<=12):28<=BZ lp m/\BZ lp m<=31:=by
 unfold BZ;rw[Yy (by omega),Yy (by omega)];by_cases h2:m=2
 ·rw[Y1 h2]
  by_cases h3:lp
  ·rw[Y1 h3];omega
  ·rw[Yy h3];omega
 ·rw[Yy h2]
  by_cases h4:m=4\/m=6\/m=9\/m=11
  ·rw[Y1 h4];omega
  ·rw[Yy h4];omega
def nthD(y m w wd:Yh):Yh:=
 let n:=Cv y m
 let d:=n+(wd-(n+3)%7+7)%7+7*(w-1)
 if n+BZ (AH y) m<=d then d-7 else d
theorem Apq{y m:Yh}(hy:1970<=y/\y<=2240)(hm:1<=m/\m<=12):0<=Cv y m/\Cv y m<=200000:=by
 have hb:=Ld (AH y) (m-1).toNat;have Ai:sumM (AH y) (m-1).toNat<=sumM (AH y) (m-1).toNat:=IS _;have h0:0<=cntN y/\cntN y<=99000:=by unfold cntN;omega
 unfold Cv;omega
theorem AHa{y m w wd:Yh}(hy:1970<=y/\y<=2240)(hm:1<=m/\m<=12)(hw:1<=w/\w<=5)(hd:0<=wd/\wd<=6)(k:Yh->Yh->Ya β):gW y m w wd k=k (nthD y m w wd) 0:=by
 have hl:=Xo (AH y) hm;have hb:=Ld (AH y) (m-1).toNat;have h0:0<=cntN y/\cntN y<=99000:=by unfold cntN;omega
 have hn:0<=Cv y m/\Cv y m<=100000:=by unfold Cv;omega
 unfold gW;rw[Ad]
 have hv:∀k:Ys->Ya β,PX (y,m,1) k=k Yp:=by intro k;unfold PX;rw[Ad];refine(Ag hy.1).trans ?_;refine(Ag hy.2).trans ?_;refine(Ag (by show(1:Yh)<=1;omega)).trans ?_;refine(Qm (by show 0<=y;omega) _ _).trans ?_;exact k_eq (Ao (by show 1<=BZ (AH y) m;omega))
 refine(hv _).trans ?_;refine(Al (by omega)).trans ?_;refine(Al (by omega)).trans ?_;refine(Al (by omega)).trans ?_;refine(Al (by omega)).trans ?_;refine(AH9 hy hm _).trans ?_;rw[show cntN y+sumM (AH y) (m-1).toNat=Cv y m from rfl];unfold vQ;rw[Ad];refine(Qm (by omega) _ _).trans ?_;have e1:Yv (Cv y m) 7=Cv y m%7:=EO hn.1;simp only;rw[e1];have e2:Yc.wrap (Cv y m%7+10)=Cv y m%7+10:=i64_in _ (by omega);rw[e2]
 have e3:Yv (Cv y m%7+10) 7=(Cv y m+3)%7:=by rw[EO (by omega)];omega
 rw[e3];have g1:0<=(Cv y m+3)%7/\(Cv y m+3)%7<7:=by omega
 rw[i64_in (wd-(Cv y m+3)%7) (by omega),i64_in (wd-(Cv y m+3)%7+7) (by omega)];rw[EO (a:=wd-(Cv y m+3)%7+7) (by omega)];have g2:0<=(wd-(Cv y m+3)%7+7)%7/\(wd-(Cv y m+3)%7+7)%7<7:=by omega
 rw[i64_in (w-1) (by omega),i64_in (7*(w-1)) (by omega),i64_in (Cv y m+(wd-(Cv y m+3)%7+7)%7) (by omega),
  i64_in (Cv y m+(wd-(Cv y m+3)%7+7)%7+7*(w-1)) (by omega),i64_in (Cv y m+BZ (AH y) m) (by omega),
  i64_in (Cv y m+(wd-(Cv y m+3)%7+7)%7+7*(w-1)-7) (by omega)]
 unfold nthD;simp only;by_cases h:Cv y m+BZ (AH y) m<=Cv y m+(wd-(Cv y m+3)%7+7)%7+7*(w-1)
 ·refine(Ag h).trans ?_
  rw[Y1 h]
 ·refine(Al h).trans ?_
  rw[Yy h]
theorem LY{y m w wd:Yh}(hm:1<=m/\m<=12)(hw:1<=w/\w<=5):Cv y m+7*(w-1)-7<=nthD y m w wd/\nthD y m w wd<=Cv y m+7*w-1/\(w<=4->Cv y m+7*(w-1)<=nthD y m w wd)/\nthD y m w wd<=Cv y m+30:=by
 have hl:=Xo (AH y) hm;unfold nthD;simp only;by_cases h:Cv y m+BZ (AH y) m<=Cv y m+(wd-(Cv y m+3)%7+7)%7+7*(w-1)
 ·rw[Y1 h];omega
 ·rw[Yy h];omega
structure RuleOk (r:Cj):Prop where
 f:1970<=r.1/\r.1<=2240
 t:r.1<=r.2.1/\r.2.1<=2240
 m:1<=r.2.2.1/\r.2.2.1<=12
 w:1<=r.2.2.2.1/\r.2.2.2.1<=5
 d:0<=r.2.2.2.2.1/\r.2.2.2.2.1<=6
 s:0<=r.2.2.2.2.2.1/\r.2.2.2.2.2.1<=86399
 o:-64800<=r.2.2.2.2.2.2/\r.2.2.2.2.2.2<=64800
theorem GJ{n lo hi:Yh}(h:lo<=n/\n<=hi):inI n lo hi=Yp:=by unfold inI;rw[Ao h.1,Ao h.2];rfl
theorem AHb{r:Cj}(h:RuleOk r)(k:Yh->Ya β):Sb r k=k 0:=by unfold Sb;rw[Ad];refine(z_in _ _ _ _).trans ?_;rw[GJ h.f];refine(z_in _ _ _ _).trans ?_;rw[GJ h.t];refine(z_in _ _ _ _).trans ?_;rw[GJ h.m];refine(z_in _ _ _ _).trans ?_;rw[GJ h.w];refine(z_in _ _ _ _).trans ?_;rw[GJ h.d];refine(z_in _ _ _ _).trans ?_;rw[GJ h.s];refine(z_in _ _ _ _).trans ?_;rw[GJ h.o];rfl
def occY(r:Cj)(y:Yh):Yh×Yh:=(nthD y r.2.2.1 r.2.2.2.1 r.2.2.2.2.1*86400+r.2.2.2.2.2.1,r.2.2.2.2.2.2)
def occL(r:Cj):Ye (Yh×Yh):=(YaG (r.2.1-r.1+1).toNat).map λi=>occY r (r.1+(i:Yn))
theorem Acp{r:Cj}(h:RuleOk r){y:Yh}(hy:r.1<=y/\y<=r.2.1):-10<=nthD y r.2.2.1 r.2.2.2.1 r.2.2.2.2.1/\nthD y r.2.2.1 r.2.2.2.1 r.2.2.2.2.1<=300000:=by have h1:=h.f;have h2:=h.t;have hb:=LY (y:=y) (wd:=r.2.2.2.2.1) h.m h.w;have hn:=Apq (y:=y) (m:=r.2.2.1) (by omega) h.m;have:=h.w;omega
theorem AHc{r:Cj}(h:RuleOk r)(a:Ye Cj)(b c:Yh)(K:Ab0 β):∀(j f:Yn)(y:Yh)(out:Ye (Yh×Yh)),y+(j:Yh)=r.2.1+1->r.1<=y->j<f->out.length+j<=1000000->WA f K y a b c out r=K a b c (out++(YaG j).map λi=>occY r (y+(i:Yn))):=by
 have h1:=h.f;have h2:=h.t;intro j
 induction j with
 |zero=>intro f y out hj hy hf hl;obtain⟨f,rfl⟩:∃f',f=f'+1:=⟨f-1,by omega⟩;simp only[An7,jP];refine(Al (by omega)).trans ?_;simp
 |succ j ih=>
  intro f y out hj hy hf hl;obtain⟨f,rfl⟩:∃f',f=f'+1:=⟨f-1,by omega⟩;have hb:=Acp h (y:=y) ⟨hy,by omega⟩;have hs:=h.s;simp only[An7,jP];refine(Ag (by omega)).trans ?_;refine(AHa (by omega) h.m h.w h.d _).trans ?_;rw[i64_in (nthD y r.2.2.1 r.2.2.2.1 r.2.2.2.2.1*86400) (by omega),i64_in (nthD y r.2.2.1 r.2.2.2.1 r.2.2.2.2.1*86400+r.2.2.2.2.2.1) (by omega)];have hr:(out.length+1)*16<=140737488355328:=by omega
  refine(Cx hr).trans ?_;rw[i64_in (y+1) (by omega)];have Lp:(out++[occY r y]).length+j<=1000000:=by simp;omega
  refine(ih f (y+1) (out++[occY r y]) (by omega) (by omega) (by omega) Lp).trans ?_;refine Aw (K a b c) ?_;rw[C4,YaZ,CH,Pi];congr 1;simp only[List.singleton_append];congr 1
  ·simp
  ·refine ZT λi _=>?_
   simp only[Function.comp];congr 1;simp;omega
def C0(l:Ye Cj):Ye (Yh×Yh):=l.flatMap occL
theorem Apr(r:Cj):(occL r).length=(r.2.1-r.1+1).toNat:=by simp[occL]
def occS(z:AF):Ye (Yh×Yh):=AaO (C0 z.2.2)
structure ZoneOk (z:AF):Prop where
 o:-64800<=z.2.1/\z.2.1<=64800
 r:∀r∈z.2.2,RuleOk r
 n:(C0 z.2.2).length<=640
 l:z.2.2.length<=16
theorem Aps{z:AF}(h:ZoneOk z){x:Yh×Yh}(hx:x∈C0 z.2.2):(-1000000<=x.1/\x.1<=30000000000)/\(-64800<=x.2/\x.2<=64800):=by
 obtain⟨r,hr,hx⟩:=aF.1 hx;obtain⟨i,hi,rfl⟩:=Hb.1 hx;have hi:i<(r.2.1-r.1+1).toNat:=by simpa using hi
 have hb:=Acp (h.r r hr) (y:=r.1+(i:Yn)) (by omega);have hs:=(h.r r hr).s;have ho:=(h.r r hr).o;refine⟨?_,ho⟩;show-1000000<=nthD _ _ _ _*86400+r.2.2.2.2.2.1/\nthD _ _ _ _*86400+r.2.2.2.2.2.1<=30000000000;omega
theorem Ot{α:Type}{l:Ye α}{i:Yn}(d:α)(h:i<l.length):l.take (i+1)=l.take i++[l.getD i d]:=by rw[List.take_add_one];simp[Ym,h]
theorem AHd{z:AF}(h:ZoneOk z)(k1:jM β)(K:jN β):S6 k1 K 0 z.2.2 (z.2.2.length:Yh) 0 z=K ((C0 z.2.2).length:Yh) z:=by
 have hl:=h.l;unfold S6;rw[Ad];have o5:∀(i:Yn),i<z.2.2.length->RuleOk (z.2.2.getD i (0,0,0,0,0,0,0)):=λi hi=>h.r _ (Cn hi)
 refine(Om (λi(n:Yh)=>0<=n/\n<=300*(i:Yh)/\n=((C0 (z.2.2.take i)).length:Yh)) (λm i n=>Oi m k1 K n z.2.2 (z.2.2.length:Yh) i z) (λn r=>n+(r.2.1-r.1+1)) (λn=>K ((C0 z.2.2).length:Yh) z) (0,0,0,0,0,0,0) z.2.2 0 fuel (BB (by omega)) ⟨by omega,by omega,rfl⟩
  (λi n hi hn=>?_) (λm i n hi hn=>?_) (λm n hn=>?_))
 ·obtain⟨h1,h2,h3⟩:=hn
  have hr:=o5 i hi;have g1:=hr.f;have g2:=hr.t;refine⟨by omega,by omega,?_⟩;rw[Ot (0,0,0,0,0,0,0) hi];unfold C0 at h3⊢;rw[TN,AQ,ZQ,Apr];omega
 ·obtain⟨h1,h2,h3⟩:=hn
  have hr:=o5 i hi;have g1:=hr.f;have g2:=hr.t;simp only[jO,Sz];refine(Ag (by omega)).trans ?_;refine(AG (by omega)).trans ?_;rw[Bh];refine(AHb hr _).trans ?_;refine(CX rfl).trans ?_;generalize z.2.2.getD i (0,0,0,0,0,0,0)=r at hr g1 g2;rw[i64_in (r.2.1-r.1) (by omega),i64_in (r.2.1-r.1+1) (by omega),i64_in (n+(r.2.1-r.1+1)) (by omega),i64_in ((i:Yh)+1) (by omega)]
 ·obtain⟨h1,h2,h3⟩:=hn
  rw[L9]at h3;simp only[jO,Sz];refine(Al (by omega)).trans ?_;rw[h3]
theorem AHe{z:AF}(h:ZoneOk z)(K:AaX β):jR K z.2.2 (z.2.2.length:Yh) 0 []=K (C0 z.2.2):=by
 have hl:=h.l;unfold jR;rw[Ad]
 refine(Om (λi(out:Ye (Yh×Yh))=>out=C0 (z.2.2.take i)) (λm i out=>WB m K z.2.2 (z.2.2.length:Yh) i out) (λout r=>out++occL r) (λout=>K (C0 z.2.2)) (0,0,0,0,0,0,0) z.2.2 [] fuel (BB (by omega)) rfl
  (λi out hi ho=>?_) (λm i out hi ho=>?_) (λm out ho=>?_))
 ·rw[Ot (0,0,0,0,0,0,0) hi,ho]
  unfold C0;rw[TN,ZQ]
 ·have hr:RuleOk (z.2.2.getD i (0,0,0,0,0,0,0)):=h.r _ (Cn hi)
  have g1:=hr.f;have g2:=hr.t
  have AU:out.length<=640:=by have e:z.2.2=z.2.2.take i++z.2.2.drop i:=(M0 i z.2.2).symm;have OH:=h.n;rw[e]at OH;unfold C0 at OH;rw[TN,AQ]at OH;rw[ho];unfold C0;omega
  simp only[An8,jQ];refine(Ag (by omega)).trans ?_;refine(AG (by omega)).trans ?_;rw[Bh];generalize z.2.2.getD i (0,0,0,0,0,0,0)=r at hr g1 g2;unfold Ab2;rw[Ad];refine(AHc hr _ _ _ _ (r.2.1-r.1+1).toNat fuel r.1 out (by omega) (by omega) (BB (by omega)) (by omega)).trans ?_;rw[i64_in ((i:Yh)+1) (by omega)];rfl
 ·rw[L9]at ho
  simp only[An8,jQ];refine(Al (by omega)).trans ?_;rw[ho]
theorem AHf{z:AF}(h:ZoneOk z)(k:Yh->Ye (Yh×Yh)->Ya β):S7 z k=k 0 (occS z):=by
 have hl:=h.l;have OH:=h.n;unfold S7;rw[Ad];refine(z_in _ _ _ _).trans ?_;rw[GJ h.o];refine(Al (by omega)).trans ?_;refine(AHd h _ _).trans ?_;refine(Al (by omega)).trans ?_;refine(AHe h _).trans ?_
 have hg:(C0 z.2.2).all Lb=Yp:=by rw[FG];intro x hx;have:=(Aps h hx).1;unfold Lb;rw[Ao (by omega),Ao (by omega)];rfl
 have hn:Yd ((C0 z.2.2).length<1152921504606846976)=Yp:=Ao (by omega);rw[hg,hn];rfl
abbrev TrS:=Yh×Ye (Yh×Yh)
def H8(_:Yn)(o:Yh×Yh)(s:TrS):Yh⊕TrS:=
 Yk (Yd (o.2=s.1)) (.inr s)
  (Yk (Yd (86400<=o.2-s.1)||(Yd (o.2-s.1≤-86400)||((!inI (o.1-s.1) 0 8589934592)||(Yd (0<(s.2.length:Yh))&&Yd (o.1-s.1<(s.2.getD (s.2.length-1) (0,0)).1+604800)))))
   (.inl 6) (.inr (o.2,s.2++[(o.1-s.1,o.2)])))
def TrI(i:Yn)(s:TrS):Prop:=(-64800<=s.1/\s.1<=64800)/\s.2.length<=i/\∀x∈s.2,0<=x.1/\x.1<=8589934592
theorem JE{α σ ε:Type}(I:Yn->σ->Prop)(F:Yn->Yh->σ->Ya β)(g:Yn->α->σ->ε⊕σ)(E:ε->Ya β)(K:σ->Ya β)(d:α)(xs:Ye α)(hI:∀(i:Yn) s s',i<xs.length->I i s->g i (xs.getD i d) s=.inr s'->I (i+1) s')(h1:∀(m i:Yn) s,i<xs.length->I i s->F (m+1) (i:Yh) s=sumK E (λs'=>F m ((i:Yh)+1) s') (g i (xs.getD i d) s))(h2:∀(m:Yn) s,F (m+1) (xs.length:Yh) s=K s):∀(r:Ye α)(j fuel:Yn)(s:σ),xs.drop j=r->j+r.length=xs.length->r.length<fuel->I j s->F fuel (j:Yh) s=sumK E K (walk g r j s)
 |r,j,0,s,_,_,h,_=>Y7 h (KP _)
 |[],j,m+1,s,hd,hj,_,_=>by simp only[Ft,Rj]at hj;subst hj;rw[h2];rfl
 |x::r,j,m+1,s,hd,hj,hm,hs=>by
  simp only[B9]at hj hm;have h3:j<xs.length:=by omega
  have hx:xs.getD j d=x:=by rw[JW h3]at hd;injection hd with BH BI;simp[Ym,h3,BH]
  have hr:xs.drop (j+1)=r:=by rw[JW h3]at hd;injection hd with BH BI
  rw[h1 m j s h3 hs,hx,walk];cases hg:g j x s with
  |inl e=>rfl
  |inr s'=>simp only[sumK];exact JE I F g E K d xs hI h1 h2 r (j+1) m s' hr (by omega) (by omega) (hI j s s' h3 hs (hx▸hg))
theorem Apt{α:Type}(lt:α->α->Ys)(x:α):∀l:Ye α,(insS lt x l).Perm (x::l)
 |[]=>.refl _
 |y::l=>by
  unfold insS;cases lt x y with
  |true=>exact .refl _
  |false=>exact((Apt lt x l).cons y).trans (.swap _ _ _)
theorem Apu{α:Type}(lt:α->α->Ys):∀l o:Ye α,(l.foldl (λo x=>insS lt x o) o).Perm (l++o)
 |[],o=>.refl _
 |x::l,o=>(Apu lt l (insS lt x o)).trans (((Apt lt x o).append_left l).trans pL)
theorem AHg(z:AF):(occS z).Pairwise λa b=>a.1<=b.1:=
 (pO (key:=Ja) (λ_ _=>ZX) (C0 z.2.2) [] YF).1
theorem mC(z:AF):(occS z).Perm (C0 z.2.2):=by have:=Apu (λx y=>decide (Ja x<Ja y)) (C0 z.2.2) [];rw[In]at this;exact this
theorem mD{z:AF}(h:ZoneOk z){x:Yh×Yh}(hx:x∈occS z):(-1000000<=x.1/\x.1<=30000000000)/\(-64800<=x.2/\x.2<=64800):=
 Aps h ((mC z).mem_iff.1 hx)
def Kw(z:AF):Yh⊕TrS:=walk H8 (occS z) 0 (z.2.1,[])
theorem AHh{z:AF}(h:ZoneOk z)(k:Yh->Ye (Yh×Yh)->Ya β):S8 z k=sumK (λe=>k e []) (λs=>k 0 s.2) (Kw z):=by
 have AU:(occS z).length<=640:=by rw[(mC z).length_eq];exact h.n
 unfold S8;rw[Ad];refine(AHf h _).trans ?_;refine(CX rfl).trans ?_;unfold Abn;rw[Ad]
 refine JE TrI (λm i(s:TrS)=>WL m (λt3 t2=>k t3 t2) (λout=>k 0 out) s.1 ((occS z).length:Yh) i s.2 (occS z)) H8 (λe=>k e []) (λs=>k 0 s.2) (0,0) (occS z)
  (λi s s' hi hs hg=>?_) (λm i s hi hs=>?_) (λm s=>?_) (occS z) 0 fuel (z.2.1,[]) rfl (by simp) (BB (by omega)) ⟨h.o,Av _,λx hx=>Y7 hx Es⟩
 ·have ho:=mD h (Cn (d:=((0,0):Yh×Yh)) hi)
  obtain⟨h1,h2,h3⟩:=hs;generalize(occS z).getD i (0,0)=o at ho hg;unfold H8 at hg;by_cases e:o.2=s.1
  ·rw[Ao e]at hg
   injection hg with hg;subst hg;exact⟨h1,by omega,h3⟩
  ·rw[Ar e]at hg
   cases hc:(Yd (86400<=o.2-s.1)||(Yd (o.2-s.1≤-86400)||((!inI (o.1-s.1) 0 8589934592)||(Yd (0<(s.2.length:Yh))&&Yd (o.1-s.1<(s.2.getD (s.2.length-1) (0,0)).1+604800)))))with
   |true=>rw[hc]at hg;cases hg
   |false=>
    rw[hc]at hg;injection hg with hg;subst hg;simp only[OZ,Bool.not_eq_false']at hc;have CV:=hc.2.2.1;unfold inI at CV;rw[Dk,Jv,Jv]at CV;refine⟨ho.2,by simp;omega,λx hx=>?_⟩;rcases C5.1 hx with hx|hx
    ·exact h3 x hx
    ·rw[DY.1 hx]
     exact CV
 ·have ho:=mD h (Cn (d:=((0,0):Yh×Yh)) hi)
  obtain⟨h1,h2,h3⟩:=hs;simp only[AnD,kA];refine(Ag (by omega)).trans ?_;refine(AG (by omega)).trans ?_;rw[Bh];generalize(occS z).getD i (0,0)=o at ho;unfold H8;rw[i64_in ((i:Yh)+1) (by omega)];by_cases e:o.2=s.1
  ·refine(Ag e).trans ?_
   rw[Ao e];rfl
  refine(Al e).trans ?_;rw[Ar e,i64_in (o.2-s.1) (by omega),i64_in (o.1-s.1) (by omega)];by_cases a1:86400<=o.2-s.1
  ·refine(Ag a1).trans ?_
   rw[Ao a1];rfl
  refine(Al a1).trans ?_;rw[Ar a1];by_cases a2:o.2-s.1≤-86400
  ·refine(Ag a2).trans ?_
   rw[Ao a2];rfl
  refine(Al a2).trans ?_;rw[Ar a2];refine(z_in _ _ _ _).trans ?_;cases inI (o.1-s.1) 0 8589934592 with
  |false=>rfl
  |true=>
   have hp:∀a b t(K:AnB β),WJ K a ((occS z).length:Yh) b s.2 o t=K o.2 ((occS z).length:Yh) b (s.2++[(a,o.2)]) t:=by
    intro a b t K;unfold WJ;rw[Ad];unfold Abm;have hr:(s.2.length+1)*16<=140737488355328:=by omega
    exact Cx hr
   by_cases a3:(0:Yh)<(s.2.length:Yh)
   ·refine(Ag a3).trans ?_
    rw[i64_in ((s.2.length:Yh)-1) (by omega)];refine(AG (by omega)).trans ?_;rw[Ao a3,show((s.2.length:Yh)-1).toNat=s.2.length-1 by omega];have h4:=h3 _ (Cn (d:=((0,0):Yh×Yh)) (show s.2.length-1<s.2.length by omega));rw[i64_in ((s.2.getD (s.2.length-1) (0,0)).1+604800) (by omega)];by_cases a4:o.1-s.1<(s.2.getD (s.2.length-1) (0,0)).1+604800
    ·refine(Ag a4).trans ?_
     rw[Ao a4];rfl
    ·refine(Al a4).trans ?_
     rw[Ar a4];refine(hp _ _ _ _).trans ?_;rw[i64_in ((i:Yh)+1) (by omega)];rfl
   ·refine(Al a3).trans ?_
    rw[Ar a3];refine(hp _ _ _ _).trans ?_;rw[i64_in ((i:Yh)+1) (by omega)];rfl
 ·simp only[AnD,kA]
  exact Al (by omega)
def Ky(z:AF):Yh:=
 Yk (!Yd (errV (Kw z)=0)) 8 (Yk (!Yd (Yv z.2.1 60=0)) 8 (Yk (!z.2.2.all λr=>decide (Yv r.2.2.2.2.2.2 60=0)) 8 0))
theorem AHi(s:Ye Cj)(hs:s.length<=1000000)(k:Ys->Ya β):lG s k=k (!s.all λr=>decide (Yv r.2.2.2.2.2.2 60=0)):=by
 unfold lG;rw[Ad];unfold AbX;rw[Ad];unfold AbW;rw[Ad];refine(Ks (λm i=>WZ m (λt=>k (Yd ((0:Yh)<=t))) (λ_=>k (Yd ((0:Yh)≤-1))) s (s.length:Yh) i) (λr=>decide (Yv r.2.2.2.2.2.2 60=0)) (k Yp) (k Yi) (0,0,0,0,0,0,0) s fuel (BB (by omega)) (λm i hi=>?_) (λm=>?_)).trans ?_
 ·simp only[AoD,lF]
  refine(Ag (by omega)).trans ?_;refine(AG (by omega)).trans ?_;rw[Bh,i64_in ((i:Yh)+1) (by omega)];unfold uO;rw[Ad];show Yk (!decide _) _ _=Yk (decide _) _ _;cases Yd (Yv (s.getD i (0,0,0,0,0,0,0)).2.2.2.2.2.2 60=0)with
  |true=>rfl
  |false=>show k (Yd ((0:Yh)<=i))=k Yp;rw[Ao (by omega:(0:Yh)<=i)]
 ·simp only[AoD,lF]
  exact Al (by omega)
 ·cases s.all λr=>decide (Yv r.2.2.2.2.2.2 60=0)<;>rfl
end
end
end Go.Lift
namespace Go.Lift
open Go.RowKit Go.IntWalk
noncomputable section
variable[Sl]
abbrev Dice:=Ye Yh×Yh
def Cf(d:Dice):Prop:=0<=d.2/\d.2<=d.1.length/\d.1.length<=500
theorem AHj{β:Type}(l:Ye Yh)(k:Ys->Ya β):cQ l k=k (Yd ((l.length:Yh)<=500)):=by simp only[cQ,Ad]
theorem AHk{β:Type}(l:Ye Yh)(k:Dice->Ya β):cR l k=k (l,0):=by simp only[cR,Ad]
theorem AHl{l:Ye Yh}(h:(l.length:Yh)<=500):Cf (l,0):=⟨by simp,by simp,by show l.length<=500;omega⟩
theorem AHm{n:Yh}{d:Dice}(hd:Cf d)(hn:1<=n/\n<=4611686018427387904):∃x d',0<=x/\x<n/\Cf d'/\∀{β:Type}(k:Yh->Dice->Ya β),Ca n d k=k x d':=by
 obtain⟨h1,h2,h3⟩:=hd;by_cases ha:(d.1.length:Yh)<=d.2
 ·exact⟨0,d,by omega,by omega,⟨h1,h2,h3⟩,λk=>by simp(disch:=omega) only[Ca,Ad,Ag]⟩
 ·generalize hv:Ym d.1 (Yl d.2) (0:Yh)=v
  have AdF:=pF v (show 0<n by omega)
  have Arr:-n<Yv v n:=by have h5:=pF (-v) (show 0<n by omega);rw[Int.neg_tmod]at h5;omega
  have Ct:Cf (d.1,d.2+1):=⟨by show(0:Yh)<=d.2+1;omega,by show d.2+1<=(d.1.length:Yh);omega,h3⟩;by_cases hc:Yv v n<0
  ·refine⟨Yv v n+n,(d.1,d.2+1),by omega,by omega,Ct,λk=>?_⟩
   simp(disch:=omega) only[Ca,Ad,hv,Ag,Al,AG,EF,i64_in]
  ·refine⟨Yv v n,(d.1,d.2+1),by omega,by omega,Ct,λk=>?_⟩
   simp(disch:=omega) only[Ca,Ad,hv,Ag,Al,AG,EF,i64_in]
end
end Go.Lift
namespace Go.Lift
open Go.RowKit Go.IntWalk
noncomputable section
variable[Sl]
set_option maxRecDepth 10000
theorem AHn{s:Ye (Yh×Yh)}(hs:s.Pairwise λx y=>x.1<y.1){a b:Yh×Yh}(ha:a∈s)(hb:b∈s)(e:a.1=b.1):a=b:=by
 induction hs with
 |nil=>exact Y7 ha Es
 |cons h _ ih=>
  rcases Bl.1 ha with ga|ga
  ·rcases Bl.1 hb with gb|gb
   ·exact ga.trans gb.symm
   ·have:=h b gb;rw[<-ga]at this;omega
  ·rcases Bl.1 hb with gb|gb
   ·have:=h a ga;rw[<-gb]at this;omega
   ·exact ih ga gb
theorem mE{z:AF}(h:ZoneOk z){s:Ye (Yh×Yh)}(hp:(C0 z.2.2).Perm s)(hs:s.Pairwise λx y=>x.1<y.1):occS z=s:=by have D0:(occS z).Perm s:=(mC z).trans hp;refine List.Perm.eq_of_pairwise (le:=λx y=>x.1<=y.1) (λa b ha hb g1 g2=>?_) (AHg z) (hs.imp λg=>Int.le_of_lt g) D0;exact AHn hs (D0.mem_iff.1 ha) hb (Int.le_antisymm g1 g2)
theorem AHo(i:Yn){o:Yh×Yh}{s:TrS}(h:o.2=s.1):H8 i o s=.inr s:=by unfold H8;rw[Ao h];rfl
theorem Acq(i:Yn){o:Yh×Yh}{now:Yh}(h:o.2≠now)(hd:-86400<o.2-now/\o.2-now<86400)(ha:0<=o.1-now/\o.1-now<=8589934592):H8 i o (now,[])=.inr (o.2,[(o.1-now,o.2)]):=by unfold H8;simp only;rw[Ar h,Ar (by omega),Ar (by omega),GJ ha];rfl
theorem mF(i:Yn){o x:Yh×Yh}{now:Yh}{p:Ye (Yh×Yh)}(h:o.2≠now)(hd:-86400<o.2-now/\o.2-now<86400)(ha:0<=o.1-now/\o.1-now<=8589934592)(hx:x.1+604800<=o.1-now):H8 i o (now,p++[x])=.inr (o.2,(p++[x])++[(o.1-now,o.2)]):=by
 unfold H8;simp only;have e:(p++[x]).getD ((p++[x]).length-1) (0,0)=x:=by simp[Ym]
 rw[Ar h,Ar (by omega),Ar (by omega),GJ ha,e,Ar (show ¬o.1-now<x.1+604800 by omega),YaX];rfl
theorem Xp{z:AF}{s:TrS}(h:Kw z=.inr s)(ho:Yv z.2.1 60=0)(hr:∀r∈z.2.2,Yv r.2.2.2.2.2.2 60=0):Ky z=0:=by unfold Ky;rw[h,Ao (show errV (Sum.inr s:Yh⊕TrS)=0 from rfl),Ao ho,FG.2 λr BA=>Ao (hr r BA)];rfl
abbrev Xq(z:AF):Prop:=(occS z).Pairwise λx y=>x.1<y.1
theorem AHp{n:Ye Yj}{off:Yh}(ho:-64800<=off/\off<=64800)(h6:Yv off 60=0):ZoneOk (n,off,[])/\Ky (n,off,[])=0/\Xq (n,off,[]):=by have hz:ZoneOk (n,off,[]):=⟨ho,λr hr=>Y7 hr Es,by simp[C0],by simp⟩;have hs:occS (n,off,[])=[]:=mE hz (s:=[]) (List.Perm.refl _) YF;refine⟨hz,Xp (s:=(off,[])) ?_ h6 λr hr=>Y7 hr Es,by show(occS _).Pairwise _;rw[hs];exact YF⟩;unfold Kw;rw[hs];rfl
theorem Acr(r:Cj)(h:r.2.1=r.1):occL r=[occY r r.1]:=by unfold occL;rw[show(r.2.1-r.1+1).toNat=1 by omega];simp[List.range_succ]
theorem Apv(r:Cj)(h:r.2.1=r.1+1):occL r=[occY r r.1,occY r (r.1+1)]:=by unfold occL;rw[show(r.2.1-r.1+1).toNat=2 by omega];simp[List.range_succ]
theorem AHq{n:Ye Yj}{off:Yh}{r:Cj}(ho:-64800<=off/\off<=64800)(h6:Yv off 60=0)(hr:RuleOk r)(hy:r.2.1=r.1)(AM2:Yv r.2.2.2.2.2.2 60=0)(hd:-86400<r.2.2.2.2.2.2-off/\r.2.2.2.2.2.2-off<86400)(ht:100000<=(occY r r.1).1/\(occY r r.1).1<=8000000000):ZoneOk (n,off,[r])/\Ky (n,off,[r])=0/\Xq (n,off,[r]):=by
 have e:C0 [r]=[occY r r.1]:=by unfold C0;rw[ZQ,Acr r hy]
 have hz:ZoneOk (n,off,[r]):=⟨ho,λx hx=>by rw[DY.1 hx];exact hr,by show(C0 [r]).length<=640;rw[e];simp,by simp⟩;have hs:occS (n,off,[r])=[occY r r.1]:=mE hz (by show(C0 [r]).Perm _;rw[e]) (L7 _ _);have X8:∀x∈(n,off,[r]).2.2,Yv x.2.2.2.2.2.2 60=0:=λx hx=>by rw[DY.1 hx];exact AM2
 by_cases g:(occY r r.1).2=off
 ·refine⟨hz,Xp (s:=(off,[])) ?_ h6 X8,by show(occS _).Pairwise _;rw[hs];exact L7 _ _⟩
  unfold Kw;rw[hs];unfold walk;rw[AHo 0 (s:=((n,off,[r]).2.1,[])) g];rfl
 ·refine⟨hz,Xp (s:=((occY r r.1).2,[((occY r r.1).1-off,(occY r r.1).2)])) ?_ h6 X8,by show(occS _).Pairwise _;rw[hs];exact L7 _ _⟩
  unfold Kw;rw[hs];unfold walk;rw[Acq 0 (now:=(n,off,[r]).2.1) g hd (by show 0<=_-off/\_-off<=_;omega)];rfl
theorem SI{α σ ε:Type}{g:Yn->α->σ->ε⊕σ}{x:α}{r:Ye α}{j:Yn}{s s':σ}(h:g j x s=.inr s'):walk g (x::r) j s=walk g r (j+1) s':=by rw[walk,h]
theorem alt2{off dl ta tb:Yh}(ho:-43200<=off/\off<=45000)(hd:0<dl/\dl<=14400)(h0:100000<=ta)(h1:ta+619200<=tb)(h2:tb<=8000000000):walk H8 [(ta,off+dl),(tb,off)] 0 (off,[])=.inr (off,[(ta-off,off+dl)]++[(tb-(off+dl),off)]):=by
 refine(SI (Acq 0 (o:=(ta,off+dl)) (now:=off) (by show off+dl≠off;omega) (by show-86400<off+dl-off/\off+dl-off<86400;omega) (by show 0<=ta-off/\ta-off<=_;omega))).trans ?_;refine(SI (mF (0+1) (o:=(tb,off)) (now:=off+dl) (p:=[]) (x:=(ta-off,off+dl)) (by show off≠off+dl;omega) (by show-86400<off-(off+dl)/\off-(off+dl)<86400;omega) (by show 0<=tb-(off+dl)/\tb-(off+dl)<=_;omega) (by show ta-off+604800<=tb-(off+dl);omega))).trans ?_;rfl
theorem alt4{off dl ta tb tc td:Yh}(ho:-43200<=off/\off<=45000)(hd:0<dl/\dl<=14400)(h0:100000<=ta)(h1:ta+619200<=tb)(h2:tb+619200<=tc)(h3:tc+619200<=td)(h4:td<=8000000000):∃l,walk H8 [(ta,off+dl),(tb,off),(tc,off+dl),(td,off)] 0 (off,[])=.inr (off,l):=by
 refine⟨([(ta-off,off+dl),(tb-(off+dl),off)]++[(tc-off,off+dl)])++[(td-(off+dl),off)],?_⟩;refine(SI (Acq 0 (o:=(ta,off+dl)) (now:=off) (by show off+dl≠off;omega) (by show-86400<off+dl-off/\off+dl-off<86400;omega) (by show 0<=ta-off/\ta-off<=_;omega))).trans ?_;refine(SI (mF (0+1) (o:=(tb,off)) (now:=off+dl) (p:=[]) (x:=(ta-off,off+dl)) (by show off≠off+dl;omega) (by show-86400<off-(off+dl)/\off-(off+dl)<86400;omega) (by show 0<=tb-(off+dl)/\tb-(off+dl)<=_;omega) (by show ta-off+604800<=tb-(off+dl);omega))).trans ?_;refine(SI (mF (0+1+1) (o:=(tc,off+dl)) (now:=off) (p:=[(ta-off,off+dl)]) (x:=(tb-(off+dl),off)) (by show off+dl≠off;omega) (by show-86400<off+dl-off/\off+dl-off<86400;omega) (by show 0<=tc-off/\tc-off<=_;omega) (by show tb-(off+dl)+604800<=tc-off;omega))).trans ?_;refine(SI (mF (0+1+1+1) (o:=(td,off)) (now:=off+dl) (p:=[(ta-off,off+dl),(tb-(off+dl),off)]) (x:=(tc-off,off+dl)) (by show off≠off+dl;omega) (by show-86400<off-(off+dl)/\off-(off+dl)<86400;omega) (by show 0<=td-(off+dl)/\td-(off+dl)<=_;omega) (by show tc-off+604800<=td-(off+dl);omega))).trans ?_;rfl
theorem Apw{n:Ye Yj}{off dl last:Yh}{A B:Cj}(ho:-43200<=off/\off<=45000)(h6:Yv off 60=0)(hA:RuleOk A)(hB:RuleOk B)(hA6:Yv A.2.2.2.2.2.2 60=0)(a1:A.1=2025)(b1:B.1=2025)(a2:A.2.1=last)(b2:B.2.1=last)(hl:last=2025\/last=2026)(ao:A.2.2.2.2.2.2=off+dl)(bo:B.2.2.2.2.2.2=off)(hd:0<dl/\dl<=14400)(t0:∀y,y=2025\/y=2026->100000<=(occY A y).1)(t1:∀y,y=2025\/y=2026->(occY A y).1+619200<=(occY B y).1)(t2:(occY B 2025).1+619200<=(occY A 2026).1)(t3:∀y,y=2025\/y=2026->(occY B y).1<=8000000000):ZoneOk (n,off,[A,B])/\Ky (n,off,[A,B])=0/\Xq (n,off,[A,B]):=by
 have X8:∀x∈(n,off,[A,B]).2.2,Yv x.2.2.2.2.2.2 60=0:=by
  intro x hx;rcases Bl.1 hx with rfl|hx
  ·exact hA6
  ·rw[DY.1 hx,bo];exact h6
 have ArG:∀x∈(n,off,[A,B]).2.2,RuleOk x:=by
  intro x hx;rcases Bl.1 hx with rfl|hx
  ·exact hA
  ·rw[DY.1 hx];exact hB
 have s25:=t0 2025 (.inl rfl);have s26:=t0 2026 (.inr rfl);have u25:=t1 2025 (.inl rfl);have u26:=t1 2026 (.inr rfl);have v25:=t3 2025 (.inl rfl);have v26:=t3 2026 (.inr rfl);have eA:∀y,(occY A y).2=off+dl:=λ_=>ao;have eB:∀y,(occY B y).2=off:=λ_=>bo;have qA:∀y,occY A y=((occY A y).1,off+dl):=λy=>Prod.ext rfl (eA y);have qB:∀y,occY B y=((occY B y).1,off):=λy=>Prod.ext rfl (eB y);rcases hl with rfl|rfl
 ·have e:C0 [A,B]=[occY A 2025,occY B 2025]:=by unfold C0;simp only[Pd,List.flatMap_nil];rw[Acr A (by omega),Acr B (by omega),a1,b1];rfl
  have hz:ZoneOk (n,off,[A,B]):=⟨by show-64800<=off/\off<=64800;omega,ArG,by show(C0 [A,B]).length<=640;rw[e];simp,by simp⟩
  have Jq:[occY A 2025,occY B 2025].Pairwise λx y=>x.1<y.1:=by refine List.Pairwise.cons (λx hx=>?_) (L7 _ _);rw[DY.1 hx];omega
  have hs:occS (n,off,[A,B])=[occY A 2025,occY B 2025]:=mE hz (by show(C0 [A,B]).Perm _;rw[e]) Jq;refine⟨hz,Xp (s:=(off,[((occY A 2025).1-off,off+dl)]++[((occY B 2025).1-(off+dl),off)])) ?_ h6 X8,by show(occS _).Pairwise _;rw[hs];exact Jq⟩;unfold Kw;rw[hs];refine Eq.trans (Aw (λl=>walk H8 l 0 (off,[])) ?_) (alt2 ho hd s25 u25 v25);rw[qA 2025,qB 2025]
 ·have e:C0 [A,B]=[occY A 2025,occY A 2026,occY B 2025,occY B 2026]:=by unfold C0;simp only[Pd,List.flatMap_nil];rw[Apv A (by omega),Apv B (by omega),a1,b1];rfl
  have hz:ZoneOk (n,off,[A,B]):=⟨by show-64800<=off/\off<=64800;omega,ArG,by show(C0 [A,B]).length<=640;rw[e];simp,by simp⟩
  have Jq:[occY A 2025,occY B 2025,occY A 2026,occY B 2026].Pairwise λx y=>x.1<y.1:=by simp only[Fs,Bl,Es,or_false,forall_eq_or_imp,forall_eq,false_implies,implies_true,YF,Fv];omega
  have hs:occS (n,off,[A,B])=[occY A 2025,occY B 2025,occY A 2026,occY B 2026]:=mE hz (by show(C0 [A,B]).Perm _;rw[e];exact .cons _ (.swap _ _ _)) Jq;obtain⟨l,hl⟩:=alt4 ho hd s25 u25 t2 u26 v26;refine⟨hz,Xp (s:=(off,l)) ?_ h6 X8,by show(occS _).Pairwise _;rw[hs];exact Jq⟩;unfold Kw;rw[hs];refine Eq.trans (Aw (λl=>walk H8 l 0 (off,[])) ?_) hl;rw[qA 2025,qB 2025,qA 2026,qB 2026]
end
end Go.Lift
namespace Go.Lift
open Go.RowKit Go.IntWalk
noncomputable section
variable[Sl]
set_option maxRecDepth 10000
section
variable{β:Type}{G:Ya β->Prop}
theorem w_e{A B:Ya β}(e:A=B)(h:G B):G A:=e▸h
theorem w_c{b:Ys}{A B:Ya β}(h1:b=Yp->G A)(h2:b=Yi->G B):G (Yk b A B):=match b,h1,h2 with|true,h,_=>h rfl|false,_,h=>h rfl
theorem w_d{p:Prop}[YK p]{A B:Ya β}(h1:p->G A)(h2:¬p->G B):G (Yk (decide p) A B):=w_c (λh=>h1 (Bd h)) (λh=>h2 (L8 h))
theorem w_i{i n:Yh}{A B:Ya β}(h:0<=i/\i<n)(h1:G A):G (Yk (Yd (0<=i)&&Yd (i<n)) A B):=w_e (AG h) h1
theorem w_r{n:Yn}{A B:Ya β}(h:n<=140737488355328)(h1:G A):G (Yk (Yd (n<=AR)) A B):=w_e (Cx h) h1
theorem w_p{p:Prop}[YK p]{A B:Ya β}(h:p)(h1:G A):G (Yk (decide p) A B):=w_e (Ag h) h1
theorem w_n{p:Prop}[YK p]{A B:Ya β}(h:¬p)(h1:G B):G (Yk (decide p) A B):=w_e (Al h) h1
theorem Co{n:Yh}{d:Dice}{k:Yh->Dice->Ya β}(hd:Cf d)(hn:1<=n/\n<=4611686018427387904)(hk:∀x d',0<=x->x<n->Cf d'->G (k x d')):G (Ca n d k):=by obtain⟨x,d',h1,h2,h3,h4⟩:=AHm hd hn;exact w_e (h4 k) (hk x d' h1 h2 h3)
theorem EG{l:Ye Yh}{d:Dice}{k:Yh->Dice->Ya β}(hd:Cf d)(hl:0<l.length/\l.length<=1000000)(hk:∀x d',x∈l->Cf d'->G (k x d')):G (Ef l d k):=by unfold Ef;rw[Ad];refine Co hd ⟨by omega,by omega⟩ λx d' h1 h2 h3=>?_;refine w_i ⟨h1,h2⟩ ?_;exact hk _ _ (Cn (by omega)) h3
theorem SJ{n:Yh}{d:Dice}{k:Ys->Dice->Ya β}(hd:Cf d)(hn:1<=n/\n<=1000)(hk:∀b d',Cf d'->G (k b d')):G (MP n d k):=by unfold MP;rw[Ad];exact Co hd ⟨by omega,by omega⟩ λx d' h1 h2 h3=>hk _ _ h3
theorem Xr{f t m w d s o:Yh}(hf:1970<=f/\f<=2240)(ht:f<=t/\t<=2240)(hm:1<=m/\m<=12)(hw:1<=w/\w<=5)(hd:0<=d/\d<=6)(hs:0<=s/\s<=86399)(ho:-64800<=o/\o<=64800):RuleOk (f,t,m,w,d,s,o):=⟨hf,ht,hm,hw,hd,hs,ho⟩
theorem mG(q:Yh):Yv (900*q) 60=0:=AeI ⟨15*q,by omega⟩
theorem Acs{o:Yh}(h:∃q,o=300*q):Yv o 60=0:=by obtain⟨q,rfl⟩:=h;exact AeI ⟨5*q,by omega⟩
theorem AHr:Cv 2025 1=20089:=by decide
theorem Apx:Cv 2026 1=20454:=by decide
theorem AHs:Cv 2025 2=20120:=by decide
theorem AHt:Cv 2026 2=20485:=by decide
theorem Acu:Cv 2025 3=20148:=by decide
theorem mH:Cv 2026 3=20513:=by decide
theorem Acv:Cv 2025 10=20362:=by decide
theorem Apy:Cv 2026 10=20727:=by decide
abbrev Apz(name:Ye Yj)(z:AF):Prop:=z.1=name/\ZoneOk z/\Ky z=0/\Xq z
theorem AHu{x:Yh}{d:Dice}{t:AF}{name:Ye Yj}{q:Yh}{k:AhJ β}(hd:Cf d)(hq:-47<=q/\q<=50)(hx:-64800<=x/\x<=64800)(h5:∃p,x=300*p)(hc:-86400<x-900*q/\x-900*q<86400)(hk:∀d' l,Cf d'->Apz name (name,900*q,l)->G (k d' t name (900*q) l)):G (PM k x d t (name,900*q,[])):=by
 unfold PM;rw[Ad];unfold uE;refine Co hd ⟨by omega,by omega⟩ λw d1 h1 h2 BH=>?_;refine Co BH ⟨by omega,by omega⟩ λs d2 h3 h4 BI=>?_;simp(disch:=omega) only[i64_in];refine hk _ _ BI ⟨rfl,AHq (by omega) (mG q) (Xr (by omega) (by omega) (by omega) (by omega) (by omega) (by omega) hx) rfl (Acs h5) hc ?_⟩;have hb:=LY (y:=2026) (wd:=w) (m:=1) (w:=2) (by omega) (by omega);rw[Apx]at hb;show 100000<=nthD 2026 1 2 w*86400+1800*s/\nthD 2026 1 2 w*86400+1800*s<=_;omega
theorem AHv{name:Ye Yj}{d:Dice}{k:AF->Dice->Ya β}(hd:Cf d)(hk:∀z d',Cf d'->Apz name z->G (k z d')):G (cW name d k):=by
 unfold cW;rw[Ad];refine EG hd (by decide) λp d1 hp BH=>?_;refine Co BH ⟨by omega,by omega⟩ λx d2 Cq Ij BI=>?_;refine Co BI ⟨by omega,by omega⟩ λy d3 E6 IE Cc=>?_;refine Co Cc ⟨by omega,by omega⟩ λl d4 GT nN CR=>?_;refine Co CR ⟨by omega,by omega⟩ λc d5 XB CU GP=>?_;have D0:-47<=p/\p<=48:=by simp at hp;omega
 have oE:0<=x*y/\x*y<=2:=by
  rcases(show x=0\/x=1 by omega)with rfl|rfl
  ·simp
  ·simp;omega
 simp(disch:=omega) only[i64_in];generalize ArD:p+x*y=q;have hq:-47<=q/\q<=50:=by omega
 refine w_d (λh=>?_) (λ_=>?_)
 ·refine hk _ _ GP ⟨rfl,Apw (dl:=3600) (last:=2025+l) (by omega) (mG q) (Xr (by omega) (by omega) (by omega) (by omega) (by omega) (by omega) (by omega)) (Xr (by omega) (by omega) (by omega) (by omega) (by omega) (by omega) (by omega))
   (Acs ⟨3*q+12,by show 900*q+3600=_;omega⟩) rfl rfl rfl rfl (by omega) rfl rfl (by omega) ?_ ?_ ?_ ?_⟩
  ·intro y hy
   have hb:=LY (y:=y) (wd:=6) (m:=3) (w:=5) (by omega) (by omega);show 100000<=nthD y 3 5 6*86400+7200;rcases hy with rfl|rfl
   ·rw[Acu]at hb;omega
   ·rw[mH]at hb;omega
  ·intro y hy
   have hb:=LY (y:=y) (wd:=6) (m:=3) (w:=5) (by omega) (by omega);have Ai:=LY (y:=y) (wd:=6) (m:=10) (w:=5) (by omega) (by omega);show nthD y 3 5 6*86400+7200+619200<=nthD y 10 5 6*86400+10800;rcases hy with rfl|rfl
   ·rw[Acu]at hb;rw[Acv]at Ai;omega
   ·rw[mH]at hb;rw[Apy]at Ai;omega
  ·have hb:=LY (y:=2026) (wd:=6) (m:=3) (w:=5) (by omega) (by omega)
   have Ai:=LY (y:=2025) (wd:=6) (m:=10) (w:=5) (by omega) (by omega);show nthD 2025 10 5 6*86400+10800+619200<=nthD 2026 3 5 6*86400+7200;rw[mH]at hb;rw[Acv]at Ai;omega
  ·intro y hy
   have Ai:=LY (y:=y) (wd:=6) (m:=10) (w:=5) (by omega) (by omega);show nthD y 10 5 6*86400+10800<=8000000000;rcases hy with rfl|rfl
   ·rw[Acv]at Ai;omega
   ·rw[Apy]at Ai;omega
 refine w_d (λh=>?_) (λ_=>?_)
 ·refine Co GP ⟨by omega,by omega⟩ λw1 d6 g1 g2 Nk=>?_
  refine Co Nk ⟨by omega,by omega⟩ λwd1 d7 g3 g4 AL5=>?_;refine Co AL5 ⟨by omega,by omega⟩ λs1 d8 g5 g6 AL6=>?_;refine Co AL6 ⟨by omega,by omega⟩ λo1 d9 g7 g8 AL7=>?_;refine Co AL7 ⟨by omega,by omega⟩ λmm d10 g9 g10 AL1=>?_;refine EG AL1 (by decide) λw2 d11 QO AL2=>?_;refine Co AL2 ⟨by omega,by omega⟩ λwd2 d12 g11 g12 AL3=>?_;refine Co AL3 ⟨by omega,by omega⟩ λs2 d13 g13 g14 AL4=>?_;have ArO:w2=2\/w2=3\/w2=5:=by simpa using QO
  simp(disch:=omega) only[i64_in];have hA:=λy=>LY (y:=y) (wd:=wd1) (m:=1) (w:=1+w1) (by omega) (by omega);have hB:=λy=>LY (y:=y) (wd:=wd2) (m:=2+mm) (w:=w2) (by omega) (by omega);have KD:mm=0\/mm=1:=by omega
  have e25:20120<=Cv 2025 (2+mm)/\Cv 2025 (2+mm)<=20148:=by
   rcases KD with rfl|rfl
   ·rw[show(2:Yh)+0=2 from rfl,AHs];omega
   ·rw[show(2:Yh)+1=3 from rfl,Acu];omega
  have e26:20485<=Cv 2026 (2+mm)/\Cv 2026 (2+mm)<=20513:=by
   rcases KD with rfl|rfl
   ·rw[show(2:Yh)+0=2 from rfl,AHt];omega
   ·rw[show(2:Yh)+1=3 from rfl,mH];omega
  have A25:=hA 2025;have A26:=hA 2026;have B25:=hB 2025;have B26:=hB 2026;rw[AHr]at A25;rw[Apx]at A26;have B25':20127<=nthD 2025 (2+mm) w2 wd2:=by rcases ArO with h|h|h<;>omega
  have B26':20492<=nthD 2026 (2+mm) w2 wd2:=by rcases ArO with h|h|h<;>omega
  refine hk _ _ AL4 ⟨rfl,Apw (dl:=1800*(1+o1)) (last:=2025+l) (by omega) (mG q) (Xr (by omega) (by omega) (by omega) (by omega) (by omega) (by omega) (by omega)) (Xr (by omega) (by omega) (by omega) (by omega) (by omega) (by omega) (by omega))
   (Acs ⟨3*q+6*(1+o1),by show 900*q+1800*(1+o1)=_;omega⟩) rfl rfl rfl rfl (by omega) rfl rfl (by omega) ?_ ?_ ?_ ?_⟩
  ·intro y hy
   show 100000<=nthD y 1 (1+w1) wd1*86400+3600*s1;rcases hy with rfl|rfl<;>omega
  ·intro y hy
   show nthD y 1 (1+w1) wd1*86400+3600*s1+619200<=nthD y (2+mm) w2 wd2*86400+3600*s2;rcases hy with rfl|rfl<;>omega
  ·show nthD 2025 (2+mm) w2 wd2*86400+3600*s2+619200<=nthD 2026 1 (1+w1) wd1*86400+3600*s1
   omega
  ·intro y hy
   show nthD y (2+mm) w2 wd2*86400+3600*s2<=8000000000;rcases hy with rfl|rfl<;>omega
 refine w_d (λh=>?_) (λ_=>?_)
 ·refine EG GP (by decide) λp2 d6 CY Nk=>?_
  have ALV:p2=3600\/p2=-3600\/p2=82800\/p2=-82800\/p2=43200:=by simpa using CY
  simp(disch:=omega) only[i64_in]
  have key:∀x,(-64800<=x/\x<=64800)->(∃p,x=300*p)->(-86400<x-900*q/\x-900*q<86400)->G (PM (λAD t4 z z2 BD=>k (z,(z2,BD)) AD) x d6 RH (name,900*q,[])):=λx h1 h2 h3=>
   AHu Nk hq h1 h2 h3 λd' l Ct hz=>hk _ _ Ct hz
  refine w_d (λh=>key 0 (by omega) ⟨0,rfl⟩ (by omega)) (λh=>?_);refine w_d (λh=>key 0 (by omega) ⟨0,rfl⟩ (by omega)) (λh=>?_);refine key _ (by omega) ?_ (by omega);rcases ALV with rfl|rfl|rfl|rfl|rfl
  ·exact⟨3*q+12,by omega⟩
  ·exact⟨3*q-12,by omega⟩
  ·exact⟨3*q+276,by omega⟩
  ·exact⟨3*q-276,by omega⟩
  ·exact⟨3*q+144,by omega⟩
 ·exact hk _ _ GP ⟨rfl,AHp (by omega) (mG q)⟩
end
end
end Go.Lift
namespace Go.Lift
open Go.RowKit Go.IntWalk
noncomputable section
variable[Sl]
set_option maxRecDepth 10000
theorem ApA{α:Type}{g:Yn->α->Unit->Yh⊕Unit}{xs:Ye α}(d:α)(h:∀i,i<xs.length->g i (xs.getD i d) ()=.inr ()):walk g xs 0 ()=.inr ():=by
 have key:∀(r:Ye α)(j:Yn),xs.drop j=r->walk g r j ()=.inr ():=by
  intro r
  induction r with
  |nil=>intro j _;rfl
  |cons x r ih=>
   intro j hj
   have h3:j<xs.length:=by
    rcases TS j xs.length with h3|h3
    ·exact h3
    ·rw[ZP h3]at hj;cases hj
   rw[JW h3]at hj;injection hj with BH BI;have hx:=h j h3;rw[show xs.getD j d=x by simp[Ym,h3,BH]]at hx;rw[walk,hx];exact ih (j+1) BI
 exact key xs 0 rfl
def ApB(l:Ye (Yh×Yh))(at_:Yh):Prop:=l.Pairwise (λx y=>x.2<=y.1)/\∀x∈l,(0<=x.1/\x.1<x.2)/\x.2<=at_/\x.2<=604800
theorem mI{l:Ye (Yh×Yh)}{t:Yh}(h:ApB l t)(hl:l.length<=14):Fl l=0:=by
 unfold Fl;rw[Ar (by omega),ApA (0,0) λi hi=>?_]
 ·rfl
 obtain⟨h1,h2,h3⟩:=h.2 _ (Cn (d:=((0,0):Yh×Yh)) hi);unfold MY;rw[Ar (show ¬(l.getD i (0,0)).1<0 by omega),Ar (show ¬(l.getD i (0,0)).2<=(l.getD i (0,0)).1 by omega),Ar (show ¬604800<(l.getD i (0,0)).2 by omega)];by_cases h0:(0:Yh)<i
 ·have:=TG.1 h.1 (i-1) i (by omega) hi (by omega)
  have e1:(l.getD i (0,0))=l[i]:=by simp[Ym,hi]
  have e2:(l.getD (i-1) (0,0))=l[i-1]:=by simp[Ym,show i-1<l.length by omega]
  rw[Ao h0,e1,e2,Ar (show ¬l[i].1<l[i-1].2 by omega)];rfl
 ·rw[Ar h0];rfl
section
variable{β:Type}{G:Ya β->Prop}
theorem AHw{k:Dice->Ye (Yh×Yh)->Ya β}(hk:∀d' l,Cf d'->Fl l=0->G (k d' l)):∀(j m:Yn)(t:Yh)(d:Dice)(out:Ye (Yh×Yh)),j<m->Cf d->ApB out t->(0<=t/\t<=604800)->out.length+j<=14->G (UU m (λb o=>k b o) t (j:Yh) d out):=by
 intro j
 induction j with
 |zero=>intro m t d out hm hd hw ht hl;obtain⟨m,rfl⟩:∃m',m=m'+1:=⟨m-1,by omega⟩;simp only[AhO,cY];exact w_n (by simp) (hk _ _ hd (mI hw (by omega)))
 |succ j ih=>
  intro m t d out hm hd hw ht hl;obtain⟨m,rfl⟩:∃m',m=m'+1:=⟨m-1,by omega⟩;simp only[AhO,cY];refine w_p (by omega) ?_;refine Co hd ⟨by omega,by omega⟩ λx d1 h1 h2 BH=>?_;refine Co BH ⟨by omega,by omega⟩ λy d2 h3 h4 BI=>?_;refine EG BI (by decide) λz d3 hz Cc=>?_;have Ho:1<=z/\z<=86400:=by simp at hz;omega
  simp(disch:=omega) only[i64_in];refine w_d (λ_=>hk _ _ Cc (mI hw (by omega))) (λh=>?_);have hr:(out.length+1)*16<=140737488355328:=by omega
  refine w_r hr ?_;rw[show((j+1:Yn):Yh)-1=(j:Yh) by omega];refine ih m _ d3 _ (by omega) Cc ⟨?_,?_⟩ (by omega) (by simp;omega)
  ·rw[FS]
   refine⟨hw.1,L7 _ _,λa ha b hb=>?_⟩;rw[DY.1 hb];have:=(hw.2 a ha).2.1;show a.2<=t+3600*x+60*y;omega
  ·intro a ha
   rcases C5.1 ha with ha|ha
   ·have:=hw.2 a ha
    omega
   ·rw[DY.1 ha]
    simp only;omega
theorem ApC{d:Dice}{k:Dice->Ye (Yh×Yh)->Ya β}(hd:Cf d)(hk:∀d' l,Cf d'->Fl l=0->G (k d' l)):G (UV d k):=by unfold UV;rw[Ad];refine Co hd ⟨by omega,by omega⟩ λx d1 h1 h2 BH=>?_;unfold uG;rw[Ad];obtain⟨j,rfl⟩:∃j:Yn,x=j:=⟨x.toNat,by omega⟩;exact AHw hk j fuel 0 d1 [] (BB (by omega)) BH ⟨YF,λx hx=>Y7 hx Es⟩ (by omega) (by simp;omega)
theorem AHx{d:Dice}{k:Yh->Dice->Ya β}(hd:Cf d)(hk:∀x d',1767100000<=x->x<=1770000000->Cf d'->G (k x d')):G (cZ d k):=by
 unfold cZ;rw[Ad];refine Co hd ⟨by omega,by omega⟩ λx d1 h1 h2 BH=>?_;refine SJ BH ⟨by omega,by omega⟩ λb d2 BI=>?_;simp(disch:=omega) only[i64_in];refine w_c (λ_=>?_) (λ_=>hk _ _ (by omega) (by omega) BI);refine EG BI (by decide) λp d3 hp Cc=>?_;have D0:-1<=p/\p<=3599:=by simp at hp;omega
 simp(disch:=omega) only[i64_in];exact hk _ _ (by omega) (by omega) Cc
theorem Ou{i n:Yh}(h:0<=i/\i<n):ixI i n=Yp:=by unfold ixI;rw[Ao h.1,Ao h.2];rfl
theorem Acw{n:Yh}(h:0<=n/\n<98981):dayI n=Yp:=by unfold dayI;rw[Ao h.1,Ao h.2];rfl
theorem Acx{f t:Yh}(hf:1767100000<=f/\f<=1770000000)(ht:1<=t/\t<=300000)(a b c:Yh):e1V (Yd (f<0)||(Yd (f+t<0)||!dayI (Yc.wrap (Yz (f+t) 86400)))) (a,b,c,f,f+t)=0:=by
 have h1:0<=Yz (f+t) 86400/\Yz (f+t) 86400<98981:=by rw[F7 (by omega)];omega
 rw[i64_in _ (by omega),Acw h1,Ar (by omega),Ar (by omega)];unfold e1V;rw[Ar (show ¬(f+t<=f) by omega)];rfl
def EdOk(np:Yh)(x:Ed):Prop:=G3 np x=0/\x.2.2.2.2<=2000000000
theorem Acy{np a f t:Yh}(ha:0<=a/\a<np)(hf:1767100000<=f/\f<=1770000000)(ht:1<=t/\t<=300000){K:Yh}(hK:K=0\/K=1):EdOk np (K,a,0,f,f+t):=by refine⟨?_,by show f+t<=2000000000;omega⟩;unfold G3 e4V e3V e2V;simp only;rw[Acx hf ht,Ou ha];rcases hK with rfl|rfl<;>rfl
theorem AHy{np f t:Yh}(hf:1767100000<=f/\f<=1770000000)(ht:1<=t/\t<=300000):EdOk np (1,-1,0,f,f+t):=by refine⟨?_,by show f+t<=2000000000;omega⟩;unfold G3 e4V e3V e2V;simp only;rw[Acx hf ht];cases ixI (-1) np<;>rfl
theorem AHz{np a b f t:Yh}(ha:0<=a/\a<np)(hb:0<=b/\b<np)(Nd:a≠b)(hf:1767100000<=f/\f<=1770000000)(ht:1<=t/\t<=300000):EdOk np (2,a,b,f,f+t):=by refine⟨?_,by show f+t<=2000000000;omega⟩;unfold G3 e4V e3V e2V;simp only;rw[Acx hf ht,Ou ha,Ou hb,Ar Nd];rfl
theorem AHA{np a f t:Yh}{d:Dice}{t4:Ed}{K:Yh}{k:Ajl β}(hd:Cf d)(ha:0<=a/\a<np)(hf:1767100000<=f/\f<=1770000000)(ht:1<=t/\t<=300000)(hK:K=0\/K=1)(hk:∀d' x,Cf d'->EdOk np x->G (k d' x)):G (Se k d t4 (K,a,0,f,f+t)):=by
 unfold Se;rw[Ad];unfold dZ;refine w_d (λh=>?_) (λ_=>hk _ _ hd (Acy ha hf ht hK));obtain rfl:K=1:=h;refine SJ hd ⟨by omega,by omega⟩ λb d1 BH=>?_;exact w_c (λ_=>hk _ _ BH (AHy hf ht)) (λ_=>hk _ _ BH (Acy ha hf ht hK))
theorem Acz{zs:Ye AF}{ps:Ye AV}{cs:Ye Bm}{d:Dice}{k:Ed->Dice->Ya β}(hd:Cf d)(hp:1<=ps.length/\ps.length<=8)(hk:∀x d',Cf d'->EdOk (ps.length:Yh) x->G (k x d')):G (Sf zs ps cs d k):=by
 unfold Sf;rw[Ad];refine Co hd ⟨by omega,by omega⟩ λK d1 hK0 hK1 BH=>?_;refine Co BH ⟨by omega,by omega⟩ λa d2 Adb Nc BI=>?_;refine AHx BI λf d3 Adq IA Cc=>?_;refine EG Cc (by decide) λt d4 ht CR=>?_;have Lu:1<=t/\t<=300000:=by simp at ht;omega
 simp(disch:=omega) only[i64_in];refine w_d (λh=>?_) (λh=>?_)
 ·refine w_d (λ_=>hk _ _ CR (Acy ⟨Adb,Nc⟩ ⟨Adq,IA⟩ Lu (.inl rfl))) (λg=>?_)
  refine Co CR ⟨by omega,by omega⟩ λb d5 Eh BE GP=>?_;refine w_e (EF (by omega)) ?_;simp(disch:=omega) only[i64_in];have Ai:0<=Yv (a+1+b) (ps.length:Yh)/\Yv (a+1+b) (ps.length:Yh)<(ps.length:Yh):=⟨Int.tmod_nonneg _ (by omega),pF _ (by omega)⟩
  have AO:a≠Yv (a+1+b) (ps.length:Yh):=by
   rw[EO (by omega)];by_cases c:a+1+b<(ps.length:Yh)
   ·rw[pH (by omega) c];omega
   ·have:(a+1+b)%(ps.length:Yh)=a+1+b-(ps.length:Yh):=by rw[show a+1+b=(a+1+b-(ps.length:Yh))+(ps.length:Yh) by omega,Int.add_emod_right,pH (by omega) (by omega)];omega
    omega
  obtain rfl:K=2:=h;unfold Se;rw[Ad];unfold dZ;exact w_n (by show ¬(2:Yh)=1;decide) (hk _ _ GP (AHz ⟨Adb,Nc⟩ Ai AO ⟨Adq,IA⟩ Lu))
 ·exact AHA CR ⟨Adb,Nc⟩ ⟨Adq,IA⟩ Lu (by omega) λd' x Ct hx=>hk _ _ Ct hx
end
end
end Go.Lift
namespace Go.Lift
open Go.RowKit Go.IntWalk
noncomputable section
variable[Sl]
set_option maxRecDepth 10000
section
variable{β:Type}
theorem c_b{b:Ys}{x y:Ya β}(h:b=Yp):Yk b x y=x:=by rw[h];rfl
theorem ApD{α γ:Type}(f:α->γ)(xs:Ye α)(s:Ye γ):xs.foldl (λl i=>l++[f i]) s=s++xs.map f:=by
 induction xs generalizing s with
 |nil=>simp
 |cons x xs ih=>simp[ih,C4]
theorem AHB{α:Type}(xs:Ye α)(s:Ye α):xs.foldl (λl i=>l++[i]) s=s++xs:=by have:=ApD (λx:α=>x) xs s;simpa using this
theorem AHC(c:Aj)(h1:c.1.length<=1000000)(h2:c.2.1.length<=1000000)(h3:c.2.2.1.length<=1000000)(h4:c.2.2.2.length<=1000000)(h5:∀s∈c.2.2.2,s.2.1.length<=1000000/\s.2.2.length<=1000000)(k:Ye AF->Ye AV->Ye Bm->Ye BC->Ya β):cV c k=k c.1 c.2.1 c.2.2.1 c.2.2.2:=by
 unfold cV;rw[Ad];refine(Cx (by omega)).trans ?_;refine(Cx (by omega)).trans ?_;refine(Cx (by omega)).trans ?_;unfold uD;rw[Ad]
 refine(Om (λi l=>l.length=i) (λm i l=>UT m (λ_ _ _ _ b6 b7 b8 b9=>k b6 b7 b8 b9) i c [] [] [] [] c.1 c.2.1 c.2.2.1 l) (λl x=>l++[x]) (λl=>k c.1 c.2.1 c.2.2.1 l) ([],[],[]) c.2.2.2 [] fuel (BB (by omega)) rfl
  (λi l hi hl=>by simp[hl]) (λm i l hi hl=>?_) (λm l hl=>?_)).trans ?_
 ·simp only[AhH,cU]
  refine(Ag (by omega)).trans ?_;refine(AG (by omega)).trans ?_;rw[Bh,i64_in ((i:Yh)+1) (by omega)];obtain⟨g1,g2⟩:=h5 _ (Cn (d:=(([]:Ye Yj),(([]:Ye Bz),([]:Ye (Yh×(Yh×(Yh×(Yh×Yh)))))))) hi);refine(Cx (by omega)).trans ?_;refine(Cx (by omega)).trans ?_;have h:(l.length+1)*64<=140737488355328:=by omega
  exact(Aw (λb=>Yk b _ Yf) (KQ _)).trans (Cx h)
 ·simp only[AhH,cU]
  exact Al (by omega)
 ·rw[AHB];rfl
def Qo:Ye (Ye Yj)->Ye (Ye Yj)->Ys
 |[],_=>Yp
 |s::r,l=>CP s&&(!Yd (s∈l)&&Qo r (l++[s]))
theorem AHD{s:Ye Yj}{l:Ye (Ye Yj)}(h1:CP s=Yp)(h2:s∉l):Eg s l=0:=by unfold Eg;rw[h1,Ar h2];rfl
theorem ApE{α:Type}(of:α->Ye Yj)(chk:α->Yh):∀(xs:Ye α)(j:Yn)(l:Ye (Ye Yj)),Qo (xs.map of) l=Yp->(∀x∈xs,chk x=0)->walk (FB of chk) xs j l=.inr (l++xs.map of)
 |[],j,l,_,_=>by simp[walk]
 |x::xs,j,l,h,hc=>by
  simp only[CH,Qo,Dk]at h;obtain⟨h1,h2,h3⟩:=h;have h2:of x∉l:=by simpa using h2
  have hg:FB of chk j x l=.inr (l++[of x]):=by unfold FB;rw[Ao (AHD h1 h2),Ao (hc x (Ha ..))];rfl
  unfold walk;rw[hg];show walk (FB of chk) xs (j+1) (l++[of x])=_;rw[ApE of chk xs (j+1) _ h3 λy hy=>hc y (DX _ hy)];simp
theorem AHE{α:Type}{of:α->Ye Yj}{chk:α->Yh}{xs:Ye α}(h:Qo (xs.map of) []=Yp)(hc:∀x∈xs,chk x=0):G4 of chk xs=0:=by unfold G4;rw[ApE of chk xs 0 [] h hc];rfl
theorem ApF(np:Yh):∀(xs:Ye Ed)(j:Yn),(∀x∈xs,G3 np x=0)->walk (H7 np) xs j ()=.inr ()
 |[],_,_=>rfl
 |x::xs,j,h=>by unfold walk H7;rw[Ao (h x (Ha ..))];exact ApF np xs (j+1) λy hy=>h y (DX _ hy)
end
end
end Go.Lift
namespace Go.Lift
open Go.RowKit Go.IntWalk
noncomputable section
variable[Sl]
set_option maxRecDepth 10000
section
variable{β:Type}{G:Ya β->Prop}
theorem ApG{nz np nc zone day sec unit every cal mode:Yh}{n:Ye Yj}{ms:Ye Yh}{ws:Ye (Yh×Yh)}(hz:0<=zone/\zone<nz)(hd:1<=day/\day<98981)(hs:0<=sec/\sec<=86399)(hu:0<=unit/\unit<=2)(he:1<=every/\every<=400)(hm:1<=ms.length/\ms.length<=12)(KD:∀m∈ms,0<=m/\m<np)(hw:Fl ws=0)(hc:(mode=0/\cal=0)\/((1<=mode/\mode<=2)/\0<=cal/\cal<nc)):FJ nz np nc (n,zone,(day,sec),unit,every,ms,ws,cal,mode)=0:=by
 unfold FJ l2V;simp only
 rw[Ou hz,Ar (show ¬day<1 by omega),Acw (by omega),GJ hs,GJ hu,GJ he,Ar (show ¬(ms.length:Yh)=0 by omega),Ar (show ¬(12:Yh)<(ms.length:Yh) by omega),
  FG.2 λm h=>Ou (KD m h),Ao hw,GJ (show 0<=mode/\mode<=2 by omega)]
 unfold l1V;simp only;rcases hc with⟨h1,h2⟩|⟨h1,h2⟩
 ·rw[Ao h1,Ao h2];rfl
 ·rw[Ar (show ¬mode=0 by omega),Ou h2];rfl
theorem AHF{zs:Ye AF}{ps:Ye AV}{cs:Ye Bm}{t6 l1:Ye Yj}{DL Gu FR Gf Gv Gw Gx l2 l3 l4 l5 l6 l7 l8:Yh}{b4:Ye Yh}{b5 b7:Ye (Yh×Yh)}{k:wI β}(hp:1<=ps.length/\ps.length<=8)(hk:∀d' ms,Cf d'->(1<=ms.length/\ms.length<=12)->(∀m∈ms,0<=m/\m<(ps.length:Yh))->G (k d' zs ps cs t6 DL Gu FR Gf Gv Gw Gx l1 l2 l3 l4 l5 l6 l7 l8 b4 b5 ms b7)):∀(j m:Yn)(d:Dice)(ms:Ye Yh),j<m->Cf d->(1<=ms.length+j/\ms.length+j<=12)->(∀x∈ms,0<=x/\x<(ps.length:Yh))->G (Vu m k (j:Yh) d zs ps cs t6 DL Gu FR Gf Gv Gw Gx l1 l2 l3 l4 l5 l6 l7 l8 b4 b5 ms b7):=by
 intro j
 induction j with
 |zero=>intro m d ms hm hd hl hx;obtain⟨m,rfl⟩:∃m',m=m'+1:=⟨m-1,by omega⟩;simp only[Ajj,dX];exact w_n (by simp) (hk _ _ hd (by omega) hx)
 |succ j ih=>
  intro m d ms hm hd hl hx;obtain⟨m,rfl⟩:∃m',m=m'+1:=⟨m-1,by omega⟩;simp only[Ajj,dX];refine w_p (by omega) ?_;refine Co hd ⟨by omega,by omega⟩ λx d1 h1 h2 BH=>?_;have hr:(ms.length+1)*8<=140737488355328:=by omega
  refine w_r hr ?_;simp(disch:=omega) only[i64_in];rw[show((j+1:Yn):Yh)-1=(j:Yh) by omega];refine ih m d1 _ (by omega) BH (by simp;omega) λy hy=>?_;rcases C5.1 hy with hy|hy
  ·exact hx y hy
  ·rw[DY.1 hy];exact⟨h1,h2⟩
theorem ApH{zs:Ye AF}{ps:Ye AV}{cs:Ye Bm}{d:Dice}{t6 l1:Ye Yj}{DL Gu FR Gf Gv Gw Gx l2 l3 l4 l5 l6:Yh}{b4 b6:Ye Yh}{b5 b7:Ye (Yh×Yh)}{k:Aje β}(hd:Cf d)(hc:cs.length<=8)(hk:∀d' c m,Cf d'->((m=0/\c=0)\/((1<=m/\m<=2)/\0<=c/\c<(cs.length:Yh)))->G (k d' l1 l2 l3 l4 l5 l6 c m b6 b7)):G (Vt k d zs ps cs t6 DL Gu FR Gf Gv Gw Gx l1 l2 l3 l4 l5 l6 0 0 b4 b5 b6 b7):=by
 unfold Vt;rw[Ad];unfold wL;refine SJ hd ⟨by omega,by omega⟩ λb d1 BH=>?_;unfold dW;rw[Ad];unfold wK;refine w_c (λ_=>?_) (λ_=>hk _ _ _ BH (.inl ⟨rfl,rfl⟩));refine w_d (λh=>?_) (λ_=>hk _ _ _ BH (.inl ⟨rfl,rfl⟩));refine Co BH ⟨by omega,by omega⟩ λx d2 h1 h2 BI=>?_;refine Co BI ⟨by omega,by omega⟩ λy d3 h3 h4 Cc=>?_;simp(disch:=omega) only[i64_in];exact hk _ _ _ Cc (.inr ⟨by omega,h1,h2⟩)
theorem ApI{zs:Ye AF}{ps:Ye AV}{cs:Ye Bm}{d:Dice}{t6 l1:Ye Yj}{DL Gu FR Gf Gv Gw Gx l2 l3 l4 l5 l6:Yh}{b4:Ye Yh}{b5:Ye (Yh×Yh)}{k:Ajh β}(hd:Cf d)(hp:1<=ps.length/\ps.length<=8)(hc:cs.length<=8)(hk:∀d' c m ms ws,Cf d'->((m=0/\c=0)\/((1<=m/\m<=2)/\0<=c/\c<(cs.length:Yh)))->(1<=ms.length/\ms.length<=12)->(∀x∈ms,0<=x/\x<(ps.length:Yh))->Fl ws=0->G (k d' l1 l2 l3 l4 l5 l6 c m ms ws)):G (Vv k d zs ps cs t6 DL Gu FR Gf Gv Gw Gx l1 l2 l3 l4 l5 l6 0 0 b4 b5 [] []):=by
 unfold Vv;rw[Ad];unfold wN;refine Co hd ⟨by omega,by omega⟩ λx d1 h1 h2 BH=>?_;simp(disch:=omega) only[i64_in];unfold wM;rw[Ad];obtain⟨j,hj⟩:∃j:Yn,1+x=j:=⟨(1+x).toNat,by omega⟩;rw[hj];refine AHF hp (λd2 ms BI hm KD=>?_) j fuel d1 [] (BB (by omega)) BH (by simp;omega) (λy hy=>Y7 hy Es);refine SJ BI ⟨by omega,by omega⟩ λb d3 Cc=>?_;refine w_c (λ_=>?_) (λ_=>?_)
 ·refine ApC Cc λd4 ws CR hw=>?_
  exact ApH CR hc λd5 c m GP FC=>hk _ _ _ _ _ GP FC hm KD hw
 ·refine ApH Cc hc λd5 c m GP FC=>hk _ _ _ _ _ GP FC hm KD ?_
  exact mI (t:=0) ⟨YF,λx hx=>Y7 hx Es⟩ (by simp)
theorem AHG{zs:Ye AF}{ps:Ye AV}{cs:Ye Bm}{n:Ye Yj}{d:Dice}{k:Bz->Dice->Ya β}(hd:Cf d)(hz:1<=zs.length/\zs.length<=8)(hp:1<=ps.length/\ps.length<=8)(hc:cs.length<=8)(hk:∀l d',Cf d'->l.1=n->FJ (zs.length:Yh) (ps.length:Yh) (cs.length:Yh) l=0->G (k l d')):G (dY zs ps cs n d k):=by
 unfold dY;rw[Ad];refine Co hd ⟨by omega,by omega⟩ λz d1 Js Jt BH=>?_;refine Co BH ⟨by omega,by omega⟩ λy d2 E6 IE BI=>?_;refine EG BI (by decide) λs d3 hs Cc=>?_;have Cd:0<=s/\s<=86399:=by simp at hs;omega
 refine Co Cc ⟨by omega,by omega⟩ λu d4 AOH Tu CR=>?_;refine Co CR ⟨by omega,by omega⟩ λe d5 AOp Ar4 GP=>?_;simp(disch:=omega) only[i64_in];refine w_d (λ_=>?_) (λ_=>?_)
 ·refine EG GP (by decide) λe2 d6 Lm Nk=>?_
  have ALa:1<=e2/\e2<=400:=by simp at Lm;omega
  refine ApI Nk hp hc λd' c m ms ws Ct h1 h2 h3 h4=>hk _ _ Ct rfl ?_;exact ApG ⟨Js,Jt⟩ (by omega) Cd (by omega) ALa h2 h3 h4 h1
 ·refine ApI GP hp hc λd' c m ms ws Ct h1 h2 h3 h4=>hk _ _ Ct rfl ?_
  exact ApG ⟨Js,Jt⟩ (by omega) Cd (by omega) (by omega) h2 h3 h4 h1
def zNames:Ye (Ye Yj):=[[104,101,114,101],[116,104,101,114,101]]
def pNames:Ye (Ye Yj):=[[97,100,97],[98,111,98],[99,108,101,111],[100,97,110],[101,118,101],[102,97,121],[103,117,115],[104,97,108]]
def cNames:Ye (Ye Yj):=[[100,97,121,115]]
def sNames:Ye (Ye Yj):=[[102,105,114,115,116],[115,101,99,111,110,100],[116,104,105,114,100]]
def Named{α:Type}(of:α->Ye Yj)(L:Ye (Ye Yj))(xs:Ye α):Prop:=xs.length<=L.length/\xs.map of=L.take xs.length
theorem Named.nil{α:Type}{of:α->Ye Yj}{L:Ye (Ye Yj)}:Named of L []:=⟨EA _,by simp⟩
theorem Named.snoc{α:Type}{of:α->Ye Yj}{L:Ye (Ye Yj)}{xs:Ye α}{x:α}(h:Named of L xs)(hl:xs.length<L.length)(hx:of x=L.getD xs.length []):Named of L (xs++[x]):=by refine⟨by simp;omega,?_⟩;rw[IR,h.2,AQ,E9,Ot [] hl,List.map_singleton,hx]
theorem Named.ok{α:Type}{of:α->Ye Yj}{L:Ye (Ye Yj)}{xs:Ye α}(h:Named of L xs)(hL:((YaG (L.length+1)).all λn=>Qo (L.take n) [])=Yp):Qo (xs.map of) []=Yp:=by rw[h.2];exact FG.1 hL xs.length (Rg.2 (by have:=h.1;omega))
theorem LZ{α:Type}{P:α->Prop}{xs:Ye α}{x:α}(h:∀y∈xs,P y)(hx:P x):∀y∈xs++[x],P y:=by
 intro y hy;rcases C5.1 hy with hy|hy
 ·exact h y hy
 ·rw[DY.1 hy];exact hx
def mJ(zs:Ye AF):Prop:=Named (·.1) zNames zs/\∀z∈zs,ZoneOk z/\Ky z=0/\Xq z
def mK(nz:Yh)(ps:Ye AV):Prop:=Named (·.1) pNames ps/\∀p∈ps,Hh nz p=0
def mL(nz:Yh)(cs:Ye Bm):Prop:=Named (·.1) cNames cs/\∀x∈cs,calV nz x=0/\x.2.2.length<=20
theorem AHH{b3 b7:Ye AF}{b4 b8:Ye AV}{b5 b9:Ye Bm}{b6 b10:Ye BC}{k:vT β}(hk:∀d' zs,Cf d'->mJ zs->1<=zs.length->G (k d' b3 b4 b5 b6 zs b8 b9 b10)):∀(j m:Yn)(d:Dice)(zs:Ye AF),j<m->Cf d->mJ zs->(1<=zs.length+j/\zs.length+j<=2)->G (Vo m k (j:Yh) d b3 b4 b5 b6 zs b8 b9 b10):=by
 intro j
 induction j with
 |zero=>intro m d zs hm hd hz hl;obtain⟨m,rfl⟩:∃m',m=m'+1:=⟨m-1,by omega⟩;simp only[Aj9,dR];exact w_n (by simp) (hk _ _ hd hz (by omega))
 |succ j ih=>
  intro m d zs hm hd hz hl;obtain⟨m,rfl⟩:∃m',m=m'+1:=⟨m-1,by omega⟩;simp only[Aj9,dR];refine w_p (by omega) ?_;refine w_i (by show 0<=(zs.length:Yh)/\(zs.length:Yh)<2;omega) ?_;refine AHv hd λz d1 BH Jt=>?_;have hr:(zs.length+1)*48<=140737488355328:=by omega
  refine w_r hr ?_;simp(disch:=omega) only[i64_in];rw[show((j+1:Yn):Yh)-1=(j:Yh) by omega];refine ih m d1 _ (by omega) BH ⟨hz.1.snoc (by show zs.length<2;omega) ?_,LZ hz.2 Jt.2⟩ (by simp;omega);have:=Jt.1;rw[Bh]at this;exact this
theorem AHI{nz zone w r:Yh}{n:Ye Yj}{q:Ye (Yh×Yh)}{b:Ys}(hz:0<=zone/\zone<nz)(hq:Fl q=0)(hw:w∈[(0:Yh),40,100,12])(hr:r∈[(0:Yh),11,24,1]):Hh nz (n,zone,q,3600*w,3600*r,b)=0:=by
 unfold Hh;simp only
 have h1:Kt (3600*w)=Yp:=by simp at hw;rcases hw with rfl|rfl|rfl|rfl<;>decide
 have h2:Kt (3600*r)=Yp:=by simp at hr;rcases hr with rfl|rfl|rfl|rfl<;>decide
 rw[Ou hz,Ao hq,h1,h2];rfl
theorem AHJ{b3 b7:Ye AF}{b4:Ye AV}{b5 b9:Ye Bm}{b6 b10:Ye BC}{k:vV β}(h7:1<=b7.length/\b7.length<=8)(hk:∀d' ps,Cf d'->mK (b7.length:Yh) ps->(1<=ps.length/\ps.length<=8)->G (k d' b3 b4 b5 b6 b7 ps b9 b10)):∀(j m:Yn)(d:Dice)(ps:Ye AV),j<m->Cf d->mK (b7.length:Yh) ps->(1<=ps.length+j/\ps.length+j<=8)->G (Sd m k (j:Yh) d b3 b4 b5 b6 b7 ps b9 b10):=by
 intro j
 induction j with
 |zero=>intro m d ps hm hd hz hl;obtain⟨m,rfl⟩:∃m',m=m'+1:=⟨m-1,by omega⟩;simp only[Aja,dS];exact w_n (by simp) (hk _ _ hd hz (by omega))
 |succ j ih=>
  intro m d ps hm hd hz hl;obtain⟨m,rfl⟩:∃m',m=m'+1:=⟨m-1,by omega⟩;simp only[Aja,dS];refine w_p (by omega) ?_;unfold US;rw[Ad];refine w_i (by show 0<=(ps.length:Yh)/\(ps.length:Yh)<8;omega) ?_;refine Co hd ⟨by omega,by omega⟩ λz d1 h1 h2 BH=>?_;refine SJ BH ⟨by omega,by omega⟩ λbc d2 BI=>?_;refine SJ BI ⟨by omega,by omega⟩ λbq d3 Cc=>?_
  have key:∀(d4:Dice)(q:Ye (Yh×Yh)),Cf d4->Fl q=0->G (Vp (λAT d2 GL HZ Hk Hl JF KA Lg K9=>Sd m k (Yc.wrap (AT-1)) d2 GL HZ Hk Hl JF KA Lg K9) ((j+1:Yn):Yh) d4
    (Ym pNames (Yl (ps.length:Yh)) []) z 0 0 bc b3 b4 b5 b6 b7 ps b9 b10 q):=by
   intro d4 q CR hq;unfold Vp;rw[Ad];unfold wE;refine EG CR (by decide) λw d5 hw GP=>?_;refine EG GP (by decide) λr d6 hr Nk=>?_;have ArN:0<=w/\w<=100:=by simp at hw;omega
   have BA:0<=r/\r<=100:=by simp at hr;omega
   have hr:(ps.length+1)*72<=140737488355328:=by omega
   refine w_r hr ?_;simp(disch:=omega) only[i64_in];rw[show((j+1:Yn):Yh)-1=(j:Yh) by omega];refine ih m d6 _ (by omega) Nk ⟨hz.1.snoc (by show ps.length<8;omega) (by rw[Bh]),LZ hz.2 ?_⟩ (by simp;omega);exact AHI ⟨h1,h2⟩ hq hw (by assumption)
  refine w_c (λ_=>?_) (λ_=>?_)
  ·exact ApC Cc λd4 q CR hq=>key d4 q CR hq
  ·exact key d3 [] Cc (mI (t:=0) ⟨YF,λx hx=>Y7 hx Es⟩ (by simp))
theorem AHK{nz zone:Yh}{n:Ye Yj}{ds:Ye Yh}(hz:0<=zone/\zone<nz)(hl:ds.length<=64)(hd:ds.Pairwise (· < ·))(hb:∀x∈ds,0<=x/\x<98981):calV nz (n,zone,ds)=0:=by
 unfold calV;simp only;rw[Ou hz,Ar (by omega),FG.2 λx hx=>Acw (hb x hx),ApA 0 λi hi=>?_]
 ·rfl
 unfold ascG;by_cases h0:(0:Yh)<i
 ·have:=TG.1 hd (i-1) i (by omega) hi (by omega)
  have e1:ds.getD i 0=ds[i]:=by simp[Ym,hi]
  have e2:ds.getD (i-1) 0=ds[i-1]:=by simp[Ym,show i-1<ds.length by omega]
  rw[Ao h0,e1,e2,Ar (show ¬ds[i]<=ds[i-1] by omega)];rfl
 ·rw[Ar h0];rfl
theorem AHL{i z:Yh}{n:Ye Yj}{b4 b8:Ye AF}{b5 b9:Ye AV}{b6 b10:Ye Bm}{b7 b11:Ye BC}{k:wB β}(hk:∀d' ds,Cf d'->ds.length<=20->ds.Pairwise (· < ·)->(∀x∈ds,0<=x/\x<98981)->G (k i d' n z b4 b5 b6 b7 b8 b9 b10 b11 ds)):∀(j m:Yn)(day:Yh)(d:Dice)(ds:Ye Yh),j<m->Cf d->ds.length+j<=20->ds.Pairwise (· < ·)->(∀x∈ds,0<=x/\x<=day)->(0<=day/\day+6*(j:Yh)<98981)->G (Vq m k i (j:Yh) day d n z b4 b5 b6 b7 b8 b9 b10 b11 ds):=by
 intro j
 induction j with
 |zero=>intro m day d ds hm hd hl hp hb nF;obtain⟨m,rfl⟩:∃m',m=m'+1:=⟨m-1,by omega⟩;simp only[Ajb,dT];exact w_n (by simp) (hk _ _ hd (by omega) hp λx hx=>by have:=hb x hx;omega)
 |succ j ih=>
  intro m day d ds hm hd hl hp hb nF;obtain⟨m,rfl⟩:∃m',m=m'+1:=⟨m-1,by omega⟩;simp only[Ajb,dT];refine w_p (by omega) ?_;refine Co hd ⟨by omega,by omega⟩ λx d1 h1 h2 BH=>?_;have hr:(ds.length+1)*8<=140737488355328:=by omega
  refine w_r hr ?_;simp(disch:=omega) only[i64_in];rw[show((j+1:Yn):Yh)-1=(j:Yh) by omega];refine ih m _ d1 _ (by omega) BH (by simp;omega) ?_ ?_ (by omega)
  ·rw[FS]
   refine⟨hp,L7 _ _,λa ha b AE=>?_⟩;rw[DY.1 AE];have:=hb a ha;omega
  ·intro a ha
   rcases C5.1 ha with ha|ha
   ·have:=hb a ha;omega
   ·rw[DY.1 ha];omega
theorem AHM{b3 b7:Ye AF}{b4 b8:Ye AV}{b5:Ye Bm}{b6 b10:Ye BC}{k:vY β}(h7:1<=b7.length/\b7.length<=8)(hk:∀d' cs,Cf d'->mL (b7.length:Yh) cs->G (k d' b3 b4 b5 b6 b7 b8 cs b10)):∀(j m:Yn)(d:Dice)(cs:Ye Bm),j<m->Cf d->mL (b7.length:Yh) cs->cs.length+j<=1->G (Vr m k (j:Yh) d b3 b4 b5 b6 b7 b8 cs b10):=by
 intro j
 induction j with
 |zero=>intro m d cs hm hd hz hl;obtain⟨m,rfl⟩:∃m',m=m'+1:=⟨m-1,by omega⟩;simp only[Ajc,dU];exact w_n (by simp) (hk _ _ hd hz)
 |succ j ih=>
  intro m d cs hm hd hz hl;obtain⟨m,rfl⟩:∃m',m=m'+1:=⟨m-1,by omega⟩;simp only[Ajc,dU];refine w_p (by omega) ?_;refine Co hd ⟨by omega,by omega⟩ λz d1 h1 h2 BH=>?_;refine Co BH ⟨by omega,by omega⟩ λt d2 h3 h4 BI=>?_;unfold wG;rw[Ad];obtain⟨q,rfl⟩:∃q:Yn,t=q:=⟨t.toNat,by omega⟩;refine AHL (λd3 ds Cc g1 g2 g3=>?_) q fuel 20454 d2 [] (BB (by omega)) BI (by simp;omega) YF (λx hx=>Y7 hx Es) (by omega);have hr:(cs.length+1)*48<=140737488355328:=by omega
  refine w_r hr ?_;simp(disch:=omega) only[i64_in];rw[show((j+1:Yn):Yh)-1=(j:Yh) by omega];refine ih m d3 _ (by omega) Cc ⟨hz.1.snoc (by show cs.length<1;omega) ?_,LZ hz.2 ⟨AHK ⟨h1,h2⟩ (by omega) g2 g3,g1⟩⟩ (by simp;omega);rw[show cs.length=0 by omega];rfl
theorem AHN{d:Dice}{k:Ye AF->Ye AV->Ye Bm->Dice->Ye BC->Ya β}(hd:Cf d)(hk:∀d' zs ps cs,Cf d'->mJ zs->1<=zs.length->mK (zs.length:Yh) ps->(1<=ps.length/\ps.length<=8)->mL (zs.length:Yh) cs->G (k zs ps cs d' [])):G (dV d k):=by
 unfold dV;rw[Ad];refine Co hd ⟨by omega,by omega⟩ λx d1 h1 h2 BH=>?_;simp(disch:=omega) only[i64_in];unfold wD;rw[Ad];obtain⟨j,hj⟩:∃j:Yn,1+x=j:=⟨(1+x).toNat,by omega⟩;rw[hj];refine AHH (b7:=[]) (λd2 zs BI hz IG=>?_) j fuel d1 [] (BB (by omega)) BH ⟨Named.nil,λz hz=>Y7 hz Es⟩ (by simp;omega);refine Co BI ⟨by omega,by omega⟩ λy d3 h3 h4 Cc=>?_;simp(disch:=omega) only[i64_in];unfold wF;rw[Ad];obtain⟨q,hq⟩:∃q:Yn,1+y=q:=⟨(1+y).toNat,by omega⟩;rw[hq];have oH:zs.length<=8:=by have:=hz.1.1;have e:zNames.length=2:=rfl;omega
 refine AHJ ⟨IG,oH⟩ (λd4 ps CR hp Bp=>?_) q fuel d3 [] (BB (by omega)) Cc ⟨Named.nil,λz hz=>Y7 hz Es⟩ (by simp;omega);refine Co CR ⟨by omega,by omega⟩ λt d5 h5 h6 GP=>?_;unfold wH;rw[Ad];obtain⟨c,rfl⟩:∃c:Yn,t=c:=⟨t.toNat,by omega⟩;exact AHM ⟨IG,oH⟩ (λd6 cs Nk hc=>hk _ _ _ _ Nk hz IG hp Bp hc) c fuel d5 [] (BB (by omega)) GP ⟨Named.nil,λz hz=>Y7 hz Es⟩ (by simp;omega)
end
end
end Go.Lift
namespace Go.Lift
open Go.RowKit Go.IntWalk
noncomputable section
variable[Sl]
set_option maxRecDepth 10000
section
variable{β:Type}{G:Ya β->Prop}
def AcA(nz np nc:Yh)(ls:Ye Bz):Prop:=Named (·.1) pNames ls/\∀l∈ls,FJ nz np nc l=0
def AcB(nz np nc:Yh)(ss:Ye BC):Prop:=Named (·.1) sNames ss/\∀s∈ss,I2 nz np nc s=0/\∀x∈s.2.2,EdOk np x
theorem AHO:((YaG (pNames.length+1)).all λn=>Qo (pNames.take n) [])=Yp:=by kernel_rfl
theorem AHP{nz np nc:Yh}{n:Ye Yj}{ls:Ye Bz}{es:Ye Ed}(hl:AcA nz np nc ls)(h6:ls.length<=6)(he:∀x∈es,G3 np x=0)(AqV:es.length<=48):I2 nz np nc (n,ls,es)=0:=by unfold I2;simp only;rw[Ar (by omega),Ar (by omega),Ao (AHE (hl.1.ok AHO) hl.2),ApF np es 0 he];rfl
theorem AHQ{i:Yh}{zs b4:Ye AF}{ps b5:Ye AV}{cs b6:Ye Bm}{s:Ye Yj}{b7 b8:Ye BC}{es:Ye Ed}{k:yG β}(hz:1<=zs.length/\zs.length<=8)(hp:1<=ps.length/\ps.length<=8)(hc:cs.length<=8)(hk:∀d' ls,Cf d'->AcA (zs.length:Yh) (ps.length:Yh) (cs.length:Yh) ls->ls.length<=6->G (k i d' zs ps cs s b4 b5 b6 b7 b8 ls es)):∀(j m:Yn)(d:Dice)(ls:Ye Bz),j<m->Cf d->AcA (zs.length:Yh) (ps.length:Yh) (cs.length:Yh) ls->ls.length+j<=6->G (VQ m k i (j:Yh) d zs ps cs s b4 b5 b6 b7 b8 ls es):=by
 intro j
 induction j with
 |zero=>intro m d ls hm hd hl h6;obtain⟨m,rfl⟩:∃m',m=m'+1:=⟨m-1,by omega⟩;simp only[AkQ,fU];exact w_n (by simp) (hk _ _ hd hl (by omega))
 |succ j ih=>
  intro m d ls hm hd hl h6;obtain⟨m,rfl⟩:∃m',m=m'+1:=⟨m-1,by omega⟩;simp only[AkQ,fU];refine w_p (by omega) ?_;unfold US;rw[Ad];refine w_i (by show 0<=(ls.length:Yh)/\(ls.length:Yh)<8;omega) ?_;refine AHG hd hz hp hc λl d1 BH hn hv=>?_;have hr:(ls.length+1)*120<=140737488355328:=by omega
  refine w_r hr ?_;simp(disch:=omega) only[i64_in];rw[show((j+1:Yn):Yh)-1=(j:Yh) by omega];refine ih m d1 _ (by omega) BH ⟨hl.1.snoc (by show ls.length<8;omega) ?_,LZ hl.2 hv⟩ (by simp;omega);rw[Bh]at hn;exact hn
theorem AHR{i:Yh}{zs b4:Ye AF}{ps b5:Ye AV}{cs b6:Ye Bm}{s:Ye Yj}{b7 b8:Ye BC}{ls:Ye Bz}{k:yI β}(hp:1<=ps.length/\ps.length<=8)(hk:∀d' es,Cf d'->(∀x∈es,EdOk (ps.length:Yh) x)->es.length<=3->G (k i d' zs ps cs s b4 b5 b6 b7 b8 ls es)):∀(j m:Yn)(d:Dice)(es:Ye Ed),j<m->Cf d->(∀x∈es,EdOk (ps.length:Yh) x)->es.length+j<=3->G (VR m k i (j:Yh) d zs ps cs s b4 b5 b6 b7 b8 ls es):=by
 intro j
 induction j with
 |zero=>intro m d es hm hd hl h6;obtain⟨m,rfl⟩:∃m',m=m'+1:=⟨m-1,by omega⟩;simp only[AkR,fV];exact w_n (by simp) (hk _ _ hd hl (by omega))
 |succ j ih=>
  intro m d es hm hd hl h6;obtain⟨m,rfl⟩:∃m',m=m'+1:=⟨m-1,by omega⟩;simp only[AkR,fV];refine w_p (by omega) ?_;refine Acz hd hp λx d1 BH hv=>?_;have hr:(es.length+1)*40<=140737488355328:=by omega
  refine w_r hr ?_;simp(disch:=omega) only[i64_in];rw[show((j+1:Yn):Yh)-1=(j:Yh) by omega];exact ih m d1 _ (by omega) BH (LZ hl hv) (by simp;omega)
theorem AHS{zs b3:Ye AF}{ps b4:Ye AV}{cs b5:Ye Bm}{b6:Ye BC}{k:yE β}(hz:1<=zs.length/\zs.length<=8)(hp:1<=ps.length/\ps.length<=8)(hc:cs.length<=8)(hk:∀d' ss,Cf d'->AcB (zs.length:Yh) (ps.length:Yh) (cs.length:Yh) ss->(1<=ss.length/\∀s∈ss,s.2.2.length<=3)->G (k d' zs ps cs b3 b4 b5 b6 ss)):∀(j m:Yn)(d:Dice)(ss:Ye BC),j<m->Cf d->AcB (zs.length:Yh) (ps.length:Yh) (cs.length:Yh) ss->(1<=ss.length+j/\ss.length+j<=3)->(∀s∈ss,s.2.2.length<=3)->G (VS m k (j:Yh) d zs ps cs b3 b4 b5 b6 ss):=by
 intro j
 induction j with
 |zero=>intro m d ss hm hd hl h6 Q4;obtain⟨m,rfl⟩:∃m',m=m'+1:=⟨m-1,by omega⟩;simp only[AkS,fW];exact w_n (by simp) (hk _ _ hd hl ⟨by omega,Q4⟩)
 |succ j ih=>
  intro m d ss hm hd hl h6 Q4;obtain⟨m,rfl⟩:∃m',m=m'+1:=⟨m-1,by omega⟩;simp only[AkS,fW];refine w_p (by omega) ?_
  have ALD:Yv (ss.length:Yh) 3=(ss.length:Yh):=by rw[EO (by omega),pH (by omega) (by omega)]
  rw[ALD];refine w_i (by show 0<=(ss.length:Yh)/\(ss.length:Yh)<3;omega) ?_;refine Co hd ⟨by omega,by omega⟩ λx d1 h1 h2 BH=>?_;unfold yK;rw[Ad];obtain⟨q,rfl⟩:∃q:Yn,x=q:=⟨x.toNat,by omega⟩;refine AHQ hz hp hc (λd2 ls BI nT ALu=>?_) q fuel d1 [] (BB (by omega)) BH ⟨Named.nil,λz hz=>Y7 hz Es⟩ (by simp;omega);refine Co BI ⟨by omega,by omega⟩ λy d3 h3 h4 Cc=>?_;unfold yL;rw[Ad];obtain⟨p,rfl⟩:∃p:Yn,y=p:=⟨y.toNat,by omega⟩;refine AHR hp (λd4 es CR Ie ALb=>?_) p fuel d3 [] (BB (by omega)) Cc (λz hz=>Y7 hz Es) (by simp;omega);have hr:(ss.length+1)*64<=140737488355328:=by omega
  refine w_r hr ?_;simp(disch:=omega) only[i64_in];rw[show((j+1:Yn):Yh)-1=(j:Yh) by omega];refine ih m d4 _ (by omega) CR ⟨hl.1.snoc (by show ss.length<3;omega) ?_,LZ hl.2 ⟨AHP nT ALu (λx hx=>(Ie x hx).1) (by omega),Ie⟩⟩ (by simp;omega) (LZ Q4 ALb);rw[Bh];rfl
structure ConfOk (c:Aj):Prop where
 oz:mJ c.1
 op:mK (c.1.length:Yh) c.2.1
 oc:mL (c.1.length:Yh) c.2.2.1
 os:AcB (c.1.length:Yh) (c.2.1.length:Yh) (c.2.2.1.length:Yh) c.2.2.2
theorem AHT{n:Yh}{d:Dice}{k:Aj->Dice->Ya β}(hd:Cf d)(hn:1<=n/\n<=3)(hk:∀c d',Cf d'->ConfOk c->(1<=c.1.length/\1<=c.2.1.length/\1<=c.2.2.2.length)->(∀s∈c.2.2.2,s.2.2.length<=3)->G (k c d')):G (fX n d k):=by
 unfold fX;rw[Ad];refine AHN hd λd1 zs ps cs BH hz IG hp Bp hc=>?_;refine Co BH ⟨by omega,by omega⟩ λx d2 h1 h2 BI=>?_;simp(disch:=omega) only[i64_in];unfold yM;rw[Ad];obtain⟨q,hq⟩:∃q:Yn,1+x=q:=⟨(1+x).toNat,by omega⟩;rw[hq];have oH:zs.length<=8:=by have:=hz.1.1;have e:zNames.length=2:=rfl;omega
 have AKX:cs.length<=8:=by have:=hc.1.1;have e:cNames.length=1:=rfl;omega
 refine AHS ⟨IG,oH⟩ Bp AKX (λd3 ss Cc hs Bx=>?_) q fuel d2 [] (BB (by omega)) BI ⟨Named.nil,λz hz=>Y7 hz Es⟩ (by simp;omega) (λz hz=>Y7 hz Es);have Gk:ConfOk (zs,ps,cs,ss):=⟨hz,hp,hc,hs⟩;exact hk _ _ Cc Gk ⟨IG,Bp.1,Bx.1⟩ Bx.2
end
end
end Go.Lift
namespace Go.Lift
open Go.RowKit Go.IntWalk
noncomputable section
variable[Sl]
set_option maxRecDepth 10000
abbrev Tok:=AN
def wd(s:Ye Yj):Tok:=(0,s,0)
def nu(t n:Yh):Tok:=(t,[],n)
def numb:Yn->Ye (Ye Tok)->Ye (Yh×Ye Tok)
 |_,[]=>[]
 |n,t::r=>((n:Yh)+1,t)::numb (n+1) r
theorem Ma:∀(n:Yn)(ls:Ye (Ye Tok)),(numb n ls).length=ls.length
 |_,[]=>rfl
 |n,t::r=>by simp[numb,Ma (n+1) r]
theorem AcC:∀(n:Yn)(a b:Ye (Ye Tok)),numb n (a++b)=numb n a++numb (n+a.length) b
 |_,[],_=>rfl
 |n,t::r,b=>by simp only[G0,numb,AcC (n+1) r b,B9];rw[show n+1+r.length=n+(r.length+1) by omega]
def Ov:Ye (Ye Yj):=[[109,111,110],[116,117,101],[119,101,100],[116,104,117],[102,114,105],[115,97,116],[115,117,110]]
def mM:Ye (Ye Yj):=[[106,97,110],[102,101,98],[109,97,114],[97,112,114],[109,97,121],[106,117,110],[106,117,108],[97,117,103],[115,101,112],[111,99,116],[110,111,118],[100,101,99]]
def mN:Ye (Ye Yj):=[[102,105,114,115,116],[115,101,99,111,110,100],[116,104,105,114,100],[102,111,117,114,116,104],[108,97,115,116]]
def untNs:Ye (Ye Yj):=[[104,111,117,114,115],[100,97,121,115],[119,101,101,107,115]]
def Xs:Ye (Ye Yj):=[[],[110,111,116],[111,110,108,121]]
def MZ:Ye (Ye Yj):=[[108,101,97,118,101],[111,118,101,114,114,105,100,101],[115,119,97,112]]
def at'(l:Ye (Ye Yj))(n:Yh):Ye Yj:=l.getD n.toNat []
section
variable{β:Type}
theorem H9(s:Ye Yj)(k:Tok->Ya β):FX s k=k (wd s):=by unfold FX;rw[Ad];rfl
theorem Xt(n:Yh)(k:Tok->Ya β):MQ n k=k (nu 1 n):=by unfold MQ;rw[Ad];rfl
theorem mO(n:Yh)(k:Tok->Ya β):NY n k=k (nu 2 n):=by unfold NY;rw[Ad];rfl
theorem ApJ(n:Yh)(k:Tok->Ya β):RP n k=k (nu 3 n):=by unfold RP;rw[Ad];rfl
theorem ApK(n:Yh)(k:Tok->Ya β):UW n k=k (nu 4 n):=by unfold UW;rw[Ad];rfl
theorem ApL(n:Yh)(k:Tok->Ya β):UX n k=k (nu 5 n):=by unfold UX;rw[Ad];rfl
theorem AcD{n:Yh}(h:0<=n/\n<7)(k:Tok->Ya β):RO n k=k (wd (at' Ov n)):=by unfold RO;rw[Ad];exact(AG (show 0<=n/\n<((7:Yn):Yh)from h)).trans (H9 _ _)
variable{w:Ye AF}{w2:Ye AV}{w3:Ye Bm}{w4:Ye BC}
theorem Kz(kw:Ye Yj)(toks:Ye Tok)(ls:Ye (Ye Tok))(h1:ls.length<=1000000)(h2:toks.length<=1000000)(k:Ye AF->Ye AV->Ye Bm->Ye BC->Ye (Yh×Ye Tok)->Ya β):DR kw toks w w2 w3 w4 (numb 0 ls) k=k w w2 w3 w4 (numb 0 (ls++[wd kw::toks])):=by
 unfold DR;rw[Ad];refine(H9 _ _).trans ?_;refine(Cx (show(1+toks.length)*32<=_ by omega)).trans ?_;refine((Aw (λb=>Yk b _ Yf) (KQ _)).trans (Cx (show((numb 0 ls).length+1)*32<=_ by rw[Ma];omega))).trans ?_;rw[AcC,Ma,i64_in ((ls.length:Yh)+1) (by omega),DZ];rfl
theorem AcE{i:Yh}(h:0<=i/\i<(w.length:Yh)){b:Ye (Yh×Ye Tok)}(k:Tok->Ye AF->Ye AV->Ye Bm->Ye BC->Ye (Yh×Ye Tok)->Ya β):PN i w w2 w3 w4 b k=k (wd (w.getD i.toNat ([],0,[])).1) w w2 w3 w4 b:=by
 unfold PN;rw[Ad];exact(AG h).trans (H9 _ _)
def whoB(w2:Ye AV)(i:Yh):Ye Yj:=if i<0 then Qn else(w2.getD i.toNat ([],0,[],0,0,Yi)).1
theorem AcF{i:Yh}(h:i<(w2.length:Yh)){b:Ye (Yh×Ye Tok)}(k:Tok->Ye AF->Ye AV->Ye Bm->Ye BC->Ye (Yh×Ye Tok)->Ya β):GH i w w2 w3 w4 b k=k (wd (whoB w2 i)) w w2 w3 w4 b:=by
 unfold GH whoB;rw[Ad];by_cases hi:i<0
 ·rw[Y1 hi]
  exact(Ag hi).trans (H9 _ _)
 ·rw[Yy hi]
  exact(Al hi).trans ((AG ⟨by omega,h⟩).trans (H9 _ _))
def stW(kw:Ye Yj)(x:Yh×Yh):Ye Tok:=
 [wd kw,wd (at' Ov (Yz x.1 86400)),nu 2 (Yv x.1 86400),wd (at' Ov (Yz (x.2-1) 86400)),nu 2 (x.2-Yz (x.2-1) 86400*86400)]
def PWin(x:Yh×Yh):Prop:=0<=x.1/\x.1<604800/\1<=x.2/\x.2<=604800
theorem SK{a:Yh}(h:0<=a/\a<604800):0<=Yz a 86400/\Yz a 86400<7:=by rw[F7 h.1];omega
theorem ApM(kw:Ye Yj)(l:Ye (Yh×Yh))(ls:Ye (Ye Tok))(h1:ls.length+l.length<=1000000)(hl:∀x∈l,PWin x)(k:Ye AF->Ye AV->Ye Bm->Ye BC->Ye (Yh×Ye Tok)->Ya β):PU kw l w w2 w3 w4 (numb 0 ls) k=k w w2 w3 w4 (numb 0 (ls++l.map (stW kw))):=by
 unfold PU;rw[Ad];unfold xD;rw[Ad,<-ApD (stW kw) l ls]
 refine Om (λi s=>s.length=ls.length+i) (λm i s=>V7 m (λAD BU CF CG C1=>k AD BU CF CG C1) kw l (l.length:Yh) i w w2 w3 w4 (numb 0 s)) (λs x=>s++[stW kw x]) (λs=>k w w2 w3 w4 (numb 0 s)) ((0:Yh),(0:Yh)) l ls fuel (BB (by omega)) rfl
  (λi s hi hs=>by rw[AQ,E9];omega) (λm i s hi hs=>?_) (λm s hs=>?_)
 ·have hx:=hl _ (Cn (d:=((0:Yh),(0:Yh))) hi)
  obtain⟨x1,x2,x3,x4⟩:=hx;generalize hq:l.getD i ((0:Yh),(0:Yh))=q at x1 x2 x3 x4;simp only[AjG,eP];refine(Ag (by omega)).trans ?_;refine(AG (by omega)).trans ?_;rw[Bh,hq];have d1:=SK ⟨x1,x2⟩;have d2:=SK (a:=q.2-1) ⟨by omega,by omega⟩;rw[i64_in (q.2-1) (by omega),i64_in (Yz (q.2-1) 86400) (by omega),i64_in (Yz q.1 86400) (by omega),i64_in (Yz (q.2-1) 86400*86400) (by omega),i64_in (q.2-Yz (q.2-1) 86400*86400) (by omega)];refine(AcD d1 _).trans ?_;refine(mO _ _).trans ?_;refine(AcD d2 _).trans ?_;refine(mO _ _).trans ?_;refine(Kz kw _ s (by omega) (by simp) _).trans ?_;rw[i64_in ((i:Yh)+1) (by omega)];rfl
 ·simp only[AjG,eP]
  exact Al (by omega)
end
end
end Go.Lift
namespace Go.Lift
open Go.RowKit Go.IntWalk
noncomputable section
variable[Sl]
set_option maxRecDepth 10000
theorem cz{b:Ys}{e x:Yh}(h:Yk b e x=0)(he:e≠0:=by decide):b=Yi/\x=0:=by
 cases b with
 |true=>exact Y7 h he
 |false=>exact⟨rfl,h⟩
theorem nt{b:Ys}(h:(!b)=Yi):b=Yp:=by simpa using h
theorem Qp{i n:Yh}(h:ixI i n=Yp):0<=i/\i<n:=by unfold ixI at h;simpa using h
theorem Qq{i a b:Yh}(h:inI i a b=Yp):a<=i/\i<=b:=by unfold inI at h;simpa using h
theorem AcG{i:Yh}(h:dayI i=Yp):0<=i/\i<98981:=by unfold dayI at h;simpa using h
theorem or2{a b:Ys}(h:(a||b)=Yi):a=Yi/\b=Yi:=by simpa using h
theorem df{p:Prop}[YK p](h:decide p=Yi):¬p:=L8 h
theorem dt{p:Prop}[YK p](h:decide p=Yp):p:=Bd h
theorem Xu{α σ:Type}{g:Yn->α->σ->Yh⊕σ}{P:α->Prop}(AO:∀j x s,g j x s≠.inl 0)(hP:∀j x s s',g j x s=.inr s'->P x):∀(xs:Ye α)(j:Yn)(s:σ),errV (walk g xs j s)=0->∀x∈xs,P x
 |[],_,_,_,x,hx=>Y7 hx Es
 |y::r,j,s,h,x,hx=>by
  unfold walk at h;cases hg:g j y s with
  |inl e=>rw[hg]at h;exact Y7 (hg.trans (Aw Sum.inl (show e=0 from h))) (AO j y s)
  |inr s'=>
   rw[hg]at h;rcases Bl.1 hx with e|hx
   ·rw[e];exact hP _ _ _ _ hg
   ·exact Xu AO hP r (j+1) s' h x hx
theorem Qr{α:Type}{e:Yh}(h:e≠0):(Sum.inl e:Yh⊕α)≠.inl 0:=λg=>h (Sum.inl.inj g)
theorem ApN{ws:Ye (Yh×Yh)}(h:Fl ws=0):ws.length<=14/\∀x∈ws,PWin x:=by
 unfold Fl at h;obtain⟨h1,h⟩:=cz h;refine⟨by have:=df h1;omega,Xu (g:=MY ws) (λj x s=>?_) (λj x s s' hg=>?_) ws 0 () h⟩
 ·unfold MY
  cases(Yd (x.1<0)||(Yd (x.2<=x.1)||Yd ((604800:Yh)<x.2)))with
  |true=>exact Qr (by decide)
  |false=>cases(Yd (0<(j:Yh))&&Yd (x.1<(ws.getD (j-1) (0,0)).2))with
   |true=>exact Qr (by decide)
   |false=>exact λg=>nomatch g
 ·unfold MY at hg
  cases hb:(Yd (x.1<0)||(Yd (x.2<=x.1)||Yd ((604800:Yh)<x.2)))with
  |true=>rw[hb]at hg;cases hg
  |false=>obtain⟨a,b⟩:=or2 hb;obtain⟨b,c⟩:=or2 b;have:=df a;have:=df b;have:=df c;exact⟨by omega,by omega,by omega,by omega⟩
theorem Ow{α:Type}{of:α->Ye Yj}{chk:α->Yh}{xs:Ye α}(h:G4 of chk xs=0):∀x∈xs,chk x=0/\CP (of x)=Yp:=by
 refine Xu (g:=FB of chk) (λj x s=>?_) (λj x s s' hg=>?_) xs 0 [] h
 ·unfold FB
  by_cases h1:Eg (of x) s=0
  ·rw[Ao h1]
   by_cases h2:chk x=0
   ·rw[Ao h2];exact λg=>nomatch g
   ·rw[Ar h2];exact Qr h2
  ·rw[Ar h1];exact Qr h1
 ·unfold FB at hg
  by_cases h1:Eg (of x) s=0
  ·rw[Ao h1]at hg
   by_cases h2:chk x=0
   ·refine⟨h2,?_⟩
    unfold Eg at h1;cases hn:CP (of x)with
    |true=>rfl
    |false=>rw[hn]at h1;cases h1
   ·rw[Ar h2]at hg;cases hg
  ·rw[Ar h1]at hg;cases hg
structure LayF (nz np nc:Yh) (l:Bz):Prop where
 z:0<=l.2.1/\l.2.1<nz
 d:1<=l.2.2.1.1/\l.2.2.1.1<98981
 s:0<=l.2.2.1.2/\l.2.2.1.2<=86399
 u:0<=l.2.2.2.1/\l.2.2.2.1<=2
 e:1<=l.2.2.2.2.1/\l.2.2.2.2.1<=400
 m:1<=l.2.2.2.2.2.1.length/\l.2.2.2.2.2.1.length<=12
 ms:∀x∈l.2.2.2.2.2.1,0<=x/\x<np
 w:l.2.2.2.2.2.2.1.length<=14/\∀x∈l.2.2.2.2.2.2.1,PWin x
 c:(l.2.2.2.2.2.2.2.2=0/\l.2.2.2.2.2.2.2.1=0)\/((1<=l.2.2.2.2.2.2.2.2/\l.2.2.2.2.2.2.2.2<=2)/\0<=l.2.2.2.2.2.2.2.1/\l.2.2.2.2.2.2.2.1<nc)
theorem AHU{nz np nc:Yh}{l:Bz}(h:FJ nz np nc l=0):LayF nz np nc l:=by
 unfold FJ at h;obtain⟨h1,h⟩:=cz h;unfold l2V at h;obtain⟨h2,h⟩:=cz h;obtain⟨h3,h⟩:=cz h;obtain⟨h4,h⟩:=cz h;obtain⟨h5,h⟩:=cz h;obtain⟨h6,h⟩:=cz h;obtain⟨h7,h⟩:=cz h;unfold l1V at h;obtain⟨h8,h⟩:=cz h;obtain⟨a1,a⟩:=or2 h2;obtain⟨a2,a⟩:=or2 a;obtain⟨a3,a⟩:=or2 a;obtain⟨a4,a5⟩:=or2 a;have b1:=df a1;have b2:=AcG (nt a2);have b3:=df h3;have b4:=df h4;have b7:=Qq (nt h7);refine⟨Qp (nt h1),by omega,Qq (nt a3),Qq (nt a4),Qq (nt a5),by omega,λx hx=>Qp (FG.1 (nt h5) x hx),ApN (dt (nt h6)),?_⟩;by_cases hm:l.2.2.2.2.2.2.2.2=0
 ·rw[Ao hm]at h
  cases hc:Yd (l.2.2.2.2.2.2.2.1=0)with
  |true=>exact .inl ⟨hm,dt hc⟩
  |false=>rw[hc]at h;cases h
 ·rw[Ar hm]at h8
  exact .inr ⟨by omega,Qp (nt (by simpa using h8))⟩
structure EdF (np:Yh) (x:Ed):Prop where
 k:0<=x.1/\x.1<=2
 a:(0<=x.2.1/\x.2.1<np)\/(x.1=1/\x.2.1=-1)
 b:x.1=2->0<=x.2.2.1/\x.2.2.1<np
 b0:x.1≠2->x.2.2.1=0
 ab:x.1=2->x.2.1≠x.2.2.1
 f:0<=x.2.2.2.1
 ft:x.2.2.2.1<x.2.2.2.2
 t:x.2.2.2.2<98981*86400
theorem ed_f{np:Yh}{x:Ed}(h:G3 np x=0)(hb:x.2.2.2.2<=9223372036854775807):EdF np x:=by
 unfold G3 at h;obtain⟨h1,h⟩:=cz h;unfold e4V at h;obtain⟨h2,h⟩:=cz h;unfold e3V at h;obtain⟨h3,h⟩:=cz h;unfold e2V at h;obtain⟨h4,h⟩:=cz h;unfold e1V at h;obtain⟨h5,h⟩:=cz h;obtain⟨h6,h⟩:=cz h;obtain⟨a1,a2⟩:=or2 h2;obtain⟨c1,c⟩:=or2 h5;obtain⟨c2,c3⟩:=or2 c;have d1:=df c1;have d2:=df c2;have d3:=df h6;have d4:=AcG (nt c3);rw[F7 (by omega),i64_in _ (by omega)]at d4;refine⟨Qq (nt h1),?_,λhk=>?_,λhk=>?_,λhk=>?_,by omega,by omega,by omega⟩
 ·cases hi:ixI x.2.1 np with
  |true=>exact .inl (Qp hi)
  |false=>
   rw[hi]at a1;have a2:(Yd (x.1=1)&&Yd (x.2.1=-1))=Yp:=by simpa using a1
   exact .inr (by simpa using a2)
 ·rw[Ao hk]at a2
  exact Qp (by simpa using a2)
 ·rw[Ar hk]at h3
  exact dt (by simpa using h3)
 ·rw[Ao hk]at h4
  exact df (by simpa using h4)
structure SchF (nz np nc:Yh) (s:BC):Prop where
 l:s.2.1.length<=6
 ls:∀l∈s.2.1,LayF nz np nc l/\CP l.1=Yp
 e:s.2.2.length<=48
 es:∀x∈s.2.2,G3 np x=0
theorem AcH{nz np nc:Yh}{s:BC}(h:I2 nz np nc s=0):SchF nz np nc s:=by
 unfold I2 at h;obtain⟨h1,h⟩:=cz h;obtain⟨h2,h⟩:=cz h;have b1:=df h1;have b2:=df h2;by_cases hn:G4 (·.1) (FJ nz np nc) s.2.1=0
 ·rw[Ao hn]at h
  refine⟨by omega,λl hl=>⟨AHU (Ow hn l hl).1,(Ow hn l hl).2⟩,by omega,?_⟩;refine Xu (g:=H7 np) (λj x s=>?_) (λj x s s' hg=>?_) _ 0 () h
  ·unfold H7
   by_cases h2:G3 np x=0
   ·rw[Ao h2];exact λg=>nomatch g
   ·rw[Ar h2];exact Qr h2
  ·unfold H7 at hg
   by_cases h2:G3 np x=0
   ·exact h2
   ·rw[Ar h2]at hg;cases hg
 ·rw[Ar hn]at h
  exact Y7 h hn
structure PerF (nz:Yh) (p:AV):Prop where
 z:0<=p.2.1/\p.2.1<nz
 q:p.2.2.1.length<=14/\∀x∈p.2.2.1,PWin x
 w:(0<=p.2.2.2.1/\p.2.2.2.1<=604800)/\Yv p.2.2.2.1 3600=0
 r:(0<=p.2.2.2.2.1/\p.2.2.2.2.1<=604800)/\Yv p.2.2.2.2.1 3600=0
theorem ApO{n:Yh}(h:Kt n=Yp):(0<=n/\n<=604800)/\Yv n 3600=0:=by
 unfold Kt at h;cases hi:inI n 0 604800 with
 |true=>rw[hi]at h;exact⟨Qq hi,dt (by simpa using h)⟩
 |false=>rw[hi]at h;cases h
theorem AHV{nz:Yh}{p:AV}(h:Hh nz p=0):PerF nz p:=by unfold Hh at h;obtain⟨h1,h⟩:=cz h;obtain⟨h2,h⟩:=cz h;obtain⟨h3,h⟩:=cz h;obtain⟨h4,h⟩:=cz h;exact⟨Qp (nt h1),ApN (dt (nt h2)),ApO (nt h3),ApO (nt h4)⟩
structure CalF (nz:Yh) (x:Bm):Prop where
 z:0<=x.2.1/\x.2.1<nz
 l:x.2.2.length<=64
 d:∀d∈x.2.2,0<=d/\d<98981
theorem AHW{nz:Yh}{x:Bm}(h:calV nz x=0):CalF nz x:=by unfold calV at h;obtain⟨h1,h⟩:=cz h;obtain⟨h2,h⟩:=cz h;obtain⟨h3,h⟩:=cz h;have:=df h2;exact⟨Qp (nt h1),by omega,λd hd=>AcG (FG.1 (nt h3) d hd)⟩
end
end Go.Lift
namespace Go.Lift
open Go.RowKit Go.IntWalk
noncomputable section
variable[Sl]
set_option maxRecDepth 10000
def SL:Ye Yj:=[122,111,110,101]
def mP:Ye Yj:=[114,117,108,101]
def ES:Ye Yj:=[112,101,114,115,111,110]
def K6:Ye Yj:=[113,117,105,101,116]
def calW:Ye Yj:=[99,97,108,101,110,100,97,114]
def FZ:Ye Yj:=[100,97,121,115]
def Le:Ye Yj:=[119,101,101,107]
def Mb:Ye Yj:=[114,101,115,116]
def Mc:Ye Yj:=[99,111,110,115,101,110,116]
theorem AHX{α γ:Type}(f:α->Ye γ)(xs:Ye α)(s:Ye γ):xs.foldl (λl i=>l++f i) s=s++xs.flatMap f:=by
 induction xs generalizing s with
 |nil=>simp
 |cons x xs ih=>simp[ih,C4]
theorem Gj{β α γ:Type}(F:Yn->Yh->Ye γ->Ya β)(f:α->Ye γ)(K:Ye γ->Ya β)(d:α)(xs:Ye α)(s:Ye γ)(B:Yn)(hx:xs.length<=1000)(hf:∀x∈xs,(f x).length<=B)(h1:∀(m i:Yn) t,i<xs.length->t.length<=s.length+i*B->F (m+1) (i:Yh) t=F m ((i:Yh)+1) (t++f (xs.getD i d)))(h2:∀(m:Yn) t,F (m+1) (xs.length:Yh) t=K t):F fuel 0 s=K (s++xs.flatMap f):=by
 rw[<-AHX f xs s];refine Om (λi t=>t.length<=s.length+i*B) F (λt x=>t++f x) K d xs s fuel (BB (by omega)) (by omega) (λi t hi ht=>?_) h1 λm t _=>h2 m t;have:=hf _ (Cn (d:=d) hi);rw[AQ,LC];omega
def Xv(r:Cj):Ye Tok:=
 [wd mP,nu 1 r.1,nu 1 r.2.1,wd (at' mM (r.2.2.1-1)),wd (at' mN (r.2.2.2.1-1)),wd (at' Ov r.2.2.2.2.1),nu 2 r.2.2.2.2.2.1,nu 4 r.2.2.2.2.2.2]
def HV(z:AF):Ye (Ye Tok):=[wd SL,wd z.1,nu 4 z.2.1]::z.2.2.map Xv
section
variable{β:Type}{w:Ye AF}{w2:Ye AV}{w3:Ye Bm}{w4:Ye BC}
theorem Md{α γ:Type}(f:α->γ)(xs:Ye α):xs.flatMap (λx=>[f x])=xs.map f:=by
 induction xs with
 |nil=>rfl
 |cons x xs ih=>simp[ih]
theorem AHY{z:AF}(hz:ZoneOk z)(ls:Ye (Ye Tok))(h1:ls.length<=900000)(k:Ye AF->Ye AV->Ye Bm->Ye BC->Ye (Yh×Ye Tok)->Ya β):gC z w w2 w3 w4 (numb 0 ls) k=k w w2 w3 w4 (numb 0 (ls++HV z)):=by
 have hl:=hz.l;unfold gC;rw[Ad];refine(H9 _ _).trans ?_;refine(ApK _ _).trans ?_;refine(Kz SL _ ls (by omega) (by simp) _).trans ?_;unfold yQ;rw[Ad];refine(Gj (λm i s=>VT m (λAD BU CF CG C1=>k AD BU CF CG C1) z.2.2 (z.2.2.length:Yh) i w w2 w3 w4 (numb 0 s) mM mN) (λr=>[Xv r]) (λs=>k w w2 w3 w4 (numb 0 s)) (0,0,0,0,0,0,0) z.2.2 _ 1 (by omega) (λ_ _=>by simp) (λm i s hi hs=>?_) λm s=>?_).trans ?_
 ·have hr:=hz.r _ (Cn (d:=((0,0,0,0,0,0,0):Cj)) hi)
  simp only[Al0,gB];refine(Ag (by omega)).trans ?_;refine(AG (by omega)).trans ?_;rw[Bh];generalize z.2.2.getD i ((0,0,0,0,0,0,0):Cj)=r at hr;have m1:=hr.m;have m2:=hr.w;have m3:=hr.d;rw[i64_in (r.2.2.1-1) (by omega),i64_in (r.2.2.2.1-1) (by omega)];refine(Xt _ _).trans ?_;refine(Xt _ _).trans ?_;refine(AG (show 0<=r.2.2.1-1/\r.2.2.1-1<((12:Yn):Yh) by omega)).trans ?_;refine(H9 _ _).trans ?_;refine(AG (show 0<=r.2.2.2.1-1/\r.2.2.2.1-1<((5:Yn):Yh) by omega)).trans ?_;refine(H9 _ _).trans ?_;refine(AcD (by omega) _).trans ?_;refine(mO _ _).trans ?_;refine(ApK _ _).trans ?_;simp only[AQ,E9]at hs;refine(Kz mP _ s (by omega) (by simp) _).trans ?_;rw[i64_in ((i:Yh)+1) (by omega)];rfl
 ·simp only[Al0,gB]
  exact Al (by omega)
 ·show k w w2 w3 w4 (numb 0 (ls++[[wd SL,wd z.1,nu 4 z.2.1]]++z.2.2.flatMap λr=>[Xv r]))=_
  rw[Md,C4];rfl
def mQ(p:AV):Ye Tok:=if p.2.2.2.1=0 then []else [wd Le,nu 1 (Yz p.2.2.2.1 3600)]
def SM(p:AV):Ye Tok:=if p.2.2.2.2.1=0 then []else [wd Mb,nu 1 (Yz p.2.2.2.2.1 3600)]
def Ox(p:AV):Ye Tok:=if p.2.2.2.2.2 then [wd Mc]else []
def Oy(w:Ye AF)(i:Yh):Ye Yj:=(w.getD i.toNat ([],0,[])).1
def mR(w:Ye AF)(p:AV):Ye Tok:=wd ES::([wd p.1,wd (Oy w p.2.1)]++mQ p++SM p++Ox p)
def HW(w:Ye AF)(p:AV):Ye (Ye Tok):=mR w p::p.2.2.1.map (stW K6)
theorem ApP{p:AV}{nz:Yh}(hp:PerF nz p)(toks:Ye Tok)(ht:toks.length<=20)(ls:Ye (Ye Tok))(h1:ls.length<=900000)(k:Ye AF->Ye AV->Ye Bm->Ye BC->Ye (Yh×Ye Tok)->Ya β):(DR ES toks w w2 w3 w4 (numb 0 ls) λa b c d e=>PU K6 p.2.2.1 a b c d e λa b c d e=>k a b c d e)=k w w2 w3 w4 (numb 0 (ls++(wd ES::toks)::p.2.2.1.map (stW K6))):=by
 have hq:=hp.q;refine(Kz ES _ ls (by omega) (by omega) _).trans ?_;refine(ApM K6 _ _ (by simp;omega) hq.2 _).trans ?_;rw[C4];rfl
theorem ApQ{p:AV}{nz:Yh}(hp:PerF nz p)(toks:Ye Tok)(ht:toks.length<=10)(ls:Ye (Ye Tok))(h1:ls.length<=900000)(k:Ye AF->Ye AV->Ye Bm->Ye BC->Ye (Yh×Ye Tok)->Ya β):VU k w w2 w3 w4 (numb 0 ls) p toks=k w w2 w3 w4 (numb 0 (ls++(wd ES::(toks++Ox p))::p.2.2.1.map (stW K6))):=by
 unfold VU;rw[Ad];unfold yR Ox;cases p.2.2.2.2.2 with
 |true=>refine(H9 _ _).trans ?_;refine(Cx (show(toks.length+1)*32<=_ by omega)).trans ?_;exact ApP hp _ (by simp;omega) ls h1 k
 |false=>refine(ApP hp _ (by omega) ls h1 k).trans ?_;simp
theorem ApR{p:AV}{nz:Yh}(hp:PerF nz p)(toks:Ye Tok)(ht:toks.length<=8)(ls:Ye (Ye Tok))(h1:ls.length<=900000)(k:Ye AF->Ye AV->Ye Bm->Ye BC->Ye (Yh×Ye Tok)->Ya β):VV k w w2 w3 w4 (numb 0 ls) p toks=k w w2 w3 w4 (numb 0 (ls++(wd ES::(toks++SM p++Ox p))::p.2.2.1.map (stW K6))):=by
 have hr:=hp.r;unfold VV;rw[Ad];unfold yS SM;by_cases h:p.2.2.2.2.1=0
 ·rw[Y1 h,In]
  refine(CX h).trans ?_;exact ApQ hp _ (by omega) ls h1 _
 ·rw[Yy h]
  refine(EF h).trans ?_;rw[i64_in _ (by rw[F7 (by omega)];omega)];refine(H9 _ _).trans ?_;refine(Xt _ _).trans ?_;refine(Cx (show(toks.length+2)*32<=_ by omega)).trans ?_;exact ApQ hp _ (by simp;omega) ls h1 _
theorem AHZ{p:AV}(hp:PerF (w.length:Yh) p)(ls:Ye (Ye Tok))(h1:ls.length<=900000)(k:Ye AF->Ye AV->Ye Bm->Ye BC->Ye (Yh×Ye Tok)->Ya β):gD p w w2 w3 w4 (numb 0 ls) k=k w w2 w3 w4 (numb 0 (ls++HW w p)):=by
 have hr:=hp.w;unfold gD;rw[Ad];unfold HW mR mQ;refine(H9 _ _).trans ?_;refine(AcE hp.z _).trans ?_;by_cases h:p.2.2.2.1=0
 ·rw[Y1 h,In]
  refine(CX h).trans ?_;exact ApR hp _ (by simp) ls h1 _
 ·rw[Yy h]
  refine(EF h).trans ?_;rw[i64_in _ (by rw[F7 (by omega)];omega)];refine(H9 _ _).trans ?_;refine(Xt _ _).trans ?_;refine(Cx (show(2+2)*32<=_ by omega)).trans ?_;exact ApR hp _ (by simp) ls h1 _
def ET(l:Ye Yh):Ye (Ye Tok):=if l=[]then []else if l.length<=32 then [wd FZ::l.map (nu 3)]else [wd FZ::(l.take 32).map (nu 3),wd FZ::(l.drop 32).map (nu 3)]
def I3(w:Ye AF)(c:Bm):Ye (Ye Tok):=[wd calW,wd c.1,wd (Oy w c.2.1)]::ET c.2.2
theorem ApS{l:Ye Yh}(hl:l.length<=1000)(k:Ye Tok->Ya β):Sw l k=k (l.map (nu 3)):=by
 unfold Sw;rw[Ad];unfold AaC;rw[Ad,<-Md];refine Gj (λm i s=>Wx m (λout=>k out) l (l.length:Yh) i s) (λx=>[nu 3 x]) (λs=>k s) (0:Yh) l [] 1 hl (λ_ _=>by simp) (λm i s hi hs=>?_) λm s=>?_
 ·simp only[Amt,iY]
  simp only[Ft]at hs;refine(Ag (by omega)).trans ?_;refine(AG (by omega)).trans ?_;rw[Bh];refine(ApJ _ _).trans ?_;refine(Cx (show(s.length+1)*32<=_ by omega)).trans ?_;rw[i64_in ((i:Yh)+1) (by omega)]
 ·simp only[Amt,iY]
  exact Al (by omega)
theorem AI0{c:Bm}(hz:0<=c.2.1/\c.2.1<(w.length:Yh))(hl:c.2.2.length<=64)(ls:Ye (Ye Tok))(h1:ls.length<=900000)(k:Ye AF->Ye AV->Ye Bm->Ye BC->Ye (Yh×Ye Tok)->Ya β):iZ c w w2 w3 w4 (numb 0 ls) k=k w w2 w3 w4 (numb 0 (ls++I3 w c)):=by
 unfold iZ;rw[Ad];unfold I3 ET;refine(H9 _ _).trans ?_;refine(AcE hz _).trans ?_;refine(Kz calW _ ls (by omega) (by simp) _).trans ?_;refine(Ag (show c.2.2.length<=140737488355328 by omega)).trans ?_;by_cases h:c.2.2=[]
 ·rw[Y1 h]
  exact Al (by rw[h];simp)
 ·rw[Yy h]
  have h0:0<c.2.2.length:=Pa.2 h;refine(Ag h0).trans ?_;rw[List.drop_zero];have nN:(Y5 32 c.2.2).length<=32:=by simp;omega
  refine(ApS (by omega) _).trans ?_;refine(Kz FZ _ _ (by simp;omega) (by simp;omega) _).trans ?_;refine(Ag (show c.2.2.length<=140737488355328 by omega)).trans ?_;by_cases h2:c.2.2.length<=32
  ·rw[Y1 h2]
   refine(Al (by omega)).trans ?_;rw[GY h2,C4];rfl
  ·rw[Yy h2]
   refine(Ag (by omega)).trans ?_;have Lp:(Y4 32 c.2.2).length<=32:=by simp;omega
   have ht:Y5 32 (Y4 32 c.2.2)=Y4 32 c.2.2:=GY Lp;rw[ht];refine(ApS (by omega) _).trans ?_;refine(Kz FZ _ _ (by simp;omega) (by simp;omega) _).trans ?_;refine(Ag (show c.2.2.length<=140737488355328 by omega)).trans ?_;refine(Al (by omega)).trans ?_;rw[C4,C4];rfl
end
end
end Go.Lift
namespace Go.Lift
open Go.RowKit Go.IntWalk
noncomputable section
variable[Sl]
set_option maxRecDepth 10000
def Xw:Ye Yj:=[108,97,121,101,114]
def memW:Ye Yj:=[109,101,109,98,101,114]
def onW:Ye Yj:=[111,110]
def schW:Ye Yj:=[115,99,104,101,100,117,108,101]
def calN(w3:Ye Bm)(i:Yh):Ye Yj:=(w3.getD i.toNat ([],0,[])).1
def Qs(w3:Ye Bm)(l:Bz):Ye (Ye Tok):=if l.2.2.2.2.2.2.2.2=0 then []else [[wd (at' Xs l.2.2.2.2.2.2.2.2),wd (calN w3 l.2.2.2.2.2.2.2.1)]]
def AcI(w:Ye AF)(l:Bz):Ye Tok:=[wd Xw,wd l.1,wd (Oy w l.2.1),nu 3 l.2.2.1.1,nu 2 l.2.2.1.2,nu 1 l.2.2.2.2.1,wd (at' untNs l.2.2.2.1)]
def Xx(w2:Ye AV)(l:Bz):Ye Tok:=wd memW::l.2.2.2.2.2.1.map λm=>wd (whoB w2 m)
def I4(w:Ye AF)(w2:Ye AV)(w3:Ye Bm)(l:Bz):Ye (Ye Tok):=
 AcI w l::Xx w2 l::(l.2.2.2.2.2.2.1.map (stW onW)++Qs w3 l)
abbrev WK(β:Type):=Ye AF->Ye AV->Ye Bm->Ye BC->Ye (Yh×Ye Tok)->Ya β
def mch{β:Type}(ms:Ye Yh)(F:Ye Tok->WK β):Yn->Yh->Ye Tok->WK β
 |0,_,_=>λ_ _ _ _ _=>Yf
 |n+1,i,acc=>λa b c d e=>
  Yk (Yd (i<(ms.length:Yh)))
   (Yk (Yd (0<=i)&&Yd (i<(ms.length:Yh)))
    (GH (ms.getD i.toNat 0) a b c d e λr a b c d e=>
     Yk (Yd ((acc.length+[r].length)*32<=AR)) (mch ms F n (Yc.wrap (i+1)) (acc++[r]) a b c d e) Yf) Yf)
   (F acc a b c d e)
section
variable{β:Type}{w:Ye AF}{w2:Ye AV}{w3:Ye Bm}{w4:Ye BC}
theorem ApT{ms:Ye Yh}(hm:∀x∈ms,x<(w2.length:Yh))(hl:ms.length<=100)(F:Ye Tok->WK β)(b:Ye (Yh×Ye Tok)):∀(n i:Yn)(acc:Ye Tok),i<=ms.length->ms.length<i+n->acc.length<=i->mch ms F n (i:Yh) acc w w2 w3 w4 b=F (acc++(ms.drop i).map λm=>wd (whoB w2 m)) w w2 w3 w4 b
 |0,i,acc,h1,h2,_=>Y7 h2 (by omega)
 |n+1,i,acc,h1,h2,h3=>by
  unfold mch;by_cases h:i=ms.length
  ·refine(Al (by omega)).trans ?_
   rw[h,List.drop_length];simp
  ·have hi:i<ms.length:=by omega
   refine(Ag (by omega)).trans ?_;refine(AG (by omega)).trans ?_;rw[Bh];refine(AcF (hm _ (Cn hi)) _).trans ?_;refine(Cx (show(acc.length+1)*32<=_ by omega)).trans ?_;rw[i64_in _ (by omega)];refine(ApT hm hl F b n (i+1) _ (by omega) (by omega) (by simp;omega)).trans ?_
   have e:ms.drop i=ms.getD i 0::ms.drop (i+1):=by rw[JW hi,ZO,Ff hi];rfl
   rw[e,C4];rfl
theorem AI1(l:Bz)(k:WK β)(b:Ye (Yh×Ye Tok)):Al5 l w w2 w3 w4 b k=FX l.1 λCi=>PN l.2.1 w w2 w3 w4 b λrzone a b c d e=>RP l.2.2.1.1 λrdate=>NY l.2.2.1.2 λD1=>MQ l.2.2.2.2.1 λD3=>Yk (Yd (0<=l.2.2.2.1)&&Yd (l.2.2.2.1<(untNs.length:Yh))) (FX (untNs.getD l.2.2.2.1.toNat []) λFQ=>DR Xw [Ci,rzone,rdate,D1,D3,FQ] a b c d e λa b c d e=>mch l.2.2.2.2.2.1 (λacc a b c d e=>DR memW acc a b c d e λa b c d e=>H5 (λa b c d e=>k a b c d e) a b c d e l) 13 0 [] a b c d e) Yf:=by kernel_rfl
theorem AI2{l:Bz}{nz np:Yh}(hl:LayF nz np (w3.length:Yh) l)(ls:Ye (Ye Tok))(h1:ls.length<=900000)(k:WK β):H5 k w w2 w3 w4 (numb 0 ls) l=k w w2 w3 w4 (numb 0 (ls++(l.2.2.2.2.2.2.1.map (stW onW)++Qs w3 l))):=by
 have hw:=hl.w;unfold H5;rw[Ad];unfold yT Qs;refine(ApM onW _ ls (by omega) hw.2 _).trans ?_;by_cases h:l.2.2.2.2.2.2.2.2=0
 ·rw[Y1 h,In]
  exact CX h
 ·rw[Yy h]
  have hc:=hl.c
  have hc:(1<=l.2.2.2.2.2.2.2.2/\l.2.2.2.2.2.2.2.2<=2)/\0<=l.2.2.2.2.2.2.2.1/\l.2.2.2.2.2.2.2.1<(w3.length:Yh):=by
   rcases hc with hc|hc
   ·exact Y7 hc.1 h
   ·exact hc
  refine(EF h).trans ?_;refine(AG (show 0<=l.2.2.2.2.2.2.2.2/\l.2.2.2.2.2.2.2.2<((3:Yn):Yh) by omega)).trans ?_;refine(AG hc.2).trans ?_;refine(H9 _ _).trans ?_;refine(Kz _ _ _ (by simp;omega) (by simp) _).trans ?_;rw[C4];rfl
theorem AI3{l:Bz}(hl:LayF (w.length:Yh) (w2.length:Yh) (w3.length:Yh) l)(ls:Ye (Ye Tok))(h1:ls.length<=900000-5)(k:WK β):gF l w w2 w3 w4 (numb 0 ls) k=k w w2 w3 w4 (numb 0 (ls++I4 w w2 w3 l)):=by
 have hm:=hl.m;unfold gF;rw[Ad,AI1];refine(H9 _ _).trans ?_;refine(AcE hl.z _).trans ?_;refine(ApJ _ _).trans ?_;refine(mO _ _).trans ?_;refine(Xt _ _).trans ?_;have hu:=hl.u;refine(AG (show 0<=l.2.2.2.1/\l.2.2.2.1<((3:Yn):Yh) by omega)).trans ?_;refine(H9 _ _).trans ?_;refine(Kz Xw _ ls (by omega) (by simp) _).trans ?_;refine(ApT (λx hx=>(hl.ms x hx).2) (by omega) _ _ 13 0 [] (by omega) (by omega) (by simp)).trans ?_;refine(Kz memW _ _ (by simp;omega) (by simp;omega) _).trans ?_;refine(AI2 hl _ (by simp;omega) _).trans ?_;rw[C4,C4];rfl
def mS(w2:Ye AV)(x:Ed):Ye Tok:=if x.1=2 then [wd (whoB w2 x.2.1),wd (whoB w2 x.2.2.1)]else [wd (whoB w2 x.2.1)]
def Me(w2:Ye AV)(x:Ed):Ye Tok:=wd (at' MZ x.1)::(mS w2 x++[nu 5 x.2.2.2.1,nu 5 x.2.2.2.2])
theorem ApU{x:Ed}{np:Yh}(hx:EdF np x)(toks:Ye Tok)(ht:toks.length<=10)(ls:Ye (Ye Tok))(h1:ls.length<=900000)(k:WK β):Vw k w w2 w3 w4 (numb 0 ls) x toks=k w w2 w3 w4 (numb 0 (ls++[wd (at' MZ x.1)::(toks++[nu 5 x.2.2.2.1,nu 5 x.2.2.2.2])])):=by
 have hk:=hx.k;unfold Vw;rw[Ad];unfold wP;refine(AG (show 0<=x.1/\x.1<((3:Yn):Yh) by omega)).trans ?_;refine(ApL _ _).trans ?_;refine(ApL _ _).trans ?_;refine(Cx (show(toks.length+2)*32<=_ by omega)).trans ?_;exact Kz _ _ ls (by omega) (by simp;omega) _
theorem AI4{x:Ed}(hx:EdF (w2.length:Yh) x)(ls:Ye (Ye Tok))(h1:ls.length<=900000)(k:WK β):eD x w w2 w3 w4 (numb 0 ls) k=k w w2 w3 w4 (numb 0 (ls++[Me w2 x])):=by
 have ha:=hx.a;unfold eD;rw[Ad];unfold Me mS;refine(AcF (by omega) _).trans ?_;by_cases h:x.1=2
 ·rw[Y1 h]
  refine(Ag h).trans ?_;refine(AcF (hx.b h).2 _).trans ?_;refine(Cx (show(1+1)*32<=_ by omega)).trans ?_;exact ApU hx _ (by simp) ls h1 _
 ·rw[Yy h]
  refine(Al h).trans ?_;exact ApU hx _ (by simp) ls h1 _
end
end
end Go.Lift
namespace Go.Lift
open Go.RowKit Go.IntWalk
noncomputable section
set_option maxRecDepth 10000
theorem SN[S:Sl]{β:Type}(k:Yh->Ya β):Ob k=k 98980:=by rcases S with⟨_|_⟩<;>kernel_rfl
theorem AI5{s:Ye Yj}(h:CP s=Yp):0<s.length/\s.length<=24/\Ku ((s.getD 0 0).toNat:Yh)=Yp/\∀c∈s,Jc c=Yp:=by unfold CP at h;simp only[Dk,Re,decide_eq_false_iff_not]at h;obtain⟨h1,h2,h3,h4⟩:=h;exact⟨Pa.2 h1,by omega,h3,λc hc=>FG.1 h4 c hc⟩
variable[Sl]
section
variable{β:Type}
theorem f_in(n lo hi:Yh)(k:Ys->Ya β):FY n lo hi k=k (inI n lo hi):=by unfold FY;rw[Ad];exact c_kb k _ _
theorem Mf(n lo hi:Yh)(k:Ys->Ya β):JA n lo hi k=k (inI n lo hi):=by unfold JA;rw[Ad];exact c_kb k _ _
theorem ApV(n:Yh)(k:Ys->Ya β):PQ n k=k (Kt n):=by unfold PQ;rw[Ad];refine(f_in _ _ _ _).trans ?_;exact c_kb k _ _
theorem ApW(b:Yh)(k:Ys->Ya β):PS b k=k (Oo b):=by unfold PS;rw[Ad];exact c_kb k _ _
end
end
end Go.Lift
namespace Go.Lift
open Go.RowKit Go.IntWalk
noncomputable section
variable[Sl]
set_option maxRecDepth 10000
section
variable{β:Type}
theorem ApX(l:Ye (Yh×Yh))(k:Yh->Ya β):RT l k=k (Fl l):=by
 unfold RT;rw[Ad];unfold Fl;by_cases h:(14:Yh)<(l.length:Yh)
 ·refine(Ag h).trans ?_
  rw[Ao h];rfl
 ·refine(Al h).trans ?_
  rw[Ar h];unfold uY;rw[Ad];refine(JC (λm i(_:Unit)=>Vf m (λt2=>k t2) (λ_=>k 0) l i) (MY l) (λe=>k e) (λ_=>k 0) (0,0) l () fuel (BB (by omega)) (λm i _ hi=>?_) (λm _=>?_)).trans (Jd k _)
  ·have fin:∀g:Ya β,Yk (Yd (0<=(i:Yh))&&Yd ((i:Yh)<(l.length:Yh))) g Yf=g:=λg=>AG (by omega)
   simp only[Aie,dE,Bh,fin];refine(Ag (by omega)).trans ?_;rw[i64_in ((i:Yh)+1) (by omega)];unfold MY;by_cases h1:(l.getD i (0,0)).1<0
   ·rw[Ao h1];rfl
   ·rw[Ar h1]
    by_cases h2:(l.getD i (0,0)).2<=(l.getD i (0,0)).1
    ·rw[Ao h2];rfl
    ·rw[Ar h2]
     by_cases h3:(604800:Yh)<(l.getD i (0,0)).2
     ·rw[Ao h3];rfl
     ·rw[Ar h3]
      by_cases h4:(0:Yh)<(i:Yh)
      ·rw[Ao h4,i64_in ((i:Yh)-1) (by omega)]
       refine(AG (show 0<=(i:Yh)-1/\(i:Yh)-1<(l.length:Yh) by omega)).trans ?_;rw[show Yl ((i:Yh)-1)=i-1 by omega];cases Yd ((l.getD i (0,0)).1<(l.getD (i-1) (0,0)).2)<;>rfl
      ·rw[Ar h4];rfl
  ·simp only[Aie,dE]
   exact Al (by omega)
end
end
end Go.Lift
namespace Go.Lift
open Go.RowKit Go.IntWalk
noncomputable section
variable[Sl]
set_option maxRecDepth 10000
section
variable{β:Type}
theorem AI6{y:Yh}(hy:0<=y)(k:Ys->Ya β):Vn y k=k (Yd (AH y)):=by
 have e1:Yv y 4=y%4:=EO hy;have e2:Yv y 100=y%100:=EO hy;have e3:Yv y 400=y%400:=EO hy;unfold Vn;rw[Ad];rw[e1,e2,e3];by_cases h1:y%4=0
 ·refine(Ag h1).trans ?_
  by_cases h2:y%100=0
  ·refine(CX h2).trans ?_
   exact k_eq (Rf.2 ⟨λh=>⟨h1,.inr h⟩,λh=>by rcases h.2 with h|h;exact Y7 h2 h;exact h⟩)
  ·refine(EF h2).trans ?_
   exact k_eq (Ao (p:=AH y) ⟨h1,.inl h2⟩).symm
 ·refine(Al h1).trans ?_
  exact k_eq (Ar (p:=AH y) λh=>h1 h.1).symm
end
theorem AI7[S:Sl]{β:Type}(y:Int)(k:Int->Option β):GI y 2 k=Vn y λr=>cond r (k 29) (k 28):=by rcases S with⟨_|_⟩<;>kernel_rfl
theorem AI8[S:Sl]{β:Type}(y:Yh)(k:Yh->Ya β):GI y 1 k=k 31/\GI y 3 k=k 31/\GI y 4 k=k 30/\GI y 5 k=k 31/\GI y 6 k=k 30/\GI y 7 k=k 31/\GI y 8 k=k 31/\GI y 9 k=k 30/\GI y 10 k=k 31/\GI y 11 k=k 30/\GI y 12 k=k 31:=by rcases S with⟨_|_⟩<;>refine⟨?_,?_,?_,?_,?_,?_,?_,?_,?_,?_,?_⟩<;>kernel_rfl
section
variable{β:Type}
theorem Oz{y m:Yh}(hy:0<=y)(hm:1<=m/\m<=12)(k:Yh->Ya β):GI y m k=k (BZ (AH y) m):=by
 obtain⟨d1,d3,d4,d5,d6,d7,d8,d9,d10,d11,d12⟩:=AI8 y k;have hm:m=1\/m=2\/m=3\/m=4\/m=5\/m=6\/m=7\/m=8\/m=9\/m=10\/m=11\/m=12:=by omega
 rcases hm with rfl|rfl|rfl|rfl|rfl|rfl|rfl|rfl|rfl|rfl|rfl|rfl
 ·exact d1
 ·refine(AI7 y k).trans ((AI6 hy _).trans ?_)
  by_cases h:AH y
  ·rw[Ao h]
   refine k_eq (x:=(29:Yh)) (y:=BZ (AH y) 2) ?_;unfold BZ;simp[h]
  ·rw[Ar h]
   refine k_eq (x:=(28:Yh)) (y:=BZ (AH y) 2) ?_;unfold BZ;simp[h]
 ·exact d3
 ·exact d4
 ·exact d5
 ·exact d6
 ·exact d7
 ·exact d8
 ·exact d9
 ·exact d10
 ·exact d11
 ·exact d12
theorem O0{y:Yh}(hy:1970<=y/\y<=2241)(k:Yh->Ya β):MS y k=k (cntN y):=by
 unfold MS;rw[Ad];simp only
 rw[i64_in (y-1970) (by omega),i64_in ((y-1970)*365) (by omega),i64_in (y-1969) (by omega),i64_in (y-1901) (by omega),i64_in (y-1601) (by omega),
  F7 (by omega:0<=y-1969),F7 (by omega:0<=y-1901),F7 (by omega:0<=y-1601)]
 rw[i64_in ((y-1969) / 4) (by omega),i64_in ((y-1901) / 100) (by omega),i64_in ((y-1601) / 400) (by omega)];rw[i64_in ((y-1970)*365+(y-1969) / 4) (by omega),i64_in ((y-1970)*365+(y-1969) / 4-(y-1901) / 100) (by omega),i64_in _ (by omega)];exact k_eq (by unfold cntN;omega)
theorem ApY{y:Yh}(hy:0<=y)(M d3:Yh):∀(j f n:Yn)(s:Yh),(n:Yh)+1+j=M->M<=12->j<f->0<=s+1000->s+31*(j:Yh)<=1000000->∀{β:Type}(k1:zH β),We f k1 s ((n:Yh)+1) (y,(M,d3))=k1 (s+(sumM (AH y) (n+j)-sumM (AH y) n)) (y,(M,d3)):=by
 intro j
 induction j with
 |zero=>intro f n s hn hM hf h0 h1 β k1;obtain⟨f,rfl⟩:∃f',f=f'+1:=⟨f-1,by omega⟩;simp only[Alx,gR];refine(Al (by omega)).trans ?_;rw[show s+(sumM (AH y) (n+0)-sumM (AH y) n)=s by simp]
 |succ j ih=>intro f n s hn hM hf h0 h1 β k1;obtain⟨f,rfl⟩:∃f',f=f'+1:=⟨f-1,by omega⟩;have hd:=On (AH y) ((n:Yh)+1);simp only[Alx,gR];refine(Ag (by omega)).trans ?_;refine(Oz hy (by omega) _).trans ?_;rw[i64_in (s+BZ (AH y) ((n:Yh)+1)) (by omega),i64_in ((n:Yh)+1+1) (by omega)];have:=ih f (n+1) (s+BZ (AH y) ((n:Yh)+1)) (by omega) hM (by omega) (by omega) (by omega) k1;rw[show((n+1:Yn):Yh)=(n:Yh)+1 by omega]at this;refine this.trans ?_;have hs:sumM (AH y) (n+1)=sumM (AH y) n+BZ (AH y) ((n:Yh)+1):=rfl;rw[show n+1+j=n+(j+1) by omega,show s+BZ (AH y) ((n:Yh)+1)+(sumM (AH y) (n+(j+1))-sumM (AH y) (n+1))=s+(sumM (AH y) (n+(j+1))-sumM (AH y) n) by omega]
theorem AI9{y m:Yh}(hy:1970<=y/\y<=2240)(hm:1<=m/\m<=12)(k:Yh->Yh->Ya β):Qb (y,(m,1)) k=k (Cv y m) 0:=by
 have hl:=Xo (AH y) hm;have hb:=Ld (AH y) (m-1).toNat;have KH:sumM (AH y) 0=0:=rfl;have h0:0<=cntN y/\cntN y<=99000:=by unfold cntN;omega
 unfold Qb;rw[Ad];unfold fN;rw[Ad];refine(Ag hy.1).trans ?_;refine(Ag hy.2).trans ?_;refine(Ag hm.1).trans ?_;refine(Ag hm.2).trans ?_;refine(Ag (by show(1:Yh)<=1;omega)).trans ?_;refine(Oz (by show 0<=y;omega) hm _).trans ?_;refine(CX (show(1:Yh)<=BZ (AH y) m by omega)).trans ?_;refine(O0 (by omega) _).trans ?_;unfold gS;rw[Ad];refine(ApY (y:=y) (by omega) m 1 (m-1).toNat fuel 0 (cntN y) (by omega) (by omega) (BB (by omega)) (by omega) (by omega) _).trans ?_;simp only;rw[DZ,KH,i64_in (cntN y+(sumM (AH y) (m-1).toNat-0)+1) (by omega),i64_in (cntN y+(sumM (AH y) (m-1).toNat-0)+1-1) (by omega)];refine Aw (λa=>k a 0) ?_;unfold Cv;omega
theorem ApZ{d:Yh}(hd:0<=d/\d<=1000000)(k:Yh->Ya β):dQ d k=k ((d+3)%7):=by unfold dQ;rw[Ad];have e1:Yv d 7=d%7:=EO hd.1;simp only;rw[e1,i64_in (d%7+10) (by omega),EO (by omega:0<=d%7+10)];exact k_eq (by omega)
theorem AIa{y m w wd N:Yh}(hN:0<=N/\N<=200000)(hd:0<=wd/\wd<=6){k1:zM β}:∀(j f:Yn)(day:Yh),day+(j:Yh)=N+(wd-(N+3)%7+7)%7->N<=day->j<f->Wg f k1 y m w wd N day=k1 y m w N (N+(wd-(N+3)%7+7)%7):=by
 intro j
 induction j with
 |zero=>intro f day h1 h2 hf;obtain⟨f,rfl⟩:∃f',f=f'+1:=⟨f-1,by omega⟩;simp only[AlG,gX];refine(ApZ (by omega) _).trans ?_;refine(CX (by omega)).trans ?_;rw[show day=N+(wd-(N+3)%7+7)%7 by omega]
 |succ j ih=>intro f day h1 h2 hf;obtain⟨f,rfl⟩:∃f',f=f'+1:=⟨f-1,by omega⟩;simp only[AlG,gX];refine(ApZ (by omega) _).trans ?_;refine(EF (by omega)).trans ?_;rw[i64_in (day+1) (by omega)];exact ih f (day+1) (by omega) (by omega) (by omega)
theorem Aq0{y m N:Yh}(hy:0<=y)(hm:1<=m/\m<=12)(hN:0<=N/\N<=200000){k1:zO β}{e:Yh}(he:e<N+BZ (AH y) m/\N+BZ (AH y) m<=e+7):∀(j f:Yn)(day:Yh),day+7*(j:Yh)=e->N<=day->j<f->Wh f k1 y m N day=k1 e:=by
 have hl:=Xo (AH y) hm;intro j
 induction j with
 |zero=>intro f day h1 h2 hf;obtain⟨f,rfl⟩:∃f',f=f'+1:=⟨f-1,by omega⟩;simp only[AlH,gY];refine(Oz hy hm _).trans ?_;rw[i64_in (day+7) (by omega),i64_in (N+BZ (AH y) m) (by omega)];refine(Al (by omega)).trans ?_;rw[show day=e by omega]
 |succ j ih=>intro f day h1 h2 hf;obtain⟨f,rfl⟩:∃f',f=f'+1:=⟨f-1,by omega⟩;simp only[AlH,gY];refine(Oz hy hm _).trans ?_;rw[i64_in (day+7) (by omega),i64_in (N+BZ (AH y) m) (by omega)];refine(Ag (by omega)).trans ?_;exact ih f (day+7) (by omega) (by omega) (by omega)
theorem AIb{y m w wd:Yh}(hy:1970<=y/\y<=2240)(hm:1<=m/\m<=12)(hw:1<=w/\w<=5)(hd:0<=wd/\wd<=6)(k:Yh->Yh->Ya β):gZ y m w wd k=k (nthD y m w wd) 0:=by
 have hl:=Xo (AH y) hm;have hn:=Apq hy hm;unfold gZ;rw[Ad];refine(AI9 hy hm _).trans ?_;refine(CX rfl).trans ?_;refine(Al (by omega)).trans ?_;refine(Al (by omega)).trans ?_;refine(Al (by omega)).trans ?_;refine(Al (by omega)).trans ?_;generalize hN:Cv y m=N at hn;unfold zQ;rw[Ad];have hx:0<=(wd-(N+3)%7+7)%7/\(wd-(N+3)%7+7)%7<=6:=by omega
 refine(AIa hn hd ((wd-(N+3)%7+7)%7).toNat fuel N (by omega) (by omega) (BB (by omega))).trans ?_;unfold nthD;simp only;rw[hN];generalize(wd-(N+3)%7+7)%7=o at hx;by_cases h5:w<5
 ·refine(Ag h5).trans ?_
  rw[i64_in (w-1) (by omega),i64_in (7*(w-1)) (by omega),i64_in _ (by omega),Yy (by omega)]
 ·refine(Al h5).trans ?_
  have AMo:w=5:=by omega
  subst AMo;unfold zR;rw[Ad];by_cases h:N+BZ (AH y) m<=N+o+7*(5-1)
  ·rw[Y1 h]
   exact Aq0 (by omega) hm hn (e:=N+o+7*(5-1)-7) (by omega) 3 fuel (N+o) (by omega) (by omega) (BB (by omega))
  ·rw[Yy h]
   exact Aq0 (by omega) hm hn (e:=N+o+7*(5-1)) (by omega) 4 fuel (N+o) (by omega) (by omega) (BB (by omega))
end
end
end Go.Lift
namespace Go.Lift
open Go.RowKit Go.IntWalk
noncomputable section
variable[Sl]
set_option maxRecDepth 10000
def G5(r:Cj):Ys:=
 inI r.1 1970 2240&&(inI r.2.1 r.1 2240&&(inI r.2.2.1 1 12&&(inI r.2.2.2.1 1 5&&(inI r.2.2.2.2.1 0 6&&(inI r.2.2.2.2.2.1 0 86399&&inI r.2.2.2.2.2.2 (-64800) 64800)))))
theorem and2{a b:Ys}(h:(a&&b)=Yp):a=Yp/\b=Yp:=by simpa using h
theorem O1{i a b:Yh}(h:inI i a b=Yp):a<=i/\i<=b:=by unfold inI at h;rw[Dk,Jv,Jv]at h;exact h
theorem Xy{r:Cj}(h:G5 r=Yp):RuleOk r:=by obtain⟨h1,h⟩:=and2 h;obtain⟨h2,h⟩:=and2 h;obtain⟨h3,h⟩:=and2 h;obtain⟨h4,h⟩:=and2 h;obtain⟨h5,h⟩:=and2 h;obtain⟨h6,h7⟩:=and2 h;exact⟨O1 h1,O1 h2,O1 h3,O1 h4,O1 h5,O1 h6,O1 h7⟩
def Na(_:Yn)(r:Cj)(n:Yh):Yh⊕Yh:=Yk (G5 r) (.inr (n+(r.2.1-r.1+1))) (.inl 1)
theorem AcJ:∀(xs:Ye Cj)(j:Yn)(n:Yh),walk Na xs j n=Yk (xs.all G5) (.inr (n+((C0 xs).length:Yh))) (.inl 1)
 |[],j,n=>by simp[walk,C0]
 |r::xs,j,n=>by
  unfold walk Na;rw[Rh];cases h:G5 r with
  |false=>rfl
  |true=>
   have hr:=Xy h;have g1:=hr.f;have g2:=hr.t;show walk Na xs (j+1) (n+(r.2.1-r.1+1))=Yk (Yp&&xs.all G5) _ _;rw[AcJ xs (j+1),KQ]
   have e:(C0 (r::xs)).length=(r.2.1-r.1+1).toNat+(C0 xs).length:=by unfold C0;rw[Pd,AQ,Apr]
   rw[e];have e2:n+(r.2.1-r.1+1)+((C0 xs).length:Yh)=n+(((r.2.1-r.1+1).toNat+(C0 xs).length:Yn):Yh):=by omega
   rw[e2]
def I5(z:AF):Yh:=
 Yk (!inI z.2.1 (-64800) 64800) 1 (Yk (Yd (16<(z.2.2.length:Yh))) 5 (Yk (!z.2.2.all G5) 1 (Yk (Yd (640<((C0 z.2.2).length:Yh))) 5 0)))
theorem Xz{z:AF}(h:I5 z=0):ZoneOk z:=by
 unfold I5 at h;cases h1:inI z.2.1 (-64800) 64800 with
 |false=>rw[h1]at h;cases h
 |true=>
  rw[h1]at h;by_cases h2:(16:Yh)<(z.2.2.length:Yh)
  ·rw[Ao h2]at h;cases h
  ·rw[Ar h2]at h
   cases h3:z.2.2.all G5 with
   |false=>rw[h3]at h;cases h
   |true=>
    rw[h3]at h;by_cases h4:(640:Yh)<((C0 z.2.2).length:Yh)
    ·rw[Ao h4]at h;cases h
    ·exact⟨O1 h1,λr hr=>Xy (FG.1 h3 r hr),by omega,by omega⟩
def Hi(z:AF):Yh⊕TrS:=Yk (Yd (I5 z=0)) (Kw z) (.inl (I5 z))
def Eu(z:AF):Yh:=
 Yk (!Yd (errV (Hi z)=0)) 8 (Yk (!Yd (Yv z.2.1 60=0)) 8 (Yk (!z.2.2.all λr=>decide (Yv r.2.2.2.2.2.2 60=0)) 8 0))
theorem AcK{z:AF}(h:errV (Hi z)=0):I5 z=0:=by
 unfold Hi at h;by_cases e:I5 z=0
 ·exact e
 ·rw[Ar e]at h;exact Y7 h e
theorem AIc{z:AF}(h:Eu z=0):ZoneOk z/\Ky z=0:=by
 have h0:errV (Hi z)=0:=by
  unfold Eu at h;by_cases e:errV (Hi z)=0
  ·exact e
  ·rw[Ar e]at h;cases h
 have e0:=AcK h0;have e1:Hi z=Kw z:=by unfold Hi;rw[Ao e0];rfl
 unfold Eu at h;rw[e1]at h;exact⟨Xz e0,h⟩
section
variable{β:Type}
theorem SO{b R:Ys}{k:Ys->Ya β}{X:Ya β}(h:X=k R):Yk b X (k Yi)=k (b&&R):=by cases b with
 |true=>exact h
 |false=>rfl
theorem SP{b R:Ys}{k:Yh->Ya β}{X:Ya β}(h:X=k (Yk R 0 1)):Yk (!b) (k 1) X=k (Yk (b&&R) 0 1):=by cases b with
 |true=>exact h
 |false=>rfl
theorem AId(r:Cj)(k:Yh->Ya β):Sb r k=k (Yk (G5 r) 0 1):=by unfold Sb;rw[Ad];unfold G5;refine(z_in _ _ _ _).trans (SP ?_);refine(z_in _ _ _ _).trans (SP ?_);refine(z_in _ _ _ _).trans (SP ?_);refine(z_in _ _ _ _).trans (SP ?_);refine(z_in _ _ _ _).trans (SP ?_);refine(z_in _ _ _ _).trans (SP ?_);refine(z_in _ _ _ _).trans ?_;cases inI r.2.2.2.2.2.2 (-64800) 64800<;>rfl
theorem AIe(r:Cj)(k:Ys->Ya β):dM r k=k (G5 r):=by unfold dM;rw[Ad];unfold G5;refine(Mf _ _ _ _).trans (SO ?_);refine(Mf _ _ _ _).trans (SO ?_);refine(Mf _ _ _ _).trans (SO ?_);refine(Mf _ _ _ _).trans (SO ?_);refine(Mf _ _ _ _).trans (SO ?_);refine(Mf _ _ _ _).trans (SO ?_);exact Mf _ _ _ _
theorem Aq1{r:Cj}{n m:Yh}{i:Yn}(hn:0<=n/\n<=300*(i:Yh))(h:Na i r n=.inr m):0<=m/\m<=300*((i+1:Yn):Yh):=by
 unfold Na at h;cases e:G5 r with
 |false=>rw[e]at h;cases h
 |true=>rw[e]at h;have hr:=Xy e;have g1:=hr.f;have g2:=hr.t;injection h with h;subst h;omega
theorem AIf{z:AF}(hl:z.2.2.length<=16)(k1:jM β)(K:jN β):S6 k1 K 0 z.2.2 (z.2.2.length:Yh) 0 z=sumK (λe=>k1 e []) (λn=>K n z) (Yk (z.2.2.all G5) (.inr ((C0 z.2.2).length:Yh)) (.inl 1)):=by
 unfold S6;rw[Ad]
 refine(JE (λi(n:Yh)=>0<=n/\n<=300*(i:Yh)) (λm i n=>Oi m k1 K n z.2.2 (z.2.2.length:Yh) i z) Na (λe=>k1 e []) (λn=>K n z) (0,0,0,0,0,0,0) z.2.2
  (λi s s' hi hs hg=>Aq1 hs hg) (λm i n hi hn=>?_) (λm n=>?_) z.2.2 0 fuel 0 rfl (by simp) (BB (by omega)) ⟨by omega,by omega⟩).trans ?_
 ·simp only[jO,Sz]
  refine(Ag (by omega)).trans ?_;refine(AG (by omega)).trans ?_;rw[Bh];refine(AId _ _).trans ?_;generalize z.2.2.getD i (0,0,0,0,0,0,0)=r;unfold Na;cases e:G5 r with
  |false=>rfl
  |true=>have hr:=Xy e;have g1:=hr.f;have g2:=hr.t;show Oi m k1 K (Yc.wrap (n+Yc.wrap (Yc.wrap (r.2.1-r.1)+1))) z.2.2 (z.2.2.length:Yh) (Yc.wrap ((i:Yh)+1)) z=Oi m k1 K (n+(r.2.1-r.1+1)) z.2.2 (z.2.2.length:Yh) ((i:Yh)+1) z;rw[i64_in (r.2.1-r.1) (by omega),i64_in (r.2.1-r.1+1) (by omega),i64_in (n+(r.2.1-r.1+1)) (by omega),i64_in ((i:Yh)+1) (by omega)]
 ·simp only[jO,Sz]
  exact Al (by omega)
 ·rw[AcJ,Int.zero_add]
theorem Aq2{z:AF}(hl:z.2.2.length<=16)(k1:AaH β)(K:AaI β):jC k1 K 0 0 z=sumK (λe=>k1 e []) (λn=>K n z) (Yk (z.2.2.all G5) (.inr ((C0 z.2.2).length:Yh)) (.inl 1)):=by
 unfold jC;rw[Ad]
 refine(JE (λi(n:Yh)=>0<=n/\n<=300*(i:Yh)) (λm i n=>Qd m k1 K n i z) Na (λe=>k1 e []) (λn=>K n z) (0,0,0,0,0,0,0) z.2.2
  (λi s s' hi hs hg=>Aq1 hs hg) (λm i n hi hn=>?_) (λm n=>?_) z.2.2 0 fuel 0 rfl (by simp) (BB (by omega)) ⟨by omega,by omega⟩).trans ?_
 ·have fin:∀g:Ya β,Yk (Yd (0<=(i:Yh))&&Yd ((i:Yh)<(z.2.2.length:Yh))) g Yf=g:=λg=>AG (by omega)
  simp only[AmH,jB,fin,Bh];refine(Ag (by omega)).trans ?_;refine(AIe _ _).trans ?_;generalize z.2.2.getD i (0,0,0,0,0,0,0)=r;unfold Na;cases e:G5 r with
  |false=>rfl
  |true=>have hr:=Xy e;have g1:=hr.f;have g2:=hr.t;show Qd m k1 K (Yc.wrap (n+Yc.wrap (Yc.wrap (r.2.1-r.1)+1))) (Yc.wrap ((i:Yh)+1)) z=Qd m k1 K (n+(r.2.1-r.1+1)) ((i:Yh)+1) z;rw[i64_in (r.2.1-r.1) (by omega),i64_in (r.2.1-r.1+1) (by omega),i64_in (n+(r.2.1-r.1+1)) (by omega),i64_in ((i:Yh)+1) (by omega)]
 ·simp only[AmH,jB]
  exact Al (by omega)
 ·rw[AcJ,Int.zero_add]
theorem AIg{z:AF}(h:I5 z≠0)(k:Yh->Ye (Yh×Yh)->Ya β):S7 z k=k (I5 z) []:=by
 unfold S7;rw[Ad];refine(z_in _ _ _ _).trans ?_;unfold I5 at h⊢;cases h1:inI z.2.1 (-64800) 64800 with
 |false=>rfl
 |true=>
  rw[h1]at h;refine c_f.trans ?_;by_cases h2:(16:Yh)<(z.2.2.length:Yh)
  ·rw[Ao h2];rfl
  ·rw[Ar h2]at h⊢
   refine c_f.trans ?_;refine(AIf (by omega) _ _).trans ?_;cases h3:z.2.2.all G5 with
   |false=>rfl
   |true=>
    rw[h3]at h;by_cases h4:(640:Yh)<((C0 z.2.2).length:Yh)
    ·rw[Ao h4]
     exact Ag h4
    ·rw[Ar h4]at h
     exact Y7 rfl h
theorem AIh(z:AF)(k:Yh->Ye (Yh×Yh)->Ya β):S8 z k=sumK (λe=>k e []) (λs=>k 0 s.2) (Hi z):=by
 unfold Hi;by_cases e:I5 z=0
 ·rw[Ao e]
  exact AHh (Xz e) k
 ·rw[Ar e]
  unfold S8;rw[Ad];refine(AIg e _).trans ?_;exact EF e
theorem Aq3(z:AF)(k:Yh->Ya β):SB z k=k (Eu z):=by
 unfold SB;rw[Ad];unfold Abs;rw[Ad];refine(AIh z _).trans ?_;have e:∀K:Yh->Ya β,sumK (λe=>K e) (λ_=>K 0) (Hi z)=K (errV (Hi z)):=λK=>Jd K _;refine(e _).trans ?_;unfold Eu;by_cases h0:errV (Hi z)=0
 ·have hl:=(Xz (AcK h0)).l
  rw[Ao h0];show Yk (!Yd (Yv z.2.1 60=0)) _ _=k (Yk (!Yd (Yv z.2.1 60=0)) _ _);cases Yd (Yv z.2.1 60=0)with
  |false=>rfl
  |true=>refine(AHi _ (by omega) _).trans ?_;cases z.2.2.all λr=>decide (Yv r.2.2.2.2.2.2 60=0)<;>rfl
 ·rw[Ar h0];rfl
end
end
end Go.Lift
namespace Go.Lift
open Go.RowKit Go.IntWalk
noncomputable section
variable[Sl]
set_option maxRecDepth 10000
section
variable{β:Type}
theorem Aq4{c:Yj}(k:Ys->Ya β)(g:Ya β)(hn:Ku (c.toNat:Yh)=Yi):(PS (c.toNat:Yh) λrdigit=>Yk (!rdigit) (Yk (!Yd ((c.toNat:Yh)=95)) (Yk (!Yd ((c.toNat:Yh)=45)) (k Yi) g) g) g)=Yk (Jc c) g (k Yi):=by
 refine(ApW _ _).trans ?_;unfold Jc;rw[hn];cases Oo (c.toNat:Yh)with
 |true=>rfl
 |false=>show Yk (!Yd ((c.toNat:Yh)=95)) _ _=Yk (Yd ((c.toNat:Yh)=95)||Yd ((c.toNat:Yh)=45)) _ _;cases Yd ((c.toNat:Yh)=95)<;>cases Yd ((c.toNat:Yh)=45)<;>rfl
theorem X0{n:Yh}(h:n<97\/122<n):Ku n=Yi:=by
 unfold Ku inI;rcases h with h|h
 ·rw[Ar (by omega)];rfl
 ·rw[Ar (show ¬n<=122 by omega),YaX]
theorem Aq5{n:Yh}(h1:97<=n)(h2:n<=122):Ku n=Yp:=GJ ⟨h1,h2⟩
theorem AcL(s:Ye Yj)(k:Ys->Ya β):VJ s k=k (CP s):=by
 unfold VJ;rw[Ad];unfold CP;by_cases h0:s=[]
 ·subst h0
  rfl
 have hs:0<s.length:=Pa.2 h0;rw[Ar h0];refine(Al (by omega)).trans ?_;by_cases h1:(24:Yh)<(s.length:Yh)
 ·refine(Ag h1).trans ?_
  rw[Ao h1];rfl
 refine(Al h1).trans ?_;rw[Ar h1];refine(AG (by omega)).trans ?_;rw[show Yl (0:Yh)=0 from rfl];by_cases h2:((s.getD 0 0).toNat:Yh)<97
 ·refine(Ag h2).trans ?_
  rw[X0 (.inl h2)];rfl
 refine(Al h2).trans ?_;refine(AG (by omega)).trans ?_;by_cases h3:(122:Yh)<((s.getD 0 0).toNat:Yh)
 ·refine(Ag h3).trans ?_
  rw[X0 (.inr h3)];rfl
 refine(Al h3).trans ?_;rw[Aq5 (by omega) (by omega)];show _=k (s.all Jc);unfold xU;rw[Ad];refine(Ks (λm i=>VI m (λt2=>k t2) (λ_=>k Yp) s i) Jc (k Yi) (k Yp) 0 s fuel (BB (by omega)) (λm i hi=>?_) (λm=>?_)).trans ?_
 ·have fin:∀g:Ya β,Yk (Yd (0<=(i:Yh))&&Yd ((i:Yh)<(s.length:Yh))) g Yf=g:=λg=>AG (by omega)
  simp only[Akd,f4,Bh,fin];refine(Ag (by omega)).trans ?_;rw[i64_in ((i:Yh)+1) (by omega)];by_cases hl:((s.getD i 0).toNat:Yh)<97
  ·refine(Ag hl).trans ?_
   exact Aq4 k _ (X0 (.inl hl))
  ·refine(Al hl).trans ?_
   by_cases hu:(122:Yh)<((s.getD i 0).toNat:Yh)
   ·refine(Ag hu).trans ?_
    exact Aq4 k _ (X0 (.inr hu))
   ·refine(Al hu).trans ?_
    have:Jc (s.getD i 0)=Yp:=by unfold Jc;rw[Aq5 (by omega) (by omega)];rfl
    rw[this];rfl
 ·simp only[Akd,f4]
  exact Al (by omega)
 ·cases s.all Jc<;>rfl
theorem X1{l:Ye (Ye Yj)}{s:Ye Yj}(hl:l.length<=1000)(k:Yh->Ya β):Og (l++[s]) (l.length:Yh) k=k (Eg s l):=by
 have AU:(l++[s]).length=l.length+1:=by simp
 have hg:(l++[s]).getD l.length []=s:=by simp[Ym]
 unfold Og;rw[Ad];unfold Eg;refine(AG (by rw[AU];omega)).trans ?_;rw[Bh];refine(AcL _ _).trans ?_;simp only[hg];cases CP s with
 |false=>rfl
 |true=>
  refine c_f.trans ?_;unfold yZ;rw[Ad];refine(Ks (λm i=>VZ m (λt4=>k t4) (λ_=>k 0) (l++[s]) (l.length:Yh) i) (λx=>!Yd (x=s)) (k 4) (k 0) [] l fuel (BB (by omega)) (λm i hi=>?_) (λm=>?_)).trans ?_
  ·have fin:∀g:Ya β,Yk (Yd (0<=(i:Yh))&&Yd ((i:Yh)<((l++[s]).length:Yh))) g Yf=g:=λg=>AG (by rw[AU];omega)
   have fin2:∀g:Ya β,Yk (Yd (0<=(l.length:Yh))&&Yd ((l.length:Yh)<((l++[s]).length:Yh))) g Yf=g:=λg=>AG (by rw[AU];omega);have ALi:(l++[s]).getD i []=l.getD i []:=by simp[Ym,HO hi]
   simp only[Alj,gK,Bh,fin,fin2,hg,ALi];refine(Ag (by omega)).trans ?_;rw[i64_in ((i:Yh)+1) (by omega)];cases Yd (l.getD i []=s)<;>rfl
  ·simp only[Alj,gK]
   exact Al (by omega)
  ·by_cases hm:s∈l
   ·rw[Ao hm]
    have:(l.all λx=>!Yd (x=s))=Yi:=by rw[List.all_eq_false];exact⟨s,hm,by simp⟩
    rw[this];rfl
   ·rw[Ar hm]
    have:(l.all λx=>!Yd (x=s))=Yp:=by rw[FG];intro x hx;rw[Ar (show ¬x=s from λe=>hm (e▸hx))];rfl
    rw[this];rfl
theorem f_ix(i:Yh){n:Yn}(hn:n<=1000)(k:Ys->Ya β):FY i 0 (Yc.wrap ((n:Yh)-1)) k=k (ixI i n):=by refine(f_in _ _ _ _).trans (k_eq ?_);rw[i64_in ((n:Yh)-1) (by omega)];unfold inI ixI;congr 1;exact Rf.2 (by omega)
theorem f_e1(b:Ys)(x:Ed)(k:Yh->Ya β):Sj (λt=>k t) (λ_=>k 0) b x=k (e1V b x):=by
 unfold Sj;rw[Ad];unfold xM e1V;cases b with
 |true=>rfl
 |false=>show Yk (Yd (x.2.2.2.2<=x.2.2.2.1)) _ _=k (Yk (Yd (x.2.2.2.2<=x.2.2.2.1)) _ _);cases Yd (x.2.2.2.2<=x.2.2.2.1)<;>rfl
theorem f_e2(b:Ys){x:Ed}(hx:x.2.2.2.2<=9223372036854775807)(k:Yh->Ya β):VG (λt=>k t) (λ_=>k 0) b x=k (e2V b x):=by
 unfold VG;rw[Ad];unfold xN e2V;cases b with
 |true=>rfl
 |false=>
  show Yk (Yd (x.2.2.2.1<0)) _ _=k (e1V (Yd (x.2.2.2.1<0)||_) x);cases Yd (x.2.2.2.1<0)with
  |true=>exact f_e1 _ _ _
  |false=>
   show Yk (Yd (x.2.2.2.2<0)) _ _=k (e1V (Yd (x.2.2.2.2<0)||_) x);by_cases h:x.2.2.2.2<0
   ·rw[Ao h];exact f_e1 _ _ _
   ·rw[Ar h]
    refine(SN _).trans ((f_e1 _ _ _).trans (k_eq ?_));have h0:Yz x.2.2.2.2 86400=x.2.2.2.2 / 86400:=F7 (by omega);rw[h0,i64_in (x.2.2.2.2 / 86400) (by omega)];show e1V _ x=e1V (!dayI (x.2.2.2.2 / 86400)) x;unfold dayI;rw[Ao (show 0<=x.2.2.2.2 / 86400 by omega),KQ];by_cases g:98980<x.2.2.2.2 / 86400
    ·rw[Ao g,Ar (show ¬x.2.2.2.2 / 86400<98981 by omega)];rfl
    ·rw[Ar g,Ao (show x.2.2.2.2 / 86400<98981 by omega)];rfl
theorem f_e3(b:Ys){x:Ed}(hx:x.2.2.2.2<=9223372036854775807)(k:Yh->Ya β):VH (λt=>k t) (λ_=>k 0) b x=k (e3V b x):=by
 unfold VH;rw[Ad];unfold xO e3V;cases b with
 |true=>rfl
 |false=>show Yk (Yd (x.1=2)) _ _=k (e2V (Yd (x.1=2)&&_) x);cases Yd (x.1=2)<;>exact f_e2 _ hx _
theorem f_e4(b:Ys){x:Ed}(hx:x.2.2.2.2<=9223372036854775807)(k:Yh->Ya β):KZ (λt=>k t) (λ_=>k 0) b x=k (e4V b x):=by
 unfold KZ;rw[Ad];unfold xP e4V;cases b with
 |true=>rfl
 |false=>show Yk (!Yd (x.1=2)) _ _=k (e3V ((!Yd (x.1=2))&&_) x);cases Yd (x.1=2)<;>exact f_e3 _ hx _
theorem AIi(c:Aj){x:Ed}(hn:c.2.1.length<=1000)(hx:x.2.2.2.2<=9223372036854775807)(k:Yh->Ya β):eX c x k=k (G3 (c.2.1.length:Yh) x):=by
 have h5:Yk (Yd (x.1=2)) (FY x.2.2.1 0 (Yc.wrap ((c.2.1.length:Yh)-1)) λr=>KZ (λt=>k t) (λ_=>k 0) (!r) x) (KZ (λt=>k t) (λ_=>k 0) Yi x)=k (e4V (Yd (x.1=2)&&!ixI x.2.2.1 (c.2.1.length:Yh)) x):=by
  cases Yd (x.1=2)with
  |false=>exact f_e4 _ hx _
  |true=>exact(f_ix _ hn _).trans (f_e4 _ hx _)
 unfold eX;rw[Ad];unfold G3;refine(f_in _ _ _ _).trans ?_;cases inI x.1 0 2 with
 |false=>rfl
 |true=>
  refine c_f.trans ?_;refine(f_ix _ hn _).trans ?_;show Yk (!ixI x.2.1 (c.2.1.length:Yh)) _ _=k (e4V (((!ixI x.2.1 (c.2.1.length:Yh))&&_)||_) x);cases ixI x.2.1 (c.2.1.length:Yh)with
  |true=>exact h5
  |false=>
   show Yk (!Yd (x.1=1)) _ _=k (e4V ((!(Yd (x.1=1)&&_))||_) x);cases Yd (x.1=1)with
   |false=>exact f_e4 _ hx _
   |true=>
    show Yk (!Yd (x.2.1=-1)) _ _=k (e4V ((!Yd (x.2.1=-1))||_) x);cases Yd (x.2.1=-1)with
    |false=>exact f_e4 _ hx _
    |true=>exact h5
theorem f_l1(b:Ys)(l:Bz)(k:Yh->Ya β):VD (λt=>k t) (λ_=>k 0) b l=k (l1V b l):=by
 unfold VD;rw[Ad];unfold xJ l1V;cases b with
 |true=>rfl
 |false=>show Yk (Yd (l.2.2.2.2.2.2.2.2=0)) (Yk (!Yd (l.2.2.2.2.2.2.2.1=0)) _ _) _=k (Yk (Yd (l.2.2.2.2.2.2.2.2=0)) (Yk (!Yd (l.2.2.2.2.2.2.2.1=0)) _ _) _);cases Yd (l.2.2.2.2.2.2.2.2=0)<;>cases Yd (l.2.2.2.2.2.2.2.1=0)<;>rfl
theorem AIj(c:Aj)(l:Bz)(hn:c.2.1.length<=1000)(hs:l.2.2.2.2.2.1.length<=1000)(k1:xG β)(k2:xH β):eV k1 k2 0 c l=Yk (l.2.2.2.2.2.1.all λm=>ixI m (c.2.1.length:Yh)) (k2 c l) (k1 3):=by
 unfold eV;rw[Ad];refine Ks (λm i=>VC m k1 k2 i c l) (λm=>ixI m (c.2.1.length:Yh)) (k1 3) (k2 c l) 0 l.2.2.2.2.2.1 fuel (BB (by omega)) (λm i hi=>?_) (λm=>?_)
 ·simp only[AjR,eU]
  refine(Ag (by omega)).trans ?_;refine(AG (by omega)).trans ?_;rw[Bh,i64_in ((i:Yh)+1) (by omega)];refine(f_ix _ hn _).trans ?_;cases ixI (l.2.2.2.2.2.1.getD i 0) (c.2.1.length:Yh)<;>rfl
 ·simp only[AjR,eU]
  exact Al (by omega)
theorem f_l2(c:Aj)(b:Ys)(l:Bz)(hp:c.2.1.length<=1000)(hc:c.2.2.1.length<=1000)(k:Yh->Ya β):PW (λt=>k t) (λc2 l2=>PV (λt=>k t) c2 l2) b c l=k (l2V (c.2.1.length:Yh) (c.2.2.1.length:Yh) b l):=by
 unfold PW;rw[Ad];unfold xL l2V;cases b with
 |true=>rfl
 |false=>
  show Yk (Yd ((l.2.2.2.2.2.1.length:Yh)=0)) _ _=k (Yk (Yd ((l.2.2.2.2.2.1.length:Yh)=0)) _ _);cases Yd ((l.2.2.2.2.2.1.length:Yh)=0)with
  |true=>rfl
  |false=>
   show Yk (Yd ((12:Yh)<(l.2.2.2.2.2.1.length:Yh))) _ _=k (Yk (Yd ((12:Yh)<(l.2.2.2.2.2.1.length:Yh))) _ _);by_cases h:(12:Yh)<(l.2.2.2.2.2.1.length:Yh)
   ·rw[Ao h];rfl
   ·rw[Ar h]
    refine c_f.trans ?_;unfold PV;rw[Ad];unfold xK;refine(AIj c l hp (by omega) _ _).trans ?_;cases l.2.2.2.2.2.1.all λm=>ixI m (c.2.1.length:Yh)with
    |false=>rfl
    |true=>
     refine c_t.trans ?_;refine(ApX _ _).trans ?_;show Yk (!Yd (Fl l.2.2.2.2.2.2.1=0)) _ _=k (Yk (!Yd (Fl l.2.2.2.2.2.2.1=0)) _ _);cases Yd (Fl l.2.2.2.2.2.2.1=0)with
     |false=>rfl
     |true=>
      refine c_f.trans ?_;refine(f_in _ _ _ _).trans ?_;cases inI l.2.2.2.2.2.2.2.2 0 2 with
      |false=>rfl
      |true=>
       show Yk (!Yd (l.2.2.2.2.2.2.2.2=0)) _ _=k (l1V ((!Yd (l.2.2.2.2.2.2.2.2=0))&&_) l);cases Yd (l.2.2.2.2.2.2.2.2=0)with
       |true=>exact f_l1 _ _ _
       |false=>exact(f_ix _ hc _).trans (f_l1 _ _ _)
theorem day1(n:Yh):inI n 1 98980=((!Yd (n<1))&&dayI n):=by
 unfold inI dayI;by_cases h:n<1
 ·rw[Ao h,Ar (show ¬1<=n by omega)];rfl
 ·rw[Ar h,Ao (show 1<=n by omega),Ao (show 0<=n by omega),KQ,KQ]
  exact(Rf.2 (by omega)).trans (KQ _).symm
theorem AIk(c:Aj)(l:Bz)(hz:c.1.length<=1000)(hp:c.2.1.length<=1000)(hc:c.2.2.1.length<=1000)(k:Yh->Ya β):eW c l k=k (FJ (c.1.length:Yh) (c.2.1.length:Yh) (c.2.2.1.length:Yh) l):=by
 have h2:=λb=>f_l2 c b l hp hc k;unfold eW;rw[Ad];unfold FJ;refine(f_ix _ hz _).trans ?_;cases ixI l.2.1 (c.1.length:Yh)with
 |false=>rfl
 |true=>
  refine c_f.trans ?_;refine(SN _).trans ?_;refine(f_in _ _ _ _).trans ?_;rw[day1];show _=k (l2V _ _ (Yd (l.2.2.1.1<1)||_) l);cases Yd (l.2.2.1.1<1)with
  |true=>exact h2 Yp
  |false=>
   show Yk (!dayI l.2.2.1.1) _ _=k (l2V _ _ ((!dayI l.2.2.1.1)||_) l);cases dayI l.2.2.1.1 with
   |false=>exact h2 Yp
   |true=>
    refine c_f.trans ?_;refine(f_in _ _ _ _).trans ?_;show Yk (!inI l.2.2.1.2 0 86399) _ _=k (l2V _ _ ((!inI l.2.2.1.2 0 86399)||_) l);cases inI l.2.2.1.2 0 86399 with
    |false=>exact h2 Yp
    |true=>
     refine c_f.trans ?_;refine(f_in _ _ _ _).trans ?_;show Yk (!inI l.2.2.2.1 0 2) _ _=k (l2V _ _ ((!inI l.2.2.2.1 0 2)||_) l);cases inI l.2.2.2.1 0 2 with
     |false=>exact h2 Yp
     |true=>refine c_f.trans ?_;exact(f_in _ _ _ _).trans (h2 _)
end
end
end Go.Lift
namespace Go.Lift
open Go.RowKit Go.IntWalk
noncomputable section
variable[Sl]
set_option maxRecDepth 10000
abbrev Oc:=Yh×Yh
def posN(out:Ye Oc)(x:Oc):Yn->Yn
 |0=>0
 |k+1=>if x.1<(out.getD k (0,0)).1 then posN out x k else k+1
theorem AcM(out:Ye Oc)(x:Oc):∀k,posN out x k<=k
 |0=>Av _
 |k+1=>by
  unfold posN;split
  ·exact Nat.le_succ_of_le (AcM out x k)
  ·exact Av _
def insO(out:Ye Oc)(x:Oc):Ye Oc:=out.take (posN out x out.length)++x::out.drop (posN out x out.length)
theorem Aq6(out:Ye Oc)(x:Oc):(insO out x).Perm (x::out):=by
 unfold insO;have:=pL (a:=x) (l₁:=out.take (posN out x out.length)) (l₂:=out.drop (posN out x out.length))
 rwa [M0]at this
theorem AcN(out:Ye Oc)(x:Oc):∀k j,posN out x k<=j->j<k->x.1<(out.getD j (0,0)).1
 |0,j,_,h=>Y7 h (KP _)
 |k+1,j,h1,h2=>by
  unfold posN at h1;split at h1
  ·rename_i hx
   by_cases e:j=k
   ·rw[e];exact hx
   ·exact AcN out x k j h1 (by omega)
  ·omega
theorem Aq7(out:Ye Oc)(x:Oc):∀k,0<posN out x k->(out.getD (posN out x k-1) (0,0)).1<=x.1
 |0,h=>Y7 h (Nat.lt_irrefl _)
 |k+1,h=>by
  unfold posN at h⊢;split
  ·rename_i hx
   rw[Y1 hx]at h;exact Aq7 out x k h
  ·rename_i hx
   rw[Nat.add_sub_cancel];omega
abbrev SQ(l:Ye Oc):Prop:=l.Pairwise λa b=>a.1<=b.1
theorem AcO{out:Ye Oc}(x:Oc)(h:SQ out):SQ (insO out x):=by
 unfold insO;have hp:=AcM out x out.length;have Gl:=AcN out x out.length;have Ew:=Aq7 out x out.length;generalize posN out x out.length=p at hp Gl Ew;have hg:∀{i:Yn}(hi:i<out.length),out.getD i (0,0)=out[i]:=λhi=>by simp[Ym,hi]
 have h1:∀a∈out.take p,a.1<=x.1:=λa ha=>by
  obtain⟨i,hi,rfl⟩:=pA.1 ha;have Jj:i<p:=by simp at hi;omega
  rw[List.getElem_take];have:=Ew (by omega);rw[hg (by omega)]at this;by_cases e:i=p-1
  ·subst e;exact this
  ·have:=(TG.1 h) i (p-1) (by omega) (by omega) (by omega)
   omega
 have h2:∀b∈out.drop p,x.1<=b.1:=λb hb=>by
  obtain⟨i,hi,rfl⟩:=pA.1 hb;have Jj:p+i<out.length:=by simp at hi;omega
  rw[List.getElem_drop];have:=Gl (p+i) (by omega) Jj;rw[hg Jj]at this;omega
 refine FS.2 ⟨h.sublist (List.take_sublist _ _),Fs.2 ⟨h2,h.sublist (List.drop_sublist _ _)⟩,λa ha b hb=>?_⟩;have ha:=h1 a ha;rcases Bl.1 hb with rfl|hb
 ·exact ha
 ·have:=h2 b hb
  omega
theorem Aq8:∀(l out:Ye Oc),SQ out->SQ (l.foldl insO out)/\(l.foldl insO out).Perm (l++out)
 |[],out,h=>⟨h,.refl _⟩
 |x::l,out,h=>by obtain⟨h1,h2⟩:=Aq8 l (insO out x) (AcO x h);refine⟨h1,h2.trans ?_⟩;exact((Aq6 out x).append_left l).trans pL
theorem AIl{α:Type}(out:Ye α)(x:α)(k:Yn)(hk:k<=out.length):(Y5 (k+1) (out++[x])++(Y5 ((out++[x]).length-(k+1)) (Y4 k (Y5 (out++[x]).length (out++[x])))++Y4 (k+1+YV (Y4 k (Y5 (out++[x]).length (out++[x]))).length ((out++[x]).length-(k+1))) (out++[x]))).set k x=out.take k++x::out.drop k:=by
 have hl:(out++[x]).length=out.length+1:=by simp
 rw[L9,hl];have e1:Y4 k (out++[x])=Y4 k out++[x]:=OY hk
 have e2:Y5 (out.length+1-(k+1)) (Y4 k out++[x])=Y4 k out:=by rw[L6 (by simp)];exact GY (by simp)
 have e3:YV (Y4 k out++[x]).length (out.length+1-(k+1))=out.length-k:=by show min _ _=_;simp
 have e4:Y4 (k+1+(out.length-k)) (out++[x])=[]:=Rb (by rw[hl];omega);rw[e1,e2,e3,e4,In,Ot x (by simp;omega),L6 hk,C4];rw[List.set_append];have:(Y5 k out).length=k:=by simp;omega
 rw[Yy (by omega),this,Nat.sub_self];rfl
section
variable{β:Type}
theorem Aq9{l:Ye Cj}{i y:Yh}{out:Ye Oc}{x:Oc}(hl:out.length<=100000){k1:Aau β}:∀(k m:Yn),k<m->k<=out.length->Wu m k1 l i y (k:Yh) out x=k1 l i y (posN out x k:Yh) out x
 |k,0,h,_=>Y7 h (KP _)
 |0,m+1,_,_=>by simp only[Ami,iU];exact Al (by omega)
 |k+1,m+1,h,hk=>by
  simp only[Ami,iU];refine(Ag (by omega)).trans ?_;rw[i64_in (((k+1:Yn):Yh)-1) (by omega),show((k+1:Yn):Yh)-1=(k:Yh) by omega];refine(AG (by omega)).trans ?_;rw[Bh];unfold posN;by_cases hx:x.1<(out.getD k (0,0)).1
  ·rw[Y1 hx]
   exact(Ag hx).trans (Aq9 hl k m (by omega) (by omega))
  ·rw[Yy hx]
   exact Al hx
theorem AIm{l:Ye Cj}{i:Yn}(hi:i<l.length){r:Cj}(hr:l.getD i (0,0,0,0,0,0,0)=r)(h:RuleOk r){K:Aar β}:∀(j f:Yn)(y:Yh)(out:Ye Oc),y+(j:Yh)=r.2.1+1->r.1<=y->j<f->out.length+j<=10000->Wv f K l (i:Yh) y out=K l (i:Yh) (((YaG j).map λq=>occY r (y+(q:Yn))).foldl insO out):=by
 have h1:=h.f;have h2:=h.t;intro j
 induction j with
 |zero=>intro f y out hj hy hf hl;obtain⟨f,rfl⟩:∃f',f=f'+1:=⟨f-1,by omega⟩;have fin:∀g:Ya β,Yk (Yd (0<=(i:Yh))&&Yd ((i:Yh)<(l.length:Yh))) g Yf=g:=λg=>AG (by omega);simp only[Amj,iV,fin,Bh,hr];exact Al (by omega)
 |succ j ih=>
  intro f y out hj hy hf hl;obtain⟨f,rfl⟩:∃f',f=f'+1:=⟨f-1,by omega⟩;have hb:=Acp h (y:=y) ⟨hy,by omega⟩;have hs:=h.s;have fin:∀g:Ya β,Yk (Yd (0<=(i:Yh))&&Yd ((i:Yh)<(l.length:Yh))) g Yf=g:=λg=>AG (by omega);simp only[Amj,iV,fin,Bh,hr];refine(Ag (by omega)).trans ?_;refine(AIb (by omega) h.m h.w h.d _).trans ?_;rw[i64_in (nthD y r.2.2.1 r.2.2.2.1 r.2.2.2.2.1*86400) (by omega),i64_in (nthD y r.2.2.1 r.2.2.2.1 r.2.2.2.2.1*86400+r.2.2.2.2.2.1) (by omega)];unfold Aaw;rw[Ad];refine(Aq9 (by omega) out.length fuel (BB (by omega)) (Av _)).trans ?_;have hp:=AcM out (occY r y) out.length;show Yk (Yd ((out.length+1)*16<=AR)) _ _=_;refine(Cx (by omega)).trans ?_;have nN:(out++[occY r y]).length=out.length+1:=by simp
  have ho:∀{n:Yh},n=nthD y r.2.2.1 r.2.2.2.1 r.2.2.2.2.1*86400+r.2.2.2.2.2.1->(n,r.2.2.2.2.2.2)=occY r y:=λe=>by rw[e];rfl
  simp only[ho rfl];rw[i64_in ((posN out (occY r y) out.length:Yh)+1) (by omega)];refine(c_p3 (by omega) (by omega) (by omega)).trans ?_;refine(c_p3 (by omega) (by omega) (by omega)).trans ?_;rw[show((posN out (occY r y) out.length:Yh)+1).toNat=posN out (occY r y) out.length+1 by omega,Bh];have Mp:=AIl out (occY r y) _ hp;refine(AG ⟨by omega,?_⟩).trans ?_
  ·have:=Aw Yb Mp
   rw[Pe]at this;rw[this];simp;omega
  rw[Mp,i64_in (y+1) (by omega)]
  have Lp:(insO out (occY r y)).length+j<=10000:=by rw[(Aq6 out _).length_eq];simp;omega
  refine(ih f (y+1) (insO out (occY r y)) (by omega) (by omega) (by omega) Lp).trans ?_;refine Aw (K l (i:Yh)) ?_;rw[YaZ,CH,Pi,TP];have e0:occY r (y+((0:Yn):Yh))=occY r y:=by simp
  rw[e0];refine Aw (λz=>List.foldl insO (insO out (occY r y)) z) ?_;refine ZT λq _=>?_;simp only[Function.comp];congr 1;simp;omega
theorem AIn{out:Ye Oc}(x:Oc)(h:SQ out):insO out x=insS (λx y=>decide (Ja x<Ja y)) x out:=by
 refine SortK.uniq (key:=Ja) (AcO x h) (pN (λ_ _=>ZX) x h) (SameK.trans (SameK.symm ?_) (pM (λ_ _=>ZX) x h));unfold insO;have Gl:=AcN out x out.length;generalize posN out x out.length=p at Gl;have e:out++[x]=out.take p++(out.drop p++[x]):=by rw[<-C4,M0]
 rw[e];refine(SameK.refl _).app (SameK.cross (x:=out.drop p) (y:=[x]) λa ha b hb=>?_);rw[DY.1 ha];obtain⟨i,hi,rfl⟩:=pA.1 hb;have Jj:p+i<out.length:=by simp at hi;omega
 have h3:=Gl (p+i) (by omega) Jj;rw[List.getElem_drop];have e3:out.getD (p+i) (0,0)=out[p+i]:=by simp[Ym,Jj]
 rw[e3]at h3;intro h4;have h4:x.1=(out[p+i]).1:=h4;omega
theorem Aqa:∀(l out:Ye Oc),SQ out->l.foldl insO out=l.foldl (λo x=>insS (λx y=>decide (Ja x<Ja y)) x o) out
 |[],_,_=>rfl
 |x::l,out,h=>by rw[TP,TP,Aqa l _ (AcO x h),AIn x h]
theorem AIo(z:AF):(C0 z.2.2).foldl insO []=occS z:=Aqa _ _ YF
theorem AIp{z:AF}(h:ZoneOk z)(k:Ye Oc->Ya β):iX z.2.2 k=k (occS z):=by
 have hl:=h.l;unfold iX;rw[Ad];unfold Aay;rw[Ad]
 refine(Om (λi(out:Ye Oc)=>out=(C0 (z.2.2.take i)).foldl insO []) (λm i out=>Ww m (λout=>k out) z.2.2 i out) (λout r=>(occL r).foldl insO out) (λout=>k (occS z)) (0,0,0,0,0,0,0) z.2.2 [] fuel (BB (by omega)) rfl
  (λi out hi ho=>?_) (λm i out hi ho=>?_) (λm out ho=>?_))
 ·rw[Ot (0,0,0,0,0,0,0) hi,ho]
  unfold C0;rw[TN,ZQ,pI]
 ·have hr:RuleOk (z.2.2.getD i (0,0,0,0,0,0,0)):=h.r _ (Cn hi)
  have g1:=hr.f;have g2:=hr.t
  have AU:out.length<=640:=by have e:z.2.2=z.2.2.take i++z.2.2.drop i:=(M0 i z.2.2).symm;have OH:=h.n;rw[e]at OH;unfold C0 at OH;rw[TN,AQ]at OH;rw[ho,(Aq8 _ [] YF).2.length_eq,In];unfold C0;omega
  simp only[Amk,iW];refine(Ag (by omega)).trans ?_;refine(AG (by omega)).trans ?_;rw[Bh];unfold Aax;rw[Ad];refine(AIm hi rfl hr ((z.2.2.getD i (0,0,0,0,0,0,0)).2.1-(z.2.2.getD i (0,0,0,0,0,0,0)).1+1).toNat fuel _ out (by omega) (by omega) (BB (by omega)) (by omega)).trans ?_;rw[i64_in ((i:Yh)+1) (by omega)];rfl
 ·rw[L9]at ho
  simp only[Amk,iW];refine(Al (by omega)).trans ?_;rw[ho,AIo]
theorem AIq{z:AF}(h:ZoneOk z){k1:AaK β}{k2:AaL β}:jE k1 k2 z.2.1 0 [] (occS z)=sumK (λe=>k1 e []) (λs=>k2 s.2) (Kw z):=by
 have AU:(occS z).length<=640:=by rw[(mC z).length_eq];exact h.n
 unfold jE;rw[Ad]
 refine JE TrI (λm i(s:TrS)=>Wz m k1 k2 s.1 i s.2 (occS z)) H8 (λe=>k1 e []) (λs=>k2 s.2) (0,0) (occS z)
  (λi s s' hi hs hg=>?_) (λm i s hi hs=>?_) (λm s=>?_) (occS z) 0 fuel (z.2.1,[]) rfl (by simp) (BB (by omega)) ⟨h.o,Av _,λx hx=>Y7 hx Es⟩
 ·have ho:=mD h (Cn (d:=((0,0):Yh×Yh)) hi)
  obtain⟨h1,h2,h3⟩:=hs;generalize(occS z).getD i (0,0)=o at ho hg;unfold H8 at hg;by_cases e:o.2=s.1
  ·rw[Ao e]at hg
   injection hg with hg;subst hg;exact⟨h1,by omega,h3⟩
  ·rw[Ar e]at hg
   cases hc:(Yd (86400<=o.2-s.1)||(Yd (o.2-s.1≤-86400)||((!inI (o.1-s.1) 0 8589934592)||(Yd (0<(s.2.length:Yh))&&Yd (o.1-s.1<(s.2.getD (s.2.length-1) (0,0)).1+604800)))))with
   |true=>rw[hc]at hg;cases hg
   |false=>
    rw[hc]at hg;injection hg with hg;subst hg;simp only[OZ,Bool.not_eq_false']at hc;have CV:=hc.2.2.1;unfold inI at CV;rw[Dk,Jv,Jv]at CV;refine⟨ho.2,by simp;omega,λx hx=>?_⟩;rcases C5.1 hx with hx|hx
    ·exact h3 x hx
    ·rw[DY.1 hx]
     exact CV
 ·have ho:=mD h (Cn (d:=((0,0):Yh×Yh)) hi)
  obtain⟨h1,h2,h3⟩:=hs;have fin:∀g:Ya β,Yk (Yd (0<=(i:Yh))&&Yd ((i:Yh)<((occS z).length:Yh))) g Yf=g:=λg=>AG (by omega);simp only[AmI,jD,Bh,fin];refine(Ag (by omega)).trans ?_;unfold H8;rw[i64_in ((i:Yh)+1) (by omega)];by_cases e:((occS z).getD i (0,0)).2=s.1
  ·refine(Ag e).trans ?_
   rw[Ao e];rfl
  refine(Al e).trans ?_;rw[Ar e];have e1:=i64_in (((occS z).getD i (0,0)).2-s.1) (by omega);have e2:=i64_in (((occS z).getD i (0,0)).1-s.1) (by omega);simp only[e1,e2];refine(Mf _ _ _ _).trans ?_;by_cases a1:86400<=((occS z).getD i (0,0)).2-s.1
  ·rw[Ao a1]
   have:inI (((occS z).getD i (0,0)).2-s.1) (-86399) 86399=Yi:=by unfold inI;rw[Ar (show ¬((occS z).getD i (0,0)).2-s.1<=86399 by omega),YaX]
   rw[this];rfl
  rw[Ar a1];by_cases a2:((occS z).getD i (0,0)).2-s.1≤-86400
  ·rw[Ao a2]
   have:inI (((occS z).getD i (0,0)).2-s.1) (-86399) 86399=Yi:=by unfold inI;rw[Ar (show ¬(-86399<=((occS z).getD i (0,0)).2-s.1) by omega)];rfl
   rw[this];rfl
  rw[Ar a2,GJ (show-86399<=((occS z).getD i (0,0)).2-s.1/\((occS z).getD i (0,0)).2-s.1<=86399 by omega)];refine c_f.trans ?_;refine(Mf _ _ _ _).trans ?_;cases CV:inI (((occS z).getD i (0,0)).1-s.1) 0 8589934592 with
  |false=>rfl
  |true=>
   refine c_f.trans ?_;have hb:=Qq CV;by_cases a3:(0:Yh)<(s.2.length:Yh)
   ·refine(Ag a3).trans ?_
    rw[i64_in ((s.2.length:Yh)-1) (by omega)];refine(AG (by omega)).trans ?_;rw[show Yl ((s.2.length:Yh)-1)=s.2.length-1 by omega];have h4:=h3 _ (Cn (d:=((0,0):Yh×Yh)) (show s.2.length-1<s.2.length by omega));rw[i64_in _ (by omega),Ao a3];by_cases a4:((occS z).getD i (0,0)).1-s.1<(s.2.getD (s.2.length-1) (0,0)).1+604800
    ·refine(Ag (by omega)).trans ?_
     rw[Ao a4];rfl
    ·refine(Al (by omega)).trans ?_
     rw[Ar a4];exact Cx (show(s.2.length+1)*16<=_ by omega)
   ·refine(Al a3).trans ?_
    rw[Ar a3];exact Cx (show(s.2.length+1)*16<=_ by omega)
 ·simp only[AmI,jD]
  exact Al (by omega)
theorem AIr(z:AF)(k:Yh->Ya β):W9 z k=k (errV (Hi z)):=by
 unfold W9;rw[Ad];unfold AaN;rw[Ad];refine(Mf _ _ _ _).trans ?_;by_cases h0:I5 z=0
 ·have h:=Xz h0
  have hl:=h.l;have hn:=h.n;have e:Hi z=Kw z:=by unfold Hi;rw[Ao h0];rfl
  rw[e,GJ h.o];refine c_f.trans ?_;refine(Al (by omega)).trans ?_;refine(Aq2 hl _ _).trans ?_
  have ha:z.2.2.all G5=Yp:=by
   unfold I5 at h0;rw[GJ h.o,Ar (show ¬(16:Yh)<(z.2.2.length:Yh) by omega)]at h0;cases g:z.2.2.all G5 with
   |true=>rfl
   |false=>rw[g]at h0;cases h0
  rw[ha];refine(Al (show ¬(640:Yh)<((C0 z.2.2).length:Yh) by omega)).trans ?_;refine(AIp h _).trans ?_;refine(AIq h).trans ?_;exact Jd k _
 ·have e:Hi z=.inl (I5 z):=by unfold Hi;rw[Ar h0];rfl
  rw[e];show _=k (I5 z);unfold I5 at h0⊢;cases h1:inI z.2.1 (-64800) 64800 with
  |false=>rfl
  |true=>
   rw[h1]at h0;refine c_f.trans ?_;by_cases h2:(16:Yh)<(z.2.2.length:Yh)
   ·rw[Ao h2];rfl
   ·rw[Ar h2]at h0⊢
    refine c_f.trans ?_;refine(Aq2 (by omega) _ _).trans ?_;cases h3:z.2.2.all G5 with
    |false=>rfl
    |true=>
     rw[h3]at h0;by_cases h4:(640:Yh)<((C0 z.2.2).length:Yh)
     ·rw[Ao h4]
      exact Ag h4
     ·rw[Ar h4]at h0
      exact Y7 rfl h0
theorem AIs{z:AF}(hl:z.2.2.length<=1000)(k:Ys->Ya β):Vd z k=k (Yd (Yv z.2.1 60=0)&&z.2.2.all λr=>decide (Yv r.2.2.2.2.2.2 60=0)):=by
 unfold Vd;rw[Ad];unfold uW;rw[Ad];refine(Ape (λm i ok=>Vc m (λok2=>k ok2) ok i z) (λok r=>ok&&Yd (Yv r.2.2.2.2.2.2 60=0)) (λok=>k ok) (0,0,0,0,0,0,0) z.2.2 (Yd (Yv z.2.1 60=0)) fuel (BB (by omega)) (λm i ok hi=>?_) (λm ok=>?_)).trans (k_eq ?_)
 ·simp only[Aia,dD]
  refine(Ag (by omega)).trans ?_;rw[i64_in ((i:Yh)+1) (by omega)];cases ok with
  |false=>rfl
  |true=>refine c_t.trans ?_;refine(AG (by omega)).trans ?_;rw[Bh];rfl
 ·simp only[Aia,dD]
  exact Al (by omega)
 ·have key:∀(xs:Ye Cj)(b:Ys),xs.foldl (λok r=>ok&&Yd (Yv r.2.2.2.2.2.2 60=0)) b=(b&&xs.all λr=>decide (Yv r.2.2.2.2.2.2 60=0)):=by
   intro xs
   induction xs with
   |nil=>intro b;simp
   |cons x xs ih=>intro b;rw[TP,ih,Rh,Bool.and_assoc]
  exact key _ _
end
end
end Go.Lift
namespace Go.Lift
open Go.RowKit Go.IntWalk
noncomputable section
variable[Sl]
set_option maxRecDepth 10000
section
variable{β:Type}
theorem AIt(z:AF)(K:Yh->Ya β)(b:Ya β):(W9 z λr=>Yk (!Yd (r=0)) (K 8) (Vd z λr=>Yk (!r) (K 8) b))=Yk (!Yd (Eu z=0)) (K (Eu z)) b:=by
 refine(AIr z _).trans ?_;by_cases h0:errV (Hi z)=0
 ·have hl:=(Xz (AcK h0)).l
  refine(CX h0).trans ?_;refine(AIs (by omega) _).trans ?_;unfold Eu;rw[Ao h0];cases Yd (Yv z.2.1 60=0)<;>cases(z.2.2.all λr=>decide (Yv r.2.2.2.2.2.2 60=0))<;>rfl
 ·refine(EF h0).trans ?_
  unfold Eu;rw[Ar h0];rfl
abbrev lenI{α:Type}(i:Yn)(l:Ye α):Prop:=l.length=i
theorem mT{α:Type}{of:α->Ye Yj}{chk:α->Yh}{i:Yn}{x:α}{l l':Ye (Ye Yj)}(h:lenI i l)(hg:FB of chk i x l=.inr l'):lenI (i+1) l':=by
 unfold FB at hg;cases e1:Yd (Eg (of x) l=0)with
 |false=>rw[e1]at hg;cases hg
 |true=>
  rw[e1]at hg;cases e2:Yd (chk x=0)with
  |false=>rw[e2]at hg;cases hg
  |true=>rw[e2]at hg;injection hg with hg;subst hg;show(l++[of x]).length=i+1;rw[AQ,E9,h]
theorem AIu{c:Aj}(hz:c.1.length<=1000)(k:Yh->Ya β):k9 c k=k (G4 (·.1) Eu c.1):=by
 unfold k9;rw[Ad];unfold Abi;rw[Ad];refine(JE lenI (λm i l=>WI m (λt2=>k t2) (λ_=>k 0) i c l) (FB (·.1) Eu) (λe=>k e) (λ_=>k 0) ([],0,[]) c.1 (λi l l' hi hl hg=>mT hl hg) (λm i l hi hl=>?_) (λm l=>?_) c.1 0 fuel [] rfl (by simp) (BB (by omega)) rfl).trans (Jd k _)
 ·have fin:∀g:Ya β,Yk (Yd (0<=(i:Yh))&&Yd ((i:Yh)<(c.1.length:Yh))) g Yf=g:=λg=>AG (by omega)
  have hl:l.length=i:=hl;simp only[Anw,k8,fin,Bh];refine(Ag (by omega)).trans ?_;refine(Cx (show(l.length+1)*16<=_ by omega)).trans ?_;have Ex:=X1 (l:=l) (s:=(c.1.getD i ([],0,[])).1) (by omega) (β:=β);rw[hl]at Ex;refine(Ex _).trans ?_;rw[Oq];refine Aw (Yk _ _) ?_;rw[i64_in ((i:Yh)+1) (by omega)];exact AIt _ _ _
 ·simp only[Anw,k8]
  exact Al (by omega)
theorem AIv{nz:Yh}{i:Yn}{x:AV}{l l':Ye (Ye Yj)}(h:lenI i l)(hg:JD nz i x l=.inr l'):lenI (i+1) l':=by
 unfold JD at hg;cases e1:Yd (Kv nz x l=0)with
 |false=>rw[e1]at hg;cases hg
 |true=>
  rw[e1]at hg;cases e2:Yd (Hh nz x=0)with
  |false=>rw[e2]at hg;cases hg
  |true=>rw[e2]at hg;injection hg with hg;subst hg;show(l++[x.1]).length=i+1;rw[AQ,E9,h]
theorem AIw{n:Yn}(hn:n<=1000)(p:AV)(K:Yh->Ya β)(b:Ya β):(FY p.2.1 0 (Yc.wrap ((n:Yh)-1)) λr=>Yk (!r) (K 3) (RT p.2.2.1 λr=>Yk (!Yd (r=0)) (K 8) (PQ p.2.2.2.1 λr=>Yk (!r) (K 1) (PQ p.2.2.2.2.1 λr=>Yk (!r) (K 1) b))))=Yk (Yd (Hh (n:Yh) p=0)) b (K (Hh (n:Yh) p)):=by
 refine(f_ix _ hn _).trans ?_;unfold Hh;cases ixI p.2.1 (n:Yh)with
 |false=>rfl
 |true=>
  refine c_f.trans ?_;refine(ApX _ _).trans ?_;cases Yd (Fl p.2.2.1=0)with
  |false=>rfl
  |true=>
   refine c_f.trans ?_;refine(ApV _ _).trans ?_;cases Kt p.2.2.2.1 with
   |false=>rfl
   |true=>refine c_f.trans ?_;refine(ApV _ _).trans ?_;cases Kt p.2.2.2.2.1<;>rfl
theorem AIx{c:Aj}(hz:c.1.length<=1000)(hp:c.2.1.length<=1000)(k:Yh->Ya β):hZ c k=k (Xm (c.1.length:Yh) c.2.1):=by
 unfold hZ;rw[Ad];unfold zU;rw[Ad];refine(JE lenI (λm i l=>Wi m (λt2=>k t2) (λ_=>k 0) i c l) (JD (c.1.length:Yh)) (λe=>k e) (λ_=>k 0) ([],0,[],0,0,Yi) c.2.1 (λi l l' hi hl hg=>AIv hl hg) (λm i l hi hl=>?_) (λm l=>?_) c.2.1 0 fuel [] rfl (by simp) (BB (by omega)) rfl).trans (Jd k _)
 ·have fin:∀g:Ya β,Yk (Yd (0<=(i:Yh))&&Yd ((i:Yh)<(c.2.1.length:Yh))) g Yf=g:=λg=>AG (by omega)
  have hl:l.length=i:=hl;simp only[AlM,hU];refine(Ag (by omega)).trans ?_;refine(fin _).trans ?_;rw[Bh];refine(Cx (show(l.length+1)*16<=_ by omega)).trans ?_;generalize hx:c.2.1.getD i ([],0,[],0,0,Yi)=x;unfold JD Kv;show Yk (Yd (x.1=Qn)) _ _=_;cases Yd (x.1=Qn)with
  |true=>rfl
  |false=>
   refine c_f.trans ?_;have Ex:=X1 (l:=l) (s:=x.1) (by omega) (β:=β);rw[hl]at Ex;refine(Ex _).trans ?_;show Yk (!Yd (Eg x.1 l=0)) _ _=sumK _ _ (Yk (Yd (Eg x.1 l=0)) _ _);cases Yd (Eg x.1 l=0)with
   |false=>rfl
   |true=>refine c_f.trans ?_;rw[i64_in ((i:Yh)+1) (by omega)];refine(AIw hz x (λe=>k e) _).trans ?_;cases Yd (Hh (c.1.length:Yh) x=0)<;>rfl
 ·simp only[AlM,hU]
  exact Al (by omega)
theorem AIy(n:Yh):inI n 0 98980=dayI n:=by unfold inI dayI;congr 1;exact Rf.2 (by omega)
theorem AIz{k1:zW β}{k2:zX β}{i_:Yh}{c:Aj}{l:Ye (Ye Yj)}{x:Bm}(hl:x.2.2.length<=100):iA k1 k2 i_ 0 c l x=Yk (x.2.2.all dayI) (k2 i_ c l x) (k1 1):=by
 unfold iA;rw[Ad];refine Ks (λm i=>Wj m k1 k2 i_ i c l x) dayI (k1 1) (k2 i_ c l x) 0 x.2.2 fuel (BB (by omega)) (λm i hi=>?_) (λm=>?_)
 ·simp only[AlR,i8]
  refine(Ag (by omega)).trans ?_;refine(AG (by omega)).trans ?_;rw[Bh,i64_in ((i:Yh)+1) (by omega)];refine(SN _).trans ?_;refine(f_in _ _ _ _).trans ?_;rw[AIy];cases dayI (x.2.2.getD i 0)<;>rfl
 ·simp only[AlR,i8]
  exact Al (by omega)
theorem AIA{k1:zZ β}{k2:Aa0 β}{i_:Yh}{c:Aj}{l:Ye (Ye Yj)}{x:Bm}(hl:x.2.2.length<=100):iB k1 k2 i_ 1 c l x=sumK (λe=>k1 e) (λ_=>k2 i_ c l) (walk (ascG x.2.2) x.2.2 0 ()):=by
 unfold iB;rw[Ad];obtain⟨ds,Fy⟩:∃ds,x.2.2=ds:=⟨_,rfl⟩
 have h2:∀(m:Yn),So (m+1) k1 k2 i_ (x.2.2.length:Yh) c l x=k2 i_ c l:=λm=>by simp only[Aa2,Wk];exact Al (by omega)
 cases ds with
 |nil=>rw[Fy];obtain⟨m,hm⟩:∃m,fuel=m+1:=⟨fuel-1,rfl⟩;rw[hm];simp only[Aa2,Wk,Fy];rfl
 |cons d ds=>
  have e:walk (ascG x.2.2) x.2.2 0 ()=walk (ascG x.2.2) ds 1 ():=by rw[Fy];rfl
  rw[e];refine JE (λi(_:Unit)=>1<=i) (λm i(_:Unit)=>So m k1 k2 i_ i c l x) (ascG x.2.2) (λe=>k1 e) (λ_=>k2 i_ c l) 0 x.2.2 (λi s s' hi h1 _=>by omega) (λm i s hi h1=>?_) (λm s=>h2 m) ds 1 fuel () (by rw[Fy];rfl) (by rw[Fy,B9];omega) (BB (by rw[Fy,B9]at hl;omega)) (Av _);have fin:∀g:Ya β,Yk (Yd (0<=(i:Yh))&&Yd ((i:Yh)<(x.2.2.length:Yh))) g Yf=g:=λg=>AG (by omega);simp only[Aa2,Wk,fin,Bh];refine(Ag (by omega)).trans ?_;rw[i64_in ((i:Yh)+1) (by omega),i64_in ((i:Yh)-1) (by omega)];refine(AG (by omega)).trans ?_;unfold ascG;rw[show((i:Yh)-1).toNat=i-1 by omega,Ao (show(0:Yh)<(i:Yh) by omega)];cases Yd (x.2.2.getD i 0<=x.2.2.getD (i-1) 0)<;>rfl
theorem Aqb:∀{xs:Ye Yh}{l:Ye Yh}{j:Yn}{e:Yh},walk (ascG l) xs j ()=.inl e->e≠0
 |[],l,j,e,h=>by cases h
 |x::xs,l,j,e,h=>by
  unfold walk ascG at h;cases g:(Yd (0<(j:Yh))&&Yd (x<=l.getD (j-1) 0))with
  |true=>rw[g]at h;injection h with h;rw[<-h];decide
  |false=>rw[g]at h;exact Aqb h
theorem AIB{c:Aj}(hz:c.1.length<=1000)(hc:c.2.2.1.length<=1000)(k:Yh->Ya β):iD c k=k (G4 (·.1) (calV (c.1.length:Yh)) c.2.2.1):=by
 unfold iD;rw[Ad];unfold Aa3;rw[Ad];refine(JE lenI (λm i l=>Wl m (λt2=>k t2) (λ_=>k 0) i c l) (FB (·.1) (calV (c.1.length:Yh))) (λe=>k e) (λ_=>k 0) ([],0,[]) c.2.2.1 (λi l l' hi hl hg=>mT hl hg) (λm i l hi hl=>?_) (λm l=>?_) c.2.2.1 0 fuel [] rfl (by simp) (BB (by omega)) rfl).trans (Jd k _)
 ·have fin:∀g:Ya β,Yk (Yd (0<=(i:Yh))&&Yd ((i:Yh)<(c.2.2.1.length:Yh))) g Yf=g:=λg=>AG (by omega)
  have hl:l.length=i:=hl;simp only[AlS,iC];refine(Ag (by omega)).trans ?_;refine(fin _).trans ?_;rw[Bh];refine(Cx (show(l.length+1)*16<=_ by omega)).trans ?_;generalize hx:c.2.2.1.getD i ([],0,[])=x;have Ex:=X1 (l:=l) (s:=x.1) (by omega) (β:=β);rw[hl]at Ex;refine(Ex _).trans ?_;rw[Oq];refine Aw (Yk _ _) ?_;refine(f_ix _ hz _).trans ?_;unfold calV;cases ixI x.2.1 (c.1.length:Yh)with
  |false=>rfl
  |true=>
   refine c_f.trans ?_;by_cases h4:(64:Yh)<(x.2.2.length:Yh)
   ·rw[Ao h4];rfl
   ·rw[Ar h4]
    refine c_f.trans ?_;refine(AIz (by omega)).trans ?_;cases x.2.2.all dayI with
    |false=>rfl
    |true=>
     refine c_t.trans ?_;refine(AIA (by omega)).trans ?_;rw[i64_in ((i:Yh)+1) (by omega)];cases hw:walk (ascG x.2.2) x.2.2 0 ()with
     |inr _=>rfl
     |inl e=>exact(EF (Aqb hw)).symm
 ·simp only[AlS,iC]
  exact Al (by omega)
theorem Aqc{α:Type}{of:α->Ye Yj}{chk:α->Yh}:∀{xs:Ye α}{j:Yn}{l:Ye (Ye Yj)}{e:Yh},walk (FB of chk) xs j l=.inl e->e≠0
 |[],j,l,e,h=>by cases h
 |x::xs,j,l,e,h=>by
  unfold walk FB at h;by_cases h1:Eg (of x) l=0
  ·rw[Ao h1]at h
   by_cases h2:chk x=0
   ·rw[Ao h2]at h;exact Aqc h
   ·rw[Ar h2]at h;injection h with h;exact h▸h2
  ·rw[Ar h1]at h;injection h with h;exact h▸h1
theorem Aqd{np:Yh}:∀{xs:Ye Ed}{j:Yn}{e:Yh},walk (H7 np) xs j ()=.inl e->e≠0
 |[],j,e,h=>by cases h
 |x::xs,j,e,h=>by
  unfold walk H7 at h;by_cases h1:G3 np x=0
  ·rw[Ao h1]at h;exact Aqd h
  ·rw[Ar h1]at h;injection h with h;exact h▸h1
theorem AIC{k1:Aa5 β}{k2:Aa6 β}{i_:Yh}{c:Aj}{l:Ye (Ye Yj)}{s:BC}(hz:c.1.length<=1000)(hp:c.2.1.length<=1000)(hc:c.2.2.1.length<=1000)(hs:s.2.1.length<=100):iH k1 k2 i_ 0 c l s []=sumK (λe=>k1 e) (λ_=>k2 i_ c l s) (walk (FB (·.1) (FJ (c.1.length:Yh) (c.2.1.length:Yh) (c.2.2.1.length:Yh))) s.2.1 0 []):=by
 unfold iH;rw[Ad];refine JE lenI (λm i n=>Wm m k1 k2 i_ i c l s n) (FB (·.1) (FJ (c.1.length:Yh) (c.2.1.length:Yh) (c.2.2.1.length:Yh))) (λe=>k1 e) (λ_=>k2 i_ c l s) ([],0,(0,0),0,0,[],[],0,0) s.2.1 (λi l l' hi hl hg=>mT hl hg) (λm i n hi hl=>?_) (λm n=>?_) s.2.1 0 fuel [] rfl (by simp) (BB (by omega)) rfl
 ·have fin:∀g:Ya β,Yk (Yd (0<=(i:Yh))&&Yd ((i:Yh)<(s.2.1.length:Yh))) g Yf=g:=λg=>AG (by omega)
  have hl:n.length=i:=hl;simp only[AlX,iG,fin,Bh];refine(Ag (by omega)).trans ?_;refine(Cx (show(n.length+1)*16<=_ by omega)).trans ?_;generalize hx:s.2.1.getD i ([],0,(0,0),0,0,[],[],0,0)=x;have Ex:=X1 (l:=n) (s:=x.1) (by omega) (β:=β);rw[hl]at Ex;refine(Ex _).trans ?_;rw[Oq];refine Aw (Yk _ _) ?_;refine(AIk c x hz hp hc _).trans ?_;rw[i64_in ((i:Yh)+1) (by omega)]
 ·simp only[AlX,iG]
  exact Al (by omega)
theorem AID{k1:Aa8 β}{k2:Aa9 β}{i_:Yh}{c:Aj}{l:Ye (Ye Yj)}{s:BC}(hp:c.2.1.length<=1000)(hs:s.2.2.length<=100)(he:∀x∈s.2.2,x.2.2.2.2<=9223372036854775807):iJ k1 k2 i_ 0 c l s=sumK (λe=>k1 e) (λ_=>k2 i_ c l) (walk (H7 (c.2.1.length:Yh)) s.2.2 0 ()):=by
 unfold iJ;rw[Ad];refine JC (λm i(_:Unit)=>Wn m k1 k2 i_ i c l s) (H7 (c.2.1.length:Yh)) (λe=>k1 e) (λ_=>k2 i_ c l) (0,0,0,0,0) s.2.2 () fuel (BB (by omega)) (λm i _ hi=>?_) (λm _=>?_)
 ·have fin:∀g:Ya β,Yk (Yd (0<=(i:Yh))&&Yd ((i:Yh)<(s.2.2.length:Yh))) g Yf=g:=λg=>AG (by omega)
  have hx:=he _ (Cn (d:=((0,0,0,0,0):Ed)) hi);simp only[AlY,iI,fin,Bh];refine(Ag (by omega)).trans ?_;refine(AIi c hp hx _).trans ?_;rw[i64_in ((i:Yh)+1) (by omega)];unfold H7;cases Yd (G3 (c.2.1.length:Yh) (s.2.2.getD i (0,0,0,0,0))=0)<;>rfl
 ·simp only[AlY,iI]
  exact Al (by omega)
theorem AIE{c:Aj}(hz:c.1.length<=1000)(hp:c.2.1.length<=1000)(hc:c.2.2.1.length<=1000)(hs:c.2.2.2.length<=1000)(he:∀s∈c.2.2.2,∀x∈s.2.2,x.2.2.2.2<=9223372036854775807)(k:Yh->Ya β):iL c k=k (G4 (·.1) (I2 (c.1.length:Yh) (c.2.1.length:Yh) (c.2.2.1.length:Yh)) c.2.2.2):=by
 unfold iL;rw[Ad];unfold Aab;rw[Ad];refine(JE lenI (λm i l=>Wo m (λt2=>k t2) (λ_=>k 0) i c l) (FB (·.1) (I2 (c.1.length:Yh) (c.2.1.length:Yh) (c.2.2.1.length:Yh))) (λe=>k e) (λ_=>k 0) ([],[],[]) c.2.2.2 (λi l l' hi hl hg=>mT hl hg) (λm i l hi hl=>?_) (λm l=>?_) c.2.2.2 0 fuel [] rfl (by simp) (BB (by omega)) rfl).trans (Jd k _)
 ·have fin:∀g:Ya β,Yk (Yd (0<=(i:Yh))&&Yd ((i:Yh)<(c.2.2.2.length:Yh))) g Yf=g:=λg=>AG (by omega)
  have hl:l.length=i:=hl;simp only[AlZ,iK];refine(Ag (by omega)).trans ?_;refine(fin _).trans ?_;rw[Bh];refine(Cx (show(l.length+1)*16<=_ by omega)).trans ?_;have ArP:=he _ (Cn (d:=(([],[],[]):BC)) hi);generalize hx:c.2.2.2.getD i ([],[],[])=x at ArP;have Ex:=X1 (l:=l) (s:=x.1) (by omega) (β:=β);rw[hl]at Ex;refine(Ex _).trans ?_;rw[Oq];refine Aw (Yk _ _) ?_;unfold I2;by_cases h1:(6:Yh)<(x.2.1.length:Yh)
  ·rw[Ao h1];rfl
  rw[Ar h1];refine c_f.trans ?_;by_cases h2:(48:Yh)<(x.2.2.length:Yh)
  ·rw[Ao h2];rfl
  rw[Ar h2];refine c_f.trans ?_;refine(AIC hz hp hc (by omega)).trans ?_;unfold G4;cases hw:walk (FB (·.1) (FJ (c.1.length:Yh) (c.2.1.length:Yh) (c.2.2.1.length:Yh))) x.2.1 0 []with
  |inl e=>have AO:=Aqc hw;show k e=Yk (!Yd (Yk (Yd (e=0)) _ e=0)) (k (Yk (Yd (e=0)) _ e)) _;rw[Ar AO];exact(EF AO).symm
  |inr _=>
   refine(AID hp (by omega) ArP).trans ?_;rw[i64_in ((i:Yh)+1) (by omega)];show _=Yk (!Yd (errV (walk (H7 (c.2.1.length:Yh)) x.2.2 0 ())=0)) (k (errV (walk (H7 (c.2.1.length:Yh)) x.2.2 0 ()))) _;cases QO:walk (H7 (c.2.1.length:Yh)) x.2.2 0 ()with
   |inr _=>rfl
   |inl e=>exact(EF (Aqd QO)).symm
 ·simp only[AlZ,iK]
  exact Al (by omega)
theorem mU{c:Aj}(he:∀s∈c.2.2.2,∀x∈s.2.2,x.2.2.2.2<=9223372036854775807)(k:Yh->Ya β):S9 c k=k (Gi Eu c):=by
 unfold S9;rw[Ad];unfold Gi;by_cases h1:(16:Yh)<(c.1.length:Yh)
 ·refine(Ag h1).trans ?_
  rw[Ao h1];rfl
 refine(Al h1).trans ?_;rw[Ar h1];by_cases h2:(32:Yh)<(c.2.1.length:Yh)
 ·refine(Ag h2).trans ?_
  rw[Ao h2];rfl
 refine(Al h2).trans ?_;rw[Ar h2];by_cases h3:(8:Yh)<(c.2.2.1.length:Yh)
 ·refine(Ag h3).trans ?_
  rw[Ao h3];rfl
 refine(Al h3).trans ?_;rw[Ar h3];by_cases h4:(12:Yh)<(c.2.2.2.length:Yh)
 ·refine(Ag h4).trans ?_
  rw[Ao h4];rfl
 refine(Al h4).trans ?_;rw[Ar h4];refine(AIu (by omega) _).trans ?_;refine Xn ?_;refine(AIx (by omega) (by omega) _).trans ?_;refine Xn ?_;refine(AIB (by omega) (by omega) _).trans ?_;refine Xn ?_;exact AIE (by omega) (by omega) (by omega) (by omega) he _
end
end
end Go.Lift
namespace Go.Lift
open Go.RowKit Go.IntWalk
noncomputable section
variable[Sl]
set_option maxRecDepth 10000
def Lf(w:Ye AF)(w2:Ye AV)(w3:Ye Bm)(s:BC):Ye (Ye Tok):=
 [wd schW,wd s.1]::(s.2.1.flatMap (I4 w w2 w3)++s.2.2.map (Me w2))
def K7(c:Aj):Ye (Ye Tok):=c.1.flatMap HV++(c.2.1.flatMap (HW c.1)++(c.2.2.1.flatMap (I3 c.1)++c.2.2.2.flatMap (Lf c.1 c.2.1 c.2.2.1)))
theorem Je{α γ:Type}{f:α->Ye γ}{xs:Ye α}{B:Yn}(h:∀x∈xs,(f x).length<=B):(xs.flatMap f).length<=xs.length*B:=by
 induction xs with
 |nil=>simp
 |cons x xs ih=>have h1:=h x (Ha ..);have h2:=ih λy hy=>h y (DX _ hy);rw[Pd,AQ,B9,LC];omega
theorem SR{z:AF}(h:ZoneOk z):(HV z).length<=17:=by have:=h.l;unfold HV;simp;omega
theorem SS{nz:Yh}{w:Ye AF}{p:AV}(h:PerF nz p):(HW w p).length<=15:=by have:=h.q.1;unfold HW;simp;omega
theorem Aqe(l:Ye Yh):(ET l).length<=2:=by
 unfold ET;by_cases h:l=[]
 ·rw[Y1 h];simp
 ·rw[Yy h]
  by_cases h2:l.length<=32
  ·rw[Y1 h2];simp
  ·rw[Yy h2];simp
theorem SU{w:Ye AF}{c:Bm}:(I3 w c).length<=3:=by have:=Aqe c.2.2;unfold I3;simp;omega
theorem SV{nz np nc:Yh}{w:Ye AF}{w2:Ye AV}{w3:Ye Bm}{l:Bz}(h:LayF nz np nc l):(I4 w w2 w3 l).length<=17:=by
 have:=h.w.1;unfold I4 Qs;by_cases h:l.2.2.2.2.2.2.2.2=0
 ·rw[Y1 h];simp;omega
 ·rw[Yy h];simp;omega
structure SchG (nz np nc:Yh) (s:BC):Prop where
 l:s.2.1.length<=6
 ls:∀l∈s.2.1,LayF nz np nc l/\CP l.1=Yp
 e:s.2.2.length<=48
 es:∀x∈s.2.2,EdF np x
theorem AcP{nz np nc:Yh}{w:Ye AF}{w2:Ye AV}{w3:Ye Bm}{s:BC}(h:SchG nz np nc s):(Lf w w2 w3 s).length<=151:=by have h1:=h.l;have h2:=h.e;have h3:=Je (f:=I4 w w2 w3) λl hl=>SV (h.ls l hl).1;unfold Lf;rw[B9,AQ,HQ];omega
structure ConfV (c:Aj):Prop where
 lz:c.1.length<=16
 lp:c.2.1.length<=32
 lc:c.2.2.1.length<=8
 ls:c.2.2.2.length<=12
 z:∀z∈c.1,(ZoneOk z/\Ky z=0)/\CP z.1=Yp
 p:∀p∈c.2.1,PerF (c.1.length:Yh) p/\CP p.1=Yp
 x:∀x∈c.2.2.1,CalF (c.1.length:Yh) x/\CP x.1=Yp
 s:∀s∈c.2.2.2,SchG (c.1.length:Yh) (c.2.1.length:Yh) (c.2.2.1.length:Yh) s/\CP s.1=Yp
theorem AcQ{a b:Yh}(h:orV a b=0):a=0/\b=0:=by
 unfold orV at h;by_cases e:a=0
 ·rw[Ao e]at h;exact⟨e,h⟩
 ·rw[Ar e]at h;exact Y7 h e
theorem AIF{nz:Yh}{xs:Ye AV}(h:Xm nz xs=0):∀p∈xs,PerF nz p/\CP p.1=Yp:=by
 refine Xu (g:=JD nz) (λj x s=>?_) (λj x s s' hg=>?_) xs 0 [] h
 ·unfold JD
  by_cases h1:Kv nz x s=0
  ·rw[Ao h1]
   by_cases h2:Hh nz x=0
   ·rw[Ao h2];exact λg=>nomatch g
   ·rw[Ar h2];exact Qr h2
  ·rw[Ar h1];exact Qr h1
 ·unfold JD at hg
  by_cases h1:Kv nz x s=0
  ·rw[Ao h1]at hg
   by_cases h2:Hh nz x=0
   ·have h3:=Apo h1
    refine⟨AHV h2,?_⟩;unfold Eg at h3;cases hn:CP x.1 with
    |true=>rfl
    |false=>rw[hn]at h3;cases h3
   ·rw[Ar h2]at hg;cases hg
  ·rw[Ar h1]at hg;cases hg
theorem X2{c:Aj}(he:∀s∈c.2.2.2,∀x∈s.2.2,x.2.2.2.2<=9223372036854775807)(h:Gi Eu c=0):ConfV c:=by unfold Gi at h;obtain⟨h1,h⟩:=cz h;obtain⟨h2,h⟩:=cz h;obtain⟨h3,h⟩:=cz h;obtain⟨h4,h⟩:=cz h;obtain⟨hz,h⟩:=AcQ h;obtain⟨hp,h⟩:=AcQ h;obtain⟨hx,hs⟩:=AcQ h;have g1:=df h1;have g2:=df h2;have g3:=df h3;have g4:=df h4;refine⟨by omega,by omega,by omega,by omega,λz hm=>⟨AIc (Ow hz z hm).1,(Ow hz z hm).2⟩,AIF hp,λx hm=>⟨AHW (Ow hx x hm).1,(Ow hx x hm).2⟩,λs hm=>⟨?_,(Ow hs s hm).2⟩⟩;have g:=AcH (Ow hs s hm).1;exact⟨g.l,g.ls,g.e,λx hx=>ed_f (g.es x hx) (he s hm x hx)⟩
section
variable{β:Type}
theorem AIG{w:Ye AF}{w2:Ye AV}{w3:Ye Bm}{w4 ss:Ye BC}{n i:Yh}{es:Ye Ed}(he:es.length<=48)(hs:∀x∈es,EdF (w2.length:Yh) x)(ls:Ye (Ye Tok))(h1:ls.length<=100000)(k:Ach β):SG k ss n i es (es.length:Yh) 0 w w2 w3 w4 (numb 0 ls)=k ss n i w w2 w3 w4 (numb 0 (ls++es.map (Me w2))):=by
 unfold SG;rw[Ad,<-Md];refine Gj (λm i' s=>Xh m k ss n i es (es.length:Yh) i' w w2 w3 w4 (numb 0 s)) (λx=>[Me w2 x]) (λs=>k ss n i w w2 w3 w4 (numb 0 s)) (0,0,0,0,0) es ls 1 (by omega) (λ_ _=>by simp) (λm i' t hi ht=>?_) λm t=>?_
 ·have hx:=hs _ (Cn (d:=((0,0,0,0,0):Ed)) hi)
  simp only[Ap8,lX];refine(Ag (by omega)).trans ?_;refine(AG (by omega)).trans ?_;rw[Bh];refine(AI4 hx t (by omega) _).trans ?_;rw[i64_in ((i':Yh)+1) (by omega)]
 ·simp only[Ap8,lX]
  exact Al (by omega)
theorem AIH{w:Ye AF}{w2:Ye AV}{w3:Ye Bm}{w4 ss:Ye BC}(h3:ss.length<=12)(hs:∀s∈ss,SchG (w.length:Yh) (w2.length:Yh) (w3.length:Yh) s)(ls:Ye (Ye Tok))(h1:ls.length<=10000)(k:WK β):SH k ss (ss.length:Yh) 0 w w2 w3 w4 (numb 0 ls)=k w w2 w3 w4 (numb 0 (ls++ss.flatMap (Lf w w2 w3))):=by
 unfold SH;rw[Ad];refine Gj (λm i s=>Qk m k ss (ss.length:Yh) i w w2 w3 w4 (numb 0 s)) (Lf w w2 w3) (λs=>k w w2 w3 w4 (numb 0 s)) ([],[],[]) ss ls 151 (by omega) (λs h=>AcP (hs s h)) (λm i t hi ht=>?_) λm t=>?_
 ·have hS:=hs _ (Cn (d:=(([],[],[]):BC)) hi)
  have Lu:t.length<=20000:=by omega
  simp only[Ap9,lZ];refine(Ag (by omega)).trans ?_;refine(AG (by omega)).trans ?_;rw[Bh];generalize ss.getD i (([],[],[]):BC)=q at hS;have q1:=hS.l;have q2:=hS.e;refine(H9 _ _).trans ?_;refine(Kz schW _ t (by omega) (by simp) _).trans ?_;unfold Acj;rw[Ad]
  refine(Gj (λm' i' s=>Xg m' (λAex OW QW w5 w6 w7 w8 s Fm=>SG (λZK My N5 w9 w10 w11 w12 C1=>Qk m k ZK My (Yc.wrap (N5+(1:Yh))) w9 w10 w11 w12 C1) Aex OW QW s.2.2 (Yb s.2.2:Yh) (0:Yh) w5 w6 w7 w8 Fm)
   ss (ss.length:Yh) (i:Yh) q.2.1 (q.2.1.length:Yh) i' w w2 w3 w4 q (numb 0 s)) (I4 w w2 w3)
   (λs=>SG (λZK My N5 w9 w10 w11 w12 C1=>Qk m k ZK My (Yc.wrap (N5+(1:Yh))) w9 w10 w11 w12 C1) ss (ss.length:Yh) (i:Yh) q.2.2 (Yb q.2.2:Yh) (0:Yh) w w2 w3 w4 (numb 0 s))
   ([],0,(0,0),0,0,[],[],0,0) q.2.1 (t++[[wd schW,wd q.1]]) 17 (by omega) (λl h=>SV (hS.ls l h).1) (λm' i' t' Nm Lu=>?_) λm' t'=>?_).trans ?_
  ·have hL:=(hS.ls _ (Cn (d:=(([],0,(0,0),0,0,[],[],0,0):Bz)) Nm)).1
   simp only[AQ,E9]at Lu;simp only[Ap7,lW];refine(Ag (by omega)).trans ?_;refine(AG (by omega)).trans ?_;rw[Bh];refine(AI3 hL t' (by omega) _).trans ?_;rw[i64_in ((i':Yh)+1) (by omega)]
  ·simp only[Ap7,lW]
   exact Al (by omega)
  ·have h5:((t++[[wd schW,wd q.1]])++q.2.1.flatMap (I4 w w2 w3)).length<=30000:=by have:=Je (f:=I4 w w2 w3) λl hl=>SV (hS.ls l hl).1;rw[AQ,AQ,E9];omega
   refine(AIG (by omega) hS.es _ (by omega) _).trans ?_;rw[i64_in ((i:Yh)+1) (by omega),C4,C4];rfl
 ·simp only[Ap9,lZ]
  exact Al (by omega)
def stK3(k:Ye (Yh×Ye Tok)->Yh->Ya β):Acd β:=λc4 w9 w10 w11 w12 b=>SH (λ_ _ _ _ b1=>k b1 0) c4.2.2.2 (c4.2.2.2.length:Yh) 0 w9 w10 w11 w12 b
def stK2(k:Ye (Yh×Ye Tok)->Yh->Ya β):Acb β:=λc4 w9 w10 w11 w12 b=>Xf (stK3 k) c4.2.2.1 (c4.2.2.1.length:Yh) 0 c4 w9 w10 w11 w12 b
def stK1(k:Ye (Yh×Ye Tok)->Yh->Ya β):Ac9 β:=λc4 w9 w10 w11 w12 b=>Xd (stK2 k) c4.2.1 (c4.2.1.length:Yh) 0 c4 w9 w10 w11 w12 b
theorem AII{c:Aj}(h:ConfV c)(h0:Gi Eu c=0)(k:Ye (Yh×Ye Tok)->Yh->Ya β):Ql c k=k (numb 0 (K7 c)) 0:=by
 obtain⟨z,p,x,s⟩:=c;have l1:z.length<=16:=h.lz;have l2:p.length<=32:=h.lp;have l3:x.length<=8:=h.lc;have l4:s.length<=12:=h.ls;have z1:=Je (f:=HV) λy(hy:y∈z)=>SR (h.z y hy).1.1;have z2:=Je (f:=HW z) λy(hy:y∈p)=>SS (h.p y hy).1;have z3:=Je (f:=I3 z) λy(hy:y∈x)=>SU;unfold Ql;rw[Ad];refine(App _ Eu (λy hy k=>Aq3 y k) _).trans ?_;rw[h0];refine(CX rfl).trans ?_;show lT (stK1 k) z (z.length:Yh) 0 (z,p,x,s) z p x s (numb 0 [])=_;unfold lT;rw[Ad];refine(Gj (λm i t=>Xb m (stK1 k) z (z.length:Yh) i (z,p,x,s) z p x s (numb 0 t)) HV (λt=>Xd (stK2 k) p (p.length:Yh) 0 (z,p,x,s) z p x s (numb 0 t)) ([],0,[]) z [] 17 (by omega) (λy hy=>SR (h.z y hy).1.1) (λm i t hi ht=>?_) λm t=>?_).trans ?_
 ·simp only[Ft]at ht
  simp only[Ap4,lS];refine(Ag (by omega)).trans ?_;refine(AG (by omega)).trans ?_;rw[Bh];refine(AHY (h.z _ (Cn hi)).1.1 t (by omega) _).trans ?_;rw[i64_in ((i:Yh)+1) (by omega)]
 ·simp only[Ap4,lS]
  exact Al (by omega)
 unfold Xd;rw[Ad,GA];refine(Gj (λm i t=>Xc m (stK2 k) p (p.length:Yh) i (z,p,x,s) z p x s (numb 0 t)) (HW z) (λt=>Xf (stK3 k) x (x.length:Yh) 0 (z,p,x,s) z p x s (numb 0 t)) ([],0,[],0,0,Yi) p (z.flatMap HV) 15 (by omega) (λy hy=>SS (h.p y hy).1) (λm i t hi ht=>?_) λm t=>?_).trans ?_
 ·simp only[Ap5,lU]
  refine(Ag (by omega)).trans ?_;refine(AG (by omega)).trans ?_;rw[Bh];refine(AHZ (h.p _ (Cn hi)).1 t (by omega) _).trans ?_;rw[i64_in ((i:Yh)+1) (by omega)]
 ·simp only[Ap5,lU]
  exact Al (by omega)
 unfold Xf;rw[Ad];refine(Gj (λm i t=>Xe m (stK3 k) x (x.length:Yh) i (z,p,x,s) z p x s (numb 0 t)) (I3 z) (λt=>SH (λ_ _ _ _ b1=>k b1 0) s (s.length:Yh) 0 z p x s (numb 0 t)) ([],0,[]) x (z.flatMap HV++p.flatMap (HW z)) 3 (by omega) (λy hy=>SU) (λm i t hi ht=>?_) λm t=>?_).trans ?_
 ·have hc:=(h.x _ (Cn (d:=(([],0,[]):Bm)) hi)).1
  rw[AQ]at ht;simp only[Ap6,lV];refine(Ag (by omega)).trans ?_;refine(AG (by omega)).trans ?_;rw[Bh];refine(AI0 hc.z hc.l t (by omega) _).trans ?_;rw[i64_in ((i:Yh)+1) (by omega)]
 ·simp only[Ap6,lV]
  exact Al (by omega)
 refine(AIH (show s.length<=12 by omega) (λy hy=>(h.s y hy).1) _ (by rw[AQ,AQ];omega) _).trans ?_;unfold K7;rw[C4,C4]
end
end
end Go.Lift
namespace Go.Lift
open Go.RowKit Go.IntWalk
noncomputable section
variable[Sl]
set_option maxRecDepth 10000
def Txt(t:Tok)(s:Ye Yj):Prop:=∀{β:Type}(k:Ye Yj->Yh->Ya β),Wy t k=k s 0
def RTxt(t:Tok)(s:Ye Yj):Prop:=∀{β:Type}(k:Ye Yj->Yh->Ya β),Lc t k=k s 0
theorem Txt.uniq{t:Tok}{s s':Ye Yj}(h:Txt t s)(h':Txt t s'):s=s':=
 Pg ((h λa _=>some a).symm.trans (h' λa _=>some a))
def txOf(t:Tok):Ye Yj:=by
 classical exact if h:∃s,Txt t s then Classical.choose h else []
theorem AIJ{t:Tok}{s:Ye Yj}(h:Txt t s):txOf t=s:=by have hx:∃s,Txt t s:=⟨s,h⟩;unfold txOf;rw[dif_pos hx];exact Txt.uniq (t:=t) (Classical.choose_spec hx) h
structure TokG (t:Tok):Prop where
 txt:Txt t (txOf t)
 rtx:RTxt t (txOf t)
 len:(txOf t).length<=24
theorem Qt{t:Tok}{s:Ye Yj}(h1:Txt t s)(h2:RTxt t s)(h3:s.length<=24):TokG t:=by have e:=AIJ h1;exact⟨by rw[e];exact h1,by rw[e];exact h2,by rw[e];exact h3⟩
def HA(ts:Ye Tok):Ye Yj:=Yay (ts.map txOf) [32]
structure LineG (ts:Ye Tok):Prop where
 form:∀{β:Type}(k:Ys->Ya β),EQ ts k=k Yp
 rform:∀{β:Type}(k:Ys->Ya β),Fk ts k=k Yp
 toks:∀t∈ts,TokG t
 few:ts.length<=100
theorem Aqf:∀{ts:Ye Tok},(∀t∈ts,TokG t)->(Yat [32] (ts.map txOf)).length<=25*ts.length
 |[],_=>by simp[Yat]
 |t::r,h=>by have h1:=(h t (Ha ..)).len;have h2:=Aqf (ts:=r) λx hx=>h x (DX _ hx);unfold Yat at h2⊢;simp only[CH,List.flatten_cons,AQ,E9,B9,Ft];omega
theorem AcR{ts:Ye Tok}(h:∀t∈ts,TokG t):(HA ts).length<=25*ts.length:=by
 cases ts with
 |nil=>unfold HA;simp[Lib.join_nil]
 |cons t r=>have h1:=(h t (Ha ..)).len;have h2:=Aqf (ts:=r) λx hx=>h x (DX _ hx);unfold HA;rw[CH,Lib.join_cons,AQ,B9];omega
def Qu(_:Yn)(ts:Ye Tok)(s:Ye Yj):Yh⊕Ye Yj:=Yk (Yd ((512:Yh)<((HA ts).length:Yh))) (.inl 5) (.inr (s++(HA ts++[10])))
def Aqg(ls:Ye (Ye Tok)):Yh⊕Ye Yj:=walk Qu ls 0 []
theorem Aqh{i:Yn}{ts:Ye Tok}{s s':Ye Yj}(h:s.length<=513*i)(hg:Qu i ts s=.inr s'):s'.length<=513*(i+1):=by
 unfold Qu at hg;by_cases h1:(512:Yh)<((HA ts).length:Yh)
 ·rw[Ao h1]at hg;cases hg
 ·rw[Ar h1]at hg
  injection hg with hg;subst hg;rw[AQ,AQ,E9];omega
section
variable{β:Type}
theorem AIK{ts:Ye Tok}(h:LineG ts)(n:Yh)(k:Ye Yj->Yh->Ya β):jH (n,ts) k=Yk (Yd ((512:Yh)<((HA ts).length:Yh))) (k [] 5) (k (HA ts) 0):=by
 have hl:=h.few;have hr:=AcR h.toks;unfold jH;rw[Ad];unfold AaQ;rw[Ad];refine(h.form _).trans ?_;refine c_f.trans ?_
 refine(Gj (λm i s=>W0 m (λt2 t3=>k t2 t3) (λwords=>
   Yk (Yd (Yb words<=140737488355328)&&Yd (Yb (Yay words ([32]:Ye Yj))<=140737488355328))
   (Yk (Yd ((512:Yh)<(Yb (Yay words ([32]:Ye Yj)):Yh))) (k ([]:Ye Yj) (5:Yh)) (k (Yay words ([32]:Ye Yj)) (0:Yh))) Yf) ts (ts.length:Yh) i s)
  (λt=>[txOf t]) (λwords=>
   Yk (Yd (Yb words<=140737488355328)&&Yd (Yb (Yay words ([32]:Ye Yj))<=140737488355328))
   (Yk (Yd ((512:Yh)<(Yb (Yay words ([32]:Ye Yj)):Yh))) (k ([]:Ye Yj) (5:Yh)) (k (Yay words ([32]:Ye Yj)) (0:Yh))) Yf)
  (0,[],0) ts [] 1 (by omega) (λ_ _=>by simp) (λm i s hi hs=>?_) λm s=>?_).trans ?_
 ·simp only[Ft]at hs
  simp only[AmQ,jG];refine(Ag (by omega)).trans ?_;refine(AG (by omega)).trans ?_;rw[Bh];refine((h.toks _ (Cn hi)).txt _).trans ?_;refine(CX rfl).trans ?_;refine(Cx (show(s.length+1)*16<=_ by omega)).trans ?_;rw[i64_in ((i:Yh)+1) (by omega)]
 ·simp only[AmQ,jG]
  exact Al (by omega)
 ·rw[GA,Md]
  show Yk (Yd ((ts.map txOf).length<=140737488355328)&&Yd ((HA ts).length<=140737488355328)) (Yk (Yd ((512:Yh)<((HA ts).length:Yh))) (k [] 5) (k (HA ts) 0)) Yf=_;rw[Ao (show(ts.map txOf).length<=140737488355328 by rw[HQ];omega),Ao (show(HA ts).length<=140737488355328 by omega)];rfl
theorem AcS:∀(ls:Ye (Ye Tok))(n i:Yn),i<ls.length->((numb n ls).getD i (0,[])).2=ls.getD i []
 |[],_,_,h=>Y7 h (KP _)
 |t::r,n,0,_=>rfl
 |t::r,n,i+1,h=>AcS r (n+1) i (by simpa using h)
theorem AIL(a b:Ye Yj):Du (a++b)=Du a++Du b:=by simp[Du]
theorem Aqi(a:Ye Yj):(Du a).length=a.length:=by simp[Du]
theorem AIM(a:Ye Yj):NF (Du a)=Yp:=by unfold NF Du;rw[FG];intro n hn;obtain⟨c,_,rfl⟩:=Hb.1 hn;have:=c.toNat_lt;simp;omega
def mV(k:Ye Yj->Yh->Ya β)(ls:Ye (Ye Tok)):Ya β:=sumK (λe=>k [] e) (λs=>Yk (Yd ((65536:Yh)<(s.length:Yh))) (k [] 5) (k s 0)) (Aqg ls)
theorem AIN{ls:Ye (Ye Tok)}(h:∀ts∈ls,LineG ts)(hn:ls.length<=10000)(k:Ye Yj->Yh->Ya β):jV (numb 0 ls) k=mV k ls:=by
 unfold jV;rw[Ad];unfold Aba;rw[Ad,Ma]
 refine(JE (λi(s:Ye Yj)=>s.length<=513*i) (λm i s=>WE m (λt2 t3=>k t2 t3) (λCk=>Yk (Yd ((65536:Yh)<(Yb Ck:Yh))) (k ([]:Ye Yj) (5:Yh)) (Yk (NF Ck) (k (Hc Ck) (0:Yh)) Yf)) (numb 0 ls) (ls.length:Yh) i (Du s))
  Qu (λe=>k [] e) (λs=>Yk (Yd ((65536:Yh)<(s.length:Yh))) (k [] 5) (k s 0)) [] ls (λi s s' hi hs hg=>Aqh hs hg) (λm i s hi hs=>?_) (λm s=>?_) ls 0 fuel [] rfl (by simp) (BB (by omega)) (by simp))
 ·have hL:=h _ (Cn (d:=([]:Ye Tok)) hi)
  have h1:=AcR hL.toks;have h2:=hL.few;have hs:s.length<=513*i:=hs;simp only[Ann,jU];refine(Ag (by omega)).trans ?_;refine(AG (by rw[Ma];omega)).trans ?_;rw[Bh];have e:(numb 0 ls).getD i ((0:Yh),([]:Ye Tok))=(((numb 0 ls).getD i (0,[])).1,ls.getD i []):=by rw[<-AcS ls 0 i hi]
  rw[e];refine(AIK hL _ _).trans ?_;unfold Qu;by_cases g:(512:Yh)<((HA (ls.getD i [])).length:Yh)
  ·rw[Ao g];rfl
  ·rw[Ar g]
   refine c_f.trans ?_;refine(CX rfl).trans ?_;refine(Ag (by simp only[E9];omega)).trans ?_;refine(Ag (by rw[Aqi];simp only[AQ,E9];omega)).trans ?_;rw[i64_in ((i:Yh)+1) (by omega),<-AIL];rfl
 ·simp only[Ann,jU]
  refine(Al (by omega)).trans ?_;rw[Aqi,AIM,tR];rfl
theorem Aqj{k1:jW β}{k2:jX β}{l:Ye (Yh×Ye Tok)}{out:Ye Yj}{i:Yn}(hi:i<l.length){ts:Ye Tok}(e:(l.getD i (0,[])).2=ts)(h:∀t∈ts,TokG t)(hf:ts.length<=100):∀(r:Ye Tok)(j m:Yn)(s:Ye Yj),ts.drop j=r->j+r.length=ts.length->r.length<m->1<=j->s.length<=25*j->WG m k1 k2 l out (i:Yh) s (j:Yh)=k2 l out (i:Yh) (s++Yat [32] (r.map txOf))
 |r,j,0,_,_,_,hm,_,_=>Y7 hm (KP _)
 |[],j,m+1,s,hd,hj,_,_,_=>by have fin:∀g:Ya β,Yk (Yd (0<=(i:Yh))&&Yd ((i:Yh)<(l.length:Yh))) g Yf=g:=λg=>AG (by omega);simp only[Ft]at hj;simp only[Abf,WF];refine(fin _).trans ?_;rw[Bh,e];refine(Al (by omega)).trans ?_;simp[Yat]
 |t::r,j,m+1,s,hd,hj,hm,h1,hs=>by
  have fin:∀g:Ya β,Yk (Yd (0<=(i:Yh))&&Yd ((i:Yh)<(l.length:Yh))) g Yf=g:=λg=>AG (by omega);simp only[B9]at hj hm;have h3:j<ts.length:=by omega
  have hx:ts.getD j (0,[],0)=t:=by rw[JW h3]at hd;injection hd with BH BI;simp[Ym,h3,BH]
  have hr:ts.drop (j+1)=r:=by rw[JW h3]at hd;injection hd with BH BI
  have hT:=h t (hx▸Cn h3);have AU:=hT.len;simp only[Abf,WF];refine(fin _).trans ?_;rw[Bh,e];refine(Ag (by omega)).trans ?_;refine(fin _).trans ?_;refine(AG (by omega)).trans ?_;rw[Bh,hx];refine(hT.rtx _).trans ?_;refine(CX rfl).trans ?_;refine(Ag (by omega)).trans ?_;refine(Ag (show s.length+1<=9223372036854775807 by omega)).trans ?_;refine(Ag (by rw[AQ,E9];omega)).trans ?_;rw[i64_in ((j:Yh)+1) (by omega)];refine(Aqj hi e h hf r (j+1) m (s++[32]++txOf t) hr (by omega) (by omega) (by omega) (by rw[AQ,AQ,E9];omega)).trans ?_;refine Aw (k2 l out (i:Yh)) ?_;simp[Yat]
theorem AIO{k1:jW β}{k2:jX β}{l:Ye (Yh×Ye Tok)}{out:Ye Yj}{i:Yn}(hi:i<l.length){ts:Ye Tok}(e:(l.getD i (0,[])).2=ts)(h:∀t∈ts,TokG t)(hf:ts.length<=100):jY k1 k2 l out (i:Yh) [] 0=k2 l out (i:Yh) (HA ts):=by
 have fin:∀g:Ya β,Yk (Yd (0<=(i:Yh))&&Yd ((i:Yh)<(l.length:Yh))) g Yf=g:=λg=>AG (by omega);unfold jY;rw[Ad];obtain⟨m,hm⟩:∃m,fuel=m+1:=⟨fuel-1,rfl⟩;have Arr:100<m:=by have:=BB (n:=101) (by omega);omega
 rw[hm];simp only[Abf,WF];refine(fin _).trans ?_;rw[Bh,e];cases ts with
 |nil=>refine(Al (by simp)).trans ?_;unfold HA;simp[Lib.join_nil]
 |cons t r=>have hT:=h t (Ha ..);have AU:=hT.len;rw[B9]at hf;refine(Ag (by rw[B9];omega)).trans ?_;refine(fin _).trans ?_;refine(AG (by rw[B9];omega)).trans ?_;refine(hT.rtx _).trans ?_;refine(CX rfl).trans ?_;refine(Al (by omega)).trans ?_;refine(Ag (by rw[Ft];omega)).trans ?_;refine(Aqj hi e h (by rw[B9];omega) r 1 m ([]++txOf t) rfl (by rw[B9];omega) (by omega) (Av _) (by simpa using DC AU (by decide))).trans ?_;refine Aw (k2 l out (i:Yh)) ?_;unfold HA;rw[CH,Lib.join_cons,GA]
theorem AIP{ls:Ye (Ye Tok)}(h:∀ts∈ls,LineG ts)(hn:ls.length<=10000)(k:Ye Yj->Yh->Ya β):k7 (numb 0 ls) k=mV k ls:=by
 unfold k7;rw[Ad];unfold Abg;rw[Ad]
 refine(JE (λi(s:Ye Yj)=>s.length<=513*i) (λm i s=>WH m (λt2 t3=>k t2 t3) (λout=>Yk (Yd ((65536:Yh)<(Yb out:Yh))) (k ([]:Ye Yj) (5:Yh)) (k out (0:Yh))) (numb 0 ls) s i)
  Qu (λe=>k [] e) (λs=>Yk (Yd ((65536:Yh)<(s.length:Yh))) (k [] 5) (k s 0)) [] ls (λi s s' hi hs hg=>Aqh hs hg) (λm i s hi hs=>?_) (λm s=>?_) ls 0 fuel [] rfl (by simp) (BB (by omega)) (by simp))
 ·have hL:=h _ (Cn (d:=([]:Ye Tok)) hi)
  have h1:=AcR hL.toks;have h2:=hL.few;have hs:s.length<=513*i:=hs;have Jj:i<(numb 0 ls).length:=by rw[Ma];exact hi
  have e:=AcS ls 0 i hi;simp only[Anr,jZ];refine(Ag (by omega)).trans ?_;refine(AG (by omega)).trans ?_;rw[Bh,e];refine(hL.rform _).trans ?_;refine c_f.trans ?_;refine(AIO Jj e hL.toks hL.few).trans ?_;unfold Qu;by_cases g:(512:Yh)<((HA (ls.getD i [])).length:Yh)
  ·rw[Ao g];rfl
  ·rw[Ar g]
   refine c_f.trans ?_;refine(Ag (by rw[E9];omega)).trans ?_;refine(Ag (by rw[AQ,E9];omega)).trans ?_;rw[i64_in ((i:Yh)+1) (by omega)];rfl
 ·simp only[Anr,jZ]
  exact Al (by rw[Ma];omega)
end
end
end Go.Lift
namespace Go.Lift
open Go.RowKit Go.IntWalk
noncomputable section
set_option maxRecDepth 10000
def GK(c:Yj):Prop:=48<=c.toNat/\c.toNat<=57
def valF(a:Yn)(l:Ye Yj):Yn:=l.foldl (λa c=>a*10+(c.toNat-48)) a
theorem Qv{m:Yn}(h:m<10):(Yad (48+m)).toNat=48+m:=by rw[UInt8.toNat_ofNat'];omega
theorem Aqk:∀(u:Yn),(∀c∈Y6 u,GK c)/\valF 0 (Y6 u)=u/\Y6 u≠[]:=by
 intro u
 induction u using Nat.strongRecOn with
 |_ u ih=>
  rw[Y6];split
  ·rename_i h
   refine⟨λc hc=>?_,?_,by simp⟩
   ·simp only[DY]at hc
    subst hc;unfold GK;rw[Qv h];omega
   ·show 0*10+((Yad (48+u)).toNat-48)=u
    rw[Qv h];omega
  ·rename_i h
   obtain⟨h1,h2,h3⟩:=ih (u / 10) (by omega);refine⟨λc hc=>?_,?_,by simp⟩
   ·rcases C5.1 hc with hc|hc
    ·exact h1 c hc
    ·simp only[DY]at hc
     subst hc;unfold GK;rw[Qv (by omega)];omega
   ·unfold valF at h2⊢
    rw[pI,h2];show u / 10*10+((Yad (48+u%10)).toNat-48)=u;rw[Qv (by omega)];omega
end
end Go.Lift
namespace Go.Lift
open Go.RowKit Go.IntWalk
noncomputable section
variable[Sl]
set_option maxRecDepth 10000
def IsNum(n:Yn)(x:Yh)(s:Ye Yj):Prop:=s.length=n/\(∀c∈s,GK c)/\(valF 0 s:Yh)=x
theorem AcT(a:Yn)(l r:Ye Yj):valF a (l++r)=valF (valF a l) r:=by unfold valF;rw[pI]
theorem AcU:∀(l:Ye Yj)(a:Yn),(∀c∈l,GK c)->valF a l<(a+1)*10^l.length
 |[],a,_=>by show a<(a+1)*1;omega
 |c::r,a,h=>by have hc:=h c (by simp);unfold GK at hc;have:=AcU r (a*10+(c.toNat-48)) λx hx=>h x (by simp[hx]);have h2:(a*10+(c.toNat-48)+1)*10^r.length<=((a+1)*10)*10^r.length:=KO _ (by omega);show valF (a*10+(c.toNat-48)) r<(a+1)*10^(r.length+1);rw[Nat.pow_succ,TR (10^r.length) 10,<-aI];omega
theorem X3:∀(n u:Yn),u<10^(n+1)->(Y6 u).length<=n+1
 |0,u,h=>by rw[Y6,dif_pos (show u<10 by omega)];simp
 |n+1,u,h=>by
  rw[Y6];split
  ·simp
  ·have:=X3 n (u / 10) (by rw[Nat.pow_succ]at h;omega)
   rw[AQ,E9];omega
theorem AIQ:∀(u:Yn),0<u->∃c r,Y6 u=c::r/\c.toNat≠48:=by
 intro u
 induction u using Nat.strongRecOn with
 |_ u ih=>
  intro hu;rw[Y6];split
  ·rename_i h
   exact⟨_,[],rfl,by rw[Qv h];omega⟩
  ·rename_i h
   obtain⟨c,r,h1,h2⟩:=ih (u / 10) (by omega) (by omega);exact⟨c,r++_,by rw[h1];rfl,h2⟩
theorem Aql(b:Yj):∀n,Lib.repeatL [b] n=Y8 n b
 |0=>rfl
 |n+1=>by rw[Lib.repeatL,Aql b n];rfl
theorem Aqm:∀n,valF 0 (Y8 n 48)=0
 |0=>rfl
 |n+1=>by rw[pC];exact Aqm n
theorem len2{s:Ye Yj}(h:s.length=2):∃a b,s=[a,b]:=by
 match s,h with
 |[a,b],_=>exact⟨a,b,rfl⟩
theorem len4{s:Ye Yj}(h:s.length=4):∃a b c d,s=[a,b,c,d]:=by
 match s,h with
 |[a,b,c,d],_=>exact⟨a,b,c,d,rfl⟩
theorem AIR{n:Yn}{x:Yh}{s:Ye Yj}(h:IsNum n x s):0<=x/\x<10^n:=by obtain⟨h1,h2,h3⟩:=h;have:=AcU s 0 h2;rw[h1,DZ,Nat.one_mul]at this;rw[<-h3];exact⟨by omega,by exact_mod_cast this⟩
theorem I6{x:Yh}{s:Ye Yj}(h:IsNum 2 x s):0<=x/\x<=99:=by have:=AIR h;omega
section
variable{β:Type}
theorem SW{x:Yh}{n:Yn}(hn:1<=n/\n<=4)(hx:0<=x/\x<10^n):∃s,IsNum n x s/\∀{β:Type}(k:Ye Yj->Ya β),MT x (n:Yh) k=k s:=by
 obtain⟨m,rfl⟩:∃m,n=m+1:=⟨n-1,by omega⟩
 have hu:x.toNat<10^(m+1):=by
  have:=hx.2;have e:((10:Yh)^(m+1))=((10^(m+1):Yn):Yh):=by norm_cast
  rw[e]at this;omega
 have hp:10^(m+1)<=10^4:=Ybh (by omega) hn.2;have AU:=X3 m x.toNat hu;obtain⟨h1,h2,h3⟩:=Aqk x.toNat
 have hi:Lib.itoa x=Y6 x.toNat:=by unfold Lib.itoa;rw[Yy (by omega)]
 refine⟨Y8 (m+1-(Y6 x.toNat).length) 48++Y6 x.toNat,⟨?_,λc hc=>?_,?_⟩,λk=>?_⟩
 ·rw[AQ,N8]
  omega
 ·rcases C5.1 hc with hc|hc
  ·rw[AeH hc]
   unfold GK;decide
  ·exact h1 c hc
 ·rw[AcT,Aqm,h2]
  omega
 ·have nN:0<(Y6 x.toNat).length:=Pa.2 h3
  unfold MT;rw[Ad];unfold Vm UF;refine(c_p2 (by omega) (by omega)).trans ?_;rw[hi];dsimp only;rw[i64_in (((m+1:Yn):Yh)-((Y6 x.toNat).length:Yh)) (by omega)]
  have e:(if(((m+1:Yn):Yh)-((Y6 x.toNat).length:Yh))>(0:Yh)then(((m+1:Yn):Yh)-((Y6 x.toNat).length:Yh))else(0:Yh))=((m+1-(Y6 x.toNat).length:Yn):Yh):=by split<;>omega
  rw[e];unfold vR cK;rw[Bh,Aql];refine(c_p3 (by omega) (by omega) (by rw[E9];omega)).trans ?_;exact Ag (by rw[N8];omega)
end
end
end Go.Lift
namespace Go.Lift
open Go.RowKit Go.IntWalk
noncomputable section
variable[Sl]
set_option maxRecDepth 10000
theorem Aqn:∀(l l':Ye Yj)(a a':Yn),l.length=l'.length->(∀c∈l,GK c)->(∀c∈l',GK c)->valF a l=valF a' l'->a=a'/\l=l'
 |[],[],a,a',_,_,_,h=>⟨h,rfl⟩
 |[],_::_,_,_,h,_,_,_=>by simp at h
 |_::_,[],_,_,h,_,_,_=>by simp at h
 |c::r,c'::r',a,a',hl,h1,h2,h=>by
  have hc:=h1 c (by simp);have GM:=h2 c' (by simp);unfold GK at hc GM;obtain⟨e1,e2⟩:=Aqn r r' (a*10+(c.toNat-48)) (a'*10+(c'.toNat-48)) (by simpa using hl) (λx hx=>h1 x (by simp[hx])) (λx hx=>h2 x (by simp[hx])) h;have e3:c.toNat=c'.toNat:=by omega
  exact⟨by omega,by rw[e2,UInt8.toNat_inj.1 e3]⟩
theorem IsNum.uniq{n:Yn}{x:Yh}{s s':Ye Yj}(h:IsNum n x s)(h':IsNum n x s'):s=s':=
 (Aqn s s' 0 0 (h.1.trans h'.1.symm) h.2.1 h'.2.1 (by have:=h.2.2;have:=h'.2.2;omega)).2
def twoL(n:Yh):Ye Yj:=[Yad (48+(n / 10%10).toNat),Yad (48+(n%10).toNat)]
theorem AcV{n:Yh}(hn:0<=n):IsNum 2 (n%100) (twoL n):=by
 have h1:=Qv (m:=(n / 10%10).toNat) (by omega);have h2:=Qv (m:=(n%10).toNat) (by omega);refine⟨rfl,λc hc=>?_,?_⟩
 ·unfold GK
  rcases Bl.1 hc with rfl|hc
  ·rw[h1];omega
  ·rw[DY.1 hc,h2];omega
 ·show(((0*10+((Yad (48+(n / 10%10).toNat)).toNat-48))*10+((Yad (48+(n%10).toNat)).toNat-48):Yn):Yh)=n%100
  rw[h1,h2];omega
theorem AIS{n m:Yn}{x y:Yh}{a b:Ye Yj}(ha:IsNum n x a)(hb:IsNum m y b)(hm:m=2):IsNum (n+m) (x*100+y) (a++b):=by subst hm;obtain⟨c,d,rfl⟩:=len2 hb.1;refine⟨by rw[AQ,ha.1,hb.1],λz hz=>(C5.1 hz).elim (ha.2.1 z) (hb.2.1 z),?_⟩;have h1:=ha.2.2;have h2:=hb.2.2;rw[AcT];have e1:valF (valF 0 a) [c,d]=(valF 0 a*10+(c.toNat-48))*10+(d.toNat-48):=rfl;have e2:valF 0 [c,d]=(0*10+(c.toNat-48))*10+(d.toNat-48):=rfl;rw[e2]at h2;rw[e1];omega
def fc(c:Yj):Yj:=Yk (Oo (c.toNat:Yh)) 100 c
theorem AIT{c:Yj}(h:GK c):fc c=100:=by unfold GK at h;unfold fc Oo;rw[GJ (by omega)];rfl
theorem Hj:∀{s:Ye Yj},(∀c∈s,GK c)->s.map fc=Y8 s.length 100
 |[],_=>rfl
 |c::r,h=>by rw[CH,B9,pC,AIT (h c (by simp)),Hj λx hx=>h x (by simp[hx])]
theorem mW{c:Yj}{r:Ye Yj}(h:c.toNat<97):CP (c::r)=Yi:=by unfold CP;have:Ku (((c::r).getD 0 0).toNat:Yh)=Yi:=X0 (.inl (by show((c.toNat:Yn):Yh)<97;omega));rw[this];simp
theorem mX{n:Yn}{x:Yh}{s r:Ye Yj}(h:IsNum (n+1) x s):CP (s++r)=Yi:=by
 match s,h with
 |[],h=>exact Y7 h.1 (by simp)
 |c::q,h=>have:=h.2.1 c (by simp);unfold GK at this;exact mW (by omega)
theorem AcW:∀{s:Ye Yj}{i:Yn},i<s.length->Y4 i (Y5 (i+1) s)=[s.getD i 0]
 |[],i,h=>Y7 h (KP _)
 |c::r,0,_=>rfl
 |c::r,i+1,h=>AcW (s:=r) (i:=i) (by simpa using h)
theorem AcX{a b:Yh}(ha:1970<=a)(Nd:a<=b):cntN a<=cntN b:=by unfold cntN;omega
section
variable{β:Type}
theorem Qw{n x:Yh}{s:Ye Yj}(h:IsNum 2 x s)(hn:0<=n/\n<=9999)(hx:n%100=x)(k:Ye Yj->Ya β):J8 n k=k s:=by have e:=(hx▸AcV hn.1:IsNum 2 x (twoL n)).uniq h;unfold J8;rw[Ad];have e1:Yz n 10=n / 10:=F7 hn.1;have e3:Yv (n / 10) 10=n / 10%10:=EO (by omega);have e4:Yv n 10=n%10:=EO hn.1;simp only;rw[e1,i64_in (n / 10) (by omega),e3,e4,i64_in (48+n / 10%10) (by omega),i64_in (48+n%10) (by omega),u8_in (48+n / 10%10) (by omega),u8_in (48+n%10) (by omega)];refine k_eq (Eq.trans ?_ e);show [Yad (48+n / 10%10).toNat,Yad (48+n%10).toNat]=twoL n;unfold twoL;rw[show(48+n / 10%10).toNat=48+(n / 10%10).toNat by omega,show(48+n%10).toNat=48+(n%10).toNat by omega]
theorem AcY{n:Yh}(hn:0<=n/\n<=300000){A B C:Ye Yj}(hA:IsNum 2 (n / 3600) A)(hB:IsNum 2 (n / 60%60) B)(hC:IsNum 2 (n%60) C)(long:Ys)(k:Ye Yj->Ya β):La n long k=k (Yk (long||!Yd (n%60=0)) (A++58::(B++58::C)) (A++58::B)):=by
 have e1:Yz n 3600=n / 3600:=F7 hn.1;have e2:Yz n 60=n / 60:=F7 hn.1;have e3:Yv (n / 60) 60=n / 60%60:=EO (by omega);have e4:Yv n 60=n%60:=EO hn.1;have lA:=hA.1;have lB:=hB.1;have lC:=hC.1
 have fin:(J8 (n%60) λr=>Yk (Yd (Yb ([58]:Ye Yj)+Yb r<=9223372036854775807)) (Yk (Yd (Yb ((A++[58])++B)+Yb (([58]:Ye Yj)++r)<=9223372036854775807)) (k (((A++[58])++B)++(([58]:Ye Yj)++r))) Yf) Yf)=k (A++58::(B++58::C)):=by refine(Qw hC (by omega) (by omega) _).trans ?_;refine(Ag (by rw[lC];decide)).trans ?_;refine(Ag (by simp only[AQ,lA,lB,lC];decide)).trans ?_;exact k_eq (by simp)
 unfold La;rw[Ad];rw[e1,i64_in (n / 3600) (by omega),e2,i64_in (n / 60) (by omega),e3,e4];refine(Qw hA (by omega) (by omega) _).trans ?_;refine(Ag (by rw[lA];decide)).trans ?_;refine(Qw hB (by omega) (by omega) _).trans ?_;refine(Ag (by simp only[AQ,lA,lB];decide)).trans ?_;cases long with
 |true=>exact c_t.trans fin
 |false=>
  refine c_f.trans ?_;by_cases h:n%60=0
  ·refine(CX h).trans ?_
   rw[Ao h];exact k_eq (by simp)
  ·refine(EF h).trans ?_
   rw[Ar h];exact fin
theorem AIU{day y:Yh}(hy:1970<=y/\y<=2240)(h1:cntN y<=day)(h2:day<cntN (y+1))(k1:zB β)(t2:Yh×Yh×Yh):∀(j f:Yn)(y0:Yh),y0+(j:Yh)=y->1970<=y0->j<f->Wc f k1 (day-cntN y0) y0 t2=k1 (day-cntN y) y t2:=by
 have hc:0<=cntN y/\cntN y<=99000:=by unfold cntN;omega
 have hd:day<=200000:=by unfold cntN at h2;omega
 intro j
 induction j with
 |zero=>
  intro f y0 hj h0 hf;obtain⟨f,rfl⟩:∃f',f=f'+1:=⟨f-1,by omega⟩;have e:y0=y:=by omega
  subst e;have hn:=AcX (a:=y0) (b:=y0+1) (by omega) (by omega);have hm:cntN (y0+1)<=100000:=by unfold cntN;omega
  simp only[Alt,gN];rw[i64_in (y0+1) (by omega)];refine(O0 (by omega) _).trans ?_;refine(O0 (by omega) _).trans ?_;rw[i64_in (cntN (y0+1)-cntN y0) (by omega)];exact Al (by omega)
 |succ j ih=>
  intro f y0 hj h0 hf;obtain⟨f,rfl⟩:∃f',f=f'+1:=⟨f-1,by omega⟩;have hn:=AcX (a:=y0) (b:=y0+1) (by omega) (by omega);have hm:=AcX (a:=y0+1) (b:=y) (by omega) (by omega);have hz:0<=cntN y0:=by unfold cntN;omega
  simp only[Alt,gN];rw[i64_in (y0+1) (by omega)];refine(O0 (by omega) _).trans ?_;refine(O0 (by omega) _).trans ?_;rw[i64_in (cntN (y0+1)-cntN y0) (by omega)];refine(Ag (by omega)).trans ?_;refine(O0 (by omega) _).trans ?_;refine(O0 (by omega) _).trans ?_;rw[i64_in (cntN (y0+1)-cntN y0) (by omega),i64_in (day-cntN y0-(cntN (y0+1)-cntN y0)) (by omega),show day-cntN y0-(cntN (y0+1)-cntN y0)=day-cntN (y0+1) by omega];exact ih f (y0+1) (by omega) (by omega) (by omega)
theorem AIV{r y m d:Yh}(hy:0<=y)(hm:1<=m/\m<=12)(hr:sumM (AH y) (m-1).toNat+(d-1)=r)(hd:1<=d/\d<=BZ (AH y) m)(k1:zD β)(t2:Yh×Yh×Yh):∀(j f n:Yn),(n:Yh)+1+(j:Yh)=m->j<f->Wd f k1 (r-sumM (AH y) n) y ((n:Yh)+1) t2=k1 (d-1) y m t2:=by
 have hb:=Ld (AH y) (m-1).toNat;have HE:=On (AH y) m;intro j
 induction j with
 |zero=>
  intro f n hj hf;obtain⟨f,rfl⟩:∃f',f=f'+1:=⟨f-1,by omega⟩;have e:n=(m-1).toNat:=by omega
  have e2:(n:Yh)+1=m:=by omega
  simp only[Alu,gO];rw[e2,e];refine(Oz hy hm _).trans ?_;refine(Al (by omega)).trans ?_;rw[show r-sumM (AH y) (m-1).toNat=d-1 by omega]
 |succ j ih=>intro f n hj hf;obtain⟨f,rfl⟩:∃f',f=f'+1:=⟨f-1,by omega⟩;have hs:sumM (AH y) (n+1)=sumM (AH y) n+BZ (AH y) ((n:Yh)+1):=rfl;have BF:=Apg (AH y) (a:=n+1) (b:=(m-1).toNat) (by omega);have Tc:=Ld (AH y) n;have I9:=On (AH y) ((n:Yh)+1);simp only[Alu,gO];refine(Oz hy (by omega) _).trans ?_;refine(Ag (by omega)).trans ?_;refine(Oz hy (by omega) _).trans ?_;rw[i64_in (r-sumM (AH y) n-BZ (AH y) ((n:Yh)+1)) (by omega),i64_in ((n:Yh)+1+1) (by omega),show r-sumM (AH y) n-BZ (AH y) ((n:Yh)+1)=r-sumM (AH y) (n+1) by omega];have:=ih f (n+1) (by omega) (by omega);rw[show((n+1:Yn):Yh)=(n:Yh)+1 by omega]at this;exact this
theorem AIW{day y m d:Yh}(q:DateIs day y m d)(h:0<=day/\day<98981)(k:Yh×Yh×Yh->Yh->Ya β):gQ day k=k (y,m,d) 0:=by
 have hy:=q.yr;have hm:=q.mo;have Adp:=q.dd;have he:=q.eqn;have HE:=q.dl;have hb:=Ld (AH y) (m-1).toNat;have KH:sumM (AH y) 0=0:=rfl;have XB:cntN 1970=0:=by decide
 have Ax:day<cntN (y+1):=by have h1:=Apf (y:=y) (by omega);rw[<-Aph]at h1;have h2:sumM (AH y) ((m-1).toNat+1)=sumM (AH y) (m-1).toNat+BZ (AH y) (((m-1).toNat:Yh)+1):=rfl;have h3:=Apg (AH y) (a:=(m-1).toNat+1) (b:=12) (by omega);rw[show(((m-1).toNat:Yh)+1)=m by omega]at h2;omega
 unfold gQ;rw[Ad];refine(Al (by omega)).trans ?_;refine(SN _).trans ?_;refine(Al (by omega)).trans ?_;unfold zG;rw[Ad];have g1:=AIU (β:=β) (day:=day) hy (by omega) Ax (λday2 y t2=>gP (λday3 y2 m t22=>k (y2,(m,(Yc.wrap (day3+(1:Yh))))) (0:Yh)) day2 y (1:Yh) t2) ((0:Yh),((0:Yh),(0:Yh))) (y-1970).toNat fuel 1970 (by omega) (by omega) (BB (by omega));rw[XB,Int.sub_zero]at g1;refine g1.trans ?_;unfold gP;rw[Ad];have g2:=AIV (β:=β) (r:=day-cntN y) (y:=y) (m:=m) (d:=d) (by omega) hm (by omega) ⟨Adp.1,HE⟩ (λday3 y2 m t22=>k (y2,(m,(Yc.wrap (day3+(1:Yh))))) (0:Yh)) ((0:Yh),((0:Yh),(0:Yh))) (m-1).toNat fuel 0 (by omega) (BB (by omega));rw[KH,Int.sub_zero]at g2;refine g2.trans ?_;rw[i64_in (d-1+1) (by omega),show d-1+1=d by omega]
theorem AIX{day y m d:Yh}(q:DateIs day y m d)(k:Yh->Yh->Ya β):Qb (y,(m,d)) k=k day 0:=by
 have hy:=q.yr;have hm:=q.mo;have Adp:=q.dd;have he:=q.eqn;have HE:=q.dl;have hb:=Ld (AH y) (m-1).toNat;have KH:sumM (AH y) 0=0:=rfl;have h0:0<=cntN y/\cntN y<=99000:=by unfold cntN;omega
 unfold Qb;rw[Ad];unfold fN;rw[Ad];refine(Ag hy.1).trans ?_;refine(Ag hy.2).trans ?_;refine(Ag hm.1).trans ?_;refine(Ag hm.2).trans ?_;refine(Ag (show(1:Yh)<=d by omega)).trans ?_;refine(Oz (by show 0<=y;omega) hm _).trans ?_;refine(CX HE).trans ?_;refine(O0 (by omega) _).trans ?_;unfold gS;rw[Ad];refine(ApY (y:=y) (by omega) m d (m-1).toNat fuel 0 (cntN y) (by omega) (by omega) (BB (by omega)) (by omega) (by omega) _).trans ?_;simp only;rw[DZ,KH,i64_in (cntN y+(sumM (AH y) (m-1).toNat-0)+d) (by omega),i64_in (cntN y+(sumM (AH y) (m-1).toNat-0)+d-1) (by omega)];refine Aw (λa=>k a 0) ?_;omega
theorem Aqo{day y m d:Yh}(q:DateIs day y m d)(h:0<=day/\day<98981){Y M D:Ye Yj}(hY:IsNum 4 y Y)(hM:IsNum 2 m M)(hD:IsNum 2 d D)(k:Ye Yj->Ya β):Su day k=k (Y++45::(M++45::D)):=by have hy:=q.yr;have hm:=q.mo;have Adp:=q.dd;have t1:=AcV (n:=y / 100) (by omega);have t2:=AcV (n:=y) (by omega);rw[show y / 100%100=y / 100 by omega]at t1;have t3:=AIS t1 t2 rfl;rw[show y / 100*100+y%100=y by omega]at t3;have e:=t3.uniq hY;have l1:=t1.1;have l2:=t2.1;have lM:=hM.1;have lD:=hD.1;unfold Su;rw[Ad];refine(AIW q h _).trans ?_;show J8 (Yc.wrap (Yz y 100)) _=_;rw[F7 (by omega:0<=y),i64_in (y / 100) (by omega)];refine(Qw t1 (by omega) (by omega) _).trans ?_;refine(Qw t2 (by show 0<=y/\y<=9999;omega) rfl _).trans ?_;refine(Ag (by rw[l1,l2];decide)).trans ?_;refine(Ag (by rw[AQ,l1,l2];decide)).trans ?_;refine(Qw hM (by show 0<=m/\m<=9999;omega) (by show m%100=m;omega) _).trans ?_;refine(Ag (by simp only[AQ,l1,l2,lM];decide)).trans ?_;refine(Ag (by simp only[AQ,l1,l2,lM];decide)).trans ?_;refine(Qw hD (by show 0<=d/\d<=9999;omega) (by show d%100=d;omega) _).trans ?_;refine(Ag (by simp only[AQ,l1,l2,lM,lD];decide)).trans ?_;refine k_eq ?_;rw[e];simp
theorem AIY{s:Ye Yj}(hl:s.length<=1000)(k:Ye Yj->Ya β):fE s k=k (s.map fc):=by
 unfold fE;rw[Ad];unfold xW;rw[Ad,<-Md];refine Gj (λm i o=>VK m (λout=>k out) s o i) (λc=>[fc c]) (λo=>k o) (0:Yj) s [] 1 hl (λ_ _=>by simp) (λm i o hi ho=>?_) λm o=>?_
 ·have fin:∀g:Ya β,Yk (Yd (0<=(i:Yh))&&Yd ((i:Yh)<(s.length:Yh))) g Yf=g:=λg=>AG (by omega)
  simp only[Ft]at ho;simp only[Aki,f6];refine(Ag (by omega)).trans ?_;refine(fin _).trans ?_;rw[Bh];refine(ApW _ _).trans ?_;rw[i64_in ((i:Yh)+1) (by omega)];unfold fc;cases Oo ((s.getD i 0).toNat:Yh)with
  |true=>refine c_t.trans ?_;exact Ag (by simp only[E9];omega)
  |false=>
   refine c_f.trans ?_;refine(c_p3 (by omega) (by omega) (by omega)).trans ?_;have e:Y4 i (Y5 ((i:Yh)+1).toNat s)=[s.getD i 0]:=by rw[show((i:Yh)+1).toNat=i+1 by omega];exact AcW hi
   rw[e];exact Ag (by simp only[E9];omega)
 ·simp only[Aki,f6]
  exact Al (by omega)
theorem Aqp{s:Ye Yj}(hd:∀c∈s,GK c)(hl:s.length<=9)(k:Yh->Ya β):J9 s k=k (valF 0 s:Yh):=by
 unfold J9;rw[Ad];unfold vI;rw[Ad];refine(Om (λi(n:Yh)=>n=(valF 0 (s.take i):Yh)) (λm i n=>Vk m (λn=>k n) s n i) (λn c=>10*n+((c.toNat:Yh)-48)) (λn=>k (valF 0 s:Yh)) (0:Yj) s 0 fuel (BB (by omega)) rfl (λi n hi hn=>?_) (λm i n hi hn=>?_) (λm n hn=>?_))
 ·have hc:=hd _ (Cn (d:=(0:Yj)) hi)
  unfold GK at hc;rw[Ot 0 hi,AcT,hn];show 10*(valF 0 (s.take i):Yh)+(((s.getD i 0).toNat:Yh)-48)=((valF 0 (s.take i)*10+((s.getD i 0).toNat-48):Yn):Yh);omega
 ·have hc:=hd _ (Cn (d:=(0:Yj)) hi)
  unfold GK at hc;have hb:=AcU (s.take i) 0 λc hc=>hd c (List.mem_of_mem_take hc);have hp:10^(s.take i).length<=10^9:=Ybh (by omega) (by rw[HP];omega)
  have AOD:0<=n/\n<1000000000:=by
   rw[hn];have:(10:Yn)^9=1000000000:=by decide
   omega
  simp only[AiE,dK];refine(Ag (by omega)).trans ?_;refine(AG (by omega)).trans ?_;rw[Bh,u8_in (((s.getD i 0).toNat:Yh)-48) (by omega),i64_in (((s.getD i 0).toNat:Yh)-48) (by omega),i64_in (10*n) (by omega),i64_in (10*n+(((s.getD i 0).toNat:Yh)-48)) (by omega),i64_in ((i:Yh)+1) (by omega)]
 ·rw[L9]at hn
  simp only[AiE,dK];refine(Al (by omega)).trans ?_;rw[hn]
theorem O2{n:Yn}{x:Yh}{s:Ye Yj}(h:IsNum n x s)(hn:n<=9)(k:Yh->Ya β):J9 s k=k x:=by refine(Aqp h.2.1 (by rw[h.1];exact hn) k).trans ?_;rw[h.2.2]
theorem Aqq{a b c:Yh}(ha:0<=a/\a<=99)(hb:0<=b/\b<=59)(hc:0<=c/\c<=59)(k:Yh->Ya β):VL (λt=>k t) a b c=k (a*3600+b*60+c):=by unfold VL;rw[Ad];unfold xX;refine(Al (by omega)).trans ?_;refine(Al (by omega)).trans ?_;simp only;rw[i64_in (a*3600) (by omega),i64_in (b*60) (by omega),i64_in (a*3600+b*60) (by omega),i64_in (a*3600+b*60+c) (by omega)]
theorem Aqr{a b:Yh}{A B:Ye Yj}(hA:IsNum 2 a A)(hB:IsNum 2 b B)(hb:b<=59)(k:Yh->Ya β):LV (A++58::B) k=k (a*3600+b*60):=by have h1:=I6 hA;have h2:=I6 hB;obtain⟨a1,a2,rfl⟩:=len2 hA.1;obtain⟨b1,b2,rfl⟩:=len2 hB.1;unfold LV;rw[Ad];refine(c_p3 (by decide) (by decide) (by show(2:Yh)<=((5:Yn):Yh);omega)).trans ?_;refine(O2 (s:=[a1,a2]) hA (by decide) _).trans ?_;refine(c_p3 (by decide) (by decide) (by show(5:Yh)<=((5:Yn):Yh);omega)).trans ?_;refine(O2 (s:=[b1,b2]) hB (by decide) _).trans ?_;refine(Al (by show ¬((5:Yn):Yh)=8;omega)).trans ?_;refine(Aqq h1 ⟨h2.1,hb⟩ (by omega) _).trans ?_;rw[Int.add_zero]
theorem Aqs{a b c:Yh}{A B C:Ye Yj}(hA:IsNum 2 a A)(hB:IsNum 2 b B)(hC:IsNum 2 c C)(hb:b<=59)(hc:c<=59)(k:Yh->Ya β):LV (A++58::(B++58::C)) k=k (a*3600+b*60+c):=by have h1:=I6 hA;have h2:=I6 hB;have h3:=I6 hC;obtain⟨a1,a2,rfl⟩:=len2 hA.1;obtain⟨b1,b2,rfl⟩:=len2 hB.1;obtain⟨c1,c2,rfl⟩:=len2 hC.1;unfold LV;rw[Ad];refine(c_p3 (by decide) (by decide) (by show(2:Yh)<=((8:Yn):Yh);omega)).trans ?_;refine(O2 (s:=[a1,a2]) hA (by decide) _).trans ?_;refine(c_p3 (by decide) (by decide) (by show(5:Yh)<=((8:Yn):Yh);omega)).trans ?_;refine(O2 (s:=[b1,b2]) hB (by decide) _).trans ?_;refine(Ag (by show((8:Yn):Yh)=8;omega)).trans ?_;refine(c_p3 (by decide) (by decide) (by show(8:Yh)<=((8:Yn):Yh);omega)).trans ?_;refine(O2 (s:=[c1,c2]) hC (by decide) _).trans ?_;exact Aqq h1 ⟨h2.1,hb⟩ ⟨h3.1,hc⟩ _
theorem Aqt{day y m d:Yh}(q:DateIs day y m d){Y M D:Ye Yj}(hY:IsNum 4 y Y)(hM:IsNum 2 m M)(hD:IsNum 2 d D)(k:Yh->Ya β):Wt (Y++45::(M++45::D)) k=k day:=by obtain⟨a1,a2,a3,a4,rfl⟩:=len4 hY.1;obtain⟨b1,b2,rfl⟩:=len2 hM.1;obtain⟨c1,c2,rfl⟩:=len2 hD.1;unfold Wt;rw[Ad];refine(c_p3 (by decide) (by decide) (by show(4:Yh)<=((10:Yn):Yh);omega)).trans ?_;refine(O2 (s:=[a1,a2,a3,a4]) hY (by decide) _).trans ?_;refine(c_p3 (by decide) (by decide) (by show(7:Yh)<=((10:Yn):Yh);omega)).trans ?_;refine(O2 (s:=[b1,b2]) hM (by decide) _).trans ?_;refine(c_p3 (by decide) (by decide) (by show(10:Yh)<=((10:Yn):Yh);omega)).trans ?_;refine(O2 (s:=[c1,c2]) hD (by decide) _).trans ?_;refine(AIX q _).trans ?_;exact CX rfl
end
end
end Go.Lift
namespace Go.Lift
open Go.RowKit Go.IntWalk
noncomputable section
set_option maxRecDepth 10000
section
variable{β:Type}
theorem AIZ[S:Sl](k1:Kn β)(k2:Ko β)(k3:Kp β)(w:Ye Yj)(t:Tok):H6 k1 k2 k3 w [100] Yi t=Gh (λa b=>k2 a b) (λb=>k3 b) w Yp t:=by rcases S with⟨_|_⟩<;>kernel_rfl
theorem AJ0[S:Sl](k1:Kn β)(k2:Ko β)(k3:Kp β)(w:Ye Yj)(t:Tok):H6 k1 k2 k3 w [100,100] Yi t=Gh (λa b=>k2 a b) (λb=>k3 b) w Yp t:=by rcases S with⟨_|_⟩<;>kernel_rfl
theorem AJ1[S:Sl](k1:Kn β)(k2:Ko β)(k3:Kp β)(w:Ye Yj)(t:Tok):H6 k1 k2 k3 w [100,100,100] Yi t=Gh (λa b=>k2 a b) (λb=>k3 b) w Yp t:=by rcases S with⟨_|_⟩<;>kernel_rfl
theorem AJ2[S:Sl](k1:Kn β)(k2:Ko β)(k3:Kp β)(w:Ye Yj)(t:Tok):H6 k1 k2 k3 w [100,100,100,100] Yi t=Gh (λa b=>k2 a b) (λb=>k3 b) w Yp t:=by rcases S with⟨_|_⟩<;>kernel_rfl
theorem AJ3[S:Sl](k1:Kn β)(k2:Ko β)(k3:Kp β)(w:Ye Yj)(t:Tok):H6 k1 k2 k3 w [100,100,100,100,100] Yi t=Gh (λa b=>k2 a b) (λb=>k3 b) w Yp t:=by rcases S with⟨_|_⟩<;>kernel_rfl
theorem AJ4[S:Sl](k1:Kn β)(k2:Ko β)(k3:Kp β)(w:Ye Yj)(t:Tok):H6 k1 k2 k3 w [100,100,100,100,100,100] Yi t=Gh (λa b=>k2 a b) (λb=>k3 b) w Yp t:=by rcases S with⟨_|_⟩<;>kernel_rfl
theorem AJ5[S:Sl](k1:Kn β)(k2:Ko β)(k3:Kp β)(w:Ye Yj)(t:Tok):H6 k1 k2 k3 w [100,100,100,100,100,100,100] Yi t=Gh (λa b=>k2 a b) (λb=>k3 b) w Yp t:=by rcases S with⟨_|_⟩<;>kernel_rfl
theorem AJ6[S:Sl](k1:Kn β)(k2:Ko β)(k3:Kp β)(w:Ye Yj)(t:Tok):H6 k1 k2 k3 w [100,100,100,100,100,100,100,100] Yi t=Gh (λa b=>k2 a b) (λb=>k3 b) w Yp t:=by rcases S with⟨_|_⟩<;>kernel_rfl
theorem AJ7[S:Sl](k1:Kn β)(k2:Ko β)(k3:Kp β)(w:Ye Yj)(t:Tok):H6 k1 k2 k3 w [100,100,100,100,100,100,100,100,100] Yi t=Gh (λa b=>k2 a b) (λb=>k3 b) w Yp t:=by rcases S with⟨_|_⟩<;>kernel_rfl
theorem AJ8[S:Sl]{n:Yn}(h:1<=n/\n<=9)(k1:Kn β)(k2:Ko β)(k3:Kp β)(w:Ye Yj)(t:Tok):H6 k1 k2 k3 w (Y8 n 100) Yi t=Gh (λa b=>k2 a b) (λb=>k3 b) w Yp t:=by
 obtain⟨h1,h2⟩:=h
 match n,h1,h2 with
 |1,_,_=>exact AIZ k1 k2 k3 w t
 |2,_,_=>exact AJ0 k1 k2 k3 w t
 |3,_,_=>exact AJ1 k1 k2 k3 w t
 |4,_,_=>exact AJ2 k1 k2 k3 w t
 |5,_,_=>exact AJ3 k1 k2 k3 w t
 |6,_,_=>exact AJ4 k1 k2 k3 w t
 |7,_,_=>exact AJ5 k1 k2 k3 w t
 |8,_,_=>exact AJ6 k1 k2 k3 w t
 |9,_,_=>exact AJ7 k1 k2 k3 w t
theorem AJ9[S:Sl](k1:Kn β)(k2:Ko β)(k3:Kp β)(w F:Ye Yj)(t:Tok):H6 k1 k2 k3 w F Yp t=Yk (Yd (0<=(1:Yh))&&(Yd ((1:Yh)<=(Yb w:Yh))&&Yd ((Yb w:Yh)<=(Yb w:Yh)))) (LV (Y4 (Yl (1:Yh)) (Y5 (Yl (Yb w:Yh)) w)) (λD1=>Yk (Yd (D1<(0:Yh))) (k1 t) (Yk (Yd ((64800:Yh)<D1)) (k1 t) (Yk (Yd (0<=(0:Yh))&&Yd ((0:Yh)<(Yb w:Yh))) (Yk (Yd (((Ym w (Yl (0:Yh)) 0).toNat:Yh)=(45:Yh))) (k2 (0:Yh) ((4:Yh),(([]:Ye Yj),Yc.wrap (0-D1)))) (k2 (0:Yh) ((4:Yh),(([]:Ye Yj),D1)))) Yf)))) Yf:=by
 unfold H6;rw[Ad];rfl
theorem X4{n:Yn}{F:Ye Yj}{c:Yj}(h:c∈F)(hc:c≠100):Y8 n (100:Yj)≠F:=λe=>hc (AeH (e▸h))
theorem Qx[Sl]{s F:Ye Yj}(hn:CP s=Yi)(hf:s.map fc=F)(hl:s.length<=1000)(k:Tok->Yh->Ya β):JB s k=Yk (Yd (F=[100,100,58,100,100])) (Kq (λt3 t2=>k t2 t3) (λt2=>k H0 2) (λt2=>k H0 2) s F (Yd (F=[100,100,58,100,100])) H0) (Kq (λt3 t2=>k t2 t3) (λt2=>k H0 2) (λt2=>k H0 2) s F (Yd (F=[100,100,58,100,100,58,100,100])) H0):=by
 unfold JB;rw[Ad];refine(AcL _ _).trans ?_;rw[hn];refine c_f.trans ?_;refine(AIY hl _).trans ?_;rw[hf]
theorem Aqu[Sl](k1:Amx β)(k2:Amy β)(k3:Amz β)(w F:Ye Yj)(t:Tok){n:Yh}(hn:0<=n/\n<=86400)(h:∀k:Yh->Ya β,LV w k=k n):Kq k1 k2 k3 w F Yp t=k1 0 (2,[],n):=by unfold Kq;rw[Ad];unfold Oh;refine c_t.trans ((h _).trans ?_);exact(Ag hn.1).trans (Ag hn.2)
theorem AJa[Sl]{a b:Yh}{A B:Ye Yj}(hA:IsNum 2 a A)(hB:IsNum 2 b B)(hb:b<=59)(h:a*3600+b*60<=86400)(k:Tok->Yh->Ya β):JB (A++58::B) k=k (nu 2 (a*3600+b*60)) 0:=by
 have hf:(A++58::B).map fc=[100,100,58,100,100]:=by rw[IR,CH,Hj hA.2.1,Hj hB.2.1,hA.1,hB.1];rfl
 have h1:=I6 hA;have h2:=I6 hB;refine(Qx (mX hA) hf (by simp only[AQ,B9,hA.1,hB.1];decide) k).trans ?_;refine(Ag rfl).trans ?_;rw[Ao (rfl:([100,100,58,100,100]:Ye Yj)=[100,100,58,100,100])];exact Aqu _ _ _ _ _ _ (by omega) (λk=>Aqr hA hB hb k)
theorem AJb[Sl]{a b c:Yh}{A B C:Ye Yj}(hA:IsNum 2 a A)(hB:IsNum 2 b B)(hC:IsNum 2 c C)(hb:b<=59)(hc:c<=59)(h:a*3600+b*60+c<=86400)(k:Tok->Yh->Ya β):JB (A++58::(B++58::C)) k=k (nu 2 (a*3600+b*60+c)) 0:=by
 have hf:(A++58::(B++58::C)).map fc=[100,100,58,100,100,58,100,100]:=by rw[IR,CH,IR,CH,Hj hA.2.1,Hj hB.2.1,Hj hC.2.1,hA.1,hB.1,hC.1];rfl
 have h1:=I6 hA;have h2:=I6 hB;have h3:=I6 hC;refine(Qx (mX hA) hf (by simp only[AQ,B9,hA.1,hB.1,hC.1];decide) k).trans ?_;refine(Al (by decide)).trans ?_;rw[Ao (rfl:([100,100,58,100,100,58,100,100]:Ye Yj)=[100,100,58,100,100,58,100,100])];exact Aqu _ _ _ _ _ _ (by omega) (λk=>Aqs hA hB hC hb hc k)
theorem AJc[Sl]{day y m d:Yh}(q:DateIs day y m d)(h0:0<=day){Y M D:Ye Yj}(hY:IsNum 4 y Y)(hM:IsNum 2 m M)(hD:IsNum 2 d D)(k:Tok->Yh->Ya β):JB (Y++45::(M++45::D)) k=k (nu 3 day) 0:=by
 have hf:(Y++45::(M++45::D)).map fc=[100,100,100,100,45,100,100,45,100,100]:=by rw[IR,CH,IR,CH,Hj hY.2.1,Hj hM.2.1,Hj hD.2.1,hY.1,hM.1,hD.1];rfl
 refine(Qx (mX hY) hf (by simp only[AQ,B9,hY.1,hM.1,hD.1];decide) k).trans ?_;refine(Al (by decide)).trans ?_;rw[Ar (by decide:¬([100,100,100,100,45,100,100,45,100,100]:Ye Yj)=[100,100,58,100,100,58,100,100])];unfold Kq;rw[Ad];unfold Oh;refine c_f.trans ((Ag rfl).trans ?_);refine(Aqt q hY hM hD _).trans ?_;exact Ag h0
theorem AJd[Sl]{a b:Yh}{A B:Ye Yj}{g:Yj}(hg:g=43\/g=45)(hA:IsNum 2 a A)(hB:IsNum 2 b B)(hb:b<=59)(h:a*3600+b*60<=64800)(k:Tok->Yh->Ya β):JB (g::(A++58::B)) k=k (nu 4 (if g=45 then-(a*3600+b*60)else a*3600+b*60)) 0:=by
 have hf:(A++58::B).map fc=[100,100,58,100,100]:=by rw[IR,CH,Hj hA.2.1,Hj hB.2.1,hA.1,hB.1];rfl
 have h1:=I6 hA;have h2:=I6 hB;have hl:(A++58::B).length=5:=by simp only[AQ,B9,hA.1,hB.1]
 have p2:∀F,H6 (λt2=>k H0 2) (λt3 t2=>k t2 t3) (λt2=>k H0 2) (g::(A++58::B)) F Yp H0=k (nu 4 (if g=45 then-(a*3600+b*60)else a*3600+b*60)) 0:=by
  intro F;refine(AJ9 _ _ _ _ _ _).trans ?_;refine(c_p3 (by decide) (by rw[B9];omega) (IS _)).trans ?_;rw[Bh,L9];refine(Aqr hA hB hb _).trans ?_;refine(Al (by omega)).trans ?_;refine(Al (by omega)).trans ?_;refine(AG (by rw[B9];omega)).trans ?_;rcases hg with rfl|rfl
  ·refine(Al (show ¬((43:Yj).toNat:Yh)=45 by decide)).trans ?_
   rw[Yy (by decide)];rfl
  ·refine(Ag (show((45:Yj).toNat:Yh)=45 by decide)).trans ?_
   rw[Y1 rfl,i64_in (0-(a*3600+b*60)) (by omega),Int.zero_sub];rfl
 rcases hg with rfl|rfl
 ·refine(Qx (F:=[43,100,100,58,100,100]) (mW (by decide)) (by rw[CH,hf];rfl) (by rw[B9];omega) k).trans ?_
  refine(Al (by decide)).trans ?_;rw[Ar (by decide:¬([43,100,100,58,100,100]:Ye Yj)=[100,100,58,100,100,58,100,100])];unfold Kq;rw[Ad];unfold Oh;refine c_f.trans ((Al (by decide)).trans ((Ag rfl).trans ?_));exact p2 _
 ·refine(Qx (F:=[45,100,100,58,100,100]) (mW (by decide)) (by rw[CH,hf];rfl) (by rw[B9];omega) k).trans ?_
  refine(Al (by decide)).trans ?_;rw[Ar (by decide:¬([45,100,100,58,100,100]:Ye Yj)=[100,100,58,100,100,58,100,100])];unfold Kq;rw[Ad];unfold Oh;refine c_f.trans ((Al (by decide)).trans ((Al (by decide)).trans ?_));exact p2 _
theorem AJe[Sl]{day y m d:Yh}(q:DateIs day y m d)(h0:0<=day/\day<98981){Y M D:Ye Yj}(hY:IsNum 4 y Y)(hM:IsNum 2 m M)(hD:IsNum 2 d D){a b c:Yh}{A B C:Ye Yj}(hA:IsNum 2 a A)(hB:IsNum 2 b B)(hC:IsNum 2 c C)(hb:b<=59)(hc:c<=59)(h:a*3600+b*60+c<86400)(k:Tok->Yh->Ya β):JB (Y++45::(M++45::(D++84::(A++58::(B++58::(C++[90])))))) k=k (nu 5 (day*86400+(a*3600+b*60+c))) 0:=by
 have h1:=I6 hA;have h2:=I6 hB;have h3:=I6 hC
 have hf:(Y++45::(M++45::(D++84::(A++58::(B++58::(C++[90])))))).map fc=[100,100,100,100,45,100,100,45,100,100,84,100,100,58,100,100,58,100,100,90]:=by simp only[IR,CH,M6,Hj hY.2.1,Hj hM.2.1,Hj hD.2.1,Hj hA.2.1,Hj hB.2.1,Hj hC.2.1,hY.1,hM.1,hD.1,hA.1,hB.1,hC.1];rfl
 have hl:(Y++45::(M++45::(D++84::(A++58::(B++58::(C++[90])))))).length=20:=by simp only[AQ,B9,Ft,hY.1,hM.1,hD.1,hA.1,hB.1,hC.1]
 have e1:Y4 0 (Y5 10 (Y++45::(M++45::(D++84::(A++58::(B++58::(C++[90])))))))=Y++45::(M++45::D):=by obtain⟨a1,a2,a3,a4,rfl⟩:=len4 hY.1;obtain⟨b1,b2,rfl⟩:=len2 hM.1;obtain⟨c1,c2,rfl⟩:=len2 hD.1;rfl
 have e2:Y4 11 (Y5 19 (Y++45::(M++45::(D++84::(A++58::(B++58::(C++[90])))))))=A++58::(B++58::C):=by obtain⟨a1,a2,a3,a4,rfl⟩:=len4 hY.1;obtain⟨b1,b2,rfl⟩:=len2 hM.1;obtain⟨c1,c2,rfl⟩:=len2 hD.1;obtain⟨d1,d2,rfl⟩:=len2 hA.1;obtain⟨f1,f2,rfl⟩:=len2 hB.1;obtain⟨g1,g2,rfl⟩:=len2 hC.1;rfl
 refine(Qx (mX hY) hf (by omega) k).trans ?_;generalize hw:Y++45::(M++45::(D++84::(A++58::(B++58::(C++[90])))))=w at hl e1 e2;refine(Al (by decide)).trans ?_;rw[Ar (by decide:¬([100,100,100,100,45,100,100,45,100,100,84,100,100,58,100,100,58,100,100,90]:Ye Yj)=[100,100,58,100,100,58,100,100])];unfold Kq;rw[Ad];unfold Oh;refine c_f.trans ((Al (by decide)).trans ((Al (by decide)).trans ?_));dsimp only;rw[Ar (by decide:¬([100,100,100,100,45,100,100,45,100,100,84,100,100,58,100,100,58,100,100,90]:Ye Yj)=[45,100,100,58,100,100])];unfold H6;rw[Ad];unfold AaF;refine c_f.trans ((Ag rfl).trans ?_);refine(c_p3 (by decide) (by decide) (by rw[hl];decide)).trans ?_;rw[show Yl (0:Yh)=0 from rfl,show Yl (10:Yh)=10 from rfl,e1];refine(Aqt q hY hM hD _).trans ?_;refine(c_p3 (by decide) (by decide) (by rw[hl];decide)).trans ?_;rw[show Yl (11:Yh)=11 from rfl,show Yl (19:Yh)=19 from rfl,e2];refine(Aqs hA hB hC hb hc _).trans ?_;refine(Ag h0.1).trans ?_;refine(Ag (by omega)).trans ?_;refine(Ag (by omega)).trans ?_;rw[i64_in (day*86400) (by omega),i64_in (day*86400+(a*3600+b*60+c)) (by omega)];rfl
theorem AJf[Sl]{n:Yn}(hn:n<=999999999)(k:Tok->Yh->Ya β):JB (Y6 n) k=k (nu 1 n) 0:=by
 obtain⟨h1,h2,h3⟩:=Aqk n;have AU:=X3 8 n (by omega);have Ih:=Pa.2 h3
 have ALl:∃c r,Y6 n=c::r/\(c.toNat≠48\/Y6 n=[48]):=by
  by_cases h:n=0
  ·rw[h]
   exact⟨48,[],by rw[Y6,dif_pos (by omega)];rfl,.inr (by rw[Y6,dif_pos (by omega)];rfl)⟩
  ·obtain⟨c,r,h4,h5⟩:=AIQ n (by omega)
   exact⟨c,r,h4,.inl h5⟩
 obtain⟨c,r,e,hz⟩:=ALl;have hc:=h1 c (by rw[e];simp);unfold GK at hc;have Ex:CP (Y6 n)=Yi:=by rw[e];exact mW (by omega)
 refine(Qx Ex (Hj h1) (by omega) k).trans ?_;refine(Al (X4 (c:=58) (by decide) (by decide))).trans ?_;rw[Ar (X4 (F:=[100,100,58,100,100,58,100,100]) (c:=58) (by decide) (by decide))];unfold Kq;rw[Ad];unfold Oh;refine c_f.trans ((Al (X4 (c:=45) (by decide) (by decide))).trans ((Al (X4 (c:=43) (by decide) (by decide))).trans ?_));dsimp only;rw[Ar (X4 (F:=[45,100,100,58,100,100]) (c:=45) (by decide) (by decide))];refine(AJ8 ⟨by omega,by omega⟩ _ _ _ _ _).trans ?_;unfold Gh;rw[Ad];unfold AaE;refine c_t.trans ?_;refine(AG (by omega)).trans ?_;have fin:J9 (Y6 n) (λD3=>k (1,[],D3) 0)=k (nu 1 n) 0:=(Aqp h1 (by omega) _).trans (by rw[h2];rfl);by_cases h0:c.toNat=48
 ·refine(CX (by rw[e];show((c.toNat:Yn):Yh)=48;omega)).trans ?_
  rcases hz with hz|hz
  ·exact Y7 h0 hz
  ·refine(Ag (by rw[hz];rfl)).trans ?_
   exact fin
 ·refine(EF (by rw[e];show ¬((c.toNat:Yn):Yh)=48;omega)).trans ?_
  exact fin
end
end
end Go.Lift
