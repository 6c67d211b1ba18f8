/- Part20 -/
import Derived.KernelRfl
import Derived.Test.YthjiepigkfklkaaGreatDoorPart19
set_option linter.unusedVariables false
set_option linter.unusedSectionVars false
set_option linter.unusedSimpArgs false
open _root_ renaming Option → Ya, List → Ye, Int → Yh, UInt8 → Yj, cond → Yk, Nat → Yn, Bool → Ys, if_neg → Yy, if_pos → Y1, absurd → Y7
open List renaming length → Yb, getD → Ym, drop → Y4, take → Y5, set → YG, forall_mem_cons → Ybf
open Go.IntKind renaming i64 → Yc, u64 → Yas, u8 → YaN
open Decidable renaming decide → Yd
open Option renaming none → Yf
open Bool renaming false → Yi, true → Yp
open Int renaming toNat → Yl, tmod → Yv, tdiv → Yz
open Go.Lib renaming decDigits → Y6
open UInt8 renaming ofNat → Yad
namespace Go.Lift
open Go.RowKit Go.IntWalk
noncomputable section
variable[Sl]
set_option maxRecDepth 10000
section
variable{β:Type}
theorem AcZ{n:Yh}(hn:0<=n/\n<=300000):∃A B C,IsNum 2 (n / 3600) A/\IsNum 2 (n / 60%60) B/\IsNum 2 (n%60) C/\∀{β:Type}(sec:Ys)(k:Ye Yj->Ya β),MU n sec k=k (Yk sec (A++58::(B++58::C)) (A++58::B)):=by
 obtain⟨A,hA,fA⟩:=SW (x:=n / 3600) (n:=2) (by omega) (by omega);obtain⟨B,hB,fB⟩:=SW (x:=n / 60%60) (n:=2) (by omega) (by omega);obtain⟨C,hC,fC⟩:=SW (x:=n%60) (n:=2) (by omega) (by omega);have e1:Yz n 3600=n / 3600:=F7 hn.1;have e2:Yz n 60=n / 60:=F7 hn.1;have e3:Yv (n / 60) 60=n / 60%60:=EO (by omega);have e4:Yv n 60=n%60:=EO hn.1;refine⟨A,B,C,hA,hB,hC,λsec k=>?_⟩;unfold MU;rw[Ad];rw[e1,i64_in (n / 3600) (by omega)];refine(fA _).trans ?_;refine(Ag (by rw[hA.1];decide)).trans ?_;rw[e2,i64_in (n / 60) (by omega),e3];refine(fB _).trans ?_;refine(Ag (by rw[AQ,hA.1,hB.1];decide)).trans ?_;cases sec with
 |false=>refine c_f.trans ?_;exact k_eq (by simp)
 |true=>refine c_t.trans ?_;rw[e4];refine(fC _).trans ?_;refine(Ag (by rw[hC.1];decide)).trans ?_;refine(Ag (by simp only[AQ,hA.1,hB.1,hC.1];decide)).trans ?_;exact k_eq (by simp)
theorem Aqv{day:Yh}(h:0<=day/\day<98981):∃y m d Y M D,IsNum 4 y Y/\IsNum 2 m M/\IsNum 2 d D/\DateIs day y m d/\∀{β:Type}(k:Ye Yj->Ys->Ya β),Sn day k=k (Y++45::(M++45::D)) Yp:=by
 obtain⟨y,m,d,q⟩:=Apj h;have q1:=q.yr;have q2:=q.mo;have q3:=q.dd;obtain⟨Y,hY,fY⟩:=SW (x:=y) (n:=4) (by omega) (by omega);obtain⟨M,hM,fM⟩:=SW (x:=m) (n:=2) (by omega) (by omega);obtain⟨D,hD,fD⟩:=SW (x:=d) (n:=2) (by omega) (by omega);refine⟨y,m,d,Y,M,D,hY,hM,hD,q,λk=>?_⟩;unfold Sn;rw[Ad];refine(q.of _).trans ?_;refine(fY _).trans ?_;refine(Ag (by rw[hY.1];decide)).trans ?_;refine(fM _).trans ?_;refine(Ag (by simp only[AQ,hY.1,hM.1];decide)).trans ?_;refine(Ag (by simp only[AQ,hY.1,hM.1];decide)).trans ?_;refine(fD _).trans ?_;refine(Ag (by simp only[AQ,hY.1,hM.1,hD.1];decide)).trans ?_;show k _ (decide _)=_;rw[Ao (by rfl)];simp
theorem SX{t n:Yh}{s:Ye Yj}(h0:t≠0)(h:∀{β:Type}(k:Ye Yj->Ys->Ya β),MV (nu t n) k=k s Yp):Txt (nu t n) s:=by intro β k;unfold Wy;rw[Ad];refine(Al h0).trans ?_;refine(h _).trans ?_;refine c_f.trans ?_;exact CX rfl
theorem O3{s:Ye Yj}{t:Tok}(h:∀k:Tok->Yh->Ya β,JB s k=k t 0)(k1:AmR β):Kr k1 s t=k1 s 0:=by unfold Kr;rw[Ad];unfold AaR;refine(h _).trans ?_;refine(CX rfl).trans ?_;rw[Ao (rfl:t.1=t.1),Ao (rfl:t.2.1=t.2.1),Ao (rfl:t.2.2=t.2.2)];rfl
theorem rt7{t n:Yh}(ht:t≠0)(hn:0<=n/\n<=8589934592)(k:Ye Yj->Yh->Ya β):Lc (nu t n) k=Sx (λa b=>k a b) (λs q=>Kr (λa b=>k a b) s q) [] Yi (nu t n):=by
 unfold Lc;rw[Ad];refine(Al ht).trans ?_;refine(Al (show ¬n<0 by omega)).trans ?_;unfold Sy;rw[Ad];unfold jK;refine c_f.trans ?_;refine(Al (show ¬n<0 by omega)).trans ?_;dsimp only;rw[Ar (show ¬8589934592<(nu t n).2.2 by show ¬8589934592<n;omega)]
theorem rt6{t n:Yh}(ht:t≠0)(h1:t≠1)(hn:0<=n/\n<=8589934592)(k:Ye Yj->Yh->Ya β):Lc (nu t n) k=Qg (λs q=>Kr (λa b=>k a b) s q) [] Yi (nu t n):=by
 refine(rt7 ht hn k).trans ?_;unfold Sx;rw[Ad];unfold jJ;exact c_f.trans (Al h1)
theorem rt5{t n:Yh}(ht:t≠0)(h1:t≠1)(h2:t≠2)(hn:0<=n/\n<=8589934592)(k:Ye Yj->Yh->Ya β):Lc (nu t n) k=Qf (λs q=>Kr (λa b=>k a b) s q) [] Yi (nu t n):=by
 refine(rt6 ht h1 hn k).trans ?_;unfold Qg;rw[Ad];unfold W8;exact c_f.trans (Al h2)
theorem rt4{t n:Yh}(ht:t≠0)(h1:t≠1)(h2:t≠2)(h3:t≠3)(hn:0<=n/\n<=8589934592)(k:Ye Yj->Yh->Ya β):Lc (nu t n) k=Qe (λs q=>Kr (λa b=>k a b) s q) [] Yi (nu t n):=by
 refine(rt5 ht h1 h2 hn k).trans ?_;unfold Qf;rw[Ad];unfold W7;exact c_f.trans (Al h3)
theorem Dn{s:Ye Yj}(h:CP s=Yp):TokG (wd s):=by
 obtain⟨nN,Lp,_,_⟩:=AI5 h;refine Qt (s:=s) (λ{β} k=>?_) (λ{β} k=>?_) Lp
 ·unfold Wy
  rw[Ad];refine(Ag rfl).trans ?_;refine(Apm _ _).trans ?_;show Yk (!CP s) _ _=_;rw[h];refine c_f.trans ?_;exact CX (p:=(wd s).2.2=0) rfl
 ·unfold Lc
  rw[Ad];refine(Ag rfl).trans ?_;refine O3 (s:=s) (t:=wd s) (λk=>?_) _;unfold JB;rw[Ad];refine(AcL _ _).trans ?_;rw[h];rfl
theorem Aqw:∀(N u f:Yn),u<=N->u<1000000000->N<f->∀k:Ye Yj->Ya β,NZ f (u:Yh) k=k (Y6 u)
 |N,u,0,_,_,h=>Y7 h (KP _)
 |N,u,f+1,hN,hu,hf=>λk=>by
  rw[AxY];unfold dI;have hm:Yv (u:Yh) 10=((u%10:Yn):Yh):=by simp[Yv]
  have hs:Hc [YaN.wrap (Yas.wrap ((48:Yh)+((u%10:Yn):Yh)))]=[Yad (48+u%10)]:=by rw[IntKind.wrap_u64,show((48:Yh)+((u%10:Yn):Yh))%18446744073709551616=48+((u%10:Yn):Yh) by omega,u8_in _ (by omega)];show [Yad (((48:Yh)+((u%10:Yn):Yh)).toNat)]=_;rw[show((48:Yh)+((u%10:Yn):Yh)).toNat=48+u%10 by omega]
  simp only[hm];rw[hs];by_cases h:u<10
  ·refine(Ag (by omega)).trans (k_eq ?_)
   rw[Y6,dif_pos h,show u%10=u by omega]
  ·refine(Al (by omega)).trans ?_
   have hd:Yz (u:Yh) 10=((u / 10:Yn):Yh):=by simp[Yz]
   rw[hd,IntKind.wrap_u64,show((u / 10:Yn):Yh)%18446744073709551616=((u / 10:Yn):Yh) by omega];refine(Aqw (N-1) (u / 10) f (by omega) (by omega) (by omega) _).trans ?_;have:=X3 8 (u / 10) (by omega);refine(Ag (by simp only[E9];omega)).trans (k_eq ?_)
   conv=>rhs;rw[Y6,dif_neg h]
theorem X5{n:Yh}(hn:0<=n/\n<=999999999):TokG (nu 1 n):=by
 have AU:=X3 8 n.toNat (by omega)
 have hi:Lib.itoa n=Y6 n.toNat:=by unfold Lib.itoa;rw[Yy (by omega)]
 have en:((n.toNat:Yn):Yh)=n:=by omega
 refine Qt (s:=Y6 n.toNat) (SX (by decide) λ{β} k=>?_) (λ{β} k=>?_) (by omega)
 ·unfold MV
  rw[Ad];unfold Vm UF;refine c_t.trans ?_;refine(c_p2 (by show-9223372036854775808<=n;omega) (by show n<=9223372036854775807;omega)).trans ?_;refine(Ag (by show 0<=n;omega)).trans ?_;show k _ (decide _)=_;rw[Ao (by show n<=999999999;omega)];show k (Lib.itoa n) Yp=_;rw[hi]
 ·refine(rt7 (by decide) (by omega) k).trans ?_
  unfold Sx;rw[Ad];unfold jJ;refine c_f.trans ((Ag rfl).trans ?_);dsimp only;rw[Ao (show(nu 1 n).2.2<=999999999 from hn.2)];unfold Qg;rw[Ad];unfold W8;refine c_t.trans ?_;unfold xR;rw[Ad];refine(Al (show ¬n<0 by omega)).trans ?_
  have eu:Yas.wrap (nu 1 n).2.2=((n.toNat:Yn):Yh):=by rw[IntKind.wrap_u64];show n%18446744073709551616=_;omega
  rw[eu];unfold dJ;refine(Aqw n.toNat n.toNat fuel (Av _) (by omega) (BB (by omega)) _).trans ?_;refine O3 (λk=>?_) _;have:=AJf (β:=β) (n:=n.toNat) (by omega) k;rw[en]at this;exact this
theorem mY{n:Yh}(hn:0<=n/\n<=86400):TokG (nu 2 n):=by
 obtain⟨A,B,C,hA,hB,hC,f⟩:=AcZ (n:=n) (by omega);have lA:=hA.1;have e4:Yv n 60=n%60:=EO hn.1
 have ht:∀{β:Type}(k:Ye Yj->Ys->Ya β),MV (nu 2 n) k=MU n (!Yd (n%60=0)) λs=>k s Yp:=by intro β k;unfold MV;rw[Ad];refine c_f.trans (c_t.trans ?_);refine(Ag (by show 0<=n;omega)).trans ?_;unfold iR;rw[Ad];unfold Aan;show MU n (!Yd (Yv n 60=0)) (λs=>k s (Yd (n<=86400)))=_;rw[e4,Ao (show n<=86400 by omega)]
 have rt:∀{β:Type}(k:Ye Yj->Yh->Ya β),Lc (nu 2 n) k=Kr (λa b=>k a b) (Yk (!Yd (n%60=0)) (A++58::(B++58::C)) (A++58::B)) (nu 2 n):=by intro β k;refine(rt6 (by decide) (by decide) (by omega) k).trans ?_;unfold Qg;rw[Ad];unfold W8;refine c_f.trans ((Ag rfl).trans ?_);dsimp only;rw[Ao (show(nu 2 n).2.2<=86400 from hn.2)];unfold Qf;rw[Ad];unfold W7;refine c_t.trans ?_;exact AcY (n:=n) (by omega) hA hB hC Yi _
 by_cases h0:n%60=0
 ·rw[Ao h0]at ht rt
  refine Qt (s:=A++58::B) (SX (by decide) λ{β} k=>(ht k).trans (f Yi _)) (λ{β} k=>(rt k).trans ?_) (by simp only[AQ,B9,hB.1,lA];decide);refine O3 (λk=>?_) _;have:=AJa hA hB (by omega) (by omega) k
  rwa [show n / 3600*3600+n / 60%60*60=n by omega]at this
 ·rw[Ar h0]at ht rt
  refine Qt (s:=A++58::(B++58::C)) (SX (by decide) λ{β} k=>(ht k).trans (f Yp _)) (λ{β} k=>(rt k).trans ?_) (by simp only[AQ,B9,hB.1,hC.1,lA];decide);refine O3 (λk=>?_) _;have:=AJb hA hB hC (by omega) (by omega) (by omega) k
  rwa [show n / 3600*3600+n / 60%60*60+n%60=n by omega]at this
theorem Aqx{n:Yh}(hn:0<=n/\n<98981):TokG (nu 3 n):=by
 obtain⟨y,m,d,Y,M,D,hY,hM,hD,q,f⟩:=Aqv hn;have lY:=hY.1;refine Qt (s:=Y++45::(M++45::D)) (SX (by decide) λ{β} k=>?_) (λ{β} k=>?_) (by simp only[AQ,B9,hM.1,hD.1,lY];decide)
 ·unfold MV
  rw[Ad];refine c_f.trans (c_f.trans (c_t.trans ?_));exact f _
 ·refine(rt5 (by decide) (by decide) (by decide) (by omega) k).trans ?_
  unfold Qf;rw[Ad];unfold W7;refine c_f.trans ((Ag rfl).trans ?_);refine(SN _).trans ?_;dsimp only;rw[Ao (show(nu 3 n).2.2<=98980 by show n<=98980;omega)];unfold Qe;rw[Ad];unfold W6;refine c_t.trans ?_;refine(Aqo q hn hY hM hD _).trans ?_;exact O3 (λk=>AJc q hn.1 hY hM hD k) _
theorem Aqy{n:Yh}(hn:-64800<=n/\n<=64800)(AKK:n%60=0):TokG (nu 4 n):=by
 have key:∀(p:Yh)(g:Yj),0<=p->p<=64800->p%60=0->(g=43/\n=p/\0<=n)\/(g=45/\n=-p/\n<0)->TokG (nu 4 n):=by
  intro p g EX CY EY hg;obtain⟨A,B,C,hA,hB,hC,f⟩:=AcZ (n:=p) (by omega);have e4:Yv p 60=p%60:=EO EX
  have hp:∀{β:Type}(k1:Ame β),Sv k1 p [g]=k1 (g::(A++58::B)) Yp:=by intro β k1;unfold Sv;rw[Ad];unfold Aao;refine(f Yi _).trans ?_;refine(Ag (by simp only[AQ,B9,C7,hA.1,hB.1];decide)).trans ?_;refine(Ag EX).trans ?_;refine(Ag CY).trans ?_;show k1 _ (decide _)=_;rw[e4,Ao EY];rfl
  have rc:∀{β:Type}(k:Ye Yj->Ya β),La p Yi k=k (A++58::B):=by intro β k;refine(AcY (n:=p) (by omega) hA hB hC Yi k).trans ?_;rw[Ao EY];rfl
  have tok:∀{β:Type}(k:Tok->Yh->Ya β),JB (g::(A++58::B)) k=k (nu 4 n) 0:=by
   intro β k;have:=AJd (hg.elim (λh=>.inl h.1) (λh=>.inr h.1)) hA hB (by omega) (by omega) k;rw[show p / 3600*3600+p / 60%60*60=p by omega]at this;rcases hg with⟨rfl,h,_⟩|⟨rfl,h,_⟩
   ·rwa [Yy (by decide),<-h]at this
   ·rwa [Y1 rfl,<-h]at this
  refine Qt (s:=g::(A++58::B)) (SX (by decide) λ{β} k=>?_) (λ{β} k=>?_) (by simp only[AQ,B9,hA.1,hB.1];decide)
  ·unfold MV
   rw[Ad];refine c_f.trans (c_f.trans (c_f.trans (c_t.trans ?_)));rcases hg with⟨rfl,rfl,h⟩|⟨rfl,rfl,h⟩
   ·refine(Al (by show ¬n<0;omega)).trans ?_
    exact hp _
   ·refine(Ag (by show-p<0;omega)).trans ?_
    show Sv _ (Yc.wrap (0- -p)) [45]=_;rw[show Yc.wrap (0- -p)=p by rw[i64_in _ (by omega)];omega];exact hp _
  ·have hl:(A++58::B).length=5:=by simp only[AQ,B9,hA.1,hB.1]
   rcases hg with⟨rfl,h,h'⟩|⟨rfl,h,h'⟩
   ·refine(rt4 (by decide) (by decide) (by decide) (by decide) (by omega) k).trans ?_
    unfold Qe;rw[Ad];unfold W6;refine c_f.trans ((Ag rfl).trans ?_);dsimp only;rw[Ao (show(nu 4 n).2.2<=64800 from hn.2)];unfold W5;rw[Ad];unfold jI;refine c_t.trans ?_;show La n Yi _=_;rw[h];rw[h]at tok;refine(rc _).trans ?_;refine(Ag (by rw[hl];decide)).trans ?_;exact O3 (λk=>tok k) _
   ·unfold Lc
    rw[Ad];refine(Al (show ¬(4:Yh)=0 by decide)).trans ?_;refine(Ag (show n<0 from h')).trans ?_;refine(Ag (show(4:Yh)=4 from rfl)).trans ?_;dsimp only;rw[Ao (show-64800<=(nu 4 n).2.2 from hn.1)];unfold Sy;rw[Ad];unfold jK;refine c_t.trans ?_;show La (Yc.wrap (0-n)) Yi _=_;rw[i64_in (0-n) (by omega),show 0-n=p by omega];refine(rc _).trans ?_;refine(Ag (by rw[hl];decide)).trans ?_;exact O3 (λk=>tok k) _
 by_cases h:n<0
 ·exact key (-n) 45 (by omega) (by omega) (by omega) (.inr ⟨rfl,by omega,h⟩)
 ·exact key n 43 (by omega) (by omega) AKK (.inl ⟨rfl,rfl,by omega⟩)
theorem Aqz{n:Yh}(hn:0<=n/\n<98981*86400):TokG (nu 5 n):=by
 obtain⟨y,m,d,Y,M,D,hY,hM,hD,q,f⟩:=Aqv (day:=n / 86400) (by omega);obtain⟨A,B,C,hA,hB,hC,f2⟩:=AcZ (n:=n%86400) (by omega);have lY:=hY.1;have e1:Yz n 86400=n / 86400:=F7 hn.1;have e2:Yv n 86400=n%86400:=EO hn.1;have AU:(Y++45::(M++45::(D++84::(A++58::(B++58::(C++[90])))))).length=20:=by simp only[AQ,B9,Ft,hM.1,hD.1,hA.1,hB.1,hC.1,lY]
 refine Qt (s:=Y++45::(M++45::(D++84::(A++58::(B++58::(C++[90])))))) (SX (by decide) λ{β} k=>?_) (λ{β} k=>?_) (by omega)
 ·unfold MV
  rw[Ad];refine c_f.trans (c_f.trans (c_f.trans (c_f.trans (c_t.trans ?_))));show Sn (Yc.wrap (Yz n 86400)) _=_;rw[e1,i64_in (n / 86400) (by omega)];refine(f _).trans ?_;refine(Ag (by simp only[AQ,B9,Ft,hM.1,hD.1,lY];omega)).trans ?_;show MU (Yv n 86400) Yp _=_;rw[e2];refine(f2 Yp _).trans ?_;refine(Ag (by simp only[AQ,B9,Ft,As,hM.1,hD.1,hA.1,hB.1,hC.1,lY];omega)).trans ?_;refine(Ag (by simp only[AQ,B9,Ft,As,hM.1,hD.1,hA.1,hB.1,hC.1,lY];omega)).trans ?_;refine c_t.trans ?_;show k _ (Yd (0<=n))=_;rw[Ao hn.1];simp
 ·refine(rt4 (by decide) (by decide) (by decide) (by decide) (by omega) k).trans ?_
  unfold Qe;rw[Ad];unfold W6;refine c_f.trans ((Al (show ¬(5:Yh)=4 by decide)).trans ?_);unfold W5;rw[Ad];unfold jI;refine c_f.trans ((Ag rfl).trans ?_);refine(SN _).trans ?_;show W4 _ [] (Yd (Yc.wrap (Yz n 86400)<=98980)) (nu 5 n)=_;rw[e1,i64_in (n / 86400) (by omega),Ao (show n / 86400<=98980 by omega)];unfold W4;rw[Ad];unfold AaS;refine c_t.trans ?_;show Su (Yc.wrap (Yz n 86400)) _=_;rw[e1,i64_in (n / 86400) (by omega)];refine(Aqo q (by omega) hY hM hD _).trans ?_;refine(Ag (by simp only[AQ,B9,Ft,hM.1,hD.1,lY];omega)).trans ?_;show La (Yv n 86400) Yp _=_;rw[e2];refine(AcY (n:=n%86400) (by omega) hA hB hC Yp _).trans ?_;rw[Bool.true_or];refine(Ag (by simp only[AQ,B9,Ft,As,hM.1,hD.1,hA.1,hB.1,hC.1,lY];omega)).trans ?_;refine(Ag (by simp only[AQ,B9,Ft,As,hM.1,hD.1,hA.1,hB.1,hC.1,lY];omega)).trans ?_;have es:(((Y++45::(M++45::D))++[84])++Yk Yp (A++58::(B++58::C)) (A++58::B))++[90]=Y++45::(M++45::(D++84::(A++58::(B++58::(C++[90]))))):=by simp
  dsimp only;rw[es];refine O3 (λk=>?_) _;have:=AJe q (by omega) hY hM hD hA hB hC (by omega) (by omega) (by omega) k
  rwa [show n / 86400*86400+(n%86400 / 3600*3600+n%86400 / 60%60*60+n%86400%60)=n by omega]at this
end
end
end Go.Lift
namespace Go.Lift
open Go.RowKit Go.IntWalk
noncomputable section
set_option maxRecDepth 10000
section
variable{β:Type}
theorem AJg[S:Sl](a:Ye Yj)(n:Yh)(k:Ys->Ya β):EQ [wd SL,wd a,nu 4 n] k=k Yp:=by rcases S with⟨_|_⟩<;>kernel_rfl
theorem AJh[S:Sl](a b d:Ye Yj)(n1 n2 n3 n4:Yh)(k:Ys->Ya β):EQ [wd mP,nu 1 n1,nu 1 n2,wd a,wd b,wd d,nu 2 n3,nu 4 n4] k=k Yp:=by rcases S with⟨_|_⟩<;>kernel_rfl
theorem AJi[S:Sl](a b:Ye Yj)(k:Ys->Ya β):EQ [wd ES,wd a,wd b] k=k Yp:=by rcases S with⟨_|_⟩<;>kernel_rfl
theorem AJj[S:Sl](a b:Ye Yj)(k:Ys->Ya β):EQ [wd ES,wd a,wd b,wd Mc] k=k Yp:=by rcases S with⟨_|_⟩<;>kernel_rfl
theorem AJk[S:Sl](a b:Ye Yj)(n:Yh)(k:Ys->Ya β):EQ [wd ES,wd a,wd b,wd Mb,nu 1 n] k=k Yp:=by rcases S with⟨_|_⟩<;>kernel_rfl
theorem AJl[S:Sl](a b:Ye Yj)(n:Yh)(k:Ys->Ya β):EQ [wd ES,wd a,wd b,wd Mb,nu 1 n,wd Mc] k=k Yp:=by rcases S with⟨_|_⟩<;>kernel_rfl
theorem AJm[S:Sl](a b:Ye Yj)(n:Yh)(k:Ys->Ya β):EQ [wd ES,wd a,wd b,wd Le,nu 1 n] k=k Yp:=by rcases S with⟨_|_⟩<;>kernel_rfl
theorem AJn[S:Sl](a b:Ye Yj)(n:Yh)(k:Ys->Ya β):EQ [wd ES,wd a,wd b,wd Le,nu 1 n,wd Mc] k=k Yp:=by rcases S with⟨_|_⟩<;>kernel_rfl
theorem AJo[S:Sl](a b:Ye Yj)(n m:Yh)(k:Ys->Ya β):EQ [wd ES,wd a,wd b,wd Le,nu 1 n,wd Mb,nu 1 m] k=k Yp:=by rcases S with⟨_|_⟩<;>kernel_rfl
theorem AJp[S:Sl](a b:Ye Yj)(n m:Yh)(k:Ys->Ya β):EQ [wd ES,wd a,wd b,wd Le,nu 1 n,wd Mb,nu 1 m,wd Mc] k=k Yp:=by rcases S with⟨_|_⟩<;>kernel_rfl
theorem AJq[S:Sl](a b:Ye Yj)(n m:Yh)(k:Ys->Ya β):EQ [wd K6,wd a,nu 2 n,wd b,nu 2 m] k=k Yp:=by rcases S with⟨_|_⟩<;>kernel_rfl
theorem AJr[S:Sl](a b:Ye Yj)(n m:Yh)(k:Ys->Ya β):EQ [wd onW,wd a,nu 2 n,wd b,nu 2 m] k=k Yp:=by rcases S with⟨_|_⟩<;>kernel_rfl
theorem AJs[S:Sl](a b:Ye Yj)(k:Ys->Ya β):EQ [wd calW,wd a,wd b] k=k Yp:=by rcases S with⟨_|_⟩<;>kernel_rfl
theorem AJt[S:Sl](a:Ye Yj)(k:Ys->Ya β):EQ [wd schW,wd a] k=k Yp:=by rcases S with⟨_|_⟩<;>kernel_rfl
theorem AJu[S:Sl](a b c:Ye Yj)(n1 n2 n3:Yh)(k:Ys->Ya β):EQ [wd Xw,wd a,wd b,nu 3 n1,nu 2 n2,nu 1 n3,wd c] k=k Yp:=by rcases S with⟨_|_⟩<;>kernel_rfl
theorem AJv[S:Sl](a:Ye Yj)(k:Ys->Ya β):EQ [wd (at' Xs 1),wd a] k=k Yp:=by rcases S with⟨_|_⟩<;>kernel_rfl
theorem AJw[S:Sl](a:Ye Yj)(k:Ys->Ya β):EQ [wd (at' Xs 2),wd a] k=k Yp:=by rcases S with⟨_|_⟩<;>kernel_rfl
theorem AJx[S:Sl](a:Ye Yj)(n m:Yh)(k:Ys->Ya β):EQ [wd (at' MZ 0),wd a,nu 5 n,nu 5 m] k=k Yp:=by rcases S with⟨_|_⟩<;>kernel_rfl
theorem AJy[S:Sl](a:Ye Yj)(n m:Yh)(k:Ys->Ya β):EQ [wd (at' MZ 1),wd a,nu 5 n,nu 5 m] k=k Yp:=by rcases S with⟨_|_⟩<;>kernel_rfl
theorem AJz[S:Sl](a b:Ye Yj)(n m:Yh)(k:Ys->Ya β):EQ [wd (at' MZ 2),wd a,wd b,nu 5 n,nu 5 m] k=k Yp:=by rcases S with⟨_|_⟩<;>kernel_rfl
theorem AJA[S:Sl](a:Ye Yj)(n:Yh)(k:Ys->Ya β):Fk [wd SL,wd a,nu 4 n] k=k Yp:=by rcases S with⟨_|_⟩<;>kernel_rfl
theorem AJB[S:Sl](a b d:Ye Yj)(n1 n2 n3 n4:Yh)(k:Ys->Ya β):Fk [wd mP,nu 1 n1,nu 1 n2,wd a,wd b,wd d,nu 2 n3,nu 4 n4] k=k Yp:=by rcases S with⟨_|_⟩<;>kernel_rfl
theorem AJC[S:Sl](a b:Ye Yj)(k:Ys->Ya β):Fk [wd ES,wd a,wd b] k=k Yp:=by rcases S with⟨_|_⟩<;>kernel_rfl
theorem AJD[S:Sl](a b:Ye Yj)(k:Ys->Ya β):Fk [wd ES,wd a,wd b,wd Mc] k=k Yp:=by rcases S with⟨_|_⟩<;>kernel_rfl
theorem AJE[S:Sl](a b:Ye Yj)(n:Yh)(k:Ys->Ya β):Fk [wd ES,wd a,wd b,wd Mb,nu 1 n] k=k Yp:=by rcases S with⟨_|_⟩<;>kernel_rfl
theorem AJF[S:Sl](a b:Ye Yj)(n:Yh)(k:Ys->Ya β):Fk [wd ES,wd a,wd b,wd Mb,nu 1 n,wd Mc] k=k Yp:=by rcases S with⟨_|_⟩<;>kernel_rfl
theorem AJG[S:Sl](a b:Ye Yj)(n:Yh)(k:Ys->Ya β):Fk [wd ES,wd a,wd b,wd Le,nu 1 n] k=k Yp:=by rcases S with⟨_|_⟩<;>kernel_rfl
theorem AJH[S:Sl](a b:Ye Yj)(n:Yh)(k:Ys->Ya β):Fk [wd ES,wd a,wd b,wd Le,nu 1 n,wd Mc] k=k Yp:=by rcases S with⟨_|_⟩<;>kernel_rfl
theorem AJI[S:Sl](a b:Ye Yj)(n m:Yh)(k:Ys->Ya β):Fk [wd ES,wd a,wd b,wd Le,nu 1 n,wd Mb,nu 1 m] k=k Yp:=by rcases S with⟨_|_⟩<;>kernel_rfl
theorem AJJ[S:Sl](a b:Ye Yj)(n m:Yh)(k:Ys->Ya β):Fk [wd ES,wd a,wd b,wd Le,nu 1 n,wd Mb,nu 1 m,wd Mc] k=k Yp:=by rcases S with⟨_|_⟩<;>kernel_rfl
theorem AJK[S:Sl](a b:Ye Yj)(n m:Yh)(k:Ys->Ya β):Fk [wd K6,wd a,nu 2 n,wd b,nu 2 m] k=k Yp:=by rcases S with⟨_|_⟩<;>kernel_rfl
theorem AJL[S:Sl](a b:Ye Yj)(n m:Yh)(k:Ys->Ya β):Fk [wd onW,wd a,nu 2 n,wd b,nu 2 m] k=k Yp:=by rcases S with⟨_|_⟩<;>kernel_rfl
theorem AJM[S:Sl](a b:Ye Yj)(k:Ys->Ya β):Fk [wd calW,wd a,wd b] k=k Yp:=by rcases S with⟨_|_⟩<;>kernel_rfl
theorem AJN[S:Sl](a:Ye Yj)(k:Ys->Ya β):Fk [wd schW,wd a] k=k Yp:=by rcases S with⟨_|_⟩<;>kernel_rfl
theorem AJO[S:Sl](a b c:Ye Yj)(n1 n2 n3:Yh)(k:Ys->Ya β):Fk [wd Xw,wd a,wd b,nu 3 n1,nu 2 n2,nu 1 n3,wd c] k=k Yp:=by rcases S with⟨_|_⟩<;>kernel_rfl
theorem AJP[S:Sl](a:Ye Yj)(k:Ys->Ya β):Fk [wd (at' Xs 1),wd a] k=k Yp:=by rcases S with⟨_|_⟩<;>kernel_rfl
theorem AJQ[S:Sl](a:Ye Yj)(k:Ys->Ya β):Fk [wd (at' Xs 2),wd a] k=k Yp:=by rcases S with⟨_|_⟩<;>kernel_rfl
theorem AJR[S:Sl](a:Ye Yj)(n m:Yh)(k:Ys->Ya β):Fk [wd (at' MZ 0),wd a,nu 5 n,nu 5 m] k=k Yp:=by rcases S with⟨_|_⟩<;>kernel_rfl
theorem AJS[S:Sl](a:Ye Yj)(n m:Yh)(k:Ys->Ya β):Fk [wd (at' MZ 1),wd a,nu 5 n,nu 5 m] k=k Yp:=by rcases S with⟨_|_⟩<;>kernel_rfl
theorem AJT[S:Sl](a b:Ye Yj)(n m:Yh)(k:Ys->Ya β):Fk [wd (at' MZ 2),wd a,wd b,nu 5 n,nu 5 m] k=k Yp:=by rcases S with⟨_|_⟩<;>kernel_rfl
theorem AJU[S:Sl](k:Kj->Ys->Ya β):Wa FZ k=k (FZ,[3],Yp) Yp:=by rcases S with⟨_|_⟩<;>kernel_rfl
theorem AJV[S:Sl](k:Kj->Ys->Ya β):Wa memW k=k (memW,[0],Yp) Yp:=by rcases S with⟨_|_⟩<;>kernel_rfl
theorem AqA[Sl]{kw:Ye Yj}{kind:Yh}(hf:∀k:Kj->Ys->Ya β,Wa kw k=k (kw,[kind],Yp) Yp)(hp:kw≠ES){l:Ye Tok}(h0:l≠[])(hl:l.length<=99)(hk:∀t∈l,t.1=kind)(k:Ys->Ya β):EQ (wd kw::l) k=k Yp:=by
 have h1:0<l.length:=Pa.2 h0
 have p2:Wq (λt2=>k t2) (wd kw::l) (kw,[kind],Yp)=k Yp:=by
  unfold Wq;rw[Ad];unfold Aae
  have e:Y4 (Yl (1:Yh)) (Y5 (Yl (Yb (wd kw::l):Yh)) (wd kw::l))=l:=by rw[Bh,L9];rfl
  rw[e]
  have hb:(Yd (0<=(1:Yh))&&(Yd ((1:Yh)<=(Yb (wd kw::l):Yh))&&Yd ((Yb (wd kw::l):Yh)<=(Yb (wd kw::l):Yh))))=Yp:=by rw[Ao (show(0:Yh)<=1 by omega),Ao (show(1:Yh)<=(Yb (wd kw::l):Yh) by rw[B9];omega),Ao (IS _)];rfl
  rw[hb];refine c_t.trans ?_;unfold Aad;rw[Ad];refine(Ks (λm i=>Wp m (λt2=>k t2) (λ_=>k Yp) l (l.length:Yh) i (kw,[kind],Yp)) (λt=>decide (t.1=kind)) (k Yi) (k Yp) (0,[],0) l fuel (BB (by omega)) (λm i hi=>?_) (λm=>?_)).trans ?_
  ·simp only[Am5,iN]
   refine(Ag (by omega)).trans ?_;refine(AG (by omega)).trans ?_
   have e2:(if(Yc.wrap ((Yb [kind]:Yh)-(1:Yh)))<(i:Yh)then(Yc.wrap ((Yb [kind]:Yh)-(1:Yh)))else(i:Yh))=0:=by rw[show Yc.wrap ((Yb [kind]:Yh)-(1:Yh))=0 from rfl];split<;>omega
   rw[e2];refine(AG (show(0:Yh)<=0/\(0:Yh)<((1:Yn):Yh) by omega)).trans ?_;rw[i64_in ((i:Yh)+1) (by omega),Bh];show Yk (!Yd ((l.getD i (0,[],0)).1=kind)) _ _=_;cases Yd ((l.getD i (0,[],0)).1=kind)<;>rfl
  ·simp only[Am5,iN]
   exact Al (by omega)
  ·rw[FG.2 λt ht=>Ao (hk t ht)]
   rfl
 unfold EQ;rw[Ad];refine(Al (by rw[B9];omega)).trans ?_;refine(AG (by rw[B9];omega)).trans ?_;refine(CX rfl).trans ?_;refine(AG (by rw[B9];omega)).trans ?_;refine(hf _).trans ?_;refine c_f.trans ?_;refine(Al hp).trans ?_;unfold iO;rw[Ad];unfold Aaf;rw[i64_in _ (by rw[B9];omega)];refine(Al (by rw[B9];show ¬_<((1:Yn):Yh);omega)).trans ?_;by_cases h2:((1:Yn):Yh)<(((wd kw::l).length:Yh)-1)
 ·refine(Ag h2).trans ?_
  exact c_f.trans p2
 ·exact(Al h2).trans p2
def K8(n:Yh):Ye Yj:=([[119],[110],[99],[100],[111],[105]]:Ye (Ye Yj)).getD n.toNat []
theorem AJW[Sl]{l:Ye Tok}(hl:l.length<=1000)(h:∀t∈l,0<=t.1/\t.1<=5)(k:Ye Yj->Ya β):PR l k=k (l.flatMap λt=>K8 t.1):=by
 have hk:∀n:Yh,(K8 n).length<=1:=λn=>by unfold K8;rcases g:n.toNat with _|_|_|_|_|_|_<;>simp[Ym]
 unfold PR;rw[Ad];unfold v8;rw[Ad];refine(Gj (λm i o=>Vg m (λt2=>k t2) (λs=>k s) l o i) (λt=>K8 t.1) (λo=>k o) (0,[],0) l [] 1 hl (λt _=>hk t.1) (λm i o hi ho=>?_) λm o=>?_).trans (by rw[GA])
 ·have ht:=h _ (Cn (d:=((0,[],0):Tok)) hi)
  have fin:∀g:Ya β,Yk (Yd (0<=(i:Yh))&&Yd ((i:Yh)<(l.length:Yh))) g Yf=g:=λg=>AG (by omega);have OC:=hk (l.getD i (0,[],0)).1;simp only[Ft]at ho;simp only[Aik,dF];refine(Ag (by omega)).trans ?_;refine(fin _).trans ?_;rw[Bh];refine(Al (by omega)).trans ?_;refine(fin _).trans ?_;refine(Al (by omega)).trans ?_;refine(fin _).trans ?_;refine(AG (by show 0<=_/\_<((6:Yn):Yh);omega)).trans ?_;refine(Ag (show o.length+(K8 (l.getD i (0,[],0)).1).length<=9223372036854775807 by omega)).trans ?_;rw[i64_in ((i:Yh)+1) (by omega)];rfl
 ·simp only[Aik,dF]
  exact Al (by omega)
theorem AJX[Sl]{s:Ye Yj}{b:Yj}(hs:s≠[])(hb:∀c∈s,c=b)(hl:s.length<=1000)(k:Ys->Ya β):Vi s [b] k=k Yp:=by
 unfold Vi;rw[Ad];unfold vB;rw[Ad];refine(Ks (λm i=>Vh m (λt4=>k t4) (λs2=>let t:=(!Yd (s2=([]:Ye Yj)));k t) s [b] i) (λ_=>Yp) (k Yi) (k Yp) (0:Yj) s fuel (BB (by omega)) (λm i hi=>?_) (λm=>?_)).trans ?_
 ·have hc:=hb _ (Cn (d:=(0:Yj)) hi)
  simp only[Aip,dH];refine(Ag (by omega)).trans ?_;rw[i64_in ((i:Yh)+1) (by omega)];refine(c_p3 (by omega) (by omega) (by omega)).trans ?_;refine(CX ?_).trans rfl;rw[Bh,show((i:Yh)+1).toNat=i+1 by omega,AcW hi,hc]
 ·simp only[Aip,dH]
  refine(Al (by omega)).trans ?_;rw[Ar hs];rfl
 ·rw[FG.2 λ_ _=>rfl];rfl
def rtab:Ye (Ye Yj×Ye Yj):=[([122,111,110,101],[119,111]),([114,117,108,101],[110,110,119,119,119,99,111]),([113,117,105,101,116],[119,99,119,99]),([99,97,108,101,110,100,97,114],[119,119]),([100,97,121,115],[100,43]),([115,99,104,101,100,117,108,101],[119]),([108,97,121,101,114],[119,119,100,99,110,119]),([109,101,109,98,101,114],[119,43]),([111,110],[119,99,119,99]),([110,111,116],[119]),([111,110,108,121],[119]),([108,101,97,118,101],[119,105,105]),([111,118,101,114,114,105,100,101],[119,105,105]),([115,119,97,112],[119,119,105,105])]
theorem AJY[Sl](k:Ye (Ye Yj×Ye Yj)->Ya β):dG k=k rtab:=by unfold dG;rw[Ad];rfl
def AqB(kw:Ye Yj)(_:Yn)(f:Ye Yj×Ye Yj)(_:Unit):(Ye Yj×Ye Yj)⊕Unit:=Yk (Yd (f.1=kw)) (.inl f) (.inr ())
theorem AqC[Sl]{kw:Ye Yj}{b:Yj}{kind:Yh}(hp:kw≠ES)(hw:walk (AqB kw) rtab 0 ()=.inl (kw,[b,43]))(hb:b≠43)(Lo:K8 kind=[b])(h5:0<=kind/\kind<=5){l:Ye Tok}(h0:l≠[])(hl:l.length<=99)(hk:∀t∈l,t.1=kind)(k:Ys->Ya β):Fk (wd kw::l) k=k Yp:=by
 have hK:∀c∈l.flatMap (λt=>K8 t.1),c=b:=λc hc=>by obtain⟨t,ht,hc⟩:=aF.1 hc;rw[hk t ht,Lo]at hc;exact DY.1 hc
 have hKl:(l.flatMap λt=>K8 t.1).length<=1000:=by
  have:=Je (f:=λt:Tok=>K8 t.1) (xs:=l) (B:=1) λt ht=>by rw[hk t ht,Lo];simp
  omega
 have hK0:l.flatMap (λt=>K8 t.1)≠[]:=by obtain⟨t,ht⟩:=List.exists_mem_of_ne_nil l h0;intro e;have:b∈l.flatMap λt=>K8 t.1:=aF.2 ⟨t,ht,by rw[hk t ht,Lo];simp⟩;rw[e]at this;exact Y7 this Es
 have e0:Y4 (Yl (1:Yh)) (Y5 (Yl (Yb (wd kw::l):Yh)) (wd kw::l))=l:=by rw[Bh,L9];rfl
 unfold Fk;rw[Ad];refine(Al (by rw[B9];omega)).trans ?_;refine(AG (by rw[B9];omega)).trans ?_;refine(CX rfl).trans ?_;refine(AG (by rw[B9];omega)).trans ?_;refine(Al hp).trans ?_;refine(c_p3 (by decide) (by rw[B9];omega) (IS _)).trans ?_;rw[e0];refine(AJW (by omega) (λt ht=>by rw[hk t ht];exact h5) _).trans ?_;refine(AJY _).trans ?_;generalize l.flatMap (λt=>K8 t.1)=K at hK hKl hK0;unfold yX;rw[Ad]
 refine(JC (λm i(_:Unit)=>VY m (λt=>k t) (λ_=>k Yi) (wd kw::l) K i rtab) (AqB kw)
  (λf=>Yk (Yd (K=f.2)) (k Yp) (Yk (Yd ((f.2.length:Yh)=2)) (Yk (Yd (0<=(1:Yh))&&Yd ((1:Yh)<(f.2.length:Yh))) (Yk (Yd (((f.2.getD (Yl (1:Yh)) 0).toNat:Yh)=43))
   (Yk (Yd (0<=(0:Yh))&&(Yd ((0:Yh)<=(1:Yh))&&Yd ((1:Yh)<=(f.2.length:Yh)))) (Vi K (Y4 (Yl (0:Yh)) (Y5 (Yl (1:Yh)) f.2)) (λr=>k r)) Yf) (k Yi)) Yf) (k Yi)))
  (λ_=>k Yi) ([],[]) rtab () fuel (BB (by decide)) (λm i _ hi=>?_) (λm _=>?_)).trans ?_
 ·have fin:∀g:Ya β,Yk (Yd (0<=(i:Yh))&&Yd ((i:Yh)<(rtab.length:Yh))) g Yf=g:=λg=>AG (by omega)
  simp only[Ale,gJ];refine(Ag (by omega)).trans ?_;refine(fin _).trans ?_;refine(AG (by rw[B9];omega)).trans ?_;rw[Bh];show Yk (Yd ((rtab.getD i ([],[])).1=kw)) _ _=sumK _ _ (Yk (Yd ((rtab.getD i ([],[])).1=kw)) _ _);cases Yd ((rtab.getD i ([],[])).1=kw)with
  |false=>refine c_f.trans ?_;rw[i64_in ((i:Yh)+1) (by have:rtab.length=14:=rfl;omega)];rfl
  |true=>
   refine c_t.trans ?_;refine(fin _).trans ?_;generalize rtab.getD i ([],[])=f;show _=Yk (Yd (K=f.2)) _ _;cases Yd (K=f.2)with
   |true=>rfl
   |false=>
    refine c_f.trans ((fin _).trans ?_);refine Eq.trans ?_ c_f.symm;cases Yd ((f.2.length:Yh)=2)with
    |false=>rfl
    |true=>
     refine c_t.trans ((fin _).trans ?_);refine Eq.trans ?_ c_t.symm;cases Yd (0<=(1:Yh))&&Yd ((1:Yh)<(f.2.length:Yh))with
     |false=>rfl
     |true=>
      refine c_t.trans ?_;refine Eq.trans ?_ c_t.symm;cases Yd (((f.2.getD (Yl (1:Yh)) 0).toNat:Yh)=43)with
      |false=>rfl
      |true=>exact c_t.trans (fin _)
 ·simp only[Ale,gJ]
  exact Al (by omega)
 ·rw[hw]
  refine(Al (λe=>hb ?_)).trans ?_
  ·have:(43:Yj)∈K:=by rw[e];simp
   exact(hK 43 this).symm
  refine(Ag rfl).trans ?_;refine(AG (by show 0<=(1:Yh)/\(1:Yh)<((2:Yn):Yh);omega)).trans ?_;refine(Ag rfl).trans ?_;refine(c_p3 (by decide) (by decide) (by show(1:Yh)<=((2:Yn):Yh);omega)).trans ?_;exact AJX hK0 hK hKl _
end
end
end Go.Lift
namespace Go.Lift
open Go.RowKit Go.IntWalk
noncomputable section
variable[Sl]
set_option maxRecDepth 10000
theorem SY{L:Ye (Ye Yj)}{n:Yh}(hL:(L.all CP)=Yp)(h:0<=n/\n<(L.length:Yh)):CP (at' L n)=Yp:=
 FG.1 hL _ (Cn (d:=([]:Ye Yj)) (show n.toNat<L.length by omega))
theorem tk0:∀x∈([]:Ye Tok),TokG x:=λ_ h=>Y7 h Es
theorem tk1{t:Tok}{r:Ye Tok}(h:TokG t)(hr:∀x∈r,TokG x):∀x∈t::r,TokG x:=Ybf.2 ⟨h,hr⟩
abbrev AL(ls:Ye (Ye Tok)):Prop:=∀ts∈ls,LineG ts
theorem AL.nil:AL []:=λ_ h=>Y7 h Es
theorem AL.cons{t:Ye Tok}{r:Ye (Ye Tok)}(h:LineG t)(hr:AL r):AL (t::r):=Ybf.2 ⟨h,hr⟩
theorem AL.app{r s:Ye (Ye Tok)}(h:AL r)(hs:AL s):AL (r++s):=λt ht=>(C5.1 ht).elim (h t) (hs t)
theorem X6{α:Type}{f:α->Ye (Ye Tok)}{xs:Ye α}(h:∀x∈xs,AL (f x)):AL (xs.flatMap f):=λt ht=>by obtain⟨x,hx,ht⟩:=aF.1 ht;exact h x hx t ht
theorem mZ{α:Type}{f:α->Ye Tok}{xs:Ye α}(h:∀x∈xs,LineG (f x)):AL (xs.map f):=λt ht=>by obtain⟨x,hx,rfl⟩:=Hb.1 ht;exact h x hx
theorem AJZ{z:AF}(hv:Ky z=0):z.2.1%60=0/\∀r∈z.2.2,r.2.2.2.2.2.2%60=0:=by unfold Ky at hv;obtain⟨_,hv⟩:=cz hv;obtain⟨h1,hv⟩:=cz hv;obtain⟨h2,_⟩:=cz hv;exact⟨AeJ (AeK (dt (nt h1))),λr hr=>AeJ (AeK (dt (FG.1 (nt h2) r hr)))⟩
theorem AK0{z:AF}(hz:ZoneOk z)(hv:Ky z=0)(hn:CP z.1=Yp):AL (HV z):=by obtain⟨ho,hr⟩:=AJZ hv;unfold HV;refine AL.cons ⟨λk=>AJg _ _ k,λk=>AJA _ _ k,tk1 (Dn (by decide)) (tk1 (Dn hn) (tk1 (Aqy hz.o ho) tk0)),by simp⟩ (mZ λr hm=>?_);have h:=hz.r r hm;have hf:=h.f;have ht:=h.t;have hm:=h.m;have hw:=h.w;have hd:=h.d;have hs:=h.s;have m1:=SY (L:=mM) (n:=r.2.2.1-1) (by decide) ⟨by omega,by show _<((12:Yn):Yh);omega⟩;have m2:=SY (L:=mN) (n:=r.2.2.2.1-1) (by decide) ⟨by omega,by show _<((5:Yn):Yh);omega⟩;have m3:=SY (L:=Ov) (n:=r.2.2.2.2.1) (by decide) ⟨by omega,by show _<((7:Yn):Yh);omega⟩;unfold Xv;exact⟨λk=>AJh _ _ _ _ _ _ _ k,λk=>AJB _ _ _ _ _ _ _ k,tk1 (Dn (by decide)) (tk1 (X5 (by omega)) (tk1 (X5 (by omega)) (tk1 (Dn m1) (tk1 (Dn m2) (tk1 (Dn m3) (tk1 (mY (by omega)) (tk1 (Aqy h.o (hr r ‹_›)) tk0))))))),by simp⟩
theorem AqD{kw:Ye Yj}{x:Yh×Yh}(hx:PWin x)(hk:CP kw=Yp)(hf:∀{β:Type}(a b:Ye Yj)(n m:Yh)(k:Ys->Ya β),EQ [wd kw,wd a,nu 2 n,wd b,nu 2 m] k=k Yp)(hg:∀{β:Type}(a b:Ye Yj)(n m:Yh)(k:Ys->Ya β),Fk [wd kw,wd a,nu 2 n,wd b,nu 2 m] k=k Yp):LineG (stW kw x):=by
 obtain⟨x1,x2,x3,x4⟩:=hx;have d1:=SK ⟨x1,x2⟩;have d2:=SK (a:=x.2-1) ⟨by omega,by omega⟩;have m1:=SY (L:=Ov) (n:=Yz x.1 86400) (by decide) ⟨by omega,by show _<((7:Yn):Yh);omega⟩;have m2:=SY (L:=Ov) (n:=Yz (x.2-1) 86400) (by decide) ⟨by omega,by show _<((7:Yn):Yh);omega⟩
 have c1:0<=Yv x.1 86400/\Yv x.1 86400<=86400:=by rw[EO x1];omega
 have c2:0<=x.2-Yz (x.2-1) 86400*86400/\x.2-Yz (x.2-1) 86400*86400<=86400:=by rw[F7 (by omega)];omega
 unfold stW;exact⟨λk=>hf _ _ _ _ k,λk=>hg _ _ _ _ k,tk1 (Dn hk) (tk1 (Dn m1) (tk1 (mY c1) (tk1 (Dn m2) (tk1 (mY c2) tk0)))),by simp⟩
structure NamesG (w:Ye AF) (w2:Ye AV) (w3:Ye Bm):Prop where
 z:∀x∈w,CP x.1=Yp
 p:∀x∈w2,CP x.1=Yp
 c:∀x∈w3,CP x.1=Yp
section
variable{w:Ye AF}{w2:Ye AV}{w3:Ye Bm}
theorem Ad0(h:NamesG w w2 w3){i:Yh}(hi:0<=i/\i<(w.length:Yh)):CP (Oy w i)=Yp:=h.z _ (Cn (by omega))
theorem AK1(h:NamesG w w2 w3){i:Yh}(hi:0<=i/\i<(w3.length:Yh)):CP (calN w3 i)=Yp:=h.c _ (Cn (by omega))
theorem Ad1(h:NamesG w w2 w3){i:Yh}(hi:i<(w2.length:Yh)):CP (whoB w2 i)=Yp:=by
 unfold whoB;split
 ·decide
 ·exact h.p _ (Cn (by omega))
theorem AK2(h:NamesG w w2 w3){p:AV}(hp:PerF (w.length:Yh) p)(hn:CP p.1=Yp):AL (HW w p):=by
 have hz:=Ad0 h hp.z;have hw:=hp.w.1;have hr:=hp.r.1;have q1:0<=Yz p.2.2.2.1 3600/\Yz p.2.2.2.1 3600<=999999999:=by rw[F7 hw.1];omega
 have q2:0<=Yz p.2.2.2.2.1 3600/\Yz p.2.2.2.2.1 3600<=999999999:=by rw[F7 hr.1];omega
 have g1:=Dn (s:=ES) (by decide);have g2:=Dn hn;have g3:=Dn hz;have g4:=Dn (s:=Le) (by decide);have g5:=X5 q1;have g6:=Dn (s:=Mb) (by decide);have g7:=X5 q2;have g8:=Dn (s:=Mc) (by decide);unfold HW;refine AL.cons ?_ (mZ λx hx=>AqD (hp.q.2 x hx) (by decide) (λa b n m k=>AJq a b n m k) λa b n m k=>AJK a b n m k);unfold mR mQ SM Ox;by_cases c1:p.2.2.2.1=0<;>by_cases c2:p.2.2.2.2.1=0<;>cases c3:p.2.2.2.2.2
 ·rw[Y1 c1,Y1 c2]
  exact⟨λk=>AJi _ _ k,λk=>AJC _ _ k,tk1 g1 (tk1 g2 (tk1 g3 tk0)),by simp⟩
 ·rw[Y1 c1,Y1 c2]
  exact⟨λk=>AJj _ _ k,λk=>AJD _ _ k,tk1 g1 (tk1 g2 (tk1 g3 (tk1 g8 tk0))),by simp⟩
 ·rw[Y1 c1,Yy c2]
  exact⟨λk=>AJk _ _ _ k,λk=>AJE _ _ _ k,tk1 g1 (tk1 g2 (tk1 g3 (tk1 g6 (tk1 g7 tk0)))),by simp⟩
 ·rw[Y1 c1,Yy c2]
  exact⟨λk=>AJl _ _ _ k,λk=>AJF _ _ _ k,tk1 g1 (tk1 g2 (tk1 g3 (tk1 g6 (tk1 g7 (tk1 g8 tk0))))),by simp⟩
 ·rw[Yy c1,Y1 c2]
  exact⟨λk=>AJm _ _ _ k,λk=>AJG _ _ _ k,tk1 g1 (tk1 g2 (tk1 g3 (tk1 g4 (tk1 g5 tk0)))),by simp⟩
 ·rw[Yy c1,Y1 c2]
  exact⟨λk=>AJn _ _ _ k,λk=>AJH _ _ _ k,tk1 g1 (tk1 g2 (tk1 g3 (tk1 g4 (tk1 g5 (tk1 g8 tk0))))),by simp⟩
 ·rw[Yy c1,Yy c2]
  exact⟨λk=>AJo _ _ _ _ k,λk=>AJI _ _ _ _ k,tk1 g1 (tk1 g2 (tk1 g3 (tk1 g4 (tk1 g5 (tk1 g6 (tk1 g7 tk0)))))),by simp⟩
 ·rw[Yy c1,Yy c2]
  exact⟨λk=>AJp _ _ _ _ k,λk=>AJJ _ _ _ _ k,tk1 g1 (tk1 g2 (tk1 g3 (tk1 g4 (tk1 g5 (tk1 g6 (tk1 g7 (tk1 g8 tk0))))))),by simp⟩
theorem Ad2{l:Ye Yh}(h0:l≠[])(hl:l.length<=64)(hd:∀d∈l,0<=d/\d<98981):LineG (wd FZ::l.map (nu 3)):=by
 have hk:∀t∈l.map (nu 3),t.1=3:=λt ht=>by obtain⟨d,_,rfl⟩:=Hb.1 ht;rfl
 refine⟨λk=>AqA (λk=>AJU k) (by decide) (by simpa using h0) (by simp;omega) hk k,λk=>AqC (b:=100) (kind:=3) (by decide) rfl (by decide) rfl (by decide) (by simpa using h0) (by simp;omega) hk k,tk1 (Dn (by decide)) λt ht=>?_,by simp;omega⟩;obtain⟨d,Ct,rfl⟩:=Hb.1 ht;exact Aqx (hd d Ct)
theorem AK3(h:NamesG w w2 w3){c:Bm}(hc:CalF (w.length:Yh) c)(hn:CP c.1=Yp):AL (I3 w c):=by
 have hz:=Ad0 h hc.z;have hl:=hc.l;unfold I3 ET;refine AL.cons ⟨λk=>AJs _ _ k,λk=>AJM _ _ k,tk1 (Dn (by decide)) (tk1 (Dn hn) (tk1 (Dn hz) tk0)),by simp⟩ ?_;by_cases h0:c.2.2=[]
 ·rw[Y1 h0];exact AL.nil
 ·rw[Yy h0]
  by_cases h1:c.2.2.length<=32
  ·rw[Y1 h1]
   exact AL.cons (Ad2 h0 hl hc.d) AL.nil
  ·rw[Yy h1]
   have n1:c.2.2.take 32≠[]:=λe=>by have:=Aw Yb e;simp at this;exact h0 this
   have n2:c.2.2.drop 32≠[]:=λe=>by have:=Aw Yb e;simp at this;omega
   exact AL.cons (Ad2 n1 (by simp;omega) λd hd=>hc.d d (List.mem_of_mem_take hd)) (AL.cons (Ad2 n2 (by simp;omega) λd hd=>hc.d d (List.mem_of_mem_drop hd)) AL.nil)
theorem AK4(h:NamesG w w2 w3){l:Bz}{nz nc:Yh}(hl:LayF nz (w2.length:Yh) nc l):LineG (Xx w2 l):=by
 have h1:=hl.m;have hk:∀t∈l.2.2.2.2.2.1.map (λm=>wd (whoB w2 m)),t.1=0:=λt ht=>by obtain⟨d,_,rfl⟩:=Hb.1 ht;rfl
 have h0:l.2.2.2.2.2.1.map (λm=>wd (whoB w2 m))≠[]:=λe=>by have:=Aw Yb e;simp at this;rw[this]at h1;simp at h1
 unfold Xx;refine⟨λk=>AqA (λk=>AJV k) (by decide) h0 (by simp;omega) hk k,λk=>AqC (b:=119) (kind:=0) (by decide) rfl (by decide) rfl (by decide) h0 (by simp;omega) hk k,tk1 (Dn (by decide)) λt ht=>?_,by simp;omega⟩;obtain⟨d,Ct,rfl⟩:=Hb.1 ht;exact Dn (Ad1 h (hl.ms d Ct).2)
theorem AK5(h:NamesG w w2 w3){l:Bz}{np nc:Yh}(hl:LayF (w.length:Yh) np nc l)(hn:CP l.1=Yp):LineG (AcI w l):=by have hz:=Ad0 h hl.z;have hu:=hl.u;have he:=hl.e;have hs:=hl.s;have hd:=hl.d;have m1:=SY (L:=untNs) (n:=l.2.2.2.1) (by decide) ⟨by omega,by show _<((3:Yn):Yh);omega⟩;unfold AcI;exact⟨λk=>AJu _ _ _ _ _ _ k,λk=>AJO _ _ _ _ _ _ k,tk1 (Dn (by decide)) (tk1 (Dn hn) (tk1 (Dn hz) (tk1 (Aqx (by omega)) (tk1 (mY (by omega)) (tk1 (X5 (by omega)) (tk1 (Dn m1) tk0)))))),by simp⟩
theorem AK6(h:NamesG w w2 w3){x:Ed}(hx:EdF (w2.length:Yh) x):LineG (Me w2 x):=by
 have hk:=hx.k;have ha:x.2.1<(w2.length:Yh):=by have:=hx.a;omega
 have n1:=Ad1 h ha;have hf:=hx.f;have AOq:=hx.ft;have ht:=hx.t;have g1:=Aqz (n:=x.2.2.2.1) (by omega);have g2:=Aqz (n:=x.2.2.2.2) (by omega);unfold Me mS;have key:x.1=0\/x.1=1\/x.1=2:=by omega
 rcases key with e|e|e
 ·rw[Yy (by omega),e]
  exact⟨λk=>AJx _ _ _ k,λk=>AJR _ _ _ k,tk1 (Dn (by decide)) (tk1 (Dn n1) (tk1 g1 (tk1 g2 tk0))),by simp⟩
 ·rw[Yy (by omega),e]
  exact⟨λk=>AJy _ _ _ k,λk=>AJS _ _ _ k,tk1 (Dn (by decide)) (tk1 (Dn n1) (tk1 g1 (tk1 g2 tk0))),by simp⟩
 ·have n2:=Ad1 h (hx.b e).2
  rw[Y1 e,e];exact⟨λk=>AJz _ _ _ _ k,λk=>AJT _ _ _ _ k,tk1 (Dn (by decide)) (tk1 (Dn n1) (tk1 (Dn n2) (tk1 g1 (tk1 g2 tk0)))),by simp⟩
theorem AK7(h:NamesG w w2 w3){l:Bz}{nz np:Yh}(hl:LayF nz np (w3.length:Yh) l):AL (Qs w3 l):=by
 unfold Qs;by_cases e:l.2.2.2.2.2.2.2.2=0
 ·rw[Y1 e];exact AL.nil
 ·rw[Yy e]
  have hc:(1<=l.2.2.2.2.2.2.2.2/\l.2.2.2.2.2.2.2.2<=2)/\0<=l.2.2.2.2.2.2.2.1/\l.2.2.2.2.2.2.2.1<(w3.length:Yh):=by
   rcases hl.c with hc|hc
   ·exact Y7 hc.1 e
   ·exact hc
  have hn:=AK1 h hc.2;have key:l.2.2.2.2.2.2.2.2=1\/l.2.2.2.2.2.2.2.2=2:=by omega
  refine AL.cons ?_ AL.nil;rcases key with e1|e1
  ·rw[e1]
   exact⟨λk=>AJv _ k,λk=>AJP _ k,tk1 (Dn (by decide)) (tk1 (Dn hn) tk0),by simp⟩
  ·rw[e1]
   exact⟨λk=>AJw _ k,λk=>AJQ _ k,tk1 (Dn (by decide)) (tk1 (Dn hn) tk0),by simp⟩
theorem AK8(h:NamesG w w2 w3){l:Bz}(hl:LayF (w.length:Yh) (w2.length:Yh) (w3.length:Yh) l)(hn:CP l.1=Yp):AL (I4 w w2 w3 l):=by unfold I4;exact AL.cons (AK5 h hl hn) (AL.cons (AK4 h hl) (AL.app (mZ λx hx=>AqD (hl.w.2 x hx) (by decide) (λa b n m k=>AJr a b n m k) λa b n m k=>AJL a b n m k) (AK7 h hl)))
theorem AK9(h:NamesG w w2 w3){s:BC}(hs:SchG (w.length:Yh) (w2.length:Yh) (w3.length:Yh) s)(hn:CP s.1=Yp):AL (Lf w w2 w3 s):=by unfold Lf;exact AL.cons ⟨λk=>AJt _ k,λk=>AJN _ k,tk1 (Dn (by decide)) (tk1 (Dn hn) tk0),by simp⟩ (AL.app (X6 λl hl=>AK8 h (hs.ls l hl).1 (hs.ls l hl).2) (mZ λx hx=>AK6 h (hs.es x hx)))
end
theorem Ad3{c:Aj}(h:ConfV c):AL (K7 c):=by have hN:NamesG c.1 c.2.1 c.2.2.1:=⟨λx hx=>(h.z x hx).2,λx hx=>(h.p x hx).2,λx hx=>(h.x x hx).2⟩;unfold K7;exact AL.app (X6 λz hz=>AK0 (h.z z hz).1.1 (h.z z hz).1.2 (h.z z hz).2) (AL.app (X6 λp hp=>AK2 hN (h.p p hp).1 (h.p p hp).2) (AL.app (X6 λx hx=>AK3 hN (h.x x hx).1 (h.x x hx).2) (X6 λs hs=>AK9 hN (h.s s hs).1 (h.s s hs).2)))
theorem n5{c:Aj}(h:ConfV c):(K7 c).length<=3000:=by have l1:=h.lz;have l2:=h.lp;have l3:=h.lc;have l4:=h.ls;have z1:=Je (f:=HV) λy(hy:y∈c.1)=>SR (h.z y hy).1.1;have z2:=Je (f:=HW c.1) λy(hy:y∈c.2.1)=>SS (h.p y hy).1;have z3:=Je (f:=I3 c.1) λy(hy:y∈c.2.2.1)=>SU;have z4:=Je (f:=Lf c.1 c.2.1 c.2.2.1) λy(hy:y∈c.2.2.2)=>AcP (h.s y hy).1;unfold K7;rw[AQ,AQ,AQ];omega
end
end Go.Lift
namespace Go.Lift
open Go.RowKit Go.IntWalk
noncomputable section
variable[Sl]
set_option maxRecDepth 10000
section
variable{β:Type}
theorem DT(s:Ye Yj)(k:Tok->Ya β):Dy s k=k (wd s):=by unfold Dy;rw[Ad];rfl
theorem I7(t n:Yh)(k:Tok->Ya β):Hg t n k=k (nu t n):=by unfold Hg;rw[Ad];rfl
theorem AqE(k:Ye (Ye Yj)->Ya β):UY k=k Ov:=by unfold UY;rw[Ad];rfl
theorem AKa(k:Ye (Ye Yj)->Ya β):eQ k=k mM:=by unfold eQ;rw[Ad];unfold uZ;rw[Ad];rfl
theorem AKb(k:Ye (Ye Yj)->Ya β):eR k=k mN:=by unfold eR;rw[Ad];unfold v6;rw[Ad];rfl
theorem AqF{kw:Ye Yj}{x:Yh×Yh}(hx:PWin x)(k:Ye Tok->Ya β):UZ kw x k=k (stW kw x):=by
 obtain⟨x1,x2,x3,x4⟩:=hx;have d1:=SK ⟨x1,x2⟩;have d2:=SK (a:=x.2-1) ⟨by omega,by omega⟩
 have e1:x.1-Yz x.1 86400*86400=Yv x.1 86400:=by rw[F7 x1,EO x1];omega
 have e2:0<=x.2-Yz (x.2-1) 86400*86400/\x.2-Yz (x.2-1) 86400*86400<=86400:=by rw[F7 (by omega)];omega
 have e3:0<=Yv x.1 86400/\Yv x.1 86400<=86400:=by rw[EO x1];omega
 unfold UZ;rw[Ad];unfold stW;dsimp only
 rw[i64_in (Yz x.1 86400) (by omega),i64_in (x.2-1) (by omega),i64_in (Yz (x.2-1) 86400) (by omega),i64_in (Yz x.1 86400*86400) (by omega),i64_in (Yz (x.2-1) 86400*86400) (by omega),e1,i64_in (Yv x.1 86400) (by omega),
  i64_in (x.2-Yz (x.2-1) 86400*86400) (by omega)]
 refine(AqE _).trans ?_;refine(DT _ _).trans ?_;refine(AG (by show 0<=_/\_<((7:Yn):Yh);omega)).trans ?_;refine(DT _ _).trans ?_;refine(I7 _ _ _).trans ?_;refine(AG (by show 0<=_/\_<((7:Yn):Yh);omega)).trans ?_;refine(DT _ _).trans ?_;exact I7 _ _ _
theorem AKc{z:AF}(h:ZoneOk z)(k:Ye (Ye Tok)->Ya β):gH z k=k (HV z):=by
 have hl:=h.l;unfold gH;rw[Ad];unfold HV;refine(DT _ _).trans ?_;refine(DT _ _).trans ?_;refine(I7 _ _ _).trans ?_;unfold yV;rw[Ad,<-Md];refine Gj (λm i o=>VW m (λout=>k out) i z o) (λr=>[Xv r]) (λo=>k o) (0,0,0,0,0,0,0) z.2.2 [[wd SL,wd z.1,nu 4 z.2.1]] 1 (by omega) (λ_ _=>by simp) (λm i o hi ho=>?_) λm o=>?_
 ·have hr:=h.r _ (Cn (d:=((0,0,0,0,0,0,0):Cj)) hi)
  simp only[E9]at ho;simp only[Al9,gG];refine(Ag (by omega)).trans ?_;refine(AG (by omega)).trans ?_;rw[Bh];generalize z.2.2.getD i (0,0,0,0,0,0,0)=r at hr;have hm:=hr.m;have hw:=hr.w;have hd:=hr.d;refine(DT _ _).trans ?_;refine(I7 _ _ _).trans ?_;refine(I7 _ _ _).trans ?_;refine(AKa _).trans ?_;rw[i64_in (r.2.2.1-1) (by omega),i64_in (r.2.2.2.1-1) (by omega)];refine(AG (by show 0<=_/\_<((12:Yn):Yh);omega)).trans ?_;refine(DT _ _).trans ?_;refine(AKb _).trans ?_;refine(AG (by show 0<=_/\_<((5:Yn):Yh);omega)).trans ?_;refine(DT _ _).trans ?_;refine(AqE _).trans ?_;refine(AG (by show 0<=_/\_<((7:Yn):Yh);omega)).trans ?_;refine(DT _ _).trans ?_;refine(I7 _ _ _).trans ?_;refine(I7 _ _ _).trans ?_;refine(Cx (show(o.length+1)*24<=_ by omega)).trans ?_;rw[i64_in ((i:Yh)+1) (by omega)];rfl
 ·simp only[Al9,gG]
  exact Al (by omega)
section
variable{c:Aj}
theorem AqG{p:AV}(hp:PerF (c.1.length:Yh) p)(t:Ye Tok)(k:Ye (Ye Tok)->Ya β):Vz (λt4=>k t4) p t=k (t::p.2.2.1.map (stW K6)):=by
 have hq:=hp.q;unfold Vz;rw[Ad];unfold wS wR;rw[Ad,<-Md];refine Gj (λm i o=>Vy m (λout=>k out) i p o) (λx=>[stW K6 x]) (λo=>k o) (0,0) p.2.2.1 [t] 1 (by omega) (λ_ _=>by simp) (λm i o hi ho=>?_) λm o=>?_
 ·have hx:=hq.2 _ (Cn (d:=((0,0):Yh×Yh)) hi)
  simp only[E9]at ho;simp only[Ajt,eE];refine(Ag (by omega)).trans ?_;refine(AG (by omega)).trans ?_;rw[Bh];refine(AqF hx _).trans ?_;refine(Cx (show(o.length+1)*24<=_ by omega)).trans ?_;rw[i64_in ((i:Yh)+1) (by omega)];rfl
 ·simp only[Ajt,eE]
  exact Al (by omega)
theorem AqH{p:AV}(hp:PerF (c.1.length:Yh) p){t:Ye Tok}(ht:t.length<=20)(k:Ye (Ye Tok)->Ya β):V0 (λt4=>k t4) p t=k ((t++Ox p)::p.2.2.1.map (stW K6)):=by
 unfold V0;rw[Ad];unfold wT Ox;cases h:p.2.2.2.2.2 with
 |false=>refine c_f.trans ((AqG hp t k).trans ?_);simp
 |true=>refine c_t.trans ?_;refine(DT _ _).trans ?_;refine(Cx (show(t.length+1)*32<=_ by omega)).trans ?_;exact AqG hp _ k
theorem AqI{p:AV}(hp:PerF (c.1.length:Yh) p){t:Ye Tok}(ht:t.length<=10)(k:Ye (Ye Tok)->Ya β):V1 (λt4=>k t4) p t=k ((t++SM p++Ox p)::p.2.2.1.map (stW K6)):=by
 have hr:=hp.r.1;have q2:0<=Yz p.2.2.2.2.1 3600/\Yz p.2.2.2.2.1 3600<=999999999:=by rw[F7 hr.1];omega
 unfold V1;rw[Ad];unfold wU SM;by_cases h:p.2.2.2.2.1=0
 ·rw[Y1 h]
  refine(CX h).trans ((AqH hp (by omega) k).trans ?_);simp
 ·rw[Yy h]
  refine(EF h).trans ?_;refine(DT _ _).trans ?_;refine(I7 _ _ _).trans ?_;refine(Cx (show(t.length+2)*32<=_ by omega)).trans ?_;rw[i64_in (Yz p.2.2.2.2.1 3600) (by omega)];exact AqH hp (by simp;omega) k
theorem AKd{p:AV}(hp:PerF (c.1.length:Yh) p)(k:Ye (Ye Tok)->Ya β):eF c p k=k (HW c.1 p):=by
 have hw:=hp.w.1;have q1:0<=Yz p.2.2.2.1 3600/\Yz p.2.2.2.1 3600<=999999999:=by rw[F7 hw.1];omega
 unfold eF;rw[Ad];unfold HW mR mQ;refine(DT _ _).trans ?_;refine(DT _ _).trans ?_;refine(AG hp.z).trans ?_;refine(DT _ _).trans ?_;by_cases h:p.2.2.2.1=0
 ·rw[Y1 h]
  refine(CX h).trans ((AqI hp (t:=[wd ES,wd p.1,wd (Oy c.1 p.2.1)]) (by simp) k).trans ?_);simp
 ·rw[Yy h]
  refine(EF h).trans ?_;refine(DT _ _).trans ?_;refine(I7 _ _ _).trans ?_;refine(Cx (show(3+2)*32<=_ by omega)).trans ?_;rw[i64_in (Yz p.2.2.2.1 3600) (by omega)];refine(AqI hp (t:=[wd ES,wd p.1,wd (Oy c.1 p.2.1)]++[wd Le,nu 1 (Yz p.2.2.2.1 3600)]) (by simp) k).trans ?_;simp
theorem AKe(hd:Ye Tok)(p:Ye Yh)(d:Yh)(hp:p.length<64):(let o:=if p.length%32=0 then(hd::ET p)++[[wd FZ]]else hd::ET p
   1<=o.length/\o.length<=3/\(o.getD (o.length-1) []).length<=100/\o.set (o.length-1) (o.getD (o.length-1) []++[nu 3 d])=hd::ET (p++[d])):=by
 have AO:p++[d]≠[]:=by simp
 have AU:(p++[d]).length=p.length+1:=by simp
 by_cases h0:p=[]
 ·subst h0
  have e1:ET []=[]:=Y1 rfl;have e2:ET ([]++[d])=[[wd FZ,nu 3 d]]:=by unfold ET;rw[Yy (by simp),Y1 (by simp)];rfl
  rw[Y1 (show([]:Ye Yh).length%32=0 from rfl),e1,e2];exact⟨by simp,by simp,by simp,by simp⟩
 have Ih:0<p.length:=Pa.2 h0;by_cases h1:p.length<32
 ·have e1:ET p=[wd FZ::p.map (nu 3)]:=by unfold ET;rw[Yy h0,Y1 (by omega)]
  have e2:ET (p++[d])=[wd FZ::(p++[d]).map (nu 3)]:=by unfold ET;rw[Yy AO,Y1 (by omega)]
  rw[Yy (by omega),e1,e2];refine⟨by simp,by simp,?_,by simp⟩;show(wd FZ::p.map (nu 3)).length<=100;simp;omega
 by_cases h2:p.length=32
 ·have e1:ET p=[wd FZ::p.map (nu 3)]:=by unfold ET;rw[Yy h0,Y1 (by omega)]
  have e3:(p++[d]).take 32=p:=by rw[<-h2];exact aH
  have e4:(p++[d]).drop 32=[d]:=by rw[<-h2];exact List.drop_left
  have e2:ET (p++[d])=[wd FZ::p.map (nu 3),[wd FZ,nu 3 d]]:=by unfold ET;rw[Yy AO,Yy (by omega),e3,e4];rfl
  rw[Y1 (by omega),e1,e2];exact⟨by simp,by simp,by simp,by simp⟩
 ·have e1:ET p=[wd FZ::(p.take 32).map (nu 3),wd FZ::(p.drop 32).map (nu 3)]:=by unfold ET;rw[Yy h0,Yy (by omega)]
  have e3:(p++[d]).take 32=p.take 32:=L6 (by omega);have e4:(p++[d]).drop 32=p.drop 32++[d]:=OY (by omega);have e2:ET (p++[d])=[wd FZ::(p.take 32).map (nu 3),wd FZ::(p.drop 32++[d]).map (nu 3)]:=by unfold ET;rw[Yy AO,Yy (by omega),e3,e4]
  rw[Yy (by omega),e1,e2];refine⟨by simp,by simp,?_,by simp⟩;show(wd FZ::(p.drop 32).map (nu 3)).length<=100;simp;omega
theorem AqJ{x:Bm}{i:Yn}(hi:i<x.2.2.length){o:Ye (Ye Tok)}(h1:1<=o.length/\o.length<=3)(h2:(o.getD (o.length-1) []).length<=100)(k1:Ajv β):V2 k1 (i:Yh) x o=k1 (i:Yh) x (o.set (o.length-1) (o.getD (o.length-1) []++[nu 3 (x.2.2.getD i 0)])):=by
 unfold V2;rw[Ad];unfold wX;dsimp only;rw[i64_in ((o.length:Yh)-1) (by omega),show((o.length:Yh)-1).toNat=o.length-1 by omega,Bh];refine(AG (by omega)).trans ?_;refine(AG (by omega)).trans ?_;refine(I7 _ _ _).trans ?_;refine(Aw (λb=>Yk b _ Yf) (KQ _)).trans ?_;refine(Cx (show((o.getD (o.length-1) []).length+1)*32<=_ by omega)).trans ?_;refine(AG (by omega)).trans ?_;rw[Ao (rfl:o.length-1=o.length-1)];rfl
theorem AKf{x:Bm}(hx:CalF (c.1.length:Yh) x)(k:Ye (Ye Tok)->Ya β):eH c x k=k (I3 c.1 x):=by
 have hl:=hx.l;unfold eH;rw[Ad];unfold I3;refine(DT _ _).trans ?_;refine(DT _ _).trans ?_;refine(AG hx.z).trans ?_;refine(DT _ _).trans ?_;unfold wY;rw[Ad];show Sh fuel (λout=>k out) 0 x [[wd calW,wd x.1,wd (Oy c.1 x.2.1)]]=_;generalize [wd calW,wd x.1,wd (Oy c.1 x.2.1)]=hd
 have key:∀(j i m:Yn),i+j=x.2.2.length->j<m->Sh m (λout=>k out) (i:Yh) x (hd::ET (x.2.2.take i))=k (hd::ET x.2.2):=by
  intro j
  induction j with
  |zero=>intro i m hi hm;obtain⟨m,rfl⟩:∃m',m=m'+1:=⟨m-1,by omega⟩;simp only[Ajx,eG];refine(Al (by omega)).trans ?_;rw[GY (by omega)]
  |succ j ih=>
   intro i m hi hm;obtain⟨m,rfl⟩:∃m',m=m'+1:=⟨m-1,by omega⟩;have Ax:i<x.2.2.length:=by omega
   have AU:(x.2.2.take i).length=i:=by rw[HP];omega
   have sn:=AKe hd (x.2.2.take i) (x.2.2.getD i 0) (by omega);rw[<-Ot 0 Ax,AU]at sn;simp only[Ajx,eG];refine(Ag (by omega)).trans ?_;rw[EO (by omega:(0:Yh)<=(i:Yh))];have nx:=ih (i+1) m (by omega) (by omega);rw[show((i+1:Yn):Yh)=(i:Yh)+1 by omega]at nx;by_cases h:i%32=0
   ·rw[Y1 h]at sn
    obtain⟨s1,s2,s3,s4⟩:=sn;refine(Ag (by omega)).trans ?_;refine(DT _ _).trans ?_;refine(Aw (λb=>Yk b _ Yf) (KQ _)).trans ?_;have hs:=Aqe (x.2.2.take i);refine(Cx (show((hd::ET (x.2.2.take i)).length+1)*24<=_ by rw[B9];omega)).trans ?_;refine(AqJ Ax (o:=(hd::ET (x.2.2.take i))++[[wd FZ]]) ⟨s1,s2⟩ s3 _).trans ?_;rw[s4,i64_in ((i:Yh)+1) (by omega)];exact nx
   ·rw[Yy h]at sn
    obtain⟨s1,s2,s3,s4⟩:=sn;refine(Al (by omega)).trans ?_;refine(AqJ Ax ⟨s1,s2⟩ s3 _).trans ?_;rw[s4,i64_in ((i:Yh)+1) (by omega)];exact nx
 exact key x.2.2.length 0 fuel (by omega) (BB (by omega))
theorem AKg{l:Bz}{nz nc:Yh}(hl:LayF nz (c.2.1.length:Yh) nc l)(o:Ye (Ye Tok))(k1:x5 β):eJ k1 0 c l o [wd memW]=k1 c l o (Xx c.2.1 l):=by
 have hm:=hl.m;unfold eJ Xx;rw[Ad];have e:wd memW::l.2.2.2.2.2.1.map (λm=>wd (whoB c.2.1 m))=[wd memW]++l.2.2.2.2.2.1.flatMap λm=>[wd (whoB c.2.1 m)]:=by rw[Md];rfl
 rw[e];refine Gj (λm i s=>V3 m k1 i c l o s) (λm=>[wd (whoB c.2.1 m)]) (λs=>k1 c l o s) 0 l.2.2.2.2.2.1 [wd memW] 1 (by omega) (λ_ _=>by simp) (λm i s hi hs=>?_) λm s=>?_
 ·have hx:=hl.ms _ (Cn (d:=(0:Yh)) hi)
  simp only[E9]at hs;simp only[AjA,eI];refine(Ag (by omega)).trans ?_;refine(AG (by omega)).trans ?_;rw[Bh];refine(AG hx).trans ?_;refine(DT _ _).trans ?_;refine(Cx (show(s.length+1)*32<=_ by omega)).trans ?_;rw[i64_in ((i:Yh)+1) (by omega)];unfold whoB;rw[Yy (by omega)]
 ·simp only[AjA,eI]
  exact Al (by omega)
theorem q_on{l:Bz}{nz np nc:Yh}(hl:LayF nz np nc l){o:Ye (Ye Tok)}(ho:o.length<=1000)(k1:x7 β):eL k1 0 c l o=k1 c l (o++l.2.2.2.2.2.2.1.map (stW onW)):=by
 have hm:=hl.w;unfold eL;rw[Ad,<-Md];refine Gj (λm i s=>V4 m k1 i c l s) (λx=>[stW onW x]) (λs=>k1 c l s) (0,0) l.2.2.2.2.2.2.1 o 1 (by omega) (λ_ _=>by simp) (λm i s hi hs=>?_) λm s=>?_
 ·have hx:=hm.2 _ (Cn (d:=((0,0):Yh×Yh)) hi)
  simp only[AjB,eK];refine(Ag (by omega)).trans ?_;refine(AG (by omega)).trans ?_;rw[Bh];refine(AqF hx _).trans ?_;refine(Cx (show(s.length+1)*24<=_ by omega)).trans ?_;rw[i64_in ((i:Yh)+1) (by omega)];rfl
 ·simp only[AjB,eK]
  exact Al (by omega)
theorem AKh{l:Bz}(hl:LayF (c.1.length:Yh) (c.2.1.length:Yh) (c.2.2.1.length:Yh) l)(k:Ye (Ye Tok)->Ya β):eM c l k=k (I4 c.1 c.2.1 c.2.2.1 l):=by
 have hu:=hl.u;have hw:=hl.w.1;unfold eM;rw[Ad];unfold I4 Qs;refine(AG (by show 0<=_/\_<((3:Yn):Yh);omega)).trans ?_;refine(DT _ _).trans ?_;refine(DT _ _).trans ?_;refine(AG hl.z).trans ?_;refine(DT _ _).trans ?_;refine(I7 _ _ _).trans ?_;refine(I7 _ _ _).trans ?_;refine(I7 _ _ _).trans ?_;refine(DT _ _).trans ?_;refine(DT _ _).trans ?_;refine(AKg hl _ _).trans ?_;refine(Cx (show(1+1)*24<=_ by omega)).trans ?_;refine(q_on hl (by simp) _).trans ?_;by_cases h:l.2.2.2.2.2.2.2.2=0
 ·rw[Y1 h]
  refine(CX h).trans ?_;refine k_eq ?_;rw[In];rfl
 ·rw[Yy h]
  have hc:(1<=l.2.2.2.2.2.2.2.2/\l.2.2.2.2.2.2.2.2<=2)/\0<=l.2.2.2.2.2.2.2.1/\l.2.2.2.2.2.2.2.1<(c.2.2.1.length:Yh):=by
   rcases hl.c with hc|hc
   ·exact Y7 hc.1 h
   ·exact hc
  refine(EF h).trans ?_;refine(AG (by show 0<=_/\_<((3:Yn):Yh);omega)).trans ?_;refine(DT _ _).trans ?_;refine(AG hc.2).trans ?_;refine(DT _ _).trans ?_;refine(Cx (show(_+1)*24<=_ by simp only[AQ,HQ,B9,Ft];omega)).trans ?_;refine k_eq ?_;rw[C4];rfl
theorem AqK{x:Ed}{t:Ye Tok}(ht:t.length<=10)(k:Ye Tok->Ya β):V5 (λt4=>k t4) x t=k (t++[nu 5 x.2.2.2.1,nu 5 x.2.2.2.2]):=by unfold V5;rw[Ad];unfold xA;refine(I7 _ _ _).trans ?_;refine(I7 _ _ _).trans ?_;exact Cx (show(t.length+2)*32<=_ by omega)
theorem AqL{x:Ed}(hx:EdF (c.2.1.length:Yh) x)(n:Ye Yj)(k:Ye Tok->Ya β):V6 (λt4=>k t4) n c x=k (wd (at' MZ x.1)::((if x.1=2 then [wd n,wd (whoB c.2.1 x.2.2.1)]else [wd n])++[nu 5 x.2.2.2.1,nu 5 x.2.2.2.2])):=by
 have hk:=hx.k;unfold V6;rw[Ad];unfold xB;refine(AG (by show 0<=_/\_<((3:Yn):Yh);omega)).trans ?_;refine(DT _ _).trans ?_;refine(DT _ _).trans ?_;by_cases h:x.1=2
 ·have hb:=hx.b h
  rw[Y1 h];refine(Ag h).trans ?_;refine(AG hb).trans ?_;refine(DT _ _).trans ?_;refine(Cx (show(2+1)*32<=_ by omega)).trans ?_;refine(AqK (by simp) k).trans ?_;unfold whoB;rw[Yy (by omega)];rfl
 ·rw[Yy h]
  refine(Al h).trans ?_;exact AqK (by simp) k
theorem AKi{x:Ed}(hx:EdF (c.2.1.length:Yh) x)(k:Ye Tok->Ya β):eN c x k=k (Me c.2.1 x):=by
 have ha:=hx.a;unfold eN;rw[Ad];unfold Me mS;by_cases h:0<=x.2.1
 ·refine(Ag h).trans ?_
  refine(AG (by omega)).trans ?_;refine(AqL hx _ k).trans ?_;unfold whoB;rw[Yy (show ¬x.2.1<0 by omega)]
 ·refine(Al h).trans ?_
  refine(AqL hx _ k).trans ?_;unfold whoB;rw[Y1 (show x.2.1<0 by omega)];rfl
end
end
end
end Go.Lift
namespace Go.Lift
open Go.RowKit Go.IntWalk
noncomputable section
variable[Sl]
set_option maxRecDepth 10000
abbrev FK(c:Aj):Prop:=∀s∈c.2.2.2,∀x∈s.2.2,x.2.2.2.2<=9223372036854775807
theorem Ad4{α:Type}{Q:α->Prop}{l:Ye α}{i:Yn}{x:α}(h:∀y∈l,Q y)(hx:Q x):∀y∈l.set i x,Q y:=by
 intro y hy;rcases List.mem_or_eq_of_mem_set hy with g|g
 ·exact h y g
 ·exact g▸hx
theorem O4{z:Ye AF}{p:Ye AV}{c:Ye Bm}{s:Ye BC}(h:FK (z,p,c,s)){j j2:Yn}{l:Bz}(hj:j<s.length):FK (z,p,c,s.set j ((s.getD j BN).1,((s.getD j BN).2.1.set j2 l,(s.getD j BN).2.2))):=
 Ad4 h (show ∀x∈(s.getD j BN).2.2,x.2.2.2.2<=9223372036854775807 from h (s.getD j BN) (Cn (d:=BN) hj))
theorem AKj{z:Ye AF}{p:Ye AV}{c:Ye Bm}{s:Ye BC}(h:FK (z,p,c,s)){j:Yn}{x:Ed}(hj:j<s.length)(hx:x.2.2.2.2<=9223372036854775807):FK (z,p,c,s.set j ((s.getD j BN).1,((s.getD j BN).2.1,(s.getD j BN).2.2++[x]))):=
 Ad4 h (LZ (h (s.getD j BN) (Cn (d:=BN) hj)) hx)
structure DiceC (c:Aj):Prop where
 sm:FK c
 dz:1<=c.1.length/\c.1.length<=8
 dp:1<=c.2.1.length/\c.2.1.length<=8
 dc:c.2.2.1.length<=8
 ds:1<=c.2.2.2.length/\c.2.2.2.length<=8
 e:∀x∈c.2.2.2,x.2.2.length<=1000
 l:∀x∈c.2.2.2,x.2.1.length<=1000
theorem AKk{c:Aj}(h:ConfOk c)(h1:1<=c.1.length/\1<=c.2.1.length/\1<=c.2.2.2.length):DiceC c:=by
 have e1:zNames.length=2:=rfl;have e2:pNames.length=8:=rfl;have e3:cNames.length=1:=rfl;have e4:sNames.length=3:=rfl;have l1:=h.oz.1.1;have l2:=h.op.1.1;have l3:=h.oc.1.1;have l4:=h.os.1.1;refine⟨λs hs x hx=>?_,⟨h1.1,by omega⟩,⟨h1.2.1,by omega⟩,by omega,⟨h1.2.2,by omega⟩,λx hx=>?_,λx hx=>?_⟩
 ·have:=((h.os.2 s hs).2 x hx).2;omega
 ·have:=(AcH (h.os.2 x hx).1).e;omega
 ·have:=(AcH (h.os.2 x hx).1).l;omega
section
variable{β:Type}{G:Ya β->Prop}
theorem AKl{z:Ye AF}{p:Ye AV}{c:Ye Bm}{s:Ye BC}(h:DiceC (z,p,c,s)){j:Yn}{d:Dice}{t4:Aj}{x:Ed}{k:AkT β}(hj:j<s.length)(hx:x.2.2.2.2<=9223372036854775807)(hk:∀s',FK (z,p,c,s')->G (k d t4 z p c s')):G (LW k j d t4 z p c s x):=by
 unfold LW;rw[Ad];unfold yN;have he:(s.getD j BN).2.2.length<=1000:=h.e _ (Cn (d:=BN) hj);refine w_e ((Aw (λb=>Yk b _ Yf) (KQ _)).trans (Cx (show(_+1)*40<=_ by omega))) ?_;refine w_e (c_b (by simp)) ?_;exact hk _ (AKj h.sm hj hx)
theorem AKm{z:Ye AF}{p:Ye AV}{c:Ye Bm}{s:Ye BC}(h:DiceC (z,p,c,s)){b:Ys}{d:Dice}{t4:Aj}{k1:AkV β}{k2:AkW β}(hd:Cf d)(h1:∀d' s',Cf d'->FK (z,p,c,s')->G (k1 d' t4 z p c s'))(h2:∀d' s',Cf d'->FK (z,p,c,s')->G (k2 d' t4 z p c s')):G (PZ k1 k2 b d t4 z p c s):=by
 have hs:=h.ds;have AOG:1<=s.length/\s.length<=8:=hs;unfold PZ;rw[Ad];unfold yO;refine w_c (λ_=>?_) (λ_=>?_)
 ·refine Co hd ⟨by omega,by omega⟩ λx d1 g1 g2 BH=>?_
  refine w_i ⟨g1,g2⟩ ?_;have hj:x.toNat<s.length:=by omega
  refine w_d (λ_=>h1 _ _ BH h.sm) (λhl=>?_);have hL:(s.getD x.toNat BN).2.1.length<=1000:=h.l _ (Cn (d:=BN) hj);have GS:¬((s.getD x.toNat BN).2.1.length:Yh)=0:=hl;refine Co BH ⟨by omega,by omega⟩ λy d2 g3 g4 BI=>?_;refine w_i ⟨g3,g4⟩ ?_;have AOw:y.toNat<(s.getD x.toNat BN).2.1.length:=by omega
  refine Co BI ⟨by omega,by omega⟩ λw d3 _ _ Cc=>?_;refine w_c (λ_=>?_) (λ_=>?_)
  ·exact EG Cc (by decide) λq d4 _ CR=>h2 _ _ CR (O4 h.sm hj)
  refine w_c (λ_=>?_) (λ_=>?_)
  ·exact EG Cc (by decide) λq d4 _ CR=>h2 _ _ CR (O4 h.sm hj)
  refine w_c (λ_=>?_) (λ_=>?_)
  ·exact h2 _ _ Cc (O4 h.sm hj)
  refine w_c (λ_=>?_) (λ_=>?_)
  ·exact EG Cc ⟨by simp,by simp⟩ λq d4 _ CR=>h2 _ _ CR (O4 h.sm hj)
  refine w_c (λ_=>?_) (λ_=>?_)
  ·exact EG Cc (by decide) λq d4 _ CR=>h2 _ _ CR (O4 h.sm hj)
  refine w_c (λ_=>?_) (λ_=>?_)
  ·exact EG Cc (by decide) λq d4 _ CR=>h2 _ _ CR (O4 h.sm hj)
  refine w_c (λ_=>?_) (λ_=>?_)
  ·exact EG Cc (by decide) λq d4 _ CR=>h2 _ _ CR (O4 h.sm hj)
  refine w_c (λ_=>?_) (λ_=>h2 _ _ Cc h.sm);refine Co Cc ⟨by omega,by omega⟩ λq d4 g5 g6 CR=>?_;refine w_i ⟨g5,g6⟩ ?_;exact h2 _ _ CR (O4 h.sm hj)
 ·refine Co hd ⟨by omega,by omega⟩ λx d1 g1 g2 BH=>?_
  refine w_i ⟨g1,g2⟩ ?_;have hj:x.toNat<s.length:=by omega
  refine Acz BH h.dp λe d2 BI he=>?_;have hb:=he.2;have hf:=(ed_f he.1 (by omega)).ft;refine Co BI ⟨by omega,by omega⟩ λy d3 g3 g4 Cc=>?_;have key:∀(x':Ed)(d':Dice),x'.2.2.2.2<=9223372036854775807->Cf d'->G (LW (λb0 E8 o1 o2 o3 b3=>k2 b0 E8 o1 o2 o3 b3) x.toNat d' t4 z p c s x'):=λx' d' DB Ct=>AKl h hj DB λs' Cd=>h2 _ _ Ct Cd;refine w_c (λ_=>key _ _ (by show e.2.2.2.1<=_;omega) Cc) (λ_=>?_);refine w_c (λ_=>EG Cc ⟨by simp,by simp⟩ λq d4 _ CR=>key _ _ (by show e.2.2.2.2<=_;omega) CR) (λ_=>?_);refine w_c (λ_=>EG Cc ⟨by simp,by simp⟩ λq d4 _ CR=>key _ _ (by show e.2.2.2.2<=_;omega) CR) (λ_=>?_);refine w_c (λ_=>EG Cc (by decide) λq d4 _ CR=>EG CR (by decide) λq2 d5 hq GP=>key _ _ (by show q2<=_;simp only[Bl,Es,or_false]at hq;omega) GP) (λ_=>?_);exact w_c (λ_=>EG Cc (by decide) λq d4 _ CR=>key _ _ (by show e.2.2.2.2<=_;omega) CR) (λ_=>key _ _ (by omega) Cc)
theorem AKn{c:Aj}{d:Dice}{k:Aj->Dice->Ya β}(hd:Cf d)(h:DiceC c)(hk:∀x d',Cf d'->FK x->G (k x d')):G (fZ c d k):=by
 obtain⟨z,p,c,s⟩:=c;have sm:=h.sm;have hz:1<=z.length/\z.length<=8:=h.dz;have hp:1<=p.length/\p.length<=8:=h.dp;have hc:c.length<=8:=h.dc;have hs:1<=s.length/\s.length<=8:=h.ds;have qz:Yb (z,p,c,s).1=z.length:=rfl;have qp:Yb (z,p,c,s).2.1=p.length:=rfl;have qc:Yb (z,p,c,s).2.2.1=c.length:=rfl;have qs:Yb (z,p,c,s).2.2.2=s.length:=rfl;unfold fZ;rw[Ad];refine w_e (AHC _ (by show z.length<=_;omega) (by show p.length<=_;omega) (by show c.length<=_;omega) (by show s.length<=_;omega) (λx hx=>?_) _) ?_
 ·have g1:=h.e x hx
  have g2:=h.l x hx;omega
 have put_z:∀(i:Yn)(v:Yh),i<z.length->FK (z.set i ((z.getD i RH).1,(v,(z.getD i RH).2.2)),p,c,s):=λi v hi=>sm;have put_p:∀(i:Yn)(x:AV),FK (z,p.set i x,c,s):=λi x=>sm;refine Co hd ⟨by omega,by omega⟩ λt d1 _ _ BH=>?_;refine w_c (λ_=>?_) (λ_=>?_)
 ·refine Co BH ⟨by omega,by omega⟩ λx d2 g1 g2 BI=>?_
  refine EG BI (by decide) λv d3 _ Cc=>?_;refine w_i ⟨g1,g2⟩ ?_;exact hk _ _ Cc (put_z _ _ (by omega))
 refine w_c (λ_=>?_) (λ_=>?_)
 ·refine Co BH ⟨by omega,by omega⟩ λx d2 g1 g2 BI=>?_
  refine EG BI ⟨by simp,by simp⟩ λv d3 _ Cc=>?_;refine w_i ⟨g1,g2⟩ ?_;exact hk _ _ Cc (put_p _ _)
 refine w_c (λ_=>?_) (λ_=>?_)
 ·refine Co BH ⟨by omega,by omega⟩ λx d2 g1 g2 BI=>?_
  refine Co BI ⟨by omega,by omega⟩ λv d3 g3 g4 Cc=>?_;refine w_i ⟨g3,g4⟩ ?_;refine w_i ⟨g1,g2⟩ ?_;exact hk _ _ Cc (put_p _ _)
 refine w_c (λ_=>?_) (λ_=>?_)
 ·refine Co BH ⟨by omega,by omega⟩ λx d2 g1 g2 BI=>?_
  refine EG BI (by decide) λv d3 _ Cc=>?_;refine w_i ⟨g1,g2⟩ ?_;exact hk _ _ Cc (put_p _ _)
 refine w_c (λ_=>?_) (λ_=>?_)
 ·refine Co BH ⟨by omega,by omega⟩ λx d2 g1 g2 BI=>?_
  refine EG BI (by decide) λv d3 _ Cc=>?_;refine EG Cc (by decide) λv2 d4 _ CR=>?_;refine w_i ⟨g1,g2⟩ ?_;exact hk _ _ CR (put_p _ _)
 refine w_c (λ_=>?_) (λ_=>?_)
 ·refine Co BH ⟨by omega,by omega⟩ λx d2 g1 g2 BI=>?_
  refine w_i ⟨g1,g2⟩ ?_;refine EG BI (by decide) λv d3 _ Cc=>?_;refine EG Cc (by decide) λv2 d4 _ CR=>?_;refine w_r (show(c.length+1)*48<=_ by omega) ?_;exact hk _ _ CR sm
 refine w_c (λ_=>?_) (λ_=>?_)
 ·refine Co BH ⟨by omega,by omega⟩ λx d2 g1 g2 BI=>?_
  refine w_i ⟨g1,g2⟩ ?_;refine w_e ((Aw (λb=>Yk b _ Yf) (KQ _)).trans (Cx (show(s.length+1)*64<=_ by omega))) ?_;exact hk _ _ BI (LZ sm λl hl=>Y7 hl Es)
 have key:∀b:Ys,G (PZ (λb0 _ b3 b4 b5 b6=>k (b3,(b4,(b5,b6))) b0) (λb0 _ o1 o2 o3 b3=>k (o1,(o2,(o3,b3))) b0) b d1 MJ z p c s):=λb=>
  AKm h BH (λd' s' Ct Cd=>hk _ _ Ct Cd) (λd' s' Ct Cd=>hk _ _ Ct Cd)
 refine w_c (λe=>?_) (λ_=>?_)
 ·rw[e];exact key _
 refine w_c (λe=>?_) (λ_=>?_)
 ·rw[e];exact key _
 exact key _
end
end
end Go.Lift
namespace Go.Lift
open Go.RowKit Go.IntWalk
noncomputable section
variable[Sl]
set_option maxRecDepth 10000
section
variable{β:Type}
theorem AKo{ls:Ye (Ye Tok)}(hl:ls.length<=5000)(k1:AbB β):Qi k1 0 ls []=k1 (numb 0 ls):=by
 unfold Qi;rw[Ad];refine(Om (λi(o:Ye (Yh×Ye Tok))=>o=numb 0 (ls.take i)) (λm i o=>WV m k1 i ls o) (λo t=>o++[((o.length:Yh)+1,t)]) (λo=>k1 (numb 0 ls)) ([]:Ye Tok) ls [] fuel (BB (by omega)) rfl (λi o hi ho=>?_) (λm i o hi ho=>?_) (λm o ho=>?_))
 ·have AU:(ls.take i).length=i:=by rw[HP];omega
  rw[Ot [] hi,AcC,ho,Ma,AU,DZ];show _=_++[(((i+1:Yn):Yh),ls.getD i [])];rw[show((i+1:Yn):Yh)=(i:Yh)+1 by omega]
 ·have AU:o.length=i:=by rw[ho,Ma,HP];omega
  simp only[Aoe,kR];refine(Ag (by omega)).trans ?_;refine(AG (by omega)).trans ?_;rw[Bh,i64_in ((i:Yh)+1) (by omega)];refine(Cx (show(o.length+1)*32<=_ by omega)).trans ?_;rw[AU]
 ·rw[L9]at ho
  simp only[Aoe,kR];refine(Al (by omega)).trans ?_;rw[ho]
theorem AKp{c:Aj}(h:ConfV c){ls:Ye (Ye Tok)}(nT:ls.length<=1200)(k1:Abz β):Qh k1 0 c ls=k1 (ls++c.2.2.2.flatMap (Lf c.1 c.2.1 c.2.2.1)):=by
 have h3:=h.ls;unfold Qh;rw[Ad];refine Gj (λm i t=>MX m k1 i c t) (Lf c.1 c.2.1 c.2.2.1) (λt=>k1 t) ([],[],[]) c.2.2.2 ls 151 (by omega) (λs hs=>AcP (h.s s hs).1) (λm i t hi ht=>?_) λm t=>?_
 ·have hS:=(h.s _ (Cn (d:=(([],[],[]):BC)) hi)).1
  simp only[Aod,kQ];refine(Ag (by omega)).trans ?_;refine(AG (by omega)).trans ?_;rw[Bh];generalize c.2.2.2.getD i (([],[],[]):BC)=q at hS;have q1:=hS.l;have q2:=hS.e;refine(DT _ _).trans ?_;refine(DT _ _).trans ?_;refine(Cx (show(t.length+1)*24<=_ by omega)).trans ?_;unfold AbG;rw[Ad]
  refine(Gj (λm' i' s=>WS m' (λAT c2 l5 s=>WU (λFc c3 l6=>MX m k1 (Yc.wrap (Fc+(1:Yh))) c3 l6) AT (0:Yh) c2 l5 s) (i:Yh) i' c s q) (I4 c.1 c.2.1 c.2.2.1)
   (λs=>WU (λFc c3 l6=>MX m k1 (Yc.wrap (Fc+(1:Yh))) c3 l6) (i:Yh) (0:Yh) c s q)
   ([],0,(0,0),0,0,[],[],0,0) q.2.1 (t++[[wd schW,wd q.1]]) 17 (by omega) (λl h=>SV (hS.ls l h).1) (λm' i' t' Nm Lu=>?_) λm' t'=>?_).trans ?_
  ·have hL:=(hS.ls _ (Cn (d:=(([],0,(0,0),0,0,[],[],0,0):Bz)) Nm)).1
   have hLl:=SV (w:=c.1) (w2:=c.2.1) (w3:=c.2.2.1) hL;simp only[AQ,E9]at Lu;simp only[Aob,kO];refine(Ag (by omega)).trans ?_;refine(AG (by omega)).trans ?_;rw[Bh];refine(AKh hL _).trans ?_;refine(Cx (by omega)).trans ?_;rw[i64_in ((i':Yh)+1) (by omega)]
  ·simp only[Aob,kO]
   exact Al (by omega)
  ·have h5:((t++[[wd schW,wd q.1]])++q.2.1.flatMap (I4 c.1 c.2.1 c.2.2.1)).length<=30000:=by have:=Je (f:=I4 c.1 c.2.1 c.2.2.1) λl hl=>SV (hS.ls l hl).1;rw[AQ,AQ,E9];omega
   unfold WU;rw[Ad]
   refine(Gj (λm' i' s=>WT m' (λFc c3 l6=>MX m k1 (Yc.wrap (Fc+(1:Yh))) c3 l6) (i:Yh) i' c s q) (λx=>[Me c.2.1 x]) (λs=>MX m k1 (Yc.wrap ((i:Yh)+(1:Yh))) c s)
    (0,0,0,0,0) q.2.2 _ 1 (by omega) (λ_ _=>by simp) (λm' i' t' Nm Lu=>?_) λm' t'=>?_).trans ?_
   ·have hE:=hS.es _ (Cn (d:=((0,0,0,0,0):Ed)) Nm)
    simp only[Aoc,kP];refine(Ag (by omega)).trans ?_;refine(AG (by omega)).trans ?_;rw[Bh];refine(AKi hE _).trans ?_;refine(Cx (show(t'.length+1)*24<=_ by omega)).trans ?_;rw[i64_in ((i':Yh)+1) (by omega)]
   ·simp only[Aoc,kP]
    exact Al (by omega)
   ·rw[i64_in ((i:Yh)+1) (by omega),Md,C4,C4]
    rfl
 ·simp only[Aod,kQ]
  exact Al (by omega)
theorem AKq{c:Aj}(he:FK c)(h:ConfV c)(h0:Gi Eu c=0)(k:Yh->Ye (Yh×Ye Tok)->Ya β):Qj c k=k 0 (numb 0 (K7 c)):=by
 have l1:=h.lz;have l2:=h.lp;have l3:=h.lc;have z1:=Je (f:=HV) λy(hy:y∈c.1)=>SR (h.z y hy).1.1;have z2:=Je (f:=HW c.1) λy(hy:y∈c.2.1)=>SS (h.p y hy).1;have z3:=Je (f:=I3 c.1) λy(hy:y∈c.2.2.1)=>SU;unfold Qj;rw[Ad];refine(mU he _).trans ?_;refine(CX h0).trans ?_;unfold AbF;rw[Ad]
 refine(Gj (λm i t=>WO m _ i c t) HV (λt=>kM (λc3 l2=>WR (λc4 l3=>Qh (λl4=>Qi (λout=>k (0:Yh) out) (0:Yh) l4 ([]:Ye Iy)) (0:Yh) c4 l3) (0:Yh) c3 l2) (0:Yh) c t)
  ([],0,[]) c.1 [] 17 (by omega) (λy hy=>SR (h.z y hy).1.1) (λm i t hi ht=>?_) λm t=>?_).trans ?_
 ·have hz:=(h.z _ (Cn (d:=(([],0,[]):AF)) hi)).1.1
  have:=SR hz;simp only[Ft]at ht;simp only[Ao8,kK];refine(Ag (by omega)).trans ?_;refine(AG (by omega)).trans ?_;rw[Bh];refine(AKc hz _).trans ?_;refine(Cx (by omega)).trans ?_;rw[i64_in ((i:Yh)+1) (by omega)]
 ·simp only[Ao8,kK]
  exact Al (by omega)
 unfold kM;rw[Ad,GA]
 refine(Gj (λm i t=>WP m _ i c t) (HW c.1) (λt=>WR (λc4 l3=>Qh (λl4=>Qi (λout=>k (0:Yh) out) (0:Yh) l4 ([]:Ye Iy)) (0:Yh) c4 l3) (0:Yh) c t)
  ([],0,[],0,0,Yi) c.2.1 _ 15 (by omega) (λy hy=>SS (h.p y hy).1) (λm i t hi ht=>?_) λm t=>?_).trans ?_
 ·have hp:=(h.p _ (Cn (d:=(([],0,[],0,0,Yi):AV)) hi)).1
  have:=SS (w:=c.1) hp;simp only[Ao9,kL];refine(Ag (by omega)).trans ?_;refine(AG (by omega)).trans ?_;rw[Bh];refine(AKd hp _).trans ?_;refine(Cx (by omega)).trans ?_;rw[i64_in ((i:Yh)+1) (by omega)]
 ·simp only[Ao9,kL]
  exact Al (by omega)
 unfold WR;rw[Ad]
 refine(Gj (λm i t=>WQ m _ i c t) (I3 c.1) (λt=>Qh (λl4=>Qi (λout=>k (0:Yh) out) (0:Yh) l4 ([]:Ye Iy)) (0:Yh) c t)
  ([],0,[]) c.2.2.1 _ 3 (by omega) (λy hy=>SU) (λm i t hi ht=>?_) λm t=>?_).trans ?_
 ·have hx:=(h.x _ (Cn (d:=(([],0,[]):Bm)) hi)).1
  have:=SU (w:=c.1) (c:=c.2.2.1.getD i ([],0,[]));rw[AQ]at ht;simp only[Aoa,kN];refine(Ag (by omega)).trans ?_;refine(AG (by omega)).trans ?_;rw[Bh];refine(AKf hx _).trans ?_;refine(Cx (by omega)).trans ?_;rw[i64_in ((i:Yh)+1) (by omega)]
 ·simp only[Aoa,kN]
  exact Al (by omega)
 have hl:=n5 h;refine(AKp h (by rw[AQ,AQ];omega) _).trans ?_
 have e:((c.1.flatMap HV++c.2.1.flatMap (HW c.1))++c.2.2.1.flatMap (I3 c.1))++c.2.2.2.flatMap (Lf c.1 c.2.1 c.2.2.1)=K7 c:=by unfold K7;rw[C4,C4]
 rw[e];exact AKo (by omega) _
def stV(c:Aj):Ye (Yh×Ye Tok):=Yk (Yd (Gi Eu c=0)) (numb 0 (K7 c)) []
theorem AqM{c:Aj}(he:FK c)(k:Ye (Yh×Ye Tok)->Yh->Ya β):Ql c k=k (stV c) (Gi Eu c):=by
 unfold stV;by_cases h0:Gi Eu c=0
 ·rw[Ao h0,h0]
  exact AII (X2 he h0) h0 k
 ·rw[Ar h0]
  unfold Ql;rw[Ad];refine(App _ Eu (λy hy k=>Aq3 y k) _).trans ?_;exact EF h0
theorem AqN{c:Aj}(he:FK c)(k:Yh->Ye (Yh×Ye Tok)->Ya β):Qj c k=k (Gi Eu c) (stV c):=by
 unfold stV;by_cases h0:Gi Eu c=0
 ·rw[Ao h0,h0]
  exact AKq he (X2 he h0) h0 k
 ·rw[Ar h0]
  unfold Qj;rw[Ad];refine(mU he _).trans ?_;exact EF h0
def txK(c:Aj)(k:Ye Yj->Yh->Ya β):Ya β:=Yk (Yd (Gi Eu c=0)) (mV k (K7 c)) (k [] (Gi Eu c))
theorem AKr{c:Aj}(he:FK c)(k:Ye Yj->Yh->Ya β):m5 c k=txK c k:=by
 unfold m5;rw[Ad];unfold txK;refine(AqM he _).trans ?_;by_cases h0:Gi Eu c=0
 ·have hc:=X2 he h0
  refine(CX h0).trans ?_;unfold stV;rw[Ao h0];exact AIN (Ad3 hc) (by have:=n5 hc;omega) _
 ·refine(EF h0).trans ?_
  rw[Ar h0];rfl
theorem AKs{c:Aj}(he:FK c)(k:Ye Yj->Yh->Ya β):kS c k=txK c k:=by
 unfold kS;rw[Ad];unfold txK;refine(AqN he _).trans ?_;by_cases h0:Gi Eu c=0
 ·have hc:=X2 he h0
  refine(CX h0).trans ?_;unfold stV;rw[Ao h0];exact AIP (Ad3 hc) (by have:=n5 hc;omega) _
 ·refine(EF h0).trans ?_
  rw[Ar h0];rfl
theorem AKt(c:Aj):∃s e,∀{β:Type}(k:Ye Yj->Yh->Ya β),txK c k=k s e:=by
 unfold txK mV;cases Yd (Gi Eu c=0)with
 |false=>exact⟨_,_,λk=>rfl⟩
 |true=>
  cases Aqg (K7 c)with
  |inl e=>exact⟨_,_,λk=>rfl⟩
  |inr s=>
   by_cases h:(65536:Yh)<(s.length:Yh)
   ·exact⟨_,_,λk=>Ag h⟩
   ·exact⟨_,_,λk=>Al h⟩
theorem AqO{a:Ye (Yh×Ye Tok)}(hl:a.length<=5000)(ht:∀x∈a,x.2.length<=1000)(k:Ys->Ya β):RN a a k=k Yp:=by
 unfold RN;rw[Ad];refine(CX rfl).trans ?_;unfold uB;rw[Ad];refine(Ks (λm i=>PJ m (λt4=>k t4) (λ_=>k Yp) a a (a.length:Yh) i) (λ_=>Yp) (k Yi) (k Yp) ((0:Yh),([]:Ye Tok)) a fuel (BB (by omega)) (λm i hi=>?_) (λm=>?_)).trans ?_
 ·have hx:=ht _ (Cn (d:=((0:Yh),([]:Ye Tok))) hi)
  have fin:∀g:Ya β,Yk (Yd (0<=(i:Yh))&&Yd ((i:Yh)<(a.length:Yh))) g Yf=g:=λg=>AG (by omega);simp only[AhC,cT];refine(Ag (by omega)).trans ?_;rw[Bh];refine(fin _).trans ?_;refine(fin _).trans ?_;refine(CX trivial).trans ?_;refine(fin _).trans ?_;refine(fin _).trans ?_;refine(CX trivial).trans ?_;refine(fin _).trans ?_;unfold uA;rw[Ad]
  refine(Ks (λm' j=>UR m' (λt4=>k t4) (λa2 b2 L2 L3=>PJ m (λt4=>k t4) (λ_=>k Yp) a2 b2 L2 (Yc.wrap (L3+(1:Yh)))) a a (i:Yh) (a.length:Yh) (i:Yh) ((a.getD i (0,[])).2.length:Yh) j) (λ_=>Yp) (k Yi)
   (PJ m (λt4=>k t4) (λ_=>k Yp) a a (a.length:Yh) (Yc.wrap ((i:Yh)+(1:Yh)))) ((0,[],0):Tok) (a.getD i (0,[])).2 fuel (BB (by omega)) (λm' j hj=>?_) (λm'=>?_)).trans ?_
  ·have fin2:∀g:Ya β,Yk (Yd (0<=(j:Yh))&&Yd ((j:Yh)<((a.getD i (0,[])).2.length:Yh))) g Yf=g:=λg=>AG (by omega)
   simp only[AhB,cS];rw[Bh];refine(Ag (by omega)).trans ?_;refine(fin _).trans ((fin2 _).trans ((fin _).trans ((fin2 _).trans ?_)));rw[Ao trivial,i64_in ((j:Yh)+1) (by omega)];rfl
  ·simp only[AhB,cS]
   exact Al (by omega)
  ·rw[FG.2 λ_ _=>rfl,i64_in ((i:Yh)+1) (by omega)]
 ·simp only[AhC,cT]
  exact Al (by omega)
 ·rw[FG.2 λ_ _=>rfl];rfl
theorem AqP{P:Ye Tok->Prop}:∀{ls:Ye (Ye Tok)}{n:Yn},(∀t∈ls,P t)->∀x∈numb n ls,P x.2
 |[],_,_,x,h=>Y7 h Es
 |t::r,n,h,x,hx=>by
  rcases Bl.1 hx with rfl|hx
  ·exact h t (Ha ..)
  ·exact AqP (λy hy=>h y (DX _ hy)) x hx
theorem AKu{c:Aj}(he:FK c)(k:Ys->Ya β):RN (stV c) (stV c) k=k Yp:=by
 unfold stV;by_cases h0:Gi Eu c=0
 ·have hc:=X2 he h0
  rw[Ao h0];have:=n5 hc;rw[As];exact AqO (by rw[Ma];omega) (AqP (P:=λt=>t.length<=1000) λt ht=>by have:=(Ad3 hc t ht).few;omega) k
 ·rw[Ar h0]
  exact AqO (by decide) (λx hx=>Y7 hx Es) k
theorem AKv{k1:Acl β}{k2:Acm β}{t:Aj×Aj×Aj×Aj}(h:∀x∈[t.1,t.2.1,t.2.2.1,t.2.2.2],FK x):m8 k1 k2 t 0=k2 ():=by
 unfold m8;rw[Ad];refine Ape (λm i(_:Unit)=>Xk m k1 k2 t i) (λ_ _=>()) (λ_=>k2 ()) (([],[],[],[]):Aj) [t.1,t.2.1,t.2.2.1,t.2.2.2] () fuel (BB (by simp)) (λm i _ hi=>?_) (λm _=>?_)
 ·have AOt:i<4:=by simpa using hi
  have hx:=h _ (Cn (d:=(([],[],[],[]):Aj)) hi);simp only[Apc,m7];refine(Ag (by omega)).trans ?_;refine(AG (by show(0:Yh)<=i/\(i:Yh)<4;omega)).trans ?_;rw[Bh,i64_in ((i:Yh)+1) (by omega)];generalize Ym [t.1,t.2.1,t.2.2.1,t.2.2.2] i (([],[],[],[]):Aj)=c at hx;obtain⟨s,e,hs⟩:=AKt c;refine(AqM hx _).trans ?_;refine(AqN hx _).trans ?_;refine(AKr hx _).trans ((hs _).trans ?_);refine(AKs hx _).trans ((hs _).trans ?_);refine(AKu hx _).trans ?_;refine c_f.trans ?_;exact(CX rfl).trans ((CX rfl).trans (CX rfl))
 ·simp only[Apc,m7]
  exact Al (by simp)
theorem AKw{c:Aj}{i:Yn}(hi:i<c.2.2.2.length)(hl:c.2.2.2.length<=1000)(es:Ye Ed)(k:Aj->Ya β):dA c (i:Yh) es k=k (c.1,c.2.1,c.2.2.1,c.2.2.2.set i ((c.2.2.2.getD i BN).1,(c.2.2.2.getD i BN).2.1,es)):=by
 unfold dA;rw[Ad];refine(Cx (show c.2.2.2.length*64<=_ by omega)).trans ?_;exact AG (by omega)
structure EdC (c:Aj) (n:Yn):Prop where
 sm:FK c
 dp:1<=c.2.1.length/\c.2.1.length<=8
 ds:1<=c.2.2.2.length/\c.2.2.2.length<=1000
 es:(c.2.2.2.getD 0 BN).2.2.length+n<=2000
end
section
variable{β:Type}{G:Ya β->Prop}
theorem AKx{c:Aj}{n:Yn}(h:EdC c (n+1)){y:Ed}(hy:y.2.2.2.2<=9223372036854775807){k:Aj->Yh->Ya β}(hk:∀c',EdC c' n->G (k c' 0))(he:∀c' e,e≠0->G (k c' e)):G (kT c 0 y k):=by
 have hs:=h.ds;have Ie:=h.es;unfold kT;rw[Ad];refine w_e (mU h.sm _) ?_;by_cases h0:Gi Eu c=0
 ·refine w_e (CX h0) ?_
  refine w_e (Al (by omega)) ?_;refine w_e (Al (by omega)) ?_;refine w_e (AG (by omega)) ?_;refine w_e (Cx (show(c.2.2.2.getD 0 BN).2.2.length*40<=_ by omega)) ?_;refine w_e (Cx (show((c.2.2.2.getD 0 BN).2.2.length+1)*40<=_ by omega)) ?_;refine w_e (AKw (i:=0) (by omega) (by omega) _ _) ?_
  have o9:FK (c.1,c.2.1,c.2.2.1,c.2.2.2.set 0 ((c.2.2.2.getD 0 BN).1,(c.2.2.2.getD 0 BN).2.1,(c.2.2.2.getD 0 BN).2.2++[y])):=
   Ad4 h.sm (LZ (h.sm (c.2.2.2.getD 0 BN) (Cn (by omega))) hy)
  refine w_e (mU o9 _) ?_;by_cases h1:Gi Eu (c.1,c.2.1,c.2.2.1,c.2.2.2.set 0 ((c.2.2.2.getD 0 BN).1,(c.2.2.2.getD 0 BN).2.1,(c.2.2.2.getD 0 BN).2.2++[y]))=0
  ·refine w_e (CX h1) (hk _ ⟨o9,h.dp,by show 1<=(YG _ _ _).length/\(YG _ _ _).length<=_;rw[Pe];exact hs,?_⟩)
   show((c.2.2.2.set 0 ((c.2.2.2.getD 0 BN).1,(c.2.2.2.getD 0 BN).2.1,(c.2.2.2.getD 0 BN).2.2++[y])).getD 0 BN).2.2.length+n<=2000
   have e:(c.2.2.2.set 0 ((c.2.2.2.getD 0 BN).1,(c.2.2.2.getD 0 BN).2.1,(c.2.2.2.getD 0 BN).2.2++[y])).getD 0 BN=((c.2.2.2.getD 0 BN).1,(c.2.2.2.getD 0 BN).2.1,(c.2.2.2.getD 0 BN).2.2++[y]):=by
    have:0<c.2.2.2.length:=by omega
    simp[Ym,this]
   rw[e];show((c.2.2.2.getD 0 BN).2.2++[y]).length+n<=2000;rw[AQ,E9];omega
  ·exact w_e (EF h1) (he _ _ h1)
 ·exact w_e (EF h0) (he _ _ (by decide))
theorem Ad5{k:AbP β}{t8:Aj}(hk:∀c d,Cf d->FK c->G (k d c t8)):∀(j m:Yn)(d:Dice)(c:Aj),j<m->j<=3->Cf d->EdC c j->G (WX m k 0 (j:Yh) d c t8)
 |_,0,_,_,h,_,_,_=>Y7 h (KP _)
 |0,m+1,d,c,_,_,hd,hc=>by simp only[Aot,kX];exact w_n (by omega) (hk c d hd hc.sm)
 |j+1,m+1,d,c,hm,hj,hd,hc=>by
  simp only[Aot,kX];refine w_p (by omega) ?_;refine Acz hd hc.dp λy d' Ct hy=>?_;have QP:=hy.2;refine AKx hc (by omega) (λc' GM=>?_) (λc' e AO=>?_)
  ·refine w_p rfl ?_
   rw[i64_in (((j+1:Yn):Yh)-1) (by omega),show((j+1:Yn):Yh)-1=(j:Yh) by omega];exact Ad5 hk j m d' _ (by omega) (by omega) Ct GM
  ·refine w_n AO ?_
   rw[i64_in (((j+1:Yn):Yh)-1) (by omega),show((j+1:Yn):Yh)-1=(j:Yh) by omega];exact Ad5 hk j m d' _ (by omega) (by omega) Ct ⟨hc.sm,hc.dp,hc.ds,by have:=hc.es;omega⟩
def Ad6[Sl]:Prop:=∀{β:Type}(k:Ys->Ya β),Xj k=k Yp
theorem printExact(F:Ad6)(t:Ye Yh)(raw:Aj)(hr:FK raw)(k:Ys->Ya β):m9 t raw k=k Yp:=by
 unfold m9;rw[Ad];refine(AHj _ _).trans ?_;by_cases h0:¬(t.length:Yh)<=500
 ·rw[Ar h0]
  exact F _
 have h1:(t.length:Yh)<=500:=by omega
 refine(CX h1).trans ?_;cases Yd ((30:Yh)<(Yc.wrap ((Yc.wrap ((Yb raw.1:Yh)+(Yb raw.2.1:Yh)))+(Yb raw.2.2.2:Yh))))with
 |true=>exact F _
 |false=>
  refine c_f.trans ?_;refine(AHk _ _).trans ?_;refine AHT (G:=λA=>A=k Yp) (AHl h1) (by decide) λc d hd hc h1 _=>?_;have hD:=AKk hc h1;refine AKn (G:=λA=>A=k Yp) hd hD λx d' Ct hx=>?_;unfold AbS;rw[Ad];unfold AbR;rw[Ad];have Fy:=hD.ds;refine Ad5 (G:=λA=>A=k Yp) (λc3 d3 Cc AKW=>?_) 3 fuel d' c (BB (by decide)) (by decide) Ct ⟨hD.sm,hD.dp,⟨Fy.1,by omega⟩,by have:=hD.e _ (Cn (d:=BN) (show 0<c.2.2.2.length by omega));omega⟩;refine(AKv λy hy=>?_).trans (F _);simp only[Bl,Es,or_false]at hy;rcases hy with rfl|rfl|rfl|rfl
  ·exact hD.sm
  ·exact hx
  ·exact hr
  ·exact AKW
end
end
end Go.Lift
namespace Go.Lift
noncomputable section
set_option maxRecDepth 100000
theorem AKy{c:Iw.den}(h:Wf Iw c):FK c:=
 λs hs y hy=>(Av6 ((h.2.2.2.2 s hs).2.2.2 y hy).2.2.2.2).2
theorem AKz:@Ad6 ⟨0⟩:=λk=>by kernel_rfl
end
end Go.Lift
