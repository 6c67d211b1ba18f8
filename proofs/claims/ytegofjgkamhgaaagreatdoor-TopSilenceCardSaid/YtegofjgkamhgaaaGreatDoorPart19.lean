/- Part19 -/
import Derived.Test.YtegofjgkamhgaaaGreatDoorPart18
import Derived.Test.YtegofjgkamhgaaaGreatDoorPart3
set_option linter.unusedVariables false
set_option linter.unusedSectionVars false
set_option linter.unusedSimpArgs false
open _root_ renaming List → Ya, Option → Yb, Int → Yi, Nat → Yk, UInt8 → Yl, cond → Yr, Bool → Ys, absurd → Yw, if_neg → Y4, if_pos → Y7, Decidable → Yap
open Bool renaming false → Yc, true → Yo
open Option renaming some → Yd
open Decidable renaming decide → Yf
open List renaming length → Yg, getD → Yn
open Go.IntKind renaming i64 → Yh, wrap_i64 → Y2, u64 → YaU
open Int renaming toNat → Yj, tmod → YQ
open Go.Op renaming bytesLess → Yy
open List.Pairwise renaming nil → Ya5
namespace Go.Lift
open Go.RowKit Go.IntWalk
section
variable{β:Type}[Sl]
theorem Akl(k:Ya Al->Yb β)(l:Ya Al)(hl:l.length<=4):∀(m i:Yk),i<=l.length->l.length-i<m->TL m (λout=>k out) [kApp] l (l.length:Yi) (i:Yi) (IV (l.take i))=k (IV l)
 |0,i,_,h=>Yw h (C8 _)
 |m+1,i,hi,hm=>by
  rw[Avz];unfold oX;by_cases Ae:i<l.length
  ·refine(Bp (by omega)).trans ?_
   refine(B6 ⟨by omega,by omega⟩).trans ?_;rw[E8 Ae];refine(aY [kApp] _ (by decide) _).trans ?_;have ih:=Akl k l hl m (i+1) (by omega) (by omega)
   have e:IV (l.take (i+1))=IV (l.take i)++(bif hasT [kApp] (l[i]).1 then [l[i]]else []):=by rw[d8 Ae];unfold IV;rw[LI,LJ,List.filter_nil];unfold hasT;simp only[PL,List.any_nil,Sf];cases Yf ((l[i]).1=kApp)<;>rfl
   rw[<-C3 (by omega),e]at ih;have Bk:(IV (l.take i)).length<=4:=BH (MH _ _) (by rw[CJ];omega);cases hh:hasT [kApp] (l[i]).1 with
   |true=>rw[hh]at ih;refine c_t.trans ?_;refine(GT (by simp only[Be,BP];omega)).trans ?_;exact ih
   |false=>rw[hh]at ih;refine c_f.trans ?_;rw[BU,Gj]at ih;exact ih
  ·have Jd:i=l.length:=by omega
   subst Jd;rw[Wa];exact AJ (by omega)
theorem Akm(F:TopFacts){r:AU}(hr:r.2.2.2.1=[kApp]){l:Ya Al}(h:LabG l)(k:Ya Yl->Yb β):TT r l k=k (keyV l):=by unfold TT;rw[Aq];refine(Ro F h _).trans ?_;refine c_f.trans ?_;rw[hr];unfold oZ;rw[Aq];unfold oY;rw[Aq];refine(Akl _ l h.len fuel 0 (BD _) (by have:=h.len;unfold fuel;omega)).trans ?_;exact uY F (h.filter _) k
def getV(l:Ya Al)(key:Ya Yl):Ya Yl:=match l with
 |[]=>[]
 |x::l=>bif Yf (x.1=key)then x.2 else getV l key
theorem Akn(k:Ya Yl->Yb β)(key:Ya Yl)(l:Ya Al)(hl:l.length<=4):∀(m i:Yk),i<=l.length->l.length-i<m->Tq m (λt4=>k t4) (λ_=>k []) key l (l.length:Yi) (i:Yi)=k (getV (l.drop i) key)
 |0,i,_,h=>Yw h (C8 _)
 |m+1,i,hi,hm=>by
  rw[Aq4];unfold jY;by_cases Ae:i<l.length
  ·refine(Bp (by omega)).trans ?_
   refine(B6 ⟨by omega,by omega⟩).trans ?_;rw[E8 Ae,JH Ae];have ih:=Akn k key l hl m (i+1) (by omega) (by omega);rw[<-C3 (by omega)]at ih;have e:getV (l[i]::l.drop (i+1)) key=bif Yf ((l[i]).1=key)then(l[i]).2 else getV (l.drop (i+1)) key:=rfl;rw[e];show Yr (Yf ((l[i]).1=key)) (k (l[i]).2) _=_;cases Yf ((l[i]).1=key)with
   |true=>rfl
   |false=>exact ih
  ·rw[GM (by omega)]
   exact AJ (by omega)
theorem Rp{l:Ya Al}(hl:l.length<=4)(key:Ya Yl)(k:Ya Yl->Yb β):Tr l key k=k (getV l key):=by unfold Tr;rw[Aq];unfold jZ;rw[Aq];exact Akn k key l hl fuel 0 (BD _) (by unfold fuel;omega)
theorem Ako{key:Ya Yl}:∀{l:Ya Al},(∀x∈l,x.2∈DD)->getV l key∈DD
 |[],_=>by simp[getV,DD]
 |x::l,h=>by
  unfold getV;cases Yf (x.1=key)with
  |true=>exact h x (by simp)
  |false=>exact Ako λy hy=>h y (by simp[hy])
theorem Akp{l:Ya Al}(h:HW l):getV l kApp≠[109,105,110,101]:=by
 obtain⟨a,ha,b,hb,c,hc,d,hd,rfl⟩:=h;simp only[vals,Bg,RY,or_false]at ha
 have hn:∀(k v:Ya Yl)(r:Ya Al),k≠kApp->getV (opt1 k v++r) kApp=getV r kApp:=by
  intro k v r hk;unfold opt1;split
  ·rfl
  ·show(bif Yf (k=kApp)then v else getV r kApp)=_
   rw[Ex hk];rfl
 have hz:getV (opt1 [104,111,115,116] b++(opt1 [115,101,118] c++opt1 [116,101,97,109] d)) kApp=[]:=by rw[hn _ _ _ (by decide),hn _ _ _ (by decide)];have:=hn [116,101,97,109] d [] (by decide);rw[Gj]at this;rw[this];rfl
 rcases ha with rfl|rfl|rfl|rfl|rfl|rfl
 ·show getV ([]++_) kApp≠_
  rw[DT,hz];decide
 ·show([97]:Ya Yl)≠_;decide
 ·show([98]:Ya Yl)≠_;decide
 ·show([99,114,105,116]:Ya Yl)≠_;decide
 ·show([97,34,98,92]:Ya Yl)≠_;decide
 ·show([119,101,98,45,49]:Ya Yl)≠_;decide
def McOk(m:BA):Prop:=m.1∈Kc/\(0<=m.2.1/\m.2.1<=3)/\m.2.2∈Ny
theorem ABe(F:TopFacts){m:BA}(hm:McOk m){l:Ya Al}(hl:LabG l):∃b,∀{β:Type}(k:Ys->Yb β),K6 m l k=k b:=by
 have hv:=Ako (key:=m.1) (l:=l) λx hx=>(hl.mem x hx).2.1;obtain⟨b,hb⟩:=F.like _ hm.2.2 _ hv;by_cases h0:m.2.1=0
 ·refine⟨Yf (getV l m.1=m.2.2),λk=>?_⟩
  unfold K6;rw[Aq];refine(Rp hl.len _ _).trans ?_;exact Bp h0
 ·by_cases h1:m.2.1=1
  ·refine⟨!Yf (getV l m.1=m.2.2),λk=>?_⟩
   unfold K6;rw[Aq];refine(Rp hl.len _ _).trans ?_;refine(AJ h0).trans ?_;exact Bp h1
  ·by_cases h2:m.2.1=2
   ·refine⟨b,λk=>?_⟩
    unfold K6;rw[Aq];refine(Rp hl.len _ _).trans ?_;refine(AJ h0).trans ?_;refine(AJ h1).trans ?_;refine(Bp h2).trans ?_;exact hb _
   ·refine⟨!b,λk=>?_⟩
    unfold K6;rw[Aq];refine(Rp hl.len _ _).trans ?_;refine(AJ h0).trans ?_;refine(AJ h1).trans ?_;refine(AJ h2).trans ?_;refine(Bp (by have:=hm.2.1;omega)).trans ?_;exact hb _
theorem Akq(l:Ya Al)(ms:Ya BA)(hn:ms.length<=100)(h:∀m∈ms,∃b,∀{β:Type}(k:Ys->Yb β),K6 m l k=k b):∀(m i:Yk),i<=ms.length->ms.length-i<m->∃b,∀{β:Type}(k:Ys->Ya Al->Yb β),TZ m (λt4 b0=>k (Yf ((0:Yi)<=t4)) b0) (λb0=>k (Yf ((0:Yi)≤-1)) b0) ms (ms.length:Yi) (i:Yi) l=k b l
 |0,i,_,h=>Yw h (C8 _)
 |m+1,i,hi,hm=>by
  by_cases Ae:i<ms.length
  ·obtain⟨b,hb⟩:=h ms[i] (Ew Ae)
   obtain⟨b',Ay⟩:=Akq l ms hn h m (i+1) (by omega) (by omega);refine⟨bif !b then Yo else b',λk=>?_⟩;rw[ZE];unfold QZ;refine(Bp (by omega)).trans ?_;refine(B6 ⟨by omega,by omega⟩).trans ?_;rw[E8 Ae];unfold Z8;rw[Aq];refine(hb _).trans ?_;have:=Ay k;rw[<-C3 (by omega)]at this;cases b with
   |false=>refine c_t.trans ?_;show k (Yf ((0:Yi)<=(i:Yi))) l=k Yo l;rw[CD (by omega:(0:Yi)<=(i:Yi))]
   |true=>exact this
  ·refine⟨Yc,λk=>?_⟩
   rw[ZE];unfold QZ;exact AJ (by omega)
theorem ABf{l:Ya Al}{ms:Ya BA}(hn:ms.length<=100)(h:∀m∈ms,∃b,∀{β:Type}(k:Ys->Yb β),K6 m l k=k b):∃b,∀{β:Type}(k:Ys->Yb β),Iv ms l k=k b:=by obtain⟨b,hb⟩:=Akq l ms hn h fuel 0 (BD _) (by unfold fuel;omega);refine⟨!b,λk=>?_⟩;unfold Iv;rw[Aq];unfold ZP;rw[Aq];unfold ZG;rw[Aq];unfold ZF;rw[Aq];exact hb λt _=>k (!t)
abbrev silM:BA:=([97,112,112],((0:Yi),[109,105,110,101]))
theorem ABg{l:Ya Al}(hl:l.length<=4)(k:Ys->Yb β):Iv [silM] l k=k (Yf (getV l kApp=[109,105,110,101])):=by
 have hm:∀{β:Type}(k:Ys->Yb β),K6 silM l k=k (Yf (getV l kApp=[109,105,110,101])):=λk=>by unfold K6;rw[Aq];refine(Rp hl _ _).trans ?_;exact Bp rfl
 unfold Iv;rw[Aq];unfold ZP;rw[Aq];unfold ZG;rw[Aq];unfold ZF;rw[Aq];obtain⟨f,hf⟩:∃f,fuel=f+2:=⟨fuel-2,by unfold fuel;omega⟩;rw[hf];rw[ZE];unfold QZ;refine(Bp (by decide)).trans ?_;refine(B6 (by decide)).trans ?_;unfold Z8;rw[Aq];refine(hm _).trans ?_;cases Yf (getV l kApp=[109,105,110,101])with
 |false=>rfl
 |true=>refine c_f.trans ?_;rw[ZE];unfold QZ;exact AJ (by decide)
end
end Go.Lift
namespace Go.Lift
open Go.RowKit Go.IntWalk
section
variable{β:Type}[Sl]
structure RouteOk (r:AU):Prop where
 rt:RtOk r
 pol:0<=r.2.2.1
 gb:r.2.2.2.1=[kApp]
 mat:∀m∈r.2.1,McOk m
 len:r.2.1.length<=2
theorem ABh(F:TopFacts){m:BA}(h:McOk m)(k:Ys->Yb β):O7 m k=k Yo:=by unfold O7;rw[Aq];refine(F.key _ h.1 _).trans ?_;refine c_t.trans ?_;refine(Bp h.2.1.1).trans ?_;refine(Bp h.2.1.2).trans ?_;exact F.pat _ h.2.2 _
theorem Akr(F:TopFacts)(k:Ys->Yb β)(s:Ya BA)(hs:∀m∈s,McOk m)(hn:s.length<=100):∀(m i:Yk),i<=s.length->s.length-i<m->TQ m (λt4=>k (Yf ((0:Yi)<=t4))) (λ_=>k (Yf ((0:Yi)≤-1))) s (s.length:Yi) (i:Yi)=k Yc
 |0,i,_,h=>Yw h (C8 _)
 |m+1,i,hi,hm=>by
  rw[Aw1];unfold pK;by_cases Ae:i<s.length
  ·refine(Bp (by omega)).trans ?_
   refine(B6 ⟨by omega,by omega⟩).trans ?_;rw[E8 Ae];unfold o5;rw[Aq];refine(ABh F (hs _ (Ew Ae)) _).trans ?_;refine c_f.trans ?_;have ih:=Akr F k s hs hn m (i+1) (by omega) (by omega);rw[<-C3 (by omega)]at ih;exact ih
  ·exact AJ (by omega)
theorem ABi(F:TopFacts){s:Ya BA}(hs:∀m∈s,McOk m)(hn:s.length<=100)(k:Ys->Yb β):Z1 s k=k Yc:=by unfold Z1;rw[Aq];unfold pM;rw[Aq];unfold pL;rw[Aq];exact Akr F k s hs hn fuel 0 (BD _) (by unfold fuel;omega)
theorem ABj(F:TopFacts)(k:Ys->Yb β):TG [kApp] k=k Yo:=by unfold TG;rw[Aq];unfold o7;rw[Aq];obtain⟨f,hf⟩:∃f,fuel=f+2:=⟨fuel-2,by unfold fuel;omega⟩;rw[hf,AfM];unfold Zi;refine(Bp (by decide)).trans ?_;refine(B6 (by decide)).trans ?_;unfold mF;rw[Aq];refine(F.key kApp (by decide) _).trans ?_;refine c_f.trans ?_;refine(AJ (by decide)).trans ?_;rw[AfM];unfold Zi;exact AJ (by decide)
theorem Aks(F:TopFacts){r:AU}(h:RouteOk r)(k1:Ahi β)(k2:Ahj β):Lt k1 k2 Yc r=k2 ():=by have hl:=h.len;obtain⟨⟨w1,w2⟩,⟨i1,i2⟩,wi,r1,r2⟩:=h.rt;unfold Lt;rw[Aq];unfold qG;refine c_f.trans ?_;refine(AJ (by omega)).trans ?_;show TW _ _ (Yf ((12:Yi)<(Yg r.2.2.2.1:Yi))) r=_;rw[h.gb];unfold TW;rw[Aq];unfold qF;refine(AJ (by decide)).trans ?_;refine(ABi F h.mat (by omega) _).trans ?_;refine c_f.trans ?_;rw[h.gb];refine(ABj F _).trans ?_;unfold Z5;rw[Aq];unfold qE;refine c_f.trans ?_;have hp:=h.pol;refine(AJ (by omega)).trans ?_;refine(AJ (by omega)).trans ?_;refine(AJ (by omega)).trans ?_;refine(AJ (by omega)).trans ?_;refine(AJ (by omega)).trans ?_;exact AJ (by omega)
theorem ABk(F:TopFacts){r:AU}(h:RouteOk r){i:Yi}(h0:i=0->r.1=-1)(h1:0<i->0<=r.1/\r.1<i)(hi:0<=i)(k:Yi->Yb β):Z6 r i k=k 0:=by
 unfold Z6;rw[Aq];by_cases hz:i=0
 ·refine(Bp hz).trans ?_
  refine(Dh (h0 hz)).trans ?_;refine(AJ (by omega)).trans ?_;exact Aks F h _ _
 ·have h2:=h1 (by omega)
  refine(AJ hz).trans ?_;refine(Bp (by omega)).trans ?_;refine(AJ (by omega)).trans ?_;rw[Ex (show ¬i<=r.1 by omega)];exact Aks F h _ _
structure RoutesOk (l:Ya AU):Prop where
 n:1<=l.length/\l.length<=3
 ok:∀r∈l,RouteOk r
 root:∀r:AU,l[0]?=Yd r->r.1=-1/\r.2.1=[]
 par:∀(i:Yk)(r:AU),0<i->l[i]?=Yd r->0<=r.1/\r.1<(i:Yi)
theorem Akt(F:TopFacts){l:Ya AU}(h:RoutesOk l)(k1:qO β)(k2:qP β):∀(m i:Yk),i<=l.length->l.length-i<m->TY m k1 k2 l l (l.length:Yi) (i:Yi)=k2 l
 |0,i,_,h=>Yw h (C8 _)
 |m+1,i,hi,hm=>by
  rw[AxB];unfold qR;by_cases Ae:i<l.length
  ·refine(Bp (by omega)).trans ?_
   refine(B6 ⟨by omega,by omega⟩).trans ?_;rw[E8 Ae];have e:l[i]?=Yd l[i]:=C0 Ae;refine(ABk F (h.ok _ (Ew Ae)) (λhz=>?_) (λhz=>?_) (by omega) _).trans ?_
   ·obtain rfl:i=0:=by omega
    exact(h.root _ e).1
   ·exact h.par i _ (by omega) e
   ·refine(Dh rfl).trans ?_
    have ih:=Akt F h k1 k2 m (i+1) (by omega) (by omega);rw[<-C3 (by have:=h.n;omega)]at ih;exact ih
  ·exact AJ (by omega)
theorem uZ(F:TopFacts){l:Ya AU}(h:RoutesOk l)(k:Yi->Yb β):QY l k=k 0:=by
 have hn:=h.n;unfold QY;rw[Aq];refine(AJ (by omega)).trans ?_;refine(AJ (by omega)).trans ?_;unfold qS;rw[Aq];refine(Akt F h _ _ fuel 0 (BD _) (by unfold fuel;omega)).trans ?_;refine(B6 ⟨by omega,by omega⟩).trans ?_;have h0:0<l.length:=by omega
 have e:l[0]?=Yd l[0]:=C0 h0;have hg:=E8 (l:=l) (i:=0) (d:=((0:Yi),(([]:Ya BA),((0:Yi),(([]:Ya (Ya Yl)),((0:Yi),((0:Yi),((0:Yi),Yc)))))))) h0;show Yr (Yf ((0:Yi)<(Yg (Yn l (Yj ((0:Yk):Yi)) ((0:Yi),(([]:Ya BA),((0:Yi),(([]:Ya (Ya Yl)),((0:Yi),((0:Yi),((0:Yi),Yc)))))))).2.1:Yi))) _ _=_;rw[hg,(h.root _ e).2];exact AJ (by decide)
theorem v6(F:TopFacts){r:AU}(h:RouteOk r)(k:Ys->Yb β):Nv r k=k Yo:=by
 unfold Nv;rw[Aq]
 have hr:RoutesOk [((-1:Yi),(([]:Ya BA),r.2.2))]:=by
  refine⟨by simp,λx hx=>?_,λx hx=>?_,λi x hi hx=>?_⟩
  ·rw[DS.mp hx]
   exact⟨⟨h.rt.w,h.rt.i,h.rt.wi,h.rt.r⟩,h.pol,h.gb,λm hm=>Yw hm (by simp),by simp⟩
  ·simp only[Dg,Af]at hx
   subst hx;exact⟨rfl,rfl⟩
  ·rw[MG (by simp only[Be,BP];omega)]at hx
   exact Yw hx (by simp)
 exact uZ F hr _
structure RulesG (R:Ax):Prop where
 rts:RoutesOk R.1
 inh:R.2.1=[]
 exp:R.2.2=0
theorem RulesG.ok{R:Ax}(h:RulesG R):RulesOk R:=⟨h.rts.n,λx hx=>(h.rts.ok x hx).rt⟩
theorem RulesG.at{R:Ax}(h:RulesG R){i:Yi}(h0:0<=i)(h1:i<(R.1.length:Yi)):RouteOk (FO R i):=by
 refine h.rts.ok _ ?_;have:i.toNat<R.1.length:=by omega
 show(R.1[i.toNat]?).getD _∈_;rw[C0 this];exact Ew this
theorem ABl(F:TopFacts){R:Ax}(h:RulesG R)(k:Yi->Yb β):ZI R k=k 0:=by unfold ZI;rw[Aq];refine(uZ F h.rts _).trans ?_;refine(Dh rfl).trans ?_;rw[h.inh,h.exp];unfold r5;rw[Aq];refine(AJ (by decide)).trans ?_;unfold qZ;rw[Aq];obtain⟨f,hf⟩:∃f,fuel=f+1:=⟨fuel-1,by unfold fuel;omega⟩;rw[hf,AxI];unfold qY;refine(AJ (by decide)).trans ?_;refine(Dh rfl).trans ?_;refine(AJ (by decide)).trans ?_;exact AJ (by decide)
end
end Go.Lift
namespace Go.Lift
open Go.RowKit Go.IntWalk
section
variable[Sl]
def chF(i:Yi):Ya AU->Yk->Ya Yi->Ya Yi
 |[],_,out=>out
 |r::l,j,out=>chF i l (j+1) (bif Yf (r.1=i)then out++[(j:Yi)]else out)
theorem v7{β:Type}(k:Ya Yi->Yb β)(i:Yi)(l:Ya AU)(hl:l.length<=3):∀(m j:Yk)(out:Ya Yi),j<=l.length->l.length-j<m->out.length<=j->T1 m (λout=>k out) i l (l.length:Yi) (j:Yi) out=k (chF i (l.drop j) j out)
 |0,j,_,_,h,_=>Yw h (C8 _)
 |m+1,j,out,hi,hm,ho=>by
  rw[Asx];unfold lV;by_cases Ae:j<l.length
  ·refine(Bp (by omega)).trans ?_
   refine(B6 ⟨by omega,by omega⟩).trans ?_;rw[E8 Ae,JH Ae];show Yr (Yf ((l[j]).1=i)) _ _=k (chF i (l.drop (j+1)) (j+1) (bif Yf ((l[j]).1=i)then out++[(j:Yi)]else out));cases Yf ((l[j]).1=i)with
   |true=>refine c_t.trans ?_;refine(GT (by simp only[Be,BP];omega)).trans ?_;have ih:=v7 k i l hl m (j+1) (out++[(j:Yi)]) (by omega) (by omega) (by simp only[Bd,Be,BP];omega);rw[<-C3 (by omega)]at ih;exact ih
   |false=>refine c_f.trans ?_;have ih:=v7 k i l hl m (j+1) out (by omega) (by omega) (by omega);rw[<-C3 (by omega)]at ih;exact ih
  ·rw[GM (by omega)]
   exact AJ (by omega)
theorem ABm{β:Type}(i:Yi){l:Ya AU}(hl:l.length<=3)(k:Ya Yi->Yb β):Ns l i k=k (chF i l 0 []):=by unfold Ns;rw[Aq];unfold lW;rw[Aq];exact v7 k i l hl fuel 0 [] (BD _) (by unfold fuel;omega) (Aw _)
def Gc(A:Yi->Ys)(F:Yi->Ya Yi)(C:Yi->Ys):Ya Yi->Ya Yi->Ya Yi
 |[],out=>out
 |c::cs,out=>bif A c then(bif C c then Gc A F C cs (out++F c)else out++F c)else Gc A F C cs out
abbrev GC(l:Ya AU)(c:Yi):Ys:=(Yn l (Yj c) ((0:Yi),(([]:Ya BA),((0:Yi),(([]:Ya (Ya Yl)),((0:Yi),((0:Yi),((0:Yi),Yc)))))))).2.2.2.2.2.2.2
abbrev bA(l:Ya AU)(c:Yi):Ya BA:=(Yn l (Yj c) ((0:Yi),(([]:Ya BA),((0:Yi),(([]:Ya (Ya Yl)),((0:Yi),((0:Yi),((0:Yi),Yc)))))))).2.1
theorem v8{β:Type}(me:K7)(k1:ZX β)(l:Ya AU)(i:Yi)(lab:Ya Al)(A:Yi->Ys)(F:Yi->Ya Yi)(cs:Ya Yi)(Bn:cs.length<=3)(hr:∀c∈cs,0<=c/\c<(l.length:Yi))(hA:∀c∈cs,∀{γ:Type}(k:Ys->Yb γ),Iv (bA l c) lab k=k (A c))(hF:∀c∈cs,(F c).length<=3/\∀{γ:Type}(k:Ya Yi->Yb γ),me l c lab k=k (F c)):∀(m j:Yk)(out:Ya Yi),j<=cs.length->cs.length-j<m->out.length<=3*j->a8 me m k1 l i lab (cs.length:Yi) (j:Yi) out cs=k1 i (Gc A F (GC l) (cs.drop j) out)
 |0,j,_,_,h,_=>Yw h (C8 _)
 |m+1,j,out,hi,hm,ho=>by
  rw[AyV];unfold rV;by_cases Ae:j<cs.length
  ·have hc:=Ew Ae
   obtain⟨r1,r2⟩:=hr _ hc;refine(Bp (by omega)).trans ?_;refine(B6 ⟨by omega,by omega⟩).trans ?_;rw[E8 Ae,JH Ae];generalize cs[j]=c at*;refine(B6 ⟨r1,r2⟩).trans ?_;refine(hA c hc _).trans ?_;show Yr (!A c) _ _=k1 i (bif A c then(bif GC l c then Gc A F (GC l) (cs.drop (j+1)) (out++F c)else out++F c)else Gc A F (GC l) (cs.drop (j+1)) out);obtain⟨f1,f2⟩:=hF c hc;cases A c with
   |false=>refine c_t.trans ?_;have ih:=v8 me k1 l i lab A F cs Bn hr hA hF m (j+1) out (by omega) (by omega) (by omega);rw[<-C3 (by omega)]at ih;exact ih
   |true=>
    refine c_f.trans ?_;refine(f2 _).trans ?_;refine(GT (by omega)).trans ?_;refine(B6 ⟨r1,r2⟩).trans ?_;show Yr (!GC l c) _ _=_;cases GC l c with
    |false=>rfl
    |true=>have ih:=v8 me k1 l i lab A F cs Bn hr hA hF m (j+1) (out++F c) (by omega) (by omega) (by rw[Bd];omega);rw[<-C3 (by omega)]at ih;exact ih
  ·rw[GM (by omega)]
   exact AJ (by omega)
theorem Ms{l:Ya AU}(hl:l.length<=3)(i:Yi)(lab:Ya Al)(A:Yi->Ys)(F:Yi->Ya Yi){cs:Ya Yi}(w9:chF i l 0 []=cs)(Bn:cs.length<=3)(n:Yk)(hr:∀c∈cs,0<=c/\c<(l.length:Yi))(hA:∀c∈cs,∀{γ:Type}(k:Ys->Yb γ),Iv (bA l c) lab k=k (A c))(hF:∀c∈cs,(F c).length<=3/\∀(d:Yk){γ:Type}(k:Ya Yi->Yb γ),IU (d+n) l c lab k=k (F c)):∀(d:Yk){γ:Type}(k:Ya Yi->Yb γ),IU (d+(n+1)) l i lab k=k (bif Yf (((Gc A F (GC l) cs []).length:Yi)=0)then [i]else Gc A F (GC l) cs []):=by
 intro d γ k;rw[show d+(n+1)=(d+n)+1 by omega,AyX];unfold ZZ;refine(ABm i hl _).trans ?_;rw[w9];unfold Ul;refine(v8 (IU (d+n)) _ l i lab A F cs Bn hr hA (λc hc=>⟨(hF c hc).1,λk=>(hF c hc).2 d k⟩) fuel 0 [] (BD _) (by unfold fuel;omega) (Aw _)).trans ?_;rw[PK];show Yr (Yf (((Gc A F (GC l) cs []).length:Yi)=0)) (k [i]) (k (Gc A F (GC l) cs []))=_;cases Yf (((Gc A F (GC l) cs []).length:Yi)=0)<;>rfl
theorem vA(A:Yi->Ys)(F:Yi->Ya Yi)(C:Yi->Ys)(c i:Yi)(hF:F c≠[]):(bif Yf (((Gc A F C [c] []).length:Yi)=0)then [i]else Gc A F C [c] [])=[i]\/(bif Yf (((Gc A F C [c] []).length:Yi)=0)then [i]else Gc A F C [c] [])=F c:=by
 have h0:Yf (((F c).length:Yi)=0)=Yc:=Ex (λh=>hF (dB.mp (by omega)));unfold Gc;cases A c with
 |false=>exact .inl rfl
 |true=>right;cases C c<;>simp only[Ao,BU,DT,Gc,h0]<;>simp[hF]
abbrev OO(n:Yk)(fr:Ya Yi):Prop:=fr≠[]/\fr.Nodup/\fr.length<=3/\∀i∈fr,0<=i/\i<(n:Yi)
theorem bB{n:Yk}{i:Yi}(h:0<=i/\i<(n:Yi)):OO n [i]:=⟨by simp,by simp,by simp,λj hj=>by rw[DS.mp hj];exact h⟩
theorem Aku(F:TopFacts){l:Ya AU}(h:RoutesOk l){lab:Ya Al}(Alq:LabG lab):∃fr,OO l.length fr/\∀{β:Type}(k:Ya Yi->Yb β),Um l lab k=k fr:=by
 have hn:=h.n
 have hA0:∀c:Yi,∃b,(0<=c/\c<(l.length:Yi))->∀{γ:Type}(k:Ys->Yb γ),Iv (bA l c) lab k=k b:=λc=>by
  by_cases hc:0<=c/\c<(l.length:Yi)
  ·have hm:=h.ok _ (show Yn l (Yj c) ((0:Yi),(([]:Ya BA),((0:Yi),(([]:Ya (Ya Yl)),((0:Yi),((0:Yi),((0:Yi),Yc)))))))∈l from by
    have:c.toNat<l.length:=by omega
    show(l[c.toNat]?).getD _∈_;rw[C0 this];exact Ew this)
   obtain⟨b,hb⟩:=ABf (l:=lab) (ms:=bA l c) (BH hm.len (by decide)) λm Es=>ABe F (hm.mat m Es) Alq;exact⟨b,λ_=>hb⟩
  ·exact⟨Yc,λh=>Yw h hc⟩
 obtain⟨A,hA⟩:=Classical.skolem.mp hA0
 have main:∃fr,OO l.length fr/\∀(d:Yk){β:Type}(k:Ya Yi->Yb β),IU (d+3) l 0 lab k=k fr:=by
  match l,h,hA,hn with
  |[],h,_,hn=>exact Yw hn.1 (by simp)
  |[r0],h,hA,_=>
   have p0:=(h.root r0 rfl).1;have e:chF 0 [r0] 0 []=[]:=by simp[chF,p0]
   have:=Ms (l:=[r0]) (by simp) 0 lab A (λ_=>[]) e (by simp) 2 (λc hc=>Yw hc (by simp)) (λc hc=>Yw hc (by simp)) (λc hc=>Yw hc (by simp));exact⟨[0],bB (by simp),λd β k=>this d k⟩
  |[r0,r1],h,hA,_=>
   have p0:=(h.root r0 rfl).1;have p1:=h.par 1 r1 (by omega) rfl;have q1:r1.1=0:=by omega
   have e1:chF 1 [r0,r1] 0 []=[]:=by simp[chF,p0,q1]
   have e0:chF 0 [r0,r1] 0 []=[1]:=by simp[chF,p0,q1]
   have f1:=Ms (l:=[r0,r1]) (by simp) 1 lab A (λ_=>[]) e1 (by simp) 1 (λc hc=>Yw hc (by simp)) (λc hc=>Yw hc (by simp)) (λc hc=>Yw hc (by simp))
   have f0:=Ms (l:=[r0,r1]) (by simp) 0 lab A (λ_=>[1]) e0 (by simp) 2 (λc hc=>by rw[DS.mp hc];simp) (λc hc=>hA c (by rw[DS.mp hc];simp)) (λc hc=>by rw[DS.mp hc];exact⟨by simp,λd γ k=>f1 d k⟩)
   refine⟨_,?_,λd β k=>f0 d k⟩;rcases vA A (λ_=>[1]) (GC [r0,r1]) 1 0 (by simp)with hw|hw<;>rw[hw]
   ·exact bB (by simp)
   ·exact bB (by simp)
  |[r0,r1,r2],h,hA,_=>
   have p0:=(h.root r0 rfl).1;have p1:=h.par 1 r1 (by omega) rfl;have p2:=h.par 2 r2 (by omega) rfl;have q1:r1.1=0:=by omega
   rcases(show r2.1=0\/r2.1=1 by omega)with q2|q2
   ·have e2:chF 2 [r0,r1,r2] 0 []=[]:=by simp[chF,p0,q1,q2]
    have e1:chF 1 [r0,r1,r2] 0 []=[]:=by simp[chF,p0,q1,q2]
    have e0:chF 0 [r0,r1,r2] 0 []=[1,2]:=by simp[chF,p0,q1,q2]
    have f2:=Ms (l:=[r0,r1,r2]) (by simp) 2 lab A (λ_=>[]) e2 (by simp) 1 (λc hc=>Yw hc (by simp)) (λc hc=>Yw hc (by simp)) (λc hc=>Yw hc (by simp));have f1:=Ms (l:=[r0,r1,r2]) (by simp) 1 lab A (λ_=>[]) e1 (by simp) 1 (λc hc=>Yw hc (by simp)) (λc hc=>Yw hc (by simp)) (λc hc=>Yw hc (by simp));have BG:∀c∈([1,2]:Ya Yi),c=1\/c=2:=λc hc=>by simpa using hc
    have f0:=Ms (l:=[r0,r1,r2]) (by simp) 0 lab A (λc=>[c]) e0 (by simp) 2 (λc hc=>by rcases BG c hc with rfl|rfl<;>simp) (λc hc=>hA c (by rcases BG c hc with rfl|rfl<;>simp)) (λc hc=>by
     rcases BG c hc with rfl|rfl
     ·exact⟨by simp,λd γ k=>f1 d k⟩
     ·exact⟨by simp,λd γ k=>f2 d k⟩)
    refine⟨_,?_,λd β k=>f0 d k⟩;generalize GC [r0,r1,r2]=C;simp only[Gc];rcases VU (A 1)with a1|a1<;>rcases VU (A 2)with a2|a2<;>rcases VU (C 1)with c1|c1<;>rcases VU (C 2)with c2|c2<;>simp[OO,a1,a2,c1,c2]
   ·have e2:chF 2 [r0,r1,r2] 0 []=[]:=by simp[chF,p0,q1,q2]
    have e1:chF 1 [r0,r1,r2] 0 []=[2]:=by simp[chF,p0,q1,q2]
    have e0:chF 0 [r0,r1,r2] 0 []=[1]:=by simp[chF,p0,q1,q2]
    have f2:=Ms (l:=[r0,r1,r2]) (by simp) 2 lab A (λ_=>[]) e2 (by simp) 0 (λc hc=>Yw hc (by simp)) (λc hc=>Yw hc (by simp)) (λc hc=>Yw hc (by simp))
    have f1:=Ms (l:=[r0,r1,r2]) (by simp) 1 lab A (λ_=>[2]) e1 (by simp) 1 (λc hc=>by rw[DS.mp hc];simp) (λc hc=>hA c (by rw[DS.mp hc];simp)) (λc hc=>by rw[DS.mp hc];exact⟨by simp,λd γ k=>f2 d k⟩)
    generalize EP:(bif Yf (((Gc A (λ_=>[2]) (GC [r0,r1,r2]) [1] []).length:Yi)=0)then [0]else Gc A (λ_=>[2]) (GC [r0,r1,r2]) [1] [])=dummy;clear EP dummy;have g1:=vA A (λ_=>[2]) (GC [r0,r1,r2]) 2 1 (by simp);generalize(bif Yf (((Gc A (λ_=>[2]) (GC [r0,r1,r2]) [2] []).length:Yi)=0)then [1]else Gc A (λ_=>[2]) (GC [r0,r1,r2]) [2] [])=w1 at f1 g1;have g1':w1≠[]/\w1.length<=3/\OO 3 w1:=by rcases g1 with rfl|rfl<;>simp[OO]
    have f0:=Ms (l:=[r0,r1,r2]) (by simp) 0 lab A (λ_=>w1) e0 (by simp) 2 (λc hc=>by rw[DS.mp hc];simp) (λc hc=>hA c (by rw[DS.mp hc];simp)) (λc hc=>by rw[DS.mp hc];exact⟨g1'.2.1,λd γ k=>f1 d k⟩)
    refine⟨_,?_,λd β k=>f0 d k⟩;rcases vA A (λ_=>w1) (GC [r0,r1,r2]) 1 0 g1'.1 with hw|hw<;>rw[hw]
    ·exact bB (by simp)
    ·exact g1'.2.2
  |_::_::_::_::_,_,_,hn=>exact Yw hn.2 (by simp)
 obtain⟨fr,hg,GE⟩:=main;refine⟨fr,hg,λk=>?_⟩;unfold Um;rw[Aq];refine(uZ F h _).trans ?_;refine(Dh rfl).trans ?_;refine(Ro F Alq _).trans ?_;refine c_f.trans ?_;obtain⟨f,hf⟩:∃f,fuel=f+3:=⟨fuel-3,by unfold fuel;omega⟩;show IU fuel l 0 lab (λRE=>k RE)=_;rw[hf];exact GE f _
end
end Go.Lift
namespace Go.Lift
open Go.RowKit Go.IntWalk
section
variable[Sl]
theorem Akv{a b:Yk}(h:a+b<=1000000):Yh.wrap (MN .shr .u64 (YaU.wrap (Yh.wrap ((a:Yi)+(b:Yi)))) (1:Yi))=(((a+b) / 2:Yk):Yi):=by
 have e1:Yh.wrap ((a:Yi)+(b:Yi))=((a+b:Yk):Yi):=by rw[Y2];omega
 have e2:YaU.wrap ((a+b:Yk):Yi)=((a+b:Yk):Yi):=by rw[IntKind.wrap_u64];omega
 rw[e1,e2]
 have e3:MN .shr .u64 ((a+b:Yk):Yi) (1:Yi)=(((a+b) / 2:Yk):Yi):=by show Int.fdiv ((a+b:Yk):Yi) (2^(min (Yj 1) IntKind.u64.bits))=_;have:(2:Yi)^(min (Yj 1) IntKind.u64.bits)=2:=rfl;rw[this,Int.fdiv_eq_ediv_of_nonneg _ (by decide)];omega
 rw[e3,Y2];omega
def cmpV(x y:Ya Yl):Yi:=bif Yy x y then-1 else bif !(Yy x y||Yf (x=y))then 1 else 0
theorem vB{β:Type}(x y:Ya Yl)(k:Yi->Yb β):TD x y k=k (cmpV x y):=by
 have hn:∀(x:Ya Yl){γ:Type}(k:Ys->Yb γ),T2 x k=k Yc:=λx γ k=>by unfold T2;rw[Aq];rw[CD rfl];rfl
 unfold TD;rw[Aq];refine(hn x _).trans ?_;refine(hn y _).trans ?_;show Yr (Yy x y) (k (-1)) (Yr (!(Yy x y||Yf (x=y))) (k 1) (k 0))=_;unfold cmpV;cases Yy x y<;>cases Yf (x=y)<;>rfl
theorem Akw(x y:Ya Yl):Yf (cmpV x y<0)=Yy x y:=by unfold cmpV;cases Yy x y<;>cases Yf (x=y)<;>rfl
theorem Akx(x y:Ya Yl):Yf (cmpV x y=0)=Yf (x=y):=by
 unfold cmpV;cases h:Yy x y with
 |true=>
  have:Yf (x=y)=Yc:=Ex λe=>by rw[e,Ll]at h;exact Yw h (by simp)
  rw[this];rfl
 |false=>cases Yf (x=y)<;>rfl
section
variable{α κ:Type}[DecidableEq κ]{lt:κ->κ->Ys}{key:α->κ}
theorem Aky(ok:LtOk lt){k:κ}{l:Ya α}(hs:Srt lt key l)(h:Yk)(hh:h<l.length):lt (key l[h]) k=Yf (h<(lowK lt key k l).length):=by
 have hl:=Nf (lt:=lt) (key:=key) k l;by_cases Ae:h<(lowK lt key k l).length
 ·rw[CD Ae]
  have:l[h]=(lowK lt key k l)[h]:=by
   have e:l[h]?=(lowK lt key k l)[h]?:=by
    conv=>lhs;rw[<-hl]
    exact G0 Ae
   rw[C0 hh,C0 Ae]at e;exact NX e
  rw[this];exact Xd (Ew Ae)
 ·rw[Ex Ae]
  have hm:l[h]∈Ff lt key k l:=by
   have e:l[h]?=(Ff lt key k l)[h-(lowK lt key k l).length]?:=by
    conv=>lhs;rw[<-hl]
    exact ES (by omega)
   rw[C0 hh]at e;exact CN e.symm
  rw[<-AbB]at hm;rcases BV.mp hm with hm|hm
  ·have e2:key l[h]=k:=IK (lt:=lt) (key:=key) (k:=k) (l:=l) (by simpa using hm)
   rw[e2];exact ok.irr k
  ·have:=Xe ok hs hm
   cases hc:lt (key l[h]) k with
   |false=>rfl
   |true=>have:=ok.trans this hc;rw[ok.irr]at this;exact Yw this (by simp)
theorem Akz{k:κ}{l:Ya α}(h:(lowK lt key k l).length<l.length):Yf (key (l[(lowK lt key k l).length])=k)=(getK lt key k l).isSome:=by
 have hl:=Nf (lt:=lt) (key:=key) k l
 have e:l[(lowK lt key k l).length]?=(Ff lt key k l)[0]?:=by have e0:(lowK lt key k l++Ff lt key k l)[(lowK lt key k l).length]?=l[(lowK lt key k l).length]?:=Ai (λz:Ya α=>z[(lowK lt key k l).length]?) hl;rw[<-e0,ES (Aw _),Sh]
 rw[C0 h]at e;unfold getK;cases hh:Ff lt key k l with
 |nil=>rw[hh]at e;exact Yw e (by simp)
 |cons x b=>
  rw[hh]at e;have:l[(lowK lt key k l).length]=x:=by simpa using e
  rw[this];show Yf (key x=k)=(bif Yf (key x=k)then Yd x else none).isSome;cases Yf (key x=k)<;>rfl
theorem AkA{k:κ}{l:Ya α}(h:¬(lowK lt key k l).length<l.length):getK lt key k l=none:=by have hl:=Ai Yg (Nf (lt:=lt) (key:=key) k l);rw[Bd]at hl;unfold getK;have:Ff lt key k l=[]:=dB.mp (by omega);rw[this]
theorem vC{k:κ}{l:Ya α}:(lowK lt key k l).length<=l.length:=by have hl:=Ai Yg (Nf (lt:=lt) (key:=key) k l);rw[Bd]at hl;omega
end
theorem vD{β:Type}(k1:oC β){x:List AW}{target:List UInt8}(hx:x.length<=1000){s:Nat}(hs:∀h(hh:h<x.length),Op.bytesLess (x[h]).1 target=decide (h<s))(n:Int):∀(m i j:Nat),i<=s->s<=j->j<=x.length->j-i<m->TH m k1 x target n (i:Int) (j:Int)=k1 x target n (s:Int)
 |0,i,j,_,_,_,h=>Yw h (C8 _)
 |m+1,i,j,h1,h2,h3,hm=>by
  rw[Avf];unfold oE;by_cases Ae:i<j
  ·refine(Bp (by omega)).trans ?_
   refine(Bp (by decide)).trans ?_;rw[Akv (by omega)];refine(B6 ⟨by omega,by omega⟩).trans ?_;have hh:(i+j) / 2<x.length:=by omega
   rw[E8 hh];unfold TE;rw[Aq];refine(vB _ _ _).trans ?_;show Yr (Yf (cmpV (x[(i+j) / 2]).1 target<0)) _ _=_;rw[Akw,hs _ hh];by_cases hc:(i+j) / 2<s
   ·refine(Bp hc).trans ?_
    rw[C3 (by omega)];exact vD k1 hx hs n m ((i+j) / 2+1) j (by omega) h2 h3 (by omega)
   ·refine(AJ hc).trans ?_
    exact vD k1 hx hs n m i ((i+j) / 2) h1 (by omega) (by omega) (by omega)
  ·obtain rfl:i=s:=by omega
   exact AJ (by omega)
theorem ABn{β:Type}{g:Ag}(hx:g.2.2.1.length<=1000)(ha:AscK g.2.2.1)(key:Ya Yl)(k:Yi->Ys->Yb β):TO g key k=k ((lowK Yy mkey key g.2.2.1).length:Yi) (getK Yy mkey key g.2.2.1).isSome:=by
 unfold TO;rw[Aq];unfold oG;rw[Aq];unfold oF;rw[Aq];have hl:=vC (lt:=Yy) (key:=mkey) (k:=key) (l:=g.2.2.1);refine(vD _ hx (λh hh=>Aky AbA ha h hh) _ fuel 0 g.2.2.1.length (BD _) hl (Aw _) (by unfold fuel;omega)).trans ?_;by_cases Ae:(lowK Yy mkey key g.2.2.1).length<g.2.2.1.length
 ·refine(Bp (by omega)).trans ?_
  refine(B6 ⟨by omega,by omega⟩).trans ?_;rw[E8 Ae];unfold TE;rw[Aq];refine(vB _ _ _).trans ?_;show k _ (Yf (cmpV (g.2.2.1[(lowK Yy mkey key g.2.2.1).length]).1 key=0))=_;rw[Akx];exact Ai (k _) (Akz Ae)
 ·refine(AJ (by omega)).trans ?_
  rw[AkA Ae];rfl
def ordV(g:Ag)(route:Yi)(key:Ya Yl):Yi:=bif !Yf (g.1=route)then g.1-route else cmpV g.2.1 key
theorem vE{β:Type}{g:Ag}{route:Yi}(h:0<=g.1/\g.1<=100/\0<=route/\route<=100)(key:Ya Yl)(k:Yi->Yb β):TJ g route key k=k (ordV g route key):=by
 unfold TJ;rw[Aq];unfold ordV;have hw:Yh.wrap (g.1-route)=g.1-route:=by rw[Y2];omega
 rw[hw];cases Yf (g.1=route)with
 |true=>exact vB _ _ _
 |false=>rfl
theorem AkB(g:Ag)(route:Yi)(key:Ya Yl):Yf (ordV g route key<0)=plt (gkey g) (route,key):=by
 unfold ordV plt gkey;by_cases h:g.1=route
 ·rw[CD h]
  show Yf (cmpV g.2.1 key<0)=(Yf (g.1<route)||(Yo&&Yy g.2.1 key));rw[Akw,Ex (show ¬g.1<route by omega)];rfl
 ·rw[Ex h]
  show Yf (g.1-route<0)=(Yf (g.1<route)||(Yc&&Yy g.2.1 key));rw[Bool.false_and,Sf];exact dR.mpr (by omega)
theorem ABo(g:Ag)(route:Yi)(key:Ya Yl):Yf (ordV g route key=0)=Yf (gkey g=(route,key)):=by
 unfold ordV gkey;by_cases h:g.1=route
 ·rw[CD h]
  show Yf (cmpV g.2.1 key=0)=_;rw[Akx];exact dR.mpr ⟨λe=>Prod.ext h e,λe=>Ai (·.2) e⟩
 ·rw[Ex h]
  show Yf (g.1-route=0)=_;exact dR.mpr ⟨λe=>Yw (by omega) h,λe=>Yw (Ai (·.1) e) h⟩
theorem vF{β:Type}(k1:pB β){x:Ya Ag}{target:Ya Yl}{r:Yi}(hx:x.length<=1000)(hr:0<=r/\r<=100)(hg:∀g∈x,0<=g.1/\g.1<=100){s:Yk}(hs:∀h(hh:h<x.length),plt (gkey x[h]) (r,target)=Yf (h<s))(n:Yi):∀(m i j:Yk),i<=s->s<=j->j<=x.length->j-i<m->TP m k1 x target n (i:Yi) (j:Yi) r=k1 x target n (s:Yi) r
 |0,i,j,_,_,_,h=>Yw h (C8 _)
 |m+1,i,j,h1,h2,h3,hm=>by
  rw[AvU];unfold pD;by_cases Ae:i<j
  ·refine(Bp (by omega)).trans ?_
   refine(Bp (by decide)).trans ?_;rw[Akv (by omega)];refine(B6 ⟨by omega,by omega⟩).trans ?_;have hh:(i+j) / 2<x.length:=by omega
   rw[E8 hh];unfold TN;rw[Aq];have UT:=hg _ (Ew hh);refine(vE ⟨UT.1,UT.2,hr.1,hr.2⟩ _ _).trans ?_;show Yr (Yf (ordV (x[(i+j) / 2]) r target<0)) _ _=_;rw[AkB,hs _ hh];by_cases hc:(i+j) / 2<s
   ·refine(Bp hc).trans ?_
    rw[C3 (by omega)];exact vF k1 hx hr hg hs n m ((i+j) / 2+1) j (by omega) h2 h3 (by omega)
   ·refine(AJ hc).trans ?_
    exact vF k1 hx hr hg hs n m i ((i+j) / 2) h1 (by omega) (by omega) (by omega)
  ·obtain rfl:i=s:=by omega
   exact AJ (by omega)
theorem ABp{β:Type}{l:Ya Ag}(hx:l.length<=1000)(hs:Srt plt gkey l){r:Yi}(hr:0<=r/\r<=100)(hg:∀g∈l,0<=g.1/\g.1<=100)(key:Ya Yl)(k:Yi->Ys->Yb β):TU l r key k=k ((lowK plt gkey (r,key) l).length:Yi) (getK plt gkey (r,key) l).isSome:=by
 unfold TU;rw[Aq];unfold pF;rw[Aq];unfold pE;rw[Aq];have hl:=vC (lt:=plt) (key:=gkey) (k:=(r,key)) (l:=l);refine(vF _ hx hr hg (λh hh=>Aky iK hs h hh) _ fuel 0 l.length (BD _) hl (Aw _) (by unfold fuel;omega)).trans ?_;by_cases Ae:(lowK plt gkey (r,key) l).length<l.length
 ·refine(Bp (by omega)).trans ?_
  refine(B6 ⟨by omega,by omega⟩).trans ?_;rw[E8 Ae];unfold TN;rw[Aq];have UT:=hg _ (Ew Ae);refine(vE ⟨UT.1,UT.2,hr.1,hr.2⟩ _ _).trans ?_;show k _ (Yf (ordV (l[(lowK plt gkey (r,key) l).length]) r key=0))=_;rw[ABo];exact Ai (k _) (Akz Ae)
 ·refine(AJ (by omega)).trans ?_
  rw[AkA Ae];rfl
end
end Go.Lift
namespace Go.Lift
open Go.RowKit Go.IntWalk
section
variable[Sl]
theorem ABq{β:Type}(F:TopFacts){key:Ya Yl}{t:Yi}{m:AW}(h:MemOk key t m)(ht:t<=100000)(k:Ys->Yb β):QV m k=k Yo:=by
 have hl:=Kd h.dl;have h1:=h.since;have h2:=h.heard;unfold QV;rw[Aq];refine(Ro F hl _).trans ?_;refine c_t.trans ?_;refine(uY F hl _).trans ?_;refine(Bp h.text.symm).trans ?_;refine(Nx _ _ _ _).trans ?_;rw[CD h1.1,CD (show m.2.2.1<=8589934592 by omega)];refine c_t.trans ?_;refine(Nx _ _ _ _).trans ?_;rw[CD h2.1,CD (show m.2.2.2.1<=8589934592 by omega)];refine c_t.trans ?_;have h3:=h.told;cases hf:m.2.2.2.2.1 with
 |true=>rfl
 |false=>
  cases ht:m.2.2.2.2.2 with
  |false=>rfl
  |true=>exact Yw (h3 ht) (by rw[hf];simp)
theorem bC{β:Type}(F:TopFacts){R:Ax}{n:Yk}{t:Yi}{g:Ag}(h:GrOk R n t g)(hn:n<=200)(ht:t<=100000)(k:Ys->Yb β):Lr g k=k Yo:=by have h1:=h.due;have h2:=h.sent;have h3:=h.len;exact ABa (by omega) h.route.1 ⟨h1.1,by omega⟩ ⟨h2.1,by omega⟩ (λm hm=>λk=>ABq F (h.mem m hm) ht k) h.asc k
theorem Rq{R:Ax}{n:Yk}{t:Yi}{g:Ag}(h:GrOk R n t g)(hn:n<=200):Mo g:=by have h3:=h.len;exact⟨by omega,λm hm=>BH (Kd (h.mem m hm).dl).len (by decide)⟩
theorem AkC{β:Type}{r:AU}(hr:RtOk r){gi:Yi}{gk:Ya Yl}{gm:Ya AW}{g3 g4 t:Yi}(ht:0<=t/\t<=100000)(h4:-1<=g4/\g4<=t)(K:Yi->Yb β):(Yr (!Yf (g4=(-1:Yi))) (Yr (!Yf (g3=(-1:Yi))) (Gq (if g3<(if(Yh.wrap (g4+r.2.2.2.2.2.1))>t then(Yh.wrap (g4+r.2.2.2.2.2.1))else t)then g3 else(if(Yh.wrap (g4+r.2.2.2.2.2.1))>t then(Yh.wrap (g4+r.2.2.2.2.2.1))else t)) K) (Gq (if(Yh.wrap (g4+r.2.2.2.2.2.1))>t then(Yh.wrap (g4+r.2.2.2.2.2.1))else t) K)) (Yr (!Yf (g3=(-1:Yi))) (Gq (if g3<(Yh.wrap (t+r.2.2.2.2.1))then g3 else(Yh.wrap (t+r.2.2.2.2.1))) K) (Gq (Yh.wrap (t+r.2.2.2.2.1)) K)))=K (Mr r (gi,(gk,(gm,(g3,g4)))) t):=by
 obtain⟨⟨w1,w2⟩,⟨i1,i2⟩,wi,r1,r2⟩:=hr;have e1:Yh.wrap (g4+r.2.2.2.2.2.1)=g4+r.2.2.2.2.2.1:=by rw[Y2];omega
 have e2:Yh.wrap (t+r.2.2.2.2.1)=t+r.2.2.2.2.1:=by rw[Y2];omega
 rw[e1,e2];unfold Mr;dsimp only;by_cases a:g4=-1
 ·refine(Dh a).trans ?_
  rw[Y7 a];by_cases b:g3=-1
  ·refine(Dh b).trans ?_
   rw[Y7 b];exact U3 _ _
  ·refine(Ku b).trans ?_
   rw[Y4 b];exact U3 _ _
 ·refine(Ku a).trans ?_
  rw[Y4 a];by_cases b:g3=-1
  ·refine(Dh b).trans ?_
   rw[Y7 b];exact U3 _ _
  ·refine(Ku b).trans ?_
   rw[Y4 b];exact U3 _ _
theorem OP{β:Type}(gi:Yi)(gk:Ya Yl)(l:Ya AW)(d s:Yi)(k1:Yi->Ag->Yb β):(Gb (gi,(gk,(l,(d,s)))) λD2=>Yr D2 (k1 (0:Yi) (gi,(gk,(l,((-1:Yi),s))))) (k1 (0:Yi) (gi,(gk,(l,(d,s))))))=k1 0 (gi,(gk,(l,(bif Yf ((l.length:Yi)=0)then-1 else d,s)))):=by
 refine(uT _ _).trans ?_;show Yr (Yf ((l.length:Yi)=0)) _ _=_;cases Yf ((l.length:Yi)=0)<;>rfl
theorem AkD{α:Type}(a b:Ya α)(x:α):insL (a++b) (Yj (a.length:Yi)) x=a++x::b:=by unfold insL;rw[show Yj (a.length:Yi)=a.length from rfl,Sb,Wh];rfl
theorem ABr{α:Type}(a b:Ya α)(x:α):delL (a++x::b) (Yj (a.length:Yi))=a++b:=by unfold delL;rw[show Yj (a.length:Yi)=a.length from rfl,Sb];congr 1;rw[show a++x::b=(a++[x])++b by simp,show a.length+1=(a++[x]).length by simp,Wh]
theorem ABs{β:Type}(F:TopFacts){R:Ax}{n:Yk}{t:Yi}{g:Ag}(h:GrOk R n t g)(hn:n<=200)(ht:0<=t/\t<=100000){r:AU}(hr:RtOk r){lab:Ya Al}(hl:DL lab)(firing:Ys)(AT:Ag)(k1:Aiq β):Ra k1 lab firing t g r AT=k1 0 (addV r g lab firing t):=by
 have hs:=Rq h hn;have h3:=Md (lt:=Yy) (key:=mkey) (E7 lab) g.2.2.1;have AK:=h.len;have h4:=h.sent;unfold Ra;rw[Aq];unfold rF;refine(uY F (Kd hl) _).trans ?_;refine(ABn hs.1 h.asc _ _).trans ?_;refine(aS hs _).trans ?_;unfold addV addL putK;generalize getK Yy mkey (E7 lab) g.2.2.1=o at*;generalize lowK Yy mkey (E7 lab) g.2.2.1=a at*;generalize DB Yy mkey (E7 lab) g.2.2.1=b at*;obtain⟨gi,gk,gm,g3,g4⟩:=g;obtain rfl:a++(o.toList++b)=gm:=h3;simp only at AK h4;cases o with
 |some m=>
  have hb:0<=(a.length:Yi)/\∀x:AW,(a.length:Yi)<((a++x::b).length:Yi):=⟨by omega,λx=>by simp only[Bd,Be];omega⟩;show Yr Yo _ _=_;refine c_t.trans ?_;refine(B6 ⟨hb.1,hb.2 m⟩).trans ?_;simp only[Option.toList,EE,DT,U4,Rn];refine(B6 ⟨hb.1,hb.2 _⟩).trans ?_;obtain⟨mk,ml,ms,mh,mf,mt⟩:=m;dsimp only[memF,aU];cases mf with
  |true=>
   cases firing with
   |true=>refine c_t.trans ?_;exact OP gi gk _ g3 g4 k1
   |false=>
    refine c_f.trans ?_;refine c_f.trans ?_;cases mt with
    |false=>
     refine c_t.trans ?_
     have He:Yh.wrap ((a.length:Yi)+1)=(a.length:Yi)+1:=by rw[Y2];simp only[Option.toList,Bd,Be,BP]at AK;omega
     refine(c_p3 (by omega) (hb.2 _) (by rw[He])).trans ?_;rw[ABr];exact OP gi gk _ g3 g4 k1
    |true=>refine c_f.trans ?_;refine(AkC hr (gi:=gi) (gk:=gk) (gm:=a++(mk,(ml,(ms,(mh,(Yo,Yo)))))::b) (g3:=g3) ht h4 _).trans ?_;exact OP gi gk _ _ g4 k1
  |false=>
   cases firing with
   |true=>refine c_f.trans ?_;refine c_t.trans ?_;exact OP gi gk _ g3 g4 k1
   |false=>refine c_t.trans ?_;exact OP gi gk _ g3 g4 k1
 |none=>
  show Yr Yc _ _=_;refine c_f.trans ?_;simp only[Option.toList,DT]at AK⊢;cases firing with
  |false=>refine c_f.trans ?_;unfold Ub;rw[Aq];unfold ZS;refine c_f.trans ?_;refine c_f.trans ?_;exact OP gi gk _ g3 g4 k1
  |true=>refine c_t.trans ?_;simp only[Bd]at AK;unfold Ub;rw[Aq];unfold ZS;refine(AJ (by simp only[Bd];omega)).trans ?_;refine c_t.trans ?_;refine(uF _ (BH (Kd hl).len (by decide)) _).trans ?_;refine(c_p3 (by omega) (by simp only[Bd];omega) (by simp only[Bd];omega)).trans ?_;rw[AkD];refine(AkC hr (gi:=gi) (gk:=gk) (gm:=a++b) (g3:=g3) ht h4 _).trans ?_;exact OP gi gk _ _ g4 k1
theorem ABt{β:Type}(F:TopFacts){R:Ax}{n:Yk}{t:Yi}{g:Ag}(h:GrOk R n t g)(hn:n<=200)(ht:0<=t/\t<=100000){r:AU}(hr:RouteOk r){lab:Ya Al}(hl:DL lab)(firing:Ys)(k:Ag->Yi->Yb β):ZT g r lab firing t k=k (addV r g lab firing t) 0:=by
 unfold ZT;rw[Aq];refine(bC F h hn ht.2 _).trans ?_;refine c_f.trans ?_;refine(v6 F hr _).trans ?_;refine c_f.trans ?_;refine(Ro F (Kd hl) _).trans ?_;unfold Uc;rw[Aq];unfold rG;refine c_f.trans ?_;refine(Nx _ _ _ _).trans ?_;rw[CD ht.1,CD (show t<=8589934592 by omega)];refine c_f.trans ?_;exact ABs F h hn ht hr.rt hl firing _ _
end
end Go.Lift
namespace Go.Lift
open Go.RowKit Go.IntWalk
section
variable[Sl]
abbrev silS(e:Yi):CW:=(1,(0,(e,(0,[silM]))))
def Rr(q:Ya CW×Yi):Prop:=q=([],1)\/∃e,200<=e/\e<=700/\q=([silS e],2)
structure StI (R:Ax) (n:Yk) (t:Yi) (s:BE):Prop where
 now:0<=s.1/\s.1<=t
 gs:GsOk R n t s.2.1
 busy:∀g∈s.2.1,HX R g s.1=Yc
 sil:Rr s.2.2
theorem ABu{β:Type}(F:TopFacts)(k:Ys->Yb β):O7 silM k=k Yo:=by unfold O7;rw[Aq];refine(F.key kApp (by decide) _).trans ?_;refine c_t.trans ?_;refine(Bp (by decide)).trans ?_;refine(Bp (by decide)).trans ?_;exact F.value [109,105,110,101] (by decide) _
theorem ABv{β:Type}(F:TopFacts)(k:Ys->Yb β):QW [silM] k=k Yc:=by unfold QW;rw[Aq];unfold pI;rw[Aq];unfold pH;rw[Aq];obtain⟨f,hf⟩:∃f,fuel=f+2:=⟨fuel-2,by unfold fuel;omega⟩;rw[hf,AgA];unfold Zu;refine(Bp (by decide)).trans ?_;refine(B6 (by decide)).trans ?_;unfold o0;rw[Aq];refine(ABu F _).trans ?_;refine c_f.trans ?_;rw[AgA];unfold Zu;exact AJ (by decide)
theorem ABw{β:Type}(F:TopFacts){e:Yi}(he:200<=e/\e<=700)(k:Yi->Yb β):Z3 (silS e) 0 k=k 0:=by unfold Z3;rw[Aq];refine(AJ (by simp)).trans ?_;unfold Z2;rw[Aq];unfold qD;refine(AJ (by simp)).trans ?_;refine(AJ (by simp)).trans ?_;refine(AJ (by show ¬e<=0;omega)).trans ?_;refine(AJ (by show ¬8589934592<e;omega)).trans ?_;unfold QX;rw[Aq];unfold qC;refine(AJ (by simp)).trans ?_;refine(AJ (by simp)).trans ?_;refine(AJ (by simp)).trans ?_;refine(ABv F _).trans ?_;exact c_f
theorem AkE{β:Type}(F:TopFacts){e:Yi}(he:200<=e/\e<=700)(k:Yi->Yb β):OC [silS e] k=k 0:=by unfold OC;rw[Aq];refine(AJ (by simp)).trans ?_;unfold ZA;rw[Aq];obtain⟨f,hf⟩:∃f,fuel=f+2:=⟨fuel-2,by unfold fuel;omega⟩;rw[hf,qN];unfold TX;refine(Bp (by simp)).trans ?_;refine(B6 (by simp)).trans ?_;refine(ABw F he _).trans ?_;refine(Dh rfl).trans ?_;rw[qN];unfold TX;exact AJ (by show ¬(Yh.wrap ((0:Yi)+1)<((1:Yk):Yi));decide)
theorem ABx{β:Type}(k:Yi->Yb β):OC [] k=k 0:=by unfold OC;rw[Aq];refine(AJ (by decide)).trans ?_;unfold ZA;rw[Aq];obtain⟨f,hf⟩:∃f,fuel=f+1:=⟨fuel-1,by unfold fuel;omega⟩;rw[hf,qN];unfold TX;exact AJ (by decide)
theorem AkF{β:Type}(F:TopFacts){R:Ax}(hR:RulesG R){g:Ag}{t:Yi}(h0:0<=g.1/\g.1<(R.1.length:Yi))(s:Ya AW)(hs:s.length<=1000)(hm:∀m∈s,MemOk g.2.1 t m)(k:Ys->Ax->Ag->Yb β):∀(m i:Yk),i<=s.length->s.length-i<m->Uo m (λt4 a b=>k (Yf ((0:Yi)<=t4)) a b) (λa b=>k (Yf ((0:Yi)≤-1)) a b) s (s.length:Yi) (i:Yi) R g=k Yc R g
 |0,i,_,h=>Yw h (C8 _)
 |m+1,i,hi,x4=>by
  rw[Azc];unfold s7;by_cases Ae:i<s.length
  ·refine(Bp (by omega)).trans ?_
   refine(B6 ⟨by omega,by omega⟩).trans ?_;rw[E8 Ae];unfold pT;rw[Aq];refine(B6 h0).trans ?_;have Alw:=hm _ (Ew Ae);refine(Akm F (hR.at h0.1 h0.2).gb (Kd Alw.dl) _).trans ?_;show Yr (!Yf (keyV (s[i]).2.1=g.2.1)) _ _=_;refine(Dh Alw.key).trans ?_;have ih:=AkF F hR h0 s hs hm k m (i+1) (by omega) (by omega);rw[<-C3 (by omega)]at ih;exact ih
  ·exact AJ (by omega)
theorem ABy{β:Type}(F:TopFacts){R:Ax}(hR:RulesG R){g:Ag}{t:Yi}(h0:0<=g.1/\g.1<(R.1.length:Yi))(hs:g.2.2.1.length<=1000)(hm:∀m∈g.2.2.1,MemOk g.2.1 t m)(k:Ys->Ax->Ag->Yb β):Up g.2.2.1 R g k=k Yc R g:=by
 unfold Up;rw[Aq];unfold sA;rw[Aq];unfold s9;rw[Aq];exact AkF F hR h0 g.2.2.1 hs hm k fuel 0 (BD _) (by unfold fuel;omega)
theorem fitG{R:Ax}(hR:RulesG R){n:Yk}{t:Yi}(ht:t<=100000){g:Ag}(h:GrOk R n t g):FitG R g:=by have h1:=h.sent;have h2:=(hR.at h.route.1 h.route.2).rt.i;exact⟨h.route.1,h.route.2,h1.1,by omega,by omega,by omega⟩
theorem AkG{β:Type}(F:TopFacts){R:Ax}(hR:RulesG R){n:Yk}(hn:n<=64){t:Yi}(ht:t<=100000){s:BE}(h:StI R n t s)(k:Ys->Yb β):∀(m i:Yk),i<=s.2.1.length->s.2.1.length-i<m->Uq m (λt4=>k t4) (λ_=>k Yo) s.2.1 (s.2.1.length:Yi) (i:Yi) R s=k Yo
 |0,i,_,h=>Yw h (C8 _)
 |m+1,i,hi,hm=>by
  rw[Azq];unfold sH;have hl:=h.gs.len;by_cases Ae:i<s.2.1.length
  ·refine(Bp (by omega)).trans ?_
   refine(B6 ⟨by omega,by omega⟩).trans ?_;rw[E8 Ae];have Alf:=Ew Ae;have hg:=h.gs.gr _ Alf;refine(bC F hg (by omega) ht _).trans ?_;refine c_f.trans ?_;have hr:=hg.route;refine(AJ (by omega)).trans ?_;refine(uU (fitG hR ht hg) _ _).trans ?_;rw[h.busy _ Alf];refine c_f.trans ?_;have hk:=ABy (β:=β) F hR hg.route (Rq hg (by omega)).1 hg.mem;have ih:=AkG F hR hn ht h k m (i+1) (by omega) (by omega);rw[<-C3 (by omega)]at ih;by_cases h0:(0:Yi)<(i:Yi)
   ·refine(Bp h0).trans ?_
    obtain⟨j,rfl⟩:∃j,i=j+1:=⟨i-1,by omega⟩;have hw:Yh.wrap (((j+1:Yk):Yi)-1)=(j:Yi):=by rw[Y2];omega
    rw[hw];refine(B6 ⟨by omega,by omega⟩).trans ?_;have hj:j<s.2.1.length:=by omega
    rw[E8 hj];have Gt:=(h.gs.gr _ (Ew hj)).route;have ADU:=hR.rts.n;refine(vE ⟨Gt.1,by omega,hr.1,by omega⟩ _ _).trans ?_;have hp:plt (gkey (s.2.1[j])) (gkey (s.2.1[j+1]))=Yo:=d9.mp h.gs.srt j (j+1) hj Ae (by omega);have ho:ordV (s.2.1[j]) (s.2.1[j+1]).1 (s.2.1[j+1]).2.1<0:=AC ((AkB _ _ _).trans hp);refine(AJ (by omega)).trans ?_;refine(hk _).trans ?_;refine c_f.trans ?_;exact ih
   ·refine(AJ h0).trans ?_
    refine(hk _).trans ?_;refine c_f.trans ?_;exact ih
  ·exact AJ (by omega)
theorem vG{β:Type}(F:TopFacts){R:Ax}(hR:RulesG R){n:Yk}(hn:n<=64){t:Yi}(ht:t<=100000){s:BE}(h:StI R n t s)(k:Ys->Yb β):Rb R s k=k Yo:=by
 have h1:=h.now;have hl:=h.gs.len
 have Alu:Ur (λt4=>k t4) R s=k Yo:=by unfold Ur;rw[Aq];unfold sJ sI;rw[Aq];exact AkG F hR hn ht h k fuel 0 (BD _) (by unfold fuel;omega)
 unfold Rb;rw[Aq];refine(ABl F hR _).trans ?_;refine(Dh rfl).trans ?_;refine(AJ (by omega)).trans ?_;refine(AJ (by omega)).trans ?_;refine(AJ (by omega)).trans ?_;obtain⟨now,gs,q⟩:=s;rcases h.sil with hq|⟨e,wF,GD,hq⟩
 ·obtain rfl:q=([],1):=hq
  refine(ABx _).trans ?_;refine(Dh rfl).trans ?_;refine(AJ (by simp)).trans ?_;refine(AJ (by simp)).trans ?_;exact Alu
 ·obtain rfl:q=([silS e],2):=hq
  refine(AkE F ⟨wF,GD⟩ _).trans ?_;refine(Dh rfl).trans ?_;refine(AJ (by show ¬(2:Yi)<1;omega)).trans ?_;refine(Bp (by simp)).trans ?_;refine(B6 (by rw[Y2];simp)).trans ?_;show Yr (Yf ((2:Yi)<=(Yn [silS e] (Yj (Yh.wrap ((Yg [silS e]:Yi)-1))) ((0:Yi),((0:Yi),((0:Yi),((0:Yi),([]:Ya BA)))))).1)) _ _=_;have hw:Yh.wrap ((Yg [silS e]:Yi)-1)=0:=by rw[Y2];simp
  rw[hw];refine(AJ (by show ¬(2:Yi)<=1;decide)).trans ?_;exact Alu
theorem AkH{β:Type}(F:TopFacts){R:Ax}(hR:RulesG R){n:Yk}(hn:n<=64){t:Yi}(ht:0<=t/\t<=100000){i:Yi}(hi:0<=i/\i<(R.1.length:Yi)){lab:Ya Al}(hl:DL lab)(firing:Ys){g:Ag}(hg:GrOk R n t g)(a b:Ya Ag)(k1:Ajf β)(k2:Ajg β)(t45 t46 s s2 t6 E5:Yi)(GK:Ya Yi)(b6:Ya CW)(b7:Ya Ag)(b8:Ya CW):Rf k1 k2 i (a.length:Yi) t45 t46 R s s2 (t,(lab,firing)) t6 E5 GK (a++g::b) b6 b7 b8=k2 t45 t46 R s s2 (t,(lab,firing)) t6 E5 GK (a++addV (FO R i) g lab firing t::b) b6 b7 b8:=by
 have hb:0<=(a.length:Yi)/\(a.length:Yi)<((a++g::b).length:Yi):=⟨by omega,by simp only[Bd,Be];omega⟩;unfold Rf;rw[Aq];unfold sU;refine(B6 hb).trans ?_;refine(B6 hi).trans ?_;rw[U4];refine(ABt F hg (by omega) ht (hR.at hi.1 hi.2) hl firing _).trans ?_;refine(Dh rfl).trans ?_;refine(B6 hb).trans ?_;rw[Rn]
theorem ABz{β:Type}(F:TopFacts){R:Ax}(hR:RulesG R){n:Yk}(hn:n<=64){t:Yi}(ht:0<=t/\t<=100000){i:Yi}(hi:0<=i/\i<(R.1.length:Yi)){lab:Ya Al}(hl:DL lab)(firing:Ys){gs:Ya Ag}(h:GsOk R n t gs)(rec:aI β)(k1:Aji β)(t45 t46 s s2 t6 E5:Yi)(GK:Ya Yi)(b6:Ya CW)(b7:Ya Ag)(b8:Ya CW):(TU gs i (keyV lab) λrfind rfind2=>Yr (!rfind2) (Yr (!firing) (rec t45 (Yh.wrap (t46+(1:Yi))) R s s2 (t,(lab,firing)) t6 E5 GK gs b6 b7 b8) (OJ k1 (λJF I7 Bz s3 s4 a2 FG FH JE Jv Jw Jy Jz=>rec JF (Yh.wrap (I7+(1:Yi))) Bz s3 s4 a2 FG FH JE Jv Jw Jy Jz) i (keyV lab) rfind rfind2 t45 t46 R s s2 (t,(lab,firing)) t6 E5 GK gs b6 b7 b8)) (OJ k1 (λJF I7 Bz s3 s4 a2 FG FH JE Jv Jw Jy Jz=>rec JF (Yh.wrap (I7+(1:Yi))) Bz s3 s4 a2 FG FH JE Jv Jw Jy Jz) i (keyV lab) rfind rfind2 t45 t46 R s s2 (t,(lab,firing)) t6 E5 GK gs b6 b7 b8))=rec t45 (Yh.wrap (t46+(1:Yi))) R s s2 (t,(lab,firing)) t6 E5 GK (oneV R lab firing t gs i) b6 b7 b8:=by
 have F8:=h.len;have ADU:=hR.rts.n;refine(ABp (by omega) h.srt ⟨hi.1,by omega⟩ (λg hg=>by have:=(h.gr g hg).route;omega) _ _).trans ?_;have h3:=Md (lt:=plt) (key:=gkey) (i,keyV lab) gs;unfold oneV putK;cases ho:getK plt gkey (i,keyV lab) gs with
 |some g=>rw[ho]at h3;refine c_f.trans ?_;unfold OJ;rw[Aq];unfold aK;refine c_f.trans ?_;have hg:=h.gr g (Me ho);have e:=AkH F hR hn ht hi hl firing hg (lowK plt gkey (i,keyV lab) gs) (DB plt gkey (i,keyV lab) gs) (λt7 FG FH b1 b2=>k1 t7 FG FH b1 b2) (λJF I7 Bz s3 s4 a2 FG FH JE Jv Jw Jy Jz=>rec JF (Yh.wrap (I7+1)) Bz s3 s4 a2 FG FH JE Jv Jw Jy Jz) t45 t46 s s2 t6 E5 GK b6 b7 b8;rw[show lowK plt gkey (i,keyV lab) gs++g::DB plt gkey (i,keyV lab) gs=gs from h3]at e;exact e
 |none=>
  rw[ho]at h3;refine c_t.trans ?_;cases firing with
  |false=>refine c_t.trans ?_;show rec _ _ _ _ _ _ _ _ _ gs _ _ _=rec _ _ _ _ _ _ _ _ _ (lowK plt gkey (i,keyV lab) gs++([]++DB plt gkey (i,keyV lab) gs)) _ _ _;rw[show lowK plt gkey (i,keyV lab) gs++([]++DB plt gkey (i,keyV lab) gs)=gs from h3]
  |true=>
   refine c_f.trans ?_;unfold OJ;rw[Aq];unfold aK;refine c_t.trans ?_;refine(AB3 _ _ _).trans ?_;have AGz:=vC (lt:=plt) (key:=gkey) (k:=(i,keyV lab)) (l:=gs);refine(c_p3 (by omega) (by omega) (by omega)).trans ?_
   have e:insL gs (Yj ((lowK plt gkey (i,keyV lab) gs).length:Yi)) (i,(keyV lab,(([]:Ya AW),((-1:Yi),(-1:Yi)))))=lowK plt gkey (i,keyV lab) gs++newG i (keyV lab)::DB plt gkey (i,keyV lab) gs:=by have e0:gs=lowK plt gkey (i,keyV lab) gs++DB plt gkey (i,keyV lab) gs:=h3.symm;have:=AkD (lowK plt gkey (i,keyV lab) gs) (DB plt gkey (i,keyV lab) gs) (newG i (keyV lab));rw[<-e0]at this;exact this
   show Rf _ _ _ _ _ _ _ _ _ _ _ _ _ (insL gs (Yj ((lowK plt gkey (i,keyV lab) gs).length:Yi)) (i,(keyV lab,(([]:Ya AW),((-1:Yi),(-1:Yi)))))) _ _ _=_;rw[e];exact AkH F hR hn ht hi hl Yo ((AjI (R:=R) (t:=t) (key:=keyV lab) hi.1 hi.2 ht.1).later (BD n) (Ey _)) _ _ _ _ _ _ _ _ _ _ _ _ _ _
theorem AkI{β:Type}(F:TopFacts){R:Ax}(hR:RulesG R){t:Yi}(ht:0<=t/\t<=100000){lab:Ya Al}(hl:DL lab)(firing:Ys)(fr:Ya Yi)(Ki:fr.length<=3)(GE:∀i∈fr,0<=i/\i<(R.1.length:Yi))(k1:sS β)(k2:sT β)(s s2 t6 E5:Yi)(b6:Ya CW)(b7:Ya Ag)(b8:Ya CW):∀(m j n:Yk)(gs:Ya Ag),GsOk R n t gs->n+(fr.length-j)<=64->j<=fr.length->fr.length-j<m->Rg m k1 k2 (fr.length:Yi) (j:Yi) R s s2 (t,(lab,firing)) t6 E5 fr gs b6 b7 b8=k2 R s s2 t6 E5 ((fr.drop j).foldl (oneV R lab firing t) gs) b6 b7 b8
 |0,j,_,_,_,_,_,h=>Yw h (C8 _)
 |m+1,j,n,gs,h,hn,hj,hm=>by
  rw[AzT];unfold sV;by_cases Ae:j<fr.length
  ·have hi:=GE _ (Ew Ae)
   refine(Bp (by omega)).trans ?_;refine(B6 ⟨by omega,by omega⟩).trans ?_;rw[E8 Ae,JH Ae,Sa];generalize fr[j]=i at*;refine(B6 hi).trans ?_;refine(Akm F (hR.at hi.1 hi.2).gb (Kd hl) _).trans ?_;refine(ABz F hR (by omega) ht hi hl firing h (Rg m k1 k2) k1 (fr.length:Yi) (j:Yi) s s2 t6 E5 fr b6 b7 b8).trans ?_;rw[C3 (by omega)];exact AkI F hR ht hl firing fr Ki GE k1 k2 s s2 t6 E5 b6 b7 b8 m (j+1) (n+1) _ (aW hR.ok ht hi hl firing h) (by omega) (by omega) (by omega)
  ·rw[GM (by omega)]
   exact AJ (by omega)
theorem StI.small{R:Ax}{n:Yk}{t:Yi}{s:BE}(h:StI R n t s)(hn:n<=64):AjG s:=by
 have hl:=h.gs.len;refine⟨by omega,λg hg=>Rq (h.gs.gr g hg) (by omega),?_⟩;rcases h.sil with hq|⟨e,_,_,hq⟩<;>rw[hq]
 ·exact⟨by simp,λm hm=>Yw hm (by simp)⟩
 ·exact⟨by simp,λm hm=>by rw[DS.mp hm];simp⟩
theorem vH{β:Type}(F:TopFacts){R:Ax}(hR:RulesG R){n:Yk}(hn:n+3<=64){t:Yi}(ht:0<=t/\t<=100000){s:BE}(h:StI R n t s){lab:Ya Al}(hl:DL lab)(firing:Ys){fr:Ya Yi}(hg:OO R.1.length fr)(GE:∀{γ:Type}(k:Ya Yi->Yb γ),Um R.1 lab k=k fr)(k:BE->Yi->Yb β):Uu R s (t,(lab,firing)) k=k (t,(Hs R fr lab firing t s.2.1,s.2.2)) 0:=by
 obtain⟨g1,g2,g3,g4⟩:=hg;have Jb:=uM hR.ok ht hl firing fr g4 h.gs;unfold Uu;rw[Aq];refine(vG F hR (by omega) ht.2 h _).trans ?_;refine c_f.trans ?_;refine(Ro F (Kd hl) _).trans ?_;refine c_f.trans ?_;refine(Ak9 h.now.2 (by show t<=_;omega) _).trans ?_;refine(Dh rfl).trans ?_;refine(uI (h.small (by omega)) _).trans ?_;refine(GE _).trans ?_;unfold sW;rw[Aq];refine(AkI F hR ht hl firing fr g3 g4 _ _ _ _ _ _ _ _ _ fuel 0 n s.2.1 h.gs (by omega) (BD _) (by unfold fuel;omega)).trans ?_;rw[PK];refine(aR (p:=λg=>HX R g t) λg hg k=>uU (fitG hR ht.2 (Jb.gr g hg)) t k).trans ?_;have AK:=((Jb.filter λg=>!HX R g t).len);refine(AJ (by omega)).trans ?_;rfl
end
end Go.Lift
namespace Go.Lift
open Go.RowKit Go.IntWalk
section
variable[Sl]
def AllS(all:Ya (Ya Yl×Ya Al)):Prop:=∀p∈all,p.2.length<=1000
theorem AkJ{k:Ya Yl}{v:Ya Al}:∀{l:Ya (Ya Yl×Ya Al)}{p:Ya Yl×Ya Al},p∈mPut .str l k v->p∈l\/p=(k,v)
 |[],p,h=>.inr (DS.mp h)
 |y::l,p,h=>by
  have h':p∈(bif Hk .str y.1 k then(k,v)::l else y::mPut .str l k v):=h;cases hk:Hk .str y.1 k with
  |true=>
   rw[hk]at h';rcases Bg.mp h' with rfl|h'
   ·exact .inr rfl
   ·exact .inl (by simp[h'])
  |false=>
   rw[hk]at h';rcases Bg.mp h' with rfl|h'
   ·exact .inl (by simp)
   ·exact(AkJ h').imp (λh=>by simp[h]) id
theorem AkK{k:Ya Yl}:∀{l:Ya (Ya Yl×Ya Al)},AllS l->(mGet .str l k ([]:Ya Al)).length<=1000
 |[],_=>by show([]:Ya Al).length<=1000;simp
 |y::l,h=>by
  show(bif Hk .str y.1 k then y.2 else mGet .str l k ([]:Ya Al)).length<=1000;cases Hk .str y.1 k with
  |true=>exact h y (by simp)
  |false=>exact AkK λp hp=>h p (by simp[hp])
theorem vI{β:Type}{X:Yb β}(k1:nH β)(Dm:Ya Ag)(Gh Gx:Yi)(mem:Ya AW)(Co:mem.length<=1000)(hl:∀m∈mem,m.2.1.length<=1000)(N:Yk)(hN:N<=1000000)(hk:∀all keys,AllS all->keys.length<=N->k1 Dm Gh Gx all keys=X):∀(m j:Yk)(all:Ya (Ya Yl×Ya Al))(keys:Ya (Ya Yl)),AllS all->keys.length+(mem.length-j)<=N->j<=mem.length->mem.length-j<m->QP m k1 Dm Gh Gx mem (mem.length:Yi) (j:Yi) all keys=X
 |0,j,_,_,_,_,_,h=>Yw h (C8 _)
 |m+1,j,all,keys,ha,KL,hj,hm=>by
  rw[Aut];unfold nL;by_cases Ae:j<mem.length
  ·refine(Bp (by omega)).trans ?_
   refine(B6 ⟨by omega,by omega⟩).trans ?_;rw[E8 Ae];have wX:=hl _ (Ew Ae);generalize mem[j]=e at*;have H0:=vI k1 Dm Gh Gx mem Co hl N hN hk m (j+1) all keys ha (by omega) (by omega) (by omega);rw[<-C3 (by omega)]at H0
   have AlZ:=vI k1 Dm Gh Gx mem Co hl N hN hk m (j+1) (mPut .str all e.1 e.2.1) (keys++[e.1]) (λp hp=>by
    rcases AkJ hp with hp|rfl
    ·exact ha p hp
    ·exact wX) (by simp only[Bd,Be,BP];omega) (by omega) (by omega)
   rw[<-C3 (by omega)]at AlZ
   have h1:∀(b:Ys),TA (λP8 Ig t182 t232 MD VN all2 keys2=>QP m k1 P8 Ig t182 t232 MD (Yh.wrap (VN+(1:Yi))) all2 keys2) Dm Gh Gx mem (mem.length:Yi) (j:Yi) b all keys e=X:=λb=>by
    unfold TA;rw[Aq];unfold nK;cases b with
    |true=>refine c_t.trans ?_;refine(GT (by simp only[Be,BP];omega)).trans ?_;exact AlZ
    |false=>exact H0
   show Yr e.2.2.2.2.1 _ _=X;cases e.2.2.2.2.1 with
   |true=>exact h1 _
   |false=>exact h1 _
  ·refine(AJ (by omega)).trans ?_
   exact hk all keys ha (by omega)
theorem AkL{β:Type}{X:Yb β}(k1:nC β)(gs:Ya Ag)(Jb:gs.length<=100)(hg:∀g∈gs,Mo g)(hk:∀all keys,AllS all->keys.length<=1000000->k1 all keys=X):∀(m j:Yk)(all:Ya (Ya Yl×Ya Al))(keys:Ya (Ya Yl)),AllS all->keys.length<=j*1000->j<=gs.length->gs.length-j<m->TB m k1 gs (gs.length:Yi) (j:Yi) all keys=X
 |0,j,_,_,_,_,_,h=>Yw h (C8 _)
 |m+1,j,all,keys,ha,KL,hj,hm=>by
  rw[Auv];unfold nN;by_cases Ae:j<gs.length
  ·refine(Bp (by omega)).trans ?_
   refine(B6 ⟨by omega,by omega⟩).trans ?_;rw[E8 Ae];obtain⟨h1,h2⟩:=hg _ (Ew Ae);unfold nM;rw[Aq];refine vI _ gs _ _ (gs[j]).2.2.1 h1 h2 ((j+1)*1000) (by omega) (λAD1 AES bJ Er=>?_) fuel 0 all keys ha (by omega) (BD _) (by unfold fuel;omega);have ih:=AkL k1 gs Jb hg hk m (j+1) AD1 AES bJ Er (by omega) (by omega);rw[<-C3 (by omega)]at ih;exact ih
  ·refine(AJ (by omega)).trans ?_
   exact hk all keys ha (by omega)
theorem AkM{β:Type}{X:Yb β}(k1:nF β)(keys:Ya (Ya Yl))(hn:keys.length<=1000000)(all:Ya (Ya Yl×Ya Al))(ha:AllS all)(hk:∀out,k1 out=X):∀(m j:Yk)(out:Ya (Ya Al)),out.length<=j->j<=keys.length->keys.length-j<m->TC m k1 (keys.length:Yi) (j:Yi) all out keys=X
 |0,j,_,_,_,h=>Yw h (C8 _)
 |m+1,j,out,ho,hj,hm=>by
  rw[Aux];unfold nQ;by_cases Ae:j<keys.length
  ·refine(Bp (by omega)).trans ?_
   refine(B6 ⟨by omega,by omega⟩).trans ?_;have hg:=AkK (k:=Yn keys (Yj (j:Yi)) ([]:Ya Yl)) ha;refine(uF _ (BH hg (by decide)) _).trans ?_;refine(GT (by simp only[Be,BP];omega)).trans ?_;have ih:=AkM k1 keys hn all ha hk m (j+1) (out++[mGet .str all (Yn keys (Yj (j:Yi)) ([]:Ya Yl)) ([]:Ya Al)]) (by simp only[Bd,Be,BP];omega) (by omega) (by omega);rw[<-C3 (by omega)]at ih;exact ih
  ·refine(AJ (by omega)).trans ?_
   exact hk out
theorem ABA(l:Ya (Ya Yl)):(Kv l).length=l.length:=by unfold Kv;simp
theorem ABB{β:Type}{s:BE}(hl:s.2.1.length<=100)(hg:∀g∈s.2.1,Mo g)(X:Yb β):Zd s (λ_=>X)=X:=by unfold Zd;rw[Aq];unfold nO;rw[Aq];refine AkL _ s.2.1 hl hg (λall keys ha hk=>?_) fuel 0 [] [] (λp hp=>Yw hp (by simp)) (by simp) (BD _) (by unfold fuel;omega);refine(Bp (by omega)).trans ?_;unfold nR;rw[Aq];have hs:=ABA keys;exact AkM _ (Kv keys) (by omega) all ha (λ_=>rfl) fuel 0 [] (BD _) (BD _) (by unfold fuel;omega)
def muV(q:Ya CW)(t:Yi):Ya Al->Ys:=match q with
 |[]=>λ_=>Yc
 |s::_=>λl=>decide (t<s.2.2.1)&&Yf (getV l kApp=[109,105,110,101])
theorem ABC{β:Type}(l:Ya Al)(k:Ys->Yb β):Uh [] l k=k Yc:=by unfold Uh;rw[Aq];unfold rS;rw[Aq];obtain⟨f,hf⟩:∃f,fuel=f+1:=⟨fuel-1,by unfold fuel;omega⟩;rw[hf,AyN];unfold rR;exact AJ (by decide)
theorem ABD{β:Type}{q:Ya CW×Yi}(hq:Rr q){l:Ya Al}(hl:l.length<=4){t:Yi}(ht:0<=t)(k:Ys->Yb β):ZV q.1 l t (λ_ b=>k b)=k (muV q.1 t l):=by
 obtain⟨f,hf⟩:∃f,fuel=f+2:=⟨fuel-2,by unfold fuel;omega⟩;unfold ZV;rw[Aq];unfold rP;rw[Aq,hf];rcases hq with rfl|⟨e,_,_,rfl⟩
 ·rw[rO]
  unfold Uf;exact AJ (by simp)
 ·have UL:∀id ok,Ug (f+1) (λid ok=>k ok) l t id ok [silS e] (Yg [silS e]:Yi) (Yh.wrap (0+1))=k ok:=λid ok=>by rw[rO];unfold Uf;exact AJ (by show ¬(Yh.wrap ((0:Yi)+1)<((1:Yk):Yi));decide)
  rw[rO];unfold Uf;refine(Bp (by simp)).trans ?_;refine(B6 (by simp)).trans ?_;refine(Bp ht).trans ?_;show Yr (Yf (t<e)) _ _=k (Yf (t<e)&&Yf (getV l kApp=[109,105,110,101]));cases Yf (t<e)with
  |false=>exact UL 0 Yc
  |true=>
   refine c_t.trans ?_;refine(ABg hl _).trans ?_;show Yr (Yf (getV l kApp=[109,105,110,101])) _ _=k (Yo&&Yf (getV l kApp=[109,105,110,101]));cases Yf (getV l kApp=[109,105,110,101])with
   |false=>exact UL 0 Yc
   |true=>exact UL 1 Yo
theorem ABE{β:Type}{R:Ax}(hR:RulesG R){q:Ya CW×Yi}(hq:Rr q){l:Ya Al}(hl:l.length<=4){t:Yi}(ht:0<=t)(k:Ys->Yb β):aA R.2.1 q.1 l t k=k (muV q.1 t l):=by
 unfold aA;rw[Aq];refine(ABD hq hl ht (λb=>Yr b (k Yo) (Uh R.2.1 l λyI=>k yI))).trans ?_;rw[hR.inh];show Yr (muV q.1 t l) _ _=_;cases muV q.1 t l with
 |true=>rfl
 |false=>exact ABC l _
theorem AkN{β:Type}{R:Ax}(hR:RulesG R){s:BE}(hq:Rr s.2.2)(ht:0<=s.1)(mem:Ya AW)(Co:mem.length<=1000)(hl:∀m∈mem,m.2.1.length<=4)(k:Ya (Ya Yl)->Yb β):∀(m j:Yk),j<=mem.length->mem.length-j<m->Un m (λout=>k out) mem (mem.length:Yi) (j:Yi) R s (((mem.take j).filter λm=>muV s.2.2.1 s.1 m.2.1).map mkey)=k ((mem.filter λm=>muV s.2.2.1 s.1 m.2.1).map mkey)
 |0,j,_,h=>Yw h (C8 _)
 |m+1,j,hj,hm=>by
  rw[Az8];unfold rY;by_cases Ae:j<mem.length
  ·refine(Bp (by omega)).trans ?_
   refine(B6 ⟨by omega,by omega⟩).trans ?_;rw[E8 Ae];refine(ABE hR hq (hl _ (Ew Ae)) ht _).trans ?_;have ih:=AkN hR hq ht mem Co hl k m (j+1) (by omega) (by omega);rw[<-C3 (by omega),d8 Ae,LI,LK]at ih
   have AK:(((mem.take j).filter λm=>muV s.2.2.1 s.1 m.2.1).map mkey).length<=1000:=by rw[Fc];exact BH (MH _ _) (by rw[CJ];omega)
   show Yr (muV s.2.2.1 s.1 (mem[j]).2.1) _ _=_;cases hc:muV s.2.2.1 s.1 (mem[j]).2.1 with
   |true=>
    refine c_t.trans ?_;refine(GT (by simp only[Be,BP];omega)).trans ?_;have e:([mem[j]].filter λm=>muV s.2.2.1 s.1 m.2.1)=[mem[j]]:=by simp[hc]
    rw[e]at ih;exact ih
   |false=>
    refine c_f.trans ?_;have e:([mem[j]].filter λm=>muV s.2.2.1 s.1 m.2.1)=[]:=by simp[hc]
    rw[e,Il,Gj]at ih;exact ih
  ·have Ha:j=mem.length:=by omega
   subst Ha;rw[Wa];exact AJ (by omega)
theorem ABF{β:Type}{R:Ax}(hR:RulesG R){s:BE}(hq:Rr s.2.2)(ht:0<=s.1){g:Ag}(Co:g.2.2.1.length<=1000)(hl:∀m∈g.2.2.1,m.2.1.length<=4)(k:Ya (Ya Yl)->Yb β):aB R s g k=k (Fk (muV s.2.2.1 s.1) g):=by
 unfold aB;rw[Aq];unfold rZ;rw[Aq];exact AkN hR hq ht g.2.2.1 Co hl k fuel 0 (BD _) (by unfold fuel;omega)
theorem fitR{r:AU}(h:RtOk r):FitR r:=by obtain⟨⟨w1,w2⟩,⟨i1,i2⟩,wi,r1,r2⟩:=h;exact⟨by omega,by omega,by omega,by omega⟩
theorem AkO{β:Type}(F:TopFacts){R:Ax}(hR:RulesG R){n:Yk}(hn:n<=64){t:Yi}(ht:0<=t/\t<=100000){gs:Ya Ag}(h:GsOk R n t gs)(k1:sY β)(s s2:Yi)(t6:BE)(b4:Ya CW):∀(m j:Yk),j<=gs.length->gs.length-j<m->Uv m k1 t (gs.length:Yi) (j:Yi) R s s2 t6 gs b4=k1 t R s s2 t6 gs b4
 |0,j,_,h=>Yw h (C8 _)
 |m+1,j,hj,hm=>by
  have hl:=h.len;rw[AzX];unfold tC;by_cases Ae:j<gs.length
  ·refine(Bp (by omega)).trans ?_
   have hb:0<=(j:Yi)/\(j:Yi)<(gs.length:Yi):=⟨by omega,by omega⟩;refine(B6 hb).trans ?_;have hg:=h.gr _ (Ew Ae);have e1:∀d,Yn gs (Yj (j:Yi)) d=gs[j]:=λd=>E8 Ae;simp only[e1];refine(B6 hg.route).trans ?_;rw[hR.exp];refine(AB8 ⟨ht.1,by omega⟩ (Rq hg (by omega)) (λk=>bC F hg (by omega) ht.2 k) (λk=>v6 F (hR.at hg.route.1 hg.route.2) k) _).trans ?_;refine(B6 hb).trans ?_
   have e2:List.set gs (Yj (j:Yi)) gs[j]=gs:=by show gs.set j gs[j]=gs;exact List.set_getElem_self Ae
   rw[e2];have ih:=AkO F hR hn ht h k1 s s2 t6 b4 m (j+1) (by omega) (by omega);rw[<-C3 (by omega)]at ih;exact ih
  ·exact AJ (by omega)
theorem vJ{β:Type}(F:TopFacts){R:Ax}(hR:RulesG R){n:Yk}(hn:n<=64){t:Yi}(ht:0<=t/\t<=100000){q:Ya CW×Yi}(hq:Rr q)(k1:tA β)(t6:BE):∀(b a:Ya Ag)(out:Ya Cg)(m:Yk),(∀g∈b,GrOk R n t g)->a.length+b.length<=64->out.length<=a.length->b.length<m->Uw m k1 t ((a.length+b.length:Yk):Yi) (a.length:Yi) R t q.2 t6 out (a++b) q.1=k1 R t q.2 t6 (out++E1 R (muV q.1 t) t b) (a++b.map λg=>(seeV R (muV q.1 t) t g).1) q.1
 |b,a,out,0,_,_,_,h=>Yw h (C8 _)
 |[],a,out,m+1,h,Dj,ho,hm=>by rw[Ajm];unfold aL;have e:E1 R (muV q.1 t) t []=[]:=rfl;rw[e,Gj];exact(AJ (by simp only[BP];omega)).trans (by simp only[Il,Gj])
 |g::b,a,out,m+1,h,Dj,ho,hm=>by
  rw[Ajm];unfold aL;simp only[Be]at Dj hm
  have Ci:0<=(a.length:Yi)/\(a.length:Yi)<((a++g::b).length:Yi):=by
   constructor
   ·omega
   ·simp only[Bd,Be];omega
  refine(Bp (by simp only[Be];omega)).trans ?_;refine(B6 Ci).trans ?_;simp only[U4];have hg:=h g (by simp);refine(B6 hg.route).trans ?_;have Px:=Rq hg (show n<=200 by omega);refine(ABF (s:=(t,(a++g::b,(q.1,q.2)))) hR hq ht.1 Px.1 (λm hm=>(Kd (hg.mem m hm).dl).len) _).trans ?_
  have Gd:(Fk (muV q.1 t) g).length<=1000:=by unfold Fk;rw[Fc];exact BH (MH _ _) Px.1
  have hr:=hR.at hg.route.1 hg.route.2;have cF:=hg.sent;refine(AB7 ⟨ht.1,by omega⟩ Gd Px ⟨cF.1,by omega⟩ (fitR hr.rt) (λk=>bC F hg (by omega) ht.2 k) (λk=>v6 F hr k) _).trans ?_;refine(B6 Ci).trans ?_;have es:Ez (Yn R.1 (Yj g.1) jO) g t (Fk (muV q.1 t) g)=seeV R (muV q.1 t) t g:=rfl;rw[Rn];show Yr (seeV R (muV q.1 t) t g).2.2 _ _=_;have eN:E1 R (muV q.1 t) t (g::b)=(bif (seeV R (muV q.1 t) t g).2.2 then [(seeV R (muV q.1 t) t g).2.1]else [])++E1 R (muV q.1 t) t b:=rfl;rw[eN]
  have hw:((a.length+(b.length+1):Yk):Yi)=(((a++[(seeV R (muV q.1 t) t g).1]).length+b.length:Yk):Yi):=by simp only[Bd,Be,BP];omega
  have He:Yh.wrap ((a.length:Yi)+1)=((a++[(seeV R (muV q.1 t) t g).1]).length:Yi):=by rw[C3 (by omega)];simp only[Bd,Be,BP]
  cases hc:(seeV R (muV q.1 t) t g).2.2 with
  |true=>refine c_t.trans ?_;refine(GT (by simp only[Be,BP];omega)).trans ?_;have ih:=vJ F hR hn ht hq k1 t6 b (a++[(seeV R (muV q.1 t) t g).1]) (out++[(seeV R (muV q.1 t) t g).2.1]) m (λg hg=>h g (by simp[hg])) (by simp only[Bd,Be,BP];omega) (by simp only[Bd,Be,BP];omega) (by omega);rw[<-hw,<-He]at ih;simp only[C1,EE,DT]at ih;simp only[Ao,EE,DT,CP];exact ih
  |false=>refine c_f.trans ?_;have ih:=vJ F hR hn ht hq k1 t6 b (a++[(seeV R (muV q.1 t) t g).1]) out m (λg hg=>h g (by simp[hg])) (by simp only[Bd,Be,BP];omega) (by simp only[Bd,Be,BP];omega) (by omega);rw[<-hw,<-He]at ih;simp only[C1,EE,DT]at ih;simp only[BU,DT,CP];exact ih
theorem vK{β:Type}(F:TopFacts){R:Ax}(hR:RulesG R){n:Yk}(hn:n<=64){t:Yi}(ht:0<=t/\t<=100000){s:BE}(h:StI R n t s)(k:BE->Yi->Ya Cg->Yb β):OM R s t k=k (t,(Iw R (muV s.2.2.1 t) t s.2.1,s.2.2)) 0 (E1 R (muV s.2.2.1 t) t s.2.1):=by
 have hl:=h.gs.len;unfold OM;rw[Aq];refine(vG F hR hn ht.2 h _).trans ?_;refine c_f.trans ?_;refine(Ak9 h.now.2 (by omega) _).trans ?_;refine(Dh rfl).trans ?_;unfold tF;rw[Aq];refine(uI (h.small hn) _).trans ?_;unfold tD;rw[Aq];refine(AkO F hR hn ht h.gs _ _ _ _ _ fuel 0 (BD _) (by unfold fuel;omega)).trans ?_;refine(ABB (s:=(t,(s.2.1,(s.2.2.1,s.2.2.2)))) (show s.2.1.length<=100 by omega) (λg hg=>Rq (h.gs.gr g hg) (by omega)) _).trans ?_;unfold tE;rw[Aq];have h2:=vJ (β:=β) F hR hn ht h.sil (λGg s4 s5 E5 out vR Ce=>Ln (λ(xk:Ag) kk=>Nq Gg xk s4 kk) vR (λlk=>(λrtick yB=>k rtick 0 yB) (s4,(lk,(Ce,s5))) out)) JT s.2.1 [] [] fuel h.gs.gr (by simp only[BP];omega) (Aw _) (by unfold fuel;omega);simp only[BP,CQ,DT]at h2;refine h2.trans ?_;have AEs:=AjP hR.ok ht (muV s.2.2.1 t) h.gs;refine(aR (p:=λg=>HX R g t) λg hg k=>uU (fitG hR ht.2 (AEs.gr g hg)) t k).trans ?_;rfl
end
end Go.Lift
namespace Go.Lift
open Go.RowKit Go.IntWalk
noncomputable section
variable[Sl]
abbrev Dice:=Ya Yi×Yi
def Dt(d:Dice):Prop:=0<=d.2/\d.2<=d.1.length/\d.1.length<=500
theorem ABG{β:Type}(l:Ya Yi)(k:Ys->Yb β):X1 l k=k (Yf ((l.length:Yi)<=500)):=by simp only[X1,Aq]
theorem ABH{β:Type}(l:Ya Yi)(k:Dice->Yb β):X2 l k=k (l,0):=by simp only[X2,Aq]
theorem ABI{l:Ya Yi}(h:(l.length:Yi)<=500):Dt (l,0):=⟨by simp,by simp,by show l.length<=500;omega⟩
theorem ABJ{n:Yi}{d:Dice}(hd:Dt d)(hn:1<=n/\n<=4611686018427387904):∃x d',0<=x/\x<n/\Dt d'/\∀{β:Type}(k:Yi->Dice->Yb β),Hr n d k=k x d':=by
 obtain⟨h1,h2,h3⟩:=hd;by_cases ha:(d.1.length:Yi)<=d.2
 ·exact⟨0,d,by omega,by omega,⟨h1,h2,h3⟩,λk=>by simp(disch:=omega) only[Hr,Aq,Bp]⟩
 ·generalize hv:Yn d.1 (Yj d.2) (0:Yi)=v
  have x3:=RQ v (show 0<n by omega)
  have Vd:-n<YQ v n:=by have h5:=RQ (-v) (show 0<n by omega);rw[Int.neg_tmod]at h5;omega
  have BX:Dt (d.1,d.2+1):=⟨by show(0:Yi)<=d.2+1;omega,by show d.2+1<=(d.1.length:Yi);omega,h3⟩;by_cases hc:YQ v n<0
  ·refine⟨YQ v n+n,(d.1,d.2+1),by omega,by omega,BX,λk=>?_⟩
   simp(disch:=omega) only[Hr,Aq,hv,Bp,AJ,B6,Ku,i64_in]
  ·refine⟨YQ v n,(d.1,d.2+1),by omega,by omega,BX,λk=>?_⟩
   simp(disch:=omega) only[Hr,Aq,hv,Bp,AJ,B6,Ku,i64_in]
end
end Go.Lift
namespace Go.Lift
open Go.RowKit Go.IntWalk
noncomputable section
variable[Sl]
section
variable{β:Type}{G:Yb β->Prop}
theorem w_e{A B:Yb β}(e:A=B)(h:G B):G A:=e▸h
theorem w_c{b:Ys}{A B:Yb β}(h1:b=Yo->G A)(h2:b=Yc->G B):G (Yr b A B):=match b,h1,h2 with|true,h,_=>h rfl|false,_,h=>h rfl
theorem w_d{p:Prop}[Yap p]{A B:Yb β}(h1:p->G A)(h2:¬p->G B):G (Yr (decide p) A B):=w_c (λh=>h1 (AC h)) (λh=>h2 (MI h))
theorem w_i{i n:Yi}{A B:Yb β}(h:0<=i/\i<n)(h1:G A):G (Yr (Yf (0<=i)&&Yf (i<n)) A B):=w_e (B6 h) h1
theorem w_r{n:Yk}{A B:Yb β}(h:n<=140737488355328)(h1:G A):G (Yr (Yf (n<=Cn)) A B):=w_e (GT h) h1
theorem w_p{p:Prop}[Yap p]{A B:Yb β}(h:p)(h1:G A):G (Yr (decide p) A B):=w_e (Bp h) h1
theorem w_n{p:Prop}[Yap p]{A B:Yb β}(h:¬p)(h1:G B):G (Yr (decide p) A B):=w_e (AJ h) h1
theorem KA{n:Yi}{d:Dice}{k:Yi->Dice->Yb β}(hd:Dt d)(hn:1<=n/\n<=4611686018427387904)(hk:∀x d',0<=x->x<n->Dt d'->G (k x d')):G (Hr n d k):=by obtain⟨x,d',h1,h2,h3,h4⟩:=ABJ hd hn;exact w_e (h4 k) (hk x d' h1 h2 h3)
theorem bD{α:Type}{l:Ya α}{i:Yi}{d:α}(h:0<=i/\i<l.length):Yn l (Yj i) d∈l:=by
 have:i.toNat<l.length:=by omega
 show(l[i.toNat]?).getD d∈l;rw[C0 this];exact Ew this
theorem bE{l:Ya Yi}{d:Dice}{k:Yi->Dice->Yb β}(hd:Dt d)(hl:0<l.length/\l.length<=1000000)(hk:∀x d',x∈l->Dt d'->G (k x d')):G (O8 l d k):=by unfold O8;rw[Aq];refine KA hd ⟨by omega,by omega⟩ λx d' h1 h2 h3=>?_;refine w_i ⟨h1,h2⟩ ?_;exact hk _ _ (bD ⟨h1,h2⟩) h3
theorem vL{n:Yi}{d:Dice}{k:Ys->Dice->Yb β}(hd:Dt d)(hn:1<=n/\n<=1000)(hk:∀b d',Dt d'->G (k b d')):G (Q8 n d k):=by unfold Q8;rw[Aq];exact KA hd ⟨by omega,by omega⟩ λx d' h1 h2 h3=>hk _ _ h3
end
end
end Go.Lift
namespace Go.Lift
open Go.RowKit Go.IntWalk
section
variable[Sl]
theorem ABK{R:Ax}{n:Yk}{t:Yi}:GsOk R n t []:=⟨λg hg=>Yw hg (by simp),Ya5,BD _⟩
theorem ABL{β:Type}(F:TopFacts){R:Ax}(hR:RulesG R){e:Yi}(he:200<=e/\e<=700)(k:BE->Yi->Yi->Yb β):aM R ((0:Yi),(([]:Ya Ag),(([]:Ya CW),(1:Yi)))) ((0:Yi),((0:Yi),(e,((0:Yi),[silM])))) k=k ((0:Yi),(([]:Ya Ag),([silS e],(2:Yi)))) 1 0:=by
 have h0:StI R 0 0 ((0:Yi),(([]:Ya Ag),(([]:Ya CW),(1:Yi)))):=⟨⟨Ey _,Ey _⟩,ABK,λg hg=>Yw hg (by simp),.inl rfl⟩;unfold aM;rw[Aq];refine(vG F hR (by omega) (by omega) h0 _).trans ?_;refine c_f.trans ?_;refine(AJ (by decide)).trans ?_;unfold r7;rw[Aq];refine(uH ⟨by simp,λm hm=>Yw hm (by simp)⟩ _).trans ?_;refine(uH (l:=[silS e]) ⟨by simp,λm hm=>by rw[DS.mp hm];simp⟩ _).trans ?_;refine(GT (by simp)).trans ?_;refine(AkE F he _).trans ?_;refine(Dh rfl).trans ?_;refine(Dh rfl).trans ?_;refine(uI (h0.small (by omega)) _).trans ?_;refine(AJ (by simp)).trans ?_;show k (_,(_,(_,Yh.wrap ((1:Yi)+1)))) _ _=_;have hw:Yh.wrap ((1:Yi)+1)=2:=by decide
 rw[hw];rfl
theorem ABM(n:Yi):∃v,0<=v/\v<500/\∀{β:Type}(k:Yi->Yb β),X3 n 500 k=k v:=by
 have x3:=RQ n (show(0:Yi)<500 by decide)
 have Vd:-500<YQ n 500:=by have h5:=RQ (-n) (show(0:Yi)<500 by decide);rw[Int.neg_tmod]at h5;omega
 refine⟨YQ (YQ n 500+500) 500,?_,RQ _ (by decide),λk=>?_⟩
 ·exact Int.tmod_nonneg _ (by omega)
 ·unfold X3
  rw[Aq];refine(Ku (by decide)).trans ?_;refine(Ku (by decide)).trans ?_;show k (YQ (Yh.wrap (YQ n 500+500)) 500)=_;have hw:Yh.wrap (YQ n 500+500)=YQ n 500+500:=by rw[Y2];omega
  rw[hw]
section
variable{β:Type}{G:Yb β->Prop}
abbrev keyT:Ya Yl×(Ya Yl×(Ya Yl×Ya Yl)):=(([97,112,112]:Ya Yl),(([104,111,115,116]:Ya Yl),(([115,101,118]:Ya Yl),([116,101,97,109]:Ya Yl))))
theorem bF{k1:mJ β}{m i:Yk}{key:Ya Yl}(hi:i<4)(J4:Yn ([keyT.1,keyT.2.1,keyT.2.2.1,keyT.2.2.2]:Ya (Ya Yl)) (Yj (i:Yi)) ([]:Ya Yl)=key){d:Dice}(hd:Dt d){out:Ya Al}(ho:out.length<=10)(hk:∀v d',v∈vals->Dt d'->G (Nt m k1 keyT ((i+1:Yk):Yi) d' (out++opt1 key v))):G (Nt (m+1) k1 keyT (i:Yi) d out):=by
 rw[Afe];unfold Za;refine w_p (by omega) ?_;refine w_i ⟨by omega,by show(i:Yi)<4;omega⟩ ?_;refine KA hd ⟨by omega,by omega⟩ λx d' h1 h2 BX=>?_;refine w_i ⟨h1,by show x<6;omega⟩ ?_;show G (Yr (!Yf (Yn vals (Yj x) ([]:Ya Yl)=[])) _ _);have hv:Yn vals (Yj x) ([]:Ya Yl)∈vals:=bD ⟨h1,by show x<6;omega⟩;have h:=hk _ d' hv BX;rw[<-C3 (by omega)]at h;show G (Yr (!Yf (Yn vals (Yj x) ([]:Ya Yl)=[])) (Yr (Yf ((Yg out+Yg [(Yn ([keyT.1,keyT.2.1,keyT.2.2.1,keyT.2.2.2]:Ya (Ya Yl)) (Yj (i:Yi)) ([]:Ya Yl),Yn vals (Yj x) ([]:Ya Yl))])*32<=Cn)) (Nt m k1 keyT (Yh.wrap ((i:Yi)+1)) d' (out++[(Yn ([keyT.1,keyT.2.1,keyT.2.2.1,keyT.2.2.2]:Ya (Ya Yl)) (Yj (i:Yi)) ([]:Ya Yl),Yn vals (Yj x) ([]:Ya Yl))])) none) (Nt m k1 keyT (Yh.wrap ((i:Yi)+1)) d' out));rw[J4];generalize Yn vals (Yj x) ([]:Ya Yl)=v at*;unfold opt1 at h;by_cases h0:v=[]
 ·refine w_e (Dh h0) ?_
  rw[Y7 h0,Gj]at h;exact h
 ·refine w_e (Ku h0) ?_
  refine w_r (by simp only[Be,BP];omega) ?_;rw[Y4 h0]at h;exact h
theorem ABN{d:Dice}(hd:Dt d){k:Dice->Ya Al->Yb β}(hk:∀l d',HW l->Dt d'->G (k d' l)):G (T4 d k):=by obtain⟨f,hf⟩:∃f,fuel=f+5:=⟨fuel-5,by unfold fuel;omega⟩;unfold T4;rw[Aq];unfold mL;rw[Aq,hf];refine bF (i:=0) (key:=kApp) (by omega) rfl hd (by simp) λa d1 ha KH=>?_;refine bF (i:=1) (key:=[104,111,115,116]) (by omega) rfl KH (by simp only[Bd];have:=Lx (k:=kApp) (v:=a);simp only[BP];omega) λb d2 hb E2=>?_;refine bF (i:=2) (key:=[115,101,118]) (by omega) rfl E2 (by simp only[Bd];have:=Lx (k:=kApp) (v:=a);have:=Lx (k:=[104,111,115,116]) (v:=b);simp only[BP];omega) λc d3 hc Kg=>?_;refine bF (i:=3) (key:=[116,101,97,109]) (by omega) rfl Kg (by simp only[Bd];have:=Lx (k:=kApp) (v:=a);have:=Lx (k:=[104,111,115,116]) (v:=b);have:=Lx (k:=[115,101,118]) (v:=c);simp only[BP];omega) λe d4 he wE=>?_;rw[Afe];unfold Za;refine w_n (by simp) ?_;exact hk _ d4 ⟨a,ha,b,hb,c,hc,e,he,by simp only[DT,C1]⟩ wE
theorem ABO{d:Dice}(hd:Dt d){k:BA->Dice->Yb β}(hk:∀m d',McOk m->Dt d'->G (k m d')):G (XK d k):=by
 unfold XK;rw[Aq];refine KA hd ⟨by omega,by omega⟩ λx d1 h1 h2 KH=>?_;refine w_i ⟨h1,by show x<5;omega⟩ ?_;refine KA KH ⟨by omega,by omega⟩ λy d2 h3 h4 E2=>?_;refine KA E2 ⟨by omega,by omega⟩ λz d3 h5 h6 Kg=>?_;refine w_i ⟨h5,by show z<8;omega⟩ ?_;refine hk _ d3 ⟨?_,⟨h3,by show y<=3;omega⟩,?_⟩ Kg
 ·exact bD (l:=Kc) ⟨h1,by show x<5;omega⟩
 ·exact bD (l:=Ny) ⟨h5,by show z<8;omega⟩
theorem AkP{k1:mR β}(hk:∀l d',(∀m∈l,McOk m)->l.length<=2->Dt d'->G (k1 d' l)):∀(m i:Yk)(d:Dice)(out:Ya BA),Dt d->(∀x∈out,McOk x)->out.length+i<=2->i<m->G (QK m k1 (i:Yi) d out)
 |0,i,_,_,_,_,_,h=>Yw h (C8 _)
 |m+1,i,d,out,hd,ho,hl,hm=>by
  rw[Aud];unfold mT;cases i with
  |zero=>refine w_n (by simp) ?_;exact hk out d ho (by omega) hd
  |succ i=>
   refine w_p (by omega) ?_;refine ABO hd λx d' hx BX=>?_;refine w_r (by simp only[Be,BP];omega) ?_;have hw:Yh.wrap (((i+1:Yk):Yi)-1)=(i:Yi):=by rw[Y2];omega
   show G (QK m k1 (Yh.wrap (((i+1:Yk):Yi)-1)) d' (out++[x]));rw[hw];refine AkP hk m i d' (out++[x]) BX (λy hy=>?_) (by simp only[Bd,Be,BP];omega) (by omega);rcases BV.mp hy with hy|hy
   ·exact ho y hy
   ·rw[DS.mp hy];exact hx
theorem ABP{d:Dice}(hd:Dt d){k:Dice->Ya BA->Yb β}(hk:∀l d',(∀m∈l,McOk m)->l.length<=2->Dt d'->G (k d' l)):G (Zb 2 d k):=by
 unfold Zb;rw[Aq];refine KA hd (by decide) λx d' h1 h2 BX=>?_;have hw:Yh.wrap ((2:Yi)+1)=3:=by decide
 rw[hw]at h2;obtain⟨i,rfl⟩:∃i:Yk,x=(i:Yi):=⟨x.toNat,by omega⟩;unfold mU;rw[Aq];exact AkP hk fuel i d' [] BX (λx hx=>Yw hx (by simp)) (by simp only[BP];omega) (by unfold fuel;omega)
theorem vM{k1:lI β}(hk:∀l d',Dt d'->G (k1 d' l))(tt:Ya Yl×(Ya Yl×(Ya Yl×Ya Yl))):∀(m i:Yk)(d:Dice)(out:Ya (Ya Yl)),Dt d->out.length<=i->i<=4->4-i<m->G (Tz m k1 tt (i:Yi) d out)
 |0,i,_,_,_,_,_,h=>Yw h (C8 _)
 |m+1,i,d,out,hd,ho,hi,hm=>by
  rw[ArP];unfold lK;by_cases Ae:i<4
  ·refine w_p (by omega) ?_
   refine w_i ⟨by omega,by show(i:Yi)<4;omega⟩ ?_;refine vL hd (by omega) λb d' BX=>?_;refine w_c (λ_=>?_) λ_=>?_
   ·refine w_r (by simp only[Be,BP];omega) ?_
    have ih:=vM hk tt m (i+1) d' (out++[Yn ([tt.1,tt.2.1,tt.2.2.1,tt.2.2.2]:Ya (Ya Yl)) (Yj (i:Yi)) ([]:Ya Yl)]) BX (by simp only[Bd,Be,BP];omega) (by omega) (by omega);rw[<-C3 (by omega)]at ih;exact ih
   ·have ih:=vM hk tt m (i+1) d' out BX (by omega) (by omega) (by omega)
    rw[<-C3 (by omega)]at ih;exact ih
  ·refine w_n (by omega) ?_
   exact hk out d hd
theorem ABQ{d:Dice}(hd:Dt d){k:Dice->Ya (Ya Yl)->Yb β}(hk:∀l d',Dt d'->G (k d' l)):G (XJ d k):=by unfold XJ;rw[Aq];unfold lL;rw[Aq];exact vM hk _ fuel 0 d [] hd (Aw _) (by omega) (by unfold fuel;omega)
structure RouteP (r:AU):Prop where
 rt:RtOk r
 pol:0<=r.2.2.1
 mat:∀m∈r.2.1,McOk m
 len:r.2.1.length<=2
theorem AkQ{d:Dice}(hd:Dt d){k:AU->Dice->Yb β}(hk:∀r d',RouteP r->r.1=-1->r.2.1=[]->Dt d'->G (k r d')):G (T7 d k):=by
 unfold T7;rw[Aq];refine bE hd (by decide) λw d1 hw KH=>?_;refine bE KH (by decide) λi d2 hi E2=>?_;refine KA E2 ⟨by omega,by omega⟩ λp d3 Cv De Kg=>?_;refine ABQ Kg λks d4 wE=>?_;refine bE wE (by decide) λq d5 hq ADl=>?_;refine vL ADl (by omega) λb d6 ADm=>?_;have V3:0<=w/\w<=60:=by simp at hw;omega
 have Jd:20<=i/\i<=300:=by simp at hi;omega
 have AlK:0<=q/\q<=3600:=by simp at hq;omega
 have e1:Yh.wrap (w+i)=w+i:=by rw[Y2];omega
 have e2:Yh.wrap (w+i+q)=w+i+q:=by rw[Y2];omega
 refine hk _ d6 ⟨⟨V3,?_,?_,?_,?_⟩,Cv,λm hm=>Yw hm (by simp),by simp⟩ rfl rfl ADm
 ·show 20<=Yh.wrap (w+i)/\Yh.wrap (w+i)<=360
  rw[e1];omega
 ·show w<=Yh.wrap (w+i)
  rw[e1];omega
 ·show Yh.wrap (w+i)<=Yh.wrap (Yh.wrap (w+i)+q)
  rw[e1,e2];omega
 ·show Yh.wrap (Yh.wrap (w+i)+q)<=3960
  rw[e1,e2];omega
structure RoutesP (l:Ya AU):Prop where
 ok:∀r∈l,RouteP r
 root:∀r:AU,l[0]?=Yd r->r.1=-1/\r.2.1=[]
 par:∀(i:Yk)(r:AU),0<i->l[i]?=Yd r->0<=r.1/\r.1<(i:Yi)
theorem AkR{k1:oH β}(hk:∀l d',RoutesP l->1<=l.length->l.length<=3->Dt d'->G (k1 d' l)):∀(m i:Yk)(d:Dice)(out:Ya AU),Dt d->RoutesP out->1<=out.length->out.length+i<=3->i<m->G (QR m k1 (i:Yi) d out)
 |0,i,_,_,_,_,_,_,h=>Yw h (C8 _)
 |m+1,i,d,out,hd,ho,h1,hl,hm=>by
  rw[Avm];unfold oJ;cases i with
  |zero=>refine w_n (by simp) ?_;exact hk out d ho h1 (by omega) hd
  |succ i=>
   refine w_p (by omega) ?_;refine AkQ hd λr d1 hr _ _ KH=>?_;refine KA KH ⟨by omega,by omega⟩ λx d2 Gu FB E2=>?_;refine ABP E2 λms d3 ADR ADQ Kg=>?_;refine w_r (by simp only[Be,BP];omega) ?_;have hw:Yh.wrap (((i+1:Yk):Yi)-1)=(i:Yi):=by rw[Y2];omega
   show G (QR m k1 (Yh.wrap (((i+1:Yk):Yi)-1)) d3 (out++[(x,(ms,r.2.2))]));rw[hw];refine AkR hk m i d3 _ Kg ⟨λy hy=>?_,λy hy=>?_,λj y hj hy=>?_⟩ (by simp only[Bd,Be,BP];omega) (by simp only[Bd,Be,BP];omega) (by omega)
   ·rcases BV.mp hy with hy|hy
    ·exact ho.ok y hy
    ·rw[DS.mp hy]
     exact⟨⟨hr.rt.w,hr.rt.i,hr.rt.wi,hr.rt.r⟩,hr.pol,ADR,ADQ⟩
   ·rw[G0 (by omega)]at hy
    exact ho.root y hy
   ·by_cases N7:j<out.length
    ·rw[G0 N7]at hy
     exact ho.par j y hj hy
    ·rw[ES (by omega)]at hy
     by_cases wP:j-out.length=0
     ·rw[wP]at hy
      obtain rfl:(x,(ms,r.2.2))=y:=by simpa using hy
      exact⟨Gu,by show x<(j:Yi);omega⟩
     ·rw[MG (by simp only[Be,BP];omega)]at hy
      exact Yw hy (by simp)
theorem ABR{d:Dice}(hd:Dt d){k:Dice->Ya AU->Yb β}(hk:∀l d',RoutesP l->1<=l.length->l.length<=3->Dt d'->G (k d' l)):G (Zo 2 d k):=by
 unfold Zo;rw[Aq];refine AkQ hd λr d1 hr h1 h2 KH=>?_;refine KA KH (by decide) λx d' Gu FB BX=>?_;have hw:Yh.wrap ((2:Yi)+1)=3:=by decide
 rw[hw]at FB;obtain⟨i,rfl⟩:∃i:Yk,x=(i:Yi):=⟨x.toNat,by omega⟩;unfold oK;rw[Aq];refine AkR hk fuel i d' [r] BX ⟨λy hy=>by rw[DS.mp hy];exact hr,λy hy=>?_,λj y hj hy=>?_⟩ (by simp) (by simp only[Be,BP];omega) (by unfold fuel;omega)
 ·obtain rfl:r=y:=by simpa using hy
  exact⟨h1,h2⟩
 ·rw[MG (by simp only[Be,BP];omega)]at hy
  exact Yw hy (by simp)
end
def KB(r:AU):AU:=(r.1,(r.2.1,(r.2.2.1,([kApp],r.2.2.2.2))))
theorem ABS{l:Ya AU}(h:RoutesP l)(h1:1<=l.length)(h3:l.length<=3):RoutesOk (l.map KB) where
 n:=by rw[Fc];exact⟨h1,h3⟩
 ok:=λr hr=>by obtain⟨r',AR,rfl⟩:=Fw.mp hr;have:=h.ok r' AR;exact⟨⟨this.rt.w,this.rt.i,this.rt.wi,this.rt.r⟩,this.pol,rfl,this.mat,this.len⟩
 root:=λr hr=>by rw[FJ]at hr;obtain⟨r',AR,rfl⟩:=NQ.mp hr;exact h.root r' AR
 par:=λi r hi hr=>by rw[FJ]at hr;obtain⟨r',AR,rfl⟩:=NQ.mp hr;exact h.par i r' hi AR
theorem AkS{β:Type}(k1:aN β)(n:Yi)(d:Dice)(q:Ya Iq)(x:Yi):∀(b a:Ya AU)(m:Yk),a.length+b.length<=1000->b.length<m->Rj m k1 n ((a.length+b.length:Yk):Yi) (a.length:Yi) d q x (a++b)=k1 n d q x (a++b.map KB)
 |b,a,0,_,h=>Yw h (C8 _)
 |[],a,m+1,hn,hm=>by rw[AjB];unfold aO;exact AJ (by simp only[BP];omega)
 |r::b,a,m+1,hn,hm=>by
  rw[AjB];unfold aO;simp only[Be]at hn hm
  have Ci:0<=(a.length:Yi)/\(a.length:Yi)<((a++r::b).length:Yi):=by
   constructor
   ·omega
   ·simp only[Bd,Be];omega
  refine(Bp (by simp only[Be];omega)).trans ?_;refine(B6 Ci).trans ?_;simp only[U4,Rn];have ih:=AkS k1 n d q x b (a++[KB r]) m (by simp only[Bd,Be,BP];omega) (by omega)
  have hw:((a.length+(b.length+1):Yk):Yi)=(((a++[KB r]).length+b.length:Yk):Yi):=by simp only[Bd,Be,BP];omega
  have He:Yh.wrap ((a.length:Yi)+1)=((a++[KB r]).length:Yi):=by rw[C3 (by omega)];simp only[Bd,Be,BP]
  rw[<-hw,<-He]at ih;simp only[C1,EE,DT]at ih;exact ih
theorem AkT{β:Type}(x:Cg)(hn:x.2.2.2.2.1.length<=1000)(k:Ys->Yb β):∀(m j:Yk),j<=x.2.2.2.2.1.length->x.2.2.2.2.1.length-j<m->TR m (λt4=>k t4) (λ_=>k Yc) Cy (j:Yi) x=k (hasT (x.2.2.2.2.1.drop j) Cy)
 |0,j,_,h=>Yw h (C8 _)
 |m+1,j,hj,hm=>by
  rw[Aw6];unfold pO;by_cases Ae:j<x.2.2.2.2.1.length
  ·refine(Bp (by omega)).trans ?_
   refine(B6 ⟨by omega,by omega⟩).trans ?_;rw[E8 Ae,JH Ae];have e:hasT (x.2.2.2.2.1[j]::x.2.2.2.2.1.drop (j+1)) Cy=(Yf (Cy=x.2.2.2.2.1[j])||hasT (x.2.2.2.2.1.drop (j+1)) Cy):=rfl;rw[e];by_cases hc:x.2.2.2.2.1[j]=Cy
   ·refine(Bp hc).trans ?_
    rw[CD hc.symm];rfl
   ·refine(AJ hc).trans ?_
    rw[Ex (λh=>hc h.symm),Ko];have ih:=AkT x hn k m (j+1) (by omega) (by omega);rw[<-C3 (by omega)]at ih;exact ih
  ·rw[GM (by omega)]
   exact AJ (by omega)
theorem AkU{β:Type}(F:TopFacts){x:Cg}(hn:x.2.2.2.2.1.length<=1000)(k:Ys->Yb β):TS x Bm k=k (Gs x):=by unfold TS;rw[Aq];refine(F.mine _).trans ?_;unfold pP;rw[Aq];exact AkT x hn k fuel 0 (BD _) (by unfold fuel;omega)
def Rs(x:Cg):Prop:=x.2.2.2.2.1.length<=1000/\x.2.2.2.2.2.length<=1000
theorem AkV{β:Type}{x:Cg}(hn:x.2.2.2.2.1.length<=1000)(k1:kC β)(k2:kD β):∀(m j:Yk),j<=x.2.2.2.2.1.length->x.2.2.2.2.1.length-j<m->Tt m k1 k2 (j:Yi) x x=k2 x x
 |0,j,_,h=>Yw h (C8 _)
 |m+1,j,hj,hm=>by
  rw[Aql];unfold kI;by_cases Ae:j<x.2.2.2.2.1.length
  ·refine(Bp (by omega)).trans ?_
   refine(B6 ⟨by omega,by omega⟩).trans ?_;refine(B6 ⟨by omega,by omega⟩).trans ?_;refine(Dh rfl).trans ?_;have ih:=AkV hn k1 k2 m (j+1) (by omega) (by omega);rw[<-C3 (by omega)]at ih;exact ih
  ·exact AJ (by omega)
theorem AkW{β:Type}{x:Cg}(hn:x.2.2.2.2.2.length<=1000)(k1:kF β)(k2:kG β):∀(m j:Yk),j<=x.2.2.2.2.2.length->x.2.2.2.2.2.length-j<m->Tu m k1 k2 (j:Yi) x x=k2 ()
 |0,j,_,h=>Yw h (C8 _)
 |m+1,j,hj,hm=>by
  rw[Aqn];unfold kK;by_cases Ae:j<x.2.2.2.2.2.length
  ·refine(Bp (by omega)).trans ?_
   refine(B6 ⟨by omega,by omega⟩).trans ?_;refine(B6 ⟨by omega,by omega⟩).trans ?_;refine(Dh rfl).trans ?_;have ih:=AkW hn k1 k2 m (j+1) (by omega) (by omega);rw[<-C3 (by omega)]at ih;exact ih
  ·exact AJ (by omega)
theorem ABT{β:Type}{x:Cg}(h:Rs x)(k:Ys->Yb β):X6 x x k=k Yo:=by unfold X6;rw[Aq];refine(Dh rfl).trans ?_;refine(Dh rfl).trans ?_;refine(Dh rfl).trans ?_;refine(Dh rfl).trans ?_;refine(Dh rfl).trans ?_;refine(Dh rfl).trans ?_;unfold kJ;rw[Aq];refine(AkV h.1 _ _ fuel 0 (BD _) (by have:=h.1;unfold fuel;omega)).trans ?_;unfold kL;rw[Aq];exact AkW h.2 _ _ fuel 0 (BD _) (by have:=h.2;unfold fuel;omega)
theorem AkX{β:Type}{l:Ya Cg}(hn:l.length<=1000)(h:∀x∈l,Rs x)(k1:mM β)(k2:mN β):∀(m j:Yk),j<=l.length->l.length-j<m->T5 m k1 k2 l l (j:Yi)=k2 ()
 |0,j,_,h=>Yw h (C8 _)
 |m+1,j,hj,hm=>by
  rw[Au7];unfold mP;by_cases Ae:j<l.length
  ·refine(Bp (by omega)).trans ?_
   refine(B6 ⟨by omega,by omega⟩).trans ?_;refine(B6 ⟨by omega,by omega⟩).trans ?_;rw[E8 Ae];refine(ABT (h _ (Ew Ae)) _).trans ?_;refine c_f.trans ?_;have ih:=AkX hn h k1 k2 m (j+1) (by omega) (by omega);rw[<-C3 (by omega)]at ih;exact ih
  ·exact AJ (by omega)
theorem ABU{β:Type}{l:Ya Cg}(hn:l.length<=1000)(h:∀x∈l,Rs x)(k:Ys->Yb β):T6 l l k=k Yo:=by unfold T6;rw[Aq];refine(Dh rfl).trans ?_;unfold mQ;rw[Aq];exact AkX hn h _ _ fuel 0 (BD _) (by unfold fuel;omega)
theorem bG{R:Ax}{mu:Ya Al->Ys}{t:Yi}:∀gs:Ya Ag,(E1 R mu t gs).length<=gs.length
 |[]=>Aw _
 |g::gs=>by have ih:=bG (R:=R) (mu:=mu) (t:=t) gs;have e:E1 R mu t (g::gs)=(bif (seeV R mu t g).2.2 then [(seeV R mu t g).2.1]else [])++E1 R mu t gs:=rfl;rw[e,Bd,Be];cases(seeV R mu t g).2.2<;>simp only[Ao,BU,Be,BP]<;>omega
theorem vN{R:Ax}{n:Yk}(hn:n<=64){mu:Ya Al->Ys}{t:Yi}{gs:Ya Ag}(h:∀g∈gs,GrOk R n t g):∀x∈E1 R mu t gs,Rs x:=λx hx=>by
 obtain⟨g,hg,_,rfl⟩:=Ak2 hx;have hl:=(h g hg).len;have h1:=uX (Fk mu g) g.2.2.1 (Yc,([],[]));unfold seeV Ez;cases Yf (g.2.2.2.1=-1)||Yf (t<g.2.2.2.1)with
 |true=>exact⟨by simp,by simp⟩
 |false=>
  cases okV (FO R g.1) g t (Fk mu g)with
  |true=>
   constructor
   ·show(sayV (Fk mu g) g).2.1.length<=1000
    unfold sayV;simp only[BP]at h1;omega
   ·show(sayV (Fk mu g) g).2.2.length<=1000
    unfold sayV;simp only[BP]at h1;omega
  |false=>exact⟨by simp,by simp⟩
end
end Go.Lift
namespace Go.Lift
open Go.RowKit Go.IntWalk
section
variable[Sl]
abbrev silQ(e:Yi):Ya CW×Yi:=([silS e],(2:Yi))
abbrev noQ:Ya CW×Yi:=(([]:Ya CW),(1:Yi))
theorem AkY{e:Yi}:MuOk (λt=>muV [silS e] t) e where
 quiet:=λt l hl=>by show(Yf (t<e)&&Yf (getV l kApp=[109,105,110,101]))=Yc;rw[Ex (Akp hl),Bool.and_false]
 mine:=λt ht=>by
  show(Yf (t<e)&&Yf (getV Bm kApp=[109,105,110,101]))=Yo↔t<e;have:getV Bm kApp=[109,105,110,101]:=by decide
  rw[CD this,Bool.and_true];exact decide_eq_true_iff
theorem relA{R:Ax}{i n:Yk}{t na nb:Yi}{a b:Ya Ag}{told:Ys}(h:RelS R i n t na nb a b told){e:Yi}(he:200<=e/\e<=700):StI R n t (na,(a,silQ e)):=⟨h.inA,h.ok,h.busyA,.inr ⟨e,he.1,he.2,rfl⟩⟩
theorem relB{R:Ax}{i n:Yk}{t na nb:Yi}{a b:Ya Ag}{told:Ys}(h:RelS R i n t na nb a b told):StI R n t (nb,(b,noQ)):=⟨h.inB,h.okB,h.busyB,.inl rfl⟩
theorem vO{β:Type}(F:TopFacts)(k1:tT β)(k2:tU β)(e now i:Yi)(d:Dice)(r:Ax)(a b:BE)(mm l:Ya Cg)(hl:l.length<=1000)(hs:∀x∈l,Rs x)(ht:∀x∈l,Gs x=Yo->e<=x.1):∀(m j:Yk)(told:Ys)(others:Ya Cg),j<=l.length->l.length-j<m->others.length<=j->Ux m k1 k2 Bm e now told i (l.length:Yi) (j:Yi) d r a b mm others l=k2 Bm e now (told||(l.drop j).any Gs) i d r a b mm (others++(l.drop j).filter λx=>!Gs x)
 |0,j,_,_,_,h,_=>Yw h (C8 _)
 |m+1,j,told,others,hj,hm,ho=>by
  rw[AAg];unfold u6;by_cases Ae:j<l.length
  ·refine(Bp (by omega)).trans ?_
   refine(B6 ⟨by omega,by omega⟩).trans ?_;have hx:=Ew Ae;have eg:∀d,Yn l (Yj (j:Yi)) d=l[j]:=λd=>E8 Ae;simp only[eg];rw[JH Ae,PL,LJ];generalize l[j]=x at*;refine(AkU F (hs x hx).1 _).trans ?_;cases hc:Gs x with
   |true=>refine c_t.trans ?_;refine(AJ (by have:=ht x hx hc;omega)).trans ?_;have ih:=vO F k1 k2 e now i d r a b mm l hl hs ht m (j+1) Yo others (by omega) (by omega) (by omega);rw[<-C3 (by omega)]at ih;simp only[Sj,Bool.or_true,Se,G3,Cb]at ih⊢;exact ih
   |false=>refine c_f.trans ?_;refine(GT (by simp only[Be,BP];omega)).trans ?_;have ih:=vO F k1 k2 e now i d r a b mm l hl hs ht m (j+1) told (others++[x]) (by omega) (by omega) (by simp only[Bd,Be,BP];omega);rw[<-C3 (by omega)]at ih;simp only[Ko,Bool.not_false,CR,C1,EE,DT]at ih⊢;exact ih
  ·rw[GM (by omega)]
   refine(AJ (by omega)).trans ?_;simp only[List.any_nil,Sf,List.filter_nil,Gj]
theorem ABV{β:Type}(F:TopFacts){R:Ax}(hR:RulesG R){i n:Yk}(hn:n<=64){t na nb:Yi}(ht:0<=t/\t<=100000){a b:Ya Ag}{told:Ys}(h:RelS R i n t na nb a b told){e:Yi}(he:200<=e/\e<=700)(hi:i≠3)(k1:Ajt β)(k2:Aju β)(d:Dice):∃Hh,RelS R (i+1) n t t t (Iw R (muV [silS e] t) t a) (Iw R (λ_=>Yc) t b) Hh/\Lu k1 k2 Bm e t told (i:Yi) d R (na,(a,silQ e)) (nb,(b,noQ))=k2 Bm e t Hh (i:Yi) d R (t,(Iw R (muV [silS e] t) t a,silQ e)) (t,(Iw R (λ_=>Yc) t b,noQ)):=by
 have Gd:=AkY (e:=e);refine⟨told||(E1 R (muV [silS e] t) t a).any Gs,AB2 hR.ok ht h Gd hi ?_,?_⟩
 ·rw[Ik,We]
 unfold Lu;rw[Aq];unfold uA;refine(vK F hR hn ht (relA h he) _).trans ?_;refine(vK F hR hn ht (relB h) _).trans ?_;refine(Dh rfl).trans ?_;refine(Dh rfl).trans ?_;unfold u7;rw[Aq];have Px:=vN (R:=R) (mu:=muV [silS e] t) (t:=t) hn h.ok.gr;have AK:=bG (R:=R) (mu:=muV [silS e] t) (t:=t) a;have Cr:=h.ok.len;refine(vO F _ _ e t (i:Yi) d R _ _ _ (E1 R (muV [silS e] t) t a) (by omega) Px (λx hx cK=>?_) fuel 0 told [] (BD _) (by unfold fuel;omega) (Aw _)).trans ?_
 ·obtain⟨h1,h2⟩:=AAS hR.ok ht h.ok h.mines hx cK
  rw[h2];have:=(Gd.mine t ht.1);rcases Int.lt_or_le t e with h3|h3
  ·have h4:=this.mpr h3
   rw[h1]at h4;exact Yw h4 (by simp)
  ·exact h3
 rw[PK,DT]
 have KN:(E1 R (muV [silS e] t) t a).filter (λx=>!Gs x)=E1 R (muV noQ.1 t) t b:=by rw[h.nm];exact Ak3 hR.ok ht (Gd.quiet t) (λ_ _=>rfl) h.ok.gr h.mines
 show T6 ((E1 R (muV [silS e] t) t a).filter λx=>!Gs x) (E1 R (muV noQ.1 t) t b) _=_;rw[KN];have An:=bG (R:=R) (mu:=muV noQ.1 t) (t:=t) b;have BN:=h.okB.len;refine(ABU (by omega) (vN (R:=R) (mu:=muV noQ.1 t) (t:=t) hn h.okB.gr) _).trans ?_;rfl
theorem ABW{β:Type}(F:TopFacts){R:Ax}(hR:RulesG R){i n:Yk}(hn:n+3<=64){t na nb:Yi}(ht:0<=t/\t<=100000){a b:Ya Ag}{told:Ys}(h:RelS R i n t na nb a b told){e:Yi}(he:200<=e/\e<=700)(hi:i≠3){lab:Ya Al}(hl:HW lab)(firing:Ys)(k1:tW β)(k2:tX β)(k3:tY β)(d:Dice):∃a' b',RelS R (i+1) (n+3) t t t a' b' told/\K8 k1 k2 k3 Bm e t told (i:Yi) Yo d R (na,(a,silQ e)) (nb,(b,noQ)) (t,(lab,firing))=k2 Bm e t told (i:Yi) d R (t,(a',silQ e)) (t,(b',noQ)):=by
 obtain⟨fr,hg,GE⟩:=Aku F hR.rts (Kd (.inl hl));refine⟨_,_,AB0 hR.ok ht h hl firing hg.2.2.2 hg.2.1 hg.2.2.1 hi,?_⟩;unfold K8;rw[Aq];unfold Uy;refine c_t.trans ?_;refine(vH F hR hn ht (relA h he) (.inl hl) firing hg GE _).trans ?_;refine(Dh rfl).trans ?_;refine(Ku (by omega)).trans ?_;refine(vH F hR hn ht (relB h) (.inl hl) firing hg GE _).trans ?_;exact Dh rfl
theorem ABX{β:Type}(F:TopFacts){R:Ax}(hR:RulesG R){n:Yk}(hn:n+3<=64){t na nb:Yi}(ht:0<=t/\t<=100000){a b:Ya Ag}{told:Ys}(h:RelS R 3 n t na nb a b told){e:Yi}(he:200<=e/\e<=700)(k1:tW β)(k2:tX β)(k3:tY β)(d:Dice):∃a',RelS R 4 (n+3) t t nb a' b told/\K8 k1 k2 k3 Bm e t told (3:Yi) Yo d R (na,(a,silQ e)) (nb,(b,noQ)) (t,(Bm,Yo))=k2 Bm e t told (3:Yi) d R (t,(a',silQ e)) (nb,(b,noQ)):=by
 obtain⟨fr,hg,GE⟩:=Aku F hR.rts (Kd (.inr rfl));refine⟨_,AB1 hR.ok ht h hg.2.2.2 hg.2.2.1 hg.1,?_⟩;unfold K8;rw[Aq];unfold Uy;refine c_t.trans ?_;refine(vH F hR hn ht (relA h he) (.inr rfl) Yo hg GE _).trans ?_;refine(Dh rfl).trans ?_;exact Dh rfl
section
variable{β:Type}{G:Yb β->Prop}
theorem p5_w(F:TopFacts){R:Ax}(hR:RulesG R){i n:Yk}(hn:n<=3*i/\n<=48){t na nb:Yi}(ht:0<=t/\t<=100000){a b:Ya Ag}{told:Ys}(h:RelS R i n t na nb a b told){e:Yi}(he:200<=e/\e<=700)(hi:i≠3){lab:Ya Al}(hl:HW lab)(firing:Ys){d:Dice}(hd:Dt d){k1:Ajx β}{k2:Ajy β}{k3:Ajz β}(R1:∀n' LD LE a' b' Hh d',n'<=3*(i+1)/\n'<=48->RelS R (i+1) n' t LD LE a' b' Hh->Dt d'->G (k2 Bm e t Hh (i:Yi) d' R (LD,(a',silQ e)) (LE,(b',noQ))))(ADG:∀n' LD LE a' b' Hh d',n'<=3*(i+1)/\n'<=48->RelS R (i+1) n' t LD LE a' b' Hh->Dt d'->G (k3 Bm e t Hh (i:Yi) d' R (LD,(a',silQ e)) (LE,(b',noQ)))):G (Rk k1 k2 k3 Bm e t told (i:Yi) d R (na,(a,silQ e)) (nb,(b,noQ)) (t,(lab,firing))):=by
 have Alt:∀(d:Dice),Dt d->G (K8 (λt4=>k1 t4) (λmine2 end_2 now2 told2 Cl d2 Bz a2 b2=>k2 mine2 end_2 now2 told2 Cl d2 Bz a2 b2) (λmine2 end_2 now2 told2 Cl d2 Bz a2 b2=>Lu (λt4=>k1 t4) (λmine3 end_3 now3 told3 FC d3 Gg a3 b3=>k3 mine3 end_3 now3 told3 FC d3 Gg a3 b3) mine2 end_2 now2 told2 Cl d2 Bz a2 b2) Bm e t told (i:Yi) Yc d R (na,(a,silQ e)) (nb,(b,noQ)) (t,(lab,firing))):=λd hd=>by
  obtain⟨Hh,hr,hq⟩:=ABV F hR (by omega) ht h he hi (λt4=>k1 t4) (λmine3 end_3 now3 told3 FC d3 Gg a3 b3=>k3 mine3 end_3 now3 told3 FC d3 Gg a3 b3) d;refine w_e (B:=Lu (λt4=>k1 t4) (λmine3 end_3 now3 told3 FC d3 Gg a3 b3=>k3 mine3 end_3 now3 told3 FC d3 Gg a3 b3) Bm e t told (i:Yi) d R (na,(a,silQ e)) (nb,(b,noQ))) ?_ ?_
  ·unfold K8
   rw[Aq];unfold Uy;exact c_f
  ·rw[hq]
   exact ADG n _ _ _ _ Hh d ⟨by omega,hn.2⟩ hr hd
 unfold Rk;rw[Aq];unfold aP;refine w_n (by omega) ?_;refine w_d (λAl1=>?_) λ_=>Alt d hd;refine w_e (Rp (Kd (.inl hl)).len _ _) ?_;refine w_e (Ku (Akp hl)) ?_;refine vL hd (by omega) λbb d' BX=>?_;cases bb with
 |false=>exact Alt d' BX
 |true=>obtain⟨a',b',hr,hq⟩:=ABW F hR (show n+3<=64 by omega) ht h he hi hl firing (λt4=>k1 t4) (λmine2 end_2 now2 told2 Cl d2 Bz a2 b2=>k2 mine2 end_2 now2 told2 Cl d2 Bz a2 b2) (λmine2 end_2 now2 told2 Cl d2 Bz a2 b2=>Lu (λt4=>k1 t4) (λmine3 end_3 now3 told3 FC d3 Gg a3 b3=>k3 mine3 end_3 now3 told3 FC d3 Gg a3 b3) mine2 end_2 now2 told2 Cl d2 Bz a2 b2) d';refine w_e hq ?_;exact R1 (n+3) _ _ _ _ told d' ⟨by omega,by omega⟩ hr BX
theorem AkZ(F:TopFacts){R:Ax}(hR:RulesG R){e:Yi}(he:200<=e/\e<=700){k1:tN β}{k2:tO β}(hk:∀n now na nb a b told,n<=48->0<=now->now<=1560->RelS R 26 n now na nb a b told->G (k2 Bm e now told R (na,(a,silQ e)))):∀(m i n:Yk)(now na nb:Yi)(a b:Ya Ag)(told:Ys)(d:Dice),i<=26->26-i<m->n<=3*i/\n<=48->0<=now->now<=60*(i:Yi)->RelS R i n now na nb a b told->Dt d->G (Rl m k1 k2 Bm e now told (i:Yi) d R (na,(a,silQ e)) (nb,(b,noQ)))
 |0,i,_,_,_,_,_,_,_,_,_,h,_,_,_,_,_=>Yw h (C8 _)
 |m+1,i,n,now,na,nb,a,b,told,d,hi,hm,hn,h0,h1,h,hd=>by
  rw[AAl];unfold uB;by_cases Ae:i<26
  ·refine w_p (by omega) ?_
   refine bE hd (by decide) λx d1 hx KH=>?_;have DH:10<=x/\x<=60:=by simp at hx;omega
   have hw:Yh.wrap (now+x)=now+x:=by rw[Y2];omega
   show G (T4 d1 _);refine ABN KH λlab d2 hl E2=>?_;refine KA E2 ⟨by omega,by omega⟩ λy d3 Hf P3 Kg=>?_;rw[hw];have ht:0<=now+x/\now+x<=100000:=by omega
   have h':=h.later (show now<=now+x by omega)
   have nxt:∀n' LD LE a' b' Hh d',n'<=3*(i+1)/\n'<=48->RelS R (i+1) n' (now+x) LD LE a' b' Hh->Dt d'->G (Rl m k1 k2 Bm e (now+x) Hh (Yh.wrap ((i:Yi)+1)) d' R (LD,(a',silQ e)) (LE,(b',noQ))):=λn' LD LE a' b' Hh d' Dj hr BX=>by rw[C3 (by omega)];exact AkZ F hR he hk m (i+1) n' (now+x) LD LE a' b' Hh d' (by omega) (by omega) Dj ht.1 (by omega) hr BX
   by_cases h3:i=3
   ·subst h3
    refine w_p (by decide) ?_;unfold Rk;rw[Aq];unfold aP;refine w_p (by decide) ?_;obtain⟨a',hr,hq⟩:=ABX (β:=β) F hR (show n+3<=64 by omega) ht h' he _ _ _ d3;refine w_e (hq) ?_;exact nxt (n+3) _ _ _ _ told d3 ⟨by omega,by omega⟩ hr Kg
   ·refine w_n (by omega) ?_
    exact p5_w F hR hn ht h' he h3 hl _ Kg nxt nxt
  ·obtain rfl:i=26:=by omega
   refine w_n (by decide) ?_;exact hk n now na nb a b told hn.2 h0 (by omega) h
end
theorem vP{β:Type}(F:TopFacts)(k1:tQ β)(f:Int)(l:List Cg)(hl:l.length<=1000)(hs:∀x∈l,Rs x):∀(m j:Nat)(told:Bool),j<=l.length->l.length-j<m->Uz m k1 Bm told f (l.length:Int) (j:Int) l=k1 (told||(l.drop j).any Gs) f
 |0,j,_,_,h=>Yw h (C8 _)
 |m+1,j,told,hj,hm=>by
  rw[AAn];unfold uD;by_cases Ae:j<l.length
  ·refine(Bp (by omega)).trans ?_
   refine(B6 ⟨by omega,by omega⟩).trans ?_;have eg:∀d,Yn l (Yj (j:Yi)) d=l[j]:=λd=>E8 Ae;simp only[eg];rw[JH Ae,PL];cases told with
   |true=>refine c_t.trans ?_;have ih:=vP F k1 f l hl hs m (j+1) Yo (by omega) (by omega);rw[<-C3 (by omega),Sj]at ih;rw[Sj];exact ih
   |false=>refine c_f.trans ?_;refine(AkU F (hs _ (Ew Ae)).1 _).trans ?_;have ih:=vP F k1 f l hl hs m (j+1) (Gs l[j]) (by omega) (by omega);rw[<-C3 (by omega)]at ih;rw[Ko];exact ih
  ·rw[GM (by omega)]
   refine(AJ (by omega)).trans ?_;simp only[List.any_nil,Sf]
theorem ABY{β:Type}(k1:aN β)(n:Yi)(d:Dice)(q:Ya Iq)(x:Yi)(rs:Ya AU)(h:rs.length<=1000):Rj fuel k1 n (rs.length:Yi) (0:Yi) d q x rs=k1 n d q x (rs.map KB):=by have h:=AkS k1 n d q x rs [] fuel (by simp only[BP];omega) (by unfold fuel;omega);simp only[BP,CQ,DT]at h;exact h
theorem ABZ{β:Type}(F:TopFacts)(t:Ya Yi)(n:Yi)(k:Ys->Yb β):aQ t n k=k Yo:=by
 unfold aQ;rw[Aq];refine(F.alive _).trans ?_;refine c_f.trans ?_;refine(ABG _ _).trans ?_;by_cases hl:(t.length:Yi)<=500
 ·refine(Dh hl).trans ?_
  refine(ABH _ _).trans ?_;refine ABR (G:=λo=>o=k Yo) (ABI hl) λrs d xN h1 h3 hd=>?_;unfold tZ;rw[Aq];refine(ABY _ n d _ _ rs (by omega)).trans ?_;have hR:RulesG (rs.map KB,(([]:Ya Iq),(0:Yi))):=⟨ABS xN h1 h3,rfl,rfl⟩;obtain⟨v,El,FR,hv⟩:=ABM n;refine(hv _).trans ?_;have hw:Yh.wrap ((200:Yi)+v)=200+v:=by rw[Y2];omega
  have he:200<=200+v/\200+v<=700:=by omega
  rw[hw];refine(Ak8 _).trans ?_;refine(ABL F hR he _).trans ?_;refine(Ak8 _).trans ?_;refine(Dh rfl).trans ?_;refine(Dh rfl).trans ?_;unfold uC;rw[Aq];refine AkZ (G:=λo=>o=k Yo) F hR he (λn' now na nb a b told Dj h0 AGt hr=>?_) fuel 0 0 0 0 0 [] [] Yc d (by omega) (by unfold fuel;omega) ⟨by omega,by omega⟩ (Ey _) (by omega) rel0 hd
  have C5:(if(200:Yi)+v>now then 200+v else now)+400>=now+400/\(if(200:Yi)+v>now then 200+v else now)+400>=200+v/\(if(200:Yi)+v>now then 200+v else now)+400<=100000:=by split<;>omega
  have He:Yh.wrap ((if(200:Yi)+v>now then 200+v else now)+(400:Yi))=(if(200:Yi)+v>now then 200+v else now)+400:=by rw[Y2];omega
  show OM _ _ (Yh.wrap ((if(200:Yi)+v>now then 200+v else now)+(400:Yi))) _=_;rw[He];generalize(if(200:Yi)+v>now then 200+v else now)+400=T at*;have hT:0<=T/\T<=100000:=by omega
  have AR:=hr.later (show now<=T by omega);refine(vK F hR (by omega) hT (relA AR he) _).trans ?_;have Px:=vN (R:=(rs.map KB,(([]:Ya Iq),(0:Yi)))) (mu:=muV [silS (200+v)] T) (t:=T) (show n'<=64 by omega) AR.ok.gr;have AK:=bG (R:=(rs.map KB,(([]:Ya Iq),(0:Yi)))) (mu:=muV [silS (200+v)] T) (t:=T) a;have Cr:=AR.ok.len;unfold uE;rw[Aq];refine(vP F _ 0 (E1 (rs.map KB,(([]:Ya Iq),(0:Yi))) (muV [silS (200+v)] T) T a) (by omega) Px fuel 0 told (BD _) (by unfold fuel;omega)).trans ?_;refine(Bp rfl).trans ?_;rw[PK]
  have cI:(told||(E1 (rs.map KB,(([]:Ya Iq),(0:Yi))) (muV [silS (200+v)] T) T a).any Gs)=Yo:=by
   rw[Ik,We];rcases hr.late (by omega)with h1|h1
   ·exact .inl h1
   ·refine .inr (AAU hR.ok hT (show now+360<=T by omega) ?_ AR.ok hr.mines h1)
    have:=AkY (e:=200+v).mine T hT.1;cases hc:muV [silS (200+v)] T Bm with
    |false=>rfl
    |true=>exact Yw (this.mp hc) (by omega)
  rw[cI]
 ·refine(Ku hl).trans ?_
  exact F.alive _
end
end Go.Lift
