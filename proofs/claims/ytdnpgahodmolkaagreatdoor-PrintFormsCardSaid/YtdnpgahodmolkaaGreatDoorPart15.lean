/- Part15: LNames3, LLim, LNames4, LNames5, LPrn1, LPrn2, LPrn3, LPrn4, LPrn5, LStr, LNum, LLexNum, LLexNum2, LPrn6, LPrn7, LPrn8, LPrn9, LBld1, LBld2, LBld3, LBld4, LBld5, LBld6, LPar1, LPar2, LPar3, LSame1, LSame2, LSame3, LSame4, LSame5, LFrm. -/
import Derived.KernelRfl
import Derived.Lib.TrimAscii
import Derived.Test.YtdnpgahodmolkaaGreatDoorPart14
set_option linter.unusedVariables false
set_option linter.unusedSectionVars false
set_option linter.unusedSimpArgs false
namespace Go.Lift
open Go.RowKit Go.IntWalk
noncomputable section
variable[Sl]
set_option maxRecDepth 10000
theorem rC{α:Type}{g:Nat->α->Unit->Int⊕Unit}{xs:List α}(d:α)(h:∀i,i<xs.length->g i (xs.getD i d) ()=.inr ()):walk g xs 0 ()=.inr ():=by
 have key:∀(r:List α)(j:Nat),xs.drop j=r->walk g r j ()=.inr ():=by
  intro r
  induction r with
  |nil=>intro j _;rfl
  |cons x r ih=>
   intro j hj
   have h3:j<xs.length:=by
    rcases HD j xs.length with h3|h3
    ·exact h3
    ·rw[N4 h3]at hj;cases hj
   rw[EY h3]at hj;injection hj with hd1 hd2;have hx:=h j h3;rw[show xs.getD j d=x by simp[List.getD,h3,hd1]]at hx;rw[walk,hx];exact ih (j+1) hd2
 exact key xs 0 rfl
def rD(l:List (Int×Int))(at_:Int):Prop:=l.Pairwise (λx y=>x.2<=y.1)/\∀x∈l,(0<=x.1/\x.1<x.2)/\x.2<=at_/\x.2<=604800
theorem RH{l:List (Int×Int)}{t:Int}(h:rD l t)(hl:l.length<=14):Cs l=0:=by
 unfold Cs;rw[AB (by omega),rC (0,0) λi hi=>?_]
 ·rfl
 obtain⟨h1,h2,h3⟩:=h.2 _ (Cc (d:=((0,0):Int×Int)) hi);unfold I5;rw[AB (show ¬(l.getD i (0,0)).1<0 by omega),AB (show ¬(l.getD i (0,0)).2<=(l.getD i (0,0)).1 by omega),AB (show ¬604800<(l.getD i (0,0)).2 by omega)];by_cases h0:(0:Int)<i
 ·have:=Sb.1 h.1 (i-1) i (by omega) hi (by omega)
  have e1:(l.getD i (0,0))=l[i]:=by simp[List.getD,hi]
  have e2:(l.getD (i-1) (0,0))=l[i-1]:=by simp[List.getD,show i-1<l.length by omega]
  rw[Aq h0,e1,e2,AB (show ¬l[i].1<l[i-1].2 by omega)];rfl
 ·rw[AB h0];rfl
section
variable{β:Type}{G:Option β->Prop}
theorem AiI{k:Dice->List (Int×Int)->Option β}(hk:∀d' l,AZ d'->Cs l=0->G (k d' l)):∀(j m:Nat)(t:Int)(d:Dice)(out:List (Int×Int)),j<m->AZ d->rD out t->(0<=t/\t<=604800)->out.length+j<=14->G (LJ m (λb o=>k b o) t (j:Int) d out):=by
 intro j
 induction j with
 |zero=>intro m t d out hm hd hw ht hl;obtain⟨m,rfl⟩:∃m',m=m'+1:=⟨m-1,by omega⟩;simp only[iC,Pq];exact w_n (by simp) (hk _ _ hd (RH hw (by omega)))
 |succ j ih=>
  intro m t d out hm hd hw ht hl;obtain⟨m,rfl⟩:∃m',m=m'+1:=⟨m-1,by omega⟩;simp only[iC,Pq];refine w_p (by omega) ?_;refine B5 hd ⟨by omega,by omega⟩ λx d1 h1 h2 hd1=>?_;refine B5 hd1 ⟨by omega,by omega⟩ λy d2 h3 h4 hd2=>?_;refine FV hd2 (by decide) λz d3 hz hd3=>?_;have hz':1<=z/\z<=86400:=by simp at hz;omega
  simp(disch:=omega) only[i64_in];refine w_d (λ_=>hk _ _ hd3 (RH hw (by omega))) (λh=>?_);have hr:(out.length+1)*16<=140737488355328:=by omega
  refine w_r hr ?_;rw[show((j+1:Nat):Int)-1=(j:Int) by omega];refine ih m _ d3 _ (by omega) hd3 ⟨?_,?_⟩ (by omega) (by simp;omega)
  ·rw[D7]
   refine⟨hw.1,IG _ _,λa ha b hb=>?_⟩;rw[Cv.1 hb];have:=(hw.2 a ha).2.1;show a.2<=t+3600*x+60*y;omega
  ·intro a ha
   rcases Ba.1 ha with ha|ha
   ·have:=hw.2 a ha
    omega
   ·rw[Cv.1 ha]
    simp only;omega
theorem rE{d:Dice}{k:Dice->List (Int×Int)->Option β}(hd:AZ d)(hk:∀d' l,AZ d'->Cs l=0->G (k d' l)):G (LK d k):=by unfold LK;rw[Ab];refine B5 hd ⟨by omega,by omega⟩ λx d1 h1 h2 hd1=>?_;unfold Va;rw[Ab];obtain⟨j,rfl⟩:∃j:Nat,x=j:=⟨x.toNat,by omega⟩;exact AiI hk j fuel 0 d1 [] (AY (by omega)) hd1 ⟨List.Pairwise.nil,λx hx=>absurd hx Cd⟩ (by omega) (by simp;omega)
theorem AiJ{d:Dice}{k:Int->Dice->Option β}(hd:AZ d)(hk:∀x d',1767100000<=x->x<=1770000000->AZ d'->G (k x d')):G (Pr d k):=by
 unfold Pr;rw[Ab];refine B5 hd ⟨by omega,by omega⟩ λx d1 h1 h2 hd1=>?_;refine I6 hd1 ⟨by omega,by omega⟩ λb d2 hd2=>?_;simp(disch:=omega) only[i64_in];refine w_c (λ_=>?_) (λ_=>hk _ _ (by omega) (by omega) hd2);refine FV hd2 (by decide) λp d3 hp hd3=>?_;have hp':-1<=p/\p<=3599:=by simp at hp;omega
 simp(disch:=omega) only[i64_in];exact hk _ _ (by omega) (by omega) hd3
theorem Hy{i n:Int}(h:0<=i/\i<n):ixI i n=true:=by unfold ixI;rw[Aq h.1,Aq h.2];rfl
theorem Yo{n:Int}(h:0<=n/\n<98981):dayI n=true:=by unfold dayI;rw[Aq h.1,Aq h.2];rfl
theorem Yp{f t:Int}(hf:1767100000<=f/\f<=1770000000)(ht:1<=t/\t<=300000)(a b c:Int):e1V (decide (f<0)||(decide (f+t<0)||!dayI (IntKind.i64.wrap (Int.tdiv (f+t) 86400)))) (a,b,c,f,f+t)=0:=by
 have h1:0<=Int.tdiv (f+t) 86400/\Int.tdiv (f+t) 86400<98981:=by rw[DN (by omega)];omega
 rw[i64_in _ (by omega),Yo h1,AB (by omega),AB (by omega)];unfold e1V;rw[AB (show ¬(f+t<=f) by omega)];rfl
def EdOk(np:Int)(x:Ed):Prop:=DG np x=0/\x.2.2.2.2<=2000000000
theorem Yq{np a f t:Int}(ha:0<=a/\a<np)(hf:1767100000<=f/\f<=1770000000)(ht:1<=t/\t<=300000){K:Int}(hK:K=0\/K=1):EdOk np (K,a,0,f,f+t):=by refine⟨?_,by show f+t<=2000000000;omega⟩;unfold DG e4V e3V e2V;simp only;rw[Yp hf ht,Hy ha];rcases hK with rfl|rfl<;>rfl
theorem AiK{np f t:Int}(hf:1767100000<=f/\f<=1770000000)(ht:1<=t/\t<=300000):EdOk np (1,-1,0,f,f+t):=by refine⟨?_,by show f+t<=2000000000;omega⟩;unfold DG e4V e3V e2V;simp only;rw[Yp hf ht];cases ixI (-1) np<;>rfl
theorem AiL{np a b f t:Int}(ha:0<=a/\a<np)(hb:0<=b/\b<np)(hab:a≠b)(hf:1767100000<=f/\f<=1770000000)(ht:1<=t/\t<=300000):EdOk np (2,a,b,f,f+t):=by refine⟨?_,by show f+t<=2000000000;omega⟩;unfold DG e4V e3V e2V;simp only;rw[Yp hf ht,Hy ha,Hy hb,AB hab];rfl
theorem AiM{np a f t:Int}{d:Dice}{t4:Ed}{K:Int}{k:kI β}(hd:AZ d)(ha:0<=a/\a<np)(hf:1767100000<=f/\f<=1770000000)(ht:1<=t/\t<=300000)(hK:K=0\/K=1)(hk:∀d' x,AZ d'->EdOk np x->G (k d' x)):G (J9 k d t4 (K,a,0,f,f+t)):=by
 unfold J9;rw[Ab];unfold PK;refine w_d (λh=>?_) (λ_=>hk _ _ hd (Yq ha hf ht hK));obtain rfl:K=1:=h;refine I6 hd ⟨by omega,by omega⟩ λb d1 hd1=>?_;exact w_c (λ_=>hk _ _ hd1 (AiK hf ht)) (λ_=>hk _ _ hd1 (Yq ha hf ht hK))
theorem AiN{zs:List At}{ps:List Ay}{cs:List AF}{d:Dice}{k:Ed->Dice->Option β}(hd:AZ d)(hp:1<=ps.length/\ps.length<=8)(hk:∀x d',AZ d'->EdOk (ps.length:Int) x->G (k x d')):G (PL zs ps cs d k):=by
 unfold PL;rw[Ab];refine B5 hd ⟨by omega,by omega⟩ λK d1 hK0 hK1 hd1=>?_;refine B5 hd1 ⟨by omega,by omega⟩ λa d2 ha0 ha1 hd2=>?_;refine AiJ hd2 λf d3 hf0 hf1 hd3=>?_;refine FV hd3 (by decide) λt d4 ht hd4=>?_;have ht':1<=t/\t<=300000:=by simp at ht;omega
 simp(disch:=omega) only[i64_in];refine w_d (λh=>?_) (λh=>?_)
 ·refine w_d (λ_=>hk _ _ hd4 (Yq ⟨ha0,ha1⟩ ⟨hf0,hf1⟩ ht' (.inl rfl))) (λg=>?_)
  refine B5 hd4 ⟨by omega,by omega⟩ λb d5 hb0 hb1 hd5=>?_;refine w_e (CL (by omega)) ?_;simp(disch:=omega) only[i64_in];have hb2:0<=Int.tmod (a+1+b) (ps.length:Int)/\Int.tmod (a+1+b) (ps.length:Int)<(ps.length:Int):=⟨Int.tmod_nonneg _ (by omega),Sj _ (by omega)⟩
  have hne:a≠Int.tmod (a+1+b) (ps.length:Int):=by
   rw[Dk (by omega)];by_cases c:a+1+b<(ps.length:Int)
   ·rw[Sk (by omega) c];omega
   ·have:(a+1+b)%(ps.length:Int)=a+1+b-(ps.length:Int):=by rw[show a+1+b=(a+1+b-(ps.length:Int))+(ps.length:Int) by omega,Int.add_emod_right,Sk (by omega) (by omega)];omega
    omega
  obtain rfl:K=2:=h;unfold J9;rw[Ab];unfold PK;exact w_n (by show ¬(2:Int)=1;decide) (hk _ _ hd5 (AiL ⟨ha0,ha1⟩ hb2 hne ⟨hf0,hf1⟩ ht'))
 ·exact AiM hd4 ⟨ha0,ha1⟩ ⟨hf0,hf1⟩ ht' (by omega) λd' x hd' hx=>hk _ _ hd' hx
end
end
end Go.Lift
namespace Go.Lift
open Go.RowKit Go.IntWalk
noncomputable section
variable[Sl]
set_option maxRecDepth 10000
section
variable{β:Type}
theorem c_b{b:Bool}{x y:Option β}(h:b=true):cond b x y=x:=by rw[h];rfl
theorem AiO{α γ:Type}(f:α->γ)(xs:List α)(s:List γ):xs.foldl (λl i=>l++[f i]) s=s++xs.map f:=by
 induction xs generalizing s with
 |nil=>simp
 |cons x xs ih=>simp[ih,AW]
def nm(i:Int):List UInt8:=[110]++D1 [IntKind.u8.wrap (IntKind.i64.wrap (97+IntKind.i64.wrap (Int.tdiv i 20))),IntKind.u8.wrap (IntKind.i64.wrap (97+Int.tmod i 20))]
def EP:List (List UInt8)->List (List UInt8)->Bool
 |[],_=>true
 |s::r,l=>BE s&&(!decide (s∈l)&&EP r (l++[s]))
theorem rF{s:List UInt8}{l:List (List UInt8)}(h1:BE s=true)(h2:s∉l):Cr s l=0:=by unfold Cr;rw[h1,AB h2];rfl
theorem rG{α:Type}(of:α->List UInt8)(chk:α->Int):∀(xs:List α)(j:Nat)(l:List (List UInt8)),EP (xs.map of) l=true->(∀x∈xs,chk x=0)->walk (D4 of chk) xs j l=.inr (l++xs.map of)
 |[],j,l,_,_=>by simp[walk]
 |x::xs,j,l,h,hc=>by
  simp only[Bp,EP,Bv]at h;obtain⟨h1,h2,h3⟩:=h;have h2:of x∉l:=by simpa using h2
  have hg:D4 of chk j x l=.inr (l++[of x]):=by unfold D4;rw[Aq (rF h1 h2),Aq (hc x (Bu ..))];rfl
  unfold walk;rw[hg];show walk (D4 of chk) xs (j+1) (l++[of x])=_;rw[rG of chk xs (j+1) _ h3 λy hy=>hc y (AU _ hy)];simp
theorem rH{α σ ε:Type}(g:Nat->α->σ->ε⊕σ):∀(a b:List α)(j:Nat)(s s':σ),walk g a j s=.inr s'->walk g (a++b) j s=walk g b (j+a.length) s'
 |[],b,j,s,s',h=>by injection h with h;subst h;simp
 |x::a,b,j,s,s',h=>by
  unfold walk at h;show walk g (x::(a++b)) j s=_;rw[walk];cases hg:g j x s with
  |inl e=>rw[hg]at h;cases h
  |inr t=>rw[hg]at h;show walk g (a++b) (j+1) t=_;rw[rH g a b (j+1) t s' h];simp only[Aw];congr 1;omega
theorem RI{α:Type}{of:α->List UInt8}{chk:α->Int}{xs:List α}(h:EP (xs.map of) []=true)(hc:∀x∈xs,chk x=0):Dv of chk xs=0:=by unfold Dv;rw[rG of chk xs 0 [] h hc];rfl
theorem rI(np:Int):∀(xs:List Ed)(j:Nat),(∀x∈xs,DG np x=0)->walk (GE np) xs j ()=.inr ()
 |[],_,_=>rfl
 |x::xs,j,h=>by unfold walk GE;rw[Aq (h x (Bu ..))];exact rI np xs (j+1) λy hy=>h y (AU _ hy)
end
end
end Go.Lift
namespace Go.Lift
open Go.RowKit Go.IntWalk
noncomputable section
variable[Sl]
set_option maxRecDepth 10000
section
variable{β:Type}{G:Option β->Prop}
theorem rJ{nz np nc zone day sec unit every cal mode:Int}{n:List UInt8}{ms:List Int}{ws:List (Int×Int)}(hz:0<=zone/\zone<nz)(hd:1<=day/\day<98981)(hs:0<=sec/\sec<=86399)(hu:0<=unit/\unit<=2)(he:1<=every/\every<=400)(hm:1<=ms.length/\ms.length<=12)(hmm:∀m∈ms,0<=m/\m<np)(hw:Cs ws=0)(hc:(mode=0/\cal=0)\/((1<=mode/\mode<=2)/\0<=cal/\cal<nc)):CG nz np nc (n,zone,(day,sec),unit,every,ms,ws,cal,mode)=0:=by
 unfold CG l2V;simp only
 rw[Hy hz,AB (show ¬day<1 by omega),Yo (by omega),Ef hs,Ef hu,Ef he,AB (show ¬(ms.length:Int)=0 by omega),AB (show ¬(12:Int)<(ms.length:Int) by omega),
  C1.2 λm h=>Hy (hmm m h),Aq hw,Ef (show 0<=mode/\mode<=2 by omega)]
 unfold l1V;simp only;rcases hc with⟨h1,h2⟩|⟨h1,h2⟩
 ·rw[Aq h1,Aq h2];rfl
 ·rw[AB (show ¬mode=0 by omega),Hy h2];rfl
theorem AiP{zs:List At}{ps:List Ay}{cs:List AF}{t6 l1:List UInt8}{t62 t63 t64 t65 t66 t67 t68 l2 l3 l4 l5 l6 l7 l8:Int}{b4:List Int}{b5 b7:List (Int×Int)}{k:VE β}(hp:1<=ps.length/\ps.length<=8)(hk:∀d' ms,AZ d'->(1<=ms.length/\ms.length<=12)->(∀m∈ms,0<=m/\m<(ps.length:Int))->G (k d' zs ps cs t6 t62 t63 t64 t65 t66 t67 t68 l1 l2 l3 l4 l5 l6 l7 l8 b4 b5 ms b7)):∀(j m:Nat)(d:Dice)(ms:List Int),j<m->AZ d->(1<=ms.length+j/\ms.length+j<=12)->(∀x∈ms,0<=x/\x<(ps.length:Int))->G (Md m k (j:Int) d zs ps cs t6 t62 t63 t64 t65 t66 t67 t68 l1 l2 l3 l4 l5 l6 l7 l8 b4 b5 ms b7):=by
 intro j
 induction j with
 |zero=>intro m d ms hm hd hl hx;obtain⟨m,rfl⟩:∃m',m=m'+1:=⟨m-1,by omega⟩;simp only[kG,PI];exact w_n (by simp) (hk _ _ hd (by omega) hx)
 |succ j ih=>
  intro m d ms hm hd hl hx;obtain⟨m,rfl⟩:∃m',m=m'+1:=⟨m-1,by omega⟩;simp only[kG,PI];refine w_p (by omega) ?_;refine B5 hd ⟨by omega,by omega⟩ λx d1 h1 h2 hd1=>?_;have hr:(ms.length+1)*8<=140737488355328:=by omega
  refine w_r hr ?_;simp(disch:=omega) only[i64_in];rw[show((j+1:Nat):Int)-1=(j:Int) by omega];refine ih m d1 _ (by omega) hd1 (by simp;omega) λy hy=>?_;rcases Ba.1 hy with hy|hy
  ·exact hx y hy
  ·rw[Cv.1 hy];exact⟨h1,h2⟩
theorem rK{zs:List At}{ps:List Ay}{cs:List AF}{d:Dice}{t6 l1:List UInt8}{t62 t63 t64 t65 t66 t67 t68 l2 l3 l4 l5 l6:Int}{b4 b6:List Int}{b5 b7:List (Int×Int)}{k:kB β}(hd:AZ d)(hc:cs.length<=8)(hk:∀d' c m,AZ d'->((m=0/\c=0)\/((1<=m/\m<=2)/\0<=c/\c<(cs.length:Int)))->G (k d' l1 l2 l3 l4 l5 l6 c m b6 b7)):G (Mc k d zs ps cs t6 t62 t63 t64 t65 t66 t67 t68 l1 l2 l3 l4 l5 l6 0 0 b4 b5 b6 b7):=by
 unfold Mc;rw[Ab];unfold VI;refine I6 hd ⟨by omega,by omega⟩ λb d1 hd1=>?_;unfold PH;rw[Ab];unfold VH;refine w_c (λ_=>?_) (λ_=>hk _ _ _ hd1 (.inl ⟨rfl,rfl⟩));refine w_d (λh=>?_) (λ_=>hk _ _ _ hd1 (.inl ⟨rfl,rfl⟩));refine B5 hd1 ⟨by omega,by omega⟩ λx d2 h1 h2 hd2=>?_;refine B5 hd2 ⟨by omega,by omega⟩ λy d3 h3 h4 hd3=>?_;simp(disch:=omega) only[i64_in];exact hk _ _ _ hd3 (.inr ⟨by omega,h1,h2⟩)
theorem rL{zs:List At}{ps:List Ay}{cs:List AF}{d:Dice}{t6 l1:List UInt8}{t62 t63 t64 t65 t66 t67 t68 l2 l3 l4 l5 l6:Int}{b4:List Int}{b5:List (Int×Int)}{k:kE β}(hd:AZ d)(hp:1<=ps.length/\ps.length<=8)(hc:cs.length<=8)(hk:∀d' c m ms ws,AZ d'->((m=0/\c=0)\/((1<=m/\m<=2)/\0<=c/\c<(cs.length:Int)))->(1<=ms.length/\ms.length<=12)->(∀x∈ms,0<=x/\x<(ps.length:Int))->Cs ws=0->G (k d' l1 l2 l3 l4 l5 l6 c m ms ws)):G (Me k d zs ps cs t6 t62 t63 t64 t65 t66 t67 t68 l1 l2 l3 l4 l5 l6 0 0 b4 b5 [] []):=by
 unfold Me;rw[Ab];unfold VK;refine B5 hd ⟨by omega,by omega⟩ λx d1 h1 h2 hd1=>?_;simp(disch:=omega) only[i64_in];unfold VJ;rw[Ab];obtain⟨j,hj⟩:∃j:Nat,1+x=j:=⟨(1+x).toNat,by omega⟩;rw[hj];refine AiP hp (λd2 ms hd2 hm hmm=>?_) j fuel d1 [] (AY (by omega)) hd1 (by simp;omega) (λy hy=>absurd hy Cd);refine I6 hd2 ⟨by omega,by omega⟩ λb d3 hd3=>?_;refine w_c (λ_=>?_) (λ_=>?_)
 ·refine rE hd3 λd4 ws hd4 hw=>?_
  exact rK hd4 hc λd5 c m hd5 hcm=>hk _ _ _ _ _ hd5 hcm hm hmm hw
 ·refine rK hd3 hc λd5 c m hd5 hcm=>hk _ _ _ _ _ hd5 hcm hm hmm ?_
  exact RH (t:=0) ⟨List.Pairwise.nil,λx hx=>absurd hx Cd⟩ (by simp)
theorem AiQ{zs:List At}{ps:List Ay}{cs:List AF}{n:List UInt8}{d:Dice}{k:AD->Dice->Option β}(hd:AZ d)(hz:1<=zs.length/\zs.length<=8)(hp:1<=ps.length/\ps.length<=8)(hc:cs.length<=8)(hk:∀l d',AZ d'->l.1=n->CG (zs.length:Int) (ps.length:Int) (cs.length:Int) l=0->G (k l d')):G (PJ zs ps cs n d k):=by
 unfold PJ;rw[Ab];refine B5 hd ⟨by omega,by omega⟩ λz d1 hz0 hz1 hd1=>?_;refine B5 hd1 ⟨by omega,by omega⟩ λy d2 hy0 hy1 hd2=>?_;refine FV hd2 (by decide) λs d3 hs hd3=>?_;have hs':0<=s/\s<=86399:=by simp at hs;omega
 refine B5 hd3 ⟨by omega,by omega⟩ λu d4 hu0 hu1 hd4=>?_;refine B5 hd4 ⟨by omega,by omega⟩ λe d5 he0 he1 hd5=>?_;simp(disch:=omega) only[i64_in];refine w_d (λ_=>?_) (λ_=>?_)
 ·refine FV hd5 (by decide) λe2 d6 he2 hd6=>?_
  have he2':1<=e2/\e2<=400:=by simp at he2;omega
  refine rL hd6 hp hc λd' c m ms ws hd' h1 h2 h3 h4=>hk _ _ hd' rfl ?_;exact rJ ⟨hz0,hz1⟩ (by omega) hs' (by omega) he2' h2 h3 h4 h1
 ·refine rL hd5 hp hc λd' c m ms ws hd' h1 h2 h3 h4=>hk _ _ hd' rfl ?_
  exact rJ ⟨hz0,hz1⟩ (by omega) hs' (by omega) (by omega) h2 h3 h4 h1
def zNames:List (List UInt8):=[[104,101,114,101],[116,104,101,114,101]]
def pNames:List (List UInt8):=[[97,100,97],[98,111,98],[99,108,101,111],[100,97,110],[101,118,101],[102,97,121],[103,117,115],[104,97,108]]
def cNames:List (List UInt8):=[[100,97,121,115]]
def sNames:List (List UInt8):=[[102,105,114,115,116],[115,101,99,111,110,100],[116,104,105,114,100]]
def Named{α:Type}(of:α->List UInt8)(L:List (List UInt8))(xs:List α):Prop:=xs.length<=L.length/\xs.map of=L.take xs.length
theorem Named.nil{α:Type}{of:α->List UInt8}{L:List (List UInt8)}:Named of L []:=⟨BZ _,by simp⟩
theorem Named.snoc{α:Type}{of:α->List UInt8}{L:List (List UInt8)}{xs:List α}{x:α}(h:Named of L xs)(hl:xs.length<L.length)(hx:of x=L.getD xs.length []):Named of L (xs++[x]):=by refine⟨by simp;omega,?_⟩;rw[Gc,h.2,Av,CO,RC [] hl,List.map_singleton,hx]
theorem Named.ok{α:Type}{of:α->List UInt8}{L:List (List UInt8)}{xs:List α}(h:Named of L xs)(hL:((List.range (L.length+1)).all λn=>EP (L.take n) [])=true):EP (xs.map of) []=true:=by rw[h.2];exact C1.1 hL xs.length (Kt.2 (by have:=h.1;omega))
theorem I7{α:Type}{P:α->Prop}{xs:List α}{x:α}(h:∀y∈xs,P y)(hx:P x):∀y∈xs++[x],P y:=by
 intro y hy;rcases Ba.1 hy with hy|hy
 ·exact h y hy
 ·rw[Cv.1 hy];exact hx
def RJ(zs:List At):Prop:=Named (·.1) zNames zs/\∀z∈zs,ZoneOk z/\Di z=0/\Ng z
def RK(nz:Int)(ps:List Ay):Prop:=Named (·.1) pNames ps/\∀p∈ps,Ez nz p=0
def RL(nz:Int)(cs:List AF):Prop:=Named (·.1) cNames cs/\∀x∈cs,calV nz x=0/\x.2.2.length<=20
theorem AiR{b3 b7:List At}{b4 b8:List Ay}{b5 b9:List AF}{b6 b10:List AK}{k:Vz β}(hk:∀d' zs,AZ d'->RJ zs->1<=zs.length->G (k d' b3 b4 b5 b6 zs b8 b9 b10)):∀(j m:Nat)(d:Dice)(zs:List At),j<m->AZ d->RJ zs->(1<=zs.length+j/\zs.length+j<=2)->G (LX m k (j:Int) d b3 b4 b5 b6 zs b8 b9 b10):=by
 intro j
 induction j with
 |zero=>intro m d zs hm hd hz hl;obtain⟨m,rfl⟩:∃m',m=m'+1:=⟨m-1,by omega⟩;simp only[jZ,PC];exact w_n (by simp) (hk _ _ hd hz (by omega))
 |succ j ih=>
  intro m d zs hm hd hz hl;obtain⟨m,rfl⟩:∃m',m=m'+1:=⟨m-1,by omega⟩;simp only[jZ,PC];refine w_p (by omega) ?_;refine w_i (by show 0<=(zs.length:Int)/\(zs.length:Int)<2;omega) ?_;refine AiH hd λz d1 hd1 hz1=>?_;have hr:(zs.length+1)*48<=140737488355328:=by omega
  refine w_r hr ?_;simp(disch:=omega) only[i64_in];rw[show((j+1:Nat):Int)-1=(j:Int) by omega];refine ih m d1 _ (by omega) hd1 ⟨hz.1.snoc (by show zs.length<2;omega) ?_,I7 hz.2 hz1.2⟩ (by simp;omega);have:=hz1.1;rw[AE]at this;exact this
theorem AiS{nz zone w r:Int}{n:List UInt8}{q:List (Int×Int)}{b:Bool}(hz:0<=zone/\zone<nz)(hq:Cs q=0)(hw:w∈[(0:Int),40,100,12])(hr:r∈[(0:Int),11,24,1]):Ez nz (n,zone,q,3600*w,3600*r,b)=0:=by
 unfold Ez;simp only
 have h1:GC (3600*w)=true:=by simp at hw;rcases hw with rfl|rfl|rfl|rfl<;>decide
 have h2:GC (3600*r)=true:=by simp at hr;rcases hr with rfl|rfl|rfl|rfl<;>decide
 rw[Hy hz,Aq hq,h1,h2];rfl
theorem AiT{b3 b7:List At}{b4:List Ay}{b5 b9:List AF}{b6 b10:List AK}{k:V1 β}(h7:1<=b7.length/\b7.length<=8)(hk:∀d' ps,AZ d'->RK (b7.length:Int) ps->(1<=ps.length/\ps.length<=8)->G (k d' b3 b4 b5 b6 b7 ps b9 b10)):∀(j m:Nat)(d:Dice)(ps:List Ay),j<m->AZ d->RK (b7.length:Int) ps->(1<=ps.length+j/\ps.length+j<=8)->G (J8 m k (j:Int) d b3 b4 b5 b6 b7 ps b9 b10):=by
 intro j
 induction j with
 |zero=>intro m d ps hm hd hz hl;obtain⟨m,rfl⟩:∃m',m=m'+1:=⟨m-1,by omega⟩;simp only[k7,PD];exact w_n (by simp) (hk _ _ hd hz (by omega))
 |succ j ih=>
  intro m d ps hm hd hz hl;obtain⟨m,rfl⟩:∃m',m=m'+1:=⟨m-1,by omega⟩;simp only[k7,PD];refine w_p (by omega) ?_;unfold Lt;rw[Ab];refine w_i (by show 0<=(ps.length:Int)/\(ps.length:Int)<8;omega) ?_;refine B5 hd ⟨by omega,by omega⟩ λz d1 h1 h2 hd1=>?_;refine I6 hd1 ⟨by omega,by omega⟩ λbc d2 hd2=>?_;refine I6 hd2 ⟨by omega,by omega⟩ λbq d3 hd3=>?_
  have key:∀(d4:Dice)(q:List (Int×Int)),AZ d4->Cs q=0->G (LY (λi_2 d2 b3_2 b4_2 b5_2 b6_2 b7_2 b8_2 b9_2 b10_2=>J8 m k (IntKind.i64.wrap (i_2-1)) d2 b3_2 b4_2 b5_2 b6_2 b7_2 b8_2 b9_2 b10_2) ((j+1:Nat):Int) d4
    (List.getD pNames (Int.toNat (ps.length:Int)) []) z 0 0 bc b3 b4 b5 b6 b7 ps b9 b10 q):=by
   intro d4 q hd4 hq;unfold LY;rw[Ab];unfold VA;refine FV hd4 (by decide) λw d5 hw hd5=>?_;refine FV hd5 (by decide) λr d6 hr hd6=>?_;have hw':0<=w/\w<=100:=by simp at hw;omega
   have hr':0<=r/\r<=100:=by simp at hr;omega
   have hr:(ps.length+1)*72<=140737488355328:=by omega
   refine w_r hr ?_;simp(disch:=omega) only[i64_in];rw[show((j+1:Nat):Int)-1=(j:Int) by omega];refine ih m d6 _ (by omega) hd6 ⟨hz.1.snoc (by show ps.length<8;omega) (by rw[AE]),I7 hz.2 ?_⟩ (by simp;omega);exact AiS ⟨h1,h2⟩ hq hw (by assumption)
  refine w_c (λ_=>?_) (λ_=>?_)
  ·exact rE hd3 λd4 q hd4 hq=>key d4 q hd4 hq
  ·exact key d3 [] hd3 (RH (t:=0) ⟨List.Pairwise.nil,λx hx=>absurd hx Cd⟩ (by simp))
theorem AiU{nz zone:Int}{n:List UInt8}{ds:List Int}(hz:0<=zone/\zone<nz)(hl:ds.length<=64)(hd:ds.Pairwise (· < ·))(hb:∀x∈ds,0<=x/\x<98981):calV nz (n,zone,ds)=0:=by
 unfold calV;simp only;rw[Hy hz,AB (by omega),C1.2 λx hx=>Yo (hb x hx),rC 0 λi hi=>?_]
 ·rfl
 unfold ascG;by_cases h0:(0:Int)<i
 ·have:=Sb.1 hd (i-1) i (by omega) hi (by omega)
  have e1:ds.getD i 0=ds[i]:=by simp[List.getD,hi]
  have e2:ds.getD (i-1) 0=ds[i-1]:=by simp[List.getD,show i-1<ds.length by omega]
  rw[Aq h0,e1,e2,AB (show ¬ds[i]<=ds[i-1] by omega)];rfl
 ·rw[AB h0];rfl
theorem AiV{i z:Int}{n:List UInt8}{b4 b8:List At}{b5 b9:List Ay}{b6 b10:List AF}{b7 b11:List AK}{k:V7 β}(hk:∀d' ds,AZ d'->ds.length<=20->ds.Pairwise (· < ·)->(∀x∈ds,0<=x/\x<98981)->G (k i d' n z b4 b5 b6 b7 b8 b9 b10 b11 ds)):∀(j m:Nat)(day:Int)(d:Dice)(ds:List Int),j<m->AZ d->ds.length+j<=20->ds.Pairwise (· < ·)->(∀x∈ds,0<=x/\x<=day)->(0<=day/\day+6*(j:Int)<98981)->G (LZ m k i (j:Int) day d n z b4 b5 b6 b7 b8 b9 b10 b11 ds):=by
 intro j
 induction j with
 |zero=>intro m day d ds hm hd hl hp hb hdy;obtain⟨m,rfl⟩:∃m',m=m'+1:=⟨m-1,by omega⟩;simp only[k8,PE];exact w_n (by simp) (hk _ _ hd (by omega) hp λx hx=>by have:=hb x hx;omega)
 |succ j ih=>
  intro m day d ds hm hd hl hp hb hdy;obtain⟨m,rfl⟩:∃m',m=m'+1:=⟨m-1,by omega⟩;simp only[k8,PE];refine w_p (by omega) ?_;refine B5 hd ⟨by omega,by omega⟩ λx d1 h1 h2 hd1=>?_;have hr:(ds.length+1)*8<=140737488355328:=by omega
  refine w_r hr ?_;simp(disch:=omega) only[i64_in];rw[show((j+1:Nat):Int)-1=(j:Int) by omega];refine ih m _ d1 _ (by omega) hd1 (by simp;omega) ?_ ?_ (by omega)
  ·rw[D7]
   refine⟨hp,IG _ _,λa ha b hb'=>?_⟩;rw[Cv.1 hb'];have:=hb a ha;omega
  ·intro a ha
   rcases Ba.1 ha with ha|ha
   ·have:=hb a ha;omega
   ·rw[Cv.1 ha];omega
theorem AiW{b3 b7:List At}{b4 b8:List Ay}{b5:List AF}{b6 b10:List AK}{k:V4 β}(h7:1<=b7.length/\b7.length<=8)(hk:∀d' cs,AZ d'->RL (b7.length:Int) cs->G (k d' b3 b4 b5 b6 b7 b8 cs b10)):∀(j m:Nat)(d:Dice)(cs:List AF),j<m->AZ d->RL (b7.length:Int) cs->cs.length+j<=1->G (Ma m k (j:Int) d b3 b4 b5 b6 b7 b8 cs b10):=by
 intro j
 induction j with
 |zero=>intro m d cs hm hd hz hl;obtain⟨m,rfl⟩:∃m',m=m'+1:=⟨m-1,by omega⟩;simp only[k9,PF];exact w_n (by simp) (hk _ _ hd hz)
 |succ j ih=>
  intro m d cs hm hd hz hl;obtain⟨m,rfl⟩:∃m',m=m'+1:=⟨m-1,by omega⟩;simp only[k9,PF];refine w_p (by omega) ?_;refine B5 hd ⟨by omega,by omega⟩ λz d1 h1 h2 hd1=>?_;refine B5 hd1 ⟨by omega,by omega⟩ λt d2 h3 h4 hd2=>?_;unfold VC;rw[Ab];obtain⟨q,rfl⟩:∃q:Nat,t=q:=⟨t.toNat,by omega⟩;refine AiV (λd3 ds hd3 g1 g2 g3=>?_) q fuel 20454 d2 [] (AY (by omega)) hd2 (by simp;omega) List.Pairwise.nil (λx hx=>absurd hx Cd) (by omega);have hr:(cs.length+1)*48<=140737488355328:=by omega
  refine w_r hr ?_;simp(disch:=omega) only[i64_in];rw[show((j+1:Nat):Int)-1=(j:Int) by omega];refine ih m d3 _ (by omega) hd3 ⟨hz.1.snoc (by show cs.length<1;omega) ?_,I7 hz.2 ⟨AiU ⟨h1,h2⟩ (by omega) g2 g3,g1⟩⟩ (by simp;omega);rw[show cs.length=0 by omega];rfl
theorem AiX{d:Dice}{k:List At->List Ay->List AF->Dice->List AK->Option β}(hd:AZ d)(hk:∀d' zs ps cs,AZ d'->RJ zs->1<=zs.length->RK (zs.length:Int) ps->(1<=ps.length/\ps.length<=8)->RL (zs.length:Int) cs->G (k zs ps cs d' [])):G (PG d k):=by
 unfold PG;rw[Ab];refine B5 hd ⟨by omega,by omega⟩ λx d1 h1 h2 hd1=>?_;simp(disch:=omega) only[i64_in];unfold V9;rw[Ab];obtain⟨j,hj⟩:∃j:Nat,1+x=j:=⟨(1+x).toNat,by omega⟩;rw[hj];refine AiR (b7:=[]) (λd2 zs hd2 hz hzl=>?_) j fuel d1 [] (AY (by omega)) hd1 ⟨Named.nil,λz hz=>absurd hz Cd⟩ (by simp;omega);refine B5 hd2 ⟨by omega,by omega⟩ λy d3 h3 h4 hd3=>?_;simp(disch:=omega) only[i64_in];unfold VB;rw[Ab];obtain⟨q,hq⟩:∃q:Nat,1+y=q:=⟨(1+y).toNat,by omega⟩;rw[hq];have hz8:zs.length<=8:=by have:=hz.1.1;have e:zNames.length=2:=rfl;omega
 refine AiT ⟨hzl,hz8⟩ (λd4 ps hd4 hp hpl=>?_) q fuel d3 [] (AY (by omega)) hd3 ⟨Named.nil,λz hz=>absurd hz Cd⟩ (by simp;omega);refine B5 hd4 ⟨by omega,by omega⟩ λt d5 h5 h6 hd5=>?_;unfold VD;rw[Ab];obtain⟨c,rfl⟩:∃c:Nat,t=c:=⟨t.toNat,by omega⟩;exact AiW ⟨hzl,hz8⟩ (λd6 cs hd6 hc=>hk _ _ _ _ hd6 hz hzl hp hpl hc) c fuel d5 [] (AY (by omega)) hd5 ⟨Named.nil,λz hz=>absurd hz Cd⟩ (by simp;omega)
end
end
end Go.Lift
namespace Go.Lift
open Go.RowKit Go.IntWalk
noncomputable section
variable[Sl]
set_option maxRecDepth 10000
section
variable{β:Type}{G:Option β->Prop}
def Yr(nz np nc:Int)(ls:List AD):Prop:=Named (·.1) pNames ls/\∀l∈ls,CG nz np nc l=0
def Ys(nz np nc:Int)(ss:List AK):Prop:=Named (·.1) sNames ss/\∀s∈ss,DH nz np nc s=0/\∀x∈s.2.2,EdOk np x
theorem rM:((List.range (pNames.length+1)).all λn=>EP (pNames.take n) [])=true:=by kernel_rfl
theorem AiY:((List.range (sNames.length+1)).all λn=>EP (sNames.take n) [])=true:=by kernel_rfl
theorem AiZ:((List.range (zNames.length+1)).all λn=>EP (zNames.take n) [])=true:=by kernel_rfl
theorem Aj0:((List.range (cNames.length+1)).all λn=>EP (cNames.take n) [])=true:=by kernel_rfl
theorem Aj1{nz np nc:Int}{n:List UInt8}{ls:List AD}{es:List Ed}(hl:Yr nz np nc ls)(h6:ls.length<=6)(he:∀x∈es,DG np x=0)(h48:es.length<=48):DH nz np nc (n,ls,es)=0:=by unfold DH;simp only;rw[AB (by omega),AB (by omega),Aq (RI (hl.1.ok rM) hl.2),rI np es 0 he];rfl
theorem Aj2{i:Int}{zs b4:List At}{ps b5:List Ay}{cs b6:List AF}{s:List UInt8}{b7 b8:List AK}{es:List Ed}{k:Wa β}(hz:1<=zs.length/\zs.length<=8)(hp:1<=ps.length/\ps.length<=8)(hc:cs.length<=8)(hk:∀d' ls,AZ d'->Yr (zs.length:Int) (ps.length:Int) (cs.length:Int) ls->ls.length<=6->G (k i d' zs ps cs s b4 b5 b6 b7 b8 ls es)):∀(j m:Nat)(d:Dice)(ls:List AD),j<m->AZ d->Yr (zs.length:Int) (ps.length:Int) (cs.length:Int) ls->ls.length+j<=6->G (Mp m k i (j:Int) d zs ps cs s b4 b5 b6 b7 b8 ls es):=by
 intro j
 induction j with
 |zero=>intro m d ls hm hd hl h6;obtain⟨m,rfl⟩:∃m',m=m'+1:=⟨m-1,by omega⟩;simp only[kZ,Qc];exact w_n (by simp) (hk _ _ hd hl (by omega))
 |succ j ih=>
  intro m d ls hm hd hl h6;obtain⟨m,rfl⟩:∃m',m=m'+1:=⟨m-1,by omega⟩;simp only[kZ,Qc];refine w_p (by omega) ?_;unfold Lt;rw[Ab];refine w_i (by show 0<=(ls.length:Int)/\(ls.length:Int)<8;omega) ?_;refine AiQ hd hz hp hc λl d1 hd1 hn hv=>?_;have hr:(ls.length+1)*120<=140737488355328:=by omega
  refine w_r hr ?_;simp(disch:=omega) only[i64_in];rw[show((j+1:Nat):Int)-1=(j:Int) by omega];refine ih m d1 _ (by omega) hd1 ⟨hl.1.snoc (by show ls.length<8;omega) ?_,I7 hl.2 hv⟩ (by simp;omega);rw[AE]at hn;exact hn
theorem Aj3{i:Int}{zs b4:List At}{ps b5:List Ay}{cs b6:List AF}{s:List UInt8}{b7 b8:List AK}{ls:List AD}{k:Wc β}(hp:1<=ps.length/\ps.length<=8)(hk:∀d' es,AZ d'->(∀x∈es,EdOk (ps.length:Int) x)->es.length<=3->G (k i d' zs ps cs s b4 b5 b6 b7 b8 ls es)):∀(j m:Nat)(d:Dice)(es:List Ed),j<m->AZ d->(∀x∈es,EdOk (ps.length:Int) x)->es.length+j<=3->G (Mq m k i (j:Int) d zs ps cs s b4 b5 b6 b7 b8 ls es):=by
 intro j
 induction j with
 |zero=>intro m d es hm hd hl h6;obtain⟨m,rfl⟩:∃m',m=m'+1:=⟨m-1,by omega⟩;simp only[lB,Qd];exact w_n (by simp) (hk _ _ hd hl (by omega))
 |succ j ih=>
  intro m d es hm hd hl h6;obtain⟨m,rfl⟩:∃m',m=m'+1:=⟨m-1,by omega⟩;simp only[lB,Qd];refine w_p (by omega) ?_;refine AiN hd hp λx d1 hd1 hv=>?_;have hr:(es.length+1)*40<=140737488355328:=by omega
  refine w_r hr ?_;simp(disch:=omega) only[i64_in];rw[show((j+1:Nat):Int)-1=(j:Int) by omega];exact ih m d1 _ (by omega) hd1 (I7 hl hv) (by simp;omega)
theorem Aj4{zs b3:List At}{ps b4:List Ay}{cs b5:List AF}{b6:List AK}{k:VY β}(hz:1<=zs.length/\zs.length<=8)(hp:1<=ps.length/\ps.length<=8)(hc:cs.length<=8)(hk:∀d' ss,AZ d'->Ys (zs.length:Int) (ps.length:Int) (cs.length:Int) ss->(1<=ss.length/\∀s∈ss,s.2.2.length<=3)->G (k d' zs ps cs b3 b4 b5 b6 ss)):∀(j m:Nat)(d:Dice)(ss:List AK),j<m->AZ d->Ys (zs.length:Int) (ps.length:Int) (cs.length:Int) ss->(1<=ss.length+j/\ss.length+j<=3)->(∀s∈ss,s.2.2.length<=3)->G (Mr m k (j:Int) d zs ps cs b3 b4 b5 b6 ss):=by
 intro j
 induction j with
 |zero=>intro m d ss hm hd hl h6 he3;obtain⟨m,rfl⟩:∃m',m=m'+1:=⟨m-1,by omega⟩;simp only[lC,Qe];exact w_n (by simp) (hk _ _ hd hl ⟨by omega,he3⟩)
 |succ j ih=>
  intro m d ss hm hd hl h6 he3;obtain⟨m,rfl⟩:∃m',m=m'+1:=⟨m-1,by omega⟩;simp only[lC,Qe];refine w_p (by omega) ?_
  have hm3:Int.tmod (ss.length:Int) 3=(ss.length:Int):=by rw[Dk (by omega),Sk (by omega) (by omega)]
  rw[hm3];refine w_i (by show 0<=(ss.length:Int)/\(ss.length:Int)<3;omega) ?_;refine B5 hd ⟨by omega,by omega⟩ λx d1 h1 h2 hd1=>?_;unfold We;rw[Ab];obtain⟨q,rfl⟩:∃q:Nat,x=q:=⟨x.toNat,by omega⟩;refine Aj2 hz hp hc (λd2 ls hd2 hls hl6=>?_) q fuel d1 [] (AY (by omega)) hd1 ⟨Named.nil,λz hz=>absurd hz Cd⟩ (by simp;omega);refine B5 hd2 ⟨by omega,by omega⟩ λy d3 h3 h4 hd3=>?_;unfold Wg;rw[Ab];obtain⟨p,rfl⟩:∃p:Nat,y=p:=⟨y.toNat,by omega⟩;refine Aj3 hp (λd4 es hd4 hes he48=>?_) p fuel d3 [] (AY (by omega)) hd3 (λz hz=>absurd hz Cd) (by simp;omega);have hr:(ss.length+1)*64<=140737488355328:=by omega
  refine w_r hr ?_;simp(disch:=omega) only[i64_in];rw[show((j+1:Nat):Int)-1=(j:Int) by omega];refine ih m d4 _ (by omega) hd4 ⟨hl.1.snoc (by show ss.length<3;omega) ?_,I7 hl.2 ⟨Aj1 hls hl6 (λx hx=>(hes x hx).1) (by omega),hes⟩⟩ (by simp;omega) (I7 he3 he48);rw[AE];rfl
structure ConfOk (c:Au):Prop where
 oz:RJ c.1
 op:RK (c.1.length:Int) c.2.1
 oc:RL (c.1.length:Int) c.2.2.1
 os:Ys (c.1.length:Int) (c.2.1.length:Int) (c.2.2.1.length:Int) c.2.2.2
theorem Aj5{n:Int}{d:Dice}{k:Au->Dice->Option β}(hd:AZ d)(hn:1<=n/\n<=3)(hk:∀c d',AZ d'->ConfOk c->(1<=c.1.length/\1<=c.2.1.length/\1<=c.2.2.2.length)->(∀s∈c.2.2.2,s.2.2.length<=3)->G (k c d')):G (Qf n d k):=by
 unfold Qf;rw[Ab];refine AiX hd λd1 zs ps cs hd1 hz hzl hp hpl hc=>?_;refine B5 hd1 ⟨by omega,by omega⟩ λx d2 h1 h2 hd2=>?_;simp(disch:=omega) only[i64_in];unfold Wh;rw[Ab];obtain⟨q,hq⟩:∃q:Nat,1+x=q:=⟨(1+x).toNat,by omega⟩;rw[hq];have hz8:zs.length<=8:=by have:=hz.1.1;have e:zNames.length=2:=rfl;omega
 have hc8:cs.length<=8:=by have:=hc.1.1;have e:cNames.length=1:=rfl;omega
 refine Aj4 ⟨hzl,hz8⟩ hpl hc8 (λd3 ss hd3 hs hs1=>?_) q fuel d2 [] (AY (by omega)) hd2 ⟨Named.nil,λz hz=>absurd hz Cd⟩ (by simp;omega) (λz hz=>absurd hz Cd);have hcf:ConfOk (zs,ps,cs,ss):=⟨hz,hp,hc,hs⟩;exact hk _ _ hd3 hcf ⟨hzl,hpl.1,hs1.1⟩ hs1.2
theorem rN(nz:Int):∀(xs:List Ay)(j:Nat)(l:List (List UInt8)),EP (xs.map (·.1)) l=true->DI∉xs.map (·.1)->(∀x∈xs,Ez nz x=0)->walk (GF nz) xs j l=.inr (l++xs.map (·.1))
 |[],j,l,_,_,_=>by simp[walk]
 |x::xs,j,l,h,hn,hc=>by
  simp only[Bp,EP,Bv]at h;obtain⟨h1,h2,h3⟩:=h;have h2:x.1∉l:=by simpa using h2
  rw[Bp,AH,not_or]at hn
  have hf:FT nz x l=0:=by unfold FT;rw[AB (show ¬x.1=DI from λe=>hn.1 e.symm),rF h1 h2];rfl
  have hg:GF nz j x l=.inr (l++[x.1]):=by unfold GF;rw[hf,Aq (hc x (Bu ..))];rfl
  rw[Hx hg,rN nz xs (j+1) _ h3 hn.2 λy hy=>hc y (AU _ hy)];simp
theorem rO{c:Au}(h:ConfOk c):Nd Di c=0:=by
 have e1:zNames.length=2:=rfl;have e2:pNames.length=8:=rfl;have e3:cNames.length=1:=rfl;have e4:sNames.length=3:=rfl;have l1:=h.oz.1.1;have l2:=h.op.1.1;have l3:=h.oc.1.1;have l4:=h.os.1.1
 have hnob:DI∉c.2.1.map (·.1):=by rw[h.op.1.2];intro g;have:=Sh g;exact absurd this (by decide)
 unfold Nd;rw[AB (by omega),AB (by omega),AB (by omega),AB (by omega),RI (h.oz.1.ok AiZ) λz hz=>(h.oz.2 z hz).2.1]
 have hp:Nc (c.1.length:Int) c.2.1=0:=by unfold Nc;rw[rN _ _ 0 [] (h.op.1.ok rM) hnob h.op.2];rfl
 rw[hp,RI (h.oc.1.ok Aj0) (λx hx=>(h.oc.2 x hx).1),RI (h.os.1.ok AiY) (λx hx=>(h.os.2 x hx).1)];rfl
def idxG{α:Type}(of:α->List UInt8)(n:List UInt8)(j:Nat)(x:α)(_:Unit):Int⊕Unit:=cond (decide (of x=n)) (.inl (j:Int)) (.inr ())
def idxV{α:Type}(of:α->List UInt8)(n:List UInt8)(xs:List α):Int:=match walk (idxG of n) xs 0 ()with|.inl j=>j|.inr _=>-1
theorem rP(c:Au)(n:List UInt8)(h:c.2.1.length<=1000000)(k:Int->Bool->Option β):JF c n k=k (if idxV (·.1) n c.2.1>0 then idxV (·.1) n c.2.1 else 0) (decide (0<=idxV (·.1) n c.2.1)):=by
 unfold JF;rw[Ab];unfold US;rw[Ab];unfold UR;rw[Ab];generalize hK:(λ(r:Int)(_:List UInt8)=>k (if r>0 then r else 0) (decide (0<=r)))=K;refine(EO (λm i(_:Unit)=>LF m (λt b=>K t b) (λb=>K (-1) b) c.2.1 (c.2.1.length:Int) i n) (idxG (·.1) n) (λe=>K e n) (λ_=>K (-1) n) ([],0,[],0,0,false) c.2.1 () fuel (AY (by omega)) (λm i _ hi=>?_) (λm _=>?_)).trans ?_
 ·simp only[gQ,Pf]
  refine(Ah (by omega)).trans ?_;refine(Ai (by omega)).trans ?_;rw[AE,i64_in ((i:Int)+1) (by omega)];unfold UP idxG;rw[Ab];show cond (decide _) _ _=_;cases decide ((c.2.1.getD i ([],0,[],0,0,false)).1=n)<;>rfl
 ·simp only[gQ,Pf]
  exact Ad (by omega)
 ·subst hK
  unfold idxV;cases walk (idxG (·.1) n) c.2.1 0 ()<;>rfl
theorem rQ{α:Type}{of:α->List UInt8}{n:List UInt8}:∀(xs:List α)(j:Nat),(∀x∈xs,of x≠n)->walk (idxG of n) xs j ()=.inr ()
 |[],_,_=>rfl
 |x::xs,j,h=>by
  have hg:idxG of n j x ()=.inr ():=by unfold idxG;rw[AB (h x (Bu ..))];rfl
  rw[Hx hg];exact rQ xs (j+1) λy hy=>h y (AU _ hy)
theorem Aj6{α:Type}{of:α->List UInt8}{n:List UInt8}{a:List α}{x:α}{b:List α}(j:Nat)(ha:∀y∈a,of y≠n)(hx:of x=n):walk (idxG of n) (a++x::b) j ()=.inl ((j+a.length:Nat):Int):=by rw[rH _ a (x::b) j () () (rQ a j ha)];unfold walk idxG;rw[Aq hx];rfl
theorem Yt{α:Type}{of:α->List UInt8}{xs:List α}(h:(xs.map of).Nodup){i:Nat}(hi:i<xs.length)(d:α):idxV of (of (xs.getD i d)) xs=(i:Int):=by
 have e:xs=xs.take i++xs.getD i d::xs.drop (i+1):=by have h1:=(H4 (i+1) xs).symm;rw[RC d hi,AW]at h1;simpa using h1
 have hlen:(xs.take i).length=i:=by simp;omega
 have hne:∀y∈xs.take i,of y≠of (xs.getD i d):=by intro y hy g;rw[e,Gc,Sm]at h;exact h.2.2 (of y) (Kp hy) (of (xs.getD i d)) (by simp) g
 have hw:=Aj6 (b:=xs.drop (i+1)) 0 hne (rfl:of (xs.getD i d)=_);unfold idxV;rw[<-e]at hw;rw[hw,hlen];simp
theorem Named.nodup{α:Type}{of:α->List UInt8}{L:List (List UInt8)}{xs:List α}(h:Named of L xs)(hL:L.Nodup):(xs.map of).Nodup:=by rw[h.2];exact hL.sublist (List.take_sublist _ _)
end
end
end Go.Lift
namespace Go.Lift
open Go.RowKit Go.IntWalk
noncomputable section
variable[Sl]
set_option maxRecDepth 10000
abbrev Tok:=AR
def wd(s:List UInt8):Tok:=(0,s,0)
def nu(t n:Int):Tok:=(t,[],n)
def numb:Nat->List (List Tok)->List (Int×List Tok)
 |_,[]=>[]
 |n,t::r=>((n:Int)+1,t)::numb (n+1) r
theorem I8:∀(n:Nat)(ls:List (List Tok)),(numb n ls).length=ls.length
 |_,[]=>rfl
 |n,t::r=>by simp[numb,I8 (n+1) r]
theorem rR:∀(n:Nat)(a b:List (List Tok)),numb n (a++b)=numb n a++numb (n+a.length) b
 |_,[],_=>rfl
 |n,t::r,b=>by simp only[Cw,numb,rR (n+1) r b,Aw];rw[show n+1+r.length=n+(r.length+1) by omega]
def GG:List (List UInt8):=[[109,111,110],[116,117,101],[119,101,100],[116,104,117],[102,114,105],[115,97,116],[115,117,110]]
def Ni:List (List UInt8):=[[106,97,110],[102,101,98],[109,97,114],[97,112,114],[109,97,121],[106,117,110],[106,117,108],[97,117,103],[115,101,112],[111,99,116],[110,111,118],[100,101,99]]
def Nj:List (List UInt8):=[[102,105,114,115,116],[115,101,99,111,110,100],[116,104,105,114,100],[102,111,117,114,116,104],[108,97,115,116]]
def untNs:List (List UInt8):=[[104,111,117,114,115],[100,97,121,115],[119,101,101,107,115]]
def Nk:List (List UInt8):=[[],[110,111,116],[111,110,108,121]]
def EQ:List (List UInt8):=[[108,101,97,118,101],[111,118,101,114,114,105,100,101],[115,119,97,112]]
def at'(l:List (List UInt8))(n:Int):List UInt8:=l.getD n.toNat []
section
variable{β:Type}
theorem Dw(s:List UInt8)(k:Tok->Option β):C8 s k=k (wd s):=by unfold C8;rw[Ab];rfl
theorem Nl(n:Int)(k:Tok->Option β):G4 n k=k (nu 1 n):=by unfold G4;rw[Ab];rfl
theorem RM(n:Int)(k:Tok->Option β):Hl n k=k (nu 2 n):=by unfold Hl;rw[Ab];rfl
theorem rS(n:Int)(k:Tok->Option β):J0 n k=k (nu 3 n):=by unfold J0;rw[Ab];rfl
theorem rT(n:Int)(k:Tok->Option β):Lu n k=k (nu 4 n):=by unfold Lu;rw[Ab];rfl
theorem rU(n:Int)(k:Tok->Option β):Lv n k=k (nu 5 n):=by unfold Lv;rw[Ab];rfl
theorem Yu{n:Int}(h:0<=n/\n<7)(k:Tok->Option β):Jz n k=k (wd (at' GG n)):=by unfold Jz;rw[Ab];exact(Ai (show 0<=n/\n<((7:Nat):Int)from h)).trans (Dw _ _)
variable{w:List At}{w2:List Ay}{w3:List AF}{w4:List AK}
theorem Ft(kw:List UInt8)(toks:List Tok)(ls:List (List Tok))(h1:ls.length<=1000000)(h2:toks.length<=1000000)(k:List At->List Ay->List AF->List AK->List (Int×List Tok)->Option β):BR kw toks w w2 w3 w4 (numb 0 ls) k=k w w2 w3 w4 (numb 0 (ls++[wd kw::toks])):=by
 unfold BR;rw[Ab];refine(Dw _ _).trans ?_;refine(Dh (show(1+toks.length)*32<=_ by omega)).trans ?_;refine((Aj (λb=>cond b _ none) (Bool.true_and _)).trans (Dh (show((numb 0 ls).length+1)*32<=_ by rw[I8];omega))).trans ?_;rw[rR,I8,i64_in ((ls.length:Int)+1) (by omega),BW];rfl
theorem Yv{i:Int}(h:0<=i/\i<(w.length:Int)){b:List (Int×List Tok)}(k:Tok->List At->List Ay->List AF->List AK->List (Int×List Tok)->Option β):Il i w w2 w3 w4 b k=k (wd (w.getD i.toNat ([],0,[])).1) w w2 w3 w4 b:=by
 unfold Il;rw[Ab];exact(Ai h).trans (Dw _ _)
def whoB(w2:List Ay)(i:Int):List UInt8:=if i<0 then DI else(w2.getD i.toNat ([],0,[],0,0,false)).1
theorem Yw{i:Int}(h:i<(w2.length:Int)){b:List (Int×List Tok)}(k:Tok->List At->List Ay->List AF->List AK->List (Int×List Tok)->Option β):CX i w w2 w3 w4 b k=k (wd (whoB w2 i)) w w2 w3 w4 b:=by
 unfold CX whoB;rw[Ab];by_cases hi:i<0
 ·rw[if_pos hi]
  exact(Ah hi).trans (Dw _ _)
 ·rw[if_neg hi]
  exact(Ad hi).trans ((Ai ⟨by omega,h⟩).trans (Dw _ _))
def stW(kw:List UInt8)(x:Int×Int):List Tok:=
 [wd kw,wd (at' GG (Int.tdiv x.1 86400)),nu 2 (Int.tmod x.1 86400),wd (at' GG (Int.tdiv (x.2-1) 86400)),nu 2 (x.2-Int.tdiv (x.2-1) 86400*86400)]
def PWin(x:Int×Int):Prop:=0<=x.1/\x.1<604800/\1<=x.2/\x.2<=604800
theorem JY{a:Int}(h:0<=a/\a<604800):0<=Int.tdiv a 86400/\Int.tdiv a 86400<7:=by rw[DN h.1];omega
theorem rV(kw:List UInt8)(l:List (Int×Int))(ls:List (List Tok))(h1:ls.length+l.length<=1000000)(hl:∀x∈l,PWin x)(k:List At->List Ay->List AF->List AK->List (Int×List Tok)->Option β):Ir kw l w w2 w3 w4 (numb 0 ls) k=k w w2 w3 w4 (numb 0 (ls++l.map (stW kw))):=by
 unfold Ir;rw[Ab];unfold Vc;rw[Ab,<-AiO (stW kw) l ls]
 refine R5 (λi s=>s.length=ls.length+i) (λm i s=>LL m (λb0_ b0_2 b0_3 b0_4 b1_2=>k b0_ b0_2 b0_3 b0_4 b1_2) kw l (l.length:Int) i w w2 w3 w4 (numb 0 s)) (λs x=>s++[stW kw x]) (λs=>k w w2 w3 w4 (numb 0 s)) ((0:Int),(0:Int)) l ls fuel (AY (by omega)) rfl
  (λi s hi hs=>by rw[Av,CO];omega) (λm i s hi hs=>?_) (λm s hs=>?_)
 ·have hx:=hl _ (Cc (d:=((0:Int),(0:Int))) hi)
  obtain⟨x1,x2,x3,x4⟩:=hx;generalize hq:l.getD i ((0:Int),(0:Int))=q at x1 x2 x3 x4;simp only[iG,Pt];refine(Ah (by omega)).trans ?_;refine(Ai (by omega)).trans ?_;rw[AE,hq];have d1:=JY ⟨x1,x2⟩;have d2:=JY (a:=q.2-1) ⟨by omega,by omega⟩;rw[i64_in (q.2-1) (by omega),i64_in (Int.tdiv (q.2-1) 86400) (by omega),i64_in (Int.tdiv q.1 86400) (by omega),i64_in (Int.tdiv (q.2-1) 86400*86400) (by omega),i64_in (q.2-Int.tdiv (q.2-1) 86400*86400) (by omega)];refine(Yu d1 _).trans ?_;refine(RM _ _).trans ?_;refine(Yu d2 _).trans ?_;refine(RM _ _).trans ?_;refine(Ft kw _ s (by omega) (by simp) _).trans ?_;rw[i64_in ((i:Int)+1) (by omega)];rfl
 ·simp only[iG,Pt]
  exact Ad (by omega)
end
end
end Go.Lift
namespace Go.Lift
open Go.RowKit Go.IntWalk
noncomputable section
variable[Sl]
set_option maxRecDepth 10000
theorem cz{b:Bool}{e x:Int}(h:cond b e x=0)(he:e≠0:=by decide):b=false/\x=0:=by
 cases b with
 |true=>exact absurd h he
 |false=>exact⟨rfl,h⟩
theorem nt{b:Bool}(h:(!b)=false):b=true:=by simpa using h
theorem I9{i n:Int}(h:ixI i n=true):0<=i/\i<n:=by unfold ixI at h;simpa using h
theorem JZ{i a b:Int}(h:inI i a b=true):a<=i/\i<=b:=by unfold inI at h;simpa using h
theorem Yx{i:Int}(h:dayI i=true):0<=i/\i<98981:=by unfold dayI at h;simpa using h
theorem or2{a b:Bool}(h:(a||b)=false):a=false/\b=false:=by simpa using h
theorem df{p:Prop}[Decidable p](h:decide p=false):¬p:=N9 h
theorem dt{p:Prop}[Decidable p](h:decide p=true):p:=Az h
theorem RN{α σ:Type}{g:Nat->α->σ->Int⊕σ}{P:α->Prop}(hne:∀j x s,g j x s≠.inl 0)(hP:∀j x s s',g j x s=.inr s'->P x):∀(xs:List α)(j:Nat)(s:σ),errV (walk g xs j s)=0->∀x∈xs,P x
 |[],_,_,_,x,hx=>absurd hx Cd
 |y::r,j,s,h,x,hx=>by
  unfold walk at h;cases hg:g j y s with
  |inl e=>rw[hg]at h;exact absurd (hg.trans (Aj Sum.inl (show e=0 from h))) (hne j y s)
  |inr s'=>
   rw[hg]at h;rcases AH.1 hx with e|hx
   ·rw[e];exact hP _ _ _ _ hg
   ·exact RN hne hP r (j+1) s' h x hx
theorem Nm{α:Type}{e:Int}(h:e≠0):(Sum.inl e:Int⊕α)≠.inl 0:=λg=>h (Sum.inl.inj g)
theorem rW{ws:List (Int×Int)}(h:Cs ws=0):ws.length<=14/\∀x∈ws,PWin x:=by
 unfold Cs at h;obtain⟨h1,h⟩:=cz h;refine⟨by have:=df h1;omega,RN (g:=I5 ws) (λj x s=>?_) (λj x s s' hg=>?_) ws 0 () h⟩
 ·unfold I5
  cases(decide (x.1<0)||(decide (x.2<=x.1)||decide ((604800:Int)<x.2)))with
  |true=>exact Nm (by decide)
  |false=>cases(decide (0<(j:Int))&&decide (x.1<(ws.getD (j-1) (0,0)).2))with
   |true=>exact Nm (by decide)
   |false=>exact λg=>nomatch g
 ·unfold I5 at hg
  cases hb:(decide (x.1<0)||(decide (x.2<=x.1)||decide ((604800:Int)<x.2)))with
  |true=>rw[hb]at hg;cases hg
  |false=>obtain⟨a,b⟩:=or2 hb;obtain⟨b,c⟩:=or2 b;have:=df a;have:=df b;have:=df c;exact⟨by omega,by omega,by omega,by omega⟩
theorem rX{α:Type}{of:α->List UInt8}{chk:α->Int}{xs:List α}(h:Dv of chk xs=0):∀x∈xs,chk x=0/\BE (of x)=true:=by
 refine RN (g:=D4 of chk) (λj x s=>?_) (λj x s s' hg=>?_) xs 0 [] h
 ·unfold D4
  by_cases h1:Cr (of x) s=0
  ·rw[Aq h1]
   by_cases h2:chk x=0
   ·rw[Aq h2];exact λg=>nomatch g
   ·rw[AB h2];exact Nm h2
  ·rw[AB h1];exact Nm h1
 ·unfold D4 at hg
  by_cases h1:Cr (of x) s=0
  ·rw[Aq h1]at hg
   by_cases h2:chk x=0
   ·refine⟨h2,?_⟩
    unfold Cr at h1;cases hn:BE (of x)with
    |true=>rfl
    |false=>rw[hn]at h1;cases h1
   ·rw[AB h2]at hg;cases hg
  ·rw[AB h1]at hg;cases hg
structure LayF (nz np nc:Int) (l:AD):Prop where
 z:0<=l.2.1/\l.2.1<nz
 d:1<=l.2.2.1.1/\l.2.2.1.1<98981
 s:0<=l.2.2.1.2/\l.2.2.1.2<=86399
 u:0<=l.2.2.2.1/\l.2.2.2.1<=2
 e:1<=l.2.2.2.2.1/\l.2.2.2.2.1<=400
 m:1<=l.2.2.2.2.2.1.length/\l.2.2.2.2.2.1.length<=12
 ms:∀x∈l.2.2.2.2.2.1,0<=x/\x<np
 w:l.2.2.2.2.2.2.1.length<=14/\∀x∈l.2.2.2.2.2.2.1,PWin x
 c:(l.2.2.2.2.2.2.2.2=0/\l.2.2.2.2.2.2.2.1=0)\/((1<=l.2.2.2.2.2.2.2.2/\l.2.2.2.2.2.2.2.2<=2)/\0<=l.2.2.2.2.2.2.2.1/\l.2.2.2.2.2.2.2.1<nc)
theorem Aj7{nz np nc:Int}{l:AD}(h:CG nz np nc l=0):LayF nz np nc l:=by
 unfold CG at h;obtain⟨h1,h⟩:=cz h;unfold l2V at h;obtain⟨h2,h⟩:=cz h;obtain⟨h3,h⟩:=cz h;obtain⟨h4,h⟩:=cz h;obtain⟨h5,h⟩:=cz h;obtain⟨h6,h⟩:=cz h;obtain⟨h7,h⟩:=cz h;unfold l1V at h;obtain⟨h8,h⟩:=cz h;obtain⟨a1,a⟩:=or2 h2;obtain⟨a2,a⟩:=or2 a;obtain⟨a3,a⟩:=or2 a;obtain⟨a4,a5⟩:=or2 a;have b1:=df a1;have b2:=Yx (nt a2);have b3:=df h3;have b4:=df h4;have b7:=JZ (nt h7);refine⟨I9 (nt h1),by omega,JZ (nt a3),JZ (nt a4),JZ (nt a5),by omega,λx hx=>I9 (C1.1 (nt h5) x hx),rW (dt (nt h6)),?_⟩;by_cases hm:l.2.2.2.2.2.2.2.2=0
 ·rw[Aq hm]at h
  cases hc:decide (l.2.2.2.2.2.2.2.1=0)with
  |true=>exact .inl ⟨hm,dt hc⟩
  |false=>rw[hc]at h;cases h
 ·rw[AB hm]at h8
  exact .inr ⟨by omega,I9 (nt (by simpa using h8))⟩
structure EdF (np:Int) (x:Ed):Prop where
 k:0<=x.1/\x.1<=2
 a:(0<=x.2.1/\x.2.1<np)\/(x.1=1/\x.2.1=-1)
 b:x.1=2->0<=x.2.2.1/\x.2.2.1<np
 b0:x.1≠2->x.2.2.1=0
 ab:x.1=2->x.2.1≠x.2.2.1
 f:0<=x.2.2.2.1
 ft:x.2.2.2.1<x.2.2.2.2
 t:x.2.2.2.2<98981*86400
theorem ed_f{np:Int}{x:Ed}(h:EdOk np x):EdF np x:=by
 obtain⟨h,hb⟩:=h;unfold DG at h;obtain⟨h1,h⟩:=cz h;unfold e4V at h;obtain⟨h2,h⟩:=cz h;unfold e3V at h;obtain⟨h3,h⟩:=cz h;unfold e2V at h;obtain⟨h4,h⟩:=cz h;unfold e1V at h;obtain⟨h5,h⟩:=cz h;obtain⟨h6,h⟩:=cz h;obtain⟨a1,a2⟩:=or2 h2;obtain⟨c1,c⟩:=or2 h5;obtain⟨c2,c3⟩:=or2 c;have d1:=df c1;have d2:=df c2;have d3:=df h6;have d4:=Yx (nt c3);rw[DN (by omega),i64_in _ (by omega)]at d4;refine⟨JZ (nt h1),?_,λhk=>?_,λhk=>?_,λhk=>?_,by omega,by omega,by omega⟩
 ·cases hi:ixI x.2.1 np with
  |true=>exact .inl (I9 hi)
  |false=>
   rw[hi]at a1;have a2:(decide (x.1=1)&&decide (x.2.1=-1))=true:=by simpa using a1
   exact .inr (by simpa using a2)
 ·rw[Aq hk]at a2
  exact I9 (by simpa using a2)
 ·rw[AB hk]at h3
  exact dt (by simpa using h3)
 ·rw[Aq hk]at h4
  exact df (by simpa using h4)
structure SchF (nz np nc:Int) (s:AK):Prop where
 l:s.2.1.length<=6
 ls:∀l∈s.2.1,LayF nz np nc l/\BE l.1=true
 e:s.2.2.length<=48
 es:∀x∈s.2.2,DG np x=0
theorem Aj8{nz np nc:Int}{s:AK}(h:DH nz np nc s=0):SchF nz np nc s:=by
 unfold DH at h;obtain⟨h1,h⟩:=cz h;obtain⟨h2,h⟩:=cz h;have b1:=df h1;have b2:=df h2;by_cases hn:Dv (·.1) (CG nz np nc) s.2.1=0
 ·rw[Aq hn]at h
  refine⟨by omega,λl hl=>⟨Aj7 (rX hn l hl).1,(rX hn l hl).2⟩,by omega,?_⟩;refine RN (g:=GE np) (λj x s=>?_) (λj x s s' hg=>?_) _ 0 () h
  ·unfold GE
   by_cases h2:DG np x=0
   ·rw[Aq h2];exact λg=>nomatch g
   ·rw[AB h2];exact Nm h2
  ·unfold GE at hg
   by_cases h2:DG np x=0
   ·exact h2
   ·rw[AB h2]at hg;cases hg
 ·rw[AB hn]at h
  exact absurd h hn
structure PerF (nz:Int) (p:Ay):Prop where
 z:0<=p.2.1/\p.2.1<nz
 q:p.2.2.1.length<=14/\∀x∈p.2.2.1,PWin x
 w:(0<=p.2.2.2.1/\p.2.2.2.1<=604800)/\Int.tmod p.2.2.2.1 3600=0
 r:(0<=p.2.2.2.2.1/\p.2.2.2.2.1<=604800)/\Int.tmod p.2.2.2.2.1 3600=0
theorem rY{n:Int}(h:GC n=true):(0<=n/\n<=604800)/\Int.tmod n 3600=0:=by
 unfold GC at h;cases hi:inI n 0 604800 with
 |true=>rw[hi]at h;exact⟨JZ hi,dt (by simpa using h)⟩
 |false=>rw[hi]at h;cases h
theorem Aj9{nz:Int}{p:Ay}(h:Ez nz p=0):PerF nz p:=by unfold Ez at h;obtain⟨h1,h⟩:=cz h;obtain⟨h2,h⟩:=cz h;obtain⟨h3,h⟩:=cz h;obtain⟨h4,h⟩:=cz h;exact⟨I9 (nt h1),rW (dt (nt h2)),rY (nt h3),rY (nt h4)⟩
structure CalF (nz:Int) (x:AF):Prop where
 z:0<=x.2.1/\x.2.1<nz
 l:x.2.2.length<=64
 d:∀d∈x.2.2,0<=d/\d<98981
theorem Yy{nz:Int}{x:AF}(h:calV nz x=0):CalF nz x:=by unfold calV at h;obtain⟨h1,h⟩:=cz h;obtain⟨h2,h⟩:=cz h;obtain⟨h3,h⟩:=cz h;have:=df h2;exact⟨I9 (nt h1),by omega,λd hd=>Yx (C1.1 (nt h3) d hd)⟩
end
end Go.Lift
namespace Go.Lift
open Go.RowKit Go.IntWalk
noncomputable section
variable[Sl]
set_option maxRecDepth 10000
def Ka:List UInt8:=[122,111,110,101]
def Yz:List UInt8:=[114,117,108,101]
def Ct:List UInt8:=[112,101,114,115,111,110]
def Fv:List UInt8:=[113,117,105,101,116]
def calW:List UInt8:=[99,97,108,101,110,100,97,114]
def ES:List UInt8:=[100,97,121,115]
def FW:List UInt8:=[119,101,101,107]
def FX:List UInt8:=[114,101,115,116]
def FY:List UInt8:=[99,111,110,115,101,110,116]
theorem Aja{α γ:Type}(f:α->List γ)(xs:List α)(s:List γ):xs.foldl (λl i=>l++f i) s=s++xs.flatMap f:=by
 induction xs generalizing s with
 |nil=>simp
 |cons x xs ih=>simp[ih,AW]
theorem E1{β α γ:Type}(F:Nat->Int->List γ->Option β)(f:α->List γ)(K:List γ->Option β)(d:α)(xs:List α)(s:List γ)(B:Nat)(hx:xs.length<=1000)(hf:∀x∈xs,(f x).length<=B)(h1:∀(m i:Nat) t,i<xs.length->t.length<=s.length+i*B->F (m+1) (i:Int) t=F m ((i:Int)+1) (t++f (xs.getD i d)))(h2:∀(m:Nat) t,F (m+1) (xs.length:Int) t=K t):F fuel 0 s=K (s++xs.flatMap f):=by
 rw[<-Aja f xs s];refine R5 (λi t=>t.length<=s.length+i*B) F (λt x=>t++f x) K d xs s fuel (AY (by omega)) (by omega) (λi t hi ht=>?_) h1 λm t _=>h2 m t;have:=hf _ (Cc (d:=d) hi);rw[Av,E7];omega
def GH(r:Bd):List Tok:=
 [wd Yz,nu 1 r.1,nu 1 r.2.1,wd (at' Ni (r.2.2.1-1)),wd (at' Nj (r.2.2.2.1-1)),wd (at' GG r.2.2.2.2.1),nu 2 r.2.2.2.2.2.1,nu 4 r.2.2.2.2.2.2]
def DJ(z:At):List (List Tok):=[wd Ka,wd z.1,nu 4 z.2.1]::z.2.2.map GH
section
variable{β:Type}{w:List At}{w2:List Ay}{w3:List AF}{w4:List AK}
theorem IA{α γ:Type}(f:α->γ)(xs:List α):xs.flatMap (λx=>[f x])=xs.map f:=by
 induction xs with
 |nil=>rfl
 |cons x xs ih=>simp[ih]
theorem Ajb{z:At}(hz:ZoneOk z)(ls:List (List Tok))(h1:ls.length<=900000)(k:List At->List Ay->List AF->List AK->List (Int×List Tok)->Option β):PO z w w2 w3 w4 (numb 0 ls) k=k w w2 w3 w4 (numb 0 (ls++DJ z)):=by
 have hl:=hz.l;unfold PO;rw[Ab];refine(Dw _ _).trans ?_;refine(rT _ _).trans ?_;refine(Ft Ka _ ls (by omega) (by simp) _).trans ?_;unfold VM;rw[Ab];refine(E1 (λm i s=>Mf m (λb0_ b0_2 b0_3 b0_4 b1_2=>k b0_ b0_2 b0_3 b0_4 b1_2) z.2.2 (z.2.2.length:Int) i w w2 w3 w4 (numb 0 s) Ni Nj) (λr=>[GH r]) (λs=>k w w2 w3 w4 (numb 0 s)) (0,0,0,0,0,0,0) z.2.2 _ 1 (by omega) (λ_ _=>by simp) (λm i s hi hs=>?_) λm s=>?_).trans ?_
 ·have hr:=hz.r _ (Cc (d:=((0,0,0,0,0,0,0):Bd)) hi)
  simp only[kM,PN];refine(Ah (by omega)).trans ?_;refine(Ai (by omega)).trans ?_;rw[AE];generalize z.2.2.getD i ((0,0,0,0,0,0,0):Bd)=r at hr;have m1:=hr.m;have m2:=hr.w;have m3:=hr.d;rw[i64_in (r.2.2.1-1) (by omega),i64_in (r.2.2.2.1-1) (by omega)];refine(Nl _ _).trans ?_;refine(Nl _ _).trans ?_;refine(Ai (show 0<=r.2.2.1-1/\r.2.2.1-1<((12:Nat):Int) by omega)).trans ?_;refine(Dw _ _).trans ?_;refine(Ai (show 0<=r.2.2.2.1-1/\r.2.2.2.1-1<((5:Nat):Int) by omega)).trans ?_;refine(Dw _ _).trans ?_;refine(Yu (by omega) _).trans ?_;refine(RM _ _).trans ?_;refine(rT _ _).trans ?_;simp only[Av,CO]at hs;refine(Ft Yz _ s (by omega) (by simp) _).trans ?_;rw[i64_in ((i:Int)+1) (by omega)];rfl
 ·simp only[kM,PN]
  exact Ad (by omega)
 ·show k w w2 w3 w4 (numb 0 (ls++[[wd Ka,wd z.1,nu 4 z.2.1]]++z.2.2.flatMap λr=>[GH r]))=_
  rw[IA,AW];rfl
def RO(p:Ay):List Tok:=if p.2.2.2.1=0 then []else [wd FW,nu 1 (Int.tdiv p.2.2.2.1 3600)]
def Nn(p:Ay):List Tok:=if p.2.2.2.2.1=0 then []else [wd FX,nu 1 (Int.tdiv p.2.2.2.2.1 3600)]
def Kb(p:Ay):List Tok:=if p.2.2.2.2.2 then [wd FY]else []
def CY(w:List At)(i:Int):List UInt8:=(w.getD i.toNat ([],0,[])).1
def IB(w:List At)(p:Ay):List Tok:=wd Ct::([wd p.1,wd (CY w p.2.1)]++RO p++Nn p++Kb p)
def DK(w:List At)(p:Ay):List (List Tok):=IB w p::p.2.2.1.map (stW Fv)
theorem rZ{p:Ay}{nz:Int}(hp:PerF nz p)(toks:List Tok)(ht:toks.length<=20)(ls:List (List Tok))(h1:ls.length<=900000)(k:List At->List Ay->List AF->List AK->List (Int×List Tok)->Option β):(BR Ct toks w w2 w3 w4 (numb 0 ls) λa b c d e=>Ir Fv p.2.2.1 a b c d e λa b c d e=>k a b c d e)=k w w2 w3 w4 (numb 0 (ls++(wd Ct::toks)::p.2.2.1.map (stW Fv))):=by
 have hq:=hp.q;refine(Ft Ct _ ls (by omega) (by omega) _).trans ?_;refine(rV Fv _ _ (by simp;omega) hq.2 _).trans ?_;rw[AW];rfl
theorem s5{p:Ay}{nz:Int}(hp:PerF nz p)(toks:List Tok)(ht:toks.length<=10)(ls:List (List Tok))(h1:ls.length<=900000)(k:List At->List Ay->List AF->List AK->List (Int×List Tok)->Option β):Mg k w w2 w3 w4 (numb 0 ls) p toks=k w w2 w3 w4 (numb 0 (ls++(wd Ct::(toks++Kb p))::p.2.2.1.map (stW Fv))):=by
 unfold Mg;rw[Ab];unfold VN Kb;cases p.2.2.2.2.2 with
 |true=>refine(Dw _ _).trans ?_;refine(Dh (show(toks.length+1)*32<=_ by omega)).trans ?_;exact rZ hp _ (by simp;omega) ls h1 k
 |false=>refine(rZ hp _ (by omega) ls h1 k).trans ?_;simp
theorem s6{p:Ay}{nz:Int}(hp:PerF nz p)(toks:List Tok)(ht:toks.length<=8)(ls:List (List Tok))(h1:ls.length<=900000)(k:List At->List Ay->List AF->List AK->List (Int×List Tok)->Option β):Mh k w w2 w3 w4 (numb 0 ls) p toks=k w w2 w3 w4 (numb 0 (ls++(wd Ct::(toks++Nn p++Kb p))::p.2.2.1.map (stW Fv))):=by
 have hr:=hp.r;unfold Mh;rw[Ab];unfold VO Nn;by_cases h:p.2.2.2.2.1=0
 ·rw[if_pos h,CA]
  refine(Bm h).trans ?_;exact s5 hp _ (by omega) ls h1 _
 ·rw[if_neg h]
  refine(CL h).trans ?_;rw[i64_in _ (by rw[DN (by omega)];omega)];refine(Dw _ _).trans ?_;refine(Nl _ _).trans ?_;refine(Dh (show(toks.length+2)*32<=_ by omega)).trans ?_;exact s5 hp _ (by simp;omega) ls h1 _
theorem Ajc{p:Ay}(hp:PerF (w.length:Int) p)(ls:List (List Tok))(h1:ls.length<=900000)(k:List At->List Ay->List AF->List AK->List (Int×List Tok)->Option β):PQ p w w2 w3 w4 (numb 0 ls) k=k w w2 w3 w4 (numb 0 (ls++DK w p)):=by
 have hr:=hp.w;unfold PQ;rw[Ab];unfold DK IB RO;refine(Dw _ _).trans ?_;refine(Yv hp.z _).trans ?_;by_cases h:p.2.2.2.1=0
 ·rw[if_pos h,CA]
  refine(Bm h).trans ?_;exact s6 hp _ (by simp) ls h1 _
 ·rw[if_neg h]
  refine(CL h).trans ?_;rw[i64_in _ (by rw[DN (by omega)];omega)];refine(Dw _ _).trans ?_;refine(Nl _ _).trans ?_;refine(Dh (show(2+2)*32<=_ by omega)).trans ?_;exact s6 hp _ (by simp) ls h1 _
def Kc(l:List Int):List (List Tok):=if l=[]then []else [wd ES::l.map (nu 3)]
def Eh(w:List At)(c:AF):List (List Tok):=[wd calW,wd c.1,wd (CY w c.2.1)]::Kc c.2.2
theorem Ajd{l:List Int}(hl:l.length<=1000)(k:List Tok->Option β):M3 l k=k (l.map (nu 3)):=by
 unfold M3;rw[Ab];unfold Wy;rw[Ab,<-IA];refine E1 (λm i s=>M2 m (λout=>k out) l (l.length:Int) i s) (λx=>[nu 3 x]) (λs=>k s) (0:Int) l [] 1 hl (λ_ _=>by simp) (λm i s hi hs=>?_) λm s=>?_
 ·simp only[m9,Qp]
  simp only[Bw]at hs;refine(Ah (by omega)).trans ?_;refine(Ai (by omega)).trans ?_;rw[AE];refine(rS _ _).trans ?_;refine(Dh (show(s.length+1)*32<=_ by omega)).trans ?_;rw[i64_in ((i:Int)+1) (by omega)]
 ·simp only[m9,Qp]
  exact Ad (by omega)
theorem Aje{c:AF}(hz:0<=c.2.1/\c.2.1<(w.length:Int))(hl:c.2.2.length<=32)(ls:List (List Tok))(h1:ls.length<=900000)(k:List At->List Ay->List AF->List AK->List (Int×List Tok)->Option β):Qq c w w2 w3 w4 (numb 0 ls) k=k w w2 w3 w4 (numb 0 (ls++Eh w c)):=by
 unfold Qq;rw[Ab];unfold Eh Kc;refine(Dw _ _).trans ?_;refine(Yv hz _).trans ?_;refine(Ft calW _ ls (by omega) (by simp) _).trans ?_;refine(Ah (show c.2.2.length<=140737488355328 by omega)).trans ?_;by_cases h:c.2.2=[]
 ·rw[if_pos h]
  exact Ad (by rw[h];simp)
 ·rw[if_neg h]
  have h0:0<c.2.2.length:=H6.2 h;refine(Ah h0).trans ?_;have ht:List.take 32 (List.drop 0 c.2.2)=c.2.2:=by rw[List.drop_zero,Dz hl]
  rw[ht];refine(Ajd (by omega) _).trans ?_;refine(Ft ES _ _ (by simp;omega) (by simp;omega) _).trans ?_;refine(Ah (show c.2.2.length<=140737488355328 by omega)).trans ?_;refine(Ad (by omega)).trans ?_;rw[AW];rfl
end
end
end Go.Lift
namespace Go.Lift
open Go.RowKit Go.IntWalk
noncomputable section
variable[Sl]
set_option maxRecDepth 10000
def RP:List UInt8:=[108,97,121,101,114]
def memW:List UInt8:=[109,101,109,98,101,114]
def onW:List UInt8:=[111,110]
def schW:List UInt8:=[115,99,104,101,100,117,108,101]
def calN(w3:List AF)(i:Int):List UInt8:=(w3.getD i.toNat ([],0,[])).1
def GI(w3:List AF)(l:AD):List (List Tok):=if l.2.2.2.2.2.2.2.2=0 then []else [[wd (at' Nk l.2.2.2.2.2.2.2.2),wd (calN w3 l.2.2.2.2.2.2.2.1)]]
def Np(w:List At)(l:AD):List Tok:=[wd RP,wd l.1,wd (CY w l.2.1),nu 3 l.2.2.1.1,nu 2 l.2.2.1.2,nu 1 l.2.2.2.2.1,wd (at' untNs l.2.2.2.1)]
def RQ(w2:List Ay)(l:AD):List Tok:=wd memW::l.2.2.2.2.2.1.map λm=>wd (whoB w2 m)
def E2(w:List At)(w2:List Ay)(w3:List AF)(l:AD):List (List Tok):=
 Np w l::RQ w2 l::(l.2.2.2.2.2.2.1.map (stW onW)++GI w3 l)
abbrev WK(β:Type):=List At->List Ay->List AF->List AK->List (Int×List Tok)->Option β
def mch{β:Type}(ms:List Int)(F:List Tok->WK β):Nat->Int->List Tok->WK β
 |0,_,_=>λ_ _ _ _ _=>none
 |n+1,i,acc=>λa b c d e=>
  cond (decide (i<(ms.length:Int)))
   (cond (decide (0<=i)&&decide (i<(ms.length:Int)))
    (CX (ms.getD i.toNat 0) a b c d e λr a b c d e=>
     cond (decide ((acc.length+[r].length)*32<=AG)) (mch ms F n (IntKind.i64.wrap (i+1)) (acc++[r]) a b c d e) none) none)
   (F acc a b c d e)
section
variable{β:Type}{w:List At}{w2:List Ay}{w3:List AF}{w4:List AK}
theorem s7{ms:List Int}(hm:∀x∈ms,x<(w2.length:Int))(hl:ms.length<=100)(F:List Tok->WK β)(b:List (Int×List Tok)):∀(n i:Nat)(acc:List Tok),i<=ms.length->ms.length<i+n->acc.length<=i->mch ms F n (i:Int) acc w w2 w3 w4 b=F (acc++(ms.drop i).map λm=>wd (whoB w2 m)) w w2 w3 w4 b
 |0,i,acc,h1,h2,_=>absurd h2 (by omega)
 |n+1,i,acc,h1,h2,h3=>by
  unfold mch;by_cases h:i=ms.length
  ·refine(Ad (by omega)).trans ?_
   rw[h,List.drop_length];simp
  ·have hi:i<ms.length:=by omega
   refine(Ah (by omega)).trans ?_;refine(Ai (by omega)).trans ?_;rw[AE];refine(Yw (hm _ (Cc hi)) _).trans ?_;refine(Dh (show(acc.length+1)*32<=_ by omega)).trans ?_;rw[i64_in _ (by omega)];refine(s7 hm hl F b n (i+1) _ (by omega) (by omega) (by simp;omega)).trans ?_
   have e:ms.drop i=ms.getD i 0::ms.drop (i+1):=by rw[EY hi,ID,Bx hi];rfl
   rw[e,AW];rfl
theorem Ajf(l:AD)(k:WK β)(b:List (Int×List Tok)):kR l w w2 w3 w4 b k=C8 l.1 λrword=>Il l.2.1 w w2 w3 w4 b λrzone a b c d e=>J0 l.2.2.1.1 λrdate=>Hl l.2.2.1.2 λrclock=>G4 l.2.2.2.2.1 λrnumber=>cond (decide (0<=l.2.2.2.1)&&decide (l.2.2.2.1<(untNs.length:Int))) (C8 (untNs.getD l.2.2.2.1.toNat []) λrword2=>BR RP [rword,rzone,rdate,rclock,rnumber,rword2] a b c d e λa b c d e=>mch l.2.2.2.2.2.1 (λacc a b c d e=>BR memW acc a b c d e λa b c d e=>Du (λa b c d e=>k a b c d e) a b c d e l) 13 0 [] a b c d e) none:=by kernel_rfl
theorem Ajg{l:AD}{nz np:Int}(hl:LayF nz np (w3.length:Int) l)(ls:List (List Tok))(h1:ls.length<=900000)(k:WK β):Du k w w2 w3 w4 (numb 0 ls) l=k w w2 w3 w4 (numb 0 (ls++(l.2.2.2.2.2.2.1.map (stW onW)++GI w3 l))):=by
 have hw:=hl.w;unfold Du;rw[Ab];unfold VP GI;refine(rV onW _ ls (by omega) hw.2 _).trans ?_;by_cases h:l.2.2.2.2.2.2.2.2=0
 ·rw[if_pos h,CA]
  exact Bm h
 ·rw[if_neg h]
  have hc:=hl.c
  have hc:(1<=l.2.2.2.2.2.2.2.2/\l.2.2.2.2.2.2.2.2<=2)/\0<=l.2.2.2.2.2.2.2.1/\l.2.2.2.2.2.2.2.1<(w3.length:Int):=by
   rcases hc with hc|hc
   ·exact absurd hc.1 h
   ·exact hc
  refine(CL h).trans ?_;refine(Ai (show 0<=l.2.2.2.2.2.2.2.2/\l.2.2.2.2.2.2.2.2<((3:Nat):Int) by omega)).trans ?_;refine(Ai hc.2).trans ?_;refine(Dw _ _).trans ?_;refine(Ft _ _ _ (by simp;omega) (by simp) _).trans ?_;rw[AW];rfl
theorem Ajh{l:AD}(hl:LayF (w.length:Int) (w2.length:Int) (w3.length:Int) l)(ls:List (List Tok))(h1:ls.length<=900000-5)(k:WK β):PS l w w2 w3 w4 (numb 0 ls) k=k w w2 w3 w4 (numb 0 (ls++E2 w w2 w3 l)):=by
 have hm:=hl.m;unfold PS;rw[Ab,Ajf];refine(Dw _ _).trans ?_;refine(Yv hl.z _).trans ?_;refine(rS _ _).trans ?_;refine(RM _ _).trans ?_;refine(Nl _ _).trans ?_;have hu:=hl.u;refine(Ai (show 0<=l.2.2.2.1/\l.2.2.2.1<((3:Nat):Int) by omega)).trans ?_;refine(Dw _ _).trans ?_;refine(Ft RP _ ls (by omega) (by simp) _).trans ?_;refine(s7 (λx hx=>(hl.ms x hx).2) (by omega) _ _ 13 0 [] (by omega) (by omega) (by simp)).trans ?_;refine(Ft memW _ _ (by simp;omega) (by simp;omega) _).trans ?_;refine(Ajg hl _ (by simp;omega) _).trans ?_;rw[AW,AW];rfl
def Nq(w2:List Ay)(x:Ed):List Tok:=if x.1=2 then [wd (whoB w2 x.2.1),wd (whoB w2 x.2.2.1)]else [wd (whoB w2 x.2.1)]
def CH(w2:List Ay)(x:Ed):List Tok:=wd (at' EQ x.1)::(Nq w2 x++[nu 5 x.2.2.2.1,nu 5 x.2.2.2.2])
theorem s8{x:Ed}{np:Int}(hx:EdF np x)(toks:List Tok)(ht:toks.length<=10)(ls:List (List Tok))(h1:ls.length<=900000)(k:WK β):LI k w w2 w3 w4 (numb 0 ls) x toks=k w w2 w3 w4 (numb 0 (ls++[wd (at' EQ x.1)::(toks++[nu 5 x.2.2.2.1,nu 5 x.2.2.2.2])])):=by
 have hk:=hx.k;unfold LI;rw[Ab];unfold UW;refine(Ai (show 0<=x.1/\x.1<((3:Nat):Int) by omega)).trans ?_;refine(rU _ _).trans ?_;refine(rU _ _).trans ?_;refine(Dh (show(toks.length+2)*32<=_ by omega)).trans ?_;exact Ft _ _ ls (by omega) (by simp;omega) _
theorem Aji{x:Ed}(hx:EdF (w2.length:Int) x)(ls:List (List Tok))(h1:ls.length<=900000)(k:WK β):Pj x w w2 w3 w4 (numb 0 ls) k=k w w2 w3 w4 (numb 0 (ls++[CH w2 x])):=by
 have ha:=hx.a;unfold Pj;rw[Ab];unfold CH Nq;refine(Yw (by omega) _).trans ?_;by_cases h:x.1=2
 ·rw[if_pos h]
  refine(Ah h).trans ?_;refine(Yw (hx.b h).2 _).trans ?_;refine(Dh (show(1+1)*32<=_ by omega)).trans ?_;exact s8 hx _ (by simp) ls h1 _
 ·rw[if_neg h]
  refine(Ad h).trans ?_;exact s8 hx _ (by simp) ls h1 _
end
end
end Go.Lift
namespace Go.Lift
open Go.RowKit Go.IntWalk
noncomputable section
variable[Sl]
set_option maxRecDepth 10000
def ET(w:List At)(w2:List Ay)(w3:List AF)(s:AK):List (List Tok):=
 [wd schW,wd s.1]::(s.2.1.flatMap (E2 w w2 w3)++s.2.2.map (CH w2))
def CM(c:Au):List (List Tok):=c.1.flatMap DJ++(c.2.1.flatMap (DK c.1)++(c.2.2.1.flatMap (Eh c.1)++c.2.2.2.flatMap (ET c.1 c.2.1 c.2.2.1)))
theorem E3{α γ:Type}{f:α->List γ}{xs:List α}{B:Nat}(h:∀x∈xs,(f x).length<=B):(xs.flatMap f).length<=xs.length*B:=by
 induction xs with
 |nil=>simp
 |cons x xs ih=>have h1:=h x (Bu ..);have h2:=ih λy hy=>h y (AU _ hy);rw[E5,Av,Aw,E7];omega
theorem RR{z:At}(h:ZoneOk z):(DJ z).length<=13:=by have:=h.l;unfold DJ;simp;omega
theorem RT{nz:Int}{w:List At}{p:Ay}(h:PerF nz p):(DK w p).length<=15:=by have:=h.q.1;unfold DK;simp;omega
theorem RU{w:List At}{c:AF}:(Eh w c).length<=2:=by
 unfold Eh Kc;by_cases h:c.2.2=[]
 ·rw[if_pos h];simp
 ·rw[if_neg h];simp
theorem Y0{nz np nc:Int}{w:List At}{w2:List Ay}{w3:List AF}{l:AD}(h:LayF nz np nc l):(E2 w w2 w3 l).length<=17:=by
 have:=h.w.1;unfold E2 GI;by_cases h:l.2.2.2.2.2.2.2.2=0
 ·rw[if_pos h];simp;omega
 ·rw[if_neg h];simp;omega
structure SchG (nz np nc:Int) (s:AK):Prop where
 l:s.2.1.length<=6
 ls:∀l∈s.2.1,LayF nz np nc l/\BE l.1=true
 e:s.2.2.length<=48
 es:∀x∈s.2.2,EdF np x
theorem Y1{nz np nc:Int}{w:List At}{w2:List Ay}{w3:List AF}{s:AK}(h:SchG nz np nc s):(ET w w2 w3 s).length<=151:=by have h1:=h.l;have h2:=h.e;have h3:=E3 (f:=E2 w w2 w3) λl hl=>Y0 (h.ls l hl).1;unfold ET;rw[Aw,Av,Cf];omega
theorem Nr{c:Au}(h:ConfOk c):∀s∈c.2.2.2,SchG (c.1.length:Int) (c.2.1.length:Int) (c.2.2.1.length:Int) s:=by intro s hs;have h1:=Aj8 (h.os.2 s hs).1;exact⟨h1.l,h1.ls,h1.e,λx hx=>ed_f ((h.os.2 s hs).2 x hx)⟩
theorem IC{c:Au}(h:ConfOk c):∀p∈c.2.1,PerF (c.1.length:Int) p:=λp hp=>Aj9 (h.op.2 p hp)
section
variable{β:Type}
theorem Ajj{w:List At}{w2:List Ay}{w3:List AF}{w4 ss:List AK}{n i:Int}{es:List Ed}(he:es.length<=48)(hs:∀x∈es,EdF (w2.length:Int) x)(ls:List (List Tok))(h1:ls.length<=100000)(k:XU β):JU k ss n i es (es.length:Int) 0 w w2 w3 w4 (numb 0 ls)=k ss n i w w2 w3 w4 (numb 0 (ls++es.map (CH w2))):=by
 unfold JU;rw[Ab,<-IA];refine E1 (λm i' s=>MX m k ss n i es (es.length:Int) i' w w2 w3 w4 (numb 0 s)) (λx=>[CH w2 x]) (λs=>k ss n i w w2 w3 w4 (numb 0 s)) (0,0,0,0,0) es ls 1 (by omega) (λ_ _=>by simp) (λm i' t hi ht=>?_) λm t=>?_
 ·have hx:=hs _ (Cc (d:=((0,0,0,0,0):Ed)) hi)
  simp only[qF,Ru];refine(Ah (by omega)).trans ?_;refine(Ai (by omega)).trans ?_;rw[AE];refine(Aji hx t (by omega) _).trans ?_;rw[i64_in ((i':Int)+1) (by omega)]
 ·simp only[qF,Ru]
  exact Ad (by omega)
theorem Ajk{w:List At}{w2:List Ay}{w3:List AF}{w4 ss:List AK}(h3:ss.length<=12)(hs:∀s∈ss,SchG (w.length:Int) (w2.length:Int) (w3.length:Int) s)(ls:List (List Tok))(h1:ls.length<=10000)(k:WK β):JV k ss (ss.length:Int) 0 w w2 w3 w4 (numb 0 ls)=k w w2 w3 w4 (numb 0 (ls++ss.flatMap (ET w w2 w3))):=by
 unfold JV;rw[Ab];refine E1 (λm i s=>I3 m k ss (ss.length:Int) i w w2 w3 w4 (numb 0 s)) (ET w w2 w3) (λs=>k w w2 w3 w4 (numb 0 s)) ([],[],[]) ss ls 151 (by omega) (λs h=>Y1 (hs s h)) (λm i t hi ht=>?_) λm t=>?_
 ·have hS:=hs _ (Cc (d:=(([],[],[]):AK)) hi)
  have ht':t.length<=20000:=by omega
  simp only[qG,Rv];refine(Ah (by omega)).trans ?_;refine(Ai (by omega)).trans ?_;rw[AE];generalize ss.getD i (([],[],[]):AK)=q at hS;have q1:=hS.l;have q2:=hS.e;refine(Dw _ _).trans ?_;refine(Ft schW _ t (by omega) (by simp) _).trans ?_;unfold XW;rw[Ab]
  refine(E1 (λm' i' s=>MW m' (λt602 t612 t622 w5 w6 w7 w8 s b2_=>JU (λt603 t613 t623 w9 w10 w11 w12 b1_2=>I3 m k t603 t613 (IntKind.i64.wrap (t623+(1:Int))) w9 w10 w11 w12 b1_2) t602 t612 t622 s.2.2 (List.length s.2.2:Int) (0:Int) w5 w6 w7 w8 b2_)
   ss (ss.length:Int) (i:Int) q.2.1 (q.2.1.length:Int) i' w w2 w3 w4 q (numb 0 s)) (E2 w w2 w3)
   (λs=>JU (λt603 t613 t623 w9 w10 w11 w12 b1_2=>I3 m k t603 t613 (IntKind.i64.wrap (t623+(1:Int))) w9 w10 w11 w12 b1_2) ss (ss.length:Int) (i:Int) q.2.2 (List.length q.2.2:Int) (0:Int) w w2 w3 w4 (numb 0 s))
   ([],0,(0,0),0,0,[],[],0,0) q.2.1 (t++[[wd schW,wd q.1]]) 17 (by omega) (λl h=>Y0 (hS.ls l h).1) (λm' i' t' hi' ht'=>?_) λm' t'=>?_).trans ?_
  ·have hL:=(hS.ls _ (Cc (d:=(([],0,(0,0),0,0,[],[],0,0):AD)) hi')).1
   simp only[Av,CO]at ht';simp only[qE,Rt];refine(Ah (by omega)).trans ?_;refine(Ai (by omega)).trans ?_;rw[AE];refine(Ajh hL t' (by omega) _).trans ?_;rw[i64_in ((i':Int)+1) (by omega)]
  ·simp only[qE,Rt]
   exact Ad (by omega)
  ·have h5:((t++[[wd schW,wd q.1]])++q.2.1.flatMap (E2 w w2 w3)).length<=30000:=by have:=E3 (f:=E2 w w2 w3) λl hl=>Y0 (hS.ls l hl).1;rw[Av,Av,CO];omega
   refine(Ajj (by omega) hS.es _ (by omega) _).trans ?_;rw[i64_in ((i:Int)+1) (by omega),AW,AW];rfl
 ·simp only[qG,Rv]
  exact Ad (by omega)
def stK3(k:List (Int×List Tok)->Int->Option β):XQ β:=λc4 w9 w10 w11 w12 b=>JV (λ_ _ _ _ b1=>k b1 0) c4.2.2.2 (c4.2.2.2.length:Int) 0 w9 w10 w11 w12 b
def stK2(k:List (Int×List Tok)->Int->Option β):XO β:=λc4 w9 w10 w11 w12 b=>MV (stK3 k) c4.2.2.1 (c4.2.2.1.length:Int) 0 c4 w9 w10 w11 w12 b
def stK1(k:List (Int×List Tok)->Int->Option β):XM β:=λc4 w9 w10 w11 w12 b=>MT (stK2 k) c4.2.1 (c4.2.1.length:Int) 0 c4 w9 w10 w11 w12 b
theorem s9{c:Au}(h:ConfOk c)(k:List (Int×List Tok)->Int->Option β):MY c k=k (numb 0 (CM c)) 0:=by
 obtain⟨z,p,x,s⟩:=c;have l1:z.length<=2:=h.oz.1.1;have l2:p.length<=8:=h.op.1.1;have l3:x.length<=1:=h.oc.1.1;have l4:s.length<=3:=h.os.1.1;have z1:=E3 (f:=DJ) λy(hy:y∈z)=>RR (h.oz.2 y hy).1;have z2:=E3 (f:=DK z) λy(hy:y∈p)=>RT (IC h y hy);have z3:=E3 (f:=Eh z) λy(hy:y∈x)=>RU;unfold MY;rw[Ab];refine(qR _ Di (λy hy k=>qW (h.oz.2 y hy).1 k) _).trans ?_;rw[rO h];refine(Bm rfl).trans ?_;show Rq (stK1 k) z (z.length:Int) 0 (z,p,x,s) z p x s (numb 0 [])=_;unfold Rq;rw[Ab];refine(E1 (λm i t=>MR m (stK1 k) z (z.length:Int) i (z,p,x,s) z p x s (numb 0 t)) DJ (λt=>MT (stK2 k) p (p.length:Int) 0 (z,p,x,s) z p x s (numb 0 t)) ([],0,[]) z [] 13 (by omega) (λy hy=>RR (h.oz.2 y hy).1) (λm i t hi ht=>?_) λm t=>?_).trans ?_
 ·simp only[Bw]at ht
  simp only[q9,Rp];refine(Ah (by omega)).trans ?_;refine(Ai (by omega)).trans ?_;rw[AE];refine(Ajb (h.oz.2 _ (Cc hi)).1 t (by omega) _).trans ?_;rw[i64_in ((i:Int)+1) (by omega)]
 ·simp only[q9,Rp]
  exact Ad (by omega)
 unfold MT;rw[Ab,Cp];refine(E1 (λm i t=>MS m (stK2 k) p (p.length:Int) i (z,p,x,s) z p x s (numb 0 t)) (DK z) (λt=>MV (stK3 k) x (x.length:Int) 0 (z,p,x,s) z p x s (numb 0 t)) ([],0,[],0,0,false) p (z.flatMap DJ) 15 (by omega) (λy hy=>RT (IC h y hy)) (λm i t hi ht=>?_) λm t=>?_).trans ?_
 ·simp only[qC,Rr]
  refine(Ah (by omega)).trans ?_;refine(Ai (by omega)).trans ?_;rw[AE];refine(Ajc (IC h _ (Cc hi)) t (by omega) _).trans ?_;rw[i64_in ((i:Int)+1) (by omega)]
 ·simp only[qC,Rr]
  exact Ad (by omega)
 unfold MV;rw[Ab];refine(E1 (λm i t=>MU m (stK3 k) x (x.length:Int) i (z,p,x,s) z p x s (numb 0 t)) (Eh z) (λt=>JV (λ_ _ _ _ b1=>k b1 0) s (s.length:Int) 0 z p x s (numb 0 t)) ([],0,[]) x (z.flatMap DJ++p.flatMap (DK z)) 2 (by omega) (λy hy=>RU) (λm i t hi ht=>?_) λm t=>?_).trans ?_
 ·have hc:=h.oc.2 _ (Cc (d:=(([],0,[]):AF)) hi)
  rw[Av]at ht;simp only[qD,Rs];refine(Ah (by omega)).trans ?_;refine(Ai (by omega)).trans ?_;rw[AE];refine(Aje (Yy hc.1).z (BH hc.2 (by decide)) t (by omega) _).trans ?_;rw[i64_in ((i:Int)+1) (by omega)]
 ·simp only[qD,Rs]
  exact Ad (by omega)
 refine(Ajk (show s.length<=12 by omega) (Nr h) _ (by rw[Av,Av];omega) _).trans ?_;unfold CM;rw[AW,AW]
end
end
end Go.Lift
namespace Go.Lift
section
variable{b:UInt8}
theorem Y2:∀{l:List UInt8},(∀c∈l,c≠b)->Lib.index l [b]=-1
 |[],_=>rfl
 |c::l,h=>by
  have h1:=Y2 (l:=l) λx hx=>h x (by simp[hx]);have h2:=h c (by simp);unfold Lib.index;rw[h1]
  have:List.isPrefixOf [b] (c::l)=false:=by simp[List.isPrefixOf];exact λe=>h2 e.symm
  rw[this];rfl
theorem Y3:∀{l:List UInt8}(r:List UInt8),(∀c∈l,c≠b)->Lib.index (l++b::r) [b]=(l.length:Int)
 |[],r,_=>by show Lib.index (b::r) [b]=0;unfold Lib.index;simp[List.isPrefixOf]
 |c::l,r,h=>by
  have h1:=Y3 (l:=l) r λx hx=>h x (by simp[hx]);have h2:=h c (by simp);rw[Cw];unfold Lib.index;rw[h1]
  have:List.isPrefixOf [b] (c::(l++b::r))=false:=by simp[List.isPrefixOf];exact λe=>h2 e.symm
  rw[this];have h3:((l.length:Int)==-1)=false:=by rw[beq_eq_false_iff_ne];omega
  simp[h3]
theorem Ajl(l:List UInt8):Lib.contains l [b]=decide (b∈l):=by
 unfold Lib.contains;by_cases h:b∈l
 ·obtain⟨p,q,rfl,hp⟩:=List.eq_append_cons_of_mem h
  rw[Y3 q (λc hc(e:c=b)=>hp (e▸hc)),Aq h,Aq (by omega)]
 ·rw[Y2 (λc hc(e:c=b)=>h (e▸hc)),AB h]
  rfl
theorem Y4{l:List UInt8}(h:∀c∈l,c≠b):Fh l [b]=[l]:=by have hi:=Y2 h;unfold Fh;rw[Lib.splitB_data];show Lib.splitK [b] 0 (Lib.count l [b]) l=[l];rw[Lib.count_miss hi];rfl
theorem RV{l:List UInt8}(r:List UInt8)(h:∀c∈l,c≠b):Fh (l++b::r) [b]=l::Fh r [b]:=by
 have hi:=Y3 r h
 have hd:(l++b::r).drop (l.length+1)=r:=by rw[show l++b::r=(l++[b])++r by simp];exact List.drop_left' (by simp)
 unfold Fh;rw[Lib.splitB_data,Lib.splitB_data];show Lib.splitK [b] 0 (Lib.count (l++b::r) [b]) (l++b::r)=l::Lib.splitK [b] 0 (Lib.count r [b]) r;rw[Lib.count_hit (i:=l.length) (by simp) hi,GU];show Lib.splitK [b] 0 (Lib.count ((l++b::r).drop (l.length+1)) [b]+1) (l++b::r)=_;rw[hd];rw[Lib.splitK,hi,if_neg (by rw[beq_iff_eq];omega)];show(l++b::r).take (l.length:Int).toNat::Lib.splitK [b] 0 (Lib.count r [b]) ((l++b::r).drop ((l.length:Int).toNat+1))=_;rw[AE,hd,NH]
end
end Go.Lift
namespace Go.Lift
open Go.RowKit Go.IntWalk
noncomputable section
set_option maxRecDepth 10000
def C9(c:UInt8):Prop:=48<=c.toNat/\c.toNat<=57
def valF(a:Nat)(l:List UInt8):Nat:=l.foldl (λa c=>a*10+(c.toNat-48)) a
theorem sA:∀(l:List UInt8)(a:Nat),a<=valF a l
 |[],a=>Ao _
 |c::r,a=>by have:=sA r (a*10+(c.toNat-48));show a<=valF (a*10+(c.toNat-48)) r;omega
theorem Ns{m:Nat}(h:m<10):(UInt8.ofNat (48+m)).toNat=48+m:=by rw[UInt8.toNat_ofNat'];omega
theorem sB:∀(u:Nat),(∀c∈Lib.decDigits u,C9 c)/\valF 0 (Lib.decDigits u)=u/\Lib.decDigits u≠[]:=by
 intro u
 induction u using Nat.strongRecOn with
 |_ u ih=>
  rw[Lib.decDigits];split
  ·rename_i h
   refine⟨λc hc=>?_,?_,by simp⟩
   ·simp only[Cv]at hc
    subst hc;unfold C9;rw[Ns h];omega
   ·show 0*10+((UInt8.ofNat (48+u)).toNat-48)=u
    rw[Ns h];omega
  ·rename_i h
   obtain⟨h1,h2,h3⟩:=ih (u / 10) (by omega);refine⟨λc hc=>?_,?_,by simp⟩
   ·rcases Ba.1 hc with hc|hc
    ·exact h1 c hc
    ·simp only[Cv]at hc
     subst hc;unfold C9;rw[Ns (by omega)];omega
   ·unfold valF at h2⊢
    rw[List.foldl_append,h2];show u / 10*10+((UInt8.ofNat (48+u%10)).toNat-48)=u;rw[Ns (by omega)];omega
theorem sC:∀(l:List UInt8)(a:Nat),(∀c∈l,C9 c)->valF a l<=4611686018427387904->Lib.parseUint10 a l=.ok (valF a l)
 |[],a,_,_=>rfl
 |c::r,a,hd,hv=>by have hc:=hd c (by simp);unfold C9 at hc;have hv':valF (a*10+(c.toNat-48)) r<=4611686018427387904:=hv;have:=sA r (a*10+(c.toNat-48));unfold Lib.parseUint10;rw[if_pos hc,if_neg (by omega),if_neg (by omega),sC r _ (λc h=>hd c (by simp[h])) hv'];rfl
end
end Go.Lift
namespace Go.Lift
open Go.RowKit Go.IntWalk
noncomputable section
variable[Sl]
set_option maxRecDepth 10000
def BU(n:Nat)(x:Int)(s:List UInt8):Prop:=s.length=n/\(∀c∈s,C9 c)/\(valF 0 s:Int)=x
theorem Ajm(a:Nat)(l r:List UInt8):valF a (l++r)=valF (valF a l) r:=by unfold valF;rw[List.foldl_append]
theorem Y5:∀(l:List UInt8)(a:Nat),(∀c∈l,C9 c)->valF a l<(a+1)*10^l.length
 |[],a,_=>by show a<(a+1)*1;omega
 |c::r,a,h=>by have hc:=h c (by simp);unfold C9 at hc;have:=Y5 r (a*10+(c.toNat-48)) λx hx=>h x (by simp[hx]);have h2:(a*10+(c.toNat-48)+1)*10^r.length<=((a+1)*10)*10^r.length:=FZ _ (by omega);show valF (a*10+(c.toNat-48)) r<(a+1)*10^(r.length+1);rw[Nat.pow_succ,Nat.mul_comm (10^r.length) 10,<-Nat.mul_assoc];omega
theorem Y6:∀(n u:Nat),u<10^(n+1)->(Lib.decDigits u).length<=n+1
 |0,u,h=>by rw[Lib.decDigits,dif_pos (show u<10 by omega)];simp
 |n+1,u,h=>by
  rw[Lib.decDigits];split
  ·simp
  ·have:=Y6 n (u / 10) (by rw[Nat.pow_succ]at h;omega)
   rw[Av,CO];omega
theorem Ajn:∀(u:Nat),0<u->∃c r,Lib.decDigits u=c::r/\c.toNat≠48:=by
 intro u
 induction u using Nat.strongRecOn with
 |_ u ih=>
  intro hu;rw[Lib.decDigits];split
  ·rename_i h
   exact⟨_,[],rfl,by rw[Ns h];omega⟩
  ·rename_i h
   obtain⟨c,r,h1,h2⟩:=ih (u / 10) (by omega) (by omega);exact⟨c,r++_,by rw[h1];rfl,h2⟩
theorem Ajo{s:List UInt8}(h:∀c∈s,C9 c)(hn:s≠[])(hv:valF 0 s<=4611686018427387904):FG s=((valF 0 s:Int),true):=by
 have hm:Lib.parseMag s=.ok (valF 0 s):=by unfold Lib.parseMag;rw[if_neg hn,sC _ 0 h hv]
 have key:Lib.atoiAll s=.ok (valF 0 s:Int):=by
  cases s with
  |nil=>exact absurd rfl hn
  |cons c r=>
   have hc:=h c (by simp);unfold C9 at hc;unfold Lib.atoiAll;simp only;rw[if_neg (by omega),hm];have hneg:¬(c.toNat=45):=by omega
   simp only[hneg,NC,true_and,false_and,Bk];rw[if_neg (by omega)]
 unfold FG;rw[key]
theorem sD(b:UInt8):∀n,Lib.repeatL [b] n=List.replicate n b
 |0=>rfl
 |n+1=>by rw[Lib.repeatL,sD b n];rfl
theorem sE:∀n,valF 0 (List.replicate n 48)=0
 |0=>rfl
 |n+1=>by rw[List.replicate_succ];exact sE n
theorem len2{s:List UInt8}(h:s.length=2):∃a b,s=[a,b]:=by
 match s,h with
 |[a,b],_=>exact⟨a,b,rfl⟩
theorem len4{s:List UInt8}(h:s.length=4):∃a b c d,s=[a,b,c,d]:=by
 match s,h with
 |[a,b,c,d],_=>exact⟨a,b,c,d,rfl⟩
theorem Ajp{n:Nat}{x:Int}{s:List UInt8}(h:BU n x s):0<=x/\x<10^n:=by obtain⟨h1,h2,h3⟩:=h;have:=Y5 s 0 h2;rw[h1,BW,Nat.one_mul]at this;rw[<-h3];exact⟨by omega,by exact_mod_cast this⟩
theorem E4{x:Int}{s:List UInt8}(h:BU 2 x s):0<=x/\x<=99:=by have:=Ajp h;omega
section
variable{β:Type}
theorem Kd{x:Int}{n:Nat}(hn:1<=n/\n<=4)(hx:0<=x/\x<10^n):∃s,BU n x s/\∀{β:Type}(k:List UInt8->Option β),G7 x (n:Int) k=k s:=by
 obtain⟨m,rfl⟩:∃m,n=m+1:=⟨n-1,by omega⟩
 have hu:x.toNat<10^(m+1):=by
  have:=hx.2;have e:((10:Int)^(m+1))=((10^(m+1):Nat):Int):=by norm_cast
  rw[e]at this;omega
 have hp:10^(m+1)<=10^4:=Nat.pow_le_pow_right (by omega) hn.2;have hlen:=Y6 m x.toNat hu;obtain⟨h1,h2,h3⟩:=sB x.toNat
 have hi:Lib.itoa x=Lib.decDigits x.toNat:=by unfold Lib.itoa;rw[if_neg (by omega)]
 refine⟨List.replicate (m+1-(Lib.decDigits x.toNat).length) 48++Lib.decDigits x.toNat,⟨?_,λc hc=>?_,?_⟩,λk=>?_⟩
 ·rw[Av,GN]
  omega
 ·rcases Ba.1 hc with hc|hc
  ·rw[List.eq_of_mem_replicate hc]
   unfold C9;decide
  ·exact h1 c hc
 ·rw[Ajm,sE,h2]
  omega
 ·have hl1:0<(Lib.decDigits x.toNat).length:=H6.2 h3
  unfold G7;rw[Ab];unfold LE Lf;refine(c_p2 (by omega) (by omega)).trans ?_;rw[hi];dsimp only;rw[i64_in (((m+1:Nat):Int)-((Lib.decDigits x.toNat).length:Int)) (by omega)]
  have e:(if(((m+1:Nat):Int)-((Lib.decDigits x.toNat).length:Int))>(0:Int)then(((m+1:Nat):Int)-((Lib.decDigits x.toNat).length:Int))else(0:Int))=((m+1-(Lib.decDigits x.toNat).length:Nat):Int):=by split<;>omega
  rw[e];unfold UV OD;rw[AE,sD];refine(c_p3 (by omega) (by omega) (by rw[CO];omega)).trans ?_;exact Ah (by rw[GN];omega)
theorem Ajq{c:UInt8}(h:C9 c)(k:Bool->Option β):In (c.toNat:Int) k=k true:=by unfold C9 at h;unfold In;rw[Ab];refine(Ah (by omega)).trans ?_;exact k_eq (Aq (by omega))
theorem Y7{s:List UInt8}(h:∀c∈s,C9 c)(hn:s≠[])(hl:s.length<=9)(k:Int->Bool->Option β):J5 s k=k (valF 0 s:Int) true:=by
 have hv:valF 0 s<=4611686018427387904:=by have h1:=Y5 s 0 h;have h2:10^s.length<=10^9:=Nat.pow_le_pow_right (by omega) hl;omega
 have key:∀(j i m:Nat),i+j=s.length->j<m->∀(k1:Vn β)(k2:Vo β),LT m k1 k2 s (s.length:Int) (i:Int)=k2 s:=by
  intro j
  induction j with
  |zero=>intro i m hi hm k1 k2;obtain⟨m,rfl⟩:∃m',m=m'+1:=⟨m-1,by omega⟩;simp only[iX,P3];exact Ad (by omega)
  |succ j ih=>
   intro i m hi hm k1 k2;obtain⟨m,rfl⟩:∃m',m=m'+1:=⟨m-1,by omega⟩;simp only[iX,P3];refine(Ah (by omega)).trans ?_;refine(Ai (by omega)).trans ?_;have hlt:i<s.length:=by omega
   have hd:C9 (List.getD s (Int.toNat (i:Int)) 0):=by rw[AE,ID,Bx hlt];exact h _ (Sn hlt)
   refine(Ajq hd _).trans ?_;rw[i64_in ((i:Int)+1) (by omega)];exact ih (i+1) m (by omega) (by omega) k1 k2
 unfold J5;rw[Ab];unfold Vq;rw[Ab];refine(key s.length 0 fuel (by omega) (AY (by omega)) _ _).trans ?_;unfold UT OA;refine(Ah (by omega)).trans ?_;rw[Ajo h hn hv];refine c_t.trans ?_;exact congrFun (Aj k rfl) _ |>.trans (by rw[Aq (show((s.length:Int)<=9) by omega)])
theorem Nt{x:Int}{s:List UInt8}(h:BU 2 x s)(k:Int->Bool->Option β):J6 s k=k x true:=by obtain⟨h1,h2,h3⟩:=h;unfold J6;rw[Ab];refine(Y7 h2 (by intro e;rw[e]at h1;simp at h1) (by omega) _).trans ?_;refine c_t.trans ?_;rw[h3,h1];rfl
theorem Ajr:∃m,fuel=m+4:=⟨fuel-4,by have:=AY (n:=4) (by omega);omega⟩
theorem sF{a b c:Int}{A B C:List UInt8}(hA:BU 2 a A)(hB:BU 2 b B)(hC:BU 2 c C)(hb:b<=59)(hc:c<=59)(k1:VT β)(k2:VU β):PY k1 k2 0 3 0 [A,B,C]=k2 (60*(60*a+b)+c):=by
 have ha':=E4 hA;have hb':=E4 hB;have hc':=E4 hC;unfold PY;rw[Ab];obtain⟨m,hm⟩:=Ajr;rw[hm];simp only[Aem,VW];refine(Ah (by decide)).trans ?_;refine(Ai (by simp only[Aw,Bw];omega)).trans ?_;refine(Nt hA _).trans ?_;refine c_f.trans ?_;refine(Ad (by decide)).trans ?_;rw[show IntKind.i64.wrap (60*(0:Int))=0 by decide,show IntKind.i64.wrap ((0:Int)+a)=a by rw[i64_in _ (by omega)];omega,show IntKind.i64.wrap ((0:Int)+1)=1 by decide];refine(Ah (by decide)).trans ?_;refine(Ai (by simp only[Aw,Bw];omega)).trans ?_;refine(Nt hB _).trans ?_;refine c_f.trans ?_;refine(Ah (by decide)).trans ?_;refine(Ad (by omega)).trans ?_;rw[i64_in (60*a) (by omega),i64_in (60*a+b) (by omega),show IntKind.i64.wrap ((1:Int)+1)=2 by decide];refine(Ah (by decide)).trans ?_;refine(Ai (by simp only[Aw,Bw];omega)).trans ?_;refine(Nt hC _).trans ?_;refine c_f.trans ?_;refine(Ah (by decide)).trans ?_;refine(Ad (by omega)).trans ?_;rw[i64_in (60*(60*a+b)) (by omega),i64_in (60*(60*a+b)+c) (by omega),show IntKind.i64.wrap ((2:Int)+1)=3 by decide];exact Ad (by decide)
theorem Dx{b:UInt8}(hb:b.toNat<48\/57<b.toNat){s:List UInt8}(h:∀c∈s,C9 c):∀c∈s,c≠b:=by intro c hc e;have:=h c hc;unfold C9 at this;rw[e]at this;omega
theorem sG{a b:Int}{A B:List UInt8}(hA:BU 2 a A)(hB:BU 2 b B)(hb:b<=59)(hs:3600*a+60*b<=86400)(k:Int->Bool->Option β):FR (A++58::B) k=k (3600*a+60*b) true:=by
 have ha':=E4 hA;have hb':=E4 hB;have hC:BU 2 0 [48,48]:=⟨rfl,by intro c hc;simp at hc;subst hc;unfold C9;decide,rfl⟩;have e:=RV (b:=58) B (Dx (by decide) hA.2.1);rw[Y4 (Dx (by decide) hB.2.1)]at e;unfold FR;rw[Ab];unfold J1 Js;refine(c_p2 (by rw[Av,Aw,hA.1,hB.1];decide) (by decide)).trans ?_;rw[e];refine(Ad (by simp only[Aw,Bw];omega)).trans ?_;refine(Ad (by simp only[Aw,Bw];omega)).trans ?_;refine(Dh (by simp only[Aw,Bw];omega)).trans ?_;refine(c_p2 (by omega) (by simp only[Av,Aw,Bw];omega)).trans ?_;refine(sF hA hB hC hb (by omega) _ _).trans ?_;show k _ (decide _)=_;rw[show 60*(60*a+b)+0=3600*a+60*b by omega,Aq (by omega)]
theorem sH{a b c:Int}{A B C:List UInt8}(hA:BU 2 a A)(hB:BU 2 b B)(hC:BU 2 c C)(hb:b<=59)(hc:c<=59)(hs:3600*a+60*b+c<=86400)(k:Int->Bool->Option β):FR (A++58::(B++58::C)) k=k (3600*a+60*b+c) true:=by
 have ha':=E4 hA;have hb':=E4 hB;have hc':=E4 hC;have e:=RV (b:=58) (B++58::C) (Dx (by decide) hA.2.1);rw[RV (b:=58) C (Dx (by decide) hB.2.1),Y4 (Dx (by decide) hC.2.1)]at e;unfold FR;rw[Ab];unfold J1 Js;refine(c_p2 (by simp only[Av,Aw,hA.1,hB.1,hC.1];decide) (by decide)).trans ?_;rw[e];refine(Ad (by simp only[Aw,Bw];omega)).trans ?_;refine(Ad (by simp only[Aw,Bw];omega)).trans ?_;refine(Dh (by simp only[Aw,Bw];omega)).trans ?_;refine(c_p2 (by omega) (by simp only[Av,Aw,Bw];omega)).trans ?_;refine(sF hA hB hC hb hc _ _).trans ?_;show k _ (decide _)=_;rw[show 60*(60*a+b)+c=3600*a+60*b+c by omega,Aq (by omega)]
theorem sI{y m d day:Int}{Y M D:List UInt8}(hY:BU 4 y Y)(hM:BU 2 m M)(hD:BU 2 d D)(h:∀{β:Type}(k:Int->Int->Option β),Iw (y,m,d) k=k day 0)(k:Int->Bool->Option β):Iy (Y++45::(M++45::D)) k=k day true:=by
 obtain⟨y1,y2,y3,y4,rfl⟩:=len4 hY.1;obtain⟨m1,m2,rfl⟩:=len2 hM.1;obtain⟨d1,d2,rfl⟩:=len2 hD.1;unfold Iy;rw[Ab];refine(Bm rfl).trans ?_;refine(Ai (by simp only[Aw,Av,Bw];omega)).trans ?_;refine(Bm rfl).trans ?_;refine(Ai (by simp only[Aw,Av,Bw];omega)).trans ?_;refine(Bm rfl).trans ?_;refine(c_p3 (by decide) (by decide) (by simp only[Aw,Av,Bw];omega)).trans ?_;refine(Y7 (s:=[y1,y2,y3,y4]) hY.2.1 (by simp) (by simp) _).trans ?_;refine(c_p3 (by decide) (by decide) (by simp only[Aw,Av,Bw];omega)).trans ?_;refine(Nt (s:=[m1,m2]) hM _).trans ?_;refine(c_p3 (by decide) (by simp only[Aw,Av,Bw];omega) (by omega)).trans ?_;refine(Nt (s:=[d1,d2]) hD _).trans ?_;rw[hY.2.2];refine(h _).trans ?_;rfl
theorem Ajs{a b:Int}{A B:List UInt8}{g:UInt8}(hA:BU 2 a A)(hB:BU 2 b B)(hb:b<=59)(hs:3600*a+60*b<=64800)(k:Int->Bool->Option β):M0 (g::(A++58::B)) k=k (if g=45 then-(3600*a+60*b)else 3600*a+60*b) true:=by
 have ha':=E4 hA;have hb':=E4 hB;have hl:(g::(A++58::B)).length=6:=by simp only[Aw,Av,hA.1,hB.1]
 unfold M0;rw[Ab];refine(c_p3 (by decide) (by rw[hl];decide) (by omega)).trans ?_
 have e:List.drop (Int.toNat 1) (List.take (Int.toNat ((g::(A++58::B)).length:Int)) (g::(A++58::B)))=A++58::B:=by rw[AE,H8];rfl
 rw[e];refine(sG hA hB hb (by omega) _).trans ?_;refine(Ai (by rw[hl];decide)).trans ?_;by_cases hg:g=45
 ·subst hg
  refine(Ah rfl).trans ?_;rw[i64_in (0-(3600*a+60*b)) (by omega),if_pos rfl];unfold Mz;rw[Ab];unfold Qm;refine c_t.trans ?_;refine(Ah (by rw[hl];rfl)).trans ?_;refine(Ah (by omega)).trans ?_;show k _ (decide _)=_;rw[Aq (by omega),show 0-(3600*a+60*b)=-(3600*a+60*b) by omega]
 ·refine(Ad (λe=>hg ?_)).trans ?_
  ·have:g.toNat=45:=by have e:((g.toNat:Nat):Int)=45:=e;omega
   exact UInt8.toNat_inj.1 this
  ·rw[if_neg hg]
   unfold Mz;rw[Ab];unfold Qm;refine c_t.trans ?_;refine(Ah (by rw[hl];rfl)).trans ?_;refine(Ah (by omega)).trans ?_;show k _ (decide _)=_;rw[Aq (by omega)]
theorem Ajt{y m d day a b c:Int}{Y M D A B C:List UInt8}(hY:BU 4 y Y)(hM:BU 2 m M)(hD:BU 2 d D)(h:∀{β:Type}(k:Int->Int->Option β),Iw (y,m,d) k=k day 0)(hd:0<=day/\day<=100000)(hA:BU 2 a A)(hB:BU 2 b B)(hC:BU 2 c C)(ha:a<=23)(hb:b<=59)(hc:c<=59)(k:Int->Bool->Option β):JJ (Y++45::(M++45::(D++84::(A++58::(B++58::(C++[90])))))) k=k (day*86400+(3600*a+60*b+c)) true:=by
 have ha':=E4 hA;have hb':=E4 hB;have hc':=E4 hC;have e1:=λk=>sI (β:=β) hY hM hD h k;have e2:=λk=>sH (β:=β) hA hB hC hb hc (by omega) k;obtain⟨y1,y2,y3,y4,rfl⟩:=len4 hY.1;obtain⟨m1,m2,rfl⟩:=len2 hM.1;obtain⟨d1,d2,rfl⟩:=len2 hD.1;obtain⟨a1,a2,rfl⟩:=len2 hA.1;obtain⟨b1,b2,rfl⟩:=len2 hB.1;obtain⟨c1,c2,rfl⟩:=len2 hC.1;unfold JJ;rw[Ab];refine(Bm rfl).trans ?_;refine(Ai (by simp only[Aw,Av,Bw];omega)).trans ?_;refine(Bm rfl).trans ?_;refine(Ai (by simp only[Aw,Av,Bw];omega)).trans ?_;refine(Bm rfl).trans ?_;refine(c_p3 (by decide) (by decide) (by simp only[Aw,Av,Bw];omega)).trans ?_;refine(e1 _).trans ?_;refine(c_p3 (by decide) (by decide) (by simp only[Aw,Av,Bw];omega)).trans ?_;refine(e2 _).trans ?_;refine c_t.trans ?_;refine c_t.trans ?_;show k _ (decide _)=_;rw[i64_in (day*86400) (by omega),i64_in (day*86400+(3600*a+60*b+c)) (by omega),Aq (by omega)]
end
end
end Go.Lift
namespace Go.Lift
open Go.RowKit Go.IntWalk
noncomputable section
variable[Sl]
set_option maxRecDepth 10000
section
variable{β:Type}
theorem Y8{c:Int}(h:c<97)(k:Bool->Option β):Hm c k=k false:=by unfold Hm;rw[Ab];exact Ad (by omega)
theorem sJ{g:UInt8}{r:List UInt8}(hg:g.toNat<97)(hl:r.length<=23)(k:Bool->Option β):FQ (g::r) k=k false:=by unfold FQ;rw[Ab];refine(Ad (by simp)).trans ?_;refine(Ad (by rw[Aw];omega)).trans ?_;refine(Ai (by rw[Aw];omega)).trans ?_;refine(Y8 (by show((g.toNat:Nat):Int)<97;omega) _).trans ?_;rfl
theorem Y9{s:List UInt8}(b:UInt8)(hl:s.length<1000)(k:Bool->Option β):J3 s [b] k=k (decide (b∈s)):=by unfold J3 OB;rw[Ajl];exact Ah (by omega)
theorem Aju{c:UInt8}{r:List UInt8}(hc:c.toNat<97/\c.toNat≠43/\c.toNat≠45)(hl:(c::r).length<1000)(k:Int->Int->Bool->Option β):GB (c::r) k=cond (decide (84∈c::r)) (JJ (c::r) λn ok=>k 5 n ok) (cond (decide (45∈c::r)) (Iy (c::r) λn ok=>k 3 n ok) (cond (decide (58∈c::r)) (FR (c::r) λn ok=>k 2 n ok) (JK (λa b d=>k a b d) (c::r)))):=by
 unfold GB;rw[Ab];refine(Ai (by rw[Aw];omega)).trans ?_;refine(Y8 (by show((c.toNat:Nat):Int)<97;omega) _).trans ?_;refine c_f.trans ?_;refine(Ad (by show ¬((c.toNat:Nat):Int)=43;omega)).trans ?_;dsimp only;rw[AB (show ¬(((List.getD (c::r) (Int.toNat 0) 0).toNat:Nat):Int)=45 by show ¬((c.toNat:Nat):Int)=45;omega)];unfold JL;rw[Ab];unfold M7;refine c_f.trans ?_;refine(Y9 84 hl _).trans ?_;congr 1;refine(Y9 45 hl _).trans ?_;congr 1;refine(Y9 58 hl _).trans ?_;rfl
def HeadOk(s:List UInt8):Prop:=∃c r,s=c::r/\c.toNat<97/\c.toNat≠43/\c.toNat≠45
theorem HeadOk.app{p:List UInt8}(h:HeadOk p)(q:List UInt8):HeadOk (p++q):=by obtain⟨c,r,rfl,h⟩:=h;exact⟨c,r++q,rfl,h⟩
theorem Nu{s:List UInt8}(h:HeadOk s)(hl:s.length<1000)(k:Int->Int->Bool->Option β):GB s k=cond (decide (84∈s)) (JJ s λn ok=>k 5 n ok) (cond (decide (45∈s)) (Iy s λn ok=>k 3 n ok) (cond (decide (58∈s)) (FR s λn ok=>k 2 n ok) (JK (λa b d=>k a b d) s))):=by
 obtain⟨c,r,rfl,h⟩:=h;exact Aju h hl k
theorem Nv{s:List UInt8}(h:HeadOk s)(hl:s.length<=20)(k:Bool->Option β):FQ s k=k false:=by obtain⟨c,r,rfl,h⟩:=h;exact sJ h.1 (by rw[Aw]at hl;omega) k
theorem Ajv{c:UInt8}{r:List UInt8}(hc:c.toNat=43\/c.toNat=45)(k:Int->Int->Bool->Option β):GB (c::r) k=M0 (c::r) λn ok=>k 4 n ok:=by
 unfold GB;rw[Ab];refine(Ai (by rw[Aw];omega)).trans ?_;refine(Y8 (by show((c.toNat:Nat):Int)<97;omega) _).trans ?_;refine c_f.trans ?_;by_cases h:c.toNat=43
 ·refine(Ah (by show((c.toNat:Nat):Int)=43;omega)).trans ?_
  unfold JL;rw[Ab];unfold M7;exact c_t
 ·refine(Ad (by show ¬((c.toNat:Nat):Int)=43;omega)).trans ?_
  dsimp only;rw[Aq (show(((List.getD (c::r) (Int.toNat 0) 0).toNat:Nat):Int)=45 by show((c.toNat:Nat):Int)=45;omega)];unfold JL;rw[Ab];unfold M7;exact c_t
theorem Ke{s:List UInt8}{kind n:Int}(hs:s≠[])(hk:kind≠0)(h:∀{β:Type}(k:Int->Int->Bool->Option β),GB s k=k kind n true)(k:Int×List UInt8×Int->Int->Option β):I1 s k=k (kind,[],n) 0:=by
 unfold I1;rw[Ab];refine(Ad hs).trans ?_;refine(h _).trans ?_;refine c_f.trans ?_;dsimp only;rw[AB hk];rfl
structure TokText (t:Int×List UInt8×Int) (s:List UInt8):Prop where
 txt:∀{β:Type}(k:List UInt8->Int->Option β),Iz t k=k s 0
 tok:∀{β:Type}(k:Int×List UInt8×Int->Int->Option β),I1 s k=k t 0
 nam:∀{β:Type}(k:Bool->Option β),FQ s k=k false
 ne:s≠[]
 ch:∀c∈s,43<=c.toNat/\c.toNat<=90
 len:s.length<=20
theorem Dy{s:List UInt8}(h:∀c∈s,C9 c):∀c∈s,43<=c.toNat/\c.toNat<=90:=λc hc=>by have:=h c hc;unfold C9 at this;omega
theorem EU{p q:List UInt8}{b:UInt8}(hp:∀c∈p,43<=c.toNat/\c.toNat<=90)(hb:43<=b.toNat/\b.toNat<=90)(hq:∀c∈q,43<=c.toNat/\c.toNat<=90):∀c∈p++b::q,43<=c.toNat/\c.toNat<=90:=by
 intro c hc;rcases Ba.1 hc with hc|hc
 ·exact hp c hc
 ·rcases AH.1 hc with rfl|hc
  ·exact hb
  ·exact hq c hc
theorem Hz{p q:List UInt8}{a b:UInt8}(hp:∀c∈p,c≠a)(hb:b≠a)(hq:∀c∈q,c≠a):∀c∈p++b::q,c≠a:=by
 intro c hc;rcases Ba.1 hc with hc|hc
 ·exact hp c hc
 ·rcases AH.1 hc with rfl|hc
  ·exact hb
  ·exact hq c hc
theorem H0{s:List UInt8}{a:UInt8}(h:∀c∈s,c≠a):decide (a∈s)=false:=AB λhm=>h a hm rfl
theorem YA{p q:List UInt8}{a:UInt8}:decide (a∈p++a::q)=true:=Aq (by simp)
theorem YB{n:Nat}{x:Int}{s:List UInt8}(h:BU (n+1) x s):HeadOk s:=by
 match s,h with
 |[],h=>exact absurd h.1 (by simp)
 |c::r,h=>have:=h.2.1 c (by simp);unfold C9 at this;exact⟨c,r,rfl,by omega,by omega,by omega⟩
theorem YC{n:Int}(hn:0<=n/\n<=300000):∃A B C,BU 2 (n / 3600) A/\BU 2 (n / 60%60) B/\BU 2 (n%60) C/\∀{β:Type}(sec:Bool)(k:List UInt8->Option β),Iv n sec k=k (cond sec (A++58::(B++58::C)) (A++58::B)):=by
 obtain⟨A,hA,fA⟩:=Kd (x:=n / 3600) (n:=2) (by omega) (by omega);obtain⟨B,hB,fB⟩:=Kd (x:=n / 60%60) (n:=2) (by omega) (by omega);obtain⟨C,hC,fC⟩:=Kd (x:=n%60) (n:=2) (by omega) (by omega);have e1:Int.tdiv n 3600=n / 3600:=DN hn.1;have e2:Int.tdiv n 60=n / 60:=DN hn.1;have e3:Int.tmod (n / 60) 60=n / 60%60:=Dk (by omega);have e4:Int.tmod n 60=n%60:=Dk hn.1;refine⟨A,B,C,hA,hB,hC,λsec k=>?_⟩;unfold Iv;rw[Ab];rw[e1,i64_in (n / 3600) (by omega)];refine(fA _).trans ?_;refine(Ah (by rw[hA.1];decide)).trans ?_;rw[e2,i64_in (n / 60) (by omega),e3];refine(fB _).trans ?_;refine(Ah (by rw[Av,hA.1,hB.1];decide)).trans ?_;cases sec with
 |false=>refine c_f.trans ?_;exact k_eq (by simp)
 |true=>refine c_t.trans ?_;rw[e4];refine(fC _).trans ?_;refine(Ah (by rw[hC.1];decide)).trans ?_;refine(Ah (by simp only[Av,hA.1,hB.1,hC.1];decide)).trans ?_;exact k_eq (by simp)
theorem sK{day:Int}(h:0<=day/\day<98981):∃y m d Y M D,BU 4 y Y/\BU 2 m M/\BU 2 d D/\(∀{β:Type}(k:Int->Int->Option β),Iw (y,m,d) k=k day 0)/\∀{β:Type}(k:List UInt8->Bool->Option β),Mo day k=k (Y++45::(M++45::D)) true:=by
 obtain⟨y,m,d,q⟩:=qN h;have q1:=q.yr;have q2:=q.mo;have q3:=q.dd;obtain⟨Y,hY,fY⟩:=Kd (x:=y) (n:=4) (by omega) (by omega);obtain⟨M,hM,fM⟩:=Kd (x:=m) (n:=2) (by omega) (by omega);obtain⟨D,hD,fD⟩:=Kd (x:=d) (n:=2) (by omega) (by omega);refine⟨y,m,d,Y,M,D,hY,hM,hD,q.day,λk=>?_⟩;unfold Mo;rw[Ab];refine(q.of _).trans ?_;refine(fY _).trans ?_;refine(Ah (by rw[hY.1];decide)).trans ?_;refine(fM _).trans ?_;refine(Ah (by simp only[Av,hY.1,hM.1];decide)).trans ?_;refine(Ah (by simp only[Av,hY.1,hM.1];decide)).trans ?_;refine(fD _).trans ?_;refine(Ah (by simp only[Av,hY.1,hM.1,hD.1];decide)).trans ?_;show k _ (decide _)=_;rw[Aq (by rfl)];simp
theorem Kf{t:Int×List UInt8×Int}{s:List UInt8}(h0:t.1≠0)(h1:t.2.1=[])(h:∀{β:Type}(k:List UInt8->Bool->Option β),G8 t k=k s true)(k:List UInt8->Int->Option β):Iz t k=k s 0:=by unfold Iz;rw[Ab];refine(Ad h0).trans ?_;refine(h _).trans ?_;refine c_f.trans ?_;exact Bm h1
theorem Ajw{n:Int}(hn:0<=n/\n<=999999999):∃s,TokText (1,[],n) s:=by
 obtain⟨h1,h2,h3⟩:=sB n.toNat;have hlen:=Y6 8 n.toNat (by omega)
 have hi:Lib.itoa n=Lib.decDigits n.toNat:=by unfold Lib.itoa;rw[if_neg (by omega)]
 have hhead:∃c r,Lib.decDigits n.toNat=c::r/\(c.toNat≠48\/Lib.decDigits n.toNat=[48]):=by
  by_cases h:n.toNat=0
  ·rw[h]
   exact⟨48,[],by rw[Lib.decDigits,dif_pos (by omega)];rfl,.inr (by rw[Lib.decDigits,dif_pos (by omega)];rfl)⟩
  ·obtain⟨c,r,h4,h5⟩:=Ajn n.toNat (by omega)
   exact⟨c,r,h4,.inl h5⟩
 obtain⟨c,r,e,hz⟩:=hhead;have hc:=h1 c (by rw[e];simp);unfold C9 at hc;refine⟨Lib.decDigits n.toNat,Kf (by show(1:Int)≠0;decide) rfl λk=>?_,Ke h3 (by decide) λk=>?_,λk=>?_,h3,Dy h1,by omega⟩
 ·unfold G8
  rw[Ab];unfold LE Lf;refine c_t.trans ?_;refine(c_p2 (by show-9223372036854775808<=n;omega) (by show n<=9223372036854775807;omega)).trans ?_;refine(Ah (by show 0<=n;omega)).trans ?_;show k _ (decide _)=_;rw[Aq (by show n<=999999999;omega)];show k (Lib.itoa n) true=_;rw[hi]
 ·refine(Nu ⟨c,r,e,by omega,by omega,by omega⟩ (by omega) _).trans ?_
  rw[H0 (Dx (by decide) h1),H0 (Dx (by decide) h1),H0 (Dx (by decide) h1)];refine c_f.trans (c_f.trans (c_f.trans ?_));unfold JK;rw[Ab];unfold WE;refine(Y7 h1 h3 (by omega) _).trans ?_;refine c_t.trans ?_;refine(Ai (by have:=H6.2 h3;omega)).trans ?_;rw[show((valF 0 (Lib.decDigits n.toNat):Nat):Int)=n by rw[h2];omega];by_cases h0:c.toNat=48
  ·refine(Bm (by rw[e];show((c.toNat:Nat):Int)=48;omega)).trans ?_
   rcases hz with hz|hz
   ·exact absurd h0 hz
   ·show k _ _ (decide _)=_
    rw[Aq hz]
  ·exact CL (by rw[e];show ¬((c.toNat:Nat):Int)=48;omega)
 ·exact Nv ⟨c,r,e,by omega,by omega,by omega⟩ (by omega) k
theorem Ajx{n:Int}(hn:0<=n/\n<=86400):∃s,TokText (2,[],n) s:=by
 obtain⟨A,B,C,hA,hB,hC,f⟩:=YC (n:=n) (by omega);have ha:=YB hA;have e4:Int.tmod n 60=n%60:=Dk hn.1
 have ht:∀{β:Type}(k:List UInt8->Bool->Option β),G8 (2,[],n) k=Iv n (!decide (n%60=0)) λs=>k s true:=by intro β k;unfold G8;rw[Ab];refine c_f.trans (c_t.trans ?_);refine(Ah (by show 0<=n;omega)).trans ?_;unfold Ql;rw[Ab];unfold Wt;dsimp only;rw[e4,Aq (show n<=86400 by omega)]
 have nA:=Dx (b:=84) (by decide) hA.2.1;have nB:=Dx (b:=84) (by decide) hB.2.1;have nC:=Dx (b:=84) (by decide) hC.2.1;have mA:=Dx (b:=45) (by decide) hA.2.1;have mB:=Dx (b:=45) (by decide) hB.2.1;have mC:=Dx (b:=45) (by decide) hC.2.1;have lA:=hA.1;by_cases h0:n%60=0
 ·refine⟨A++58::B,Kf (by show(2:Int)≠0;decide) rfl λk=>?_,Ke (by simp) (by decide) λk=>?_,λk=>Nv (ha.app _) (by simp only[Av,Aw,hB.1,lA];omega) k,by simp,
   EU (Dy hA.2.1) (by decide) (Dy hB.2.1),by simp only[Av,Aw,hB.1,lA];omega⟩
  ·refine(ht k).trans ((f _ _).trans ?_)
   rw[Aq h0];rfl
  ·refine(Nu (ha.app _) (by simp only[Av,Aw,hB.1,lA];omega) _).trans ?_
   have x1:=H0 (Hz nA (show(58:UInt8)≠84 by decide) nB);have x2:=H0 (Hz mA (show(58:UInt8)≠45 by decide) mB);have x3:=YA (p:=A) (q:=B) (a:=58);rw[x1,x2,x3];refine c_f.trans (c_f.trans (c_t.trans ?_));refine(sG hA hB (by omega) (by omega) _).trans ?_;rw[show 3600*(n / 3600)+60*(n / 60%60)=n by omega]
 ·refine⟨A++58::(B++58::C),Kf (by show(2:Int)≠0;decide) rfl λk=>?_,Ke (by simp) (by decide) λk=>?_,λk=>Nv (ha.app _) (by simp only[Av,Aw,hB.1,hC.1,lA];omega) k,by simp,
   EU (Dy hA.2.1) (by decide) (EU (Dy hB.2.1) (by decide) (Dy hC.2.1)),by simp only[Av,Aw,hB.1,hC.1,lA];omega⟩
  ·refine(ht k).trans ((f _ _).trans ?_)
   rw[AB h0];rfl
  ·refine(Nu (ha.app _) (by simp only[Av,Aw,hB.1,hC.1,lA];omega) _).trans ?_
   have x1:=H0 (Hz nA (show(58:UInt8)≠84 by decide) (Hz nB (show(58:UInt8)≠84 by decide) nC));have x2:=H0 (Hz mA (show(58:UInt8)≠45 by decide) (Hz mB (show(58:UInt8)≠45 by decide) mC));have x3:=YA (p:=A) (q:=B++58::C) (a:=58);rw[x1,x2,x3];refine c_f.trans (c_f.trans (c_t.trans ?_));refine(sH hA hB hC (by omega) (by omega) (by omega) _).trans ?_;rw[show 3600*(n / 3600)+60*(n / 60%60)+n%60=n by omega]
theorem Ajy{n:Int}(hn:0<=n/\n<98981):∃s,TokText (3,[],n) s:=by
 obtain⟨y,m,d,Y,M,D,hY,hM,hD,hq,f⟩:=sK hn;have ha:=YB hY;have lY:=hY.1
 refine⟨Y++45::(M++45::D),Kf (by show(3:Int)≠0;decide) rfl λk=>?_,Ke (by simp) (by decide) λk=>?_,λk=>Nv (ha.app _) (by simp only[Av,Aw,hM.1,hD.1,lY];omega) k,by simp,
  EU (Dy hY.2.1) (by decide) (EU (Dy hM.2.1) (by decide) (Dy hD.2.1)),by simp only[Av,Aw,hM.1,hD.1,lY];omega⟩
 ·unfold G8
  rw[Ab];refine c_f.trans (c_f.trans (c_t.trans ?_));exact f _
 ·refine(Nu (ha.app _) (by simp only[Av,Aw,hM.1,hD.1,lY];omega) _).trans ?_
  have x1:=H0 (Hz (Dx (b:=84) (by decide) hY.2.1) (show(45:UInt8)≠84 by decide) (Hz (Dx (b:=84) (by decide) hM.2.1) (show(45:UInt8)≠84 by decide) (Dx (b:=84) (by decide) hD.2.1)));have x2:=YA (p:=Y) (q:=M++45::D) (a:=45);rw[x1,x2];refine c_f.trans (c_t.trans ?_);exact sI hY hM hD hq _
theorem Ajz{n:Int}(hn:-64800<=n/\n<=64800)(h60:n%60=0):∃s,TokText (4,[],n) s:=by
 have key:∀(p:Int)(g:UInt8),0<=p->p<=64800->p%60=0->(g=43/\n=p/\0<=n)\/(g=45/\n=-p/\n<0)->∃s,TokText (4,[],n) s:=by
  intro p g hp1 hp2 hp3 hg;obtain⟨A,B,C,hA,hB,hC,f⟩:=YC (n:=p) (by omega);have hg2:g.toNat=43\/g.toNat=45:=by rcases hg with⟨rfl,_⟩|⟨rfl,_⟩<;>decide
  have e4:Int.tmod p 60=p%60:=Dk hp1
  have hp:∀{β:Type}(k1:lP β),My k1 p [g]=k1 (g::(A++58::B)) true:=by intro β k1;unfold My;rw[Ab];unfold Wu;refine(f false _).trans ?_;refine(Ah (by simp only[Av,Aw,AT,hA.1,hB.1];decide)).trans ?_;refine(Ah hp1).trans ?_;refine(Ah hp2).trans ?_;show k1 _ (decide _)=_;rw[e4,Aq hp3];rfl
  refine⟨g::(A++58::B),Kf (by show(4:Int)≠0;decide) rfl λk=>?_,Ke (by simp) (by decide) λk=>?_,λk=>sJ (by omega) (by simp only[Av,Aw,hA.1,hB.1];decide) k,by simp,
   λc hc=>?_,by simp only[Av,Aw,hA.1,hB.1];decide⟩
  ·unfold G8
   rw[Ab];refine c_f.trans (c_f.trans (c_f.trans (c_t.trans ?_)));rcases hg with⟨rfl,rfl,h⟩|⟨rfl,rfl,h⟩
   ·refine(Ad (by show ¬n<0;omega)).trans ?_
    exact hp _
   ·refine(Ah (by show-p<0;omega)).trans ?_
    dsimp only;rw[show IntKind.i64.wrap (0- -p)=p by rw[i64_in _ (by omega)];omega];exact hp _
  ·refine(Ajv hg2 _).trans ?_
   refine(Ajs hA hB (by omega) (by omega) _).trans ?_;rcases hg with⟨rfl,rfl,h⟩|⟨rfl,rfl,h⟩
   ·rw[if_neg (by decide),show 3600*(n / 3600)+60*(n / 60%60)=n by omega]
   ·rw[if_pos rfl,show 3600*(p / 3600)+60*(p / 60%60)=p by omega]
  ·rcases AH.1 hc with rfl|hc
   ·omega
   ·exact EU (Dy hA.2.1) (by decide) (Dy hB.2.1) c hc
 by_cases h:n<0
 ·exact key (-n) 45 (by omega) (by omega) (by omega) (.inr ⟨rfl,by omega,h⟩)
 ·exact key n 43 (by omega) (by omega) h60 (.inl ⟨rfl,rfl,by omega⟩)
theorem AjA{n:Int}(hn:0<=n/\n<98981*86400):∃s,TokText (5,[],n) s:=by
 obtain⟨y,m,d,Y,M,D,hY,hM,hD,hq,f⟩:=sK (day:=n / 86400) (by omega);obtain⟨A,B,C,hA,hB,hC,f2⟩:=YC (n:=n%86400) (by omega);have ha:=YB hY;have lY:=hY.1;have e1:Int.tdiv n 86400=n / 86400:=DN hn.1;have e2:Int.tmod n 86400=n%86400:=Dk hn.1
 refine⟨Y++45::(M++45::(D++84::(A++58::(B++58::(C++[90]))))),Kf (by show(5:Int)≠0;decide) rfl λk=>?_,Ke (by simp) (by decide) λk=>?_,
  λk=>Nv (ha.app _) (by simp only[Av,Aw,Bw,hM.1,hD.1,hA.1,hB.1,hC.1,lY];omega) k,by simp,
  EU (Dy hY.2.1) (by decide) (EU (Dy hM.2.1) (by decide) (EU (Dy hD.2.1) (by decide) (EU (Dy hA.2.1) (by decide) (EU (Dy hB.2.1) (by decide) (EU (Dy hC.2.1) (by decide) (by simp)))))),
  by simp only[Av,Aw,Bw,hM.1,hD.1,hA.1,hB.1,hC.1,lY];omega⟩
 ·unfold G8
  rw[Ab];refine c_f.trans (c_f.trans (c_f.trans (c_f.trans (c_t.trans ?_))));dsimp only;rw[e1,i64_in (n / 86400) (by omega)];refine(f _).trans ?_;refine(Ah (by simp only[Av,Aw,Bw,hM.1,hD.1,lY];omega)).trans ?_;rw[e2];refine(f2 true _).trans ?_;refine(Ah (by simp only[Av,Aw,Bw,Af,hM.1,hD.1,hA.1,hB.1,hC.1,lY];omega)).trans ?_;refine(Ah (by simp only[Av,Aw,Bw,Af,hM.1,hD.1,hA.1,hB.1,hC.1,lY];omega)).trans ?_;refine c_t.trans ?_;show k _ (decide _)=_;rw[Aq hn.1];simp
 ·refine(Nu (ha.app _) (by simp only[Av,Aw,Bw,hM.1,hD.1,hA.1,hB.1,hC.1,lY];omega) _).trans ?_
  have x1:decide (84∈Y++45::(M++45::(D++84::(A++58::(B++58::(C++[90]))))))=true:=Aq (by simp);rw[x1];refine c_t.trans ?_;refine(Ajt hY hM hD hq (by omega) hA hB hC (by omega) (by omega) (by omega) _).trans ?_;rw[show n / 86400*86400+(3600*(n%86400 / 3600)+60*(n%86400 / 60%60)+n%86400%60)=n by omega]
end
end
end Go.Lift
namespace Go.Lift
open Go.RowKit Go.IntWalk
noncomputable section
variable[Sl]
set_option maxRecDepth 10000
def Txt(t:Tok)(s:List UInt8):Prop:=∀{β:Type}(k:List UInt8->Int->Option β),Iz t k=k s 0
theorem Txt.uniq{t:Tok}{s s':List UInt8}(h:Txt t s)(h':Txt t s'):s=s':=
 F3 ((h λa _=>some a).symm.trans (h' λa _=>some a))
def txOf(t:Tok):List UInt8:=by
 classical exact if h:∃s,Txt t s then Classical.choose h else []
theorem sL{t:Tok}{s:List UInt8}(h:Txt t s):txOf t=s:=by have hx:∃s,Txt t s:=⟨s,h⟩;unfold txOf;rw[dif_pos hx];exact Txt.uniq (t:=t) (Classical.choose_spec hx) h
def tw(t:Tok):Nat:=if t.1=0 then t.2.1.length else 20
structure TokG (t:Tok):Prop where
 txt:Txt t (txOf t)
 len:(txOf t).length<=tw t
 tok:∀{β:Type}(k:Tok->Int->Option β),I1 (txOf t) k=k t 0
 ne:txOf t≠[]
 ch:∀c∈txOf t,33<=c.toNat/\c.toNat<=126/\c.toNat≠35
theorem BA{s:List UInt8}(h:BE s=true):TokG (wd s):=by
 have hx:Txt (wd s) s:=by intro β k;unfold Iz;rw[Ab];refine(Ah rfl).trans ?_;refine(Yg _ _).trans ?_;show cond (!BE s) _ _=_;rw[h];refine c_f.trans ?_;exact Bm (p:=(wd s).2.2=0) rfl
 have e:=sL hx
 have hne:s≠[]:=by intro g;rw[g]at h;cases h
 have hch:s.all Hv=true:=by unfold BE at h;simp only[Bv]at h;exact h.2.2.2
 have hsm:GD (s.getD 0 0).toNat=true:=by unfold BE at h;simp only[Bv]at h;exact h.2.2.1
 refine⟨by rw[e];exact hx,by rw[e];exact Ao _,λ{β} k=>?_,by rw[e];exact hne,λc hc=>?_⟩
 ·rw[e]
  unfold I1;rw[Ab];refine(Ad hne).trans ?_;unfold GB;rw[Ab];have hlen:0<s.length:=H6.2 hne;refine(Ai (show(0:Int)<=0/\(0:Int)<(s.length:Int) by omega)).trans ?_;refine(Yf _ _).trans ?_;rw[show GD ((s.getD (Int.toNat (0:Int)) 0).toNat:Int)=true from hsm];refine c_t.trans ?_;refine(Yg _ _).trans ?_;rw[h];rfl
 ·rw[e]at hc
  have h1:=C1.1 hch c hc;unfold Hv GD R8 inI at h1;simp only[GR,Bv,EZ]at h1;omega
theorem Nw{t n:Int}{s:List UInt8}(ht:t≠0)(h:TokText (t,[],n) s):TokG (nu t n):=by
 have e:=sL (t:=nu t n) h.txt;refine⟨by rw[e];exact h.txt,?_,λk=>by rw[e];exact h.tok k,by rw[e];exact h.ne,λc hc=>?_⟩
 ·rw[e]
  unfold tw;rw[if_neg (show ¬(nu t n).1=0 from ht)];exact h.len
 ·rw[e]at hc
  have:=h.ch c hc;omega
theorem Nx{n:Int}(h:0<=n/\n<=999999999):TokG (nu 1 n):=let⟨_,h⟩:=Ajw h;Nw (by decide) h
theorem RW{n:Int}(h:0<=n/\n<=86400):TokG (nu 2 n):=let⟨_,h⟩:=Ajx h;Nw (by decide) h
theorem sM{n:Int}(h:0<=n/\n<98981):TokG (nu 3 n):=let⟨_,h⟩:=Ajy h;Nw (by decide) h
theorem sN{n:Int}(h:-64800<=n/\n<=64800)(h60:n%60=0):TokG (nu 4 n):=let⟨_,h⟩:=Ajz h h60;Nw (by decide) h
theorem sO{n:Int}(h:0<=n/\n<98981*86400):TokG (nu 5 n):=let⟨_,h⟩:=AjA h;Nw (by decide) h
def Dj(ts:List Tok):List UInt8:=Lib.join (ts.map txOf) [32]
def lw:List Tok->Nat
 |[]=>0
 |t::r=>tw t+1+lw r
def CN(ls:List (List Tok)):List UInt8:=ls.flatMap λts=>Dj ts++[10]
def lw3(ts:List Tok):Nat:=lw ts+2*ts.length
structure LineG (ts:List Tok):Prop where
 form:∀{β:Type}(k:Bool->Option β),BP ts k=k true
 toks:∀t∈ts,TokG t
 few:ts.length<=300
 room:lw3 ts<=512
theorem sP:∀{ts:List Tok},(∀t∈ts,TokG t)->(Lib.joinTail [32] (ts.map txOf)).length<=lw ts
 |[],_=>by simp[Lib.joinTail]
 |t::r,h=>by have h1:=(h t (Bu ..)).len;have h2:=sP (ts:=r) λx hx=>h x (AU _ hx);unfold Lib.joinTail at h2⊢;simp only[Bp,List.flatten_cons,Av,CO];unfold lw;omega
theorem Ny{ts:List Tok}(h:∀t∈ts,TokG t):(Dj ts).length<=lw ts:=by
 cases ts with
 |nil=>unfold Dj;simp[Lib.join_nil]
 |cons t r=>have h1:=(h t (Bu ..)).len;have h2:=sP (ts:=r) λx hx=>h x (AU _ hx);unfold Dj;rw[Bp,Lib.join_cons,Av];unfold lw;omega
section
variable{β:Type}
theorem AjB{ts:List Tok}(h:LineG ts)(n:Int)(k:List UInt8->Int->Option β):Q2 (n,ts) k=k (Dj ts) 0:=by
 have hl:=h.few;have hr:=Ny h.toks;have hm:=h.room;unfold lw3 at hm;unfold Q2;rw[Ab];unfold WC;rw[Ab];refine(h.form _).trans ?_;refine c_f.trans ?_
 refine(E1 (λm i s=>M6 m (λt2 t3=>k t2 t3) (λwords=>
   cond (decide (List.length words<=140737488355328)&&decide (List.length (Lib.join words ([32]:List UInt8))<=140737488355328))
   (cond (decide ((512:Int)<(List.length (Lib.join words ([32]:List UInt8)):Int))) (k ([]:List UInt8) (5:Int)) (k (Lib.join words ([32]:List UInt8)) (0:Int))) none) ts (ts.length:Int) i s)
  (λt=>[txOf t]) (λwords=>
   cond (decide (List.length words<=140737488355328)&&decide (List.length (Lib.join words ([32]:List UInt8))<=140737488355328))
   (cond (decide ((512:Int)<(List.length (Lib.join words ([32]:List UInt8)):Int))) (k ([]:List UInt8) (5:Int)) (k (Lib.join words ([32]:List UInt8)) (0:Int))) none)
  (0,[],0) ts [] 1 (by omega) (λ_ _=>by simp) (λm i s hi hs=>?_) λm s=>?_).trans ?_
 ·simp only[Bw]at hs
  simp only[mS,Q1];refine(Ah (by omega)).trans ?_;refine(Ai (by omega)).trans ?_;rw[AE];refine((h.toks _ (Cc hi)).txt _).trans ?_;refine(Bm rfl).trans ?_;refine(Dh (show(s.length+1)*16<=_ by omega)).trans ?_;rw[i64_in ((i:Int)+1) (by omega)]
 ·simp only[mS,Q1]
  exact Ad (by omega)
 ·rw[Cp,IA]
  show cond (decide ((ts.map txOf).length<=140737488355328)&&decide ((Dj ts).length<=140737488355328)) (cond (decide ((512:Int)<((Dj ts).length:Int))) (k [] 5) (k (Dj ts) 0)) none=_;rw[Aq (show(ts.map txOf).length<=140737488355328 by rw[Cf];omega),Aq (show(Dj ts).length<=140737488355328 by omega)];exact Ad (by omega)
theorem sQ:∀(ls:List (List Tok))(n i:Nat),i<ls.length->((numb n ls).getD i (0,[])).2=ls.getD i []
 |[],_,_,h=>absurd h (H9 _)
 |t::r,n,0,_=>rfl
 |t::r,n,i+1,h=>sQ r (n+1) i (by simpa using h)
theorem AjC(a b:List UInt8):Bt (a++b)=Bt a++Bt b:=by simp[Bt]
theorem sR(a:List UInt8):(Bt a).length=a.length:=by simp[Bt]
theorem AjD(a:List UInt8):F7 (Bt a)=true:=by unfold F7 Bt;rw[C1];intro n hn;obtain⟨c,_,rfl⟩:=CJ.1 hn;have:=c.toNat_lt;simp;omega
theorem AjE{ls:List (List Tok)}(h:∀ts∈ls,LineG ts):(CN ls).length<=(ls.map λts=>lw3 ts+1).sum:=by
 induction ls with
 |nil=>simp[CN]
 |cons t r ih=>have h1:=Ny (h t (Bu ..)).toks;have h2:=ih λx hx=>h x (AU _ hx);have h3:lw3 t=lw t+2*t.length:=rfl;unfold CN at h2⊢;simp only[E5,Av,CO,Bp,HB];omega
theorem AjF{ls:List (List Tok)}(h:∀ts∈ls,LineG ts)(hn:ls.length<=1000)(hs:(ls.map λts=>lw3 ts+1).sum<=65536)(k:List UInt8->Int->Option β):QF (numb 0 ls) k=k (CN ls) 0:=by
 have htl:=AjE h;unfold QF;rw[Ab];unfold WY;rw[Ab,I8]
 refine(E1 (λm i s=>ME m (λt2 t3=>k t2 t3) (λb1_=>cond (decide ((65536:Int)<(List.length b1_:Int))) (k ([]:List UInt8) (5:Int)) (cond (F7 b1_) (k (D1 b1_) (0:Int)) none)) (numb 0 ls) (ls.length:Int) i (Bt s))
  (λts=>Dj ts++[10]) (λs=>cond (decide ((65536:Int)<(List.length (Bt s):Int))) (k ([]:List UInt8) (5:Int)) (cond (F7 (Bt s)) (k (D1 (Bt s)) (0:Int)) none)) [] ls [] 513 hn (λts hts=>?_) (λm i s hi hs=>?_) λm s=>?_).trans ?_
 ·have:=Ny (h ts hts).toks
  have:=(h ts hts).room;unfold lw3 at this;simp;omega
 ·have hL:=h _ (Cc (d:=([]:List Tok)) hi)
  have h1:=Ny hL.toks;have h2:=hL.room;unfold lw3 at h2;simp only[Bw]at hs;simp only[nS,QE];refine(Ah (by omega)).trans ?_;refine(Ai (by rw[I8];omega)).trans ?_;rw[AE];have e:(numb 0 ls).getD i ((0:Int),([]:List Tok))=(((numb 0 ls).getD i (0,[])).1,ls.getD i []):=by rw[<-sQ ls 0 i hi]
  rw[e];refine(AjB hL _ _).trans ?_;refine(Bm rfl).trans ?_;refine(Ah (by simp only[CO];omega)).trans ?_;refine(Ah (by rw[sR];simp only[Av,CO];omega)).trans ?_;rw[i64_in ((i:Int)+1) (by omega),<-AjC]
 ·simp only[nS,QE]
  exact Ad (by omega)
 ·rw[Cp]
  show cond (decide ((65536:Int)<((Bt (CN ls)).length:Int))) (k [] 5) (cond (F7 (Bt (CN ls))) (k (D1 (Bt (CN ls))) 0) none)=_;refine(Ad (by rw[sR];omega)).trans ?_;rw[AjD,Ue];rfl
end
end
end Go.Lift
namespace Go.Lift
open Go.RowKit Go.IntWalk
noncomputable section
set_option maxRecDepth 10000
section
variable{β:Type}
theorem AjG[S:Sl](a:List UInt8)(n:Int)(k:Bool->Option β):BP [wd Ka,wd a,nu 4 n] k=k true:=by rcases S with⟨_|_⟩<;>kernel_rfl
theorem AjH[S:Sl](a b d:List UInt8)(n1 n2 n3 n4:Int)(k:Bool->Option β):BP [wd Yz,nu 1 n1,nu 1 n2,wd a,wd b,wd d,nu 2 n3,nu 4 n4] k=k true:=by rcases S with⟨_|_⟩<;>kernel_rfl
theorem AjI[S:Sl](a b:List UInt8)(k:Bool->Option β):BP [wd Ct,wd a,wd b] k=k true:=by rcases S with⟨_|_⟩<;>kernel_rfl
theorem AjJ[S:Sl](a b:List UInt8)(k:Bool->Option β):BP [wd Ct,wd a,wd b,wd FY] k=k true:=by rcases S with⟨_|_⟩<;>kernel_rfl
theorem AjK[S:Sl](a b:List UInt8)(n:Int)(k:Bool->Option β):BP [wd Ct,wd a,wd b,wd FX,nu 1 n] k=k true:=by rcases S with⟨_|_⟩<;>kernel_rfl
theorem AjL[S:Sl](a b:List UInt8)(n:Int)(k:Bool->Option β):BP [wd Ct,wd a,wd b,wd FX,nu 1 n,wd FY] k=k true:=by rcases S with⟨_|_⟩<;>kernel_rfl
theorem AjM[S:Sl](a b:List UInt8)(n:Int)(k:Bool->Option β):BP [wd Ct,wd a,wd b,wd FW,nu 1 n] k=k true:=by rcases S with⟨_|_⟩<;>kernel_rfl
theorem AjN[S:Sl](a b:List UInt8)(n:Int)(k:Bool->Option β):BP [wd Ct,wd a,wd b,wd FW,nu 1 n,wd FY] k=k true:=by rcases S with⟨_|_⟩<;>kernel_rfl
theorem AjO[S:Sl](a b:List UInt8)(n m:Int)(k:Bool->Option β):BP [wd Ct,wd a,wd b,wd FW,nu 1 n,wd FX,nu 1 m] k=k true:=by rcases S with⟨_|_⟩<;>kernel_rfl
theorem AjP[S:Sl](a b:List UInt8)(n m:Int)(k:Bool->Option β):BP [wd Ct,wd a,wd b,wd FW,nu 1 n,wd FX,nu 1 m,wd FY] k=k true:=by rcases S with⟨_|_⟩<;>kernel_rfl
theorem AjQ[S:Sl](a b:List UInt8)(n m:Int)(k:Bool->Option β):BP [wd Fv,wd a,nu 2 n,wd b,nu 2 m] k=k true:=by rcases S with⟨_|_⟩<;>kernel_rfl
theorem AjR[S:Sl](a b:List UInt8)(n m:Int)(k:Bool->Option β):BP [wd onW,wd a,nu 2 n,wd b,nu 2 m] k=k true:=by rcases S with⟨_|_⟩<;>kernel_rfl
theorem AjS[S:Sl](a b:List UInt8)(k:Bool->Option β):BP [wd calW,wd a,wd b] k=k true:=by rcases S with⟨_|_⟩<;>kernel_rfl
theorem AjT[S:Sl](a:List UInt8)(k:Bool->Option β):BP [wd schW,wd a] k=k true:=by rcases S with⟨_|_⟩<;>kernel_rfl
theorem AjU[S:Sl](a b c:List UInt8)(n1 n2 n3:Int)(k:Bool->Option β):BP [wd RP,wd a,wd b,nu 3 n1,nu 2 n2,nu 1 n3,wd c] k=k true:=by rcases S with⟨_|_⟩<;>kernel_rfl
theorem AjV[S:Sl](a:List UInt8)(k:Bool->Option β):BP [wd (at' Nk 1),wd a] k=k true:=by rcases S with⟨_|_⟩<;>kernel_rfl
theorem AjW[S:Sl](a:List UInt8)(k:Bool->Option β):BP [wd (at' Nk 2),wd a] k=k true:=by rcases S with⟨_|_⟩<;>kernel_rfl
theorem AjX[S:Sl](a:List UInt8)(n m:Int)(k:Bool->Option β):BP [wd (at' EQ 0),wd a,nu 5 n,nu 5 m] k=k true:=by rcases S with⟨_|_⟩<;>kernel_rfl
theorem AjY[S:Sl](a:List UInt8)(n m:Int)(k:Bool->Option β):BP [wd (at' EQ 1),wd a,nu 5 n,nu 5 m] k=k true:=by rcases S with⟨_|_⟩<;>kernel_rfl
theorem AjZ[S:Sl](a b:List UInt8)(n m:Int)(k:Bool->Option β):BP [wd (at' EQ 2),wd a,wd b,nu 5 n,nu 5 m] k=k true:=by rcases S with⟨_|_⟩<;>kernel_rfl
theorem Ak0[S:Sl](k:EJ->Bool->Option β):Mi ES k=k (ES,[3],true) true:=by rcases S with⟨_|_⟩<;>kernel_rfl
theorem Ak1[S:Sl](k:EJ->Bool->Option β):Mi memW k=k (memW,[0],true) true:=by rcases S with⟨_|_⟩<;>kernel_rfl
theorem sS[Sl]{kw:List UInt8}{kind:Int}(hf:∀k:EJ->Bool->Option β,Mi kw k=k (kw,[kind],true) true)(hp:kw≠Ct){l:List Tok}(h0:l≠[])(hl:l.length<=99)(hk:∀t∈l,t.1=kind)(k:Bool->Option β):BP (wd kw::l) k=k true:=by
 have h1:0<l.length:=H6.2 h0
 have p2:Mt (λt2=>k t2) (wd kw::l) (kw,[kind],true)=k true:=by
  unfold Mt;rw[Ab];unfold Wk
  have e:List.drop (Int.toNat (1:Int)) (List.take (Int.toNat (List.length (wd kw::l):Int)) (wd kw::l))=l:=by rw[AE,H8];rfl
  rw[e]
  have hb:(decide (0<=(1:Int))&&(decide ((1:Int)<=(List.length (wd kw::l):Int))&&decide ((List.length (wd kw::l):Int)<=(List.length (wd kw::l):Int))))=true:=by rw[Aq (show(0:Int)<=1 by omega),Aq (show(1:Int)<=(List.length (wd kw::l):Int) by rw[Aw];omega),Aq (Gd _)];rfl
  rw[hb];refine c_t.trans ?_;unfold Wj;rw[Ab];refine(Hu (λm i=>Ms m (λt2=>k t2) (λ_=>k true) l (l.length:Int) i (kw,[kind],true)) (λt=>decide (t.1=kind)) (k false) (k true) (0,[],0) l fuel (AY (by omega)) (λm i hi=>?_) (λm=>?_)).trans ?_
  ·simp only[lI,Qh]
   refine(Ah (by omega)).trans ?_;refine(Ai (by omega)).trans ?_
   have e2:(if(IntKind.i64.wrap ((List.length [kind]:Int)-(1:Int)))<(i:Int)then(IntKind.i64.wrap ((List.length [kind]:Int)-(1:Int)))else(i:Int))=0:=by rw[show IntKind.i64.wrap ((List.length [kind]:Int)-(1:Int))=0 from rfl];split<;>omega
   rw[e2];refine(Ai (show(0:Int)<=0/\(0:Int)<((1:Nat):Int) by omega)).trans ?_;rw[i64_in ((i:Int)+1) (by omega),AE];show cond (!decide ((l.getD i (0,[],0)).1=kind)) _ _=_;cases decide ((l.getD i (0,[],0)).1=kind)<;>rfl
  ·simp only[lI,Qh]
   exact Ad (by omega)
  ·rw[C1.2 λt ht=>Aq (hk t ht)]
   rfl
 unfold BP;rw[Ab];refine(Ad (by rw[Aw];omega)).trans ?_;refine(Ai (by rw[Aw];omega)).trans ?_;refine(Bm rfl).trans ?_;refine(Ai (by rw[Aw];omega)).trans ?_;refine(hf _).trans ?_;refine c_f.trans ?_;refine(Ad hp).trans ?_;unfold Qi;rw[Ab];unfold Wl;rw[i64_in _ (by rw[Aw];omega)];refine(Ad (by rw[Aw];show ¬_<((1:Nat):Int);omega)).trans ?_;by_cases h2:((1:Nat):Int)<(((wd kw::l).length:Int)-1)
 ·refine(Ah h2).trans ?_
  exact c_f.trans p2
 ·exact(Ad h2).trans p2
end
end
end Go.Lift
namespace Go.Lift
open Go.RowKit Go.IntWalk
noncomputable section
variable[Sl]
set_option maxRecDepth 10000
theorem EV{s:List UInt8}(h:BE s=true):s.length<=24:=by unfold BE at h;simp only[Bv,IK,Se]at h;have:=h.2.1;omega
theorem RX{α:Type}{of:α->List UInt8}{L:List (List UInt8)}{xs:List α}(h:Named of L xs)(hL:(L.all BE)=true):∀x∈xs,BE (of x)=true:=by
 intro x hx;have h1:of x∈L.take xs.length:=by rw[<-h.2];exact Kp hx
 exact C1.1 hL _ (Sh h1)
theorem Kg{L:List (List UInt8)}{n:Int}{b:Nat}(hL:(L.all λs=>BE s&&Nat.ble s.length b)=true)(h:0<=n/\n<(L.length:Int)):BE (at' L n)=true/\(at' L n).length<=b:=by have h1:=C1.1 hL _ (Cc (d:=([]:List UInt8)) (show n.toNat<L.length by omega));rw[Bv]at h1;exact⟨h1.1,D6 h1.2⟩
theorem tk0:∀x∈([]:List Tok),TokG x:=λ_ h=>absurd h Cd
theorem tk1{t:Tok}{r:List Tok}(h:TokG t)(hr:∀x∈r,TokG x):∀x∈t::r,TokG x:=Ko.2 ⟨h,hr⟩
theorem tw_w(s:List UInt8):tw (wd s)=s.length:=rfl
theorem tw_n{t n:Int}(h:t≠0):tw (nu t n)=20:=if_neg h
structure LG (ts:List Tok) (n:Nat):Prop where
 g:LineG ts
 n:lw3 ts+1<=n
theorem LG.mk'{ts:List Tok}{n0 m n:Nat}(form:∀{β:Type}(k:Bool->Option β),BP ts k=k true)(toks:∀t∈ts,TokG t)(few:ts.length<=m)(room:lw ts+1<=n0)(hn:n0+2*m<=n/\n<=513):LG ts n:=by have h3:lw3 ts=lw ts+2*ts.length:=rfl;exact⟨⟨form,toks,by omega,by omega⟩,by omega⟩
theorem Ak2{z:At}(hz:ZoneOk z)(hv:Di z=0)(hn:BE z.1=true):LG [wd Ka,wd z.1,nu 4 z.2.1] 58:=by have h1:=EV hn;unfold Di at hv;obtain⟨_,hv⟩:=cz hv;obtain⟨hv,_⟩:=cz hv;have hv:Int.tmod z.2.1 60=0:=dt (nt hv);refine LG.mk' (n0:=52) (m:=3) (λk=>AjG _ _ k) (tk1 (BA (by decide)) (tk1 (BA hn) (tk1 (sN hz.o (YS (YT hv))) tk0))) (by simp) ?_ (by omega);unfold lw lw lw lw;rw[tw_w,tw_w,tw_n (by decide)];show 4+1+(z.1.length+1+(20+1+0))+1<=52;omega
theorem Ak3{z:At}(hz:ZoneOk z)(hv:Di z=0){r:Bd}(hr:r∈z.2.2):LG (GH r) 121:=by have h:=hz.r r hr;unfold Di at hv;obtain⟨_,hv⟩:=cz hv;obtain⟨_,hv⟩:=cz hv;obtain⟨hv,_⟩:=cz hv;have hv:Int.tmod r.2.2.2.2.2.2 60=0:=dt (C1.1 (nt hv) r hr);have hf:=h.f;have ht:=h.t;have hm:=h.m;have hw:=h.w;have hd:=h.d;have hs:=h.s;have m1:=Kg (L:=Ni) (n:=r.2.2.1-1) (b:=3) (by decide) ⟨by omega,by show _<((12:Nat):Int);omega⟩;have m2:=Kg (L:=Nj) (n:=r.2.2.2.1-1) (b:=6) (by decide) ⟨by omega,by show _<((5:Nat):Int);omega⟩;have m3:=Kg (L:=GG) (n:=r.2.2.2.2.1) (b:=3) (by decide) ⟨by omega,by show _<((7:Nat):Int);omega⟩;unfold GH;refine LG.mk' (n0:=105) (m:=8) (λk=>AjH _ _ _ _ _ _ _ k) (tk1 (BA (by decide)) (tk1 (Nx (by omega)) (tk1 (Nx (by omega)) (tk1 (BA m1.1) (tk1 (BA m2.1) (tk1 (BA m3.1) (tk1 (RW (by omega)) (tk1 (sN h.o (YS (YT hv))) tk0)))))))) (by simp) ?_ (by omega);unfold lw lw lw lw lw lw lw lw lw;rw[tw_w,tw_w,tw_w,tw_w,tw_n (by decide),tw_n (by decide),tw_n (by decide),tw_n (by decide)];have:=m1.2;have:=m2.2;have:=m3.2;show 4+1+(20+1+(20+1+(_+1+(_+1+(_+1+(20+1+(20+1+0)))))))+1<=105;omega
theorem sT{kw:List UInt8}{x:Int×Int}(hx:PWin x)(hk:BE kw=true)(h5:kw.length<=5)(hf:∀{β:Type}(a b:List UInt8)(n m:Int)(k:Bool->Option β),BP [wd kw,wd a,nu 2 n,wd b,nu 2 m] k=k true):LG (stW kw x) 67:=by
 obtain⟨x1,x2,x3,x4⟩:=hx;have d1:=JY ⟨x1,x2⟩;have d2:=JY (a:=x.2-1) ⟨by omega,by omega⟩;have m1:=Kg (L:=GG) (n:=Int.tdiv x.1 86400) (b:=3) (by decide) ⟨by omega,by show _<((7:Nat):Int);omega⟩;have m2:=Kg (L:=GG) (n:=Int.tdiv (x.2-1) 86400) (b:=3) (by decide) ⟨by omega,by show _<((7:Nat):Int);omega⟩
 have c1:0<=Int.tmod x.1 86400/\Int.tmod x.1 86400<=86400:=by rw[Dk x1];omega
 have c2:0<=x.2-Int.tdiv (x.2-1) 86400*86400/\x.2-Int.tdiv (x.2-1) 86400*86400<=86400:=by rw[DN (by omega)];omega
 unfold stW;refine LG.mk' (n0:=57) (m:=5) (λk=>hf _ _ _ _ k) (tk1 (BA hk) (tk1 (BA m1.1) (tk1 (RW c1) (tk1 (BA m2.1) (tk1 (RW c2) tk0))))) (by simp) ?_ (by omega);unfold lw lw lw lw lw lw;rw[tw_w,tw_w,tw_w,tw_n (by decide),tw_n (by decide)];have:=m1.2;have:=m2.2;omega
theorem Ak4{x:Int×Int}(hx:PWin x):LG (stW Fv x) 67:=sT hx (by decide) (by decide) λa b n m k=>AjQ a b n m k
theorem Ak5{x:Int×Int}(hx:PWin x):LG (stW onW x) 67:=sT hx (by decide) (by decide) λa b n m k=>AjR a b n m k
structure NamesG (w:List At) (w2:List Ay) (w3:List AF):Prop where
 z:∀x∈w,BE x.1=true
 p:∀x∈w2,BE x.1=true
 c:∀x∈w3,BE x.1=true
section
variable{w:List At}{w2:List Ay}{w3:List AF}
theorem YD(h:NamesG w w2 w3){i:Int}(hi:0<=i/\i<(w.length:Int)):BE (CY w i)=true:=h.z _ (Cc (by omega))
theorem Ak6(h:NamesG w w2 w3){i:Int}(hi:0<=i/\i<(w3.length:Int)):BE (calN w3 i)=true:=h.c _ (Cc (by omega))
theorem RY(h:NamesG w w2 w3){i:Int}(hi:i<(w2.length:Int)):BE (whoB w2 i)=true:=by
 unfold whoB;split
 ·decide
 ·exact h.p _ (Cc (by omega))
theorem Ak7(h:NamesG w w2 w3){p:Ay}(hp:PerF (w.length:Int) p)(hn:BE p.1=true):LG (IB w p) 134:=by
 have hz:=YD h hp.z;have l1:=EV hn;have l2:=EV hz;have hw:=hp.w.1;have hr:=hp.r.1;have q1:0<=Int.tdiv p.2.2.2.1 3600/\Int.tdiv p.2.2.2.1 3600<=999999999:=by rw[DN hw.1];omega
 have q2:0<=Int.tdiv p.2.2.2.2.1 3600/\Int.tdiv p.2.2.2.2.1 3600<=999999999:=by rw[DN hr.1];omega
 have g1:=BA (s:=Ct) (by decide);have g2:=BA hn;have g3:=BA hz;have g4:=BA (s:=FW) (by decide);have g5:=Nx q1;have g6:=BA (s:=FX) (by decide);have g7:=Nx q2;have g8:=BA (s:=FY) (by decide);unfold IB RO Nn Kb;by_cases c1:p.2.2.2.1=0<;>by_cases c2:p.2.2.2.2.1=0<;>cases c3:p.2.2.2.2.2
 ·rw[if_pos c1,if_pos c2]
  refine LG.mk' (n0:=118) (m:=8) (λk=>AjI _ _ k) (tk1 g1 (tk1 g2 (tk1 g3 tk0))) (by simp) ?_ (by omega);show 6+1+(p.1.length+1+((CY w p.2.1).length+1+0))+1<=118;omega
 ·rw[if_pos c1,if_pos c2]
  refine LG.mk' (n0:=118) (m:=8) (λk=>AjJ _ _ k) (tk1 g1 (tk1 g2 (tk1 g3 (tk1 g8 tk0)))) (by simp) ?_ (by omega);show 6+1+(p.1.length+1+((CY w p.2.1).length+1+(7+1+0)))+1<=118;omega
 ·rw[if_pos c1,if_neg c2]
  refine LG.mk' (n0:=118) (m:=8) (λk=>AjK _ _ _ k) (tk1 g1 (tk1 g2 (tk1 g3 (tk1 g6 (tk1 g7 tk0))))) (by simp) ?_ (by omega);show 6+1+(p.1.length+1+((CY w p.2.1).length+1+(4+1+(tw (nu 1 _)+1+0))))+1<=118;rw[tw_n (by decide)];omega
 ·rw[if_pos c1,if_neg c2]
  refine LG.mk' (n0:=118) (m:=8) (λk=>AjL _ _ _ k) (tk1 g1 (tk1 g2 (tk1 g3 (tk1 g6 (tk1 g7 (tk1 g8 tk0)))))) (by simp) ?_ (by omega);show 6+1+(p.1.length+1+((CY w p.2.1).length+1+(4+1+(tw (nu 1 _)+1+(7+1+0)))))+1<=118;rw[tw_n (by decide)];omega
 ·rw[if_neg c1,if_pos c2]
  refine LG.mk' (n0:=118) (m:=8) (λk=>AjM _ _ _ k) (tk1 g1 (tk1 g2 (tk1 g3 (tk1 g4 (tk1 g5 tk0))))) (by simp) ?_ (by omega);show 6+1+(p.1.length+1+((CY w p.2.1).length+1+(4+1+(tw (nu 1 _)+1+0))))+1<=118;rw[tw_n (by decide)];omega
 ·rw[if_neg c1,if_pos c2]
  refine LG.mk' (n0:=118) (m:=8) (λk=>AjN _ _ _ k) (tk1 g1 (tk1 g2 (tk1 g3 (tk1 g4 (tk1 g5 (tk1 g8 tk0)))))) (by simp) ?_ (by omega);show 6+1+(p.1.length+1+((CY w p.2.1).length+1+(4+1+(tw (nu 1 _)+1+(7+1+0)))))+1<=118;rw[tw_n (by decide)];omega
 ·rw[if_neg c1,if_neg c2]
  refine LG.mk' (n0:=118) (m:=8) (λk=>AjO _ _ _ _ k) (tk1 g1 (tk1 g2 (tk1 g3 (tk1 g4 (tk1 g5 (tk1 g6 (tk1 g7 tk0))))))) (by simp) ?_ (by omega);show 6+1+(p.1.length+1+((CY w p.2.1).length+1+(4+1+(tw (nu 1 _)+1+(4+1+(tw (nu 1 _)+1+0))))))+1<=118;rw[tw_n (by decide),tw_n (by decide)];omega
 ·rw[if_neg c1,if_neg c2]
  refine LG.mk' (n0:=118) (m:=8) (λk=>AjP _ _ _ _ k) (tk1 g1 (tk1 g2 (tk1 g3 (tk1 g4 (tk1 g5 (tk1 g6 (tk1 g7 (tk1 g8 tk0)))))))) (by simp) ?_ (by omega);show 6+1+(p.1.length+1+((CY w p.2.1).length+1+(4+1+(tw (nu 1 _)+1+(4+1+(tw (nu 1 _)+1+(7+1+0)))))))+1<=118;rw[tw_n (by decide),tw_n (by decide)];omega
theorem sU(h:NamesG w w2 w3){c:AF}(hz:0<=c.2.1/\c.2.1<(w.length:Int))(hn:BE c.1=true):LG [wd calW,wd c.1,wd (CY w c.2.1)] 66:=by have hz:=YD h hz;have l1:=EV hn;have l2:=EV hz;refine LG.mk' (n0:=60) (m:=3) (λk=>AjS _ _ k) (tk1 (BA (by decide)) (tk1 (BA hn) (tk1 (BA hz) tk0))) (by simp) ?_ (by omega);show 8+1+(c.1.length+1+((CY w c.2.1).length+1+0))+1<=60;omega
theorem YE{α:Type}{f:α->Tok}{n:Nat}:∀{xs:List α},(∀x∈xs,tw (f x)<=n)->lw (xs.map f)<=xs.length*(n+1)
 |[],_=>by simp[lw]
 |x::xs,h=>by have h1:=h x (Bu ..);have h2:=YE (xs:=xs) λy hy=>h y (AU _ hy);rw[Bp,Aw,E7];unfold lw;omega
theorem Ak8{l:List Int}(h0:l≠[])(hl:l.length<=20)(hd:∀d∈l,0<=d/\d<98981):LG (wd ES::l.map (nu 3)) 468:=by
 have hm:=YE (f:=nu 3) (n:=20) (xs:=l) λx _=>DQ (tw_n (by decide));refine LG.mk' (n0:=426) (m:=21) (λk=>sS (λk=>Ak0 k) (by decide) (by simpa using h0) (by simp;omega) (λt ht=>?_) k) (tk1 (BA (by decide)) λt ht=>?_) (by simp;omega) ?_ (by omega)
 ·obtain⟨d,_,rfl⟩:=CJ.1 ht;rfl
 ·obtain⟨d,hd',rfl⟩:=CJ.1 ht;exact sM (hd d hd')
 ·unfold lw
  show 4+1+lw (l.map (nu 3))+1<=426;omega
theorem Ak9(h:NamesG w w2 w3){l:AD}{nz nc:Int}(hl:LayF nz (w2.length:Int) nc l):LG (RQ w2 l) 334:=by
 have h1:=hl.m;have hm:=YE (f:=λm=>wd (whoB w2 m)) (n:=24) (xs:=l.2.2.2.2.2.1) λx hx=>EV (RY h (hl.ms x hx).2);unfold RQ;refine LG.mk' (n0:=308) (m:=13) (λk=>sS (λk=>Ak1 k) (by decide) (λe=>?_) (by simp;omega) (λt ht=>?_) k) (tk1 (BA (by decide)) λt ht=>?_) (by simp;omega) ?_ (by omega)
 ·have:=Aj List.length e
  simp at this;rw[this]at h1;simp at h1
 ·obtain⟨d,_,rfl⟩:=CJ.1 ht;rfl
 ·obtain⟨d,hd',rfl⟩:=CJ.1 ht;exact BA (RY h (hl.ms d hd').2)
 ·unfold lw
  show 6+1+lw _+1<=308;omega
theorem Aka(h:NamesG w w2 w3){l:AD}{np nc:Int}(hl:LayF (w.length:Int) np nc l)(hn:BE l.1=true):LG (Np w l) 140:=by have hz:=YD h hl.z;have l1:=EV hn;have l2:=EV hz;have hu:=hl.u;have he:=hl.e;have hs:=hl.s;have hd:=hl.d;have m1:=Kg (L:=untNs) (n:=l.2.2.2.1) (b:=5) (by decide) ⟨by omega,by show _<((3:Nat):Int);omega⟩;have:=m1.2;unfold Np;refine LG.mk' (n0:=126) (m:=7) (λk=>AjU _ _ _ _ _ _ k) (tk1 (BA (by decide)) (tk1 (BA hn) (tk1 (BA hz) (tk1 (sM (by omega)) (tk1 (RW (by omega)) (tk1 (Nx (by omega)) (tk1 (BA m1.1) tk0))))))) (by simp) ?_ (by omega);unfold lw lw lw lw lw lw lw lw;rw[tw_w,tw_w,tw_w,tw_w,tw_n (by decide),tw_n (by decide),tw_n (by decide)];show 5+1+_+1<=126;omega
theorem Akb{n:List UInt8}(hn:BE n=true):LG [wd schW,wd n] 39:=by have l1:=EV hn;refine LG.mk' (n0:=35) (m:=2) (λk=>AjT _ k) (tk1 (BA (by decide)) (tk1 (BA hn) tk0)) (by simp) ?_ (by omega);unfold lw lw lw;rw[tw_w,tw_w];show 8+1+_+1<=35;omega
theorem Akc(h:NamesG w w2 w3){x:Ed}(hx:EdF (w2.length:Int) x):LG (CH w2 x) 112:=by
 have hk:=hx.k;have ha:x.2.1<(w2.length:Int):=by have:=hx.a;omega
 have n1:=RY h ha;have l1:=EV n1;have hf:=hx.f;have hft:=hx.ft;have ht:=hx.t;have g1:=sO (n:=x.2.2.2.1) (by omega);have g2:=sO (n:=x.2.2.2.2) (by omega);unfold CH Nq;have key:x.1=0\/x.1=1\/x.1=2:=by omega
 rcases key with e|e|e
 ·rw[if_neg (by omega),e]
  refine LG.mk' (n0:=102) (m:=5) (λk=>AjX _ _ _ k) (tk1 (BA (by decide)) (tk1 (BA n1) (tk1 g1 (tk1 g2 tk0)))) (by simp) ?_ (by omega);show 5+1+((whoB w2 x.2.1).length+1+(tw (nu 5 _)+1+(tw (nu 5 _)+1+0)))+1<=102;rw[tw_n (by decide),tw_n (by decide)];omega
 ·rw[if_neg (by omega),e]
  refine LG.mk' (n0:=102) (m:=5) (λk=>AjY _ _ _ k) (tk1 (BA (by decide)) (tk1 (BA n1) (tk1 g1 (tk1 g2 tk0)))) (by simp) ?_ (by omega);show 8+1+((whoB w2 x.2.1).length+1+(tw (nu 5 _)+1+(tw (nu 5 _)+1+0)))+1<=102;rw[tw_n (by decide),tw_n (by decide)];omega
 ·have n2:=RY h (hx.b e).2
  have l2:=EV n2;rw[if_pos e,e];refine LG.mk' (n0:=102) (m:=5) (λk=>AjZ _ _ _ _ k) (tk1 (BA (by decide)) (tk1 (BA n1) (tk1 (BA n2) (tk1 g1 (tk1 g2 tk0))))) (by simp) ?_ (by omega);show 4+1+((whoB w2 x.2.1).length+1+((whoB w2 x.2.2.1).length+1+(tw (nu 5 _)+1+(tw (nu 5 _)+1+0))))+1<=102;rw[tw_n (by decide),tw_n (by decide)];omega
end
end
end Go.Lift
namespace Go.Lift
open Go.RowKit Go.IntWalk
noncomputable section
variable[Sl]
set_option maxRecDepth 10000
structure SL (ls:List (List Tok)) (n:Nat):Prop where
 g:∀ts∈ls,LineG ts
 n:(ls.map λts=>lw3 ts+1).sum<=n
theorem SL.nil{n:Nat}:SL [] n:=⟨λ_ h=>absurd h Cd,BZ _⟩
theorem SL.cons{t:List Tok}{r:List (List Tok)}{a b:Nat}(h:LG t a)(hr:SL r b):SL (t::r) (a+b):=by refine⟨Ko.2 ⟨h.g,hr.g⟩,?_⟩;rw[Bp,HB];have:=h.n;have:=hr.n;omega
theorem SL.app{r s:List (List Tok)}{a b:Nat}(h:SL r a)(hs:SL s b):SL (r++s) (a+b):=by
 refine⟨λt ht=>?_,?_⟩
 ·rcases Ba.1 ht with ht|ht
  ·exact h.g t ht
  ·exact hs.g t ht
 ·rw[Gc,List.sum_append]
  have:=h.n;have:=hs.n;omega
theorem SL.le{r:List (List Tok)}{a b:Nat}(h:SL r a)(hab:a<=b):SL r b:=⟨h.g,BH h.n hab⟩
theorem Kh{α:Type}{f:α->List (List Tok)}{n:Nat}:∀{xs:List α},(∀x∈xs,SL (f x) n)->SL (xs.flatMap f) (xs.length*n)
 |[],_=>SL.nil
 |x::xs,h=>by have h1:=h x (Bu ..);have h2:=Kh (xs:=xs) λy hy=>h y (AU _ hy);refine(h1.app h2).le ?_;rw[Aw,E7];omega
theorem Nz{α:Type}{f:α->List Tok}{n:Nat}:∀{xs:List α},(∀x∈xs,LG (f x) n)->SL (xs.map f) (xs.length*n)
 |[],_=>SL.nil
 |x::xs,h=>by have h1:=h x (Bu ..);have h2:=Nz (xs:=xs) λy hy=>h y (AU _ hy);refine(SL.cons h1 h2).le ?_;rw[Aw,E7];omega
section
variable{w:List At}{w2:List Ay}{w3:List AF}
theorem Akd{z:At}(hz:ZoneOk z)(hv:Di z=0)(hn:BE z.1=true):SL (DJ z) 1510:=by have hl:=hz.l;unfold DJ;refine(SL.cons (Ak2 hz hv hn) (Nz λr hr=>Ak3 hz hv hr)).le ?_;omega
theorem Ake(h:NamesG w w2 w3){p:Ay}(hp:PerF (w.length:Int) p)(hn:BE p.1=true):SL (DK w p) 1072:=by have hq:=hp.q;unfold DK;refine(SL.cons (Ak7 h hp hn) (Nz λx hx=>Ak4 (hq.2 x hx))).le ?_;omega
theorem Akf(h:NamesG w w2 w3){c:AF}(hc:CalF (w.length:Int) c)(hl:c.2.2.length<=20)(hn:BE c.1=true):SL (Eh w c) 534:=by
 unfold Eh Kc;by_cases e:c.2.2=[]
 ·rw[if_pos e]
  exact(SL.cons (sU h hc.z hn) (SL.nil (n:=0))).le (by omega)
 ·rw[if_neg e]
  exact(SL.cons (sU h hc.z hn) (SL.cons (Ak8 e hl hc.d) (SL.nil (n:=0)))).le (by omega)
theorem Akg(h:NamesG w w2 w3){l:AD}{nz np:Int}(hl:LayF nz np (w3.length:Int) l):SL (GI w3 l) 35:=by
 unfold GI;by_cases e:l.2.2.2.2.2.2.2.2=0
 ·rw[if_pos e];exact SL.nil
 ·rw[if_neg e]
  have hc:(1<=l.2.2.2.2.2.2.2.2/\l.2.2.2.2.2.2.2.2<=2)/\0<=l.2.2.2.2.2.2.2.1/\l.2.2.2.2.2.2.2.1<(w3.length:Int):=by
   rcases hl.c with hc|hc
   ·exact absurd hc.1 e
   ·exact hc
  have hn:=Ak6 h hc.2;have l1:=EV hn;have key:l.2.2.2.2.2.2.2.2=1\/l.2.2.2.2.2.2.2.2=2:=by omega
  refine(SL.cons (a:=35) ?_ (SL.nil (n:=0))).le (by omega);rcases key with e1|e1
  ·rw[e1]
   refine LG.mk' (n0:=31) (m:=2) (λk=>AjV _ k) (tk1 (BA (by decide)) (tk1 (BA hn) tk0)) (by simp) ?_ (by omega);show 3+1+((calN w3 l.2.2.2.2.2.2.2.1).length+1+0)+1<=31;omega
  ·rw[e1]
   refine LG.mk' (n0:=31) (m:=2) (λk=>AjW _ k) (tk1 (BA (by decide)) (tk1 (BA hn) tk0)) (by simp) ?_ (by omega);show 4+1+((calN w3 l.2.2.2.2.2.2.2.1).length+1+0)+1<=31;omega
theorem Akh(h:NamesG w w2 w3){l:AD}(hl:LayF (w.length:Int) (w2.length:Int) (w3.length:Int) l)(hn:BE l.1=true):SL (E2 w w2 w3 l) 1447:=by have hw:=hl.w;unfold E2;refine(SL.cons (Aka h hl hn) (SL.cons (Ak9 h hl) (SL.app (Nz λx hx=>Ak5 (hw.2 x hx)) (Akg h hl)))).le ?_;omega
theorem Aki(h:NamesG w w2 w3){s:AK}(hs:SchG (w.length:Int) (w2.length:Int) (w3.length:Int) s)(hn:BE s.1=true):SL (ET w w2 w3 s) 14097:=by have h1:=hs.l;have h2:=hs.e;unfold ET;refine(SL.cons (Akb hn) (SL.app (Kh λl hl=>Akh h (hs.ls l hl).1 (hs.ls l hl).2) (Nz λx hx=>Akc h (hs.es x hx)))).le ?_;omega
end
theorem Akj{c:Au}(h:ConfOk c):NamesG c.1 c.2.1 c.2.2.1:=
 ⟨RX h.oz.1 (by decide),RX h.op.1 (by decide),RX h.oc.1 (by decide)⟩
theorem N0{c:Au}(h:ConfOk c):SL (CM c) 60000/\(CM c).length<=1000:=by
 have hN:=Akj h;have l1:c.1.length<=2:=h.oz.1.1;have l2:c.2.1.length<=8:=h.op.1.1;have l3:c.2.2.1.length<=1:=h.oc.1.1;have l4:c.2.2.2.length<=3:=h.os.1.1;have hsn:=RX h.os.1 (by decide);have z1:=E3 (f:=DJ) λy(hy:y∈c.1)=>RR (h.oz.2 y hy).1;have z2:=E3 (f:=DK c.1) λy(hy:y∈c.2.1)=>RT (IC h y hy);have z3:=E3 (f:=Eh c.1) λy(hy:y∈c.2.2.1)=>RU;have z4:=E3 (f:=ET c.1 c.2.1 c.2.2.1) λy(hy:y∈c.2.2.2)=>Y1 (Nr h y hy);unfold CM;refine⟨?_,?_⟩
 ·refine(SL.app (Kh λz hz=>Akd (h.oz.2 z hz).1 (h.oz.2 z hz).2.1 (hN.z z hz)) (SL.app (Kh λp hp=>Ake hN (IC h p hp) (hN.p p hp)) (SL.app (Kh λx hx=>Akf hN (Yy (h.oc.2 x hx).1) (h.oc.2 x hx).2 (hN.c x hx)) (Kh λs hs=>Aki hN (Nr h s hs) (hsn s hs))))).le ?_
  omega
 ·rw[Av,Av,Av]
  omega
section
variable{β:Type}
theorem Akk{c:Au}(h:ConfOk c)(k:List UInt8->Int->Option β):Rw c k=k (CN (CM c)) 0:=by have hs:=N0 h;unfold Rw;rw[Ab];refine(s9 h _).trans ?_;refine(Bm rfl).trans ?_;exact AjF hs.1.g hs.2 (BH hs.1.n (by decide)) _
end
end
end Go.Lift
namespace Go.Lift
open Go.RowKit Go.IntWalk
noncomputable section
set_option maxRecDepth 10000
section
variable{β:Type}
theorem Akl[S:Sl]{m:Int}(h:m=1\/m=2\/m=3\/m=4\/m=5\/m=6\/m=7\/m=8\/m=9\/m=10\/m=11\/m=12)(k:Int->Bool->Option β):Py (at' Ni (m-1)) k=k m true:=by rcases S with⟨_|_⟩<;>rcases h with e|e|e|e|e|e|e|e|e|e|e|e<;>rw[e]<;>kernel_rfl
theorem Akm[S:Sl]{m:Int}(h:1<=m/\m<=12)(k:Int->Bool->Option β):Py (at' Ni (m-1)) k=k m true:=Akl (by omega) k
theorem Akn[S:Sl]{m:Int}(h:m=1\/m=2\/m=3\/m=4\/m=5)(k:Int->Bool->Option β):Pz (at' Nj (m-1)) k=k m true:=by rcases S with⟨_|_⟩<;>rcases h with e|e|e|e|e<;>rw[e]<;>kernel_rfl
theorem Ako[S:Sl]{m:Int}(h:1<=m/\m<=5)(k:Int->Bool->Option β):Pz (at' Nj (m-1)) k=k m true:=Akn (by omega) k
theorem Akp[S:Sl]{m:Int}(h:m=0\/m=1\/m=2\/m=3\/m=4\/m=5\/m=6)(k:Int->Bool->Option β):J4 (at' GG m) k=k m true:=by rcases S with⟨_|_⟩<;>rcases h with e|e|e|e|e|e|e<;>rw[e]<;>kernel_rfl
theorem YF[S:Sl]{m:Int}(h:0<=m/\m<7)(k:Int->Bool->Option β):J4 (at' GG m) k=k m true:=Akp (by omega) k
theorem Akq[S:Sl]{m:Int}(h:m=0\/m=1\/m=2)(k:Int->Option β):Hn untNs (at' untNs m) k=k m:=by rcases S with⟨_|_⟩<;>rcases h with e|e|e<;>rw[e]<;>kernel_rfl
theorem Akr[S:Sl]{m:Int}(h:0<=m/\m<=2)(k:Int->Option β):Hn untNs (at' untNs m) k=k m:=Akq (by omega) k
theorem Aks[S:Sl]{m:Int}(h:m=0\/m=1\/m=2)(k:Int->Option β):Hn EQ (at' EQ m) k=k m:=by rcases S with⟨_|_⟩<;>rcases h with e|e|e<;>rw[e]<;>kernel_rfl
theorem Akt[S:Sl]{m:Int}(h:0<=m/\m<=2)(k:Int->Option β):Hn EQ (at' EQ m) k=k m:=Aks (by omega) k
end
variable[Sl]
theorem EW{α:Type}(a:List α)(x d:α):(a++[x]).getD a.length d=x:=by simp[List.getD]
theorem Fw{α:Type}(a:List α)(x y:α):(a++[x]).set a.length y=a++[y]:=by rw[List.set_append];simp
theorem Fx{α:Type}(a:List α)(x:α)(h:a.length<=1000000):IntKind.i64.wrap (((a++[x]).length:Int)-1)=(a.length:Int):=by rw[Av,CO,i64_in _ (by omega)];omega
theorem Fy{α:Type}(a:List α)(x:α):¬((a++[x]).length:Int)=0:=by rw[Av,CO];omega
theorem Fz{α:Type}(a:List α)(x:α):0<=(a.length:Int)/\(a.length:Int)<((a++[x]).length:Int):=by rw[Av,CO];omega
section
variable{β:Type}{z:List At}{p:List Ay}{c:List AF}{s:List AK}
abbrev KB(β:Type):=Int->List At->List Ay->List AF->List AK->Option β
theorem EX{n:Nat}{a b:Option β}(h:n<=140737488355328):cond (true&&decide (n<=AG)) a b=a:=by rw[Aq (p:=n<=AG) h];rfl
theorem Aku(n:List UInt8)(o:Int)(hz:z.length<=1000)(k:KB β):L4 [wd Ka,wd n,nu 4 o] z p c s k=k 0 (z++[(n,o,[])]) p c s:=by unfold L4;rw[Ab];refine(Ai (show(0:Int)<=1/\(1:Int)<((3:Nat):Int) by omega)).trans ?_;refine(Ai (show(0:Int)<=2/\(2:Int)<((3:Nat):Int) by omega)).trans ?_;exact EX (show(z.length+1)*48<=_ by omega)
theorem Akv{r:Bd}(hr:RuleOk r)(n:List UInt8)(o:Int)(rs:List Bd)(hz:z.length<=1000)(hrs:rs.length<=1000)(k:KB β):Mk (GH r) (z++[(n,o,rs)]) p c s k=k 0 (z++[(n,o,rs++[r])]) p c s:=by
 have h1:=hr.m;have h2:=hr.w;have h3:=hr.d;unfold Mk;rw[Ab];refine(Ai (show(0:Int)<=3/\(3:Int)<((8:Nat):Int) by omega)).trans ?_;refine(Akm h1 _).trans ?_;refine(Ai (show(0:Int)<=4/\(4:Int)<((8:Nat):Int) by omega)).trans ?_;refine(Ako h2 _).trans ?_;refine(Ai (show(0:Int)<=5/\(5:Int)<((8:Nat):Int) by omega)).trans ?_;refine(YF (by omega) _).trans ?_;refine c_f.trans (c_f.trans (c_f.trans ?_));refine(Ad (Fy _ _)).trans ?_;simp only[Fx z (n,o,rs) (by omega),AE,EW,Fw];refine(Ai (Fz _ _)).trans ?_;refine(Ai (show(0:Int)<=1/\(1:Int)<((8:Nat):Int) by omega)).trans ?_;refine(Ai (show(0:Int)<=2/\(2:Int)<((8:Nat):Int) by omega)).trans ?_;refine(Ai (show(0:Int)<=6/\(6:Int)<((8:Nat):Int) by omega)).trans ?_;refine(Ai (show(0:Int)<=7/\(7:Int)<((8:Nat):Int) by omega)).trans ?_;refine(EX (show(rs.length+1)*56<=_ by omega)).trans ?_;rfl
theorem sV{kw:List UInt8}{x:Int×Int}(hx:PWin x)(k:Int×Int->Int->Option β):LQ (stW kw x) k=k x 0:=by
 obtain⟨x1,x2,x3,x4⟩:=hx;have d1:=JY ⟨x1,x2⟩;have d2:=JY (a:=x.2-1) ⟨by omega,by omega⟩;unfold LQ;rw[Ab];refine(Ai (show(0:Int)<=1/\(1:Int)<((5:Nat):Int) by omega)).trans ?_;refine(YF d1 _).trans ?_;refine(Ai (show(0:Int)<=3/\(3:Int)<((5:Nat):Int) by omega)).trans ?_;refine(YF d2 _).trans ?_;refine c_f.trans (c_f.trans ?_);refine(Ai (show(0:Int)<=2/\(2:Int)<((5:Nat):Int) by omega)).trans ?_;refine(Ai (show(0:Int)<=4/\(4:Int)<((5:Nat):Int) by omega)).trans ?_;show k (IntKind.i64.wrap (IntKind.i64.wrap (Int.tdiv x.1 86400*86400)+Int.tmod x.1 86400),IntKind.i64.wrap (IntKind.i64.wrap (Int.tdiv (x.2-1) 86400*86400)+(x.2-Int.tdiv (x.2-1) 86400*86400))) 0=_
 have e1:Int.tmod x.1 86400=x.1-Int.tdiv x.1 86400*86400:=by rw[Dk x1,DN x1];omega
 rw[e1,i64_in (Int.tdiv x.1 86400*86400) (by omega),i64_in (Int.tdiv (x.2-1) 86400*86400) (by omega),i64_in _ (by omega),i64_in _ (by omega)];rw[show Int.tdiv x.1 86400*86400+(x.1-Int.tdiv x.1 86400*86400)=x.1 by omega,show Int.tdiv (x.2-1) 86400*86400+(x.2-Int.tdiv (x.2-1) 86400*86400)=x.2 by omega]
theorem Akw{x:Int×Int}(hx:PWin x)(n:List UInt8)(pz:Int)(q:List (Int×Int))(r:Int×Int×Bool)(hp:p.length<=1000)(hq:q.length<=1000)(k:KB β):Ml (stW Fv x) z (p++[(n,pz,q,r)]) c s k=k 0 z (p++[(n,pz,q++[x],r)]) c s:=by
 unfold Ml;rw[Ab];refine(sV hx _).trans ?_;refine(Ad (Fy _ _)).trans ?_;simp only[Fx p (n,pz,q,r) (by omega),AE,EW,Fw];refine(Ai (Fz _ _)).trans ?_;refine(Ah trivial).trans ?_;refine(EX (show(q.length+1)*16<=_ by omega)).trans ?_;rfl
theorem Akx(n:List UInt8)(hs:s.length<=1000)(k:KB β):L5 [wd schW,wd n] z p c s k=k 0 z p c (s++[(n,[],[])]):=by unfold L5;rw[Ab];refine(Ai (show(0:Int)<=1/\(1:Int)<((2:Nat):Int) by omega)).trans ?_;exact EX (show(s.length+1)*64<=_ by omega)
end
end
end Go.Lift
namespace Go.Lift
open Go.RowKit Go.IntWalk
noncomputable section
set_option maxRecDepth 10000
section
variable{β:Type}{z:List At}{p:List Ay}{c:List AF}{s:List AK}
theorem pp_0[S:Sl](a b:List UInt8)(ok:Bool)(nm:List UInt8)(pz:Int)(K:Fl β):EN K [wd Ct,wd a,wd b] ok 3 z p c s nm pz 0 0 false []=K ok z p c s nm pz 0 0 false []:=by rcases S with⟨_|_⟩<;>kernel_rfl
theorem pp_1[S:Sl](a b:List UInt8)(ok:Bool)(nm:List UInt8)(pz:Int)(K:Fl β):EN K [wd Ct,wd a,wd b,wd FY] ok 3 z p c s nm pz 0 0 false []=K ok z p c s nm pz 0 0 true []:=by rcases S with⟨_|_⟩<;>kernel_rfl
theorem pp_2[S:Sl](a b:List UInt8)(m:Int)(ok:Bool)(nm:List UInt8)(pz:Int)(K:Fl β):EN K [wd Ct,wd a,wd b,wd FX,nu 1 m] ok 3 z p c s nm pz 0 0 false []=K ok z p c s nm pz 0 (IntKind.i64.wrap (3600*m)) false []:=by rcases S with⟨_|_⟩<;>kernel_rfl
theorem pp_3[S:Sl](a b:List UInt8)(m:Int)(ok:Bool)(nm:List UInt8)(pz:Int)(K:Fl β):EN K [wd Ct,wd a,wd b,wd FX,nu 1 m,wd FY] ok 3 z p c s nm pz 0 0 false []=K ok z p c s nm pz 0 (IntKind.i64.wrap (3600*m)) true []:=by rcases S with⟨_|_⟩<;>kernel_rfl
theorem pp_4[S:Sl](a b:List UInt8)(n:Int)(ok:Bool)(nm:List UInt8)(pz:Int)(K:Fl β):EN K [wd Ct,wd a,wd b,wd FW,nu 1 n] ok 3 z p c s nm pz 0 0 false []=K ok z p c s nm pz (IntKind.i64.wrap (3600*n)) 0 false []:=by rcases S with⟨_|_⟩<;>kernel_rfl
theorem pp_5[S:Sl](a b:List UInt8)(n:Int)(ok:Bool)(nm:List UInt8)(pz:Int)(K:Fl β):EN K [wd Ct,wd a,wd b,wd FW,nu 1 n,wd FY] ok 3 z p c s nm pz 0 0 false []=K ok z p c s nm pz (IntKind.i64.wrap (3600*n)) 0 true []:=by rcases S with⟨_|_⟩<;>kernel_rfl
theorem pp_6[S:Sl](a b:List UInt8)(n:Int)(m:Int)(ok:Bool)(nm:List UInt8)(pz:Int)(K:Fl β):EN K [wd Ct,wd a,wd b,wd FW,nu 1 n,wd FX,nu 1 m] ok 3 z p c s nm pz 0 0 false []=K ok z p c s nm pz (IntKind.i64.wrap (3600*n)) (IntKind.i64.wrap (3600*m)) false []:=by rcases S with⟨_|_⟩<;>kernel_rfl
theorem pp_7[S:Sl](a b:List UInt8)(n:Int)(m:Int)(ok:Bool)(nm:List UInt8)(pz:Int)(K:Fl β):EN K [wd Ct,wd a,wd b,wd FW,nu 1 n,wd FX,nu 1 m,wd FY] ok 3 z p c s nm pz 0 0 false []=K ok z p c s nm pz (IntKind.i64.wrap (3600*n)) (IntKind.i64.wrap (3600*m)) true []:=by rcases S with⟨_|_⟩<;>kernel_rfl
end
variable[Sl]
section
variable{β:Type}
theorem Aky(b:Bool)(k:Int->Option β):Ey b k=k (cond b 0 3):=by unfold Ey;rw[Ab];cases b<;>rfl
theorem Akz(xs:List At)(n:List UInt8)(h:xs.length<=1000000)(K:Int->List UInt8->Option β):Io xs n K=K (idxV (·.1) n xs) n:=by
 unfold Io;rw[Ab];unfold UH;rw[Ab];refine(EO (λm i(_:Unit)=>L6 m (λt b=>K t b) (λb=>K (-1) b) xs (xs.length:Int) i n) (idxG (·.1) n) (λe=>K e n) (λ_=>K (-1) n) ([],0,[]) xs () fuel (AY (by omega)) (λm i _ hi=>?_) (λm _=>?_)).trans ?_
 ·simp only[fN,OY]
  refine(Ah (by omega)).trans ?_;refine(Ai (by omega)).trans ?_;rw[AE,i64_in ((i:Int)+1) (by omega)];unfold UF idxG;rw[Ab];show cond (decide _) _ _=_;cases decide ((xs.getD i ([],0,[])).1=n)<;>rfl
 ·simp only[fN,OY]
  exact Ad (by omega)
 ·unfold idxV
  cases walk (idxG (·.1) n) xs 0 ()<;>rfl
theorem AkA(xs:List AF)(n:List UInt8)(h:xs.length<=1000000)(K:Int->List UInt8->Option β):LD xs n K=K (idxV (·.1) n xs) n:=by
 unfold LD;rw[Ab];unfold UM;rw[Ab];refine(EO (λm i(_:Unit)=>LC m (λt b=>K t b) (λb=>K (-1) b) xs (xs.length:Int) i n) (idxG (·.1) n) (λe=>K e n) (λ_=>K (-1) n) ([],0,[]) xs () fuel (AY (by omega)) (λm i _ hi=>?_) (λm _=>?_)).trans ?_
 ·simp only[gE,Pd]
  refine(Ah (by omega)).trans ?_;refine(Ai (by omega)).trans ?_;rw[AE,i64_in ((i:Int)+1) (by omega)];unfold UK idxG;rw[Ab];show cond (decide _) _ _=_;cases decide ((xs.getD i ([],0,[])).1=n)<;>rfl
 ·simp only[gE,Pd]
  exact Ad (by omega)
 ·unfold idxV
  cases walk (idxG (·.1) n) xs 0 ()<;>rfl
end
section
variable{β:Type}{z:List At}{p:List Ay}{c:List AF}{s:List AK}
theorem YG(hz:(z.map (·.1)).Nodup)(hl:z.length<=1000){i:Int}(hi:0<=i/\i<(z.length:Int))(K:Int->Bool->Option β):Io z (CY z i) (λrZone _=>K (if rZone>(0:Int)then rZone else(0:Int)) (decide ((0:Int)<=rZone)))=K i true:=by
 refine(Akz _ _ (by omega) _).trans ?_;unfold CY;rw[Yt hz (by omega),IJ hi.1,Aq hi.1];congr 1;split<;>omega
theorem AkB(hz:(c.map (·.1)).Nodup)(hl:c.length<=1000){i:Int}(hi:0<=i/\i<(c.length:Int))(K:Int->Bool->Option β):LD c (calN c i) (λrZone _=>K (if rZone>(0:Int)then rZone else(0:Int)) (decide ((0:Int)<=rZone)))=K i true:=by
 refine(AkA _ _ (by omega) _).trans ?_;unfold calN;rw[Yt hz (by omega),IJ hi.1,Aq hi.1];congr 1;split<;>omega
theorem Ki(k:Int->Option β):Ey true k=k 0:=Aky true k
theorem sW{w:Int}(h:(0<=w/\w<=604800)/\Int.tmod w 3600=0):IntKind.i64.wrap (3600*Int.tdiv w 3600)=w:=by obtain⟨h,h2⟩:=h;rw[Dk h.1]at h2;rw[DN h.1,i64_in _ (by omega)];omega
theorem AkC{x:Ay}(hx:PerF (z.length:Int) x)(hz:(z.map (·.1)).Nodup)(hl:z.length<=1000)(hp:p.length<=1000)(k:KB β):JG (IB z x) z p c s k=k 0 z (p++[(x.1,x.2.1,[],x.2.2.2)]) c s:=by
 have key:∀(l:List Tok),l.getD 1 (0,[],0)=wd x.1->l.getD 2 (0,[],0)=wd (CY z x.2.1)->3<=l.length->
   (∀(K:Fl β),EN K l true 3 z p c s x.1 x.2.1 0 0 false []=K true z p c s x.1 x.2.1 x.2.2.2.1 x.2.2.2.2.1 x.2.2.2.2.2 [])->
   JG l z p c s k=k 0 z (p++[(x.1,x.2.1,[],x.2.2.2)]) c s:=by
  intro l h1 h2 h3 h4;unfold JG;rw[Ab];refine(Ai (show(0:Int)<=2/\(2:Int)<(l.length:Int) by omega)).trans ?_;rw[show l.getD (Int.toNat (2:Int)) (0,[],0)=wd (CY z x.2.1)from h2];refine(YG hz hl hx.z (λt t2=>cond (decide (0<=(1:Int))&&decide ((1:Int)<(List.length l:Int))) (EN _ l t2 (3:Int) z p c s (l.getD (Int.toNat (1:Int)) (0,[],0)).2.1 t (0:Int) (0:Int) false []) none)).trans ?_;refine(Ai (show(0:Int)<=1/\(1:Int)<(l.length:Int) by omega)).trans ?_;rw[show l.getD (Int.toNat (1:Int)) (0,[],0)=wd x.1 from h1];refine(h4 _).trans ?_;refine(Ki _).trans ?_;refine(Bm rfl).trans ?_;exact EX (show(p.length+1)*72<=_ by omega)
 have hw:=sW hx.w;have hr:=sW hx.r;obtain⟨nm,pz,q,w,r,b⟩:=x;unfold IB RO Nn Kb;by_cases c1:w=0<;>by_cases c2:r=0<;>cases b
 ·subst c1;subst c2
  exact key _ rfl rfl (by simp) λK=>pp_0 _ _ _ _ _ K
 ·subst c1;subst c2
  exact key _ rfl rfl (by simp) λK=>pp_1 _ _ _ _ _ K
 ·subst c1
  rw[if_pos rfl,if_neg c2];refine key _ rfl rfl (by simp) λK=>(pp_2 _ _ _ _ _ _ K).trans ?_;rw[hr]
 ·subst c1
  rw[if_pos rfl,if_neg c2];refine key _ rfl rfl (by simp) λK=>(pp_3 _ _ _ _ _ _ K).trans ?_;rw[hr]
 ·subst c2
  rw[if_neg c1,if_pos rfl];refine key _ rfl rfl (by simp) λK=>(pp_4 _ _ _ _ _ _ K).trans ?_;rw[hw]
 ·subst c2
  rw[if_neg c1,if_pos rfl];refine key _ rfl rfl (by simp) λK=>(pp_5 _ _ _ _ _ _ K).trans ?_;rw[hw]
 ·rw[if_neg c1,if_neg c2]
  refine key _ rfl rfl (by simp) λK=>(pp_6 _ _ _ _ _ _ _ K).trans ?_;rw[hw,hr]
 ·rw[if_neg c1,if_neg c2]
  refine key _ rfl rfl (by simp) λK=>(pp_7 _ _ _ _ _ _ _ K).trans ?_;rw[hw,hr]
theorem AkD{x:AF}(hx:0<=x.2.1/\x.2.1<(z.length:Int))(hz:(z.map (·.1)).Nodup)(hl:z.length<=1000)(hp:c.length<=1000)(k:KB β):Mw [wd calW,wd x.1,wd (CY z x.2.1)] z p c s k=k 0 z p (c++[(x.1,x.2.1,[])]) s:=by
 unfold Mw;rw[Ab];refine(Ai (show(0:Int)<=2/\(2:Int)<((3:Nat):Int) by omega)).trans ?_
 refine(YG hz hl hx (λt t2=>Ey t2 λrfound=>cond (!decide (rfound=(0:Int))) (k rfound z p c s) (cond (decide (0<=(1:Int))&&decide ((1:Int)<((3:Nat):Int)))
  (cond (true&&decide ((c.length+1)*48<=AG)) (k 0 z p (c++[(x.1,t,[])]) s) none) none))).trans ?_
 refine(Ki _).trans ?_;refine(Bm rfl).trans ?_;refine(Ai (show(0:Int)<=1/\(1:Int)<((3:Nat):Int) by omega)).trans ?_;exact EX (show(c.length+1)*48<=_ by omega)
theorem YH{α γ:Type}(f:α->γ){l:List α}{i:Nat}(hi:i<l.length)(d:γ)(e:α):(l.map f).getD i d=f (l.getD i e):=by simp[List.getD,hi]
theorem AkE(n:List UInt8)(cz:Int){l:List Int}(hl:l.length<=100)(hc:c.length<=1000)(k:KB β):LP (wd ES::l.map (nu 3)) z p (c++[(n,cz,[])]) s k=k 0 z p (c++[(n,cz,l)]) s:=by
 unfold LP;rw[Ab];refine(Ad (Fy _ _)).trans ?_;simp only[Fx c (n,cz,[]) (by omega),AE];refine(Ai (Fz _ _)).trans ?_
 have hb:(decide (0<=(1:Int))&&(decide ((1:Int)<=(List.length (wd ES::l.map (nu 3)):Int))&&decide ((List.length (wd ES::l.map (nu 3)):Int)<=(List.length (wd ES::l.map (nu 3)):Int))))=true:=by rw[Aq (show(0:Int)<=1 by omega),Aq (show(1:Int)<=(List.length (wd ES::l.map (nu 3)):Int) by rw[Aw];omega),Aq (Gd _)];rfl
 rw[hb];refine c_t.trans ?_
 have e:List.drop (Int.toNat (1:Int)) (List.take (List.length (wd ES::l.map (nu 3))) (wd ES::l.map (nu 3)))=l.map (nu 3):=by rw[H8];rfl
 rw[e,Cf];unfold Vg;rw[Ab];refine(E1 (λm i t=>LO m (λb1_2 b2_2 b3_2 b4_2=>k (0:Int) b1_2 b2_2 b3_2 b4_2) c.length (l.map (nu 3)) (l.length:Int) i z p (c++[(n,cz,t)]) s) (λx=>[x]) (λt=>k 0 z p (c++[(n,cz,t)]) s) 0 l [] 1 (by omega) (λ_ _=>by simp) (λm i t hi ht=>?_) λm t=>?_).trans ?_
 ·simp only[Bw]at ht
  simp only[iP,Px];refine(Ah (by omega)).trans ?_;refine(Ai (by rw[Cf];omega)).trans ?_;simp only[AE,EW,Fw,YH (nu 3) hi _ 0];refine(EX (show(t.length+1)*8<=_ by omega)).trans ?_;rw[i64_in ((i:Int)+1) (by omega)];rfl
 ·simp only[iP,Px]
  exact Ad (by omega)
 ·rw[Cp,IA,List.map_id']
end
end
end Go.Lift
namespace Go.Lift
open Go.RowKit Go.IntWalk
noncomputable section
variable[Sl]
set_option maxRecDepth 10000
section
variable{β:Type}{z:List At}{p:List Ay}{c:List AF}{s:List AK}
theorem AkF{l:AD}{np nc:Int}(hl:LayF (z.length:Int) np nc l)(hz:(z.map (·.1)).Nodup)(hzl:z.length<=1000)(hs:s.length<=1000)(n:List UInt8)(ls:List AD)(es:List Ed)(hls:ls.length<=1000)(k:KB β):Mx (Np z l) z p c (s++[(n,ls,es)]) k=k 0 z p c (s++[(n,ls++[(l.1,l.2.1,l.2.2.1,l.2.2.2.1,l.2.2.2.2.1,[],[],0,0)],es)]):=by
 unfold Mx;rw[Ab];have hu:=hl.u;refine(Ai (show(0:Int)<=6/\(6:Int)<((7:Nat):Int) by omega)).trans ?_;refine(Akr hl.u _).trans ?_;refine(Ad (by omega)).trans ?_;refine(Ad (Fy _ _)).trans ?_;simp only[Fx s (n,ls,es) (by omega),AE,EW,Fw];refine(Ai (Fz _ _)).trans ?_;refine(Ai (show(0:Int)<=2/\(2:Int)<((7:Nat):Int) by omega)).trans ?_
 refine(YG hz hzl hl.z (λt t2=>Ey t2 λrfound=>cond (!decide (rfound=(0:Int))) (k rfound z p c (s++[(n,ls,es)])) (
  cond (decide (0<=(1:Int))&&decide ((1:Int)<((7:Nat):Int))) (cond (decide (0<=(3:Int))&&decide ((3:Int)<((7:Nat):Int))) (cond (decide (0<=(4:Int))&&decide ((4:Int)<((7:Nat):Int))) (cond (decide (0<=(5:Int))&&decide ((5:Int)<((7:Nat):Int)))
  (cond (true&&decide ((ls.length+1)*120<=AG)) (cond (decide True&&(true&&true)) (k 0 z p c (s++[(n,ls++[(l.1,t,l.2.2.1,l.2.2.2.1,l.2.2.2.2.1,[],[],0,0)],es)])) none) none) none) none) none) none))).trans ?_
 refine(Ki _).trans ?_;refine(Bm rfl).trans ?_;refine(Ai (show(0:Int)<=1/\(1:Int)<((7:Nat):Int) by omega)).trans ?_;refine(Ai (show(0:Int)<=3/\(3:Int)<((7:Nat):Int) by omega)).trans ?_;refine(Ai (show(0:Int)<=4/\(4:Int)<((7:Nat):Int) by omega)).trans ?_;refine(Ai (show(0:Int)<=5/\(5:Int)<((7:Nat):Int) by omega)).trans ?_;exact(EX (show(ls.length+1)*120<=_ by omega)).trans rfl
theorem sX(hp:(p.map (·.1)).Nodup)(hl:p.length<=1000){i:Int}(hi:0<=i/\i<(p.length:Int))(K:Int->Bool->Option β):JF (z,p,c,s) (whoB p i) K=K i true:=by
 have e:whoB p i=(p.getD i.toNat ([],0,[],0,0,false)).1:=by unfold whoB;rw[if_neg (by omega)]
 rw[e];refine(rP (z,p,c,s) _ (by show p.length<=_;omega) _).trans ?_;show K (if idxV (·.1) _ p>0 then idxV (·.1) _ p else 0) (decide (0<=idxV (·.1) _ p))=_;rw[Yt hp (by omega),IJ hi.1,Aq hi.1];congr 1;split<;>omega
theorem AkG{t:Tok}{l:List Tok}:List.drop (Int.toNat (1:Int)) (List.take (List.length (t::l)) (t::l))=l:=by rw[H8];rfl
theorem AkH{t:Tok}{l:List Tok}:(decide (0<=(1:Int))&&(decide ((1:Int)<=(List.length (t::l):Int))&&decide ((List.length (t::l):Int)<=(List.length (t::l):Int))))=true:=by rw[Aq (show(0:Int)<=1 by omega),Aq (show(1:Int)<=(List.length (t::l):Int) by rw[Aw];omega),Aq (Gd _)];rfl
theorem AkI{k1:W4 β}(K:W5 β)(x:Nat×Nat){ms:List Int}(hm:ms.length<=100)(hms:∀x∈ms,0<=x/\x<(p.length:Int))(hp:(p.map (·.1)).Nodup)(hpl:p.length<=1000):Qv k1 K x (ms.map λm=>wd (whoB p m)) (ms.length:Int) 0 z p c s []=K x z p c s ms:=by
 unfold Qv;rw[Ab];refine(E1 (λm i t=>M4 m k1 K x (ms.map λm=>wd (whoB p m)) (ms.length:Int) i z p c s t) (λx=>[x]) (λt=>K x z p c s t) 0 ms [] 1 (by omega) (λ_ _=>by simp) (λm i t hi ht=>?_) λm t=>?_).trans ?_
 ·simp only[Bw]at ht
  simp only[mH,Qu];refine(Ah (by omega)).trans ?_;refine(Ai (by rw[Cf];omega)).trans ?_;simp only[AE,YH (λm=>wd (whoB p m)) hi _ 0];refine(sX hp hpl (hms _ (Cc hi)) _).trans ?_;refine(Ki _).trans ?_;refine(Bm rfl).trans ?_;refine(Dh (show(t.length+1)*8<=_ by omega)).trans ?_;rw[i64_in ((i:Int)+1) (by omega)]
 ·simp only[mH,Qu]
  exact Ad (by omega)
 ·rw[Cp,IA,List.map_id']
theorem AkJ{ms:List Int}(hm:ms.length<=100)(hms:∀x∈ms,0<=x/\x<(p.length:Int))(hp:(p.map (·.1)).Nodup)(hpl:p.length<=1000)(hs:s.length<=1000)(n:List UInt8)(ls:List AD)(es:List Ed)(hls:ls.length<=1000)(ln:List UInt8)(lz:Int)(lt:Int×Int)(lu le:Int)(r:List (Int×Int)×Int×Int)(k:KB β):M5 (wd memW::ms.map λm=>wd (whoB p m)) z p c (s++[(n,ls++[(ln,lz,lt,lu,le,[],r)],es)]) k=k 0 z p c (s++[(n,ls++[(ln,lz,lt,lu,le,ms,r)],es)]):=by
 unfold M5;rw[Ab];refine(Ad (Fy _ _)).trans ?_;simp only[Fx s (n,ls++[(ln,lz,lt,lu,le,[],r)],es) (by omega),AE,EW];refine(Ai (Fz _ _)).trans ?_;refine(Ad (Fy _ _)).trans ?_;simp only[Fx ls (ln,lz,lt,lu,le,[],r) (by omega),AE];refine(Ai (Fz _ _)).trans ?_;rw[AkH];refine c_t.trans ?_;rw[AkG,Cf];refine(AkI _ _ hm hms hp hpl).trans ?_;simp only[EW,Fw];refine(EX (show(0+ms.length)*8<=_ by omega)).trans ?_;rfl
theorem b_on{x:Int×Int}(hx:PWin x)(hs:s.length<=1000)(n:List UInt8)(ls:List AD)(es:List Ed)(hls:ls.length<=1000)(ln:List UInt8)(lz:Int)(lt:Int×Int)(lu le:Int)(ms:List Int)(ws:List (Int×Int))(hws:ws.length<=1000)(r:Int×Int)(k:KB β):Mm (stW onW x) z p c (s++[(n,ls++[(ln,lz,lt,lu,le,ms,ws,r)],es)]) k=k 0 z p c (s++[(n,ls++[(ln,lz,lt,lu,le,ms,ws++[x],r)],es)]):=by
 unfold Mm;rw[Ab];refine(sV hx _).trans ?_;refine(Ad (Fy _ _)).trans ?_;simp only[Fx s (n,ls++[(ln,lz,lt,lu,le,ms,ws,r)],es) (by omega),AE,EW,Fw];refine(Ai (Fz _ _)).trans ?_;refine(Ad (Fy _ _)).trans ?_;simp only[Fx ls (ln,lz,lt,lu,le,ms,ws,r) (by omega),AE,EW,Fw];refine(Ai (Fz _ _)).trans ?_;refine(Ah trivial).trans ?_;refine(EX (show(ws.length+1)*16<=_ by omega)).trans ?_;rfl
theorem sY{kw:List UInt8}{md:Int}(hkw:(kw=at' Nk 1/\md=1)\/(kw=at' Nk 2/\md=2)){ca:Int}(hca:0<=ca/\ca<(c.length:Int))(hc:(c.map (·.1)).Nodup)(hcl:c.length<=1000)(hs:s.length<=1000)(n:List UInt8)(ls:List AD)(es:List Ed)(hls:ls.length<=1000)(ln:List UInt8)(lz:Int)(lt:Int×Int)(lu le:Int)(ms:List Int)(ws:List (Int×Int))(k:KB β):I0 [wd kw,wd (calN c ca)] z p c (s++[(n,ls++[(ln,lz,lt,lu,le,ms,ws,0,0)],es)]) k=k 0 z p c (s++[(n,ls++[(ln,lz,lt,lu,le,ms,ws,ca,md)],es)]):=by
 unfold I0;rw[Ab];refine(Ad (Fy _ _)).trans ?_;simp only[Fx s (n,ls++[(ln,lz,lt,lu,le,ms,ws,0,0)],es) (by omega),AE,EW,Fw];refine(Ai (Fz _ _)).trans ?_;refine(Ad (Fy _ _)).trans ?_;simp only[Fx ls (ln,lz,lt,lu,le,ms,ws,0,0) (by omega),AE,EW,Fw];refine(Ai (Fz _ _)).trans ?_;refine(Bm trivial).trans ?_;refine(Ai (show(0:Int)<=1/\(1:Int)<((2:Nat):Int) by omega)).trans ?_
 refine(AkB hc hcl hca (λt t2=>Ey t2 λrfound=>cond (!decide (rfound=(0:Int))) (k rfound z p c (s++[(n,ls++[(ln,lz,lt,lu,le,ms,ws,0,0)],es)])) (
  cond (decide (0<=(0:Int))&&decide ((0:Int)<((2:Nat):Int))) (cond (decide (kw=([111,110,108,121]:List UInt8))) (k 0 z p c (s++[(n,ls++[(ln,lz,lt,lu,le,ms,ws,t,2)],es)])) (k 0 z p c (s++[(n,ls++[(ln,lz,lt,lu,le,ms,ws,t,1)],es)]))) none))).trans ?_
 refine(Ki _).trans ?_;refine(Bm rfl).trans ?_;refine(Ai (show(0:Int)<=0/\(0:Int)<((2:Nat):Int) by omega)).trans ?_;rcases hkw with⟨rfl,rfl⟩|⟨rfl,rfl⟩
 ·exact Ad (by decide)
 ·exact Ah rfl
end
end
end Go.Lift
namespace Go.Lift
open Go.RowKit Go.IntWalk
noncomputable section
variable[Sl]
set_option maxRecDepth 10000
section
variable{β:Type}{z:List At}{p:List Ay}{c:List AF}{s:List AK}
theorem YI{k1:Qw β}{k2:Qx β}{S:Nat}{l:List Tok}{i m:Nat}{x:Ed}{people:List Int}{A:Int}(hi:i<l.length)(hi2:i<people.length)(hl:l.length<=10)(ht:l.getD i (0,[],0)=wd (whoB p A))(hA:(0<=A/\A<(p.length:Int))\/(x.1=1/\A=-1))(hp:(p.map (·.1)).Nodup)(hpl:p.length<=1000)(hnob:DI∉p.map (·.1)):G9 (m+1) k1 k2 S l (l.length:Int) (i:Int) z p c s x people=G9 m k1 k2 S l (l.length:Int) ((i+1:Nat):Int) z p c s x (people.set i A):=by
 have fin:∀(B:Int)(K1:mI β)(K2:mJ β),JI K1 K2 S (i:Int) B true l (l.length:Int) (i:Int) z p c s x people=K2 S l (l.length:Int) (i:Int) z p c s x (people.set i B):=by intro B K1 K2;unfold JI;rw[Ab];unfold W9;refine(Ki _).trans ?_;refine(Bm rfl).trans ?_;refine(Ai (by omega)).trans ?_;rw[AE]
 have ew:IntKind.i64.wrap ((i:Int)+1)=((i+1:Nat):Int):=by rw[i64_in _ (by omega)];omega
 simp only[mL,Qy];refine(Ah (by omega)).trans ?_;refine(Ai (by omega)).trans ?_;simp only[AE,ht];rcases hA with hA|⟨hx,hA⟩
 ·refine(sX hp hpl hA _).trans ?_
  have e:whoB p A=(p.getD A.toNat ([],0,[],0,0,false)).1:=by unfold whoB;rw[if_neg (by omega)]
  have hne:whoB p A≠DI:=by rw[e];intro g;exact hnob (by rw[<-g];exact Kp (Cc (by omega)))
  by_cases hx:x.1=1
  ·refine(Ah hx).trans ?_
   refine(Ad hne).trans ?_;refine(fin _ _ _).trans ?_;rw[ew]
  ·refine(Ad hx).trans ?_
   refine(fin _ _ _).trans ?_;rw[ew]
 ·refine(rP (z,p,c,s) _ (by show p.length<=_;omega) _).trans ?_
  refine(Ah hx).trans ?_;subst hA;refine(Ah rfl).trans ?_;refine(fin _ _ _).trans ?_;rw[ew]
theorem sZ{k1:Qw β}{k2:Qx β}{S:Nat}{l:List Tok}{m:Nat}{x:Ed}{people:List Int}:G9 (m+1) k1 k2 S l (l.length:Int) (l.length:Int) z p c s x people=k2 S z p c s x people:=by
 simp only[mL,Qy];exact Ad (by omega)
theorem AkK:∃m,fuel=m+1+1+1:=⟨fuel-3,by have:=AY (n:=3) (by omega);omega⟩
theorem YJ{x:Ed}(hx:EdF (p.length:Int) x)(hp:(p.map (·.1)).Nodup)(hpl:p.length<=1000)(hnob:DI∉p.map (·.1))(hs:s.length<=1000)(n:List UInt8)(ls:List AD)(es:List Ed)(hes:es.length<=1000)(k:KB β):GA (CH p x) z p c (s++[(n,ls,es)]) k=k 0 z p c (s++[(n,ls,es++[x])]):=by
 have hk:=hx.k;obtain⟨m,hm⟩:=AkK;unfold GA;rw[Ab];refine(Ad (Fy _ _)).trans ?_;simp only[Fx s (n,ls,es) (by omega),AE];refine(Ai (Fz _ _)).trans ?_;have h0:0<(CH p x).length:=by unfold CH;simp
 refine(Ai (by omega)).trans ?_;refine(Akt hk _).trans ?_;have ha:=hx.a;by_cases h2:x.1=2
 ·have hb:=hx.b h2
  have e:CH p x=[wd (at' EQ x.1),wd (whoB p x.2.1),wd (whoB p x.2.2.1),nu 5 x.2.2.2.1,nu 5 x.2.2.2.2]:=by unfold CH Nq;rw[if_pos h2];rfl
  rw[e];refine(Ai (show(0:Int)<=3/\(3:Int)<((5:Nat):Int) by omega)).trans ?_;refine(Ai (show(0:Int)<=4/\(4:Int)<((5:Nat):Int) by omega)).trans ?_;refine(c_b (show(decide (0<=(1:Int))&&(decide ((1:Int)<=(3:Int))&&decide ((3:Int)<=(5:Int))))=true from rfl)).trans ?_;unfold Qz;rw[Ab,hm];show G9 (m+1+1+1) _ _ s.length [wd (whoB p x.2.1),wd (whoB p x.2.2.1)] ((2:Nat):Int) ((0:Nat):Int) z p c (s++[(n,ls,es)]) (x.1,0,0,x.2.2.2.1,x.2.2.2.2) [0,0]=_;refine(YI (l:=[wd (whoB p x.2.1),wd (whoB p x.2.2.1)]) (A:=x.2.1) (by simp) (by simp) (by simp) rfl (by show _\/(x.1=1/\_);exact ha) hp hpl hnob).trans ?_;refine(YI (l:=[wd (whoB p x.2.1),wd (whoB p x.2.2.1)]) (A:=x.2.2.1) (by simp) (by simp) (by simp) rfl (.inl hb) hp hpl hnob).trans ?_;refine(sZ (l:=[wd (whoB p x.2.1),wd (whoB p x.2.2.1)])).trans ?_;refine(Ai (show(0:Int)<=0/\(0:Int)<((2:Nat):Int) by omega)).trans ?_;refine(Ai (show(0:Int)<=1/\(1:Int)<((2:Nat):Int) by omega)).trans ?_;simp only[EW,Fw];refine(EX (show(es.length+1)*40<=_ by omega)).trans ?_;rfl
 ·have hb:=hx.b0 h2
  have e:CH p x=[wd (at' EQ x.1),wd (whoB p x.2.1),nu 5 x.2.2.2.1,nu 5 x.2.2.2.2]:=by unfold CH Nq;rw[if_neg h2];rfl
  rw[e];refine(Ai (show(0:Int)<=2/\(2:Int)<((4:Nat):Int) by omega)).trans ?_;refine(Ai (show(0:Int)<=3/\(3:Int)<((4:Nat):Int) by omega)).trans ?_;refine(c_b (show(decide (0<=(1:Int))&&(decide ((1:Int)<=(2:Int))&&decide ((2:Int)<=(4:Int))))=true from rfl)).trans ?_;unfold Qz;rw[Ab,hm];show G9 (m+1+1+1) _ _ s.length [wd (whoB p x.2.1)] ((1:Nat):Int) ((0:Nat):Int) z p c (s++[(n,ls,es)]) (x.1,0,0,x.2.2.2.1,x.2.2.2.2) [0,0]=_;refine(YI (l:=[wd (whoB p x.2.1)]) (A:=x.2.1) (by simp) (by simp) (by simp) rfl (by show _\/(x.1=1/\_);exact ha) hp hpl hnob).trans ?_;refine(sZ (l:=[wd (whoB p x.2.1)])).trans ?_;refine(Ai (show(0:Int)<=0/\(0:Int)<((2:Nat):Int) by omega)).trans ?_;refine(Ai (show(0:Int)<=1/\(1:Int)<((2:Nat):Int) by omega)).trans ?_;simp only[EW,Fw];refine(EX (show(es.length+1)*40<=_ by omega)).trans ?_;show k 0 z p c (s++[(n,ls,es++[(x.1,x.2.1,0,x.2.2.2)])])=_;rw[<-hb]
end
end
end Go.Lift
namespace Go.Lift
open Go.RowKit Go.IntWalk
noncomputable section
variable[Sl]
set_option maxRecDepth 10000
abbrev Stm:=Int×List Tok
def CZ(b:Au)(toks:List Tok)(b':Au):Prop:=
 ∀{β:Type}(k1:Rm β)(k2:Rn β)(m i:Nat)(l:List Stm)(line:Int),i<l.length->l.length<=1000->l.getD i (0,[])=(line,toks)->
  Ht (m+1) k1 k2 l (l.length:Int) (i:Int) [] [] [] [] b.1 b.2.1 b.2.2.1 b.2.2.2=Ht m k1 k2 l (l.length:Int) ((i:Int)+1) [] [] [] [] b'.1 b'.2.1 b'.2.2.1 b'.2.2.2
abbrev Da(toks:List Tok):Prop:=∀{β:Type}(k:Bool->Option β),BP toks k=k true
section
variable{toks:List Tok}{b:Au}{z':List At}{p':List Ay}{c':List AF}{s':List AK}
theorem build_p1{β:Type}{k1:pR β}{k2:pS β}{l:List Stm}{x y:Int}{st:Stm}{z p c s}:Df k1 k2 0 l x y st [] [] [] [] z p c s=k2 l x y [] [] [] [] z p c s:=by
 unfold Df;rw[Ab];unfold XK;exact Bm rfl
theorem AkL(hF:Da toks)(h0:0<toks.length)(hw:(toks.getD 0 (0,[],0)).2.1=[122,111,110,101])(hk:∀{β:Type}(k:KB β),L4 toks b.1 b.2.1 b.2.2.1 b.2.2.2 k=k 0 z' p' c' s'):CZ b toks (z',p',c',s'):=by intro β k1 k2 m i l line h1 h2 h3;rw[D3];unfold Dg;refine(Ah (by omega)).trans ?_;refine(Ai (by omega)).trans ?_;dsimp only;rw[AE,h3];refine(hF _).trans ?_;refine c_f.trans ?_;refine(Ai (by show(0:Int)<=0/\(0:Int)<(toks.length:Int);omega)).trans ?_;dsimp only;rw[show Int.toNat (0:Int)=0 from rfl,hw];refine(Ah rfl).trans ?_;refine(hk _).trans ?_;refine build_p1.trans ?_;rw[i64_in ((i:Int)+1) (by omega)]
theorem AkM(hF:Da toks)(h0:0<toks.length)(hw:(toks.getD 0 (0,[],0)).2.1=[114,117,108,101])(hk:∀{β:Type}(k:KB β),Mk toks b.1 b.2.1 b.2.2.1 b.2.2.2 k=k 0 z' p' c' s'):CZ b toks (z',p',c',s'):=by intro β k1 k2 m i l line h1 h2 h3;rw[D3];unfold Dg;refine(Ah (by omega)).trans ?_;refine(Ai (by omega)).trans ?_;dsimp only;rw[AE,h3];refine(hF _).trans ?_;refine c_f.trans ?_;refine(Ai (by show(0:Int)<=0/\(0:Int)<(toks.length:Int);omega)).trans ?_;dsimp only;rw[show Int.toNat (0:Int)=0 from rfl,hw];refine(Ad (by decide)).trans ?_;refine(Ah rfl).trans ?_;refine(hk _).trans ?_;refine build_p1.trans ?_;rw[i64_in ((i:Int)+1) (by omega)]
theorem AkN(hF:Da toks)(h0:0<toks.length)(hw:(toks.getD 0 (0,[],0)).2.1=[112,101,114,115,111,110])(hk:∀{β:Type}(k:KB β),JG toks b.1 b.2.1 b.2.2.1 b.2.2.2 k=k 0 z' p' c' s'):CZ b toks (z',p',c',s'):=by intro β k1 k2 m i l line h1 h2 h3;rw[D3];unfold Dg;refine(Ah (by omega)).trans ?_;refine(Ai (by omega)).trans ?_;dsimp only;rw[AE,h3];refine(hF _).trans ?_;refine c_f.trans ?_;refine(Ai (by show(0:Int)<=0/\(0:Int)<(toks.length:Int);omega)).trans ?_;dsimp only;rw[show Int.toNat (0:Int)=0 from rfl,hw];refine(Ad (by decide)).trans ?_;refine(Ad (by decide)).trans ?_;refine(Ah rfl).trans ?_;refine(hk _).trans ?_;refine build_p1.trans ?_;rw[i64_in ((i:Int)+1) (by omega)]
theorem AkO(hF:Da toks)(h0:0<toks.length)(hw:(toks.getD 0 (0,[],0)).2.1=[113,117,105,101,116])(hk:∀{β:Type}(k:KB β),Ml toks b.1 b.2.1 b.2.2.1 b.2.2.2 k=k 0 z' p' c' s'):CZ b toks (z',p',c',s'):=by intro β k1 k2 m i l line h1 h2 h3;rw[D3];unfold Dg;refine(Ah (by omega)).trans ?_;refine(Ai (by omega)).trans ?_;dsimp only;rw[AE,h3];refine(hF _).trans ?_;refine c_f.trans ?_;refine(Ai (by show(0:Int)<=0/\(0:Int)<(toks.length:Int);omega)).trans ?_;dsimp only;rw[show Int.toNat (0:Int)=0 from rfl,hw];refine(Ad (by decide)).trans ?_;refine(Ad (by decide)).trans ?_;refine(Ad (by decide)).trans ?_;refine(Ah rfl).trans ?_;refine(hk _).trans ?_;refine build_p1.trans ?_;rw[i64_in ((i:Int)+1) (by omega)]
theorem AkP(hF:Da toks)(h0:0<toks.length)(hw:(toks.getD 0 (0,[],0)).2.1=[99,97,108,101,110,100,97,114])(hk:∀{β:Type}(k:KB β),Mw toks b.1 b.2.1 b.2.2.1 b.2.2.2 k=k 0 z' p' c' s'):CZ b toks (z',p',c',s'):=by intro β k1 k2 m i l line h1 h2 h3;rw[D3];unfold Dg;refine(Ah (by omega)).trans ?_;refine(Ai (by omega)).trans ?_;dsimp only;rw[AE,h3];refine(hF _).trans ?_;refine c_f.trans ?_;refine(Ai (by show(0:Int)<=0/\(0:Int)<(toks.length:Int);omega)).trans ?_;dsimp only;rw[show Int.toNat (0:Int)=0 from rfl,hw];refine(Ad (by decide)).trans ?_;refine(Ad (by decide)).trans ?_;refine(Ad (by decide)).trans ?_;refine(Ad (by decide)).trans ?_;refine(Ah rfl).trans ?_;refine(hk _).trans ?_;refine build_p1.trans ?_;rw[i64_in ((i:Int)+1) (by omega)]
theorem AkQ(hF:Da toks)(h0:0<toks.length)(hw:(toks.getD 0 (0,[],0)).2.1=[100,97,121,115])(hk:∀{β:Type}(k:KB β),LP toks b.1 b.2.1 b.2.2.1 b.2.2.2 k=k 0 z' p' c' s'):CZ b toks (z',p',c',s'):=by intro β k1 k2 m i l line h1 h2 h3;rw[D3];unfold Dg;refine(Ah (by omega)).trans ?_;refine(Ai (by omega)).trans ?_;dsimp only;rw[AE,h3];refine(hF _).trans ?_;refine c_f.trans ?_;refine(Ai (by show(0:Int)<=0/\(0:Int)<(toks.length:Int);omega)).trans ?_;dsimp only;rw[show Int.toNat (0:Int)=0 from rfl,hw];refine(Ad (by decide)).trans ?_;refine(Ad (by decide)).trans ?_;refine(Ad (by decide)).trans ?_;refine(Ad (by decide)).trans ?_;refine(Ad (by decide)).trans ?_;refine(Ah rfl).trans ?_;refine(hk _).trans ?_;refine build_p1.trans ?_;rw[i64_in ((i:Int)+1) (by omega)]
theorem AkR(hF:Da toks)(h0:0<toks.length)(hw:(toks.getD 0 (0,[],0)).2.1=[115,99,104,101,100,117,108,101])(hk:∀{β:Type}(k:KB β),L5 toks b.1 b.2.1 b.2.2.1 b.2.2.2 k=k 0 z' p' c' s'):CZ b toks (z',p',c',s'):=by intro β k1 k2 m i l line h1 h2 h3;rw[D3];unfold Dg;refine(Ah (by omega)).trans ?_;refine(Ai (by omega)).trans ?_;dsimp only;rw[AE,h3];refine(hF _).trans ?_;refine c_f.trans ?_;refine(Ai (by show(0:Int)<=0/\(0:Int)<(toks.length:Int);omega)).trans ?_;dsimp only;rw[show Int.toNat (0:Int)=0 from rfl,hw];refine(Ad (by decide)).trans ?_;refine(Ad (by decide)).trans ?_;refine(Ad (by decide)).trans ?_;refine(Ad (by decide)).trans ?_;refine(Ad (by decide)).trans ?_;refine(Ad (by decide)).trans ?_;refine(Ah rfl).trans ?_;refine(hk _).trans ?_;refine build_p1.trans ?_;rw[i64_in ((i:Int)+1) (by omega)]
theorem AkS(hF:Da toks)(h0:0<toks.length)(hw:(toks.getD 0 (0,[],0)).2.1=[108,97,121,101,114])(hk:∀{β:Type}(k:KB β),Mx toks b.1 b.2.1 b.2.2.1 b.2.2.2 k=k 0 z' p' c' s'):CZ b toks (z',p',c',s'):=by intro β k1 k2 m i l line h1 h2 h3;rw[D3];unfold Dg;refine(Ah (by omega)).trans ?_;refine(Ai (by omega)).trans ?_;dsimp only;rw[AE,h3];refine(hF _).trans ?_;refine c_f.trans ?_;refine(Ai (by show(0:Int)<=0/\(0:Int)<(toks.length:Int);omega)).trans ?_;dsimp only;rw[show Int.toNat (0:Int)=0 from rfl,hw];refine(Ad (by decide)).trans ?_;refine(Ad (by decide)).trans ?_;refine(Ad (by decide)).trans ?_;refine(Ad (by decide)).trans ?_;refine(Ad (by decide)).trans ?_;refine(Ad (by decide)).trans ?_;refine(Ad (by decide)).trans ?_;refine(Ah rfl).trans ?_;refine(hk _).trans ?_;refine build_p1.trans ?_;rw[i64_in ((i:Int)+1) (by omega)]
theorem AkT(hF:Da toks)(h0:0<toks.length)(hw:(toks.getD 0 (0,[],0)).2.1=[109,101,109,98,101,114])(hk:∀{β:Type}(k:KB β),M5 toks b.1 b.2.1 b.2.2.1 b.2.2.2 k=k 0 z' p' c' s'):CZ b toks (z',p',c',s'):=by intro β k1 k2 m i l line h1 h2 h3;rw[D3];unfold Dg;refine(Ah (by omega)).trans ?_;refine(Ai (by omega)).trans ?_;dsimp only;rw[AE,h3];refine(hF _).trans ?_;refine c_f.trans ?_;refine(Ai (by show(0:Int)<=0/\(0:Int)<(toks.length:Int);omega)).trans ?_;dsimp only;rw[show Int.toNat (0:Int)=0 from rfl,hw];refine(Ad (by decide)).trans ?_;refine(Ad (by decide)).trans ?_;refine(Ad (by decide)).trans ?_;refine(Ad (by decide)).trans ?_;refine(Ad (by decide)).trans ?_;refine(Ad (by decide)).trans ?_;refine(Ad (by decide)).trans ?_;refine(Ad (by decide)).trans ?_;refine(Ah rfl).trans ?_;refine(hk _).trans ?_;refine build_p1.trans ?_;rw[i64_in ((i:Int)+1) (by omega)]
theorem AkU(hF:Da toks)(h0:0<toks.length)(hw:(toks.getD 0 (0,[],0)).2.1=[111,110])(hk:∀{β:Type}(k:KB β),Mm toks b.1 b.2.1 b.2.2.1 b.2.2.2 k=k 0 z' p' c' s'):CZ b toks (z',p',c',s'):=by intro β k1 k2 m i l line h1 h2 h3;rw[D3];unfold Dg;refine(Ah (by omega)).trans ?_;refine(Ai (by omega)).trans ?_;dsimp only;rw[AE,h3];refine(hF _).trans ?_;refine c_f.trans ?_;refine(Ai (by show(0:Int)<=0/\(0:Int)<(toks.length:Int);omega)).trans ?_;dsimp only;rw[show Int.toNat (0:Int)=0 from rfl,hw];refine(Ad (by decide)).trans ?_;refine(Ad (by decide)).trans ?_;refine(Ad (by decide)).trans ?_;refine(Ad (by decide)).trans ?_;refine(Ad (by decide)).trans ?_;refine(Ad (by decide)).trans ?_;refine(Ad (by decide)).trans ?_;refine(Ad (by decide)).trans ?_;refine(Ad (by decide)).trans ?_;refine(Ah rfl).trans ?_;refine(hk _).trans ?_;refine build_p1.trans ?_;rw[i64_in ((i:Int)+1) (by omega)]
theorem AkV(hF:Da toks)(h0:0<toks.length)(hw:(toks.getD 0 (0,[],0)).2.1=[110,111,116])(hk:∀{β:Type}(k:KB β),I0 toks b.1 b.2.1 b.2.2.1 b.2.2.2 k=k 0 z' p' c' s'):CZ b toks (z',p',c',s'):=by intro β k1 k2 m i l line h1 h2 h3;rw[D3];unfold Dg;refine(Ah (by omega)).trans ?_;refine(Ai (by omega)).trans ?_;dsimp only;rw[AE,h3];refine(hF _).trans ?_;refine c_f.trans ?_;refine(Ai (by show(0:Int)<=0/\(0:Int)<(toks.length:Int);omega)).trans ?_;dsimp only;rw[show Int.toNat (0:Int)=0 from rfl,hw];refine(Ad (by decide)).trans ?_;refine(Ad (by decide)).trans ?_;refine(Ad (by decide)).trans ?_;refine(Ad (by decide)).trans ?_;refine(Ad (by decide)).trans ?_;refine(Ad (by decide)).trans ?_;refine(Ad (by decide)).trans ?_;refine(Ad (by decide)).trans ?_;refine(Ad (by decide)).trans ?_;refine(Ad (by decide)).trans ?_;refine(Ah rfl).trans ?_;refine(hk _).trans ?_;refine build_p1.trans ?_;rw[i64_in ((i:Int)+1) (by omega)]
theorem AkW(hF:Da toks)(h0:0<toks.length)(hw:(toks.getD 0 (0,[],0)).2.1=[111,110,108,121])(hk:∀{β:Type}(k:KB β),I0 toks b.1 b.2.1 b.2.2.1 b.2.2.2 k=k 0 z' p' c' s'):CZ b toks (z',p',c',s'):=by intro β k1 k2 m i l line h1 h2 h3;rw[D3];unfold Dg;refine(Ah (by omega)).trans ?_;refine(Ai (by omega)).trans ?_;dsimp only;rw[AE,h3];refine(hF _).trans ?_;refine c_f.trans ?_;refine(Ai (by show(0:Int)<=0/\(0:Int)<(toks.length:Int);omega)).trans ?_;dsimp only;rw[show Int.toNat (0:Int)=0 from rfl,hw];refine(Ad (by decide)).trans ?_;refine(Ad (by decide)).trans ?_;refine(Ad (by decide)).trans ?_;refine(Ad (by decide)).trans ?_;refine(Ad (by decide)).trans ?_;refine(Ad (by decide)).trans ?_;refine(Ad (by decide)).trans ?_;refine(Ad (by decide)).trans ?_;refine(Ad (by decide)).trans ?_;refine(Ad (by decide)).trans ?_;refine(Ad (by decide)).trans ?_;refine(Ah rfl).trans ?_;refine(hk _).trans ?_;refine build_p1.trans ?_;rw[i64_in ((i:Int)+1) (by omega)]
theorem AkX(hF:Da toks)(h0:0<toks.length)(hw:(toks.getD 0 (0,[],0)).2.1=[108,101,97,118,101])(hk:∀{β:Type}(k:KB β),GA toks b.1 b.2.1 b.2.2.1 b.2.2.2 k=k 0 z' p' c' s'):CZ b toks (z',p',c',s'):=by intro β k1 k2 m i l line h1 h2 h3;rw[D3];unfold Dg;refine(Ah (by omega)).trans ?_;refine(Ai (by omega)).trans ?_;dsimp only;rw[AE,h3];refine(hF _).trans ?_;refine c_f.trans ?_;refine(Ai (by show(0:Int)<=0/\(0:Int)<(toks.length:Int);omega)).trans ?_;dsimp only;rw[show Int.toNat (0:Int)=0 from rfl,hw];refine(Ad (by decide)).trans ?_;refine(Ad (by decide)).trans ?_;refine(Ad (by decide)).trans ?_;refine(Ad (by decide)).trans ?_;refine(Ad (by decide)).trans ?_;refine(Ad (by decide)).trans ?_;refine(Ad (by decide)).trans ?_;refine(Ad (by decide)).trans ?_;refine(Ad (by decide)).trans ?_;refine(Ad (by decide)).trans ?_;refine(Ad (by decide)).trans ?_;refine(Ad (by decide)).trans ?_;refine(Ah rfl).trans ?_;refine(hk _).trans ?_;refine build_p1.trans ?_;rw[i64_in ((i:Int)+1) (by omega)]
theorem AkY(hF:Da toks)(h0:0<toks.length)(hw:(toks.getD 0 (0,[],0)).2.1=[111,118,101,114,114,105,100,101])(hk:∀{β:Type}(k:KB β),GA toks b.1 b.2.1 b.2.2.1 b.2.2.2 k=k 0 z' p' c' s'):CZ b toks (z',p',c',s'):=by intro β k1 k2 m i l line h1 h2 h3;rw[D3];unfold Dg;refine(Ah (by omega)).trans ?_;refine(Ai (by omega)).trans ?_;dsimp only;rw[AE,h3];refine(hF _).trans ?_;refine c_f.trans ?_;refine(Ai (by show(0:Int)<=0/\(0:Int)<(toks.length:Int);omega)).trans ?_;dsimp only;rw[show Int.toNat (0:Int)=0 from rfl,hw];refine(Ad (by decide)).trans ?_;refine(Ad (by decide)).trans ?_;refine(Ad (by decide)).trans ?_;refine(Ad (by decide)).trans ?_;refine(Ad (by decide)).trans ?_;refine(Ad (by decide)).trans ?_;refine(Ad (by decide)).trans ?_;refine(Ad (by decide)).trans ?_;refine(Ad (by decide)).trans ?_;refine(Ad (by decide)).trans ?_;refine(Ad (by decide)).trans ?_;refine(Ad (by decide)).trans ?_;refine(Ad (by decide)).trans ?_;refine(Ah rfl).trans ?_;refine(hk _).trans ?_;refine build_p1.trans ?_;rw[i64_in ((i:Int)+1) (by omega)]
theorem AkZ(hF:Da toks)(h0:0<toks.length)(hw:(toks.getD 0 (0,[],0)).2.1=[115,119,97,112])(hk:∀{β:Type}(k:KB β),GA toks b.1 b.2.1 b.2.2.1 b.2.2.2 k=k 0 z' p' c' s'):CZ b toks (z',p',c',s'):=by intro β k1 k2 m i l line h1 h2 h3;rw[D3];unfold Dg;refine(Ah (by omega)).trans ?_;refine(Ai (by omega)).trans ?_;dsimp only;rw[AE,h3];refine(hF _).trans ?_;refine c_f.trans ?_;refine(Ai (by show(0:Int)<=0/\(0:Int)<(toks.length:Int);omega)).trans ?_;dsimp only;rw[show Int.toNat (0:Int)=0 from rfl,hw];refine(Ad (by decide)).trans ?_;refine(Ad (by decide)).trans ?_;refine(Ad (by decide)).trans ?_;refine(Ad (by decide)).trans ?_;refine(Ad (by decide)).trans ?_;refine(Ad (by decide)).trans ?_;refine(Ad (by decide)).trans ?_;refine(Ad (by decide)).trans ?_;refine(Ad (by decide)).trans ?_;refine(Ad (by decide)).trans ?_;refine(Ad (by decide)).trans ?_;refine(Ad (by decide)).trans ?_;refine(Ad (by decide)).trans ?_;refine(Ad (by decide)).trans ?_;refine(Ah rfl).trans ?_;refine(hk _).trans ?_;refine build_p1.trans ?_;rw[i64_in ((i:Int)+1) (by omega)]
end
def Run:List (List Tok)->Au->Au->Prop
 |[],b,b'=>b=b'
 |t::r,b,b''=>∃b',CZ b t b'/\Run r b' b''
theorem Run.app:∀{a:List (List Tok)}{b c d:Au}{r:List (List Tok)},Run a b c->Run r c d->Run (a++r) b d
 |[],b,c,d,r,h,h2=>by have h:b=c:=h;rw[h];exact h2
 |t::a,b,c,d,r,⟨b',h1,h2⟩,h3=>⟨b',h1,Run.app h2 h3⟩
theorem Run.one{t:List Tok}{b b':Au}(h:CZ b t b'):Run [t] b b':=⟨b',h,rfl⟩
theorem Run.cons{t:List Tok}{r:List (List Tok)}{b b' c:Au}(h:CZ b t b')(hr:Run r b' c):Run (t::r) b c:=⟨b',h,hr⟩
section
variable{β:Type}
theorem tA{k1:Rm β}{k2:Rn β}{l:List Stm}{rest:List (List Tok)}(hl:l.length<=1000):∀(a:List (List Tok))(i m:Nat)(b b':Au),Run a b b'->(l.map (·.2)).drop i=a++rest->Ht (m+a.length) k1 k2 l (l.length:Int) (i:Int) [] [] [] [] b.1 b.2.1 b.2.2.1 b.2.2.2=Ht m k1 k2 l (l.length:Int) ((i+a.length:Nat):Int) [] [] [] [] b'.1 b'.2.1 b'.2.2.1 b'.2.2.2
 |[],i,m,b,b',h,_=>by have h:b=b':=h;rw[h];rfl
 |t::a,i,m,b,b'',⟨b',h1,h2⟩,hd=>by
  have hi:i<l.length:=by have:=Aj List.length hd;simp only[Fa,Cf,Av,Aw]at this;omega
  have hg:(l.getD i (0,[])).2=t:=by
   have h3:((l.map (·.2)).drop i)[0]?=some t:=by rw[hd];rfl
   rw[H7,C0]at h3;simp only[HE,Bx hi,Cl,Ac]at h3;simp[List.getD,hi,h3]
  have hd':(l.map (·.2)).drop (i+1)=a++rest:=by rw[<-NI,hd];rfl
  rw[Aw,show m+(a.length+1)=(m+a.length)+1 by omega];refine(h1 k1 k2 (m+a.length) i l (l.getD i (0,[])).1 hi hl (by rw[<-hg])).trans ?_;have:=tA (k1:=k1) (k2:=k2) hl a (i+1) m b' b'' h2 hd';rw[show((i+1:Nat):Int)=(i:Int)+1 by omega]at this;rw[this,show i+(a.length+1)=i+1+a.length by omega]
theorem Al0{n:Nat}(h:n<=1000):∃m,fuel=(m+1)+n:=by have:=AY (n:=n) (by omega);exact⟨fuel-n-1,by omega⟩
theorem Al1{l:List Stm}{b:Au}(hl:l.length<=1000)(hr:Run (l.map (·.2)) ([],[],[],[]) b)(hb:ConfOk b)(k:Au->Int->Int->Option β):MQ l k=k b 0 0:=by
 unfold MQ;rw[Ab]
 iterate 15 refine c_t.trans ?_
 unfold XL;rw[Ab];obtain⟨m,hm⟩:=Al0 (n:=l.length) (by omega);rw[hm];have hlm:(l.map (·.2)).length=l.length:=Cf _
 have:=tA (rest:=[]) (k1:=λline e b1_ b2_ b3_ b4_=>k (b1_,(b2_,(b3_,b4_))) line e) (k2:=λb2_ b3_ b4_ b5_ b6_ b7_ b8_ b9_=>
  JS (b6_,(b7_,(b8_,b9_))) (λrCheck=>cond (!decide (rCheck=(0:Int))) (k Ug (0:Int) rCheck) (k (b6_,(b7_,(b8_,b9_))) (0:Int) (0:Int)))) hl (l.map (·.2)) 0 (m+1) ([],[],[],[]) b hr (by simp)
 rw[hlm]at this;refine this.trans ?_;rw[D3];unfold Dg;refine(Ad (by omega)).trans ?_;refine(qR (b.1,(b.2.1,(b.2.2.1,b.2.2.2))) Di (λy hy k=>qW (hb.oz.2 y hy).1 k) _).trans ?_;show cond (!decide (Nd Di b=0)) _ _=_;rw[rO hb];exact Bm rfl
end
end
end Go.Lift
namespace Go.Lift
open Go.RowKit Go.IntWalk
noncomputable section
variable[Sl]
set_option maxRecDepth 10000
abbrev AllF(ls:List (List Tok)):Prop:=∀t∈ls,Da t
theorem AllF.l{a b:List (List Tok)}(h:AllF (a++b)):AllF a:=λt ht=>h t (BG _ ht)
theorem AllF.r{a b:List (List Tok)}(h:AllF (a++b)):AllF b:=λt ht=>h t (BM _ ht)
theorem AllF.h{t:List Tok}{b:List (List Tok)}(h:AllF (t::b)):Da t:=h t (Bu ..)
theorem AllF.t{t:List Tok}{b:List (List Tok)}(h:AllF (t::b)):AllF b:=λx hx=>h x (AU _ hx)
section
variable{z:List At}{p:List Ay}{c:List AF}{s:List AK}
theorem tB(n:List UInt8)(o:Int)(hz:z.length<=1000):∀(rs dn:List Bd),AllF (rs.map GH)->(∀r∈rs,RuleOk r)->dn.length+rs.length<=1000->Run (rs.map GH) (z++[(n,o,dn)],p,c,s) (z++[(n,o,dn++rs)],p,c,s)
 |[],dn,_,_,_=>by rw[CA];rfl
 |r::rs,dn,hF,hr,hl=>by rw[Aw]at hl;refine Run.cons (b':=(z++[(n,o,dn++[r])],p,c,s)) (AkM hF.h (by simp[GH]) rfl λk=>Akv (hr r (Bu ..)) n o dn hz (by omega) k) ?_;have:=tB n o hz rs (dn++[r]) hF.t (λx hx=>hr x (AU _ hx)) (by simp;omega);rw[AW]at this;exact this
theorem tC:∀(zs z:List At),AllF (zs.flatMap DJ)->(∀x∈zs,ZoneOk x)->z.length+zs.length<=1000->Run (zs.flatMap DJ) (z,p,c,s) (z++zs,p,c,s)
 |[],z,_,_,_=>by rw[CA];rfl
 |x::zs,z,hF,hx,hl=>by
  rw[Aw]at hl;rw[E5]at hF⊢;have h1:=hx x (Bu ..);have h2:=h1.l;have hF1:AllF (DJ x):=hF.l;refine Run.app (c:=(z++[x],p,c,s)) ?_ ?_
  ·refine Run.cons (b':=(z++[(x.1,x.2.1,[])],p,c,s)) (AkL hF1.h (by simp) rfl λk=>Aku x.1 x.2.1 (show z.length<=1000 by omega) k) ?_
   exact tB x.1 x.2.1 (by omega) x.2.2 [] hF1.t h1.r (by simp;omega)
  ·have:=tC zs (z++[x]) hF.r (λy hy=>hx y (AU _ hy)) (by simp;omega)
   rw[AW]at this;exact this
theorem tD(n:List UInt8)(pz:Int)(r:Int×Int×Bool)(hp:p.length<=1000):∀(ws dn:List (Int×Int)),AllF (ws.map (stW Fv))->(∀x∈ws,PWin x)->dn.length+ws.length<=1000->Run (ws.map (stW Fv)) (z,p++[(n,pz,dn,r)],c,s) (z,p++[(n,pz,dn++ws,r)],c,s)
 |[],dn,_,_,_=>by rw[CA];rfl
 |x::ws,dn,hF,hr,hl=>by rw[Aw]at hl;refine Run.cons (b':=(z,p++[(n,pz,dn++[x],r)],c,s)) (AkO hF.h (by simp[stW]) rfl λk=>Akw (hr x (Bu ..)) n pz dn r hp (by omega) k) ?_;have:=tD n pz r hp ws (dn++[x]) hF.t (λx hx=>hr x (AU _ hx)) (by simp;omega);rw[AW]at this;exact this
theorem tE(hz:(z.map (·.1)).Nodup)(hzl:z.length<=1000):∀(ps p:List Ay),AllF (ps.flatMap (DK z))->(∀x∈ps,PerF (z.length:Int) x)->p.length+ps.length<=1000->Run (ps.flatMap (DK z)) (z,p,c,s) (z,p++ps,c,s)
 |[],p,_,_,_=>by rw[CA];rfl
 |x::ps,p,hF,hx,hl=>by
  rw[Aw]at hl;rw[E5]at hF⊢;have h1:=hx x (Bu ..);have h2:=h1.q;have hF1:AllF (DK z x):=hF.l;refine Run.app (c:=(z,p++[x],c,s)) ?_ ?_
  ·refine Run.cons (b':=(z,p++[(x.1,x.2.1,[],x.2.2.2)],c,s)) (AkN hF1.h (by simp[IB]) rfl λk=>AkC h1 hz hzl (show p.length<=1000 by omega) k) ?_
   exact tD x.1 x.2.1 x.2.2.2 (by omega) x.2.2.1 [] hF1.t h2.2 (by simp;omega)
  ·have:=tE hz hzl ps (p++[x]) hF.r (λy hy=>hx y (AU _ hy)) (by simp;omega)
   rw[AW]at this;exact this
theorem tF(hz:(z.map (·.1)).Nodup)(hzl:z.length<=1000):∀(cs c:List AF),AllF (cs.flatMap (Eh z))->(∀x∈cs,(0<=x.2.1/\x.2.1<(z.length:Int))/\x.2.2.length<=20)->c.length+cs.length<=1000->Run (cs.flatMap (Eh z)) (z,p,c,s) (z,p,c++cs,s)
 |[],c,_,_,_=>by rw[CA];rfl
 |x::cs,c,hF,hx,hl=>by
  rw[Aw]at hl;rw[E5]at hF⊢;have h1:=hx x (Bu ..);have hF1:AllF (Eh z x):=hF.l;refine Run.app (c:=(z,p,c++[x],s)) ?_ ?_
  ·refine Run.cons (b':=(z,p,c++[(x.1,x.2.1,[])],s)) (AkP hF1.h (by simp) rfl λk=>AkD h1.1 hz hzl (show c.length<=1000 by omega) k) ?_
   have hF2:AllF (Kc x.2.2):=hF1.t;unfold Kc at hF2⊢;by_cases e:x.2.2=[]
   ·rw[if_pos e]
    show(z,p,c++[(x.1,x.2.1,[])],s)=(z,p,c++[x],s);rw[<-e]
   ·rw[if_neg e]at hF2⊢
    exact Run.one (AkQ hF2.h (by simp) rfl λk=>AkE x.1 x.2.1 (by omega) (by omega) k)
  ·have:=tF hz hzl cs (c++[x]) hF.r (λy hy=>hx y (AU _ hy)) (by simp;omega)
   rw[AW]at this;exact this
theorem tG(hs:s.length<=1000)(n:List UInt8)(ls:List AD)(es:List Ed)(hls:ls.length<=1000)(ln:List UInt8)(lz:Int)(lt:Int×Int)(lu le:Int)(ms:List Int)(r:Int×Int):∀(ws dn:List (Int×Int)),AllF (ws.map (stW onW))->(∀x∈ws,PWin x)->dn.length+ws.length<=1000->Run (ws.map (stW onW)) (z,p,c,s++[(n,ls++[(ln,lz,lt,lu,le,ms,dn,r)],es)]) (z,p,c,s++[(n,ls++[(ln,lz,lt,lu,le,ms,dn++ws,r)],es)])
 |[],dn,_,_,_=>by rw[CA];rfl
 |x::ws,dn,hF,hr,hl=>by rw[Aw]at hl;refine Run.cons (b':=(z,p,c,s++[(n,ls++[(ln,lz,lt,lu,le,ms,dn++[x],r)],es)])) (AkU hF.h (by simp[stW]) rfl λk=>b_on (hr x (Bu ..)) hs n ls es hls ln lz lt lu le ms dn (by omega) r k) ?_;have:=tG hs n ls es hls ln lz lt lu le ms r ws (dn++[x]) hF.t (λx hx=>hr x (AU _ hx)) (by simp;omega);rw[AW]at this;exact this
theorem Al2(hc:(c.map (·.1)).Nodup)(hcl:c.length<=1000)(hs:s.length<=1000)(n:List UInt8)(ls:List AD)(es:List Ed)(hls:ls.length<=1000){l:AD}{nz np:Int}(hl:LayF nz np (c.length:Int) l)(hF:AllF (GI c l)):Run (GI c l) (z,p,c,s++[(n,ls++[(l.1,l.2.1,l.2.2.1,l.2.2.2.1,l.2.2.2.2.1,l.2.2.2.2.2.1,l.2.2.2.2.2.2.1,0,0)],es)]) (z,p,c,s++[(n,ls++[l],es)]):=by
 obtain⟨ln,lz,lt,lu,le,ms,ws,ca,md⟩:=l;have h:=hl.c;unfold GI at hF⊢;by_cases e:md=0
 ·rw[if_pos e]
  have hca:ca=0:=by
   rcases h with h|h
   ·exact h.2
   ·have:=h.1.1
    simp only at this;omega
  subst e;subst hca;rfl
 ·rw[if_neg e]at hF⊢
  have hc':(1<=md/\md<=2)/\0<=ca/\ca<(c.length:Int):=by
   rcases h with h|h
   ·exact absurd h.1 e
   ·exact h
  have key:md=1\/md=2:=by omega
  rcases key with rfl|rfl
  ·exact Run.one (AkV hF.h (by simp) rfl λk=>sY (.inl ⟨rfl,rfl⟩) hc'.2 hc hcl hs n ls es hls ln lz lt lu le ms ws k)
  ·exact Run.one (AkW hF.h (by simp) rfl λk=>sY (.inr ⟨rfl,rfl⟩) hc'.2 hc hcl hs n ls es hls ln lz lt lu le ms ws k)
theorem tH(hz:(z.map (·.1)).Nodup)(hzl:z.length<=1000)(hp:(p.map (·.1)).Nodup)(hpl:p.length<=1000)(hc:(c.map (·.1)).Nodup)(hcl:c.length<=1000)(hs:s.length<=1000)(n:List UInt8)(es:List Ed):∀(xs ls:List AD),AllF (xs.flatMap (E2 z p c))->(∀l∈xs,LayF (z.length:Int) (p.length:Int) (c.length:Int) l)->ls.length+xs.length<=1000->Run (xs.flatMap (E2 z p c)) (z,p,c,s++[(n,ls,es)]) (z,p,c,s++[(n,ls++xs,es)])
 |[],ls,_,_,_=>by rw[CA];rfl
 |x::xs,ls,hF,hx,hl=>by
  rw[Aw]at hl;rw[E5]at hF⊢;have h1:=hx x (Bu ..);have hm:=h1.m;have hw:=h1.w;have hF1:AllF (E2 z p c x):=hF.l;have hF3:=hF1.t.t;refine Run.app (c:=(z,p,c,s++[(n,ls++[x],es)])) ?_ ?_
  ·refine Run.cons (b':=(z,p,c,s++[(n,ls++[(x.1,x.2.1,x.2.2.1,x.2.2.2.1,x.2.2.2.2.1,[],[],0,0)],es)])) (AkS hF1.h (by simp[Np]) rfl λk=>AkF h1 hz hzl hs n ls es (by omega) k) ?_
   refine Run.cons (b':=(z,p,c,s++[(n,ls++[(x.1,x.2.1,x.2.2.1,x.2.2.2.1,x.2.2.2.2.1,x.2.2.2.2.2.1,[],0,0)],es)])) (AkT (b:=(z,p,c,s++[(n,ls++[(x.1,x.2.1,x.2.2.1,x.2.2.2.1,x.2.2.2.2.1,[],[],0,0)],es)])) (z':=z) (p':=p) (c':=c) (s':=s++[(n,ls++[(x.1,x.2.1,x.2.2.1,x.2.2.2.1,x.2.2.2.2.1,x.2.2.2.2.2.1,[],0,0)],es)]) hF1.t.h (by simp[RQ]) rfl λk=>AkJ (by omega) h1.ms hp hpl hs n ls es (by omega) x.1 x.2.1 x.2.2.1 x.2.2.2.1 x.2.2.2.2.1 ([],0,0) k) ?_;refine Run.app (tG hs n ls es (by omega) x.1 x.2.1 x.2.2.1 x.2.2.2.1 x.2.2.2.2.1 x.2.2.2.2.2.1 (0,0) x.2.2.2.2.2.2.1 [] hF3.l hw.2 (by simp;omega)) ?_;exact Al2 hc hcl hs n ls es (by omega) h1 hF3.r
  ·have:=tH hz hzl hp hpl hc hcl hs n es xs (ls++[x]) hF.r (λy hy=>hx y (AU _ hy)) (by simp;omega)
   rw[AW]at this;exact this
theorem Al3(hp:(p.map (·.1)).Nodup)(hpl:p.length<=1000)(hnob:DI∉p.map (·.1))(hs:s.length<=1000)(n:List UInt8)(ls:List AD)(es:List Ed)(hes:es.length<=1000){x:Ed}(hx:EdF (p.length:Int) x)(hF:Da (CH p x)):CZ (z,p,c,s++[(n,ls,es)]) (CH p x) (z,p,c,s++[(n,ls,es++[x])]):=by
 have hk:=hx.k;have h0:0<(CH p x).length:=by unfold CH;simp
 have key:x.1=0\/x.1=1\/x.1=2:=by omega
 have hw:((CH p x).getD 0 (0,[],0)).2.1=at' EQ x.1:=rfl;intro β;rcases key with e|e|e
 ·exact AkX (b:=(z,p,c,s++[(n,ls,es)])) (z':=z) (p':=p) (c':=c) (s':=s++[(n,ls,es++[x])]) hF h0 (by rw[hw,e];rfl) λk=>YJ hx hp hpl hnob hs n ls es hes k
 ·exact AkY (b:=(z,p,c,s++[(n,ls,es)])) (z':=z) (p':=p) (c':=c) (s':=s++[(n,ls,es++[x])]) hF h0 (by rw[hw,e];rfl) λk=>YJ hx hp hpl hnob hs n ls es hes k
 ·exact AkZ (b:=(z,p,c,s++[(n,ls,es)])) (z':=z) (p':=p) (c':=c) (s':=s++[(n,ls,es++[x])]) hF h0 (by rw[hw,e];rfl) λk=>YJ hx hp hpl hnob hs n ls es hes k
theorem tI(hp:(p.map (·.1)).Nodup)(hpl:p.length<=1000)(hnob:DI∉p.map (·.1))(hs:s.length<=1000)(n:List UInt8)(ls:List AD):∀(xs es:List Ed),AllF (xs.map (CH p))->(∀x∈xs,EdF (p.length:Int) x)->es.length+xs.length<=1000->Run (xs.map (CH p)) (z,p,c,s++[(n,ls,es)]) (z,p,c,s++[(n,ls,es++xs)])
 |[],es,_,_,_=>by rw[CA];rfl
 |x::xs,es,hF,hx,hl=>by rw[Aw]at hl;refine Run.cons (Al3 hp hpl hnob hs n ls es (by omega) (hx x (Bu ..)) hF.h) ?_;have:=tI hp hpl hnob hs n ls xs (es++[x]) hF.t (λy hy=>hx y (AU _ hy)) (by simp;omega);rw[AW]at this;exact this
theorem tJ(hz:(z.map (·.1)).Nodup)(hzl:z.length<=1000)(hp:(p.map (·.1)).Nodup)(hpl:p.length<=1000)(hnob:DI∉p.map (·.1))(hc:(c.map (·.1)).Nodup)(hcl:c.length<=1000):∀(xs s:List AK),AllF (xs.flatMap (ET z p c))->(∀x∈xs,SchG (z.length:Int) (p.length:Int) (c.length:Int) x)->s.length+xs.length<=1000->Run (xs.flatMap (ET z p c)) (z,p,c,s) (z,p,c,s++xs)
 |[],s,_,_,_=>by rw[CA];rfl
 |x::xs,s,hF,hx,hl=>by
  rw[Aw]at hl;rw[E5]at hF⊢;have h1:=hx x (Bu ..);have hl1:=h1.l;have hl2:=h1.e;have hF1:AllF (ET z p c x):=hF.l;have hF2:=hF1.t;refine Run.app (c:=(z,p,c,s++[x])) ?_ ?_
  ·refine Run.cons (b':=(z,p,c,s++[(x.1,[],[])])) (AkR hF1.h (by simp) rfl λk=>Akx x.1 (show s.length<=1000 by omega) k) ?_
   refine Run.app (tH hz hzl hp hpl hc hcl (by omega) x.1 [] x.2.1 [] hF2.l (λl hl=>(h1.ls l hl).1) (by simp;omega)) ?_;exact tI hp hpl hnob (by omega) x.1 x.2.1 x.2.2 [] hF2.r h1.es (by simp;omega)
  ·have:=tJ hz hzl hp hpl hnob hc hcl xs (s++[x]) hF.r (λy hy=>hx y (AU _ hy)) (by simp;omega)
   rw[AW]at this;exact this
end
theorem Al4{c:Au}(h:ConfOk c):Run (CM c) ([],[],[],[]) c:=by
 have hs:=N0 h;have hF:AllF (CM c):=λt ht=>(hs.1.g t ht).form;obtain⟨z,p,x,s⟩:=c;have l1:z.length<=2:=h.oz.1.1;have l2:p.length<=8:=h.op.1.1;have l3:x.length<=1:=h.oc.1.1;have l4:s.length<=3:=h.os.1.1;have hz:(z.map (·.1)).Nodup:=h.oz.1.nodup (by decide);have hp:(p.map (·.1)).Nodup:=h.op.1.nodup (by decide);have hc:(x.map (·.1)).Nodup:=h.oc.1.nodup (by decide)
 have hnob:DI∉p.map (·.1):=by have e:=h.op.1.2;rw[show p.map (·.1)=pNames.take p.length from e];intro g;exact absurd (Sh g) (by decide)
 unfold CM at hF⊢;refine Run.app (tC z [] hF.l (λy hy=>(h.oz.2 y hy).1) (by simp;omega)) ?_;refine Run.app (tE hz (by show z.length<=_;omega) p [] hF.r.l (IC h) (by simp;omega)) ?_;refine Run.app (tF hz (by show z.length<=_;omega) x [] hF.r.r.l (λy hy=>⟨(Yy (h.oc.2 y hy).1).z,(h.oc.2 y hy).2⟩) (by simp;omega)) ?_;exact tJ hz (by show z.length<=_;omega) hp (by show p.length<=_;omega) hnob hc (by show x.length<=_;omega) s [] hF.r.r.r (Nr h) (by simp;omega)
theorem Al5{β:Type}{c:Au}(h:ConfOk c){l:List Stm}(hl:l.map (·.2)=CM c)(k:Au->Int->Int->Option β):MQ l k=k c 0 0:=by
 have hs:=N0 h;refine Al1 ?_ ?_ h k
 ·have:=Aj List.length hl
  rw[Cf]at this;have:=hs.2;omega
 ·rw[hl];exact Al4 h
end
end Go.Lift
namespace Go.Lift
open Go.RowKit Go.IntWalk
noncomputable section
set_option maxRecDepth 10000
abbrev RZ(c:UInt8):Prop:=33<=c.toNat/\c.toNat<=126
theorem tK(f:Nat)(cur:List UInt8):Lib.fieldsGoD (f+1) cur []=if cur=[]then []else [cur]:=by rw[Lib.fieldsGoD,if_pos rfl]
theorem Sa(f:Nat)(cur l:List UInt8):Lib.fieldsGoD (f+1) cur (32::l)=(if cur=[]then []else [cur])++Lib.fieldsGoD f [] l:=by rw[Lib.fieldsGoD,if_neg (by simp),Lib.decodeL_ascii 32 l (by decide)];rw[if_pos (by decide)];rfl
theorem Al6(f:Nat)(cur l:List UInt8){c:UInt8}(h:RZ c):Lib.fieldsGoD (f+1) cur (c::l)=Lib.fieldsGoD f (cur++[c]) l:=by
 obtain⟨h1,h2⟩:=h;rw[Lib.fieldsGoD,if_neg (by simp),Lib.decodeL_ascii c l (by omega)]
 have:Lib.isSpaceR c.toNat=false:=by unfold Lib.isSpaceR;simp only[H5,Bool.and_eq_false_iff,Se,beq_eq_false_iff_ne];omega
 rw[if_neg (by simp[this])];rfl
theorem YK:∀(w cur l:List UInt8)(f:Nat),(∀c∈w,RZ c)->Lib.fieldsGoD (f+w.length) cur (w++l)=Lib.fieldsGoD f (cur++w) l
 |[],cur,l,f,_=>by simp
 |c::w,cur,l,f,h=>by rw[Aw,<-HA,Cw,Al6 _ _ _ (h c (by simp)),YK w (cur++[c]) l f λx hx=>h x (by simp[hx])];simp
theorem tL:∀{l:List UInt8},(∀c∈l,c≠35)->Lib.index l [35]=-1
 |[],_=>rfl
 |c::l,h=>by
  have h1:=tL (l:=l) λx hx=>h x (by simp[hx]);have h2:=h c (by simp);unfold Lib.index;rw[h1]
  have:List.isPrefixOf [35] (c::l)=false:=by simp[List.isPrefixOf];exact λe=>h2 e.symm
  rw[this];rfl
theorem Al7{l:List UInt8}(h:∀c∈l,c≠35):(Lib.cut l [35]).1=l:=by unfold Lib.cut;rw[tL h];rfl
inductive Wide:List UInt8->List UInt8->Prop
 |nil:Wide [] []
 |ch {c:UInt8} {s w:List UInt8}:Wide s w->Wide (c::s) (c::w)
 |sp {s w:List UInt8}:Wide s w->Wide (32::s) (32::32::32::w)
theorem Wide.refl:∀(s:List UInt8),Wide s s
 |[]=>.nil
 |c::s=>.ch (Wide.refl s)
theorem Wide.app:∀{a b wa wb:List UInt8},Wide a wa->Wide b wb->Wide (a++b) (wa++wb):=by
 intro a b wa wb h h2
 induction h with
 |nil=>exact h2
 |ch _ ih=>exact .ch ih
 |sp _ ih=>exact .sp ih
theorem Wide.split:∀{a b w:List UInt8},Wide (a++b) w->∃wa wb,w=wa++wb/\Wide a wa/\Wide b wb
 |[],b,w,h=>⟨[],w,rfl,.nil,h⟩
 |c::a,b,w,h=>by
  rw[Cw]at h;cases h with
  |ch h=>obtain⟨wa,wb,e,h1,h2⟩:=Wide.split h;exact⟨c::wa,wb,by rw[e];rfl,.ch h1,h2⟩
  |sp h=>obtain⟨wa,wb,e,h1,h2⟩:=Wide.split h;exact⟨32::32::32::wa,wb,by rw[e];rfl,.sp h1,h2⟩
theorem Wide.plain:∀{a w:List UInt8},Wide a w->(∀c∈a,c≠32)->w=a
 |[],w,h,_=>by cases h;rfl
 |c::a,w,h,hc=>by
  cases h with
  |ch h=>rw[Wide.plain h λx hx=>hc x (AU _ hx)]
  |sp h=>exact absurd rfl (hc 32 (Bu ..))
theorem Wide.mem:∀{a w:List UInt8},Wide a w->∀c∈w,c∈a:=by
 intro a w h
 induction h with
 |nil=>exact λc hc=>hc
 |ch _ ih=>
  intro x hx;rcases AH.1 hx with e|hx
  ·rw[e];exact Bu ..
  ·exact AU _ (ih x hx)
 |sp _ ih=>
  intro x hx;simp only[AH]at hx⊢;rcases hx with e|e|e|hx
  ·exact .inl e
  ·exact .inl e
  ·exact .inl e
  ·exact .inr (ih x hx)
theorem tM:∀(ws:List (List UInt8))(t cur:List UInt8)(f:Nat),Wide (Lib.joinTail [32] ws) t->(∀w∈ws,w≠[]/\∀c∈w,RZ c)->t.length<f->Lib.fieldsGoD f cur t=(if cur=[]then []else [cur])++ws
 |[],t,cur,f,h,_,hf=>by have h:Wide [] t:=h;cases h;obtain⟨f,rfl⟩:∃f',f=f'+1:=⟨f-1,by omega⟩;rw[tK];simp
 |w::ws,t,cur,f,h,hw,hf=>by
  have h1:=hw w (by simp)
  have e:Lib.joinTail [32] (w::ws)=32::(w++Lib.joinTail [32] ws):=by unfold Lib.joinTail;simp
  rw[e]at h
  have fin:∀{v:List UInt8}{g:Nat},Wide (w++Lib.joinTail [32] ws) v->v.length<g->Lib.fieldsGoD g [] v=w::ws:=by
   intro v g hv hg;obtain⟨wa,wb,e2,h2,h3⟩:=hv.split
   have h4:=h2.plain λc hc e=>by have:=h1.2 c hc;rw[e]at this;exact absurd this (by decide)
   subst h4;subst e2;rw[Av]at hg;obtain⟨f',rfl⟩:∃f',g=f'+wa.length:=⟨g-wa.length,by omega⟩;rw[YK wa [] _ f' h1.2,Cp,tM ws wb wa f' h3 (λx hx=>hw x (by simp[hx])) (by omega),if_neg h1.1];rfl
  cases h with
  |ch h=>rename_i v;obtain⟨f,rfl⟩:∃f',f=f'+1:=⟨f-1,by omega⟩;rw[Sa,fin h (by simp at hf;omega)]
  |sp h=>rename_i v;simp only[Aw]at hf;obtain⟨f,rfl⟩:∃f',f=f'+1+1+1:=⟨f-3,by omega⟩;rw[Sa,Sa,Sa,fin h (by omega)];simp
theorem Al8{ws:List (List UInt8)}{t:List UInt8}(h:Wide (Lib.join ws [32]) t)(hw:∀w∈ws,w≠[]/\∀c∈w,RZ c):Lib.fieldsD t=ws:=by
 unfold Lib.fieldsD;cases ws with
 |nil=>rw[Lib.join_nil]at h;cases h;rw[tK];rfl
 |cons w ws=>
  rw[Lib.join_cons]at h;obtain⟨wa,wb,e2,h2,h3⟩:=h.split;have h1:=hw w (by simp)
  have h4:=h2.plain λc hc e=>by have:=h1.2 c hc;rw[e]at this;exact absurd this (by decide)
  subst h4;subst e2;rw[Av,show wa.length+wb.length+1=(wb.length+1)+wa.length by omega,YK wa [] _ _ h1.2,Cp,tM ws wb wa _ h3 (λx hx=>hw x (by simp[hx])) (by omega),if_neg h1.1];rfl
end
end Go.Lift
namespace Go.Lift
open Go.RowKit Go.IntWalk
noncomputable section
set_option maxRecDepth 10000
section
variable{β:Type}
theorem Al9[S:Sl](k:Int->List Tok->Option β):I2 [] k=k 0 []:=by rcases S with⟨_|_⟩<;>kernel_rfl
theorem Ala[S:Sl](k:Int->List Tok->Option β):I2 [35,32,97,32,99,111,109,109,101,110,116] k=k 0 []:=by rcases S with⟨_|_⟩<;>kernel_rfl
end
variable[Sl]
theorem tN:∀{ws:List (List UInt8)}{c:UInt8},c∈Lib.joinTail [32] ws->c=32\/∃w∈ws,c∈w
 |[],c,h=>absurd h Cd
 |w::ws,c,h=>by
  have e:Lib.joinTail [32] (w::ws)=32::(w++Lib.joinTail [32] ws):=by unfold Lib.joinTail;simp
  rw[e]at h;rcases AH.1 h with h|h
  ·exact .inl h
  rcases Ba.1 h with h|h
  ·exact .inr ⟨w,Bu ..,h⟩
  ·rcases tN h with h|⟨v,hv,h⟩
   ·exact .inl h
   ·exact .inr ⟨v,AU _ hv,h⟩
theorem Alb{ws:List (List UInt8)}{c:UInt8}(h:c∈Lib.join ws [32]):c=32\/∃w∈ws,c∈w:=by
 cases ws with
 |nil=>rw[Lib.join_nil]at h;exact absurd h Cd
 |cons w ws=>
  rw[Lib.join_cons]at h;rcases Ba.1 h with h|h
  ·exact .inr ⟨w,Bu ..,h⟩
  ·rcases tN h with h|⟨v,hv,h⟩
   ·exact .inl h
   ·exact .inr ⟨v,AU _ hv,h⟩
theorem tO{ts:List Tok}(h:∀t∈ts,TokG t):∀c∈Dj ts,32<=c.toNat/\c.toNat<=126/\c.toNat≠35:=by
 intro c hc;rcases Alb hc with e|⟨w,hw,hc⟩
 ·rw[e];decide
 ·obtain⟨t,ht,rfl⟩:=CJ.1 hw
  have:=(h t ht).ch c hc;omega
theorem Wide.len{s w:List UInt8}(h:Wide s w):w.length<=s.length+2*s.count 32:=by
 induction h with
 |nil=>simp
 |@ch c s w h ih=>rw[Aw,Aw];have:s.count 32<=(c::s).count 32:=List.count_le_count_cons;omega
 |@sp s w h ih=>rw[List.count_cons_self];simp only[Aw];omega
theorem tP{w:List UInt8}(h:∀c∈w,c.toNat≠32):w.count 32=0:=by rw[List.count_eq_zero];intro g;exact absurd rfl (h 32 g)
theorem tQ:∀{ws:List (List UInt8)},(∀w∈ws,∀c∈w,c.toNat≠32)->(Lib.joinTail [32] ws).count 32=ws.length
 |[],_=>rfl
 |w::ws,h=>by
  have e:Lib.joinTail [32] (w::ws)=32::(w++Lib.joinTail [32] ws):=by unfold Lib.joinTail;simp
  rw[e,List.count_cons_self,List.count_append,tP (h w (Bu ..)),tQ λv hv=>h v (AU _ hv),Aw];omega
theorem Alc{ts:List Tok}(h:∀t∈ts,TokG t):(Dj ts).count 32<=ts.length:=by
 have hw:∀w∈ts.map txOf,∀c∈w,c.toNat≠32:=by intro w hw c hc;obtain⟨t,ht,rfl⟩:=CJ.1 hw;have:=(h t ht).ch c hc;omega
 unfold Dj;cases ts with
 |nil=>exact Ao _
 |cons t r=>rw[Bp]at hw⊢;rw[Lib.join_cons,List.count_append,tP (hw _ (Bu ..)),tQ λv hv=>hw v (AU _ hv),Cf,Aw];omega
theorem tR{ts:List Tok}(h:∀t∈ts,TokG t){w:List UInt8}(hw:Wide (Dj ts) w):w.length<=lw3 ts:=by have h1:=hw.len;have h2:=Alc h;have h3:=Ny h;unfold lw3;omega
section
variable{β:Type}
theorem Ald{text:List UInt8}(hl:text.length<=512)(h:∀c∈text,32<=c.toNat/\c.toNat<=126)(k1:Xg β)(k2:Xh β):QO k1 k2 text (text.length:Int) 0=k2 text:=by
 unfold QO;rw[Ab];refine(Hu (λm i=>MI m k1 k2 text (text.length:Int) i) (λ_=>true) (k1 2 []) (k2 text) 0 text fuel (AY (by omega)) (λm i hi=>?_) (λm=>?_)).trans ?_
 ·have hc:=h (text.getD i 0) (Cc hi)
  simp only[o9,QN,AE];refine(Ah (by omega)).trans ?_;refine(Ai (by omega)).trans ?_;refine(Ad (by omega)).trans ?_;refine(Ai (by omega)).trans ?_;refine(Ad (by omega)).trans ?_;rw[i64_in ((i:Int)+1) (by omega)];rfl
 ·simp only[o9,QN]
  exact Ad (by omega)
 ·have:(text.all λ_=>true)=true:=C1.2 λ_ _=>rfl
  rw[this];rfl
theorem Ale{ts:List Tok}(hl:ts.length<=512)(h:∀t∈ts,TokG t)(k1:Xj β)(k2:Xk β):QQ k1 k2 (ts.length:Int) 0 [] (ts.map txOf)=k2 ts:=by
 unfold QQ;rw[Ab];refine(E1 (λm i t=>MJ m k1 k2 (ts.length:Int) i t (ts.map txOf)) (λx=>[x]) (λt=>k2 t) (0,[],0) ts [] 1 (by omega) (λ_ _=>by simp) (λm i t hi ht=>?_) λm t=>?_).trans ?_
 ·simp only[Bw]at ht
  simp only[oA,QP];refine(Ah (by omega)).trans ?_;refine(Ai (by rw[Cf];omega)).trans ?_;simp only[AE,YH txOf hi _ ((0,[],0):Tok)];refine((h _ (Cc hi)).tok _).trans ?_;refine(Bm rfl).trans ?_;refine(Dh (show(t.length+1)*32<=_ by omega)).trans ?_;rw[i64_in ((i:Int)+1) (by omega)]
 ·simp only[oA,QP]
  exact Ad (by omega)
 ·rw[Cp,IA,List.map_id']
theorem Alf{ts:List Tok}(h:LineG ts){w:List UInt8}(hw:Wide (Dj ts) w)(k:Int->List Tok->Option β):I2 w k=k 0 ts:=by
 have hl:=tR h.toks hw;have hr:=h.room;have hf:=h.few;have hch:∀c∈w,32<=c.toNat/\c.toNat<=126/\c.toNat≠35:=λc hc=>tO h.toks c (hw.mem c hc);have hcut:(Lib.cut w [35]).1=w:=Al7 λc hc e=>(hch c hc).2.2 (by rw[e];rfl)
 have hfd:Lib.fieldsD w=ts.map txOf:=Al8 hw λv hv=>by obtain⟨t,ht,rfl⟩:=CJ.1 hv;exact⟨(h.toks t ht).ne,λc hc=>by have:=(h.toks t ht).ch c hc;exact⟨by omega,by omega⟩⟩
 unfold I2;rw[Ab];refine(Ad (by omega)).trans ?_;refine(Ald (by omega) (λc hc=>⟨(hch c hc).1,(hch c hc).2.1⟩) _ _).trans ?_;refine(Ah (show w.length<4294967281 by omega)).trans ?_;rw[hcut];refine(Ah (show w.length<4294967281 by omega)).trans ?_;rw[hfd];dsimp only;rw[Cf];exact Ale (by omega) h.toks _ _
abbrev Ln:=List UInt8×List Tok
structure FineW (p:Ln):Prop where
 line:∀{β:Type}(k:Int->List Tok->Option β),I2 p.1 k=k 0 p.2
 form:p.2=[]\/Da p.2
 nonl:∀c∈p.1,c≠10
def sts:Nat->List Ln->List Stm
 |_,[]=>[]
 |n,p::r=>(if p.2=[]then []else [((n:Int)+1,p.2)])++sts (n+1) r
theorem tS:∀(n:Nat)(ps:List Ln),(∀p∈ps,p.2≠[])->(sts n ps).map (·.2)=ps.map (·.2)
 |_,[],_=>rfl
 |n,p::ps,h=>by unfold sts;rw[if_neg (h p (Bu ..)),Gc,tS (n+1) ps λq hq=>h q (AU _ hq)];rfl
theorem YL:∀(n:Nat)(ps qs:List Ln),sts n (ps++qs)=sts n ps++sts (n+ps.length) qs
 |n,[],qs=>by simp[sts]
 |n,p::ps,qs=>by show(if p.2=[]then []else _)++sts (n+1) (ps++qs)=_;rw[YL (n+1) ps qs];show _=((if p.2=[]then []else _)++sts (n+1) ps)++_;rw[AW,Aw,show n+1+ps.length=n+(ps.length+1) by omega]
theorem Alg{α:Type}{xs:List α}{d:α}{i:Nat}{w:α}{r:List α}(h:xs.drop i=w::r):i<xs.length/\xs.getD i d=w/\xs.drop (i+1)=r:=by
 have hi:i<xs.length:=by
  rcases HD i xs.length with g|g
  ·exact g
  ·rw[IH g]at h;cases h
 rw[EY hi]at h;injection h with h1 h2;exact⟨hi,by simp[List.getD,hi,h1],h2⟩
theorem Alh{k1:oI β}{k2:oJ β}{i:Int}(hi:0<=i/\i<=1000){a b:Int}{l:List Stm}(hl:l.length<=1000){t:List Tok}{xs:List (List UInt8)}:Hs k1 k2 i 0 a b l t xs=k2 a b (l++(if t=[]then []else [(i+1,t)])) xs:=by
 unfold Hs;rw[Ab];unfold Xx;refine c_f.trans ?_;by_cases h:t=[]
 ·rw[if_pos h,CA]
  exact Ad (by rw[h];simp)
 ·rw[if_neg h]
  have:0<t.length:=H6.2 h;refine(Ah (by omega)).trans ?_;refine(Dh (show(l.length+1)*32<=_ by omega)).trans ?_;rw[i64_in (i+1) (by omega)]
theorem tT(k1:Xt β)(k2:Xu β){xs:List (List UInt8)}(hx:xs.length<=1000):∀(ps:List Ln)(i N:Nat)(acc:List Stm),(∀p∈ps,FineW p)->xs.drop i=ps.map (·.1)->acc.length<=i->Fo (N+ps.length) k1 k2 (xs.length:Int) (i:Int) acc xs=Fo N k1 k2 (xs.length:Int) ((i+ps.length:Nat):Int) (acc++sts i ps) xs
 |[],i,N,acc,_,_,_=>by simp[sts]
 |p::ps,i,N,acc,hf,hd,ha=>by
  have hp:=hf p (Bu ..);obtain⟨hi,hw,hd'⟩:=Alg (d:=[]) (w:=p.1) (r:=ps.map (·.1)) hd;have ih:=tT k1 k2 hx ps (i+1) N (acc++(if p.2=[]then []else [((i:Int)+1,p.2)])) (λq hq=>hf q (AU _ hq)) hd' (by rw[Av];split<;>simp<;>omega);have ew:IntKind.i64.wrap ((i:Int)+1)=(i:Int)+1:=i64_in _ (by omega)
  have last:Fo (N+ps.length) k1 k2 (xs.length:Int) ((i:Int)+1) (acc++(if p.2=[]then []else [((i:Int)+1,p.2)])) xs=Fo N k1 k2 (xs.length:Int) ((i+(ps.length+1):Nat):Int) (acc++sts i (p::ps)) xs:=by rw[show i+(ps.length+1)=i+1+ps.length by omega];show _=Fo N k1 k2 (xs.length:Int) ((i+1+ps.length:Nat):Int) (acc++((if p.2=[]then []else [((i:Int)+1,p.2)])++sts (i+1) ps)) xs;rw[<-AW];exact ih
  rw[Aw,show N+(ps.length+1)=(N+ps.length)+1 by omega,oL];unfold QW;refine(Ah (by omega)).trans ?_;refine(Ai (by omega)).trans ?_;dsimp only;rw[AE,hw];refine(hp.line _).trans ?_;refine c_t.trans ?_
  have one:Hs (λline e l2=>k1 line e l2) (λt142 t152 l2 t132=>Fo (N+ps.length) k1 k2 t142 (IntKind.i64.wrap (t152+(1:Int))) l2 t132) (i:Int) 0 (xs.length:Int) (i:Int) acc p.2 xs=Fo N k1 k2 (xs.length:Int) ((i+(ps.length+1):Nat):Int) (acc++sts i (p::ps)) xs:=by refine(Alh (by omega) (by omega)).trans ?_;rw[ew];exact last
  by_cases he:p.2=[]
  ·refine(Ad (by rw[he];simp)).trans ?_
   exact one
  ·have hl:0<p.2.length:=H6.2 he
   refine(Ah (by omega)).trans ?_;rcases hp.form with h0|h0
   ·exact absurd h0 he
   ·refine(h0 _).trans ?_
    refine c_f.trans ?_;exact one
theorem Ali{text:List UInt8}{qs:List Ln}(hq:∀q∈qs,FineW q)(hs:Fh text [10]=qs.map (·.1))(hl:text.length<=65536)(hn:qs.length<=1000)(k:Int->Int->List Stm->Option β):MM text k=k 0 0 (sts 0 qs):=by unfold MM;rw[Ab];unfold J1 Js;refine(Ad (by omega)).trans ?_;refine(c_p2 (by omega) (by simp)).trans ?_;rw[hs];have hlen:(qs.map (·.1)).length=qs.length:=Cf _;unfold Xy;rw[Ab];have h:=tT (λline e l=>k line e l) (λl=>k 0 0 l) (xs:=qs.map (·.1)) (by omega) qs 0 (fuel-qs.length) [] hq (by simp) (by simp);have hfu:fuel-qs.length+qs.length=fuel:=Nat.sub_add_cancel (Nat.le_of_lt (AY (by omega)));rw[hfu]at h;refine h.trans ?_;obtain⟨m,hm⟩:∃m,fuel-qs.length=m+1:=⟨fuel-qs.length-1,by have:=AY (n:=qs.length) (by omega);omega⟩;rw[hm,oL];unfold QW;refine(Ad (by rw[hlen];omega)).trans ?_;rfl
end
end
end Go.Lift
namespace Go.Lift
open Go.RowKit Go.IntWalk
noncomputable section
set_option maxRecDepth 10000
theorem Alj[S:Sl]{β:Type}(k:Bool->Option β):BP [] k=k false:=by rcases S with⟨_|_⟩<;>kernel_rfl
variable[Sl]
theorem LineG.ne{ts:List Tok}(h:LineG ts):ts≠[]:=by rintro rfl;have h1:=h.form λb=>some b;rw[Alj]at h1;cases h1
theorem Alk{ts:List Tok}(h:LineG ts){w:List UInt8}(hw:Wide (Dj ts) w):FineW (w,ts):=
 ⟨λk=>Alf h hw k,.inr h.form,λc hc e=>by have:=tO h.toks c (hw.mem c hc);rw[e]at this;exact absurd this.1 (by decide)⟩
def DL(ps:List Ln):List UInt8:=ps.flatMap λp=>p.1++[10]
theorem tU(p:Ln)(ps:List Ln):DL (p::ps)=p.1++10::DL ps:=by simp[DL]
theorem tV:∀{ls:List (List Tok)}{w:List UInt8},(∀ts∈ls,LineG ts)->Wide (CN ls) w->∃ps:List Ln,ps.map (·.2)=ls/\w=DL ps/\∀p∈ps,FineW p
 |[],w,_,hw=>by have hw:Wide [] w:=hw;cases hw;exact⟨[],rfl,rfl,λp hp=>absurd hp Cd⟩
 |ts::ls,w,h,hw=>by
  have e:CN (ts::ls)=Dj ts++([10]++CN ls):=by simp[CN]
  rw[e]at hw;obtain⟨wa,wb,e1,h1,h2⟩:=hw.split;obtain⟨wc,wd,e2,h3,h4⟩:=h2.split;have h5:=h3.plain (by decide);obtain⟨ps,g1,g2,g3⟩:=tV (λx hx=>h x (AU _ hx)) h4;refine⟨(wa,ts)::ps,by rw[Bp,g1],?_,Ko.2 ⟨Alk (h ts (Bu ..)) h1,g3⟩⟩;rw[e1,e2,h5,tU,g2];rfl
theorem tW:∀{ps:List Ln},(∀p∈ps,FineW p)->Fh (DL ps) [10]=(ps++[(([],[]):Ln)]).map (·.1)
 |[],_=>Y4 λc hc=>absurd hc Cd
 |p::ps,h=>by rw[tU,RV _ (h p (Bu ..)).nonl,tW λq hq=>h q (AU _ hq)];rfl
theorem tX:FineW ([],[]):=⟨λk=>Al9 k,.inl rfl,λc hc=>absurd hc Cd⟩
theorem All:FineW ([35,32,97,32,99,111,109,109,101,110,116],[]):=⟨λk=>Ala k,.inl rfl,by decide⟩
def preL:List Ln:=[([35,32,97,32,99,111,109,109,101,110,116],[]),([],[])]
theorem Alm:∀p∈preL,FineW p:=Ko.2 ⟨All,Ko.2 ⟨tX,λp hp=>absurd hp Cd⟩⟩
theorem YM:∀(n:Nat)(ps:List Ln),(∀p∈ps,p.2=[])->sts n ps=[]
 |_,[],_=>rfl
 |n,p::ps,h=>by unfold sts;rw[if_pos (h p (Bu ..)),YM (n+1) ps λq hq=>h q (AU _ hq)];rfl
section
variable{β:Type}
theorem Aln{pre:List Ln}(hp:∀p∈pre,FineW p)(hp2:∀p∈pre,p.2=[]){ls:List (List Tok)}(h:∀ts∈ls,LineG ts){w:List UInt8}(hw:Wide (CN ls) w)(hl:(DL pre++w).length<=65536)(hn:pre.length+ls.length<=900):∃l:List Stm,l.map (·.2)=ls/\∀(β:Type)(k:Int->Int->List Stm->Option β),MM (DL pre++w) k=k 0 0 l:=by
 obtain⟨ps,g1,g2,g3⟩:=tV h hw;have hlen:ps.length=ls.length:=by rw[<-g1,Cf]
 have hall:∀p∈pre++ps,FineW p:=λp hp'=>by
  rcases Ba.1 hp' with h'|h'
  ·exact hp p h'
  ·exact g3 p h'
 have hs:Fh (DL pre++w) [10]=((pre++ps)++[(([],[]):Ln)]).map (·.1):=by rw[g2,show DL pre++DL ps=DL (pre++ps) by simp[DL]];exact tW hall
 have hne:∀p∈ps,p.2≠[]:=λp hp' e=>by
  have:p.2∈ls:=by rw[<-g1];exact Kp hp'
  exact(h _ this).ne e
 refine⟨sts 0 ((pre++ps)++[(([],[]):Ln)]),?_,λβ k=>Ali (λq hq=>?_) hs hl (by simp;omega) k⟩
 ·rw[YL,YL,YM 0 pre hp2,YM _ [(([],[]):Ln)] (by simp),CA,Cp,tS _ ps hne,g1]
 ·rcases Ba.1 hq with h'|h'
  ·exact hall q h'
  ·rw[Cv.1 h'];exact tX
theorem tY{ls:List (List Tok)}(h:∀ts∈ls,LineG ts):∀{w:List UInt8},Wide (CN ls) w->w.length<=(ls.map λts=>lw3 ts+1).sum:=by
 induction ls with
 |nil=>intro w hw;have hw:Wide [] w:=hw;cases hw;simp
 |cons ts ls ih=>
  intro w hw;have e:CN (ts::ls)=Dj ts++([10]++CN ls):=by simp[CN]
  rw[e]at hw;obtain⟨wa,wb,e1,h1,h2⟩:=hw.split;obtain⟨wc,wd,e2,h3,h4⟩:=h2.split;have h5:=h3.plain (by decide);have h6:=ih (λx hx=>h x (AU _ hx)) h4;have h7:=tR (h ts (Bu ..)).toks h1;rw[e1,e2,h5,Bp,HB];simp only[Av,CO];omega
theorem Alo{c:Au}(h:ConfOk c){pre:List Ln}(hp:∀p∈pre,FineW p)(hp2:∀p∈pre,p.2=[])(hpl:(DL pre).length<=100)(hpn:pre.length<=10){w:List UInt8}(hw:Wide (CN (CM c)) w)(k:Au->Int->Int->Option β):Ry (DL pre++w) k=k c 0 0:=by
 have hs:=N0 h
 have hn:(CM c).length<=800:=by have l1:c.1.length<=2:=h.oz.1.1;have l2:c.2.1.length<=8:=h.op.1.1;have l4:c.2.2.2.length<=3:=h.os.1.1;have l3:c.2.2.1.length<=1:=h.oc.1.1;have z1:=E3 (f:=DJ) λy(hy:y∈c.1)=>RR (h.oz.2 y hy).1;have z2:=E3 (f:=DK c.1) λy(hy:y∈c.2.1)=>RT (IC h y hy);have z3:=E3 (f:=Eh c.1) λy(hy:y∈c.2.2.1)=>RU;have z4:=E3 (f:=ET c.1 c.2.1 c.2.2.1) λy(hy:y∈c.2.2.2)=>Y1 (Nr h y hy);unfold CM;rw[Av,Av,Av];omega
 have hwl:=tY hs.1.g hw;have hsn:=hs.1.n;obtain⟨l,h1,h2⟩:=Aln hp hp2 hs.1.g hw (by rw[Av];omega) (by omega);unfold Ry;rw[Ab];refine(h2 _ _).trans ?_;refine(Bm rfl).trans ?_;exact Al5 h h1 _
end
end
end Go.Lift
namespace Go.Lift
open Go.RowKit Go.IntWalk
noncomputable section
variable[Sl]
set_option maxRecDepth 10000
abbrev LB(n:Nat):Prop:=n<=9223372036854775807
structure SmallL (l:AD):Prop where
 m:LB l.2.2.2.2.2.1.length
 w:LB l.2.2.2.2.2.2.1.length
structure SmallS (s:AK):Prop where
 l:LB s.2.1.length
 e:LB s.2.2.length
 ls:∀x∈s.2.1,SmallL x
structure SmallC (c:Au):Prop where
 lz:LB c.1.length
 lp:LB c.2.1.length
 lc:LB c.2.2.1.length
 ls:LB c.2.2.2.length
 zs:∀x∈c.1,LB x.2.2.length
 ps:∀x∈c.2.1,LB x.2.2.1.length
 cs:∀x∈c.2.2.1,LB x.2.2.length
 ss:∀x∈c.2.2.2,SmallS x
theorem N1{α:Type}{xs:List α}{i:Nat}{d:α}(h:i<xs.length):xs.getD i d∈xs:=by rw[ID,Bx h];exact Sn h
def eqD{α:Type}(a b:α):Bool:=@decide (a=b) (Classical.propDecidable _)
theorem CI{α:Type}{a b:α}:eqD a b=true↔a=b:=by unfold eqD;exact@decide_eq_true_iff (a=b) (Classical.propDecidable _)
theorem Alp{α:Type}[DecidableEq α](a b:α):decide (a=b)=eqD a b:=by rw[Fb,CI,EZ]
theorem Alq{α:Type}{a b:List α}(d:α)(h:a.length=b.length):((List.range a.length).all λi=>eqD (a.getD i d) (b.getD i d))=eqD a b:=by
 rw[Fb,C1,CI];constructor
 ·intro g
  refine List.ext_getElem h λi h1 h2=>?_;have:=CI.1 (g i (Kt.2 h1));simpa [List.getD,h1,h2]using this
 ·intro g i _
  rw[g];exact CI.2 rfl
section
variable{β:Type}
theorem GJ{α:Type}(F:Nat->Int->Option β)(E K:Option β)(d:α){a b:List α}(hl:a.length=b.length)(n:Nat)(hn:a.length<n)(h1:∀(m i:Nat),i<a.length->F (m+1) (i:Int)=cond (eqD (a.getD i d) (b.getD i d)) (F m ((i:Int)+1)) E)(h2:∀(m:Nat),F (m+1) (a.length:Int)=K):F n 0=cond (eqD a b) K E:=by
 rw[<-Alq d hl];refine Hu F (λi=>eqD (a.getD i d) (b.getD i d)) E K 0 (List.range a.length) n (by simpa using hn) (λm i hi=>?_) (λm=>?_)
 ·have hi:i<a.length:=by simpa using hi
  rw[show(List.range a.length).getD i 0=i by simp[List.getD,hi]];exact h1 m i hi
 ·rw[List.length_range];exact h2 m
theorem GK{α:Type}{a b:List α}(h:¬(a.length:Int)=(b.length:Int)):eqD a b=false:=by rw[Bool.eq_false_iff];intro e;exact h (by rw[CI.1 e])
theorem ch_p{p:Prop}[Decidable p]{R:Bool}{k:Bool->Option β}{X:Option β}(h:p->X=k R):cond (decide p) X (k false)=k (decide p&&R):=by
 by_cases g:p
 ·rw[Aq g,h g];rfl
 ·rw[AB g];rfl
theorem ch_b{c:Bool}{R:Bool}{k:Bool->Option β}{X:Option β}(h:X=k R):cond c X (k false)=k (c&&R):=by rw[h];cases c<;>rfl
theorem tZ(e f:Int×Int):(decide (e.1=f.1)&&(decide (e.2=f.2)&&true))=eqD e f:=by rw[Fb,CI];simp[GW]
theorem Alr(e f:Bd):(decide (e.1=f.1)&&(decide (e.2.1=f.2.1)&&(decide (e.2.2.1=f.2.2.1)&&(decide (e.2.2.2.1=f.2.2.2.1)&&(decide (e.2.2.2.2.1=f.2.2.2.2.1)&&(decide (e.2.2.2.2.2.1=f.2.2.2.2.2.1)&&(decide (e.2.2.2.2.2.2=f.2.2.2.2.2.2)&&true)))))))=eqD e f:=by rw[Fb,CI];simp[GW]
theorem Als(e f:Int×(Int×(Int×(Int×Int)))):(decide (e.1=f.1)&&(decide (e.2.1=f.2.1)&&(decide (e.2.2.1=f.2.2.1)&&(decide (e.2.2.2.1=f.2.2.2.1)&&(decide (e.2.2.2.2=f.2.2.2.2)&&true)))))=eqD e f:=by rw[Fb,CI];simp[GW]
theorem eqb(a b:Bool):(a==b)=decide (a=b):=by cases a<;>cases b<;>rfl
end
end
end Go.Lift
namespace Go.Lift
open Go.RowKit Go.IntWalk
noncomputable section
variable[Sl]
set_option maxRecDepth 10000
section
variable{β:Type}
theorem Alt{a b:List Bd}(ha:LB a.length)(k:Bool->Option β):OQ a b k=k (eqD a b):=by
 unfold OQ;rw[Ab];by_cases h:(a.length:Int)=(b.length:Int)
 ·refine(Bm h).trans ?_
  unfold Uy;rw[Ab];refine(GJ (a:=a) (b:=b) (λm i=>Lw m (λt=>k t) (λ_=>k true) a b (a.length:Int) i) (k false) (k true) (0,0,0,0,0,0,0) (by omega) fuel (AY (by omega)) (λm i hi=>?_) (λm=>?_)).trans (by cases eqD a b<;>rfl)
  ·simp only[dZ,OP]
   refine(Ah (by omega)).trans ?_;refine(Ai (by omega)).trans ?_;refine(Ai (by omega)).trans ?_;rw[AE,i64_in ((i:Int)+1) (by omega),Alr];cases eqD (a.getD i (0,0,0,0,0,0,0)) (b.getD i (0,0,0,0,0,0,0))<;>rfl
  ·simp only[dZ,OP]
   exact Ad (by omega)
 ·refine(CL h).trans ?_
  rw[GK h]
theorem u6{a b:List (Int×Int)}(ha:LB a.length)(k:Bool->Option β):Ly a b k=k (eqD a b):=by
 unfold Ly;rw[Ab];by_cases h:(a.length:Int)=(b.length:Int)
 ·refine(Bm h).trans ?_
  unfold U0;rw[Ab];refine(GJ (a:=a) (b:=b) (λm i=>Lx m (λt=>k t) (λ_=>k true) a b (a.length:Int) i) (k false) (k true) (0,0) (by omega) fuel (AY (by omega)) (λm i hi=>?_) (λm=>?_)).trans (by cases eqD a b<;>rfl)
  ·simp only[eF,OR]
   refine(Ah (by omega)).trans ?_;refine(Ai (by omega)).trans ?_;refine(Ai (by omega)).trans ?_;rw[AE,i64_in ((i:Int)+1) (by omega),tZ];cases eqD (a.getD i (0,0)) (b.getD i (0,0))<;>rfl
  ·simp only[eF,OR]
   exact Ad (by omega)
 ·refine(CL h).trans ?_
  rw[GK h]
theorem u7{a b:List Int}(ha:LB a.length)(k:Bool->Option β):L0 a b k=k (eqD a b):=by
 unfold L0;rw[Ab];by_cases h:(a.length:Int)=(b.length:Int)
 ·refine(Bm h).trans ?_
  unfold U2;rw[Ab];refine(GJ (a:=a) (b:=b) (λm i=>Lz m (λt=>k t) (λ_=>k true) a b (a.length:Int) i) (k false) (k true) 0 (by omega) fuel (AY (by omega)) (λm i hi=>?_) (λm=>?_)).trans (by cases eqD a b<;>rfl)
  ·simp only[eK,OS]
   refine(Ah (by omega)).trans ?_;refine(Ai (by omega)).trans ?_;refine(Ai (by omega)).trans ?_;rw[AE,i64_in ((i:Int)+1) (by omega),Alp];cases eqD (a.getD i 0) (b.getD i 0)<;>rfl
  ·simp only[eK,OS]
   exact Ad (by omega)
 ·refine(CL h).trans ?_
  rw[GK h]
theorem Alu{a b:List (Int×(Int×(Int×(Int×Int))))}(ha:LB a.length)(k:Bool->Option β):OW a b k=k (eqD a b):=by
 unfold OW;rw[Ab];by_cases h:(a.length:Int)=(b.length:Int)
 ·refine(Bm h).trans ?_
  unfold U4;rw[Ab];refine(GJ (a:=a) (b:=b) (λm i=>L1 m (λt=>k t) (λ_=>k true) a b (a.length:Int) i) (k false) (k true) (0,0,0,0,0) (by omega) fuel (AY (by omega)) (λm i hi=>?_) (λm=>?_)).trans (by cases eqD a b<;>rfl)
  ·simp only[eP,OV]
   refine(Ah (by omega)).trans ?_;refine(Ai (by omega)).trans ?_;refine(Ai (by omega)).trans ?_;rw[AE,i64_in ((i:Int)+1) (by omega),Als];cases eqD (a.getD i (0,0,0,0,0)) (b.getD i (0,0,0,0,0))<;>rfl
  ·simp only[eP,OV]
   exact Ad (by omega)
 ·refine(CL h).trans ?_
  rw[GK h]
theorem Alv{a b:At}(ha:LB a.2.2.length)(k:Bool->Option β):Pm a b k=k (eqD a b):=by unfold Pm;rw[Ab];refine(ch_p λ_=>ch_p λ_=>Alt ha _).trans (k_eq ?_);rw[Fb,CI];simp[GW,CI]
theorem Alw{a b:Ay}(ha:LB a.2.2.1.length)(k:Bool->Option β):Pn a b k=k (eqD a b):=by unfold Pn;rw[Ab];refine(ch_p λ_=>ch_p λ_=>(u6 ha _).trans (ch_b (ch_p λ_=>ch_p λ_=>k_eq (y:=a.2.2.2.2.2==b.2.2.2.2.2) rfl))).trans (k_eq ?_);rw[Fb,CI,eqb];simp[GW,CI]
theorem Alx{a b:AF}(ha:LB a.2.2.length)(k:Bool->Option β):Po a b k=k (eqD a b):=by unfold Po;rw[Ab];refine(ch_p λ_=>ch_p λ_=>u7 ha _).trans (k_eq ?_);rw[Fb,CI];simp[GW,CI]
theorem Aly{a b:AD}(ha:SmallL a)(k:Bool->Option β):OU a b k=k (eqD a b):=by
 unfold OU;rw[Ab];refine(ch_p λh1=>ch_p λh2=>ch_b (ch_p λh4=>ch_p λh5=>(u7 ha.m _).trans (ch_b ((u6 ha.w _).trans (ch_b (ch_p λh8=>k_eq (y:=decide (a.2.2.2.2.2.2.2.2=b.2.2.2.2.2.2.2.2)) rfl)))))).trans (k_eq ?_);rw[Fb,CI,tZ];simp only[Bv,EZ,CI];constructor
 ·rintro⟨r1,r2,r3,r4,r5,r6,r7,r8,r9⟩
  exact F5 r1 (F5 r2 (F5 r3 (F5 r4 (F5 r5 (F5 r6 (F5 r7 (F5 r8 r9)))))))
 ·intro r
  subst r;exact⟨rfl,rfl,rfl,rfl,rfl,rfl,rfl,rfl,rfl⟩
theorem Alz{a b:List AD}(ha:LB a.length)(hs:∀x∈a,SmallL x)(k:Bool->Option β):PA a b k=k (eqD a b):=by
 unfold PA;rw[Ab];by_cases h:(a.length:Int)=(b.length:Int)
 ·refine(Bm h).trans ?_
  unfold Vy;rw[Ab];refine(GJ (a:=a) (b:=b) (λm i=>LW m (λt=>k t) (λ_=>k true) b a (a.length:Int) i) (k false) (k true) CW (by omega) fuel (AY (by omega)) (λm i hi=>?_) (λm=>?_)).trans (by cases eqD a b<;>rfl)
  ·simp only[jV,P9]
   refine(Ah (by omega)).trans ?_;refine(Ai (by omega)).trans ?_;refine(Ai (by omega)).trans ?_;rw[AE,i64_in ((i:Int)+1) (by omega)];refine(Aly (hs _ (N1 (d:=CW) hi)) _).trans ?_;show cond (!eqD (a.getD i CW) (b.getD i CW)) _ _=_;cases eqD (a.getD i CW) (b.getD i CW)<;>rfl
  ·simp only[jV,P9]
   exact Ad (by omega)
 ·refine(CL h).trans ?_
  rw[GK h]
theorem AlA{a b:AK}(ha:SmallS a)(k:Bool->Option β):PT a b k=k (eqD a b):=by unfold PT;rw[Ab];refine(ch_p λ_=>(Alz ha.l ha.ls _).trans (ch_b (Alu ha.e _))).trans (k_eq ?_);rw[Fb,CI];simp[GW,CI]
theorem AlB{a b:List At}(ha:LB a.length)(hs:∀x∈a,(λx:At=>LB x.2.2.length) x)(k:Bool->Option β):P7 a b k=k (eqD a b):=by
 unfold P7;rw[Ab];by_cases h:(a.length:Int)=(b.length:Int)
 ·refine(Bm h).trans ?_
  unfold Vv;rw[Ab];refine(GJ (a:=a) (b:=b) (λm i=>LV m (λt=>k t) (λ_=>k true) b a (a.length:Int) i) (k false) (k true) FI (by omega) fuel (AY (by omega)) (λm i hi=>?_) (λm=>?_)).trans (by cases eqD a b<;>rfl)
  ·simp only[jJ,P6]
   refine(Ah (by omega)).trans ?_;refine(Ai (by omega)).trans ?_;refine(Ai (by omega)).trans ?_;rw[AE,i64_in ((i:Int)+1) (by omega)];refine(Alv (hs _ (N1 (d:=FI) hi)) _).trans ?_;show cond (!eqD (a.getD i FI) (b.getD i FI)) _ _=_;cases eqD (a.getD i FI) (b.getD i FI)<;>rfl
  ·simp only[jJ,P6]
   exact Ad (by omega)
 ·refine(CL h).trans ?_
  rw[GK h]
theorem AlC{a b:List Ay}(ha:LB a.length)(hs:∀x∈a,(λx:Ay=>LB x.2.2.1.length) x)(k:Bool->Option β):Qo a b k=k (eqD a b):=by
 unfold Qo;rw[Ab];by_cases h:(a.length:Int)=(b.length:Int)
 ·refine(Bm h).trans ?_
  unfold Ww;rw[Ab];refine(GJ (a:=a) (b:=b) (λm i=>M1 m (λt=>k t) (λ_=>k true) b a (a.length:Int) i) (k false) (k true) Jt (by omega) fuel (AY (by omega)) (λm i hi=>?_) (λm=>?_)).trans (by cases eqD a b<;>rfl)
  ·simp only[m5,Qn]
   refine(Ah (by omega)).trans ?_;refine(Ai (by omega)).trans ?_;refine(Ai (by omega)).trans ?_;rw[AE,i64_in ((i:Int)+1) (by omega)];refine(Alw (hs _ (N1 (d:=Jt) hi)) _).trans ?_;show cond (!eqD (a.getD i Jt) (b.getD i Jt)) _ _=_;cases eqD (a.getD i Jt) (b.getD i Jt)<;>rfl
  ·simp only[m5,Qn]
   exact Ad (by omega)
 ·refine(CL h).trans ?_
  rw[GK h]
theorem AlD{a b:List AF}(ha:LB a.length)(hs:∀x∈a,(λx:AF=>LB x.2.2.length) x)(k:Bool->Option β):QB a b k=k (eqD a b):=by
 unfold QB;rw[Ab];by_cases h:(a.length:Int)=(b.length:Int)
 ·refine(Bm h).trans ?_
  unfold WQ;rw[Ab];refine(GJ (a:=a) (b:=b) (λm i=>MB m (λt=>k t) (λ_=>k true) b a (a.length:Int) i) (k false) (k true) Gv (by omega) fuel (AY (by omega)) (λm i hi=>?_) (λm=>?_)).trans (by cases eqD a b<;>rfl)
  ·simp only[n9,QA]
   refine(Ah (by omega)).trans ?_;refine(Ai (by omega)).trans ?_;refine(Ai (by omega)).trans ?_;rw[AE,i64_in ((i:Int)+1) (by omega)];refine(Alx (hs _ (N1 (d:=Gv) hi)) _).trans ?_;show cond (!eqD (a.getD i Gv) (b.getD i Gv)) _ _=_;cases eqD (a.getD i Gv) (b.getD i Gv)<;>rfl
  ·simp only[n9,QA]
   exact Ad (by omega)
 ·refine(CL h).trans ?_
  rw[GK h]
theorem AlE{a b:List AK}(ha:LB a.length)(hs:∀x∈a,SmallS x)(k:Bool->Option β):QT a b k=k (eqD a b):=by
 unfold QT;rw[Ab];by_cases h:(a.length:Int)=(b.length:Int)
 ·refine(Bm h).trans ?_
  unfold Xr;rw[Ab];refine(GJ (a:=a) (b:=b) (λm i=>ML m (λt=>k t) (λ_=>k true) b a (a.length:Int) i) (k false) (k true) EK (by omega) fuel (AY (by omega)) (λm i hi=>?_) (λm=>?_)).trans (by cases eqD a b<;>rfl)
  ·simp only[oH,QS]
   refine(Ah (by omega)).trans ?_;refine(Ai (by omega)).trans ?_;refine(Ai (by omega)).trans ?_;rw[AE,i64_in ((i:Int)+1) (by omega)];refine(AlA (hs _ (N1 (d:=EK) hi)) _).trans ?_;show cond (!eqD (a.getD i EK) (b.getD i EK)) _ _=_;cases eqD (a.getD i EK) (b.getD i EK)<;>rfl
  ·simp only[oH,QS]
   exact Ad (by omega)
 ·refine(CL h).trans ?_
  rw[GK h]
theorem AlF{a b:Au}(ha:SmallC a)(k:Bool->Option β):QU a b k=k (eqD a b):=by unfold QU;rw[Ab];refine((AlB ha.lz ha.zs _).trans (ch_b ((AlC ha.lp ha.ps _).trans (ch_b ((AlD ha.lc ha.cs _).trans (ch_b (AlE ha.ls ha.ss _))))))).trans (k_eq ?_);rw[Fb,CI];simp[GW,CI]
end
end
end Go.Lift
namespace Go.Lift
open Go.RowKit Go.IntWalk
noncomputable section
variable[Sl]
set_option maxRecDepth 10000
structure DiceC (c:Au):Prop where
 sm:SmallC c
 dz:1<=c.1.length/\c.1.length<=8
 dp:1<=c.2.1.length/\c.2.1.length<=8
 dc:c.2.2.1.length<=8
 ds:1<=c.2.2.2.length/\c.2.2.2.length<=8
 e:∀x∈c.2.2.2,x.2.2.length<=1000
 l:∀x∈c.2.2.2,x.2.1.length<=1000
section
variable{β:Type}{G:Option β->Prop}
theorem uA{l:List (Int×Int)}(h:Cs l=0):l.length<=14:=by
 unfold Cs at h;by_cases g:(14:Int)<(l.length:Int)
 ·rw[Aq g]at h;cases h
 ·omega
theorem AlG{nz np nc:Int}{l:AD}(h:CG nz np nc l=0):SmallL l:=by
 unfold CG at h;cases h1:ixI l.2.1 nz with
 |false=>rw[h1]at h;cases h
 |true=>
  rw[h1]at h;simp only[GT,AT]at h;unfold l2V at h;generalize(decide (l.2.2.1.1<1)||((!dayI l.2.2.1.1)||((!inI l.2.2.1.2 0 86399)||((!inI l.2.2.2.1 0 2)||!inI l.2.2.2.2.1 1 400))))=b at h;cases b with
  |true=>cases h
  |false=>
   simp only[AT]at h;by_cases h2:(l.2.2.2.2.2.1.length:Int)=0
   ·rw[Aq h2]at h;cases h
   rw[AB h2]at h;by_cases h3:(12:Int)<(l.2.2.2.2.2.1.length:Int)
   ·rw[Aq h3]at h;cases h
   rw[AB h3]at h;simp only[AT]at h;cases h4:l.2.2.2.2.2.1.all λm=>ixI m np with
   |false=>rw[h4]at h;cases h
   |true=>
    rw[h4]at h;simp only[GT,AT]at h;by_cases h5:Cs l.2.2.2.2.2.2.1=0
    ·have:=uA h5
     exact⟨by show l.2.2.2.2.2.1.length<=_;omega,by show l.2.2.2.2.2.2.1.length<=_;omega⟩
    ·rw[AB h5]at h;cases h
theorem YN{nz np nc:Int}{s:AK}(h:DH nz np nc s=0):s.2.1.length<=6/\s.2.2.length<=48:=by
 unfold DH at h;by_cases h1:(6:Int)<(s.2.1.length:Int)
 ·rw[Aq h1]at h;cases h
 rw[AB h1]at h;by_cases h2:(48:Int)<(s.2.2.length:Int)
 ·rw[Aq h2]at h;cases h
 omega
end
end
end Go.Lift
namespace Go.Lift
open Go.RowKit Go.IntWalk
noncomputable section
variable[Sl]
set_option maxRecDepth 10000
theorem uB{α:Type}{of:α->List UInt8}{chk:α->Int}:∀{xs:List α}{j:Nat}{l:List (List UInt8)},errV (walk (D4 of chk) xs j l)=0->∀x∈xs,chk x=0
 |[],_,_,_=>λx hx=>absurd hx Cd
 |y::xs,j,l,h=>by
  unfold walk D4 at h;by_cases h1:Cr (of y) l=0
  ·rw[Aq h1]at h
   by_cases h2:chk y=0
   ·rw[Aq h2]at h
    intro x hx;rcases AH.1 hx with e|hx
    ·rw[e];exact h2
    ·exact uB h x hx
   ·rw[AB h2]at h
    exact absurd h h2
  ·rw[AB h1]at h
   exact absurd h h1
theorem AlH{c:Au}(h:ConfOk c)(h1:1<=c.1.length/\1<=c.2.1.length/\1<=c.2.2.2.length):DiceC c:=by
 have e1:zNames.length=2:=rfl;have e2:pNames.length=8:=rfl;have e3:cNames.length=1:=rfl;have e4:sNames.length=3:=rfl;have l1:=h.oz.1.1;have l2:=h.op.1.1;have l3:=h.oc.1.1;have l4:=h.os.1.1
 have hq:∀x∈c.2.1,x.2.2.1.length<=14:=by
  intro x hx;have:=h.op.2 x hx;unfold Ez at this;cases g1:ixI x.2.1 (c.1.length:Int)with
  |false=>rw[g1]at this;cases this
  |true=>
   rw[g1]at this;simp only[GT,AT]at this;by_cases g2:Cs x.2.2.1=0
   ·exact uA g2
   ·rw[AB g2]at this;cases this
 have hd:∀x∈c.2.2.1,x.2.2.length<=64:=by
  intro x hx;have:=(h.oc.2 x hx).1;unfold calV at this;cases g1:ixI x.2.1 (c.1.length:Int)with
  |false=>rw[g1]at this;cases this
  |true=>
   rw[g1]at this;simp only[GT,AT]at this;by_cases g2:(64:Int)<(x.2.2.length:Int)
   ·rw[Aq g2]at this;cases this
   ·omega
 have hs:∀x∈c.2.2.2,SmallS x:=by
  intro x hx;have hv:=(h.os.2 x hx).1;have hl:=YN hv;refine⟨by show x.2.1.length<=_;omega,by show x.2.2.length<=_;omega,λl hl'=>?_⟩;unfold DH at hv;rw[AB (by omega),AB (by omega)]at hv;simp only[AT]at hv;by_cases g:Dv (·.1) (CG (c.1.length:Int) (c.2.1.length:Int) (c.2.2.1.length:Int)) x.2.1=0
  ·exact AlG (uB g l hl')
  ·rw[AB g]at hv
   exact absurd hv g
 refine⟨⟨?_,?_,?_,?_,λx hx=>?_,λx hx=>?_,λx hx=>?_,hs⟩,by omega,by omega,by omega,by omega,λx hx=>?_,λx hx=>?_⟩
 ·show c.1.length<=_;omega
 ·show c.2.1.length<=_;omega
 ·show c.2.2.1.length<=_;omega
 ·show c.2.2.2.length<=_;omega
 ·have:=(h.oz.2 x hx).1.l
  show x.2.2.length<=_;omega
 ·have:=hq x hx
  show x.2.2.1.length<=_;omega
 ·have:=hd x hx
  show x.2.2.length<=_;omega
 ·have:=YN (h.os.2 x hx).1;omega
 ·have:=YN (h.os.2 x hx).1;omega
section
variable{β:Type}{G:Option β->Prop}
def YO[Sl]:Prop:=∀{β:Type}(k:Bool->Option β),R0 k=k true
end
end
end Go.Lift
namespace Go.Lift
noncomputable section
set_option maxRecDepth 100000
theorem AlI:@YO ⟨0⟩:=λk=>by kernel_rfl
end
end Go.Lift
namespace Go.Lift
open Go.RowKit Go.IntWalk
noncomputable section
variable[Sl]
set_option maxRecDepth 10000
theorem uC:∀(n:Nat)(ls:List (List Tok))(i:Nat),i<ls.length->(numb n ls).getD i (0,[])=(((n+i:Nat):Int)+1,ls.getD i [])
 |_,[],i,h=>absurd h (H9 _)
 |n,t::r,0,h=>rfl
 |n,t::r,i+1,h=>by have:=uC (n+1) r i (by simpa using h);rw[show n+1+i=n+(i+1) by omega]at this;exact this
theorem Wide.len3:∀{a w:List UInt8},Wide a w->w.length<=3*a.length:=by
 intro a w h
 induction h with
 |nil=>simp
 |ch _ ih=>simp only[Aw];omega
 |sp _ ih=>simp only[Aw];omega
theorem AlJ(p r:List UInt8)(x:UInt8):List.drop p.length (List.take (p.length+1) (p++x::r))=[x]:=by rw[Kr,Ks];simp
section
variable{β:Type}
theorem AlK{c:Au}(h:ConfOk c)(hs:SL (CM c) 60000/\(CM c).length<=1000){k1:XY β}{k2:XZ β}(s:List UInt8)(d:Dice):R2 k1 k2 (numb 0 (CM c)) s ((numb 0 (CM c)).length:Int) 0 d c=k2 s d c:=by
 have hl:=hs.2;have hg:=hs.1.g;generalize CM c=ls at hl hg;rw[I8];unfold R2;rw[Ab];refine(Hu (λm i=>Na m k1 k2 (numb 0 ls) s (ls.length:Int) i d c) (λ_=>true) (k1 false) (k2 s d c) [] ls fuel (AY (by omega)) (λm i hi=>?_) (λm=>?_)).trans ?_
 ·simp only[qJ,R1]
  refine(Ah (by omega)).trans ?_;have fin:∀g:Option β,cond (decide (0<=(i:Int))&&decide ((i:Int)<((numb 0 ls).length:Int))) g none=g:=λg=>Ai (by rw[I8];omega);simp only[fin,AE];have e:=uC 0 ls i hi;rw[BW]at e;refine(Bm (by rw[i64_in ((i:Int)+1) (by omega)];exact Aj Prod.fst e)).trans ?_;rw[show((numb 0 ls).getD i ((0:Int),([]:List Tok))).2=ls.getD i []from Aj Prod.snd e,i64_in ((i:Int)+1) (by omega)];refine((hg _ (Cc hi)).form _).trans ?_;rfl
 ·simp only[qJ,R1]
  exact Ad (by omega)
 ·rw[C1.2 λ_ _=>rfl];rfl
variable{G:Option β->Prop}
theorem YP{s hd:List UInt8}(hs:s.length<=60000)(hh:hd.length<=100){k1:Yb β}{c:Au}(hk:∀w,Wide s w->G (k1 (hd++w) c)):∀(r pre w:List UInt8)(m:Nat)(d:Dice),s=pre++r->AZ d->Wide pre w->r.length<m->G (JW m k1 s (hd++w) (pre.length:Int) d c)
 |_,_,_,0,_,_,_,_,h=>absurd h (H9 _)
 |[],pre,w,m+1,d,e,hd',hw,_=>by rw[CA]at e;subst e;simp only[qK,R3];exact w_n (by omega) (hk w hw)
 |x::r,pre,w,m+1,d,e,hd',hw,hm=>by
  have hl:s.length=pre.length+(r.length+1):=by rw[e,Av,Aw]
  have hw3:=hw.len3;have e2:List.drop pre.length (List.take (pre.length+1) s)=[x]:=by rw[e];exact AlJ ..
  have e3:s.getD pre.length 0=x:=by rw[e];simp[List.getD]
  have e4:s=(pre++[x])++r:=by rw[e];simp
  have hlp:(((pre++[x]).length:Nat):Int)=(pre.length:Int)+1:=by simp
  have rec1:∀d',AZ d'->G (JW m k1 s (hd++(w++[x])) ((pre.length:Int)+1) d' c):=λd' h'=>by rw[<-hlp];exact YP hs hh hk r (pre++[x]) (w++[x]) m d' e4 h' (hw.app (Wide.refl _)) (by simp at hm;omega)
  simp only[qK,R3];refine w_p (by omega) ?_;rw[i64_in ((pre.length:Int)+1) (by omega)];refine w_e (c_p3 (by omega) (by omega) (by omega)) ?_;rw[show((pre.length:Int)+1).toNat=pre.length+1 by omega,AE,e2,e3,AW];refine w_p (by simp only[Av,CO];omega) ?_;refine w_i (by omega) ?_;refine w_d (λhx=>?_) (λ_=>rec1 d hd');have hx:x=32:=UInt8.toNat_inj.1 (by have:(32:UInt8).toNat=32:=rfl;omega);refine I6 hd' (by omega) λb d' h'=>?_;refine w_c (λ_=>?_) (λ_=>rec1 d' h');refine w_p (by simp only[Av,CO,Aw,Bw];omega) ?_;rw[AW,AW,<-hlp];exact YP hs hh hk r (pre++[x]) (w++([x]++[32,32])) m d' e4 h' (hw.app (by rw[hx];exact .sp .nil)) (by simp at hm;omega)
theorem printForms(F:YO)(t:List Int)(k:Bool->Option β):R4 t k=k true:=by
 unfold R4;rw[Ab];refine(Aiu _ _).trans ?_;by_cases h0:¬(t.length:Int)<=500
 ·rw[AB h0]
  exact F _
 have h1:(t.length:Int)<=500:=by omega
 refine(Bm h1).trans ?_;refine(Aiv _ _).trans ?_;refine Aj5 (G:=λA=>A=k true) (Aiw h1) (by decide) λc d hd hc h1 _=>?_;have hD:=AlH hc h1;have hs:=N0 hc;have hn:=tY hs.1.g (Wide.refl (CN (CM c)));have hn2:=hs.1.n;refine(s9 hc _).trans ?_;refine(Akk hc _).trans ?_;refine(Bm rfl).trans ?_;refine(Bm rfl).trans ?_;refine(AlK hc hs _ _).trans ?_;unfold Yd;rw[Ab];refine YP (G:=λA=>A=k true) (hd:=DL preL) (w:=[]) (pre:=[]) (by omega) (by decide) (λw hw=>?_) (CN (CM c)) _ d rfl hd .nil (AY (by omega));refine(Alo hc Alm (by decide) (by decide) (by decide) hw _).trans ?_;refine(Ah rfl).trans ?_;refine(AlF hD.sm _).trans ?_;rw[CI.2 rfl];exact F _
end
end
end Go.Lift
