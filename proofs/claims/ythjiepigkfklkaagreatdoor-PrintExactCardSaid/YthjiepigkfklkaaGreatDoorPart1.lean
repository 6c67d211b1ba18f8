/- Part1 -/
import Derived.Sort.LotA
import Derived.Test.YthjiepigkfklkaaGreatDoorPart0
set_option linter.unusedVariables false
set_option linter.unusedSectionVars false
set_option linter.unusedSimpArgs false
open _root_ renaming if_neg → Ybm, if_pos → Ybo, Array → Ybq
namespace Go.Lift
open Go.Sort
variable{α:Type}[Inhabited α]
theorem aL(d:Ybq α){i j:Nat}(hi:i<d.size)(hj:j<d.size)(q:Nat):(swp d i j)[q]! =if q=i then d[j]! else if q=j then d[i]! else d[q]!:=by
 by_cases h1:q=i
 ·subst h1
  rw[Ybo rfl];by_cases e:q=j
  ·subst e
   exact swp_right d q q hi
  ·exact swp_left d q j hi e
 ·rw[Ybm h1]
  by_cases h2:q=j
  ·subst h2
   rw[Ybo rfl];exact swp_right d i q hj
  ·rw[Ybm h2]
   exact swp_other d i j q h1 h2
def Hs(d:Ybq α)(a b:Nat):Nat->Ybq α
 |0=>d
 |n+1=>swp (Hs d a b n) (a+n) (b+n)
theorem LE(d:Ybq α)(a b:Nat):∀n,(Hs d a b n).size=d.size
 |0=>rfl
 |n+1=>by rw[Hs,size_swp,LE d a b n]
theorem aM(d:Ybq α){a b:Nat}:∀(n:Nat),a+n<=b->b+n<=d.size->∀q,(Hs d a b n)[q]! =if a<=q/\q<a+n then d[b+(q-a)]! else if b<=q/\q<b+n then d[a+(q-b)]! else d[q]!
 |0,_,_,q=>by rw[Hs,Ybm (by omega),Ybm (by omega)]
 |n+1,h1,h2,q=>by
  have ih:=aM d (a:=a) (b:=b) n (by omega) (by omega);rw[Hs,aL (Hs d a b n) (i:=a+n) (j:=b+n) (by rw[LE];omega) (by rw[LE];omega)];by_cases e1:q=a+n
  ·subst e1
   rw[Ybo rfl,ih,Ybm (by omega),Ybm (by omega),Ybo (by omega)];congr 1;omega
  ·rw[Ybm e1]
   by_cases e2:q=b+n
   ·subst e2
    rw[Ybo rfl,ih,Ybm (by omega),Ybm (by omega),Ybm (by omega),Ybo (by omega)];congr 1;omega
   ·rw[Ybm e2,ih]
    by_cases g1:a<=q/\q<a+n
    ·rw[Ybo g1,Ybo (by omega)]
    ·rw[Ybm g1,Ybm (show ¬(a<=q/\q<a+(n+1)) by omega)]
     by_cases g2:b<=q/\q<b+n
     ·rw[Ybo g2,Ybo (by omega)]
     ·rw[Ybm g2,Ybm (show ¬(b<=q/\q<b+(n+1)) by omega)]
def rotG(d:Ybq α)(m i j:Nat):Ybq α:=
 if i=j then Hs d (m-i) m i else if i=0\/j=0 then d else if j<i then rotG (Hs d (m-i) m j) m (i-j) j else rotG (Hs d (m-i) (m+j-i) i) m i (j-i)
termination_by i+j
decreasing_by all_goals omega
theorem Atb:∀(n:Nat)(d:Ybq α)(m i j:Nat),i+j<=n->1<=i->1<=j->i<=m->m+j<=d.size->(rotG d m i j).size=d.size/\∀q,(rotG d m i j)[q]! =if m-i<=q/\q<m-i+j then d[q+i]! else if m-i+j<=q/\q<m+j then d[q-j]! else d[q]!:=by
 intro n
 induction n with
 |zero=>intro d m i j h;omega
 |succ n ih=>
  intro d m i j h hi hj XS JJ;rw[rotG];by_cases e:i=j
  ·subst e
   rw[Ybo rfl];refine⟨LE ..,λq=>?_⟩;rw[aM d i (by omega) JJ];by_cases g1:m-i<=q/\q<m-i+i
   ·rw[Ybo g1,Ybo g1];congr 1;omega
   ·rw[Ybm g1,Ybm g1]
    by_cases g2:m<=q/\q<m+i
    ·rw[Ybo g2,Ybo (by omega)];congr 1;omega
    ·rw[Ybm g2,Ybm (by omega)]
  ·rw[Ybm e,Ybm (by omega)]
   by_cases XV:j<i
   ·rw[Ybo XV]
    obtain⟨s1,s2⟩:=ih (Hs d (m-i) m j) m (i-j) j (by omega) (by omega) hj (by omega) (by rw[LE];exact JJ);refine⟨s1.trans (LE ..),λq=>?_⟩;have sw:=aM d (a:=m-i) (b:=m) j (by omega) JJ;rw[s2];by_cases g1:m-(i-j)<=q/\q<m-(i-j)+j
    ·rw[Ybo g1,sw]
     by_cases g3:m<=q+(i-j)/\q+(i-j)<m+j
     ·rw[Ybm (by omega),Ybo g3]
      by_cases g4:m-i<=q/\q<m-i+j
      ·omega
      ·rw[Ybm g4,Ybo (by omega)];congr 1;omega
     ·omega
    ·rw[Ybm g1]
     by_cases g2:m-(i-j)+j<=q/\q<m+j
     ·rw[Ybo g2,sw,Ybm (by omega),Ybm (by omega),Ybm (by omega),Ybo (by omega)]
     ·rw[Ybm g2,sw]
      by_cases g3:m-i<=q/\q<m-i+j
      ·rw[Ybo g3,Ybo g3];congr 1;omega
      ·rw[Ybm g3,Ybm g3,Ybm (by omega),Ybm (by omega)]
   ·rw[Ybm XV]
    obtain⟨s1,s2⟩:=ih (Hs d (m-i) (m+j-i) i) m i (j-i) (by omega) hi (by omega) XS (by rw[LE];omega);refine⟨s1.trans (LE ..),λq=>?_⟩;have sw:=aM d (a:=m-i) (b:=m+j-i) i (by omega) (by omega);rw[s2];by_cases g1:m-i<=q/\q<m-i+(j-i)
    ·rw[Ybo g1,sw]
     rw[Ybm (by omega),Ybm (by omega),Ybo (by omega)]
    ·rw[Ybm g1]
     by_cases g2:m-i+(j-i)<=q/\q<m+(j-i)
     ·rw[Ybo g2,sw]
      by_cases g3:m-i<=q-(j-i)/\q-(j-i)<m-i+i
      ·rw[Ybo g3]
       by_cases g4:m-i<=q/\q<m-i+j
       ·rw[Ybo g4];congr 1;omega
       ·omega
      ·omega
     ·rw[Ybm g2,sw]
      by_cases g3:m+j-i<=q/\q<m+j-i+i
      ·rw[Ybm (by omega),Ybo g3,Ybm (by omega),Ybo (by omega)];congr 1;omega
      ·rw[Ybm (by omega),Ybm g3,Ybm (by omega),Ybm (by omega)]
def upF(d:Ybq α)(a:Nat):Nat->Ybq α
 |0=>d
 |n+1=>swp (upF d a n) (a+n) (a+n+1)
def Jy(d:Ybq α)(m:Nat):Nat->Ybq α
 |0=>d
 |n+1=>swp (Jy d m n) (m-n) (m-n-1)
theorem pP(d:Ybq α){a:Nat}:∀n,a+n<d.size->(upF d a n).size=d.size/\∀q,(upF d a n)[q]! =if a<=q/\q<a+n then d[q+1]! else if q=a+n then d[a]! else d[q]!
 |0,h=>⟨rfl,λq=>by
  rw[upF,Ybm (by omega)];by_cases e:q=a+0
  ·rw[Ybo e];congr 1
  ·rw[Ybm e]⟩
 |n+1,h=>by
  obtain⟨s1,s2⟩:=pP d (a:=a) n (by omega);refine⟨by rw[upF,size_swp,s1],λq=>?_⟩;rw[upF,aL _ (by omega) (by omega)];by_cases e1:q=a+n
  ·subst e1
   rw[Ybo rfl,s2,Ybm (by omega),Ybm (by omega),Ybo (by omega)]
  ·rw[Ybm e1]
   by_cases e2:q=a+n+1
   ·subst e2
    rw[Ybo rfl,s2,Ybm (by omega),Ybo rfl,Ybm (by omega),Ybo (by omega)]
   ·rw[Ybm e2,s2]
    by_cases g1:a<=q/\q<a+n
    ·rw[Ybo g1,Ybo (by omega)]
    ·rw[Ybm g1,Ybm (by omega),Ybm (by omega),Ybm (by omega)]
theorem pQ(d:Ybq α){m:Nat}(hm:m<d.size):∀n,n<=m->(Jy d m n).size=d.size/\∀q,(Jy d m n)[q]! =if m-n<q/\q<=m then d[q-1]! else if q=m-n then d[m]! else d[q]!
 |0,h=>⟨rfl,λq=>by
  rw[Jy,Ybm (by omega)];by_cases e:q=m-0
  ·rw[Ybo e];congr 1
  ·rw[Ybm e]⟩
 |n+1,h=>by
  obtain⟨s1,s2⟩:=pQ d hm n (by omega);refine⟨by rw[Jy,size_swp,s1],λq=>?_⟩;rw[Jy,aL _ (by omega) (by omega)];by_cases e1:q=m-n
  ·subst e1
   rw[Ybo rfl,s2,Ybm (by omega),Ybm (by omega),Ybo (by omega)]
  ·rw[Ybm e1]
   by_cases e2:q=m-n-1
   ·subst e2
    rw[Ybo rfl,s2,Ybm (by omega),Ybo rfl,Ybm (by omega),Ybo (by omega)]
   ·rw[Ybm e2,s2]
    by_cases g1:m-n<q/\q<=m
    ·rw[Ybo g1,Ybo (by omega)]
    ·rw[Ybm g1,Ybm (by omega),Ybm (by omega),Ybm (by omega)]
omit [Inhabited α]
def sgL(f:Nat->α)(a b:Nat):List α:=(List.range (b-a)).map λt=>f (a+t)
theorem TT(f:Nat->α)(a b:Nat):(sgL f a b).length=b-a:=by simp[sgL]
theorem Jz{f g:Nat->α}{a b a' b':Nat}(h:b-a=b'-a')(hf:∀t,t<b-a->f (a+t)=g (a'+t)):sgL f a b=sgL g a' b':=by unfold sgL;rw[<-h];exact ZT λt ht=>hf t (Rg.1 ht)
theorem Ip(f:Nat->α){a b c:Nat}(h1:a<=b)(h2:b<=c):sgL f a c=sgL f a b++sgL f b c:=by unfold sgL;rw[show c-a=(b-a)+(c-b) by omega,List.range_add,IR,Pi];congr 1;refine ZT λt _=>?_;simp only[Function.comp];congr 1;omega
theorem Rk(f:Nat->α)(a:Nat):sgL f a (a+1)=[f a]:=by simp[sgL]
theorem AeP(f:Nat->α){a b:Nat}(h:b<=a):sgL f a b=[]:=by simp[sgL,show b-a=0 by omega]
theorem NC{f:Nat->α}{a b:Nat}{x:α}(h:x∈sgL f a b):∃q,a<=q/\q<b/\x=f q:=by obtain⟨t,ht,rfl⟩:=Hb.1 h;have ht:=Rg.1 ht;exact⟨a+t,by omega,by omega,rfl⟩
theorem KR{key:α->Int}{f:Nat->α}{a b:Nat}(h:∀p q,a<=p->p<=q->q<b->key (f p)<=key (f q)):SortK key (sgL f a b):=by show List.Pairwise _ _;rw[TG];intro i j hi hj Dv;rw[TT]at hi hj;simp only[sgL,List.getElem_map,List.getElem_range];exact h _ _ (by omega) (by omega) (by omega)
theorem Pk{key:α->Int}{f:Nat->α}{a b:Nat}(h:SortK key (sgL f a b)):∀p q,a<=p->p<=q->q<b->key (f p)<=key (f q):=by
 intro p q h1 h2 h3;by_cases e:p=q
 ·subst e;exact IS _
 have h:List.Pairwise _ _:=h;have:=(TG.1 h) (p-a) (q-a) (by rw[TT];omega) (by rw[TT];omega) (by omega);simp only[sgL,List.getElem_map,List.getElem_range]at this
 rwa [show a+(p-a)=p by omega,show a+(q-a)=q by omega]at this
structure MergedF (key:α->Int) (f f':Nat->α) (a m b:Nat):Prop where
 out:∀q,q<a\/b<=q->f' q=f q
 mg:MergeK key (sgL f a m) (sgL f m b) (sgL f' a b)
theorem Atc{key:α->Int}{f f':Nat->α}{a i b:Nat}(h1:a+1<=i)(h2:i<=b)(hy:SortK key (sgL f (a+1) b))(Ew:∀q,a+1<=q->q<i->key (f q)<key (f a))(Gl:∀q,i<=q->q<b->key (f a)<=key (f q))(hf:∀q,f' q=if a<=q/\q<i-1 then f (q+1)else if q=i-1 then f a else f q):MergedF key f f' a (a+1) b:=by
 refine⟨λq hq=>by rw[hf,Ybm (by omega),Ybm (by omega)],?_⟩;have e1:sgL f (a+1) b=sgL f (a+1) i++sgL f i b:=Ip f h1 h2
 have e2:sgL f' a b=sgL f (a+1) i++f a::sgL f i b:=by
  rw[Ip f' (show a<=i-1 by omega) (show i-1<=b by omega),Ip f' (show i-1<=i by omega) h2];have g1:sgL f' a (i-1)=sgL f (a+1) i:=Jz (by omega) λt ht=>by rw[hf,Ybo (by omega)];congr 1;omega
  have g2:sgL f' (i-1) i=[f a]:=by have:=Rk f' (i-1);rw[show i-1+1=i by omega]at this;rw[this,hf,Ybm (by omega),Ybo rfl]
  have g3:sgL f' i b=sgL f i b:=Jz rfl λt ht=>by rw[hf,Ybm (by omega),Ybm (by omega)]
  rw[g1,g2,g3];rfl
 rw[Rk,e2];rw[e1]at hy⊢;exact MergeK.one_left hy (λx hx=>by obtain⟨q,q1,q2,rfl⟩:=NC hx;exact Ew q q1 q2) (λx hx=>by obtain⟨q,q1,q2,rfl⟩:=NC hx;exact Gl q q1 q2)
theorem Atd{key:α->Int}{f f':Nat->α}{a i m:Nat}(h1:a<=i)(h2:i<=m)(hx:SortK key (sgL f a m))(Ew:∀q,a<=q->q<i->key (f q)<=key (f m))(Gl:∀q,i<=q->q<m->key (f m)<key (f q))(hf:∀q,f' q=if i<q/\q<=m then f (q-1)else if q=i then f m else f q):MergedF key f f' a m (m+1):=by
 refine⟨λq hq=>by rw[hf,Ybm (by omega),Ybm (by omega)],?_⟩;have e1:sgL f a m=sgL f a i++sgL f i m:=Ip f h1 h2
 have e2:sgL f' a (m+1)=sgL f a i++f m::sgL f i m:=by
  rw[Ip f' h1 (show i<=m+1 by omega),Ip f' (show i<=i+1 by omega) (show i+1<=m+1 by omega)];have g1:sgL f' a i=sgL f a i:=Jz rfl λt ht=>by rw[hf,Ybm (by omega),Ybm (by omega)]
  have g2:sgL f' i (i+1)=[f m]:=by rw[Rk,hf,Ybm (by omega),Ybo rfl]
  have g3:sgL f' (i+1) (m+1)=sgL f i m:=Jz (by omega) λt ht=>by rw[hf,Ybo (by omega)];congr 1;omega
  rw[g1,g2,g3];rfl
 rw[Rk,e2];rw[e1]at hx⊢;exact MergeK.one_right hx (λx hx=>by obtain⟨q,q1,q2,rfl⟩:=NC hx;exact Ew q q1 q2) (λx hx=>by obtain⟨q,q1,q2,rfl⟩:=NC hx;exact Gl q q1 q2)
theorem AeQ{key:α->Int}{f f1 f2 f3:Nat->α}{a s m e b mid:Nat}(has:a<=s)(o9:s<=m)(Tl:m<=e)(ALc:e<=b)(OG:mid=s+(e-m))(hx:SortK key (sgL f a m))(hy:SortK key (sgL f m b))(Ew:∀p q,a<=p->p<s->e<=q->q<b->key (f p)<=key (f q))(Gl:∀p q,m<=p->p<e->s<=q->q<m->key (f p)<key (f q))(hf:∀q,f1 q=if s<=q/\q<mid then f (q+(m-s))else if mid<=q/\q<e then f (q-(e-m))else f q)(h1:MergedF key f1 f2 a s mid)(h2:MergedF key f2 f3 mid e b):MergedF key f f3 a m b:=by
 have o1:∀q,q<s\/e<=q->f1 q=f q:=λq hq=>by rw[hf,Ybm (by omega),Ybm (by omega)]
 refine⟨λq hq=>by rw[h2.out q (by omega),h1.out q (by omega),o1 q (by omega)],?_⟩;have ex:sgL f a m=sgL f a s++sgL f s m:=Ip f has o9;have ey:sgL f m b=sgL f m e++sgL f e b:=Ip f Tl ALc
 have ez:sgL f3 a b=sgL f2 a mid++sgL f3 mid b:=by rw[Ip f3 (show a<=mid by omega) (show mid<=b by omega)];congr 1;exact Jz rfl λt ht=>h2.out _ (by omega)
 have m1:=h1.mg;have m2:=h2.mg;have g1:sgL f1 a s=sgL f a s:=Jz rfl λt ht=>o1 _ (by omega);have g2:sgL f1 s mid=sgL f m e:=Jz (by omega) λt ht=>by rw[hf,Ybo (by omega)];congr 1;omega
 have g3:sgL f2 mid e=sgL f s m:=Jz (by omega) λt ht=>by rw[h1.out _ (by omega),hf,Ybm (by omega),Ybo (by omega)];congr 1;omega
 have g4:sgL f2 e b=sgL f e b:=Jz rfl λt ht=>by rw[h1.out _ (by omega),o1 _ (by omega)]
 rw[g1,g2]at m1;rw[g3,g4]at m2;rw[ex]at hx⊢;rw[ey]at hy⊢;rw[ez];refine MergeK.parts m1 m2 hx hy (λx hx y hy=>?_) (λx hx y hy=>?_)
 ·obtain⟨p,p1,p2,rfl⟩:=NC hx
  obtain⟨q,q1,q2,rfl⟩:=NC hy;exact Ew p q p1 p2 q1 q2
 ·obtain⟨p,p1,p2,rfl⟩:=NC hx
  obtain⟨q,q1,q2,rfl⟩:=NC hy;exact Gl p q p1 p2 q1 q2
end Go.Lift
