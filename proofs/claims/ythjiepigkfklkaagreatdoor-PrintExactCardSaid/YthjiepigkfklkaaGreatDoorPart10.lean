/- Part10 -/
import Derived.OrdersIn
import Derived.RangeFuncLeaves
import Derived.RangeFuncRecord
import Derived.RangeFuncSeq
import Derived.Test.YthjiepigkfklkaaGreatDoorPart9
set_option linter.unusedVariables false
set_option linter.unusedSectionVars false
set_option linter.unusedSimpArgs false
open _root_ renaming Array → Ybq, List → Ybt, Option → Ybw, absurd → Yb0, Bool → Yb3
open Decidable renaming decide → Ybr
open Option renaming some → Ybs, none → Ybu
open Bool renaming true → Ybv, false → Ybx
open Array renaming replicate → Yb4
namespace Go.Lift
noncomputable section
open Go.RowKit
abbrev rnd(l:Nat):Fence:=Fence.wide.inRound l
def LP(ops:Ybt Oper):Yb3:=ops.all λo=>match o.op with|.defer _=>Ybx|_=>Ybv
theorem tC{ops:Ybq Oper}(h:LP ops.toList=Ybv){i:Nat}{o:Oper}(ho:ops[i]?=Ybs o):∀c,o.op≠.defer c:=by
 intro c e;have hm:o∈ops.toList:=by rw[Array.mem_toList_iff];exact Array.mem_of_getElem? ho
 have:=FG.1 h o hm;rw[e]at this;cases this
section
variable{P:Program}{ops:Ybq Oper}{Q:Exit->Act->World->Prop}{l m:Nat}
theorem Avd{row:String}{args:Ybq Value}{w:World}{R:Value->World->Prop}(h:Go.Rows P row args w R):RowsIn (rnd l) m P row args w R:=
 λc cs _=>let⟨v,w',r,s⟩:=h c cs;⟨v,w',r,stepsIn_wide.2 s⟩
theorem tD{o:Oper}{a:Act}{w:World}{K K':Act->World->Prop}(hd:∀c,o.op≠.defer c)(hK:∀a w,K a w->K' a w)(h:o.wp P a w K Q):o.wpIn (rnd l) m P a w K' Q:=by
 refine⟨λ_ _=>trivial,?_⟩;rw[Oper.semAt_eq _ _ _ hd];unfold Oper.wp at h;generalize(execOp a.eval o).run P w=r at*;cases r with
 |ok x w'=>
  cases x<;>simp only[Oper.upon,Oper.uponIn]at h⊢<;>try exact hK _ _ h
  ·rename_i f args
   have h2:=(callsIn_wide (n:=m-1)).2 h;refine⟨λhh=>(by cases hh),CallsIn.mono (show CallsIn (rnd l) (m-1) P f args w' _ from h2) ?_⟩;intro e w'' he;cases e<;>first|exact hK _ _ he|exact he
  ·exact⟨λhh=>(by cases hh),Avd (h.mono λv w'' hv=>hK _ _ hv)⟩
  all_goals exact h.elim
 |halt x w'=>cases x<;>simp only[Oper.upon,Oper.uponIn]at h⊢<;>exact h
theorem cG(hd:LP ops.toList=Ybv)(hL:¬LetsOut Q):∀(is:Ybt Nat)(a:Act)(w:World),wpOps P ops Q is a w->wpOpsIn (rnd l) m P ops Q is a w
 |[],a,w,h=>h
 |i::is,a,w,h=>by
  simp only[wpOps,wpOpsIn]at h⊢;cases ho:ops[i]? with
  |none=>simp only[ho]at h⊢;exact cG hd hL is a w h
  |some o=>
   simp only[ho]at h⊢;by_cases hw:Region.wanted o (yielded ops a.tmps)=Ybv
   ·simp only[hw,D6]at h⊢
    rcases h with h|h
    ·exact tD (tC hd ho) (λa w hk=>cG hd hL is a w hk) h
    ·exact Yb0 h.2 hL
   ·simp only[hw,CN,IQ]at h⊢
    exact⟨λ_ _=>trivial,cG hd hL is _ w h⟩
theorem UC(hd:LP ops.toList=Ybv)(hL:¬LetsOut Q){md:Region.Mode}:∀(k:Nat)(listed:Ybq Yb3)(a:Act)(w:World),wpAny P md ops Q k listed a w->wpAnyIn (rnd l) m P md ops Q k listed a w
 |0,listed,a,w,h=>h
 |k+1,listed,a,w,⟨h0,h1⟩=>by
  refine⟨h0,λi hi=>?_⟩;have h:=h1 i hi;unfold wpOp at h;unfold wpOpIn;cases ho:ops[i]? with
  |none=>simp only[ho]at h⊢;exact UC hd hL k _ a w h
  |some o=>
   simp only[ho]at h⊢;by_cases hw:Region.wanted o (yielded ops a.tmps)=Ybv
   ·simp only[hw,D6]at h⊢
    first
     |exact tD (tC hd ho) (λa w hk=>UC hd hL k _ a w hk) h
     |(rcases h with h|h
       ·exact tD (tC hd ho) (λa w hk=>UC hd hL k _ a w hk) h
       ·exact Yb0 h.2 hL)
   ·simp only[hw,CN,IQ]at h⊢
    exact⟨λ_ _=>trivial,UC hd hL k _ _ w h⟩
end
section
variable{P:Program}{n:Nat}{β:Type}{r:β}
theorem Ave(hm:P.follows .mixedOrders=Ybv){X:Ctx}(hT:TOk P X.T)(hΓ:ΓOk P X.Γ){ops:Ybq Oper}{draw:Yb3}{σ:St}{k:Kx β}(h:(LJ X n ops (Hw 0 ops.toList) σ [] λσ' log=>bif MB X.A log&&(!draw||(LK (Hw 0 ops.toList)&&fine (Hd ops.toList []) log))then k .normal σ' else Ybu)=Ybs r):∃σ',k .normal σ'=Ybs r/\∀(ok0:OK0 P)(base:Nat)(pl:Nat->Ybw Pl)(a:Act)(w:World)(Q:Exit->Act->World->Prop),Rel n ok0 base pl (look σ.tm) (look σ.bl) a w->(∀Ak a' w',Rel n ok0 base Ak (look σ'.tm) (look σ'.bl) a' w'->Step pl (look σ.bl) w Ak (look σ'.bl) w'->Q .normal a' w')->(draw=Ybx->wpOps P ops Q (List.range ops.size) a w)/\(draw=Ybv->wpAny P .any ops Q ops.size (Yb4 ops.size Ybx) a {w with drawn:=w.drawn+1}):=by
 obtain⟨es,σ',h1,h2,h3,h4,h5⟩:=bY hT hΓ (U8 ops.toList 0 (by simp)) h;rw[U7]at h2;have EU:es.map (·.i)=List.range ops.size:=by rw[h2,pB];simp
 simp only[In]at h1
 have hc:MB X.A es.reverse=Ybv/\(!draw||(LK (Hw 0 ops.toList)&&fine (Hd ops.toList []) es.reverse))=Ybv/\k .normal σ'=Ybs r:=by
  cases hb:(MB X.A es.reverse&&(!draw||(LK (Hw 0 ops.toList)&&fine (Hd ops.toList []) es.reverse)))with
  |false=>rw[hb]at h1;cases h1
  |true=>rw[hb]at h1;exact⟨(andB hb).1,(andB hb).2,h1⟩
 obtain⟨_,hc⟩:=hc;refine⟨σ',hc.2,λok0 base pl a w Q hr hq=>⟨λhd=>?_,λhd=>?_⟩⟩
 ·rw[<-EU]
  exact sK h3 hr λAk a' w' BA Cd=>hq Ak a' w' (by rw[h4,h5];exact BA) (by rw[h5];exact Cd)
 ·subst hd
  have Ib:=hc.1;simp only[aK,Ph,Dk]at Ib;obtain⟨hb,hf⟩:=Ib
  have Lj:∀(j:Nat)(o:Oper),ops[j]?=Ybs o->∀e∈o.after,Region.binds .any e=Ybv->e.on<j:=by
   intro j o ho;have hj:j<ops.size:=(IN.1 ho).1
   have D9:j∈(Hw 0 ops.toList).map (·.1):=by rw[U7];simp only[Hq,List.mem_range'_1];omega
   obtain⟨p,hp,e⟩:=Hb.1 D9;have h6:=U8 (ops:=ops) ops.toList 0 (by simp) p hp;rw[e,ho]at h6;injection h6 with h6;have:=sM hb p hp;rw[e,<-h6]at this;exact this
  have Ml:∀i,(∃e∈es,e.i=i)↔i<ops.size:=by intro i;rw[<-Rg,<-EU,Hb]
  refine Agd Lj ops.size (es:=es) ?_ (by simp) ?_ (λi hi=>?_) ?_ (λe he=>(Ml e.i).1 ⟨e,he,rfl⟩) ?_ h3 (hr.drawn (w':={w with drawn:=w.drawn+1}) rfl) λAk a' w' BA Cd=>hq Ak a' w' ?_ ?_
  ·have:=Aw List.length EU
   simpa using this
  ·intro j o _ hj
   exfalso;rw[F6]at hj;rcases TS j ops.size with h7|h7
   ·simp[h7]at hj
   ·simp[Nat.not_lt.2 h7]at hj
  ·constructor
   ·intro _;exact(Ml i).2 hi
   ·intro _;simp[F6,hi]
  ·have:(es.map (·.i)).Pairwise (· < ·):=by rw[EU];exact List.pairwise_lt_range
   exact pJ.1 this
  ·have:=sN hf
   exact List.pairwise_reverse.1 this
  ·rw[h4,h5];exact BA
  ·rw[h5]
   exact Cd.undrawn
def RSim(P:Program)(n:Nat)(A:Code)(σ σ':St):Prop:=
 ∀(l m:Nat)(ok0:OK0 P)(base:Nat)(pl:Nat->Ybw Pl)(a:Act)(w:World),Rel n ok0 base pl (look σ.tm) (look σ.bl) a w->
  A.wpIn (rnd l) m P (λe a' w'=>e=.normal/\∃Ak,Rel n ok0 base Ak (look σ'.tm) (look σ'.bl) a' w'/\Step pl (look σ.bl) w Ak (look σ'.bl) w') a w
theorem AgQ(hm:P.follows .mixedOrders=Ybv){X:Ctx}(hT:TOk P X.T)(hΓ:ΓOk P X.Γ){id:Nat}{ops:Ybq Oper}{draw:Yb3}{σ:St}{k:Kx β}(hd:LP ops.toList=Ybv)(h:exec X n (λ_=>Ybu) 1 (.region id ops draw) σ k=Ybs r):∃σ',k .normal σ'=Ybs r/\RSim P n (.region id ops draw) σ σ':=by
 unfold exec at h;obtain⟨σ',h1,h2⟩:=Ave hm hT hΓ h;refine⟨σ',h1,λl m ok0 base pl a w hr=>?_⟩;have hL:¬LetsOut (λ(e:Exit)(a':Act)(w':World)=>e=.normal/\∃Ak,Rel n ok0 base Ak (look σ'.tm) (look σ'.bl) a' w'/\Step pl (look σ.bl) w Ak (look σ'.bl) w'):=λ⟨_,_,hh,_⟩=>by cases hh
 obtain⟨g1,g2⟩:=h2 ok0 base pl a w (λ(e:Exit)(a':Act)(w':World)=>e=.normal/\∃Ak,Rel n ok0 base Ak (look σ'.tm) (look σ'.bl) a' w'/\Step pl (look σ.bl) w Ak (look σ'.bl) w') hr λAk a' w' q1 q2=>⟨rfl,Ak,q1,q2⟩;cases draw with
 |false=>exact wpIn_region (cG hd hL _ _ _ (g1 rfl))
 |true=>exact wpIn_region_any hm (UC hd hL _ _ _ _ (g2 rfl))
end
end
end Go.Lift
namespace Go.Lift
noncomputable section
open Go.RowKit
section
variable{P:Program}{ok0 ok1:OK0 P}{base n:Nat}{pl:Nat->Ybw Pl}{bl:Nat->Ybw Blk}{w w':World}
def Shut(ok:OK0 P)(base X:Nat):Prop:=∀g,(ok g\/(base<=g/\¬ok.no g))->g≠X
theorem RelB.into(hr:RelB ok0 base pl bl w)(hs:w.heap.size<=w'.heap.size)(hk:∀g,g<w.heap.size->(Own pl bl g\/(ok0 g\/(base<=g/\¬ok0.no g)))->w'.heap[g]?=w.heap[g]?)(Ds:∀g,g<w.heap.size->(ok0 g\/(base<=g/\¬ok0.no g))->(ok1 g\/(base<=g/\¬ok1.no g)))(hg:Glob ok1 pl bl w'):RelB ok1 base pl bl w'/\Ext (At ok0 base pl bl w) (At ok1 base pl bl w'):=by
 have hx:Ext (At ok0 base pl bl w) (At ok1 base pl bl w'):=⟨Av _,λg h1 h2=>⟨⟨Ds g h2 h1.1,h1.2⟩,hk g h2 (.inr h1.1)⟩,λ_ _ h=>h,λ_ sv Ac h=>⟨sv,Ac,h,KeepR.refl _ _ _⟩⟩;refine⟨⟨DC hr.baseLe hs,λi B hB=>?_,hr.sep,hr.fresh,hg⟩,hx⟩;obtain⟨p,hp,hR⟩:=hr.blks i B hB;refine⟨p,hp,?_⟩;cases hl:B.live with
 |false=>cases B<;>first|exact trivial|simp[Blk.live]at hl
 |true=>have ho:∀g,p.has g->Own pl bl g:=λg hq=>⟨i,B,p,hB,hl,hp,hq⟩;exact BRep.mono hx hR λg hq=>hk g (Own.lt hr (ho g hq)) (.inl (ho g hq))
theorem RelB.putO(hr:RelB ok0 base pl bl w){X:Nat}(hX:ok0.no X)(hS:Shut ok0 base X)(o:Obj):RelB ok0 base pl bl (w.putObj X o)/\Ext (At ok0 base pl bl w) (At ok0 base pl bl (w.putObj X o)):=by
 have hn:=hr.glob.no X hX;refine hr.into (by simp) (λg _ h=>World.putObj_heap_other ?_) (λ_ _ h=>h) ⟨hr.glob.g0.gen (by simp) (λg _ h1 h2=>⟨World.putObj_heap_other (by rintro rfl;exact h2 hX),h1⟩) λ_ h=>.inl h,λg h=>by simpa using hr.glob.no g h⟩;rintro rfl;rcases h with h|h
 ·exact hn.2 h
 ·exact hS g h rfl
theorem RelB.same(hr:RelB ok0 base pl bl w)(hw:w'.heap=w.heap):RelB ok0 base pl bl w'/\Ext (At ok0 base pl bl w) (At ok0 base pl bl w'):=
 hr.into (by rw[hw];exact Av _) (λg _ _=>by rw[hw]) (λ_ _ h=>h) (hr.glob.out (by rw[hw];exact Av _) λg _ h=>⟨by rw[hw],h⟩)
def HS(ok:OK0 P)(D:Nat):OK0 P:=⟨λg=>ok g/\g≠D/\g≠D+1,λg=>ok.no g\/g=D\/g=D+1⟩
theorem Avf(ok:OK0 P)(D base:Nat):Shut (HS ok D) base D:=λg h=>h.elim (λh=>h.2.1) λh e=>h.2 (.inr (.inl e))
theorem tE(ok:OK0 P)(D base:Nat):Shut (HS ok D) base (D+1):=λg h=>h.elim (λh=>h.2.2) λh e=>h.2 (.inr (.inr e))
theorem RelB.enter(hr:RelB ok0 base pl bl w)(hs:w'.heap.size=w.heap.size+2)(hk:∀g,g<w.heap.size->w'.heap[g]?=w.heap[g]?):RelB (HS ok0 w.heap.size) base pl bl w'/\Ext (At ok0 base pl bl w) (At (HS ok0 w.heap.size) base pl bl w'):=by
 refine hr.into (by omega) (λg h _=>hk g h) (λg h1 h=>?_) ⟨hr.glob.g0.gen (by omega) (λg h1 h2 _=>⟨hk g h1,h2⟩) λg h=>?_,λg h=>?_⟩
 ·rcases h with h|h
  ·exact .inl ⟨h,by omega,by omega⟩
  ·exact .inr ⟨h.1,λhn=>by rcases hn with q|q|q<;>first|exact h.2 q|omega⟩
 ·rcases h with q|q|q
  ·exact .inl q
  ·exact .inr (.inr (by omega))
  ·exact .inr (.inr (by omega))
 ·rcases h with q|q|q
  ·obtain⟨h1,h2⟩:=hr.glob.no g q;exact⟨by omega,h2⟩
  ·exact⟨by omega,λho=>by have:=Own.lt hr ho;omega⟩
  ·exact⟨by omega,λho=>by have:=Own.lt hr ho;omega⟩
theorem RelB.leave{D:Nat}(hr:RelB (HS ok0 D) base pl bl w):RelB ok0 base pl bl w:=
 (hr.into (ok1:=ok0) (Av _) (λ_ _ _=>rfl) (λg _ h=>h.imp (λh=>h.1) λh=>⟨h.1,λq=>h.2 (.inl q)⟩) ⟨hr.glob.g0.gen (Av _) (λg _ h _=>⟨rfl,h⟩) λg h=>.inl (.inl h),λg h=>hr.glob.no g (.inl h)⟩).1
theorem Avg{w:World}{ok:Nat->Prop}{e:Ty}{l:Ybt e.den}{A:Ybw Addr}{c i m:Nat}(h:DRep w ok (.slice e) l [.slice A l.length c])(hi:i+m<=l.length):DRep w ok (.slice e) ((l.drop i).take m) [.slice (A.map (·.add (i*e.size))) m m]:=by
 simp only[DRep]at h⊢;obtain⟨A',c',xs,e1,h1,h2,h3,h4⟩:=h;simp only[Dx,Value.slice.injEq,Fv]at e1;obtain⟨rfl,_,rfl⟩:=e1;have AU:((l.drop i).take m).length=m:=by rw[HP,LA];omega
 have hd:=(h3.drop i).take m;refine⟨A.map (·.add (i*e.size)),m,(xs.drop (i*e.size)).take (m*e.size),by rw[AU],by omega,by omega,hd,λj v hj=>?_⟩
 have If:xs[i*e.size+j]?=Ybs v:=by have Ax:=(Fe.1 hj).1;rw[TH (by rw[HP]at Ax;omega),Rd]at hj;exact hj
 obtain⟨ad,e2,h5,h6⟩:=h4 _ v If;subst e2;exact⟨ad.add (i*e.size),rfl,by rw[M7];exact h5,by rw[ND];exact h6⟩
end
section
variable{P:Program}{n:Nat}{β:Type}{r:β}
def AgR(X:Ctx)(n:Nat)(A B:Code)(σ:St)(K:St->Ybw β):Ybw β:=
 exec X n (λ_=>Ybu) 1 A σ λe σ1=>
  match e with
  |.normal=>exec X n (λ_=>Ybu) 1 B σ1 λe σ2=>
   match e with
   |.normal=>K σ2
   |_=>Ybu
  |_=>Ybu
def cH(X:Ctx)(n:Nat)(A B:Code)(p c1 c2:Nat)(k:Int)(tm0:Ybt (Nat×V)):Nat->Nat->Ybt (Nat×Blk)->Nat->(Ybt (Nat×Blk)->Nat->Ybw β)->Ybw β
 |0,_,_,_,_=>Ybu
 |N+1,j,bl,nx,K=>
  match look bl c1,look bl c2 with
  |some (.cells _ [.list e l]),Ybs (.cells _ [.int .i64 k'])=>
   bif Ybr (k'=k)&&Ybr (e.size=1)then
    cond (Ybr (l.length<=AR))
     (cond (Ybr (j*k.toNat<l.length))
      (AgR X n A B ⟨put tm0 p (.c (.list e ((l.drop (j*k.toNat)).take k.toNat))),bl,nx⟩ λσ=>cH X n A B p c1 c2 k tm0 N (j+1) σ.bl σ.nx K)
      (K bl nx))
     Ybu
   else Ybu
  |_,_=>Ybu
def UD(c1 c2:Nat)(k:Int)(bl:Ybt (Nat×Blk))(e:Ty)(l:Ybt e.den):Prop:=
 (∃t,look bl c1=Ybs (.cells t [.list e l]))/\(∃t,look bl c2=Ybs (.cells t [.int .i64 k]))/\e.size=1/\l.length<=AR
inductive Chain (P:Program) (n:Nat) (A B:Code) (p c1 c2:Nat) (k:Int) (tm0:Ybt (Nat×V)) (blF:Ybt (Nat×Blk)) (nxF:Nat):Nat->Ybt (Nat×Blk)->Nat->Prop
 |done {j:Nat} {e:Ty} {l:Ybt e.den} (h:UD c1 c2 k blF e l) (hj:¬j*k.toNat<l.length):Chain P n A B p c1 c2 k tm0 blF nxF j blF nxF
 |step {j nx:Nat} {bl:Ybt (Nat×Blk)} {e:Ty} {l:Ybt e.den} (σ1 σ2:St) (h:UD c1 c2 k bl e l) (hj:j*k.toNat<l.length)
   (h1:RSim P n A ⟨put tm0 p (.c (.list e ((l.drop (j*k.toNat)).take k.toNat))),bl,nx⟩ σ1) (h2:RSim P n B σ1 σ2) (h3:Chain P n A B p c1 c2 k tm0 blF nxF (j+1) σ2.bl σ2.nx):Chain P n A B p c1 c2 k tm0 blF nxF j bl nx
theorem AgS(hm:P.follows .mixedOrders=Ybv){X:Ctx}(hT:TOk P X.T)(hΓ:ΓOk P X.Γ){ia ib:Nat}{oa ob:Ybq Oper}{da db:Yb3}(ha:LP oa.toList=Ybv)(hb:LP ob.toList=Ybv){p c1 c2:Nat}{k:Int}{tm0:Ybt (Nat×V)}:∀{N j nx:Nat}{bl:Ybt (Nat×Blk)}{K:Ybt (Nat×Blk)->Nat->Ybw β},cH X n (.region ia oa da) (.region ib ob db) p c1 c2 k tm0 N j bl nx K=Ybs r->∃blF nxF,K blF nxF=Ybs r/\Chain P n (.region ia oa da) (.region ib ob db) p c1 c2 k tm0 blF nxF j bl nx
 |0,j,nx,bl,K,h=>by cases h
 |N+1,j,nx,bl,K,h=>by
  simp only[cH]at h;split at h
  ·rename_i t1 e l t2 k' h1 h2
   cases hc:(Ybr (k'=k)&&Ybr (e.size=1))with
   |false=>rw[hc]at h;cases h
   |true=>
    rw[hc,As]at h;obtain⟨q1,q2⟩:=andB hc;have q1:k'=k:=Bd q1;have q2:=Bd q2;subst q1;by_cases hl:l.length<=AR
    ·rw[Ao hl,As]at h
     have hR:UD c1 c2 k' bl e l:=⟨⟨t1,h1⟩,⟨t2,h2⟩,q2,hl⟩;by_cases hj:j*k'.toNat<l.length
     ·rw[Ao hj,As]at h
      unfold AgR at h;obtain⟨σ1,g1,g2⟩:=AgQ hm hT hΓ ha h;obtain⟨σ2,g3,g4⟩:=AgQ hm hT hΓ hb g1;obtain⟨blF,nxF,g5,g6⟩:=AgS hm hT hΓ ha hb g3;exact⟨blF,nxF,g5,.step σ1 σ2 hR hj g2 g4 g6⟩
     ·rw[Ar hj,C7]at h
      exact⟨bl,nx,h,.done hR hj⟩
    ·rw[Ar hl]at h;cases h
  ·cases h
structure ChunkOk (P:Program) (f:FuncId):Prop where
 enter:∀args w,(callFunc f args).run P w=.ok (.enter f args) w
 ok:∀(l g1 g2:Nat)(k:Int)(J:Nat->World->Prop),1<=k->k<=4096->(∀j W,J j W->J j {W with drawn:=W.drawn+1})->
  (∀j W,J j W->∃A len c,W.cell? ⟨g1,0,Ybu⟩=Ybs (.slice A len c)/\len<=AR/\len<=c/\(0<len->A.isSome=Ybv)/\W.cell? ⟨g2,0,Ybu⟩=Ybs (.int .i64 k))->
  (∀j W A len c,J j W->W.cell? ⟨g1,0,Ybu⟩=Ybs (.slice A len c)->j*k.toNat<len->
   YieldAt Fence.wide 1 P l #[.slice (A.map (·.add (j*k.toNat))) (min k.toNat (len-j*k.toNat)) (min k.toNat (len-j*k.toNat))] W λe W'=>e=.returned (.bool Ybv)/\J (j+1) W')->
  ∀W,J 0 W->CallsIn Fence.wide 2 P f #[.func (.yield l) #[] #[],.pointer (Ybs ⟨g1,0,Ybu⟩),.pointer (Ybs ⟨g2,0,Ybu⟩)] W λe W'=>
   (∃v,e=.returned v)/\∃j,J j W'/\∀A len c,W'.cell? ⟨g1,0,Ybu⟩=Ybs (.slice A len c)->len<=j*k.toNat
theorem AgT{ok0:OK0 P}{base:Nat}{pl:Nat->Ybw Pl}{bl:Nat->Ybw Blk}{w:World}(hr:RelB ok0 base pl bl w){b g:Nat}{t:TypeId}{x:C}(hb:bl b=Ybs (.cells t [x]))(hp:pl b=Ybs (.cells g)):∃v,w.cell? ⟨g,0,Ybu⟩=Ybs v/\CRep (At ok0 base pl bl w) x v:=by
 obtain⟨p,D0,hR⟩:=hr.blks b _ hb;rw[hp]at D0;injection D0 with D0;subst D0;obtain⟨vs,h1,h2⟩:=hR;obtain⟨v,Az,e,h3,h4⟩:=h2;subst e;refine⟨v,?_,h3⟩;have this:w.cell? ((⟨g,0,Ybu⟩:Addr).add 0)=Ybs v:=bR (n:=1) (j:=0) (o:=0) (u:=v) h1 (by simp);simpa [Addr.add]using this
theorem zip1(tm:Ybq Value)(p:Nat)(v:Value):((#[p]:Ybq Nat).zip #[v]).foldl (λt(x:Nat×Value)=>t.setIfInBounds x.1 x.2) tm=tm.setIfInBounds p v:=by simp
theorem Avh{α:Type}(l:Ybt α)(i k:Nat):(l.drop i).take k=(l.drop i).take (min k (l.length-i)):=by rw[<-List.take_take,GY (i:=l.length-i) (by rw[LA];exact Av _)]
set_option maxHeartbeats 1000000 in
theorem Avi{f g p c1 c2 ic:Nat}{A B:Code}{k:Int}(hC:ChunkOk P f)(hk1:1<=k)(hk2:k<=4096)(hpn:p<n){σ:St}(hgv:look σ.tm g=Ybs (.c (.fn f [c1,c2]))){blF:Ybt (Nat×Blk)}{nxF:Nat}(hch:Chain P n A B p c1 c2 k σ.tm blF nxF 0 σ.bl σ.nx){ok0:OK0 P}{base:Nat}{pl:Nat->Ybw Pl}{a:Act}{w:World}(hr:Rel n ok0 base pl (look σ.tm) (look σ.bl) a w):(Code.rangeFunc (.tmp g) #[p] A (.block ic B)).wp P (λe a' w'=>e=.normal/\∃pl':Nat->Ybw Pl,a'={a with defers:=[{target:=.collected w.heap.size,args:=#[]}]}/\w'.heap[w.heap.size]?=Ybs (.deferred (Ybs []))/\RelB (HS ok0 w.heap.size) base pl' (look blF) w'/\Step pl (look σ.bl) w pl' (look blF) w') a w:=by
 refine(wpIn_wide (n:=3)).1 (wpIn_rangeFunc λfn _=>?_);have hv:=hr.tmps g _ hgv;obtain⟨gs,hgs,hv⟩:=hv
 obtain⟨g1,g2,rfl,hp1,hp2⟩:∃g1 g2,gs=[g1,g2]/\pl c1=Ybs (.cells g1)/\pl c2=Ybs (.cells g2):=by
  match gs,hgs with
  |[g1,g2],h=>simp only[CH,M6,Dx,Fv]at h;exact⟨g1,g2,rfl,h.1,h.2⟩
  |[],h=>simp at h
  |[_],h=>simp at h
  |_::_::_::_,h=>simp at h
 generalize hD:w.heap.size=D at*;obtain⟨rc,hrc⟩:∃rc:LoopState->Ybw Code->Loop,rc=λst pe=>{state:=st,pending:=pe,fn,tmps:=a.tmps,params:=#[p],assign:=A,body:=.block ic B,defers:=D}:=⟨_,rfl⟩;obtain⟨W1,hW1⟩:∃W1,(w.alloc (.deferred (Ybs []))).alloc (.loop (rc .ready Ybu))=W1:=⟨_,rfl⟩;have hsz1:W1.heap.size=D+2:=by rw[<-hW1];simp[hD]
 have hL1:W1.heap[D+1]?=Ybs (.loop (rc .ready Ybu)):=by have:=World.alloc_heap_new (w.alloc (.deferred (Ybs []))) (.loop (rc .ready Ybu));rw[World.size_alloc,hD,hW1]at this;exact this
 have hD1:W1.heap[D]?=Ybs (.deferred (Ybs [])):=by have h1:=World.alloc_heap_new w (.deferred (Ybs []));rw[hD]at h1;rw[<-hW1];exact(Below.heap_alloc _ _ _ (by simp[hD])).trans h1
 have hk1':∀g,g<D->W1.heap[g]?=w.heap[g]?:=λg hg=>by rw[<-hW1];exact(Below.heap_alloc _ _ _ (by simp;omega)).trans (Below.heap_alloc _ _ _ (by omega))
 subst hD;obtain⟨hr1,hx1⟩:=hr.rel.enter hsz1 hk1'
 have hst0:Step pl (look σ.bl) w pl (look σ.bl) W1:=by refine⟨by rw[<-hW1];rfl,by rw[<-hW1];rfl,by rw[<-hW1];rfl,by omega,λg hg ho=>⟨hk1' g hg,ho⟩,λ_ _ h=>h,λb sv svs h=>⟨sv,svs,h,KeepR.refl _ _ _⟩⟩
 have hm1:∀t v,look σ.tm t=Ybs v->VRep (At (HS ok0 w.heap.size) base pl (look σ.bl) W1) v (a.tmps.getD t undef):=λt v ht=>VRep.mono hx1 (hr.tmps t v ht)
 have hf':a.eval (.tmp g)=.func (.func f) #[] #[.pointer (Ybs ⟨g1,0,Ybu⟩),.pointer (Ybs ⟨g2,0,Ybu⟩)]:=by show a.tmps.getD g undef=_;rw[hv];rfl
 let J:Nat->World->Prop:=λj W=>W.heap[w.heap.size+1]?=Ybs (.loop (rc .ready Ybu))/\W.heap[w.heap.size]?=Ybs (.deferred (Ybs []))/\
  ∃bl nx pl',Chain P n A B p c1 c2 k σ.tm blF nxF j bl nx/\RelB (HS ok0 w.heap.size) base pl' (look bl) W/\Step pl (look σ.bl) W1 pl' (look bl) W
 have hreads:∀{W:World}{bl:Ybt (Nat×Blk)}{pl':Nat->Ybw Pl}{e:Ty}{l:Ybt e.den},UD c1 c2 k bl e l->RelB (HS ok0 w.heap.size) base pl' (look bl) W->Step pl (look σ.bl) W1 pl' (look bl) W->
   W.cell? ⟨g2,0,Ybu⟩=Ybs (.int .i64 k)/\∃A' c,W.cell? ⟨g1,0,Ybu⟩=Ybs (.slice A' l.length c)/\DRep W (At (HS ok0 w.heap.size) base pl' (look bl) W).ok (.slice e) l [.slice A' l.length c]/\l.length<=c/\(0<l.length->A'.isSome=Ybv):=by
  rintro W bl pl' e l ⟨⟨t1,h1⟩,⟨t2,h2⟩,h3,h4⟩ hR hS;obtain⟨v1,q1,q2⟩:=AgT hR h1 (hS.cells _ _ hp1);obtain⟨v2,q3,q4⟩:=AgT hR h2 (hS.cells _ _ hp2);have q4:v2=.int .i64 k:=q4;subst q4;have q2:DRep W (At (HS ok0 w.heap.size) base pl' (look bl) W).ok (.slice e) l [v1]:=q2;have q5:=q2;simp only[DRep]at q5;obtain⟨A',c',xs,e1,k1,k2,k3,k4⟩:=q5;injection e1 with e1;subst e1;refine⟨q3,A',c',q1,q2,k1,λhpos=>?_⟩;have hl:=k3.length;rw[h3]at hl;obtain⟨ad,e2,_⟩:=k4 0 (xs[0]'(by omega)) (Ff _);rw[e2];rfl
 refine⟨w.heap.size+1,[{target:=.collected w.heap.size,args:=#[]}],W1,{target:=.fn (.func f) #[.pointer (Ybs ⟨g1,0,Ybu⟩),.pointer (Ybs ⟨g2,0,Ybu⟩)],args:=#[.func (.yield (w.heap.size+1)) #[] #[]]},W1,f,
  #[.func (.yield (w.heap.size+1)) #[] #[],.pointer (Ybs ⟨g1,0,Ybu⟩),.pointer (Ybs ⟨g2,0,Ybu⟩)],W1,?_,?_,λ_ _=>trivial,?_,λh=>(by cases h),?_⟩
 ·rw[<-hW1,hrc];exact run_enterLoop_outer _ _ _ _ _
 ·simp only[resolve,hf']
  simp[go_sem]
 ·simp[invoke,go_sem,hC.enter]
 ·refine(hC.ok (w.heap.size+1) g1 g2 k J hk1 hk2 ?_ ?_ ?_ W1 ⟨hL1,hD1,σ.bl,σ.nx,pl,hch,hr1,Step.refl _ _ _⟩).mono ?_
  ·rintro j W ⟨h1,h2,bl,nx,pl',h3,h4,h5⟩
   exact⟨h1,h2,bl,nx,pl',h3,(h4.same (w':={W with drawn:=W.drawn+1}) rfl).1,h5.trans ⟨rfl,rfl,rfl,Av _,λg _ h=>⟨rfl,h⟩,λ_ _ h=>h,λb sv svs h=>⟨sv,svs,h,KeepR.refl _ _ _⟩⟩⟩
  ·rintro j W ⟨h1,h2,bl,nx,pl',h3,h4,h5⟩
   have key:∀{e:Ty}{l:Ybt e.den},UD c1 c2 k bl e l->∃A len c,W.cell? ⟨g1,0,Ybu⟩=Ybs (.slice A len c)/\len<=AR/\len<=c/\(0<len->A.isSome=Ybv)/\W.cell? ⟨g2,0,Ybu⟩=Ybs (.int .i64 k):=λhR=>by obtain⟨q1,A',c,q2,_,q3,q4⟩:=hreads hR h4 h5;exact⟨A',_,c,q2,hR.2.2.2,q3,q4,q1⟩
   cases h3 with
   |done hR _=>exact key hR
   |step _ _ hR _ _ _ _=>exact key hR
  ·rintro j W A0 len c0 ⟨h1,h2,bl,nx,pl',h3,h4,h5⟩ hcell hlt
   cases h3 with
   |done hR hj=>obtain⟨_,A',c,q2,_⟩:=hreads hR h4 h5;rw[q2]at hcell;injection hcell with hcell;injection hcell with _ e2 _;exact Yb0 (e2▸hlt) hj
   |step σ1 σ2 hR hj hA hB hnext=>
    rename_i e l;obtain⟨_,A',c,q2,q3,_⟩:=hreads hR h4 h5;rw[q2]at hcell;injection hcell with hcell;injection hcell with e1 e2 e3;subst e1 e2 e3;have hy:=run_yield (P:=P) (args:=#[.slice (A'.map (·.add (j*k.toNat))) (min k.toNat (l.length-j*k.toNat)) (min k.toNat (l.length-j*k.toNat))]) h1 (by rw[hrc];rfl);rw[hrc]at hy;dsimp only at hy;rw[show(((#[p]:Ybq Nat).zip #[Value.slice (A'.map (·.add (j*k.toNat))) (min k.toNat (l.length-j*k.toNat)) (min k.toNat (l.length-j*k.toNat))]).foldl (λtmps x=>match x with|(t,a)=>tmps.setIfInBounds t a) a.tmps)=_ from zip1 _ _ _]at hy;refine⟨fn,_,A,.block ic B,hy,roundIn_of_wpIn trivial ?_⟩;have hch1:=Avg (i:=j*k.toNat) (m:=min k.toNat (l.length-j*k.toNat)) q3 (by omega);rw[hR.2.2.1,Nat.mul_one,<-Avh]at hch1
    have hrel:Rel n (HS ok0 w.heap.size) base pl' (look (put σ.tm p (.c (.list e ((l.drop (j*k.toNat)).take k.toNat))))) (look bl)
      {tmps:=a.tmps.setIfInBounds p (.slice (A'.map (·.add (j*k.toNat))) (min k.toNat (l.length-j*k.toNat)) (min k.toNat (l.length-j*k.toNat))),defers:=[]} W:=by
     refine⟨rfl,by simp[hr.size],λt v ht=>?_,h4⟩;rw[aR]at ht;by_cases htp:t=p
     ·subst htp
      rw[if_pos rfl]at ht;injection ht with ht;subst ht;simp only[F6];rw[Array.getElem?_setIfInBounds_self_of_lt (by rw[hr.size];exact hpn)];exact hch1
     ·rw[if_neg htp]at ht
      simp only[F6];rw[Array.getElem?_setIfInBounds_ne (Ne.symm htp),<-F6];exact VRep.mono h5.ext (hm1 t v ht)
    refine wpIn_mono (hA (w.heap.size+1) _ _ base pl' _ W hrel) ?_;rintro e1 a1 w1 ⟨rfl,pl1,hrel1,st1⟩;have noL:(HS ok0 w.heap.size).no (w.heap.size+1):=.inr (.inr rfl);have noD:(HS ok0 w.heap.size).no w.heap.size:=.inr (.inl rfl);have hLw1:w1.heap[w.heap.size+1]?=Ybs (.loop (rc .ready Ybu)):=(st1.out _ (h4.glob.no _ noL).1 (h4.glob.no _ noL).2).1.trans h1;have hDw1:w1.heap[w.heap.size]?=Ybs (.deferred (Ybs [])):=(st1.out _ (h4.glob.no _ noD).1 (h4.glob.no _ noD).2).1.trans h2;refine⟨_,run_beginRound hLw1 (by rw[hrc]),?_⟩;obtain⟨hr2,hx2⟩:=hrel1.rel.putO noL (tE _ _ _) (.loop {rc .ready Ybu with state:=.busy})
    have hrel2:Rel n (HS ok0 w.heap.size) base pl1 (look σ1.tm) (look σ1.bl) a1 (w1.putObj (w.heap.size+1) (.loop {rc .ready Ybu with state:=.busy})):=
     ⟨hrel1.defers,hrel1.size,λt v ht=>VRep.mono hx2 (hrel1.tmps t v ht),hr2⟩
    refine wpIn_block (wpIn_mono (hB (w.heap.size+1) _ _ base pl1 a1 _ hrel2) ?_);rintro e2 a2 w3 ⟨rfl,pl2,hrel3,st2⟩;have hlt1:w.heap.size+1<w1.heap.size:=(hrel1.rel.glob.no _ noL).1
    have hLw3:w3.heap[w.heap.size+1]?=Ybs (.loop {rc .ready Ybu with state:=.busy}):=
     (st2.out _ (hr2.glob.no _ noL).1 (hr2.glob.no _ noL).2).1.trans (World.putObj_heap_same hlt1)
    have hDw3:w3.heap[w.heap.size]?=Ybs (.deferred (Ybs [])):=
     (st2.out _ (hr2.glob.no _ noD).1 (hr2.glob.no _ noD).2).1.trans ((World.putObj_heap_other (by omega)).trans hDw1)
    refine⟨_,_,run_endRound Ybu hLw3,rfl,?_,?_,σ2.bl,σ2.nx,pl2,hnext,(hrel3.rel.putO noL (tE _ _ _) _).1,?_⟩
    ·rw[World.putObj_heap_same (hrel3.rel.glob.no _ noL).1,hrc];rfl
    ·exact(World.putObj_heap_other (by omega)).trans hDw3
    ·refine(h5.trans st1).trans ⟨st2.os,st2.tape,st2.output,by have:=st2.size;simpa using this,λg hg ho=>?_,st2.cells,st2.rows⟩
     obtain⟨s1,s2⟩:=st2.out g (by simpa using hg) ho;refine⟨?_,s2⟩;by_cases hgL:g=w.heap.size+1
     ·subst hgL
      rw[World.putObj_heap_same (hrel3.rel.glob.no _ noL).1,hLw1,hrc];rfl
     ·rw[World.putObj_heap_other hgL,s1,World.putObj_heap_other hgL]
  ·rintro e W2 ⟨⟨v,rfl⟩,j,⟨h1,h2,bl,nx,pl',h3,h4,h5⟩,hend⟩
   have hfin:bl=blF:=by
    cases h3 with
    |done _ _=>rfl
    |step _ _ hR hj _ _ _=>obtain⟨_,A',c,q2,_⟩:=hreads hR h4 h5;exact Yb0 hj (Nat.not_lt.2 (hend _ _ _ q2))
   subst hfin;have noL:(HS ok0 w.heap.size).no (w.heap.size+1):=.inr (.inr rfl);refine⟨Ybu,_,(by have:=run_endLoop (P:=P) h1 (by rw[hrc];simp);rw[hrc]at this;exact this),rfl,pl',?_,?_,(h4.putO noL (tE _ _ _) _).1,?_⟩
   ·rw[hr.defers];rfl
   ·exact(World.putObj_heap_other (by omega)).trans h2
   ·have h6:=hst0.trans h5
    refine⟨h6.os,h6.tape,h6.output,by simpa using h6.size,λg hg ho=>?_,h6.cells,h6.rows⟩;obtain⟨s1,s2⟩:=h6.out g hg ho;exact⟨(World.putObj_heap_other (by omega)).trans s1,s2⟩
def andThen{β:Type}(X:Ctx)(n:Nat)(c:Code)(σ:St)(K:St->Ybw β):Ybw β:=
 exec X n (λ_=>Ybu) 1 c σ λe σ'=>
  match e with
  |.normal=>K σ'
  |_=>Ybu
theorem tF(hm:P.follows .mixedOrders=Ybv){X:Ctx}(hT:TOk P X.T)(hΓ:ΓOk P X.Γ){c:Code}{σ:St}{K:St->Ybw β}(h:andThen X n c σ K=Ybs r):∃σ',K σ'=Ybs r/\∀(ok0:OK0 P)(base:Nat)(pl:Nat->Ybw Pl)(a:Act)(w:World),Rel n ok0 base pl (look σ.tm) (look σ.bl) a w->c.wp P (λe a' w'=>e=.normal/\∃Ak,Rel n ok0 base Ak (look σ'.tm) (look σ'.bl) a' w'/\Step pl (look σ.bl) w Ak (look σ'.bl) w') a w:=by
 unfold andThen at h;obtain⟨e,σ',h1,h2⟩:=sO (R:=Agf) (fr:=λ_:Unit=>fr0) hm (λ_ _ _ _ _ _ _=>trivial) hT hΓ (λ_ _ h=>by cases h) h;cases e with
 |normal=>exact⟨σ',h1,λok0 base pl a w hr=>F9 (h2 () ok0 base pl a w hr) λe a' w' hq=>hq⟩
 |exit id=>cases h1
 |ret=>cases h1
def tG{β:Type}(X:Ctx)(n:Nat)(d0 d1 d2 A B:Code)(g p fI:Nat)(k:Int)(N:Nat)(σ:St)(K:St->Ybw β):Ybw β:=
 andThen X n d0 σ λσ=>andThen X n d1 σ λσ=>andThen X n d2 σ λσ=>
  match look σ.tm g with
  |some (.c (.fn f [b1,b2]))=>bif Nat.beq f fI then cH X n A B p b1 b2 k σ.tm N 0 σ.bl σ.nx (λbl nx=>K ⟨[],bl,nx⟩)else Ybu
  |_=>Ybu
set_option maxHeartbeats 1000000 in
theorem Avj(Dp:P.follows .mixedOrders=Ybv){X:Ctx}(hT:TOk P X.T)(hΓ:ΓOk P X.Γ){ps:Ybt (Yb3×Ybt CT)}{is os:Ybt BT}{f:FuncId}{fn:Func}{d0 d1 d2:Code}{id ic ia ib g p fI N:Nat}{oa ob:Ybq Oper}{da db:Yb3}{k:Int}{run:{β:Type}->ST.dens ps×BT.dens is->(ST.dens []×BT.dens os->Ybw β)->Ybw β}(hC:ChunkOk P fI)(hf:P.funcs[f]?=Ybs fn)(Ex:(fn.name== "runtime.NumGoroutine")=Ybx)(hb:fn.body=Ybs (.seq d0 (.seq d1 (.seq d2 (.block id (.rangeFunc (.tmp g) #[p] (.region ia oa da) (.block ic (.region ib ob db))))))))(KG:fn.results.toList=[])(hc:(LP oa.toList&&(LP ob.toList&&(Ybr (1<=k/\k<=4096)&&(Nat.blt p fn.ntmps&&Nat.ble ps.length fn.ntmps))))=Ybv)(h:∀{β:Type}(x:ST.dens ps×BT.dens is)(k':ST.dens []×BT.dens os->Ybw β)(r:β),run x k'=Ybs r->tG X fn.ntmps d0 d1 d2 (.region ia oa da) (.region ib ob db) g p fI k N ((vIn ⟨ps,is,[],os,run⟩).mk' x) (P6 X.T ⟨ps,is,[],os,run⟩ [] k')=Ybs r):SpecOkB P f ⟨ps,is,[],os,run⟩:=by
 obtain⟨n1,hc⟩:=andB hc;obtain⟨n2,hc⟩:=andB hc;obtain⟨n3,hc⟩:=andB hc;obtain⟨n4,o4⟩:=andB hc;have n3:=Bd n3;have n4:p<fn.ntmps:=by rw[Nat.blt_eq]at n4;exact n4
 have o4:=IP o4;refine⟨⟨fn,hf,Ex,by rw[hb];rfl⟩,λx k' r hr=>?_⟩;have Jh:=h x k' r hr;unfold tG at Jh;obtain⟨σ0,Ara,s0⟩:=tF Dp hT hΓ Jh;clear Jh;obtain⟨σ1,Arb,s1⟩:=tF Dp hT hΓ Ara;clear Ara;obtain⟨σ2,Jh,s2⟩:=tF Dp hT hΓ Arb;clear Arb;split at Jh
 case h_2=>cases Jh
 rename_i fv b1 b2 Adv;cases XM:Nat.beq fv fI with
 |false=>rw[XM]at Jh;cases Jh
 |true=>
  rw[XM,As]at Jh;have XM:=AB XM;subst XM;obtain⟨blF,nxF,hK,Adm⟩:=AgS Dp hT hΓ n1 n2 Jh;unfold P6 at hK;simp only[IW]at hK;split at hK
  ·rename_i y hy
   refine⟨y,hK,λok0 base pl w args _hbase DJ Bv=>?_⟩;have AU:args.length=ps.length:=by rw[TReps.length Bv,sX]
   refine(callsIn_wide (n:=3)).1 (callsIn_of_wp_marks hf hb trivial (wpIn_wide.2 ?_))
   let S:Spec:=⟨ps,is,[],os,run⟩
   have Zm:Rel fn.ntmps ok0 base pl (look ((vIn S).mk' x).tm) (look ((vIn S).mk' x).bl) {tmps:=args.toArray++Yb4 (fn.ntmps-args.toArray.size) undef,defers:=[]} w:=by have ebl:look ((vIn S).mk' x).bl=fnBl (mkB (AP 0 S.ins.length) S.ins x.2):=P5 (vIn S) x;rw[ebl];refine⟨rfl,by simp;omega,λt v ht=>?_,DJ⟩;refine sW (s:=0) Bv (λj hj=>?_) t v ht;simp only[DZ,F6];rw[ZN (by simpa using hj)];simp[List.getD]
   refine wp_seq (F9 (s0 ok0 base pl _ w Zm) ?_);rintro e a0 w0 ⟨rfl,pl0,o5,st0⟩;refine wp_seq (F9 (s1 ok0 base pl0 a0 w0 o5) ?_);rintro e a1 w1 ⟨rfl,pl1,Nt,st1⟩;refine wp_seq (F9 (s2 ok0 base pl1 a1 w1 Nt) ?_);rintro e a2 w2 ⟨rfl,pl2,Fa,st2⟩;refine wp_block (F9 (Avi hC n3.1 n3.2 n4 Adv Adm Fa) ?_);rintro e a3 w3 ⟨rfl,pl3,rfl,hD,AM1,st3⟩;have ArE:=(AM1.putO (X:=w2.heap.size) (.inr (.inl rfl)) (Avf _ _ _) (.deferred Ybu)).1.leave
   have st4:Step pl (look ((vIn S).mk' x).bl) w pl3 (look blF) (w3.putObj w2.heap.size (.deferred Ybu)):=by have h6:=((st0.trans st1).trans st2).trans st3;have Cp:=((st0.trans st1).trans st2).size;refine⟨h6.os,h6.tape,h6.output,by simpa using h6.size,λg hg ho=>?_,h6.cells,h6.rows⟩;obtain⟨q1,q2⟩:=h6.out g hg ho;exact⟨(World.putObj_heap_other (by omega)).trans q1,q2⟩
   have BA:Rel fn.ntmps ok0 base pl3 (look []) (look blF) {a2 with defers:=[]} (w3.putObj w2.heap.size (.deferred Ybu)):=
    ⟨rfl,Fa.size,λt v ht=>(by rw[Fw]at ht;cases ht),ArE⟩
   obtain⟨Bw,AJ,OO⟩:=sY hT (rs:=[]) (by rw[KG];rfl) (tm:=[]) (bl:=blF) (vs:=[]) rfl (λ_ _ h=>h) BA;have OR:Bw=[]:=OO;subst OR
   have Ae0:Rel ([]:Ybt Value).length ok0 base pl3 (look (numV 0 ([]:Ybt V))) (look blF) {tmps:=([]:Ybt Value).toArray,defers:=[]} (w3.putObj w2.heap.size (.deferred Ybu)):=
    ⟨rfl,rfl,λt v ht=>(by simp only[numV,Fw]at ht;cases ht),ArE⟩
   obtain⟨plv,FF,GU⟩:=View.weaken (σ:=⟨numV 0 ([]:Ybt V),blF,nxF⟩) hy Ae0;have ebl:look ((vIn S).mk' x).bl=fnBl (mkB (AP 0 S.ins.length) S.ins x.2):=P5 (vIn S) x;have ebo:look ((vRes S).mk' y).bl=fnBl (mkB (AP 0 S.outs.length) S.outs y.2):=P5 (vRes S) y;rw[ebo]at FF GU;rw[ebl]at st4;refine⟨by simp,.inl ⟨_,_,rfl,run_takeDeferred hD,_,AJ,[],plv,rfl,FF.rel,st4.toM.trans GU,rfl⟩⟩
  ·cases hK
end
structure RB where
 d0:Code
 d1:Code
 d2:Code
 id:Nat
 g:Nat
 p:Nat
 ia:Nat
 oa:Ybq Oper
 da:Yb3
 ic:Nat
 ib:Nat
 ob:Ybq Oper
 db:Yb3
def RB.code(b:RB):Code:=.seq b.d0 (.seq b.d1 (.seq b.d2 (.block b.id (.rangeFunc (.tmp b.g) #[b.p] (.region b.ia b.oa b.da) (.block b.ic (.region b.ib b.ob b.db))))))
def rbOf:Code->RB
 |.seq d0 (.seq d1 (.seq d2 (.block id (.rangeFunc (.tmp g) ps (.region ia oa da) (.block ic (.region ib ob db))))))=>⟨d0,d1,d2,id,g,ps.getD 0 0,ia,oa,da,ic,ib,ob,db⟩
 |_=>⟨.skip,.skip,.skip,0,0,0,0,#[],Ybx,0,0,#[],Ybx⟩
section
variable[Sl]
theorem Avk{P:Program}(Dp:P.follows .mixedOrders=Ybv){X:Ctx}(hT:TOk P X.T)(es:Ybt (Ent P))(hX:X.Γ=gam es){ps:Ybt (Yb3×Ybt CT)}{is os:Ybt BT}{f:FuncId}{fn:Func}(fI N:Nat)(k:Int)(hC:ChunkOk P fI){s:(β:Type)->VF (KF (Ybw β) [] os->Ybw β) ps is}(hf:P.funcs[f]?=Ybs fn)(hc:((fn.name== "runtime.NumGoroutine"),fn.body,fn.results.toList,(LP (rbOf (Au fn)).oa.toList&&(LP (rbOf (Au fn)).ob.toList&&(Ybr (1<=k/\k<=4096)&&(Nat.blt (rbOf (Au fn)).p fn.ntmps&&Nat.ble ps.length fn.ntmps)))))=(Ybx,Ybs (rbOf (Au fn)).code,[],Ybv))(h:∀{β:Type}(x:ST.dens ps×BT.dens is)(k':ST.dens []×BT.dens os->Ybw β),tG X fn.ntmps (rbOf (Au fn)).d0 (rbOf (Au fn)).d1 (rbOf (Au fn)).d2 (.region (rbOf (Au fn)).ia (rbOf (Au fn)).oa (rbOf (Au fn)).da) (.region (rbOf (Au fn)).ib (rbOf (Au fn)).ob (rbOf (Au fn)).db) (rbOf (Au fn)).g (rbOf (Au fn)).p fI k N ((vIn (sgE ps is [] os s)).mk' x) (P6 X.T (sgE ps is [] os s) [] k')=vapp ps is (s β) x (klam [] os k')):SpecOkB P f (sgE ps is [] os λβ=>hid (s β)):=by
 simp only[Cb]at hc;obtain⟨h1,h2,h3,h4⟩:=hc;rw[cE];exact Avj Dp hT (hX▸KU es) hC hf h1 h2 h3 h4 λx k' r hr=>(h x k').trans hr
end
end
end Go.Lift
