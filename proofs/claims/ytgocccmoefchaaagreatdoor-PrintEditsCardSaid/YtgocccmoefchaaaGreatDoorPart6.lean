/- Part6: LiftRf, LiftRg. -/
import Derived.OrdersIn
import Derived.RangeFuncLeaves
import Derived.RangeFuncRecord
import Derived.RangeFuncSeq
import Derived.Test.YtgocccmoefchaaaGreatDoorPart5
set_option linter.unusedVariables false
set_option linter.unusedSectionVars false
set_option linter.unusedSimpArgs false
namespace Go.Lift
noncomputable section
open Go.RowKit
abbrev rnd(l:Nat):Fence:=Fence.wide.inRound l
def Kc(ops:List Oper):Bool:=ops.all λo=>match o.op with|.defer _=>false|_=>true
theorem gL{ops:Array Oper}(h:Kc ops.toList=true){i:Nat}{o:Oper}(ho:ops[i]?=some o):∀c,o.op≠.defer c:=by
 intro c e;have hm:o∈ops.toList:=by rw[Array.mem_toList_iff];exact Array.mem_of_getElem? ho
 have:=Ef.1 h o hm;rw[e]at this;cases this
section
variable{P:Program}{ops:Array Oper}{Q:Exit->Act->World->Prop}{l m:Nat}
theorem AlV{row:String}{args:Array Value}{w:World}{R:Value->World->Prop}(h:Go.Rows P row args w R):RowsIn (rnd l) m P row args w R:=
 λc cs _=>let⟨v,w',r,s⟩:=h c cs;⟨v,w',r,stepsIn_wide.2 s⟩
theorem gM{o:Oper}{a:Act}{w:World}{K K':Act->World->Prop}(hd:∀c,o.op≠.defer c)(hK:∀a w,K a w->K' a w)(h:o.wp P a w K Q):o.wpIn (rnd l) m P a w K' Q:=by
 refine⟨λ_ _=>trivial,?_⟩;rw[Oper.semAt_eq _ _ _ hd];unfold Oper.wp at h;generalize(execOp a.eval o).run P w=r at*;cases r with
 |ok x w'=>
  cases x<;>simp only[Oper.upon,Oper.uponIn]at h⊢<;>try exact hK _ _ h
  ·rename_i f args
   have h2:=(callsIn_wide (n:=m-1)).2 h;refine⟨λhh=>(by cases hh),CallsIn.mono (show CallsIn (rnd l) (m-1) P f args w' _ from h2) ?_⟩;intro e w'' he;cases e<;>first|exact hK _ _ he|exact he
  ·exact⟨λhh=>(by cases hh),AlV (h.mono λv w'' hv=>hK _ _ hv)⟩
  all_goals exact h.elim
 |halt x w'=>cases x<;>simp only[Oper.upon,Oper.uponIn]at h⊢<;>exact h
theorem W8(hd:Kc ops.toList=true)(hL:¬LetsOut Q):∀(is:List Nat)(a:Act)(w:World),wpOps P ops Q is a w->wpOpsIn (rnd l) m P ops Q is a w
 |[],a,w,h=>h
 |i::is,a,w,h=>by
  simp only[wpOps,wpOpsIn]at h⊢;cases ho:ops[i]? with
  |none=>simp only[ho]at h⊢;exact W8 hd hL is a w h
  |some o=>
   simp only[ho]at h⊢;by_cases hw:Region.wanted o (yielded ops a.tmps)=true
   ·simp only[hw,Dn]at h⊢
    rcases h with h|h
    ·exact gM (gL hd ho) (λa w hk=>W8 hd hL is a w hk) h
    ·exact absurd h.2 hL
   ·simp only[hw,Cx,HE]at h⊢
    exact⟨λ_ _=>trivial,W8 hd hL is _ w h⟩
theorem RI(hd:Kc ops.toList=true)(hL:¬LetsOut Q){md:Region.Mode}:∀(k:Nat)(listed:Array Bool)(a:Act)(w:World),wpAny P md ops Q k listed a w->wpAnyIn (rnd l) m P md ops Q k listed a w
 |0,listed,a,w,h=>h
 |k+1,listed,a,w,⟨h0,h1⟩=>by
  refine⟨h0,λi hi=>?_⟩;have h:=h1 i hi;unfold wpOp at h;unfold wpOpIn;cases ho:ops[i]? with
  |none=>simp only[ho]at h⊢;exact RI hd hL k _ a w h
  |some o=>
   simp only[ho]at h⊢;by_cases hw:Region.wanted o (yielded ops a.tmps)=true
   ·simp only[hw,Dn]at h⊢
    first
     |exact gM (gL hd ho) (λa w hk=>RI hd hL k _ a w hk) h
     |(rcases h with h|h
       ·exact gM (gL hd ho) (λa w hk=>RI hd hL k _ a w hk) h
       ·exact absurd h.2 hL)
   ·simp only[hw,Cx,HE]at h⊢
    exact⟨λ_ _=>trivial,RI hd hL k _ _ w h⟩
end
section
variable{P:Program}{n:Nat}{β:Type}{r:β}
theorem AlW(hm:P.follows .mixedOrders=true){X:Ctx}(hT:TOk P X.T)(hΓ:ΓOk P X.Γ){ops:Array Oper}{draw:Bool}{σ:St}{k:Kx β}(h:(JV X n ops (G7 0 ops.toList) σ [] λσ' log=>bif KO X.A log&&(!draw||(JW (G7 0 ops.toList)&&fine (Gj ops.toList []) log))then k .normal σ' else none)=some r):∃σ',k .normal σ'=some r/\∀(ok0:OK0 P)(base:Nat)(pl:Nat->Option Pl)(a:Act)(w:World)(Q:Exit->Act->World->Prop),Rel n ok0 base pl (look σ.tm) (look σ.bl) a w->(∀Ai a' w',Rel n ok0 base Ai (look σ'.tm) (look σ'.bl) a' w'->Step pl (look σ.bl) w Ai (look σ'.bl) w'->Q .normal a' w')->(draw=false->wpOps P ops Q (List.range ops.size) a w)/\(draw=true->wpAny P .any ops Q ops.size (Array.replicate ops.size false) a {w with drawn:=w.drawn+1}):=by
 obtain⟨es,σ',h1,h2,h3,h4,h5⟩:=Wx hT hΓ (RD ops.toList 0 (by simp)) h;rw[RC]at h2;have Ei:es.map (·.i)=List.range ops.size:=by rw[h2,cI];simp
 simp only[II]at h1
 have hc:KO X.A es.reverse=true/\(!draw||(JW (G7 0 ops.toList)&&fine (Gj ops.toList []) es.reverse))=true/\k .normal σ'=some r:=by
  cases hb:(KO X.A es.reverse&&(!draw||(JW (G7 0 ops.toList)&&fine (Gj ops.toList []) es.reverse)))with
  |false=>rw[hb]at h1;cases h1
  |true=>rw[hb]at h1;exact⟨(andB hb).1,(andB hb).2,h1⟩
 obtain⟨_,hc⟩:=hc;refine⟨σ',hc.2,λok0 base pl a w Q hr hq=>⟨λhd=>?_,λhd=>?_⟩⟩
 ·rw[<-Ei]
  exact fR h3 hr λAi a' w' Bv BN=>hq Ai a' w' (by rw[h4,h5];exact Bv) (by rw[h5];exact BN)
 ·subst hd
  have Hl:=hc.1;simp only[VN,MO,C5]at Hl;obtain⟨hb,hf⟩:=Hl
  have J8:∀(j:Nat)(o:Oper),ops[j]?=some o->∀e∈o.after,Region.binds .any e=true->e.on<j:=by
   intro j o ho;have hj:j<ops.size:=(HD.1 ho).1
   have CX:j∈(G7 0 ops.toList).map (·.1):=by rw[RC];simp only[G3,List.mem_range'_1];omega
   obtain⟨p,hp,e⟩:=Hb.1 CX;have h6:=RD (ops:=ops) ops.toList 0 (by simp) p hp;rw[e,ho]at h6;injection h6 with h6;have:=fT hb p hp;rw[e,<-h6]at this;exact this
  have K0:∀i,(∃e∈es,e.i=i)↔i<ops.size:=by intro i;rw[<-VL,<-Ei,Hb]
  refine yZ J8 ops.size (es:=es) ?_ (by simp) ?_ (λi hi=>?_) ?_ (λe he=>(K0 e.i).1 ⟨e,he,rfl⟩) ?_ h3 (hr.drawn (w':={w with drawn:=w.drawn+1}) rfl) λAi a' w' Bv BN=>hq Ai a' w' ?_ ?_
  ·have:=At List.length Ei
   simpa using this
  ·intro j o _ hj
   exfalso;rw[EL]at hj;rcases QX j ops.size with h7|h7
   ·simp[h7]at hj
   ·simp[Nat.not_lt.2 h7]at hj
  ·constructor
   ·intro _;exact(K0 i).2 hi
   ·intro _;simp[EL,hi]
  ·have:(es.map (·.i)).Pairwise (· < ·):=by rw[Ei];exact List.pairwise_lt_range
   exact List.pairwise_map.1 this
  ·have:=fU hf
   exact List.pairwise_reverse.1 this
  ·rw[h4,h5];exact Bv
  ·rw[h5]
   exact BN.undrawn
def RSim(P:Program)(n:Nat)(A:Code)(σ σ':St):Prop:=
 ∀(l m:Nat)(ok0:OK0 P)(base:Nat)(pl:Nat->Option Pl)(a:Act)(w:World),Rel n ok0 base pl (look σ.tm) (look σ.bl) a w->
  A.wpIn (rnd l) m P (λe a' w'=>e=.normal/\∃Ai,Rel n ok0 base Ai (look σ'.tm) (look σ'.bl) a' w'/\Step pl (look σ.bl) w Ai (look σ'.bl) w') a w
theorem Aa9(hm:P.follows .mixedOrders=true){X:Ctx}(hT:TOk P X.T)(hΓ:ΓOk P X.Γ){id:Nat}{ops:Array Oper}{draw:Bool}{σ:St}{k:Kx β}(hd:Kc ops.toList=true)(h:exec X n (λ_=>none) 1 (.region id ops draw) σ k=some r):∃σ',k .normal σ'=some r/\RSim P n (.region id ops draw) σ σ':=by
 unfold exec at h;obtain⟨σ',h1,h2⟩:=AlW hm hT hΓ h;refine⟨σ',h1,λl m ok0 base pl a w hr=>?_⟩;have hL:¬LetsOut (λ(e:Exit)(a':Act)(w':World)=>e=.normal/\∃Ai,Rel n ok0 base Ai (look σ'.tm) (look σ'.bl) a' w'/\Step pl (look σ.bl) w Ai (look σ'.bl) w'):=λ⟨_,_,hh,_⟩=>by cases hh
 obtain⟨g1,g2⟩:=h2 ok0 base pl a w (λ(e:Exit)(a':Act)(w':World)=>e=.normal/\∃Ai,Rel n ok0 base Ai (look σ'.tm) (look σ'.bl) a' w'/\Step pl (look σ.bl) w Ai (look σ'.bl) w') hr λAi a' w' q1 q2=>⟨rfl,Ai,q1,q2⟩;cases draw with
 |false=>exact wpIn_region (W8 hd hL _ _ _ (g1 rfl))
 |true=>exact wpIn_region_any hm (RI hd hL _ _ _ _ (g2 rfl))
end
end
end Go.Lift
namespace Go.Lift
noncomputable section
open Go.RowKit
section
variable{P:Program}{ok0 ok1:OK0 P}{base n:Nat}{pl:Nat->Option Pl}{bl:Nat->Option Blk}{w w':World}
def Shut(ok:OK0 P)(base X:Nat):Prop:=∀g,(ok g\/(base<=g/\¬ok.no g))->g≠X
theorem RelB.into(hr:RelB ok0 base pl bl w)(hs:w.heap.size<=w'.heap.size)(hk:∀g,g<w.heap.size->(Own pl bl g\/(ok0 g\/(base<=g/\¬ok0.no g)))->w'.heap[g]?=w.heap[g]?)(Dg:∀g,g<w.heap.size->(ok0 g\/(base<=g/\¬ok0.no g))->(ok1 g\/(base<=g/\¬ok1.no g)))(hg:Glob ok1 pl bl w'):RelB ok1 base pl bl w'/\Ext (Al ok0 base pl bl w) (Al ok1 base pl bl w'):=by
 have hx:Ext (Al ok0 base pl bl w) (Al ok1 base pl bl w'):=⟨AC _,λg h1 h2=>⟨⟨Dg g h2 h1.1,h1.2⟩,hk g h2 (.inr h1.1)⟩,λ_ _ h=>h,λ_ sv Ab h=>⟨sv,Ab,h,KeepR.refl _ _ _⟩⟩;refine⟨⟨Df hr.baseLe hs,λi B hB=>?_,hr.sep,hr.fresh,hg⟩,hx⟩;obtain⟨p,hp,hR⟩:=hr.blks i B hB;refine⟨p,hp,?_⟩;cases hl:B.live with
 |false=>cases B<;>first|exact trivial|simp[Blk.live]at hl
 |true=>have ho:∀g,p.has g->Own pl bl g:=λg hq=>⟨i,B,p,hB,hl,hp,hq⟩;exact BRep.mono hx hR λg hq=>hk g (Own.lt hr (ho g hq)) (.inl (ho g hq))
theorem RelB.putO(hr:RelB ok0 base pl bl w){X:Nat}(hX:ok0.no X)(hS:Shut ok0 base X)(o:Obj):RelB ok0 base pl bl (w.putObj X o)/\Ext (Al ok0 base pl bl w) (Al ok0 base pl bl (w.putObj X o)):=by
 have hn:=hr.glob.no X hX;refine hr.into (by simp) (λg _ h=>World.putObj_heap_other ?_) (λ_ _ h=>h) ⟨hr.glob.g0.gen (by simp) (λg _ h1 h2=>⟨World.putObj_heap_other (by rintro rfl;exact h2 hX),h1⟩) λ_ h=>.inl h,λg h=>by simpa using hr.glob.no g h⟩;rintro rfl;rcases h with h|h
 ·exact hn.2 h
 ·exact hS g h rfl
theorem RelB.same(hr:RelB ok0 base pl bl w)(hw:w'.heap=w.heap):RelB ok0 base pl bl w'/\Ext (Al ok0 base pl bl w) (Al ok0 base pl bl w'):=
 hr.into (by rw[hw];exact AC _) (λg _ _=>by rw[hw]) (λ_ _ h=>h) (hr.glob.out (by rw[hw];exact AC _) λg _ h=>⟨by rw[hw],h⟩)
def Hd(ok:OK0 P)(D:Nat):OK0 P:=⟨λg=>ok g/\g≠D/\g≠D+1,λg=>ok.no g\/g=D\/g=D+1⟩
theorem AlX(ok:OK0 P)(D base:Nat):Shut (Hd ok D) base D:=λg h=>h.elim (λh=>h.2.1) λh e=>h.2 (.inr (.inl e))
theorem gN(ok:OK0 P)(D base:Nat):Shut (Hd ok D) base (D+1):=λg h=>h.elim (λh=>h.2.2) λh e=>h.2 (.inr (.inr e))
theorem RelB.enter(hr:RelB ok0 base pl bl w)(hs:w'.heap.size=w.heap.size+2)(hk:∀g,g<w.heap.size->w'.heap[g]?=w.heap[g]?):RelB (Hd ok0 w.heap.size) base pl bl w'/\Ext (Al ok0 base pl bl w) (Al (Hd ok0 w.heap.size) base pl bl w'):=by
 refine hr.into (by omega) (λg h _=>hk g h) (λg h1 h=>?_) ⟨hr.glob.g0.gen (by omega) (λg h1 h2 _=>⟨hk g h1,h2⟩) λg h=>?_,λg h=>?_⟩
 ·rcases h with h|h
  ·exact .inl ⟨h,by omega,by omega⟩
  ·exact .inr ⟨h.1,λhn=>by rcases hn with q|q|q<;>first|exact h.2 q|omega⟩
 ·rcases h with q|q|q
  ·exact .inl q
  ·exact .inr (.inr (by omega))
  ·exact .inr (.inr (by omega))
 ·rcases h with q|q|q
  ·obtain⟨h1,h2⟩:=hr.glob.no g q;exact⟨by omega,h2⟩
  ·exact⟨by omega,λho=>by have:=Own.lt hr ho;omega⟩
  ·exact⟨by omega,λho=>by have:=Own.lt hr ho;omega⟩
theorem RelB.leave{D:Nat}(hr:RelB (Hd ok0 D) base pl bl w):RelB ok0 base pl bl w:=
 (hr.into (ok1:=ok0) (AC _) (λ_ _ _=>rfl) (λg _ h=>h.imp (λh=>h.1) λh=>⟨h.1,λq=>h.2 (.inl q)⟩) ⟨hr.glob.g0.gen (AC _) (λg _ h _=>⟨rfl,h⟩) λg h=>.inl (.inl h),λg h=>hr.glob.no g (.inl h)⟩).1
theorem AlY{w:World}{ok:Nat->Prop}{e:Ty}{l:List e.den}{A:Option Addr}{c i m:Nat}(h:DRep w ok (.slice e) l [.slice A l.length c])(hi:i+m<=l.length):DRep w ok (.slice e) ((l.drop i).take m) [.slice (A.map (·.add (i*e.size))) m m]:=by
 simp only[DRep]at h⊢;obtain⟨A',c',xs,e1,h1,h2,h3,h4⟩:=h;simp only[De,Value.slice.injEq,EA]at e1;obtain⟨rfl,_,rfl⟩:=e1;have Bb:((l.drop i).take m).length=m:=by rw[FR,Il];omega
 have hd:=(h3.drop i).take m;refine⟨A.map (·.add (i*e.size)),m,(xs.drop (i*e.size)).take (m*e.size),by rw[Bb],by omega,by omega,hd,λj v hj=>?_⟩
 have Gs:xs[i*e.size+j]?=some v:=by have Ao:=(Eu.1 hj).1;rw[QP (by rw[FR]at Ao;omega),OM]at hj;exact hj
 obtain⟨ad,e2,h5,h6⟩:=h4 _ v Gs;subst e2;exact⟨ad.add (i*e.size),rfl,by rw[KK];exact h5,by rw[LM];exact h6⟩
end
section
variable{P:Program}{n:Nat}{β:Type}{r:β}
def Aaa(X:Ctx)(n:Nat)(A B:Code)(σ:St)(K:St->Option β):Option β:=
 exec X n (λ_=>none) 1 A σ λe σ1=>
  match e with
  |.normal=>exec X n (λ_=>none) 1 B σ1 λe σ2=>
   match e with
   |.normal=>K σ2
   |_=>none
  |_=>none
def W9(X:Ctx)(n:Nat)(A B:Code)(p c1 c2:Nat)(k:Int)(tm0:List (Nat×V)):Nat->Nat->List (Nat×Blk)->Nat->(List (Nat×Blk)->Nat->Option β)->Option β
 |0,_,_,_,_=>none
 |N+1,j,bl,nx,K=>
  match look bl c1,look bl c2 with
  |some (.cells _ [.list e l]),some (.cells _ [.int .i64 k'])=>
   bif decide (k'=k)&&decide (e.size=1)then
    cond (decide (l.length<=Bt))
     (cond (decide (j*k.toNat<l.length))
      (Aaa X n A B ⟨put tm0 p (.c (.list e ((l.drop (j*k.toNat)).take k.toNat))),bl,nx⟩ λσ=>W9 X n A B p c1 c2 k tm0 N (j+1) σ.bl σ.nx K)
      (K bl nx))
     none
   else none
  |_,_=>none
def RJ(c1 c2:Nat)(k:Int)(bl:List (Nat×Blk))(e:Ty)(l:List e.den):Prop:=
 (∃t,look bl c1=some (.cells t [.list e l]))/\(∃t,look bl c2=some (.cells t [.int .i64 k]))/\e.size=1/\l.length<=Bt
inductive Chain (P:Program) (n:Nat) (A B:Code) (p c1 c2:Nat) (k:Int) (tm0:List (Nat×V)) (blF:List (Nat×Blk)) (nxF:Nat):Nat->List (Nat×Blk)->Nat->Prop
 |done {j:Nat} {e:Ty} {l:List e.den} (h:RJ c1 c2 k blF e l) (hj:¬j*k.toNat<l.length):Chain P n A B p c1 c2 k tm0 blF nxF j blF nxF
 |step {j nx:Nat} {bl:List (Nat×Blk)} {e:Ty} {l:List e.den} (σ1 σ2:St) (h:RJ c1 c2 k bl e l) (hj:j*k.toNat<l.length)
   (h1:RSim P n A ⟨put tm0 p (.c (.list e ((l.drop (j*k.toNat)).take k.toNat))),bl,nx⟩ σ1) (h2:RSim P n B σ1 σ2) (h3:Chain P n A B p c1 c2 k tm0 blF nxF (j+1) σ2.bl σ2.nx):Chain P n A B p c1 c2 k tm0 blF nxF j bl nx
theorem Aab(hm:P.follows .mixedOrders=true){X:Ctx}(hT:TOk P X.T)(hΓ:ΓOk P X.Γ){ia ib:Nat}{oa ob:Array Oper}{da db:Bool}(ha:Kc oa.toList=true)(hb:Kc ob.toList=true){p c1 c2:Nat}{k:Int}{tm0:List (Nat×V)}:∀{N j nx:Nat}{bl:List (Nat×Blk)}{K:List (Nat×Blk)->Nat->Option β},W9 X n (.region ia oa da) (.region ib ob db) p c1 c2 k tm0 N j bl nx K=some r->∃blF nxF,K blF nxF=some r/\Chain P n (.region ia oa da) (.region ib ob db) p c1 c2 k tm0 blF nxF j bl nx
 |0,j,nx,bl,K,h=>by cases h
 |N+1,j,nx,bl,K,h=>by
  simp only[W9]at h;split at h
  ·rename_i t1 e l t2 k' h1 h2
   cases hc:(decide (k'=k)&&decide (e.size=1))with
   |false=>rw[hc]at h;cases h
   |true=>
    rw[hc,Am]at h;obtain⟨q1,q2⟩:=andB hc;have q1:k'=k:=AV q1;have q2:=AV q2;subst q1;by_cases hl:l.length<=Bt
    ·rw[Ay hl,Am]at h
     have hR:RJ c1 c2 k' bl e l:=⟨⟨t1,h1⟩,⟨t2,h2⟩,q2,hl⟩;by_cases hj:j*k'.toNat<l.length
     ·rw[Ay hj,Am]at h
      unfold Aaa at h;obtain⟨σ1,g1,g2⟩:=Aa9 hm hT hΓ ha h;obtain⟨σ2,g3,g4⟩:=Aa9 hm hT hΓ hb g1;obtain⟨blF,nxF,g5,g6⟩:=Aab hm hT hΓ ha hb g3;exact⟨blF,nxF,g5,.step σ1 σ2 hR hj g2 g4 g6⟩
     ·rw[AF hj,Cj]at h
      exact⟨bl,nx,h,.done hR hj⟩
    ·rw[AF hl]at h;cases h
  ·cases h
structure ChunkOk (P:Program) (f:FuncId):Prop where
 enter:∀args w,(callFunc f args).run P w=.ok (.enter f args) w
 ok:∀(l g1 g2:Nat)(k:Int)(J:Nat->World->Prop),1<=k->k<=4096->(∀j W,J j W->J j {W with drawn:=W.drawn+1})->
  (∀j W,J j W->∃A len c,W.cell? ⟨g1,0,none⟩=some (.slice A len c)/\len<=Bt/\len<=c/\(0<len->A.isSome=true)/\W.cell? ⟨g2,0,none⟩=some (.int .i64 k))->
  (∀j W A len c,J j W->W.cell? ⟨g1,0,none⟩=some (.slice A len c)->j*k.toNat<len->
   YieldAt Fence.wide 1 P l #[.slice (A.map (·.add (j*k.toNat))) (min k.toNat (len-j*k.toNat)) (min k.toNat (len-j*k.toNat))] W λe W'=>e=.returned (.bool true)/\J (j+1) W')->
  ∀W,J 0 W->CallsIn Fence.wide 2 P f #[.func (.yield l) #[] #[],.pointer (some ⟨g1,0,none⟩),.pointer (some ⟨g2,0,none⟩)] W λe W'=>
   (∃v,e=.returned v)/\∃j,J j W'/\∀A len c,W'.cell? ⟨g1,0,none⟩=some (.slice A len c)->len<=j*k.toNat
theorem Aac{ok0:OK0 P}{base:Nat}{pl:Nat->Option Pl}{bl:Nat->Option Blk}{w:World}(hr:RelB ok0 base pl bl w){b g:Nat}{t:TypeId}{x:C}(hb:bl b=some (.cells t [x]))(hp:pl b=some (.cells g)):∃v,w.cell? ⟨g,0,none⟩=some v/\CRep (Al ok0 base pl bl w) x v:=by
 obtain⟨p,Dh,hR⟩:=hr.blks b _ hb;rw[hp]at Dh;injection Dh with Dh;subst Dh;obtain⟨vs,h1,h2⟩:=hR;obtain⟨v,Ap,e,h3,h4⟩:=h2;subst e;refine⟨v,?_,h3⟩;have this:w.cell? ((⟨g,0,none⟩:Addr).add 0)=some v:=Wq (n:=1) (j:=0) (o:=0) (u:=v) h1 (by simp);simpa [Addr.add]using this
theorem zip1(tm:Array Value)(p:Nat)(v:Value):((#[p]:Array Nat).zip #[v]).foldl (λt(x:Nat×Value)=>t.setIfInBounds x.1 x.2) tm=tm.setIfInBounds p v:=by simp
theorem AlZ{α:Type}(l:List α)(i k:Nat):(l.drop i).take k=(l.drop i).take (min k (l.length-i)):=by rw[<-List.take_take,G0 (i:=l.length-i) (by rw[Il];exact AC _)]
set_option maxHeartbeats 1000000 in
theorem Am0{f g p c1 c2 ic:Nat}{A B:Code}{k:Int}(hC:ChunkOk P f)(hk1:1<=k)(hk2:k<=4096)(hpn:p<n){σ:St}(hgv:look σ.tm g=some (.c (.fn f [c1,c2]))){blF:List (Nat×Blk)}{nxF:Nat}(hch:Chain P n A B p c1 c2 k σ.tm blF nxF 0 σ.bl σ.nx){ok0:OK0 P}{base:Nat}{pl:Nat->Option Pl}{a:Act}{w:World}(hr:Rel n ok0 base pl (look σ.tm) (look σ.bl) a w):(Code.rangeFunc (.tmp g) #[p] A (.block ic B)).wp P (λe a' w'=>e=.normal/\∃pl':Nat->Option Pl,a'={a with defers:=[{target:=.collected w.heap.size,args:=#[]}]}/\w'.heap[w.heap.size]?=some (.deferred (some []))/\RelB (Hd ok0 w.heap.size) base pl' (look blF) w'/\Step pl (look σ.bl) w pl' (look blF) w') a w:=by
 refine(wpIn_wide (n:=3)).1 (wpIn_rangeFunc λfn _=>?_);have hv:=hr.tmps g _ hgv;obtain⟨gs,hgs,hv⟩:=hv
 obtain⟨g1,g2,rfl,hp1,hp2⟩:∃g1 g2,gs=[g1,g2]/\pl c1=some (.cells g1)/\pl c2=some (.cells g2):=by
  match gs,hgs with
  |[g1,g2],h=>simp only[CE,LL,De,EA]at h;exact⟨g1,g2,rfl,h.1,h.2⟩
  |[],h=>simp at h
  |[_],h=>simp at h
  |_::_::_::_,h=>simp at h
 generalize hD:w.heap.size=D at*;obtain⟨rc,hrc⟩:∃rc:LoopState->Option Code->Loop,rc=λst pe=>{state:=st,pending:=pe,fn,tmps:=a.tmps,params:=#[p],assign:=A,body:=.block ic B,defers:=D}:=⟨_,rfl⟩;obtain⟨W1,hW1⟩:∃W1,(w.alloc (.deferred (some []))).alloc (.loop (rc .ready none))=W1:=⟨_,rfl⟩;have hsz1:W1.heap.size=D+2:=by rw[<-hW1];simp[hD]
 have hL1:W1.heap[D+1]?=some (.loop (rc .ready none)):=by have:=World.alloc_heap_new (w.alloc (.deferred (some []))) (.loop (rc .ready none));rw[World.size_alloc,hD,hW1]at this;exact this
 have hD1:W1.heap[D]?=some (.deferred (some [])):=by have h1:=World.alloc_heap_new w (.deferred (some []));rw[hD]at h1;rw[<-hW1];exact(Below.heap_alloc _ _ _ (by simp[hD])).trans h1
 have hk1':∀g,g<D->W1.heap[g]?=w.heap[g]?:=λg hg=>by rw[<-hW1];exact(Below.heap_alloc _ _ _ (by simp;omega)).trans (Below.heap_alloc _ _ _ (by omega))
 subst hD;obtain⟨hr1,hx1⟩:=hr.rel.enter hsz1 hk1'
 have hst0:Step pl (look σ.bl) w pl (look σ.bl) W1:=by refine⟨by rw[<-hW1];rfl,by rw[<-hW1];rfl,by rw[<-hW1];rfl,by omega,λg hg ho=>⟨hk1' g hg,ho⟩,λ_ _ h=>h,λb sv svs h=>⟨sv,svs,h,KeepR.refl _ _ _⟩⟩
 have hm1:∀t v,look σ.tm t=some v->VRep (Al (Hd ok0 w.heap.size) base pl (look σ.bl) W1) v (a.tmps.getD t undef):=λt v ht=>VRep.mono hx1 (hr.tmps t v ht)
 have hf':a.eval (.tmp g)=.func (.func f) #[] #[.pointer (some ⟨g1,0,none⟩),.pointer (some ⟨g2,0,none⟩)]:=by show a.tmps.getD g undef=_;rw[hv];rfl
 let J:Nat->World->Prop:=λj W=>W.heap[w.heap.size+1]?=some (.loop (rc .ready none))/\W.heap[w.heap.size]?=some (.deferred (some []))/\
  ∃bl nx pl',Chain P n A B p c1 c2 k σ.tm blF nxF j bl nx/\RelB (Hd ok0 w.heap.size) base pl' (look bl) W/\Step pl (look σ.bl) W1 pl' (look bl) W
 have hreads:∀{W:World}{bl:List (Nat×Blk)}{pl':Nat->Option Pl}{e:Ty}{l:List e.den},RJ c1 c2 k bl e l->RelB (Hd ok0 w.heap.size) base pl' (look bl) W->Step pl (look σ.bl) W1 pl' (look bl) W->
   W.cell? ⟨g2,0,none⟩=some (.int .i64 k)/\∃A' c,W.cell? ⟨g1,0,none⟩=some (.slice A' l.length c)/\DRep W (Al (Hd ok0 w.heap.size) base pl' (look bl) W).ok (.slice e) l [.slice A' l.length c]/\l.length<=c/\(0<l.length->A'.isSome=true):=by
  rintro W bl pl' e l ⟨⟨t1,h1⟩,⟨t2,h2⟩,h3,h4⟩ hR hS;obtain⟨v1,q1,q2⟩:=Aac hR h1 (hS.cells _ _ hp1);obtain⟨v2,q3,q4⟩:=Aac hR h2 (hS.cells _ _ hp2);have q4:v2=.int .i64 k:=q4;subst q4;have q2:DRep W (Al (Hd ok0 w.heap.size) base pl' (look bl) W).ok (.slice e) l [v1]:=q2;have q5:=q2;simp only[DRep]at q5;obtain⟨A',c',xs,e1,k1,k2,k3,k4⟩:=q5;injection e1 with e1;subst e1;refine⟨q3,A',c',q1,q2,k1,λhpos=>?_⟩;have hl:=k3.length;rw[h3]at hl;obtain⟨ad,e2,_⟩:=k4 0 (xs[0]'(by omega)) (DK _);rw[e2];rfl
 refine⟨w.heap.size+1,[{target:=.collected w.heap.size,args:=#[]}],W1,{target:=.fn (.func f) #[.pointer (some ⟨g1,0,none⟩),.pointer (some ⟨g2,0,none⟩)],args:=#[.func (.yield (w.heap.size+1)) #[] #[]]},W1,f,
  #[.func (.yield (w.heap.size+1)) #[] #[],.pointer (some ⟨g1,0,none⟩),.pointer (some ⟨g2,0,none⟩)],W1,?_,?_,λ_ _=>trivial,?_,λh=>(by cases h),?_⟩
 ·rw[<-hW1,hrc];exact run_enterLoop_outer _ _ _ _ _
 ·simp only[resolve,hf']
  simp[go_sem]
 ·simp[invoke,go_sem,hC.enter]
 ·refine(hC.ok (w.heap.size+1) g1 g2 k J hk1 hk2 ?_ ?_ ?_ W1 ⟨hL1,hD1,σ.bl,σ.nx,pl,hch,hr1,Step.refl _ _ _⟩).mono ?_
  ·rintro j W ⟨h1,h2,bl,nx,pl',h3,h4,h5⟩
   exact⟨h1,h2,bl,nx,pl',h3,(h4.same (w':={W with drawn:=W.drawn+1}) rfl).1,h5.trans ⟨rfl,rfl,rfl,AC _,λg _ h=>⟨rfl,h⟩,λ_ _ h=>h,λb sv svs h=>⟨sv,svs,h,KeepR.refl _ _ _⟩⟩⟩
  ·rintro j W ⟨h1,h2,bl,nx,pl',h3,h4,h5⟩
   have key:∀{e:Ty}{l:List e.den},RJ c1 c2 k bl e l->∃A len c,W.cell? ⟨g1,0,none⟩=some (.slice A len c)/\len<=Bt/\len<=c/\(0<len->A.isSome=true)/\W.cell? ⟨g2,0,none⟩=some (.int .i64 k):=λhR=>by obtain⟨q1,A',c,q2,_,q3,q4⟩:=hreads hR h4 h5;exact⟨A',_,c,q2,hR.2.2.2,q3,q4,q1⟩
   cases h3 with
   |done hR _=>exact key hR
   |step _ _ hR _ _ _ _=>exact key hR
  ·rintro j W A0 len c0 ⟨h1,h2,bl,nx,pl',h3,h4,h5⟩ hcell hlt
   cases h3 with
   |done hR hj=>obtain⟨_,A',c,q2,_⟩:=hreads hR h4 h5;rw[q2]at hcell;injection hcell with hcell;injection hcell with _ e2 _;exact absurd (e2▸hlt) hj
   |step σ1 σ2 hR hj hA hB hnext=>
    rename_i e l;obtain⟨_,A',c,q2,q3,_⟩:=hreads hR h4 h5;rw[q2]at hcell;injection hcell with hcell;injection hcell with e1 e2 e3;subst e1 e2 e3;have hy:=run_yield (P:=P) (args:=#[.slice (A'.map (·.add (j*k.toNat))) (min k.toNat (l.length-j*k.toNat)) (min k.toNat (l.length-j*k.toNat))]) h1 (by rw[hrc];rfl);rw[hrc]at hy;dsimp only at hy;rw[show(((#[p]:Array Nat).zip #[Value.slice (A'.map (·.add (j*k.toNat))) (min k.toNat (l.length-j*k.toNat)) (min k.toNat (l.length-j*k.toNat))]).foldl (λtmps x=>match x with|(t,a)=>tmps.setIfInBounds t a) a.tmps)=_ from zip1 _ _ _]at hy;refine⟨fn,_,A,.block ic B,hy,roundIn_of_wpIn trivial ?_⟩;have hch1:=AlY (i:=j*k.toNat) (m:=min k.toNat (l.length-j*k.toNat)) q3 (by omega);rw[hR.2.2.1,Nat.mul_one,<-AlZ]at hch1
    have hrel:Rel n (Hd ok0 w.heap.size) base pl' (look (put σ.tm p (.c (.list e ((l.drop (j*k.toNat)).take k.toNat))))) (look bl)
      {tmps:=a.tmps.setIfInBounds p (.slice (A'.map (·.add (j*k.toNat))) (min k.toNat (l.length-j*k.toNat)) (min k.toNat (l.length-j*k.toNat))),defers:=[]} W:=by
     refine⟨rfl,by simp[hr.size],λt v ht=>?_,h4⟩;rw[VQ]at ht;by_cases htp:t=p
     ·subst htp
      rw[if_pos rfl]at ht;injection ht with ht;subst ht;simp only[EL];rw[Array.getElem?_setIfInBounds_self_of_lt (by rw[hr.size];exact hpn)];exact hch1
     ·rw[if_neg htp]at ht
      simp only[EL];rw[Array.getElem?_setIfInBounds_ne (Ne.symm htp),<-EL];exact VRep.mono h5.ext (hm1 t v ht)
    refine wpIn_mono (hA (w.heap.size+1) _ _ base pl' _ W hrel) ?_;rintro e1 a1 w1 ⟨rfl,pl1,hrel1,st1⟩;have noL:(Hd ok0 w.heap.size).no (w.heap.size+1):=.inr (.inr rfl);have noD:(Hd ok0 w.heap.size).no w.heap.size:=.inr (.inl rfl);have hLw1:w1.heap[w.heap.size+1]?=some (.loop (rc .ready none)):=(st1.out _ (h4.glob.no _ noL).1 (h4.glob.no _ noL).2).1.trans h1;have hDw1:w1.heap[w.heap.size]?=some (.deferred (some [])):=(st1.out _ (h4.glob.no _ noD).1 (h4.glob.no _ noD).2).1.trans h2;refine⟨_,run_beginRound hLw1 (by rw[hrc]),?_⟩;obtain⟨hr2,hx2⟩:=hrel1.rel.putO noL (gN _ _ _) (.loop {rc .ready none with state:=.busy})
    have hrel2:Rel n (Hd ok0 w.heap.size) base pl1 (look σ1.tm) (look σ1.bl) a1 (w1.putObj (w.heap.size+1) (.loop {rc .ready none with state:=.busy})):=
     ⟨hrel1.defers,hrel1.size,λt v ht=>VRep.mono hx2 (hrel1.tmps t v ht),hr2⟩
    refine wpIn_block (wpIn_mono (hB (w.heap.size+1) _ _ base pl1 a1 _ hrel2) ?_);rintro e2 a2 w3 ⟨rfl,pl2,hrel3,st2⟩;have hlt1:w.heap.size+1<w1.heap.size:=(hrel1.rel.glob.no _ noL).1
    have hLw3:w3.heap[w.heap.size+1]?=some (.loop {rc .ready none with state:=.busy}):=
     (st2.out _ (hr2.glob.no _ noL).1 (hr2.glob.no _ noL).2).1.trans (World.putObj_heap_same hlt1)
    have hDw3:w3.heap[w.heap.size]?=some (.deferred (some [])):=
     (st2.out _ (hr2.glob.no _ noD).1 (hr2.glob.no _ noD).2).1.trans ((World.putObj_heap_other (by omega)).trans hDw1)
    refine⟨_,_,run_endRound none hLw3,rfl,?_,?_,σ2.bl,σ2.nx,pl2,hnext,(hrel3.rel.putO noL (gN _ _ _) _).1,?_⟩
    ·rw[World.putObj_heap_same (hrel3.rel.glob.no _ noL).1,hrc];rfl
    ·exact(World.putObj_heap_other (by omega)).trans hDw3
    ·refine(h5.trans st1).trans ⟨st2.os,st2.tape,st2.output,by have:=st2.size;simpa using this,λg hg ho=>?_,st2.cells,st2.rows⟩
     obtain⟨s1,s2⟩:=st2.out g (by simpa using hg) ho;refine⟨?_,s2⟩;by_cases hgL:g=w.heap.size+1
     ·subst hgL
      rw[World.putObj_heap_same (hrel3.rel.glob.no _ noL).1,hLw1,hrc];rfl
     ·rw[World.putObj_heap_other hgL,s1,World.putObj_heap_other hgL]
  ·rintro e W2 ⟨⟨v,rfl⟩,j,⟨h1,h2,bl,nx,pl',h3,h4,h5⟩,hend⟩
   have hfin:bl=blF:=by
    cases h3 with
    |done _ _=>rfl
    |step _ _ hR hj _ _ _=>obtain⟨_,A',c,q2,_⟩:=hreads hR h4 h5;exact absurd hj (Nat.not_lt.2 (hend _ _ _ q2))
   subst hfin;have noL:(Hd ok0 w.heap.size).no (w.heap.size+1):=.inr (.inr rfl);refine⟨none,_,(by have:=run_endLoop (P:=P) h1 (by rw[hrc];simp);rw[hrc]at this;exact this),rfl,pl',?_,?_,(h4.putO noL (gN _ _ _) _).1,?_⟩
   ·rw[hr.defers];rfl
   ·exact(World.putObj_heap_other (by omega)).trans h2
   ·have h6:=hst0.trans h5
    refine⟨h6.os,h6.tape,h6.output,by simpa using h6.size,λg hg ho=>?_,h6.cells,h6.rows⟩;obtain⟨s1,s2⟩:=h6.out g hg ho;exact⟨(World.putObj_heap_other (by omega)).trans s1,s2⟩
def andThen{β:Type}(X:Ctx)(n:Nat)(c:Code)(σ:St)(K:St->Option β):Option β:=
 exec X n (λ_=>none) 1 c σ λe σ'=>
  match e with
  |.normal=>K σ'
  |_=>none
theorem gO(hm:P.follows .mixedOrders=true){X:Ctx}(hT:TOk P X.T)(hΓ:ΓOk P X.Γ){c:Code}{σ:St}{K:St->Option β}(h:andThen X n c σ K=some r):∃σ',K σ'=some r/\∀(ok0:OK0 P)(base:Nat)(pl:Nat->Option Pl)(a:Act)(w:World),Rel n ok0 base pl (look σ.tm) (look σ.bl) a w->c.wp P (λe a' w'=>e=.normal/\∃Ai,Rel n ok0 base Ai (look σ'.tm) (look σ'.bl) a' w'/\Step pl (look σ.bl) w Ai (look σ'.bl) w') a w:=by
 unfold andThen at h;obtain⟨e,σ',h1,h2⟩:=fV (R:=z7) (fr:=λ_:Unit=>fr0) hm (λ_ _ _ _ _ _ _=>trivial) hT hΓ (λ_ _ h=>by cases h) h;cases e with
 |normal=>exact⟨σ',h1,λok0 base pl a w hr=>EN (h2 () ok0 base pl a w hr) λe a' w' hq=>hq⟩
 |exit id=>cases h1
 |ret=>cases h1
def gP{β:Type}(X:Ctx)(n:Nat)(d0 d1 d2 A B:Code)(g p fI:Nat)(k:Int)(N:Nat)(σ:St)(K:St->Option β):Option β:=
 andThen X n d0 σ λσ=>andThen X n d1 σ λσ=>andThen X n d2 σ λσ=>
  match look σ.tm g with
  |some (.c (.fn f [b1,b2]))=>bif Nat.beq f fI then W9 X n A B p b1 b2 k σ.tm N 0 σ.bl σ.nx (λbl nx=>K ⟨[],bl,nx⟩)else none
  |_=>none
set_option maxHeartbeats 1000000 in
theorem Am1(Dc:P.follows .mixedOrders=true){X:Ctx}(hT:TOk P X.T)(hΓ:ΓOk P X.Γ){ps:List (Bool×List CT)}{is os:List BT}{f:FuncId}{fn:Func}{d0 d1 d2:Code}{id ic ia ib g p fI N:Nat}{oa ob:Array Oper}{da db:Bool}{k:Int}{run:{β:Type}->ST.dens ps×BT.dens is->(ST.dens []×BT.dens os->Option β)->Option β}(hC:ChunkOk P fI)(hf:P.funcs[f]?=some fn)(E7:(fn.name== "runtime.NumGoroutine")=false)(hb:fn.body=some (.seq d0 (.seq d1 (.seq d2 (.block id (.rangeFunc (.tmp g) #[p] (.region ia oa da) (.block ic (.region ib ob db))))))))(K4:fn.results.toList=[])(hc:(Kc oa.toList&&(Kc ob.toList&&(decide (1<=k/\k<=4096)&&(Nat.blt p fn.ntmps&&Nat.ble ps.length fn.ntmps))))=true)(h:∀{β:Type}(x:ST.dens ps×BT.dens is)(k':ST.dens []×BT.dens os->Option β)(r:β),run x k'=some r->gP X fn.ntmps d0 d1 d2 (.region ia oa da) (.region ib ob db) g p fI k N ((vIn ⟨ps,is,[],os,run⟩).mk' x) (Nj X.T ⟨ps,is,[],os,run⟩ [] k')=some r):SpecOkB P f ⟨ps,is,[],os,run⟩:=by
 obtain⟨n1,hc⟩:=andB hc;obtain⟨n2,hc⟩:=andB hc;obtain⟨n3,hc⟩:=andB hc;obtain⟨n4,o4⟩:=andB hc;have n3:=AV n3;have n4:p<fn.ntmps:=by rw[Nat.blt_eq]at n4;exact n4
 have o4:=Hs o4;refine⟨⟨fn,hf,E7,by rw[hb];rfl⟩,λx k' r hr=>?_⟩;have HW:=h x k' r hr;unfold gP at HW;obtain⟨σ0,Ai8,s0⟩:=gO Dc hT hΓ HW;clear HW;obtain⟨σ1,Ai9,s1⟩:=gO Dc hT hΓ Ai8;clear Ai8;obtain⟨σ2,HW,s2⟩:=gO Dc hT hΓ Ai9;clear Ai9;split at HW
 case h_2=>cases HW
 rename_i fv b1 b2 tN;cases U4:Nat.beq fv fI with
 |false=>rw[U4]at HW;cases HW
 |true=>
  rw[U4,Am]at HW;have U4:=As U4;subst U4;obtain⟨blF,nxF,hK,Ut⟩:=Aab Dc hT hΓ n1 n2 HW;unfold Nj at hK;simp only[HK]at hK;split at hK
  ·rename_i y hy
   refine⟨y,hK,λok0 base pl w args _hbase Fo Bg=>?_⟩;have Bb:args.length=ps.length:=by rw[TReps.length Bg,gF]
   refine(callsIn_wide (n:=3)).1 (callsIn_of_wp_marks hf hb trivial (wpIn_wide.2 ?_))
   let S:Spec:=⟨ps,is,[],os,run⟩
   have UP:Rel fn.ntmps ok0 base pl (look ((vIn S).mk' x).tm) (look ((vIn S).mk' x).bl) {tmps:=args.toArray++Array.replicate (fn.ntmps-args.toArray.size) undef,defers:=[]} w:=by have ebl:look ((vIn S).mk' x).bl=fnBl (mkB (AH 0 S.ins.length) S.ins x.2):=Ni (vIn S) x;rw[ebl];refine⟨rfl,by simp;omega,λt v ht=>?_,Fo⟩;refine gE (s:=0) Bg (λj hj=>?_) t v ht;simp only[DL,EL];rw[V1 (by simpa using hj)];simp[List.getD]
   refine wp_seq (EN (s0 ok0 base pl _ w UP) ?_);rintro e a0 w0 ⟨rfl,pl0,Oo,st0⟩;refine wp_seq (EN (s1 ok0 base pl0 a0 w0 Oo) ?_);rintro e a1 w1 ⟨rfl,pl1,L0,st1⟩;refine wp_seq (EN (s2 ok0 base pl1 a1 w1 L0) ?_);rintro e a2 w2 ⟨rfl,pl2,Er,st2⟩;refine wp_block (EN (Am0 hC n3.1 n3.2 n4 tN Ut Er) ?_);rintro e a3 w3 ⟨rfl,pl3,rfl,hD,AzJ,st3⟩;have AiB:=(AzJ.putO (X:=w2.heap.size) (.inr (.inl rfl)) (AlX _ _ _) (.deferred none)).1.leave
   have st4:Step pl (look ((vIn S).mk' x).bl) w pl3 (look blF) (w3.putObj w2.heap.size (.deferred none)):=by have h6:=((st0.trans st1).trans st2).trans st3;have C3:=((st0.trans st1).trans st2).size;refine⟨h6.os,h6.tape,h6.output,by simpa using h6.size,λg hg ho=>?_,h6.cells,h6.rows⟩;obtain⟨q1,q2⟩:=h6.out g hg ho;exact⟨(World.putObj_heap_other (by omega)).trans q1,q2⟩
   have Bv:Rel fn.ntmps ok0 base pl3 (look []) (look blF) {a2 with defers:=[]} (w3.putObj w2.heap.size (.deferred none)):=
    ⟨rfl,Er.size,λt v ht=>(by rw[EB]at ht;cases ht),AiB⟩
   obtain⟨Bh,AA,M6⟩:=gG hT (rs:=[]) (by rw[K4];rfl) (tm:=[]) (bl:=blF) (vs:=[]) rfl (λ_ _ h=>h) Bv;have MB:Bh=[]:=M6;subst MB
   have uR:Rel ([]:List Value).length ok0 base pl3 (look (numV 0 ([]:List V))) (look blF) {tmps:=([]:List Value).toArray,defers:=[]} (w3.putObj w2.heap.size (.deferred none)):=
    ⟨rfl,rfl,λt v ht=>(by simp only[numV,EB]at ht;cases ht),AiB⟩
   obtain⟨plv,EU,Gf⟩:=View.weaken (σ:=⟨numV 0 ([]:List V),blF,nxF⟩) hy uR;have ebl:look ((vIn S).mk' x).bl=fnBl (mkB (AH 0 S.ins.length) S.ins x.2):=Ni (vIn S) x;have ebo:look ((vRes S).mk' y).bl=fnBl (mkB (AH 0 S.outs.length) S.outs y.2):=Ni (vRes S) y;rw[ebo]at EU Gf;rw[ebl]at st4;refine⟨by simp,.inl ⟨_,_,rfl,run_takeDeferred hD,_,AA,[],plv,rfl,EU.rel,st4.toM.trans Gf,rfl⟩⟩
  ·cases hK
end
structure RB where
 d0:Code
 d1:Code
 d2:Code
 id:Nat
 g:Nat
 p:Nat
 ia:Nat
 oa:Array Oper
 da:Bool
 ic:Nat
 ib:Nat
 ob:Array Oper
 db:Bool
def RB.code(b:RB):Code:=.seq b.d0 (.seq b.d1 (.seq b.d2 (.block b.id (.rangeFunc (.tmp b.g) #[b.p] (.region b.ia b.oa b.da) (.block b.ic (.region b.ib b.ob b.db))))))
def rbOf:Code->RB
 |.seq d0 (.seq d1 (.seq d2 (.block id (.rangeFunc (.tmp g) ps (.region ia oa da) (.block ic (.region ib ob db))))))=>⟨d0,d1,d2,id,g,ps.getD 0 0,ia,oa,da,ic,ib,ob,db⟩
 |_=>⟨.skip,.skip,.skip,0,0,0,0,#[],false,0,0,#[],false⟩
section
variable[Sl]
theorem Am2{P:Program}(Dc:P.follows .mixedOrders=true){X:Ctx}(hT:TOk P X.T)(es:List (Ent P))(hX:X.Γ=gam es){ps:List (Bool×List CT)}{is os:List BT}{f:FuncId}{fn:Func}(fI N:Nat)(k:Int)(hC:ChunkOk P fI){s:(β:Type)->VF (KF (Option β) [] os->Option β) ps is}(hf:P.funcs[f]?=some fn)(hc:((fn.name== "runtime.NumGoroutine"),fn.body,fn.results.toList,(Kc (rbOf (Az fn)).oa.toList&&(Kc (rbOf (Az fn)).ob.toList&&(decide (1<=k/\k<=4096)&&(Nat.blt (rbOf (Az fn)).p fn.ntmps&&Nat.ble ps.length fn.ntmps)))))=(false,some (rbOf (Az fn)).code,[],true))(h:∀{β:Type}(x:ST.dens ps×BT.dens is)(k':ST.dens []×BT.dens os->Option β),gP X fn.ntmps (rbOf (Az fn)).d0 (rbOf (Az fn)).d1 (rbOf (Az fn)).d2 (.region (rbOf (Az fn)).ia (rbOf (Az fn)).oa (rbOf (Az fn)).da) (.region (rbOf (Az fn)).ib (rbOf (Az fn)).ob (rbOf (Az fn)).db) (rbOf (Az fn)).g (rbOf (Az fn)).p fI k N ((vIn (sgE ps is [] os s)).mk' x) (Nj X.T (sgE ps is [] os s) [] k')=vapp ps is (s β) x (klam [] os k')):SpecOkB P f (sgE ps is [] os λβ=>hid (s β)):=by
 simp only[BC]at hc;obtain⟨h1,h2,h3,h4⟩:=hc;rw[W6];exact Am1 Dc hT (hX▸Js es) hC hf h1 h2 h3 h4 λx k' r hr=>(h x k').trans hr
end
end
end Go.Lift
