/- Part4 -/
import Derived.OrdersIn
import Derived.RangeFuncLeaves
import Derived.RangeFuncRecord
import Derived.RangeFuncSeq
import Derived.Test.YtegofjgkamhgaaaGreatDoorPart3
set_option linter.unusedVariables false
set_option linter.unusedSectionVars false
set_option linter.unusedSimpArgs false
open Option renaming some → Ybl, none → Ybn
open _root_ renaming Option → Ybm, List → Ybp, Array → Ybx, absurd → Yb1
open Bool renaming false → Ybo, true → Ybq
open List renaming range → Yb2
namespace Go.Lift
noncomputable section
open Go.RowKit
abbrev rnd(l:Nat):Fence:=Fence.wide.inRound l
def Qz(ops:Ybp Oper):Bool:=ops.all λo=>match o.op with|.defer _=>Ybo|_=>Ybq
theorem iL{ops:Ybx Oper}(h:Qz ops.toList=Ybq){i:Nat}{o:Oper}(ho:ops[i]?=Ybl o):∀c,o.op≠.defer c:=by
 intro c e;have hm:o∈ops.toList:=by rw[Array.mem_toList_iff];exact Array.mem_of_getElem? ho
 have:=NW.1 h o hm;rw[e]at this;cases this
section
variable{P:Program}{ops:Ybx Oper}{Q:Exit->Act->World->Prop}{l m:Nat}
theorem Aor{row:String}{args:Ybx Value}{w:World}{R:Value->World->Prop}(h:Go.Rows P row args w R):RowsIn (rnd l) m P row args w R:=
 λc cs _=>let⟨v,w',r,s⟩:=h c cs;⟨v,w',r,stepsIn_wide.2 s⟩
theorem iM{o:Oper}{a:Act}{w:World}{K K':Act->World->Prop}(hd:∀c,o.op≠.defer c)(hK:∀a w,K a w->K' a w)(h:o.wp P a w K Q):o.wpIn (rnd l) m P a w K' Q:=by
 refine⟨λ_ _=>trivial,?_⟩;rw[Oper.semAt_eq _ _ _ hd];unfold Oper.wp at h;generalize(execOp a.eval o).run P w=r at*;cases r with
 |ok x w'=>
  cases x<;>simp only[Oper.upon,Oper.uponIn]at h⊢<;>try exact hK _ _ h
  ·rename_i f args
   have h2:=(callsIn_wide (n:=m-1)).2 h;refine⟨λhh=>(by cases hh),CallsIn.mono (show CallsIn (rnd l) (m-1) P f args w' _ from h2) ?_⟩;intro e w'' he;cases e<;>first|exact hK _ _ he|exact he
  ·exact⟨λhh=>(by cases hh),Aor (h.mono λv w'' hv=>hK _ _ hv)⟩
  all_goals exact h.elim
 |halt x w'=>cases x<;>simp only[Oper.upon,Oper.uponIn]at h⊢<;>exact h
theorem Xf(hd:Qz ops.toList=Ybq)(hL:¬LetsOut Q):∀(is:Ybp Nat)(a:Act)(w:World),wpOps P ops Q is a w->wpOpsIn (rnd l) m P ops Q is a w
 |[],a,w,h=>h
 |i::is,a,w,h=>by
  simp only[wpOps,wpOpsIn]at h⊢;cases ho:ops[i]? with
  |none=>simp only[ho]at h⊢;exact Xf hd hL is a w h
  |some o=>
   simp only[ho]at h⊢;by_cases hw:Region.wanted o (yielded ops a.tmps)=Ybq
   ·simp only[hw,CR]at h⊢
    rcases h with h|h
    ·exact iM (iL hd ho) (λa w hk=>Xf hd hL is a w hk) h
    ·exact Yb1 h.2 hL
   ·simp only[hw,Cb,G3]at h⊢
    exact⟨λ_ _=>trivial,Xf hd hL is _ w h⟩
theorem SU(hd:Qz ops.toList=Ybq)(hL:¬LetsOut Q){md:Region.Mode}:∀(k:Nat)(listed:Ybx Bool)(a:Act)(w:World),wpAny P md ops Q k listed a w->wpAnyIn (rnd l) m P md ops Q k listed a w
 |0,listed,a,w,h=>h
 |k+1,listed,a,w,⟨h0,h1⟩=>by
  refine⟨h0,λi hi=>?_⟩;have h:=h1 i hi;unfold wpOp at h;unfold wpOpIn;cases ho:ops[i]? with
  |none=>simp only[ho]at h⊢;exact SU hd hL k _ a w h
  |some o=>
   simp only[ho]at h⊢;by_cases hw:Region.wanted o (yielded ops a.tmps)=Ybq
   ·simp only[hw,CR]at h⊢
    first
     |exact iM (iL hd ho) (λa w hk=>SU hd hL k _ a w hk) h
     |(rcases h with h|h
       ·exact iM (iL hd ho) (λa w hk=>SU hd hL k _ a w hk) h
       ·exact Yb1 h.2 hL)
   ·simp only[hw,Cb,G3]at h⊢
    exact⟨λ_ _=>trivial,SU hd hL k _ _ w h⟩
end
section
variable{P:Program}{n:Nat}{β:Type}{r:β}
theorem Aos(hm:P.follows .mixedOrders=Ybq){X:Ctx}(hT:TOk P X.T)(hΓ:ΓOk P X.Γ){ops:Ybx Oper}{draw:Bool}{σ:St}{k:Kx β}(h:(Lf X n ops (Hl 0 ops.toList) σ [] λσ' log=>bif LU X.A log&&(!draw||(Lg (Hl 0 ops.toList)&&fine (GQ ops.toList []) log))then k .normal σ' else Ybn)=Ybl r):∃σ',k .normal σ'=Ybl r/\∀(ok0:OK0 P)(base:Nat)(pl:Nat->Ybm Pl)(a:Act)(w:World)(Q:Exit->Act->World->Prop),Rel n ok0 base pl (look σ.tm) (look σ.bl) a w->(∀Ac a' w',Rel n ok0 base Ac (look σ'.tm) (look σ'.bl) a' w'->Step pl (look σ.bl) w Ac (look σ'.bl) w'->Q .normal a' w')->(draw=Ybo->wpOps P ops Q (Yb2 ops.size) a w)/\(draw=Ybq->wpAny P .any ops Q ops.size (Array.replicate ops.size Ybo) a {w with drawn:=w.drawn+1}):=by
 obtain⟨es,σ',h1,h2,h3,h4,h5⟩:=WU hT hΓ (SN ops.toList 0 (by simp)) h;rw[SM]at h2;have DV:es.map (·.i)=Yb2 ops.size:=by rw[h2,dH];simp
 simp only[Gj]at h1
 have hc:LU X.A es.reverse=Ybq/\(!draw||(Lg (Hl 0 ops.toList)&&fine (GQ ops.toList []) es.reverse))=Ybq/\k .normal σ'=Ybl r:=by
  cases hb:(LU X.A es.reverse&&(!draw||(Lg (Hl 0 ops.toList)&&fine (GQ ops.toList []) es.reverse)))with
  |false=>rw[hb]at h1;cases h1
  |true=>rw[hb]at h1;exact⟨(andB hb).1,(andB hb).2,h1⟩
 obtain⟨_,hc⟩:=hc;refine⟨σ',hc.2,λok0 base pl a w Q hr hq=>⟨λhd=>?_,λhd=>?_⟩⟩
 ·rw[<-DV]
  exact gT h3 hr λAc a' w' AR B3=>hq Ac a' w' (by rw[h4,h5];exact AR) (by rw[h5];exact B3)
 ·subst hd
  have HZ:=hc.1;simp only[Se,Ko,CO]at HZ;obtain⟨hb,hf⟩:=HZ
  have IY:∀(j:Nat)(o:Oper),ops[j]?=Ybl o->∀e∈o.after,Region.binds .any e=Ybq->e.on<j:=by
   intro j o ho;have hj:j<ops.size:=(Fb.1 ho).1
   have Co:j∈(Hl 0 ops.toList).map (·.1):=by rw[SM];simp only[FV,List.mem_range'_1];omega
   obtain⟨p,hp,e⟩:=Fw.1 Co;have h6:=SN (ops:=ops) ops.toList 0 (by simp) p hp;rw[e,ho]at h6;injection h6 with h6;have:=gV hb p hp;rw[e,<-h6]at this;exact this
  have L4:∀i,(∃e∈es,e.i=i)↔i<ops.size:=by intro i;rw[<-Sc,<-DV,Fw]
  refine AaU IY ops.size (es:=es) ?_ (by simp) ?_ (λi hi=>?_) ?_ (λe he=>(L4 e.i).1 ⟨e,he,rfl⟩) ?_ h3 (hr.drawn (w':={w with drawn:=w.drawn+1}) rfl) λAc a' w' AR B3=>hq Ac a' w' ?_ ?_
  ·have:=Ai List.length DV
   simpa using this
  ·intro j o _ hj
   exfalso;rw[EQ]at hj;rcases Nat.lt_or_ge j ops.size with h7|h7
   ·simp[h7]at hj
   ·simp[Nat.not_lt.2 h7]at hj
  ·constructor
   ·intro _;exact(L4 i).2 hi
   ·intro _;simp[EQ,hi]
  ·have:(es.map (·.i)).Pairwise (· < ·):=by rw[DV];exact List.pairwise_lt_range
   exact RU.1 this
  ·have:=gW hf
   exact List.pairwise_reverse.1 this
  ·rw[h4,h5];exact AR
  ·rw[h5]
   exact B3.undrawn
def RSim(P:Program)(n:Nat)(A:Code)(σ σ':St):Prop:=
 ∀(l m:Nat)(ok0:OK0 P)(base:Nat)(pl:Nat->Ybm Pl)(a:Act)(w:World),Rel n ok0 base pl (look σ.tm) (look σ.bl) a w->
  A.wpIn (rnd l) m P (λe a' w'=>e=.normal/\∃Ac,Rel n ok0 base Ac (look σ'.tm) (look σ'.bl) a' w'/\Step pl (look σ.bl) w Ac (look σ'.bl) w') a w
theorem Aot(hm:P.follows .mixedOrders=Ybq){X:Ctx}(hT:TOk P X.T)(hΓ:ΓOk P X.Γ){id:Nat}{ops:Ybx Oper}{draw:Bool}{σ:St}{k:Kx β}(hd:Qz ops.toList=Ybq)(h:exec X n (λ_=>Ybn) 1 (.region id ops draw) σ k=Ybl r):∃σ',k .normal σ'=Ybl r/\RSim P n (.region id ops draw) σ σ':=by
 unfold exec at h;obtain⟨σ',h1,h2⟩:=Aos hm hT hΓ h;refine⟨σ',h1,λl m ok0 base pl a w hr=>?_⟩;have hL:¬LetsOut (λ(e:Exit)(a':Act)(w':World)=>e=.normal/\∃Ac,Rel n ok0 base Ac (look σ'.tm) (look σ'.bl) a' w'/\Step pl (look σ.bl) w Ac (look σ'.bl) w'):=λ⟨_,_,hh,_⟩=>by cases hh
 obtain⟨g1,g2⟩:=h2 ok0 base pl a w (λ(e:Exit)(a':Act)(w':World)=>e=.normal/\∃Ac,Rel n ok0 base Ac (look σ'.tm) (look σ'.bl) a' w'/\Step pl (look σ.bl) w Ac (look σ'.bl) w') hr λAc a' w' q1 q2=>⟨rfl,Ac,q1,q2⟩;cases draw with
 |false=>exact wpIn_region (Xf hd hL _ _ _ (g1 rfl))
 |true=>exact wpIn_region_any hm (SU hd hL _ _ _ _ (g2 rfl))
end
end
end Go.Lift
namespace Go.Lift
noncomputable section
open Go.RowKit
section
variable{P:Program}{ok0 ok1:OK0 P}{base n:Nat}{pl:Nat->Ybm Pl}{bl:Nat->Ybm Blk}{w w':World}
def Shut(ok:OK0 P)(base X:Nat):Prop:=∀g,(ok g\/(base<=g/\¬ok.no g))->g≠X
theorem RelB.into(hr:RelB ok0 base pl bl w)(hs:w.heap.size<=w'.heap.size)(hk:∀g,g<w.heap.size->(Own pl bl g\/(ok0 g\/(base<=g/\¬ok0.no g)))->w'.heap[g]?=w.heap[g]?)(BS:∀g,g<w.heap.size->(ok0 g\/(base<=g/\¬ok0.no g))->(ok1 g\/(base<=g/\¬ok1.no g)))(hg:Glob ok1 pl bl w'):RelB ok1 base pl bl w'/\Ext (Ak ok0 base pl bl w) (Ak ok1 base pl bl w'):=by
 have hx:Ext (Ak ok0 base pl bl w) (Ak ok1 base pl bl w'):=⟨Aw _,λg h1 h2=>⟨⟨BS g h2 h1.1,h1.2⟩,hk g h2 (.inr h1.1)⟩,λ_ _ h=>h,λ_ sv Ab h=>⟨sv,Ab,h,KeepR.refl _ _ _⟩⟩;refine⟨⟨BH hr.baseLe hs,λi B hB=>?_,hr.sep,hr.fresh,hg⟩,hx⟩;obtain⟨p,hp,hR⟩:=hr.blks i B hB;refine⟨p,hp,?_⟩;cases hl:B.live with
 |false=>cases B<;>first|exact trivial|simp[Blk.live]at hl
 |true=>have ho:∀g,p.has g->Own pl bl g:=λg hq=>⟨i,B,p,hB,hl,hp,hq⟩;exact BRep.mono hx hR λg hq=>hk g (Own.lt hr (ho g hq)) (.inl (ho g hq))
theorem RelB.putO(hr:RelB ok0 base pl bl w){X:Nat}(hX:ok0.no X)(hS:Shut ok0 base X)(o:Obj):RelB ok0 base pl bl (w.putObj X o)/\Ext (Ak ok0 base pl bl w) (Ak ok0 base pl bl (w.putObj X o)):=by
 have hn:=hr.glob.no X hX;refine hr.into (by simp) (λg _ h=>World.putObj_heap_other ?_) (λ_ _ h=>h) ⟨hr.glob.g0.gen (by simp) (λg _ h1 h2=>⟨World.putObj_heap_other (by rintro rfl;exact h2 hX),h1⟩) λ_ h=>.inl h,λg h=>by simpa using hr.glob.no g h⟩;rintro rfl;rcases h with h|h
 ·exact hn.2 h
 ·exact hS g h rfl
theorem RelB.same(hr:RelB ok0 base pl bl w)(hw:w'.heap=w.heap):RelB ok0 base pl bl w'/\Ext (Ak ok0 base pl bl w) (Ak ok0 base pl bl w'):=
 hr.into (by rw[hw];exact Aw _) (λg _ _=>by rw[hw]) (λ_ _ h=>h) (hr.glob.out (by rw[hw];exact Aw _) λg _ h=>⟨by rw[hw],h⟩)
def EU(ok:OK0 P)(D:Nat):OK0 P:=⟨λg=>ok g/\g≠D/\g≠D+1,λg=>ok.no g\/g=D\/g=D+1,[]⟩
theorem Aou(ok:OK0 P)(D base:Nat):Shut (EU ok D) base D:=λg h=>h.elim (λh=>h.2.1) λh e=>h.2 (.inr (.inl e))
theorem Xg(ok:OK0 P)(D base:Nat):Shut (EU ok D) base (D+1):=λg h=>h.elim (λh=>h.2.2) λh e=>h.2 (.inr (.inr e))
theorem RelB.enter(hr:RelB ok0 base pl bl w)(hs:w'.heap.size=w.heap.size+2)(hk:∀g,g<w.heap.size->w'.heap[g]?=w.heap[g]?):RelB (EU ok0 w.heap.size) base pl bl w'/\Ext (Ak ok0 base pl bl w) (Ak (EU ok0 w.heap.size) base pl bl w'):=by
 refine hr.into (by omega) (λg h _=>hk g h) (λg h1 h=>?_) ⟨hr.glob.g0.gen (by omega) (λg h1 h2 _=>⟨hk g h1,h2⟩) λg h=>?_,λg h=>?_⟩
 ·rcases h with h|h
  ·exact .inl ⟨h,by omega,by omega⟩
  ·exact .inr ⟨h.1,λhn=>by rcases hn with q|q|q<;>first|exact h.2 q|omega⟩
 ·rcases h with q|q|q
  ·exact .inl q
  ·exact .inr (.inr (by omega))
  ·exact .inr (.inr (by omega))
 ·rcases h with q|q|q
  ·obtain⟨h1,h2⟩:=hr.glob.no g q;exact⟨by omega,h2⟩
  ·exact⟨by omega,λho=>by have:=Own.lt hr ho;omega⟩
  ·exact⟨by omega,λho=>by have:=Own.lt hr ho;omega⟩
theorem RelB.leave{D:Nat}(hr:RelB (EU ok0 D) base pl bl w):RelB ok0 base pl bl w:=
 (hr.into (ok1:=ok0) (Aw _) (λ_ _ _=>rfl) (λg _ h=>h.imp (λh=>h.1) λh=>⟨h.1,λq=>h.2 (.inl q)⟩) ⟨hr.glob.g0.gen (Aw _) (λg _ h _=>⟨rfl,h⟩) λg h=>.inl (.inl h),λg h=>hr.glob.no g (.inl h)⟩).1
end
end
end Go.Lift
namespace Go.Lift
noncomputable section
open Go.RowKit
def Jn{β:Type}(X:Ctx)(n:Nat):Code->St->Kx β->Ybm β
 |.region id ops draw,σ,k=>bif Qz ops.toList then exec X n (λ_=>Ybn) 1 (.region id ops draw) σ k else Ybn
 |.skip,σ,k=>k .normal σ
 |.exit id,σ,k=>k (.exit id) σ
 |.ret,σ,k=>k .ret σ
 |.seq a b,σ,k=>Jn X n a σ λe σ'=>
  match e with
  |.normal=>Jn X n b σ' k
  |e=>k e σ'
 |.cond x a b,σ,k=>
  match Qc σ.tm x with
  |.c (.bool g)=>cond g (Jn X n a σ k) (Jn X n b σ k)
  |_=>Ybn
 |.block id a,σ,k=>Jn X n a σ λe σ'=>
  match e with
  |.exit Gw=>bif Nat.beq Gw id then k .normal σ' else k (.exit Gw) σ'
  |e=>k e σ'
 |_,_,_=>Ybn
def Ov(P:Program)(n:Nat)(c:Code)(σ:St)(e:AExit)(σ':St):Prop:=
 ∀(l m:Nat)(ok0:OK0 P)(base:Nat)(pl:Nat->Ybm Pl)(a:Act)(w:World),Rel n ok0 base pl (look σ.tm) (look σ.bl) a w->
  c.wpIn (rnd l) m P (λe' a' w'=>e'=e.toExit/\∃Ac,Rel n ok0 base Ac (look σ'.tm) (look σ'.bl) a' w'/\Step pl (look σ.bl) w Ac (look σ'.bl) w') a w
section
variable{P:Program}{n:Nat}{β:Type}{r:β}
theorem AbG(hm:P.follows .mixedOrders=Ybq){X:Ctx}(hT:TOk P X.T)(hΓ:ΓOk P X.Γ):∀{c:Code}{σ:St}{k:Kx β},Jn X n c σ k=Ybl r->∃e σ',k e σ'=Ybl r/\Ov P n c σ e σ':=by
 intro c
 induction c with
 |region id ops draw=>
  intro σ k h;simp only[Jn]at h;cases hd:Qz ops.toList with
  |false=>rw[hd]at h;cases h
  |true=>rw[hd,Ao]at h;obtain⟨σ',h1,h2⟩:=Aot hm hT hΓ hd h;exact⟨.normal,σ',h1,h2⟩
 |skip=>intro σ k h;exact⟨.normal,σ,h,λl m ok0 base pl a w hr=>wpIn_skip ⟨rfl,pl,hr,Step.refl _ _ _⟩⟩
 |exit id=>intro σ k h;exact⟨.exit id,σ,h,λl m ok0 base pl a w hr=>wpIn_exit ⟨rfl,pl,hr,Step.refl _ _ _⟩⟩
 |ret=>intro σ k h;exact⟨.ret,σ,h,λl m ok0 base pl a w hr=>wpIn_ret ⟨rfl,pl,hr,Step.refl _ _ _⟩⟩
 |seq x y ihx ihy=>
  intro σ k h;simp only[Jn]at h;obtain⟨e1,σ1,h1,w1⟩:=ihx h;cases e1 with
  |normal=>simp only at h1;obtain⟨e2,σ2,h2,w2⟩:=ihy h1;refine⟨e2,σ2,h2,λl m ok0 base pl a w hr=>wpIn_seq (wpIn_mono (w1 l m ok0 base pl a w hr) λe a' w' ⟨he,Ac,AR,B3⟩=>?_)⟩;subst he;exact wpIn_mono (w2 l m ok0 base Ac a' w' AR) λe a2 v2 ⟨GD,pl2,DQ,AP⟩=>⟨GD,pl2,DQ,B3.trans AP⟩
  |exit id=>refine⟨.exit id,σ1,h1,λl m ok0 base pl a w hr=>wpIn_seq (wpIn_mono (w1 l m ok0 base pl a w hr) λe a' w' hq=>?_)⟩;have he:=hq.1;subst he;exact hq
  |ret=>refine⟨.ret,σ1,h1,λl m ok0 base pl a w hr=>wpIn_seq (wpIn_mono (w1 l m ok0 base pl a w hr) λe a' w' hq=>?_)⟩;have he:=hq.1;subst he;exact hq
 |cond x a b iha ihb=>
  intro σ k h;simp only[Jn]at h;split at h
  ·rename_i g hg
   have UN:∀(ok0:OK0 P)(base:Nat)(pl:Nat->Ybm Pl)(a:Act)(w:World),Rel n ok0 base pl (look σ.tm) (look σ.bl) a w->a.eval x=.bool g:=by intro ok0 base pl a w hr;have:=gS hr x;rw[<-gR,hg]at this;exact this
   cases g with
   |true=>obtain⟨e1,σ1,h1,w1⟩:=iha h;exact⟨e1,σ1,h1,λl m ok0 base pl a w hr=>wpIn_cond_true (UN ok0 base pl a w hr) (w1 l m ok0 base pl a w hr)⟩
   |false=>obtain⟨e1,σ1,h1,w1⟩:=ihb h;exact⟨e1,σ1,h1,λl m ok0 base pl a w hr=>wpIn_cond_false (UN ok0 base pl a w hr) (w1 l m ok0 base pl a w hr)⟩
  ·cases h
 |block id a iha=>
  intro σ k h;simp only[Jn]at h;obtain⟨e1,σ1,h1,w1⟩:=iha h;cases e1 with
  |normal=>refine⟨.normal,σ1,h1,λl m ok0 base pl a w hr=>wpIn_block (wpIn_mono (w1 l m ok0 base pl a w hr) λe a' w' hq=>?_)⟩;have he:=hq.1;subst he;exact hq
  |ret=>refine⟨.ret,σ1,h1,λl m ok0 base pl a w hr=>wpIn_block (wpIn_mono (w1 l m ok0 base pl a w hr) λe a' w' hq=>?_)⟩;have he:=hq.1;subst he;exact hq
  |exit Gw=>
   simp only at h1;cases hid:Nat.beq Gw id with
   |true=>rw[hid]at h1;have hid:=At hid;refine⟨.normal,σ1,h1,λl m ok0 base pl a w hr=>wpIn_block (wpIn_mono (w1 l m ok0 base pl a w hr) λe a' w' hq=>?_)⟩;have he:=hq.1;subst he;simp only[AExit.toExit,Exit.inBlock,hid,CR];exact⟨trivial,hq.2⟩
   |false=>
    rw[hid]at h1;have Az:Gw≠id:=λe=>by rw[e,LO]at hid;cases hid
    refine⟨.exit Gw,σ1,h1,λl m ok0 base pl a w hr=>wpIn_block (wpIn_mono (w1 l m ok0 base pl a w hr) λe a' w' hq=>?_)⟩;have he:=hq.1;subst he;simp only[AExit.toExit,Exit.inBlock,Az,Cb];exact⟨trivial,hq.2⟩
 |_=>intro σ k h;simp only[Jn]at h;cases h
end
structure BackF where
 f:FuncId
 e:Ty
structure BackOk (P:Program) (b:BackF):Prop where
 enter:∀args w,(callFunc b.f args).run P w=.ok (.enter b.f args) w
 ok:∀(l g1 N:Nat)(J:Nat->World->Prop)(Jx:World->Prop)(W:World),N<=Cn->(∃(A:Ybm Addr)(c:Nat),W.cell? ⟨g1,0,Ybn⟩=Ybl (.slice A N c))->J N W->
  (∀i W,J (i+1) W->∃(ad:Addr)(len c:Nat)(us:Ybp Value),W.cell? ⟨g1,0,Ybn⟩=Ybl (.slice (Ybl ad) len c)/\i<len/\us.length=b.e.size/\(∀v∈us,v.oneCell'=Ybq)/\(∀j u,us[j]?=Ybl u->W.cell? (ad.add (i*b.e.size+j))=Ybl u)/\
    YieldAt Fence.wide 1 P l #[.int .i64 (i:Int),.agg us.toArray] W λe W'=>(e=.returned (.bool Ybq)/\J i W')\/(e=.returned (.bool Ybo)/\Jx W'))->
  CallsIn Fence.wide 2 P b.f #[.func (.yield l) #[] #[],.pointer (Ybl ⟨g1,0,Ybn⟩)] W λe W'=>(∃v,e=.returned v)/\(J 0 W'\/Jx W')
def Xh{β:Type}(X:Ctx)(n:Nat)(b:BackF)(A B:Code)(p1 p2 c1:Nat)(tm0:Ybp (Nat×V))(K:AExit->Ybp (Nat×Blk)->Nat->Ybm β):Nat->Ybp (Nat×Blk)->Nat->Ybm β
 |0,bl,nx=>K .normal bl nx
 |i+1,bl,nx=>
  match look bl c1 with
  |some (.cells _ [.list e l])=>
   if e=b.e then
    CV (decide (i<l.length)) (Jn X n A ⟨put (put tm0 p1 (.c (.int .i64 (i:Int)))) p2 (.agg (cells e (l.getD i e.dflt))),bl,nx⟩ λe1 σ1=>
     match e1 with
     |.normal=>Jn X n B σ1 λe2 σ2=>
      match e2 with
      |.normal=>Xh X n b A B p1 p2 c1 tm0 K i σ2.bl σ2.nx
      |e=>K e σ2.bl σ2.nx
     |_=>Ybn)
   else Ybn
  |_=>Ybn
inductive BCh (P:Program) (n:Nat) (b:BackF) (A B:Code) (p1 p2 c1:Nat) (tm0:Ybp (Nat×V)) (eF:AExit) (blF:Ybp (Nat×Blk)):Nat->Ybp (Nat×Blk)->Nat->Prop
 |done {nx:Nat} (he:eF=.normal):BCh P n b A B p1 p2 c1 tm0 eF blF 0 blF nx
 |step {i nx:Nat} {bl:Ybp (Nat×Blk)} {t:TypeId} {l:Ybp b.e.den} (σ1 σ2:St) (h:look bl c1=Ybl (.cells t [.list b.e l])) (hi:i<l.length)
   (h1:Ov P n A ⟨put (put tm0 p1 (.c (.int .i64 (i:Int)))) p2 (.agg (cells b.e (l.getD i b.e.dflt))),bl,nx⟩ .normal σ1) (h2:Ov P n B σ1 .normal σ2) (h3:BCh P n b A B p1 p2 c1 tm0 eF blF i σ2.bl σ2.nx):BCh P n b A B p1 p2 c1 tm0 eF blF (i+1) bl nx
 |out {i nx:Nat} {bl:Ybp (Nat×Blk)} {t:TypeId} {l:Ybp b.e.den} (σ1 σ2:St) (h:look bl c1=Ybl (.cells t [.list b.e l])) (hi:i<l.length)
   (h1:Ov P n A ⟨put (put tm0 p1 (.c (.int .i64 (i:Int)))) p2 (.agg (cells b.e (l.getD i b.e.dflt))),bl,nx⟩ .normal σ1) (h2:Ov P n B σ1 eF σ2) (he:eF≠.normal) (hb:σ2.bl=blF):BCh P n b A B p1 p2 c1 tm0 eF blF (i+1) bl nx
section
variable{P:Program}{n:Nat}{β:Type}{r:β}
theorem AbH(hm:P.follows .mixedOrders=Ybq){X:Ctx}(hT:TOk P X.T)(hΓ:ΓOk P X.Γ){b:BackF}{A B:Code}{p1 p2 c1:Nat}{tm0:Ybp (Nat×V)}{K:AExit->Ybp (Nat×Blk)->Nat->Ybm β}:∀{i nx:Nat}{bl:Ybp (Nat×Blk)},Xh X n b A B p1 p2 c1 tm0 K i bl nx=Ybl r->∃eF blF nxF,K eF blF nxF=Ybl r/\BCh P n b A B p1 p2 c1 tm0 eF blF i bl nx
 |0,nx,bl,h=>⟨.normal,bl,nx,h,.done rfl⟩
 |i+1,nx,bl,h=>by
  simp only[Xh]at h;split at h
  ·rename_i t e l hl
   split at h
   ·rename_i he
    subst he;obtain⟨hi,h⟩:=Dc h;have hi:=AC hi;obtain⟨e1,σ1,h1,s1⟩:=AbG hm hT hΓ h;cases e1 with
    |normal=>
     simp only at h1;obtain⟨e2,σ2,h2,s2⟩:=AbG hm hT hΓ h1;cases e2 with
     |normal=>obtain⟨eF,blF,nxF,h3,h4⟩:=AbH hm hT hΓ h2;exact⟨eF,blF,nxF,h3,.step σ1 σ2 hl hi s1 s2 h4⟩
     |exit id=>exact⟨.exit id,σ2.bl,σ2.nx,h2,.out σ1 σ2 hl hi s1 s2 (by simp) rfl⟩
     |ret=>exact⟨.ret,σ2.bl,σ2.nx,h2,.out σ1 σ2 hl hi s1 s2 (by simp) rfl⟩
    |exit id=>cases h1
    |ret=>cases h1
   ·cases h
  ·cases h
def GU:AExit->Ybm Code
 |.normal=>Ybn
 |.exit id=>Ybl (.exit id)
 |.ret=>Ybl .ret
theorem zip2(tm:Ybx Value)(p q:Nat)(v u:Value):((#[p,q]:Ybx Nat).zip #[v,u]).foldl (λt(x:Nat×Value)=>t.setIfInBounds x.1 x.2) tm=(tm.setIfInBounds p v).setIfInBounds q u:=by simp
theorem Aov{ok0:OK0 P}{base:Nat}{pl:Nat->Ybm Pl}{bl:Nat->Ybm Blk}{w:World}(hr:RelB ok0 base pl bl w){b g:Nat}{t:TypeId}{x:C}(hb:bl b=Ybl (.cells t [x]))(hp:pl b=Ybl (.cells g)):∃v,w.cell? ⟨g,0,Ybn⟩=Ybl v/\CRep (Ak ok0 base pl bl w) x v:=by
 obtain⟨p,CB,hR⟩:=hr.blks b _ hb;rw[hp]at CB;injection CB with CB;subst CB;obtain⟨vs,h1,h2⟩:=hR;obtain⟨v,Av,e,h3,h4⟩:=h2;subst e;refine⟨v,?_,h3⟩;have this:w.cell? ((⟨g,0,Ybn⟩:Addr).add 0)=Ybl v:=SB (n:=1) (j:=0) (o:=0) (u:=v) h1 (by simp);simpa [Addr.add]using this
abbrev defD(D:Nat):Ybp Deferred:=[{target:=.collected D,args:=#[]}]
set_option maxHeartbeats 2000000 in
theorem Aow{b:BackF}{g p1 p2 c1:Nat}{A B:Code}(hC:BackOk P b)(hes:0<b.e.size)(hpn:p1<n/\p2<n){σ:St}(hgv:look σ.tm g=Ybl (.c (.fn b.f [c1]))){t0:TypeId}{l0:Ybp b.e.den}(hc1:look σ.bl c1=Ybl (.cells t0 [.list b.e l0]))(hl0:l0.length<=Cn){eF:AExit}{blF:Ybp (Nat×Blk)}(hch:BCh P n b A B p1 p2 c1 σ.tm eF blF l0.length σ.bl σ.nx){ok0:OK0 P}{base:Nat}{pl:Nat->Ybm Pl}{a:Act}{w:World}(hr:Rel n ok0 base pl (look σ.tm) (look σ.bl) a w):(Code.rangeFunc (.tmp g) #[p1,p2] A B).wp P (λe a' w'=>e=eF.toExit/\∃pl':Nat->Ybm Pl,a'={a with defers:=defD w.heap.size++a.defers}/\w'.heap[w.heap.size]?=Ybl (.deferred (Ybl []))/\RelB (EU ok0 w.heap.size) base pl' (look blF) w'/\Step pl (look σ.bl) w pl' (look blF) w'/\∀t v,look σ.tm t=Ybl v->VRep (Ak (EU ok0 w.heap.size) base pl' (look blF) w') v (a.tmps.getD t undef)) a w:=by
 refine(wpIn_wide (n:=3)).1 (wpIn_rangeFunc λfn _=>?_);have hv:=hr.tmps g _ hgv;obtain⟨gs,hgs,hv⟩:=hv
 obtain⟨g1,rfl,hp1⟩:∃g1,gs=[g1]/\pl c1=Ybl (.cells g1):=by
  match gs,hgs with
  |[g1],h=>simp only[CP,Il,CK,Ef]at h;exact⟨g1,rfl,h⟩
  |[],h=>simp at h
  |_::_::_,h=>simp at h
 generalize hD:w.heap.size=D at*;obtain⟨rc,hrc⟩:∃rc:LoopState->Ybm Code->Loop,rc=λst pe=>{state:=st,pending:=pe,fn,tmps:=a.tmps,params:=#[p1,p2],assign:=A,body:=B,defers:=D}:=⟨_,rfl⟩;obtain⟨W1,hW1⟩:∃W1,(w.alloc (.deferred (Ybl []))).alloc (.loop (rc .ready Ybn))=W1:=⟨_,rfl⟩;have hsz1:W1.heap.size=D+2:=by rw[<-hW1];simp[hD]
 have hL1:W1.heap[D+1]?=Ybl (.loop (rc .ready Ybn)):=by have:=World.alloc_heap_new (w.alloc (.deferred (Ybl []))) (.loop (rc .ready Ybn));rw[World.size_alloc,hD,hW1]at this;exact this
 have hD1:W1.heap[D]?=Ybl (.deferred (Ybl [])):=by have h1:=World.alloc_heap_new w (.deferred (Ybl []));rw[hD]at h1;rw[<-hW1];exact(Below.heap_alloc _ _ _ (by simp[hD])).trans h1
 have hk1':∀g,g<D->W1.heap[g]?=w.heap[g]?:=λg hg=>by rw[<-hW1];exact(Below.heap_alloc _ _ _ (by simp;omega)).trans (Below.heap_alloc _ _ _ (by omega))
 subst hD;obtain⟨hr1,hx1⟩:=hr.rel.enter hsz1 hk1'
 have hst0:Step pl (look σ.bl) w pl (look σ.bl) W1:=by refine⟨by rw[<-hW1];rfl,by rw[<-hW1];rfl,by rw[<-hW1];rfl,by omega,λg hg ho=>⟨hk1' g hg,ho⟩,λ_ _ h=>h,λb sv svs h=>⟨sv,svs,h,KeepR.refl _ _ _⟩⟩
 have hm1:∀t v,look σ.tm t=Ybl v->VRep (Ak (EU ok0 w.heap.size) base pl (look σ.bl) W1) v (a.tmps.getD t undef):=λt v ht=>VRep.mono hx1 (hr.tmps t v ht)
 have hf':a.eval (.tmp g)=.func (.func b.f) #[] #[.pointer (Ybl ⟨g1,0,Ybn⟩)]:=by show a.tmps.getD g undef=_;rw[hv];rfl
 have noL:(EU ok0 w.heap.size).no (w.heap.size+1):=.inr (.inr rfl);have noD:(EU ok0 w.heap.size).no w.heap.size:=.inr (.inl rfl)
 have hSp:∀{pl':Nat->Ybm Pl}{bl':Nat->Ybm Blk}{W:World}{o:Obj},Step pl (look σ.bl) w pl' bl' W->Step pl (look σ.bl) w pl' bl' (W.putObj (w.heap.size+1) o):=λh=>
  ⟨h.os,h.tape,h.output,by simpa using h.size,λg hg ho=>⟨(World.putObj_heap_other (by omega)).trans (h.out g hg ho).1,(h.out g hg ho).2⟩,h.cells,h.rows⟩
 let TM:(Nat->Ybm Pl)->Ybp (Nat×Blk)->World->Prop:=λpl' bl W=>∀t v,look σ.tm t=Ybl v->VRep (Ak (EU ok0 w.heap.size) base pl' (look bl) W) v (a.tmps.getD t undef)
 let J:Nat->World->Prop:=λj W=>W.heap[w.heap.size+1]?=Ybl (.loop (rc .ready Ybn))/\W.heap[w.heap.size]?=Ybl (.deferred (Ybl []))/\
  ∃bl nx pl',BCh P n b A B p1 p2 c1 σ.tm eF blF j bl nx/\RelB (EU ok0 w.heap.size) base pl' (look bl) W/\Step pl (look σ.bl) w pl' (look bl) W/\TM pl' bl W
 let Jx:World->Prop:=λW=>W.heap[w.heap.size+1]?=Ybl (.loop (rc .done (GU eF)))/\W.heap[w.heap.size]?=Ybl (.deferred (Ybl []))/\
  eF≠.normal/\∃pl',RelB (EU ok0 w.heap.size) base pl' (look blF) W/\Step pl (look σ.bl) w pl' (look blF) W/\TM pl' blF W
 have hreads:∀{W:World}{bl:Ybp (Nat×Blk)}{pl':Nat->Ybm Pl}{t:TypeId}{l:Ybp b.e.den},look bl c1=Ybl (.cells t [.list b.e l])->RelB (EU ok0 w.heap.size) base pl' (look bl) W->pl' c1=Ybl (.cells g1)->
   ∃(A':Ybm Addr)(c:Nat)(xs:Ybp Value),W.cell? ⟨g1,0,Ybn⟩=Ybl (.slice A' l.length c)/\DList (λx u=>DRep W (Ak (EU ok0 w.heap.size) base pl' (look bl) W).ok b.e x u) l xs/\∀j v,xs[j]?=Ybl v->∃ad,A'=Ybl ad/\W.cell? (ad.add j)=Ybl v:=by
  intro W bl pl' t l h1 hR hp;obtain⟨v1,q1,q2⟩:=Aov hR h1 hp;have q2:DRep W (Ak (EU ok0 w.heap.size) base pl' (look bl) W).ok (.slice b.e) l [v1]:=q2;simp only[DRep]at q2;obtain⟨A',c',xs,e1,k1,k2,k3,k4⟩:=q2;injection e1 with e1;subst e1;exact⟨A',c',xs,q1,k3,λj v hj=>by obtain⟨ad,z1,z2,z3⟩:=k4 j v hj;exact⟨ad,z1,z3⟩⟩
 refine⟨w.heap.size+1,defD w.heap.size,W1,{target:=.fn (.func b.f) #[.pointer (Ybl ⟨g1,0,Ybn⟩)],args:=#[.func (.yield (w.heap.size+1)) #[] #[]]},W1,b.f,
  #[.func (.yield (w.heap.size+1)) #[] #[],.pointer (Ybl ⟨g1,0,Ybn⟩)],W1,?_,?_,λ_ _=>trivial,?_,λh=>(by cases h),?_⟩
 ·rw[<-hW1,hrc];exact run_enterLoop_outer _ _ _ _ _
 ·simp only[resolve,hf']
  simp[go_sem]
 ·simp[invoke,go_sem,hC.enter]
 ·refine(hC.ok (w.heap.size+1) g1 l0.length J Jx W1 hl0 ?_ ⟨hL1,hD1,σ.bl,σ.nx,pl,hch,hr1,hst0,hm1⟩ ?_).mono ?_
  ·obtain⟨A',c,_,q1,_⟩:=hreads hc1 hr1 hp1
   exact⟨A',c,q1⟩
  ·rintro i W ⟨h1,h2,bl,nx,pl',h3,h4,h5,h6⟩
   have key:∀{t:TypeId}{l:Ybp b.e.den}{σ1 σ2:St}{eR:AExit}(hl:look bl c1=Ybl (.cells t [.list b.e l]))(hi:i<l.length)
     (hA:Ov P n A ⟨put (put σ.tm p1 (.c (.int .i64 (i:Int)))) p2 (.agg (cells b.e (l.getD i b.e.dflt))),bl,nx⟩ .normal σ1)(hB:Ov P n B σ1 eR σ2)
     (hfin:∀pl2 W3,W3.heap[w.heap.size+1]?=Ybl (.loop (rc (bif (GU eR).isNone then .ready else .done) (GU eR)))->W3.heap[w.heap.size]?=Ybl (.deferred (Ybl []))->RelB (EU ok0 w.heap.size) base pl2 (look σ2.bl) W3->Step pl (look σ.bl) w pl2 (look σ2.bl) W3->TM pl2 σ2.bl W3->
      (eR=.normal/\J i W3)\/(eR≠.normal/\Jx W3)),
     ∃(ad:Addr)(len c:Nat)(us:Ybp Value),W.cell? ⟨g1,0,Ybn⟩=Ybl (.slice (Ybl ad) len c)/\i<len/\us.length=b.e.size/\(∀v∈us,v.oneCell'=Ybq)/\(∀j u,us[j]?=Ybl u->W.cell? (ad.add (i*b.e.size+j))=Ybl u)/\
      YieldAt Fence.wide 1 P (w.heap.size+1) #[.int .i64 (i:Int),.agg us.toArray] W λe W'=>(e=.returned (.bool Ybq)/\J i W')\/(e=.returned (.bool Ybo)/\Jx W'):=by
    intro t l σ1 σ2 eR hl hi hA hB hfin;obtain⟨A',c,xs,q2,q3,q4⟩:=hreads hl h4 (h5.cells _ _ hp1);obtain⟨us,pp,qq,e1,e2,e3⟩:=q3.get b.e.dflt hi;have hus:=e3.length
    have hget:∀j u,us[j]?=Ybl u->xs[i*b.e.size+j]?=Ybl u:=by intro j u hj;have hjl:=(Do.1 hj).1;rw[e1,<-e2,ES (by omega),show pp.length+j-pp.length=j by omega,G0 hjl];exact hj
    obtain⟨ad,rfl,_⟩:=q4 _ _ (hget 0 (us[0]'(by omega)) (C0 _));refine⟨ad,l.length,c,us,q2,hi,hus,e3.oneCell,λj u hj=>?_,?_⟩
    ·obtain⟨ad',z1,z2⟩:=q4 _ _ (hget j u hj)
     cases z1;exact z2
    have hy:=run_yield (P:=P) (args:=#[.int .i64 (i:Int),.agg us.toArray]) h1 (by rw[hrc];rfl);rw[hrc]at hy;dsimp only at hy;rw[show(((#[p1,p2]:Ybx Nat).zip #[Value.int .i64 (i:Int),Value.agg us.toArray]).foldl (λtmps x=>match x with|(t,a)=>tmps.setIfInBounds t a) a.tmps)=_ from zip2 _ _ _ _ _]at hy;refine⟨fn,_,A,B,hy,roundIn_of_wpIn trivial ?_⟩
    have hrel:Rel n (EU ok0 w.heap.size) base pl' (look (put (put σ.tm p1 (.c (.int .i64 (i:Int)))) p2 (.agg (cells b.e (l.getD i b.e.dflt))))) (look bl)
      {tmps:=(a.tmps.setIfInBounds p1 (.int .i64 (i:Int))).setIfInBounds p2 (.agg us.toArray),defers:=[]} W:=by
     refine⟨rfl,by simp[hr.size],λt v ht=>?_,h4⟩;rw[So,So]at ht;by_cases htp:t=p2
     ·subst htp
      rw[if_pos rfl]at ht;injection ht with ht;subst ht;simp only[EQ];rw[yZ (by simp[hr.size];exact hpn.2)];exact⟨us,FW e3,rfl⟩
     ·rw[if_neg htp]at ht
      simp only[EQ];rw[z7 (Ne.symm htp)];by_cases htq:t=p1
      ·subst htq
       rw[if_pos rfl]at ht;injection ht with ht;subst ht;rw[yZ (by rw[hr.size];exact hpn.1)];exact rfl
      ·rw[if_neg htq]at ht
       rw[z7 (Ne.symm htq),<-EQ];exact h6 t v ht
    refine wpIn_mono (hA (w.heap.size+1) _ _ base pl' _ W hrel) ?_;rintro e1 a1 w1 ⟨rfl,pl1,hrel1,st1⟩;have hLw1:w1.heap[w.heap.size+1]?=Ybl (.loop (rc .ready Ybn)):=(st1.out _ (h4.glob.no _ noL).1 (h4.glob.no _ noL).2).1.trans h1;have hDw1:w1.heap[w.heap.size]?=Ybl (.deferred (Ybl [])):=(st1.out _ (h4.glob.no _ noD).1 (h4.glob.no _ noD).2).1.trans h2;refine⟨_,run_beginRound hLw1 (by rw[hrc]),?_⟩;obtain⟨hr2,hx2⟩:=hrel1.rel.putO noL (Xg _ _ _) (.loop {rc .ready Ybn with state:=.busy})
    have hrel2:Rel n (EU ok0 w.heap.size) base pl1 (look σ1.tm) (look σ1.bl) a1 (w1.putObj (w.heap.size+1) (.loop {rc .ready Ybn with state:=.busy})):=
     ⟨hrel1.defers,hrel1.size,λt v ht=>VRep.mono hx2 (hrel1.tmps t v ht),hr2⟩
    refine wpIn_mono (hB (w.heap.size+1) _ _ base pl1 a1 _ hrel2) ?_;rintro e2 a2 w3 ⟨rfl,pl2,hrel3,st2⟩;have hlt1:w.heap.size+1<w1.heap.size:=(hrel1.rel.glob.no _ noL).1
    have hLw3:w3.heap[w.heap.size+1]?=Ybl (.loop {rc .ready Ybn with state:=.busy}):=
     (st2.out _ (hr2.glob.no _ noL).1 (hr2.glob.no _ noL).2).1.trans (World.putObj_heap_same hlt1)
    have hDw3:w3.heap[w.heap.size]?=Ybl (.deferred (Ybl [])):=
     (st2.out _ (hr2.glob.no _ noD).1 (hr2.glob.no _ noD).2).1.trans ((World.putObj_heap_other (by omega)).trans hDw1)
    have hend:∃v W3,(Instr.endRound (w.heap.size+1) (GU eR)).run P w3=.ok v W3/\((Ending.returned v=.returned (.bool Ybq)/\J i W3)\/(Ending.returned v=.returned (.bool Ybo)/\Jx W3)):=by
     refine⟨_,_,run_endRound (GU eR) hLw3,?_⟩;have hst:=hSp (o:=.loop (rc (bif (GU eR).isNone then .ready else .done) (GU eR))) ((hSp (o:=.loop {rc .ready Ybn with state:=.busy}) (h5.trans st1)).trans st2);obtain⟨hr4,hx4⟩:=hrel3.rel.putO noL (Xg _ _ _) (.loop (rc (bif (GU eR).isNone then .ready else .done) (GU eR)))
     have hq:=hfin pl2 (w3.putObj (w.heap.size+1) (.loop (rc (bif (GU eR).isNone then .ready else .done) (GU eR)))) (World.putObj_heap_same (hrel3.rel.glob.no _ noL).1) ((World.putObj_heap_other (by omega)).trans hDw3) hr4 hst
      (λt v ht=>VRep.mono hx4 (VRep.mono st2.ext (VRep.mono hx2 (VRep.mono st1.ext (h6 t v ht)))))
     have e0:(rc (bif (GU eR).isNone then .ready else .done) (GU eR))={({rc .ready Ybn with state:=.busy}:Loop)with state:=if(GU eR).isNone then .ready else .done,pending:=GU eR}:=by rw[hrc];cases eR<;>rfl
     rw[e0]at hq;rcases hq with⟨rfl,hq⟩|⟨hne,hq⟩
     ·exact .inl ⟨rfl,hq⟩
     ·refine .inr ⟨?_,hq⟩
      cases eR with
      |normal=>exact Yb1 rfl hne
      |exit id=>rfl
      |ret=>rfl
    cases eR<;>exact hend
   cases h3 with
   |step σ1 σ2 hl hi hA hB hnext=>refine key hl hi hA hB λpl2 W3 z1 z2 z3 z4 z5=>.inl ⟨rfl,z1,z2,σ2.bl,σ2.nx,pl2,hnext,z3,z4,z5⟩
   |out σ1 σ2 hl hi hA hB he hb=>
    subst hb;refine key hl hi hA hB λpl2 W3 z1 z2 z3 z4 z5=>.inr ⟨he,?_,z2,he,pl2,z3,z4,z5⟩;rw[z1];cases eF with
    |normal=>exact Yb1 rfl he
    |exit id=>rfl
    |ret=>rfl
  ·rintro e W2 ⟨⟨v,rfl⟩,h⟩
   rcases h with⟨h1,h2,bl,nx,pl',h3,h4,h5,h6⟩|⟨h1,h2,hne,pl',h4,h5,h6⟩
   ·cases h3 with
    |done he=>
     subst he;obtain⟨hr4,hx4⟩:=h4.putO noL (Xg _ _ _) (.loop {rc .ready Ybn with state:=.exhausted});refine⟨Ybn,W2.putObj (w.heap.size+1) (.loop {rc .ready Ybn with state:=.exhausted}),?_,rfl,pl',rfl,?_,hr4,hSp h5,λt v ht=>VRep.mono hx4 (h6 t v ht)⟩
     ·rw[run_endLoop (P:=P) h1 (by rw[hrc];simp),hrc]
     ·exact(World.putObj_heap_other (by omega)).trans h2
   ·obtain⟨hr4,hx4⟩:=h4.putO noL (Xg _ _ _) (.loop {rc .done (GU eF)with state:=.exhausted})
    refine⟨GU eF,W2.putObj (w.heap.size+1) (.loop {rc .done (GU eF)with state:=.exhausted}),?_,?_⟩
    ·rw[run_endLoop (P:=P) h1 (by rw[hrc];simp),hrc]
    cases eF with
    |normal=>exact Yb1 rfl hne
    |exit id=>exact wpIn_exit ⟨rfl,pl',rfl,(World.putObj_heap_other (by omega)).trans h2,hr4,hSp h5,λt v ht=>VRep.mono hx4 (h6 t v ht)⟩
    |ret=>exact wpIn_ret ⟨rfl,pl',rfl,(World.putObj_heap_other (by omega)).trans h2,hr4,hSp h5,λt v ht=>VRep.mono hx4 (h6 t v ht)⟩
end
end
end Go.Lift
