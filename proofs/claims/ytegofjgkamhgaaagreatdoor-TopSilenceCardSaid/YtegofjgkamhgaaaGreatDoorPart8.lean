/- Part8 -/
import Derived.Shelf.Abstract
import Derived.Shelf.RegionOpenPlain
import Derived.WalkKit
import Derived.Deep.LoopGhost
import Derived.Deep.RegionLaw
import Derived.Lib.Walk
import Derived.Sort.WalkB12
import Derived.Lib.SliceRun
import Derived.Lib.AppendZerosOnto
import Derived.Lib.Overlaps
import Derived.Laws.Externs
import Derived.Maps.AppendAt
import Derived.Test.YtegofjgkamhgaaaGreatDoorPart3
set_option linter.unusedVariables false
set_option linter.unusedSectionVars false
set_option linter.unusedSimpArgs false
open Option renaming some → Ybl, none → Ybn
open _root_ renaming List → Ybp, Array → Ybx
open List renaming range → Yb2, take → Yb8
open Nat renaming ne_of_lt → Yb7
namespace Go.Lift
open Go.RowKit Go.Shelf Go.Proofs Go.Lib Go.Sort
theorem SV{P:Program}{ops:Ybx Oper}{o:Oper}{a:Act}{w:World}{K:Act->World->Prop}{Q:Exit->Act->World->Prop}{E:Prop}(hg:o.guard=Ybn){v:Value}{w':World}(hr:(execOp a.eval o).run P w=.ok (.value v) w')(hK:K (a.put o.dst v) w'):if Region.wanted o (yielded ops a.tmps)=true then Oper.wp P o a w K Q else E:=by
 have hw:Region.wanted o (yielded ops a.tmps)=true:=by simp[Region.wanted,hg]
 rw[if_pos hw];unfold Oper.wp;rw[hr];exact hK
theorem HK{P:Program}{w:World}{ops:Ybx Oper}{B5:Ybp Oper}{o:Oper}{a:Act}{Q:Exit->Act->World->Prop}(Hx:o.guard=Ybn){v:Value}{w':World}(hr:(execOp a.eval o).run P w=.ok (.value v) w')(h:wpList P ops Q B5 (a.put o.dst v) w'):wpList P ops Q (o::B5) a w:=
 wpList_plain Hx λK hK=>by unfold Oper.wp;rw[hr];exact hK _ _ h
theorem HL{P:Program}{ops:Ybx Oper}{B5:Ybp Oper}{o:Oper}{a:Act}{w:World}{Q:Exit->Act->World->Prop}(hg:o.guard=Ybn)(t:TypeId)(x:Operand)(ho:o.op=.load t x)(ad:Addr)(hx:a.eval x=.pointer (Ybl ad))(us:Ybp Value)(k:Nat)(AK:us.length=k)(hA:∀w,(isAgg t).run P w=.ok true w)(hS:∀w,(Go.sizeOf t).run P w=.ok k w)(hc:∀j u,us[j]?=Ybl u->w.cell? (ad.add j)=Ybl u)(h:wpList P ops Q B5 (a.put o.dst (.agg us.toArray)) w):wpList P ops Q (o::B5) a w:=by
 subst AK;refine HK hg (v:=.agg us.toArray) (w':=w) ?_ h
 have hl:(loadVar t ad).run P w=.ok (.agg us.toArray) w:=by unfold loadVar;have Pj:=run_loadCells_list (P:=P) w ad us hc;simp[hA,hS,Pj]
 simp[execOp,ho,hx,Instr.loadAt,Instr.sureAddr,hl]
def chk(ys:Ybp Value)(k j:Nat):Ybp Value:=(ys.drop (j*k)).take k
theorem SW{ys:Ybp Value}{k j n:Nat}(h:ys.length=n*k)(hj:j<n):(chk ys k j).length=k:=by have:(j+1)*k<=n*k:=Fs _ hj;rw[DJ]at this;simp only[chk,CJ,GN];omega
theorem Raw.chk{w:World}{g:Nat}{e:TypeId}{ys:Ybp Value}(h:Raw w g e ys){k q:Nat}(j:Nat)(u:Value)(hj:(chk ys k q)[j]?=Ybl u):w.cell? ((⟨g,q*k,Ybn⟩:Addr).add j)=Ybl u:=by
 rw[Addr.add_lit]
 have bS:j<k:=by have:=(Do.1 hj).1;simp only[Go.Lift.chk,CJ]at this;omega
 simp only[Go.Lift.chk]at hj;rw[HA bS,KZ]at hj;exact h.cell hj
def D3(pr:Nat->Bool)(j:Nat):Ybp Nat:=(Yb2 j).filter λq=>!pr q
theorem Q0(pr:Nat->Bool)(j:Nat):D3 pr (j+1)=D3 pr j++(if pr j then []else [j]):=by unfold D3;rw[List.range_succ,LI];cases hp:pr j<;>simp[LJ,hp]
theorem Xi{pr:Nat->Bool}{j:Nat}(h:∀q,q<j->pr q=false):D3 pr j=Yb2 j:=by unfold D3;exact VY.2 λq hq=>by simp[h q (Sc.1 hq)]
theorem Xj(ys:Ybp Value)(k:Nat):∀j,(Yb2 j).flatMap (chk ys k)=ys.take (j*k)
 |0=>by simp
 |j+1=>by rw[List.range_succ,dK,Xj ys k j,DJ,List.take_add];simp[chk]
theorem Xk(z:Ybp Value):∀n,(repL n z).length=n*z.length
 |0=>by simp[repL]
 |n+1=>by simp[repL,Xk z n,DJ];omega
structure DInv (pr:Nat->Bool) (ys:Ybp Value) (k cap n:Nat) (zs:Ybp Value) (i j:Nat):Prop where
 len:zs.length=cap*k
 ij:i<j
 jn:j<=n
 cnt:(D3 pr j).length=i
 low:zs.take (i*k)=(D3 pr j).flatMap (chk ys k)
 high:∀q,j<=q->q<n->chk zs k q=chk ys k q
section
variable{pr:Nat->Bool}{ys zs:Ybp Value}{k cap n i j:Nat}
theorem DInv.skip(h:DInv pr ys k cap n zs i j)(hj:j<n)(hp:pr j=true):DInv pr ys k cap n zs i (j+1):=
 ⟨h.len,Nat.lt_succ_of_lt h.ij,hj,by rw[Q0,hp];simpa using h.cnt,by rw[Q0,hp];simpa using h.low,λq h1 h2=>h.high q (by omega) h2⟩
theorem DInv.keep(h:DInv pr ys k cap n zs i j)(GG:ys.length=cap*k)(BO:n<=cap)(hj:j<n)(hp:pr j=false):DInv pr ys k cap n (ovr zs (i*k) (chk ys k j)) (i+1) (j+1):=by
 have DF:=SW GG (Ij hj BO);have h1:(i+1)*k<=cap*k:=Fs _ (by have:=h.ij;omega);have BZ:=h1;rw[DJ]at BZ;have Bx:i*k+(chk ys k j).length<=zs.length:=by rw[DF,h.len];exact BZ
 have cG:(zs.take (i*k)).length=i*k:=by rw[CJ,h.len];omega
 refine⟨by rw[IJ Bx,h.len],by have:=h.ij;omega,hj,by rw[Q0,hp];simpa using h.cnt,?_,λq h2 h3=>?_⟩
 ·rw[Q0,hp,dK,<-h.low]
  simp only[G3,Cb,NV,List.flatMap_nil,Gj];have:((i+1)*k)=(zs.take (i*k)++chk ys k j).length:=by rw[Bd,cG,DF,DJ]
  rw[this];unfold ovr;rw[LL];rfl
 ·rw[<-h.high q (by omega) h3]
  have h4:(i+1)*k<=q*k:=Fs _ (by have:=h.ij;omega);unfold chk ovr;congr 1;have h5:(zs.take (i*k)++chk ys k j).length=(i+1)*k:=by rw[Bd,cG,DF,DJ]
  have Al2:(Yb8 (i*k) zs++Yb8 k (List.drop (j*k) ys)).length=(i+1)*k:=h5;have ADi:(Yb8 k (List.drop (j*k) ys)).length=k:=DF;rw[RX,GM (by rw[Al2];exact h4),DT,PJ,Al2,ADi,<-DJ];congr 1;show(i+1)*k+(q*k-(i+1)*k)=q*k;omega
theorem DInv.start(GG:ys.length=cap*k)(hn:i<n)(hi:pr i=true)(h:∀q,q<i->pr q=false):DInv pr ys k cap n ys i (i+1):=by
 refine⟨GG,Nat.lt_succ_self _,hn,?_,?_,λ_ _ _=>rfl⟩
 ·rw[Q0,hi,Xi h]
  simp
 ·rw[Q0,hi,Xi h]
  simp only[CR,Gj];exact(Xj ys k i).symm
end
theorem Xl{P:Program}{ops:Array Oper}{B5:List Oper}{o:Oper}{a:Act}{w W1:World}{Q:Exit->Act->World->Prop}(hg:o.guard=none)(t:TypeId)(ho:o.op=.alloc t){z:Value}(hz:∀w,(zeroValue t).run P w=.ok z w)(hW:w.alloc (.cells z.cells t)=W1)(h:wpList P ops Q B5 (a.put o.dst (.pointer (some ⟨w.heap.size,0,none⟩))) W1):wpList P ops Q (o::B5) a w:=by
 subst hW;exact HK hg (v:=.pointer (Ybl ⟨w.heap.size,0,Ybn⟩)) (by simp[execOp,ho,hz,Instr.alloc,newVar,newRow]) h
theorem Q1{P:Program}{ops:Ybx Oper}{B5:Ybp Oper}{o:Oper}{a:Act}{w w':World}{Q:Exit->Act->World->Prop}(Hx:o.guard=Ybn)(t:TypeId)(x y:Operand)(ho:o.op=.store t x y)(ad:Addr)(hx:a.eval x=.pointer (Ybl ad))(us:Ybp Value)(hy:a.eval y=.agg us.toArray)(k:Nat)(hl:us.length=k)(hS:∀w,(Go.sizeOf t).run P w=.ok k w)(AY:(storeCells ad us).run P w=.ok () w')(h:wpList P ops Q B5 (a.put o.dst undef) w'):wpList P ops Q (o::B5) a w:=
 wpList_plain Hx λK hK=>by
  have hr:(execOp a.eval o).run P w=.ok .skip w':=by simp[execOp,ho,hx,hy,Instr.storeAt,Instr.sureAddr,storeVar,hS,hl,AY,Value.cells]
  unfold Oper.wp;rw[hr];exact hK _ _ h
theorem Xm{w w1:World}{g:Nat}(h:w.grownBy w1 (Ybl g))(o:Obj):w.grownBy (w1.alloc o) (Ybl g):=
 ⟨h.os,h.tape,h.output,BH h.size (by show w1.heap.size<=(w1.heap.push o).size;simp),λk hk Az=>by rw[<-h.block k hk Az];have:k<w1.heap.size:=Ij hk h.size;show(w1.heap.push o)[k]?=_;simp[VX,Yb7 this]⟩
theorem HM{w w1 w2:World}{g q:Nat}(h:w.grownBy w1 (Ybl g))(h2:w1.grownBy w2 (Ybl q))(hq:w.heap.size<=q\/q=g):w.grownBy w2 (Ybl g):=
 ⟨h2.os.trans h.os,h2.tape.trans h.tape,h2.output.trans h.output,BH h.size h2.size,λk hk Az=>by
  rw[h2.block k (Ij hk h.size) (λe=>by
   injection e with e;rcases hq with hq|hq
   ·omega
   ·exact Az (by rw[e,hq])),h.block k hk Az]⟩
theorem Lm{w w1 w2:World}{g:Nat}(h:w.grownBy w1 (Ybl g))(h2:w1.grownBy w2 Ybn):w.grownBy w2 (Ybl g):=
 ⟨h2.os.trans h.os,h2.tape.trans h.tape,h2.output.trans h.output,BH h.size h2.size,λk hk Az=>by rw[h2.block k (Ij hk h.size) (by simp),h.block k hk Az]⟩
theorem Raw.none{w w1:World}{g:Nat}{e:TypeId}{ys:Ybp Value}(h:Raw w g e ys)(h2:w.grownBy w1 Ybn):Raw w1 g e ys:=(h2.block g h.lt (by simp)).trans h
theorem Raw.other{w w1:World}{g q:Nat}{e:TypeId}{ys:Ybp Value}(h:Raw w g e ys)(h2:w.grownBy w1 (Ybl q))(hq:g≠q):Raw w1 g e ys:=(h2.block g h.lt (by simpa using hq)).trans h
theorem Raw.alloc{w:World}{g:Nat}{e:TypeId}{ys:Ybp Value}(h:Raw w g e ys)(o:Obj):Raw (w.alloc o) g e ys:=by have h0:w.heap[g]?=Ybl (.cells ys.toArray e (0,0)):=h;have:g<w.heap.size:=h.lt;show(w.heap.push o)[g]?=_;simp[VX,Yb7 this,h0]
theorem Raw.new(w:World)(e:TypeId)(ys:Ybp Value):Raw (w.alloc (.cells ys.toArray e)) w.heap.size e ys:=by show(w.heap.push _)[w.heap.size]?=_;simp
theorem AbM{ys:Ybp Value}{e:TypeId}{k j:Nat}(h:∀v∈ys,v.oneCell'=true):∀v∈chk ys k j,v.oneCell'=true:=λv hv=>h v (VW (List.mem_of_mem_take hv))
theorem Ng{w:World}{base:Nat}{e:TypeId}{k n:Nat}{sv:Value}{xs:Ybp Value}(h:w.ownsRow base e k sv n xs):(sv=.slice Ybn 0 0/\n=0/\xs=[])\/∃g cap ys,sv=.slice (Ybl ⟨g,0,Ybn⟩) n cap/\Raw w g e ys/\ys.length=cap*k/\ys.take (n*k)=xs/\n<=cap/\cap<=maxLen/\base<=g:=by
 rcases h.2 with⟨h1,h2⟩|⟨g,cap,AI,h1,h2,h3,h4,h5,h6,h7⟩
 ·refine .inl ⟨h1,h2,FT ?_⟩
  rw[h.1,h2,Sg]
 ·exact .inr ⟨g,cap,AI.toList,h1,h3,by rw[FV];exact h6,h7,h4,h5,h2⟩
theorem Ow{w:World}{base:Nat}{e:TypeId}{k n g cap:Nat}{xs ys:Ybp Value}(h:Raw w g e ys)(hl:ys.length=cap*k)(ht:ys.take (n*k)=xs)(hn:n<=cap)(hc:cap<=maxLen)(hb:base<=g):w.ownsRow base e k (.slice (Ybl ⟨g,0,Ybn⟩) n cap) n xs:=by
 refine⟨?_,.inr ⟨g,cap,ys.toArray,rfl,hb,h,hn,hc,by rw[NU];exact hl,ht⟩⟩;rw[<-ht,CJ,hl];exact ID (Fs _ hn)
theorem Raw.shape{w:World}{g:Nat}{e:TypeId}{ys:Ybp Value}(h:Raw w g e ys):w.shape? g=Ybl (e,ys.length):=by have h0:w.heap[g]?=Ybl (.cells ys.toArray e (0,0)):=h;simp[World.shape?,h0]
theorem AbN{xs ys us:Ybp Value}{k n i cap:Nat}(Cw:ys.length=cap*k)(Ed:ys.take (n*k)=xs)(Cp:xs.length=n*k)(DR:us.length=k)(hi:i<n)(Cj:n+1<=cap):(ovr (ovr ys ((i+1)*k) (xs.drop (i*k))) (i*k) us).take ((n+1)*k)=xs.take (i*k)++us++xs.drop (i*k):=by
 have h1:i*k<=n*k:=Fs _ (by omega);have h2:(n+1)*k<=cap*k:=Fs _ Cj;have h3:(i+1)*k<=n*k:=Fs _ hi;rw[DJ]at h2 h3;have e1:ys.take (i*k)=xs.take (i*k):=by rw[<-Ed,LM,ID h1]
 unfold ovr;rw[DJ,DJ,DR];have l1:(ys.take (i*k+k)).length=i*k+k:=by rw[CJ,Cw];omega
 have a1:(ys.take (i*k+k)++xs.drop (i*k)++ys.drop (i*k+k+(xs.drop (i*k)).length)).take (i*k)=xs.take (i*k):=by rw[C1,KY (by rw[l1];omega),LM,ID (by omega),e1]
 have a2:(ys.take (i*k+k)++xs.drop (i*k)++ys.drop (i*k+k+(xs.drop (i*k)).length)).drop (i*k+k)=xs.drop (i*k)++ys.drop (i*k+k+(xs.drop (i*k)).length):=by rw[C1];exact List.drop_left' l1
 rw[a1,a2]
 have l2:(xs.take (i*k)++us++xs.drop (i*k)).length=n*k+k:=by simp only[Bd,CJ,GN,Cp,DR];omega
 rw[<-C1];exact LL l2
theorem AbO{xs ys us:Ybp Value}{k n i c:Nat}(Cw:ys.length=c*k)(Ed:ys.take (i*k)=xs.take (i*k))(Cp:xs.length=n*k)(DR:us.length=k)(hi:i<n)(Cj:n+1<=c):(ovr (ovr ys (i*k) us) ((i+1)*k) (xs.drop (i*k))).take ((n+1)*k)=xs.take (i*k)++us++xs.drop (i*k):=by
 have h1:i*k<=n*k:=Fs _ (by omega);have h2:(n+1)*k<=c*k:=Fs _ Cj;have h3:(i+1)*k<=n*k:=Fs _ hi;rw[DJ]at h2 h3;unfold ovr;rw[DJ,DJ,Ed];have l1:(xs.take (i*k)++us).length=i*k+k:=by rw[Bd,CJ,Cp,DR];omega
 have a1:(xs.take (i*k)++us++ys.drop (i*k+us.length)).take (i*k+k)=xs.take (i*k)++us:=LL l1;rw[a1];exact LL (by rw[Bd,l1,GN,Cp];omega)
theorem SX{xs ys:Ybp Value}{k n j:Nat}(h:ys.take (n*k)=xs)(hj:j<n):chk ys k j=chk xs k j:=by have h1:(j+1)*k<=n*k:=Fs _ hj;rw[DJ]at h1;unfold chk;rw[<-h,List.drop_take,LM,ID (by omega)]
theorem AoD{pr:Nat->Bool}{n q:Nat}(h:q∈D3 pr n):q<n:=Sc.1 (Fv.1 h).1
theorem AbP{xs ys:Ybp Value}{k n:Nat}(h:ys.take (n*k)=xs)(pr:Nat->Bool):(D3 pr n).flatMap (chk ys k)=(D3 pr n).flatMap (chk xs k):=by
 have:∀l:Ybp Nat,(∀q∈l,q<n)->l.flatMap (chk ys k)=l.flatMap (chk xs k):=λl=>by
  induction l with
  |nil=>intro _;rfl
  |cons q l ih=>intro hl;simp only[NV];rw[SX h (hl q (by simp)),ih λr hr=>hl r (by simp[hr])]
 exact this _ λq hq=>AoD hq
theorem AbQ(pr:Nat->Bool)(n:Nat):(D3 pr n).length<=n:=by
 have:=MH (λq=>!pr q) (Yb2 n)
 rwa [RT]at this
theorem AoE{xs ys:Ybp Value}{k n i c:Nat}{us:Ybp Value}(Cw:ys.length=c*k)(Ed:ys.take (n*k)=xs)(Cp:xs.length=n*k)(hi:i<n)(BO:n<=c)(AN:us.length=k):(ovr (ovr ys (i*k) (xs.drop ((i+1)*k))) ((n-1)*k) us).take ((n-1)*k)=xs.take (i*k)++xs.drop ((i+1)*k):=by
 have h1:i*k<=n*k:=Fs _ (by omega);have h2:n*k<=c*k:=Fs _ BO;have h3:(i+1)*k<=n*k:=Fs _ hi;have h4:(n-1+1)*k=n*k:=by rw[show n-1+1=n by omega]
 rw[DJ]at h3 h4;have l0:(xs.drop ((i+1)*k)).length=n*k-(i*k+k):=by rw[GN,Cp,DJ]
 have l1:(ovr ys (i*k) (xs.drop ((i+1)*k))).length=c*k:=by rw[IJ (by rw[l0,Cw];omega),Cw]
 have e1:ys.take (i*k)=xs.take (i*k):=by rw[<-Ed,LM,ID h1]
 rw[show ∀a b:Ybp Value,(ovr a ((n-1)*k) b).take ((n-1)*k)=(a.take ((n-1)*k)).take ((n-1)*k)++((b++a.drop ((n-1)*k+b.length)).take ((n-1)*k-(a.take ((n-1)*k)).length))from λa b=>by unfold ovr;rw[C1,RV]]
 rw[CJ,l1,ID (by omega),Sh,List.take_zero,Gj,LM,Si];unfold ovr;rw[e1];exact LL (by rw[Bd,CJ,l0,Cp];omega)
theorem AbR{P:Program}{ops:Ybx Oper}{B5:Ybp Oper}{o:Oper}{a:Act}{w W1:World}{Q:Exit->Act->World->Prop}(hg:o.guard=Ybn)(t:TypeId)(x:Operand)(ho:o.op=.box t x)(us:Ybp Value)(hx:a.eval x=.agg us.toArray)(hW:w.alloc (.cells us.toArray t)=W1)(h:wpList P ops Q B5 (a.put o.dst (.pointer (Ybl ⟨w.heap.size,0,Ybn⟩))) W1):wpList P ops Q (o::B5) a w:=by
 subst hW;exact HK hg (v:=.pointer (Ybl ⟨w.heap.size,0,Ybn⟩)) (by simp[execOp,ho,hx,Instr.box,newVar,newRow,Value.cells]) h
end Go.Lift
