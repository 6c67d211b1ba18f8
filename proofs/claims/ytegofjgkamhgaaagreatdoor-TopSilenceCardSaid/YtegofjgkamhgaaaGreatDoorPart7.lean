/- Part7 -/
import Derived.RangeFuncBox
import Derived.Shelf.Abstract
import Derived.WalkKit
import Derived.OwnWalkIn
import Derived.TacticsInMore
import Derived.LoopNIn
import Derived.LoopIn
import Derived.Test.YtegofjgkamhgaaaGreatDoorProg
import Derived.Test.YtegofjgkamhgaaaGreatDoorPart4
set_option linter.unusedVariables false
set_option linter.unusedSectionVars false
set_option linter.unusedSimpArgs false
open Option renaming some → Ybl
namespace Go.Lift
open Go.RowKit Go.Shelf Go.Proofs
theorem AoB{P:Program}{m:Nat}{ops:Array Oper}{B5:List Oper}{o:Oper}{a:Act}{w:World}{Q:Exit->Act->World->Prop}(hg:o.guard=none)(t:TypeId)(x:Operand)(ho:o.op=.load t x)(ad:Addr)(hx:a.eval x=.pointer (Ybl ad))(us:List Value)(hA:∀w,(isAgg t).run P w=.ok true w)(hS:∀w,(Go.sizeOf t).run P w=.ok us.length w)(hc:∀j u,us[j]?=Ybl u->w.cell? (ad.add j)=Ybl u)(h:wpListIn Fence.wide m P ops Q B5 (a.put o.dst (.agg us.toArray)) w):wpListIn Fence.wide m P ops Q (o::B5) a w:=by
 refine wpListIn_plain hg λK hK=>?_;refine⟨λ_ _=>trivial,?_⟩;rw[Oper.semAt_eq _ _ _ (by rw[ho];intro c e;cases e)]
 have hl:(loadVar t ad).run P w=.ok (.agg us.toArray) w:=by unfold loadVar;have Pj:=run_loadCells_list (P:=P) w ad us hc;simp[hA,hS,Pj]
 have AE:(execOp a.eval o).run P w=.ok (.value (.agg us.toArray)) w:=by simp[execOp,ho,hx,Instr.loadAt,Instr.sureAddr,hl]
 rw[AE];exact hK _ _ h
set_option maxRecDepth 100000
set_option maxHeartbeats 2000000 in
theorem AoC(l g1 N:Nat)(J:Nat->World->Prop)(Jx:World->Prop)(W:World)(hN:N<=Cn)(h0c:∃(A:Option Addr)(c:Nat),W.cell? ⟨g1,0,none⟩=Ybl (.slice A N c))(h0:J N W)(hY:∀i W,J (i+1) W->∃(ad:Addr)(len c:Nat)(us:List Value),W.cell? ⟨g1,0,none⟩=Ybl (.slice (Ybl ad) len c)/\i<len/\us.length=10/\(∀v∈us,v.oneCell'=true)/\(∀j u,us[j]?=Ybl u->W.cell? (ad.add (i*10+j))=Ybl u)/\YieldAt Fence.wide 1 Tryz.prog l #[.int .i64 (i:Int),.agg us.toArray] W λe W'=>(e=.returned (.bool true)/\J i W')\/(e=.returned (.bool false)/\Jx W')):CallsIn Fence.wide 2 Tryz.prog 382 #[.func (.yield l) #[] #[],.pointer (Ybl ⟨g1,0,none⟩)] W λe W'=>(∃v,e=.returned v)/\(J 0 W'\/Jx W'):=by
 obtain⟨A0,c0,hc0⟩:=h0c;have hN:N<=140737488355328:=hN;refine callsIn_of_wp Tryz.func382 rfl trivial ?_;simp only[Tryz.ntmps382,NU,Be,BP,Nat.reduceAdd,Nat.reduceSub,Array.replicate_succ,Array.replicate_zero,List.push_toArray,List.append_toArray,DT,EE]
 gi_wp2
 gi_loopw [3] (λi wr=>∃q:Nat,i=.int .i64 ((q:Int)-1)/\J q wr/\q<=140737488355328)
  (λi wr=>(intOf i+1).toNat)
 case atStart=>exact⟨N,rfl,h0,hN⟩
 case round=>
  obtain⟨q,rfl,hJ,hq⟩:=hrel;cases q with
  |zero=>
   gi_wp2
   go_end0
   exact⟨⟨_,rfl⟩,.inl hJ⟩
  |succ i=>
   obtain⟨ad,len,c,us,hc1,hlt,hul,hone,hcs,fn,tmps,assign,body,hy,hRd⟩:=hY i wr hJ;have e1:(((i+1:Nat):Int)-1)=(i:Int):=by omega
   rw[e1];have hS:∀w,(Go.sizeOf 252).run Tryz.prog w=.ok us.length w:=by rw[hul];exact Tryz.sizeOf252
   gi_wp2_with (refine AoB rfl 252 _ rfl (ad.add (i*10)) (by simp[Act.eval]) us Tryz.isAgg252 hS (λj u hj=>by rw[MM];exact hcs j u hj) ?_)
   refine hRd.mono ?_;rintro e W3 (⟨rfl,hJ3⟩|⟨rfl,hJ3⟩)
   ·gi_wp2
    go_roundw
    case rel=>exact⟨i,rfl,hJ3,by omega⟩
    case measure=>simp[intOf]
   ·gi_wp2
    exact⟨rfl,_,results_none rfl _ _ _,⟨_,rfl⟩,.inr hJ3⟩
theorem AbL:BackOk Tryz.prog ⟨382,(.prod .str (.prod (.int .i64) (.prod (.prod (.int .i64) (.int .i64)) (.prod (.int .i64) (.prod (.int .i64) (.prod (.slice (.int .i64)) (.prod (.slice (.prod (.int .i64) (.int .i64))) (.prod (.int .i64) (.int .i64)))))))))⟩:=⟨enters_of Tryz.func382 (by kernel_rfl) rfl,λl g1 N J Jx W hN hc h0 hY=>AoC l g1 N J Jx W hN hc h0 hY⟩
end Go.Lift
