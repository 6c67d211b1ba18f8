/- Part11 -/
import Derived.Shelf.Sort.Plain
import Derived.Shelf.Slices.In.SortNone
import Derived.Sort.OwnSortedInts
import Derived.Shelf.Slices.CompactI
import Derived.Lib.RowBridge
import Derived.Test.YtegofjgkamhgaaaGreatDoorPart3
set_option linter.unusedVariables false
set_option linter.unusedSectionVars false
set_option linter.unusedSimpArgs false
open Bool renaming false → Ybo
open _root_ renaming List → Ybp
open List renaming replicate → Yb4
open Nat renaming mul_one → Yb6
namespace Go.Lift
open Go.RowKit Go.Shelf Go.Sort
theorem DList.ints{w:World}{ok:Nat->Prop}{k:IntKind}:∀{l:Ybp Int}{xs:Ybp Value},DList (λ(x:Int) u=>DRep w ok (.int k) x u) l xs↔xs=l.map (Value.int k)
 |[],xs=>by simp[DList]
 |x::l,xs=>by
  simp only[DList,CP];constructor
  ·rintro⟨u,v,rfl,h1,h2⟩
   simp only[DRep]at h1;subst h1;rw[DList.ints.1 h2];rfl
  ·rintro rfl
   exact⟨[.int k x],_,rfl,rfl,DList.ints.2 rfl⟩
def insI(x:Int):Ybp Int->Ybp Int
 |[]=>[x]
 |y::r=>bif decide (x<=y)then x::y::r else y::insI x r
def GV(l:Ybp Int):Ybp Int:=l.foldr insI []
theorem iU(x:Int):∀l:Ybp Int,(insI x l).Perm (x::l)
 |[]=>.refl _
 |y::r=>by
  simp only[insI];cases decide (x<=y)with
  |true=>exact .refl _
  |false=>exact((iU x r).cons y).trans (.swap x y r)
theorem Ac2(x:Int):∀l:Ybp Int,l.Pairwise (λa b=>a<=b)->(insI x l).Pairwise (λa b=>a<=b)
 |[],_=>by simp[insI]
 |y::r,h=>by
  obtain⟨h1,h2⟩:=G4.1 h;simp only[insI];cases hd:decide (x<=y)with
  |true=>
   have cM:=AC hd
   exact G4.2 ⟨λz hz=>by
    rcases Bg.1 hz with rfl|hz
    ·exact cM
    ·have:=h1 z hz
     omega,h⟩
  |false=>
   have cM:=MI hd
   exact G4.2 ⟨λz hz=>by
    rcases Bg.1 ((iU x r).mem_iff.1 hz)with rfl|hz
    ·omega
    ·exact h1 z hz,Ac2 x r h2⟩
theorem Xo:∀l:Ybp Int,(GV l).Perm l
 |[]=>.refl _
 |x::l=>(iU x (GV l)).trans ((Xo l).cons x)
theorem Ac3:∀l:Ybp Int,(GV l).Pairwise (λa b=>a<=b)
 |[]=>.nil
 |x::l=>Ac2 x _ (Ac3 l)
theorem Ac4(l:Ybp Int):l.mergeSort (λx y=>decide (x<=y))=GV l:=by have h1:=List.pairwise_mergeSort (le:=λx y:Int=>decide (x<=y)) (λa b c h1 h2=>by simp only[HB]at*;omega) (λa b=>by simp only[Ik,HB];omega) l;refine List.Perm.eq_of_pairwise (le:=λa b=>a<=b) (λa b _ _ h1 h2=>by omega) (h1.imp λh=>AC h) (Ac3 l) ((List.mergeSort_perm l _).trans (Xo l).symm)
def Q3(t:TypeId):RowF:=⟨t,.int .i64,Ybo,λl=>decide (l.length<4611686018427387904),GV,none⟩
theorem Ap8{P:Program}{ρ:Shelf.Ren}{f:FuncId}{t:TypeId}(L:Go.Proofs.Lays.n189 P ρ)(hf:ρ.f 189=f)(B9:∃fn,P.funcs[f]?=some fn/\(fn.name== "runtime.NumGoroutine")=Ybo/\fn.body.isNone=Ybo):RowOk P f (Q3 t):=by
 refine⟨B9,rfl,λ_ l=>(Xo l).length_eq,λw base sv l xs Iy _hbase _ hd Ah=>?_⟩;subst hf;change Calls P _ #[sv] w _;have Ad:xs=l.map (Value.int .i64):=DList.ints.1 hd;subst Ad;have Vf:l.length<4611686018427387904:=AC Iy;rcases Ah.2 with⟨rfl,h0⟩|⟨g,cap,AI,rfl,BM,hb,h1,h2,h3,h4⟩
 ·have hl:l=[]:=FT h0
  subst hl;refine(Go.Proofs.Any.slices_Sort_int_none L none 0 w).mono λe w' ⟨he,hw⟩=>?_;subst hw;refine⟨.slice none 0 0,he,⟨rfl,rfl,rfl,Aw _,λ_ _ _=>rfl⟩,λ_=>rfl,.inl rfl,[],DList.ints.2 ?_,?_⟩
  ·simp[Q3,GV]
  ·have:(Q3 t).run []=[]:=by simp[Q3,GV]
   rw[this];exact⟨rfl,.inl ⟨rfl,rfl⟩⟩
 ·have U6:AI.size=cap*1:=h3
  have U7:AI.toList.take l.length=l.map (Value.int .i64):=by have:l.length*(Q3 t).e.size=l.length:=Yb6 _;rw[this]at h4;exact h4
  have hg:g<w.heap.size:=(Fb.1 hb).1;refine(Go.Proofs.Any.slices_Sort_int L g 0 cap l w (holds_of_blockI hb U7) hg Vf).mono λe w' ⟨he,n,os,hw⟩=>?_;subst hw;rw[Ac4 l];have AK:(GV l).length=l.length:=(Xo l).length_eq;refine⟨.slice (some ⟨g,0,none⟩) l.length cap,he,grownBy_sortedI _,λ_=>rfl,.inl rfl,(GV l).map (Value.int .i64),DList.ints.2 rfl,?_⟩;have:=ownsRow_sortedI (n:=n) (os:=os) (ts:=GV l) AK BM hb h1 h2 U6;show World.ownsRow _ base t 1 _ (GV l).length _;rw[AK];exact this
def Ac5(t:TypeId):RowF:=⟨t,.int .i64,true,λl=>decide (l.length<4611686018427387904),λl=>Go.Lib.compact l,none⟩
theorem Ap9{P:Program}{ρ:Shelf.Ren}{f:FuncId}{t:TypeId}(L:Go.Proofs.Lays2.n20 P ρ)(hf:ρ.f 20=f)(B9:∃fn,P.funcs[f]?=some fn/\(fn.name== "runtime.NumGoroutine")=Ybo/\fn.body.isNone=Ybo):RowOk P f (Ac5 t):=by
 have Rw:∀l:Ybp Int,(Go.Lib.compact l).length<=l.length:=Go.Lib.compact_length_le;refine⟨B9,rfl,λh=>(by cases h),λw base sv(l:Ybp Int) xs Iy _hbase _ hd Ah=>?_⟩;subst hf;change Calls P _ #[sv] w _;have Ad:xs=l.map (Value.int .i64):=DList.ints.1 hd;subst Ad;have Vf:l.length<4611686018427387904:=AC Iy;rcases Ah.2 with⟨rfl,h0⟩|⟨g,cap,AI,rfl,BM,hb,h1,h2,h3,h4⟩
 ·have hl:l=[]:=FT h0
  subst hl;have C6:Go.Lib.compact ([]:Ybp Int)=[]:=FT (Nat.le_zero.1 (Rw []));refine(Go.Proofs.Any.slices_Compact_int_empty L none 0 w).mono λe w' ⟨he,hw⟩=>?_;subst hw;refine⟨.slice none 0 0,he,⟨rfl,rfl,rfl,Aw _,λ_ _ _=>rfl⟩,λh=>(by cases h),.inl rfl,[],DList.ints.2 ?_,?_⟩
  ·show []=List.map _ (Go.Lib.compact [])
   rw[C6];rfl
  ·show World.ownsRow _ base t 1 _ (Go.Lib.compact ([]:Ybp Int)).length _
   rw[C6];exact⟨rfl,.inl ⟨rfl,rfl⟩⟩
 ·have U6:AI.size=cap*1:=h3
  have U7:AI.toList.take l.length=l.map (Value.int .i64):=by have h4:AI.toList.take (l.length*1)=l.map (Value.int .i64):=h4;rw[Yb6]at h4;exact h4
  refine(Go.Proofs.Any.slices_Compact_int L g 0 cap l w (holds_of_blockI hb U7) (Nat.le_of_lt (Nat.lt_trans Vf (by decide))) h1).mono λe w' ⟨he,q,hw⟩=>?_;have Bx:=Rw l;generalize DF:(Go.Lib.compact l:Ybp Int)=cl at he hw Bx;have V3:w'=grow (putRow (Value.int .i64) (Sort.ahead w q) g 0 (cl++Yb4 (l.length-cl.length) 0).toArray) #[]:=by rw[grow_empty];exact hw
  subst V3;have AK:(cl++Yb4 (l.length-cl.length) (0:Int)).length=l.length:=by simp;omega
  have EZ:=ownsRow_sortedI (n:=q) (os:=#[]) (ts:=cl++Yb4 (l.length-cl.length) (0:Int)) AK BM hb h1 h2 U6;refine⟨.slice (some ⟨g,0,none⟩) cl.length cap,he,grownBy_sortedI _,λh=>(by cases h),.inl rfl,cl.map (Value.int .i64),?_,?_⟩
  ·have:cl.map (Value.int .i64)=(Go.Lib.compact l).map (Value.int .i64):=by rw[DF]
   rw[this];exact DList.ints.2 rfl
  ·show World.ownsRow _ base t 1 _ (Go.Lib.compact l).length _
   rw[DF];obtain⟨_,⟨h,_⟩|⟨g',AGs,vS,hv,AV,Aj,CF,OU,U9,bK⟩⟩:=EZ
   ·cases h
   ·simp only[Value.slice.injEq,Af,Addr.mk.injEq,Ef,true_and]at hv
    obtain⟨rfl,rfl⟩:=hv;refine⟨by simp,.inr ⟨g,cap,vS,rfl,AV,Aj,by omega,OU,U9,?_⟩⟩;rw[Yb6]at bK⊢;have h5:(vS.toList.take l.length).take cl.length=vS.toList.take cl.length:=by rw[LM,ID Bx]
    rw[<-h5,bK,LK,LL (by simp)]
end Go.Lift
