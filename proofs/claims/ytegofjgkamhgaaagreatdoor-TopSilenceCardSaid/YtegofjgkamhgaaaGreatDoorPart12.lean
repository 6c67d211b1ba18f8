/- Part12 -/
import Derived.Shelf.Slices.In.SortAlone
import Derived.Sort.OwnSorted
import Derived.Sort.EveryDepth
import Derived.Test.YtegofjgkamhgaaaGreatDoorPart11
set_option linter.unusedVariables false
set_option linter.unusedSectionVars false
set_option linter.unusedSimpArgs false
namespace Go.Lift
open Go.RowKit Go.Shelf Go.Sort Go.Proofs
theorem DList.strs{w:World}{ok:Nat->Prop}:∀{l:List (List UInt8)}{xs:List Value},DList (λ(x:List UInt8) u=>DRep w ok .str x u) l xs↔xs=l.map encStr
 |[],xs=>by simp[DList]
 |x::l,xs=>by
  simp only[DList,CP];constructor
  ·rintro⟨u,v,rfl,h1,h2⟩
   simp only[DRep]at h1;subst h1;rw[DList.strs.1 h2];rfl
  ·rintro rfl
   exact⟨[encStr x],_,rfl,rfl,DList.strs.2 rfl⟩
abbrev Kv(l:List (List UInt8)):List (List UInt8):=l.mergeSort λx y=>decide (x<=y)
def Q4(t:TypeId):RowF:=⟨t,.str,false,λl=>decide (l.length<4611686018427387904),Kv,none⟩
theorem Apa{P:Program}{ρ:Shelf.Ren}{f:FuncId}{t:TypeId}(L:Go.Proofs.Lays.n190 P ρ)(hf:ρ.f 190=f)(B9:∃fn,P.funcs[f]?=some fn/\(fn.name== "runtime.NumGoroutine")=false/\fn.body.isNone=false):RowOk P f (Q4 t):=by
 refine⟨B9,rfl,λ_ l=>dG l,λw base sv l xs Iy _hbase _ hd Ah=>?_⟩;subst hf;change Calls P _ #[sv] w _;have Ad:xs=l.map encStr:=DList.strs.1 hd;subst Ad;have Vf:l.length<4611686018427387904:=AC Iy;rcases Ah.2 with⟨rfl,h0⟩|⟨g,cap,AI,rfl,BM,hb,h1,h2,h3,h4⟩
 ·have hl:l=[]:=FT h0
  subst hl;refine(Go.Proofs.Any.slices_Sort_string_none L none 0 w).mono λe w' ⟨he,hw⟩=>?_;subst hw;refine⟨.slice none 0 0,he,⟨rfl,rfl,rfl,Aw _,λ_ _ _=>rfl⟩,λ_=>rfl,.inl rfl,[],DList.strs.2 ?_,?_⟩
  ·simp[Q4,Kv]
  ·have:(Q4 t).run []=[]:=by simp[Q4,Kv]
   rw[this];exact⟨rfl,.inl ⟨rfl,rfl⟩⟩
 ·have U6:AI.size=cap*1:=h3
  have U7:AI.toList.take l.length=l.map encStr:=by have:l.length*(Q4 t).e.size=l.length:=Nat.mul_one _;rw[this]at h4;exact h4
  have hg:g<w.heap.size:=(Fb.1 hb).1;refine(calls_of_every_depth λD=>Go.Proofs.AnyS.slices_Sort_string_alone L D g 0 cap l w (holds_of_block hb U7) hg Vf).mono λe w' ⟨he,n,os,hw⟩=>?_;subst hw;have AK:(Kv l).length=l.length:=dG l;refine⟨.slice (some ⟨g,0,none⟩) l.length cap,he,grownBy_sorted _,λ_=>rfl,.inl rfl,(Kv l).map encStr,DList.strs.2 rfl,?_⟩;have:=ownsRow_sorted (n:=n) (os:=os) (ts:=Kv l) AK BM hb h1 h2 U6;show World.ownsRow _ base t 1 _ (Kv l).length _;rw[AK];exact this
end Go.Lift
