/- Part13 -/
import Derived.Shelf.SlIterI.Sorted
import Derived.Test.YtegofjgkamhgaaaGreatDoorPart11
set_option linter.unusedVariables false
set_option linter.unusedSectionVars false
set_option linter.unusedSimpArgs false
open Option renaming some → Ybl, none → Ybn
open _root_ renaming List → Ybp
open List.Perm renaming refl → Yb3
namespace Go.Lift
open Go.RowKit Go.Shelf Go.Sort Go.Proofs Go.WideElems Go.MapKept
def inR(l:Ybp Int):Bool:=l.all λx=>decide (-9223372036854775808<=x)&&decide (x<=9223372036854775807)
def nodI:Ybp Int->Bool
 |[]=>true
 |x::r=>!(r.any λy=>decide (y=x))&&nodI r
theorem Ac6:∀{l:Ybp Int},nodI l=true->l.Nodup
 |[],_=>Wi
 |x::r,h=>by simp only[nodI,CO,PH,List.any_eq_false,HB]at h;exact La.2 ⟨λhx=>h.1 x hx rfl,Ac6 h.2⟩
def Apb(l:Ybp Int):Bool:=decide (l.length<=1000000)&&(nodI l&&inR l)
noncomputable def iV(g:FuncId)(te:TypeId):AbsF:=⟨λ{_} bl nx args kk=>
 match args with
 |[.c (.fn g' [c])]=>
  bif Nat.beq g' g then
   match bl c with
   |some (.cells _ [.mapv m])=>
    match bl m,bl nx with
    |some (.map _ (.int .i64) _ _ l),Ybn=>CV (Apb (l.map (·.1))) (kk (.c (.row nx 0)) [c,m,nx] [(nx,.row te (.int .i64) 0 (GV (l.map (·.1))))])
    |_,_=>Ybn
   |_=>Ybn
  else Ybn
 |_=>Ybn⟩
theorem MRep.keysI{w:World}{ok:Nat->Prop}{v:Ty}{vg:Bool}:∀{l:Ybp ((Ty.int .i64).den×v.den)}{es:Ybp MapEntry},MRep w ok (.int .i64) v vg l es->es.map (·.key)=(l.map (·.1)).map encZ
 |[],es,h=>by have h:es=[]:=h;rw[h];rfl
 |x::l,es,h=>by obtain⟨e,r,rfl,⟨us,h1,h2⟩,_,h4⟩:=h;simp only[DRep]at h1;subst h1;simp only[keyW,G3,Cb,CK,Ef]at h2;simp only[CP,MRep.keysI h4,CK,Ef];exact h2.symm
theorem Ac7{H:Type}(x:Lit×DataW H):∀l:Ybp (Lit×DataW H),(DataW.insert x l).Perm (x::l)
 |[]=>Yb3 _
 |y::r=>by
  unfold DataW.insert;split
  ·exact Yb3 _
  ·exact((Ac7 x r).cons y).trans (List.Perm.swap x y r)
theorem iW{H:Type}:∀l:Ybp (Lit×DataW H),(l.foldr DataW.insert []).Perm l
 |[]=>Yb3 _
 |x::l=>by rw[List.foldr_cons];exact(Ac7 x _).trans ((iW l).cons x)
set_option maxHeartbeats 1000000 in
theorem Apc{P:Program}{ρ ρk ρs:Shelf.Ren}(L6:SlLaysZI.n6 P ρ)(L10:SlLaysZI.n10 P ρk)(Ls:Lays.n189 P ρs)(h9:ρs.f 189=ρ.f 9){f g:FuncId}(hf:ρ.f 6=f)(hg:ρk.f 10=g){te:TypeId}(ht:ρ.t 26=te)(hk:P.underlying (ρk.t 26)=Ybl (.int .i64))(e9:∀args w,(callFunc (ρ.f 9) args).run P w=.ok (.enter (ρ.f 9) args) w)(eg:∀args w,(callFunc g args).run P w=.ok (.enter g args) w)(B9:∃fn,P.funcs[f]?=Ybl fn/\(fn.name== "runtime.NumGoroutine")=false/\fn.body.isNone=false):AbsOk P f (iV g te):=by
 subst hf hg ht;refine⟨B9,λ{β} bl nx args kk r hr=>?_⟩;simp only[iV]at hr;split at hr
 ·rename_i g' c
  cases BB:Nat.beq g' (ρk.f 10)with
  |false=>rw[BB]at hr;cases hr
  |true=>
   rw[BB,Ao]at hr;have BB:=At BB;subst BB;split at hr
   ·rename_i tc m hc
    split at hr
    ·rename_i t v vg l hm hn
     obtain⟨wR,hr⟩:=Dc hr;obtain⟨k1,wR⟩:=andB wR;obtain⟨k2,k3⟩:=andB wR;have k1:=AC k1;have k2:=Ac6 k2;refine⟨_,_,_,hr,λbl2 Aj ok0 base pl w us B7 AN=>?_⟩;have BG:=(Aj c (by simp)).trans hc;have Vd:=(Aj m (by simp)).trans hm;have Cz:=(Aj nx (by simp)).trans hn;obtain⟨u,Cf,rfl,⟨gs,Jb,hu⟩,C6⟩:=AN;have C6:Cf=[]:=C6;subst C6
     obtain⟨g1,rfl,Cv⟩:∃g1,gs=[g1]/\pl c=Ybl (.cells g1):=by
      match gs,Jb with
      |[g1],h=>simp only[CP,Il,CK,Ef]at h;exact⟨g1,rfl,h⟩
      |[],h=>simp at h
      |_::_::_,h=>simp at h
     obtain⟨p,hp,hB⟩:=B7.blks c _ BG;rw[Cv]at hp;injection hp with hp;subst hp;obtain⟨vs,Ep,v1,Av,e1,⟨gm,Vo,El⟩,e2⟩:=hB;have e2:Av=[]:=e2;subst e2 e1 El
     have DN:w.cell? ⟨g1,0,Ybn⟩=Ybl (.map (Ybl gm)):=by have h:w.cell? ((⟨g1,0,Ybn⟩:Addr).add 0)=Ybl (.map (Ybl gm)):=SB (n:=1) (j:=0) (o:=0) (u:=.map (Ybl gm)) Ep (by simp);simpa [Addr.add]using h
     have Fm:g1<w.heap.size:=(Fb.1 Ep).1;obtain⟨p,hp,hB⟩:=B7.blks m _ Vd;have Vo:pl m=Ybl (.cells gm):=Vo;rw[Vo]at hp;injection hp with hp;subst hp;obtain⟨es,Ch,Ia,x5⟩:=hB;have bU:=MRep.keysI x5.m
     have y5:∀x∈l.map (·.1),(Lit.int .i64 x).wf=true:=λx hx=>by have:=NW.1 k3 x hx;obtain⟨q1,q2⟩:=andB this;have q1:=AC q1;have q2:=AC q2;simp only[Lit.wf,CO,HB];exact⟨q1,q2⟩
     let R:Value->Option (DataW Unit×Ybp MemPlace):=λ_=>Ybl (.nil,[])
     have Ek:∀x∈es.toList,∃i∈l.map (·.1),x.key=encZ i/\WideElems.rd P (ρk.t 26) R x=Ybl (.int .i64 i,.nil):=λx hx=>by have:x.key∈es.toList.map (·.key):=RO hx;rw[bU]at this;obtain⟨i,hi,e⟩:=Fw.1 this;refine⟨i,hi,e.symm,?_⟩;unfold WideElems.rd;rw[<-e,Go.Maps.keyOf_int_mk hk (y5 i hi)];rfl
     have B4:es.size=l.length:=by have:=Ai List.length bU;simpa using this
     have Ea:l.length<=1000000:=by simpa using k1
     have hFit:Fit P (ρk.t 26) R es Ch:=⟨by rw[B4];unfold maxLen;omega,⟨x5.lt,x5.nd,by rw[bU];exact RU.2 (k2.imp λh e=>h (encZ_inj e))⟩,λx hx=>by obtain⟨i,_,_,h⟩:=Ek x hx;exact⟨_,h⟩⟩
     have Ah:w.ownsMap P (ρk.t 26) R gm 1000000 (.map ((es.toList.map (rg P (ρk.t 26) R)).foldr DataW.insert [])):=⟨es,Ch,Ia,hFit,by rw[B4];exact Ea,rfl⟩;have AEt:=AnyZI.keys_gives L10 Fence.wide 5 trivial rfl (by omega) g1 gm 1000000 _ w Fm DN Ah
     have Aln:(intKeys (DataW.map ((es.toList.map (rg P (ρk.t 26) R)).foldr DataW.insert []))).Perm (l.map (·.1)):=by
      show(((es.toList.map (rg P (ρk.t 26) R)).foldr DataW.insert []).map λp=>Go.intOf p.1).Perm _;refine((iW _).map _).trans ?_;rw[PM]
      have:(es.toList.map ((λp=>Go.intOf p.1)∘rg P (ρk.t 26) R))=l.map (·.1):=by
       have h2:(es.toList.map ((λp=>Go.intOf p.1)∘rg P (ρk.t 26) R)).map encZ=(l.map (·.1)).map encZ:=by rw[<-bU,PM];refine List.map_congr_left λx hx=>?_;obtain⟨i,_,e,h⟩:=Ek x hx;simp only[Function.comp,rg,h,Jh,Go.intOf,e]
       exact(List.map_inj_right λx y h=>encZ_inj h).1 h2
      rw[this]
     have H6:Maps.size (DataW.map ((es.toList.map (rg P (ρk.t 26) R)).foldr DataW.insert []))<=1000000:=by have:=Aln.length_eq;show((es.toList.map (rg P (ρk.t 26) R)).foldr DataW.insert []).length<=_;rw[(iW _).length_eq,Fc,FV,B4];exact Ea
     have AEu:AnyZI.SortsIn P ρ Fence.wide 7:=by
      refine⟨λblk off cap ss W h1 h2 h3=>callsIn_wide.2 ?_,λp cap W=>callsIn_wide.2 ?_⟩
      ·rw[<-h9];exact Any.slices_Sort_int Ls blk off cap ss W h1 h2 h3
      ·rw[<-h9];exact Any.slices_Sort_int_none Ls p cap W
     have B8:=AnyZI.sorted_in L6 Fence.wide 8 trivial trivial trivial trivial rfl (by omega) AEu e9 (ρk.f 10) #[.pointer (Ybl ⟨g1,0,Ybn⟩)] trivial eg _ _ (BH H6 (by unfold maxLen;omega)) (BH (Fs 8 H6) (by omega)) w AEt;have D6:u=.func (.func (ρk.f 10)) #[] #[.pointer (Ybl ⟨g1,0,Ybn⟩)]:=hu;rw[D6];refine(callsIn_wide.1 B8).mono ?_;rintro e w' ⟨sv,ss,rfl,hS,hrow,C6,hb⟩;have I3:ss.mergeSort (λx y=>decide (x<=y))=GV (l.map (·.1)):=(mergeSort_of_perm_i (hS.trans Aln)).trans (Ac4 _);rw[I3]at hrow;have AK:ss.length=(GV (l.map (·.1))).length:=by rw[<-I3,dG]
     rw[AK]at hrow;have DZ:w.grownBy w' Ybn:=⟨hb.os,hb.tape,hb.output,hb.size,λk hk _=>hb.block k hk⟩
     have C7:∀g,(Pl.row sv []).has g->w.heap.size<=g:=λg hg=>by
      have:=Pl.has_row hg;rcases hrow.2 with⟨h,_⟩|⟨g',cap,AI,h,OY,_⟩
      ·rw[h]at this;cases this
      ·rw[h]at this
       simp only[Value.ownBlock,Af]at this;omega
     have D1:sv.oneCell'=true:=by rcases hrow.2 with⟨h,_⟩|⟨g,cap,AI,h,_⟩<;>rw[h]<;>rfl
     have AY:=Step.new (B:=.row (ρ.t 26) (.int .i64) 0 (GV (l.map (·.1)))) B7 Cz DZ C7;have AEo:w'.ownsRow base (ρ.t 26) 1 sv (GV (l.map (·.1))).length ((GV (l.map (·.1))).map (Value.int .i64)):=Sn B7.baseLe (λ_ _=>rfl) hrow;refine⟨sv,upd pl nx (.row sv []),rfl,RelB.new B7 Cz DZ C7 ⟨rfl,_,DList.ints.2 rfl,AEo⟩,AY,?_⟩;refine⟨D1,sv,[],by simp[Ak,upd],λt e ver' l' An=>?_⟩;have An:upd bl2 nx (.row (ρ.t 26) (.int .i64) 0 (GV (l.map (·.1)))) nx=Ybl (.row t e ver' l'):=An;simp only[upd,CR,Af,Blk.row.injEq]at An;exact⟨BD _,λ_=>rfl⟩
    ·cases hr
   ·cases hr
 ·cases hr
end Go.Lift
