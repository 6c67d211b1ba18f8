/- Part14 -/
import Derived.Shelf.Strings.Builder1
import Derived.Shelf.Strings.OnBuilder
import Derived.Test.YthjiepigkfklkaaGreatDoorPart13
set_option linter.unusedVariables false
set_option linter.unusedSectionVars false
set_option linter.unusedSimpArgs false
open _root_ renaming List → Ye, Nat → Yn, ByteArray → YP
open Option renaming none → Yf, some → Yg
open Bool renaming false → Yi
open Go renaming Value → Yq, TypeId → Yr, run_underlying → Yu, Program → Yw, World → Yx, maxLen → Yaj
open Go.Result renaming andThen_ok → Y9
open Go.Builtin renaming append_ → YH
open Go.Value renaming int → YW
open UInt8 renaming ofNat → Yad
open ByteArray renaming size → Yag
open Go.World renaming setCell → YaB
namespace Go.Lift
open Go.RowKit Go.Shelf Go.Proofs
theorem AvA{P:Yw}{w:Yx}(base:Yn)(t u ty e:Yr)(i:TypeInfo)(ht:P.underlying t=Yg (.slice e))(hu:P.underlying u=Yg .string)(hi:P.info? e=Yg i)(hz:i.zero=Yg (.int .u8 0))(KI:i.size=1)(G6:i.bytes=1)(v:Yq)(n:Yn)(xs:Ye Yq)(Aq:w.ownsRow base e 1 v n xs)(s:YP)(O6:n+s.size<=Yaj)(nD:n+s.size<=140737488355328)(Cs:base<=w.heap.size):∃v' w',(YH #[t,u] ty #[v,.string s]).run P w=.ok v' w'/\w'.ownsRow base e 1 v' (n+s.size) (xs++Lib.strCells s)/\w.grownBy w' v.ownBlock/\(v'.ownBlock=v.ownBlock\/∀g,v'.ownBlock=Yg g->w.heap.size<=g):=by
 have hm:Yaj<=9223372036854775807:=by unfold Yaj;omega
 obtain⟨v',w',hr,h1,h2,_⟩:=Lib.run_append_own_string (P:=P) w base t u ty e i ht hu hi hz KI G6 v n xs Aq s O6 nD Cs;refine⟨v',w',hr,h1,h2,?_⟩;have F4:xs.length=n:=by simpa using Aq.1
 rcases Aq.2 with⟨rfl,rfl⟩|⟨g,cap,Ba,rfl,X9,hg,FD,FC,De,Jr⟩
 ·have hx:xs=[]:=JV F4
  subst hx;obtain⟨v2,w2,Fa,h3,_,_⟩:=Lib.run_append_own_string (P:=P) w w.heap.size t u ty e i ht hu hi hz KI G6 (.slice Yf 0 0) 0 [] (World.ownsRow_nil _ _ _ _) s O6 nD (Av _);rw[hr]at Fa;injection Fa with q1 q2;subst q1 q2;exact .inr λk hk=>(h3.lt k hk).1
 ·by_cases DK:n+s.size<=cap
  ·have Fa:=Lib.run_append_room_string (P:=P) w t u ty e i ht hu hi KI g n cap Ba hg s DK (by omega)
   rw[hr]at Fa;injection Fa with q1 q2;subst q1;exact .inl rfl
  ·have holds:∀j u,xs[j]?=Yg u->w.cell? ((⟨g,0,Yf⟩:Addr).add j)=Yg u:=Aq.cells (g:=g) rfl
   have Fa:=Lib.run_append_grow_string (P:=P) w t u ty e i (.int .u8 0) ht hu hi hz ⟨g,0,Yf⟩ n cap xs (by rw[KI];simpa using F4) holds s (by omega) (by omega) (by rw[G6];exact growslice_fits (by omega) (by omega));rw[hr]at Fa;injection Fa with q1 q2;subst q1;refine .inr λk hk=>?_;simp only[Value.ownBlock,Af]at hk;omega
theorem AvB{P:Yw}{w:Yx}{ops:Array Oper}{rest:Ye Oper}{o:Oper}{a:Act}{Q:Exit->Act->Yx->Prop}(Ln:o.guard=Yf)(sl x:Operand)(t u:Yr)(ho:o.op=.call {callee:=.builtin .append,args:=#[sl,x],argTypes:=#[t,u]})(base:Yn)(e:Yr)(i:TypeInfo)(ht:P.underlying t=Yg (.slice e))(hu:P.underlying u=Yg .string)(hi:P.info? e=Yg i)(hz:i.zero=Yg (.int .u8 0))(KI:i.size=1)(G6:i.bytes=1)(v:Yq)(n:Yn)(xs:Ye Yq)(hs:a.eval sl=v)(Aq:w.ownsRow base e 1 v n xs)(s:YP)(hx:a.eval x=.string s)(O6:n+s.size<=Yaj)(nD:n+s.size<=140737488355328)(Cs:base<=w.heap.size)(h:∀v' w',w'.ownsRow base e 1 v' (n+s.size) (xs++Lib.strCells s)->w.grownBy w' v.ownBlock->(v'.ownBlock=v.ownBlock\/∀g,v'.ownBlock=Yg g->w.heap.size<=g)->wpList P ops Q rest (a.put o.dst v') w'):wpList P ops Q (o::rest) a w:=by
 refine wpList_plain Ln λK hK=>?_;obtain⟨v',w',hr,h2,h3,h4⟩:=AvA (P:=P) (w:=w) base t u o.type e i ht hu hi hz KI G6 v n xs Aq s O6 nD Cs;unfold Oper.wp execOp;simp only[ho,resolve,invoke,builtin,Sem.run_bind,Sem.run_pure,Y9,List.map_toArray,CH,M6,hs,hx,hr];exact hK _ _ (h v' w' h2 h3 h4)
theorem Ah5(w:Yx)(b j:Yn)(v:Yq):w.grownBy (w.setCell ⟨b,j,Yf⟩ v) (Yg b):=
 ⟨rfl,rfl,rfl,by simp[YaB],λk _ hk=>Below.heap_setCell _ _ _ _ (λe=>hk (by simp[e]))⟩
section
variable{P:Yw}{ρ:Shelf.Ren}
theorem AvC(L:Lays.n240 P ρ)(X:Builder.X72 P ρ){w:Yx}{b:Yn}{p v:Yq}(hh:w.heap[b]?=Yg (.cells #[p,v] (ρ.t 72) (0,0)))(hp:p=.pointer Yf\/p=.pointer (Yg ⟨b,0,Yf⟩)):Calls P (ρ.f 240) #[.pointer (Yg ⟨b,0,Yf⟩)] w λe w1=>e=.returned (.tuple #[])/\w.grownBy w1 (Yg b)/\w1.heap[b]?=Yg (.cells #[.pointer (Yg ⟨b,0,Yf⟩),v] (ρ.t 72) (0,0)):=by
 rcases hp with rfl|rfl
 ·refine(Any.Builder_copyCheck_fresh L X b w (by rw[Lib.cell_of_heap hh];rfl) (by simp[World.shape?,hh]) (Lib.frozen_of_heap hh 0)).mono ?_
  rintro e w1 ⟨rfl,rfl⟩;exact⟨rfl,Ah5 _ _ _ _,by simp[YaB,TL,hh]⟩
 ·refine(Any.Builder_copyCheck_used L X b w (by rw[Lib.cell_of_heap hh];rfl)).mono ?_
  rintro e w1 ⟨rfl,rfl⟩;exact⟨rfl,⟨rfl,rfl,rfl,Av _,λ_ _ _=>rfl⟩,hh⟩
theorem AvD(s:Ye UInt8):Lib.strCells ⟨s.toArray⟩=(Du s).map (YW .u8):=by simp[Lib.strCells,Du]
set_option maxHeartbeats 2000000 in
set_option maxRecDepth 100000 in
theorem AvE(L:Lays.n166 P ρ)(X:Builder.Extra P ρ){w:Yx}{base b:Yn}{p v:Yq}{l:Ye Int}(hbase:base<=w.heap.size)(hh:w.heap[b]?=Yg (.cells #[p,v] (ρ.t 72) (0,0)))(hp:p=.pointer Yf\/p=.pointer (Yg ⟨b,0,Yf⟩))(hown:w.ownsRow base (ρ.t 5) 1 v l.length (l.map (YW .u8)))(hne:v.ownBlock≠Yg b):bU P (ρ.f 166) ⟨ρ.t 72,ρ.t 5,0⟩ w base b v l 0:=by
 intro s hlen;have hsz:(⟨s.toArray⟩:YP).size=s.length:=by simp[Yag]
 obtain⟨i0,hi,hz0,hz1,hz2⟩:=info_parts X.infoByte;have mixed:=L.mixed;have t72:=L.t72;have a72:=L.a72;have z72:=L.z72;have v72:=L.v72;have u72:=Yu L.t72;have t70:=L.t70;have a70:=L.a70;have z70:=L.z70;have v70:=L.v70;have u70:=Yu L.t70;have t37:=L.t37;have a37:=L.a37;have z37:=L.z37;have v37:=L.v37;have u37:=Yu L.t37;have t3:=L.t3;have a3:=L.a3;have z3:=L.z3;have v3:=L.v3;have u3:=Yu L.t3;have t9:=L.t9;have a9:=L.a9;have z9:=L.z9;have v9:=L.v9;have u9:=Yu L.t9;have t4:=L.t4;have a4:=L.a4;have z4:=L.z4;have v4:=L.v4;have u4:=Yu L.t4;have t164:=L.t164;have a164:=L.a164;have z164:=L.z164;have v164:=L.v164;have u164:=Yu L.t164;have t5:=X.t5;have a5:=X.a5;have z5:=X.z5;have v5:=X.v5;have u5:=Yu X.t5;have e240:∀args w,(callFunc (ρ.f 240) args).run P w=.ok (.enter (ρ.f 240) args) w:=enters_of L.f240 (by kernel_rfl) rfl
 go_enter L.f166,Body.n166_ntmps ρ
 go_wp2_with (go_at_fn (ρ.f 240);refine(AvC {L with} X.toX72 hh hp).mono ?_)
 rintro e w1 ⟨rfl,hg1,hh1⟩;have hown1:w1.ownsRow base (ρ.t 5) 1 v l.length (l.map (YW .u8)):=hown.kept hg1 (.inr hne);have hbase1:base<=w1.heap.size:=DC hbase hg1.size;have c0:w1.cell? ⟨b,0,Yf⟩=Yg (.pointer (Yg ⟨b,0,Yf⟩)):=by rw[Lib.cell_of_heap hh1];rfl
 have c1:w1.cell? ⟨b,1,Yf⟩=Yg v:=by rw[Lib.cell_of_heap hh1];rfl
 go_wp2_with (at_builtin;refine AvB rfl _ _ (ρ.t 37) (ρ.t 9) rfl base (ρ.t 5) i0 L.t37 L.t9 hi hz0 hz1 hz2 _ _ _ rfl hown1 ⟨s.toArray⟩ rfl ?c3 ?c4 hbase1 ?_)
 case c3=>unfold Yaj;omega
 case c4=>omega
 intro v' w2 hown2 hg2 hloc;have hlt:b<w1.heap.size:=(IN.1 hh1).1
 have hh2:w2.heap[b]?=Yg (.cells #[.pointer (Yg ⟨b,0,Yf⟩),v] (ρ.t 72) (0,0)):=by rw[hg2.block b hlt (λe=>hne e.symm)];exact hh1
 have d0:w2.cell? ⟨b,0,Yf⟩=Yg (.pointer (Yg ⟨b,0,Yf⟩)):=by rw[Lib.cell_of_heap hh2];rfl
 have d1:w2.cell? ⟨b,1,Yf⟩=Yg v:=by rw[Lib.cell_of_heap hh2];rfl
 have f1:w2.frozen? ⟨b,1,Yf⟩=Yi:=Lib.frozen_of_heap hh2 1
 obtain⟨ao,n',cap,rfl⟩:∃ao n' cap,v'=.slice ao n' cap:=by
  rcases hown2.2 with⟨hv,_⟩|⟨g,cap,cur,hv,_⟩
  ·exact⟨_,_,_,hv⟩
  ·exact⟨_,_,_,hv⟩
 go_wp2
 go_ret2
 rw[AvD,<-IR]at hown2;exact⟨rfl,w1,w2,_,hg1,hh1,hg2,hloc,hown2,Ah5 _ _ _ _,by simp[YaB,TL,hh2]⟩
theorem Ah6:∀{l:Ye Int},NF l=true->Du (Hc l)=l
 |[],_=>rfl
 |n::l,h=>by have h1:(decide (0<=n)&&decide (n<=255))=true/\NF l=true:=andB h;obtain⟨h2,h3⟩:=andB h1.1;have h2:=Bd h2;have h3:=Bd h3;have:=Ah6 (l:=l) h1.2;show((Yad n.toNat).toNat:Int)::Du (Hc l)=n::l;rw[this,UInt8.toNat_ofNat'];congr 1;omega
theorem tR:∀(s:Ye UInt8),Hc (Du s)=s
 |[]=>rfl
 |c::s=>by show Yad ((c.toNat:Int)).toNat::Hc (Du s)=c::s;rw[tR s,Bh,UInt8.ofNat_toNat]
theorem AvF(w:Yx)(g n:Yn):w.grownBy (w.freeze ⟨g,0,Yf⟩ n) (Yg g):=by
 unfold World.freeze;split
 ·exact⟨rfl,rfl,rfl,Av _,λ_ _ _=>rfl⟩
 ·exact⟨rfl,rfl,rfl,by simp,λk hk AO=>by simp only[TL];rw[if_neg (λe=>AO (by simp[e]))]⟩
set_option maxHeartbeats 1000000 in
set_option maxRecDepth 100000 in
theorem AvG(L:Lays.n169 P ρ)(X:Builder.Extra P ρ){w:Yx}{base b:Yn}{p v:Yq}{l:Ye Int}(hbase:base<=w.heap.size)(hh:w.heap[b]?=Yg (.cells #[p,v] (ρ.t 72) (0,0)))(hown:w.ownsRow base (ρ.t 5) 1 v l.length (l.map (YW .u8)))(hne:v.ownBlock≠Yg b):bU P (ρ.f 169) ⟨ρ.t 72,ρ.t 5,1⟩ w base b v l 1:=by
 intro hby;obtain⟨s,rfl⟩:∃s,l=Du s:=⟨Hc l,(Ah6 hby).symm⟩;rw[tR];have hls:(Du s).length=s.length:=by simp[Du]
 have below:∀{w':Yx}{o:Option Yn},Below w.heap.size w w'->w.grownBy w' o:=λh=>⟨h.os,h.tape,h.output,h.size,λk hk _=>h.block k hk⟩;rcases hown.2 with⟨rfl,hz⟩|⟨g,cap,cur,rfl,hbg,hg,hnc,hcm,hcs,htake⟩
 ·have:s=[]:=JV (by omega)
  subst this;exact(Any.Builder_String_nil L X w.heap.size b p w hh).mono λe w' ⟨he,hb⟩=>⟨he,below hb⟩
 ·by_cases h0:s=[]
  ·subst h0
   by_cases hc0:cap=0
   ·subst hc0
    exact(Any.Builder_String_noroom L X w.heap.size b g p cur w (Av _) hh hg).mono λe w' ⟨he,hb⟩=>⟨he,below hb⟩
   ·exact(Any.Builder_String_room L X w.heap.size b g cap p w hc0 hh).mono λe w' ⟨he,hb⟩=>⟨he,below hb⟩
  ·have hl0:s.length≠0:=by simpa using h0
   rw[hls]at hh hnc
   have c1:w.drew.cell? ⟨b,1,Yf⟩=Yg (.slice (Yg ⟨g,0,Yf⟩) s.length cap):=by have:w.drew.heap[b]?=Yg (.cells #[p,.slice (Yg ⟨g,0,Yf⟩) s.length cap] (ρ.t 72) (0,0)):=hh;rw[Lib.cell_of_heap this];rfl
   have hSD:(Builtin.unsafeSliceData_ #[(ρ.t 37)] (ρ.t 127) #[.slice (Yg ⟨g,0,Yf⟩) s.length cap]).run P w.drew=.ok (.pointer (Yg ⟨g,0,Yf⟩)) w.drew:=
    Lib.run_unsafeSliceData_row _ _ _ _ _ _ (by omega)
   have hUS:(Builtin.unsafeString_ #[(ρ.t 127),(ρ.t 3)] (ρ.t 9) #[.pointer (Yg ⟨g,0,Yf⟩),.int .i64 s.length]).run P w.drew=.ok (.string ⟨s.toArray⟩) (w.drew.freeze ⟨g,0,Yf⟩ s.length):=by refine Lib.run_unsafeString_row w.drew (ρ.t 127) (ρ.t 3) (ρ.t 9) (ρ.t 5) L.t127 X.cellsByte g cur.size (by have hg':w.drew.heap[g]?=Yg (.cells cur (ρ.t 5) (0,0)):=hg;simp[World.shape?,hg']) s h0 (by omega) (by unfold Yaj at hcm;omega) ?_;intro j x hx;exact hown.cells (g:=g) rfl j (.int .u8 x.toNat) (by simp[Du,hx])
   have hgr:w.grownBy (w.drew.freeze ⟨g,0,Yf⟩ s.length) (Yg g):=by have h:=AvF w.drew g s.length;exact⟨h.os,h.tape,h.output,h.size,h.block⟩
   have mixed:=L.mixed;have t72:=L.t72;have a72:=L.a72;have z72:=L.z72;have v72:=L.v72;have u72:=Yu L.t72;have t70:=L.t70;have a70:=L.a70;have z70:=L.z70;have v70:=L.v70;have u70:=Yu L.t70;have t37:=L.t37;have a37:=L.a37;have z37:=L.z37;have v37:=L.v37;have u37:=Yu L.t37;have t127:=L.t127;have a127:=L.a127;have z127:=L.z127;have v127:=L.v127;have u127:=Yu L.t127;have t3:=L.t3;have a3:=L.a3;have z3:=L.z3;have v3:=L.v3;have u3:=Yu L.t3;have t9:=L.t9;have a9:=L.a9;have z9:=L.z9;have v9:=L.v9;have u9:=Yu L.t9;have t5:=X.t5;have a5:=X.a5;have z5:=X.z5;have v5:=X.v5;have u5:=Yu X.t5
   go_enter L.f169,Body.n169_ntmps ρ
   go_wp2
   go_region_o
   all_goals(go_wp2;go_ret;exact⟨rfl,hgr⟩)
theorem AvH(L:Lays.n170 P ρ){w:Yx}{base b:Yn}{p v:Yq}{l:Ye Int}(Cs:base<=w.heap.size)(hh:w.heap[b]?=Yg (.cells #[p,v] (ρ.t 72) (0,0)))(hp:p=.pointer Yf\/p=.pointer (Yg ⟨b,0,Yf⟩))(Aq:w.ownsRow base (ρ.t 5) 1 v l.length (l.map (YW .u8)))(AO:v.ownBlock≠Yg b):bU P (ρ.f 170) ⟨ρ.t 72,ρ.t 5,2⟩ w base b v l 2:=by
 have hB:∃B,B<=b/\w.ownsRow B (ρ.t 5) 1 v (l.map (YW .u8)).length (l.map (YW .u8)):=by
  rw[HQ];rcases Aq with⟨h1,h2⟩;rcases h2 with h2|⟨g,cap,Ba,h3,h4,h5⟩
  ·exact⟨0,EA _,h1,.inl h2⟩
  ·exact⟨0,EA _,h1,.inr ⟨g,cap,Ba,h3,EA _,h5⟩⟩
 obtain⟨B,hB,Aq⟩:=hB
 have hI:Lib.IsBuilder (ρ.t 72) (ρ.t 5) B b (l.map (YW .u8)) w:=by
  rcases hp with rfl|rfl
  ·exact .inl ⟨hB,v,hh,Aq,AO⟩
  ·exact .inr ⟨hB,v,hh,Aq,AO⟩
 refine(Any.Builder_Len L B b _ w hI).mono ?_;rintro e w' ⟨rfl,rfl⟩;exact⟨by rw[HQ],⟨rfl,rfl,rfl,Av _,λ_ _ _=>rfl⟩⟩
theorem AvI{f t te:Yn}(L:Lays.n166 P ρ)(X:Builder.Extra P ρ)(hf:ρ.f 166=f)(ht:ρ.t 72=t)(Cg:ρ.t 5=te)(CD:∃fn,P.funcs[f]?=Yg fn/\(fn.name== "runtime.NumGoroutine")=Yi/\fn.body.isNone=Yi):BldOk P f ⟨t,te,0⟩:=by
 subst hf ht Cg;exact⟨CD,λ_ w base b p v l hb hh hp Aq AO=>AvE L X hb hh hp Aq AO,λh=>by cases h⟩
theorem AvJ{f t te:Yn}(L:Lays.n169 P ρ)(X:Builder.Extra P ρ)(hf:ρ.f 169=f)(ht:ρ.t 72=t)(Cg:ρ.t 5=te)(CD:∃fn,P.funcs[f]?=Yg fn/\(fn.name== "runtime.NumGoroutine")=Yi/\fn.body.isNone=Yi):BldOk P f ⟨t,te,1⟩:=by
 subst hf ht Cg;exact⟨CD,λ_ w base b p v l hb hh _ Aq AO=>AvG L X hb hh Aq AO,λh=>by cases h⟩
theorem AvK{f t te:Yn}(L:Lays.n170 P ρ)(hf:ρ.f 170=f)(ht:ρ.t 72=t)(Cg:ρ.t 5=te)(CD:∃fn,P.funcs[f]?=Yg fn/\(fn.name== "runtime.NumGoroutine")=Yi/\fn.body.isNone=Yi):BldOk P f ⟨t,te,2⟩:=by
 subst hf ht Cg;exact⟨CD,λ_ w base b p v l hb hh hp Aq AO=>AvH L hb hh hp Aq AO,λh=>by cases h⟩
theorem AvL{f t:Yn}(L:Lays.n156 P ρ)(X:Builder.Extra P ρ)(hf:ρ.f 156=f)(CD:∃fn,P.funcs[f]?=Yg fn/\(fn.name== "runtime.NumGoroutine")=Yi/\fn.body.isNone=Yi):BldOk P f ⟨t,0,3⟩:=by
 subst hf;refine⟨CD,λh=>absurd h (by show ¬(3<3);decide),λ_ w base sv l sep Aq h1 h2=>?_⟩;have below:∀{w':Yx},Below w.heap.size w w'->w.grownBy w' Yf:=λh=>⟨h.os,h.tape,h.output,h.size,λk hk _=>h.block k hk⟩;have e:(l.map λs=>(⟨s.toArray⟩:YP)).map (·.data.toList)=l:=by rw[Pi];exact List.map_id'' (λ_=>rfl) l
 rcases Aq.2 with⟨rfl,hz⟩|⟨g,cap,Ba,rfl,X9,hg,FD,FC,De,Jr⟩
 ·have:l=[]:=JV hz
  subst this;exact(Any.strings_Join_none L X Yf 0 ⟨sep.toArray⟩ w).mono λe w' ⟨he,hw⟩=>⟨he,hw▸below (Below.refl _ _)⟩
 ·have hx:=Any.strings_Join L X g 0 cap (l.map λs=>(⟨s.toArray⟩:YP)) ⟨sep.toArray⟩ w (λj x hx=>by
   have:=Aq.cells (g:=g) rfl j (.string x) (by
    rw[Gz]at hx⊢;cases hl:l[j]? with
    |none=>rw[hl]at hx;cases hx
    |some s=>rw[hl]at hx;simp only[F8,Af]at hx⊢;rw[<-hx])
   rw[DZ];unfold Addr.add at this;split at this
   ·rename_i h0;rw[h0];exact this
   ·simpa using this) (IN.1 hg).1 (by rw[HQ];exact h1) (by rw[HQ];omega) (by rw[e];exact h2)
  rw[e,HQ]at hx;exact hx.mono λe w' ⟨he,hb⟩=>⟨he,below hb⟩
end
end Go.Lift
