/- Part10: LiftBl. -/
import Derived.Shelf.Strings.Builder1
import Derived.Shelf.Strings.OnBuilder
import Derived.Test.YtgocccmoefchaaaGreatDoorPart9
set_option linter.unusedVariables false
set_option linter.unusedSectionVars false
set_option linter.unusedSimpArgs false
namespace Go.Lift
open Go.RowKit Go.Shelf Go.Proofs
theorem Ami{P:Program}{w:World}(base:Nat)(t u ty e:TypeId)(i:TypeInfo)(ht:P.underlying t=some (.slice e))(hu:P.underlying u=some .string)(hi:P.info? e=some i)(hz:i.zero=some (.int .u8 0))(Jl:i.size=1)(FM:i.bytes=1)(v:Value)(n:Nat)(xs:List Value)(Ak:w.ownsRow base e 1 v n xs)(s:ByteArray)(Ms:n+s.size<=maxLen)(aG:n+s.size<=140737488355328)(BR:base<=w.heap.size):∃v' w',(Builtin.append_ #[t,u] ty #[v,.string s]).run P w=.ok v' w'/\w'.ownsRow base e 1 v' (n+s.size) (xs++Lib.strCells s)/\w.grownBy w' v.ownBlock/\(v'.ownBlock=v.ownBlock\/∀g,v'.ownBlock=some g->w.heap.size<=g):=by
 have hm:maxLen<=9223372036854775807:=by unfold maxLen;omega
 obtain⟨v',w',hr,h1,h2,_⟩:=Lib.run_append_own_string (P:=P) w base t u ty e i ht hu hi hz Jl FM v n xs Ak s Ms aG BR;refine⟨v',w',hr,h1,h2,?_⟩;have EJ:xs.length=n:=by simpa using Ak.1
 rcases Ak.2 with⟨rfl,rfl⟩|⟨g,cap,AQ,rfl,Uq,hg,ES,EQ,CH,If⟩
 ·have hx:xs=[]:=Ik EJ
  subst hx;obtain⟨v2,w2,Er,h3,_,_⟩:=Lib.run_append_own_string (P:=P) w w.heap.size t u ty e i ht hu hi hz Jl FM (.slice none 0 0) 0 [] (World.ownsRow_nil _ _ _ _) s Ms aG (AC _);rw[hr]at Er;injection Er with q1 q2;subst q1 q2;exact .inr λk hk=>(h3.lt k hk).1
 ·by_cases Dz:n+s.size<=cap
  ·have Er:=Lib.run_append_room_string (P:=P) w t u ty e i ht hu hi Jl g n cap AQ hg s Dz (by omega)
   rw[hr]at Er;injection Er with q1 q2;subst q1;exact .inl rfl
  ·have holds:∀j u,xs[j]?=some u->w.cell? ((⟨g,0,none⟩:Addr).add j)=some u:=Ak.cells (g:=g) rfl
   have Er:=Lib.run_append_grow_string (P:=P) w t u ty e i (.int .u8 0) ht hu hi hz ⟨g,0,none⟩ n cap xs (by rw[Jl];simpa using EJ) holds s (by omega) (by omega) (by rw[FM];exact growslice_fits (by omega) (by omega));rw[hr]at Er;injection Er with q1 q2;subst q1;refine .inr λk hk=>?_;simp only[Value.ownBlock,Af]at hk;omega
theorem Amj{P:Program}{w:World}{ops:Array Oper}{BA:List Oper}{o:Oper}{a:Act}{Q:Exit->Act->World->Prop}(JA:o.guard=none)(sl x:Operand)(t u:TypeId)(ho:o.op=.call {callee:=.builtin .append,args:=#[sl,x],argTypes:=#[t,u]})(base:Nat)(e:TypeId)(i:TypeInfo)(ht:P.underlying t=some (.slice e))(hu:P.underlying u=some .string)(hi:P.info? e=some i)(hz:i.zero=some (.int .u8 0))(Jl:i.size=1)(FM:i.bytes=1)(v:Value)(n:Nat)(xs:List Value)(hs:a.eval sl=v)(Ak:w.ownsRow base e 1 v n xs)(s:ByteArray)(hx:a.eval x=.string s)(Ms:n+s.size<=maxLen)(aG:n+s.size<=140737488355328)(BR:base<=w.heap.size)(h:∀v' w',w'.ownsRow base e 1 v' (n+s.size) (xs++Lib.strCells s)->w.grownBy w' v.ownBlock->(v'.ownBlock=v.ownBlock\/∀g,v'.ownBlock=some g->w.heap.size<=g)->wpList P ops Q BA (a.put o.dst v') w'):wpList P ops Q (o::BA) a w:=by
 refine wpList_plain JA λK hK=>?_;obtain⟨v',w',hr,h2,h3,h4⟩:=Ami (P:=P) (w:=w) base t u o.type e i ht hu hi hz Jl FM v n xs Ak s Ms aG BR;unfold Oper.wp execOp;simp only[ho,resolve,invoke,builtin,Sem.run_bind,Sem.run_pure,Result.andThen_ok,List.map_toArray,CE,LL,hs,hx,hr];exact hK _ _ (h v' w' h2 h3 h4)
theorem Aao(w:World)(b j:Nat)(v:Value):w.grownBy (w.setCell ⟨b,j,none⟩ v) (some b):=
 ⟨rfl,rfl,rfl,by simp[World.setCell],λk _ hk=>Below.heap_setCell _ _ _ _ (λe=>hk (by simp[e]))⟩
section
variable{P:Program}{ρ:Shelf.Ren}
theorem Amk(L:Lays.n240 P ρ)(X:Builder.X72 P ρ){w:World}{b:Nat}{p v:Value}(hh:w.heap[b]?=some (.cells #[p,v] (ρ.t 72) (0,0)))(hp:p=.pointer none\/p=.pointer (some ⟨b,0,none⟩)):Calls P (ρ.f 240) #[.pointer (some ⟨b,0,none⟩)] w λe w1=>e=.returned (.tuple #[])/\w.grownBy w1 (some b)/\w1.heap[b]?=some (.cells #[.pointer (some ⟨b,0,none⟩),v] (ρ.t 72) (0,0)):=by
 rcases hp with rfl|rfl
 ·refine(Any.Builder_copyCheck_fresh L X b w (by rw[Lib.cell_of_heap hh];rfl) (by simp[World.shape?,hh]) (Lib.frozen_of_heap hh 0)).mono ?_
  rintro e w1 ⟨rfl,rfl⟩;exact⟨rfl,Aao _ _ _ _,by simp[World.setCell,QT,hh]⟩
 ·refine(Any.Builder_copyCheck_used L X b w (by rw[Lib.cell_of_heap hh];rfl)).mono ?_
  rintro e w1 ⟨rfl,rfl⟩;exact⟨rfl,⟨rfl,rfl,rfl,AC _,λ_ _ _=>rfl⟩,hh⟩
theorem Aml(s:List UInt8):Lib.strCells ⟨s.toArray⟩=(C7 s).map (Value.int .u8):=by simp[Lib.strCells,C7]
set_option maxHeartbeats 2000000 in
set_option maxRecDepth 100000 in
theorem Amm(L:Lays.n166 P ρ)(X:Builder.Extra P ρ){w:World}{base b:Nat}{p v:Value}{l:List Int}(hbase:base<=w.heap.size)(hh:w.heap[b]?=some (.cells #[p,v] (ρ.t 72) (0,0)))(hp:p=.pointer none\/p=.pointer (some ⟨b,0,none⟩))(hown:w.ownsRow base (ρ.t 5) 1 v l.length (l.map (Value.int .u8)))(hne:v.ownBlock≠some b):Wt P (ρ.f 166) ⟨ρ.t 72,ρ.t 5,0⟩ w base b v l 0:=by
 intro s hlen;have hsz:(⟨s.toArray⟩:ByteArray).size=s.length:=by simp[ByteArray.size]
 obtain⟨i0,hi,hz0,hz1,hz2⟩:=info_parts X.infoByte;have mixed:=L.mixed;have t72:=L.t72;have a72:=L.a72;have z72:=L.z72;have v72:=L.v72;have u72:=run_underlying L.t72;have t70:=L.t70;have a70:=L.a70;have z70:=L.z70;have v70:=L.v70;have u70:=run_underlying L.t70;have t37:=L.t37;have a37:=L.a37;have z37:=L.z37;have v37:=L.v37;have u37:=run_underlying L.t37;have t3:=L.t3;have a3:=L.a3;have z3:=L.z3;have v3:=L.v3;have u3:=run_underlying L.t3;have t9:=L.t9;have a9:=L.a9;have z9:=L.z9;have v9:=L.v9;have u9:=run_underlying L.t9;have t4:=L.t4;have a4:=L.a4;have z4:=L.z4;have v4:=L.v4;have u4:=run_underlying L.t4;have t164:=L.t164;have a164:=L.a164;have z164:=L.z164;have v164:=L.v164;have u164:=run_underlying L.t164;have t5:=X.t5;have a5:=X.a5;have z5:=X.z5;have v5:=X.v5;have u5:=run_underlying X.t5;have e240:∀args w,(callFunc (ρ.f 240) args).run P w=.ok (.enter (ρ.f 240) args) w:=enters_of L.f240 (by kernel_rfl) rfl
 go_enter L.f166,Body.n166_ntmps ρ
 go_wp2_with (go_at_fn (ρ.f 240);refine(Amk {L with} X.toX72 hh hp).mono ?_)
 rintro e w1 ⟨rfl,hg1,hh1⟩;have hown1:w1.ownsRow base (ρ.t 5) 1 v l.length (l.map (Value.int .u8)):=hown.kept hg1 (.inr hne);have hbase1:base<=w1.heap.size:=Df hbase hg1.size;have c0:w1.cell? ⟨b,0,none⟩=some (.pointer (some ⟨b,0,none⟩)):=by rw[Lib.cell_of_heap hh1];rfl
 have c1:w1.cell? ⟨b,1,none⟩=some v:=by rw[Lib.cell_of_heap hh1];rfl
 go_wp2_with (at_builtin;refine Amj rfl _ _ (ρ.t 37) (ρ.t 9) rfl base (ρ.t 5) i0 L.t37 L.t9 hi hz0 hz1 hz2 _ _ _ rfl hown1 ⟨s.toArray⟩ rfl ?c3 ?c4 hbase1 ?_)
 case c3=>unfold maxLen;omega
 case c4=>omega
 intro v' w2 hown2 hg2 hloc;have hlt:b<w1.heap.size:=(HD.1 hh1).1
 have hh2:w2.heap[b]?=some (.cells #[.pointer (some ⟨b,0,none⟩),v] (ρ.t 72) (0,0)):=by rw[hg2.block b hlt (λe=>hne e.symm)];exact hh1
 have d0:w2.cell? ⟨b,0,none⟩=some (.pointer (some ⟨b,0,none⟩)):=by rw[Lib.cell_of_heap hh2];rfl
 have d1:w2.cell? ⟨b,1,none⟩=some v:=by rw[Lib.cell_of_heap hh2];rfl
 have f1:w2.frozen? ⟨b,1,none⟩=false:=Lib.frozen_of_heap hh2 1
 obtain⟨ao,n',cap,rfl⟩:∃ao n' cap,v'=.slice ao n' cap:=by
  rcases hown2.2 with⟨hv,_⟩|⟨g,cap,cur,hv,_⟩
  ·exact⟨_,_,_,hv⟩
  ·exact⟨_,_,_,hv⟩
 go_wp2
 go_ret2
 rw[Aml,<-LJ]at hown2;exact⟨rfl,w1,w2,_,hg1,hh1,hg2,hloc,hown2,Aao _ _ _ _,by simp[World.setCell,QT,hh2]⟩
theorem Aap:∀{l:List Int},JS l=true->C7 (Hu l)=l
 |[],_=>rfl
 |n::l,h=>by have h1:(decide (0<=n)&&decide (n<=255))=true/\JS l=true:=andB h;obtain⟨h2,h3⟩:=andB h1.1;have h2:=AV h2;have h3:=AV h3;have:=Aap (l:=l) h1.2;show((UInt8.ofNat n.toNat).toNat:Int)::C7 (Hu l)=n::l;rw[this,UInt8.toNat_ofNat'];congr 1;omega
theorem gW:∀(s:List UInt8),Hu (C7 s)=s
 |[]=>rfl
 |c::s=>by show UInt8.ofNat ((c.toNat:Int)).toNat::Hu (C7 s)=c::s;rw[gW s,Bw,UInt8.ofNat_toNat]
theorem Amn(w:World)(g n:Nat):w.grownBy (w.freeze ⟨g,0,none⟩ n) (some g):=by
 unfold World.freeze;split
 ·exact⟨rfl,rfl,rfl,AC _,λ_ _ _=>rfl⟩
 ·exact⟨rfl,rfl,rfl,by simp,λk hk AL=>by simp only[QT];rw[if_neg (λe=>AL (by simp[e]))]⟩
set_option maxHeartbeats 1000000 in
set_option maxRecDepth 100000 in
theorem Amo(L:Lays.n169 P ρ)(X:Builder.Extra P ρ){w:World}{base b:Nat}{p v:Value}{l:List Int}(hbase:base<=w.heap.size)(hh:w.heap[b]?=some (.cells #[p,v] (ρ.t 72) (0,0)))(hown:w.ownsRow base (ρ.t 5) 1 v l.length (l.map (Value.int .u8)))(hne:v.ownBlock≠some b):Wt P (ρ.f 169) ⟨ρ.t 72,ρ.t 5,1⟩ w base b v l 1:=by
 intro hby;obtain⟨s,rfl⟩:∃s,l=C7 s:=⟨Hu l,(Aap hby).symm⟩;rw[gW];have hls:(C7 s).length=s.length:=by simp[C7]
 have below:∀{w':World}{o:Option Nat},Below w.heap.size w w'->w.grownBy w' o:=λh=>⟨h.os,h.tape,h.output,h.size,λk hk _=>h.block k hk⟩;rcases hown.2 with⟨rfl,hz⟩|⟨g,cap,cur,rfl,hbg,hg,hnc,hcm,hcs,htake⟩
 ·have:s=[]:=Ik (by omega)
  subst this;exact(Any.Builder_String_nil L X w.heap.size b p w hh).mono λe w' ⟨he,hb⟩=>⟨he,below hb⟩
 ·by_cases h0:s=[]
  ·subst h0
   by_cases hc0:cap=0
   ·subst hc0
    exact(Any.Builder_String_noroom L X w.heap.size b g p cur w (AC _) hh hg).mono λe w' ⟨he,hb⟩=>⟨he,below hb⟩
   ·exact(Any.Builder_String_room L X w.heap.size b g cap p w hc0 hh).mono λe w' ⟨he,hb⟩=>⟨he,below hb⟩
  ·have hl0:s.length≠0:=by simpa using h0
   rw[hls]at hh hnc
   have c1:w.drew.cell? ⟨b,1,none⟩=some (.slice (some ⟨g,0,none⟩) s.length cap):=by have:w.drew.heap[b]?=some (.cells #[p,.slice (some ⟨g,0,none⟩) s.length cap] (ρ.t 72) (0,0)):=hh;rw[Lib.cell_of_heap this];rfl
   have hSD:(Builtin.unsafeSliceData_ #[(ρ.t 37)] (ρ.t 127) #[.slice (some ⟨g,0,none⟩) s.length cap]).run P w.drew=.ok (.pointer (some ⟨g,0,none⟩)) w.drew:=
    Lib.run_unsafeSliceData_row _ _ _ _ _ _ (by omega)
   have hUS:(Builtin.unsafeString_ #[(ρ.t 127),(ρ.t 3)] (ρ.t 9) #[.pointer (some ⟨g,0,none⟩),.int .i64 s.length]).run P w.drew=.ok (.string ⟨s.toArray⟩) (w.drew.freeze ⟨g,0,none⟩ s.length):=by refine Lib.run_unsafeString_row w.drew (ρ.t 127) (ρ.t 3) (ρ.t 9) (ρ.t 5) L.t127 X.cellsByte g cur.size (by have hg':w.drew.heap[g]?=some (.cells cur (ρ.t 5) (0,0)):=hg;simp[World.shape?,hg']) s h0 (by omega) (by unfold maxLen at hcm;omega) ?_;intro j x hx;exact hown.cells (g:=g) rfl j (.int .u8 x.toNat) (by simp[C7,hx])
   have hgr:w.grownBy (w.drew.freeze ⟨g,0,none⟩ s.length) (some g):=by have h:=Amn w.drew g s.length;exact⟨h.os,h.tape,h.output,h.size,h.block⟩
   have mixed:=L.mixed;have t72:=L.t72;have a72:=L.a72;have z72:=L.z72;have v72:=L.v72;have u72:=run_underlying L.t72;have t70:=L.t70;have a70:=L.a70;have z70:=L.z70;have v70:=L.v70;have u70:=run_underlying L.t70;have t37:=L.t37;have a37:=L.a37;have z37:=L.z37;have v37:=L.v37;have u37:=run_underlying L.t37;have t127:=L.t127;have a127:=L.a127;have z127:=L.z127;have v127:=L.v127;have u127:=run_underlying L.t127;have t3:=L.t3;have a3:=L.a3;have z3:=L.z3;have v3:=L.v3;have u3:=run_underlying L.t3;have t9:=L.t9;have a9:=L.a9;have z9:=L.z9;have v9:=L.v9;have u9:=run_underlying L.t9;have t5:=X.t5;have a5:=X.a5;have z5:=X.z5;have v5:=X.v5;have u5:=run_underlying X.t5
   go_enter L.f169,Body.n169_ntmps ρ
   go_wp2
   go_region_o
   all_goals(go_wp2;go_ret;exact⟨rfl,hgr⟩)
theorem Amp(L:Lays.n170 P ρ){w:World}{base b:Nat}{p v:Value}{l:List Int}(BR:base<=w.heap.size)(hh:w.heap[b]?=some (.cells #[p,v] (ρ.t 72) (0,0)))(hp:p=.pointer none\/p=.pointer (some ⟨b,0,none⟩))(Ak:w.ownsRow base (ρ.t 5) 1 v l.length (l.map (Value.int .u8)))(AL:v.ownBlock≠some b):Wt P (ρ.f 170) ⟨ρ.t 72,ρ.t 5,2⟩ w base b v l 2:=by
 have hB:∃B,B<=b/\w.ownsRow B (ρ.t 5) 1 v (l.map (Value.int .u8)).length (l.map (Value.int .u8)):=by
  rw[FJ];rcases Ak with⟨h1,h2⟩;rcases h2 with h2|⟨g,cap,AQ,h3,h4,h5⟩
  ·exact⟨0,DM _,h1,.inl h2⟩
  ·exact⟨0,DM _,h1,.inr ⟨g,cap,AQ,h3,DM _,h5⟩⟩
 obtain⟨B,hB,Ak⟩:=hB
 have hI:Lib.IsBuilder (ρ.t 72) (ρ.t 5) B b (l.map (Value.int .u8)) w:=by
  rcases hp with rfl|rfl
  ·exact .inl ⟨hB,v,hh,Ak,AL⟩
  ·exact .inr ⟨hB,v,hh,Ak,AL⟩
 refine(Any.Builder_Len L B b _ w hI).mono ?_;rintro e w' ⟨rfl,rfl⟩;exact⟨by rw[FJ],⟨rfl,rfl,rfl,AC _,λ_ _ _=>rfl⟩⟩
theorem Amq{f t te:Nat}(L:Lays.n166 P ρ)(X:Builder.Extra P ρ)(hf:ρ.f 166=f)(ht:ρ.t 72=t)(BE:ρ.t 5=te)(Cl:∃fn,P.funcs[f]?=some fn/\(fn.name== "runtime.NumGoroutine")=false/\fn.body.isNone=false):BldOk P f ⟨t,te,0⟩:=by
 subst hf ht BE;exact⟨Cl,λ_ w base b p v l hb hh hp Ak AL=>Amm L X hb hh hp Ak AL,λh=>by cases h⟩
theorem Amr{f t te:Nat}(L:Lays.n169 P ρ)(X:Builder.Extra P ρ)(hf:ρ.f 169=f)(ht:ρ.t 72=t)(BE:ρ.t 5=te)(Cl:∃fn,P.funcs[f]?=some fn/\(fn.name== "runtime.NumGoroutine")=false/\fn.body.isNone=false):BldOk P f ⟨t,te,1⟩:=by
 subst hf ht BE;exact⟨Cl,λ_ w base b p v l hb hh _ Ak AL=>Amo L X hb hh Ak AL,λh=>by cases h⟩
theorem Ams{f t te:Nat}(L:Lays.n170 P ρ)(hf:ρ.f 170=f)(ht:ρ.t 72=t)(BE:ρ.t 5=te)(Cl:∃fn,P.funcs[f]?=some fn/\(fn.name== "runtime.NumGoroutine")=false/\fn.body.isNone=false):BldOk P f ⟨t,te,2⟩:=by
 subst hf ht BE;exact⟨Cl,λ_ w base b p v l hb hh hp Ak AL=>Amp L hb hh hp Ak AL,λh=>by cases h⟩
theorem Amt{f t:Nat}(L:Lays.n156 P ρ)(X:Builder.Extra P ρ)(hf:ρ.f 156=f)(Cl:∃fn,P.funcs[f]?=some fn/\(fn.name== "runtime.NumGoroutine")=false/\fn.body.isNone=false):BldOk P f ⟨t,0,3⟩:=by
 subst hf;refine⟨Cl,λh=>absurd h (by show ¬(3<3);decide),λ_ w base sv l sep Ak h1 h2=>?_⟩;have below:∀{w':World},Below w.heap.size w w'->w.grownBy w' none:=λh=>⟨h.os,h.tape,h.output,h.size,λk hk _=>h.block k hk⟩;have e:(l.map λs=>(⟨s.toArray⟩:ByteArray)).map (·.data.toList)=l:=by rw[OP];exact List.map_id'' (λ_=>rfl) l
 rcases Ak.2 with⟨rfl,hz⟩|⟨g,cap,AQ,rfl,Uq,hg,ES,EQ,CH,If⟩
 ·have:l=[]:=Ik hz
  subst this;exact(Any.strings_Join_none L X none 0 ⟨sep.toArray⟩ w).mono λe w' ⟨he,hw⟩=>⟨he,hw▸below (Below.refl _ _)⟩
 ·have hx:=Any.strings_Join L X g 0 cap (l.map λs=>(⟨s.toArray⟩:ByteArray)) ⟨sep.toArray⟩ w (λj x hx=>by
   have:=Ak.cells (g:=g) rfl j (.string x) (by
    rw[FI]at hx⊢;cases hl:l[j]? with
    |none=>rw[hl]at hx;cases hx
    |some s=>rw[hl]at hx;simp only[EM,Af]at hx⊢;rw[<-hx])
   rw[DL];unfold Addr.add at this;split at this
   ·rename_i h0;rw[h0];exact this
   ·simpa using this) (HD.1 hg).1 (by rw[FJ];exact h1) (by rw[FJ];omega) (by rw[e];exact h2)
  rw[e,FJ]at hx;exact hx.mono λe w' ⟨he,hb⟩=>⟨he,below hb⟩
end
end Go.Lift
