/- Part15 -/
import Derived.Shelf.Strings.Builder1
import Derived.Shelf.Strings.OnBuilder
import Derived.Test.YtegofjgkamhgaaaGreatDoorPart14
set_option linter.unusedVariables false
set_option linter.unusedSectionVars false
set_option linter.unusedSimpArgs false
open Option renaming some → Ybl, none → Ybn
open Bool renaming false → Ybo
open _root_ renaming List → Ybp, ByteArray → Ybz
open ByteArray renaming size → Ybw
namespace Go.Lift
open Go.RowKit Go.Shelf Go.Proofs
theorem Apn{P:Program}{w:World}(base:Nat)(t u ty e:TypeId)(i:TypeInfo)(ht:P.underlying t=Ybl (.slice e))(hu:P.underlying u=Ybl .string)(hi:P.info? e=Ybl i)(hz:i.zero=Ybl (.int .u8 0))(H6:i.size=1)(DX:i.bytes=1)(v:Value)(n:Nat)(xs:Ybp Value)(Ah:w.ownsRow base e 1 v n xs)(s:Ybz)(Lz:n+s.size<=maxLen)(L1:n+s.size<=140737488355328)(BM:base<=w.heap.size):∃v' w',(Builtin.append_ #[t,u] ty #[v,.string s]).run P w=.ok v' w'/\w'.ownsRow base e 1 v' (n+s.size) (xs++Lib.strCells s)/\w.grownBy w' v.ownBlock/\(v'.ownBlock=v.ownBlock\/∀g,v'.ownBlock=Ybl g->w.heap.size<=g):=by
 have hm:maxLen<=9223372036854775807:=by unfold maxLen;omega
 obtain⟨v',w',hr,h1,h2,_⟩:=Lib.run_append_own_string (P:=P) w base t u ty e i ht hu hi hz H6 DX v n xs Ah s Lz L1 BM;refine⟨v',w',hr,h1,h2,?_⟩;have Cp:xs.length=n:=by simpa using Ah.1
 rcases Ah.2 with⟨rfl,rfl⟩|⟨g,cap,AI,rfl,Ht,hg,BO,C4,Bn,I4⟩
 ·have hx:xs=[]:=FT Cp
  subst hx;obtain⟨v2,w2,DQ,h3,_,_⟩:=Lib.run_append_own_string (P:=P) w w.heap.size t u ty e i ht hu hi hz H6 DX (.slice Ybn 0 0) 0 [] (World.ownsRow_nil _ _ _ _) s Lz L1 (Aw _);rw[hr]at DQ;injection DQ with q1 q2;subst q1 q2;exact .inr λk hk=>(h3.lt k hk).1
 ·by_cases Cj:n+s.size<=cap
  ·have DQ:=Lib.run_append_room_string (P:=P) w t u ty e i ht hu hi H6 g n cap AI hg s Cj (by omega)
   rw[hr]at DQ;injection DQ with q1 q2;subst q1;exact .inl rfl
  ·have holds:∀j u,xs[j]?=Ybl u->w.cell? ((⟨g,0,Ybn⟩:Addr).add j)=Ybl u:=Ah.cells (g:=g) rfl
   have DQ:=Lib.run_append_grow_string (P:=P) w t u ty e i (.int .u8 0) ht hu hi hz ⟨g,0,Ybn⟩ n cap xs (by rw[H6];simpa using Cp) holds s (by omega) (by omega) (by rw[DX];exact growslice_fits (by omega) (by omega));rw[hr]at DQ;injection DQ with q1 q2;subst q1;refine .inr λk hk=>?_;simp only[Value.ownBlock,Af]at hk;omega
theorem Apo{P:Program}{w:World}{ops:Array Oper}{B5:Ybp Oper}{o:Oper}{a:Act}{Q:Exit->Act->World->Prop}(Hx:o.guard=Ybn)(sl x:Operand)(t u:TypeId)(ho:o.op=.call {callee:=.builtin .append,args:=#[sl,x],argTypes:=#[t,u]})(base:Nat)(e:TypeId)(i:TypeInfo)(ht:P.underlying t=Ybl (.slice e))(hu:P.underlying u=Ybl .string)(hi:P.info? e=Ybl i)(hz:i.zero=Ybl (.int .u8 0))(H6:i.size=1)(DX:i.bytes=1)(v:Value)(n:Nat)(xs:Ybp Value)(hs:a.eval sl=v)(Ah:w.ownsRow base e 1 v n xs)(s:Ybz)(hx:a.eval x=.string s)(Lz:n+s.size<=maxLen)(L1:n+s.size<=140737488355328)(BM:base<=w.heap.size)(h:∀v' w',w'.ownsRow base e 1 v' (n+s.size) (xs++Lib.strCells s)->w.grownBy w' v.ownBlock->(v'.ownBlock=v.ownBlock\/∀g,v'.ownBlock=Ybl g->w.heap.size<=g)->wpList P ops Q B5 (a.put o.dst v') w'):wpList P ops Q (o::B5) a w:=by
 refine wpList_plain Hx λK hK=>?_;obtain⟨v',w',hr,h2,h3,h4⟩:=Apn (P:=P) (w:=w) base t u o.type e i ht hu hi hz H6 DX v n xs Ah s Lz L1 BM;unfold Oper.wp execOp;simp only[ho,resolve,invoke,builtin,Sem.run_bind,Sem.run_pure,Result.andThen_ok,List.map_toArray,CP,Il,hs,hx,hr];exact hK _ _ (h v' w' h2 h3 h4)
theorem App{P:Program}{w:World}{ops:Array Oper}{B5:Ybp Oper}{o:Oper}{a:Act}{Q:Exit->Act->World->Prop}(Hx:o.guard=Ybn)(sl x:Operand)(t:TypeId)(ho:o.op=.call {callee:=.builtin .append,args:=#[sl,x],argTypes:=#[t,t]})(base:Nat)(e:TypeId)(i:TypeInfo)(z:Value)(size bytes:Nat)(ht:P.underlying t=Ybl (.slice e))(hi:P.info? e=Ybl i)(hz:i.zero=Ybl z)(H6:i.size=size)(DX:i.bytes=bytes)(Km:z.cells.size=size)(B4:0<size)(v:Value)(n:Nat)(xs:Ybp Value)(hs:a.eval sl=v)(Ah:w.ownsRow base e size v n xs)(ad:Addr)(m c:Nat)(news:Ybp Value)(hx:a.eval x=.slice (Ybl ad) m c)(hl:news.length=m*size)(ADY:∀j u,news[j]?=Ybl u->w.cell? (ad.add j)=Ybl u)(h1:∀u∈news,u.oneCell'=true)(Lz:n+m<=maxLen)(L1:(n+m)*bytes<=140737488355328)(BM:base<=w.heap.size)(h:∀v' w',w'.ownsRow base e size v' (n+m) (xs++news)->w.grownBy w' v.ownBlock->(v'.ownBlock=v.ownBlock\/∀g,v'.ownBlock=Ybl g->w.heap.size<=g)->wpList P ops Q B5 (a.put o.dst v') w'):wpList P ops Q (o::B5) a w:=by
 refine wpList_plain Hx λK hK=>?_;obtain⟨v',w',hr,h2,h3,_,h4⟩:=run_append_own_at (P:=P) w base t o.type e i z size bytes ht hi hz H6 DX Km B4 v n xs Ah ad m c news hl ADY h1 Lz L1 BM;unfold Oper.wp execOp;simp only[ho,resolve,invoke,builtin,Sem.run_bind,Sem.run_pure,Result.andThen_ok,List.map_toArray,CP,Il,hs,hx,hr];exact hK _ _ (h v' w' h2 h3 (h4.imp_right λh g hg=>by rw[h]at hg;injection hg with hg;omega))
theorem jJ(w:World)(b j:Nat)(v:Value):w.grownBy (w.setCell ⟨b,j,Ybn⟩ v) (Ybl b):=
 ⟨rfl,rfl,rfl,by simp[World.setCell],λk _ hk=>Below.heap_setCell _ _ _ _ (λe=>hk (by simp[e]))⟩
section
variable{P:Program}{ρ:Shelf.Ren}
theorem Ach(L:Lays.n240 P ρ)(X:Builder.X72 P ρ){w:World}{b:Nat}{p v:Value}(hh:w.heap[b]?=Ybl (.cells #[p,v] (ρ.t 72) (0,0)))(hp:p=.pointer Ybn\/p=.pointer (Ybl ⟨b,0,Ybn⟩)):Calls P (ρ.f 240) #[.pointer (Ybl ⟨b,0,Ybn⟩)] w λe w1=>e=.returned (.tuple #[])/\w.grownBy w1 (Ybl b)/\w1.heap[b]?=Ybl (.cells #[.pointer (Ybl ⟨b,0,Ybn⟩),v] (ρ.t 72) (0,0)):=by
 rcases hp with rfl|rfl
 ·refine(Any.Builder_copyCheck_fresh L X b w (by rw[Lib.cell_of_heap hh];rfl) (by simp[World.shape?,hh]) (Lib.frozen_of_heap hh 0)).mono ?_
  rintro e w1 ⟨rfl,rfl⟩;exact⟨rfl,jJ _ _ _ _,by simp[World.setCell,PG,hh]⟩
 ·refine(Any.Builder_copyCheck_used L X b w (by rw[Lib.cell_of_heap hh];rfl)).mono ?_
  rintro e w1 ⟨rfl,rfl⟩;exact⟨rfl,⟨rfl,rfl,rfl,Aw _,λ_ _ _=>rfl⟩,hh⟩
theorem Apq(s:Ybp UInt8):Lib.strCells ⟨s.toArray⟩=(Im s).map (Value.int .u8):=by simp[Lib.strCells,Im]
set_option maxHeartbeats 2000000 in
set_option maxRecDepth 100000 in
theorem Apr(L:Lays.n166 P ρ)(X:Builder.Extra P ρ){w:World}{base b:Nat}{p v:Value}{l:Ybp Int}(hbase:base<=w.heap.size)(hh:w.heap[b]?=Ybl (.cells #[p,v] (ρ.t 72) (0,0)))(hp:p=.pointer Ybn\/p=.pointer (Ybl ⟨b,0,Ybn⟩))(hown:w.ownsRow base (ρ.t 5) 1 v l.length (l.map (Value.int .u8)))(hne:v.ownBlock≠Ybl b):SH P (ρ.f 166) ⟨ρ.t 72,ρ.t 5,0⟩ w base b v l 0:=by
 intro s hlen;have hsz:(⟨s.toArray⟩:Ybz).size=s.length:=by simp[Ybw]
 obtain⟨i0,hi,hz0,hz1,hz2⟩:=info_parts X.infoByte;have mixed:=L.mixed;have t72:=L.t72;have a72:=L.a72;have z72:=L.z72;have v72:=L.v72;have u72:=run_underlying L.t72;have t70:=L.t70;have a70:=L.a70;have z70:=L.z70;have v70:=L.v70;have u70:=run_underlying L.t70;have t37:=L.t37;have a37:=L.a37;have z37:=L.z37;have v37:=L.v37;have u37:=run_underlying L.t37;have t3:=L.t3;have a3:=L.a3;have z3:=L.z3;have v3:=L.v3;have u3:=run_underlying L.t3;have t9:=L.t9;have a9:=L.a9;have z9:=L.z9;have v9:=L.v9;have u9:=run_underlying L.t9;have t4:=L.t4;have a4:=L.a4;have z4:=L.z4;have v4:=L.v4;have u4:=run_underlying L.t4;have t164:=L.t164;have a164:=L.a164;have z164:=L.z164;have v164:=L.v164;have u164:=run_underlying L.t164;have t5:=X.t5;have a5:=X.a5;have z5:=X.z5;have v5:=X.v5;have u5:=run_underlying X.t5;have e240:∀args w,(callFunc (ρ.f 240) args).run P w=.ok (.enter (ρ.f 240) args) w:=enters_of L.f240 (by kernel_rfl) rfl
 go_enter L.f166,Body.n166_ntmps ρ
 go_wp2_with (go_at_fn (ρ.f 240);refine(Ach {L with} X.toX72 hh hp).mono ?_)
 rintro e w1 ⟨rfl,hg1,hh1⟩;have hown1:w1.ownsRow base (ρ.t 5) 1 v l.length (l.map (Value.int .u8)):=hown.kept hg1 (.inr hne);have hbase1:base<=w1.heap.size:=BH hbase hg1.size;have c0:w1.cell? ⟨b,0,Ybn⟩=Ybl (.pointer (Ybl ⟨b,0,Ybn⟩)):=by rw[Lib.cell_of_heap hh1];rfl
 have c1:w1.cell? ⟨b,1,Ybn⟩=Ybl v:=by rw[Lib.cell_of_heap hh1];rfl
 go_wp2_with (at_builtin;refine Apo rfl _ _ (ρ.t 37) (ρ.t 9) rfl base (ρ.t 5) i0 L.t37 L.t9 hi hz0 hz1 hz2 _ _ _ rfl hown1 ⟨s.toArray⟩ rfl ?c3 ?c4 hbase1 ?_)
 case c3=>unfold maxLen;omega
 case c4=>omega
 intro v' w2 hown2 hg2 hloc;have hlt:b<w1.heap.size:=(Fb.1 hh1).1
 have hh2:w2.heap[b]?=Ybl (.cells #[.pointer (Ybl ⟨b,0,Ybn⟩),v] (ρ.t 72) (0,0)):=by rw[hg2.block b hlt (λe=>hne e.symm)];exact hh1
 have d0:w2.cell? ⟨b,0,Ybn⟩=Ybl (.pointer (Ybl ⟨b,0,Ybn⟩)):=by rw[Lib.cell_of_heap hh2];rfl
 have d1:w2.cell? ⟨b,1,Ybn⟩=Ybl v:=by rw[Lib.cell_of_heap hh2];rfl
 have f1:w2.frozen? ⟨b,1,Ybn⟩=Ybo:=Lib.frozen_of_heap hh2 1
 obtain⟨ao,n',cap,rfl⟩:∃ao n' cap,v'=.slice ao n' cap:=by
  rcases hown2.2 with⟨hv,_⟩|⟨g,cap,cur,hv,_⟩
  ·exact⟨_,_,_,hv⟩
  ·exact⟨_,_,_,hv⟩
 go_wp2
 go_ret2
 rw[Apq,<-LK]at hown2;exact⟨rfl,w1,w2,_,hg1,hh1,hg2,hloc,hown2,jJ _ _ _ _,by simp[World.setCell,PG,hh2]⟩
set_option maxHeartbeats 2000000 in
set_option maxRecDepth 100000 in
theorem Aps(L:Lays.n167 P ρ)(X:Builder.Extra P ρ){w:World}{base b:Nat}{p v:Value}{l:Ybp Int}(hbase:base<=w.heap.size)(hh:w.heap[b]?=Ybl (.cells #[p,v] (ρ.t 72) (0,0)))(hp:p=.pointer Ybn\/p=.pointer (Ybl ⟨b,0,Ybn⟩))(hown:w.ownsRow base (ρ.t 5) 1 v l.length (l.map (Value.int .u8)))(hne:v.ownBlock≠Ybl b):SH P (ρ.f 167) ⟨ρ.t 72,ρ.t 5,4⟩ w base b v l 4:=by
 intro c hlen;obtain⟨i0,hi,hz0,hz1,hz2⟩:=info_parts X.infoByte;have mixed:=L.mixed;have t72:=L.t72;have a72:=L.a72;have z72:=L.z72;have v72:=L.v72;have u72:=run_underlying L.t72;have t70:=L.t70;have a70:=L.a70;have z70:=L.z70;have v70:=L.v70;have u70:=run_underlying L.t70;have t5:=L.t5;have a5:=L.a5;have z5:=L.z5;have v5:=L.v5;have u5:=run_underlying L.t5;have t37:=L.t37;have a37:=L.a37;have z37:=L.z37;have v37:=L.v37;have u37:=run_underlying L.t37;have t9:=L.t9;have a9:=L.a9;have z9:=L.z9;have v9:=L.v9;have u9:=run_underlying L.t9;have t4:=L.t4;have a4:=L.a4;have z4:=L.z4;have v4:=L.v4;have u4:=run_underlying L.t4;have t164:=L.t164;have a164:=L.a164;have z164:=L.z164;have v164:=L.v164;have u164:=run_underlying L.t164;have e240:∀args w,(callFunc (ρ.f 240) args).run P w=.ok (.enter (ρ.f 240) args) w:=enters_of L.f240 (by kernel_rfl) rfl
 go_enter L.f167,Body.n167_ntmps ρ
 go_wp2_with (go_at_fn (ρ.f 240);refine(Ach {L with} X.toX72 hh hp).mono ?_)
 rintro e w1 ⟨rfl,hg1,hh1⟩;have hown1:w1.ownsRow base (ρ.t 5) 1 v l.length (l.map (Value.int .u8)):=hown.kept hg1 (.inr hne);have hbase1:base<=w1.heap.size:=BH hbase hg1.size;have c0:w1.cell? ⟨b,0,Ybn⟩=Ybl (.pointer (Ybl ⟨b,0,Ybn⟩)):=by rw[Lib.cell_of_heap hh1];rfl
 have c1:w1.cell? ⟨b,1,Ybn⟩=Ybl v:=by rw[Lib.cell_of_heap hh1];rfl
 have hlt:b<w1.heap.size:=(Fb.1 hh1).1
 go_wp2_with (at_builtin;refine App rfl _ _ (ρ.t 37) rfl base (ρ.t 5) i0 (.int .u8 0) 1 1 L.t37 hi hz0 hz1 hz2 rfl (by decide) _ _ _ rfl (hown1.alloc _) ⟨w1.heap.size,0,Ybn⟩ 1 1 [.int .u8 c] rfl rfl ?c1 ?c2 ?c3 ?c4 ?c5 ?_)
 case c1=>
  intro j u hj
  match j,hj with
  |0,hj=>simp at hj;subst hj;simp[Addr.add]
 case c2=>intro u hu;simp at hu;subst hu;rfl
 case c3=>unfold maxLen;omega
 case c4=>omega
 case c5=>simp;omega
 intro v' w2 hown2 hg2 hloc;have hga:=World.grownBy_alloc w1 (.cells #[.int .u8 c] (ρ.t 5)) (Ybl b);have hhA:(w1.alloc (.cells #[.int .u8 c] (ρ.t 5))).heap[b]?=Ybl (.cells #[.pointer (Ybl ⟨b,0,Ybn⟩),v] (ρ.t 72) (0,0)):=((World.grownBy_alloc w1 (.cells #[.int .u8 c] (ρ.t 5)) Ybn).block b hlt (by simp)).trans hh1
 have hgA:w.grownBy (w1.alloc (.cells #[.int .u8 c] (ρ.t 5))) (Ybl b):=
  ⟨hga.os.trans hg1.os,hga.tape.trans hg1.tape,hga.output.trans hg1.output,BH hg1.size hga.size,λk hk hne=>(hga.block k (Ij hk hg1.size) hne).trans (hg1.block k hk hne)⟩
 have hsA:(w1.alloc (.cells #[.int .u8 c] (ρ.t 5))).heap.size=w1.heap.size+1:=by simp
 generalize w1.alloc (.cells #[.int .u8 c] (ρ.t 5))=W at hg2 hhA hgA hga hsA;rw[<-hsA]at hloc;have hltW:b<W.heap.size:=(Fb.1 hhA).1
 have hh2:w2.heap[b]?=Ybl (.cells #[.pointer (Ybl ⟨b,0,Ybn⟩),v] (ρ.t 72) (0,0)):=by rw[hg2.block b hltW (λe=>hne e.symm)];exact hhA
 have d0:w2.cell? ⟨b,0,Ybn⟩=Ybl (.pointer (Ybl ⟨b,0,Ybn⟩)):=by rw[Lib.cell_of_heap hh2];rfl
 have d1:w2.cell? ⟨b,1,Ybn⟩=Ybl v:=by rw[Lib.cell_of_heap hh2];rfl
 have f1:w2.frozen? ⟨b,1,Ybn⟩=Ybo:=Lib.frozen_of_heap hh2 1
 obtain⟨ao,n',cap,rfl⟩:∃ao n' cap,v'=.slice ao n' cap:=by
  rcases hown2.2 with⟨hv,_⟩|⟨g,cap,cur,hv,_⟩
  ·exact⟨_,_,_,hv⟩
  ·exact⟨_,_,_,hv⟩
 go_wp2
 go_ret
 have e:List.map (Value.int .u8) l++[Value.int .u8 c]=List.map (Value.int .u8) (l++[c]):=by simp
 rw[e]at hown2;exact⟨rfl,W,w2,_,hgA,hhA,hg2,hloc,hown2,jJ _ _ _ _,by simp[World.setCell,PG,hh2]⟩
theorem Aci:∀{l:Ybp Int},Sx l=true->Im (JN l)=l
 |[],_=>rfl
 |n::l,h=>by have h1:(decide (0<=n)&&decide (n<=255))=true/\Sx l=true:=andB h;obtain⟨h2,h3⟩:=andB h1.1;have h2:=AC h2;have h3:=AC h3;have:=Aci (l:=l) h1.2;show((UInt8.ofNat n.toNat).toNat:Int)::Im (JN l)=n::l;rw[this,UInt8.toNat_ofNat'];congr 1;omega
theorem Acj:∀(s:Ybp UInt8),JN (Im s)=s
 |[]=>rfl
 |c::s=>by show UInt8.ofNat ((c.toNat:Int)).toNat::JN (Im s)=c::s;rw[Acj s,dO,UInt8.ofNat_toNat]
theorem Apt(w:World)(g n:Nat):w.grownBy (w.freeze ⟨g,0,Ybn⟩ n) (Ybl g):=by
 unfold World.freeze;split
 ·exact⟨rfl,rfl,rfl,Aw _,λ_ _ _=>rfl⟩
 ·exact⟨rfl,rfl,rfl,by simp,λk hk Az=>by simp only[PG];rw[if_neg (λe=>Az (by simp[e]))]⟩
set_option maxHeartbeats 1000000 in
set_option maxRecDepth 100000 in
theorem Apu(L:Lays.n169 P ρ)(X:Builder.Extra P ρ){w:World}{base b:Nat}{p v:Value}{l:Ybp Int}(hbase:base<=w.heap.size)(hh:w.heap[b]?=Ybl (.cells #[p,v] (ρ.t 72) (0,0)))(hown:w.ownsRow base (ρ.t 5) 1 v l.length (l.map (Value.int .u8)))(hne:v.ownBlock≠Ybl b):SH P (ρ.f 169) ⟨ρ.t 72,ρ.t 5,1⟩ w base b v l 1:=by
 intro hby;obtain⟨s,rfl⟩:∃s,l=Im s:=⟨JN l,(Aci hby).symm⟩;rw[Acj];have hls:(Im s).length=s.length:=by simp[Im]
 have below:∀{w':World}{o:Option Nat},Below w.heap.size w w'->w.grownBy w' o:=λh=>⟨h.os,h.tape,h.output,h.size,λk hk _=>h.block k hk⟩;rcases hown.2 with⟨rfl,hz⟩|⟨g,cap,cur,rfl,hbg,hg,hnc,hcm,hcs,htake⟩
 ·have:s=[]:=FT (by omega)
  subst this;exact(Any.Builder_String_nil L X w.heap.size b p w hh).mono λe w' ⟨he,hb⟩=>⟨he,below hb⟩
 ·by_cases h0:s=[]
  ·subst h0
   by_cases hc0:cap=0
   ·subst hc0
    exact(Any.Builder_String_noroom L X w.heap.size b g p cur w (Aw _) hh hg).mono λe w' ⟨he,hb⟩=>⟨he,below hb⟩
   ·exact(Any.Builder_String_room L X w.heap.size b g cap p w hc0 hh).mono λe w' ⟨he,hb⟩=>⟨he,below hb⟩
  ·have hl0:s.length≠0:=by simpa using h0
   rw[hls]at hh hnc
   have c1:w.drew.cell? ⟨b,1,Ybn⟩=Ybl (.slice (Ybl ⟨g,0,Ybn⟩) s.length cap):=by have:w.drew.heap[b]?=Ybl (.cells #[p,.slice (Ybl ⟨g,0,Ybn⟩) s.length cap] (ρ.t 72) (0,0)):=hh;rw[Lib.cell_of_heap this];rfl
   have hSD:(Builtin.unsafeSliceData_ #[(ρ.t 37)] (ρ.t 127) #[.slice (Ybl ⟨g,0,Ybn⟩) s.length cap]).run P w.drew=.ok (.pointer (Ybl ⟨g,0,Ybn⟩)) w.drew:=
    Lib.run_unsafeSliceData_row _ _ _ _ _ _ (by omega)
   have hUS:(Builtin.unsafeString_ #[(ρ.t 127),(ρ.t 3)] (ρ.t 9) #[.pointer (Ybl ⟨g,0,Ybn⟩),.int .i64 s.length]).run P w.drew=.ok (.string ⟨s.toArray⟩) (w.drew.freeze ⟨g,0,Ybn⟩ s.length):=by refine Lib.run_unsafeString_row w.drew (ρ.t 127) (ρ.t 3) (ρ.t 9) (ρ.t 5) L.t127 X.cellsByte g cur.size (by have hg':w.drew.heap[g]?=Ybl (.cells cur (ρ.t 5) (0,0)):=hg;simp[World.shape?,hg']) s h0 (by omega) (by unfold maxLen at hcm;omega) ?_;intro j x hx;exact hown.cells (g:=g) rfl j (.int .u8 x.toNat) (by simp[Im,hx])
   have hgr:w.grownBy (w.drew.freeze ⟨g,0,Ybn⟩ s.length) (Ybl g):=by have h:=Apt w.drew g s.length;exact⟨h.os,h.tape,h.output,h.size,h.block⟩
   have mixed:=L.mixed;have t72:=L.t72;have a72:=L.a72;have z72:=L.z72;have v72:=L.v72;have u72:=run_underlying L.t72;have t70:=L.t70;have a70:=L.a70;have z70:=L.z70;have v70:=L.v70;have u70:=run_underlying L.t70;have t37:=L.t37;have a37:=L.a37;have z37:=L.z37;have v37:=L.v37;have u37:=run_underlying L.t37;have t127:=L.t127;have a127:=L.a127;have z127:=L.z127;have v127:=L.v127;have u127:=run_underlying L.t127;have t3:=L.t3;have a3:=L.a3;have z3:=L.z3;have v3:=L.v3;have u3:=run_underlying L.t3;have t9:=L.t9;have a9:=L.a9;have z9:=L.z9;have v9:=L.v9;have u9:=run_underlying L.t9;have t5:=X.t5;have a5:=X.a5;have z5:=X.z5;have v5:=X.v5;have u5:=run_underlying X.t5
   go_enter L.f169,Body.n169_ntmps ρ
   go_wp2
   go_region_o
   all_goals(go_wp2;go_ret;exact⟨rfl,hgr⟩)
theorem Apv(L:Lays.n170 P ρ){w:World}{base b:Nat}{p v:Value}{l:Ybp Int}(BM:base<=w.heap.size)(hh:w.heap[b]?=Ybl (.cells #[p,v] (ρ.t 72) (0,0)))(hp:p=.pointer Ybn\/p=.pointer (Ybl ⟨b,0,Ybn⟩))(Ah:w.ownsRow base (ρ.t 5) 1 v l.length (l.map (Value.int .u8)))(Az:v.ownBlock≠Ybl b):SH P (ρ.f 170) ⟨ρ.t 72,ρ.t 5,2⟩ w base b v l 2:=by
 have hB:∃B,B<=b/\w.ownsRow B (ρ.t 5) 1 v (l.map (Value.int .u8)).length (l.map (Value.int .u8)):=by
  rw[Fc];rcases Ah with⟨h1,h2⟩;rcases h2 with h2|⟨g,cap,AI,h3,h4,h5⟩
  ·exact⟨0,BD _,h1,.inl h2⟩
  ·exact⟨0,BD _,h1,.inr ⟨g,cap,AI,h3,BD _,h5⟩⟩
 obtain⟨B,hB,Ah⟩:=hB
 have hI:Lib.IsBuilder (ρ.t 72) (ρ.t 5) B b (l.map (Value.int .u8)) w:=by
  rcases hp with rfl|rfl
  ·exact .inl ⟨hB,v,hh,Ah,Az⟩
  ·exact .inr ⟨hB,v,hh,Ah,Az⟩
 refine(Any.Builder_Len L B b _ w hI).mono ?_;rintro e w' ⟨rfl,rfl⟩;exact⟨by rw[Fc],⟨rfl,rfl,rfl,Aw _,λ_ _ _=>rfl⟩⟩
theorem Apw{f t te:Nat}(L:Lays.n166 P ρ)(X:Builder.Extra P ρ)(hf:ρ.f 166=f)(ht:ρ.t 72=t)(BR:ρ.t 5=te)(B9:∃fn,P.funcs[f]?=Ybl fn/\(fn.name== "runtime.NumGoroutine")=Ybo/\fn.body.isNone=Ybo):BldOk P f ⟨t,te,0⟩:=by
 subst hf ht BR;exact⟨B9,λ_ w base b p v l hb hh hp Ah Az=>Apr L X hb hh hp Ah Az,λh=>by cases h⟩
theorem Apx{f t te:Nat}(L:Lays.n167 P ρ)(X:Builder.Extra P ρ)(hf:ρ.f 167=f)(ht:ρ.t 72=t)(BR:ρ.t 5=te)(B9:∃fn,P.funcs[f]?=Ybl fn/\(fn.name== "runtime.NumGoroutine")=Ybo/\fn.body.isNone=Ybo):BldOk P f ⟨t,te,4⟩:=by
 subst hf ht BR;exact⟨B9,λ_ w base b p v l hb hh hp Ah Az=>Aps L X hb hh hp Ah Az,λh=>by cases h⟩
theorem Apy{f t te:Nat}(L:Lays.n169 P ρ)(X:Builder.Extra P ρ)(hf:ρ.f 169=f)(ht:ρ.t 72=t)(BR:ρ.t 5=te)(B9:∃fn,P.funcs[f]?=Ybl fn/\(fn.name== "runtime.NumGoroutine")=Ybo/\fn.body.isNone=Ybo):BldOk P f ⟨t,te,1⟩:=by
 subst hf ht BR;exact⟨B9,λ_ w base b p v l hb hh _ Ah Az=>Apu L X hb hh Ah Az,λh=>by cases h⟩
theorem Apz{f t te:Nat}(L:Lays.n170 P ρ)(hf:ρ.f 170=f)(ht:ρ.t 72=t)(BR:ρ.t 5=te)(B9:∃fn,P.funcs[f]?=Ybl fn/\(fn.name== "runtime.NumGoroutine")=Ybo/\fn.body.isNone=Ybo):BldOk P f ⟨t,te,2⟩:=by
 subst hf ht BR;exact⟨B9,λ_ w base b p v l hb hh hp Ah Az=>Apv L hb hh hp Ah Az,λh=>by cases h⟩
theorem ApA{f t:Nat}(L:Lays.n156 P ρ)(X:Builder.Extra P ρ)(hf:ρ.f 156=f)(B9:∃fn,P.funcs[f]?=Ybl fn/\(fn.name== "runtime.NumGoroutine")=Ybo/\fn.body.isNone=Ybo):BldOk P f ⟨t,0,3⟩:=by
 subst hf;refine⟨B9,λh=>absurd rfl h,λ_ w base sv l sep Ah h1 h2=>?_⟩;have below:∀{w':World},Below w.heap.size w w'->w.grownBy w' Ybn:=λh=>⟨h.os,h.tape,h.output,h.size,λk hk _=>h.block k hk⟩;have e:(l.map λs=>(⟨s.toArray⟩:Ybz)).map (·.data.toList)=l:=by rw[PM];exact List.map_id'' (λ_=>rfl) l
 rcases Ah.2 with⟨rfl,hz⟩|⟨g,cap,AI,rfl,Ht,hg,BO,C4,Bn,I4⟩
 ·have:l=[]:=FT hz
  subst this;exact(Any.strings_Join_none L X Ybn 0 ⟨sep.toArray⟩ w).mono λe w' ⟨he,hw⟩=>⟨he,hw▸below (Below.refl _ _)⟩
 ·have hx:=Any.strings_Join L X g 0 cap (l.map λs=>(⟨s.toArray⟩:Ybz)) ⟨sep.toArray⟩ w (λj x hx=>by
   have:=Ah.cells (g:=g) rfl j (.string x) (by
    rw[FJ]at hx⊢;cases hl:l[j]? with
    |none=>rw[hl]at hx;cases hx
    |some s=>rw[hl]at hx;simp only[Ft,Af]at hx⊢;rw[<-hx])
   rw[CQ];unfold Addr.add at this;split at this
   ·rename_i h0;rw[h0];exact this
   ·simpa using this) (Fb.1 hg).1 (by rw[Fc];exact h1) (by rw[Fc];omega) (by rw[e];exact h2)
  rw[e,Fc]at hx;exact hx.mono λe w' ⟨he,hb⟩=>⟨he,below hb⟩
end
end Go.Lift
