/- Part1 -/
import Derived.ChangeKeysEq
import Derived.WideLaws
import Derived.Laws.Pointers
import Derived.MapKept
import Derived.Maps.AppendAt
import Derived.Lib.Strings
import Derived.Laws.CopyRow
import Derived.Laws.BytesArg
import Derived.Test.YtegofjgkamhgaaaGreatDoorPart0
set_option linter.unusedVariables false
set_option linter.unusedSectionVars false
set_option linter.unusedSimpArgs false
open _root_ renaming List → Ya, Option → Yb, Int → Yi, Nat → Yk, UInt8 → Yl, Bool → Ys, absurd → Yw, if_neg → Y4, if_pos → Y7, Array → YX, ByteArray → Yao
open Bool renaming false → Yc, true → Yo
open Option renaming some → Yd, none → Ye
open Decidable renaming decide → Yf
open Go.IntKind renaming i64 → Yh
open Nat renaming beq → Ym, blt → Yz, ble → YB, min → YS, add_zero → Ybf, mul_le_mul_left → Ybg
open Go renaming Value → Yp, TypeId → Yq, run_underlying → Yu, Program → Yv, World → Yx, Operand → Y0, execOp → Y1, binOp → Y9, TypeDesc → YC, TypeInfo → YI, IntKind → YP, typeInfo → YT, sizeOf → Yac, maxLen → Yaj, zeroValue → Yax, madeCells → Yay, BinOp → Ya4, goInt → Ya6, storeVar → YaE, run_loadCells_list → YaJ, storeCells → YaK, asIntOf → YaO, run_equalIn_bool' → YaP, heap_alloc_new → YaS, isAgg → Ybd, loadVar → Ybh, run_program → Ybi
open Go.Op renaming operands → Yt, bytesLess → Yy, eqFields → Yaq, stringOp → Yar, intCmp → YaB, equalIn → YaH, maxDepth → YaQ, intArith → YaR
open Go.Result renaming andThen_ok → Y5, andThen → YK
open List renaming replicate → Y8, tail → Ya7
open Go.Sem renaming run_bind → YA, run_pure → YO
open Go.Addr renaming add_lit → YD, add → Ya3
open Go.Builtin renaming append_ → YE, len_ → YJ, firstCells → YR, lenOf → Yaf, copy_ → Yam, clear_ → Yas, zeroCells → Yau
open Go.Call renaming operands → YF
open Go.World renaming ownsRow_nil → YM, grownBy_alloc → Ya9
open Go.MapKept renaming run_getObj_map → YN
open Go.Value renaming ownBlock → Yae, int → Yag, slice → YaW
open Go.Instr renaming sliceAt → Yah, sureAddr → Yak, slice → Yav, indexAt → Yaw, fill → YaC, sliceBounds → YaF, buildSlice → YaI
open Go.Program renaming cellsOf → YaG
open Int renaming toNat_of_nonneg → Ybe
namespace Go.Lift
open Go.RowKit
theorem WH{P:Yv}{t:Yq}{ti:TI}{i:YI}{d:YC}{z:Yp}(f:TFacts P t ti i d z)(w:Yx):(Ybd t).run P w=.ok ti.agg w:=by rw[f.agg];unfold Ybd Jm;rw[YA,Yu f.under w,f.under];cases d<;>simp
theorem run_sizeOf{P:Yv}{t:Yq}{ti:TI}{i:YI}{d:YC}{z:Yp}(f:TFacts P t ti i d z)(w:Yx):(Yac t).run P w=.ok ti.size w:=by rw[f.size];simp[Yac,YT,f.info]
theorem Qi{P:Yv}{t:Yq}{ti:TI}{i:YI}{d:YC}{z:Yp}(f:TFacts P t ti i d z){w:Yx}{ad:Addr}{us:Ya Yp}(hl:us.length=ti.size)(h1:ti.agg=Yo\/ti.size=1)(hc:∀j u,us[j]?=Yd u->w.cell? (ad.add j)=Yd u){E:Env}{cs:Ya C}(hr:CReps E cs us):∃val,(Ybh t ad).run P w=.ok val w/\VRep E (V.mk ti.agg cs) val:=by
 unfold Ybh;cases ha:ti.agg with
 |true=>refine⟨.agg us.toArray,?_,us,hr,by simp⟩;have Pj:=YaJ (P:=P) w ad us hc;simp[WH f,ha,run_sizeOf f,<-hl,Pj]
 |false=>
  have hs:us.length=1:=by
   rcases h1 with h1|h1
   ·rw[ha]at h1;cases h1
   ·omega
  match us,hs with
  |[u],_=>
   refine⟨u,?_,VRep.mk ⟨[u],hr,by simp⟩⟩;have h0:=hc 0 u rfl;have vV:ad.add 0=ad:=by simp[Ya3]
   rw[vV]at h0;simp[WH f,ha,h0]
theorem SB{w:Yx}{g o:Yk}{vs:Ya Yp}{t:Yq}{fr:Yk×Yk}(hg:w.heap[g]?=Yd (.cells vs.toArray t fr)){n j:Yk}{u:Yp}(h:((vs.drop o).take n)[j]?=Yd u):w.cell? ((⟨g,o,Ye⟩:Addr).add j)=Yd u:=by
 rw[YD,cell_of_row w g (o+j) _ t fr hg];rw[LH]at h;split at h
 ·simpa using h
 ·cases h
theorem Amy{P:Yv}{t:Yq}{ti:TI}{i:YI}{d:YC}{z:Yp}(f:TFacts P t ti i d z)(BZ:ti.agg=Yo\/ti.size=1){E:Env}{base:Yk}{t0:Yq}{e:Ty}{l:Ya e.den}{sv:Yp}{xs:Ya Yp}(hd:DList (λx u=>DRep E.w E.ok e x u) l xs)(Ah:E.w.ownsRow base t0 e.size sv l.length xs){ix off g n c:Yk}(hi:ix<l.length)(Au:sv=.slice (Yd ⟨g,0,Ye⟩) n c){rc:Ya C}(AM:sub (cells e (l.getD ix e.dflt)) off ti.size=Yd rc):∃val,(Ybh t ⟨g,ix*e.size+off,Ye⟩).run P E.w=.ok val E.w/\VRep E (V.mk ti.agg rc) val:=by
 obtain⟨u,p1,q1,V5,Cv,N4⟩:=DList.get e.dflt hd hi;have Bn:=FW (E:=E) N4;obtain⟨s1,s2,s3⟩:=LV Bn AM
 have DN:∀j v,((u.drop off).take ti.size)[j]?=Yd v->E.w.cell? ((⟨g,ix*e.size+off,Ye⟩:Addr).add j)=Yd v:=by
  intro j v hj;rw[LH]at hj;split at hj
  ·have h2:xs[ix*e.size+off+j]?=Yd v:=by rw[KZ]at hj;have Ae:off+j<u.length:=(Do.1 hj).1;rw[V5,ES (by omega),G0 (by omega)];rw[<-hj];congr 1;omega
   have h3:=Ah.cells (g:=g) (by rw[Au];rfl) _ _ h2;rw[YD]at h3⊢;rw[CQ]at h3;exact h3
  ·cases hj
 exact Qi f s2 BZ DN s1
theorem Amz{P:Yv}{t:Yq}{ti:TI}{i:YI}{d:YC}{z:Yp}(f:TFacts P t ti i d z)(BZ:ti.agg=Yo\/ti.size=1){E:Env}(hb:Eg E){t0:Yq}{e:OT}{b ver Am ix off:Yk}{l:Ya e.ty.den}{p:Path}(An:E.bl b=Yd (.tree t0 e ver Am Ye l)){v:Yp}(hv:VRep E (.c (.tptr b (tv ver Am p) p ix off)) v){n:EF}(hn:Jk (.r t0 e) l 0 p=Yd n){rc:Ya C}(AM:sub (PR b (ver+Am) p ix 0 n.1.2 (n.2.getD ix n.1.2.ty.dflt)) off ti.size=Yd rc):∃ad val,v=.pointer (Yd ad)/\(Ybh t ad).run P E.w=.ok val E.w/\VRep E (V.mk ti.agg rc) val:=by
 obtain⟨sv,Ab,n',s,g,m,c,Bk,hT,Dj,hs,hi,Au,rfl⟩:=zY hb An hv;have:=LX Dj;rw[hn]at this;injection this with this;subst this;obtain⟨u,pre,post,Ah,Cv,Bn⟩:=Amx hb An Bk hT Dj hs hi;obtain⟨s1,s2,s3⟩:=LV Bn AM
 have DN:∀j v,((u.drop off).take ti.size)[j]?=Yd v->E.w.cell? ((⟨g,ix*n.1.2.ty.size+off,Ye⟩:Addr).add j)=Yd v:=by
  intro j v hj;rw[LH]at hj;split at hj
  ·have h2:(pre++(u++post))[ix*n.1.2.ty.size+off+j]?=Yd v:=by rw[KZ]at hj;have Ae:off+j<u.length:=(Do.1 hj).1;rw[ES (by omega),G0 (by omega)];rw[<-hj];congr 1;omega
   have h3:=Ah.cells (g:=g) (by rw[Au];rfl) _ _ h2;rw[YD]at h3⊢;rw[CQ]at h3;exact h3
  ·cases hj
 obtain⟨val,v1,v2⟩:=Qi f s2 BZ DN s1;exact⟨_,val,rfl,v1,v2⟩
section
variable{P:Yv}{o:Oper}{ρ:Y0->V}{bl:Yk->Yb Blk}{β:Type}{r:β}
theorem WI{T:Yq->Yb TI}(hT:TOk P T){kk:K β}{t:Yq}{x:Y0}(ho:o.op=.load t x)(hk:PT T bl t (ρ x) kk=Yd r):Sound P o ρ bl kk r:=by
 unfold PT at hk;split at hk
 ·cases hk
 rename_i ti ht;obtain⟨i,d,z,f⟩:=hT.facts ht;cases h1:(ti.agg||Ym ti.size 1)with
 |false=>rw[h1]at hk;cases hk
 |true=>
  have BZ:ti.agg=Yo\/ti.size=1:=by
   rcases(Ik _ _).mp h1 with h|h
   ·exact .inl h
   ·exact .inr (At h)
  simp only[h1,Ao]at hk
  have AE:∀(a:Act)(w:Yx)(ad:Addr)(val:Yp),a.eval x=.pointer (Yd ad)->(Ybh t ad).run P w=.ok val w->(Y1 a.eval o).run P w=.ok (.value val) w:=by intro a w ad val ha hv;simp[Y1,ho,ha,Instr.loadAt,Yak,hv]
  split at hk
  ·
   rename_i b off hx;split at hk
   ·rename_i t0 cs hb
    split at hk
    ·rename_i rc AM
     refine Sound.pure hk λbl2 Aj ok0 base pl w a hr Ad=>?_;have Ay:bl2 b=Yd (.cells t0 cs):=(Aj b (by simp)).trans hb;have hv:=Ad x (by simp[ho,Yt]);rw[hx]at hv;obtain⟨g,hg,Bc⟩:=hv;obtain⟨p,hp,hB⟩:=hr.blks b _ Ay;have:p=.cells g:=by have h2:pl b=Yd (.cells g):=hg;rw[hp]at h2;injection h2
     subst this;obtain⟨vs,hh,Bn⟩:=hB;obtain⟨s1,s2,s3⟩:=LV Bn AM;obtain⟨val,El,FR⟩:=Qi f s2 BZ (λj u hj=>SB hh hj) s1;exact⟨val,AE a w _ val Bc El,FR⟩
    ·cases hk
   ·cases hk
  ·
   rename_i b ver ix off hx;split at hk
   ·rename_i t0 e ver' l hb
    cases AQ:Ym ver ver' with
    |false=>rw[AQ]at hk;cases hk
    |true=>
     have:=At AQ;subst this;simp only[AQ,Ao]at hk;split at hk
     ·rename_i rc AM
      refine Sound.pure hk λbl2 Aj ok0 base pl w a hr Ad=>?_;have Ay:bl2 b=Yd (.row t0 e ver l):=(Aj b (by simp)).trans hb;have hv:=Ad x (by simp[ho,Yt]);rw[hx]at hv;obtain⟨sv,Ab,ad,hg,Bc,AO⟩:=hv;obtain⟨hi,g,n,c,Au,rfl⟩:=(AO t0 e ver l Ay).2 rfl;obtain⟨p,hp,hB⟩:=hr.blks b _ Ay;have:p=.row sv Ab:=by have h2:pl b=Yd (.row sv Ab):=hg;rw[hp]at h2;injection h2
      subst this;obtain⟨_,xs,hd,Ah⟩:=hB;obtain⟨val,El,FR⟩:=Amy f BZ hd Ah hi Au AM;exact⟨val,AE a w _ val Bc El,FR⟩
     ·cases hk
   ·cases hk
  ·
   rename_i e x0 off hx;split at hk
   ·rename_i rc AM
    refine Sound.pure hk λbl2 Aj ok0 base pl w a hr Ad=>?_;have hv:=Ad x (by simp[ho,Yt]);rw[hx]at hv;obtain⟨xs,ad,hd,Bc,hc⟩:=hv;have Bn:=FW (E:=Ak ok0 base pl bl2 w) hd;obtain⟨s1,s2,s3⟩:=LV Bn AM
    obtain⟨val,El,FR⟩:=Qi f s2 BZ (λj u hj=>(hc j u (by
     rw[LH]at hj;split at hj
     ·exact hj
     ·cases hj)).2) s1
    exact⟨val,AE a w _ val Bc El,FR⟩
   ·cases hk
  ·
   rename_i b ver p ix off hx;split at hk
   ·rename_i q hq
    split at hk
    ·rename_i rc AM
     obtain⟨hb,AQ,hn⟩:=WG hq;subst AQ;refine Sound.pure hk λbl2 Aj ok0 base pl w a hr Ad=>?_;have Ay:=(Aj b (by simp)).trans hb;have hv:=Ad x (by simp[ho,Yt]);rw[hx]at hv;obtain⟨ad,val,Bc,El,FR⟩:=Amz f BZ (E:=Ak ok0 base pl bl2 w) hr.blksOk Ay hv hn AM;exact⟨val,AE a w _ val Bc El,FR⟩
    ·cases hk
   ·cases hk
  ·
   rename_i b off hx;split at hk
   ·rename_i t0 e m cs hb
    split at hk
    ·rename_i rc AM
     refine Sound.pure hk λbl2 Aj ok0 base pl w a hr Ad=>?_;have Ay:=(Aj b (by simp)).trans hb;have hv:=Ad x (by simp[ho,Yt]);rw[hx]at hv;obtain⟨sv,Ab,ad,hg,Bc,AO⟩:=hv;obtain⟨g,n,c,Au,rfl⟩:=AO t0 e m cs Ay;obtain⟨p,hp,hB⟩:=hr.blks b _ Ay;have:p=.row sv Ab:=by have h2:pl b=Yd (.row sv Ab):=hg;rw[hp]at h2;injection h2
     subst this;obtain⟨_,vs,Bn,Ah⟩:=hB;obtain⟨s1,s2,s3⟩:=LV Bn AM
     obtain⟨val,El,FR⟩:=Qi f s2 BZ (ad:=⟨g,off,Ye⟩) (λj u hj=>by
      rw[LH]at hj;split at hj
      ·rw[KZ]at hj
       have h3:=Ah.cells (g:=g) (by rw[Au];rfl) _ _ hj;rw[YD]at h3⊢;rw[CQ]at h3;exact h3
      ·cases hj) s1
     exact⟨val,AE a w _ val Bc El,FR⟩
    ·cases hk
   ·cases hk
  ·cases hk
theorem WJ(w:Yx)(g:Yk)(cs:YX Yp):w.grownBy (w.setRow g cs) (Yd g):=
 ⟨rfl,rfl,rfl,by simp,λk _ hk=>setRow_other w g k _ (λe=>hk (by rw[e]))⟩
theorem Aa3{P:Yv}{t:Yq}{ti:TI}{i:YI}{d:YC}{z:Yp}(f:TFacts P t ti i d z){w:Yx}{g off:Yk}{v:Yp}{vs:Ya Yp}{t0:Yq}(hh:w.heap[g]?=Yd (.cells vs.toArray t0 (0,0)))(hl:v.cells.toList.length=ti.size)(Bx:off+v.cells.toList.length<=vs.length)(h1:∀u∈v.cells.toList,u.oneCell'=Yo):(YaE t ⟨g,off,Ye⟩ v).run P w=.ok () (w.setRow g (vs.take off++v.cells.toList++vs.drop (off+v.cells.toList.length)).toArray):=by
 have AY:=run_storeCells_at P g off t0 v.cells.toList 0 vs.toArray w hh (by simpa using Bx) h1;have F8:v.cells.size=ti.size:=by simpa using hl
 simp only[YaE,YA,run_sizeOf f,Y5,F8,ne_eq,VZ,Cb];simpa using AY
theorem fN{P:Yv}{t:Yq}{ti:TI}{i:YI}{d:YC}{z:Yp}(f:TFacts P t ti i d z){w:Yx}{base:Yk}{t0:Yq}{size:Yk}{sv:Yp}{m:Yk}{xs:Ya Yp}(Ah:w.ownsRow base t0 size sv m xs){g o n c:Yk}(Au:sv=.slice (Yd ⟨g,0,Ye⟩) n c){v:Yp}(h1:∀u∈v.cells.toList,u.oneCell'=Yo)(hl:v.cells.toList.length=ti.size)(Bx:o+v.cells.toList.length<=xs.length):∃w',(YaE t ⟨g,o,Ye⟩ v).run P w=.ok () w'/\w.grownBy w' (Yd g)/\w'.ownsRow base t0 size sv m (xs.take o++v.cells.toList++xs.drop (o+v.cells.toList.length)):=by
 obtain⟨Cp,CH⟩:=Ah;rcases CH with⟨h0,_⟩|⟨g',cap,AI,Kk,BM,hh,BO,C4,UD,I4⟩
 ·rw[Au]at h0;cases h0
 have hh:w.heap[g']?=Yd (.cells AI t0 (0,0)):=hh
 have Fo:g'=g:=by rw[Au]at Kk;injection Kk with e1 e2 e3;injection e1 with e1;injection e1 with e1;exact e1.symm
 subst Fo
 have AO:AI.toList=xs++AI.toList.drop (m*size):=by rw[<-I4,NR]
 have wU:o+v.cells.toList.length<=AI.toList.length:=by rw[AO];simp only[Bd];omega
 have AY:=Aa3 f (v:=v) (vs:=AI.toList) (off:=o) (t0:=t0) (g:=g') (w:=w) (by simpa using hh) hl wU h1
 have I1:AI.toList.take o++v.cells.toList++AI.toList.drop (o+v.cells.toList.length)=xs.take o++v.cells.toList++xs.drop (o+v.cells.toList.length)++AI.toList.drop (m*size):=by
  have e1:AI.toList.take o=xs.take o:=by rw[AO,KY (by omega)]
  have e2:AI.toList.drop (o+v.cells.toList.length)=xs.drop (o+v.cells.toList.length)++AI.toList.drop (m*size):=by
   conv=>lhs;rw[AO]
   rw[RN Bx]
  rw[e1,e2];simp only[C1]
 have L5:(xs.take o++v.cells.toList++xs.drop (o+v.cells.toList.length)).length=xs.length:=by simp only[Bd,CJ,GN];omega
 refine⟨_,AY,WJ w g' _,by rw[L5];exact Cp,.inr ⟨g',cap,_,Kk,BM,setRow_heap w g' _ _ t0 _ hh,BO,C4,?_,?_⟩⟩
 ·have J1:AI.size=cap*size:=UD
  have:(AI.toList.take o++v.cells.toList++AI.toList.drop (o+v.cells.toList.length)).length=AI.toList.length:=by simp only[Bd,CJ,GN];omega
  rw[NU,this,FV];exact J1
 ·simp only[I1]
  rw[KY (by rw[L5,Cp];exact Aw _),GL (by rw[L5,Cp];exact Aw _)]
theorem AmA{P:Yv}{t:Yq}{ti:TI}{i:YI}{d:YC}{z:Yp}(f:TFacts P t ti i d z){E:Env}(ADd:Eg E){base:Yk}{t0:Yq}{e:Ty}{l:Ya e.den}{sv:Yp}{xs:Ya Yp}(hd:DList (λx u=>DRep E.w E.ok e x u) l xs)(Ah:E.w.ownsRow base t0 e.size sv l.length xs){ix off g n c:Yk}(hi:ix<l.length)(Au:sv=.slice (Yd ⟨g,0,Ye⟩) n c){new rc:Ya C}{v:Yp}(hy:CReps E new v.cells.toList)(N8:new.length=ti.size)(E3:over (cells e (l.getD ix e.dflt)) off new=Yd rc){x':e.den}(Vn:Kp (λ_=>Ye) e rc=Yd x'):∃w' CZ,(YaE t ⟨g,ix*e.size+off,Ye⟩ v).run P E.w=.ok () w'/\E.w.grownBy w' (Yd g)/\DList (λx u=>DRep E.w E.ok e x u) (l.set ix x') CZ/\w'.ownsRow base t0 e.size sv l.length CZ:=by
 obtain⟨u,p1,q1,V5,Cv,N4⟩:=DList.get e.dflt hd hi;have Bn:=FW (E:=E) N4;obtain⟨s1,s2⟩:=Of Bn hy E3;have wZ:=hy.length;have DR:=N4.length;have DH:=MT ADd (Rows.none _ _) s1 Vn;have AGD:=DH.length;obtain⟨p2,u2,q2,AlY,De,D6,E2⟩:=DList.set x' _ hd hi DH
 have cB:p1=p2/\u=u2/\q1=q2:=by rw[V5]at AlY;have h3:=Wg AlY (by omega);have h4:=Wg h3.2 (by omega);exact⟨h3.1,h4.1,h4.2⟩
 obtain⟨rfl,rfl,rfl⟩:=cB
 have ADN:ix*e.size+off+v.cells.toList.length<=xs.length:=by rw[V5];simp only[Bd];omega
 obtain⟨w',h1,h2,h3⟩:=fN f Ah (o:=ix*e.size+off) Au hy.oneCell (by omega) ADN;refine⟨w',_,h1,h2,E2,?_⟩
 have:p1++(u.take off++v.cells.toList++u.drop (off+v.cells.toList.length)++q1)=xs.take (ix*e.size+off)++v.cells.toList++xs.drop (ix*e.size+off+v.cells.toList.length):=by
  rw[V5]
  have e1:(p1++(u++q1)).take (ix*e.size+off)=p1++u.take off:=by rw[RV,GL (by omega),KY (by omega)];congr 2;omega
  have e2:(p1++(u++q1)).drop (ix*e.size+off+v.cells.toList.length)=u.drop (off+v.cells.toList.length)++q1:=by rw[RX,GM (by omega),DT,RN (by omega)];congr 2;omega
  rw[e1,e2];simp only[C1]
 rw[this];exact h3
theorem Qj{T:Yq->Yb TI}(hT:TOk P T){kk:K β}{t:Yq}{x y:Y0}(ho:o.op=.store t x y)(hk:MP T bl t (ρ x) (ρ y) kk=Yd r):Sound P o ρ bl kk r:=by
 unfold MP at hk;split at hk
 ·rename_i ti new ht I1
  obtain⟨i,d,z,f⟩:=hT.facts ht;cases AK:Ym new.length ti.size with
  |false=>rw[AK]at hk;cases hk
  |true=>
   have N8:=At AK;simp only[AK,Ao]at hk
   have AE:∀(a:Act)(w w':Yx)(ad:Addr),a.eval x=.pointer (Yd ad)->(YaE t ad (a.eval y)).run P w=.ok () w'->(Y1 a.eval o).run P w=.ok .skip w':=by intro a w w' ad ha hv;simp[Y1,ho,ha,Instr.storeAt,Yak,hv]
   split at hk
   ·rename_i b off hx
    split at hk
    ·rename_i t0 cs hb
     split at hk
     ·rename_i rc E3
      refine⟨_,_,_,hk,λbl2 Aj=>?_⟩;have Ay:bl2 b=Yd (.cells t0 cs):=(Aj b (by simp)).trans hb;intro ok0 base pl w a hr Ad K Q hK;have hv:=Ad x (by simp[ho,Yt]);rw[hx]at hv;obtain⟨g,hg,Bc⟩:=hv;obtain⟨p,hp,hB⟩:=hr.blks b _ Ay;have:p=.cells g:=by have h2:pl b=Yd (.cells g):=hg;rw[hp]at h2;injection h2
      subst this;obtain⟨vs,hh,Bn⟩:=hB;have hy:=VRep.cells_of I1 (Ad y (by simp[ho,Yt]));obtain⟨s1,s2⟩:=Of Bn hy E3;have wZ:=hy.length;have AY:=Aa3 f (v:=a.eval y) hh (by omega) s2 hy.oneCell;have DZ:=WJ w g (vs.take off++(a.eval y).cells.toList++vs.drop (off+(a.eval y).cells.toList.length)).toArray;have hs:=Step.wrote (cs':=rc) hr Ay hp DZ;refine MR (AE a w _ _ Bc AY) (hK undef (upd pl b (.cells g)) _ ?_ hs trivial);exact RelB.wrote hr Ay hp DZ ⟨_,setRow_heap w g _ _ t0 _ hh,s1.mono hs.ext⟩
     ·cases hk
    ·cases hk
   ·
    rename_i b off hx;split at hk
    ·rename_i t0 e m cs hb
     split at hk
     ·rename_i rc E3
      refine⟨_,_,_,hk,λbl2 Aj=>?_⟩;have Ay:bl2 b=Yd (.crow t0 e m cs):=(Aj b (by simp)).trans hb;intro ok0 base pl w a hr Ad K Q hK;have hv:=Ad x (by simp[ho,Yt]);rw[hx]at hv;obtain⟨sv,Ab,ad,hg,Bc,AO⟩:=hv;obtain⟨g,n,c,Au,rfl⟩:=AO t0 e m cs Ay;obtain⟨p,hp,hB⟩:=hr.blks b _ Ay;have:p=.row sv Ab:=by have h2:pl b=Yd (.row sv Ab):=hg;rw[hp]at h2;injection h2
      subst this;obtain⟨h0,vs,Bn,Ah⟩:=hB;subst h0;have hy:=VRep.cells_of I1 (Ad y (by simp[ho,Yt]));obtain⟨s1,s2⟩:=Of Bn hy E3;have wZ:=hy.length;obtain⟨w',AY,DZ,CH⟩:=fN f Ah (o:=off) Au hy.oneCell (by omega) s2;have An:sv.ownBlock=Yd g:=by rw[Au];rfl
      have H3:∀g',(Yd g:Yb Yk)=Yd g'->(Pl.row sv []).has g':=λg' h=>by injection h with h;subst h;exact .inl An
      have hs:=Step.grownP (B':=.crow t0 e m rc) hr Ay rfl hp DZ H3 (λg h=>.inl h) KeepR.ofCrow;refine MR (AE a w _ _ Bc AY) (hK undef (upd pl b (.row sv [])) _ ?_ hs trivial);exact RelB.grownP hr Ay rfl hp DZ H3 (λg h=>.inl h) KeepR.ofCrow ⟨rfl,_,s1.mono hs.ext,CH⟩
     ·cases hk
    ·cases hk
   ·rename_i b ver ix off hx
    split at hk
    ·rename_i t0 e ver' l hb
     cases AQ:Ym ver ver' with
     |false=>rw[AQ]at hk;cases hk
     |true=>
      have:=At AQ;subst this;simp only[AQ,Ao]at hk;split at hk
      ·rename_i rc E3
       split at hk
       ·rename_i x' Vn
        refine⟨_,_,_,hk,λbl2 Aj=>?_⟩;have Ay:bl2 b=Yd (.row t0 e ver l):=(Aj b (by simp)).trans hb;intro ok0 base pl w a hr Ad K Q hK;have hv:=Ad x (by simp[ho,Yt]);rw[hx]at hv;obtain⟨sv,Ab,ad,hg,Bc,AO⟩:=hv;obtain⟨hi,g,n,c,Au,rfl⟩:=(AO t0 e ver l Ay).2 rfl;obtain⟨p,hp,hB⟩:=hr.blks b _ Ay;have:p=.row sv Ab:=by have h2:pl b=Yd (.row sv Ab):=hg;rw[hp]at h2;injection h2
        subst this;obtain⟨h0,xs,hd,Ah⟩:=hB;subst h0;have hy:=VRep.cells_of I1 (Ad y (by simp[ho,Yt]));obtain⟨w',CZ,AY,DZ,E2,CH⟩:=AmA f (E:=Ak ok0 base pl bl2 w) hr.blksOk hd Ah hi Au hy N8 E3 Vn;have An:sv.ownBlock=Yd g:=by rw[Au];rfl
        have Ale:w.grownBy w' sv.ownBlock:=by rw[An];exact DZ
        have hs:=Step.grown (l':=l.set ix x') hr Ay hp Ale (.inl rfl) ⟨Aw _,λ_=>⟨rfl,by simp⟩⟩;have F5:=hs.ext (ok0:=ok0) (base:=base);refine MR (AE a w _ _ Bc AY) (hK undef (upd pl b (.row sv [])) _ ?_ hs trivial);exact RelB.grown hr Ay hp Ale (.inl rfl) ⟨Aw _,λ_=>⟨rfl,by simp⟩⟩ ⟨rfl,CZ,E2.mono λx u hu=>hu.mono F5.heap,by rw[RZ];exact CH⟩
       ·cases hk
      ·cases hk
    ·cases hk
   ·
    rename_i b ver p ix off hx;split at hk
    ·rename_i t0 e ver' Am l hb
     cases AQ:Ym ver (tv ver' Am p)with
     |false=>rw[AQ]at hk;cases hk
     |true=>
      have:=At AQ;subst this;simp only[AQ,Ao]at hk;split at hk
      ·rename_i n hn
       split at hk
       ·rename_i x' Pw
        refine⟨_,_,_,hk,λbl2 Aj=>?_⟩;have Ay:bl2 b=Yd (.tree t0 e ver' Am Ye l):=(Aj b (by simp)).trans hb;intro ok0 base pl w a hr Ad K Q hK;have hv:=Ad x (by simp[ho,Yt]);rw[hx]at hv;obtain⟨sv,Ab,n',s,g,m,c,Bk,hT,Dj,hs,hi,Au,Bc⟩:=zY (E:=Ak ok0 base pl bl2 w) hr.blksOk Ay hv;have:=LX Dj;rw[hn]at this;injection this with this;subst this;have hp:pl b=Yd (.row sv Ab):=Bk;have hy:=VRep.cells_of I1 (Ad y (by simp[ho,Yt]));have wZ:=hy.length;obtain⟨xs,Ah,Bx,FQ⟩:=hT.leaf hr.blksOk Dj hs hi Au hy Pw;have AEq:=Same.write Dj hi Pw;obtain⟨w',AY,DZ,CH⟩:=fN f Ah (o:=ix*n.1.2.ty.size+off) Au hy.oneCell (by omega) Bx;have An:s.ownBlock=Yd g:=by rw[Au];rfl
        have H3:∀g',Yd g=Yd g'->(Pl.row sv Ab).has g':=λg' h=>by
         injection h with h;subst h;rcases Bg.1 (CN hs)with h1|h1
         ·injection h1 with h1;exact .inl (h1▸An)
         ·obtain⟨j,hj⟩:=PD.1 h1;exact .inr ⟨j,s,hj,An⟩
        have Pe:KeepR (Yd (.tree t0 e ver' Am Ye l)) (Yd (.tree t0 e ver' Am Ye (setD (.r t0 e) l 0 p n.1.2 (n.2.set ix x')))) sv Ab sv Ab:=
         KeepR.ofTree ⟨Aw _,Aw _,λ_=>⟨rfl,KeepT.same AEq sv Ab⟩⟩
        have Kj:=Step.grownP hr Ay rfl hp DZ H3 (λg h=>.inl h) Pe;have F5:=Kj.ext (ok0:=ok0) (base:=base);refine MR (AE a w _ _ Bc AY) (hK undef (upd pl b (.row sv Ab)) _ ?_ Kj trivial);exact RelB.grownP hr Ay rfl hp DZ H3 (λg h=>.inl h) Pe (FQ _ F5 rfl (λg' h Az=>DZ.block g' (Own.lt hr ⟨b,_,_,Ay,rfl,hp,h⟩) (λh2=>Az (by injection h2))) CH)
       ·cases hk
      ·cases hk
    ·
     rename_i t0 e ver' Am PP l hb;cases AQ:Ym ver (tv ver' Am p)with
     |false=>rw[AQ]at hk;cases hk
     |true=>
      have:=At AQ;subst this;simp only[AQ,Ao]at hk;split at hk
      ·rename_i n rr m hn AEn
       split at hk
       ·rename_i Cc
        obtain⟨AEc,hk⟩:=Dc hk;have:=Aa2 AEc;subst this;refine⟨_,_,_,hk,λbl2 Aj=>?_⟩;have Ay:bl2 b=Yd (.tree t0 e ver' Am (Yd (p++[(ix,off)])) l):=(Aj b (by simp)).trans hb;intro ok0 base pl w a hr Ad K Q hK;have hv:=Ad x (by simp[ho,Yt]);rw[hx]at hv;obtain⟨sv,Ab,ad,hg,Bc,AO⟩:=hv
        obtain⟨n0,s,J7,hs,hi,g,m0,c,Au,rfl⟩:=(AO _ _ _ _ _ _ Ay).2 rfl (λq hq J8=>by injection hq with hq;subst hq;have:=J8.length_le;simp only[Bd,List.length_singleton]at this;omega)
        obtain⟨q,hp,hB⟩:=hr.blks b _ Ay;have:q=.row sv Ab:=by have h2:pl b=Yd (.row sv Ab):=hg;rw[hp]at h2;injection h2
        subst this;have AlV:=Ad y (by simp[ho,Yt]);obtain⟨svr,Fr,Br,N2,ADK,AE0,R5,hu,AlH,NE⟩:=fM (E:=Ak ok0 base pl bl2 w) hr.blksOk AEn (Aj rr (by simp)) AlV;have N2:bl2 rr=Yd Br:=N2;have R5:pl rr=Yd (.row (a.eval y) svr):=R5;have Ib:Br.live=Yo:=by cases Br<;>first|rfl|exact Yw rfl ADK
        have xJ:rr≠b:=by rintro rfl;rw[Ay]at N2;injection N2 with N2;exact AE0 _ _ _ _ _ _ N2.symm
        have AlF:∀g',(Pl.row sv Ab).has g'->Cu pl bl2 b g':=λg' h=>⟨_,_,Ay,rfl,hp,h⟩;have AEa:∀s'∈a.eval y::Fr,∀g',s'.ownBlock=Yd g'->Cu pl bl2 rr g':=λs' B3 g' h=>⟨_,_,N2,Ib,R5,Og AlH B3 h⟩;have hsep:∀s'∈a.eval y::Fr,∀g',s'.ownBlock=Yd g'->¬(Pl.row sv Ab).has g':=λs' B3 g' h h2=>hr.sep rr b _ _ _ _ g' xJ N2 Ay Ib rfl R5 hp (Og AlH B3 h) h2;have H0:∀g',(Pl.row sv Ab).has g'->¬(Ak ok0 base pl bl2 w).ok g':=λg' h h2=>h2.2 ⟨b,_,_,Ay,rfl,hp,h⟩;obtain⟨⟨old,DN⟩,GE,Bf,ADy,FQ⟩:=TreeOk.put (E:=Ak ok0 base pl bl2 w) hB J7 hs hi Au H0 hn Cc hu NE hsep;have Eu:(a.eval y).oneCell'=Yo:=(hu (a.eval y)).oneCell _ (by simp)
        have wD:(a.eval y).cells=#[a.eval y]:=by obtain⟨_,_,_,z1,_,z3,_⟩:=hu (a.eval y);have z1:=(Lb z1).1;rw[z1];rcases z3.2 with⟨h,_⟩|⟨g,cap,AI,h,_⟩<;>rw[h]<;>rfl
        have AY:(YaE t ⟨g,ix*n0.1.2.ty.size+off,Ye⟩ (a.eval y)).run P w=.ok () (w.setCell ⟨g,ix*n0.1.2.ty.size+off,Ye⟩ (a.eval y)):=by
         have DF:new.length=1:=by have:=(VRep.cells_of I1 AlV).length;rw[wD]at this;simpa using this.symm
         have DN:w.cell? ⟨g,ix*n0.1.2.ty.size+off,Ye⟩=Yd old:=DN;have GE:w.frozen? ⟨g,ix*n0.1.2.ty.size+off,Ye⟩=Yc:=GE;have B4:(a.eval y).cells.size=ti.size:=by rw[wD];simp;omega
         simp only[YaE,YA,run_sizeOf f,Y5,B4,ne_eq,VZ,Cb];rw[wD];have vV:(⟨g,ix*n0.1.2.ty.size+off,Ye⟩:Addr).add 0=⟨g,ix*n0.1.2.ty.size+off,Ye⟩:=by simp[Ya3]
         simp only[YaK,YA,vV,run_store P w _ _ _ Eu,DN,GE,G3,Cb,Y5];rfl
        have An:s.ownBlock=Yd g:=by rw[Au];rfl
        have ADz:(Pl.row sv Ab).has g:=by
         rcases Bg.1 (CN hs)with h1|h1
         ·injection h1 with h1;exact .inl (h1▸An)
         ·obtain⟨j,hj⟩:=PD.1 h1;exact .inr ⟨j,s,hj,An⟩
        have DZ:w.grownBy (w.setCell ⟨g,ix*n0.1.2.ty.size+off,Ye⟩ (a.eval y)) (Yd g):=
         ⟨rfl,rfl,rfl,by simp[World.setCell],λk _ hk=>heap_setCell_other w _ k _ (λe=>hk (by rw[e]))⟩
        have FQ:=λ(E':Env)(h1:E'.w=w.setCell ⟨g,ix*n0.1.2.ty.size+off,Ye⟩ (a.eval y))=>FQ E' h1;generalize w.setCell ⟨g,ix*n0.1.2.ty.size+off,Ye⟩ (a.eval y)=w' at*
        have AlA:∀g',(Pl.row sv Bf).has g'->Cu pl bl2 rr g'\/Cu pl bl2 b g'\/w.heap.size<=g':=λg' h=>by
         rcases ADy g' h with h|⟨s',B3,h⟩
         ·exact .inr (.inl (AlF g' h))
         ·exact .inl (AEa s' B3 g' h)
        have H3:∀g',Yd g=Yd g'->Cu pl bl2 rr g'\/Cu pl bl2 b g':=λg' h=>by injection h with h;subst h;exact .inr (AlF _ ADz)
        have DG:Step pl bl2 w (upd (upd pl rr (.row (a.eval y) [])) b (.row sv Bf)) (upd (upd bl2 rr .dead) b (.tree t0 e ver' (Am+1) Ye (setD (.r t0 e) l 0 (p++[(ix,off)]) m.1.2 m.2))) w':=by
         refine Step.two hr xJ DZ H3 (λg' h=>by cases h) (λg' _ h=>AlA g' h) (λg' h=>by rw[R5]at h;cases h) (λg' h=>by rw[hp]at h;cases h) (λsv0 VL h=>?_) (λsv0 VL h=>?_)
         ·rw[R5]at h
          injection h with h;injection h with h h2;subst h h2;exact⟨_,_,rfl,KeepR.ofDead⟩
         ·rw[hp]at h
          injection h with h;injection h with h h2;subst h h2;refine⟨_,_,rfl,?_⟩;rw[Ay];refine KeepR.ofTree ⟨Aw _,by omega,λ_=>⟨rfl,λq hq ho=>?_⟩⟩;rcases hq with rfl|hq
          ·refine⟨λQ hQ J8=>?_,λn2 Cz=>?_⟩
           ·injection hQ with hQ
            subst hQ;have:=List.prefix_nil.1 J8;simp at this
           ·simp only[BC,Af]at Cz
            subst Cz;refine⟨⟨(t0,e),setD (.r t0 e) l 0 (p++[(ix,off)]) m.1.2 m.2⟩,rfl,rfl,?_,λs hs=>hs⟩;cases p<;>simp[setD]
          ·omega
        have F5:=DG.ext (ok0:=ok0) (base:=base);refine MR (AE a w _ _ Bc AY) (hK undef (upd (upd pl rr (.row (a.eval y) [])) b (.row sv Bf)) _ ?_ DG trivial);refine RelB.two hr xJ DZ H3 (λg' h=>by cases h) (λg' _ h=>AlA g' h) (λg' h=>by cases h) DG trivial (FQ _ rfl rfl λg' h Ae=>(F5.heap g' h Ae).1)
       ·cases hk
      ·cases hk
    ·cases hk
   ·cases hk
 ·cases hk
end
end Go.Lift
namespace Go.Lift
open Go.RowKit
theorem Dp{a b:Yk}(h:Yz a b=Yo):a<b:=by have:=IC h;omega
section
variable{P:Yv}{o:Oper}{ρ:Y0->V}{bl:Yk->Yb Blk}{β:Type}{r:β}
theorem fO{β:Type}{i:Yi}{kk:Yk->Yb β}{r:β}:∀{m j:Yk},PU i kk j m=Yd r->∃q,j<=q/\i=(q:Yi)/\kk q=Yd r/\q<j+m
 |0,j,h=>by simp[PU]at h
 |m+1,j,h=>by
  simp only[PU]at h;cases hd:Yf (i=(j:Yi))with
  |true=>rw[hd]at h;exact⟨j,Aw _,AC hd,h,by omega⟩
  |false=>rw[hd]at h;obtain⟨q,h1,h2,h3,h4⟩:=fO (m:=m) h;exact⟨q,by omega,h2,h3,by omega⟩
theorem Oh{x:V}{k:YP}{n:Yi}(h:ival x=Yd (k,n)):x=.c (.int k n):=by
 unfold ival at h;split at h
 ·simp only[Af,Bv]at h
  rw[h.1,h.2]
 ·cases h
theorem Aa4{t:Yq}{ti:TI}{i:YI}{d:YC}{z:Yp}(f:TFacts P t ti i d z){k off n:Yk}{g:Ys}(h:ti.flds[k]?=Yd (off,n,g)):∃fs fd j e,d=.struct fs/\fs[k]?=Yd fd/\fd.offset=off/\P.info? fd.type=Yd j/\j.size=n/\P.underlying fd.type=Yd e/\Jm P fd.type=g:=by
 rw[f.flds]at h;unfold W0 at h;split at h
 ·rename_i fs
  rw[FJ]at h;cases hk:fs.toList[k]? with
  |none=>rw[hk]at h;cases h
  |some fd=>rw[hk]at h;simp only[Ft,Af,Bv]at h;have Co:fd∈fs.toList:=CN hk;have DP:=f.known;simp only[Qg,NW]at DP;have h1:=DP fd Co;simp only[CO,dA]at h1;obtain⟨⟨j,hj⟩,⟨e,he⟩⟩:=h1;refine⟨fs,fd,j,e,rfl,by simpa using hk,h.1,hj,?_,he,h.2.2⟩;rw[<-h.2.1];simp[YaG,hj]
 ·simp at h
theorem AmB{fd:Field}{j:YI}(hj:P.info? fd.type=Yd j)(hs:j.size≠0)(a:Addr)(w:Yx):(fieldPlace a fd).run P w=.ok (a.add fd.offset) w:=by simp[fieldPlace,Yac,YT,hj,hs]
theorem AmC{T:Yq->Yb TI}(hT:TOk P T){kk:K β}{t:Yq}{x:Y0}{fi:Yk}(ho:o.op=.fieldAddr t x fi)(hk:eA T t (ρ x) fi kk=Yd r):Sound P o ρ bl kk r:=by
 unfold eA at hk;split at hk
 ·cases hk
 rename_i ti ht;obtain⟨i,d,z,f⟩:=hT.facts ht;split at hk
 ·cases hk
 rename_i off n g hf;obtain⟨fs,fd,j,e,rfl,bO,rfl,hj,Pf,he,hg⟩:=Aa4 f hf;cases hn:Ym n 0 with
 |true=>rw[hn]at hk;cases hk
 |false=>
  simp only[hn,BU]at hk;have hs:j.size≠0:=by rw[Pf];rintro rfl;cases hn
  have AE:∀(a:Act)(w:Yx)(ad:Addr),a.eval x=.pointer (Yd ad)->(Y1 a.eval o).run P w=.ok (.value (.pointer (Yd (ad.add fd.offset)))) w:=by intro a w ad ha;simp[Y1,ho,ha,Instr.fieldAt,Yu f.under,bO,Yak,AmB hj hs]
  split at hk
  ·rename_i b of hx
   refine Sound.pure hk λbl2 _ ok0 base pl w a hr Ad=>?_;have hv:=Ad x (by simp[ho,Yt]);rw[hx]at hv;obtain⟨g',BB,Bc⟩:=hv;refine⟨_,AE a w _ Bc,g',BB,?_⟩;rw[YD]
  ·rename_i b ver ix of hx
   refine Sound.pure hk λbl2 _ ok0 base pl w a hr Ad=>?_;have hv:=Ad x (by simp[ho,Yt]);rw[hx]at hv;obtain⟨sv,Ab,ad,BB,Bc,AO⟩:=hv;refine⟨_,AE a w _ Bc,sv,Ab,_,BB,rfl,λt1 e1 CM l1 AV=>?_⟩;obtain⟨h1,h2⟩:=AO t1 e1 CM l1 AV;refine⟨h1,λhe=>?_⟩;obtain⟨h3,g',n',c',h4,rfl⟩:=h2 he;exact⟨h3,g',n',c',h4,by rw[YD,Sd]⟩
  ·rename_i e' x0 of hx
   refine Sound.pure hk λbl2 _ ok0 base pl w a hr Ad=>?_;have hv:=Ad x (by simp[ho,Yt]);rw[hx]at hv;obtain⟨xs,ad,hd,Bc,hc⟩:=hv;refine⟨_,AE a w _ Bc,xs,_,hd,rfl,λj' u Ha=>?_⟩;rw[ML,MM]
   have h2:(xs.drop of)[fd.offset+j']?=Yd u:=by rw[KZ]at Ha⊢;rw[<-Ha];congr 1;omega
   obtain⟨h3,h4⟩:=hc _ u h2;exact⟨h3,h4⟩
  ·rename_i b ver p ix of hx
   refine Sound.pure hk λbl2 _ ok0 base pl w a hr Ad=>?_;have hv:=Ad x (by simp[ho,Yt]);rw[hx]at hv;obtain⟨sv,Ab,ad,BB,Bc,AO⟩:=hv;refine⟨_,AE a w _ Bc,sv,Ab,_,BB,rfl,λt1 e1 CM H9 h1 l1 AV=>?_⟩;obtain⟨h1,h2⟩:=AO t1 e1 CM H9 h1 l1 AV;refine⟨h1,λhe ho=>?_⟩;obtain⟨n',s,h3,h4,h5,g',m',c',h6,rfl⟩:=h2 he ho;exact⟨n',s,h3,h4,h5,g',m',c',h6,by rw[YD,Sd]⟩
  ·rename_i b of hx
   refine Sound.pure hk λbl2 _ ok0 base pl w a hr Ad=>?_;have hv:=Ad x (by simp[ho,Yt]);rw[hx]at hv;obtain⟨sv,Ab,ad,BB,Bc,AO⟩:=hv;refine⟨_,AE a w _ Bc,sv,Ab,_,BB,rfl,λt1 e1 n1 cs1 AV=>?_⟩;obtain⟨g',n',c',h4,rfl⟩:=AO t1 e1 n1 cs1 AV;exact⟨g',n',c',h4,by rw[YD]⟩
  ·cases hk
theorem Qk{t:Yq}{ti:TI}{i:YI}{d:YC}{z:Yp}(f:TFacts P t ti i d z){e:Yq}{te:TI}{i':YI}{d':YC}{z':Yp}(fe:TFacts P e te i' d' z')(hd:d=.slice e){k:YP}{ix:Yi}{ad:Addr}{n c:Yk}(h0:0<=ix)(h1:ix<(n:Yi))(w:Yx):(Yaw t (.slice (Yd ad) n c) (.int k ix)).run P w=.ok (.pointer (Yd (ad.add (ix.toNat*te.size)))) w:=by
 subst hd;have h:=f.under;simp[Yaw,YaO,Yu f.under,h0,h1,run_sizeOf fe]
theorem GR{t:Yq}{ti:TI}{i:YI}{d:YC}{z:Yp}(f:TFacts P t ti i d z){e:Yq}(h:ti.elem=Yd e)(hl:ti.len=Ye):d=.slice e:=by rw[f.elem]at h;rw[f.alen]at hl;cases d<;>simp_all [W6,lenD]
theorem fP{t:Yq}{ti:TI}{i:YI}{d:YC}{z:Yp}(f:TFacts P t ti i d z){e:Yq}{n:Yk}(h:ti.elem=Yd e)(hl:ti.len=Yd n):d=.array n e:=by rw[f.elem]at h;rw[f.alen]at hl;cases d<;>simp_all [W6,lenD]
theorem AmD{w:Yx}{ok:Yk->Prop}{e:Ty}{l:Ya e.den}{v:Yp}(h:DRep w ok (.slice e) l [v]){i:Yk}(hi:i<l.length)(hs:0<e.size):∃ad c u,v=.slice (Yd ad) l.length c/\DRep w ok e (l.getD i e.dflt) u/\∀j x,u[j]?=Yd x->ok ad.block/\w.cell? (ad.add (i*e.size+j))=Yd x:=by
 simp only[DRep]at h;obtain⟨A,c,xs,hv,Bx,C4,hd,hx⟩:=h;obtain⟨u,p,q,Ad,hp,hu⟩:=DList.get e.dflt hd hi;have DR:=hu.length;have Hd:0<u.length:=by omega
 have h0:xs[i*e.size]?=Yd u[0]:=by rw[Ad,ES (by omega),G0 (by omega)];simp[hp]
 obtain⟨ad,rfl,_,_⟩:=hx _ _ h0;simp only[CK,Ef]at hv;refine⟨ad,c,u,hv,hu,λj x hj=>?_⟩;have N7:j<u.length:=(Do.1 hj).1
 have h1:xs[i*e.size+j]?=Yd x:=by rw[Ad,ES (by omega),G0 (by omega),<-hj];congr 1;omega
 obtain⟨bH,ha,ho,hc⟩:=hx _ _ h1;injection ha with ha;subst ha;exact⟨ho,hc⟩
theorem AmE{T:Yq->Yb TI}(hT:TOk P T){kk:K β}{t:Yq}{x y:Y0}(ho:o.op=.indexAddr t x y)(hk:eB T bl t (ρ x) (ρ y) kk=Yd r):Sound P o ρ bl kk r:=by
 unfold eB at hk;split at hk
 ·cases hk
 rename_i k ix UZ;have hy:=Oh UZ
 have Jf:∀(a:Act)(E:Env),VRep E (ρ y) (a.eval y)->a.eval y=.int k ix:=by intro a E h;rw[hy]at h;exact h
 have AE:∀(a:Act)(w:Yx),Y1 a.eval o=(do pure (.value (<-Yaw t (a.eval x) (a.eval y)))):=by intro a w;simp[Y1,ho]
 split at hk
 ·cases hk
 rename_i ti ht;obtain⟨i,d,z,f⟩:=hT.facts ht;split at hk
 ·
  rename_i et Cs Cr;have hd:=GR f Cs Cr;split at hk
  ·cases hk
  rename_i te BR;obtain⟨i',d',z',fe⟩:=hT.facts BR;split at hk
  ·rename_i e l hx
   cases hs:(Ym e.size te.size&&Yz 0 te.size)with
   |false=>rw[hs]at hk;cases hk
   |true=>
    obtain⟨Bt,AP⟩:=andB hs;have KQ:=At Bt;have cE:0<te.size:=Dp AP;simp only[hs,Ao]at hk;obtain⟨hc,hk⟩:=Dc hk;obtain⟨CA,BG⟩:=andB hc;have CA:=AC CA;have BG:=AC BG;refine Sound.pure hk λbl2 _ ok0 base pl w a hr Ad=>?_;have hv:=Ad x (by simp[ho,Yt]);have I5:=Jf a _ (Ad y (by simp[ho,Yt]));rw[hx]at hv;obtain⟨ad,c,u,Bc,hu,DN⟩:=AmD hv (i:=ix.toNat) (by omega) (by omega);refine⟨.pointer (Yd (ad.add (ix.toNat*te.size))),?_,u,_,hu,rfl,λj x hj=>?_⟩
    ·rw[AE a w,I5,Bc]
     simp[Qk f fe hd CA BG]
    ·rw[ML,MM,<-KQ]
     exact DN j x (by simpa using hj)
  ·rename_i b ver hx
   split at hk
   ·rename_i t0 e ver' l hb
    cases hs:(Ym ver ver'&&(Ym e.size te.size&&Yz 0 te.size))with
    |false=>rw[hs]at hk;cases hk
    |true=>
     obtain⟨AQ,M6⟩:=andB hs;obtain⟨Bt,AP⟩:=andB M6;have KQ:=At Bt;have cE:0<te.size:=Dp AP;have:=At AQ;subst this;simp only[hs,Ao]at hk;obtain⟨hc,hk⟩:=Dc hk;obtain⟨CA,BG⟩:=andB hc;have CA:=AC CA;have BG:=AC BG;refine Sound.pure hk λbl2 Aj ok0 base pl w a hr Ad=>?_;have Ay:bl2 b=Yd (.row t0 e ver l):=(Aj b (by simp)).trans hb;have hv:=Ad x (by simp[ho,Yt]);have I5:=Jf a _ (Ad y (by simp[ho,Yt]));rw[hx]at hv;obtain⟨_,sv,Ab,hg,AO⟩:=hv;have Bc:=(AO t0 e ver l Ay).2 rfl;obtain⟨p,hp,hB⟩:=hr.blks b _ Ay;have:p=.row sv Ab:=by have h2:pl b=Yd (.row sv Ab):=hg;rw[hp]at h2;injection h2
     subst this;obtain⟨h0,xs,BX,Ah⟩:=hB;rcases Ah.2 with⟨Au,hn⟩|⟨g,cap,AI,Au,_⟩
     ·omega
     ·refine⟨.pointer (Yd ((⟨g,0,Ye⟩:Addr).add (ix.toNat*te.size))),?_,sv,Ab,_,hg,rfl,λt1 e1 CM l1 AV=>?_⟩
      ·rw[AE a w,I5,Bc,Au]
       simp[Qk f fe hd CA BG]
      ·obtain⟨h1,h2⟩:=AO t1 e1 CM l1 AV
       refine⟨h1,λhe=>?_⟩;have BW:bl2 b=Yd (.row t1 e1 CM l1):=AV;rw[Ay]at BW;injection BW with BW;injection BW with q1 q2 q3 q4;subst q2;simp only[Jj]at q4;subst q4;refine⟨by omega,g,_,_,Au,?_⟩;rw[YD,KQ];simp
   ·cases hk
  ·
   rename_i b ver lo hi hx;split at hk
   ·rename_i t0 e ver' l hb
    cases hs:(Ym ver ver'&&(Ym e.size te.size&&Yz 0 te.size))with
    |false=>rw[hs]at hk;cases hk
    |true=>
     obtain⟨AQ,M6⟩:=andB hs;obtain⟨Bt,AP⟩:=andB M6;have KQ:=At Bt;have cE:0<te.size:=Dp AP;have:=At AQ;subst this;simp only[hs,Ao]at hk;obtain⟨hc,hk⟩:=Dc hk;obtain⟨CA,BG⟩:=andB hc;have CA:=AC CA;have BG:=AC BG;refine Sound.pure hk λbl2 Aj ok0 base pl w a hr Ad=>?_;have Ay:bl2 b=Yd (.row t0 e ver l):=(Aj b (by simp)).trans hb;have hv:=Ad x (by simp[ho,Yt]);have I5:=Jf a _ (Ad y (by simp[ho,Yt]));rw[hx]at hv;obtain⟨_,sv,Ab,hg,AO⟩:=hv;obtain⟨q1,q2,A,A',n,c,Au,Bc,hA,_⟩:=(AO t0 e ver l Ay).2 rfl;obtain⟨p,hp,hB⟩:=hr.blks b _ Ay;have:p=.row sv Ab:=by have h2:pl b=Yd (.row sv Ab):=hg;rw[hp]at h2;injection h2
     subst this;obtain⟨h0,xs,BX,Ah⟩:=hB;have Ae:lo<hi:=by omega
     have hA:=hA Ae;rcases Ah.2 with⟨Dk,hn⟩|⟨g,cap,AI,Dk,_⟩
     ·omega
     ·have hAg:A=Yd ⟨g,0,Ye⟩:=by rw[Au]at Dk;injection Dk
      subst hAg;have hA:A'=Yd ((⟨g,0,Ye⟩:Addr).add (lo*e.size)):=hA;subst hA;refine⟨.pointer (Yd (((⟨g,0,Ye⟩:Addr).add (lo*e.size)).add (ix.toNat*te.size))),?_,sv,Ab,_,hg,rfl,λt1 e1 CM l1 AV=>?_⟩
      ·rw[AE a w,I5,Bc]
       simp[Qk f fe hd CA BG]
      ·obtain⟨h1,_⟩:=AO t1 e1 CM l1 AV
       refine⟨h1,λhe=>?_⟩;have BW:bl2 b=Yd (.row t1 e1 CM l1):=AV;rw[Ay]at BW;injection BW with BW;injection BW with q1 q2 q3 q4;subst q2;simp only[Jj]at q4;subst q4;refine⟨by omega,g,_,_,Au,?_⟩;rw[MM,YD,<-KQ,NY];simp
   ·cases hk
  ·
   rename_i b ver p hx;split at hk
   ·rename_i q hq
    obtain⟨hb,AQ,hn⟩:=WG hq;subst AQ;cases hs:(Ym q.2.2.2.2.1.2.ty.size te.size&&Yz 0 te.size)with
    |false=>rw[hs]at hk;cases hk
    |true=>
     obtain⟨Bt,AP⟩:=andB hs;have KQ:=At Bt;have cE:0<te.size:=Dp AP;simp only[hs,Ao]at hk;obtain⟨hc,hk⟩:=Dc hk;obtain⟨CA,BG⟩:=andB hc;have CA:=AC CA;have BG:=AC BG;refine Sound.pure hk λbl2 Aj ok0 base pl w a hr Ad=>?_;have Ay:=(Aj b (by simp)).trans hb;have hv:=Ad x (by simp[ho,Yt]);have I5:=Jf a _ (Ad y (by simp[ho,Yt]));rw[hx]at hv;obtain⟨sv,Ab,n',Bk,hT',Dj,I3⟩:=fJ (E:=Ak ok0 base pl bl2 w) hr.blksOk Ay hv;have:=LX Dj;rw[hn]at this;injection this with this;subst this;obtain⟨s',Fn,G1,G2,_,_,_,h4,h5,_,_⟩:=hT'.node Dj;rw[I3]at h4;injection h4 with h4;injection h4 with h4;subst h4;obtain⟨s',xs,F',e1,_,Ah,_⟩:=h5;have e1:=(Lb e1).1;subst e1;rcases Ah.2 with⟨Au,J7⟩|⟨g,cap,AI,Au,_⟩
     ·have:q.2.2.2.2.2.length=0:=J7
      omega
     ·refine⟨.pointer (Yd ((⟨g,0,Ye⟩:Addr).add (ix.toNat*te.size))),?_,sv,Ab,_,Bk,rfl,λt1 e1 CM H9 Ep l1 AV=>?_⟩
      ·have w8:ix<(q.2.2.2.2.2.length:Yi):=BG
       rw[AE a w,I5,Au];simp[Qk f fe hd CA w8]
      ·have BW:bl2 b=Yd (.tree t1 e1 CM H9 Ep l1):=AV
       rw[Ay]at BW;injection BW with BW;injection BW with q1 q2 q3 q4 q5 q6;subst q1 q2 q3 q4 q5;simp only[Jj]at q6;subst q6;refine⟨Aw _,λ_ _=>⟨_,_,Dj,I3,?_,g,_,_,Au,?_⟩⟩
       ·have:(ix.toNat:Yi)<(q.2.2.2.2.2.length:Yi):=by omega
        exact_mod_cast this
       ·rw[YD,KQ]
        simp
   ·unfold zJ at hk
    split at hk
    ·rename_i t0 e0 ver' By p0 q0 l0 hb _
     cases hs:(Ym ver ver'&&(Ym e0.ty.size te.size&&Yz 0 te.size))with
     |false=>rw[hs]at hk;cases hk
     |true=>
      obtain⟨AlP,hs⟩:=andB hs;obtain⟨Bt,AP⟩:=andB hs;have:=At AlP;subst this;have KQ:=At Bt;have cE:0<te.size:=Dp AP;rw[show(Ym ver ver&&(Ym e0.ty.size te.size&&Yz 0 te.size))=Yo by rw[AlP,Bt,AP];rfl,Ao]at hk;obtain⟨hc,hk⟩:=Dc hk;obtain⟨CA,BG⟩:=andB hc;have CA:=AC CA;have BG:=AC BG;refine Sound.pure hk λbl2 Aj ok0 base pl w a hr Ad=>?_;have Ay:=(Aj b (by simp)).trans hb;have hv:=Ad x (by simp[ho,Yt]);have I5:=Jf a _ (Ad y (by simp[ho,Yt]));rw[hx]at hv;obtain⟨_,sv,Ab,Bk,AO⟩:=hv
      have xE:Sm (Yd (p0::q0)) []:=λq hq J8=>by injection hq with hq;subst hq;simp at J8
      obtain⟨n,hn,I3⟩:=(AO _ _ _ _ _ _ Ay).2 rfl xE;have hn:Yd (⟨(t0,e0),l0⟩:EF)=Yd n:=hn;injection hn with hn;subst hn;have I3:sv=a.eval x:=by simpa [nix]using I3
      obtain⟨p,hp,hB⟩:=hr.blks b _ Ay;have Pt:pl b=Yd (.row sv Ab):=Bk;rw[hp]at Pt;injection Pt with Pt;subst Pt;have hT:TreeOk (Ak ok0 base pl bl2 w) t0 e0 (Yd (p0::q0)) l0 sv Ab:=hB;obtain⟨NI,F,h1,_,_⟩:=hT.rep;obtain⟨i0,k0⟩:=p0;obtain⟨_,s',xs,F',e1,_,Ah,_⟩:=h1;have e1:=(Lb e1).1;subst e1;rcases Ah.2 with⟨Au,J7⟩|⟨g,cap,AI,Au,_⟩
      ·have:l0.length=0:=J7
       omega
      ·refine⟨.pointer (Yd ((⟨g,0,Ye⟩:Addr).add (ix.toNat*te.size))),?_,sv,Ab,_,hp,rfl,λt1 e1 CM H9 Ep l1 AV=>?_⟩
       ·have w8:ix<(l0.length:Yi):=BG
        rw[AE a w,I5,<-I3,Au];simp[Qk f fe hd CA w8]
       ·have BW:bl2 b=Yd (.tree t1 e1 CM H9 Ep l1):=AV
        rw[Ay]at BW;injection BW with BW;injection BW with q1 q2 q3 q4 q5 q6;subst q1 q2 q3 q4 q5;simp only[Jj]at q6;subst q6;refine⟨Aw _,λ_ _=>⟨⟨(t0,e0),l0⟩,sv,rfl,rfl,?_,g,_,_,Au,?_⟩⟩
        ·have:(ix.toNat:Yi)<(l0.length:Yi):=by omega
         exact_mod_cast this
        ·rw[YD,KQ]
         simp
    ·cases hk
  ·
   rename_i b hx;split at hk
   ·rename_i t0 e m cs hb
    cases hs:(Ym e.size te.size&&Yz 0 te.size)with
    |false=>rw[hs]at hk;cases hk
    |true=>
     obtain⟨Bt,AP⟩:=andB hs;have KQ:=At Bt;simp only[hs,Ao]at hk;obtain⟨hc,hk⟩:=Dc hk;obtain⟨CA,BG⟩:=andB hc;have CA:=AC CA;have BG:=AC BG;refine Sound.pure hk λbl2 Aj ok0 base pl w a hr Ad=>?_;have Ay:=(Aj b (by simp)).trans hb;have hv:=Ad x (by simp[ho,Yt]);have I5:=Jf a _ (Ad y (by simp[ho,Yt]));rw[hx]at hv;obtain⟨_,sv,Ab,hg,AO⟩:=hv;have Bc:=AO t0 e m cs Ay;obtain⟨p,hp,hB⟩:=hr.blks b _ Ay;have:p=.row sv Ab:=by have h2:pl b=Yd (.row sv Ab):=hg;rw[hp]at h2;injection h2
     subst this;obtain⟨_,vs,_,Ah⟩:=hB;rcases Ah.2 with⟨Au,hn⟩|⟨g,cap,AI,Au,_⟩
     ·omega
     ·refine⟨.pointer (Yd ((⟨g,0,Ye⟩:Addr).add (ix.toNat*te.size))),?_,sv,Ab,_,hg,rfl,λt1 e1 n1 cs1 AV=>⟨g,_,_,Au,?_⟩⟩
      ·rw[AE a w,I5,Bc,Au]
       simp[Qk f fe hd CA BG]
      ·rw[YD,KQ]
       simp
   ·cases hk
  ·cases hk
 ·
  rename_i et n Cs Cr;have hd:=fP f Cs Cr;subst hd;split at hk
  ·rename_i b off hx
   split at hk
   ·rename_i te BR
    obtain⟨i',d',z',fe⟩:=hT.facts BR;obtain⟨j,wP,hj,hk,ADE⟩:=fO hk;have B3:j<n:=by omega
    refine Sound.pure hk λbl2 Aj ok0 base pl w a hr Ad=>?_;have hv:=Ad x (by simp[ho,Yt]);have I5:=Jf a _ (Ad y (by simp[ho,Yt]));rw[hx]at hv;obtain⟨g,hg,Bc⟩:=hv;refine⟨.pointer (Yd ((⟨g,off,Ye⟩:Addr).add (j*te.size))),?_,g,hg,by rw[YD]⟩;rw[AE a w,I5,Bc,hj];simp[Yaw,YaO,Yu f.under,Yak,B3,run_sizeOf fe]
   ·cases hk
  ·rename_i b ver q off hx
   split at hk
   ·rename_i te BR
    obtain⟨i',d',z',fe⟩:=hT.facts BR;obtain⟨j,wP,hj,hk,ADE⟩:=fO hk;have B3:j<n:=by omega
    refine Sound.pure hk λbl2 Aj ok0 base pl w a hr Ad=>?_;have hv:=Ad x (by simp[ho,Yt]);have I5:=Jf a _ (Ad y (by simp[ho,Yt]));rw[hx]at hv;obtain⟨sv,Ab,ad,hp,Bc,AO⟩:=hv;refine⟨.pointer (Yd (ad.add (j*te.size))),?_,sv,Ab,_,hp,rfl,λt e ver' l hb=>?_⟩
    ·rw[AE a w,I5,Bc,hj]
     simp[Yaw,YaO,Yu f.under,Yak,B3,run_sizeOf fe]
    ·obtain⟨h1,h2⟩:=AO t e ver' l hb
     refine⟨h1,λh=>?_⟩;obtain⟨h3,g,n',c,h4,h5⟩:=h2 h;refine⟨h3,g,n',c,h4,?_⟩;rw[h5,YD,Sd]
   ·cases hk
  ·cases hk
 ·cases hk
end
end Go.Lift
namespace Go.Lift
open Go.RowKit
theorem Aa5(l:Ya Yl):(⟨l.toArray⟩:Yao).toList=l:=by rw[ByteArray.toList_eq]
section
variable{P:Yv}{o:Oper}{ρ:Y0->V}{bl:Yk->Yb Blk}{β:Type}{r:β}
theorem AmF{w:Yx}{op:Ya4}{t:Yq}{x y:Y0}{k k':YP}{a b:Yi}:(eqGuard op t x y (.int k a) (.int k' b)).run P w=.ok () w:=by unfold eqGuard;cases op<;>simp
theorem AmG{w:Yx}{op:Ya4}{t:Yq}{x y:Y0}{a b:Yao}:(eqGuard op t x y (.string a) (.string b)).run P w=.ok () w:=by unfold eqGuard;cases op<;>simp
theorem AmH{w:Yx}{op:Ya4}{t:Yq}{x y:Y0}{a b:Ys}:(eqGuard op t x y (.bool a) (.bool b)).run P w=.ok () w:=by unfold eqGuard;cases op<;>simp
theorem fQ{t:Yq}{k:BK}(h:Lh P t=Yd k)(w:Yx):(Ybd t).run P w=.ok Yc w:=by unfold Ybd;unfold Lh at h;split at h<;>first|(rename_i hu;simp[Yu hu];done)|cases h
theorem fR{w:Yx}(d0:Yk){t:Yq}{k:BK}(hb:Lh P t=Yd k){ks:Ya BK}{a b:C}{as bs:Ya C}{x y:Yp}{E:Env}(ha:CRep E a x)(hy:CRep E b y){q:Ys}(hq:Cm (k::ks) (a::as) (b::bs)=Yd q):∃q1 q2,(YaH (d0+1) t x y).run P w=.ok q1 w/\Cm ks as bs=Yd q2/\q=(q1&&q2):=by
 unfold Lh at hb;cases k<;>cases a<;>try(simp[Cm]at hq;done)
 ·cases b<;>simp only[Cm]at hq<;>try(cases hq;done)
  rename_i a b;split at hq
  ·rename_i q2 h2
   simp only[CRep]at ha hy;subst ha hy;simp only[Af]at hq;split at hb<;>try(cases hb;done)
   rename_i hu;exact⟨_,q2,YaP w d0 t _ _ hu,h2,hq.symm⟩
  ·cases hq
 ·cases b<;>simp only[Cm]at hq<;>try(cases hq;done)
  rename_i ka a kb b;split at hq
  ·rename_i hk
   subst hk;split at hq
   ·rename_i q2 h2
    simp only[CRep]at ha hy;subst ha hy;simp only[Af]at hq;split at hb<;>try(cases hb;done)
    rename_i k' hu;exact⟨_,q2,run_equalIn_int w d0 t _ _ _ _ hu,h2,hq.symm⟩
   ·cases hq
  ·cases hq
 ·cases b<;>simp only[Cm]at hq<;>try(cases hq;done)
  rename_i a b;split at hq
  ·rename_i q2 h2
   simp only[CRep]at ha hy;subst ha hy;simp only[Af]at hq;split at hb<;>try(cases hb;done)
   rename_i hu;refine⟨_,q2,run_equalIn_string w d0 t _ _ hu,h2,?_⟩;rw[Aa5,Aa5,<-hq];by_cases h:a=b<;>simp[h]
  ·cases hq
theorem AmI{w:Yx}(d0:Yk):∀(fs:Ya Field)(i:Yk)(ks:Ya BK)(as bs:Ya C)(xs ys:Ya Yp)(E:Env)(xa ya:YX Yp),S6 P i fs=Yd ks->CReps E as xs->CReps E bs ys->xa.toList.drop i=xs->ya.toList.drop i=ys->∀{q:Ys},Cm ks as bs=Yd q->(Yaq (d0+1) xa ya fs).run P w=.ok q w:=by
 intro fs
 induction fs with
 |nil=>
  intro i ks as bs xs ys E xa ya hf ha hb _ _ q hq;simp only[S6,Af]at hf;subst hf;cases as with
  |cons a as=>simp[Cm]at hq
  |nil=>
   cases bs with
   |nil=>simp only[Cm,Af]at hq;subst hq;simp[Yaq]
   |cons b bs=>simp[Cm]at hq
 |cons f fs ih=>
  intro i ks as bs xs ys E xa ya hf ha hb LB LC q hq;simp only[S6]at hf;cases hn:(f.name != "_"&&Ym f.offset i)with
  |false=>rw[hn]at hf;cases hf
  |true=>
   simp only[hn,Ao]at hf;obtain⟨Iz,KM⟩:=andB hn;have KM:=At KM;split at hf
   ·rename_i k V9 Ke Eb
    simp only[Af]at hf;subst hf;cases as with
    |nil=>simp[Cm]at hq
    |cons a as=>
     cases bs with
     |nil=>cases k<;>cases a<;>simp[Cm]at hq
     |cons b bs=>
      obtain⟨x,CZ,ex,U8,OQ⟩:=ha;obtain⟨y,NP,ey,AV,Aj⟩:=hb;subst ex ey
      have BY:xa[i]?=Yd x:=by have:=Ai (·[0]?) LB;simpa using this
      have EB:ya[i]?=Yd y:=by have:=Ai (·[0]?) LC;simpa using this
      have Gu:xa.toList.drop (i+1)=CZ:=by have:=Ai Ya7 LB;simpa using this
      have Hf:ya.toList.drop (i+1)=NP:=by have:=Ai Ya7 LC;simpa using this
      have bZ:f.name≠ "_":=by simpa using Iz
      have EM:=fQ (P:=P) Ke w
      have L9:(part f.type xa f.offset).run P w=.ok x w:=by simp[part,EM,KM,BY]
      have Pu:(part f.type ya f.offset).run P w=.ok y w:=by simp[part,EM,KM,EB]
      obtain⟨q1,q2,h1,h2,h3⟩:=fR (w:=w) d0 Ke U8 AV hq;have Pd:=ih (i+1) V9 as bs CZ NP E xa ya Eb OQ Aj Gu Hf h2;simp only[Yaq,ne_eq,bZ,dN,CR,YA,L9,Pu,h1,Y5];cases q1 with
      |false=>simp[h3]
      |true=>simp[h3,Pd]
   ·cases hf
theorem Aa6:∀{js ks:Ya BK}{as bs:Ya C}{q:Ys},Cm (js++ks) as bs=Yd q->∃a1 a2 b1 b2 q1 q2,as=a1++a2/\bs=b1++b2/\a1.length=js.length/\b1.length=js.length/\Cm js a1 b1=Yd q1/\Cm ks a2 b2=Yd q2/\q=(q1&&q2)
 |[],ks,as,bs,q,h=>⟨[],as,[],bs,Yo,q,rfl,rfl,rfl,rfl,rfl,h,rfl⟩
 |j::js,ks,as,bs,q,h=>by
  have key:∃x y Rt Nz e r,as=x::Rt/\bs=y::Nz/\Cm (js++ks) Rt Nz=Yd r/\q=(e&&r)/\∀ls u v s,Cm ls u v=Yd s->Cm (j::ls) (x::u) (y::v)=Yd (e&&s):=by
   rw[EE]at h;cases j<;>cases as<;>try(simp[Cm]at h;done)
   ·rename_i x Rt
    cases x<;>try(simp[Cm]at h;done)
    cases bs<;>try(simp[Cm]at h;done)
    rename_i y Nz;cases y<;>simp only[Cm]at h<;>try(cases h;done)
    split at h
    ·rename_i r hr
     simp only[Af]at h;exact⟨_,_,_,_,_,r,rfl,rfl,hr,h.symm,λls u v s hs=>by simp[Cm,hs]⟩
    ·cases h
   ·rename_i x Rt
    cases x<;>try(simp[Cm]at h;done)
    cases bs<;>try(simp[Cm]at h;done)
    rename_i y Nz;cases y<;>simp only[Cm]at h<;>try(cases h;done)
    split at h
    ·rename_i hk
     split at h
     ·rename_i r hr
      simp only[Af]at h;exact⟨_,_,_,_,_,r,rfl,rfl,hr,h.symm,λls u v s hs=>by simp[Cm,hs,hk]⟩
     ·cases h
    ·cases h
   ·rename_i x Rt
    cases x<;>try(simp[Cm]at h;done)
    cases bs<;>try(simp[Cm]at h;done)
    rename_i y Nz;cases y<;>simp only[Cm]at h<;>try(cases h;done)
    split at h
    ·rename_i r hr
     simp only[Af]at h;exact⟨_,_,_,_,_,r,rfl,rfl,hr,h.symm,λls u v s hs=>by simp[Cm,hs]⟩
    ·cases h
  obtain⟨x,y,Rt,Nz,e,r,rfl,rfl,hr,hq,hf⟩:=key;obtain⟨a1,a2,b1,b2,q1,q2,e1,e2,l1,l2,h1,h2,h3⟩:=Aa6 hr;exact⟨x::a1,a2,y::b1,b2,(e&&q1),q2,by rw[e1];rfl,by rw[e2];rfl,by simp[l1],by simp[l2],hf _ _ _ _ h1,h2,by rw[hq,h3,Bool.and_assoc]⟩
theorem CReps.parts{E:Env}:∀{cs ds:Ya C}{vs:Ya Yp},CReps E (cs++ds) vs->∃us ws,vs=us++ws/\us.length=cs.length/\CReps E cs us/\CReps E ds ws
 |[],_,vs,h=>⟨[],vs,rfl,rfl,rfl,h⟩
 |_::_,_,_,⟨v,Av,e,h,ht⟩=>by obtain⟨us,ws,e2,hl,h1,h2⟩:=CReps.parts ht;exact⟨v::us,ws,by rw[e,e2];rfl,by simp[hl],⟨v,us,rfl,h,h1⟩,h2⟩
theorem AmJ{w:Yx}(d0:Yk):∀(fs:Ya Field)(i:Yk)(ks:Ya BK)(as bs:Ya C)(xs ys:Ya Yp)(E:Env)(xa ya:YX Yp),Qe P i fs=Yd ks->CReps E as xs->CReps E bs ys->xa.toList.drop i=xs->ya.toList.drop i=ys->∀{q:Ys},Cm ks as bs=Yd q->(Yaq (d0+2) xa ya fs).run P w=.ok q w:=by
 intro fs
 induction fs with
 |nil=>
  intro i ks as bs xs ys E xa ya hf ha hb _ _ q hq;simp only[Qe,Af]at hf;subst hf;cases as with
  |cons a as=>simp[Cm]at hq
  |nil=>
   cases bs with
   |nil=>simp only[Cm,Af]at hq;subst hq;simp[Yaq]
   |cons b bs=>simp[Cm]at hq
 |cons f fs ih=>
  intro i ks as bs xs ys E xa ya hf ha hb LB LC q hq;simp only[Qe]at hf;cases hn:(f.name != "_"&&Ym f.offset i)with
  |false=>rw[hn]at hf;cases hf
  |true=>
   simp only[hn,Ao]at hf;obtain⟨Iz,KM⟩:=andB hn;have KM:=At KM;have bZ:f.name≠ "_":=by simpa using Iz
   split at hf
   ·rename_i k Ke
    split at hf
    ·rename_i V9 Eb
     simp only[Af]at hf;subst hf;cases as with
     |nil=>simp[Cm]at hq
     |cons a as=>
      cases bs with
      |nil=>cases k<;>cases a<;>simp[Cm]at hq
      |cons b bs=>
       obtain⟨x,CZ,ex,U8,OQ⟩:=ha;obtain⟨y,NP,ey,AV,Aj⟩:=hb;subst ex ey
       have BY:xa[i]?=Yd x:=by have:=Ai (·[0]?) LB;simpa using this
       have EB:ya[i]?=Yd y:=by have:=Ai (·[0]?) LC;simpa using this
       have Gu:xa.toList.drop (i+1)=CZ:=by have:=Ai Ya7 LB;simpa using this
       have Hf:ya.toList.drop (i+1)=NP:=by have:=Ai Ya7 LC;simpa using this
       have EM:=fQ (P:=P) Ke w
       have L9:(part f.type xa f.offset).run P w=.ok x w:=by simp[part,EM,KM,BY]
       have Pu:(part f.type ya f.offset).run P w=.ok y w:=by simp[part,EM,KM,EB]
       obtain⟨q1,q2,h1,h2,h3⟩:=fR (w:=w) (d0+1) Ke U8 AV hq;have Pd:=ih (i+1) V9 as bs CZ NP E xa ya Eb OQ Aj Gu Hf h2;simp only[Yaq,ne_eq,bZ,dN,CR,YA,L9,Pu,h1,Y5];cases q1 with
       |false=>simp[h3]
       |true=>simp[h3,Pd]
    ·cases hf
   ·split at hf
    ·rename_i js J3
     split at hf
     ·rename_i V9 Eb
      simp only[Af]at hf;subst hf;obtain⟨a1,a2,b1,b2,q1,q2,e1,e2,l1,l2,h1,h2,h3⟩:=Aa6 hq;subst e1 e2;obtain⟨x1,x2,ex,lx,Gu,FB⟩:=CReps.parts ha;obtain⟨y1,y2,ey,ly,Hf,P3⟩:=CReps.parts hb;subst ex ey;unfold zT at J3;split at J3
      ·rename_i gs inf hu UY
       split at J3
       ·rename_i RB ADF
        cases hc:(!P.stoodInHeld f.type&&Ym inf.size RB.length)with
        |false=>rw[hc]at J3;cases J3
        |true=>
         simp only[hc,Ao,Af]at J3;subst J3;obtain⟨c1,c2⟩:=andB hc;have c2:=At c2;have EM:(Ybd f.type).run P w=.ok Yo w:=by unfold Ybd;simp[Yu hu]
         have B4:(Yac f.type).run P w=.ok inf.size w:=by simp[Yac,YT,UY]
         have cut:∀(za:YX Yp)(z1 z2:Ya Yp),za.toList.drop i=z1++z2->z1.length=RB.length->za.extract i (i+inf.size)=z1.toArray:=by intro za z1 z2 hz hl;apply HC;rw[Array.toList_extract];simp only[List.extract];rw[hz,MF,c2,<-hl,Sb]
         have L9:(part f.type xa f.offset).run P w=.ok (.agg x1.toArray) w:=by simp[part,EM,KM,B4,cut xa x1 x2 LB (lx.trans l1)]
         have Pu:(part f.type ya f.offset).run P w=.ok (.agg y1.toArray) w:=by simp[part,EM,KM,B4,cut ya y1 y2 LC (ly.trans l2)]
         have OW:P.fieldsOf f.type=gs:=by simp[Program.fieldsOf,hu]
         have xW:P.underlying f.type=Yd (.struct (P.fieldsOf f.type)):=by rw[OW];exact hu
         have DY:(YaH (d0+2) f.type (.agg x1.toArray) (.agg y1.toArray)).run P w=.ok q1 w:=by rw[run_equalIn_struct w (d0+1) f.type _ _ xW (by simpa using c1),OW];exact AmI d0 gs.toList 0 RB a1 b1 x1 y1 E _ _ ADF Gu Hf (by simp) (by simp) h1
         have drp:∀(za:YX Yp)(z1 z2:Ya Yp),za.toList.drop i=z1++z2->z1.length=RB.length->za.toList.drop (i+RB.length)=z2:=by intro za z1 z2 hz hl;rw[<-PJ,hz,<-hl,Wh]
         have Pd:=ih (i+RB.length) V9 a2 b2 x2 y2 E xa ya Eb FB P3 (drp xa x1 x2 LB (lx.trans l1)) (drp ya y1 y2 LC (ly.trans l2)) h2;simp only[Yaq,ne_eq,bZ,dN,CR,YA,L9,Pu,DY,Y5];cases q1 with
         |false=>simp[h3]
         |true=>simp[h3,Pd]
       ·cases J3
      ·cases J3
     ·cases hf
    ·cases hf
theorem AmK{w:Yx}(d0:Yk){e:Yq}{k:BK}(Ke:Lh P e=Yd k):∀(n i:Yk)(as bs:Ya C)(xs ys:Ya Yp)(E:Env)(xa ya:YX Yp),CReps E as xs->CReps E bs ys->xa.toList.drop i=xs->ya.toList.drop i=ys->∀{q:Ys},Cm (Y8 n k) as bs=Yd q->(Op.eqItems (d0+1) e 1 xa ya (List.range' i n)).run P w=.ok q w:=by
 intro n
 induction n with
 |zero=>
  intro i as bs xs ys E xa ya ha hb _ _ q hq;cases as with
  |cons a as=>simp[Cm]at hq
  |nil=>
   cases bs with
   |nil=>simp only[Y8,Cm,Af]at hq;subst hq;simp[Op.eqItems]
   |cons b bs=>simp[Cm]at hq
 |succ n ih=>
  intro i as bs xs ys E xa ya ha hb LB LC q hq;rw[List.replicate_succ]at hq;cases as with
  |nil=>simp[Cm]at hq
  |cons a as=>
   cases bs with
   |nil=>cases k<;>cases a<;>simp[Cm]at hq
   |cons b bs=>
    obtain⟨x,CZ,ex,U8,OQ⟩:=ha;obtain⟨y,NP,ey,AV,Aj⟩:=hb;subst ex ey
    have BY:xa[i]?=Yd x:=by have:=Ai (·[0]?) LB;simpa using this
    have EB:ya[i]?=Yd y:=by have:=Ai (·[0]?) LC;simpa using this
    have Gu:xa.toList.drop (i+1)=CZ:=by have:=Ai Ya7 LB;simpa using this
    have Hf:ya.toList.drop (i+1)=NP:=by have:=Ai Ya7 LC;simpa using this
    have EM:=fQ (P:=P) Ke w
    have L9:(part e xa (i*1)).run P w=.ok x w:=by simp[part,EM,BY]
    have Pu:(part e ya (i*1)).run P w=.ok y w:=by simp[part,EM,EB]
    obtain⟨q1,q2,h1,h2,h3⟩:=fR (w:=w) d0 Ke U8 AV hq;have Pd:=ih (i+1) as bs CZ NP E xa ya OQ Aj Gu Hf h2;simp only[List.range'_succ,Op.eqItems,YA,L9,Pu,h1,Y5];cases q1 with
    |false=>simp[h3]
    |true=>simp[h3,Pd]
theorem Aa7{t:Yq}{ks:Ya BK}(he:S7 P t=Yd ks){as bs:Ya C}{xs ys:Ya Yp}{E:Env}(ha:CReps E as xs)(hb:CReps E bs ys){q:Ys}(hq:Cm ks as bs=Yd q)(w:Yx):(YaH 10000 t (.agg xs.toArray) (.agg ys.toArray)).run P w=.ok q w/\P.eqGuardType P.depth t=Yc:=by
 unfold S7 at he;split at he
 ·rename_i fs hu
  cases hc:(P.stoodInHeld t||P.eqGuardType P.depth t)with
  |true=>rw[hc]at he;cases he
  |false=>
   simp only[hc,BU]at he;have BG:P.stoodInHeld t=Yc/\P.eqGuardType P.depth t=Yc:=by simpa using hc
   have OW:P.fieldsOf t=fs:=by simp[Program.fieldsOf,hu]
   have xW:P.underlying t=Yd (.struct (P.fieldsOf t)):=by rw[OW];exact hu
   refine⟨?_,BG.2⟩;rw[run_equalIn_struct w 9999 t _ _ xW BG.1,OW];exact AmJ 9997 fs.toList 0 ks as bs xs ys E _ _ he ha hb (by simp) (by simp) hq
 ·rename_i n e hu
  split at he
  ·rename_i k hk
   cases hc:(Ym (P.cellsOf e) 1&&!P.eqGuardType P.depth t)with
   |false=>rw[hc]at he;cases he
   |true=>
    simp only[hc,Ao,Af]at he;subst he;obtain⟨CA,BG⟩:=andB hc;have CA:=At CA
    have hi:∃i,P.info? e=Yd i:=by
     cases hi:P.info? e with
     |some i=>exact⟨i,rfl⟩
     |none=>simp[YaG,hi]at CA
    obtain⟨i,hi⟩:=hi;refine⟨?_,by simpa using BG⟩;rw[run_equalIn_array w 9999 _ _ hu hi,CA,dH];exact AmK 9998 hk n 0 as bs xs ys E _ _ ha hb (by simp) (by simp) hq
  ·cases he
 ·cases he
theorem Aa8{w:Yx}{op:Ya4}{t:Yq}{x y:Y0}{a a':Yb Addr}{n n' c c':Yk}:(eqGuard op t x y (.slice a n c) (.slice a' n' c')).run P w=.ok () w:=by unfold eqGuard;cases op<;>simp
theorem Aa9(w:Yx)(d:Yk)(t e:Yq)(a:Yb Addr)(l c:Yk)(h:P.underlying t=Yd (.slice e)):(YaH (d+1) t (.slice a l c) (.slice Ye 0 0)).run P w=.ok a.isNone w:=by cases a<;>simp[YaH,Yu h]
theorem Aaa{T:Yq->Yb TI}(hT:TOk P T){kk:K β}{op:Ya4}{t t':Yq}{x y:Y0}(ho:o.op=.binOp op t x y t'){cx:C}{b:Ys}(hx:ρ x=.c cx)(hy:ρ y=.c .nils)(hc:∀E v,CRep E cx v->∃a n c,v=.slice a n c/\a.isNone=b)(hk:Wn T op t b kk=Yd r):Sound P o ρ bl kk r:=by
 have BY:x∈o.op.operands:=by simp[ho,Yt]
 have EB:y∈o.op.operands:=by simp[ho,Yt]
 unfold Wn at hk;split at hk
 ·rename_i ti ht
  obtain⟨i,d,z,f⟩:=hT.facts ht
  have main:∀(q:Ys)(e:Yq),ti.elem=Yd e->ti.len=Ye->kk (.c (.bool q)) [] []=Yd r->((op=.eql/\q=b)\/(op=.neq/\q=!b))->Sound P o ρ bl kk r:=by
   intro q e Cs Cr Er EA;have hd:=GR f Cs Cr;subst hd;refine Sound.pure Er λbl2 _ ok0 base pl w act hr Ad=>⟨.bool q,?_,rfl⟩;have h1:=Ad x BY;have h2:=Ad y EB;rw[hx]at h1;rw[hy]at h2;obtain⟨a,n,c,BZ,hb⟩:=hc _ _ h1;have DV:act.eval y=.slice Ye 0 0:=h2;subst hb;rcases EA with⟨rfl,rfl⟩|⟨rfl,rfl⟩
   ·simp[Y1,ho,BZ,DV,Aa8,Y9,Op.equal,YaQ,Aa9 w 9999 t e a n c f.under]
   ·simp[Y1,ho,BZ,DV,Aa8,Y9,Op.equal,YaQ,Aa9 w 9999 t e a n c f.under]
  split at hk
  ·rename_i e Cs Cr
   exact main _ e Cs Cr hk (.inl ⟨rfl,rfl⟩)
  ·rename_i e Cs Cr
   exact main _ e Cs Cr hk (.inr ⟨rfl,rfl⟩)
  ·cases hk
 ·cases hk
theorem AmL{T:Yq->Yb TI}(hT:TOk P T){kk:K β}{op:Ya4}{t t':Yq}{x:Y0}(ho:o.op=.binOp op t x (.const .nilIface) t'){b:Ys}(hx:ρ x=.c (.err b))(hk:dY T op t b kk=Yd r):Sound P o ρ bl kk r:=by
 have BY:x∈o.op.operands:=by simp[ho,Yt]
 unfold dY at hk;split at hk
 ·rename_i ti ht
  obtain⟨i,d,z,f⟩:=hT.facts ht
  have main:∀(q:Ys),ti.ty=Yd .err->ti.agg=Yc->kk (.c (.bool q)) [] []=Yd r->((op=.eql/\q=b)\/(op=.neq/\q=!b))->Sound P o ρ bl kk r:=by
   intro q Cc Ej Er EA;rw[f.agg]at Ej
   have hu:P.underlying t=Yd (.interface (P.methodsAt t)):=by
    rw[f.ty]at Cc;unfold tyOf at Cc;split at Cc
    ·cases Cc
    ·cases Cc
    ·cases Cc
    ·rename_i ms hm
     cases hd:Yf (ms=P.methodsAt t)with
     |false=>rw[hd]at Cc;cases Cc
     |true=>rw[hm,AC hd]
    ·rename_i e _;cases h:tyOf P 11 e<;>rw[h]at Cc<;>cases Cc
    ·rename_i hm;simp[Jm,hm]at Ej
    ·rename_i hm;simp[Jm,hm]at Ej
    ·cases Cc
   refine Sound.pure Er λbl2 _ ok0 base pl w act hr Ad=>⟨.bool q,?_,rfl⟩;have h1:=Ad x BY;rw[hx]at h1;have h1:errRep b (act.eval x):=h1;have h2:act.eval (.const .nilIface)=.nilIface:=rfl;cases b with
   |true=>
    have h1:act.eval x=.nilIface:=h1;rcases EA with⟨rfl,rfl⟩|⟨rfl,rfl⟩
    ·simp[Y1,ho,h1,h2,eqGuard_nil_constR,Y9,run_equal_nil_nil w t hu]
    ·simp[Y1,ho,h1,h2,eqGuard_nil_constR,Y9,run_equal_nil_nil w t hu]
   |false=>
    obtain⟨u,z,h1⟩:∃u z,act.eval x=.iface u z:=h1;have hg:∀op,eqGuard op t x (.const .nilIface) (.iface u z) .nilIface=pure ():=λop=>by cases op<;>rfl
    rcases EA with⟨rfl,rfl⟩|⟨rfl,rfl⟩
    ·simp[Y1,ho,h1,h2,hg,Y9,run_equal_held_nil w t u z hu]
    ·simp[Y1,ho,h1,h2,hg,Y9,run_equal_held_nil w t u z hu]
  split at hk
  ·rename_i Cc Ej
   exact main _ Cc Ej hk (.inl ⟨rfl,rfl⟩)
  ·rename_i Cc Ej
   exact main _ Cc Ej hk (.inr ⟨rfl,rfl⟩)
  ·cases hk
 ·cases hk
theorem AmM{T:Yq->Yb TI}(hT:TOk P T){kk:K β}{op:Ya4}{t t':Yq}{x y:Y0}(ho:o.op=.binOp op t x y t')(hk:dX T op t (ρ x) (ρ y) kk=Yd r):Sound P o ρ bl kk r:=by
 have BY:x∈o.op.operands:=by simp[ho,Yt]
 have EB:y∈o.op.operands:=by simp[ho,Yt]
 unfold dX at hk;split at hk
 ·
  rename_i k a k' b hx hy;cases M7:dW op with
  |true=>
   simp only[M7,Ao]at hk;obtain⟨hc,hk⟩:=Dc hk;have Dd:¬b<0:=by have:=AC hc;omega
   refine Sound.pure hk λbl2 _ ok0 base pl w act hr Ad=>⟨.int k (MN op k a b),?_,rfl⟩;have h1:=Ad x BY;have h2:=Ad y EB;rw[hx]at h1;rw[hy]at h2;have BZ:act.eval x=.int k a:=h1;have DV:act.eval y=.int k' b:=h2;cases op<;>simp only[dW,G3]at M7
   ·simp[Y1,ho,BZ,DV,eqGuard,Y9,Op.shift,Dd,MN]
   ·simp[Y1,ho,BZ,DV,eqGuard,Y9,Op.shift,Dd,MN]
  |false=>
  simp only[M7,BU]at hk;split at hk
  ·rename_i KL
   subst KL
   have main:∀(v:Yp)(c:C),kk (.c c) [] []=Yd r->(∀w,(Y9 op t (.int k a) (.int k b)).run P w=.ok v w)->(∀E,CRep E c v)->Sound P o ρ bl kk r:=by intro v c Er hv hc;refine Sound.pure Er λbl2 _ ok0 base pl w act hr Ad=>⟨v,?_,hc _⟩;have h1:=Ad x BY;have h2:=Ad y EB;rw[hx]at h1;rw[hy]at h2;have BZ:act.eval x=.int k a:=h1;have DV:act.eval y=.int k b:=h2;simp[Y1,ho,BZ,DV,AmF,hv]
   unfold zG at hk;split at hk
   ·exact main (.int k (k.wrap (a+b))) _ hk (λw=>by simp[Y9,YaR]) (λ_=>rfl)
   ·exact main (.int k (k.wrap (a-b))) _ hk (λw=>by simp[Y9,YaR]) (λ_=>rfl)
   ·exact main (.int k (k.wrap (a*b))) _ hk (λw=>by simp[Y9,YaR]) (λ_=>rfl)
   ·obtain⟨hc,hk⟩:=Dc hk
    have hb:b≠0:=by simpa using hc
    exact main (.int k (k.wrap (a.tdiv b))) _ hk (λw=>by simp[Y9,Op.intDiv,hb]) (λ_=>rfl)
   ·obtain⟨hc,hk⟩:=Dc hk
    have hb:b≠0:=by simpa using hc
    exact main (.int k (a.tmod b)) _ hk (λw=>by simp[Y9,Op.intDiv,hb]) (λ_=>rfl)
   ·exact main (.bool (Yf (a=b))) _ hk (λw=>by simp[Y9,YaB];rfl) (λ_=>rfl)
   ·exact main (.bool (!Yf (a=b))) _ hk (λw=>by simp[Y9,YaB,bne];rfl) (λ_=>rfl)
   ·exact main (.bool (Yf (a<b))) _ hk (λw=>by simp[Y9,YaB]) (λ_=>rfl)
   ·exact main (.bool (Yf (a<=b))) _ hk (λw=>by simp[Y9,YaB]) (λ_=>rfl)
   ·exact main (.bool (Yf (b<a))) _ hk (λw=>by simp[Y9,YaB]) (λ_=>rfl)
   ·exact main (.bool (Yf (b<=a))) _ hk (λw=>by simp[Y9,YaB]) (λ_=>rfl)
   ·exact main (.int k (JJ .and k a b)) _ hk (λw=>by simp[Y9,Op.intBits,JJ]) (λ_=>rfl)
   ·exact main (.int k (JJ .or k a b)) _ hk (λw=>by simp[Y9,Op.intBits,JJ]) (λ_=>rfl)
   ·exact main (.int k (JJ .xor k a b)) _ hk (λw=>by simp[Y9,Op.intBits,JJ]) (λ_=>rfl)
   ·exact main (.int k (JJ .andNot k a b)) _ hk (λw=>by simp[Y9,Op.intBits,JJ]) (λ_=>rfl)
   ·cases hk
  ·cases hk
 ·
  rename_i a b hx hy
  have main:∀(v:Yp)(c:C),kk (.c c) [] []=Yd r->(∀w,(Y9 op t (.string ⟨a.toArray⟩) (.string ⟨b.toArray⟩)).run P w=.ok v w)->(∀E,CRep E c v)->Sound P o ρ bl kk r:=by intro v c Er hv hc;refine Sound.pure Er λbl2 _ ok0 base pl w act hr Ad=>⟨v,?_,hc _⟩;have h1:=Ad x BY;have h2:=Ad y EB;rw[hx]at h1;rw[hy]at h2;have BZ:act.eval x=.string ⟨a.toArray⟩:=h1;have DV:act.eval y=.string ⟨b.toArray⟩:=h2;simp[Y1,ho,BZ,DV,AmG,hv]
  have bL:(a==b)=Yf (a=b):=by by_cases h:a=b<;>simp[h]
  unfold zH at hk;split at hk
  ·obtain⟨hc,hk⟩:=Dc hk
   have Bx:=AC hc;refine main (.string ⟨(a++b).toArray⟩) _ hk (λw=>?_) (λ_=>rfl)
   have B4:¬(((⟨a.toArray⟩:Yao).size+(⟨b.toArray⟩:Yao).size:Yk):Yi)>IntKind.i64.max:=by show ¬((a.toArray.size+b.toArray.size:Yk):Yi)>9223372036854775807;simp only[NU];omega
   have ADa:(⟨a.toArray⟩:Yao)++⟨b.toArray⟩=⟨(a++b).toArray⟩:=by apply ByteArray.ext;simp
   simp only[Y9,Yar];rw[Y4 B4,ADa];rfl
  ·exact main (.bool (Yf (a=b))) _ hk (λw=>by simp[Y9,Yar,bL]) (λ_=>rfl)
  ·exact main (.bool (!Yf (a=b))) _ hk (λw=>by simp[Y9,Yar,bL]) (λ_=>rfl)
  ·exact main (.bool (Yy a b)) _ hk (λw=>by simp[Y9,Yar]) (λ_=>rfl)
  ·exact main (.bool (Yy a b||Yf (a=b))) _ hk (λw=>by simp[Y9,Yar,bL]) (λ_=>rfl)
  ·exact main (.bool (!(Yy a b||Yf (a=b)))) _ hk (λw=>by simp[Y9,Yar,bL]) (λ_=>rfl)
  ·exact main (.bool (!Yy a b)) _ hk (λw=>by simp[Y9,Yar]) (λ_=>rfl)
  ·cases hk
 ·
  rename_i a b hx hy;split at hk
  ·rename_i ti ht
   obtain⟨i,d,z,f⟩:=hT.facts ht;cases Rv:ti.isBool with
   |false=>rw[Rv]at hk;cases hk
   |true=>
    simp only[Rv,Ao]at hk
    have hu:P.underlying t=Yd .bool:=by
     rw[f.isBool]at Rv;unfold W8 at Rv;split at Rv
     ·exact f.under
     ·cases Rv
    have main:∀(q:Ys),kk (.c (.bool q)) [] []=Yd r->(∀w,(Y9 op t (.bool a) (.bool b)).run P w=.ok (.bool q) w)->Sound P o ρ bl kk r:=by intro q Er hv;refine Sound.pure Er λbl2 _ ok0 base pl w act hr Ad=>⟨.bool q,?_,rfl⟩;have h1:=Ad x BY;have h2:=Ad y EB;rw[hx]at h1;rw[hy]at h2;have BZ:act.eval x=.bool a:=h1;have DV:act.eval y=.bool b:=h2;simp[Y1,ho,BZ,DV,AmH,hv]
    split at hk
    ·exact main _ hk λw=>by simp only[Y9];simp[Op.equal,YaQ,YaP w 9999 t a b hu]
    ·exact main _ hk λw=>by simp only[Y9];simp[Op.equal,YaQ,YaP w 9999 t a b hu]
    ·cases hk
  ·cases hk
 ·
  rename_i a b hx hy;split at hk
  ·rename_i ti ht
   obtain⟨i,d,z,f⟩:=hT.facts ht;split at hk
   ·rename_i ks Ja
    rw[f.eqs]at Ja
    have main:∀(q q':Ys),Cm ks a b=Yd q->kk (.c (.bool q')) [] []=Yd r->((op=.eql/\q'=q)\/(op=.neq/\q'=!q))->Sound P o ρ bl kk r:=by
     intro q q' hq Er EA;refine Sound.pure Er λbl2 _ ok0 base pl w act hr Ad=>⟨.bool q',?_,rfl⟩;have h1:=Ad x BY;have h2:=Ad y EB;rw[hx]at h1;rw[hy]at h2;obtain⟨xs,BZ,vT⟩:=h1;obtain⟨ys,DV,vU⟩:=h2;simp only[CR]at vT vU;obtain⟨he,hg⟩:=Aa7 (P:=P) Ja BZ DV hq w;rcases EA with⟨rfl,rfl⟩|⟨rfl,rfl⟩
     ·simp[Y1,ho,vT,vU,run_eqGuard_agg w _ t x y _ _ hg,run_eql_struct,he]
     ·simp[Y1,ho,vT,vU,run_eqGuard_agg w _ t x y _ _ hg,run_neq_struct,he]
    split at hk
    ·rename_i q hq
     exact main _ _ hq hk (.inl ⟨rfl,rfl⟩)
    ·rename_i q hq
     exact main _ _ hq hk (.inr ⟨rfl,rfl⟩)
    ·cases hk
   ·cases hk
  ·cases hk
 ·rename_i hx hy
  exact Aaa hT ho hx hy (λE v hv=>by obtain⟨c,rfl⟩:=hv;exact⟨Ye,0,c,rfl,rfl⟩) hk
 ·rename_i e l hx hy
  refine Aaa hT ho hx hy (λE v hv=>?_) hk;obtain⟨hd,hn⟩:=hv;simp only[DRep]at hd;obtain⟨A,c,xs,e1,_⟩:=hd;simp only[CK,Ef]at e1;subst e1;cases A with
  |none=>exact Yw rfl (hn _ _)
  |some a=>exact⟨Yd a,_,_,rfl,rfl⟩
 ·cases hk
theorem Aab{T:Yq->Yb TI}(hT:TOk P T){kk:K β}{op:Ya4}{t t':Yq}{x:Y0}(ho:o.op=.binOp op t x (.const (.pointer Ye)) t'){b:Ys}(hx:∀E v,VRep E (ρ x) v->∃q,v=.pointer q/\q.isNone=b)(hk:Wo T op t b kk=Yd r):Sound P o ρ bl kk r:=by
 have BY:x∈o.op.operands:=by simp[ho,Yt]
 unfold Wo at hk;split at hk
 ·rename_i ti ht
  obtain⟨i,d,z,f⟩:=hT.facts ht
  have main:∀(q:Ys),ti.ptr=Yo->kk (.c (.bool q)) [] []=Yd r->((op=.eql/\q=b)\/(op=.neq/\q=!b))->Sound P o ρ bl kk r:=by
   intro q hp Er EA;rw[f.ptr]at hp;have hd:∃e,d=.pointer e:=by cases d<;>simp_all [fF]
   obtain⟨e,rfl⟩:=hd;have hu:P.underlying t=Yd (.pointer (P.pointee t)):=by rw[Program.pointee,f.under]
   refine Sound.pure Er λbl2 _ ok0 base pl w act hr Ad=>⟨.bool q,?_,rfl⟩;obtain⟨v,h1,hb⟩:=hx _ _ (Ad x BY);have h2:act.eval (.const (.pointer Ye))=.pointer Ye:=rfl;subst hb;have hg:∀op,eqGuard op t x (.const (.pointer Ye)) (.pointer v) (.pointer Ye)=pure ():=λop=>by cases op<;>rfl
   rcases EA with⟨rfl,rfl⟩|⟨rfl,rfl⟩
   ·simp[Y1,ho,h1,h2,hg,run_eql_pointer_nil w t v hu]
   ·simp[Y1,ho,h1,h2,hg,run_neq_pointer_nil w t v hu]
  split at hk
  ·rename_i hp;exact main _ hp hk (.inl ⟨rfl,rfl⟩)
  ·rename_i hp;exact main _ hp hk (.inr ⟨rfl,rfl⟩)
  ·cases hk
 ·cases hk
theorem AmN{T:Yq->Yb TI}(hT:TOk P T){kk:K β}{op:Ya4}{t t':Yq}{x y:Y0}(ho:o.op=.binOp op t x y t')(hk:dZ T op t (ρ x) (ρ y) y kk=Yd r):Sound P o ρ bl kk r:=by
 unfold dZ at hk;split at hk
 ·rename_i b hx
  exact AmL hT ho hx hk
 ·rename_i hx
  exact Aab hT ho (b:=Yo) (λE v h=>by rw[hx]at h;exact⟨Ye,h,rfl⟩) hk
 ·rename_i hx
  exact Aab hT ho (b:=Yc) (λE v h=>by rw[hx]at h;obtain⟨_,_,ad,_,e,_⟩:=h;exact⟨Yd ad,e,rfl⟩) hk
 ·exact AmM hT ho hk
end
end Go.Lift
namespace Go.Lift
open Go.RowKit
theorem MRep.length{w:Yx}{ok:Yk->Prop}{k v:Ty}{vg:Ys}:∀{l:Ya (k.den×v.den)}{es:Ya MapEntry},MRep w ok k v vg l es->es.length=l.length
 |[],_,h=>by simp only[MRep]at h;simp[h]
 |_::l,_,⟨e,r,h0,_,_,h4⟩=>by rw[h0,Be,Be,MRep.length h4]
theorem SC{P:Yv}{t:Yq}{ti:TI}{i:YI}{d:YC}{z:Yp}(f:TFacts P t ti i d z)(h:ti.isStr=Yo):d=.string:=by rw[f.isStr]at h;cases d<;>simp_all [W7]
theorem AmO(l:Ya Yl)(a b:Yk):(⟨l.toArray⟩:Yao).extract a b=⟨((l.take b).drop a).toArray⟩:=by apply ByteArray.ext;apply HC;rw[Lib.extract_data];simp only;rw[List.drop_take]
section
variable{P:Yv}{o:Oper}{ρ:Y0->V}{bl:Yk->Yb Blk}{β:Type}{r:β}
theorem Ql{t:Yq}{ti:TI}{i:YI}{d:YC}{z:Yp}(f:TFacts P t ti i d z)(h:IG ti=Yo):∃e,d=.slice e:=by
 unfold IG at h;split at h
 ·rename_i e h1 h2
  exact⟨e,GR f h1 h2⟩
 ·cases h
theorem MU{w:Yx}{a:Act}{x:Y0}{c:Call}{t:Yq}(ho:o.op=.call c)(hc:c.callee=.builtin .len)(ha:c.args.toList=[x])(ht:c.argTypes.toList=[t]){v:Yp}(h:(YJ #[t] o.type #[a.eval x]).run P w=.ok v w):(Y1 a.eval o).run P w=.ok (.value v) w:=by
 have h1:c.args=#[x]:=by rw[<-Gi (xs:=c.args),ha]
 have h2:c.argTypes=#[t]:=by rw[<-Gi (xs:=c.argTypes),ht]
 simp[Y1,ho,resolve,hc,h1,h2,invoke,builtin,h]
theorem AmP{T:Yq->Yb TI}(hT:TOk P T){kk:K β}{c:Call}(ho:o.op=.call c)(hc:c.callee=.builtin .len){x:Y0}{t:Yq}(ha:c.args.toList=[x])(Cc:c.argTypes.toList=[t])(hk:eD T bl t (ρ x) kk=Yd r):Sound P o ρ bl kk r:=by
 have BY:x∈o.op.operands:=by
  have h1:c.args=#[x]:=by rw[<-Gi (xs:=c.args),ha]
  simp[ho,Yt,YF,h1]
 unfold eD at hk;split at hk
 ·cases hk
 rename_i ti ht;obtain⟨i,d,z,f⟩:=hT.facts ht;have hu:=f.under;split at hk
 ·rename_i s hx
  cases hs:ti.isStr with
  |false=>rw[hs]at hk;cases hk
  |true=>simp only[hs,Ao]at hk;have:=SC f hs;subst this;refine Sound.pure hk λbl2 _ ok0 base pl w act hr Ad=>⟨_,MU ho hc ha Cc (v:=.int .i64 (s.length:Yi)) ?_,rfl⟩;have h1:=Ad x BY;rw[hx]at h1;have BZ:act.eval x=.string ⟨s.toArray⟩:=h1;simp[YJ,BZ,Yu hu,Ya6];rfl
 ·rename_i e l hx
  cases hs:IG ti with
  |false=>rw[hs]at hk;cases hk
  |true=>simp only[hs,Ao]at hk;obtain⟨et,rfl⟩:=Ql f hs;refine Sound.pure hk λbl2 _ ok0 base pl w act hr Ad=>⟨_,MU ho hc ha Cc (v:=.int .i64 (l.length:Yi)) ?_,rfl⟩;have h1:=Ad x BY;rw[hx]at h1;have BZ:DRep w _ (.slice e) l [act.eval x]:=h1;simp only[DRep]at BZ;obtain⟨A,cc,xs,hv,_⟩:=BZ;simp only[CK,Ef]at hv;simp[YJ,hv,Yu hu,Ya6]
 ·rename_i hx
  cases hs:IG ti with
  |false=>rw[hs]at hk;cases hk
  |true=>simp only[hs,Ao]at hk;obtain⟨et,rfl⟩:=Ql f hs;refine Sound.pure hk λbl2 _ ok0 base pl w act hr Ad=>⟨_,MU ho hc ha Cc (v:=.int .i64 0) ?_,rfl⟩;have h1:=Ad x BY;rw[hx]at h1;have BZ:act.eval x=.slice Ye 0 0:=h1;simp[YJ,BZ,Yu hu,Ya6]
 ·rename_i b ver hx
  split at hk
  ·rename_i t0 e ver' l hb
   cases hs:(Ym ver ver'&&IG ti)with
   |false=>rw[hs]at hk;cases hk
   |true=>
    obtain⟨AQ,Bt⟩:=andB hs;have:=At AQ;subst this;simp only[hs,Ao]at hk;obtain⟨et,rfl⟩:=Ql f Bt;refine Sound.pure hk λbl2 Aj ok0 base pl w act hr Ad=>⟨_,MU ho hc ha Cc (v:=.int .i64 (l.length:Yi)) ?_,rfl⟩;have Ay:bl2 b=Yd (.row t0 e ver l):=(Aj b (by simp)).trans hb;have hv:=Ad x BY;rw[hx]at hv;obtain⟨_,sv,Ab,hg,AO⟩:=hv;have Bc:=(AO t0 e ver l Ay).2 rfl;obtain⟨p,hp,hB⟩:=hr.blks b _ Ay;have:p=.row sv Ab:=by have h2:pl b=Yd (.row sv Ab):=hg;rw[hp]at h2;injection h2
    subst this;obtain⟨_,xs,BX,Ah⟩:=hB;rcases Ah.2 with⟨Au,hn⟩|⟨g,cap,AI,Au,_⟩
    ·simp[YJ,Bc,Au,Yu hu,Ya6,hn]
    ·simp[YJ,Bc,Au,Yu hu,Ya6]
  ·cases hk
 ·rename_i b ver lo hi hx
  split at hk
  ·rename_i t0 e ver' l hb
   cases hs:(Ym ver ver'&&IG ti)with
   |false=>rw[hs]at hk;cases hk
   |true=>obtain⟨AQ,Bt⟩:=andB hs;have:=At AQ;subst this;simp only[hs,Ao]at hk;obtain⟨et,rfl⟩:=Ql f Bt;refine Sound.pure hk λbl2 Aj ok0 base pl w act hr Ad=>⟨_,MU ho hc ha Cc (v:=.int .i64 ((hi-lo:Yk):Yi)) ?_,rfl⟩;have Ay:bl2 b=Yd (.row t0 e ver l):=(Aj b (by simp)).trans hb;have hv:=Ad x BY;rw[hx]at hv;obtain⟨_,sv,Ab,hg,AO⟩:=hv;obtain⟨_,_,A,A',n,cc,_,Bc,_⟩:=(AO t0 e ver l Ay).2 rfl;simp[YJ,Bc,Yu hu,Ya6]
  ·cases hk
 ·rename_i b ver p hx
  split at hk
  ·rename_i q hq
   obtain⟨hb,AQ,hn⟩:=WG hq;subst AQ;cases hs:IG ti with
   |false=>rw[hs]at hk;cases hk
   |true=>
    simp only[hs,Ao]at hk;obtain⟨et,rfl⟩:=Ql f hs;refine Sound.pure hk λbl2 Aj ok0 base pl w act hr Ad=>⟨_,MU ho hc ha Cc (v:=.int .i64 (q.2.2.2.2.2.length:Yi)) ?_,rfl⟩;have hv:=Ad x BY;rw[hx]at hv;obtain⟨xs,Ah⟩:=Amw (E:=Ak ok0 base pl bl2 w) hr.blksOk ((Aj b (by simp)).trans hb) hv hn;rcases Ah.2 with⟨Au,hn⟩|⟨g,cap,AI,Au,_⟩
    ·have hn:q.2.2.2.2.2.length=0:=hn
     simp[YJ,Au,Yu hu,Ya6,hn]
    ·simp[YJ,Au,Yu hu,Ya6]
  ·cases hk
 ·rename_i b hx
  split at hk
  ·rename_i t0 e m cs hb
   cases hs:IG ti with
   |false=>rw[hs]at hk;cases hk
   |true=>
    simp only[hs,Ao]at hk;obtain⟨et,rfl⟩:=Ql f hs;refine Sound.pure hk λbl2 Aj ok0 base pl w act hr Ad=>⟨_,MU ho hc ha Cc (v:=.int .i64 (m:Yi)) ?_,rfl⟩;have Ay:=(Aj b (by simp)).trans hb;have hv:=Ad x BY;rw[hx]at hv;obtain⟨_,sv,Ab,hg,AO⟩:=hv;have Bc:=AO t0 e m cs Ay;obtain⟨p,hp,hB⟩:=hr.blks b _ Ay;have:p=.row sv Ab:=by have h2:pl b=Yd (.row sv Ab):=hg;rw[hp]at h2;injection h2
    subst this;obtain⟨_,vs,_,Ah⟩:=hB;rcases Ah.2 with⟨Au,hn⟩|⟨g,cap,AI,Au,_⟩
    ·simp[YJ,Bc,Au,Yu hu,Ya6,hn]
    ·simp[YJ,Bc,Au,Yu hu,Ya6]
  ·cases hk
 ·rename_i b hx
  split at hk
  ·rename_i t0 k0 v0 vg l mp hb Pp
   obtain⟨kt,vt,rfl⟩:∃kt vt,d=.map kt vt:=by have h1:=f.mp;rw[Pp]at h1;cases d<;>simp[mpD]at h1;exact⟨_,_,rfl⟩
   refine Sound.pure hk λbl2 Aj ok0 base pl w act hr Ad=>⟨_,MU ho hc ha Cc (v:=.int .i64 (l.length:Yi)) ?_,rfl⟩;have Ay:bl2 b=Yd (.map t0 k0 v0 vg l):=(Aj b (by simp)).trans hb;have hv:=Ad x BY;rw[hx]at hv;obtain⟨g,hg,Bc⟩:=hv;obtain⟨p,hp,hB⟩:=hr.blks b _ Ay;have:p=.cells g:=by have h2:pl b=Yd (.cells g):=hg;rw[hp]at h2;injection h2
   subst this;obtain⟨es,Ch,hh,hm⟩:=hB
   have AK:es.size=l.length:=by rw[<-FV];exact hm.m.length
   simp[YJ,Bc,Yu hu,Ya6,YN (show w.heap[g]?=Yd (.map es Ch)from hh),AK,YK]
  ·cases hk
 ·cases hk
theorem Kq{E:Env}{a:Act}{lo:Yb Y0}{d n:Yi}(h:IF (lo.map ρ) d=Yd n)(hx:∀x,lo=Yd x->VRep E (ρ x) (a.eval x)):(lo=Ye/\n=d)\/∃x k,lo=Yd x/\a.eval x=.int k n:=by
 cases lo with
 |none=>simp only[Option.map_none,IF,Af]at h;exact .inl ⟨rfl,h.symm⟩
 |some x=>
  simp only[Ft,IF]at h;split at h
  ·rename_i k m hm
   simp only[Af]at h;subst h;have h1:=hx x rfl;rw[Oh hm]at h1;exact .inr ⟨x,k,rfl,h1⟩
  ·cases h
theorem WK{k:YP}{n:Yi}{y:Yk}{code:BoundsCode}(h0:0<=n)(h1:n<=(y:Yi))(w:Yx):(Instr.sliceBound (.int k n) y code).run P w=.ok n.toNat w:=by simp[Instr.sliceBound,YaO,h0,h1]
theorem Oi{isSl:Ys}{len cap:Yk}{a:Act}{lo hi:Yb Y0}{m n:Yi}(Ic:(lo=Ye/\m=0)\/∃x k,lo=Yd x/\a.eval x=.int k m)(bP:(hi=Ye/\n=(len:Yi))\/∃x k,hi=Yd x/\a.eval x=.int k n)(h0:0<=m)(h1:m<=n)(h2:n<=(cap:Yi))(w:Yx):(YaF isSl len cap (lo.map a.eval) (hi.map a.eval) Ye).run P w=.ok (m.toNat,n.toNat,cap) w:=by
 have hn:(n.toNat:Yi)=n:=Ybe (by omega);unfold YaF;rcases Ic with⟨rfl,rfl⟩|⟨x,k,rfl,hx⟩<;>rcases bP with⟨rfl,rfl⟩|⟨y,k',rfl,hy⟩
 ·simp
 ·simp[hy,WK (P:=P) (k:=k') (by omega) h2]
 ·simp[hx,WK (P:=P) (k:=k) h0 h1]
 ·simp[hx,hy,WK (P:=P) (k:=k') (by omega) h2,WK (P:=P) (k:=k) (y:=n.toNat) h0 (by omega)]
theorem fS{T:Yq->Yb TI}(hT:TOk P T){kk:K β}{t:Yq}{x:Y0}{lo hi:Yb Y0}(ho:o.op=.slice t x lo hi Ye)(hk:Sr T bl t (ρ x) (lo.map ρ) (hi.map ρ) kk=Yd r):Sound P o ρ bl kk r:=by
 have BY:x∈o.op.operands:=by simp[ho,Yt]
 have Vc:∀y,lo=Yd y->y∈o.op.operands:=by rintro y rfl;simp[ho,Yt]
 have Pa:∀y,hi=Yd y->y∈o.op.operands:=by rintro y rfl;simp[ho,Yt]
 unfold Sr at hk;split at hk
 ·cases hk
 rename_i ti ht;obtain⟨i,d,z,f⟩:=hT.facts ht;have hu:=f.under;split at hk
 ·rename_i s hx
  cases hs:ti.isStr with
  |false=>rw[hs]at hk;cases hk
  |true=>
   simp only[hs,Ao]at hk;have:=SC f hs;subst this;split at hk
   ·rename_i m n hm hn
    obtain⟨hc,hk⟩:=Dc hk;obtain⟨c1,c23⟩:=andB hc;obtain⟨c2,c3⟩:=andB c23;have c1:=AC c1;have c2:=AC c2;have c3:=AC c3;refine Sound.pure hk λbl2 _ ok0 base pl w act hr Ad=>⟨.string ⟨((s.take n.toNat).drop m.toNat).toArray⟩,?_,rfl⟩;have h1:=Ad x BY;rw[hx]at h1;have BZ:act.eval x=.string ⟨s.toArray⟩:=h1;have B4:(⟨s.toArray⟩:Yao).size=s.length:=rfl;have hb:=Oi (P:=P) (isSl:=Yc) (len:=s.length) (cap:=s.length) (Kq hm λy hy=>Ad y (Vc y hy)) (Kq hn λy hy=>Ad y (Pa y hy)) c1 c2 c3 w;simp[Y1,ho,Yah,Yu hu,Yav,BZ,B4,hb,AmO]
   ·cases hk
 ·rename_i e l hx
  split at hk
  ·rename_i et Cs Cr
   have hd:=GR f Cs Cr;subst hd;split at hk
   ·cases hk
   rename_i te BR;obtain⟨i',d',z',fe⟩:=hT.facts BR;cases hs:(Ym e.size te.size&&Yz 0 te.size)with
   |false=>rw[hs]at hk;cases hk
   |true=>
    obtain⟨Bt,AP⟩:=andB hs;have Bt:=At Bt;simp only[hs,Ao]at hk;split at hk
    ·rename_i m n hm hn
     obtain⟨hc,hk⟩:=Dc hk;obtain⟨c1,c23⟩:=andB hc;obtain⟨c2,c3⟩:=andB c23;have c1:=AC c1;have c2:=AC c2;have c3:=AC c3;refine Sound.pure hk λbl2 _ ok0 base pl w act hr Ad=>?_;have h1:=Ad x BY;rw[hx]at h1;have BZ:DRep w (Ak ok0 base pl bl2 w).ok (.slice e) l [act.eval x]:=h1;simp only[DRep]at BZ;obtain⟨A,cc,xs,hv,Bx,C4,L2,DN⟩:=BZ;simp only[CK,Ef]at hv;have hb:=Oi (P:=P) (isSl:=Yo) (len:=l.length) (cap:=cc) (Kq hm λy hy=>Ad y (Vc y hy)) (Kq hn λy hy=>Ad y (Pa y hy)) c1 c2 (by omega) w;refine⟨.slice (if cc=m.toNat then A else A.map (·.add (m.toNat*te.size))) (n.toNat-m.toNat) (cc-m.toNat),?_,?_⟩
     ·simp[Y1,ho,Yah,Yu hu,Yav,hv,hb,run_sizeOf fe]
     ·show DRep w (Ak ok0 base pl bl2 w).ok (.slice e) ((l.take n.toNat).drop m.toNat) [_]
      simp only[DRep];have AK:((l.take n.toNat).drop m.toNat).length=n.toNat-m.toNat:=by simp;omega
      refine⟨_,_,(xs.take (n.toNat*e.size)).drop (m.toNat*e.size),by rw[AK],by rw[AK];omega,by omega,(L2.take _).drop _,λj v hj=>?_⟩;rw[KZ,LH]at hj;split at hj
      ·rename_i Ae
       obtain⟨ad,rfl,Pr,Hw⟩:=DN _ _ hj;by_cases HZ:cc=m.toNat
       ·exfalso
        have AlB:n.toNat=m.toNat:=by omega
        rw[AlB]at Ae;omega
       ·refine⟨ad.add (m.toNat*te.size),by rw[Y4 HZ];rfl,by rw[ML];exact Pr,?_⟩
        rw[MM,<-Bt];exact Hw
      ·cases hj
    ·cases hk
  ·cases hk
 ·
  rename_i bb ver hx;split at hk
  ·rename_i et Cs Cr
   have hd:=GR f Cs Cr;subst hd;split at hk
   ·cases hk
   rename_i te BR;obtain⟨i',d',z',fe⟩:=hT.facts BR;split at hk
   ·rename_i t0 e ver' l hb
    cases hs:(Ym ver ver'&&(Ym e.size te.size&&Yz 0 te.size))with
    |false=>rw[hs]at hk;cases hk
    |true=>
     obtain⟨AQ,M6⟩:=andB hs;obtain⟨Bt,AP⟩:=andB M6;have Bt:=At Bt;have:=At AQ;subst this;simp only[hs,Ao]at hk;split at hk
     ·rename_i m n hm hn
      obtain⟨hc,hk⟩:=Dc hk;obtain⟨c1,c23⟩:=andB hc;obtain⟨c2,c3⟩:=andB c23;have c1:=AC c1;have c2:=AC c2;have c3:=AC c3;refine Sound.pure hk λbl2 Aj ok0 base pl w act hr Ad=>?_;have Ay:bl2 bb=Yd (.row t0 e ver l):=(Aj bb (by simp)).trans hb;have h1:=Ad x BY;rw[hx]at h1;obtain⟨_,sv,Ab,hg,AO⟩:=h1;have Bc:=(AO t0 e ver l Ay).2 rfl;obtain⟨p,hp,hB⟩:=hr.blks bb _ Ay;have:p=.row sv Ab:=by have h2:pl bb=Yd (.row sv Ab):=hg;rw[hp]at h2;injection h2
      subst this;obtain⟨_,xs,BX,Ah⟩:=hB
      obtain⟨A,cc,Au,Bx⟩:∃A cc,sv=.slice A l.length cc/\l.length<=cc:=by
       rcases Ah.2 with⟨Au,hn⟩|⟨g,cap,AI,Au,_,_,BO,_⟩
       ·exact⟨Ye,0,by rw[Au,hn],by omega⟩
       ·exact⟨_,cap,Au,BO⟩
      have CF:=Oi (P:=P) (isSl:=Yo) (len:=l.length) (cap:=cc) (Kq hm λy hy=>Ad y (Vc y hy)) (Kq hn λy hy=>Ad y (Pa y hy)) c1 c2 (by omega) w;refine⟨.slice (if cc=m.toNat then A else A.map (·.add (m.toNat*te.size))) (n.toNat-m.toNat) (cc-m.toNat),?_,rfl,sv,Ab,hp,λt1 e1 CM l1 AV=>?_⟩
      ·simp[Y1,ho,Yah,Yu hu,Yav,Bc,Au,CF,run_sizeOf fe]
      ·have BW:bl2 bb=Yd (.row t1 e1 CM l1):=AV
       rw[Ay]at BW;injection BW with BW;injection BW with q1 q2 q3 q4;subst q2 q3;simp only[Jj]at q4;subst q4;refine⟨Aw _,λ_=>⟨by omega,by omega,A,_,l.length,cc,Au,rfl,λAe=>?_,λh0=>?_⟩⟩
       ·rw[Y4 (by omega),Bt]
       ·rw[h0]
        split
        ·rfl
        ·cases A<;>simp[Ya3]
     ·cases hk
   ·cases hk
  ·cases hk
 ·
  rename_i bb ver M9 Jd hx;split at hk
  ·rename_i et Cs Cr
   have hd:=GR f Cs Cr;subst hd;split at hk
   ·cases hk
   rename_i te BR;obtain⟨i',d',z',fe⟩:=hT.facts BR;split at hk
   ·rename_i t0 e ver' l hb
    cases hs:(Ym ver ver'&&(Ym e.size te.size&&Yz 0 te.size))with
    |false=>rw[hs]at hk;cases hk
    |true=>
     obtain⟨AQ,M6⟩:=andB hs;obtain⟨Bt,AP⟩:=andB M6;have Bt:=At Bt;have:=At AQ;subst this;simp only[hs,Ao]at hk;split at hk
     ·rename_i m n hm hn
      obtain⟨hc,hk⟩:=Dc hk;obtain⟨c1,c23⟩:=andB hc;obtain⟨c2,c3⟩:=andB c23;have c1:=AC c1;have c2:=AC c2;have c3:=AC c3;refine Sound.pure hk λbl2 Aj ok0 base pl w act hr Ad=>?_;have Ay:bl2 bb=Yd (.row t0 e ver l):=(Aj bb (by simp)).trans hb;have h1:=Ad x BY;rw[hx]at h1;obtain⟨_,sv,Ab,hg,AO⟩:=h1;obtain⟨r1,r2,A,A',nn,cc,Au,Bc,hA,hA0⟩:=(AO t0 e ver l Ay).2 rfl;obtain⟨p,hp,hB⟩:=hr.blks bb _ Ay;have:p=.row sv Ab:=by have h2:pl bb=Yd (.row sv Ab):=hg;rw[hp]at h2;injection h2
      subst this;obtain⟨_,xs,BX,Ah⟩:=hB
      have Bx:l.length<=cc:=by
       rcases Ah.2 with⟨Dk,hn⟩|⟨g,cap,AI,Dk,_,_,BO,_⟩
       ·omega
       ·rw[Au]at Dk;injection Dk with _ _ e3;omega
      have CF:=Oi (P:=P) (isSl:=Yo) (len:=Jd-M9) (cap:=cc-M9) (Kq hm λy hy=>Ad y (Vc y hy)) (Kq hn λy hy=>Ad y (Pa y hy)) c1 c2 (by omega) w;refine⟨.slice (if cc-M9=m.toNat then A' else A'.map (·.add (m.toNat*te.size))) (n.toNat-m.toNat) (cc-M9-m.toNat),?_,rfl,sv,Ab,hp,λt1 e1 CM l1 AV=>?_⟩
      ·simp[Y1,ho,Yah,Yu hu,Yav,Bc,CF,run_sizeOf fe]
      ·have BW:bl2 bb=Yd (.row t1 e1 CM l1):=AV
       rw[Ay]at BW;injection BW with BW;injection BW with q1 q2 q3 q4;subst q2 q3;simp only[Jj]at q4;subst q4;have e1:M9+n.toNat-(M9+m.toNat)=n.toNat-m.toNat:=by omega
       have e2:cc-M9-m.toNat=cc-(M9+m.toNat):=by omega
       refine⟨Aw _,λ_=>⟨by omega,by omega,A,_,nn,cc,Au,by rw[e1,e2],λAe=>?_,λh0=>?_⟩⟩
       ·rw[Y4 (by omega),hA (by omega),<-Bt]
        cases A with
        |none=>rfl
        |some ad=>simp only[Ft,MM];rw[NY]
       ·have h1:M9=0:=by omega
        have h2:m.toNat=0:=by omega
        rw[h2];split
        ·exact hA0 h1
        ·rw[hA0 h1]
         cases A<;>simp[Ya3]
     ·cases hk
   ·cases hk
  ·cases hk
 ·
  rename_i b off hx;split at hk
  ·rename_i et n Cs Cr Ic bP
   have hd:=fP f Cs Cr;subst hd;have Ic:lo=Ye:=by cases lo<;>simp_all
   have bP:hi=Ye:=by cases hi<;>simp_all
   subst Ic bP;split at hk
   ·cases hk
   rename_i te BR;obtain⟨i',d',z',fe⟩:=hT.facts BR;split at hk
   ·rename_i e he
    cases hs:(Ym e.size te.size&&Yz 0 n)with
    |false=>rw[hs]at hk;cases hk
    |true=>obtain⟨Bt,AP⟩:=andB hs;have AP:0<n:=IC AP;simp only[hs,Ao]at hk;refine Sound.pure hk λbl2 _ ok0 base pl w act hr Ad=>?_;have h1:=Ad x BY;rw[hx]at h1;obtain⟨g,hg,hv⟩:=h1;have hb:=Oi (P:=P) (isSl:=Yc) (len:=n) (cap:=n) (a:=act) (lo:=Ye) (hi:=Ye) (m:=0) (n:=(n:Yi)) (.inl ⟨rfl,rfl⟩) (.inl ⟨rfl,rfl⟩) (by omega) (by omega) (by omega) w;refine⟨.slice (Yd ⟨g,off,Ye⟩) n n,?_,g,hg,rfl⟩;simp only[Option.map_none,Int.toNat_zero,dO]at hb;simp[Y1,ho,Yah,Yu hu,Yak,hv,hb,run_sizeOf fe,Nat.ne_of_gt AP,Ya3]
   ·cases hk
  ·cases hk
 ·
  rename_i hx;split at hk
  ·rename_i et Cs Cr
   have hd:=GR f Cs Cr;subst hd;split at hk
   ·cases hk
   rename_i te BR;obtain⟨i',d',z',fe⟩:=hT.facts BR;split at hk
   ·rename_i m n hm hn
    obtain⟨hc,hk⟩:=Dc hk;obtain⟨c1,c23⟩:=andB hc;obtain⟨c2,c3⟩:=andB c23;have c1:=AC c1;have c2:=AC c2;have c3:=AC c3;refine Sound.pure hk λbl2 Aj ok0 base pl w act hr Ad=>⟨.slice Ye 0 0,?_,rfl⟩;have h1:=Ad x BY;rw[hx]at h1;have Bc:act.eval x=.slice Ye 0 0:=h1;have CF:=Oi (P:=P) (isSl:=Yo) (len:=0) (cap:=0) (Kq hm λy hy=>Ad y (Vc y hy)) (Kq hn λy hy=>Ad y (Pa y hy)) c1 c2 (by omega) w;have ADO:m=0:=by omega
    have J7:n=0:=by omega
    subst ADO J7;simp[Y1,ho,Yah,Yu hu,Yav,Bc,CF,run_sizeOf fe]
   ·cases hk
  ·cases hk
 ·cases hk
theorem SD{w:Yx}{b b':Yk}{e:Yq}{size:Yk}{v:Yp}{n:Yk}{xs:Ya Yp}(h:w.ownsRow b e size v n xs)(hb:b'<=b):w.ownsRow b' e size v n xs:=by
 refine⟨h.1,?_⟩;rcases h.2 with h2|⟨g,cap,AI,hv,hg,r⟩
 ·exact .inl h2
 ·exact .inr ⟨g,cap,AI,hv,BH hb hg,r⟩
def Reads(w:Yx)(okI:Yk->Prop)(e:Ty)(l:Ya e.den)(src:Yp):Prop:=
 ∃A c ys,src=.slice A l.length c/\l.length<=c/\c<=Yaj/\DList (λx u=>DRep w okI e x u) l ys/\∀j v,ys[j]?=Yd v->∃ad,A=Yd ad/\w.cell? (ad.add j)=Yd v
theorem fT{w:Yx}{ok:Yk->Prop}(base:Yk){t ty et:Yq}{te:TI}{i:YI}{d:YC}{z:Yp}(fe:TFacts P et te i d z)(ht:P.underlying t=Yd (.slice et)){e:Ty}(J2:e.size=te.size)(Hd:0<te.size)(DX:0<te.bytes){v:Yp}{n:Yk}{xs:Ya Yp}(Ah:w.ownsRow base et e.size v n xs){src:Yp}{l:Ya e.den}(FA:Reads w ok e l src)(Cj:(n+l.length)*te.bytes<=Cn)(BM:base<=w.heap.size):∃v' w' ys,(YE #[t,t] ty #[v,src]).run P w=.ok v' w'/\w'.ownsRow base et e.size v' (n+l.length) (xs++ys)/\w.grownBy w' v.ownBlock/\(v'.ownBlock=v.ownBlock\/v'.ownBlock=Yd w.heap.size)/\DList (λx u=>DRep w ok e x u) l ys:=by
 have H6:i.size=e.size:=by rw[<-fe.size,J2]
 have Km:z.cells.size=e.size:=by have:=fe.len;rw[FV]at this;rw[this,H6]
 obtain⟨A,c,ys,rfl,Bx,C4,hd,DN⟩:=FA;have hl:ys.length=l.length*e.size:=hd.length;have h1:=hd.oneCell;have xM:(n+l.length)*i.bytes<=140737488355328:=by rw[<-fe.bytes];exact Cj
 have Lz:n+l.length<=Yaj:=by have h2:n+l.length<=(n+l.length)*te.bytes:=dC _ DX;simp only[Cn]at Cj;simp only[Yaj];omega
 cases A with
 |some ad=>
  obtain⟨v',w',AE,h2,h3,_,h5⟩:=run_append_own_at (P:=P) w base t ty et i z e.size i.bytes ht fe.info fe.zero H6 rfl Km (by omega) v n xs Ah ad l.length c ys hl
   (λj u hj=>by obtain⟨bH,ha,hc⟩:=DN j u hj;injection ha with ha;subst ha;exact hc) h1 Lz xM BM
  exact⟨v',w',ys,AE,h2,h3,h5,hd⟩
 |none=>
  have hy:ys=[]:=by
   cases ys with
   |nil=>rfl
   |cons y ys=>obtain⟨ad,ha,_⟩:=DN 0 y rfl;cases ha
  subst hy
  have EN:l.length=0:=by
   rcases RP l.length with h0|h0
   ·exact h0
   ·have:0<l.length*e.size:=Nat.mul_pos h0 (by omega)
    simp at hl;omega
  refine⟨v,w,[],?_,by simpa [EN]using Ah,⟨rfl,rfl,rfl,Aw _,λ_ _ _=>rfl⟩,.inl rfl,hd⟩;rcases Ah.2 with⟨rfl,rfl⟩|⟨g,cap,AI,rfl,_,_,BO,_⟩
  ·simp[YE,Yu ht,Yac,YT,fe.info,Yaf,YR,EN]
  ·simp[YE,Yu ht,Yac,YT,fe.info,Yaf,YR,EN,BO,YaK]
theorem Reads.of_own{w:Yx}{okI:Yk->Prop}{base:Yk}{t:Yq}{e:Ty}{l:Ya e.den}{sv:Yp}{xs:Ya Yp}(hd:DList (λx u=>DRep w okI e x u) l xs)(ho:w.ownsRow base t e.size sv l.length xs):Reads w okI e l sv:=by
 have Ah:=ho;rcases ho.2 with⟨rfl,hn⟩|⟨g,cap,AI,rfl,BM,hh,BO,C4,Bn,I4⟩
 ·have hl:l=[]:=FT hn
  subst hl;simp only[DList]at hd;subst hd;exact⟨Ye,0,[],rfl,by simp,by simp[Yaj],rfl,by simp⟩
 ·exact⟨Yd ⟨g,0,Ye⟩,cap,xs,rfl,BO,C4,hd,λj u hj=>⟨_,rfl,Ah.cells (g:=g) rfl j u hj⟩⟩
theorem Qm{E:Env}{blp:Yk->Yb Blk}(hb:Eg E){e:Ty}{y:V}{l:Ya e.den}{rd:Ya Yk}(h:PV blp e y=Yd (l,rd))(AM:∀b∈rd,∀B,blp b=Yd B->E.bl b=Yd B){v:Yp}(hv:VRep E y v):Reads E.w E.ok e l v:=by
 unfold PV at h;split at h
 ·simp only[Af,Bv]at h
  obtain⟨rfl,_⟩:=h;have:v=.slice Ye 0 0:=hv;subst this;exact⟨Ye,0,[],rfl,by simp,by simp[Yaj],rfl,by simp⟩
 ·split at h
  ·rename_i he
   subst he;simp only[Af,Bv]at h;obtain⟨rfl,_⟩:=h;have Cq:DRep E.w E.ok (.slice _) _ [v]:=hv;simp only[DRep]at Cq;obtain⟨A,c,xs,e1,hl,hc,hd,hx⟩:=Cq;simp only[CK,Ef]at e1;exact⟨A,c,xs,e1,hl,hc,hd,λj u hj=>by obtain⟨ad,h1,_,h2⟩:=hx j u hj;exact⟨ad,h1,h2⟩⟩
  ·cases h
 ·split at h
  ·rename_i he
   subst he;simp only[Af,Bv]at h;obtain⟨rfl,_⟩:=h;have Cq:DRep E.w E.ok (.slice _) _ [v]:=(show _/\_ from hv).1;simp only[DRep]at Cq;obtain⟨A,c,xs,e1,hl,hc,hd,hx⟩:=Cq;simp only[CK,Ef]at e1;exact⟨A,c,xs,e1,hl,hc,hd,λj u hj=>by obtain⟨ad,h1,_,h2⟩:=hx j u hj;exact⟨ad,h1,h2⟩⟩
  ·cases h
 ·rename_i b ver
  cases hr:G6 blp b ver e with
  |none=>rw[hr]at h;cases h
  |some l'=>rw[hr]at h;simp only[Ft,Af,Bv]at h;obtain⟨rfl,rfl⟩:=h;obtain⟨t,sv,xs,An,Bk,rfl,hd,ho⟩:=WB hb (λt e ver l h=>AM b (by simp) _ h) hr hv;exact Reads.of_own hd ho
 ·rename_i b ver i j
  cases hr:G6 blp b ver e with
  |none=>rw[hr]at h;cases h
  |some l'=>rw[hr]at h;simp only[Ft,Af,Bv]at h;obtain⟨rfl,rfl⟩:=h;obtain⟨t,sv,xs,hB,An,Bk,hd,ho⟩:=WA hb (λt e ver l h=>AM b (by simp) _ h) hr;obtain⟨_,sv2,JD,Ge,AO⟩:=hv;rw[Bk]at Ge;injection Ge with Ge;injection Ge with Ge _;subst Ge;obtain⟨A,c,ys,q1,q2,q3,q4,q5⟩:=fH ((AO _ _ _ _ An).2 rfl) hd ho;exact⟨A,c,ys,q1,q2,q3,q4,λk u hk=>by obtain⟨ad,r1,_,r3⟩:=q5 k u hk;exact⟨ad,r1,r3⟩⟩
 ·cases h
theorem SE{w w':Yx}{a:Act}{x y:Y0}{c:Call}{t:Yq}(ho:o.op=.call c)(hc:c.callee=.builtin .append)(ha:c.args.toList=[x,y])(ht:c.argTypes.toList=[t,t]){v:Yp}(h:(YE #[t,t] o.type #[a.eval x,a.eval y]).run P w=.ok v w'):(Y1 a.eval o).run P w=.ok (.value v) w':=by
 have h1:c.args=#[x,y]:=by rw[<-Gi (xs:=c.args),ha]
 have h2:c.argTypes=#[t,t]:=by rw[<-Gi (xs:=c.argTypes),ht]
 simp[Y1,ho,resolve,hc,h1,h2,invoke,builtin,h]
theorem AmQ{T:Yq->Yb TI}(hT:TOk P T){kk:K β}{c:Call}(ho:o.op=.call c)(hc:c.callee=.builtin .append){x y:Y0}{t:Yq}{nx:Yk}(ha:c.args.toList=[x,y])(Cc:c.argTypes.toList=[t,t])(hk:eP T bl nx t (ρ x) (ρ y) kk=Yd r):Sound P o ρ bl kk r:=by
 have Ba:c.args=#[x,y]:=by rw[<-Gi (xs:=c.args),ha]
 have BY:x∈o.op.operands:=by simp[ho,Yt,YF,Ba]
 have EB:y∈o.op.operands:=by simp[ho,Yt,YF,Ba]
 unfold eP at hk;split at hk
 ·cases hk
 rename_i ti ht;obtain⟨i,d,z,f⟩:=hT.facts ht;split at hk
 ·rename_i et Cs Cr
  have hd:=GR f Cs Cr;subst hd;split at hk
  ·cases hk
  rename_i te BR;obtain⟨i',d',z',fe⟩:=hT.facts BR;split at hk
  ·cases hk
  rename_i e Ry;cases hs:(Ym e.size te.size&&(Yz 0 te.size&&Yz 0 te.bytes))with
  |false=>rw[hs]at hk;cases hk
  |true=>
   obtain⟨Bt,KR⟩:=andB hs;obtain⟨AP,Et⟩:=andB KR;have Bt:=At Bt;have AP:=Dp AP;have Et:=Dp Et;simp only[hs,Ao]at hk;split at hk
   ·cases hk
   rename_i new rd FA;split at hk
   ·
    rename_i hx;split at hk
    ·rename_i hn
     obtain⟨Cj,hk⟩:=Dc hk;have Cj:=AC Cj;refine⟨_,_,_,hk,λbl2 Aj=>?_⟩;have Cz:bl2 nx=Ye:=(Aj nx (by simp)).trans hn;intro ok0 base pl w a hr Ad K Q hK;have hv:a.eval x=.slice Ye 0 0:=by have:=Ad x BY;rw[hx]at this;exact this
     have Ek:Reads w (Ak ok0 base pl bl2 w).ok e new (a.eval y):=Qm hr.blksOk FA (λb hb B hB=>(Aj b (by simp[hb])).trans hB) (Ad y EB);obtain⟨v',w',ys,AE,Ah,CG,J6,L2⟩:=fT (P:=P) w.heap.size fe f.under (ty:=o.type) Bt AP Et (YM w w.heap.size et e.size) Ek (by simpa using Cj) (Aw _);have UR:w.grownBy w' Ye:=CG;have hp:∀g,(Pl.row v' []).has g->w.heap.size<=g:=λg hg=>(Ah.lt g (Pl.has_row hg)).1;have AY:Step pl bl2 w (upd pl nx (.row v' [])) (upd bl2 nx (.row et e 0 new)) w':=Step.new hr Cz UR hp;refine HD (SE ho hc ha Cc (by rw[hv];exact AE)) (hK v' (upd pl nx (.row v' [])) w' ?_ AY ?_)
     ·refine RelB.new hr Cz UR hp ⟨rfl,ys,L2.mono λx u hu=>hu.mono AY.ext.heap,?_⟩
      simp only[CQ,DT]at Ah;exact SD Ah hr.baseLe
     ·refine⟨?_,v',[],by simp[Ak,upd],λt1 e1 CM l1 h1=>?_⟩
      ·rcases Ah.2 with⟨rfl,_⟩|⟨g,cap,AI,rfl,_⟩<;>rfl
      ·simp only[Ak,updL,upd,CR,Af]at h1
       injection h1 with q1 q2 q3 q4;subst q3;exact⟨Aw _,λ_=>rfl⟩
    ·cases hk
   ·
    rename_i b ver hx;split at hk
    ·rename_i t0 e0 ver' l hb
     cases y3:(Ym ver ver'&&Ym t0 et)with
     |false=>rw[y3]at hk;cases hk
     |true=>
      obtain⟨AQ,Vx⟩:=andB y3;have:=At AQ;subst this;have:=At Vx;subst this;simp only[y3,Ao]at hk;split at hk
      ·rename_i he
       subst he;obtain⟨Cj,hk⟩:=Dc hk;have Cj:=AC Cj;refine⟨_,_,_,hk,λbl2 Aj=>?_⟩;have Ay:bl2 b=Yd (.row t0 e0 ver l):=(Aj b (by simp)).trans hb;intro ok0 base pl w a hr Ad K Q hK;have hv:=Ad x BY;rw[hx]at hv;obtain⟨_,sv,Ab,hg,AO⟩:=hv;have Bc:=(AO t0 e0 ver l Ay).2 rfl;obtain⟨p,hp,hB⟩:=hr.blks b _ Ay;have:p=.row sv Ab:=by have h2:pl b=Yd (.row sv Ab):=hg;rw[hp]at h2;injection h2
       subst this;obtain⟨h0,xs,BX,AE9⟩:=hB;subst h0;have Ek:Reads w (Ak ok0 base pl bl2 w).ok e0 new (a.eval y):=Qm hr.blksOk FA (λb hb B hB=>(Aj b (by simp[hb])).trans hB) (Ad y EB);obtain⟨v',w',ys,AE,Ah,CG,J6,L2⟩:=fT (P:=P) base fe f.under (ty:=o.type) Bt AP Et AE9 Ek Cj hr.baseLe
       have Als:v'.ownBlock=sv.ownBlock\/∀g,v'.ownBlock=Yd g->w.heap.size<=g:=by
        rcases J6 with h|h
        ·exact .inl h
        ·exact .inr λg hg=>by rw[h]at hg;injection hg with hg;exact LN hg
       have AY:=Step.grown (l':=l++new) (ver':=ver+1) hr Ay hp CG Als ⟨by omega,λh=>by omega⟩;refine HD (SE ho hc ha Cc (by rw[Bc];exact AE)) (hK v' (upd pl b (.row v' [])) w' ?_ AY ?_)
       ·refine RelB.grown hr Ay hp CG Als ⟨by omega,λh=>by omega⟩ ⟨rfl,xs++ys,(BX.mono λx u hu=>hu.mono AY.ext.heap).append (L2.mono λx u hu=>hu.mono AY.ext.heap),?_⟩
        rw[Bd];exact Ah
       ·refine⟨?_,v',[],by simp[Ak,upd],λt1 e1 CM l1 h1=>?_⟩
        ·rcases Ah.2 with⟨rfl,_⟩|⟨g,cap,AI,rfl,_⟩<;>rfl
        ·simp only[Ak,updL,upd,CR,Af]at h1
         injection h1 with q1 q2 q3 q4;subst q3;exact⟨Aw _,λ_=>rfl⟩
      ·cases hk
    ·cases hk
   ·cases hk
 ·cases hk
end
end Go.Lift
namespace Go.Lift
open Go.RowKit
theorem Aac(off:Yk):∀(vs:Ya Yp)(k:Yk)(cs:YX Yp),off+k+vs.length<=cs.size->((vs.zipIdx k).foldl (λ(cs:YX Yp)(p:Yp×Yk)=>cs.setIfInBounds (off+p.2) p.1) cs).toList=cs.toList.take (off+k)++vs++cs.toList.drop (off+k+vs.length)
 |[],k,cs,h=>by simp
 |v::vs,k,cs,h=>by simp only[List.zipIdx_cons,Sa];simp only[Be]at h;rw[Aac off vs (k+1) _ (by simp;omega)];have e:=list_seg_step cs.toList (off+k) v vs (by simp;omega);simpa [Array.toList_setIfInBounds,Sd]using e
theorem Aad(off:Yk)(v:Yp)(cs:YX Yp)(h:off+v.cells.toList.length<=cs.size):(v.cells.zipIdx.foldl (λcs(c,j)=>cs.setIfInBounds (off+j) c) cs)=(cs.toList.take off++v.cells.toList++cs.toList.drop (off+v.cells.toList.length)).toArray:=by
 apply HC;have h1:=Aac off v.cells.toList 0 cs (by simpa using h);simp only[Ybf]at h1;rw[<-Array.foldl_toList];simpa using h1
section
variable{P:Yv}{o:Oper}{ρ:Y0->V}{bl:Yk->Yb Blk}{β:Type}{r:β}
theorem fU{E:Env}{T:Yq->Yb TI}(place:Yk->Yb (Yk×Yk))(ti:TI)(AEe:∀i v cs0 B5 ps,Hj ti T ((i,v)::B5)=Yd ps->v.cells=Yd cs0->∃off,place i=Yd (off,cs0.length)/\∃If,Hj ti T B5=Yd If/\ps=(off,cs0)::If):∀(parts:Ya (Yk×V))(vals:Ya (Yk×Yp))(ps:Ya (Yk×Ya C))(cs cs':Ya C)(vs:Ya Yp),Hj ti T parts=Yd ps->vals.map (·.1)=parts.map (·.1)->(∀(j:Yk)(p:Yk×V)(q:Yk×Yp),parts[j]?=Yd p->vals[j]?=Yd q->VRep E p.2 q.2)->CReps E cs vs->MO cs ps=Yd cs'->∃us,YaC place vs.toArray vals=Yd us.toArray/\CReps E cs' us:=by
 intro parts
 induction parts with
 |nil=>
  intro vals ps cs cs' vs hp hm hv hc hf;simp only[Hj,Af]at hp;subst hp;simp only[MO,Af]at hf;subst hf;cases vals with
  |nil=>exact⟨vs,rfl,hc⟩
  |cons q vals=>simp at hm
 |cons p parts ih=>
  intro vals ps cs cs' vs hp hm hv hc hf;obtain⟨i,v⟩:=p;cases vals with
  |nil=>simp at hm
  |cons q vals=>
   obtain⟨i',x⟩:=q;simp only[CP,CK]at hm;obtain⟨hi,hm⟩:=hm;have hi:i'=i:=hi;subst hi
   have P1:∃cs0,v.cells=Yd cs0:=by
    simp only[Hj]at hp;cases P1:v.cells with
    |some cs0=>exact⟨cs0,rfl⟩
    |none=>rw[P1]at hp;simp at hp
   obtain⟨cs0,P1⟩:=P1;obtain⟨off,h1,If,h2,rfl⟩:=AEe i' v cs0 parts ps hp P1;simp only[MO]at hf;split at hf
   ·rename_i cs1 E3
    have hx:=VRep.cells_of P1 (hv 0 _ _ rfl rfl);have Cp:=hx.length;obtain⟨s1,s2⟩:=Of hc hx E3;obtain⟨us,h3,h4⟩:=ih vals If cs1 cs' _ h2 hm (λj p q hp hq=>hv (j+1) p q (by simpa using hp) (by simpa using hq)) s1 hf;refine⟨us,?_,h4⟩;simp only at Cp s2 h3;have B4:x.cells.size=cs0.length:=by simpa using Cp
    have AEA:¬(off+x.cells.size>vs.toArray.size):=by simp at s2⊢;omega
    simp only[YaC,h1];rw[Y4 (by simp only[B4,ne_eq,VZ,decide_false,Ko,HB];rw[<-B4];exact AEA),Aad off x vs.toArray (by simpa using s2)];exact h3
   ·cases hf
theorem AmR(fs:Ya Field)(hk:fs.all (λf=>(P.info? f.type).isSome&&(P.underlying f.type).isSome)=Yo)(w:Yx):(fs.mapM λf=>(do pure (f.offset,<-Yac f.type):Sem (Yk×Yk))).run P w=.ok (fs.map λf=>(f.offset,P.cellsOf f.type)) w:=by
 induction fs with
 |nil=>rfl
 |cons f fs ih=>
  simp only[List.all_cons,CO]at hk;obtain⟨⟨h1,_⟩,h2⟩:=hk;obtain⟨i,hi⟩:=dA.1 h1;have hs:(Yac f.type).run P w=.ok (P.cellsOf f.type) w:=by simp[Yac,YT,hi,YaG]
  simp only[List.mapM_cons,YA,hs,Y5,YO,ih (by simpa using h2),CP]
theorem AmS{ti:TI}{T:Yq->Yb TI}(AK:ti.len=Ye){i:Yk}{v:V}{cs0:Ya C}{B5:Ya (Yk×V)}{ps:Ya (Yk×Ya C)}(h:Hj ti T ((i,v)::B5)=Yd ps)(hv:v.cells=Yd cs0):∃off g,ti.flds[i]?=Yd (off,cs0.length,g)/\∃If,Hj ti T B5=Yd If/\ps=(off,cs0)::If:=by
 simp only[Hj,hv,AK]at h;split at h
 ·rename_i cs1 yU he hr
  simp only[Af]at he;subst he;split at h
  ·rename_i off n g hf
   cases hb:Ym cs0.length n with
   |false=>rw[hb]at h;cases h
   |true=>have:=At hb;subst this;simp only[hb,Ao,Af]at h;exact⟨off,g,hf,yU,hr,h.symm⟩
  ·cases h
 ·cases h
theorem Aae{ti:TI}{T:Yq->Yb TI}{n:Yk}{e:Yq}{te:TI}(AK:ti.len=Yd n)(Cs:ti.elem=Yd e)(BR:T e=Yd te){i:Yk}{v:V}{cs0:Ya C}{B5:Ya (Yk×V)}{ps:Ya (Yk×Ya C)}(h:Hj ti T ((i,v)::B5)=Yd ps)(hv:v.cells=Yd cs0):cs0.length=te.size/\∃If,Hj ti T B5=Yd If/\ps=(i*te.size,cs0)::If:=by
 simp only[Hj,hv,AK,Cs,BR]at h;split at h
 ·rename_i cs1 yU he hr
  simp only[Af]at he;subst he;cases hb:Ym cs0.length te.size with
  |false=>rw[hb]at h;cases h
  |true=>simp only[hb,Ao,Af]at h;exact⟨At hb,yU,hr,h.symm⟩
 ·cases h
theorem AmT{T:Yq->Yb TI}(hT:TOk P T){kk:K β}{t:Yq}{parts:YX (Yk×Y0)}(ho:o.op=.build t parts){ti:TI}(ht:T t=Yd ti)(EM:ti.agg=Yo){ps:Ya (Yk×Ya C)}(hp:Hj ti T (parts.toList.map λp=>(p.1,ρ p.2))=Yd ps){cs:Ya C}(hf:MO ti.zero ps=Yd cs)(hk:kk (.agg cs) [] []=Yd r):Sound P o ρ bl kk r:=by
 obtain⟨i,d,z,f⟩:=hT.facts ht;have hu:=f.under;refine Sound.pure hk λbl2 _ ok0 base pl w a hr Ad=>?_;have V6:CReps (Ak ok0 base pl bl2 w) ti.zero z.cells.toList:=by rw[f.zeroC];exact MS f.one
 have NJ:∀(j:Yk)(p:Yk×V)(q:Yk×Yp),(parts.toList.map λp=>(p.1,ρ p.2))[j]?=Yd p->(parts.toList.map λp=>(p.1,a.eval p.2))[j]?=Yd q->VRep (Ak ok0 base pl bl2 w) p.2 q.2:=by
  intro j p q h1 h2;rw[FJ]at h1 h2;cases hj:parts.toList[j]? with
  |none=>rw[hj]at h1;cases h1
  |some x=>rw[hj]at h1 h2;simp only[Ft,Af]at h1 h2;subst h1 h2;exact Ad x.2 (by simp only[ho,Yt];exact dS.2 (Fw.2 ⟨x,CN hj,rfl⟩))
 have L4:(parts.toList.map λp=>(p.1,a.eval p.2)).map (·.1)=(parts.toList.map λp=>(p.1,ρ p.2)).map (·.1):=by simp
 rw[f.agg]at EM;unfold Jm at EM;rw[hu]at EM;cases d<;>try(simp at EM;done)
 ·
  rename_i n e;have Cs:ti.elem=Yd e:=by rw[f.elem];rfl
  have AK:ti.len=Yd n:=by rw[f.alen];rfl
  have DP:=f.known;simp only[Qg,CO]at DP;obtain⟨ie,Alh⟩:=dA.1 DP.1;have B4:(Yac e).run P w=.ok ie.size w:=by simp[Yac,YT,Alh]
  cases M3:(parts.toList.map λp=>(p.1,ρ p.2))with
  |nil=>
   rw[M3]at hp;simp only[Hj,Af]at hp;subst hp;simp only[MO,Af]at hf;subst hf;have UK:parts.toList=[]:=by simpa using M3
   have c8:parts=#[]:=by simpa using UK
   exact⟨.agg z.cells,by simp[Y1,ho,Instr.build,Yax,YT,f.info,f.zero,Yu hu,B4,c8,YaC],z.cells.toList,V6,by simp⟩
  |cons p0 B5=>
   have BR:∃te,T e=Yd te:=by
    rw[M3]at hp;obtain⟨i0,v0⟩:=p0;simp only[Hj,AK,Cs]at hp;cases BR:T e with
    |some te=>exact⟨te,rfl⟩
    |none=>rw[BR]at hp;split at hp<;>simp at hp
   obtain⟨te,BR⟩:=BR;obtain⟨i',d',z',fe⟩:=hT.facts BR
   have J2:ie.size=te.size:=by have h1:=fe.info;rw[Alh]at h1;injection h1 with h1;rw[fe.size,h1]
   obtain⟨us,h1,h2⟩:=fU (T:=T) (E:=Ak ok0 base pl bl2 w) (λi=>Yd (i*ie.size,ie.size)) ti
    (λi v cs0 B5 ps h hv=>by obtain⟨h1,If,h2,h3⟩:=Aae AK Cs BR h hv;exact⟨i*te.size,by rw[J2,h1],If,h2,h3⟩) _ _ _ _ _ _ hp L4 NJ V6 hf
   refine⟨.agg us.toArray,?_,us,h2,by simp⟩;simp only[Gi]at h1;simp[Y1,ho,Instr.build,Yax,YT,f.info,f.zero,Yu hu,B4,h1]
 ·
  rename_i fs;have AK:ti.len=Ye:=by rw[f.alen];rfl
  have DP:=f.known;simp only[Qg]at DP;have Bk:=AmR (P:=P) fs.toList DP w
  have Pt:(fs.mapM λf=>(do pure (f.offset,<-Yac f.type):Sem (Yk×Yk))).run P w=.ok (fs.toList.map λf=>(f.offset,P.cellsOf f.type)).toArray w:=by rw[Array.mapM_eq_mapM_toList,Sem.run_map,Bk];rfl
  obtain⟨us,h1,h2⟩:=fU (T:=T) (E:=Ak ok0 base pl bl2 w) ((fs.toList.map λf=>(f.offset,P.cellsOf f.type)).toArray[·]?) ti
   (λi v cs0 B5 ps h hv=>by
    obtain⟨off,g,h1,If,h2,h3⟩:=AmS AK h hv;refine⟨off,?_,If,h2,h3⟩;rw[f.flds]at h1;simp only[W0,FJ]at h1;simp only[PE,FJ];cases Ala:fs.toList[i]? with
    |none=>rw[Ala]at h1;cases h1
    |some fd=>rw[Ala]at h1;simp only[Ft,Af,Bv]at h1⊢;exact⟨h1.1,h1.2.1⟩) _ _ _ _ _ _ hp L4 NJ V6 hf
  refine⟨.agg us.toArray,?_,us,h2,by simp⟩
  have Ge:(fs.mapM λf=>Prod.mk f.offset <$> Yac f.type:Sem (YX (Yk×Yk))).run P w=.ok (fs.toList.map λf=>(f.offset,P.cellsOf f.type)).toArray w:=by simpa only[map_eq_pure_bind]using Pt
  simp only[Gi]at h1;simp only[Y1,ho,Instr.build,Yax,YT,f.info,f.zero,Yu hu,YA,Ybi,Y5,YO,Pt,PI,h1]
theorem Aaf{T:Yq->Yb TI}(hT:TOk P T){kk:K β}{t:Yq}{parts:YX (Yk×Y0)}(ho:o.op=.build t parts)(hk:Wv T t (parts.toList.map λp=>(p.1,ρ p.2)) kk=Yd r):Sound P o ρ bl kk r:=by
 unfold Wv at hk;split at hk
 ·rename_i ti ht
  cases EM:ti.agg with
  |false=>rw[EM]at hk;cases hk
  |true=>
   simp only[EM,Ao]at hk;split at hk
   ·rename_i ps Ie
    split at hk
    ·rename_i cs Bn;exact AmT hT ho ht EM Ie Bn hk
    ·cases hk
   ·cases hk
 ·cases hk
def repL(n:Yk)(l:Ya Yp):Ya Yp:=
 match n with
 |0=>[]
 |n+1=>l++repL n l
theorem Aag(l:Ya Yp):∀n,repL n l++l=l++repL n l
 |0=>by simp[repL]
 |n+1=>by simp only[repL,C1];rw[Aag l n]
theorem Aah{E:Env}{cs:Ya C}{vs:Ya Yp}(h:CReps E cs vs):∀n,CReps E (repC n cs) (repL n vs)
 |0=>rfl
 |n+1=>h.append (Aah h n)
theorem SF(z:YX Yp)(hz:0<z.size):∀n,(Yay z (n*z.size)).toList=repL n z.toList
 |0=>by simp[Yay,repL]
 |n+1=>by
  have ih:=SF z hz n
  have e:(Yay z ((n+1)*z.size)).toList=(Yay z (n*z.size)).toList++z.toList:=by
   simp only[Yay,PI,Array.toList_range,DJ,List.range_add,LK];congr 1;apply RR;intro j;simp only[FJ,PM];by_cases hj:j<z.size
   ·rw[List.getElem?_range hj]
    have hm:(n*z.size+j)%z.size=j:=by rw[Nat.mul_comm,Nat.mul_add_mod,Nat.mod_eq_of_lt hj]
    simp[hm,hj]
   ·have h1:(List.range z.size)[j]?=Ye:=by simp;omega
    rw[h1];simp;omega
  rw[e,ih,Aag];rfl
theorem DList.rep{w:Yx}{ok:Yk->Prop}{e:Ty}{x:e.den}{vs:Ya Yp}(h:DRep w ok e x vs):∀n,DList (λx u=>DRep w ok e x u) (Y8 n x) (repL n vs)
 |0=>rfl
 |n+1=>⟨vs,repL n vs,rfl,h,DList.rep h n⟩
theorem Aai{kk:K β}{nx:Yk}{et:Yq}{e:Ty}{l:Ya e.den}(hn:bl nx=Ye)(hk:kk (.c (.row nx 0)) [nx] [(nx,.row et e 0 l)]=Yd r)(wX:l.length<=Yaj)(AE:∀(bl2:Yk->Yb Blk)(ok0:OK0 P)(base:Yk)(pl:Yk->Yb Pl)(w:Yx)(a:Act),RelB ok0 base pl bl2 w->(∀x∈o.op.operands,VRep (Ak ok0 base pl bl2 w) (ρ x) (a.eval x))->∃us:Ya Yp,(Y1 a.eval o).run P w=.ok (.value (.slice (Yd ⟨w.heap.size,0,Ye⟩) l.length l.length)) (w.alloc (.cells us.toArray et))/\DList (λx u=>DRep w (Ak ok0 base pl bl2 w).ok e x u) l us):Sound P o ρ bl kk r:=by
 refine⟨_,_,_,hk,λbl2 hb=>?_⟩;have Cz:bl2 nx=Ye:=(hb nx (by simp)).trans hn;intro ok0 base pl w a hr hx K Q hK;obtain⟨us,h1,h2⟩:=AE bl2 ok0 base pl w a hr hx;have hg:w.grownBy (w.alloc (.cells us.toArray et)) Ye:=Ya9 w _ Ye
 have hp:∀g,(Pl.row (.slice (Yd ⟨w.heap.size,0,Ye⟩) l.length l.length) []).has g->w.heap.size<=g:=by intro g Fo;have Fo:=Pl.has_row Fo;simp only[Yae,Af]at Fo;exact LN Fo
 have hs:Step pl bl2 w (upd pl nx (.row (.slice (Yd ⟨w.heap.size,0,Ye⟩) l.length l.length) [])) (upd bl2 nx (.row et e 0 l)) (w.alloc (.cells us.toArray et)):=Step.new hr Cz hg hp;refine HD h1 (hK _ (upd pl nx (.row (.slice (Yd ⟨w.heap.size,0,Ye⟩) l.length l.length) [])) _ ?_ hs ?_)
 ·refine RelB.new hr Cz hg hp ⟨rfl,us,h2.mono λx u hu=>hu.mono hs.ext.heap,?_⟩
  have hl:=h2.length;exact⟨hl,.inr ⟨w.heap.size,l.length,us.toArray,rfl,hr.baseLe,YaS w _,Aw _,wX,by simpa using hl,by rw[<-hl];simp⟩⟩
 ·refine⟨rfl,.slice (Yd ⟨w.heap.size,0,Ye⟩) l.length l.length,[],by simp[Ak,upd],λt1 e1 CM l1 h1=>?_⟩
  simp only[Ak,updL,upd,CR,Af]at h1;injection h1 with q1 q2 q3 q4;subst q3;exact⟨Aw _,λ_=>rfl⟩
theorem AmU{T:Yq->Yb TI}(hT:TOk P T){kk:K β}{nx:Yk}{t:Yq}{n:Yk}{parts:YX (Yk×Y0)}(ho:o.op=.buildSlice t n parts)(hk:eZ T bl nx t n (parts.toList.map λp=>(p.1,ρ p.2)) kk=Yd r):Sound P o ρ bl kk r:=by
 unfold eZ at hk;split at hk
 ·cases hk
 rename_i ti ht;obtain⟨i,d,z,f⟩:=hT.facts ht;split at hk
 ·rename_i et Cs Cr
  have hd:=GR f Cs Cr;subst hd;have hu:=f.under;split at hk
  ·cases hk
  rename_i te BR;obtain⟨i',d',z',fe⟩:=hT.facts BR;split at hk
  ·cases hk
  rename_i e Ry;cases hs:(Ym e.size te.size&&(YB (n*te.size) 16777216&&Yz 0 te.size))with
  |false=>rw[hs]at hk;cases hk
  |true=>
   obtain⟨Bt,KR⟩:=andB hs;obtain⟨AP,Et⟩:=andB KR;have Bt:=At Bt;have AP:=IC AP;have Et:=Dp Et;simp only[hs,Ao]at hk;split at hk
   ·cases hk
   rename_i ps Ie;split at hk
   ·cases hk
   rename_i cs Bn;split at hk
   ·rename_i l hl hn
    have N9:l.length=n:=by
     have:∀{m:Yk}{cs:Ya C}{l:Ya e.den},JK (λ_=>Ye) e m cs=Yd l->l.length=m:=by
      intro m
      induction m with
      |zero=>
       intro cs l h;cases cs with
       |nil=>simp only[JK,Af]at h;subst h;rfl
       |cons c cs=>simp[JK]at h
      |succ m ih=>
       intro cs l h;simp only[JK]at h;split at h
       ·split at h
        ·rename_i l' F8
         simp only[Af]at h;subst h;simp[ih F8]
        ·cases h
       ·cases h
     exact this hl
    have AlB:n<=n*te.size:=dC _ Et;refine Aai hn hk (by simp only[Yaj];omega) λbl2 ok0 base pl w a hr Ad=>?_
    have Kl:z'.cells.size=te.size:=by have:=fe.len;rw[FV]at this;rw[this,fe.size]
    have V6:CReps (Ak ok0 base pl bl2 w) (repC n te.zero) (repL n z'.cells.toList):=Aah (by rw[fe.zeroC];exact MS fe.one) n
    have NJ:∀(j:Yk)(p:Yk×V)(q:Yk×Yp),(parts.toList.map λp=>(p.1,ρ p.2))[j]?=Yd p->(parts.toList.map λp=>(p.1,a.eval p.2))[j]?=Yd q->VRep (Ak ok0 base pl bl2 w) p.2 q.2:=by
     intro j p q h1 h2;rw[FJ]at h1 h2;cases hj:parts.toList[j]? with
     |none=>rw[hj]at h1;cases h1
     |some x=>rw[hj]at h1 h2;simp only[Ft,Af]at h1 h2;subst h1 h2;exact Ad x.2 (by simp only[ho,Yt];exact dS.2 (Fw.2 ⟨x,CN hj,rfl⟩))
    have L4:(parts.toList.map λp=>(p.1,a.eval p.2)).map (·.1)=(parts.toList.map λp=>(p.1,ρ p.2)).map (·.1):=by simp
    obtain⟨us,h1,h2⟩:=fU (T:=T) (E:=Ak ok0 base pl bl2 w) (λi=>Yd (i*te.size,te.size)) _
     (λi v cs0 B5 ps h hv=>by obtain⟨h1,If,h2,h3⟩:=Aae (ti:={te with elem:=Yd et,len:=Yd n}) rfl rfl BR h hv;exact⟨i*te.size,by rw[h1],If,h2,h3⟩) _ _ _ _ _ _ Ie L4 NJ V6 Bn
    obtain⟨d1,d2⟩:=WD hr.blksOk (Rows.none _ _) h2 hl;refine⟨us,?_,d1⟩
    have Ve:(Yay z'.cells (n*te.size))=(repL n z'.cells.toList).toArray:=by apply HC;rw[<-Kl,SF _ (by omega)]
    have AE2:¬(n*te.size>2^24):=by omega
    rw[N9];by_cases Gv:n*te.size=0
    ·have J7:n=0:=by
      rcases Nat.mul_eq_zero.1 Gv with h|h
      ·exact h
      ·omega
     subst J7;simp only[repL]at h1;have e0:∀g:Yk->Yp,(Array.range 0).map g=#[]:=λg=>by apply HC;simp
     have h0:¬((0:Yk)>2^24):=by decide
     simp only[Y1,ho,YaI,Yu hu,run_sizeOf fe,YA,Y5,Gv,h0,Cb,YO,CR,e0,PI,h1,newRow,run_newObj];rfl
    ·have Jg:∀(k:Yk),(Array.range (n*te.size)).map (λx=>z'.cells[x%z'.cells.size]!)=(repL n z'.cells.toList).toArray:=λ_=>Ve
     simp only[Y1,ho,YaI,Yu hu,run_sizeOf fe,YA,Y5,AE2,Cb,YO,Gv,Yax,YT,Ybi,fe.info,fe.zero,Jg 0,PI,h1,newRow,run_newObj];rfl
   ·cases hk
 ·cases hk
theorem AmV{T:Yq->Yb TI}(hT:TOk P T){kk:K β}{nx:Yk}{t:Yq}{x y:Y0}(ho:o.op=.makeSlice t x y)(hk:f5 T bl nx t (ρ x) (ρ y) kk=Yd r):Sound P o ρ bl kk r:=by
 have BY:x∈o.op.operands:=by simp[ho,Yt]
 have EB:y∈o.op.operands:=by simp[ho,Yt]
 unfold f5 at hk;split at hk
 ·rename_i ti ki i kj j ht hi hj
  obtain⟨inf,d,z,f⟩:=hT.facts ht;split at hk
  ·rename_i et Cs Cr
   have hd:=GR f Cs Cr;subst hd;have hu:=f.under;split at hk
   ·cases hk
   rename_i te BR;obtain⟨i',d',z',fe⟩:=hT.facts BR;split at hk
   ·cases hk
   rename_i e Ry;split at hk
   ·rename_i z0 Gv hn
    cases hs:(Ym e.size te.size&&Yz 0 te.size)with
    |false=>rw[hs]at hk;cases hk
    |true=>
     obtain⟨Bt,AP⟩:=andB hs;have Bt:=At Bt;have AP:=Dp AP;simp only[hs,Ao]at hk;obtain⟨hc,R1⟩:=Dc hk;clear hk;obtain⟨c1,hc⟩:=andB hc;obtain⟨c2,hc⟩:=andB hc;obtain⟨c3,c4⟩:=andB hc;have c1:=AC c1;have c2:=AC c2;have c3:=AC c3;have c4:=AC c4;subst c2;refine Aai hn R1 (by simp only[PF,Yaj];omega) λbl2 ok0 base pl w a hr Ad=>?_;have hx:=Ad x BY;have hy:=Ad y EB;rw[Oh hi]at hx;rw[Oh hj]at hy;have DH:a.eval x=.int ki i:=hx;have cN:a.eval y=.int kj i:=hy
     have Kl:z'.cells.size=te.size:=by have:=fe.len;rw[FV]at this;rw[this,fe.size]
     have V7:DRep w (Ak ok0 base pl bl2 w).ok e z0 z'.cells.toList:=MT hr.blksOk (Rows.none _ _) (by rw[fe.zeroC];exact MS fe.one) Gv;refine⟨repL i.toNat z'.cells.toList,?_,DList.rep V7 _⟩
     have DX:(i'.bytes:Yi)*i<=281474976710656:=by
      rw[<-fe.bytes]
      have:((i.toNat*te.bytes:Yk):Yi)=(te.bytes:Yi)*i:=by rw[Int.natCast_mul,Ybe c1,Int.mul_comm]
      simp only[Cn]at c3;omega
     have DQ:=run_make (P:=P) w t et i' z' hu fe.info fe.zero ki kj i i c1 (Ey _) DX (by omega)
     have Ve:Yay z'.cells (i.toNat*i'.size)=(repL i.toNat z'.cells.toList).toArray:=by apply HC;rw[<-fe.size,<-Kl,SF _ (by omega)]
     rw[Ve]at DQ;simp[Y1,ho,DH,cN,DQ]
   ·cases hk
  ·cases hk
 ·cases hk
end
end Go.Lift
namespace Go.Lift
open Go.RowKit
section
variable{P:Yv}{o:Oper}{ρ:Y0->V}{bl:Yk->Yb Blk}{β:Type}{r:β}
theorem AmW{w:Yx}(base:Yk){t ty et:Yq}{te:TI}{i:YI}{d:YC}{z:Yp}(fe:TFacts P et te i d z)(ht:P.underlying t=Yd (.slice et))(Hd:0<te.size)(DX:0<te.bytes){v:Yp}{n:Yk}{xs:Ya Yp}(Ah:w.ownsRow base et te.size v n xs){src:Yp}{m base2:Yk}{ys:Ya Yp}(FA:w.ownsRow base2 et te.size src m ys)(h1:∀u∈ys,u.oneCell'=Yo)(Cj:(n+m)*te.bytes<=Cn)(BM:base<=w.heap.size):∃v' w',(YE #[t,t] ty #[v,src]).run P w=.ok v' w'/\w'.ownsRow base et te.size v' (n+m) (xs++ys)/\w.grownBy w' v.ownBlock/\(v'.ownBlock=v.ownBlock\/v'.ownBlock=Yd w.heap.size):=by
 have H6:i.size=te.size:=fe.size.symm
 have Km:z.cells.size=te.size:=by have:=fe.len;rw[FV]at this;rw[this,H6]
 have xM:(n+m)*i.bytes<=140737488355328:=by rw[<-fe.bytes];exact Cj
 have Lz:n+m<=Yaj:=by have h2:n+m<=(n+m)*te.bytes:=dC _ DX;simp only[Cn]at Cj;simp only[Yaj];omega
 have hs:=FA;rcases FA.2 with⟨rfl,rfl⟩|⟨g,cap,AI,rfl,_⟩
 ·have hy:ys=[]:=by have:=FA.1;exact FT (by simpa using this)
  subst hy;refine⟨v,w,?_,by simpa using Ah,⟨rfl,rfl,rfl,Aw _,λ_ _ _=>rfl⟩,.inl rfl⟩;rcases Ah.2 with⟨rfl,rfl⟩|⟨g,cap,AI,rfl,_,_,BO,_⟩
  ·simp[YE,Yu ht,Yac,YT,fe.info,Yaf,YR]
  ·simp[YE,Yu ht,Yac,YT,fe.info,Yaf,YR,BO,YaK]
 ·obtain⟨v',w',AE,h2,h3,_,h5⟩:=run_append_own_at (P:=P) w base t ty et i z te.size i.bytes ht fe.info fe.zero H6 rfl Km Hd v n xs Ah ⟨g,0,Ye⟩ m cap ys hs.1
   (λj u hj=>hs.cells (g:=g) rfl j u hj) h1 Lz xM BM
  exact⟨v',w',AE,h2,h3,h5⟩
end
end Go.Lift
namespace Go.Lift
open Go.RowKit
theorem MatOk.nil(E:Env)(t et:Yq)(e:Ty):MatOk E t et e Ye [] (.slice Ye 0 0) []:=
 ⟨⟨[],YM _ _ _ _,λi s h=>by simp at h⟩,rfl,λi h=>by simp at h,λi s x h=>by simp at h,λi s g h=>by simp at h,λi j s r g _ h=>by simp at h⟩
section
variable{P:Yv}{o:Oper}{ρ:Y0->V}{bl:Yk->Yb Blk}{β:Type}{r:β}
theorem Aaj{w:Yx}{base:Yk}{t0:Yq}{size:Yk}{sv:Yp}{m:Yk}{xs:Ya Yp}(Ah:w.ownsRow base t0 size sv m xs){g o n c:Yk}(Au:sv=.slice (Yd ⟨g,0,Ye⟩) n c){us:Ya Yp}(h1:∀u∈us,u.oneCell'=Yo)(Bx:o+us.length<=xs.length):∃w',(YaK ⟨g,o,Ye⟩ us).run P w=.ok () w'/\w.grownBy w' (Yd g)/\w'.ownsRow base t0 size sv m (xs.take o++us++xs.drop (o+us.length)):=by
 obtain⟨Cp,CH⟩:=Ah;rcases CH with⟨h0,_⟩|⟨g',cap,AI,Kk,BM,hh,BO,C4,UD,I4⟩
 ·rw[Au]at h0;cases h0
 have hh:w.heap[g']?=Yd (.cells AI t0 (0,0)):=hh
 have Fo:g'=g:=by rw[Au]at Kk;injection Kk with e1 e2 e3;injection e1 with e1;injection e1 with e1;exact e1.symm
 subst Fo
 have AO:AI.toList=xs++AI.toList.drop (m*size):=by rw[<-I4,NR]
 have wU:o+us.length<=AI.toList.length:=by rw[AO];simp only[Bd];omega
 have AY:=run_storeCells_at P g' o t0 us 0 AI w hh (by simpa using wU) h1;simp only[Ybf]at AY
 have I1:AI.toList.take o++us++AI.toList.drop (o+us.length)=xs.take o++us++xs.drop (o+us.length)++AI.toList.drop (m*size):=by
  have e1:AI.toList.take o=xs.take o:=by rw[AO,KY (by omega)]
  have e2:AI.toList.drop (o+us.length)=xs.drop (o+us.length)++AI.toList.drop (m*size):=by
   conv=>lhs;rw[AO]
   rw[RN Bx]
  rw[e1,e2];simp only[C1]
 have L5:(xs.take o++us++xs.drop (o+us.length)).length=xs.length:=by simp only[Bd,CJ,GN];omega
 refine⟨_,AY,WJ w g' _,by rw[L5];exact Cp,.inr ⟨g',cap,_,Kk,BM,setRow_heap w g' _ _ t0 _ hh,BO,C4,?_,?_⟩⟩
 ·have J1:AI.size=cap*size:=UD
  have:(AI.toList.take o++us++AI.toList.drop (o+us.length)).length=AI.toList.length:=by simp only[Bd,CJ,GN];omega
  rw[NU,this,FV];exact J1
 ·simp only[I1]
  rw[KY (by rw[L5,Cp];exact Aw _),GL (by rw[L5,Cp];exact Aw _)]
theorem AmX{w:Yx}{okI:Yk->Prop}{e:Ty}{new:Ya e.den}{src:Yp}(FA:Reads w okI e new src)(n:Yk):∃ys,DList (λx u=>DRep w okI e x u) (new.take n) ys/\ys.length=YS new.length n*e.size/\(Yaf src).run P w=.ok new.length w/\(YR e.size (YS new.length n) src).run P w=.ok ys.toArray w:=by
 obtain⟨A,c,ys,rfl,Bx,C4,hd,DN⟩:=FA;have Cw:=hd.length;have E2:=hd.take n;have Je:=E2.length;have ADP:(new.take n).length=YS new.length n:=by rw[CJ,Nat.min_comm]
 rw[ADP]at Je
 have DY:ys.take (n*e.size)=ys.take (YS new.length n*e.size):=by
  rcases Nat.le_total new.length n with h|h
  ·have:YS new.length n=new.length:=ID h
   rw[this,<-Cw,GL (Aw _),GL];rw[Cw];exact Fs _ h
  ·have:YS new.length n=n:=Wb h
   rw[this]
 refine⟨ys.take (n*e.size),E2,Je,by simp[Yaf],?_⟩;cases A with
 |none=>
  have hy:ys=[]:=by
   cases ys with
   |nil=>rfl
   |cons y ys=>obtain⟨ad,ha,_⟩:=DN 0 y rfl;cases ha
  subst hy;simp[YR]
 |some ad=>
  have h:=YaJ (P:=P) w ad (ys.take (n*e.size)) (λj u hj=>by
   rw[LH]at hj;split at hj
   ·obtain⟨bH,ha,hc⟩:=DN j u hj
    injection ha with ha;subst ha;exact hc
   ·cases hj)
  rw[Je]at h;simpa [YR]using h
theorem Aak{w w':Yx}{a:Act}{x y:Y0}{c:Call}{t:Yq}(ho:o.op=.call c)(hc:c.callee=.builtin .copy)(ha:c.args.toList=[x,y])(ht:c.argTypes.toList=[t,t]){v:Yp}(h:(Yam #[t,t] o.type #[a.eval x,a.eval y]).run P w=.ok v w'):(Y1 a.eval o).run P w=.ok (.value v) w':=by
 have h1:c.args=#[x,y]:=by rw[<-Gi (xs:=c.args),ha]
 have h2:c.argTypes=#[t,t]:=by rw[<-Gi (xs:=c.argTypes),ht]
 simp[Y1,ho,resolve,hc,h1,h2,invoke,builtin,h]
theorem Aal{te:TI}{t et:Yq}{inf:YI}{d':YC}{z:Yp}(fe:TFacts P et te inf d' z)(hu:P.underlying t=Yd (.slice et)){e:Ty}(J2:e.size=te.size){E:Env}{base:Yk}{t0:Yq}{l new:Ya e.den}{sv:Yp}{xs:Ya Yp}(hd:DList (λx u=>DRep E.w E.ok e x u) l xs)(Ah:E.w.ownsRow base t0 e.size sv l.length xs){src:Yp}(FA:Reads E.w E.ok e new src){i d:Yk}(hid:i+d<=l.length){A:Yb Addr}{cd:Yk}(hA:0<d->∃g n c,sv=.slice (Yd ⟨g,0,Ye⟩) n c/\A=Yd ⟨g,i*e.size,Ye⟩)(ty:Yq):∃w' CZ,(Yam #[t,t] ty #[.slice A d cd,src]).run P E.w=.ok (.int .i64 ((YS new.length d:Yk):Yi)) w'/\E.w.grownBy w' sv.ownBlock/\DList (λx u=>DRep E.w E.ok e x u) (l.take i++(new.take d++l.drop (i+YS new.length d))) CZ/\w'.ownsRow base t0 e.size sv l.length CZ:=by
 obtain⟨ys,Al9,Cw,AK,Rz⟩:=AmX (P:=P) FA d;have Cp:=hd.length;have D1:=Al9.oneCell;have hn:YS new.length d<=d:=Nat.min_le_right _ _;have E2:DList (λx u=>DRep E.w E.ok e x u) (l.take i++(new.take d++l.drop (i+YS new.length d))) (xs.take (i*e.size)++(ys++xs.drop ((i+YS new.length d)*e.size))):=(hd.take i).append (Al9.append (hd.drop _));have B4:(Yac et).run P E.w=.ok e.size E.w:=by rw[J2];exact run_sizeOf fe E.w
 rcases RP d with h0|h0
 ·subst h0
  have hm:YS new.length 0=0:=Wb (BD _);rw[hm]at Cw Rz;have hy:ys=[]:=FT (by simpa using Cw);subst hy;refine⟨E.w,xs,?_,⟨rfl,rfl,rfl,Aw _,λ_ _ _=>rfl⟩,?_,Ah⟩
  ·cases A with
   |none=>simp[Yam,Yu hu,AK,hm,B4,Rz,Ya6]
   |some ad=>simp[Yam,Yu hu,AK,hm,B4,Rz,Ya6,YaK]
  ·have h3:l.take i++(new.take 0++l.drop (i+YS new.length 0))=l:=by rw[hm];simp
   rw[h3];exact hd
 ·obtain⟨g,n,c,Au,rfl⟩:=hA h0
  have Bx:i*e.size+ys.length<=xs.length:=by rw[Cw,Cp,<-NY];exact Fs _ (by omega)
  obtain⟨w',AY,hg,EZ⟩:=Aaj (P:=P) Ah (o:=i*e.size) Au D1 Bx;refine⟨w',_,?_,by rw[Au];exact hg,E2,?_⟩
  ·simp[Yam,Yu hu,AK,B4,Rz,Ya6,AY]
  ·have:xs.take (i*e.size)++(ys++xs.drop ((i+YS new.length d)*e.size))=xs.take (i*e.size)++ys++xs.drop (i*e.size+ys.length):=by rw[Cw,<-NY,C1]
   rw[this];exact EZ
theorem AmY{T:Yq->Yb TI}(hT:TOk P T){kk:K β}{c:Call}(ho:o.op=.call c)(hc:c.callee=.builtin .copy){x y:Y0}{t:Yq}(ha:c.args.toList=[x,y])(Cc:c.argTypes.toList=[t,t])(hk:eL T bl t (ρ x) (ρ y) kk=Yd r):Sound P o ρ bl kk r:=by
 have Ba:c.args=#[x,y]:=by rw[<-Gi (xs:=c.args),ha]
 have BY:x∈o.op.operands:=by simp[ho,Yt,YF,Ba]
 have EB:y∈o.op.operands:=by simp[ho,Yt,YF,Ba]
 unfold eL at hk;split at hk
 ·cases hk
 rename_i ti ht;obtain⟨i,d,z,f⟩:=hT.facts ht;split at hk
 ·rename_i et Cs Cr
  have hd:=GR f Cs Cr;subst hd;split at hk
  ·cases hk
  rename_i te BR;obtain⟨i',d',z',fe⟩:=hT.facts BR;split at hk
  ·cases hk
  rename_i e Ry;cases hs:(Ym e.size te.size&&Yz 0 te.size)with
  |false=>rw[hs]at hk;cases hk
  |true=>
   obtain⟨Bt,AP⟩:=andB hs;have Bt:=At Bt;simp only[hs,Ao]at hk;split at hk
   ·cases hk
   rename_i new rd FA;split at hk
   ·
    rename_i b ver lo hi hx;split at hk
    ·rename_i t0 e0 ver' l hb
     cases AQ:Ym ver ver' with
     |false=>rw[AQ]at hk;cases hk
     |true=>
      have:=At AQ;subst this;simp only[AQ,Ao]at hk;split at hk
      ·rename_i he
       subst he;refine⟨_,_,_,hk,λbl2 Aj=>?_⟩;have Ay:bl2 b=Yd (.row t0 e0 ver l):=(Aj b (by simp)).trans hb;intro ok0 base pl w a hr Ad K Q hK;have hv:=Ad x BY;rw[hx]at hv;obtain⟨_,sv,Ab,hg,AO⟩:=hv;obtain⟨q1,q2,A,A',n,cc,Au,Bc,hA,_⟩:=(AO t0 e0 ver l Ay).2 rfl;obtain⟨p,hp,hB⟩:=hr.blks b _ Ay;have:p=.row sv Ab:=by have h2:pl b=Yd (.row sv Ab):=hg;rw[hp]at h2;injection h2
       subst this;obtain⟨h0,xs,BX,Ah⟩:=hB;subst h0;have Ek:Reads w (Ak ok0 base pl bl2 w).ok e0 new (a.eval y):=Qm hr.blksOk FA (λb hb B hB=>(Aj b (by simp[hb])).trans hB) (Ad y EB)
       obtain⟨w',CZ,AE,CG,E2,CH⟩:=Aal fe f.under Bt (E:=Ak ok0 base pl bl2 w) BX Ah Ek (i:=lo) (d:=hi-lo) (by omega) (A:=A') (cd:=cc-lo) (λHd=>by
        have hA:=hA (by omega);rcases Ah.2 with⟨Dk,hn⟩|⟨g,cap,AI,Dk,_⟩
        ·omega
        ·rw[Au]at Dk
         injection Dk with e1 _ _;subst e1;refine⟨g,n,cc,Au,?_⟩;rw[hA];simp[YD]) o.type
       have AQ:ver<=ver/\(ver=ver->sv=sv/\(l.take lo++(new.take (hi-lo)++l.drop (lo+YS new.length (hi-lo)))).length=l.length):=⟨Aw _,λ_=>⟨rfl,by have h1:YS new.length (hi-lo)=min (hi-lo) new.length:=Nat.min_comm _ _;simp only[Bd,CJ,GN,h1];omega⟩⟩
       have AY:=Step.grown hr Ay hp CG (.inl rfl) AQ;have F5:=AY.ext (ok0:=ok0) (base:=base);refine HD (Aak ho hc ha Cc (by rw[Bc];exact AE)) (hK _ (upd pl b (.row sv [])) w' ?_ AY rfl);exact RelB.grown hr Ay hp CG (.inl rfl) AQ ⟨rfl,CZ,E2.mono λx u hu=>hu.mono F5.heap,by rw[(AQ.2 rfl).2];exact CH⟩
      ·cases hk
    ·cases hk
   ·
    rename_i b ver hx;split at hk
    ·rename_i t0 e0 ver' l hb
     cases AQ:Ym ver ver' with
     |false=>rw[AQ]at hk;cases hk
     |true=>
      have:=At AQ;subst this;simp only[AQ,Ao]at hk;split at hk
      ·rename_i he
       subst he;refine⟨_,_,_,hk,λbl2 Aj=>?_⟩;have Ay:bl2 b=Yd (.row t0 e0 ver l):=(Aj b (by simp)).trans hb;intro ok0 base pl w a hr Ad K Q hK;have hv:=Ad x BY;rw[hx]at hv;obtain⟨_,sv,Ab,hg,AO⟩:=hv;have Bc:=(AO t0 e0 ver l Ay).2 rfl;obtain⟨p,hp,hB⟩:=hr.blks b _ Ay;have:p=.row sv Ab:=by have h2:pl b=Yd (.row sv Ab):=hg;rw[hp]at h2;injection h2
       subst this;obtain⟨h0,xs,BX,Ah⟩:=hB;subst h0;have Ek:Reads w (Ak ok0 base pl bl2 w).ok e0 new (a.eval y):=Qm hr.blksOk FA (λb hb B hB=>(Aj b (by simp[hb])).trans hB) (Ad y EB)
       obtain⟨A,cc,Au,hA⟩:∃A cc,sv=.slice A l.length cc/\(0<l.length->∃g n c,sv=.slice (Yd ⟨g,0,Ye⟩) n c/\A=Yd ⟨g,0*e0.size,Ye⟩):=by
        rcases Ah.2 with⟨Dk,hn⟩|⟨g,cap,AI,Dk,_⟩
        ·exact⟨Ye,0,by rw[Dk,hn],λh=>by omega⟩
        ·exact⟨_,cap,Dk,λ_=>⟨g,_,_,Dk,by simp⟩⟩
       obtain⟨w',CZ,AE,CG,E2,CH⟩:=Aal fe f.under Bt (E:=Ak ok0 base pl bl2 w) BX Ah Ek (i:=0) (d:=l.length) (by omega) (A:=A) (cd:=cc) hA o.type;simp only[List.take_zero,DT,CQ]at E2
       have AQ:ver<=ver/\(ver=ver->sv=sv/\(new.take l.length++l.drop (YS new.length l.length)).length=l.length):=⟨Aw _,λ_=>⟨rfl,by have h1:YS new.length l.length=min l.length new.length:=Nat.min_comm _ _;simp only[Bd,CJ,GN,h1];omega⟩⟩
       have AY:=Step.grown hr Ay hp CG (.inl rfl) AQ;have F5:=AY.ext (ok0:=ok0) (base:=base);refine HD (Aak ho hc ha Cc (by rw[Bc,Au];exact AE)) (hK _ (upd pl b (.row sv [])) w' ?_ AY rfl);exact RelB.grown hr Ay hp CG (.inl rfl) AQ ⟨rfl,CZ,E2.mono λx u hu=>hu.mono F5.heap,by rw[(AQ.2 rfl).2];exact CH⟩
      ·cases hk
    ·cases hk
   ·cases hk
 ·cases hk
theorem Aam{w:Yx}{ok:Yk->Prop}{k:YP}:∀{l:Ya Yi}{ys:Ya Yp},DList (λ(x:(Ty.int k).den) u=>DRep w ok (.int k) x u) l ys->ys=l.map (Yag k)
 |[],_,h=>by simp only[DList]at h;subst h;rfl
 |n::l,_,⟨u,v,e1,hr,ht⟩=>by have hu:u=[.int k n]:=hr;subst e1 hu;rw[Aam ht];rfl
theorem AmZ{T:Yq->Yb TI}(hT:TOk P T){kk:K β}{s t:Yq}{x:Y0}(ho:o.op=.convert s t x){si ti:TI}(hs:T s=Yd si)(ht:T t=Yd ti)(hk:eY T bl si ti (ρ x) kk=Yd r):Sound P o ρ bl kk r:=by
 obtain⟨i,d,z,f⟩:=hT.facts ht;obtain⟨i',d',z',f'⟩:=hT.facts hs;unfold eY at hk;split at hk
 ·rename_i et Cs Cr
  have hd:=GR f' Cs Cr;subst hd;split at hk
  ·cases hk
  rename_i te BR;obtain⟨i2,d2,z2,fe⟩:=hT.facts BR;split at hk
  ·rename_i M0
   have he:d2=.int .u8:=by rw[fe.kind]at M0;cases d2<;>simp_all [Qf]
   subst he;cases E4:ti.isStr with
   |false=>rw[E4]at hk;cases hk
   |true=>
    have hd:=SC f E4;subst hd;simp only[E4,Ao]at hk;split at hk
    ·rename_i l rd FA
     refine Sound.pure hk λbl2 Aj ok0 base pl w a hr Ad=>⟨.string ⟨(JN l).toArray⟩,?_,rfl⟩;have Ek:Reads w (Ak ok0 base pl bl2 w).ok (.int .u8) l (a.eval x):=Qm hr.blksOk FA (λb hb B hB=>(Aj b (by simpa using hb)).trans hB) (Ad x (by simp[ho,Yt]));obtain⟨A,c,ys,hv,_,_,L2,DN⟩:=Ek;have GG:=Aam L2;subst GG
     have ADk:(convert s t (a.eval x)).run P w=.ok (.string ⟨(JN l).toArray⟩) w:=by
      rw[hv,run_convert_bytes_string w s t et A _ c f'.under fe.under f.under];cases A with
      |none=>
       have:l=[]:=by
        cases l with
        |nil=>rfl
        |cons n l=>obtain⟨ad,h,_⟩:=DN 0 _ rfl;cases h
       subst this;rfl
      |some ad=>
       have Pj:(loadCells ad l.length).run P w=.ok (l.map (Yag .u8)).toArray w:=by
        have:=YaJ (P:=P) w ad (l.map (Yag .u8)) (λj v hj=>by obtain⟨bH,h,h2⟩:=DN j v hj;injection h with h;subst h;exact h2)
        simpa using this
       rw[run_bytesToString w ad l.length c l Pj,foldl_push_bytes];congr 2;simp[JN,ByteArray.empty,ByteArray.emptyWithCapacity];rfl
     simp[Y1,ho,ADk]
    ·cases hk
  ·cases hk
 ·cases hk
end
end Go.Lift
namespace Go.Lift
open Go.RowKit
section
variable{β:Type}{r:β}{P:Yv}{o:Oper}{ρ:Y0->V}{bl:Yk->Yb Blk}
theorem SG(z:YX Yp)(hz:0<z.size)(n:Yk):(Yau z n).toList=repL n z.toList:=SF z hz n
theorem An0{T:Yq->Yb TI}(hT:TOk P T){kk:K β}{c:Call}(ho:o.op=.call c)(hc:c.callee=.builtin .clear){x:Y0}{t:Yq}(ha:c.args.toList=[x])(Cc:c.argTypes.toList=[t])(hk:eM T bl t (ρ x) kk=Yd r):Sound P o ρ bl kk r:=by
 have Ba:c.args=#[x]:=by rw[<-Gi (xs:=c.args),ha]
 have Vy:c.argTypes=#[t]:=by rw[<-Gi (xs:=c.argTypes),Cc]
 have BY:x∈o.op.operands:=by simp[ho,Yt,YF,Ba]
 unfold eM at hk;split at hk
 ·cases hk
 rename_i ti ht;obtain⟨i,d,z,f⟩:=hT.facts ht;split at hk
 ·rename_i et Cs Cr
  have hd:=GR f Cs Cr;subst hd;have hu:=f.under;split at hk
  ·cases hk
  rename_i te BR;obtain⟨i',d',z',fe⟩:=hT.facts BR;split at hk
  ·cases hk
  rename_i e Ry;cases hs:(Ym e.size te.size&&Yz 0 te.size)with
  |false=>rw[hs]at hk;cases hk
  |true=>
   obtain⟨Bt,AP⟩:=andB hs;have Bt:=At Bt;have AP:=Dp AP;simp only[hs,Ao]at hk;split at hk
   ·cases hk
   rename_i z0 Gv;split at hk
   ·rename_i b ver lo hi hx
    split at hk
    ·rename_i t0 e0 ver' l hb
     cases AQ:Ym ver ver' with
     |false=>rw[AQ]at hk;cases hk
     |true=>
      have:=At AQ;subst this;simp only[AQ,Ao]at hk;split at hk
      ·rename_i he
       subst he;refine⟨_,_,_,hk,λbl2 Aj=>?_⟩;have Ay:bl2 b=Yd (.row t0 e0 ver l):=(Aj b (by simp)).trans hb;intro ok0 base pl w a hr Ad K Q hK;have hv:=Ad x BY;rw[hx]at hv;obtain⟨_,sv,Ab,hg,AO⟩:=hv;obtain⟨q1,q2,A,A',n,cc,Au,Bc,hA,_⟩:=(AO t0 e0 ver l Ay).2 rfl;obtain⟨p,hp,hB⟩:=hr.blks b _ Ay;have:p=.row sv Ab:=by have h2:pl b=Yd (.row sv Ab):=hg;rw[hp]at h2;injection h2
       subst this;obtain⟨h0,xs,BX,Ah⟩:=hB;subst h0
       have Kl:z'.cells.size=te.size:=by have:=fe.len;rw[FV]at this;rw[this,fe.size]
       have V7:DRep w (Ak ok0 base pl bl2 w).ok e0 z0 z'.cells.toList:=MT hr.blksOk (Rows.none _ _) (by rw[fe.zeroC];exact MS fe.one) Gv;have Km:DList (λx u=>DRep w (Ak ok0 base pl bl2 w).ok e0 x u) (Y8 (hi-lo) z0) (repL (hi-lo) z'.cells.toList):=DList.rep V7 _;have Cw:=Km.length;simp only[PF]at Cw;have D1:=Km.oneCell;have Cp:=BX.length;have N8:(l.take lo++(Y8 (hi-lo) z0++l.drop hi)).length=l.length:=by simp;omega
       have AQ:ver<=ver/\(ver=ver->sv=sv/\(l.take lo++(Y8 (hi-lo) z0++l.drop hi)).length=l.length):=⟨Aw _,λ_=>⟨rfl,N8⟩⟩;have yA:∀w,(Yax et).run P w=.ok z' w:=λw=>by simp[Yax,YT,fe.info,fe.zero]
       have AE:∃w' CZ,(Yas #[t] o.type #[a.eval x]).run P w=.ok (.tuple #[]) w'/\w.grownBy w' sv.ownBlock/\
         DList (λx u=>DRep w (Ak ok0 base pl bl2 w).ok e0 x u) (l.take lo++(Y8 (hi-lo) z0++l.drop hi)) CZ/\w'.ownsRow base t0 e0.size sv l.length CZ:=by
        rcases RP (hi-lo)with h0|h0
        ·refine⟨w,xs,?_,⟨rfl,rfl,rfl,Aw _,λ_ _ _=>rfl⟩,?_,Ah⟩
         ·rw[Bc,h0]
          cases A'<;>simp[Yas,Yu hu]
         ·have h3:l.take lo++(Y8 (hi-lo) z0++l.drop hi)=l:=by rw[h0,show hi=lo by omega];simp
          rw[h3];exact BX
        ·have hA:=hA (by omega)
         rcases Ah.2 with⟨Dk,hn⟩|⟨g,cap,AI,Dk,_⟩
         ·omega
         ·have hAg:A=Yd ⟨g,0,Ye⟩:=by rw[Au]at Dk;injection Dk
          subst hAg
          have Bx:lo*e0.size+(repL (hi-lo) z'.cells.toList).length<=xs.length:=by rw[Cw,Cp,<-NY];exact Fs _ (by omega)
          obtain⟨w',AY,ADx,EZ⟩:=Aaj (P:=P) (w:=w) (base:=base) Ah (o:=lo*e0.size) Au D1 Bx;refine⟨w',_,?_,by rw[Au];exact ADx,(BX.take lo).append (Km.append (BX.drop hi)),?_⟩
          ·obtain⟨m,hm⟩:∃m,hi-lo=m+1:=⟨hi-lo-1,by omega⟩
           rw[Bc,hA,hm];rw[hm]at AY;have hz:=SG z'.cells (by omega) (m+1);have OQ:(Addr.mk g 0 Ye).add (lo*e0.size)=⟨g,lo*e0.size,Ye⟩:=by simp[YD]
           simp only[Ft,OQ];simp only[Yas,Yu hu,yA,hz,YA,Y5,PE,Dg,YO];rw[AY];rfl
          ·have h4:xs.take (lo*e0.size)++(repL (hi-lo) z'.cells.toList++xs.drop (hi*e0.size))=xs.take (lo*e0.size)++repL (hi-lo) z'.cells.toList++xs.drop (lo*e0.size+(repL (hi-lo) z'.cells.toList).length):=by rw[Cw,<-NY,C1,show lo+(hi-lo)=hi by omega]
           rw[h4];exact EZ
       obtain⟨w',CZ,AE,CG,E2,CH⟩:=AE;have AY:=Step.grown hr Ay hp CG (.inl rfl) AQ;have F5:=AY.ext (ok0:=ok0) (base:=base)
       have Fl:(Y1 a.eval o).run P w=.ok (.value (.tuple #[])) w':=by simp[Y1,ho,resolve,hc,Ba,Vy,invoke,builtin,AE]
       refine HD Fl (hK _ (upd pl b (.row sv [])) w' ?_ AY ⟨[],rfl,rfl⟩);exact RelB.grown hr Ay hp CG (.inl rfl) AQ ⟨rfl,CZ,E2.mono λx u hu=>hu.mono F5.heap,by rw[(AQ.2 rfl).2];exact CH⟩
      ·cases hk
    ·cases hk
   ·cases hk
 ·cases hk
theorem An1{T:Yq->Yb TI}(hT:TOk P T){kk:K β}{c:Call}(ho:o.op=.call c)(hc:c.callee=.builtin .cap){x:Y0}{t:Yq}(ha:c.args.toList=[x])(Cc:c.argTypes.toList=[t])(hk:eO T t (ρ x) kk=Yd r):Sound P o ρ bl kk r:=by
 have Ba:c.args=#[x]:=by rw[<-Gi (xs:=c.args),ha]
 have Vy:c.argTypes=#[t]:=by rw[<-Gi (xs:=c.argTypes),Cc]
 have BY:x∈o.op.operands:=by simp[ho,Yt,YF,Ba]
 unfold eO at hk;split at hk
 ·cases hk
 rename_i ti ht;obtain⟨i,d,z,f⟩:=hT.facts ht;split at hk
 ·rename_i et Cs Cr hx
  have hd:=GR f Cs Cr;subst hd;have hu:=f.under;refine Sound.pure hk λbl2 Aj ok0 base pl w a hr Ad=>⟨.int .i64 0,?_,rfl⟩;have hv:=Ad x BY;rw[hx]at hv;have hv:a.eval x=.slice Ye 0 0:=hv;simp[Y1,ho,resolve,hc,Ba,Vy,invoke,builtin,Builtin.cap_,Yu hu,hv,Ya6]
 ·cases hk
theorem An2{T:Yq->Yb TI}(hT:TOk P T){kk:K β}{t:Yq}{x:Y0}{hi:Yb Y0}(ho:o.op=.slice t x Ye hi Ye)(hk:eC T bl t (ρ x) (hi.map ρ) kk=Yd r):Sound P o ρ bl kk r:=by
 have BY:x∈o.op.operands:=by simp[ho,Yt]
 have Pa:∀y,hi=Yd y->y∈o.op.operands:=by rintro y rfl;simp[ho,Yt]
 unfold eC at hk;split at hk
 ·cases hk
 rename_i ti ht;obtain⟨i,d,z,f⟩:=hT.facts ht;have hu:=f.under;split at hk
 ·rename_i et Cs Cr
  have hd:=GR f Cs Cr;subst hd;split at hk
  ·cases hk
  rename_i te BR;obtain⟨i',d',z',fe⟩:=hT.facts BR;split at hk
  ·rename_i b ver hx
   split at hk
   ·rename_i t0 e ver' l hb
    cases hs:(Ym ver ver'&&(Ym e.size te.size&&Yz 0 te.size))with
    |false=>rw[hs]at hk;cases hk
    |true=>
     obtain⟨AQ,M6⟩:=andB hs;obtain⟨Bt,AP⟩:=andB M6;have Bt:=At Bt;have:=At AQ;subst this;simp only[hs,Ao]at hk;split at hk
     ·rename_i n hn
      obtain⟨hc,hk⟩:=Dc hk;obtain⟨c2,c3⟩:=andB hc;have c2:=AC c2;have c3:=AC c3;refine⟨_,_,_,hk,λbl2 Aj=>?_⟩;have Ay:bl2 b=Yd (.row t0 e ver l):=(Aj b (by simp)).trans hb;intro ok0 base pl w a hr Ad K Q hK;have h1:=Ad x BY;rw[hx]at h1;obtain⟨_,sv,Ab,hg,AO⟩:=h1;have Bc:=(AO t0 e ver l Ay).2 rfl;obtain⟨p,hp,hB⟩:=hr.blks b _ Ay;have:p=.row sv Ab:=by have h2:pl b=Yd (.row sv Ab):=hg;rw[hp]at h2;injection h2
      subst this;obtain⟨h0,xs,BX,Ah⟩:=hB;subst h0
      obtain⟨A,cc,Au,Bx⟩:∃A cc,sv=.slice A l.length cc/\l.length<=cc:=by
       rcases Ah.2 with⟨Au,hn⟩|⟨g,cap,AI,Au,_,_,BO,_⟩
       ·exact⟨Ye,0,by rw[Au,hn],by omega⟩
       ·exact⟨_,cap,Au,BO⟩
      have CF:=Oi (P:=P) (isSl:=Yo) (len:=l.length) (cap:=cc) (m:=0) (lo:=Ye) (.inl ⟨rfl,rfl⟩) (Kq hn λy hy=>Ad y (Pa y hy)) (Ey 0) c2 (by omega) w
      have HZ:(if cc=0 then A else A.map (·.add 0))=A:=by
       split
       ·rfl
       ·cases A<;>simp[Ya3]
      have Fl:(Y1 a.eval o).run P w=.ok (.value (.slice A n.toNat cc)) w:=by have OU:(YaF Yo l.length cc Ye (hi.map a.eval) Ye).run P w=.ok (0,n.toNat,cc) w:=CF;simp[Y1,ho,Yah,Yu hu,Yav,Bc,Au,OU,run_sizeOf fe];cases A<;>simp[Ya3]
      have L5:n.toNat<=l.length:=by omega
      have cG:(l.take n.toNat).length=n.toNat:=by simp;omega
      have CH:w.ownsRow base t0 e.size (.slice A n.toNat cc) n.toNat (xs.take (n.toNat*e.size)):=by
       have Cp:=BX.length;refine⟨by rw[CJ,Cp];exact ID (Fs _ L5),?_⟩;rcases Ah.2 with⟨Dk,J7⟩|⟨g,cap,AI,Dk,BM,hh,BO,C4,Bn,I4⟩
       ·rw[Au]at Dk
        injection Dk with e1 e2 e3;exact .inl ⟨by rw[e1,e3];congr 1;omega,by omega⟩
       ·have q:=Au.symm.trans Dk
        injection q with e1 e2 e3;exact .inr ⟨g,cap,AI,by rw[e1,e3],BM,hh,by omega,C4,Bn,by rw[<-I4,LM,ID (Fs _ L5)]⟩
      have CG:w.grownBy w sv.ownBlock:=⟨rfl,rfl,rfl,Aw _,λ_ _ _=>rfl⟩;have Dv:(YaW A n.toNat cc).ownBlock=sv.ownBlock\/∀g,(YaW A n.toNat cc).ownBlock=Yd g->w.heap.size<=g:=.inl (by rw[Au];cases A<;>rfl);have AQ:ver<=ver+1/\(ver=ver+1->(YaW A n.toNat cc)=sv/\(l.take n.toNat).length=l.length):=⟨PN _,λh=>by omega⟩;have AY:=Step.grown (l':=l.take n.toNat) hr Ay hp CG Dv AQ;have F5:=AY.ext (ok0:=ok0) (base:=base);have hR:=RelB.grown hr Ay hp CG Dv AQ ⟨rfl,xs.take (n.toNat*e.size),(BX.take n.toNat).mono λx u hu=>hu.mono F5.heap,by rw[cG];exact CH⟩;refine HD Fl (hK _ (upd pl b (.row (.slice A n.toNat cc) [])) w hR AY ⟨rfl,.slice A n.toNat cc,[],by simp[Ak,upd],λt1 e1 Gz l2 IX=>?_⟩);have CF:upd bl2 b (.row t0 e (ver+1) (l.take n.toNat)) b=Yd (.row t1 e1 Gz l2):=IX;simp[upd]at CF;exact⟨by omega,λ_=>rfl⟩
     ·cases hk
   ·cases hk
  ·cases hk
 ·cases hk
theorem An3{w:Yx}{t u ty et:Yq}{te:TI}{i:YI}{d:YC}{z:Yp}{k ki:YP}(fe:TFacts P et te i d z)(ht:P.underlying t=Yd (.slice et))(hu:P.underlying u=Yd (.int k)){m:Yk}(h0:0<m)(DX:0<te.bytes)(hb:m*te.bytes<=Cn)(Hd:0<te.size):(YE #[t,u] ty #[.slice Ye 0 0,.int ki (m:Yi)]).run P w=.ok (.slice (Yd ⟨w.heap.size,0,Ye⟩) m (grownCap w m 0 et)) (w.drew.alloc (.cells (Yau z.cells m++Yau z.cells (grownCap w m 0 et-m)) et)):=by
 have hm:m<=140737488355328:=by have h1:m*1<=m*te.bytes:=Ybg _ DX;simp only[Cn]at hb;omega
 have Aj:m*i.bytes<=140737488355328:=by rw[<-fe.bytes];exact hb
 have y6:Yh.wrap (m:Yi)=m:=by simp[YP.wrap,IntKind.bits,IntKind.signed];omega
 have hn:m≠0:=by omega
 have B4:¬i.size=0:=by rw[<-fe.size];omega
 have ADT:¬m*i.size=0:=by rw[Nat.mul_eq_zero];omega
 have AD8:¬(9223372036854775807<(m:Yi)):=by omega
 have ADS:((m:Yi)*(i.bytes:Yi))=((m*i.bytes:Yk):Yi):=by simp
 have AD6:¬(281474976710656<(m:Yi)*(i.bytes:Yi)):=by rw[ADS];omega
 have AD7:¬(281474976710656<Builtin.nextslicecap m 0*i.bytes):=by rw[nextslicecap_zero h0];omega
 have ADX:¬((m:Yi)<0):=by omega
 simp[YE,Yu ht,Yu hu,Yac,YT,Yax,fe.info,fe.zero,asInt,YaO,y6,ADX,AD6,hn,AD8,AD7,Question.forced,run_firstCells_none,newRow,grownCap];exact λh=>Yw h ADT
theorem An4{T:Yq->Yb TI}(hT:TOk P T){kk:K β}{c:Call}(ho:o.op=.call c)(hc:c.callee=.builtin .append){x y:Y0}{t u:Yq}{nx:Yk}(ha:c.args.toList=[x,y])(Cc:c.argTypes.toList=[t,u])(hk:eT T bl nx t u (ρ x) (ρ y) kk=Yd r):Sound P o ρ bl kk r:=by
 have Ba:c.args=#[x,y]:=by rw[<-Gi (xs:=c.args),ha]
 have Vy:c.argTypes=#[t,u]:=by rw[<-Gi (xs:=c.argTypes),Cc]
 have BY:x∈o.op.operands:=by simp[ho,Yt,YF,Ba]
 have EB:y∈o.op.operands:=by simp[ho,Yt,YF,Ba]
 unfold eT at hk;split at hk
 ·rename_i ti tu ki m AEC AED hm
  obtain⟨i,d,z,f⟩:=hT.facts AEC;obtain⟨i2,d2,z2,f2⟩:=hT.facts AED;split at hk
  ·rename_i hx
   split at hk
   ·rename_i et kd Cs Cr M0
    have hd:=GR f Cs Cr;subst hd
    obtain rfl:d2=.int kd:=by rw[f2.kind]at M0;cases d2<;>simp_all [Qf]
    split at hk
    ·cases hk
    rename_i te BR;obtain⟨i',d',z',fe⟩:=hT.facts BR;split at hk
    ·cases hk
    rename_i e Ry;split at hk
    ·rename_i z0 Gv hn
     cases hs:(Ym e.size te.size&&(Yz 0 te.size&&Yz 0 te.bytes))with
     |false=>rw[hs]at hk;cases hk
     |true=>
      obtain⟨Bt,KR⟩:=andB hs;obtain⟨AP,Et⟩:=andB KR;have Bt:=At Bt;have AP:=Dp AP;have Et:=Dp Et;simp only[hs,Ao]at hk;obtain⟨Cj,hk⟩:=Dc hk;obtain⟨c1,c2⟩:=andB Cj;have c1:=AC c1;have c2:=AC c2;refine⟨_,_,_,hk,λbl2 Aj=>?_⟩;have Cz:bl2 nx=Ye:=(Aj nx (by simp)).trans hn;intro ok0 base pl w a hr Ad K Q hK;have hv:a.eval x=.slice Ye 0 0:=by have:=Ad x BY;rw[hx]at this;exact this
      have hy:a.eval y=.int ki m:=by have:=Ad y EB;rw[Oh hm]at this;exact this
      obtain⟨m,rfl⟩:∃q:Yk,m=(q:Yi):=⟨m.toNat,by omega⟩;simp only[dO]at c2 hk hK⊢
      have Kl:z'.cells.size=te.size:=by have:=fe.len;rw[FV]at this;rw[this,fe.size]
      have V7:DRep w (Ak ok0 base pl bl2 w).ok e z0 z'.cells.toList:=MT hr.blksOk (Rows.none _ _) (by rw[fe.zeroC];exact MS fe.one) Gv;have Km:DList (λx u=>DRep w (Ak ok0 base pl bl2 w).ok e x u) (Y8 m z0) (repL m z'.cells.toList):=DList.rep V7 _;have Cw:=Km.length;simp only[PF]at Cw
      have AE:∃v' w',(YE #[t,u] o.type #[a.eval x,a.eval y]).run P w=.ok v' w'/\w.grownBy w' Ye/\w'.ownsRow w.heap.size et e.size v' m (repL m z'.cells.toList):=by
       rw[hv,hy];rcases RP m with h0|h0
       ·subst h0
        refine⟨.slice Ye 0 0,w,?_,⟨rfl,rfl,rfl,Aw _,λ_ _ _=>rfl⟩,YM w w.heap.size et e.size⟩;have y6:Yh.wrap (0:Yi)=0:=by decide
        simp[YE,Yu f.under,Yu f2.under,Yac,YT,fe.info,asInt,YaO,y6]
       ·refine⟨_,_,An3 fe f.under f2.under h0 Et c2 AP,⟨rfl,rfl,rfl,by simp,λk hk _=>heap_alloc_old w.drew _ k hk⟩,Cw,.inr ⟨w.heap.size,_,_,rfl,Aw _,YaS w.drew _,grownCap_ge w m 0 et,grownCap_le_maxLen w m 0 et ?_,?_,?_⟩⟩
        ·simp only[Cn,Yaj]at c2⊢
         have h1:m*1<=m*te.bytes:=Ybg _ Et;omega
        ·have:=grownCap_ge w m 0 et
         simp only[dP,size_zeroCells,Kl,Bt,<-NY];congr 1;omega
        ·rw[dJ,SG z'.cells (by omega) m,<-Cw]
         exact Sb
      obtain⟨v',w',AE,UR,Ah⟩:=AE;have hp:∀g,(Pl.row v' []).has g->w.heap.size<=g:=λg hg=>(Ah.lt g (Pl.has_row hg)).1;have AY:Step pl bl2 w (upd pl nx (.row v' [])) (upd bl2 nx (.row et e 0 (Y8 m z0))) w':=Step.new hr Cz UR hp;have Fl:(Y1 a.eval o).run P w=.ok (.value v') w':=by simp[Y1,ho,resolve,hc,Ba,Vy,invoke,builtin,AE]
      refine HD Fl (hK v' (upd pl nx (.row v' [])) w' ?_ AY ?_)
      ·refine RelB.new hr Cz UR hp ⟨rfl,repL m z'.cells.toList,Km.mono λx u hu=>hu.mono AY.ext.heap,?_⟩
       rw[PF];exact SD Ah hr.baseLe
      ·refine⟨?_,v',[],by simp[Ak,upd],λt1 e1 CM l1 h1=>?_⟩
       ·rcases Ah.2 with⟨rfl,_⟩|⟨g,cap,AI,rfl,_⟩<;>rfl
       ·simp only[Ak,updL,upd,CR,Af]at h1
        injection h1 with q1 q2 q3 q4;subst q3;exact⟨Aw _,λ_=>rfl⟩
    ·cases hk
   ·cases hk
  ·cases hk
 ·cases hk
end
end Go.Lift
namespace Go.Lift
open Go.RowKit
theorem LY{f:Yk->Yb Blk}:∀{l m:Ya (Yk×Blk)},updL f (l++m)=updL (updL f l) m
 |[],_=>rfl
 |(j,x)::l,m=>by simp only[EE,updL];exact LY
theorem WL:∀{ids:Ya Yk}{f:Yk->Yb Blk}{k:Yk},updL f (dead ids) k=if k∈ids then Yd .dead else f k
 |[],_,_=>by simp[dead,updL]
 |i::r,f,k=>by
  simp only[dead,updL];rw[WL];by_cases h1:k∈r
  ·simp[h1]
  ·by_cases h2:k=i
   ·subst h2;simp[h1,upd]
   ·simp[h1,h2,upd]
theorem HE{x:Yk}:∀{l:Ya Yk},memB x l=Yo↔x∈l
 |[]=>by simp[memB]
 |y::r=>by
  simp only[memB,Ik,HE (l:=r),Bg];constructor
  ·rintro(h|h)
   ·exact .inl (At h)
   ·exact .inr h
  ·rintro(h|h)
   ·subst h;exact .inl (LO x)
   ·exact .inr h
theorem Qn:∀{l:Ya Yk},JI l=Yo->l.Nodup
 |[],_=>Wi
 |x::r,h=>by obtain⟨h1,h2⟩:=andB h;refine La.2 ⟨λhm=>?_,Qn h2⟩;have:=HE.2 hm;rw[this]at h1;cases h1
structure Many (pl:Yk->Yb Pl) (bl:Yk->Yb Blk) (w:Yx) (Ac:Yk->Yb Pl) (bl':Yk->Yb Blk) (w':Yx) (ids:Ya Yk) (og:Yb Yk):Prop where
 out:∀k,k∉ids->Ac k=pl k/\bl' k=bl k
 grown:w.grownBy w' og
 og:∀g,og=Yd g->∃i∈ids,Cu pl bl i g
 new:∀k∈ids,∀g,Cu Ac bl' k g->(∃i∈ids,Cu pl bl i g)\/w.heap.size<=g
 sep:∀k∈ids,∀m∈ids,k≠m->∀g,Cu Ac bl' k g->¬Cu Ac bl' m g
 cells:∀k∈ids,∀g,pl k≠Yd (.cells g)
 rows:∀k∈ids,∀sv Ab,pl k=Yd (.row sv Ab)->∃As Bf,Ac k=Yd (.row As Bf)/\KeepR (bl k) (bl' k) sv Ab As Bf
section
variable{P:Yv}{ok0:OK0 P}{base:Yk}{pl Ac:Yk->Yb Pl}{bl bl':Yk->Yb Blk}{w w':Yx}{ids:Ya Yk}{og:Yb Yk}
theorem Many.step(h:Many pl bl w Ac bl' w' ids og):Step pl bl w Ac bl' w':=by
 have hOwn:∀k g,Cu pl bl k g->Own pl bl g:=λk g ⟨B,p,h1,h2,h3,h4⟩=>⟨k,B,p,h1,h2,h3,h4⟩;have hg:=h.grown;refine⟨hg.os,hg.tape,hg.output,hg.size,λg Ae ho=>⟨hg.block g Ae (λe=>?_),?_⟩,λb g hb=>?_,λb sv Ab hb=>?_⟩
 ·obtain⟨i,_,hi⟩:=h.og g e.symm
  exact ho (hOwn i g hi)
 ·rintro⟨k,C,q,hC,hl,hq,Bh⟩
  by_cases hk:k∈ids
  ·rcases h.new k hk g ⟨C,q,hC,hl,hq,Bh⟩with⟨i,_,hi⟩|hi
   ·exact ho (hOwn i g hi)
   ·omega
  ·obtain⟨h1,h2⟩:=h.out k hk
   rw[h2]at hC;rw[h1]at hq;exact ho ⟨k,C,q,hC,hl,hq,Bh⟩
 ·by_cases hk:b∈ids
  ·exact Yw hb (h.cells b hk g)
  ·rw[(h.out b hk).1];exact hb
 ·by_cases hk:b∈ids
  ·exact h.rows b hk sv Ab hb
  ·obtain⟨h1,h2⟩:=h.out b hk
   exact⟨sv,Ab,by rw[h1];exact hb,KeepR.of_eq (λC hC=>by rw[<-h2];exact hC) _ _⟩
theorem Many.rel(hr:RelB ok0 base pl bl w)(h:Many pl bl w Ac bl' w' ids og)(hB:∀k∈ids,∃B p,bl' k=Yd B/\Ac k=Yd p/\BRep (Ak ok0 base Ac bl' w') B p):RelB ok0 base Ac bl' w':=by
 have hs:=h.step
 have KN:∀k C q g,k∉ids->bl k=Yd C->C.live=Yo->pl k=Yd q->q.has g->w'.heap[g]?=w.heap[g]?/\∀m∈ids,¬Cu Ac bl' m g:=by
  intro k C q g hk hC hl hq Bh;have Ae:g<w.heap.size:=Own.lt hr ⟨k,C,q,hC,hl,hq,Bh⟩;have M1:∀m∈ids,¬Cu pl bl m g:=λm hm ⟨B,p,h1,h2,h3,h4⟩=>hr.sep k m C B q p g (λe=>hk (e▸hm)) hC h1 hl h2 hq h3 Bh h4;refine⟨h.grown.block g Ae (λe=>?_),λm hm ho=>?_⟩
  ·obtain⟨i,hi,ho⟩:=h.og g e.symm
   exact M1 i hi ho
  ·rcases h.new m hm g ho with⟨i,hi,ho⟩|ho
   ·exact M1 i hi ho
   ·omega
 refine⟨BH hr.baseLe hs.size,λk C hC=>?_,λk m C D q r g J5 hC hD hlC hlD hq AR Bh NF=>?_,λk hk=>?_,hr.glob.out hs.size hs.out⟩
 ·by_cases hk:k∈ids
  ·obtain⟨B,p,h1,h2,h3⟩:=hB k hk
   rw[hC]at h1;injection h1 with h1;subst h1;exact⟨p,h2,h3⟩
  ·obtain⟨h1,h2⟩:=h.out k hk
   rw[h2]at hC;obtain⟨q,hq,hBq⟩:=hr.blks k C hC;refine⟨q,by rw[h1];exact hq,?_⟩;cases hl:C.live with
   |false=>cases C<;>first|exact trivial|simp[Blk.live]at hl
   |true=>exact BRep.mono hs.ext hBq λg Bh=>(KN k C q g hk hC hl hq Bh).1
 ·by_cases hk:k∈ids
  ·by_cases hm:m∈ids
   ·exact h.sep k hk m hm J5 g ⟨C,q,hC,hlC,hq,Bh⟩ ⟨D,r,hD,hlD,AR,NF⟩
   ·obtain⟨h1,h2⟩:=h.out m hm
    rw[h2]at hD;rw[h1]at AR;exact(KN m D r g hm hD hlD AR NF).2 k hk ⟨C,q,hC,hlC,hq,Bh⟩
  ·obtain⟨h1,h2⟩:=h.out k hk
   rw[h2]at hC;rw[h1]at hq;by_cases hm:m∈ids
   ·exact(KN k C q g hk hC hlC hq Bh).2 m hm ⟨D,r,hD,hlD,AR,NF⟩
   ·obtain⟨h3,h4⟩:=h.out m hm
    rw[h4]at hD;rw[h3]at AR;exact hr.sep k m C D q r g J5 hC hD hlC hlD hq AR Bh NF
 ·by_cases hm:k∈ids
  ·obtain⟨B,p,h1,_⟩:=hB k hm
   rw[hk]at h1;cases h1
  ·obtain⟨h1,h2⟩:=h.out k hm
   rw[h2]at hk;rw[h1];exact hr.fresh k hk
end
abbrev LZ(s r:Value):Prop:=∀g,s.ownBlock=some g->r.ownBlock≠some g
def An5(P:Yv)(E:Env)(t ty et:Yq)(bytes:Yk)(e:OT)(new:Ya e.ty.den)(u:Yp)(Fu:Ya Yp):Prop:=
 ∀(base:Yk)(v:Yp)(n:Yk)(xs:Ya Yp),base<=E.w.heap.size->E.w.ownsRow base et e.ty.size v n xs->(n+new.length)*bytes<=Cn->
  ∃v' w' ys,(YE #[t,t] ty #[v,u]).run P E.w=.ok v' w'/\w'.ownsRow base et e.ty.size v' (n+new.length) (xs++ys)/\E.w.grownBy w' v.ownBlock/\(v'.ownBlock=v.ownBlock\/v'.ownBlock=Yd E.w.heap.size)/\
   ∀hv,OL (λ_ x f F=>Owns E.w E.ok E.base hv e Ye x f F) 0 new ys Fu
section
variable{P:Yv}{E E':Env}
theorem fV{bl:Yk->Yb Blk}(hb:Eg E){t ty et:Yq}{te:TI}{i:YI}{d:YC}{z:Yp}(fe:TFacts P et te i d z)(ht:P.underlying t=Yd (.slice et)){e:OT}(J2:e.ty.size=te.size)(Hd:0<te.size)(DX:0<te.bytes){y:V}{new:Ya e.ty.den}{rd dd:Ya Yk}(h:srcT bl et e y=Yd (new,rd,dd))(AM:∀b∈rd,E.bl b=bl b){u:Yp}(hv:VRep E y u):∃Fu,An5 P E t ty et te.bytes e new u Fu/\Fu.Pairwise LZ/\(∀s∈Fu,∀g,s.ownBlock=Yd g->∃i∈dd,Cu E.pl E.bl i g)/\dd.Nodup/\∀i∈dd,i∈rd/\∃B sv Ab,E.bl i=Yd B/\B.live=Yo/\E.pl i=Yd (.row sv Ab):=by
 unfold srcT at h;split at h
 ·split at h
  ·rename_i q hq
   simp only[Af,Bv]at h;obtain⟨rfl,rfl,rfl⟩:=h;have Ek:=Qm hb (l:=q.1) (rd:=q.2) hq (λb Ay B hB=>(AM b Ay).trans hB) hv;refine⟨[],λbase v n xs L0 Ah Cj=>?_,by simp,by simp,by simp,by simp⟩;obtain⟨v',w',ys,h1,h2,h3,h4,h5⟩:=fT (P:=P) (ty:=ty) base fe ht J2 Hd DX Ah Ek Cj L0;exact⟨v',w',ys,h1,h2,h3,h4,λhv=>fL h5⟩
  ·cases h
 ·split at h
  ·rename_i r m hm
   split at h
   ·rename_i Cc
    obtain⟨⟨m1,m2⟩,m3⟩:=m;simp only[Bv]at Cc;obtain⟨rfl,rfl⟩:=Cc;simp only[Af,Bv]at h;obtain⟨rfl,rfl,rfl⟩:=h;obtain⟨Ab,Fr,B,k1,k2,_,k3,k4,k5,k6⟩:=fM hb hm (AM r (by simp)) hv;have Ib:B.live=Yo:=by cases B<;>first|rfl|exact Yw rfl k2
    refine⟨Fr,λbase v n xs L0 Ah Cj=>?_,(G4.1 k6).2,λs hs g hg=>⟨r,by simp,B,_,k1,Ib,k3,Og k5 (by simp[hs]) hg⟩,by simp,λi hi=>?_⟩
    ·obtain⟨sv0,xs0,F0,e1,e2,o1,o2⟩:=k4 u
     have e1:=(Lb e1).1;subst e1;have e2:=(Lb e2).2;subst e2;have J0:∀x∈xs0,x.oneCell'=Yo:=OL.all (λ_ _ _ _ h=>Owns.oneCell h) o2;have o1':E.w.ownsRow E.base m1 te.size u (List.length m3) xs0:=J2▸o1;obtain⟨v',w',h1,h2,h3,h4⟩:=AmW (P:=P) (ty:=ty) base fe ht Hd DX (J2▸Ah) o1' J0 Cj L0;refine⟨v',w',xs0,h1,J2▸h2,h3,h4,λhv=>o2.mono λ_ _ _ _ _ h=>Owns.any h⟩
    ·simp only[DS]at hi
     subst hi;exact⟨by simp,B,u,Ab,k1,Ib,k3⟩
   ·cases h
  ·cases h
theorem fW(hx:Ext E E')(BM:E'.base=E.base){et:Yq}{e:OT}{l new:Ya e.ty.den}{v':Yp}{Fn Fu xs ys:Ya Yp}(hL:OL (λ_ x f F=>Owns E.w E.ok E.base v' e Ye x f F) 0 l xs Fn)(hN:OL (λ_ x f F=>Owns E.w E.ok E.base v' e Ye x f F) 0 new ys Fu)(Jc:∀s∈Fn++Fu,∀g,s.ownBlock=Yd g->E'.w.heap[g]?=E.w.heap[g]?)(Ah:E'.w.ownsRow E.base et e.ty.size v' (l.length+new.length) (xs++ys))(NE:(v'::(Fn++Fu)).Pairwise LZ):TreeOk E' et e Ye (l++new) v' ((Fn++Fu).map Yd):=by
 have hb:E'.base<=E.base:=by rw[BM];exact Aw _
 refine⟨⟨v',Fn++Fu,⟨v',xs++ys,Fn++Fu,rfl,rfl,?_,?_⟩,rfl,NE⟩,by simp⟩
 ·rw[BM,Bd];exact Ah
 ·exact OL.append (λ_ _ _ _ _ h=>h) (hL.mono λ_ _ _ f hf h=>Owns.mono hb hx.heap (λs hs=>Jc s (CI _ (hf s hs))) h) (hN.mono λ_ _ _ f hf h=>Owns.mono hb hx.heap (λs hs=>Jc s (Da _ (hf s hs))) h)
theorem TreeOk.take{t:Yq}{e:OT}{l:Ya e.ty.den}{sv:Yp}{Ab:Ya (Yb Yp)}(hT:TreeOk E t e Ye l sv Ab){i0:Yk×Yk}{p:Path}{n:EF}(hn:BC (.r t e) l 0 (i0::p)=Yd n){v:Yp}(hs:(Yd sv::Ab)[nix (.r t e) l 0 (i0::p)]?=Yd (Yd v)):∃Fn KV,Owns E.w E.ok E.base v (.r n.1.1 n.1.2) Ye n.2 [v] (v::Fn)/\(v::Fn).Pairwise LZ/\(∀s∈v::Fn,∀g,s.ownBlock=Yd g->(Pl.row sv Ab).has g)/\(∀g,(Pl.row sv KV).has g->(Pl.row sv Ab).has g/\∀s∈v::Fn,s.ownBlock≠Yd g)/\(∀c,KeepT c t e Ye (Yd (i0::p)) l l sv Ab KV)/\∀E',Ext E E'->E'.base=E.base->(∀g,(Pl.row sv KV).has g->E'.w.heap[g]?=E.w.heap[g]?)->TreeOk E' t e (Yd (i0::p)) l sv KV:=by
 obtain⟨s',Fn,G1,G2,_,h2,h3,h4,h5,h6,h7⟩:=hT.node hn;rw[hs]at h4;injection h4 with h4;injection h4 with h4;subst h4
 have Hd:0<G1.length:=by
  rw[h2];cases hx:(l:Ya e.ty.den)[i0.1]? with
  |none=>simp[BC,hx]at hn
  |some x=>simp only[nix,hx];omega
 obtain⟨A,hA⟩:∃A,G1=sv::A:=by
  cases G1 with
  |nil=>simp at Hd
  |cons a G1=>rw[EE,CP]at h3;injection h3 with h3 _;injection h3 with h3;exact⟨G1,by rw[h3]⟩
 subst hA;have ADj:(v::Fn).length=cnt (.r n.1.1 n.1.2) n.2:=h5.cnt;have Co:∀s∈sv::A++(v::Fn++G2),∀g,s.ownBlock=Yd g->(Pl.row sv Ab).has g:=λs hs g hg=>Og h3 hs hg
 have hH:∀g,(Pl.row sv (A.map Yd++(Y8 (cnt (.r n.1.1 n.1.2) n.2) Ye++G2.map Yd))).has g->∃s∈sv::A++G2,s.ownBlock=Yd g:=λg h=>by
  rcases h with h|⟨j,s,hj,h⟩
  ·exact⟨sv,by simp,h⟩
  ·have:=CN hj
   simp only[BV,Fw,Af,exists_eq_right,List.mem_replicate,reduceCtorEq,and_false,false_or]at this;exact⟨s,by simp only[EE,Bg,BV];exact .inr this,h⟩
 have AM:∀s,s∈sv::A++G2->s∈sv::A++(v::Fn++G2):=λs hs=>by simp only[EE,Bg,BV]at hs⊢;rcases hs with h|h|h<;>simp[h]
 have NE:=FU.1 h7;have AlJ:=FU.1 NE.2.1
 have AD9:∀s∈sv::A++G2,∀r∈v::Fn,LZ s r:=λs hs r hr=>by
  rcases BV.1 hs with h|h
  ·exact NE.2.2 s h r (CI _ hr)
  ·exact λg g1 g2=>AlJ.2.2 r hr s h g g2 g1
 refine⟨Fn,A.map Yd++(Y8 (cnt (.r n.1.1 n.1.2) n.2) Ye++G2.map Yd),h5,AlJ.1,λs hs g hg=>Co s (by simp only[BV];exact .inr (.inl hs)) g hg,λg h=>?_,λc q hq ho=>⟨λ_ h=>(by cases h),λn' Dj=>⟨n',Dj,rfl,rfl,λs hs=>?_⟩⟩,λE' hx L0 hh=>⟨⟨v,A++G2,?_,⟨n,sv::A,G2,hn,rfl,h2,rfl⟩,?_⟩,by simp⟩⟩
 ·obtain⟨s,hs,hg⟩:=hH g h
  exact⟨Co s (AM s hs) g hg,λr hr=>AD9 s hs r hr g hg⟩
 ·rw[h3]at hs
  have Az:¬((0:Yk)=0/\(i0::p)<+:q):=λh=>ho _ rfl h.2;rw[LK,LK]at hs;show((sv::A).map Yd++(Y8 (cnt (.r n.1.1 n.1.2) n.2) Ye++G2.map Yd))[nix (.r t e) l 0 q]?=Yd (Yd s);rcases Wl hn Dj Az with h|h
  ·rw[<-h2]at h
   rw[G0 (by simpa using h)]at hs⊢;exact hs
  ·rw[<-h2]at h
   rw[ES (by simp only[Fc];omega),ES (by simp only[Fc];omega)]at hs;rw[ES (by simp only[Fc];omega),ES (by simp only[Fc,PF];omega)];rw[<-hs,Fc,Fc,PF,ADj]
 ·have hb:E'.base<=E.base:=by rw[L0];exact Aw _
  exact Owns.mono hb hx.heap (λs hs g hg=>hh g (by
   rcases BV.1 (show s∈(sv::A)++G2 from hs)with h|h
   ·rcases Bg.1 h with h|h
    ·exact .inl (h▸hg)
    ·obtain⟨j,hj⟩:=PD.1 h
     exact .inr ⟨j,s,by rw[G0 (by simpa using(Do.1 hj).1),FJ,hj];rfl,hg⟩
   ·obtain⟨j,hj⟩:=PD.1 h
    refine .inr ⟨A.length+(cnt (.r n.1.1 n.1.2) n.2+j),s,?_,hg⟩;rw[ES (by simp),ES (by simp)];simp[hj])) h6
 ·rw[EE]at h7
  show(sv::(A++G2)).Pairwise LZ;refine h7.sublist ?_;rw[<-EE];exact List.Sublist.append (List.Sublist.refl _) (List.sublist_append_right _ _)
end
section
variable{P:Yv}{o:Oper}{ρ:Y0->V}{bl:Yk->Yb Blk}{β:Type}{r:β}
theorem fX{E:Env}{b ver:Yk}{t:Yq}{e:OT}{Am:Yk}{h:Yb Path}{l:Ya e.ty.den}{v:Yp}{Ab:Ya (Yb Yp)}(h1:v.oneCell'=Yo)(Bk:E.pl b=Yd (.row v Ab))(An:E.bl b=Yd (.tree t e ver Am h l)):VRep E (.c (.trow b ver [])) v:=by refine⟨h1,v,Ab,Bk,λt1 e1 CM H9 Ep l1 AV=>?_⟩;rw[An]at AV;injection AV with AV;injection AV with q1 q2 q3 q4 q5 q6;subst q1 q2 q3 q4 q5;simp only[Jj]at q6;subst q6;exact⟨Aw _,λ_ _=>⟨_,rfl,rfl⟩⟩
theorem Aan{ok0:OK0 P}{base:Yk}{pl:Yk->Yb Pl}{bl2:Yk->Yb Blk}{w w':Yx}(hr:RelB ok0 base pl bl2 w){nx:Yk}(Cz:bl2 nx=Ye){dd:Ya Yk}{Fu:Ya Yp}(q2:Fu.Pairwise LZ)(q3:∀s∈Fu,∀g,s.ownBlock=Yd g->∃i∈dd,Cu pl bl2 i g)(q5:∀i∈dd,∃B sv Ab,bl2 i=Yd B/\B.live=Yo/\pl i=Yd (.row sv Ab)){et:Yq}{e:OT}{new:Ya e.ty.den}{v':Yp}{ys:Ya Yp}(CG:w.grownBy w' Ye)(B4:∀g,v'.ownBlock=Yd g->g=w.heap.size)(hOL:∀hv,OL (λ_ x f F=>Owns w (Ak ok0 base pl bl2 w).ok base hv e Ye x f F) 0 new ys Fu)(Ah:w'.ownsRow base et e.ty.size v' new.length ys):∃pl3,RelB ok0 base pl3 (updL bl2 (dead dd++[(nx,.tree et e 0 0 Ye new)])) w'/\Step pl bl2 w pl3 (updL bl2 (dead dd++[(nx,.tree et e 0 0 Ye new)])) w'/\VRep (Ak ok0 base pl3 (updL bl2 (dead dd++[(nx,.tree et e 0 0 Ye new)])) w') (.c (.trow nx 0 [])) v':=by
 have I0:nx∉dd:=λh=>by obtain⟨B,_,_,h1,_⟩:=q5 nx h;rw[show bl2 nx=Yd B from h1]at Cz;cases Cz
 have CF:∀k,updL bl2 (dead dd++[(nx,.tree et e 0 0 Ye new)]) k=if k=nx then Yd (.tree et e 0 0 Ye new)else if k∈dd then Yd .dead else bl2 k:=λk=>by simp only[LY,updL,upd,WL]
 generalize updL bl2 (dead dd++[(nx,.tree et e 0 0 Ye new)])=bl3 at*;have EO:∀k,upd pl nx (.row v' (Fu.map Yd)) k=if k=nx then Yd (.row v' (Fu.map Yd))else pl k:=λk=>rfl;generalize AlI:upd pl nx (.row v' (Fu.map Yd))=pl3 at*
 have Ae:∀s∈Fu,∀g,s.ownBlock=Yd g->g<w.heap.size:=λs hs g hg=>by obtain⟨i,_,B,p,h⟩:=q3 s hs g hg;exact Own.lt hr ⟨i,B,p,h⟩
 have IZ:∀k∈dd,∀g,¬Cu pl3 bl3 k g:=λk hk g h=>by obtain⟨B,p,h1,h2,_⟩:=h;have DP:¬k=nx:=λe=>I0 (e▸hk);rw[CF,Y4 DP,Y7 hk]at h1;injection h1 with h1;subst h1;cases h2
 have hm:Many pl bl2 w pl3 bl3 w' (nx::dd) Ye:=by
  refine⟨λk hk=>?_,CG,λg h=>(by cases h),λk hk g h=>?_,λk hk m hm J5 g h1 h2=>?_,λk hk g h=>?_,λk hk sv Ab h=>?_⟩
  ·simp only[Bg,not_or]at hk
   rw[EO,CF,Y4 hk.1,Y4 hk.1,Y4 hk.2];exact⟨rfl,rfl⟩
  ·rcases Bg.1 hk with rfl|hk
   ·obtain⟨B,p,_,_,h1,h2⟩:=h
    rw[EO,Y7 rfl]at h1;injection h1 with h1;subst h1;rcases h2 with h2|⟨j,s,hj,h2⟩
    ·exact .inr (LN (B4 g h2).symm)
    ·rw[FJ,NQ]at hj
     obtain⟨s',hj,he⟩:=hj;injection he with he;subst he;obtain⟨i,hi,ho⟩:=q3 s' (CN hj) g h2;exact .inl ⟨i,E6 _ hi,ho⟩
   ·exact Yw h (IZ k hk g)
  ·rcases Bg.1 hk with rfl|hk
   ·rcases Bg.1 hm with rfl|hm
    ·exact J5 rfl
    ·exact IZ m hm g h2
   ·exact IZ k hk g h1
  ·rcases Bg.1 hk with rfl|hk
   ·rw[hr.fresh k Cz]at h;cases h
   ·obtain⟨_,_,_,_,_,h1⟩:=q5 k hk
    rw[show pl k=_ from h1]at h;cases h
  ·rcases Bg.1 hk with rfl|hk
   ·rw[hr.fresh k Cz]at h;cases h
   ·have DP:¬k=nx:=λe=>I0 (e▸hk)
    exact⟨sv,Ab,by rw[EO,Y4 DP];exact h,by rw[CF,Y4 DP,Y7 hk];exact KeepR.ofDead⟩
 have AY:=hm.step
 have hT2:TreeOk (Ak ok0 base pl3 bl3 w') et e Ye new v' (Fu.map Yd):=fW (E:=Ak ok0 base pl bl2 w) AY.ext rfl (l:=[]) (Fn:=[]) (xs:=[]) ⟨rfl,rfl⟩ (hOL v')
  (λs hs g hg=>CG.block g (Ae s hs g hg) (by simp)) (by rw[BP,CQ];exact Ah) (by
   rw[DT,G4];exact⟨λs hs g h1 h2=>by have:=Ae s hs g h2;have:=B4 g h1;omega,q2⟩)
 refine⟨pl3,?_,AY,?_⟩
 ·refine hm.rel hr λk hk=>?_
  rcases Bg.1 hk with rfl|hk
  ·exact⟨.tree et e 0 0 Ye new,.row v' (Fu.map Yd),by rw[CF,Y7 rfl],by rw[EO,Y7 rfl],hT2⟩
  ·have DP:¬k=nx:=λe=>I0 (e▸hk)
   obtain⟨_,_,_,_,_,h1⟩:=q5 k hk;exact⟨.dead,_,by rw[CF,Y4 DP,Y7 hk],by rw[EO,Y4 DP];exact h1,trivial⟩
 ·exact fX (PO Ah) (by show pl3 nx=_;rw[EO,Y7 rfl]) (by show bl3 nx=_;rw[CF,Y7 rfl])
theorem An6{X:Ya (Yq×OT)}{T:Yq->Yb TI}(hT:TOk P T){kk:K β}{c:Call}(ho:o.op=.call c)(hc:c.callee=.builtin .append){x y:Y0}{t:Yq}{nx:Yk}(ha:c.args.toList=[x,y])(Cc:c.argTypes.toList=[t,t])(hk:eQ X T bl nx t (ρ x) (ρ y) kk=Yd r):Sound P o ρ bl kk r:=by
 have Ba:c.args=#[x,y]:=by rw[<-Gi (xs:=c.args),ha]
 have BY:x∈o.op.operands:=by simp[ho,Yt,YF,Ba]
 have EB:y∈o.op.operands:=by simp[ho,Yt,YF,Ba]
 unfold eQ at hk;split at hk
 ·cases hk
 rename_i ti ht;obtain⟨i,d,z,f⟩:=hT.facts ht;split at hk
 ·rename_i et Cs Cr
  have hd:=GR f Cs Cr;subst hd;split at hk
  ·cases hk
  rename_i te BR;obtain⟨i',d',z',fe⟩:=hT.facts BR;split at hk
  ·
   rename_i hx;split at hk
   ·cases hk
   rename_i e _;cases hs:(Ym e.ty.size te.size&&(Yz 0 te.size&&Yz 0 te.bytes))with
   |false=>rw[hs]at hk;cases hk
   |true=>
    simp only[hs,Ao]at hk;obtain⟨Bt,KR⟩:=andB hs;obtain⟨AP,Et⟩:=andB KR;have Bt:=At Bt;have AP:=Dp AP;have Et:=Dp Et;split at hk
    ·rename_i new rd dd FA hn
     obtain⟨Cj,hk⟩:=Dc hk;have Cj:=AC Cj;refine⟨_,_,_,hk,λbl2 Aj=>?_⟩;have Cz:bl2 nx=Ye:=(Aj nx (by simp)).trans hn;intro ok0 base pl w a hr Ad K Q hK;have hv:a.eval x=.slice Ye 0 0:=by have:=Ad x BY;rw[hx]at this;exact this
     obtain⟨Fu,q1,q2,q3,q4,q5⟩:=fV (P:=P) (E:=Ak ok0 base pl bl2 w) (t:=t) (ty:=o.type) hr.blksOk fe f.under Bt AP Et FA (λb hb=>Aj b (by simp[hb])) (Ad y EB);obtain⟨v',w',ys,AE,Ah,CG,J6,hOL⟩:=q1 base (.slice Ye 0 0) 0 [] hr.baseLe (YM w base et e.ty.size) (by simpa using Cj);have CG:w.grownBy w' Ye:=CG;have Ah:w'.ownsRow base et e.ty.size v' (0+new.length) ([]++ys):=Ah
     obtain⟨pl3,z1,z2,z3⟩:=Aan hr Cz q2 q3 (λi hi=>(q5 i hi).2) CG (λg hg=>by
      rcases J6 with h|h
      ·rw[h]at hg;cases hg
      ·rw[h]at hg;injection hg with hg;exact hg.symm) hOL (by simpa using Ah)
     exact HD (SE ho hc ha Cc (by rw[hv];exact AE)) (hK v' pl3 w' z1 z2 z3)
    ·cases hk
  ·
   rename_i b ver hx;split at hk
   ·rename_i t0 e ver' Am l hb
    cases hs:(Ym ver ver'&&(Ym t0 et&&(Ym e.ty.size te.size&&(Yz 0 te.size&&Yz 0 te.bytes))))with
    |false=>rw[hs]at hk;cases hk
    |true=>
     simp only[hs,Ao]at hk;obtain⟨AQ,hs⟩:=andB hs;obtain⟨Vx,hs⟩:=andB hs;obtain⟨Bt,KR⟩:=andB hs;obtain⟨AP,Et⟩:=andB KR;have:=At AQ;subst this;have:=At Vx;subst this;have Bt:=At Bt;have AP:=Dp AP;have Et:=Dp Et;split at hk
     ·rename_i new rd dd FA
      obtain⟨wK,hk⟩:=Dc hk;obtain⟨Co,Cj⟩:=andB wK;have Cj:=AC Cj;have w7:b∉rd:=λh=>by rw[HE.2 h]at Co;cases Co
      refine⟨_,_,_,hk,λbl2 Aj=>?_⟩;have Ay:bl2 b=Yd (.tree t0 e ver Am Ye l):=(Aj b (by simp)).trans hb;intro ok0 base pl w a hr Ad K Q hK;have hv:=Ad x BY;rw[hx]at hv;obtain⟨Ab,Bk,hTr⟩:=WC (E:=Ak ok0 base pl bl2 w) hr.blksOk Ay hv;have Bk:pl b=Yd (.row (a.eval x) Ab):=Bk;obtain⟨NI,F,h1,h2,h3⟩:=hTr.rep;have h2:Yd (a.eval x)::Ab=(a.eval x::F).map Yd:=h2;obtain⟨sv0,xs,F0,e1,e2,o1,o2⟩:=h1;have e1:=(Lb e1).1;subst e1;have e2:=(Lb e2).2;subst e2;generalize y4:a.eval x=v at*;obtain⟨Fu,q1,q2,q3,q4,q5⟩:=fV (P:=P) (E:=Ak ok0 base pl bl2 w) (t:=t) (ty:=o.type) hr.blksOk fe f.under Bt AP Et FA (λb hb=>Aj b (by simp[hb])) (Ad y EB);obtain⟨v',w',ys,AE,Ah,CG,J6,hOL⟩:=q1 base v l.length xs hr.baseLe o1 Cj;have CG:w.grownBy w' v.ownBlock:=CG;have Mu:b∉dd:=λh=>w7 (q5 b h).1
      have CF:∀k,updL bl2 (dead dd++[(b,.tree t0 e (ver+1) Am Ye (l++new))]) k=if k=b then Yd (.tree t0 e (ver+1) Am Ye (l++new))else if k∈dd then Yd .dead else bl2 k:=λk=>by simp only[LY,updL,upd,WL]
      generalize updL bl2 (dead dd++[(b,.tree t0 e (ver+1) Am Ye (l++new))])=bl3 at*;have EO:∀k,upd pl b (.row v' ((F++Fu).map Yd)) k=if k=b then Yd (.row v' ((F++Fu).map Yd))else pl k:=λk=>rfl;generalize AlI:upd pl b (.row v' ((F++Fu).map Yd))=pl3 at*;have Dv:∀s∈v::F,∀g,s.ownBlock=Yd g->Cu pl bl2 b g:=λs hs g hg=>⟨_,_,Ay,rfl,Bk,Og h2 hs hg⟩;have Ae:∀i g,Cu pl bl2 i g->g<w.heap.size:=λi g ⟨B,p,h⟩=>Own.lt hr ⟨i,B,p,h⟩
      have hltF:∀s∈F++Fu,∀g,s.ownBlock=Yd g->g<w.heap.size:=λs hs g hg=>by
       rcases BV.1 hs with hs|hs
       ·exact Ae b g (Dv s (E6 _ hs) g hg)
       ·obtain⟨i,_,h⟩:=q3 s hs g hg;exact Ae i g h
      have hFu:∀s∈Fu,∀g,s.ownBlock=Yd g->¬Cu pl bl2 b g:=λs hs g hg h=>by obtain⟨i,hi,B,p,k1,k2,k3,k4⟩:=q3 s hs g hg;obtain⟨B',p',m1,m2,m3,m4⟩:=h;exact hr.sep i b B B' p p' g (λe=>Mu (e▸hi)) k1 m1 k2 m2 k3 m3 k4 m4
      have OR:∀s∈F++Fu,LZ v s:=λs hs=>by
       rcases BV.1 hs with hs|hs
       ·exact(G4.1 h3).1 s hs
       ·exact λg g1 g2=>hFu s hs g g2 (Dv v (by simp) g g1)
      have B4:∀g,v'.ownBlock=Yd g->v.ownBlock=Yd g\/g=w.heap.size:=λg hg=>by
       rcases J6 with h|h
       ·exact .inl (h▸hg)
       ·rw[h]at hg;injection hg with hg;exact .inr hg.symm
      have IZ:∀k∈dd,∀g,¬Cu pl3 bl3 k g:=λk hk g h=>by obtain⟨B,p,h1,h2,_⟩:=h;have DP:¬k=b:=λe=>Mu (e▸hk);rw[CF,Y4 DP,Y7 hk]at h1;injection h1 with h1;subst h1;cases h2
      have hm:Many pl bl2 w pl3 bl3 w' (b::dd) v.ownBlock:=by
       refine⟨λk hk=>?_,CG,λg h=>⟨b,by simp,Dv v (by simp) g h⟩,λk hk g h=>?_,λk hk m hm J5 g h1 h2=>?_,λk hk g h=>?_,λk hk sv Bf h=>?_⟩
       ·simp only[Bg,not_or]at hk
        rw[EO,CF,Y4 hk.1,Y4 hk.1,Y4 hk.2];exact⟨rfl,rfl⟩
       ·rcases Bg.1 hk with rfl|hk
        ·obtain⟨B,p,_,_,h1,h2⟩:=h
         rw[EO,Y7 rfl]at h1;injection h1 with h1;subst h1;rcases h2 with h2|⟨j,s,hj,h2⟩
         ·rcases B4 g h2 with h2|h2
          ·exact .inl ⟨k,by simp,Dv v (by simp) g h2⟩
          ·exact .inr (LN h2.symm)
         ·rw[FJ,NQ]at hj
          obtain⟨s',hj,he⟩:=hj;injection he with he;subst he;rcases BV.1 (CN hj)with hs|hs
          ·exact .inl ⟨k,by simp,Dv s' (E6 _ hs) g h2⟩
          ·obtain⟨i,hi,ho⟩:=q3 s' hs g h2
           exact .inl ⟨i,E6 _ hi,ho⟩
        ·exact Yw h (IZ k hk g)
       ·rcases Bg.1 hk with rfl|hk
        ·rcases Bg.1 hm with rfl|hm
         ·exact J5 rfl
         ·exact IZ m hm g h2
        ·exact IZ k hk g h1
       ·rcases Bg.1 hk with rfl|hk
        ·rw[Bk]at h;cases h
        ·obtain⟨_,_,_,_,_,_,h1⟩:=q5 k hk
         rw[show pl k=_ from h1]at h;cases h
       ·rcases Bg.1 hk with rfl|hk
        ·refine⟨_,_,by rw[EO,Y7 rfl],?_⟩
         rw[Ay,CF,Y7 rfl];exact KeepR.ofTree ⟨by omega,Aw _,λh=>by omega⟩
        ·have DP:¬k=b:=λe=>Mu (e▸hk)
         exact⟨sv,Bf,by rw[EO,Y4 DP];exact h,by rw[CF,Y4 DP,Y7 hk];exact KeepR.ofDead⟩
      have AY:=hm.step
      have hT2:TreeOk (Ak ok0 base pl3 bl3 w') t0 e Ye (l++new) v' ((F++Fu).map Yd):=fW (E:=Ak ok0 base pl bl2 w) AY.ext rfl (o2.mono λ_ _ _ _ _ h=>Owns.any h) (hOL v')
       (λs hs g hg=>CG.block g (hltF s hs g hg) (λe=>OR s hs g e.symm hg)) Ah (by
        rw[G4,FU];refine⟨λs hs g g1 g2=>?_,(G4.1 h3).2,q2,λa ha b hb g g1 g2=>hFu b hb g g2 (Dv a (E6 _ ha) g g1)⟩;rcases B4 g g1 with g1|g1
        ·exact OR s hs g g1 g2
        ·have:=hltF s hs g g2;omega)
      refine HD (SE ho hc ha Cc (by rw[y4];exact AE)) (hK v' pl3 w' ?_ AY ?_)
      ·refine hm.rel hr λk hk=>?_
       rcases Bg.1 hk with rfl|hk
       ·exact⟨.tree t0 e (ver+1) Am Ye (l++new),.row v' ((F++Fu).map Yd),by rw[CF,Y7 rfl],by rw[EO,Y7 rfl],hT2⟩
       ·have DP:¬k=b:=λe=>Mu (e▸hk)
        obtain⟨_,_,_,_,_,_,h1⟩:=q5 k hk;exact⟨.dead,_,by rw[CF,Y4 DP,Y7 hk],by rw[EO,Y4 DP];exact h1,trivial⟩
      ·exact fX (PO Ah) (by show pl3 b=_;rw[EO,Y7 rfl]) (by show bl3 b=_;rw[CF,Y7 rfl])
     ·cases hk
   ·cases hk
  ·
   rename_i b ver i0 p hx;split at hk
   ·cases hk
   rename_i q hq;obtain⟨hb,AQ,Alz⟩:=WG hq;subst AQ;obtain⟨⟨t0,e⟩,l,ver,Am,n⟩:=q;simp only at hb Alz hx hk;cases hs:(Ym n.1.1 et&&(Ym n.1.2.ty.size te.size&&(Yz 0 te.size&&Yz 0 te.bytes)))with
   |false=>rw[hs]at hk;cases hk
   |true=>
    simp only[hs,Ao]at hk;obtain⟨Vx,hs⟩:=andB hs;obtain⟨Bt,KR⟩:=andB hs;obtain⟨AP,Et⟩:=andB KR;have:=At Vx;subst this;have Bt:=At Bt;have AP:=Dp AP;have Et:=Dp Et;split at hk
    ·rename_i new rd dd FA hn
     obtain⟨wK,hk⟩:=Dc hk;obtain⟨Co,Cj⟩:=andB wK;have Cj:=AC Cj;have w7:b∉rd:=λh=>by rw[HE.2 h]at Co;cases Co
     refine⟨_,_,_,hk,λbl2 Aj=>?_⟩;have Cz:bl2 nx=Ye:=(Aj nx (by simp)).trans hn;have Ay:bl2 b=Yd (.tree t0 e ver Am Ye l):=(Aj b (by simp)).trans hb;have N1:b≠nx:=by rintro rfl;rw[Ay]at Cz;cases Cz
     intro ok0 base pl w a hr Ad K Q hK;have hv:=Ad x BY;rw[hx]at hv;obtain⟨sv,Ab,n',Bk,hTr,Dj,I3⟩:=fJ (E:=Ak ok0 base pl bl2 w) hr.blksOk Ay hv;have:=LX Dj;rw[Alz]at this;injection this with this;subst this;have Bk:pl b=Yd (.row sv Ab):=Bk;obtain⟨F,KV,k1,h3,k3,k4,k5,k6⟩:=hTr.take Dj I3;obtain⟨sv0,xs,F0,e1,e2,o1,o2⟩:=k1;have e1:=(Lb e1).1;subst e1;have e2:=(Lb e2).2;subst e2;generalize y4:a.eval x=v at*;obtain⟨Fu,q1,q2,q3,q4,q5⟩:=fV (P:=P) (E:=Ak ok0 base pl bl2 w) (t:=t) (ty:=o.type) hr.blksOk fe f.under Bt AP Et FA (λb hb=>Aj b (by simp[hb])) (Ad y EB);obtain⟨v',w',ys,AE,Ah,CG,J6,hOL⟩:=q1 base v n.2.length xs hr.baseLe o1 Cj;have CG:w.grownBy w' v.ownBlock:=CG;have Mu:b∉dd:=λh=>w7 (q5 b h).1;have I0:nx∉dd:=λh=>by obtain⟨_,B,_,_,h1,_⟩:=q5 nx h;rw[show bl2 nx=Yd B from h1]at Cz;cases Cz
     have CF:∀k,updL bl2 (dead dd++[(b,.tree t0 e ver Am (Yd (i0::p)) l),(nx,.tree n.1.1 n.1.2 0 0 Ye (n.2++new))]) k=if k=nx then Yd (.tree n.1.1 n.1.2 0 0 Ye (n.2++new))else if k=b then Yd (.tree t0 e ver Am (Yd (i0::p)) l)else if k∈dd then Yd .dead else bl2 k:=λk=>by simp only[LY,updL,upd,WL]
     generalize updL bl2 (dead dd++[(b,.tree t0 e ver Am (Yd (i0::p)) l),(nx,.tree n.1.1 n.1.2 0 0 Ye (n.2++new))])=bl3 at*;have EO:∀k,upd (upd pl b (.row sv KV)) nx (.row v' ((F++Fu).map Yd)) k=if k=nx then Yd (.row v' ((F++Fu).map Yd))else if k=b then Yd (.row sv KV)else pl k:=λk=>rfl;generalize AlI:upd (upd pl b (.row sv KV)) nx (.row v' ((F++Fu).map Yd))=pl3 at*;have Dv:∀s∈v::F,∀g,s.ownBlock=Yd g->Cu pl bl2 b g:=λs hs g hg=>⟨_,_,Ay,rfl,Bk,k3 s hs g hg⟩;have Ae:∀i g,Cu pl bl2 i g->g<w.heap.size:=λi g ⟨B,p,h⟩=>Own.lt hr ⟨i,B,p,h⟩
     have hltF:∀s∈F++Fu,∀g,s.ownBlock=Yd g->g<w.heap.size:=λs hs g hg=>by
      rcases BV.1 hs with hs|hs
      ·exact Ae b g (Dv s (E6 _ hs) g hg)
      ·obtain⟨i,_,h⟩:=q3 s hs g hg;exact Ae i g h
     have hFu:∀s∈Fu,∀g,s.ownBlock=Yd g->¬Cu pl bl2 b g:=λs hs g hg h=>by obtain⟨i,hi,B,p,k1,k2,k3,k4⟩:=q3 s hs g hg;obtain⟨B',p',m1,m2,m3,m4⟩:=h;exact hr.sep i b B B' p p' g (λe=>Mu (e▸hi)) k1 m1 k2 m2 k3 m3 k4 m4
     have OR:∀s∈F++Fu,LZ v s:=λs hs=>by
      rcases BV.1 hs with hs|hs
      ·exact(G4.1 h3).1 s hs
      ·exact λg g1 g2=>hFu s hs g g2 (Dv v (by simp) g g1)
     have B4:∀g,v'.ownBlock=Yd g->v.ownBlock=Yd g\/g=w.heap.size:=λg hg=>by
      rcases J6 with h|h
      ·exact .inl (h▸hg)
      ·rw[h]at hg;injection hg with hg;exact .inr hg.symm
     have IZ:∀k∈dd,∀g,¬Cu pl3 bl3 k g:=λk hk g h=>by obtain⟨B,p,h1,h2,_⟩:=h;have DP:¬k=nx:=λe=>I0 (e▸hk);have Pg:¬k=b:=λe=>Mu (e▸hk);rw[CF,Y4 DP,Y4 Pg,Y7 hk]at h1;injection h1 with h1;subst h1;cases h2
     have hBo:∀g,Cu pl3 bl3 b g->(Pl.row sv KV).has g:=λg h=>by obtain⟨B,p,_,_,h1,h2⟩:=h;rw[EO,Y4 N1,Y7 rfl]at h1;injection h1 with h1;subst h1;exact h2
     have hNo:∀g,Cu pl3 bl3 nx g->(∃s∈v::F,s.ownBlock=Yd g)\/(∃s∈Fu,s.ownBlock=Yd g)\/g=w.heap.size:=λg h=>by
      obtain⟨B,p,_,_,h1,h2⟩:=h;rw[EO,Y7 rfl]at h1;injection h1 with h1;subst h1;rcases h2 with h2|⟨j,s,hj,h2⟩
      ·rcases B4 g h2 with h2|h2
       ·exact .inl ⟨v,by simp,h2⟩
       ·exact .inr (.inr h2)
      ·rw[FJ,NQ]at hj
       obtain⟨s',hj,he⟩:=hj;injection he with he;subst he;rcases BV.1 (CN hj)with hs|hs
       ·exact .inl ⟨s',E6 _ hs,h2⟩
       ·exact .inr (.inl ⟨s',hs,h2⟩)
     have hBN:∀g,Cu pl3 bl3 b g->¬Cu pl3 bl3 nx g:=λg h h'=>by
      obtain⟨h1,h2⟩:=k4 g (hBo g h);rcases hNo g h' with⟨s,hs,hg⟩|⟨s,hs,hg⟩|hg
      ·exact h2 s hs hg
      ·exact hFu s hs g hg ⟨_,_,Ay,rfl,Bk,h1⟩
      ·have:=Ae b g ⟨_,_,Ay,rfl,Bk,h1⟩;omega
     have hm:Many pl bl2 w pl3 bl3 w' (nx::b::dd) v.ownBlock:=by
      refine⟨λk hk=>?_,CG,λg h=>⟨b,by simp,Dv v (by simp) g h⟩,λk hk g h=>?_,λk hk m hm J5 g h1 h2=>?_,λk hk g h=>?_,λk hk sv1 MC h=>?_⟩
      ·simp only[Bg,not_or]at hk
       rw[EO,CF,Y4 hk.1,Y4 hk.1,Y4 hk.2.1,Y4 hk.2.1,Y4 hk.2.2];exact⟨rfl,rfl⟩
      ·rcases Bg.1 hk with rfl|hk
       ·rcases hNo g h with⟨s,hs,hg⟩|⟨s,hs,hg⟩|hg
        ·exact .inl ⟨b,by simp,Dv s hs g hg⟩
        ·obtain⟨i,hi,ho⟩:=q3 s hs g hg
         exact .inl ⟨i,by simp[hi],ho⟩
        ·exact .inr (LN hg.symm)
       ·rcases Bg.1 hk with rfl|hk
        ·exact .inl ⟨k,by simp,_,_,Ay,rfl,Bk,(k4 g (hBo g h)).1⟩
        ·exact Yw h (IZ k hk g)
      ·rcases Bg.1 hk with rfl|hk
       ·rcases Bg.1 hm with rfl|hm
        ·exact J5 rfl
        ·rcases Bg.1 hm with rfl|hm
         ·exact hBN g h2 h1
         ·exact IZ m hm g h2
       ·rcases Bg.1 hk with rfl|hk
        ·rcases Bg.1 hm with rfl|hm
         ·exact hBN g h1 h2
         ·rcases Bg.1 hm with rfl|hm
          ·exact J5 rfl
          ·exact IZ m hm g h2
        ·exact IZ k hk g h1
      ·rcases Bg.1 hk with rfl|hk
       ·rw[hr.fresh k Cz]at h;cases h
       ·rcases Bg.1 hk with rfl|hk
        ·rw[Bk]at h;cases h
        ·obtain⟨_,_,_,_,_,_,h1⟩:=q5 k hk
         rw[show pl k=_ from h1]at h;cases h
      ·rcases Bg.1 hk with rfl|hk
       ·rw[hr.fresh k Cz]at h;cases h
       ·rcases Bg.1 hk with rfl|hk
        ·rw[Bk]at h
         injection h with h;injection h with h h';subst h h';refine⟨_,_,by rw[EO,Y4 N1,Y7 rfl],?_⟩;rw[Ay,CF,Y4 N1,Y7 rfl];exact KeepR.ofTree ⟨Aw _,Aw _,λ_=>⟨rfl,k5 _⟩⟩
        ·have DP:¬k=nx:=λe=>I0 (e▸hk)
         have Pg:¬k=b:=λe=>Mu (e▸hk);exact⟨sv1,MC,by rw[EO,Y4 DP,Y4 Pg];exact h,by rw[CF,Y4 DP,Y4 Pg,Y7 hk];exact KeepR.ofDead⟩
     have AY:=hm.step
     have hT2:TreeOk (Ak ok0 base pl3 bl3 w') n.1.1 n.1.2 Ye (n.2++new) v' ((F++Fu).map Yd):=fW (E:=Ak ok0 base pl bl2 w) AY.ext rfl (o2.mono λ_ _ _ _ _ h=>Owns.any h) (hOL v')
      (λs hs g hg=>CG.block g (hltF s hs g hg) (λe=>OR s hs g e.symm hg)) Ah (by
       rw[G4,FU];refine⟨λs hs g g1 g2=>?_,(G4.1 h3).2,q2,λa ha b hb g g1 g2=>hFu b hb g g2 (Dv a (E6 _ ha) g g1)⟩;rcases B4 g g1 with g1|g1
       ·exact OR s hs g g1 g2
       ·have:=hltF s hs g g2;omega)
     have hT3:TreeOk (Ak ok0 base pl3 bl3 w') t0 e (Yd (i0::p)) l sv KV:=k6 _ AY.ext rfl (λg hg=>by obtain⟨h1,h2⟩:=k4 g hg;exact CG.block g (Ae b g ⟨_,_,Ay,rfl,Bk,h1⟩) (λe=>h2 v (by simp) e.symm))
     refine HD (SE ho hc ha Cc (by rw[y4];exact AE)) (hK v' pl3 w' ?_ AY ?_)
     ·refine hm.rel hr λk hk=>?_
      rcases Bg.1 hk with rfl|hk
      ·exact⟨.tree n.1.1 n.1.2 0 0 Ye (n.2++new),.row v' ((F++Fu).map Yd),by rw[CF,Y7 rfl],by rw[EO,Y7 rfl],hT2⟩
      ·rcases Bg.1 hk with rfl|hk
       ·exact⟨.tree t0 e ver Am (Yd (i0::p)) l,.row sv KV,by rw[CF,Y4 N1,Y7 rfl],by rw[EO,Y4 N1,Y7 rfl],hT3⟩
       ·have DP:¬k=nx:=λe=>I0 (e▸hk)
        have Pg:¬k=b:=λe=>Mu (e▸hk);obtain⟨_,_,_,_,_,_,h1⟩:=q5 k hk;exact⟨.dead,_,by rw[CF,Y4 DP,Y4 Pg,Y7 hk],by rw[EO,Y4 DP,Y4 Pg];exact h1,trivial⟩
     ·exact fX (PO Ah) (by show pl3 nx=_;rw[EO,Y7 rfl]) (by show bl3 nx=_;rw[CF,Y7 rfl])
    ·cases hk
  ·cases hk
 ·cases hk
theorem fY{E:Env}{blp:Yk->Yb Blk}(hb:Eg E){hsep:∀i j,i≠j->∀g,Cu E.pl E.bl i g->¬Cu E.pl E.bl j g}:∀{o:OT}{cs:Ya C}{vs:Ya Yp}{x:o.ty.den}{rs:Ya C}{ids:Ya Yk},CReps E cs vs->LP blp o cs=Yd (x,rs,ids)->(∀i∈ids,E.bl i=blp i)->ids.Nodup->∃us ws F,vs=us++ws/\CReps E rs ws/\(∀hv,Owns E.w E.ok E.base hv o Ye x us F)/\(∀s∈F,∀g,s.ownBlock=Yd g->∃i∈ids,Cu E.pl E.bl i g)/\F.Pairwise LZ/\∀i∈ids,∃B sv Ab,E.bl i=Yd B/\B.live=Yo/\E.pl i=Yd (.row sv Ab)
 |.d τ,cs,vs,x,rs,ids,h,ha,AM,I0=>by
  simp only[LP]at ha;split at ha
  ·rename_i y q hp
   simp only[Af,Bv]at ha;obtain⟨rfl,rfl,rfl⟩:=ha;obtain⟨us,ws,e1,h1,h2,_⟩:=LW hb (Rows.none _ _) h hp;exact⟨us,ws,[],e1,h2,λhv=>⟨rfl,h1,rfl⟩,by simp,by simp,by simp⟩
  ·cases ha
 |.p a c,cs,vs,x,rs,ids,h,ha,AM,I0=>by
  simp only[LP]at ha;split at ha
  ·cases ha
  rename_i x1 r1 i1 h1;split at ha
  ·cases ha
  rename_i x2 r2 i2 h2;simp only[Af,Bv]at ha;obtain⟨rfl,rfl,rfl⟩:=ha;obtain⟨n1,n2,n3⟩:=dQ.1 I0;obtain⟨us1,ws1,F1,a1,a2,a3,a4,a5,a6⟩:=fY hb (hsep:=hsep) h h1 (λi hi=>AM i (CI _ hi)) n1;obtain⟨us2,ws2,F2,b1,b2,b3,b4,b5,b6⟩:=fY hb (hsep:=hsep) a2 h2 (λi hi=>AM i (Da _ hi)) n2;refine⟨us1++us2,ws2,F1++F2,by rw[a1,b1,C1],b2,λhv=>⟨us1,us2,F1,F2,rfl,rfl,a3 hv,b3 hv⟩,λs hs g hg=>?_,FU.2 ⟨a5,b5,λs hs s' B3 g g1 g2=>?_⟩,λi hi=>?_⟩
  ·rcases BV.1 hs with hs|hs
   ·obtain⟨i,hi,ho⟩:=a4 s hs g hg
    exact⟨i,CI _ hi,ho⟩
   ·obtain⟨i,hi,ho⟩:=b4 s hs g hg
    exact⟨i,Da _ hi,ho⟩
  ·obtain⟨i,hi,ho⟩:=a4 s hs g g1
   obtain⟨j,hj,Pr⟩:=b4 s' B3 g g2;exact hsep i j (n3 i hi j hj) g ho Pr
  ·rcases BV.1 hi with hi|hi
   ·exact a6 i hi
   ·exact b6 i hi
 |.r t e,[],vs,x,rs,ids,h,ha,AM,I0=>by simp[LP]at ha
 |.r t e,c::cs,vs,x,rs,ids,⟨v,Av,e1,h1,h2⟩,ha,AM,I0=>by
  simp only[LP]at ha;split at ha
  ·simp only[Af,Bv]at ha
   obtain⟨rfl,rfl,rfl⟩:=ha;have h1:v=.slice Ye 0 0:=h1;subst h1;refine⟨[_],Av,[_],e1,h2,λhv=>⟨_,[],[],rfl,rfl,YM _ _ _ _,rfl,rfl⟩,λs hs g hg=>?_,by simp,by simp⟩;rw[DS]at hs;subst hs;cases hg
  ·split at ha
   ·rename_i b m hm
    split at ha
    ·rename_i Cc
     obtain⟨⟨m1,m2⟩,m3⟩:=m;simp only[Bv]at Cc;obtain⟨rfl,rfl⟩:=Cc;simp only[Af,Bv]at ha;obtain⟨rfl,rfl,rfl⟩:=ha;obtain⟨Ab,Fr,B,k1,k2,_,k3,k4,k5,k6⟩:=fM hb hm (AM b (by simp)) (u:=v) h1;have Ib:B.live=Yo:=by cases B<;>first|rfl|exact Yw rfl k2
     refine⟨[v],Av,v::Fr,e1,h2,k4,λs hs g hg=>⟨b,by simp,B,_,k1,Ib,k3,Og k5 hs hg⟩,k6,λi hi=>?_⟩;rw[DS]at hi;subst hi;exact⟨B,v,Ab,k1,Ib,k3⟩
    ·cases ha
   ·cases ha
theorem An7{X:Ya (Yq×OT)}{T:Yq->Yb TI}(hT:TOk P T){kk:K β}{nx:Yk}{t:Yq}{n:Yk}{parts:YX (Yk×Y0)}(ho:o.op=.buildSlice t n parts)(hk:eS X T bl nx t n (parts.toList.map λp=>(p.1,ρ p.2)) kk=Yd r):Sound P o ρ bl kk r:=by
 unfold eS at hk;split at hk
 ·rename_i v0 M3
  split at hk
  ·rename_i ti cs ht Bn
   obtain⟨i,d,z,f⟩:=hT.facts ht;split at hk
   ·rename_i et Cs Cr
    have hd:=GR f Cs Cr;subst hd;have hu:=f.under;split at hk
    ·rename_i te e BR _ hn
     obtain⟨i',d',z',fe⟩:=hT.facts BR;split at hk
     ·rename_i x0 ids Ru
      cases hc:(Ym n 1&&(Ym cs.length te.size&&(Ym e.ty.size te.size&&(Yz 0 te.size&&(YB te.size 16777216&&JI ids)))))with
      |false=>rw[hc]at hk;cases hk
      |true=>
       simp only[hc,Ao]at hk;obtain⟨c1,hc⟩:=andB hc;obtain⟨c2,hc⟩:=andB hc;obtain⟨c3,hc⟩:=andB hc;obtain⟨c4,hc⟩:=andB hc;obtain⟨c5,c6⟩:=andB hc;have:=At c1;subst this;have c2:=At c2;have c3:=At c3;have c4:=Dp c4;have c5:=IC c5;have c6:=Qn c6
       obtain⟨x,L9,AEO⟩:∃x,parts.toList=[(0,x)]/\ρ x=v0:=by
        cases hq:parts.toList with
        |nil=>rw[hq]at M3;cases M3
        |cons p ps=>rw[hq]at M3;simp only[CP,CK,Bv,List.map_eq_nil_iff]at M3;obtain⟨⟨h1,h2⟩,h3⟩:=M3;obtain⟨p1,p2⟩:=p;simp only at h1 h2;subst h1 h3;exact⟨p2,rfl,h2⟩
       have BY:x∈o.op.operands:=by simp only[ho,Yt];exact dS.2 (Fw.2 ⟨(0,x),by rw[L9];simp,rfl⟩)
       refine⟨_,_,_,hk,λbl2 hb=>?_⟩;have Cz:bl2 nx=Ye:=(hb nx (by simp)).trans hn;intro ok0 base pl w a hr Ad K Q hK;have N3:=VRep.cells_of (by rw[AEO];exact Bn) (Ad x BY);have DF:=N3.length;obtain⟨us,ws,F,a1,a2,a3,a4,a5,a6⟩:=fY (E:=Ak ok0 base pl bl2 w) hr.blksOk (hsep:=λi j Du g ⟨B,p,h1,h2,h3,h4⟩ ⟨B',p',m1,m2,m3,m4⟩=>hr.sep i j B B' p p' g Du h1 m1 h2 m2 h3 m3 h4 m4) N3 Ru (λi hi=>hb i (by simp[hi])) c6;have a2:ws=[]:=a2;subst a2;rw[Gj]at a1
       have Kl:z'.cells.size=te.size:=by have:=fe.len;rw[FV]at this;rw[this,fe.size]
       have Ck:(a.eval x).cells.size=te.size:=by rw[<-FV,DF,c2]
       have ADt:YaC (λi=>Yd (i*te.size,te.size)) (repL 1 z'.cells.toList).toArray [(0,a.eval x)]=Yd (a.eval x).cells:=by
        have e1:(repL 1 z'.cells.toList).toArray=z'.cells:=by apply HC;simp[repL]
        have Bx:¬(0*te.size+(a.eval x).cells.size>z'.cells.size):=by omega
        rw[e1];simp only[YaC];rw[Y4 (by simp only[Ck,ne_eq,VZ,decide_false,Ko,HB];omega),Sg,Aad 0 (a.eval x) z'.cells (by simp only[FV];omega)];congr 1;apply HC;rw[GM (by simp only[FV];omega)];simp
       have AE:(Y1 a.eval o).run P w=.ok (.value (.slice (Yd ⟨w.heap.size,0,Ye⟩) 1 1)) (w.alloc (.cells (a.eval x).cells et)):=by
        have e0:(Array.range (1*te.size)).map (λx=>z'.cells[x%z'.cells.size]!)=(repL 1 z'.cells.toList).toArray:=by
         have Ve:Yay z'.cells (1*te.size)=(repL 1 z'.cells.toList).toArray:=by apply HC;rw[<-Kl,SF _ (by omega)]
         exact Ve
        have h0:¬(1*te.size>2^24):=by omega
        have h2:¬(1*te.size=0):=by omega
        have Vo:(parts.map λp=>(p.1,a.eval p.2)).toList=[(0,a.eval x)]:=by rw[PI,L9];rfl
        simp only[Y1,ho,YaI,Yu hu,run_sizeOf fe,YA,Y5,h0,Cb,YO,h2,Yax,YT,Ybi,fe.info,fe.zero,e0,Vo,ADt,newRow,run_newObj];rfl
       have hg:w.grownBy (w.alloc (.cells (a.eval x).cells et)) Ye:=Ya9 w _ Ye
       have Ah:(w.alloc (.cells (a.eval x).cells et)).ownsRow base et e.ty.size (.slice (Yd ⟨w.heap.size,0,Ye⟩) 1 1) [x0].length us:=by rw[<-a1];refine⟨by rw[DF,c2,c3];simp,.inr ⟨w.heap.size,1,(a.eval x).cells,rfl,hr.baseLe,YaS w _,Aw _,by simp[Yaj],by rw[Ck,c3,Nat.one_mul],?_⟩⟩;rw[GL (by rw[DF,c2,c3];simp)]
       obtain⟨pl3,z1,z2,z3⟩:=Aan hr Cz a5 a4 a6 hg (λg hg=>by simpa [Yae]using hg.symm) (new:=[x0]) (e:=e) (λhv=>⟨us,[],F,[],by simp,by simp,a3 hv,rfl,rfl⟩) Ah;exact HD AE (hK _ pl3 _ z1 z2 z3)
     ·cases hk
    ·cases hk
   ·cases hk
  ·cases hk
 ·cases hk
end
end Go.Lift
namespace Go.Lift
open Go.RowKit
section
variable{P:Yv}{o:Oper}{ρ:Y0->V}{bl:Yk->Yb Blk}{β:Type}{r:β}
theorem An8{kk:K β}{t:Yq}{x:Y0}(ho:o.op=.unOp .not t x){b:Ys}(hx:ρ x=.c (.bool b))(hk:kk (.c (.bool (!b))) [] []=Yd r):Sound P o ρ bl kk r:=by refine Sound.pure hk λbl2 _ ok0 base pl w a hr Ad=>⟨.bool (!b),?_,rfl⟩;have h1:=Ad x (by simp[ho,Yt]);rw[hx]at h1;have BZ:a.eval x=.bool b:=h1;simp[Y1,ho,BZ,Op.unary]
theorem An9{kk:K β}{t:Yq}{x:Y0}(ho:o.op=.unOp .neg t x){k:YP}{n:Yi}(hx:ρ x=.c (.int k n))(hk:kk (.c (.int k (k.wrap (0-n)))) [] []=Yd r):Sound P o ρ bl kk r:=by refine Sound.pure hk λbl2 _ ok0 base pl w a hr Ad=>⟨.int k (k.wrap (0-n)),?_,rfl⟩;have h1:=Ad x (by simp[ho,Yt]);rw[hx]at h1;have BZ:a.eval x=.int k n:=h1;simp[Y1,ho,BZ,Op.unary,YaR]
theorem Ana{T:Yq->Yb TI}(hT:TOk P T){kk:K β}{s t:Yq}{x:Y0}(ho:o.op=.convert s t x){si ti:TI}(hs:T s=Yd si)(ht:T t=Yd ti){k0 k:YP}{n:Yi}(hx:ρ x=.c (.int k0 n))(M0:ti.kind=Yd k)(hk:kk (.c (.int k (k.wrap n))) [] []=Yd r):Sound P o ρ bl kk r:=by
 obtain⟨i,d,z,f⟩:=hT.facts ht;obtain⟨i',d',z',f'⟩:=hT.facts hs
 have hd:d=.int k:=by rw[f.kind]at M0;cases d<;>simp_all [Qf]
 subst hd;refine Sound.pure hk λbl2 _ ok0 base pl w a hr Ad=>⟨.int k (k.wrap n),?_,rfl⟩;have h1:=Ad x (by simp[ho,Yt]);rw[hx]at h1;have BZ:a.eval x=.int k0 n:=h1;simp[Y1,ho,BZ,convert,Yu f.under,Yu f'.under,Conv.intToInt]
theorem Anb{T:Yq->Yb TI}(hT:TOk P T){kk:K β}{s t:Yq}{x:Y0}(ho:o.op=.convert s t x){si ti:TI}(hs:T s=Yd si)(ht:T t=Yd ti){l:Ya Yl}(hx:ρ x=.c (.str l))(M0:ti.isStr=Yo)(hk:kk (.c (.str l)) [] []=Yd r):Sound P o ρ bl kk r:=by
 obtain⟨i,d,z,f⟩:=hT.facts ht;obtain⟨i',d',z',f'⟩:=hT.facts hs;have hd:=SC f M0;subst hd;refine Sound.pure hk λbl2 _ ok0 base pl w a hr Ad=>⟨.string ⟨l.toArray⟩,?_,rfl⟩;have h1:=Ad x (by simp[ho,Yt]);rw[hx]at h1;have BZ:a.eval x=.string ⟨l.toArray⟩:=h1;simp[Y1,ho,BZ,convert,Yu f.under,Yu f'.under]
theorem Aao{E:Env}:∀{vs:Ya V}{us:Ya Yp}{bs:Ya Yk},Qb vs=Yd bs->vs.length=us.length->(∀(j:Yk)(v:V)(u:Yp),vs[j]?=Yd v->us[j]?=Yd u->VRep E v u)->∃gs:Ya Yk,bs.map E.pl=gs.map (λg=>Yd (.cells g))/\us=gs.map λg=>.pointer (Yd ⟨g,0,Ye⟩)
 |[],us,bs,h,hl,hv=>by
  simp only[Qb,Af]at h;subst h;cases us with
  |nil=>exact⟨[],rfl,rfl⟩
  |cons u us=>simp at hl
 |v::vs,us,bs,h,hl,hv=>by
  cases us with
  |nil=>simp at hl
  |cons u us=>
   unfold Qb at h;split at h
   ·rename_i DY;cases DY
   ·rename_i b r' DY
    injection DY with h1 h2;subst h1 h2;split at h
    ·rename_i l F8
     simp only[Af]at h;subst h;obtain⟨gs,h3,h4⟩:=Aao F8 (by simpa using hl) (λj v u hj hu=>hv (j+1) v u (by simpa using hj) (by simpa using hu));obtain⟨g,hg,hu⟩:=hv 0 _ _ rfl rfl;exact⟨g::gs,by simp[h3,hg],by simp[h4,hu]⟩
    ·cases h
   ·cases h
theorem Anc{kk:K β}{f:FuncId}{first BI:YX Y0}(ho:o.op=.makeFunc (.func f) first BI)(hf:first.toList=[]){bs:Ya Yk}(hb:Qb (BI.toList.map ρ)=Yd bs)(hk:kk (.c (.fn f bs)) [] []=Yd r):Sound P o ρ bl kk r:=by
 have N5:first=#[]:=by simpa using hf
 subst N5;refine Sound.pure hk λbl2 _ ok0 base pl w a hr Ad=>?_
 obtain⟨gs,h1,h2⟩:=Aao (E:=Ak ok0 base pl bl2 w) (us:=BI.toList.map a.eval) hb (by simp) (λj v u hj hu=>by
  rw[FJ]at hj hu;cases hc:BI.toList[j]? with
  |none=>rw[hc]at hj;cases hj
  |some x=>rw[hc]at hj hu;simp only[Ft,Af]at hj hu;subst hj hu;exact Ad x (by simp only[ho,Yt,Wc];exact .inr (by have:=CN hc;simpa using this)))
 refine⟨.func (.func f) #[] (gs.map λg=>.pointer (Yd ⟨g,0,Ye⟩)).toArray,?_,gs,h1,rfl⟩
 have h3:BI.map a.eval=(gs.map λg=>Value.pointer (Yd ⟨g,0,Ye⟩)).toArray:=by apply HC;simpa using h2
 simp[Y1,ho,Instr.makeFunc,h3]
theorem Qo{kk:K β}{x:Y0}(ho:o.op=.nilCheck x)(hx:(∃b of,ρ x=.c (.ptr b of))\/(∃b ver i of,ρ x=.eptr b ver i of)\/(∃e y of,ρ x=.lptr e y of)\/(∃f BI,ρ x=.c (.fn f BI))\/(∃b ver p i of,ρ x=.c (.tptr b ver p i of))\/(∃b of,ρ x=.hptr b of))(hk:kk (ρ x) [] []=Yd r):Sound P o ρ bl kk r:=by
 refine Sound.pure hk λbl2 _ ok0 base pl w a hr Ad=>⟨a.eval x,?_,Ad x (by simp[ho,Yt])⟩;have h1:=Ad x (by simp[ho,Yt]);rcases hx with⟨b,of,hx⟩|⟨b,ver,i,of,hx⟩|⟨e,y,of,hx⟩|⟨f,BI,hx⟩|⟨b,ver,p,i,of,hx⟩|⟨b,of,hx⟩<;>rw[hx]at h1
 ·obtain⟨g,_,hv⟩:=h1
  simp[Y1,ho,hv]
 ·obtain⟨sv,Ab,ad,_,hv,_⟩:=h1
  simp[Y1,ho,hv]
 ·obtain⟨xs,ad,_,hv,_⟩:=h1
  simp[Y1,ho,hv]
 ·obtain⟨gs,_,hv⟩:=h1
  simp[Y1,ho,hv]
 ·obtain⟨sv,Ab,ad,_,hv,_⟩:=h1
  simp[Y1,ho,hv]
 ·obtain⟨sv,Ab,ad,_,hv,_⟩:=h1
  simp[Y1,ho,hv]
theorem And{T:Yq->Yb TI}(hT:TOk P T){kk:K β}{t:Yq}{x:Y0}{fi:Yk}(ho:o.op=.field t x fi){ti:TI}(ht:T t=Yd ti){cs:Ya C}(hx:ρ x=.agg cs){off n:Yk}{g:Ys}(hf:ti.flds[fi]?=Yd (off,n,g))(h1:(g||Ym n 1)=Yo){rc:Ya C}(hs:sub cs off n=Yd rc)(hk:kk (V.mk g rc) [] []=Yd r):Sound P o ρ bl kk r:=by
 obtain⟨i,d,z,f⟩:=hT.facts ht;obtain⟨fs,fd,j,e,rfl,bO,rfl,hj,rfl,he,hg⟩:=Aa4 f hf;refine Sound.pure hk λbl2 _ ok0 base pl w a hr Ad=>?_;have hv:=Ad x (by simp[ho,Yt]);rw[hx]at hv;obtain⟨vs,Ck,Bc⟩:=hv;simp only[CR]at Bc;obtain⟨s1,s2,s3⟩:=LV Ck hs
 have EM:(Ybd fd.type).run P w=.ok g w:=by rw[<-hg];unfold Ybd Jm;rw[YA,Yu he w,he];cases e<;>simp
 have B4:(Yac fd.type).run P w=.ok j.size w:=by simp[Yac,YT,hj]
 cases g with
 |true=>
  refine⟨.agg ((vs.drop fd.offset).take j.size).toArray,?_,_,s1,by simp⟩
  have Fl:vs.toArray.extract fd.offset (fd.offset+j.size)=((vs.drop fd.offset).take j.size).toArray:=by apply HC;simp
  simp[Y1,ho,Bc,Instr.field,Yu f.under,bO,asAgg,part,EM,B4]
 |false=>
  have hn:j.size=1:=by simpa using At (by simpa using h1)
  have Ae:fd.offset<vs.length:=by omega
  have I4:(vs.drop fd.offset).take j.size=[vs[fd.offset]]:=by rw[hn,JH Ae];rfl
  rw[I4]at s1;refine⟨vs[fd.offset],?_,VRep.mk ⟨_,s1,by simp⟩⟩;simp[Y1,ho,Bc,Instr.field,Yu f.under,bO,asAgg,part,EM,Ae]
theorem Ane{T:Yq->Yb TI}(hT:TOk P T){kk:K β}{t:Yq}{x y:Y0}(ho:o.op=.index t x y){ti:TI}(ht:T t=Yd ti){s:Ya Yl}(hx:ρ x=.c (.str s)){k:YP}{i:Yi}(hy:ival (ρ y)=Yd (k,i))(E4:ti.isStr=Yo)(h0:0<=i)(h1:i<(s.length:Yi))(hk:kk (.c (.int .u8 ((s.getD i.toNat 0).toNat:Yi))) [] []=Yd r):Sound P o ρ bl kk r:=by
 obtain⟨inf,d,z,f⟩:=hT.facts ht;have:=SC f E4;subst this;refine Sound.pure hk λbl2 _ ok0 base pl w a hr Ad=>⟨.int .u8 ((s.getD i.toNat 0).toNat:Yi),?_,rfl⟩;have Gu:=Ad x (by simp[ho,Yt]);have Hf:=Ad y (by simp[ho,Yt]);rw[hx]at Gu;rw[Oh hy]at Hf;have FB:a.eval x=.string ⟨s.toArray⟩:=Gu;have P3:a.eval y=.int k i:=Hf;have Ae:i.toNat<s.length:=by omega
 have Hy:(⟨s.toArray⟩:Yao)[i.toNat]?=Yd s[i.toNat]:=by have B4:i.toNat<(⟨s.toArray⟩:Yao).size:=Ae;rw[getElem?_pos (⟨s.toArray⟩:Yao) i.toNat B4];rfl
 have hd:s.getD i.toNat 0=s[i.toNat]:=by simp[List.getD,Ae]
 rw[hd];simp[Y1,ho,FB,P3,Instr.index,YaO,Yu f.under,h0,Hy]
theorem TReps.get{E:Env}:∀{ts:Ya (Ys×Ya C)}{vs:Ya Yp}{i:Yk}{t:Ys×Ya C},TReps E ts vs->ts[i]?=Yd t->∃v,vs[i]?=Yd v/\SRep E t.1 t.2 v
 |[],_,i,t,_,h=>by simp at h
 |t0::ts,_,0,t,⟨v,Av,e,h1,h2⟩,h=>by simp only[Dg,Af]at h;subst h e;exact⟨v,rfl,h1⟩
 |t0::ts,_,i+1,t,⟨v,Av,e,h1,h2⟩,h=>by subst e;obtain⟨u,h3,h4⟩:=TReps.get (i:=i) h2 (by simpa using h);exact⟨u,by simpa using h3,h4⟩
theorem Anf{kk:K β}{x:Y0}{i:Yk}(ho:o.op=.extract x i){ts:Ya (Ys×Ya C)}(hx:ρ x=.tup ts){t:Ys×Ya C}(ht:ts[i]?=Yd t)(hk:kk (V.mk t.1 t.2) [] []=Yd r):Sound P o ρ bl kk r:=by refine Sound.pure hk λbl2 _ ok0 base pl w a hr Ad=>?_;have h1:=Ad x (by simp[ho,Yt]);rw[hx]at h1;obtain⟨vs,hv,H7⟩:=h1;obtain⟨v,FR,hs⟩:=TReps.get H7 ht;refine⟨v,?_,VRep.mk hs⟩;simp[Y1,ho,hv,Instr.extract,FR]
theorem Aap{E:Env}{isMax:Ys}{k:YP}:∀{vs:Ya V}{us:Ya Yp}{a:Yi}{v:V},Su isMax k a vs=Yd v->vs.length=us.length->(∀(j:Yk)(x:V)(u:Yp),vs[j]?=Yd x->us[j]?=Yd u->VRep E x u)->∀w,∃n,v=.c (.int k n)/\(us.foldlM (bif isMax then Builtin.max2 else Builtin.min2) (.int k a)).run P w=.ok (.int k n) w
 |[],us,a,v,h,hl,hv,w=>by
  simp only[Su,Af]at h;cases us with
  |nil=>exact⟨a,h.symm,rfl⟩
  |cons u us=>simp at hl
 |x::vs,us,a,v,h,hl,hv,w=>by
  cases us with
  |nil=>simp at hl
  |cons u us=>
   unfold Su at h;split at h
   ·rename_i DY;cases DY
   ·rename_i a' k' b r' DY
    injection DY with h1 h2;subst h1 h2;split at h
    ·rename_i KL
     subst KL;have hu:u=.int k b:=hv 0 _ _ rfl rfl;subst hu;obtain⟨n,h3,h4⟩:=Aap h (by simpa using hl) (λj x u hj hu=>hv (j+1) x u (by simpa using hj) (by simpa using hu)) w;refine⟨n,h3,?_⟩;rw[List.foldlM_cons];cases isMax with
     |true=>simp only[Ao,YA,Builtin.max2,YO,Y5]at h4⊢;exact h4
     |false=>simp only[BU,YA,Builtin.min2,YO,Y5]at h4⊢;exact h4
    ·cases h
   ·cases h
theorem Aaq{isMax:Ys}{kk:K β}{c:Call}(ho:o.op=.call c)(hc:c.callee=.builtin (bif isMax then .max else .min)){v:V}(hm:Ws isMax (c.args.toList.map ρ)=Yd v)(hk:kk v [] []=Yd r):Sound P o ρ bl kk r:=by
 refine Sound.pure hk λbl2 _ ok0 base pl w a hr Ad=>?_
 have Ck:∀(j:Yk)(x:V)(u:Yp),(c.args.toList.map ρ)[j]?=Yd x->(c.args.toList.map a.eval)[j]?=Yd u->VRep (Ak ok0 base pl bl2 w) x u:=by
  intro j x u hj hu;rw[FJ]at hj hu;cases UB:c.args.toList[j]? with
  |none=>rw[UB]at hj;cases hj
  |some y=>rw[UB]at hj hu;simp only[Ft,Af]at hj hu;subst hj hu;exact Ad y (by simp only[ho,Yt,YF,Wc];exact .inr (by have:=CN UB;simpa using this))
 have hl:(c.args.toList.map ρ).length=(c.args.toList.map a.eval).length:=by simp
 generalize c.args.toList.map ρ=vs at hm Ck hl;generalize AN:c.args.toList.map a.eval=us at Ck hl;unfold Ws at hm;split at hm
 ·rename_i k a0 r'
  cases us with
  |nil=>simp at hl
  |cons u us=>
   have hu:u=.int k a0:=Ck 0 _ _ rfl rfl;subst hu;obtain⟨n,h3,h4⟩:=Aap (P:=P) hm (by simpa using hl) (λj x u hj hu=>Ck (j+1) x u (by simpa using hj) (by simpa using hu)) w;subst h3;refine⟨.int k n,?_,rfl⟩;cases isMax with
   |true=>simp only[Ao]at h4 hc;simp[Y1,ho,resolve,hc,invoke,builtin,Builtin.max_,AN,h4]
   |false=>simp only[BU]at h4 hc;simp[Y1,ho,resolve,hc,invoke,builtin,Builtin.min_,AN,h4]
 ·cases hm
end
end Go.Lift
namespace Go.Lift
open Go.RowKit
theorem Aar{i:Yk}:∀{n s:Yk},i∈AD s n↔s<=i/\i<s+n
 |0,s=>by simp only[AD,RY,false_iff];omega
 |n+1,s=>by simp only[AD,Bg,Aar (n:=n)];omega
theorem WM:∀{n s:Yk},(AD s n).length=n
 |0,_=>rfl
 |n+1,s=>by simp[AD,WM (n:=n)]
theorem fZ:∀{n s b:Yk},b<n->(AD s n)[b]?=Yd (s+b)
 |0,_,_,h=>by omega
 |n+1,s,0,_=>rfl
 |n+1,s,b+1,h=>by simp only[AD,Ee];rw[fZ (n:=n) (by omega)];congr 1;omega
theorem WN:∀{n s:Yk},(AD s n).Nodup
 |0,_=>Wi
 |n+1,s=>La.2 ⟨λh=>by have:=Aar.1 h;omega,WN⟩
theorem g9{bl:Yk->Yb Blk}:∀{l:Ya Yk},PW bl l=Yo->∀i∈l,bl i=Ye
 |[],_,i,h=>by simp at h
 |j::r,h,i,hi=>by
  simp only[PW]at h;split at h
  ·rename_i hj
   rcases Bg.1 hi with rfl|hi
   ·exact hj
   ·exact g9 h i hi
  ·cases h
structure Ren (E E':Env) (ids AZ:Ya Yk):Prop where
 cells:∀b i g,ids[b]?=Yd i->E.pl i=Yd (.cells g)->E'.pl (AZ.getD b 0)=Yd (.cells g)
 row:∀b i sv Ab t e ver l,ids[b]?=Yd i->E.bl i=Yd (.row t e ver l)->E.pl i=Yd (.row sv Ab)->E'.pl (AZ.getD b 0)=Yd (.row sv Ab)
 mat:∀b i sv Ab t et e ver Am hole l,ids[b]?=Yd i->E.bl i=Yd (.mat t et e ver Am hole l)->E.pl i=Yd (.row sv Ab)->E'.pl (AZ.getD b 0)=Yd (.row sv Ab)
 tree:∀b i sv Ab t e ver Am l,ids[b]?=Yd i->E.bl i=Yd (.tree t e ver Am Ye l)->E.pl i=Yd (.row sv Ab)->E'.pl (AZ.getD b 0)=Yd (.row sv Ab)
 treeB:∀b i t e ver Am l t' e' ver' By h' l',ids[b]?=Yd i->E.bl i=Yd (.tree t e ver Am Ye l)->E'.bl (AZ.getD b 0)=Yd (.tree t' e' ver' By h' l')->Blk.tree t' e' ver' By h' l'=.tree t e 0 0 Ye l
 nil:∀b i,ids[b]?=Yd i->E.bl i=Ye->E'.pl (AZ.getD b 0)=Yd (.row (.slice Ye 0 0) [])
theorem gA{E E':Env}{ids AZ:Ya Yk}(hr:Ren E E' ids AZ):∀(BI HY gs:Ya Yk),BI.map (ids[·]?)=HY.map Yd->HY.map E.pl=gs.map (λg=>Yd (.cells g))->(BI.map λb=>AZ.getD b 0).map E'.pl=gs.map (λg=>Yd (.cells g))
 |[],HY,gs,h,hg=>by
  cases HY with
  |nil=>cases gs<;>simp_all
  |cons b bs=>simp at h
 |b::bs,HY,gs,h,hg=>by
  cases HY with
  |nil=>simp at h
  |cons b' Nz=>
   cases gs with
   |nil=>simp at hg
   |cons g gs=>simp only[CP,CK]at h hg⊢;exact⟨hr.cells b b' g h.1 hg.1,gA hr bs Nz gs h.2 hg.2⟩
theorem gB{i:Yk}:∀{ks:Ya Yk}{p:Path}{x:WayT ks},Od i ks p=Yd x->wayP ks x=p/\wayI ks x=i
 |[],[],x,h=>by simp only[Od,Af]at h;exact⟨rfl,h.symm⟩
 |[],_::_,x,h=>by simp[Od]at h
 |_::_,[],x,h=>by simp[Od]at h
 |k::ks,(j,m)::p,x,h=>by
  simp only[Od]at h;cases hk:Ym k m with
  |false=>rw[hk]at h;cases h
  |true=>
   rw[hk,Ao]at h;have:=At hk;subst this;split at h
   ·rename_i y hy
    simp only[Af]at h;subst h;obtain⟨h1,h2⟩:=gB hy;exact⟨by simp only[wayP,h1],h2⟩
   ·cases h
theorem G8{E E':Env}{blp:Yk->Yb Blk}{ids AZ:Ya Yk}(hb:Eg E)(hw:E'.w=E.w)(hr:Ren E E' ids AZ)(AM:∀i∈ids,blp i=E.bl i):∀{l:Ya CT}{cs:Ya C}{vs:Ya Yp}{y:CT.dens l},Rows E blp E'.ok (Cx cs)->CReps E cs vs->Bl blp ids l cs=Yd y->CReps E' (mkC AZ l y) vs
 |[],cs,vs,y,AH,h,hp=>by
  cases cs with
  |nil=>exact h
  |cons c cs=>simp[Bl]at hp
 |.data τ::l,cs,vs,y,AH,h,hp=>by
  simp only[Bl]at hp;split at hp
  ·cases hp
  ·rename_i x r hx
   split at hp
   ·cases hp
   ·rename_i y' hy
    simp only[Af]at hp;subst hp;obtain⟨us,ws,e,d,c,ds,hc⟩:=LW hb AH h hx;have AEp:Rows E blp E'.ok (Cx r):=AH.sub λb DE=>by rw[hc,S9];exact Da _ DE
    rw[e];refine CReps.append ?_ (G8 hb hw hr AM AEp c hy);exact FW (by rw[hw];exact d)
 |.ptr b o::l,cs,vs,y,AH,h,hp=>by
  cases cs with
  |nil=>simp[Bl]at hp
  |cons c cs=>
   cases c<;>simp only[Bl]at hp<;>try(cases hp;done)
   rename_i b' o';split at hp
   ·rename_i i hi
    cases hc:(Ym i b'&&Ym o o')with
    |false=>rw[hc]at hp;cases hp
    |true=>simp only[hc,Ao]at hp;obtain⟨h1,h2⟩:=andB hc;have h1:=At h1;have h2:=At h2;subst h1 h2;obtain⟨v,Av,e,⟨g,hg,hv⟩,ht⟩:=h;exact⟨v,Av,e,⟨g,hr.cells b i g hi hg,hv⟩,G8 hb hw hr AM AH.tail ht hp⟩
   ·cases hp
 |.rowh b::l,cs,vs,y,AH,h,hp=>by
  cases cs with
  |nil=>simp[Bl]at hp
  |cons c cs=>
   cases c<;>simp only[Bl]at hp<;>try(cases hp;done)
   ·
    split at hp
    ·rename_i i hi
     split at hp
     ·rename_i hn
      obtain⟨v,Av,e,hv,ht⟩:=h;simp only[CRep]at hv;subst hv;have Dj:E.bl i=Ye:=by rw[<-AM i (CN hi)];exact hn
      exact⟨_,Av,e,⟨rfl,_,_,hr.nil b i hi Dj,λ_ _ _ _ _=>⟨BD _,λ_=>rfl⟩⟩,G8 hb hw hr AM AH.tail ht hp⟩
     ·cases hp
    ·cases hp
   ·rename_i b' ver
    split at hp
    ·rename_i i hi
     cases hc:Ym i b' with
     |false=>rw[hc]at hp;cases hp
     |true=>
      have:=At hc;subst this;simp only[hc,Ao]at hp;split at hp
      ·rename_i t e ver' l' An
       cases Cq:Ym ver ver' with
       |false=>rw[Cq]at hp;cases hp
       |true=>
        have:=At Cq;subst this;simp only[Cq,Ao]at hp;obtain⟨v,Av,ev,⟨h1,sv,Ab,Au,AO⟩,ht⟩:=h;have DW:E.bl i=Yd (.row t e ver l'):=by rw[<-AM i (CN hi)];exact An
        have Ck:=(AO t e ver l' DW).2 rfl;exact⟨v,Av,ev,⟨h1,sv,Ab,hr.row b i sv Ab t e ver l' hi DW Au,λ_ _ _ _ _=>⟨BD _,λ_=>Ck⟩⟩,G8 hb hw hr AM AH.tail ht hp⟩
      ·cases hp
    ·cases hp
 |.fn f BI::l,cs,vs,y,AH,h,hp=>by
  cases cs with
  |nil=>simp[Bl]at hp
  |cons c cs=>
   cases c<;>simp only[Bl]at hp<;>try(cases hp;done)
   rename_i f' HY;cases hc:(Ym f f'&&Yf (BI.map (ids[·]?)=HY.map Yd))with
   |false=>rw[hc]at hp;cases hp
   |true=>simp only[hc,Ao]at hp;obtain⟨h1,h2⟩:=andB hc;have h1:=At h1;have h2:=AC h2;subst h1;obtain⟨v,Av,e,⟨gs,hg,hv⟩,ht⟩:=h;refine⟨v,Av,e,⟨gs,?_,hv⟩,G8 hb hw hr AM AH.tail ht hp⟩;exact gA hr BI HY gs h2 hg
 |.bfnh f b::l,cs,vs,y,AH,h,hp=>by
  cases cs with
  |nil=>simp[Bl]at hp
  |cons c cs=>
   cases c<;>simp only[Bl]at hp<;>try(cases hp;done)
   rename_i f' b';split at hp
   ·rename_i i hi
    cases hc:(Ym f f'&&Ym i b')with
    |false=>rw[hc]at hp;cases hp
    |true=>simp only[hc,Ao]at hp;obtain⟨h1,h2⟩:=andB hc;have h1:=At h1;have h2:=At h2;subst h1;subst h2;obtain⟨v,Av,e,⟨g,hg,hv⟩,ht⟩:=h;exact⟨v,Av,e,⟨g,hr.cells b i g hi hg,hv⟩,G8 hb hw hr AM AH.tail ht hp⟩
   ·cases hp
 |.bself b::l,cs,vs,y,AH,h,hp=>by
  cases cs with
  |nil=>simp[Bl]at hp
  |cons c cs=>
   cases c<;>simp only[Bl]at hp<;>try(cases hp;done)
   ·obtain⟨v,Av,e,hv,ht⟩:=h
    exact⟨v,Av,e,.inl hv,G8 hb hw hr AM AH.tail ht hp⟩
   ·rename_i b'
    split at hp
    ·rename_i i hi
     cases hc:Ym i b' with
     |false=>rw[hc]at hp;cases hp
     |true=>
      simp only[hc,Ao]at hp;have h1:=At hc;subst h1;obtain⟨v,Av,e,hg,ht⟩:=h;refine⟨v,Av,e,?_,G8 hb hw hr AM AH.tail ht hp⟩;rcases hg with hg|⟨g,hg,hv⟩
      ·exact .inl hg
      ·exact .inr ⟨g,hr.cells b i g hi hg,hv⟩
    ·cases hp
 |.maph b::l,cs,vs,y,AH,h,hp=>by
  cases cs with
  |nil=>simp[Bl]at hp
  |cons c cs=>
   cases c<;>simp only[Bl]at hp<;>try(cases hp;done)
   rename_i b';split at hp
   ·rename_i i hi
    cases hc:Ym i b' with
    |false=>rw[hc]at hp;cases hp
    |true=>simp only[hc,Ao]at hp;have h1:=At hc;subst h1;obtain⟨v,Av,e,⟨g,hg,hv⟩,ht⟩:=h;exact⟨v,Av,e,⟨g,hr.cells b i g hi hg,hv⟩,G8 hb hw hr AM AH.tail ht hp⟩
   ·cases hp
 |.math b::l,cs,vs,y,AH,h,hp=>by
  cases cs with
  |nil=>simp[Bl]at hp
  |cons c cs=>
   cases c<;>simp only[Bl]at hp<;>try(cases hp;done)
   ·
    split at hp
    ·rename_i i hi
     split at hp
     ·rename_i hn
      obtain⟨v,Av,e,hv,ht⟩:=h;simp only[CRep]at hv;subst hv;have Dj:E.bl i=Ye:=by rw[<-AM i (CN hi)];exact hn
      exact⟨_,Av,e,⟨rfl,_,_,hr.nil b i hi Dj,λ_ _ _ _ _ _ _ _=>⟨BD _,λ_=>rfl⟩⟩,G8 hb hw hr AM AH.tail ht hp⟩
     ·cases hp
    ·cases hp
   ·rename_i b' ver
    split at hp
    ·rename_i i hi
     cases hc:Ym i b' with
     |false=>rw[hc]at hp;cases hp
     |true=>
      have:=At hc;subst this;simp only[hc,Ao]at hp;split at hp
      ·rename_i t et e ver' Am l' An
       cases Cq:Ym ver ver' with
       |false=>rw[Cq]at hp;cases hp
       |true=>
        have:=At Cq;subst this;simp only[Cq,Ao]at hp;obtain⟨v,Av,ev,⟨h1,sv,Ab,Au,AO⟩,ht⟩:=h;have DW:E.bl i=Yd (.mat t et e ver Am Ye l'):=by rw[<-AM i (CN hi)];exact An
        have Ck:=(AO _ _ _ _ _ _ _ DW).2 rfl;exact⟨v,Av,ev,⟨h1,sv,Ab,hr.mat b i sv Ab _ _ _ _ _ _ _ hi DW Au,λ_ _ _ _ _ _ _ _=>⟨BD _,λ_=>Ck⟩⟩,G8 hb hw hr AM AH.tail ht hp⟩
      ·cases hp
    ·cases hp
 |.tptrh b ks o::l,cs,vs,y,AH,h,hp=>by
  cases cs with
  |nil=>simp[Bl]at hp
  |cons c cs=>
   cases c<;>simp only[Bl]at hp<;>try(cases hp;done)
   rename_i b' ver p ix o';split at hp
   ·rename_i i hi
    cases hc:(Ym i b'&&Ym o o')with
    |false=>rw[hc]at hp;cases hp
    |true=>
     rw[hc,Ao]at hp;obtain⟨h1,h2⟩:=andB hc;have h1:=At h1;have h2:=At h2;subst h1 h2;split at hp
     ·rename_i t e ver' By l' An
      cases Cq:Ym ver (tv ver' By p)with
      |false=>rw[Cq]at hp;cases hp
      |true=>
       have:=At Cq;subst this;rw[Cq,Ao]at hp;split at hp
       ·rename_i x hx
        split at hp
        ·rename_i y' hy
         simp only[Af]at hp;subst hp;obtain⟨w1,w2⟩:=gB hx;obtain⟨v,Av,ev,⟨sv,Ab,ad,Au,xX,AO⟩,ht⟩:=h;have DW:E.bl i=Yd (.tree t e ver' By Ye l'):=by rw[<-AM i (CN hi)];exact An
         refine⟨v,Av,ev,⟨sv,Ab,ad,hr.tree b i sv Ab _ _ _ _ _ hi DW Au,xX,λt2 e2 Gz RA Ia l2 Aj=>?_⟩,G8 hb hw hr AM AH.tail ht hy⟩;have:=hr.treeB b i _ _ _ _ _ _ _ _ _ _ _ hi DW Aj;injection this with q1 q2 q3 q4 q5 q6;subst q1 q2 q3 q4 q5;simp only[Jj]at q6;subst q6;rw[w1,w2];exact⟨BD _,λ_ _=>(AO _ _ _ _ _ _ DW).2 rfl λ_ h=>by cases h⟩
        ·cases hp
       ·cases hp
     ·cases hp
   ·cases hp
 |.trowh b::l,[],vs,y,AH,h,hp=>by simp[Bl]at hp
 |.trowh b::l,.nils::cs,vs,y,AH,h,hp=>by
  simp only[Bl]at hp;split at hp
  ·rename_i i hi
   split at hp
   ·rename_i hn
    obtain⟨v,Av,e,hv,ht⟩:=h;simp only[CRep]at hv;subst hv;have Dj:E.bl i=Ye:=by rw[<-AM i (CN hi)];exact hn
    exact⟨_,Av,e,⟨rfl,_,_,hr.nil b i hi Dj,λ_ _ _ _ _ _ _=>⟨BD _,λ_ _=>⟨_,rfl,rfl⟩⟩⟩,G8 hb hw hr AM AH.tail ht hp⟩
   ·cases hp
  ·cases hp
 |.trowh b::l,.trow b' ver []::cs,vs,y,AH,h,hp=>by
  simp only[Bl]at hp;split at hp
  ·rename_i i hi
   cases hc:Ym i b' with
   |false=>rw[hc]at hp;cases hp
   |true=>
    have:=At hc;subst this;simp only[hc,Ao]at hp;split at hp
    ·rename_i t e ver' By l' An
     cases Cq:Ym ver ver' with
     |false=>rw[Cq]at hp;cases hp
     |true=>
      have:=At Cq;subst this;simp only[Cq,Ao]at hp;obtain⟨v,Av,ev,⟨h1,sv,Ab,Au,AO⟩,ht⟩:=h;have DW:E.bl i=Yd (.tree t e ver By Ye l'):=by rw[<-AM i (CN hi)];exact An
      obtain⟨n,q1,q2⟩:=(AO _ _ _ _ _ _ DW).2 rfl (λq h=>by cases h);have g1:=hr.tree b i sv Ab _ _ _ _ _ hi DW Au;exact⟨v,Av,ev,⟨h1,sv,Ab,g1,λ_ _ _ _ _ _ _=>⟨BD _,λ_ _=>⟨_,rfl,q2⟩⟩⟩,G8 hb hw hr AM AH.tail ht hp⟩
    ·cases hp
  ·cases hp
 |.trowh b::l,.trow b' ver (_::_)::cs,vs,y,AH,h,hp=>by simp[Bl]at hp
 |.trowh b::l,.bool _::cs,vs,y,AH,h,hp|.trowh b::l,.int _ _::cs,vs,y,AH,h,hp|.trowh b::l,.str _::cs,vs,y,AH,h,hp|.trowh b::l,.err _::cs,vs,y,AH,h,hp
 |.trowh b::l,.list _ _::cs,vs,y,AH,h,hp|.trowh b::l,.nilc::cs,vs,y,AH,h,hp|.trowh b::l,.lsome _ _::cs,vs,y,AH,h,hp|.trowh b::l,.nilp::cs,vs,y,AH,h,hp
 |.trowh b::l,.ptr _ _::cs,vs,y,AH,h,hp|.trowh b::l,.row _ _::cs,vs,y,AH,h,hp|.trowh b::l,.fn _ _::cs,vs,y,AH,h,hp|.trowh b::l,.nilfn::cs,vs,y,AH,h,hp|.trowh b::l,.bfn _ _::cs,vs,y,AH,h,hp|.trowh b::l,.tptr _ _ _ _ _::cs,vs,y,AH,h,hp
 |.trowh b::l,.mapv _::cs,vs,y,AH,h,hp|.trowh b::l,.mat _ _::cs,vs,y,AH,h,hp|.trowh b::l,.mrow _ _ _::cs,vs,y,AH,h,hp|.trowh b::l,.sub _ _ _ _::cs,vs,y,AH,h,hp
 |.trowh b::l,.bself _::cs,vs,y,AH,h,hp|.trowh b::l,.junk::cs,vs,y,AH,h,hp=>by simp[Bl]at hp
 |.nilc::l,cs,vs,y,AH,h,hp=>by
  cases cs with
  |nil=>simp[Bl]at hp
  |cons c cs=>cases c<;>simp[Bl]at hp
 |.lsome _::l,cs,vs,y,AH,h,hp=>by
  cases cs with
  |nil=>simp[Bl]at hp
  |cons c cs=>cases c<;>simp[Bl]at hp
 |.nils::l,cs,vs,y,AH,h,hp=>by
  cases cs with
  |nil=>simp[Bl]at hp
  |cons c cs=>
   cases c<;>simp only[Bl]at hp<;>first|(cases hp;done)|skip
   obtain⟨v,Av,e,hv,ht⟩:=h;exact⟨v,Av,e,hv,G8 hb hw hr AM AH.tail ht hp⟩
 |.junk::l,cs,vs,y,AH,h,hp=>by
  cases cs with
  |nil=>simp[Bl]at hp
  |cons c cs=>simp only[Bl]at hp;obtain⟨v,Av,e,hv,ht⟩:=h;exact⟨v,Av,e,CRep.oneCell hv,G8 hb hw hr AM AH.tail ht hp⟩
def VReps(E:Env):Ya V->Ya Yp->Prop
 |[],us=>us=[]
 |v::vs,us=>∃u Cf,us=u::Cf/\VRep E v u/\VReps E vs Cf
theorem Aas{v:V}{vs:Ya V}{cs:Ya C}(h:v.cells=Yd cs):Ct (v::vs)=Cx cs++Ct vs:=by simp[Ct,h]
theorem gC{E E':Env}{blp:Yk->Yb Blk}{ids AZ:Ya Yk}(hb:Eg E)(hw:E'.w=E.w)(hr:Ren E E' ids AZ)(AM:∀i∈ids,blp i=E.bl i):∀{l:Ya (Ys×Ya CT)}{vs:Ya V}{us:Ya Yp}{y:ST.dens l},Rows E blp E'.ok (Ct vs)->VReps E vs us->GP blp ids l vs=Yd y->TReps E' (mkS AZ l y) us
 |[],vs,us,y,AH,h,hp=>by
  cases vs with
  |nil=>exact h
  |cons v vs=>simp[GP]at hp
 |t::l,vs,us,y,AH,h,hp=>by
  cases vs with
  |nil=>simp[GP]at hp
  |cons v vs=>
   obtain⟨u,Cf,e,hv,ht⟩:=h;obtain⟨agg,ct⟩:=t;cases agg with
   |false=>
    cases v<;>simp only[GP]at hp<;>try(cases hp;done)
    rename_i x;split at hp
    ·cases hp
    ·rename_i y1 h1
     split at hp
     ·cases hp
     ·rename_i z h2
      simp only[Af]at hp;subst hp;have hrow:Ct (V.c x::vs)=Cx [x]++Ct vs:=Aas rfl;refine⟨u,Cf,e,⟨[u],?_,by simp⟩,gC hb hw hr AM (AH.sub λb DE=>by rw[hrow];exact Da _ DE) ht h2⟩;exact G8 hb hw hr AM (AH.sub λb DE=>by rw[hrow];exact CI _ DE) (show CReps E [x] [u]from⟨u,[],rfl,hv,rfl⟩) h1
   |true=>
    cases v<;>simp only[GP]at hp<;>try(cases hp;done)
    rename_i cs;split at hp
    ·cases hp
    ·rename_i y1 h1
     split at hp
     ·cases hp
     ·rename_i z h2
      simp only[Af]at hp;subst hp;have hrow:Ct (V.agg cs::vs)=Cx cs++Ct vs:=Aas rfl;obtain⟨xs,Ad,hu⟩:=hv;refine⟨u,Cf,e,⟨xs,?_,hu⟩,gC hb hw hr AM (AH.sub λb DE=>by rw[hrow];exact Da _ DE) ht h2⟩;exact G8 hb hw hr AM (AH.sub λb DE=>by rw[hrow];exact CI _ DE) Ad h1
theorem Aat{E E':Env}{blp:Yk->Yb Blk}{ids AZ:Ya Yk}(hb:Eg E)(hw:E'.w=E.w)(hr:Ren E E' ids AZ)(AM:∀i∈ids,blp i=E.bl i):∀{l:Ya BT}{is:Ya Yk}{y:BT.dens l},Rows E blp E'.ok (JM blp is)->(∀i∈is,i∈ids)->G7 blp ids l is=Yd y->is.length=l.length/\∀(j i:Yk),is[j]?=Yd i->∃g B,E.pl i=Yd (.cells g)/\(mkB AZ l y)[j]?=Yd B/\BRep E' B (.cells g)/\B.live=Yo
 |[],is,y,AH,Ci,hp=>by
  cases is with
  |nil=>exact⟨rfl,λj i h=>by simp at h⟩
  |cons i is=>simp[G7]at hp
 |.row t e::r,is,y,AH,Ci,hp=>by cases is<;>simp[G7]at hp
 |.map t k v vg::r,is,y,AH,Ci,hp=>by cases is<;>simp[G7]at hp
 |.mat t et e::r,is,y,AH,Ci,hp=>by cases is<;>simp[G7]at hp
 |.tree t e::r,is,y,AH,Ci,hp=>by cases is<;>simp[G7]at hp
 |.fmap t l::r,is,y,AH,Ci,hp=>by cases is<;>simp[G7]at hp
 |.cells t l::r,is,y,AH,Ci,hp=>by
  cases is with
  |nil=>simp[G7]at hp
  |cons i is=>
   simp only[G7]at hp;split at hp
   ·rename_i t' cs An
    cases ht:Ym t t' with
    |false=>rw[ht]at hp;cases hp
    |true=>
     have:=At ht;subst this;simp only[ht,Ao]at hp;split at hp
     ·cases hp
     ·rename_i y1 h1
      split at hp
      ·cases hp
      ·rename_i z h2
       simp only[Af]at hp;subst hp;have hrow:JM blp (i::is)=Cx cs++JM blp is:=by simp[JM,An]
       obtain⟨hl,Eb⟩:=Aat hb hw hr AM (AH.sub λb DE=>by rw[hrow];exact Da _ DE) (λj hj=>Ci j (E6 _ hj)) h2;refine⟨by simp[hl],λj k hj=>?_⟩;cases j with
       |zero=>
        simp only[Dg,Af]at hj;subst hj;have DW:E.bl i=Yd (.cells t cs):=by rw[<-AM i (Ci i (by simp))];exact An
        obtain⟨p,CB,hB⟩:=hb i _ DW;cases p with
        |row _ _=>exact hB.elim
        |cells g=>obtain⟨vs,hh,Bn⟩:=hB;refine⟨g,_,CB,rfl,⟨vs,by rw[hw];exact hh,?_⟩,rfl⟩;exact G8 hb hw hr AM (AH.sub λb DE=>by rw[hrow];exact CI _ DE) Bn h1
       |succ j=>obtain⟨g,B,h3,h4,h5,h6⟩:=Eb j k (by simpa using hj);exact⟨g,B,h3,by simpa [mkB]using h4,h5,h6⟩
   ·cases hp
theorem G9{ids:Ya Yk}:∀{l:Ya BT}{y:BT.dens l},(mkB ids l y).length=l.length
 |[],_=>rfl
 |.cells _ _::r,y=>by simp[mkB,G9 (l:=r)]
 |.row _ _::r,y=>by simp[mkB,G9 (l:=r)]
 |.map _ _ _ _::r,y=>by simp[mkB,G9 (l:=r)]
 |.mat _ _ _::r,y=>by simp[mkB,G9 (l:=r)]
 |.tree _ _::r,y=>by simp[mkB,G9 (l:=r)]
 |.fmap _ _::r,y=>by simp[mkB,G9 (l:=r)]
end Go.Lift
