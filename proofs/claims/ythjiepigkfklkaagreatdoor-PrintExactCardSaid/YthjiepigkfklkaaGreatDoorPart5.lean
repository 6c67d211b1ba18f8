/- Part5 -/
import Derived.ChangeKeysEq
import Derived.WideLaws
import Derived.Laws.Pointers
import Derived.MapKept
import Derived.Maps.AppendAt
import Derived.Lib.Strings
import Derived.Laws.CopyRow
import Derived.Laws.BytesArg
import Derived.Test.YthjiepigkfklkaaGreatDoorPart4
set_option linter.unusedVariables false
set_option linter.unusedSectionVars false
set_option linter.unusedSimpArgs false
open _root_ renaming Option → Ya, List → Ye, Int → Yh, UInt8 → Yj, Nat → Yn, Bool → Ys, if_neg → Yy, if_pos → Y1, absurd → Y7, ByteArray → YP, Array → YQ
open Go.IntKind renaming i64 → Yc
open Decidable renaming decide → Yd
open Option renaming none → Yf, some → Yg
open Bool renaming false → Yi, true → Yp
open Nat renaming beq → Yo, blt → Y0, ble → YI, min → YV, min_eq_left → YaV, mul_le_mul_left → Ybj
open Go renaming Value → Yq, TypeId → Yr, run_underlying → Yu, Program → Yw, World → Yx, Operand → Y2, execOp → Y3, binOp → YB, TypeDesc → YD, TypeInfo → YN, IntKind → YT, typeInfo → Yaa, maxLen → Yaj, sizeOf → Yak, zeroValue → Yaz, madeCells → Ya0, BinOp → Ya6, asIntOf → YaR, run_equalIn_bool' → YaS, heap_alloc_new → YaW, storeCells → Ybb, run_program → Ybl
open Go.Op renaming operands → Yt, bytesLess → Yap, eqFields → Yaq, stringOp → Yar, intCmp → YaC, equalIn → YaK, maxDepth → YaT, intArith → YaU
open List renaming replicate → Y8, tail → Ya7
open Go.Result renaming andThen_ok → Y9, andThen → YO
open Go.Sem renaming run_bind → YC, run_pure → YY
open Go.Call renaming operands → YE
open Go.Builtin renaming append_ → YH, firstCells → YU, len_ → YX, lenOf → Yao, copy_ → Yav, zeroCells → YaE, clear_ → YaO
open Go.World renaming ownsRow_nil → YL, grownBy_alloc → Ya9
open Go.Addr renaming add_lit → YM, add → Ya4
open Go.MapKept renaming run_getObj_map → YR
open Go.Value renaming int → YW, ownBlock → Yae, slice → Ybc
open Go.Instr renaming sliceAt → Yal, sureAddr → Yau, slice → Yaw, indexAt → Yax, fill → YaD, sliceBounds → YaI, buildSlice → YaL
open Go.Program renaming cellsOf → YaJ
open ByteArray renaming empty → YaY
open Int renaming toNat_of_nonneg → Ybi
namespace Go.Lift
open Go.RowKit
theorem Ea{a b:Yn}(h:Y0 a b=Yp):a<b:=by have:=IP h;omega
section
variable{P:Yw}{o:Oper}{ρ:Y2->V}{bl:Yn->Ya Blk}{β:Type}{r:β}
theorem rF{β:Type}{i:Yh}{kk:Yn->Ya β}{r:β}:∀{m j:Yn},Rq i kk j m=Yg r->∃q,j<=q/\i=(q:Yh)/\kk q=Yg r/\q<j+m
 |0,j,h=>by simp[Rq]at h
 |m+1,j,h=>by
  simp only[Rq]at h;cases hd:Yd (i=(j:Yh))with
  |true=>rw[hd]at h;exact⟨j,Av _,Bd hd,h,by omega⟩
  |false=>rw[hd]at h;obtain⟨q,h1,h2,h3,h4⟩:=rF (m:=m) h;exact⟨q,by omega,h2,h3,by omega⟩
theorem P0{x:V}{k:YT}{n:Yh}(h:ival x=Yg (k,n)):x=.c (.int k n):=by
 unfold ival at h;split at h
 ·simp only[Af,Cb]at h
  rw[h.1,h.2]
 ·cases h
theorem Afp{t:Yr}{ti:TI}{i:YN}{d:YD}{z:Yq}(f:TFacts P t ti i d z){k off n:Yn}{g:Ys}(h:ti.flds[k]?=Yg (off,n,g)):∃fs fd j e,d=.struct fs/\fs[k]?=Yg fd/\fd.offset=off/\P.info? fd.type=Yg j/\j.size=n/\P.underlying fd.type=Yg e/\J3 P fd.type=g:=by
 rw[f.flds]at h;unfold bF at h;split at h
 ·rename_i fs
  rw[Gz]at h;cases hk:fs.toList[k]? with
  |none=>rw[hk]at h;cases h
  |some fd=>rw[hk]at h;simp only[F8,Af,Cb]at h;have D9:fd∈fs.toList:=Dg hk;have DV:=f.known;simp only[R3,FG]at DV;have h1:=DV fd D9;simp only[Dk,p8]at h1;obtain⟨⟨j,hj⟩,⟨e,he⟩⟩:=h1;refine⟨fs,fd,j,e,rfl,by simpa using hk,h.1,hj,?_,he,h.2.2⟩;rw[<-h.2.1];simp[YaJ,hj]
 ·simp at h
theorem AtD{fd:Field}{j:YN}(hj:P.info? fd.type=Yg j)(hs:j.size≠0)(a:Addr)(w:Yx):(fieldPlace a fd).run P w=.ok (a.add fd.offset) w:=by simp[fieldPlace,Yak,Yaa,hj,hs]
theorem AtE{T:Yr->Ya TI}(hT:TOk P T){kk:K β}{t:Yr}{x:Y2}{fi:Yn}(ho:o.op=.fieldAddr t x fi)(hk:pZ T t (ρ x) fi kk=Yg r):Sound P o ρ bl kk r:=by
 unfold pZ at hk;split at hk
 ·cases hk
 rename_i ti ht;obtain⟨i,d,z,f⟩:=hT.facts ht;split at hk
 ·cases hk
 rename_i off n g hf;obtain⟨fs,fd,j,e,rfl,nI,rfl,hj,ALr,he,hg⟩:=Afp f hf;cases hn:Yo n 0 with
 |true=>rw[hn]at hk;cases hk
 |false=>
  simp only[hn,C7]at hk;have hs:j.size≠0:=by rw[ALr];rintro rfl;cases hn
  have AJ:∀(a:Act)(w:Yx)(ad:Addr),a.eval x=.pointer (Yg ad)->(Y3 a.eval o).run P w=.ok (.value (.pointer (Yg (ad.add fd.offset)))) w:=by intro a w ad ha;simp[Y3,ho,ha,Instr.fieldAt,Yu f.under,nI,Yau,AtD hj hs]
  split at hk
  ·rename_i b of hx
   refine Sound.pure hk λAb _ ok0 base pl w a hr Ae=>?_;have hv:=Ae x (by simp[ho,Yt]);rw[hx]at hv;obtain⟨g',CK,B6⟩:=hv;refine⟨_,AJ a w _ B6,g',CK,?_⟩;rw[YM]
  ·rename_i b ver ix of hx
   refine Sound.pure hk λAb _ ok0 base pl w a hr Ae=>?_;have hv:=Ae x (by simp[ho,Yt]);rw[hx]at hv;obtain⟨sv,Ac,ad,CK,B6,Bg⟩:=hv;refine⟨_,AJ a w _ B6,sv,Ac,_,CK,rfl,λt1 e1 Da l1 BE=>?_⟩;obtain⟨h1,h2⟩:=Bg t1 e1 Da l1 BE;refine⟨h1,λhe=>?_⟩;obtain⟨h3,g',n',c',h4,rfl⟩:=h2 he;exact⟨h3,g',n',c',h4,by rw[YM,TQ]⟩
  ·rename_i e' x0 of hx
   refine Sound.pure hk λAb _ ok0 base pl w a hr Ae=>?_;have hv:=Ae x (by simp[ho,Yt]);rw[hx]at hv;obtain⟨xs,ad,hd,B6,hc⟩:=hv;refine⟨_,AJ a w _ B6,xs,_,hd,rfl,λj' u If=>?_⟩;rw[M7,ND]
   have h2:(xs.drop of)[fd.offset+j']?=Yg u:=by rw[Rd]at If⊢;rw[<-If];congr 1;omega
   obtain⟨h3,h4⟩:=hc _ u h2;exact⟨h3,h4⟩
  ·rename_i b ver p ix of hx
   refine Sound.pure hk λAb _ ok0 base pl w a hr Ae=>?_;have hv:=Ae x (by simp[ho,Yt]);rw[hx]at hv;obtain⟨sv,Ac,ad,CK,B6,Bg⟩:=hv;refine⟨_,AJ a w _ B6,sv,Ac,_,CK,rfl,λt1 e1 Da HK h1 l1 BE=>?_⟩;obtain⟨h1,h2⟩:=Bg t1 e1 Da HK h1 l1 BE;refine⟨h1,λhe ho=>?_⟩;obtain⟨n',s,h3,h4,h5,g',m',c',h6,rfl⟩:=h2 he ho;exact⟨n',s,h3,h4,h5,g',m',c',h6,by rw[YM,TQ]⟩
  ·cases hk
theorem Uv{t:Yr}{ti:TI}{i:YN}{d:YD}{z:Yq}(f:TFacts P t ti i d z){e:Yr}{te:TI}{i':YN}{d':YD}{z':Yq}(fe:TFacts P e te i' d' z')(hd:d=.slice e){k:YT}{ix:Yh}{ad:Addr}{n c:Yn}(h0:0<=ix)(h1:ix<(n:Yh))(w:Yx):(Yax t (.slice (Yg ad) n c) (.int k ix)).run P w=.ok (.pointer (Yg (ad.add (ix.toNat*te.size)))) w:=by
 subst hd;have h:=f.under;simp[Yax,YaR,Yu f.under,h0,h1,run_sizeOf fe]
theorem He{t:Yr}{ti:TI}{i:YN}{d:YD}{z:Yq}(f:TFacts P t ti i d z){e:Yr}(h:ti.elem=Yg e)(hl:ti.len=Yf):d=.slice e:=by rw[f.elem]at h;rw[f.alen]at hl;cases d<;>simp_all [bG,lenD]
theorem rG{t:Yr}{ti:TI}{i:YN}{d:YD}{z:Yq}(f:TFacts P t ti i d z){e:Yr}{n:Yn}(h:ti.elem=Yg e)(hl:ti.len=Yg n):d=.array n e:=by rw[f.elem]at h;rw[f.alen]at hl;cases d<;>simp_all [bG,lenD]
theorem AtF{w:Yx}{ok:Yn->Prop}{e:Ty}{l:Ye e.den}{v:Yq}(h:DRep w ok (.slice e) l [v]){i:Yn}(hi:i<l.length)(hs:0<e.size):∃ad c u,v=.slice (Yg ad) l.length c/\DRep w ok e (l.getD i e.dflt) u/\∀j x,u[j]?=Yg x->ok ad.block/\w.cell? (ad.add (i*e.size+j))=Yg x:=by
 simp only[DRep]at h;obtain⟨A,c,xs,hv,BF,FC,hd,hx⟩:=h;obtain⟨u,p,q,Ae,hp,hu⟩:=DList.get e.dflt hd hi;have oC:=hu.length;have Ih:0<u.length:=by omega
 have h0:xs[i*e.size]?=Yg u[0]:=by rw[Ae,Gy (by omega),HO (by omega)];simp[hp]
 obtain⟨ad,rfl,_,_⟩:=hx _ _ h0;simp only[Dx,Fv]at hv;refine⟨ad,c,u,hv,hu,λj x hj=>?_⟩;have Arj:j<u.length:=(Fe.1 hj).1
 have h1:xs[i*e.size+j]?=Yg x:=by rw[Ae,Gy (by omega),HO (by omega),<-hj];congr 1;omega
 obtain⟨Ad7,ha,ho,hc⟩:=hx _ _ h1;injection ha with ha;subst ha;exact⟨ho,hc⟩
theorem AtG{T:Yr->Ya TI}(hT:TOk P T){kk:K β}{t:Yr}{x y:Y2}(ho:o.op=.indexAddr t x y)(hk:q8 T bl t (ρ x) (ρ y) kk=Yg r):Sound P o ρ bl kk r:=by
 unfold q8 at hk;split at hk
 ·cases hk
 rename_i k ix XU;have hy:=P0 XU
 have JO:∀(a:Act)(E:Env),VRep E (ρ y) (a.eval y)->a.eval y=.int k ix:=by intro a E h;rw[hy]at h;exact h
 have AJ:∀(a:Act)(w:Yx),Y3 a.eval o=(do pure (.value (<-Yax t (a.eval x) (a.eval y)))):=by intro a w;simp[Y3,ho]
 split at hk
 ·cases hk
 rename_i ti ht;obtain⟨i,d,z,f⟩:=hT.facts ht;split at hk
 ·
  rename_i et C8 CC;have hd:=He f C8 CC;split at hk
  ·cases hk
  rename_i te Cg;obtain⟨i',d',z',fe⟩:=hT.facts Cg;split at hk
  ·rename_i e l hx
   cases hs:(Yo e.size te.size&&Y0 0 te.size)with
   |false=>rw[hs]at hk;cases hk
   |true=>
    obtain⟨Bx,AW⟩:=andB hs;have Nu:=AB Bx;have o8:0<te.size:=Ea AW;simp only[hs,As]at hk;obtain⟨hc,hk⟩:=DN hk;obtain⟨CU,Cw⟩:=andB hc;have CU:=Bd CU;have Cw:=Bd Cw;refine Sound.pure hk λAb _ ok0 base pl w a hr Ae=>?_;have hv:=Ae x (by simp[ho,Yt]);have JP:=JO a _ (Ae y (by simp[ho,Yt]));rw[hx]at hv;obtain⟨ad,c,u,B6,hu,DG⟩:=AtF hv (i:=ix.toNat) (by omega) (by omega);refine⟨.pointer (Yg (ad.add (ix.toNat*te.size))),?_,u,_,hu,rfl,λj x hj=>?_⟩
    ·rw[AJ a w,JP,B6]
     simp[Uv f fe hd CU Cw]
    ·rw[M7,ND,<-Nu]
     exact DG j x (by simpa using hj)
  ·rename_i b ver hx
   split at hk
   ·rename_i t0 e ver' l hb
    cases hs:(Yo ver ver'&&(Yo e.size te.size&&Y0 0 te.size))with
    |false=>rw[hs]at hk;cases hk
    |true=>
     obtain⟨AY,Nv⟩:=andB hs;obtain⟨Bx,AW⟩:=andB Nv;have Nu:=AB Bx;have o8:0<te.size:=Ea AW;have:=AB AY;subst this;simp only[hs,As]at hk;obtain⟨hc,hk⟩:=DN hk;obtain⟨CU,Cw⟩:=andB hc;have CU:=Bd CU;have Cw:=Bd Cw;refine Sound.pure hk λAb Ai ok0 base pl w a hr Ae=>?_;have AE:Ab b=Yg (.row t0 e ver l):=(Ai b (by simp)).trans hb;have hv:=Ae x (by simp[ho,Yt]);have JP:=JO a _ (Ae y (by simp[ho,Yt]));rw[hx]at hv;obtain⟨_,sv,Ac,hg,Bg⟩:=hv;have B6:=(Bg t0 e ver l AE).2 rfl;obtain⟨p,hp,hB⟩:=hr.blks b _ AE;have:p=.row sv Ac:=by have h2:pl b=Yg (.row sv Ac):=hg;rw[hp]at h2;injection h2
     subst this;obtain⟨h0,xs,Ct,Aq⟩:=hB;rcases Aq.2 with⟨AA,hn⟩|⟨g,cap,Ba,AA,_⟩
     ·omega
     ·refine⟨.pointer (Yg ((⟨g,0,Yf⟩:Addr).add (ix.toNat*te.size))),?_,sv,Ac,_,hg,rfl,λt1 e1 Da l1 BE=>?_⟩
      ·rw[AJ a w,JP,B6,AA]
       simp[Uv f fe hd CU Cw]
      ·obtain⟨h1,h2⟩:=Bg t1 e1 Da l1 BE
       refine⟨h1,λhe=>?_⟩;have E3:Ab b=Yg (.row t1 e1 Da l1):=BE;rw[AE]at E3;injection E3 with E3;injection E3 with q1 q2 q3 q4;subst q2;simp only[Jx]at q4;subst q4;refine⟨by omega,g,_,_,AA,?_⟩;rw[YM,Nu];simp
   ·cases hk
  ·
   rename_i b ver lo hi hx;split at hk
   ·rename_i t0 e ver' l hb
    cases hs:(Yo ver ver'&&(Yo e.size te.size&&Y0 0 te.size))with
    |false=>rw[hs]at hk;cases hk
    |true=>
     obtain⟨AY,Nv⟩:=andB hs;obtain⟨Bx,AW⟩:=andB Nv;have Nu:=AB Bx;have o8:0<te.size:=Ea AW;have:=AB AY;subst this;simp only[hs,As]at hk;obtain⟨hc,hk⟩:=DN hk;obtain⟨CU,Cw⟩:=andB hc;have CU:=Bd CU;have Cw:=Bd Cw;refine Sound.pure hk λAb Ai ok0 base pl w a hr Ae=>?_;have AE:Ab b=Yg (.row t0 e ver l):=(Ai b (by simp)).trans hb;have hv:=Ae x (by simp[ho,Yt]);have JP:=JO a _ (Ae y (by simp[ho,Yt]));rw[hx]at hv;obtain⟨_,sv,Ac,hg,Bg⟩:=hv;obtain⟨q1,q2,A,A',n,c,AA,B6,hA,_⟩:=(Bg t0 e ver l AE).2 rfl;obtain⟨p,hp,hB⟩:=hr.blks b _ AE;have:p=.row sv Ac:=by have h2:pl b=Yg (.row sv Ac):=hg;rw[hp]at h2;injection h2
     subst this;obtain⟨h0,xs,Ct,Aq⟩:=hB;have Ax:lo<hi:=by omega
     have hA:=hA Ax;rcases Aq.2 with⟨Dt,hn⟩|⟨g,cap,Ba,Dt,_⟩
     ·omega
     ·have hAg:A=Yg ⟨g,0,Yf⟩:=by rw[AA]at Dt;injection Dt
      subst hAg;have hA:A'=Yg ((⟨g,0,Yf⟩:Addr).add (lo*e.size)):=hA;subst hA;refine⟨.pointer (Yg (((⟨g,0,Yf⟩:Addr).add (lo*e.size)).add (ix.toNat*te.size))),?_,sv,Ac,_,hg,rfl,λt1 e1 Da l1 BE=>?_⟩
      ·rw[AJ a w,JP,B6]
       simp[Uv f fe hd CU Cw]
      ·obtain⟨h1,_⟩:=Bg t1 e1 Da l1 BE
       refine⟨h1,λhe=>?_⟩;have E3:Ab b=Yg (.row t1 e1 Da l1):=BE;rw[AE]at E3;injection E3 with E3;injection E3 with q1 q2 q3 q4;subst q2;simp only[Jx]at q4;subst q4;refine⟨by omega,g,_,_,AA,?_⟩;rw[ND,YM,<-Nu,LC];simp
   ·cases hk
  ·
   rename_i b ver p hx;split at hk
   ·rename_i q hq
    obtain⟨hb,AY,hn⟩:=bP hq;subst AY;cases hs:(Yo q.2.2.2.2.1.2.ty.size te.size&&Y0 0 te.size)with
    |false=>rw[hs]at hk;cases hk
    |true=>
     obtain⟨Bx,AW⟩:=andB hs;have Nu:=AB Bx;have o8:0<te.size:=Ea AW;simp only[hs,As]at hk;obtain⟨hc,hk⟩:=DN hk;obtain⟨CU,Cw⟩:=andB hc;have CU:=Bd CU;have Cw:=Bd Cw;refine Sound.pure hk λAb Ai ok0 base pl w a hr Ae=>?_;have AE:=(Ai b (by simp)).trans hb;have hv:=Ae x (by simp[ho,Yt]);have JP:=JO a _ (Ae y (by simp[ho,Yt]));rw[hx]at hv;obtain⟨sv,Ac,n',Bp,hT',E4,KJ⟩:=r9 (E:=At ok0 base pl Ab w) hr.blksOk AE hv;have:=MC E4;rw[hn]at this;injection this with this;subst this;obtain⟨s',Fn,G1,G2,_,_,_,h4,h5,_,_⟩:=hT'.node E4;rw[KJ]at h4;injection h4 with h4;injection h4 with h4;subst h4;obtain⟨s',xs,F',e1,_,Aq,_⟩:=h5;have e1:=(LB e1).1;subst e1;rcases Aq.2 with⟨AA,JK⟩|⟨g,cap,Ba,AA,_⟩
     ·have:q.2.2.2.2.2.length=0:=JK
      omega
     ·refine⟨.pointer (Yg ((⟨g,0,Yf⟩:Addr).add (ix.toNat*te.size))),?_,sv,Ac,_,Bp,rfl,λt1 e1 Da HK IC l1 BE=>?_⟩
      ·have nE:ix<(q.2.2.2.2.2.length:Yh):=Cw
       rw[AJ a w,JP,AA];simp[Uv f fe hd CU nE]
      ·have E3:Ab b=Yg (.tree t1 e1 Da HK IC l1):=BE
       rw[AE]at E3;injection E3 with E3;injection E3 with q1 q2 q3 q4 q5 q6;subst q1 q2 q3 q4 q5;simp only[Jx]at q6;subst q6;refine⟨Av _,λ_ _=>⟨_,_,E4,KJ,?_,g,_,_,AA,?_⟩⟩
       ·have:(ix.toNat:Yh)<(q.2.2.2.2.2.length:Yh):=by omega
        exact_mod_cast this
       ·rw[YM,Nu]
        simp
   ·unfold Af4 at hk
    split at hk
    ·rename_i t0 e0 ver' B8 p0 q0 l0 hb _
     cases hs:(Yo ver ver'&&(Yo e0.ty.size te.size&&Y0 0 te.size))with
     |false=>rw[hs]at hk;cases hk
     |true=>
      obtain⟨KH,hs⟩:=andB hs;obtain⟨Bx,AW⟩:=andB hs;have:=AB KH;subst this;have Nu:=AB Bx;have o8:0<te.size:=Ea AW;rw[show(Yo ver ver&&(Yo e0.ty.size te.size&&Y0 0 te.size))=Yp by rw[KH,Bx,AW];rfl,As]at hk;obtain⟨hc,hk⟩:=DN hk;obtain⟨CU,Cw⟩:=andB hc;have CU:=Bd CU;have Cw:=Bd Cw;refine Sound.pure hk λAb Ai ok0 base pl w a hr Ae=>?_;have AE:=(Ai b (by simp)).trans hb;have hv:=Ae x (by simp[ho,Yt]);have JP:=JO a _ (Ae y (by simp[ho,Yt]));rw[hx]at hv;obtain⟨_,sv,Ac,Bp,Bg⟩:=hv
      have AdM:TV (Yg (p0::q0)) []:=λq hq JL=>by injection hq with hq;subst hq;simp at JL
      obtain⟨n,hn,KJ⟩:=(Bg _ _ _ _ _ _ AE).2 rfl AdM;have hn:Yg (⟨(t0,e0),l0⟩:Fg)=Yg n:=hn;injection hn with hn;subst hn;have KJ:sv=a.eval x:=by simpa [nix]using KJ
      obtain⟨p,hp,hB⟩:=hr.blks b _ AE;have QK:pl b=Yg (.row sv Ac):=Bp;rw[hp]at QK;injection QK with QK;subst QK;have hT:TreeOk (At ok0 base pl Ab w) t0 e0 (Yg (p0::q0)) l0 sv Ac:=hB;obtain⟨OQ,F,h1,_,_⟩:=hT.rep;obtain⟨i0,k0⟩:=p0;obtain⟨_,s',xs,F',e1,_,Aq,_⟩:=h1;have e1:=(LB e1).1;subst e1;rcases Aq.2 with⟨AA,JK⟩|⟨g,cap,Ba,AA,_⟩
      ·have:l0.length=0:=JK
       omega
      ·refine⟨.pointer (Yg ((⟨g,0,Yf⟩:Addr).add (ix.toNat*te.size))),?_,sv,Ac,_,hp,rfl,λt1 e1 Da HK IC l1 BE=>?_⟩
       ·have nE:ix<(l0.length:Yh):=Cw
        rw[AJ a w,JP,<-KJ,AA];simp[Uv f fe hd CU nE]
       ·have E3:Ab b=Yg (.tree t1 e1 Da HK IC l1):=BE
        rw[AE]at E3;injection E3 with E3;injection E3 with q1 q2 q3 q4 q5 q6;subst q1 q2 q3 q4 q5;simp only[Jx]at q6;subst q6;refine⟨Av _,λ_ _=>⟨⟨(t0,e0),l0⟩,sv,rfl,rfl,?_,g,_,_,AA,?_⟩⟩
        ·have:(ix.toNat:Yh)<(l0.length:Yh):=by omega
         exact_mod_cast this
        ·rw[YM,Nu]
         simp
    ·cases hk
  ·cases hk
 ·
  rename_i et n C8 CC;have hd:=rG f C8 CC;subst hd;split at hk
  ·rename_i b off hx
   split at hk
   ·rename_i te Cg
    obtain⟨i',d',z',fe⟩:=hT.facts Cg;obtain⟨j,ALp,hj,hk,ALq⟩:=rF hk;have Cd:j<n:=by omega
    refine Sound.pure hk λAb Ai ok0 base pl w a hr Ae=>?_;have hv:=Ae x (by simp[ho,Yt]);have JP:=JO a _ (Ae y (by simp[ho,Yt]));rw[hx]at hv;obtain⟨g,hg,B6⟩:=hv;refine⟨.pointer (Yg ((⟨g,off,Yf⟩:Addr).add (j*te.size))),?_,g,hg,by rw[YM]⟩;rw[AJ a w,JP,B6,hj];simp[Yax,YaR,Yu f.under,Yau,Cd,run_sizeOf fe]
   ·cases hk
  ·rename_i b ver q off hx
   split at hk
   ·rename_i te Cg
    obtain⟨i',d',z',fe⟩:=hT.facts Cg;obtain⟨j,ALp,hj,hk,ALq⟩:=rF hk;have Cd:j<n:=by omega
    refine Sound.pure hk λAb Ai ok0 base pl w a hr Ae=>?_;have hv:=Ae x (by simp[ho,Yt]);have JP:=JO a _ (Ae y (by simp[ho,Yt]));rw[hx]at hv;obtain⟨sv,Ac,ad,hp,B6,Bg⟩:=hv;refine⟨.pointer (Yg (ad.add (j*te.size))),?_,sv,Ac,_,hp,rfl,λt e ver' l hb=>?_⟩
    ·rw[AJ a w,JP,B6,hj]
     simp[Yax,YaR,Yu f.under,Yau,Cd,run_sizeOf fe]
    ·obtain⟨h1,h2⟩:=Bg t e ver' l hb
     refine⟨h1,λh=>?_⟩;obtain⟨h3,g,n',c,h4,h5⟩:=h2 h;refine⟨h3,g,n',c,h4,?_⟩;rw[h5,YM,TQ]
   ·cases hk
  ·cases hk
 ·cases hk
end
end Go.Lift
namespace Go.Lift
open Go.RowKit
theorem Afq(l:Ye Yj):(⟨l.toArray⟩:YP).toList=l:=by rw[ByteArray.toList_eq]
section
variable{P:Yw}{o:Oper}{ρ:Y2->V}{bl:Yn->Ya Blk}{β:Type}{r:β}
theorem AtH{w:Yx}{op:Ya6}{t:Yr}{x y:Y2}{k k':YT}{a b:Yh}:(eqGuard op t x y (.int k a) (.int k' b)).run P w=.ok () w:=by unfold eqGuard;cases op<;>simp
theorem AtI{w:Yx}{op:Ya6}{t:Yr}{x y:Y2}{a b:YP}:(eqGuard op t x y (.string a) (.string b)).run P w=.ok () w:=by unfold eqGuard;cases op<;>simp
theorem AtJ{w:Yx}{op:Ya6}{t:Yr}{x y:Y2}{a b:Ys}:(eqGuard op t x y (.bool a) (.bool b)).run P w=.ok () w:=by unfold eqGuard;cases op<;>simp
theorem rH{t:Yr}{k:BK}(h:LL P t=Yg k)(w:Yx):(isAgg t).run P w=.ok Yi w:=by unfold isAgg;unfold LL at h;split at h<;>first|(rename_i hu;simp[Yu hu];done)|cases h
theorem rI{w:Yx}(d0:Yn){t:Yr}{k:BK}(hb:LL P t=Yg k){ks:Ye BK}{a b:C}{as bs:Ye C}{x y:Yq}{E:Env}(ha:CRep E a x)(hy:CRep E b y){q:Ys}(hq:C3 (k::ks) (a::as) (b::bs)=Yg q):∃q1 q2,(YaK (d0+1) t x y).run P w=.ok q1 w/\C3 ks as bs=Yg q2/\q=(q1&&q2):=by
 unfold LL at hb;cases k<;>cases a<;>try(simp[C3]at hq;done)
 ·cases b<;>simp only[C3]at hq<;>try(cases hq;done)
  rename_i a b;split at hq
  ·rename_i q2 h2
   simp only[CRep]at ha hy;subst ha hy;simp only[Af]at hq;split at hb<;>try(cases hb;done)
   rename_i hu;exact⟨_,q2,YaS w d0 t _ _ hu,h2,hq.symm⟩
  ·cases hq
 ·cases b<;>simp only[C3]at hq<;>try(cases hq;done)
  rename_i ka a kb b;split at hq
  ·rename_i hk
   subst hk;split at hq
   ·rename_i q2 h2
    simp only[CRep]at ha hy;subst ha hy;simp only[Af]at hq;split at hb<;>try(cases hb;done)
    rename_i k' hu;exact⟨_,q2,run_equalIn_int w d0 t _ _ _ _ hu,h2,hq.symm⟩
   ·cases hq
  ·cases hq
 ·cases b<;>simp only[C3]at hq<;>try(cases hq;done)
  rename_i a b;split at hq
  ·rename_i q2 h2
   simp only[CRep]at ha hy;subst ha hy;simp only[Af]at hq;split at hb<;>try(cases hb;done)
   rename_i hu;refine⟨_,q2,run_equalIn_string w d0 t _ _ hu,h2,?_⟩;rw[Afq,Afq,<-hq];by_cases h:a=b<;>simp[h]
  ·cases hq
theorem AtK{w:Yx}(d0:Yn):∀(fs:Ye Field)(i:Yn)(ks:Ye BK)(as bs:Ye C)(xs ys:Ye Yq)(E:Env)(xa ya:YQ Yq),Un P i fs=Yg ks->CReps E as xs->CReps E bs ys->xa.toList.drop i=xs->ya.toList.drop i=ys->∀{q:Ys},C3 ks as bs=Yg q->(Yaq (d0+1) xa ya fs).run P w=.ok q w:=by
 intro fs
 induction fs with
 |nil=>
  intro i ks as bs xs ys E xa ya hf ha hb _ _ q hq;simp only[Un,Af]at hf;subst hf;cases as with
  |cons a as=>simp[C3]at hq
  |nil=>
   cases bs with
   |nil=>simp only[C3,Af]at hq;subst hq;simp[Yaq]
   |cons b bs=>simp[C3]at hq
 |cons f fs ih=>
  intro i ks as bs xs ys E xa ya hf ha hb Mq Mr q hq;simp only[Un]at hf;cases hn:(f.name != "_"&&Yo f.offset i)with
  |false=>rw[hn]at hf;cases hf
  |true=>
   simp only[hn,As]at hf;obtain⟨Ex,Lq⟩:=andB hn;have Lq:=AB Lq;split at hf
   ·rename_i k Zy KB Ek
    simp only[Af]at hf;subst hf;cases as with
    |nil=>simp[C3]at hq
    |cons a as=>
     cases bs with
     |nil=>cases k<;>cases a<;>simp[C3]at hq
     |cons b bs=>
      obtain⟨x,D4,ex,Nc,Qz⟩:=ha;obtain⟨y,OX,ey,BE,Ai⟩:=hb;subst ex ey
      have Cq:xa[i]?=Yg x:=by have:=Aw (·[0]?) Mq;simpa using this
      have E6:ya[i]?=Yg y:=by have:=Aw (·[0]?) Mr;simpa using this
      have Ij:xa.toList.drop (i+1)=D4:=by have:=Aw Ya7 Mq;simpa using this
      have IE:ya.toList.drop (i+1)=OX:=by have:=Aw Ya7 Mr;simpa using this
      have nV:f.name≠ "_":=by simpa using Ex
      have Fo:=rH (P:=P) KB w
      have Mo:(part f.type xa f.offset).run P w=.ok x w:=by simp[part,Fo,Lq,Cq]
      have QL:(part f.type ya f.offset).run P w=.ok y w:=by simp[part,Fo,Lq,E6]
      obtain⟨q1,q2,h1,h2,h3⟩:=rI (w:=w) d0 KB Nc BE hq;have QB:=ih (i+1) Zy as bs D4 OX E xa ya Ek Qz Ai Ij IE h2;simp only[Yaq,ne_eq,nV,pG,D6,YC,Mo,QL,h1,Y9];cases q1 with
      |false=>simp[h3]
      |true=>simp[h3,QB]
   ·cases hf
theorem Afr:∀{js ks:Ye BK}{as bs:Ye C}{q:Ys},C3 (js++ks) as bs=Yg q->∃a1 a2 b1 b2 q1 q2,as=a1++a2/\bs=b1++b2/\a1.length=js.length/\b1.length=js.length/\C3 js a1 b1=Yg q1/\C3 ks a2 b2=Yg q2/\q=(q1&&q2)
 |[],ks,as,bs,q,h=>⟨[],as,[],bs,Yp,q,rfl,rfl,rfl,rfl,rfl,h,rfl⟩
 |j::js,ks,as,bs,q,h=>by
  have key:∃x y SZ O5 e r,as=x::SZ/\bs=y::O5/\C3 (js++ks) SZ O5=Yg r/\q=(e&&r)/\∀ls u v s,C3 ls u v=Yg s->C3 (j::ls) (x::u) (y::v)=Yg (e&&s):=by
   rw[G0]at h;cases j<;>cases as<;>try(simp[C3]at h;done)
   ·rename_i x SZ
    cases x<;>try(simp[C3]at h;done)
    cases bs<;>try(simp[C3]at h;done)
    rename_i y O5;cases y<;>simp only[C3]at h<;>try(cases h;done)
    split at h
    ·rename_i r hr
     simp only[Af]at h;exact⟨_,_,_,_,_,r,rfl,rfl,hr,h.symm,λls u v s hs=>by simp[C3,hs]⟩
    ·cases h
   ·rename_i x SZ
    cases x<;>try(simp[C3]at h;done)
    cases bs<;>try(simp[C3]at h;done)
    rename_i y O5;cases y<;>simp only[C3]at h<;>try(cases h;done)
    split at h
    ·rename_i hk
     split at h
     ·rename_i r hr
      simp only[Af]at h;exact⟨_,_,_,_,_,r,rfl,rfl,hr,h.symm,λls u v s hs=>by simp[C3,hs,hk]⟩
     ·cases h
    ·cases h
   ·rename_i x SZ
    cases x<;>try(simp[C3]at h;done)
    cases bs<;>try(simp[C3]at h;done)
    rename_i y O5;cases y<;>simp only[C3]at h<;>try(cases h;done)
    split at h
    ·rename_i r hr
     simp only[Af]at h;exact⟨_,_,_,_,_,r,rfl,rfl,hr,h.symm,λls u v s hs=>by simp[C3,hs]⟩
    ·cases h
  obtain⟨x,y,SZ,O5,e,r,rfl,rfl,hr,hq,hf⟩:=key;obtain⟨a1,a2,b1,b2,q1,q2,e1,e2,l1,l2,h1,h2,h3⟩:=Afr hr;exact⟨x::a1,a2,y::b1,b2,(e&&q1),q2,by rw[e1];rfl,by rw[e2];rfl,by simp[l1],by simp[l2],hf _ _ _ _ h1,h2,by rw[hq,h3,Bool.and_assoc]⟩
theorem CReps.parts{E:Env}:∀{cs ds:Ye C}{vs:Ye Yq},CReps E (cs++ds) vs->∃us ws,vs=us++ws/\us.length=cs.length/\CReps E cs us/\CReps E ds ws
 |[],_,vs,h=>⟨[],vs,rfl,rfl,rfl,h⟩
 |_::_,_,_,⟨v,Az,e,h,ht⟩=>by obtain⟨us,ws,e2,hl,h1,h2⟩:=CReps.parts ht;exact⟨v::us,ws,by rw[e,e2];rfl,by simp[hl],⟨v,us,rfl,h,h1⟩,h2⟩
theorem AtL{w:Yx}(d0:Yn):∀(fs:Ye Field)(i:Yn)(ks:Ye BK)(as bs:Ye C)(xs ys:Ye Yq)(E:Env)(xa ya:YQ Yq),R0 P i fs=Yg ks->CReps E as xs->CReps E bs ys->xa.toList.drop i=xs->ya.toList.drop i=ys->∀{q:Ys},C3 ks as bs=Yg q->(Yaq (d0+2) xa ya fs).run P w=.ok q w:=by
 intro fs
 induction fs with
 |nil=>
  intro i ks as bs xs ys E xa ya hf ha hb _ _ q hq;simp only[R0,Af]at hf;subst hf;cases as with
  |cons a as=>simp[C3]at hq
  |nil=>
   cases bs with
   |nil=>simp only[C3,Af]at hq;subst hq;simp[Yaq]
   |cons b bs=>simp[C3]at hq
 |cons f fs ih=>
  intro i ks as bs xs ys E xa ya hf ha hb Mq Mr q hq;simp only[R0]at hf;cases hn:(f.name != "_"&&Yo f.offset i)with
  |false=>rw[hn]at hf;cases hf
  |true=>
   simp only[hn,As]at hf;obtain⟨Ex,Lq⟩:=andB hn;have Lq:=AB Lq;have nV:f.name≠ "_":=by simpa using Ex
   split at hf
   ·rename_i k KB
    split at hf
    ·rename_i Zy Ek
     simp only[Af]at hf;subst hf;cases as with
     |nil=>simp[C3]at hq
     |cons a as=>
      cases bs with
      |nil=>cases k<;>cases a<;>simp[C3]at hq
      |cons b bs=>
       obtain⟨x,D4,ex,Nc,Qz⟩:=ha;obtain⟨y,OX,ey,BE,Ai⟩:=hb;subst ex ey
       have Cq:xa[i]?=Yg x:=by have:=Aw (·[0]?) Mq;simpa using this
       have E6:ya[i]?=Yg y:=by have:=Aw (·[0]?) Mr;simpa using this
       have Ij:xa.toList.drop (i+1)=D4:=by have:=Aw Ya7 Mq;simpa using this
       have IE:ya.toList.drop (i+1)=OX:=by have:=Aw Ya7 Mr;simpa using this
       have Fo:=rH (P:=P) KB w
       have Mo:(part f.type xa f.offset).run P w=.ok x w:=by simp[part,Fo,Lq,Cq]
       have QL:(part f.type ya f.offset).run P w=.ok y w:=by simp[part,Fo,Lq,E6]
       obtain⟨q1,q2,h1,h2,h3⟩:=rI (w:=w) (d0+1) KB Nc BE hq;have QB:=ih (i+1) Zy as bs D4 OX E xa ya Ek Qz Ai Ij IE h2;simp only[Yaq,ne_eq,nV,pG,D6,YC,Mo,QL,h1,Y9];cases q1 with
       |false=>simp[h3]
       |true=>simp[h3,QB]
    ·cases hf
   ·split at hf
    ·rename_i js JH
     split at hf
     ·rename_i Zy Ek
      simp only[Af]at hf;subst hf;obtain⟨a1,a2,b1,b2,q1,q2,e1,e2,l1,l2,h1,h2,h3⟩:=Afr hq;subst e1 e2;obtain⟨x1,x2,ex,lx,Ij,Ik⟩:=CReps.parts ha;obtain⟨y1,y2,ey,ly,IE,QP⟩:=CReps.parts hb;subst ex ey;unfold Afd at JH;split at JH
      ·rename_i gs inf hu XT
       split at JH
       ·rename_i T1 ALs
        cases hc:(!P.stoodInHeld f.type&&Yo inf.size T1.length)with
        |false=>rw[hc]at JH;cases JH
        |true=>
         simp only[hc,As,Af]at JH;subst JH;obtain⟨c1,c2⟩:=andB hc;have c2:=AB c2;have Fo:(isAgg f.type).run P w=.ok Yp w:=by unfold isAgg;simp[Yu hu]
         have Cp:(Yak f.type).run P w=.ok inf.size w:=by simp[Yak,Yaa,XT]
         have cut:∀(za:YQ Yq)(z1 z2:Ye Yq),za.toList.drop i=z1++z2->z1.length=T1.length->za.extract i (i+inf.size)=z1.toArray:=by intro za z1 z2 hz hl;apply Io;rw[Array.toList_extract];simp only[List.extract];rw[hz,N7,c2,<-hl,aH]
         have Mo:(part f.type xa f.offset).run P w=.ok (.agg x1.toArray) w:=by simp[part,Fo,Lq,Cp,cut xa x1 x2 Mq (lx.trans l1)]
         have QL:(part f.type ya f.offset).run P w=.ok (.agg y1.toArray) w:=by simp[part,Fo,Lq,Cp,cut ya y1 y2 Mr (ly.trans l2)]
         have Q7:P.fieldsOf f.type=gs:=by simp[Program.fieldsOf,hu]
         have Ae2:P.underlying f.type=Yg (.struct (P.fieldsOf f.type)):=by rw[Q7];exact hu
         have Ej:(YaK (d0+2) f.type (.agg x1.toArray) (.agg y1.toArray)).run P w=.ok q1 w:=by rw[run_equalIn_struct w (d0+1) f.type _ _ Ae2 (by simpa using c1),Q7];exact AtK d0 gs.toList 0 T1 a1 b1 x1 y1 E _ _ ALs Ij IE (by simp) (by simp) h1
         have drp:∀(za:YQ Yq)(z1 z2:Ye Yq),za.toList.drop i=z1++z2->z1.length=T1.length->za.toList.drop (i+T1.length)=z2:=by intro za z1 z2 hz hl;rw[<-List.drop_drop,hz,<-hl,List.drop_left]
         have QB:=ih (i+T1.length) Zy a2 b2 x2 y2 E xa ya Ek Ik QP (drp xa x1 x2 Mq (lx.trans l1)) (drp ya y1 y2 Mr (ly.trans l2)) h2;simp only[Yaq,ne_eq,nV,pG,D6,YC,Mo,QL,Ej,Y9];cases q1 with
         |false=>simp[h3]
         |true=>simp[h3,QB]
       ·cases JH
      ·cases JH
     ·cases hf
    ·cases hf
theorem AtM{w:Yx}(d0:Yn){e:Yr}{k:BK}(KB:LL P e=Yg k):∀(n i:Yn)(as bs:Ye C)(xs ys:Ye Yq)(E:Env)(xa ya:YQ Yq),CReps E as xs->CReps E bs ys->xa.toList.drop i=xs->ya.toList.drop i=ys->∀{q:Ys},C3 (Y8 n k) as bs=Yg q->(Op.eqItems (d0+1) e 1 xa ya (List.range' i n)).run P w=.ok q w:=by
 intro n
 induction n with
 |zero=>
  intro i as bs xs ys E xa ya ha hb _ _ q hq;cases as with
  |cons a as=>simp[C3]at hq
  |nil=>
   cases bs with
   |nil=>simp only[Y8,C3,Af]at hq;subst hq;simp[Op.eqItems]
   |cons b bs=>simp[C3]at hq
 |succ n ih=>
  intro i as bs xs ys E xa ya ha hb Mq Mr q hq;rw[pC]at hq;cases as with
  |nil=>simp[C3]at hq
  |cons a as=>
   cases bs with
   |nil=>cases k<;>cases a<;>simp[C3]at hq
   |cons b bs=>
    obtain⟨x,D4,ex,Nc,Qz⟩:=ha;obtain⟨y,OX,ey,BE,Ai⟩:=hb;subst ex ey
    have Cq:xa[i]?=Yg x:=by have:=Aw (·[0]?) Mq;simpa using this
    have E6:ya[i]?=Yg y:=by have:=Aw (·[0]?) Mr;simpa using this
    have Ij:xa.toList.drop (i+1)=D4:=by have:=Aw Ya7 Mq;simpa using this
    have IE:ya.toList.drop (i+1)=OX:=by have:=Aw Ya7 Mr;simpa using this
    have Fo:=rH (P:=P) KB w
    have Mo:(part e xa (i*1)).run P w=.ok x w:=by simp[part,Fo,Cq]
    have QL:(part e ya (i*1)).run P w=.ok y w:=by simp[part,Fo,E6]
    obtain⟨q1,q2,h1,h2,h3⟩:=rI (w:=w) d0 KB Nc BE hq;have QB:=ih (i+1) as bs D4 OX E xa ya Qz Ai Ij IE h2;simp only[List.range'_succ,Op.eqItems,YC,Mo,QL,h1,Y9];cases q1 with
    |false=>simp[h3]
    |true=>simp[h3,QB]
theorem Afs{t:Yr}{ks:Ye BK}(he:Uo P t=Yg ks){as bs:Ye C}{xs ys:Ye Yq}{E:Env}(ha:CReps E as xs)(hb:CReps E bs ys){q:Ys}(hq:C3 ks as bs=Yg q)(w:Yx):(YaK 10000 t (.agg xs.toArray) (.agg ys.toArray)).run P w=.ok q w/\P.eqGuardType P.depth t=Yi:=by
 unfold Uo at he;split at he
 ·rename_i fs hu
  cases hc:(P.stoodInHeld t||P.eqGuardType P.depth t)with
  |true=>rw[hc]at he;cases he
  |false=>
   simp only[hc,C7]at he;have Cw:P.stoodInHeld t=Yi/\P.eqGuardType P.depth t=Yi:=by simpa using hc
   have Q7:P.fieldsOf t=fs:=by simp[Program.fieldsOf,hu]
   have Ae2:P.underlying t=Yg (.struct (P.fieldsOf t)):=by rw[Q7];exact hu
   refine⟨?_,Cw.2⟩;rw[run_equalIn_struct w 9999 t _ _ Ae2 Cw.1,Q7];exact AtL 9997 fs.toList 0 ks as bs xs ys E _ _ he ha hb (by simp) (by simp) hq
 ·rename_i n e hu
  split at he
  ·rename_i k hk
   cases hc:(Yo (P.cellsOf e) 1&&!P.eqGuardType P.depth t)with
   |false=>rw[hc]at he;cases he
   |true=>
    simp only[hc,As,Af]at he;subst he;obtain⟨CU,Cw⟩:=andB hc;have CU:=AB CU
    have hi:∃i,P.info? e=Yg i:=by
     cases hi:P.info? e with
     |some i=>exact⟨i,rfl⟩
     |none=>simp[YaJ,hi]at CU
    obtain⟨i,hi⟩:=hi;refine⟨?_,by simpa using Cw⟩;rw[run_equalIn_array w 9999 _ _ hu hi,CU,pB];exact AtM 9998 hk n 0 as bs xs ys E _ _ ha hb (by simp) (by simp) hq
  ·cases he
 ·cases he
theorem Aft{w:Yx}{op:Ya6}{t:Yr}{x y:Y2}{a a':Ya Addr}{n n' c c':Yn}:(eqGuard op t x y (.slice a n c) (.slice a' n' c')).run P w=.ok () w:=by unfold eqGuard;cases op<;>simp
theorem Afu(w:Yx)(d:Yn)(t e:Yr)(a:Ya Addr)(l c:Yn)(h:P.underlying t=Yg (.slice e)):(YaK (d+1) t (.slice a l c) (.slice Yf 0 0)).run P w=.ok a.isNone w:=by cases a<;>simp[YaK,Yu h]
theorem Afv{T:Yr->Ya TI}(hT:TOk P T){kk:K β}{op:Ya6}{t t':Yr}{x y:Y2}(ho:o.op=.binOp op t x y t'){cx:C}{b:Ys}(hx:ρ x=.c cx)(hy:ρ y=.c .nils)(hc:∀E v,CRep E cx v->∃a n c,v=.slice a n c/\a.isNone=b)(hk:aU T op t b kk=Yg r):Sound P o ρ bl kk r:=by
 have Cq:x∈o.op.operands:=by simp[ho,Yt]
 have E6:y∈o.op.operands:=by simp[ho,Yt]
 unfold aU at hk;split at hk
 ·rename_i ti ht
  obtain⟨i,d,z,f⟩:=hT.facts ht
  have main:∀(q:Ys)(e:Yr),ti.elem=Yg e->ti.len=Yf->kk (.c (.bool q)) [] []=Yg r->((op=.eql/\q=b)\/(op=.neq/\q=!b))->Sound P o ρ bl kk r:=by
   intro q e C8 CC Fz FE;have hd:=He f C8 CC;subst hd;refine Sound.pure Fz λAb _ ok0 base pl w act hr Ae=>⟨.bool q,?_,rfl⟩;have h1:=Ae x Cq;have h2:=Ae y E6;rw[hx]at h1;rw[hy]at h2;obtain⟨a,n,c,CB,hb⟩:=hc _ _ h1;have EU:act.eval y=.slice Yf 0 0:=h2;subst hb;rcases FE with⟨rfl,rfl⟩|⟨rfl,rfl⟩
   ·simp[Y3,ho,CB,EU,Aft,YB,Op.equal,YaT,Afu w 9999 t e a n c f.under]
   ·simp[Y3,ho,CB,EU,Aft,YB,Op.equal,YaT,Afu w 9999 t e a n c f.under]
  split at hk
  ·rename_i e C8 CC
   exact main _ e C8 CC hk (.inl ⟨rfl,rfl⟩)
  ·rename_i e C8 CC
   exact main _ e C8 CC hk (.inr ⟨rfl,rfl⟩)
  ·cases hk
 ·cases hk
theorem AtN{T:Yr->Ya TI}(hT:TOk P T){kk:K β}{op:Ya6}{t t':Yr}{x:Y2}(ho:o.op=.binOp op t x (.const .nilIface) t'){b:Ys}(hx:ρ x=.c (.err b))(hk:pX T op t b kk=Yg r):Sound P o ρ bl kk r:=by
 have Cq:x∈o.op.operands:=by simp[ho,Yt]
 unfold pX at hk;split at hk
 ·rename_i ti ht
  obtain⟨i,d,z,f⟩:=hT.facts ht
  have main:∀(q:Ys),ti.ty=Yg .err->ti.agg=Yi->kk (.c (.bool q)) [] []=Yg r->((op=.eql/\q=b)\/(op=.neq/\q=!b))->Sound P o ρ bl kk r:=by
   intro q Cz EV Fz FE;rw[f.agg]at EV
   have hu:P.underlying t=Yg (.interface (P.methodsAt t)):=by
    rw[f.ty]at Cz;unfold tyOf at Cz;split at Cz
    ·cases Cz
    ·cases Cz
    ·cases Cz
    ·rename_i ms hm
     cases hd:Yd (ms=P.methodsAt t)with
     |false=>rw[hd]at Cz;cases Cz
     |true=>rw[hm,Bd hd]
    ·rename_i e _;cases h:tyOf P 11 e<;>rw[h]at Cz<;>cases Cz
    ·rename_i hm;simp[J3,hm]at EV
    ·rename_i hm;simp[J3,hm]at EV
    ·cases Cz
   refine Sound.pure Fz λAb _ ok0 base pl w act hr Ae=>⟨.bool q,?_,rfl⟩;have h1:=Ae x Cq;rw[hx]at h1;have h1:errRep b (act.eval x):=h1;have h2:act.eval (.const .nilIface)=.nilIface:=rfl;cases b with
   |true=>
    have h1:act.eval x=.nilIface:=h1;rcases FE with⟨rfl,rfl⟩|⟨rfl,rfl⟩
    ·simp[Y3,ho,h1,h2,eqGuard_nil_constR,YB,run_equal_nil_nil w t hu]
    ·simp[Y3,ho,h1,h2,eqGuard_nil_constR,YB,run_equal_nil_nil w t hu]
   |false=>
    obtain⟨u,z,h1⟩:∃u z,act.eval x=.iface u z:=h1;have hg:∀op,eqGuard op t x (.const .nilIface) (.iface u z) .nilIface=pure ():=λop=>by cases op<;>rfl
    rcases FE with⟨rfl,rfl⟩|⟨rfl,rfl⟩
    ·simp[Y3,ho,h1,h2,hg,YB,run_equal_held_nil w t u z hu]
    ·simp[Y3,ho,h1,h2,hg,YB,run_equal_held_nil w t u z hu]
  split at hk
  ·rename_i Cz EV
   exact main _ Cz EV hk (.inl ⟨rfl,rfl⟩)
  ·rename_i Cz EV
   exact main _ Cz EV hk (.inr ⟨rfl,rfl⟩)
  ·cases hk
 ·cases hk
theorem AtO{T:Yr->Ya TI}(hT:TOk P T){kk:K β}{op:Ya6}{t t':Yr}{x y:Y2}(ho:o.op=.binOp op t x y t')(hk:pW T op t (ρ x) (ρ y) kk=Yg r):Sound P o ρ bl kk r:=by
 have Cq:x∈o.op.operands:=by simp[ho,Yt]
 have E6:y∈o.op.operands:=by simp[ho,Yt]
 unfold pW at hk;split at hk
 ·
  rename_i k a k' b hx hy;cases Nw:pV op with
  |true=>
   simp only[Nw,As]at hk;obtain⟨hc,hk⟩:=DN hk;have Eh:¬b<0:=by have:=Bd hc;omega
   refine Sound.pure hk λAb _ ok0 base pl w act hr Ae=>⟨.int k (aT op k a b),?_,rfl⟩;have h1:=Ae x Cq;have h2:=Ae y E6;rw[hx]at h1;rw[hy]at h2;have CB:act.eval x=.int k a:=h1;have EU:act.eval y=.int k' b:=h2;cases op<;>simp only[pV,IQ]at Nw
   ·simp[Y3,ho,CB,EU,eqGuard,YB,Op.shift,Eh,aT]
   ·simp[Y3,ho,CB,EU,eqGuard,YB,Op.shift,Eh,aT]
  |false=>
  simp only[Nw,C7]at hk;split at hk
  ·rename_i OC
   subst OC
   have main:∀(v:Yq)(c:C),kk (.c c) [] []=Yg r->(∀w,(YB op t (.int k a) (.int k b)).run P w=.ok v w)->(∀E,CRep E c v)->Sound P o ρ bl kk r:=by intro v c Fz hv hc;refine Sound.pure Fz λAb _ ok0 base pl w act hr Ae=>⟨v,?_,hc _⟩;have h1:=Ae x Cq;have h2:=Ae y E6;rw[hx]at h1;rw[hy]at h2;have CB:act.eval x=.int k a:=h1;have EU:act.eval y=.int k b:=h2;simp[Y3,ho,CB,EU,AtH,hv]
   unfold Af1 at hk;split at hk
   ·exact main (.int k (k.wrap (a+b))) _ hk (λw=>by simp[YB,YaU]) (λ_=>rfl)
   ·exact main (.int k (k.wrap (a-b))) _ hk (λw=>by simp[YB,YaU]) (λ_=>rfl)
   ·exact main (.int k (k.wrap (a*b))) _ hk (λw=>by simp[YB,YaU]) (λ_=>rfl)
   ·obtain⟨hc,hk⟩:=DN hk
    have hb:b≠0:=by simpa using hc
    exact main (.int k (k.wrap (a.tdiv b))) _ hk (λw=>by simp[YB,Op.intDiv,hb]) (λ_=>rfl)
   ·obtain⟨hc,hk⟩:=DN hk
    have hb:b≠0:=by simpa using hc
    exact main (.int k (a.tmod b)) _ hk (λw=>by simp[YB,Op.intDiv,hb]) (λ_=>rfl)
   ·exact main (.bool (Yd (a=b))) _ hk (λw=>by simp[YB,YaC];rfl) (λ_=>rfl)
   ·exact main (.bool (!Yd (a=b))) _ hk (λw=>by simp[YB,YaC,bne];rfl) (λ_=>rfl)
   ·exact main (.bool (Yd (a<b))) _ hk (λw=>by simp[YB,YaC]) (λ_=>rfl)
   ·exact main (.bool (Yd (a<=b))) _ hk (λw=>by simp[YB,YaC]) (λ_=>rfl)
   ·exact main (.bool (Yd (b<a))) _ hk (λw=>by simp[YB,YaC]) (λ_=>rfl)
   ·exact main (.bool (Yd (b<=a))) _ hk (λw=>by simp[YB,YaC]) (λ_=>rfl)
   ·exact main (.int k (JY .and k a b)) _ hk (λw=>by simp[YB,Op.intBits,JY]) (λ_=>rfl)
   ·exact main (.int k (JY .or k a b)) _ hk (λw=>by simp[YB,Op.intBits,JY]) (λ_=>rfl)
   ·exact main (.int k (JY .xor k a b)) _ hk (λw=>by simp[YB,Op.intBits,JY]) (λ_=>rfl)
   ·exact main (.int k (JY .andNot k a b)) _ hk (λw=>by simp[YB,Op.intBits,JY]) (λ_=>rfl)
   ·cases hk
  ·cases hk
 ·
  rename_i a b hx hy
  have main:∀(v:Yq)(c:C),kk (.c c) [] []=Yg r->(∀w,(YB op t (.string ⟨a.toArray⟩) (.string ⟨b.toArray⟩)).run P w=.ok v w)->(∀E,CRep E c v)->Sound P o ρ bl kk r:=by intro v c Fz hv hc;refine Sound.pure Fz λAb _ ok0 base pl w act hr Ae=>⟨v,?_,hc _⟩;have h1:=Ae x Cq;have h2:=Ae y E6;rw[hx]at h1;rw[hy]at h2;have CB:act.eval x=.string ⟨a.toArray⟩:=h1;have EU:act.eval y=.string ⟨b.toArray⟩:=h2;simp[Y3,ho,CB,EU,AtI,hv]
  have nA:(a==b)=Yd (a=b):=by by_cases h:a=b<;>simp[h]
  unfold Af2 at hk;split at hk
  ·obtain⟨hc,hk⟩:=DN hk
   have BF:=Bd hc;refine main (.string ⟨(a++b).toArray⟩) _ hk (λw=>?_) (λ_=>rfl)
   have Cp:¬(((⟨a.toArray⟩:YP).size+(⟨b.toArray⟩:YP).size:Yn):Yh)>IntKind.i64.max:=by show ¬((a.toArray.size+b.toArray.size:Yn):Yh)>9223372036854775807;simp only[a8];omega
   have AKO:(⟨a.toArray⟩:YP)++⟨b.toArray⟩=⟨(a++b).toArray⟩:=by apply ByteArray.ext;simp
   simp only[YB,Yar];rw[Yy Cp,AKO];rfl
  ·exact main (.bool (Yd (a=b))) _ hk (λw=>by simp[YB,Yar,nA]) (λ_=>rfl)
  ·exact main (.bool (!Yd (a=b))) _ hk (λw=>by simp[YB,Yar,nA]) (λ_=>rfl)
  ·exact main (.bool (Yap a b)) _ hk (λw=>by simp[YB,Yar]) (λ_=>rfl)
  ·exact main (.bool (Yap a b||Yd (a=b))) _ hk (λw=>by simp[YB,Yar,nA]) (λ_=>rfl)
  ·exact main (.bool (!(Yap a b||Yd (a=b)))) _ hk (λw=>by simp[YB,Yar,nA]) (λ_=>rfl)
  ·exact main (.bool (!Yap a b)) _ hk (λw=>by simp[YB,Yar]) (λ_=>rfl)
  ·cases hk
 ·
  rename_i a b hx hy;split at hk
  ·rename_i ti ht
   obtain⟨i,d,z,f⟩:=hT.facts ht;cases Td:ti.isBool with
   |false=>rw[Td]at hk;cases hk
   |true=>
    simp only[Td,As]at hk
    have hu:P.underlying t=Yg .bool:=by
     rw[f.isBool]at Td;unfold bI at Td;split at Td
     ·exact f.under
     ·cases Td
    have main:∀(q:Ys),kk (.c (.bool q)) [] []=Yg r->(∀w,(YB op t (.bool a) (.bool b)).run P w=.ok (.bool q) w)->Sound P o ρ bl kk r:=by intro q Fz hv;refine Sound.pure Fz λAb _ ok0 base pl w act hr Ae=>⟨.bool q,?_,rfl⟩;have h1:=Ae x Cq;have h2:=Ae y E6;rw[hx]at h1;rw[hy]at h2;have CB:act.eval x=.bool a:=h1;have EU:act.eval y=.bool b:=h2;simp[Y3,ho,CB,EU,AtJ,hv]
    split at hk
    ·exact main _ hk λw=>by simp only[YB];simp[Op.equal,YaT,YaS w 9999 t a b hu]
    ·exact main _ hk λw=>by simp only[YB];simp[Op.equal,YaT,YaS w 9999 t a b hu]
    ·cases hk
  ·cases hk
 ·
  rename_i a b hx hy;split at hk
  ·rename_i ti ht
   obtain⟨i,d,z,f⟩:=hT.facts ht;split at hk
   ·rename_i ks Jf
    rw[f.eqs]at Jf
    have main:∀(q q':Ys),C3 ks a b=Yg q->kk (.c (.bool q')) [] []=Yg r->((op=.eql/\q'=q)\/(op=.neq/\q'=!q))->Sound P o ρ bl kk r:=by
     intro q q' hq Fz FE;refine Sound.pure Fz λAb _ ok0 base pl w act hr Ae=>⟨.bool q',?_,rfl⟩;have h1:=Ae x Cq;have h2:=Ae y E6;rw[hx]at h1;rw[hy]at h2;obtain⟨xs,CB,Ad9⟩:=h1;obtain⟨ys,EU,Ada⟩:=h2;simp only[D6]at Ad9 Ada;obtain⟨he,hg⟩:=Afs (P:=P) Jf CB EU hq w;rcases FE with⟨rfl,rfl⟩|⟨rfl,rfl⟩
     ·simp[Y3,ho,Ad9,Ada,run_eqGuard_agg w _ t x y _ _ hg,run_eql_struct,he]
     ·simp[Y3,ho,Ad9,Ada,run_eqGuard_agg w _ t x y _ _ hg,run_neq_struct,he]
    split at hk
    ·rename_i q hq
     exact main _ _ hq hk (.inl ⟨rfl,rfl⟩)
    ·rename_i q hq
     exact main _ _ hq hk (.inr ⟨rfl,rfl⟩)
    ·cases hk
   ·cases hk
  ·cases hk
 ·rename_i hx hy
  exact Afv hT ho hx hy (λE v hv=>by obtain⟨c,rfl⟩:=hv;exact⟨Yf,0,c,rfl,rfl⟩) hk
 ·rename_i e l hx hy
  refine Afv hT ho hx hy (λE v hv=>?_) hk;obtain⟨hd,hn⟩:=hv;simp only[DRep]at hd;obtain⟨A,c,xs,e1,_⟩:=hd;simp only[Dx,Fv]at e1;subst e1;cases A with
  |none=>exact Y7 rfl (hn _ _)
  |some a=>exact⟨Yg a,_,_,rfl,rfl⟩
 ·cases hk
theorem Afw{T:Yr->Ya TI}(hT:TOk P T){kk:K β}{op:Ya6}{t t':Yr}{x:Y2}(ho:o.op=.binOp op t x (.const (.pointer Yf)) t'){b:Ys}(hx:∀E v,VRep E (ρ x) v->∃q,v=.pointer q/\q.isNone=b)(hk:aV T op t b kk=Yg r):Sound P o ρ bl kk r:=by
 have Cq:x∈o.op.operands:=by simp[ho,Yt]
 unfold aV at hk;split at hk
 ·rename_i ti ht
  obtain⟨i,d,z,f⟩:=hT.facts ht
  have main:∀(q:Ys),ti.ptr=Yp->kk (.c (.bool q)) [] []=Yg r->((op=.eql/\q=b)\/(op=.neq/\q=!b))->Sound P o ρ bl kk r:=by
   intro q hp Fz FE;rw[f.ptr]at hp;have hd:∃e,d=.pointer e:=by cases d<;>simp_all [r5]
   obtain⟨e,rfl⟩:=hd;have hu:P.underlying t=Yg (.pointer (P.pointee t)):=by rw[Program.pointee,f.under]
   refine Sound.pure Fz λAb _ ok0 base pl w act hr Ae=>⟨.bool q,?_,rfl⟩;obtain⟨v,h1,hb⟩:=hx _ _ (Ae x Cq);have h2:act.eval (.const (.pointer Yf))=.pointer Yf:=rfl;subst hb;have hg:∀op,eqGuard op t x (.const (.pointer Yf)) (.pointer v) (.pointer Yf)=pure ():=λop=>by cases op<;>rfl
   rcases FE with⟨rfl,rfl⟩|⟨rfl,rfl⟩
   ·simp[Y3,ho,h1,h2,hg,run_eql_pointer_nil w t v hu]
   ·simp[Y3,ho,h1,h2,hg,run_neq_pointer_nil w t v hu]
  split at hk
  ·rename_i hp;exact main _ hp hk (.inl ⟨rfl,rfl⟩)
  ·rename_i hp;exact main _ hp hk (.inr ⟨rfl,rfl⟩)
  ·cases hk
 ·cases hk
theorem AtP{T:Yr->Ya TI}(hT:TOk P T){kk:K β}{op:Ya6}{t t':Yr}{x y:Y2}(ho:o.op=.binOp op t x y t')(hk:pY T op t (ρ x) (ρ y) y kk=Yg r):Sound P o ρ bl kk r:=by
 unfold pY at hk;split at hk
 ·rename_i b hx
  exact AtN hT ho hx hk
 ·rename_i hx
  exact Afw hT ho (b:=Yp) (λE v h=>by rw[hx]at h;exact⟨Yf,h,rfl⟩) hk
 ·rename_i hx
  exact Afw hT ho (b:=Yi) (λE v h=>by rw[hx]at h;obtain⟨_,_,ad,_,e,_⟩:=h;exact⟨Yg ad,e,rfl⟩) hk
 ·exact AtO hT ho hk
end
end Go.Lift
namespace Go.Lift
open Go.RowKit
theorem MRep.length{w:Yx}{ok:Yn->Prop}{k v:Ty}{vg:Ys}:∀{l:Ye (k.den×v.den)}{es:Ye MapEntry},MRep w ok k v vg l es->es.length=l.length
 |[],_,h=>by simp only[MRep]at h;simp[h]
 |_::l,_,⟨e,r,h0,_,_,h4⟩=>by rw[h0,B9,B9,MRep.length h4]
theorem Uw{P:Yw}{t:Yr}{ti:TI}{i:YN}{d:YD}{z:Yq}(f:TFacts P t ti i d z)(h:ti.isStr=Yp):d=.string:=by rw[f.isStr]at h;cases d<;>simp_all [bH]
theorem AtQ(l:Ye Yj)(a b:Yn):(⟨l.toArray⟩:YP).extract a b=⟨((l.take b).drop a).toArray⟩:=by apply ByteArray.ext;apply Io;rw[Lib.extract_data];simp only;rw[List.drop_take]
section
variable{P:Yw}{o:Oper}{ρ:Y2->V}{bl:Yn->Ya Blk}{β:Type}{r:β}
theorem Ux{t:Yr}{ti:TI}{i:YN}{d:YD}{z:Yq}(f:TFacts P t ti i d z)(h:Ka ti=Yp):∃e,d=.slice e:=by
 unfold Ka at h;split at h
 ·rename_i e h1 h2
  exact⟨e,He f h1 h2⟩
 ·cases h
theorem P1{w:Yx}{a:Act}{x:Y2}{c:Call}{t:Yr}(ho:o.op=.call c)(hc:c.callee=.builtin .len)(ha:c.args.toList=[x])(ht:c.argTypes.toList=[t]){v:Yq}(h:(YX #[t] o.type #[a.eval x]).run P w=.ok v w):(Y3 a.eval o).run P w=.ok (.value v) w:=by
 have h1:c.args=#[x]:=by rw[<-GZ (xs:=c.args),ha]
 have h2:c.argTypes=#[t]:=by rw[<-GZ (xs:=c.argTypes),ht]
 simp[Y3,ho,resolve,hc,h1,h2,invoke,builtin,h]
theorem AtR{T:Yr->Ya TI}(hT:TOk P T){kk:K β}{c:Call}(ho:o.op=.call c)(hc:c.callee=.builtin .len){x:Y2}{t:Yr}(ha:c.args.toList=[x])(Cz:c.argTypes.toList=[t])(hk:qC T bl t (ρ x) kk=Yg r):Sound P o ρ bl kk r:=by
 have Cq:x∈o.op.operands:=by
  have h1:c.args=#[x]:=by rw[<-GZ (xs:=c.args),ha]
  simp[ho,Yt,YE,h1]
 unfold qC at hk;split at hk
 ·cases hk
 rename_i ti ht;obtain⟨i,d,z,f⟩:=hT.facts ht;have hu:=f.under;split at hk
 ·rename_i s hx
  cases hs:ti.isStr with
  |false=>rw[hs]at hk;cases hk
  |true=>simp only[hs,As]at hk;have:=Uw f hs;subst this;refine Sound.pure hk λAb _ ok0 base pl w act hr Ae=>⟨_,P1 ho hc ha Cz (v:=.int .i64 (s.length:Yh)) ?_,rfl⟩;have h1:=Ae x Cq;rw[hx]at h1;have CB:act.eval x=.string ⟨s.toArray⟩:=h1;simp[YX,CB,Yu hu,goInt];rfl
 ·rename_i e l hx
  cases hs:Ka ti with
  |false=>rw[hs]at hk;cases hk
  |true=>simp only[hs,As]at hk;obtain⟨et,rfl⟩:=Ux f hs;refine Sound.pure hk λAb _ ok0 base pl w act hr Ae=>⟨_,P1 ho hc ha Cz (v:=.int .i64 (l.length:Yh)) ?_,rfl⟩;have h1:=Ae x Cq;rw[hx]at h1;have CB:DRep w _ (.slice e) l [act.eval x]:=h1;simp only[DRep]at CB;obtain⟨A,cc,xs,hv,_⟩:=CB;simp only[Dx,Fv]at hv;simp[YX,hv,Yu hu,goInt]
 ·rename_i hx
  cases hs:Ka ti with
  |false=>rw[hs]at hk;cases hk
  |true=>simp only[hs,As]at hk;obtain⟨et,rfl⟩:=Ux f hs;refine Sound.pure hk λAb _ ok0 base pl w act hr Ae=>⟨_,P1 ho hc ha Cz (v:=.int .i64 0) ?_,rfl⟩;have h1:=Ae x Cq;rw[hx]at h1;have CB:act.eval x=.slice Yf 0 0:=h1;simp[YX,CB,Yu hu,goInt]
 ·rename_i b ver hx
  split at hk
  ·rename_i t0 e ver' l hb
   cases hs:(Yo ver ver'&&Ka ti)with
   |false=>rw[hs]at hk;cases hk
   |true=>
    obtain⟨AY,Bx⟩:=andB hs;have:=AB AY;subst this;simp only[hs,As]at hk;obtain⟨et,rfl⟩:=Ux f Bx;refine Sound.pure hk λAb Ai ok0 base pl w act hr Ae=>⟨_,P1 ho hc ha Cz (v:=.int .i64 (l.length:Yh)) ?_,rfl⟩;have AE:Ab b=Yg (.row t0 e ver l):=(Ai b (by simp)).trans hb;have hv:=Ae x Cq;rw[hx]at hv;obtain⟨_,sv,Ac,hg,Bg⟩:=hv;have B6:=(Bg t0 e ver l AE).2 rfl;obtain⟨p,hp,hB⟩:=hr.blks b _ AE;have:p=.row sv Ac:=by have h2:pl b=Yg (.row sv Ac):=hg;rw[hp]at h2;injection h2
    subst this;obtain⟨_,xs,Ct,Aq⟩:=hB;rcases Aq.2 with⟨AA,hn⟩|⟨g,cap,Ba,AA,_⟩
    ·simp[YX,B6,AA,Yu hu,goInt,hn]
    ·simp[YX,B6,AA,Yu hu,goInt]
  ·cases hk
 ·rename_i b ver lo hi hx
  split at hk
  ·rename_i t0 e ver' l hb
   cases hs:(Yo ver ver'&&Ka ti)with
   |false=>rw[hs]at hk;cases hk
   |true=>obtain⟨AY,Bx⟩:=andB hs;have:=AB AY;subst this;simp only[hs,As]at hk;obtain⟨et,rfl⟩:=Ux f Bx;refine Sound.pure hk λAb Ai ok0 base pl w act hr Ae=>⟨_,P1 ho hc ha Cz (v:=.int .i64 ((hi-lo:Yn):Yh)) ?_,rfl⟩;have AE:Ab b=Yg (.row t0 e ver l):=(Ai b (by simp)).trans hb;have hv:=Ae x Cq;rw[hx]at hv;obtain⟨_,sv,Ac,hg,Bg⟩:=hv;obtain⟨_,_,A,A',n,cc,_,B6,_⟩:=(Bg t0 e ver l AE).2 rfl;simp[YX,B6,Yu hu,goInt]
  ·cases hk
 ·rename_i b ver p hx
  split at hk
  ·rename_i q hq
   obtain⟨hb,AY,hn⟩:=bP hq;subst AY;cases hs:Ka ti with
   |false=>rw[hs]at hk;cases hk
   |true=>
    simp only[hs,As]at hk;obtain⟨et,rfl⟩:=Ux f hs;refine Sound.pure hk λAb Ai ok0 base pl w act hr Ae=>⟨_,P1 ho hc ha Cz (v:=.int .i64 (q.2.2.2.2.2.length:Yh)) ?_,rfl⟩;have hv:=Ae x Cq;rw[hx]at hv;obtain⟨xs,Aq⟩:=Aty (E:=At ok0 base pl Ab w) hr.blksOk ((Ai b (by simp)).trans hb) hv hn;rcases Aq.2 with⟨AA,hn⟩|⟨g,cap,Ba,AA,_⟩
    ·have hn:q.2.2.2.2.2.length=0:=hn
     simp[YX,AA,Yu hu,goInt,hn]
    ·simp[YX,AA,Yu hu,goInt]
  ·cases hk
 ·rename_i b hx
  split at hk
  ·rename_i t0 k0 v0 vg l mp hb QH
   obtain⟨kt,vt,rfl⟩:∃kt vt,d=.map kt vt:=by have h1:=f.mp;rw[QH]at h1;cases d<;>simp[mpD]at h1;exact⟨_,_,rfl⟩
   refine Sound.pure hk λAb Ai ok0 base pl w act hr Ae=>⟨_,P1 ho hc ha Cz (v:=.int .i64 (l.length:Yh)) ?_,rfl⟩;have AE:Ab b=Yg (.map t0 k0 v0 vg l):=(Ai b (by simp)).trans hb;have hv:=Ae x Cq;rw[hx]at hv;obtain⟨g,hg,B6⟩:=hv;obtain⟨p,hp,hB⟩:=hr.blks b _ AE;have:p=.cells g:=by have h2:pl b=Yg (.cells g):=hg;rw[hp]at h2;injection h2
   subst this;obtain⟨es,CS,hh,hm⟩:=hB
   have AU:es.size=l.length:=by rw[<-Hq];exact hm.length
   simp[YX,B6,Yu hu,goInt,YR (show w.heap[g]?=Yg (.map es CS)from hh),AU,YO]
  ·cases hk
 ·cases hk
theorem KS{E:Env}{a:Act}{lo:Ya Y2}{d n:Yh}(h:IV (lo.map ρ) d=Yg n)(hx:∀x,lo=Yg x->VRep E (ρ x) (a.eval x)):(lo=Yf/\n=d)\/∃x k,lo=Yg x/\a.eval x=.int k n:=by
 cases lo with
 |none=>simp only[Option.map_none,IV,Af]at h;exact .inl ⟨rfl,h.symm⟩
 |some x=>
  simp only[F8,IV]at h;split at h
  ·rename_i k m hm
   simp only[Af]at h;subst h;have h1:=hx x rfl;rw[P0 hm]at h1;exact .inr ⟨x,k,rfl,h1⟩
  ·cases h
theorem bS{k:YT}{n:Yh}{y:Yn}{code:BoundsCode}(h0:0<=n)(h1:n<=(y:Yh))(w:Yx):(Instr.sliceBound (.int k n) y code).run P w=.ok n.toNat w:=by simp[Instr.sliceBound,YaR,h0,h1]
theorem P2{isSl:Ys}{len cap:Yn}{a:Act}{lo hi:Ya Y2}{m n:Yh}(Ew:(lo=Yf/\m=0)\/∃x k,lo=Yg x/\a.eval x=.int k m)(Gl:(hi=Yf/\n=(len:Yh))\/∃x k,hi=Yg x/\a.eval x=.int k n)(h0:0<=m)(h1:m<=n)(h2:n<=(cap:Yh))(w:Yx):(YaI isSl len cap (lo.map a.eval) (hi.map a.eval) Yf).run P w=.ok (m.toNat,n.toNat,cap) w:=by
 have hn:(n.toNat:Yh)=n:=Ybi (by omega);unfold YaI;rcases Ew with⟨rfl,rfl⟩|⟨x,k,rfl,hx⟩<;>rcases Gl with⟨rfl,rfl⟩|⟨y,k',rfl,hy⟩
 ·simp
 ·simp[hy,bS (P:=P) (k:=k') (by omega) h2]
 ·simp[hx,bS (P:=P) (k:=k) h0 h1]
 ·simp[hx,hy,bS (P:=P) (k:=k') (by omega) h2,bS (P:=P) (k:=k) (y:=n.toNat) h0 (by omega)]
theorem rJ{T:Yr->Ya TI}(hT:TOk P T){kk:K β}{t:Yr}{x:Y2}{lo hi:Ya Y2}(ho:o.op=.slice t x lo hi Yf)(hk:TZ T bl t (ρ x) (lo.map ρ) (hi.map ρ) kk=Yg r):Sound P o ρ bl kk r:=by
 have Cq:x∈o.op.operands:=by simp[ho,Yt]
 have XX:∀y,lo=Yg y->y∈o.op.operands:=by rintro y rfl;simp[ho,Yt]
 have Q9:∀y,hi=Yg y->y∈o.op.operands:=by rintro y rfl;simp[ho,Yt]
 unfold TZ at hk;split at hk
 ·cases hk
 rename_i ti ht;obtain⟨i,d,z,f⟩:=hT.facts ht;have hu:=f.under;split at hk
 ·rename_i s hx
  cases hs:ti.isStr with
  |false=>rw[hs]at hk;cases hk
  |true=>
   simp only[hs,As]at hk;have:=Uw f hs;subst this;split at hk
   ·rename_i m n hm hn
    obtain⟨hc,hk⟩:=DN hk;obtain⟨c1,c23⟩:=andB hc;obtain⟨c2,c3⟩:=andB c23;have c1:=Bd c1;have c2:=Bd c2;have c3:=Bd c3;refine Sound.pure hk λAb _ ok0 base pl w act hr Ae=>⟨.string ⟨((s.take n.toNat).drop m.toNat).toArray⟩,?_,rfl⟩;have h1:=Ae x Cq;rw[hx]at h1;have CB:act.eval x=.string ⟨s.toArray⟩:=h1;have Cp:(⟨s.toArray⟩:YP).size=s.length:=rfl;have hb:=P2 (P:=P) (isSl:=Yi) (len:=s.length) (cap:=s.length) (KS hm λy hy=>Ae y (XX y hy)) (KS hn λy hy=>Ae y (Q9 y hy)) c1 c2 c3 w;simp[Y3,ho,Yal,Yu hu,Yaw,CB,Cp,hb,AtQ]
   ·cases hk
 ·rename_i e l hx
  split at hk
  ·rename_i et C8 CC
   have hd:=He f C8 CC;subst hd;split at hk
   ·cases hk
   rename_i te Cg;obtain⟨i',d',z',fe⟩:=hT.facts Cg;cases hs:(Yo e.size te.size&&Y0 0 te.size)with
   |false=>rw[hs]at hk;cases hk
   |true=>
    obtain⟨Bx,AW⟩:=andB hs;have Bx:=AB Bx;simp only[hs,As]at hk;split at hk
    ·rename_i m n hm hn
     obtain⟨hc,hk⟩:=DN hk;obtain⟨c1,c23⟩:=andB hc;obtain⟨c2,c3⟩:=andB c23;have c1:=Bd c1;have c2:=Bd c2;have c3:=Bd c3;refine Sound.pure hk λAb _ ok0 base pl w act hr Ae=>?_;have h1:=Ae x Cq;rw[hx]at h1;have CB:DRep w (At ok0 base pl Ab w).ok (.slice e) l [act.eval x]:=h1;simp only[DRep]at CB;obtain⟨A,cc,xs,hv,BF,FC,HE,DG⟩:=CB;simp only[Dx,Fv]at hv;have hb:=P2 (P:=P) (isSl:=Yp) (len:=l.length) (cap:=cc) (KS hm λy hy=>Ae y (XX y hy)) (KS hn λy hy=>Ae y (Q9 y hy)) c1 c2 (by omega) w;refine⟨.slice (if cc=m.toNat then A else A.map (·.add (m.toNat*te.size))) (n.toNat-m.toNat) (cc-m.toNat),?_,?_⟩
     ·simp[Y3,ho,Yal,Yu hu,Yaw,hv,hb,run_sizeOf fe]
     ·show DRep w (At ok0 base pl Ab w).ok (.slice e) ((l.take n.toNat).drop m.toNat) [_]
      simp only[DRep];have AU:((l.take n.toNat).drop m.toNat).length=n.toNat-m.toNat:=by simp;omega
      refine⟨_,_,(xs.take (n.toNat*e.size)).drop (m.toNat*e.size),by rw[AU],by rw[AU];omega,by omega,(HE.take _).drop _,λj v hj=>?_⟩;rw[Rd,N9]at hj;split at hj
      ·rename_i Ax
       obtain⟨ad,rfl,Zc,GM⟩:=DG _ _ hj;by_cases Ib:cc=m.toNat
       ·exfalso
        have Aru:n.toNat=m.toNat:=by omega
        rw[Aru]at Ax;omega
       ·refine⟨ad.add (m.toNat*te.size),by rw[Yy Ib];rfl,by rw[M7];exact Zc,?_⟩
        rw[ND,<-Bx];exact GM
      ·cases hj
    ·cases hk
  ·cases hk
 ·
  rename_i bb ver hx;split at hk
  ·rename_i et C8 CC
   have hd:=He f C8 CC;subst hd;split at hk
   ·cases hk
   rename_i te Cg;obtain⟨i',d',z',fe⟩:=hT.facts Cg;split at hk
   ·rename_i t0 e ver' l hb
    cases hs:(Yo ver ver'&&(Yo e.size te.size&&Y0 0 te.size))with
    |false=>rw[hs]at hk;cases hk
    |true=>
     obtain⟨AY,Nv⟩:=andB hs;obtain⟨Bx,AW⟩:=andB Nv;have Bx:=AB Bx;have:=AB AY;subst this;simp only[hs,As]at hk;split at hk
     ·rename_i m n hm hn
      obtain⟨hc,hk⟩:=DN hk;obtain⟨c1,c23⟩:=andB hc;obtain⟨c2,c3⟩:=andB c23;have c1:=Bd c1;have c2:=Bd c2;have c3:=Bd c3;refine Sound.pure hk λAb Ai ok0 base pl w act hr Ae=>?_;have AE:Ab bb=Yg (.row t0 e ver l):=(Ai bb (by simp)).trans hb;have h1:=Ae x Cq;rw[hx]at h1;obtain⟨_,sv,Ac,hg,Bg⟩:=h1;have B6:=(Bg t0 e ver l AE).2 rfl;obtain⟨p,hp,hB⟩:=hr.blks bb _ AE;have:p=.row sv Ac:=by have h2:pl bb=Yg (.row sv Ac):=hg;rw[hp]at h2;injection h2
      subst this;obtain⟨_,xs,Ct,Aq⟩:=hB
      obtain⟨A,cc,AA,BF⟩:∃A cc,sv=.slice A l.length cc/\l.length<=cc:=by
       rcases Aq.2 with⟨AA,hn⟩|⟨g,cap,Ba,AA,_,_,FD,_⟩
       ·exact⟨Yf,0,by rw[AA,hn],by omega⟩
       ·exact⟨_,cap,AA,FD⟩
      have Dz:=P2 (P:=P) (isSl:=Yp) (len:=l.length) (cap:=cc) (KS hm λy hy=>Ae y (XX y hy)) (KS hn λy hy=>Ae y (Q9 y hy)) c1 c2 (by omega) w;refine⟨.slice (if cc=m.toNat then A else A.map (·.add (m.toNat*te.size))) (n.toNat-m.toNat) (cc-m.toNat),?_,rfl,sv,Ac,hp,λt1 e1 Da l1 BE=>?_⟩
      ·simp[Y3,ho,Yal,Yu hu,Yaw,B6,AA,Dz,run_sizeOf fe]
      ·have E3:Ab bb=Yg (.row t1 e1 Da l1):=BE
       rw[AE]at E3;injection E3 with E3;injection E3 with q1 q2 q3 q4;subst q2 q3;simp only[Jx]at q4;subst q4;refine⟨Av _,λ_=>⟨by omega,by omega,A,_,l.length,cc,AA,rfl,λAx=>?_,λh0=>?_⟩⟩
       ·rw[Yy (by omega),Bx]
       ·rw[h0]
        split
        ·rfl
        ·cases A<;>simp[Ya4]
     ·cases hk
   ·cases hk
  ·cases hk
 ·
  rename_i bb ver Nx Nm hx;split at hk
  ·rename_i et C8 CC
   have hd:=He f C8 CC;subst hd;split at hk
   ·cases hk
   rename_i te Cg;obtain⟨i',d',z',fe⟩:=hT.facts Cg;split at hk
   ·rename_i t0 e ver' l hb
    cases hs:(Yo ver ver'&&(Yo e.size te.size&&Y0 0 te.size))with
    |false=>rw[hs]at hk;cases hk
    |true=>
     obtain⟨AY,Nv⟩:=andB hs;obtain⟨Bx,AW⟩:=andB Nv;have Bx:=AB Bx;have:=AB AY;subst this;simp only[hs,As]at hk;split at hk
     ·rename_i m n hm hn
      obtain⟨hc,hk⟩:=DN hk;obtain⟨c1,c23⟩:=andB hc;obtain⟨c2,c3⟩:=andB c23;have c1:=Bd c1;have c2:=Bd c2;have c3:=Bd c3;refine Sound.pure hk λAb Ai ok0 base pl w act hr Ae=>?_;have AE:Ab bb=Yg (.row t0 e ver l):=(Ai bb (by simp)).trans hb;have h1:=Ae x Cq;rw[hx]at h1;obtain⟨_,sv,Ac,hg,Bg⟩:=h1;obtain⟨r1,r2,A,A',nn,cc,AA,B6,hA,hA0⟩:=(Bg t0 e ver l AE).2 rfl;obtain⟨p,hp,hB⟩:=hr.blks bb _ AE;have:p=.row sv Ac:=by have h2:pl bb=Yg (.row sv Ac):=hg;rw[hp]at h2;injection h2
      subst this;obtain⟨_,xs,Ct,Aq⟩:=hB
      have BF:l.length<=cc:=by
       rcases Aq.2 with⟨Dt,hn⟩|⟨g,cap,Ba,Dt,_,_,FD,_⟩
       ·omega
       ·rw[AA]at Dt;injection Dt with _ _ e3;omega
      have Dz:=P2 (P:=P) (isSl:=Yp) (len:=Nm-Nx) (cap:=cc-Nx) (KS hm λy hy=>Ae y (XX y hy)) (KS hn λy hy=>Ae y (Q9 y hy)) c1 c2 (by omega) w;refine⟨.slice (if cc-Nx=m.toNat then A' else A'.map (·.add (m.toNat*te.size))) (n.toNat-m.toNat) (cc-Nx-m.toNat),?_,rfl,sv,Ac,hp,λt1 e1 Da l1 BE=>?_⟩
      ·simp[Y3,ho,Yal,Yu hu,Yaw,B6,Dz,run_sizeOf fe]
      ·have E3:Ab bb=Yg (.row t1 e1 Da l1):=BE
       rw[AE]at E3;injection E3 with E3;injection E3 with q1 q2 q3 q4;subst q2 q3;simp only[Jx]at q4;subst q4;have e1:Nx+n.toNat-(Nx+m.toNat)=n.toNat-m.toNat:=by omega
       have e2:cc-Nx-m.toNat=cc-(Nx+m.toNat):=by omega
       refine⟨Av _,λ_=>⟨by omega,by omega,A,_,nn,cc,AA,by rw[e1,e2],λAx=>?_,λh0=>?_⟩⟩
       ·rw[Yy (by omega),hA (by omega),<-Bx]
        cases A with
        |none=>rfl
        |some ad=>simp only[F8,ND];rw[LC]
       ·have h1:Nx=0:=by omega
        have h2:m.toNat=0:=by omega
        rw[h2];split
        ·exact hA0 h1
        ·rw[hA0 h1]
         cases A<;>simp[Ya4]
     ·cases hk
   ·cases hk
  ·cases hk
 ·
  rename_i b off hx;split at hk
  ·rename_i et n C8 CC Ew Gl
   have hd:=rG f C8 CC;subst hd;have Ew:lo=Yf:=by cases lo<;>simp_all
   have Gl:hi=Yf:=by cases hi<;>simp_all
   subst Ew Gl;split at hk
   ·cases hk
   rename_i te Cg;obtain⟨i',d',z',fe⟩:=hT.facts Cg;split at hk
   ·rename_i e he
    cases hs:(Yo e.size te.size&&Y0 0 n)with
    |false=>rw[hs]at hk;cases hk
    |true=>obtain⟨Bx,AW⟩:=andB hs;have AW:0<n:=IP AW;simp only[hs,As]at hk;refine Sound.pure hk λAb _ ok0 base pl w act hr Ae=>?_;have h1:=Ae x Cq;rw[hx]at h1;obtain⟨g,hg,hv⟩:=h1;have hb:=P2 (P:=P) (isSl:=Yi) (len:=n) (cap:=n) (a:=act) (lo:=Yf) (hi:=Yf) (m:=0) (n:=(n:Yh)) (.inl ⟨rfl,rfl⟩) (.inl ⟨rfl,rfl⟩) (by omega) (by omega) (by omega) w;refine⟨.slice (Yg ⟨g,off,Yf⟩) n n,?_,g,hg,rfl⟩;simp only[Option.map_none,Int.toNat_zero,Bh]at hb;simp[Y3,ho,Yal,Yu hu,Yau,hv,hb,run_sizeOf fe,Nat.ne_of_gt AW,Ya4]
   ·cases hk
  ·cases hk
 ·
  rename_i hx;split at hk
  ·rename_i et C8 CC
   have hd:=He f C8 CC;subst hd;split at hk
   ·cases hk
   rename_i te Cg;obtain⟨i',d',z',fe⟩:=hT.facts Cg;split at hk
   ·rename_i m n hm hn
    obtain⟨hc,hk⟩:=DN hk;obtain⟨c1,c23⟩:=andB hc;obtain⟨c2,c3⟩:=andB c23;have c1:=Bd c1;have c2:=Bd c2;have c3:=Bd c3;refine Sound.pure hk λAb Ai ok0 base pl w act hr Ae=>⟨.slice Yf 0 0,?_,rfl⟩;have h1:=Ae x Cq;rw[hx]at h1;have B6:act.eval x=.slice Yf 0 0:=h1;have Dz:=P2 (P:=P) (isSl:=Yp) (len:=0) (cap:=0) (KS hm λy hy=>Ae y (XX y hy)) (KS hn λy hy=>Ae y (Q9 y hy)) c1 c2 (by omega) w;have ALC:m=0:=by omega
    have JK:n=0:=by omega
    subst ALC JK;simp[Y3,ho,Yal,Yu hu,Yaw,B6,Dz,run_sizeOf fe]
   ·cases hk
  ·cases hk
 ·cases hk
theorem Uy{w:Yx}{b b':Yn}{e:Yr}{size:Yn}{v:Yq}{n:Yn}{xs:Ye Yq}(h:w.ownsRow b e size v n xs)(hb:b'<=b):w.ownsRow b' e size v n xs:=by
 refine⟨h.1,?_⟩;rcases h.2 with h2|⟨g,cap,Ba,hv,hg,r⟩
 ·exact .inl h2
 ·exact .inr ⟨g,cap,Ba,hv,DC hb hg,r⟩
def Reads(w:Yx)(okI:Yn->Prop)(e:Ty)(l:Ye e.den)(src:Yq):Prop:=
 ∃A c ys,src=.slice A l.length c/\l.length<=c/\c<=Yaj/\DList (λx u=>DRep w okI e x u) l ys/\∀j v,ys[j]?=Yg v->∃ad,A=Yg ad/\w.cell? (ad.add j)=Yg v
theorem rK{w:Yx}{ok:Yn->Prop}(base:Yn){t ty et:Yr}{te:TI}{i:YN}{d:YD}{z:Yq}(fe:TFacts P et te i d z)(ht:P.underlying t=Yg (.slice et)){e:Ty}(Ie:e.size=te.size)(Ih:0<te.size)(G6:0<te.bytes){v:Yq}{n:Yn}{xs:Ye Yq}(Aq:w.ownsRow base et e.size v n xs){src:Yq}{l:Ye e.den}(FN:Reads w ok e l src)(DK:(n+l.length)*te.bytes<=AR)(Cs:base<=w.heap.size):∃v' w' ys,(YH #[t,t] ty #[v,src]).run P w=.ok v' w'/\w'.ownsRow base et e.size v' (n+l.length) (xs++ys)/\w.grownBy w' v.ownBlock/\(v'.ownBlock=v.ownBlock\/v'.ownBlock=Yg w.heap.size)/\DList (λx u=>DRep w ok e x u) l ys:=by
 have KI:i.size=e.size:=by rw[<-fe.size,Ie]
 have Ms:z.cells.size=e.size:=by have:=fe.len;rw[Hq]at this;rw[this,KI]
 obtain⟨A,c,ys,rfl,BF,FC,hd,DG⟩:=FN;have hl:ys.length=l.length*e.size:=hd.length;have h1:=hd.oneCell;have AdW:(n+l.length)*i.bytes<=140737488355328:=by rw[<-fe.bytes];exact DK
 have O6:n+l.length<=Yaj:=by have h2:n+l.length<=(n+l.length)*te.bytes:=p9 _ G6;simp only[AR]at DK;simp only[Yaj];omega
 cases A with
 |some ad=>
  obtain⟨v',w',AJ,h2,h3,_,h5⟩:=run_append_own_at (P:=P) w base t ty et i z e.size i.bytes ht fe.info fe.zero KI rfl Ms (by omega) v n xs Aq ad l.length c ys hl
   (λj u hj=>by obtain⟨Ad7,ha,hc⟩:=DG j u hj;injection ha with ha;subst ha;exact hc) h1 O6 AdW Cs
  exact⟨v',w',ys,AJ,h2,h3,h5,hd⟩
 |none=>
  have hy:ys=[]:=by
   cases ys with
   |nil=>rfl
   |cons y ys=>obtain⟨ad,ha,_⟩:=DG 0 y rfl;cases ha
  subst hy
  have GT:l.length=0:=by
   rcases ZW l.length with h0|h0
   ·exact h0
   ·have:0<l.length*e.size:=Nat.mul_pos h0 (by omega)
    simp at hl;omega
  refine⟨v,w,[],?_,by simpa [GT]using Aq,⟨rfl,rfl,rfl,Av _,λ_ _ _=>rfl⟩,.inl rfl,hd⟩;rcases Aq.2 with⟨rfl,rfl⟩|⟨g,cap,Ba,rfl,_,_,FD,_⟩
  ·simp[YH,Yu ht,Yak,Yaa,fe.info,Yao,YU,GT]
  ·simp[YH,Yu ht,Yak,Yaa,fe.info,Yao,YU,GT,FD,Ybb]
theorem Reads.of_own{w:Yx}{okI:Yn->Prop}{base:Yn}{t:Yr}{e:Ty}{l:Ye e.den}{sv:Yq}{xs:Ye Yq}(hd:DList (λx u=>DRep w okI e x u) l xs)(ho:w.ownsRow base t e.size sv l.length xs):Reads w okI e l sv:=by
 have Aq:=ho;rcases ho.2 with⟨rfl,hn⟩|⟨g,cap,Ba,rfl,Cs,hh,FD,FC,De,Jr⟩
 ·have hl:l=[]:=JV hn
  subst hl;simp only[DList]at hd;subst hd;exact⟨Yf,0,[],rfl,by simp,by simp[Yaj],rfl,by simp⟩
 ·exact⟨Yg ⟨g,0,Yf⟩,cap,xs,rfl,FD,FC,hd,λj u hj=>⟨_,rfl,Aq.cells (g:=g) rfl j u hj⟩⟩
theorem R5{E:Env}{blp:Yn->Ya Blk}(hb:Ez E){e:Ty}{y:V}{l:Ye e.den}{rd:Ye Yn}(h:Rr blp e y=Yg (l,rd))(AX:∀b∈rd,∀B,blp b=Yg B->E.bl b=Yg B){v:Yq}(hv:VRep E y v):Reads E.w E.ok e l v:=by
 unfold Rr at h;split at h
 ·simp only[Af,Cb]at h
  obtain⟨rfl,_⟩:=h;have:v=.slice Yf 0 0:=hv;subst this;exact⟨Yf,0,[],rfl,by simp,by simp[Yaj],rfl,by simp⟩
 ·split at h
  ·rename_i he
   subst he;simp only[Af,Cb]at h;obtain⟨rfl,_⟩:=h;have C6:DRep E.w E.ok (.slice _) _ [v]:=hv;simp only[DRep]at C6;obtain⟨A,c,xs,e1,hl,hc,hd,hx⟩:=C6;simp only[Dx,Fv]at e1;exact⟨A,c,xs,e1,hl,hc,hd,λj u hj=>by obtain⟨ad,h1,_,h2⟩:=hx j u hj;exact⟨ad,h1,h2⟩⟩
  ·cases h
 ·split at h
  ·rename_i he
   subst he;simp only[Af,Cb]at h;obtain⟨rfl,_⟩:=h;have C6:DRep E.w E.ok (.slice _) _ [v]:=(show _/\_ from hv).1;simp only[DRep]at C6;obtain⟨A,c,xs,e1,hl,hc,hd,hx⟩:=C6;simp only[Dx,Fv]at e1;exact⟨A,c,xs,e1,hl,hc,hd,λj u hj=>by obtain⟨ad,h1,_,h2⟩:=hx j u hj;exact⟨ad,h1,h2⟩⟩
  ·cases h
 ·rename_i b ver
  cases hr:IU blp b ver e with
  |none=>rw[hr]at h;cases h
  |some l'=>rw[hr]at h;simp only[F8,Af,Cb]at h;obtain⟨rfl,rfl⟩:=h;obtain⟨t,sv,xs,Ap,Bp,rfl,hd,ho⟩:=r7 hb (λt e ver l h=>AX b (by simp) _ h) hr hv;exact Reads.of_own hd ho
 ·rename_i b ver i j
  cases hr:IU blp b ver e with
  |none=>rw[hr]at h;cases h
  |some l'=>rw[hr]at h;simp only[F8,Af,Cb]at h;obtain⟨rfl,rfl⟩:=h;obtain⟨t,sv,xs,hB,Ap,Bp,hd,ho⟩:=bK hb (λt e ver l h=>AX b (by simp) _ h) hr;obtain⟨_,sv2,L0,Gn,Bg⟩:=hv;rw[Bp]at Gn;injection Gn with Gn;injection Gn with Gn _;subst Gn;obtain⟨A,c,ys,q1,q2,q3,q4,q5⟩:=r8 ((Bg _ _ _ _ Ap).2 rfl) hd ho;exact⟨A,c,ys,q1,q2,q3,q4,λk u hk=>by obtain⟨ad,r1,_,r3⟩:=q5 k u hk;exact⟨ad,r1,r3⟩⟩
 ·cases h
theorem Uz{w w':Yx}{a:Act}{x y:Y2}{c:Call}{t:Yr}(ho:o.op=.call c)(hc:c.callee=.builtin .append)(ha:c.args.toList=[x,y])(ht:c.argTypes.toList=[t,t]){v:Yq}(h:(YH #[t,t] o.type #[a.eval x,a.eval y]).run P w=.ok v w'):(Y3 a.eval o).run P w=.ok (.value v) w':=by
 have h1:c.args=#[x,y]:=by rw[<-GZ (xs:=c.args),ha]
 have h2:c.argTypes=#[t,t]:=by rw[<-GZ (xs:=c.argTypes),ht]
 simp[Y3,ho,resolve,hc,h1,h2,invoke,builtin,h]
theorem AtS{T:Yr->Ya TI}(hT:TOk P T){kk:K β}{c:Call}(ho:o.op=.call c)(hc:c.callee=.builtin .append){x y:Y2}{t:Yr}{nx:Yn}(ha:c.args.toList=[x,y])(Cz:c.argTypes.toList=[t,t])(hk:qM T bl nx t (ρ x) (ρ y) kk=Yg r):Sound P o ρ bl kk r:=by
 have Bv:c.args=#[x,y]:=by rw[<-GZ (xs:=c.args),ha]
 have Cq:x∈o.op.operands:=by simp[ho,Yt,YE,Bv]
 have E6:y∈o.op.operands:=by simp[ho,Yt,YE,Bv]
 unfold qM at hk;split at hk
 ·cases hk
 rename_i ti ht;obtain⟨i,d,z,f⟩:=hT.facts ht;split at hk
 ·rename_i et C8 CC
  have hd:=He f C8 CC;subst hd;split at hk
  ·cases hk
  rename_i te Cg;obtain⟨i',d',z',fe⟩:=hT.facts Cg;split at hk
  ·cases hk
  rename_i e Tf;cases hs:(Yo e.size te.size&&(Y0 0 te.size&&Y0 0 te.bytes))with
  |false=>rw[hs]at hk;cases hk
  |true=>
   obtain⟨Bx,Ls⟩:=andB hs;obtain⟨AW,E5⟩:=andB Ls;have Bx:=AB Bx;have AW:=Ea AW;have E5:=Ea E5;simp only[hs,As]at hk;split at hk
   ·cases hk
   rename_i new rd FN;split at hk
   ·
    rename_i hx;split at hk
    ·rename_i hn
     obtain⟨DK,hk⟩:=DN hk;have DK:=Bd DK;refine⟨_,_,_,hk,λAb Ai=>?_⟩;have Dq:Ab nx=Yf:=(Ai nx (by simp)).trans hn;intro ok0 base pl w a hr Ae K Q hK;have hv:a.eval x=.slice Yf 0 0:=by have:=Ae x Cq;rw[hx]at this;exact this
     have FM:Reads w (At ok0 base pl Ab w).ok e new (a.eval y):=R5 hr.blksOk FN (λb hb B hB=>(Ai b (by simp[hb])).trans hB) (Ae y E6);obtain⟨v',w',ys,AJ,Aq,Do,Mk,HE⟩:=rK (P:=P) w.heap.size fe f.under (ty:=o.type) Bx AW E5 (YL w w.heap.size et e.size) FM (by simpa using DK) (Av _);have XO:w.grownBy w' Yf:=Do;have hp:∀g,(Pl.row v' []).has g->w.heap.size<=g:=λg hg=>(Aq.lt g (Pl.has_row hg)).1;have Ce:Step pl Ab w (upd pl nx (.row v' [])) (upd Ab nx (.row et e 0 new)) w':=Step.new hr Dq XO hp;refine HR (Uz ho hc ha Cz (by rw[hv];exact AJ)) (hK v' (upd pl nx (.row v' [])) w' ?_ Ce ?_)
     ·refine RelB.new hr Dq XO hp ⟨rfl,ys,HE.mono λx u hu=>hu.mono Ce.ext.heap,?_⟩
      simp only[DZ,GA]at Aq;exact Uy Aq hr.baseLe
     ·refine⟨?_,v',[],by simp[At,upd],λt1 e1 Da l1 h1=>?_⟩
      ·rcases Aq.2 with⟨rfl,_⟩|⟨g,cap,Ba,rfl,_⟩<;>rfl
      ·simp only[At,updL,upd,D6,Af]at h1
       injection h1 with q1 q2 q3 q4;subst q3;exact⟨Av _,λ_=>rfl⟩
    ·cases hk
   ·
    rename_i b ver hx;split at hk
    ·rename_i t0 e0 ver' l hb
     cases Ae5:(Yo ver ver'&&Yo t0 et)with
     |false=>rw[Ae5]at hk;cases hk
     |true=>
      obtain⟨AY,Zn⟩:=andB Ae5;have:=AB AY;subst this;have:=AB Zn;subst this;simp only[Ae5,As]at hk;split at hk
      ·rename_i he
       subst he;obtain⟨DK,hk⟩:=DN hk;have DK:=Bd DK;refine⟨_,_,_,hk,λAb Ai=>?_⟩;have AE:Ab b=Yg (.row t0 e0 ver l):=(Ai b (by simp)).trans hb;intro ok0 base pl w a hr Ae K Q hK;have hv:=Ae x Cq;rw[hx]at hv;obtain⟨_,sv,Ac,hg,Bg⟩:=hv;have B6:=(Bg t0 e0 ver l AE).2 rfl;obtain⟨p,hp,hB⟩:=hr.blks b _ AE;have:p=.row sv Ac:=by have h2:pl b=Yg (.row sv Ac):=hg;rw[hp]at h2;injection h2
       subst this;obtain⟨h0,xs,Ct,ALR⟩:=hB;subst h0;have FM:Reads w (At ok0 base pl Ab w).ok e0 new (a.eval y):=R5 hr.blksOk FN (λb hb B hB=>(Ai b (by simp[hb])).trans hB) (Ae y E6);obtain⟨v',w',ys,AJ,Aq,Do,Mk,HE⟩:=rK (P:=P) base fe f.under (ty:=o.type) Bx AW E5 ALR FM DK hr.baseLe
       have Aro:v'.ownBlock=sv.ownBlock\/∀g,v'.ownBlock=Yg g->w.heap.size<=g:=by
        rcases Mk with h|h
        ·exact .inl h
        ·exact .inr λg hg=>by rw[h]at hg;injection hg with hg;exact M4 hg
       have Ce:=Step.grown (l':=l++new) (ver':=ver+1) hr AE hp Do Aro ⟨by omega,λh=>by omega⟩;refine HR (Uz ho hc ha Cz (by rw[B6];exact AJ)) (hK v' (upd pl b (.row v' [])) w' ?_ Ce ?_)
       ·refine RelB.grown hr AE hp Do Aro ⟨by omega,λh=>by omega⟩ ⟨rfl,xs++ys,(Ct.mono λx u hu=>hu.mono Ce.ext.heap).append (HE.mono λx u hu=>hu.mono Ce.ext.heap),?_⟩
        rw[AQ];exact Aq
       ·refine⟨?_,v',[],by simp[At,upd],λt1 e1 Da l1 h1=>?_⟩
        ·rcases Aq.2 with⟨rfl,_⟩|⟨g,cap,Ba,rfl,_⟩<;>rfl
        ·simp only[At,updL,upd,D6,Af]at h1
         injection h1 with q1 q2 q3 q4;subst q3;exact⟨Av _,λ_=>rfl⟩
      ·cases hk
    ·cases hk
   ·cases hk
 ·cases hk
end
end Go.Lift
namespace Go.Lift
open Go.RowKit
theorem Afx(off:Yn):∀(vs:Ye Yq)(k:Yn)(cs:YQ Yq),off+k+vs.length<=cs.size->((vs.zipIdx k).foldl (λ(cs:YQ Yq)(p:Yq×Yn)=>cs.setIfInBounds (off+p.2) p.1) cs).toList=cs.toList.take (off+k)++vs++cs.toList.drop (off+k+vs.length)
 |[],k,cs,h=>by simp
 |v::vs,k,cs,h=>by simp only[List.zipIdx_cons,TP];simp only[B9]at h;rw[Afx off vs (k+1) _ (by simp;omega)];have e:=list_seg_step cs.toList (off+k) v vs (by simp;omega);simpa [Array.toList_setIfInBounds,TQ]using e
theorem Afy(off:Yn)(v:Yq)(cs:YQ Yq)(h:off+v.cells.toList.length<=cs.size):(v.cells.zipIdx.foldl (λcs(c,j)=>cs.setIfInBounds (off+j) c) cs)=(cs.toList.take off++v.cells.toList++cs.toList.drop (off+v.cells.toList.length)).toArray:=by
 apply Io;have h1:=Afx off v.cells.toList 0 cs (by simpa using h);simp only[Rj]at h1;rw[<-Array.foldl_toList];simpa using h1
section
variable{P:Yw}{o:Oper}{ρ:Y2->V}{bl:Yn->Ya Blk}{β:Type}{r:β}
theorem rL{E:Env}{T:Yr->Ya TI}(place:Yn->Ya (Yn×Yn))(ti:TI)(ALY:∀i v cs0 rest ps,Hu ti T ((i,v)::rest)=Yg ps->v.cells=Yg cs0->∃off,place i=Yg (off,cs0.length)/\∃Il,Hu ti T rest=Yg Il/\ps=(off,cs0)::Il):∀(parts:Ye (Yn×V))(Bw:Ye (Yn×Yq))(ps:Ye (Yn×Ye C))(cs cs':Ye C)(vs:Ye Yq),Hu ti T parts=Yg ps->Bw.map (·.1)=parts.map (·.1)->(∀(j:Yn)(p:Yn×V)(q:Yn×Yq),parts[j]?=Yg p->Bw[j]?=Yg q->VRep E p.2 q.2)->CReps E cs vs->NE cs ps=Yg cs'->∃us,YaD place vs.toArray Bw=Yg us.toArray/\CReps E cs' us:=by
 intro parts
 induction parts with
 |nil=>
  intro Bw ps cs cs' vs hp hm hv hc hf;simp only[Hu,Af]at hp;subst hp;simp only[NE,Af]at hf;subst hf;cases Bw with
  |nil=>exact⟨vs,rfl,hc⟩
  |cons q Bw=>simp at hm
 |cons p parts ih=>
  intro Bw ps cs cs' vs hp hm hv hc hf;obtain⟨i,v⟩:=p;cases Bw with
  |nil=>simp at hm
  |cons q Bw=>
   obtain⟨i',x⟩:=q;simp only[CH,Dx]at hm;obtain⟨hi,hm⟩:=hm;have hi:i'=i:=hi;subst hi
   have Tw:∃cs0,v.cells=Yg cs0:=by
    simp only[Hu]at hp;cases Tw:v.cells with
    |some cs0=>exact⟨cs0,rfl⟩
    |none=>rw[Tw]at hp;simp at hp
   obtain⟨cs0,Tw⟩:=Tw;obtain⟨off,h1,Il,h2,rfl⟩:=ALY i' v cs0 parts ps hp Tw;simp only[NE]at hf;split at hf
   ·rename_i cs1 Jo
    have hx:=VRep.cells_of Tw (hv 0 _ _ rfl rfl);have F4:=hx.length;obtain⟨s1,s2⟩:=Uq hc hx Jo;obtain⟨us,h3,h4⟩:=ih Bw Il cs1 cs' _ h2 hm (λj p q hp hq=>hv (j+1) p q (by simpa using hp) (by simpa using hq)) s1 hf;refine⟨us,?_,h4⟩;simp only at F4 s2 h3;have Cp:x.cells.size=cs0.length:=by simpa using F4
    have AMg:¬(off+x.cells.size>vs.toArray.size):=by simp at s2⊢;omega
    simp only[YaD,h1];rw[Yy (by simp only[Cp,ne_eq,ZZ,decide_false,Ph,Jv];rw[<-Cp];exact AMg),Afy off x vs.toArray (by simpa using s2)];exact h3
   ·cases hf
theorem AtT(fs:Ye Field)(hk:fs.all (λf=>(P.info? f.type).isSome&&(P.underlying f.type).isSome)=Yp)(w:Yx):(fs.mapM λf=>(do pure (f.offset,<-Yak f.type):Sem (Yn×Yn))).run P w=.ok (fs.map λf=>(f.offset,P.cellsOf f.type)) w:=by
 induction fs with
 |nil=>rfl
 |cons f fs ih=>
  simp only[Rh,Dk]at hk;obtain⟨⟨h1,_⟩,h2⟩:=hk;obtain⟨i,hi⟩:=p8.1 h1;have hs:(Yak f.type).run P w=.ok (P.cellsOf f.type) w:=by simp[Yak,Yaa,hi,YaJ]
  simp only[List.mapM_cons,YC,hs,Y9,YY,ih (by simpa using h2),CH]
theorem AtU{ti:TI}{T:Yr->Ya TI}(AU:ti.len=Yf){i:Yn}{v:V}{cs0:Ye C}{rest:Ye (Yn×V)}{ps:Ye (Yn×Ye C)}(h:Hu ti T ((i,v)::rest)=Yg ps)(hv:v.cells=Yg cs0):∃off g,ti.flds[i]?=Yg (off,cs0.length,g)/\∃Il,Hu ti T rest=Yg Il/\ps=(off,cs0)::Il:=by
 simp only[Hu,hv,AU]at h;split at h
 ·rename_i cs1 Aep he hr
  simp only[Af]at he;subst he;split at h
  ·rename_i off n g hf
   cases hb:Yo cs0.length n with
   |false=>rw[hb]at h;cases h
   |true=>have:=AB hb;subst this;simp only[hb,As,Af]at h;exact⟨off,g,hf,Aep,hr,h.symm⟩
  ·cases h
 ·cases h
theorem Afz{ti:TI}{T:Yr->Ya TI}{n:Yn}{e:Yr}{te:TI}(AU:ti.len=Yg n)(C8:ti.elem=Yg e)(Cg:T e=Yg te){i:Yn}{v:V}{cs0:Ye C}{rest:Ye (Yn×V)}{ps:Ye (Yn×Ye C)}(h:Hu ti T ((i,v)::rest)=Yg ps)(hv:v.cells=Yg cs0):cs0.length=te.size/\∃Il,Hu ti T rest=Yg Il/\ps=(i*te.size,cs0)::Il:=by
 simp only[Hu,hv,AU,C8,Cg]at h;split at h
 ·rename_i cs1 Aep he hr
  simp only[Af]at he;subst he;cases hb:Yo cs0.length te.size with
  |false=>rw[hb]at h;cases h
  |true=>simp only[hb,As,Af]at h;exact⟨AB hb,Aep,hr,h.symm⟩
 ·cases h
theorem AtV{T:Yr->Ya TI}(hT:TOk P T){kk:K β}{t:Yr}{parts:YQ (Yn×Y2)}(ho:o.op=.build t parts){ti:TI}(ht:T t=Yg ti)(Fo:ti.agg=Yp){ps:Ye (Yn×Ye C)}(hp:Hu ti T (parts.toList.map λp=>(p.1,ρ p.2))=Yg ps){cs:Ye C}(hf:NE ti.zero ps=Yg cs)(hk:kk (.agg cs) [] []=Yg r):Sound P o ρ bl kk r:=by
 obtain⟨i,d,z,f⟩:=hT.facts ht;have hu:=f.under;refine Sound.pure hk λAb _ ok0 base pl w a hr Ae=>?_;have Zw:CReps (At ok0 base pl Ab w) ti.zero z.cells.toList:=by rw[f.zeroC];exact NH f.one
 have OR:∀(j:Yn)(p:Yn×V)(q:Yn×Yq),(parts.toList.map λp=>(p.1,ρ p.2))[j]?=Yg p->(parts.toList.map λp=>(p.1,a.eval p.2))[j]?=Yg q->VRep (At ok0 base pl Ab w) p.2 q.2:=by
  intro j p q h1 h2;rw[Gz]at h1 h2;cases hj:parts.toList[j]? with
  |none=>rw[hj]at h1;cases h1
  |some x=>rw[hj]at h1 h2;simp only[F8,Af]at h1 h2;subst h1 h2;exact Ae x.2 (by simp only[ho,Yt];exact pK.2 (Hb.2 ⟨x,Dg hj,rfl⟩))
 have Ml:(parts.toList.map λp=>(p.1,a.eval p.2)).map (·.1)=(parts.toList.map λp=>(p.1,ρ p.2)).map (·.1):=by simp
 rw[f.agg]at Fo;unfold J3 at Fo;rw[hu]at Fo;cases d<;>try(simp at Fo;done)
 ·
  rename_i n e;have C8:ti.elem=Yg e:=by rw[f.elem];rfl
  have AU:ti.len=Yg n:=by rw[f.alen];rfl
  have DV:=f.known;simp only[R3,Dk]at DV;obtain⟨ie,Arf⟩:=p8.1 DV.1;have Cp:(Yak e).run P w=.ok ie.size w:=by simp[Yak,Yaa,Arf]
  cases Ns:(parts.toList.map λp=>(p.1,ρ p.2))with
  |nil=>
   rw[Ns]at hp;simp only[Hu,Af]at hp;subst hp;simp only[NE,Af]at hf;subst hf;have XK:parts.toList=[]:=by simpa using Ns
   have nX:parts=#[]:=by simpa using XK
   exact⟨.agg z.cells,by simp[Y3,ho,Instr.build,Yaz,Yaa,f.info,f.zero,Yu hu,Cp,nX,YaD],z.cells.toList,Zw,by simp⟩
  |cons p0 rest=>
   have Cg:∃te,T e=Yg te:=by
    rw[Ns]at hp;obtain⟨i0,v0⟩:=p0;simp only[Hu,AU,C8]at hp;cases Cg:T e with
    |some te=>exact⟨te,rfl⟩
    |none=>rw[Cg]at hp;split at hp<;>simp at hp
   obtain⟨te,Cg⟩:=Cg;obtain⟨i',d',z',fe⟩:=hT.facts Cg
   have Ie:ie.size=te.size:=by have h1:=fe.info;rw[Arf]at h1;injection h1 with h1;rw[fe.size,h1]
   obtain⟨us,h1,h2⟩:=rL (T:=T) (E:=At ok0 base pl Ab w) (λi=>Yg (i*ie.size,ie.size)) ti
    (λi v cs0 rest ps h hv=>by obtain⟨h1,Il,h2,h3⟩:=Afz AU C8 Cg h hv;exact⟨i*te.size,by rw[Ie,h1],Il,h2,h3⟩) _ _ _ _ _ _ hp Ml OR Zw hf
   refine⟨.agg us.toArray,?_,us,h2,by simp⟩;simp only[GZ]at h1;simp[Y3,ho,Instr.build,Yaz,Yaa,f.info,f.zero,Yu hu,Cp,h1]
 ·
  rename_i fs;have AU:ti.len=Yf:=by rw[f.alen];rfl
  have DV:=f.known;simp only[R3]at DV;have Bp:=AtT (P:=P) fs.toList DV w
  have QK:(fs.mapM λf=>(do pure (f.offset,<-Yak f.type):Sem (Yn×Yn))).run P w=.ok (fs.toList.map λf=>(f.offset,P.cellsOf f.type)).toArray w:=by rw[Array.mapM_eq_mapM_toList,Sem.run_map,Bp];rfl
  obtain⟨us,h1,h2⟩:=rL (T:=T) (E:=At ok0 base pl Ab w) ((fs.toList.map λf=>(f.offset,P.cellsOf f.type)).toArray[·]?) ti
   (λi v cs0 rest ps h hv=>by
    obtain⟨off,g,h1,Il,h2,h3⟩:=AtU AU h hv;refine⟨off,?_,Il,h2,h3⟩;rw[f.flds]at h1;simp only[bF,Gz]at h1;simp only[ZR,Gz];cases Tg:fs.toList[i]? with
    |none=>rw[Tg]at h1;cases h1
    |some fd=>rw[Tg]at h1;simp only[F8,Af,Cb]at h1⊢;exact⟨h1.1,h1.2.1⟩) _ _ _ _ _ _ hp Ml OR Zw hf
  refine⟨.agg us.toArray,?_,us,h2,by simp⟩
  have Gn:(fs.mapM λf=>Prod.mk f.offset <$> Yak f.type:Sem (YQ (Yn×Yn))).run P w=.ok (fs.toList.map λf=>(f.offset,P.cellsOf f.type)).toArray w:=by simpa only[map_eq_pure_bind]using QK
  simp only[GZ]at h1;simp only[Y3,ho,Instr.build,Yaz,Yaa,f.info,f.zero,Yu hu,YC,Ybl,Y9,YY,QK,TO,h1]
theorem AfA{T:Yr->Ya TI}(hT:TOk P T){kk:K β}{t:Yr}{parts:YQ (Yn×Y2)}(ho:o.op=.build t parts)(hk:bA T t (parts.toList.map λp=>(p.1,ρ p.2)) kk=Yg r):Sound P o ρ bl kk r:=by
 unfold bA at hk;split at hk
 ·rename_i ti ht
  cases Fo:ti.agg with
  |false=>rw[Fo]at hk;cases hk
  |true=>
   simp only[Fo,As]at hk;split at hk
   ·rename_i ps Jp
    split at hk
    ·rename_i cs De;exact AtV hT ho ht Fo Jp De hk
    ·cases hk
   ·cases hk
 ·cases hk
def repL(n:Yn)(l:Ye Yq):Ye Yq:=
 match n with
 |0=>[]
 |n+1=>l++repL n l
theorem AfB(l:Ye Yq):∀n,repL n l++l=l++repL n l
 |0=>by simp[repL]
 |n+1=>by simp only[repL,C4];rw[AfB l n]
theorem AfC{E:Env}{cs:Ye C}{vs:Ye Yq}(h:CReps E cs vs):∀n,CReps E (repC n cs) (repL n vs)
 |0=>rfl
 |n+1=>h.append (AfC h n)
theorem U0(z:YQ Yq)(hz:0<z.size):∀n,(Ya0 z (n*z.size)).toList=repL n z.toList
 |0=>by simp[Ya0,repL]
 |n+1=>by
  have ih:=U0 z hz n
  have e:(Ya0 z ((n+1)*z.size)).toList=(Ya0 z (n*z.size)).toList++z.toList:=by
   simp only[Ya0,TO,Array.toList_range,Hr,List.range_add,IR];congr 1;apply ZY;intro j;simp only[Gz,Pi];by_cases hj:j<z.size
   ·rw[List.getElem?_range hj]
    have hm:(n*z.size+j)%z.size=j:=by rw[TR,Nat.mul_add_mod,Nat.mod_eq_of_lt hj]
    simp[hm,hj]
   ·have h1:(List.range z.size)[j]?=Yf:=by simp;omega
    rw[h1];simp;omega
  rw[e,ih,AfB];rfl
theorem DList.rep{w:Yx}{ok:Yn->Prop}{e:Ty}{x:e.den}{vs:Ye Yq}(h:DRep w ok e x vs):∀n,DList (λx u=>DRep w ok e x u) (Y8 n x) (repL n vs)
 |0=>rfl
 |n+1=>⟨vs,repL n vs,rfl,h,DList.rep h n⟩
theorem AfD{kk:K β}{nx:Yn}{et:Yr}{e:Ty}{l:Ye e.den}(hn:bl nx=Yf)(hk:kk (.c (.row nx 0)) [nx] [(nx,.row et e 0 l)]=Yg r)(ALx:l.length<=Yaj)(AJ:∀(Ab:Yn->Ya Blk)(ok0:OK0 P)(base:Yn)(pl:Yn->Ya Pl)(w:Yx)(a:Act),RelB ok0 base pl Ab w->(∀x∈o.op.operands,VRep (At ok0 base pl Ab w) (ρ x) (a.eval x))->∃us:Ye Yq,(Y3 a.eval o).run P w=.ok (.value (.slice (Yg ⟨w.heap.size,0,Yf⟩) l.length l.length)) (w.alloc (.cells us.toArray et))/\DList (λx u=>DRep w (At ok0 base pl Ab w).ok e x u) l us):Sound P o ρ bl kk r:=by
 refine⟨_,_,_,hk,λAb hb=>?_⟩;have Dq:Ab nx=Yf:=(hb nx (by simp)).trans hn;intro ok0 base pl w a hr hx K Q hK;obtain⟨us,h1,h2⟩:=AJ Ab ok0 base pl w a hr hx;have hg:w.grownBy (w.alloc (.cells us.toArray et)) Yf:=Ya9 w _ Yf
 have hp:∀g,(Pl.row (.slice (Yg ⟨w.heap.size,0,Yf⟩) l.length l.length) []).has g->w.heap.size<=g:=by intro g Ga;have Ga:=Pl.has_row Ga;simp only[Yae,Af]at Ga;exact M4 Ga
 have hs:Step pl Ab w (upd pl nx (.row (.slice (Yg ⟨w.heap.size,0,Yf⟩) l.length l.length) [])) (upd Ab nx (.row et e 0 l)) (w.alloc (.cells us.toArray et)):=Step.new hr Dq hg hp;refine HR h1 (hK _ (upd pl nx (.row (.slice (Yg ⟨w.heap.size,0,Yf⟩) l.length l.length) [])) _ ?_ hs ?_)
 ·refine RelB.new hr Dq hg hp ⟨rfl,us,h2.mono λx u hu=>hu.mono hs.ext.heap,?_⟩
  have hl:=h2.length;exact⟨hl,.inr ⟨w.heap.size,l.length,us.toArray,rfl,hr.baseLe,YaW w _,Av _,ALx,by simpa using hl,by rw[<-hl];simp⟩⟩
 ·refine⟨rfl,.slice (Yg ⟨w.heap.size,0,Yf⟩) l.length l.length,[],by simp[At,upd],λt1 e1 Da l1 h1=>?_⟩
  simp only[At,updL,upd,D6,Af]at h1;injection h1 with q1 q2 q3 q4;subst q3;exact⟨Av _,λ_=>rfl⟩
theorem AtW{T:Yr->Ya TI}(hT:TOk P T){kk:K β}{nx:Yn}{t:Yr}{n:Yn}{parts:YQ (Yn×Y2)}(ho:o.op=.buildSlice t n parts)(hk:qV T bl nx t n (parts.toList.map λp=>(p.1,ρ p.2)) kk=Yg r):Sound P o ρ bl kk r:=by
 unfold qV at hk;split at hk
 ·cases hk
 rename_i ti ht;obtain⟨i,d,z,f⟩:=hT.facts ht;split at hk
 ·rename_i et C8 CC
  have hd:=He f C8 CC;subst hd;have hu:=f.under;split at hk
  ·cases hk
  rename_i te Cg;obtain⟨i',d',z',fe⟩:=hT.facts Cg;split at hk
  ·cases hk
  rename_i e Tf;cases hs:(Yo e.size te.size&&(YI (n*te.size) 16777216&&Y0 0 te.size))with
  |false=>rw[hs]at hk;cases hk
  |true=>
   obtain⟨Bx,Ls⟩:=andB hs;obtain⟨AW,E5⟩:=andB Ls;have Bx:=AB Bx;have AW:=IP AW;have E5:=Ea E5;simp only[hs,As]at hk;split at hk
   ·cases hk
   rename_i ps Jp;split at hk
   ·cases hk
   rename_i cs De;split at hk
   ·rename_i l hl hn
    have OE:l.length=n:=by
     have:∀{m:Yn}{cs:Ye C}{l:Ye e.den},JZ (λ_=>Yf) e m cs=Yg l->l.length=m:=by
      intro m
      induction m with
      |zero=>
       intro cs l h;cases cs with
       |nil=>simp only[JZ,Af]at h;subst h;rfl
       |cons c cs=>simp[JZ]at h
      |succ m ih=>
       intro cs l h;simp only[JZ]at h;split at h
       ·split at h
        ·rename_i l' GS
         simp only[Af]at h;subst h;simp[ih GS]
        ·cases h
       ·cases h
     exact this hl
    have Aru:n<=n*te.size:=p9 _ E5;refine AfD hn hk (by simp only[Yaj];omega) λAb ok0 base pl w a hr Ae=>?_
    have IG:z'.cells.size=te.size:=by have:=fe.len;rw[Hq]at this;rw[this,fe.size]
    have Zw:CReps (At ok0 base pl Ab w) (repC n te.zero) (repL n z'.cells.toList):=AfC (by rw[fe.zeroC];exact NH fe.one) n
    have OR:∀(j:Yn)(p:Yn×V)(q:Yn×Yq),(parts.toList.map λp=>(p.1,ρ p.2))[j]?=Yg p->(parts.toList.map λp=>(p.1,a.eval p.2))[j]?=Yg q->VRep (At ok0 base pl Ab w) p.2 q.2:=by
     intro j p q h1 h2;rw[Gz]at h1 h2;cases hj:parts.toList[j]? with
     |none=>rw[hj]at h1;cases h1
     |some x=>rw[hj]at h1 h2;simp only[F8,Af]at h1 h2;subst h1 h2;exact Ae x.2 (by simp only[ho,Yt];exact pK.2 (Hb.2 ⟨x,Dg hj,rfl⟩))
    have Ml:(parts.toList.map λp=>(p.1,a.eval p.2)).map (·.1)=(parts.toList.map λp=>(p.1,ρ p.2)).map (·.1):=by simp
    obtain⟨us,h1,h2⟩:=rL (T:=T) (E:=At ok0 base pl Ab w) (λi=>Yg (i*te.size,te.size)) _
     (λi v cs0 rest ps h hv=>by obtain⟨h1,Il,h2,h3⟩:=Afz (ti:={te with elem:=Yg et,len:=Yg n}) rfl rfl Cg h hv;exact⟨i*te.size,by rw[h1],Il,h2,h3⟩) _ _ _ _ _ _ Jp Ml OR Zw De
    obtain⟨d1,d2⟩:=bM hr.blksOk (Rows.none _ _) h2 hl;refine⟨us,?_,d1⟩
    have XY:(Ya0 z'.cells (n*te.size))=(repL n z'.cells.toList).toArray:=by apply Io;rw[<-IG,U0 _ (by omega)]
    have ALL:¬(n*te.size>2^24):=by omega
    rw[OE];by_cases Js:n*te.size=0
    ·have JK:n=0:=by
      rcases Nat.mul_eq_zero.1 Js with h|h
      ·exact h
      ·omega
     subst JK;simp only[repL]at h1;have e0:∀g:Yn->Yq,(Array.range 0).map g=#[]:=λg=>by apply Io;simp
     have h0:¬((0:Yn)>2^24):=by decide
     simp only[Y3,ho,YaL,Yu hu,run_sizeOf fe,YC,Y9,Js,h0,CN,YY,D6,e0,TO,h1,newRow,run_newObj];rfl
    ·have Jt:∀(k:Yn),(Array.range (n*te.size)).map (λx=>z'.cells[x%z'.cells.size]!)=(repL n z'.cells.toList).toArray:=λ_=>XY
     simp only[Y3,ho,YaL,Yu hu,run_sizeOf fe,YC,Y9,ALL,CN,YY,Js,Yaz,Yaa,Ybl,fe.info,fe.zero,Jt 0,TO,h1,newRow,run_newObj];rfl
   ·cases hk
 ·cases hk
theorem AtX{T:Yr->Ya TI}(hT:TOk P T){kk:K β}{nx:Yn}{t:Yr}{x y:Y2}(ho:o.op=.makeSlice t x y)(hk:qW T bl nx t (ρ x) (ρ y) kk=Yg r):Sound P o ρ bl kk r:=by
 have Cq:x∈o.op.operands:=by simp[ho,Yt]
 have E6:y∈o.op.operands:=by simp[ho,Yt]
 unfold qW at hk;split at hk
 ·rename_i ti ki i kj j ht hi hj
  obtain⟨inf,d,z,f⟩:=hT.facts ht;split at hk
  ·rename_i et C8 CC
   have hd:=He f C8 CC;subst hd;have hu:=f.under;split at hk
   ·cases hk
   rename_i te Cg;obtain⟨i',d',z',fe⟩:=hT.facts Cg;split at hk
   ·cases hk
   rename_i e Tf;split at hk
   ·rename_i z0 Js hn
    cases hs:(Yo e.size te.size&&Y0 0 te.size)with
    |false=>rw[hs]at hk;cases hk
    |true=>
     obtain⟨Bx,AW⟩:=andB hs;have Bx:=AB Bx;have AW:=Ea AW;simp only[hs,As]at hk;obtain⟨hc,Tj⟩:=DN hk;clear hk;obtain⟨c1,hc⟩:=andB hc;obtain⟨c2,hc⟩:=andB hc;obtain⟨c3,c4⟩:=andB hc;have c1:=Bd c1;have c2:=Bd c2;have c3:=Bd c3;have c4:=Bd c4;subst c2;refine AfD hn Tj (by simp only[N8,Yaj];omega) λAb ok0 base pl w a hr Ae=>?_;have hx:=Ae x Cq;have hy:=Ae y E6;rw[P0 hi]at hx;rw[P0 hj]at hy;have DB:a.eval x=.int ki i:=hx;have oF:a.eval y=.int kj i:=hy
     have IG:z'.cells.size=te.size:=by have:=fe.len;rw[Hq]at this;rw[this,fe.size]
     have Zx:DRep w (At ok0 base pl Ab w).ok e z0 z'.cells.toList:=Py hr.blksOk (Rows.none _ _) (by rw[fe.zeroC];exact NH fe.one) Js;refine⟨repL i.toNat z'.cells.toList,?_,DList.rep Zx _⟩
     have G6:(i'.bytes:Yh)*i<=281474976710656:=by
      rw[<-fe.bytes]
      have:((i.toNat*te.bytes:Yn):Yh)=(te.bytes:Yh)*i:=by rw[Int.natCast_mul,Ybi c1,Int.mul_comm]
      simp only[AR]at c3;omega
     have Fa:=run_make (P:=P) w t et i' z' hu fe.info fe.zero ki kj i i c1 (IS _) G6 (by omega)
     have XY:Ya0 z'.cells (i.toNat*i'.size)=(repL i.toNat z'.cells.toList).toArray:=by apply Io;rw[<-fe.size,<-IG,U0 _ (by omega)]
     rw[XY]at Fa;simp[Y3,ho,DB,oF,Fa]
   ·cases hk
  ·cases hk
 ·cases hk
end
end Go.Lift
namespace Go.Lift
open Go.RowKit
section
variable{P:Yw}{o:Oper}{ρ:Y2->V}{bl:Yn->Ya Blk}{β:Type}{r:β}
theorem AtY{w:Yx}(base:Yn){t ty et:Yr}{te:TI}{i:YN}{d:YD}{z:Yq}(fe:TFacts P et te i d z)(ht:P.underlying t=Yg (.slice et))(Ih:0<te.size)(G6:0<te.bytes){v:Yq}{n:Yn}{xs:Ye Yq}(Aq:w.ownsRow base et te.size v n xs){src:Yq}{m base2:Yn}{ys:Ye Yq}(FN:w.ownsRow base2 et te.size src m ys)(h1:∀u∈ys,u.oneCell'=Yp)(DK:(n+m)*te.bytes<=AR)(Cs:base<=w.heap.size):∃v' w',(YH #[t,t] ty #[v,src]).run P w=.ok v' w'/\w'.ownsRow base et te.size v' (n+m) (xs++ys)/\w.grownBy w' v.ownBlock/\(v'.ownBlock=v.ownBlock\/v'.ownBlock=Yg w.heap.size):=by
 have KI:i.size=te.size:=fe.size.symm
 have Ms:z.cells.size=te.size:=by have:=fe.len;rw[Hq]at this;rw[this,KI]
 have AdW:(n+m)*i.bytes<=140737488355328:=by rw[<-fe.bytes];exact DK
 have O6:n+m<=Yaj:=by have h2:n+m<=(n+m)*te.bytes:=p9 _ G6;simp only[AR]at DK;simp only[Yaj];omega
 have hs:=FN;rcases FN.2 with⟨rfl,rfl⟩|⟨g,cap,Ba,rfl,_⟩
 ·have hy:ys=[]:=by have:=FN.1;exact JV (by simpa using this)
  subst hy;refine⟨v,w,?_,by simpa using Aq,⟨rfl,rfl,rfl,Av _,λ_ _ _=>rfl⟩,.inl rfl⟩;rcases Aq.2 with⟨rfl,rfl⟩|⟨g,cap,Ba,rfl,_,_,FD,_⟩
  ·simp[YH,Yu ht,Yak,Yaa,fe.info,Yao,YU]
  ·simp[YH,Yu ht,Yak,Yaa,fe.info,Yao,YU,FD,Ybb]
 ·obtain⟨v',w',AJ,h2,h3,_,h5⟩:=run_append_own_at (P:=P) w base t ty et i z te.size i.bytes ht fe.info fe.zero KI rfl Ms Ih v n xs Aq ⟨g,0,Yf⟩ m cap ys hs.1
   (λj u hj=>hs.cells (g:=g) rfl j u hj) h1 O6 AdW Cs
  exact⟨v',w',AJ,h2,h3,h5⟩
end
end Go.Lift
namespace Go.Lift
open Go.RowKit
theorem MatOk.nil(E:Env)(t et:Yr)(e:Ty):MatOk E t et e Yf [] (.slice Yf 0 0) []:=
 ⟨⟨[],YL _ _ _ _,λi s h=>by simp at h⟩,rfl,λi h=>by simp at h,λi s x h=>by simp at h,λi s g h=>by simp at h,λi j s r g _ h=>by simp at h⟩
section
variable{P:Yw}{o:Oper}{ρ:Y2->V}{bl:Yn->Ya Blk}{β:Type}{r:β}
theorem AfE{w:Yx}{base:Yn}{t0:Yr}{size:Yn}{sv:Yq}{m:Yn}{xs:Ye Yq}(Aq:w.ownsRow base t0 size sv m xs){g o n c:Yn}(AA:sv=.slice (Yg ⟨g,0,Yf⟩) n c){us:Ye Yq}(h1:∀u∈us,u.oneCell'=Yp)(BF:o+us.length<=xs.length):∃w',(Ybb ⟨g,o,Yf⟩ us).run P w=.ok () w'/\w.grownBy w' (Yg g)/\w'.ownsRow base t0 size sv m (xs.take o++us++xs.drop (o+us.length)):=by
 obtain⟨F4,DI⟩:=Aq;rcases DI with⟨h0,_⟩|⟨g',cap,Ba,KK,Cs,hh,FD,FC,XE,Jr⟩
 ·rw[AA]at h0;cases h0
 have hh:w.heap[g']?=Yg (.cells Ba t0 (0,0)):=hh
 have Ga:g'=g:=by rw[AA]at KK;injection KK with e1 e2 e3;injection e1 with e1;injection e1 with e1;exact e1.symm
 subst Ga
 have Bg:Ba.toList=xs++Ba.toList.drop (m*size):=by rw[<-Jr,M0]
 have AdB:o+us.length<=Ba.toList.length:=by rw[Bg];simp only[AQ];omega
 have Ce:=run_storeCells_at P g' o t0 us 0 Ba w hh (by simpa using AdB) h1;simp only[Rj]at Ce
 have Jl:Ba.toList.take o++us++Ba.toList.drop (o+us.length)=xs.take o++us++xs.drop (o+us.length)++Ba.toList.drop (m*size):=by
  have e1:Ba.toList.take o=xs.take o:=by rw[Bg,L6 (by omega)]
  have e2:Ba.toList.drop (o+us.length)=xs.drop (o+us.length)++Ba.toList.drop (m*size):=by
   conv=>lhs;rw[Bg]
   rw[OY BF]
  rw[e1,e2];simp only[C4]
 have Mm:(xs.take o++us++xs.drop (o+us.length)).length=xs.length:=by simp only[AQ,HP,LA];omega
 refine⟨_,Ce,rE w g' _,by rw[Mm];exact F4,.inr ⟨g',cap,_,KK,Cs,setRow_heap w g' _ _ t0 _ hh,FD,FC,?_,?_⟩⟩
 ·have Adn:Ba.size=cap*size:=XE
  have:(Ba.toList.take o++us++Ba.toList.drop (o+us.length)).length=Ba.toList.length:=by simp only[AQ,HP,LA];omega
  rw[a8,this,Hq];exact Adn
 ·simp only[Jl]
  rw[L6 (by rw[Mm,F4];exact Av _),GY (by rw[Mm,F4];exact Av _)]
theorem AtZ{w:Yx}{okI:Yn->Prop}{e:Ty}{new:Ye e.den}{src:Yq}(FN:Reads w okI e new src)(n:Yn):∃ys,DList (λx u=>DRep w okI e x u) (new.take n) ys/\ys.length=YV new.length n*e.size/\(Yao src).run P w=.ok new.length w/\(YU e.size (YV new.length n) src).run P w=.ok ys.toArray w:=by
 obtain⟨A,c,ys,rfl,BF,FC,hd,DG⟩:=FN;have IF:=hd.length;have BI:=hd.take n;have Lp:=BI.length;have ALE:(new.take n).length=YV new.length n:=by rw[HP,Nat.min_comm]
 rw[ALE]at Lp
 have Ej:ys.take (n*e.size)=ys.take (YV new.length n*e.size):=by
  rcases Nat.le_total new.length n with h|h
  ·have:YV new.length n=new.length:=YaV h
   rw[this,<-IF,GY (Av _),GY];rw[IF];exact KO _ h
  ·have:YV new.length n=n:=Nat.min_eq_right h
   rw[this]
 refine⟨ys.take (n*e.size),BI,Lp,by simp[Yao],?_⟩;cases A with
 |none=>
  have hy:ys=[]:=by
   cases ys with
   |nil=>rfl
   |cons y ys=>obtain⟨ad,ha,_⟩:=DG 0 y rfl;cases ha
  subst hy;simp[YU]
 |some ad=>
  have h:=run_loadCells_list (P:=P) w ad (ys.take (n*e.size)) (λj u hj=>by
   rw[N9]at hj;split at hj
   ·obtain⟨Ad7,ha,hc⟩:=DG j u hj
    injection ha with ha;subst ha;exact hc
   ·cases hj)
  rw[Lp]at h;simpa [YU]using h
theorem AfF{w w':Yx}{a:Act}{x y:Y2}{c:Call}{t:Yr}(ho:o.op=.call c)(hc:c.callee=.builtin .copy)(ha:c.args.toList=[x,y])(ht:c.argTypes.toList=[t,t]){v:Yq}(h:(Yav #[t,t] o.type #[a.eval x,a.eval y]).run P w=.ok v w'):(Y3 a.eval o).run P w=.ok (.value v) w':=by
 have h1:c.args=#[x,y]:=by rw[<-GZ (xs:=c.args),ha]
 have h2:c.argTypes=#[t,t]:=by rw[<-GZ (xs:=c.argTypes),ht]
 simp[Y3,ho,resolve,hc,h1,h2,invoke,builtin,h]
theorem AfG{te:TI}{t et:Yr}{inf:YN}{d':YD}{z:Yq}(fe:TFacts P et te inf d' z)(hu:P.underlying t=Yg (.slice et)){e:Ty}(Ie:e.size=te.size){E:Env}{base:Yn}{t0:Yr}{l new:Ye e.den}{sv:Yq}{xs:Ye Yq}(hd:DList (λx u=>DRep E.w E.ok e x u) l xs)(Aq:E.w.ownsRow base t0 e.size sv l.length xs){src:Yq}(FN:Reads E.w E.ok e new src){i d:Yn}(hid:i+d<=l.length){A:Ya Addr}{cd:Yn}(hA:0<d->∃g n c,sv=.slice (Yg ⟨g,0,Yf⟩) n c/\A=Yg ⟨g,i*e.size,Yf⟩)(ty:Yr):∃w' D4,(Yav #[t,t] ty #[.slice A d cd,src]).run P E.w=.ok (.int .i64 ((YV new.length d:Yn):Yh)) w'/\E.w.grownBy w' sv.ownBlock/\DList (λx u=>DRep E.w E.ok e x u) (l.take i++(new.take d++l.drop (i+YV new.length d))) D4/\w'.ownsRow base t0 e.size sv l.length D4:=by
 obtain⟨ys,nF,IF,AU,nH⟩:=AtZ (P:=P) FN d;have F4:=hd.length;have KE:=nF.oneCell;have hn:YV new.length d<=d:=Nat.min_le_right _ _;have BI:DList (λx u=>DRep E.w E.ok e x u) (l.take i++(new.take d++l.drop (i+YV new.length d))) (xs.take (i*e.size)++(ys++xs.drop ((i+YV new.length d)*e.size))):=(hd.take i).append (nF.append (hd.drop _));have Cp:(Yak et).run P E.w=.ok e.size E.w:=by rw[Ie];exact run_sizeOf fe E.w
 rcases ZW d with h0|h0
 ·subst h0
  have hm:YV new.length 0=0:=Nat.min_eq_right (EA _);rw[hm]at IF nH;have hy:ys=[]:=JV (by simpa using IF);subst hy;refine⟨E.w,xs,?_,⟨rfl,rfl,rfl,Av _,λ_ _ _=>rfl⟩,?_,Aq⟩
  ·cases A with
   |none=>simp[Yav,Yu hu,AU,hm,Cp,nH,goInt]
   |some ad=>simp[Yav,Yu hu,AU,hm,Cp,nH,goInt,Ybb]
  ·have h3:l.take i++(new.take 0++l.drop (i+YV new.length 0))=l:=by rw[hm];simp
   rw[h3];exact hd
 ·obtain⟨g,n,c,AA,rfl⟩:=hA h0
  have BF:i*e.size+ys.length<=xs.length:=by rw[IF,F4,<-LC];exact KO _ (by omega)
  obtain⟨w',Ce,hg,Lr⟩:=AfE (P:=P) Aq (o:=i*e.size) AA KE BF;refine⟨w',_,?_,by rw[AA];exact hg,BI,?_⟩
  ·simp[Yav,Yu hu,AU,Cp,nH,goInt,Ce]
  ·have:xs.take (i*e.size)++(ys++xs.drop ((i+YV new.length d)*e.size))=xs.take (i*e.size)++ys++xs.drop (i*e.size+ys.length):=by rw[IF,<-LC,C4]
   rw[this];exact Lr
theorem Au0{T:Yr->Ya TI}(hT:TOk P T){kk:K β}{c:Call}(ho:o.op=.call c)(hc:c.callee=.builtin .copy){x y:Y2}{t:Yr}(ha:c.args.toList=[x,y])(Cz:c.argTypes.toList=[t,t])(hk:qJ T bl t (ρ x) (ρ y) kk=Yg r):Sound P o ρ bl kk r:=by
 have Bv:c.args=#[x,y]:=by rw[<-GZ (xs:=c.args),ha]
 have Cq:x∈o.op.operands:=by simp[ho,Yt,YE,Bv]
 have E6:y∈o.op.operands:=by simp[ho,Yt,YE,Bv]
 unfold qJ at hk;split at hk
 ·cases hk
 rename_i ti ht;obtain⟨i,d,z,f⟩:=hT.facts ht;split at hk
 ·rename_i et C8 CC
  have hd:=He f C8 CC;subst hd;split at hk
  ·cases hk
  rename_i te Cg;obtain⟨i',d',z',fe⟩:=hT.facts Cg;split at hk
  ·cases hk
  rename_i e Tf;cases hs:(Yo e.size te.size&&Y0 0 te.size)with
  |false=>rw[hs]at hk;cases hk
  |true=>
   obtain⟨Bx,AW⟩:=andB hs;have Bx:=AB Bx;simp only[hs,As]at hk;split at hk
   ·cases hk
   rename_i new rd FN;split at hk
   ·
    rename_i b ver lo hi hx;split at hk
    ·rename_i t0 e0 ver' l hb
     cases AY:Yo ver ver' with
     |false=>rw[AY]at hk;cases hk
     |true=>
      have:=AB AY;subst this;simp only[AY,As]at hk;split at hk
      ·rename_i he
       subst he;refine⟨_,_,_,hk,λAb Ai=>?_⟩;have AE:Ab b=Yg (.row t0 e0 ver l):=(Ai b (by simp)).trans hb;intro ok0 base pl w a hr Ae K Q hK;have hv:=Ae x Cq;rw[hx]at hv;obtain⟨_,sv,Ac,hg,Bg⟩:=hv;obtain⟨q1,q2,A,A',n,cc,AA,B6,hA,_⟩:=(Bg t0 e0 ver l AE).2 rfl;obtain⟨p,hp,hB⟩:=hr.blks b _ AE;have:p=.row sv Ac:=by have h2:pl b=Yg (.row sv Ac):=hg;rw[hp]at h2;injection h2
       subst this;obtain⟨h0,xs,Ct,Aq⟩:=hB;subst h0;have FM:Reads w (At ok0 base pl Ab w).ok e0 new (a.eval y):=R5 hr.blksOk FN (λb hb B hB=>(Ai b (by simp[hb])).trans hB) (Ae y E6)
       obtain⟨w',D4,AJ,Do,BI,DI⟩:=AfG fe f.under Bx (E:=At ok0 base pl Ab w) Ct Aq FM (i:=lo) (d:=hi-lo) (by omega) (A:=A') (cd:=cc-lo) (λIh=>by
        have hA:=hA (by omega);rcases Aq.2 with⟨Dt,hn⟩|⟨g,cap,Ba,Dt,_⟩
        ·omega
        ·rw[AA]at Dt
         injection Dt with e1 _ _;subst e1;refine⟨g,n,cc,AA,?_⟩;rw[hA];simp[YM]) o.type
       have AY:ver<=ver/\(ver=ver->sv=sv/\(l.take lo++(new.take (hi-lo)++l.drop (lo+YV new.length (hi-lo)))).length=l.length):=⟨Av _,λ_=>⟨rfl,by have h1:YV new.length (hi-lo)=min (hi-lo) new.length:=Nat.min_comm _ _;simp only[AQ,HP,LA,h1];omega⟩⟩
       have Ce:=Step.grown hr AE hp Do (.inl rfl) AY;have GQ:=Ce.ext (ok0:=ok0) (base:=base);refine HR (AfF ho hc ha Cz (by rw[B6];exact AJ)) (hK _ (upd pl b (.row sv [])) w' ?_ Ce rfl);exact RelB.grown hr AE hp Do (.inl rfl) AY ⟨rfl,D4,BI.mono λx u hu=>hu.mono GQ.heap,by rw[(AY.2 rfl).2];exact DI⟩
      ·cases hk
    ·cases hk
   ·
    rename_i b ver hx;split at hk
    ·rename_i t0 e0 ver' l hb
     cases AY:Yo ver ver' with
     |false=>rw[AY]at hk;cases hk
     |true=>
      have:=AB AY;subst this;simp only[AY,As]at hk;split at hk
      ·rename_i he
       subst he;refine⟨_,_,_,hk,λAb Ai=>?_⟩;have AE:Ab b=Yg (.row t0 e0 ver l):=(Ai b (by simp)).trans hb;intro ok0 base pl w a hr Ae K Q hK;have hv:=Ae x Cq;rw[hx]at hv;obtain⟨_,sv,Ac,hg,Bg⟩:=hv;have B6:=(Bg t0 e0 ver l AE).2 rfl;obtain⟨p,hp,hB⟩:=hr.blks b _ AE;have:p=.row sv Ac:=by have h2:pl b=Yg (.row sv Ac):=hg;rw[hp]at h2;injection h2
       subst this;obtain⟨h0,xs,Ct,Aq⟩:=hB;subst h0;have FM:Reads w (At ok0 base pl Ab w).ok e0 new (a.eval y):=R5 hr.blksOk FN (λb hb B hB=>(Ai b (by simp[hb])).trans hB) (Ae y E6)
       obtain⟨A,cc,AA,hA⟩:∃A cc,sv=.slice A l.length cc/\(0<l.length->∃g n c,sv=.slice (Yg ⟨g,0,Yf⟩) n c/\A=Yg ⟨g,0*e0.size,Yf⟩):=by
        rcases Aq.2 with⟨Dt,hn⟩|⟨g,cap,Ba,Dt,_⟩
        ·exact⟨Yf,0,by rw[Dt,hn],λh=>by omega⟩
        ·exact⟨_,cap,Dt,λ_=>⟨g,_,_,Dt,by simp⟩⟩
       obtain⟨w',D4,AJ,Do,BI,DI⟩:=AfG fe f.under Bx (E:=At ok0 base pl Ab w) Ct Aq FM (i:=0) (d:=l.length) (by omega) (A:=A) (cd:=cc) hA o.type;simp only[List.take_zero,GA,DZ]at BI
       have AY:ver<=ver/\(ver=ver->sv=sv/\(new.take l.length++l.drop (YV new.length l.length)).length=l.length):=⟨Av _,λ_=>⟨rfl,by have h1:YV new.length l.length=min l.length new.length:=Nat.min_comm _ _;simp only[AQ,HP,LA,h1];omega⟩⟩
       have Ce:=Step.grown hr AE hp Do (.inl rfl) AY;have GQ:=Ce.ext (ok0:=ok0) (base:=base);refine HR (AfF ho hc ha Cz (by rw[B6,AA];exact AJ)) (hK _ (upd pl b (.row sv [])) w' ?_ Ce rfl);exact RelB.grown hr AE hp Do (.inl rfl) AY ⟨rfl,D4,BI.mono λx u hu=>hu.mono GQ.heap,by rw[(AY.2 rfl).2];exact DI⟩
      ·cases hk
    ·cases hk
   ·cases hk
 ·cases hk
theorem AfH{w:Yx}{ok:Yn->Prop}{k:YT}:∀{l:Ye Yh}{ys:Ye Yq},DList (λ(x:(Ty.int k).den) u=>DRep w ok (.int k) x u) l ys->ys=l.map (YW k)
 |[],_,h=>by simp only[DList]at h;subst h;rfl
 |n::l,_,⟨u,v,e1,hr,ht⟩=>by have hu:u=[.int k n]:=hr;subst e1 hu;rw[AfH ht];rfl
theorem Au1{T:Yr->Ya TI}(hT:TOk P T){kk:K β}{s t:Yr}{x:Y2}(ho:o.op=.convert s t x){si ti:TI}(hs:T s=Yg si)(ht:T t=Yg ti)(hk:qU T bl si ti (ρ x) kk=Yg r):Sound P o ρ bl kk r:=by
 obtain⟨i,d,z,f⟩:=hT.facts ht;obtain⟨i',d',z',f'⟩:=hT.facts hs;unfold qU at hk;split at hk
 ·rename_i et C8 CC
  have hd:=He f' C8 CC;subst hd;split at hk
  ·cases hk
  rename_i te Cg;obtain⟨i2,d2,z2,fe⟩:=hT.facts Cg;split at hk
  ·rename_i Nn
   have he:d2=.int .u8:=by rw[fe.kind]at Nn;cases d2<;>simp_all [R2]
   subst he;cases JN:ti.isStr with
   |false=>rw[JN]at hk;cases hk
   |true=>
    have hd:=Uw f JN;subst hd;simp only[JN,As]at hk;split at hk
    ·rename_i l rd FN
     refine Sound.pure hk λAb Ai ok0 base pl w a hr Ae=>⟨.string ⟨(Hc l).toArray⟩,?_,rfl⟩;have FM:Reads w (At ok0 base pl Ab w).ok (.int .u8) l (a.eval x):=R5 hr.blksOk FN (λb hb B hB=>(Ai b (by simpa using hb)).trans hB) (Ae x (by simp[ho,Yt]));obtain⟨A,c,ys,hv,_,_,HE,DG⟩:=FM;have AMt:=AfH HE;subst AMt
     have AL0:(convert s t (a.eval x)).run P w=.ok (.string ⟨(Hc l).toArray⟩) w:=by
      rw[hv,run_convert_bytes_string w s t et A _ c f'.under fe.under f.under];cases A with
      |none=>
       have:l=[]:=by
        cases l with
        |nil=>rfl
        |cons n l=>obtain⟨ad,h,_⟩:=DG 0 _ rfl;cases h
       subst this;rfl
      |some ad=>
       have AdE:(loadCells ad l.length).run P w=.ok (l.map (YW .u8)).toArray w:=by
        have:=run_loadCells_list (P:=P) w ad (l.map (YW .u8)) (λj v hj=>by obtain⟨Ad7,h,h2⟩:=DG j v hj;injection h with h;subst h;exact h2)
        simpa using this
       rw[run_bytesToString w ad l.length c l AdE,foldl_push_bytes];congr 2;simp[Hc,YaY,ByteArray.emptyWithCapacity];rfl
     simp[Y3,ho,AL0]
    ·cases hk
  ·cases hk
 ·cases hk
end
end Go.Lift
namespace Go.Lift
open Go.RowKit
section
variable{β:Type}{r:β}{P:Yw}{o:Oper}{ρ:Y2->V}{bl:Yn->Ya Blk}
theorem AfI(z:YQ Yq)(hz:0<z.size)(n:Yn):(YaE z n).toList=repL n z.toList:=U0 z hz n
theorem Au2{T:Yr->Ya TI}(hT:TOk P T){kk:K β}{c:Call}(ho:o.op=.call c)(hc:c.callee=.builtin .clear){x:Y2}{t:Yr}(ha:c.args.toList=[x])(Cz:c.argTypes.toList=[t])(hk:qK T bl t (ρ x) kk=Yg r):Sound P o ρ bl kk r:=by
 have Bv:c.args=#[x]:=by rw[<-GZ (xs:=c.args),ha]
 have Zq:c.argTypes=#[t]:=by rw[<-GZ (xs:=c.argTypes),Cz]
 have Cq:x∈o.op.operands:=by simp[ho,Yt,YE,Bv]
 unfold qK at hk;split at hk
 ·cases hk
 rename_i ti ht;obtain⟨i,d,z,f⟩:=hT.facts ht;split at hk
 ·rename_i et C8 CC
  have hd:=He f C8 CC;subst hd;have hu:=f.under;split at hk
  ·cases hk
  rename_i te Cg;obtain⟨i',d',z',fe⟩:=hT.facts Cg;split at hk
  ·cases hk
  rename_i e Tf;cases hs:(Yo e.size te.size&&Y0 0 te.size)with
  |false=>rw[hs]at hk;cases hk
  |true=>
   obtain⟨Bx,AW⟩:=andB hs;have Bx:=AB Bx;have AW:=Ea AW;simp only[hs,As]at hk;split at hk
   ·cases hk
   rename_i z0 Js;split at hk
   ·rename_i b ver lo hi hx
    split at hk
    ·rename_i t0 e0 ver' l hb
     cases AY:Yo ver ver' with
     |false=>rw[AY]at hk;cases hk
     |true=>
      have:=AB AY;subst this;simp only[AY,As]at hk;split at hk
      ·rename_i he
       subst he;refine⟨_,_,_,hk,λAb Ai=>?_⟩;have AE:Ab b=Yg (.row t0 e0 ver l):=(Ai b (by simp)).trans hb;intro ok0 base pl w a hr Ae K Q hK;have hv:=Ae x Cq;rw[hx]at hv;obtain⟨_,sv,Ac,hg,Bg⟩:=hv;obtain⟨q1,q2,A,A',n,cc,AA,B6,hA,_⟩:=(Bg t0 e0 ver l AE).2 rfl;obtain⟨p,hp,hB⟩:=hr.blks b _ AE;have:p=.row sv Ac:=by have h2:pl b=Yg (.row sv Ac):=hg;rw[hp]at h2;injection h2
       subst this;obtain⟨h0,xs,Ct,Aq⟩:=hB;subst h0
       have IG:z'.cells.size=te.size:=by have:=fe.len;rw[Hq]at this;rw[this,fe.size]
       have Zx:DRep w (At ok0 base pl Ab w).ok e0 z0 z'.cells.toList:=Py hr.blksOk (Rows.none _ _) (by rw[fe.zeroC];exact NH fe.one) Js;have Ms:DList (λx u=>DRep w (At ok0 base pl Ab w).ok e0 x u) (Y8 (hi-lo) z0) (repL (hi-lo) z'.cells.toList):=DList.rep Zx _;have IF:=Ms.length;simp only[N8]at IF;have KE:=Ms.oneCell;have F4:=Ct.length;have OD:(l.take lo++(Y8 (hi-lo) z0++l.drop hi)).length=l.length:=by simp;omega
       have AY:ver<=ver/\(ver=ver->sv=sv/\(l.take lo++(Y8 (hi-lo) z0++l.drop hi)).length=l.length):=⟨Av _,λ_=>⟨rfl,OD⟩⟩;have Ae9:∀w,(Yaz et).run P w=.ok z' w:=λw=>by simp[Yaz,Yaa,fe.info,fe.zero]
       have AJ:∃w' D4,(YaO #[t] o.type #[a.eval x]).run P w=.ok (.tuple #[]) w'/\w.grownBy w' sv.ownBlock/\
         DList (λx u=>DRep w (At ok0 base pl Ab w).ok e0 x u) (l.take lo++(Y8 (hi-lo) z0++l.drop hi)) D4/\w'.ownsRow base t0 e0.size sv l.length D4:=by
        rcases ZW (hi-lo)with h0|h0
        ·refine⟨w,xs,?_,⟨rfl,rfl,rfl,Av _,λ_ _ _=>rfl⟩,?_,Aq⟩
         ·rw[B6,h0]
          cases A'<;>simp[YaO,Yu hu]
         ·have h3:l.take lo++(Y8 (hi-lo) z0++l.drop hi)=l:=by rw[h0,show hi=lo by omega];simp
          rw[h3];exact Ct
        ·have hA:=hA (by omega)
         rcases Aq.2 with⟨Dt,hn⟩|⟨g,cap,Ba,Dt,_⟩
         ·omega
         ·have hAg:A=Yg ⟨g,0,Yf⟩:=by rw[AA]at Dt;injection Dt
          subst hAg
          have BF:lo*e0.size+(repL (hi-lo) z'.cells.toList).length<=xs.length:=by rw[IF,F4,<-LC];exact KO _ (by omega)
          obtain⟨w',Ce,ALj,Lr⟩:=AfE (P:=P) (w:=w) (base:=base) Aq (o:=lo*e0.size) AA KE BF;refine⟨w',_,?_,by rw[AA];exact ALj,(Ct.take lo).append (Ms.append (Ct.drop hi)),?_⟩
          ·obtain⟨m,hm⟩:∃m,hi-lo=m+1:=⟨hi-lo-1,by omega⟩
           rw[B6,hA,hm];rw[hm]at Ce;have hz:=AfI z'.cells (by omega) (m+1);have Qz:(Addr.mk g 0 Yf).add (lo*e0.size)=⟨g,lo*e0.size,Yf⟩:=by simp[YM]
           simp only[F8,Qz];simp only[YaO,Yu hu,Ae9,hz,YC,Y9,ZR,DM,YY];rw[Ce];rfl
          ·have h4:xs.take (lo*e0.size)++(repL (hi-lo) z'.cells.toList++xs.drop (hi*e0.size))=xs.take (lo*e0.size)++repL (hi-lo) z'.cells.toList++xs.drop (lo*e0.size+(repL (hi-lo) z'.cells.toList).length):=by rw[IF,<-LC,C4,show lo+(hi-lo)=hi by omega]
           rw[h4];exact Lr
       obtain⟨w',D4,AJ,Do,BI,DI⟩:=AJ;have Ce:=Step.grown hr AE hp Do (.inl rfl) AY;have GQ:=Ce.ext (ok0:=ok0) (base:=base)
       have Mi:(Y3 a.eval o).run P w=.ok (.value (.tuple #[])) w':=by simp[Y3,ho,resolve,hc,Bv,Zq,invoke,builtin,AJ]
       refine HR Mi (hK _ (upd pl b (.row sv [])) w' ?_ Ce ⟨[],rfl,rfl⟩);exact RelB.grown hr AE hp Do (.inl rfl) AY ⟨rfl,D4,BI.mono λx u hu=>hu.mono GQ.heap,by rw[(AY.2 rfl).2];exact DI⟩
      ·cases hk
    ·cases hk
   ·cases hk
 ·cases hk
theorem Au3{T:Yr->Ya TI}(hT:TOk P T){kk:K β}{c:Call}(ho:o.op=.call c)(hc:c.callee=.builtin .cap){x:Y2}{t:Yr}(ha:c.args.toList=[x])(Cz:c.argTypes.toList=[t])(hk:qL T t (ρ x) kk=Yg r):Sound P o ρ bl kk r:=by
 have Bv:c.args=#[x]:=by rw[<-GZ (xs:=c.args),ha]
 have Zq:c.argTypes=#[t]:=by rw[<-GZ (xs:=c.argTypes),Cz]
 have Cq:x∈o.op.operands:=by simp[ho,Yt,YE,Bv]
 unfold qL at hk;split at hk
 ·cases hk
 rename_i ti ht;obtain⟨i,d,z,f⟩:=hT.facts ht;split at hk
 ·rename_i et C8 CC hx
  have hd:=He f C8 CC;subst hd;have hu:=f.under;refine Sound.pure hk λAb Ai ok0 base pl w a hr Ae=>⟨.int .i64 0,?_,rfl⟩;have hv:=Ae x Cq;rw[hx]at hv;have hv:a.eval x=.slice Yf 0 0:=hv;simp[Y3,ho,resolve,hc,Bv,Zq,invoke,builtin,Builtin.cap_,Yu hu,hv,goInt]
 ·cases hk
theorem Au4{T:Yr->Ya TI}(hT:TOk P T){kk:K β}{t:Yr}{x:Y2}{hi:Ya Y2}(ho:o.op=.slice t x Yf hi Yf)(hk:q9 T bl t (ρ x) (hi.map ρ) kk=Yg r):Sound P o ρ bl kk r:=by
 have Cq:x∈o.op.operands:=by simp[ho,Yt]
 have Q9:∀y,hi=Yg y->y∈o.op.operands:=by rintro y rfl;simp[ho,Yt]
 unfold q9 at hk;split at hk
 ·cases hk
 rename_i ti ht;obtain⟨i,d,z,f⟩:=hT.facts ht;have hu:=f.under;split at hk
 ·rename_i et C8 CC
  have hd:=He f C8 CC;subst hd;split at hk
  ·cases hk
  rename_i te Cg;obtain⟨i',d',z',fe⟩:=hT.facts Cg;split at hk
  ·rename_i b ver hx
   split at hk
   ·rename_i t0 e ver' l hb
    cases hs:(Yo ver ver'&&(Yo e.size te.size&&Y0 0 te.size))with
    |false=>rw[hs]at hk;cases hk
    |true=>
     obtain⟨AY,Nv⟩:=andB hs;obtain⟨Bx,AW⟩:=andB Nv;have Bx:=AB Bx;have:=AB AY;subst this;simp only[hs,As]at hk;split at hk
     ·rename_i n hn
      obtain⟨hc,hk⟩:=DN hk;obtain⟨c2,c3⟩:=andB hc;have c2:=Bd c2;have c3:=Bd c3;refine⟨_,_,_,hk,λAb Ai=>?_⟩;have AE:Ab b=Yg (.row t0 e ver l):=(Ai b (by simp)).trans hb;intro ok0 base pl w a hr Ae K Q hK;have h1:=Ae x Cq;rw[hx]at h1;obtain⟨_,sv,Ac,hg,Bg⟩:=h1;have B6:=(Bg t0 e ver l AE).2 rfl;obtain⟨p,hp,hB⟩:=hr.blks b _ AE;have:p=.row sv Ac:=by have h2:pl b=Yg (.row sv Ac):=hg;rw[hp]at h2;injection h2
      subst this;obtain⟨h0,xs,Ct,Aq⟩:=hB;subst h0
      obtain⟨A,cc,AA,BF⟩:∃A cc,sv=.slice A l.length cc/\l.length<=cc:=by
       rcases Aq.2 with⟨AA,hn⟩|⟨g,cap,Ba,AA,_,_,FD,_⟩
       ·exact⟨Yf,0,by rw[AA,hn],by omega⟩
       ·exact⟨_,cap,AA,FD⟩
      have Dz:=P2 (P:=P) (isSl:=Yp) (len:=l.length) (cap:=cc) (m:=0) (lo:=Yf) (.inl ⟨rfl,rfl⟩) (KS hn λy hy=>Ae y (Q9 y hy)) (IS 0) c2 (by omega) w
      have Ib:(if cc=0 then A else A.map (·.add 0))=A:=by
       split
       ·rfl
       ·cases A<;>simp[Ya4]
      have Mi:(Y3 a.eval o).run P w=.ok (.value (.slice A n.toNat cc)) w:=by have Adg:(YaI Yp l.length cc Yf (hi.map a.eval) Yf).run P w=.ok (0,n.toNat,cc) w:=Dz;simp[Y3,ho,Yal,Yu hu,Yaw,B6,AA,Adg,run_sizeOf fe];cases A<;>simp[Ya4]
      have Mm:n.toNat<=l.length:=by omega
      have AMi:(l.take n.toNat).length=n.toNat:=by simp;omega
      have DI:w.ownsRow base t0 e.size (.slice A n.toNat cc) n.toNat (xs.take (n.toNat*e.size)):=by
       have F4:=Ct.length;refine⟨by rw[HP,F4];exact YaV (KO _ Mm),?_⟩;rcases Aq.2 with⟨Dt,JK⟩|⟨g,cap,Ba,Dt,Cs,hh,FD,FC,De,Jr⟩
       ·rw[AA]at Dt
        injection Dt with e1 e2 e3;exact .inl ⟨by rw[e1,e3];congr 1;omega,by omega⟩
       ·have q:=AA.symm.trans Dt
        injection q with e1 e2 e3;exact .inr ⟨g,cap,Ba,by rw[e1,e3],Cs,hh,by omega,FC,De,by rw[<-Jr,List.take_take,YaV (KO _ Mm)]⟩
      have Do:w.grownBy w sv.ownBlock:=⟨rfl,rfl,rfl,Av _,λ_ _ _=>rfl⟩;have Gm:(Ybc A n.toNat cc).ownBlock=sv.ownBlock\/∀g,(Ybc A n.toNat cc).ownBlock=Yg g->w.heap.size<=g:=.inl (by rw[AA];cases A<;>rfl);have AY:ver<=ver+1/\(ver=ver+1->(Ybc A n.toNat cc)=sv/\(l.take n.toNat).length=l.length):=⟨Nat.le_succ _,λh=>by omega⟩;have Ce:=Step.grown (l':=l.take n.toNat) hr AE hp Do Gm AY;have GQ:=Ce.ext (ok0:=ok0) (base:=base);have hR:=RelB.grown hr AE hp Do Gm AY ⟨rfl,xs.take (n.toNat*e.size),(Ct.take n.toNat).mono λx u hu=>hu.mono GQ.heap,by rw[AMi];exact DI⟩;refine HR Mi (hK _ (upd pl b (.row (.slice A n.toNat cc) [])) w hR Ce ⟨rfl,.slice A n.toNat cc,[],by simp[At,upd],λt1 e1 Ju l2 Adf=>?_⟩);have Dz:upd Ab b (.row t0 e (ver+1) (l.take n.toNat)) b=Yg (.row t1 e1 Ju l2):=Adf;simp[upd]at Dz;exact⟨by omega,λ_=>rfl⟩
     ·cases hk
   ·cases hk
  ·cases hk
 ·cases hk
theorem Au5{w:Yx}{t u ty et:Yr}{te:TI}{i:YN}{d:YD}{z:Yq}{k ki:YT}(fe:TFacts P et te i d z)(ht:P.underlying t=Yg (.slice et))(hu:P.underlying u=Yg (.int k)){m:Yn}(h0:0<m)(G6:0<te.bytes)(hb:m*te.bytes<=AR)(Ih:0<te.size):(YH #[t,u] ty #[.slice Yf 0 0,.int ki (m:Yh)]).run P w=.ok (.slice (Yg ⟨w.heap.size,0,Yf⟩) m (grownCap w m 0 et)) (w.drew.alloc (.cells (YaE z.cells m++YaE z.cells (grownCap w m 0 et-m)) et)):=by
 have hm:m<=140737488355328:=by have h1:m*1<=m*te.bytes:=Ybj _ G6;simp only[AR]at hb;omega
 have Ai:m*i.bytes<=140737488355328:=by rw[<-fe.bytes];exact hb
 have Ae7:Yc.wrap (m:Yh)=m:=by simp[YT.wrap,IntKind.bits,IntKind.signed];omega
 have hn:m≠0:=by omega
 have Cp:¬i.size=0:=by rw[<-fe.size];omega
 have AdG:¬m*i.size=0:=by rw[Nat.mul_eq_zero];omega
 have AKL:¬(9223372036854775807<(m:Yh)):=by omega
 have ALF:((m:Yh)*(i.bytes:Yh))=((m*i.bytes:Yn):Yh):=by simp
 have AqV:¬(281474976710656<(m:Yh)*(i.bytes:Yh)):=by rw[ALF];omega
 have AKJ:¬(281474976710656<Builtin.nextslicecap m 0*i.bytes):=by rw[nextslicecap_zero h0];omega
 have ALG:¬((m:Yh)<0):=by omega
 simp[YH,Yu ht,Yu hu,Yak,Yaa,Yaz,fe.info,fe.zero,asInt,YaR,Ae7,ALG,AqV,hn,AKL,AKJ,Question.forced,run_firstCells_none,newRow,grownCap];exact λh=>Y7 h AdG
theorem Au6{T:Yr->Ya TI}(hT:TOk P T){kk:K β}{c:Call}(ho:o.op=.call c)(hc:c.callee=.builtin .append){x y:Y2}{t u:Yr}{nx:Yn}(ha:c.args.toList=[x,y])(Cz:c.argTypes.toList=[t,u])(hk:qP T bl nx t u (ρ x) (ρ y) kk=Yg r):Sound P o ρ bl kk r:=by
 have Bv:c.args=#[x,y]:=by rw[<-GZ (xs:=c.args),ha]
 have Zq:c.argTypes=#[t,u]:=by rw[<-GZ (xs:=c.argTypes),Cz]
 have Cq:x∈o.op.operands:=by simp[ho,Yt,YE,Bv]
 have E6:y∈o.op.operands:=by simp[ho,Yt,YE,Bv]
 unfold qP at hk;split at hk
 ·rename_i ti tu ki m AMh AMj hm
  obtain⟨i,d,z,f⟩:=hT.facts AMh;obtain⟨i2,d2,z2,f2⟩:=hT.facts AMj;split at hk
  ·rename_i hx
   split at hk
   ·rename_i et kd C8 CC Nn
    have hd:=He f C8 CC;subst hd
    obtain rfl:d2=.int kd:=by rw[f2.kind]at Nn;cases d2<;>simp_all [R2]
    split at hk
    ·cases hk
    rename_i te Cg;obtain⟨i',d',z',fe⟩:=hT.facts Cg;split at hk
    ·cases hk
    rename_i e Tf;split at hk
    ·rename_i z0 Js hn
     cases hs:(Yo e.size te.size&&(Y0 0 te.size&&Y0 0 te.bytes))with
     |false=>rw[hs]at hk;cases hk
     |true=>
      obtain⟨Bx,Ls⟩:=andB hs;obtain⟨AW,E5⟩:=andB Ls;have Bx:=AB Bx;have AW:=Ea AW;have E5:=Ea E5;simp only[hs,As]at hk;obtain⟨DK,hk⟩:=DN hk;obtain⟨c1,c2⟩:=andB DK;have c1:=Bd c1;have c2:=Bd c2;refine⟨_,_,_,hk,λAb Ai=>?_⟩;have Dq:Ab nx=Yf:=(Ai nx (by simp)).trans hn;intro ok0 base pl w a hr Ae K Q hK;have hv:a.eval x=.slice Yf 0 0:=by have:=Ae x Cq;rw[hx]at this;exact this
      have hy:a.eval y=.int ki m:=by have:=Ae y E6;rw[P0 hm]at this;exact this
      obtain⟨m,rfl⟩:∃q:Yn,m=(q:Yh):=⟨m.toNat,by omega⟩;simp only[Bh]at c2 hk hK⊢
      have IG:z'.cells.size=te.size:=by have:=fe.len;rw[Hq]at this;rw[this,fe.size]
      have Zx:DRep w (At ok0 base pl Ab w).ok e z0 z'.cells.toList:=Py hr.blksOk (Rows.none _ _) (by rw[fe.zeroC];exact NH fe.one) Js;have Ms:DList (λx u=>DRep w (At ok0 base pl Ab w).ok e x u) (Y8 m z0) (repL m z'.cells.toList):=DList.rep Zx _;have IF:=Ms.length;simp only[N8]at IF
      have AJ:∃v' w',(YH #[t,u] o.type #[a.eval x,a.eval y]).run P w=.ok v' w'/\w.grownBy w' Yf/\w'.ownsRow w.heap.size et e.size v' m (repL m z'.cells.toList):=by
       rw[hv,hy];rcases ZW m with h0|h0
       ·subst h0
        refine⟨.slice Yf 0 0,w,?_,⟨rfl,rfl,rfl,Av _,λ_ _ _=>rfl⟩,YL w w.heap.size et e.size⟩;have Ae7:Yc.wrap (0:Yh)=0:=by decide
        simp[YH,Yu f.under,Yu f2.under,Yak,Yaa,fe.info,asInt,YaR,Ae7]
       ·refine⟨_,_,Au5 fe f.under f2.under h0 E5 c2 AW,⟨rfl,rfl,rfl,by simp,λk hk _=>heap_alloc_old w.drew _ k hk⟩,IF,.inr ⟨w.heap.size,_,_,rfl,Av _,YaW w.drew _,grownCap_ge w m 0 et,grownCap_le_maxLen w m 0 et ?_,?_,?_⟩⟩
        ·simp only[AR,Yaj]at c2⊢
         have h1:m*1<=m*te.bytes:=Ybj _ E5;omega
        ·have:=grownCap_ge w m 0 et
         simp only[Array.size_append,size_zeroCells,IG,Bx,<-LC];congr 1;omega
        ·rw[Array.toList_append,AfI z'.cells (by omega) m,<-IF]
         exact aH
      obtain⟨v',w',AJ,XO,Aq⟩:=AJ;have hp:∀g,(Pl.row v' []).has g->w.heap.size<=g:=λg hg=>(Aq.lt g (Pl.has_row hg)).1;have Ce:Step pl Ab w (upd pl nx (.row v' [])) (upd Ab nx (.row et e 0 (Y8 m z0))) w':=Step.new hr Dq XO hp;have Mi:(Y3 a.eval o).run P w=.ok (.value v') w':=by simp[Y3,ho,resolve,hc,Bv,Zq,invoke,builtin,AJ]
      refine HR Mi (hK v' (upd pl nx (.row v' [])) w' ?_ Ce ?_)
      ·refine RelB.new hr Dq XO hp ⟨rfl,repL m z'.cells.toList,Ms.mono λx u hu=>hu.mono Ce.ext.heap,?_⟩
       rw[N8];exact Uy Aq hr.baseLe
      ·refine⟨?_,v',[],by simp[At,upd],λt1 e1 Da l1 h1=>?_⟩
       ·rcases Aq.2 with⟨rfl,_⟩|⟨g,cap,Ba,rfl,_⟩<;>rfl
       ·simp only[At,updL,upd,D6,Af]at h1
        injection h1 with q1 q2 q3 q4;subst q3;exact⟨Av _,λ_=>rfl⟩
    ·cases hk
   ·cases hk
  ·cases hk
 ·cases hk
end
end Go.Lift
namespace Go.Lift
open Go.RowKit
theorem NI{f:Yn->Ya Blk}:∀{l m:Ye (Yn×Blk)},updL f (l++m)=updL (updL f l) m
 |[],_=>rfl
 |(j,x)::l,m=>by simp only[G0,updL];exact NI
theorem bT:∀{ids:Ye Yn}{f:Yn->Ya Blk}{k:Yn},updL f (dead ids) k=if k∈ids then Yg .dead else f k
 |[],_,_=>by simp[dead,updL]
 |i::r,f,k=>by
  simp only[dead,updL];rw[bT];by_cases h1:k∈r
  ·simp[h1]
  ·by_cases h2:k=i
   ·subst h2;simp[h1,upd]
   ·simp[h1,h2,upd]
theorem Ir{x:Yn}:∀{l:Ye Yn},memB x l=Yp↔x∈l
 |[]=>by simp[memB]
 |y::r=>by
  simp only[memB,Pf,Ir (l:=r),Bl];constructor
  ·rintro(h|h)
   ·exact .inl (AB h)
   ·exact .inr h
  ·rintro(h|h)
   ·subst h;exact .inl (Pq x)
   ·exact .inr h
theorem R6:∀{l:Ye Yn},JX l=Yp->l.Nodup
 |[],_=>List.nodup_nil
 |x::r,h=>by obtain⟨h1,h2⟩:=andB h;refine NB.2 ⟨λhm=>?_,R6 h2⟩;have:=Ir.2 hm;rw[this]at h1;cases h1
structure Many (pl:Yn->Ya Pl) (bl:Yn->Ya Blk) (w:Yx) (Ak:Yn->Ya Pl) (bl':Yn->Ya Blk) (w':Yx) (ids:Ye Yn) (og:Ya Yn):Prop where
 out:∀k,k∉ids->Ak k=pl k/\bl' k=bl k
 grown:w.grownBy w' og
 og:∀g,og=Yg g->∃i∈ids,CA pl bl i g
 new:∀k∈ids,∀g,CA Ak bl' k g->(∃i∈ids,CA pl bl i g)\/w.heap.size<=g
 sep:∀k∈ids,∀m∈ids,k≠m->∀g,CA Ak bl' k g->¬CA Ak bl' m g
 cells:∀k∈ids,∀g,pl k≠Yg (.cells g)
 rows:∀k∈ids,∀sv Ac,pl k=Yg (.row sv Ac)->∃AS By,Ak k=Yg (.row AS By)/\KeepR (bl k) (bl' k) sv Ac AS By
section
variable{P:Yw}{ok0:OK0 P}{base:Yn}{pl Ak:Yn->Ya Pl}{bl bl':Yn->Ya Blk}{w w':Yx}{ids:Ye Yn}{og:Ya Yn}
theorem Many.step(h:Many pl bl w Ak bl' w' ids og):Step pl bl w Ak bl' w':=by
 have hOwn:∀k g,CA pl bl k g->Own pl bl g:=λk g ⟨B,p,h1,h2,h3,h4⟩=>⟨k,B,p,h1,h2,h3,h4⟩;have hg:=h.grown;refine⟨hg.os,hg.tape,hg.output,hg.size,λg Ax ho=>⟨hg.block g Ax (λe=>?_),?_⟩,λb g hb=>?_,λb sv Ac hb=>?_⟩
 ·obtain⟨i,_,hi⟩:=h.og g e.symm
  exact ho (hOwn i g hi)
 ·rintro⟨k,C,q,hC,hl,hq,B7⟩
  by_cases hk:k∈ids
  ·rcases h.new k hk g ⟨C,q,hC,hl,hq,B7⟩with⟨i,_,hi⟩|hi
   ·exact ho (hOwn i g hi)
   ·omega
  ·obtain⟨h1,h2⟩:=h.out k hk
   rw[h2]at hC;rw[h1]at hq;exact ho ⟨k,C,q,hC,hl,hq,B7⟩
 ·by_cases hk:b∈ids
  ·exact Y7 hb (h.cells b hk g)
  ·rw[(h.out b hk).1];exact hb
 ·by_cases hk:b∈ids
  ·exact h.rows b hk sv Ac hb
  ·obtain⟨h1,h2⟩:=h.out b hk
   exact⟨sv,Ac,by rw[h1];exact hb,KeepR.of_eq (λC hC=>by rw[<-h2];exact hC) _ _⟩
theorem Many.rel(hr:RelB ok0 base pl bl w)(h:Many pl bl w Ak bl' w' ids og)(hB:∀k∈ids,∃B p,bl' k=Yg B/\Ak k=Yg p/\BRep (At ok0 base Ak bl' w') B p):RelB ok0 base Ak bl' w':=by
 have hs:=h.step
 have Nr:∀k C q g,k∉ids->bl k=Yg C->C.live=Yp->pl k=Yg q->q.has g->w'.heap[g]?=w.heap[g]?/\∀m∈ids,¬CA Ak bl' m g:=by
  intro k C q g hk hC hl hq B7;have Ax:g<w.heap.size:=Own.lt hr ⟨k,C,q,hC,hl,hq,B7⟩;have Np:∀m∈ids,¬CA pl bl m g:=λm hm ⟨B,p,h1,h2,h3,h4⟩=>hr.sep k m C B q p g (λe=>hk (e▸hm)) hC h1 hl h2 hq h3 B7 h4;refine⟨h.grown.block g Ax (λe=>?_),λm hm ho=>?_⟩
  ·obtain⟨i,hi,ho⟩:=h.og g e.symm
   exact Np i hi ho
  ·rcases h.new m hm g ho with⟨i,hi,ho⟩|ho
   ·exact Np i hi ho
   ·omega
 refine⟨DC hr.baseLe hs.size,λk C hC=>?_,λk m C D q r g JI hC hD hlC hlD hq BA B7 Tq=>?_,λk hk=>?_,hr.glob.out hs.size hs.out⟩
 ·by_cases hk:k∈ids
  ·obtain⟨B,p,h1,h2,h3⟩:=hB k hk
   rw[hC]at h1;injection h1 with h1;subst h1;exact⟨p,h2,h3⟩
  ·obtain⟨h1,h2⟩:=h.out k hk
   rw[h2]at hC;obtain⟨q,hq,hBq⟩:=hr.blks k C hC;refine⟨q,by rw[h1];exact hq,?_⟩;cases hl:C.live with
   |false=>cases C<;>first|exact trivial|simp[Blk.live]at hl
   |true=>exact BRep.mono hs.ext hBq λg B7=>(Nr k C q g hk hC hl hq B7).1
 ·by_cases hk:k∈ids
  ·by_cases hm:m∈ids
   ·exact h.sep k hk m hm JI g ⟨C,q,hC,hlC,hq,B7⟩ ⟨D,r,hD,hlD,BA,Tq⟩
   ·obtain⟨h1,h2⟩:=h.out m hm
    rw[h2]at hD;rw[h1]at BA;exact(Nr m D r g hm hD hlD BA Tq).2 k hk ⟨C,q,hC,hlC,hq,B7⟩
  ·obtain⟨h1,h2⟩:=h.out k hk
   rw[h2]at hC;rw[h1]at hq;by_cases hm:m∈ids
   ·exact(Nr k C q g hk hC hlC hq B7).2 m hm ⟨D,r,hD,hlD,BA,Tq⟩
   ·obtain⟨h3,h4⟩:=h.out m hm
    rw[h4]at hD;rw[h3]at BA;exact hr.sep k m C D q r g JI hC hD hlC hlD hq BA B7 Tq
 ·by_cases hm:k∈ids
  ·obtain⟨B,p,h1,_⟩:=hB k hm
   rw[hk]at h1;cases h1
  ·obtain⟨h1,h2⟩:=h.out k hm
   rw[h2]at hk;rw[h1];exact hr.fresh k hk
end
abbrev MD(s r:Value):Prop:=∀g,s.ownBlock=some g->r.ownBlock≠some g
def Au7(P:Yw)(E:Env)(t ty et:Yr)(bytes:Yn)(e:OT)(new:Ye e.ty.den)(u:Yq)(Fu:Ye Yq):Prop:=
 ∀(base:Yn)(v:Yq)(n:Yn)(xs:Ye Yq),base<=E.w.heap.size->E.w.ownsRow base et e.ty.size v n xs->(n+new.length)*bytes<=AR->
  ∃v' w' ys,(YH #[t,t] ty #[v,u]).run P E.w=.ok v' w'/\w'.ownsRow base et e.ty.size v' (n+new.length) (xs++ys)/\E.w.grownBy w' v.ownBlock/\(v'.ownBlock=v.ownBlock\/v'.ownBlock=Yg E.w.heap.size)/\
   ∀hv,OL (λ_ x f F=>Owns E.w E.ok E.base hv e Yf x f F) 0 new ys Fu
section
variable{P:Yw}{E E':Env}
theorem rM{bl:Yn->Ya Blk}(hb:Ez E){t ty et:Yr}{te:TI}{i:YN}{d:YD}{z:Yq}(fe:TFacts P et te i d z)(ht:P.underlying t=Yg (.slice et)){e:OT}(Ie:e.ty.size=te.size)(Ih:0<te.size)(G6:0<te.bytes){y:V}{new:Ye e.ty.den}{rd dd:Ye Yn}(h:srcT bl et e y=Yg (new,rd,dd))(AX:∀b∈rd,E.bl b=bl b){u:Yq}(hv:VRep E y u):∃Fu,Au7 P E t ty et te.bytes e new u Fu/\Fu.Pairwise MD/\(∀s∈Fu,∀g,s.ownBlock=Yg g->∃i∈dd,CA E.pl E.bl i g)/\dd.Nodup/\∀i∈dd,i∈rd/\∃B sv Ac,E.bl i=Yg B/\B.live=Yp/\E.pl i=Yg (.row sv Ac):=by
 unfold srcT at h;split at h
 ·split at h
  ·rename_i q hq
   simp only[Af,Cb]at h;obtain⟨rfl,rfl,rfl⟩:=h;have FM:=R5 hb (l:=q.1) (rd:=q.2) hq (λb AE B hB=>(AX b AE).trans hB) hv;refine⟨[],λbase v n xs Mg Aq DK=>?_,by simp,by simp,by simp,by simp⟩;obtain⟨v',w',ys,h1,h2,h3,h4,h5⟩:=rK (P:=P) (ty:=ty) base fe ht Ie Ih G6 Aq FM DK Mg;exact⟨v',w',ys,h1,h2,h3,h4,λhv=>rB h5⟩
  ·cases h
 ·split at h
  ·rename_i r m hm
   split at h
   ·rename_i Cz
    obtain⟨⟨m1,m2⟩,m3⟩:=m;simp only[Cb]at Cz;obtain⟨rfl,rfl⟩:=Cz;simp only[Af,Cb]at h;obtain⟨rfl,rfl,rfl⟩:=h;obtain⟨Ac,Fr,B,k1,k2,_,k3,k4,k5,k6⟩:=rC hb hm (AX r (by simp)) hv;have Ig:B.live=Yp:=by cases B<;>first|rfl|exact Y7 rfl k2
    refine⟨Fr,λbase v n xs Mg Aq DK=>?_,(Fs.1 k6).2,λs hs g hg=>⟨r,by simp,B,_,k1,Ig,k3,Pz k5 (by simp[hs]) hg⟩,by simp,λi hi=>?_⟩
    ·obtain⟨sv0,xs0,F0,e1,e2,o1,o2⟩:=k4 u
     have e1:=(LB e1).1;subst e1;have e2:=(LB e2).2;subst e2;have Ng:∀x∈xs0,x.oneCell'=Yp:=OL.all (λ_ _ _ _ h=>Owns.oneCell h) o2;have o1':E.w.ownsRow E.base m1 te.size u (List.length m3) xs0:=Ie▸o1;obtain⟨v',w',h1,h2,h3,h4⟩:=AtY (P:=P) (ty:=ty) base fe ht Ih G6 (Ie▸Aq) o1' Ng DK Mg;refine⟨v',w',xs0,h1,Ie▸h2,h3,h4,λhv=>o2.mono λ_ _ _ _ _ h=>Owns.any h⟩
    ·simp only[DY]at hi
     subst hi;exact⟨by simp,B,u,Ac,k1,Ig,k3⟩
   ·cases h
  ·cases h
theorem rN(hx:Ext E E')(Cs:E'.base=E.base){et:Yr}{e:OT}{l new:Ye e.ty.den}{v':Yq}{Fn Fu xs ys:Ye Yq}(hL:OL (λ_ x f F=>Owns E.w E.ok E.base v' e Yf x f F) 0 l xs Fn)(hN:OL (λ_ x f F=>Owns E.w E.ok E.base v' e Yf x f F) 0 new ys Fu)(Ji:∀s∈Fn++Fu,∀g,s.ownBlock=Yg g->E'.w.heap[g]?=E.w.heap[g]?)(Aq:E'.w.ownsRow E.base et e.ty.size v' (l.length+new.length) (xs++ys))(Jq:(v'::(Fn++Fu)).Pairwise MD):TreeOk E' et e Yf (l++new) v' ((Fn++Fu).map Yg):=by
 have hb:E'.base<=E.base:=by rw[Cs];exact Av _
 refine⟨⟨v',Fn++Fu,⟨v',xs++ys,Fn++Fu,rfl,rfl,?_,?_⟩,rfl,Jq⟩,by simp⟩
 ·rw[Cs,AQ];exact Aq
 ·exact OL.append (λ_ _ _ _ _ h=>h) (hL.mono λ_ _ _ f hf h=>Owns.mono hb hx.heap (λs hs=>Ji s (D5 _ (hf s hs))) h) (hN.mono λ_ _ _ f hf h=>Owns.mono hb hx.heap (λs hs=>Ji s (DW _ (hf s hs))) h)
theorem TreeOk.take{t:Yr}{e:OT}{l:Ye e.ty.den}{sv:Yq}{Ac:Ye (Ya Yq)}(hT:TreeOk E t e Yf l sv Ac){i0:Yn×Yn}{p:Path}{n:Fg}(hn:BL (.r t e) l 0 (i0::p)=Yg n){v:Yq}(hs:(Yg sv::Ac)[nix (.r t e) l 0 (i0::p)]?=Yg (Yg v)):∃Fn L1,Owns E.w E.ok E.base v (.r n.1.1 n.1.2) Yf n.2 [v] (v::Fn)/\(v::Fn).Pairwise MD/\(∀s∈v::Fn,∀g,s.ownBlock=Yg g->(Pl.row sv Ac).has g)/\(∀g,(Pl.row sv L1).has g->(Pl.row sv Ac).has g/\∀s∈v::Fn,s.ownBlock≠Yg g)/\(∀c,KeepT c t e Yf (Yg (i0::p)) l l sv Ac L1)/\∀E',Ext E E'->E'.base=E.base->(∀g,(Pl.row sv L1).has g->E'.w.heap[g]?=E.w.heap[g]?)->TreeOk E' t e (Yg (i0::p)) l sv L1:=by
 obtain⟨s',Fn,G1,G2,_,h2,h3,h4,h5,h6,h7⟩:=hT.node hn;rw[hs]at h4;injection h4 with h4;injection h4 with h4;subst h4
 have Ih:0<G1.length:=by
  rw[h2];cases hx:(l:Ye e.ty.den)[i0.1]? with
  |none=>simp[BL,hx]at hn
  |some x=>simp only[nix,hx];omega
 obtain⟨A,hA⟩:∃A,G1=sv::A:=by
  cases G1 with
  |nil=>simp at Ih
  |cons a G1=>rw[G0,CH]at h3;injection h3 with h3 _;injection h3 with h3;exact⟨G1,by rw[h3]⟩
 subst hA;have AKZ:(v::Fn).length=cnt (.r n.1.1 n.1.2) n.2:=h5.cnt;have D9:∀s∈sv::A++(v::Fn++G2),∀g,s.ownBlock=Yg g->(Pl.row sv Ac).has g:=λs hs g hg=>Pz h3 hs hg
 have hH:∀g,(Pl.row sv (A.map Yg++(Y8 (cnt (.r n.1.1 n.1.2) n.2) Yf++G2.map Yg))).has g->∃s∈sv::A++G2,s.ownBlock=Yg g:=λg h=>by
  rcases h with h|⟨j,s,hj,h⟩
  ·exact⟨sv,by simp,h⟩
  ·have:=Dg hj
   simp only[C5,Hb,Af,exists_eq_right,List.mem_replicate,reduceCtorEq,and_false,false_or]at this;exact⟨s,by simp only[G0,Bl,C5];exact .inr this,h⟩
 have AX:∀s,s∈sv::A++G2->s∈sv::A++(v::Fn++G2):=λs hs=>by simp only[G0,Bl,C5]at hs⊢;rcases hs with h|h|h<;>simp[h]
 have Jq:=FS.1 h7;have ArC:=FS.1 Jq.2.1
 have AKN:∀s∈sv::A++G2,∀r∈v::Fn,MD s r:=λs hs r hr=>by
  rcases C5.1 hs with h|h
  ·exact Jq.2.2 s h r (D5 _ hr)
  ·exact λg g1 g2=>ArC.2.2 r hr s h g g2 g1
 refine⟨Fn,A.map Yg++(Y8 (cnt (.r n.1.1 n.1.2) n.2) Yf++G2.map Yg),h5,ArC.1,λs hs g hg=>D9 s (by simp only[C5];exact .inr (.inl hs)) g hg,λg h=>?_,λc q hq ho=>⟨λ_ h=>(by cases h),λn' E4=>⟨n',E4,rfl,rfl,λs hs=>?_⟩⟩,λE' hx Mg hh=>⟨⟨v,A++G2,?_,⟨n,sv::A,G2,hn,rfl,h2,rfl⟩,?_⟩,by simp⟩⟩
 ·obtain⟨s,hs,hg⟩:=hH g h
  exact⟨D9 s (AX s hs) g hg,λr hr=>AKN s hs r hr g hg⟩
 ·rw[h3]at hs
  have AO:¬((0:Yn)=0/\(i0::p)<+:q):=λh=>ho _ rfl h.2;rw[IR,IR]at hs;show((sv::A).map Yg++(Y8 (cnt (.r n.1.1 n.1.2) n.2) Yf++G2.map Yg))[nix (.r t e) l 0 q]?=Yg (Yg s);rcases aP hn E4 AO with h|h
  ·rw[<-h2]at h
   rw[HO (by simpa using h)]at hs⊢;exact hs
  ·rw[<-h2]at h
   rw[Gy (by simp only[HQ];omega),Gy (by simp only[HQ];omega)]at hs;rw[Gy (by simp only[HQ];omega),Gy (by simp only[HQ,N8];omega)];rw[<-hs,HQ,HQ,N8,AKZ]
 ·have hb:E'.base<=E.base:=by rw[Mg];exact Av _
  exact Owns.mono hb hx.heap (λs hs g hg=>hh g (by
   rcases C5.1 (show s∈(sv::A)++G2 from hs)with h|h
   ·rcases Bl.1 h with h|h
    ·exact .inl (h▸hg)
    ·obtain⟨j,hj⟩:=Rc.1 h
     exact .inr ⟨j,s,by rw[HO (by simpa using(Fe.1 hj).1),Gz,hj];rfl,hg⟩
   ·obtain⟨j,hj⟩:=Rc.1 h
    refine .inr ⟨A.length+(cnt (.r n.1.1 n.1.2) n.2+j),s,?_,hg⟩;rw[Gy (by simp),Gy (by simp)];simp[hj])) h6
 ·rw[G0]at h7
  show(sv::(A++G2)).Pairwise MD;refine h7.sublist ?_;rw[<-G0];exact List.Sublist.append (List.Sublist.refl _) (List.sublist_append_right _ _)
end
section
variable{P:Yw}{o:Oper}{ρ:Y2->V}{bl:Yn->Ya Blk}{β:Type}{r:β}
theorem rO{E:Env}{b ver:Yn}{t:Yr}{e:OT}{Ah:Yn}{h:Ya Path}{l:Ye e.ty.den}{v:Yq}{Ac:Ye (Ya Yq)}(h1:v.oneCell'=Yp)(Bp:E.pl b=Yg (.row v Ac))(Ap:E.bl b=Yg (.tree t e ver Ah h l)):VRep E (.c (.trow b ver [])) v:=by refine⟨h1,v,Ac,Bp,λt1 e1 Da HK IC l1 BE=>?_⟩;rw[Ap]at BE;injection BE with BE;injection BE with q1 q2 q3 q4 q5 q6;subst q1 q2 q3 q4 q5;simp only[Jx]at q6;subst q6;exact⟨Av _,λ_ _=>⟨_,rfl,rfl⟩⟩
theorem AfJ{ok0:OK0 P}{base:Yn}{pl:Yn->Ya Pl}{Ab:Yn->Ya Blk}{w w':Yx}(hr:RelB ok0 base pl Ab w){nx:Yn}(Dq:Ab nx=Yf){dd:Ye Yn}{Fu:Ye Yq}(q2:Fu.Pairwise MD)(q3:∀s∈Fu,∀g,s.ownBlock=Yg g->∃i∈dd,CA pl Ab i g)(q5:∀i∈dd,∃B sv Ac,Ab i=Yg B/\B.live=Yp/\pl i=Yg (.row sv Ac)){et:Yr}{e:OT}{new:Ye e.ty.den}{v':Yq}{ys:Ye Yq}(Do:w.grownBy w' Yf)(Cp:∀g,v'.ownBlock=Yg g->g=w.heap.size)(hOL:∀hv,OL (λ_ x f F=>Owns w (At ok0 base pl Ab w).ok base hv e Yf x f F) 0 new ys Fu)(Aq:w'.ownsRow base et e.ty.size v' new.length ys):∃pl3,RelB ok0 base pl3 (updL Ab (dead dd++[(nx,.tree et e 0 0 Yf new)])) w'/\Step pl Ab w pl3 (updL Ab (dead dd++[(nx,.tree et e 0 0 Yf new)])) w'/\VRep (At ok0 base pl3 (updL Ab (dead dd++[(nx,.tree et e 0 0 Yf new)])) w') (.c (.trow nx 0 [])) v':=by
 have ID:nx∉dd:=λh=>by obtain⟨B,_,_,h1,_⟩:=q5 nx h;rw[show Ab nx=Yg B from h1]at Dq;cases Dq
 have Dz:∀k,updL Ab (dead dd++[(nx,.tree et e 0 0 Yf new)]) k=if k=nx then Yg (.tree et e 0 0 Yf new)else if k∈dd then Yg .dead else Ab k:=λk=>by simp only[NI,updL,upd,bT]
 generalize updL Ab (dead dd++[(nx,.tree et e 0 0 Yf new)])=bl3 at*;have EY:∀k,upd pl nx (.row v' (Fu.map Yg)) k=if k=nx then Yg (.row v' (Fu.map Yg))else pl k:=λk=>rfl;generalize ArA:upd pl nx (.row v' (Fu.map Yg))=pl3 at*
 have Ax:∀s∈Fu,∀g,s.ownBlock=Yg g->g<w.heap.size:=λs hs g hg=>by obtain⟨i,_,B,p,h⟩:=q3 s hs g hg;exact Own.lt hr ⟨i,B,p,h⟩
 have I9:∀k∈dd,∀g,¬CA pl3 bl3 k g:=λk hk g h=>by obtain⟨B,p,h1,h2,_⟩:=h;have DV:¬k=nx:=λe=>ID (e▸hk);rw[Dz,Yy DV,Y1 hk]at h1;injection h1 with h1;subst h1;cases h2
 have hm:Many pl Ab w pl3 bl3 w' (nx::dd) Yf:=by
  refine⟨λk hk=>?_,Do,λg h=>(by cases h),λk hk g h=>?_,λk hk m hm JI g h1 h2=>?_,λk hk g h=>?_,λk hk sv Ac h=>?_⟩
  ·simp only[Bl,not_or]at hk
   rw[EY,Dz,Yy hk.1,Yy hk.1,Yy hk.2];exact⟨rfl,rfl⟩
  ·rcases Bl.1 hk with rfl|hk
   ·obtain⟨B,p,_,_,h1,h2⟩:=h
    rw[EY,Y1 rfl]at h1;injection h1 with h1;subst h1;rcases h2 with h2|⟨j,s,hj,h2⟩
    ·exact .inr (M4 (Cp g h2).symm)
    ·rw[Gz,TJ]at hj
     obtain⟨s',hj,he⟩:=hj;injection he with he;subst he;obtain⟨i,hi,ho⟩:=q3 s' (Dg hj) g h2;exact .inl ⟨i,DX _ hi,ho⟩
   ·exact Y7 h (I9 k hk g)
  ·rcases Bl.1 hk with rfl|hk
   ·rcases Bl.1 hm with rfl|hm
    ·exact JI rfl
    ·exact I9 m hm g h2
   ·exact I9 k hk g h1
  ·rcases Bl.1 hk with rfl|hk
   ·rw[hr.fresh k Dq]at h;cases h
   ·obtain⟨_,_,_,_,_,h1⟩:=q5 k hk
    rw[show pl k=_ from h1]at h;cases h
  ·rcases Bl.1 hk with rfl|hk
   ·rw[hr.fresh k Dq]at h;cases h
   ·have DV:¬k=nx:=λe=>ID (e▸hk)
    exact⟨sv,Ac,by rw[EY,Yy DV];exact h,by rw[Dz,Yy DV,Y1 hk];exact KeepR.ofDead⟩
 have Ce:=hm.step
 have hT2:TreeOk (At ok0 base pl3 bl3 w') et e Yf new v' (Fu.map Yg):=rN (E:=At ok0 base pl Ab w) Ce.ext rfl (l:=[]) (Fn:=[]) (xs:=[]) ⟨rfl,rfl⟩ (hOL v')
  (λs hs g hg=>Do.block g (Ax s hs g hg) (by simp)) (by rw[Ft,DZ];exact Aq) (by
   rw[GA,Fs];exact⟨λs hs g h1 h2=>by have:=Ax s hs g h2;have:=Cp g h1;omega,q2⟩)
 refine⟨pl3,?_,Ce,?_⟩
 ·refine hm.rel hr λk hk=>?_
  rcases Bl.1 hk with rfl|hk
  ·exact⟨.tree et e 0 0 Yf new,.row v' (Fu.map Yg),by rw[Dz,Y1 rfl],by rw[EY,Y1 rfl],hT2⟩
  ·have DV:¬k=nx:=λe=>ID (e▸hk)
   obtain⟨_,_,_,_,_,h1⟩:=q5 k hk;exact⟨.dead,_,by rw[Dz,Yy DV,Y1 hk],by rw[EY,Yy DV];exact h1,trivial⟩
 ·exact rO (Rm Aq) (by show pl3 nx=_;rw[EY,Y1 rfl]) (by show bl3 nx=_;rw[Dz,Y1 rfl])
theorem Au8{X:Ye (Yr×OT)}{T:Yr->Ya TI}(hT:TOk P T){kk:K β}{c:Call}(ho:o.op=.call c)(hc:c.callee=.builtin .append){x y:Y2}{t:Yr}{nx:Yn}(ha:c.args.toList=[x,y])(Cz:c.argTypes.toList=[t,t])(hk:qN X T bl nx t (ρ x) (ρ y) kk=Yg r):Sound P o ρ bl kk r:=by
 have Bv:c.args=#[x,y]:=by rw[<-GZ (xs:=c.args),ha]
 have Cq:x∈o.op.operands:=by simp[ho,Yt,YE,Bv]
 have E6:y∈o.op.operands:=by simp[ho,Yt,YE,Bv]
 unfold qN at hk;split at hk
 ·cases hk
 rename_i ti ht;obtain⟨i,d,z,f⟩:=hT.facts ht;split at hk
 ·rename_i et C8 CC
  have hd:=He f C8 CC;subst hd;split at hk
  ·cases hk
  rename_i te Cg;obtain⟨i',d',z',fe⟩:=hT.facts Cg;split at hk
  ·
   rename_i hx;split at hk
   ·cases hk
   rename_i e _;cases hs:(Yo e.ty.size te.size&&(Y0 0 te.size&&Y0 0 te.bytes))with
   |false=>rw[hs]at hk;cases hk
   |true=>
    simp only[hs,As]at hk;obtain⟨Bx,Ls⟩:=andB hs;obtain⟨AW,E5⟩:=andB Ls;have Bx:=AB Bx;have AW:=Ea AW;have E5:=Ea E5;split at hk
    ·rename_i new rd dd FN hn
     obtain⟨DK,hk⟩:=DN hk;have DK:=Bd DK;refine⟨_,_,_,hk,λAb Ai=>?_⟩;have Dq:Ab nx=Yf:=(Ai nx (by simp)).trans hn;intro ok0 base pl w a hr Ae K Q hK;have hv:a.eval x=.slice Yf 0 0:=by have:=Ae x Cq;rw[hx]at this;exact this
     obtain⟨Fu,q1,q2,q3,q4,q5⟩:=rM (P:=P) (E:=At ok0 base pl Ab w) (t:=t) (ty:=o.type) hr.blksOk fe f.under Bx AW E5 FN (λb hb=>Ai b (by simp[hb])) (Ae y E6);obtain⟨v',w',ys,AJ,Aq,Do,Mk,hOL⟩:=q1 base (.slice Yf 0 0) 0 [] hr.baseLe (YL w base et e.ty.size) (by simpa using DK);have Do:w.grownBy w' Yf:=Do;have Aq:w'.ownsRow base et e.ty.size v' (0+new.length) ([]++ys):=Aq
     obtain⟨pl3,z1,z2,z3⟩:=AfJ hr Dq q2 q3 (λi hi=>(q5 i hi).2) Do (λg hg=>by
      rcases Mk with h|h
      ·rw[h]at hg;cases hg
      ·rw[h]at hg;injection hg with hg;exact hg.symm) hOL (by simpa using Aq)
     exact HR (Uz ho hc ha Cz (by rw[hv];exact AJ)) (hK v' pl3 w' z1 z2 z3)
    ·cases hk
  ·
   rename_i b ver hx;split at hk
   ·rename_i t0 e ver' Ah l hb
    cases hs:(Yo ver ver'&&(Yo t0 et&&(Yo e.ty.size te.size&&(Y0 0 te.size&&Y0 0 te.bytes))))with
    |false=>rw[hs]at hk;cases hk
    |true=>
     simp only[hs,As]at hk;obtain⟨AY,hs⟩:=andB hs;obtain⟨Zn,hs⟩:=andB hs;obtain⟨Bx,Ls⟩:=andB hs;obtain⟨AW,E5⟩:=andB Ls;have:=AB AY;subst this;have:=AB Zn;subst this;have Bx:=AB Bx;have AW:=Ea AW;have E5:=Ea E5;split at hk
     ·rename_i new rd dd FN
      obtain⟨Adt,hk⟩:=DN hk;obtain⟨D9,DK⟩:=andB Adt;have DK:=Bd DK;have Adk:b∉rd:=λh=>by rw[Ir.2 h]at D9;cases D9
      refine⟨_,_,_,hk,λAb Ai=>?_⟩;have AE:Ab b=Yg (.tree t0 e ver Ah Yf l):=(Ai b (by simp)).trans hb;intro ok0 base pl w a hr Ae K Q hK;have hv:=Ae x Cq;rw[hx]at hv;obtain⟨Ac,Bp,hTr⟩:=bL (E:=At ok0 base pl Ab w) hr.blksOk AE hv;have Bp:pl b=Yg (.row (a.eval x) Ac):=Bp;obtain⟨OQ,F,h1,h2,h3⟩:=hTr.rep;have h2:Yg (a.eval x)::Ac=(a.eval x::F).map Yg:=h2;obtain⟨sv0,xs,F0,e1,e2,o1,o2⟩:=h1;have e1:=(LB e1).1;subst e1;have e2:=(LB e2).2;subst e2;generalize Ae6:a.eval x=v at*;obtain⟨Fu,q1,q2,q3,q4,q5⟩:=rM (P:=P) (E:=At ok0 base pl Ab w) (t:=t) (ty:=o.type) hr.blksOk fe f.under Bx AW E5 FN (λb hb=>Ai b (by simp[hb])) (Ae y E6);obtain⟨v',w',ys,AJ,Aq,Do,Mk,hOL⟩:=q1 base v l.length xs hr.baseLe o1 DK;have Do:w.grownBy w' v.ownBlock:=Do;have Nh:b∉dd:=λh=>Adk (q5 b h).1
      have Dz:∀k,updL Ab (dead dd++[(b,.tree t0 e (ver+1) Ah Yf (l++new))]) k=if k=b then Yg (.tree t0 e (ver+1) Ah Yf (l++new))else if k∈dd then Yg .dead else Ab k:=λk=>by simp only[NI,updL,upd,bT]
      generalize updL Ab (dead dd++[(b,.tree t0 e (ver+1) Ah Yf (l++new))])=bl3 at*;have EY:∀k,upd pl b (.row v' ((F++Fu).map Yg)) k=if k=b then Yg (.row v' ((F++Fu).map Yg))else pl k:=λk=>rfl;generalize ArA:upd pl b (.row v' ((F++Fu).map Yg))=pl3 at*;have Gm:∀s∈v::F,∀g,s.ownBlock=Yg g->CA pl Ab b g:=λs hs g hg=>⟨_,_,AE,rfl,Bp,Pz h2 hs hg⟩;have Ax:∀i g,CA pl Ab i g->g<w.heap.size:=λi g ⟨B,p,h⟩=>Own.lt hr ⟨i,B,p,h⟩
      have hltF:∀s∈F++Fu,∀g,s.ownBlock=Yg g->g<w.heap.size:=λs hs g hg=>by
       rcases C5.1 hs with hs|hs
       ·exact Ax b g (Gm s (DX _ hs) g hg)
       ·obtain⟨i,_,h⟩:=q3 s hs g hg;exact Ax i g h
      have hFu:∀s∈Fu,∀g,s.ownBlock=Yg g->¬CA pl Ab b g:=λs hs g hg h=>by obtain⟨i,hi,B,p,k1,k2,k3,k4⟩:=q3 s hs g hg;obtain⟨B',p',m1,m2,m3,m4⟩:=h;exact hr.sep i b B B' p p' g (λe=>Nh (e▸hi)) k1 m1 k2 m2 k3 m3 k4 m4
      have Q0:∀s∈F++Fu,MD v s:=λs hs=>by
       rcases C5.1 hs with hs|hs
       ·exact(Fs.1 h3).1 s hs
       ·exact λg g1 g2=>hFu s hs g g2 (Gm v (by simp) g g1)
      have Cp:∀g,v'.ownBlock=Yg g->v.ownBlock=Yg g\/g=w.heap.size:=λg hg=>by
       rcases Mk with h|h
       ·exact .inl (h▸hg)
       ·rw[h]at hg;injection hg with hg;exact .inr hg.symm
      have I9:∀k∈dd,∀g,¬CA pl3 bl3 k g:=λk hk g h=>by obtain⟨B,p,h1,h2,_⟩:=h;have DV:¬k=b:=λe=>Nh (e▸hk);rw[Dz,Yy DV,Y1 hk]at h1;injection h1 with h1;subst h1;cases h2
      have hm:Many pl Ab w pl3 bl3 w' (b::dd) v.ownBlock:=by
       refine⟨λk hk=>?_,Do,λg h=>⟨b,by simp,Gm v (by simp) g h⟩,λk hk g h=>?_,λk hk m hm JI g h1 h2=>?_,λk hk g h=>?_,λk hk sv By h=>?_⟩
       ·simp only[Bl,not_or]at hk
        rw[EY,Dz,Yy hk.1,Yy hk.1,Yy hk.2];exact⟨rfl,rfl⟩
       ·rcases Bl.1 hk with rfl|hk
        ·obtain⟨B,p,_,_,h1,h2⟩:=h
         rw[EY,Y1 rfl]at h1;injection h1 with h1;subst h1;rcases h2 with h2|⟨j,s,hj,h2⟩
         ·rcases Cp g h2 with h2|h2
          ·exact .inl ⟨k,by simp,Gm v (by simp) g h2⟩
          ·exact .inr (M4 h2.symm)
         ·rw[Gz,TJ]at hj
          obtain⟨s',hj,he⟩:=hj;injection he with he;subst he;rcases C5.1 (Dg hj)with hs|hs
          ·exact .inl ⟨k,by simp,Gm s' (DX _ hs) g h2⟩
          ·obtain⟨i,hi,ho⟩:=q3 s' hs g h2
           exact .inl ⟨i,DX _ hi,ho⟩
        ·exact Y7 h (I9 k hk g)
       ·rcases Bl.1 hk with rfl|hk
        ·rcases Bl.1 hm with rfl|hm
         ·exact JI rfl
         ·exact I9 m hm g h2
        ·exact I9 k hk g h1
       ·rcases Bl.1 hk with rfl|hk
        ·rw[Bp]at h;cases h
        ·obtain⟨_,_,_,_,_,_,h1⟩:=q5 k hk
         rw[show pl k=_ from h1]at h;cases h
       ·rcases Bl.1 hk with rfl|hk
        ·refine⟨_,_,by rw[EY,Y1 rfl],?_⟩
         rw[AE,Dz,Y1 rfl];exact KeepR.ofTree ⟨by omega,Av _,λh=>by omega⟩
        ·have DV:¬k=b:=λe=>Nh (e▸hk)
         exact⟨sv,By,by rw[EY,Yy DV];exact h,by rw[Dz,Yy DV,Y1 hk];exact KeepR.ofDead⟩
      have Ce:=hm.step
      have hT2:TreeOk (At ok0 base pl3 bl3 w') t0 e Yf (l++new) v' ((F++Fu).map Yg):=rN (E:=At ok0 base pl Ab w) Ce.ext rfl (o2.mono λ_ _ _ _ _ h=>Owns.any h) (hOL v')
       (λs hs g hg=>Do.block g (hltF s hs g hg) (λe=>Q0 s hs g e.symm hg)) Aq (by
        rw[Fs,FS];refine⟨λs hs g g1 g2=>?_,(Fs.1 h3).2,q2,λa ha b hb g g1 g2=>hFu b hb g g2 (Gm a (DX _ ha) g g1)⟩;rcases Cp g g1 with g1|g1
        ·exact Q0 s hs g g1 g2
        ·have:=hltF s hs g g2;omega)
      refine HR (Uz ho hc ha Cz (by rw[Ae6];exact AJ)) (hK v' pl3 w' ?_ Ce ?_)
      ·refine hm.rel hr λk hk=>?_
       rcases Bl.1 hk with rfl|hk
       ·exact⟨.tree t0 e (ver+1) Ah Yf (l++new),.row v' ((F++Fu).map Yg),by rw[Dz,Y1 rfl],by rw[EY,Y1 rfl],hT2⟩
       ·have DV:¬k=b:=λe=>Nh (e▸hk)
        obtain⟨_,_,_,_,_,_,h1⟩:=q5 k hk;exact⟨.dead,_,by rw[Dz,Yy DV,Y1 hk],by rw[EY,Yy DV];exact h1,trivial⟩
      ·exact rO (Rm Aq) (by show pl3 b=_;rw[EY,Y1 rfl]) (by show bl3 b=_;rw[Dz,Y1 rfl])
     ·cases hk
   ·cases hk
  ·
   rename_i b ver i0 p hx;split at hk
   ·cases hk
   rename_i q hq;obtain⟨hb,AY,Ars⟩:=bP hq;subst AY;obtain⟨⟨t0,e⟩,l,ver,Ah,n⟩:=q;simp only at hb Ars hx hk;cases hs:(Yo n.1.1 et&&(Yo n.1.2.ty.size te.size&&(Y0 0 te.size&&Y0 0 te.bytes)))with
   |false=>rw[hs]at hk;cases hk
   |true=>
    simp only[hs,As]at hk;obtain⟨Zn,hs⟩:=andB hs;obtain⟨Bx,Ls⟩:=andB hs;obtain⟨AW,E5⟩:=andB Ls;have:=AB Zn;subst this;have Bx:=AB Bx;have AW:=Ea AW;have E5:=Ea E5;split at hk
    ·rename_i new rd dd FN hn
     obtain⟨Adt,hk⟩:=DN hk;obtain⟨D9,DK⟩:=andB Adt;have DK:=Bd DK;have Adk:b∉rd:=λh=>by rw[Ir.2 h]at D9;cases D9
     refine⟨_,_,_,hk,λAb Ai=>?_⟩;have Dq:Ab nx=Yf:=(Ai nx (by simp)).trans hn;have AE:Ab b=Yg (.tree t0 e ver Ah Yf l):=(Ai b (by simp)).trans hb;have Tc:b≠nx:=by rintro rfl;rw[AE]at Dq;cases Dq
     intro ok0 base pl w a hr Ae K Q hK;have hv:=Ae x Cq;rw[hx]at hv;obtain⟨sv,Ac,n',Bp,hTr,E4,KJ⟩:=r9 (E:=At ok0 base pl Ab w) hr.blksOk AE hv;have:=MC E4;rw[Ars]at this;injection this with this;subst this;have Bp:pl b=Yg (.row sv Ac):=Bp;obtain⟨F,L1,k1,h3,k3,k4,k5,k6⟩:=hTr.take E4 KJ;obtain⟨sv0,xs,F0,e1,e2,o1,o2⟩:=k1;have e1:=(LB e1).1;subst e1;have e2:=(LB e2).2;subst e2;generalize Ae6:a.eval x=v at*;obtain⟨Fu,q1,q2,q3,q4,q5⟩:=rM (P:=P) (E:=At ok0 base pl Ab w) (t:=t) (ty:=o.type) hr.blksOk fe f.under Bx AW E5 FN (λb hb=>Ai b (by simp[hb])) (Ae y E6);obtain⟨v',w',ys,AJ,Aq,Do,Mk,hOL⟩:=q1 base v n.2.length xs hr.baseLe o1 DK;have Do:w.grownBy w' v.ownBlock:=Do;have Nh:b∉dd:=λh=>Adk (q5 b h).1;have ID:nx∉dd:=λh=>by obtain⟨_,B,_,_,h1,_⟩:=q5 nx h;rw[show Ab nx=Yg B from h1]at Dq;cases Dq
     have Dz:∀k,updL Ab (dead dd++[(b,.tree t0 e ver Ah (Yg (i0::p)) l),(nx,.tree n.1.1 n.1.2 0 0 Yf (n.2++new))]) k=if k=nx then Yg (.tree n.1.1 n.1.2 0 0 Yf (n.2++new))else if k=b then Yg (.tree t0 e ver Ah (Yg (i0::p)) l)else if k∈dd then Yg .dead else Ab k:=λk=>by simp only[NI,updL,upd,bT]
     generalize updL Ab (dead dd++[(b,.tree t0 e ver Ah (Yg (i0::p)) l),(nx,.tree n.1.1 n.1.2 0 0 Yf (n.2++new))])=bl3 at*;have EY:∀k,upd (upd pl b (.row sv L1)) nx (.row v' ((F++Fu).map Yg)) k=if k=nx then Yg (.row v' ((F++Fu).map Yg))else if k=b then Yg (.row sv L1)else pl k:=λk=>rfl;generalize ArA:upd (upd pl b (.row sv L1)) nx (.row v' ((F++Fu).map Yg))=pl3 at*;have Gm:∀s∈v::F,∀g,s.ownBlock=Yg g->CA pl Ab b g:=λs hs g hg=>⟨_,_,AE,rfl,Bp,k3 s hs g hg⟩;have Ax:∀i g,CA pl Ab i g->g<w.heap.size:=λi g ⟨B,p,h⟩=>Own.lt hr ⟨i,B,p,h⟩
     have hltF:∀s∈F++Fu,∀g,s.ownBlock=Yg g->g<w.heap.size:=λs hs g hg=>by
      rcases C5.1 hs with hs|hs
      ·exact Ax b g (Gm s (DX _ hs) g hg)
      ·obtain⟨i,_,h⟩:=q3 s hs g hg;exact Ax i g h
     have hFu:∀s∈Fu,∀g,s.ownBlock=Yg g->¬CA pl Ab b g:=λs hs g hg h=>by obtain⟨i,hi,B,p,k1,k2,k3,k4⟩:=q3 s hs g hg;obtain⟨B',p',m1,m2,m3,m4⟩:=h;exact hr.sep i b B B' p p' g (λe=>Nh (e▸hi)) k1 m1 k2 m2 k3 m3 k4 m4
     have Q0:∀s∈F++Fu,MD v s:=λs hs=>by
      rcases C5.1 hs with hs|hs
      ·exact(Fs.1 h3).1 s hs
      ·exact λg g1 g2=>hFu s hs g g2 (Gm v (by simp) g g1)
     have Cp:∀g,v'.ownBlock=Yg g->v.ownBlock=Yg g\/g=w.heap.size:=λg hg=>by
      rcases Mk with h|h
      ·exact .inl (h▸hg)
      ·rw[h]at hg;injection hg with hg;exact .inr hg.symm
     have I9:∀k∈dd,∀g,¬CA pl3 bl3 k g:=λk hk g h=>by obtain⟨B,p,h1,h2,_⟩:=h;have DV:¬k=nx:=λe=>ID (e▸hk);have Lo:¬k=b:=λe=>Nh (e▸hk);rw[Dz,Yy DV,Yy Lo,Y1 hk]at h1;injection h1 with h1;subst h1;cases h2
     have hBo:∀g,CA pl3 bl3 b g->(Pl.row sv L1).has g:=λg h=>by obtain⟨B,p,_,_,h1,h2⟩:=h;rw[EY,Yy Tc,Y1 rfl]at h1;injection h1 with h1;subst h1;exact h2
     have hNo:∀g,CA pl3 bl3 nx g->(∃s∈v::F,s.ownBlock=Yg g)\/(∃s∈Fu,s.ownBlock=Yg g)\/g=w.heap.size:=λg h=>by
      obtain⟨B,p,_,_,h1,h2⟩:=h;rw[EY,Y1 rfl]at h1;injection h1 with h1;subst h1;rcases h2 with h2|⟨j,s,hj,h2⟩
      ·rcases Cp g h2 with h2|h2
       ·exact .inl ⟨v,by simp,h2⟩
       ·exact .inr (.inr h2)
      ·rw[Gz,TJ]at hj
       obtain⟨s',hj,he⟩:=hj;injection he with he;subst he;rcases C5.1 (Dg hj)with hs|hs
       ·exact .inl ⟨s',DX _ hs,h2⟩
       ·exact .inr (.inl ⟨s',hs,h2⟩)
     have hBN:∀g,CA pl3 bl3 b g->¬CA pl3 bl3 nx g:=λg h h'=>by
      obtain⟨h1,h2⟩:=k4 g (hBo g h);rcases hNo g h' with⟨s,hs,hg⟩|⟨s,hs,hg⟩|hg
      ·exact h2 s hs hg
      ·exact hFu s hs g hg ⟨_,_,AE,rfl,Bp,h1⟩
      ·have:=Ax b g ⟨_,_,AE,rfl,Bp,h1⟩;omega
     have hm:Many pl Ab w pl3 bl3 w' (nx::b::dd) v.ownBlock:=by
      refine⟨λk hk=>?_,Do,λg h=>⟨b,by simp,Gm v (by simp) g h⟩,λk hk g h=>?_,λk hk m hm JI g h1 h2=>?_,λk hk g h=>?_,λk hk sv1 N4 h=>?_⟩
      ·simp only[Bl,not_or]at hk
       rw[EY,Dz,Yy hk.1,Yy hk.1,Yy hk.2.1,Yy hk.2.1,Yy hk.2.2];exact⟨rfl,rfl⟩
      ·rcases Bl.1 hk with rfl|hk
       ·rcases hNo g h with⟨s,hs,hg⟩|⟨s,hs,hg⟩|hg
        ·exact .inl ⟨b,by simp,Gm s hs g hg⟩
        ·obtain⟨i,hi,ho⟩:=q3 s hs g hg
         exact .inl ⟨i,by simp[hi],ho⟩
        ·exact .inr (M4 hg.symm)
       ·rcases Bl.1 hk with rfl|hk
        ·exact .inl ⟨k,by simp,_,_,AE,rfl,Bp,(k4 g (hBo g h)).1⟩
        ·exact Y7 h (I9 k hk g)
      ·rcases Bl.1 hk with rfl|hk
       ·rcases Bl.1 hm with rfl|hm
        ·exact JI rfl
        ·rcases Bl.1 hm with rfl|hm
         ·exact hBN g h2 h1
         ·exact I9 m hm g h2
       ·rcases Bl.1 hk with rfl|hk
        ·rcases Bl.1 hm with rfl|hm
         ·exact hBN g h1 h2
         ·rcases Bl.1 hm with rfl|hm
          ·exact JI rfl
          ·exact I9 m hm g h2
        ·exact I9 k hk g h1
      ·rcases Bl.1 hk with rfl|hk
       ·rw[hr.fresh k Dq]at h;cases h
       ·rcases Bl.1 hk with rfl|hk
        ·rw[Bp]at h;cases h
        ·obtain⟨_,_,_,_,_,_,h1⟩:=q5 k hk
         rw[show pl k=_ from h1]at h;cases h
      ·rcases Bl.1 hk with rfl|hk
       ·rw[hr.fresh k Dq]at h;cases h
       ·rcases Bl.1 hk with rfl|hk
        ·rw[Bp]at h
         injection h with h;injection h with h h';subst h h';refine⟨_,_,by rw[EY,Yy Tc,Y1 rfl],?_⟩;rw[AE,Dz,Yy Tc,Y1 rfl];exact KeepR.ofTree ⟨Av _,Av _,λ_=>⟨rfl,k5 _⟩⟩
        ·have DV:¬k=nx:=λe=>ID (e▸hk)
         have Lo:¬k=b:=λe=>Nh (e▸hk);exact⟨sv1,N4,by rw[EY,Yy DV,Yy Lo];exact h,by rw[Dz,Yy DV,Yy Lo,Y1 hk];exact KeepR.ofDead⟩
     have Ce:=hm.step
     have hT2:TreeOk (At ok0 base pl3 bl3 w') n.1.1 n.1.2 Yf (n.2++new) v' ((F++Fu).map Yg):=rN (E:=At ok0 base pl Ab w) Ce.ext rfl (o2.mono λ_ _ _ _ _ h=>Owns.any h) (hOL v')
      (λs hs g hg=>Do.block g (hltF s hs g hg) (λe=>Q0 s hs g e.symm hg)) Aq (by
       rw[Fs,FS];refine⟨λs hs g g1 g2=>?_,(Fs.1 h3).2,q2,λa ha b hb g g1 g2=>hFu b hb g g2 (Gm a (DX _ ha) g g1)⟩;rcases Cp g g1 with g1|g1
       ·exact Q0 s hs g g1 g2
       ·have:=hltF s hs g g2;omega)
     have hT3:TreeOk (At ok0 base pl3 bl3 w') t0 e (Yg (i0::p)) l sv L1:=k6 _ Ce.ext rfl (λg hg=>by obtain⟨h1,h2⟩:=k4 g hg;exact Do.block g (Ax b g ⟨_,_,AE,rfl,Bp,h1⟩) (λe=>h2 v (by simp) e.symm))
     refine HR (Uz ho hc ha Cz (by rw[Ae6];exact AJ)) (hK v' pl3 w' ?_ Ce ?_)
     ·refine hm.rel hr λk hk=>?_
      rcases Bl.1 hk with rfl|hk
      ·exact⟨.tree n.1.1 n.1.2 0 0 Yf (n.2++new),.row v' ((F++Fu).map Yg),by rw[Dz,Y1 rfl],by rw[EY,Y1 rfl],hT2⟩
      ·rcases Bl.1 hk with rfl|hk
       ·exact⟨.tree t0 e ver Ah (Yg (i0::p)) l,.row sv L1,by rw[Dz,Yy Tc,Y1 rfl],by rw[EY,Yy Tc,Y1 rfl],hT3⟩
       ·have DV:¬k=nx:=λe=>ID (e▸hk)
        have Lo:¬k=b:=λe=>Nh (e▸hk);obtain⟨_,_,_,_,_,_,h1⟩:=q5 k hk;exact⟨.dead,_,by rw[Dz,Yy DV,Yy Lo,Y1 hk],by rw[EY,Yy DV,Yy Lo];exact h1,trivial⟩
     ·exact rO (Rm Aq) (by show pl3 nx=_;rw[EY,Y1 rfl]) (by show bl3 nx=_;rw[Dz,Y1 rfl])
    ·cases hk
  ·cases hk
 ·cases hk
theorem rP{E:Env}{blp:Yn->Ya Blk}(hb:Ez E){hsep:∀i j,i≠j->∀g,CA E.pl E.bl i g->¬CA E.pl E.bl j g}:∀{o:OT}{cs:Ye C}{vs:Ye Yq}{x:o.ty.den}{rs:Ye C}{ids:Ye Yn},CReps E cs vs->M8 blp o cs=Yg (x,rs,ids)->(∀i∈ids,E.bl i=blp i)->ids.Nodup->∃us ws F,vs=us++ws/\CReps E rs ws/\(∀hv,Owns E.w E.ok E.base hv o Yf x us F)/\(∀s∈F,∀g,s.ownBlock=Yg g->∃i∈ids,CA E.pl E.bl i g)/\F.Pairwise MD/\∀i∈ids,∃B sv Ac,E.bl i=Yg B/\B.live=Yp/\E.pl i=Yg (.row sv Ac)
 |.d τ,cs,vs,x,rs,ids,h,ha,AX,ID=>by
  simp only[M8]at ha;split at ha
  ·rename_i y q hp
   simp only[Af,Cb]at ha;obtain⟨rfl,rfl,rfl⟩:=ha;obtain⟨us,ws,e1,h1,h2,_⟩:=Px hb (Rows.none _ _) h hp;exact⟨us,ws,[],e1,h2,λhv=>⟨rfl,h1,rfl⟩,by simp,by simp,by simp⟩
  ·cases ha
 |.p a c,cs,vs,x,rs,ids,h,ha,AX,ID=>by
  simp only[M8]at ha;split at ha
  ·cases ha
  rename_i x1 r1 i1 h1;split at ha
  ·cases ha
  rename_i x2 r2 i2 h2;simp only[Af,Cb]at ha;obtain⟨rfl,rfl,rfl⟩:=ha;obtain⟨n1,n2,n3⟩:=List.nodup_append.1 ID;obtain⟨us1,ws1,F1,a1,a2,a3,a4,a5,a6⟩:=rP hb (hsep:=hsep) h h1 (λi hi=>AX i (D5 _ hi)) n1;obtain⟨us2,ws2,F2,b1,b2,b3,b4,b5,b6⟩:=rP hb (hsep:=hsep) a2 h2 (λi hi=>AX i (DW _ hi)) n2;refine⟨us1++us2,ws2,F1++F2,by rw[a1,b1,C4],b2,λhv=>⟨us1,us2,F1,F2,rfl,rfl,a3 hv,b3 hv⟩,λs hs g hg=>?_,FS.2 ⟨a5,b5,λs hs s' Cd g g1 g2=>?_⟩,λi hi=>?_⟩
  ·rcases C5.1 hs with hs|hs
   ·obtain⟨i,hi,ho⟩:=a4 s hs g hg
    exact⟨i,D5 _ hi,ho⟩
   ·obtain⟨i,hi,ho⟩:=b4 s hs g hg
    exact⟨i,DW _ hi,ho⟩
  ·obtain⟨i,hi,ho⟩:=a4 s hs g g1
   obtain⟨j,hj,Zc⟩:=b4 s' Cd g g2;exact hsep i j (n3 i hi j hj) g ho Zc
  ·rcases C5.1 hi with hi|hi
   ·exact a6 i hi
   ·exact b6 i hi
 |.r t e,[],vs,x,rs,ids,h,ha,AX,ID=>by simp[M8]at ha
 |.r t e,c::cs,vs,x,rs,ids,⟨v,Az,e1,h1,h2⟩,ha,AX,ID=>by
  simp only[M8]at ha;split at ha
  ·simp only[Af,Cb]at ha
   obtain⟨rfl,rfl,rfl⟩:=ha;have h1:v=.slice Yf 0 0:=h1;subst h1;refine⟨[_],Az,[_],e1,h2,λhv=>⟨_,[],[],rfl,rfl,YL _ _ _ _,rfl,rfl⟩,λs hs g hg=>?_,by simp,by simp⟩;rw[DY]at hs;subst hs;cases hg
  ·split at ha
   ·rename_i b m hm
    split at ha
    ·rename_i Cz
     obtain⟨⟨m1,m2⟩,m3⟩:=m;simp only[Cb]at Cz;obtain⟨rfl,rfl⟩:=Cz;simp only[Af,Cb]at ha;obtain⟨rfl,rfl,rfl⟩:=ha;obtain⟨Ac,Fr,B,k1,k2,_,k3,k4,k5,k6⟩:=rC hb hm (AX b (by simp)) (u:=v) h1;have Ig:B.live=Yp:=by cases B<;>first|rfl|exact Y7 rfl k2
     refine⟨[v],Az,v::Fr,e1,h2,k4,λs hs g hg=>⟨b,by simp,B,_,k1,Ig,k3,Pz k5 hs hg⟩,k6,λi hi=>?_⟩;rw[DY]at hi;subst hi;exact⟨B,v,Ac,k1,Ig,k3⟩
    ·cases ha
   ·cases ha
theorem Au9{X:Ye (Yr×OT)}{T:Yr->Ya TI}(hT:TOk P T){kk:K β}{nx:Yn}{t:Yr}{n:Yn}{parts:YQ (Yn×Y2)}(ho:o.op=.buildSlice t n parts)(hk:qO X T bl nx t n (parts.toList.map λp=>(p.1,ρ p.2)) kk=Yg r):Sound P o ρ bl kk r:=by
 unfold qO at hk;split at hk
 ·rename_i v0 Ns
  split at hk
  ·rename_i ti cs ht De
   obtain⟨i,d,z,f⟩:=hT.facts ht;split at hk
   ·rename_i et C8 CC
    have hd:=He f C8 CC;subst hd;have hu:=f.under;split at hk
    ·rename_i te e Cg _ hn
     obtain⟨i',d',z',fe⟩:=hT.facts Cg;split at hk
     ·rename_i x0 ids Nd
      cases hc:(Yo n 1&&(Yo cs.length te.size&&(Yo e.ty.size te.size&&(Y0 0 te.size&&(YI te.size 16777216&&JX ids)))))with
      |false=>rw[hc]at hk;cases hk
      |true=>
       simp only[hc,As]at hk;obtain⟨c1,hc⟩:=andB hc;obtain⟨c2,hc⟩:=andB hc;obtain⟨c3,hc⟩:=andB hc;obtain⟨c4,hc⟩:=andB hc;obtain⟨c5,c6⟩:=andB hc;have:=AB c1;subst this;have c2:=AB c2;have c3:=AB c3;have c4:=Ea c4;have c5:=IP c5;have c6:=R6 c6
       obtain⟨x,Mo,AMr⟩:∃x,parts.toList=[(0,x)]/\ρ x=v0:=by
        cases hq:parts.toList with
        |nil=>rw[hq]at Ns;cases Ns
        |cons p ps=>rw[hq]at Ns;simp only[CH,Dx,Cb,List.map_eq_nil_iff]at Ns;obtain⟨⟨h1,h2⟩,h3⟩:=Ns;obtain⟨p1,p2⟩:=p;simp only at h1 h2;subst h1 h3;exact⟨p2,rfl,h2⟩
       have Cq:x∈o.op.operands:=by simp only[ho,Yt];exact pK.2 (Hb.2 ⟨(0,x),by rw[Mo];simp,rfl⟩)
       refine⟨_,_,_,hk,λAb hb=>?_⟩;have Dq:Ab nx=Yf:=(hb nx (by simp)).trans hn;intro ok0 base pl w a hr Ae K Q hK;have Te:=VRep.cells_of (by rw[AMr];exact De) (Ae x Cq);have XD:=Te.length;obtain⟨us,ws,F,a1,a2,a3,a4,a5,a6⟩:=rP (E:=At ok0 base pl Ab w) hr.blksOk (hsep:=λi j Dv g ⟨B,p,h1,h2,h3,h4⟩ ⟨B',p',m1,m2,m3,m4⟩=>hr.sep i j B B' p p' g Dv h1 m1 h2 m2 h3 m3 h4 m4) Te Nd (λi hi=>hb i (by simp[hi])) c6;have a2:ws=[]:=a2;subst a2;rw[In]at a1
       have IG:z'.cells.size=te.size:=by have:=fe.len;rw[Hq]at this;rw[this,fe.size]
       have DA:(a.eval x).cells.size=te.size:=by rw[<-Hq,XD,c2]
       have ALf:YaD (λi=>Yg (i*te.size,te.size)) (repL 1 z'.cells.toList).toArray [(0,a.eval x)]=Yg (a.eval x).cells:=by
        have e1:(repL 1 z'.cells.toList).toArray=z'.cells:=by apply Io;simp[repL]
        have BF:¬(0*te.size+(a.eval x).cells.size>z'.cells.size):=by omega
        rw[e1];simp only[YaD];rw[Yy (by simp only[DA,ne_eq,ZZ,decide_false,Ph,Jv];omega),Nat.zero_mul,Afy 0 (a.eval x) z'.cells (by simp only[Hq];omega)];congr 1;apply Io;rw[Rb (by simp only[Hq];omega)];simp
       have AJ:(Y3 a.eval o).run P w=.ok (.value (.slice (Yg ⟨w.heap.size,0,Yf⟩) 1 1)) (w.alloc (.cells (a.eval x).cells et)):=by
        have e0:(Array.range (1*te.size)).map (λx=>z'.cells[x%z'.cells.size]!)=(repL 1 z'.cells.toList).toArray:=by
         have XY:Ya0 z'.cells (1*te.size)=(repL 1 z'.cells.toList).toArray:=by apply Io;rw[<-IG,U0 _ (by omega)]
         exact XY
        have h0:¬(1*te.size>2^24):=by omega
        have h2:¬(1*te.size=0):=by omega
        have ALZ:(parts.map λp=>(p.1,a.eval p.2)).toList=[(0,a.eval x)]:=by rw[TO,Mo];rfl
        simp only[Y3,ho,YaL,Yu hu,run_sizeOf fe,YC,Y9,h0,CN,YY,h2,Yaz,Yaa,Ybl,fe.info,fe.zero,e0,ALZ,ALf,newRow,run_newObj];rfl
       have hg:w.grownBy (w.alloc (.cells (a.eval x).cells et)) Yf:=Ya9 w _ Yf
       have Aq:(w.alloc (.cells (a.eval x).cells et)).ownsRow base et e.ty.size (.slice (Yg ⟨w.heap.size,0,Yf⟩) 1 1) [x0].length us:=by rw[<-a1];refine⟨by rw[XD,c2,c3];simp,.inr ⟨w.heap.size,1,(a.eval x).cells,rfl,hr.baseLe,YaW w _,Av _,by simp[Yaj],by rw[DA,c3,Nat.one_mul],?_⟩⟩;rw[GY (by rw[XD,c2,c3];simp)]
       obtain⟨pl3,z1,z2,z3⟩:=AfJ hr Dq a5 a4 a6 hg (λg hg=>by simpa [Yae]using hg.symm) (new:=[x0]) (e:=e) (λhv=>⟨us,[],F,[],by simp,by simp,a3 hv,rfl,rfl⟩) Aq;exact HR AJ (hK _ pl3 _ z1 z2 z3)
     ·cases hk
    ·cases hk
   ·cases hk
  ·cases hk
 ·cases hk
end
end Go.Lift
namespace Go.Lift
open Go.RowKit
section
variable{P:Yw}{o:Oper}{ρ:Y2->V}{bl:Yn->Ya Blk}{β:Type}{r:β}
theorem Aua{kk:K β}{t:Yr}{x:Y2}(ho:o.op=.unOp .not t x){b:Ys}(hx:ρ x=.c (.bool b))(hk:kk (.c (.bool (!b))) [] []=Yg r):Sound P o ρ bl kk r:=by refine Sound.pure hk λAb _ ok0 base pl w a hr Ae=>⟨.bool (!b),?_,rfl⟩;have h1:=Ae x (by simp[ho,Yt]);rw[hx]at h1;have CB:a.eval x=.bool b:=h1;simp[Y3,ho,CB,Op.unary]
theorem Aub{kk:K β}{t:Yr}{x:Y2}(ho:o.op=.unOp .neg t x){k:YT}{n:Yh}(hx:ρ x=.c (.int k n))(hk:kk (.c (.int k (k.wrap (0-n)))) [] []=Yg r):Sound P o ρ bl kk r:=by refine Sound.pure hk λAb _ ok0 base pl w a hr Ae=>⟨.int k (k.wrap (0-n)),?_,rfl⟩;have h1:=Ae x (by simp[ho,Yt]);rw[hx]at h1;have CB:a.eval x=.int k n:=h1;simp[Y3,ho,CB,Op.unary,YaU]
theorem Auc{T:Yr->Ya TI}(hT:TOk P T){kk:K β}{s t:Yr}{x:Y2}(ho:o.op=.convert s t x){si ti:TI}(hs:T s=Yg si)(ht:T t=Yg ti){k0 k:YT}{n:Yh}(hx:ρ x=.c (.int k0 n))(Nn:ti.kind=Yg k)(hk:kk (.c (.int k (k.wrap n))) [] []=Yg r):Sound P o ρ bl kk r:=by
 obtain⟨i,d,z,f⟩:=hT.facts ht;obtain⟨i',d',z',f'⟩:=hT.facts hs
 have hd:d=.int k:=by rw[f.kind]at Nn;cases d<;>simp_all [R2]
 subst hd;refine Sound.pure hk λAb _ ok0 base pl w a hr Ae=>⟨.int k (k.wrap n),?_,rfl⟩;have h1:=Ae x (by simp[ho,Yt]);rw[hx]at h1;have CB:a.eval x=.int k0 n:=h1;simp[Y3,ho,CB,convert,Yu f.under,Yu f'.under,Conv.intToInt]
theorem Aud{T:Yr->Ya TI}(hT:TOk P T){kk:K β}{s t:Yr}{x:Y2}(ho:o.op=.convert s t x){si ti:TI}(hs:T s=Yg si)(ht:T t=Yg ti){l:Ye Yj}(hx:ρ x=.c (.str l))(Nn:ti.isStr=Yp)(hk:kk (.c (.str l)) [] []=Yg r):Sound P o ρ bl kk r:=by
 obtain⟨i,d,z,f⟩:=hT.facts ht;obtain⟨i',d',z',f'⟩:=hT.facts hs;have hd:=Uw f Nn;subst hd;refine Sound.pure hk λAb _ ok0 base pl w a hr Ae=>⟨.string ⟨l.toArray⟩,?_,rfl⟩;have h1:=Ae x (by simp[ho,Yt]);rw[hx]at h1;have CB:a.eval x=.string ⟨l.toArray⟩:=h1;simp[Y3,ho,CB,convert,Yu f.under,Yu f'.under]
theorem AfK{E:Env}:∀{vs:Ye V}{us:Ye Yq}{bs:Ye Yn},Ry vs=Yg bs->vs.length=us.length->(∀(j:Yn)(v:V)(u:Yq),vs[j]?=Yg v->us[j]?=Yg u->VRep E v u)->∃gs:Ye Yn,bs.map E.pl=gs.map (λg=>Yg (.cells g))/\us=gs.map λg=>.pointer (Yg ⟨g,0,Yf⟩)
 |[],us,bs,h,hl,hv=>by
  simp only[Ry,Af]at h;subst h;cases us with
  |nil=>exact⟨[],rfl,rfl⟩
  |cons u us=>simp at hl
 |v::vs,us,bs,h,hl,hv=>by
  cases us with
  |nil=>simp at hl
  |cons u us=>
   unfold Ry at h;split at h
   ·rename_i Ej;cases Ej
   ·rename_i b r' Ej
    injection Ej with h1 h2;subst h1 h2;split at h
    ·rename_i l GS
     simp only[Af]at h;subst h;obtain⟨gs,h3,h4⟩:=AfK GS (by simpa using hl) (λj v u hj hu=>hv (j+1) v u (by simpa using hj) (by simpa using hu));obtain⟨g,hg,hu⟩:=hv 0 _ _ rfl rfl;exact⟨g::gs,by simp[h3,hg],by simp[h4,hu]⟩
    ·cases h
   ·cases h
theorem Aue{kk:K β}{f:FuncId}{first BS:YQ Y2}(ho:o.op=.makeFunc (.func f) first BS)(hf:first.toList=[]){bs:Ye Yn}(hb:Ry (BS.toList.map ρ)=Yg bs)(hk:kk (.c (.fn f bs)) [] []=Yg r):Sound P o ρ bl kk r:=by
 have OA:first=#[]:=by simpa using hf
 subst OA;refine Sound.pure hk λAb _ ok0 base pl w a hr Ae=>?_
 obtain⟨gs,h1,h2⟩:=AfK (E:=At ok0 base pl Ab w) (us:=BS.toList.map a.eval) hb (by simp) (λj v u hj hu=>by
  rw[Gz]at hj hu;cases hc:BS.toList[j]? with
  |none=>rw[hc]at hj;cases hj
  |some x=>rw[hc]at hj hu;simp only[F8,Af]at hj hu;subst hj hu;exact Ae x (by simp only[ho,Yt,aC];exact .inr (by have:=Dg hc;simpa using this)))
 refine⟨.func (.func f) #[] (gs.map λg=>.pointer (Yg ⟨g,0,Yf⟩)).toArray,?_,gs,h1,rfl⟩
 have h3:BS.map a.eval=(gs.map λg=>Value.pointer (Yg ⟨g,0,Yf⟩)).toArray:=by apply Io;simpa using h2
 simp[Y3,ho,Instr.makeFunc,h3]
theorem U1{kk:K β}{x:Y2}(ho:o.op=.nilCheck x)(hx:(∃b of,ρ x=.c (.ptr b of))\/(∃b ver i of,ρ x=.eptr b ver i of)\/(∃e y of,ρ x=.lptr e y of)\/(∃f BS,ρ x=.c (.fn f BS))\/(∃b ver p i of,ρ x=.c (.tptr b ver p i of)))(hk:kk (ρ x) [] []=Yg r):Sound P o ρ bl kk r:=by
 refine Sound.pure hk λAb _ ok0 base pl w a hr Ae=>⟨a.eval x,?_,Ae x (by simp[ho,Yt])⟩;have h1:=Ae x (by simp[ho,Yt]);rcases hx with⟨b,of,hx⟩|⟨b,ver,i,of,hx⟩|⟨e,y,of,hx⟩|⟨f,BS,hx⟩|⟨b,ver,p,i,of,hx⟩<;>rw[hx]at h1
 ·obtain⟨g,_,hv⟩:=h1
  simp[Y3,ho,hv]
 ·obtain⟨sv,Ac,ad,_,hv,_⟩:=h1
  simp[Y3,ho,hv]
 ·obtain⟨xs,ad,_,hv,_⟩:=h1
  simp[Y3,ho,hv]
 ·obtain⟨gs,_,hv⟩:=h1
  simp[Y3,ho,hv]
 ·obtain⟨sv,Ac,ad,_,hv,_⟩:=h1
  simp[Y3,ho,hv]
theorem Auf{T:Yr->Ya TI}(hT:TOk P T){kk:K β}{t:Yr}{x:Y2}{fi:Yn}(ho:o.op=.field t x fi){ti:TI}(ht:T t=Yg ti){cs:Ye C}(hx:ρ x=.agg cs){off n:Yn}{g:Ys}(hf:ti.flds[fi]?=Yg (off,n,g))(h1:(g||Yo n 1)=Yp){rc:Ye C}(hs:sub cs off n=Yg rc)(hk:kk (V.mk g rc) [] []=Yg r):Sound P o ρ bl kk r:=by
 obtain⟨i,d,z,f⟩:=hT.facts ht;obtain⟨fs,fd,j,e,rfl,nI,rfl,hj,rfl,he,hg⟩:=Afp f hf;refine Sound.pure hk λAb _ ok0 base pl w a hr Ae=>?_;have hv:=Ae x (by simp[ho,Yt]);rw[hx]at hv;obtain⟨vs,DA,B6⟩:=hv;simp only[D6]at B6;obtain⟨s1,s2,s3⟩:=Pw DA hs
 have Fo:(isAgg fd.type).run P w=.ok g w:=by rw[<-hg];unfold isAgg J3;rw[YC,Yu he w,he];cases e<;>simp
 have Cp:(Yak fd.type).run P w=.ok j.size w:=by simp[Yak,Yaa,hj]
 cases g with
 |true=>
  refine⟨.agg ((vs.drop fd.offset).take j.size).toArray,?_,_,s1,by simp⟩
  have Mi:vs.toArray.extract fd.offset (fd.offset+j.size)=((vs.drop fd.offset).take j.size).toArray:=by apply Io;simp
  simp[Y3,ho,B6,Instr.field,Yu f.under,nI,asAgg,part,Fo,Cp]
 |false=>
  have hn:j.size=1:=by simpa using AB (by simpa using h1)
  have Ax:fd.offset<vs.length:=by omega
  have Jr:(vs.drop fd.offset).take j.size=[vs[fd.offset]]:=by rw[hn,JW Ax];rfl
  rw[Jr]at s1;refine⟨vs[fd.offset],?_,VRep.mk ⟨_,s1,by simp⟩⟩;simp[Y3,ho,B6,Instr.field,Yu f.under,nI,asAgg,part,Fo,Ax]
theorem Aug{T:Yr->Ya TI}(hT:TOk P T){kk:K β}{t:Yr}{x y:Y2}(ho:o.op=.index t x y){ti:TI}(ht:T t=Yg ti){s:Ye Yj}(hx:ρ x=.c (.str s)){k:YT}{i:Yh}(hy:ival (ρ y)=Yg (k,i))(JN:ti.isStr=Yp)(h0:0<=i)(h1:i<(s.length:Yh))(hk:kk (.c (.int .u8 ((s.getD i.toNat 0).toNat:Yh))) [] []=Yg r):Sound P o ρ bl kk r:=by
 obtain⟨inf,d,z,f⟩:=hT.facts ht;have:=Uw f JN;subst this;refine Sound.pure hk λAb _ ok0 base pl w a hr Ae=>⟨.int .u8 ((s.getD i.toNat 0).toNat:Yh),?_,rfl⟩;have Ij:=Ae x (by simp[ho,Yt]);have IE:=Ae y (by simp[ho,Yt]);rw[hx]at Ij;rw[P0 hy]at IE;have Ik:a.eval x=.string ⟨s.toArray⟩:=Ij;have QP:a.eval y=.int k i:=IE;have Ax:i.toNat<s.length:=by omega
 have Jg:(⟨s.toArray⟩:YP)[i.toNat]?=Yg s[i.toNat]:=by have Cp:i.toNat<(⟨s.toArray⟩:YP).size:=Ax;rw[getElem?_pos (⟨s.toArray⟩:YP) i.toNat Cp];rfl
 have hd:s.getD i.toNat 0=s[i.toNat]:=by simp[List.getD,Ax]
 rw[hd];simp[Y3,ho,Ik,QP,Instr.index,YaR,Yu f.under,h0,Jg]
theorem TReps.get{E:Env}:∀{ts:Ye (Ys×Ye C)}{vs:Ye Yq}{i:Yn}{t:Ys×Ye C},TReps E ts vs->ts[i]?=Yg t->∃v,vs[i]?=Yg v/\SRep E t.1 t.2 v
 |[],_,i,t,_,h=>by simp at h
 |t0::ts,_,0,t,⟨v,Az,e,h1,h2⟩,h=>by simp only[DM,Af]at h;subst h e;exact⟨v,rfl,h1⟩
 |t0::ts,_,i+1,t,⟨v,Az,e,h1,h2⟩,h=>by subst e;obtain⟨u,h3,h4⟩:=TReps.get (i:=i) h2 (by simpa using h);exact⟨u,by simpa using h3,h4⟩
theorem Auh{kk:K β}{x:Y2}{i:Yn}(ho:o.op=.extract x i){ts:Ye (Ys×Ye C)}(hx:ρ x=.tup ts){t:Ys×Ye C}(ht:ts[i]?=Yg t)(hk:kk (V.mk t.1 t.2) [] []=Yg r):Sound P o ρ bl kk r:=by refine Sound.pure hk λAb _ ok0 base pl w a hr Ae=>?_;have h1:=Ae x (by simp[ho,Yt]);rw[hx]at h1;obtain⟨vs,hv,HJ⟩:=h1;obtain⟨v,GU,hs⟩:=TReps.get HJ ht;refine⟨v,?_,VRep.mk hs⟩;simp[Y3,ho,hv,Instr.extract,GU]
theorem AfL{E:Env}{isMax:Ys}{k:YT}:∀{vs:Ye V}{us:Ye Yq}{a:Yh}{v:V},Ub isMax k a vs=Yg v->vs.length=us.length->(∀(j:Yn)(x:V)(u:Yq),vs[j]?=Yg x->us[j]?=Yg u->VRep E x u)->∀w,∃n,v=.c (.int k n)/\(us.foldlM (bif isMax then Builtin.max2 else Builtin.min2) (.int k a)).run P w=.ok (.int k n) w
 |[],us,a,v,h,hl,hv,w=>by
  simp only[Ub,Af]at h;cases us with
  |nil=>exact⟨a,h.symm,rfl⟩
  |cons u us=>simp at hl
 |x::vs,us,a,v,h,hl,hv,w=>by
  cases us with
  |nil=>simp at hl
  |cons u us=>
   unfold Ub at h;split at h
   ·rename_i Ej;cases Ej
   ·rename_i a' k' b r' Ej
    injection Ej with h1 h2;subst h1 h2;split at h
    ·rename_i OC
     subst OC;have hu:u=.int k b:=hv 0 _ _ rfl rfl;subst hu;obtain⟨n,h3,h4⟩:=AfL h (by simpa using hl) (λj x u hj hu=>hv (j+1) x u (by simpa using hj) (by simpa using hu)) w;refine⟨n,h3,?_⟩;rw[List.foldlM_cons];cases isMax with
     |true=>simp only[As,YC,Builtin.max2,YY,Y9]at h4⊢;exact h4
     |false=>simp only[C7,YC,Builtin.min2,YY,Y9]at h4⊢;exact h4
    ·cases h
   ·cases h
theorem AfM{isMax:Ys}{kk:K β}{c:Call}(ho:o.op=.call c)(hc:c.callee=.builtin (bif isMax then .max else .min)){v:V}(hm:aZ isMax (c.args.toList.map ρ)=Yg v)(hk:kk v [] []=Yg r):Sound P o ρ bl kk r:=by
 refine Sound.pure hk λAb _ ok0 base pl w a hr Ae=>?_
 have DA:∀(j:Yn)(x:V)(u:Yq),(c.args.toList.map ρ)[j]?=Yg x->(c.args.toList.map a.eval)[j]?=Yg u->VRep (At ok0 base pl Ab w) x u:=by
  intro j x u hj hu;rw[Gz]at hj hu;cases XC:c.args.toList[j]? with
  |none=>rw[XC]at hj;cases hj
  |some y=>rw[XC]at hj hu;simp only[F8,Af]at hj hu;subst hj hu;exact Ae y (by simp only[ho,Yt,YE,aC];exact .inr (by have:=Dg XC;simpa using this))
 have hl:(c.args.toList.map ρ).length=(c.args.toList.map a.eval).length:=by simp
 generalize c.args.toList.map ρ=vs at hm DA hl;generalize CZ:c.args.toList.map a.eval=us at DA hl;unfold aZ at hm;split at hm
 ·rename_i k a0 r'
  cases us with
  |nil=>simp at hl
  |cons u us=>
   have hu:u=.int k a0:=DA 0 _ _ rfl rfl;subst hu;obtain⟨n,h3,h4⟩:=AfL (P:=P) hm (by simpa using hl) (λj x u hj hu=>DA (j+1) x u (by simpa using hj) (by simpa using hu)) w;subst h3;refine⟨.int k n,?_,rfl⟩;cases isMax with
   |true=>simp only[As]at h4 hc;simp[Y3,ho,resolve,hc,invoke,builtin,Builtin.max_,CZ,h4]
   |false=>simp only[C7]at h4 hc;simp[Y3,ho,resolve,hc,invoke,builtin,Builtin.min_,CZ,h4]
 ·cases hm
end
end Go.Lift
namespace Go.Lift
open Go.RowKit
theorem AfN{i:Yn}:∀{n s:Yn},i∈AP s n↔s<=i/\i<s+n
 |0,s=>by simp only[AP,Es,false_iff];omega
 |n+1,s=>by simp only[AP,Bl,AfN (n:=n)];omega
theorem rQ:∀{n s:Yn},(AP s n).length=n
 |0,_=>rfl
 |n+1,s=>by simp[AP,rQ (n:=n)]
theorem rR:∀{n s b:Yn},b<n->(AP s n)[b]?=Yg (s+b)
 |0,_,_,h=>by omega
 |n+1,s,0,_=>rfl
 |n+1,s,b+1,h=>by simp only[AP,Er];rw[rR (n:=n) (by omega)];congr 1;omega
theorem rS:∀{n s:Yn},(AP s n).Nodup
 |0,_=>List.nodup_nil
 |n+1,s=>NB.2 ⟨λh=>by have:=AfN.1 h;omega,rS⟩
theorem rT{bl:Yn->Ya Blk}:∀{l:Ye Yn},Rs bl l=Yp->∀i∈l,bl i=Yf
 |[],_,i,h=>by simp at h
 |j::r,h,i,hi=>by
  simp only[Rs]at h;split at h
  ·rename_i hj
   rcases Bl.1 hi with rfl|hi
   ·exact hj
   ·exact rT h i hi
  ·cases h
structure Ren (E E':Env) (ids Bk:Ye Yn):Prop where
 cells:∀b i g,ids[b]?=Yg i->E.pl i=Yg (.cells g)->E'.pl (Bk.getD b 0)=Yg (.cells g)
 row:∀b i sv Ac t e ver l,ids[b]?=Yg i->E.bl i=Yg (.row t e ver l)->E.pl i=Yg (.row sv Ac)->E'.pl (Bk.getD b 0)=Yg (.row sv Ac)
 mat:∀b i sv Ac t et e ver Ah hole l,ids[b]?=Yg i->E.bl i=Yg (.mat t et e ver Ah hole l)->E.pl i=Yg (.row sv Ac)->E'.pl (Bk.getD b 0)=Yg (.row sv Ac)
 tree:∀b i sv Ac t e ver Ah l,ids[b]?=Yg i->E.bl i=Yg (.tree t e ver Ah Yf l)->E.pl i=Yg (.row sv Ac)->E'.pl (Bk.getD b 0)=Yg (.row sv Ac)
 treeB:∀b i t e ver Ah l t' e' ver' B8 h' l',ids[b]?=Yg i->E.bl i=Yg (.tree t e ver Ah Yf l)->E'.bl (Bk.getD b 0)=Yg (.tree t' e' ver' B8 h' l')->Blk.tree t' e' ver' B8 h' l'=.tree t e 0 0 Yf l
 nil:∀b i,ids[b]?=Yg i->E.bl i=Yf->E'.pl (Bk.getD b 0)=Yg (.row (.slice Yf 0 0) [])
theorem rU{E E':Env}{ids Bk:Ye Yn}(hr:Ren E E' ids Bk):∀(BS Ia gs:Ye Yn),BS.map (ids[·]?)=Ia.map Yg->Ia.map E.pl=gs.map (λg=>Yg (.cells g))->(BS.map λb=>Bk.getD b 0).map E'.pl=gs.map (λg=>Yg (.cells g))
 |[],Ia,gs,h,hg=>by
  cases Ia with
  |nil=>cases gs<;>simp_all
  |cons b bs=>simp at h
 |b::bs,Ia,gs,h,hg=>by
  cases Ia with
  |nil=>simp at h
  |cons b' O5=>
   cases gs with
   |nil=>simp at hg
   |cons g gs=>simp only[CH,Dx]at h hg⊢;exact⟨hr.cells b b' g h.1 hg.1,rU hr bs O5 gs h.2 hg.2⟩
theorem rV{i:Yn}:∀{ks:Ye Yn}{p:Path}{x:WayT ks},Pt i ks p=Yg x->wayP ks x=p/\wayI ks x=i
 |[],[],x,h=>by simp only[Pt,Af]at h;exact⟨rfl,h.symm⟩
 |[],_::_,x,h=>by simp[Pt]at h
 |_::_,[],x,h=>by simp[Pt]at h
 |k::ks,(j,m)::p,x,h=>by
  simp only[Pt]at h;cases hk:Yo k m with
  |false=>rw[hk]at h;cases h
  |true=>
   rw[hk,As]at h;have:=AB hk;subst this;split at h
   ·rename_i y hy
    simp only[Af]at h;subst h;obtain⟨h1,h2⟩:=rV hy;exact⟨by simp only[wayP,h1],h2⟩
   ·cases h
theorem GC{E E':Env}{blp:Yn->Ya Blk}{ids Bk:Ye Yn}(hb:Ez E)(hw:E'.w=E.w)(hr:Ren E E' ids Bk)(AX:∀i∈ids,blp i=E.bl i):∀{l:Ye CT}{cs:Ye C}{vs:Ye Yq}{y:CT.dens l},Rows E blp E'.ok (CE cs)->CReps E cs vs->Bn blp ids l cs=Yg y->CReps E' (mkC Bk l y) vs
 |[],cs,vs,y,AM,h,hp=>by
  cases cs with
  |nil=>exact h
  |cons c cs=>simp[Bn]at hp
 |.data τ::l,cs,vs,y,AM,h,hp=>by
  simp only[Bn]at hp;split at hp
  ·cases hp
  ·rename_i x r hx
   split at hp
   ·cases hp
   ·rename_i y' hy
    simp only[Af]at hp;subst hp;obtain⟨us,ws,e,d,c,ds,hc⟩:=Px hb AM h hx;have AMb:Rows E blp E'.ok (CE r):=AM.sub λb DF=>by rw[hc,Ur];exact DW _ DF
    rw[e];refine CReps.append ?_ (GC hb hw hr AX AMb c hy);exact Iq (by rw[hw];exact d)
 |.ptr b o::l,cs,vs,y,AM,h,hp=>by
  cases cs with
  |nil=>simp[Bn]at hp
  |cons c cs=>
   cases c<;>simp only[Bn]at hp<;>try(cases hp;done)
   rename_i b' o';split at hp
   ·rename_i i hi
    cases hc:(Yo i b'&&Yo o o')with
    |false=>rw[hc]at hp;cases hp
    |true=>simp only[hc,As]at hp;obtain⟨h1,h2⟩:=andB hc;have h1:=AB h1;have h2:=AB h2;subst h1 h2;obtain⟨v,Az,e,⟨g,hg,hv⟩,ht⟩:=h;exact⟨v,Az,e,⟨g,hr.cells b i g hi hg,hv⟩,GC hb hw hr AX AM.tail ht hp⟩
   ·cases hp
 |.rowh b::l,cs,vs,y,AM,h,hp=>by
  cases cs with
  |nil=>simp[Bn]at hp
  |cons c cs=>
   cases c<;>simp only[Bn]at hp<;>try(cases hp;done)
   ·
    split at hp
    ·rename_i i hi
     split at hp
     ·rename_i hn
      obtain⟨v,Az,e,hv,ht⟩:=h;simp only[CRep]at hv;subst hv;have E4:E.bl i=Yf:=by rw[<-AX i (Dg hi)];exact hn
      exact⟨_,Az,e,⟨rfl,_,_,hr.nil b i hi E4,λ_ _ _ _ _=>⟨EA _,λ_=>rfl⟩⟩,GC hb hw hr AX AM.tail ht hp⟩
     ·cases hp
    ·cases hp
   ·rename_i b' ver
    split at hp
    ·rename_i i hi
     cases hc:Yo i b' with
     |false=>rw[hc]at hp;cases hp
     |true=>
      have:=AB hc;subst this;simp only[hc,As]at hp;split at hp
      ·rename_i t e ver' l' Ap
       cases C6:Yo ver ver' with
       |false=>rw[C6]at hp;cases hp
       |true=>
        have:=AB C6;subst this;simp only[C6,As]at hp;obtain⟨v,Az,ev,⟨h1,sv,Ac,AA,Bg⟩,ht⟩:=h;have Ei:E.bl i=Yg (.row t e ver l'):=by rw[<-AX i (Dg hi)];exact Ap
        have DA:=(Bg t e ver l' Ei).2 rfl;exact⟨v,Az,ev,⟨h1,sv,Ac,hr.row b i sv Ac t e ver l' hi Ei AA,λ_ _ _ _ _=>⟨EA _,λ_=>DA⟩⟩,GC hb hw hr AX AM.tail ht hp⟩
      ·cases hp
    ·cases hp
 |.fn f BS::l,cs,vs,y,AM,h,hp=>by
  cases cs with
  |nil=>simp[Bn]at hp
  |cons c cs=>
   cases c<;>simp only[Bn]at hp<;>try(cases hp;done)
   rename_i f' Ia;cases hc:(Yo f f'&&Yd (BS.map (ids[·]?)=Ia.map Yg))with
   |false=>rw[hc]at hp;cases hp
   |true=>simp only[hc,As]at hp;obtain⟨h1,h2⟩:=andB hc;have h1:=AB h1;have h2:=Bd h2;subst h1;obtain⟨v,Az,e,⟨gs,hg,hv⟩,ht⟩:=h;refine⟨v,Az,e,⟨gs,?_,hv⟩,GC hb hw hr AX AM.tail ht hp⟩;exact rU hr BS Ia gs h2 hg
 |.bfnh f b::l,cs,vs,y,AM,h,hp=>by
  cases cs with
  |nil=>simp[Bn]at hp
  |cons c cs=>
   cases c<;>simp only[Bn]at hp<;>try(cases hp;done)
   rename_i f' b';split at hp
   ·rename_i i hi
    cases hc:(Yo f f'&&Yo i b')with
    |false=>rw[hc]at hp;cases hp
    |true=>simp only[hc,As]at hp;obtain⟨h1,h2⟩:=andB hc;have h1:=AB h1;have h2:=AB h2;subst h1;subst h2;obtain⟨v,Az,e,⟨g,hg,hv⟩,ht⟩:=h;exact⟨v,Az,e,⟨g,hr.cells b i g hi hg,hv⟩,GC hb hw hr AX AM.tail ht hp⟩
   ·cases hp
 |.bself b::l,cs,vs,y,AM,h,hp=>by
  cases cs with
  |nil=>simp[Bn]at hp
  |cons c cs=>
   cases c<;>simp only[Bn]at hp<;>try(cases hp;done)
   ·obtain⟨v,Az,e,hv,ht⟩:=h
    exact⟨v,Az,e,.inl hv,GC hb hw hr AX AM.tail ht hp⟩
   ·rename_i b'
    split at hp
    ·rename_i i hi
     cases hc:Yo i b' with
     |false=>rw[hc]at hp;cases hp
     |true=>
      simp only[hc,As]at hp;have h1:=AB hc;subst h1;obtain⟨v,Az,e,hg,ht⟩:=h;refine⟨v,Az,e,?_,GC hb hw hr AX AM.tail ht hp⟩;rcases hg with hg|⟨g,hg,hv⟩
      ·exact .inl hg
      ·exact .inr ⟨g,hr.cells b i g hi hg,hv⟩
    ·cases hp
 |.maph b::l,cs,vs,y,AM,h,hp=>by
  cases cs with
  |nil=>simp[Bn]at hp
  |cons c cs=>
   cases c<;>simp only[Bn]at hp<;>try(cases hp;done)
   rename_i b';split at hp
   ·rename_i i hi
    cases hc:Yo i b' with
    |false=>rw[hc]at hp;cases hp
    |true=>simp only[hc,As]at hp;have h1:=AB hc;subst h1;obtain⟨v,Az,e,⟨g,hg,hv⟩,ht⟩:=h;exact⟨v,Az,e,⟨g,hr.cells b i g hi hg,hv⟩,GC hb hw hr AX AM.tail ht hp⟩
   ·cases hp
 |.math b::l,cs,vs,y,AM,h,hp=>by
  cases cs with
  |nil=>simp[Bn]at hp
  |cons c cs=>
   cases c<;>simp only[Bn]at hp<;>try(cases hp;done)
   ·
    split at hp
    ·rename_i i hi
     split at hp
     ·rename_i hn
      obtain⟨v,Az,e,hv,ht⟩:=h;simp only[CRep]at hv;subst hv;have E4:E.bl i=Yf:=by rw[<-AX i (Dg hi)];exact hn
      exact⟨_,Az,e,⟨rfl,_,_,hr.nil b i hi E4,λ_ _ _ _ _ _ _ _=>⟨EA _,λ_=>rfl⟩⟩,GC hb hw hr AX AM.tail ht hp⟩
     ·cases hp
    ·cases hp
   ·rename_i b' ver
    split at hp
    ·rename_i i hi
     cases hc:Yo i b' with
     |false=>rw[hc]at hp;cases hp
     |true=>
      have:=AB hc;subst this;simp only[hc,As]at hp;split at hp
      ·rename_i t et e ver' Ah l' Ap
       cases C6:Yo ver ver' with
       |false=>rw[C6]at hp;cases hp
       |true=>
        have:=AB C6;subst this;simp only[C6,As]at hp;obtain⟨v,Az,ev,⟨h1,sv,Ac,AA,Bg⟩,ht⟩:=h;have Ei:E.bl i=Yg (.mat t et e ver Ah Yf l'):=by rw[<-AX i (Dg hi)];exact Ap
        have DA:=(Bg _ _ _ _ _ _ _ Ei).2 rfl;exact⟨v,Az,ev,⟨h1,sv,Ac,hr.mat b i sv Ac _ _ _ _ _ _ _ hi Ei AA,λ_ _ _ _ _ _ _ _=>⟨EA _,λ_=>DA⟩⟩,GC hb hw hr AX AM.tail ht hp⟩
      ·cases hp
    ·cases hp
 |.tptrh b ks o::l,cs,vs,y,AM,h,hp=>by
  cases cs with
  |nil=>simp[Bn]at hp
  |cons c cs=>
   cases c<;>simp only[Bn]at hp<;>try(cases hp;done)
   rename_i b' ver p ix o';split at hp
   ·rename_i i hi
    cases hc:(Yo i b'&&Yo o o')with
    |false=>rw[hc]at hp;cases hp
    |true=>
     rw[hc,As]at hp;obtain⟨h1,h2⟩:=andB hc;have h1:=AB h1;have h2:=AB h2;subst h1 h2;split at hp
     ·rename_i t e ver' B8 l' Ap
      cases C6:Yo ver (tv ver' B8 p)with
      |false=>rw[C6]at hp;cases hp
      |true=>
       have:=AB C6;subst this;rw[C6,As]at hp;split at hp
       ·rename_i x hx
        split at hp
        ·rename_i y' hy
         simp only[Af]at hp;subst hp;obtain⟨w1,w2⟩:=rV hx;obtain⟨v,Az,ev,⟨sv,Ac,ad,AA,Ae3,Bg⟩,ht⟩:=h;have Ei:E.bl i=Yg (.tree t e ver' B8 Yf l'):=by rw[<-AX i (Dg hi)];exact Ap
         refine⟨v,Az,ev,⟨sv,Ac,ad,hr.tree b i sv Ac _ _ _ _ _ hi Ei AA,Ae3,λt2 e2 Ju T0 Ti l2 Ai=>?_⟩,GC hb hw hr AX AM.tail ht hy⟩;have:=hr.treeB b i _ _ _ _ _ _ _ _ _ _ _ hi Ei Ai;injection this with q1 q2 q3 q4 q5 q6;subst q1 q2 q3 q4 q5;simp only[Jx]at q6;subst q6;rw[w1,w2];exact⟨EA _,λ_ _=>(Bg _ _ _ _ _ _ Ei).2 rfl λ_ h=>by cases h⟩
        ·cases hp
       ·cases hp
     ·cases hp
   ·cases hp
 |.trowh b::l,[],vs,y,AM,h,hp=>by simp[Bn]at hp
 |.trowh b::l,.nils::cs,vs,y,AM,h,hp=>by
  simp only[Bn]at hp;split at hp
  ·rename_i i hi
   split at hp
   ·rename_i hn
    obtain⟨v,Az,e,hv,ht⟩:=h;simp only[CRep]at hv;subst hv;have E4:E.bl i=Yf:=by rw[<-AX i (Dg hi)];exact hn
    exact⟨_,Az,e,⟨rfl,_,_,hr.nil b i hi E4,λ_ _ _ _ _ _ _=>⟨EA _,λ_ _=>⟨_,rfl,rfl⟩⟩⟩,GC hb hw hr AX AM.tail ht hp⟩
   ·cases hp
  ·cases hp
 |.trowh b::l,.trow b' ver []::cs,vs,y,AM,h,hp=>by
  simp only[Bn]at hp;split at hp
  ·rename_i i hi
   cases hc:Yo i b' with
   |false=>rw[hc]at hp;cases hp
   |true=>
    have:=AB hc;subst this;simp only[hc,As]at hp;split at hp
    ·rename_i t e ver' B8 l' Ap
     cases C6:Yo ver ver' with
     |false=>rw[C6]at hp;cases hp
     |true=>
      have:=AB C6;subst this;simp only[C6,As]at hp;obtain⟨v,Az,ev,⟨h1,sv,Ac,AA,Bg⟩,ht⟩:=h;have Ei:E.bl i=Yg (.tree t e ver B8 Yf l'):=by rw[<-AX i (Dg hi)];exact Ap
      obtain⟨n,q1,q2⟩:=(Bg _ _ _ _ _ _ Ei).2 rfl (λq h=>by cases h);have g1:=hr.tree b i sv Ac _ _ _ _ _ hi Ei AA;exact⟨v,Az,ev,⟨h1,sv,Ac,g1,λ_ _ _ _ _ _ _=>⟨EA _,λ_ _=>⟨_,rfl,q2⟩⟩⟩,GC hb hw hr AX AM.tail ht hp⟩
    ·cases hp
  ·cases hp
 |.trowh b::l,.trow b' ver (_::_)::cs,vs,y,AM,h,hp=>by simp[Bn]at hp
 |.trowh b::l,.bool _::cs,vs,y,AM,h,hp|.trowh b::l,.int _ _::cs,vs,y,AM,h,hp|.trowh b::l,.str _::cs,vs,y,AM,h,hp|.trowh b::l,.err _::cs,vs,y,AM,h,hp
 |.trowh b::l,.list _ _::cs,vs,y,AM,h,hp|.trowh b::l,.nilc::cs,vs,y,AM,h,hp|.trowh b::l,.lsome _ _::cs,vs,y,AM,h,hp|.trowh b::l,.nilp::cs,vs,y,AM,h,hp
 |.trowh b::l,.ptr _ _::cs,vs,y,AM,h,hp|.trowh b::l,.row _ _::cs,vs,y,AM,h,hp|.trowh b::l,.fn _ _::cs,vs,y,AM,h,hp|.trowh b::l,.nilfn::cs,vs,y,AM,h,hp|.trowh b::l,.bfn _ _::cs,vs,y,AM,h,hp|.trowh b::l,.tptr _ _ _ _ _::cs,vs,y,AM,h,hp
 |.trowh b::l,.mapv _::cs,vs,y,AM,h,hp|.trowh b::l,.mat _ _::cs,vs,y,AM,h,hp|.trowh b::l,.mrow _ _ _::cs,vs,y,AM,h,hp|.trowh b::l,.sub _ _ _ _::cs,vs,y,AM,h,hp
 |.trowh b::l,.bself _::cs,vs,y,AM,h,hp|.trowh b::l,.junk::cs,vs,y,AM,h,hp=>by simp[Bn]at hp
 |.nilc::l,cs,vs,y,AM,h,hp=>by
  cases cs with
  |nil=>simp[Bn]at hp
  |cons c cs=>cases c<;>simp[Bn]at hp
 |.lsome _::l,cs,vs,y,AM,h,hp=>by
  cases cs with
  |nil=>simp[Bn]at hp
  |cons c cs=>cases c<;>simp[Bn]at hp
 |.nils::l,cs,vs,y,AM,h,hp=>by
  cases cs with
  |nil=>simp[Bn]at hp
  |cons c cs=>
   cases c<;>simp only[Bn]at hp<;>first|(cases hp;done)|skip
   obtain⟨v,Az,e,hv,ht⟩:=h;exact⟨v,Az,e,hv,GC hb hw hr AX AM.tail ht hp⟩
 |.junk::l,cs,vs,y,AM,h,hp=>by
  cases cs with
  |nil=>simp[Bn]at hp
  |cons c cs=>simp only[Bn]at hp;obtain⟨v,Az,e,hv,ht⟩:=h;exact⟨v,Az,e,CRep.oneCell hv,GC hb hw hr AX AM.tail ht hp⟩
def VReps(E:Env):Ye V->Ye Yq->Prop
 |[],us=>us=[]
 |v::vs,us=>∃u CM,us=u::CM/\VRep E v u/\VReps E vs CM
theorem AfO{v:V}{vs:Ye V}{cs:Ye C}(h:v.cells=Yg cs):CI (v::vs)=CE cs++CI vs:=by simp[CI,h]
theorem rW{E E':Env}{blp:Yn->Ya Blk}{ids Bk:Ye Yn}(hb:Ez E)(hw:E'.w=E.w)(hr:Ren E E' ids Bk)(AX:∀i∈ids,blp i=E.bl i):∀{l:Ye (Ys×Ye CT)}{vs:Ye V}{us:Ye Yq}{y:ST.dens l},Rows E blp E'.ok (CI vs)->VReps E vs us->Hv blp ids l vs=Yg y->TReps E' (mkS Bk l y) us
 |[],vs,us,y,AM,h,hp=>by
  cases vs with
  |nil=>exact h
  |cons v vs=>simp[Hv]at hp
 |t::l,vs,us,y,AM,h,hp=>by
  cases vs with
  |nil=>simp[Hv]at hp
  |cons v vs=>
   obtain⟨u,CM,e,hv,ht⟩:=h;obtain⟨agg,ct⟩:=t;cases agg with
   |false=>
    cases v<;>simp only[Hv]at hp<;>try(cases hp;done)
    rename_i x;split at hp
    ·cases hp
    ·rename_i y1 h1
     split at hp
     ·cases hp
     ·rename_i z h2
      simp only[Af]at hp;subst hp;have Gb:CI (V.c x::vs)=CE [x]++CI vs:=AfO rfl;refine⟨u,CM,e,⟨[u],?_,by simp⟩,rW hb hw hr AX (AM.sub λb DF=>by rw[Gb];exact DW _ DF) ht h2⟩;exact GC hb hw hr AX (AM.sub λb DF=>by rw[Gb];exact D5 _ DF) (show CReps E [x] [u]from⟨u,[],rfl,hv,rfl⟩) h1
   |true=>
    cases v<;>simp only[Hv]at hp<;>try(cases hp;done)
    rename_i cs;split at hp
    ·cases hp
    ·rename_i y1 h1
     split at hp
     ·cases hp
     ·rename_i z h2
      simp only[Af]at hp;subst hp;have Gb:CI (V.agg cs::vs)=CE cs++CI vs:=AfO rfl;obtain⟨xs,Ae,hu⟩:=hv;refine⟨u,CM,e,⟨xs,?_,hu⟩,rW hb hw hr AX (AM.sub λb DF=>by rw[Gb];exact DW _ DF) ht h2⟩;exact GC hb hw hr AX (AM.sub λb DF=>by rw[Gb];exact D5 _ DF) Ae h1
theorem AfP{E E':Env}{blp:Yn->Ya Blk}{ids Bk:Ye Yn}(hb:Ez E)(hw:E'.w=E.w)(hr:Ren E E' ids Bk)(AX:∀i∈ids,blp i=E.bl i):∀{l:Ye BT}{is:Ye Yn}{y:BT.dens l},Rows E blp E'.ok (Kc blp is)->(∀i∈is,i∈ids)->GB blp ids l is=Yg y->is.length=l.length/\∀(j i:Yn),is[j]?=Yg i->∃g B,E.pl i=Yg (.cells g)/\(mkB Bk l y)[j]?=Yg B/\BRep E' B (.cells g)/\B.live=Yp
 |[],is,y,AM,CV,hp=>by
  cases is with
  |nil=>exact⟨rfl,λj i h=>by simp at h⟩
  |cons i is=>simp[GB]at hp
 |.row t e::r,is,y,AM,CV,hp=>by cases is<;>simp[GB]at hp
 |.map t k v vg::r,is,y,AM,CV,hp=>by cases is<;>simp[GB]at hp
 |.mat t et e::r,is,y,AM,CV,hp=>by cases is<;>simp[GB]at hp
 |.tree t e::r,is,y,AM,CV,hp=>by cases is<;>simp[GB]at hp
 |.fmap t l::r,is,y,AM,CV,hp=>by cases is<;>simp[GB]at hp
 |.cells t l::r,is,y,AM,CV,hp=>by
  cases is with
  |nil=>simp[GB]at hp
  |cons i is=>
   simp only[GB]at hp;split at hp
   ·rename_i t' cs Ap
    cases ht:Yo t t' with
    |false=>rw[ht]at hp;cases hp
    |true=>
     have:=AB ht;subst this;simp only[ht,As]at hp;split at hp
     ·cases hp
     ·rename_i y1 h1
      split at hp
      ·cases hp
      ·rename_i z h2
       simp only[Af]at hp;subst hp;have Gb:Kc blp (i::is)=CE cs++Kc blp is:=by simp[Kc,Ap]
       obtain⟨hl,Ek⟩:=AfP hb hw hr AX (AM.sub λb DF=>by rw[Gb];exact DW _ DF) (λj hj=>CV j (DX _ hj)) h2;refine⟨by simp[hl],λj k hj=>?_⟩;cases j with
       |zero=>
        simp only[DM,Af]at hj;subst hj;have Ei:E.bl i=Yg (.cells t cs):=by rw[<-AX i (CV i (by simp))];exact Ap
        obtain⟨p,D0,hB⟩:=hb i _ Ei;cases p with
        |row _ _=>exact hB.elim
        |cells g=>obtain⟨vs,hh,De⟩:=hB;refine⟨g,_,D0,rfl,⟨vs,by rw[hw];exact hh,?_⟩,rfl⟩;exact GC hb hw hr AX (AM.sub λb DF=>by rw[Gb];exact D5 _ DF) De h1
       |succ j=>obtain⟨g,B,h3,h4,h5,h6⟩:=Ek j k (by simpa using hj);exact⟨g,B,h3,by simpa [mkB]using h4,h5,h6⟩
   ·cases hp
theorem GD{ids:Ye Yn}:∀{l:Ye BT}{y:BT.dens l},(mkB ids l y).length=l.length
 |[],_=>rfl
 |.cells _ _::r,y=>by simp[mkB,GD (l:=r)]
 |.row _ _::r,y=>by simp[mkB,GD (l:=r)]
 |.map _ _ _ _::r,y=>by simp[mkB,GD (l:=r)]
 |.mat _ _ _::r,y=>by simp[mkB,GD (l:=r)]
 |.tree _ _::r,y=>by simp[mkB,GD (l:=r)]
 |.fmap _ _::r,y=>by simp[mkB,GD (l:=r)]
end Go.Lift
