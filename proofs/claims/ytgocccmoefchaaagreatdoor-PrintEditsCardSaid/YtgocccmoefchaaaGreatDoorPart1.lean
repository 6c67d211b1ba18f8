/- Part1: LiftG, LiftH, LiftI, LiftJ, LiftJm, LiftJn, LiftJq, LiftJt, LiftK, LiftL. -/
import Derived.ChangeKeysEq
import Derived.WideLaws
import Derived.Laws.Pointers
import Derived.MapKept
import Derived.Maps.AppendAt
import Derived.Lib.Strings
import Derived.Laws.CopyRow
import Derived.Laws.BytesArg
import Derived.Test.YtgocccmoefchaaaGreatDoorPart0
set_option linter.unusedVariables false
set_option linter.unusedSectionVars false
set_option linter.unusedSimpArgs false
namespace Go.Lift
open Go.RowKit
theorem D8{a b:Nat}(h:Nat.blt a b=true):a<b:=by have:=Hs h;omega
section
variable{P:Program}{o:Oper}{ρ:Operand->V}{bl:Nat->Option Blk}{β:Type}{r:β}
theorem eI{β:Type}{i:Int}{kk:Nat->Option β}{r:β}:∀{m j:Nat},OW i kk j m=some r->∃q,j<=q/\i=(q:Int)/\kk q=some r/\q<j+m
 |0,j,h=>by simp[OW]at h
 |m+1,j,h=>by
  simp only[OW]at h;cases hd:decide (i=(j:Int))with
  |true=>rw[hd]at h;exact⟨j,AC _,AV hd,h,by omega⟩
  |false=>rw[hd]at h;obtain⟨q,h1,h2,h3,h4⟩:=eI (m:=m) h;exact⟨q,by omega,h2,h3,by omega⟩
theorem Nc{x:V}{k:IntKind}{n:Int}(h:ival x=some (k,n)):x=.c (.int k n):=by
 unfold ival at h;split at h
 ·simp only[Af,BC]at h
  rw[h.1,h.2]
 ·cases h
theorem xG{t:TypeId}{ti:TI}{i:TypeInfo}{d:TypeDesc}{z:Value}(f:TFacts P t ti i d z){k off n:Nat}{g:Bool}(h:ti.flds[k]?=some (off,n,g)):∃fs fd j e,d=.struct fs/\fs[k]?=some fd/\fd.offset=off/\P.info? fd.type=some j/\j.size=n/\P.underlying fd.type=some e/\Ir P fd.type=g:=by
 rw[f.flds]at h;unfold Wd at h;split at h
 ·rename_i fs
  rw[FI]at h;cases hk:fs.toList[k]? with
  |none=>rw[hk]at h;cases h
  |some fd=>rw[hk]at h;simp only[EM,Af,BC]at h;have CX:fd∈fs.toList:=CI hk;have D5:=f.known;simp only[Pk,Ef]at D5;have h1:=D5 fd CX;simp only[C5,cF]at h1;obtain⟨⟨j,hj⟩,⟨e,he⟩⟩:=h1;refine⟨fs,fd,j,e,rfl,by simpa using hk,h.1,hj,?_,he,h.2.2⟩;rw[<-h.2.1];simp[Program.cellsOf,hj]
 ·simp at h
theorem Akl{fd:Field}{j:TypeInfo}(hj:P.info? fd.type=some j)(hs:j.size≠0)(a:Addr)(w:World):(fieldPlace a fd).run P w=.ok (a.add fd.offset) w:=by simp[fieldPlace,sizeOf,typeInfo,hj,hs]
theorem Akm{T:TypeId->Option TI}(hT:TOk P T){kk:K β}{t:TypeId}{x:Operand}{fi:Nat}(ho:o.op=.fieldAddr t x fi)(hk:cU T t (ρ x) fi kk=some r):Sound P o ρ bl kk r:=by
 unfold cU at hk;split at hk
 ·cases hk
 rename_i ti ht;obtain⟨i,d,z,f⟩:=hT.facts ht;split at hk
 ·cases hk
 rename_i off n g hf;obtain⟨fs,fd,j,e,rfl,aL,rfl,hj,Az8,he,hg⟩:=xG f hf;cases hn:Nat.beq n 0 with
 |true=>rw[hn]at hk;cases hk
 |false=>
  simp only[hn,Cj]at hk;have hs:j.size≠0:=by rw[Az8];rintro rfl;cases hn
  have AA:∀(a:Act)(w:World)(ad:Addr),a.eval x=.pointer (some ad)->(execOp a.eval o).run P w=.ok (.value (.pointer (some (ad.add fd.offset)))) w:=by intro a w ad ha;simp[execOp,ho,ha,Instr.fieldAt,run_underlying f.under,aL,Instr.sureAddr,Akl hj hs]
  split at hk
  ·rename_i b of hx
   refine Sound.pure hk λAa _ ok0 base pl w a hr Ae=>?_;have hv:=Ae x (by simp[ho,Op.operands]);rw[hx]at hv;obtain⟨g',C2,Bm⟩:=hv;refine⟨_,AA a w _ Bm,g',C2,?_⟩;rw[Addr.add_lit]
  ·rename_i b ver ix of hx
   refine Sound.pure hk λAa _ ok0 base pl w a hr Ae=>?_;have hv:=Ae x (by simp[ho,Op.operands]);rw[hx]at hv;obtain⟨sv,Ab,ad,C2,Bm,AT⟩:=hv;refine⟨_,AA a w _ Bm,sv,Ab,_,C2,rfl,λt1 e1 CD l1 By=>?_⟩;obtain⟨h1,h2⟩:=AT t1 e1 CD l1 By;refine⟨h1,λhe=>?_⟩;obtain⟨h3,g',n',c',h4,rfl⟩:=h2 he;exact⟨h3,g',n',c',h4,by rw[Addr.add_lit,QW]⟩
  ·rename_i e' x0 of hx
   refine Sound.pure hk λAa _ ok0 base pl w a hr Ae=>?_;have hv:=Ae x (by simp[ho,Op.operands]);rw[hx]at hv;obtain⟨xs,ad,hd,Bm,hc⟩:=hv;refine⟨_,AA a w _ Bm,xs,_,hd,rfl,λj' u Gs=>?_⟩;rw[KK,LM]
   have h2:(xs.drop of)[fd.offset+j']?=some u:=by rw[OM]at Gs⊢;rw[<-Gs];congr 1;omega
   obtain⟨h3,h4⟩:=hc _ u h2;exact⟨h3,h4⟩
  ·rename_i b ver p ix of hx
   refine Sound.pure hk λAa _ ok0 base pl w a hr Ae=>?_;have hv:=Ae x (by simp[ho,Op.operands]);rw[hx]at hv;obtain⟨sv,Ab,ad,C2,Bm,AT⟩:=hv;refine⟨_,AA a w _ Bm,sv,Ab,_,C2,rfl,λt1 e1 CD GR h1 l1 By=>?_⟩;obtain⟨h1,h2⟩:=AT t1 e1 CD GR h1 l1 By;refine⟨h1,λhe ho=>?_⟩;obtain⟨n',s,h3,h4,h5,g',m',c',h6,rfl⟩:=h2 he ho;exact⟨n',s,h3,h4,h5,g',m',c',h6,by rw[Addr.add_lit,QW]⟩
  ·cases hk
theorem Rz{t:TypeId}{ti:TI}{i:TypeInfo}{d:TypeDesc}{z:Value}(f:TFacts P t ti i d z){e:TypeId}{te:TI}{i':TypeInfo}{d':TypeDesc}{z':Value}(fe:TFacts P e te i' d' z')(hd:d=.slice e){k:IntKind}{ix:Int}{ad:Addr}{n c:Nat}(h0:0<=ix)(h1:ix<(n:Int))(w:World):(Instr.indexAt t (.slice (some ad) n c) (.int k ix)).run P w=.ok (.pointer (some (ad.add (ix.toNat*te.size)))) w:=by
 subst hd;have h:=f.under;simp[Instr.indexAt,asIntOf,run_underlying f.under,h0,h1,run_sizeOf fe]
theorem Gk{t:TypeId}{ti:TI}{i:TypeInfo}{d:TypeDesc}{z:Value}(f:TFacts P t ti i d z){e:TypeId}(h:ti.elem=some e)(hl:ti.len=none):d=.slice e:=by rw[f.elem]at h;rw[f.alen]at hl;cases d<;>simp_all [We,lenD]
theorem eJ{t:TypeId}{ti:TI}{i:TypeInfo}{d:TypeDesc}{z:Value}(f:TFacts P t ti i d z){e:TypeId}{n:Nat}(h:ti.elem=some e)(hl:ti.len=some n):d=.array n e:=by rw[f.elem]at h;rw[f.alen]at hl;cases d<;>simp_all [We,lenD]
theorem Akn{w:World}{ok:Nat->Prop}{e:Ty}{l:List e.den}{v:Value}(h:DRep w ok (.slice e) l [v]){i:Nat}(hi:i<l.length)(hs:0<e.size):∃ad c u,v=.slice (some ad) l.length c/\DRep w ok e (l.getD i e.dflt) u/\∀j x,u[j]?=some x->ok ad.block/\w.cell? (ad.add (i*e.size+j))=some x:=by
 simp only[DRep]at h;obtain⟨A,c,xs,hv,BD,EQ,hd,hx⟩:=h;obtain⟨u,p,q,Ae,hp,hu⟩:=DList.get e.dflt hd hi;have bG:=hu.length;have Hn:0<u.length:=by omega
 have h0:xs[i*e.size]?=some u[0]:=by rw[Ae,FG (by omega),GX (by omega)];simp[hp]
 obtain⟨ad,rfl,_,_⟩:=hx _ _ h0;simp only[De,EA]at hv;refine⟨ad,c,u,hv,hu,λj x hj=>?_⟩;have Aih:j<u.length:=(Eu.1 hj).1
 have h1:xs[i*e.size+j]?=some x:=by rw[Ae,FG (by omega),GX (by omega),<-hj];congr 1;omega
 obtain⟨sR,ha,ho,hc⟩:=hx _ _ h1;injection ha with ha;subst ha;exact⟨ho,hc⟩
theorem Ako{T:TypeId->Option TI}(hT:TOk P T){kk:K β}{t:TypeId}{x y:Operand}(ho:o.op=.indexAddr t x y)(hk:cV T bl t (ρ x) (ρ y) kk=some r):Sound P o ρ bl kk r:=by
 unfold cV at hk;split at hk
 ·cases hk
 rename_i k ix UB;have hy:=Nc UB
 have I8:∀(a:Act)(E:Env),VRep E (ρ y) (a.eval y)->a.eval y=.int k ix:=by intro a E h;rw[hy]at h;exact h
 have AA:∀(a:Act)(w:World),execOp a.eval o=(do pure (.value (<-Instr.indexAt t (a.eval x) (a.eval y)))):=by intro a w;simp[execOp,ho]
 split at hk
 ·cases hk
 rename_i ti ht;obtain⟨i,d,z,f⟩:=hT.facts ht;split at hk
 ·
  rename_i et Ck Cr;have hd:=Gk f Ck Cr;split at hk
  ·cases hk
  rename_i te BE;obtain⟨i',d',z',fe⟩:=hT.facts BE;split at hk
  ·rename_i e l hx
   cases hs:(Nat.beq e.size te.size&&Nat.blt 0 te.size)with
   |false=>rw[hs]at hk;cases hk
   |true=>
    obtain⟨Bk,AS⟩:=andB hs;have L1:=As Bk;have bD:0<te.size:=D8 AS;simp only[hs,Am]at hk;obtain⟨hc,hk⟩:=D2 hk;obtain⟨CQ,Ch⟩:=andB hc;have CQ:=AV CQ;have Ch:=AV Ch;refine Sound.pure hk λAa _ ok0 base pl w a hr Ae=>?_;have hv:=Ae x (by simp[ho,Op.operands]);have I9:=I8 a _ (Ae y (by simp[ho,Op.operands]));rw[hx]at hv;obtain⟨ad,c,u,Bm,hu,Dw⟩:=Akn hv (i:=ix.toNat) (by omega) (by omega);refine⟨.pointer (some (ad.add (ix.toNat*te.size))),?_,u,_,hu,rfl,λj x hj=>?_⟩
    ·rw[AA a w,I9,Bm]
     simp[Rz f fe hd CQ Ch]
    ·rw[KK,LM,<-L1]
     exact Dw j x (by simpa using hj)
  ·rename_i b ver hx
   split at hk
   ·rename_i t0 e ver' l hb
    cases hs:(Nat.beq ver ver'&&(Nat.beq e.size te.size&&Nat.blt 0 te.size))with
    |false=>rw[hs]at hk;cases hk
    |true=>
     obtain⟨AP,L2⟩:=andB hs;obtain⟨Bk,AS⟩:=andB L2;have L1:=As Bk;have bD:0<te.size:=D8 AS;have:=As AP;subst this;simp only[hs,Am]at hk;obtain⟨hc,hk⟩:=D2 hk;obtain⟨CQ,Ch⟩:=andB hc;have CQ:=AV CQ;have Ch:=AV Ch;refine Sound.pure hk λAa Ah ok0 base pl w a hr Ae=>?_;have Aw:Aa b=some (.row t0 e ver l):=(Ah b (by simp)).trans hb;have hv:=Ae x (by simp[ho,Op.operands]);have I9:=I8 a _ (Ae y (by simp[ho,Op.operands]));rw[hx]at hv;obtain⟨_,sv,Ab,hg,AT⟩:=hv;have Bm:=(AT t0 e ver l Aw).2 rfl;obtain⟨p,hp,hB⟩:=hr.blks b _ Aw;have:p=.row sv Ab:=by have h2:pl b=some (.row sv Ab):=hg;rw[hp]at h2;injection h2
     subst this;obtain⟨h0,xs,Cs,Ak⟩:=hB;rcases Ak.2 with⟨Aq,hn⟩|⟨g,cap,AQ,Aq,_⟩
     ·omega
     ·refine⟨.pointer (some ((⟨g,0,none⟩:Addr).add (ix.toNat*te.size))),?_,sv,Ab,_,hg,rfl,λt1 e1 CD l1 By=>?_⟩
      ·rw[AA a w,I9,Bm,Aq]
       simp[Rz f fe hd CQ Ch]
      ·obtain⟨h1,h2⟩:=AT t1 e1 CD l1 By
       refine⟨h1,λhe=>?_⟩;have DQ:Aa b=some (.row t1 e1 CD l1):=By;rw[Aw]at DQ;injection DQ with DQ;injection DQ with q1 q2 q3 q4;subst q2;simp only[In]at q4;subst q4;refine⟨by omega,g,_,_,Aq,?_⟩;rw[Addr.add_lit,L1];simp
   ·cases hk
  ·
   rename_i b ver lo hi hx;split at hk
   ·rename_i t0 e ver' l hb
    cases hs:(Nat.beq ver ver'&&(Nat.beq e.size te.size&&Nat.blt 0 te.size))with
    |false=>rw[hs]at hk;cases hk
    |true=>
     obtain⟨AP,L2⟩:=andB hs;obtain⟨Bk,AS⟩:=andB L2;have L1:=As Bk;have bD:0<te.size:=D8 AS;have:=As AP;subst this;simp only[hs,Am]at hk;obtain⟨hc,hk⟩:=D2 hk;obtain⟨CQ,Ch⟩:=andB hc;have CQ:=AV CQ;have Ch:=AV Ch;refine Sound.pure hk λAa Ah ok0 base pl w a hr Ae=>?_;have Aw:Aa b=some (.row t0 e ver l):=(Ah b (by simp)).trans hb;have hv:=Ae x (by simp[ho,Op.operands]);have I9:=I8 a _ (Ae y (by simp[ho,Op.operands]));rw[hx]at hv;obtain⟨_,sv,Ab,hg,AT⟩:=hv;obtain⟨q1,q2,A,A',n,c,Aq,Bm,hA,_⟩:=(AT t0 e ver l Aw).2 rfl;obtain⟨p,hp,hB⟩:=hr.blks b _ Aw;have:p=.row sv Ab:=by have h2:pl b=some (.row sv Ab):=hg;rw[hp]at h2;injection h2
     subst this;obtain⟨h0,xs,Cs,Ak⟩:=hB;have Ao:lo<hi:=by omega
     have hA:=hA Ao;rcases Ak.2 with⟨CY,hn⟩|⟨g,cap,AQ,CY,_⟩
     ·omega
     ·have hAg:A=some ⟨g,0,none⟩:=by rw[Aq]at CY;injection CY
      subst hAg;have hA:A'=some ((⟨g,0,none⟩:Addr).add (lo*e.size)):=hA;subst hA;refine⟨.pointer (some (((⟨g,0,none⟩:Addr).add (lo*e.size)).add (ix.toNat*te.size))),?_,sv,Ab,_,hg,rfl,λt1 e1 CD l1 By=>?_⟩
      ·rw[AA a w,I9,Bm]
       simp[Rz f fe hd CQ Ch]
      ·obtain⟨h1,_⟩:=AT t1 e1 CD l1 By
       refine⟨h1,λhe=>?_⟩;have DQ:Aa b=some (.row t1 e1 CD l1):=By;rw[Aw]at DQ;injection DQ with DQ;injection DQ with q1 q2 q3 q4;subst q2;simp only[In]at q4;subst q4;refine⟨by omega,g,_,_,Aq,?_⟩;rw[LM,Addr.add_lit,<-L1,IJ];simp
   ·cases hk
  ·
   rename_i b ver p hx;split at hk
   ·rename_i q hq
    obtain⟨hb,AP,hn⟩:=Wo hq;subst AP;cases hs:(Nat.beq q.2.2.2.2.1.2.ty.size te.size&&Nat.blt 0 te.size)with
    |false=>rw[hs]at hk;cases hk
    |true=>
     obtain⟨Bk,AS⟩:=andB hs;have L1:=As Bk;have bD:0<te.size:=D8 AS;simp only[hs,Am]at hk;obtain⟨hc,hk⟩:=D2 hk;obtain⟨CQ,Ch⟩:=andB hc;have CQ:=AV CQ;have Ch:=AV Ch;refine Sound.pure hk λAa Ah ok0 base pl w a hr Ae=>?_;have Aw:=(Ah b (by simp)).trans hb;have hv:=Ae x (by simp[ho,Op.operands]);have I9:=I8 a _ (Ae y (by simp[ho,Op.operands]));rw[hx]at hv;obtain⟨sv,Ab,n',Be,hT',DR,Jm⟩:=eC (E:=Al ok0 base pl Aa w) hr.blksOk Aw hv;have:=KP DR;rw[hn]at this;injection this with this;subst this;obtain⟨s',Fn,G1,G2,_,_,_,h4,h5,_,_⟩:=hT'.node DR;rw[Jm]at h4;injection h4 with h4;injection h4 with h4;subst h4;obtain⟨s',xs,F',e1,_,Ak,_⟩:=h5;have e1:=(JO e1).1;subst e1;rcases Ak.2 with⟨Aq,I4⟩|⟨g,cap,AQ,Aq,_⟩
     ·have:q.2.2.2.2.2.length=0:=I4
      omega
     ·refine⟨.pointer (some ((⟨g,0,none⟩:Addr).add (ix.toNat*te.size))),?_,sv,Ab,_,Be,rfl,λt1 e1 CD GR H8 l1 By=>?_⟩
      ·have aH:ix<(q.2.2.2.2.2.length:Int):=Ch
       rw[AA a w,I9,Aq];simp[Rz f fe hd CQ aH]
      ·have DQ:Aa b=some (.tree t1 e1 CD GR H8 l1):=By
       rw[Aw]at DQ;injection DQ with DQ;injection DQ with q1 q2 q3 q4 q5 q6;subst q1 q2 q3 q4 q5;simp only[In]at q6;subst q6;refine⟨AC _,λ_ _=>⟨_,_,DR,Jm,?_,g,_,_,Aq,?_⟩⟩
       ·have:(ix.toNat:Int)<(q.2.2.2.2.2.length:Int):=by omega
        exact_mod_cast this
       ·rw[Addr.add_lit,L1]
        simp
   ·unfold wQ at hk
    split at hk
    ·rename_i t0 e0 ver' Bp p0 q0 l0 hb _
     cases hs:(Nat.beq ver ver'&&(Nat.beq e0.ty.size te.size&&Nat.blt 0 te.size))with
     |false=>rw[hs]at hk;cases hk
     |true=>
      obtain⟨M8,hs⟩:=andB hs;obtain⟨Bk,AS⟩:=andB hs;have:=As M8;subst this;have L1:=As Bk;have bD:0<te.size:=D8 AS;rw[show(Nat.beq ver ver&&(Nat.beq e0.ty.size te.size&&Nat.blt 0 te.size))=true by rw[M8,Bk,AS];rfl,Am]at hk;obtain⟨hc,hk⟩:=D2 hk;obtain⟨CQ,Ch⟩:=andB hc;have CQ:=AV CQ;have Ch:=AV Ch;refine Sound.pure hk λAa Ah ok0 base pl w a hr Ae=>?_;have Aw:=(Ah b (by simp)).trans hb;have hv:=Ae x (by simp[ho,Op.operands]);have I9:=I8 a _ (Ae y (by simp[ho,Op.operands]));rw[hx]at hv;obtain⟨_,sv,Ab,Be,AT⟩:=hv
      have uC:QZ (some (p0::q0)) []:=λq hq I5=>by injection hq with hq;subst hq;simp at I5
      obtain⟨n,hn,Jm⟩:=(AT _ _ _ _ _ _ Aw).2 rfl uC;have hn:some (⟨(t0,e0),l0⟩:Ew)=some n:=hn;injection hn with hn;subst hn;have Jm:sv=a.eval x:=by simpa [nix]using Jm
      obtain⟨p,hp,hB⟩:=hr.blks b _ Aw;have Om:pl b=some (.row sv Ab):=Be;rw[hp]at Om;injection Om with Om;subst Om;have hT:TreeOk (Al ok0 base pl Aa w) t0 e0 (some (p0::q0)) l0 sv Ab:=hB;obtain⟨MA,F,h1,_,_⟩:=hT.rep;obtain⟨i0,k0⟩:=p0;obtain⟨_,s',xs,F',e1,_,Ak,_⟩:=h1;have e1:=(JO e1).1;subst e1;rcases Ak.2 with⟨Aq,I4⟩|⟨g,cap,AQ,Aq,_⟩
      ·have:l0.length=0:=I4
       omega
      ·refine⟨.pointer (some ((⟨g,0,none⟩:Addr).add (ix.toNat*te.size))),?_,sv,Ab,_,hp,rfl,λt1 e1 CD GR H8 l1 By=>?_⟩
       ·have aH:ix<(l0.length:Int):=Ch
        rw[AA a w,I9,<-Jm,Aq];simp[Rz f fe hd CQ aH]
       ·have DQ:Aa b=some (.tree t1 e1 CD GR H8 l1):=By
        rw[Aw]at DQ;injection DQ with DQ;injection DQ with q1 q2 q3 q4 q5 q6;subst q1 q2 q3 q4 q5;simp only[In]at q6;subst q6;refine⟨AC _,λ_ _=>⟨⟨(t0,e0),l0⟩,sv,rfl,rfl,?_,g,_,_,Aq,?_⟩⟩
        ·have:(ix.toNat:Int)<(l0.length:Int):=by omega
         exact_mod_cast this
        ·rw[Addr.add_lit,L1]
         simp
    ·cases hk
  ·cases hk
 ·
  rename_i et n Ck Cr;have hd:=eJ f Ck Cr;subst hd;split at hk
  ·rename_i b off hx
   split at hk
   ·rename_i te BE
    obtain⟨i',d',z',fe⟩:=hT.facts BE;obtain⟨j,Az6,hj,hk,Az7⟩:=eI hk;have BN:j<n:=by omega
    refine Sound.pure hk λAa Ah ok0 base pl w a hr Ae=>?_;have hv:=Ae x (by simp[ho,Op.operands]);have I9:=I8 a _ (Ae y (by simp[ho,Op.operands]));rw[hx]at hv;obtain⟨g,hg,Bm⟩:=hv;refine⟨.pointer (some ((⟨g,off,none⟩:Addr).add (j*te.size))),?_,g,hg,by rw[Addr.add_lit]⟩;rw[AA a w,I9,Bm,hj];simp[Instr.indexAt,asIntOf,run_underlying f.under,Instr.sureAddr,BN,run_sizeOf fe]
   ·cases hk
  ·rename_i b ver q off hx
   split at hk
   ·rename_i te BE
    obtain⟨i',d',z',fe⟩:=hT.facts BE;obtain⟨j,Az6,hj,hk,Az7⟩:=eI hk;have BN:j<n:=by omega
    refine Sound.pure hk λAa Ah ok0 base pl w a hr Ae=>?_;have hv:=Ae x (by simp[ho,Op.operands]);have I9:=I8 a _ (Ae y (by simp[ho,Op.operands]));rw[hx]at hv;obtain⟨sv,Ab,ad,hp,Bm,AT⟩:=hv;refine⟨.pointer (some (ad.add (j*te.size))),?_,sv,Ab,_,hp,rfl,λt e ver' l hb=>?_⟩
    ·rw[AA a w,I9,Bm,hj]
     simp[Instr.indexAt,asIntOf,run_underlying f.under,Instr.sureAddr,BN,run_sizeOf fe]
    ·obtain⟨h1,h2⟩:=AT t e ver' l hb
     refine⟨h1,λh=>?_⟩;obtain⟨h3,g,n',c,h4,h5⟩:=h2 h;refine⟨h3,g,n',c,h4,?_⟩;rw[h5,Addr.add_lit,QW]
   ·cases hk
  ·cases hk
 ·cases hk
end
end Go.Lift
namespace Go.Lift
open Go.RowKit
theorem xH(l:List UInt8):(⟨l.toArray⟩:ByteArray).toList=l:=by rw[ByteArray.toList_eq]
section
variable{P:Program}{o:Oper}{ρ:Operand->V}{bl:Nat->Option Blk}{β:Type}{r:β}
theorem Akp{w:World}{op:BinOp}{t:TypeId}{x y:Operand}{k k':IntKind}{a b:Int}:(eqGuard op t x y (.int k a) (.int k' b)).run P w=.ok () w:=by unfold eqGuard;cases op<;>simp
theorem Akq{w:World}{op:BinOp}{t:TypeId}{x y:Operand}{a b:ByteArray}:(eqGuard op t x y (.string a) (.string b)).run P w=.ok () w:=by unfold eqGuard;cases op<;>simp
theorem Akr{w:World}{op:BinOp}{t:TypeId}{x y:Operand}{a b:Bool}:(eqGuard op t x y (.bool a) (.bool b)).run P w=.ok () w:=by unfold eqGuard;cases op<;>simp
theorem eK{t:TypeId}{k:BK}(h:JX P t=some k)(w:World):(isAgg t).run P w=.ok false w:=by unfold isAgg;unfold JX at h;split at h<;>first|(rename_i hu;simp[run_underlying hu];done)|cases h
theorem eL{w:World}(d0:Nat){t:TypeId}{k:BK}(hb:JX P t=some k){ks:List BK}{a b:C}{as bs:List C}{x y:Value}{E:Env}(ha:CRep E a x)(hy:CRep E b y){q:Bool}(hq:Ce (k::ks) (a::as) (b::bs)=some q):∃q1 q2,(Op.equalIn (d0+1) t x y).run P w=.ok q1 w/\Ce ks as bs=some q2/\q=(q1&&q2):=by
 unfold JX at hb;cases k<;>cases a<;>try(simp[Ce]at hq;done)
 ·cases b<;>simp only[Ce]at hq<;>try(cases hq;done)
  rename_i a b;split at hq
  ·rename_i q2 h2
   simp only[CRep]at ha hy;subst ha hy;simp only[Af]at hq;split at hb<;>try(cases hb;done)
   rename_i hu;exact⟨_,q2,run_equalIn_bool' w d0 t _ _ hu,h2,hq.symm⟩
  ·cases hq
 ·cases b<;>simp only[Ce]at hq<;>try(cases hq;done)
  rename_i ka a kb b;split at hq
  ·rename_i hk
   subst hk;split at hq
   ·rename_i q2 h2
    simp only[CRep]at ha hy;subst ha hy;simp only[Af]at hq;split at hb<;>try(cases hb;done)
    rename_i k' hu;exact⟨_,q2,run_equalIn_int w d0 t _ _ _ _ hu,h2,hq.symm⟩
   ·cases hq
  ·cases hq
 ·cases b<;>simp only[Ce]at hq<;>try(cases hq;done)
  rename_i a b;split at hq
  ·rename_i q2 h2
   simp only[CRep]at ha hy;subst ha hy;simp only[Af]at hq;split at hb<;>try(cases hb;done)
   rename_i hu;refine⟨_,q2,run_equalIn_string w d0 t _ _ hu,h2,?_⟩;rw[xH,xH,<-hq];by_cases h:a=b<;>simp[h]
  ·cases hq
theorem Aks{w:World}(d0:Nat):∀(fs:List Field)(i:Nat)(ks:List BK)(as bs:List C)(xs ys:List Value)(E:Env)(xa ya:Array Value),Rr P i fs=some ks->CReps E as xs->CReps E bs ys->xa.toList.drop i=xs->ya.toList.drop i=ys->∀{q:Bool},Ce ks as bs=some q->(Op.eqFields (d0+1) xa ya fs).run P w=.ok q w:=by
 intro fs
 induction fs with
 |nil=>
  intro i ks as bs xs ys E xa ya hf ha hb _ _ q hq;simp only[Rr,Af]at hf;subst hf;cases as with
  |cons a as=>simp[Ce]at hq
  |nil=>
   cases bs with
   |nil=>simp only[Ce,Af]at hq;subst hq;simp[Op.eqFields]
   |cons b bs=>simp[Ce]at hq
 |cons f fs ih=>
  intro i ks as bs xs ys E xa ya hf ha hb K6 K7 q hq;simp only[Rr]at hf;cases hn:(f.name != "_"&&Nat.beq f.offset i)with
  |false=>rw[hn]at hf;cases hf
  |true=>
   simp only[hn,Am]at hf;obtain⟨E7,JD⟩:=andB hn;have JD:=As JD;split at hf
   ·rename_i k Vd Jg DE
    simp only[Af]at hf;subst hf;cases as with
    |nil=>simp[Ce]at hq
    |cons a as=>
     cases bs with
     |nil=>cases k<;>cases a<;>simp[Ce]at hq
     |cons b bs=>
      obtain⟨x,Dk,ex,Lm,NL⟩:=ha;obtain⟨y,MH,ey,By,Ah⟩:=hb;subst ex ey
      have BP:xa[i]?=some x:=by have:=At (·[0]?) K6;simpa using this
      have DT:ya[i]?=some y:=by have:=At (·[0]?) K7;simpa using this
      have Hp:xa.toList.drop (i+1)=Dk:=by have:=At List.tail K6;simpa using this
      have H9:ya.toList.drop (i+1)=MH:=by have:=At List.tail K7;simpa using this
      have aU:f.name≠ "_":=by simpa using E7
      have E5:=eK (P:=P) Jg w
      have K3:(part f.type xa f.offset).run P w=.ok x w:=by simp[part,E5,JD,BP]
      have On:(part f.type ya f.offset).run P w=.ok y w:=by simp[part,E5,JD,DT]
      obtain⟨q1,q2,h1,h2,h3⟩:=eL (w:=w) d0 Jg Lm By hq;have NX:=ih (i+1) Vd as bs Dk MH E xa ya DE NL Ah Hp H9 h2;simp only[Op.eqFields,ne_eq,aU,VC,Dn,Sem.run_bind,K3,On,h1,Result.andThen_ok];cases q1 with
      |false=>simp[h3]
      |true=>simp[h3,NX]
   ·cases hf
theorem xI:∀{js ks:List BK}{as bs:List C}{q:Bool},Ce (js++ks) as bs=some q->∃a1 a2 b1 b2 q1 q2,as=a1++a2/\bs=b1++b2/\a1.length=js.length/\b1.length=js.length/\Ce js a1 b1=some q1/\Ce ks a2 b2=some q2/\q=(q1&&q2)
 |[],ks,as,bs,q,h=>⟨[],as,[],bs,true,q,rfl,rfl,rfl,rfl,rfl,h,rfl⟩
 |j::js,ks,as,bs,q,h=>by
  have key:∃x y Qo Mr e r,as=x::Qo/\bs=y::Mr/\Ce (js++ks) Qo Mr=some r/\q=(e&&r)/\∀ls u v s,Ce ls u v=some s->Ce (j::ls) (x::u) (y::v)=some (e&&s):=by
   rw[Fw]at h;cases j<;>cases as<;>try(simp[Ce]at h;done)
   ·rename_i x Qo
    cases x<;>try(simp[Ce]at h;done)
    cases bs<;>try(simp[Ce]at h;done)
    rename_i y Mr;cases y<;>simp only[Ce]at h<;>try(cases h;done)
    split at h
    ·rename_i r hr
     simp only[Af]at h;exact⟨_,_,_,_,_,r,rfl,rfl,hr,h.symm,λls u v s hs=>by simp[Ce,hs]⟩
    ·cases h
   ·rename_i x Qo
    cases x<;>try(simp[Ce]at h;done)
    cases bs<;>try(simp[Ce]at h;done)
    rename_i y Mr;cases y<;>simp only[Ce]at h<;>try(cases h;done)
    split at h
    ·rename_i hk
     split at h
     ·rename_i r hr
      simp only[Af]at h;exact⟨_,_,_,_,_,r,rfl,rfl,hr,h.symm,λls u v s hs=>by simp[Ce,hs,hk]⟩
     ·cases h
    ·cases h
   ·rename_i x Qo
    cases x<;>try(simp[Ce]at h;done)
    cases bs<;>try(simp[Ce]at h;done)
    rename_i y Mr;cases y<;>simp only[Ce]at h<;>try(cases h;done)
    split at h
    ·rename_i r hr
     simp only[Af]at h;exact⟨_,_,_,_,_,r,rfl,rfl,hr,h.symm,λls u v s hs=>by simp[Ce,hs]⟩
    ·cases h
  obtain⟨x,y,Qo,Mr,e,r,rfl,rfl,hr,hq,hf⟩:=key;obtain⟨a1,a2,b1,b2,q1,q2,e1,e2,l1,l2,h1,h2,h3⟩:=xI hr;exact⟨x::a1,a2,y::b1,b2,(e&&q1),q2,by rw[e1];rfl,by rw[e2];rfl,by simp[l1],by simp[l2],hf _ _ _ _ h1,h2,by rw[hq,h3,Bool.and_assoc]⟩
theorem CReps.parts{E:Env}:∀{cs ds:List C}{vs:List Value},CReps E (cs++ds) vs->∃us ws,vs=us++ws/\us.length=cs.length/\CReps E cs us/\CReps E ds ws
 |[],_,vs,h=>⟨[],vs,rfl,rfl,rfl,h⟩
 |_::_,_,_,⟨v,Ap,e,h,ht⟩=>by obtain⟨us,ws,e2,hl,h1,h2⟩:=CReps.parts ht;exact⟨v::us,ws,by rw[e,e2];rfl,by simp[hl],⟨v,us,rfl,h,h1⟩,h2⟩
theorem Akt{w:World}(d0:Nat):∀(fs:List Field)(i:Nat)(ks:List BK)(as bs:List C)(xs ys:List Value)(E:Env)(xa ya:Array Value),Pi P i fs=some ks->CReps E as xs->CReps E bs ys->xa.toList.drop i=xs->ya.toList.drop i=ys->∀{q:Bool},Ce ks as bs=some q->(Op.eqFields (d0+2) xa ya fs).run P w=.ok q w:=by
 intro fs
 induction fs with
 |nil=>
  intro i ks as bs xs ys E xa ya hf ha hb _ _ q hq;simp only[Pi,Af]at hf;subst hf;cases as with
  |cons a as=>simp[Ce]at hq
  |nil=>
   cases bs with
   |nil=>simp only[Ce,Af]at hq;subst hq;simp[Op.eqFields]
   |cons b bs=>simp[Ce]at hq
 |cons f fs ih=>
  intro i ks as bs xs ys E xa ya hf ha hb K6 K7 q hq;simp only[Pi]at hf;cases hn:(f.name != "_"&&Nat.beq f.offset i)with
  |false=>rw[hn]at hf;cases hf
  |true=>
   simp only[hn,Am]at hf;obtain⟨E7,JD⟩:=andB hn;have JD:=As JD;have aU:f.name≠ "_":=by simpa using E7
   split at hf
   ·rename_i k Jg
    split at hf
    ·rename_i Vd DE
     simp only[Af]at hf;subst hf;cases as with
     |nil=>simp[Ce]at hq
     |cons a as=>
      cases bs with
      |nil=>cases k<;>cases a<;>simp[Ce]at hq
      |cons b bs=>
       obtain⟨x,Dk,ex,Lm,NL⟩:=ha;obtain⟨y,MH,ey,By,Ah⟩:=hb;subst ex ey
       have BP:xa[i]?=some x:=by have:=At (·[0]?) K6;simpa using this
       have DT:ya[i]?=some y:=by have:=At (·[0]?) K7;simpa using this
       have Hp:xa.toList.drop (i+1)=Dk:=by have:=At List.tail K6;simpa using this
       have H9:ya.toList.drop (i+1)=MH:=by have:=At List.tail K7;simpa using this
       have E5:=eK (P:=P) Jg w
       have K3:(part f.type xa f.offset).run P w=.ok x w:=by simp[part,E5,JD,BP]
       have On:(part f.type ya f.offset).run P w=.ok y w:=by simp[part,E5,JD,DT]
       obtain⟨q1,q2,h1,h2,h3⟩:=eL (w:=w) (d0+1) Jg Lm By hq;have NX:=ih (i+1) Vd as bs Dk MH E xa ya DE NL Ah Hp H9 h2;simp only[Op.eqFields,ne_eq,aU,VC,Dn,Sem.run_bind,K3,On,h1,Result.andThen_ok];cases q1 with
       |false=>simp[h3]
       |true=>simp[h3,NX]
    ·cases hf
   ·split at hf
    ·rename_i js I2
     split at hf
     ·rename_i Vd DE
      simp only[Af]at hf;subst hf;obtain⟨a1,a2,b1,b2,q1,q2,e1,e2,l1,l2,h1,h2,h3⟩:=xI hq;subst e1 e2;obtain⟨x1,x2,ex,lx,Hp,Hq⟩:=CReps.parts ha;obtain⟨y1,y2,ey,ly,H9,Q8⟩:=CReps.parts hb;subst ex ey;unfold wZ at I2;split at I2
      ·rename_i gs inf hu UA
       split at I2
       ·rename_i QB Az9
        cases hc:(!P.stoodInHeld f.type&&Nat.beq inf.size QB.length)with
        |false=>rw[hc]at I2;cases I2
        |true=>
         simp only[hc,Am,Af]at I2;subst I2;obtain⟨c1,c2⟩:=andB hc;have c2:=As c2;have E5:(isAgg f.type).run P w=.ok true w:=by unfold isAgg;simp[run_underlying hu]
         have C3:(sizeOf f.type).run P w=.ok inf.size w:=by simp[sizeOf,typeInfo,UA]
         have cut:∀(za:Array Value)(z1 z2:List Value),za.toList.drop i=z1++z2->z1.length=QB.length->za.extract i (i+inf.size)=z1.toArray:=by intro za z1 z2 hz hl;apply Ht;rw[Array.toList_extract];simp only[List.extract];rw[hz,LD,c2,<-hl,VJ]
         have K3:(part f.type xa f.offset).run P w=.ok (.agg x1.toArray) w:=by simp[part,E5,JD,C3,cut xa x1 x2 K6 (lx.trans l1)]
         have On:(part f.type ya f.offset).run P w=.ok (.agg y1.toArray) w:=by simp[part,E5,JD,C3,cut ya y1 y2 K7 (ly.trans l2)]
         have NR:P.fieldsOf f.type=gs:=by simp[Program.fieldsOf,hu]
         have uT:P.underlying f.type=some (.struct (P.fieldsOf f.type)):=by rw[NR];exact hu
         have DD:(Op.equalIn (d0+2) f.type (.agg x1.toArray) (.agg y1.toArray)).run P w=.ok q1 w:=by rw[run_equalIn_struct w (d0+1) f.type _ _ uT (by simpa using c1),NR];exact Aks d0 gs.toList 0 QB a1 b1 x1 y1 E _ _ Az9 Hp H9 (by simp) (by simp) h1
         have drp:∀(za:Array Value)(z1 z2:List Value),za.toList.drop i=z1++z2->z1.length=QB.length->za.toList.drop (i+QB.length)=z2:=by intro za z1 z2 hz hl;rw[<-VK,hz,<-hl,List.drop_left]
         have NX:=ih (i+QB.length) Vd a2 b2 x2 y2 E xa ya DE Hq Q8 (drp xa x1 x2 K6 (lx.trans l1)) (drp ya y1 y2 K7 (ly.trans l2)) h2;simp only[Op.eqFields,ne_eq,aU,VC,Dn,Sem.run_bind,K3,On,DD,Result.andThen_ok];cases q1 with
         |false=>simp[h3]
         |true=>simp[h3,NX]
       ·cases I2
      ·cases I2
     ·cases hf
    ·cases hf
theorem Aku{w:World}(d0:Nat){e:TypeId}{k:BK}(Jg:JX P e=some k):∀(n i:Nat)(as bs:List C)(xs ys:List Value)(E:Env)(xa ya:Array Value),CReps E as xs->CReps E bs ys->xa.toList.drop i=xs->ya.toList.drop i=ys->∀{q:Bool},Ce (List.replicate n k) as bs=some q->(Op.eqItems (d0+1) e 1 xa ya (List.range' i n)).run P w=.ok q w:=by
 intro n
 induction n with
 |zero=>
  intro i as bs xs ys E xa ya ha hb _ _ q hq;cases as with
  |cons a as=>simp[Ce]at hq
  |nil=>
   cases bs with
   |nil=>simp only[List.replicate,Ce,Af]at hq;subst hq;simp[Op.eqItems]
   |cons b bs=>simp[Ce]at hq
 |succ n ih=>
  intro i as bs xs ys E xa ya ha hb K6 K7 q hq;rw[List.replicate_succ]at hq;cases as with
  |nil=>simp[Ce]at hq
  |cons a as=>
   cases bs with
   |nil=>cases k<;>cases a<;>simp[Ce]at hq
   |cons b bs=>
    obtain⟨x,Dk,ex,Lm,NL⟩:=ha;obtain⟨y,MH,ey,By,Ah⟩:=hb;subst ex ey
    have BP:xa[i]?=some x:=by have:=At (·[0]?) K6;simpa using this
    have DT:ya[i]?=some y:=by have:=At (·[0]?) K7;simpa using this
    have Hp:xa.toList.drop (i+1)=Dk:=by have:=At List.tail K6;simpa using this
    have H9:ya.toList.drop (i+1)=MH:=by have:=At List.tail K7;simpa using this
    have E5:=eK (P:=P) Jg w
    have K3:(part e xa (i*1)).run P w=.ok x w:=by simp[part,E5,BP]
    have On:(part e ya (i*1)).run P w=.ok y w:=by simp[part,E5,DT]
    obtain⟨q1,q2,h1,h2,h3⟩:=eL (w:=w) d0 Jg Lm By hq;have NX:=ih (i+1) as bs Dk MH E xa ya NL Ah Hp H9 h2;simp only[List.range'_succ,Op.eqItems,Sem.run_bind,K3,On,h1,Result.andThen_ok];cases q1 with
    |false=>simp[h3]
    |true=>simp[h3,NX]
theorem xJ{t:TypeId}{ks:List BK}(he:Rs P t=some ks){as bs:List C}{xs ys:List Value}{E:Env}(ha:CReps E as xs)(hb:CReps E bs ys){q:Bool}(hq:Ce ks as bs=some q)(w:World):(Op.equalIn 10000 t (.agg xs.toArray) (.agg ys.toArray)).run P w=.ok q w/\P.eqGuardType P.depth t=false:=by
 unfold Rs at he;split at he
 ·rename_i fs hu
  cases hc:(P.stoodInHeld t||P.eqGuardType P.depth t)with
  |true=>rw[hc]at he;cases he
  |false=>
   simp only[hc,Cj]at he;have Ch:P.stoodInHeld t=false/\P.eqGuardType P.depth t=false:=by simpa using hc
   have NR:P.fieldsOf t=fs:=by simp[Program.fieldsOf,hu]
   have uT:P.underlying t=some (.struct (P.fieldsOf t)):=by rw[NR];exact hu
   refine⟨?_,Ch.2⟩;rw[run_equalIn_struct w 9999 t _ _ uT Ch.1,NR];exact Akt 9997 fs.toList 0 ks as bs xs ys E _ _ he ha hb (by simp) (by simp) hq
 ·rename_i n e hu
  split at he
  ·rename_i k hk
   cases hc:(Nat.beq (P.cellsOf e) 1&&!P.eqGuardType P.depth t)with
   |false=>rw[hc]at he;cases he
   |true=>
    simp only[hc,Am,Af]at he;subst he;obtain⟨CQ,Ch⟩:=andB hc;have CQ:=As CQ
    have hi:∃i,P.info? e=some i:=by
     cases hi:P.info? e with
     |some i=>exact⟨i,rfl⟩
     |none=>simp[Program.cellsOf,hi]at CQ
    obtain⟨i,hi⟩:=hi;refine⟨?_,by simpa using Ch⟩;rw[run_equalIn_array w 9999 _ _ hu hi,CQ,cI];exact Aku 9998 hk n 0 as bs xs ys E _ _ ha hb (by simp) (by simp) hq
  ·cases he
 ·cases he
theorem xK{w:World}{op:BinOp}{t:TypeId}{x y:Operand}{a a':Option Addr}{n n' c c':Nat}:(eqGuard op t x y (.slice a n c) (.slice a' n' c')).run P w=.ok () w:=by unfold eqGuard;cases op<;>simp
theorem xL(w:World)(d:Nat)(t e:TypeId)(a:Option Addr)(l c:Nat)(h:P.underlying t=some (.slice e)):(Op.equalIn (d+1) t (.slice a l c) (.slice none 0 0)).run P w=.ok a.isNone w:=by cases a<;>simp[Op.equalIn,run_underlying h]
theorem xM{T:TypeId->Option TI}(hT:TOk P T){kk:K β}{op:BinOp}{t t':TypeId}{x y:Operand}(ho:o.op=.binOp op t x y t'){cx:C}{b:Bool}(hx:ρ x=.c cx)(hy:ρ y=.c .nils)(hc:∀E v,CRep E cx v->∃a n c,v=.slice a n c/\a.isNone=b)(hk:VS T op t b kk=some r):Sound P o ρ bl kk r:=by
 have BP:x∈o.op.operands:=by simp[ho,Op.operands]
 have DT:y∈o.op.operands:=by simp[ho,Op.operands]
 unfold VS at hk;split at hk
 ·rename_i ti ht
  obtain⟨i,d,z,f⟩:=hT.facts ht
  have main:∀(q:Bool)(e:TypeId),ti.elem=some e->ti.len=none->kk (.c (.bool q)) [] []=some r->((op=.eql/\q=b)\/(op=.neq/\q=!b))->Sound P o ρ bl kk r:=by
   intro q e Ck Cr EH ET;have hd:=Gk f Ck Cr;subst hd;refine Sound.pure EH λAa _ ok0 base pl w act hr Ae=>⟨.bool q,?_,rfl⟩;have h1:=Ae x BP;have h2:=Ae y DT;rw[hx]at h1;rw[hy]at h2;obtain⟨a,n,c,Cq,hb⟩:=hc _ _ h1;have Ei:act.eval y=.slice none 0 0:=h2;subst hb;rcases ET with⟨rfl,rfl⟩|⟨rfl,rfl⟩
   ·simp[execOp,ho,Cq,Ei,xK,Go.binOp,Op.equal,Op.maxDepth,xL w 9999 t e a n c f.under]
   ·simp[execOp,ho,Cq,Ei,xK,Go.binOp,Op.equal,Op.maxDepth,xL w 9999 t e a n c f.under]
  split at hk
  ·rename_i e Ck Cr
   exact main _ e Ck Cr hk (.inl ⟨rfl,rfl⟩)
  ·rename_i e Ck Cr
   exact main _ e Ck Cr hk (.inr ⟨rfl,rfl⟩)
  ·cases hk
 ·cases hk
theorem Akv{T:TypeId->Option TI}(hT:TOk P T){kk:K β}{op:BinOp}{t t':TypeId}{x:Operand}(ho:o.op=.binOp op t x (.const .nilIface) t'){b:Bool}(hx:ρ x=.c (.err b))(hk:cS T op t b kk=some r):Sound P o ρ bl kk r:=by
 have BP:x∈o.op.operands:=by simp[ho,Op.operands]
 unfold cS at hk;split at hk
 ·rename_i ti ht
  obtain⟨i,d,z,f⟩:=hT.facts ht
  have main:∀(q:Bool),ti.ty=some .err->ti.agg=false->kk (.c (.bool q)) [] []=some r->((op=.eql/\q=b)\/(op=.neq/\q=!b))->Sound P o ρ bl kk r:=by
   intro q BW Ej EH ET;rw[f.agg]at Ej
   have hu:P.underlying t=some (.interface (P.methodsAt t)):=by
    rw[f.ty]at BW;unfold tyOf at BW;split at BW
    ·cases BW
    ·cases BW
    ·cases BW
    ·rename_i ms hm
     cases hd:decide (ms=P.methodsAt t)with
     |false=>rw[hd]at BW;cases BW
     |true=>rw[hm,AV hd]
    ·rename_i e _;cases h:tyOf P 11 e<;>rw[h]at BW<;>cases BW
    ·rename_i hm;simp[Ir,hm]at Ej
    ·rename_i hm;simp[Ir,hm]at Ej
    ·cases BW
   refine Sound.pure EH λAa _ ok0 base pl w act hr Ae=>⟨.bool q,?_,rfl⟩;have h1:=Ae x BP;rw[hx]at h1;have h1:errRep b (act.eval x):=h1;have h2:act.eval (.const .nilIface)=.nilIface:=rfl;cases b with
   |true=>
    have h1:act.eval x=.nilIface:=h1;rcases ET with⟨rfl,rfl⟩|⟨rfl,rfl⟩
    ·simp[execOp,ho,h1,h2,eqGuard_nil_constR,Go.binOp,run_equal_nil_nil w t hu]
    ·simp[execOp,ho,h1,h2,eqGuard_nil_constR,Go.binOp,run_equal_nil_nil w t hu]
   |false=>
    obtain⟨u,z,h1⟩:∃u z,act.eval x=.iface u z:=h1;have hg:∀op,eqGuard op t x (.const .nilIface) (.iface u z) .nilIface=pure ():=λop=>by cases op<;>rfl
    rcases ET with⟨rfl,rfl⟩|⟨rfl,rfl⟩
    ·simp[execOp,ho,h1,h2,hg,Go.binOp,run_equal_held_nil w t u z hu]
    ·simp[execOp,ho,h1,h2,hg,Go.binOp,run_equal_held_nil w t u z hu]
  split at hk
  ·rename_i BW Ej
   exact main _ BW Ej hk (.inl ⟨rfl,rfl⟩)
  ·rename_i BW Ej
   exact main _ BW Ej hk (.inr ⟨rfl,rfl⟩)
  ·cases hk
 ·cases hk
theorem Akw{T:TypeId->Option TI}(hT:TOk P T){kk:K β}{op:BinOp}{t t':TypeId}{x y:Operand}(ho:o.op=.binOp op t x y t')(hk:cR T op t (ρ x) (ρ y) kk=some r):Sound P o ρ bl kk r:=by
 have BP:x∈o.op.operands:=by simp[ho,Op.operands]
 have DT:y∈o.op.operands:=by simp[ho,Op.operands]
 unfold cR at hk;split at hk
 ·
  rename_i k a k' b hx hy;cases L3:cQ op with
  |true=>
   simp only[L3,Am]at hk;obtain⟨hc,hk⟩:=D2 hk;have Ek:¬b<0:=by have:=AV hc;omega
   refine Sound.pure hk λAa _ ok0 base pl w act hr Ae=>⟨.int k (VR op k a b),?_,rfl⟩;have h1:=Ae x BP;have h2:=Ae y DT;rw[hx]at h1;rw[hy]at h2;have Cq:act.eval x=.int k a:=h1;have Ei:act.eval y=.int k' b:=h2;cases op<;>simp only[cQ,HE]at L3
   ·simp[execOp,ho,Cq,Ei,eqGuard,Go.binOp,Op.shift,Ek,VR]
   ·simp[execOp,ho,Cq,Ei,eqGuard,Go.binOp,Op.shift,Ek,VR]
  |false=>
  simp only[L3,Cj]at hk;split at hk
  ·rename_i Ob
   subst Ob
   have main:∀(v:Value)(c:C),kk (.c c) [] []=some r->(∀w,(Go.binOp op t (.int k a) (.int k b)).run P w=.ok v w)->(∀E,CRep E c v)->Sound P o ρ bl kk r:=by intro v c EH hv hc;refine Sound.pure EH λAa _ ok0 base pl w act hr Ae=>⟨v,?_,hc _⟩;have h1:=Ae x BP;have h2:=Ae y DT;rw[hx]at h1;rw[hy]at h2;have Cq:act.eval x=.int k a:=h1;have Ei:act.eval y=.int k b:=h2;simp[execOp,ho,Cq,Ei,Akp,hv]
   unfold wN at hk;split at hk
   ·exact main (.int k (k.wrap (a+b))) _ hk (λw=>by simp[Go.binOp,Op.intArith]) (λ_=>rfl)
   ·exact main (.int k (k.wrap (a-b))) _ hk (λw=>by simp[Go.binOp,Op.intArith]) (λ_=>rfl)
   ·exact main (.int k (k.wrap (a*b))) _ hk (λw=>by simp[Go.binOp,Op.intArith]) (λ_=>rfl)
   ·obtain⟨hc,hk⟩:=D2 hk
    have hb:b≠0:=by simpa using hc
    exact main (.int k (k.wrap (a.tdiv b))) _ hk (λw=>by simp[Go.binOp,Op.intDiv,hb]) (λ_=>rfl)
   ·obtain⟨hc,hk⟩:=D2 hk
    have hb:b≠0:=by simpa using hc
    exact main (.int k (a.tmod b)) _ hk (λw=>by simp[Go.binOp,Op.intDiv,hb]) (λ_=>rfl)
   ·exact main (.bool (decide (a=b))) _ hk (λw=>by simp[Go.binOp,Op.intCmp];rfl) (λ_=>rfl)
   ·exact main (.bool (!decide (a=b))) _ hk (λw=>by simp[Go.binOp,Op.intCmp,bne];rfl) (λ_=>rfl)
   ·exact main (.bool (decide (a<b))) _ hk (λw=>by simp[Go.binOp,Op.intCmp]) (λ_=>rfl)
   ·exact main (.bool (decide (a<=b))) _ hk (λw=>by simp[Go.binOp,Op.intCmp]) (λ_=>rfl)
   ·exact main (.bool (decide (b<a))) _ hk (λw=>by simp[Go.binOp,Op.intCmp]) (λ_=>rfl)
   ·exact main (.bool (decide (b<=a))) _ hk (λw=>by simp[Go.binOp,Op.intCmp]) (λ_=>rfl)
   ·exact main (.int k (IL .and k a b)) _ hk (λw=>by simp[Go.binOp,Op.intBits,IL]) (λ_=>rfl)
   ·exact main (.int k (IL .or k a b)) _ hk (λw=>by simp[Go.binOp,Op.intBits,IL]) (λ_=>rfl)
   ·exact main (.int k (IL .xor k a b)) _ hk (λw=>by simp[Go.binOp,Op.intBits,IL]) (λ_=>rfl)
   ·exact main (.int k (IL .andNot k a b)) _ hk (λw=>by simp[Go.binOp,Op.intBits,IL]) (λ_=>rfl)
   ·cases hk
  ·cases hk
 ·
  rename_i a b hx hy
  have main:∀(v:Value)(c:C),kk (.c c) [] []=some r->(∀w,(Go.binOp op t (.string ⟨a.toArray⟩) (.string ⟨b.toArray⟩)).run P w=.ok v w)->(∀E,CRep E c v)->Sound P o ρ bl kk r:=by intro v c EH hv hc;refine Sound.pure EH λAa _ ok0 base pl w act hr Ae=>⟨v,?_,hc _⟩;have h1:=Ae x BP;have h2:=Ae y DT;rw[hx]at h1;rw[hy]at h2;have Cq:act.eval x=.string ⟨a.toArray⟩:=h1;have Ei:act.eval y=.string ⟨b.toArray⟩:=h2;simp[execOp,ho,Cq,Ei,Akq,hv]
  have aC:(a==b)=decide (a=b):=by by_cases h:a=b<;>simp[h]
  unfold wO at hk;split at hk
  ·obtain⟨hc,hk⟩:=D2 hk
   have BD:=AV hc;refine main (.string ⟨(a++b).toArray⟩) _ hk (λw=>?_) (λ_=>rfl)
   have C3:¬(((⟨a.toArray⟩:ByteArray).size+(⟨b.toArray⟩:ByteArray).size:Nat):Int)>IntKind.i64.max:=by show ¬((a.toArray.size+b.toArray.size:Nat):Int)>9223372036854775807;simp only[VB];omega
   have Ays:(⟨a.toArray⟩:ByteArray)++⟨b.toArray⟩=⟨(a++b).toArray⟩:=by apply ByteArray.ext;simp
   simp only[Go.binOp,Op.stringOp];rw[if_neg C3,Ays];rfl
  ·exact main (.bool (decide (a=b))) _ hk (λw=>by simp[Go.binOp,Op.stringOp,aC]) (λ_=>rfl)
  ·exact main (.bool (!decide (a=b))) _ hk (λw=>by simp[Go.binOp,Op.stringOp,aC]) (λ_=>rfl)
  ·exact main (.bool (Op.bytesLess a b)) _ hk (λw=>by simp[Go.binOp,Op.stringOp]) (λ_=>rfl)
  ·exact main (.bool (Op.bytesLess a b||decide (a=b))) _ hk (λw=>by simp[Go.binOp,Op.stringOp,aC]) (λ_=>rfl)
  ·exact main (.bool (!(Op.bytesLess a b||decide (a=b)))) _ hk (λw=>by simp[Go.binOp,Op.stringOp,aC]) (λ_=>rfl)
  ·exact main (.bool (!Op.bytesLess a b)) _ hk (λw=>by simp[Go.binOp,Op.stringOp]) (λ_=>rfl)
  ·cases hk
 ·
  rename_i a b hx hy;split at hk
  ·rename_i ti ht
   obtain⟨i,d,z,f⟩:=hT.facts ht;cases Qq:ti.isBool with
   |false=>rw[Qq]at hk;cases hk
   |true=>
    simp only[Qq,Am]at hk
    have hu:P.underlying t=some .bool:=by
     rw[f.isBool]at Qq;unfold Wh at Qq;split at Qq
     ·exact f.under
     ·cases Qq
    have main:∀(q:Bool),kk (.c (.bool q)) [] []=some r->(∀w,(Go.binOp op t (.bool a) (.bool b)).run P w=.ok (.bool q) w)->Sound P o ρ bl kk r:=by intro q EH hv;refine Sound.pure EH λAa _ ok0 base pl w act hr Ae=>⟨.bool q,?_,rfl⟩;have h1:=Ae x BP;have h2:=Ae y DT;rw[hx]at h1;rw[hy]at h2;have Cq:act.eval x=.bool a:=h1;have Ei:act.eval y=.bool b:=h2;simp[execOp,ho,Cq,Ei,Akr,hv]
    split at hk
    ·exact main _ hk λw=>by simp only[Go.binOp];simp[Op.equal,Op.maxDepth,run_equalIn_bool' w 9999 t a b hu]
    ·exact main _ hk λw=>by simp only[Go.binOp];simp[Op.equal,Op.maxDepth,run_equalIn_bool' w 9999 t a b hu]
    ·cases hk
  ·cases hk
 ·
  rename_i a b hx hy;split at hk
  ·rename_i ti ht
   obtain⟨i,d,z,f⟩:=hT.facts ht;split at hk
   ·rename_i ks HU
    rw[f.eqs]at HU
    have main:∀(q q':Bool),Ce ks a b=some q->kk (.c (.bool q')) [] []=some r->((op=.eql/\q'=q)\/(op=.neq/\q'=!q))->Sound P o ρ bl kk r:=by
     intro q q' hq EH ET;refine Sound.pure EH λAa _ ok0 base pl w act hr Ae=>⟨.bool q',?_,rfl⟩;have h1:=Ae x BP;have h2:=Ae y DT;rw[hx]at h1;rw[hy]at h2;obtain⟨xs,Cq,sT⟩:=h1;obtain⟨ys,Ei,sU⟩:=h2;simp only[Dn]at sT sU;obtain⟨he,hg⟩:=xJ (P:=P) HU Cq Ei hq w;rcases ET with⟨rfl,rfl⟩|⟨rfl,rfl⟩
     ·simp[execOp,ho,sT,sU,run_eqGuard_agg w _ t x y _ _ hg,run_eql_struct,he]
     ·simp[execOp,ho,sT,sU,run_eqGuard_agg w _ t x y _ _ hg,run_neq_struct,he]
    split at hk
    ·rename_i q hq
     exact main _ _ hq hk (.inl ⟨rfl,rfl⟩)
    ·rename_i q hq
     exact main _ _ hq hk (.inr ⟨rfl,rfl⟩)
    ·cases hk
   ·cases hk
  ·cases hk
 ·rename_i hx hy
  exact xM hT ho hx hy (λE v hv=>by obtain⟨c,rfl⟩:=hv;exact⟨none,0,c,rfl,rfl⟩) hk
 ·rename_i e l hx hy
  refine xM hT ho hx hy (λE v hv=>?_) hk;obtain⟨hd,hn⟩:=hv;simp only[DRep]at hd;obtain⟨A,c,xs,e1,_⟩:=hd;simp only[De,EA]at e1;subst e1;cases A with
  |none=>exact absurd rfl (hn _ _)
  |some a=>exact⟨some a,_,_,rfl,rfl⟩
 ·cases hk
theorem xN{T:TypeId->Option TI}(hT:TOk P T){kk:K β}{op:BinOp}{t t':TypeId}{x:Operand}(ho:o.op=.binOp op t x (.const (.pointer none)) t'){b:Bool}(hx:∀E v,VRep E (ρ x) v->∃q,v=.pointer q/\q.isNone=b)(hk:VT T op t b kk=some r):Sound P o ρ bl kk r:=by
 have BP:x∈o.op.operands:=by simp[ho,Op.operands]
 unfold VT at hk;split at hk
 ·rename_i ti ht
  obtain⟨i,d,z,f⟩:=hT.facts ht
  have main:∀(q:Bool),ti.ptr=true->kk (.c (.bool q)) [] []=some r->((op=.eql/\q=b)\/(op=.neq/\q=!b))->Sound P o ρ bl kk r:=by
   intro q hp EH ET;rw[f.ptr]at hp;have hd:∃e,d=.pointer e:=by cases d<;>simp_all [dW]
   obtain⟨e,rfl⟩:=hd;have hu:P.underlying t=some (.pointer (P.pointee t)):=by rw[Program.pointee,f.under]
   refine Sound.pure EH λAa _ ok0 base pl w act hr Ae=>⟨.bool q,?_,rfl⟩;obtain⟨v,h1,hb⟩:=hx _ _ (Ae x BP);have h2:act.eval (.const (.pointer none))=.pointer none:=rfl;subst hb;have hg:∀op,eqGuard op t x (.const (.pointer none)) (.pointer v) (.pointer none)=pure ():=λop=>by cases op<;>rfl
   rcases ET with⟨rfl,rfl⟩|⟨rfl,rfl⟩
   ·simp[execOp,ho,h1,h2,hg,run_eql_pointer_nil w t v hu]
   ·simp[execOp,ho,h1,h2,hg,run_neq_pointer_nil w t v hu]
  split at hk
  ·rename_i hp;exact main _ hp hk (.inl ⟨rfl,rfl⟩)
  ·rename_i hp;exact main _ hp hk (.inr ⟨rfl,rfl⟩)
  ·cases hk
 ·cases hk
theorem Akx{T:TypeId->Option TI}(hT:TOk P T){kk:K β}{op:BinOp}{t t':TypeId}{x y:Operand}(ho:o.op=.binOp op t x y t')(hk:cT T op t (ρ x) (ρ y) y kk=some r):Sound P o ρ bl kk r:=by
 unfold cT at hk;split at hk
 ·rename_i b hx
  exact Akv hT ho hx hk
 ·rename_i hx
  exact xN hT ho (b:=true) (λE v h=>by rw[hx]at h;exact⟨none,h,rfl⟩) hk
 ·rename_i hx
  exact xN hT ho (b:=false) (λE v h=>by rw[hx]at h;obtain⟨_,_,ad,_,e,_⟩:=h;exact⟨some ad,e,rfl⟩) hk
 ·exact Akw hT ho hk
end
end Go.Lift
namespace Go.Lift
open Go.RowKit
theorem MRep.length{w:World}{ok:Nat->Prop}{k v:Ty}{vg:Bool}:∀{l:List (k.den×v.den)}{es:List MapEntry},MRep w ok k v vg l es->es.length=l.length
 |[],_,h=>by simp only[MRep]at h;simp[h]
 |_::l,_,⟨e,r,h0,_,_,h4⟩=>by rw[h0,Ba,Ba,MRep.length h4]
theorem R0{P:Program}{t:TypeId}{ti:TI}{i:TypeInfo}{d:TypeDesc}{z:Value}(f:TFacts P t ti i d z)(h:ti.isStr=true):d=.string:=by rw[f.isStr]at h;cases d<;>simp_all [Wg]
theorem Aky(l:List UInt8)(a b:Nat):(⟨l.toArray⟩:ByteArray).extract a b=⟨((l.take b).drop a).toArray⟩:=by apply ByteArray.ext;apply Ht;rw[Lib.extract_data];simp only;rw[List.drop_take]
section
variable{P:Program}{o:Oper}{ρ:Operand->V}{bl:Nat->Option Blk}{β:Type}{r:β}
theorem R1{t:TypeId}{ti:TI}{i:TypeInfo}{d:TypeDesc}{z:Value}(f:TFacts P t ti i d z)(h:IN ti=true):∃e,d=.slice e:=by
 unfold IN at h;split at h
 ·rename_i e h1 h2
  exact⟨e,Gk f h1 h2⟩
 ·cases h
theorem Nd{w:World}{a:Act}{x:Operand}{c:Call}{t:TypeId}(ho:o.op=.call c)(hc:c.callee=.builtin .len)(ha:c.args.toList=[x])(ht:c.argTypes.toList=[t]){v:Value}(h:(Builtin.len_ #[t] o.type #[a.eval x]).run P w=.ok v w):(execOp a.eval o).run P w=.ok (.value v) w:=by
 have h1:c.args=#[x]:=by rw[<-Gg (xs:=c.args),ha]
 have h2:c.argTypes=#[t]:=by rw[<-Gg (xs:=c.argTypes),ht]
 simp[execOp,ho,resolve,hc,h1,h2,invoke,builtin,h]
theorem Akz{T:TypeId->Option TI}(hT:TOk P T){kk:K β}{c:Call}(ho:o.op=.call c)(hc:c.callee=.builtin .len){x:Operand}{t:TypeId}(ha:c.args.toList=[x])(BW:c.argTypes.toList=[t])(hk:cX T bl t (ρ x) kk=some r):Sound P o ρ bl kk r:=by
 have BP:x∈o.op.operands:=by
  have h1:c.args=#[x]:=by rw[<-Gg (xs:=c.args),ha]
  simp[ho,Op.operands,Call.operands,h1]
 unfold cX at hk;split at hk
 ·cases hk
 rename_i ti ht;obtain⟨i,d,z,f⟩:=hT.facts ht;have hu:=f.under;split at hk
 ·rename_i s hx
  cases hs:ti.isStr with
  |false=>rw[hs]at hk;cases hk
  |true=>simp only[hs,Am]at hk;have:=R0 f hs;subst this;refine Sound.pure hk λAa _ ok0 base pl w act hr Ae=>⟨_,Nd ho hc ha BW (v:=.int .i64 (s.length:Int)) ?_,rfl⟩;have h1:=Ae x BP;rw[hx]at h1;have Cq:act.eval x=.string ⟨s.toArray⟩:=h1;simp[Builtin.len_,Cq,run_underlying hu,goInt];rfl
 ·rename_i e l hx
  cases hs:IN ti with
  |false=>rw[hs]at hk;cases hk
  |true=>simp only[hs,Am]at hk;obtain⟨et,rfl⟩:=R1 f hs;refine Sound.pure hk λAa _ ok0 base pl w act hr Ae=>⟨_,Nd ho hc ha BW (v:=.int .i64 (l.length:Int)) ?_,rfl⟩;have h1:=Ae x BP;rw[hx]at h1;have Cq:DRep w _ (.slice e) l [act.eval x]:=h1;simp only[DRep]at Cq;obtain⟨A,cc,xs,hv,_⟩:=Cq;simp only[De,EA]at hv;simp[Builtin.len_,hv,run_underlying hu,goInt]
 ·rename_i hx
  cases hs:IN ti with
  |false=>rw[hs]at hk;cases hk
  |true=>simp only[hs,Am]at hk;obtain⟨et,rfl⟩:=R1 f hs;refine Sound.pure hk λAa _ ok0 base pl w act hr Ae=>⟨_,Nd ho hc ha BW (v:=.int .i64 0) ?_,rfl⟩;have h1:=Ae x BP;rw[hx]at h1;have Cq:act.eval x=.slice none 0 0:=h1;simp[Builtin.len_,Cq,run_underlying hu,goInt]
 ·rename_i b ver hx
  split at hk
  ·rename_i t0 e ver' l hb
   cases hs:(Nat.beq ver ver'&&IN ti)with
   |false=>rw[hs]at hk;cases hk
   |true=>
    obtain⟨AP,Bk⟩:=andB hs;have:=As AP;subst this;simp only[hs,Am]at hk;obtain⟨et,rfl⟩:=R1 f Bk;refine Sound.pure hk λAa Ah ok0 base pl w act hr Ae=>⟨_,Nd ho hc ha BW (v:=.int .i64 (l.length:Int)) ?_,rfl⟩;have Aw:Aa b=some (.row t0 e ver l):=(Ah b (by simp)).trans hb;have hv:=Ae x BP;rw[hx]at hv;obtain⟨_,sv,Ab,hg,AT⟩:=hv;have Bm:=(AT t0 e ver l Aw).2 rfl;obtain⟨p,hp,hB⟩:=hr.blks b _ Aw;have:p=.row sv Ab:=by have h2:pl b=some (.row sv Ab):=hg;rw[hp]at h2;injection h2
    subst this;obtain⟨_,xs,Cs,Ak⟩:=hB;rcases Ak.2 with⟨Aq,hn⟩|⟨g,cap,AQ,Aq,_⟩
    ·simp[Builtin.len_,Bm,Aq,run_underlying hu,goInt,hn]
    ·simp[Builtin.len_,Bm,Aq,run_underlying hu,goInt]
  ·cases hk
 ·rename_i b ver lo hi hx
  split at hk
  ·rename_i t0 e ver' l hb
   cases hs:(Nat.beq ver ver'&&IN ti)with
   |false=>rw[hs]at hk;cases hk
   |true=>obtain⟨AP,Bk⟩:=andB hs;have:=As AP;subst this;simp only[hs,Am]at hk;obtain⟨et,rfl⟩:=R1 f Bk;refine Sound.pure hk λAa Ah ok0 base pl w act hr Ae=>⟨_,Nd ho hc ha BW (v:=.int .i64 ((hi-lo:Nat):Int)) ?_,rfl⟩;have Aw:Aa b=some (.row t0 e ver l):=(Ah b (by simp)).trans hb;have hv:=Ae x BP;rw[hx]at hv;obtain⟨_,sv,Ab,hg,AT⟩:=hv;obtain⟨_,_,A,A',n,cc,_,Bm,_⟩:=(AT t0 e ver l Aw).2 rfl;simp[Builtin.len_,Bm,run_underlying hu,goInt]
  ·cases hk
 ·rename_i b ver p hx
  split at hk
  ·rename_i q hq
   obtain⟨hb,AP,hn⟩:=Wo hq;subst AP;cases hs:IN ti with
   |false=>rw[hs]at hk;cases hk
   |true=>
    simp only[hs,Am]at hk;obtain⟨et,rfl⟩:=R1 f hs;refine Sound.pure hk λAa Ah ok0 base pl w act hr Ae=>⟨_,Nd ho hc ha BW (v:=.int .i64 (q.2.2.2.2.2.length:Int)) ?_,rfl⟩;have hv:=Ae x BP;rw[hx]at hv;obtain⟨xs,Ak⟩:=Akg (E:=Al ok0 base pl Aa w) hr.blksOk ((Ah b (by simp)).trans hb) hv hn;rcases Ak.2 with⟨Aq,hn⟩|⟨g,cap,AQ,Aq,_⟩
    ·have hn:q.2.2.2.2.2.length=0:=hn
     simp[Builtin.len_,Aq,run_underlying hu,goInt,hn]
    ·simp[Builtin.len_,Aq,run_underlying hu,goInt]
  ·cases hk
 ·rename_i b hx
  split at hk
  ·rename_i t0 k0 v0 vg l mp hb Oi
   obtain⟨kt,vt,rfl⟩:∃kt vt,d=.map kt vt:=by have h1:=f.mp;rw[Oi]at h1;cases d<;>simp[mpD]at h1;exact⟨_,_,rfl⟩
   refine Sound.pure hk λAa Ah ok0 base pl w act hr Ae=>⟨_,Nd ho hc ha BW (v:=.int .i64 (l.length:Int)) ?_,rfl⟩;have Aw:Aa b=some (.map t0 k0 v0 vg l):=(Ah b (by simp)).trans hb;have hv:=Ae x BP;rw[hx]at hv;obtain⟨g,hg,Bm⟩:=hv;obtain⟨p,hp,hB⟩:=hr.blks b _ Aw;have:p=.cells g:=by have h2:pl b=some (.cells g):=hg;rw[hp]at h2;injection h2
   subst this;obtain⟨es,C8,hh,hm⟩:=hB
   have Bb:es.size=l.length:=by rw[<-G3];exact hm.length
   simp[Builtin.len_,Bm,run_underlying hu,goInt,MapKept.run_getObj_map (show w.heap[g]?=some (.map es C8)from hh),Bb,Result.andThen]
  ·cases hk
 ·cases hk
theorem Jq{E:Env}{a:Act}{lo:Option Operand}{d n:Int}(h:HJ (lo.map ρ) d=some n)(hx:∀x,lo=some x->VRep E (ρ x) (a.eval x)):(lo=none/\n=d)\/∃x k,lo=some x/\a.eval x=.int k n:=by
 cases lo with
 |none=>simp only[Option.map_none,HJ,Af]at h;exact .inl ⟨rfl,h.symm⟩
 |some x=>
  simp only[EM,HJ]at h;split at h
  ·rename_i k m hm
   simp only[Af]at h;subst h;have h1:=hx x rfl;rw[Nc hm]at h1;exact .inr ⟨x,k,rfl,h1⟩
  ·cases h
theorem Wr{k:IntKind}{n:Int}{y:Nat}{code:BoundsCode}(h0:0<=n)(h1:n<=(y:Int))(w:World):(Instr.sliceBound (.int k n) y code).run P w=.ok n.toNat w:=by simp[Instr.sliceBound,asIntOf,h0,h1]
theorem Nf{isSl:Bool}{len cap:Nat}{a:Act}{lo hi:Option Operand}{m n:Int}(Ge:(lo=none/\m=0)\/∃x k,lo=some x/\a.eval x=.int k m)(NT:(hi=none/\n=(len:Int))\/∃x k,hi=some x/\a.eval x=.int k n)(h0:0<=m)(h1:m<=n)(h2:n<=(cap:Int))(w:World):(Instr.sliceBounds isSl len cap (lo.map a.eval) (hi.map a.eval) none).run P w=.ok (m.toNat,n.toNat,cap) w:=by
 have hn:(n.toNat:Int)=n:=Int.toNat_of_nonneg (by omega);unfold Instr.sliceBounds;rcases Ge with⟨rfl,rfl⟩|⟨x,k,rfl,hx⟩<;>rcases NT with⟨rfl,rfl⟩|⟨y,k',rfl,hy⟩
 ·simp
 ·simp[hy,Wr (P:=P) (k:=k') (by omega) h2]
 ·simp[hx,Wr (P:=P) (k:=k) h0 h1]
 ·simp[hx,hy,Wr (P:=P) (k:=k') (by omega) h2,Wr (P:=P) (k:=k) (y:=n.toNat) h0 (by omega)]
theorem eM{T:TypeId->Option TI}(hT:TOk P T){kk:K β}{t:TypeId}{x:Operand}{lo hi:Option Operand}(ho:o.op=.slice t x lo hi none)(hk:Rd T bl t (ρ x) (lo.map ρ) (hi.map ρ) kk=some r):Sound P o ρ bl kk r:=by
 have BP:x∈o.op.operands:=by simp[ho,Op.operands]
 have UC:∀y,lo=some y->y∈o.op.operands:=by rintro y rfl;simp[ho,Op.operands]
 have NU:∀y,hi=some y->y∈o.op.operands:=by rintro y rfl;simp[ho,Op.operands]
 unfold Rd at hk;split at hk
 ·cases hk
 rename_i ti ht;obtain⟨i,d,z,f⟩:=hT.facts ht;have hu:=f.under;split at hk
 ·rename_i s hx
  cases hs:ti.isStr with
  |false=>rw[hs]at hk;cases hk
  |true=>
   simp only[hs,Am]at hk;have:=R0 f hs;subst this;split at hk
   ·rename_i m n hm hn
    obtain⟨hc,hk⟩:=D2 hk;obtain⟨c1,c23⟩:=andB hc;obtain⟨c2,c3⟩:=andB c23;have c1:=AV c1;have c2:=AV c2;have c3:=AV c3;refine Sound.pure hk λAa _ ok0 base pl w act hr Ae=>⟨.string ⟨((s.take n.toNat).drop m.toNat).toArray⟩,?_,rfl⟩;have h1:=Ae x BP;rw[hx]at h1;have Cq:act.eval x=.string ⟨s.toArray⟩:=h1;have C3:(⟨s.toArray⟩:ByteArray).size=s.length:=rfl;have hb:=Nf (P:=P) (isSl:=false) (len:=s.length) (cap:=s.length) (Jq hm λy hy=>Ae y (UC y hy)) (Jq hn λy hy=>Ae y (NU y hy)) c1 c2 c3 w;simp[execOp,ho,Instr.sliceAt,run_underlying hu,Instr.slice,Cq,C3,hb,Aky]
   ·cases hk
 ·rename_i e l hx
  split at hk
  ·rename_i et Ck Cr
   have hd:=Gk f Ck Cr;subst hd;split at hk
   ·cases hk
   rename_i te BE;obtain⟨i',d',z',fe⟩:=hT.facts BE;cases hs:(Nat.beq e.size te.size&&Nat.blt 0 te.size)with
   |false=>rw[hs]at hk;cases hk
   |true=>
    obtain⟨Bk,AS⟩:=andB hs;have Bk:=As Bk;simp only[hs,Am]at hk;split at hk
    ·rename_i m n hm hn
     obtain⟨hc,hk⟩:=D2 hk;obtain⟨c1,c23⟩:=andB hc;obtain⟨c2,c3⟩:=andB c23;have c1:=AV c1;have c2:=AV c2;have c3:=AV c3;refine Sound.pure hk λAa _ ok0 base pl w act hr Ae=>?_;have h1:=Ae x BP;rw[hx]at h1;have Cq:DRep w (Al ok0 base pl Aa w).ok (.slice e) l [act.eval x]:=h1;simp only[DRep]at Cq;obtain⟨A,cc,xs,hv,BD,EQ,Mx,Dw⟩:=Cq;simp only[De,EA]at hv;have hb:=Nf (P:=P) (isSl:=true) (len:=l.length) (cap:=cc) (Jq hm λy hy=>Ae y (UC y hy)) (Jq hn λy hy=>Ae y (NU y hy)) c1 c2 (by omega) w;refine⟨.slice (if cc=m.toNat then A else A.map (·.add (m.toNat*te.size))) (n.toNat-m.toNat) (cc-m.toNat),?_,?_⟩
     ·simp[execOp,ho,Instr.sliceAt,run_underlying hu,Instr.slice,hv,hb,run_sizeOf fe]
     ·show DRep w (Al ok0 base pl Aa w).ok (.slice e) ((l.take n.toNat).drop m.toNat) [_]
      simp only[DRep];have Bb:((l.take n.toNat).drop m.toNat).length=n.toNat-m.toNat:=by simp;omega
      refine⟨_,_,(xs.take (n.toNat*e.size)).drop (m.toNat*e.size),by rw[Bb],by rw[Bb];omega,by omega,(Mx.take _).drop _,λj v hj=>?_⟩;rw[OM,LH]at hj;split at hj
      ·rename_i Ao
       obtain⟨ad,rfl,UG,Gr⟩:=Dw _ _ hj;by_cases Hl:cc=m.toNat
       ·exfalso
        have Air:n.toNat=m.toNat:=by omega
        rw[Air]at Ao;omega
       ·refine⟨ad.add (m.toNat*te.size),by rw[if_neg Hl];rfl,by rw[KK];exact UG,?_⟩
        rw[LM,<-Bk];exact Gr
      ·cases hj
    ·cases hk
  ·cases hk
 ·
  rename_i bb ver hx;split at hk
  ·rename_i et Ck Cr
   have hd:=Gk f Ck Cr;subst hd;split at hk
   ·cases hk
   rename_i te BE;obtain⟨i',d',z',fe⟩:=hT.facts BE;split at hk
   ·rename_i t0 e ver' l hb
    cases hs:(Nat.beq ver ver'&&(Nat.beq e.size te.size&&Nat.blt 0 te.size))with
    |false=>rw[hs]at hk;cases hk
    |true=>
     obtain⟨AP,L2⟩:=andB hs;obtain⟨Bk,AS⟩:=andB L2;have Bk:=As Bk;have:=As AP;subst this;simp only[hs,Am]at hk;split at hk
     ·rename_i m n hm hn
      obtain⟨hc,hk⟩:=D2 hk;obtain⟨c1,c23⟩:=andB hc;obtain⟨c2,c3⟩:=andB c23;have c1:=AV c1;have c2:=AV c2;have c3:=AV c3;refine Sound.pure hk λAa Ah ok0 base pl w act hr Ae=>?_;have Aw:Aa bb=some (.row t0 e ver l):=(Ah bb (by simp)).trans hb;have h1:=Ae x BP;rw[hx]at h1;obtain⟨_,sv,Ab,hg,AT⟩:=h1;have Bm:=(AT t0 e ver l Aw).2 rfl;obtain⟨p,hp,hB⟩:=hr.blks bb _ Aw;have:p=.row sv Ab:=by have h2:pl bb=some (.row sv Ab):=hg;rw[hp]at h2;injection h2
      subst this;obtain⟨_,xs,Cs,Ak⟩:=hB
      obtain⟨A,cc,Aq,BD⟩:∃A cc,sv=.slice A l.length cc/\l.length<=cc:=by
       rcases Ak.2 with⟨Aq,hn⟩|⟨g,cap,AQ,Aq,_,_,ES,_⟩
       ·exact⟨none,0,by rw[Aq,hn],by omega⟩
       ·exact⟨_,cap,Aq,ES⟩
      have Du:=Nf (P:=P) (isSl:=true) (len:=l.length) (cap:=cc) (Jq hm λy hy=>Ae y (UC y hy)) (Jq hn λy hy=>Ae y (NU y hy)) c1 c2 (by omega) w;refine⟨.slice (if cc=m.toNat then A else A.map (·.add (m.toNat*te.size))) (n.toNat-m.toNat) (cc-m.toNat),?_,rfl,sv,Ab,hp,λt1 e1 CD l1 By=>?_⟩
      ·simp[execOp,ho,Instr.sliceAt,run_underlying hu,Instr.slice,Bm,Aq,Du,run_sizeOf fe]
      ·have DQ:Aa bb=some (.row t1 e1 CD l1):=By
       rw[Aw]at DQ;injection DQ with DQ;injection DQ with q1 q2 q3 q4;subst q2 q3;simp only[In]at q4;subst q4;refine⟨AC _,λ_=>⟨by omega,by omega,A,_,l.length,cc,Aq,rfl,λAo=>?_,λh0=>?_⟩⟩
       ·rw[if_neg (by omega),Bk]
       ·rw[h0]
        split
        ·rfl
        ·cases A<;>simp[Addr.add]
     ·cases hk
   ·cases hk
  ·cases hk
 ·
  rename_i bb ver L5 NV hx;split at hk
  ·rename_i et Ck Cr
   have hd:=Gk f Ck Cr;subst hd;split at hk
   ·cases hk
   rename_i te BE;obtain⟨i',d',z',fe⟩:=hT.facts BE;split at hk
   ·rename_i t0 e ver' l hb
    cases hs:(Nat.beq ver ver'&&(Nat.beq e.size te.size&&Nat.blt 0 te.size))with
    |false=>rw[hs]at hk;cases hk
    |true=>
     obtain⟨AP,L2⟩:=andB hs;obtain⟨Bk,AS⟩:=andB L2;have Bk:=As Bk;have:=As AP;subst this;simp only[hs,Am]at hk;split at hk
     ·rename_i m n hm hn
      obtain⟨hc,hk⟩:=D2 hk;obtain⟨c1,c23⟩:=andB hc;obtain⟨c2,c3⟩:=andB c23;have c1:=AV c1;have c2:=AV c2;have c3:=AV c3;refine Sound.pure hk λAa Ah ok0 base pl w act hr Ae=>?_;have Aw:Aa bb=some (.row t0 e ver l):=(Ah bb (by simp)).trans hb;have h1:=Ae x BP;rw[hx]at h1;obtain⟨_,sv,Ab,hg,AT⟩:=h1;obtain⟨r1,r2,A,A',nn,cc,Aq,Bm,hA,hA0⟩:=(AT t0 e ver l Aw).2 rfl;obtain⟨p,hp,hB⟩:=hr.blks bb _ Aw;have:p=.row sv Ab:=by have h2:pl bb=some (.row sv Ab):=hg;rw[hp]at h2;injection h2
      subst this;obtain⟨_,xs,Cs,Ak⟩:=hB
      have BD:l.length<=cc:=by
       rcases Ak.2 with⟨CY,hn⟩|⟨g,cap,AQ,CY,_,_,ES,_⟩
       ·omega
       ·rw[Aq]at CY;injection CY with _ _ e3;omega
      have Du:=Nf (P:=P) (isSl:=true) (len:=NV-L5) (cap:=cc-L5) (Jq hm λy hy=>Ae y (UC y hy)) (Jq hn λy hy=>Ae y (NU y hy)) c1 c2 (by omega) w;refine⟨.slice (if cc-L5=m.toNat then A' else A'.map (·.add (m.toNat*te.size))) (n.toNat-m.toNat) (cc-L5-m.toNat),?_,rfl,sv,Ab,hp,λt1 e1 CD l1 By=>?_⟩
      ·simp[execOp,ho,Instr.sliceAt,run_underlying hu,Instr.slice,Bm,Du,run_sizeOf fe]
      ·have DQ:Aa bb=some (.row t1 e1 CD l1):=By
       rw[Aw]at DQ;injection DQ with DQ;injection DQ with q1 q2 q3 q4;subst q2 q3;simp only[In]at q4;subst q4;have e1:L5+n.toNat-(L5+m.toNat)=n.toNat-m.toNat:=by omega
       have e2:cc-L5-m.toNat=cc-(L5+m.toNat):=by omega
       refine⟨AC _,λ_=>⟨by omega,by omega,A,_,nn,cc,Aq,by rw[e1,e2],λAo=>?_,λh0=>?_⟩⟩
       ·rw[if_neg (by omega),hA (by omega),<-Bk]
        cases A with
        |none=>rfl
        |some ad=>simp only[EM,LM];rw[IJ]
       ·have h1:L5=0:=by omega
        have h2:m.toNat=0:=by omega
        rw[h2];split
        ·exact hA0 h1
        ·rw[hA0 h1]
         cases A<;>simp[Addr.add]
     ·cases hk
   ·cases hk
  ·cases hk
 ·
  rename_i b off hx;split at hk
  ·rename_i et n Ck Cr Ge NT
   have hd:=eJ f Ck Cr;subst hd;have Ge:lo=none:=by cases lo<;>simp_all
   have NT:hi=none:=by cases hi<;>simp_all
   subst Ge NT;split at hk
   ·cases hk
   rename_i te BE;obtain⟨i',d',z',fe⟩:=hT.facts BE;split at hk
   ·rename_i e he
    cases hs:(Nat.beq e.size te.size&&Nat.blt 0 n)with
    |false=>rw[hs]at hk;cases hk
    |true=>obtain⟨Bk,AS⟩:=andB hs;have AS:0<n:=Hs AS;simp only[hs,Am]at hk;refine Sound.pure hk λAa _ ok0 base pl w act hr Ae=>?_;have h1:=Ae x BP;rw[hx]at h1;obtain⟨g,hg,hv⟩:=h1;have hb:=Nf (P:=P) (isSl:=false) (len:=n) (cap:=n) (a:=act) (lo:=none) (hi:=none) (m:=0) (n:=(n:Int)) (.inl ⟨rfl,rfl⟩) (.inl ⟨rfl,rfl⟩) (by omega) (by omega) (by omega) w;refine⟨.slice (some ⟨g,off,none⟩) n n,?_,g,hg,rfl⟩;simp only[Option.map_none,Int.toNat_zero,Bw]at hb;simp[execOp,ho,Instr.sliceAt,run_underlying hu,Instr.sureAddr,hv,hb,run_sizeOf fe,Nat.ne_of_gt AS,Addr.add]
   ·cases hk
  ·cases hk
 ·
  rename_i hx;split at hk
  ·rename_i et Ck Cr
   have hd:=Gk f Ck Cr;subst hd;split at hk
   ·cases hk
   rename_i te BE;obtain⟨i',d',z',fe⟩:=hT.facts BE;split at hk
   ·rename_i m n hm hn
    obtain⟨hc,hk⟩:=D2 hk;obtain⟨c1,c23⟩:=andB hc;obtain⟨c2,c3⟩:=andB c23;have c1:=AV c1;have c2:=AV c2;have c3:=AV c3;refine Sound.pure hk λAa Ah ok0 base pl w act hr Ae=>⟨.slice none 0 0,?_,rfl⟩;have h1:=Ae x BP;rw[hx]at h1;have Bm:act.eval x=.slice none 0 0:=h1;have Du:=Nf (P:=P) (isSl:=true) (len:=0) (cap:=0) (Jq hm λy hy=>Ae y (UC y hy)) (Jq hn λy hy=>Ae y (NU y hy)) c1 c2 (by omega) w;have Azi:m=0:=by omega
    have I4:n=0:=by omega
    subst Azi I4;simp[execOp,ho,Instr.sliceAt,run_underlying hu,Instr.slice,Bm,Du,run_sizeOf fe]
   ·cases hk
  ·cases hk
 ·cases hk
theorem R2{w:World}{b b':Nat}{e:TypeId}{size:Nat}{v:Value}{n:Nat}{xs:List Value}(h:w.ownsRow b e size v n xs)(hb:b'<=b):w.ownsRow b' e size v n xs:=by
 refine⟨h.1,?_⟩;rcases h.2 with h2|⟨g,cap,AQ,hv,hg,r⟩
 ·exact .inl h2
 ·exact .inr ⟨g,cap,AQ,hv,Df hb hg,r⟩
def Reads(w:World)(okI:Nat->Prop)(e:Ty)(l:List e.den)(src:Value):Prop:=
 ∃A c ys,src=.slice A l.length c/\l.length<=c/\c<=maxLen/\DList (λx u=>DRep w okI e x u) l ys/\∀j v,ys[j]?=some v->∃ad,A=some ad/\w.cell? (ad.add j)=some v
theorem eN{w:World}{ok:Nat->Prop}(base:Nat){t ty et:TypeId}{te:TI}{i:TypeInfo}{d:TypeDesc}{z:Value}(fe:TFacts P et te i d z)(ht:P.underlying t=some (.slice et)){e:Ty}(GM:e.size=te.size)(Hn:0<te.size)(FM:0<te.bytes){v:Value}{n:Nat}{xs:List Value}(Ak:w.ownsRow base et e.size v n xs){src:Value}{l:List e.den}(Fe:Reads w ok e l src)(Dz:(n+l.length)*te.bytes<=Bt)(BR:base<=w.heap.size):∃v' w' ys,(Builtin.append_ #[t,t] ty #[v,src]).run P w=.ok v' w'/\w'.ownsRow base et e.size v' (n+l.length) (xs++ys)/\w.grownBy w' v.ownBlock/\(v'.ownBlock=v.ownBlock\/v'.ownBlock=some w.heap.size)/\DList (λx u=>DRep w ok e x u) l ys:=by
 have Jl:i.size=e.size:=by rw[<-fe.size,GM]
 have K8:z.cells.size=e.size:=by have:=fe.len;rw[G3]at this;rw[this,Jl]
 obtain⟨A,c,ys,rfl,BD,EQ,hd,Dw⟩:=Fe;have hl:ys.length=l.length*e.size:=hd.length;have h1:=hd.oneCell;have uM:(n+l.length)*i.bytes<=140737488355328:=by rw[<-fe.bytes];exact Dz
 have Ms:n+l.length<=maxLen:=by have h2:n+l.length<=(n+l.length)*te.bytes:=cG _ FM;simp only[Bt]at Dz;simp only[maxLen];omega
 cases A with
 |some ad=>
  obtain⟨v',w',AA,h2,h3,_,h5⟩:=run_append_own_at (P:=P) w base t ty et i z e.size i.bytes ht fe.info fe.zero Jl rfl K8 (by omega) v n xs Ak ad l.length c ys hl
   (λj u hj=>by obtain⟨sR,ha,hc⟩:=Dw j u hj;injection ha with ha;subst ha;exact hc) h1 Ms uM BR
  exact⟨v',w',ys,AA,h2,h3,h5,hd⟩
 |none=>
  have hy:ys=[]:=by
   cases ys with
   |nil=>rfl
   |cons y ys=>obtain⟨ad,ha,_⟩:=Dw 0 y rfl;cases ha
  subst hy
  have Gd:l.length=0:=by
   rcases V7 l.length with h0|h0
   ·exact h0
   ·have:0<l.length*e.size:=Nat.mul_pos h0 (by omega)
    simp at hl;omega
  refine⟨v,w,[],?_,by simpa [Gd]using Ak,⟨rfl,rfl,rfl,AC _,λ_ _ _=>rfl⟩,.inl rfl,hd⟩;rcases Ak.2 with⟨rfl,rfl⟩|⟨g,cap,AQ,rfl,_,_,ES,_⟩
  ·simp[Builtin.append_,run_underlying ht,sizeOf,typeInfo,fe.info,Builtin.lenOf,Builtin.firstCells,Gd]
  ·simp[Builtin.append_,run_underlying ht,sizeOf,typeInfo,fe.info,Builtin.lenOf,Builtin.firstCells,Gd,ES,storeCells]
theorem Reads.of_own{w:World}{okI:Nat->Prop}{base:Nat}{t:TypeId}{e:Ty}{l:List e.den}{sv:Value}{xs:List Value}(hd:DList (λx u=>DRep w okI e x u) l xs)(ho:w.ownsRow base t e.size sv l.length xs):Reads w okI e l sv:=by
 have Ak:=ho;rcases ho.2 with⟨rfl,hn⟩|⟨g,cap,AQ,rfl,BR,hh,ES,EQ,CH,If⟩
 ·have hl:l=[]:=Ik hn
  subst hl;simp only[DList]at hd;subst hd;exact⟨none,0,[],rfl,by simp,by simp[maxLen],rfl,by simp⟩
 ·exact⟨some ⟨g,0,none⟩,cap,xs,rfl,ES,EQ,hd,λj u hj=>⟨_,rfl,Ak.cells (g:=g) rfl j u hj⟩⟩
theorem Pn{E:Env}{blp:Nat->Option Blk}(hb:DN E){e:Ty}{y:V}{l:List e.den}{rd:List Nat}(h:OX blp e y=some (l,rd))(AO:∀b∈rd,∀B,blp b=some B->E.bl b=some B){v:Value}(hv:VRep E y v):Reads E.w E.ok e l v:=by
 unfold OX at h;split at h
 ·simp only[Af,BC]at h
  obtain⟨rfl,_⟩:=h;have:v=.slice none 0 0:=hv;subst this;exact⟨none,0,[],rfl,by simp,by simp[maxLen],rfl,by simp⟩
 ·split at h
  ·rename_i he
   subst he;simp only[Af,BC]at h;obtain⟨rfl,_⟩:=h;have Cc:DRep E.w E.ok (.slice _) _ [v]:=hv;simp only[DRep]at Cc;obtain⟨A,c,xs,e1,hl,hc,hd,hx⟩:=Cc;simp only[De,EA]at e1;exact⟨A,c,xs,e1,hl,hc,hd,λj u hj=>by obtain⟨ad,h1,_,h2⟩:=hx j u hj;exact⟨ad,h1,h2⟩⟩
  ·cases h
 ·split at h
  ·rename_i he
   subst he;simp only[Af,BC]at h;obtain⟨rfl,_⟩:=h;have Cc:DRep E.w E.ok (.slice _) _ [v]:=(show _/\_ from hv).1;simp only[DRep]at Cc;obtain⟨A,c,xs,e1,hl,hc,hd,hx⟩:=Cc;simp only[De,EA]at e1;exact⟨A,c,xs,e1,hl,hc,hd,λj u hj=>by obtain⟨ad,h1,_,h2⟩:=hx j u hj;exact⟨ad,h1,h2⟩⟩
  ·cases h
 ·rename_i b ver
  cases hr:HI blp b ver e with
  |none=>rw[hr]at h;cases h
  |some l'=>rw[hr]at h;simp only[EM,Af,BC]at h;obtain⟨rfl,rfl⟩:=h;obtain⟨t,sv,xs,Aj,Be,rfl,hd,ho⟩:=dY hb (λt e ver l h=>AO b (by simp) _ h) hr hv;exact Reads.of_own hd ho
 ·rename_i b ver i j
  cases hr:HI blp b ver e with
  |none=>rw[hr]at h;cases h
  |some l'=>rw[hr]at h;simp only[EM,Af,BC]at h;obtain⟨rfl,rfl⟩:=h;obtain⟨t,sv,xs,hB,Aj,Be,hd,ho⟩:=Wj hb (λt e ver l h=>AO b (by simp) _ h) hr;obtain⟨_,sv2,JH,F6,AT⟩:=hv;rw[Be]at F6;injection F6 with F6;injection F6 with F6 _;subst F6;obtain⟨A,c,ys,q1,q2,q3,q4,q5⟩:=dZ ((AT _ _ _ _ Aj).2 rfl) hd ho;exact⟨A,c,ys,q1,q2,q3,q4,λk u hk=>by obtain⟨ad,r1,_,r3⟩:=q5 k u hk;exact⟨ad,r1,r3⟩⟩
 ·cases h
theorem R3{w w':World}{a:Act}{x y:Operand}{c:Call}{t:TypeId}(ho:o.op=.call c)(hc:c.callee=.builtin .append)(ha:c.args.toList=[x,y])(ht:c.argTypes.toList=[t,t]){v:Value}(h:(Builtin.append_ #[t,t] o.type #[a.eval x,a.eval y]).run P w=.ok v w'):(execOp a.eval o).run P w=.ok (.value v) w':=by
 have h1:c.args=#[x,y]:=by rw[<-Gg (xs:=c.args),ha]
 have h2:c.argTypes=#[t,t]:=by rw[<-Gg (xs:=c.argTypes),ht]
 simp[execOp,ho,resolve,hc,h1,h2,invoke,builtin,h]
theorem AkA{T:TypeId->Option TI}(hT:TOk P T){kk:K β}{c:Call}(ho:o.op=.call c)(hc:c.callee=.builtin .append){x y:Operand}{t:TypeId}{nx:Nat}(ha:c.args.toList=[x,y])(BW:c.argTypes.toList=[t,t])(hk:dH T bl nx t (ρ x) (ρ y) kk=some r):Sound P o ρ bl kk r:=by
 have Bg:c.args=#[x,y]:=by rw[<-Gg (xs:=c.args),ha]
 have BP:x∈o.op.operands:=by simp[ho,Op.operands,Call.operands,Bg]
 have DT:y∈o.op.operands:=by simp[ho,Op.operands,Call.operands,Bg]
 unfold dH at hk;split at hk
 ·cases hk
 rename_i ti ht;obtain⟨i,d,z,f⟩:=hT.facts ht;split at hk
 ·rename_i et Ck Cr
  have hd:=Gk f Ck Cr;subst hd;split at hk
  ·cases hk
  rename_i te BE;obtain⟨i',d',z',fe⟩:=hT.facts BE;split at hk
  ·cases hk
  rename_i e Qt;cases hs:(Nat.beq e.size te.size&&(Nat.blt 0 te.size&&Nat.blt 0 te.bytes))with
  |false=>rw[hs]at hk;cases hk
  |true=>
   obtain⟨Bk,JF⟩:=andB hs;obtain⟨AS,DS⟩:=andB JF;have Bk:=As Bk;have AS:=D8 AS;have DS:=D8 DS;simp only[hs,Am]at hk;split at hk
   ·cases hk
   rename_i new rd Fe;split at hk
   ·
    rename_i hx;split at hk
    ·rename_i hn
     obtain⟨Dz,hk⟩:=D2 hk;have Dz:=AV Dz;refine⟨_,_,_,hk,λAa Ah=>?_⟩;have CS:Aa nx=none:=(Ah nx (by simp)).trans hn;intro ok0 base pl w a hr Ae K Q hK;have hv:a.eval x=.slice none 0 0:=by have:=Ae x BP;rw[hx]at this;exact this
     have Fc:Reads w (Al ok0 base pl Aa w).ok e new (a.eval y):=Pn hr.blksOk Fe (λb hb B hB=>(Ah b (by simp[hb])).trans hB) (Ae y DT);obtain⟨v',w',ys,AA,Ak,CR,Kz,Mx⟩:=eN (P:=P) w.heap.size fe f.under (ty:=o.type) Bk AS DS (World.ownsRow_nil w w.heap.size et e.size) Fc (by simpa using Dz) (AC _);have U6:w.grownBy w' none:=CR;have hp:∀g,(Pl.row v' []).has g->w.heap.size<=g:=λg hg=>(Ak.lt g (Pl.has_row hg)).1;have B5:Step pl Aa w (upd pl nx (.row v' [])) (upd Aa nx (.row et e 0 new)) w':=Step.new hr CS U6 hp;refine Hc (R3 ho hc ha BW (by rw[hv];exact AA)) (hK v' (upd pl nx (.row v' [])) w' ?_ B5 ?_)
     ·refine RelB.new hr CS U6 hp ⟨rfl,ys,Mx.mono λx u hu=>hu.mono B5.ext.heap,?_⟩
      simp only[DL,Gi]at Ak;exact R2 Ak hr.baseLe
     ·refine⟨?_,v',[],by simp[Al,upd],λt1 e1 CD l1 h1=>?_⟩
      ·rcases Ak.2 with⟨rfl,_⟩|⟨g,cap,AQ,rfl,_⟩<;>rfl
      ·simp only[Al,updL,upd,Dn,Af]at h1
       injection h1 with q1 q2 q3 q4;subst q3;exact⟨AC _,λ_=>rfl⟩
    ·cases hk
   ·
    rename_i b ver hx;split at hk
    ·rename_i t0 e0 ver' l hb
     cases uW:(Nat.beq ver ver'&&Nat.beq t0 et)with
     |false=>rw[uW]at hk;cases hk
     |true=>
      obtain⟨AP,UQ⟩:=andB uW;have:=As AP;subst this;have:=As UQ;subst this;simp only[uW,Am]at hk;split at hk
      ·rename_i he
       subst he;obtain⟨Dz,hk⟩:=D2 hk;have Dz:=AV Dz;refine⟨_,_,_,hk,λAa Ah=>?_⟩;have Aw:Aa b=some (.row t0 e0 ver l):=(Ah b (by simp)).trans hb;intro ok0 base pl w a hr Ae K Q hK;have hv:=Ae x BP;rw[hx]at hv;obtain⟨_,sv,Ab,hg,AT⟩:=hv;have Bm:=(AT t0 e0 ver l Aw).2 rfl;obtain⟨p,hp,hB⟩:=hr.blks b _ Aw;have:p=.row sv Ab:=by have h2:pl b=some (.row sv Ab):=hg;rw[hp]at h2;injection h2
       subst this;obtain⟨h0,xs,Cs,Azz⟩:=hB;subst h0;have Fc:Reads w (Al ok0 base pl Aa w).ok e0 new (a.eval y):=Pn hr.blksOk Fe (λb hb B hB=>(Ah b (by simp[hb])).trans hB) (Ae y DT);obtain⟨v',w',ys,AA,Ak,CR,Kz,Mx⟩:=eN (P:=P) base fe f.under (ty:=o.type) Bk AS DS Azz Fc Dz hr.baseLe
       have Ain:v'.ownBlock=sv.ownBlock\/∀g,v'.ownBlock=some g->w.heap.size<=g:=by
        rcases Kz with h|h
        ·exact .inl h
        ·exact .inr λg hg=>by rw[h]at hg;injection hg with hg;exact JP hg
       have B5:=Step.grown (l':=l++new) (ver':=ver+1) hr Aw hp CR Ain ⟨by omega,λh=>by omega⟩;refine Hc (R3 ho hc ha BW (by rw[Bm];exact AA)) (hK v' (upd pl b (.row v' [])) w' ?_ B5 ?_)
       ·refine RelB.grown hr Aw hp CR Ain ⟨by omega,λh=>by omega⟩ ⟨rfl,xs++ys,(Cs.mono λx u hu=>hu.mono B5.ext.heap).append (Mx.mono λx u hu=>hu.mono B5.ext.heap),?_⟩
        rw[AE];exact Ak
       ·refine⟨?_,v',[],by simp[Al,upd],λt1 e1 CD l1 h1=>?_⟩
        ·rcases Ak.2 with⟨rfl,_⟩|⟨g,cap,AQ,rfl,_⟩<;>rfl
        ·simp only[Al,updL,upd,Dn,Af]at h1
         injection h1 with q1 q2 q3 q4;subst q3;exact⟨AC _,λ_=>rfl⟩
      ·cases hk
    ·cases hk
   ·cases hk
 ·cases hk
end
end Go.Lift
namespace Go.Lift
open Go.RowKit
theorem xO(off:Nat):∀(vs:List Value)(k:Nat)(cs:Array Value),off+k+vs.length<=cs.size->((vs.zipIdx k).foldl (λ(cs:Array Value)(p:Value×Nat)=>cs.setIfInBounds (off+p.2) p.1) cs).toList=cs.toList.take (off+k)++vs++cs.toList.drop (off+k+vs.length)
 |[],k,cs,h=>by simp
 |v::vs,k,cs,h=>by simp only[List.zipIdx_cons,List.foldl_cons];simp only[Ba]at h;rw[xO off vs (k+1) _ (by simp;omega)];have e:=list_seg_step cs.toList (off+k) v vs (by simp;omega);simpa [Array.toList_setIfInBounds,QW]using e
theorem xP(off:Nat)(v:Value)(cs:Array Value)(h:off+v.cells.toList.length<=cs.size):(v.cells.zipIdx.foldl (λcs(c,j)=>cs.setIfInBounds (off+j) c) cs)=(cs.toList.take off++v.cells.toList++cs.toList.drop (off+v.cells.toList.length)).toArray:=by
 apply Ht;have h1:=xO off v.cells.toList 0 cs (by simpa using h);simp only[OO]at h1;rw[<-Array.foldl_toList];simpa using h1
section
variable{P:Program}{o:Oper}{ρ:Operand->V}{bl:Nat->Option Blk}{β:Type}{r:β}
theorem eO{E:Env}{T:TypeId->Option TI}(place:Nat->Option (Nat×Nat))(ti:TI)(AzG:∀i v cs0 BA ps,G5 ti T ((i,v)::BA)=some ps->v.cells=some cs0->∃off,place i=some (off,cs0.length)/\∃Hr,G5 ti T BA=some Hr/\ps=(off,cs0)::Hr):∀(parts:List (Nat×V))(Bh:List (Nat×Value))(ps:List (Nat×List C))(cs cs':List C)(vs:List Value),G5 ti T parts=some ps->Bh.map (·.1)=parts.map (·.1)->(∀(j:Nat)(p:Nat×V)(q:Nat×Value),parts[j]?=some p->Bh[j]?=some q->VRep E p.2 q.2)->CReps E cs vs->LN cs ps=some cs'->∃us,Instr.fill place vs.toArray Bh=some us.toArray/\CReps E cs' us:=by
 intro parts
 induction parts with
 |nil=>
  intro Bh ps cs cs' vs hp hm hv hc hf;simp only[G5,Af]at hp;subst hp;simp only[LN,Af]at hf;subst hf;cases Bh with
  |nil=>exact⟨vs,rfl,hc⟩
  |cons q Bh=>simp at hm
 |cons p parts ih=>
  intro Bh ps cs cs' vs hp hm hv hc hf;obtain⟨i,v⟩:=p;cases Bh with
  |nil=>simp at hm
  |cons q Bh=>
   obtain⟨i',x⟩:=q;simp only[CE,De]at hm;obtain⟨hi,hm⟩:=hm;have hi:i'=i:=hi;subst hi
   have Q6:∃cs0,v.cells=some cs0:=by
    simp only[G5]at hp;cases Q6:v.cells with
    |some cs0=>exact⟨cs0,rfl⟩
    |none=>rw[Q6]at hp;simp at hp
   obtain⟨cs0,Q6⟩:=Q6;obtain⟨off,h1,Hr,h2,rfl⟩:=AzG i' v cs0 parts ps hp Q6;simp only[LN]at hf;split at hf
   ·rename_i cs1 Ib
    have hx:=VRep.cells_of Q6 (hv 0 _ _ rfl rfl);have EJ:=hx.length;obtain⟨s1,s2⟩:=Ru hc hx Ib;obtain⟨us,h3,h4⟩:=ih Bh Hr cs1 cs' _ h2 hm (λj p q hp hq=>hv (j+1) p q (by simpa using hp) (by simpa using hq)) s1 hf;refine⟨us,?_,h4⟩;simp only at EJ s2 h3;have C3:x.cells.size=cs0.length:=by simpa using EJ
    have AA1:¬(off+x.cells.size>vs.toArray.size):=by simp at s2⊢;omega
    simp only[Instr.fill,h1];rw[if_neg (by simp only[C3,ne_eq,VA,decide_false,MO,IH];rw[<-C3];exact AA1),xP off x vs.toArray (by simpa using s2)];exact h3
   ·cases hf
theorem AkB(fs:List Field)(hk:fs.all (λf=>(P.info? f.type).isSome&&(P.underlying f.type).isSome)=true)(w:World):(fs.mapM λf=>(do pure (f.offset,<-sizeOf f.type):Sem (Nat×Nat))).run P w=.ok (fs.map λf=>(f.offset,P.cellsOf f.type)) w:=by
 induction fs with
 |nil=>rfl
 |cons f fs ih=>
  simp only[VM,C5]at hk;obtain⟨⟨h1,_⟩,h2⟩:=hk;obtain⟨i,hi⟩:=cF.1 h1;have hs:(sizeOf f.type).run P w=.ok (P.cellsOf f.type) w:=by simp[sizeOf,typeInfo,hi,Program.cellsOf]
  simp only[List.mapM_cons,Sem.run_bind,hs,Result.andThen_ok,Sem.run_pure,ih (by simpa using h2),CE]
theorem AkC{ti:TI}{T:TypeId->Option TI}(Bb:ti.len=none){i:Nat}{v:V}{cs0:List C}{BA:List (Nat×V)}{ps:List (Nat×List C)}(h:G5 ti T ((i,v)::BA)=some ps)(hv:v.cells=some cs0):∃off g,ti.flds[i]?=some (off,cs0.length,g)/\∃Hr,G5 ti T BA=some Hr/\ps=(off,cs0)::Hr:=by
 simp only[G5,hv,Bb]at h;split at h
 ·rename_i cs1 vN he hr
  simp only[Af]at he;subst he;split at h
  ·rename_i off n g hf
   cases hb:Nat.beq cs0.length n with
   |false=>rw[hb]at h;cases h
   |true=>have:=As hb;subst this;simp only[hb,Am,Af]at h;exact⟨off,g,hf,vN,hr,h.symm⟩
  ·cases h
 ·cases h
theorem xQ{ti:TI}{T:TypeId->Option TI}{n:Nat}{e:TypeId}{te:TI}(Bb:ti.len=some n)(Ck:ti.elem=some e)(BE:T e=some te){i:Nat}{v:V}{cs0:List C}{BA:List (Nat×V)}{ps:List (Nat×List C)}(h:G5 ti T ((i,v)::BA)=some ps)(hv:v.cells=some cs0):cs0.length=te.size/\∃Hr,G5 ti T BA=some Hr/\ps=(i*te.size,cs0)::Hr:=by
 simp only[G5,hv,Bb,Ck,BE]at h;split at h
 ·rename_i cs1 vN he hr
  simp only[Af]at he;subst he;cases hb:Nat.beq cs0.length te.size with
  |false=>rw[hb]at h;cases h
  |true=>simp only[hb,Am,Af]at h;exact⟨As hb,vN,hr,h.symm⟩
 ·cases h
theorem AkD{T:TypeId->Option TI}(hT:TOk P T){kk:K β}{t:TypeId}{parts:Array (Nat×Operand)}(ho:o.op=.build t parts){ti:TI}(ht:T t=some ti)(E5:ti.agg=true){ps:List (Nat×List C)}(hp:G5 ti T (parts.toList.map λp=>(p.1,ρ p.2))=some ps){cs:List C}(hf:LN ti.zero ps=some cs)(hk:kk (.agg cs) [] []=some r):Sound P o ρ bl kk r:=by
 obtain⟨i,d,z,f⟩:=hT.facts ht;have hu:=f.under;refine Sound.pure hk λAa _ ok0 base pl w a hr Ae=>?_;have Va:CReps (Al ok0 base pl Aa w) ti.zero z.cells.toList:=by rw[f.zeroC];exact LP f.one
 have MB:∀(j:Nat)(p:Nat×V)(q:Nat×Value),(parts.toList.map λp=>(p.1,ρ p.2))[j]?=some p->(parts.toList.map λp=>(p.1,a.eval p.2))[j]?=some q->VRep (Al ok0 base pl Aa w) p.2 q.2:=by
  intro j p q h1 h2;rw[FI]at h1 h2;cases hj:parts.toList[j]? with
  |none=>rw[hj]at h1;cases h1
  |some x=>rw[hj]at h1 h2;simp only[EM,Af]at h1 h2;subst h1 h2;exact Ae x.2 (by simp only[ho,Op.operands];exact cN.2 (Hb.2 ⟨x,CI hj,rfl⟩))
 have K0:(parts.toList.map λp=>(p.1,a.eval p.2)).map (·.1)=(parts.toList.map λp=>(p.1,ρ p.2)).map (·.1):=by simp
 rw[f.agg]at E5;unfold Ir at E5;rw[hu]at E5;cases d<;>try(simp at E5;done)
 ·
  rename_i n e;have Ck:ti.elem=some e:=by rw[f.elem];rfl
  have Bb:ti.len=some n:=by rw[f.alen];rfl
  have D5:=f.known;simp only[Pk,C5]at D5;obtain⟨ie,Aic⟩:=cF.1 D5.1;have C3:(sizeOf e).run P w=.ok ie.size w:=by simp[sizeOf,typeInfo,Aic]
  cases Lz:(parts.toList.map λp=>(p.1,ρ p.2))with
  |nil=>
   rw[Lz]at hp;simp only[G5,Af]at hp;subst hp;simp only[LN,Af]at hf;subst hf;have U2:parts.toList=[]:=by simpa using Lz
   have aW:parts=#[]:=by simpa using U2
   exact⟨.agg z.cells,by simp[execOp,ho,Instr.build,zeroValue,typeInfo,f.info,f.zero,run_underlying hu,C3,aW,Instr.fill],z.cells.toList,Va,by simp⟩
  |cons p0 BA=>
   have BE:∃te,T e=some te:=by
    rw[Lz]at hp;obtain⟨i0,v0⟩:=p0;simp only[G5,Bb,Ck]at hp;cases BE:T e with
    |some te=>exact⟨te,rfl⟩
    |none=>rw[BE]at hp;split at hp<;>simp at hp
   obtain⟨te,BE⟩:=BE;obtain⟨i',d',z',fe⟩:=hT.facts BE
   have GM:ie.size=te.size:=by have h1:=fe.info;rw[Aic]at h1;injection h1 with h1;rw[fe.size,h1]
   obtain⟨us,h1,h2⟩:=eO (T:=T) (E:=Al ok0 base pl Aa w) (λi=>some (i*ie.size,ie.size)) ti
    (λi v cs0 BA ps h hv=>by obtain⟨h1,Hr,h2,h3⟩:=xQ Bb Ck BE h hv;exact⟨i*te.size,by rw[GM,h1],Hr,h2,h3⟩) _ _ _ _ _ _ hp K0 MB Va hf
   refine⟨.agg us.toArray,?_,us,h2,by simp⟩;simp only[Gg]at h1;simp[execOp,ho,Instr.build,zeroValue,typeInfo,f.info,f.zero,run_underlying hu,C3,h1]
 ·
  rename_i fs;have Bb:ti.len=none:=by rw[f.alen];rfl
  have D5:=f.known;simp only[Pk]at D5;have Be:=AkB (P:=P) fs.toList D5 w
  have Om:(fs.mapM λf=>(do pure (f.offset,<-sizeOf f.type):Sem (Nat×Nat))).run P w=.ok (fs.toList.map λf=>(f.offset,P.cellsOf f.type)).toArray w:=by rw[Array.mapM_eq_mapM_toList,Sem.run_map,Be];rfl
  obtain⟨us,h1,h2⟩:=eO (T:=T) (E:=Al ok0 base pl Aa w) ((fs.toList.map λf=>(f.offset,P.cellsOf f.type)).toArray[·]?) ti
   (λi v cs0 BA ps h hv=>by
    obtain⟨off,g,h1,Hr,h2,h3⟩:=AkC Bb h hv;refine⟨off,?_,Hr,h2,h3⟩;rw[f.flds]at h1;simp only[Wd,FI]at h1;simp only[V4,FI];cases Ai3:fs.toList[i]? with
    |none=>rw[Ai3]at h1;cases h1
    |some fd=>rw[Ai3]at h1;simp only[EM,Af,BC]at h1⊢;exact⟨h1.1,h1.2.1⟩) _ _ _ _ _ _ hp K0 MB Va hf
  refine⟨.agg us.toArray,?_,us,h2,by simp⟩
  have F6:(fs.mapM λf=>Prod.mk f.offset <$> sizeOf f.type:Sem (Array (Nat×Nat))).run P w=.ok (fs.toList.map λf=>(f.offset,P.cellsOf f.type)).toArray w:=by simpa only[map_eq_pure_bind]using Om
  simp only[Gg]at h1;simp only[execOp,ho,Instr.build,zeroValue,typeInfo,f.info,f.zero,run_underlying hu,Sem.run_bind,run_program,Result.andThen_ok,Sem.run_pure,Om,QV,h1]
theorem xR{T:TypeId->Option TI}(hT:TOk P T){kk:K β}{t:TypeId}{parts:Array (Nat×Operand)}(ho:o.op=.build t parts)(hk:VY T t (parts.toList.map λp=>(p.1,ρ p.2)) kk=some r):Sound P o ρ bl kk r:=by
 unfold VY at hk;split at hk
 ·rename_i ti ht
  cases E5:ti.agg with
  |false=>rw[E5]at hk;cases hk
  |true=>
   simp only[E5,Am]at hk;split at hk
   ·rename_i ps Ic
    split at hk
    ·rename_i cs CH;exact AkD hT ho ht E5 Ic CH hk
    ·cases hk
   ·cases hk
 ·cases hk
def repL(n:Nat)(l:List Value):List Value:=
 match n with
 |0=>[]
 |n+1=>l++repL n l
theorem xS(l:List Value):∀n,repL n l++l=l++repL n l
 |0=>by simp[repL]
 |n+1=>by simp only[repL,Cw];rw[xS l n]
theorem xT{E:Env}{cs:List C}{vs:List Value}(h:CReps E cs vs):∀n,CReps E (repC n cs) (repL n vs)
 |0=>rfl
 |n+1=>h.append (xT h n)
theorem R4(z:Array Value)(hz:0<z.size):∀n,(madeCells z (n*z.size)).toList=repL n z.toList
 |0=>by simp[madeCells,repL]
 |n+1=>by
  have ih:=R4 z hz n
  have e:(madeCells z ((n+1)*z.size)).toList=(madeCells z (n*z.size)).toList++z.toList:=by
   simp only[madeCells,QV,Array.toList_range,HG,List.range_add,LJ];congr 1;apply V9;intro j;simp only[FI,OP];by_cases hj:j<z.size
   ·rw[List.getElem?_range hj]
    have hm:(n*z.size+j)%z.size=j:=by rw[Nat.mul_comm,Nat.mul_add_mod,Nat.mod_eq_of_lt hj]
    simp[hm,hj]
   ·have h1:(List.range z.size)[j]?=none:=by simp;omega
    rw[h1];simp;omega
  rw[e,ih,xS];rfl
theorem DList.rep{w:World}{ok:Nat->Prop}{e:Ty}{x:e.den}{vs:List Value}(h:DRep w ok e x vs):∀n,DList (λx u=>DRep w ok e x u) (List.replicate n x) (repL n vs)
 |0=>rfl
 |n+1=>⟨vs,repL n vs,rfl,h,DList.rep h n⟩
theorem xU{kk:K β}{nx:Nat}{et:TypeId}{e:Ty}{l:List e.den}(hn:bl nx=none)(hk:kk (.c (.row nx 0)) [nx] [(nx,.row et e 0 l)]=some r)(Aze:l.length<=maxLen)(AA:∀(Aa:Nat->Option Blk)(ok0:OK0 P)(base:Nat)(pl:Nat->Option Pl)(w:World)(a:Act),RelB ok0 base pl Aa w->(∀x∈o.op.operands,VRep (Al ok0 base pl Aa w) (ρ x) (a.eval x))->∃us:List Value,(execOp a.eval o).run P w=.ok (.value (.slice (some ⟨w.heap.size,0,none⟩) l.length l.length)) (w.alloc (.cells us.toArray et))/\DList (λx u=>DRep w (Al ok0 base pl Aa w).ok e x u) l us):Sound P o ρ bl kk r:=by
 refine⟨_,_,_,hk,λAa hb=>?_⟩;have CS:Aa nx=none:=(hb nx (by simp)).trans hn;intro ok0 base pl w a hr hx K Q hK;obtain⟨us,h1,h2⟩:=AA Aa ok0 base pl w a hr hx;have hg:w.grownBy (w.alloc (.cells us.toArray et)) none:=World.grownBy_alloc w _ none
 have hp:∀g,(Pl.row (.slice (some ⟨w.heap.size,0,none⟩) l.length l.length) []).has g->w.heap.size<=g:=by intro g Fm;have Fm:=Pl.has_row Fm;simp only[Value.ownBlock,Af]at Fm;exact JP Fm
 have hs:Step pl Aa w (upd pl nx (.row (.slice (some ⟨w.heap.size,0,none⟩) l.length l.length) [])) (upd Aa nx (.row et e 0 l)) (w.alloc (.cells us.toArray et)):=Step.new hr CS hg hp;refine Hc h1 (hK _ (upd pl nx (.row (.slice (some ⟨w.heap.size,0,none⟩) l.length l.length) [])) _ ?_ hs ?_)
 ·refine RelB.new hr CS hg hp ⟨rfl,us,h2.mono λx u hu=>hu.mono hs.ext.heap,?_⟩
  have hl:=h2.length;exact⟨hl,.inr ⟨w.heap.size,l.length,us.toArray,rfl,hr.baseLe,heap_alloc_new w _,AC _,Aze,by simpa using hl,by rw[<-hl];simp⟩⟩
 ·refine⟨rfl,.slice (some ⟨w.heap.size,0,none⟩) l.length l.length,[],by simp[Al,upd],λt1 e1 CD l1 h1=>?_⟩
  simp only[Al,updL,upd,Dn,Af]at h1;injection h1 with q1 q2 q3 q4;subst q3;exact⟨AC _,λ_=>rfl⟩
theorem AkE{T:TypeId->Option TI}(hT:TOk P T){kk:K β}{nx:Nat}{t:TypeId}{n:Nat}{parts:Array (Nat×Operand)}(ho:o.op=.buildSlice t n parts)(hk:dQ T bl nx t n (parts.toList.map λp=>(p.1,ρ p.2)) kk=some r):Sound P o ρ bl kk r:=by
 unfold dQ at hk;split at hk
 ·cases hk
 rename_i ti ht;obtain⟨i,d,z,f⟩:=hT.facts ht;split at hk
 ·rename_i et Ck Cr
  have hd:=Gk f Ck Cr;subst hd;have hu:=f.under;split at hk
  ·cases hk
  rename_i te BE;obtain⟨i',d',z',fe⟩:=hT.facts BE;split at hk
  ·cases hk
  rename_i e Qt;cases hs:(Nat.beq e.size te.size&&(Nat.ble (n*te.size) 16777216&&Nat.blt 0 te.size))with
  |false=>rw[hs]at hk;cases hk
  |true=>
   obtain⟨Bk,JF⟩:=andB hs;obtain⟨AS,DS⟩:=andB JF;have Bk:=As Bk;have AS:=Hs AS;have DS:=D8 DS;simp only[hs,Am]at hk;split at hk
   ·cases hk
   rename_i ps Ic;split at hk
   ·cases hk
   rename_i cs CH;split at hk
   ·rename_i l hl hn
    have Gu:l.length=n:=by
     have:∀{m:Nat}{cs:List C}{l:List e.den},IM (λ_=>none) e m cs=some l->l.length=m:=by
      intro m
      induction m with
      |zero=>
       intro cs l h;cases cs with
       |nil=>simp only[IM,Af]at h;subst h;rfl
       |cons c cs=>simp[IM]at h
      |succ m ih=>
       intro cs l h;simp only[IM]at h;split at h
       ·split at h
        ·rename_i l' Gt
         simp only[Af]at h;subst h;simp[ih Gt]
        ·cases h
       ·cases h
     exact this hl
    have Air:n<=n*te.size:=cG _ DS;refine xU hn hk (by simp only[maxLen];omega) λAa ok0 base pl w a hr Ae=>?_
    have HB:z'.cells.size=te.size:=by have:=fe.len;rw[G3]at this;rw[this,fe.size]
    have Va:CReps (Al ok0 base pl Aa w) (repC n te.zero) (repL n z'.cells.toList):=xT (by rw[fe.zeroC];exact LP fe.one) n
    have MB:∀(j:Nat)(p:Nat×V)(q:Nat×Value),(parts.toList.map λp=>(p.1,ρ p.2))[j]?=some p->(parts.toList.map λp=>(p.1,a.eval p.2))[j]?=some q->VRep (Al ok0 base pl Aa w) p.2 q.2:=by
     intro j p q h1 h2;rw[FI]at h1 h2;cases hj:parts.toList[j]? with
     |none=>rw[hj]at h1;cases h1
     |some x=>rw[hj]at h1 h2;simp only[EM,Af]at h1 h2;subst h1 h2;exact Ae x.2 (by simp only[ho,Op.operands];exact cN.2 (Hb.2 ⟨x,CI hj,rfl⟩))
    have K0:(parts.toList.map λp=>(p.1,a.eval p.2)).map (·.1)=(parts.toList.map λp=>(p.1,ρ p.2)).map (·.1):=by simp
    obtain⟨us,h1,h2⟩:=eO (T:=T) (E:=Al ok0 base pl Aa w) (λi=>some (i*te.size,te.size)) _
     (λi v cs0 BA ps h hv=>by obtain⟨h1,Hr,h2,h3⟩:=xQ (ti:={te with elem:=some et,len:=some n}) rfl rfl BE h hv;exact⟨i*te.size,by rw[h1],Hr,h2,h3⟩) _ _ _ _ _ _ Ic K0 MB Va CH
    obtain⟨d1,d2⟩:=Wl hr.blksOk (Rows.none _ _) h2 hl;refine⟨us,?_,d1⟩
    have UD:(madeCells z'.cells (n*te.size))=(repL n z'.cells.toList).toArray:=by apply Ht;rw[<-HB,R4 _ (by omega)]
    have JC:¬(n*te.size>2^24):=by omega
    rw[Gu];by_cases Ig:n*te.size=0
    ·have I4:n=0:=by
      rcases Nat.mul_eq_zero.1 Ig with h|h
      ·exact h
      ·omega
     subst I4;simp only[repL]at h1;have e0:∀g:Nat->Value,(Array.range 0).map g=#[]:=λg=>by apply Ht;simp
     have h0:¬((0:Nat)>2^24):=by decide
     simp only[execOp,ho,Instr.buildSlice,run_underlying hu,run_sizeOf fe,Sem.run_bind,Result.andThen_ok,Ig,h0,Cx,Sem.run_pure,Dn,e0,QV,h1,newRow,run_newObj];rfl
    ·have Ih:∀(k:Nat),(Array.range (n*te.size)).map (λx=>z'.cells[x%z'.cells.size]!)=(repL n z'.cells.toList).toArray:=λ_=>UD
     simp only[execOp,ho,Instr.buildSlice,run_underlying hu,run_sizeOf fe,Sem.run_bind,Result.andThen_ok,JC,Cx,Sem.run_pure,Ig,zeroValue,typeInfo,run_program,fe.info,fe.zero,Ih 0,QV,h1,newRow,run_newObj];rfl
   ·cases hk
 ·cases hk
theorem AkF{T:TypeId->Option TI}(hT:TOk P T){kk:K β}{nx:Nat}{t:TypeId}{x y:Operand}(ho:o.op=.makeSlice t x y)(hk:dR T bl nx t (ρ x) (ρ y) kk=some r):Sound P o ρ bl kk r:=by
 have BP:x∈o.op.operands:=by simp[ho,Op.operands]
 have DT:y∈o.op.operands:=by simp[ho,Op.operands]
 unfold dR at hk;split at hk
 ·rename_i ti ki i kj j ht hi hj
  obtain⟨inf,d,z,f⟩:=hT.facts ht;split at hk
  ·rename_i et Ck Cr
   have hd:=Gk f Ck Cr;subst hd;have hu:=f.under;split at hk
   ·cases hk
   rename_i te BE;obtain⟨i',d',z',fe⟩:=hT.facts BE;split at hk
   ·cases hk
   rename_i e Qt;split at hk
   ·rename_i z0 Ig hn
    cases hs:(Nat.beq e.size te.size&&Nat.blt 0 te.size)with
    |false=>rw[hs]at hk;cases hk
    |true=>
     obtain⟨Bk,AS⟩:=andB hs;have Bk:=As Bk;have AS:=D8 AS;simp only[hs,Am]at hk;obtain⟨hc,Qw⟩:=D2 hk;clear hk;obtain⟨c1,hc⟩:=andB hc;obtain⟨c2,hc⟩:=andB hc;obtain⟨c3,c4⟩:=andB hc;have c1:=AV c1;have c2:=AV c2;have c3:=AV c3;have c4:=AV c4;subst c2;refine xU hn Qw (by simp only[LF,maxLen];omega) λAa ok0 base pl w a hr Ae=>?_;have hx:=Ae x BP;have hy:=Ae y DT;rw[Nc hi]at hx;rw[Nc hj]at hy;have D6:a.eval x=.int ki i:=hx;have bI:a.eval y=.int kj i:=hy
     have HB:z'.cells.size=te.size:=by have:=fe.len;rw[G3]at this;rw[this,fe.size]
     have Vb:DRep w (Al ok0 base pl Aa w).ok e z0 z'.cells.toList:=Na hr.blksOk (Rows.none _ _) (by rw[fe.zeroC];exact LP fe.one) Ig;refine⟨repL i.toNat z'.cells.toList,?_,DList.rep Vb _⟩
     have FM:(i'.bytes:Int)*i<=281474976710656:=by
      rw[<-fe.bytes]
      have:((i.toNat*te.bytes:Nat):Int)=(te.bytes:Int)*i:=by rw[Int.natCast_mul,Int.toNat_of_nonneg c1,Int.mul_comm]
      simp only[Bt]at c3;omega
     have Er:=run_make (P:=P) w t et i' z' hu fe.info fe.zero ki kj i i c1 (OQ _) FM (by omega)
     have UD:madeCells z'.cells (i.toNat*i'.size)=(repL i.toNat z'.cells.toList).toArray:=by apply Ht;rw[<-fe.size,<-HB,R4 _ (by omega)]
     rw[UD]at Er;simp[execOp,ho,D6,bI,Er]
   ·cases hk
  ·cases hk
 ·cases hk
end
end Go.Lift
namespace Go.Lift
open Go.RowKit
section
variable{P:Program}{o:Oper}{ρ:Operand->V}{bl:Nat->Option Blk}{β:Type}{r:β}
theorem AkG{w:World}(base:Nat){t ty et:TypeId}{te:TI}{i:TypeInfo}{d:TypeDesc}{z:Value}(fe:TFacts P et te i d z)(ht:P.underlying t=some (.slice et))(Hn:0<te.size)(FM:0<te.bytes){v:Value}{n:Nat}{xs:List Value}(Ak:w.ownsRow base et te.size v n xs){src:Value}{m base2:Nat}{ys:List Value}(Fe:w.ownsRow base2 et te.size src m ys)(h1:∀u∈ys,u.oneCell'=true)(Dz:(n+m)*te.bytes<=Bt)(BR:base<=w.heap.size):∃v' w',(Builtin.append_ #[t,t] ty #[v,src]).run P w=.ok v' w'/\w'.ownsRow base et te.size v' (n+m) (xs++ys)/\w.grownBy w' v.ownBlock/\(v'.ownBlock=v.ownBlock\/v'.ownBlock=some w.heap.size):=by
 have Jl:i.size=te.size:=fe.size.symm
 have K8:z.cells.size=te.size:=by have:=fe.len;rw[G3]at this;rw[this,Jl]
 have uM:(n+m)*i.bytes<=140737488355328:=by rw[<-fe.bytes];exact Dz
 have Ms:n+m<=maxLen:=by have h2:n+m<=(n+m)*te.bytes:=cG _ FM;simp only[Bt]at Dz;simp only[maxLen];omega
 have hs:=Fe;rcases Fe.2 with⟨rfl,rfl⟩|⟨g,cap,AQ,rfl,_⟩
 ·have hy:ys=[]:=by have:=Fe.1;exact Ik (by simpa using this)
  subst hy;refine⟨v,w,?_,by simpa using Ak,⟨rfl,rfl,rfl,AC _,λ_ _ _=>rfl⟩,.inl rfl⟩;rcases Ak.2 with⟨rfl,rfl⟩|⟨g,cap,AQ,rfl,_,_,ES,_⟩
  ·simp[Builtin.append_,run_underlying ht,sizeOf,typeInfo,fe.info,Builtin.lenOf,Builtin.firstCells]
  ·simp[Builtin.append_,run_underlying ht,sizeOf,typeInfo,fe.info,Builtin.lenOf,Builtin.firstCells,ES,storeCells]
 ·obtain⟨v',w',AA,h2,h3,_,h5⟩:=run_append_own_at (P:=P) w base t ty et i z te.size i.bytes ht fe.info fe.zero Jl rfl K8 Hn v n xs Ak ⟨g,0,none⟩ m cap ys hs.1
   (λj u hj=>hs.cells (g:=g) rfl j u hj) h1 Ms uM BR
  exact⟨v',w',AA,h2,h3,h5⟩
end
end Go.Lift
namespace Go.Lift
open Go.RowKit
theorem MatOk.nil(E:Env)(t et:TypeId)(e:Ty):MatOk E t et e none [] (.slice none 0 0) []:=
 ⟨⟨[],World.ownsRow_nil _ _ _ _,λi s h=>by simp at h⟩,rfl,λi h=>by simp at h,λi s x h=>by simp at h,λi s g h=>by simp at h,λi j s r g _ h=>by simp at h⟩
section
variable{P:Program}{o:Oper}{ρ:Operand->V}{bl:Nat->Option Blk}{β:Type}{r:β}
theorem xV{w:World}{base:Nat}{t0:TypeId}{size:Nat}{sv:Value}{m:Nat}{xs:List Value}(Ak:w.ownsRow base t0 size sv m xs){g o n c:Nat}(Aq:sv=.slice (some ⟨g,0,none⟩) n c){us:List Value}(h1:∀u∈us,u.oneCell'=true)(BD:o+us.length<=xs.length):∃w',(storeCells ⟨g,o,none⟩ us).run P w=.ok () w'/\w.grownBy w' (some g)/\w'.ownsRow base t0 size sv m (xs.take o++us++xs.drop (o+us.length)):=by
 obtain⟨EJ,Dy⟩:=Ak;rcases Dy with⟨h0,_⟩|⟨g',cap,AQ,Jn,BR,hh,ES,EQ,Uw,If⟩
 ·rw[Aq]at h0;cases h0
 have hh:w.heap[g']?=some (.cells AQ t0 (0,0)):=hh
 have Fm:g'=g:=by rw[Aq]at Jn;injection Jn with e1 e2 e3;injection e1 with e1;injection e1 with e1;exact e1.symm
 subst Fm
 have AT:AQ.toList=xs++AQ.toList.drop (m*size):=by rw[<-If,LE]
 have tS:o+us.length<=AQ.toList.length:=by rw[AT];simp only[AE];omega
 have B5:=run_storeCells_at P g' o t0 us 0 AQ w hh (by simpa using tS) h1;simp only[OO]at B5
 have HY:AQ.toList.take o++us++AQ.toList.drop (o+us.length)=xs.take o++us++xs.drop (o+us.length)++AQ.toList.drop (m*size):=by
  have e1:AQ.toList.take o=xs.take o:=by rw[AT,JM (by omega)]
  have e2:AQ.toList.drop (o+us.length)=xs.drop (o+us.length)++AQ.toList.drop (m*size):=by
   conv=>lhs;rw[AT]
   rw[OB BD]
  rw[e1,e2];simp only[Cw]
 have K1:(xs.take o++us++xs.drop (o+us.length)).length=xs.length:=by simp only[AE,FR,Il];omega
 refine⟨_,B5,eH w g' _,by rw[K1];exact EJ,.inr ⟨g',cap,_,Jn,BR,setRow_heap w g' _ _ t0 _ hh,ES,EQ,?_,?_⟩⟩
 ·have tF:AQ.size=cap*size:=Uw
  have:(AQ.toList.take o++us++AQ.toList.drop (o+us.length)).length=AQ.toList.length:=by simp only[AE,FR,Il];omega
  rw[VB,this,G3];exact tF
 ·simp only[HY]
  rw[JM (by rw[K1,EJ];exact AC _),G0 (by rw[K1,EJ];exact AC _)]
theorem AkH{w:World}{okI:Nat->Prop}{e:Ty}{new:List e.den}{src:Value}(Fe:Reads w okI e new src)(n:Nat):∃ys,DList (λx u=>DRep w okI e x u) (new.take n) ys/\ys.length=Nat.min new.length n*e.size/\(Builtin.lenOf src).run P w=.ok new.length w/\(Builtin.firstCells e.size (Nat.min new.length n) src).run P w=.ok ys.toArray w:=by
 obtain⟨A,c,ys,rfl,BD,EQ,hd,Dw⟩:=Fe;have HA:=hd.length;have Cf:=hd.take n;have Oe:=Cf.length;have Azm:(new.take n).length=Nat.min new.length n:=by rw[FR,Nat.min_comm]
 rw[Azm]at Oe
 have DD:ys.take (n*e.size)=ys.take (Nat.min new.length n*e.size):=by
  rcases Nat.le_total new.length n with h|h
  ·have:Nat.min new.length n=new.length:=Nat.min_eq_left h
   rw[this,<-HA,G0 (AC _),G0];rw[HA];exact KG _ h
  ·have:Nat.min new.length n=n:=Nat.min_eq_right h
   rw[this]
 refine⟨ys.take (n*e.size),Cf,Oe,by simp[Builtin.lenOf],?_⟩;cases A with
 |none=>
  have hy:ys=[]:=by
   cases ys with
   |nil=>rfl
   |cons y ys=>obtain⟨ad,ha,_⟩:=Dw 0 y rfl;cases ha
  subst hy;simp[Builtin.firstCells]
 |some ad=>
  have h:=run_loadCells_list (P:=P) w ad (ys.take (n*e.size)) (λj u hj=>by
   rw[LH]at hj;split at hj
   ·obtain⟨sR,ha,hc⟩:=Dw j u hj
    injection ha with ha;subst ha;exact hc
   ·cases hj)
  rw[Oe]at h;simpa [Builtin.firstCells]using h
theorem xW{w w':World}{a:Act}{x y:Operand}{c:Call}{t:TypeId}(ho:o.op=.call c)(hc:c.callee=.builtin .copy)(ha:c.args.toList=[x,y])(ht:c.argTypes.toList=[t,t]){v:Value}(h:(Builtin.copy_ #[t,t] o.type #[a.eval x,a.eval y]).run P w=.ok v w'):(execOp a.eval o).run P w=.ok (.value v) w':=by
 have h1:c.args=#[x,y]:=by rw[<-Gg (xs:=c.args),ha]
 have h2:c.argTypes=#[t,t]:=by rw[<-Gg (xs:=c.argTypes),ht]
 simp[execOp,ho,resolve,hc,h1,h2,invoke,builtin,h]
theorem xX{te:TI}{t et:TypeId}{inf:TypeInfo}{d':TypeDesc}{z:Value}(fe:TFacts P et te inf d' z)(hu:P.underlying t=some (.slice et)){e:Ty}(GM:e.size=te.size){E:Env}{base:Nat}{t0:TypeId}{l new:List e.den}{sv:Value}{xs:List Value}(hd:DList (λx u=>DRep E.w E.ok e x u) l xs)(Ak:E.w.ownsRow base t0 e.size sv l.length xs){src:Value}(Fe:Reads E.w E.ok e new src){i d:Nat}(hid:i+d<=l.length){A:Option Addr}{cd:Nat}(hA:0<d->∃g n c,sv=.slice (some ⟨g,0,none⟩) n c/\A=some ⟨g,i*e.size,none⟩)(ty:TypeId):∃w' Dk,(Builtin.copy_ #[t,t] ty #[.slice A d cd,src]).run P E.w=.ok (.int .i64 ((Nat.min new.length d:Nat):Int)) w'/\E.w.grownBy w' sv.ownBlock/\DList (λx u=>DRep E.w E.ok e x u) (l.take i++(new.take d++l.drop (i+Nat.min new.length d))) Dk/\w'.ownsRow base t0 e.size sv l.length Dk:=by
 obtain⟨ys,aI,HA,Bb,aK⟩:=AkH (P:=P) Fe d;have EJ:=hd.length;have Jk:=aI.oneCell;have hn:Nat.min new.length d<=d:=Nat.min_le_right _ _;have Cf:DList (λx u=>DRep E.w E.ok e x u) (l.take i++(new.take d++l.drop (i+Nat.min new.length d))) (xs.take (i*e.size)++(ys++xs.drop ((i+Nat.min new.length d)*e.size))):=(hd.take i).append (aI.append (hd.drop _));have C3:(sizeOf et).run P E.w=.ok e.size E.w:=by rw[GM];exact run_sizeOf fe E.w
 rcases V7 d with h0|h0
 ·subst h0
  have hm:Nat.min new.length 0=0:=Nat.min_eq_right (DM _);rw[hm]at HA aK;have hy:ys=[]:=Ik (by simpa using HA);subst hy;refine⟨E.w,xs,?_,⟨rfl,rfl,rfl,AC _,λ_ _ _=>rfl⟩,?_,Ak⟩
  ·cases A with
   |none=>simp[Builtin.copy_,run_underlying hu,Bb,hm,C3,aK,goInt]
   |some ad=>simp[Builtin.copy_,run_underlying hu,Bb,hm,C3,aK,goInt,storeCells]
  ·have h3:l.take i++(new.take 0++l.drop (i+Nat.min new.length 0))=l:=by rw[hm];simp
   rw[h3];exact hd
 ·obtain⟨g,n,c,Aq,rfl⟩:=hA h0
  have BD:i*e.size+ys.length<=xs.length:=by rw[HA,EJ,<-IJ];exact KG _ (by omega)
  obtain⟨w',B5,hg,JE⟩:=xV (P:=P) Ak (o:=i*e.size) Aq Jk BD;refine⟨w',_,?_,by rw[Aq];exact hg,Cf,?_⟩
  ·simp[Builtin.copy_,run_underlying hu,Bb,C3,aK,goInt,B5]
  ·have:xs.take (i*e.size)++(ys++xs.drop ((i+Nat.min new.length d)*e.size))=xs.take (i*e.size)++ys++xs.drop (i*e.size+ys.length):=by rw[HA,<-IJ,Cw]
   rw[this];exact JE
theorem AkI{T:TypeId->Option TI}(hT:TOk P T){kk:K β}{c:Call}(ho:o.op=.call c)(hc:c.callee=.builtin .copy){x y:Operand}{t:TypeId}(ha:c.args.toList=[x,y])(BW:c.argTypes.toList=[t,t])(hk:dE T bl t (ρ x) (ρ y) kk=some r):Sound P o ρ bl kk r:=by
 have Bg:c.args=#[x,y]:=by rw[<-Gg (xs:=c.args),ha]
 have BP:x∈o.op.operands:=by simp[ho,Op.operands,Call.operands,Bg]
 have DT:y∈o.op.operands:=by simp[ho,Op.operands,Call.operands,Bg]
 unfold dE at hk;split at hk
 ·cases hk
 rename_i ti ht;obtain⟨i,d,z,f⟩:=hT.facts ht;split at hk
 ·rename_i et Ck Cr
  have hd:=Gk f Ck Cr;subst hd;split at hk
  ·cases hk
  rename_i te BE;obtain⟨i',d',z',fe⟩:=hT.facts BE;split at hk
  ·cases hk
  rename_i e Qt;cases hs:(Nat.beq e.size te.size&&Nat.blt 0 te.size)with
  |false=>rw[hs]at hk;cases hk
  |true=>
   obtain⟨Bk,AS⟩:=andB hs;have Bk:=As Bk;simp only[hs,Am]at hk;split at hk
   ·cases hk
   rename_i new rd Fe;split at hk
   ·
    rename_i b ver lo hi hx;split at hk
    ·rename_i t0 e0 ver' l hb
     cases AP:Nat.beq ver ver' with
     |false=>rw[AP]at hk;cases hk
     |true=>
      have:=As AP;subst this;simp only[AP,Am]at hk;split at hk
      ·rename_i he
       subst he;refine⟨_,_,_,hk,λAa Ah=>?_⟩;have Aw:Aa b=some (.row t0 e0 ver l):=(Ah b (by simp)).trans hb;intro ok0 base pl w a hr Ae K Q hK;have hv:=Ae x BP;rw[hx]at hv;obtain⟨_,sv,Ab,hg,AT⟩:=hv;obtain⟨q1,q2,A,A',n,cc,Aq,Bm,hA,_⟩:=(AT t0 e0 ver l Aw).2 rfl;obtain⟨p,hp,hB⟩:=hr.blks b _ Aw;have:p=.row sv Ab:=by have h2:pl b=some (.row sv Ab):=hg;rw[hp]at h2;injection h2
       subst this;obtain⟨h0,xs,Cs,Ak⟩:=hB;subst h0;have Fc:Reads w (Al ok0 base pl Aa w).ok e0 new (a.eval y):=Pn hr.blksOk Fe (λb hb B hB=>(Ah b (by simp[hb])).trans hB) (Ae y DT)
       obtain⟨w',Dk,AA,CR,Cf,Dy⟩:=xX fe f.under Bk (E:=Al ok0 base pl Aa w) Cs Ak Fc (i:=lo) (d:=hi-lo) (by omega) (A:=A') (cd:=cc-lo) (λHn=>by
        have hA:=hA (by omega);rcases Ak.2 with⟨CY,hn⟩|⟨g,cap,AQ,CY,_⟩
        ·omega
        ·rw[Aq]at CY
         injection CY with e1 _ _;subst e1;refine⟨g,n,cc,Aq,?_⟩;rw[hA];simp[Addr.add_lit]) o.type
       have AP:ver<=ver/\(ver=ver->sv=sv/\(l.take lo++(new.take (hi-lo)++l.drop (lo+Nat.min new.length (hi-lo)))).length=l.length):=⟨AC _,λ_=>⟨rfl,by have h1:Nat.min new.length (hi-lo)=min (hi-lo) new.length:=Nat.min_comm _ _;simp only[AE,FR,Il,h1];omega⟩⟩
       have B5:=Step.grown hr Aw hp CR (.inl rfl) AP;have Gb:=B5.ext (ok0:=ok0) (base:=base);refine Hc (xW ho hc ha BW (by rw[Bm];exact AA)) (hK _ (upd pl b (.row sv [])) w' ?_ B5 rfl);exact RelB.grown hr Aw hp CR (.inl rfl) AP ⟨rfl,Dk,Cf.mono λx u hu=>hu.mono Gb.heap,by rw[(AP.2 rfl).2];exact Dy⟩
      ·cases hk
    ·cases hk
   ·
    rename_i b ver hx;split at hk
    ·rename_i t0 e0 ver' l hb
     cases AP:Nat.beq ver ver' with
     |false=>rw[AP]at hk;cases hk
     |true=>
      have:=As AP;subst this;simp only[AP,Am]at hk;split at hk
      ·rename_i he
       subst he;refine⟨_,_,_,hk,λAa Ah=>?_⟩;have Aw:Aa b=some (.row t0 e0 ver l):=(Ah b (by simp)).trans hb;intro ok0 base pl w a hr Ae K Q hK;have hv:=Ae x BP;rw[hx]at hv;obtain⟨_,sv,Ab,hg,AT⟩:=hv;have Bm:=(AT t0 e0 ver l Aw).2 rfl;obtain⟨p,hp,hB⟩:=hr.blks b _ Aw;have:p=.row sv Ab:=by have h2:pl b=some (.row sv Ab):=hg;rw[hp]at h2;injection h2
       subst this;obtain⟨h0,xs,Cs,Ak⟩:=hB;subst h0;have Fc:Reads w (Al ok0 base pl Aa w).ok e0 new (a.eval y):=Pn hr.blksOk Fe (λb hb B hB=>(Ah b (by simp[hb])).trans hB) (Ae y DT)
       obtain⟨A,cc,Aq,hA⟩:∃A cc,sv=.slice A l.length cc/\(0<l.length->∃g n c,sv=.slice (some ⟨g,0,none⟩) n c/\A=some ⟨g,0*e0.size,none⟩):=by
        rcases Ak.2 with⟨CY,hn⟩|⟨g,cap,AQ,CY,_⟩
        ·exact⟨none,0,by rw[CY,hn],λh=>by omega⟩
        ·exact⟨_,cap,CY,λ_=>⟨g,_,_,CY,by simp⟩⟩
       obtain⟨w',Dk,AA,CR,Cf,Dy⟩:=xX fe f.under Bk (E:=Al ok0 base pl Aa w) Cs Ak Fc (i:=0) (d:=l.length) (by omega) (A:=A) (cd:=cc) hA o.type;simp only[List.take_zero,Gi,DL]at Cf
       have AP:ver<=ver/\(ver=ver->sv=sv/\(new.take l.length++l.drop (Nat.min new.length l.length)).length=l.length):=⟨AC _,λ_=>⟨rfl,by have h1:Nat.min new.length l.length=min l.length new.length:=Nat.min_comm _ _;simp only[AE,FR,Il,h1];omega⟩⟩
       have B5:=Step.grown hr Aw hp CR (.inl rfl) AP;have Gb:=B5.ext (ok0:=ok0) (base:=base);refine Hc (xW ho hc ha BW (by rw[Bm,Aq];exact AA)) (hK _ (upd pl b (.row sv [])) w' ?_ B5 rfl);exact RelB.grown hr Aw hp CR (.inl rfl) AP ⟨rfl,Dk,Cf.mono λx u hu=>hu.mono Gb.heap,by rw[(AP.2 rfl).2];exact Dy⟩
      ·cases hk
    ·cases hk
   ·cases hk
 ·cases hk
theorem xY{w:World}{ok:Nat->Prop}{k:IntKind}:∀{l:List Int}{ys:List Value},DList (λ(x:(Ty.int k).den) u=>DRep w ok (.int k) x u) l ys->ys=l.map (Value.int k)
 |[],_,h=>by simp only[DList]at h;subst h;rfl
 |n::l,_,⟨u,v,e1,hr,ht⟩=>by have hu:u=[.int k n]:=hr;subst e1 hu;rw[xY ht];rfl
theorem AkJ{T:TypeId->Option TI}(hT:TOk P T){kk:K β}{s t:TypeId}{x:Operand}(ho:o.op=.convert s t x){si ti:TI}(hs:T s=some si)(ht:T t=some ti)(hk:dP T bl si ti (ρ x) kk=some r):Sound P o ρ bl kk r:=by
 obtain⟨i,d,z,f⟩:=hT.facts ht;obtain⟨i',d',z',f'⟩:=hT.facts hs;unfold dP at hk;split at hk
 ·rename_i et Ck Cr
  have hd:=Gk f' Ck Cr;subst hd;split at hk
  ·cases hk
  rename_i te BE;obtain⟨i2,d2,z2,fe⟩:=hT.facts BE;split at hk
  ·rename_i Lv
   have he:d2=.int .u8:=by rw[fe.kind]at Lv;cases d2<;>simp_all [Pj]
   subst he;cases I7:ti.isStr with
   |false=>rw[I7]at hk;cases hk
   |true=>
    have hd:=R0 f I7;subst hd;simp only[I7,Am]at hk;split at hk
    ·rename_i l rd Fe
     refine Sound.pure hk λAa Ah ok0 base pl w a hr Ae=>⟨.string ⟨(Hu l).toArray⟩,?_,rfl⟩;have Fc:Reads w (Al ok0 base pl Aa w).ok (.int .u8) l (a.eval x):=Pn hr.blksOk Fe (λb hb B hB=>(Ah b (by simpa using hb)).trans hB) (Ae x (by simp[ho,Op.operands]));obtain⟨A,c,ys,hv,_,_,Mx,Dw⟩:=Fc;have AAd:=xY Mx;subst AAd
     have AyF:(convert s t (a.eval x)).run P w=.ok (.string ⟨(Hu l).toArray⟩) w:=by
      rw[hv,run_convert_bytes_string w s t et A _ c f'.under fe.under f.under];cases A with
      |none=>
       have:l=[]:=by
        cases l with
        |nil=>rfl
        |cons n l=>obtain⟨ad,h,_⟩:=Dw 0 _ rfl;cases h
       subst this;rfl
      |some ad=>
       have tV:(loadCells ad l.length).run P w=.ok (l.map (Value.int .u8)).toArray w:=by
        have:=run_loadCells_list (P:=P) w ad (l.map (Value.int .u8)) (λj v hj=>by obtain⟨sR,h,h2⟩:=Dw j v hj;injection h with h;subst h;exact h2)
        simpa using this
       rw[run_bytesToString w ad l.length c l tV,foldl_push_bytes];congr 2;simp[Hu,ByteArray.empty,ByteArray.emptyWithCapacity];rfl
     simp[execOp,ho,AyF]
    ·cases hk
  ·cases hk
 ·cases hk
end
end Go.Lift
namespace Go.Lift
open Go.RowKit
section
variable{β:Type}{r:β}{P:Program}{o:Oper}{ρ:Operand->V}{bl:Nat->Option Blk}
theorem xZ(z:Array Value)(hz:0<z.size)(n:Nat):(Builtin.zeroCells z n).toList=repL n z.toList:=R4 z hz n
theorem AkK{T:TypeId->Option TI}(hT:TOk P T){kk:K β}{c:Call}(ho:o.op=.call c)(hc:c.callee=.builtin .clear){x:Operand}{t:TypeId}(ha:c.args.toList=[x])(BW:c.argTypes.toList=[t])(hk:dF T bl t (ρ x) kk=some r):Sound P o ρ bl kk r:=by
 have Bg:c.args=#[x]:=by rw[<-Gg (xs:=c.args),ha]
 have UT:c.argTypes=#[t]:=by rw[<-Gg (xs:=c.argTypes),BW]
 have BP:x∈o.op.operands:=by simp[ho,Op.operands,Call.operands,Bg]
 unfold dF at hk;split at hk
 ·cases hk
 rename_i ti ht;obtain⟨i,d,z,f⟩:=hT.facts ht;split at hk
 ·rename_i et Ck Cr
  have hd:=Gk f Ck Cr;subst hd;have hu:=f.under;split at hk
  ·cases hk
  rename_i te BE;obtain⟨i',d',z',fe⟩:=hT.facts BE;split at hk
  ·cases hk
  rename_i e Qt;cases hs:(Nat.beq e.size te.size&&Nat.blt 0 te.size)with
  |false=>rw[hs]at hk;cases hk
  |true=>
   obtain⟨Bk,AS⟩:=andB hs;have Bk:=As Bk;have AS:=D8 AS;simp only[hs,Am]at hk;split at hk
   ·cases hk
   rename_i z0 Ig;split at hk
   ·rename_i b ver lo hi hx
    split at hk
    ·rename_i t0 e0 ver' l hb
     cases AP:Nat.beq ver ver' with
     |false=>rw[AP]at hk;cases hk
     |true=>
      have:=As AP;subst this;simp only[AP,Am]at hk;split at hk
      ·rename_i he
       subst he;refine⟨_,_,_,hk,λAa Ah=>?_⟩;have Aw:Aa b=some (.row t0 e0 ver l):=(Ah b (by simp)).trans hb;intro ok0 base pl w a hr Ae K Q hK;have hv:=Ae x BP;rw[hx]at hv;obtain⟨_,sv,Ab,hg,AT⟩:=hv;obtain⟨q1,q2,A,A',n,cc,Aq,Bm,hA,_⟩:=(AT t0 e0 ver l Aw).2 rfl;obtain⟨p,hp,hB⟩:=hr.blks b _ Aw;have:p=.row sv Ab:=by have h2:pl b=some (.row sv Ab):=hg;rw[hp]at h2;injection h2
       subst this;obtain⟨h0,xs,Cs,Ak⟩:=hB;subst h0
       have HB:z'.cells.size=te.size:=by have:=fe.len;rw[G3]at this;rw[this,fe.size]
       have Vb:DRep w (Al ok0 base pl Aa w).ok e0 z0 z'.cells.toList:=Na hr.blksOk (Rows.none _ _) (by rw[fe.zeroC];exact LP fe.one) Ig;have K8:DList (λx u=>DRep w (Al ok0 base pl Aa w).ok e0 x u) (List.replicate (hi-lo) z0) (repL (hi-lo) z'.cells.toList):=DList.rep Vb _;have HA:=K8.length;simp only[LF]at HA;have Jk:=K8.oneCell;have EJ:=Cs.length;have M0:(l.take lo++(List.replicate (hi-lo) z0++l.drop hi)).length=l.length:=by simp;omega
       have AP:ver<=ver/\(ver=ver->sv=sv/\(l.take lo++(List.replicate (hi-lo) z0++l.drop hi)).length=l.length):=⟨AC _,λ_=>⟨rfl,M0⟩⟩;have v6:∀w,(zeroValue et).run P w=.ok z' w:=λw=>by simp[zeroValue,typeInfo,fe.info,fe.zero]
       have AA:∃w' Dk,(Builtin.clear_ #[t] o.type #[a.eval x]).run P w=.ok (.tuple #[]) w'/\w.grownBy w' sv.ownBlock/\
         DList (λx u=>DRep w (Al ok0 base pl Aa w).ok e0 x u) (l.take lo++(List.replicate (hi-lo) z0++l.drop hi)) Dk/\w'.ownsRow base t0 e0.size sv l.length Dk:=by
        rcases V7 (hi-lo)with h0|h0
        ·refine⟨w,xs,?_,⟨rfl,rfl,rfl,AC _,λ_ _ _=>rfl⟩,?_,Ak⟩
         ·rw[Bm,h0]
          cases A'<;>simp[Builtin.clear_,run_underlying hu]
         ·have h3:l.take lo++(List.replicate (hi-lo) z0++l.drop hi)=l:=by rw[h0,show hi=lo by omega];simp
          rw[h3];exact Cs
        ·have hA:=hA (by omega)
         rcases Ak.2 with⟨CY,hn⟩|⟨g,cap,AQ,CY,_⟩
         ·omega
         ·have hAg:A=some ⟨g,0,none⟩:=by rw[Aq]at CY;injection CY
          subst hAg
          have BD:lo*e0.size+(repL (hi-lo) z'.cells.toList).length<=xs.length:=by rw[HA,EJ,<-IJ];exact KG _ (by omega)
          obtain⟨w',B5,AyZ,JE⟩:=xV (P:=P) (w:=w) (base:=base) Ak (o:=lo*e0.size) Aq Jk BD;refine⟨w',_,?_,by rw[Aq];exact AyZ,(Cs.take lo).append (K8.append (Cs.drop hi)),?_⟩
          ·obtain⟨m,hm⟩:∃m,hi-lo=m+1:=⟨hi-lo-1,by omega⟩
           rw[Bm,hA,hm];rw[hm]at B5;have hz:=xZ z'.cells (by omega) (m+1);have NL:(Addr.mk g 0 none).add (lo*e0.size)=⟨g,lo*e0.size,none⟩:=by simp[Addr.add_lit]
           simp only[EM,NL];simp only[Builtin.clear_,run_underlying hu,v6,hz,Sem.run_bind,Result.andThen_ok,V4,D1,Sem.run_pure];rw[B5];rfl
          ·have h4:xs.take (lo*e0.size)++(repL (hi-lo) z'.cells.toList++xs.drop (hi*e0.size))=xs.take (lo*e0.size)++repL (hi-lo) z'.cells.toList++xs.drop (lo*e0.size+(repL (hi-lo) z'.cells.toList).length):=by rw[HA,<-IJ,Cw,show lo+(hi-lo)=hi by omega]
           rw[h4];exact JE
       obtain⟨w',Dk,AA,CR,Cf,Dy⟩:=AA;have B5:=Step.grown hr Aw hp CR (.inl rfl) AP;have Gb:=B5.ext (ok0:=ok0) (base:=base)
       have Ky:(execOp a.eval o).run P w=.ok (.value (.tuple #[])) w':=by simp[execOp,ho,resolve,hc,Bg,UT,invoke,builtin,AA]
       refine Hc Ky (hK _ (upd pl b (.row sv [])) w' ?_ B5 ⟨[],rfl,rfl⟩);exact RelB.grown hr Aw hp CR (.inl rfl) AP ⟨rfl,Dk,Cf.mono λx u hu=>hu.mono Gb.heap,by rw[(AP.2 rfl).2];exact Dy⟩
      ·cases hk
    ·cases hk
   ·cases hk
 ·cases hk
theorem AkL{T:TypeId->Option TI}(hT:TOk P T){kk:K β}{c:Call}(ho:o.op=.call c)(hc:c.callee=.builtin .cap){x:Operand}{t:TypeId}(ha:c.args.toList=[x])(BW:c.argTypes.toList=[t])(hk:dG T t (ρ x) kk=some r):Sound P o ρ bl kk r:=by
 have Bg:c.args=#[x]:=by rw[<-Gg (xs:=c.args),ha]
 have UT:c.argTypes=#[t]:=by rw[<-Gg (xs:=c.argTypes),BW]
 have BP:x∈o.op.operands:=by simp[ho,Op.operands,Call.operands,Bg]
 unfold dG at hk;split at hk
 ·cases hk
 rename_i ti ht;obtain⟨i,d,z,f⟩:=hT.facts ht;split at hk
 ·rename_i et Ck Cr hx
  have hd:=Gk f Ck Cr;subst hd;have hu:=f.under;refine Sound.pure hk λAa Ah ok0 base pl w a hr Ae=>⟨.int .i64 0,?_,rfl⟩;have hv:=Ae x BP;rw[hx]at hv;have hv:a.eval x=.slice none 0 0:=hv;simp[execOp,ho,resolve,hc,Bg,UT,invoke,builtin,Builtin.cap_,run_underlying hu,hv,goInt]
 ·cases hk
theorem AkM{T:TypeId->Option TI}(hT:TOk P T){kk:K β}{t:TypeId}{x:Operand}{hi:Option Operand}(ho:o.op=.slice t x none hi none)(hk:cW T bl t (ρ x) (hi.map ρ) kk=some r):Sound P o ρ bl kk r:=by
 have BP:x∈o.op.operands:=by simp[ho,Op.operands]
 have NU:∀y,hi=some y->y∈o.op.operands:=by rintro y rfl;simp[ho,Op.operands]
 unfold cW at hk;split at hk
 ·cases hk
 rename_i ti ht;obtain⟨i,d,z,f⟩:=hT.facts ht;have hu:=f.under;split at hk
 ·rename_i et Ck Cr
  have hd:=Gk f Ck Cr;subst hd;split at hk
  ·cases hk
  rename_i te BE;obtain⟨i',d',z',fe⟩:=hT.facts BE;split at hk
  ·rename_i b ver hx
   split at hk
   ·rename_i t0 e ver' l hb
    cases hs:(Nat.beq ver ver'&&(Nat.beq e.size te.size&&Nat.blt 0 te.size))with
    |false=>rw[hs]at hk;cases hk
    |true=>
     obtain⟨AP,L2⟩:=andB hs;obtain⟨Bk,AS⟩:=andB L2;have Bk:=As Bk;have:=As AP;subst this;simp only[hs,Am]at hk;split at hk
     ·rename_i n hn
      obtain⟨hc,hk⟩:=D2 hk;obtain⟨c2,c3⟩:=andB hc;have c2:=AV c2;have c3:=AV c3;refine⟨_,_,_,hk,λAa Ah=>?_⟩;have Aw:Aa b=some (.row t0 e ver l):=(Ah b (by simp)).trans hb;intro ok0 base pl w a hr Ae K Q hK;have h1:=Ae x BP;rw[hx]at h1;obtain⟨_,sv,Ab,hg,AT⟩:=h1;have Bm:=(AT t0 e ver l Aw).2 rfl;obtain⟨p,hp,hB⟩:=hr.blks b _ Aw;have:p=.row sv Ab:=by have h2:pl b=some (.row sv Ab):=hg;rw[hp]at h2;injection h2
      subst this;obtain⟨h0,xs,Cs,Ak⟩:=hB;subst h0
      obtain⟨A,cc,Aq,BD⟩:∃A cc,sv=.slice A l.length cc/\l.length<=cc:=by
       rcases Ak.2 with⟨Aq,hn⟩|⟨g,cap,AQ,Aq,_,_,ES,_⟩
       ·exact⟨none,0,by rw[Aq,hn],by omega⟩
       ·exact⟨_,cap,Aq,ES⟩
      have Du:=Nf (P:=P) (isSl:=true) (len:=l.length) (cap:=cc) (m:=0) (lo:=none) (.inl ⟨rfl,rfl⟩) (Jq hn λy hy=>Ae y (NU y hy)) (OQ 0) c2 (by omega) w
      have Hl:(if cc=0 then A else A.map (·.add 0))=A:=by
       split
       ·rfl
       ·cases A<;>simp[Addr.add]
      have Ky:(execOp a.eval o).run P w=.ok (.value (.slice A n.toNat cc)) w:=by have Ayt:(Instr.sliceBounds true l.length cc none (hi.map a.eval) none).run P w=.ok (0,n.toNat,cc) w:=Du;simp[execOp,ho,Instr.sliceAt,run_underlying hu,Instr.slice,Bm,Aq,Ayt,run_sizeOf fe];cases A<;>simp[Addr.add]
      have K1:n.toNat<=l.length:=by omega
      have AiL:(l.take n.toNat).length=n.toNat:=by simp;omega
      have Dy:w.ownsRow base t0 e.size (.slice A n.toNat cc) n.toNat (xs.take (n.toNat*e.size)):=by
       have EJ:=Cs.length;refine⟨by rw[FR,EJ];exact Nat.min_eq_left (KG _ K1),?_⟩;rcases Ak.2 with⟨CY,I4⟩|⟨g,cap,AQ,CY,BR,hh,ES,EQ,CH,If⟩
       ·rw[Aq]at CY
        injection CY with e1 e2 e3;exact .inl ⟨by rw[e1,e3];congr 1;omega,by omega⟩
       ·have q:=Aq.symm.trans CY
        injection q with e1 e2 e3;exact .inr ⟨g,cap,AQ,by rw[e1,e3],BR,hh,by omega,EQ,CH,by rw[<-If,List.take_take,Nat.min_eq_left (KG _ K1)]⟩
      have CR:w.grownBy w sv.ownBlock:=⟨rfl,rfl,rfl,AC _,λ_ _ _=>rfl⟩;have F5:(Value.slice A n.toNat cc).ownBlock=sv.ownBlock\/∀g,(Value.slice A n.toNat cc).ownBlock=some g->w.heap.size<=g:=.inl (by rw[Aq];cases A<;>rfl);have AP:ver<=ver+1/\(ver=ver+1->(Value.slice A n.toNat cc)=sv/\(l.take n.toNat).length=l.length):=⟨Nat.le_succ _,λh=>by omega⟩;have B5:=Step.grown (l':=l.take n.toNat) hr Aw hp CR F5 AP;have Gb:=B5.ext (ok0:=ok0) (base:=base);have hR:=RelB.grown hr Aw hp CR F5 AP ⟨rfl,xs.take (n.toNat*e.size),(Cs.take n.toNat).mono λx u hu=>hu.mono Gb.heap,by rw[AiL];exact Dy⟩;refine Hc Ky (hK _ (upd pl b (.row (.slice A n.toNat cc) [])) w hR B5 ⟨rfl,.slice A n.toNat cc,[],by simp[Al,upd],λt1 e1 Ij l2 tA=>?_⟩);have Du:upd Aa b (.row t0 e (ver+1) (l.take n.toNat)) b=some (.row t1 e1 Ij l2):=tA;simp[upd]at Du;exact⟨by omega,λ_=>rfl⟩
     ·cases hk
   ·cases hk
  ·cases hk
 ·cases hk
theorem AkN{w:World}{t u ty et:TypeId}{te:TI}{i:TypeInfo}{d:TypeDesc}{z:Value}{k ki:IntKind}(fe:TFacts P et te i d z)(ht:P.underlying t=some (.slice et))(hu:P.underlying u=some (.int k)){m:Nat}(h0:0<m)(FM:0<te.bytes)(hb:m*te.bytes<=Bt)(Hn:0<te.size):(Builtin.append_ #[t,u] ty #[.slice none 0 0,.int ki (m:Int)]).run P w=.ok (.slice (some ⟨w.heap.size,0,none⟩) m (grownCap w m 0 et)) (w.drew.alloc (.cells (Builtin.zeroCells z.cells m++Builtin.zeroCells z.cells (grownCap w m 0 et-m)) et)):=by
 have hm:m<=140737488355328:=by have h1:m*1<=m*te.bytes:=Nat.mul_le_mul_left _ FM;simp only[Bt]at hb;omega
 have Ah:m*i.bytes<=140737488355328:=by rw[<-fe.bytes];exact hb
 have uY:IntKind.i64.wrap (m:Int)=m:=by simp[IntKind.wrap,IntKind.bits,IntKind.signed];omega
 have hn:m≠0:=by omega
 have C3:¬i.size=0:=by rw[<-fe.size];omega
 have Azo:¬m*i.size=0:=by rw[Nat.mul_eq_zero];omega
 have Ayq:¬(9223372036854775807<(m:Int)):=by omega
 have Azn:((m:Int)*(i.bytes:Int))=((m*i.bytes:Nat):Int):=by simp
 have NK:¬(281474976710656<(m:Int)*(i.bytes:Int)):=by rw[Azn];omega
 have Ayp:¬(281474976710656<Builtin.nextslicecap m 0*i.bytes):=by rw[nextslicecap_zero h0];omega
 have tY:¬((m:Int)<0):=by omega
 simp[Builtin.append_,run_underlying ht,run_underlying hu,sizeOf,typeInfo,zeroValue,fe.info,fe.zero,asInt,asIntOf,uY,tY,NK,hn,Ayq,Ayp,Question.forced,run_firstCells_none,newRow,grownCap];exact λh=>absurd h Azo
theorem AkO{T:TypeId->Option TI}(hT:TOk P T){kk:K β}{c:Call}(ho:o.op=.call c)(hc:c.callee=.builtin .append){x y:Operand}{t u:TypeId}{nx:Nat}(ha:c.args.toList=[x,y])(BW:c.argTypes.toList=[t,u])(hk:dK T bl nx t u (ρ x) (ρ y) kk=some r):Sound P o ρ bl kk r:=by
 have Bg:c.args=#[x,y]:=by rw[<-Gg (xs:=c.args),ha]
 have UT:c.argTypes=#[t,u]:=by rw[<-Gg (xs:=c.argTypes),BW]
 have BP:x∈o.op.operands:=by simp[ho,Op.operands,Call.operands,Bg]
 have DT:y∈o.op.operands:=by simp[ho,Op.operands,Call.operands,Bg]
 unfold dK at hk;split at hk
 ·rename_i ti tu ki m AA2 AA3 hm
  obtain⟨i,d,z,f⟩:=hT.facts AA2;obtain⟨i2,d2,z2,f2⟩:=hT.facts AA3;split at hk
  ·rename_i hx
   split at hk
   ·rename_i et kd Ck Cr Lv
    have hd:=Gk f Ck Cr;subst hd
    obtain rfl:d2=.int kd:=by rw[f2.kind]at Lv;cases d2<;>simp_all [Pj]
    split at hk
    ·cases hk
    rename_i te BE;obtain⟨i',d',z',fe⟩:=hT.facts BE;split at hk
    ·cases hk
    rename_i e Qt;split at hk
    ·rename_i z0 Ig hn
     cases hs:(Nat.beq e.size te.size&&(Nat.blt 0 te.size&&Nat.blt 0 te.bytes))with
     |false=>rw[hs]at hk;cases hk
     |true=>
      obtain⟨Bk,JF⟩:=andB hs;obtain⟨AS,DS⟩:=andB JF;have Bk:=As Bk;have AS:=D8 AS;have DS:=D8 DS;simp only[hs,Am]at hk;obtain⟨Dz,hk⟩:=D2 hk;obtain⟨c1,c2⟩:=andB Dz;have c1:=AV c1;have c2:=AV c2;refine⟨_,_,_,hk,λAa Ah=>?_⟩;have CS:Aa nx=none:=(Ah nx (by simp)).trans hn;intro ok0 base pl w a hr Ae K Q hK;have hv:a.eval x=.slice none 0 0:=by have:=Ae x BP;rw[hx]at this;exact this
      have hy:a.eval y=.int ki m:=by have:=Ae y DT;rw[Nc hm]at this;exact this
      obtain⟨m,rfl⟩:∃q:Nat,m=(q:Int):=⟨m.toNat,by omega⟩;simp only[Bw]at c2 hk hK⊢
      have HB:z'.cells.size=te.size:=by have:=fe.len;rw[G3]at this;rw[this,fe.size]
      have Vb:DRep w (Al ok0 base pl Aa w).ok e z0 z'.cells.toList:=Na hr.blksOk (Rows.none _ _) (by rw[fe.zeroC];exact LP fe.one) Ig;have K8:DList (λx u=>DRep w (Al ok0 base pl Aa w).ok e x u) (List.replicate m z0) (repL m z'.cells.toList):=DList.rep Vb _;have HA:=K8.length;simp only[LF]at HA
      have AA:∃v' w',(Builtin.append_ #[t,u] o.type #[a.eval x,a.eval y]).run P w=.ok v' w'/\w.grownBy w' none/\w'.ownsRow w.heap.size et e.size v' m (repL m z'.cells.toList):=by
       rw[hv,hy];rcases V7 m with h0|h0
       ·subst h0
        refine⟨.slice none 0 0,w,?_,⟨rfl,rfl,rfl,AC _,λ_ _ _=>rfl⟩,World.ownsRow_nil w w.heap.size et e.size⟩;have uY:IntKind.i64.wrap (0:Int)=0:=by decide
        simp[Builtin.append_,run_underlying f.under,run_underlying f2.under,sizeOf,typeInfo,fe.info,asInt,asIntOf,uY]
       ·refine⟨_,_,AkN fe f.under f2.under h0 DS c2 AS,⟨rfl,rfl,rfl,by simp,λk hk _=>heap_alloc_old w.drew _ k hk⟩,HA,.inr ⟨w.heap.size,_,_,rfl,AC _,heap_alloc_new w.drew _,grownCap_ge w m 0 et,grownCap_le_maxLen w m 0 et ?_,?_,?_⟩⟩
        ·simp only[Bt,maxLen]at c2⊢
         have h1:m*1<=m*te.bytes:=Nat.mul_le_mul_left _ DS;omega
        ·have:=grownCap_ge w m 0 et
         simp only[Array.size_append,size_zeroCells,HB,Bk,<-IJ];congr 1;omega
        ·rw[Array.toList_append,xZ z'.cells (by omega) m,<-HA]
         exact VJ
      obtain⟨v',w',AA,U6,Ak⟩:=AA;have hp:∀g,(Pl.row v' []).has g->w.heap.size<=g:=λg hg=>(Ak.lt g (Pl.has_row hg)).1;have B5:Step pl Aa w (upd pl nx (.row v' [])) (upd Aa nx (.row et e 0 (List.replicate m z0))) w':=Step.new hr CS U6 hp;have Ky:(execOp a.eval o).run P w=.ok (.value v') w':=by simp[execOp,ho,resolve,hc,Bg,UT,invoke,builtin,AA]
      refine Hc Ky (hK v' (upd pl nx (.row v' [])) w' ?_ B5 ?_)
      ·refine RelB.new hr CS U6 hp ⟨rfl,repL m z'.cells.toList,K8.mono λx u hu=>hu.mono B5.ext.heap,?_⟩
       rw[LF];exact R2 Ak hr.baseLe
      ·refine⟨?_,v',[],by simp[Al,upd],λt1 e1 CD l1 h1=>?_⟩
       ·rcases Ak.2 with⟨rfl,_⟩|⟨g,cap,AQ,rfl,_⟩<;>rfl
       ·simp only[Al,updL,upd,Dn,Af]at h1
        injection h1 with q1 q2 q3 q4;subst q3;exact⟨AC _,λ_=>rfl⟩
    ·cases hk
   ·cases hk
  ·cases hk
 ·cases hk
end
end Go.Lift
namespace Go.Lift
open Go.RowKit
theorem LQ{f:Nat->Option Blk}:∀{l m:List (Nat×Blk)},updL f (l++m)=updL (updL f l) m
 |[],_=>rfl
 |(j,x)::l,m=>by simp only[Fw,updL];exact LQ
theorem Ws:∀{ids:List Nat}{f:Nat->Option Blk}{k:Nat},updL f (dead ids) k=if k∈ids then some .dead else f k
 |[],_,_=>by simp[dead,updL]
 |i::r,f,k=>by
  simp only[dead,updL];rw[Ws];by_cases h1:k∈r
  ·simp[h1]
  ·by_cases h2:k=i
   ·subst h2;simp[h1,upd]
   ·simp[h1,h2,upd]
theorem Hw{x:Nat}:∀{l:List Nat},memB x l=true↔x∈l
 |[]=>by simp[memB]
 |y::r=>by
  simp only[memB,KI,Hw (l:=r),Bf];constructor
  ·rintro(h|h)
   ·exact .inl (As h)
   ·exact .inr h
  ·rintro(h|h)
   ·subst h;exact .inl (MS x)
   ·exact .inr h
theorem Po:∀{l:List Nat},IK l=true->l.Nodup
 |[],_=>List.nodup_nil
 |x::r,h=>by obtain⟨h1,h2⟩:=andB h;refine KJ.2 ⟨λhm=>?_,Po h2⟩;have:=Hw.2 hm;rw[this]at h1;cases h1
structure Many (pl:Nat->Option Pl) (bl:Nat->Option Blk) (w:World) (Ai:Nat->Option Pl) (bl':Nat->Option Blk) (w':World) (ids:List Nat) (og:Option Nat):Prop where
 out:∀k,k∉ids->Ai k=pl k/\bl' k=bl k
 grown:w.grownBy w' og
 og:∀g,og=some g->∃i∈ids,Co pl bl i g
 new:∀k∈ids,∀g,Co Ai bl' k g->(∃i∈ids,Co pl bl i g)\/w.heap.size<=g
 sep:∀k∈ids,∀m∈ids,k≠m->∀g,Co Ai bl' k g->¬Co Ai bl' m g
 cells:∀k∈ids,∀g,pl k≠some (.cells g)
 rows:∀k∈ids,∀sv Ab,pl k=some (.row sv Ab)->∃AM Bl,Ai k=some (.row AM Bl)/\KeepR (bl k) (bl' k) sv Ab AM Bl
section
variable{P:Program}{ok0:OK0 P}{base:Nat}{pl Ai:Nat->Option Pl}{bl bl':Nat->Option Blk}{w w':World}{ids:List Nat}{og:Option Nat}
theorem Many.step(h:Many pl bl w Ai bl' w' ids og):Step pl bl w Ai bl' w':=by
 have hOwn:∀k g,Co pl bl k g->Own pl bl g:=λk g ⟨B,p,h1,h2,h3,h4⟩=>⟨k,B,p,h1,h2,h3,h4⟩;have hg:=h.grown;refine⟨hg.os,hg.tape,hg.output,hg.size,λg Ao ho=>⟨hg.block g Ao (λe=>?_),?_⟩,λb g hb=>?_,λb sv Ab hb=>?_⟩
 ·obtain⟨i,_,hi⟩:=h.og g e.symm
  exact ho (hOwn i g hi)
 ·rintro⟨k,C,q,hC,hl,hq,Bn⟩
  by_cases hk:k∈ids
  ·rcases h.new k hk g ⟨C,q,hC,hl,hq,Bn⟩with⟨i,_,hi⟩|hi
   ·exact ho (hOwn i g hi)
   ·omega
  ·obtain⟨h1,h2⟩:=h.out k hk
   rw[h2]at hC;rw[h1]at hq;exact ho ⟨k,C,q,hC,hl,hq,Bn⟩
 ·by_cases hk:b∈ids
  ·exact absurd hb (h.cells b hk g)
  ·rw[(h.out b hk).1];exact hb
 ·by_cases hk:b∈ids
  ·exact h.rows b hk sv Ab hb
  ·obtain⟨h1,h2⟩:=h.out b hk
   exact⟨sv,Ab,by rw[h1];exact hb,KeepR.of_eq (λC hC=>by rw[<-h2];exact hC) _ _⟩
theorem Many.rel(hr:RelB ok0 base pl bl w)(h:Many pl bl w Ai bl' w' ids og)(hB:∀k∈ids,∃B p,bl' k=some B/\Ai k=some p/\BRep (Al ok0 base Ai bl' w') B p):RelB ok0 base Ai bl' w':=by
 have hs:=h.step
 have Ly:∀k C q g,k∉ids->bl k=some C->C.live=true->pl k=some q->q.has g->w'.heap[g]?=w.heap[g]?/\∀m∈ids,¬Co Ai bl' m g:=by
  intro k C q g hk hC hl hq Bn;have Ao:g<w.heap.size:=Own.lt hr ⟨k,C,q,hC,hl,hq,Bn⟩;have Lw:∀m∈ids,¬Co pl bl m g:=λm hm ⟨B,p,h1,h2,h3,h4⟩=>hr.sep k m C B q p g (λe=>hk (e▸hm)) hC h1 hl h2 hq h3 Bn h4;refine⟨h.grown.block g Ao (λe=>?_),λm hm ho=>?_⟩
  ·obtain⟨i,hi,ho⟩:=h.og g e.symm
   exact Lw i hi ho
  ·rcases h.new m hm g ho with⟨i,hi,ho⟩|ho
   ·exact Lw i hi ho
   ·omega
 refine⟨Df hr.baseLe hs.size,λk C hC=>?_,λk m C D q r g I3 hC hD hlC hlD hq Bv Bn Q2=>?_,λk hk=>?_,hr.glob.out hs.size hs.out⟩
 ·by_cases hk:k∈ids
  ·obtain⟨B,p,h1,h2,h3⟩:=hB k hk
   rw[hC]at h1;injection h1 with h1;subst h1;exact⟨p,h2,h3⟩
  ·obtain⟨h1,h2⟩:=h.out k hk
   rw[h2]at hC;obtain⟨q,hq,hBq⟩:=hr.blks k C hC;refine⟨q,by rw[h1];exact hq,?_⟩;cases hl:C.live with
   |false=>cases C<;>first|exact trivial|simp[Blk.live]at hl
   |true=>exact BRep.mono hs.ext hBq λg Bn=>(Ly k C q g hk hC hl hq Bn).1
 ·by_cases hk:k∈ids
  ·by_cases hm:m∈ids
   ·exact h.sep k hk m hm I3 g ⟨C,q,hC,hlC,hq,Bn⟩ ⟨D,r,hD,hlD,Bv,Q2⟩
   ·obtain⟨h1,h2⟩:=h.out m hm
    rw[h2]at hD;rw[h1]at Bv;exact(Ly m D r g hm hD hlD Bv Q2).2 k hk ⟨C,q,hC,hlC,hq,Bn⟩
  ·obtain⟨h1,h2⟩:=h.out k hk
   rw[h2]at hC;rw[h1]at hq;by_cases hm:m∈ids
   ·exact(Ly k C q g hk hC hlC hq Bn).2 m hm ⟨D,r,hD,hlD,Bv,Q2⟩
   ·obtain⟨h3,h4⟩:=h.out m hm
    rw[h4]at hD;rw[h3]at Bv;exact hr.sep k m C D q r g I3 hC hD hlC hlD hq Bv Bn Q2
 ·by_cases hm:k∈ids
  ·obtain⟨B,p,h1,_⟩:=hB k hm
   rw[hk]at h1;cases h1
  ·obtain⟨h1,h2⟩:=h.out k hm
   rw[h2]at hk;rw[h1];exact hr.fresh k hk
end
abbrev KQ(s r:Value):Prop:=∀g,s.ownBlock=some g->r.ownBlock≠some g
def AkP(P:Program)(E:Env)(t ty et:TypeId)(bytes:Nat)(e:OT)(new:List e.ty.den)(u:Value)(Fu:List Value):Prop:=
 ∀(base:Nat)(v:Value)(n:Nat)(xs:List Value),base<=E.w.heap.size->E.w.ownsRow base et e.ty.size v n xs->(n+new.length)*bytes<=Bt->
  ∃v' w' ys,(Builtin.append_ #[t,t] ty #[v,u]).run P E.w=.ok v' w'/\w'.ownsRow base et e.ty.size v' (n+new.length) (xs++ys)/\E.w.grownBy w' v.ownBlock/\(v'.ownBlock=v.ownBlock\/v'.ownBlock=some E.w.heap.size)/\
   ∀hv,OL (λ_ x f F=>Owns E.w E.ok E.base hv e none x f F) 0 new ys Fu
section
variable{P:Program}{E E':Env}
theorem eP{bl:Nat->Option Blk}(hb:DN E){t ty et:TypeId}{te:TI}{i:TypeInfo}{d:TypeDesc}{z:Value}(fe:TFacts P et te i d z)(ht:P.underlying t=some (.slice et)){e:OT}(GM:e.ty.size=te.size)(Hn:0<te.size)(FM:0<te.bytes){y:V}{new:List e.ty.den}{rd dd:List Nat}(h:srcT bl et e y=some (new,rd,dd))(AO:∀b∈rd,E.bl b=bl b){u:Value}(hv:VRep E y u):∃Fu,AkP P E t ty et te.bytes e new u Fu/\Fu.Pairwise KQ/\(∀s∈Fu,∀g,s.ownBlock=some g->∃i∈dd,Co E.pl E.bl i g)/\dd.Nodup/\∀i∈dd,i∈rd/\∃B sv Ab,E.bl i=some B/\B.live=true/\E.pl i=some (.row sv Ab):=by
 unfold srcT at h;split at h
 ·split at h
  ·rename_i q hq
   simp only[Af,BC]at h;obtain⟨rfl,rfl,rfl⟩:=h;have Fc:=Pn hb (l:=q.1) (rd:=q.2) hq (λb Aw B hB=>(AO b Aw).trans hB) hv;refine⟨[],λbase v n xs Kv Ak Dz=>?_,by simp,by simp,by simp,by simp⟩;obtain⟨v',w',ys,h1,h2,h3,h4,h5⟩:=eN (P:=P) (ty:=ty) base fe ht GM Hn FM Ak Fc Dz Kv;exact⟨v',w',ys,h1,h2,h3,h4,λhv=>eE h5⟩
  ·cases h
 ·split at h
  ·rename_i r m hm
   split at h
   ·rename_i BW
    obtain⟨⟨m1,m2⟩,m3⟩:=m;simp only[BC]at BW;obtain⟨rfl,rfl⟩:=BW;simp only[Af,BC]at h;obtain⟨rfl,rfl,rfl⟩:=h;obtain⟨Ab,Fr,B,k1,k2,_,k3,k4,k5,k6⟩:=eF hb hm (AO r (by simp)) hv;have Hm:B.live=true:=by cases B<;>first|rfl|exact absurd rfl k2
    refine⟨Fr,λbase v n xs Kv Ak Dz=>?_,(Ha.1 k6).2,λs hs g hg=>⟨r,by simp,B,_,k1,Hm,k3,Nb k5 (by simp[hs]) hg⟩,by simp,λi hi=>?_⟩
    ·obtain⟨sv0,xs0,F0,e1,e2,o1,o2⟩:=k4 u
     have e1:=(JO e1).1;subst e1;have e2:=(JO e2).2;subst e2;have Ln:∀x∈xs0,x.oneCell'=true:=OL.all (λ_ _ _ _ h=>Owns.oneCell h) o2;have o1':E.w.ownsRow E.base m1 te.size u (List.length m3) xs0:=GM▸o1;obtain⟨v',w',h1,h2,h3,h4⟩:=AkG (P:=P) (ty:=ty) base fe ht Hn FM (GM▸Ak) o1' Ln Dz Kv;refine⟨v',w',xs0,h1,GM▸h2,h3,h4,λhv=>o2.mono λ_ _ _ _ _ h=>Owns.any h⟩
    ·simp only[E9]at hi
     subst hi;exact⟨by simp,B,u,Ab,k1,Hm,k3⟩
   ·cases h
  ·cases h
theorem eQ(hx:Ext E E')(BR:E'.base=E.base){et:TypeId}{e:OT}{l new:List e.ty.den}{v':Value}{Fn Fu xs ys:List Value}(hL:OL (λ_ x f F=>Owns E.w E.ok E.base v' e none x f F) 0 l xs Fn)(hN:OL (λ_ x f F=>Owns E.w E.ok E.base v' e none x f F) 0 new ys Fu)(HX:∀s∈Fn++Fu,∀g,s.ownBlock=some g->E'.w.heap[g]?=E.w.heap[g]?)(Ak:E'.w.ownsRow E.base et e.ty.size v' (l.length+new.length) (xs++ys))(Ie:(v'::(Fn++Fu)).Pairwise KQ):TreeOk E' et e none (l++new) v' ((Fn++Fu).map some):=by
 have hb:E'.base<=E.base:=by rw[BR];exact AC _
 refine⟨⟨v',Fn++Fu,⟨v',xs++ys,Fn++Fu,rfl,rfl,?_,?_⟩,rfl,Ie⟩,by simp⟩
 ·rw[BR,AE];exact Ak
 ·exact OL.append (λ_ _ _ _ _ h=>h) (hL.mono λ_ _ _ f hf h=>Owns.mono hb hx.heap (λs hs=>HX s (Dl _ (hf s hs))) h) (hN.mono λ_ _ _ f hf h=>Owns.mono hb hx.heap (λs hs=>HX s (D7 _ (hf s hs))) h)
theorem TreeOk.take{t:TypeId}{e:OT}{l:List e.ty.den}{sv:Value}{Ab:List (Option Value)}(hT:TreeOk E t e none l sv Ab){i0:Nat×Nat}{p:Path}{n:Ew}(hn:B3 (.r t e) l 0 (i0::p)=some n){v:Value}(hs:(some sv::Ab)[nix (.r t e) l 0 (i0::p)]?=some (some v)):∃Fn JI,Owns E.w E.ok E.base v (.r n.1.1 n.1.2) none n.2 [v] (v::Fn)/\(v::Fn).Pairwise KQ/\(∀s∈v::Fn,∀g,s.ownBlock=some g->(Pl.row sv Ab).has g)/\(∀g,(Pl.row sv JI).has g->(Pl.row sv Ab).has g/\∀s∈v::Fn,s.ownBlock≠some g)/\(∀c,KeepT c t e none (some (i0::p)) l l sv Ab JI)/\∀E',Ext E E'->E'.base=E.base->(∀g,(Pl.row sv JI).has g->E'.w.heap[g]?=E.w.heap[g]?)->TreeOk E' t e (some (i0::p)) l sv JI:=by
 obtain⟨s',Fn,G1,G2,_,h2,h3,h4,h5,h6,h7⟩:=hT.node hn;rw[hs]at h4;injection h4 with h4;injection h4 with h4;subst h4
 have Hn:0<G1.length:=by
  rw[h2];cases hx:(l:List e.ty.den)[i0.1]? with
  |none=>simp[B3,hx]at hn
  |some x=>simp only[nix,hx];omega
 obtain⟨A,hA⟩:∃A,G1=sv::A:=by
  cases G1 with
  |nil=>simp at Hn
  |cons a G1=>rw[Fw,CE]at h3;injection h3 with h3 _;injection h3 with h3;exact⟨G1,by rw[h3]⟩
 subst hA;have AyE:(v::Fn).length=cnt (.r n.1.1 n.1.2) n.2:=h5.cnt;have CX:∀s∈sv::A++(v::Fn++G2),∀g,s.ownBlock=some g->(Pl.row sv Ab).has g:=λs hs g hg=>Nb h3 hs hg
 have hH:∀g,(Pl.row sv (A.map some++(List.replicate (cnt (.r n.1.1 n.1.2) n.2) none++G2.map some))).has g->∃s∈sv::A++G2,s.ownBlock=some g:=λg h=>by
  rcases h with h|⟨j,s,hj,h⟩
  ·exact⟨sv,by simp,h⟩
  ·have:=CI hj
   simp only[Ci,Hb,Af,exists_eq_right,List.mem_replicate,reduceCtorEq,and_false,false_or]at this;exact⟨s,by simp only[Fw,Bf,Ci];exact .inr this,h⟩
 have AO:∀s,s∈sv::A++G2->s∈sv::A++(v::Fn++G2):=λs hs=>by simp only[Fw,Bf,Ci]at hs⊢;rcases hs with h|h|h<;>simp[h]
 have Ie:=GZ.1 h7;have Aiz:=GZ.1 Ie.2.1
 have Ayr:∀s∈sv::A++G2,∀r∈v::Fn,KQ s r:=λs hs r hr=>by
  rcases Ci.1 hs with h|h
  ·exact Ie.2.2 s h r (Dl _ hr)
  ·exact λg g1 g2=>Aiz.2.2 r hr s h g g2 g1
 refine⟨Fn,A.map some++(List.replicate (cnt (.r n.1.1 n.1.2) n.2) none++G2.map some),h5,Aiz.1,λs hs g hg=>CX s (by simp only[Ci];exact .inr (.inl hs)) g hg,λg h=>?_,λc q hq ho=>⟨λ_ h=>(by cases h),λn' DR=>⟨n',DR,rfl,rfl,λs hs=>?_⟩⟩,λE' hx Kv hh=>⟨⟨v,A++G2,?_,⟨n,sv::A,G2,hn,rfl,h2,rfl⟩,?_⟩,by simp⟩⟩
 ·obtain⟨s,hs,hg⟩:=hH g h
  exact⟨CX s (AO s hs) g hg,λr hr=>Ayr s hs r hr g hg⟩
 ·rw[h3]at hs
  have AL:¬((0:Nat)=0/\(i0::p)<+:q):=λh=>ho _ rfl h.2;rw[LJ,LJ]at hs;show((sv::A).map some++(List.replicate (cnt (.r n.1.1 n.1.2) n.2) none++G2.map some))[nix (.r t e) l 0 q]?=some (some s);rcases VO hn DR AL with h|h
  ·rw[<-h2]at h
   rw[GX (by simpa using h)]at hs⊢;exact hs
  ·rw[<-h2]at h
   rw[FG (by simp only[FJ];omega),FG (by simp only[FJ];omega)]at hs;rw[FG (by simp only[FJ];omega),FG (by simp only[FJ,LF];omega)];rw[<-hs,FJ,FJ,LF,AyE]
 ·have hb:E'.base<=E.base:=by rw[Kv];exact AC _
  exact Owns.mono hb hx.heap (λs hs g hg=>hh g (by
   rcases Ci.1 (show s∈(sv::A)++G2 from hs)with h|h
   ·rcases Bf.1 h with h|h
    ·exact .inl (h▸hg)
    ·obtain⟨j,hj⟩:=OI.1 h
     exact .inr ⟨j,s,by rw[GX (by simpa using(Eu.1 hj).1),FI,hj];rfl,hg⟩
   ·obtain⟨j,hj⟩:=OI.1 h
    refine .inr ⟨A.length+(cnt (.r n.1.1 n.1.2) n.2+j),s,?_,hg⟩;rw[FG (by simp),FG (by simp)];simp[hj])) h6
 ·rw[Fw]at h7
  show(sv::(A++G2)).Pairwise KQ;refine h7.sublist ?_;rw[<-Fw];exact List.Sublist.append (List.Sublist.refl _) (List.sublist_append_right _ _)
end
section
variable{P:Program}{o:Oper}{ρ:Operand->V}{bl:Nat->Option Blk}{β:Type}{r:β}
theorem eR{E:Env}{b ver:Nat}{t:TypeId}{e:OT}{Ag:Nat}{h:Option Path}{l:List e.ty.den}{v:Value}{Ab:List (Option Value)}(h1:v.oneCell'=true)(Be:E.pl b=some (.row v Ab))(Aj:E.bl b=some (.tree t e ver Ag h l)):VRep E (.c (.trow b ver [])) v:=by refine⟨h1,v,Ab,Be,λt1 e1 CD GR H8 l1 By=>?_⟩;rw[Aj]at By;injection By with By;injection By with q1 q2 q3 q4 q5 q6;subst q1 q2 q3 q4 q5;simp only[In]at q6;subst q6;exact⟨AC _,λ_ _=>⟨_,rfl,rfl⟩⟩
theorem y5{ok0:OK0 P}{base:Nat}{pl:Nat->Option Pl}{Aa:Nat->Option Blk}{w w':World}(hr:RelB ok0 base pl Aa w){nx:Nat}(CS:Aa nx=none){dd:List Nat}{Fu:List Value}(q2:Fu.Pairwise KQ)(q3:∀s∈Fu,∀g,s.ownBlock=some g->∃i∈dd,Co pl Aa i g)(q5:∀i∈dd,∃B sv Ab,Aa i=some B/\B.live=true/\pl i=some (.row sv Ab)){et:TypeId}{e:OT}{new:List e.ty.den}{v':Value}{ys:List Value}(CR:w.grownBy w' none)(C3:∀g,v'.ownBlock=some g->g=w.heap.size)(hOL:∀hv,OL (λ_ x f F=>Owns w (Al ok0 base pl Aa w).ok base hv e none x f F) 0 new ys Fu)(Ak:w'.ownsRow base et e.ty.size v' new.length ys):∃pl3,RelB ok0 base pl3 (updL Aa (dead dd++[(nx,.tree et e 0 0 none new)])) w'/\Step pl Aa w pl3 (updL Aa (dead dd++[(nx,.tree et e 0 0 none new)])) w'/\VRep (Al ok0 base pl3 (updL Aa (dead dd++[(nx,.tree et e 0 0 none new)])) w') (.c (.trow nx 0 [])) v':=by
 have Gw:nx∉dd:=λh=>by obtain⟨B,_,_,h1,_⟩:=q5 nx h;rw[show Aa nx=some B from h1]at CS;cases CS
 have Du:∀k,updL Aa (dead dd++[(nx,.tree et e 0 0 none new)]) k=if k=nx then some (.tree et e 0 0 none new)else if k∈dd then some .dead else Aa k:=λk=>by simp only[LQ,updL,upd,Ws]
 generalize updL Aa (dead dd++[(nx,.tree et e 0 0 none new)])=bl3 at*;have E8:∀k,upd pl nx (.row v' (Fu.map some)) k=if k=nx then some (.row v' (Fu.map some))else pl k:=λk=>rfl;generalize Aix:upd pl nx (.row v' (Fu.map some))=pl3 at*
 have Ao:∀s∈Fu,∀g,s.ownBlock=some g->g<w.heap.size:=λs hs g hg=>by obtain⟨i,_,B,p,h⟩:=q3 s hs g hg;exact Own.lt hr ⟨i,B,p,h⟩
 have HT:∀k∈dd,∀g,¬Co pl3 bl3 k g:=λk hk g h=>by obtain⟨B,p,h1,h2,_⟩:=h;have D5:¬k=nx:=λe=>Gw (e▸hk);rw[Du,if_neg D5,if_pos hk]at h1;injection h1 with h1;subst h1;cases h2
 have hm:Many pl Aa w pl3 bl3 w' (nx::dd) none:=by
  refine⟨λk hk=>?_,CR,λg h=>(by cases h),λk hk g h=>?_,λk hk m hm I3 g h1 h2=>?_,λk hk g h=>?_,λk hk sv Ab h=>?_⟩
  ·simp only[Bf,not_or]at hk
   rw[E8,Du,if_neg hk.1,if_neg hk.1,if_neg hk.2];exact⟨rfl,rfl⟩
  ·rcases Bf.1 hk with rfl|hk
   ·obtain⟨B,p,_,_,h1,h2⟩:=h
    rw[E8,if_pos rfl]at h1;injection h1 with h1;subst h1;rcases h2 with h2|⟨j,s,hj,h2⟩
    ·exact .inr (JP (C3 g h2).symm)
    ·rw[FI,QR]at hj
     obtain⟨s',hj,he⟩:=hj;injection he with he;subst he;obtain⟨i,hi,ho⟩:=q3 s' (CI hj) g h2;exact .inl ⟨i,Dm _ hi,ho⟩
   ·exact absurd h (HT k hk g)
  ·rcases Bf.1 hk with rfl|hk
   ·rcases Bf.1 hm with rfl|hm
    ·exact I3 rfl
    ·exact HT m hm g h2
   ·exact HT k hk g h1
  ·rcases Bf.1 hk with rfl|hk
   ·rw[hr.fresh k CS]at h;cases h
   ·obtain⟨_,_,_,_,_,h1⟩:=q5 k hk
    rw[show pl k=_ from h1]at h;cases h
  ·rcases Bf.1 hk with rfl|hk
   ·rw[hr.fresh k CS]at h;cases h
   ·have D5:¬k=nx:=λe=>Gw (e▸hk)
    exact⟨sv,Ab,by rw[E8,if_neg D5];exact h,by rw[Du,if_neg D5,if_pos hk];exact KeepR.ofDead⟩
 have B5:=hm.step
 have hT2:TreeOk (Al ok0 base pl3 bl3 w') et e none new v' (Fu.map some):=eQ (E:=Al ok0 base pl Aa w) B5.ext rfl (l:=[]) (Fn:=[]) (xs:=[]) ⟨rfl,rfl⟩ (hOL v')
  (λs hs g hg=>CR.block g (Ao s hs g hg) (by simp)) (by rw[CJ,DL];exact Ak) (by
   rw[Gi,Ha];exact⟨λs hs g h1 h2=>by have:=Ao s hs g h2;have:=C3 g h1;omega,q2⟩)
 refine⟨pl3,?_,B5,?_⟩
 ·refine hm.rel hr λk hk=>?_
  rcases Bf.1 hk with rfl|hk
  ·exact⟨.tree et e 0 0 none new,.row v' (Fu.map some),by rw[Du,if_pos rfl],by rw[E8,if_pos rfl],hT2⟩
  ·have D5:¬k=nx:=λe=>Gw (e▸hk)
   obtain⟨_,_,_,_,_,h1⟩:=q5 k hk;exact⟨.dead,_,by rw[Du,if_neg D5,if_pos hk],by rw[E8,if_neg D5];exact h1,trivial⟩
 ·exact eR (OR Ak) (by show pl3 nx=_;rw[E8,if_pos rfl]) (by show bl3 nx=_;rw[Du,if_pos rfl])
theorem AkQ{X:List (TypeId×OT)}{T:TypeId->Option TI}(hT:TOk P T){kk:K β}{c:Call}(ho:o.op=.call c)(hc:c.callee=.builtin .append){x y:Operand}{t:TypeId}{nx:Nat}(ha:c.args.toList=[x,y])(BW:c.argTypes.toList=[t,t])(hk:dI X T bl nx t (ρ x) (ρ y) kk=some r):Sound P o ρ bl kk r:=by
 have Bg:c.args=#[x,y]:=by rw[<-Gg (xs:=c.args),ha]
 have BP:x∈o.op.operands:=by simp[ho,Op.operands,Call.operands,Bg]
 have DT:y∈o.op.operands:=by simp[ho,Op.operands,Call.operands,Bg]
 unfold dI at hk;split at hk
 ·cases hk
 rename_i ti ht;obtain⟨i,d,z,f⟩:=hT.facts ht;split at hk
 ·rename_i et Ck Cr
  have hd:=Gk f Ck Cr;subst hd;split at hk
  ·cases hk
  rename_i te BE;obtain⟨i',d',z',fe⟩:=hT.facts BE;split at hk
  ·
   rename_i hx;split at hk
   ·cases hk
   rename_i e _;cases hs:(Nat.beq e.ty.size te.size&&(Nat.blt 0 te.size&&Nat.blt 0 te.bytes))with
   |false=>rw[hs]at hk;cases hk
   |true=>
    simp only[hs,Am]at hk;obtain⟨Bk,JF⟩:=andB hs;obtain⟨AS,DS⟩:=andB JF;have Bk:=As Bk;have AS:=D8 AS;have DS:=D8 DS;split at hk
    ·rename_i new rd dd Fe hn
     obtain⟨Dz,hk⟩:=D2 hk;have Dz:=AV Dz;refine⟨_,_,_,hk,λAa Ah=>?_⟩;have CS:Aa nx=none:=(Ah nx (by simp)).trans hn;intro ok0 base pl w a hr Ae K Q hK;have hv:a.eval x=.slice none 0 0:=by have:=Ae x BP;rw[hx]at this;exact this
     obtain⟨Fu,q1,q2,q3,q4,q5⟩:=eP (P:=P) (E:=Al ok0 base pl Aa w) (t:=t) (ty:=o.type) hr.blksOk fe f.under Bk AS DS Fe (λb hb=>Ah b (by simp[hb])) (Ae y DT);obtain⟨v',w',ys,AA,Ak,CR,Kz,hOL⟩:=q1 base (.slice none 0 0) 0 [] hr.baseLe (World.ownsRow_nil w base et e.ty.size) (by simpa using Dz);have CR:w.grownBy w' none:=CR;have Ak:w'.ownsRow base et e.ty.size v' (0+new.length) ([]++ys):=Ak
     obtain⟨pl3,z1,z2,z3⟩:=y5 hr CS q2 q3 (λi hi=>(q5 i hi).2) CR (λg hg=>by
      rcases Kz with h|h
      ·rw[h]at hg;cases hg
      ·rw[h]at hg;injection hg with hg;exact hg.symm) hOL (by simpa using Ak)
     exact Hc (R3 ho hc ha BW (by rw[hv];exact AA)) (hK v' pl3 w' z1 z2 z3)
    ·cases hk
  ·
   rename_i b ver hx;split at hk
   ·rename_i t0 e ver' Ag l hb
    cases hs:(Nat.beq ver ver'&&(Nat.beq t0 et&&(Nat.beq e.ty.size te.size&&(Nat.blt 0 te.size&&Nat.blt 0 te.bytes))))with
    |false=>rw[hs]at hk;cases hk
    |true=>
     simp only[hs,Am]at hk;obtain⟨AP,hs⟩:=andB hs;obtain⟨UQ,hs⟩:=andB hs;obtain⟨Bk,JF⟩:=andB hs;obtain⟨AS,DS⟩:=andB JF;have:=As AP;subst this;have:=As UQ;subst this;have Bk:=As Bk;have AS:=D8 AS;have DS:=D8 DS;split at hk
     ·rename_i new rd dd Fe
      obtain⟨tK,hk⟩:=D2 hk;obtain⟨CX,Dz⟩:=andB tK;have Dz:=AV Dz;have tD:b∉rd:=λh=>by rw[Hw.2 h]at CX;cases CX
      refine⟨_,_,_,hk,λAa Ah=>?_⟩;have Aw:Aa b=some (.tree t0 e ver Ag none l):=(Ah b (by simp)).trans hb;intro ok0 base pl w a hr Ae K Q hK;have hv:=Ae x BP;rw[hx]at hv;obtain⟨Ab,Be,hTr⟩:=Wk (E:=Al ok0 base pl Aa w) hr.blksOk Aw hv;have Be:pl b=some (.row (a.eval x) Ab):=Be;obtain⟨MA,F,h1,h2,h3⟩:=hTr.rep;have h2:some (a.eval x)::Ab=(a.eval x::F).map some:=h2;obtain⟨sv0,xs,F0,e1,e2,o1,o2⟩:=h1;have e1:=(JO e1).1;subst e1;have e2:=(JO e2).2;subst e2;generalize uX:a.eval x=v at*;obtain⟨Fu,q1,q2,q3,q4,q5⟩:=eP (P:=P) (E:=Al ok0 base pl Aa w) (t:=t) (ty:=o.type) hr.blksOk fe f.under Bk AS DS Fe (λb hb=>Ah b (by simp[hb])) (Ae y DT);obtain⟨v',w',ys,AA,Ak,CR,Kz,hOL⟩:=q1 base v l.length xs hr.baseLe o1 Dz;have CR:w.grownBy w' v.ownBlock:=CR;have Lo:b∉dd:=λh=>tD (q5 b h).1
      have Du:∀k,updL Aa (dead dd++[(b,.tree t0 e (ver+1) Ag none (l++new))]) k=if k=b then some (.tree t0 e (ver+1) Ag none (l++new))else if k∈dd then some .dead else Aa k:=λk=>by simp only[LQ,updL,upd,Ws]
      generalize updL Aa (dead dd++[(b,.tree t0 e (ver+1) Ag none (l++new))])=bl3 at*;have E8:∀k,upd pl b (.row v' ((F++Fu).map some)) k=if k=b then some (.row v' ((F++Fu).map some))else pl k:=λk=>rfl;generalize Aix:upd pl b (.row v' ((F++Fu).map some))=pl3 at*;have F5:∀s∈v::F,∀g,s.ownBlock=some g->Co pl Aa b g:=λs hs g hg=>⟨_,_,Aw,rfl,Be,Nb h2 hs hg⟩;have Ao:∀i g,Co pl Aa i g->g<w.heap.size:=λi g ⟨B,p,h⟩=>Own.lt hr ⟨i,B,p,h⟩
      have hltF:∀s∈F++Fu,∀g,s.ownBlock=some g->g<w.heap.size:=λs hs g hg=>by
       rcases Ci.1 hs with hs|hs
       ·exact Ao b g (F5 s (Dm _ hs) g hg)
       ·obtain⟨i,_,h⟩:=q3 s hs g hg;exact Ao i g h
      have hFu:∀s∈Fu,∀g,s.ownBlock=some g->¬Co pl Aa b g:=λs hs g hg h=>by obtain⟨i,hi,B,p,k1,k2,k3,k4⟩:=q3 s hs g hg;obtain⟨B',p',m1,m2,m3,m4⟩:=h;exact hr.sep i b B B' p p' g (λe=>Lo (e▸hi)) k1 m1 k2 m2 k3 m3 k4 m4
      have NM:∀s∈F++Fu,KQ v s:=λs hs=>by
       rcases Ci.1 hs with hs|hs
       ·exact(Ha.1 h3).1 s hs
       ·exact λg g1 g2=>hFu s hs g g2 (F5 v (by simp) g g1)
      have C3:∀g,v'.ownBlock=some g->v.ownBlock=some g\/g=w.heap.size:=λg hg=>by
       rcases Kz with h|h
       ·exact .inl (h▸hg)
       ·rw[h]at hg;injection hg with hg;exact .inr hg.symm
      have HT:∀k∈dd,∀g,¬Co pl3 bl3 k g:=λk hk g h=>by obtain⟨B,p,h1,h2,_⟩:=h;have D5:¬k=b:=λe=>Lo (e▸hk);rw[Du,if_neg D5,if_pos hk]at h1;injection h1 with h1;subst h1;cases h2
      have hm:Many pl Aa w pl3 bl3 w' (b::dd) v.ownBlock:=by
       refine⟨λk hk=>?_,CR,λg h=>⟨b,by simp,F5 v (by simp) g h⟩,λk hk g h=>?_,λk hk m hm I3 g h1 h2=>?_,λk hk g h=>?_,λk hk sv Bl h=>?_⟩
       ·simp only[Bf,not_or]at hk
        rw[E8,Du,if_neg hk.1,if_neg hk.1,if_neg hk.2];exact⟨rfl,rfl⟩
       ·rcases Bf.1 hk with rfl|hk
        ·obtain⟨B,p,_,_,h1,h2⟩:=h
         rw[E8,if_pos rfl]at h1;injection h1 with h1;subst h1;rcases h2 with h2|⟨j,s,hj,h2⟩
         ·rcases C3 g h2 with h2|h2
          ·exact .inl ⟨k,by simp,F5 v (by simp) g h2⟩
          ·exact .inr (JP h2.symm)
         ·rw[FI,QR]at hj
          obtain⟨s',hj,he⟩:=hj;injection he with he;subst he;rcases Ci.1 (CI hj)with hs|hs
          ·exact .inl ⟨k,by simp,F5 s' (Dm _ hs) g h2⟩
          ·obtain⟨i,hi,ho⟩:=q3 s' hs g h2
           exact .inl ⟨i,Dm _ hi,ho⟩
        ·exact absurd h (HT k hk g)
       ·rcases Bf.1 hk with rfl|hk
        ·rcases Bf.1 hm with rfl|hm
         ·exact I3 rfl
         ·exact HT m hm g h2
        ·exact HT k hk g h1
       ·rcases Bf.1 hk with rfl|hk
        ·rw[Be]at h;cases h
        ·obtain⟨_,_,_,_,_,_,h1⟩:=q5 k hk
         rw[show pl k=_ from h1]at h;cases h
       ·rcases Bf.1 hk with rfl|hk
        ·refine⟨_,_,by rw[E8,if_pos rfl],?_⟩
         rw[Aw,Du,if_pos rfl];exact KeepR.ofTree ⟨by omega,AC _,λh=>by omega⟩
        ·have D5:¬k=b:=λe=>Lo (e▸hk)
         exact⟨sv,Bl,by rw[E8,if_neg D5];exact h,by rw[Du,if_neg D5,if_pos hk];exact KeepR.ofDead⟩
      have B5:=hm.step
      have hT2:TreeOk (Al ok0 base pl3 bl3 w') t0 e none (l++new) v' ((F++Fu).map some):=eQ (E:=Al ok0 base pl Aa w) B5.ext rfl (o2.mono λ_ _ _ _ _ h=>Owns.any h) (hOL v')
       (λs hs g hg=>CR.block g (hltF s hs g hg) (λe=>NM s hs g e.symm hg)) Ak (by
        rw[Ha,GZ];refine⟨λs hs g g1 g2=>?_,(Ha.1 h3).2,q2,λa ha b hb g g1 g2=>hFu b hb g g2 (F5 a (Dm _ ha) g g1)⟩;rcases C3 g g1 with g1|g1
        ·exact NM s hs g g1 g2
        ·have:=hltF s hs g g2;omega)
      refine Hc (R3 ho hc ha BW (by rw[uX];exact AA)) (hK v' pl3 w' ?_ B5 ?_)
      ·refine hm.rel hr λk hk=>?_
       rcases Bf.1 hk with rfl|hk
       ·exact⟨.tree t0 e (ver+1) Ag none (l++new),.row v' ((F++Fu).map some),by rw[Du,if_pos rfl],by rw[E8,if_pos rfl],hT2⟩
       ·have D5:¬k=b:=λe=>Lo (e▸hk)
        obtain⟨_,_,_,_,_,_,h1⟩:=q5 k hk;exact⟨.dead,_,by rw[Du,if_neg D5,if_pos hk],by rw[E8,if_neg D5];exact h1,trivial⟩
      ·exact eR (OR Ak) (by show pl3 b=_;rw[E8,if_pos rfl]) (by show bl3 b=_;rw[Du,if_pos rfl])
     ·cases hk
   ·cases hk
  ·
   rename_i b ver i0 p hx;split at hk
   ·cases hk
   rename_i q hq;obtain⟨hb,AP,Aip⟩:=Wo hq;subst AP;obtain⟨⟨t0,e⟩,l,ver,Ag,n⟩:=q;simp only at hb Aip hx hk;cases hs:(Nat.beq n.1.1 et&&(Nat.beq n.1.2.ty.size te.size&&(Nat.blt 0 te.size&&Nat.blt 0 te.bytes)))with
   |false=>rw[hs]at hk;cases hk
   |true=>
    simp only[hs,Am]at hk;obtain⟨UQ,hs⟩:=andB hs;obtain⟨Bk,JF⟩:=andB hs;obtain⟨AS,DS⟩:=andB JF;have:=As UQ;subst this;have Bk:=As Bk;have AS:=D8 AS;have DS:=D8 DS;split at hk
    ·rename_i new rd dd Fe hn
     obtain⟨tK,hk⟩:=D2 hk;obtain⟨CX,Dz⟩:=andB tK;have Dz:=AV Dz;have tD:b∉rd:=λh=>by rw[Hw.2 h]at CX;cases CX
     refine⟨_,_,_,hk,λAa Ah=>?_⟩;have CS:Aa nx=none:=(Ah nx (by simp)).trans hn;have Aw:Aa b=some (.tree t0 e ver Ag none l):=(Ah b (by simp)).trans hb;have Us:b≠nx:=by rintro rfl;rw[Aw]at CS;cases CS
     intro ok0 base pl w a hr Ae K Q hK;have hv:=Ae x BP;rw[hx]at hv;obtain⟨sv,Ab,n',Be,hTr,DR,Jm⟩:=eC (E:=Al ok0 base pl Aa w) hr.blksOk Aw hv;have:=KP DR;rw[Aip]at this;injection this with this;subst this;have Be:pl b=some (.row sv Ab):=Be;obtain⟨F,JI,k1,h3,k3,k4,k5,k6⟩:=hTr.take DR Jm;obtain⟨sv0,xs,F0,e1,e2,o1,o2⟩:=k1;have e1:=(JO e1).1;subst e1;have e2:=(JO e2).2;subst e2;generalize uX:a.eval x=v at*;obtain⟨Fu,q1,q2,q3,q4,q5⟩:=eP (P:=P) (E:=Al ok0 base pl Aa w) (t:=t) (ty:=o.type) hr.blksOk fe f.under Bk AS DS Fe (λb hb=>Ah b (by simp[hb])) (Ae y DT);obtain⟨v',w',ys,AA,Ak,CR,Kz,hOL⟩:=q1 base v n.2.length xs hr.baseLe o1 Dz;have CR:w.grownBy w' v.ownBlock:=CR;have Lo:b∉dd:=λh=>tD (q5 b h).1;have Gw:nx∉dd:=λh=>by obtain⟨_,B,_,_,h1,_⟩:=q5 nx h;rw[show Aa nx=some B from h1]at CS;cases CS
     have Du:∀k,updL Aa (dead dd++[(b,.tree t0 e ver Ag (some (i0::p)) l),(nx,.tree n.1.1 n.1.2 0 0 none (n.2++new))]) k=if k=nx then some (.tree n.1.1 n.1.2 0 0 none (n.2++new))else if k=b then some (.tree t0 e ver Ag (some (i0::p)) l)else if k∈dd then some .dead else Aa k:=λk=>by simp only[LQ,updL,upd,Ws]
     generalize updL Aa (dead dd++[(b,.tree t0 e ver Ag (some (i0::p)) l),(nx,.tree n.1.1 n.1.2 0 0 none (n.2++new))])=bl3 at*;have E8:∀k,upd (upd pl b (.row sv JI)) nx (.row v' ((F++Fu).map some)) k=if k=nx then some (.row v' ((F++Fu).map some))else if k=b then some (.row sv JI)else pl k:=λk=>rfl;generalize Aix:upd (upd pl b (.row sv JI)) nx (.row v' ((F++Fu).map some))=pl3 at*;have F5:∀s∈v::F,∀g,s.ownBlock=some g->Co pl Aa b g:=λs hs g hg=>⟨_,_,Aw,rfl,Be,k3 s hs g hg⟩;have Ao:∀i g,Co pl Aa i g->g<w.heap.size:=λi g ⟨B,p,h⟩=>Own.lt hr ⟨i,B,p,h⟩
     have hltF:∀s∈F++Fu,∀g,s.ownBlock=some g->g<w.heap.size:=λs hs g hg=>by
      rcases Ci.1 hs with hs|hs
      ·exact Ao b g (F5 s (Dm _ hs) g hg)
      ·obtain⟨i,_,h⟩:=q3 s hs g hg;exact Ao i g h
     have hFu:∀s∈Fu,∀g,s.ownBlock=some g->¬Co pl Aa b g:=λs hs g hg h=>by obtain⟨i,hi,B,p,k1,k2,k3,k4⟩:=q3 s hs g hg;obtain⟨B',p',m1,m2,m3,m4⟩:=h;exact hr.sep i b B B' p p' g (λe=>Lo (e▸hi)) k1 m1 k2 m2 k3 m3 k4 m4
     have NM:∀s∈F++Fu,KQ v s:=λs hs=>by
      rcases Ci.1 hs with hs|hs
      ·exact(Ha.1 h3).1 s hs
      ·exact λg g1 g2=>hFu s hs g g2 (F5 v (by simp) g g1)
     have C3:∀g,v'.ownBlock=some g->v.ownBlock=some g\/g=w.heap.size:=λg hg=>by
      rcases Kz with h|h
      ·exact .inl (h▸hg)
      ·rw[h]at hg;injection hg with hg;exact .inr hg.symm
     have HT:∀k∈dd,∀g,¬Co pl3 bl3 k g:=λk hk g h=>by obtain⟨B,p,h1,h2,_⟩:=h;have D5:¬k=nx:=λe=>Gw (e▸hk);have NZ:¬k=b:=λe=>Lo (e▸hk);rw[Du,if_neg D5,if_neg NZ,if_pos hk]at h1;injection h1 with h1;subst h1;cases h2
     have hBo:∀g,Co pl3 bl3 b g->(Pl.row sv JI).has g:=λg h=>by obtain⟨B,p,_,_,h1,h2⟩:=h;rw[E8,if_neg Us,if_pos rfl]at h1;injection h1 with h1;subst h1;exact h2
     have hNo:∀g,Co pl3 bl3 nx g->(∃s∈v::F,s.ownBlock=some g)\/(∃s∈Fu,s.ownBlock=some g)\/g=w.heap.size:=λg h=>by
      obtain⟨B,p,_,_,h1,h2⟩:=h;rw[E8,if_pos rfl]at h1;injection h1 with h1;subst h1;rcases h2 with h2|⟨j,s,hj,h2⟩
      ·rcases C3 g h2 with h2|h2
       ·exact .inl ⟨v,by simp,h2⟩
       ·exact .inr (.inr h2)
      ·rw[FI,QR]at hj
       obtain⟨s',hj,he⟩:=hj;injection he with he;subst he;rcases Ci.1 (CI hj)with hs|hs
       ·exact .inl ⟨s',Dm _ hs,h2⟩
       ·exact .inr (.inl ⟨s',hs,h2⟩)
     have hBN:∀g,Co pl3 bl3 b g->¬Co pl3 bl3 nx g:=λg h h'=>by
      obtain⟨h1,h2⟩:=k4 g (hBo g h);rcases hNo g h' with⟨s,hs,hg⟩|⟨s,hs,hg⟩|hg
      ·exact h2 s hs hg
      ·exact hFu s hs g hg ⟨_,_,Aw,rfl,Be,h1⟩
      ·have:=Ao b g ⟨_,_,Aw,rfl,Be,h1⟩;omega
     have hm:Many pl Aa w pl3 bl3 w' (nx::b::dd) v.ownBlock:=by
      refine⟨λk hk=>?_,CR,λg h=>⟨b,by simp,F5 v (by simp) g h⟩,λk hk g h=>?_,λk hk m hm I3 g h1 h2=>?_,λk hk g h=>?_,λk hk sv1 L8 h=>?_⟩
      ·simp only[Bf,not_or]at hk
       rw[E8,Du,if_neg hk.1,if_neg hk.1,if_neg hk.2.1,if_neg hk.2.1,if_neg hk.2.2];exact⟨rfl,rfl⟩
      ·rcases Bf.1 hk with rfl|hk
       ·rcases hNo g h with⟨s,hs,hg⟩|⟨s,hs,hg⟩|hg
        ·exact .inl ⟨b,by simp,F5 s hs g hg⟩
        ·obtain⟨i,hi,ho⟩:=q3 s hs g hg
         exact .inl ⟨i,by simp[hi],ho⟩
        ·exact .inr (JP hg.symm)
       ·rcases Bf.1 hk with rfl|hk
        ·exact .inl ⟨k,by simp,_,_,Aw,rfl,Be,(k4 g (hBo g h)).1⟩
        ·exact absurd h (HT k hk g)
      ·rcases Bf.1 hk with rfl|hk
       ·rcases Bf.1 hm with rfl|hm
        ·exact I3 rfl
        ·rcases Bf.1 hm with rfl|hm
         ·exact hBN g h2 h1
         ·exact HT m hm g h2
       ·rcases Bf.1 hk with rfl|hk
        ·rcases Bf.1 hm with rfl|hm
         ·exact hBN g h1 h2
         ·rcases Bf.1 hm with rfl|hm
          ·exact I3 rfl
          ·exact HT m hm g h2
        ·exact HT k hk g h1
      ·rcases Bf.1 hk with rfl|hk
       ·rw[hr.fresh k CS]at h;cases h
       ·rcases Bf.1 hk with rfl|hk
        ·rw[Be]at h;cases h
        ·obtain⟨_,_,_,_,_,_,h1⟩:=q5 k hk
         rw[show pl k=_ from h1]at h;cases h
      ·rcases Bf.1 hk with rfl|hk
       ·rw[hr.fresh k CS]at h;cases h
       ·rcases Bf.1 hk with rfl|hk
        ·rw[Be]at h
         injection h with h;injection h with h h';subst h h';refine⟨_,_,by rw[E8,if_neg Us,if_pos rfl],?_⟩;rw[Aw,Du,if_neg Us,if_pos rfl];exact KeepR.ofTree ⟨AC _,AC _,λ_=>⟨rfl,k5 _⟩⟩
        ·have D5:¬k=nx:=λe=>Gw (e▸hk)
         have NZ:¬k=b:=λe=>Lo (e▸hk);exact⟨sv1,L8,by rw[E8,if_neg D5,if_neg NZ];exact h,by rw[Du,if_neg D5,if_neg NZ,if_pos hk];exact KeepR.ofDead⟩
     have B5:=hm.step
     have hT2:TreeOk (Al ok0 base pl3 bl3 w') n.1.1 n.1.2 none (n.2++new) v' ((F++Fu).map some):=eQ (E:=Al ok0 base pl Aa w) B5.ext rfl (o2.mono λ_ _ _ _ _ h=>Owns.any h) (hOL v')
      (λs hs g hg=>CR.block g (hltF s hs g hg) (λe=>NM s hs g e.symm hg)) Ak (by
       rw[Ha,GZ];refine⟨λs hs g g1 g2=>?_,(Ha.1 h3).2,q2,λa ha b hb g g1 g2=>hFu b hb g g2 (F5 a (Dm _ ha) g g1)⟩;rcases C3 g g1 with g1|g1
       ·exact NM s hs g g1 g2
       ·have:=hltF s hs g g2;omega)
     have hT3:TreeOk (Al ok0 base pl3 bl3 w') t0 e (some (i0::p)) l sv JI:=k6 _ B5.ext rfl (λg hg=>by obtain⟨h1,h2⟩:=k4 g hg;exact CR.block g (Ao b g ⟨_,_,Aw,rfl,Be,h1⟩) (λe=>h2 v (by simp) e.symm))
     refine Hc (R3 ho hc ha BW (by rw[uX];exact AA)) (hK v' pl3 w' ?_ B5 ?_)
     ·refine hm.rel hr λk hk=>?_
      rcases Bf.1 hk with rfl|hk
      ·exact⟨.tree n.1.1 n.1.2 0 0 none (n.2++new),.row v' ((F++Fu).map some),by rw[Du,if_pos rfl],by rw[E8,if_pos rfl],hT2⟩
      ·rcases Bf.1 hk with rfl|hk
       ·exact⟨.tree t0 e ver Ag (some (i0::p)) l,.row sv JI,by rw[Du,if_neg Us,if_pos rfl],by rw[E8,if_neg Us,if_pos rfl],hT3⟩
       ·have D5:¬k=nx:=λe=>Gw (e▸hk)
        have NZ:¬k=b:=λe=>Lo (e▸hk);obtain⟨_,_,_,_,_,_,h1⟩:=q5 k hk;exact⟨.dead,_,by rw[Du,if_neg D5,if_neg NZ,if_pos hk],by rw[E8,if_neg D5,if_neg NZ];exact h1,trivial⟩
     ·exact eR (OR Ak) (by show pl3 nx=_;rw[E8,if_pos rfl]) (by show bl3 nx=_;rw[Du,if_pos rfl])
    ·cases hk
  ·cases hk
 ·cases hk
theorem eS{E:Env}{blp:Nat->Option Blk}(hb:DN E){hsep:∀i j,i≠j->∀g,Co E.pl E.bl i g->¬Co E.pl E.bl j g}:∀{o:OT}{cs:List C}{vs:List Value}{x:o.ty.den}{rs:List C}{ids:List Nat},CReps E cs vs->KL blp o cs=some (x,rs,ids)->(∀i∈ids,E.bl i=blp i)->ids.Nodup->∃us ws F,vs=us++ws/\CReps E rs ws/\(∀hv,Owns E.w E.ok E.base hv o none x us F)/\(∀s∈F,∀g,s.ownBlock=some g->∃i∈ids,Co E.pl E.bl i g)/\F.Pairwise KQ/\∀i∈ids,∃B sv Ab,E.bl i=some B/\B.live=true/\E.pl i=some (.row sv Ab)
 |.d τ,cs,vs,x,rs,ids,h,ha,AO,Gw=>by
  simp only[KL]at ha;split at ha
  ·rename_i y q hp
   simp only[Af,BC]at ha;obtain⟨rfl,rfl,rfl⟩:=ha;obtain⟨us,ws,e1,h1,h2,_⟩:=MZ hb (Rows.none _ _) h hp;exact⟨us,ws,[],e1,h2,λhv=>⟨rfl,h1,rfl⟩,by simp,by simp,by simp⟩
  ·cases ha
 |.p a c,cs,vs,x,rs,ids,h,ha,AO,Gw=>by
  simp only[KL]at ha;split at ha
  ·cases ha
  rename_i x1 r1 i1 h1;split at ha
  ·cases ha
  rename_i x2 r2 i2 h2;simp only[Af,BC]at ha;obtain⟨rfl,rfl,rfl⟩:=ha;obtain⟨n1,n2,n3⟩:=VD.1 Gw;obtain⟨us1,ws1,F1,a1,a2,a3,a4,a5,a6⟩:=eS hb (hsep:=hsep) h h1 (λi hi=>AO i (Dl _ hi)) n1;obtain⟨us2,ws2,F2,b1,b2,b3,b4,b5,b6⟩:=eS hb (hsep:=hsep) a2 h2 (λi hi=>AO i (D7 _ hi)) n2;refine⟨us1++us2,ws2,F1++F2,by rw[a1,b1,Cw],b2,λhv=>⟨us1,us2,F1,F2,rfl,rfl,a3 hv,b3 hv⟩,λs hs g hg=>?_,GZ.2 ⟨a5,b5,λs hs s' BN g g1 g2=>?_⟩,λi hi=>?_⟩
  ·rcases Ci.1 hs with hs|hs
   ·obtain⟨i,hi,ho⟩:=a4 s hs g hg
    exact⟨i,Dl _ hi,ho⟩
   ·obtain⟨i,hi,ho⟩:=b4 s hs g hg
    exact⟨i,D7 _ hi,ho⟩
  ·obtain⟨i,hi,ho⟩:=a4 s hs g g1
   obtain⟨j,hj,UG⟩:=b4 s' BN g g2;exact hsep i j (n3 i hi j hj) g ho UG
  ·rcases Ci.1 hi with hi|hi
   ·exact a6 i hi
   ·exact b6 i hi
 |.r t e,[],vs,x,rs,ids,h,ha,AO,Gw=>by simp[KL]at ha
 |.r t e,c::cs,vs,x,rs,ids,⟨v,Ap,e1,h1,h2⟩,ha,AO,Gw=>by
  simp only[KL]at ha;split at ha
  ·simp only[Af,BC]at ha
   obtain⟨rfl,rfl,rfl⟩:=ha;have h1:v=.slice none 0 0:=h1;subst h1;refine⟨[_],Ap,[_],e1,h2,λhv=>⟨_,[],[],rfl,rfl,World.ownsRow_nil _ _ _ _,rfl,rfl⟩,λs hs g hg=>?_,by simp,by simp⟩;rw[E9]at hs;subst hs;cases hg
  ·split at ha
   ·rename_i b m hm
    split at ha
    ·rename_i BW
     obtain⟨⟨m1,m2⟩,m3⟩:=m;simp only[BC]at BW;obtain⟨rfl,rfl⟩:=BW;simp only[Af,BC]at ha;obtain⟨rfl,rfl,rfl⟩:=ha;obtain⟨Ab,Fr,B,k1,k2,_,k3,k4,k5,k6⟩:=eF hb hm (AO b (by simp)) (u:=v) h1;have Hm:B.live=true:=by cases B<;>first|rfl|exact absurd rfl k2
     refine⟨[v],Ap,v::Fr,e1,h2,k4,λs hs g hg=>⟨b,by simp,B,_,k1,Hm,k3,Nb k5 hs hg⟩,k6,λi hi=>?_⟩;rw[E9]at hi;subst hi;exact⟨B,v,Ab,k1,Hm,k3⟩
    ·cases ha
   ·cases ha
theorem AkR{X:List (TypeId×OT)}{T:TypeId->Option TI}(hT:TOk P T){kk:K β}{nx:Nat}{t:TypeId}{n:Nat}{parts:Array (Nat×Operand)}(ho:o.op=.buildSlice t n parts)(hk:dJ X T bl nx t n (parts.toList.map λp=>(p.1,ρ p.2)) kk=some r):Sound P o ρ bl kk r:=by
 unfold dJ at hk;split at hk
 ·rename_i v0 Lz
  split at hk
  ·rename_i ti cs ht CH
   obtain⟨i,d,z,f⟩:=hT.facts ht;split at hk
   ·rename_i et Ck Cr
    have hd:=Gk f Ck Cr;subst hd;have hu:=f.under;split at hk
    ·rename_i te e BE _ hn
     obtain⟨i',d',z',fe⟩:=hT.facts BE;split at hk
     ·rename_i x0 ids Up
      cases hc:(Nat.beq n 1&&(Nat.beq cs.length te.size&&(Nat.beq e.ty.size te.size&&(Nat.blt 0 te.size&&(Nat.ble te.size 16777216&&IK ids)))))with
      |false=>rw[hc]at hk;cases hk
      |true=>
       simp only[hc,Am]at hk;obtain⟨c1,hc⟩:=andB hc;obtain⟨c2,hc⟩:=andB hc;obtain⟨c3,hc⟩:=andB hc;obtain⟨c4,hc⟩:=andB hc;obtain⟨c5,c6⟩:=andB hc;have:=As c1;subst this;have c2:=As c2;have c3:=As c3;have c4:=D8 c4;have c5:=Hs c5;have c6:=Po c6
       obtain⟨x,K3,AAb⟩:∃x,parts.toList=[(0,x)]/\ρ x=v0:=by
        cases hq:parts.toList with
        |nil=>rw[hq]at Lz;cases Lz
        |cons p ps=>rw[hq]at Lz;simp only[CE,De,BC,List.map_eq_nil_iff]at Lz;obtain⟨⟨h1,h2⟩,h3⟩:=Lz;obtain⟨p1,p2⟩:=p;simp only at h1 h2;subst h1 h3;exact⟨p2,rfl,h2⟩
       have BP:x∈o.op.operands:=by simp only[ho,Op.operands];exact cN.2 (Hb.2 ⟨(0,x),by rw[K3];simp,rfl⟩)
       refine⟨_,_,_,hk,λAa hb=>?_⟩;have CS:Aa nx=none:=(hb nx (by simp)).trans hn;intro ok0 base pl w a hr Ae K Q hK;have Qr:=VRep.cells_of (by rw[AAb];exact CH) (Ae x BP);have Uv:=Qr.length;obtain⟨us,ws,F,a1,a2,a3,a4,a5,a6⟩:=eS (E:=Al ok0 base pl Aa w) hr.blksOk (hsep:=λi j Db g ⟨B,p,h1,h2,h3,h4⟩ ⟨B',p',m1,m2,m3,m4⟩=>hr.sep i j B B' p p' g Db h1 m1 h2 m2 h3 m3 h4 m4) Qr Up (λi hi=>hb i (by simp[hi])) c6;have a2:ws=[]:=a2;subst a2;rw[II]at a1
       have HB:z'.cells.size=te.size:=by have:=fe.len;rw[G3]at this;rw[this,fe.size]
       have Dp:(a.eval x).cells.size=te.size:=by rw[<-G3,Uv,c2]
       have AyV:Instr.fill (λi=>some (i*te.size,te.size)) (repL 1 z'.cells.toList).toArray [(0,a.eval x)]=some (a.eval x).cells:=by
        have e1:(repL 1 z'.cells.toList).toArray=z'.cells:=by apply Ht;simp[repL]
        have BD:¬(0*te.size+(a.eval x).cells.size>z'.cells.size):=by omega
        rw[e1];simp only[Instr.fill];rw[if_neg (by simp only[Dp,ne_eq,VA,decide_false,MO,IH];omega),Nat.zero_mul,xP 0 (a.eval x) z'.cells (by simp only[G3];omega)];congr 1;apply Ht;rw[OH (by simp only[G3];omega)];simp
       have AA:(execOp a.eval o).run P w=.ok (.value (.slice (some ⟨w.heap.size,0,none⟩) 1 1)) (w.alloc (.cells (a.eval x).cells et)):=by
        have e0:(Array.range (1*te.size)).map (λx=>z'.cells[x%z'.cells.size]!)=(repL 1 z'.cells.toList).toArray:=by
         have UD:madeCells z'.cells (1*te.size)=(repL 1 z'.cells.toList).toArray:=by apply Ht;rw[<-HB,R4 _ (by omega)]
         exact UD
        have h0:¬(1*te.size>2^24):=by omega
        have h2:¬(1*te.size=0):=by omega
        have AzH:(parts.map λp=>(p.1,a.eval p.2)).toList=[(0,a.eval x)]:=by rw[QV,K3];rfl
        simp only[execOp,ho,Instr.buildSlice,run_underlying hu,run_sizeOf fe,Sem.run_bind,Result.andThen_ok,h0,Cx,Sem.run_pure,h2,zeroValue,typeInfo,run_program,fe.info,fe.zero,e0,AzH,AyV,newRow,run_newObj];rfl
       have hg:w.grownBy (w.alloc (.cells (a.eval x).cells et)) none:=World.grownBy_alloc w _ none
       have Ak:(w.alloc (.cells (a.eval x).cells et)).ownsRow base et e.ty.size (.slice (some ⟨w.heap.size,0,none⟩) 1 1) [x0].length us:=by rw[<-a1];refine⟨by rw[Uv,c2,c3];simp,.inr ⟨w.heap.size,1,(a.eval x).cells,rfl,hr.baseLe,heap_alloc_new w _,AC _,by simp[maxLen],by rw[Dp,c3,Nat.one_mul],?_⟩⟩;rw[G0 (by rw[Uv,c2,c3];simp)]
       obtain⟨pl3,z1,z2,z3⟩:=y5 hr CS a5 a4 a6 hg (λg hg=>by simpa [Value.ownBlock]using hg.symm) (new:=[x0]) (e:=e) (λhv=>⟨us,[],F,[],by simp,by simp,a3 hv,rfl,rfl⟩) Ak;exact Hc AA (hK _ pl3 _ z1 z2 z3)
     ·cases hk
    ·cases hk
   ·cases hk
  ·cases hk
 ·cases hk
end
end Go.Lift
namespace Go.Lift
open Go.RowKit
section
variable{P:Program}{o:Oper}{ρ:Operand->V}{bl:Nat->Option Blk}{β:Type}{r:β}
theorem AkS{kk:K β}{t:TypeId}{x:Operand}(ho:o.op=.unOp .not t x){b:Bool}(hx:ρ x=.c (.bool b))(hk:kk (.c (.bool (!b))) [] []=some r):Sound P o ρ bl kk r:=by refine Sound.pure hk λAa _ ok0 base pl w a hr Ae=>⟨.bool (!b),?_,rfl⟩;have h1:=Ae x (by simp[ho,Op.operands]);rw[hx]at h1;have Cq:a.eval x=.bool b:=h1;simp[execOp,ho,Cq,Op.unary]
theorem AkT{kk:K β}{t:TypeId}{x:Operand}(ho:o.op=.unOp .neg t x){k:IntKind}{n:Int}(hx:ρ x=.c (.int k n))(hk:kk (.c (.int k (k.wrap (0-n)))) [] []=some r):Sound P o ρ bl kk r:=by refine Sound.pure hk λAa _ ok0 base pl w a hr Ae=>⟨.int k (k.wrap (0-n)),?_,rfl⟩;have h1:=Ae x (by simp[ho,Op.operands]);rw[hx]at h1;have Cq:a.eval x=.int k n:=h1;simp[execOp,ho,Cq,Op.unary,Op.intArith]
theorem AkU{T:TypeId->Option TI}(hT:TOk P T){kk:K β}{s t:TypeId}{x:Operand}(ho:o.op=.convert s t x){si ti:TI}(hs:T s=some si)(ht:T t=some ti){k0 k:IntKind}{n:Int}(hx:ρ x=.c (.int k0 n))(Lv:ti.kind=some k)(hk:kk (.c (.int k (k.wrap n))) [] []=some r):Sound P o ρ bl kk r:=by
 obtain⟨i,d,z,f⟩:=hT.facts ht;obtain⟨i',d',z',f'⟩:=hT.facts hs
 have hd:d=.int k:=by rw[f.kind]at Lv;cases d<;>simp_all [Pj]
 subst hd;refine Sound.pure hk λAa _ ok0 base pl w a hr Ae=>⟨.int k (k.wrap n),?_,rfl⟩;have h1:=Ae x (by simp[ho,Op.operands]);rw[hx]at h1;have Cq:a.eval x=.int k0 n:=h1;simp[execOp,ho,Cq,convert,run_underlying f.under,run_underlying f'.under,Conv.intToInt]
theorem AkV{T:TypeId->Option TI}(hT:TOk P T){kk:K β}{s t:TypeId}{x:Operand}(ho:o.op=.convert s t x){si ti:TI}(hs:T s=some si)(ht:T t=some ti){l:List UInt8}(hx:ρ x=.c (.str l))(Lv:ti.isStr=true)(hk:kk (.c (.str l)) [] []=some r):Sound P o ρ bl kk r:=by
 obtain⟨i,d,z,f⟩:=hT.facts ht;obtain⟨i',d',z',f'⟩:=hT.facts hs;have hd:=R0 f Lv;subst hd;refine Sound.pure hk λAa _ ok0 base pl w a hr Ae=>⟨.string ⟨l.toArray⟩,?_,rfl⟩;have h1:=Ae x (by simp[ho,Op.operands]);rw[hx]at h1;have Cq:a.eval x=.string ⟨l.toArray⟩:=h1;simp[execOp,ho,Cq,convert,run_underlying f.under,run_underlying f'.under]
theorem y6{E:Env}:∀{vs:List V}{us:List Value}{bs:List Nat},Pg vs=some bs->vs.length=us.length->(∀(j:Nat)(v:V)(u:Value),vs[j]?=some v->us[j]?=some u->VRep E v u)->∃gs:List Nat,bs.map E.pl=gs.map (λg=>some (.cells g))/\us=gs.map λg=>.pointer (some ⟨g,0,none⟩)
 |[],us,bs,h,hl,hv=>by
  simp only[Pg,Af]at h;subst h;cases us with
  |nil=>exact⟨[],rfl,rfl⟩
  |cons u us=>simp at hl
 |v::vs,us,bs,h,hl,hv=>by
  cases us with
  |nil=>simp at hl
  |cons u us=>
   unfold Pg at h;split at h
   ·rename_i DD;cases DD
   ·rename_i b r' DD
    injection DD with h1 h2;subst h1 h2;split at h
    ·rename_i l Gt
     simp only[Af]at h;subst h;obtain⟨gs,h3,h4⟩:=y6 Gt (by simpa using hl) (λj v u hj hu=>hv (j+1) v u (by simpa using hj) (by simpa using hu));obtain⟨g,hg,hu⟩:=hv 0 _ _ rfl rfl;exact⟨g::gs,by simp[h3,hg],by simp[h4,hu]⟩
    ·cases h
   ·cases h
theorem AkW{kk:K β}{f:FuncId}{first B4:Array Operand}(ho:o.op=.makeFunc (.func f) first B4)(hf:first.toList=[]){bs:List Nat}(hb:Pg (B4.toList.map ρ)=some bs)(hk:kk (.c (.fn f bs)) [] []=some r):Sound P o ρ bl kk r:=by
 have Mz:first=#[]:=by simpa using hf
 subst Mz;refine Sound.pure hk λAa _ ok0 base pl w a hr Ae=>?_
 obtain⟨gs,h1,h2⟩:=y6 (E:=Al ok0 base pl Aa w) (us:=B4.toList.map a.eval) hb (by simp) (λj v u hj hu=>by
  rw[FI]at hj hu;cases hc:B4.toList[j]? with
  |none=>rw[hc]at hj;cases hj
  |some x=>rw[hc]at hj hu;simp only[EM,Af]at hj hu;subst hj hu;exact Ae x (by simp only[ho,Op.operands,VG];exact .inr (by have:=CI hc;simpa using this)))
 refine⟨.func (.func f) #[] (gs.map λg=>.pointer (some ⟨g,0,none⟩)).toArray,?_,gs,h1,rfl⟩
 have h3:B4.map a.eval=(gs.map λg=>Value.pointer (some ⟨g,0,none⟩)).toArray:=by apply Ht;simpa using h2
 simp[execOp,ho,Instr.makeFunc,h3]
theorem R5{kk:K β}{x:Operand}(ho:o.op=.nilCheck x)(hx:(∃b of,ρ x=.c (.ptr b of))\/(∃b ver i of,ρ x=.eptr b ver i of)\/(∃e y of,ρ x=.lptr e y of)\/(∃f B4,ρ x=.c (.fn f B4))\/(∃b ver p i of,ρ x=.c (.tptr b ver p i of)))(hk:kk (ρ x) [] []=some r):Sound P o ρ bl kk r:=by
 refine Sound.pure hk λAa _ ok0 base pl w a hr Ae=>⟨a.eval x,?_,Ae x (by simp[ho,Op.operands])⟩;have h1:=Ae x (by simp[ho,Op.operands]);rcases hx with⟨b,of,hx⟩|⟨b,ver,i,of,hx⟩|⟨e,y,of,hx⟩|⟨f,B4,hx⟩|⟨b,ver,p,i,of,hx⟩<;>rw[hx]at h1
 ·obtain⟨g,_,hv⟩:=h1
  simp[execOp,ho,hv]
 ·obtain⟨sv,Ab,ad,_,hv,_⟩:=h1
  simp[execOp,ho,hv]
 ·obtain⟨xs,ad,_,hv,_⟩:=h1
  simp[execOp,ho,hv]
 ·obtain⟨gs,_,hv⟩:=h1
  simp[execOp,ho,hv]
 ·obtain⟨sv,Ab,ad,_,hv,_⟩:=h1
  simp[execOp,ho,hv]
theorem AkX{T:TypeId->Option TI}(hT:TOk P T){kk:K β}{t:TypeId}{x:Operand}{fi:Nat}(ho:o.op=.field t x fi){ti:TI}(ht:T t=some ti){cs:List C}(hx:ρ x=.agg cs){off n:Nat}{g:Bool}(hf:ti.flds[fi]?=some (off,n,g))(h1:(g||Nat.beq n 1)=true){rc:List C}(hs:sub cs off n=some rc)(hk:kk (V.mk g rc) [] []=some r):Sound P o ρ bl kk r:=by
 obtain⟨i,d,z,f⟩:=hT.facts ht;obtain⟨fs,fd,j,e,rfl,aL,rfl,hj,rfl,he,hg⟩:=xG f hf;refine Sound.pure hk λAa _ ok0 base pl w a hr Ae=>?_;have hv:=Ae x (by simp[ho,Op.operands]);rw[hx]at hv;obtain⟨vs,Dp,Bm⟩:=hv;simp only[Dn]at Bm;obtain⟨s1,s2,s3⟩:=MY Dp hs
 have E5:(isAgg fd.type).run P w=.ok g w:=by rw[<-hg];unfold isAgg Ir;rw[Sem.run_bind,run_underlying he w,he];cases e<;>simp
 have C3:(sizeOf fd.type).run P w=.ok j.size w:=by simp[sizeOf,typeInfo,hj]
 cases g with
 |true=>
  refine⟨.agg ((vs.drop fd.offset).take j.size).toArray,?_,_,s1,by simp⟩
  have Ky:vs.toArray.extract fd.offset (fd.offset+j.size)=((vs.drop fd.offset).take j.size).toArray:=by apply Ht;simp
  simp[execOp,ho,Bm,Instr.field,run_underlying f.under,aL,asAgg,part,E5,C3]
 |false=>
  have hn:j.size=1:=by simpa using As (by simpa using h1)
  have Ao:fd.offset<vs.length:=by omega
  have If:(vs.drop fd.offset).take j.size=[vs[fd.offset]]:=by rw[hn,JN Ao];rfl
  rw[If]at s1;refine⟨vs[fd.offset],?_,VRep.mk ⟨_,s1,by simp⟩⟩;simp[execOp,ho,Bm,Instr.field,run_underlying f.under,aL,asAgg,part,E5,Ao]
theorem AkY{T:TypeId->Option TI}(hT:TOk P T){kk:K β}{t:TypeId}{x y:Operand}(ho:o.op=.index t x y){ti:TI}(ht:T t=some ti){s:List UInt8}(hx:ρ x=.c (.str s)){k:IntKind}{i:Int}(hy:ival (ρ y)=some (k,i))(I7:ti.isStr=true)(h0:0<=i)(h1:i<(s.length:Int))(hk:kk (.c (.int .u8 ((s.getD i.toNat 0).toNat:Int))) [] []=some r):Sound P o ρ bl kk r:=by
 obtain⟨inf,d,z,f⟩:=hT.facts ht;have:=R0 f I7;subst this;refine Sound.pure hk λAa _ ok0 base pl w a hr Ae=>⟨.int .u8 ((s.getD i.toNat 0).toNat:Int),?_,rfl⟩;have Hp:=Ae x (by simp[ho,Op.operands]);have H9:=Ae y (by simp[ho,Op.operands]);rw[hx]at Hp;rw[Nc hy]at H9;have Hq:a.eval x=.string ⟨s.toArray⟩:=Hp;have Q8:a.eval y=.int k i:=H9;have Ao:i.toNat<s.length:=by omega
 have HV:(⟨s.toArray⟩:ByteArray)[i.toNat]?=some s[i.toNat]:=by have C3:i.toNat<(⟨s.toArray⟩:ByteArray).size:=Ao;rw[getElem?_pos (⟨s.toArray⟩:ByteArray) i.toNat C3];rfl
 have hd:s.getD i.toNat 0=s[i.toNat]:=by simp[List.getD,Ao]
 rw[hd];simp[execOp,ho,Hq,Q8,Instr.index,asIntOf,run_underlying f.under,h0,HV]
theorem TReps.get{E:Env}:∀{ts:List (Bool×List C)}{vs:List Value}{i:Nat}{t:Bool×List C},TReps E ts vs->ts[i]?=some t->∃v,vs[i]?=some v/\SRep E t.1 t.2 v
 |[],_,i,t,_,h=>by simp at h
 |t0::ts,_,0,t,⟨v,Ap,e,h1,h2⟩,h=>by simp only[D1,Af]at h;subst h e;exact⟨v,rfl,h1⟩
 |t0::ts,_,i+1,t,⟨v,Ap,e,h1,h2⟩,h=>by subst e;obtain⟨u,h3,h4⟩:=TReps.get (i:=i) h2 (by simpa using h);exact⟨u,by simpa using h3,h4⟩
theorem AkZ{kk:K β}{x:Operand}{i:Nat}(ho:o.op=.extract x i){ts:List (Bool×List C)}(hx:ρ x=.tup ts){t:Bool×List C}(ht:ts[i]?=some t)(hk:kk (V.mk t.1 t.2) [] []=some r):Sound P o ρ bl kk r:=by refine Sound.pure hk λAa _ ok0 base pl w a hr Ae=>?_;have h1:=Ae x (by simp[ho,Op.operands]);rw[hx]at h1;obtain⟨vs,hv,FN⟩:=h1;obtain⟨v,Gf,hs⟩:=TReps.get FN ht;refine⟨v,?_,VRep.mk hs⟩;simp[execOp,ho,hv,Instr.extract,Gf]
theorem y7{E:Env}{isMax:Bool}{k:IntKind}:∀{vs:List V}{us:List Value}{a:Int}{v:V},Rf isMax k a vs=some v->vs.length=us.length->(∀(j:Nat)(x:V)(u:Value),vs[j]?=some x->us[j]?=some u->VRep E x u)->∀w,∃n,v=.c (.int k n)/\(us.foldlM (bif isMax then Builtin.max2 else Builtin.min2) (.int k a)).run P w=.ok (.int k n) w
 |[],us,a,v,h,hl,hv,w=>by
  simp only[Rf,Af]at h;cases us with
  |nil=>exact⟨a,h.symm,rfl⟩
  |cons u us=>simp at hl
 |x::vs,us,a,v,h,hl,hv,w=>by
  cases us with
  |nil=>simp at hl
  |cons u us=>
   unfold Rf at h;split at h
   ·rename_i DD;cases DD
   ·rename_i a' k' b r' DD
    injection DD with h1 h2;subst h1 h2;split at h
    ·rename_i Ob
     subst Ob;have hu:u=.int k b:=hv 0 _ _ rfl rfl;subst hu;obtain⟨n,h3,h4⟩:=y7 h (by simpa using hl) (λj x u hj hu=>hv (j+1) x u (by simpa using hj) (by simpa using hu)) w;refine⟨n,h3,?_⟩;rw[List.foldlM_cons];cases isMax with
     |true=>simp only[Am,Sem.run_bind,Builtin.max2,Sem.run_pure,Result.andThen_ok]at h4⊢;exact h4
     |false=>simp only[Cj,Sem.run_bind,Builtin.min2,Sem.run_pure,Result.andThen_ok]at h4⊢;exact h4
    ·cases h
   ·cases h
theorem y8{isMax:Bool}{kk:K β}{c:Call}(ho:o.op=.call c)(hc:c.callee=.builtin (bif isMax then .max else .min)){v:V}(hm:VX isMax (c.args.toList.map ρ)=some v)(hk:kk v [] []=some r):Sound P o ρ bl kk r:=by
 refine Sound.pure hk λAa _ ok0 base pl w a hr Ae=>?_
 have Dp:∀(j:Nat)(x:V)(u:Value),(c.args.toList.map ρ)[j]?=some x->(c.args.toList.map a.eval)[j]?=some u->VRep (Al ok0 base pl Aa w) x u:=by
  intro j x u hj hu;rw[FI]at hj hu;cases Uu:c.args.toList[j]? with
  |none=>rw[Uu]at hj;cases hj
  |some y=>rw[Uu]at hj hu;simp only[EM,Af]at hj hu;subst hj hu;exact Ae y (by simp only[ho,Op.operands,Call.operands,VG];exact .inr (by have:=CI Uu;simpa using this))
 have hl:(c.args.toList.map ρ).length=(c.args.toList.map a.eval).length:=by simp
 generalize c.args.toList.map ρ=vs at hm Dp hl;generalize CC:c.args.toList.map a.eval=us at Dp hl;unfold VX at hm;split at hm
 ·rename_i k a0 r'
  cases us with
  |nil=>simp at hl
  |cons u us=>
   have hu:u=.int k a0:=Dp 0 _ _ rfl rfl;subst hu;obtain⟨n,h3,h4⟩:=y7 (P:=P) hm (by simpa using hl) (λj x u hj hu=>Dp (j+1) x u (by simpa using hj) (by simpa using hu)) w;subst h3;refine⟨.int k n,?_,rfl⟩;cases isMax with
   |true=>simp only[Am]at h4 hc;simp[execOp,ho,resolve,hc,invoke,builtin,Builtin.max_,CC,h4]
   |false=>simp only[Cj]at h4 hc;simp[execOp,ho,resolve,hc,invoke,builtin,Builtin.min_,CC,h4]
 ·cases hm
end
end Go.Lift
namespace Go.Lift
open Go.RowKit
theorem y9{i:Nat}:∀{n s:Nat},i∈AH s n↔s<=i/\i<s+n
 |0,s=>by simp only[AH,EX,false_iff];omega
 |n+1,s=>by simp only[AH,Bf,y9 (n:=n)];omega
theorem eT:∀{n s:Nat},(AH s n).length=n
 |0,_=>rfl
 |n+1,s=>by simp[AH,eT (n:=n)]
theorem eU:∀{n s b:Nat},b<n->(AH s n)[b]?=some (s+b)
 |0,_,_,h=>by omega
 |n+1,s,0,_=>rfl
 |n+1,s,b+1,h=>by simp only[AH,DI];rw[eU (n:=n) (by omega)];congr 1;omega
theorem eV:∀{n s:Nat},(AH s n).Nodup
 |0,_=>List.nodup_nil
 |n+1,s=>KJ.2 ⟨λh=>by have:=y9.1 h;omega,eV⟩
theorem eW{bl:Nat->Option Blk}:∀{l:List Nat},OY bl l=true->∀i∈l,bl i=none
 |[],_,i,h=>by simp at h
 |j::r,h,i,hi=>by
  simp only[OY]at h;split at h
  ·rename_i hj
   rcases Bf.1 hi with rfl|hi
   ·exact hj
   ·exact eW h i hi
  ·cases h
structure Ren (E E':Env) (ids AU:List Nat):Prop where
 cells:∀b i g,ids[b]?=some i->E.pl i=some (.cells g)->E'.pl (AU.getD b 0)=some (.cells g)
 row:∀b i sv Ab t e ver l,ids[b]?=some i->E.bl i=some (.row t e ver l)->E.pl i=some (.row sv Ab)->E'.pl (AU.getD b 0)=some (.row sv Ab)
 mat:∀b i sv Ab t et e ver Ag hole l,ids[b]?=some i->E.bl i=some (.mat t et e ver Ag hole l)->E.pl i=some (.row sv Ab)->E'.pl (AU.getD b 0)=some (.row sv Ab)
 tree:∀b i sv Ab t e ver Ag l,ids[b]?=some i->E.bl i=some (.tree t e ver Ag none l)->E.pl i=some (.row sv Ab)->E'.pl (AU.getD b 0)=some (.row sv Ab)
 treeB:∀b i t e ver Ag l t' e' ver' Bp h' l',ids[b]?=some i->E.bl i=some (.tree t e ver Ag none l)->E'.bl (AU.getD b 0)=some (.tree t' e' ver' Bp h' l')->Blk.tree t' e' ver' Bp h' l'=.tree t e 0 0 none l
 nil:∀b i,ids[b]?=some i->E.bl i=none->E'.pl (AU.getD b 0)=some (.row (.slice none 0 0) [])
theorem eX{E E':Env}{ids AU:List Nat}(hr:Ren E E' ids AU):∀(B4 Hk gs:List Nat),B4.map (ids[·]?)=Hk.map some->Hk.map E.pl=gs.map (λg=>some (.cells g))->(B4.map λb=>AU.getD b 0).map E'.pl=gs.map (λg=>some (.cells g))
 |[],Hk,gs,h,hg=>by
  cases Hk with
  |nil=>cases gs<;>simp_all
  |cons b bs=>simp at h
 |b::bs,Hk,gs,h,hg=>by
  cases Hk with
  |nil=>simp at h
  |cons b' Mr=>
   cases gs with
   |nil=>simp at hg
   |cons g gs=>simp only[CE,De]at h hg⊢;exact⟨hr.cells b b' g h.1 hg.1,eX hr bs Mr gs h.2 hg.2⟩
theorem eY{i:Nat}:∀{ks:List Nat}{p:Path}{x:WayT ks},MV i ks p=some x->wayP ks x=p/\wayI ks x=i
 |[],[],x,h=>by simp only[MV,Af]at h;exact⟨rfl,h.symm⟩
 |[],_::_,x,h=>by simp[MV]at h
 |_::_,[],x,h=>by simp[MV]at h
 |k::ks,(j,m)::p,x,h=>by
  simp only[MV]at h;cases hk:Nat.beq k m with
  |false=>rw[hk]at h;cases h
  |true=>
   rw[hk,Am]at h;have:=As hk;subst this;split at h
   ·rename_i y hy
    simp only[Af]at h;subst h;obtain⟨h1,h2⟩:=eY hy;exact⟨by simp only[wayP,h1],h2⟩
   ·cases h
theorem FT{E E':Env}{blp:Nat->Option Blk}{ids AU:List Nat}(hb:DN E)(hw:E'.w=E.w)(hr:Ren E E' ids AU)(AO:∀i∈ids,blp i=E.bl i):∀{l:List CT}{cs:List C}{vs:List Value}{y:CT.dens l},Rows E blp E'.ok (Ct cs)->CReps E cs vs->Bc blp ids l cs=some y->CReps E' (mkC AU l y) vs
 |[],cs,vs,y,AB,h,hp=>by
  cases cs with
  |nil=>exact h
  |cons c cs=>simp[Bc]at hp
 |.data τ::l,cs,vs,y,AB,h,hp=>by
  simp only[Bc]at hp;split at hp
  ·cases hp
  ·rename_i x r hx
   split at hp
   ·cases hp
   ·rename_i y' hy
    simp only[Af]at hp;subst hp;obtain⟨us,ws,e,d,c,ds,hc⟩:=MZ hb AB h hx;have AzT:Rows E blp E'.ok (Ct r):=AB.sub λb Dv=>by rw[hc,Rv];exact D7 _ Dv
    rw[e];refine CReps.append ?_ (FT hb hw hr AO AzT c hy);exact Hv (by rw[hw];exact d)
 |.ptr b o::l,cs,vs,y,AB,h,hp=>by
  cases cs with
  |nil=>simp[Bc]at hp
  |cons c cs=>
   cases c<;>simp only[Bc]at hp<;>try(cases hp;done)
   rename_i b' o';split at hp
   ·rename_i i hi
    cases hc:(Nat.beq i b'&&Nat.beq o o')with
    |false=>rw[hc]at hp;cases hp
    |true=>simp only[hc,Am]at hp;obtain⟨h1,h2⟩:=andB hc;have h1:=As h1;have h2:=As h2;subst h1 h2;obtain⟨v,Ap,e,⟨g,hg,hv⟩,ht⟩:=h;exact⟨v,Ap,e,⟨g,hr.cells b i g hi hg,hv⟩,FT hb hw hr AO AB.tail ht hp⟩
   ·cases hp
 |.rowh b::l,cs,vs,y,AB,h,hp=>by
  cases cs with
  |nil=>simp[Bc]at hp
  |cons c cs=>
   cases c<;>simp only[Bc]at hp<;>try(cases hp;done)
   ·
    split at hp
    ·rename_i i hi
     split at hp
     ·rename_i hn
      obtain⟨v,Ap,e,hv,ht⟩:=h;simp only[CRep]at hv;subst hv;have DR:E.bl i=none:=by rw[<-AO i (CI hi)];exact hn
      exact⟨_,Ap,e,⟨rfl,_,_,hr.nil b i hi DR,λ_ _ _ _ _=>⟨DM _,λ_=>rfl⟩⟩,FT hb hw hr AO AB.tail ht hp⟩
     ·cases hp
    ·cases hp
   ·rename_i b' ver
    split at hp
    ·rename_i i hi
     cases hc:Nat.beq i b' with
     |false=>rw[hc]at hp;cases hp
     |true=>
      have:=As hc;subst this;simp only[hc,Am]at hp;split at hp
      ·rename_i t e ver' l' Aj
       cases Cc:Nat.beq ver ver' with
       |false=>rw[Cc]at hp;cases hp
       |true=>
        have:=As Cc;subst this;simp only[Cc,Am]at hp;obtain⟨v,Ap,ev,⟨h1,sv,Ab,Aq,AT⟩,ht⟩:=h;have DC:E.bl i=some (.row t e ver l'):=by rw[<-AO i (CI hi)];exact Aj
        have Dp:=(AT t e ver l' DC).2 rfl;exact⟨v,Ap,ev,⟨h1,sv,Ab,hr.row b i sv Ab t e ver l' hi DC Aq,λ_ _ _ _ _=>⟨DM _,λ_=>Dp⟩⟩,FT hb hw hr AO AB.tail ht hp⟩
      ·cases hp
    ·cases hp
 |.fn f B4::l,cs,vs,y,AB,h,hp=>by
  cases cs with
  |nil=>simp[Bc]at hp
  |cons c cs=>
   cases c<;>simp only[Bc]at hp<;>try(cases hp;done)
   rename_i f' Hk;cases hc:(Nat.beq f f'&&decide (B4.map (ids[·]?)=Hk.map some))with
   |false=>rw[hc]at hp;cases hp
   |true=>simp only[hc,Am]at hp;obtain⟨h1,h2⟩:=andB hc;have h1:=As h1;have h2:=AV h2;subst h1;obtain⟨v,Ap,e,⟨gs,hg,hv⟩,ht⟩:=h;refine⟨v,Ap,e,⟨gs,?_,hv⟩,FT hb hw hr AO AB.tail ht hp⟩;exact eX hr B4 Hk gs h2 hg
 |.bfnh f b::l,cs,vs,y,AB,h,hp=>by
  cases cs with
  |nil=>simp[Bc]at hp
  |cons c cs=>
   cases c<;>simp only[Bc]at hp<;>try(cases hp;done)
   rename_i f' b';split at hp
   ·rename_i i hi
    cases hc:(Nat.beq f f'&&Nat.beq i b')with
    |false=>rw[hc]at hp;cases hp
    |true=>simp only[hc,Am]at hp;obtain⟨h1,h2⟩:=andB hc;have h1:=As h1;have h2:=As h2;subst h1;subst h2;obtain⟨v,Ap,e,⟨g,hg,hv⟩,ht⟩:=h;exact⟨v,Ap,e,⟨g,hr.cells b i g hi hg,hv⟩,FT hb hw hr AO AB.tail ht hp⟩
   ·cases hp
 |.bself b::l,cs,vs,y,AB,h,hp=>by
  cases cs with
  |nil=>simp[Bc]at hp
  |cons c cs=>
   cases c<;>simp only[Bc]at hp<;>try(cases hp;done)
   ·obtain⟨v,Ap,e,hv,ht⟩:=h
    exact⟨v,Ap,e,.inl hv,FT hb hw hr AO AB.tail ht hp⟩
   ·rename_i b'
    split at hp
    ·rename_i i hi
     cases hc:Nat.beq i b' with
     |false=>rw[hc]at hp;cases hp
     |true=>
      simp only[hc,Am]at hp;have h1:=As hc;subst h1;obtain⟨v,Ap,e,hg,ht⟩:=h;refine⟨v,Ap,e,?_,FT hb hw hr AO AB.tail ht hp⟩;rcases hg with hg|⟨g,hg,hv⟩
      ·exact .inl hg
      ·exact .inr ⟨g,hr.cells b i g hi hg,hv⟩
    ·cases hp
 |.maph b::l,cs,vs,y,AB,h,hp=>by
  cases cs with
  |nil=>simp[Bc]at hp
  |cons c cs=>
   cases c<;>simp only[Bc]at hp<;>try(cases hp;done)
   rename_i b';split at hp
   ·rename_i i hi
    cases hc:Nat.beq i b' with
    |false=>rw[hc]at hp;cases hp
    |true=>simp only[hc,Am]at hp;have h1:=As hc;subst h1;obtain⟨v,Ap,e,⟨g,hg,hv⟩,ht⟩:=h;exact⟨v,Ap,e,⟨g,hr.cells b i g hi hg,hv⟩,FT hb hw hr AO AB.tail ht hp⟩
   ·cases hp
 |.math b::l,cs,vs,y,AB,h,hp=>by
  cases cs with
  |nil=>simp[Bc]at hp
  |cons c cs=>
   cases c<;>simp only[Bc]at hp<;>try(cases hp;done)
   ·
    split at hp
    ·rename_i i hi
     split at hp
     ·rename_i hn
      obtain⟨v,Ap,e,hv,ht⟩:=h;simp only[CRep]at hv;subst hv;have DR:E.bl i=none:=by rw[<-AO i (CI hi)];exact hn
      exact⟨_,Ap,e,⟨rfl,_,_,hr.nil b i hi DR,λ_ _ _ _ _ _ _ _=>⟨DM _,λ_=>rfl⟩⟩,FT hb hw hr AO AB.tail ht hp⟩
     ·cases hp
    ·cases hp
   ·rename_i b' ver
    split at hp
    ·rename_i i hi
     cases hc:Nat.beq i b' with
     |false=>rw[hc]at hp;cases hp
     |true=>
      have:=As hc;subst this;simp only[hc,Am]at hp;split at hp
      ·rename_i t et e ver' Ag l' Aj
       cases Cc:Nat.beq ver ver' with
       |false=>rw[Cc]at hp;cases hp
       |true=>
        have:=As Cc;subst this;simp only[Cc,Am]at hp;obtain⟨v,Ap,ev,⟨h1,sv,Ab,Aq,AT⟩,ht⟩:=h;have DC:E.bl i=some (.mat t et e ver Ag none l'):=by rw[<-AO i (CI hi)];exact Aj
        have Dp:=(AT _ _ _ _ _ _ _ DC).2 rfl;exact⟨v,Ap,ev,⟨h1,sv,Ab,hr.mat b i sv Ab _ _ _ _ _ _ _ hi DC Aq,λ_ _ _ _ _ _ _ _=>⟨DM _,λ_=>Dp⟩⟩,FT hb hw hr AO AB.tail ht hp⟩
      ·cases hp
    ·cases hp
 |.tptrh b ks o::l,cs,vs,y,AB,h,hp=>by
  cases cs with
  |nil=>simp[Bc]at hp
  |cons c cs=>
   cases c<;>simp only[Bc]at hp<;>try(cases hp;done)
   rename_i b' ver p ix o';split at hp
   ·rename_i i hi
    cases hc:(Nat.beq i b'&&Nat.beq o o')with
    |false=>rw[hc]at hp;cases hp
    |true=>
     rw[hc,Am]at hp;obtain⟨h1,h2⟩:=andB hc;have h1:=As h1;have h2:=As h2;subst h1 h2;split at hp
     ·rename_i t e ver' Bp l' Aj
      cases Cc:Nat.beq ver (tv ver' Bp p)with
      |false=>rw[Cc]at hp;cases hp
      |true=>
       have:=As Cc;subst this;rw[Cc,Am]at hp;split at hp
       ·rename_i x hx
        split at hp
        ·rename_i y' hy
         simp only[Af]at hp;subst hp;obtain⟨w1,w2⟩:=eY hx;obtain⟨v,Ap,ev,⟨sv,Ab,ad,Aq,uU,AT⟩,ht⟩:=h;have DC:E.bl i=some (.tree t e ver' Bp none l'):=by rw[<-AO i (CI hi)];exact Aj
         refine⟨v,Ap,ev,⟨sv,Ab,ad,hr.tree b i sv Ab _ _ _ _ _ hi DC Aq,uU,λt2 e2 Ij QA Qv l2 Ah=>?_⟩,FT hb hw hr AO AB.tail ht hy⟩;have:=hr.treeB b i _ _ _ _ _ _ _ _ _ _ _ hi DC Ah;injection this with q1 q2 q3 q4 q5 q6;subst q1 q2 q3 q4 q5;simp only[In]at q6;subst q6;rw[w1,w2];exact⟨DM _,λ_ _=>(AT _ _ _ _ _ _ DC).2 rfl λ_ h=>by cases h⟩
        ·cases hp
       ·cases hp
     ·cases hp
   ·cases hp
 |.trowh b::l,[],vs,y,AB,h,hp=>by simp[Bc]at hp
 |.trowh b::l,.nils::cs,vs,y,AB,h,hp=>by
  simp only[Bc]at hp;split at hp
  ·rename_i i hi
   split at hp
   ·rename_i hn
    obtain⟨v,Ap,e,hv,ht⟩:=h;simp only[CRep]at hv;subst hv;have DR:E.bl i=none:=by rw[<-AO i (CI hi)];exact hn
    exact⟨_,Ap,e,⟨rfl,_,_,hr.nil b i hi DR,λ_ _ _ _ _ _ _=>⟨DM _,λ_ _=>⟨_,rfl,rfl⟩⟩⟩,FT hb hw hr AO AB.tail ht hp⟩
   ·cases hp
  ·cases hp
 |.trowh b::l,.trow b' ver []::cs,vs,y,AB,h,hp=>by
  simp only[Bc]at hp;split at hp
  ·rename_i i hi
   cases hc:Nat.beq i b' with
   |false=>rw[hc]at hp;cases hp
   |true=>
    have:=As hc;subst this;simp only[hc,Am]at hp;split at hp
    ·rename_i t e ver' Bp l' Aj
     cases Cc:Nat.beq ver ver' with
     |false=>rw[Cc]at hp;cases hp
     |true=>
      have:=As Cc;subst this;simp only[Cc,Am]at hp;obtain⟨v,Ap,ev,⟨h1,sv,Ab,Aq,AT⟩,ht⟩:=h;have DC:E.bl i=some (.tree t e ver Bp none l'):=by rw[<-AO i (CI hi)];exact Aj
      obtain⟨n,q1,q2⟩:=(AT _ _ _ _ _ _ DC).2 rfl (λq h=>by cases h);have g1:=hr.tree b i sv Ab _ _ _ _ _ hi DC Aq;exact⟨v,Ap,ev,⟨h1,sv,Ab,g1,λ_ _ _ _ _ _ _=>⟨DM _,λ_ _=>⟨_,rfl,q2⟩⟩⟩,FT hb hw hr AO AB.tail ht hp⟩
    ·cases hp
  ·cases hp
 |.trowh b::l,.trow b' ver (_::_)::cs,vs,y,AB,h,hp=>by simp[Bc]at hp
 |.trowh b::l,.bool _::cs,vs,y,AB,h,hp|.trowh b::l,.int _ _::cs,vs,y,AB,h,hp|.trowh b::l,.str _::cs,vs,y,AB,h,hp|.trowh b::l,.err _::cs,vs,y,AB,h,hp
 |.trowh b::l,.list _ _::cs,vs,y,AB,h,hp|.trowh b::l,.nilc::cs,vs,y,AB,h,hp|.trowh b::l,.lsome _ _::cs,vs,y,AB,h,hp|.trowh b::l,.nilp::cs,vs,y,AB,h,hp
 |.trowh b::l,.ptr _ _::cs,vs,y,AB,h,hp|.trowh b::l,.row _ _::cs,vs,y,AB,h,hp|.trowh b::l,.fn _ _::cs,vs,y,AB,h,hp|.trowh b::l,.nilfn::cs,vs,y,AB,h,hp|.trowh b::l,.bfn _ _::cs,vs,y,AB,h,hp|.trowh b::l,.tptr _ _ _ _ _::cs,vs,y,AB,h,hp
 |.trowh b::l,.mapv _::cs,vs,y,AB,h,hp|.trowh b::l,.mat _ _::cs,vs,y,AB,h,hp|.trowh b::l,.mrow _ _ _::cs,vs,y,AB,h,hp|.trowh b::l,.sub _ _ _ _::cs,vs,y,AB,h,hp
 |.trowh b::l,.bself _::cs,vs,y,AB,h,hp|.trowh b::l,.junk::cs,vs,y,AB,h,hp=>by simp[Bc]at hp
 |.nilc::l,cs,vs,y,AB,h,hp=>by
  cases cs with
  |nil=>simp[Bc]at hp
  |cons c cs=>cases c<;>simp[Bc]at hp
 |.lsome _::l,cs,vs,y,AB,h,hp=>by
  cases cs with
  |nil=>simp[Bc]at hp
  |cons c cs=>cases c<;>simp[Bc]at hp
 |.nils::l,cs,vs,y,AB,h,hp=>by
  cases cs with
  |nil=>simp[Bc]at hp
  |cons c cs=>
   cases c<;>simp only[Bc]at hp<;>first|(cases hp;done)|skip
   obtain⟨v,Ap,e,hv,ht⟩:=h;exact⟨v,Ap,e,hv,FT hb hw hr AO AB.tail ht hp⟩
 |.junk::l,cs,vs,y,AB,h,hp=>by
  cases cs with
  |nil=>simp[Bc]at hp
  |cons c cs=>simp only[Bc]at hp;obtain⟨v,Ap,e,hv,ht⟩:=h;exact⟨v,Ap,e,CRep.oneCell hv,FT hb hw hr AO AB.tail ht hp⟩
def VReps(E:Env):List V->List Value->Prop
 |[],us=>us=[]
 |v::vs,us=>∃u C4,us=u::C4/\VRep E v u/\VReps E vs C4
theorem yA{v:V}{vs:List V}{cs:List C}(h:v.cells=some cs):Cy (v::vs)=Ct cs++Cy vs:=by simp[Cy,h]
theorem eZ{E E':Env}{blp:Nat->Option Blk}{ids AU:List Nat}(hb:DN E)(hw:E'.w=E.w)(hr:Ren E E' ids AU)(AO:∀i∈ids,blp i=E.bl i):∀{l:List (Bool×List CT)}{vs:List V}{us:List Value}{y:ST.dens l},Rows E blp E'.ok (Cy vs)->VReps E vs us->G6 blp ids l vs=some y->TReps E' (mkS AU l y) us
 |[],vs,us,y,AB,h,hp=>by
  cases vs with
  |nil=>exact h
  |cons v vs=>simp[G6]at hp
 |t::l,vs,us,y,AB,h,hp=>by
  cases vs with
  |nil=>simp[G6]at hp
  |cons v vs=>
   obtain⟨u,C4,e,hv,ht⟩:=h;obtain⟨agg,ct⟩:=t;cases agg with
   |false=>
    cases v<;>simp only[G6]at hp<;>try(cases hp;done)
    rename_i x;split at hp
    ·cases hp
    ·rename_i y1 h1
     split at hp
     ·cases hp
     ·rename_i z h2
      simp only[Af]at hp;subst hp;have Fs:Cy (V.c x::vs)=Ct [x]++Cy vs:=yA rfl;refine⟨u,C4,e,⟨[u],?_,by simp⟩,eZ hb hw hr AO (AB.sub λb Dv=>by rw[Fs];exact D7 _ Dv) ht h2⟩;exact FT hb hw hr AO (AB.sub λb Dv=>by rw[Fs];exact Dl _ Dv) (show CReps E [x] [u]from⟨u,[],rfl,hv,rfl⟩) h1
   |true=>
    cases v<;>simp only[G6]at hp<;>try(cases hp;done)
    rename_i cs;split at hp
    ·cases hp
    ·rename_i y1 h1
     split at hp
     ·cases hp
     ·rename_i z h2
      simp only[Af]at hp;subst hp;have Fs:Cy (V.agg cs::vs)=Ct cs++Cy vs:=yA rfl;obtain⟨xs,Ae,hu⟩:=hv;refine⟨u,C4,e,⟨xs,?_,hu⟩,eZ hb hw hr AO (AB.sub λb Dv=>by rw[Fs];exact D7 _ Dv) ht h2⟩;exact FT hb hw hr AO (AB.sub λb Dv=>by rw[Fs];exact Dl _ Dv) Ae h1
theorem yB{E E':Env}{blp:Nat->Option Blk}{ids AU:List Nat}(hb:DN E)(hw:E'.w=E.w)(hr:Ren E E' ids AU)(AO:∀i∈ids,blp i=E.bl i):∀{l:List BT}{is:List Nat}{y:BT.dens l},Rows E blp E'.ok (IQ blp is)->(∀i∈is,i∈ids)->FS blp ids l is=some y->is.length=l.length/\∀(j i:Nat),is[j]?=some i->∃g B,E.pl i=some (.cells g)/\(mkB AU l y)[j]?=some B/\BRep E' B (.cells g)/\B.live=true
 |[],is,y,AB,C9,hp=>by
  cases is with
  |nil=>exact⟨rfl,λj i h=>by simp at h⟩
  |cons i is=>simp[FS]at hp
 |.row t e::r,is,y,AB,C9,hp=>by cases is<;>simp[FS]at hp
 |.map t k v vg::r,is,y,AB,C9,hp=>by cases is<;>simp[FS]at hp
 |.mat t et e::r,is,y,AB,C9,hp=>by cases is<;>simp[FS]at hp
 |.tree t e::r,is,y,AB,C9,hp=>by cases is<;>simp[FS]at hp
 |.fmap t l::r,is,y,AB,C9,hp=>by cases is<;>simp[FS]at hp
 |.cells t l::r,is,y,AB,C9,hp=>by
  cases is with
  |nil=>simp[FS]at hp
  |cons i is=>
   simp only[FS]at hp;split at hp
   ·rename_i t' cs Aj
    cases ht:Nat.beq t t' with
    |false=>rw[ht]at hp;cases hp
    |true=>
     have:=As ht;subst this;simp only[ht,Am]at hp;split at hp
     ·cases hp
     ·rename_i y1 h1
      split at hp
      ·cases hp
      ·rename_i z h2
       simp only[Af]at hp;subst hp;have Fs:IQ blp (i::is)=Ct cs++IQ blp is:=by simp[IQ,Aj]
       obtain⟨hl,DE⟩:=yB hb hw hr AO (AB.sub λb Dv=>by rw[Fs];exact D7 _ Dv) (λj hj=>C9 j (Dm _ hj)) h2;refine⟨by simp[hl],λj k hj=>?_⟩;cases j with
       |zero=>
        simp only[D1,Af]at hj;subst hj;have DC:E.bl i=some (.cells t cs):=by rw[<-AO i (C9 i (by simp))];exact Aj
        obtain⟨p,Dh,hB⟩:=hb i _ DC;cases p with
        |row _ _=>exact hB.elim
        |cells g=>obtain⟨vs,hh,CH⟩:=hB;refine⟨g,_,Dh,rfl,⟨vs,by rw[hw];exact hh,?_⟩,rfl⟩;exact FT hb hw hr AO (AB.sub λb Dv=>by rw[Fs];exact Dl _ Dv) CH h1
       |succ j=>obtain⟨g,B,h3,h4,h5,h6⟩:=DE j k (by simpa using hj);exact⟨g,B,h3,by simpa [mkB]using h4,h5,h6⟩
   ·cases hp
theorem FU{ids:List Nat}:∀{l:List BT}{y:BT.dens l},(mkB ids l y).length=l.length
 |[],_=>rfl
 |.cells _ _::r,y=>by simp[mkB,FU (l:=r)]
 |.row _ _::r,y=>by simp[mkB,FU (l:=r)]
 |.map _ _ _ _::r,y=>by simp[mkB,FU (l:=r)]
 |.mat _ _ _::r,y=>by simp[mkB,FU (l:=r)]
 |.tree _ _::r,y=>by simp[mkB,FU (l:=r)]
 |.fmap _ _::r,y=>by simp[mkB,FU (l:=r)]
end Go.Lift
