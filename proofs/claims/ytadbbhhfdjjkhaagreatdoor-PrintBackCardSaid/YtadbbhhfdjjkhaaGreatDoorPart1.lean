/- Part1: LiftG, LiftH, LiftI, LiftJ, LiftJm, LiftJn, LiftJq, LiftJt, LiftK, LiftL. -/
import Derived.ChangeKeysEq
import Derived.WideLaws
import Derived.Laws.Pointers
import Derived.MapKept
import Derived.Maps.AppendAt
import Derived.Lib.Strings
import Derived.Laws.CopyRow
import Derived.Laws.BytesArg
import Derived.Test.YtadbbhhfdjjkhaaGreatDoorPart0
set_option linter.unusedVariables false
set_option linter.unusedSectionVars false
set_option linter.unusedSimpArgs false
namespace Go.Lift
open Go.RowKit
theorem DR{a b:Nat}(h:Nat.blt a b=true):a<b:=by have:=HQ h;omega
section
variable{P:Program}{o:Oper}{ρ:Operand->V}{bl:Nat->Option Blk}{β:Type}{r:β}
theorem lV{β:Type}{i:Int}{kk:Nat->Option β}{r:β}:∀{m j:Nat},Qr i kk j m=some r->∃q,j<=q/\i=(q:Int)/\kk q=some r/\q<j+m
 |0,j,h=>by simp[Qr]at h
 |m+1,j,h=>by
  simp only[Qr]at h;cases hd:decide (i=(j:Int))with
  |true=>rw[hd]at h;exact⟨j,AQ _,Bv hd,h,by omega⟩
  |false=>rw[hd]at h;obtain⟨q,h1,h2,h3,h4⟩:=lV (m:=m) h;exact⟨q,by omega,h2,h3,by omega⟩
theorem Ot{x:V}{k:IntKind}{n:Int}(h:ival x=some (k,n)):x=.c (.int k n):=by
 unfold ival at h;split at h
 ·simp only[Ag,BQ]at h
  rw[h.1,h.2]
 ·cases h
theorem AcB{t:TypeId}{ti:TI}{i:TypeInfo}{d:TypeDesc}{z:Value}(f:TFacts P t ti i d z){k off n:Nat}{g:Bool}(h:ti.flds[k]?=some (off,n,g)):∃fs fd j e,d=.struct fs/\fs[k]?=some fd/\fd.offset=off/\P.info? fd.type=some j/\j.size=n/\P.underlying fd.type=some e/\IS P fd.type=g:=by
 rw[f.flds]at h;unfold Yt at h;split at h
 ·rename_i fs
  rw[FT]at h;cases hk:fs.toList[k]? with
  |none=>rw[hk]at h;cases h
  |some fd=>rw[hk]at h;simp only[Fa,Ag,BQ]at h;have Ds:fd∈fs.toList:=Dg hk;have DO:=f.known;simp only[Q3,Eh]at DO;have h1:=DO fd Ds;simp only[CE,jX]at h1;obtain⟨⟨j,hj⟩,⟨e,he⟩⟩:=h1;refine⟨fs,fd,j,e,rfl,by simpa using hk,h.1,hj,?_,he,h.2.2⟩;rw[<-h.2.1];simp[Program.cellsOf,hj]
 ·simp at h
theorem App{fd:Field}{j:TypeInfo}(hj:P.info? fd.type=some j)(hs:j.size≠0)(a:Addr)(w:World):(fieldPlace a fd).run P w=.ok (a.add fd.offset) w:=by simp[fieldPlace,sizeOf,typeInfo,hj,hs]
theorem Apq{T:TypeId->Option TI}(hT:TOk P T){kk:K β}{t:TypeId}{x:Operand}{fi:Nat}(ho:o.op=.fieldAddr t x fi)(hk:kI T t (ρ x) fi kk=some r):Sound P o ρ bl kk r:=by
 unfold kI at hk;split at hk
 ·cases hk
 rename_i ti ht;obtain⟨i,d,z,f⟩:=hT.facts ht;split at hk
 ·cases hk
 rename_i off n g hf;obtain⟨fs,fd,j,e,rfl,RH,rfl,hj,AGA,he,hg⟩:=AcB f hf;cases hn:Nat.beq n 0 with
 |true=>rw[hn]at hk;cases hk
 |false=>
  simp only[hn,Cd]at hk;have hs:j.size≠0:=by rw[AGA];rintro rfl;cases hn
  have AM:∀(a:Act)(w:World)(ad:Addr),a.eval x=.pointer (some ad)->(execOp a.eval o).run P w=.ok (.value (.pointer (some (ad.add fd.offset)))) w:=by intro a w ad ha;simp[execOp,ho,ha,Instr.fieldAt,run_underlying f.under,RH,Instr.sureAddr,App hj hs]
  split at hk
  ·rename_i b of hx
   refine Sound.pure hk λAa _ ok0 base pl w a hr Af=>?_;have hv:=Af x (by simp[ho,Op.operands]);rw[hx]at hv;obtain⟨g',CJ,B7⟩:=hv;refine⟨_,AM a w _ B7,g',CJ,?_⟩;rw[Addr.add_lit]
  ·rename_i b ver ix of hx
   refine Sound.pure hk λAa _ ok0 base pl w a hr Af=>?_;have hv:=Af x (by simp[ho,Op.operands]);rw[hx]at hv;obtain⟨sv,Ac,ad,CJ,B7,Bt⟩:=hv;refine⟨_,AM a w _ B7,sv,Ac,_,CJ,rfl,λt1 e1 Dc l1 BH=>?_⟩;obtain⟨h1,h2⟩:=Bt t1 e1 Dc l1 BH;refine⟨h1,λhe=>?_⟩;obtain⟨h3,g',n',c',h4,rfl⟩:=h2 he;exact⟨h3,g',n',c',h4,by rw[Addr.add_lit,Qk]⟩
  ·rename_i e' x0 of hx
   refine Sound.pure hk λAa _ ok0 base pl w a hr Af=>?_;have hv:=Af x (by simp[ho,Op.operands]);rw[hx]at hv;obtain⟨xs,ad,hd,B7,hc⟩:=hv;refine⟨_,AM a w _ B7,xs,_,hd,rfl,λj' u GU=>?_⟩;rw[LE,MT]
   have h2:(xs.drop of)[fd.offset+j']?=some u:=by rw[NV]at GU⊢;rw[<-GU];congr 1;omega
   obtain⟨h3,h4⟩:=hc _ u h2;exact⟨h3,h4⟩
  ·rename_i b ver p ix of hx
   refine Sound.pure hk λAa _ ok0 base pl w a hr Af=>?_;have hv:=Af x (by simp[ho,Op.operands]);rw[hx]at hv;obtain⟨sv,Ac,ad,CJ,B7,Bt⟩:=hv;refine⟨_,AM a w _ B7,sv,Ac,_,CJ,rfl,λt1 e1 Dc Hz h1 l1 BH=>?_⟩;obtain⟨h1,h2⟩:=Bt t1 e1 Dc Hz h1 l1 BH;refine⟨h1,λhe ho=>?_⟩;obtain⟨n',s,h3,h4,h5,g',m',c',h6,rfl⟩:=h2 he ho;exact⟨n',s,h3,h4,h5,g',m',c',h6,by rw[Addr.add_lit,Qk]⟩
  ·cases hk
theorem SW{t:TypeId}{ti:TI}{i:TypeInfo}{d:TypeDesc}{z:Value}(f:TFacts P t ti i d z){e:TypeId}{te:TI}{i':TypeInfo}{d':TypeDesc}{z':Value}(fe:TFacts P e te i' d' z')(hd:d=.slice e){k:IntKind}{ix:Int}{ad:Addr}{n c:Nat}(h0:0<=ix)(h1:ix<(n:Int))(w:World):(Instr.indexAt t (.slice (some ad) n c) (.int k ix)).run P w=.ok (.pointer (some (ad.add (ix.toNat*te.size)))) w:=by
 subst hd;have h:=f.under;simp[Instr.indexAt,asIntOf,run_underlying f.under,h0,h1,run_sizeOf fe]
theorem GM{t:TypeId}{ti:TI}{i:TypeInfo}{d:TypeDesc}{z:Value}(f:TFacts P t ti i d z){e:TypeId}(h:ti.elem=some e)(hl:ti.len=none):d=.slice e:=by rw[f.elem]at h;rw[f.alen]at hl;cases d<;>simp_all [Yu,lenD]
theorem lW{t:TypeId}{ti:TI}{i:TypeInfo}{d:TypeDesc}{z:Value}(f:TFacts P t ti i d z){e:TypeId}{n:Nat}(h:ti.elem=some e)(hl:ti.len=some n):d=.array n e:=by rw[f.elem]at h;rw[f.alen]at hl;cases d<;>simp_all [Yu,lenD]
theorem Apr{w:World}{ok:Nat->Prop}{e:Ty}{l:List e.den}{v:Value}(h:DRep w ok (.slice e) l [v]){i:Nat}(hi:i<l.length)(hs:0<e.size):∃ad c u,v=.slice (some ad) l.length c/\DRep w ok e (l.getD i e.dflt) u/\∀j x,u[j]?=some x->ok ad.block/\w.cell? (ad.add (i*e.size+j))=some x:=by
 simp only[DRep]at h;obtain⟨A,c,xs,hv,BS,Fs,hd,hx⟩:=h;obtain⟨u,p,q,Af,hp,hu⟩:=DList.get e.dflt hd hi;have iX:=hu.length;have HK:0<u.length:=by omega
 have h0:xs[i*e.size]?=some u[0]:=by rw[Af,Gn (by omega),H5 (by omega)];simp[hp]
 obtain⟨ad,rfl,_,_⟩:=hx _ _ h0;simp only[D1,Fb]at hv;refine⟨ad,c,u,hv,hu,λj x hj=>?_⟩;have Anu:j<u.length:=(EN.1 hj).1
 have h1:xs[i*e.size+j]?=some x:=by rw[Af,Gn (by omega),H5 (by omega),<-hj];congr 1;omega
 obtain⟨Aag,ha,ho,hc⟩:=hx _ _ h1;injection ha with ha;subst ha;exact⟨ho,hc⟩
theorem Aps{T:TypeId->Option TI}(hT:TOk P T){kk:K β}{t:TypeId}{x y:Operand}(ho:o.op=.indexAddr t x y)(hk:kJ T bl t (ρ x) (ρ y) kk=some r):Sound P o ρ bl kk r:=by
 unfold kJ at hk;split at hk
 ·cases hk
 rename_i k ix WJ;have hy:=Ot WJ
 have Jp:∀(a:Act)(E:Env),VRep E (ρ y) (a.eval y)->a.eval y=.int k ix:=by intro a E h;rw[hy]at h;exact h
 have AM:∀(a:Act)(w:World),execOp a.eval o=(do pure (.value (<-Instr.indexAt t (a.eval x) (a.eval y)))):=by intro a w;simp[execOp,ho]
 split at hk
 ·cases hk
 rename_i ti ht;obtain⟨i,d,z,f⟩:=hT.facts ht;split at hk
 ·
  rename_i et C2 C8;have hd:=GM f C2 C8;split at hk
  ·cases hk
  rename_i te BW;obtain⟨i',d',z',fe⟩:=hT.facts BW;split at hk
  ·rename_i e l hx
   cases hs:(Nat.beq e.size te.size&&Nat.blt 0 te.size)with
   |false=>rw[hs]at hk;cases hk
   |true=>
    obtain⟨B5,Bm⟩:=andB hs;have M2:=Az B5;have iT:0<te.size:=DR Bm;simp only[hs,Ar]at hk;obtain⟨hc,hk⟩:=DL hk;obtain⟨Dp,Cz⟩:=andB hc;have Dp:=Bv Dp;have Cz:=Bv Cz;refine Sound.pure hk λAa _ ok0 base pl w a hr Af=>?_;have hv:=Af x (by simp[ho,Op.operands]);have Jq:=Jp a _ (Af y (by simp[ho,Op.operands]));rw[hx]at hv;obtain⟨ad,c,u,B7,hu,DC⟩:=Apr hv (i:=ix.toNat) (by omega) (by omega);refine⟨.pointer (some (ad.add (ix.toNat*te.size))),?_,u,_,hu,rfl,λj x hj=>?_⟩
    ·rw[AM a w,Jq,B7]
     simp[SW f fe hd Dp Cz]
    ·rw[LE,MT,<-M2]
     exact DC j x (by simpa using hj)
  ·rename_i b ver hx
   split at hk
   ·rename_i t0 e ver' l hb
    cases hs:(Nat.beq ver ver'&&(Nat.beq e.size te.size&&Nat.blt 0 te.size))with
    |false=>rw[hs]at hk;cases hk
    |true=>
     obtain⟨Bg,M3⟩:=andB hs;obtain⟨B5,Bm⟩:=andB M3;have M2:=Az B5;have iT:0<te.size:=DR Bm;have:=Az Bg;subst this;simp only[hs,Ar]at hk;obtain⟨hc,hk⟩:=DL hk;obtain⟨Dp,Cz⟩:=andB hc;have Dp:=Bv Dp;have Cz:=Bv Cz;refine Sound.pure hk λAa Aj ok0 base pl w a hr Af=>?_;have AH:Aa b=some (.row t0 e ver l):=(Aj b (by simp)).trans hb;have hv:=Af x (by simp[ho,Op.operands]);have Jq:=Jp a _ (Af y (by simp[ho,Op.operands]));rw[hx]at hv;obtain⟨_,sv,Ac,hg,Bt⟩:=hv;have B7:=(Bt t0 e ver l AH).2 rfl;obtain⟨p,hp,hB⟩:=hr.blks b _ AH;have:p=.row sv Ac:=by have h2:pl b=some (.row sv Ac):=hg;rw[hp]at h2;injection h2
     subst this;obtain⟨h0,xs,Cv,Ao⟩:=hB;rcases Ao.2 with⟨Aw,hn⟩|⟨g,cap,AP,Aw,_⟩
     ·omega
     ·refine⟨.pointer (some ((⟨g,0,none⟩:Addr).add (ix.toNat*te.size))),?_,sv,Ac,_,hg,rfl,λt1 e1 Dc l1 BH=>?_⟩
      ·rw[AM a w,Jq,B7,Aw]
       simp[SW f fe hd Dp Cz]
      ·obtain⟨h1,h2⟩:=Bt t1 e1 Dc l1 BH
       refine⟨h1,λhe=>?_⟩;have Ew:Aa b=some (.row t1 e1 Dc l1):=BH;rw[AH]at Ew;injection Ew with Ew;injection Ew with q1 q2 q3 q4;subst q2;simp only[IN]at q4;subst q4;refine⟨by omega,g,_,_,Aw,?_⟩;rw[Addr.add_lit,M2];simp
   ·cases hk
  ·
   rename_i b ver lo hi hx;split at hk
   ·rename_i t0 e ver' l hb
    cases hs:(Nat.beq ver ver'&&(Nat.beq e.size te.size&&Nat.blt 0 te.size))with
    |false=>rw[hs]at hk;cases hk
    |true=>
     obtain⟨Bg,M3⟩:=andB hs;obtain⟨B5,Bm⟩:=andB M3;have M2:=Az B5;have iT:0<te.size:=DR Bm;have:=Az Bg;subst this;simp only[hs,Ar]at hk;obtain⟨hc,hk⟩:=DL hk;obtain⟨Dp,Cz⟩:=andB hc;have Dp:=Bv Dp;have Cz:=Bv Cz;refine Sound.pure hk λAa Aj ok0 base pl w a hr Af=>?_;have AH:Aa b=some (.row t0 e ver l):=(Aj b (by simp)).trans hb;have hv:=Af x (by simp[ho,Op.operands]);have Jq:=Jp a _ (Af y (by simp[ho,Op.operands]));rw[hx]at hv;obtain⟨_,sv,Ac,hg,Bt⟩:=hv;obtain⟨q1,q2,A,A',n,c,Aw,B7,hA,_⟩:=(Bt t0 e ver l AH).2 rfl;obtain⟨p,hp,hB⟩:=hr.blks b _ AH;have:p=.row sv Ac:=by have h2:pl b=some (.row sv Ac):=hg;rw[hp]at h2;injection h2
     subst this;obtain⟨h0,xs,Cv,Ao⟩:=hB;have Au:lo<hi:=by omega
     have hA:=hA Au;rcases Ao.2 with⟨Dt,hn⟩|⟨g,cap,AP,Dt,_⟩
     ·omega
     ·have hAg:A=some ⟨g,0,none⟩:=by rw[Aw]at Dt;injection Dt
      subst hAg;have hA:A'=some ((⟨g,0,none⟩:Addr).add (lo*e.size)):=hA;subst hA;refine⟨.pointer (some (((⟨g,0,none⟩:Addr).add (lo*e.size)).add (ix.toNat*te.size))),?_,sv,Ac,_,hg,rfl,λt1 e1 Dc l1 BH=>?_⟩
      ·rw[AM a w,Jq,B7]
       simp[SW f fe hd Dp Cz]
      ·obtain⟨h1,_⟩:=Bt t1 e1 Dc l1 BH
       refine⟨h1,λhe=>?_⟩;have Ew:Aa b=some (.row t1 e1 Dc l1):=BH;rw[AH]at Ew;injection Ew with Ew;injection Ew with q1 q2 q3 q4;subst q2;simp only[IN]at q4;subst q4;refine⟨by omega,g,_,_,Aw,?_⟩;rw[MT,Addr.add_lit,<-M2,Jx];simp
   ·cases hk
  ·
   rename_i b ver p hx;split at hk
   ·rename_i q hq
    obtain⟨hb,Bg,hn⟩:=Y3 hq;subst Bg;cases hs:(Nat.beq q.2.2.2.2.1.2.ty.size te.size&&Nat.blt 0 te.size)with
    |false=>rw[hs]at hk;cases hk
    |true=>
     obtain⟨B5,Bm⟩:=andB hs;have M2:=Az B5;have iT:0<te.size:=DR Bm;simp only[hs,Ar]at hk;obtain⟨hc,hk⟩:=DL hk;obtain⟨Dp,Cz⟩:=andB hc;have Dp:=Bv Dp;have Cz:=Bv Cz;refine Sound.pure hk λAa Aj ok0 base pl w a hr Af=>?_;have AH:=(Aj b (by simp)).trans hb;have hv:=Af x (by simp[ho,Op.operands]);have Jq:=Jp a _ (Af y (by simp[ho,Op.operands]));rw[hx]at hv;obtain⟨sv,Ac,n',Ba,hT',Ex,JU⟩:=lP (E:=Ap ok0 base pl Aa w) hr.blksOk AH hv;have:=LK Ex;rw[hn]at this;injection this with this;subst this;obtain⟨s',Fn,G1,G2,_,_,_,h4,h5,_,_⟩:=hT'.node Ex;rw[JU]at h4;injection h4 with h4;injection h4 with h4;subst h4;obtain⟨s',xs,F',e1,_,Ao,_⟩:=h5;have e1:=(KD e1).1;subst e1;rcases Ao.2 with⟨Aw,Jl⟩|⟨g,cap,AP,Aw,_⟩
     ·have:q.2.2.2.2.2.length=0:=Jl
      omega
     ·refine⟨.pointer (some ((⟨g,0,none⟩:Addr).add (ix.toNat*te.size))),?_,sv,Ac,_,Ba,rfl,λt1 e1 Dc Hz Ig l1 BH=>?_⟩
      ·have i8:ix<(q.2.2.2.2.2.length:Int):=Cz
       rw[AM a w,Jq,Aw];simp[SW f fe hd Dp i8]
      ·have Ew:Aa b=some (.tree t1 e1 Dc Hz Ig l1):=BH
       rw[AH]at Ew;injection Ew with Ew;injection Ew with q1 q2 q3 q4 q5 q6;subst q1 q2 q3 q4 q5;simp only[IN]at q6;subst q6;refine⟨AQ _,λ_ _=>⟨_,_,Ex,JU,?_,g,_,_,Aw,?_⟩⟩
       ·have:(ix.toNat:Int)<(q.2.2.2.2.2.length:Int):=by omega
        exact_mod_cast this
       ·rw[Addr.add_lit,M2]
        simp
   ·unfold Acf at hk
    split at hk
    ·rename_i t0 e0 ver' B9 p0 q0 l0 hb _
     cases hs:(Nat.beq ver ver'&&(Nat.beq e0.ty.size te.size&&Nat.blt 0 te.size))with
     |false=>rw[hs]at hk;cases hk
     |true=>
      obtain⟨NJ,hs⟩:=andB hs;obtain⟨B5,Bm⟩:=andB hs;have:=Az NJ;subst this;have M2:=Az B5;have iT:0<te.size:=DR Bm;rw[show(Nat.beq ver ver&&(Nat.beq e0.ty.size te.size&&Nat.blt 0 te.size))=true by rw[NJ,B5,Bm];rfl,Ar]at hk;obtain⟨hc,hk⟩:=DL hk;obtain⟨Dp,Cz⟩:=andB hc;have Dp:=Bv Dp;have Cz:=Bv Cz;refine Sound.pure hk λAa Aj ok0 base pl w a hr Af=>?_;have AH:=(Aj b (by simp)).trans hb;have hv:=Af x (by simp[ho,Op.operands]);have Jq:=Jp a _ (Af y (by simp[ho,Op.operands]));rw[hx]at hv;obtain⟨_,sv,Ac,Ba,Bt⟩:=hv
      have AaU:S4 (some (p0::q0)) []:=λq hq Jm=>by injection hq with hq;subst hq;simp at Jm
      obtain⟨n,hn,JU⟩:=(Bt _ _ _ _ _ _ AH).2 rfl AaU;have hn:some (⟨(t0,e0),l0⟩:EP)=some n:=hn;injection hn with hn;subst hn;have JU:sv=a.eval x:=by simpa [nix]using JU
      obtain⟨p,hp,hB⟩:=hr.blks b _ AH;have PC:pl b=some (.row sv Ac):=Ba;rw[hp]at PC;injection PC with PC;subst PC;have hT:TreeOk (Ap ok0 base pl Aa w) t0 e0 (some (p0::q0)) l0 sv Ac:=hB;obtain⟨NL,F,h1,_,_⟩:=hT.rep;obtain⟨i0,k0⟩:=p0;obtain⟨_,s',xs,F',e1,_,Ao,_⟩:=h1;have e1:=(KD e1).1;subst e1;rcases Ao.2 with⟨Aw,Jl⟩|⟨g,cap,AP,Aw,_⟩
      ·have:l0.length=0:=Jl
       omega
      ·refine⟨.pointer (some ((⟨g,0,none⟩:Addr).add (ix.toNat*te.size))),?_,sv,Ac,_,hp,rfl,λt1 e1 Dc Hz Ig l1 BH=>?_⟩
       ·have i8:ix<(l0.length:Int):=Cz
        rw[AM a w,Jq,<-JU,Aw];simp[SW f fe hd Dp i8]
       ·have Ew:Aa b=some (.tree t1 e1 Dc Hz Ig l1):=BH
        rw[AH]at Ew;injection Ew with Ew;injection Ew with q1 q2 q3 q4 q5 q6;subst q1 q2 q3 q4 q5;simp only[IN]at q6;subst q6;refine⟨AQ _,λ_ _=>⟨⟨(t0,e0),l0⟩,sv,rfl,rfl,?_,g,_,_,Aw,?_⟩⟩
        ·have:(ix.toNat:Int)<(l0.length:Int):=by omega
         exact_mod_cast this
        ·rw[Addr.add_lit,M2]
         simp
    ·cases hk
  ·cases hk
 ·
  rename_i et n C2 C8;have hd:=lW f C2 C8;subst hd;split at hk
  ·rename_i b off hx
   split at hk
   ·rename_i te BW
    obtain⟨i',d',z',fe⟩:=hT.facts BW;obtain⟨j,AGy,hj,hk,AGz⟩:=lV hk;have Cc:j<n:=by omega
    refine Sound.pure hk λAa Aj ok0 base pl w a hr Af=>?_;have hv:=Af x (by simp[ho,Op.operands]);have Jq:=Jp a _ (Af y (by simp[ho,Op.operands]));rw[hx]at hv;obtain⟨g,hg,B7⟩:=hv;refine⟨.pointer (some ((⟨g,off,none⟩:Addr).add (j*te.size))),?_,g,hg,by rw[Addr.add_lit]⟩;rw[AM a w,Jq,B7,hj];simp[Instr.indexAt,asIntOf,run_underlying f.under,Instr.sureAddr,Cc,run_sizeOf fe]
   ·cases hk
  ·rename_i b ver q off hx
   split at hk
   ·rename_i te BW
    obtain⟨i',d',z',fe⟩:=hT.facts BW;obtain⟨j,AGy,hj,hk,AGz⟩:=lV hk;have Cc:j<n:=by omega
    refine Sound.pure hk λAa Aj ok0 base pl w a hr Af=>?_;have hv:=Af x (by simp[ho,Op.operands]);have Jq:=Jp a _ (Af y (by simp[ho,Op.operands]));rw[hx]at hv;obtain⟨sv,Ac,ad,hp,B7,Bt⟩:=hv;refine⟨.pointer (some (ad.add (j*te.size))),?_,sv,Ac,_,hp,rfl,λt e ver' l hb=>?_⟩
    ·rw[AM a w,Jq,B7,hj]
     simp[Instr.indexAt,asIntOf,run_underlying f.under,Instr.sureAddr,Cc,run_sizeOf fe]
    ·obtain⟨h1,h2⟩:=Bt t e ver' l hb
     refine⟨h1,λh=>?_⟩;obtain⟨h3,g,n',c,h4,h5⟩:=h2 h;refine⟨h3,g,n',c,h4,?_⟩;rw[h5,Addr.add_lit,Qk]
   ·cases hk
  ·cases hk
 ·cases hk
end
end Go.Lift
namespace Go.Lift
open Go.RowKit
theorem AcC(l:List UInt8):(⟨l.toArray⟩:ByteArray).toList=l:=by rw[ByteArray.toList_eq]
section
variable{P:Program}{o:Oper}{ρ:Operand->V}{bl:Nat->Option Blk}{β:Type}{r:β}
theorem Apt{w:World}{op:BinOp}{t:TypeId}{x y:Operand}{k k':IntKind}{a b:Int}:(eqGuard op t x y (.int k a) (.int k' b)).run P w=.ok () w:=by unfold eqGuard;cases op<;>simp
theorem Apu{w:World}{op:BinOp}{t:TypeId}{x y:Operand}{a b:ByteArray}:(eqGuard op t x y (.string a) (.string b)).run P w=.ok () w:=by unfold eqGuard;cases op<;>simp
theorem Apv{w:World}{op:BinOp}{t:TypeId}{x y:Operand}{a b:Bool}:(eqGuard op t x y (.bool a) (.bool b)).run P w=.ok () w:=by unfold eqGuard;cases op<;>simp
theorem lX{t:TypeId}{k:BK}(h:KO P t=some k)(w:World):(isAgg t).run P w=.ok false w:=by unfold isAgg;unfold KO at h;split at h<;>first|(rename_i hu;simp[run_underlying hu];done)|cases h
theorem lZ{w:World}(d0:Nat){t:TypeId}{k:BK}(hb:KO P t=some k){ks:List BK}{a b:C}{as bs:List C}{x y:Value}{E:Env}(ha:CRep E a x)(hy:CRep E b y){q:Bool}(hq:Cx (k::ks) (a::as) (b::bs)=some q):∃q1 q2,(Op.equalIn (d0+1) t x y).run P w=.ok q1 w/\Cx ks as bs=some q2/\q=(q1&&q2):=by
 unfold KO at hb;cases k<;>cases a<;>try(simp[Cx]at hq;done)
 ·cases b<;>simp only[Cx]at hq<;>try(cases hq;done)
  rename_i a b;split at hq
  ·rename_i q2 h2
   simp only[CRep]at ha hy;subst ha hy;simp only[Ag]at hq;split at hb<;>try(cases hb;done)
   rename_i hu;exact⟨_,q2,run_equalIn_bool' w d0 t _ _ hu,h2,hq.symm⟩
  ·cases hq
 ·cases b<;>simp only[Cx]at hq<;>try(cases hq;done)
  rename_i ka a kb b;split at hq
  ·rename_i hk
   subst hk;split at hq
   ·rename_i q2 h2
    simp only[CRep]at ha hy;subst ha hy;simp only[Ag]at hq;split at hb<;>try(cases hb;done)
    rename_i k' hu;exact⟨_,q2,run_equalIn_int w d0 t _ _ _ _ hu,h2,hq.symm⟩
   ·cases hq
  ·cases hq
 ·cases b<;>simp only[Cx]at hq<;>try(cases hq;done)
  rename_i a b;split at hq
  ·rename_i q2 h2
   simp only[CRep]at ha hy;subst ha hy;simp only[Ag]at hq;split at hb<;>try(cases hb;done)
   rename_i hu;refine⟨_,q2,run_equalIn_string w d0 t _ _ hu,h2,?_⟩;rw[AcC,AcC,<-hq];by_cases h:a=b<;>simp[h]
  ·cases hq
theorem Apw{w:World}(d0:Nat):∀(fs:List Field)(i:Nat)(ks:List BK)(as bs:List C)(xs ys:List Value)(E:Env)(xa ya:Array Value),SN P i fs=some ks->CReps E as xs->CReps E bs ys->xa.toList.drop i=xs->ya.toList.drop i=ys->∀{q:Bool},Cx ks as bs=some q->(Op.eqFields (d0+1) xa ya fs).run P w=.ok q w:=by
 intro fs
 induction fs with
 |nil=>
  intro i ks as bs xs ys E xa ya hf ha hb _ _ q hq;simp only[SN,Ag]at hf;subst hf;cases as with
  |cons a as=>simp[Cx]at hq
  |nil=>
   cases bs with
   |nil=>simp only[Cx,Ag]at hq;subst hq;simp[Op.eqFields]
   |cons b bs=>simp[Cx]at hq
 |cons f fs ih=>
  intro i ks as bs xs ys E xa ya hf ha hb Lx Ly q hq;simp only[SN]at hf;cases hn:(f.name != "_"&&Nat.beq f.offset i)with
  |false=>rw[hn]at hf;cases hf
  |true=>
   simp only[hn,Ar]at hf;obtain⟨EW,Ky⟩:=andB hn;have Ky:=Az Ky;split at hf
   ·rename_i k Xm JO DZ
    simp only[Ag]at hf;subst hf;cases as with
    |nil=>simp[Cx]at hq
    |cons a as=>
     cases bs with
     |nil=>cases k<;>cases a<;>simp[Cx]at hq
     |cons b bs=>
      obtain⟨x,D5,ex,Mo,Pk⟩:=ha;obtain⟨y,NT,ey,BH,Aj⟩:=hb;subst ex ey
      have Cg:xa[i]?=some x:=by have:=Ax (·[0]?) Lx;simpa using this
      have Ez:ya[i]?=some y:=by have:=Ax (·[0]?) Ly;simpa using this
      have HM:xa.toList.drop (i+1)=D5:=by have:=Ax List.tail Lx;simpa using this
      have Ih:ya.toList.drop (i+1)=NT:=by have:=Ax List.tail Ly;simpa using this
      have iL:f.name≠ "_":=by simpa using EW
      have EV:=lX (P:=P) JO w
      have Lu:(part f.type xa f.offset).run P w=.ok x w:=by simp[part,EV,Ky,Cg]
      have PD:(part f.type ya f.offset).run P w=.ok y w:=by simp[part,EV,Ky,Ez]
      obtain⟨q1,q2,h1,h2,h3⟩:=lZ (w:=w) d0 JO Mo BH hq;have Pz:=ih (i+1) Xm as bs D5 NT E xa ya DZ Pk Aj HM Ih h2;simp only[Op.eqFields,ne_eq,iL,XW,D6,Sem.run_bind,Lu,PD,h1,Result.andThen_ok];cases q1 with
      |false=>simp[h3]
      |true=>simp[h3,Pz]
   ·cases hf
theorem AcD:∀{js ks:List BK}{as bs:List C}{q:Bool},Cx (js++ks) as bs=some q->∃a1 a2 b1 b2 q1 q2,as=a1++a2/\bs=b1++b2/\a1.length=js.length/\b1.length=js.length/\Cx js a1 b1=some q1/\Cx ks a2 b2=some q2/\q=(q1&&q2)
 |[],ks,as,bs,q,h=>⟨[],as,[],bs,true,q,rfl,rfl,rfl,rfl,rfl,h,rfl⟩
 |j::js,ks,as,bs,q,h=>by
  have key:∃x y RD N2 e r,as=x::RD/\bs=y::N2/\Cx (js++ks) RD N2=some r/\q=(e&&r)/\∀ls u v s,Cx ls u v=some s->Cx (j::ls) (x::u) (y::v)=some (e&&s):=by
   rw[Fz]at h;cases j<;>cases as<;>try(simp[Cx]at h;done)
   ·rename_i x RD
    cases x<;>try(simp[Cx]at h;done)
    cases bs<;>try(simp[Cx]at h;done)
    rename_i y N2;cases y<;>simp only[Cx]at h<;>try(cases h;done)
    split at h
    ·rename_i r hr
     simp only[Ag]at h;exact⟨_,_,_,_,_,r,rfl,rfl,hr,h.symm,λls u v s hs=>by simp[Cx,hs]⟩
    ·cases h
   ·rename_i x RD
    cases x<;>try(simp[Cx]at h;done)
    cases bs<;>try(simp[Cx]at h;done)
    rename_i y N2;cases y<;>simp only[Cx]at h<;>try(cases h;done)
    split at h
    ·rename_i hk
     split at h
     ·rename_i r hr
      simp only[Ag]at h;exact⟨_,_,_,_,_,r,rfl,rfl,hr,h.symm,λls u v s hs=>by simp[Cx,hs,hk]⟩
     ·cases h
    ·cases h
   ·rename_i x RD
    cases x<;>try(simp[Cx]at h;done)
    cases bs<;>try(simp[Cx]at h;done)
    rename_i y N2;cases y<;>simp only[Cx]at h<;>try(cases h;done)
    split at h
    ·rename_i r hr
     simp only[Ag]at h;exact⟨_,_,_,_,_,r,rfl,rfl,hr,h.symm,λls u v s hs=>by simp[Cx,hs]⟩
    ·cases h
  obtain⟨x,y,RD,N2,e,r,rfl,rfl,hr,hq,hf⟩:=key;obtain⟨a1,a2,b1,b2,q1,q2,e1,e2,l1,l2,h1,h2,h3⟩:=AcD hr;exact⟨x::a1,a2,y::b1,b2,(e&&q1),q2,by rw[e1];rfl,by rw[e2];rfl,by simp[l1],by simp[l2],hf _ _ _ _ h1,h2,by rw[hq,h3,Bool.and_assoc]⟩
theorem CReps.parts{E:Env}:∀{cs ds:List C}{vs:List Value},CReps E (cs++ds) vs->∃us ws,vs=us++ws/\us.length=cs.length/\CReps E cs us/\CReps E ds ws
 |[],_,vs,h=>⟨[],vs,rfl,rfl,rfl,h⟩
 |_::_,_,_,⟨v,Av,e,h,ht⟩=>by obtain⟨us,ws,e2,hl,h1,h2⟩:=CReps.parts ht;exact⟨v::us,ws,by rw[e,e2];rfl,by simp[hl],⟨v,us,rfl,h,h1⟩,h2⟩
theorem Apx{w:World}(d0:Nat):∀(fs:List Field)(i:Nat)(ks:List BK)(as bs:List C)(xs ys:List Value)(E:Env)(xa ya:Array Value),Q1 P i fs=some ks->CReps E as xs->CReps E bs ys->xa.toList.drop i=xs->ya.toList.drop i=ys->∀{q:Bool},Cx ks as bs=some q->(Op.eqFields (d0+2) xa ya fs).run P w=.ok q w:=by
 intro fs
 induction fs with
 |nil=>
  intro i ks as bs xs ys E xa ya hf ha hb _ _ q hq;simp only[Q1,Ag]at hf;subst hf;cases as with
  |cons a as=>simp[Cx]at hq
  |nil=>
   cases bs with
   |nil=>simp only[Cx,Ag]at hq;subst hq;simp[Op.eqFields]
   |cons b bs=>simp[Cx]at hq
 |cons f fs ih=>
  intro i ks as bs xs ys E xa ya hf ha hb Lx Ly q hq;simp only[Q1]at hf;cases hn:(f.name != "_"&&Nat.beq f.offset i)with
  |false=>rw[hn]at hf;cases hf
  |true=>
   simp only[hn,Ar]at hf;obtain⟨EW,Ky⟩:=andB hn;have Ky:=Az Ky;have iL:f.name≠ "_":=by simpa using EW
   split at hf
   ·rename_i k JO
    split at hf
    ·rename_i Xm DZ
     simp only[Ag]at hf;subst hf;cases as with
     |nil=>simp[Cx]at hq
     |cons a as=>
      cases bs with
      |nil=>cases k<;>cases a<;>simp[Cx]at hq
      |cons b bs=>
       obtain⟨x,D5,ex,Mo,Pk⟩:=ha;obtain⟨y,NT,ey,BH,Aj⟩:=hb;subst ex ey
       have Cg:xa[i]?=some x:=by have:=Ax (·[0]?) Lx;simpa using this
       have Ez:ya[i]?=some y:=by have:=Ax (·[0]?) Ly;simpa using this
       have HM:xa.toList.drop (i+1)=D5:=by have:=Ax List.tail Lx;simpa using this
       have Ih:ya.toList.drop (i+1)=NT:=by have:=Ax List.tail Ly;simpa using this
       have EV:=lX (P:=P) JO w
       have Lu:(part f.type xa f.offset).run P w=.ok x w:=by simp[part,EV,Ky,Cg]
       have PD:(part f.type ya f.offset).run P w=.ok y w:=by simp[part,EV,Ky,Ez]
       obtain⟨q1,q2,h1,h2,h3⟩:=lZ (w:=w) (d0+1) JO Mo BH hq;have Pz:=ih (i+1) Xm as bs D5 NT E xa ya DZ Pk Aj HM Ih h2;simp only[Op.eqFields,ne_eq,iL,XW,D6,Sem.run_bind,Lu,PD,h1,Result.andThen_ok];cases q1 with
       |false=>simp[h3]
       |true=>simp[h3,Pz]
    ·cases hf
   ·split at hf
    ·rename_i js Ji
     split at hf
     ·rename_i Xm DZ
      simp only[Ag]at hf;subst hf;obtain⟨a1,a2,b1,b2,q1,q2,e1,e2,l1,l2,h1,h2,h3⟩:=AcD hq;subst e1 e2;obtain⟨x1,x2,ex,lx,HM,HN⟩:=CReps.parts ha;obtain⟨y1,y2,ey,ly,Ih,RX⟩:=CReps.parts hb;subst ex ey;unfold Aco at Ji;split at Ji
      ·rename_i gs inf hu WI
       split at Ji
       ·rename_i Sa AGB
        cases hc:(!P.stoodInHeld f.type&&Nat.beq inf.size Sa.length)with
        |false=>rw[hc]at Ji;cases Ji
        |true=>
         simp only[hc,Ar,Ag]at Ji;subst Ji;obtain⟨c1,c2⟩:=andB hc;have c2:=Az c2;have EV:(isAgg f.type).run P w=.ok true w:=by unfold isAgg;simp[run_underlying hu]
         have CK:(sizeOf f.type).run P w=.ok inf.size w:=by simp[sizeOf,typeInfo,WI]
         have cut:∀(za:Array Value)(z1 z2:List Value),za.toList.drop i=z1++z2->z1.length=Sa.length->za.extract i (i+inf.size)=z1.toArray:=by intro za z1 z2 hz hl;apply HR;rw[Array.toList_extract];simp only[List.extract];rw[hz,MH,c2,<-hl,Yc]
         have Lu:(part f.type xa f.offset).run P w=.ok (.agg x1.toArray) w:=by simp[part,EV,Ky,CK,cut xa x1 x2 Lx (lx.trans l1)]
         have PD:(part f.type ya f.offset).run P w=.ok (.agg y1.toArray) w:=by simp[part,EV,Ky,CK,cut ya y1 y2 Ly (ly.trans l2)]
         have Pt:P.fieldsOf f.type=gs:=by simp[Program.fieldsOf,hu]
         have Abb:P.underlying f.type=some (.struct (P.fieldsOf f.type)):=by rw[Pt];exact hu
         have DY:(Op.equalIn (d0+2) f.type (.agg x1.toArray) (.agg y1.toArray)).run P w=.ok q1 w:=by rw[run_equalIn_struct w (d0+1) f.type _ _ Abb (by simpa using c1),Pt];exact Apw d0 gs.toList 0 Sa a1 b1 x1 y1 E _ _ AGB HM Ih (by simp) (by simp) h1
         have drp:∀(za:Array Value)(z1 z2:List Value),za.toList.drop i=z1++z2->z1.length=Sa.length->za.toList.drop (i+Sa.length)=z2:=by intro za z1 z2 hz hl;rw[<-S1,hz,<-hl,List.drop_left]
         have Pz:=ih (i+Sa.length) Xm a2 b2 x2 y2 E xa ya DZ HN RX (drp xa x1 x2 Lx (lx.trans l1)) (drp ya y1 y2 Ly (ly.trans l2)) h2;simp only[Op.eqFields,ne_eq,iL,XW,D6,Sem.run_bind,Lu,PD,DY,Result.andThen_ok];cases q1 with
         |false=>simp[h3]
         |true=>simp[h3,Pz]
       ·cases Ji
      ·cases Ji
     ·cases hf
    ·cases hf
theorem Apy{w:World}(d0:Nat){e:TypeId}{k:BK}(JO:KO P e=some k):∀(n i:Nat)(as bs:List C)(xs ys:List Value)(E:Env)(xa ya:Array Value),CReps E as xs->CReps E bs ys->xa.toList.drop i=xs->ya.toList.drop i=ys->∀{q:Bool},Cx (List.replicate n k) as bs=some q->(Op.eqItems (d0+1) e 1 xa ya (List.range' i n)).run P w=.ok q w:=by
 intro n
 induction n with
 |zero=>
  intro i as bs xs ys E xa ya ha hb _ _ q hq;cases as with
  |cons a as=>simp[Cx]at hq
  |nil=>
   cases bs with
   |nil=>simp only[List.replicate,Cx,Ag]at hq;subst hq;simp[Op.eqItems]
   |cons b bs=>simp[Cx]at hq
 |succ n ih=>
  intro i as bs xs ys E xa ya ha hb Lx Ly q hq;rw[List.replicate_succ]at hq;cases as with
  |nil=>simp[Cx]at hq
  |cons a as=>
   cases bs with
   |nil=>cases k<;>cases a<;>simp[Cx]at hq
   |cons b bs=>
    obtain⟨x,D5,ex,Mo,Pk⟩:=ha;obtain⟨y,NT,ey,BH,Aj⟩:=hb;subst ex ey
    have Cg:xa[i]?=some x:=by have:=Ax (·[0]?) Lx;simpa using this
    have Ez:ya[i]?=some y:=by have:=Ax (·[0]?) Ly;simpa using this
    have HM:xa.toList.drop (i+1)=D5:=by have:=Ax List.tail Lx;simpa using this
    have Ih:ya.toList.drop (i+1)=NT:=by have:=Ax List.tail Ly;simpa using this
    have EV:=lX (P:=P) JO w
    have Lu:(part e xa (i*1)).run P w=.ok x w:=by simp[part,EV,Cg]
    have PD:(part e ya (i*1)).run P w=.ok y w:=by simp[part,EV,Ez]
    obtain⟨q1,q2,h1,h2,h3⟩:=lZ (w:=w) d0 JO Mo BH hq;have Pz:=ih (i+1) as bs D5 NT E xa ya Pk Aj HM Ih h2;simp only[List.range'_succ,Op.eqItems,Sem.run_bind,Lu,PD,h1,Result.andThen_ok];cases q1 with
    |false=>simp[h3]
    |true=>simp[h3,Pz]
theorem AcE{t:TypeId}{ks:List BK}(he:SO P t=some ks){as bs:List C}{xs ys:List Value}{E:Env}(ha:CReps E as xs)(hb:CReps E bs ys){q:Bool}(hq:Cx ks as bs=some q)(w:World):(Op.equalIn 10000 t (.agg xs.toArray) (.agg ys.toArray)).run P w=.ok q w/\P.eqGuardType P.depth t=false:=by
 unfold SO at he;split at he
 ·rename_i fs hu
  cases hc:(P.stoodInHeld t||P.eqGuardType P.depth t)with
  |true=>rw[hc]at he;cases he
  |false=>
   simp only[hc,Cd]at he;have Cz:P.stoodInHeld t=false/\P.eqGuardType P.depth t=false:=by simpa using hc
   have Pt:P.fieldsOf t=fs:=by simp[Program.fieldsOf,hu]
   have Abb:P.underlying t=some (.struct (P.fieldsOf t)):=by rw[Pt];exact hu
   refine⟨?_,Cz.2⟩;rw[run_equalIn_struct w 9999 t _ _ Abb Cz.1,Pt];exact Apx 9997 fs.toList 0 ks as bs xs ys E _ _ he ha hb (by simp) (by simp) hq
 ·rename_i n e hu
  split at he
  ·rename_i k hk
   cases hc:(Nat.beq (P.cellsOf e) 1&&!P.eqGuardType P.depth t)with
   |false=>rw[hc]at he;cases he
   |true=>
    simp only[hc,Ar,Ag]at he;subst he;obtain⟨Dp,Cz⟩:=andB hc;have Dp:=Az Dp
    have hi:∃i,P.info? e=some i:=by
     cases hi:P.info? e with
     |some i=>exact⟨i,rfl⟩
     |none=>simp[Program.cellsOf,hi]at Dp
    obtain⟨i,hi⟩:=hi;refine⟨?_,by simpa using Cz⟩;rw[run_equalIn_array w 9999 _ _ hu hi,Dp,k7];exact Apy 9998 hk n 0 as bs xs ys E _ _ ha hb (by simp) (by simp) hq
  ·cases he
 ·cases he
theorem AcF{w:World}{op:BinOp}{t:TypeId}{x y:Operand}{a a':Option Addr}{n n' c c':Nat}:(eqGuard op t x y (.slice a n c) (.slice a' n' c')).run P w=.ok () w:=by unfold eqGuard;cases op<;>simp
theorem AcG(w:World)(d:Nat)(t e:TypeId)(a:Option Addr)(l c:Nat)(h:P.underlying t=some (.slice e)):(Op.equalIn (d+1) t (.slice a l c) (.slice none 0 0)).run P w=.ok a.isNone w:=by cases a<;>simp[Op.equalIn,run_underlying h]
theorem AcH{T:TypeId->Option TI}(hT:TOk P T){kk:K β}{op:BinOp}{t t':TypeId}{x y:Operand}(ho:o.op=.binOp op t x y t'){cx:C}{b:Bool}(hx:ρ x=.c cx)(hy:ρ y=.c .nils)(hc:∀E v,CRep E cx v->∃a n c,v=.slice a n c/\a.isNone=b)(hk:Yi T op t b kk=some r):Sound P o ρ bl kk r:=by
 have Cg:x∈o.op.operands:=by simp[ho,Op.operands]
 have Ez:y∈o.op.operands:=by simp[ho,Op.operands]
 unfold Yi at hk;split at hk
 ·rename_i ti ht
  obtain⟨i,d,z,f⟩:=hT.facts ht
  have main:∀(q:Bool)(e:TypeId),ti.elem=some e->ti.len=none->kk (.c (.bool q)) [] []=some r->((op=.eql/\q=b)\/(op=.neq/\q=!b))->Sound P o ρ bl kk r:=by
   intro q e C2 C8 Fg Fv;have hd:=GM f C2 C8;subst hd;refine Sound.pure Fg λAa _ ok0 base pl w act hr Af=>⟨.bool q,?_,rfl⟩;have h1:=Af x Cg;have h2:=Af y Ez;rw[hx]at h1;rw[hy]at h2;obtain⟨a,n,c,C7,hb⟩:=hc _ _ h1;have EF:act.eval y=.slice none 0 0:=h2;subst hb;rcases Fv with⟨rfl,rfl⟩|⟨rfl,rfl⟩
   ·simp[execOp,ho,C7,EF,AcF,Go.binOp,Op.equal,Op.maxDepth,AcG w 9999 t e a n c f.under]
   ·simp[execOp,ho,C7,EF,AcF,Go.binOp,Op.equal,Op.maxDepth,AcG w 9999 t e a n c f.under]
  split at hk
  ·rename_i e C2 C8
   exact main _ e C2 C8 hk (.inl ⟨rfl,rfl⟩)
  ·rename_i e C2 C8
   exact main _ e C2 C8 hk (.inr ⟨rfl,rfl⟩)
  ·cases hk
 ·cases hk
theorem Apz{T:TypeId->Option TI}(hT:TOk P T){kk:K β}{op:BinOp}{t t':TypeId}{x:Operand}(ho:o.op=.binOp op t x (.const .nilIface) t'){b:Bool}(hx:ρ x=.c (.err b))(hk:kG T op t b kk=some r):Sound P o ρ bl kk r:=by
 have Cg:x∈o.op.operands:=by simp[ho,Op.operands]
 unfold kG at hk;split at hk
 ·rename_i ti ht
  obtain⟨i,d,z,f⟩:=hT.facts ht
  have main:∀(q:Bool),ti.ty=some .err->ti.agg=false->kk (.c (.bool q)) [] []=some r->((op=.eql/\q=b)\/(op=.neq/\q=!b))->Sound P o ρ bl kk r:=by
   intro q Cu EG Fg Fv;rw[f.agg]at EG
   have hu:P.underlying t=some (.interface (P.methodsAt t)):=by
    rw[f.ty]at Cu;unfold tyOf at Cu;split at Cu
    ·cases Cu
    ·cases Cu
    ·cases Cu
    ·rename_i ms hm
     cases hd:decide (ms=P.methodsAt t)with
     |false=>rw[hd]at Cu;cases Cu
     |true=>rw[hm,Bv hd]
    ·rename_i e _;cases h:tyOf P 11 e<;>rw[h]at Cu<;>cases Cu
    ·rename_i hm;simp[IS,hm]at EG
    ·rename_i hm;simp[IS,hm]at EG
    ·cases Cu
   refine Sound.pure Fg λAa _ ok0 base pl w act hr Af=>⟨.bool q,?_,rfl⟩;have h1:=Af x Cg;rw[hx]at h1;have h1:errRep b (act.eval x):=h1;have h2:act.eval (.const .nilIface)=.nilIface:=rfl;cases b with
   |true=>
    have h1:act.eval x=.nilIface:=h1;rcases Fv with⟨rfl,rfl⟩|⟨rfl,rfl⟩
    ·simp[execOp,ho,h1,h2,eqGuard_nil_constR,Go.binOp,run_equal_nil_nil w t hu]
    ·simp[execOp,ho,h1,h2,eqGuard_nil_constR,Go.binOp,run_equal_nil_nil w t hu]
   |false=>
    obtain⟨u,z,h1⟩:∃u z,act.eval x=.iface u z:=h1;have hg:∀op,eqGuard op t x (.const .nilIface) (.iface u z) .nilIface=pure ():=λop=>by cases op<;>rfl
    rcases Fv with⟨rfl,rfl⟩|⟨rfl,rfl⟩
    ·simp[execOp,ho,h1,h2,hg,Go.binOp,run_equal_held_nil w t u z hu]
    ·simp[execOp,ho,h1,h2,hg,Go.binOp,run_equal_held_nil w t u z hu]
  split at hk
  ·rename_i Cu EG
   exact main _ Cu EG hk (.inl ⟨rfl,rfl⟩)
  ·rename_i Cu EG
   exact main _ Cu EG hk (.inr ⟨rfl,rfl⟩)
  ·cases hk
 ·cases hk
theorem ApA{T:TypeId->Option TI}(hT:TOk P T){kk:K β}{op:BinOp}{t t':TypeId}{x y:Operand}(ho:o.op=.binOp op t x y t')(hk:kF T op t (ρ x) (ρ y) kk=some r):Sound P o ρ bl kk r:=by
 have Cg:x∈o.op.operands:=by simp[ho,Op.operands]
 have Ez:y∈o.op.operands:=by simp[ho,Op.operands]
 unfold kF at hk;split at hk
 ·
  rename_i k a k' b hx hy;cases M4:kE op with
  |true=>
   simp only[M4,Ar]at hk;obtain⟨hc,hk⟩:=DL hk;have EH:¬b<0:=by have:=Bv hc;omega
   refine Sound.pure hk λAa _ ok0 base pl w act hr Af=>⟨.int k (Yh op k a b),?_,rfl⟩;have h1:=Af x Cg;have h2:=Af y Ez;rw[hx]at h1;rw[hy]at h2;have C7:act.eval x=.int k a:=h1;have EF:act.eval y=.int k' b:=h2;cases op<;>simp only[kE,Il]at M4
   ·simp[execOp,ho,C7,EF,eqGuard,Go.binOp,Op.shift,EH,Yh]
   ·simp[execOp,ho,C7,EF,eqGuard,Go.binOp,Op.shift,EH,Yh]
  |false=>
  simp only[M4,Cd]at hk;split at hk
  ·rename_i P3
   subst P3
   have main:∀(v:Value)(c:C),kk (.c c) [] []=some r->(∀w,(Go.binOp op t (.int k a) (.int k b)).run P w=.ok v w)->(∀E,CRep E c v)->Sound P o ρ bl kk r:=by intro v c Fg hv hc;refine Sound.pure Fg λAa _ ok0 base pl w act hr Af=>⟨v,?_,hc _⟩;have h1:=Af x Cg;have h2:=Af y Ez;rw[hx]at h1;rw[hy]at h2;have C7:act.eval x=.int k a:=h1;have EF:act.eval y=.int k b:=h2;simp[execOp,ho,C7,EF,Apt,hv]
   unfold Acc at hk;split at hk
   ·exact main (.int k (k.wrap (a+b))) _ hk (λw=>by simp[Go.binOp,Op.intArith]) (λ_=>rfl)
   ·exact main (.int k (k.wrap (a-b))) _ hk (λw=>by simp[Go.binOp,Op.intArith]) (λ_=>rfl)
   ·exact main (.int k (k.wrap (a*b))) _ hk (λw=>by simp[Go.binOp,Op.intArith]) (λ_=>rfl)
   ·obtain⟨hc,hk⟩:=DL hk
    have hb:b≠0:=by simpa using hc
    exact main (.int k (k.wrap (a.tdiv b))) _ hk (λw=>by simp[Go.binOp,Op.intDiv,hb]) (λ_=>rfl)
   ·obtain⟨hc,hk⟩:=DL hk
    have hb:b≠0:=by simpa using hc
    exact main (.int k (a.tmod b)) _ hk (λw=>by simp[Go.binOp,Op.intDiv,hb]) (λ_=>rfl)
   ·exact main (.bool (decide (a=b))) _ hk (λw=>by simp[Go.binOp,Op.intCmp];rfl) (λ_=>rfl)
   ·exact main (.bool (!decide (a=b))) _ hk (λw=>by simp[Go.binOp,Op.intCmp,bne];rfl) (λ_=>rfl)
   ·exact main (.bool (decide (a<b))) _ hk (λw=>by simp[Go.binOp,Op.intCmp]) (λ_=>rfl)
   ·exact main (.bool (decide (a<=b))) _ hk (λw=>by simp[Go.binOp,Op.intCmp]) (λ_=>rfl)
   ·exact main (.bool (decide (b<a))) _ hk (λw=>by simp[Go.binOp,Op.intCmp]) (λ_=>rfl)
   ·exact main (.bool (decide (b<=a))) _ hk (λw=>by simp[Go.binOp,Op.intCmp]) (λ_=>rfl)
   ·exact main (.int k (Jz .and k a b)) _ hk (λw=>by simp[Go.binOp,Op.intBits,Jz]) (λ_=>rfl)
   ·exact main (.int k (Jz .or k a b)) _ hk (λw=>by simp[Go.binOp,Op.intBits,Jz]) (λ_=>rfl)
   ·exact main (.int k (Jz .xor k a b)) _ hk (λw=>by simp[Go.binOp,Op.intBits,Jz]) (λ_=>rfl)
   ·exact main (.int k (Jz .andNot k a b)) _ hk (λw=>by simp[Go.binOp,Op.intBits,Jz]) (λ_=>rfl)
   ·cases hk
  ·cases hk
 ·
  rename_i a b hx hy
  have main:∀(v:Value)(c:C),kk (.c c) [] []=some r->(∀w,(Go.binOp op t (.string ⟨a.toArray⟩) (.string ⟨b.toArray⟩)).run P w=.ok v w)->(∀E,CRep E c v)->Sound P o ρ bl kk r:=by intro v c Fg hv hc;refine Sound.pure Fg λAa _ ok0 base pl w act hr Af=>⟨v,?_,hc _⟩;have h1:=Af x Cg;have h2:=Af y Ez;rw[hx]at h1;rw[hy]at h2;have C7:act.eval x=.string ⟨a.toArray⟩:=h1;have EF:act.eval y=.string ⟨b.toArray⟩:=h2;simp[execOp,ho,C7,EF,Apu,hv]
  have hU:(a==b)=decide (a=b):=by by_cases h:a=b<;>simp[h]
  unfold Acd at hk;split at hk
  ·obtain⟨hc,hk⟩:=DL hk
   have BS:=Bv hc;refine main (.string ⟨(a++b).toArray⟩) _ hk (λw=>?_) (λ_=>rfl)
   have CK:¬(((⟨a.toArray⟩:ByteArray).size+(⟨b.toArray⟩:ByteArray).size:Nat):Int)>IntKind.i64.max:=by show ¬((a.toArray.size+b.toArray.size:Nat):Int)>9223372036854775807;simp only[XV];omega
   have AFU:(⟨a.toArray⟩:ByteArray)++⟨b.toArray⟩=⟨(a++b).toArray⟩:=by apply ByteArray.ext;simp
   simp only[Go.binOp,Op.stringOp];rw[if_neg CK,AFU];rfl
  ·exact main (.bool (decide (a=b))) _ hk (λw=>by simp[Go.binOp,Op.stringOp,hU]) (λ_=>rfl)
  ·exact main (.bool (!decide (a=b))) _ hk (λw=>by simp[Go.binOp,Op.stringOp,hU]) (λ_=>rfl)
  ·exact main (.bool (Op.bytesLess a b)) _ hk (λw=>by simp[Go.binOp,Op.stringOp]) (λ_=>rfl)
  ·exact main (.bool (Op.bytesLess a b||decide (a=b))) _ hk (λw=>by simp[Go.binOp,Op.stringOp,hU]) (λ_=>rfl)
  ·exact main (.bool (!(Op.bytesLess a b||decide (a=b)))) _ hk (λw=>by simp[Go.binOp,Op.stringOp,hU]) (λ_=>rfl)
  ·exact main (.bool (!Op.bytesLess a b)) _ hk (λw=>by simp[Go.binOp,Op.stringOp]) (λ_=>rfl)
  ·cases hk
 ·
  rename_i a b hx hy;split at hk
  ·rename_i ti ht
   obtain⟨i,d,z,f⟩:=hT.facts ht;cases RE:ti.isBool with
   |false=>rw[RE]at hk;cases hk
   |true=>
    simp only[RE,Ar]at hk
    have hu:P.underlying t=some .bool:=by
     rw[f.isBool]at RE;unfold Yw at RE;split at RE
     ·exact f.under
     ·cases RE
    have main:∀(q:Bool),kk (.c (.bool q)) [] []=some r->(∀w,(Go.binOp op t (.bool a) (.bool b)).run P w=.ok (.bool q) w)->Sound P o ρ bl kk r:=by intro q Fg hv;refine Sound.pure Fg λAa _ ok0 base pl w act hr Af=>⟨.bool q,?_,rfl⟩;have h1:=Af x Cg;have h2:=Af y Ez;rw[hx]at h1;rw[hy]at h2;have C7:act.eval x=.bool a:=h1;have EF:act.eval y=.bool b:=h2;simp[execOp,ho,C7,EF,Apv,hv]
    split at hk
    ·exact main _ hk λw=>by simp only[Go.binOp];simp[Op.equal,Op.maxDepth,run_equalIn_bool' w 9999 t a b hu]
    ·exact main _ hk λw=>by simp only[Go.binOp];simp[Op.equal,Op.maxDepth,run_equalIn_bool' w 9999 t a b hu]
    ·cases hk
  ·cases hk
 ·
  rename_i a b hx hy;split at hk
  ·rename_i ti ht
   obtain⟨i,d,z,f⟩:=hT.facts ht;split at hk
   ·rename_i ks I5
    rw[f.eqs]at I5
    have main:∀(q q':Bool),Cx ks a b=some q->kk (.c (.bool q')) [] []=some r->((op=.eql/\q'=q)\/(op=.neq/\q'=!q))->Sound P o ρ bl kk r:=by
     intro q q' hq Fg Fv;refine Sound.pure Fg λAa _ ok0 base pl w act hr Af=>⟨.bool q',?_,rfl⟩;have h1:=Af x Cg;have h2:=Af y Ez;rw[hx]at h1;rw[hy]at h2;obtain⟨xs,C7,Aai⟩:=h1;obtain⟨ys,EF,Aaj⟩:=h2;simp only[D6]at Aai Aaj;obtain⟨he,hg⟩:=AcE (P:=P) I5 C7 EF hq w;rcases Fv with⟨rfl,rfl⟩|⟨rfl,rfl⟩
     ·simp[execOp,ho,Aai,Aaj,run_eqGuard_agg w _ t x y _ _ hg,run_eql_struct,he]
     ·simp[execOp,ho,Aai,Aaj,run_eqGuard_agg w _ t x y _ _ hg,run_neq_struct,he]
    split at hk
    ·rename_i q hq
     exact main _ _ hq hk (.inl ⟨rfl,rfl⟩)
    ·rename_i q hq
     exact main _ _ hq hk (.inr ⟨rfl,rfl⟩)
    ·cases hk
   ·cases hk
  ·cases hk
 ·rename_i hx hy
  exact AcH hT ho hx hy (λE v hv=>by obtain⟨c,rfl⟩:=hv;exact⟨none,0,c,rfl,rfl⟩) hk
 ·rename_i e l hx hy
  refine AcH hT ho hx hy (λE v hv=>?_) hk;obtain⟨hd,hn⟩:=hv;simp only[DRep]at hd;obtain⟨A,c,xs,e1,_⟩:=hd;simp only[D1,Fb]at e1;subst e1;cases A with
  |none=>exact absurd rfl (hn _ _)
  |some a=>exact⟨some a,_,_,rfl,rfl⟩
 ·cases hk
theorem AcI{T:TypeId->Option TI}(hT:TOk P T){kk:K β}{op:BinOp}{t t':TypeId}{x:Operand}(ho:o.op=.binOp op t x (.const (.pointer none)) t'){b:Bool}(hx:∀E v,VRep E (ρ x) v->∃q,v=.pointer q/\q.isNone=b)(hk:Yj T op t b kk=some r):Sound P o ρ bl kk r:=by
 have Cg:x∈o.op.operands:=by simp[ho,Op.operands]
 unfold Yj at hk;split at hk
 ·rename_i ti ht
  obtain⟨i,d,z,f⟩:=hT.facts ht
  have main:∀(q:Bool),ti.ptr=true->kk (.c (.bool q)) [] []=some r->((op=.eql/\q=b)\/(op=.neq/\q=!b))->Sound P o ρ bl kk r:=by
   intro q hp Fg Fv;rw[f.ptr]at hp;have hd:∃e,d=.pointer e:=by cases d<;>simp_all [lL]
   obtain⟨e,rfl⟩:=hd;have hu:P.underlying t=some (.pointer (P.pointee t)):=by rw[Program.pointee,f.under]
   refine Sound.pure Fg λAa _ ok0 base pl w act hr Af=>⟨.bool q,?_,rfl⟩;obtain⟨v,h1,hb⟩:=hx _ _ (Af x Cg);have h2:act.eval (.const (.pointer none))=.pointer none:=rfl;subst hb;have hg:∀op,eqGuard op t x (.const (.pointer none)) (.pointer v) (.pointer none)=pure ():=λop=>by cases op<;>rfl
   rcases Fv with⟨rfl,rfl⟩|⟨rfl,rfl⟩
   ·simp[execOp,ho,h1,h2,hg,run_eql_pointer_nil w t v hu]
   ·simp[execOp,ho,h1,h2,hg,run_neq_pointer_nil w t v hu]
  split at hk
  ·rename_i hp;exact main _ hp hk (.inl ⟨rfl,rfl⟩)
  ·rename_i hp;exact main _ hp hk (.inr ⟨rfl,rfl⟩)
  ·cases hk
 ·cases hk
theorem ApB{T:TypeId->Option TI}(hT:TOk P T){kk:K β}{op:BinOp}{t t':TypeId}{x y:Operand}(ho:o.op=.binOp op t x y t')(hk:kH T op t (ρ x) (ρ y) y kk=some r):Sound P o ρ bl kk r:=by
 unfold kH at hk;split at hk
 ·rename_i b hx
  exact Apz hT ho hx hk
 ·rename_i hx
  exact AcI hT ho (b:=true) (λE v h=>by rw[hx]at h;exact⟨none,h,rfl⟩) hk
 ·rename_i hx
  exact AcI hT ho (b:=false) (λE v h=>by rw[hx]at h;obtain⟨_,_,ad,_,e,_⟩:=h;exact⟨some ad,e,rfl⟩) hk
 ·exact ApA hT ho hk
end
end Go.Lift
namespace Go.Lift
open Go.RowKit
theorem MRep.length{w:World}{ok:Nat->Prop}{k v:Ty}{vg:Bool}:∀{l:List (k.den×v.den)}{es:List MapEntry},MRep w ok k v vg l es->es.length=l.length
 |[],_,h=>by simp only[MRep]at h;simp[h]
 |_::l,_,⟨e,r,h0,_,_,h4⟩=>by rw[h0,AX,AX,MRep.length h4]
theorem SX{P:Program}{t:TypeId}{ti:TI}{i:TypeInfo}{d:TypeDesc}{z:Value}(f:TFacts P t ti i d z)(h:ti.isStr=true):d=.string:=by rw[f.isStr]at h;cases d<;>simp_all [Yv]
theorem ApC(l:List UInt8)(a b:Nat):(⟨l.toArray⟩:ByteArray).extract a b=⟨((l.take b).drop a).toArray⟩:=by apply ByteArray.ext;apply HR;rw[Lib.extract_data];simp only;rw[List.drop_take]
section
variable{P:Program}{o:Oper}{ρ:Operand->V}{bl:Nat->Option Blk}{β:Type}{r:β}
theorem SY{t:TypeId}{ti:TI}{i:TypeInfo}{d:TypeDesc}{z:Value}(f:TFacts P t ti i d z)(h:J1 ti=true):∃e,d=.slice e:=by
 unfold J1 at h;split at h
 ·rename_i e h1 h2
  exact⟨e,GM f h1 h2⟩
 ·cases h
theorem Ou{w:World}{a:Act}{x:Operand}{c:Call}{t:TypeId}(ho:o.op=.call c)(hc:c.callee=.builtin .len)(ha:c.args.toList=[x])(ht:c.argTypes.toList=[t]){v:Value}(h:(Builtin.len_ #[t] o.type #[a.eval x]).run P w=.ok v w):(execOp a.eval o).run P w=.ok (.value v) w:=by
 have h1:c.args=#[x]:=by rw[<-GK (xs:=c.args),ha]
 have h2:c.argTypes=#[t]:=by rw[<-GK (xs:=c.argTypes),ht]
 simp[execOp,ho,resolve,hc,h1,h2,invoke,builtin,h]
theorem ApD{T:TypeId->Option TI}(hT:TOk P T){kk:K β}{c:Call}(ho:o.op=.call c)(hc:c.callee=.builtin .len){x:Operand}{t:TypeId}(ha:c.args.toList=[x])(Cu:c.argTypes.toList=[t])(hk:kL T bl t (ρ x) kk=some r):Sound P o ρ bl kk r:=by
 have Cg:x∈o.op.operands:=by
  have h1:c.args=#[x]:=by rw[<-GK (xs:=c.args),ha]
  simp[ho,Op.operands,Call.operands,h1]
 unfold kL at hk;split at hk
 ·cases hk
 rename_i ti ht;obtain⟨i,d,z,f⟩:=hT.facts ht;have hu:=f.under;split at hk
 ·rename_i s hx
  cases hs:ti.isStr with
  |false=>rw[hs]at hk;cases hk
  |true=>simp only[hs,Ar]at hk;have:=SX f hs;subst this;refine Sound.pure hk λAa _ ok0 base pl w act hr Af=>⟨_,Ou ho hc ha Cu (v:=.int .i64 (s.length:Int)) ?_,rfl⟩;have h1:=Af x Cg;rw[hx]at h1;have C7:act.eval x=.string ⟨s.toArray⟩:=h1;simp[Builtin.len_,C7,run_underlying hu,goInt];rfl
 ·rename_i e l hx
  cases hs:J1 ti with
  |false=>rw[hs]at hk;cases hk
  |true=>simp only[hs,Ar]at hk;obtain⟨et,rfl⟩:=SY f hs;refine Sound.pure hk λAa _ ok0 base pl w act hr Af=>⟨_,Ou ho hc ha Cu (v:=.int .i64 (l.length:Int)) ?_,rfl⟩;have h1:=Af x Cg;rw[hx]at h1;have C7:DRep w _ (.slice e) l [act.eval x]:=h1;simp only[DRep]at C7;obtain⟨A,cc,xs,hv,_⟩:=C7;simp only[D1,Fb]at hv;simp[Builtin.len_,hv,run_underlying hu,goInt]
 ·rename_i hx
  cases hs:J1 ti with
  |false=>rw[hs]at hk;cases hk
  |true=>simp only[hs,Ar]at hk;obtain⟨et,rfl⟩:=SY f hs;refine Sound.pure hk λAa _ ok0 base pl w act hr Af=>⟨_,Ou ho hc ha Cu (v:=.int .i64 0) ?_,rfl⟩;have h1:=Af x Cg;rw[hx]at h1;have C7:act.eval x=.slice none 0 0:=h1;simp[Builtin.len_,C7,run_underlying hu,goInt]
 ·rename_i b ver hx
  split at hk
  ·rename_i t0 e ver' l hb
   cases hs:(Nat.beq ver ver'&&J1 ti)with
   |false=>rw[hs]at hk;cases hk
   |true=>
    obtain⟨Bg,B5⟩:=andB hs;have:=Az Bg;subst this;simp only[hs,Ar]at hk;obtain⟨et,rfl⟩:=SY f B5;refine Sound.pure hk λAa Aj ok0 base pl w act hr Af=>⟨_,Ou ho hc ha Cu (v:=.int .i64 (l.length:Int)) ?_,rfl⟩;have AH:Aa b=some (.row t0 e ver l):=(Aj b (by simp)).trans hb;have hv:=Af x Cg;rw[hx]at hv;obtain⟨_,sv,Ac,hg,Bt⟩:=hv;have B7:=(Bt t0 e ver l AH).2 rfl;obtain⟨p,hp,hB⟩:=hr.blks b _ AH;have:p=.row sv Ac:=by have h2:pl b=some (.row sv Ac):=hg;rw[hp]at h2;injection h2
    subst this;obtain⟨_,xs,Cv,Ao⟩:=hB;rcases Ao.2 with⟨Aw,hn⟩|⟨g,cap,AP,Aw,_⟩
    ·simp[Builtin.len_,B7,Aw,run_underlying hu,goInt,hn]
    ·simp[Builtin.len_,B7,Aw,run_underlying hu,goInt]
  ·cases hk
 ·rename_i b ver lo hi hx
  split at hk
  ·rename_i t0 e ver' l hb
   cases hs:(Nat.beq ver ver'&&J1 ti)with
   |false=>rw[hs]at hk;cases hk
   |true=>obtain⟨Bg,B5⟩:=andB hs;have:=Az Bg;subst this;simp only[hs,Ar]at hk;obtain⟨et,rfl⟩:=SY f B5;refine Sound.pure hk λAa Aj ok0 base pl w act hr Af=>⟨_,Ou ho hc ha Cu (v:=.int .i64 ((hi-lo:Nat):Int)) ?_,rfl⟩;have AH:Aa b=some (.row t0 e ver l):=(Aj b (by simp)).trans hb;have hv:=Af x Cg;rw[hx]at hv;obtain⟨_,sv,Ac,hg,Bt⟩:=hv;obtain⟨_,_,A,A',n,cc,_,B7,_⟩:=(Bt t0 e ver l AH).2 rfl;simp[Builtin.len_,B7,run_underlying hu,goInt]
  ·cases hk
 ·rename_i b ver p hx
  split at hk
  ·rename_i q hq
   obtain⟨hb,Bg,hn⟩:=Y3 hq;subst Bg;cases hs:J1 ti with
   |false=>rw[hs]at hk;cases hk
   |true=>
    simp only[hs,Ar]at hk;obtain⟨et,rfl⟩:=SY f hs;refine Sound.pure hk λAa Aj ok0 base pl w act hr Af=>⟨_,Ou ho hc ha Cu (v:=.int .i64 (q.2.2.2.2.2.length:Int)) ?_,rfl⟩;have hv:=Af x Cg;rw[hx]at hv;obtain⟨xs,Ao⟩:=Apk (E:=Ap ok0 base pl Aa w) hr.blksOk ((Aj b (by simp)).trans hb) hv hn;rcases Ao.2 with⟨Aw,hn⟩|⟨g,cap,AP,Aw,_⟩
    ·have hn:q.2.2.2.2.2.length=0:=hn
     simp[Builtin.len_,Aw,run_underlying hu,goInt,hn]
    ·simp[Builtin.len_,Aw,run_underlying hu,goInt]
  ·cases hk
 ·rename_i b hx
  split at hk
  ·rename_i t0 k0 v0 vg l mp hb P8
   obtain⟨kt,vt,rfl⟩:∃kt vt,d=.map kt vt:=by have h1:=f.mp;rw[P8]at h1;cases d<;>simp[mpD]at h1;exact⟨_,_,rfl⟩
   refine Sound.pure hk λAa Aj ok0 base pl w act hr Af=>⟨_,Ou ho hc ha Cu (v:=.int .i64 (l.length:Int)) ?_,rfl⟩;have AH:Aa b=some (.map t0 k0 v0 vg l):=(Aj b (by simp)).trans hb;have hv:=Af x Cg;rw[hx]at hv;obtain⟨g,hg,B7⟩:=hv;obtain⟨p,hp,hB⟩:=hr.blks b _ AH;have:p=.cells g:=by have h2:pl b=some (.cells g):=hg;rw[hp]at h2;injection h2
   subst this;obtain⟨es,CU,hh,hm⟩:=hB
   have Bp:es.size=l.length:=by rw[<-Hc];exact hm.length
   simp[Builtin.len_,B7,run_underlying hu,goInt,MapKept.run_getObj_map (show w.heap[g]?=some (.map es CU)from hh),Bp,Result.andThen]
  ·cases hk
 ·cases hk
theorem Ka{E:Env}{a:Act}{lo:Option Operand}{d n:Int}(h:Iq (lo.map ρ) d=some n)(hx:∀x,lo=some x->VRep E (ρ x) (a.eval x)):(lo=none/\n=d)\/∃x k,lo=some x/\a.eval x=.int k n:=by
 cases lo with
 |none=>simp only[Option.map_none,Iq,Ag]at h;exact .inl ⟨rfl,h.symm⟩
 |some x=>
  simp only[Fa,Iq]at h;split at h
  ·rename_i k m hm
   simp only[Ag]at h;subst h;have h1:=hx x rfl;rw[Ot hm]at h1;exact .inr ⟨x,k,rfl,h1⟩
  ·cases h
theorem Y6{k:IntKind}{n:Int}{y:Nat}{code:BoundsCode}(h0:0<=n)(h1:n<=(y:Int))(w:World):(Instr.sliceBound (.int k n) y code).run P w=.ok n.toNat w:=by simp[Instr.sliceBound,asIntOf,h0,h1]
theorem Ov{isSl:Bool}{len cap:Nat}{a:Act}{lo hi:Option Operand}{m n:Int}(GH:(lo=none/\m=0)\/∃x k,lo=some x/\a.eval x=.int k m)(Pv:(hi=none/\n=(len:Int))\/∃x k,hi=some x/\a.eval x=.int k n)(h0:0<=m)(h1:m<=n)(h2:n<=(cap:Int))(w:World):(Instr.sliceBounds isSl len cap (lo.map a.eval) (hi.map a.eval) none).run P w=.ok (m.toNat,n.toNat,cap) w:=by
 have hn:(n.toNat:Int)=n:=Sy (by omega);unfold Instr.sliceBounds;rcases GH with⟨rfl,rfl⟩|⟨x,k,rfl,hx⟩<;>rcases Pv with⟨rfl,rfl⟩|⟨y,k',rfl,hy⟩
 ·simp
 ·simp[hy,Y6 (P:=P) (k:=k') (by omega) h2]
 ·simp[hx,Y6 (P:=P) (k:=k) h0 h1]
 ·simp[hx,hy,Y6 (P:=P) (k:=k') (by omega) h2,Y6 (P:=P) (k:=k) (y:=n.toNat) h0 (by omega)]
theorem m5{T:TypeId->Option TI}(hT:TOk P T){kk:K β}{t:TypeId}{x:Operand}{lo hi:Option Operand}(ho:o.op=.slice t x lo hi none)(hk:S8 T bl t (ρ x) (lo.map ρ) (hi.map ρ) kk=some r):Sound P o ρ bl kk r:=by
 have Cg:x∈o.op.operands:=by simp[ho,Op.operands]
 have WL:∀y,lo=some y->y∈o.op.operands:=by rintro y rfl;simp[ho,Op.operands]
 have Pw:∀y,hi=some y->y∈o.op.operands:=by rintro y rfl;simp[ho,Op.operands]
 unfold S8 at hk;split at hk
 ·cases hk
 rename_i ti ht;obtain⟨i,d,z,f⟩:=hT.facts ht;have hu:=f.under;split at hk
 ·rename_i s hx
  cases hs:ti.isStr with
  |false=>rw[hs]at hk;cases hk
  |true=>
   simp only[hs,Ar]at hk;have:=SX f hs;subst this;split at hk
   ·rename_i m n hm hn
    obtain⟨hc,hk⟩:=DL hk;obtain⟨c1,c23⟩:=andB hc;obtain⟨c2,c3⟩:=andB c23;have c1:=Bv c1;have c2:=Bv c2;have c3:=Bv c3;refine Sound.pure hk λAa _ ok0 base pl w act hr Af=>⟨.string ⟨((s.take n.toNat).drop m.toNat).toArray⟩,?_,rfl⟩;have h1:=Af x Cg;rw[hx]at h1;have C7:act.eval x=.string ⟨s.toArray⟩:=h1;have CK:(⟨s.toArray⟩:ByteArray).size=s.length:=rfl;have hb:=Ov (P:=P) (isSl:=false) (len:=s.length) (cap:=s.length) (Ka hm λy hy=>Af y (WL y hy)) (Ka hn λy hy=>Af y (Pw y hy)) c1 c2 c3 w;simp[execOp,ho,Instr.sliceAt,run_underlying hu,Instr.slice,C7,CK,hb,ApC]
   ·cases hk
 ·rename_i e l hx
  split at hk
  ·rename_i et C2 C8
   have hd:=GM f C2 C8;subst hd;split at hk
   ·cases hk
   rename_i te BW;obtain⟨i',d',z',fe⟩:=hT.facts BW;cases hs:(Nat.beq e.size te.size&&Nat.blt 0 te.size)with
   |false=>rw[hs]at hk;cases hk
   |true=>
    obtain⟨B5,Bm⟩:=andB hs;have B5:=Az B5;simp only[hs,Ar]at hk;split at hk
    ·rename_i m n hm hn
     obtain⟨hc,hk⟩:=DL hk;obtain⟨c1,c23⟩:=andB hc;obtain⟨c2,c3⟩:=andB c23;have c1:=Bv c1;have c2:=Bv c2;have c3:=Bv c3;refine Sound.pure hk λAa _ ok0 base pl w act hr Af=>?_;have h1:=Af x Cg;rw[hx]at h1;have C7:DRep w (Ap ok0 base pl Aa w).ok (.slice e) l [act.eval x]:=h1;simp only[DRep]at C7;obtain⟨A,cc,xs,hv,BS,Fs,N8,DC⟩:=C7;simp only[D1,Fb]at hv;have hb:=Ov (P:=P) (isSl:=true) (len:=l.length) (cap:=cc) (Ka hm λy hy=>Af y (WL y hy)) (Ka hn λy hy=>Af y (Pw y hy)) c1 c2 (by omega) w;refine⟨.slice (if cc=m.toNat then A else A.map (·.add (m.toNat*te.size))) (n.toNat-m.toNat) (cc-m.toNat),?_,?_⟩
     ·simp[execOp,ho,Instr.sliceAt,run_underlying hu,Instr.slice,hv,hb,run_sizeOf fe]
     ·show DRep w (Ap ok0 base pl Aa w).ok (.slice e) ((l.take n.toNat).drop m.toNat) [_]
      simp only[DRep];have Bp:((l.take n.toNat).drop m.toNat).length=n.toNat-m.toNat:=by simp;omega
      refine⟨_,_,(xs.take (n.toNat*e.size)).drop (m.toNat*e.size),by rw[Bp],by rw[Bp];omega,by omega,(N8.take _).drop _,λj v hj=>?_⟩;rw[NV,ML]at hj;split at hj
      ·rename_i Au
       obtain⟨ad,rfl,WO,Gb⟩:=DC _ _ hj;by_cases HH:cc=m.toNat
       ·exfalso
        have AnE:n.toNat=m.toNat:=by omega
        rw[AnE]at Au;omega
       ·refine⟨ad.add (m.toNat*te.size),by rw[if_neg HH];rfl,by rw[LE];exact WO,?_⟩
        rw[MT,<-B5];exact Gb
      ·cases hj
    ·cases hk
  ·cases hk
 ·
  rename_i bb ver hx;split at hk
  ·rename_i et C2 C8
   have hd:=GM f C2 C8;subst hd;split at hk
   ·cases hk
   rename_i te BW;obtain⟨i',d',z',fe⟩:=hT.facts BW;split at hk
   ·rename_i t0 e ver' l hb
    cases hs:(Nat.beq ver ver'&&(Nat.beq e.size te.size&&Nat.blt 0 te.size))with
    |false=>rw[hs]at hk;cases hk
    |true=>
     obtain⟨Bg,M3⟩:=andB hs;obtain⟨B5,Bm⟩:=andB M3;have B5:=Az B5;have:=Az Bg;subst this;simp only[hs,Ar]at hk;split at hk
     ·rename_i m n hm hn
      obtain⟨hc,hk⟩:=DL hk;obtain⟨c1,c23⟩:=andB hc;obtain⟨c2,c3⟩:=andB c23;have c1:=Bv c1;have c2:=Bv c2;have c3:=Bv c3;refine Sound.pure hk λAa Aj ok0 base pl w act hr Af=>?_;have AH:Aa bb=some (.row t0 e ver l):=(Aj bb (by simp)).trans hb;have h1:=Af x Cg;rw[hx]at h1;obtain⟨_,sv,Ac,hg,Bt⟩:=h1;have B7:=(Bt t0 e ver l AH).2 rfl;obtain⟨p,hp,hB⟩:=hr.blks bb _ AH;have:p=.row sv Ac:=by have h2:pl bb=some (.row sv Ac):=hg;rw[hp]at h2;injection h2
      subst this;obtain⟨_,xs,Cv,Ao⟩:=hB
      obtain⟨A,cc,Aw,BS⟩:∃A cc,sv=.slice A l.length cc/\l.length<=cc:=by
       rcases Ao.2 with⟨Aw,hn⟩|⟨g,cap,AP,Aw,_,_,Ft,_⟩
       ·exact⟨none,0,by rw[Aw,hn],by omega⟩
       ·exact⟨_,cap,Aw,Ft⟩
      have DA:=Ov (P:=P) (isSl:=true) (len:=l.length) (cap:=cc) (Ka hm λy hy=>Af y (WL y hy)) (Ka hn λy hy=>Af y (Pw y hy)) c1 c2 (by omega) w;refine⟨.slice (if cc=m.toNat then A else A.map (·.add (m.toNat*te.size))) (n.toNat-m.toNat) (cc-m.toNat),?_,rfl,sv,Ac,hp,λt1 e1 Dc l1 BH=>?_⟩
      ·simp[execOp,ho,Instr.sliceAt,run_underlying hu,Instr.slice,B7,Aw,DA,run_sizeOf fe]
      ·have Ew:Aa bb=some (.row t1 e1 Dc l1):=BH
       rw[AH]at Ew;injection Ew with Ew;injection Ew with q1 q2 q3 q4;subst q2 q3;simp only[IN]at q4;subst q4;refine⟨AQ _,λ_=>⟨by omega,by omega,A,_,l.length,cc,Aw,rfl,λAu=>?_,λh0=>?_⟩⟩
       ·rw[if_neg (by omega),B5]
       ·rw[h0]
        split
        ·rfl
        ·cases A<;>simp[Addr.add]
     ·cases hk
   ·cases hk
  ·cases hk
 ·
  rename_i bb ver M6 Px hx;split at hk
  ·rename_i et C2 C8
   have hd:=GM f C2 C8;subst hd;split at hk
   ·cases hk
   rename_i te BW;obtain⟨i',d',z',fe⟩:=hT.facts BW;split at hk
   ·rename_i t0 e ver' l hb
    cases hs:(Nat.beq ver ver'&&(Nat.beq e.size te.size&&Nat.blt 0 te.size))with
    |false=>rw[hs]at hk;cases hk
    |true=>
     obtain⟨Bg,M3⟩:=andB hs;obtain⟨B5,Bm⟩:=andB M3;have B5:=Az B5;have:=Az Bg;subst this;simp only[hs,Ar]at hk;split at hk
     ·rename_i m n hm hn
      obtain⟨hc,hk⟩:=DL hk;obtain⟨c1,c23⟩:=andB hc;obtain⟨c2,c3⟩:=andB c23;have c1:=Bv c1;have c2:=Bv c2;have c3:=Bv c3;refine Sound.pure hk λAa Aj ok0 base pl w act hr Af=>?_;have AH:Aa bb=some (.row t0 e ver l):=(Aj bb (by simp)).trans hb;have h1:=Af x Cg;rw[hx]at h1;obtain⟨_,sv,Ac,hg,Bt⟩:=h1;obtain⟨r1,r2,A,A',nn,cc,Aw,B7,hA,hA0⟩:=(Bt t0 e ver l AH).2 rfl;obtain⟨p,hp,hB⟩:=hr.blks bb _ AH;have:p=.row sv Ac:=by have h2:pl bb=some (.row sv Ac):=hg;rw[hp]at h2;injection h2
      subst this;obtain⟨_,xs,Cv,Ao⟩:=hB
      have BS:l.length<=cc:=by
       rcases Ao.2 with⟨Dt,hn⟩|⟨g,cap,AP,Dt,_,_,Ft,_⟩
       ·omega
       ·rw[Aw]at Dt;injection Dt with _ _ e3;omega
      have DA:=Ov (P:=P) (isSl:=true) (len:=Px-M6) (cap:=cc-M6) (Ka hm λy hy=>Af y (WL y hy)) (Ka hn λy hy=>Af y (Pw y hy)) c1 c2 (by omega) w;refine⟨.slice (if cc-M6=m.toNat then A' else A'.map (·.add (m.toNat*te.size))) (n.toNat-m.toNat) (cc-M6-m.toNat),?_,rfl,sv,Ac,hp,λt1 e1 Dc l1 BH=>?_⟩
      ·simp[execOp,ho,Instr.sliceAt,run_underlying hu,Instr.slice,B7,DA,run_sizeOf fe]
      ·have Ew:Aa bb=some (.row t1 e1 Dc l1):=BH
       rw[AH]at Ew;injection Ew with Ew;injection Ew with q1 q2 q3 q4;subst q2 q3;simp only[IN]at q4;subst q4;have e1:M6+n.toNat-(M6+m.toNat)=n.toNat-m.toNat:=by omega
       have e2:cc-M6-m.toNat=cc-(M6+m.toNat):=by omega
       refine⟨AQ _,λ_=>⟨by omega,by omega,A,_,nn,cc,Aw,by rw[e1,e2],λAu=>?_,λh0=>?_⟩⟩
       ·rw[if_neg (by omega),hA (by omega),<-B5]
        cases A with
        |none=>rfl
        |some ad=>simp only[Fa,MT];rw[Jx]
       ·have h1:M6=0:=by omega
        have h2:m.toNat=0:=by omega
        rw[h2];split
        ·exact hA0 h1
        ·rw[hA0 h1]
         cases A<;>simp[Addr.add]
     ·cases hk
   ·cases hk
  ·cases hk
 ·
  rename_i b off hx;split at hk
  ·rename_i et n C2 C8 GH Pv
   have hd:=lW f C2 C8;subst hd;have GH:lo=none:=by cases lo<;>simp_all
   have Pv:hi=none:=by cases hi<;>simp_all
   subst GH Pv;split at hk
   ·cases hk
   rename_i te BW;obtain⟨i',d',z',fe⟩:=hT.facts BW;split at hk
   ·rename_i e he
    cases hs:(Nat.beq e.size te.size&&Nat.blt 0 n)with
    |false=>rw[hs]at hk;cases hk
    |true=>obtain⟨B5,Bm⟩:=andB hs;have Bm:0<n:=HQ Bm;simp only[hs,Ar]at hk;refine Sound.pure hk λAa _ ok0 base pl w act hr Af=>?_;have h1:=Af x Cg;rw[hx]at h1;obtain⟨g,hg,hv⟩:=h1;have hb:=Ov (P:=P) (isSl:=false) (len:=n) (cap:=n) (a:=act) (lo:=none) (hi:=none) (m:=0) (n:=(n:Int)) (.inl ⟨rfl,rfl⟩) (.inl ⟨rfl,rfl⟩) (by omega) (by omega) (by omega) w;refine⟨.slice (some ⟨g,off,none⟩) n n,?_,g,hg,rfl⟩;simp only[Option.map_none,Int.toNat_zero,AT]at hb;simp[execOp,ho,Instr.sliceAt,run_underlying hu,Instr.sureAddr,hv,hb,run_sizeOf fe,Nat.ne_of_gt Bm,Addr.add]
   ·cases hk
  ·cases hk
 ·
  rename_i hx;split at hk
  ·rename_i et C2 C8
   have hd:=GM f C2 C8;subst hd;split at hk
   ·cases hk
   rename_i te BW;obtain⟨i',d',z',fe⟩:=hT.facts BW;split at hk
   ·rename_i m n hm hn
    obtain⟨hc,hk⟩:=DL hk;obtain⟨c1,c23⟩:=andB hc;obtain⟨c2,c3⟩:=andB c23;have c1:=Bv c1;have c2:=Bv c2;have c3:=Bv c3;refine Sound.pure hk λAa Aj ok0 base pl w act hr Af=>⟨.slice none 0 0,?_,rfl⟩;have h1:=Af x Cg;rw[hx]at h1;have B7:act.eval x=.slice none 0 0:=h1;have DA:=Ov (P:=P) (isSl:=true) (len:=0) (cap:=0) (Ka hm λy hy=>Af y (WL y hy)) (Ka hn λy hy=>Af y (Pw y hy)) c1 c2 (by omega) w;have AGJ:m=0:=by omega
    have Jl:n=0:=by omega
    subst AGJ Jl;simp[execOp,ho,Instr.sliceAt,run_underlying hu,Instr.slice,B7,DA,run_sizeOf fe]
   ·cases hk
  ·cases hk
 ·cases hk
theorem SZ{w:World}{b b':Nat}{e:TypeId}{size:Nat}{v:Value}{n:Nat}{xs:List Value}(h:w.ownsRow b e size v n xs)(hb:b'<=b):w.ownsRow b' e size v n xs:=by
 refine⟨h.1,?_⟩;rcases h.2 with h2|⟨g,cap,AP,hv,hg,r⟩
 ·exact .inl h2
 ·exact .inr ⟨g,cap,AP,hv,D2 hb hg,r⟩
def Reads(w:World)(okI:Nat->Prop)(e:Ty)(l:List e.den)(src:Value):Prop:=
 ∃A c ys,src=.slice A l.length c/\l.length<=c/\c<=maxLen/\DList (λx u=>DRep w okI e x u) l ys/\∀j v,ys[j]?=some v->∃ad,A=some ad/\w.cell? (ad.add j)=some v
theorem m6{w:World}{ok:Nat->Prop}(base:Nat){t ty et:TypeId}{te:TI}{i:TypeInfo}{d:TypeDesc}{z:Value}(fe:TFacts P et te i d z)(ht:P.underlying t=some (.slice et)){e:Ty}(Gs:e.size=te.size)(HK:0<te.size)(Gr:0<te.bytes){v:Value}{n:Nat}{xs:List Value}(Ao:w.ownsRow base et e.size v n xs){src:Value}{l:List e.den}(FB:Reads w ok e l src)(DF:(n+l.length)*te.bytes<=Bl)(Cm:base<=w.heap.size):∃v' w' ys,(Builtin.append_ #[t,t] ty #[v,src]).run P w=.ok v' w'/\w'.ownsRow base et e.size v' (n+l.length) (xs++ys)/\w.grownBy w' v.ownBlock/\(v'.ownBlock=v.ownBlock\/v'.ownBlock=some w.heap.size)/\DList (λx u=>DRep w ok e x u) l ys:=by
 have JT:i.size=e.size:=by rw[<-fe.size,Gs]
 have Lz:z.cells.size=e.size:=by have:=fe.len;rw[Hc]at this;rw[this,JT]
 obtain⟨A,c,ys,rfl,BS,Fs,hd,DC⟩:=FB;have hl:ys.length=l.length*e.size:=hd.length;have h1:=hd.oneCell;have Ab4:(n+l.length)*i.bytes<=140737488355328:=by rw[<-fe.bytes];exact DF
 have N3:n+l.length<=maxLen:=by have h2:n+l.length<=(n+l.length)*te.bytes:=jY _ Gr;simp only[Bl]at DF;simp only[maxLen];omega
 cases A with
 |some ad=>
  obtain⟨v',w',AM,h2,h3,_,h5⟩:=run_append_own_at (P:=P) w base t ty et i z e.size i.bytes ht fe.info fe.zero JT rfl Lz (by omega) v n xs Ao ad l.length c ys hl
   (λj u hj=>by obtain⟨Aag,ha,hc⟩:=DC j u hj;injection ha with ha;subst ha;exact hc) h1 N3 Ab4 Cm
  exact⟨v',w',ys,AM,h2,h3,h5,hd⟩
 |none=>
  have hy:ys=[]:=by
   cases ys with
   |nil=>rfl
   |cons y ys=>obtain⟨ad,ha,_⟩:=DC 0 y rfl;cases ha
  subst hy
  have GG:l.length=0:=by
   rcases XR l.length with h0|h0
   ·exact h0
   ·have:0<l.length*e.size:=Nat.mul_pos h0 (by omega)
    simp at hl;omega
  refine⟨v,w,[],?_,by simpa [GG]using Ao,⟨rfl,rfl,rfl,AQ _,λ_ _ _=>rfl⟩,.inl rfl,hd⟩;rcases Ao.2 with⟨rfl,rfl⟩|⟨g,cap,AP,rfl,_,_,Ft,_⟩
  ·simp[Builtin.append_,run_underlying ht,sizeOf,typeInfo,fe.info,Builtin.lenOf,Builtin.firstCells,GG]
  ·simp[Builtin.append_,run_underlying ht,sizeOf,typeInfo,fe.info,Builtin.lenOf,Builtin.firstCells,GG,Ft,storeCells]
theorem Reads.of_own{w:World}{okI:Nat->Prop}{base:Nat}{t:TypeId}{e:Ty}{l:List e.den}{sv:Value}{xs:List Value}(hd:DList (λx u=>DRep w okI e x u) l xs)(ho:w.ownsRow base t e.size sv l.length xs):Reads w okI e l sv:=by
 have Ao:=ho;rcases ho.2 with⟨rfl,hn⟩|⟨g,cap,AP,rfl,Cm,hh,Ft,Fs,Df,IF⟩
 ·have hl:l=[]:=IK hn
  subst hl;simp only[DList]at hd;subst hd;exact⟨none,0,[],rfl,by simp,by simp[maxLen],rfl,by simp⟩
 ·exact⟨some ⟨g,0,none⟩,cap,xs,rfl,Ft,Fs,hd,λj u hj=>⟨_,rfl,Ao.cells (g:=g) rfl j u hj⟩⟩
theorem Q5{E:Env}{blp:Nat->Option Blk}(hb:Ek E){e:Ty}{y:V}{l:List e.den}{rd:List Nat}(h:Qs blp e y=some (l,rd))(Bf:∀b∈rd,∀B,blp b=some B->E.bl b=some B){v:Value}(hv:VRep E y v):Reads E.w E.ok e l v:=by
 unfold Qs at h;split at h
 ·simp only[Ag,BQ]at h
  obtain⟨rfl,_⟩:=h;have:v=.slice none 0 0:=hv;subst this;exact⟨none,0,[],rfl,by simp,by simp[maxLen],rfl,by simp⟩
 ·split at h
  ·rename_i he
   subst he;simp only[Ag,BQ]at h;obtain⟨rfl,_⟩:=h;have Cw:DRep E.w E.ok (.slice _) _ [v]:=hv;simp only[DRep]at Cw;obtain⟨A,c,xs,e1,hl,hc,hd,hx⟩:=Cw;simp only[D1,Fb]at e1;exact⟨A,c,xs,e1,hl,hc,hd,λj u hj=>by obtain⟨ad,h1,_,h2⟩:=hx j u hj;exact⟨ad,h1,h2⟩⟩
  ·cases h
 ·split at h
  ·rename_i he
   subst he;simp only[Ag,BQ]at h;obtain⟨rfl,_⟩:=h;have Cw:DRep E.w E.ok (.slice _) _ [v]:=(show _/\_ from hv).1;simp only[DRep]at Cw;obtain⟨A,c,xs,e1,hl,hc,hd,hx⟩:=Cw;simp only[D1,Fb]at e1;exact⟨A,c,xs,e1,hl,hc,hd,λj u hj=>by obtain⟨ad,h1,_,h2⟩:=hx j u hj;exact⟨ad,h1,h2⟩⟩
  ·cases h
 ·rename_i b ver
  cases hr:Ip blp b ver e with
  |none=>rw[hr]at h;cases h
  |some l'=>rw[hr]at h;simp only[Fa,Ag,BQ]at h;obtain⟨rfl,rfl⟩:=h;obtain⟨t,sv,xs,An,Ba,rfl,hd,ho⟩:=lN hb (λt e ver l h=>Bf b (by simp) _ h) hr hv;exact Reads.of_own hd ho
 ·rename_i b ver i j
  cases hr:Ip blp b ver e with
  |none=>rw[hr]at h;cases h
  |some l'=>rw[hr]at h;simp only[Fa,Ag,BQ]at h;obtain⟨rfl,rfl⟩:=h;obtain⟨t,sv,xs,hB,An,Ba,hd,ho⟩:=Yy hb (λt e ver l h=>Bf b (by simp) _ h) hr;obtain⟨_,sv2,K4,Gd,Bt⟩:=hv;rw[Ba]at Gd;injection Gd with Gd;injection Gd with Gd _;subst Gd;obtain⟨A,c,ys,q1,q2,q3,q4,q5⟩:=lO ((Bt _ _ _ _ An).2 rfl) hd ho;exact⟨A,c,ys,q1,q2,q3,q4,λk u hk=>by obtain⟨ad,r1,_,r3⟩:=q5 k u hk;exact⟨ad,r1,r3⟩⟩
 ·cases h
theorem Ta{w w':World}{a:Act}{x y:Operand}{c:Call}{t:TypeId}(ho:o.op=.call c)(hc:c.callee=.builtin .append)(ha:c.args.toList=[x,y])(ht:c.argTypes.toList=[t,t]){v:Value}(h:(Builtin.append_ #[t,t] o.type #[a.eval x,a.eval y]).run P w=.ok v w'):(execOp a.eval o).run P w=.ok (.value v) w':=by
 have h1:c.args=#[x,y]:=by rw[<-GK (xs:=c.args),ha]
 have h2:c.argTypes=#[t,t]:=by rw[<-GK (xs:=c.argTypes),ht]
 simp[execOp,ho,resolve,hc,h1,h2,invoke,builtin,h]
theorem ApE{T:TypeId->Option TI}(hT:TOk P T){kk:K β}{c:Call}(ho:o.op=.call c)(hc:c.callee=.builtin .append){x y:Operand}{t:TypeId}{nx:Nat}(ha:c.args.toList=[x,y])(Cu:c.argTypes.toList=[t,t])(hk:kV T bl nx t (ρ x) (ρ y) kk=some r):Sound P o ρ bl kk r:=by
 have B3:c.args=#[x,y]:=by rw[<-GK (xs:=c.args),ha]
 have Cg:x∈o.op.operands:=by simp[ho,Op.operands,Call.operands,B3]
 have Ez:y∈o.op.operands:=by simp[ho,Op.operands,Call.operands,B3]
 unfold kV at hk;split at hk
 ·cases hk
 rename_i ti ht;obtain⟨i,d,z,f⟩:=hT.facts ht;split at hk
 ·rename_i et C2 C8
  have hd:=GM f C2 C8;subst hd;split at hk
  ·cases hk
  rename_i te BW;obtain⟨i',d',z',fe⟩:=hT.facts BW;split at hk
  ·cases hk
  rename_i e RG;cases hs:(Nat.beq e.size te.size&&(Nat.blt 0 te.size&&Nat.blt 0 te.bytes))with
  |false=>rw[hs]at hk;cases hk
  |true=>
   obtain⟨B5,K0⟩:=andB hs;obtain⟨Bm,Ey⟩:=andB K0;have B5:=Az B5;have Bm:=DR Bm;have Ey:=DR Ey;simp only[hs,Ar]at hk;split at hk
   ·cases hk
   rename_i new rd FB;split at hk
   ·
    rename_i hx;split at hk
    ·rename_i hn
     obtain⟨DF,hk⟩:=DL hk;have DF:=Bv DF;refine⟨_,_,_,hk,λAa Aj=>?_⟩;have Dh:Aa nx=none:=(Aj nx (by simp)).trans hn;intro ok0 base pl w a hr Af K Q hK;have hv:a.eval x=.slice none 0 0:=by have:=Af x Cg;rw[hx]at this;exact this
     have FA:Reads w (Ap ok0 base pl Aa w).ok e new (a.eval y):=Q5 hr.blksOk FB (λb hb B hB=>(Aj b (by simp[hb])).trans hB) (Af y Ez);obtain⟨v',w',ys,AM,Ao,Dq,Lq,N8⟩:=m6 (P:=P) w.heap.size fe f.under (ty:=o.type) B5 Bm Ey (World.ownsRow_nil w w.heap.size et e.size) FA (by simpa using DF) (AQ _);have WE:w.grownBy w' none:=Dq;have hp:∀g,(Pl.row v' []).has g->w.heap.size<=g:=λg hg=>(Ao.lt g (Pl.has_row hg)).1;have BU:Step pl Aa w (upd pl nx (.row v' [])) (upd Aa nx (.row et e 0 new)) w':=Step.new hr Dh WE hp;refine H9 (Ta ho hc ha Cu (by rw[hv];exact AM)) (hK v' (upd pl nx (.row v' [])) w' ?_ BU ?_)
     ·refine RelB.new hr Dh WE hp ⟨rfl,ys,N8.mono λx u hu=>hu.mono BU.ext.heap,?_⟩
      simp only[Ei,Fl]at Ao;exact SZ Ao hr.baseLe
     ·refine⟨?_,v',[],by simp[Ap,upd],λt1 e1 Dc l1 h1=>?_⟩
      ·rcases Ao.2 with⟨rfl,_⟩|⟨g,cap,AP,rfl,_⟩<;>rfl
      ·simp only[Ap,updL,upd,D6,Ag]at h1
       injection h1 with q1 q2 q3 q4;subst q3;exact⟨AQ _,λ_=>rfl⟩
    ·cases hk
   ·
    rename_i b ver hx;split at hk
    ·rename_i t0 e0 ver' l hb
     cases Abe:(Nat.beq ver ver'&&Nat.beq t0 et)with
     |false=>rw[Abe]at hk;cases hk
     |true=>
      obtain⟨Bg,WZ⟩:=andB Abe;have:=Az Bg;subst this;have:=Az WZ;subst this;simp only[Abe,Ar]at hk;split at hk
      ·rename_i he
       subst he;obtain⟨DF,hk⟩:=DL hk;have DF:=Bv DF;refine⟨_,_,_,hk,λAa Aj=>?_⟩;have AH:Aa b=some (.row t0 e0 ver l):=(Aj b (by simp)).trans hb;intro ok0 base pl w a hr Af K Q hK;have hv:=Af x Cg;rw[hx]at hv;obtain⟨_,sv,Ac,hg,Bt⟩:=hv;have B7:=(Bt t0 e0 ver l AH).2 rfl;obtain⟨p,hp,hB⟩:=hr.blks b _ AH;have:p=.row sv Ac:=by have h2:pl b=some (.row sv Ac):=hg;rw[hp]at h2;injection h2
       subst this;obtain⟨h0,xs,Cv,AH0⟩:=hB;subst h0;have FA:Reads w (Ap ok0 base pl Aa w).ok e0 new (a.eval y):=Q5 hr.blksOk FB (λb hb B hB=>(Aj b (by simp[hb])).trans hB) (Af y Ez);obtain⟨v',w',ys,AM,Ao,Dq,Lq,N8⟩:=m6 (P:=P) base fe f.under (ty:=o.type) B5 Bm Ey AH0 FA DF hr.baseLe
       have AnA:v'.ownBlock=sv.ownBlock\/∀g,v'.ownBlock=some g->w.heap.size<=g:=by
        rcases Lq with h|h
        ·exact .inl h
        ·exact .inr λg hg=>by rw[h]at hg;injection hg with hg;exact KE hg
       have BU:=Step.grown (l':=l++new) (ver':=ver+1) hr AH hp Dq AnA ⟨by omega,λh=>by omega⟩;refine H9 (Ta ho hc ha Cu (by rw[B7];exact AM)) (hK v' (upd pl b (.row v' [])) w' ?_ BU ?_)
       ·refine RelB.grown hr AH hp Dq AnA ⟨by omega,λh=>by omega⟩ ⟨rfl,xs++ys,(Cv.mono λx u hu=>hu.mono BU.ext.heap).append (N8.mono λx u hu=>hu.mono BU.ext.heap),?_⟩
        rw[AR];exact Ao
       ·refine⟨?_,v',[],by simp[Ap,upd],λt1 e1 Dc l1 h1=>?_⟩
        ·rcases Ao.2 with⟨rfl,_⟩|⟨g,cap,AP,rfl,_⟩<;>rfl
        ·simp only[Ap,updL,upd,D6,Ag]at h1
         injection h1 with q1 q2 q3 q4;subst q3;exact⟨AQ _,λ_=>rfl⟩
      ·cases hk
    ·cases hk
   ·cases hk
 ·cases hk
end
end Go.Lift
namespace Go.Lift
open Go.RowKit
theorem AcJ(off:Nat):∀(vs:List Value)(k:Nat)(cs:Array Value),off+k+vs.length<=cs.size->((vs.zipIdx k).foldl (λ(cs:Array Value)(p:Value×Nat)=>cs.setIfInBounds (off+p.2) p.1) cs).toList=cs.toList.take (off+k)++vs++cs.toList.drop (off+k+vs.length)
 |[],k,cs,h=>by simp
 |v::vs,k,cs,h=>by simp only[List.zipIdx_cons,List.foldl_cons];simp only[AX]at h;rw[AcJ off vs (k+1) _ (by simp;omega)];have e:=list_seg_step cs.toList (off+k) v vs (by simp;omega);simpa [Array.toList_setIfInBounds,Qk]using e
theorem AcK(off:Nat)(v:Value)(cs:Array Value)(h:off+v.cells.toList.length<=cs.size):(v.cells.zipIdx.foldl (λcs(c,j)=>cs.setIfInBounds (off+j) c) cs)=(cs.toList.take off++v.cells.toList++cs.toList.drop (off+v.cells.toList.length)).toArray:=by
 apply HR;have h1:=AcJ off v.cells.toList 0 cs (by simpa using h);simp only[Oa]at h1;rw[<-Array.foldl_toList];simpa using h1
section
variable{P:Program}{o:Oper}{ρ:Operand->V}{bl:Nat->Option Blk}{β:Type}{r:β}
theorem m7{E:Env}{T:TypeId->Option TI}(place:Nat->Option (Nat×Nat))(ti:TI)(AH7:∀i v cs0 rest ps,Hf ti T ((i,v)::rest)=some ps->v.cells=some cs0->∃off,place i=some (off,cs0.length)/\∃HO,Hf ti T rest=some HO/\ps=(off,cs0)::HO):∀(parts:List (Nat×V))(B4:List (Nat×Value))(ps:List (Nat×List C))(cs cs':List C)(vs:List Value),Hf ti T parts=some ps->B4.map (·.1)=parts.map (·.1)->(∀(j:Nat)(p:Nat×V)(q:Nat×Value),parts[j]?=some p->B4[j]?=some q->VRep E p.2 q.2)->CReps E cs vs->MU cs ps=some cs'->∃us,Instr.fill place vs.toArray B4=some us.toArray/\CReps E cs' us:=by
 intro parts
 induction parts with
 |nil=>
  intro B4 ps cs cs' vs hp hm hv hc hf;simp only[Hf,Ag]at hp;subst hp;simp only[MU,Ag]at hf;subst hf;cases B4 with
  |nil=>exact⟨vs,rfl,hc⟩
  |cons q B4=>simp at hm
 |cons p parts ih=>
  intro B4 ps cs cs' vs hp hm hv hc hf;obtain⟨i,v⟩:=p;cases B4 with
  |nil=>simp at hm
  |cons q B4=>
   obtain⟨i',x⟩:=q;simp only[CM,D1]at hm;obtain⟨hi,hm⟩:=hm;have hi:i'=i:=hi;subst hi
   have RV:∃cs0,v.cells=some cs0:=by
    simp only[Hf]at hp;cases RV:v.cells with
    |some cs0=>exact⟨cs0,rfl⟩
    |none=>rw[RV]at hp;simp at hp
   obtain⟨cs0,RV⟩:=RV;obtain⟨off,h1,HO,h2,rfl⟩:=AH7 i' v cs0 parts ps hp RV;simp only[MU]at hf;split at hf
   ·rename_i cs1 IC
    have hx:=VRep.cells_of RV (hv 0 _ _ rfl rfl);have Fi:=hx.length;obtain⟨s1,s2⟩:=SQ hc hx IC;obtain⟨us,h3,h4⟩:=ih B4 HO cs1 cs' _ h2 hm (λj p q hp hq=>hv (j+1) p q (by simpa using hp) (by simpa using hq)) s1 hf;refine⟨us,?_,h4⟩;simp only at Fi s2 h3;have CK:x.cells.size=cs0.length:=by simpa using Fi
    have AHs:¬(off+x.cells.size>vs.toArray.size):=by simp at s2⊢;omega
    simp only[Instr.fill,h1];rw[if_neg (by simp only[CK,ne_eq,XU,decide_false,NZ,Im];rw[<-CK];exact AHs),AcK off x vs.toArray (by simpa using s2)];exact h3
   ·cases hf
theorem ApF(fs:List Field)(hk:fs.all (λf=>(P.info? f.type).isSome&&(P.underlying f.type).isSome)=true)(w:World):(fs.mapM λf=>(do pure (f.offset,<-sizeOf f.type):Sem (Nat×Nat))).run P w=.ok (fs.map λf=>(f.offset,P.cellsOf f.type)) w:=by
 induction fs with
 |nil=>rfl
 |cons f fs ih=>
  simp only[Yd,CE]at hk;obtain⟨⟨h1,_⟩,h2⟩:=hk;obtain⟨i,hi⟩:=jX.1 h1;have hs:(sizeOf f.type).run P w=.ok (P.cellsOf f.type) w:=by simp[sizeOf,typeInfo,hi,Program.cellsOf]
  simp only[List.mapM_cons,Sem.run_bind,hs,Result.andThen_ok,Sem.run_pure,ih (by simpa using h2),CM]
theorem ApG{ti:TI}{T:TypeId->Option TI}(Bp:ti.len=none){i:Nat}{v:V}{cs0:List C}{rest:List (Nat×V)}{ps:List (Nat×List C)}(h:Hf ti T ((i,v)::rest)=some ps)(hv:v.cells=some cs0):∃off g,ti.flds[i]?=some (off,cs0.length,g)/\∃HO,Hf ti T rest=some HO/\ps=(off,cs0)::HO:=by
 simp only[Hf,hv,Bp]at h;split at h
 ·rename_i cs1 AbM he hr
  simp only[Ag]at he;subst he;split at h
  ·rename_i off n g hf
   cases hb:Nat.beq cs0.length n with
   |false=>rw[hb]at h;cases h
   |true=>have:=Az hb;subst this;simp only[hb,Ar,Ag]at h;exact⟨off,g,hf,AbM,hr,h.symm⟩
  ·cases h
 ·cases h
theorem AcL{ti:TI}{T:TypeId->Option TI}{n:Nat}{e:TypeId}{te:TI}(Bp:ti.len=some n)(C2:ti.elem=some e)(BW:T e=some te){i:Nat}{v:V}{cs0:List C}{rest:List (Nat×V)}{ps:List (Nat×List C)}(h:Hf ti T ((i,v)::rest)=some ps)(hv:v.cells=some cs0):cs0.length=te.size/\∃HO,Hf ti T rest=some HO/\ps=(i*te.size,cs0)::HO:=by
 simp only[Hf,hv,Bp,C2,BW]at h;split at h
 ·rename_i cs1 AbM he hr
  simp only[Ag]at he;subst he;cases hb:Nat.beq cs0.length te.size with
  |false=>rw[hb]at h;cases h
  |true=>simp only[hb,Ar,Ag]at h;exact⟨Az hb,AbM,hr,h.symm⟩
 ·cases h
theorem ApH{T:TypeId->Option TI}(hT:TOk P T){kk:K β}{t:TypeId}{parts:Array (Nat×Operand)}(ho:o.op=.build t parts){ti:TI}(ht:T t=some ti)(EV:ti.agg=true){ps:List (Nat×List C)}(hp:Hf ti T (parts.toList.map λp=>(p.1,ρ p.2))=some ps){cs:List C}(hf:MU ti.zero ps=some cs)(hk:kk (.agg cs) [] []=some r):Sound P o ρ bl kk r:=by
 obtain⟨i,d,z,f⟩:=hT.facts ht;have hu:=f.under;refine Sound.pure hk λAa _ ok0 base pl w a hr Af=>?_;have Xj:CReps (Ap ok0 base pl Aa w) ti.zero z.cells.toList:=by rw[f.zeroC];exact MW f.one
 have NM:∀(j:Nat)(p:Nat×V)(q:Nat×Value),(parts.toList.map λp=>(p.1,ρ p.2))[j]?=some p->(parts.toList.map λp=>(p.1,a.eval p.2))[j]?=some q->VRep (Ap ok0 base pl Aa w) p.2 q.2:=by
  intro j p q h1 h2;rw[FT]at h1 h2;cases hj:parts.toList[j]? with
  |none=>rw[hj]at h1;cases h1
  |some x=>rw[hj]at h1 h2;simp only[Fa,Ag]at h1 h2;subst h1 h2;exact Af x.2 (by simp only[ho,Op.operands];exact kA.2 (Gy.2 ⟨x,Dg hj,rfl⟩))
 have Lr:(parts.toList.map λp=>(p.1,a.eval p.2)).map (·.1)=(parts.toList.map λp=>(p.1,ρ p.2)).map (·.1):=by simp
 rw[f.agg]at EV;unfold IS at EV;rw[hu]at EV;cases d<;>try(simp at EV;done)
 ·
  rename_i n e;have C2:ti.elem=some e:=by rw[f.elem];rfl
  have Bp:ti.len=some n:=by rw[f.alen];rfl
  have DO:=f.known;simp only[Q3,CE]at DO;obtain⟨ie,Anp⟩:=jX.1 DO.1;have CK:(sizeOf e).run P w=.ok ie.size w:=by simp[sizeOf,typeInfo,Anp]
  cases M0:(parts.toList.map λp=>(p.1,ρ p.2))with
  |nil=>
   rw[M0]at hp;simp only[Hf,Ag]at hp;subst hp;simp only[MU,Ag]at hf;subst hf;have WA:parts.toList=[]:=by simpa using M0
   have iN:parts=#[]:=by simpa using WA
   exact⟨.agg z.cells,by simp[execOp,ho,Instr.build,zeroValue,typeInfo,f.info,f.zero,run_underlying hu,CK,iN,Instr.fill],z.cells.toList,Xj,by simp⟩
  |cons p0 rest=>
   have BW:∃te,T e=some te:=by
    rw[M0]at hp;obtain⟨i0,v0⟩:=p0;simp only[Hf,Bp,C2]at hp;cases BW:T e with
    |some te=>exact⟨te,rfl⟩
    |none=>rw[BW]at hp;split at hp<;>simp at hp
   obtain⟨te,BW⟩:=BW;obtain⟨i',d',z',fe⟩:=hT.facts BW
   have Gs:ie.size=te.size:=by have h1:=fe.info;rw[Anp]at h1;injection h1 with h1;rw[fe.size,h1]
   obtain⟨us,h1,h2⟩:=m7 (T:=T) (E:=Ap ok0 base pl Aa w) (λi=>some (i*ie.size,ie.size)) ti
    (λi v cs0 rest ps h hv=>by obtain⟨h1,HO,h2,h3⟩:=AcL Bp C2 BW h hv;exact⟨i*te.size,by rw[Gs,h1],HO,h2,h3⟩) _ _ _ _ _ _ hp Lr NM Xj hf
   refine⟨.agg us.toArray,?_,us,h2,by simp⟩;simp only[GK]at h1;simp[execOp,ho,Instr.build,zeroValue,typeInfo,f.info,f.zero,run_underlying hu,CK,h1]
 ·
  rename_i fs;have Bp:ti.len=none:=by rw[f.alen];rfl
  have DO:=f.known;simp only[Q3]at DO;have Ba:=ApF (P:=P) fs.toList DO w
  have PC:(fs.mapM λf=>(do pure (f.offset,<-sizeOf f.type):Sem (Nat×Nat))).run P w=.ok (fs.toList.map λf=>(f.offset,P.cellsOf f.type)).toArray w:=by rw[Array.mapM_eq_mapM_toList,Sem.run_map,Ba];rfl
  obtain⟨us,h1,h2⟩:=m7 (T:=T) (E:=Ap ok0 base pl Aa w) ((fs.toList.map λf=>(f.offset,P.cellsOf f.type)).toArray[·]?) ti
   (λi v cs0 rest ps h hv=>by
    obtain⟨off,g,h1,HO,h2,h3⟩:=ApG Bp h hv;refine⟨off,?_,HO,h2,h3⟩;rw[f.flds]at h1;simp only[Yt,FT]at h1;simp only[XN,FT];cases Ang:fs.toList[i]? with
    |none=>rw[Ang]at h1;cases h1
    |some fd=>rw[Ang]at h1;simp only[Fa,Ag,BQ]at h1⊢;exact⟨h1.1,h1.2.1⟩) _ _ _ _ _ _ hp Lr NM Xj hf
  refine⟨.agg us.toArray,?_,us,h2,by simp⟩
  have Gd:(fs.mapM λf=>Prod.mk f.offset <$> sizeOf f.type:Sem (Array (Nat×Nat))).run P w=.ok (fs.toList.map λf=>(f.offset,P.cellsOf f.type)).toArray w:=by simpa only[map_eq_pure_bind]using PC
  simp only[GK]at h1;simp only[execOp,ho,Instr.build,zeroValue,typeInfo,f.info,f.zero,run_underlying hu,Sem.run_bind,run_program,Result.andThen_ok,Sem.run_pure,PC,S0,h1]
theorem AcM{T:TypeId->Option TI}(hT:TOk P T){kk:K β}{t:TypeId}{parts:Array (Nat×Operand)}(ho:o.op=.build t parts)(hk:Yo T t (parts.toList.map λp=>(p.1,ρ p.2)) kk=some r):Sound P o ρ bl kk r:=by
 unfold Yo at hk;split at hk
 ·rename_i ti ht
  cases EV:ti.agg with
  |false=>rw[EV]at hk;cases hk
  |true=>
   simp only[EV,Ar]at hk;split at hk
   ·rename_i ps ID
    split at hk
    ·rename_i cs Df;exact ApH hT ho ht EV ID Df hk
    ·cases hk
   ·cases hk
 ·cases hk
def repL(n:Nat)(l:List Value):List Value:=
 match n with
 |0=>[]
 |n+1=>l++repL n l
theorem AcN(l:List Value):∀n,repL n l++l=l++repL n l
 |0=>by simp[repL]
 |n+1=>by simp only[repL,Ci];rw[AcN l n]
theorem AcO{E:Env}{cs:List C}{vs:List Value}(h:CReps E cs vs):∀n,CReps E (repC n cs) (repL n vs)
 |0=>rfl
 |n+1=>h.append (AcO h n)
theorem Tb(z:Array Value)(hz:0<z.size):∀n,(madeCells z (n*z.size)).toList=repL n z.toList
 |0=>by simp[madeCells,repL]
 |n+1=>by
  have ih:=Tb z hz n
  have e:(madeCells z ((n+1)*z.size)).toList=(madeCells z (n*z.size)).toList++z.toList:=by
   simp only[madeCells,S0,Array.toList_range,In,List.range_add,KC];congr 1;apply XT;intro j;simp only[FT,Qm];by_cases hj:j<z.size
   ·rw[List.getElem?_range hj]
    have hm:(n*z.size+j)%z.size=j:=by rw[Nat.mul_comm,Nat.mul_add_mod,Nat.mod_eq_of_lt hj]
    simp[hm,hj]
   ·have h1:(List.range z.size)[j]?=none:=by simp;omega
    rw[h1];simp;omega
  rw[e,ih,AcN];rfl
theorem DList.rep{w:World}{ok:Nat->Prop}{e:Ty}{x:e.den}{vs:List Value}(h:DRep w ok e x vs):∀n,DList (λx u=>DRep w ok e x u) (List.replicate n x) (repL n vs)
 |0=>rfl
 |n+1=>⟨vs,repL n vs,rfl,h,DList.rep h n⟩
theorem AcP{kk:K β}{nx:Nat}{et:TypeId}{e:Ty}{l:List e.den}(hn:bl nx=none)(hk:kk (.c (.row nx 0)) [nx] [(nx,.row et e 0 l)]=some r)(AaJ:l.length<=maxLen)(AM:∀(Aa:Nat->Option Blk)(ok0:OK0 P)(base:Nat)(pl:Nat->Option Pl)(w:World)(a:Act),RelB ok0 base pl Aa w->(∀x∈o.op.operands,VRep (Ap ok0 base pl Aa w) (ρ x) (a.eval x))->∃us:List Value,(execOp a.eval o).run P w=.ok (.value (.slice (some ⟨w.heap.size,0,none⟩) l.length l.length)) (w.alloc (.cells us.toArray et))/\DList (λx u=>DRep w (Ap ok0 base pl Aa w).ok e x u) l us):Sound P o ρ bl kk r:=by
 refine⟨_,_,_,hk,λAa hb=>?_⟩;have Dh:Aa nx=none:=(hb nx (by simp)).trans hn;intro ok0 base pl w a hr hx K Q hK;obtain⟨us,h1,h2⟩:=AM Aa ok0 base pl w a hr hx;have hg:w.grownBy (w.alloc (.cells us.toArray et)) none:=World.grownBy_alloc w _ none
 have hp:∀g,(Pl.row (.slice (some ⟨w.heap.size,0,none⟩) l.length l.length) []).has g->w.heap.size<=g:=by intro g FN;have FN:=Pl.has_row FN;simp only[Value.ownBlock,Ag]at FN;exact KE FN
 have hs:Step pl Aa w (upd pl nx (.row (.slice (some ⟨w.heap.size,0,none⟩) l.length l.length) [])) (upd Aa nx (.row et e 0 l)) (w.alloc (.cells us.toArray et)):=Step.new hr Dh hg hp;refine H9 h1 (hK _ (upd pl nx (.row (.slice (some ⟨w.heap.size,0,none⟩) l.length l.length) [])) _ ?_ hs ?_)
 ·refine RelB.new hr Dh hg hp ⟨rfl,us,h2.mono λx u hu=>hu.mono hs.ext.heap,?_⟩
  have hl:=h2.length;exact⟨hl,.inr ⟨w.heap.size,l.length,us.toArray,rfl,hr.baseLe,heap_alloc_new w _,AQ _,AaJ,by simpa using hl,by rw[<-hl];simp⟩⟩
 ·refine⟨rfl,.slice (some ⟨w.heap.size,0,none⟩) l.length l.length,[],by simp[Ap,upd],λt1 e1 Dc l1 h1=>?_⟩
  simp only[Ap,updL,upd,D6,Ag]at h1;injection h1 with q1 q2 q3 q4;subst q3;exact⟨AQ _,λ_=>rfl⟩
theorem ApI{T:TypeId->Option TI}(hT:TOk P T){kk:K β}{nx:Nat}{t:TypeId}{n:Nat}{parts:Array (Nat×Operand)}(ho:o.op=.buildSlice t n parts)(hk:lF T bl nx t n (parts.toList.map λp=>(p.1,ρ p.2)) kk=some r):Sound P o ρ bl kk r:=by
 unfold lF at hk;split at hk
 ·cases hk
 rename_i ti ht;obtain⟨i,d,z,f⟩:=hT.facts ht;split at hk
 ·rename_i et C2 C8
  have hd:=GM f C2 C8;subst hd;have hu:=f.under;split at hk
  ·cases hk
  rename_i te BW;obtain⟨i',d',z',fe⟩:=hT.facts BW;split at hk
  ·cases hk
  rename_i e RG;cases hs:(Nat.beq e.size te.size&&(Nat.ble (n*te.size) 16777216&&Nat.blt 0 te.size))with
  |false=>rw[hs]at hk;cases hk
  |true=>
   obtain⟨B5,K0⟩:=andB hs;obtain⟨Bm,Ey⟩:=andB K0;have B5:=Az B5;have Bm:=HQ Bm;have Ey:=DR Ey;simp only[hs,Ar]at hk;split at hk
   ·cases hk
   rename_i ps ID;split at hk
   ·cases hk
   rename_i cs Df;split at hk
   ·rename_i l hl hn
    have GV:l.length=n:=by
     have:∀{m:Nat}{cs:List C}{l:List e.den},J0 (λ_=>none) e m cs=some l->l.length=m:=by
      intro m
      induction m with
      |zero=>
       intro cs l h;cases cs with
       |nil=>simp only[J0,Ag]at h;subst h;rfl
       |cons c cs=>simp[J0]at h
      |succ m ih=>
       intro cs l h;simp only[J0]at h;split at h
       ·split at h
        ·rename_i l' Gt
         simp only[Ag]at h;subst h;simp[ih Gt]
        ·cases h
       ·cases h
     exact this hl
    have AnE:n<=n*te.size:=jY _ Ey;refine AcP hn hk (by simp only[maxLen];omega) λAa ok0 base pl w a hr Af=>?_
    have E1:z'.cells.size=te.size:=by have:=fe.len;rw[Hc]at this;rw[this,fe.size]
    have Xj:CReps (Ap ok0 base pl Aa w) (repC n te.zero) (repL n z'.cells.toList):=AcO (by rw[fe.zeroC];exact MW fe.one) n
    have NM:∀(j:Nat)(p:Nat×V)(q:Nat×Value),(parts.toList.map λp=>(p.1,ρ p.2))[j]?=some p->(parts.toList.map λp=>(p.1,a.eval p.2))[j]?=some q->VRep (Ap ok0 base pl Aa w) p.2 q.2:=by
     intro j p q h1 h2;rw[FT]at h1 h2;cases hj:parts.toList[j]? with
     |none=>rw[hj]at h1;cases h1
     |some x=>rw[hj]at h1 h2;simp only[Fa,Ag]at h1 h2;subst h1 h2;exact Af x.2 (by simp only[ho,Op.operands];exact kA.2 (Gy.2 ⟨x,Dg hj,rfl⟩))
    have Lr:(parts.toList.map λp=>(p.1,a.eval p.2)).map (·.1)=(parts.toList.map λp=>(p.1,ρ p.2)).map (·.1):=by simp
    obtain⟨us,h1,h2⟩:=m7 (T:=T) (E:=Ap ok0 base pl Aa w) (λi=>some (i*te.size,te.size)) _
     (λi v cs0 rest ps h hv=>by obtain⟨h1,HO,h2,h3⟩:=AcL (ti:={te with elem:=some et,len:=some n}) rfl rfl BW h hv;exact⟨i*te.size,by rw[h1],HO,h2,h3⟩) _ _ _ _ _ _ ID Lr NM Xj Df
    obtain⟨d1,d2⟩:=Y0 hr.blksOk (Rows.none _ _) h2 hl;refine⟨us,?_,d1⟩
    have WM:(madeCells z'.cells (n*te.size))=(repL n z'.cells.toList).toArray:=by apply HR;rw[<-E1,Tb _ (by omega)]
    have Kw:¬(n*te.size>2^24):=by omega
    rw[GV];by_cases IG:n*te.size=0
    ·have Jl:n=0:=by
      rcases Nat.mul_eq_zero.1 IG with h|h
      ·exact h
      ·omega
     subst Jl;simp only[repL]at h1;have e0:∀g:Nat->Value,(Array.range 0).map g=#[]:=λg=>by apply HR;simp
     have h0:¬((0:Nat)>2^24):=by decide
     simp only[execOp,ho,Instr.buildSlice,run_underlying hu,run_sizeOf fe,Sem.run_bind,Result.andThen_ok,IG,h0,CF,Sem.run_pure,D6,e0,S0,h1,newRow,run_newObj];rfl
    ·have IH:∀(k:Nat),(Array.range (n*te.size)).map (λx=>z'.cells[x%z'.cells.size]!)=(repL n z'.cells.toList).toArray:=λ_=>WM
     simp only[execOp,ho,Instr.buildSlice,run_underlying hu,run_sizeOf fe,Sem.run_bind,Result.andThen_ok,Kw,CF,Sem.run_pure,IG,zeroValue,typeInfo,run_program,fe.info,fe.zero,IH 0,S0,h1,newRow,run_newObj];rfl
   ·cases hk
 ·cases hk
theorem ApJ{T:TypeId->Option TI}(hT:TOk P T){kk:K β}{nx:Nat}{t:TypeId}{x y:Operand}(ho:o.op=.makeSlice t x y)(hk:lG T bl nx t (ρ x) (ρ y) kk=some r):Sound P o ρ bl kk r:=by
 have Cg:x∈o.op.operands:=by simp[ho,Op.operands]
 have Ez:y∈o.op.operands:=by simp[ho,Op.operands]
 unfold lG at hk;split at hk
 ·rename_i ti ki i kj j ht hi hj
  obtain⟨inf,d,z,f⟩:=hT.facts ht;split at hk
  ·rename_i et C2 C8
   have hd:=GM f C2 C8;subst hd;have hu:=f.under;split at hk
   ·cases hk
   rename_i te BW;obtain⟨i',d',z',fe⟩:=hT.facts BW;split at hk
   ·cases hk
   rename_i e RG;split at hk
   ·rename_i z0 IG hn
    cases hs:(Nat.beq e.size te.size&&Nat.blt 0 te.size)with
    |false=>rw[hs]at hk;cases hk
    |true=>
     obtain⟨B5,Bm⟩:=andB hs;have B5:=Az B5;have Bm:=DR Bm;simp only[hs,Ar]at hk;obtain⟨hc,RK⟩:=DL hk;clear hk;obtain⟨c1,hc⟩:=andB hc;obtain⟨c2,hc⟩:=andB hc;obtain⟨c3,c4⟩:=andB hc;have c1:=Bv c1;have c2:=Bv c2;have c3:=Bv c3;have c4:=Bv c4;subst c2;refine AcP hn RK (by simp only[MI,maxLen];omega) λAa ok0 base pl w a hr Af=>?_;have hx:=Af x Cg;have hy:=Af y Ez;rw[Ot hi]at hx;rw[Ot hj]at hy;have DP:a.eval x=.int ki i:=hx;have iZ:a.eval y=.int kj i:=hy
     have E1:z'.cells.size=te.size:=by have:=fe.len;rw[Hc]at this;rw[this,fe.size]
     have Xk:DRep w (Ap ok0 base pl Aa w).ok e z0 z'.cells.toList:=Oo hr.blksOk (Rows.none _ _) (by rw[fe.zeroC];exact MW fe.one) IG;refine⟨repL i.toNat z'.cells.toList,?_,DList.rep Xk _⟩
     have Gr:(i'.bytes:Int)*i<=281474976710656:=by
      rw[<-fe.bytes]
      have:((i.toNat*te.bytes:Nat):Int)=(te.bytes:Int)*i:=by rw[Int.natCast_mul,Sy c1,Int.mul_comm]
      simp only[Bl]at c3;omega
     have EL:=run_make (P:=P) w t et i' z' hu fe.info fe.zero ki kj i i c1 (MS _) Gr (by omega)
     have WM:madeCells z'.cells (i.toNat*i'.size)=(repL i.toNat z'.cells.toList).toArray:=by apply HR;rw[<-fe.size,<-E1,Tb _ (by omega)]
     rw[WM]at EL;simp[execOp,ho,DP,iZ,EL]
   ·cases hk
  ·cases hk
 ·cases hk
end
end Go.Lift
namespace Go.Lift
open Go.RowKit
section
variable{P:Program}{o:Oper}{ρ:Operand->V}{bl:Nat->Option Blk}{β:Type}{r:β}
theorem ApK{w:World}(base:Nat){t ty et:TypeId}{te:TI}{i:TypeInfo}{d:TypeDesc}{z:Value}(fe:TFacts P et te i d z)(ht:P.underlying t=some (.slice et))(HK:0<te.size)(Gr:0<te.bytes){v:Value}{n:Nat}{xs:List Value}(Ao:w.ownsRow base et te.size v n xs){src:Value}{m base2:Nat}{ys:List Value}(FB:w.ownsRow base2 et te.size src m ys)(h1:∀u∈ys,u.oneCell'=true)(DF:(n+m)*te.bytes<=Bl)(Cm:base<=w.heap.size):∃v' w',(Builtin.append_ #[t,t] ty #[v,src]).run P w=.ok v' w'/\w'.ownsRow base et te.size v' (n+m) (xs++ys)/\w.grownBy w' v.ownBlock/\(v'.ownBlock=v.ownBlock\/v'.ownBlock=some w.heap.size):=by
 have JT:i.size=te.size:=fe.size.symm
 have Lz:z.cells.size=te.size:=by have:=fe.len;rw[Hc]at this;rw[this,JT]
 have Ab4:(n+m)*i.bytes<=140737488355328:=by rw[<-fe.bytes];exact DF
 have N3:n+m<=maxLen:=by have h2:n+m<=(n+m)*te.bytes:=jY _ Gr;simp only[Bl]at DF;simp only[maxLen];omega
 have hs:=FB;rcases FB.2 with⟨rfl,rfl⟩|⟨g,cap,AP,rfl,_⟩
 ·have hy:ys=[]:=by have:=FB.1;exact IK (by simpa using this)
  subst hy;refine⟨v,w,?_,by simpa using Ao,⟨rfl,rfl,rfl,AQ _,λ_ _ _=>rfl⟩,.inl rfl⟩;rcases Ao.2 with⟨rfl,rfl⟩|⟨g,cap,AP,rfl,_,_,Ft,_⟩
  ·simp[Builtin.append_,run_underlying ht,sizeOf,typeInfo,fe.info,Builtin.lenOf,Builtin.firstCells]
  ·simp[Builtin.append_,run_underlying ht,sizeOf,typeInfo,fe.info,Builtin.lenOf,Builtin.firstCells,Ft,storeCells]
 ·obtain⟨v',w',AM,h2,h3,_,h5⟩:=run_append_own_at (P:=P) w base t ty et i z te.size i.bytes ht fe.info fe.zero JT rfl Lz HK v n xs Ao ⟨g,0,none⟩ m cap ys hs.1
   (λj u hj=>hs.cells (g:=g) rfl j u hj) h1 N3 Ab4 Cm
  exact⟨v',w',AM,h2,h3,h5⟩
end
end Go.Lift
namespace Go.Lift
open Go.RowKit
theorem MatOk.nil(E:Env)(t et:TypeId)(e:Ty):MatOk E t et e none [] (.slice none 0 0) []:=
 ⟨⟨[],World.ownsRow_nil _ _ _ _,λi s h=>by simp at h⟩,rfl,λi h=>by simp at h,λi s x h=>by simp at h,λi s g h=>by simp at h,λi j s r g _ h=>by simp at h⟩
section
variable{P:Program}{o:Oper}{ρ:Operand->V}{bl:Nat->Option Blk}{β:Type}{r:β}
theorem AcQ{w:World}{base:Nat}{t0:TypeId}{size:Nat}{sv:Value}{m:Nat}{xs:List Value}(Ao:w.ownsRow base t0 size sv m xs){g o n c:Nat}(Aw:sv=.slice (some ⟨g,0,none⟩) n c){us:List Value}(h1:∀u∈us,u.oneCell'=true)(BS:o+us.length<=xs.length):∃w',(storeCells ⟨g,o,none⟩ us).run P w=.ok () w'/\w.grownBy w' (some g)/\w'.ownsRow base t0 size sv m (xs.take o++us++xs.drop (o+us.length)):=by
 obtain⟨Fi,DE⟩:=Ao;rcases DE with⟨h0,_⟩|⟨g',cap,AP,JV,Cm,hh,Ft,Fs,W4,IF⟩
 ·rw[Aw]at h0;cases h0
 have hh:w.heap[g']?=some (.cells AP t0 (0,0)):=hh
 have FN:g'=g:=by rw[Aw]at JV;injection JV with e1 e2 e3;injection e1 with e1;injection e1 with e1;exact e1.symm
 subst FN
 have Bt:AP.toList=xs++AP.toList.drop (m*size):=by rw[<-IF,L8]
 have AaH:o+us.length<=AP.toList.length:=by rw[Bt];simp only[AR];omega
 have BU:=run_storeCells_at P g' o t0 us 0 AP w hh (by simpa using AaH) h1;simp only[Oa]at BU
 have I9:AP.toList.take o++us++AP.toList.drop (o+us.length)=xs.take o++us++xs.drop (o+us.length)++AP.toList.drop (m*size):=by
  have e1:AP.toList.take o=xs.take o:=by rw[Bt,L7 (by omega)]
  have e2:AP.toList.drop (o+us.length)=xs.drop (o+us.length)++AP.toList.drop (m*size):=by
   conv=>lhs;rw[Bt]
   rw[Qc BS]
  rw[e1,e2];simp only[Ci]
 have Ls:(xs.take o++us++xs.drop (o+us.length)).length=xs.length:=by simp only[AR,Hd,IL];omega
 refine⟨_,BU,lU w g' _,by rw[Ls];exact Fi,.inr ⟨g',cap,_,JV,Cm,setRow_heap w g' _ _ t0 _ hh,Ft,Fs,?_,?_⟩⟩
 ·have Aat:AP.size=cap*size:=W4
  have:(AP.toList.take o++us++AP.toList.drop (o+us.length)).length=AP.toList.length:=by simp only[AR,Hd,IL];omega
  rw[XV,this,Hc];exact Aat
 ·simp only[I9]
  rw[L7 (by rw[Ls,Fi];exact AQ _),Hb (by rw[Ls,Fi];exact AQ _)]
theorem ApL{w:World}{okI:Nat->Prop}{e:Ty}{new:List e.den}{src:Value}(FB:Reads w okI e new src)(n:Nat):∃ys,DList (λx u=>DRep w okI e x u) (new.take n) ys/\ys.length=Nat.min new.length n*e.size/\(Builtin.lenOf src).run P w=.ok new.length w/\(Builtin.firstCells e.size (Nat.min new.length n) src).run P w=.ok ys.toArray w:=by
 obtain⟨A,c,ys,rfl,BS,Fs,hd,DC⟩:=FB;have Ii:=hd.length;have Ct:=hd.take n;have NA:=Ct.length;have AGN:(new.take n).length=Nat.min new.length n:=by rw[Hd,Nat.min_comm]
 rw[AGN]at NA
 have DY:ys.take (n*e.size)=ys.take (Nat.min new.length n*e.size):=by
  rcases Nat.le_total new.length n with h|h
  ·have:Nat.min new.length n=new.length:=Nat.min_eq_left h
   rw[this,<-Ii,Hb (AQ _),Hb];rw[Ii];exact L9 _ h
  ·have:Nat.min new.length n=n:=Nat.min_eq_right h
   rw[this]
 refine⟨ys.take (n*e.size),Ct,NA,by simp[Builtin.lenOf],?_⟩;cases A with
 |none=>
  have hy:ys=[]:=by
   cases ys with
   |nil=>rfl
   |cons y ys=>obtain⟨ad,ha,_⟩:=DC 0 y rfl;cases ha
  subst hy;simp[Builtin.firstCells]
 |some ad=>
  have h:=run_loadCells_list (P:=P) w ad (ys.take (n*e.size)) (λj u hj=>by
   rw[ML]at hj;split at hj
   ·obtain⟨Aag,ha,hc⟩:=DC j u hj
    injection ha with ha;subst ha;exact hc
   ·cases hj)
  rw[NA]at h;simpa [Builtin.firstCells]using h
theorem AcR{w w':World}{a:Act}{x y:Operand}{c:Call}{t:TypeId}(ho:o.op=.call c)(hc:c.callee=.builtin .copy)(ha:c.args.toList=[x,y])(ht:c.argTypes.toList=[t,t]){v:Value}(h:(Builtin.copy_ #[t,t] o.type #[a.eval x,a.eval y]).run P w=.ok v w'):(execOp a.eval o).run P w=.ok (.value v) w':=by
 have h1:c.args=#[x,y]:=by rw[<-GK (xs:=c.args),ha]
 have h2:c.argTypes=#[t,t]:=by rw[<-GK (xs:=c.argTypes),ht]
 simp[execOp,ho,resolve,hc,h1,h2,invoke,builtin,h]
theorem AcS{te:TI}{t et:TypeId}{inf:TypeInfo}{d':TypeDesc}{z:Value}(fe:TFacts P et te inf d' z)(hu:P.underlying t=some (.slice et)){e:Ty}(Gs:e.size=te.size){E:Env}{base:Nat}{t0:TypeId}{l new:List e.den}{sv:Value}{xs:List Value}(hd:DList (λx u=>DRep E.w E.ok e x u) l xs)(Ao:E.w.ownsRow base t0 e.size sv l.length xs){src:Value}(FB:Reads E.w E.ok e new src){i d:Nat}(hid:i+d<=l.length){A:Option Addr}{cd:Nat}(hA:0<d->∃g n c,sv=.slice (some ⟨g,0,none⟩) n c/\A=some ⟨g,i*e.size,none⟩)(ty:TypeId):∃w' D5,(Builtin.copy_ #[t,t] ty #[.slice A d cd,src]).run P E.w=.ok (.int .i64 ((Nat.min new.length d:Nat):Int)) w'/\E.w.grownBy w' sv.ownBlock/\DList (λx u=>DRep E.w E.ok e x u) (l.take i++(new.take d++l.drop (i+Nat.min new.length d))) D5/\w'.ownsRow base t0 e.size sv l.length D5:=by
 obtain⟨ys,iA,Ii,Bp,iC⟩:=ApL (P:=P) FB d;have Fi:=hd.length;have JS:=iA.oneCell;have hn:Nat.min new.length d<=d:=Nat.min_le_right _ _;have Ct:DList (λx u=>DRep E.w E.ok e x u) (l.take i++(new.take d++l.drop (i+Nat.min new.length d))) (xs.take (i*e.size)++(ys++xs.drop ((i+Nat.min new.length d)*e.size))):=(hd.take i).append (iA.append (hd.drop _));have CK:(sizeOf et).run P E.w=.ok e.size E.w:=by rw[Gs];exact run_sizeOf fe E.w
 rcases XR d with h0|h0
 ·subst h0
  have hm:Nat.min new.length 0=0:=Nat.min_eq_right (Ej _);rw[hm]at Ii iC;have hy:ys=[]:=IK (by simpa using Ii);subst hy;refine⟨E.w,xs,?_,⟨rfl,rfl,rfl,AQ _,λ_ _ _=>rfl⟩,?_,Ao⟩
  ·cases A with
   |none=>simp[Builtin.copy_,run_underlying hu,Bp,hm,CK,iC,goInt]
   |some ad=>simp[Builtin.copy_,run_underlying hu,Bp,hm,CK,iC,goInt,storeCells]
  ·have h3:l.take i++(new.take 0++l.drop (i+Nat.min new.length 0))=l:=by rw[hm];simp
   rw[h3];exact hd
 ·obtain⟨g,n,c,Aw,rfl⟩:=hA h0
  have BS:i*e.size+ys.length<=xs.length:=by rw[Ii,Fi,<-Jx];exact L9 _ (by omega)
  obtain⟨w',BU,hg,Kz⟩:=AcQ (P:=P) Ao (o:=i*e.size) Aw JS BS;refine⟨w',_,?_,by rw[Aw];exact hg,Ct,?_⟩
  ·simp[Builtin.copy_,run_underlying hu,Bp,CK,iC,goInt,BU]
  ·have:xs.take (i*e.size)++(ys++xs.drop ((i+Nat.min new.length d)*e.size))=xs.take (i*e.size)++ys++xs.drop (i*e.size+ys.length):=by rw[Ii,<-Jx,Ci]
   rw[this];exact Kz
theorem ApM{T:TypeId->Option TI}(hT:TOk P T){kk:K β}{c:Call}(ho:o.op=.call c)(hc:c.callee=.builtin .copy){x y:Operand}{t:TypeId}(ha:c.args.toList=[x,y])(Cu:c.argTypes.toList=[t,t])(hk:kS T bl t (ρ x) (ρ y) kk=some r):Sound P o ρ bl kk r:=by
 have B3:c.args=#[x,y]:=by rw[<-GK (xs:=c.args),ha]
 have Cg:x∈o.op.operands:=by simp[ho,Op.operands,Call.operands,B3]
 have Ez:y∈o.op.operands:=by simp[ho,Op.operands,Call.operands,B3]
 unfold kS at hk;split at hk
 ·cases hk
 rename_i ti ht;obtain⟨i,d,z,f⟩:=hT.facts ht;split at hk
 ·rename_i et C2 C8
  have hd:=GM f C2 C8;subst hd;split at hk
  ·cases hk
  rename_i te BW;obtain⟨i',d',z',fe⟩:=hT.facts BW;split at hk
  ·cases hk
  rename_i e RG;cases hs:(Nat.beq e.size te.size&&Nat.blt 0 te.size)with
  |false=>rw[hs]at hk;cases hk
  |true=>
   obtain⟨B5,Bm⟩:=andB hs;have B5:=Az B5;simp only[hs,Ar]at hk;split at hk
   ·cases hk
   rename_i new rd FB;split at hk
   ·
    rename_i b ver lo hi hx;split at hk
    ·rename_i t0 e0 ver' l hb
     cases Bg:Nat.beq ver ver' with
     |false=>rw[Bg]at hk;cases hk
     |true=>
      have:=Az Bg;subst this;simp only[Bg,Ar]at hk;split at hk
      ·rename_i he
       subst he;refine⟨_,_,_,hk,λAa Aj=>?_⟩;have AH:Aa b=some (.row t0 e0 ver l):=(Aj b (by simp)).trans hb;intro ok0 base pl w a hr Af K Q hK;have hv:=Af x Cg;rw[hx]at hv;obtain⟨_,sv,Ac,hg,Bt⟩:=hv;obtain⟨q1,q2,A,A',n,cc,Aw,B7,hA,_⟩:=(Bt t0 e0 ver l AH).2 rfl;obtain⟨p,hp,hB⟩:=hr.blks b _ AH;have:p=.row sv Ac:=by have h2:pl b=some (.row sv Ac):=hg;rw[hp]at h2;injection h2
       subst this;obtain⟨h0,xs,Cv,Ao⟩:=hB;subst h0;have FA:Reads w (Ap ok0 base pl Aa w).ok e0 new (a.eval y):=Q5 hr.blksOk FB (λb hb B hB=>(Aj b (by simp[hb])).trans hB) (Af y Ez)
       obtain⟨w',D5,AM,Dq,Ct,DE⟩:=AcS fe f.under B5 (E:=Ap ok0 base pl Aa w) Cv Ao FA (i:=lo) (d:=hi-lo) (by omega) (A:=A') (cd:=cc-lo) (λHK=>by
        have hA:=hA (by omega);rcases Ao.2 with⟨Dt,hn⟩|⟨g,cap,AP,Dt,_⟩
        ·omega
        ·rw[Aw]at Dt
         injection Dt with e1 _ _;subst e1;refine⟨g,n,cc,Aw,?_⟩;rw[hA];simp[Addr.add_lit]) o.type
       have Bg:ver<=ver/\(ver=ver->sv=sv/\(l.take lo++(new.take (hi-lo)++l.drop (lo+Nat.min new.length (hi-lo)))).length=l.length):=⟨AQ _,λ_=>⟨rfl,by have h1:Nat.min new.length (hi-lo)=min (hi-lo) new.length:=Nat.min_comm _ _;simp only[AR,Hd,IL,h1];omega⟩⟩
       have BU:=Step.grown hr AH hp Dq (.inl rfl) Bg;have GE:=BU.ext (ok0:=ok0) (base:=base);refine H9 (AcR ho hc ha Cu (by rw[B7];exact AM)) (hK _ (upd pl b (.row sv [])) w' ?_ BU rfl);exact RelB.grown hr AH hp Dq (.inl rfl) Bg ⟨rfl,D5,Ct.mono λx u hu=>hu.mono GE.heap,by rw[(Bg.2 rfl).2];exact DE⟩
      ·cases hk
    ·cases hk
   ·
    rename_i b ver hx;split at hk
    ·rename_i t0 e0 ver' l hb
     cases Bg:Nat.beq ver ver' with
     |false=>rw[Bg]at hk;cases hk
     |true=>
      have:=Az Bg;subst this;simp only[Bg,Ar]at hk;split at hk
      ·rename_i he
       subst he;refine⟨_,_,_,hk,λAa Aj=>?_⟩;have AH:Aa b=some (.row t0 e0 ver l):=(Aj b (by simp)).trans hb;intro ok0 base pl w a hr Af K Q hK;have hv:=Af x Cg;rw[hx]at hv;obtain⟨_,sv,Ac,hg,Bt⟩:=hv;have B7:=(Bt t0 e0 ver l AH).2 rfl;obtain⟨p,hp,hB⟩:=hr.blks b _ AH;have:p=.row sv Ac:=by have h2:pl b=some (.row sv Ac):=hg;rw[hp]at h2;injection h2
       subst this;obtain⟨h0,xs,Cv,Ao⟩:=hB;subst h0;have FA:Reads w (Ap ok0 base pl Aa w).ok e0 new (a.eval y):=Q5 hr.blksOk FB (λb hb B hB=>(Aj b (by simp[hb])).trans hB) (Af y Ez)
       obtain⟨A,cc,Aw,hA⟩:∃A cc,sv=.slice A l.length cc/\(0<l.length->∃g n c,sv=.slice (some ⟨g,0,none⟩) n c/\A=some ⟨g,0*e0.size,none⟩):=by
        rcases Ao.2 with⟨Dt,hn⟩|⟨g,cap,AP,Dt,_⟩
        ·exact⟨none,0,by rw[Dt,hn],λh=>by omega⟩
        ·exact⟨_,cap,Dt,λ_=>⟨g,_,_,Dt,by simp⟩⟩
       obtain⟨w',D5,AM,Dq,Ct,DE⟩:=AcS fe f.under B5 (E:=Ap ok0 base pl Aa w) Cv Ao FA (i:=0) (d:=l.length) (by omega) (A:=A) (cd:=cc) hA o.type;simp only[List.take_zero,Fl,Ei]at Ct
       have Bg:ver<=ver/\(ver=ver->sv=sv/\(new.take l.length++l.drop (Nat.min new.length l.length)).length=l.length):=⟨AQ _,λ_=>⟨rfl,by have h1:Nat.min new.length l.length=min l.length new.length:=Nat.min_comm _ _;simp only[AR,Hd,IL,h1];omega⟩⟩
       have BU:=Step.grown hr AH hp Dq (.inl rfl) Bg;have GE:=BU.ext (ok0:=ok0) (base:=base);refine H9 (AcR ho hc ha Cu (by rw[B7,Aw];exact AM)) (hK _ (upd pl b (.row sv [])) w' ?_ BU rfl);exact RelB.grown hr AH hp Dq (.inl rfl) Bg ⟨rfl,D5,Ct.mono λx u hu=>hu.mono GE.heap,by rw[(Bg.2 rfl).2];exact DE⟩
      ·cases hk
    ·cases hk
   ·cases hk
 ·cases hk
theorem AcT{w:World}{ok:Nat->Prop}{k:IntKind}:∀{l:List Int}{ys:List Value},DList (λ(x:(Ty.int k).den) u=>DRep w ok (.int k) x u) l ys->ys=l.map (Value.int k)
 |[],_,h=>by simp only[DList]at h;subst h;rfl
 |n::l,_,⟨u,v,e1,hr,ht⟩=>by have hu:u=[.int k n]:=hr;subst e1 hu;rw[AcT ht];rfl
theorem ApN{T:TypeId->Option TI}(hT:TOk P T){kk:K β}{s t:TypeId}{x:Operand}(ho:o.op=.convert s t x){si ti:TI}(hs:T s=some si)(ht:T t=some ti)(hk:lE T bl si ti (ρ x) kk=some r):Sound P o ρ bl kk r:=by
 obtain⟨i,d,z,f⟩:=hT.facts ht;obtain⟨i',d',z',f'⟩:=hT.facts hs;unfold lE at hk;split at hk
 ·rename_i et C2 C8
  have hd:=GM f' C2 C8;subst hd;split at hk
  ·cases hk
  rename_i te BW;obtain⟨i2,d2,z2,fe⟩:=hT.facts BW;split at hk
  ·rename_i Mw
   have he:d2=.int .u8:=by rw[fe.kind]at Mw;cases d2<;>simp_all [Q2]
   subst he;cases Jo:ti.isStr with
   |false=>rw[Jo]at hk;cases hk
   |true=>
    have hd:=SX f Jo;subst hd;simp only[Jo,Ar]at hk;split at hk
    ·rename_i l rd FB
     refine Sound.pure hk λAa Aj ok0 base pl w a hr Af=>⟨.string ⟨(H8 l).toArray⟩,?_,rfl⟩;have FA:Reads w (Ap ok0 base pl Aa w).ok (.int .u8) l (a.eval x):=Q5 hr.blksOk FB (λb hb B hB=>(Aj b (by simpa using hb)).trans hB) (Af x (by simp[ho,Op.operands]));obtain⟨A,c,ys,hv,_,_,N8,DC⟩:=FA;have AHE:=AcT N8;subst AHE
     have AG7:(convert s t (a.eval x)).run P w=.ok (.string ⟨(H8 l).toArray⟩) w:=by
      rw[hv,run_convert_bytes_string w s t et A _ c f'.under fe.under f.under];cases A with
      |none=>
       have:l=[]:=by
        cases l with
        |nil=>rfl
        |cons n l=>obtain⟨ad,h,_⟩:=DC 0 _ rfl;cases h
       subst this;rfl
      |some ad=>
       have AaL:(loadCells ad l.length).run P w=.ok (l.map (Value.int .u8)).toArray w:=by
        have:=run_loadCells_list (P:=P) w ad (l.map (Value.int .u8)) (λj v hj=>by obtain⟨Aag,h,h2⟩:=DC j v hj;injection h with h;subst h;exact h2)
        simpa using this
       rw[run_bytesToString w ad l.length c l AaL,foldl_push_bytes];congr 2;simp[H8,ByteArray.empty,ByteArray.emptyWithCapacity];rfl
     simp[execOp,ho,AG7]
    ·cases hk
  ·cases hk
 ·cases hk
end
end Go.Lift
namespace Go.Lift
open Go.RowKit
section
variable{β:Type}{r:β}{P:Program}{o:Oper}{ρ:Operand->V}{bl:Nat->Option Blk}
theorem AcU(z:Array Value)(hz:0<z.size)(n:Nat):(Builtin.zeroCells z n).toList=repL n z.toList:=Tb z hz n
theorem ApO{T:TypeId->Option TI}(hT:TOk P T){kk:K β}{c:Call}(ho:o.op=.call c)(hc:c.callee=.builtin .clear){x:Operand}{t:TypeId}(ha:c.args.toList=[x])(Cu:c.argTypes.toList=[t])(hk:kT T bl t (ρ x) kk=some r):Sound P o ρ bl kk r:=by
 have B3:c.args=#[x]:=by rw[<-GK (xs:=c.args),ha]
 have Xc:c.argTypes=#[t]:=by rw[<-GK (xs:=c.argTypes),Cu]
 have Cg:x∈o.op.operands:=by simp[ho,Op.operands,Call.operands,B3]
 unfold kT at hk;split at hk
 ·cases hk
 rename_i ti ht;obtain⟨i,d,z,f⟩:=hT.facts ht;split at hk
 ·rename_i et C2 C8
  have hd:=GM f C2 C8;subst hd;have hu:=f.under;split at hk
  ·cases hk
  rename_i te BW;obtain⟨i',d',z',fe⟩:=hT.facts BW;split at hk
  ·cases hk
  rename_i e RG;cases hs:(Nat.beq e.size te.size&&Nat.blt 0 te.size)with
  |false=>rw[hs]at hk;cases hk
  |true=>
   obtain⟨B5,Bm⟩:=andB hs;have B5:=Az B5;have Bm:=DR Bm;simp only[hs,Ar]at hk;split at hk
   ·cases hk
   rename_i z0 IG;split at hk
   ·rename_i b ver lo hi hx
    split at hk
    ·rename_i t0 e0 ver' l hb
     cases Bg:Nat.beq ver ver' with
     |false=>rw[Bg]at hk;cases hk
     |true=>
      have:=Az Bg;subst this;simp only[Bg,Ar]at hk;split at hk
      ·rename_i he
       subst he;refine⟨_,_,_,hk,λAa Aj=>?_⟩;have AH:Aa b=some (.row t0 e0 ver l):=(Aj b (by simp)).trans hb;intro ok0 base pl w a hr Af K Q hK;have hv:=Af x Cg;rw[hx]at hv;obtain⟨_,sv,Ac,hg,Bt⟩:=hv;obtain⟨q1,q2,A,A',n,cc,Aw,B7,hA,_⟩:=(Bt t0 e0 ver l AH).2 rfl;obtain⟨p,hp,hB⟩:=hr.blks b _ AH;have:p=.row sv Ac:=by have h2:pl b=some (.row sv Ac):=hg;rw[hp]at h2;injection h2
       subst this;obtain⟨h0,xs,Cv,Ao⟩:=hB;subst h0
       have E1:z'.cells.size=te.size:=by have:=fe.len;rw[Hc]at this;rw[this,fe.size]
       have Xk:DRep w (Ap ok0 base pl Aa w).ok e0 z0 z'.cells.toList:=Oo hr.blksOk (Rows.none _ _) (by rw[fe.zeroC];exact MW fe.one) IG;have Lz:DList (λx u=>DRep w (Ap ok0 base pl Aa w).ok e0 x u) (List.replicate (hi-lo) z0) (repL (hi-lo) z'.cells.toList):=DList.rep Xk _;have Ii:=Lz.length;simp only[MI]at Ii;have JS:=Lz.oneCell;have Fi:=Cv.length;have NB:(l.take lo++(List.replicate (hi-lo) z0++l.drop hi)).length=l.length:=by simp;omega
       have Bg:ver<=ver/\(ver=ver->sv=sv/\(l.take lo++(List.replicate (hi-lo) z0++l.drop hi)).length=l.length):=⟨AQ _,λ_=>⟨rfl,NB⟩⟩;have Abi:∀w,(zeroValue et).run P w=.ok z' w:=λw=>by simp[zeroValue,typeInfo,fe.info,fe.zero]
       have AM:∃w' D5,(Builtin.clear_ #[t] o.type #[a.eval x]).run P w=.ok (.tuple #[]) w'/\w.grownBy w' sv.ownBlock/\
         DList (λx u=>DRep w (Ap ok0 base pl Aa w).ok e0 x u) (l.take lo++(List.replicate (hi-lo) z0++l.drop hi)) D5/\w'.ownsRow base t0 e0.size sv l.length D5:=by
        rcases XR (hi-lo)with h0|h0
        ·refine⟨w,xs,?_,⟨rfl,rfl,rfl,AQ _,λ_ _ _=>rfl⟩,?_,Ao⟩
         ·rw[B7,h0]
          cases A'<;>simp[Builtin.clear_,run_underlying hu]
         ·have h3:l.take lo++(List.replicate (hi-lo) z0++l.drop hi)=l:=by rw[h0,show hi=lo by omega];simp
          rw[h3];exact Cv
        ·have hA:=hA (by omega)
         rcases Ao.2 with⟨Dt,hn⟩|⟨g,cap,AP,Dt,_⟩
         ·omega
         ·have hAg:A=some ⟨g,0,none⟩:=by rw[Aw]at Dt;injection Dt
          subst hAg
          have BS:lo*e0.size+(repL (hi-lo) z'.cells.toList).length<=xs.length:=by rw[Ii,Fi,<-Jx];exact L9 _ (by omega)
          obtain⟨w',BU,AGr,Kz⟩:=AcQ (P:=P) (w:=w) (base:=base) Ao (o:=lo*e0.size) Aw JS BS;refine⟨w',_,?_,by rw[Aw];exact AGr,(Cv.take lo).append (Lz.append (Cv.drop hi)),?_⟩
          ·obtain⟨m,hm⟩:∃m,hi-lo=m+1:=⟨hi-lo-1,by omega⟩
           rw[B7,hA,hm];rw[hm]at BU;have hz:=AcU z'.cells (by omega) (m+1);have Pk:(Addr.mk g 0 none).add (lo*e0.size)=⟨g,lo*e0.size,none⟩:=by simp[Addr.add_lit]
           simp only[Fa,Pk];simp only[Builtin.clear_,run_underlying hu,Abi,hz,Sem.run_bind,Result.andThen_ok,XN,DI,Sem.run_pure];rw[BU];rfl
          ·have h4:xs.take (lo*e0.size)++(repL (hi-lo) z'.cells.toList++xs.drop (hi*e0.size))=xs.take (lo*e0.size)++repL (hi-lo) z'.cells.toList++xs.drop (lo*e0.size+(repL (hi-lo) z'.cells.toList).length):=by rw[Ii,<-Jx,Ci,show lo+(hi-lo)=hi by omega]
           rw[h4];exact Kz
       obtain⟨w',D5,AM,Dq,Ct,DE⟩:=AM;have BU:=Step.grown hr AH hp Dq (.inl rfl) Bg;have GE:=BU.ext (ok0:=ok0) (base:=base)
       have Lo:(execOp a.eval o).run P w=.ok (.value (.tuple #[])) w':=by simp[execOp,ho,resolve,hc,B3,Xc,invoke,builtin,AM]
       refine H9 Lo (hK _ (upd pl b (.row sv [])) w' ?_ BU ⟨[],rfl,rfl⟩);exact RelB.grown hr AH hp Dq (.inl rfl) Bg ⟨rfl,D5,Ct.mono λx u hu=>hu.mono GE.heap,by rw[(Bg.2 rfl).2];exact DE⟩
      ·cases hk
    ·cases hk
   ·cases hk
 ·cases hk
theorem ApP{T:TypeId->Option TI}(hT:TOk P T){kk:K β}{c:Call}(ho:o.op=.call c)(hc:c.callee=.builtin .cap){x:Operand}{t:TypeId}(ha:c.args.toList=[x])(Cu:c.argTypes.toList=[t])(hk:kU T t (ρ x) kk=some r):Sound P o ρ bl kk r:=by
 have B3:c.args=#[x]:=by rw[<-GK (xs:=c.args),ha]
 have Xc:c.argTypes=#[t]:=by rw[<-GK (xs:=c.argTypes),Cu]
 have Cg:x∈o.op.operands:=by simp[ho,Op.operands,Call.operands,B3]
 unfold kU at hk;split at hk
 ·cases hk
 rename_i ti ht;obtain⟨i,d,z,f⟩:=hT.facts ht;split at hk
 ·rename_i et C2 C8 hx
  have hd:=GM f C2 C8;subst hd;have hu:=f.under;refine Sound.pure hk λAa Aj ok0 base pl w a hr Af=>⟨.int .i64 0,?_,rfl⟩;have hv:=Af x Cg;rw[hx]at hv;have hv:a.eval x=.slice none 0 0:=hv;simp[execOp,ho,resolve,hc,B3,Xc,invoke,builtin,Builtin.cap_,run_underlying hu,hv,goInt]
 ·cases hk
theorem ApQ{T:TypeId->Option TI}(hT:TOk P T){kk:K β}{t:TypeId}{x:Operand}{hi:Option Operand}(ho:o.op=.slice t x none hi none)(hk:kK T bl t (ρ x) (hi.map ρ) kk=some r):Sound P o ρ bl kk r:=by
 have Cg:x∈o.op.operands:=by simp[ho,Op.operands]
 have Pw:∀y,hi=some y->y∈o.op.operands:=by rintro y rfl;simp[ho,Op.operands]
 unfold kK at hk;split at hk
 ·cases hk
 rename_i ti ht;obtain⟨i,d,z,f⟩:=hT.facts ht;have hu:=f.under;split at hk
 ·rename_i et C2 C8
  have hd:=GM f C2 C8;subst hd;split at hk
  ·cases hk
  rename_i te BW;obtain⟨i',d',z',fe⟩:=hT.facts BW;split at hk
  ·rename_i b ver hx
   split at hk
   ·rename_i t0 e ver' l hb
    cases hs:(Nat.beq ver ver'&&(Nat.beq e.size te.size&&Nat.blt 0 te.size))with
    |false=>rw[hs]at hk;cases hk
    |true=>
     obtain⟨Bg,M3⟩:=andB hs;obtain⟨B5,Bm⟩:=andB M3;have B5:=Az B5;have:=Az Bg;subst this;simp only[hs,Ar]at hk;split at hk
     ·rename_i n hn
      obtain⟨hc,hk⟩:=DL hk;obtain⟨c2,c3⟩:=andB hc;have c2:=Bv c2;have c3:=Bv c3;refine⟨_,_,_,hk,λAa Aj=>?_⟩;have AH:Aa b=some (.row t0 e ver l):=(Aj b (by simp)).trans hb;intro ok0 base pl w a hr Af K Q hK;have h1:=Af x Cg;rw[hx]at h1;obtain⟨_,sv,Ac,hg,Bt⟩:=h1;have B7:=(Bt t0 e ver l AH).2 rfl;obtain⟨p,hp,hB⟩:=hr.blks b _ AH;have:p=.row sv Ac:=by have h2:pl b=some (.row sv Ac):=hg;rw[hp]at h2;injection h2
      subst this;obtain⟨h0,xs,Cv,Ao⟩:=hB;subst h0
      obtain⟨A,cc,Aw,BS⟩:∃A cc,sv=.slice A l.length cc/\l.length<=cc:=by
       rcases Ao.2 with⟨Aw,hn⟩|⟨g,cap,AP,Aw,_,_,Ft,_⟩
       ·exact⟨none,0,by rw[Aw,hn],by omega⟩
       ·exact⟨_,cap,Aw,Ft⟩
      have DA:=Ov (P:=P) (isSl:=true) (len:=l.length) (cap:=cc) (m:=0) (lo:=none) (.inl ⟨rfl,rfl⟩) (Ka hn λy hy=>Af y (Pw y hy)) (MS 0) c2 (by omega) w
      have HH:(if cc=0 then A else A.map (·.add 0))=A:=by
       split
       ·rfl
       ·cases A<;>simp[Addr.add]
      have Lo:(execOp a.eval o).run P w=.ok (.value (.slice A n.toNat cc)) w:=by have AFV:(Instr.sliceBounds true l.length cc none (hi.map a.eval) none).run P w=.ok (0,n.toNat,cc) w:=DA;simp[execOp,ho,Instr.sliceAt,run_underlying hu,Instr.slice,B7,Aw,AFV,run_sizeOf fe];cases A<;>simp[Addr.add]
      have Ls:n.toNat<=l.length:=by omega
      have AnU:(l.take n.toNat).length=n.toNat:=by simp;omega
      have DE:w.ownsRow base t0 e.size (.slice A n.toNat cc) n.toNat (xs.take (n.toNat*e.size)):=by
       have Fi:=Cv.length;refine⟨by rw[Hd,Fi];exact Nat.min_eq_left (L9 _ Ls),?_⟩;rcases Ao.2 with⟨Dt,Jl⟩|⟨g,cap,AP,Dt,Cm,hh,Ft,Fs,Df,IF⟩
       ·rw[Aw]at Dt
        injection Dt with e1 e2 e3;exact .inl ⟨by rw[e1,e3];congr 1;omega,by omega⟩
       ·have q:=Aw.symm.trans Dt
        injection q with e1 e2 e3;exact .inr ⟨g,cap,AP,by rw[e1,e3],Cm,hh,by omega,Fs,Df,by rw[<-IF,List.take_take,Nat.min_eq_left (L9 _ Ls)]⟩
      have Dq:w.grownBy w sv.ownBlock:=⟨rfl,rfl,rfl,AQ _,λ_ _ _=>rfl⟩;have Gc:(Value.slice A n.toNat cc).ownBlock=sv.ownBlock\/∀g,(Value.slice A n.toNat cc).ownBlock=some g->w.heap.size<=g:=.inl (by rw[Aw];cases A<;>rfl);have Bg:ver<=ver+1/\(ver=ver+1->(Value.slice A n.toNat cc)=sv/\(l.take n.toNat).length=l.length):=⟨Nat.le_succ _,λh=>by omega⟩;have BU:=Step.grown (l':=l.take n.toNat) hr AH hp Dq Gc Bg;have GE:=BU.ext (ok0:=ok0) (base:=base);have hR:=RelB.grown hr AH hp Dq Gc Bg ⟨rfl,xs.take (n.toNat*e.size),(Cv.take n.toNat).mono λx u hu=>hu.mono GE.heap,by rw[AnU];exact DE⟩;refine H9 Lo (hK _ (upd pl b (.row (.slice A n.toNat cc) [])) w hR BU ⟨rfl,.slice A n.toNat cc,[],by simp[Ap,upd],λt1 e1 IJ l2 Aap=>?_⟩);have DA:upd Aa b (.row t0 e (ver+1) (l.take n.toNat)) b=some (.row t1 e1 IJ l2):=Aap;simp[upd]at DA;exact⟨by omega,λ_=>rfl⟩
     ·cases hk
   ·cases hk
  ·cases hk
 ·cases hk
theorem ApR{w:World}{t u ty et:TypeId}{te:TI}{i:TypeInfo}{d:TypeDesc}{z:Value}{k ki:IntKind}(fe:TFacts P et te i d z)(ht:P.underlying t=some (.slice et))(hu:P.underlying u=some (.int k)){m:Nat}(h0:0<m)(Gr:0<te.bytes)(hb:m*te.bytes<=Bl)(HK:0<te.size):(Builtin.append_ #[t,u] ty #[.slice none 0 0,.int ki (m:Int)]).run P w=.ok (.slice (some ⟨w.heap.size,0,none⟩) m (grownCap w m 0 et)) (w.drew.alloc (.cells (Builtin.zeroCells z.cells m++Builtin.zeroCells z.cells (grownCap w m 0 et-m)) et)):=by
 have hm:m<=140737488355328:=by have h1:m*1<=m*te.bytes:=Nat.mul_le_mul_left _ Gr;simp only[Bl]at hb;omega
 have Aj:m*i.bytes<=140737488355328:=by rw[<-fe.bytes];exact hb
 have Abg:IntKind.i64.wrap (m:Int)=m:=by simp[IntKind.wrap,IntKind.bits,IntKind.signed];omega
 have hn:m≠0:=by omega
 have CK:¬i.size=0:=by rw[<-fe.size];omega
 have AGP:¬m*i.size=0:=by rw[Nat.mul_eq_zero];omega
 have AFS:¬(9223372036854775807<(m:Int)):=by omega
 have AGO:((m:Int)*(i.bytes:Int))=((m*i.bytes:Nat):Int):=by simp
 have Wt:¬(281474976710656<(m:Int)*(i.bytes:Int)):=by rw[AGO];omega
 have AFR:¬(281474976710656<Builtin.nextslicecap m 0*i.bytes):=by rw[nextslicecap_zero h0];omega
 have AaO:¬((m:Int)<0):=by omega
 simp[Builtin.append_,run_underlying ht,run_underlying hu,sizeOf,typeInfo,zeroValue,fe.info,fe.zero,asInt,asIntOf,Abg,AaO,Wt,hn,AFS,AFR,Question.forced,run_firstCells_none,newRow,grownCap];exact λh=>absurd h AGP
theorem ApS{T:TypeId->Option TI}(hT:TOk P T){kk:K β}{c:Call}(ho:o.op=.call c)(hc:c.callee=.builtin .append){x y:Operand}{t u:TypeId}{nx:Nat}(ha:c.args.toList=[x,y])(Cu:c.argTypes.toList=[t,u])(hk:kY T bl nx t u (ρ x) (ρ y) kk=some r):Sound P o ρ bl kk r:=by
 have B3:c.args=#[x,y]:=by rw[<-GK (xs:=c.args),ha]
 have Xc:c.argTypes=#[t,u]:=by rw[<-GK (xs:=c.argTypes),Cu]
 have Cg:x∈o.op.operands:=by simp[ho,Op.operands,Call.operands,B3]
 have Ez:y∈o.op.operands:=by simp[ho,Op.operands,Call.operands,B3]
 unfold kY at hk;split at hk
 ·rename_i ti tu ki m AHt AHu hm
  obtain⟨i,d,z,f⟩:=hT.facts AHt;obtain⟨i2,d2,z2,f2⟩:=hT.facts AHu;split at hk
  ·rename_i hx
   split at hk
   ·rename_i et kd C2 C8 Mw
    have hd:=GM f C2 C8;subst hd
    obtain rfl:d2=.int kd:=by rw[f2.kind]at Mw;cases d2<;>simp_all [Q2]
    split at hk
    ·cases hk
    rename_i te BW;obtain⟨i',d',z',fe⟩:=hT.facts BW;split at hk
    ·cases hk
    rename_i e RG;split at hk
    ·rename_i z0 IG hn
     cases hs:(Nat.beq e.size te.size&&(Nat.blt 0 te.size&&Nat.blt 0 te.bytes))with
     |false=>rw[hs]at hk;cases hk
     |true=>
      obtain⟨B5,K0⟩:=andB hs;obtain⟨Bm,Ey⟩:=andB K0;have B5:=Az B5;have Bm:=DR Bm;have Ey:=DR Ey;simp only[hs,Ar]at hk;obtain⟨DF,hk⟩:=DL hk;obtain⟨c1,c2⟩:=andB DF;have c1:=Bv c1;have c2:=Bv c2;refine⟨_,_,_,hk,λAa Aj=>?_⟩;have Dh:Aa nx=none:=(Aj nx (by simp)).trans hn;intro ok0 base pl w a hr Af K Q hK;have hv:a.eval x=.slice none 0 0:=by have:=Af x Cg;rw[hx]at this;exact this
      have hy:a.eval y=.int ki m:=by have:=Af y Ez;rw[Ot hm]at this;exact this
      obtain⟨m,rfl⟩:∃q:Nat,m=(q:Int):=⟨m.toNat,by omega⟩;simp only[AT]at c2 hk hK⊢
      have E1:z'.cells.size=te.size:=by have:=fe.len;rw[Hc]at this;rw[this,fe.size]
      have Xk:DRep w (Ap ok0 base pl Aa w).ok e z0 z'.cells.toList:=Oo hr.blksOk (Rows.none _ _) (by rw[fe.zeroC];exact MW fe.one) IG;have Lz:DList (λx u=>DRep w (Ap ok0 base pl Aa w).ok e x u) (List.replicate m z0) (repL m z'.cells.toList):=DList.rep Xk _;have Ii:=Lz.length;simp only[MI]at Ii
      have AM:∃v' w',(Builtin.append_ #[t,u] o.type #[a.eval x,a.eval y]).run P w=.ok v' w'/\w.grownBy w' none/\w'.ownsRow w.heap.size et e.size v' m (repL m z'.cells.toList):=by
       rw[hv,hy];rcases XR m with h0|h0
       ·subst h0
        refine⟨.slice none 0 0,w,?_,⟨rfl,rfl,rfl,AQ _,λ_ _ _=>rfl⟩,World.ownsRow_nil w w.heap.size et e.size⟩;have Abg:IntKind.i64.wrap (0:Int)=0:=by decide
        simp[Builtin.append_,run_underlying f.under,run_underlying f2.under,sizeOf,typeInfo,fe.info,asInt,asIntOf,Abg]
       ·refine⟨_,_,ApR fe f.under f2.under h0 Ey c2 Bm,⟨rfl,rfl,rfl,by simp,λk hk _=>heap_alloc_old w.drew _ k hk⟩,Ii,.inr ⟨w.heap.size,_,_,rfl,AQ _,heap_alloc_new w.drew _,grownCap_ge w m 0 et,grownCap_le_maxLen w m 0 et ?_,?_,?_⟩⟩
        ·simp only[Bl,maxLen]at c2⊢
         have h1:m*1<=m*te.bytes:=Nat.mul_le_mul_left _ Ey;omega
        ·have:=grownCap_ge w m 0 et
         simp only[Array.size_append,size_zeroCells,E1,B5,<-Jx];congr 1;omega
        ·rw[Array.toList_append,AcU z'.cells (by omega) m,<-Ii]
         exact Yc
      obtain⟨v',w',AM,WE,Ao⟩:=AM;have hp:∀g,(Pl.row v' []).has g->w.heap.size<=g:=λg hg=>(Ao.lt g (Pl.has_row hg)).1;have BU:Step pl Aa w (upd pl nx (.row v' [])) (upd Aa nx (.row et e 0 (List.replicate m z0))) w':=Step.new hr Dh WE hp;have Lo:(execOp a.eval o).run P w=.ok (.value v') w':=by simp[execOp,ho,resolve,hc,B3,Xc,invoke,builtin,AM]
      refine H9 Lo (hK v' (upd pl nx (.row v' [])) w' ?_ BU ?_)
      ·refine RelB.new hr Dh WE hp ⟨rfl,repL m z'.cells.toList,Lz.mono λx u hu=>hu.mono BU.ext.heap,?_⟩
       rw[MI];exact SZ Ao hr.baseLe
      ·refine⟨?_,v',[],by simp[Ap,upd],λt1 e1 Dc l1 h1=>?_⟩
       ·rcases Ao.2 with⟨rfl,_⟩|⟨g,cap,AP,rfl,_⟩<;>rfl
       ·simp only[Ap,updL,upd,D6,Ag]at h1
        injection h1 with q1 q2 q3 q4;subst q3;exact⟨AQ _,λ_=>rfl⟩
    ·cases hk
   ·cases hk
  ·cases hk
 ·cases hk
end
end Go.Lift
namespace Go.Lift
open Go.RowKit
theorem MX{f:Nat->Option Blk}:∀{l m:List (Nat×Blk)},updL f (l++m)=updL (updL f l) m
 |[],_=>rfl
 |(j,x)::l,m=>by simp only[Fz,updL];exact MX
theorem Y7:∀{ids:List Nat}{f:Nat->Option Blk}{k:Nat},updL f (dead ids) k=if k∈ids then some .dead else f k
 |[],_,_=>by simp[dead,updL]
 |i::r,f,k=>by
  simp only[dead,updL];rw[Y7];by_cases h1:k∈r
  ·simp[h1]
  ·by_cases h2:k=i
   ·subst h2;simp[h1,upd]
   ·simp[h1,h2,upd]
theorem HT{x:Nat}:∀{l:List Nat},memB x l=true↔x∈l
 |[]=>by simp[memB]
 |y::r=>by
  simp only[memB,LC,HT (l:=r),Bw];constructor
  ·rintro(h|h)
   ·exact .inl (Az h)
   ·exact .inr h
  ·rintro(h|h)
   ·subst h;exact .inl (Of x)
   ·exact .inr h
theorem Q6:∀{l:List Nat},Jy l=true->l.Nodup
 |[],_=>List.nodup_nil
 |x::r,h=>by obtain⟨h1,h2⟩:=andB h;refine LD.2 ⟨λhm=>?_,Q6 h2⟩;have:=HT.2 hm;rw[this]at h1;cases h1
structure Many (pl:Nat->Option Pl) (bl:Nat->Option Blk) (w:World) (Ak:Nat->Option Pl) (bl':Nat->Option Blk) (w':World) (ids:List Nat) (og:Option Nat):Prop where
 out:∀k,k∉ids->Ak k=pl k/\bl' k=bl k
 grown:w.grownBy w' og
 og:∀g,og=some g->∃i∈ids,C6 pl bl i g
 new:∀k∈ids,∀g,C6 Ak bl' k g->(∃i∈ids,C6 pl bl i g)\/w.heap.size<=g
 sep:∀k∈ids,∀m∈ids,k≠m->∀g,C6 Ak bl' k g->¬C6 Ak bl' m g
 cells:∀k∈ids,∀g,pl k≠some (.cells g)
 rows:∀k∈ids,∀sv Ac,pl k=some (.row sv Ac)->∃Bd B6,Ak k=some (.row Bd B6)/\KeepR (bl k) (bl' k) sv Ac Bd B6
section
variable{P:Program}{ok0:OK0 P}{base:Nat}{pl Ak:Nat->Option Pl}{bl bl':Nat->Option Blk}{w w':World}{ids:List Nat}{og:Option Nat}
theorem Many.step(h:Many pl bl w Ak bl' w' ids og):Step pl bl w Ak bl' w':=by
 have hOwn:∀k g,C6 pl bl k g->Own pl bl g:=λk g ⟨B,p,h1,h2,h3,h4⟩=>⟨k,B,p,h1,h2,h3,h4⟩;have hg:=h.grown;refine⟨hg.os,hg.tape,hg.output,hg.size,λg Au ho=>⟨hg.block g Au (λe=>?_),?_⟩,λb g hb=>?_,λb sv Ac hb=>?_⟩
 ·obtain⟨i,_,hi⟩:=h.og g e.symm
  exact ho (hOwn i g hi)
 ·rintro⟨k,C,q,hC,hl,hq,B8⟩
  by_cases hk:k∈ids
  ·rcases h.new k hk g ⟨C,q,hC,hl,hq,B8⟩with⟨i,_,hi⟩|hi
   ·exact ho (hOwn i g hi)
   ·omega
  ·obtain⟨h1,h2⟩:=h.out k hk
   rw[h2]at hC;rw[h1]at hq;exact ho ⟨k,C,q,hC,hl,hq,B8⟩
 ·by_cases hk:b∈ids
  ·exact absurd hb (h.cells b hk g)
  ·rw[(h.out b hk).1];exact hb
 ·by_cases hk:b∈ids
  ·exact h.rows b hk sv Ac hb
  ·obtain⟨h1,h2⟩:=h.out b hk
   exact⟨sv,Ac,by rw[h1];exact hb,KeepR.of_eq (λC hC=>by rw[<-h2];exact hC) _ _⟩
theorem Many.rel(hr:RelB ok0 base pl bl w)(h:Many pl bl w Ak bl' w' ids og)(hB:∀k∈ids,∃B p,bl' k=some B/\Ak k=some p/\BRep (Ap ok0 base Ak bl' w') B p):RelB ok0 base Ak bl' w':=by
 have hs:=h.step
 have Mz:∀k C q g,k∉ids->bl k=some C->C.live=true->pl k=some q->q.has g->w'.heap[g]?=w.heap[g]?/\∀m∈ids,¬C6 Ak bl' m g:=by
  intro k C q g hk hC hl hq B8;have Au:g<w.heap.size:=Own.lt hr ⟨k,C,q,hC,hl,hq,B8⟩;have Mx:∀m∈ids,¬C6 pl bl m g:=λm hm ⟨B,p,h1,h2,h3,h4⟩=>hr.sep k m C B q p g (λe=>hk (e▸hm)) hC h1 hl h2 hq h3 B8 h4;refine⟨h.grown.block g Au (λe=>?_),λm hm ho=>?_⟩
  ·obtain⟨i,hi,ho⟩:=h.og g e.symm
   exact Mx i hi ho
  ·rcases h.new m hm g ho with⟨i,hi,ho⟩|ho
   ·exact Mx i hi ho
   ·omega
 refine⟨D2 hr.baseLe hs.size,λk C hC=>?_,λk m C D q r g Jj hC hD hlC hlD hq BD B8 RQ=>?_,λk hk=>?_,hr.glob.out hs.size hs.out⟩
 ·by_cases hk:k∈ids
  ·obtain⟨B,p,h1,h2,h3⟩:=hB k hk
   rw[hC]at h1;injection h1 with h1;subst h1;exact⟨p,h2,h3⟩
  ·obtain⟨h1,h2⟩:=h.out k hk
   rw[h2]at hC;obtain⟨q,hq,hBq⟩:=hr.blks k C hC;refine⟨q,by rw[h1];exact hq,?_⟩;cases hl:C.live with
   |false=>cases C<;>first|exact trivial|simp[Blk.live]at hl
   |true=>exact BRep.mono hs.ext hBq λg B8=>(Mz k C q g hk hC hl hq B8).1
 ·by_cases hk:k∈ids
  ·by_cases hm:m∈ids
   ·exact h.sep k hk m hm Jj g ⟨C,q,hC,hlC,hq,B8⟩ ⟨D,r,hD,hlD,BD,RQ⟩
   ·obtain⟨h1,h2⟩:=h.out m hm
    rw[h2]at hD;rw[h1]at BD;exact(Mz m D r g hm hD hlD BD RQ).2 k hk ⟨C,q,hC,hlC,hq,B8⟩
  ·obtain⟨h1,h2⟩:=h.out k hk
   rw[h2]at hC;rw[h1]at hq;by_cases hm:m∈ids
   ·exact(Mz k C q g hk hC hlC hq B8).2 m hm ⟨D,r,hD,hlD,BD,RQ⟩
   ·obtain⟨h3,h4⟩:=h.out m hm
    rw[h4]at hD;rw[h3]at BD;exact hr.sep k m C D q r g Jj hC hD hlC hlD hq BD B8 RQ
 ·by_cases hm:k∈ids
  ·obtain⟨B,p,h1,_⟩:=hB k hm
   rw[hk]at h1;cases h1
  ·obtain⟨h1,h2⟩:=h.out k hm
   rw[h2]at hk;rw[h1];exact hr.fresh k hk
end
abbrev LL(s r:Value):Prop:=∀g,s.ownBlock=some g->r.ownBlock≠some g
def ApT(P:Program)(E:Env)(t ty et:TypeId)(bytes:Nat)(e:OT)(new:List e.ty.den)(u:Value)(Fu:List Value):Prop:=
 ∀(base:Nat)(v:Value)(n:Nat)(xs:List Value),base<=E.w.heap.size->E.w.ownsRow base et e.ty.size v n xs->(n+new.length)*bytes<=Bl->
  ∃v' w' ys,(Builtin.append_ #[t,t] ty #[v,u]).run P E.w=.ok v' w'/\w'.ownsRow base et e.ty.size v' (n+new.length) (xs++ys)/\E.w.grownBy w' v.ownBlock/\(v'.ownBlock=v.ownBlock\/v'.ownBlock=some E.w.heap.size)/\
   ∀hv,OL (λ_ x f F=>Owns E.w E.ok E.base hv e none x f F) 0 new ys Fu
section
variable{P:Program}{E E':Env}
theorem m8{bl:Nat->Option Blk}(hb:Ek E){t ty et:TypeId}{te:TI}{i:TypeInfo}{d:TypeDesc}{z:Value}(fe:TFacts P et te i d z)(ht:P.underlying t=some (.slice et)){e:OT}(Gs:e.ty.size=te.size)(HK:0<te.size)(Gr:0<te.bytes){y:V}{new:List e.ty.den}{rd dd:List Nat}(h:srcT bl et e y=some (new,rd,dd))(Bf:∀b∈rd,E.bl b=bl b){u:Value}(hv:VRep E y u):∃Fu,ApT P E t ty et te.bytes e new u Fu/\Fu.Pairwise LL/\(∀s∈Fu,∀g,s.ownBlock=some g->∃i∈dd,C6 E.pl E.bl i g)/\dd.Nodup/\∀i∈dd,i∈rd/\∃B sv Ac,E.bl i=some B/\B.live=true/\E.pl i=some (.row sv Ac):=by
 unfold srcT at h;split at h
 ·split at h
  ·rename_i q hq
   simp only[Ag,BQ]at h;obtain⟨rfl,rfl,rfl⟩:=h;have FA:=Q5 hb (l:=q.1) (rd:=q.2) hq (λb AH B hB=>(Bf b AH).trans hB) hv;refine⟨[],λbase v n xs Ll Ao DF=>?_,by simp,by simp,by simp,by simp⟩;obtain⟨v',w',ys,h1,h2,h3,h4,h5⟩:=m6 (P:=P) (ty:=ty) base fe ht Gs HK Gr Ao FA DF Ll;exact⟨v',w',ys,h1,h2,h3,h4,λhv=>lR h5⟩
  ·cases h
 ·split at h
  ·rename_i r m hm
   split at h
   ·rename_i Cu
    obtain⟨⟨m1,m2⟩,m3⟩:=m;simp only[BQ]at Cu;obtain⟨rfl,rfl⟩:=Cu;simp only[Ag,BQ]at h;obtain⟨rfl,rfl,rfl⟩:=h;obtain⟨Ac,Fr,B,k1,k2,_,k3,k4,k5,k6⟩:=lS hb hm (Bf r (by simp)) hv;have HJ:B.live=true:=by cases B<;>first|rfl|exact absurd rfl k2
    refine⟨Fr,λbase v n xs Ll Ao DF=>?_,(H7.1 k6).2,λs hs g hg=>⟨r,by simp,B,_,k1,HJ,k3,Oq k5 (by simp[hs]) hg⟩,by simp,λi hi=>?_⟩
    ·obtain⟨sv0,xs0,F0,e1,e2,o1,o2⟩:=k4 u
     have e1:=(KD e1).1;subst e1;have e2:=(KD e2).2;subst e2;have JN:∀x∈xs0,x.oneCell'=true:=OL.all (λ_ _ _ _ h=>Owns.oneCell h) o2;have o1':E.w.ownsRow E.base m1 te.size u (List.length m3) xs0:=Gs▸o1;obtain⟨v',w',h1,h2,h3,h4⟩:=ApK (P:=P) (ty:=ty) base fe ht HK Gr (Gs▸Ao) o1' JN DF Ll;refine⟨v',w',xs0,h1,Gs▸h2,h3,h4,λhv=>o2.mono λ_ _ _ _ _ h=>Owns.any h⟩
    ·simp only[EO]at hi
     subst hi;exact⟨by simp,B,u,Ac,k1,HJ,k3⟩
   ·cases h
  ·cases h
theorem m9(hx:Ext E E')(Cm:E'.base=E.base){et:TypeId}{e:OT}{l new:List e.ty.den}{v':Value}{Fn Fu xs ys:List Value}(hL:OL (λ_ x f F=>Owns E.w E.ok E.base v' e none x f F) 0 l xs Fn)(hN:OL (λ_ x f F=>Owns E.w E.ok E.base v' e none x f F) 0 new ys Fu)(I8:∀s∈Fn++Fu,∀g,s.ownBlock=some g->E'.w.heap[g]?=E.w.heap[g]?)(Ao:E'.w.ownsRow E.base et e.ty.size v' (l.length+new.length) (xs++ys))(IE:(v'::(Fn++Fu)).Pairwise LL):TreeOk E' et e none (l++new) v' ((Fn++Fu).map some):=by
 have hb:E'.base<=E.base:=by rw[Cm];exact AQ _
 refine⟨⟨v',Fn++Fu,⟨v',xs++ys,Fn++Fu,rfl,rfl,?_,?_⟩,rfl,IE⟩,by simp⟩
 ·rw[Cm,AR];exact Ao
 ·exact OL.append (λ_ _ _ _ _ h=>h) (hL.mono λ_ _ _ f hf h=>Owns.mono hb hx.heap (λs hs=>I8 s (D0 _ (hf s hs))) h) (hN.mono λ_ _ _ f hf h=>Owns.mono hb hx.heap (λs hs=>I8 s (DJ _ (hf s hs))) h)
theorem TreeOk.take{t:TypeId}{e:OT}{l:List e.ty.den}{sv:Value}{Ac:List (Option Value)}(hT:TreeOk E t e none l sv Ac){i0:Nat×Nat}{p:Path}{n:EP}(hn:BL (.r t e) l 0 (i0::p)=some n){v:Value}(hs:(some sv::Ac)[nix (.r t e) l 0 (i0::p)]?=some (some v)):∃Fn K5,Owns E.w E.ok E.base v (.r n.1.1 n.1.2) none n.2 [v] (v::Fn)/\(v::Fn).Pairwise LL/\(∀s∈v::Fn,∀g,s.ownBlock=some g->(Pl.row sv Ac).has g)/\(∀g,(Pl.row sv K5).has g->(Pl.row sv Ac).has g/\∀s∈v::Fn,s.ownBlock≠some g)/\(∀c,KeepT c t e none (some (i0::p)) l l sv Ac K5)/\∀E',Ext E E'->E'.base=E.base->(∀g,(Pl.row sv K5).has g->E'.w.heap[g]?=E.w.heap[g]?)->TreeOk E' t e (some (i0::p)) l sv K5:=by
 obtain⟨s',Fn,G1,G2,_,h2,h3,h4,h5,h6,h7⟩:=hT.node hn;rw[hs]at h4;injection h4 with h4;injection h4 with h4;subst h4
 have HK:0<G1.length:=by
  rw[h2];cases hx:(l:List e.ty.den)[i0.1]? with
  |none=>simp[BL,hx]at hn
  |some x=>simp only[nix,hx];omega
 obtain⟨A,hA⟩:∃A,G1=sv::A:=by
  cases G1 with
  |nil=>simp at HK
  |cons a G1=>rw[Fz,CM]at h3;injection h3 with h3 _;injection h3 with h3;exact⟨G1,by rw[h3]⟩
 subst hA;have AG6:(v::Fn).length=cnt (.r n.1.1 n.1.2) n.2:=h5.cnt;have Ds:∀s∈sv::A++(v::Fn++G2),∀g,s.ownBlock=some g->(Pl.row sv Ac).has g:=λs hs g hg=>Oq h3 hs hg
 have hH:∀g,(Pl.row sv (A.map some++(List.replicate (cnt (.r n.1.1 n.1.2) n.2) none++G2.map some))).has g->∃s∈sv::A++G2,s.ownBlock=some g:=λg h=>by
  rcases h with h|⟨j,s,hj,h⟩
  ·exact⟨sv,by simp,h⟩
  ·have:=Dg hj
   simp only[Cs,Gy,Ag,exists_eq_right,List.mem_replicate,reduceCtorEq,and_false,false_or]at this;exact⟨s,by simp only[Fz,Bw,Cs];exact .inr this,h⟩
 have Bf:∀s,s∈sv::A++G2->s∈sv::A++(v::Fn++G2):=λs hs=>by simp only[Fz,Bw,Cs]at hs⊢;rcases hs with h|h|h<;>simp[h]
 have IE:=H6.1 h7;have AnM:=H6.1 IE.2.1
 have AFT:∀s∈sv::A++G2,∀r∈v::Fn,LL s r:=λs hs r hr=>by
  rcases Cs.1 hs with h|h
  ·exact IE.2.2 s h r (D0 _ hr)
  ·exact λg g1 g2=>AnM.2.2 r hr s h g g2 g1
 refine⟨Fn,A.map some++(List.replicate (cnt (.r n.1.1 n.1.2) n.2) none++G2.map some),h5,AnM.1,λs hs g hg=>Ds s (by simp only[Cs];exact .inr (.inl hs)) g hg,λg h=>?_,λc q hq ho=>⟨λ_ h=>(by cases h),λn' Ex=>⟨n',Ex,rfl,rfl,λs hs=>?_⟩⟩,λE' hx Ll hh=>⟨⟨v,A++G2,?_,⟨n,sv::A,G2,hn,rfl,h2,rfl⟩,?_⟩,by simp⟩⟩
 ·obtain⟨s,hs,hg⟩:=hH g h
  exact⟨Ds s (Bf s hs) g hg,λr hr=>AFT s hs r hr g hg⟩
 ·rw[h3]at hs
  have AW:¬((0:Nat)=0/\(i0::p)<+:q):=λh=>ho _ rfl h.2;rw[KC,KC]at hs;show((sv::A).map some++(List.replicate (cnt (.r n.1.1 n.1.2) n.2) none++G2.map some))[nix (.r t e) l 0 q]?=some (some s);rcases Ye hn Ex AW with h|h
  ·rw[<-h2]at h
   rw[H5 (by simpa using h)]at hs⊢;exact hs
  ·rw[<-h2]at h
   rw[Gn (by simp only[DK];omega),Gn (by simp only[DK];omega)]at hs;rw[Gn (by simp only[DK];omega),Gn (by simp only[DK,MI];omega)];rw[<-hs,DK,DK,MI,AG6]
 ·have hb:E'.base<=E.base:=by rw[Ll];exact AQ _
  exact Owns.mono hb hx.heap (λs hs g hg=>hh g (by
   rcases Cs.1 (show s∈(sv::A)++G2 from hs)with h|h
   ·rcases Bw.1 h with h|h
    ·exact .inl (h▸hg)
    ·obtain⟨j,hj⟩:=Qh.1 h
     exact .inr ⟨j,s,by rw[H5 (by simpa using(EN.1 hj).1),FT,hj];rfl,hg⟩
   ·obtain⟨j,hj⟩:=Qh.1 h
    refine .inr ⟨A.length+(cnt (.r n.1.1 n.1.2) n.2+j),s,?_,hg⟩;rw[Gn (by simp),Gn (by simp)];simp[hj])) h6
 ·rw[Fz]at h7
  show(sv::(A++G2)).Pairwise LL;refine h7.sublist ?_;rw[<-Fz];exact List.Sublist.append (List.Sublist.refl _) (List.sublist_append_right _ _)
end
section
variable{P:Program}{o:Oper}{ρ:Operand->V}{bl:Nat->Option Blk}{β:Type}{r:β}
theorem mD{E:Env}{b ver:Nat}{t:TypeId}{e:OT}{Ah:Nat}{h:Option Path}{l:List e.ty.den}{v:Value}{Ac:List (Option Value)}(h1:v.oneCell'=true)(Ba:E.pl b=some (.row v Ac))(An:E.bl b=some (.tree t e ver Ah h l)):VRep E (.c (.trow b ver [])) v:=by refine⟨h1,v,Ac,Ba,λt1 e1 Dc Hz Ig l1 BH=>?_⟩;rw[An]at BH;injection BH with BH;injection BH with q1 q2 q3 q4 q5 q6;subst q1 q2 q3 q4 q5;simp only[IN]at q6;subst q6;exact⟨AQ _,λ_ _=>⟨_,rfl,rfl⟩⟩
theorem AcV{ok0:OK0 P}{base:Nat}{pl:Nat->Option Pl}{Aa:Nat->Option Blk}{w w':World}(hr:RelB ok0 base pl Aa w){nx:Nat}(Dh:Aa nx=none){dd:List Nat}{Fu:List Value}(q2:Fu.Pairwise LL)(q3:∀s∈Fu,∀g,s.ownBlock=some g->∃i∈dd,C6 pl Aa i g)(q5:∀i∈dd,∃B sv Ac,Aa i=some B/\B.live=true/\pl i=some (.row sv Ac)){et:TypeId}{e:OT}{new:List e.ty.den}{v':Value}{ys:List Value}(Dq:w.grownBy w' none)(CK:∀g,v'.ownBlock=some g->g=w.heap.size)(hOL:∀hv,OL (λ_ x f F=>Owns w (Ap ok0 base pl Aa w).ok base hv e none x f F) 0 new ys Fu)(Ao:w'.ownsRow base et e.ty.size v' new.length ys):∃pl3,RelB ok0 base pl3 (updL Aa (dead dd++[(nx,.tree et e 0 0 none new)])) w'/\Step pl Aa w pl3 (updL Aa (dead dd++[(nx,.tree et e 0 0 none new)])) w'/\VRep (Ap ok0 base pl3 (updL Aa (dead dd++[(nx,.tree et e 0 0 none new)])) w') (.c (.trow nx 0 [])) v':=by
 have GX:nx∉dd:=λh=>by obtain⟨B,_,_,h1,_⟩:=q5 nx h;rw[show Aa nx=some B from h1]at Dh;cases Dh
 have DA:∀k,updL Aa (dead dd++[(nx,.tree et e 0 0 none new)]) k=if k=nx then some (.tree et e 0 0 none new)else if k∈dd then some .dead else Aa k:=λk=>by simp only[MX,updL,upd,Y7]
 generalize updL Aa (dead dd++[(nx,.tree et e 0 0 none new)])=bl3 at*;have EX:∀k,upd pl nx (.row v' (Fu.map some)) k=if k=nx then some (.row v' (Fu.map some))else pl k:=λk=>rfl;generalize AnK:upd pl nx (.row v' (Fu.map some))=pl3 at*
 have Au:∀s∈Fu,∀g,s.ownBlock=some g->g<w.heap.size:=λs hs g hg=>by obtain⟨i,_,B,p,h⟩:=q3 s hs g hg;exact Own.lt hr ⟨i,B,p,h⟩
 have I4:∀k∈dd,∀g,¬C6 pl3 bl3 k g:=λk hk g h=>by obtain⟨B,p,h1,h2,_⟩:=h;have DO:¬k=nx:=λe=>GX (e▸hk);rw[DA,if_neg DO,if_pos hk]at h1;injection h1 with h1;subst h1;cases h2
 have hm:Many pl Aa w pl3 bl3 w' (nx::dd) none:=by
  refine⟨λk hk=>?_,Dq,λg h=>(by cases h),λk hk g h=>?_,λk hk m hm Jj g h1 h2=>?_,λk hk g h=>?_,λk hk sv Ac h=>?_⟩
  ·simp only[Bw,not_or]at hk
   rw[EX,DA,if_neg hk.1,if_neg hk.1,if_neg hk.2];exact⟨rfl,rfl⟩
  ·rcases Bw.1 hk with rfl|hk
   ·obtain⟨B,p,_,_,h1,h2⟩:=h
    rw[EX,if_pos rfl]at h1;injection h1 with h1;subst h1;rcases h2 with h2|⟨j,s,hj,h2⟩
    ·exact .inr (KE (CK g h2).symm)
    ·rw[FT,Sv]at hj
     obtain⟨s',hj,he⟩:=hj;injection he with he;subst he;obtain⟨i,hi,ho⟩:=q3 s' (Dg hj) g h2;exact .inl ⟨i,BY _ hi,ho⟩
   ·exact absurd h (I4 k hk g)
  ·rcases Bw.1 hk with rfl|hk
   ·rcases Bw.1 hm with rfl|hm
    ·exact Jj rfl
    ·exact I4 m hm g h2
   ·exact I4 k hk g h1
  ·rcases Bw.1 hk with rfl|hk
   ·rw[hr.fresh k Dh]at h;cases h
   ·obtain⟨_,_,_,_,_,h1⟩:=q5 k hk
    rw[show pl k=_ from h1]at h;cases h
  ·rcases Bw.1 hk with rfl|hk
   ·rw[hr.fresh k Dh]at h;cases h
   ·have DO:¬k=nx:=λe=>GX (e▸hk)
    exact⟨sv,Ac,by rw[EX,if_neg DO];exact h,by rw[DA,if_neg DO,if_pos hk];exact KeepR.ofDead⟩
 have BU:=hm.step
 have hT2:TreeOk (Ap ok0 base pl3 bl3 w') et e none new v' (Fu.map some):=m9 (E:=Ap ok0 base pl Aa w) BU.ext rfl (l:=[]) (Fn:=[]) (xs:=[]) ⟨rfl,rfl⟩ (hOL v')
  (λs hs g hg=>Dq.block g (Au s hs g hg) (by simp)) (by rw[CX,Ei];exact Ao) (by
   rw[Fl,H7];exact⟨λs hs g h1 h2=>by have:=Au s hs g h2;have:=CK g h1;omega,q2⟩)
 refine⟨pl3,?_,BU,?_⟩
 ·refine hm.rel hr λk hk=>?_
  rcases Bw.1 hk with rfl|hk
  ·exact⟨.tree et e 0 0 none new,.row v' (Fu.map some),by rw[DA,if_pos rfl],by rw[EX,if_pos rfl],hT2⟩
  ·have DO:¬k=nx:=λe=>GX (e▸hk)
   obtain⟨_,_,_,_,_,h1⟩:=q5 k hk;exact⟨.dead,_,by rw[DA,if_neg DO,if_pos hk],by rw[EX,if_neg DO];exact h1,trivial⟩
 ·exact mD (Qn Ao) (by show pl3 nx=_;rw[EX,if_pos rfl]) (by show bl3 nx=_;rw[DA,if_pos rfl])
theorem ApU{X:List (TypeId×OT)}{T:TypeId->Option TI}(hT:TOk P T){kk:K β}{c:Call}(ho:o.op=.call c)(hc:c.callee=.builtin .append){x y:Operand}{t:TypeId}{nx:Nat}(ha:c.args.toList=[x,y])(Cu:c.argTypes.toList=[t,t])(hk:kW X T bl nx t (ρ x) (ρ y) kk=some r):Sound P o ρ bl kk r:=by
 have B3:c.args=#[x,y]:=by rw[<-GK (xs:=c.args),ha]
 have Cg:x∈o.op.operands:=by simp[ho,Op.operands,Call.operands,B3]
 have Ez:y∈o.op.operands:=by simp[ho,Op.operands,Call.operands,B3]
 unfold kW at hk;split at hk
 ·cases hk
 rename_i ti ht;obtain⟨i,d,z,f⟩:=hT.facts ht;split at hk
 ·rename_i et C2 C8
  have hd:=GM f C2 C8;subst hd;split at hk
  ·cases hk
  rename_i te BW;obtain⟨i',d',z',fe⟩:=hT.facts BW;split at hk
  ·
   rename_i hx;split at hk
   ·cases hk
   rename_i e _;cases hs:(Nat.beq e.ty.size te.size&&(Nat.blt 0 te.size&&Nat.blt 0 te.bytes))with
   |false=>rw[hs]at hk;cases hk
   |true=>
    simp only[hs,Ar]at hk;obtain⟨B5,K0⟩:=andB hs;obtain⟨Bm,Ey⟩:=andB K0;have B5:=Az B5;have Bm:=DR Bm;have Ey:=DR Ey;split at hk
    ·rename_i new rd dd FB hn
     obtain⟨DF,hk⟩:=DL hk;have DF:=Bv DF;refine⟨_,_,_,hk,λAa Aj=>?_⟩;have Dh:Aa nx=none:=(Aj nx (by simp)).trans hn;intro ok0 base pl w a hr Af K Q hK;have hv:a.eval x=.slice none 0 0:=by have:=Af x Cg;rw[hx]at this;exact this
     obtain⟨Fu,q1,q2,q3,q4,q5⟩:=m8 (P:=P) (E:=Ap ok0 base pl Aa w) (t:=t) (ty:=o.type) hr.blksOk fe f.under B5 Bm Ey FB (λb hb=>Aj b (by simp[hb])) (Af y Ez);obtain⟨v',w',ys,AM,Ao,Dq,Lq,hOL⟩:=q1 base (.slice none 0 0) 0 [] hr.baseLe (World.ownsRow_nil w base et e.ty.size) (by simpa using DF);have Dq:w.grownBy w' none:=Dq;have Ao:w'.ownsRow base et e.ty.size v' (0+new.length) ([]++ys):=Ao
     obtain⟨pl3,z1,z2,z3⟩:=AcV hr Dh q2 q3 (λi hi=>(q5 i hi).2) Dq (λg hg=>by
      rcases Lq with h|h
      ·rw[h]at hg;cases hg
      ·rw[h]at hg;injection hg with hg;exact hg.symm) hOL (by simpa using Ao)
     exact H9 (Ta ho hc ha Cu (by rw[hv];exact AM)) (hK v' pl3 w' z1 z2 z3)
    ·cases hk
  ·
   rename_i b ver hx;split at hk
   ·rename_i t0 e ver' Ah l hb
    cases hs:(Nat.beq ver ver'&&(Nat.beq t0 et&&(Nat.beq e.ty.size te.size&&(Nat.blt 0 te.size&&Nat.blt 0 te.bytes))))with
    |false=>rw[hs]at hk;cases hk
    |true=>
     simp only[hs,Ar]at hk;obtain⟨Bg,hs⟩:=andB hs;obtain⟨WZ,hs⟩:=andB hs;obtain⟨B5,K0⟩:=andB hs;obtain⟨Bm,Ey⟩:=andB K0;have:=Az Bg;subst this;have:=Az WZ;subst this;have B5:=Az B5;have Bm:=DR Bm;have Ey:=DR Ey;split at hk
     ·rename_i new rd dd FB
      obtain⟨Aay,hk⟩:=DL hk;obtain⟨Ds,DF⟩:=andB Aay;have DF:=Bv DF;have Aas:b∉rd:=λh=>by rw[HT.2 h]at Ds;cases Ds
      refine⟨_,_,_,hk,λAa Aj=>?_⟩;have AH:Aa b=some (.tree t0 e ver Ah none l):=(Aj b (by simp)).trans hb;intro ok0 base pl w a hr Af K Q hK;have hv:=Af x Cg;rw[hx]at hv;obtain⟨Ac,Ba,hTr⟩:=Yz (E:=Ap ok0 base pl Aa w) hr.blksOk AH hv;have Ba:pl b=some (.row (a.eval x) Ac):=Ba;obtain⟨NL,F,h1,h2,h3⟩:=hTr.rep;have h2:some (a.eval x)::Ac=(a.eval x::F).map some:=h2;obtain⟨sv0,xs,F0,e1,e2,o1,o2⟩:=h1;have e1:=(KD e1).1;subst e1;have e2:=(KD e2).2;subst e2;generalize Abf:a.eval x=v at*;obtain⟨Fu,q1,q2,q3,q4,q5⟩:=m8 (P:=P) (E:=Ap ok0 base pl Aa w) (t:=t) (ty:=o.type) hr.blksOk fe f.under B5 Bm Ey FB (λb hb=>Aj b (by simp[hb])) (Af y Ez);obtain⟨v',w',ys,AM,Ao,Dq,Lq,hOL⟩:=q1 base v l.length xs hr.baseLe o1 DF;have Dq:w.grownBy w' v.ownBlock:=Dq;have Mp:b∉dd:=λh=>Aas (q5 b h).1
      have DA:∀k,updL Aa (dead dd++[(b,.tree t0 e (ver+1) Ah none (l++new))]) k=if k=b then some (.tree t0 e (ver+1) Ah none (l++new))else if k∈dd then some .dead else Aa k:=λk=>by simp only[MX,updL,upd,Y7]
      generalize updL Aa (dead dd++[(b,.tree t0 e (ver+1) Ah none (l++new))])=bl3 at*;have EX:∀k,upd pl b (.row v' ((F++Fu).map some)) k=if k=b then some (.row v' ((F++Fu).map some))else pl k:=λk=>rfl;generalize AnK:upd pl b (.row v' ((F++Fu).map some))=pl3 at*;have Gc:∀s∈v::F,∀g,s.ownBlock=some g->C6 pl Aa b g:=λs hs g hg=>⟨_,_,AH,rfl,Ba,Oq h2 hs hg⟩;have Au:∀i g,C6 pl Aa i g->g<w.heap.size:=λi g ⟨B,p,h⟩=>Own.lt hr ⟨i,B,p,h⟩
      have hltF:∀s∈F++Fu,∀g,s.ownBlock=some g->g<w.heap.size:=λs hs g hg=>by
       rcases Cs.1 hs with hs|hs
       ·exact Au b g (Gc s (BY _ hs) g hg)
       ·obtain⟨i,_,h⟩:=q3 s hs g hg;exact Au i g h
      have hFu:∀s∈Fu,∀g,s.ownBlock=some g->¬C6 pl Aa b g:=λs hs g hg h=>by obtain⟨i,hi,B,p,k1,k2,k3,k4⟩:=q3 s hs g hg;obtain⟨B',p',m1,m2,m3,m4⟩:=h;exact hr.sep i b B B' p p' g (λe=>Mp (e▸hi)) k1 m1 k2 m2 k3 m3 k4 m4
      have Pm:∀s∈F++Fu,LL v s:=λs hs=>by
       rcases Cs.1 hs with hs|hs
       ·exact(H7.1 h3).1 s hs
       ·exact λg g1 g2=>hFu s hs g g2 (Gc v (by simp) g g1)
      have CK:∀g,v'.ownBlock=some g->v.ownBlock=some g\/g=w.heap.size:=λg hg=>by
       rcases Lq with h|h
       ·exact .inl (h▸hg)
       ·rw[h]at hg;injection hg with hg;exact .inr hg.symm
      have I4:∀k∈dd,∀g,¬C6 pl3 bl3 k g:=λk hk g h=>by obtain⟨B,p,h1,h2,_⟩:=h;have DO:¬k=b:=λe=>Mp (e▸hk);rw[DA,if_neg DO,if_pos hk]at h1;injection h1 with h1;subst h1;cases h2
      have hm:Many pl Aa w pl3 bl3 w' (b::dd) v.ownBlock:=by
       refine⟨λk hk=>?_,Dq,λg h=>⟨b,by simp,Gc v (by simp) g h⟩,λk hk g h=>?_,λk hk m hm Jj g h1 h2=>?_,λk hk g h=>?_,λk hk sv B6 h=>?_⟩
       ·simp only[Bw,not_or]at hk
        rw[EX,DA,if_neg hk.1,if_neg hk.1,if_neg hk.2];exact⟨rfl,rfl⟩
       ·rcases Bw.1 hk with rfl|hk
        ·obtain⟨B,p,_,_,h1,h2⟩:=h
         rw[EX,if_pos rfl]at h1;injection h1 with h1;subst h1;rcases h2 with h2|⟨j,s,hj,h2⟩
         ·rcases CK g h2 with h2|h2
          ·exact .inl ⟨k,by simp,Gc v (by simp) g h2⟩
          ·exact .inr (KE h2.symm)
         ·rw[FT,Sv]at hj
          obtain⟨s',hj,he⟩:=hj;injection he with he;subst he;rcases Cs.1 (Dg hj)with hs|hs
          ·exact .inl ⟨k,by simp,Gc s' (BY _ hs) g h2⟩
          ·obtain⟨i,hi,ho⟩:=q3 s' hs g h2
           exact .inl ⟨i,BY _ hi,ho⟩
        ·exact absurd h (I4 k hk g)
       ·rcases Bw.1 hk with rfl|hk
        ·rcases Bw.1 hm with rfl|hm
         ·exact Jj rfl
         ·exact I4 m hm g h2
        ·exact I4 k hk g h1
       ·rcases Bw.1 hk with rfl|hk
        ·rw[Ba]at h;cases h
        ·obtain⟨_,_,_,_,_,_,h1⟩:=q5 k hk
         rw[show pl k=_ from h1]at h;cases h
       ·rcases Bw.1 hk with rfl|hk
        ·refine⟨_,_,by rw[EX,if_pos rfl],?_⟩
         rw[AH,DA,if_pos rfl];exact KeepR.ofTree ⟨by omega,AQ _,λh=>by omega⟩
        ·have DO:¬k=b:=λe=>Mp (e▸hk)
         exact⟨sv,B6,by rw[EX,if_neg DO];exact h,by rw[DA,if_neg DO,if_pos hk];exact KeepR.ofDead⟩
      have BU:=hm.step
      have hT2:TreeOk (Ap ok0 base pl3 bl3 w') t0 e none (l++new) v' ((F++Fu).map some):=m9 (E:=Ap ok0 base pl Aa w) BU.ext rfl (o2.mono λ_ _ _ _ _ h=>Owns.any h) (hOL v')
       (λs hs g hg=>Dq.block g (hltF s hs g hg) (λe=>Pm s hs g e.symm hg)) Ao (by
        rw[H7,H6];refine⟨λs hs g g1 g2=>?_,(H7.1 h3).2,q2,λa ha b hb g g1 g2=>hFu b hb g g2 (Gc a (BY _ ha) g g1)⟩;rcases CK g g1 with g1|g1
        ·exact Pm s hs g g1 g2
        ·have:=hltF s hs g g2;omega)
      refine H9 (Ta ho hc ha Cu (by rw[Abf];exact AM)) (hK v' pl3 w' ?_ BU ?_)
      ·refine hm.rel hr λk hk=>?_
       rcases Bw.1 hk with rfl|hk
       ·exact⟨.tree t0 e (ver+1) Ah none (l++new),.row v' ((F++Fu).map some),by rw[DA,if_pos rfl],by rw[EX,if_pos rfl],hT2⟩
       ·have DO:¬k=b:=λe=>Mp (e▸hk)
        obtain⟨_,_,_,_,_,_,h1⟩:=q5 k hk;exact⟨.dead,_,by rw[DA,if_neg DO,if_pos hk],by rw[EX,if_neg DO];exact h1,trivial⟩
      ·exact mD (Qn Ao) (by show pl3 b=_;rw[EX,if_pos rfl]) (by show bl3 b=_;rw[DA,if_pos rfl])
     ·cases hk
   ·cases hk
  ·
   rename_i b ver i0 p hx;split at hk
   ·cases hk
   rename_i q hq;obtain⟨hb,Bg,AnC⟩:=Y3 hq;subst Bg;obtain⟨⟨t0,e⟩,l,ver,Ah,n⟩:=q;simp only at hb AnC hx hk;cases hs:(Nat.beq n.1.1 et&&(Nat.beq n.1.2.ty.size te.size&&(Nat.blt 0 te.size&&Nat.blt 0 te.bytes)))with
   |false=>rw[hs]at hk;cases hk
   |true=>
    simp only[hs,Ar]at hk;obtain⟨WZ,hs⟩:=andB hs;obtain⟨B5,K0⟩:=andB hs;obtain⟨Bm,Ey⟩:=andB K0;have:=Az WZ;subst this;have B5:=Az B5;have Bm:=DR Bm;have Ey:=DR Ey;split at hk
    ·rename_i new rd dd FB hn
     obtain⟨Aay,hk⟩:=DL hk;obtain⟨Ds,DF⟩:=andB Aay;have DF:=Bv DF;have Aas:b∉rd:=λh=>by rw[HT.2 h]at Ds;cases Ds
     refine⟨_,_,_,hk,λAa Aj=>?_⟩;have Dh:Aa nx=none:=(Aj nx (by simp)).trans hn;have AH:Aa b=some (.tree t0 e ver Ah none l):=(Aj b (by simp)).trans hb;have Wy:b≠nx:=by rintro rfl;rw[AH]at Dh;cases Dh
     intro ok0 base pl w a hr Af K Q hK;have hv:=Af x Cg;rw[hx]at hv;obtain⟨sv,Ac,n',Ba,hTr,Ex,JU⟩:=lP (E:=Ap ok0 base pl Aa w) hr.blksOk AH hv;have:=LK Ex;rw[AnC]at this;injection this with this;subst this;have Ba:pl b=some (.row sv Ac):=Ba;obtain⟨F,K5,k1,h3,k3,k4,k5,k6⟩:=hTr.take Ex JU;obtain⟨sv0,xs,F0,e1,e2,o1,o2⟩:=k1;have e1:=(KD e1).1;subst e1;have e2:=(KD e2).2;subst e2;generalize Abf:a.eval x=v at*;obtain⟨Fu,q1,q2,q3,q4,q5⟩:=m8 (P:=P) (E:=Ap ok0 base pl Aa w) (t:=t) (ty:=o.type) hr.blksOk fe f.under B5 Bm Ey FB (λb hb=>Aj b (by simp[hb])) (Af y Ez);obtain⟨v',w',ys,AM,Ao,Dq,Lq,hOL⟩:=q1 base v n.2.length xs hr.baseLe o1 DF;have Dq:w.grownBy w' v.ownBlock:=Dq;have Mp:b∉dd:=λh=>Aas (q5 b h).1;have GX:nx∉dd:=λh=>by obtain⟨_,B,_,_,h1,_⟩:=q5 nx h;rw[show Aa nx=some B from h1]at Dh;cases Dh
     have DA:∀k,updL Aa (dead dd++[(b,.tree t0 e ver Ah (some (i0::p)) l),(nx,.tree n.1.1 n.1.2 0 0 none (n.2++new))]) k=if k=nx then some (.tree n.1.1 n.1.2 0 0 none (n.2++new))else if k=b then some (.tree t0 e ver Ah (some (i0::p)) l)else if k∈dd then some .dead else Aa k:=λk=>by simp only[MX,updL,upd,Y7]
     generalize updL Aa (dead dd++[(b,.tree t0 e ver Ah (some (i0::p)) l),(nx,.tree n.1.1 n.1.2 0 0 none (n.2++new))])=bl3 at*;have EX:∀k,upd (upd pl b (.row sv K5)) nx (.row v' ((F++Fu).map some)) k=if k=nx then some (.row v' ((F++Fu).map some))else if k=b then some (.row sv K5)else pl k:=λk=>rfl;generalize AnK:upd (upd pl b (.row sv K5)) nx (.row v' ((F++Fu).map some))=pl3 at*;have Gc:∀s∈v::F,∀g,s.ownBlock=some g->C6 pl Aa b g:=λs hs g hg=>⟨_,_,AH,rfl,Ba,k3 s hs g hg⟩;have Au:∀i g,C6 pl Aa i g->g<w.heap.size:=λi g ⟨B,p,h⟩=>Own.lt hr ⟨i,B,p,h⟩
     have hltF:∀s∈F++Fu,∀g,s.ownBlock=some g->g<w.heap.size:=λs hs g hg=>by
      rcases Cs.1 hs with hs|hs
      ·exact Au b g (Gc s (BY _ hs) g hg)
      ·obtain⟨i,_,h⟩:=q3 s hs g hg;exact Au i g h
     have hFu:∀s∈Fu,∀g,s.ownBlock=some g->¬C6 pl Aa b g:=λs hs g hg h=>by obtain⟨i,hi,B,p,k1,k2,k3,k4⟩:=q3 s hs g hg;obtain⟨B',p',m1,m2,m3,m4⟩:=h;exact hr.sep i b B B' p p' g (λe=>Mp (e▸hi)) k1 m1 k2 m2 k3 m3 k4 m4
     have Pm:∀s∈F++Fu,LL v s:=λs hs=>by
      rcases Cs.1 hs with hs|hs
      ·exact(H7.1 h3).1 s hs
      ·exact λg g1 g2=>hFu s hs g g2 (Gc v (by simp) g g1)
     have CK:∀g,v'.ownBlock=some g->v.ownBlock=some g\/g=w.heap.size:=λg hg=>by
      rcases Lq with h|h
      ·exact .inl (h▸hg)
      ·rw[h]at hg;injection hg with hg;exact .inr hg.symm
     have I4:∀k∈dd,∀g,¬C6 pl3 bl3 k g:=λk hk g h=>by obtain⟨B,p,h1,h2,_⟩:=h;have DO:¬k=nx:=λe=>GX (e▸hk);have P1:¬k=b:=λe=>Mp (e▸hk);rw[DA,if_neg DO,if_neg P1,if_pos hk]at h1;injection h1 with h1;subst h1;cases h2
     have hBo:∀g,C6 pl3 bl3 b g->(Pl.row sv K5).has g:=λg h=>by obtain⟨B,p,_,_,h1,h2⟩:=h;rw[EX,if_neg Wy,if_pos rfl]at h1;injection h1 with h1;subst h1;exact h2
     have hNo:∀g,C6 pl3 bl3 nx g->(∃s∈v::F,s.ownBlock=some g)\/(∃s∈Fu,s.ownBlock=some g)\/g=w.heap.size:=λg h=>by
      obtain⟨B,p,_,_,h1,h2⟩:=h;rw[EX,if_pos rfl]at h1;injection h1 with h1;subst h1;rcases h2 with h2|⟨j,s,hj,h2⟩
      ·rcases CK g h2 with h2|h2
       ·exact .inl ⟨v,by simp,h2⟩
       ·exact .inr (.inr h2)
      ·rw[FT,Sv]at hj
       obtain⟨s',hj,he⟩:=hj;injection he with he;subst he;rcases Cs.1 (Dg hj)with hs|hs
       ·exact .inl ⟨s',BY _ hs,h2⟩
       ·exact .inr (.inl ⟨s',hs,h2⟩)
     have hBN:∀g,C6 pl3 bl3 b g->¬C6 pl3 bl3 nx g:=λg h h'=>by
      obtain⟨h1,h2⟩:=k4 g (hBo g h);rcases hNo g h' with⟨s,hs,hg⟩|⟨s,hs,hg⟩|hg
      ·exact h2 s hs hg
      ·exact hFu s hs g hg ⟨_,_,AH,rfl,Ba,h1⟩
      ·have:=Au b g ⟨_,_,AH,rfl,Ba,h1⟩;omega
     have hm:Many pl Aa w pl3 bl3 w' (nx::b::dd) v.ownBlock:=by
      refine⟨λk hk=>?_,Dq,λg h=>⟨b,by simp,Gc v (by simp) g h⟩,λk hk g h=>?_,λk hk m hm Jj g h1 h2=>?_,λk hk g h=>?_,λk hk sv1 MA h=>?_⟩
      ·simp only[Bw,not_or]at hk
       rw[EX,DA,if_neg hk.1,if_neg hk.1,if_neg hk.2.1,if_neg hk.2.1,if_neg hk.2.2];exact⟨rfl,rfl⟩
      ·rcases Bw.1 hk with rfl|hk
       ·rcases hNo g h with⟨s,hs,hg⟩|⟨s,hs,hg⟩|hg
        ·exact .inl ⟨b,by simp,Gc s hs g hg⟩
        ·obtain⟨i,hi,ho⟩:=q3 s hs g hg
         exact .inl ⟨i,by simp[hi],ho⟩
        ·exact .inr (KE hg.symm)
       ·rcases Bw.1 hk with rfl|hk
        ·exact .inl ⟨k,by simp,_,_,AH,rfl,Ba,(k4 g (hBo g h)).1⟩
        ·exact absurd h (I4 k hk g)
      ·rcases Bw.1 hk with rfl|hk
       ·rcases Bw.1 hm with rfl|hm
        ·exact Jj rfl
        ·rcases Bw.1 hm with rfl|hm
         ·exact hBN g h2 h1
         ·exact I4 m hm g h2
       ·rcases Bw.1 hk with rfl|hk
        ·rcases Bw.1 hm with rfl|hm
         ·exact hBN g h1 h2
         ·rcases Bw.1 hm with rfl|hm
          ·exact Jj rfl
          ·exact I4 m hm g h2
        ·exact I4 k hk g h1
      ·rcases Bw.1 hk with rfl|hk
       ·rw[hr.fresh k Dh]at h;cases h
       ·rcases Bw.1 hk with rfl|hk
        ·rw[Ba]at h;cases h
        ·obtain⟨_,_,_,_,_,_,h1⟩:=q5 k hk
         rw[show pl k=_ from h1]at h;cases h
      ·rcases Bw.1 hk with rfl|hk
       ·rw[hr.fresh k Dh]at h;cases h
       ·rcases Bw.1 hk with rfl|hk
        ·rw[Ba]at h
         injection h with h;injection h with h h';subst h h';refine⟨_,_,by rw[EX,if_neg Wy,if_pos rfl],?_⟩;rw[AH,DA,if_neg Wy,if_pos rfl];exact KeepR.ofTree ⟨AQ _,AQ _,λ_=>⟨rfl,k5 _⟩⟩
        ·have DO:¬k=nx:=λe=>GX (e▸hk)
         have P1:¬k=b:=λe=>Mp (e▸hk);exact⟨sv1,MA,by rw[EX,if_neg DO,if_neg P1];exact h,by rw[DA,if_neg DO,if_neg P1,if_pos hk];exact KeepR.ofDead⟩
     have BU:=hm.step
     have hT2:TreeOk (Ap ok0 base pl3 bl3 w') n.1.1 n.1.2 none (n.2++new) v' ((F++Fu).map some):=m9 (E:=Ap ok0 base pl Aa w) BU.ext rfl (o2.mono λ_ _ _ _ _ h=>Owns.any h) (hOL v')
      (λs hs g hg=>Dq.block g (hltF s hs g hg) (λe=>Pm s hs g e.symm hg)) Ao (by
       rw[H7,H6];refine⟨λs hs g g1 g2=>?_,(H7.1 h3).2,q2,λa ha b hb g g1 g2=>hFu b hb g g2 (Gc a (BY _ ha) g g1)⟩;rcases CK g g1 with g1|g1
       ·exact Pm s hs g g1 g2
       ·have:=hltF s hs g g2;omega)
     have hT3:TreeOk (Ap ok0 base pl3 bl3 w') t0 e (some (i0::p)) l sv K5:=k6 _ BU.ext rfl (λg hg=>by obtain⟨h1,h2⟩:=k4 g hg;exact Dq.block g (Au b g ⟨_,_,AH,rfl,Ba,h1⟩) (λe=>h2 v (by simp) e.symm))
     refine H9 (Ta ho hc ha Cu (by rw[Abf];exact AM)) (hK v' pl3 w' ?_ BU ?_)
     ·refine hm.rel hr λk hk=>?_
      rcases Bw.1 hk with rfl|hk
      ·exact⟨.tree n.1.1 n.1.2 0 0 none (n.2++new),.row v' ((F++Fu).map some),by rw[DA,if_pos rfl],by rw[EX,if_pos rfl],hT2⟩
      ·rcases Bw.1 hk with rfl|hk
       ·exact⟨.tree t0 e ver Ah (some (i0::p)) l,.row sv K5,by rw[DA,if_neg Wy,if_pos rfl],by rw[EX,if_neg Wy,if_pos rfl],hT3⟩
       ·have DO:¬k=nx:=λe=>GX (e▸hk)
        have P1:¬k=b:=λe=>Mp (e▸hk);obtain⟨_,_,_,_,_,_,h1⟩:=q5 k hk;exact⟨.dead,_,by rw[DA,if_neg DO,if_neg P1,if_pos hk],by rw[EX,if_neg DO,if_neg P1];exact h1,trivial⟩
     ·exact mD (Qn Ao) (by show pl3 nx=_;rw[EX,if_pos rfl]) (by show bl3 nx=_;rw[DA,if_pos rfl])
    ·cases hk
  ·cases hk
 ·cases hk
theorem mE{E:Env}{blp:Nat->Option Blk}(hb:Ek E){hsep:∀i j,i≠j->∀g,C6 E.pl E.bl i g->¬C6 E.pl E.bl j g}:∀{o:OT}{cs:List C}{vs:List Value}{x:o.ty.den}{rs:List C}{ids:List Nat},CReps E cs vs->LF blp o cs=some (x,rs,ids)->(∀i∈ids,E.bl i=blp i)->ids.Nodup->∃us ws F,vs=us++ws/\CReps E rs ws/\(∀hv,Owns E.w E.ok E.base hv o none x us F)/\(∀s∈F,∀g,s.ownBlock=some g->∃i∈ids,C6 E.pl E.bl i g)/\F.Pairwise LL/\∀i∈ids,∃B sv Ac,E.bl i=some B/\B.live=true/\E.pl i=some (.row sv Ac)
 |.d τ,cs,vs,x,rs,ids,h,ha,Bf,GX=>by
  simp only[LF]at ha;split at ha
  ·rename_i y q hp
   simp only[Ag,BQ]at ha;obtain⟨rfl,rfl,rfl⟩:=ha;obtain⟨us,ws,e1,h1,h2,_⟩:=On hb (Rows.none _ _) h hp;exact⟨us,ws,[],e1,h2,λhv=>⟨rfl,h1,rfl⟩,by simp,by simp,by simp⟩
  ·cases ha
 |.p a c,cs,vs,x,rs,ids,h,ha,Bf,GX=>by
  simp only[LF]at ha;split at ha
  ·cases ha
  rename_i x1 r1 i1 h1;split at ha
  ·cases ha
  rename_i x2 r2 i2 h2;simp only[Ag,BQ]at ha;obtain⟨rfl,rfl,rfl⟩:=ha;obtain⟨n1,n2,n3⟩:=Sz.1 GX;obtain⟨us1,ws1,F1,a1,a2,a3,a4,a5,a6⟩:=mE hb (hsep:=hsep) h h1 (λi hi=>Bf i (D0 _ hi)) n1;obtain⟨us2,ws2,F2,b1,b2,b3,b4,b5,b6⟩:=mE hb (hsep:=hsep) a2 h2 (λi hi=>Bf i (DJ _ hi)) n2;refine⟨us1++us2,ws2,F1++F2,by rw[a1,b1,Ci],b2,λhv=>⟨us1,us2,F1,F2,rfl,rfl,a3 hv,b3 hv⟩,λs hs g hg=>?_,H6.2 ⟨a5,b5,λs hs s' Cc g g1 g2=>?_⟩,λi hi=>?_⟩
  ·rcases Cs.1 hs with hs|hs
   ·obtain⟨i,hi,ho⟩:=a4 s hs g hg
    exact⟨i,D0 _ hi,ho⟩
   ·obtain⟨i,hi,ho⟩:=b4 s hs g hg
    exact⟨i,DJ _ hi,ho⟩
  ·obtain⟨i,hi,ho⟩:=a4 s hs g g1
   obtain⟨j,hj,WO⟩:=b4 s' Cc g g2;exact hsep i j (n3 i hi j hj) g ho WO
  ·rcases Cs.1 hi with hi|hi
   ·exact a6 i hi
   ·exact b6 i hi
 |.r t e,[],vs,x,rs,ids,h,ha,Bf,GX=>by simp[LF]at ha
 |.r t e,c::cs,vs,x,rs,ids,⟨v,Av,e1,h1,h2⟩,ha,Bf,GX=>by
  simp only[LF]at ha;split at ha
  ·simp only[Ag,BQ]at ha
   obtain⟨rfl,rfl,rfl⟩:=ha;have h1:v=.slice none 0 0:=h1;subst h1;refine⟨[_],Av,[_],e1,h2,λhv=>⟨_,[],[],rfl,rfl,World.ownsRow_nil _ _ _ _,rfl,rfl⟩,λs hs g hg=>?_,by simp,by simp⟩;rw[EO]at hs;subst hs;cases hg
  ·split at ha
   ·rename_i b m hm
    split at ha
    ·rename_i Cu
     obtain⟨⟨m1,m2⟩,m3⟩:=m;simp only[BQ]at Cu;obtain⟨rfl,rfl⟩:=Cu;simp only[Ag,BQ]at ha;obtain⟨rfl,rfl,rfl⟩:=ha;obtain⟨Ac,Fr,B,k1,k2,_,k3,k4,k5,k6⟩:=lS hb hm (Bf b (by simp)) (u:=v) h1;have HJ:B.live=true:=by cases B<;>first|rfl|exact absurd rfl k2
     refine⟨[v],Av,v::Fr,e1,h2,k4,λs hs g hg=>⟨b,by simp,B,_,k1,HJ,k3,Oq k5 hs hg⟩,k6,λi hi=>?_⟩;rw[EO]at hi;subst hi;exact⟨B,v,Ac,k1,HJ,k3⟩
    ·cases ha
   ·cases ha
theorem ApV{X:List (TypeId×OT)}{T:TypeId->Option TI}(hT:TOk P T){kk:K β}{nx:Nat}{t:TypeId}{n:Nat}{parts:Array (Nat×Operand)}(ho:o.op=.buildSlice t n parts)(hk:kX X T bl nx t n (parts.toList.map λp=>(p.1,ρ p.2)) kk=some r):Sound P o ρ bl kk r:=by
 unfold kX at hk;split at hk
 ·rename_i v0 M0
  split at hk
  ·rename_i ti cs ht Df
   obtain⟨i,d,z,f⟩:=hT.facts ht;split at hk
   ·rename_i et C2 C8
    have hd:=GM f C2 C8;subst hd;have hu:=f.under;split at hk
    ·rename_i te e BW _ hn
     obtain⟨i',d',z',fe⟩:=hT.facts BW;split at hk
     ·rename_i x0 ids Wv
      cases hc:(Nat.beq n 1&&(Nat.beq cs.length te.size&&(Nat.beq e.ty.size te.size&&(Nat.blt 0 te.size&&(Nat.ble te.size 16777216&&Jy ids)))))with
      |false=>rw[hc]at hk;cases hk
      |true=>
       simp only[hc,Ar]at hk;obtain⟨c1,hc⟩:=andB hc;obtain⟨c2,hc⟩:=andB hc;obtain⟨c3,hc⟩:=andB hc;obtain⟨c4,hc⟩:=andB hc;obtain⟨c5,c6⟩:=andB hc;have:=Az c1;subst this;have c2:=Az c2;have c3:=Az c3;have c4:=DR c4;have c5:=HQ c5;have c6:=Q6 c6
       obtain⟨x,Lu,AHC⟩:∃x,parts.toList=[(0,x)]/\ρ x=v0:=by
        cases hq:parts.toList with
        |nil=>rw[hq]at M0;cases M0
        |cons p ps=>rw[hq]at M0;simp only[CM,D1,BQ,List.map_eq_nil_iff]at M0;obtain⟨⟨h1,h2⟩,h3⟩:=M0;obtain⟨p1,p2⟩:=p;simp only at h1 h2;subst h1 h3;exact⟨p2,rfl,h2⟩
       have Cg:x∈o.op.operands:=by simp only[ho,Op.operands];exact kA.2 (Gy.2 ⟨(0,x),by rw[Lu];simp,rfl⟩)
       refine⟨_,_,_,hk,λAa hb=>?_⟩;have Dh:Aa nx=none:=(hb nx (by simp)).trans hn;intro ok0 base pl w a hr Af K Q hK;have RF:=VRep.cells_of (by rw[AHC];exact Df) (Af x Cg);have HI:=RF.length;obtain⟨us,ws,F,a1,a2,a3,a4,a5,a6⟩:=mE (E:=Ap ok0 base pl Aa w) hr.blksOk (hsep:=λi j Dw g ⟨B,p,h1,h2,h3,h4⟩ ⟨B',p',m1,m2,m3,m4⟩=>hr.sep i j B B' p p' g Dw h1 m1 h2 m2 h3 m3 h4 m4) RF Wv (λi hi=>hb i (by simp[hi])) c6;have a2:ws=[]:=a2;subst a2;rw[F3]at a1
       have E1:z'.cells.size=te.size:=by have:=fe.len;rw[Hc]at this;rw[this,fe.size]
       have D7:(a.eval x).cells.size=te.size:=by rw[<-Hc,HI,c2]
       have AGm:Instr.fill (λi=>some (i*te.size,te.size)) (repL 1 z'.cells.toList).toArray [(0,a.eval x)]=some (a.eval x).cells:=by
        have e1:(repL 1 z'.cells.toList).toArray=z'.cells:=by apply HR;simp[repL]
        have BS:¬(0*te.size+(a.eval x).cells.size>z'.cells.size):=by omega
        rw[e1];simp only[Instr.fill];rw[if_neg (by simp only[D7,ne_eq,XU,decide_false,NZ,Im];omega),Nat.zero_mul,AcK 0 (a.eval x) z'.cells (by simp only[Hc];omega)];congr 1;apply HR;rw[NU (by simp only[Hc];omega)];simp
       have AM:(execOp a.eval o).run P w=.ok (.value (.slice (some ⟨w.heap.size,0,none⟩) 1 1)) (w.alloc (.cells (a.eval x).cells et)):=by
        have e0:(Array.range (1*te.size)).map (λx=>z'.cells[x%z'.cells.size]!)=(repL 1 z'.cells.toList).toArray:=by
         have WM:madeCells z'.cells (1*te.size)=(repL 1 z'.cells.toList).toArray:=by apply HR;rw[<-E1,Tb _ (by omega)]
         exact WM
        have h0:¬(1*te.size>2^24):=by omega
        have h2:¬(1*te.size=0):=by omega
        have AH8:(parts.map λp=>(p.1,a.eval p.2)).toList=[(0,a.eval x)]:=by rw[S0,Lu];rfl
        simp only[execOp,ho,Instr.buildSlice,run_underlying hu,run_sizeOf fe,Sem.run_bind,Result.andThen_ok,h0,CF,Sem.run_pure,h2,zeroValue,typeInfo,run_program,fe.info,fe.zero,e0,AH8,AGm,newRow,run_newObj];rfl
       have hg:w.grownBy (w.alloc (.cells (a.eval x).cells et)) none:=World.grownBy_alloc w _ none
       have Ao:(w.alloc (.cells (a.eval x).cells et)).ownsRow base et e.ty.size (.slice (some ⟨w.heap.size,0,none⟩) 1 1) [x0].length us:=by rw[<-a1];refine⟨by rw[HI,c2,c3];simp,.inr ⟨w.heap.size,1,(a.eval x).cells,rfl,hr.baseLe,heap_alloc_new w _,AQ _,by simp[maxLen],by rw[D7,c3,Nat.one_mul],?_⟩⟩;rw[Hb (by rw[HI,c2,c3];simp)]
       obtain⟨pl3,z1,z2,z3⟩:=AcV hr Dh a5 a4 a6 hg (λg hg=>by simpa [Value.ownBlock]using hg.symm) (new:=[x0]) (e:=e) (λhv=>⟨us,[],F,[],by simp,by simp,a3 hv,rfl,rfl⟩) Ao;exact H9 AM (hK _ pl3 _ z1 z2 z3)
     ·cases hk
    ·cases hk
   ·cases hk
  ·cases hk
 ·cases hk
end
end Go.Lift
namespace Go.Lift
open Go.RowKit
section
variable{P:Program}{o:Oper}{ρ:Operand->V}{bl:Nat->Option Blk}{β:Type}{r:β}
theorem ApW{kk:K β}{t:TypeId}{x:Operand}(ho:o.op=.unOp .not t x){b:Bool}(hx:ρ x=.c (.bool b))(hk:kk (.c (.bool (!b))) [] []=some r):Sound P o ρ bl kk r:=by refine Sound.pure hk λAa _ ok0 base pl w a hr Af=>⟨.bool (!b),?_,rfl⟩;have h1:=Af x (by simp[ho,Op.operands]);rw[hx]at h1;have C7:a.eval x=.bool b:=h1;simp[execOp,ho,C7,Op.unary]
theorem ApX{kk:K β}{t:TypeId}{x:Operand}(ho:o.op=.unOp .neg t x){k:IntKind}{n:Int}(hx:ρ x=.c (.int k n))(hk:kk (.c (.int k (k.wrap (0-n)))) [] []=some r):Sound P o ρ bl kk r:=by refine Sound.pure hk λAa _ ok0 base pl w a hr Af=>⟨.int k (k.wrap (0-n)),?_,rfl⟩;have h1:=Af x (by simp[ho,Op.operands]);rw[hx]at h1;have C7:a.eval x=.int k n:=h1;simp[execOp,ho,C7,Op.unary,Op.intArith]
theorem ApY{T:TypeId->Option TI}(hT:TOk P T){kk:K β}{s t:TypeId}{x:Operand}(ho:o.op=.convert s t x){si ti:TI}(hs:T s=some si)(ht:T t=some ti){k0 k:IntKind}{n:Int}(hx:ρ x=.c (.int k0 n))(Mw:ti.kind=some k)(hk:kk (.c (.int k (k.wrap n))) [] []=some r):Sound P o ρ bl kk r:=by
 obtain⟨i,d,z,f⟩:=hT.facts ht;obtain⟨i',d',z',f'⟩:=hT.facts hs
 have hd:d=.int k:=by rw[f.kind]at Mw;cases d<;>simp_all [Q2]
 subst hd;refine Sound.pure hk λAa _ ok0 base pl w a hr Af=>⟨.int k (k.wrap n),?_,rfl⟩;have h1:=Af x (by simp[ho,Op.operands]);rw[hx]at h1;have C7:a.eval x=.int k0 n:=h1;simp[execOp,ho,C7,convert,run_underlying f.under,run_underlying f'.under,Conv.intToInt]
theorem ApZ{T:TypeId->Option TI}(hT:TOk P T){kk:K β}{s t:TypeId}{x:Operand}(ho:o.op=.convert s t x){si ti:TI}(hs:T s=some si)(ht:T t=some ti){l:List UInt8}(hx:ρ x=.c (.str l))(Mw:ti.isStr=true)(hk:kk (.c (.str l)) [] []=some r):Sound P o ρ bl kk r:=by
 obtain⟨i,d,z,f⟩:=hT.facts ht;obtain⟨i',d',z',f'⟩:=hT.facts hs;have hd:=SX f Mw;subst hd;refine Sound.pure hk λAa _ ok0 base pl w a hr Af=>⟨.string ⟨l.toArray⟩,?_,rfl⟩;have h1:=Af x (by simp[ho,Op.operands]);rw[hx]at h1;have C7:a.eval x=.string ⟨l.toArray⟩:=h1;simp[execOp,ho,C7,convert,run_underlying f.under,run_underlying f'.under]
theorem AcW{E:Env}:∀{vs:List V}{us:List Value}{bs:List Nat},Qz vs=some bs->vs.length=us.length->(∀(j:Nat)(v:V)(u:Value),vs[j]?=some v->us[j]?=some u->VRep E v u)->∃gs:List Nat,bs.map E.pl=gs.map (λg=>some (.cells g))/\us=gs.map λg=>.pointer (some ⟨g,0,none⟩)
 |[],us,bs,h,hl,hv=>by
  simp only[Qz,Ag]at h;subst h;cases us with
  |nil=>exact⟨[],rfl,rfl⟩
  |cons u us=>simp at hl
 |v::vs,us,bs,h,hl,hv=>by
  cases us with
  |nil=>simp at hl
  |cons u us=>
   unfold Qz at h;split at h
   ·rename_i DY;cases DY
   ·rename_i b r' DY
    injection DY with h1 h2;subst h1 h2;split at h
    ·rename_i l Gt
     simp only[Ag]at h;subst h;obtain⟨gs,h3,h4⟩:=AcW Gt (by simpa using hl) (λj v u hj hu=>hv (j+1) v u (by simpa using hj) (by simpa using hu));obtain⟨g,hg,hu⟩:=hv 0 _ _ rfl rfl;exact⟨g::gs,by simp[h3,hg],by simp[h4,hu]⟩
    ·cases h
   ·cases h
theorem Aq0{kk:K β}{f:FuncId}{first BN:Array Operand}(ho:o.op=.makeFunc (.func f) first BN)(hf:first.toList=[]){bs:List Nat}(hb:Qz (BN.toList.map ρ)=some bs)(hk:kk (.c (.fn f bs)) [] []=some r):Sound P o ρ bl kk r:=by
 have N9:first=#[]:=by simpa using hf
 subst N9;refine Sound.pure hk λAa _ ok0 base pl w a hr Af=>?_
 obtain⟨gs,h1,h2⟩:=AcW (E:=Ap ok0 base pl Aa w) (us:=BN.toList.map a.eval) hb (by simp) (λj v u hj hu=>by
  rw[FT]at hj hu;cases hc:BN.toList[j]? with
  |none=>rw[hc]at hj;cases hj
  |some x=>rw[hc]at hj hu;simp only[Fa,Ag]at hj hu;subst hj hu;exact Af x (by simp only[ho,Op.operands,XZ];exact .inr (by have:=Dg hc;simpa using this)))
 refine⟨.func (.func f) #[] (gs.map λg=>.pointer (some ⟨g,0,none⟩)).toArray,?_,gs,h1,rfl⟩
 have h3:BN.map a.eval=(gs.map λg=>Value.pointer (some ⟨g,0,none⟩)).toArray:=by apply HR;simpa using h2
 simp[execOp,ho,Instr.makeFunc,h3]
theorem Tc{kk:K β}{x:Operand}(ho:o.op=.nilCheck x)(hx:(∃b of,ρ x=.c (.ptr b of))\/(∃b ver i of,ρ x=.eptr b ver i of)\/(∃e y of,ρ x=.lptr e y of)\/(∃f BN,ρ x=.c (.fn f BN))\/(∃b ver p i of,ρ x=.c (.tptr b ver p i of)))(hk:kk (ρ x) [] []=some r):Sound P o ρ bl kk r:=by
 refine Sound.pure hk λAa _ ok0 base pl w a hr Af=>⟨a.eval x,?_,Af x (by simp[ho,Op.operands])⟩;have h1:=Af x (by simp[ho,Op.operands]);rcases hx with⟨b,of,hx⟩|⟨b,ver,i,of,hx⟩|⟨e,y,of,hx⟩|⟨f,BN,hx⟩|⟨b,ver,p,i,of,hx⟩<;>rw[hx]at h1
 ·obtain⟨g,_,hv⟩:=h1
  simp[execOp,ho,hv]
 ·obtain⟨sv,Ac,ad,_,hv,_⟩:=h1
  simp[execOp,ho,hv]
 ·obtain⟨xs,ad,_,hv,_⟩:=h1
  simp[execOp,ho,hv]
 ·obtain⟨gs,_,hv⟩:=h1
  simp[execOp,ho,hv]
 ·obtain⟨sv,Ac,ad,_,hv,_⟩:=h1
  simp[execOp,ho,hv]
theorem Aq1{T:TypeId->Option TI}(hT:TOk P T){kk:K β}{t:TypeId}{x:Operand}{fi:Nat}(ho:o.op=.field t x fi){ti:TI}(ht:T t=some ti){cs:List C}(hx:ρ x=.agg cs){off n:Nat}{g:Bool}(hf:ti.flds[fi]?=some (off,n,g))(h1:(g||Nat.beq n 1)=true){rc:List C}(hs:sub cs off n=some rc)(hk:kk (V.mk g rc) [] []=some r):Sound P o ρ bl kk r:=by
 obtain⟨i,d,z,f⟩:=hT.facts ht;obtain⟨fs,fd,j,e,rfl,RH,rfl,hj,rfl,he,hg⟩:=AcB f hf;refine Sound.pure hk λAa _ ok0 base pl w a hr Af=>?_;have hv:=Af x (by simp[ho,Op.operands]);rw[hx]at hv;obtain⟨vs,D7,B7⟩:=hv;simp only[D6]at B7;obtain⟨s1,s2,s3⟩:=Om D7 hs
 have EV:(isAgg fd.type).run P w=.ok g w:=by rw[<-hg];unfold isAgg IS;rw[Sem.run_bind,run_underlying he w,he];cases e<;>simp
 have CK:(sizeOf fd.type).run P w=.ok j.size w:=by simp[sizeOf,typeInfo,hj]
 cases g with
 |true=>
  refine⟨.agg ((vs.drop fd.offset).take j.size).toArray,?_,_,s1,by simp⟩
  have Lo:vs.toArray.extract fd.offset (fd.offset+j.size)=((vs.drop fd.offset).take j.size).toArray:=by apply HR;simp
  simp[execOp,ho,B7,Instr.field,run_underlying f.under,RH,asAgg,part,EV,CK]
 |false=>
  have hn:j.size=1:=by simpa using Az (by simpa using h1)
  have Au:fd.offset<vs.length:=by omega
  have IF:(vs.drop fd.offset).take j.size=[vs[fd.offset]]:=by rw[hn,JY Au];rfl
  rw[IF]at s1;refine⟨vs[fd.offset],?_,VRep.mk ⟨_,s1,by simp⟩⟩;simp[execOp,ho,B7,Instr.field,run_underlying f.under,RH,asAgg,part,EV,Au]
theorem Aq2{T:TypeId->Option TI}(hT:TOk P T){kk:K β}{t:TypeId}{x y:Operand}(ho:o.op=.index t x y){ti:TI}(ht:T t=some ti){s:List UInt8}(hx:ρ x=.c (.str s)){k:IntKind}{i:Int}(hy:ival (ρ y)=some (k,i))(Jo:ti.isStr=true)(h0:0<=i)(h1:i<(s.length:Int))(hk:kk (.c (.int .u8 ((s.getD i.toNat 0).toNat:Int))) [] []=some r):Sound P o ρ bl kk r:=by
 obtain⟨inf,d,z,f⟩:=hT.facts ht;have:=SX f Jo;subst this;refine Sound.pure hk λAa _ ok0 base pl w a hr Af=>⟨.int .u8 ((s.getD i.toNat 0).toNat:Int),?_,rfl⟩;have HM:=Af x (by simp[ho,Op.operands]);have Ih:=Af y (by simp[ho,Op.operands]);rw[hx]at HM;rw[Ot hy]at Ih;have HN:a.eval x=.string ⟨s.toArray⟩:=HM;have RX:a.eval y=.int k i:=Ih;have Au:i.toNat<s.length:=by omega
 have I6:(⟨s.toArray⟩:ByteArray)[i.toNat]?=some s[i.toNat]:=by have CK:i.toNat<(⟨s.toArray⟩:ByteArray).size:=Au;rw[getElem?_pos (⟨s.toArray⟩:ByteArray) i.toNat CK];rfl
 have hd:s.getD i.toNat 0=s[i.toNat]:=by simp[List.getD,Au]
 rw[hd];simp[execOp,ho,HN,RX,Instr.index,asIntOf,run_underlying f.under,h0,I6]
theorem TReps.get{E:Env}:∀{ts:List (Bool×List C)}{vs:List Value}{i:Nat}{t:Bool×List C},TReps E ts vs->ts[i]?=some t->∃v,vs[i]?=some v/\SRep E t.1 t.2 v
 |[],_,i,t,_,h=>by simp at h
 |t0::ts,_,0,t,⟨v,Av,e,h1,h2⟩,h=>by simp only[DI,Ag]at h;subst h e;exact⟨v,rfl,h1⟩
 |t0::ts,_,i+1,t,⟨v,Av,e,h1,h2⟩,h=>by subst e;obtain⟨u,h3,h4⟩:=TReps.get (i:=i) h2 (by simpa using h);exact⟨u,by simpa using h3,h4⟩
theorem Aq3{kk:K β}{x:Operand}{i:Nat}(ho:o.op=.extract x i){ts:List (Bool×List C)}(hx:ρ x=.tup ts){t:Bool×List C}(ht:ts[i]?=some t)(hk:kk (V.mk t.1 t.2) [] []=some r):Sound P o ρ bl kk r:=by refine Sound.pure hk λAa _ ok0 base pl w a hr Af=>?_;have h1:=Af x (by simp[ho,Op.operands]);rw[hx]at h1;obtain⟨vs,hv,Gu⟩:=h1;obtain⟨v,GI,hs⟩:=TReps.get Gu ht;refine⟨v,?_,VRep.mk hs⟩;simp[execOp,ho,hv,Instr.extract,GI]
theorem AcX{E:Env}{isMax:Bool}{k:IntKind}:∀{vs:List V}{us:List Value}{a:Int}{v:V},SA isMax k a vs=some v->vs.length=us.length->(∀(j:Nat)(x:V)(u:Value),vs[j]?=some x->us[j]?=some u->VRep E x u)->∀w,∃n,v=.c (.int k n)/\(us.foldlM (bif isMax then Builtin.max2 else Builtin.min2) (.int k a)).run P w=.ok (.int k n) w
 |[],us,a,v,h,hl,hv,w=>by
  simp only[SA,Ag]at h;cases us with
  |nil=>exact⟨a,h.symm,rfl⟩
  |cons u us=>simp at hl
 |x::vs,us,a,v,h,hl,hv,w=>by
  cases us with
  |nil=>simp at hl
  |cons u us=>
   unfold SA at h;split at h
   ·rename_i DY;cases DY
   ·rename_i a' k' b r' DY
    injection DY with h1 h2;subst h1 h2;split at h
    ·rename_i P3
     subst P3;have hu:u=.int k b:=hv 0 _ _ rfl rfl;subst hu;obtain⟨n,h3,h4⟩:=AcX h (by simpa using hl) (λj x u hj hu=>hv (j+1) x u (by simpa using hj) (by simpa using hu)) w;refine⟨n,h3,?_⟩;rw[List.foldlM_cons];cases isMax with
     |true=>simp only[Ar,Sem.run_bind,Builtin.max2,Sem.run_pure,Result.andThen_ok]at h4⊢;exact h4
     |false=>simp only[Cd,Sem.run_bind,Builtin.min2,Sem.run_pure,Result.andThen_ok]at h4⊢;exact h4
    ·cases h
   ·cases h
theorem AcY{isMax:Bool}{kk:K β}{c:Call}(ho:o.op=.call c)(hc:c.callee=.builtin (bif isMax then .max else .min)){v:V}(hm:Yn isMax (c.args.toList.map ρ)=some v)(hk:kk v [] []=some r):Sound P o ρ bl kk r:=by
 refine Sound.pure hk λAa _ ok0 base pl w a hr Af=>?_
 have D7:∀(j:Nat)(x:V)(u:Value),(c.args.toList.map ρ)[j]?=some x->(c.args.toList.map a.eval)[j]?=some u->VRep (Ap ok0 base pl Aa w) x u:=by
  intro j x u hj hu;rw[FT]at hj hu;cases W0:c.args.toList[j]? with
  |none=>rw[W0]at hj;cases hj
  |some y=>rw[W0]at hj hu;simp only[Fa,Ag]at hj hu;subst hj hu;exact Af y (by simp only[ho,Op.operands,Call.operands,XZ];exact .inr (by have:=Dg W0;simpa using this))
 have hl:(c.args.toList.map ρ).length=(c.args.toList.map a.eval).length:=by simp
 generalize c.args.toList.map ρ=vs at hm D7 hl;generalize Db:c.args.toList.map a.eval=us at D7 hl;unfold Yn at hm;split at hm
 ·rename_i k a0 r'
  cases us with
  |nil=>simp at hl
  |cons u us=>
   have hu:u=.int k a0:=D7 0 _ _ rfl rfl;subst hu;obtain⟨n,h3,h4⟩:=AcX (P:=P) hm (by simpa using hl) (λj x u hj hu=>D7 (j+1) x u (by simpa using hj) (by simpa using hu)) w;subst h3;refine⟨.int k n,?_,rfl⟩;cases isMax with
   |true=>simp only[Ar]at h4 hc;simp[execOp,ho,resolve,hc,invoke,builtin,Builtin.max_,Db,h4]
   |false=>simp only[Cd]at h4 hc;simp[execOp,ho,resolve,hc,invoke,builtin,Builtin.min_,Db,h4]
 ·cases hm
end
end Go.Lift
namespace Go.Lift
open Go.RowKit
theorem AcZ{i:Nat}:∀{n s:Nat},i∈AY s n↔s<=i/\i<s+n
 |0,s=>by simp only[AY,DQ,false_iff];omega
 |n+1,s=>by simp only[AY,Bw,AcZ (n:=n)];omega
theorem mF:∀{n s:Nat},(AY s n).length=n
 |0,_=>rfl
 |n+1,s=>by simp[AY,mF (n:=n)]
theorem mG:∀{n s b:Nat},b<n->(AY s n)[b]?=some (s+b)
 |0,_,_,h=>by omega
 |n+1,s,0,_=>rfl
 |n+1,s,b+1,h=>by simp only[AY,Eg];rw[mG (n:=n) (by omega)];congr 1;omega
theorem mH:∀{n s:Nat},(AY s n).Nodup
 |0,_=>List.nodup_nil
 |n+1,s=>LD.2 ⟨λh=>by have:=AcZ.1 h;omega,mH⟩
theorem mI{bl:Nat->Option Blk}:∀{l:List Nat},Qt bl l=true->∀i∈l,bl i=none
 |[],_,i,h=>by simp at h
 |j::r,h,i,hi=>by
  simp only[Qt]at h;split at h
  ·rename_i hj
   rcases Bw.1 hi with rfl|hi
   ·exact hj
   ·exact mI h i hi
  ·cases h
structure Ren (E E':Env) (ids Bu:List Nat):Prop where
 cells:∀b i g,ids[b]?=some i->E.pl i=some (.cells g)->E'.pl (Bu.getD b 0)=some (.cells g)
 row:∀b i sv Ac t e ver l,ids[b]?=some i->E.bl i=some (.row t e ver l)->E.pl i=some (.row sv Ac)->E'.pl (Bu.getD b 0)=some (.row sv Ac)
 mat:∀b i sv Ac t et e ver Ah hole l,ids[b]?=some i->E.bl i=some (.mat t et e ver Ah hole l)->E.pl i=some (.row sv Ac)->E'.pl (Bu.getD b 0)=some (.row sv Ac)
 tree:∀b i sv Ac t e ver Ah l,ids[b]?=some i->E.bl i=some (.tree t e ver Ah none l)->E.pl i=some (.row sv Ac)->E'.pl (Bu.getD b 0)=some (.row sv Ac)
 treeB:∀b i t e ver Ah l t' e' ver' B9 h' l',ids[b]?=some i->E.bl i=some (.tree t e ver Ah none l)->E'.bl (Bu.getD b 0)=some (.tree t' e' ver' B9 h' l')->Blk.tree t' e' ver' B9 h' l'=.tree t e 0 0 none l
 nil:∀b i,ids[b]?=some i->E.bl i=none->E'.pl (Bu.getD b 0)=some (.row (.slice none 0 0) [])
theorem mJ{E E':Env}{ids Bu:List Nat}(hr:Ren E E' ids Bu):∀(BN HG gs:List Nat),BN.map (ids[·]?)=HG.map some->HG.map E.pl=gs.map (λg=>some (.cells g))->(BN.map λb=>Bu.getD b 0).map E'.pl=gs.map (λg=>some (.cells g))
 |[],HG,gs,h,hg=>by
  cases HG with
  |nil=>cases gs<;>simp_all
  |cons b bs=>simp at h
 |b::bs,HG,gs,h,hg=>by
  cases HG with
  |nil=>simp at h
  |cons b' N2=>
   cases gs with
   |nil=>simp at hg
   |cons g gs=>simp only[CM,D1]at h hg⊢;exact⟨hr.cells b b' g h.1 hg.1,mJ hr bs N2 gs h.2 hg.2⟩
theorem mK{i:Nat}:∀{ks:List Nat}{p:Path}{x:WayT ks},Oi i ks p=some x->wayP ks x=p/\wayI ks x=i
 |[],[],x,h=>by simp only[Oi,Ag]at h;exact⟨rfl,h.symm⟩
 |[],_::_,x,h=>by simp[Oi]at h
 |_::_,[],x,h=>by simp[Oi]at h
 |k::ks,(j,m)::p,x,h=>by
  simp only[Oi]at h;cases hk:Nat.beq k m with
  |false=>rw[hk]at h;cases h
  |true=>
   rw[hk,Ar]at h;have:=Az hk;subst this;split at h
   ·rename_i y hy
    simp only[Ag]at h;subst h;obtain⟨h1,h2⟩:=mK hy;exact⟨by simp only[wayP,h1],h2⟩
   ·cases h
theorem G0{E E':Env}{blp:Nat->Option Blk}{ids Bu:List Nat}(hb:Ek E)(hw:E'.w=E.w)(hr:Ren E E' ids Bu)(Bf:∀i∈ids,blp i=E.bl i):∀{l:List CT}{cs:List C}{vs:List Value}{y:CT.dens l},Rows E blp E'.ok (CA cs)->CReps E cs vs->Bx blp ids l cs=some y->CReps E' (mkC Bu l y) vs
 |[],cs,vs,y,AO,h,hp=>by
  cases cs with
  |nil=>exact h
  |cons c cs=>simp[Bx]at hp
 |.data τ::l,cs,vs,y,AO,h,hp=>by
  simp only[Bx]at hp;split at hp
  ·cases hp
  ·rename_i x r hx
   split at hp
   ·cases hp
   ·rename_i y' hy
    simp only[Ag]at hp;subst hp;obtain⟨us,ws,e,d,c,ds,hc⟩:=On hb AO h hx;have AHk:Rows E blp E'.ok (CA r):=AO.sub λb DB=>by rw[hc,SR];exact DJ _ DB
    rw[e];refine CReps.append ?_ (G0 hb hw hr Bf AHk c hy);exact HS (by rw[hw];exact d)
 |.ptr b o::l,cs,vs,y,AO,h,hp=>by
  cases cs with
  |nil=>simp[Bx]at hp
  |cons c cs=>
   cases c<;>simp only[Bx]at hp<;>try(cases hp;done)
   rename_i b' o';split at hp
   ·rename_i i hi
    cases hc:(Nat.beq i b'&&Nat.beq o o')with
    |false=>rw[hc]at hp;cases hp
    |true=>simp only[hc,Ar]at hp;obtain⟨h1,h2⟩:=andB hc;have h1:=Az h1;have h2:=Az h2;subst h1 h2;obtain⟨v,Av,e,⟨g,hg,hv⟩,ht⟩:=h;exact⟨v,Av,e,⟨g,hr.cells b i g hi hg,hv⟩,G0 hb hw hr Bf AO.tail ht hp⟩
   ·cases hp
 |.rowh b::l,cs,vs,y,AO,h,hp=>by
  cases cs with
  |nil=>simp[Bx]at hp
  |cons c cs=>
   cases c<;>simp only[Bx]at hp<;>try(cases hp;done)
   ·
    split at hp
    ·rename_i i hi
     split at hp
     ·rename_i hn
      obtain⟨v,Av,e,hv,ht⟩:=h;simp only[CRep]at hv;subst hv;have Ex:E.bl i=none:=by rw[<-Bf i (Dg hi)];exact hn
      exact⟨_,Av,e,⟨rfl,_,_,hr.nil b i hi Ex,λ_ _ _ _ _=>⟨Ej _,λ_=>rfl⟩⟩,G0 hb hw hr Bf AO.tail ht hp⟩
     ·cases hp
    ·cases hp
   ·rename_i b' ver
    split at hp
    ·rename_i i hi
     cases hc:Nat.beq i b' with
     |false=>rw[hc]at hp;cases hp
     |true=>
      have:=Az hc;subst this;simp only[hc,Ar]at hp;split at hp
      ·rename_i t e ver' l' An
       cases Cw:Nat.beq ver ver' with
       |false=>rw[Cw]at hp;cases hp
       |true=>
        have:=Az Cw;subst this;simp only[Cw,Ar]at hp;obtain⟨v,Av,ev,⟨h1,sv,Ac,Aw,Bt⟩,ht⟩:=h;have DX:E.bl i=some (.row t e ver l'):=by rw[<-Bf i (Dg hi)];exact An
        have D7:=(Bt t e ver l' DX).2 rfl;exact⟨v,Av,ev,⟨h1,sv,Ac,hr.row b i sv Ac t e ver l' hi DX Aw,λ_ _ _ _ _=>⟨Ej _,λ_=>D7⟩⟩,G0 hb hw hr Bf AO.tail ht hp⟩
      ·cases hp
    ·cases hp
 |.fn f BN::l,cs,vs,y,AO,h,hp=>by
  cases cs with
  |nil=>simp[Bx]at hp
  |cons c cs=>
   cases c<;>simp only[Bx]at hp<;>try(cases hp;done)
   rename_i f' HG;cases hc:(Nat.beq f f'&&decide (BN.map (ids[·]?)=HG.map some))with
   |false=>rw[hc]at hp;cases hp
   |true=>simp only[hc,Ar]at hp;obtain⟨h1,h2⟩:=andB hc;have h1:=Az h1;have h2:=Bv h2;subst h1;obtain⟨v,Av,e,⟨gs,hg,hv⟩,ht⟩:=h;refine⟨v,Av,e,⟨gs,?_,hv⟩,G0 hb hw hr Bf AO.tail ht hp⟩;exact mJ hr BN HG gs h2 hg
 |.bfnh f b::l,cs,vs,y,AO,h,hp=>by
  cases cs with
  |nil=>simp[Bx]at hp
  |cons c cs=>
   cases c<;>simp only[Bx]at hp<;>try(cases hp;done)
   rename_i f' b';split at hp
   ·rename_i i hi
    cases hc:(Nat.beq f f'&&Nat.beq i b')with
    |false=>rw[hc]at hp;cases hp
    |true=>simp only[hc,Ar]at hp;obtain⟨h1,h2⟩:=andB hc;have h1:=Az h1;have h2:=Az h2;subst h1;subst h2;obtain⟨v,Av,e,⟨g,hg,hv⟩,ht⟩:=h;exact⟨v,Av,e,⟨g,hr.cells b i g hi hg,hv⟩,G0 hb hw hr Bf AO.tail ht hp⟩
   ·cases hp
 |.bself b::l,cs,vs,y,AO,h,hp=>by
  cases cs with
  |nil=>simp[Bx]at hp
  |cons c cs=>
   cases c<;>simp only[Bx]at hp<;>try(cases hp;done)
   ·obtain⟨v,Av,e,hv,ht⟩:=h
    exact⟨v,Av,e,.inl hv,G0 hb hw hr Bf AO.tail ht hp⟩
   ·rename_i b'
    split at hp
    ·rename_i i hi
     cases hc:Nat.beq i b' with
     |false=>rw[hc]at hp;cases hp
     |true=>
      simp only[hc,Ar]at hp;have h1:=Az hc;subst h1;obtain⟨v,Av,e,hg,ht⟩:=h;refine⟨v,Av,e,?_,G0 hb hw hr Bf AO.tail ht hp⟩;rcases hg with hg|⟨g,hg,hv⟩
      ·exact .inl hg
      ·exact .inr ⟨g,hr.cells b i g hi hg,hv⟩
    ·cases hp
 |.maph b::l,cs,vs,y,AO,h,hp=>by
  cases cs with
  |nil=>simp[Bx]at hp
  |cons c cs=>
   cases c<;>simp only[Bx]at hp<;>try(cases hp;done)
   rename_i b';split at hp
   ·rename_i i hi
    cases hc:Nat.beq i b' with
    |false=>rw[hc]at hp;cases hp
    |true=>simp only[hc,Ar]at hp;have h1:=Az hc;subst h1;obtain⟨v,Av,e,⟨g,hg,hv⟩,ht⟩:=h;exact⟨v,Av,e,⟨g,hr.cells b i g hi hg,hv⟩,G0 hb hw hr Bf AO.tail ht hp⟩
   ·cases hp
 |.math b::l,cs,vs,y,AO,h,hp=>by
  cases cs with
  |nil=>simp[Bx]at hp
  |cons c cs=>
   cases c<;>simp only[Bx]at hp<;>try(cases hp;done)
   ·
    split at hp
    ·rename_i i hi
     split at hp
     ·rename_i hn
      obtain⟨v,Av,e,hv,ht⟩:=h;simp only[CRep]at hv;subst hv;have Ex:E.bl i=none:=by rw[<-Bf i (Dg hi)];exact hn
      exact⟨_,Av,e,⟨rfl,_,_,hr.nil b i hi Ex,λ_ _ _ _ _ _ _ _=>⟨Ej _,λ_=>rfl⟩⟩,G0 hb hw hr Bf AO.tail ht hp⟩
     ·cases hp
    ·cases hp
   ·rename_i b' ver
    split at hp
    ·rename_i i hi
     cases hc:Nat.beq i b' with
     |false=>rw[hc]at hp;cases hp
     |true=>
      have:=Az hc;subst this;simp only[hc,Ar]at hp;split at hp
      ·rename_i t et e ver' Ah l' An
       cases Cw:Nat.beq ver ver' with
       |false=>rw[Cw]at hp;cases hp
       |true=>
        have:=Az Cw;subst this;simp only[Cw,Ar]at hp;obtain⟨v,Av,ev,⟨h1,sv,Ac,Aw,Bt⟩,ht⟩:=h;have DX:E.bl i=some (.mat t et e ver Ah none l'):=by rw[<-Bf i (Dg hi)];exact An
        have D7:=(Bt _ _ _ _ _ _ _ DX).2 rfl;exact⟨v,Av,ev,⟨h1,sv,Ac,hr.mat b i sv Ac _ _ _ _ _ _ _ hi DX Aw,λ_ _ _ _ _ _ _ _=>⟨Ej _,λ_=>D7⟩⟩,G0 hb hw hr Bf AO.tail ht hp⟩
      ·cases hp
    ·cases hp
 |.tptrh b ks o::l,cs,vs,y,AO,h,hp=>by
  cases cs with
  |nil=>simp[Bx]at hp
  |cons c cs=>
   cases c<;>simp only[Bx]at hp<;>try(cases hp;done)
   rename_i b' ver p ix o';split at hp
   ·rename_i i hi
    cases hc:(Nat.beq i b'&&Nat.beq o o')with
    |false=>rw[hc]at hp;cases hp
    |true=>
     rw[hc,Ar]at hp;obtain⟨h1,h2⟩:=andB hc;have h1:=Az h1;have h2:=Az h2;subst h1 h2;split at hp
     ·rename_i t e ver' B9 l' An
      cases Cw:Nat.beq ver (tv ver' B9 p)with
      |false=>rw[Cw]at hp;cases hp
      |true=>
       have:=Az Cw;subst this;rw[Cw,Ar]at hp;split at hp
       ·rename_i x hx
        split at hp
        ·rename_i y' hy
         simp only[Ag]at hp;subst hp;obtain⟨w1,w2⟩:=mK hx;obtain⟨v,Av,ev,⟨sv,Ac,ad,Aw,Abc,Bt⟩,ht⟩:=h;have DX:E.bl i=some (.tree t e ver' B9 none l'):=by rw[<-Bf i (Dg hi)];exact An
         refine⟨v,Av,ev,⟨sv,Ac,ad,hr.tree b i sv Ac _ _ _ _ _ hi DX Aw,Abc,λt2 e2 IJ RZ RJ l2 Aj=>?_⟩,G0 hb hw hr Bf AO.tail ht hy⟩;have:=hr.treeB b i _ _ _ _ _ _ _ _ _ _ _ hi DX Aj;injection this with q1 q2 q3 q4 q5 q6;subst q1 q2 q3 q4 q5;simp only[IN]at q6;subst q6;rw[w1,w2];exact⟨Ej _,λ_ _=>(Bt _ _ _ _ _ _ DX).2 rfl λ_ h=>by cases h⟩
        ·cases hp
       ·cases hp
     ·cases hp
   ·cases hp
 |.trowh b::l,[],vs,y,AO,h,hp=>by simp[Bx]at hp
 |.trowh b::l,.nils::cs,vs,y,AO,h,hp=>by
  simp only[Bx]at hp;split at hp
  ·rename_i i hi
   split at hp
   ·rename_i hn
    obtain⟨v,Av,e,hv,ht⟩:=h;simp only[CRep]at hv;subst hv;have Ex:E.bl i=none:=by rw[<-Bf i (Dg hi)];exact hn
    exact⟨_,Av,e,⟨rfl,_,_,hr.nil b i hi Ex,λ_ _ _ _ _ _ _=>⟨Ej _,λ_ _=>⟨_,rfl,rfl⟩⟩⟩,G0 hb hw hr Bf AO.tail ht hp⟩
   ·cases hp
  ·cases hp
 |.trowh b::l,.trow b' ver []::cs,vs,y,AO,h,hp=>by
  simp only[Bx]at hp;split at hp
  ·rename_i i hi
   cases hc:Nat.beq i b' with
   |false=>rw[hc]at hp;cases hp
   |true=>
    have:=Az hc;subst this;simp only[hc,Ar]at hp;split at hp
    ·rename_i t e ver' B9 l' An
     cases Cw:Nat.beq ver ver' with
     |false=>rw[Cw]at hp;cases hp
     |true=>
      have:=Az Cw;subst this;simp only[Cw,Ar]at hp;obtain⟨v,Av,ev,⟨h1,sv,Ac,Aw,Bt⟩,ht⟩:=h;have DX:E.bl i=some (.tree t e ver B9 none l'):=by rw[<-Bf i (Dg hi)];exact An
      obtain⟨n,q1,q2⟩:=(Bt _ _ _ _ _ _ DX).2 rfl (λq h=>by cases h);have g1:=hr.tree b i sv Ac _ _ _ _ _ hi DX Aw;exact⟨v,Av,ev,⟨h1,sv,Ac,g1,λ_ _ _ _ _ _ _=>⟨Ej _,λ_ _=>⟨_,rfl,q2⟩⟩⟩,G0 hb hw hr Bf AO.tail ht hp⟩
    ·cases hp
  ·cases hp
 |.trowh b::l,.trow b' ver (_::_)::cs,vs,y,AO,h,hp=>by simp[Bx]at hp
 |.trowh b::l,.bool _::cs,vs,y,AO,h,hp|.trowh b::l,.int _ _::cs,vs,y,AO,h,hp|.trowh b::l,.str _::cs,vs,y,AO,h,hp|.trowh b::l,.err _::cs,vs,y,AO,h,hp
 |.trowh b::l,.list _ _::cs,vs,y,AO,h,hp|.trowh b::l,.nilc::cs,vs,y,AO,h,hp|.trowh b::l,.lsome _ _::cs,vs,y,AO,h,hp|.trowh b::l,.nilp::cs,vs,y,AO,h,hp
 |.trowh b::l,.ptr _ _::cs,vs,y,AO,h,hp|.trowh b::l,.row _ _::cs,vs,y,AO,h,hp|.trowh b::l,.fn _ _::cs,vs,y,AO,h,hp|.trowh b::l,.nilfn::cs,vs,y,AO,h,hp|.trowh b::l,.bfn _ _::cs,vs,y,AO,h,hp|.trowh b::l,.tptr _ _ _ _ _::cs,vs,y,AO,h,hp
 |.trowh b::l,.mapv _::cs,vs,y,AO,h,hp|.trowh b::l,.mat _ _::cs,vs,y,AO,h,hp|.trowh b::l,.mrow _ _ _::cs,vs,y,AO,h,hp|.trowh b::l,.sub _ _ _ _::cs,vs,y,AO,h,hp
 |.trowh b::l,.bself _::cs,vs,y,AO,h,hp|.trowh b::l,.junk::cs,vs,y,AO,h,hp=>by simp[Bx]at hp
 |.nilc::l,cs,vs,y,AO,h,hp=>by
  cases cs with
  |nil=>simp[Bx]at hp
  |cons c cs=>cases c<;>simp[Bx]at hp
 |.lsome _::l,cs,vs,y,AO,h,hp=>by
  cases cs with
  |nil=>simp[Bx]at hp
  |cons c cs=>cases c<;>simp[Bx]at hp
 |.nils::l,cs,vs,y,AO,h,hp=>by
  cases cs with
  |nil=>simp[Bx]at hp
  |cons c cs=>
   cases c<;>simp only[Bx]at hp<;>first|(cases hp;done)|skip
   obtain⟨v,Av,e,hv,ht⟩:=h;exact⟨v,Av,e,hv,G0 hb hw hr Bf AO.tail ht hp⟩
 |.junk::l,cs,vs,y,AO,h,hp=>by
  cases cs with
  |nil=>simp[Bx]at hp
  |cons c cs=>simp only[Bx]at hp;obtain⟨v,Av,e,hv,ht⟩:=h;exact⟨v,Av,e,CRep.oneCell hv,G0 hb hw hr Bf AO.tail ht hp⟩
def VReps(E:Env):List V->List Value->Prop
 |[],us=>us=[]
 |v::vs,us=>∃u CL,us=u::CL/\VRep E v u/\VReps E vs CL
theorem Ad0{v:V}{vs:List V}{cs:List C}(h:v.cells=some cs):CG (v::vs)=CA cs++CG vs:=by simp[CG,h]
theorem mL{E E':Env}{blp:Nat->Option Blk}{ids Bu:List Nat}(hb:Ek E)(hw:E'.w=E.w)(hr:Ren E E' ids Bu)(Bf:∀i∈ids,blp i=E.bl i):∀{l:List (Bool×List CT)}{vs:List V}{us:List Value}{y:ST.dens l},Rows E blp E'.ok (CG vs)->VReps E vs us->Hg blp ids l vs=some y->TReps E' (mkS Bu l y) us
 |[],vs,us,y,AO,h,hp=>by
  cases vs with
  |nil=>exact h
  |cons v vs=>simp[Hg]at hp
 |t::l,vs,us,y,AO,h,hp=>by
  cases vs with
  |nil=>simp[Hg]at hp
  |cons v vs=>
   obtain⟨u,CL,e,hv,ht⟩:=h;obtain⟨agg,ct⟩:=t;cases agg with
   |false=>
    cases v<;>simp only[Hg]at hp<;>try(cases hp;done)
    rename_i x;split at hp
    ·cases hp
    ·rename_i y1 h1
     split at hp
     ·cases hp
     ·rename_i z h2
      simp only[Ag]at hp;subst hp;have FP:CG (V.c x::vs)=CA [x]++CG vs:=Ad0 rfl;refine⟨u,CL,e,⟨[u],?_,by simp⟩,mL hb hw hr Bf (AO.sub λb DB=>by rw[FP];exact DJ _ DB) ht h2⟩;exact G0 hb hw hr Bf (AO.sub λb DB=>by rw[FP];exact D0 _ DB) (show CReps E [x] [u]from⟨u,[],rfl,hv,rfl⟩) h1
   |true=>
    cases v<;>simp only[Hg]at hp<;>try(cases hp;done)
    rename_i cs;split at hp
    ·cases hp
    ·rename_i y1 h1
     split at hp
     ·cases hp
     ·rename_i z h2
      simp only[Ag]at hp;subst hp;have FP:CG (V.agg cs::vs)=CA cs++CG vs:=Ad0 rfl;obtain⟨xs,Af,hu⟩:=hv;refine⟨u,CL,e,⟨xs,?_,hu⟩,mL hb hw hr Bf (AO.sub λb DB=>by rw[FP];exact DJ _ DB) ht h2⟩;exact G0 hb hw hr Bf (AO.sub λb DB=>by rw[FP];exact D0 _ DB) Af h1
theorem Ad1{E E':Env}{blp:Nat->Option Blk}{ids Bu:List Nat}(hb:Ek E)(hw:E'.w=E.w)(hr:Ren E E' ids Bu)(Bf:∀i∈ids,blp i=E.bl i):∀{l:List BT}{is:List Nat}{y:BT.dens l},Rows E blp E'.ok (J3 blp is)->(∀i∈is,i∈ids)->Gz blp ids l is=some y->is.length=l.length/\∀(j i:Nat),is[j]?=some i->∃g B,E.pl i=some (.cells g)/\(mkB Bu l y)[j]?=some B/\BRep E' B (.cells g)/\B.live=true
 |[],is,y,AO,CV,hp=>by
  cases is with
  |nil=>exact⟨rfl,λj i h=>by simp at h⟩
  |cons i is=>simp[Gz]at hp
 |.row t e::r,is,y,AO,CV,hp=>by cases is<;>simp[Gz]at hp
 |.map t k v vg::r,is,y,AO,CV,hp=>by cases is<;>simp[Gz]at hp
 |.mat t et e::r,is,y,AO,CV,hp=>by cases is<;>simp[Gz]at hp
 |.tree t e::r,is,y,AO,CV,hp=>by cases is<;>simp[Gz]at hp
 |.fmap t l::r,is,y,AO,CV,hp=>by cases is<;>simp[Gz]at hp
 |.cells t l::r,is,y,AO,CV,hp=>by
  cases is with
  |nil=>simp[Gz]at hp
  |cons i is=>
   simp only[Gz]at hp;split at hp
   ·rename_i t' cs An
    cases ht:Nat.beq t t' with
    |false=>rw[ht]at hp;cases hp
    |true=>
     have:=Az ht;subst this;simp only[ht,Ar]at hp;split at hp
     ·cases hp
     ·rename_i y1 h1
      split at hp
      ·cases hp
      ·rename_i z h2
       simp only[Ag]at hp;subst hp;have FP:J3 blp (i::is)=CA cs++J3 blp is:=by simp[J3,An]
       obtain⟨hl,DZ⟩:=Ad1 hb hw hr Bf (AO.sub λb DB=>by rw[FP];exact DJ _ DB) (λj hj=>CV j (BY _ hj)) h2;refine⟨by simp[hl],λj k hj=>?_⟩;cases j with
       |zero=>
        simp only[DI,Ag]at hj;subst hj;have DX:E.bl i=some (.cells t cs):=by rw[<-Bf i (CV i (by simp))];exact An
        obtain⟨p,Di,hB⟩:=hb i _ DX;cases p with
        |row _ _=>exact hB.elim
        |cells g=>obtain⟨vs,hh,Df⟩:=hB;refine⟨g,_,Di,rfl,⟨vs,by rw[hw];exact hh,?_⟩,rfl⟩;exact G0 hb hw hr Bf (AO.sub λb DB=>by rw[FP];exact D0 _ DB) Df h1
       |succ j=>obtain⟨g,B,h3,h4,h5,h6⟩:=DZ j k (by simpa using hj);exact⟨g,B,h3,by simpa [mkB]using h4,h5,h6⟩
   ·cases hp
theorem G3{ids:List Nat}:∀{l:List BT}{y:BT.dens l},(mkB ids l y).length=l.length
 |[],_=>rfl
 |.cells _ _::r,y=>by simp[mkB,G3 (l:=r)]
 |.row _ _::r,y=>by simp[mkB,G3 (l:=r)]
 |.map _ _ _ _::r,y=>by simp[mkB,G3 (l:=r)]
 |.mat _ _ _::r,y=>by simp[mkB,G3 (l:=r)]
 |.tree _ _::r,y=>by simp[mkB,G3 (l:=r)]
 |.fmap _ _::r,y=>by simp[mkB,G3 (l:=r)]
end Go.Lift
