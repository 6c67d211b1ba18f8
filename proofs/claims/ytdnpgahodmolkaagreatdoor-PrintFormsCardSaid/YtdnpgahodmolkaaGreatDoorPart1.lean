/- Part1: LiftF, LiftG, LiftH, LiftI, LiftJ, LiftJm, LiftJn, LiftJq, LiftJt. -/
import Derived.ChangeKeysEq
import Derived.WideLaws
import Derived.Laws.Pointers
import Derived.MapKept
import Derived.Maps.AppendAt
import Derived.Lib.Strings
import Derived.Laws.CopyRow
import Derived.Laws.BytesArg
import Derived.Test.YtdnpgahodmolkaaGreatDoorPart0
set_option linter.unusedVariables false
set_option linter.unusedSectionVars false
set_option linter.unusedSimpArgs false
namespace Go.Lift
open Go.RowKit
theorem Om{P:Program}{t:TypeId}{ti:TI}{i:TypeInfo}{d:TypeDesc}{z:Value}(f:TFacts P t ti i d z)(w:World):(isAgg t).run P w=.ok ti.agg w:=by rw[f.agg];unfold isAgg Ep;rw[Sem.run_bind,run_underlying f.under w,f.under];cases d<;>simp
theorem run_sizeOf{P:Program}{t:TypeId}{ti:TI}{i:TypeInfo}{d:TypeDesc}{z:Value}(f:TFacts P t ti i d z)(w:World):(sizeOf t).run P w=.ok ti.size w:=by rw[f.size];simp[sizeOf,typeInfo,f.info]
theorem Jg{P:Program}{t:TypeId}{ti:TI}{i:TypeInfo}{d:TypeDesc}{z:Value}(f:TFacts P t ti i d z){w:World}{ad:Addr}{us:List Value}(hl:us.length=ti.size)(h1:ti.agg=true\/ti.size=1)(hc:∀j u,us[j]?=some u->w.cell? (ad.add j)=some u){E:Env}{cs:List C}(hr:CReps E cs us):∃val,(loadVar t ad).run P w=.ok val w/\VRep E (V.mk ti.agg cs) val:=by
 unfold loadVar;cases ha:ti.agg with
 |true=>refine⟨.agg us.toArray,?_,us,hr,by simp⟩;have hload:=run_loadCells_list (P:=P) w ad us hc;simp[Om f,ha,run_sizeOf f,<-hl,hload]
 |false=>
  have hs:us.length=1:=by
   rcases h1 with h1|h1
   ·rw[ha]at h1;cases h1
   ·omega
  match us,hs with
  |[u],_=>
   refine⟨u,?_,VRep.mk ⟨[u],hr,by simp⟩⟩;have h0:=hc 0 u rfl;have hadd:ad.add 0=ad:=by simp[Addr.add]
   rw[hadd]at h0;simp[Om f,ha,h0]
theorem On{w:World}{g o:Nat}{vs:List Value}{t:TypeId}{fr:Nat×Nat}(hg:w.heap[g]?=some (.cells vs.toArray t fr)){n j:Nat}{u:Value}(h:((vs.drop o).take n)[j]?=some u):w.cell? ((⟨g,o,none⟩:Addr).add j)=some u:=by
 rw[Addr.add_lit,cell_of_row w g (o+j) _ t fr hg];rw[GP]at h;split at h
 ·simpa using h
 ·cases h
theorem Zw{P:Program}{t:TypeId}{ti:TI}{i:TypeInfo}{d:TypeDesc}{z:Value}(f:TFacts P t ti i d z)(h1':ti.agg=true\/ti.size=1){E:Env}{base:Nat}{t0:TypeId}{e:Ty}{l:List e.den}{sv:Value}{xs:List Value}(hd:DList (λx u=>DRep E.w E.ok e x u) l xs)(hown:E.w.ownsRow base t0 e.size sv l.length xs){ix off g n c:Nat}(hi:ix<l.length)(hsv:sv=.slice (some ⟨g,0,none⟩) n c){rc:List C}(hsub:sub (cells e (l.getD ix e.dflt)) off ti.size=some rc):∃val,(loadVar t ⟨g,ix*e.size+off,none⟩).run P E.w=.ok val E.w/\VRep E (V.mk ti.agg rc) val:=by
 obtain⟨u,p1,q1,hxs1,hp1,hde⟩:=DList.get e.dflt hd hi;have hcs:=D9 (E:=E) hde;obtain⟨s1,s2,s3⟩:=HN hcs hsub
 have hcell:∀j v,((u.drop off).take ti.size)[j]?=some v->E.w.cell? ((⟨g,ix*e.size+off,none⟩:Addr).add j)=some v:=by
  intro j v hj;rw[GP]at hj;split at hj
  ·have h2:xs[ix*e.size+off+j]?=some v:=by rw[H7]at hj;have hlt:off+j<u.length:=(BI.1 hj).1;rw[hxs1,Cu (by omega),Db (by omega)];rw[<-hj];congr 1;omega
   have h3:=hown.cells (g:=g) (by rw[hsv];rfl) _ _ h2;rw[Addr.add_lit]at h3⊢;rw[BW]at h3;exact h3
  ·cases hj
 exact Jg f s2 h1' hcell s1
theorem uQ{P:Program}{t:TypeId}{ti:TI}{i:TypeInfo}{d:TypeDesc}{z:Value}(f:TFacts P t ti i d z)(h1':ti.agg=true\/ti.size=1){E:Env}(hb:BX E){t0:TypeId}{e:OT}{b ver iver ix off:Nat}{l:List e.ty.den}{p:Path}(hbl:E.bl b=some (.tree t0 e ver iver none l)){v:Value}(hv:VRep E (.c (.tptr b (tv ver iver p) p ix off)) v){n:Cg}(hn:Ej (.r t0 e) l 0 p=some n){rc:List C}(hsub:sub (IP b (ver+iver) p ix 0 n.1.2 (n.2.getD ix n.1.2.ty.dflt)) off ti.size=some rc):∃ad val,v=.pointer (some ad)/\(loadVar t ad).run P E.w=.ok val E.w/\VRep E (V.mk ti.agg rc) val:=by
 obtain⟨sv,svs,n',s,g,m,c,hpl,hT,hn',hs,hi,hsv,rfl⟩:=Zr hb hbl hv;have:=Gk hn';rw[hn]at this;injection this with this;subst this;obtain⟨u,pre,post,hown,hp1,hcs⟩:=uP hb hbl hpl hT hn' hs hi;obtain⟨s1,s2,s3⟩:=HN hcs hsub
 have hcell:∀j v,((u.drop off).take ti.size)[j]?=some v->E.w.cell? ((⟨g,ix*n.1.2.ty.size+off,none⟩:Addr).add j)=some v:=by
  intro j v hj;rw[GP]at hj;split at hj
  ·have h2:(pre++(u++post))[ix*n.1.2.ty.size+off+j]?=some v:=by rw[H7]at hj;have hlt:off+j<u.length:=(BI.1 hj).1;rw[Cu (by omega),Db (by omega)];rw[<-hj];congr 1;omega
   have h3:=hown.cells (g:=g) (by rw[hsv];rfl) _ _ h2;rw[Addr.add_lit]at h3⊢;rw[BW]at h3;exact h3
  ·cases hj
 obtain⟨val,v1,v2⟩:=Jg f s2 h1' hcell s1;exact⟨_,val,rfl,v1,v2⟩
section
variable{P:Program}{o:Oper}{ρ:Operand->V}{bl:Nat->Option Blk}{β:Type}{r:β}
theorem Ta{T:TypeId->Option TI}(hT:TOk P T){kk:K β}{t:TypeId}{x:Operand}(ho:o.op=.load t x)(hk:K0 T bl t (ρ x) kk=some r):Sound P o ρ bl kk r:=by
 unfold K0 at hk;split at hk
 ·cases hk
 rename_i ti ht;obtain⟨i,d,z,f⟩:=hT.facts ht;cases h1:(ti.agg||Nat.beq ti.size 1)with
 |false=>rw[h1]at hk;cases hk
 |true=>
  have h1':ti.agg=true\/ti.size=1:=by
   rcases(GR _ _).mp h1 with h|h
   ·exact .inl h
   ·exact .inr (Ag h)
  simp only[h1,Af]at hk
  have hrun:∀(a:Act)(w:World)(ad:Addr)(val:Value),a.eval x=.pointer (some ad)->(loadVar t ad).run P w=.ok val w->(execOp a.eval o).run P w=.ok (.value val) w:=by intro a w ad val ha hv;simp[execOp,ho,ha,Instr.loadAt,Instr.sureAddr,hv]
  split at hk
  ·
   rename_i b off hx;split at hk
   ·rename_i t0 cs hb
    split at hk
    ·rename_i rc hsub
     refine Sound.pure hk λbl2 hb2 ok0 base pl w a hr hxs=>?_;have hb':bl2 b=some (.cells t0 cs):=(hb2 b (by simp)).trans hb;have hv:=hxs x (by simp[ho,Op.operands]);rw[hx]at hv;obtain⟨g,hg,hav⟩:=hv;obtain⟨p,hp,hB⟩:=hr.blks b _ hb';have:p=.cells g:=by have h2:pl b=some (.cells g):=hg;rw[hp]at h2;injection h2
     subst this;obtain⟨vs,hh,hcs⟩:=hB;obtain⟨s1,s2,s3⟩:=HN hcs hsub;obtain⟨val,hv1,hv2⟩:=Jg f s2 h1' (λj u hj=>On hh hj) s1;exact⟨val,hrun a w _ val hav hv1,hv2⟩
    ·cases hk
   ·cases hk
  ·
   rename_i b ver ix off hx;split at hk
   ·rename_i t0 e ver' l hb
    cases hver:Nat.beq ver ver' with
    |false=>rw[hver]at hk;cases hk
    |true=>
     have:=Ag hver;subst this;simp only[hver,Af]at hk;split at hk
     ·rename_i rc hsub
      refine Sound.pure hk λbl2 hb2 ok0 base pl w a hr hxs=>?_;have hb':bl2 b=some (.row t0 e ver l):=(hb2 b (by simp)).trans hb;have hv:=hxs x (by simp[ho,Op.operands]);rw[hx]at hv;obtain⟨sv,svs,ad,hg,hav,hcur⟩:=hv;obtain⟨hi,g,n,c,hsv,rfl⟩:=(hcur t0 e ver l hb').2 rfl;obtain⟨p,hp,hB⟩:=hr.blks b _ hb';have:p=.row sv svs:=by have h2:pl b=some (.row sv svs):=hg;rw[hp]at h2;injection h2
      subst this;obtain⟨_,xs,hd,hown⟩:=hB;obtain⟨val,hv1,hv2⟩:=Zw f h1' hd hown hi hsv hsub;exact⟨val,hrun a w _ val hav hv1,hv2⟩
     ·cases hk
   ·cases hk
  ·
   rename_i e x0 off hx;split at hk
   ·rename_i rc hsub
    refine Sound.pure hk λbl2 hb2 ok0 base pl w a hr hxs=>?_;have hv:=hxs x (by simp[ho,Op.operands]);rw[hx]at hv;obtain⟨xs,ad,hd,hav,hc⟩:=hv;have hcs:=D9 (E:=Ae ok0 base pl bl2 w) hd;obtain⟨s1,s2,s3⟩:=HN hcs hsub
    obtain⟨val,hv1,hv2⟩:=Jg f s2 h1' (λj u hj=>(hc j u (by
     rw[GP]at hj;split at hj
     ·exact hj
     ·cases hj)).2) s1
    exact⟨val,hrun a w _ val hav hv1,hv2⟩
   ·cases hk
  ·
   rename_i b ver ix hx;split at hk
   ·rename_i t0 et0 e0 ver' iver l hb
    cases hc:(Nat.beq ver ver'&&!ti.agg)with
    |false=>rw[hc]at hk;cases hk
    |true=>
     simp only[hc,Af]at hk;obtain⟨hver,hag⟩:=andB hc;have:=Ag hver;subst this;have hag:ti.agg=false:=by simpa using hag
     refine Sound.pure hk λbl2 hb2 ok0 base pl w a hr hxs=>?_;have hb':bl2 b=some (.mat t0 et0 e0 ver iver none l):=(hb2 b (by simp)).trans hb;have hv:=hxs x (by simp[ho,Op.operands]);rw[hx]at hv;obtain⟨sv,svs,ad,hg,hav,hcur⟩:=hv;obtain⟨hi,g,n,c,hsv,rfl⟩:=(hcur _ _ _ _ _ _ _ hb').2 rfl;obtain⟨p,hp,hB⟩:=hr.blks b _ hb';have:p=.row sv svs:=by have h2:pl b=some (.row sv svs):=hg;rw[hp]at h2;injection h2
     subst this;have hM:MatOk _ t0 et0 e0 none l sv svs:=hB;obtain⟨vs,hown,hvs⟩:=hM.outer;have hi2:ix<svs.length:=by rw[hM.len];exact hi
     obtain⟨s,hs⟩:∃s,svs[ix]?=some (some s):=by
      have h2:svs[ix]?=some svs[ix]:=Bx hi2;cases hq:svs[ix]with
      |some s=>exact⟨s,by rw[h2,hq]⟩
      |none=>rw[hq]at h2;exact absurd (hM.hole ix h2) (by simp)
     have hcell:=hown.cells (g:=g) (by rw[hsv];rfl) _ _ (hvs ix s hs);obtain⟨xs,_,hso⟩:=hM.inner ix s l[ix] hs (Bx hi)
     have h1s:s.oneCell'=true:=by rcases hso.2 with⟨rfl,_⟩|⟨g,cap,cur,rfl,_⟩<;>rfl
     have hrep:CRep (Ae ok0 base pl bl2 w) (.mrow b iver ix) s:=⟨h1s,sv,svs,hp,λt et e ver' iver' hole l' h=>by have h:bl2 b=_:=h;rw[hb']at h;injection h with h;injection h with h2 h3 h4 h5 h6 h7 h8;subst h2 h3 h4 h5 h6 h7;simp only[Dl]at h8;subst h8;exact⟨Ao _,λ_=>⟨hi,hs⟩⟩⟩
     have hsz:ti.size=1:=by
      rcases h1' with h|h
      ·rw[hag]at h;cases h
      ·exact h
     obtain⟨val,hv1,hv2⟩:=Jg f (us:=[s]) (by rw[hsz];rfl) h1' (ad:=⟨g,ix,none⟩) (λj u hj=>by
      cases j with
      |zero=>simp only[BJ,Ac]at hj;subst hj;rw[Addr.add_lit]at hcell⊢;simpa using hcell
      |succ j=>simp at hj) (E:=Ae ok0 base pl bl2 w) (cs:=[.mrow b iver ix]) ⟨s,[],rfl,hrep,rfl⟩
     rw[hag]at hv2;exact⟨val,hrun a w _ val hav hv1,hv2⟩
   ·cases hk
  ·
   rename_i b iver ix jx off hx;split at hk
   ·rename_i t0 et0 e ver iver' hole l hb
    cases hver:Nat.beq iver iver' with
    |false=>rw[hver]at hk;cases hk
    |true=>
     have:=Ag hver;subst this;simp only[hver,Af]at hk;split at hk
     ·rename_i rc hsub
      refine Sound.pure hk λbl2 hb2 ok0 base pl w a hr hxs=>?_;have hb':bl2 b=some (.mat t0 et0 e ver iver hole l):=(hb2 b (by simp)).trans hb;have hv:=hxs x (by simp[ho,Op.operands]);rw[hx]at hv;obtain⟨sv,svs,ad,hg,hav,hcur⟩:=hv;obtain⟨s,xr,hlx,hs,hj,g,n,c,hsv,rfl⟩:=(hcur _ _ _ _ _ _ _ hb').2 rfl;obtain⟨p,hp,hB⟩:=hr.blks b _ hb';have:p=.row sv svs:=by have h2:pl b=some (.row sv svs):=hg;rw[hp]at h2;injection h2
      subst this;have hM:MatOk _ t0 et0 e hole l sv svs:=hB;obtain⟨xs,hd,hown⟩:=hM.inner ix s xr hs hlx;have hgd:l.getD ix []=xr:=by simp[List.getD,hlx]
      rw[hgd]at hsub;obtain⟨val,hv1,hv2⟩:=Zw f h1' hd hown hj hsv hsub;exact⟨val,hrun a w _ val hav hv1,hv2⟩
     ·cases hk
   ·cases hk
  ·
   rename_i b ver p ix off hx;split at hk
   ·rename_i q hq
    split at hk
    ·rename_i rc hsub
     obtain⟨hb,hver,hn⟩:=Ol hq;subst hver;refine Sound.pure hk λbl2 hb2 ok0 base pl w a hr hxs=>?_;have hb':=(hb2 b (by simp)).trans hb;have hv:=hxs x (by simp[ho,Op.operands]);rw[hx]at hv;obtain⟨ad,val,hav,hv1,hv2⟩:=uQ f h1' (E:=Ae ok0 base pl bl2 w) hr.blksOk hb' hv hn hsub;exact⟨val,hrun a w _ val hav hv1,hv2⟩
    ·cases hk
   ·cases hk
  ·cases hk
theorem Tb(w:World)(g:Nat)(cs:Array Value):w.grownBy (w.setRow g cs) (some g):=
 ⟨rfl,rfl,rfl,by simp,λk _ hk=>setRow_other w g k _ (λe=>hk (by rw[e]))⟩
theorem Zx{P:Program}{t:TypeId}{ti:TI}{i:TypeInfo}{d:TypeDesc}{z:Value}(f:TFacts P t ti i d z){w:World}{g off:Nat}{v:Value}{vs:List Value}{t0:TypeId}(hh:w.heap[g]?=some (.cells vs.toArray t0 (0,0)))(hl:v.cells.toList.length=ti.size)(hle:off+v.cells.toList.length<=vs.length)(h1:∀u∈v.cells.toList,u.oneCell'=true):(storeVar t ⟨g,off,none⟩ v).run P w=.ok () (w.setRow g (vs.take off++v.cells.toList++vs.drop (off+v.cells.toList.length)).toArray):=by
 have hst:=run_storeCells_at P g off t0 v.cells.toList 0 vs.toArray w hh (by simpa using hle) h1;have hl':v.cells.size=ti.size:=by simpa using hl
 simp only[storeVar,Sem.run_bind,run_sizeOf f,Result.andThen_ok,hl',ne_eq,NA,Bk];simpa using hst
theorem Tc{P:Program}{t:TypeId}{ti:TI}{i:TypeInfo}{d:TypeDesc}{z:Value}(f:TFacts P t ti i d z){w:World}{base:Nat}{t0:TypeId}{size:Nat}{sv:Value}{m:Nat}{xs:List Value}(hown:w.ownsRow base t0 size sv m xs){g o n c:Nat}(hsv:sv=.slice (some ⟨g,0,none⟩) n c){v:Value}(h1:∀u∈v.cells.toList,u.oneCell'=true)(hl:v.cells.toList.length=ti.size)(hle:o+v.cells.toList.length<=xs.length):∃w',(storeVar t ⟨g,o,none⟩ v).run P w=.ok () w'/\w.grownBy w' (some g)/\w'.ownsRow base t0 size sv m (xs.take o++v.cells.toList++xs.drop (o+v.cells.toList.length)):=by
 obtain⟨hxl,hown2⟩:=hown;rcases hown2 with⟨h0,_⟩|⟨g',cap,cur,hsv',hbase,hh,hnc,hcm,hcs',htake⟩
 ·rw[hsv]at h0;cases h0
 have hh:w.heap[g']?=some (.cells cur t0 (0,0)):=hh
 have hgg:g'=g:=by rw[hsv]at hsv';injection hsv' with e1 e2 e3;injection e1 with e1;injection e1 with e1;exact e1.symm
 subst hgg
 have hcur:cur.toList=xs++cur.toList.drop (m*size):=by rw[<-htake,H4]
 have hle2:o+v.cells.toList.length<=cur.toList.length:=by rw[hcur];simp only[Av];omega
 have hst:=Zx f (v:=v) (vs:=cur.toList) (off:=o) (t0:=t0) (g:=g') (w:=w) (by simpa using hh) hl hle2 h1
 have hnew:cur.toList.take o++v.cells.toList++cur.toList.drop (o+v.cells.toList.length)=xs.take o++v.cells.toList++xs.drop (o+v.cells.toList.length)++cur.toList.drop (m*size):=by
  have e1:cur.toList.take o=xs.take o:=by rw[hcur,H3 (by omega)]
  have e2:cur.toList.drop (o+v.cells.toList.length)=xs.drop (o+v.cells.toList.length)++cur.toList.drop (m*size):=by
   conv=>lhs;rw[hcur]
   rw[Kj hle]
  rw[e1,e2];simp only[AW]
 have hnl:(xs.take o++v.cells.toList++xs.drop (o+v.cells.toList.length)).length=xs.length:=by simp only[Av,E6,Fa];omega
 refine⟨_,hst,Tb w g' _,by rw[hnl];exact hxl,.inr ⟨g',cap,_,hsv',hbase,setRow_heap w g' _ _ t0 _ hh,hnc,hcm,?_,?_⟩⟩
 ·have hcs2:cur.size=cap*size:=hcs'
  have:(cur.toList.take o++v.cells.toList++cur.toList.drop (o+v.cells.toList.length)).length=cur.toList.length:=by simp only[Av,E6,Fa];omega
  rw[NB,this,CQ];exact hcs2
 ·simp only[hnew]
  rw[H3 (by rw[hnl,hxl];exact Ao _),Dz (by rw[hnl,hxl];exact Ao _)]
theorem Zy{P:Program}{t:TypeId}{ti:TI}{i:TypeInfo}{d:TypeDesc}{z:Value}(f:TFacts P t ti i d z){E:Env}(hbo:BX E){base:Nat}{t0:TypeId}{e:Ty}{l:List e.den}{sv:Value}{xs:List Value}(hd:DList (λx u=>DRep E.w E.ok e x u) l xs)(hown:E.w.ownsRow base t0 e.size sv l.length xs){ix off g n c:Nat}(hi:ix<l.length)(hsv:sv=.slice (some ⟨g,0,none⟩) n c){new rc:List C}{v:Value}(hy:CReps E new v.cells.toList)(hlen':new.length=ti.size)(hov:over (cells e (l.getD ix e.dflt)) off new=some rc){x':e.den}(hpk:Fc (λ_=>none) e rc=some x'):∃w' xs',(storeVar t ⟨g,ix*e.size+off,none⟩ v).run P E.w=.ok () w'/\E.w.grownBy w' (some g)/\DList (λx u=>DRep E.w E.ok e x u) (l.set ix x') xs'/\w'.ownsRow base t0 e.size sv l.length xs':=by
 obtain⟨u,p1,q1,hxs1,hp1,hde⟩:=DList.get e.dflt hd hi;have hcs:=D9 (E:=E) hde;obtain⟨s1,s2⟩:=KN hcs hy hov;have hly:=hy.length;have hul:=hde.length;have hx':=HP hbo (Rows.none _ _) s1 hpk;have hx'l:=hx'.length;obtain⟨p2,u2,q2,hxs2,hp2,hu2,hd2⟩:=DList.set x' _ hd hi hx'
 have hpq:p1=p2/\u=u2/\q1=q2:=by rw[hxs1]at hxs2;have h3:=NG hxs2 (by omega);have h4:=NG h3.2 (by omega);exact⟨h3.1,h4.1,h4.2⟩
 obtain⟨rfl,rfl,rfl⟩:=hpq
 have hlx:ix*e.size+off+v.cells.toList.length<=xs.length:=by rw[hxs1];simp only[Av];omega
 obtain⟨w',h1,h2,h3⟩:=Tc f hown (o:=ix*e.size+off) hsv hy.oneCell (by omega) hlx;refine⟨w',_,h1,h2,hd2,?_⟩
 have:p1++(u.take off++v.cells.toList++u.drop (off+v.cells.toList.length)++q1)=xs.take (ix*e.size+off)++v.cells.toList++xs.drop (ix*e.size+off+v.cells.toList.length):=by
  rw[hxs1]
  have e1:(p1++(u++q1)).take (ix*e.size+off)=p1++u.take off:=by rw[Kr,Dz (by omega),H3 (by omega)];congr 2;omega
  have e2:(p1++(u++q1)).drop (ix*e.size+off+v.cells.toList.length)=u.drop (off+v.cells.toList.length)++q1:=by rw[Ks,IH (by omega),Cp,Kj (by omega)];congr 2;omega
  rw[e1,e2];simp only[AW]
 rw[this];exact h3
theorem KQ{T:TypeId->Option TI}(hT:TOk P T){kk:K β}{t:TypeId}{x y:Operand}(ho:o.op=.store t x y)(hk:HJ T bl t (ρ x) (ρ y) kk=some r):Sound P o ρ bl kk r:=by
 unfold HJ at hk;split at hk
 ·rename_i ti new ht hnew
  obtain⟨i,d,z,f⟩:=hT.facts ht;cases hlen:Nat.beq new.length ti.size with
  |false=>rw[hlen]at hk;cases hk
  |true=>
   have hlen':=Ag hlen;simp only[hlen,Af]at hk
   have hrun:∀(a:Act)(w w':World)(ad:Addr),a.eval x=.pointer (some ad)->(storeVar t ad (a.eval y)).run P w=.ok () w'->(execOp a.eval o).run P w=.ok .skip w':=by intro a w w' ad ha hv;simp[execOp,ho,ha,Instr.storeAt,Instr.sureAddr,hv]
   split at hk
   ·rename_i b off hx
    split at hk
    ·rename_i t0 cs hb
     split at hk
     ·rename_i rc hov
      refine⟨_,_,_,hk,λbl2 hb2=>?_⟩;have hb':bl2 b=some (.cells t0 cs):=(hb2 b (by simp)).trans hb;intro ok0 base pl w a hr hxs K Q hK;have hv:=hxs x (by simp[ho,Op.operands]);rw[hx]at hv;obtain⟨g,hg,hav⟩:=hv;obtain⟨p,hp,hB⟩:=hr.blks b _ hb';have:p=.cells g:=by have h2:pl b=some (.cells g):=hg;rw[hp]at h2;injection h2
      subst this;obtain⟨vs,hh,hcs⟩:=hB;have hy:=VRep.cells_of hnew (hxs y (by simp[ho,Op.operands]));obtain⟨s1,s2⟩:=KN hcs hy hov;have hly:=hy.length;have hst:=Zx f (v:=a.eval y) hh (by omega) s2 hy.oneCell;have hgb:=Tb w g (vs.take off++(a.eval y).cells.toList++vs.drop (off+(a.eval y).cells.toList.length)).toArray;have hs:=Step.wrote (cs':=rc) hr hb' hp hgb;refine Gj (hrun a w _ _ hav hst) (hK undef (upd pl b (.cells g)) _ ?_ hs trivial);exact RelB.wrote hr hb' hp hgb ⟨_,setRow_heap w g _ _ t0 _ hh,s1.mono hs.ext⟩
     ·cases hk
    ·cases hk
   ·rename_i b ver ix off hx
    split at hk
    ·rename_i t0 e ver' l hb
     cases hver:Nat.beq ver ver' with
     |false=>rw[hver]at hk;cases hk
     |true=>
      have:=Ag hver;subst this;simp only[hver,Af]at hk;split at hk
      ·rename_i rc hov
       split at hk
       ·rename_i x' hpk
        refine⟨_,_,_,hk,λbl2 hb2=>?_⟩;have hb':bl2 b=some (.row t0 e ver l):=(hb2 b (by simp)).trans hb;intro ok0 base pl w a hr hxs K Q hK;have hv:=hxs x (by simp[ho,Op.operands]);rw[hx]at hv;obtain⟨sv,svs,ad,hg,hav,hcur⟩:=hv;obtain⟨hi,g,n,c,hsv,rfl⟩:=(hcur t0 e ver l hb').2 rfl;obtain⟨p,hp,hB⟩:=hr.blks b _ hb';have:p=.row sv svs:=by have h2:pl b=some (.row sv svs):=hg;rw[hp]at h2;injection h2
        subst this;obtain⟨h0,xs,hd,hown⟩:=hB;subst h0;have hy:=VRep.cells_of hnew (hxs y (by simp[ho,Op.operands]));obtain⟨w',xs',hst,hgb,hd2,hown2⟩:=Zy f (E:=Ae ok0 base pl bl2 w) hr.blksOk hd hown hi hsv hy hlen' hov hpk;have hbl:sv.ownBlock=some g:=by rw[hsv];rfl
        have hgb':w.grownBy w' sv.ownBlock:=by rw[hbl];exact hgb
        have hs:=Step.grown (l':=l.set ix x') hr hb' hp hgb' (.inl rfl) ⟨Ao _,λ_=>⟨rfl,by simp⟩⟩;have hext:=hs.ext (ok0:=ok0) (base:=base);refine Gj (hrun a w _ _ hav hst) (hK undef (upd pl b (.row sv [])) _ ?_ hs trivial);exact RelB.grown hr hb' hp hgb' (.inl rfl) ⟨Ao _,λ_=>⟨rfl,by simp⟩⟩ ⟨rfl,xs',hd2.mono λx u hu=>hu.mono hext.heap,by rw[GQ];exact hown2⟩
       ·cases hk
      ·cases hk
    ·cases hk
   ·
    rename_i b iver ix jx off hx;split at hk
    ·rename_i t0 et0 e ver iver' hole l hb
     cases hver:Nat.beq iver iver' with
     |false=>rw[hver]at hk;cases hk
     |true=>
      have:=Ag hver;subst this;simp only[hver,Af]at hk;split at hk
      ·rename_i rc hov
       split at hk
       ·rename_i x' hpk
        refine⟨_,_,_,hk,λbl2 hb2=>?_⟩;have hb':bl2 b=some (.mat t0 et0 e ver iver hole l):=(hb2 b (by simp)).trans hb;intro ok0 base pl w a hr hxs K Q hK;have hv:=hxs x (by simp[ho,Op.operands]);rw[hx]at hv;obtain⟨sv,svs,ad,hg,hav,hcur⟩:=hv;obtain⟨s,xr,hlx,hs,hj,g,n,c,hsv,rfl⟩:=(hcur _ _ _ _ _ _ _ hb').2 rfl;obtain⟨p,hp,hB⟩:=hr.blks b _ hb';have:p=.row sv svs:=by have h2:pl b=some (.row sv svs):=hg;rw[hp]at h2;injection h2
        subst this;have hM:MatOk _ t0 et0 e hole l sv svs:=hB;obtain⟨xs,hd,hown⟩:=hM.inner ix s xr hs hlx;have hgd:l.getD ix []=xr:=by simp[List.getD,hlx]
        rw[hgd]at hov hK;have hy:=VRep.cells_of hnew (hxs y (by simp[ho,Op.operands]));obtain⟨w',xs',hst,hgb,hd2,hown2⟩:=Zy f (E:=Ae ok0 base pl bl2 w) hr.blksOk hd hown hj hsv hy hlen' hov hpk;have hbl:s.ownBlock=some g:=by rw[hsv];rfl
        have hik:KeepR (some (.mat t0 et0 e ver iver hole l)) (some (.mat t0 et0 e ver iver hole (l.set ix (xr.set jx x')))) sv svs sv svs:=by
         refine KeepR.ofMat ⟨Ao _,λ_=>⟨rfl,by simp⟩⟩ ⟨Ao _,λ_=>⟨rfl,?_⟩⟩;apply Kq;intro k;simp only[C0,List.getElem?_set];split
         ·rename_i hk'
          subst hk';have hlt:=(BI.1 hlx).1;simp[hlt];have:=(BI.1 hlx).2;rw[this]
         ·rfl
        have hog:∀g',some g=some g'->(Pl.row sv svs).has g':=λg' h=>by injection h with h;subst h;exact .inr ⟨ix,s,hs,hbl⟩
        have hst2:=Step.grownP hr hb' rfl hp hgb hog (λg h=>.inl h) hik;have hext:=hst2.ext (ok0:=ok0) (base:=base);refine Gj (hrun a w _ _ hav hst) (hK undef (upd pl b (.row sv svs)) _ ?_ hst2 trivial);refine RelB.grownP hr hb' rfl hp hgb hog (λg h=>.inl h) hik ?_;obtain⟨vs,ho1,ho2⟩:=hM.outer;have hsame:∀g',(Pl.row sv svs).has g'->g'≠g->w'.heap[g']?=w.heap[g']?:=λg' h hne=>hgb.block g' (Own.lt hr ⟨b,_,_,hb',rfl,hp,h⟩) (λh2=>hne (by injection h2));refine⟨⟨vs,?_,ho2⟩,by simp[hM.len],hM.hole,λk s' x'' hks hkx=>?_,hM.sep0,hM.sep⟩
        ·rw[GQ]
         exact E8 (Ao _) (λg' hg'=>hsame g' (.inl hg') λh=>by subst h;exact hM.sep0 ix s g' hs hg' hbl) ho1
        ·by_cases hki:k=ix
         ·subst hki
          have hlt:=(BI.1 hlx).1;rw[hs]at hks;injection hks with hks;injection hks with hks;subst hks;simp only[GM hlt,Ac]at hkx;subst hkx;exact⟨xs',hd2.mono λx u hu=>hu.mono hext.heap,by rw[GQ];exact hown2⟩
         ·rw[Ga (λh=>hki h.symm)]at hkx
          obtain⟨ys,q1,q2⟩:=hM.inner k s' x'' hks hkx;exact⟨ys,q1.mono λx u hu=>hu.mono hext.heap,E8 (Ao _) (λg' hg'=>hsame g' (.inr ⟨k,s',hks,hg'⟩) λh=>by subst h;exact hM.sep k ix s' s g' hki hks hs hg' hbl) q2⟩
       ·cases hk
      ·cases hk
    ·cases hk
   ·
    rename_i b ver ix hx;split at hk
    ·rename_i rr rv hyv
     split at hk
     ·rename_i t0 et0 e ver' iver hole l et1 e1 rv' xr hb hbr
      cases hc:(Nat.beq ver ver'&&(Nat.beq rv rv'&&Nat.beq et0 et1))with
      |false=>rw[hc]at hk;cases hk
      |true=>
       simp only[hc,Af]at hk;obtain⟨c1,c23⟩:=andB hc;obtain⟨c2,c3⟩:=andB c23;have:=Ag c1;subst this;have:=Ag c2;subst this;have:=Ag c3;subst this;split at hk
       ·rename_i he
        subst he;obtain⟨hho,hk⟩:=B8 hk;refine⟨_,_,_,hk,λbl2 hb2=>?_⟩;have hb':bl2 b=some (.mat t0 et0 e1 ver iver hole l):=(hb2 b (by simp)).trans hb;have hbr':bl2 rr=some (.row et0 e1 rv xr):=(hb2 rr (by simp)).trans hbr;intro ok0 base pl w a hr hxs K Q hK;have hrb:rr≠b:=by rintro rfl;rw[hb']at hbr';cases hbr'
        have hv:=hxs x (by simp[ho,Op.operands]);rw[hx]at hv;obtain⟨sv,svs,ad,hg,hav,hcur⟩:=hv;obtain⟨hi,g,n,c,hsv,rfl⟩:=(hcur _ _ _ _ _ _ _ hb').2 rfl;have hvy:=hxs y (by simp[ho,Op.operands]);have hy:=VRep.cells_of hnew hvy;rw[hyv]at hvy;obtain⟨h1y,sr,svr,hpr,hcr⟩:=hvy;have hyr:=(hcr _ _ _ _ hbr').2 rfl;have hpr:pl rr=some (.row sr svr):=hpr;obtain⟨p,hp,hB⟩:=hr.blks b _ hb';have:p=.row sv svs:=by have h2:pl b=some (.row sv svs):=hg;rw[hp]at h2;injection h2
        subst this;obtain⟨pr,hpr',hBr⟩:=hr.blks rr _ hbr';have:pr=.row sr svr:=by rw[hpr]at hpr';injection hpr' with h;exact h.symm
        subst this;obtain⟨h0,xs,hd,hown⟩:=hBr;subst h0;have hM:MatOk _ t0 et0 e1 hole l sv svs:=hB;obtain⟨vs,ho1,ho2⟩:=hM.outer
        have hcy:(a.eval y).cells.toList=[a.eval y]:=by rw[hyr];rcases hown.2 with⟨h,_⟩|⟨g,cap,cur,h,_⟩<;>rw[h]<;>rfl
        have hvl:vs.length=l.length:=by rw[ho1.1,Kv]
        have hly:=hy.length;obtain⟨w',hst,hgb,hown'⟩:=Tc f ho1 (o:=ix) hsv (v:=a.eval y) hy.oneCell (by omega) (by rw[hcy];simp;omega);rw[hcy]at hown'
        have hset:vs.take ix++[a.eval y]++vs.drop (ix+1)=vs.set ix sr:=by rw[hyr,List.set_eq_take_append_cons_drop,if_pos (by omega)];simp
        have hown2:w'.ownsRow base t0 1 sv (l.set ix xr).length (vs.set ix sr):=by have hown':w'.ownsRow base t0 1 sv l.length (vs.take ix++[a.eval y]++vs.drop (ix+[a.eval y].length)):=hown';rw[GQ,<-hset];simpa using hown'
        have hbl:sv.ownBlock=some g:=by rw[hsv];rfl
        have hi2:ix<svs.length:=by rw[hM.len];exact hi
        have hown_b:∀g',(Pl.row sv svs).has g'->AL pl bl2 b g':=λg' h=>⟨_,_,hb',rfl,hp,h⟩;have hown_r:∀g',sr.ownBlock=some g'->AL pl bl2 rr g':=λg' h=>⟨_,_,hbr',rfl,hpr,.inl h⟩;have hsepr:∀g',sr.ownBlock=some g'->¬(Pl.row sv svs).has g':=λg' h h2=>hr.sep rr b _ _ _ _ g' hrb hbr' hb' rfl rfl hpr hp (.inl h) h2
        have hsvs:∀(k:Nat)(s:Value),(svs.set ix (some sr))[k]?=some (some s)->(k=ix/\s=sr)\/(k≠ix/\svs[k]?=some (some s)):=λk s h=>by
         by_cases hki:k=ix
         ·subst hki
          rw[GM hi2]at h;injection h with h;injection h with h;exact .inl ⟨rfl,h.symm⟩
         ·rw[Ga (λh=>hki h.symm)]at h
          exact .inr ⟨hki,h⟩
        have hnewhas:∀g',(Pl.row sv (svs.set ix (some sr))).has g'->AL pl bl2 rr g'\/AL pl bl2 b g'\/w.heap.size<=g':=λg' h=>by
         rcases h with h|⟨k,s,hks,h⟩
         ·exact .inr (.inl (hown_b g' (.inl h)))
         ·rcases hsvs k s hks with⟨_,rfl⟩|⟨_,hks⟩
          ·exact .inl (hown_r g' h)
          ·exact .inr (.inl (hown_b g' (.inr ⟨k,s,hks,h⟩)))
        have hog:∀g',some g=some g'->AL pl bl2 rr g'\/AL pl bl2 b g':=λg' h=>by injection h with h;subst h;exact .inr (hown_b _ (.inl hbl))
        have hstep:Step pl bl2 w (upd (upd pl rr (.row sr [])) b (.row sv (svs.set ix (some sr)))) (upd (upd bl2 rr .dead) b (.mat t0 et0 e1 ver (iver+1) none (l.set ix xr))) w':=by
         refine Step.two hr hrb hgb hog (λg' h=>by cases h) (λg' _ h=>hnewhas g' h) (λg' h=>by rw[hpr]at h;cases h) (λg' h=>by rw[hp]at h;cases h) (λsv0 svs0 h=>?_) (λsv0 svs0 h=>?_)
         ·rw[hpr]at h
          injection h with h;injection h with h h2;subst h h2;exact⟨_,_,rfl,KeepR.ofDead⟩
         ·rw[hp]at h
          injection h with h;injection h with h h2;subst h h2;refine⟨_,_,rfl,?_⟩;rw[hb'];exact KeepR.ofMat ⟨Ao _,λ_=>⟨rfl,by simp⟩⟩ ⟨by omega,λh=>by omega⟩
        have hext:=hstep.ext (ok0:=ok0) (base:=base);refine Gj (hrun a w _ _ hav hst) (hK undef (upd (upd pl rr (.row sr [])) b (.row sv (svs.set ix (some sr)))) _ ?_ hstep trivial);have hsame:∀g',g'≠g->g'<w.heap.size->w'.heap[g']?=w.heap[g']?:=λg' hne hlt=>hgb.block g' hlt (λh2=>hne (by injection h2));refine RelB.two hr hrb hgb hog (λg' h=>by cases h) (λg' _ h=>hnewhas g' h) (λg' h=>by cases h) hstep trivial ?_;refine⟨⟨vs.set ix sr,hown2,λk s hks=>?_⟩,by simp[hM.len],λk hk=>?_,λk s xx hks hkx=>?_,λk s g' hks h=>?_,λk j s s' g' hkj hks hjs h=>?_⟩
        ·rcases hsvs k s hks with⟨rfl,rfl⟩|⟨hki,hks⟩
         ·rw[GM (by omega)]
         ·rw[Ga (λh=>hki h.symm)]
          exact ho2 k s hks
        ·exfalso
         by_cases hki:k=ix
         ·subst hki
          rw[GM hi2]at hk;injection hk with hk;cases hk
         ·rw[Ga (λh=>hki h.symm)]at hk
          have hh:=hM.hole k hk;subst hh;have:ix=k:=Az hho;exact hki this.symm
        ·rcases hsvs k s hks with⟨rfl,rfl⟩|⟨hki,hks⟩
         ·rw[GM hi]at hkx
          injection hkx with hkx;subst hkx;refine⟨xs,hd.mono λx u hu=>hu.mono hext.heap,E8 (Ao _) (λg' hg'=>?_) hown⟩;refine hsame g' (λh=>?_) (Own.lt hr ⟨rr,_,_,hbr',rfl,hpr,.inl hg'⟩);subst h;exact hsepr _ hg' (.inl hbl)
         ·rw[Ga (λh=>hki h.symm)]at hkx
          obtain⟨ys,q1,q2⟩:=hM.inner k s xx hks hkx;refine⟨ys,q1.mono λx u hu=>hu.mono hext.heap,E8 (Ao _) (λg' hg'=>?_) q2⟩;refine hsame g' (λh=>?_) (Own.lt hr ⟨b,_,_,hb',rfl,hp,.inr ⟨k,s,hks,hg'⟩⟩);subst h;exact hM.sep0 k s _ hks hbl hg'
        ·rcases hsvs k s hks with⟨rfl,rfl⟩|⟨hki,hks⟩
         ·exact λh2=>hsepr g' h2 (.inl h)
         ·exact hM.sep0 k s g' hks h
        ·rcases hsvs k s hks with⟨e1,e2⟩|⟨hki,hks1⟩
         ·rcases hsvs j s' hjs with⟨e3,e4⟩|⟨hji,hjs1⟩
          ·exact absurd (e1.trans e3.symm) hkj
          ·exact λh2=>hsepr g' (by rw[<-e2];exact h) (.inr ⟨j,s',hjs1,h2⟩)
         ·rcases hsvs j s' hjs with⟨e3,e4⟩|⟨hji,hjs1⟩
          ·exact λh2=>hsepr g' (by rw[<-e4];exact h2) (.inr ⟨k,s,hks1,h⟩)
          ·exact hM.sep k j s s' g' hkj hks1 hjs1 h
       ·cases hk
     ·cases hk
    ·cases hk
   ·
    rename_i b ver p ix off hx;split at hk
    ·rename_i t0 e ver' iver l hb
     cases hver:Nat.beq ver (tv ver' iver p)with
     |false=>rw[hver]at hk;cases hk
     |true=>
      have:=Ag hver;subst this;simp only[hver,Af]at hk;split at hk
      ·rename_i n hn
       split at hk
       ·rename_i x' hset
        refine⟨_,_,_,hk,λbl2 hb2=>?_⟩;have hb':bl2 b=some (.tree t0 e ver' iver none l):=(hb2 b (by simp)).trans hb;intro ok0 base pl w a hr hxs K Q hK;have hv:=hxs x (by simp[ho,Op.operands]);rw[hx]at hv;obtain⟨sv,svs,n',s,g,m,c,hpl,hT,hn',hs,hi,hsv,hav⟩:=Zr (E:=Ae ok0 base pl bl2 w) hr.blksOk hb' hv;have:=Gk hn';rw[hn]at this;injection this with this;subst this;have hp:pl b=some (.row sv svs):=hpl;have hy:=VRep.cells_of hnew (hxs y (by simp[ho,Op.operands]));have hly:=hy.length;obtain⟨xs,hown,hle,hfin⟩:=hT.leaf hr.blksOk hn' hs hi hsv hy hset;have hsame:=Same.write hn' hi hset;obtain⟨w',hst,hgb,hown2⟩:=Tc f hown (o:=ix*n.1.2.ty.size+off) hsv hy.oneCell (by omega) hle;have hbl:s.ownBlock=some g:=by rw[hsv];rfl
        have hog:∀g',some g=some g'->(Pl.row sv svs).has g':=λg' h=>by
         injection h with h;subst h;rcases AH.1 (B6 hs)with h1|h1
         ·injection h1 with h1;exact .inl (h1▸hbl)
         ·obtain⟨j,hj⟩:=II.1 h1;exact .inr ⟨j,s,hj,hbl⟩
        have hik:KeepR (some (.tree t0 e ver' iver none l)) (some (.tree t0 e ver' iver none (setD (.r t0 e) l 0 p n.1.2 (n.2.set ix x')))) sv svs sv svs:=
         KeepR.ofTree ⟨Ao _,Ao _,λ_=>⟨rfl,KeepT.same hsame sv svs⟩⟩
        have hst2:=Step.grownP hr hb' rfl hp hgb hog (λg h=>.inl h) hik;have hext:=hst2.ext (ok0:=ok0) (base:=base);refine Gj (hrun a w _ _ hav hst) (hK undef (upd pl b (.row sv svs)) _ ?_ hst2 trivial);exact RelB.grownP hr hb' rfl hp hgb hog (λg h=>.inl h) hik (hfin _ hext rfl (λg' h hne=>hgb.block g' (Own.lt hr ⟨b,_,_,hb',rfl,hp,h⟩) (λh2=>hne (by injection h2))) hown2)
       ·cases hk
      ·cases hk
    ·
     rename_i t0 e ver' iver PP l hb;cases hver:Nat.beq ver (tv ver' iver p)with
     |false=>rw[hver]at hk;cases hk
     |true=>
      have:=Ag hver;subst this;simp only[hver,Af]at hk;split at hk
      ·rename_i n rr m hn hroot
       split at hk
       ·rename_i hty
        obtain⟨hpath,hk⟩:=B8 hk;have:=Zv hpath;subst this;refine⟨_,_,_,hk,λbl2 hb2=>?_⟩;have hb':bl2 b=some (.tree t0 e ver' iver (some (p++[(ix,off)])) l):=(hb2 b (by simp)).trans hb;intro ok0 base pl w a hr hxs K Q hK;have hv:=hxs x (by simp[ho,Op.operands]);rw[hx]at hv;obtain⟨sv,svs,ad,hg,hav,hcur⟩:=hv
        obtain⟨n0,s,hn0,hs,hi,g,m0,c,hsv,rfl⟩:=(hcur _ _ _ _ _ _ hb').2 rfl (λq hq hpre=>by injection hq with hq;subst hq;have:=hpre.length_le;simp only[Av,CO]at this;omega)
        obtain⟨q,hp,hB⟩:=hr.blks b _ hb';have:q=.row sv svs:=by have h2:pl b=some (.row sv svs):=hg;rw[hp]at h2;injection h2
        subst this;have hvy:=hxs y (by simp[ho,Op.operands]);obtain⟨svr,Fr,Br,hbr,hlr,hnh,hpr,hu,hpl1,hpw⟩:=SZ (E:=Ae ok0 base pl bl2 w) hr.blksOk hroot (hb2 rr (by simp)) hvy;have hbr:bl2 rr=some Br:=hbr;have hpr:pl rr=some (.row (a.eval y) svr):=hpr;have hlive:Br.live=true:=by cases Br<;>first|rfl|exact absurd rfl hlr
        have hrb:rr≠b:=by rintro rfl;rw[hb']at hbr;injection hbr with hbr;exact hnh _ _ _ _ _ _ hbr.symm
        have hown_b:∀g',(Pl.row sv svs).has g'->AL pl bl2 b g':=λg' h=>⟨_,_,hb',rfl,hp,h⟩;have hown_r:∀s'∈a.eval y::Fr,∀g',s'.ownBlock=some g'->AL pl bl2 rr g':=λs' hs' g' h=>⟨_,_,hbr,hlive,hpr,HQ hpl1 hs' h⟩;have hsep:∀s'∈a.eval y::Fr,∀g',s'.ownBlock=some g'->¬(Pl.row sv svs).has g':=λs' hs' g' h h2=>hr.sep rr b _ _ _ _ g' hrb hbr hb' hlive rfl hpr hp (HQ hpl1 hs' h) h2;have hno:∀g',(Pl.row sv svs).has g'->¬(Ae ok0 base pl bl2 w).ok g':=λg' h h2=>h2.2 ⟨b,_,_,hb',rfl,hp,h⟩;obtain⟨⟨old,hcell⟩,hfr,svs',hhas,hfin⟩:=TreeOk.put (E:=Ae ok0 base pl bl2 w) hB hn0 hs hi hsv hno hn hty hu hpw hsep;have hu1:(a.eval y).oneCell'=true:=(hu (a.eval y)).oneCell _ (by simp)
        have hcy:(a.eval y).cells=#[a.eval y]:=by obtain⟨_,_,_,z1,_,z3,_⟩:=hu (a.eval y);have z1:=(F4 z1).1;rw[z1];rcases z3.2 with⟨h,_⟩|⟨g,cap,cur,h,_⟩<;>rw[h]<;>rfl
        have hst:(storeVar t ⟨g,ix*n0.1.2.ty.size+off,none⟩ (a.eval y)).run P w=.ok () (w.setCell ⟨g,ix*n0.1.2.ty.size+off,none⟩ (a.eval y)):=by
         have hcl:new.length=1:=by have:=(VRep.cells_of hnew hvy).length;rw[hcy]at this;simpa using this.symm
         have hcell:w.cell? ⟨g,ix*n0.1.2.ty.size+off,none⟩=some old:=hcell;have hfr:w.frozen? ⟨g,ix*n0.1.2.ty.size+off,none⟩=false:=hfr;have hsz:(a.eval y).cells.size=ti.size:=by rw[hcy];simp;omega
         simp only[storeVar,Sem.run_bind,run_sizeOf f,Result.andThen_ok,hsz,ne_eq,NA,Bk];rw[hcy];have hadd:(⟨g,ix*n0.1.2.ty.size+off,none⟩:Addr).add 0=⟨g,ix*n0.1.2.ty.size+off,none⟩:=by simp[Addr.add]
         simp only[storeCells,Sem.run_bind,hadd,run_store P w _ _ _ hu1,hcell,hfr,DO,Bk,Result.andThen_ok];rfl
        have hbl:s.ownBlock=some g:=by rw[hsv];rfl
        have hhs:(Pl.row sv svs).has g:=by
         rcases AH.1 (B6 hs)with h1|h1
         ·injection h1 with h1;exact .inl (h1▸hbl)
         ·obtain⟨j,hj⟩:=II.1 h1;exact .inr ⟨j,s,hj,hbl⟩
        have hgb:w.grownBy (w.setCell ⟨g,ix*n0.1.2.ty.size+off,none⟩ (a.eval y)) (some g):=
         ⟨rfl,rfl,rfl,by simp[World.setCell],λk _ hk=>heap_setCell_other w _ k _ (λe=>hk (by rw[e]))⟩
        have hfin:=λ(E':Env)(h1:E'.w=w.setCell ⟨g,ix*n0.1.2.ty.size+off,none⟩ (a.eval y))=>hfin E' h1;generalize w.setCell ⟨g,ix*n0.1.2.ty.size+off,none⟩ (a.eval y)=w' at*
        have hnewhas:∀g',(Pl.row sv svs').has g'->AL pl bl2 rr g'\/AL pl bl2 b g'\/w.heap.size<=g':=λg' h=>by
         rcases hhas g' h with h|⟨s',hs',h⟩
         ·exact .inr (.inl (hown_b g' h))
         ·exact .inl (hown_r s' hs' g' h)
        have hog:∀g',some g=some g'->AL pl bl2 rr g'\/AL pl bl2 b g':=λg' h=>by injection h with h;subst h;exact .inr (hown_b _ hhs)
        have hstep:Step pl bl2 w (upd (upd pl rr (.row (a.eval y) [])) b (.row sv svs')) (upd (upd bl2 rr .dead) b (.tree t0 e ver' (iver+1) none (setD (.r t0 e) l 0 (p++[(ix,off)]) m.1.2 m.2))) w':=by
         refine Step.two hr hrb hgb hog (λg' h=>by cases h) (λg' _ h=>hnewhas g' h) (λg' h=>by rw[hpr]at h;cases h) (λg' h=>by rw[hp]at h;cases h) (λsv0 svs0 h=>?_) (λsv0 svs0 h=>?_)
         ·rw[hpr]at h
          injection h with h;injection h with h h2;subst h h2;exact⟨_,_,rfl,KeepR.ofDead⟩
         ·rw[hp]at h
          injection h with h;injection h with h h2;subst h h2;refine⟨_,_,rfl,?_⟩;rw[hb'];refine KeepR.ofTree ⟨Ao _,by omega,λ_=>⟨rfl,λq hq ho=>?_⟩⟩;rcases hq with rfl|hq
          ·refine⟨λQ hQ hpre=>?_,λn2 hn2=>?_⟩
           ·injection hQ with hQ
            subst hQ;have:=List.prefix_nil.1 hpre;simp at this
           ·simp only[AM,Ac]at hn2
            subst hn2;refine⟨⟨(t0,e),setD (.r t0 e) l 0 (p++[(ix,off)]) m.1.2 m.2⟩,rfl,rfl,?_,λs hs=>hs⟩;cases p<;>simp[setD]
          ·omega
        have hext:=hstep.ext (ok0:=ok0) (base:=base);refine Gj (hrun a w _ _ hav hst) (hK undef (upd (upd pl rr (.row (a.eval y) [])) b (.row sv svs')) _ ?_ hstep trivial);refine RelB.two hr hrb hgb hog (λg' h=>by cases h) (λg' _ h=>hnewhas g' h) (λg' h=>by cases h) hstep trivial (hfin _ rfl rfl λg' h hlt=>(hext.heap g' h hlt).1)
       ·cases hk
      ·cases hk
    ·cases hk
   ·cases hk
 ·cases hk
end
end Go.Lift
namespace Go.Lift
open Go.RowKit
theorem BL{a b:Nat}(h:Nat.blt a b=true):a<b:=by have:=D6 h;omega
section
variable{P:Program}{o:Oper}{ρ:Operand->V}{bl:Nat->Option Blk}{β:Type}{r:β}
theorem Td{β:Type}{i:Int}{kk:Nat->Option β}{r:β}:∀{m j:Nat},IR i kk j m=some r->∃q,j<=q/\i=(q:Int)/\kk q=some r/\q<j+m
 |0,j,h=>by simp[IR]at h
 |m+1,j,h=>by
  simp only[IR]at h;cases hd:decide (i=(j:Int))with
  |true=>rw[hd]at h;exact⟨j,Ao _,Az hd,h,by omega⟩
  |false=>rw[hd]at h;obtain⟨q,h1,h2,h3,h4⟩:=Td (m:=m) h;exact⟨q,by omega,h2,h3,by omega⟩
theorem Gl{x:V}{k:IntKind}{n:Int}(h:ival x=some (k,n)):x=.c (.int k n):=by
 unfold ival at h;split at h
 ·simp only[Ac,AN]at h
  rw[h.1,h.2]
 ·cases h
theorem Zz{t:TypeId}{ti:TI}{i:TypeInfo}{d:TypeDesc}{z:Value}(f:TFacts P t ti i d z){k off n:Nat}{g:Bool}(h:ti.flds[k]?=some (off,n,g)):∃fs fd j e,d=.struct fs/\fs[k]?=some fd/\fd.offset=off/\P.info? fd.type=some j/\j.size=n/\P.underlying fd.type=some e/\Ep P fd.type=g:=by
 rw[f.flds]at h;unfold Oa at h;split at h
 ·rename_i fs
  rw[C0]at h;cases hk:fs.toList[k]? with
  |none=>rw[hk]at h;cases h
  |some fd=>rw[hk]at h;simp only[Cl,Ac,AN]at h;have hmem:fd∈fs.toList:=B6 hk;have hkn:=f.known;simp only[Je,C1]at hkn;have h1:=hkn fd hmem;simp only[Bv,Sc]at h1;obtain⟨⟨j,hj⟩,⟨e,he⟩⟩:=h1;refine⟨fs,fd,j,e,rfl,by simpa using hk,h.1,hj,?_,he,h.2.2⟩;rw[<-h.2.1];simp[Program.cellsOf,hj]
 ·simp at h
theorem uR{fd:Field}{j:TypeInfo}(hj:P.info? fd.type=some j)(hs:j.size≠0)(a:Addr)(w:World):(fieldPlace a fd).run P w=.ok (a.add fd.offset) w:=by simp[fieldPlace,sizeOf,typeInfo,hj,hs]
theorem uS{T:TypeId->Option TI}(hT:TOk P T){kk:K β}{t:TypeId}{x:Operand}{fi:Nat}(ho:o.op=.fieldAddr t x fi)(hk:Su T t (ρ x) fi kk=some r):Sound P o ρ bl kk r:=by
 unfold Su at hk;split at hk
 ·cases hk
 rename_i ti ht;obtain⟨i,d,z,f⟩:=hT.facts ht;split at hk
 ·cases hk
 rename_i off n g hf;obtain⟨fs,fd,j,e,rfl,hfd,rfl,hj,hjn,he,hg⟩:=Zz f hf;cases hn:Nat.beq n 0 with
 |true=>rw[hn]at hk;cases hk
 |false=>
  simp only[hn,AT]at hk;have hs:j.size≠0:=by rw[hjn];rintro rfl;cases hn
  have hrun:∀(a:Act)(w:World)(ad:Addr),a.eval x=.pointer (some ad)->(execOp a.eval o).run P w=.ok (.value (.pointer (some (ad.add fd.offset)))) w:=by intro a w ad ha;simp[execOp,ho,ha,Instr.fieldAt,run_underlying f.under,hfd,Instr.sureAddr,uR hj hs]
  split at hk
  ·rename_i b of hx
   refine Sound.pure hk λbl2 _ ok0 base pl w a hr hxs=>?_;have hv:=hxs x (by simp[ho,Op.operands]);rw[hx]at hv;obtain⟨g',hg',hav⟩:=hv;refine⟨_,hrun a w _ hav,g',hg',?_⟩;rw[Addr.add_lit]
  ·rename_i b ver ix of hx
   refine Sound.pure hk λbl2 _ ok0 base pl w a hr hxs=>?_;have hv:=hxs x (by simp[ho,Op.operands]);rw[hx]at hv;obtain⟨sv,svs,ad,hg',hav,hcur⟩:=hv;refine⟨_,hrun a w _ hav,sv,svs,_,hg',rfl,λt1 e1 ver1 l1 hb1=>?_⟩;obtain⟨h1,h2⟩:=hcur t1 e1 ver1 l1 hb1;refine⟨h1,λhe=>?_⟩;obtain⟨h3,g',n',c',h4,rfl⟩:=h2 he;exact⟨h3,g',n',c',h4,by rw[Addr.add_lit,HA]⟩
  ·rename_i e' x0 of hx
   refine Sound.pure hk λbl2 _ ok0 base pl w a hr hxs=>?_;have hv:=hxs x (by simp[ho,Op.operands]);rw[hx]at hv;obtain⟨xs,ad,hd,hav,hc⟩:=hv;refine⟨_,hrun a w _ hav,xs,_,hd,rfl,λj' u hj'=>?_⟩;rw[Ge,GX]
   have h2:(xs.drop of)[fd.offset+j']?=some u:=by rw[H7]at hj'⊢;rw[<-hj'];congr 1;omega
   obtain⟨h3,h4⟩:=hc _ u h2;exact⟨h3,h4⟩
  ·rename_i b iver ix jx of hx
   refine Sound.pure hk λbl2 _ ok0 base pl w a hr hxs=>?_;have hv:=hxs x (by simp[ho,Op.operands]);rw[hx]at hv;obtain⟨sv,svs,ad,hg',hav,hcur⟩:=hv;refine⟨_,hrun a w _ hav,sv,svs,_,hg',rfl,λt1 et1 e1 ver1 iver1 hole1 l1 hb1=>?_⟩;obtain⟨h1,h2⟩:=hcur t1 et1 e1 ver1 iver1 hole1 l1 hb1;refine⟨h1,λhe=>?_⟩;obtain⟨s,xr,h3,h4,h5,g',n',c',h6,rfl⟩:=h2 he;exact⟨s,xr,h3,h4,h5,g',n',c',h6,by rw[Addr.add_lit,HA]⟩
  ·rename_i b ver p ix of hx
   refine Sound.pure hk λbl2 _ ok0 base pl w a hr hxs=>?_;have hv:=hxs x (by simp[ho,Op.operands]);rw[hx]at hv;obtain⟨sv,svs,ad,hg',hav,hcur⟩:=hv;refine⟨_,hrun a w _ hav,sv,svs,_,hg',rfl,λt1 e1 ver1 iver1 h1 l1 hb1=>?_⟩;obtain⟨h1,h2⟩:=hcur t1 e1 ver1 iver1 h1 l1 hb1;refine⟨h1,λhe ho=>?_⟩;obtain⟨n',s,h3,h4,h5,g',m',c',h6,rfl⟩:=h2 he ho;exact⟨n',s,h3,h4,h5,g',m',c',h6,by rw[Addr.add_lit,HA]⟩
  ·cases hk
theorem HR{t:TypeId}{ti:TI}{i:TypeInfo}{d:TypeDesc}{z:Value}(f:TFacts P t ti i d z){e:TypeId}{te:TI}{i':TypeInfo}{d':TypeDesc}{z':Value}(fe:TFacts P e te i' d' z')(hd:d=.slice e){k:IntKind}{ix:Int}{ad:Addr}{n c:Nat}(h0:0<=ix)(h1:ix<(n:Int))(w:World):(Instr.indexAt t (.slice (some ad) n c) (.int k ix)).run P w=.ok (.pointer (some (ad.add (ix.toNat*te.size)))) w:=by
 subst hd;have h:=f.under;simp[Instr.indexAt,asIntOf,run_underlying f.under,h0,h1,run_sizeOf fe]
theorem CC{t:TypeId}{ti:TI}{i:TypeInfo}{d:TypeDesc}{z:Value}(f:TFacts P t ti i d z){e:TypeId}(h:ti.elem=some e)(hl:ti.len=none):d=.slice e:=by rw[f.elem]at h;rw[f.alen]at hl;cases d<;>simp_all [Ob,lenD]
theorem Te{t:TypeId}{ti:TI}{i:TypeInfo}{d:TypeDesc}{z:Value}(f:TFacts P t ti i d z){e:TypeId}{n:Nat}(h:ti.elem=some e)(hl:ti.len=some n):d=.array n e:=by rw[f.elem]at h;rw[f.alen]at hl;cases d<;>simp_all [Ob,lenD]
theorem uT{w:World}{ok:Nat->Prop}{e:Ty}{l:List e.den}{v:Value}(h:DRep w ok (.slice e) l [v]){i:Nat}(hi:i<l.length)(hs:0<e.size):∃ad c u,v=.slice (some ad) l.length c/\DRep w ok e (l.getD i e.dflt) u/\∀j x,u[j]?=some x->ok ad.block/\w.cell? (ad.add (i*e.size+j))=some x:=by
 simp only[DRep]at h;obtain⟨A,c,xs,hv,hle,hcm,hd,hx⟩:=h;obtain⟨u,p,q,hxs,hp,hu⟩:=DList.get e.dflt hd hi;have hul:=hu.length;have hpos:0<u.length:=by omega
 have h0:xs[i*e.size]?=some u[0]:=by rw[hxs,Cu (by omega),Db (by omega)];simp[hp]
 obtain⟨ad,rfl,_,_⟩:=hx _ _ h0;simp only[BB,Cm]at hv;refine⟨ad,c,u,hv,hu,λj x hj=>?_⟩;have hjl:j<u.length:=(BI.1 hj).1
 have h1:xs[i*e.size+j]?=some x:=by rw[hxs,Cu (by omega),Db (by omega),<-hj];congr 1;omega
 obtain⟨ad',ha,ho,hc⟩:=hx _ _ h1;injection ha with ha;subst ha;exact⟨ho,hc⟩
theorem uU{T:TypeId->Option TI}(hT:TOk P T){kk:K β}{t:TypeId}{x y:Operand}(ho:o.op=.indexAddr t x y)(hk:Sv T bl t (ρ x) (ρ y) kk=some r):Sound P o ρ bl kk r:=by
 unfold Sv at hk;split at hk
 ·cases hk
 rename_i k ix hix;have hy:=Gl hix
 have hyv:∀(a:Act)(E:Env),VRep E (ρ y) (a.eval y)->a.eval y=.int k ix:=by intro a E h;rw[hy]at h;exact h
 have hrun:∀(a:Act)(w:World),execOp a.eval o=(do pure (.value (<-Instr.indexAt t (a.eval x) (a.eval y)))):=by intro a w;simp[execOp,ho]
 split at hk
 ·cases hk
 rename_i ti ht;obtain⟨i,d,z,f⟩:=hT.facts ht;split at hk
 ·
  rename_i et hel hal;have hd:=CC f hel hal;split at hk
  ·cases hk
  rename_i te hte;obtain⟨i',d',z',fe⟩:=hT.facts hte;split at hk
  ·rename_i e l hx
   cases hs:(Nat.beq e.size te.size&&Nat.blt 0 te.size)with
   |false=>rw[hs]at hk;cases hk
   |true=>
    obtain⟨hs1,hs2⟩:=andB hs;have hs1':=Ag hs1;have hs2':0<te.size:=BL hs2;simp only[hs,Af]at hk;obtain⟨hc,hk⟩:=B8 hk;obtain⟨hc1,hc2⟩:=andB hc;have hc1:=Az hc1;have hc2:=Az hc2;refine Sound.pure hk λbl2 _ ok0 base pl w a hr hxs=>?_;have hv:=hxs x (by simp[ho,Op.operands]);have hyv':=hyv a _ (hxs y (by simp[ho,Op.operands]));rw[hx]at hv;obtain⟨ad,c,u,hav,hu,hcell⟩:=uT hv (i:=ix.toNat) (by omega) (by omega);refine⟨.pointer (some (ad.add (ix.toNat*te.size))),?_,u,_,hu,rfl,λj x hj=>?_⟩
    ·rw[hrun a w,hyv',hav]
     simp[HR f fe hd hc1 hc2]
    ·rw[Ge,GX,<-hs1']
     exact hcell j x (by simpa using hj)
  ·rename_i b ver hx
   split at hk
   ·rename_i t0 e ver' l hb
    cases hs:(Nat.beq ver ver'&&(Nat.beq e.size te.size&&Nat.blt 0 te.size))with
    |false=>rw[hs]at hk;cases hk
    |true=>
     obtain⟨hver,hs12⟩:=andB hs;obtain⟨hs1,hs2⟩:=andB hs12;have hs1':=Ag hs1;have hs2':0<te.size:=BL hs2;have:=Ag hver;subst this;simp only[hs,Af]at hk;obtain⟨hc,hk⟩:=B8 hk;obtain⟨hc1,hc2⟩:=andB hc;have hc1:=Az hc1;have hc2:=Az hc2;refine Sound.pure hk λbl2 hb2 ok0 base pl w a hr hxs=>?_;have hb':bl2 b=some (.row t0 e ver l):=(hb2 b (by simp)).trans hb;have hv:=hxs x (by simp[ho,Op.operands]);have hyv':=hyv a _ (hxs y (by simp[ho,Op.operands]));rw[hx]at hv;obtain⟨_,sv,svs,hg,hcur⟩:=hv;have hav:=(hcur t0 e ver l hb').2 rfl;obtain⟨p,hp,hB⟩:=hr.blks b _ hb';have:p=.row sv svs:=by have h2:pl b=some (.row sv svs):=hg;rw[hp]at h2;injection h2
     subst this;obtain⟨h0,xs,hd',hown⟩:=hB;rcases hown.2 with⟨hsv,hn⟩|⟨g,cap,cur,hsv,_⟩
     ·omega
     ·refine⟨.pointer (some ((⟨g,0,none⟩:Addr).add (ix.toNat*te.size))),?_,sv,svs,_,hg,rfl,λt1 e1 ver1 l1 hb1=>?_⟩
      ·rw[hrun a w,hyv',hav,hsv]
       simp[HR f fe hd hc1 hc2]
      ·obtain⟨h1,h2⟩:=hcur t1 e1 ver1 l1 hb1
       refine⟨h1,λhe=>?_⟩;have hb1':bl2 b=some (.row t1 e1 ver1 l1):=hb1;rw[hb']at hb1';injection hb1' with hb1';injection hb1' with q1 q2 q3 q4;subst q2;simp only[Dl]at q4;subst q4;refine⟨by omega,g,_,_,hsv,?_⟩;rw[Addr.add_lit,hs1'];simp
   ·cases hk
  ·
   rename_i b ver lo hi hx;split at hk
   ·rename_i t0 e ver' l hb
    cases hs:(Nat.beq ver ver'&&(Nat.beq e.size te.size&&Nat.blt 0 te.size))with
    |false=>rw[hs]at hk;cases hk
    |true=>
     obtain⟨hver,hs12⟩:=andB hs;obtain⟨hs1,hs2⟩:=andB hs12;have hs1':=Ag hs1;have hs2':0<te.size:=BL hs2;have:=Ag hver;subst this;simp only[hs,Af]at hk;obtain⟨hc,hk⟩:=B8 hk;obtain⟨hc1,hc2⟩:=andB hc;have hc1:=Az hc1;have hc2:=Az hc2;refine Sound.pure hk λbl2 hb2 ok0 base pl w a hr hxs=>?_;have hb':bl2 b=some (.row t0 e ver l):=(hb2 b (by simp)).trans hb;have hv:=hxs x (by simp[ho,Op.operands]);have hyv':=hyv a _ (hxs y (by simp[ho,Op.operands]));rw[hx]at hv;obtain⟨_,sv,svs,hg,hcur⟩:=hv;obtain⟨q1,q2,A,A',n,c,hsv,hav,hA,_⟩:=(hcur t0 e ver l hb').2 rfl;obtain⟨p,hp,hB⟩:=hr.blks b _ hb';have:p=.row sv svs:=by have h2:pl b=some (.row sv svs):=hg;rw[hp]at h2;injection h2
     subst this;obtain⟨h0,xs,hd',hown⟩:=hB;have hlt:lo<hi:=by omega
     have hA:=hA hlt;rcases hown.2 with⟨hsv2,hn⟩|⟨g,cap,cur,hsv2,_⟩
     ·omega
     ·have hAg:A=some ⟨g,0,none⟩:=by rw[hsv]at hsv2;injection hsv2
      subst hAg;have hA:A'=some ((⟨g,0,none⟩:Addr).add (lo*e.size)):=hA;subst hA;refine⟨.pointer (some (((⟨g,0,none⟩:Addr).add (lo*e.size)).add (ix.toNat*te.size))),?_,sv,svs,_,hg,rfl,λt1 e1 ver1 l1 hb1=>?_⟩
      ·rw[hrun a w,hyv',hav]
       simp[HR f fe hd hc1 hc2]
      ·obtain⟨h1,_⟩:=hcur t1 e1 ver1 l1 hb1
       refine⟨h1,λhe=>?_⟩;have hb1':bl2 b=some (.row t1 e1 ver1 l1):=hb1;rw[hb']at hb1';injection hb1' with hb1';injection hb1' with q1 q2 q3 q4;subst q2;simp only[Dl]at q4;subst q4;refine⟨by omega,g,_,_,hsv,?_⟩;rw[GX,Addr.add_lit,<-hs1',E7];simp
   ·cases hk
  ·
   rename_i b ver hx;split at hk
   ·rename_i t0 et0 e0 ver' iver hole l hb
    cases hs:(Nat.beq ver ver'&&Nat.beq 1 te.size)with
    |false=>rw[hs]at hk;cases hk
    |true=>
     obtain⟨hver,hs1⟩:=andB hs;have hs1':=Ag hs1;have:=Ag hver;subst this;simp only[hs,Af]at hk;obtain⟨hc,hk⟩:=B8 hk;obtain⟨hc1,hc2⟩:=andB hc;have hc1:=Az hc1;have hc2:=Az hc2;refine Sound.pure hk λbl2 hb2 ok0 base pl w a hr hxs=>?_;have hb':bl2 b=some (.mat t0 et0 e0 ver iver hole l):=(hb2 b (by simp)).trans hb;have hv:=hxs x (by simp[ho,Op.operands]);have hyv':=hyv a _ (hxs y (by simp[ho,Op.operands]));rw[hx]at hv;obtain⟨_,sv,svs,hg,hcur⟩:=hv;have hav:=(hcur _ _ _ _ _ _ _ hb').2 rfl;obtain⟨p,hp,hB⟩:=hr.blks b _ hb';have:p=.row sv svs:=by have h2:pl b=some (.row sv svs):=hg;rw[hp]at h2;injection h2
     subst this;have hM:MatOk _ t0 et0 e0 hole l sv svs:=hB;obtain⟨vs,hown,_⟩:=hM.outer;rcases hown.2 with⟨hsv,hn⟩|⟨g,cap,cur,hsv,_⟩
     ·omega
     ·refine⟨.pointer (some ((⟨g,0,none⟩:Addr).add (ix.toNat*te.size))),?_,sv,svs,_,hg,rfl,λt1 et1 e1 ver1 iver1 hole1 l1 hb1=>?_⟩
      ·rw[hrun a w,hyv',hav,hsv]
       simp[HR f fe hd hc1 hc2]
      ·obtain⟨h1,h2⟩:=hcur t1 et1 e1 ver1 iver1 hole1 l1 hb1
       refine⟨h1,λhe=>?_⟩;have hb1':bl2 b=some (.mat t1 et1 e1 ver1 iver1 hole1 l1):=hb1;rw[hb']at hb1';injection hb1' with hb1';injection hb1' with q1 q2 q3 q4 q5 q6 q7;subst q3;simp only[Dl]at q7;subst q7;refine⟨by omega,g,_,_,hsv,?_⟩;rw[Addr.add_lit,<-hs1'];simp
   ·cases hk
  ·
   rename_i b iver ri hx;split at hk
   ·rename_i t0 et0 e ver iver' hole l hb
    cases hs:(Nat.beq iver iver'&&(Nat.beq e.size te.size&&Nat.blt 0 te.size))with
    |false=>rw[hs]at hk;cases hk
    |true=>
     obtain⟨hver,hs12⟩:=andB hs;obtain⟨hs1,hs2⟩:=andB hs12;have hs1':=Ag hs1;have hs2':0<te.size:=BL hs2;have:=Ag hver;subst this;simp only[hs,Af]at hk;obtain⟨hc,hk⟩:=B8 hk;obtain⟨hc1,hc2⟩:=andB hc;have hc1:=Az hc1;have hc2:=Az hc2;refine Sound.pure hk λbl2 hb2 ok0 base pl w a hr hxs=>?_;have hb':bl2 b=some (.mat t0 et0 e ver iver hole l):=(hb2 b (by simp)).trans hb;have hv:=hxs x (by simp[ho,Op.operands]);have hyv':=hyv a _ (hxs y (by simp[ho,Op.operands]));rw[hx]at hv;obtain⟨_,sv,svs,hg,hcur⟩:=hv;obtain⟨hri,hss⟩:=(hcur _ _ _ _ _ _ _ hb').2 rfl;obtain⟨p,hp,hB⟩:=hr.blks b _ hb';have:p=.row sv svs:=by have h2:pl b=some (.row sv svs):=hg;rw[hp]at h2;injection h2
     subst this;have hM:MatOk _ t0 et0 e hole l sv svs:=hB;obtain⟨xs,hd',hown⟩:=hM.inner ri (a.eval x) l[ri] hss (Bx hri);have hgd:l.getD ri []=l[ri]:=by simp[List.getD,hri]
     rw[hgd]at hc2;rcases hown.2 with⟨hsv,hn⟩|⟨g,cap,cur,hsv,_⟩
     ·omega
     ·refine⟨.pointer (some ((⟨g,0,none⟩:Addr).add (ix.toNat*te.size))),?_,sv,svs,_,hg,rfl,λt1 et1 e1 ver1 iver1 hole1 l1 hb1=>?_⟩
      ·rw[hrun a w,hyv',hsv]
       simp[HR f fe hd hc1 hc2]
      ·obtain⟨h1,h2⟩:=hcur t1 et1 e1 ver1 iver1 hole1 l1 hb1
       refine⟨h1,λhe=>?_⟩;have hb1':bl2 b=some (.mat t1 et1 e1 ver1 iver1 hole1 l1):=hb1;rw[hb']at hb1';injection hb1' with hb1';injection hb1' with q1 q2 q3 q4 q5 q6 q7;subst q3;simp only[Dl]at q7;subst q7;refine⟨a.eval x,l[ri],Bx hri,hss,by omega,g,_,_,hsv,?_⟩;rw[Addr.add_lit,hs1'];simp
   ·cases hk
  ·
   rename_i b ver p hx;split at hk
   ·rename_i q hq
    obtain⟨hb,hver,hn⟩:=Ol hq;subst hver;cases hs:(Nat.beq q.2.2.2.2.1.2.ty.size te.size&&Nat.blt 0 te.size)with
    |false=>rw[hs]at hk;cases hk
    |true=>
     obtain⟨hs1,hs2⟩:=andB hs;have hs1':=Ag hs1;have hs2':0<te.size:=BL hs2;simp only[hs,Af]at hk;obtain⟨hc,hk⟩:=B8 hk;obtain⟨hc1,hc2⟩:=andB hc;have hc1:=Az hc1;have hc2:=Az hc2;refine Sound.pure hk λbl2 hb2 ok0 base pl w a hr hxs=>?_;have hb':=(hb2 b (by simp)).trans hb;have hv:=hxs x (by simp[ho,Op.operands]);have hyv':=hyv a _ (hxs y (by simp[ho,Op.operands]));rw[hx]at hv;obtain⟨sv,svs,n',hpl,hT',hn',hss⟩:=SW (E:=Ae ok0 base pl bl2 w) hr.blksOk hb' hv;have:=Gk hn';rw[hn]at this;injection this with this;subst this;obtain⟨s',Fn,G1,G2,_,_,_,h4,h5,_,_⟩:=hT'.node hn';rw[hss]at h4;injection h4 with h4;injection h4 with h4;subst h4;obtain⟨s',xs,F',e1,_,hown,_⟩:=h5;have e1:=(F4 e1).1;subst e1;rcases hown.2 with⟨hsv,hn0⟩|⟨g,cap,cur,hsv,_⟩
     ·have:q.2.2.2.2.2.length=0:=hn0
      omega
     ·refine⟨.pointer (some ((⟨g,0,none⟩:Addr).add (ix.toNat*te.size))),?_,sv,svs,_,hpl,rfl,λt1 e1 ver1 iver1 hh1 l1 hb1=>?_⟩
      ·have hc2':ix<(q.2.2.2.2.2.length:Int):=hc2
       rw[hrun a w,hyv',hsv];simp[HR f fe hd hc1 hc2']
      ·have hb1':bl2 b=some (.tree t1 e1 ver1 iver1 hh1 l1):=hb1
       rw[hb']at hb1';injection hb1' with hb1';injection hb1' with q1 q2 q3 q4 q5 q6;subst q1 q2 q3 q4 q5;simp only[Dl]at q6;subst q6;refine⟨Ao _,λ_ _=>⟨_,_,hn',hss,?_,g,_,_,hsv,?_⟩⟩
       ·have:(ix.toNat:Int)<(q.2.2.2.2.2.length:Int):=by omega
        exact_mod_cast this
       ·rw[Addr.add_lit,hs1']
        simp
   ·unfold Zd at hk
    split at hk
    ·rename_i t0 e0 ver' iver' p0 q0 l0 hb _
     cases hs:(Nat.beq ver ver'&&(Nat.beq e0.ty.size te.size&&Nat.blt 0 te.size))with
     |false=>rw[hs]at hk;cases hk
     |true=>
      obtain⟨hs0,hs⟩:=andB hs;obtain⟨hs1,hs2⟩:=andB hs;have:=Ag hs0;subst this;have hs1':=Ag hs1;have hs2':0<te.size:=BL hs2;rw[show(Nat.beq ver ver&&(Nat.beq e0.ty.size te.size&&Nat.blt 0 te.size))=true by rw[hs0,hs1,hs2];rfl,Af]at hk;obtain⟨hc,hk⟩:=B8 hk;obtain⟨hc1,hc2⟩:=andB hc;have hc1:=Az hc1;have hc2:=Az hc2;refine Sound.pure hk λbl2 hb2 ok0 base pl w a hr hxs=>?_;have hb':=(hb2 b (by simp)).trans hb;have hv:=hxs x (by simp[ho,Op.operands]);have hyv':=hyv a _ (hxs y (by simp[ho,Op.operands]));rw[hx]at hv;obtain⟨_,sv,svs,hpl,hcur⟩:=hv
      have hout:Ky (some (p0::q0)) []:=λq hq hpre=>by injection hq with hq;subst hq;simp at hpre
      obtain⟨n,hn,hss⟩:=(hcur _ _ _ _ _ _ hb').2 rfl hout;have hn:some (⟨(t0,e0),l0⟩:Cg)=some n:=hn;injection hn with hn;subst hn;have hss:sv=a.eval x:=by simpa [nix]using hss
      obtain⟨p,hp,hB⟩:=hr.blks b _ hb';have hpl':pl b=some (.row sv svs):=hpl;rw[hp]at hpl';injection hpl' with hpl';subst hpl';have hT:TreeOk (Ae ok0 base pl bl2 w) t0 e0 (some (p0::q0)) l0 sv svs:=hB;obtain⟨hv0,F,h1,_,_⟩:=hT.rep;obtain⟨i0,k0⟩:=p0;obtain⟨_,s',xs,F',e1,_,hown,_⟩:=h1;have e1:=(F4 e1).1;subst e1;rcases hown.2 with⟨hsv,hn0⟩|⟨g,cap,cur,hsv,_⟩
      ·have:l0.length=0:=hn0
       omega
      ·refine⟨.pointer (some ((⟨g,0,none⟩:Addr).add (ix.toNat*te.size))),?_,sv,svs,_,hp,rfl,λt1 e1 ver1 iver1 hh1 l1 hb1=>?_⟩
       ·have hc2':ix<(l0.length:Int):=hc2
        rw[hrun a w,hyv',<-hss,hsv];simp[HR f fe hd hc1 hc2']
       ·have hb1':bl2 b=some (.tree t1 e1 ver1 iver1 hh1 l1):=hb1
        rw[hb']at hb1';injection hb1' with hb1';injection hb1' with q1 q2 q3 q4 q5 q6;subst q1 q2 q3 q4 q5;simp only[Dl]at q6;subst q6;refine⟨Ao _,λ_ _=>⟨⟨(t0,e0),l0⟩,sv,rfl,rfl,?_,g,_,_,hsv,?_⟩⟩
        ·have:(ix.toNat:Int)<(l0.length:Int):=by omega
         exact_mod_cast this
        ·rw[Addr.add_lit,hs1']
         simp
    ·cases hk
  ·cases hk
 ·
  rename_i et n hel hal;have hd:=Te f hel hal;subst hd;split at hk
  ·rename_i b off hx
   split at hk
   ·rename_i te hte
    obtain⟨i',d',z',fe⟩:=hT.facts hte;obtain⟨j,hj0,hj,hk,hj1⟩:=Td hk;have hs':j<n:=by omega
    refine Sound.pure hk λbl2 hb2 ok0 base pl w a hr hxs=>?_;have hv:=hxs x (by simp[ho,Op.operands]);have hyv':=hyv a _ (hxs y (by simp[ho,Op.operands]));rw[hx]at hv;obtain⟨g,hg,hav⟩:=hv;refine⟨.pointer (some ((⟨g,off,none⟩:Addr).add (j*te.size))),?_,g,hg,by rw[Addr.add_lit]⟩;rw[hrun a w,hyv',hav,hj];simp[Instr.indexAt,asIntOf,run_underlying f.under,Instr.sureAddr,hs',run_sizeOf fe]
   ·cases hk
  ·rename_i b ver q off hx
   split at hk
   ·rename_i te hte
    obtain⟨i',d',z',fe⟩:=hT.facts hte;obtain⟨j,hj0,hj,hk,hj1⟩:=Td hk;have hs':j<n:=by omega
    refine Sound.pure hk λbl2 hb2 ok0 base pl w a hr hxs=>?_;have hv:=hxs x (by simp[ho,Op.operands]);have hyv':=hyv a _ (hxs y (by simp[ho,Op.operands]));rw[hx]at hv;obtain⟨sv,svs,ad,hp,hav,hcur⟩:=hv;refine⟨.pointer (some (ad.add (j*te.size))),?_,sv,svs,_,hp,rfl,λt e ver' l hb=>?_⟩
    ·rw[hrun a w,hyv',hav,hj]
     simp[Instr.indexAt,asIntOf,run_underlying f.under,Instr.sureAddr,hs',run_sizeOf fe]
    ·obtain⟨h1,h2⟩:=hcur t e ver' l hb
     refine⟨h1,λh=>?_⟩;obtain⟨h3,g,n',c,h4,h5⟩:=h2 h;refine⟨h3,g,n',c,h4,?_⟩;rw[h5,Addr.add_lit,HA]
   ·cases hk
  ·cases hk
 ·cases hk
end
end Go.Lift
namespace Go.Lift
open Go.RowKit
theorem Z0(l:List UInt8):(⟨l.toArray⟩:ByteArray).toList=l:=by rw[ByteArray.toList_eq]
section
variable{P:Program}{o:Oper}{ρ:Operand->V}{bl:Nat->Option Blk}{β:Type}{r:β}
theorem uV{w:World}{op:BinOp}{t:TypeId}{x y:Operand}{k k':IntKind}{a b:Int}:(eqGuard op t x y (.int k a) (.int k' b)).run P w=.ok () w:=by unfold eqGuard;cases op<;>simp
theorem uW{w:World}{op:BinOp}{t:TypeId}{x y:Operand}{a b:ByteArray}:(eqGuard op t x y (.string a) (.string b)).run P w=.ok () w:=by unfold eqGuard;cases op<;>simp
theorem uX{w:World}{op:BinOp}{t:TypeId}{x y:Operand}{a b:Bool}:(eqGuard op t x y (.bool a) (.bool b)).run P w=.ok () w:=by unfold eqGuard;cases op<;>simp
theorem Tf{t:TypeId}{k:BK}(h:FC P t=some k)(w:World):(isAgg t).run P w=.ok false w:=by unfold isAgg;unfold FC at h;split at h<;>first|(rename_i hu;simp[run_underlying hu];done)|cases h
theorem Tg{w:World}(d0:Nat){t:TypeId}{k:BK}(hb:FC P t=some k){ks:List BK}{a b:C}{as bs:List C}{x y:Value}{E:Env}(ha:CRep E a x)(hy:CRep E b y){q:Bool}(hq:Bb (k::ks) (a::as) (b::bs)=some q):∃q1 q2,(Op.equalIn (d0+1) t x y).run P w=.ok q1 w/\Bb ks as bs=some q2/\q=(q1&&q2):=by
 unfold FC at hb;cases k<;>cases a<;>try(simp[Bb]at hq;done)
 ·cases b<;>simp only[Bb]at hq<;>try(cases hq;done)
  rename_i a b;split at hq
  ·rename_i q2 h2
   simp only[CRep]at ha hy;subst ha hy;simp only[Ac]at hq;split at hb<;>try(cases hb;done)
   rename_i hu;exact⟨_,q2,run_equalIn_bool' w d0 t _ _ hu,h2,hq.symm⟩
  ·cases hq
 ·cases b<;>simp only[Bb]at hq<;>try(cases hq;done)
  rename_i ka a kb b;split at hq
  ·rename_i hk
   subst hk;split at hq
   ·rename_i q2 h2
    simp only[CRep]at ha hy;subst ha hy;simp only[Ac]at hq;split at hb<;>try(cases hb;done)
    rename_i k' hu;exact⟨_,q2,run_equalIn_int w d0 t _ _ _ _ hu,h2,hq.symm⟩
   ·cases hq
  ·cases hq
 ·cases b<;>simp only[Bb]at hq<;>try(cases hq;done)
  rename_i a b;split at hq
  ·rename_i q2 h2
   simp only[CRep]at ha hy;subst ha hy;simp only[Ac]at hq;split at hb<;>try(cases hb;done)
   rename_i hu;refine⟨_,q2,run_equalIn_string w d0 t _ _ hu,h2,?_⟩;rw[Z0,Z0,<-hq];by_cases h:a=b<;>simp[h]
  ·cases hq
theorem uY{w:World}(d0:Nat):∀(fs:List Field)(i:Nat)(ks:List BK)(as bs:List C)(xs ys:List Value)(E:Env)(xa ya:Array Value),KK P i fs=some ks->CReps E as xs->CReps E bs ys->xa.toList.drop i=xs->ya.toList.drop i=ys->∀{q:Bool},Bb ks as bs=some q->(Op.eqFields (d0+1) xa ya fs).run P w=.ok q w:=by
 intro fs
 induction fs with
 |nil=>
  intro i ks as bs xs ys E xa ya hf ha hb _ _ q hq;simp only[KK,Ac]at hf;subst hf;cases as with
  |cons a as=>simp[Bb]at hq
  |nil=>
   cases bs with
   |nil=>simp only[Bb,Ac]at hq;subst hq;simp[Op.eqFields]
   |cons b bs=>simp[Bb]at hq
 |cons f fs ih=>
  intro i ks as bs xs ys E xa ya hf ha hb hxa hya q hq;simp only[KK]at hf;cases hn:(f.name != "_"&&Nat.beq f.offset i)with
  |false=>rw[hn]at hf;cases hf
  |true=>
   simp only[hn,Af]at hf;obtain⟨hname,hoff⟩:=andB hn;have hoff:=Ag hoff;split at hf
   ·rename_i k ks' hbas hrest
    simp only[Ac]at hf;subst hf;cases as with
    |nil=>simp[Bb]at hq
    |cons a as=>
     cases bs with
     |nil=>cases k<;>cases a<;>simp[Bb]at hq
     |cons b bs=>
      obtain⟨x,xs',ex,ha1,ha2⟩:=ha;obtain⟨y,ys',ey,hb1,hb2⟩:=hb;subst ex ey
      have hx0:xa[i]?=some x:=by have:=Aj (·[0]?) hxa;simpa using this
      have hy0:ya[i]?=some y:=by have:=Aj (·[0]?) hya;simpa using this
      have hx1:xa.toList.drop (i+1)=xs':=by have:=Aj List.tail hxa;simpa using this
      have hy1:ya.toList.drop (i+1)=ys':=by have:=Aj List.tail hya;simpa using this
      have hname':f.name≠ "_":=by simpa using hname
      have hagg:=Tf (P:=P) hbas w
      have hpx:(part f.type xa f.offset).run P w=.ok x w:=by simp[part,hagg,hoff,hx0]
      have hpy:(part f.type ya f.offset).run P w=.ok y w:=by simp[part,hagg,hoff,hy0]
      obtain⟨q1,q2,h1,h2,h3⟩:=Tg (w:=w) d0 hbas ha1 hb1 hq;have hih:=ih (i+1) ks' as bs xs' ys' E xa ya hrest ha2 hb2 hx1 hy1 h2;simp only[Op.eqFields,ne_eq,hname',NC,B7,Sem.run_bind,hpx,hpy,h1,Result.andThen_ok];cases q1 with
      |false=>simp[h3]
      |true=>simp[h3,hih]
   ·cases hf
theorem Z1:∀{js ks:List BK}{as bs:List C}{q:Bool},Bb (js++ks) as bs=some q->∃a1 a2 b1 b2 q1 q2,as=a1++a2/\bs=b1++b2/\a1.length=js.length/\b1.length=js.length/\Bb js a1 b1=some q1/\Bb ks a2 b2=some q2/\q=(q1&&q2)
 |[],ks,as,bs,q,h=>⟨[],as,[],bs,true,q,rfl,rfl,rfl,rfl,rfl,h,rfl⟩
 |j::js,ks,as,bs,q,h=>by
  have key:∃x y as' bs' e r,as=x::as'/\bs=y::bs'/\Bb (js++ks) as' bs'=some r/\q=(e&&r)/\∀ls u v s,Bb ls u v=some s->Bb (j::ls) (x::u) (y::v)=some (e&&s):=by
   rw[Cw]at h;cases j<;>cases as<;>try(simp[Bb]at h;done)
   ·rename_i x as'
    cases x<;>try(simp[Bb]at h;done)
    cases bs<;>try(simp[Bb]at h;done)
    rename_i y bs';cases y<;>simp only[Bb]at h<;>try(cases h;done)
    split at h
    ·rename_i r hr
     simp only[Ac]at h;exact⟨_,_,_,_,_,r,rfl,rfl,hr,h.symm,λls u v s hs=>by simp[Bb,hs]⟩
    ·cases h
   ·rename_i x as'
    cases x<;>try(simp[Bb]at h;done)
    cases bs<;>try(simp[Bb]at h;done)
    rename_i y bs';cases y<;>simp only[Bb]at h<;>try(cases h;done)
    split at h
    ·rename_i hk
     split at h
     ·rename_i r hr
      simp only[Ac]at h;exact⟨_,_,_,_,_,r,rfl,rfl,hr,h.symm,λls u v s hs=>by simp[Bb,hs,hk]⟩
     ·cases h
    ·cases h
   ·rename_i x as'
    cases x<;>try(simp[Bb]at h;done)
    cases bs<;>try(simp[Bb]at h;done)
    rename_i y bs';cases y<;>simp only[Bb]at h<;>try(cases h;done)
    split at h
    ·rename_i r hr
     simp only[Ac]at h;exact⟨_,_,_,_,_,r,rfl,rfl,hr,h.symm,λls u v s hs=>by simp[Bb,hs]⟩
    ·cases h
  obtain⟨x,y,as',bs',e,r,rfl,rfl,hr,hq,hf⟩:=key;obtain⟨a1,a2,b1,b2,q1,q2,e1,e2,l1,l2,h1,h2,h3⟩:=Z1 hr;exact⟨x::a1,a2,y::b1,b2,(e&&q1),q2,by rw[e1];rfl,by rw[e2];rfl,by simp[l1],by simp[l2],hf _ _ _ _ h1,h2,by rw[hq,h3,Bool.and_assoc]⟩
theorem CReps.parts{E:Env}:∀{cs ds:List C}{vs:List Value},CReps E (cs++ds) vs->∃us ws,vs=us++ws/\us.length=cs.length/\CReps E cs us/\CReps E ds ws
 |[],_,vs,h=>⟨[],vs,rfl,rfl,rfl,h⟩
 |_::_,_,_,⟨v,vs',e,h,ht⟩=>by obtain⟨us,ws,e2,hl,h1,h2⟩:=CReps.parts ht;exact⟨v::us,ws,by rw[e,e2];rfl,by simp[hl],⟨v,us,rfl,h,h1⟩,h2⟩
theorem uZ{w:World}(d0:Nat):∀(fs:List Field)(i:Nat)(ks:List BK)(as bs:List C)(xs ys:List Value)(E:Env)(xa ya:Array Value),Jc P i fs=some ks->CReps E as xs->CReps E bs ys->xa.toList.drop i=xs->ya.toList.drop i=ys->∀{q:Bool},Bb ks as bs=some q->(Op.eqFields (d0+2) xa ya fs).run P w=.ok q w:=by
 intro fs
 induction fs with
 |nil=>
  intro i ks as bs xs ys E xa ya hf ha hb _ _ q hq;simp only[Jc,Ac]at hf;subst hf;cases as with
  |cons a as=>simp[Bb]at hq
  |nil=>
   cases bs with
   |nil=>simp only[Bb,Ac]at hq;subst hq;simp[Op.eqFields]
   |cons b bs=>simp[Bb]at hq
 |cons f fs ih=>
  intro i ks as bs xs ys E xa ya hf ha hb hxa hya q hq;simp only[Jc]at hf;cases hn:(f.name != "_"&&Nat.beq f.offset i)with
  |false=>rw[hn]at hf;cases hf
  |true=>
   simp only[hn,Af]at hf;obtain⟨hname,hoff⟩:=andB hn;have hoff:=Ag hoff;have hname':f.name≠ "_":=by simpa using hname
   split at hf
   ·rename_i k hbas
    split at hf
    ·rename_i ks' hrest
     simp only[Ac]at hf;subst hf;cases as with
     |nil=>simp[Bb]at hq
     |cons a as=>
      cases bs with
      |nil=>cases k<;>cases a<;>simp[Bb]at hq
      |cons b bs=>
       obtain⟨x,xs',ex,ha1,ha2⟩:=ha;obtain⟨y,ys',ey,hb1,hb2⟩:=hb;subst ex ey
       have hx0:xa[i]?=some x:=by have:=Aj (·[0]?) hxa;simpa using this
       have hy0:ya[i]?=some y:=by have:=Aj (·[0]?) hya;simpa using this
       have hx1:xa.toList.drop (i+1)=xs':=by have:=Aj List.tail hxa;simpa using this
       have hy1:ya.toList.drop (i+1)=ys':=by have:=Aj List.tail hya;simpa using this
       have hagg:=Tf (P:=P) hbas w
       have hpx:(part f.type xa f.offset).run P w=.ok x w:=by simp[part,hagg,hoff,hx0]
       have hpy:(part f.type ya f.offset).run P w=.ok y w:=by simp[part,hagg,hoff,hy0]
       obtain⟨q1,q2,h1,h2,h3⟩:=Tg (w:=w) (d0+1) hbas ha1 hb1 hq;have hih:=ih (i+1) ks' as bs xs' ys' E xa ya hrest ha2 hb2 hx1 hy1 h2;simp only[Op.eqFields,ne_eq,hname',NC,B7,Sem.run_bind,hpx,hpy,h1,Result.andThen_ok];cases q1 with
       |false=>simp[h3]
       |true=>simp[h3,hih]
    ·cases hf
   ·split at hf
    ·rename_i js hflat
     split at hf
     ·rename_i ks' hrest
      simp only[Ac]at hf;subst hf;obtain⟨a1,a2,b1,b2,q1,q2,e1,e2,l1,l2,h1,h2,h3⟩:=Z1 hq;subst e1 e2;obtain⟨x1,x2,ex,lx,hx1,hx2⟩:=CReps.parts ha;obtain⟨y1,y2,ey,ly,hy1,hy2⟩:=CReps.parts hb;subst ex ey;unfold Zm at hflat;split at hflat
      ·rename_i gs inf hu hinf
       split at hflat
       ·rename_i js' hjs
        cases hc:(!P.stoodInHeld f.type&&Nat.beq inf.size js'.length)with
        |false=>rw[hc]at hflat;cases hflat
        |true=>
         simp only[hc,Af,Ac]at hflat;subst hflat;obtain⟨c1,c2⟩:=andB hc;have c2:=Ag c2;have hagg:(isAgg f.type).run P w=.ok true w:=by unfold isAgg;simp[run_underlying hu]
         have hsz:(sizeOf f.type).run P w=.ok inf.size w:=by simp[sizeOf,typeInfo,hinf]
         have cut:∀(za:Array Value)(z1 z2:List Value),za.toList.drop i=z1++z2->z1.length=js'.length->za.extract i (i+inf.size)=z1.toArray:=by intro za z1 z2 hz hl;apply Dc;rw[Array.toList_extract];simp only[List.extract];rw[hz,GL,c2,<-hl,NH]
         have hpx:(part f.type xa f.offset).run P w=.ok (.agg x1.toArray) w:=by simp[part,hagg,hoff,hsz,cut xa x1 x2 hxa (lx.trans l1)]
         have hpy:(part f.type ya f.offset).run P w=.ok (.agg y1.toArray) w:=by simp[part,hagg,hoff,hsz,cut ya y1 y2 hya (ly.trans l2)]
         have hfs:P.fieldsOf f.type=gs:=by simp[Program.fieldsOf,hu]
         have hu':P.underlying f.type=some (.struct (P.fieldsOf f.type)):=by rw[hfs];exact hu
         have heq:(Op.equalIn (d0+2) f.type (.agg x1.toArray) (.agg y1.toArray)).run P w=.ok q1 w:=by rw[run_equalIn_struct w (d0+1) f.type _ _ hu' (by simpa using c1),hfs];exact uY d0 gs.toList 0 js' a1 b1 x1 y1 E _ _ hjs hx1 hy1 (by simp) (by simp) h1
         have drp:∀(za:Array Value)(z1 z2:List Value),za.toList.drop i=z1++z2->z1.length=js'.length->za.toList.drop (i+js'.length)=z2:=by intro za z1 z2 hz hl;rw[<-NI,hz,<-hl,List.drop_left]
         have hih:=ih (i+js'.length) ks' a2 b2 x2 y2 E xa ya hrest hx2 hy2 (drp xa x1 x2 hxa (lx.trans l1)) (drp ya y1 y2 hya (ly.trans l2)) h2;simp only[Op.eqFields,ne_eq,hname',NC,B7,Sem.run_bind,hpx,hpy,heq,Result.andThen_ok];cases q1 with
         |false=>simp[h3]
         |true=>simp[h3,hih]
       ·cases hflat
      ·cases hflat
     ·cases hf
    ·cases hf
theorem v6{w:World}(d0:Nat){e:TypeId}{k:BK}(hbas:FC P e=some k):∀(n i:Nat)(as bs:List C)(xs ys:List Value)(E:Env)(xa ya:Array Value),CReps E as xs->CReps E bs ys->xa.toList.drop i=xs->ya.toList.drop i=ys->∀{q:Bool},Bb (List.replicate n k) as bs=some q->(Op.eqItems (d0+1) e 1 xa ya (List.range' i n)).run P w=.ok q w:=by
 intro n
 induction n with
 |zero=>
  intro i as bs xs ys E xa ya ha hb _ _ q hq;cases as with
  |cons a as=>simp[Bb]at hq
  |nil=>
   cases bs with
   |nil=>simp only[List.replicate,Bb,Ac]at hq;subst hq;simp[Op.eqItems]
   |cons b bs=>simp[Bb]at hq
 |succ n ih=>
  intro i as bs xs ys E xa ya ha hb hxa hya q hq;rw[List.replicate_succ]at hq;cases as with
  |nil=>simp[Bb]at hq
  |cons a as=>
   cases bs with
   |nil=>cases k<;>cases a<;>simp[Bb]at hq
   |cons b bs=>
    obtain⟨x,xs',ex,ha1,ha2⟩:=ha;obtain⟨y,ys',ey,hb1,hb2⟩:=hb;subst ex ey
    have hx0:xa[i]?=some x:=by have:=Aj (·[0]?) hxa;simpa using this
    have hy0:ya[i]?=some y:=by have:=Aj (·[0]?) hya;simpa using this
    have hx1:xa.toList.drop (i+1)=xs':=by have:=Aj List.tail hxa;simpa using this
    have hy1:ya.toList.drop (i+1)=ys':=by have:=Aj List.tail hya;simpa using this
    have hagg:=Tf (P:=P) hbas w
    have hpx:(part e xa (i*1)).run P w=.ok x w:=by simp[part,hagg,hx0]
    have hpy:(part e ya (i*1)).run P w=.ok y w:=by simp[part,hagg,hy0]
    obtain⟨q1,q2,h1,h2,h3⟩:=Tg (w:=w) d0 hbas ha1 hb1 hq;have hih:=ih (i+1) as bs xs' ys' E xa ya ha2 hb2 hx1 hy1 h2;simp only[List.range'_succ,Op.eqItems,Sem.run_bind,hpx,hpy,h1,Result.andThen_ok];cases q1 with
    |false=>simp[h3]
    |true=>simp[h3,hih]
theorem Z2{t:TypeId}{ks:List BK}(he:KL P t=some ks){as bs:List C}{xs ys:List Value}{E:Env}(ha:CReps E as xs)(hb:CReps E bs ys){q:Bool}(hq:Bb ks as bs=some q)(w:World):(Op.equalIn 10000 t (.agg xs.toArray) (.agg ys.toArray)).run P w=.ok q w/\P.eqGuardType P.depth t=false:=by
 unfold KL at he;split at he
 ·rename_i fs hu
  cases hc:(P.stoodInHeld t||P.eqGuardType P.depth t)with
  |true=>rw[hc]at he;cases he
  |false=>
   simp only[hc,AT]at he;have hc2:P.stoodInHeld t=false/\P.eqGuardType P.depth t=false:=by simpa using hc
   have hfs:P.fieldsOf t=fs:=by simp[Program.fieldsOf,hu]
   have hu':P.underlying t=some (.struct (P.fieldsOf t)):=by rw[hfs];exact hu
   refine⟨?_,hc2.2⟩;rw[run_equalIn_struct w 9999 t _ _ hu' hc2.1,hfs];exact uZ 9997 fs.toList 0 ks as bs xs ys E _ _ he ha hb (by simp) (by simp) hq
 ·rename_i n e hu
  split at he
  ·rename_i k hk
   cases hc:(Nat.beq (P.cellsOf e) 1&&!P.eqGuardType P.depth t)with
   |false=>rw[hc]at he;cases he
   |true=>
    simp only[hc,Af,Ac]at he;subst he;obtain⟨hc1,hc2⟩:=andB hc;have hc1:=Ag hc1
    have hi:∃i,P.info? e=some i:=by
     cases hi:P.info? e with
     |some i=>exact⟨i,rfl⟩
     |none=>simp[Program.cellsOf,hi]at hc1
    obtain⟨i,hi⟩:=hi;refine⟨?_,by simpa using hc2⟩;rw[run_equalIn_array w 9999 _ _ hu hi,hc1,Sg];exact v6 9998 hk n 0 as bs xs ys E _ _ ha hb (by simp) (by simp) hq
  ·cases he
 ·cases he
theorem Z3{w:World}{op:BinOp}{t:TypeId}{x y:Operand}{a a':Option Addr}{n n' c c':Nat}:(eqGuard op t x y (.slice a n c) (.slice a' n' c')).run P w=.ok () w:=by unfold eqGuard;cases op<;>simp
theorem Z4(w:World)(d:Nat)(t e:TypeId)(a:Option Addr)(l c:Nat)(h:P.underlying t=some (.slice e)):(Op.equalIn (d+1) t (.slice a l c) (.slice none 0 0)).run P w=.ok a.isNone w:=by cases a<;>simp[Op.equalIn,run_underlying h]
theorem Z5{T:TypeId->Option TI}(hT:TOk P T){kk:K β}{op:BinOp}{t t':TypeId}{x y:Operand}(ho:o.op=.binOp op t x y t'){cx:C}{b:Bool}(hx:ρ x=.c cx)(hy:ρ y=.c .nils)(hc:∀E v,CRep E cx v->∃a n c,v=.slice a n c/\a.isNone=b)(hk:NP T op t b kk=some r):Sound P o ρ bl kk r:=by
 have hx0:x∈o.op.operands:=by simp[ho,Op.operands]
 have hy0:y∈o.op.operands:=by simp[ho,Op.operands]
 unfold NP at hk;split at hk
 ·rename_i ti ht
  obtain⟨i,d,z,f⟩:=hT.facts ht
  have main:∀(q:Bool)(e:TypeId),ti.elem=some e->ti.len=none->kk (.c (.bool q)) [] []=some r->((op=.eql/\q=b)\/(op=.neq/\q=!b))->Sound P o ρ bl kk r:=by
   intro q e hel hal hk' hop;have hd:=CC f hel hal;subst hd;refine Sound.pure hk' λbl2 _ ok0 base pl w act hr hxs=>⟨.bool q,?_,rfl⟩;have h1:=hxs x hx0;have h2:=hxs y hy0;rw[hx]at h1;rw[hy]at h2;obtain⟨a,n,c,h1',hb⟩:=hc _ _ h1;have h2':act.eval y=.slice none 0 0:=h2;subst hb;rcases hop with⟨rfl,rfl⟩|⟨rfl,rfl⟩
   ·simp[execOp,ho,h1',h2',Z3,Go.binOp,Op.equal,Op.maxDepth,Z4 w 9999 t e a n c f.under]
   ·simp[execOp,ho,h1',h2',Z3,Go.binOp,Op.equal,Op.maxDepth,Z4 w 9999 t e a n c f.under]
  split at hk
  ·rename_i e hel hal
   exact main _ e hel hal hk (.inl ⟨rfl,rfl⟩)
  ·rename_i e hel hal
   exact main _ e hel hal hk (.inr ⟨rfl,rfl⟩)
  ·cases hk
 ·cases hk
theorem v7{T:TypeId->Option TI}(hT:TOk P T){kk:K β}{op:BinOp}{t t':TypeId}{x:Operand}(ho:o.op=.binOp op t x (.const .nilIface) t'){b:Bool}(hx:ρ x=.c (.err b))(hk:Sr T op t b kk=some r):Sound P o ρ bl kk r:=by
 have hx0:x∈o.op.operands:=by simp[ho,Op.operands]
 unfold Sr at hk;split at hk
 ·rename_i ti ht
  obtain⟨i,d,z,f⟩:=hT.facts ht
  have main:∀(q:Bool),ti.ty=some .err->ti.agg=false->kk (.c (.bool q)) [] []=some r->((op=.eql/\q=b)\/(op=.neq/\q=!b))->Sound P o ρ bl kk r:=by
   intro q hty hag hk' hop;rw[f.agg]at hag
   have hu:P.underlying t=some (.interface (P.methodsAt t)):=by
    rw[f.ty]at hty;unfold tyOf at hty;split at hty
    ·cases hty
    ·cases hty
    ·cases hty
    ·rename_i ms hm
     cases hd:decide (ms=P.methodsAt t)with
     |false=>rw[hd]at hty;cases hty
     |true=>rw[hm,Az hd]
    ·rename_i e _;cases h:tyOf P 11 e<;>rw[h]at hty<;>cases hty
    ·rename_i hm;simp[Ep,hm]at hag
    ·rename_i hm;simp[Ep,hm]at hag
    ·cases hty
   refine Sound.pure hk' λbl2 _ ok0 base pl w act hr hxs=>⟨.bool q,?_,rfl⟩;have h1:=hxs x hx0;rw[hx]at h1;have h1:errRep b (act.eval x):=h1;have h2:act.eval (.const .nilIface)=.nilIface:=rfl;cases b with
   |true=>
    have h1:act.eval x=.nilIface:=h1;rcases hop with⟨rfl,rfl⟩|⟨rfl,rfl⟩
    ·simp[execOp,ho,h1,h2,eqGuard_nil_constR,Go.binOp,run_equal_nil_nil w t hu]
    ·simp[execOp,ho,h1,h2,eqGuard_nil_constR,Go.binOp,run_equal_nil_nil w t hu]
   |false=>
    obtain⟨u,z,h1⟩:∃u z,act.eval x=.iface u z:=h1;have hg:∀op,eqGuard op t x (.const .nilIface) (.iface u z) .nilIface=pure ():=λop=>by cases op<;>rfl
    rcases hop with⟨rfl,rfl⟩|⟨rfl,rfl⟩
    ·simp[execOp,ho,h1,h2,hg,Go.binOp,run_equal_held_nil w t u z hu]
    ·simp[execOp,ho,h1,h2,hg,Go.binOp,run_equal_held_nil w t u z hu]
  split at hk
  ·rename_i hty hag
   exact main _ hty hag hk (.inl ⟨rfl,rfl⟩)
  ·rename_i hty hag
   exact main _ hty hag hk (.inr ⟨rfl,rfl⟩)
  ·cases hk
 ·cases hk
theorem v8{T:TypeId->Option TI}(hT:TOk P T){kk:K β}{op:BinOp}{t t':TypeId}{x y:Operand}(ho:o.op=.binOp op t x y t')(hk:Sq T op t (ρ x) (ρ y) kk=some r):Sound P o ρ bl kk r:=by
 have hx0:x∈o.op.operands:=by simp[ho,Op.operands]
 have hy0:y∈o.op.operands:=by simp[ho,Op.operands]
 unfold Sq at hk;split at hk
 ·
  rename_i k a k' b hx hy;cases hsh:Sp op with
  |true=>
   simp only[hsh,Af]at hk;obtain⟨hc,hk⟩:=B8 hk;have hb0:¬b<0:=by have:=Az hc;omega
   refine Sound.pure hk λbl2 _ ok0 base pl w act hr hxs=>⟨.int k (NO op k a b),?_,rfl⟩;have h1:=hxs x hx0;have h2:=hxs y hy0;rw[hx]at h1;rw[hy]at h2;have h1':act.eval x=.int k a:=h1;have h2':act.eval y=.int k' b:=h2;cases op<;>simp only[Sp,DO]at hsh
   ·simp[execOp,ho,h1',h2',eqGuard,Go.binOp,Op.shift,hb0,NO]
   ·simp[execOp,ho,h1',h2',eqGuard,Go.binOp,Op.shift,hb0,NO]
  |false=>
  simp only[hsh,AT]at hk;split at hk
  ·rename_i hkk
   subst hkk
   have main:∀(v:Value)(c:C),kk (.c c) [] []=some r->(∀w,(Go.binOp op t (.int k a) (.int k b)).run P w=.ok v w)->(∀E,CRep E c v)->Sound P o ρ bl kk r:=by intro v c hk' hv hc;refine Sound.pure hk' λbl2 _ ok0 base pl w act hr hxs=>⟨v,?_,hc _⟩;have h1:=hxs x hx0;have h2:=hxs y hy0;rw[hx]at h1;rw[hy]at h2;have h1':act.eval x=.int k a:=h1;have h2':act.eval y=.int k b:=h2;simp[execOp,ho,h1',h2',uV,hv]
   unfold Za at hk;split at hk
   ·exact main (.int k (k.wrap (a+b))) _ hk (λw=>by simp[Go.binOp,Op.intArith]) (λ_=>rfl)
   ·exact main (.int k (k.wrap (a-b))) _ hk (λw=>by simp[Go.binOp,Op.intArith]) (λ_=>rfl)
   ·exact main (.int k (k.wrap (a*b))) _ hk (λw=>by simp[Go.binOp,Op.intArith]) (λ_=>rfl)
   ·obtain⟨hc,hk⟩:=B8 hk
    have hb:b≠0:=by simpa using hc
    exact main (.int k (k.wrap (a.tdiv b))) _ hk (λw=>by simp[Go.binOp,Op.intDiv,hb]) (λ_=>rfl)
   ·obtain⟨hc,hk⟩:=B8 hk
    have hb:b≠0:=by simpa using hc
    exact main (.int k (a.tmod b)) _ hk (λw=>by simp[Go.binOp,Op.intDiv,hb]) (λ_=>rfl)
   ·exact main (.bool (decide (a=b))) _ hk (λw=>by simp[Go.binOp,Op.intCmp];rfl) (λ_=>rfl)
   ·exact main (.bool (!decide (a=b))) _ hk (λw=>by simp[Go.binOp,Op.intCmp,bne];rfl) (λ_=>rfl)
   ·exact main (.bool (decide (a<b))) _ hk (λw=>by simp[Go.binOp,Op.intCmp]) (λ_=>rfl)
   ·exact main (.bool (decide (a<=b))) _ hk (λw=>by simp[Go.binOp,Op.intCmp]) (λ_=>rfl)
   ·exact main (.bool (decide (b<a))) _ hk (λw=>by simp[Go.binOp,Op.intCmp]) (λ_=>rfl)
   ·exact main (.bool (decide (b<=a))) _ hk (λw=>by simp[Go.binOp,Op.intCmp]) (λ_=>rfl)
   ·exact main (.int k (EA .and k a b)) _ hk (λw=>by simp[Go.binOp,Op.intBits,EA]) (λ_=>rfl)
   ·exact main (.int k (EA .or k a b)) _ hk (λw=>by simp[Go.binOp,Op.intBits,EA]) (λ_=>rfl)
   ·exact main (.int k (EA .xor k a b)) _ hk (λw=>by simp[Go.binOp,Op.intBits,EA]) (λ_=>rfl)
   ·exact main (.int k (EA .andNot k a b)) _ hk (λw=>by simp[Go.binOp,Op.intBits,EA]) (λ_=>rfl)
   ·cases hk
  ·cases hk
 ·
  rename_i a b hx hy
  have main:∀(v:Value)(c:C),kk (.c c) [] []=some r->(∀w,(Go.binOp op t (.string ⟨a.toArray⟩) (.string ⟨b.toArray⟩)).run P w=.ok v w)->(∀E,CRep E c v)->Sound P o ρ bl kk r:=by intro v c hk' hv hc;refine Sound.pure hk' λbl2 _ ok0 base pl w act hr hxs=>⟨v,?_,hc _⟩;have h1:=hxs x hx0;have h2:=hxs y hy0;rw[hx]at h1;rw[hy]at h2;have h1':act.eval x=.string ⟨a.toArray⟩:=h1;have h2':act.eval y=.string ⟨b.toArray⟩:=h2;simp[execOp,ho,h1',h2',uW,hv]
  have hbeq:(a==b)=decide (a=b):=by by_cases h:a=b<;>simp[h]
  unfold Zb at hk;split at hk
  ·obtain⟨hc,hk⟩:=B8 hk
   have hle:=Az hc;refine main (.string ⟨(a++b).toArray⟩) _ hk (λw=>?_) (λ_=>rfl)
   have hsz:¬(((⟨a.toArray⟩:ByteArray).size+(⟨b.toArray⟩:ByteArray).size:Nat):Int)>IntKind.i64.max:=by show ¬((a.toArray.size+b.toArray.size:Nat):Int)>9223372036854775807;simp only[NB];omega
   have happ:(⟨a.toArray⟩:ByteArray)++⟨b.toArray⟩=⟨(a++b).toArray⟩:=by apply ByteArray.ext;simp
   simp only[Go.binOp,Op.stringOp];rw[if_neg hsz,happ];rfl
  ·exact main (.bool (decide (a=b))) _ hk (λw=>by simp[Go.binOp,Op.stringOp,hbeq]) (λ_=>rfl)
  ·exact main (.bool (!decide (a=b))) _ hk (λw=>by simp[Go.binOp,Op.stringOp,hbeq]) (λ_=>rfl)
  ·exact main (.bool (Op.bytesLess a b)) _ hk (λw=>by simp[Go.binOp,Op.stringOp]) (λ_=>rfl)
  ·exact main (.bool (Op.bytesLess a b||decide (a=b))) _ hk (λw=>by simp[Go.binOp,Op.stringOp,hbeq]) (λ_=>rfl)
  ·exact main (.bool (!(Op.bytesLess a b||decide (a=b)))) _ hk (λw=>by simp[Go.binOp,Op.stringOp,hbeq]) (λ_=>rfl)
  ·exact main (.bool (!Op.bytesLess a b)) _ hk (λw=>by simp[Go.binOp,Op.stringOp]) (λ_=>rfl)
  ·cases hk
 ·
  rename_i a b hx hy;split at hk
  ·rename_i ti ht
   obtain⟨i,d,z,f⟩:=hT.facts ht;cases hbool:ti.isBool with
   |false=>rw[hbool]at hk;cases hk
   |true=>
    simp only[hbool,Af]at hk
    have hu:P.underlying t=some .bool:=by
     rw[f.isBool]at hbool;unfold Od at hbool;split at hbool
     ·exact f.under
     ·cases hbool
    have main:∀(q:Bool),kk (.c (.bool q)) [] []=some r->(∀w,(Go.binOp op t (.bool a) (.bool b)).run P w=.ok (.bool q) w)->Sound P o ρ bl kk r:=by intro q hk' hv;refine Sound.pure hk' λbl2 _ ok0 base pl w act hr hxs=>⟨.bool q,?_,rfl⟩;have h1:=hxs x hx0;have h2:=hxs y hy0;rw[hx]at h1;rw[hy]at h2;have h1':act.eval x=.bool a:=h1;have h2':act.eval y=.bool b:=h2;simp[execOp,ho,h1',h2',uX,hv]
    split at hk
    ·exact main _ hk λw=>by simp only[Go.binOp];simp[Op.equal,Op.maxDepth,run_equalIn_bool' w 9999 t a b hu]
    ·exact main _ hk λw=>by simp only[Go.binOp];simp[Op.equal,Op.maxDepth,run_equalIn_bool' w 9999 t a b hu]
    ·cases hk
  ·cases hk
 ·
  rename_i a b hx hy;split at hk
  ·rename_i ti ht
   obtain⟨i,d,z,f⟩:=hT.facts ht;split at hk
   ·rename_i ks heqs
    rw[f.eqs]at heqs
    have main:∀(q q':Bool),Bb ks a b=some q->kk (.c (.bool q')) [] []=some r->((op=.eql/\q'=q)\/(op=.neq/\q'=!q))->Sound P o ρ bl kk r:=by
     intro q q' hq hk' hop;refine Sound.pure hk' λbl2 _ ok0 base pl w act hr hxs=>⟨.bool q',?_,rfl⟩;have h1:=hxs x hx0;have h2:=hxs y hy0;rw[hx]at h1;rw[hy]at h2;obtain⟨xs,h1',h1''⟩:=h1;obtain⟨ys,h2',h2''⟩:=h2;simp only[B7]at h1'' h2'';obtain⟨he,hg⟩:=Z2 (P:=P) heqs h1' h2' hq w;rcases hop with⟨rfl,rfl⟩|⟨rfl,rfl⟩
     ·simp[execOp,ho,h1'',h2'',run_eqGuard_agg w _ t x y _ _ hg,run_eql_struct,he]
     ·simp[execOp,ho,h1'',h2'',run_eqGuard_agg w _ t x y _ _ hg,run_neq_struct,he]
    split at hk
    ·rename_i q hq
     exact main _ _ hq hk (.inl ⟨rfl,rfl⟩)
    ·rename_i q hq
     exact main _ _ hq hk (.inr ⟨rfl,rfl⟩)
    ·cases hk
   ·cases hk
  ·cases hk
 ·rename_i hx hy
  exact Z5 hT ho hx hy (λE v hv=>by obtain⟨c,rfl⟩:=hv;exact⟨none,0,c,rfl,rfl⟩) hk
 ·rename_i e l hx hy
  refine Z5 hT ho hx hy (λE v hv=>?_) hk;obtain⟨hd,hn⟩:=hv;simp only[DRep]at hd;obtain⟨A,c,xs,e1,_⟩:=hd;simp only[BB,Cm]at e1;subst e1;cases A with
  |none=>exact absurd rfl (hn _ _)
  |some a=>exact⟨some a,_,_,rfl,rfl⟩
 ·cases hk
theorem Z6{T:TypeId->Option TI}(hT:TOk P T){kk:K β}{op:BinOp}{t t':TypeId}{x:Operand}(ho:o.op=.binOp op t x (.const (.pointer none)) t'){b:Bool}(hx:∀E v,VRep E (ρ x) v->∃q,v=.pointer q/\q.isNone=b)(hk:NQ T op t b kk=some r):Sound P o ρ bl kk r:=by
 have hx0:x∈o.op.operands:=by simp[ho,Op.operands]
 unfold NQ at hk;split at hk
 ·rename_i ti ht
  obtain⟨i,d,z,f⟩:=hT.facts ht
  have main:∀(q:Bool),ti.ptr=true->kk (.c (.bool q)) [] []=some r->((op=.eql/\q=b)\/(op=.neq/\q=!b))->Sound P o ρ bl kk r:=by
   intro q hp hk' hop;rw[f.ptr]at hp;have hd:∃e,d=.pointer e:=by cases d<;>simp_all [SQ]
   obtain⟨e,rfl⟩:=hd;have hu:P.underlying t=some (.pointer (P.pointee t)):=by rw[Program.pointee,f.under]
   refine Sound.pure hk' λbl2 _ ok0 base pl w act hr hxs=>⟨.bool q,?_,rfl⟩;obtain⟨v,h1,hb⟩:=hx _ _ (hxs x hx0);have h2:act.eval (.const (.pointer none))=.pointer none:=rfl;subst hb;have hg:∀op,eqGuard op t x (.const (.pointer none)) (.pointer v) (.pointer none)=pure ():=λop=>by cases op<;>rfl
   rcases hop with⟨rfl,rfl⟩|⟨rfl,rfl⟩
   ·simp[execOp,ho,h1,h2,hg,run_eql_pointer_nil w t v hu]
   ·simp[execOp,ho,h1,h2,hg,run_neq_pointer_nil w t v hu]
  split at hk
  ·rename_i hp;exact main _ hp hk (.inl ⟨rfl,rfl⟩)
  ·rename_i hp;exact main _ hp hk (.inr ⟨rfl,rfl⟩)
  ·cases hk
 ·cases hk
theorem vA{T:TypeId->Option TI}(hT:TOk P T){kk:K β}{op:BinOp}{t t':TypeId}{x y:Operand}(ho:o.op=.binOp op t x y t')(hk:Ss T op t (ρ x) (ρ y) y kk=some r):Sound P o ρ bl kk r:=by
 unfold Ss at hk;split at hk
 ·rename_i b hx
  exact v7 hT ho hx hk
 ·rename_i hx
  exact Z6 hT ho (b:=true) (λE v h=>by rw[hx]at h;exact⟨none,h,rfl⟩) hk
 ·rename_i hx
  exact Z6 hT ho (b:=false) (λE v h=>by rw[hx]at h;obtain⟨_,_,ad,_,e,_⟩:=h;exact⟨some ad,e,rfl⟩) hk
 ·exact v8 hT ho hk
end
end Go.Lift
namespace Go.Lift
open Go.RowKit
theorem MRep.length{w:World}{ok:Nat->Prop}{k v:Ty}{vg:Bool}:∀{l:List (k.den×v.den)}{es:List MapEntry},MRep w ok k v vg l es->es.length=l.length
 |[],_,h=>by simp only[MRep]at h;simp[h]
 |_::l,_,⟨e,r,h0,_,_,h4⟩=>by rw[h0,Aw,Aw,MRep.length h4]
theorem KR{P:Program}{t:TypeId}{ti:TI}{i:TypeInfo}{d:TypeDesc}{z:Value}(f:TFacts P t ti i d z)(h:ti.isStr=true):d=.string:=by rw[f.isStr]at h;cases d<;>simp_all [Oc]
theorem vB(l:List UInt8)(a b:Nat):(⟨l.toArray⟩:ByteArray).extract a b=⟨((l.take b).drop a).toArray⟩:=by apply ByteArray.ext;apply Dc;rw[Lib.extract_data];simp only;rw[List.drop_take]
section
variable{P:Program}{o:Oper}{ρ:Operand->V}{bl:Nat->Option Blk}{β:Type}{r:β}
theorem HS{t:TypeId}{ti:TI}{i:TypeInfo}{d:TypeDesc}{z:Value}(f:TFacts P t ti i d z)(h:D0 ti=true):∃e,d=.slice e:=by
 unfold D0 at h;split at h
 ·rename_i e h1 h2
  exact⟨e,CC f h1 h2⟩
 ·cases h
theorem Gm{w:World}{a:Act}{x:Operand}{c:Call}{t:TypeId}(ho:o.op=.call c)(hc:c.callee=.builtin .len)(ha:c.args.toList=[x])(ht:c.argTypes.toList=[t]){v:Value}(h:(Builtin.len_ #[t] o.type #[a.eval x]).run P w=.ok v w):(execOp a.eval o).run P w=.ok (.value v) w:=by
 have h1:c.args=#[x]:=by rw[<-CP (xs:=c.args),ha]
 have h2:c.argTypes=#[t]:=by rw[<-CP (xs:=c.argTypes),ht]
 simp[execOp,ho,resolve,hc,h1,h2,invoke,builtin,h]
theorem vC{T:TypeId->Option TI}(hT:TOk P T){kk:K β}{c:Call}(ho:o.op=.call c)(hc:c.callee=.builtin .len){x:Operand}{t:TypeId}(ha:c.args.toList=[x])(hty:c.argTypes.toList=[t])(hk:Sx T bl t (ρ x) kk=some r):Sound P o ρ bl kk r:=by
 have hx0:x∈o.op.operands:=by
  have h1:c.args=#[x]:=by rw[<-CP (xs:=c.args),ha]
  simp[ho,Op.operands,Call.operands,h1]
 unfold Sx at hk;split at hk
 ·cases hk
 rename_i ti ht;obtain⟨i,d,z,f⟩:=hT.facts ht;have hu:=f.under;split at hk
 ·rename_i s hx
  cases hs:ti.isStr with
  |false=>rw[hs]at hk;cases hk
  |true=>simp only[hs,Af]at hk;have:=KR f hs;subst this;refine Sound.pure hk λbl2 _ ok0 base pl w act hr hxs=>⟨_,Gm ho hc ha hty (v:=.int .i64 (s.length:Int)) ?_,rfl⟩;have h1:=hxs x hx0;rw[hx]at h1;have h1':act.eval x=.string ⟨s.toArray⟩:=h1;simp[Builtin.len_,h1',run_underlying hu,goInt];rfl
 ·rename_i e l hx
  cases hs:D0 ti with
  |false=>rw[hs]at hk;cases hk
  |true=>simp only[hs,Af]at hk;obtain⟨et,rfl⟩:=HS f hs;refine Sound.pure hk λbl2 _ ok0 base pl w act hr hxs=>⟨_,Gm ho hc ha hty (v:=.int .i64 (l.length:Int)) ?_,rfl⟩;have h1:=hxs x hx0;rw[hx]at h1;have h1':DRep w _ (.slice e) l [act.eval x]:=h1;simp only[DRep]at h1';obtain⟨A,cc,xs,hv,_⟩:=h1';simp only[BB,Cm]at hv;simp[Builtin.len_,hv,run_underlying hu,goInt]
 ·rename_i hx
  cases hs:D0 ti with
  |false=>rw[hs]at hk;cases hk
  |true=>simp only[hs,Af]at hk;obtain⟨et,rfl⟩:=HS f hs;refine Sound.pure hk λbl2 _ ok0 base pl w act hr hxs=>⟨_,Gm ho hc ha hty (v:=.int .i64 0) ?_,rfl⟩;have h1:=hxs x hx0;rw[hx]at h1;have h1':act.eval x=.slice none 0 0:=h1;simp[Builtin.len_,h1',run_underlying hu,goInt]
 ·rename_i b ver hx
  split at hk
  ·rename_i t0 e ver' l hb
   cases hs:(Nat.beq ver ver'&&D0 ti)with
   |false=>rw[hs]at hk;cases hk
   |true=>
    obtain⟨hver,hs1⟩:=andB hs;have:=Ag hver;subst this;simp only[hs,Af]at hk;obtain⟨et,rfl⟩:=HS f hs1;refine Sound.pure hk λbl2 hb2 ok0 base pl w act hr hxs=>⟨_,Gm ho hc ha hty (v:=.int .i64 (l.length:Int)) ?_,rfl⟩;have hb':bl2 b=some (.row t0 e ver l):=(hb2 b (by simp)).trans hb;have hv:=hxs x hx0;rw[hx]at hv;obtain⟨_,sv,svs,hg,hcur⟩:=hv;have hav:=(hcur t0 e ver l hb').2 rfl;obtain⟨p,hp,hB⟩:=hr.blks b _ hb';have:p=.row sv svs:=by have h2:pl b=some (.row sv svs):=hg;rw[hp]at h2;injection h2
    subst this;obtain⟨_,xs,hd',hown⟩:=hB;rcases hown.2 with⟨hsv,hn⟩|⟨g,cap,cur,hsv,_⟩
    ·simp[Builtin.len_,hav,hsv,run_underlying hu,goInt,hn]
    ·simp[Builtin.len_,hav,hsv,run_underlying hu,goInt]
  ·cases hk
 ·rename_i b ver lo hi hx
  split at hk
  ·rename_i t0 e ver' l hb
   cases hs:(Nat.beq ver ver'&&D0 ti)with
   |false=>rw[hs]at hk;cases hk
   |true=>obtain⟨hver,hs1⟩:=andB hs;have:=Ag hver;subst this;simp only[hs,Af]at hk;obtain⟨et,rfl⟩:=HS f hs1;refine Sound.pure hk λbl2 hb2 ok0 base pl w act hr hxs=>⟨_,Gm ho hc ha hty (v:=.int .i64 ((hi-lo:Nat):Int)) ?_,rfl⟩;have hb':bl2 b=some (.row t0 e ver l):=(hb2 b (by simp)).trans hb;have hv:=hxs x hx0;rw[hx]at hv;obtain⟨_,sv,svs,hg,hcur⟩:=hv;obtain⟨_,_,A,A',n,cc,_,hav,_⟩:=(hcur t0 e ver l hb').2 rfl;simp[Builtin.len_,hav,run_underlying hu,goInt]
  ·cases hk
 ·rename_i b ver hx
  split at hk
  ·rename_i t0 et0 e ver' iver hole l hb
   cases hs:(Nat.beq ver ver'&&D0 ti)with
   |false=>rw[hs]at hk;cases hk
   |true=>
    obtain⟨hver,hs1⟩:=andB hs;have:=Ag hver;subst this;simp only[hs,Af]at hk;obtain⟨et,rfl⟩:=HS f hs1;refine Sound.pure hk λbl2 hb2 ok0 base pl w act hr hxs=>⟨_,Gm ho hc ha hty (v:=.int .i64 (l.length:Int)) ?_,rfl⟩;have hb':bl2 b=some (.mat t0 et0 e ver iver hole l):=(hb2 b (by simp)).trans hb;have hv:=hxs x hx0;rw[hx]at hv;obtain⟨_,sv,svs,hg,hcur⟩:=hv;have hav:=(hcur _ _ _ _ _ _ _ hb').2 rfl;obtain⟨p,hp,hB⟩:=hr.blks b _ hb';have:p=.row sv svs:=by have h2:pl b=some (.row sv svs):=hg;rw[hp]at h2;injection h2
    subst this;have hM:MatOk _ t0 et0 e hole l sv svs:=hB;obtain⟨vs,hown,_⟩:=hM.outer;rcases hown.2 with⟨hsv,hn⟩|⟨g,cap,cur,hsv,_⟩
    ·simp[Builtin.len_,hav,hsv,run_underlying hu,goInt,hn]
    ·simp[Builtin.len_,hav,hsv,run_underlying hu,goInt]
  ·cases hk
 ·rename_i b iver ri hx
  split at hk
  ·rename_i t0 et0 e ver iver' hole l hb
   cases hs:(Nat.beq iver iver'&&D0 ti)with
   |false=>rw[hs]at hk;cases hk
   |true=>
    obtain⟨hver,hs1⟩:=andB hs;have:=Ag hver;subst this;simp only[hs,Af]at hk;obtain⟨et,rfl⟩:=HS f hs1;refine Sound.pure hk λbl2 hb2 ok0 base pl w act hr hxs=>⟨_,Gm ho hc ha hty (v:=.int .i64 ((l.getD ri []).length:Int)) ?_,rfl⟩;have hb':bl2 b=some (.mat t0 et0 e ver iver hole l):=(hb2 b (by simp)).trans hb;have hv:=hxs x hx0;rw[hx]at hv;obtain⟨_,sv,svs,hg,hcur⟩:=hv;obtain⟨hri,hss⟩:=(hcur _ _ _ _ _ _ _ hb').2 rfl;obtain⟨p,hp,hB⟩:=hr.blks b _ hb';have:p=.row sv svs:=by have h2:pl b=some (.row sv svs):=hg;rw[hp]at h2;injection h2
    subst this;have hM:MatOk _ t0 et0 e hole l sv svs:=hB;obtain⟨xs,hd',hown⟩:=hM.inner ri (act.eval x) l[ri] hss (Bx hri);have hgd:l.getD ri []=l[ri]:=by simp[List.getD,hri]
    rw[hgd];rcases hown.2 with⟨hsv,hn⟩|⟨g,cap,cur,hsv,_⟩
    ·simp[Builtin.len_,hsv,run_underlying hu,goInt,hn]
    ·simp[Builtin.len_,hsv,run_underlying hu,goInt]
  ·cases hk
 ·rename_i b ver p hx
  split at hk
  ·rename_i q hq
   obtain⟨hb,hver,hn⟩:=Ol hq;subst hver;cases hs:D0 ti with
   |false=>rw[hs]at hk;cases hk
   |true=>
    simp only[hs,Af]at hk;obtain⟨et,rfl⟩:=HS f hs;refine Sound.pure hk λbl2 hb2 ok0 base pl w act hr hxs=>⟨_,Gm ho hc ha hty (v:=.int .i64 (q.2.2.2.2.2.length:Int)) ?_,rfl⟩;have hv:=hxs x hx0;rw[hx]at hv;obtain⟨xs,hown⟩:=uO (E:=Ae ok0 base pl bl2 w) hr.blksOk ((hb2 b (by simp)).trans hb) hv hn;rcases hown.2 with⟨hsv,hn⟩|⟨g,cap,cur,hsv,_⟩
    ·have hn:q.2.2.2.2.2.length=0:=hn
     simp[Builtin.len_,hsv,run_underlying hu,goInt,hn]
    ·simp[Builtin.len_,hsv,run_underlying hu,goInt]
  ·cases hk
 ·rename_i b hx
  split at hk
  ·rename_i t0 k0 v0 vg l mp hb hmp
   obtain⟨kt,vt,rfl⟩:∃kt vt,d=.map kt vt:=by have h1:=f.mp;rw[hmp]at h1;cases d<;>simp[mpD]at h1;exact⟨_,_,rfl⟩
   refine Sound.pure hk λbl2 hb2 ok0 base pl w act hr hxs=>⟨_,Gm ho hc ha hty (v:=.int .i64 (l.length:Int)) ?_,rfl⟩;have hb':bl2 b=some (.map t0 k0 v0 vg l):=(hb2 b (by simp)).trans hb;have hv:=hxs x hx0;rw[hx]at hv;obtain⟨g,hg,hav⟩:=hv;obtain⟨p,hp,hB⟩:=hr.blks b _ hb';have:p=.cells g:=by have h2:pl b=some (.cells g):=hg;rw[hp]at h2;injection h2
   subst this;obtain⟨es,clock,hh,hm⟩:=hB
   have hlen:es.size=l.length:=by rw[<-CQ];exact hm.length
   simp[Builtin.len_,hav,run_underlying hu,goInt,MapKept.run_getObj_map (show w.heap[g]?=some (.map es clock)from hh),hlen,Result.andThen]
  ·cases hk
 ·cases hk
theorem Fe{E:Env}{a:Act}{lo:Option Operand}{d n:Int}(h:DT (lo.map ρ) d=some n)(hx:∀x,lo=some x->VRep E (ρ x) (a.eval x)):(lo=none/\n=d)\/∃x k,lo=some x/\a.eval x=.int k n:=by
 cases lo with
 |none=>simp only[Option.map_none,DT,Ac]at h;exact .inl ⟨rfl,h.symm⟩
 |some x=>
  simp only[Cl,DT]at h;split at h
  ·rename_i k m hm
   simp only[Ac]at h;subst h;have h1:=hx x rfl;rw[Gl hm]at h1;exact .inr ⟨x,k,rfl,h1⟩
  ·cases h
theorem Oo{k:IntKind}{n:Int}{y:Nat}{code:BoundsCode}(h0:0<=n)(h1:n<=(y:Int))(w:World):(Instr.sliceBound (.int k n) y code).run P w=.ok n.toNat w:=by simp[Instr.sliceBound,asIntOf,h0,h1]
theorem HT{isSl:Bool}{len cap:Nat}{a:Act}{lo hi:Option Operand}{m n:Int}(hlo:(lo=none/\m=0)\/∃x k,lo=some x/\a.eval x=.int k m)(hhi:(hi=none/\n=(len:Int))\/∃x k,hi=some x/\a.eval x=.int k n)(h0:0<=m)(h1:m<=n)(h2:n<=(cap:Int))(w:World):(Instr.sliceBounds isSl len cap (lo.map a.eval) (hi.map a.eval) none).run P w=.ok (m.toNat,n.toNat,cap) w:=by
 have hn:(n.toNat:Int)=n:=IJ (by omega);unfold Instr.sliceBounds;rcases hlo with⟨rfl,rfl⟩|⟨x,k,rfl,hx⟩<;>rcases hhi with⟨rfl,rfl⟩|⟨y,k',rfl,hy⟩
 ·simp
 ·simp[hy,Oo (P:=P) (k:=k') (by omega) h2]
 ·simp[hx,Oo (P:=P) (k:=k) h0 h1]
 ·simp[hx,hy,Oo (P:=P) (k:=k') (by omega) h2,Oo (P:=P) (k:=k) (y:=n.toNat) h0 (by omega)]
theorem Th{T:TypeId->Option TI}(hT:TOk P T){kk:K β}{t:TypeId}{x:Operand}{lo hi:Option Operand}(ho:o.op=.slice t x lo hi none)(hk:K4 T bl t (ρ x) (lo.map ρ) (hi.map ρ) kk=some r):Sound P o ρ bl kk r:=by
 have hx0:x∈o.op.operands:=by simp[ho,Op.operands]
 have hlo0:∀y,lo=some y->y∈o.op.operands:=by rintro y rfl;simp[ho,Op.operands]
 have hhi0:∀y,hi=some y->y∈o.op.operands:=by rintro y rfl;simp[ho,Op.operands]
 unfold K4 at hk;split at hk
 ·cases hk
 rename_i ti ht;obtain⟨i,d,z,f⟩:=hT.facts ht;have hu:=f.under;split at hk
 ·rename_i s hx
  cases hs:ti.isStr with
  |false=>rw[hs]at hk;cases hk
  |true=>
   simp only[hs,Af]at hk;have:=KR f hs;subst this;split at hk
   ·rename_i m n hm hn
    obtain⟨hc,hk⟩:=B8 hk;obtain⟨c1,c23⟩:=andB hc;obtain⟨c2,c3⟩:=andB c23;have c1:=Az c1;have c2:=Az c2;have c3:=Az c3;refine Sound.pure hk λbl2 _ ok0 base pl w act hr hxs=>⟨.string ⟨((s.take n.toNat).drop m.toNat).toArray⟩,?_,rfl⟩;have h1:=hxs x hx0;rw[hx]at h1;have h1':act.eval x=.string ⟨s.toArray⟩:=h1;have hsz:(⟨s.toArray⟩:ByteArray).size=s.length:=rfl;have hb:=HT (P:=P) (isSl:=false) (len:=s.length) (cap:=s.length) (Fe hm λy hy=>hxs y (hlo0 y hy)) (Fe hn λy hy=>hxs y (hhi0 y hy)) c1 c2 c3 w;simp[execOp,ho,Instr.sliceAt,run_underlying hu,Instr.slice,h1',hsz,hb,vB]
   ·cases hk
 ·rename_i e l hx
  split at hk
  ·rename_i et hel hal
   have hd:=CC f hel hal;subst hd;split at hk
   ·cases hk
   rename_i te hte;obtain⟨i',d',z',fe⟩:=hT.facts hte;cases hs:(Nat.beq e.size te.size&&Nat.blt 0 te.size)with
   |false=>rw[hs]at hk;cases hk
   |true=>
    obtain⟨hs1,hs2⟩:=andB hs;have hs1:=Ag hs1;simp only[hs,Af]at hk;split at hk
    ·rename_i m n hm hn
     obtain⟨hc,hk⟩:=B8 hk;obtain⟨c1,c23⟩:=andB hc;obtain⟨c2,c3⟩:=andB c23;have c1:=Az c1;have c2:=Az c2;have c3:=Az c3;refine Sound.pure hk λbl2 _ ok0 base pl w act hr hxs=>?_;have h1:=hxs x hx0;rw[hx]at h1;have h1':DRep w (Ae ok0 base pl bl2 w).ok (.slice e) l [act.eval x]:=h1;simp only[DRep]at h1';obtain⟨A,cc,xs,hv,hle,hcm,hdl,hcell⟩:=h1';simp only[BB,Cm]at hv;have hb:=HT (P:=P) (isSl:=true) (len:=l.length) (cap:=cc) (Fe hm λy hy=>hxs y (hlo0 y hy)) (Fe hn λy hy=>hxs y (hhi0 y hy)) c1 c2 (by omega) w;refine⟨.slice (if cc=m.toNat then A else A.map (·.add (m.toNat*te.size))) (n.toNat-m.toNat) (cc-m.toNat),?_,?_⟩
     ·simp[execOp,ho,Instr.sliceAt,run_underlying hu,Instr.slice,hv,hb,run_sizeOf fe]
     ·show DRep w (Ae ok0 base pl bl2 w).ok (.slice e) ((l.take n.toNat).drop m.toNat) [_]
      simp only[DRep];have hlen:((l.take n.toNat).drop m.toNat).length=n.toNat-m.toNat:=by simp;omega
      refine⟨_,_,(xs.take (n.toNat*e.size)).drop (m.toNat*e.size),by rw[hlen],by rw[hlen];omega,by omega,(hdl.take _).drop _,λj v hj=>?_⟩;rw[H7,GP]at hj;split at hj
      ·rename_i hlt
       obtain⟨ad,rfl,ho',hc'⟩:=hcell _ _ hj;by_cases hcc:cc=m.toNat
       ·exfalso
        have hnm:n.toNat=m.toNat:=by omega
        rw[hnm]at hlt;omega
       ·refine⟨ad.add (m.toNat*te.size),by rw[if_neg hcc];rfl,by rw[Ge];exact ho',?_⟩
        rw[GX,<-hs1];exact hc'
      ·cases hj
    ·cases hk
  ·cases hk
 ·
  rename_i bb ver hx;split at hk
  ·rename_i et hel hal
   have hd:=CC f hel hal;subst hd;split at hk
   ·cases hk
   rename_i te hte;obtain⟨i',d',z',fe⟩:=hT.facts hte;split at hk
   ·rename_i t0 e ver' l hb
    cases hs:(Nat.beq ver ver'&&(Nat.beq e.size te.size&&Nat.blt 0 te.size))with
    |false=>rw[hs]at hk;cases hk
    |true=>
     obtain⟨hver,hs12⟩:=andB hs;obtain⟨hs1,hs2⟩:=andB hs12;have hs1:=Ag hs1;have:=Ag hver;subst this;simp only[hs,Af]at hk;split at hk
     ·rename_i m n hm hn
      obtain⟨hc,hk⟩:=B8 hk;obtain⟨c1,c23⟩:=andB hc;obtain⟨c2,c3⟩:=andB c23;have c1:=Az c1;have c2:=Az c2;have c3:=Az c3;refine Sound.pure hk λbl2 hb2 ok0 base pl w act hr hxs=>?_;have hb':bl2 bb=some (.row t0 e ver l):=(hb2 bb (by simp)).trans hb;have h1:=hxs x hx0;rw[hx]at h1;obtain⟨_,sv,svs,hg,hcur⟩:=h1;have hav:=(hcur t0 e ver l hb').2 rfl;obtain⟨p,hp,hB⟩:=hr.blks bb _ hb';have:p=.row sv svs:=by have h2:pl bb=some (.row sv svs):=hg;rw[hp]at h2;injection h2
      subst this;obtain⟨_,xs,hd',hown⟩:=hB
      obtain⟨A,cc,hsv,hle⟩:∃A cc,sv=.slice A l.length cc/\l.length<=cc:=by
       rcases hown.2 with⟨hsv,hn⟩|⟨g,cap,cur,hsv,_,_,hnc,_⟩
       ·exact⟨none,0,by rw[hsv,hn],by omega⟩
       ·exact⟨_,cap,hsv,hnc⟩
      have hb3:=HT (P:=P) (isSl:=true) (len:=l.length) (cap:=cc) (Fe hm λy hy=>hxs y (hlo0 y hy)) (Fe hn λy hy=>hxs y (hhi0 y hy)) c1 c2 (by omega) w;refine⟨.slice (if cc=m.toNat then A else A.map (·.add (m.toNat*te.size))) (n.toNat-m.toNat) (cc-m.toNat),?_,rfl,sv,svs,hp,λt1 e1 ver1 l1 hb1=>?_⟩
      ·simp[execOp,ho,Instr.sliceAt,run_underlying hu,Instr.slice,hav,hsv,hb3,run_sizeOf fe]
      ·have hb1':bl2 bb=some (.row t1 e1 ver1 l1):=hb1
       rw[hb']at hb1';injection hb1' with hb1';injection hb1' with q1 q2 q3 q4;subst q2 q3;simp only[Dl]at q4;subst q4;refine⟨Ao _,λ_=>⟨by omega,by omega,A,_,l.length,cc,hsv,rfl,λhlt=>?_,λh0=>?_⟩⟩
       ·rw[if_neg (by omega),hs1]
       ·rw[h0]
        split
        ·rfl
        ·cases A<;>simp[Addr.add]
     ·cases hk
   ·cases hk
  ·cases hk
 ·
  rename_i bb ver lo' hi' hx;split at hk
  ·rename_i et hel hal
   have hd:=CC f hel hal;subst hd;split at hk
   ·cases hk
   rename_i te hte;obtain⟨i',d',z',fe⟩:=hT.facts hte;split at hk
   ·rename_i t0 e ver' l hb
    cases hs:(Nat.beq ver ver'&&(Nat.beq e.size te.size&&Nat.blt 0 te.size))with
    |false=>rw[hs]at hk;cases hk
    |true=>
     obtain⟨hver,hs12⟩:=andB hs;obtain⟨hs1,hs2⟩:=andB hs12;have hs1:=Ag hs1;have:=Ag hver;subst this;simp only[hs,Af]at hk;split at hk
     ·rename_i m n hm hn
      obtain⟨hc,hk⟩:=B8 hk;obtain⟨c1,c23⟩:=andB hc;obtain⟨c2,c3⟩:=andB c23;have c1:=Az c1;have c2:=Az c2;have c3:=Az c3;refine Sound.pure hk λbl2 hb2 ok0 base pl w act hr hxs=>?_;have hb':bl2 bb=some (.row t0 e ver l):=(hb2 bb (by simp)).trans hb;have h1:=hxs x hx0;rw[hx]at h1;obtain⟨_,sv,svs,hg,hcur⟩:=h1;obtain⟨r1,r2,A,A',nn,cc,hsv,hav,hA,hA0⟩:=(hcur t0 e ver l hb').2 rfl;obtain⟨p,hp,hB⟩:=hr.blks bb _ hb';have:p=.row sv svs:=by have h2:pl bb=some (.row sv svs):=hg;rw[hp]at h2;injection h2
      subst this;obtain⟨_,xs,hd',hown⟩:=hB
      have hle:l.length<=cc:=by
       rcases hown.2 with⟨hsv2,hn⟩|⟨g,cap,cur,hsv2,_,_,hnc,_⟩
       ·omega
       ·rw[hsv]at hsv2;injection hsv2 with _ _ e3;omega
      have hb3:=HT (P:=P) (isSl:=true) (len:=hi'-lo') (cap:=cc-lo') (Fe hm λy hy=>hxs y (hlo0 y hy)) (Fe hn λy hy=>hxs y (hhi0 y hy)) c1 c2 (by omega) w;refine⟨.slice (if cc-lo'=m.toNat then A' else A'.map (·.add (m.toNat*te.size))) (n.toNat-m.toNat) (cc-lo'-m.toNat),?_,rfl,sv,svs,hp,λt1 e1 ver1 l1 hb1=>?_⟩
      ·simp[execOp,ho,Instr.sliceAt,run_underlying hu,Instr.slice,hav,hb3,run_sizeOf fe]
      ·have hb1':bl2 bb=some (.row t1 e1 ver1 l1):=hb1
       rw[hb']at hb1';injection hb1' with hb1';injection hb1' with q1 q2 q3 q4;subst q2 q3;simp only[Dl]at q4;subst q4;have e1:lo'+n.toNat-(lo'+m.toNat)=n.toNat-m.toNat:=by omega
       have e2:cc-lo'-m.toNat=cc-(lo'+m.toNat):=by omega
       refine⟨Ao _,λ_=>⟨by omega,by omega,A,_,nn,cc,hsv,by rw[e1,e2],λhlt=>?_,λh0=>?_⟩⟩
       ·rw[if_neg (by omega),hA (by omega),<-hs1]
        cases A with
        |none=>rfl
        |some ad=>simp only[Cl,GX];rw[E7]
       ·have h1:lo'=0:=by omega
        have h2:m.toNat=0:=by omega
        rw[h2];split
        ·exact hA0 h1
        ·rw[hA0 h1]
         cases A<;>simp[Addr.add]
     ·cases hk
   ·cases hk
  ·cases hk
 ·
  rename_i b off hx;split at hk
  ·rename_i et n hel hal hlo hhi
   have hd:=Te f hel hal;subst hd;have hlo:lo=none:=by cases lo<;>simp_all
   have hhi:hi=none:=by cases hi<;>simp_all
   subst hlo hhi;split at hk
   ·cases hk
   rename_i te hte;obtain⟨i',d',z',fe⟩:=hT.facts hte;split at hk
   ·rename_i e he
    cases hs:(Nat.beq e.size te.size&&Nat.blt 0 n)with
    |false=>rw[hs]at hk;cases hk
    |true=>obtain⟨hs1,hs2⟩:=andB hs;have hs2:0<n:=D6 hs2;simp only[hs,Af]at hk;refine Sound.pure hk λbl2 _ ok0 base pl w act hr hxs=>?_;have h1:=hxs x hx0;rw[hx]at h1;obtain⟨g,hg,hv⟩:=h1;have hb:=HT (P:=P) (isSl:=false) (len:=n) (cap:=n) (a:=act) (lo:=none) (hi:=none) (m:=0) (n:=(n:Int)) (.inl ⟨rfl,rfl⟩) (.inl ⟨rfl,rfl⟩) (by omega) (by omega) (by omega) w;refine⟨.slice (some ⟨g,off,none⟩) n n,?_,g,hg,rfl⟩;simp only[Option.map_none,Int.toNat_zero,AE]at hb;simp[execOp,ho,Instr.sliceAt,run_underlying hu,Instr.sureAddr,hv,hb,run_sizeOf fe,Nat.ne_of_gt hs2,Addr.add]
   ·cases hk
  ·cases hk
 ·
  rename_i hx;split at hk
  ·rename_i et hel hal
   have hd:=CC f hel hal;subst hd;split at hk
   ·cases hk
   rename_i te hte;obtain⟨i',d',z',fe⟩:=hT.facts hte;split at hk
   ·rename_i m n hm hn
    obtain⟨hc,hk⟩:=B8 hk;obtain⟨c1,c23⟩:=andB hc;obtain⟨c2,c3⟩:=andB c23;have c1:=Az c1;have c2:=Az c2;have c3:=Az c3;refine Sound.pure hk λbl2 hb2 ok0 base pl w act hr hxs=>⟨.slice none 0 0,?_,rfl⟩;have h1:=hxs x hx0;rw[hx]at h1;have hav:act.eval x=.slice none 0 0:=h1;have hb3:=HT (P:=P) (isSl:=true) (len:=0) (cap:=0) (Fe hm λy hy=>hxs y (hlo0 y hy)) (Fe hn λy hy=>hxs y (hhi0 y hy)) c1 c2 (by omega) w;have hm0:m=0:=by omega
    have hn0:n=0:=by omega
    subst hm0 hn0;simp[execOp,ho,Instr.sliceAt,run_underlying hu,Instr.slice,hav,hb3,run_sizeOf fe]
   ·cases hk
  ·cases hk
 ·cases hk
theorem Jh{w:World}{b b':Nat}{e:TypeId}{size:Nat}{v:Value}{n:Nat}{xs:List Value}(h:w.ownsRow b e size v n xs)(hb:b'<=b):w.ownsRow b' e size v n xs:=by
 refine⟨h.1,?_⟩;rcases h.2 with h2|⟨g,cap,cur,hv,hg,r⟩
 ·exact .inl h2
 ·exact .inr ⟨g,cap,cur,hv,BH hb hg,r⟩
def Reads(w:World)(okI:Nat->Prop)(e:Ty)(l:List e.den)(src:Value):Prop:=
 ∃A c ys,src=.slice A l.length c/\l.length<=c/\c<=maxLen/\DList (λx u=>DRep w okI e x u) l ys/\∀j v,ys[j]?=some v->∃ad,A=some ad/\w.cell? (ad.add j)=some v
theorem Oq{w:World}{ok:Nat->Prop}(base:Nat){t ty et:TypeId}{te:TI}{i:TypeInfo}{d:TypeDesc}{z:Value}(fe:TFacts P et te i d z)(ht:P.underlying t=some (.slice et)){e:Ty}(hes:e.size=te.size)(hpos:0<te.size)(hby:0<te.bytes){v:Value}{n:Nat}{xs:List Value}(hown:w.ownsRow base et e.size v n xs){src:Value}{l:List e.den}(hsrc:Reads w ok e l src)(hroom:(n+l.length)*te.bytes<=AG)(hbase:base<=w.heap.size):∃v' w' ys,(Builtin.append_ #[t,t] ty #[v,src]).run P w=.ok v' w'/\w'.ownsRow base et e.size v' (n+l.length) (xs++ys)/\w.grownBy w' v.ownBlock/\(v'.ownBlock=v.ownBlock\/v'.ownBlock=some w.heap.size)/\DList (λx u=>DRep w ok e x u) l ys:=by
 have hsize:i.size=e.size:=by rw[<-fe.size,hes]
 have hzs:z.cells.size=e.size:=by have:=fe.len;rw[CQ]at this;rw[this,hsize]
 obtain⟨A,c,ys,rfl,hle,hcm,hd,hcell⟩:=hsrc;have hl:ys.length=l.length*e.size:=hd.length;have h1:=hd.oneCell;have hroom':(n+l.length)*i.bytes<=140737488355328:=by rw[<-fe.bytes];exact hroom
 have h63:n+l.length<=maxLen:=by have h2:n+l.length<=(n+l.length)*te.bytes:=Sd _ hby;simp only[AG]at hroom;simp only[maxLen];omega
 cases A with
 |some ad=>
  obtain⟨v',w',hrun,h2,h3,_,h5⟩:=run_append_own_at (P:=P) w base t ty et i z e.size i.bytes ht fe.info fe.zero hsize rfl hzs (by omega) v n xs hown ad l.length c ys hl
   (λj u hj=>by obtain⟨ad',ha,hc⟩:=hcell j u hj;injection ha with ha;subst ha;exact hc) h1 h63 hroom' hbase
  exact⟨v',w',ys,hrun,h2,h3,h5,hd⟩
 |none=>
  have hy:ys=[]:=by
   cases ys with
   |nil=>rfl
   |cons y ys=>obtain⟨ad,ha,_⟩:=hcell 0 y rfl;cases ha
  subst hy
  have hl0:l.length=0:=by
   rcases N8 l.length with h0|h0
   ·exact h0
   ·have:0<l.length*e.size:=Nat.mul_pos h0 (by omega)
    simp at hl;omega
  refine⟨v,w,[],?_,by simpa [hl0]using hown,⟨rfl,rfl,rfl,Ao _,λ_ _ _=>rfl⟩,.inl rfl,hd⟩;rcases hown.2 with⟨rfl,rfl⟩|⟨g,cap,cur,rfl,_,_,hnc,_⟩
  ·simp[Builtin.append_,run_underlying ht,sizeOf,typeInfo,fe.info,Builtin.lenOf,Builtin.firstCells,hl0]
  ·simp[Builtin.append_,run_underlying ht,sizeOf,typeInfo,fe.info,Builtin.lenOf,Builtin.firstCells,hl0,hnc,storeCells]
theorem Reads.of_own{w:World}{okI:Nat->Prop}{base:Nat}{t:TypeId}{e:Ty}{l:List e.den}{sv:Value}{xs:List Value}(hd:DList (λx u=>DRep w okI e x u) l xs)(ho:w.ownsRow base t e.size sv l.length xs):Reads w okI e l sv:=by
 have hown:=ho;rcases ho.2 with⟨rfl,hn⟩|⟨g,cap,cur,rfl,hbase,hh,hnc,hcm,hcs,htake⟩
 ·have hl:l=[]:=D5 hn
  subst hl;simp only[DList]at hd;subst hd;exact⟨none,0,[],rfl,by simp,by simp[maxLen],rfl,by simp⟩
 ·exact⟨some ⟨g,0,none⟩,cap,xs,rfl,hnc,hcm,hd,λj u hj=>⟨_,rfl,hown.cells (g:=g) rfl j u hj⟩⟩
theorem HU{E:Env}{blp:Nat->Option Blk}(hb:BX E){e:Ty}{y:V}{l:List e.den}{rd:List Nat}(h:IS blp e y=some (l,rd))(hsub:∀b∈rd,∀B,blp b=some B->E.bl b=some B){v:Value}(hv:VRep E y v):Reads E.w E.ok e l v:=by
 unfold IS at h;split at h
 ·simp only[Ac,AN]at h
  obtain⟨rfl,_⟩:=h;have:v=.slice none 0 0:=hv;subst this;exact⟨none,0,[],rfl,by simp,by simp[maxLen],rfl,by simp⟩
 ·split at h
  ·rename_i he
   subst he;simp only[Ac,AN]at h;obtain⟨rfl,_⟩:=h;have hv':DRep E.w E.ok (.slice _) _ [v]:=hv;simp only[DRep]at hv';obtain⟨A,c,xs,e1,hl,hc,hd,hx⟩:=hv';simp only[BB,Cm]at e1;exact⟨A,c,xs,e1,hl,hc,hd,λj u hj=>by obtain⟨ad,h1,_,h2⟩:=hx j u hj;exact⟨ad,h1,h2⟩⟩
  ·cases h
 ·split at h
  ·rename_i he
   subst he;simp only[Ac,AN]at h;obtain⟨rfl,_⟩:=h;have hv':DRep E.w E.ok (.slice _) _ [v]:=(show _/\_ from hv).1;simp only[DRep]at hv';obtain⟨A,c,xs,e1,hl,hc,hd,hx⟩:=hv';simp only[BB,Cm]at e1;exact⟨A,c,xs,e1,hl,hc,hd,λj u hj=>by obtain⟨ad,h1,_,h2⟩:=hx j u hj;exact⟨ad,h1,h2⟩⟩
  ·cases h
 ·rename_i b ver
  cases hr:DS blp b ver e with
  |none=>rw[hr]at h;cases h
  |some l'=>rw[hr]at h;simp only[Cl,Ac,AN]at h;obtain⟨rfl,rfl⟩:=h;obtain⟨t,sv,xs,hbl,hpl,rfl,hd,ho⟩:=SS hb (λt e ver l h=>hsub b (by simp) _ h) hr hv;exact Reads.of_own hd ho
 ·rename_i b ver i j
  cases hr:DS blp b ver e with
  |none=>rw[hr]at h;cases h
  |some l'=>rw[hr]at h;simp only[Cl,Ac,AN]at h;obtain⟨rfl,rfl⟩:=h;obtain⟨t,sv,xs,hB,hbl,hpl,hd,ho⟩:=Of hb (λt e ver l h=>hsub b (by simp) _ h) hr;obtain⟨_,sv2,svs2,hpl2,hcur⟩:=hv;rw[hpl]at hpl2;injection hpl2 with hpl2;injection hpl2 with hpl2 _;subst hpl2;obtain⟨A,c,ys,q1,q2,q3,q4,q5⟩:=SU ((hcur _ _ _ _ hbl).2 rfl) hd ho;exact⟨A,c,ys,q1,q2,q3,q4,λk u hk=>by obtain⟨ad,r1,_,r3⟩:=q5 k u hk;exact⟨ad,r1,r3⟩⟩
 ·cases h
theorem Hc{w w':World}{a:Act}{x y:Operand}{c:Call}{t:TypeId}(ho:o.op=.call c)(hc:c.callee=.builtin .append)(ha:c.args.toList=[x,y])(ht:c.argTypes.toList=[t,t]){v:Value}(h:(Builtin.append_ #[t,t] o.type #[a.eval x,a.eval y]).run P w=.ok v w'):(execOp a.eval o).run P w=.ok (.value v) w':=by
 have h1:c.args=#[x,y]:=by rw[<-CP (xs:=c.args),ha]
 have h2:c.argTypes=#[t,t]:=by rw[<-CP (xs:=c.argTypes),ht]
 simp[execOp,ho,resolve,hc,h1,h2,invoke,builtin,h]
theorem vD{T:TypeId->Option TI}(hT:TOk P T){kk:K β}{c:Call}(ho:o.op=.call c)(hc:c.callee=.builtin .append){x y:Operand}{t:TypeId}{nx:Nat}(ha:c.args.toList=[x,y])(hty:c.argTypes.toList=[t,t])(hk:S7 T bl nx t (ρ x) (ρ y) kk=some r):Sound P o ρ bl kk r:=by
 have hargs:c.args=#[x,y]:=by rw[<-CP (xs:=c.args),ha]
 have hx0:x∈o.op.operands:=by simp[ho,Op.operands,Call.operands,hargs]
 have hy0:y∈o.op.operands:=by simp[ho,Op.operands,Call.operands,hargs]
 unfold S7 at hk;split at hk
 ·cases hk
 rename_i ti ht;obtain⟨i,d,z,f⟩:=hT.facts ht;split at hk
 ·rename_i et hel hal
  have hd:=CC f hel hal;subst hd;split at hk
  ·cases hk
  rename_i te hte;obtain⟨i',d',z',fe⟩:=hT.facts hte;split at hk
  ·cases hk
  rename_i e hety;cases hs:(Nat.beq e.size te.size&&(Nat.blt 0 te.size&&Nat.blt 0 te.bytes))with
  |false=>rw[hs]at hk;cases hk
  |true=>
   obtain⟨hs1,hs23⟩:=andB hs;obtain⟨hs2,hs3⟩:=andB hs23;have hs1:=Ag hs1;have hs2:=BL hs2;have hs3:=BL hs3;simp only[hs,Af]at hk;split at hk
   ·cases hk
   rename_i new rd hsrc;split at hk
   ·
    rename_i hx;split at hk
    ·rename_i hn
     obtain⟨hroom,hk⟩:=B8 hk;have hroom:=Az hroom;refine⟨_,_,_,hk,λbl2 hb2=>?_⟩;have hn2:bl2 nx=none:=(hb2 nx (by simp)).trans hn;intro ok0 base pl w a hr hxs K Q hK;have hv:a.eval x=.slice none 0 0:=by have:=hxs x hx0;rw[hx]at this;exact this
     have hrd:Reads w (Ae ok0 base pl bl2 w).ok e new (a.eval y):=HU hr.blksOk hsrc (λb hb B hB=>(hb2 b (by simp[hb])).trans hB) (hxs y hy0);obtain⟨v',w',ys,hrun,hown,hgr,hloc,hdl⟩:=Oq (P:=P) w.heap.size fe f.under (ty:=o.type) hs1 hs2 hs3 (World.ownsRow_nil w w.heap.size et e.size) hrd (by simpa using hroom) (Ao _);have hgr':w.grownBy w' none:=hgr;have hp:∀g,(Pl.row v' []).has g->w.heap.size<=g:=λg hg=>(hown.lt g (Pl.has_row hg)).1;have hst:Step pl bl2 w (upd pl nx (.row v' [])) (upd bl2 nx (.row et e 0 new)) w':=Step.new hr hn2 hgr' hp;refine CB (Hc ho hc ha hty (by rw[hv];exact hrun)) (hK v' (upd pl nx (.row v' [])) w' ?_ hst ?_)
     ·refine RelB.new hr hn2 hgr' hp ⟨rfl,ys,hdl.mono λx u hu=>hu.mono hst.ext.heap,?_⟩
      simp only[BW,Cp]at hown;exact Jh hown hr.baseLe
     ·refine⟨?_,v',[],by simp[Ae,upd],λt1 e1 ver1 l1 h1=>?_⟩
      ·rcases hown.2 with⟨rfl,_⟩|⟨g,cap,cur,rfl,_⟩<;>rfl
      ·simp only[Ae,updL,upd,B7,Ac]at h1
       injection h1 with q1 q2 q3 q4;subst q3;exact⟨Ao _,λ_=>rfl⟩
    ·cases hk
   ·
    rename_i b ver hx;split at hk
    ·rename_i t0 e0 ver' l hb
     cases hvt:(Nat.beq ver ver'&&Nat.beq t0 et)with
     |false=>rw[hvt]at hk;cases hk
     |true=>
      obtain⟨hver,ht0⟩:=andB hvt;have:=Ag hver;subst this;have:=Ag ht0;subst this;simp only[hvt,Af]at hk;split at hk
      ·rename_i he
       subst he;obtain⟨hroom,hk⟩:=B8 hk;have hroom:=Az hroom;refine⟨_,_,_,hk,λbl2 hb2=>?_⟩;have hb':bl2 b=some (.row t0 e0 ver l):=(hb2 b (by simp)).trans hb;intro ok0 base pl w a hr hxs K Q hK;have hv:=hxs x hx0;rw[hx]at hv;obtain⟨_,sv,svs,hg,hcur⟩:=hv;have hav:=(hcur t0 e0 ver l hb').2 rfl;obtain⟨p,hp,hB⟩:=hr.blks b _ hb';have:p=.row sv svs:=by have h2:pl b=some (.row sv svs):=hg;rw[hp]at h2;injection h2
       subst this;obtain⟨h0,xs,hd',hown0⟩:=hB;subst h0;have hrd:Reads w (Ae ok0 base pl bl2 w).ok e0 new (a.eval y):=HU hr.blksOk hsrc (λb hb B hB=>(hb2 b (by simp[hb])).trans hB) (hxs y hy0);obtain⟨v',w',ys,hrun,hown,hgr,hloc,hdl⟩:=Oq (P:=P) base fe f.under (ty:=o.type) hs1 hs2 hs3 hown0 hrd hroom hr.baseLe
       have hloc':v'.ownBlock=sv.ownBlock\/∀g,v'.ownBlock=some g->w.heap.size<=g:=by
        rcases hloc with h|h
        ·exact .inl h
        ·exact .inr λg hg=>by rw[h]at hg;injection hg with hg;exact DQ hg
       have hst:=Step.grown (l':=l++new) (ver':=ver+1) hr hb' hp hgr hloc' ⟨by omega,λh=>by omega⟩;refine CB (Hc ho hc ha hty (by rw[hav];exact hrun)) (hK v' (upd pl b (.row v' [])) w' ?_ hst ?_)
       ·refine RelB.grown hr hb' hp hgr hloc' ⟨by omega,λh=>by omega⟩ ⟨rfl,xs++ys,(hd'.mono λx u hu=>hu.mono hst.ext.heap).append (hdl.mono λx u hu=>hu.mono hst.ext.heap),?_⟩
        rw[Av];exact hown
       ·refine⟨?_,v',[],by simp[Ae,upd],λt1 e1 ver1 l1 h1=>?_⟩
        ·rcases hown.2 with⟨rfl,_⟩|⟨g,cap,cur,rfl,_⟩<;>rfl
        ·simp only[Ae,updL,upd,B7,Ac]at h1
         injection h1 with q1 q2 q3 q4;subst q3;exact⟨Ao _,λ_=>rfl⟩
      ·cases hk
    ·cases hk
   ·
    rename_i b iver ix hx;split at hk
    ·rename_i t0 et0 e0 ver iver' l hb hn
     cases hvt:(Nat.beq iver iver'&&Nat.beq et0 et)with
     |false=>rw[hvt]at hk;cases hk
     |true=>
      obtain⟨hver,ht0⟩:=andB hvt;have:=Ag hver;subst this;have:=Ag ht0;subst this;simp only[hvt,Af]at hk;split at hk
      ·rename_i he
       subst he;obtain⟨hroom,hk⟩:=B8 hk;have hroom:=Az hroom;refine⟨_,_,_,hk,λbl2 hb2=>?_⟩;have hb':bl2 b=some (.mat t0 et0 e0 ver iver none l):=(hb2 b (by simp)).trans hb;have hn2:bl2 nx=none:=(hb2 nx (by simp)).trans hn;intro ok0 base pl w a hr hxs K Q hK;have hbn:b≠nx:=by rintro rfl;rw[hb']at hn2;cases hn2
       have hv:=hxs x hx0;rw[hx]at hv;obtain⟨_,sv,svs,hg,hcur⟩:=hv;obtain⟨hri,hss⟩:=(hcur _ _ _ _ _ _ _ hb').2 rfl;obtain⟨p,hp,hB⟩:=hr.blks b _ hb';have:p=.row sv svs:=by have h2:pl b=some (.row sv svs):=hg;rw[hp]at h2;injection h2
       subst this;have hM:MatOk _ t0 et0 e0 none l sv svs:=hB;obtain⟨xs,hd',hown0⟩:=hM.inner ix (a.eval x) l[ix] hss (Bx hri);have hgd:l.getD ix []=l[ix]:=by simp[List.getD,hri]
       rw[hgd]at hroom hK;generalize hlx:l[ix]=xr at*;have hrd:Reads w (Ae ok0 base pl bl2 w).ok e0 new (a.eval y):=HU hr.blksOk hsrc (λb hb B hB=>(hb2 b (by simp[hb])).trans hB) (hxs y hy0);obtain⟨v',w',ys,hrun,hown,hgr,hloc,hdl⟩:=Oq (P:=P) base fe f.under (ty:=o.type) hs1 hs2 hs3 hown0 hrd hroom hr.baseLe;have hnone:∀k:Nat,svs[k]?≠some none:=λk h=>by have:=hM.hole k h;cases this
       have hix2:ix<svs.length:=by rw[hM.len];exact hri
       have hset:∀(k:Nat)(s:Value),(svs.set ix none)[k]?=some (some s)->k≠ix/\svs[k]?=some (some s):=λk s h=>by
        by_cases hki:k=ix
        ·subst hki
         rw[GM hix2]at h;injection h with h;cases h
        ·rw[Ga (λh=>hki h.symm)]at h
         exact⟨hki,h⟩
       have hownb:∀g,(Pl.row sv svs).has g->AL pl bl2 b g:=λg h=>⟨_,_,hb',rfl,hp,h⟩;have hltb:∀g,(Pl.row sv svs).has g->g<w.heap.size:=λg h=>Own.lt hr ⟨b,_,_,hb',rfl,hp,h⟩
       have hhas':∀g,(Pl.row sv (svs.set ix none)).has g->(Pl.row sv svs).has g/\(a.eval x).ownBlock≠some g:=λg h=>by
        rcases h with h|⟨k,s,hks,h⟩
        ·exact⟨.inl h,hM.sep0 ix _ g hss h⟩
        ·obtain⟨hki,hks⟩:=hset k s hks
         exact⟨.inr ⟨k,s,hks,h⟩,λh2=>hM.sep k ix s _ g hki hks hss h h2⟩
       have hog:∀g,(a.eval x).ownBlock=some g->AL pl bl2 b g\/AL pl bl2 nx g:=λg h=>.inl (hownb g (.inr ⟨ix,_,hss,h⟩))
       have hj:∀g,v'.ownBlock=some g->AL pl bl2 b g\/AL pl bl2 nx g\/w.heap.size<=g:=λg h=>by
        rcases hloc with h2|h2
        ·rw[h2]at h
         exact .inl (hownb g (.inr ⟨ix,_,hss,h⟩))
        ·rw[h2]at h
         injection h with h;exact .inr (.inr (DQ h))
       have hpn:=hr.fresh nx hn2
       have hst:Step pl bl2 w (upd (upd pl b (.row sv (svs.set ix none))) nx (.row v' [])) (upd (upd bl2 b (.mat t0 et0 e0 ver (iver+1) (some ix) l)) nx (.row et0 e0 0 (xr++new))) w':=by refine Step.two hr hbn hgr hog (λg _ h=>.inl (hownb g (hhas' g h).1)) (λg _ h=>hj g (Pl.has_row h)) (λg h=>by rw[hp]at h;cases h) (λg h=>by rw[hpn]at h;cases h) (λsv0 svs0 h=>?_) (λsv0 svs0 h=>by rw[hpn]at h;cases h);rw[hp]at h;injection h with h;injection h with h h2;subst h h2;refine⟨_,_,rfl,?_⟩;rw[hb'];exact KeepR.ofMat ⟨Ao _,λ_=>⟨rfl,rfl⟩⟩ ⟨by omega,λh=>by omega⟩
       have hext:=hst.ext (ok0:=ok0) (base:=base);have hsame:∀g,(Pl.row sv svs).has g->(a.eval x).ownBlock≠some g->w'.heap[g]?=w.heap[g]?:=λg h hne=>hgr.block g (hltb g h) (λh2=>hne h2.symm);refine CB (Hc ho hc ha hty hrun) (hK v' (upd (upd pl b (.row sv (svs.set ix none))) nx (.row v' [])) w' ?_ hst ?_)
       ·refine RelB.two hr hbn hgr hog (λg _ h=>.inl (hownb g (hhas' g h).1)) (λg _ h=>hj g (Pl.has_row h)) (λg _ _ h h2=>?_) hst ?_ ?_
        ·have h2:=Pl.has_row h2
         obtain⟨h3,h4⟩:=hhas' g h;rcases hloc with h5|h5
         ·rw[h5]at h2;exact h4 h2
         ·rw[h5]at h2
          have h6:=F3 h2;have h7:=hltb g h3;rw[<-h6]at h7;exact Nat.lt_irrefl _ h7
        ·obtain⟨vs,ho1,ho2⟩:=hM.outer
         refine⟨⟨vs,E8 (Ao _) (λg h=>hsame g (.inl h) (hM.sep0 ix _ g hss h)) ho1,λk s hks=>ho2 k s (hset k s hks).2⟩,by simp[hM.len],λk hk=>?_,λk s xx hks hkx=>?_,λk s g hks=>hM.sep0 k s g (hset k s hks).2,λk j s s' g hkj hks hjs=>hM.sep k j s s' g hkj (hset k s hks).2 (hset j s' hjs).2⟩
         ·by_cases hki:k=ix
          ·rw[hki]
          ·rw[Ga (λh=>hki h.symm)]at hk
           exact absurd hk (hnone k)
         ·obtain⟨hki,hks⟩:=hset k s hks
          obtain⟨zs,q1,q2⟩:=hM.inner k s xx hks hkx;exact⟨zs,q1.mono λx u hu=>hu.mono hext.heap,E8 (Ao _) (λg h=>hsame g (.inr ⟨k,s,hks,h⟩) (λh2=>hM.sep k ix s _ g hki hks hss h h2)) q2⟩
        ·refine⟨rfl,xs++ys,(hd'.mono λx u hu=>hu.mono hext.heap).append (hdl.mono λx u hu=>hu.mono hext.heap),?_⟩
         rw[Av];exact hown
       ·refine⟨?_,v',[],by simp[Ae,upd],λt1 e1 ver1 l1 h1=>?_⟩
        ·rcases hown.2 with⟨rfl,_⟩|⟨g,cap,cur,rfl,_⟩<;>rfl
        ·simp only[Ae,updL,upd,B7,Ac]at h1
         injection h1 with q1 q2 q3 q4;subst q3;exact⟨Ao _,λ_=>rfl⟩
      ·cases hk
    ·cases hk
   ·cases hk
 ·cases hk
end
end Go.Lift
namespace Go.Lift
open Go.RowKit
theorem Z7(off:Nat):∀(vs:List Value)(k:Nat)(cs:Array Value),off+k+vs.length<=cs.size->((vs.zipIdx k).foldl (λ(cs:Array Value)(p:Value×Nat)=>cs.setIfInBounds (off+p.2) p.1) cs).toList=cs.toList.take (off+k)++vs++cs.toList.drop (off+k+vs.length)
 |[],k,cs,h=>by simp
 |v::vs,k,cs,h=>by simp only[List.zipIdx_cons,List.foldl_cons];simp only[Aw]at h;rw[Z7 off vs (k+1) _ (by simp;omega)];have e:=list_seg_step cs.toList (off+k) v vs (by simp;omega);simpa [Array.toList_setIfInBounds,HA]using e
theorem Z8(off:Nat)(v:Value)(cs:Array Value)(h:off+v.cells.toList.length<=cs.size):(v.cells.zipIdx.foldl (λcs(c,j)=>cs.setIfInBounds (off+j) c) cs)=(cs.toList.take off++v.cells.toList++cs.toList.drop (off+v.cells.toList.length)).toArray:=by
 apply Dc;have h1:=Z7 off v.cells.toList 0 cs (by simpa using h);simp only[HE]at h1;rw[<-Array.foldl_toList];simpa using h1
section
variable{P:Program}{o:Oper}{ρ:Operand->V}{bl:Nat->Option Blk}{β:Type}{r:β}
theorem Ti{E:Env}{T:TypeId->Option TI}(place:Nat->Option (Nat×Nat))(ti:TI)(hplace:∀i v cs0 rest ps,Dn ti T ((i,v)::rest)=some ps->v.cells=some cs0->∃off,place i=some (off,cs0.length)/\∃ps',Dn ti T rest=some ps'/\ps=(off,cs0)::ps'):∀(parts:List (Nat×V))(vals:List (Nat×Value))(ps:List (Nat×List C))(cs cs':List C)(vs:List Value),Dn ti T parts=some ps->vals.map (·.1)=parts.map (·.1)->(∀(j:Nat)(p:Nat×V)(q:Nat×Value),parts[j]?=some p->vals[j]?=some q->VRep E p.2 q.2)->CReps E cs vs->GZ cs ps=some cs'->∃us,Instr.fill place vs.toArray vals=some us.toArray/\CReps E cs' us:=by
 intro parts
 induction parts with
 |nil=>
  intro vals ps cs cs' vs hp hm hv hc hf;simp only[Dn,Ac]at hp;subst hp;simp only[GZ,Ac]at hf;subst hf;cases vals with
  |nil=>exact⟨vs,rfl,hc⟩
  |cons q vals=>simp at hm
 |cons p parts ih=>
  intro vals ps cs cs' vs hp hm hv hc hf;obtain⟨i,v⟩:=p;cases vals with
  |nil=>simp at hm
  |cons q vals=>
   obtain⟨i',x⟩:=q;simp only[Bp,BB]at hm;obtain⟨hi,hm⟩:=hm;have hi:i'=i:=hi;subst hi
   have hvc:∃cs0,v.cells=some cs0:=by
    simp only[Dn]at hp;cases hvc:v.cells with
    |some cs0=>exact⟨cs0,rfl⟩
    |none=>rw[hvc]at hp;simp at hp
   obtain⟨cs0,hvc⟩:=hvc;obtain⟨off,h1,ps',h2,rfl⟩:=hplace i' v cs0 parts ps hp hvc;simp only[GZ]at hf;split at hf
   ·rename_i cs1 hov
    have hx:=VRep.cells_of hvc (hv 0 _ _ rfl rfl);have hxl:=hx.length;obtain⟨s1,s2⟩:=KN hc hx hov;obtain⟨us,h3,h4⟩:=ih vals ps' cs1 cs' _ h2 hm (λj p q hp hq=>hv (j+1) p q (by simpa using hp) (by simpa using hq)) s1 hf;refine⟨us,?_,h4⟩;simp only at hxl s2 h3;have hsz:x.cells.size=cs0.length:=by simpa using hxl
    have hsz2:¬(off+x.cells.size>vs.toArray.size):=by simp at s2⊢;omega
    simp only[Instr.fill,h1];rw[if_neg (by simp only[hsz,ne_eq,NA,decide_false,HC,EZ];rw[<-hsz];exact hsz2),Z8 off x vs.toArray (by simpa using s2)];exact h3
   ·cases hf
theorem vE(fs:List Field)(hk:fs.all (λf=>(P.info? f.type).isSome&&(P.underlying f.type).isSome)=true)(w:World):(fs.mapM λf=>(do pure (f.offset,<-sizeOf f.type):Sem (Nat×Nat))).run P w=.ok (fs.map λf=>(f.offset,P.cellsOf f.type)) w:=by
 induction fs with
 |nil=>rfl
 |cons f fs ih=>
  simp only[NJ,Bv]at hk;obtain⟨⟨h1,_⟩,h2⟩:=hk;obtain⟨i,hi⟩:=Sc.1 h1;have hs:(sizeOf f.type).run P w=.ok (P.cellsOf f.type) w:=by simp[sizeOf,typeInfo,hi,Program.cellsOf]
  simp only[List.mapM_cons,Sem.run_bind,hs,Result.andThen_ok,Sem.run_pure,ih (by simpa using h2),Bp]
theorem vF{ti:TI}{T:TypeId->Option TI}(hlen:ti.len=none){i:Nat}{v:V}{cs0:List C}{rest:List (Nat×V)}{ps:List (Nat×List C)}(h:Dn ti T ((i,v)::rest)=some ps)(hv:v.cells=some cs0):∃off g,ti.flds[i]?=some (off,cs0.length,g)/\∃ps',Dn ti T rest=some ps'/\ps=(off,cs0)::ps':=by
 simp only[Dn,hv,hlen]at h;split at h
 ·rename_i cs1 rest' he hr
  simp only[Ac]at he;subst he;split at h
  ·rename_i off n g hf
   cases hb:Nat.beq cs0.length n with
   |false=>rw[hb]at h;cases h
   |true=>have:=Ag hb;subst this;simp only[hb,Af,Ac]at h;exact⟨off,g,hf,rest',hr,h.symm⟩
  ·cases h
 ·cases h
theorem Z9{ti:TI}{T:TypeId->Option TI}{n:Nat}{e:TypeId}{te:TI}(hlen:ti.len=some n)(hel:ti.elem=some e)(hte:T e=some te){i:Nat}{v:V}{cs0:List C}{rest:List (Nat×V)}{ps:List (Nat×List C)}(h:Dn ti T ((i,v)::rest)=some ps)(hv:v.cells=some cs0):cs0.length=te.size/\∃ps',Dn ti T rest=some ps'/\ps=(i*te.size,cs0)::ps':=by
 simp only[Dn,hv,hlen,hel,hte]at h;split at h
 ·rename_i cs1 rest' he hr
  simp only[Ac]at he;subst he;cases hb:Nat.beq cs0.length te.size with
  |false=>rw[hb]at h;cases h
  |true=>simp only[hb,Af,Ac]at h;exact⟨Ag hb,rest',hr,h.symm⟩
 ·cases h
theorem vG{T:TypeId->Option TI}(hT:TOk P T){kk:K β}{t:TypeId}{parts:Array (Nat×Operand)}(ho:o.op=.build t parts){ti:TI}(ht:T t=some ti)(hagg:ti.agg=true){ps:List (Nat×List C)}(hp:Dn ti T (parts.toList.map λp=>(p.1,ρ p.2))=some ps){cs:List C}(hf:GZ ti.zero ps=some cs)(hk:kk (.agg cs) [] []=some r):Sound P o ρ bl kk r:=by
 obtain⟨i,d,z,f⟩:=hT.facts ht;have hu:=f.under;refine Sound.pure hk λbl2 _ ok0 base pl w a hr hxs=>?_;have hzero:CReps (Ae ok0 base pl bl2 w) ti.zero z.cells.toList:=by rw[f.zeroC];exact Hb f.one
 have hvals:∀(j:Nat)(p:Nat×V)(q:Nat×Value),(parts.toList.map λp=>(p.1,ρ p.2))[j]?=some p->(parts.toList.map λp=>(p.1,a.eval p.2))[j]?=some q->VRep (Ae ok0 base pl bl2 w) p.2 q.2:=by
  intro j p q h1 h2;rw[C0]at h1 h2;cases hj:parts.toList[j]? with
  |none=>rw[hj]at h1;cases h1
  |some x=>rw[hj]at h1 h2;simp only[Cl,Ac]at h1 h2;subst h1 h2;exact hxs x.2 (by simp only[ho,Op.operands];exact ND.2 (CJ.2 ⟨x,B6 hj,rfl⟩))
 have hmap:(parts.toList.map λp=>(p.1,a.eval p.2)).map (·.1)=(parts.toList.map λp=>(p.1,ρ p.2)).map (·.1):=by simp
 rw[f.agg]at hagg;unfold Ep at hagg;rw[hu]at hagg;cases d<;>try(simp at hagg;done)
 ·
  rename_i n e;have hel:ti.elem=some e:=by rw[f.elem];rfl
  have hlen:ti.len=some n:=by rw[f.alen];rfl
  have hkn:=f.known;simp only[Je,Bv]at hkn;obtain⟨ie,hie⟩:=Sc.1 hkn.1;have hsz:(sizeOf e).run P w=.ok ie.size w:=by simp[sizeOf,typeInfo,hie]
  cases hparts:(parts.toList.map λp=>(p.1,ρ p.2))with
  |nil=>
   rw[hparts]at hp;simp only[Dn,Ac]at hp;subst hp;simp only[GZ,Ac]at hf;subst hf;have hemp:parts.toList=[]:=by simpa using hparts
   have hpe:parts=#[]:=by simpa using hemp
   exact⟨.agg z.cells,by simp[execOp,ho,Instr.build,zeroValue,typeInfo,f.info,f.zero,run_underlying hu,hsz,hpe,Instr.fill],z.cells.toList,hzero,by simp⟩
  |cons p0 rest=>
   have hte:∃te,T e=some te:=by
    rw[hparts]at hp;obtain⟨i0,v0⟩:=p0;simp only[Dn,hlen,hel]at hp;cases hte:T e with
    |some te=>exact⟨te,rfl⟩
    |none=>rw[hte]at hp;split at hp<;>simp at hp
   obtain⟨te,hte⟩:=hte;obtain⟨i',d',z',fe⟩:=hT.facts hte
   have hes:ie.size=te.size:=by have h1:=fe.info;rw[hie]at h1;injection h1 with h1;rw[fe.size,h1]
   obtain⟨us,h1,h2⟩:=Ti (T:=T) (E:=Ae ok0 base pl bl2 w) (λi=>some (i*ie.size,ie.size)) ti
    (λi v cs0 rest ps h hv=>by obtain⟨h1,ps',h2,h3⟩:=Z9 hlen hel hte h hv;exact⟨i*te.size,by rw[hes,h1],ps',h2,h3⟩) _ _ _ _ _ _ hp hmap hvals hzero hf
   refine⟨.agg us.toArray,?_,us,h2,by simp⟩;simp only[CP]at h1;simp[execOp,ho,Instr.build,zeroValue,typeInfo,f.info,f.zero,run_underlying hu,hsz,h1]
 ·
  rename_i fs;have hlen:ti.len=none:=by rw[f.alen];rfl
  have hkn:=f.known;simp only[Je]at hkn;have hpl:=vE (P:=P) fs.toList hkn w
  have hpl':(fs.mapM λf=>(do pure (f.offset,<-sizeOf f.type):Sem (Nat×Nat))).run P w=.ok (fs.toList.map λf=>(f.offset,P.cellsOf f.type)).toArray w:=by rw[Array.mapM_eq_mapM_toList,Sem.run_map,hpl];rfl
  obtain⟨us,h1,h2⟩:=Ti (T:=T) (E:=Ae ok0 base pl bl2 w) ((fs.toList.map λf=>(f.offset,P.cellsOf f.type)).toArray[·]?) ti
   (λi v cs0 rest ps h hv=>by
    obtain⟨off,g,h1,ps',h2,h3⟩:=vF hlen h hv;refine⟨off,?_,ps',h2,h3⟩;rw[f.flds]at h1;simp only[Oa,C0]at h1;simp only[N5,C0];cases hfi:fs.toList[i]? with
    |none=>rw[hfi]at h1;cases h1
    |some fd=>rw[hfi]at h1;simp only[Cl,Ac,AN]at h1⊢;exact⟨h1.1,h1.2.1⟩) _ _ _ _ _ _ hp hmap hvals hzero hf
  refine⟨.agg us.toArray,?_,us,h2,by simp⟩
  have hpl2:(fs.mapM λf=>Prod.mk f.offset <$> sizeOf f.type:Sem (Array (Nat×Nat))).run P w=.ok (fs.toList.map λf=>(f.offset,P.cellsOf f.type)).toArray w:=by simpa only[map_eq_pure_bind]using hpl'
  simp only[CP]at h1;simp only[execOp,ho,Instr.build,zeroValue,typeInfo,f.info,f.zero,run_underlying hu,Sem.run_bind,run_program,Result.andThen_ok,Sem.run_pure,hpl',IL,h1]
theorem ZA{T:TypeId->Option TI}(hT:TOk P T){kk:K β}{t:TypeId}{parts:Array (Nat×Operand)}(ho:o.op=.build t parts)(hk:NV T t (parts.toList.map λp=>(p.1,ρ p.2)) kk=some r):Sound P o ρ bl kk r:=by
 unfold NV at hk;split at hk
 ·rename_i ti ht
  cases hagg:ti.agg with
  |false=>rw[hagg]at hk;cases hk
  |true=>
   simp only[hagg,Af]at hk;split at hk
   ·rename_i ps hps
    split at hk
    ·rename_i cs hcs;exact vG hT ho ht hagg hps hcs hk
    ·cases hk
   ·cases hk
 ·cases hk
def repL(n:Nat)(l:List Value):List Value:=
 match n with
 |0=>[]
 |n+1=>l++repL n l
theorem ZB(l:List Value):∀n,repL n l++l=l++repL n l
 |0=>by simp[repL]
 |n+1=>by simp only[repL,AW];rw[ZB l n]
theorem ZC{E:Env}{cs:List C}{vs:List Value}(h:CReps E cs vs):∀n,CReps E (repC n cs) (repL n vs)
 |0=>rfl
 |n+1=>h.append (ZC h n)
theorem HV(z:Array Value)(hz:0<z.size):∀n,(madeCells z (n*z.size)).toList=repL n z.toList
 |0=>by simp[madeCells,repL]
 |n+1=>by
  have ih:=HV z hz n
  have e:(madeCells z ((n+1)*z.size)).toList=(madeCells z (n*z.size)).toList++z.toList:=by
   simp only[madeCells,IL,Array.toList_range,DP,List.range_add,Gc];congr 1;apply Kq;intro j;simp only[C0,Ku];by_cases hj:j<z.size
   ·rw[List.getElem?_range hj]
    have hm:(n*z.size+j)%z.size=j:=by rw[Nat.mul_comm,Nat.mul_add_mod,Nat.mod_eq_of_lt hj]
    simp[hm,hj]
   ·have h1:(List.range z.size)[j]?=none:=by simp;omega
    rw[h1];simp;omega
  rw[e,ih,ZB];rfl
theorem DList.rep{w:World}{ok:Nat->Prop}{e:Ty}{x:e.den}{vs:List Value}(h:DRep w ok e x vs):∀n,DList (λx u=>DRep w ok e x u) (List.replicate n x) (repL n vs)
 |0=>rfl
 |n+1=>⟨vs,repL n vs,rfl,h,DList.rep h n⟩
theorem ZD{kk:K β}{nx:Nat}{et:TypeId}{e:Ty}{l:List e.den}(hn:bl nx=none)(hk:kk (.c (.row nx 0)) [nx] [(nx,.row et e 0 l)]=some r)(hlm:l.length<=maxLen)(hrun:∀(bl2:Nat->Option Blk)(ok0:OK0 P)(base:Nat)(pl:Nat->Option Pl)(w:World)(a:Act),RelB ok0 base pl bl2 w->(∀x∈o.op.operands,VRep (Ae ok0 base pl bl2 w) (ρ x) (a.eval x))->∃us:List Value,(execOp a.eval o).run P w=.ok (.value (.slice (some ⟨w.heap.size,0,none⟩) l.length l.length)) (w.alloc (.cells us.toArray et))/\DList (λx u=>DRep w (Ae ok0 base pl bl2 w).ok e x u) l us):Sound P o ρ bl kk r:=by
 refine⟨_,_,_,hk,λbl2 hb=>?_⟩;have hn2:bl2 nx=none:=(hb nx (by simp)).trans hn;intro ok0 base pl w a hr hx K Q hK;obtain⟨us,h1,h2⟩:=hrun bl2 ok0 base pl w a hr hx;have hg:w.grownBy (w.alloc (.cells us.toArray et)) none:=World.grownBy_alloc w _ none
 have hp:∀g,(Pl.row (.slice (some ⟨w.heap.size,0,none⟩) l.length l.length) []).has g->w.heap.size<=g:=by intro g hgg;have hgg:=Pl.has_row hgg;simp only[Value.ownBlock,Ac]at hgg;exact DQ hgg
 have hs:Step pl bl2 w (upd pl nx (.row (.slice (some ⟨w.heap.size,0,none⟩) l.length l.length) [])) (upd bl2 nx (.row et e 0 l)) (w.alloc (.cells us.toArray et)):=Step.new hr hn2 hg hp;refine CB h1 (hK _ (upd pl nx (.row (.slice (some ⟨w.heap.size,0,none⟩) l.length l.length) [])) _ ?_ hs ?_)
 ·refine RelB.new hr hn2 hg hp ⟨rfl,us,h2.mono λx u hu=>hu.mono hs.ext.heap,?_⟩
  have hl:=h2.length;exact⟨hl,.inr ⟨w.heap.size,l.length,us.toArray,rfl,hr.baseLe,heap_alloc_new w _,Ao _,hlm,by simpa using hl,by rw[<-hl];simp⟩⟩
 ·refine⟨rfl,.slice (some ⟨w.heap.size,0,none⟩) l.length l.length,[],by simp[Ae,upd],λt1 e1 ver1 l1 h1=>?_⟩
  simp only[Ae,updL,upd,B7,Ac]at h1;injection h1 with q1 q2 q3 q4;subst q3;exact⟨Ao _,λ_=>rfl⟩
theorem vH{T:TypeId->Option TI}(hT:TOk P T){kk:K β}{nx:Nat}{t:TypeId}{n:Nat}{parts:Array (Nat×Operand)}(ho:o.op=.buildSlice t n parts)(hk:SJ T bl nx t n (parts.toList.map λp=>(p.1,ρ p.2)) kk=some r):Sound P o ρ bl kk r:=by
 unfold SJ at hk;split at hk
 ·cases hk
 rename_i ti ht;obtain⟨i,d,z,f⟩:=hT.facts ht;split at hk
 ·rename_i et hel hal
  have hd:=CC f hel hal;subst hd;have hu:=f.under;split at hk
  ·cases hk
  rename_i te hte;obtain⟨i',d',z',fe⟩:=hT.facts hte;split at hk
  ·cases hk
  rename_i e hety;cases hs:(Nat.beq e.size te.size&&(Nat.ble (n*te.size) 16777216&&Nat.blt 0 te.size))with
  |false=>rw[hs]at hk;cases hk
  |true=>
   obtain⟨hs1,hs23⟩:=andB hs;obtain⟨hs2,hs3⟩:=andB hs23;have hs1:=Ag hs1;have hs2:=D6 hs2;have hs3:=BL hs3;simp only[hs,Af]at hk;split at hk
   ·cases hk
   rename_i ps hps;split at hk
   ·cases hk
   rename_i cs hcs;split at hk
   ·rename_i l hl hn
    have hll:l.length=n:=by
     have:∀{m:Nat}{cs:List C}{l:List e.den},EB (λ_=>none) e m cs=some l->l.length=m:=by
      intro m
      induction m with
      |zero=>
       intro cs l h;cases cs with
       |nil=>simp only[EB,Ac]at h;subst h;rfl
       |cons c cs=>simp[EB]at h
      |succ m ih=>
       intro cs l h;simp only[EB]at h;split at h
       ·split at h
        ·rename_i l' hl'
         simp only[Ac]at h;subst h;simp[ih hl']
        ·cases h
       ·cases h
     exact this hl
    have hnm:n<=n*te.size:=Sd _ hs3;refine ZD hn hk (by simp only[maxLen];omega) λbl2 ok0 base pl w a hr hxs=>?_
    have hzl:z'.cells.size=te.size:=by have:=fe.len;rw[CQ]at this;rw[this,fe.size]
    have hzero:CReps (Ae ok0 base pl bl2 w) (repC n te.zero) (repL n z'.cells.toList):=ZC (by rw[fe.zeroC];exact Hb fe.one) n
    have hvals:∀(j:Nat)(p:Nat×V)(q:Nat×Value),(parts.toList.map λp=>(p.1,ρ p.2))[j]?=some p->(parts.toList.map λp=>(p.1,a.eval p.2))[j]?=some q->VRep (Ae ok0 base pl bl2 w) p.2 q.2:=by
     intro j p q h1 h2;rw[C0]at h1 h2;cases hj:parts.toList[j]? with
     |none=>rw[hj]at h1;cases h1
     |some x=>rw[hj]at h1 h2;simp only[Cl,Ac]at h1 h2;subst h1 h2;exact hxs x.2 (by simp only[ho,Op.operands];exact ND.2 (CJ.2 ⟨x,B6 hj,rfl⟩))
    have hmap:(parts.toList.map λp=>(p.1,a.eval p.2)).map (·.1)=(parts.toList.map λp=>(p.1,ρ p.2)).map (·.1):=by simp
    obtain⟨us,h1,h2⟩:=Ti (T:=T) (E:=Ae ok0 base pl bl2 w) (λi=>some (i*te.size,te.size)) _
     (λi v cs0 rest ps h hv=>by obtain⟨h1,ps',h2,h3⟩:=Z9 (ti:={te with elem:=some et,len:=some n}) rfl rfl hte h hv;exact⟨i*te.size,by rw[h1],ps',h2,h3⟩) _ _ _ _ _ _ hps hmap hvals hzero hcs
    obtain⟨d1,d2⟩:=Oh hr.blksOk (Rows.none _ _) h2 hl;refine⟨us,?_,d1⟩
    have hmade:(madeCells z'.cells (n*te.size))=(repL n z'.cells.toList).toArray:=by apply Dc;rw[<-hzl,HV _ (by omega)]
    have hnot:¬(n*te.size>2^24):=by omega
    rw[hll];by_cases hz0:n*te.size=0
    ·have hn0:n=0:=by
      rcases Nat.mul_eq_zero.1 hz0 with h|h
      ·exact h
      ·omega
     subst hn0;simp only[repL]at h1;have e0:∀g:Nat->Value,(Array.range 0).map g=#[]:=λg=>by apply Dc;simp
     have h0:¬((0:Nat)>2^24):=by decide
     simp only[execOp,ho,Instr.buildSlice,run_underlying hu,run_sizeOf fe,Sem.run_bind,Result.andThen_ok,hz0,h0,Bk,Sem.run_pure,B7,e0,IL,h1,newRow,run_newObj];rfl
    ·have hz1:∀(k:Nat),(Array.range (n*te.size)).map (λx=>z'.cells[x%z'.cells.size]!)=(repL n z'.cells.toList).toArray:=λ_=>hmade
     simp only[execOp,ho,Instr.buildSlice,run_underlying hu,run_sizeOf fe,Sem.run_bind,Result.andThen_ok,hnot,Bk,Sem.run_pure,hz0,zeroValue,typeInfo,run_program,fe.info,fe.zero,hz1 0,IL,h1,newRow,run_newObj];rfl
   ·cases hk
 ·cases hk
theorem vI{T:TypeId->Option TI}(hT:TOk P T){kk:K β}{nx:Nat}{t:TypeId}{x y:Operand}(ho:o.op=.makeSlice t x y)(hk:SK T bl nx t (ρ x) (ρ y) kk=some r):Sound P o ρ bl kk r:=by
 have hx0:x∈o.op.operands:=by simp[ho,Op.operands]
 have hy0:y∈o.op.operands:=by simp[ho,Op.operands]
 unfold SK at hk;split at hk
 ·rename_i ti ki i kj j ht hi hj
  obtain⟨inf,d,z,f⟩:=hT.facts ht;split at hk
  ·rename_i et hel hal
   have hd:=CC f hel hal;subst hd;have hu:=f.under;split at hk
   ·cases hk
   rename_i te hte;obtain⟨i',d',z',fe⟩:=hT.facts hte;split at hk
   ·cases hk
   rename_i e hety;split at hk
   ·rename_i z0 hz0 hn
    cases hs:(Nat.beq e.size te.size&&Nat.blt 0 te.size)with
    |false=>rw[hs]at hk;cases hk
    |true=>
     obtain⟨hs1,hs2⟩:=andB hs;have hs1:=Ag hs1;have hs2:=BL hs2;simp only[hs,Af]at hk;obtain⟨hc,hk2⟩:=B8 hk;clear hk;obtain⟨c1,hc⟩:=andB hc;obtain⟨c2,hc⟩:=andB hc;obtain⟨c3,c4⟩:=andB hc;have c1:=Az c1;have c2:=Az c2;have c3:=Az c3;have c4:=Az c4;subst c2;refine ZD hn hk2 (by simp only[GN,maxLen];omega) λbl2 ok0 base pl w a hr hxs=>?_;have hx:=hxs x hx0;have hy:=hxs y hy0;rw[Gl hi]at hx;rw[Gl hj]at hy;have hx':a.eval x=.int ki i:=hx;have hy':a.eval y=.int kj i:=hy
     have hzl:z'.cells.size=te.size:=by have:=fe.len;rw[CQ]at this;rw[this,fe.size]
     have hzr:DRep w (Ae ok0 base pl bl2 w).ok e z0 z'.cells.toList:=HP hr.blksOk (Rows.none _ _) (by rw[fe.zeroC];exact Hb fe.one) hz0;refine⟨repL i.toNat z'.cells.toList,?_,DList.rep hzr _⟩
     have hby:(i'.bytes:Int)*i<=281474976710656:=by
      rw[<-fe.bytes]
      have:((i.toNat*te.bytes:Nat):Int)=(te.bytes:Int)*i:=by rw[Int.natCast_mul,IJ c1,Int.mul_comm]
      simp only[AG]at c3;omega
     have hr2:=run_make (P:=P) w t et i' z' hu fe.info fe.zero ki kj i i c1 (Gd _) hby (by omega)
     have hmade:madeCells z'.cells (i.toNat*i'.size)=(repL i.toNat z'.cells.toList).toArray:=by apply Dc;rw[<-fe.size,<-hzl,HV _ (by omega)]
     rw[hmade]at hr2;simp[execOp,ho,hx',hy',hr2]
   ·cases hk
  ·cases hk
 ·cases hk
end
end Go.Lift
namespace Go.Lift
open Go.RowKit
theorem vJ{v:Value}(h:zeroC v=.nils):v=.slice none 0 0:=by
 unfold zeroC at h;split at h
 ·rename_i c hc
  subst h;unfold C.ofValue at hc;split at hc<;>first|rfl|(simp only[Ac]at hc;cases hc)|cases hc
 ·cases h
theorem ZE(v:Value):∀n,repL n [v]=List.replicate n v
 |0=>rfl
 |n+1=>by rw[repL,ZE v n];rfl
section
variable{P:Program}{o:Oper}{ρ:Operand->V}{bl:Nat->Option Blk}{β:Type}{r:β}
theorem vK{T:TypeId->Option TI}(hT:TOk P T){kk:K β}{nx:Nat}{t:TypeId}{x y:Operand}(ho:o.op=.makeSlice t x y)(hk:SD T bl nx t (ρ x) (ρ y) kk=some r):Sound P o ρ bl kk r:=by
 have hx0:x∈o.op.operands:=by simp[ho,Op.operands]
 have hy0:y∈o.op.operands:=by simp[ho,Op.operands]
 unfold SD at hk;split at hk
 ·rename_i ti ki i kj j ht hi hj
  obtain⟨inf,d,z,f⟩:=hT.facts ht;split at hk
  ·rename_i et hel hal
   have hd:=CC f hel hal;subst hd;have hu:=f.under;split at hk
   ·cases hk
   rename_i te hte;obtain⟨i',d',z',fe⟩:=hT.facts hte;split at hk
   ·rename_i e eet hety heel heln hn hz
    cases hs:Nat.beq te.size 1 with
    |false=>rw[hs]at hk;cases hk
    |true=>
     have hs1:=Ag hs;simp only[hs,Af]at hk;obtain⟨hc,hk2⟩:=B8 hk;clear hk;obtain⟨c1,hc⟩:=andB hc;obtain⟨c2,hc⟩:=andB hc;obtain⟨c3,c4⟩:=andB hc;have c1:=Az c1;have c2:=Az c2;have c3:=Az c3;have c4:=Az c4;subst c2
     have hzz:z'.cells.toList=[.slice none 0 0]:=by
      have h1:=fe.zeroC;rw[hz]at h1;cases hq:z'.cells.toList with
      |nil=>rw[hq]at h1;cases h1
      |cons v vs=>
       rw[hq]at h1;simp only[Bp,BB]at h1;obtain⟨h2,h3⟩:=h1;have h3:vs=[]:=by cases vs with|nil=>rfl|cons _ _=>cases h3
       subst h3;rw[vJ h2.symm]
     refine⟨_,_,_,hk2,λbl2 hb=>?_⟩;have hn2:bl2 nx=none:=(hb nx (by simp)).trans hn;intro ok0 base pl w a hr hxs K Q hK;have hx:=hxs x hx0;have hy:=hxs y hy0;rw[Gl hi]at hx;rw[Gl hj]at hy;have hx':a.eval x=.int ki i:=hx;have hy':a.eval y=.int kj i:=hy
     have hzl:z'.cells.size=te.size:=by have:=fe.len;rw[CQ]at this;rw[this,fe.size]
     have hby:(i'.bytes:Int)*i<=281474976710656:=by
      rw[<-fe.bytes]
      have:((i.toNat*te.bytes:Nat):Int)=(te.bytes:Int)*i:=by rw[Int.natCast_mul,IJ c1,Int.mul_comm]
      simp only[AG]at c3;omega
     have hr2:=run_make (P:=P) w t et i' z' hu fe.info fe.zero ki kj i i c1 (Gd _) hby (by omega)
     have hmade:madeCells z'.cells (i.toNat*i'.size)=(repL i.toNat z'.cells.toList).toArray:=by apply Dc;rw[<-fe.size,<-hzl,HV _ (by omega)]
     rw[hmade,hzz,ZE]at hr2
     have hrun:(execOp a.eval o).run P w=.ok (.value (.slice (some ⟨w.heap.size,0,none⟩) i.toNat i.toNat)) (w.alloc (.cells (List.replicate i.toNat (Value.slice none 0 0)).toArray et)):=by simp[execOp,ho,hx',hy',hr2]
     have hg:w.grownBy (w.alloc (.cells (List.replicate i.toNat (Value.slice none 0 0)).toArray et)) none:=World.grownBy_alloc w _ none
     have hsvs:∀(k:Nat)(s:Value),(List.replicate i.toNat (some (Value.slice none 0 0)))[k]?=some (some s)->s=.slice none 0 0/\k<i.toNat:=λk s h=>by obtain⟨h1,h2⟩:=BI.1 h;simp only[List.getElem_replicate,Ac]at h2;exact⟨h2.symm,by simpa using h1⟩
     have hp:∀g,(Pl.row (.slice (some ⟨w.heap.size,0,none⟩) i.toNat i.toNat) (List.replicate i.toNat (some (Value.slice none 0 0)))).has g->w.heap.size<=g:=by
      intro g hgg;rcases hgg with hgg|⟨k,s,hks,hgg⟩
      ·simp only[Value.ownBlock,Ac]at hgg
       exact DQ hgg
      ·rw[(hsvs k s hks).1]at hgg
       cases hgg
     have hst:=Step.new (B:=.mat et eet e 0 0 none (List.replicate i.toNat [])) hr hn2 hg hp;refine CB hrun (hK _ (upd pl nx (.row (.slice (some ⟨w.heap.size,0,none⟩) i.toNat i.toNat) (List.replicate i.toNat (some (Value.slice none 0 0))))) _ ?_ hst ?_)
     ·refine RelB.new hr hn2 hg hp ⟨⟨List.replicate i.toNat (.slice none 0 0),⟨by simp,.inr ⟨w.heap.size,i.toNat,_,by simp,hr.baseLe,heap_alloc_new w _,by simp,by simp only[maxLen];omega,by simp,by simp⟩⟩,λk s hks=>?_⟩,by simp,λk hk=>?_,λk s xx hks hkx=>?_,λk s g hks hg1 hg2=>?_,λk j s s' g hkj hks hjs hg1=>?_⟩
      ·obtain⟨h1,h2⟩:=hsvs k s hks
       subst h1;simp[h2]
      ·obtain⟨h1,h2⟩:=BI.1 hk
       simp at h2
      ·obtain⟨h1,h2⟩:=hsvs k s hks
       subst h1;obtain⟨_,h4⟩:=BI.1 hkx;simp only[List.getElem_replicate]at h4;subst h4;exact⟨[],rfl,by simp,.inl ⟨rfl,rfl⟩⟩
      ·rw[(hsvs k s hks).1]at hg2
       cases hg2
      ·rw[(hsvs k s hks).1]at hg1
       cases hg1
     ·refine⟨rfl,_,_,by simp[Ae,upd];exact⟨rfl,rfl⟩,λt1 et1 e1 ver1 iver1 hole1 l1 h1=>?_⟩
      simp only[Ae,updL,upd,B7,Ac]at h1;injection h1 with q1 q2 q3 q4;subst q4;exact⟨Ao _,λ_=>rfl⟩
   ·cases hk
  ·cases hk
 ·cases hk
theorem vL{T:TypeId->Option TI}(hT:TOk P T){kk:K β}{nx:Nat}{t:TypeId}{n:Nat}{parts:Array (Nat×Operand)}(ho:o.op=.buildSlice t n parts)(hk:SC T bl nx t n (parts.toList.map λp=>(p.1,ρ p.2)) kk=some r):Sound P o ρ bl kk r:=by
 unfold SC at hk;split at hk
 ·rename_i rr rv hparts
  split at hk
  ·cases hk
  rename_i ti ht;obtain⟨i,d,z,f⟩:=hT.facts ht;split at hk
  ·rename_i et hel hal
   have hd:=CC f hel hal;subst hd;have hu:=f.under;split at hk
   ·cases hk
   rename_i te hte;obtain⟨i',d',z',fe⟩:=hT.facts hte;split at hk
   ·rename_i eet et1 e rv' xr heel heln hbr hn
    cases hc:(Nat.beq n 1&&(Nat.beq te.size 1&&(Nat.beq rv rv'&&Nat.beq et1 eet)))with
    |false=>rw[hc]at hk;cases hk
    |true=>
     simp only[hc,Af]at hk;obtain⟨c1,hc⟩:=andB hc;obtain⟨c2,hc⟩:=andB hc;obtain⟨c3,c4⟩:=andB hc;have:=Ag c1;subst this;have hs1:=Ag c2;have:=Ag c3;subst this;have:=Ag c4;subst this
     obtain⟨x,hpx,hxv⟩:∃x,parts.toList=[(0,x)]/\ρ x=.c (.row rr rv):=by
      cases hq:parts.toList with
      |nil=>rw[hq]at hparts;cases hparts
      |cons p ps=>rw[hq]at hparts;simp only[Bp,BB,AN,List.map_eq_nil_iff]at hparts;obtain⟨⟨h1,h2⟩,h3⟩:=hparts;obtain⟨p1,p2⟩:=p;simp only at h1 h2;subst h1 h3;exact⟨p2,rfl,h2⟩
     have hx0:x∈o.op.operands:=by simp only[ho,Op.operands];exact ND.2 (CJ.2 ⟨(0,x),by rw[hpx];simp,rfl⟩)
     refine⟨_,_,_,hk,λbl2 hb=>?_⟩;have hn2:bl2 nx=none:=(hb nx (by simp)).trans hn;have hbr':bl2 rr=some (.row et1 e rv xr):=(hb rr (by simp)).trans hbr;intro ok0 base pl w a hr hxs K Q hK;have hrn:rr≠nx:=by rintro rfl;rw[hbr']at hn2;cases hn2
     have hv:=hxs x hx0;rw[hxv]at hv;obtain⟨h1y,sr,svr,hpr,hcr⟩:=hv;have hav:=(hcr _ _ _ _ hbr').2 rfl;have hpr:pl rr=some (.row sr svr):=hpr;obtain⟨pr,hpr',hBr⟩:=hr.blks rr _ hbr';have:pr=.row sr svr:=by rw[hpr]at hpr';injection hpr' with h;exact h.symm
     subst this;obtain⟨h0,xs,hd,hown⟩:=hBr;subst h0
     have hzl:z'.cells.size=te.size:=by have:=fe.len;rw[CQ]at this;rw[this,fe.size]
     obtain⟨z0,hz0⟩:∃z0,z'.cells=#[z0]:=by
      have:z'.cells.size=1:=by omega
      exact Array.size_eq_one_iff.1 this
     have hone:sr.cells.toList=[sr]:=by rcases hown.2 with⟨h,_⟩|⟨g,cap,cur,h,_⟩<;>rw[h]<;>rfl
     have hca:sr.cells=#[sr]:=by apply Dc;rw[hone]
     have hfill:Instr.fill (λi=>some (i*te.size,te.size)) #[z0] [(0,a.eval x)]=some #[sr]:=by rw[hav];simp[Instr.fill,hca,hs1]
     have hrun:(execOp a.eval o).run P w=.ok (.value (.slice (some ⟨w.heap.size,0,none⟩) 1 1)) (w.alloc (.cells #[sr] et)):=by
      have e0:(Array.range (1*te.size)).map (λx=>z'.cells[x%z'.cells.size]!)=#[z0]:=by
       have hmade:madeCells z'.cells (1*te.size)=(repL 1 z'.cells.toList).toArray:=by apply Dc;rw[<-hzl,HV _ (by omega)]
       have h5:(repL 1 z'.cells.toList).toArray=#[z0]:=by rw[hz0];rfl
       exact hmade.trans h5
      have h0:¬(1*te.size>2^24):=by rw[hs1];decide
      have h2:¬(1*te.size=0):=by omega
      have hpm:(parts.map λp=>(p.1,a.eval p.2)).toList=[(0,a.eval x)]:=by rw[IL,hpx];rfl
      simp only[execOp,ho,Instr.buildSlice,run_underlying hu,run_sizeOf fe,Sem.run_bind,Result.andThen_ok,h0,Bk,Sem.run_pure,h2,zeroValue,typeInfo,run_program,fe.info,fe.zero,e0,hpm,hfill,newRow,run_newObj];rfl
     have hg:w.grownBy (w.alloc (.cells #[sr] et)) none:=World.grownBy_alloc w _ none
     have hsvs:∀(k:Nat)(s:Value),[some sr][k]?=some (some s)->k=0/\s=sr:=λk s h=>by
      cases k with
      |zero=>simp at h;exact⟨rfl,h.symm⟩
      |succ k=>simp at h
     have hownr:∀g,sr.ownBlock=some g->AL pl bl2 rr g:=λg h=>⟨_,_,hbr',rfl,hpr,.inl h⟩;have hltr:∀g,sr.ownBlock=some g->g<w.heap.size:=λg h=>Own.lt hr ⟨rr,_,_,hbr',rfl,hpr,.inl h⟩;have hpn:=hr.fresh nx hn2
     have hhas:∀g,(Pl.row (.slice (some ⟨w.heap.size,0,none⟩) 1 1) [some sr]).has g->AL pl bl2 rr g\/AL pl bl2 nx g\/w.heap.size<=g:=λg h=>by
      rcases h with h|⟨k,s,hks,h⟩
      ·simp only[Value.ownBlock,Ac]at h
       exact .inr (.inr (DQ h))
      ·rw[(hsvs k s hks).2]at h
       exact .inl (hownr g h)
     have hst:Step pl bl2 w (upd (upd pl rr (.row sr [])) nx (.row (.slice (some ⟨w.heap.size,0,none⟩) 1 1) [some sr])) (upd (upd bl2 rr .dead) nx (.mat et et1 e 0 0 none [xr])) (w.alloc (.cells #[sr] et)):=by refine Step.two hr hrn hg (λg h=>by cases h) (λg h=>by cases h) (λg _ h=>hhas g h) (λg h=>by rw[hpr]at h;cases h) (λg h=>by rw[hpn]at h;cases h) (λsv0 svs0 h=>?_) (λsv0 svs0 h=>by rw[hpn]at h;cases h);rw[hpr]at h;injection h with h;injection h with h h2;subst h h2;exact⟨_,_,rfl,KeepR.ofDead⟩
     have hext:=hst.ext (ok0:=ok0) (base:=base);refine CB hrun (hK _ (upd (upd pl rr (.row sr [])) nx (.row (.slice (some ⟨w.heap.size,0,none⟩) 1 1) [some sr])) _ ?_ hst ?_)
     ·refine RelB.two hr hrn hg (λg h=>by cases h) (λg h=>by cases h) (λg _ h=>hhas g h) (λg h=>by cases h) hst trivial ?_
      refine⟨⟨[sr],⟨by simp,.inr ⟨w.heap.size,1,#[sr],rfl,hr.baseLe,heap_alloc_new w _,Ao _,by simp[maxLen],by simp,by simp⟩⟩,λk s hks=>?_⟩,rfl,λk hk=>?_,λk s xx hks hkx=>?_,λk s g hks hg1 hg2=>?_,λk j s s' g hkj hks hjs hg1=>?_⟩
      ·obtain⟨rfl,rfl⟩:=hsvs k s hks
       rfl
      ·cases k with
       |zero=>simp at hk
       |succ k=>simp at hk
      ·obtain⟨rfl,rfl⟩:=hsvs k s hks
       simp only[BJ,Ac]at hkx;subst hkx;exact⟨xs,hd.mono λx u hu=>hu.mono hext.heap,E8 (Ao _) (λg h=>hg.block g (hltr g h) (by simp)) hown⟩
      ·rw[(hsvs k s hks).2]at hg2
       have:=hltr g hg2;simp only[Value.ownBlock,Ac]at hg1;omega
      ·exact absurd ((hsvs k s hks).1.trans (hsvs j s' hjs).1.symm) hkj
     ·refine⟨rfl,_,_,by simp[Ae,upd];exact⟨rfl,rfl⟩,λt1 et2 e1 ver1 iver1 hole1 l1 h1=>?_⟩
      simp only[Ae,updL,upd,B7,Ac]at h1;injection h1 with q1 q2 q3 q4;subst q4;exact⟨Ao _,λ_=>rfl⟩
   ·cases hk
  ·cases hk
 ·cases hk
theorem Tj{w:World}(base:Nat){t ty et:TypeId}{te:TI}{i:TypeInfo}{d:TypeDesc}{z:Value}(fe:TFacts P et te i d z)(ht:P.underlying t=some (.slice et))(hpos:0<te.size)(hby:0<te.bytes){v:Value}{n:Nat}{xs:List Value}(hown:w.ownsRow base et te.size v n xs){src:Value}{m base2:Nat}{ys:List Value}(hsrc:w.ownsRow base2 et te.size src m ys)(h1:∀u∈ys,u.oneCell'=true)(hroom:(n+m)*te.bytes<=AG)(hbase:base<=w.heap.size):∃v' w',(Builtin.append_ #[t,t] ty #[v,src]).run P w=.ok v' w'/\w'.ownsRow base et te.size v' (n+m) (xs++ys)/\w.grownBy w' v.ownBlock/\(v'.ownBlock=v.ownBlock\/v'.ownBlock=some w.heap.size):=by
 have hsize:i.size=te.size:=fe.size.symm
 have hzs:z.cells.size=te.size:=by have:=fe.len;rw[CQ]at this;rw[this,hsize]
 have hroom':(n+m)*i.bytes<=140737488355328:=by rw[<-fe.bytes];exact hroom
 have h63:n+m<=maxLen:=by have h2:n+m<=(n+m)*te.bytes:=Sd _ hby;simp only[AG]at hroom;simp only[maxLen];omega
 have hs:=hsrc;rcases hsrc.2 with⟨rfl,rfl⟩|⟨g,cap,cur,rfl,_⟩
 ·have hy:ys=[]:=by have:=hsrc.1;exact D5 (by simpa using this)
  subst hy;refine⟨v,w,?_,by simpa using hown,⟨rfl,rfl,rfl,Ao _,λ_ _ _=>rfl⟩,.inl rfl⟩;rcases hown.2 with⟨rfl,rfl⟩|⟨g,cap,cur,rfl,_,_,hnc,_⟩
  ·simp[Builtin.append_,run_underlying ht,sizeOf,typeInfo,fe.info,Builtin.lenOf,Builtin.firstCells]
  ·simp[Builtin.append_,run_underlying ht,sizeOf,typeInfo,fe.info,Builtin.lenOf,Builtin.firstCells,hnc,storeCells]
 ·obtain⟨v',w',hrun,h2,h3,_,h5⟩:=run_append_own_at (P:=P) w base t ty et i z te.size i.bytes ht fe.info fe.zero hsize rfl hzs hpos v n xs hown ⟨g,0,none⟩ m cap ys hs.1
   (λj u hj=>hs.cells (g:=g) rfl j u hj) h1 h63 hroom' hbase
  exact⟨v',w',hrun,h2,h3,h5⟩
end
end Go.Lift
namespace Go.Lift
open Go.RowKit
theorem MatOk.nil(E:Env)(t et:TypeId)(e:Ty):MatOk E t et e none [] (.slice none 0 0) []:=
 ⟨⟨[],World.ownsRow_nil _ _ _ _,λi s h=>by simp at h⟩,rfl,λi h=>by simp at h,λi s x h=>by simp at h,λi s g h=>by simp at h,λi j s r g _ h=>by simp at h⟩
theorem MatOk.full{E:Env}{t et:TypeId}{e:Ty}{l:List (List e.den)}{sv:Value}{svs:List (Option Value)}(h:MatOk E t et e none l sv svs){i:Nat}(hi:i<l.length):∃s,svs[i]?=some (some s):=by
 have hi2:i<svs.length:=by rw[h.len];exact hi
 have h2:svs[i]?=some svs[i]:=Bx hi2;cases hs:svs[i]with
 |some s=>exact⟨s,by rw[h2,hs]⟩
 |none=>rw[hs]at h2;exact absurd (h.hole i h2) (by simp)
theorem MatOk.one{E:Env}{t et:TypeId}{e:Ty}{hole:Option Nat}{l:List (List e.den)}{sv:Value}{svs:List (Option Value)}(h:MatOk E t et e hole l sv svs){i:Nat}{s:Value}(hs:svs[i]?=some (some s)):s.oneCell'=true:=by
 have hi:i<l.length:=by rw[<-h.len];exact(BI.1 hs).1
 obtain⟨xs,_,ho⟩:=h.inner i s l[i] hs (Bx hi);rcases ho.2 with⟨rfl,_⟩|⟨g,cap,cur,rfl,_⟩<;>rfl
theorem HW{svs1 svs2:List (Option Value)}{k:Nat}{s:Option Value}(h:(svs1++svs2)[k]?=some s):(k<svs1.length/\svs1[k]?=some s)\/(svs1.length<=k/\svs2[k-svs1.length]?=some s):=by
 rcases HD k svs1.length with hk|hk
 ·rw[Db hk]at h
  exact .inl ⟨hk,h⟩
 ·rw[Cu hk]at h
  exact .inr ⟨hk,h⟩
theorem MatOk.app{E E':Env}(hb:E'.base=E.base){t et:TypeId}{e:Ty}{l1 l2:List (List e.den)}{sv1 sv2 v':Value}{svs1 svs2:List (Option Value)}{vs1 vs2:List Value}(h1:MatOk E t et e none l1 sv1 svs1)(h2:MatOk E t et e none l2 sv2 svs2)(hown:E'.w.ownsRow E'.base t 1 v' (l1++l2).length (vs1++vs2))(hl1:vs1.length=l1.length)(hv1:∀(i:Nat)(s:Value),svs1[i]?=some (some s)->vs1[i]?=some s)(hv2:∀(i:Nat)(s:Value),svs2[i]?=some (some s)->vs2[i]?=some s)(hm:∀(x:e.den) u,DRep E.w E.ok e x u->DRep E'.w E'.ok e x u)(hs:∀g,((∃(i:Nat)(s:Value),svs1[i]?=some (some s)/\s.ownBlock=some g)\/(∃(i:Nat)(s:Value),svs2[i]?=some (some s)/\s.ownBlock=some g))->E'.w.heap[g]?=E.w.heap[g]?/\v'.ownBlock≠some g)(hx:∀(i j:Nat)(s r:Value)(g:Nat),svs1[i]?=some (some s)->svs2[j]?=some (some r)->s.ownBlock=some g->r.ownBlock≠some g):MatOk E' t et e none (l1++l2) v' (svs1++svs2):=by
 have hsl:svs1.length=l1.length:=h1.len;refine⟨⟨_,hown,λk s hk=>?_⟩,by simp[h1.len,h2.len],λk hk=>?_,λk s x hk hkx=>?_,λk s g hk hg=>?_,λk j s r g hkj hk hj hg=>?_⟩
 ·rcases HW hk with⟨h3,h4⟩|⟨h3,h4⟩
  ·rw[Db (by omega)]
   exact hv1 k s h4
  ·rw[Cu (by omega),hl1,<-hsl]
   exact hv2 _ s h4
 ·rcases HW hk with⟨h3,h4⟩|⟨h3,h4⟩
  ·exact h1.hole k h4
  ·have:=h2.hole _ h4
   cases this
 ·rcases HW hk with⟨h3,h4⟩|⟨h3,h4⟩
  ·rw[Db (by omega)]at hkx
   obtain⟨xs,q1,q2⟩:=h1.inner k s x h4 hkx;exact⟨xs,q1.mono hm,E8 (by rw[hb];exact Ao _) (λg hg=>(hs g (.inl ⟨k,s,h4,hg⟩)).1) q2⟩
  ·rw[Cu (by omega),<-hsl]at hkx
   obtain⟨xs,q1,q2⟩:=h2.inner _ s x h4 hkx;exact⟨xs,q1.mono hm,E8 (by rw[hb];exact Ao _) (λg hg=>(hs g (.inr ⟨_,s,h4,hg⟩)).1) q2⟩
 ·intro hg2
  rcases HW hk with⟨h3,h4⟩|⟨h3,h4⟩
  ·exact(hs g (.inl ⟨k,s,h4,hg2⟩)).2 hg
  ·exact(hs g (.inr ⟨_,s,h4,hg2⟩)).2 hg
 ·rcases HW hk with⟨h3,h4⟩|⟨h3,h4⟩<;>rcases HW hj with⟨h5,h6⟩|⟨h5,h6⟩
  ·exact h1.sep k j s r g hkj h4 h6 hg
  ·exact hx k _ s r g h4 h6 hg
  ·exact λhg2=>hx j _ r s g h6 h4 hg2 hg
  ·exact h2.sep _ _ s r g (by omega) h4 h6 hg
section
variable{P:Program}{o:Oper}{ρ:Operand->V}{bl:Nat->Option Blk}{β:Type}{r:β}
theorem vM{T:TypeId->Option TI}(hT:TOk P T){kk:K β}{c:Call}(ho:o.op=.call c)(hc:c.callee=.builtin .append){x y:Operand}{t:TypeId}{nx:Nat}(ha:c.args.toList=[x,y])(hty:c.argTypes.toList=[t,t])(hk:SB T bl nx t (ρ x) (ρ y) kk=some r):Sound P o ρ bl kk r:=by
 have hargs:c.args=#[x,y]:=by rw[<-CP (xs:=c.args),ha]
 have hx0:x∈o.op.operands:=by simp[ho,Op.operands,Call.operands,hargs]
 have hy0:y∈o.op.operands:=by simp[ho,Op.operands,Call.operands,hargs]
 unfold SB at hk;split at hk
 ·cases hk
 rename_i ti ht;obtain⟨i,d,z,f⟩:=hT.facts ht;split at hk
 ·rename_i et hel hal
  have hd:=CC f hel hal;subst hd;split at hk
  ·cases hk
  rename_i te hte;obtain⟨i',d',z',fe⟩:=hT.facts hte;cases hs:(Nat.beq 1 te.size&&Nat.blt 0 te.bytes)with
  |false=>rw[hs]at hk;cases hk
  |true=>
   obtain⟨hs1,hs3⟩:=andB hs;have hs1:=Ag hs1;have hs3:=BL hs3;simp only[hs,Af]at hk;split at hk
   ·rename_i b2 ver2 hyv
    split at hk
    ·rename_i t2 et2 e ver2' iver2 new hb2l
     cases hvt:(Nat.beq ver2 ver2'&&Nat.beq t2 et)with
     |false=>rw[hvt]at hk;cases hk
     |true=>
      obtain⟨hv1,hv2⟩:=andB hvt;have:=Ag hv1;subst this;have:=Ag hv2;subst this;simp only[hvt,Af]at hk
      have hsrc:∀(bl2:Nat->Option Blk),bl2 b2=bl b2->∀(ok0:OK0 P)(base:Nat)(pl:Nat->Option Pl)(w:World)(a:Act),RelB ok0 base pl bl2 w->(∀x∈o.op.operands,VRep (Ae ok0 base pl bl2 w) (ρ x) (a.eval x))->
        ∃svs2 vs2,bl2 b2=some (.mat t2 et2 e ver2 iver2 none new)/\pl b2=some (.row (a.eval y) svs2)/\MatOk (Ae ok0 base pl bl2 w) t2 et2 e none new (a.eval y) svs2/\w.ownsRow base t2 1 (a.eval y) new.length vs2/\
         (∀(i:Nat)(s:Value),svs2[i]?=some (some s)->vs2[i]?=some s)/\(∀u∈vs2,u.oneCell'=true):=by
       intro bl2 hb2 ok0 base pl w a hr hxs;have hb':bl2 b2=some (.mat t2 et2 e ver2 iver2 none new):=hb2.trans hb2l;have hv:=hxs y hy0;rw[hyv]at hv;obtain⟨_,sv,svs,hg,hcur⟩:=hv;have hav:=(hcur _ _ _ _ _ _ _ hb').2 rfl;subst hav;obtain⟨p,hp,hB⟩:=hr.blks b2 _ hb';have:p=.row (a.eval y) svs:=by have h2:pl b2=some (.row (a.eval y) svs):=hg;rw[hp]at h2;injection h2
       subst this;have hM:MatOk _ t2 et2 e none new (a.eval y) svs:=hB;obtain⟨vs,ho1,ho2⟩:=hM.outer;refine⟨svs,vs,hb',hp,hM,ho1,ho2,λu hu=>?_⟩;obtain⟨k,hk,rfl⟩:=List.getElem_of_mem hu;have hvl:vs.length=new.length:=by rw[ho1.1,Kv]
       obtain⟨s,hs⟩:=hM.full (show k<new.length by omega);have h3:=ho2 k s hs;rw[Bx hk]at h3;injection h3 with h3;rw[h3];exact hM.one hs
      split at hk
      ·
       rename_i hx;split at hk
       ·rename_i hn
        obtain⟨hroom,hk⟩:=B8 hk;have hroom:=Az hroom;refine⟨_,_,_,hk,λbl2 hb2=>?_⟩;have hn2:bl2 nx=none:=(hb2 nx (by simp)).trans hn;intro ok0 base pl w a hr hxs K Q hK;obtain⟨svs2,vs2,hb',hp,hM,ho1,ho2,hone⟩:=hsrc bl2 (hb2 b2 (by simp)) ok0 base pl w a hr hxs;have hbn:b2≠nx:=by rintro rfl;rw[hb']at hn2;cases hn2
        have hv:a.eval x=.slice none 0 0:=by have:=hxs x hx0;rw[hx]at this;exact this
        obtain⟨v',w',hrun,hown,hgr,hloc⟩:=Tj (P:=P) w.heap.size fe f.under (ty:=o.type) (by omega) hs3 (World.ownsRow_nil w w.heap.size t2 te.size) (by rw[<-hs1];exact ho1) hone (by simpa using hroom) (Ao _);rw[<-hs1]at hown;simp only[BW,Cp]at hown;have hgr':w.grownBy w' none:=hgr;have hv':∀g,v'.ownBlock=some g->w.heap.size<=g:=λg hg=>(hown.lt g hg).1;have hownb:∀g,(Pl.row (a.eval y) svs2).has g->AL pl bl2 b2 g:=λg h=>⟨_,_,hb',rfl,hp,h⟩;have hltb:∀g,(Pl.row (a.eval y) svs2).has g->g<w.heap.size:=λg h=>Own.lt hr ⟨b2,_,_,hb',rfl,hp,h⟩
        have hhas:∀g,(Pl.row v' svs2).has g->AL pl bl2 b2 g\/AL pl bl2 nx g\/w.heap.size<=g:=λg h=>by
         rcases h with h|h
         ·exact .inr (.inr (hv' g h))
         ·exact .inl (hownb g (.inr h))
        have hpn:=hr.fresh nx hn2
        have hst:Step pl bl2 w (upd (upd pl b2 (.row (a.eval y) svs2)) nx (.row v' svs2)) (upd (upd bl2 b2 .dead) nx (.mat t2 et2 e 0 0 none new)) w':=by refine Step.two hr hbn hgr' (λg h=>by cases h) (λg h=>by cases h) (λg _ h=>hhas g h) (λg h=>by rw[hp]at h;cases h) (λg h=>by rw[hpn]at h;cases h) (λsv0 svs0 h=>?_) (λsv0 svs0 h=>by rw[hpn]at h;cases h);rw[hp]at h;injection h with h;injection h with h h2;subst h h2;exact⟨_,_,rfl,KeepR.ofDead⟩
        have hext:=hst.ext (ok0:=ok0) (base:=base);refine CB (Hc ho hc ha hty (by rw[hv];exact hrun)) (hK v' (upd (upd pl b2 (.row (a.eval y) svs2)) nx (.row v' svs2)) w' ?_ hst ?_)
        ·refine RelB.two hr hbn hgr' (λg h=>by cases h) (λg h=>by cases h) (λg _ h=>hhas g h) (λg h=>by cases h) hst trivial ?_
         have hwn:w'.ownsRow base t2 1 v' (([]:List (List e.den))++new).length ([]++vs2):=by simpa using Jh hown hr.baseLe
         have:=MatOk.app (E:=Ae ok0 base pl bl2 w) (E':=Ae ok0 base (upd (upd pl b2 (.row (a.eval y) svs2)) nx (.row v' svs2)) (upd (upd bl2 b2 .dead) nx (.mat t2 et2 e 0 0 none new)) w') rfl (MatOk.nil _ t2 et2 e) hM (v':=v') (vs1:=[]) (vs2:=vs2)
          hwn rfl (λi s h=>by simp at h) ho2 (λx u hu=>hu.mono hext.heap) (λg h=>?_) (λi j s r g h=>by simp at h)
         ·exact(show MatOk _ t2 et2 e none new v' svs2 by simpa using this)
         ·rcases h with⟨i,s,h1,_⟩|⟨i,s,h1,h2⟩
          ·simp at h1
          ·have hlt:=hltb g (.inr ⟨i,s,h1,h2⟩)
           exact⟨hgr'.block g hlt (by simp),λh3=>by have:=hv' g h3;omega⟩
        ·refine⟨?_,v',svs2,by simp[Ae,upd],λt1 et1 e1 ver1 iver1 hole1 l1 h1=>?_⟩
         ·rcases hown.2 with⟨rfl,_⟩|⟨g,cap,cur,rfl,_⟩<;>rfl
         ·simp only[Ae,updL,upd,B7,Ac]at h1
          injection h1 with q1 q2 q3 q4;subst q4;exact⟨Ao _,λ_=>rfl⟩
       ·cases hk
      ·
       rename_i b ver hx;split at hk
       ·rename_i t0 et0 e0 ver' iver l hb
        cases hvt2:(Nat.beq ver ver'&&(Nat.beq t0 t2&&(Nat.beq et0 et2&&!Nat.beq b b2)))with
        |false=>rw[hvt2]at hk;cases hk
        |true=>
         obtain⟨q1,q⟩:=andB hvt2;obtain⟨q2,q⟩:=andB q;obtain⟨q3,q4⟩:=andB q;have:=Ag q1;subst this;have:=Ag q2;subst this;have:=Ag q3;subst this
         have hbb:b2≠b:=by rintro rfl;rw[GY]at q4;cases q4
         simp only[hvt2,Af]at hk;split at hk
         ·rename_i he
          subst he;obtain⟨hroom,hk⟩:=B8 hk;have hroom:=Az hroom;refine⟨_,_,_,hk,λbl2 hb2=>?_⟩;intro ok0 base pl w a hr hxs K Q hK;obtain⟨svs2,vs2,hb2',hp2,hM2,ho21,ho22,hone⟩:=hsrc bl2 (hb2 b2 (by simp)) ok0 base pl w a hr hxs;have hb':bl2 b=some (.mat t0 et0 e0 ver iver none l):=(hb2 b (by simp)).trans hb;have hv:=hxs x hx0;rw[hx]at hv;obtain⟨_,sv,svs,hg,hcur⟩:=hv;have hav:=(hcur _ _ _ _ _ _ _ hb').2 rfl;subst hav;obtain⟨p,hp,hB⟩:=hr.blks b _ hb';have:p=.row (a.eval x) svs:=by have h2:pl b=some (.row (a.eval x) svs):=hg;rw[hp]at h2;injection h2
          subst this;have hM:MatOk _ t0 et0 e0 none l (a.eval x) svs:=hB;obtain⟨vs,ho1,ho2⟩:=hM.outer;have hvl:vs.length=l.length:=by rw[ho1.1,Kv]
          obtain⟨v',w',hrun,hown,hgr,hloc⟩:=Tj (P:=P) base fe f.under (ty:=o.type) (by omega) hs3 (show w.ownsRow base t0 te.size (a.eval x) l.length vs by rw[<-hs1];exact ho1) (show w.ownsRow base t0 te.size (a.eval y) new.length vs2 by rw[<-hs1];exact ho21) hone hroom hr.baseLe;rw[<-hs1]at hown;have hown1:∀g,(Pl.row (a.eval x) svs).has g->AL pl bl2 b g:=λg h=>⟨_,_,hb',rfl,hp,h⟩;have hown2:∀g,(Pl.row (a.eval y) svs2).has g->AL pl bl2 b2 g:=λg h=>⟨_,_,hb2',rfl,hp2,h⟩;have hlt1:∀g,(Pl.row (a.eval x) svs).has g->g<w.heap.size:=λg h=>Own.lt hr ⟨b,_,_,hb',rfl,hp,h⟩;have hlt2:∀g,(Pl.row (a.eval y) svs2).has g->g<w.heap.size:=λg h=>Own.lt hr ⟨b2,_,_,hb2',rfl,hp2,h⟩;have hsep:∀g,(Pl.row (a.eval y) svs2).has g->¬(Pl.row (a.eval x) svs).has g:=λg h h2=>hr.sep b2 b _ _ _ _ g hbb hb2' hb' rfl rfl hp2 hp h h2;have hog:∀g,(a.eval x).ownBlock=some g->AL pl bl2 b2 g\/AL pl bl2 b g:=λg h=>.inr (hown1 g (.inl h))
          have hhas:∀g,(Pl.row v' (svs++svs2)).has g->AL pl bl2 b2 g\/AL pl bl2 b g\/w.heap.size<=g:=λg h=>by
           rcases h with h|⟨k,s,hks,h⟩
           ·rcases hloc with h2|h2
            ·rw[h2]at h;exact .inr (.inl (hown1 g (.inl h)))
            ·rw[h2]at h
             exact .inr (.inr (DQ (F3 h)))
           ·rcases HW hks with⟨_,h4⟩|⟨_,h4⟩
            ·exact .inr (.inl (hown1 g (.inr ⟨k,s,h4,h⟩)))
            ·exact .inl (hown2 g (.inr ⟨_,s,h4,h⟩))
          have hst:Step pl bl2 w (upd (upd pl b2 (.row (a.eval y) svs2)) b (.row v' (svs++svs2))) (upd (upd bl2 b2 .dead) b (.mat t0 et0 e0 (ver+1) (iver+1) none (l++new))) w':=by
           refine Step.two hr hbb hgr hog (λg h=>by cases h) (λg _ h=>hhas g h) (λg h=>by rw[hp2]at h;cases h) (λg h=>by rw[hp]at h;cases h) (λsv0 svs0 h=>?_) (λsv0 svs0 h=>?_)
           ·rw[hp2]at h
            injection h with h;injection h with h h2;subst h h2;exact⟨_,_,rfl,KeepR.ofDead⟩
           ·rw[hp]at h
            injection h with h;injection h with h h2;subst h h2;refine⟨_,_,rfl,?_⟩;rw[hb'];exact KeepR.ofMat ⟨by omega,λh=>by omega⟩ ⟨by omega,λh=>by omega⟩
          have hext:=hst.ext (ok0:=ok0) (base:=base);refine CB (Hc ho hc ha hty hrun) (hK v' (upd (upd pl b2 (.row (a.eval y) svs2)) b (.row v' (svs++svs2))) w' ?_ hst ?_)
          ·refine RelB.two hr hbb hgr hog (λg h=>by cases h) (λg _ h=>hhas g h) (λg h=>by cases h) hst trivial ?_
           refine MatOk.app (E:=Ae ok0 base pl bl2 w) (E':=Ae ok0 base (upd (upd pl b2 (.row (a.eval y) svs2)) b (.row v' (svs++svs2))) (upd (upd bl2 b2 .dead) b (.mat t0 et0 e0 (ver+1) (iver+1) none (l++new))) w') rfl hM hM2 (vs1:=vs) (vs2:=vs2) (by rw[Av];exact hown) hvl ho2 ho22 (λx u hu=>hu.mono hext.heap) (λg h=>?_) (λi j s r g h1 h2 h3 h4=>hsep g (.inr ⟨j,r,h2,h4⟩) (.inr ⟨i,s,h1,h3⟩))
           have hne:(a.eval x).ownBlock≠some g/\g<w.heap.size:=by
            rcases h with⟨i,s,h1,h2⟩|⟨i,s,h1,h2⟩
            ·exact⟨λh3=>hM.sep0 i s g h1 h3 h2,hlt1 g (.inr ⟨i,s,h1,h2⟩)⟩
            ·exact⟨λh3=>hsep g (.inr ⟨i,s,h1,h2⟩) (.inl h3),hlt2 g (.inr ⟨i,s,h1,h2⟩)⟩
           refine⟨hgr.block g hne.2 (λh3=>hne.1 h3.symm),λh3=>?_⟩;rcases hloc with h4|h4
           ·rw[h4]at h3;exact hne.1 h3
           ·rw[h4]at h3
            have:=F3 h3;omega
          ·refine⟨?_,v',svs++svs2,by simp[Ae,upd],λt1 et1 e1 ver1 iver1 hole1 l1 h1=>?_⟩
           ·rcases hown.2 with⟨rfl,_⟩|⟨g,cap,cur,rfl,_⟩<;>rfl
           ·simp only[Ae,updL,upd,B7,Ac]at h1
            injection h1 with q1 q2 q3 q4;subst q4;exact⟨Ao _,λ_=>rfl⟩
         ·cases hk
       ·cases hk
      ·cases hk
    ·cases hk
   ·cases hk
 ·cases hk
theorem ZF{w:World}{base:Nat}{t0:TypeId}{size:Nat}{sv:Value}{m:Nat}{xs:List Value}(hown:w.ownsRow base t0 size sv m xs){g o n c:Nat}(hsv:sv=.slice (some ⟨g,0,none⟩) n c){us:List Value}(h1:∀u∈us,u.oneCell'=true)(hle:o+us.length<=xs.length):∃w',(storeCells ⟨g,o,none⟩ us).run P w=.ok () w'/\w.grownBy w' (some g)/\w'.ownsRow base t0 size sv m (xs.take o++us++xs.drop (o+us.length)):=by
 obtain⟨hxl,hown2⟩:=hown;rcases hown2 with⟨h0,_⟩|⟨g',cap,cur,hsv',hbase,hh,hnc,hcm,hcs',htake⟩
 ·rw[hsv]at h0;cases h0
 have hh:w.heap[g']?=some (.cells cur t0 (0,0)):=hh
 have hgg:g'=g:=by rw[hsv]at hsv';injection hsv' with e1 e2 e3;injection e1 with e1;injection e1 with e1;exact e1.symm
 subst hgg
 have hcur:cur.toList=xs++cur.toList.drop (m*size):=by rw[<-htake,H4]
 have hle2:o+us.length<=cur.toList.length:=by rw[hcur];simp only[Av];omega
 have hst:=run_storeCells_at P g' o t0 us 0 cur w hh (by simpa using hle2) h1;simp only[HE]at hst
 have hnew:cur.toList.take o++us++cur.toList.drop (o+us.length)=xs.take o++us++xs.drop (o+us.length)++cur.toList.drop (m*size):=by
  have e1:cur.toList.take o=xs.take o:=by rw[hcur,H3 (by omega)]
  have e2:cur.toList.drop (o+us.length)=xs.drop (o+us.length)++cur.toList.drop (m*size):=by
   conv=>lhs;rw[hcur]
   rw[Kj hle]
  rw[e1,e2];simp only[AW]
 have hnl:(xs.take o++us++xs.drop (o+us.length)).length=xs.length:=by simp only[Av,E6,Fa];omega
 refine⟨_,hst,Tb w g' _,by rw[hnl];exact hxl,.inr ⟨g',cap,_,hsv',hbase,setRow_heap w g' _ _ t0 _ hh,hnc,hcm,?_,?_⟩⟩
 ·have hcs2:cur.size=cap*size:=hcs'
  have:(cur.toList.take o++us++cur.toList.drop (o+us.length)).length=cur.toList.length:=by simp only[Av,E6,Fa];omega
  rw[NB,this,CQ];exact hcs2
 ·simp only[hnew]
  rw[H3 (by rw[hnl,hxl];exact Ao _),Dz (by rw[hnl,hxl];exact Ao _)]
theorem vN{w:World}{okI:Nat->Prop}{e:Ty}{new:List e.den}{src:Value}(hsrc:Reads w okI e new src)(n:Nat):∃ys,DList (λx u=>DRep w okI e x u) (new.take n) ys/\ys.length=Nat.min new.length n*e.size/\(Builtin.lenOf src).run P w=.ok new.length w/\(Builtin.firstCells e.size (Nat.min new.length n) src).run P w=.ok ys.toArray w:=by
 obtain⟨A,c,ys,rfl,hle,hcm,hd,hcell⟩:=hsrc;have hyl:=hd.length;have hd2:=hd.take n;have hl2:=hd2.length;have hmin:(new.take n).length=Nat.min new.length n:=by rw[E6,Nat.min_comm]
 rw[hmin]at hl2
 have heq:ys.take (n*e.size)=ys.take (Nat.min new.length n*e.size):=by
  rcases Nat.le_total new.length n with h|h
  ·have:Nat.min new.length n=new.length:=Nat.min_eq_left h
   rw[this,<-hyl,Dz (Ao _),Dz];rw[hyl];exact FZ _ h
  ·have:Nat.min new.length n=n:=Nat.min_eq_right h
   rw[this]
 refine⟨ys.take (n*e.size),hd2,hl2,by simp[Builtin.lenOf],?_⟩;cases A with
 |none=>
  have hy:ys=[]:=by
   cases ys with
   |nil=>rfl
   |cons y ys=>obtain⟨ad,ha,_⟩:=hcell 0 y rfl;cases ha
  subst hy;simp[Builtin.firstCells]
 |some ad=>
  have h:=run_loadCells_list (P:=P) w ad (ys.take (n*e.size)) (λj u hj=>by
   rw[GP]at hj;split at hj
   ·obtain⟨ad',ha,hc⟩:=hcell j u hj
    injection ha with ha;subst ha;exact hc
   ·cases hj)
  rw[hl2]at h;simpa [Builtin.firstCells]using h
theorem ZG{w w':World}{a:Act}{x y:Operand}{c:Call}{t:TypeId}(ho:o.op=.call c)(hc:c.callee=.builtin .copy)(ha:c.args.toList=[x,y])(ht:c.argTypes.toList=[t,t]){v:Value}(h:(Builtin.copy_ #[t,t] o.type #[a.eval x,a.eval y]).run P w=.ok v w'):(execOp a.eval o).run P w=.ok (.value v) w':=by
 have h1:c.args=#[x,y]:=by rw[<-CP (xs:=c.args),ha]
 have h2:c.argTypes=#[t,t]:=by rw[<-CP (xs:=c.argTypes),ht]
 simp[execOp,ho,resolve,hc,h1,h2,invoke,builtin,h]
theorem ZH{te:TI}{t et:TypeId}{inf:TypeInfo}{d':TypeDesc}{z:Value}(fe:TFacts P et te inf d' z)(hu:P.underlying t=some (.slice et)){e:Ty}(hes:e.size=te.size){E:Env}{base:Nat}{t0:TypeId}{l new:List e.den}{sv:Value}{xs:List Value}(hd:DList (λx u=>DRep E.w E.ok e x u) l xs)(hown:E.w.ownsRow base t0 e.size sv l.length xs){src:Value}(hsrc:Reads E.w E.ok e new src){i d:Nat}(hid:i+d<=l.length){A:Option Addr}{cd:Nat}(hA:0<d->∃g n c,sv=.slice (some ⟨g,0,none⟩) n c/\A=some ⟨g,i*e.size,none⟩)(ty:TypeId):∃w' xs',(Builtin.copy_ #[t,t] ty #[.slice A d cd,src]).run P E.w=.ok (.int .i64 ((Nat.min new.length d:Nat):Int)) w'/\E.w.grownBy w' sv.ownBlock/\DList (λx u=>DRep E.w E.ok e x u) (l.take i++(new.take d++l.drop (i+Nat.min new.length d))) xs'/\w'.ownsRow base t0 e.size sv l.length xs':=by
 obtain⟨ys,hdy,hyl,hlen,hfc⟩:=vN (P:=P) hsrc d;have hxl:=hd.length;have hone:=hdy.oneCell;have hn:Nat.min new.length d<=d:=Nat.min_le_right _ _;have hd2:DList (λx u=>DRep E.w E.ok e x u) (l.take i++(new.take d++l.drop (i+Nat.min new.length d))) (xs.take (i*e.size)++(ys++xs.drop ((i+Nat.min new.length d)*e.size))):=(hd.take i).append (hdy.append (hd.drop _));have hsz:(sizeOf et).run P E.w=.ok e.size E.w:=by rw[hes];exact run_sizeOf fe E.w
 rcases N8 d with h0|h0
 ·subst h0
  have hm:Nat.min new.length 0=0:=Nat.min_eq_right (BZ _);rw[hm]at hyl hfc;have hy:ys=[]:=D5 (by simpa using hyl);subst hy;refine⟨E.w,xs,?_,⟨rfl,rfl,rfl,Ao _,λ_ _ _=>rfl⟩,?_,hown⟩
  ·cases A with
   |none=>simp[Builtin.copy_,run_underlying hu,hlen,hm,hsz,hfc,goInt]
   |some ad=>simp[Builtin.copy_,run_underlying hu,hlen,hm,hsz,hfc,goInt,storeCells]
  ·have h3:l.take i++(new.take 0++l.drop (i+Nat.min new.length 0))=l:=by rw[hm];simp
   rw[h3];exact hd
 ·obtain⟨g,n,c,hsv,rfl⟩:=hA h0
  have hle:i*e.size+ys.length<=xs.length:=by rw[hyl,hxl,<-E7];exact FZ _ (by omega)
  obtain⟨w',hst,hg,hown'⟩:=ZF (P:=P) hown (o:=i*e.size) hsv hone hle;refine⟨w',_,?_,by rw[hsv];exact hg,hd2,?_⟩
  ·simp[Builtin.copy_,run_underlying hu,hlen,hsz,hfc,goInt,hst]
  ·have:xs.take (i*e.size)++(ys++xs.drop ((i+Nat.min new.length d)*e.size))=xs.take (i*e.size)++ys++xs.drop (i*e.size+ys.length):=by rw[hyl,<-E7,AW]
   rw[this];exact hown'
theorem vO{T:TypeId->Option TI}(hT:TOk P T){kk:K β}{c:Call}(ho:o.op=.call c)(hc:c.callee=.builtin .copy){x y:Operand}{t:TypeId}(ha:c.args.toList=[x,y])(hty:c.argTypes.toList=[t,t])(hk:S4 T bl t (ρ x) (ρ y) kk=some r):Sound P o ρ bl kk r:=by
 have hargs:c.args=#[x,y]:=by rw[<-CP (xs:=c.args),ha]
 have hx0:x∈o.op.operands:=by simp[ho,Op.operands,Call.operands,hargs]
 have hy0:y∈o.op.operands:=by simp[ho,Op.operands,Call.operands,hargs]
 unfold S4 at hk;split at hk
 ·cases hk
 rename_i ti ht;obtain⟨i,d,z,f⟩:=hT.facts ht;split at hk
 ·rename_i et hel hal
  have hd:=CC f hel hal;subst hd;split at hk
  ·cases hk
  rename_i te hte;obtain⟨i',d',z',fe⟩:=hT.facts hte;split at hk
  ·cases hk
  rename_i e hety;cases hs:(Nat.beq e.size te.size&&Nat.blt 0 te.size)with
  |false=>rw[hs]at hk;cases hk
  |true=>
   obtain⟨hs1,hs2⟩:=andB hs;have hs1:=Ag hs1;simp only[hs,Af]at hk;split at hk
   ·cases hk
   rename_i new rd hsrc;split at hk
   ·
    rename_i b ver lo hi hx;split at hk
    ·rename_i t0 e0 ver' l hb
     cases hver:Nat.beq ver ver' with
     |false=>rw[hver]at hk;cases hk
     |true=>
      have:=Ag hver;subst this;simp only[hver,Af]at hk;split at hk
      ·rename_i he
       subst he;refine⟨_,_,_,hk,λbl2 hb2=>?_⟩;have hb':bl2 b=some (.row t0 e0 ver l):=(hb2 b (by simp)).trans hb;intro ok0 base pl w a hr hxs K Q hK;have hv:=hxs x hx0;rw[hx]at hv;obtain⟨_,sv,svs,hg,hcur⟩:=hv;obtain⟨q1,q2,A,A',n,cc,hsv,hav,hA,_⟩:=(hcur t0 e0 ver l hb').2 rfl;obtain⟨p,hp,hB⟩:=hr.blks b _ hb';have:p=.row sv svs:=by have h2:pl b=some (.row sv svs):=hg;rw[hp]at h2;injection h2
       subst this;obtain⟨h0,xs,hd',hown⟩:=hB;subst h0;have hrd:Reads w (Ae ok0 base pl bl2 w).ok e0 new (a.eval y):=HU hr.blksOk hsrc (λb hb B hB=>(hb2 b (by simp[hb])).trans hB) (hxs y hy0)
       obtain⟨w',xs',hrun,hgr,hd2,hown2⟩:=ZH fe f.under hs1 (E:=Ae ok0 base pl bl2 w) hd' hown hrd (i:=lo) (d:=hi-lo) (by omega) (A:=A') (cd:=cc-lo) (λhpos=>by
        have hA:=hA (by omega);rcases hown.2 with⟨hsv2,hn⟩|⟨g,cap,cur,hsv2,_⟩
        ·omega
        ·rw[hsv]at hsv2
         injection hsv2 with e1 _ _;subst e1;refine⟨g,n,cc,hsv,?_⟩;rw[hA];simp[Addr.add_lit]) o.type
       have hver:ver<=ver/\(ver=ver->sv=sv/\(l.take lo++(new.take (hi-lo)++l.drop (lo+Nat.min new.length (hi-lo)))).length=l.length):=⟨Ao _,λ_=>⟨rfl,by have h1:Nat.min new.length (hi-lo)=min (hi-lo) new.length:=Nat.min_comm _ _;simp only[Av,E6,Fa,h1];omega⟩⟩
       have hst:=Step.grown hr hb' hp hgr (.inl rfl) hver;have hext:=hst.ext (ok0:=ok0) (base:=base);refine CB (ZG ho hc ha hty (by rw[hav];exact hrun)) (hK _ (upd pl b (.row sv [])) w' ?_ hst rfl);exact RelB.grown hr hb' hp hgr (.inl rfl) hver ⟨rfl,xs',hd2.mono λx u hu=>hu.mono hext.heap,by rw[(hver.2 rfl).2];exact hown2⟩
      ·cases hk
    ·cases hk
   ·
    rename_i b ver hx;split at hk
    ·rename_i t0 e0 ver' l hb
     cases hver:Nat.beq ver ver' with
     |false=>rw[hver]at hk;cases hk
     |true=>
      have:=Ag hver;subst this;simp only[hver,Af]at hk;split at hk
      ·rename_i he
       subst he;refine⟨_,_,_,hk,λbl2 hb2=>?_⟩;have hb':bl2 b=some (.row t0 e0 ver l):=(hb2 b (by simp)).trans hb;intro ok0 base pl w a hr hxs K Q hK;have hv:=hxs x hx0;rw[hx]at hv;obtain⟨_,sv,svs,hg,hcur⟩:=hv;have hav:=(hcur t0 e0 ver l hb').2 rfl;obtain⟨p,hp,hB⟩:=hr.blks b _ hb';have:p=.row sv svs:=by have h2:pl b=some (.row sv svs):=hg;rw[hp]at h2;injection h2
       subst this;obtain⟨h0,xs,hd',hown⟩:=hB;subst h0;have hrd:Reads w (Ae ok0 base pl bl2 w).ok e0 new (a.eval y):=HU hr.blksOk hsrc (λb hb B hB=>(hb2 b (by simp[hb])).trans hB) (hxs y hy0)
       obtain⟨A,cc,hsv,hA⟩:∃A cc,sv=.slice A l.length cc/\(0<l.length->∃g n c,sv=.slice (some ⟨g,0,none⟩) n c/\A=some ⟨g,0*e0.size,none⟩):=by
        rcases hown.2 with⟨hsv2,hn⟩|⟨g,cap,cur,hsv2,_⟩
        ·exact⟨none,0,by rw[hsv2,hn],λh=>by omega⟩
        ·exact⟨_,cap,hsv2,λ_=>⟨g,_,_,hsv2,by simp⟩⟩
       obtain⟨w',xs',hrun,hgr,hd2,hown2⟩:=ZH fe f.under hs1 (E:=Ae ok0 base pl bl2 w) hd' hown hrd (i:=0) (d:=l.length) (by omega) (A:=A) (cd:=cc) hA o.type;simp only[List.take_zero,Cp,BW]at hd2
       have hver:ver<=ver/\(ver=ver->sv=sv/\(new.take l.length++l.drop (Nat.min new.length l.length)).length=l.length):=⟨Ao _,λ_=>⟨rfl,by have h1:Nat.min new.length l.length=min l.length new.length:=Nat.min_comm _ _;simp only[Av,E6,Fa,h1];omega⟩⟩
       have hst:=Step.grown hr hb' hp hgr (.inl rfl) hver;have hext:=hst.ext (ok0:=ok0) (base:=base);refine CB (ZG ho hc ha hty (by rw[hav,hsv];exact hrun)) (hK _ (upd pl b (.row sv [])) w' ?_ hst rfl);exact RelB.grown hr hb' hp hgr (.inl rfl) hver ⟨rfl,xs',hd2.mono λx u hu=>hu.mono hext.heap,by rw[(hver.2 rfl).2];exact hown2⟩
      ·cases hk
    ·cases hk
   ·cases hk
 ·cases hk
theorem ZI{w:World}{ok:Nat->Prop}{k:IntKind}:∀{l:List Int}{ys:List Value},DList (λ(x:(Ty.int k).den) u=>DRep w ok (.int k) x u) l ys->ys=l.map (Value.int k)
 |[],_,h=>by simp only[DList]at h;subst h;rfl
 |n::l,_,⟨u,v,e1,hr,ht⟩=>by have hu:u=[.int k n]:=hr;subst e1 hu;rw[ZI ht];rfl
theorem vP{T:TypeId->Option TI}(hT:TOk P T){kk:K β}{s t:TypeId}{x:Operand}(ho:o.op=.convert s t x){si ti:TI}(hs:T s=some si)(ht:T t=some ti)(hk:SI T bl si ti (ρ x) kk=some r):Sound P o ρ bl kk r:=by
 obtain⟨i,d,z,f⟩:=hT.facts ht;obtain⟨i',d',z',f'⟩:=hT.facts hs;unfold SI at hk;split at hk
 ·rename_i et hel hal
  have hd:=CC f' hel hal;subst hd;split at hk
  ·cases hk
  rename_i te hte;obtain⟨i2,d2,z2,fe⟩:=hT.facts hte;split at hk
  ·rename_i hkd
   have he:d2=.int .u8:=by rw[fe.kind]at hkd;cases d2<;>simp_all [Jd]
   subst he;cases hstr:ti.isStr with
   |false=>rw[hstr]at hk;cases hk
   |true=>
    have hd:=KR f hstr;subst hd;simp only[hstr,Af]at hk;split at hk
    ·rename_i l rd hsrc
     refine Sound.pure hk λbl2 hb2 ok0 base pl w a hr hxs=>⟨.string ⟨(D1 l).toArray⟩,?_,rfl⟩;have hrd:Reads w (Ae ok0 base pl bl2 w).ok (.int .u8) l (a.eval x):=HU hr.blksOk hsrc (λb hb B hB=>(hb2 b (by simpa using hb)).trans hB) (hxs x (by simp[ho,Op.operands]));obtain⟨A,c,ys,hv,_,_,hdl,hcell⟩:=hrd;have hys:=ZI hdl;subst hys
     have hconv:(convert s t (a.eval x)).run P w=.ok (.string ⟨(D1 l).toArray⟩) w:=by
      rw[hv,run_convert_bytes_string w s t et A _ c f'.under fe.under f.under];cases A with
      |none=>
       have:l=[]:=by
        cases l with
        |nil=>rfl
        |cons n l=>obtain⟨ad,h,_⟩:=hcell 0 _ rfl;cases h
       subst this;rfl
      |some ad=>
       have hload:(loadCells ad l.length).run P w=.ok (l.map (Value.int .u8)).toArray w:=by
        have:=run_loadCells_list (P:=P) w ad (l.map (Value.int .u8)) (λj v hj=>by obtain⟨ad',h,h2⟩:=hcell j v hj;injection h with h;subst h;exact h2)
        simpa using this
       rw[run_bytesToString w ad l.length c l hload,foldl_push_bytes];congr 2;simp[D1,ByteArray.empty,ByteArray.emptyWithCapacity];rfl
     simp[execOp,ho,hconv]
    ·cases hk
  ·cases hk
 ·cases hk
end
end Go.Lift
namespace Go.Lift
open Go.RowKit
section
variable{β:Type}{r:β}{P:Program}{o:Oper}{ρ:Operand->V}{bl:Nat->Option Blk}
theorem ZJ(z:Array Value)(hz:0<z.size)(n:Nat):(Builtin.zeroCells z n).toList=repL n z.toList:=HV z hz n
theorem vQ{T:TypeId->Option TI}(hT:TOk P T){kk:K β}{c:Call}(ho:o.op=.call c)(hc:c.callee=.builtin .clear){x:Operand}{t:TypeId}(ha:c.args.toList=[x])(hty:c.argTypes.toList=[t])(hk:S5 T bl t (ρ x) kk=some r):Sound P o ρ bl kk r:=by
 have hargs:c.args=#[x]:=by rw[<-CP (xs:=c.args),ha]
 have htys:c.argTypes=#[t]:=by rw[<-CP (xs:=c.argTypes),hty]
 have hx0:x∈o.op.operands:=by simp[ho,Op.operands,Call.operands,hargs]
 unfold S5 at hk;split at hk
 ·cases hk
 rename_i ti ht;obtain⟨i,d,z,f⟩:=hT.facts ht;split at hk
 ·rename_i et hel hal
  have hd:=CC f hel hal;subst hd;have hu:=f.under;split at hk
  ·cases hk
  rename_i te hte;obtain⟨i',d',z',fe⟩:=hT.facts hte;split at hk
  ·cases hk
  rename_i e hety;cases hs:(Nat.beq e.size te.size&&Nat.blt 0 te.size)with
  |false=>rw[hs]at hk;cases hk
  |true=>
   obtain⟨hs1,hs2⟩:=andB hs;have hs1:=Ag hs1;have hs2:=BL hs2;simp only[hs,Af]at hk;split at hk
   ·cases hk
   rename_i z0 hz0;split at hk
   ·rename_i b ver lo hi hx
    split at hk
    ·rename_i t0 e0 ver' l hb
     cases hver:Nat.beq ver ver' with
     |false=>rw[hver]at hk;cases hk
     |true=>
      have:=Ag hver;subst this;simp only[hver,Af]at hk;split at hk
      ·rename_i he
       subst he;refine⟨_,_,_,hk,λbl2 hb2=>?_⟩;have hb':bl2 b=some (.row t0 e0 ver l):=(hb2 b (by simp)).trans hb;intro ok0 base pl w a hr hxs K Q hK;have hv:=hxs x hx0;rw[hx]at hv;obtain⟨_,sv,svs,hg,hcur⟩:=hv;obtain⟨q1,q2,A,A',n,cc,hsv,hav,hA,_⟩:=(hcur t0 e0 ver l hb').2 rfl;obtain⟨p,hp,hB⟩:=hr.blks b _ hb';have:p=.row sv svs:=by have h2:pl b=some (.row sv svs):=hg;rw[hp]at h2;injection h2
       subst this;obtain⟨h0,xs,hd',hown⟩:=hB;subst h0
       have hzl:z'.cells.size=te.size:=by have:=fe.len;rw[CQ]at this;rw[this,fe.size]
       have hzr:DRep w (Ae ok0 base pl bl2 w).ok e0 z0 z'.cells.toList:=HP hr.blksOk (Rows.none _ _) (by rw[fe.zeroC];exact Hb fe.one) hz0;have hzs:DList (λx u=>DRep w (Ae ok0 base pl bl2 w).ok e0 x u) (List.replicate (hi-lo) z0) (repL (hi-lo) z'.cells.toList):=DList.rep hzr _;have hyl:=hzs.length;simp only[GN]at hyl;have hone:=hzs.oneCell;have hxl:=hd'.length;have hlen':(l.take lo++(List.replicate (hi-lo) z0++l.drop hi)).length=l.length:=by simp;omega
       have hver:ver<=ver/\(ver=ver->sv=sv/\(l.take lo++(List.replicate (hi-lo) z0++l.drop hi)).length=l.length):=⟨Ao _,λ_=>⟨rfl,hlen'⟩⟩;have hzv:∀w,(zeroValue et).run P w=.ok z' w:=λw=>by simp[zeroValue,typeInfo,fe.info,fe.zero]
       have hrun:∃w' xs',(Builtin.clear_ #[t] o.type #[a.eval x]).run P w=.ok (.tuple #[]) w'/\w.grownBy w' sv.ownBlock/\
         DList (λx u=>DRep w (Ae ok0 base pl bl2 w).ok e0 x u) (l.take lo++(List.replicate (hi-lo) z0++l.drop hi)) xs'/\w'.ownsRow base t0 e0.size sv l.length xs':=by
        rcases N8 (hi-lo)with h0|h0
        ·refine⟨w,xs,?_,⟨rfl,rfl,rfl,Ao _,λ_ _ _=>rfl⟩,?_,hown⟩
         ·rw[hav,h0]
          cases A'<;>simp[Builtin.clear_,run_underlying hu]
         ·have h3:l.take lo++(List.replicate (hi-lo) z0++l.drop hi)=l:=by rw[h0,show hi=lo by omega];simp
          rw[h3];exact hd'
        ·have hA:=hA (by omega)
         rcases hown.2 with⟨hsv2,hn⟩|⟨g,cap,cur,hsv2,_⟩
         ·omega
         ·have hAg:A=some ⟨g,0,none⟩:=by rw[hsv]at hsv2;injection hsv2
          subst hAg
          have hle:lo*e0.size+(repL (hi-lo) z'.cells.toList).length<=xs.length:=by rw[hyl,hxl,<-E7];exact FZ _ (by omega)
          obtain⟨w',hst,hgw,hown'⟩:=ZF (P:=P) (w:=w) (base:=base) hown (o:=lo*e0.size) hsv hone hle;refine⟨w',_,?_,by rw[hsv];exact hgw,(hd'.take lo).append (hzs.append (hd'.drop hi)),?_⟩
          ·obtain⟨m,hm⟩:∃m,hi-lo=m+1:=⟨hi-lo-1,by omega⟩
           rw[hav,hA,hm];rw[hm]at hst;have hz:=ZJ z'.cells (by omega) (m+1);have ha2:(Addr.mk g 0 none).add (lo*e0.size)=⟨g,lo*e0.size,none⟩:=by simp[Addr.add_lit]
           simp only[Cl,ha2];simp only[Builtin.clear_,run_underlying hu,hzv,hz,Sem.run_bind,Result.andThen_ok,N5,BJ,Sem.run_pure];rw[hst];rfl
          ·have h4:xs.take (lo*e0.size)++(repL (hi-lo) z'.cells.toList++xs.drop (hi*e0.size))=xs.take (lo*e0.size)++repL (hi-lo) z'.cells.toList++xs.drop (lo*e0.size+(repL (hi-lo) z'.cells.toList).length):=by rw[hyl,<-E7,AW,show lo+(hi-lo)=hi by omega]
           rw[h4];exact hown'
       obtain⟨w',xs',hrun,hgr,hd2,hown2⟩:=hrun;have hst:=Step.grown hr hb' hp hgr (.inl rfl) hver;have hext:=hst.ext (ok0:=ok0) (base:=base)
       have hex:(execOp a.eval o).run P w=.ok (.value (.tuple #[])) w':=by simp[execOp,ho,resolve,hc,hargs,htys,invoke,builtin,hrun]
       refine CB hex (hK _ (upd pl b (.row sv [])) w' ?_ hst ⟨[],rfl,rfl⟩);exact RelB.grown hr hb' hp hgr (.inl rfl) hver ⟨rfl,xs',hd2.mono λx u hu=>hu.mono hext.heap,by rw[(hver.2 rfl).2];exact hown2⟩
      ·cases hk
    ·cases hk
   ·cases hk
 ·cases hk
theorem vR{T:TypeId->Option TI}(hT:TOk P T){kk:K β}{c:Call}(ho:o.op=.call c)(hc:c.callee=.builtin .cap){x:Operand}{t:TypeId}(ha:c.args.toList=[x])(hty:c.argTypes.toList=[t])(hk:S6 T t (ρ x) kk=some r):Sound P o ρ bl kk r:=by
 have hargs:c.args=#[x]:=by rw[<-CP (xs:=c.args),ha]
 have htys:c.argTypes=#[t]:=by rw[<-CP (xs:=c.argTypes),hty]
 have hx0:x∈o.op.operands:=by simp[ho,Op.operands,Call.operands,hargs]
 unfold S6 at hk;split at hk
 ·cases hk
 rename_i ti ht;obtain⟨i,d,z,f⟩:=hT.facts ht;split at hk
 ·rename_i et hel hal hx
  have hd:=CC f hel hal;subst hd;have hu:=f.under;refine Sound.pure hk λbl2 hb2 ok0 base pl w a hr hxs=>⟨.int .i64 0,?_,rfl⟩;have hv:=hxs x hx0;rw[hx]at hv;have hv:a.eval x=.slice none 0 0:=hv;simp[execOp,ho,resolve,hc,hargs,htys,invoke,builtin,Builtin.cap_,run_underlying hu,hv,goInt]
 ·cases hk
theorem vS{T:TypeId->Option TI}(hT:TOk P T){kk:K β}{t:TypeId}{x:Operand}{hi:Option Operand}(ho:o.op=.slice t x none hi none)(hk:Sw T bl t (ρ x) (hi.map ρ) kk=some r):Sound P o ρ bl kk r:=by
 have hx0:x∈o.op.operands:=by simp[ho,Op.operands]
 have hhi0:∀y,hi=some y->y∈o.op.operands:=by rintro y rfl;simp[ho,Op.operands]
 unfold Sw at hk;split at hk
 ·cases hk
 rename_i ti ht;obtain⟨i,d,z,f⟩:=hT.facts ht;have hu:=f.under;split at hk
 ·rename_i et hel hal
  have hd:=CC f hel hal;subst hd;split at hk
  ·cases hk
  rename_i te hte;obtain⟨i',d',z',fe⟩:=hT.facts hte;split at hk
  ·rename_i b ver hx
   split at hk
   ·rename_i t0 e ver' l hb
    cases hs:(Nat.beq ver ver'&&(Nat.beq e.size te.size&&Nat.blt 0 te.size))with
    |false=>rw[hs]at hk;cases hk
    |true=>
     obtain⟨hver,hs12⟩:=andB hs;obtain⟨hs1,hs2⟩:=andB hs12;have hs1:=Ag hs1;have:=Ag hver;subst this;simp only[hs,Af]at hk;split at hk
     ·rename_i n hn
      obtain⟨hc,hk⟩:=B8 hk;obtain⟨c2,c3⟩:=andB hc;have c2:=Az c2;have c3:=Az c3;refine⟨_,_,_,hk,λbl2 hb2=>?_⟩;have hb':bl2 b=some (.row t0 e ver l):=(hb2 b (by simp)).trans hb;intro ok0 base pl w a hr hxs K Q hK;have h1:=hxs x hx0;rw[hx]at h1;obtain⟨_,sv,svs,hg,hcur⟩:=h1;have hav:=(hcur t0 e ver l hb').2 rfl;obtain⟨p,hp,hB⟩:=hr.blks b _ hb';have:p=.row sv svs:=by have h2:pl b=some (.row sv svs):=hg;rw[hp]at h2;injection h2
      subst this;obtain⟨h0,xs,hd',hown⟩:=hB;subst h0
      obtain⟨A,cc,hsv,hle⟩:∃A cc,sv=.slice A l.length cc/\l.length<=cc:=by
       rcases hown.2 with⟨hsv,hn⟩|⟨g,cap,cur,hsv,_,_,hnc,_⟩
       ·exact⟨none,0,by rw[hsv,hn],by omega⟩
       ·exact⟨_,cap,hsv,hnc⟩
      have hb3:=HT (P:=P) (isSl:=true) (len:=l.length) (cap:=cc) (m:=0) (lo:=none) (.inl ⟨rfl,rfl⟩) (Fe hn λy hy=>hxs y (hhi0 y hy)) (Gd 0) c2 (by omega) w
      have hcc:(if cc=0 then A else A.map (·.add 0))=A:=by
       split
       ·rfl
       ·cases A<;>simp[Addr.add]
      have hex:(execOp a.eval o).run P w=.ok (.value (.slice A n.toNat cc)) w:=by have hb4:(Instr.sliceBounds true l.length cc none (hi.map a.eval) none).run P w=.ok (0,n.toNat,cc) w:=hb3;simp[execOp,ho,Instr.sliceAt,run_underlying hu,Instr.slice,hav,hsv,hb4,run_sizeOf fe];cases A<;>simp[Addr.add]
      have hnl:n.toNat<=l.length:=by omega
      have htl:(l.take n.toNat).length=n.toNat:=by simp;omega
      have hown2:w.ownsRow base t0 e.size (.slice A n.toNat cc) n.toNat (xs.take (n.toNat*e.size)):=by
       have hxl:=hd'.length;refine⟨by rw[E6,hxl];exact Nat.min_eq_left (FZ _ hnl),?_⟩;rcases hown.2 with⟨hsv2,hn0⟩|⟨g,cap,cur,hsv2,hbase,hh,hnc,hcm,hcs,htake⟩
       ·rw[hsv]at hsv2
        injection hsv2 with e1 e2 e3;exact .inl ⟨by rw[e1,e3];congr 1;omega,by omega⟩
       ·have q:=hsv.symm.trans hsv2
        injection q with e1 e2 e3;exact .inr ⟨g,cap,cur,by rw[e1,e3],hbase,hh,by omega,hcm,hcs,by rw[<-htake,List.take_take,Nat.min_eq_left (FZ _ hnl)]⟩
      have hgr:w.grownBy w sv.ownBlock:=⟨rfl,rfl,rfl,Ao _,λ_ _ _=>rfl⟩;have hob:(Value.slice A n.toNat cc).ownBlock=sv.ownBlock\/∀g,(Value.slice A n.toNat cc).ownBlock=some g->w.heap.size<=g:=.inl (by rw[hsv];cases A<;>rfl);have hver:ver<=ver+1/\(ver=ver+1->(Value.slice A n.toNat cc)=sv/\(l.take n.toNat).length=l.length):=⟨Nat.le_succ _,λh=>by omega⟩;have hst:=Step.grown (l':=l.take n.toNat) hr hb' hp hgr hob hver;have hext:=hst.ext (ok0:=ok0) (base:=base);have hR:=RelB.grown hr hb' hp hgr hob hver ⟨rfl,xs.take (n.toNat*e.size),(hd'.take n.toNat).mono λx u hu=>hu.mono hext.heap,by rw[htl];exact hown2⟩;refine CB hex (hK _ (upd pl b (.row (.slice A n.toNat cc) [])) w hR hst ⟨rfl,.slice A n.toNat cc,[],by simp[Ae,upd],λt1 e1 ver2 l2 hb2'=>?_⟩);have hb3:upd bl2 b (.row t0 e (ver+1) (l.take n.toNat)) b=some (.row t1 e1 ver2 l2):=hb2';simp[upd]at hb3;exact⟨by omega,λ_=>rfl⟩
     ·cases hk
   ·cases hk
  ·cases hk
 ·cases hk
theorem vT{w:World}{t u ty et:TypeId}{te:TI}{i:TypeInfo}{d:TypeDesc}{z:Value}{k ki:IntKind}(fe:TFacts P et te i d z)(ht:P.underlying t=some (.slice et))(hu:P.underlying u=some (.int k)){m:Nat}(h0:0<m)(hby:0<te.bytes)(hb:m*te.bytes<=AG)(hpos:0<te.size):(Builtin.append_ #[t,u] ty #[.slice none 0 0,.int ki (m:Int)]).run P w=.ok (.slice (some ⟨w.heap.size,0,none⟩) m (grownCap w m 0 et)) (w.drew.alloc (.cells (Builtin.zeroCells z.cells m++Builtin.zeroCells z.cells (grownCap w m 0 et-m)) et)):=by
 have hm:m<=140737488355328:=by have h1:m*1<=m*te.bytes:=Nat.mul_le_mul_left _ hby;simp only[AG]at hb;omega
 have hb2:m*i.bytes<=140737488355328:=by rw[<-fe.bytes];exact hb
 have hwr:IntKind.i64.wrap (m:Int)=m:=by simp[IntKind.wrap,IntKind.bits,IntKind.signed];omega
 have hn:m≠0:=by omega
 have hsz:¬i.size=0:=by rw[<-fe.size];omega
 have hmz:¬m*i.size=0:=by rw[Nat.mul_eq_zero];omega
 have h63':¬(9223372036854775807<(m:Int)):=by omega
 have hmul:((m:Int)*(i.bytes:Int))=((m*i.bytes:Nat):Int):=by simp
 have h48:¬(281474976710656<(m:Int)*(i.bytes:Int)):=by rw[hmul];omega
 have h48':¬(281474976710656<Builtin.nextslicecap m 0*i.bytes):=by rw[nextslicecap_zero h0];omega
 have hneg:¬((m:Int)<0):=by omega
 simp[Builtin.append_,run_underlying ht,run_underlying hu,sizeOf,typeInfo,zeroValue,fe.info,fe.zero,asInt,asIntOf,hwr,hneg,h48,hn,h63',h48',Question.forced,run_firstCells_none,newRow,grownCap];exact λh=>absurd h hmz
theorem vU{T:TypeId->Option TI}(hT:TOk P T){kk:K β}{c:Call}(ho:o.op=.call c)(hc:c.callee=.builtin .append){x y:Operand}{t u:TypeId}{nx:Nat}(ha:c.args.toList=[x,y])(hty:c.argTypes.toList=[t,u])(hk:SA T bl nx t u (ρ x) (ρ y) kk=some r):Sound P o ρ bl kk r:=by
 have hargs:c.args=#[x,y]:=by rw[<-CP (xs:=c.args),ha]
 have htys:c.argTypes=#[t,u]:=by rw[<-CP (xs:=c.argTypes),hty]
 have hx0:x∈o.op.operands:=by simp[ho,Op.operands,Call.operands,hargs]
 have hy0:y∈o.op.operands:=by simp[ho,Op.operands,Call.operands,hargs]
 unfold SA at hk;split at hk
 ·rename_i ti tu ki m hti htu hm
  obtain⟨i,d,z,f⟩:=hT.facts hti;obtain⟨i2,d2,z2,f2⟩:=hT.facts htu;split at hk
  ·rename_i hx
   split at hk
   ·rename_i et kd hel hal hkd
    have hd:=CC f hel hal;subst hd
    obtain rfl:d2=.int kd:=by rw[f2.kind]at hkd;cases d2<;>simp_all [Jd]
    split at hk
    ·cases hk
    rename_i te hte;obtain⟨i',d',z',fe⟩:=hT.facts hte;split at hk
    ·cases hk
    rename_i e hety;split at hk
    ·rename_i z0 hz0 hn
     cases hs:(Nat.beq e.size te.size&&(Nat.blt 0 te.size&&Nat.blt 0 te.bytes))with
     |false=>rw[hs]at hk;cases hk
     |true=>
      obtain⟨hs1,hs23⟩:=andB hs;obtain⟨hs2,hs3⟩:=andB hs23;have hs1:=Ag hs1;have hs2:=BL hs2;have hs3:=BL hs3;simp only[hs,Af]at hk;obtain⟨hroom,hk⟩:=B8 hk;obtain⟨c1,c2⟩:=andB hroom;have c1:=Az c1;have c2:=Az c2;refine⟨_,_,_,hk,λbl2 hb2=>?_⟩;have hn2:bl2 nx=none:=(hb2 nx (by simp)).trans hn;intro ok0 base pl w a hr hxs K Q hK;have hv:a.eval x=.slice none 0 0:=by have:=hxs x hx0;rw[hx]at this;exact this
      have hy:a.eval y=.int ki m:=by have:=hxs y hy0;rw[Gl hm]at this;exact this
      obtain⟨m,rfl⟩:∃q:Nat,m=(q:Int):=⟨m.toNat,by omega⟩;simp only[AE]at c2 hk hK⊢
      have hzl:z'.cells.size=te.size:=by have:=fe.len;rw[CQ]at this;rw[this,fe.size]
      have hzr:DRep w (Ae ok0 base pl bl2 w).ok e z0 z'.cells.toList:=HP hr.blksOk (Rows.none _ _) (by rw[fe.zeroC];exact Hb fe.one) hz0;have hzs:DList (λx u=>DRep w (Ae ok0 base pl bl2 w).ok e x u) (List.replicate m z0) (repL m z'.cells.toList):=DList.rep hzr _;have hyl:=hzs.length;simp only[GN]at hyl
      have hrun:∃v' w',(Builtin.append_ #[t,u] o.type #[a.eval x,a.eval y]).run P w=.ok v' w'/\w.grownBy w' none/\w'.ownsRow w.heap.size et e.size v' m (repL m z'.cells.toList):=by
       rw[hv,hy];rcases N8 m with h0|h0
       ·subst h0
        refine⟨.slice none 0 0,w,?_,⟨rfl,rfl,rfl,Ao _,λ_ _ _=>rfl⟩,World.ownsRow_nil w w.heap.size et e.size⟩;have hwr:IntKind.i64.wrap (0:Int)=0:=by decide
        simp[Builtin.append_,run_underlying f.under,run_underlying f2.under,sizeOf,typeInfo,fe.info,asInt,asIntOf,hwr]
       ·refine⟨_,_,vT fe f.under f2.under h0 hs3 c2 hs2,⟨rfl,rfl,rfl,by simp,λk hk _=>heap_alloc_old w.drew _ k hk⟩,hyl,.inr ⟨w.heap.size,_,_,rfl,Ao _,heap_alloc_new w.drew _,grownCap_ge w m 0 et,grownCap_le_maxLen w m 0 et ?_,?_,?_⟩⟩
        ·simp only[AG,maxLen]at c2⊢
         have h1:m*1<=m*te.bytes:=Nat.mul_le_mul_left _ hs3;omega
        ·have:=grownCap_ge w m 0 et
         simp only[Array.size_append,size_zeroCells,hzl,hs1,<-E7];congr 1;omega
        ·rw[Array.toList_append,ZJ z'.cells (by omega) m,<-hyl]
         exact NH
      obtain⟨v',w',hrun,hgr',hown⟩:=hrun;have hp:∀g,(Pl.row v' []).has g->w.heap.size<=g:=λg hg=>(hown.lt g (Pl.has_row hg)).1;have hst:Step pl bl2 w (upd pl nx (.row v' [])) (upd bl2 nx (.row et e 0 (List.replicate m z0))) w':=Step.new hr hn2 hgr' hp;have hex:(execOp a.eval o).run P w=.ok (.value v') w':=by simp[execOp,ho,resolve,hc,hargs,htys,invoke,builtin,hrun]
      refine CB hex (hK v' (upd pl nx (.row v' [])) w' ?_ hst ?_)
      ·refine RelB.new hr hn2 hgr' hp ⟨rfl,repL m z'.cells.toList,hzs.mono λx u hu=>hu.mono hst.ext.heap,?_⟩
       rw[GN];exact Jh hown hr.baseLe
      ·refine⟨?_,v',[],by simp[Ae,upd],λt1 e1 ver1 l1 h1=>?_⟩
       ·rcases hown.2 with⟨rfl,_⟩|⟨g,cap,cur,rfl,_⟩<;>rfl
       ·simp only[Ae,updL,upd,B7,Ac]at h1
        injection h1 with q1 q2 q3 q4;subst q3;exact⟨Ao _,λ_=>rfl⟩
    ·cases hk
   ·cases hk
  ·cases hk
 ·cases hk
end
end Go.Lift
namespace Go.Lift
open Go.RowKit
theorem Hd{f:Nat->Option Blk}:∀{l m:List (Nat×Blk)},updL f (l++m)=updL (updL f l) m
 |[],_=>rfl
 |(j,x)::l,m=>by simp only[Cw,updL];exact Hd
theorem Ot:∀{ids:List Nat}{f:Nat->Option Blk}{k:Nat},updL f (dead ids) k=if k∈ids then some .dead else f k
 |[],_,_=>by simp[dead,updL]
 |i::r,f,k=>by
  simp only[dead,updL];rw[Ot];by_cases h1:k∈r
  ·simp[h1]
  ·by_cases h2:k=i
   ·subst h2;simp[h1,upd]
   ·simp[h1,h2,upd]
theorem DA{x:Nat}:∀{l:List Nat},memB x l=true↔x∈l
 |[]=>by simp[memB]
 |y::r=>by
  simp only[memB,GR,DA (l:=r),AH];constructor
  ·rintro(h|h)
   ·exact .inl (Ag h)
   ·exact .inr h
  ·rintro(h|h)
   ·subst h;exact .inl (GY x)
   ·exact .inr h
theorem Ji:∀{l:List Nat},E9 l=true->l.Nodup
 |[],_=>List.nodup_nil
 |x::r,h=>by obtain⟨h1,h2⟩:=andB h;refine GS.2 ⟨λhm=>?_,Ji h2⟩;have:=DA.2 hm;rw[this]at h1;cases h1
structure Many (pl:Nat->Option Pl) (bl:Nat->Option Blk) (w:World) (pl':Nat->Option Pl) (bl':Nat->Option Blk) (w':World) (ids:List Nat) (og:Option Nat):Prop where
 out:∀k,k∉ids->pl' k=pl k/\bl' k=bl k
 grown:w.grownBy w' og
 og:∀g,og=some g->∃i∈ids,AL pl bl i g
 new:∀k∈ids,∀g,AL pl' bl' k g->(∃i∈ids,AL pl bl i g)\/w.heap.size<=g
 sep:∀k∈ids,∀m∈ids,k≠m->∀g,AL pl' bl' k g->¬AL pl' bl' m g
 cells:∀k∈ids,∀g,pl k≠some (.cells g)
 rows:∀k∈ids,∀sv svs,pl k=some (.row sv svs)->∃sv' svs',pl' k=some (.row sv' svs')/\KeepR (bl k) (bl' k) sv svs sv' svs'
section
variable{P:Program}{ok0:OK0 P}{base:Nat}{pl pl':Nat->Option Pl}{bl bl':Nat->Option Blk}{w w':World}{ids:List Nat}{og:Option Nat}
theorem Many.step(h:Many pl bl w pl' bl' w' ids og):Step pl bl w pl' bl' w':=by
 have hOwn:∀k g,AL pl bl k g->Own pl bl g:=λk g ⟨B,p,h1,h2,h3,h4⟩=>⟨k,B,p,h1,h2,h3,h4⟩;have hg:=h.grown;refine⟨hg.os,hg.tape,hg.output,hg.size,λg hlt ho=>⟨hg.block g hlt (λe=>?_),?_⟩,λb g hb=>?_,λb sv svs hb=>?_⟩
 ·obtain⟨i,_,hi⟩:=h.og g e.symm
  exact ho (hOwn i g hi)
 ·rintro⟨k,C,q,hC,hl,hq,hqg⟩
  by_cases hk:k∈ids
  ·rcases h.new k hk g ⟨C,q,hC,hl,hq,hqg⟩with⟨i,_,hi⟩|hi
   ·exact ho (hOwn i g hi)
   ·omega
  ·obtain⟨h1,h2⟩:=h.out k hk
   rw[h2]at hC;rw[h1]at hq;exact ho ⟨k,C,q,hC,hl,hq,hqg⟩
 ·by_cases hk:b∈ids
  ·exact absurd hb (h.cells b hk g)
  ·rw[(h.out b hk).1];exact hb
 ·by_cases hk:b∈ids
  ·exact h.rows b hk sv svs hb
  ·obtain⟨h1,h2⟩:=h.out b hk
   exact⟨sv,svs,by rw[h1];exact hb,KeepR.of_eq (λC hC=>by rw[<-h2];exact hC) _ _⟩
theorem Many.rel(hr:RelB ok0 base pl bl w)(h:Many pl bl w pl' bl' w' ids og)(hB:∀k∈ids,∃B p,bl' k=some B/\pl' k=some p/\BRep (Ae ok0 base pl' bl' w') B p):RelB ok0 base pl' bl' w':=by
 have hs:=h.step
 have hoth:∀k C q g,k∉ids->bl k=some C->C.live=true->pl k=some q->q.has g->w'.heap[g]?=w.heap[g]?/\∀m∈ids,¬AL pl' bl' m g:=by
  intro k C q g hk hC hl hq hqg;have hlt:g<w.heap.size:=Own.lt hr ⟨k,C,q,hC,hl,hq,hqg⟩;have hni:∀m∈ids,¬AL pl bl m g:=λm hm ⟨B,p,h1,h2,h3,h4⟩=>hr.sep k m C B q p g (λe=>hk (e▸hm)) hC h1 hl h2 hq h3 hqg h4;refine⟨h.grown.block g hlt (λe=>?_),λm hm ho=>?_⟩
  ·obtain⟨i,hi,ho⟩:=h.og g e.symm
   exact hni i hi ho
  ·rcases h.new m hm g ho with⟨i,hi,ho⟩|ho
   ·exact hni i hi ho
   ·omega
 refine⟨BH hr.baseLe hs.size,λk C hC=>?_,λk m C D q r g hkm hC hD hlC hlD hq hr' hqg hrg=>?_,λk hk=>?_,hr.glob.out hs.size hs.out⟩
 ·by_cases hk:k∈ids
  ·obtain⟨B,p,h1,h2,h3⟩:=hB k hk
   rw[hC]at h1;injection h1 with h1;subst h1;exact⟨p,h2,h3⟩
  ·obtain⟨h1,h2⟩:=h.out k hk
   rw[h2]at hC;obtain⟨q,hq,hBq⟩:=hr.blks k C hC;refine⟨q,by rw[h1];exact hq,?_⟩;cases hl:C.live with
   |false=>cases C<;>first|exact trivial|simp[Blk.live]at hl
   |true=>exact BRep.mono hs.ext hBq λg hqg=>(hoth k C q g hk hC hl hq hqg).1
 ·by_cases hk:k∈ids
  ·by_cases hm:m∈ids
   ·exact h.sep k hk m hm hkm g ⟨C,q,hC,hlC,hq,hqg⟩ ⟨D,r,hD,hlD,hr',hrg⟩
   ·obtain⟨h1,h2⟩:=h.out m hm
    rw[h2]at hD;rw[h1]at hr';exact(hoth m D r g hm hD hlD hr' hrg).2 k hk ⟨C,q,hC,hlC,hq,hqg⟩
  ·obtain⟨h1,h2⟩:=h.out k hk
   rw[h2]at hC;rw[h1]at hq;by_cases hm:m∈ids
   ·exact(hoth k C q g hk hC hlC hq hqg).2 m hm ⟨D,r,hD,hlD,hr',hrg⟩
   ·obtain⟨h3,h4⟩:=h.out m hm
    rw[h4]at hD;rw[h3]at hr';exact hr.sep k m C D q r g hkm hC hD hlC hlD hq hr' hqg hrg
 ·by_cases hm:k∈ids
  ·obtain⟨B,p,h1,_⟩:=hB k hm
   rw[hk]at h1;cases h1
  ·obtain⟨h1,h2⟩:=h.out k hm
   rw[h2]at hk;rw[h1];exact hr.fresh k hk
end
abbrev Gn(s r:Value):Prop:=∀g,s.ownBlock=some g->r.ownBlock≠some g
def vV(P:Program)(E:Env)(t ty et:TypeId)(bytes:Nat)(e:OT)(new:List e.ty.den)(u:Value)(Fu:List Value):Prop:=
 ∀(base:Nat)(v:Value)(n:Nat)(xs:List Value),base<=E.w.heap.size->E.w.ownsRow base et e.ty.size v n xs->(n+new.length)*bytes<=AG->
  ∃v' w' ys,(Builtin.append_ #[t,t] ty #[v,u]).run P E.w=.ok v' w'/\w'.ownsRow base et e.ty.size v' (n+new.length) (xs++ys)/\E.w.grownBy w' v.ownBlock/\(v'.ownBlock=v.ownBlock\/v'.ownBlock=some E.w.heap.size)/\
   ∀hv,OL (λ_ x f F=>Owns E.w E.ok E.base hv e none x f F) 0 new ys Fu
section
variable{P:Program}{E E':Env}
theorem Tk{bl:Nat->Option Blk}(hb:BX E){t ty et:TypeId}{te:TI}{i:TypeInfo}{d:TypeDesc}{z:Value}(fe:TFacts P et te i d z)(ht:P.underlying t=some (.slice et)){e:OT}(hes:e.ty.size=te.size)(hpos:0<te.size)(hby:0<te.bytes){y:V}{new:List e.ty.den}{rd dd:List Nat}(h:srcT bl et e y=some (new,rd,dd))(hsub:∀b∈rd,E.bl b=bl b){u:Value}(hv:VRep E y u):∃Fu,vV P E t ty et te.bytes e new u Fu/\Fu.Pairwise Gn/\(∀s∈Fu,∀g,s.ownBlock=some g->∃i∈dd,AL E.pl E.bl i g)/\dd.Nodup/\∀i∈dd,i∈rd/\∃B sv svs,E.bl i=some B/\B.live=true/\E.pl i=some (.row sv svs):=by
 unfold srcT at h;split at h
 ·split at h
  ·rename_i q hq
   simp only[Ac,AN]at h;obtain⟨rfl,rfl,rfl⟩:=h;have hrd:=HU hb (l:=q.1) (rd:=q.2) hq (λb hb' B hB=>(hsub b hb').trans hB) hv;refine⟨[],λbase v n xs hba hown hroom=>?_,by simp,by simp,by simp,by simp⟩;obtain⟨v',w',ys,h1,h2,h3,h4,h5⟩:=Oq (P:=P) (ty:=ty) base fe ht hes hpos hby hown hrd hroom hba;exact⟨v',w',ys,h1,h2,h3,h4,λhv=>SY h5⟩
  ·cases h
 ·split at h
  ·rename_i r m hm
   split at h
   ·rename_i hty
    obtain⟨⟨m1,m2⟩,m3⟩:=m;simp only[AN]at hty;obtain⟨rfl,rfl⟩:=hty;simp only[Ac,AN]at h;obtain⟨rfl,rfl,rfl⟩:=h;obtain⟨svs,Fr,B,k1,k2,_,k3,k4,k5,k6⟩:=SZ hb hm (hsub r (by simp)) hv;have hlive:B.live=true:=by cases B<;>first|rfl|exact absurd rfl k2
    refine⟨Fr,λbase v n xs hba hown hroom=>?_,(D8.1 k6).2,λs hs g hg=>⟨r,by simp,B,_,k1,hlive,k3,HQ k5 (by simp[hs]) hg⟩,by simp,λi hi=>?_⟩
    ·obtain⟨sv0,xs0,F0,e1,e2,o1,o2⟩:=k4 u
     have e1:=(F4 e1).1;subst e1;have e2:=(F4 e2).2;subst e2;have hall:∀x∈xs0,x.oneCell'=true:=OL.all (λ_ _ _ _ h=>Owns.oneCell h) o2;have o1':E.w.ownsRow E.base m1 te.size u (List.length m3) xs0:=hes▸o1;obtain⟨v',w',h1,h2,h3,h4⟩:=Tj (P:=P) (ty:=ty) base fe ht hpos hby (hes▸hown) o1' hall hroom hba;refine⟨v',w',xs0,h1,hes▸h2,h3,h4,λhv=>o2.mono λ_ _ _ _ _ h=>Owns.any h⟩
    ·simp only[Cv]at hi
     subst hi;exact⟨by simp,B,u,svs,k1,hlive,k3⟩
   ·cases h
  ·cases h
theorem Tl(hx:Ext E E')(hbase:E'.base=E.base){et:TypeId}{e:OT}{l new:List e.ty.den}{v':Value}{Fn Fu xs ys:List Value}(hL:OL (λ_ x f F=>Owns E.w E.ok E.base v' e none x f F) 0 l xs Fn)(hN:OL (λ_ x f F=>Owns E.w E.ok E.base v' e none x f F) 0 new ys Fu)(hheap:∀s∈Fn++Fu,∀g,s.ownBlock=some g->E'.w.heap[g]?=E.w.heap[g]?)(hown:E'.w.ownsRow E.base et e.ty.size v' (l.length+new.length) (xs++ys))(hpw:(v'::(Fn++Fu)).Pairwise Gn):TreeOk E' et e none (l++new) v' ((Fn++Fu).map some):=by
 have hb:E'.base<=E.base:=by rw[hbase];exact Ao _
 refine⟨⟨v',Fn++Fu,⟨v',xs++ys,Fn++Fu,rfl,rfl,?_,?_⟩,rfl,hpw⟩,by simp⟩
 ·rw[hbase,Av];exact hown
 ·exact OL.append (λ_ _ _ _ _ h=>h) (hL.mono λ_ _ _ f hf h=>Owns.mono hb hx.heap (λs hs=>hheap s (BG _ (hf s hs))) h) (hN.mono λ_ _ _ f hf h=>Owns.mono hb hx.heap (λs hs=>hheap s (BM _ (hf s hs))) h)
theorem TreeOk.take{t:TypeId}{e:OT}{l:List e.ty.den}{sv:Value}{svs:List (Option Value)}(hT:TreeOk E t e none l sv svs){i0:Nat×Nat}{p:Path}{n:Cg}(hn:AM (.r t e) l 0 (i0::p)=some n){v:Value}(hs:(some sv::svs)[nix (.r t e) l 0 (i0::p)]?=some (some v)):∃Fn svsH,Owns E.w E.ok E.base v (.r n.1.1 n.1.2) none n.2 [v] (v::Fn)/\(v::Fn).Pairwise Gn/\(∀s∈v::Fn,∀g,s.ownBlock=some g->(Pl.row sv svs).has g)/\(∀g,(Pl.row sv svsH).has g->(Pl.row sv svs).has g/\∀s∈v::Fn,s.ownBlock≠some g)/\(∀c,KeepT c t e none (some (i0::p)) l l sv svs svsH)/\∀E',Ext E E'->E'.base=E.base->(∀g,(Pl.row sv svsH).has g->E'.w.heap[g]?=E.w.heap[g]?)->TreeOk E' t e (some (i0::p)) l sv svsH:=by
 obtain⟨s',Fn,G1,G2,_,h2,h3,h4,h5,h6,h7⟩:=hT.node hn;rw[hs]at h4;injection h4 with h4;injection h4 with h4;subst h4
 have hpos:0<G1.length:=by
  rw[h2];cases hx:(l:List e.ty.den)[i0.1]? with
  |none=>simp[AM,hx]at hn
  |some x=>simp only[nix,hx];omega
 obtain⟨A,hA⟩:∃A,G1=sv::A:=by
  cases G1 with
  |nil=>simp at hpos
  |cons a G1=>rw[Cw,Bp]at h3;injection h3 with h3 _;injection h3 with h3;exact⟨G1,by rw[h3]⟩
 subst hA;have hcnt:(v::Fn).length=cnt (.r n.1.1 n.1.2) n.2:=h5.cnt;have hmem:∀s∈sv::A++(v::Fn++G2),∀g,s.ownBlock=some g->(Pl.row sv svs).has g:=λs hs g hg=>HQ h3 hs hg
 have hH:∀g,(Pl.row sv (A.map some++(List.replicate (cnt (.r n.1.1 n.1.2) n.2) none++G2.map some))).has g->∃s∈sv::A++G2,s.ownBlock=some g:=λg h=>by
  rcases h with h|⟨j,s,hj,h⟩
  ·exact⟨sv,by simp,h⟩
  ·have:=B6 hj
   simp only[Ba,CJ,Ac,exists_eq_right,List.mem_replicate,reduceCtorEq,and_false,false_or]at this;exact⟨s,by simp only[Cw,AH,Ba];exact .inr this,h⟩
 have hsub:∀s,s∈sv::A++G2->s∈sv::A++(v::Fn++G2):=λs hs=>by simp only[Cw,AH,Ba]at hs⊢;rcases hs with h|h|h<;>simp[h]
 have hpw:=D7.1 h7;have hpw2:=D7.1 hpw.2.1
 have hapart:∀s∈sv::A++G2,∀r∈v::Fn,Gn s r:=λs hs r hr=>by
  rcases Ba.1 hs with h|h
  ·exact hpw.2.2 s h r (BG _ hr)
  ·exact λg g1 g2=>hpw2.2.2 r hr s h g g2 g1
 refine⟨Fn,A.map some++(List.replicate (cnt (.r n.1.1 n.1.2) n.2) none++G2.map some),h5,hpw2.1,λs hs g hg=>hmem s (by simp only[Ba];exact .inr (.inl hs)) g hg,λg h=>?_,λc q hq ho=>⟨λ_ h=>(by cases h),λn' hn'=>⟨n',hn',rfl,rfl,λs hs=>?_⟩⟩,λE' hx hba hh=>⟨⟨v,A++G2,?_,⟨n,sv::A,G2,hn,rfl,h2,rfl⟩,?_⟩,by simp⟩⟩
 ·obtain⟨s,hs,hg⟩:=hH g h
  exact⟨hmem s (hsub s hs) g hg,λr hr=>hapart s hs r hr g hg⟩
 ·rw[h3]at hs
  have hne:¬((0:Nat)=0/\(i0::p)<+:q):=λh=>ho _ rfl h.2;rw[Gc,Gc]at hs;show((sv::A).map some++(List.replicate (cnt (.r n.1.1 n.1.2) n.2) none++G2.map some))[nix (.r t e) l 0 q]?=some (some s);rcases NK hn hn' hne with h|h
  ·rw[<-h2]at h
   rw[Db (by simpa using h)]at hs⊢;exact hs
  ·rw[<-h2]at h
   rw[Cu (by simp only[Cf];omega),Cu (by simp only[Cf];omega)]at hs;rw[Cu (by simp only[Cf];omega),Cu (by simp only[Cf,GN];omega)];rw[<-hs,Cf,Cf,GN,hcnt]
 ·have hb:E'.base<=E.base:=by rw[hba];exact Ao _
  exact Owns.mono hb hx.heap (λs hs g hg=>hh g (by
   rcases Ba.1 (show s∈(sv::A)++G2 from hs)with h|h
   ·rcases AH.1 h with h|h
    ·exact .inl (h▸hg)
    ·obtain⟨j,hj⟩:=II.1 h
     exact .inr ⟨j,s,by rw[Db (by simpa using(BI.1 hj).1),C0,hj];rfl,hg⟩
   ·obtain⟨j,hj⟩:=II.1 h
    refine .inr ⟨A.length+(cnt (.r n.1.1 n.1.2) n.2+j),s,?_,hg⟩;rw[Cu (by simp),Cu (by simp)];simp[hj])) h6
 ·rw[Cw]at h7
  show(sv::(A++G2)).Pairwise Gn;refine h7.sublist ?_;rw[<-Cw];exact List.Sublist.append (List.Sublist.refl _) (List.sublist_append_right _ _)
end
section
variable{P:Program}{o:Oper}{ρ:Operand->V}{bl:Nat->Option Blk}{β:Type}{r:β}
theorem Tm{E:Env}{b ver:Nat}{t:TypeId}{e:OT}{iver:Nat}{h:Option Path}{l:List e.ty.den}{v:Value}{svs:List (Option Value)}(h1:v.oneCell'=true)(hpl:E.pl b=some (.row v svs))(hbl:E.bl b=some (.tree t e ver iver h l)):VRep E (.c (.trow b ver [])) v:=by refine⟨h1,v,svs,hpl,λt1 e1 ver1 iver1 hh1 l1 hb1=>?_⟩;rw[hbl]at hb1;injection hb1 with hb1;injection hb1 with q1 q2 q3 q4 q5 q6;subst q1 q2 q3 q4 q5;simp only[Dl]at q6;subst q6;exact⟨Ao _,λ_ _=>⟨_,rfl,rfl⟩⟩
theorem ZK{ok0:OK0 P}{base:Nat}{pl:Nat->Option Pl}{bl2:Nat->Option Blk}{w w':World}(hr:RelB ok0 base pl bl2 w){nx:Nat}(hn2:bl2 nx=none){dd:List Nat}{Fu:List Value}(q2:Fu.Pairwise Gn)(q3:∀s∈Fu,∀g,s.ownBlock=some g->∃i∈dd,AL pl bl2 i g)(q5:∀i∈dd,∃B sv svs,bl2 i=some B/\B.live=true/\pl i=some (.row sv svs)){et:TypeId}{e:OT}{new:List e.ty.den}{v':Value}{ys:List Value}(hgr:w.grownBy w' none)(hsz:∀g,v'.ownBlock=some g->g=w.heap.size)(hOL:∀hv,OL (λ_ x f F=>Owns w (Ae ok0 base pl bl2 w).ok base hv e none x f F) 0 new ys Fu)(hown:w'.ownsRow base et e.ty.size v' new.length ys):∃pl3,RelB ok0 base pl3 (updL bl2 (dead dd++[(nx,.tree et e 0 0 none new)])) w'/\Step pl bl2 w pl3 (updL bl2 (dead dd++[(nx,.tree et e 0 0 none new)])) w'/\VRep (Ae ok0 base pl3 (updL bl2 (dead dd++[(nx,.tree et e 0 0 none new)])) w') (.c (.trow nx 0 [])) v':=by
 have hnd:nx∉dd:=λh=>by obtain⟨B,_,_,h1,_⟩:=q5 nx h;rw[show bl2 nx=some B from h1]at hn2;cases hn2
 have hb3:∀k,updL bl2 (dead dd++[(nx,.tree et e 0 0 none new)]) k=if k=nx then some (.tree et e 0 0 none new)else if k∈dd then some .dead else bl2 k:=λk=>by simp only[Hd,updL,upd,Ot]
 generalize updL bl2 (dead dd++[(nx,.tree et e 0 0 none new)])=bl3 at*;have hp3:∀k,upd pl nx (.row v' (Fu.map some)) k=if k=nx then some (.row v' (Fu.map some))else pl k:=λk=>rfl;generalize hpl3:upd pl nx (.row v' (Fu.map some))=pl3 at*
 have hlt:∀s∈Fu,∀g,s.ownBlock=some g->g<w.heap.size:=λs hs g hg=>by obtain⟨i,_,B,p,h⟩:=q3 s hs g hg;exact Own.lt hr ⟨i,B,p,h⟩
 have hdn:∀k∈dd,∀g,¬AL pl3 bl3 k g:=λk hk g h=>by obtain⟨B,p,h1,h2,_⟩:=h;have hkn:¬k=nx:=λe=>hnd (e▸hk);rw[hb3,if_neg hkn,if_pos hk]at h1;injection h1 with h1;subst h1;cases h2
 have hm:Many pl bl2 w pl3 bl3 w' (nx::dd) none:=by
  refine⟨λk hk=>?_,hgr,λg h=>(by cases h),λk hk g h=>?_,λk hk m hm hkm g h1 h2=>?_,λk hk g h=>?_,λk hk sv svs h=>?_⟩
  ·simp only[AH,not_or]at hk
   rw[hp3,hb3,if_neg hk.1,if_neg hk.1,if_neg hk.2];exact⟨rfl,rfl⟩
  ·rcases AH.1 hk with rfl|hk
   ·obtain⟨B,p,_,_,h1,h2⟩:=h
    rw[hp3,if_pos rfl]at h1;injection h1 with h1;subst h1;rcases h2 with h2|⟨j,s,hj,h2⟩
    ·exact .inr (DQ (hsz g h2).symm)
    ·rw[C0,Kl]at hj
     obtain⟨s',hj,he⟩:=hj;injection he with he;subst he;obtain⟨i,hi,ho⟩:=q3 s' (B6 hj) g h2;exact .inl ⟨i,AU _ hi,ho⟩
   ·exact absurd h (hdn k hk g)
  ·rcases AH.1 hk with rfl|hk
   ·rcases AH.1 hm with rfl|hm
    ·exact hkm rfl
    ·exact hdn m hm g h2
   ·exact hdn k hk g h1
  ·rcases AH.1 hk with rfl|hk
   ·rw[hr.fresh k hn2]at h;cases h
   ·obtain⟨_,_,_,_,_,h1⟩:=q5 k hk
    rw[show pl k=_ from h1]at h;cases h
  ·rcases AH.1 hk with rfl|hk
   ·rw[hr.fresh k hn2]at h;cases h
   ·have hkn:¬k=nx:=λe=>hnd (e▸hk)
    exact⟨sv,svs,by rw[hp3,if_neg hkn];exact h,by rw[hb3,if_neg hkn,if_pos hk];exact KeepR.ofDead⟩
 have hst:=hm.step
 have hT2:TreeOk (Ae ok0 base pl3 bl3 w') et e none new v' (Fu.map some):=Tl (E:=Ae ok0 base pl bl2 w) hst.ext rfl (l:=[]) (Fn:=[]) (xs:=[]) ⟨rfl,rfl⟩ (hOL v')
  (λs hs g hg=>hgr.block g (hlt s hs g hg) (by simp)) (by rw[Bw,BW];exact hown) (by
   rw[Cp,D8];exact⟨λs hs g h1 h2=>by have:=hlt s hs g h2;have:=hsz g h1;omega,q2⟩)
 refine⟨pl3,?_,hst,?_⟩
 ·refine hm.rel hr λk hk=>?_
  rcases AH.1 hk with rfl|hk
  ·exact⟨.tree et e 0 0 none new,.row v' (Fu.map some),by rw[hb3,if_pos rfl],by rw[hp3,if_pos rfl],hT2⟩
  ·have hkn:¬k=nx:=λe=>hnd (e▸hk)
   obtain⟨_,_,_,_,_,h1⟩:=q5 k hk;exact⟨.dead,_,by rw[hb3,if_neg hkn,if_pos hk],by rw[hp3,if_neg hkn];exact h1,trivial⟩
 ·exact Tm (IM hown) (by show pl3 nx=_;rw[hp3,if_pos rfl]) (by show bl3 nx=_;rw[hb3,if_pos rfl])
theorem vW{X:List (TypeId×OT)}{T:TypeId->Option TI}(hT:TOk P T){kk:K β}{c:Call}(ho:o.op=.call c)(hc:c.callee=.builtin .append){x y:Operand}{t:TypeId}{nx:Nat}(ha:c.args.toList=[x,y])(hty:c.argTypes.toList=[t,t])(hk:S8 X T bl nx t (ρ x) (ρ y) kk=some r):Sound P o ρ bl kk r:=by
 have hargs:c.args=#[x,y]:=by rw[<-CP (xs:=c.args),ha]
 have hx0:x∈o.op.operands:=by simp[ho,Op.operands,Call.operands,hargs]
 have hy0:y∈o.op.operands:=by simp[ho,Op.operands,Call.operands,hargs]
 unfold S8 at hk;split at hk
 ·cases hk
 rename_i ti ht;obtain⟨i,d,z,f⟩:=hT.facts ht;split at hk
 ·rename_i et hel hal
  have hd:=CC f hel hal;subst hd;split at hk
  ·cases hk
  rename_i te hte;obtain⟨i',d',z',fe⟩:=hT.facts hte;split at hk
  ·
   rename_i hx;split at hk
   ·cases hk
   rename_i e _;cases hs:(Nat.beq e.ty.size te.size&&(Nat.blt 0 te.size&&Nat.blt 0 te.bytes))with
   |false=>rw[hs]at hk;cases hk
   |true=>
    simp only[hs,Af]at hk;obtain⟨hs1,hs23⟩:=andB hs;obtain⟨hs2,hs3⟩:=andB hs23;have hs1:=Ag hs1;have hs2:=BL hs2;have hs3:=BL hs3;split at hk
    ·rename_i new rd dd hsrc hn
     obtain⟨hroom,hk⟩:=B8 hk;have hroom:=Az hroom;refine⟨_,_,_,hk,λbl2 hb2=>?_⟩;have hn2:bl2 nx=none:=(hb2 nx (by simp)).trans hn;intro ok0 base pl w a hr hxs K Q hK;have hv:a.eval x=.slice none 0 0:=by have:=hxs x hx0;rw[hx]at this;exact this
     obtain⟨Fu,q1,q2,q3,q4,q5⟩:=Tk (P:=P) (E:=Ae ok0 base pl bl2 w) (t:=t) (ty:=o.type) hr.blksOk fe f.under hs1 hs2 hs3 hsrc (λb hb=>hb2 b (by simp[hb])) (hxs y hy0);obtain⟨v',w',ys,hrun,hown,hgr,hloc,hOL⟩:=q1 base (.slice none 0 0) 0 [] hr.baseLe (World.ownsRow_nil w base et e.ty.size) (by simpa using hroom);have hgr:w.grownBy w' none:=hgr;have hown:w'.ownsRow base et e.ty.size v' (0+new.length) ([]++ys):=hown
     obtain⟨pl3,z1,z2,z3⟩:=ZK hr hn2 q2 q3 (λi hi=>(q5 i hi).2) hgr (λg hg=>by
      rcases hloc with h|h
      ·rw[h]at hg;cases hg
      ·rw[h]at hg;injection hg with hg;exact hg.symm) hOL (by simpa using hown)
     exact CB (Hc ho hc ha hty (by rw[hv];exact hrun)) (hK v' pl3 w' z1 z2 z3)
    ·cases hk
  ·
   rename_i b ver hx;split at hk
   ·rename_i t0 e ver' iver l hb
    cases hs:(Nat.beq ver ver'&&(Nat.beq t0 et&&(Nat.beq e.ty.size te.size&&(Nat.blt 0 te.size&&Nat.blt 0 te.bytes))))with
    |false=>rw[hs]at hk;cases hk
    |true=>
     simp only[hs,Af]at hk;obtain⟨hver,hs⟩:=andB hs;obtain⟨ht0,hs⟩:=andB hs;obtain⟨hs1,hs23⟩:=andB hs;obtain⟨hs2,hs3⟩:=andB hs23;have:=Ag hver;subst this;have:=Ag ht0;subst this;have hs1:=Ag hs1;have hs2:=BL hs2;have hs3:=BL hs3;split at hk
     ·rename_i new rd dd hsrc
      obtain⟨hgiv,hk⟩:=B8 hk;obtain⟨hmem,hroom⟩:=andB hgiv;have hroom:=Az hroom;have hbrd:b∉rd:=λh=>by rw[DA.2 h]at hmem;cases hmem
      refine⟨_,_,_,hk,λbl2 hb2=>?_⟩;have hb':bl2 b=some (.tree t0 e ver iver none l):=(hb2 b (by simp)).trans hb;intro ok0 base pl w a hr hxs K Q hK;have hv:=hxs x hx0;rw[hx]at hv;obtain⟨svs,hpl,hTr⟩:=Og (E:=Ae ok0 base pl bl2 w) hr.blksOk hb' hv;have hpl:pl b=some (.row (a.eval x) svs):=hpl;obtain⟨hv0,F,h1,h2,h3⟩:=hTr.rep;have h2:some (a.eval x)::svs=(a.eval x::F).map some:=h2;obtain⟨sv0,xs,F0,e1,e2,o1,o2⟩:=h1;have e1:=(F4 e1).1;subst e1;have e2:=(F4 e2).2;subst e2;generalize hvx:a.eval x=v at*;obtain⟨Fu,q1,q2,q3,q4,q5⟩:=Tk (P:=P) (E:=Ae ok0 base pl bl2 w) (t:=t) (ty:=o.type) hr.blksOk fe f.under hs1 hs2 hs3 hsrc (λb hb=>hb2 b (by simp[hb])) (hxs y hy0);obtain⟨v',w',ys,hrun,hown,hgr,hloc,hOL⟩:=q1 base v l.length xs hr.baseLe o1 hroom;have hgr:w.grownBy w' v.ownBlock:=hgr;have hbd:b∉dd:=λh=>hbrd (q5 b h).1
      have hb3:∀k,updL bl2 (dead dd++[(b,.tree t0 e (ver+1) iver none (l++new))]) k=if k=b then some (.tree t0 e (ver+1) iver none (l++new))else if k∈dd then some .dead else bl2 k:=λk=>by simp only[Hd,updL,upd,Ot]
      generalize updL bl2 (dead dd++[(b,.tree t0 e (ver+1) iver none (l++new))])=bl3 at*;have hp3:∀k,upd pl b (.row v' ((F++Fu).map some)) k=if k=b then some (.row v' ((F++Fu).map some))else pl k:=λk=>rfl;generalize hpl3:upd pl b (.row v' ((F++Fu).map some))=pl3 at*;have hob:∀s∈v::F,∀g,s.ownBlock=some g->AL pl bl2 b g:=λs hs g hg=>⟨_,_,hb',rfl,hpl,HQ h2 hs hg⟩;have hlt:∀i g,AL pl bl2 i g->g<w.heap.size:=λi g ⟨B,p,h⟩=>Own.lt hr ⟨i,B,p,h⟩
      have hltF:∀s∈F++Fu,∀g,s.ownBlock=some g->g<w.heap.size:=λs hs g hg=>by
       rcases Ba.1 hs with hs|hs
       ·exact hlt b g (hob s (AU _ hs) g hg)
       ·obtain⟨i,_,h⟩:=q3 s hs g hg;exact hlt i g h
      have hFu:∀s∈Fu,∀g,s.ownBlock=some g->¬AL pl bl2 b g:=λs hs g hg h=>by obtain⟨i,hi,B,p,k1,k2,k3,k4⟩:=q3 s hs g hg;obtain⟨B',p',m1,m2,m3,m4⟩:=h;exact hr.sep i b B B' p p' g (λe=>hbd (e▸hi)) k1 m1 k2 m2 k3 m3 k4 m4
      have hap:∀s∈F++Fu,Gn v s:=λs hs=>by
       rcases Ba.1 hs with hs|hs
       ·exact(D8.1 h3).1 s hs
       ·exact λg g1 g2=>hFu s hs g g2 (hob v (by simp) g g1)
      have hsz:∀g,v'.ownBlock=some g->v.ownBlock=some g\/g=w.heap.size:=λg hg=>by
       rcases hloc with h|h
       ·exact .inl (h▸hg)
       ·rw[h]at hg;injection hg with hg;exact .inr hg.symm
      have hdn:∀k∈dd,∀g,¬AL pl3 bl3 k g:=λk hk g h=>by obtain⟨B,p,h1,h2,_⟩:=h;have hkn:¬k=b:=λe=>hbd (e▸hk);rw[hb3,if_neg hkn,if_pos hk]at h1;injection h1 with h1;subst h1;cases h2
      have hm:Many pl bl2 w pl3 bl3 w' (b::dd) v.ownBlock:=by
       refine⟨λk hk=>?_,hgr,λg h=>⟨b,by simp,hob v (by simp) g h⟩,λk hk g h=>?_,λk hk m hm hkm g h1 h2=>?_,λk hk g h=>?_,λk hk sv svs' h=>?_⟩
       ·simp only[AH,not_or]at hk
        rw[hp3,hb3,if_neg hk.1,if_neg hk.1,if_neg hk.2];exact⟨rfl,rfl⟩
       ·rcases AH.1 hk with rfl|hk
        ·obtain⟨B,p,_,_,h1,h2⟩:=h
         rw[hp3,if_pos rfl]at h1;injection h1 with h1;subst h1;rcases h2 with h2|⟨j,s,hj,h2⟩
         ·rcases hsz g h2 with h2|h2
          ·exact .inl ⟨k,by simp,hob v (by simp) g h2⟩
          ·exact .inr (DQ h2.symm)
         ·rw[C0,Kl]at hj
          obtain⟨s',hj,he⟩:=hj;injection he with he;subst he;rcases Ba.1 (B6 hj)with hs|hs
          ·exact .inl ⟨k,by simp,hob s' (AU _ hs) g h2⟩
          ·obtain⟨i,hi,ho⟩:=q3 s' hs g h2
           exact .inl ⟨i,AU _ hi,ho⟩
        ·exact absurd h (hdn k hk g)
       ·rcases AH.1 hk with rfl|hk
        ·rcases AH.1 hm with rfl|hm
         ·exact hkm rfl
         ·exact hdn m hm g h2
        ·exact hdn k hk g h1
       ·rcases AH.1 hk with rfl|hk
        ·rw[hpl]at h;cases h
        ·obtain⟨_,_,_,_,_,_,h1⟩:=q5 k hk
         rw[show pl k=_ from h1]at h;cases h
       ·rcases AH.1 hk with rfl|hk
        ·refine⟨_,_,by rw[hp3,if_pos rfl],?_⟩
         rw[hb',hb3,if_pos rfl];exact KeepR.ofTree ⟨by omega,Ao _,λh=>by omega⟩
        ·have hkn:¬k=b:=λe=>hbd (e▸hk)
         exact⟨sv,svs',by rw[hp3,if_neg hkn];exact h,by rw[hb3,if_neg hkn,if_pos hk];exact KeepR.ofDead⟩
      have hst:=hm.step
      have hT2:TreeOk (Ae ok0 base pl3 bl3 w') t0 e none (l++new) v' ((F++Fu).map some):=Tl (E:=Ae ok0 base pl bl2 w) hst.ext rfl (o2.mono λ_ _ _ _ _ h=>Owns.any h) (hOL v')
       (λs hs g hg=>hgr.block g (hltF s hs g hg) (λe=>hap s hs g e.symm hg)) hown (by
        rw[D8,D7];refine⟨λs hs g g1 g2=>?_,(D8.1 h3).2,q2,λa ha b hb g g1 g2=>hFu b hb g g2 (hob a (AU _ ha) g g1)⟩;rcases hsz g g1 with g1|g1
        ·exact hap s hs g g1 g2
        ·have:=hltF s hs g g2;omega)
      refine CB (Hc ho hc ha hty (by rw[hvx];exact hrun)) (hK v' pl3 w' ?_ hst ?_)
      ·refine hm.rel hr λk hk=>?_
       rcases AH.1 hk with rfl|hk
       ·exact⟨.tree t0 e (ver+1) iver none (l++new),.row v' ((F++Fu).map some),by rw[hb3,if_pos rfl],by rw[hp3,if_pos rfl],hT2⟩
       ·have hkn:¬k=b:=λe=>hbd (e▸hk)
        obtain⟨_,_,_,_,_,_,h1⟩:=q5 k hk;exact⟨.dead,_,by rw[hb3,if_neg hkn,if_pos hk],by rw[hp3,if_neg hkn];exact h1,trivial⟩
      ·exact Tm (IM hown) (by show pl3 b=_;rw[hp3,if_pos rfl]) (by show bl3 b=_;rw[hb3,if_pos rfl])
     ·cases hk
   ·cases hk
  ·
   rename_i b ver i0 p hx;split at hk
   ·cases hk
   rename_i q hq;obtain⟨hb,hver,hnd0⟩:=Ol hq;subst hver;obtain⟨⟨t0,e⟩,l,ver,iver,n⟩:=q;simp only at hb hnd0 hx hk;cases hs:(Nat.beq n.1.1 et&&(Nat.beq n.1.2.ty.size te.size&&(Nat.blt 0 te.size&&Nat.blt 0 te.bytes)))with
   |false=>rw[hs]at hk;cases hk
   |true=>
    simp only[hs,Af]at hk;obtain⟨ht0,hs⟩:=andB hs;obtain⟨hs1,hs23⟩:=andB hs;obtain⟨hs2,hs3⟩:=andB hs23;have:=Ag ht0;subst this;have hs1:=Ag hs1;have hs2:=BL hs2;have hs3:=BL hs3;split at hk
    ·rename_i new rd dd hsrc hn
     obtain⟨hgiv,hk⟩:=B8 hk;obtain⟨hmem,hroom⟩:=andB hgiv;have hroom:=Az hroom;have hbrd:b∉rd:=λh=>by rw[DA.2 h]at hmem;cases hmem
     refine⟨_,_,_,hk,λbl2 hb2=>?_⟩;have hn2:bl2 nx=none:=(hb2 nx (by simp)).trans hn;have hb':bl2 b=some (.tree t0 e ver iver none l):=(hb2 b (by simp)).trans hb;have hbn:b≠nx:=by rintro rfl;rw[hb']at hn2;cases hn2
     intro ok0 base pl w a hr hxs K Q hK;have hv:=hxs x hx0;rw[hx]at hv;obtain⟨sv,svs,n',hpl,hTr,hn',hss⟩:=SW (E:=Ae ok0 base pl bl2 w) hr.blksOk hb' hv;have:=Gk hn';rw[hnd0]at this;injection this with this;subst this;have hpl:pl b=some (.row sv svs):=hpl;obtain⟨F,svsH,k1,h3,k3,k4,k5,k6⟩:=hTr.take hn' hss;obtain⟨sv0,xs,F0,e1,e2,o1,o2⟩:=k1;have e1:=(F4 e1).1;subst e1;have e2:=(F4 e2).2;subst e2;generalize hvx:a.eval x=v at*;obtain⟨Fu,q1,q2,q3,q4,q5⟩:=Tk (P:=P) (E:=Ae ok0 base pl bl2 w) (t:=t) (ty:=o.type) hr.blksOk fe f.under hs1 hs2 hs3 hsrc (λb hb=>hb2 b (by simp[hb])) (hxs y hy0);obtain⟨v',w',ys,hrun,hown,hgr,hloc,hOL⟩:=q1 base v n.2.length xs hr.baseLe o1 hroom;have hgr:w.grownBy w' v.ownBlock:=hgr;have hbd:b∉dd:=λh=>hbrd (q5 b h).1;have hnd:nx∉dd:=λh=>by obtain⟨_,B,_,_,h1,_⟩:=q5 nx h;rw[show bl2 nx=some B from h1]at hn2;cases hn2
     have hb3:∀k,updL bl2 (dead dd++[(b,.tree t0 e ver iver (some (i0::p)) l),(nx,.tree n.1.1 n.1.2 0 0 none (n.2++new))]) k=if k=nx then some (.tree n.1.1 n.1.2 0 0 none (n.2++new))else if k=b then some (.tree t0 e ver iver (some (i0::p)) l)else if k∈dd then some .dead else bl2 k:=λk=>by simp only[Hd,updL,upd,Ot]
     generalize updL bl2 (dead dd++[(b,.tree t0 e ver iver (some (i0::p)) l),(nx,.tree n.1.1 n.1.2 0 0 none (n.2++new))])=bl3 at*;have hp3:∀k,upd (upd pl b (.row sv svsH)) nx (.row v' ((F++Fu).map some)) k=if k=nx then some (.row v' ((F++Fu).map some))else if k=b then some (.row sv svsH)else pl k:=λk=>rfl;generalize hpl3:upd (upd pl b (.row sv svsH)) nx (.row v' ((F++Fu).map some))=pl3 at*;have hob:∀s∈v::F,∀g,s.ownBlock=some g->AL pl bl2 b g:=λs hs g hg=>⟨_,_,hb',rfl,hpl,k3 s hs g hg⟩;have hlt:∀i g,AL pl bl2 i g->g<w.heap.size:=λi g ⟨B,p,h⟩=>Own.lt hr ⟨i,B,p,h⟩
     have hltF:∀s∈F++Fu,∀g,s.ownBlock=some g->g<w.heap.size:=λs hs g hg=>by
      rcases Ba.1 hs with hs|hs
      ·exact hlt b g (hob s (AU _ hs) g hg)
      ·obtain⟨i,_,h⟩:=q3 s hs g hg;exact hlt i g h
     have hFu:∀s∈Fu,∀g,s.ownBlock=some g->¬AL pl bl2 b g:=λs hs g hg h=>by obtain⟨i,hi,B,p,k1,k2,k3,k4⟩:=q3 s hs g hg;obtain⟨B',p',m1,m2,m3,m4⟩:=h;exact hr.sep i b B B' p p' g (λe=>hbd (e▸hi)) k1 m1 k2 m2 k3 m3 k4 m4
     have hap:∀s∈F++Fu,Gn v s:=λs hs=>by
      rcases Ba.1 hs with hs|hs
      ·exact(D8.1 h3).1 s hs
      ·exact λg g1 g2=>hFu s hs g g2 (hob v (by simp) g g1)
     have hsz:∀g,v'.ownBlock=some g->v.ownBlock=some g\/g=w.heap.size:=λg hg=>by
      rcases hloc with h|h
      ·exact .inl (h▸hg)
      ·rw[h]at hg;injection hg with hg;exact .inr hg.symm
     have hdn:∀k∈dd,∀g,¬AL pl3 bl3 k g:=λk hk g h=>by obtain⟨B,p,h1,h2,_⟩:=h;have hkn:¬k=nx:=λe=>hnd (e▸hk);have hkb:¬k=b:=λe=>hbd (e▸hk);rw[hb3,if_neg hkn,if_neg hkb,if_pos hk]at h1;injection h1 with h1;subst h1;cases h2
     have hBo:∀g,AL pl3 bl3 b g->(Pl.row sv svsH).has g:=λg h=>by obtain⟨B,p,_,_,h1,h2⟩:=h;rw[hp3,if_neg hbn,if_pos rfl]at h1;injection h1 with h1;subst h1;exact h2
     have hNo:∀g,AL pl3 bl3 nx g->(∃s∈v::F,s.ownBlock=some g)\/(∃s∈Fu,s.ownBlock=some g)\/g=w.heap.size:=λg h=>by
      obtain⟨B,p,_,_,h1,h2⟩:=h;rw[hp3,if_pos rfl]at h1;injection h1 with h1;subst h1;rcases h2 with h2|⟨j,s,hj,h2⟩
      ·rcases hsz g h2 with h2|h2
       ·exact .inl ⟨v,by simp,h2⟩
       ·exact .inr (.inr h2)
      ·rw[C0,Kl]at hj
       obtain⟨s',hj,he⟩:=hj;injection he with he;subst he;rcases Ba.1 (B6 hj)with hs|hs
       ·exact .inl ⟨s',AU _ hs,h2⟩
       ·exact .inr (.inl ⟨s',hs,h2⟩)
     have hBN:∀g,AL pl3 bl3 b g->¬AL pl3 bl3 nx g:=λg h h'=>by
      obtain⟨h1,h2⟩:=k4 g (hBo g h);rcases hNo g h' with⟨s,hs,hg⟩|⟨s,hs,hg⟩|hg
      ·exact h2 s hs hg
      ·exact hFu s hs g hg ⟨_,_,hb',rfl,hpl,h1⟩
      ·have:=hlt b g ⟨_,_,hb',rfl,hpl,h1⟩;omega
     have hm:Many pl bl2 w pl3 bl3 w' (nx::b::dd) v.ownBlock:=by
      refine⟨λk hk=>?_,hgr,λg h=>⟨b,by simp,hob v (by simp) g h⟩,λk hk g h=>?_,λk hk m hm hkm g h1 h2=>?_,λk hk g h=>?_,λk hk sv1 svs1 h=>?_⟩
      ·simp only[AH,not_or]at hk
       rw[hp3,hb3,if_neg hk.1,if_neg hk.1,if_neg hk.2.1,if_neg hk.2.1,if_neg hk.2.2];exact⟨rfl,rfl⟩
      ·rcases AH.1 hk with rfl|hk
       ·rcases hNo g h with⟨s,hs,hg⟩|⟨s,hs,hg⟩|hg
        ·exact .inl ⟨b,by simp,hob s hs g hg⟩
        ·obtain⟨i,hi,ho⟩:=q3 s hs g hg
         exact .inl ⟨i,by simp[hi],ho⟩
        ·exact .inr (DQ hg.symm)
       ·rcases AH.1 hk with rfl|hk
        ·exact .inl ⟨k,by simp,_,_,hb',rfl,hpl,(k4 g (hBo g h)).1⟩
        ·exact absurd h (hdn k hk g)
      ·rcases AH.1 hk with rfl|hk
       ·rcases AH.1 hm with rfl|hm
        ·exact hkm rfl
        ·rcases AH.1 hm with rfl|hm
         ·exact hBN g h2 h1
         ·exact hdn m hm g h2
       ·rcases AH.1 hk with rfl|hk
        ·rcases AH.1 hm with rfl|hm
         ·exact hBN g h1 h2
         ·rcases AH.1 hm with rfl|hm
          ·exact hkm rfl
          ·exact hdn m hm g h2
        ·exact hdn k hk g h1
      ·rcases AH.1 hk with rfl|hk
       ·rw[hr.fresh k hn2]at h;cases h
       ·rcases AH.1 hk with rfl|hk
        ·rw[hpl]at h;cases h
        ·obtain⟨_,_,_,_,_,_,h1⟩:=q5 k hk
         rw[show pl k=_ from h1]at h;cases h
      ·rcases AH.1 hk with rfl|hk
       ·rw[hr.fresh k hn2]at h;cases h
       ·rcases AH.1 hk with rfl|hk
        ·rw[hpl]at h
         injection h with h;injection h with h h';subst h h';refine⟨_,_,by rw[hp3,if_neg hbn,if_pos rfl],?_⟩;rw[hb',hb3,if_neg hbn,if_pos rfl];exact KeepR.ofTree ⟨Ao _,Ao _,λ_=>⟨rfl,k5 _⟩⟩
        ·have hkn:¬k=nx:=λe=>hnd (e▸hk)
         have hkb:¬k=b:=λe=>hbd (e▸hk);exact⟨sv1,svs1,by rw[hp3,if_neg hkn,if_neg hkb];exact h,by rw[hb3,if_neg hkn,if_neg hkb,if_pos hk];exact KeepR.ofDead⟩
     have hst:=hm.step
     have hT2:TreeOk (Ae ok0 base pl3 bl3 w') n.1.1 n.1.2 none (n.2++new) v' ((F++Fu).map some):=Tl (E:=Ae ok0 base pl bl2 w) hst.ext rfl (o2.mono λ_ _ _ _ _ h=>Owns.any h) (hOL v')
      (λs hs g hg=>hgr.block g (hltF s hs g hg) (λe=>hap s hs g e.symm hg)) hown (by
       rw[D8,D7];refine⟨λs hs g g1 g2=>?_,(D8.1 h3).2,q2,λa ha b hb g g1 g2=>hFu b hb g g2 (hob a (AU _ ha) g g1)⟩;rcases hsz g g1 with g1|g1
       ·exact hap s hs g g1 g2
       ·have:=hltF s hs g g2;omega)
     have hT3:TreeOk (Ae ok0 base pl3 bl3 w') t0 e (some (i0::p)) l sv svsH:=k6 _ hst.ext rfl (λg hg=>by obtain⟨h1,h2⟩:=k4 g hg;exact hgr.block g (hlt b g ⟨_,_,hb',rfl,hpl,h1⟩) (λe=>h2 v (by simp) e.symm))
     refine CB (Hc ho hc ha hty (by rw[hvx];exact hrun)) (hK v' pl3 w' ?_ hst ?_)
     ·refine hm.rel hr λk hk=>?_
      rcases AH.1 hk with rfl|hk
      ·exact⟨.tree n.1.1 n.1.2 0 0 none (n.2++new),.row v' ((F++Fu).map some),by rw[hb3,if_pos rfl],by rw[hp3,if_pos rfl],hT2⟩
      ·rcases AH.1 hk with rfl|hk
       ·exact⟨.tree t0 e ver iver (some (i0::p)) l,.row sv svsH,by rw[hb3,if_neg hbn,if_pos rfl],by rw[hp3,if_neg hbn,if_pos rfl],hT3⟩
       ·have hkn:¬k=nx:=λe=>hnd (e▸hk)
        have hkb:¬k=b:=λe=>hbd (e▸hk);obtain⟨_,_,_,_,_,_,h1⟩:=q5 k hk;exact⟨.dead,_,by rw[hb3,if_neg hkn,if_neg hkb,if_pos hk],by rw[hp3,if_neg hkn,if_neg hkb];exact h1,trivial⟩
     ·exact Tm (IM hown) (by show pl3 nx=_;rw[hp3,if_pos rfl]) (by show bl3 nx=_;rw[hb3,if_pos rfl])
    ·cases hk
  ·cases hk
 ·cases hk
theorem Tn{E:Env}{blp:Nat->Option Blk}(hb:BX E){hsep:∀i j,i≠j->∀g,AL E.pl E.bl i g->¬AL E.pl E.bl j g}:∀{o:OT}{cs:List C}{vs:List Value}{x:o.ty.den}{rs:List C}{ids:List Nat},CReps E cs vs->Gf blp o cs=some (x,rs,ids)->(∀i∈ids,E.bl i=blp i)->ids.Nodup->∃us ws F,vs=us++ws/\CReps E rs ws/\(∀hv,Owns E.w E.ok E.base hv o none x us F)/\(∀s∈F,∀g,s.ownBlock=some g->∃i∈ids,AL E.pl E.bl i g)/\F.Pairwise Gn/\∀i∈ids,∃B sv svs,E.bl i=some B/\B.live=true/\E.pl i=some (.row sv svs)
 |.d τ,cs,vs,x,rs,ids,h,ha,hsub,hnd=>by
  simp only[Gf]at ha;split at ha
  ·rename_i y q hp
   simp only[Ac,AN]at ha;obtain⟨rfl,rfl,rfl⟩:=ha;obtain⟨us,ws,e1,h1,h2,_⟩:=HO hb (Rows.none _ _) h hp;exact⟨us,ws,[],e1,h2,λhv=>⟨rfl,h1,rfl⟩,by simp,by simp,by simp⟩
  ·cases ha
 |.p a c,cs,vs,x,rs,ids,h,ha,hsub,hnd=>by
  simp only[Gf]at ha;split at ha
  ·cases ha
  rename_i x1 r1 i1 h1;split at ha
  ·cases ha
  rename_i x2 r2 i2 h2;simp only[Ac,AN]at ha;obtain⟨rfl,rfl,rfl⟩:=ha;obtain⟨n1,n2,n3⟩:=Sm.1 hnd;obtain⟨us1,ws1,F1,a1,a2,a3,a4,a5,a6⟩:=Tn hb (hsep:=hsep) h h1 (λi hi=>hsub i (BG _ hi)) n1;obtain⟨us2,ws2,F2,b1,b2,b3,b4,b5,b6⟩:=Tn hb (hsep:=hsep) a2 h2 (λi hi=>hsub i (BM _ hi)) n2;refine⟨us1++us2,ws2,F1++F2,by rw[a1,b1,AW],b2,λhv=>⟨us1,us2,F1,F2,rfl,rfl,a3 hv,b3 hv⟩,λs hs g hg=>?_,D7.2 ⟨a5,b5,λs hs s' hs' g g1 g2=>?_⟩,λi hi=>?_⟩
  ·rcases Ba.1 hs with hs|hs
   ·obtain⟨i,hi,ho⟩:=a4 s hs g hg
    exact⟨i,BG _ hi,ho⟩
   ·obtain⟨i,hi,ho⟩:=b4 s hs g hg
    exact⟨i,BM _ hi,ho⟩
  ·obtain⟨i,hi,ho⟩:=a4 s hs g g1
   obtain⟨j,hj,ho'⟩:=b4 s' hs' g g2;exact hsep i j (n3 i hi j hj) g ho ho'
  ·rcases Ba.1 hi with hi|hi
   ·exact a6 i hi
   ·exact b6 i hi
 |.r t e,[],vs,x,rs,ids,h,ha,hsub,hnd=>by simp[Gf]at ha
 |.r t e,c::cs,vs,x,rs,ids,⟨v,vs',e1,h1,h2⟩,ha,hsub,hnd=>by
  simp only[Gf]at ha;split at ha
  ·simp only[Ac,AN]at ha
   obtain⟨rfl,rfl,rfl⟩:=ha;have h1:v=.slice none 0 0:=h1;subst h1;refine⟨[_],vs',[_],e1,h2,λhv=>⟨_,[],[],rfl,rfl,World.ownsRow_nil _ _ _ _,rfl,rfl⟩,λs hs g hg=>?_,by simp,by simp⟩;rw[Cv]at hs;subst hs;cases hg
  ·split at ha
   ·rename_i b m hm
    split at ha
    ·rename_i hty
     obtain⟨⟨m1,m2⟩,m3⟩:=m;simp only[AN]at hty;obtain⟨rfl,rfl⟩:=hty;simp only[Ac,AN]at ha;obtain⟨rfl,rfl,rfl⟩:=ha;obtain⟨svs,Fr,B,k1,k2,_,k3,k4,k5,k6⟩:=SZ hb hm (hsub b (by simp)) (u:=v) h1;have hlive:B.live=true:=by cases B<;>first|rfl|exact absurd rfl k2
     refine⟨[v],vs',v::Fr,e1,h2,k4,λs hs g hg=>⟨b,by simp,B,_,k1,hlive,k3,HQ k5 hs hg⟩,k6,λi hi=>?_⟩;rw[Cv]at hi;subst hi;exact⟨B,v,svs,k1,hlive,k3⟩
    ·cases ha
   ·cases ha
theorem vX{X:List (TypeId×OT)}{T:TypeId->Option TI}(hT:TOk P T){kk:K β}{nx:Nat}{t:TypeId}{n:Nat}{parts:Array (Nat×Operand)}(ho:o.op=.buildSlice t n parts)(hk:S9 X T bl nx t n (parts.toList.map λp=>(p.1,ρ p.2)) kk=some r):Sound P o ρ bl kk r:=by
 unfold S9 at hk;split at hk
 ·rename_i v0 hparts
  split at hk
  ·rename_i ti cs ht hcs
   obtain⟨i,d,z,f⟩:=hT.facts ht;split at hk
   ·rename_i et hel hal
    have hd:=CC f hel hal;subst hd;have hu:=f.under;split at hk
    ·rename_i te e hte _ hn
     obtain⟨i',d',z',fe⟩:=hT.facts hte;split at hk
     ·rename_i x0 ids hab
      cases hc:(Nat.beq n 1&&(Nat.beq cs.length te.size&&(Nat.beq e.ty.size te.size&&(Nat.blt 0 te.size&&(Nat.ble te.size 16777216&&E9 ids)))))with
      |false=>rw[hc]at hk;cases hk
      |true=>
       simp only[hc,Af]at hk;obtain⟨c1,hc⟩:=andB hc;obtain⟨c2,hc⟩:=andB hc;obtain⟨c3,hc⟩:=andB hc;obtain⟨c4,hc⟩:=andB hc;obtain⟨c5,c6⟩:=andB hc;have:=Ag c1;subst this;have c2:=Ag c2;have c3:=Ag c3;have c4:=BL c4;have c5:=D6 c5;have c6:=Ji c6
       obtain⟨x,hpx,hxv⟩:∃x,parts.toList=[(0,x)]/\ρ x=v0:=by
        cases hq:parts.toList with
        |nil=>rw[hq]at hparts;cases hparts
        |cons p ps=>rw[hq]at hparts;simp only[Bp,BB,AN,List.map_eq_nil_iff]at hparts;obtain⟨⟨h1,h2⟩,h3⟩:=hparts;obtain⟨p1,p2⟩:=p;simp only at h1 h2;subst h1 h3;exact⟨p2,rfl,h2⟩
       have hx0:x∈o.op.operands:=by simp only[ho,Op.operands];exact ND.2 (CJ.2 ⟨(0,x),by rw[hpx];simp,rfl⟩)
       refine⟨_,_,_,hk,λbl2 hb=>?_⟩;have hn2:bl2 nx=none:=(hb nx (by simp)).trans hn;intro ok0 base pl w a hr hxs K Q hK;have hcr:=VRep.cells_of (by rw[hxv];exact hcs) (hxs x hx0);have hcl:=hcr.length;obtain⟨us,ws,F,a1,a2,a3,a4,a5,a6⟩:=Tn (E:=Ae ok0 base pl bl2 w) hr.blksOk (hsep:=λi j hij g ⟨B,p,h1,h2,h3,h4⟩ ⟨B',p',m1,m2,m3,m4⟩=>hr.sep i j B B' p p' g hij h1 m1 h2 m2 h3 m3 h4 m4) hcr hab (λi hi=>hb i (by simp[hi])) c6;have a2:ws=[]:=a2;subst a2;rw[CA]at a1
       have hzl:z'.cells.size=te.size:=by have:=fe.len;rw[CQ]at this;rw[this,fe.size]
       have hvs:(a.eval x).cells.size=te.size:=by rw[<-CQ,hcl,c2]
       have hfill:Instr.fill (λi=>some (i*te.size,te.size)) (repL 1 z'.cells.toList).toArray [(0,a.eval x)]=some (a.eval x).cells:=by
        have e1:(repL 1 z'.cells.toList).toArray=z'.cells:=by apply Dc;simp[repL]
        have hle:¬(0*te.size+(a.eval x).cells.size>z'.cells.size):=by omega
        rw[e1];simp only[Instr.fill];rw[if_neg (by simp only[hvs,ne_eq,NA,decide_false,HC,EZ];omega),Nat.zero_mul,Z8 0 (a.eval x) z'.cells (by simp only[CQ];omega)];congr 1;apply Dc;rw[IH (by simp only[CQ];omega)];simp
       have hrun:(execOp a.eval o).run P w=.ok (.value (.slice (some ⟨w.heap.size,0,none⟩) 1 1)) (w.alloc (.cells (a.eval x).cells et)):=by
        have e0:(Array.range (1*te.size)).map (λx=>z'.cells[x%z'.cells.size]!)=(repL 1 z'.cells.toList).toArray:=by
         have hmade:madeCells z'.cells (1*te.size)=(repL 1 z'.cells.toList).toArray:=by apply Dc;rw[<-hzl,HV _ (by omega)]
         exact hmade
        have h0:¬(1*te.size>2^24):=by omega
        have h2:¬(1*te.size=0):=by omega
        have hpm:(parts.map λp=>(p.1,a.eval p.2)).toList=[(0,a.eval x)]:=by rw[IL,hpx];rfl
        simp only[execOp,ho,Instr.buildSlice,run_underlying hu,run_sizeOf fe,Sem.run_bind,Result.andThen_ok,h0,Bk,Sem.run_pure,h2,zeroValue,typeInfo,run_program,fe.info,fe.zero,e0,hpm,hfill,newRow,run_newObj];rfl
       have hg:w.grownBy (w.alloc (.cells (a.eval x).cells et)) none:=World.grownBy_alloc w _ none
       have hown:(w.alloc (.cells (a.eval x).cells et)).ownsRow base et e.ty.size (.slice (some ⟨w.heap.size,0,none⟩) 1 1) [x0].length us:=by rw[<-a1];refine⟨by rw[hcl,c2,c3];simp,.inr ⟨w.heap.size,1,(a.eval x).cells,rfl,hr.baseLe,heap_alloc_new w _,Ao _,by simp[maxLen],by rw[hvs,c3,Nat.one_mul],?_⟩⟩;rw[Dz (by rw[hcl,c2,c3];simp)]
       obtain⟨pl3,z1,z2,z3⟩:=ZK hr hn2 a5 a4 a6 hg (λg hg=>by simpa [Value.ownBlock]using hg.symm) (new:=[x0]) (e:=e) (λhv=>⟨us,[],F,[],by simp,by simp,a3 hv,rfl,rfl⟩) hown;exact CB hrun (hK _ pl3 _ z1 z2 z3)
     ·cases hk
    ·cases hk
   ·cases hk
  ·cases hk
 ·cases hk
end
end Go.Lift
