/- Part2: LiftK, LiftL, LiftM, LiftMm, LiftMf, LiftN, LiftO, LiftP, LiftQ, LiftR. -/
import Derived.MapKept
import Derived.WideKeyRuns
import Derived.LoopN
import Derived.Test.YtdnpgahodmolkaaGreatDoorPart1
set_option linter.unusedVariables false
set_option linter.unusedSectionVars false
set_option linter.unusedSimpArgs false
namespace Go.Lift
open Go.RowKit
section
variable{P:Program}{o:Oper}{ρ:Operand->V}{bl:Nat->Option Blk}{β:Type}{r:β}
theorem vY{kk:K β}{t:TypeId}{x:Operand}(ho:o.op=.unOp .not t x){b:Bool}(hx:ρ x=.c (.bool b))(hk:kk (.c (.bool (!b))) [] []=some r):Sound P o ρ bl kk r:=by refine Sound.pure hk λbl2 _ ok0 base pl w a hr hxs=>⟨.bool (!b),?_,rfl⟩;have h1:=hxs x (by simp[ho,Op.operands]);rw[hx]at h1;have h1':a.eval x=.bool b:=h1;simp[execOp,ho,h1',Op.unary]
theorem vZ{kk:K β}{t:TypeId}{x:Operand}(ho:o.op=.unOp .neg t x){k:IntKind}{n:Int}(hx:ρ x=.c (.int k n))(hk:kk (.c (.int k (k.wrap (0-n)))) [] []=some r):Sound P o ρ bl kk r:=by refine Sound.pure hk λbl2 _ ok0 base pl w a hr hxs=>⟨.int k (k.wrap (0-n)),?_,rfl⟩;have h1:=hxs x (by simp[ho,Op.operands]);rw[hx]at h1;have h1':a.eval x=.int k n:=h1;simp[execOp,ho,h1',Op.unary,Op.intArith]
theorem wA{T:TypeId->Option TI}(hT:TOk P T){kk:K β}{s t:TypeId}{x:Operand}(ho:o.op=.convert s t x){si ti:TI}(hs:T s=some si)(ht:T t=some ti){k0 k:IntKind}{n:Int}(hx:ρ x=.c (.int k0 n))(hkd:ti.kind=some k)(hk:kk (.c (.int k (k.wrap n))) [] []=some r):Sound P o ρ bl kk r:=by
 obtain⟨i,d,z,f⟩:=hT.facts ht;obtain⟨i',d',z',f'⟩:=hT.facts hs
 have hd:d=.int k:=by rw[f.kind]at hkd;cases d<;>simp_all [Jd]
 subst hd;refine Sound.pure hk λbl2 _ ok0 base pl w a hr hxs=>⟨.int k (k.wrap n),?_,rfl⟩;have h1:=hxs x (by simp[ho,Op.operands]);rw[hx]at h1;have h1':a.eval x=.int k0 n:=h1;simp[execOp,ho,h1',convert,run_underlying f.under,run_underlying f'.under,Conv.intToInt]
theorem wB{T:TypeId->Option TI}(hT:TOk P T){kk:K β}{s t:TypeId}{x:Operand}(ho:o.op=.convert s t x){si ti:TI}(hs:T s=some si)(ht:T t=some ti){l:List UInt8}(hx:ρ x=.c (.str l))(hkd:ti.isStr=true)(hk:kk (.c (.str l)) [] []=some r):Sound P o ρ bl kk r:=by
 obtain⟨i,d,z,f⟩:=hT.facts ht;obtain⟨i',d',z',f'⟩:=hT.facts hs;have hd:=KR f hkd;subst hd;refine Sound.pure hk λbl2 _ ok0 base pl w a hr hxs=>⟨.string ⟨l.toArray⟩,?_,rfl⟩;have h1:=hxs x (by simp[ho,Op.operands]);rw[hx]at h1;have h1':a.eval x=.string ⟨l.toArray⟩:=h1;simp[execOp,ho,h1',convert,run_underlying f.under,run_underlying f'.under]
theorem ZL{E:Env}:∀{vs:List V}{us:List Value}{bs:List Nat},Ja vs=some bs->vs.length=us.length->(∀(j:Nat)(v:V)(u:Value),vs[j]?=some v->us[j]?=some u->VRep E v u)->∃gs:List Nat,bs.map E.pl=gs.map (λg=>some (.cells g))/\us=gs.map λg=>.pointer (some ⟨g,0,none⟩)
 |[],us,bs,h,hl,hv=>by
  simp only[Ja,Ac]at h;subst h;cases us with
  |nil=>exact⟨[],rfl,rfl⟩
  |cons u us=>simp at hl
 |v::vs,us,bs,h,hl,hv=>by
  cases us with
  |nil=>simp at hl
  |cons u us=>
   unfold Ja at h;split at h
   ·rename_i heq;cases heq
   ·rename_i b r' heq
    injection heq with h1 h2;subst h1 h2;split at h
    ·rename_i l hl'
     simp only[Ac]at h;subst h;obtain⟨gs,h3,h4⟩:=ZL hl' (by simpa using hl) (λj v u hj hu=>hv (j+1) v u (by simpa using hj) (by simpa using hu));obtain⟨g,hg,hu⟩:=hv 0 _ _ rfl rfl;exact⟨g::gs,by simp[h3,hg],by simp[h4,hu]⟩
    ·cases h
   ·cases h
theorem wC{kk:K β}{f:FuncId}{first caps:Array Operand}(ho:o.op=.makeFunc (.func f) first caps)(hf:first.toList=[]){bs:List Nat}(hb:Ja (caps.toList.map ρ)=some bs)(hk:kk (.c (.fn f bs)) [] []=some r):Sound P o ρ bl kk r:=by
 have hf':first=#[]:=by simpa using hf
 subst hf';refine Sound.pure hk λbl2 _ ok0 base pl w a hr hxs=>?_
 obtain⟨gs,h1,h2⟩:=ZL (E:=Ae ok0 base pl bl2 w) (us:=caps.toList.map a.eval) hb (by simp) (λj v u hj hu=>by
  rw[C0]at hj hu;cases hc:caps.toList[j]? with
  |none=>rw[hc]at hj;cases hj
  |some x=>rw[hc]at hj hu;simp only[Cl,Ac]at hj hu;subst hj hu;exact hxs x (by simp only[ho,Op.operands,NE];exact .inr (by have:=B6 hc;simpa using this)))
 refine⟨.func (.func f) #[] (gs.map λg=>.pointer (some ⟨g,0,none⟩)).toArray,?_,gs,h1,rfl⟩
 have h3:caps.map a.eval=(gs.map λg=>Value.pointer (some ⟨g,0,none⟩)).toArray:=by apply Dc;simpa using h2
 simp[execOp,ho,Instr.makeFunc,h3]
theorem HX{kk:K β}{x:Operand}(ho:o.op=.nilCheck x)(hx:(∃b of,ρ x=.c (.ptr b of))\/(∃b ver i of,ρ x=.eptr b ver i of)\/(∃e y of,ρ x=.lptr e y of)\/(∃f caps,ρ x=.c (.fn f caps))\/(∃b ver i,ρ x=.mcell b ver i)\/(∃b ver i j of,ρ x=.mptr b ver i j of)\/(∃b ver p i of,ρ x=.c (.tptr b ver p i of)))(hk:kk (ρ x) [] []=some r):Sound P o ρ bl kk r:=by
 refine Sound.pure hk λbl2 _ ok0 base pl w a hr hxs=>⟨a.eval x,?_,hxs x (by simp[ho,Op.operands])⟩;have h1:=hxs x (by simp[ho,Op.operands]);rcases hx with⟨b,of,hx⟩|⟨b,ver,i,of,hx⟩|⟨e,y,of,hx⟩|⟨f,caps,hx⟩|⟨b,ver,i,hx⟩|⟨b,ver,i,j,of,hx⟩|⟨b,ver,p,i,of,hx⟩<;>rw[hx]at h1
 ·obtain⟨g,_,hv⟩:=h1
  simp[execOp,ho,hv]
 ·obtain⟨sv,svs,ad,_,hv,_⟩:=h1
  simp[execOp,ho,hv]
 ·obtain⟨xs,ad,_,hv,_⟩:=h1
  simp[execOp,ho,hv]
 ·obtain⟨gs,_,hv⟩:=h1
  simp[execOp,ho,hv]
 ·obtain⟨sv,svs,ad,_,hv,_⟩:=h1
  simp[execOp,ho,hv]
 ·obtain⟨sv,svs,ad,_,hv,_⟩:=h1
  simp[execOp,ho,hv]
 ·obtain⟨sv,svs,ad,_,hv,_⟩:=h1
  simp[execOp,ho,hv]
theorem wD{T:TypeId->Option TI}(hT:TOk P T){kk:K β}{t:TypeId}{x:Operand}{fi:Nat}(ho:o.op=.field t x fi){ti:TI}(ht:T t=some ti){cs:List C}(hx:ρ x=.agg cs){off n:Nat}{g:Bool}(hf:ti.flds[fi]?=some (off,n,g))(h1:(g||Nat.beq n 1)=true){rc:List C}(hs:sub cs off n=some rc)(hk:kk (V.mk g rc) [] []=some r):Sound P o ρ bl kk r:=by
 obtain⟨i,d,z,f⟩:=hT.facts ht;obtain⟨fs,fd,j,e,rfl,hfd,rfl,hj,rfl,he,hg⟩:=Zz f hf;refine Sound.pure hk λbl2 _ ok0 base pl w a hr hxs=>?_;have hv:=hxs x (by simp[ho,Op.operands]);rw[hx]at hv;obtain⟨vs,hvs,hav⟩:=hv;simp only[B7]at hav;obtain⟨s1,s2,s3⟩:=HN hvs hs
 have hagg:(isAgg fd.type).run P w=.ok g w:=by rw[<-hg];unfold isAgg Ep;rw[Sem.run_bind,run_underlying he w,he];cases e<;>simp
 have hsz:(sizeOf fd.type).run P w=.ok j.size w:=by simp[sizeOf,typeInfo,hj]
 cases g with
 |true=>
  refine⟨.agg ((vs.drop fd.offset).take j.size).toArray,?_,_,s1,by simp⟩
  have hex:vs.toArray.extract fd.offset (fd.offset+j.size)=((vs.drop fd.offset).take j.size).toArray:=by apply Dc;simp
  simp[execOp,ho,hav,Instr.field,run_underlying f.under,hfd,asAgg,part,hagg,hsz]
 |false=>
  have hn:j.size=1:=by simpa using Ag (by simpa using h1)
  have hlt:fd.offset<vs.length:=by omega
  have htake:(vs.drop fd.offset).take j.size=[vs[fd.offset]]:=by rw[hn,EY hlt];rfl
  rw[htake]at s1;refine⟨vs[fd.offset],?_,VRep.mk ⟨_,s1,by simp⟩⟩;simp[execOp,ho,hav,Instr.field,run_underlying f.under,hfd,asAgg,part,hagg,hlt]
theorem wE{T:TypeId->Option TI}(hT:TOk P T){kk:K β}{t:TypeId}{x y:Operand}(ho:o.op=.index t x y){ti:TI}(ht:T t=some ti){s:List UInt8}(hx:ρ x=.c (.str s)){k:IntKind}{i:Int}(hy:ival (ρ y)=some (k,i))(hstr:ti.isStr=true)(h0:0<=i)(h1:i<(s.length:Int))(hk:kk (.c (.int .u8 ((s.getD i.toNat 0).toNat:Int))) [] []=some r):Sound P o ρ bl kk r:=by
 obtain⟨inf,d,z,f⟩:=hT.facts ht;have:=KR f hstr;subst this;refine Sound.pure hk λbl2 _ ok0 base pl w a hr hxs=>⟨.int .u8 ((s.getD i.toNat 0).toNat:Int),?_,rfl⟩;have hx1:=hxs x (by simp[ho,Op.operands]);have hy1:=hxs y (by simp[ho,Op.operands]);rw[hx]at hx1;rw[Gl hy]at hy1;have hx2:a.eval x=.string ⟨s.toArray⟩:=hx1;have hy2:a.eval y=.int k i:=hy1;have hlt:i.toNat<s.length:=by omega
 have hget:(⟨s.toArray⟩:ByteArray)[i.toNat]?=some s[i.toNat]:=by have hsz:i.toNat<(⟨s.toArray⟩:ByteArray).size:=hlt;rw[getElem?_pos (⟨s.toArray⟩:ByteArray) i.toNat hsz];rfl
 have hd:s.getD i.toNat 0=s[i.toNat]:=by simp[List.getD,hlt]
 rw[hd];simp[execOp,ho,hx2,hy2,Instr.index,asIntOf,run_underlying f.under,h0,hget]
theorem TReps.get{E:Env}:∀{ts:List (Bool×List C)}{vs:List Value}{i:Nat}{t:Bool×List C},TReps E ts vs->ts[i]?=some t->∃v,vs[i]?=some v/\SRep E t.1 t.2 v
 |[],_,i,t,_,h=>by simp at h
 |t0::ts,_,0,t,⟨v,vs',e,h1,h2⟩,h=>by simp only[BJ,Ac]at h;subst h e;exact⟨v,rfl,h1⟩
 |t0::ts,_,i+1,t,⟨v,vs',e,h1,h2⟩,h=>by subst e;obtain⟨u,h3,h4⟩:=TReps.get (i:=i) h2 (by simpa using h);exact⟨u,by simpa using h3,h4⟩
theorem wF{kk:K β}{x:Operand}{i:Nat}(ho:o.op=.extract x i){ts:List (Bool×List C)}(hx:ρ x=.tup ts){t:Bool×List C}(ht:ts[i]?=some t)(hk:kk (V.mk t.1 t.2) [] []=some r):Sound P o ρ bl kk r:=by refine Sound.pure hk λbl2 _ ok0 base pl w a hr hxs=>?_;have h1:=hxs x (by simp[ho,Op.operands]);rw[hx]at h1;obtain⟨vs,hv,hts⟩:=h1;obtain⟨v,hv2,hs⟩:=TReps.get hts ht;refine⟨v,?_,VRep.mk hs⟩;simp[execOp,ho,hv,Instr.extract,hv2]
theorem ZM{E:Env}{isMax:Bool}{k:IntKind}:∀{vs:List V}{us:List Value}{a:Int}{v:V},K6 isMax k a vs=some v->vs.length=us.length->(∀(j:Nat)(x:V)(u:Value),vs[j]?=some x->us[j]?=some u->VRep E x u)->∀w,∃n,v=.c (.int k n)/\(us.foldlM (bif isMax then Builtin.max2 else Builtin.min2) (.int k a)).run P w=.ok (.int k n) w
 |[],us,a,v,h,hl,hv,w=>by
  simp only[K6,Ac]at h;cases us with
  |nil=>exact⟨a,h.symm,rfl⟩
  |cons u us=>simp at hl
 |x::vs,us,a,v,h,hl,hv,w=>by
  cases us with
  |nil=>simp at hl
  |cons u us=>
   unfold K6 at h;split at h
   ·rename_i heq;cases heq
   ·rename_i a' k' b r' heq
    injection heq with h1 h2;subst h1 h2;split at h
    ·rename_i hkk
     subst hkk;have hu:u=.int k b:=hv 0 _ _ rfl rfl;subst hu;obtain⟨n,h3,h4⟩:=ZM h (by simpa using hl) (λj x u hj hu=>hv (j+1) x u (by simpa using hj) (by simpa using hu)) w;refine⟨n,h3,?_⟩;rw[List.foldlM_cons];cases isMax with
     |true=>simp only[Af,Sem.run_bind,Builtin.max2,Sem.run_pure,Result.andThen_ok]at h4⊢;exact h4
     |false=>simp only[AT,Sem.run_bind,Builtin.min2,Sem.run_pure,Result.andThen_ok]at h4⊢;exact h4
    ·cases h
   ·cases h
theorem ZN{isMax:Bool}{kk:K β}{c:Call}(ho:o.op=.call c)(hc:c.callee=.builtin (bif isMax then .max else .min)){v:V}(hm:NU isMax (c.args.toList.map ρ)=some v)(hk:kk v [] []=some r):Sound P o ρ bl kk r:=by
 refine Sound.pure hk λbl2 _ ok0 base pl w a hr hxs=>?_
 have hvs:∀(j:Nat)(x:V)(u:Value),(c.args.toList.map ρ)[j]?=some x->(c.args.toList.map a.eval)[j]?=some u->VRep (Ae ok0 base pl bl2 w) x u:=by
  intro j x u hj hu;rw[C0]at hj hu;cases hcj:c.args.toList[j]? with
  |none=>rw[hcj]at hj;cases hj
  |some y=>rw[hcj]at hj hu;simp only[Cl,Ac]at hj hu;subst hj hu;exact hxs y (by simp only[ho,Op.operands,Call.operands,NE];exact .inr (by have:=B6 hcj;simpa using this))
 have hl:(c.args.toList.map ρ).length=(c.args.toList.map a.eval).length:=by simp
 generalize c.args.toList.map ρ=vs at hm hvs hl;generalize hus:c.args.toList.map a.eval=us at hvs hl;unfold NU at hm;split at hm
 ·rename_i k a0 r'
  cases us with
  |nil=>simp at hl
  |cons u us=>
   have hu:u=.int k a0:=hvs 0 _ _ rfl rfl;subst hu;obtain⟨n,h3,h4⟩:=ZM (P:=P) hm (by simpa using hl) (λj x u hj hu=>hvs (j+1) x u (by simpa using hj) (by simpa using hu)) w;subst h3;refine⟨.int k n,?_,rfl⟩;cases isMax with
   |true=>simp only[Af]at h4 hc;simp[execOp,ho,resolve,hc,invoke,builtin,Builtin.max_,hus,h4]
   |false=>simp only[AT]at h4 hc;simp[execOp,ho,resolve,hc,invoke,builtin,Builtin.min_,hus,h4]
 ·cases hm
end
end Go.Lift
namespace Go.Lift
open Go.RowKit
theorem ZO{i:Nat}:∀{n s:Nat},i∈Ax s n↔s<=i/\i<s+n
 |0,s=>by simp only[Ax,Cd,false_iff];omega
 |n+1,s=>by simp only[Ax,AH,ZO (n:=n)];omega
theorem To:∀{n s:Nat},(Ax s n).length=n
 |0,_=>rfl
 |n+1,s=>by simp[Ax,To (n:=n)]
theorem Tp:∀{n s b:Nat},b<n->(Ax s n)[b]?=some (s+b)
 |0,_,_,h=>by omega
 |n+1,s,0,_=>rfl
 |n+1,s,b+1,h=>by simp only[Ax,BV];rw[Tp (n:=n) (by omega)];congr 1;omega
theorem Tq:∀{n s:Nat},(Ax s n).Nodup
 |0,_=>List.nodup_nil
 |n+1,s=>GS.2 ⟨λh=>by have:=ZO.1 h;omega,Tq⟩
theorem Tr{bl:Nat->Option Blk}:∀{l:List Nat},IU bl l=true->∀i∈l,bl i=none
 |[],_,i,h=>by simp at h
 |j::r,h,i,hi=>by
  simp only[IU]at h;split at h
  ·rename_i hj
   rcases AH.1 hi with rfl|hi
   ·exact hj
   ·exact Tr h i hi
  ·cases h
structure Ren (E E':Env) (ids ids':List Nat):Prop where
 cells:∀b i g,ids[b]?=some i->E.pl i=some (.cells g)->E'.pl (ids'.getD b 0)=some (.cells g)
 row:∀b i sv svs t e ver l,ids[b]?=some i->E.bl i=some (.row t e ver l)->E.pl i=some (.row sv svs)->E'.pl (ids'.getD b 0)=some (.row sv svs)
 mat:∀b i sv svs t et e ver iver hole l,ids[b]?=some i->E.bl i=some (.mat t et e ver iver hole l)->E.pl i=some (.row sv svs)->E'.pl (ids'.getD b 0)=some (.row sv svs)
 tree:∀b i sv svs t e ver iver l,ids[b]?=some i->E.bl i=some (.tree t e ver iver none l)->E.pl i=some (.row sv svs)->E'.pl (ids'.getD b 0)=some (.row sv svs)
 treeB:∀b i t e ver iver l t' e' ver' iver' h' l',ids[b]?=some i->E.bl i=some (.tree t e ver iver none l)->E'.bl (ids'.getD b 0)=some (.tree t' e' ver' iver' h' l')->Blk.tree t' e' ver' iver' h' l'=.tree t e 0 0 none l
 nil:∀b i,ids[b]?=some i->E.bl i=none->E'.pl (ids'.getD b 0)=some (.row (.slice none 0 0) [])
theorem Ts{E E':Env}{ids ids':List Nat}(hr:Ren E E' ids ids'):∀(caps caps' gs:List Nat),caps.map (ids[·]?)=caps'.map some->caps'.map E.pl=gs.map (λg=>some (.cells g))->(caps.map λb=>ids'.getD b 0).map E'.pl=gs.map (λg=>some (.cells g))
 |[],caps',gs,h,hg=>by
  cases caps' with
  |nil=>cases gs<;>simp_all
  |cons b bs=>simp at h
 |b::bs,caps',gs,h,hg=>by
  cases caps' with
  |nil=>simp at h
  |cons b' bs'=>
   cases gs with
   |nil=>simp at hg
   |cons g gs=>simp only[Bp,BB]at h hg⊢;exact⟨hr.cells b b' g h.1 hg.1,Ts hr bs bs' gs h.2 hg.2⟩
theorem Tt{i:Nat}:∀{ks:List Nat}{p:Path}{x:WayT ks},HL i ks p=some x->wayP ks x=p/\wayI ks x=i
 |[],[],x,h=>by simp only[HL,Ac]at h;exact⟨rfl,h.symm⟩
 |[],_::_,x,h=>by simp[HL]at h
 |_::_,[],x,h=>by simp[HL]at h
 |k::ks,(j,m)::p,x,h=>by
  simp only[HL]at h;cases hk:Nat.beq k m with
  |false=>rw[hk]at h;cases h
  |true=>
   rw[hk,Af]at h;have:=Ag hk;subst this;split at h
   ·rename_i y hy
    simp only[Ac]at h;subst h;obtain⟨h1,h2⟩:=Tt hy;exact⟨by simp only[wayP,h1],h2⟩
   ·cases h
theorem CS{E E':Env}{blp:Nat->Option Blk}{ids ids':List Nat}(hb:BX E)(hw:E'.w=E.w)(hr:Ren E E' ids ids')(hsub:∀i∈ids,blp i=E.bl i):∀{l:List CT}{cs:List C}{vs:List Value}{y:CT.dens l},Rows E blp E'.ok (Bg cs)->CReps E cs vs->AI blp ids l cs=some y->CReps E' (mkC ids' l y) vs
 |[],cs,vs,y,hrw,h,hp=>by
  cases cs with
  |nil=>exact h
  |cons c cs=>simp[AI]at hp
 |.data τ::l,cs,vs,y,hrw,h,hp=>by
  simp only[AI]at hp;split at hp
  ·cases hp
  ·rename_i x r hx
   split at hp
   ·cases hp
   ·rename_i y' hy
    simp only[Ac]at hp;subst hp;obtain⟨us,ws,e,d,c,ds,hc⟩:=HO hb hrw h hx;have hrw1:Rows E blp E'.ok (Bg r):=hrw.sub λb hbm=>by rw[hc,KO];exact BM _ hbm
    rw[e];refine CReps.append ?_ (CS hb hw hr hsub hrw1 c hy);exact D9 (by rw[hw];exact d)
 |.ptr b o::l,cs,vs,y,hrw,h,hp=>by
  cases cs with
  |nil=>simp[AI]at hp
  |cons c cs=>
   cases c<;>simp only[AI]at hp<;>try(cases hp;done)
   rename_i b' o';split at hp
   ·rename_i i hi
    cases hc:(Nat.beq i b'&&Nat.beq o o')with
    |false=>rw[hc]at hp;cases hp
    |true=>simp only[hc,Af]at hp;obtain⟨h1,h2⟩:=andB hc;have h1:=Ag h1;have h2:=Ag h2;subst h1 h2;obtain⟨v,vs',e,⟨g,hg,hv⟩,ht⟩:=h;exact⟨v,vs',e,⟨g,hr.cells b i g hi hg,hv⟩,CS hb hw hr hsub hrw.tail ht hp⟩
   ·cases hp
 |.rowh b::l,cs,vs,y,hrw,h,hp=>by
  cases cs with
  |nil=>simp[AI]at hp
  |cons c cs=>
   cases c<;>simp only[AI]at hp<;>try(cases hp;done)
   ·
    split at hp
    ·rename_i i hi
     split at hp
     ·rename_i hn
      obtain⟨v,vs',e,hv,ht⟩:=h;simp only[CRep]at hv;subst hv;have hn':E.bl i=none:=by rw[<-hsub i (B6 hi)];exact hn
      exact⟨_,vs',e,⟨rfl,_,_,hr.nil b i hi hn',λ_ _ _ _ _=>⟨BZ _,λ_=>rfl⟩⟩,CS hb hw hr hsub hrw.tail ht hp⟩
     ·cases hp
    ·cases hp
   ·rename_i b' ver
    split at hp
    ·rename_i i hi
     cases hc:Nat.beq i b' with
     |false=>rw[hc]at hp;cases hp
     |true=>
      have:=Ag hc;subst this;simp only[hc,Af]at hp;split at hp
      ·rename_i t e ver' l' hbl
       cases hv':Nat.beq ver ver' with
       |false=>rw[hv']at hp;cases hp
       |true=>
        have:=Ag hv';subst this;simp only[hv',Af]at hp;obtain⟨v,vs',ev,⟨h1,sv,svs,hsv,hcur⟩,ht⟩:=h;have hbl':E.bl i=some (.row t e ver l'):=by rw[<-hsub i (B6 hi)];exact hbl
        have hvs:=(hcur t e ver l' hbl').2 rfl;exact⟨v,vs',ev,⟨h1,sv,svs,hr.row b i sv svs t e ver l' hi hbl' hsv,λ_ _ _ _ _=>⟨BZ _,λ_=>hvs⟩⟩,CS hb hw hr hsub hrw.tail ht hp⟩
      ·cases hp
    ·cases hp
 |.fn f caps::l,cs,vs,y,hrw,h,hp=>by
  cases cs with
  |nil=>simp[AI]at hp
  |cons c cs=>
   cases c<;>simp only[AI]at hp<;>try(cases hp;done)
   rename_i f' caps';cases hc:(Nat.beq f f'&&decide (caps.map (ids[·]?)=caps'.map some))with
   |false=>rw[hc]at hp;cases hp
   |true=>simp only[hc,Af]at hp;obtain⟨h1,h2⟩:=andB hc;have h1:=Ag h1;have h2:=Az h2;subst h1;obtain⟨v,vs',e,⟨gs,hg,hv⟩,ht⟩:=h;refine⟨v,vs',e,⟨gs,?_,hv⟩,CS hb hw hr hsub hrw.tail ht hp⟩;exact Ts hr caps caps' gs h2 hg
 |.bfnh f b::l,cs,vs,y,hrw,h,hp=>by
  cases cs with
  |nil=>simp[AI]at hp
  |cons c cs=>
   cases c<;>simp only[AI]at hp<;>try(cases hp;done)
   rename_i f' b';split at hp
   ·rename_i i hi
    cases hc:(Nat.beq f f'&&Nat.beq i b')with
    |false=>rw[hc]at hp;cases hp
    |true=>simp only[hc,Af]at hp;obtain⟨h1,h2⟩:=andB hc;have h1:=Ag h1;have h2:=Ag h2;subst h1;subst h2;obtain⟨v,vs',e,⟨g,hg,hv⟩,ht⟩:=h;exact⟨v,vs',e,⟨g,hr.cells b i g hi hg,hv⟩,CS hb hw hr hsub hrw.tail ht hp⟩
   ·cases hp
 |.bself b::l,cs,vs,y,hrw,h,hp=>by
  cases cs with
  |nil=>simp[AI]at hp
  |cons c cs=>
   cases c<;>simp only[AI]at hp<;>try(cases hp;done)
   ·obtain⟨v,vs',e,hv,ht⟩:=h
    exact⟨v,vs',e,.inl hv,CS hb hw hr hsub hrw.tail ht hp⟩
   ·rename_i b'
    split at hp
    ·rename_i i hi
     cases hc:Nat.beq i b' with
     |false=>rw[hc]at hp;cases hp
     |true=>
      simp only[hc,Af]at hp;have h1:=Ag hc;subst h1;obtain⟨v,vs',e,hg,ht⟩:=h;refine⟨v,vs',e,?_,CS hb hw hr hsub hrw.tail ht hp⟩;rcases hg with hg|⟨g,hg,hv⟩
      ·exact .inl hg
      ·exact .inr ⟨g,hr.cells b i g hi hg,hv⟩
    ·cases hp
 |.maph b::l,cs,vs,y,hrw,h,hp=>by
  cases cs with
  |nil=>simp[AI]at hp
  |cons c cs=>
   cases c<;>simp only[AI]at hp<;>try(cases hp;done)
   rename_i b';split at hp
   ·rename_i i hi
    cases hc:Nat.beq i b' with
    |false=>rw[hc]at hp;cases hp
    |true=>simp only[hc,Af]at hp;have h1:=Ag hc;subst h1;obtain⟨v,vs',e,⟨g,hg,hv⟩,ht⟩:=h;exact⟨v,vs',e,⟨g,hr.cells b i g hi hg,hv⟩,CS hb hw hr hsub hrw.tail ht hp⟩
   ·cases hp
 |.math b::l,cs,vs,y,hrw,h,hp=>by
  cases cs with
  |nil=>simp[AI]at hp
  |cons c cs=>
   cases c<;>simp only[AI]at hp<;>try(cases hp;done)
   ·
    split at hp
    ·rename_i i hi
     split at hp
     ·rename_i hn
      obtain⟨v,vs',e,hv,ht⟩:=h;simp only[CRep]at hv;subst hv;have hn':E.bl i=none:=by rw[<-hsub i (B6 hi)];exact hn
      exact⟨_,vs',e,⟨rfl,_,_,hr.nil b i hi hn',λ_ _ _ _ _ _ _ _=>⟨BZ _,λ_=>rfl⟩⟩,CS hb hw hr hsub hrw.tail ht hp⟩
     ·cases hp
    ·cases hp
   ·rename_i b' ver
    split at hp
    ·rename_i i hi
     cases hc:Nat.beq i b' with
     |false=>rw[hc]at hp;cases hp
     |true=>
      have:=Ag hc;subst this;simp only[hc,Af]at hp;split at hp
      ·rename_i t et e ver' iver l' hbl
       cases hv':Nat.beq ver ver' with
       |false=>rw[hv']at hp;cases hp
       |true=>
        have:=Ag hv';subst this;simp only[hv',Af]at hp;obtain⟨v,vs',ev,⟨h1,sv,svs,hsv,hcur⟩,ht⟩:=h;have hbl':E.bl i=some (.mat t et e ver iver none l'):=by rw[<-hsub i (B6 hi)];exact hbl
        have hvs:=(hcur _ _ _ _ _ _ _ hbl').2 rfl;exact⟨v,vs',ev,⟨h1,sv,svs,hr.mat b i sv svs _ _ _ _ _ _ _ hi hbl' hsv,λ_ _ _ _ _ _ _ _=>⟨BZ _,λ_=>hvs⟩⟩,CS hb hw hr hsub hrw.tail ht hp⟩
      ·cases hp
    ·cases hp
 |.tptrh b ks o::l,cs,vs,y,hrw,h,hp=>by
  cases cs with
  |nil=>simp[AI]at hp
  |cons c cs=>
   cases c<;>simp only[AI]at hp<;>try(cases hp;done)
   rename_i b' ver p ix o';split at hp
   ·rename_i i hi
    cases hc:(Nat.beq i b'&&Nat.beq o o')with
    |false=>rw[hc]at hp;cases hp
    |true=>
     rw[hc,Af]at hp;obtain⟨h1,h2⟩:=andB hc;have h1:=Ag h1;have h2:=Ag h2;subst h1 h2;split at hp
     ·rename_i t e ver' iver' l' hbl
      cases hv':Nat.beq ver (tv ver' iver' p)with
      |false=>rw[hv']at hp;cases hp
      |true=>
       have:=Ag hv';subst this;rw[hv',Af]at hp;split at hp
       ·rename_i x hx
        split at hp
        ·rename_i y' hy
         simp only[Ac]at hp;subst hp;obtain⟨w1,w2⟩:=Tt hx;obtain⟨v,vs',ev,⟨sv,svs,ad,hsv,hva,hcur⟩,ht⟩:=h;have hbl':E.bl i=some (.tree t e ver' iver' none l'):=by rw[<-hsub i (B6 hi)];exact hbl
         refine⟨v,vs',ev,⟨sv,svs,ad,hr.tree b i sv svs _ _ _ _ _ hi hbl' hsv,hva,λt2 e2 ver2 iver2 hh2 l2 hb2=>?_⟩,CS hb hw hr hsub hrw.tail ht hy⟩;have:=hr.treeB b i _ _ _ _ _ _ _ _ _ _ _ hi hbl' hb2;injection this with q1 q2 q3 q4 q5 q6;subst q1 q2 q3 q4 q5;simp only[Dl]at q6;subst q6;rw[w1,w2];exact⟨BZ _,λ_ _=>(hcur _ _ _ _ _ _ hbl').2 rfl λ_ h=>by cases h⟩
        ·cases hp
       ·cases hp
     ·cases hp
   ·cases hp
 |.trowh b::l,[],vs,y,hrw,h,hp=>by simp[AI]at hp
 |.trowh b::l,.nils::cs,vs,y,hrw,h,hp=>by
  simp only[AI]at hp;split at hp
  ·rename_i i hi
   split at hp
   ·rename_i hn
    obtain⟨v,vs',e,hv,ht⟩:=h;simp only[CRep]at hv;subst hv;have hn':E.bl i=none:=by rw[<-hsub i (B6 hi)];exact hn
    exact⟨_,vs',e,⟨rfl,_,_,hr.nil b i hi hn',λ_ _ _ _ _ _ _=>⟨BZ _,λ_ _=>⟨_,rfl,rfl⟩⟩⟩,CS hb hw hr hsub hrw.tail ht hp⟩
   ·cases hp
  ·cases hp
 |.trowh b::l,.trow b' ver []::cs,vs,y,hrw,h,hp=>by
  simp only[AI]at hp;split at hp
  ·rename_i i hi
   cases hc:Nat.beq i b' with
   |false=>rw[hc]at hp;cases hp
   |true=>
    have:=Ag hc;subst this;simp only[hc,Af]at hp;split at hp
    ·rename_i t e ver' iver' l' hbl
     cases hv':Nat.beq ver ver' with
     |false=>rw[hv']at hp;cases hp
     |true=>
      have:=Ag hv';subst this;simp only[hv',Af]at hp;obtain⟨v,vs',ev,⟨h1,sv,svs,hsv,hcur⟩,ht⟩:=h;have hbl':E.bl i=some (.tree t e ver iver' none l'):=by rw[<-hsub i (B6 hi)];exact hbl
      obtain⟨n,q1,q2⟩:=(hcur _ _ _ _ _ _ hbl').2 rfl (λq h=>by cases h);have g1:=hr.tree b i sv svs _ _ _ _ _ hi hbl' hsv;exact⟨v,vs',ev,⟨h1,sv,svs,g1,λ_ _ _ _ _ _ _=>⟨BZ _,λ_ _=>⟨_,rfl,q2⟩⟩⟩,CS hb hw hr hsub hrw.tail ht hp⟩
    ·cases hp
  ·cases hp
 |.trowh b::l,.trow b' ver (_::_)::cs,vs,y,hrw,h,hp=>by simp[AI]at hp
 |.trowh b::l,.bool _::cs,vs,y,hrw,h,hp|.trowh b::l,.int _ _::cs,vs,y,hrw,h,hp|.trowh b::l,.str _::cs,vs,y,hrw,h,hp|.trowh b::l,.err _::cs,vs,y,hrw,h,hp
 |.trowh b::l,.list _ _::cs,vs,y,hrw,h,hp|.trowh b::l,.nilc::cs,vs,y,hrw,h,hp|.trowh b::l,.lsome _ _::cs,vs,y,hrw,h,hp|.trowh b::l,.nilp::cs,vs,y,hrw,h,hp
 |.trowh b::l,.ptr _ _::cs,vs,y,hrw,h,hp|.trowh b::l,.row _ _::cs,vs,y,hrw,h,hp|.trowh b::l,.fn _ _::cs,vs,y,hrw,h,hp|.trowh b::l,.nilfn::cs,vs,y,hrw,h,hp|.trowh b::l,.bfn _ _::cs,vs,y,hrw,h,hp|.trowh b::l,.tptr _ _ _ _ _::cs,vs,y,hrw,h,hp
 |.trowh b::l,.mapv _::cs,vs,y,hrw,h,hp|.trowh b::l,.mat _ _::cs,vs,y,hrw,h,hp|.trowh b::l,.mrow _ _ _::cs,vs,y,hrw,h,hp|.trowh b::l,.sub _ _ _ _::cs,vs,y,hrw,h,hp
 |.trowh b::l,.bself _::cs,vs,y,hrw,h,hp|.trowh b::l,.junk::cs,vs,y,hrw,h,hp=>by simp[AI]at hp
 |.nilc::l,cs,vs,y,hrw,h,hp=>by
  cases cs with
  |nil=>simp[AI]at hp
  |cons c cs=>cases c<;>simp[AI]at hp
 |.lsome _::l,cs,vs,y,hrw,h,hp=>by
  cases cs with
  |nil=>simp[AI]at hp
  |cons c cs=>cases c<;>simp[AI]at hp
 |.nils::l,cs,vs,y,hrw,h,hp=>by
  cases cs with
  |nil=>simp[AI]at hp
  |cons c cs=>
   cases c<;>simp only[AI]at hp<;>first|(cases hp;done)|skip
   obtain⟨v,vs',e,hv,ht⟩:=h;exact⟨v,vs',e,hv,CS hb hw hr hsub hrw.tail ht hp⟩
 |.junk::l,cs,vs,y,hrw,h,hp=>by
  cases cs with
  |nil=>simp[AI]at hp
  |cons c cs=>simp only[AI]at hp;obtain⟨v,vs',e,hv,ht⟩:=h;exact⟨v,vs',e,CRep.oneCell hv,CS hb hw hr hsub hrw.tail ht hp⟩
def VReps(E:Env):List V->List Value->Prop
 |[],us=>us=[]
 |v::vs,us=>∃u us',us=u::us'/\VRep E v u/\VReps E vs us'
theorem ZP{v:V}{vs:List V}{cs:List C}(h:v.cells=some cs):Bl (v::vs)=Bg cs++Bl vs:=by simp[Bl,h]
theorem Tu{E E':Env}{blp:Nat->Option Blk}{ids ids':List Nat}(hb:BX E)(hw:E'.w=E.w)(hr:Ren E E' ids ids')(hsub:∀i∈ids,blp i=E.bl i):∀{l:List (Bool×List CT)}{vs:List V}{us:List Value}{y:ST.dens l},Rows E blp E'.ok (Bl vs)->VReps E vs us->Do blp ids l vs=some y->TReps E' (mkS ids' l y) us
 |[],vs,us,y,hrw,h,hp=>by
  cases vs with
  |nil=>exact h
  |cons v vs=>simp[Do]at hp
 |t::l,vs,us,y,hrw,h,hp=>by
  cases vs with
  |nil=>simp[Do]at hp
  |cons v vs=>
   obtain⟨u,us',e,hv,ht⟩:=h;obtain⟨agg,ct⟩:=t;cases agg with
   |false=>
    cases v<;>simp only[Do]at hp<;>try(cases hp;done)
    rename_i x;split at hp
    ·cases hp
    ·rename_i y1 h1
     split at hp
     ·cases hp
     ·rename_i z h2
      simp only[Ac]at hp;subst hp;have hrow:Bl (V.c x::vs)=Bg [x]++Bl vs:=ZP rfl;refine⟨u,us',e,⟨[u],?_,by simp⟩,Tu hb hw hr hsub (hrw.sub λb hbm=>by rw[hrow];exact BM _ hbm) ht h2⟩;exact CS hb hw hr hsub (hrw.sub λb hbm=>by rw[hrow];exact BG _ hbm) (show CReps E [x] [u]from⟨u,[],rfl,hv,rfl⟩) h1
   |true=>
    cases v<;>simp only[Do]at hp<;>try(cases hp;done)
    rename_i cs;split at hp
    ·cases hp
    ·rename_i y1 h1
     split at hp
     ·cases hp
     ·rename_i z h2
      simp only[Ac]at hp;subst hp;have hrow:Bl (V.agg cs::vs)=Bg cs++Bl vs:=ZP rfl;obtain⟨xs,hxs,hu⟩:=hv;refine⟨u,us',e,⟨xs,?_,hu⟩,Tu hb hw hr hsub (hrw.sub λb hbm=>by rw[hrow];exact BM _ hbm) ht h2⟩;exact CS hb hw hr hsub (hrw.sub λb hbm=>by rw[hrow];exact BG _ hbm) hxs h1
theorem ZQ{E E':Env}{blp:Nat->Option Blk}{ids ids':List Nat}(hb:BX E)(hw:E'.w=E.w)(hr:Ren E E' ids ids')(hsub:∀i∈ids,blp i=E.bl i):∀{l:List BT}{is:List Nat}{y:BT.dens l},Rows E blp E'.ok (ED blp is)->(∀i∈is,i∈ids)->CR blp ids l is=some y->is.length=l.length/\∀(j i:Nat),is[j]?=some i->∃g B,E.pl i=some (.cells g)/\(mkB ids' l y)[j]?=some B/\BRep E' B (.cells g)/\B.live=true
 |[],is,y,hrw,hin,hp=>by
  cases is with
  |nil=>exact⟨rfl,λj i h=>by simp at h⟩
  |cons i is=>simp[CR]at hp
 |.row t e::r,is,y,hrw,hin,hp=>by cases is<;>simp[CR]at hp
 |.map t k v vg::r,is,y,hrw,hin,hp=>by cases is<;>simp[CR]at hp
 |.mat t et e::r,is,y,hrw,hin,hp=>by cases is<;>simp[CR]at hp
 |.tree t e::r,is,y,hrw,hin,hp=>by cases is<;>simp[CR]at hp
 |.fmap t l::r,is,y,hrw,hin,hp=>by cases is<;>simp[CR]at hp
 |.cells t l::r,is,y,hrw,hin,hp=>by
  cases is with
  |nil=>simp[CR]at hp
  |cons i is=>
   simp only[CR]at hp;split at hp
   ·rename_i t' cs hbl
    cases ht:Nat.beq t t' with
    |false=>rw[ht]at hp;cases hp
    |true=>
     have:=Ag ht;subst this;simp only[ht,Af]at hp;split at hp
     ·cases hp
     ·rename_i y1 h1
      split at hp
      ·cases hp
      ·rename_i z h2
       simp only[Ac]at hp;subst hp;have hrow:ED blp (i::is)=Bg cs++ED blp is:=by simp[ED,hbl]
       obtain⟨hl,hrest⟩:=ZQ hb hw hr hsub (hrw.sub λb hbm=>by rw[hrow];exact BM _ hbm) (λj hj=>hin j (AU _ hj)) h2;refine⟨by simp[hl],λj k hj=>?_⟩;cases j with
       |zero=>
        simp only[BJ,Ac]at hj;subst hj;have hbl':E.bl i=some (.cells t cs):=by rw[<-hsub i (hin i (by simp))];exact hbl
        obtain⟨p,hp',hB⟩:=hb i _ hbl';cases p with
        |row _ _=>exact hB.elim
        |cells g=>obtain⟨vs,hh,hcs⟩:=hB;refine⟨g,_,hp',rfl,⟨vs,by rw[hw];exact hh,?_⟩,rfl⟩;exact CS hb hw hr hsub (hrw.sub λb hbm=>by rw[hrow];exact BG _ hbm) hcs h1
       |succ j=>obtain⟨g,B,h3,h4,h5,h6⟩:=hrest j k (by simpa using hj);exact⟨g,B,h3,by simpa [mkB]using h4,h5,h6⟩
   ·cases hp
theorem CU{ids:List Nat}:∀{l:List BT}{y:BT.dens l},(mkB ids l y).length=l.length
 |[],_=>rfl
 |.cells _ _::r,y=>by simp[mkB,CU (l:=r)]
 |.row _ _::r,y=>by simp[mkB,CU (l:=r)]
 |.map _ _ _ _::r,y=>by simp[mkB,CU (l:=r)]
 |.mat _ _ _::r,y=>by simp[mkB,CU (l:=r)]
 |.tree _ _::r,y=>by simp[mkB,CU (l:=r)]
 |.fmap _ _::r,y=>by simp[mkB,CU (l:=r)]
end Go.Lift
namespace Go.Lift
noncomputable section
open Go.RowKit
structure Ren2 (m:Nat) (E E':Env) (ids ids':List Nat):Prop where
 cells:∀b g,b<m->E.pl (ids.getD b 0)=some (.cells g)->E'.pl (ids'.getD b 0)=some (.cells g)
 row:∀b sv svs,b<m->E.pl (ids.getD b 0)=some (.row sv svs)->E'.pl (ids'.getD b 0)=some (.row sv svs)/\(∀t e ver l,E'.bl (ids'.getD b 0)=some (.row t e ver l)->E.bl (ids.getD b 0)=some (.row t e ver l))/\
  (∀t et e ver iver hole l,E'.bl (ids'.getD b 0)=some (.mat t et e ver iver hole l)->E.bl (ids.getD b 0)=some (.mat t et e ver iver hole l))/\
  (∀t e ver iver hole l,E'.bl (ids'.getD b 0)=some (.tree t e ver iver hole l)->E.bl (ids.getD b 0)=some (.tree t e ver iver hole l))
theorem ZR{m:Nat}{E E':Env}{ids ids':List Nat}(hr:Ren2 m E E' ids ids'):∀(caps gs:List Nat),caps.all (λb=>Nat.blt b m)=true->(caps.map λb=>ids.getD b 0).map E.pl=gs.map (λg=>some (.cells g))->(caps.map λb=>ids'.getD b 0).map E'.pl=gs.map (λg=>some (.cells g))
 |[],gs,_,hg=>by cases gs<;>simp_all
 |b::bs,gs,hb,hg=>by
  cases gs with
  |nil=>simp at hg
  |cons g gs=>simp only[Bp,BB]at hg⊢;obtain⟨h1,h2⟩:=andB (show(Nat.blt b m&&bs.all (λb=>Nat.blt b m))=true from hb);exact⟨hr.cells b g (BL h1) hg.1,ZR hr bs gs h2 hg.2⟩
theorem Dq{m:Nat}{E E':Env}{ids ids':List Nat}(hr:Ren2 m E E' ids ids'){all:Prop}(hd:∀(τ:Ty)(x:τ.den)(us:List Value),(all\/τ.flat=true)->DRep E.w E.ok τ x us->DRep E'.w E'.ok τ x us):∀{l:List CT}{y:CT.dens l}{vs:List Value},CT.bnd m l=true->(all\/CT.flat l=true)->CReps E (mkC ids l y) vs->CReps E' (mkC ids' l y) vs
 |[],_,_,_,_,h=>h
 |.data τ::l,y,vs,hb,hf,h=>by
  obtain⟨us,ws,e,h1,h2⟩:=CReps.split h;rw[e];have hf1:all\/τ.flat=true:=hf.imp id λh=>by simp only[CT.flat,Bv]at h;exact h.1
  have hf2:all\/CT.flat l=true:=hf.imp id λh=>by simp only[CT.flat,Bv]at h;exact h.2
  refine CReps.append ?_ (Dq hr hd (by simpa [CT.bnd]using hb) hf2 h2)
  have key:∀(τ:Ty)(x:τ.den)(us:List Value),(all\/τ.flat=true)->CReps E (cells τ x) us->CReps E' (cells τ x) us:=by
   intro τ
   induction τ with
   |bool=>intro x us _ h;exact h
   |int k=>intro x us _ h;exact h
   |str=>intro x us _ h;exact h
   |err=>intro x us _ h;exact h
   |unit=>intro x us _ h;exact h
   |prod a b iha ihb=>
    intro x us hf h;obtain⟨p,q,e,h1,h2⟩:=CReps.split h;rw[e];have g1:all\/a.flat=true:=hf.imp id λh=>by simp only[Ty.flat,Bv]at h;exact h.1
    have g2:all\/b.flat=true:=hf.imp id λh=>by simp only[Ty.flat,Bv]at h;exact h.2
    exact(iha _ _ g1 h1).append (ihb _ _ g2 h2)
   |slice e ih=>intro x us hf h;obtain⟨v,vs',e1,h1,h2⟩:=h;exact⟨v,vs',e1,hd (.slice e) x [v] hf h1,h2⟩
  exact key τ _ _ hf1 h1
 |.ptr b o::l,y,vs,hb,hf,⟨v,vs',e,⟨g,hg,hv⟩,ht⟩=>by obtain⟨hb1,hb2⟩:=andB (show(Nat.blt b m&&CT.bnd m l)=true from hb);exact⟨v,vs',e,⟨g,hr.cells b g (BL hb1) hg,hv⟩,Dq hr hd hb2 (hf.imp id λh=>by simpa [CT.flat]using h) ht⟩
 |.rowh b::l,y,vs,hb,hf,⟨v,vs',e,⟨h1,sv,svs,hsv,hcur⟩,ht⟩=>by obtain⟨hb1,hb2⟩:=andB (show(Nat.blt b m&&CT.bnd m l)=true from hb);obtain⟨h2,h3,_⟩:=hr.row b sv svs (BL hb1) hsv;exact⟨v,vs',e,⟨h1,sv,svs,h2,λt e ver l h=>hcur t e ver l (h3 t e ver l h)⟩,Dq hr hd hb2 (hf.imp id λh=>by simpa [CT.flat]using h) ht⟩
 |.math b::l,y,vs,hb,hf,⟨v,vs',e,⟨h1,sv,svs,hsv,hcur⟩,ht⟩=>by obtain⟨hb1,hb2⟩:=andB (show(Nat.blt b m&&CT.bnd m l)=true from hb);obtain⟨h2,_,h3,_⟩:=hr.row b sv svs (BL hb1) hsv;exact⟨v,vs',e,⟨h1,sv,svs,h2,λt et e ver iver hole l h=>hcur t et e ver iver hole l (h3 t et e ver iver hole l h)⟩,Dq hr hd hb2 (hf.imp id λh=>by simpa [CT.flat]using h) ht⟩
 |.trowh b::l,y,vs,hb,hf,⟨v,vs',e,⟨h1,sv,svs,hsv,hcur⟩,ht⟩=>by obtain⟨hb1,hb2⟩:=andB (show(Nat.blt b m&&CT.bnd m l)=true from hb);obtain⟨h2,_,_,h3⟩:=hr.row b sv svs (BL hb1) hsv;exact⟨v,vs',e,⟨h1,sv,svs,h2,λt e ver iver hole l h=>hcur t e ver iver hole l (h3 t e ver iver hole l h)⟩,Dq hr hd hb2 (hf.imp id λh=>by simpa [CT.flat]using h) ht⟩
 |.tptrh b ks o::l,y,vs,hb,hf,⟨v,vs',e,⟨sv,svs,ad,hsv,hv,hcur⟩,ht⟩=>by obtain⟨hb1,hb2⟩:=andB (show(Nat.blt b m&&CT.bnd m l)=true from hb);obtain⟨h2,_,_,h3⟩:=hr.row b sv svs (BL hb1) hsv;exact⟨v,vs',e,⟨sv,svs,ad,h2,hv,λt e ver iver hole l h=>hcur t e ver iver hole l (h3 t e ver iver hole l h)⟩,Dq hr hd hb2 (hf.imp id λh=>by simpa [CT.flat]using h) ht⟩
 |.fn f caps::l,y,vs,hb,hf,⟨v,vs',e,⟨gs,hg,hv⟩,ht⟩=>by obtain⟨hb1,hb2⟩:=andB (show(caps.all (λb=>Nat.blt b m)&&CT.bnd m l)=true from hb);refine⟨v,vs',e,⟨gs,?_,hv⟩,Dq hr hd hb2 (hf.imp id λh=>by simpa [CT.flat]using h) ht⟩;exact ZR hr caps gs hb1 hg
 |.maph b::l,y,vs,hb,hf,⟨v,vs',e,⟨g,hg,hv⟩,ht⟩=>by obtain⟨hb1,hb2⟩:=andB (show(Nat.blt b m&&CT.bnd m l)=true from hb);exact⟨v,vs',e,⟨g,hr.cells b g (BL hb1) hg,hv⟩,Dq hr hd hb2 (hf.imp id λh=>by simpa [CT.flat]using h) ht⟩
 |.bfnh f b::l,y,vs,hb,hf,⟨v,vs',e,⟨g,hg,hv⟩,ht⟩=>by obtain⟨hb1,hb2⟩:=andB (show(Nat.blt b m&&CT.bnd m l)=true from hb);exact⟨v,vs',e,⟨g,hr.cells b g (BL hb1) hg,hv⟩,Dq hr hd hb2 (hf.imp id λh=>by simpa [CT.flat]using h) ht⟩
 |.bself b::l,y,vs,hb,hf,⟨v,vs',e,.inl hv,ht⟩=>by obtain⟨hb1,hb2⟩:=andB (show(Nat.blt b m&&CT.bnd m l)=true from hb);exact⟨v,vs',e,.inl hv,Dq hr hd hb2 (hf.imp id λh=>by simpa [CT.flat]using h) ht⟩
 |.bself b::l,y,vs,hb,hf,⟨v,vs',e,.inr ⟨g,hg,hv⟩,ht⟩=>by obtain⟨hb1,hb2⟩:=andB (show(Nat.blt b m&&CT.bnd m l)=true from hb);exact⟨v,vs',e,.inr ⟨g,hr.cells b g (BL hb1) hg,hv⟩,Dq hr hd hb2 (hf.imp id λh=>by simpa [CT.flat]using h) ht⟩
 |.nilc::l,y,vs,hb,hf,⟨v,vs',e,hv,ht⟩=>⟨v,vs',e,hv,Dq hr hd (by simpa [CT.bnd]using hb) (hf.imp id λh=>by simpa [CT.flat]using h) ht⟩
 |.nils::l,y,vs,hb,hf,⟨v,vs',e,hv,ht⟩=>⟨v,vs',e,hv,Dq hr hd (by simpa [CT.bnd]using hb) (hf.imp id λh=>by simpa [CT.flat]using h) ht⟩
 |.lsome e0::l,y,vs,hb,hf,⟨v,vs',e,hv,ht⟩=>by have ha:all:=hf.resolve_right (by simp[CT.flat]);exact⟨v,vs',e,⟨hd (.slice e0) y.1 [v] (.inl ha) hv.1,hv.2⟩,Dq hr hd (by simpa [CT.bnd]using hb) (.inl ha) ht⟩
 |.junk::l,y,vs,hb,hf,⟨v,vs',e,hv,ht⟩=>⟨v,vs',e,hv,Dq hr hd (by simpa [CT.bnd]using hb) (hf.imp id λh=>by simpa [CT.flat]using h) ht⟩
theorem Tv{m:Nat}{E E':Env}{ids ids':List Nat}(hr:Ren2 m E E' ids ids'){all:Prop}(hd:∀(τ:Ty)(x:τ.den)(us:List Value),(all\/τ.flat=true)->DRep E.w E.ok τ x us->DRep E'.w E'.ok τ x us):∀{l:List (Bool×List CT)}{y:ST.dens l}{vs:List Value},ST.bnd m l=true->(all\/ST.flat l=true)->TReps E (mkS ids l y) vs->TReps E' (mkS ids' l y) vs
 |[],_,_,_,_,h=>h
 |t::l,y,vs,hb,hf,⟨v,vs',e,⟨xs,hx,hv⟩,ht⟩=>by obtain⟨hb1,hb2⟩:=andB (show(CT.bnd m t.2&&ST.bnd m l)=true from hb);have hf1:all\/CT.flat t.2=true:=hf.imp id λh=>(andB (show(CT.flat t.2&&ST.flat l)=true from h)).1;have hf2:all\/ST.flat l=true:=hf.imp id λh=>(andB (show(CT.flat t.2&&ST.flat l)=true from h)).2;exact⟨v,vs',e,⟨xs,Dq hr hd hb1 hf1 hx,hv⟩,Tv hr hd hb2 hf2 ht⟩
def DB:List Value->Value
 |[v]=>v
 |vs=>.tuple vs.toArray
theorem TReps.res{E:Env}:∀{ts:List (Bool×List C)}{vs:List Value},TReps E ts vs->VRep E (resV ts) (DB vs)
 |[],vs,h=>by have h':vs=[]:=h;subst h';exact⟨[],rfl,h⟩
 |[t],vs,⟨v,vs',e,h1,h2⟩=>by have h2':vs'=[]:=h2;subst h2' e;exact VRep.mk h1
 |t::t2::ts,vs,h=>by obtain⟨v,vs',e,h1,v2,vs2,e2,h2,h3⟩:=id h;subst e e2;exact⟨_,rfl,h⟩
theorem He{m:Nat}{E E':Env}{ids ids':List Nat}(hr:Ren2 m E E' ids ids')(hbase:E'.base<=E.base){all:Prop}(hd:∀(τ:Ty)(x:τ.den)(us:List Value),(all\/τ.flat=true)->DRep E.w E.ok τ x us->DRep E'.w E'.ok τ x us)(hw:E'.w=E.w):∀{l:List BT}{y:BT.dens l}{j:Nat}{B:Blk}{p:Pl},BT.bnd m l=true->(all\/BT.flat l=true)->(mkB ids l y)[j]?=some B->BRep E B p->∃B',(mkB ids' l y)[j]?=some B'/\BRep E' B' p/\B'.live=B.live/\(∀t e ver l,B'=.row t e ver l->B=.row t e ver l)/\(∀t et e ver iver hole l,B'=.mat t et e ver iver hole l->B=.mat t et e ver iver hole l)/\(∀t e ver iver hole l,B'=.tree t e ver iver hole l->B=.tree t e ver iver hole l)
 |[],_,j,_,_,_,_,h,_=>by simp[mkB]at h
 |.cells t l::r,y,0,B,p,hb,hf,h,hB=>by
  simp only[mkB,BJ,Ac]at h;subst h;obtain⟨hb1,hb2⟩:=andB (show(CT.bnd m l&&BT.bnd m r)=true from hb);have hf1:all\/CT.flat l=true:=hf.imp id λh=>(andB (show(CT.flat l&&BT.flat r)=true from h)).1;refine⟨_,rfl,?_,rfl,(λt e ver l h=>by cases h),(λt et e ver iver hole l h=>by cases h),λt e ver iver hole l h=>by cases h⟩;cases p with
  |row _ _=>exact hB.elim
  |cells g=>obtain⟨vs,hh,hcs⟩:=hB;exact⟨vs,by rw[hw];exact hh,Dq hr hd hb1 hf1 hcs⟩
 |.row t e::r,y,0,B,p,hb,hf,h,hB=>by
  simp only[mkB,BJ,Ac]at h;subst h;refine⟨_,rfl,?_,rfl,(λ_ _ _ _ h=>h),(λ_ _ _ _ _ _ _ h=>h),λ_ _ _ _ _ _ h=>h⟩;have hf1:all\/e.flat=true:=hf.imp id λh=>(andB (show(e.flat&&BT.flat r)=true from h)).1;cases p with
  |cells _=>exact hB.elim
  |row sv svs=>obtain⟨h0,xs,h1,h2⟩:=hB;refine⟨h0,xs,h1.mono λx u hu=>hd e x u hf1 hu,?_⟩;rw[hw];exact Jh h2 hbase
 |.mat t et e::r,y,0,B,p,hb,hf,h,hB=>by
  simp only[mkB,BJ,Ac]at h;subst h;refine⟨_,rfl,?_,rfl,(λ_ _ _ _ h=>by cases h),(λ_ _ _ _ _ _ _ h=>h),λ_ _ _ _ _ _ h=>h⟩;have hf1:all\/e.flat=true:=hf.imp id λh=>(andB (show(e.flat&&BT.flat r)=true from h)).1;cases p with
  |cells _=>exact hB.elim
  |row sv svs=>have hM:MatOk E t et e none _ sv svs:=hB;obtain⟨vs,h1,h2⟩:=hM.outer;refine⟨⟨vs,by rw[hw];exact Jh h1 hbase,h2⟩,hM.len,hM.hole,λi s x hs hx=>?_,hM.sep0,hM.sep⟩;obtain⟨xs,h3,h4⟩:=hM.inner i s x hs hx;exact⟨xs,h3.mono λx u hu=>hd e x u hf1 hu,by rw[hw];exact Jh h4 hbase⟩
 |.tree t e::r,y,0,B,p,hb,hf,h,hB=>by
  simp only[mkB,BJ,Ac]at h;subst h;refine⟨_,rfl,?_,rfl,(λ_ _ _ _ h=>by cases h),(λ_ _ _ _ _ _ _ h=>by cases h),λ_ _ _ _ _ _ h=>h⟩;have ha:all\/e.flat=true:=hf.imp id λh=>(andB (show(e.flat&&BT.flat r)=true from h)).1;cases p with
  |cells _=>exact hB.elim
  |row sv svs=>have hT:TreeOk E t e none _ sv svs:=hB;obtain⟨hv,F,h1,h2,h3⟩:=hT.rep;refine⟨⟨hv,F,?_,h2,h3⟩,hT.top⟩;rw[hw];exact Owns.renF (all:=all) hbase (λτ x us hf h=>by have:=hd τ x us hf h;rw[hw]at this;exact this) (o:=.r t e) ha h1
 |.tree t e::r,y,j+1,B,p,hb,hf,h,hB=>by simp only[mkB,BV]at h⊢;exact He hr hbase hd hw hb (hf.imp id λh=>(andB (show(e.flat&&BT.flat r)=true from h)).2) h hB
 |.fmap t l::r,y,0,B,p,hb,hf,h,hB=>by
  simp only[mkB,BJ,Ac]at h;subst h;refine⟨_,rfl,?_,rfl,(λ_ _ _ _ h=>by cases h),(λ_ _ _ _ _ _ _ h=>by cases h),λ_ _ _ _ _ _ h=>by cases h⟩;have hb1:=(andB (show(l.all (λe=>Nat.blt e.2.2 m)&&BT.bnd m r)=true from hb)).1;cases p with
  |row _ _=>exact hB.elim
  |cells g=>
   obtain⟨es,clock,hh,hm⟩:=hB;refine⟨es,clock,by rw[hw];exact hh,?_⟩
   have key:∀{l:List (List UInt8×(FuncId×Nat))}{es:List MapEntry},l.all (λe=>Nat.blt e.2.2 m)=true->FRep E (fIds ids l) es->FRep E' (fIds ids' l) es:=by
    intro l
    induction l with
    |nil=>intro es _ h;exact h
    |cons x l ih=>intro es hb ⟨e,r,g,q1,q2,q3,q4,q5⟩;obtain⟨b1,b2⟩:=andB (show(Nat.blt x.2.2 m&&l.all (λe=>Nat.blt e.2.2 m))=true from hb);exact⟨e,r,g,q1,q2,hr.cells x.2.2 g (BL b1) q3,q4,ih b2 q5⟩
   exact key hb1 hm
 |.fmap t l::r,y,j+1,B,p,hb,hf,h,hB=>by simp only[mkB,BV]at h⊢;exact He hr hbase hd hw (andB (show(l.all (λe=>Nat.blt e.2.2 m)&&BT.bnd m r)=true from hb)).2 hf h hB
 |.mat t et e::r,y,j+1,B,p,hb,hf,h,hB=>by simp only[mkB,BV]at h⊢;exact He hr hbase hd hw hb (hf.imp id λh=>(andB (show(e.flat&&BT.flat r)=true from h)).2) h hB
 |.map t k v vg::r,y,0,B,p,hb,hf,h,hB=>by
  simp only[mkB,BJ,Ac]at h;subst h;refine⟨_,rfl,?_,rfl,(λ_ _ _ _ h=>h),(λ_ _ _ _ _ _ _ h=>h),λ_ _ _ _ _ _ h=>h⟩;have hf1:all\/k.flat=true:=hf.imp id λh=>(andB (show(k.flat&&(v.flat&&BT.flat r))=true from h)).1;have hf2:all\/v.flat=true:=hf.imp id λh=>(andB (andB (show(k.flat&&(v.flat&&BT.flat r))=true from h)).2).1;cases p with
  |row _ _=>exact hB.elim
  |cells g=>obtain⟨es,clock,hh,hm⟩:=hB;exact⟨es,clock,by rw[hw];exact hh,hm.mono (λx u hu=>hd k x u hf1 hu) (λx u hu=>hd v x u hf2 hu)⟩
 |.map t k v vg::r,y,j+1,B,p,hb,hf,h,hB=>by simp only[mkB,BV]at h⊢;exact He hr hbase hd hw hb (hf.imp id λh=>(andB (andB (show(k.flat&&(v.flat&&BT.flat r))=true from h)).2).2) h hB
 |.cells t l::r,y,j+1,B,p,hb,hf,h,hB=>by simp only[mkB,BV]at h⊢;exact He hr hbase hd hw (andB (show(CT.bnd m l&&BT.bnd m r)=true from hb)).2 (hf.imp id λh=>(andB (show(CT.flat l&&BT.flat r)=true from h)).2) h hB
 |.row t e::r,y,j+1,B,p,hb,hf,h,hB=>by simp only[mkB,BV]at h⊢;exact He hr hbase hd hw hb (hf.imp id λh=>(andB (show(e.flat&&BT.flat r)=true from h)).2) h hB
def fnBl(l:List Blk):Nat->Option Blk:=λb=>l[b]?
structure SpecOk (P:Program) (f:FuncId) (S:Spec):Prop where
 fn:∃fn,P.funcs[f]?=some fn/\(fn.name== "runtime.NumGoroutine")=false/\fn.body.isNone=false
 ok:∀{β:Type}(x:ST.dens S.params×BT.dens S.ins)(k:ST.dens S.res×BT.dens S.outs->Option β)(r:β),S.run x k=some r->
  ∃y,k y=some r/\∀(ok0:OK0 P)(pl:Nat->Option Pl)(w:World)(args:List Value),
   RelB ok0 w.heap.size pl (fnBl (mkB (Ax 0 S.ins.length) S.ins x.2)) w->
   TReps (Ae ok0 w.heap.size pl (fnBl (mkB (Ax 0 S.ins.length) S.ins x.2)) w) (mkS (Ax 0 S.ins.length) S.params x.1) args->
   Calls P f args.toArray w λe w'=>∃vals pl',e=.returned (DB vals)/\
    RelB ok0 w.heap.size pl' (fnBl (mkB (Ax 0 S.outs.length) S.outs y.2)) w'/\
    StepM S.ins.length pl (fnBl (mkB (Ax 0 S.ins.length) S.ins x.2)) w pl' (fnBl (mkB (Ax 0 S.outs.length) S.outs y.2)) w'/\
    TReps (Ae ok0 w.heap.size pl' (fnBl (mkB (Ax 0 S.outs.length) S.outs y.2)) w') (mkS (Ax 0 S.outs.length) S.res y.1) vals
structure RowOk (P:Program) (f:FuncId) (F:RowF):Prop where
 fn:∃fn,P.funcs[f]?=some fn/\(fn.name== "runtime.NumGoroutine")=false/\fn.body.isNone=false
 flat:F.e.flat=true
 len:F.cut=false->∀l,(F.run l).length=l.length
 ok:∀(w:World)(base:Nat)(sv:Value)(l:List F.e.den)(xs:List Value),F.dom l=true->base<=w.heap.size->GlobR P sv.ownBlock w->DList (λx u=>DRep w (λ_=>True) F.e x u) l xs->w.ownsRow base F.t F.e.size sv l.length xs->
  Calls P f (sv::F.extra).toArray w λe w'=>∃sv',e=.returned (bif F.cut then sv' else .tuple #[])/\w.grownBy w' sv.ownBlock/\(F.cut=false->sv'=sv)/\(sv'.ownBlock=sv.ownBlock\/∀g,sv'.ownBlock=some g->w.heap.size<=g)/\
   ∃xs',DList (λx u=>DRep w (λ_=>True) F.e x u) (F.run l) xs'/\w'.ownsRow base F.t F.e.size sv' (F.run l).length xs'
def Ou(P:Program)(f:FuncId)(F:BldF)(w:World)(base b:Nat)(v:Value)(l:List Int):Nat->Prop
 |0=>∀s:List UInt8,l.length+s.length<=140737488355328->Calls P f #[.pointer (some ⟨b,0,none⟩),.string ⟨s.toArray⟩] w λe w'=>
   e=.returned (.tuple #[.int .i64 (s.length:Int),.nilIface])/\∃w1 w2 v',w.grownBy w1 (some b)/\w1.heap[b]?=some (.cells #[.pointer (some ⟨b,0,none⟩),v] F.t (0,0))/\
    w1.grownBy w2 v.ownBlock/\(v'.ownBlock=v.ownBlock\/∀g,v'.ownBlock=some g->w1.heap.size<=g)/\w2.ownsRow base F.te 1 v' (l.length+s.length) ((l++Bt s).map (Value.int .u8))/\
    w2.grownBy w' (some b)/\w'.heap[b]?=some (.cells #[.pointer (some ⟨b,0,none⟩),v'] F.t (0,0))
 |1=>F7 l=true->Calls P f #[.pointer (some ⟨b,0,none⟩)] w λe w'=>e=.returned (.string ⟨(D1 l).toArray⟩)/\w.grownBy w' v.ownBlock
 |_=>Calls P f #[.pointer (some ⟨b,0,none⟩)] w λe w'=>e=.returned (.int .i64 (l.length:Int))/\w.grownBy w' none
structure BldOk (P:Program) (f:FuncId) (F:BldF):Prop where
 fn:∃fn,P.funcs[f]?=some fn/\(fn.name== "runtime.NumGoroutine")=false/\fn.body.isNone=false
 ok:F.op<3->∀(w:World)(base b:Nat)(p v:Value)(l:List Int),base<=w.heap.size->w.heap[b]?=some (.cells #[p,v] F.t (0,0))->(p=.pointer none\/p=.pointer (some ⟨b,0,none⟩))->
  w.ownsRow base F.te 1 v l.length (l.map (Value.int .u8))->v.ownBlock≠some b->Ou P f F w base b v l F.op
 join:F.op=3->∀(w:World)(base:Nat)(sv:Value)(l:List (List UInt8))(sep:List UInt8),w.ownsRow base F.t 1 sv l.length (l.map λs=>Value.string ⟨s.toArray⟩)->l.length<=140737488355328->(Lib.join l sep).length<=140737488355328->
  Calls P f #[sv,.string ⟨sep.toArray⟩] w λe w'=>e=.returned (.string ⟨(Lib.join l sep).toArray⟩)/\w.grownBy w' none
structure AbsOk (P:Program) (f:FuncId) (A:AbsF):Prop where
 fn:∃fn,P.funcs[f]?=some fn/\(fn.name== "runtime.NumGoroutine")=false/\fn.body.isNone=false
 ok:∀{β:Type}(bl:Nat->Option Blk)(nx:Nat)(args:List V)(kk:V->List Nat->List (Nat×Blk)->Option β)(r:β),A.run bl nx args kk=some r->
  ∃v rd wr,kk v rd wr=some r/\∀bl2:Nat->Option Blk,(∀b∈rd,bl2 b=bl b)->∀(ok0:OK0 P)(base:Nat)(pl:Nat->Option Pl)(w:World)(us:List Value),RelB ok0 base pl bl2 w->VReps (Ae ok0 base pl bl2 w) args us->
   Calls P f us.toArray w λe w'=>∃u pl',e=.returned u/\RelB ok0 base pl' (updL bl2 wr) w'/\Step pl bl2 w pl' (updL bl2 wr) w'/\VRep (Ae ok0 base pl' (updL bl2 wr) w') v u
structure ΓOk (P:Program) (Γ:FuncId->Option Fun):Prop where
 spec:∀f S,Γ f=some (.spec S)->SpecOk P f S
 rows:∀f F,Γ f=some (.rows F)->RowOk P f F
 bld:∀f F,Γ f=some (.bld F)->BldOk P f F
 abs:∀f A,Γ f=some (.abs A)->AbsOk P f A
def place:List Nat->Nat->Option Nat
 |[],_=>none
 |x::r,i=>if i=x then some 0 else(place r i).map (· +1)
theorem Dr:∀{l:List Nat}{i b:Nat},place l i=some b->l[b]?=some i
 |[],i,b,h=>by simp[place]at h
 |x::r,i,b,h=>by
  simp only[place]at h;split at h
  ·rename_i hx
   simp only[Ac]at h;subst h hx;rfl
  ·cases hp:place r i with
   |none=>rw[hp]at h;cases h
   |some c=>rw[hp]at h;simp only[Cl,Ac]at h;subst h;simpa using Dr hp
theorem Ff:∀{l:List Nat}{i b:Nat},l.Nodup->l[b]?=some i->place l i=some b
 |[],i,b,_,h=>by simp at h
 |x::r,i,0,_,h=>by simp at h;subst h;simp[place]
 |x::r,i,b+1,hn,h=>by
  have h':r[b]?=some i:=by simpa using h
  have hne:i≠x:=by rintro rfl;exact(GS.1 hn).1 (B6 h')
  simp[place,hne,Ff (GS.1 hn).2 h']
theorem wG{l:List Nat}{i:Nat}(h:i∉l):place l i=none:=by
 cases hp:place l i with
 |none=>rfl
 |some b=>exact absurd (B6 (Dr hp)) h
theorem ZS{f:Nat->Option Blk}:∀{l:List Nat}{xs:List Blk}(i:Nat),l.Nodup->l.length=xs.length->updL f (l.zip xs) i=match place l i with|some b=>xs[b]?|none=>f i:=by
 intro l
 induction l generalizing f with
 |nil=>intro xs i _ _;rfl
 |cons x r ih=>
  intro xs i hn hl;cases xs with
  |nil=>simp at hl
  |cons B xs=>
   simp only[List.zip_cons_cons,updL];rw[ih i (GS.1 hn).2 (by simpa using hl)];simp only[place];by_cases hi:i=x
   ·subst hi
    rw[wG (GS.1 hn).1];simp[upd]
   ·simp only[hi,Bk]
    cases hp:place r i with
    |none=>simp[upd,hi]
    |some b=>simp
theorem ZT{ps:List (Nat×Nat)}:∀{n j:Nat}{ids:List Nat},K8 ps j n=some ids->ids.length=n
 |0,j,ids,h=>by simp only[K8,Ac]at h;subst h;rfl
 |n+1,j,ids,h=>by
  simp only[K8]at h;split at h
  ·rename_i b r _ hr
   simp only[Ac]at h;subst h;simp[ZT hr]
  ·cases h
theorem Tw{bl:Nat->Option Blk}{ids:List Nat}:∀{l:List BT}{is:List Nat}{y:BT.dens l},CR bl ids l is=some y->∀i∈is,∃t cs,bl i=some (.cells t cs)
 |[],is,y,hp=>by
  cases is with
  |nil=>intro i h;simp at h
  |cons i is=>simp[CR]at hp
 |.row t e::r,is,y,hp=>by cases is<;>simp[CR]at hp
 |.map t k v vg::r,is,y,hp=>by cases is<;>simp[CR]at hp
 |.mat t et e::r,is,y,hp=>by cases is<;>simp[CR]at hp
 |.tree t e::r,is,y,hp=>by cases is<;>simp[CR]at hp
 |.fmap t l::r,is,y,hp=>by cases is<;>simp[CR]at hp
 |.cells t l::r,is,y,hp=>by
  cases is with
  |nil=>intro i h;simp at h
  |cons i is=>
   simp only[CR]at hp;split at hp
   ·rename_i t' cs hbl
    cases ht:Nat.beq t t' with
    |false=>rw[ht]at hp;cases hp
    |true=>
     simp only[ht,Af]at hp;split at hp
     ·cases hp
     ·split at hp
      ·cases hp
      ·rename_i z h2
       intro j hj;rcases AH.1 hj with rfl|hj
       ·exact⟨t',cs,hbl⟩
       ·exact Tw h2 j hj
   ·cases hp
theorem Hf{ids ids2:List Nat}:∀{l:List BT}{y:BT.dens l}{j:Nat}{t:TypeId}{e:Ty}{ver:Nat}{l':List e.den},(mkB ids l y)[j]?=some (.row t e ver l')->(mkB ids2 l y)[j]?=some (.row t e ver l')
 |[],_,j,_,_,_,_,h=>by simp[mkB]at h
 |.cells _ _::r,y,0,_,_,_,_,h=>by simp[mkB]at h
 |.row _ _::r,y,0,_,_,_,_,h=>by simpa [mkB]using h
 |.cells _ _::r,y,j+1,_,_,_,_,h=>by simp only[mkB,BV]at h⊢;exact Hf h
 |.row _ _::r,y,j+1,_,_,_,_,h=>by simp only[mkB,BV]at h⊢;exact Hf h
 |.map _ _ _ _::r,y,0,_,_,_,_,h=>by simp[mkB]at h
 |.map _ _ _ _::r,y,j+1,_,_,_,_,h=>by simp only[mkB,BV]at h⊢;exact Hf h
 |.mat _ _ _::r,y,0,_,_,_,_,h=>by simp[mkB]at h
 |.mat _ _ _::r,y,j+1,_,_,_,_,h=>by simp only[mkB,BV]at h⊢;exact Hf h
 |.tree _ _::r,y,0,_,_,_,_,h=>by simp[mkB]at h
 |.tree _ _::r,y,j+1,_,_,_,_,h=>by simp only[mkB,BV]at h⊢;exact Hf h
 |.fmap _ _::r,y,0,_,_,_,_,h=>by simp[mkB]at h
 |.fmap _ _::r,y,j+1,_,_,_,_,h=>by simp only[mkB,BV]at h⊢;exact Hf h
theorem Hg{ids ids2:List Nat}:∀{l:List BT}{y:BT.dens l}{j:Nat}{t et:TypeId}{e:Ty}{ver iver:Nat}{hole:Option Nat}{l':List (List e.den)},(mkB ids l y)[j]?=some (.mat t et e ver iver hole l')->(mkB ids2 l y)[j]?=some (.mat t et e ver iver hole l')
 |[],_,j,_,_,_,_,_,_,_,h=>by simp[mkB]at h
 |.cells _ _::r,y,0,_,_,_,_,_,_,_,h=>by simp[mkB]at h
 |.row _ _::r,y,0,_,_,_,_,_,_,_,h=>by simp[mkB]at h
 |.map _ _ _ _::r,y,0,_,_,_,_,_,_,_,h=>by simp[mkB]at h
 |.mat _ _ _::r,y,0,_,_,_,_,_,_,_,h=>by simpa [mkB]using h
 |.cells _ _::r,y,j+1,_,_,_,_,_,_,_,h=>by simp only[mkB,BV]at h⊢;exact Hg h
 |.row _ _::r,y,j+1,_,_,_,_,_,_,_,h=>by simp only[mkB,BV]at h⊢;exact Hg h
 |.map _ _ _ _::r,y,j+1,_,_,_,_,_,_,_,h=>by simp only[mkB,BV]at h⊢;exact Hg h
 |.mat _ _ _::r,y,j+1,_,_,_,_,_,_,_,h=>by simp only[mkB,BV]at h⊢;exact Hg h
 |.tree _ _::r,y,0,_,_,_,_,_,_,_,h=>by simp[mkB]at h
 |.tree _ _::r,y,j+1,_,_,_,_,_,_,_,h=>by simp only[mkB,BV]at h⊢;exact Hg h
 |.fmap _ _::r,y,0,_,_,_,_,_,_,_,h=>by simp[mkB]at h
 |.fmap _ _::r,y,j+1,_,_,_,_,_,_,_,h=>by simp only[mkB,BV]at h⊢;exact Hg h
theorem Tx{ids ids2:List Nat}:∀{l:List BT}{y:BT.dens l}{j:Nat}{t:TypeId}{e:OT}{ver iver:Nat}{hole:Option Path}{l':List e.ty.den},(mkB ids l y)[j]?=some (.tree t e ver iver hole l')->(mkB ids2 l y)[j]?=some (.tree t e ver iver hole l')
 |[],_,j,_,_,_,_,_,_,h=>by simp[mkB]at h
 |.tree _ _::r,y,0,_,_,_,_,_,_,h=>by simpa [mkB]using h
 |.cells _ _::r,y,0,_,_,_,_,_,_,h|.row _ _::r,y,0,_,_,_,_,_,_,h|.map _ _ _ _::r,y,0,_,_,_,_,_,_,h|.mat _ _ _::r,y,0,_,_,_,_,_,_,h=>by simp[mkB]at h
 |.cells _ _::r,y,j+1,_,_,_,_,_,_,h|.row _ _::r,y,j+1,_,_,_,_,_,_,h|.map _ _ _ _::r,y,j+1,_,_,_,_,_,_,h|.mat _ _ _::r,y,j+1,_,_,_,_,_,_,h|.tree _ _::r,y,j+1,_,_,_,_,_,_,h|.fmap _ _::r,y,j+1,_,_,_,_,_,_,h=>by simp only[mkB,BV]at h⊢;exact Tx h
theorem Hh{ids:List Nat}:∀{l:List BT}{y:BT.dens l}{j:Nat}{B:Blk},(mkB ids l y)[j]?=some B->B.live=true
 |[],_,j,_,h=>by simp[mkB]at h
 |.cells _ _::r,y,0,_,h=>by simp only[mkB,BJ,Ac]at h;subst h;rfl
 |.row _ _::r,y,0,_,h=>by simp only[mkB,BJ,Ac]at h;subst h;rfl
 |.cells _ _::r,y,j+1,_,h=>by simp only[mkB,BV]at h;exact Hh h
 |.row _ _::r,y,j+1,_,h=>by simp only[mkB,BV]at h;exact Hh h
 |.map _ _ _ _::r,y,0,_,h=>by simp only[mkB,BJ,Ac]at h;subst h;rfl
 |.map _ _ _ _::r,y,j+1,_,h=>by simp only[mkB,BV]at h;exact Hh h
 |.mat _ _ _::r,y,0,_,h=>by simp only[mkB,BJ,Ac]at h;subst h;rfl
 |.mat _ _ _::r,y,j+1,_,h=>by simp only[mkB,BV]at h;exact Hh h
 |.tree _ _::r,y,0,_,h=>by simp only[mkB,BJ,Ac]at h;subst h;rfl
 |.tree _ _::r,y,j+1,_,h=>by simp only[mkB,BV]at h;exact Hh h
 |.fmap _ _::r,y,0,_,h=>by simp only[mkB,BJ,Ac]at h;subst h;rfl
 |.fmap _ _::r,y,j+1,_,h=>by simp only[mkB,BV]at h;exact Hh h
theorem HY{n b:Nat}(h:b<n):(Ax 0 n).getD b 0=b:=by have:=Tp (n:=n) (s:=0) h;simp[List.getD,this]
section
variable{P:Program}{o:Oper}{ρ:Operand->V}{bl:Nat->Option Blk}{β:Type}{r:β}
def Blk.lend:Blk->Bool
 |.row _ _ _ _=>true
 |.tree _ _ _ _ _ _=>true
 |_=>false
theorem Blk.lend_live{B:Blk}(h:B.lend=true):B.live=true:=by cases B<;>first|rfl|cases h
theorem Tz{ok0:OK0 P}{base:Nat}{pl:Nat->Option Pl}{bl:Nat->Option Blk}{w:World}(hr:RelB ok0 base pl bl w){b:Nat}{B:Blk}{p:Pl}(hb:bl b=some B)(hl:B.lend=true)(hp:pl b=some p){g:Nat}(hg:p.has g):base<=g/\¬ok0.no g:=by
 refine⟨?_,λhn=>(hr.glob.no g hn).2 ⟨b,B,p,hb,Blk.lend_live hl,hp,hg⟩⟩;obtain⟨q,hq,hB⟩:=hr.blks b _ hb;rw[hp]at hq;injection hq with hq;subst hq;cases B with
 |row t e ver l=>
  cases p with
  |cells _=>exact hB.elim
  |row sv svs=>obtain⟨rfl,xs,_,ho⟩:=hB;exact(ho.lt g (Pl.has_row hg)).1
 |tree t e ver iver hole l=>
  cases p with
  |cells _=>exact hB.elim
  |row sv svs=>have hT:TreeOk _ t e hole l sv svs:=hB;obtain⟨hv,F,h1,h2,_⟩:=hT.rep;obtain⟨s,hs,hg⟩:=h2.of_has hg;exact(h1.lt s hs g hg).1
 |_=>cases hl
theorem wH{S:Spec}{bl:Nat->Option Blk}{rds:List Nat}{p:Nat×Blk}(h:p∈IV S bl rds):p.2=.dead/\p.1∈rds/\∃B,bl p.1=some B/\B.lend=true:=by
 unfold IV at h;cases hf:(ST.flat S.res&&BT.flat S.outs)with
 |true=>rw[hf]at h;simp at h
 |false=>
  rw[hf,AT]at h;obtain⟨b,hb,hp⟩:=List.mem_filterMap.1 h;split at hp
  ·rename_i hbl
   injection hp with hp;subst hp;exact⟨rfl,hb,_,hbl,rfl⟩
  ·rename_i hbl
   injection hp with hp;subst hp;exact⟨rfl,hb,_,hbl,rfl⟩
  ·cases hp
theorem wI{S:Spec}{bl:Nat->Option Blk}{rds:List Nat}(hf:(ST.flat S.res&&BT.flat S.outs)=false){b:Nat}(hb:b∈rds){B:Blk}(hbl:bl b=some B)(hl:B.lend=true):(b,Blk.dead)∈IV S bl rds:=by unfold IV;rw[hf,AT];refine List.mem_filterMap.2 ⟨b,hb,?_⟩;rw[hbl];cases B<;>first|rfl|cases hl
theorem KS:∀{l:List (Nat×Blk)}{f:Nat->Option Blk}(i:Nat),(∀p∈l,p.2=Blk.dead)->(updL f l i=f i/\(∀p∈l,p.1≠i))\/(updL f l i=some .dead/\∃p∈l,p.1=i)
 |[],f,i,_=>.inl ⟨rfl,λ_ h=>by simp at h⟩
 |(j,x)::l,f,i,h=>by
  have hx:x=.dead:=h (j,x) (by simp);subst hx;simp only[updL];rcases KS (l:=l) (f:=upd f j .dead) i (λp hp=>h p (by simp[hp]))with⟨h1,h2⟩|⟨h1,p,hp,h2⟩
  ·by_cases hij:i=j
   ·subst hij
    exact .inr ⟨by rw[h1];simp[upd],(i,.dead),by simp,rfl⟩
   ·refine .inl ⟨by rw[h1];simp[upd,hij],λp hp=>?_⟩
    rcases AH.1 hp with e|hp
    ·rw[e];exact λh=>hij h.symm
    ·exact h2 p hp
  ·exact .inr ⟨h1,p,by simp[hp],h2⟩
theorem wJ{F:RowF}{E:Env}{args:List V}{us:List Value}{b ver:Nat}(h:SF F args=some (b,ver))(hus:VReps E args us):∃u,us=u::F.extra/\VRep E (.c (.row b ver)) u:=by
 unfold SF at h;split at h
 ·rename_i b' ver' hfn
  cases h;obtain⟨u,us',rfl,hu,hn⟩:=hus;have hn:us'=[]:=hn;subst hn;exact⟨u,by unfold RowF.extra;rw[hfn],hu⟩
 ·rename_i b' ver' g g' hfn
  cases hg:Nat.beq g g' with
  |false=>rw[hg]at h;cases h
  |true=>
   rw[hg]at h;cases h;have hg:=Ag hg;subst hg;obtain⟨u,us',rfl,hu,u2,us2,rfl,⟨gs,hgs,hv⟩,hn⟩:=hus;have hn:us2=[]:=hn;subst hn
   have:gs=[]:=by
    cases gs with
    |nil=>rfl
    |cons _ _=>simp at hgs
   subst this;exact⟨u,by unfold RowF.extra;rw[hfn,hv];rfl,hu⟩
 ·cases h
theorem wK{F:RowF}{f:FuncId}(hF:RowOk P f F){kk:K β}{args:List V}(hk:SG F bl args kk=some r)(hop:∀(bl2:Nat->Option Blk)(ok0:OK0 P)(base:Nat)(pl:Nat->Option Pl)(w:World)(a:Act),RelB ok0 base pl bl2 w->(∀x∈o.op.operands,VRep (Ae ok0 base pl bl2 w) (ρ x) (a.eval x))->∃us,VReps (Ae ok0 base pl bl2 w) args us/\((∃fn,P.funcs[f]?=some fn/\(fn.name== "runtime.NumGoroutine")=false/\fn.body.isNone=false)->(execOp a.eval o).run P w=.ok (.enter f us.toArray) w)):Sound P o ρ bl kk r:=by
 unfold SG at hk;split at hk
 ·rename_i b ver hra
  split at hk
  ·rename_i t e ver' l hbl
   cases hc:(Nat.beq ver ver'&&Nat.beq t F.t)with
   |false=>rw[hc]at hk;cases hk
   |true=>
    simp only[hc,Af]at hk;obtain⟨h1,h2⟩:=andB hc;have h1:=Ag h1;have h2:=Ag h2;subst h1 h2;split at hk
    ·rename_i he
     subst he;obtain⟨hmax,hk⟩:=B8 hk
     have main:∀(bl2:Nat->Option Blk),bl2 b=bl b->∀(ok0:OK0 P)(base:Nat)(pl:Nat->Option Pl)(w:World)(a:Act),RelB ok0 base pl bl2 w->(∀x∈o.op.operands,VRep (Ae ok0 base pl bl2 w) (ρ x) (a.eval x))->
       ∃sv,pl b=some (.row sv [])/\(execOp a.eval o).run P w=.ok (.enter f (sv::F.extra).toArray) w/\Calls P f (sv::F.extra).toArray w λe w'=>∃sv',e=.returned (bif F.cut then sv' else .tuple #[])/\w.grownBy w' sv.ownBlock/\(F.cut=false->sv'=sv)/\
        (sv'.ownBlock=sv.ownBlock\/∀g,sv'.ownBlock=some g->w.heap.size<=g)/\∃xs',DList (λx u=>DRep w (λ_=>True) F.e x u) (F.run l) xs'/\w'.ownsRow base F.t F.e.size sv' (F.run l).length xs':=by
      intro bl2 hb2 ok0 base pl w a hr hxs;obtain⟨us,hus,hrun⟩:=hop bl2 ok0 base pl w a hr hxs;have hrun:=hrun hF.fn;obtain⟨u,rfl,_,sv,svs,hsv,hcur⟩:=wJ hra hus;have hbl2:bl2 b=some (.row F.t F.e ver l):=hb2.trans hbl;have hu:=(hcur F.t F.e ver l hbl2).2 rfl;subst hu;obtain⟨p,hp,hB⟩:=hr.blks b _ hbl2;have:p=.row u svs:=by have h2:pl b=some (.row u svs):=hsv;rw[hp]at h2;injection h2
      subst this;obtain⟨h0,xs,hd,hown⟩:=hB;subst h0;exact⟨u,hsv,hrun,hF.ok w base u l xs hmax hr.baseLe (hr.glob.row λg hg=>⟨b,_,_,hbl2,rfl,hp,Or.inl hg⟩) (hd.mono λx us hx=>hx.flat hF.flat) hown⟩
     cases hcut:F.cut with
     |false=>rw[hcut]at hk;simp only[AT]at hk;refine⟨_,_,_,hk,λbl2 hb2=>?_⟩;have hbl2:bl2 b=some (.row F.t F.e ver l):=(hb2 b (by simp)).trans hbl;intro ok0 base pl w a hr hxs K Q hK;obtain⟨sv,hsv,hrun,hcall⟩:=main bl2 (hb2 b (by simp)) ok0 base pl w a hr hxs;unfold Oper.wp;rw[hrun];simp only[Oper.upon];refine hcall.mono λe w' ⟨sv',he,hgb,hsv',hob,xs',hd',hown'⟩=>?_;have hsv':=hsv' hcut;subst hsv';rw[hcut]at he;simp only[AT]at he;subst he;simp only;have hver:ver<=ver/\(ver=ver->sv'=sv'/\(F.run l).length=l.length):=⟨Ao _,λ_=>⟨rfl,hF.len hcut l⟩⟩;have hs:=Step.grown (l':=F.run l) hr hbl2 hsv hgb hob hver;refine hK (.tuple #[]) (upd pl b (.row sv' [])) w' (RelB.grown hr hbl2 hsv hgb hob hver ⟨rfl,xs',hd'.mono λx u hu=>hu.flat hF.flat,hown'⟩) hs ⟨[],rfl,rfl⟩
     |true=>
      rw[hcut]at hk;simp only[Af]at hk;refine⟨_,_,_,hk,λbl2 hb2=>?_⟩;have hbl2:bl2 b=some (.row F.t F.e ver l):=(hb2 b (by simp)).trans hbl;intro ok0 base pl w a hr hxs K Q hK;obtain⟨sv,hsv,hrun,hcall⟩:=main bl2 (hb2 b (by simp)) ok0 base pl w a hr hxs;unfold Oper.wp;rw[hrun];simp only[Oper.upon];refine hcall.mono λe w' ⟨sv',he,hgb,hsv',hob,xs',hd',hown'⟩=>?_;rw[hcut]at he;simp only[Af]at he;subst he;simp only;have hver:ver<=ver+1/\(ver=ver+1->sv'=sv/\(F.run l).length=l.length):=⟨Nat.le_succ _,λh=>by omega⟩;have hs:=Step.grown (l':=F.run l) hr hbl2 hsv hgb hob hver;have hR:=RelB.grown hr hbl2 hsv hgb hob hver ⟨rfl,xs',hd'.mono λx u hu=>hu.flat hF.flat,hown'⟩;refine hK sv' (upd pl b (.row sv' [])) w' hR hs ⟨?_,sv',[],by simp[Ae,upd],λt e ver2 l2 hb=>?_⟩
      ·rcases hown'.2 with⟨h,_⟩|⟨g,cap,cur,h,_⟩<;>rw[h]<;>rfl
      ·have hb:upd bl2 b (.row F.t F.e (ver+1) (F.run l)) b=some (.row t e ver2 l2):=hb
       simp only[upd]at hb;simp at hb;exact⟨by omega,λ_=>rfl⟩
    ·cases hk
  ·cases hk
 ·cases hk
theorem KT{w:World}{ok:Nat->Prop}{k:IntKind}:∀{l:List Int}{xs:List Value},DList (λ(x:Int) u=>DRep w ok (.int k) x u) l xs↔xs=l.map (Value.int k)
 |[],xs=>by simp[DList]
 |x::l,xs=>by
  simp only[DList,Bp];constructor
  ·rintro⟨u,v,rfl,hu,hv⟩
   rw[KT.1 hv];simp only[DRep]at hu;subst hu;rfl
  ·rintro rfl
   exact⟨[.int k x],_,rfl,by simp[DRep],KT.2 rfl⟩
theorem T0{w:World}{ok:Nat->Prop}:∀{l:List (List UInt8)}{xs:List Value},DList (λ(x:List UInt8) u=>DRep w ok .str x u) l xs↔xs=l.map λs=>Value.string ⟨s.toArray⟩
 |[],xs=>by simp[DList]
 |x::l,xs=>by
  simp only[DList,Bp];constructor
  ·rintro⟨u,v,rfl,hu,hv⟩
   rw[T0.1 hv];simp only[DRep]at hu;subst hu;rfl
  ·rintro rfl
   exact⟨[.string ⟨x.toArray⟩],_,rfl,by simp[DRep],T0.2 rfl⟩
theorem Jj{F:BldF}{bl:Nat->Option Blk}{i:Nat}{q:Option (Nat×Nat)}{l:List Int}(h:KA F bl i=some (q,l)):∃c1 c2,bl i=some (.cells F.t [c1,c2])/\K9 c1 i=true/\((q=none/\l=[]/\c2=.nils)\/∃j ver,q=some (j,ver)/\c2=.row j ver/\bl j=some (.row F.te (.int .u8) ver l)):=by
 unfold KA at h;split at h
 ·rename_i t p q' hbl
  cases hc:(Nat.beq t F.t&&K9 p i)with
  |false=>rw[hc]at h;cases h
  |true=>
   simp only[hc,Af]at h;obtain⟨h1,h2⟩:=andB hc;have h1:=Ag h1;subst h1;split at h
   ·simp only[Ac,AN]at h
    obtain⟨rfl,rfl⟩:=h;exact⟨p,_,hbl,h2,.inl ⟨rfl,rfl,rfl⟩⟩
   ·rename_i j ver
    split at h
    ·rename_i te ver' l' hbj
     cases hc2:(Nat.beq te F.te&&Nat.beq ver ver')with
     |false=>rw[hc2]at h;cases h
     |true=>simp only[hc2,Af,Ac,AN]at h;obtain⟨rfl,rfl⟩:=h;obtain⟨h3,h4⟩:=andB hc2;have h3:=Ag h3;have h4:=Ag h4;subst h3 h4;exact⟨p,_,hbl,h2,.inr ⟨j,ver,rfl,rfl,hbj⟩⟩
    ·cases h
   ·cases h
 ·cases h
theorem Jk{F:BldF}{ok0:OK0 P}{base:Nat}{pl:Nat->Option Pl}{bl:Nat->Option Blk}{w:World}(hr:RelB ok0 base pl bl w){i:Nat}{c1 c2:C}(hbl:bl i=some (.cells F.t [c1,c2]))(hs:K9 c1 i=true){u:Value}(hu:VRep (Ae ok0 base pl bl w) (.c (.ptr i 0)) u):∃g p v,u=.pointer (some ⟨g,0,none⟩)/\pl i=some (.cells g)/\w.heap[g]?=some (.cells #[p,v] F.t (0,0))/\(p=.pointer none\/p=.pointer (some ⟨g,0,none⟩))/\CRep (Ae ok0 base pl bl w) c2 v:=by
 obtain⟨g,hpi,rfl⟩:=hu;have hpi:pl i=some (.cells g):=hpi;obtain⟨q,hq,hB⟩:=hr.blks i _ hbl;rw[hpi]at hq;injection hq with hq;subst hq;obtain⟨vs,hh,v1,vs1,rfl,hv1,v2,vs2,rfl,hv2,hn⟩:=hB;have hn:vs2=[]:=hn;subst hn;refine⟨g,v1,v2,rfl,hpi,hh,?_,hv2⟩;cases c1<;>simp only[K9]at hs<;>try(cases hs;done)
 ·exact .inl hv1
 ·rename_i b
  have:=Ag hs;subst this;rcases hv1 with h|⟨g',hg',h⟩
  ·exact .inl h
  ·have hg':pl b=some (.cells g'):=hg'
   rw[hpi]at hg';injection hg' with hg';injection hg' with hg';subst hg';exact .inr h
theorem T1{F:BldF}{ok0:OK0 P}{base:Nat}{pl:Nat->Option Pl}{bl:Nat->Option Blk}{w:World}(hr:RelB ok0 base pl bl w){i j ver g:Nat}{B:Blk}(hbi:bl i=some B)(hli:B.live=true)(hpi:pl i=some (.cells g)){l:List Int}(hbj:bl j=some (.row F.te (.int .u8) ver l)){v:Value}(hv:CRep (Ae ok0 base pl bl w) (.row j ver) v)(hij:i≠j):pl j=some (.row v [])/\w.ownsRow base F.te 1 v l.length (l.map (Value.int .u8))/\v.ownBlock≠some g:=by
 obtain⟨_,sv,svs,hsv,hcur⟩:=hv;have hv:=(hcur F.te (.int .u8) ver l hbj).2 rfl;subst hv;have hsv:pl j=some (.row v svs):=hsv;obtain⟨q,hq,hB⟩:=hr.blks j _ hbj;rw[hsv]at hq;injection hq with hq;subst hq;obtain⟨rfl,xs,hd,hown⟩:=hB;rw[KT.1 hd]at hown;refine⟨hsv,hown,λh=>?_⟩;exact hr.sep i j _ _ _ _ g hij hbi hbj hli rfl hpi hsv rfl (.inl h)
theorem Step.still{pl:Nat->Option Pl}{bl:Nat->Option Blk}{w w':World}(hg:w.grownBy w' none):Step pl bl w pl bl w':=
 ⟨hg.os,hg.tape,hg.output,hg.size,λg hlt ho=>⟨hg.block g hlt (by simp),ho⟩,λ_ _ h=>h,λ_ sv svs h=>⟨sv,svs,h,KeepR.refl _ _ _⟩⟩
theorem RelB.still{ok0:OK0 P}{base:Nat}{pl:Nat->Option Pl}{bl:Nat->Option Blk}{w w':World}(hr:RelB ok0 base pl bl w)(hg:w.grownBy w' none):RelB ok0 base pl bl w':=by
 have hs:Step pl bl w pl bl w':=Step.still hg;refine⟨BH hr.baseLe hs.size,λi B hB=>?_,hr.sep,hr.fresh,hr.glob.out hs.size hs.out⟩;obtain⟨p,hp,hR⟩:=hr.blks i B hB;refine⟨p,hp,?_⟩;cases hl:B.live with
 |false=>cases B<;>first|exact trivial|simp[Blk.live]at hl
 |true=>exact BRep.mono hs.ext hR λg hq=>hg.block g (Own.lt hr ⟨i,B,p,hB,hl,hp,hq⟩) (by simp)
theorem ZU{α:Type}{f:Nat->Option α}{i j:Nat}(hij:i≠j)(x y z:α):upd (upd (upd f i x) j y) i z=upd (upd f j y) i z:=by
 funext k;simp only[upd];by_cases h1:k=i
 ·simp[h1]
 ·by_cases h2:k=j
  ·simp[h1,h2]
  ·simp[h1,h2]
theorem ZV(s:List UInt8):(Bt s).length=s.length:=by simp[Bt]
theorem ZW{E:Env}(s:List UInt8):VRep E (wrote s) (.tuple #[.int .i64 (s.length:Int),.nilIface]):=
 ⟨[.int .i64 (s.length:Int),.nilIface],rfl,_,_,rfl,⟨[.int .i64 (s.length:Int)],⟨_,_,rfl,rfl,rfl⟩,rfl⟩,_,_,rfl,⟨[.nilIface],⟨_,_,rfl,rfl,rfl⟩,rfl⟩,rfl⟩
theorem T2{w:World}{base:Nat}{t:TypeId}{size:Nat}{v:Value}{n:Nat}{xs:List Value}(h:w.ownsRow base t size v n xs):v.oneCell'=true:=by rcases h.2 with⟨h,_⟩|⟨g,cap,cur,h,_⟩<;>rw[h]<;>rfl
theorem wL{F:BldF}{f:FuncId}(hF:BldOk P f F){kk:K β}{nx:Nat}{args:List V}(hk:SH F bl nx args kk=some r)(hop:∀(bl2:Nat->Option Blk)(ok0:OK0 P)(base:Nat)(pl:Nat->Option Pl)(w:World)(a:Act),RelB ok0 base pl bl2 w->(∀x∈o.op.operands,VRep (Ae ok0 base pl bl2 w) (ρ x) (a.eval x))->∃us,VReps (Ae ok0 base pl bl2 w) args us/\((∃fn,P.funcs[f]?=some fn/\(fn.name== "runtime.NumGoroutine")=false/\fn.body.isNone=false)->(execOp a.eval o).run P w=.ok (.enter f us.toArray) w)):Sound P o ρ bl kk r:=by
 unfold SH at hk;split at hk
 ·
  rename_i i s hn;split at hk
  ·rename_i l0 hb
   obtain⟨hfree,hk⟩:=B8 hk;obtain⟨hlen,hk⟩:=B8 hk;have hlen:=Az hlen;obtain⟨c1,c2,hbl,hself,hq⟩:=Jj hb
   obtain⟨rfl,rfl⟩:l0=[]/\c2=.nils:=by
    rcases hq with⟨_,h1,h2⟩|⟨j,ver,hq,_⟩
    ·exact⟨h1,h2⟩
    ·cases hq
   refine⟨_,_,_,hk,λbl2 hb2=>?_⟩;have hbl2:bl2 i=some (.cells F.t [c1,.nils]):=(hb2 i (by simp)).trans hbl
   have hnx:bl2 nx=none:=by
    rw[hb2 nx (by simp)];unfold Zh at hfree;split at hfree
    ·assumption
    ·cases hfree
   have hne:i≠nx:=by rintro rfl;rw[hbl2]at hnx;cases hnx
   intro ok0 base pl w a hr hxs K Q hK;obtain⟨us,hus,hrun⟩:=hop bl2 ok0 base pl w a hr hxs;have hrun:=hrun hF.fn;obtain⟨u,us1,rfl,hu,u2,us2,rfl,hs2,hnil⟩:=hus;have hnil:us2=[]:=hnil;have hs2:u2=.string ⟨s.toArray⟩:=hs2;subst hnil hs2;obtain⟨g,p,v,rfl,hpi,hheap,hp,hv⟩:=Jk hr hbl2 hself hu;have hv:v=.slice none 0 0:=hv;subst hv;have hpost:=hF.ok (by rw[hn];decide) w base g p (.slice none 0 0) [] hr.baseLe hheap hp (World.ownsRow_nil _ _ _ _) (by simp[Value.ownBlock]);rw[hn]at hpost;have hcall:=hpost s (by simpa using hlen);unfold Oper.wp;rw[hrun];simp only[Oper.upon];refine hcall.mono λe w' ⟨he,w1,w2,v',hg1,hh1,hg2,hv',hown2,hg3,hh3⟩=>?_;subst he;simp only
   have hown3:w2.ownsRow base F.te (Ty.size (.int .u8)) v' (Bt s).length ((Bt s).map (Value.int .u8)):=by have h:=hown2;simp only[Bw,BW,Cp]at h;rw[ZV];exact h
   have hvn:∀g,v'.ownBlock=some g->w1.heap.size<=g:=λg hg=>by
    rcases hv' with h|h
    ·rw[h]at hg;cases hg
    ·exact h g hg
   have s1:=Step.wrote (cs':=[.bself i,.nils]) hr hbl2 hpi hg1;have r1:=RelB.wrote (cs':=[.bself i,.nils]) hr hbl2 hpi hg1 ⟨_,hh1,_,_,rfl,.inr ⟨g,by simp[Ae,upd],rfl⟩,_,_,rfl,rfl,rfl⟩;have hnx1:upd bl2 i (.cells F.t [.bself i,.nils]) nx=none:=by simp[upd,Ne.symm hne,hnx]
   have hg2:w1.grownBy w2 none:=hg2;have hpn:∀g,(Pl.row v' []).has g->w1.heap.size<=g:=λg hg=>hvn g (Pl.has_row hg);have s2:=Step.new (B:=.row F.te (.int .u8) 0 (Bt s)) r1 hnx1 hg2 hpn;have r2:=RelB.new (B:=.row F.te (.int .u8) 0 (Bt s)) r1 hnx1 hg2 hpn ⟨rfl,_,KT.2 rfl,hown3⟩;have hi2:upd (upd bl2 i (.cells F.t [.bself i,.nils])) nx (.row F.te (.int .u8) 0 (Bt s)) i=some (.cells F.t [.bself i,.nils]):=by simp[upd,hne]
   have hp2:upd (upd pl i (.cells g)) nx (.row v' []) i=some (.cells g):=by simp[upd,hne]
   have s3:=Step.wrote (cs':=[.bself i,.row nx 0]) r2 hi2 hp2 hg3
   have r3:=RelB.wrote (cs':=[.bself i,.row nx 0]) r2 hi2 hp2 hg3 ⟨_,hh3,_,_,rfl,.inr ⟨g,by simp[Ae,upd],rfl⟩,_,_,rfl,⟨T2 hown2,v',[],by simp[Ae,upd,Ne.symm hne],λt e ver' l' h=>by simp[Ae,upd,Ne.symm hne]at h;exact⟨BZ _,λ_=>rfl⟩⟩,rfl⟩
   have s4:=(s1.trans s2).trans s3;simp only[ZU hne]at r3 s4;exact hK _ _ _ r3 s4 (ZW s)
  ·rename_i j ver l hb
   obtain⟨hlen,hk⟩:=B8 hk;have hlen:=Az hlen;obtain⟨c1,c2,hbl,hself,hq⟩:=Jj hb;rcases hq with⟨hq,_⟩|⟨j',ver',hq,rfl,hbj⟩
   ·cases hq
   simp only[Ac,AN]at hq;obtain⟨rfl,rfl⟩:=hq;refine⟨_,_,_,hk,λbl2 hb2=>?_⟩;have hbl2:bl2 i=some (.cells F.t [c1,.row j ver]):=(hb2 i (by simp)).trans hbl;have hbj2:bl2 j=some (.row F.te (.int .u8) ver l):=(hb2 j (by simp)).trans hbj;have hne:i≠j:=by rintro rfl;rw[hbl2]at hbj2;cases hbj2
   intro ok0 base pl w a hr hxs K Q hK;obtain⟨us,hus,hrun⟩:=hop bl2 ok0 base pl w a hr hxs;have hrun:=hrun hF.fn;obtain⟨u,us1,rfl,hu,u2,us2,rfl,hs2,hnil⟩:=hus;have hnil:us2=[]:=hnil;have hs2:u2=.string ⟨s.toArray⟩:=hs2;subst hnil hs2;obtain⟨g,p,v,rfl,hpi,hheap,hp,hv⟩:=Jk hr hbl2 hself hu;obtain⟨hpj,hown,hneb⟩:=T1 (F:=F) hr hbl2 rfl hpi hbj2 hv hne;have hpost:=hF.ok (by rw[hn];decide) w base g p v l hr.baseLe hheap hp hown hneb;rw[hn]at hpost;have hcall:=hpost s hlen;unfold Oper.wp;rw[hrun];simp only[Oper.upon];refine hcall.mono λe w' ⟨he,w1,w2,v',hg1,hh1,hg2,hv',hown2,hg3,hh3⟩=>?_;subst he;simp only
   have hown3:w2.ownsRow base F.te (Ty.size (.int .u8)) v' (l++Bt s).length ((l++Bt s).map (Value.int .u8)):=by rw[Av,ZV];exact hown2
   have hpj1:upd pl i (.cells g) j=some (.row v []):=by simp[upd,Ne.symm hne,hpj]
   have hbj1:upd bl2 i (.cells F.t [.bself i,.row j ver]) j=some (.row F.te (.int .u8) ver l):=by simp[upd,Ne.symm hne,hbj2]
   have s1:=Step.wrote (cs':=[.bself i,.row j ver]) hr hbl2 hpi hg1
   have r1:=RelB.wrote (cs':=[.bself i,.row j ver]) hr hbl2 hpi hg1 ⟨_,hh1,_,_,rfl,.inr ⟨g,by simp[Ae,upd],rfl⟩,_,_,rfl,⟨T2 hown,v,[],by simp[Ae,hpj1],λt e ver' l' h=>by have h:upd bl2 i (.cells F.t [.bself i,.row j ver]) j=some (.row t e ver' l'):=h;rw[hbj1]at h;injection h with h;injection h with h1 h2 h3 h4;exact⟨DQ h3,λ_=>rfl⟩⟩,rfl⟩
   have hver:ver<=ver+1/\(ver=ver+1->v'=v/\(l++Bt s).length=l.length):=⟨Nat.le_succ _,λh=>by omega⟩;have s2:=Step.grown (e:=.int .u8) (l':=l++Bt s) r1 hbj1 hpj1 hg2 hv' hver;have r2:=RelB.grown (e:=.int .u8) (l':=l++Bt s) r1 hbj1 hpj1 hg2 hv' hver ⟨rfl,_,KT.2 rfl,hown3⟩;have hi2:upd (upd bl2 i (.cells F.t [.bself i,.row j ver])) j (.row F.te (.int .u8) (ver+1) (l++Bt s)) i=some (.cells F.t [.bself i,.row j ver]):=by simp[upd,hne]
   have hp2:upd (upd pl i (.cells g)) j (.row v' []) i=some (.cells g):=by simp[upd,hne]
   have s3:=Step.wrote (cs':=[.bself i,.row j (ver+1)]) r2 hi2 hp2 hg3
   have r3:=RelB.wrote (cs':=[.bself i,.row j (ver+1)]) r2 hi2 hp2 hg3 ⟨_,hh3,_,_,rfl,.inr ⟨g,by simp[Ae,upd],rfl⟩,_,_,rfl,⟨T2 hown2,v',[],by simp[Ae,upd,Ne.symm hne],λt e ver' l' h=>by simp[Ae,upd,Ne.symm hne]at h;exact⟨by omega,λ_=>rfl⟩⟩,rfl⟩
   have s4:=(s1.trans s2).trans s3;simp only[ZU hne]at r3 s4;exact hK _ _ _ r3 s4 (ZW s)
  ·cases hk
 ·
  rename_i i hn;split at hk
  ·rename_i l0 hb
   obtain⟨c1,c2,hbl,hself,hq⟩:=Jj hb
   obtain⟨rfl,rfl⟩:l0=[]/\c2=.nils:=by
    rcases hq with⟨_,h1,h2⟩|⟨j,ver,hq,_⟩
    ·exact⟨h1,h2⟩
    ·cases hq
   refine⟨_,_,_,hk,λbl2 hb2=>?_⟩;have hbl2:bl2 i=some (.cells F.t [c1,.nils]):=(hb2 i (by simp)).trans hbl;intro ok0 base pl w a hr hxs K Q hK;obtain⟨us,hus,hrun⟩:=hop bl2 ok0 base pl w a hr hxs;have hrun:=hrun hF.fn;obtain⟨u,us1,rfl,hu,hnil⟩:=hus;have hnil:us1=[]:=hnil;subst hnil;obtain⟨g,p,v,rfl,hpi,hheap,hp,hv⟩:=Jk hr hbl2 hself hu;have hv:v=.slice none 0 0:=hv;subst hv;have hpost:=hF.ok (by rw[hn];decide) w base g p (.slice none 0 0) [] hr.baseLe hheap hp (World.ownsRow_nil _ _ _ _) (by simp[Value.ownBlock]);rw[hn]at hpost;have hcall:=hpost rfl;unfold Oper.wp;rw[hrun];simp only[Oper.upon];refine hcall.mono λe w' ⟨he,hg⟩=>?_;subst he;simp only;exact hK _ _ _ (hr.still hg) (Step.still hg) rfl
  ·rename_i j ver l hb
   obtain⟨hby,hk⟩:=B8 hk;obtain⟨c1,c2,hbl,hself,hq⟩:=Jj hb;rcases hq with⟨hq,_⟩|⟨j',ver',hq,rfl,hbj⟩
   ·cases hq
   simp only[Ac,AN]at hq;obtain⟨rfl,rfl⟩:=hq;refine⟨_,_,_,hk,λbl2 hb2=>?_⟩;have hbl2:bl2 i=some (.cells F.t [c1,.row j ver]):=(hb2 i (by simp)).trans hbl;have hbj2:bl2 j=some (.row F.te (.int .u8) ver l):=(hb2 j (by simp)).trans hbj;have hne:i≠j:=by rintro rfl;rw[hbl2]at hbj2;cases hbj2
   intro ok0 base pl w a hr hxs K Q hK;obtain⟨us,hus,hrun⟩:=hop bl2 ok0 base pl w a hr hxs;have hrun:=hrun hF.fn;obtain⟨u,us1,rfl,hu,hnil⟩:=hus;have hnil:us1=[]:=hnil;subst hnil;obtain⟨g,p,v,rfl,hpi,hheap,hp,hv⟩:=Jk hr hbl2 hself hu;obtain⟨hpj,hown,hneb⟩:=T1 (F:=F) hr hbl2 rfl hpi hbj2 hv hne;have hpost:=hF.ok (by rw[hn];decide) w base g p v l hr.baseLe hheap hp hown hneb;rw[hn]at hpost;have hcall:=hpost hby;unfold Oper.wp;rw[hrun];simp only[Oper.upon];refine hcall.mono λe w' ⟨he,hg⟩=>?_;subst he;simp only;have hkeep:KeepR (some (.row F.te (.int .u8) ver l)) (some .dead) v [] v []:=⟨λ_ _ _ _ h=>(by cases h),λ_ _ _ _ _ _ _ h=>(by cases h),λ_ _ _ _ _ _ h=>(by cases h)⟩;have hs:=Step.grownP (B':=.dead) hr hbj2 rfl hpj hg (λg h=>.inl h) (λg h=>.inl h) hkeep;exact hK _ _ _ (RelB.grownP (B':=.dead) hr hbj2 rfl hpj hg (λg h=>.inl h) (λg h=>.inl h) hkeep trivial) hs rfl
  ·cases hk
 ·
  rename_i i hn;split at hk
  ·rename_i l0 hb
   obtain⟨c1,c2,hbl,hself,hq⟩:=Jj hb
   obtain⟨rfl,rfl⟩:l0=[]/\c2=.nils:=by
    rcases hq with⟨_,h1,h2⟩|⟨j,ver,hq,_⟩
    ·exact⟨h1,h2⟩
    ·cases hq
   refine⟨_,_,_,hk,λbl2 hb2=>?_⟩;have hbl2:bl2 i=some (.cells F.t [c1,.nils]):=(hb2 i (by simp)).trans hbl;intro ok0 base pl w a hr hxs K Q hK;obtain⟨us,hus,hrun⟩:=hop bl2 ok0 base pl w a hr hxs;have hrun:=hrun hF.fn;obtain⟨u,us1,rfl,hu,hnil⟩:=hus;have hnil:us1=[]:=hnil;subst hnil;obtain⟨g,p,v,rfl,hpi,hheap,hp,hv⟩:=Jk hr hbl2 hself hu;have hv:v=.slice none 0 0:=hv;subst hv;have hpost:=hF.ok (by rw[hn];decide) w base g p (.slice none 0 0) [] hr.baseLe hheap hp (World.ownsRow_nil _ _ _ _) (by simp[Value.ownBlock]);rw[hn]at hpost;have hcall:=hpost;unfold Oper.wp;rw[hrun];simp only[Oper.upon];refine hcall.mono λe w' ⟨he,hg⟩=>?_;subst he;simp only;exact hK _ _ _ (hr.still hg) (Step.still hg) rfl
  ·rename_i j ver l hb
   obtain⟨c1,c2,hbl,hself,hq⟩:=Jj hb;rcases hq with⟨hq,_⟩|⟨j',ver',hq,rfl,hbj⟩
   ·cases hq
   simp only[Ac,AN]at hq;obtain⟨rfl,rfl⟩:=hq;refine⟨_,_,_,hk,λbl2 hb2=>?_⟩;have hbl2:bl2 i=some (.cells F.t [c1,.row j ver]):=(hb2 i (by simp)).trans hbl;have hbj2:bl2 j=some (.row F.te (.int .u8) ver l):=(hb2 j (by simp)).trans hbj;have hne:i≠j:=by rintro rfl;rw[hbl2]at hbj2;cases hbj2
   intro ok0 base pl w a hr hxs K Q hK;obtain⟨us,hus,hrun⟩:=hop bl2 ok0 base pl w a hr hxs;have hrun:=hrun hF.fn;obtain⟨u,us1,rfl,hu,hnil⟩:=hus;have hnil:us1=[]:=hnil;subst hnil;obtain⟨g,p,v,rfl,hpi,hheap,hp,hv⟩:=Jk hr hbl2 hself hu;obtain⟨hpj,hown,hneb⟩:=T1 (F:=F) hr hbl2 rfl hpi hbj2 hv hne;have hpost:=hF.ok (by rw[hn];decide) w base g p v l hr.baseLe hheap hp hown hneb;rw[hn]at hpost;have hcall:=hpost;unfold Oper.wp;rw[hrun];simp only[Oper.upon];refine hcall.mono λe w' ⟨he,hg⟩=>?_;subst he;simp only;exact hK _ _ _ (hr.still hg) (Step.still hg) rfl
  ·cases hk
 ·
  rename_i s hn;refine⟨_,_,_,hk,λbl2 hb2=>?_⟩;intro ok0 base pl w a hr hxs K Q hK;obtain⟨us,hus,hrun⟩:=hop bl2 ok0 base pl w a hr hxs;have hrun:=hrun hF.fn;obtain⟨u,us1,rfl,hu,u2,us2,rfl,hs2,hnil⟩:=hus;have hnil:us2=[]:=hnil;have hs2:u2=.string ⟨s.toArray⟩:=hs2;have hu:u=.slice none 0 0:=hu;subst hnil hs2 hu;have hcall:=hF.join hn w base (.slice none 0 0) [] s (World.ownsRow_nil _ _ _ _) (by simp) (by rw[Lib.join_nil];simp);unfold Oper.wp;rw[hrun];simp only[Oper.upon];refine hcall.mono λe w' ⟨he,hg⟩=>?_;subst he;simp only;exact hK _ _ _ (hr.still hg) (Step.still hg) rfl
 ·
  rename_i j ver s hn;split at hk
  ·rename_i t ver' l hbj
   cases hc:(Nat.beq t F.t&&Nat.beq ver ver')with
   |false=>rw[hc]at hk;cases hk
   |true=>simp only[hc,Af]at hk;obtain⟨h1,h2⟩:=andB hc;have h1:=Ag h1;have h2:=Ag h2;subst h1 h2;obtain⟨hlen,hk⟩:=B8 hk;obtain⟨d1,d2⟩:=andB hlen;have d1:=Az d1;have d2:=Az d2;refine⟨_,_,_,hk,λbl2 hb2=>?_⟩;have hbj2:bl2 j=some (.row F.t .str ver l):=(hb2 j (by simp)).trans hbj;intro ok0 base pl w a hr hxs K Q hK;obtain⟨us,hus,hrun⟩:=hop bl2 ok0 base pl w a hr hxs;have hrun:=hrun hF.fn;obtain⟨u,us1,rfl,hu,u2,us2,rfl,hs2,hnil⟩:=hus;have hnil:us2=[]:=hnil;have hs2:u2=.string ⟨s.toArray⟩:=hs2;subst hnil hs2;obtain⟨_,sv,svs,hsv,hcur⟩:=hu;have hv:=(hcur F.t .str ver l hbj2).2 rfl;subst hv;have hsv:pl j=some (.row u svs):=hsv;obtain⟨q,hq,hB⟩:=hr.blks j _ hbj2;rw[hsv]at hq;injection hq with hq;subst hq;obtain⟨rfl,xs,hd,hown⟩:=hB;rw[T0.1 hd]at hown;have hcall:=hF.join hn w base u l s hown d1 d2;unfold Oper.wp;rw[hrun];simp only[Oper.upon];refine hcall.mono λe w' ⟨he,hg⟩=>?_;subst he;simp only;exact hK _ _ _ (hr.still hg) (Step.still hg) rfl
  ·cases hk
 ·cases hk
theorem KU{bl:Nat->Option Blk}{i:Nat}{B:Blk}(h:F8 bl i=some B):bl i=some B:=by
 unfold F8 at h;split at h
 ·cases h
 ·exact h
theorem wM{bl:Nat->Option Blk}{i:Nat}{t et:TypeId}{e:Ty}{ver iver:Nat}{hole:Option Nat}{l:List (List e.den)}:F8 bl i≠some (.mat t et e ver iver hole l):=by intro h;have h2:=KU h;unfold F8 at h;rw[h2]at h;cases h
theorem ZX{bl:Nat->Option Blk}:∀{is:List Nat},ED (F8 bl) is=ED bl is
 |[]=>rfl
 |i::is=>by
  simp only[ED,ZX (is:=is)];unfold F8;cases h:bl i with
  |none=>rfl
  |some B=>cases B<;>rfl
theorem ZY{S:Spec}{ids:List Nat}:∀{as:List Nat},KC S ids as=true->(∀b∈as,(ST.flat S.res&&BT.flat S.outs)=true)/\∀b∈as,b∉ids
 |[],_=>⟨λ_ h=>by simp at h,λ_ h=>by simp at h⟩
 |b::r,h=>by
  obtain⟨h1,h2⟩:=andB (show((ST.flat S.res&&BT.flat S.outs)&&(!memB b ids&&KC S ids r))=true from h);obtain⟨h2,h3⟩:=andB h2;obtain⟨q1,q2⟩:=ZY h3
  have h2':b∉ids:=λhm=>by rw[DA.2 hm]at h2;cases h2
  refine⟨λc hc=>?_,λc hc=>?_⟩
  ·rcases AH.1 hc with rfl|hc
   ·exact h1
   ·exact q1 c hc
  ·rcases AH.1 hc with rfl|hc
   ·exact h2'
   ·exact q2 c hc
theorem CReps.cut2{E:Env}:∀{n:Nat}{cs:List C}{vs:List Value},CReps E cs vs->CReps E (cs.take n) (vs.take n)/\CReps E (cs.drop n) (vs.drop n)
 |0,_,_,h=>⟨by simp[CReps],by simpa using h⟩
 |_+1,[],_,h=>by simp only[CReps]at h;subst h;simp[CReps]
 |n+1,_::_,_,⟨v,vs',e,h,ht⟩=>by subst e;obtain⟨h1,h2⟩:=CReps.cut2 (n:=n) ht;exact⟨⟨v,_,by simp,h,h1⟩,by simpa using h2⟩
theorem CReps.app{E:Env}:∀{cs ds:List C}{vs us:List Value},CReps E cs vs->CReps E ds us->CReps E (cs++ds) (vs++us)
 |[],_,_,_,h,k=>by simp only[CReps]at h;subst h;simpa using k
 |_::_,_,_,_,⟨v,vs',e,h,ht⟩,k=>⟨v,vs'++_,by rw[e];rfl,h,CReps.app ht k⟩
theorem T3{E:Env}:∀(l:List CT){cs:List C}{vs:List Value},CReps E cs vs->CReps E (Ha l cs) vs
 |[],_,_,h=>by simpa [Ha]using h
 |t::l,cs,vs,h=>by
  have key:(∃τ,t=.data τ)\/(∀τ,t≠.data τ):=by cases t<;>simp
  rcases key with⟨τ,rfl⟩|hn
  ·simp only[Ha]
   obtain⟨h1,h2⟩:=CReps.cut2 (n:=τ.size) h;have:=CReps.app h1 (T3 l h2)
   rwa [H4]at this
  ·cases cs with
   |nil=>cases t<;>first|exact absurd rfl (hn _)|simpa [Ha]using h
   |cons c cs=>
    obtain⟨v,vs',e,h1,h2⟩:=h;have ih:=T3 l h2;cases t with
    |data τ=>exact absurd rfl (hn τ)
    |junk=>exact⟨v,vs',e,CRep.oneCell h1,ih⟩
    |_=>exact⟨v,vs',e,h1,ih⟩
theorem ZZ{E:Env}:∀{ts:List (Bool×List CT)}{vs:List V}{us:List Value},VReps E vs us->VReps E (KD ts vs) us
 |[],_,_,h=>by simpa [KD]using h
 |_::_,[],_,h=>by simpa [KD]using h
 |t::ts,v::vs,_,⟨u,us',e,h1,h2⟩=>by
  refine⟨u,us',e,?_,ZZ h2⟩;cases v with
  |agg cs=>obtain⟨ws,h3,h4⟩:=h1;exact⟨ws,T3 _ h3,h4⟩
  |_=>exact h1
theorem wN{ok0:OK0 P}{base:Nat}{pl:Nat->Option Pl}{bl bl2:Nat->Option Blk}{w:World}(hr:RelB ok0 base pl bl2 w){S:Spec}{args args':List V}{as:List Nat}{us:List Value}(has2:∀i∈as,bl2 i=bl i)(has:Gg args=as)(hargs':IX S bl args=args')(hus:VReps (Ae ok0 base pl bl2 w) args us):∃E:Env,E.w=w/\E.bl=bl2/\E.pl=pl/\(∀g,E.ok g->((ok0 g\/(base<=g/\¬ok0.no g))/\¬Own pl bl2 g)\/∃b∈as,∃t cs,bl2 b=some (.cells t cs)/\pl b=some (.cells g))/\BX E/\VReps E args' us:=by
 let E0:=Ae ok0 base pl bl2 w
 let E:Env:={E0 with ok:=λg=>E0.ok g\/∃b∈as,∃t cs,bl2 b=some (.cells t cs)/\pl b=some (.cells g)}
 have hx:Ext E0 E:=⟨Ao _,λg h _=>⟨.inl h,rfl⟩,λ_ _ h=>h,λ_ sv svs h=>⟨sv,svs,h,KeepR.refl _ _ _⟩⟩;refine⟨E,rfl,rfl,rfl,λg h=>h,λi B hB=>?_,?_⟩
 ·obtain⟨p,hp,hB2⟩:=hr.blks i B hB
  exact⟨p,hp,BRep.mono hx hB2 λ_ _=>rfl⟩
 ·subst hargs'
  refine ZZ ?_;have hmem:∀b∈Gg args,b∈as:=λb hb=>by rw[<-has];exact hb
  clear has
  induction args generalizing us with
  |nil=>exact hus
  |cons v vs ih=>
   obtain⟨u,us',e,hv,ht⟩:=hus;refine⟨u,us',e,?_,ih ht λb hb=>hmem b (by cases v<;>simp[Gg,hb])⟩;by_cases hl:∃b o e n,v=.arr b o e n
   ·obtain⟨b,o,ty,n,rfl⟩:=hl
    have hb:b∈as:=hmem b (by simp[Gg]);obtain⟨g,hg,hv⟩:=hv;show VRep E (IW bl (.arr b o ty n)) u;simp only[IW]
    ·split
     ·rename_i t cs hbl
      split
      ·rename_i ds hds
       split
       ·rename_i l hl
        cases hc:(Nat.ble n 4096&&Nat.blt 0 ty.size)with
        |false=>exact trivial
        |true=>
         obtain⟨hn,_⟩:=andB hc;have hn:n<=4096:=D6 hn;have hb2:bl2 b=some (.cells t cs):=(has2 b hb).trans hbl;obtain⟨p,hp,hB⟩:=hr.blks b _ hb2
         have hpg:p=.cells g:=by have h2:pl b=some (.cells g):=hg;rw[hp]at h2;injection h2
         subst hpg;obtain⟨vals,hh,hcs⟩:=hB;obtain⟨s1,_,_⟩:=HN hcs hds;obtain⟨hd,hlen⟩:=Oh hr.blksOk (Rows.none _ _) s1 hl;show DRep w E.ok (.slice ty) l [u];simp only[DRep];refine⟨some ⟨g,o,none⟩,n,_,by rw[hv,hlen],by omega,BH hn (by decide),hd.mono λx us hu=>hu.mono λg h _=>⟨.inl h,rfl⟩,λj v hj=>⟨_,rfl,.inr ⟨b,hb,t,cs,hb2,hp⟩,On hh hj⟩⟩
       ·exact trivial
      ·exact trivial
     ·exact trivial
   ·have:IW bl v=v:=by
     unfold IW;split
     ·rename_i b o e n
      exact absurd ⟨b,o,e,n,rfl⟩ hl
     ·rfl
    show VRep E (IW bl v) u;rw[this];exact VRep.mono hx hv
theorem a8{X:Ctx}(hΓ:ΓOk P X.Γ){kk:K β}{nx:Nat}{f:FuncId}{args:List V}(hk:KE X bl nx f args kk=some r)(hop:∀(bl2:Nat->Option Blk)(ok0:OK0 P)(base:Nat)(pl:Nat->Option Pl)(w:World)(a:Act),RelB ok0 base pl bl2 w->(∀x∈o.op.operands,VRep (Ae ok0 base pl bl2 w) (ρ x) (a.eval x))->∃us,VReps (Ae ok0 base pl bl2 w) args us/\((∃fn,P.funcs[f]?=some fn/\(fn.name== "runtime.NumGoroutine")=false/\fn.body.isNone=false)->(execOp a.eval o).run P w=.ok (.enter f us.toArray) w)):Sound P o ρ bl kk r:=by
 unfold KE at hk;split at hk
 ·cases hk
 ·rename_i F hF
  exact wK (hΓ.rows f F hF) hk hop
 ·rename_i F hF
  exact wL (hΓ.bld f F hF) hk hop
 ·rename_i A hA
  obtain⟨v,rd,wr,hk,hok⟩:=(hΓ.abs f A hA).ok _ _ _ _ _ hk;refine⟨v,rd,wr,hk,λbl2 hb2 ok0 base pl w a hr hxs K Q hK=>?_⟩;obtain⟨us,hus,hrun⟩:=hop bl2 ok0 base pl w a hr hxs;unfold Oper.wp;rw[hrun (hΓ.abs f A hA).fn];simp only[Oper.upon];refine(hok bl2 hb2 ok0 base pl w us hr hus).mono λe w' hpost=>?_;obtain⟨u,pl',rfl,h1,h2,h3⟩:=hpost;exact hK u pl' w' h1 h2 h3
 rename_i S hS;have hspec:=hΓ.spec f S hS;split at hk
 ·cases hk
 rename_i ids hids;have hlen:=ZT hids;split at hk
 ·rename_i x y hx hy
  generalize hargs':IX S bl args=args' at hk hx hids;generalize has:Gg args=as at hk;generalize hrds:Bl args'++ED bl ids=rds at hk;generalize hnew:Ax nx (S.outs.length-S.ins.length)=new at hk;generalize hkills:IV S bl rds=kills at hk;cases hc:(SE S bl ids new&&KC S ids as)with
  |false=>rw[hc]at hk;cases hk
  |true=>
   simp only[hc,Af]at hk;obtain⟨hc,hlend⟩:=andB hc;unfold SE at hc;have hlend:=ZY hlend;obtain⟨c1,hc⟩:=andB hc;obtain⟨c3,hc⟩:=andB hc;obtain⟨c4,hc⟩:=andB hc;obtain⟨c5,c6⟩:=andB hc;have c1:=Ji c1;have c4:=D6 c4;have c3:=Tr c3;obtain⟨z,hz,hcall⟩:=hspec.ok (x,y) _ r hk;refine⟨_,_,_,hz,λbl2 hb2=>?_⟩;have hids2:∀i∈ids,bl2 i=bl i:=λi hi=>hb2 i (by simp[hi]);have hrds2:∀i∈rds,bl2 i=bl i:=λi hi=>hb2 i (by simp[hi]);have has2:∀i∈as,bl2 i=bl i:=λi hi=>hb2 i (by simp[hi]);have hnew2:∀i∈new,bl2 i=none:=λi hi=>(hb2 i (by simp[hi])).trans (c3 i hi);intro ok0 base pl w a hr hxs K Q hK
   have hkl:∀p∈kills,p.2=Blk.dead/\p.1∈rds/\∃B,bl2 p.1=some B/\B.lend=true:=λp hp=>by rw[<-hkills]at hp;obtain⟨h1,h2,B,h3,h4⟩:=wH hp;exact⟨h1,h2,B,by rw[hrds2 _ h2];exact h3,h4⟩
   rw[Hd]at hK
   let blk:Nat->Option Blk:=updL bl2 kills
   have hblk:∀i,blk i=bl2 i\/(blk i=some .dead/\i∈rds/\∃B,bl2 i=some B/\B.lend=true):=λi=>by
    rcases KS (l:=kills) (f:=bl2) i (λp hp=>(hkl p hp).1)with⟨h1,_⟩|⟨h1,p,hp,h2⟩
    ·exact .inl h1
    ·have:=hkl p hp
     rw[h2]at this;exact .inr ⟨h1,this.2⟩
   have hblkL:∀i B,blk i=some B->B.live=true->bl2 i=some B:=λi B hB hl=>by
    rcases hblk i with h|⟨h,_⟩
    ·rw[<-h];exact hB
    ·rw[h]at hB
     injection hB with hB;subst hB;cases hl
   obtain⟨us,hus,hrun⟩:=hop bl2 ok0 base pl w a hr hxs;have hrun:=hrun hspec.fn;obtain⟨E,hEw,hEbl,hEpl,hEok,hblks,hus⟩:=wN hr has2 has hargs' hus
   have hcells:∀i∈ids,∃t cs,bl2 i=some (.cells t cs):=λi hi=>by obtain⟨t,cs,h⟩:=Tw hy i hi;exact⟨t,cs,by rw[hids2 i hi];exact KU h⟩
   let ok0c:OK0 P:=⟨λg=>E.ok g\/∃b∈rds,∃B p,bl2 b=some B/\B.lend=true/\pl b=some p/\p.has g,λ_=>False⟩
   let plc:Nat->Option Pl:=λb=>(ids[b]?).bind pl
   let blc:Nat->Option Blk:=fnBl (mkB (Ax 0 S.ins.length) S.ins y)
   let Ec:Env:=Ae ok0c w.heap.size plc blc w
   have hownc:∀g,Own plc blc g->∃i∈ids,pl i=some (.cells g):=by
    rintro g ⟨j,B,p,hB,hl,hp,hg⟩;cases hj:ids[j]? with
    |none=>simp[plc,hj]at hp
    |some i=>
     have hp':pl i=some p:=by simpa [plc,hj]using hp
     have hi:=B6 hj;obtain⟨t,cs,hbl⟩:=hcells i hi;obtain⟨q,hq,hR⟩:=hr.blks i _ hbl;rw[hp']at hq;injection hq with hq;subst hq;cases p with
     |row _ _=>exact hR.elim
     |cells g'=>have hg:g'=g:=hg;subst hg;exact⟨i,hi,hp'⟩
   have hownc2:∀g,Own plc blc g->Own pl bl2 g:=λg h=>by obtain⟨i,hi,hp⟩:=hownc g h;obtain⟨t,cs,hbl⟩:=hcells i hi;exact⟨i,_,_,hbl,rfl,hp,rfl⟩
   have hokc:∀g,E.ok g->Ec.ok g:=λg h=>⟨.inl (.inl h),λho=>by
    rcases hEok g h with h|⟨b,hb,t,cs,hbl,hp⟩
    ·exact h.2 (hownc2 g ho)
    ·obtain⟨i,hi,hpi⟩:=hownc g ho
     obtain⟨t',cs',hbli⟩:=hcells i hi;have hne:i≠b:=by rintro rfl;exact(hlend.2 i hb) hi
     exact hr.sep i b _ _ _ _ g hne hbli hbl rfl rfl hpi hp rfl rfl⟩
   have hlnd:∀b∈rds,∀B p,bl2 b=some B->B.lend=true->pl b=some p->∀g,p.has g->Ec.ok g:=λb hb B p hbl2 hl hp g hg=>by
    refine⟨.inl (.inr ⟨b,hb,B,p,hbl2,hl,hp,hg⟩),λho=>?_⟩;obtain⟨i,hi,hpi⟩:=hownc g ho;obtain⟨t',cs,hbli⟩:=hcells i hi;have hne:i≠b:=by rintro rfl;rw[hbl2]at hbli;injection hbli with hbli;subst hbli;cases hl
    exact hr.sep i b _ _ _ _ g hne hbli hbl2 rfl (Blk.lend_live hl) hpi hp rfl hg
   have hrows:∀ids0:List Nat,(∀b∈ids0,b∈rds)->Rows E (F8 bl) Ec.ok ids0:=λids0 h0=>⟨hokc,λb hb t e ver l hbl=>by
    have hbl2:bl2 b=some (.row t e ver l):=by rw[hrds2 b (h0 b hb)];exact KU hbl
    refine⟨by rw[hEbl];exact hbl2,λsv g hsv hg=>?_⟩;rw[hEpl]at hsv;exact hlnd b (h0 b hb) _ _ hbl2 rfl hsv g (.inl hg),λb hb t et e ver iver hole l hbl=>absurd hbl wM,λb hb t e ver iver hole l hbl=>by
    have hbl2:bl2 b=some (.tree t e ver iver hole l):=by rw[hrds2 b (h0 b hb)];exact KU hbl
    refine⟨by rw[hEbl];exact hbl2,λsv svs g hsv hg=>?_⟩;rw[hEpl]at hsv;exact hlnd b (h0 b hb) _ _ hbl2 rfl hsv g hg⟩
   have hren:Ren E Ec ids (Ax 0 S.ins.length):=by
    have key:∀b i,ids[b]?=some i->Ec.pl ((Ax 0 S.ins.length).getD b 0)=pl i:=by
     intro b i hi;have hlt:b<S.ins.length:=by rw[<-hlen];exact(BI.1 hi).1
     rw[HY hlt];simp[Ec,Ae,plc,hi]
    refine⟨λb i g hi h=>?_,λb i sv svs t e ver l hi _ h=>?_,λb i sv svs t et e ver iver hole l hi _ h=>?_,λb i sv svs t e ver iver l hi _ h=>?_,λb i t e ver iver l t' e' ver' iver' h' l' hi hbl _=>?_,λb i hi h=>?_⟩
    ·rw[key b i hi,<-hEpl];exact h
    ·rw[key b i hi,<-hEpl];exact h
    ·rw[key b i hi,<-hEpl];exact h
    ·rw[key b i hi,<-hEpl];exact h
    ·obtain⟨t,cs,hbl2⟩:=hcells i (B6 hi)
     rw[hEbl,hbl2]at hbl;cases hbl
    ·obtain⟨t,cs,hbl⟩:=hcells i (B6 hi)
     rw[hEbl,hbl]at h;cases h
   have hagree:∀i∈ids,F8 bl i=E.bl i:=λi hi=>by obtain⟨t,cs,h⟩:=Tw hy i hi;rw[hEbl,hids2 i hi,h,KU h]
   have hargs:=Tu hblks (show Ec.w=E.w from hEw.symm) hren hagree (hrows _ λb hb=>by rw[<-hrds];exact BG _ hb) hus hx;obtain⟨hlB,hinB⟩:=ZQ hblks (show Ec.w=E.w from hEw.symm) hren hagree (hrows _ λb hb=>by rw[<-hrds];exact BM _ (by rw[ZX]at hb;exact hb)) (λi hi=>hi) hy
   have hrelc:RelB ok0c w.heap.size plc blc w:=by
    refine⟨Ao _,λi B hB=>?_,λi j B C p q g hij hB hC hlB' hlC hp hq hpg=>?_,λi hi=>?_,⟨hr.glob.g0.gen (Ao _) (λg _ h1 _=>⟨rfl,λq=>h1 (hownc2 g q)⟩) λ_ h=>h.elim,λ_ h=>h.elim⟩⟩
    ·have hlt:i<ids.length:=by have:=(BI.1 (show(mkB (Ax 0 S.ins.length) S.ins y)[i]?=some B from hB)).1;rw[CU]at this;omega
     obtain⟨g,B',h1,h2,h3,_⟩:=hinB i ids[i] (Bx hlt)
     have hBB:B=B':=by have h4:(mkB (Ax 0 S.ins.length) S.ins y)[i]?=some B:=hB;rw[h2]at h4;injection h4 with h4;exact h4.symm
     rw[hEpl]at h1;exact⟨.cells g,by simp[plc,Bx hlt,h1],by rw[hBB];exact h3⟩
    ·cases hi:ids[i]? with
     |none=>simp[plc,hi]at hp
     |some i'=>
      cases hj:ids[j]? with
      |none=>simp[plc,hj]at hq
      |some j'=>
       have hp':pl i'=some p:=by simpa [plc,hi]using hp
       have hq':pl j'=some q:=by simpa [plc,hj]using hq
       have hne:i'≠j':=by rintro rfl;have h1:=Ff c1 hi;have h2:=Ff c1 hj;rw[h1]at h2;injection h2 with h2;exact hij h2
       obtain⟨t1,cs1,hb1⟩:=hcells i' (B6 hi);obtain⟨t2,cs2,hb2'⟩:=hcells j' (B6 hj);exact hr.sep i' j' _ _ p q g hne hb1 hb2' rfl rfl hp' hq' hpg
    ·have hge:ids.length<=i:=by have h1:(mkB (Ax 0 S.ins.length) S.ins y)[i]?=none:=hi;rw[IF,CU]at h1;omega
     simp[plc,Km hge]
   unfold Oper.wp;rw[hrun];simp only[Oper.upon];refine(hcall ok0c plc w us hrelc hargs).mono λe w' hpost=>?_;obtain⟨vals,pl',rfl,hR,hS,hT⟩:=hpost;simp only;generalize hids':ids++new=ids' at*
   have hlen':ids'.length=S.outs.length:=by rw[<-hids',Av,<-hnew,To,hlen];omega
   have hnod':ids'.Nodup:=by rw[<-hids'];refine Sm.2 ⟨c1,by rw[<-hnew];exact Tq,λx hx y hy hxy=>?_⟩;subst hxy;obtain⟨t,cs,h⟩:=hcells x hx;rw[hnew2 x hy]at h;cases h
   let blo:Nat->Option Blk:=fnBl (mkB (Ax 0 S.outs.length) S.outs z.2)
   let Eo:Env:=Ae ok0c w.heap.size pl' blo w'
   let pl2:Nat->Option Pl:=λi=>match place ids' i with|some b=>pl' b|none=>pl i
   have hbl':∀i,updL (updL bl2 kills) (ids'.zip (mkB ids' S.outs z.2)) i=match place ids' i with|some b=>(mkB ids' S.outs z.2)[b]?|none=>blk i:=
    λi=>ZS i hnod' (by rw[CU];exact hlen')
   generalize hbl2':updL (updL bl2 kills) (ids'.zip (mkB ids' S.outs z.2))=bl3 at*;have hpl2n:∀i,place ids' i=none->pl2 i=pl i:=λi h=>by simp only[pl2,h]
   have hpl2s:∀i b,place ids' i=some b->pl2 i=pl' b:=λi b h=>by simp only[pl2,h]
   have hbl3n:∀i,place ids' i=none->bl3 i=blk i:=λi h=>by rw[hbl',h]
   have hbl3s:∀i b,place ids' i=some b->bl3 i=(mkB ids' S.outs z.2)[b]?:=λi b h=>by rw[hbl',h]
   have hplb:∀i b,place ids' i=some b->b<S.outs.length:=λi b h=>by rw[<-hlen'];exact(BI.1 (Dr h)).1
   have hblo:∀b,b<S.outs.length->∃B,blo b=some B/\B.live=true:=λb hb=>by
    have hb':b<(mkB (Ax 0 S.outs.length) S.outs z.2).length:=by rw[CU];exact hb
    exact⟨_,Bx hb',Hh (Bx hb')⟩
   have hown2:∀g,Own pl2 bl3 g->(Own pl bl2 g/\∃i B p,place ids' i=none/\bl2 i=some B/\B.live=true/\pl i=some p/\p.has g)\/Own pl' blo g:=by
    rintro g ⟨i,B,p,hB,hl,hp,hg⟩;cases hpi:place ids' i with
    |none=>rw[hbl3n i hpi]at hB;rw[hpl2n i hpi]at hp;have hB:=hblkL i B hB hl;exact .inl ⟨⟨i,B,p,hB,hl,hp,hg⟩,i,B,p,hpi,hB,hl,hp,hg⟩
    |some b=>rw[hpl2s i b hpi]at hp;obtain⟨B',hB',hl'⟩:=hblo b (hplb i b hpi);exact .inr ⟨b,B',p,hB',hl',hp,hg⟩
   have hkept:∀i B p g,place ids' i=none->bl2 i=some B->B.live=true->pl i=some p->p.has g->w'.heap[g]?=w.heap[g]?/\¬Own pl' blo g:=by
    intro i B p g hpi hB hl hp hg;have hlt:g<w.heap.size:=Own.lt hr ⟨i,B,p,hB,hl,hp,hg⟩;refine hS.out g hlt λho=>?_;obtain⟨j,hj,hpj⟩:=hownc g ho;obtain⟨t,cs,hbj⟩:=hcells j hj
    have hne:i≠j:=by rintro rfl;obtain⟨b,hb⟩:=N6 (show i∈ids' by rw[<-hids'];exact BG _ hj);rw[Ff hnod' hb]at hpi;cases hpi
    exact hr.sep i j _ _ _ _ g hne hB hbj hl rfl hp hpj hg rfl
   have hstep:Step pl bl2 w pl2 bl3 w':=by
    refine⟨hS.os,hS.tape,hS.output,hS.size,λg hlt ho=>?_,λb g hb=>?_,λb sv svs hb=>?_⟩
    ·obtain⟨h1,h2⟩:=hS.out g hlt λh=>ho (hownc2 g h)
     refine⟨h1,λh=>?_⟩;rcases hown2 g h with h|h
     ·exact ho h.1
     ·exact h2 h
    ·cases hpi:place ids' b with
     |none=>rw[hpl2n b hpi];exact hb
     |some j=>
      rw[hpl2s b j hpi];have hj:=Dr hpi;rw[<-hids']at hj;by_cases hjl:j<ids.length
      ·rw[Db hjl]at hj
       exact hS.cells j g (by omega) (by simp only[plc,hj,NF];exact hb)
      ·rw[Cu (by omega)]at hj
       have:=hr.fresh b (hnew2 b (B6 hj));rw[this]at hb;cases hb
    ·have hpi:place ids' b=none:=by
      cases hpi:place ids' b with
      |none=>rfl
      |some j=>
       have hj:=B6 (Dr hpi);rw[<-hids']at hj;rcases Ba.1 hj with hj|hj
       ·obtain⟨t,cs,h⟩:=hcells b hj
        obtain⟨q,hq,hR⟩:=hr.blks b _ h;rw[hb]at hq;injection hq with hq;subst hq;exact hR.elim
       ·have:=hr.fresh b (hnew2 b hj)
        rw[this]at hb;cases hb
     exact⟨sv,svs,by rw[hpl2n b hpi];exact hb,KeepR.of_live (λC h hC=>by rw[hbl3n b hpi]at h;exact hblkL b _ h (by cases C<;>first|rfl|exact absurd rfl hC)) _ _⟩
   have hdat:∀(τ:Ty)(x:τ.den)(us:List Value),((ST.flat S.res&&BT.flat S.outs)=false\/τ.flat=true)->DRep Eo.w Eo.ok τ x us->DRep (Ae ok0 base pl2 bl3 w').w (Ae ok0 base pl2 bl3 w').ok τ x us:=by
    intro τ x us hor hd;rcases hor with hemp|hflat
    ·refine hd.mono λg hg _=>⟨?_,rfl⟩
     obtain⟨h1,h2⟩:=hg;rcases h1 with(h1|⟨b,hb,B0,p0,hbl2b,hlend0,hplb',hsvg⟩)|h1
     ·have h1:(ok0 g\/(base<=g/\¬ok0.no g))/\¬Own pl bl2 g:=by
       rcases hEok g h1 with h1|⟨b,hb,_⟩
       ·exact h1
       ·rw[(hlend.1 b hb)]at hemp
        cases hemp
      refine⟨h1.1,λho=>?_⟩;rcases hown2 g ho with h|h
      ·exact h1.2 h.1
      ·exact h2 h
     ·
      refine⟨.inr ?_,λho=>?_⟩
      ·exact Tz hr hbl2b hlend0 hplb' hsvg
      ·rcases hown2 g ho with⟨_,i,B,p,hpi,hBi,hl,hpi',hpg⟩|h
       ·by_cases hib:i=b
        ·subst hib
         have hmem:(i,Blk.dead)∈kills:=by rw[<-hkills];exact wI hemp hb (by rw[<-hrds2 i hb];exact hbl2b) hlend0
         obtain⟨j,B',p',hB',hl',hp',hg'⟩:=ho;cases hpj:place ids' j with
         |none=>
          rw[hbl3n j hpj]at hB';rw[hpl2n j hpj]at hp';have hB2:=hblkL j B' hB' hl';by_cases hji:j=i
          ·subst hji
           rcases KS (l:=kills) (f:=bl2) j (λp hp=>(hkl p hp).1)with⟨_,h5⟩|⟨h5,_⟩
           ·exact h5 _ hmem rfl
           ·rw[show blk j=some .dead from h5]at hB'
            injection hB' with hB';subst hB';cases hl'
          ·exact hr.sep j i B' _ p' p0 g hji hB2 hbl2b hl' (Blk.lend_live hlend0) hp' hplb' hg' hsvg
         |some q=>rw[hpl2s j q hpj]at hp';obtain⟨Bq,hBq,hlq⟩:=hblo q (hplb j q hpj);exact h2 ⟨q,Bq,p',hBq,hlq,hp',hg'⟩
        ·exact hr.sep i b B _ p p0 g hib hBi hbl2b hl (Blk.lend_live hlend0) hpi' hplb' hpg hsvg
       ·exact h2 h
     ·have h1:=h1.1
      refine⟨.inr ⟨BH hr.baseLe h1,λhn=>by have:=(hr.glob.no g hn).1;omega⟩,λho=>?_⟩;rcases hown2 g ho with h|h
      ·have:=Own.lt hr h.1;omega
      ·exact h2 h
    ·exact hd.flat hflat
   have hren2:Ren2 S.outs.length Eo (Ae ok0 base pl2 bl3 w') (Ax 0 S.outs.length) ids':=by
    have key:∀b,b<S.outs.length->pl2 (ids'.getD b 0)=pl' b/\bl3 (ids'.getD b 0)=(mkB ids' S.outs z.2)[b]?:=by
     intro b hb;have hb':b<ids'.length:=by omega
     have hget:ids'[b]?=some ids'[b]:=Bx hb';have hgd:ids'.getD b 0=ids'[b]:=by simp[List.getD,hget]
     have hpb:=Ff hnod' hget;rw[hgd];exact⟨hpl2s _ b hpb,hbl3s _ b hpb⟩
    refine⟨λb g hb h=>?_,λb sv svs hb h=>?_⟩
    ·rw[HY hb]at h
     show pl2 _=_;rw[(key b hb).1];exact h
    ·rw[HY hb]at h⊢
     refine⟨?_,λt e ver l h2=>?_,λt et e ver iver hole l h2=>?_,λt e ver iver hole l h2=>?_⟩
     ·show pl2 _=_
      rw[(key b hb).1];exact h
     ·have h3:bl3 (ids'.getD b 0)=some (.row t e ver l):=h2
      rw[(key b hb).2]at h3;exact Hf h3
     ·have h3:bl3 (ids'.getD b 0)=some (.mat t et e ver iver hole l):=h2
      rw[(key b hb).2]at h3;exact Hg h3
     ·have h3:bl3 (ids'.getD b 0)=some (.tree t e ver iver hole l):=h2
      rw[(key b hb).2]at h3;exact Tx h3
   have hfl:(ST.flat S.res&&BT.flat S.outs)=false\/(ST.flat S.res=true/\BT.flat S.outs=true):=by
    cases hf:(ST.flat S.res&&BT.flat S.outs)with
    |false=>exact .inl rfl
    |true=>exact .inr (andB hf)
   refine hK (DB vals) pl2 w' ?_ hstep ?_
   ·refine⟨BH hr.baseLe hS.size,λi B hB=>?_,λi j B C p q g hij hB hC hlB' hlC hp hq hpg=>?_,λi hi=>?_,hr.glob.out hstep.size hstep.out⟩
    ·cases hpi:place ids' i with
     |none=>
      rw[hbl3n i hpi]at hB;cases hl:B.live with
      |false=>
       have hex:∃B0,bl2 i=some B0:=by
        rcases hblk i with h|⟨_,_,_,h,_⟩
        ·exact⟨B,by rw[<-h];exact hB⟩
        ·exact⟨_,h⟩
       obtain⟨B0,hB0⟩:=hex;obtain⟨p,hp,_⟩:=hr.blks i B0 hB0;refine⟨p,by rw[hpl2n i hpi];exact hp,?_⟩;cases B<;>first|exact trivial|simp[Blk.live]at hl
      |true=>have hB:=hblkL i B hB hl;obtain⟨p,hp,hBR⟩:=hr.blks i B hB;refine⟨p,by rw[hpl2n i hpi];exact hp,?_⟩;exact BRep.mono hstep.ext hBR λg hg=>(hkept i B p g hpi hB hl hp hg).1
     |some b=>obtain⟨Bo,hBo,hlo⟩:=hblo b (hplb i b hpi);obtain⟨p,hp,hBR⟩:=hR.blks b Bo hBo;obtain⟨B',h1,h2,_,_,_,_⟩:=He hren2 (hr.baseLe) hdat rfl c6 (hfl.imp id (·.2)) hBo hBR;rw[hbl3s i b hpi,h1]at hB;injection hB with hB;subst hB;exact⟨p,by rw[hpl2s i b hpi];exact hp,h2⟩
    ·cases hpi:place ids' i with
     |none=>
      rw[hbl3n i hpi]at hB;have hB:=hblkL i B hB hlB';rw[hpl2n i hpi]at hp;cases hpj:place ids' j with
      |none=>rw[hbl3n j hpj]at hC;have hC:=hblkL j C hC hlC;rw[hpl2n j hpj]at hq;exact hr.sep i j B C p q g hij hB hC hlB' hlC hp hq hpg
      |some b=>rw[hpl2s j b hpj]at hq;intro hqg;obtain⟨Bo,hBo,hlo⟩:=hblo b (hplb j b hpj);exact(hkept i B p g hpi hB hlB' hp hpg).2 ⟨b,Bo,q,hBo,hlo,hq,hqg⟩
     |some b=>
      rw[hpl2s i b hpi]at hp;obtain⟨Bo,hBo,hlo⟩:=hblo b (hplb i b hpi);cases hpj:place ids' j with
      |none=>rw[hbl3n j hpj]at hC;have hC:=hblkL j C hC hlC;rw[hpl2n j hpj]at hq;intro hqg;exact(hkept j C q g hpj hC hlC hq hqg).2 ⟨b,Bo,p,hBo,hlo,hp,hpg⟩
      |some b'=>
       rw[hpl2s j b' hpj]at hq;obtain⟨Bo',hBo',hlo'⟩:=hblo b' (hplb j b' hpj)
       have hbb:b≠b':=by rintro rfl;have h1:=Dr hpi;have h2:=Dr hpj;rw[h1]at h2;injection h2 with h2;exact hij h2
       exact hR.sep b b' _ _ p q g hbb hBo hBo' hlo hlo' hp hq hpg
    ·cases hpi:place ids' i with
     |none=>
      rw[hbl3n i hpi]at hi;rw[hpl2n i hpi];rcases hblk i with h|⟨h,_⟩
      ·exact hr.fresh i (by rw[<-h];exact hi)
      ·rw[h]at hi;cases hi
     |some b=>rw[hbl3s i b hpi]at hi;have:=hplb i b hpi;rw[IF,CU]at hi;omega
   ·exact TReps.res (Tv hren2 hdat c5 (hfl.imp id (·.1)) hT)
 ·cases hk
end
end
end Go.Lift
namespace Go.Lift
open Go.RowKit Go.MapKept
section
variable{P:Program}{o:Oper}{ρ:Operand->V}{bl:Nat->Option Blk}{β:Type}{r:β}
theorem wO{t:TypeId}{ti:TI}{i:TypeInfo}{d:TypeDesc}{z:Value}(f:TFacts P t ti i d z){k:Ty}(hk:C2 ti k=true)(hw:keyW k=false){w:World}{ok:Nat->Prop}{x:k.den}{u:Value}(hd:DRep w ok k x [u]):IsKey d u:=by
 cases k with
 |bool=>simp only[C2,f.isBool]at hk;simp only[DRep,BB,Cm]at hd;subst hd;cases d<;>simp[Od]at hk;trivial
 |int k=>have hk:=Az hk;rw[f.kind]at hk;simp only[DRep,BB,Cm]at hd;subst hd;cases d<;>simp[Jd]at hk;subst hk;rfl
 |str=>simp only[C2,f.isStr]at hk;simp only[DRep,BB,Cm]at hd;subst hd;cases d<;>simp[Oc]at hk;trivial
 |unit=>simp[C2]at hk
 |err=>simp[C2]at hk
 |prod a b=>simp[keyW]at hw
 |slice e=>simp[C2]at hk
theorem wP{ti:TI}{a b:Ty}(hk:C2 ti (.prod a b)=true):∃i j,a=.int i/\b=.int j/\ti.eqs=some [.i,.i]/\ti.len=some 2:=by
 cases a<;>cases b<;>first|(simp[C2]at hk;done)|skip
 refine⟨_,_,rfl,rfl,?_⟩;simp only[C2]at hk;split at hk
 ·rename_i h1 h2;exact⟨h1,h2⟩
 ·cases hk
theorem aA{E:Env}{k:Ty}{v:V}{key:k.den}{u:Value}(h:El k v=some key)(hv:VRep E v u):KRep E.w E.ok k key u:=by
 cases k with
 |bool=>
  cases v<;>first|(cases h;done)|skip
  rename_i c;cases c<;>first|(cases h;done)|skip
  simp only[El]at h;injection h with h;subst h;have:u=.bool _:=hv;subst this;exact⟨_,rfl,rfl⟩
 |int k=>
  cases v<;>first|(cases h;done)|skip
  rename_i c;cases c<;>first|(cases h;done)|skip
  simp only[El]at h;split at h
  ·rename_i hk
   subst hk;injection h with h;subst h;have:u=.int _ _:=hv;subst this;exact⟨_,rfl,rfl⟩
  ·cases h
 |str=>
  cases v<;>first|(cases h;done)|skip
  rename_i c;cases c<;>first|(cases h;done)|skip
  simp only[El]at h;injection h with h;subst h;have:u=.string _:=hv;subst this;exact⟨_,rfl,rfl⟩
 |unit=>simp[El]at h
 |err=>simp[El]at h
 |prod a b=>
  cases a<;>first|(simp[El]at h;done)|skip
  cases b<;>first|(simp[El]at h;done)|skip
  cases v<;>first|(simp[El]at h;done)|skip
  rename_i cs
  match cs,h,hv with
  |[.int j n,.int j2 n2],h,hv=>
   simp only[El]at h;split at h
   ·rename_i hk
    obtain⟨rfl,rfl⟩:=hk;injection h with h;subst h;obtain⟨vs,⟨v1,r1,e1,c1,⟨v2,r2,e2,c2,e3⟩⟩,hu⟩:=hv;have c1:v1=.int _ _:=c1;have c2:v2=.int _ _:=c2;have e3:r2=[]:=e3;subst e3 e2 e1 c1 c2;exact⟨_,⟨[_],[_],rfl,rfl,rfl⟩,by simpa [keyW]using hu⟩
   ·cases h
 |slice e=>simp[El]at h
theorem wQ{ti:TI}{k:Ty}(hk:C2 ti k=true)(hw:keyW k=false){w:World}{ok:Nat->Prop}{a b:k.den}{x y:Value}(ha:DRep w ok k a [x])(hb:DRep w ok k b [y]):(Ek k a b=true↔y=x):=by
 cases k with
 |bool=>simp only[DRep,BB,Cm]at ha hb;subst ha hb;simp only[Ek,beq_iff_eq,Value.bool.injEq];exact eq_comm
 |int k=>simp only[DRep,BB,Cm]at ha hb;subst ha hb;simp only[Ek,EZ,Value.int.injEq,true_and];exact eq_comm
 |str=>
  simp only[DRep,BB,Cm]at ha hb;subst ha hb;simp only[Ek,EZ,Value.string.injEq,ByteArray.mk.injEq];constructor
  ·intro h;rw[h]
  ·intro h;simpa using Aj Array.toList h.symm
 |unit=>simp[C2]at hk
 |err=>simp[C2]at hk
 |prod a b=>simp[keyW]at hw
 |slice e=>simp[C2]at hk
theorem KRep.one{w:World}{ok:Nat->Prop}{k:Ty}{x:k.den}{u:Value}(hw:keyW k=false)(h:KRep w ok k x u):DRep w ok k x [u]:=by
 obtain⟨us,h1,h2⟩:=h;rw[hw]at h2;have h2:us=[u]:=by simpa using h2
 rw[<-h2];exact h1
theorem KRep.two{w:World}{ok:Nat->Prop}{i j:IntKind}{x:Int×Int}{u:Value}(h:KRep w ok (.prod (.int i) (.int j)) x u):u=.agg #[.int i x.1,.int j x.2]:=by obtain⟨us,⟨v1,v2,e0,e1,e2⟩,h2⟩:=h;have e1:v1=[_]:=e1;have e2:v2=[_]:=e2;subst e1 e2 e0;simpa [keyW]using h2
theorem wR{w:World}{e:TypeId}{q:IntKind}(h:P.underlying e=some (.int q))(em:Bool)(k:IntKind)(x:Int)(n:Nat):(Instr.checkKey em (n+1) e (.int k x)).run P w=.ok () w:=by unfold Instr.checkKey;simp[run_underlying h,Result.andThen]
theorem wS{em:Bool}{w:World}{kt e:TypeId}{ka kb:IntKind}{a b:Int}(hund:P.underlying kt=some (.array 2 e))(hs:(sizeOf e).run P w=.ok 1 w)(p0:(part e #[.int ka a,.int kb b] 0).run P w=.ok (.int ka a) w)(p1:(part e #[.int ka a,.int kb b] 1).run P w=.ok (.int kb b) w)(hc:∀k x n,(Instr.checkKey em (n+1) e (.int k x)).run P w=.ok () w)(n:Nat):(Instr.checkKey em (n+2) kt (.agg #[.int ka a,.int kb b])).run P w=.ok () w:=by
 rw[Instr.checkKey];simp[run_underlying hund,Result.andThen,List.range',hs,p0,p1,hc]
structure Finds (P:Program) (w:World) (ok:Nat->Prop) (kt:TypeId) (k:Ty) (key:k.den) (u:Value) (Fd:List MapEntry->Nat->Option (Nat×Value)->Prop):Prop where
 rep:KRep w ok k key u
 nil:∀i,Fd [] i none
 cons:∀(x:k.den)(e:MapEntry)(es:List MapEntry)(i:Nat),KRep w ok k x e.key->(Ek k x key=true/\e.key=u/\Fd (e::es) i (some (i,e.val)))\/(Ek k x key=false/\∀r,Fd es (i+1) r->Fd (e::es) i r)
 run:∀es r,Fd es 0 r->(Instr.findKey kt u es).run P w=.ok r w
 check:∀em,(Instr.checkKey em 10000 kt u).run P w=.ok () w
 stays:(Instr.keyThatStays u u).run P w=.ok u w
theorem Ov{kt:TypeId}{ti:TI}{i:TypeInfo}{d:TypeDesc}{z:Value}(f:TFacts P kt ti i d z){k:Ty}(hk:C2 ti k=true){w:World}{ok:Nat->Prop}{key:k.den}{u:Value}(hd:KRep w ok k key u):∃Fd,Finds P w ok kt k key u Fd:=by
 cases hw:keyW k with
 |false=>
  have hik:=λ(y:k.den)(u:Value)(h:KRep w ok k y u)=>wO f hk hw (h.one hw);refine⟨λes i r=>Instr.findNow d u es i=some r,hd,λ_=>rfl,λx e es i hx=>?_,λes r h=>run_findKey f.under h,λem=>run_checkKey f.under (hik key _ hd) em _,run_keyThatStays (hik key _ hd)⟩;obtain⟨q,hq,hiff⟩:=sameNow_of_keys (hik key u hd) (hik x e.key hx);have hke:=wQ hk hw (hx.one hw) (hd.one hw);cases q with
  |true=>have hue:u=e.key:=hiff.1 rfl;exact .inl ⟨hke.2 hue,hue.symm,by simp[Instr.findNow,hq]⟩
  |false=>
   have hue:u≠e.key:=λh=>by have:=hiff.2 h;cases this
   refine .inr ⟨?_,λr h=>by simp[Instr.findNow,hq,h]⟩;cases hh:Ek k x key with
   |false=>rfl
   |true=>exact absurd (hke.1 hh) hue
 |true=>
  cases k with
  |prod a b=>
   obtain⟨ka,kb,rfl,rfl,he,hl⟩:=wP hk;have hu:=hd.two;have heqs:=f.eqs.symm.trans he
   have hdu:∃e,P.underlying kt=some (.array 2 e)/\FC P e=some .i/\P.cellsOf e=1:=by
    have hal:=f.alen.symm.trans hl;have hund:=f.under;cases d<;>simp[lenD]at hal;subst hal;rename_i e;refine⟨e,hund,?_⟩;unfold KL at heqs;rw[hund]at heqs;simp only at heqs;split at heqs
    ·rename_i kk hkk
     cases hc:(Nat.beq (P.cellsOf e) 1&&!P.eqGuardType P.depth kt)with
     |false=>rw[hc]at heqs;cases heqs
     |true=>rw[hc]at heqs;simp only[Af,Ac,List.replicate,BB,Cm]at heqs;obtain⟨hc1,_⟩:=andB hc;exact⟨by rw[hkk,heqs.1],Ag hc1⟩
    ·cases heqs
   obtain⟨e,hund,hbas,hone⟩:=hdu
   have hunde:∃q,P.underlying e=some (.int q):=by
    unfold FC at hbas;split at hbas
    all_goals first|(cases hbas;done)|skip
    rename_i q hq;exact⟨q,hq⟩
   obtain⟨q,hunde⟩:=hunde
   have hinf:∃i,P.info? e=some i:=by
    cases hi:P.info? e with
    |some i=>exact⟨i,rfl⟩
    |none=>simp[Program.cellsOf,hi]at hone
   obtain⟨ie,hinf⟩:=hinf;have hpe:P.plainKey e=true:=by simp[Program.plainKey,hunde]
   refine⟨λes i r=>(Instr.findAsking kt u es i).run P w=.ok r w,hd,λ_=>by simp[Instr.findAsking],λx en es i hx=>?_,λes r h=>?_,λem=>?_,?_⟩
   ·have hx2:=hx.two
    have hE:CReps (⟨w,ok,0,λ_=>none,λ_=>none⟩:Env) [.int ka key.1,.int kb key.2] [.int ka key.1,.int kb key.2]:=⟨_,_,rfl,rfl,_,_,rfl,rfl,rfl⟩;have hF:CReps (⟨w,ok,0,λ_=>none,λ_=>none⟩:Env) [.int ka x.1,.int kb x.2] [.int ka x.1,.int kb x.2]:=⟨_,_,rfl,rfl,_,_,rfl,rfl,rfl⟩;have hr:=(Z2 heqs hE hF (q:=decide (key.1=x.1)&&(decide (key.2=x.2)&&true)) (by simp[Bb]) w).1;have hr:(Op.equal kt u en.key).run P w=.ok (decide (key.1=x.1)&&(decide (key.2=x.2)&&true)) w:=by rw[hu,hx2];exact hr
    by_cases h1:key.1=x.1/\key.2=x.2
    ·refine .inl ⟨by simp[Ek,h1.1,h1.2],by rw[hu,hx2,h1.1,h1.2],?_⟩
     simp[Instr.findAsking,hr,h1.1,h1.2,Result.andThen]
    ·have hq:(decide (key.1=x.1)&&(decide (key.2=x.2)&&true))=false:=by
      by_cases h2:key.1=x.1
      ·have h3:¬key.2=x.2:=λh=>h1 ⟨h2,h⟩
       simp[h3]
      ·simp[h2]
     rw[hq]at hr;refine .inr ⟨?_,λr h=>by simp[Instr.findAsking,hr,Result.andThen,h]⟩;by_cases h2:x.1=key.1
     ·have h3:¬x.2=key.2:=λh=>h1 ⟨h2.symm,h.symm⟩
      simp[Ek,h3]
     ·simp[Ek,h2]
   ·rw[run_findKey_eq w (by rw[hund])]
    exact h
   ·rw[hu]
    have p0:=run_part_plain w hpe (xs:=#[.int ka key.1,.int kb key.2]) (off:=0) rfl;have p1:=run_part_plain w hpe (xs:=#[.int ka key.1,.int kb key.2]) (off:=1) rfl;have hc:=λk n m=>wR (P:=P) (w:=w) hunde em k n m;have hs:=_root_.Go.run_sizeOf w hinf;rw[hone]at hs;exact wS hund hs p0 p1 hc 9998
   ·rw[hu]
    simp[Instr.keyThatStays,Instr.sameBits]
  |bool=>simp[keyW]at hw
  |int k=>simp[keyW]at hw
  |str=>simp[keyW]at hw
  |unit=>simp[keyW]at hw
  |err=>simp[keyW]at hw
  |slice e=>simp[keyW]at hw
theorem T4{kt:TypeId}{w:World}{ok:Nat->Prop}{k v:Ty}{vg:Bool}{key:k.den}{u:Value}{Fd:List MapEntry->Nat->Option (Nat×Value)->Prop}(H:Finds P w ok kt k key u Fd):∀{l:List (k.den×v.den)}{es:List MapEntry}(i:Nat),MRep w ok k v vg l es->(Fd es i none/\mHas k l key=false/\(∀z,mGet k l key z=z)/\∀(y:v.den)(us:List Value)(val:Value)(n:Nat),DRep w ok v y us->(if vg then val=.agg us.toArray else us=[val])->MRep w ok k v vg (mPut k l key y) (es++[{key:=u,val:=val,born:=n}]))\/∃j e y us,Fd es i (some (i+j,e.val))/\es[j]?=some e/\e.key=u/\mHas k l key=true/\(∀z,mGet k l key z=y)/\DRep w ok v y us/\(if vg then e.val=.agg us.toArray else us=[e.val])/\∀(y':v.den)(us':List Value)(val:Value)(f:MapEntry->MapEntry),DRep w ok v y' us'->(if vg then val=.agg us'.toArray else us'=[val])->(∀e,(f e).key=u/\(f e).val=val)->MRep w ok k v vg (mPut k l key y') (es.modify j f)
 |[],es,i,h=>by simp only[MRep]at h;subst h;refine .inl ⟨H.nil i,rfl,λ_=>rfl,λy us val n h1 h2=>?_⟩;exact⟨_,[],rfl,H.rep,⟨us,h1,h2⟩,rfl⟩
 |x::l,es,i,⟨e,rest,h0,h1,⟨us,h2,h3⟩,h4⟩=>by
  subst h0;rcases H.cons x.1 e rest i h1 with⟨hkt,hue,hhit⟩|⟨hkt,hmiss⟩
  ·refine .inr ⟨0,e,x.2,us,hhit,rfl,hue,by simp[mHas,hkt],λz=>by simp[mGet,hkt],h2,h3,λy' us' val f g1 g2 g3=>?_⟩
   have hp:mPut k (x::l) key y'=(key,y')::l:=by simp[mPut,hkt]
   rw[hp];refine⟨f e,rest,by simp,by rw[(g3 e).1];exact H.rep,⟨us',g1,by rw[(g3 e).2];exact g2⟩,h4⟩
  ·rcases T4 H (i+1) h4 with⟨g1,g2,g3,g4⟩|⟨j,e',y,us2,g1,g2,g3,g4,g5,g6,g7,g8⟩
   ·refine .inl ⟨hmiss _ g1,by simp[mHas,hkt,g2],λz=>by simp[mGet,hkt,g3],λy us' val n k1 k2=>?_⟩
    have hp:mPut k (x::l) key y=x::mPut k l key y:=by simp[mPut,hkt]
    rw[hp];exact⟨e,rest++_,rfl,h1,⟨us,h2,h3⟩,g4 y us' val n k1 k2⟩
   ·refine .inr ⟨j+1,e',y,us2,by have:=hmiss _ g1;rwa [show i+(j+1)=i+1+j by omega],by simpa using g2,g3,by simp[mHas,hkt,g4],λz=>by simp[mGet,hkt,g5],g6,g7,λy' us' val f k1 k2 k3=>?_⟩
    have hp:mPut k (x::l) key y'=x::mPut k l key y':=by simp[mPut,hkt]
    rw[hp];exact⟨e,rest.modify j f,by simp,h1,⟨us,h2,h3⟩,g8 y' us' val f k1 k2 k3⟩
theorem T5{t:TypeId}{ti:TI}{i:TypeInfo}{d:TypeDesc}{z:Value}(f:TFacts P t ti i d z){kt vt:TypeId}(h:ti.mp=some (kt,vt)):d=.map kt vt:=by rw[f.mp]at h;cases d<;>simp[mpD]at h;rw[h.1,h.2]
theorem wT{T:TypeId->Option TI}{kk:K β}{nx:Nat}{t:TypeId}(ho:o.op=.makeMap t none)(hk:Sz T bl nx t kk=some r):Sound P o ρ bl kk r:=by
 unfold Sz at hk;split at hk
 ·cases hk
 split at hk
 ·cases hk
 split at hk
 ·rename_i tk tv htk htv
  split at hk
  ·rename_i hk1 hv1 hn
   refine⟨_,_,_,hk,λbl2 hb=>?_⟩;have hn2:bl2 nx=none:=(hb nx (by simp)).trans hn;intro ok0 base pl w a hr hx K Q hK
   have h1:(execOp a.eval o).run P w=.ok (.value (.map (some w.heap.size))) (w.alloc (.map #[] 0)):=by simp[execOp,ho,Instr.makeMap]
   have hg:w.grownBy (w.alloc (.map #[] 0)) none:=World.grownBy_alloc w _ none;have hp:∀g,(Pl.cells w.heap.size).has g->w.heap.size<=g:=λg hgg=>DQ hgg;have hs:Step pl bl2 w (upd pl nx (.cells w.heap.size)) (upd bl2 nx (.fmap t [])) (w.alloc (.map #[] 0)):=Step.new hr hn2 hg hp;refine CB h1 (hK _ (upd pl nx (.cells w.heap.size)) _ ?_ hs ?_)
   ·exact RelB.new hr hn2 hg hp ⟨#[],0,heap_alloc_new w _,rfl⟩
   ·exact⟨w.heap.size,by simp[Ae,upd],rfl⟩
  ·rename_i k v hk1 hv1 hn
   cases hq:C2 tk k with
   |false=>rw[hq]at hk;cases hk
   |true=>
    simp only[hq,Af]at hk;refine⟨_,_,_,hk,λbl2 hb=>?_⟩;have hn2:bl2 nx=none:=(hb nx (by simp)).trans hn;intro ok0 base pl w a hr hx K Q hK
    have h1:(execOp a.eval o).run P w=.ok (.value (.map (some w.heap.size))) (w.alloc (.map #[] 0)):=by simp[execOp,ho,Instr.makeMap]
    have hg:w.grownBy (w.alloc (.map #[] 0)) none:=World.grownBy_alloc w _ none;have hp:∀g,(Pl.cells w.heap.size).has g->w.heap.size<=g:=λg hgg=>DQ hgg;have hs:Step pl bl2 w (upd pl nx (.cells w.heap.size)) (upd bl2 nx (.map t k v tv.agg [])) (w.alloc (.map #[] 0)):=Step.new hr hn2 hg hp;refine CB h1 (hK _ (upd pl nx (.cells w.heap.size)) _ ?_ hs ?_)
    ·exact RelB.new hr hn2 hg hp ⟨#[],0,heap_alloc_new w _,rfl⟩
    ·exact⟨w.heap.size,by simp[Ae,upd],rfl⟩
  ·cases hk
 ·cases hk
theorem aB{E:Env}{v:Ty}{vg:Bool}{y:v.den}{us:List Value}{val:Value}(hd:DRep E.w E.ok v y us)(hv:if vg then val=.agg us.toArray else us=[val]):VRep E (V.mk vg (cells v y)) val:=
 VRep.mk ⟨us,D9 hd,hv⟩
theorem wU{T:TypeId->Option TI}(hT:TOk P T){kk:K β}{t:TypeId}{x ix:Operand}{commaOk:Bool}(ho:o.op=.lookup t x ix commaOk)(hk:S2 T bl t (ρ x) (ρ ix) commaOk kk=some r):Sound P o ρ bl kk r:=by
 unfold S2 at hk;split at hk
 ·cases hk
 rename_i ti ht;obtain⟨i,d,z,f⟩:=hT.facts ht;split at hk
 ·cases hk
 rename_i kt vt hmp;have hd:=T5 f hmp;subst hd;split at hk
 ·rename_i tk tv htk htv
  obtain⟨ik,dk,zk,fk⟩:=hT.facts htk;obtain⟨iv,dv,zv,fv⟩:=hT.facts htv;split at hk
  ·rename_i b hx
   split at hk
   ·rename_i t0 k v vg l hb
    cases hq:(C2 tk k&&(vg||Nat.beq v.size 1)&&(vg==tv.agg))with
    |false=>rw[hq]at hk;cases hk
    |true=>
     simp only[hq,Af]at hk;obtain⟨hq,hq3⟩:=andB hq;obtain⟨hq1,hq2⟩:=andB hq;have hq3:vg=tv.agg:=by simpa using hq3
     split at hk
     ·rename_i key zz hkey hzz
      refine Sound.pure hk λbl2 hb2 ok0 base pl w a hr hxs=>?_;have hb':bl2 b=some (.map t0 k v vg l):=(hb2 b (by simp)).trans hb;have h1:=hxs x (by simp[ho,Op.operands]);have h2:=hxs ix (by simp[ho,Op.operands]);rw[hx]at h1;obtain⟨g,hg,hav⟩:=h1;have hkr:=aA hkey h2;obtain⟨p,hp,hB⟩:=hr.blks b _ hb';have:p=.cells g:=by have h3:pl b=some (.cells g):=hg;rw[hp]at h3;injection h3
      subst this;obtain⟨es,clock,hh,hm⟩:=hB;have hh:w.heap[g]?=some (.map es clock):=hh;obtain⟨Fd,HF⟩:=Ov fk hq1 (w:=w) (ok:=(Ae ok0 base pl bl2 w).ok) hkr;have hzv:(zeroValue vt).run P w=.ok zv w:=by simp[zeroValue,typeInfo,fv.info,fv.zero]
      rcases T4 HF 0 hm with⟨g1,g2,g3,g4⟩|⟨j,e,y,us,g1,g2,g3,g4,g5,g6,g7,g8⟩
      ·
       have hz:∃us,DRep (Ae ok0 base pl bl2 w).w (Ae ok0 base pl bl2 w).ok v zz us/\if vg then zv=.agg us.toArray else us=[zv]:=by
        have hzc:CReps (Ae ok0 base pl bl2 w) tv.zero zv.cells.toList:=by rw[fv.zeroC];exact Hb fv.one
        have hdz:=HP hr.blksOk (Rows.none _ _) hzc hzz;refine⟨_,hdz,?_⟩;rw[hq3,fv.agg];have:=Om fv w;cases hag:Ep P vt with
        |true=>simp only[B7];have hz1:=fv.zagg.trans hag;cases zv<;>simp[KM]at hz1;rfl
        |false=>
         simp only[DO,Bk];rw[hq3,fv.agg,hag]at hq2;have hsz:=Ag (by simpa using hq2:Nat.beq v.size 1=true);have hl:=DRep.length hdz;rw[hsz]at hl;cases zv with
         |agg cs=>exact absurd (fv.zagg.trans hag) (by simp[KM])
         |_=>rfl
       obtain⟨us,hz1,hz2⟩:=hz
       have hrun:(execOp a.eval o).run P w=.ok (.value (if commaOk then .tuple #[zv,.bool false]else zv)) w:=by simp[execOp,ho,Instr.lookup,run_underlying f.under,hav,MapKept.run_getObj_map hh,HF.check,HF.run _ _ g1,hzv,Result.andThen]
       refine⟨_,hrun,?_⟩;rw[g2,g3];cases commaOk with
       |true=>exact⟨[zv,.bool false],rfl,zv,[.bool false],rfl,⟨us,D9 hz1,hz2⟩,.bool false,[],rfl,⟨[.bool false],⟨_,_,rfl,rfl,rfl⟩,by simp⟩,rfl⟩
       |false=>exact aB hz1 hz2
      ·have hrun:(execOp a.eval o).run P w=.ok (.value (if commaOk then .tuple #[e.val,.bool true]else e.val)) w:=by simp[execOp,ho,Instr.lookup,run_underlying f.under,hav,MapKept.run_getObj_map hh,HF.check,HF.run _ _ g1,Result.andThen]
       refine⟨_,hrun,?_⟩;rw[g4,g5];cases commaOk with
       |true=>exact⟨[e.val,.bool true],rfl,e.val,[.bool true],rfl,⟨us,D9 g6,g7⟩,.bool true,[],rfl,⟨[.bool true],⟨_,_,rfl,rfl,rfl⟩,by simp⟩,rfl⟩
       |false=>exact aB g6 g7
     ·cases hk
   ·cases hk
  ·cases hk
 ·cases hk
theorem KV{w:World}{g:Nat}{o:Obj}:w.grownBy {w with heap:=w.heap.setIfInBounds g o} (some g):=
 ⟨rfl,rfl,rfl,by simp,λk hk hne=>by have:k≠g:=λh=>hne (by rw[h]);simp[Ne.symm this]⟩
theorem wV{T:TypeId->Option TI}(hT:TOk P T){kk:K β}{t:TypeId}{x ix y:Operand}(ho:o.op=.mapUpdate t x ix y)(hk:S3 T bl t (ρ x) (ρ ix) (ρ y) kk=some r):Sound P o ρ bl kk r:=by
 unfold S3 at hk;split at hk
 ·cases hk
 rename_i ti ht;obtain⟨i,d,z,f⟩:=hT.facts ht;split at hk
 ·cases hk
 rename_i kt vt hmp;have hd:=T5 f hmp;subst hd;split at hk
 ·cases hk
 rename_i tk htk;obtain⟨ik,dk,zk,fk⟩:=hT.facts htk;split at hk
 ·rename_i b cs hx hcs
  split at hk
  ·rename_i t0 k v vg l hb
   cases hq:(C2 tk k&&decide (K5 (ρ y)=some vg))with
   |false=>rw[hq]at hk;cases hk
   |true=>
    simp only[hq,Af]at hk;obtain⟨hq1,hq2⟩:=andB hq;have hq2:=Az hq2;split at hk
    ·rename_i key zz hkey hzz
     refine⟨_,_,_,hk,λbl2 hb2=>?_⟩;intro ok0 base pl w a hr hxs K Q hK;have hb':bl2 b=some (.map t0 k v vg l):=(hb2 b (by simp)).trans hb;have h1:=hxs x (by simp[ho,Op.operands]);have h2:=hxs ix (by simp[ho,Op.operands]);have h3:=hxs y (by simp[ho,Op.operands]);rw[hx]at h1;obtain⟨g,hg,hav⟩:=h1;have hkr:=aA hkey h2;obtain⟨p,hp,hB⟩:=hr.blks b _ hb';have hpg:pl b=some (.cells g):=hg;have:p=.cells g:=by rw[hp]at hpg;injection hpg
     subst this;obtain⟨es,clock,hh,hm⟩:=hB;have hh:w.heap[g]?=some (.map es clock):=hh;obtain⟨Fd,HF⟩:=Ov fk hq1 (w:=w) (ok:=(Ae ok0 base pl bl2 w).ok) hkr;have hyc:=VRep.cells_of hcs h3;have hdz:=HP hr.blksOk (Rows.none _ _) hyc hzz
     have hform:if vg then a.eval y=.agg (a.eval y).cells.toList.toArray else(a.eval y).cells.toList=[a.eval y]:=by
      cases hyv:ρ y with
      |c q=>
       rw[hyv]at hq2 h3;simp only[K5,Ac]at hq2;subst hq2;have h4:=CRep.oneCell (show CRep _ q (a.eval y)from h3);simp only[DO,Bk];cases hv:a.eval y with
       |agg cs=>rw[hv]at h4;simp[Value.oneCell']at h4
       |_=>rfl
      |agg q=>rw[hyv]at hq2 h3;simp only[K5,Ac]at hq2;subst hq2;obtain⟨vs,_,hv⟩:=h3;simp only[B7]at hv;rw[hv];rfl
      |_=>rw[hyv]at hq2;simp[K5]at hq2
     have hstep:∀(l':List (k.den×v.den))(o':Obj),Step pl bl2 w (upd pl b (.cells g)) (upd bl2 b (.map t0 k v vg l')) {w with heap:=w.heap.setIfInBounds g o'}:=
      λl' o'=>Step.wroteB hr hb' rfl hpg KV
     rcases T4 HF 0 hm with⟨g1,g2,g3,g4⟩|⟨j,e,y',us,g1,g2,g3,g4,g5,g6,g7,g8⟩
     ·have hrun:(execOp a.eval o).run P w=.ok .skip {w with heap:=w.heap.setIfInBounds g (.map (es.push {key:=a.eval ix,val:=a.eval y,born:=clock}) (clock+1))}:=by simp[execOp,ho,Instr.mapUpdate,run_underlying f.under,hav,MapKept.run_getObj_map hh,HF.check,HF.run _ _ g1,MapKept.run_setObj_map _ hh,Result.andThen]
      refine Gj hrun (hK undef (upd pl b (.cells g)) _ (RelB.wroteB hr hb' rfl hpg KV ?_) (hstep _ _) trivial);refine⟨_,_,(heap_set hh).1,?_⟩;rw[Array.toList_push];have hx2:=(hstep (mPut k l key zz) (.map (es.push {key:=a.eval ix,val:=a.eval y,born:=clock}) (clock+1))).ext (ok0:=ok0) (base:=base);exact(g4 zz _ (a.eval y) clock hdz hform).mono (λ_ _ h=>h.mono hx2.heap) (λ_ _ h=>h.mono hx2.heap)
     ·have hj:es[j]?=some e:=by simpa using g2
      have hrun:(execOp a.eval o).run P w=.ok .skip {w with heap:=w.heap.setIfInBounds g (.map (es.modify j λe=>{e with key:=a.eval ix,val:=a.eval y}) clock)}:=by simp[execOp,ho,Instr.mapUpdate,run_underlying f.under,hav,MapKept.run_getObj_map hh,HF.check,HF.run _ _ g1,hj,g3,HF.stays,MapKept.run_setObj_map _ hh,Result.andThen]
      refine Gj hrun (hK undef (upd pl b (.cells g)) _ (RelB.wroteB hr hb' rfl hpg KV ?_) (hstep _ _) trivial);refine⟨_,_,(heap_set hh).1,?_⟩;rw[Array.toList_modify];have hx2:=(hstep (mPut k l key zz) (.map (es.modify j λe=>{e with key:=a.eval ix,val:=a.eval y}) clock)).ext (ok0:=ok0) (base:=base);exact(g8 zz _ (a.eval y) _ hdz hform (λ_=>⟨rfl,rfl⟩)).mono (λ_ _ h=>h.mono hx2.heap) (λ_ _ h=>h.mono hx2.heap)
    ·cases hk
  ·cases hk
 ·cases hk
theorem aC{T:TypeId->Option TI}(hT:TOk P T){t:TypeId}(h:fKey T t=true):∃ti i z kt vt tk ik dk zk,TFacts P t ti i (.map kt vt) z/\TFacts P kt tk ik dk zk/\C2 tk .str=true:=by
 unfold fKey at h;split at h
 ·rename_i ti ht
  obtain⟨i,d,z,f⟩:=hT.facts ht;split at h
  ·rename_i kt vt hmp
   have hd:=T5 f hmp;subst hd;split at h
   ·rename_i tk htk
    obtain⟨ik,dk,zk,fk⟩:=hT.facts htk;exact⟨ti,i,z,kt,vt,tk,ik,dk,zk,f,fk,h⟩
   ·cases h
  ·cases h
 ·cases h
theorem aD{E:Env}{kt:TypeId}{w:World}{ok:Nat->Prop}{s:List UInt8}{u:Value}{Fd:List MapEntry->Nat->Option (Nat×Value)->Prop}(H:Finds P w ok kt .str s u Fd):∀{l:List (List UInt8×(FuncId×Nat))}{es:List MapEntry}(i:Nat),FRep E l es->fHas l s=false->Fd es i none
 |[],es,i,h,_=>by have h:es=[]:=h;subst h;exact H.nil i
 |x::l,es,i,⟨e,r,g,h1,h2,_,_,h5⟩,hn=>by
  subst h1;simp only[fHas,H5]at hn;rcases H.cons x.1 e r i ⟨[e.key],by rw[h2];rfl,rfl⟩with⟨hkt,_,_⟩|⟨_,hmiss⟩
  ·have hkt:decide (x.1=s)=true:=hkt
   rw[hn.1]at hkt;cases hkt
  ·exact hmiss _ (aD H (i+1) h5 hn.2)
theorem aF{E:Env}{kt:TypeId}{w:World}{ok:Nat->Prop}{s:List UInt8}{u:Value}{Fd:List MapEntry->Nat->Option (Nat×Value)->Prop}(H:Finds P w ok kt .str s u Fd){kk:FuncId×Nat->Option β}{r:β}:∀{l:List (List UInt8×(FuncId×Nat))}{es:List MapEntry}(i:Nat),FRep E l es->HK kk l s=some r->∃y j g,kk y=some r/\E.pl y.2=some (.cells g)/\Fd es i (some (i+j,.func (.func y.1) #[.pointer (some ⟨g,0,none⟩)] #[]))
 |[],es,i,h,hf=>by cases hf
 |x::l,es,i,⟨e,rest,g,h1,h2,h3,h4,h5⟩,hf=>by
  subst h1;simp only[HK]at hf;rcases H.cons x.1 e rest i ⟨[e.key],by rw[h2];rfl,rfl⟩with⟨hkt,_,hhit⟩|⟨hkt,hmiss⟩
  ·have hkt:decide (x.1=s)=true:=hkt
   rw[hkt,Af]at hf;exact⟨x.2,0,g,hf,h3,by rw[h4]at hhit;exact hhit⟩
  ·have hkt:decide (x.1=s)=false:=hkt
   rw[hkt,AT]at hf;obtain⟨y,j,g',q1,q2,q3⟩:=aF H (i+1) h5 hf;exact⟨y,j+1,g',q1,q2,by have:=hmiss _ q3;rwa [show i+(j+1)=i+1+j by omega]⟩
theorem FRep.app{E:Env}{y:List UInt8×(FuncId×Nat)}{e:MapEntry}{g:Nat}(h1:e.key=.string ⟨y.1.toArray⟩)(h2:E.pl y.2.2=some (.cells g))(h3:e.val=.func (.func y.2.1) #[.pointer (some ⟨g,0,none⟩)] #[]):∀{l:List (List UInt8×(FuncId×Nat))}{es:List MapEntry},FRep E l es->FRep E (l++[y]) (es++[e])
 |[],es,h=>by have h:es=[]:=h;subst h;exact⟨e,[],g,rfl,h1,h2,h3,rfl⟩
 |_::_,_,⟨e',r,g',q1,q2,q3,q4,q5⟩=>⟨e',r++[e],g',by rw[q1];rfl,q2,q3,q4,FRep.app h1 h2 h3 q5⟩
theorem wW{T:TypeId->Option TI}(hT:TOk P T){kk:K β}{t:TypeId}{x ix:Operand}{commaOk:Bool}(ho:o.op=.lookup t x ix commaOk)(hk:S0 T bl t (ρ x) (ρ ix) commaOk kk=some r):Sound P o ρ bl kk r:=by
 unfold S0 at hk;cases hkey:fKey T t with
 |false=>rw[hkey]at hk;cases hk
 |true=>
  rw[hkey,Af]at hk;obtain⟨ti,i,z,kt,vt,tk,ik,dk,zk,f,fk,hq⟩:=aC hT hkey;split at hk
  ·rename_i b s hx hix
   split at hk
   ·rename_i t0 l hb
    have key:∀{l0:List (List UInt8×(FuncId×Nat))},HK (λy=>kk (.c (.bfn y.1 y.2)) [b] []) l0 s=some r->∃y,kk (.c (.bfn y.1 y.2)) [b] []=some r/\∀{β':Type}(g:FuncId×Nat->Option β'),HK g l0 s=g y:=by
     intro l0
     induction l0 with
     |nil=>intro h;cases h
     |cons x l0 ih=>
      intro h;simp only[HK]at h⊢;cases hd:decide (x.1=s)with
      |true=>rw[hd]at h;exact⟨x.2,h,λg=>rfl⟩
      |false=>rw[hd]at h;obtain⟨y,q1,q2⟩:=ih h;exact⟨y,q1,λg=>by simp only[AT];exact q2 g⟩
    obtain⟨y,hk,hall⟩:=key hk;refine Sound.pure hk λbl2 hb2 ok0 base pl w a hr hxs=>?_;have hb':bl2 b=some (.fmap t0 l):=(hb2 b (by simp)).trans hb;have h1:=hxs x (by simp[ho,Op.operands]);have h2:=hxs ix (by simp[ho,Op.operands]);rw[hx]at h1;rw[hix]at h2;obtain⟨g,hg,hav⟩:=h1;have h2:a.eval ix=.string ⟨s.toArray⟩:=h2;obtain⟨p,hp,hB⟩:=hr.blks b _ hb';have:p=.cells g:=by have h3:pl b=some (.cells g):=hg;rw[hp]at h3;injection h3
    subst this;obtain⟨es,clock,hh,hm⟩:=hB;have hh:w.heap[g]?=some (.map es clock):=hh;obtain⟨Fd,HF⟩:=Ov fk hq (w:=w) (ok:=(Ae ok0 base pl bl2 w).ok) (key:=s) (u:=a.eval ix) ⟨[_],by rw[h2];rfl,rfl⟩;obtain⟨y',j,g',q1,q2,q3⟩:=aF HF (E:=Ae ok0 base pl bl2 w) (kk:=some) 0 hm (hall some);injection q1 with q1;subst q1
    have hrun:(execOp a.eval o).run P w=.ok (.value (.func (.func y'.1) #[.pointer (some ⟨g',0,none⟩)] #[])) w:=by simp[execOp,ho,Instr.lookup,run_underlying f.under,hav,MapKept.run_getObj_map hh,HF.check,HF.run _ _ q3,Result.andThen]
    exact⟨_,hrun,g',q2,rfl⟩
   ·cases hk
  ·cases hk
theorem wX{T:TypeId->Option TI}(hT:TOk P T){kk:K β}{t:TypeId}{x ix y:Operand}(ho:o.op=.insert t x ix y)(hk:S1 T bl t (ρ x) (ρ ix) (ρ y) kk=some r):Sound P o ρ bl kk r:=by
 unfold S1 at hk;cases hkey:fKey T t with
 |false=>rw[hkey]at hk;cases hk
 |true=>
  rw[hkey,Af]at hk;obtain⟨ti,i,z,kt,vt,tk,ik,dk,zk,f,fk,hq⟩:=aC hT hkey;split at hk
  ·rename_i b s fn rb hx hix hy
   split at hk
   ·rename_i t0 l hb
    obtain⟨hn,hk⟩:=B8 hk;have hn:fHas l s=false:=by simpa using hn
    refine⟨_,_,_,hk,λbl2 hb2=>?_⟩;intro ok0 base pl w a hr hxs K Q hK;have hb':bl2 b=some (.fmap t0 l):=(hb2 b (by simp)).trans hb;have h1:=hxs x (by simp[ho,Op.operands]);have h2:=hxs ix (by simp[ho,Op.operands]);have h3:=hxs y (by simp[ho,Op.operands]);rw[hx]at h1;rw[hix]at h2;rw[hy]at h3;obtain⟨g,hg,hav⟩:=h1;have h2:a.eval ix=.string ⟨s.toArray⟩:=h2;obtain⟨gr,hgr,hyv⟩:=h3;obtain⟨p,hp,hB⟩:=hr.blks b _ hb';have hpg:pl b=some (.cells g):=hg;have:p=.cells g:=by rw[hp]at hpg;injection hpg
    subst this;obtain⟨es,clock,hh,hm⟩:=hB;have hh:w.heap[g]?=some (.map es clock):=hh;obtain⟨Fd,HF⟩:=Ov fk hq (w:=w) (ok:=(Ae ok0 base pl bl2 w).ok) (key:=s) (u:=a.eval ix) ⟨[_],by rw[h2];rfl,rfl⟩;have g1:=aD HF 0 hm hn
    have hrun:(execOp a.eval o).run P w=.ok .skip {w with heap:=w.heap.setIfInBounds g (.map (es.push {key:=a.eval ix,val:=a.eval y,born:=clock}) (clock+1))}:=by simp[execOp,ho,Instr.mapUpdate,run_underlying f.under,hav,MapKept.run_getObj_map hh,HF.check,HF.run _ _ g1,MapKept.run_setObj_map _ hh,Result.andThen]
    have hstep:Step pl bl2 w (upd pl b (.cells g)) (upd bl2 b (.fmap t0 (l++[(s,(fn,rb))]))) {w with heap:=w.heap.setIfInBounds g (.map (es.push {key:=a.eval ix,val:=a.eval y,born:=clock}) (clock+1))}:=Step.wroteB hr hb' rfl hpg KV;refine Gj hrun (hK undef (upd pl b (.cells g)) _ (RelB.wroteB hr hb' rfl hpg KV ?_) hstep trivial);refine⟨_,_,(heap_set hh).1,?_⟩;rw[Array.toList_push];have hx2:=hstep.ext (ok0:=ok0) (base:=base);exact(FRep.app (E:=Ae ok0 base pl bl2 w) (y:=(s,(fn,rb))) h2 hgr hyv hm).mono hx2
   ·cases hk
  ·cases hk
end
end Go.Lift
namespace Go.Lift
noncomputable section
open Go.RowKit
theorem KW:∀(l:List (Nat×Blk))(bl:Nat->Option Blk),IY bl l=updL bl l
 |[],_=>rfl
 |(j,x)::r,bl=>by
  funext i;simp only[IY,updL];rw[KW r];congr 1;funext k;simp only[upd];by_cases h:k=j
  ·subst h;simp
  ·simp[DR h,h]
theorem T6{bl:Nat->Option Blk}:∀{rds:List Nat}{p:Nat×Blk},p∈B9 bl rds->p.2=.dead/\p.1∈rds/\∃B,bl p.1=some B/\B.lend=true
 |[],p,h=>by simp[B9]at h
 |b::r,p,h=>by
  have next:p∈B9 bl r->p.2=.dead/\p.1∈b::r/\∃B,bl p.1=some B/\B.lend=true:=λh=>by obtain⟨h1,h2,h3⟩:=T6 h;exact⟨h1,AU _ h2,h3⟩
  simp only[B9]at h;split at h
  ·rename_i hb
   rcases AH.1 h with rfl|h
   ·exact⟨rfl,by simp,_,hb,rfl⟩
   ·exact next h
  ·rename_i hb
   rcases AH.1 h with rfl|h
   ·exact⟨rfl,by simp,_,hb,rfl⟩
   ·exact next h
  ·exact next h
theorem aG{bl:Nat->Option Blk}:∀{rds:List Nat}{b:Nat}{B:Blk},b∈rds->bl b=some B->B.lend=true->(b,Blk.dead)∈B9 bl rds
 |[],b,_,h,_,_=>by simp at h
 |c::r,b,B,h,hb,hl=>by
  simp only[B9];rcases AH.1 h with rfl|h
  ·rw[hb]
   cases B<;>first|exact Bu|cases hl
  ·have:=aG (rds:=r) h hb hl
   split
   ·exact AU _ this
   ·exact AU _ this
   ·exact this
theorem Ds:∀{wr:List (Nat×Blk)}{bl:Nat->Option Blk}{b:Nat},b∉wids wr->updL bl wr b=bl b
 |[],_,_,_=>rfl
 |(i,x)::r,bl,b,h=>by simp only[wids,AH,not_or]at h;rw[updL,Ds h.2];simp[upd,h.1]
theorem Jl:∀{wr:List (Nat×Blk)}{bl bl':Nat->Option Blk}{b:Nat},b∈wids wr->updL bl wr b=updL bl' wr b
 |[],_,_,_,h=>by simp[wids]at h
 |(i,x)::r,bl,bl',b,h=>by
  simp only[updL];by_cases hr:b∈wids r
  ·exact Jl hr
  ·rw[Ds hr,Ds hr]
   have hbi:b=i:=by simp only[wids,AH]at h;exact h.resolve_right hr
   simp[upd,hbi]
section
variable{P:Program}{o:Oper}{ρ:Operand->V}{bl:Nat->Option Blk}{β:Type}{r:β}
theorem freeze{ok0:OK0 P}{base:Nat}{pl:Nat->Option Pl}{bl2:Nat->Option Blk}{w:World}(hr:RelB ok0 base pl bl2 w)(rds:List Nat)(hag:∀b∈rds,bl2 b=bl b):RelB ok0 base pl (updL bl2 (B9 bl rds)) w/\Step pl bl2 w pl (updL bl2 (B9 bl rds)) w/\∀(v:V)(u:Value),(∀b∈Bl [v],b∈rds)->VRep (Ae ok0 base pl bl2 w) v u->VRep (Ae ok0 base pl (updL bl2 (B9 bl rds)) w) (frzV bl v) u:=by
 have hkl:∀p∈B9 bl rds,p.2=Blk.dead/\p.1∈rds/\∃B,bl2 p.1=some B/\B.lend=true:=λp hp=>by obtain⟨h1,h2,B,h3,h4⟩:=T6 hp;exact⟨h1,h2,B,by rw[hag _ h2];exact h3,h4⟩
 generalize hkills:B9 bl rds=kills at*
 have hblk:∀i,updL bl2 kills i=bl2 i\/(updL bl2 kills i=some .dead/\∃B,bl2 i=some B/\B.lend=true):=λi=>by
  rcases KS (l:=kills) (f:=bl2) i (λp hp=>(hkl p hp).1)with⟨h1,_⟩|⟨h1,p,hp,h2⟩
  ·exact .inl h1
  ·have:=hkl p hp
   rw[h2]at this;exact .inr ⟨h1,this.2.2⟩
 have hblkL:∀i B,updL bl2 kills i=some B->B.live=true->bl2 i=some B:=λi B hB hl=>by
  rcases hblk i with h|⟨h,_⟩
  ·rw[<-h];exact hB
  ·rw[h]at hB
   injection hB with hB;subst hB;cases hl
 have hown:∀g,Own pl (updL bl2 kills) g->Own pl bl2 g:=λg ⟨i,B,p,hB,hl,hp,hg⟩=>⟨i,B,p,hblkL i B hB hl,hl,hp,hg⟩
 have hs:Step pl bl2 w pl (updL bl2 kills) w:=⟨rfl,rfl,rfl,Ao _,λg _ ho=>⟨rfl,λh=>ho (hown g h)⟩,λ_ _ h=>h,
  λb sv svs hb=>⟨sv,svs,hb,KeepR.of_live (λC h hC=>hblkL b _ h (by cases C<;>first|rfl|exact absurd rfl hC)) _ _⟩⟩
 refine⟨⟨hr.baseLe,λi B hB=>?_,λi j B C p q g hij hB hC hlB hlC hp hq hg=>?_,λi hi=>?_,hr.glob.mono hown⟩,hs,λv u hrows hv=>?_⟩
 ·cases hl:B.live with
  |false=>
   have hex:∃B0,bl2 i=some B0:=by
    rcases hblk i with h|⟨_,_,h,_⟩
    ·exact⟨B,by rw[<-h];exact hB⟩
    ·exact⟨_,h⟩
   obtain⟨B0,hB0⟩:=hex;obtain⟨p,hp,_⟩:=hr.blks i B0 hB0;refine⟨p,hp,?_⟩;cases B<;>first|exact trivial|simp[Blk.live]at hl
  |true=>obtain⟨p,hp,hR⟩:=hr.blks i B (hblkL i B hB hl);exact⟨p,hp,BRep.mono hs.ext hR λ_ _=>rfl⟩
 ·exact hr.sep i j B C p q g hij (hblkL i B hB hlB) (hblkL j C hC hlC) hlB hlC hp hq hg
 ·rcases hblk i with h|⟨h,_⟩
  ·exact hr.fresh i (by rw[<-h];exact hi)
  ·rw[h]at hi;cases hi
 ·
  generalize hE:Ae ok0 base pl bl2 w=E at hv;generalize hE':Ae ok0 base pl (updL bl2 kills) w=E';have hx:Ext E E':=by rw[<-hE,<-hE'];exact hs.ext
  have hblks:BX E:=by rw[<-hE];exact hr.blksOk
  have hEbl:E.bl=bl2:=by rw[<-hE];rfl
  have hEpl:E.pl=pl:=by rw[<-hE];rfl
  have hEw:E.w=w:=by rw[<-hE];rfl
  have hEw':E'.w=w:=by rw[<-hE'];rfl
  have hEok:E.ok=λg=>(ok0 g\/(base<=g/\¬ok0.no g))/\¬Own pl bl2 g:=by rw[<-hE];rfl
  have hEok':E'.ok=λg=>(ok0 g\/(base<=g/\¬ok0.no g))/\¬Own pl (updL bl2 kills) g:=by rw[<-hE'];rfl
  have hok:∀g,E.ok g->E'.ok g:=λg hg=>by rw[hEok]at hg;rw[hEok'];exact⟨hg.1,λh=>hg.2 (hown g h)⟩
  have hgo:∀(b:Nat)(B:Blk)(p:Pl),b∈rds->bl b=some B->B.lend=true->pl b=some p->∀g,p.has g->E'.ok g:=by
   intro b B p hin hb hle h2 g hg;have hb2:bl2 b=some B:=by rw[hag b hin];exact hb
   rw[hEok'];refine⟨.inr (Tz hr hb2 hle h2 hg),λho=>?_⟩;obtain⟨j,C,q,hC,hl,hq,hqg⟩:=ho;have hC2:=hblkL j C hC hl;by_cases hjb:j=b
   ·subst hjb
    have hmem:(j,Blk.dead)∈kills:=by rw[<-hkills];exact aG hin hb hle
    rcases KS (l:=kills) (f:=bl2) j (λp hp=>(hkl p hp).1)with⟨_,q⟩|⟨q,_⟩
    ·exact q _ hmem rfl
    ·rw[q]at hC
     injection hC with hC;subst hC;cases hl
   ·exact hr.sep j b C _ q p g hjb hC2 hb2 hl (Blk.lend_live hle) hq h2 hqg hg
  have hone:∀(c:C)(u:Value),(∀b∈Bg [c],b∈rds)->CRep E c u->CRep E' (frzC bl c) u:=by
   intro c u hcr hc;cases c with
   |sub b ver i j=>
    simp only[frzC];split
    ·rename_i t e ver' l hb
     cases hver:Nat.beq ver ver' with
     |false=>exact CRep.mono hx hc
     |true=>
      simp only[Af];have hver':=Ag hver;subst hver';have hin:b∈rds:=hcr b (by simp[Bg]);have hb2:bl2 b=some (.row t e ver l):=by rw[hag b hin];exact hb
      have hrow:DS bl2 b ver e=some l:=by simp[DS,hb2]
      obtain⟨t',sv,xs,_,h1,h2,h4,h5⟩:=Of (blp:=bl2) hblks (λt e ver l h=>by rw[hEbl];exact h) hrow;obtain⟨_,sv2,svs2,hpl2,hcur⟩:=hc;rw[h2]at hpl2;injection hpl2 with hpl2;injection hpl2 with hpl2 _;subst hpl2;obtain⟨A,c,ys,q1,q2,q3,q4,q5⟩:=SU ((hcur _ _ _ _ h1).2 rfl) h4 h5;show DRep E'.w E'.ok (.slice e) ((l.take j).drop i) [u];rw[hEw',<-hEw];simp only[DRep];refine⟨A,c,ys,by rw[q1],q2,q3,q4.mono λx u hu=>hu.mono (λg h1 _=>⟨hok g h1,rfl⟩),λk v hk=>?_⟩;obtain⟨ad,r1,r2,r3⟩:=q5 k v hk;exact⟨ad,r1,hgo b _ (.row sv []) hin hb rfl (by rw[<-hEpl];exact h2) _ (Or.inl r2),r3⟩
    ·exact CRep.mono hx hc
   |row b ver=>
    simp only[frzC];split
    ·rename_i t e ver' l hb
     cases hver:Nat.beq ver ver' with
     |false=>exact CRep.mono hx hc
     |true=>
      simp only[Af];have hver':=Ag hver;subst hver';have hin:b∈rds:=hcr b (by simp[Bg]);have hb2:bl2 b=some (.row t e ver l):=by rw[hag b hin];exact hb
      have hrow:DS bl2 b ver e=some l:=by simp[DS,hb2]
      obtain⟨t',sv,xs,h1,h2,h3,h4,h5⟩:=SS (blp:=bl2) hblks (λt e ver l h=>by rw[hEbl];exact h) hrow hc;subst h3;have:=SV (okp:=E'.ok) hok (λg hg=>hgo b _ (.row u []) hin hb rfl (by rw[<-hEpl];exact h2) g (Or.inl hg)) h4 h5;show DRep E'.w E'.ok (.slice e) l [u];rw[hEw',<-hEw];exact this
    ·exact CRep.mono hx hc
   |trow b ver p=>
    cases p with
    |cons _ _=>exact CRep.mono hx hc
    |nil=>
     simp only[frzC];split
     ·rename_i t e ver' iver l hb
      cases hver:Nat.beq ver ver' with
      |false=>exact CRep.mono hx hc
      |true=>
       simp only[Af];have hver':=Ag hver;subst hver';have hin:b∈rds:=hcr b (by simp[Bg]);have hb2:bl2 b=some (.tree t e ver iver none l):=by rw[hag b hin];exact hb
       have:=Zo (blp:=bl2) (okp:=E'.ok) (e:=e.ty) (l:=l) hok hblks (b:=b) (ver:=ver) (λt e ver iver h l h'=>⟨by rw[hEbl];exact h',λsv svs g hsv hg=>hgo b _ _ hin (by rw[<-hag b hin];exact h') rfl (by rw[<-hEpl];exact hsv) g hg⟩) (by simp[Kz,hb2]) hc;show DRep E'.w E'.ok (.slice e.ty) l [u];rw[hEw',<-hEw];exact this
     ·exact CRep.mono hx hc
   |_=>exact CRep.mono hx hc
  have hall:∀(cs:List C)(us:List Value),(∀b∈Bg cs,b∈rds)->CReps E cs us->CReps E' (cs.map (frzC bl)) us:=by
   intro cs
   induction cs with
   |nil=>intro us _ h;exact h
   |cons c cs ih=>rintro us hc ⟨u,us',e,h1,h2⟩;refine⟨u,us',e,hone c u (λb hb=>hc b ?_) h1,ih us' (λb hb=>hc b (Oe hb)) h2⟩;have:Bg (c::cs)=Bg [c]++Bg cs:=KO [c] cs;rw[this];exact BG _ hb
  cases v with
  |c x=>exact hone x u (λb hb=>hrows b (by simpa [Bl,V.cells]using hb)) hv
  |agg cs=>obtain⟨vs,h1,h2⟩:=hv;exact⟨vs,hall cs vs (λb hb=>hrows b (by simpa [Bl,V.cells]using hb)) h1,h2⟩
  |_=>exact VRep.mono hx hv
theorem wY{rds:List Nat}{ρ':Operand->V}{kk:K β}(hρ:∀x∈o.op.operands,ρ' x=ρ x\/(ρ' x=frzV bl (ρ x)/\∀b∈Bl [ρ x],b∈rds))(h:Sound P o ρ' (updL bl (B9 bl rds)) (λv rd wr=>kk v (rds++rd) (B9 bl rds++wr)) r):Sound P o ρ bl kk r:=by
 obtain⟨v,rd,wr,hk,h⟩:=h;refine⟨v,rds++rd,B9 bl rds++wr,hk,λbl2 hb2=>?_⟩;have hag:∀b∈rds,bl2 b=bl b:=λb hb=>hb2 b (BG _ hb)
 have hrd:∀b∈rd,updL bl2 (B9 bl rds) b=updL bl (B9 bl rds) b:=λb hb=>by
  by_cases hm:b∈wids (B9 bl rds)
  ·exact Jl hm
  ·rw[Ds hm,Ds hm]
   exact hb2 b (BM _ hb)
 intro ok0 base pl w a hr hx K Q hK;obtain⟨h1,h2,h3⟩:=freeze (bl:=bl) hr rds hag;refine h _ hrd ok0 base pl w a h1 (λx hxo=>?_) K Q λval pl' w' k1 k2 k3=>?_
 ·rcases hρ x hxo with e|⟨e,hsub⟩
  ·rw[e];exact VRep.mono h2.ext (hx x hxo)
  ·rw[e];exact h3 _ _ hsub (hx x hxo)
 ·rw[Hd]at hK
  exact hK val pl' w' k1 (h2.trans k2) k3
theorem T7:∀{vs:List V}{v:V},v∈vs->∀b∈Bl [v],b∈Bl vs
 |[],_,h=>by simp at h
 |u::us,v,h=>by
  intro b hb
  have hrow:∀(u:V)(us:List V),Bl (u::us)=Bl [u]++Bl us:=by intro u us;simp only[Bl];split<;>simp
  rw[hrow];rcases AH.1 h with rfl|h
  ·exact BG _ hb
  ·exact BM _ (T7 h b hb)
theorem Gp{xs:List Operand}{kk:K β}{run:(Nat->Option Blk)->K β->Option β}(hops:∀x∈o.op.operands,x∈xs)(hk:EE bl (Bl (xs.map ρ)) run kk=some r)(h:∀(bl':Nat->Option Blk)(kk':K β),run bl' kk'=some r->Sound P o (λx=>frzV bl (ρ x)) bl' kk' r):Sound P o ρ bl kk r:=by
 unfold EE at hk;rw[KW]at hk;exact wY (rds:=Bl (xs.map ρ)) (ρ':=λx=>frzV bl (ρ x)) (λx hx=>.inr ⟨rfl,T7 (CJ.2 ⟨x,hops x hx,rfl⟩)⟩) (h _ _ hk)
theorem T8{E E':Env}{rds:List Nat}(hx:Ext E E')(h:∀(c:C)(u:Value),(∀b∈Bg [c],b∈rds)->CRep E c u->CRep E' (frzC bl c) u):∀(i:Nat)(ps:List Nat){cs:List C}{vs:List Value},(∀b∈Cx i ps cs,b∈rds)->CReps E cs vs->CReps E' (F9 bl i ps cs) vs
 |_,_,[],_,_,hc=>hc
 |i,ps,c::cs,_,hr,⟨u,us,e,h1,h2⟩=>by
  cases hm:memB i ps with
  |true=>
   have hr':∀b∈Bg [c]++Cx (i+1) ps cs,b∈rds:=by simpa [Cx,hm]using hr
   refine⟨u,us,e,?_,T8 hx h (i+1) ps (λb hb=>hr' b (BM _ hb)) h2⟩;rw[hm];exact h c u (λb hb=>hr' b (BG _ hb)) h1
  |false=>
   have hr':∀b∈Cx (i+1) ps cs,b∈rds:=by simpa [Cx,hm]using hr
   refine⟨u,us,e,?_,T8 hx h (i+1) ps hr' h2⟩;rw[hm];exact CRep.mono hx h1
theorem wZ{b:Nat}{t0:TypeId}{ps:List Nat}{cs:List C}{kk:K β}(hb:bl b=some (.cells t0 cs))(h:Sound P o ρ (updL (updL bl (B9 bl (Cx 0 ps cs))) [(b,.cells t0 (F9 bl 0 ps cs))]) (λv rd wr=>kk v (Cx 0 ps cs++(b::rd)) (B9 bl (Cx 0 ps cs)++((b,.cells t0 (F9 bl 0 ps cs))::wr))) r):Sound P o ρ bl kk r:=by
 obtain⟨v,rd,wr,hk,h⟩:=h;refine⟨v,Cx 0 ps cs++(b::rd),_,hk,λbl2 hb2=>?_⟩;have hag:∀i∈Cx 0 ps cs,bl2 i=bl i:=λi hi=>hb2 i (BG _ hi);have hbb:bl2 b=some (.cells t0 cs):=(hb2 b (by simp)).trans hb
 have hbk:b∉wids (B9 bl (Cx 0 ps cs)):=λhm=>by
  have:∀(l:List (Nat×Blk)),b∈wids l->∃x,(b,x)∈l:=by
   intro l
   induction l with
   |nil=>intro h;simp[wids]at h
   |cons p l ih=>
    intro h;simp only[wids,AH]at h;rcases h with rfl|h
    ·exact⟨p.2,by simp⟩
    ·obtain⟨x,hx⟩:=ih h
     exact⟨x,AU _ hx⟩
  obtain⟨x,hx⟩:=this _ hm;obtain⟨_,_,B,h3,h4⟩:=T6 hx;rw[show bl b=_ from h3]at hb;injection hb with hb;subst hb;cases h4
 have hrd:∀i∈rd,updL (updL bl2 (B9 bl (Cx 0 ps cs))) [(b,Blk.cells t0 (F9 bl 0 ps cs))] i=updL (updL bl (B9 bl (Cx 0 ps cs))) [(b,Blk.cells t0 (F9 bl 0 ps cs))] i:=λi hi=>by
  simp only[updL,upd];by_cases hib:i=b
  ·simp[hib]
  ·simp only[hib,Bk]
   by_cases hm:i∈wids (B9 bl (Cx 0 ps cs))
   ·exact Jl hm
   ·rw[Ds hm,Ds hm]
    exact hb2 i (by simp[hi])
 intro ok0 base pl w a hr hx K Q hK;obtain⟨h1,h2,h3⟩:=freeze (bl:=bl) hr (Cx 0 ps cs) hag;obtain⟨p,hp,hB⟩:=hr.blks b _ hbb;cases p with
 |row _ _=>exact hB.elim
 |cells g=>
  obtain⟨vs,hh,hcs⟩:=hB;have hcs':=T8 (bl:=bl) h2.ext (rds:=Cx 0 ps cs) (λc u hc h=>h3 (.c c) u (λb hb=>hc b (by simpa [Bl,V.cells]using hb)) h) 0 ps (λ_ h=>h) hcs;have hb1:updL bl2 (B9 bl (Cx 0 ps cs)) b=some (.cells t0 cs):=(Ds hbk).trans hbb;rw[Hd]at hK;generalize updL bl2 (B9 bl (Cx 0 ps cs))=bl1 at*
  have hpl:upd pl b (.cells g)=pl:=by
   funext j;simp only[upd];split
   ·rename_i h;rw[h];exact hp.symm
   ·rfl
  have hstep:Step pl bl1 w (upd pl b (.cells g)) (upd bl1 b (.cells t0 (F9 bl 0 ps cs))) w:=by
   rw[hpl];refine⟨rfl,rfl,rfl,Ao _,λg' _ ho=>⟨rfl,?_⟩,λ_ _ h=>h,λb' sv svs hb'=>⟨sv,svs,hb',?_⟩⟩
   ·rintro⟨j,C,q,hC,hl,hq,hqg⟩
    by_cases hj:j=b
    ·subst hj
     exact ho ⟨j,_,q,hb1,rfl,hq,hqg⟩
    ·simp only[upd,hj,Bk]at hC
     exact ho ⟨j,C,q,hC,hl,hq,hqg⟩
   ·have hne:b'≠b:=by rintro rfl;rw[hp]at hb';cases hb'
    exact KeepR.of_eq (λC hC=>by simpa [upd,hne]using hC) _ _
  have hput:=h1.put hstep (BRep.mono hstep.ext (B:=.cells t0 (F9 bl 0 ps cs)) (p:=.cells g) ⟨vs,hh,hcs'⟩ λ_ _=>rfl) λj C q g' hj hC hl hq hqg=>⟨rfl,λhpg=>h1.sep j b C _ q _ g' hj hC hb1 hl rfl hq hp hqg hpg⟩;rw[hpl]at hput hstep;refine h _ hrd ok0 base pl w a hput (λx hxo=>VRep.mono (h2.trans hstep).ext (hx x hxo)) K Q λval pl' w' k1 k2 k3=>?_;exact hK val pl' w' k1 ((h2.trans hstep).trans k2) k3
theorem x5{T:TypeId->Option TI}(hT:TOk P T){kk:K β}{t:TypeId}{ps:List Nat}{x:Operand}(ho:o.op=.load t x)(hk:SM T bl t ps (ρ x) kk=some r):Sound P o ρ bl kk r:=by
 unfold SM at hk;split at hk
 ·rename_i b of hx
  split at hk
  ·rename_i t0 cs hb
   rw[KW,KW]at hk;rw[<-hx]at hk;exact wZ hb (Ta hT ho hk)
  ·cases hk
 ·exact Ta hT ho hk
theorem x6{T:TypeId->Option TI}(hT:TOk P T){kk:K β}{t:TypeId}{x y:Operand}(ho:o.op=.index t x y){ti:TI}(ht:T t=some ti){cs:List C}(hx:ρ x=.agg cs){k:IntKind}{i:Int}(hy:ival (ρ y)=some (k,i))(hk:Sy T ti cs i kk=some r):Sound P o ρ bl kk r:=by
 obtain⟨inf,d,z,f⟩:=hT.facts ht;unfold Sy at hk;split at hk
 ·rename_i et n hel hal
  have:=Te f hel hal;subst this;split at hk
  ·rename_i te hte
   obtain⟨i',d',z',fe⟩:=hT.facts hte;split at hk
   ·rename_i e hety
    split at hk
    ·rename_i l hl
     cases hs:(Nat.beq e.size te.size&&(te.agg||Nat.beq te.size 1))with
     |false=>rw[hs]at hk;cases hk
     |true=>
      simp only[hs,Af]at hk;obtain⟨hs1,hs2⟩:=andB hs;have hs1:=Ag hs1;obtain⟨hc,hk⟩:=B8 hk;obtain⟨hc1,hc2⟩:=andB hc;have hc1:=Az hc1;have hc2:=Az hc2;refine Sound.pure hk λbl2 _ ok0 base pl w a hr hxs=>?_;have hx1:=hxs x (by simp[ho,Op.operands]);have hy1:=hxs y (by simp[ho,Op.operands]);rw[hx]at hx1;rw[Gl hy]at hy1;have hy2:a.eval y=.int k i:=hy1;obtain⟨vs,hvs,hav⟩:=hx1;have hav:a.eval x=.agg vs.toArray:=hav;obtain⟨hd,hll⟩:=Oh hr.blksOk (Rows.none _ _) hvs hl;obtain⟨u,p,q,hpq,hp,hde⟩:=DList.get e.dflt hd (i:=i.toNat) (by omega);have hul:=hde.length
      have hvl:vs.length=n*e.size:=by have:=DList.length hd;rw[this,hll]
      have hin:i<(n:Int):=by omega
      have hag:=Om fe w;cases hagg:te.agg with
      |true=>
       rw[hagg]at hag;refine⟨.agg u.toArray,?_,VRep.mk ⟨u,D9 hde,by simp⟩⟩
       have hext:List.take te.size (List.drop (i.toNat*te.size) vs)=u:=by rw[hpq,<-hs1,<-hp,<-hul];simp
       simp[execOp,ho,hav,hy2,Instr.index,asIntOf,run_underlying f.under,hc1,hin,part,hag,run_sizeOf fe,hext]
      |false=>
       rw[hagg]at hag hs2;have hone:te.size=1:=Ag (by simpa using hs2);have hu1:u.length=1:=by omega
       match u,hu1 with
       |[u0],_=>
        refine⟨u0,?_,VRep.mk ⟨[u0],D9 hde,by simp⟩⟩
        have hget:vs[i.toNat*te.size]?=some u0:=by rw[hpq,<-hs1,<-hp];simp
        simp[execOp,ho,hav,hy2,Instr.index,asIntOf,run_underlying f.under,hc1,hin,part,hag,run_sizeOf fe,hget]
    ·cases hk
   ·cases hk
  ·cases hk
 ·cases hk
end
end
end Go.Lift
namespace Go.Lift
noncomputable section
open Go.RowKit
section
variable{P:Program}{o:Oper}{ρ:Operand->V}{bl:Nat->Option Blk}{β:Type}{r:β}
theorem T9{E:Env}{a:Act}:∀{xs:List Operand},(∀x∈xs,VRep E (ρ x) (a.eval x))->VReps E (xs.map ρ) (xs.map a.eval)
 |[],_=>rfl
 |x::xs,h=>⟨_,_,rfl,h x (by simp),T9 λy hy=>h y (by simp[hy])⟩
theorem VReps.append{E:Env}:∀{vs us ws xs},VReps E vs us->VReps E ws xs->VReps E (vs++ws) (us++xs)
 |[],us,_,_,h,k=>by have h':us=[]:=h;subst h';exact k
 |_::_,_,_,_,⟨u,us',e,h1,h2⟩,k=>⟨u,us'++_,by rw[e];rfl,h1,VReps.append h2 k⟩
theorem aH{E:Env}:∀{caps gs:List Nat},caps.map E.pl=gs.map (λg=>some (.cells g))->VReps E (caps.map λb=>.c (.ptr b 0)) (gs.map λg=>.pointer (some ⟨g,0,none⟩))
 |[],gs,h=>by cases gs with|nil=>rfl|cons g gs=>simp at h
 |b::bs,gs,h=>by
  cases gs with
  |nil=>simp at h
  |cons g gs=>simp only[Bp,BB]at h;exact⟨_,_,rfl,⟨g,h.1,rfl⟩,aH h.2⟩
theorem x7{X:Ctx}(hΓ:ΓOk P X.Γ){kk:K β}{nx:Nat}{c:Call}(ho:o.op=.call c){x:Operand}(hc:c.callee=.value x){f:FuncId}{caps:List Nat}(hx:ρ x=.c (.fn f caps))(hk:KE X bl nx f (c.args.toList.map ρ++caps.map λb=>.c (.ptr b 0)) kk=some r):Sound P o ρ bl kk r:=by
 refine a8 hΓ hk λbl2 ok0 base pl w a hr hxs=>?_;have hv:=hxs x (by simp[ho,Op.operands,Call.operands,hc]);rw[hx]at hv;obtain⟨gs,hg,hv⟩:=hv;refine⟨c.args.toList.map a.eval++gs.map λg=>.pointer (some ⟨g,0,none⟩),?_,λ⟨fn,h1,h2,h3⟩=>?_⟩
 ·exact(T9 λy hy=>hxs y (by simp only[ho,Op.operands,Call.operands,NE];exact .inr (by simpa using hy))).append (aH hg)
 ·have he:c.args.map a.eval++(gs.map λg=>Value.pointer (some ⟨g,0,none⟩)).toArray=(c.args.toList.map a.eval++gs.map λg=>Value.pointer (some ⟨g,0,none⟩)).toArray:=by apply Dc;simp
  simp only[execOp,ho,resolve,hc,hv,Deferred.ofValue,Sem.run_bind,Sem.run_pure,Result.andThen_ok,invoke,callFunc,run_program,h1,h2,h3,Array.empty_append,DO,Bk,he]
theorem x8{X:Ctx}(hΓ:ΓOk P X.Γ){kk:K β}{nx:Nat}{c:Call}(ho:o.op=.call c){x:Operand}(hc:c.callee=.value x){f:FuncId}{b:Nat}(hx:ρ x=.c (.bfn f b))(hk:KE X bl nx f (.c (.ptr b 0)::c.args.toList.map ρ) kk=some r):Sound P o ρ bl kk r:=by
 refine a8 hΓ hk λbl2 ok0 base pl w a hr hxs=>?_;have hv:=hxs x (by simp[ho,Op.operands,Call.operands,hc]);rw[hx]at hv;obtain⟨g,hg,hv⟩:=hv;refine⟨.pointer (some ⟨g,0,none⟩)::c.args.toList.map a.eval,⟨_,_,rfl,⟨g,hg,rfl⟩,T9 λy hy=>hxs y (by simp only[ho,Op.operands,Call.operands,NE];exact .inr (by simpa using hy))⟩,λ⟨fn,h1,h2,h3⟩=>?_⟩
 have he:#[Value.pointer (some ⟨g,0,none⟩)]++c.args.map a.eval=(Value.pointer (some ⟨g,0,none⟩)::c.args.toList.map a.eval).toArray:=by apply Dc;simp
 simp only[execOp,ho,resolve,hc,hv,Deferred.ofValue,Sem.run_bind,Sem.run_pure,Result.andThen_ok,invoke,callFunc,run_program,h1,h2,h3,Array.append_empty,DO,Bk,he]
theorem x9{kk:K β}{x:Operand}(ho:o.op=.nilCheck x){f:FuncId}{b:Nat}(hx:ρ x=.c (.bfn f b))(hk:kk (ρ x) [] []=some r):Sound P o ρ bl kk r:=by refine Sound.pure hk λbl2 _ ok0 base pl w a hr hxs=>⟨a.eval x,?_,hxs x (by simp[ho,Op.operands])⟩;have h1:=hxs x (by simp[ho,Op.operands]);rw[hx]at h1;obtain⟨g,_,hv⟩:=h1;simp[execOp,ho,hv]
theorem xA{kk:K β}{f:FuncId}{first caps:Array Operand}(ho:o.op=.makeFunc (.func f) first caps){x:Operand}(hf:first.toList=[x]){b:Nat}(hx:ρ x=.c (.ptr b 0))(hc:caps.toList=[])(hk:kk (.c (.bfn f b)) [] []=some r):Sound P o ρ bl kk r:=by
 have hf':first=#[x]:=by apply Dc;simpa using hf
 have hc':caps=#[]:=by simpa using hc
 subst hf' hc';refine Sound.pure hk λbl2 _ ok0 base pl w a hr hxs=>?_;have hv:=hxs x (by simp[ho,Op.operands]);rw[hx]at hv;obtain⟨g,hg,hv⟩:=hv;exact⟨.func (.func f) #[.pointer (some ⟨g,0,none⟩)] #[],by simp[execOp,ho,Instr.makeFunc,hv],g,hg,rfl⟩
theorem xB{X:Ctx}(hT:TOk P X.T)(hΓ:ΓOk P X.Γ){kk:K β}{nx:Nat}(hk:NW X o ρ bl nx kk=some r):Sound P o ρ bl kk r:=by
 unfold NW at hk;split at hk
 ·rename_i x ho
  cases hS:(X.S&&Zk (ρ x))with
  |false=>rw[hS,AT]at hk;exact Oi (.inl ho) hk
  |true=>rw[hS,Af]at hk;exact Gp (xs:=[x]) (λz hz=>by simpa [ho,Op.operands]using hz) hk λbl' kk' h=>Oi (ρ:=λx=>frzV bl (ρ x)) (.inl ho) h
 ·rename_i x ho
  cases hD:(X.D&&Zj bl (ρ x))with
  |false=>rw[hD,AT]at hk;exact Oi (.inr ho) hk
  |true=>rw[hD,Af]at hk;exact Gp (xs:=[x]) (λz hz=>by simpa [ho,Op.operands]using hz) hk λbl' kk' h=>Oi (ρ:=λx=>frzV bl (ρ x)) (.inr ho) h
 ·rename_i c a b ho
  split at hk
  ·rename_i g hc;exact uL ho hc hk
  ·cases hk
 ·rename_i t ho
  split at hk
  ·rename_i ti ht;exact uM hT ho ht hk
  ·cases hk
 ·rename_i t x ho
  split at hk
  ·rename_i cs hc;exact uN ho hc hk
  ·cases hk
 ·rename_i t parts ho
  cases hD:X.D with
  |false=>rw[hD,AT]at hk;exact ZA hT ho hk
  |true=>rw[hD,Af]at hk;refine Gp (xs:=parts.toList.map (·.2)) (λx hx=>by simpa [ho,Op.operands]using hx) (by rw[Ku];exact hk) λbl' kk' h=>?_;exact ZA (ρ:=λx=>frzV bl (ρ x)) hT ho h
 ·rename_i t n parts ho
  cases hO:(Zf X.O X.T t&&Zg X.O X.T bl t (parts.toList.map λp=>(p.1,ρ p.2)))with
  |true=>rw[hO,Af]at hk;exact vX hT ho hk
  |false=>
  rw[hO,AT]at hk;cases hM:(X.M&&IT X.T t)with
  |true=>rw[hM,Af]at hk;exact vL hT ho hk
  |false=>
  rw[hM,AT]at hk;refine Gp (xs:=parts.toList.map (·.2)) (λx hx=>by simpa [ho,Op.operands]using hx) (by rw[Ku];exact hk) λbl' kk' h=>?_;exact vH (ρ:=λx=>frzV bl (ρ x)) hT ho h
 ·rename_i t a ho
  split at hk
  ·exact x5 hT ho hk
  ·exact Ta hT ho hk
 ·rename_i t a x ho
  split at hk
  ·exact Gp (xs:=[a,x]) (λy hy=>by simpa [ho,Op.operands]using hy) hk λbl' kk' h=>KQ (ρ:=λx=>frzV bl (ρ x)) hT ho h
  ·rename_i b _ _ _ _ _
   cases hH:Zc bl b with
   |true=>rw[hH,Af]at hk;exact KQ hT ho hk
   |false=>rw[hH,AT]at hk;exact Gp (xs:=[a,x]) (λy hy=>by simpa [ho,Op.operands]using hy) hk λbl' kk' h=>KQ (ρ:=λx=>frzV bl (ρ x)) hT ho h
  ·cases hD:(X.D&&Zl (ρ x))with
   |false=>rw[hD,AT]at hk;exact KQ hT ho hk
   |true=>rw[hD,Af]at hk;exact Gp (xs:=[a,x]) (λy hy=>by simpa [ho,Op.operands]using hy) hk λbl' kk' h=>KQ (ρ:=λx=>frzV bl (ρ x)) hT ho h
 ·rename_i x ho
  split at hk
  ·rename_i b of hx;exact HX ho (.inl ⟨b,of,hx⟩) (by rw[hx];exact hk)
  ·rename_i b ver i of hx;exact HX ho (.inr (.inl ⟨b,ver,i,of,hx⟩)) (by rw[hx];exact hk)
  ·rename_i e y of hx;exact HX ho (.inr (.inr (.inl ⟨e,y,of,hx⟩))) (by rw[hx];exact hk)
  ·rename_i b ver i hx;exact HX ho (.inr (.inr (.inr (.inr (.inl ⟨b,ver,i,hx⟩))))) (by rw[hx];exact hk)
  ·rename_i b ver i j of hx;exact HX ho (.inr (.inr (.inr (.inr (.inr (.inl ⟨b,ver,i,j,of,hx⟩)))))) (by rw[hx];exact hk)
  ·rename_i b ver p i of hx;exact HX ho (.inr (.inr (.inr (.inr (.inr (.inr ⟨b,ver,p,i,of,hx⟩)))))) (by rw[hx];exact hk)
  ·rename_i f caps hx;exact HX ho (.inr (.inr (.inr (.inl ⟨f,caps,hx⟩)))) (by rw[hx];exact hk)
  ·rename_i f b hx;exact x9 ho hx (by rw[hx];exact hk)
  ·cases hk
 ·rename_i op t x y t' ho;exact vA hT ho hk
 ·rename_i op t x ho
  split at hk
  ·rename_i b hx;exact vY ho hx hk
  ·rename_i k n hx;exact vZ ho hx hk
  ·cases hk
 ·rename_i s t x ho
  split at hk
  ·rename_i si ti k0 n hs ht hx
   split at hk
   ·rename_i k hkd;exact wA hT ho hs ht hx hkd hk
   ·cases hk
  ·rename_i si ti l hs ht hx
   cases hstr:ti.isStr with
   |false=>rw[hstr]at hk;cases hk
   |true=>simp only[hstr,Af]at hk;exact wB hT ho hs ht hx hstr hk
  ·rename_i si ti hs ht _ _;exact vP hT ho hs ht hk
  ·cases hk
 ·rename_i f first caps ho
  split at hk
  ·rename_i hf
   split at hk
   ·rename_i bs hb;exact wC ho hf hb hk
   ·cases hk
  ·rename_i x hf
   split at hk
   ·rename_i b hx hc;exact xA ho hf hx hc hk
   ·cases hk
  ·cases hk
 ·rename_i t n c ho
  cases hM:(X.M&&IT X.T t)with
  |true=>rw[hM,Af]at hk;exact vK hT ho hk
  |false=>rw[hM,AT]at hk;exact vI hT ho hk
 ·rename_i t ho;exact wT ho hk
 ·rename_i t x i commaOk ho
  cases hF:Ze bl (ρ x)with
  |true=>rw[hF,Af]at hk;exact wW hT ho hk
  |false=>rw[hF,AT]at hk;exact wU hT ho hk
 ·rename_i t x i y ho;exact wX hT ho hk
 ·rename_i t x i y ho
  exact Gp (xs:=[x,i,y]) (λz hz=>by simpa [ho,Op.operands]using hz) hk λbl' kk' h=>wV (ρ:=λx=>frzV bl (ρ x)) hT ho h
 ·rename_i t x hi ho
  cases hR:(X.R&&NS (ρ x))with
  |true=>rw[hR,Af]at hk;exact vS hT ho hk
  |false=>rw[hR,AT]at hk;exact Th (lo:=none) hT ho hk
 ·rename_i t x lo hi _ ho
  cases hS:(X.S&&NS (ρ x))with
  |false=>rw[hS,AT]at hk;exact Th hT ho hk
  |true=>rw[hS,Af]at hk;exact Gp (xs:=x::(lo.toList++hi.toList)) (λz hz=>by cases lo<;>cases hi<;>simpa [ho,Op.operands]using hz) hk λbl' kk' h=>Th (ρ:=λx=>frzV bl (ρ x)) hT ho h
 ·rename_i t x f ho;exact uS hT ho hk
 ·rename_i t x f ho
  split at hk
  ·rename_i ti cs ht hx
   split at hk
   ·rename_i off n g hf
    cases h1:(g||Nat.beq n 1)with
    |false=>rw[h1]at hk;cases hk
    |true=>
     simp only[h1,Af]at hk;split at hk
     ·rename_i rc hs;exact wD hT ho ht hx hf h1 hs hk
     ·cases hk
   ·cases hk
  ·cases hk
 ·rename_i t x i ho;exact uU hT ho hk
 ·rename_i t x i ho
  split at hk
  ·rename_i ti s k j ht hx hi
   cases hstr:ti.isStr with
   |false=>rw[hstr]at hk;cases hk
   |true=>simp only[hstr,Af]at hk;obtain⟨hc,hk⟩:=B8 hk;obtain⟨c1,c2⟩:=andB hc;exact wE hT ho ht hx hi hstr (Az c1) (Az c2) hk
  ·rename_i ti cs k j ht hx hi;exact x6 hT ho ht hx hi hk
  ·cases hk
 ·rename_i x i ho
  split at hk
  ·rename_i ts hx
   split at hk
   ·rename_i t ht;exact wF ho hx ht hk
   ·cases hk
  ·cases hk
 ·rename_i c ho
  split at hk
  ·rename_i hc
   split at hk
   ·rename_i x t hx ht
    cases hargs:c.args.toList with
    |nil=>rw[hargs]at hx;simp at hx
    |cons y ys=>
     rw[hargs]at hx;cases ys with
     |cons _ _=>simp at hx
     |nil=>simp only[Bp,GV,BB,Cm]at hx;subst hx;exact vC hT ho hc hargs ht hk
   ·cases hk
  ·rename_i hc
   split at hk
   ·rename_i v hm;exact ZN (isMax:=false) ho hc hm hk
   ·cases hk
  ·rename_i hc
   split at hk
   ·rename_i v hm;exact ZN (isMax:=true) ho hc hm hk
   ·cases hk
  ·rename_i hc
   split at hk
   ·rename_i x y t t' hx ht
    cases htt:Nat.beq t t' with
    |false=>
     simp only[htt,AT]at hk;cases hargs:c.args.toList with
     |nil=>rw[hargs]at hx;simp at hx
     |cons a as=>
      rw[hargs]at hx;cases as with
      |nil=>simp at hx
      |cons b bs=>
       cases bs with
       |cons _ _=>simp at hx
       |nil=>simp only[Bp,GV,BB,Cm]at hx;obtain⟨h1,h2⟩:=hx;subst h1 h2;exact vU hT ho hc hargs ht hk
    |true=>
     have:=Ag htt;subst this;simp only[htt,Af]at hk;cases hargs:c.args.toList with
     |nil=>rw[hargs]at hx;simp at hx
     |cons a as=>
      rw[hargs]at hx;cases as with
      |nil=>simp at hx
      |cons b bs=>
       cases bs with
       |cons _ _=>simp at hx
       |nil=>
        simp only[Bp,GV,BB,Cm]at hx;obtain⟨h1,h2⟩:=hx;subst h1 h2;cases hO:(NT (ρ a)||NT (ρ b))with
        |true=>rw[hO,Af]at hk;exact vW hT ho hc hargs ht hk
        |false=>
        rw[hO,AT]at hk;cases hM:(X.M&&IT X.T t)with
        |true=>rw[hM,Af]at hk;exact vM hT ho hc hargs ht hk
        |false=>rw[hM,AT]at hk;exact vD hT ho hc hargs ht hk
   ·cases hk
  ·rename_i hc
   split at hk
   ·rename_i x t hx ht
    cases hargs:c.args.toList with
    |nil=>rw[hargs]at hx;simp at hx
    |cons y ys=>
     rw[hargs]at hx;cases ys with
     |cons _ _=>simp at hx
     |nil=>simp only[Bp,GV,BB,Cm]at hx;subst hx;exact vQ hT ho hc hargs ht hk
   ·cases hk
  ·rename_i hc
   split at hk
   ·rename_i x t hx ht
    cases hargs:c.args.toList with
    |nil=>rw[hargs]at hx;simp at hx
    |cons y ys=>
     rw[hargs]at hx;cases ys with
     |cons _ _=>simp at hx
     |nil=>simp only[Bp,GV,BB,Cm]at hx;subst hx;exact vR hT ho hc hargs ht hk
   ·cases hk
  ·rename_i hc
   split at hk
   ·rename_i x y t t' hx ht
    cases htt:Nat.beq t t' with
    |false=>rw[htt]at hk;cases hk
    |true=>
     have:=Ag htt;subst this;simp only[htt,Af]at hk;cases hargs:c.args.toList with
     |nil=>rw[hargs]at hx;simp at hx
     |cons a as=>
      rw[hargs]at hx;cases as with
      |nil=>simp at hx
      |cons b bs=>
       cases bs with
       |cons _ _=>simp at hx
       |nil=>simp only[Bp,GV,BB,Cm]at hx;obtain⟨h1,h2⟩:=hx;subst h1 h2;exact vO hT ho hc hargs ht hk
   ·cases hk
  ·cases hk
  ·split at hk
   ·rename_i f pre caps hcal
    unfold Zi at hcal;split at hcal
    ·rename_i x hc
     split at hcal
     ·rename_i f' bs hx
      simp only[Ac,AN]at hcal;obtain⟨rfl,rfl,rfl⟩:=hcal;exact x7 hΓ ho hc hx hk
     ·rename_i f' b hx
      simp only[Ac,AN]at hcal;obtain⟨rfl,rfl,rfl⟩:=hcal;exact x8 hΓ ho hc hx (by simpa using hk)
     ·cases hcal
    ·cases hcal
   ·cases hk
 ·cases hk
end
end
end Go.Lift
namespace Go.Lift
noncomputable section
open Go.RowKit
structure Rel {P:Program} (n:Nat) (ok0:OK0 P) (base:Nat) (pl:Nat->Option Pl) (tm:Nat->Option V) (bl:Nat->Option Blk) (a:Act) (w:World):Prop where
 defers:a.defers=[]
 size:a.tmps.size=n
 tmps:∀t v,tm t=some v->VRep (Ae ok0 base pl bl w) v (a.tmps.getD t undef)
 rel:RelB ok0 base pl bl w
def updD(tm:Nat->Option V)(dst:Option Nat)(v:V):Nat->Option V:=
 match dst with
 |some d=>upd tm d v
 |none=>tm
theorem Ow(tm:List (Nat×V))(dst:Option Nat)(v:V):look (putD tm dst v)=updD (look tm) dst v:=by
 cases dst with
 |none=>rfl
 |some d=>funext j;simp only[putD,updD,NM,upd]
def Jm(tm:Nat->Option V):Operand->V
 |.tmp t=>
  match tm t with
  |some v=>v
  |none=>.junk
 |.const v=>V.ofValue v
 |.global _=>.junk
 |.func f=>.c (.fn f [])
theorem aI(tm:List (Nat×V)):KG tm=Jm (look tm):=by funext x;cases x<;>rfl
theorem aJ{P:Program}{n:Nat}{ok0:OK0 P}{base:Nat}{pl:Nat->Option Pl}{tm:Nat->Option V}{bl:Nat->Option Blk}{a:Act}{w:World}(h:Rel n ok0 base pl tm bl a w)(x:Operand):VRep (Ae ok0 base pl bl w) (Jm tm x) (a.eval x):=by
 cases x with
 |tmp t=>
  simp only[Jm,Act.eval];split
  ·rename_i v hv;exact h.tmps t v hv
  ·exact trivial
 |const v=>exact V.ofValue_rep v
 |global g=>exact trivial
 |func f=>exact⟨[],rfl,rfl⟩
section
variable{P:Program}{ops:Array Oper}{n:Nat}
def EOk(P:Program)(ops:Array Oper)(n:Nat)(e:LogE)(tmA:Nat->Option V)(blA:Nat->Option Blk):Prop:=
 ∀(tm:Nat->Option V)(bl:Nat->Option Blk),(∀t∈e.tin,tm t=tmA t)->(∀b∈e.rd,bl b=blA b)->
  ∀(ok0:OK0 P)(base:Nat)(pl:Nat->Option Pl)(a:Act)(w:World),Rel n ok0 base pl tm bl a w->
  ∀(K:Act->World->Prop)(Q:Exit->Act->World->Prop),
   (∀pl' a' w',Rel n ok0 base pl' (updD tm e.dst e.v) (updL bl e.wr) a' w'->Step pl bl w pl' (updL bl e.wr) w'->K a' w')->wpOp P ops Q e.i K a w
def Valid(P:Program)(ops:Array Oper)(n:Nat):List LogE->(Nat->Option V)->(Nat->Option Blk)->Prop
 |[],_,_=>True
 |e::es,tm,bl=>EOk P ops n e tm bl/\Valid P ops n es (updD tm e.dst e.v) (updL bl e.wr)
def finT:List LogE->(Nat->Option V)->Nat->Option V
 |[],tm=>tm
 |e::es,tm=>finT es (updD tm e.dst e.v)
def finB:List LogE->(Nat->Option Blk)->Nat->Option Blk
 |[],bl=>bl
 |e::es,bl=>finB es (updL bl e.wr)
theorem EOk.agree{e:LogE}{tmA tmB:Nat->Option V}{blA blB:Nat->Option Blk}(h:EOk P ops n e tmA blA)(ht:∀t∈e.tin,tmB t=tmA t)(hb:∀b∈e.rd,blB b=blA b):EOk P ops n e tmB blB:=
 λtm bl h1 h2=>h tm bl (λt hm=>(h1 t hm).trans (ht t hm)) (λb hm=>(h2 b hm).trans (hb b hm))
theorem aK{tm:Nat->Option V}{dst:Option Nat}{v:V}{t:Nat}(h:dst≠some t):updD tm dst v t=tm t:=by
 cases dst with
 |none=>rfl
 |some d=>have:t≠d:=λe=>h (by rw[e]);simp[updD,upd,this]
theorem Ox{a b:List Nat}:meet a b=false↔∀x∈a,x∉b:=by
 induction a with
 |nil=>simp[meet]
 |cons y r ih=>
  simp only[meet,H5,ih,AH,forall_eq_or_imp];constructor
  ·rintro⟨h1,h2⟩
   exact⟨λhm=>(by rw[DA.2 hm]at h1;cases h1),h2⟩
  ·rintro⟨h1,h2⟩
   refine⟨?_,h2⟩;cases hm:memB y b with
   |false=>rfl
   |true=>exact absurd (DA.1 hm) h1
structure Apart (x y:LogE):Prop where
 t1:∀t∈y.tin,x.dst≠some t
 t2:∀t∈x.tin,y.dst≠some t
 t3:∀d,x.dst=some d->y.dst≠some d
 b1:∀b∈y.rd,b∉wids x.wr
 b2:∀b∈x.rd,b∉wids y.wr
 b3:∀b∈wids x.wr,b∉wids y.wr
theorem xC{x y:LogE}(h:Jb x y=false):Apart x y:=by
 unfold Jb at h;simp only[H5]at h;obtain⟨⟨⟨h1,h2⟩,h3⟩,h4⟩:=h;have h3:=Ox.1 h3;have h4:=Ox.1 h4;refine⟨λt ht hd=>?_,λt ht hd=>?_,λd hd hd'=>?_,λb hb hw=>?_,λb hb hw=>h4 b hw hb,λb hb hw=>?_⟩
 ·rw[hd]at h1
  simp only[H5]at h1;rw[DA.2 ht]at h1;cases h1.1
 ·rw[hd]at h2
  simp only at h2;rw[DA.2 ht]at h2;cases h2
 ·rw[hd,hd']at h1
  simp only[H5]at h1;rw[GY]at h1;cases h1.2
 ·exact h3 b hw (BG _ hb)
 ·exact h3 b hb (BM _ hw)
theorem xD{x y:LogE}(h:Apart x y)(tm:Nat->Option V)(bl:Nat->Option Blk):updD (updD tm x.dst x.v) y.dst y.v=updD (updD tm y.dst y.v) x.dst x.v/\updL (updL bl x.wr) y.wr=updL (updL bl y.wr) x.wr:=by
 constructor
 ·cases hx:x.dst with
  |none=>rfl
  |some d=>
   cases hy:y.dst with
   |none=>rfl
   |some d'=>
    have hne:d≠d':=λe=>h.t3 d hx (by rw[hy,e]);funext j;simp only[updD,upd];by_cases h1:j=d'
    ·by_cases h2:j=d
     ·exact absurd (h2.symm.trans h1) hne
     ·simp[h1,Ne.symm hne]
    ·by_cases h2:j=d<;>simp[h1,h2,hne]
 ·funext b
  by_cases h1:b∈wids y.wr
  ·have h2:b∉wids x.wr:=λh2=>h.b3 b h2 h1
   rw[Jl (bl':=bl) h1,Ds (bl:=updL bl y.wr) h2]
  ·rw[Ds h1]
   by_cases h2:b∈wids x.wr
   ·exact Jl h2
   ·rw[Ds h2,Ds h2,Ds h1]
theorem Valid.bubble{e:LogE}{post:List LogE}:∀{pre:List LogE}{tm:Nat->Option V}{bl:Nat->Option Blk},Valid P ops n (pre++e::post) tm bl->(∀x∈pre,Apart x e)->EOk P ops n e tm bl/\Valid P ops n (pre++post) (updD tm e.dst e.v) (updL bl e.wr)/\finT (pre++e::post) tm=finT (pre++post) (updD tm e.dst e.v)/\finB (pre++e::post) bl=finB (pre++post) (updL bl e.wr)
 |[],tm,bl,h,_=>⟨h.1,h.2,rfl,rfl⟩
 |x::pre,tm,bl,h,ha=>by
  have hx:=ha x (by simp);obtain⟨h1,h2,h3,h4⟩:=Valid.bubble h.2 λy hy=>ha y (by simp[hy]);obtain⟨c1,c2⟩:=xD hx tm bl;refine⟨h1.agree (λt ht=>(aK (hx.t1 t ht)).symm) (λb hb=>(Ds (hx.b1 b hb)).symm),⟨?_,?_⟩,?_,?_⟩
  ·exact EOk.agree h.1 (λt ht=>aK (hx.t2 t ht)) (λb hb=>Ds (hx.b2 b hb))
  ·show Valid P ops n (pre++post) (updD (updD tm e.dst e.v) x.dst x.v) (updL (updL bl e.wr) x.wr)
   rw[<-c1,<-c2];exact h2
  ·show finT (pre++e::post) (updD tm x.dst x.v)=finT (pre++post) (updD (updD tm e.dst e.v) x.dst x.v)
   rw[h3,c1]
  ·show finB (pre++e::post) (updL bl x.wr)=finB (pre++post) (updL (updL bl e.wr) x.wr)
   rw[h4,c2]
theorem TA{Q:Exit->Act->World->Prop}{ok0:OK0 P}{base:Nat}:∀{es:List LogE}{pl:Nat->Option Pl}{tm:Nat->Option V}{bl:Nat->Option Blk}{a:Act}{w:World},Valid P ops n es tm bl->Rel n ok0 base pl tm bl a w->(∀pl' a' w',Rel n ok0 base pl' (finT es tm) (finB es bl) a' w'->Step pl bl w pl' (finB es bl) w'->Q .normal a' w')->wpOps P ops Q (es.map (·.i)) a w
 |[],pl,tm,bl,a,w,_,hr,hq=>hq pl a w hr (Step.refl pl bl w)
 |e::es,pl,tm,bl,a,w,hv,hr,hq=>by rw[Bp,wpOps_cons];refine hv.1 tm bl (λ_ _=>rfl) (λ_ _=>rfl) ok0 base pl a w hr _ Q λpl' a' w' hr' hs'=>?_;exact TA hv.2 hr' λpl2 a2 w2 hr2 hs2=>hq pl2 a2 w2 hr2 (hs'.trans hs2)
theorem aL{ms:List Nat}:∀{es:List Edge}{i:Nat},Nat.testBit (EG ms es) i=true->∃e∈es,Region.binds .any e=true/\(e.on=i\/Nat.testBit (ms.getD e.on 0) i=true)
 |[],i,h=>by simp[EG]at h
 |e::r,i,h=>by
  simp only[EG]at h
  have h':Nat.testBit (EG ms r) i=true\/Nat.testBit (bif Region.binds .any e then Nat.lor (Nat.shiftLeft 1 e.on) (ms.getD e.on 0)else 0) i=true:=by
   have h2:Nat.testBit (EG ms r|||(bif Region.binds .any e then Nat.lor (Nat.shiftLeft 1 e.on) (ms.getD e.on 0)else 0)) i=true:=h
   rwa [Nat.testBit_or,GR]at h2
  rcases h' with h'|h'
  ·obtain⟨e',he,hb⟩:=aL h'
   exact⟨e',by simp[he],hb⟩
  ·cases hb:Region.binds .any e with
   |false=>rw[hb]at h';simp at h'
   |true=>
    simp only[hb,Af]at h';have h3:Nat.testBit (1<<<e.on|||ms.getD e.on 0) i=true:=h';rw[Nat.testBit_or,GR]at h3;refine⟨e,by simp,hb,?_⟩;rcases h3 with h3|h3
    ·left
     rw[Nat.testBit_shiftLeft]at h3;simp only[Bv,EZ,ge_iff_le]at h3;obtain⟨h4,h5⟩:=h3
     have h6:i-e.on=0:=by have:=Nat.testBit_one_eq_true_iff_self_eq_zero.1 h5;exact this
     omega
    ·exact .inr h3
theorem aM:∀{l:List Oper}{acc:List Nat}{j:Nat},(Dd l acc)[acc.length+j]?=(l[j]?).map λo=>EG ((Dd l acc).take (acc.length+j)) o.after.toList
 |[],acc,j=>by simp[Dd]
 |o::r,acc,0=>by
  have h1:∀(l:List Oper)(a:List Nat),∃x,Dd l a=a++x:=by
   intro l
   induction l with
   |nil=>intro a;exact⟨[],by simp[Dd]⟩
   |cons o l ih=>intro a;obtain⟨x,hx⟩:=ih (a++[EG a o.after.toList]);exact⟨EG a o.after.toList::x,by simp only[Dd];rw[hx];simp⟩
  obtain⟨x,hx⟩:=h1 r (acc++[EG acc o.after.toList]);simp only[Dd,hx];simp
 |o::r,acc,j+1=>by
  have ih:=aM (l:=r) (acc:=acc++[EG acc o.after.toList]) (j:=j);simp only[Dd];simp only[Av,CO]at ih;have e:acc.length+(j+1)=acc.length+1+j:=by omega
  rw[e,ih];simp
theorem TB{listed:Array Bool}{i:Nat}:i∈Region.ready .any ops listed↔∃o,ops[i]?=some o/\listed.getD i true=false/\∀e∈o.after,Region.binds .any e=true->listed.getD e.on false=true:=by
 unfold Region.ready;rw[List.mem_filter,Kt];constructor
 ·rintro⟨h1,h2⟩
  simp only[Bv,IK]at h2;have ho:ops[i]?=some ops[i]:=IE h1;rw[ho]at h2;simp only[Cl,Gb,YQ]at h2;refine⟨_,ho,h2.1,λe he hb=>?_⟩;have:=h2.2 e he;simpa [hb]using this
 ·rintro⟨o,ho,h1,h2⟩
  refine⟨(DM.1 ho).1,?_⟩;simp only[Bv,IK];refine⟨h1,?_⟩;rw[ho];simp only[Cl,Gb,YQ];intro e he;cases hb:Region.binds .any e with
  |false=>rfl
  |true=>simpa using h2 e he hb
def aN(ops:Array Oper)(listed:Array Bool):Prop:=∀(j:Nat)(o:Oper),ops[j]?=some o->listed.getD j false=true->∀e∈o.after,Region.binds .any e=true->listed.getD e.on false=true
theorem xE{listed:Array Bool}(hc:aN ops listed)(hback:∀(j:Nat)(o:Oper),ops[j]?=some o->∀e∈o.after,Region.binds .any e=true->e.on<j):∀(j i:Nat)(o:Oper),ops[j]?=some o->Nat.testBit ((Dd ops.toList []).getD j 0) i=true->(∀e∈o.after,Region.binds .any e=true->listed.getD e.on false=true)->listed.getD i false=true:=by
 intro j
 induction j using Nat.strongRecOn with
 |_ j ih=>
  intro i o ho hbit hl;have hm:=aM (l:=ops.toList) (acc:=[]) (j:=j);simp only[Bw,BW]at hm;have ho':ops.toList[j]?=some o:=by simpa using ho
  rw[ho']at hm;simp only[Cl]at hm;rw[List.getD,hm]at hbit;simp only[Gb]at hbit;obtain⟨e,he,hb,h⟩:=aL hbit;have he':e∈o.after:=by simpa using he
  have hlt:=hback j o ho e he' hb;have hle:=hl e he' hb;rcases h with h|h
  ·rw[<-h];exact hle
  ·have hon:e.on<ops.size:=Nat.lt_trans hlt (DM.1 ho).1
   have ho2:ops[e.on]?=some ops[e.on]:=IE hon;refine ih e.on hlt i _ ho2 ?_ (hc e.on _ ho2 hle);rw[List.getD,Kk hlt]at h;exact h
theorem aO{Q:Exit->Act->World->Prop}{ok0:OK0 P}{base:Nat}(hback:∀(j:Nat)(o:Oper),ops[j]?=some o->∀e∈o.after,Region.binds .any e=true->e.on<j):∀(k:Nat){es:List LogE}{listed:Array Bool}{pl:Nat->Option Pl}{tm:Nat->Option V}{bl:Nat->Option Blk}{a:Act}{w:World},es.length=k->listed.size=ops.size->aN ops listed->(∀i,i<ops.size->(listed.getD i true=false↔∃e∈es,e.i=i))->es.Pairwise (λx y=>x.i<y.i)->(∀e∈es,e.i<ops.size)->es.Pairwise (λx y=>Jb x y=false\/Nat.testBit ((Dd ops.toList []).getD y.i 0) x.i=true)->Valid P ops n es tm bl->Rel n ok0 base pl tm bl a w->(∀pl' a' w',Rel n ok0 base pl' (finT es tm) (finB es bl) a' w'->Step pl bl w pl' (finB es bl) w'->Q .normal a' w')->wpAny P .any ops Q k listed a w:=by
 intro k
 induction k with
 |zero=>
  intro es listed pl tm bl a w hk hsz hc hl hs hlt hf hv hr hq;have:es=[]:=D5 hk;subst this;refine⟨?_,hq pl a w hr (Step.refl pl bl w)⟩;cases hrd:Region.ready .any ops listed with
  |nil=>rfl
  |cons i r=>
   have hi:i∈Region.ready .any ops listed:=by rw[hrd];simp
   obtain⟨o,ho,h1,_⟩:=TB.1 hi;obtain⟨e,he,_⟩:=(hl i (DM.1 ho).1).1 h1;simp at he
 |succ k ih=>
  intro es listed pl tm bl a w hk hsz hc hl hs hlt hf hv hr hq;refine⟨λhrd=>?_,λi hi=>?_⟩
  ·
   exfalso;cases es with
   |nil=>simp at hk
   |cons e es=>
    have hei:=hlt e (by simp);have ho:ops[e.i]?=some ops[e.i]:=IE hei
    have:e.i∈Region.ready .any ops listed:=by
     refine TB.2 ⟨_,ho,(hl e.i hei).2 ⟨e,by simp,rfl⟩,λd hd hb=>?_⟩;have hdl:=hback e.i _ ho d hd hb;have hds:d.on<ops.size:=by omega
     cases hg:listed.getD d.on true with
     |true=>
      have hdl':d.on<listed.size:=by omega
      simp only[Co,IE hdl',Gb]at hg⊢;exact hg
     |false=>
      obtain⟨x,hx,hxi⟩:=(hl d.on hds).1 hg;rcases AH.1 hx with rfl|hx
      ·omega
      ·have:=(D8.1 hs).1 x hx
       omega
    rw[hrd]at this;simp at this
  ·obtain⟨o,ho,h1,h2⟩:=TB.1 hi
   have hisz:=(DM.1 ho).1;obtain⟨e,he,hei⟩:=(hl i hisz).1 h1;obtain⟨pre,post,rfl⟩:=List.append_of_mem he;have hpf:=D7.1 hf;have hps:=D7.1 hs
   have hap:∀x∈pre,Apart x e:=by
    intro x hx;rcases hpf.2.2 x hx e (by simp)with h|h
    ·exact xC h
    ·exfalso
     rw[hei]at h;have hxl:=xE hc hback i x.i o ho h h2;have hxs:=hlt x (by simp[hx]);have hxu:=(hl x.i hxs).2 ⟨x,by simp[hx],rfl⟩;have hxs':x.i<listed.size:=by omega
     simp only[Co,IE hxs',Gb]at hxl hxu;rw[hxl]at hxu;cases hxu
   obtain⟨b1,b2,b3,b4⟩:=Valid.bubble hv hap;subst hei;refine b1 tm bl (λ_ _=>rfl) (λ_ _=>rfl) ok0 base pl a w hr _ Q λpl' a' w' hr' hs'=>?_;refine ih (es:=pre++post) (by simp at hk⊢;omega) (by simpa using hsz) ?_ ?_ ?_ ?_ ?_ b2 hr' ?_
   ·
    intro j oj hoj hj d hd hb
    have hget:∀q,listed.getD q false=true->(listed.setIfInBounds e.i true).getD q false=true:=by
     intro q hq;simp only[Co,N2];split
     ·split<;>simp_all
     ·simpa [Co]using hq
    refine hget _ ?_;by_cases hje:j=e.i
    ·subst hje
     rw[ho]at hoj;injection hoj with hoj;subst hoj;exact h2 d hd hb
    ·refine hc j oj hoj ?_ d hd hb
     simp only[Co,N2]at hj⊢;rw[if_neg (λh=>hje h.symm)]at hj;exact hj
   ·intro q hq
    have hqs:q<listed.size:=by omega
    have hes:e.i<listed.size:=by omega
    by_cases hqe:q=e.i
    ·subst hqe
     constructor
     ·intro h
      simp[Co,hes]at h
     ·rintro⟨x,hx,hxi⟩
      exfalso;rcases Ba.1 hx with hx|hx
      ·have:=hps.2.2 x hx e (by simp);omega
      ·have:=(D8.1 hps.2.1).1 x hx;omega
    ·have h3:(listed.setIfInBounds e.i true).getD q true=listed.getD q true:=by simp only[Co,N2];rw[if_neg (λh=>hqe h.symm)]
     rw[h3,hl q hq];constructor
     ·rintro⟨x,hx,hxi⟩
      refine⟨x,?_,hxi⟩;rcases Ba.1 hx with hx|hx
      ·exact BG _ hx
      ·rcases AH.1 hx with rfl|hx
       ·exact absurd hxi.symm hqe
       ·exact BM _ hx
     ·rintro⟨x,hx,hxi⟩
      refine⟨x,?_,hxi⟩;rcases Ba.1 hx with hx|hx
      ·exact BG _ hx
      ·exact BM _ (AU _ hx)
   ·exact D7.2 ⟨hps.1,(D8.1 hps.2.1).2,λx hx y hy=>hps.2.2 x hx y (by simp[hy])⟩
   ·intro x hx
    refine hlt x ?_;rcases Ba.1 hx with hx|hx
    ·exact BG _ hx
    ·exact BM _ (AU _ hx)
   ·exact D7.2 ⟨hpf.1,(D8.1 hpf.2.1).2,λx hx y hy=>hpf.2.2 x hx y (by simp[hy])⟩
   ·intro pl2 a2 w2 hr2 hs2
    rw[<-b3,<-b4]at hr2;rw[<-b4]at hs2;exact hq pl2 a2 w2 hr2 (hs'.trans hs2)
end
end
end Go.Lift
namespace Go.Lift
noncomputable section
open Go.RowKit
section
variable{P:Program}{ops:Array Oper}{n:Nat}{β:Type}{r:β}
theorem Rel.put{ok0:OK0 P}{base:Nat}{pl pl':Nat->Option Pl}{tm:Nat->Option V}{bl bl':Nat->Option Blk}{a:Act}{w w':World}(h:Rel n ok0 base pl tm bl a w){dst:Option Nat}(hd:KH n dst=true){v:V}{val:Value}(hr:RelB ok0 base pl' bl' w')(hs:Step pl bl w pl' bl' w')(hv:VRep (Ae ok0 base pl' bl' w') v val):Rel n ok0 base pl' (updD tm dst v) bl' (a.put dst val) w':=by
 have hold:∀t v,tm t=some v->VRep (Ae ok0 base pl' bl' w') v (a.tmps.getD t undef):=λt v ht=>(h.tmps t v ht).mono hs.ext;cases dst with
 |none=>exact⟨h.defers,h.size,hold,hr⟩
 |some d=>
  have hdn:d<n:=BL hd;refine⟨h.defers,by simp[Act.put,h.size],λt v' ht=>?_,hr⟩;simp only[updD,upd]at ht;simp only[Act.put,Co,N2];by_cases e:t=d
  ·subst e
   simp only[B7,Ac]at ht;subst ht;have:t<a.tmps.size:=by rw[h.size];exact hdn
   simp[this,hv]
  ·rw[if_neg e]at ht
   rw[if_neg (λh=>e h.symm)];have:=hold t v' ht
   rwa [Co]at this
theorem aP{t:Nat}:∀{l:List Operand},Operand.tmp t∈l->t∈EF l
 |x::l,h=>by
  rcases AH.1 h with h|h
  ·subst h;simp[EF]
  ·have:=aP h
   cases x<;>simp_all [EF]
theorem xF{tm tm':Nat->Option V}{l:List Operand}(h:∀t∈EF l,tm t=tm' t){x:Operand}(hx:x∈l):Jm tm x=Jm tm' x:=by
 cases x with
 |tmp t=>simp only[Jm,h t (aP hx)]
 |_=>rfl
theorem xG{i:Nat}{o:Oper}(ho:ops[i]?=some o)(hd:KH n o.dst=true){σ:St}{v:V}{rd:List Nat}{wr:List (Nat×Blk)}{tin:List Nat}(hg:o.guard=none/\tin=EF o.op.operands.toList\/∃t want,HM ops o=some (t,want)/\look σ.tm t=some (.c (.bool want))/\tin=t::EF o.op.operands.toList)(hs:∀bl2,(∀b∈rd,bl2 b=look σ.bl b)->OpOk P o (KG σ.tm) bl2 v wr):EOk P ops n ⟨i,o.dst,v,tin,rd,wr⟩ (look σ.tm) (look σ.bl):=by
 intro tm bl ht hb ok0 base pl a w hr K Q hk
 have hin:∀t∈EF o.op.operands.toList,tm t=look σ.tm t:=by
  intro t htm;rcases hg with⟨_,e⟩|⟨t',want,_,_,e⟩
  ·exact ht t (by rw[e];exact htm)
  ·exact ht t (by rw[e];exact AU _ htm)
 have hw:Region.wanted o (yielded ops a.tmps)=true:=by
  unfold Region.wanted;rcases hg with⟨e,_⟩|⟨t',want,e1,e2,e3⟩
  ·rw[e]
  ·unfold HM at e1
   split at e1
   ·cases e1
   ·rename_i j want' hgd
    rw[hgd];cases hj:(ops[j]?).bind (·.dst)with
    |none=>rw[hj]at e1;cases e1
    |some t2=>
     rw[hj]at e1;simp only[Cl,Ac,AN]at e1;obtain⟨e4,e5⟩:=e1;subst e4 e5;have h1:=ht t2 (by rw[e3];simp);rw[e2]at h1;have h2:=hr.tmps t2 _ h1;simp only[VRep,CRep]at h2;simp only[yielded,hj,NF];rw[Co]at h2;cases h3:a.tmps[t2]? with
     |none=>rw[h3]at h2;simp[undef]at h2
     |some u=>rw[h3]at h2;simp only[Gb]at h2;subst h2;simp
 unfold wpOp;rw[ho];simp only[hw,B7];refine .inl (hs bl hb ok0 base pl w a hr.rel (λx hx=>?_) K Q λval pl' w' hr' hst hv=>hk pl' _ w' (hr.put hd hr' hst hv) hst);have hx':x∈o.op.operands.toList:=by simpa using hx
 rw[aI,<-xF hin hx'];exact aJ hr x
theorem xH{i:Nat}{o:Oper}(ho:ops[i]?=some o)(hd:KH n o.dst=true){tmA:Nat->Option V}{blA:Nat->Option Blk}{t:Nat}{want:Bool}(hg:HM ops o=some (t,want)){u:V}(ht:tmA t=some u)(hu:u=.tup []\/u=.c (.bool (!want))):EOk P ops n ⟨i,o.dst,.tup [],[t],[],[]⟩ tmA blA:=by
 intro tm bl htm hb ok0 base pl a w hr K Q hk;have h1:=htm t (by simp);rw[ht]at h1;have h2:=hr.tmps t _ h1
 have hw:Region.wanted o (yielded ops a.tmps)=false:=by
  unfold Region.wanted;unfold HM at hg;split at hg
  ·cases hg
  ·rename_i j want' hgd
   rw[hgd];cases hj:(ops[j]?).bind (·.dst)with
   |none=>rw[hj]at hg;cases hg
   |some t2=>
    rw[hj]at hg;simp only[Cl,Ac,AN]at hg;obtain⟨e4,e5⟩:=hg;subst e4 e5;simp only[yielded,hj,NF];rw[Co]at h2;cases h3:a.tmps[t2]? with
    |none=>rfl
    |some u'=>
     rw[h3]at h2;simp only[Gb]at h2;rcases hu with e|e
     ·subst e
      obtain⟨vs,h4,h5⟩:=h2;simp only[TReps]at h5;subst h5 h4;rfl
     ·subst e
      simp only[VRep,CRep]at h2;subst h2;cases want'<;>rfl
 unfold wpOp;rw[ho];simp only[hw,DO,Bk];have hundef:VRep (Ae ok0 base pl bl w) (.tup []) undef:=⟨[],rfl,rfl⟩;exact hk pl _ w (hr.put hd hr.rel (Step.refl pl bl w) hundef) (Step.refl pl bl w)
theorem Jn{tm:List (Nat×V)}{t:Nat}{v:V}(h:look tm t=some v):look (put tm t v)=look tm:=by
 funext j;rw[NM];split
 ·rename_i e;rw[e,h]
 ·rfl
theorem Oy{X:Ctx}(hT:TOk P X.T)(hΓ:ΓOk P X.Γ){k:St->List LogE->Option β}:∀{l:List (Nat×Oper)}{σ:St}{log:List LogE},(∀p∈l,ops[p.1]?=some p.2)->FA X n ops l σ log k=some r->∃es σ',k σ' (es.reverse++log)=some r/\es.map (·.i)=l.map (·.1)/\Valid P ops n es (look σ.tm) (look σ.bl)/\look σ'.tm=finT es (look σ.tm)/\look σ'.bl=finB es (look σ.bl)
 |[],σ,log,_,h=>⟨[],σ,h,rfl,trivial,rfl,rfl⟩
 |(i,o)::rest,σ,log,hl,h=>by
  have ho:ops[i]?=some o:=hl (i,o) (by simp);have hl':∀p∈rest,ops[p.1]?=some p.2:=λp hp=>hl p (by simp[hp]);simp only[FA]at h;cases hd:KH n o.dst with
  |false=>rw[hd]at h;cases h
  |true=>
   rw[hd]at h;simp only[Af]at h
   have take:∀(σ1:St)(tin:List Nat),look σ1.tm=look σ.tm->look σ1.bl=look σ.bl->
     (o.guard=none/\tin=EF o.op.operands.toList\/∃t want,HM ops o=some (t,want)/\look σ1.tm t=some (.c (.bool want))/\tin=t::EF o.op.operands.toList)->
     (NW X o (KG σ1.tm) (look σ1.bl) σ1.nx λv rd wr=>FA X n ops rest ⟨putD σ1.tm o.dst v,puts σ1.bl wr,SN σ1.nx wr⟩ (⟨i,o.dst,v,tin,rd,wr⟩::log) k)=some r->
     ∃es σ',k σ' (es.reverse++log)=some r/\es.map (·.i)=((i,o)::rest).map (·.1)/\Valid P ops n es (look σ.tm) (look σ.bl)/\look σ'.tm=finT es (look σ.tm)/\look σ'.bl=finB es (look σ.bl):=by
    intro σ1 tin et eb hg h;obtain⟨v,rd,wr,hk,hs⟩:=xB hT hΓ h;obtain⟨es,σ',h1,h2,h3,h4,h5⟩:=Oy hT hΓ hl' hk;refine⟨⟨i,o.dst,v,tin,rd,wr⟩::es,σ',by simpa using h1,by simp[h2],⟨?_,?_⟩,?_,?_⟩
    ·rw[<-et,<-eb]
     exact xG ho hd hg hs
    ·simp only[Ow,SP,et,eb]at h3
     exact h3
    ·rw[h4];simp only[Ow,et,finT]
    ·rw[h5];simp only[SP,eb,finB]
   have skip:∀(σ1:St)(t:Nat)(want:Bool)(u:V),look σ1.tm=look σ.tm->look σ1.bl=look σ.bl->HM ops o=some (t,want)->look σ.tm t=some u->(u=.tup []\/u=.c (.bool (!want)))->
     (FA X n ops rest ⟨putD σ1.tm o.dst (.tup []),σ1.bl,σ1.nx⟩ (⟨i,o.dst,.tup [],[t],[],[]⟩::log) k)=some r->
     ∃es σ',k σ' (es.reverse++log)=some r/\es.map (·.i)=((i,o)::rest).map (·.1)/\Valid P ops n es (look σ.tm) (look σ.bl)/\look σ'.tm=finT es (look σ.tm)/\look σ'.bl=finB es (look σ.bl):=by
    intro σ1 t want u et eb hg ht hu h;obtain⟨es,σ',h1,h2,h3,h4,h5⟩:=Oy hT hΓ hl' h;refine⟨⟨i,o.dst,.tup [],[t],[],[]⟩::es,σ',by simpa using h1,by simp[h2],⟨xH ho hd hg ht hu,?_⟩,?_,?_⟩
    ·simp only[Ow,et,eb]at h3
     exact h3
    ·rw[h4];simp only[Ow,et,finT]
    ·rw[h5];simp only[eb,finB,updL]
   split at h
   ·rename_i hgd
    exact take σ _ rfl rfl (.inl ⟨hgd,rfl⟩) h
   ·split at h
    ·cases h
    ·rename_i t want hg
     split at h
     ·rename_i ht
      exact skip σ t want _ rfl rfl hg ht (.inl rfl) h
     ·rename_i g ht
      cases want<;>cases g<;>simp only[Af,AT,GT,Bool.not_false]at h
      ·exact take ⟨put σ.tm t (.c (.bool false)),σ.bl,σ.nx⟩ _ (Jn ht) rfl (.inr ⟨t,false,hg,by rw[Jn ht,ht],rfl⟩) h
      ·exact skip ⟨put σ.tm t (.c (.bool true)),σ.bl,σ.nx⟩ t false _ (Jn ht) rfl hg ht (.inr rfl) h
      ·exact skip ⟨put σ.tm t (.c (.bool false)),σ.bl,σ.nx⟩ t true _ (Jn ht) rfl hg ht (.inr rfl) h
      ·exact take ⟨put σ.tm t (.c (.bool true)),σ.bl,σ.nx⟩ _ (Jn ht) rfl (.inr ⟨t,true,hg,by rw[Jn ht,ht],rfl⟩) h
     ·cases h
end
end
end Go.Lift
namespace Go.Lift
noncomputable section
open Go.RowKit
def AExit.toExit:AExit->Exit
 |.normal=>.normal
 |.exit id=>.exit id
 |.ret=>.ret
structure Steps where
 rel:(Nat->Option Pl)->(Nat->Option Blk)->World->(Nat->Option Pl)->(Nat->Option Blk)->World->Prop
 refl:∀pl bl w,rel pl bl w pl bl w
 trans:∀{pl pl1 pl2 bl bl1 bl2 w w1 w2},rel pl bl w pl1 bl1 w1->rel pl1 bl1 w1 pl2 bl2 w2->rel pl bl w pl2 bl2 w2
 drawn:∀{pl bl w pl' bl' w'},Step pl bl {w with drawn:=w.drawn+1} pl' bl' w'->rel pl bl w pl' bl' w'
 of:∀{pl bl w pl' bl' w'},Step pl bl w pl' bl' w'->rel pl bl w pl' bl' w'
theorem Step.undrawn{pl pl':Nat->Option Pl}{bl bl':Nat->Option Blk}{w w':World}(h:Step pl bl {w with drawn:=w.drawn+1} pl' bl' w'):Step pl bl w pl' bl' w':=⟨h.os,h.tape,h.output,h.size,h.out,h.cells,h.rows⟩
@[reducible] def xI(m:Nat):Steps:=⟨StepM m,StepM.refl m,StepM.trans,λh=>h.undrawn.toM,Step.toM⟩
@[reducible] def aQ:Steps:=⟨Step,Step.refl,Step.trans,Step.undrawn,id⟩
structure Fr where
 O:(Nat->Option Blk)->(Nat->Option Blk)
 upd:∀f wr,O (updL f wr)=updL (O f) wr
 al:Nat->Prop
 agree:∀f b,al b->O f b=f b
@[reducible] def fr0:Fr:=⟨λf=>f,λ_ _=>rfl,λ_=>True,λ_ _ _=>rfl⟩
def ov(F f:Nat->Option Blk):Nat->Option Blk:=λi=>
 match f i with
 |some B=>some B
 |none=>F i
theorem aR(F:Nat->Option Blk):∀(wr:List (Nat×Blk))(f:Nat->Option Blk),ov F (updL f wr)=updL (ov F f) wr
 |[],_=>rfl
 |(i,x)::r,f=>by simp only[updL];rw[aR F r];congr 1;funext j;simp only[ov,upd];by_cases h:j=i<;>simp[h]
@[reducible] def frF(ids:List Nat)(F:Nat->Option Blk)(h:∀b∈ids,F b=none):Fr:=⟨ov F,λf wr=>aR F wr f,λb=>b∈ids,λf b hb=>by
 simp only[ov];cases hf:f b with
 |some B=>rfl
 |none=>exact h b hb⟩
section
variable{P:Program}{n:Nat}{R:Steps}{ι:Type}{fr:ι->Fr}{β:Type}{r:β}
theorem Valid.among{ops:Array Oper}(fr:Fr):∀{es:List LogE}{tm:Nat->Option V}{bl:Nat->Option Blk},Valid P ops n es tm bl->(∀e∈es,∀b∈e.rd,fr.al b)->Valid P ops n es tm (fr.O bl)
 |[],_,_,_,_=>trivial
 |e::es,tm,bl,⟨h1,h2⟩,ha=>⟨h1.agree (λ_ _=>rfl) (λb hb=>fr.agree bl b (ha e (by simp) b hb)),by rw[<-fr.upd];exact Valid.among fr h2 λe' he'=>ha e' (AU _ he')⟩
theorem aS(fr:Fr):∀{es:List LogE}{bl:Nat->Option Blk},finB es (fr.O bl)=fr.O (finB es bl)
 |[],_=>rfl
 |e::es,bl=>by simp only[finB];rw[<-fr.upd];exact aS fr
def SimR(P:Program)(n:Nat)(R:Steps){ι:Type}(fr:ι->Fr)(c:Code)(σ:St)(k:Kx β)(r:β):Prop:=
 ∃e' σ',k e' σ'=some r/\∀(i:ι)(ok0:OK0 P)(base:Nat)(pl:Nat->Option Pl)(a:Act)(w:World),Rel n ok0 base pl (look σ.tm) ((fr i).O (look σ.bl)) a w->
  c.wp P (λe a' w'=>e=e'.toExit/\∃pl',Rel n ok0 base pl' (look σ'.tm) ((fr i).O (look σ'.bl)) a' w'/\R.rel pl ((fr i).O (look σ.bl)) w pl' ((fr i).O (look σ'.bl)) w') a w
def xJ(P:Program)(n:Nat)(R:Steps){ι:Type}(fr:ι->Fr)(c:Code)(cut:Cut):Prop:=
 ∀{β:Type}(σ:St)(k:Kx β)(r:β),cut.run σ k=some r->SimR P n R fr c σ k r
def Sim(P:Program)(n m:Nat)(c:Code)(σ:St)(k:Kx β)(r:β):Prop:=
 ∃e' σ',k e' σ'=some r/\∀(ok0:OK0 P)(base:Nat)(pl:Nat->Option Pl)(a:Act)(w:World),Rel n ok0 base pl (look σ.tm) (look σ.bl) a w->
  c.wp P (λe a' w'=>e=e'.toExit/\∃pl',Rel n ok0 base pl' (look σ'.tm) (look σ'.bl) a' w'/\StepM m pl (look σ.bl) w pl' (look σ'.bl) w') a w
def Jo(P:Program)(n m:Nat)(c:Code)(cut:Cut):Prop:=
 ∀{β:Type}(σ:St)(k:Kx β)(r:β),cut.run σ k=some r->Sim P n m c σ k r
def find(q:Nat):Nat->Code->List Code
 |p,c=>
  let here:List Code:=bif Nat.beq p q then [c]else []
  match c with
  |.seq a b=>here++(find q (2*p) a++find q (2*p+1) b)
  |.cond _ a b=>here++(find q (2*p) a++find q (2*p+1) b)
  |.block _ a=>here++find q (2*p) a
  |_=>here
theorem Gq(p:Nat)(c:Code):c∈find p p c:=by unfold find;cases c<;>simp
theorem KX:∀(l:List Oper)(s:Nat),(Dp s l).map (·.1)=List.range' s l.length
 |[],_=>rfl
 |o::l,s=>by simp[Dp,KX l,List.range'_succ]
theorem KY{ops:Array Oper}:∀(l:List Oper)(s:Nat),ops.toList.drop s=l->∀p∈Dp s l,ops[p.1]?=some p.2
 |[],_,_,p,hp=>by simp[Dp]at hp
 |o::l,s,h,p,hp=>by
  have hs:s<ops.toList.length:=by
   rcases HD s ops.toList.length with h1|h1
   ·exact h1
   ·rw[N4 h1]at h;cases h
  rw[EY hs]at h;injection h with h1 h2;simp only[Dp,AH]at hp;rcases hp with e|hp
  ·subst e
   simp only[Array.getElem_toList]at h1;rw[<-h1];exact IE (by simpa using hs)
  ·exact KY l (s+1) h2 p hp
theorem TC:∀{l:List (Nat×Oper)},FB l=true->∀p∈l,∀e∈p.2.after,Region.binds .any e=true->e.on<p.1
 |[],_,p,hp=>by simp at hp
 |(i,o)::l,h,p,hp=>by
  simp only[FB,Bv,C1]at h;rcases AH.1 hp with e|hp
  ·subst e
   intro e he hb;have:=h.1 e (by simpa using he);simp only[hb,GT,HC]at this;exact BL this
  ·exact TC h.2 p hp
theorem aT{m:Nat}{y:LogE}:∀{l:List LogE},NX m y l=true->∀x∈l,Jb x y=false\/Nat.testBit m x.i=true
 |[],_,x,hx=>by simp at hx
 |z::l,h,x,hx=>by
  simp only[NX,Bv,GR,IK]at h;rcases AH.1 hx with e|hx
  ·subst e;exact h.1
  ·exact aT h.2 x hx
theorem TD{ms:List Nat}:∀{l:List LogE},fine ms l=true->l.Pairwise (λy x=>Jb x y=false\/Nat.testBit (ms.getD y.i 0) x.i=true)
 |[],_=>List.Pairwise.nil
 |y::l,h=>by simp only[fine,Bv]at h;exact D8.2 ⟨λx hx=>aT h.1 x hx,TD h.2⟩
theorem Rel.drawn{ok0:OK0 P}{base:Nat}{pl:Nat->Option Pl}{tm:Nat->Option V}{bl:Nat->Option Blk}{a:Act}{w w':World}(h:Rel n ok0 base pl tm bl a w)(hw:w'.heap=w.heap):Rel n ok0 base pl tm bl a w':=by
 have hk:Ext (Ae ok0 base pl bl w) (Ae ok0 base pl bl w'):=
  ⟨Ao _,λg hg _=>⟨hg,by show w'.heap[g]?=w.heap[g]?;rw[hw]⟩,λ_ _ h=>h,λ_ sv svs h=>⟨sv,svs,h,KeepR.refl _ _ _⟩⟩
 refine⟨h.defers,h.size,λt v ht=>(h.tmps t v ht).mono hk,by rw[hw];exact h.rel.baseLe,λi B hB=>?_,h.rel.sep,h.rel.fresh,h.rel.glob.out (by rw[hw];exact Ao _) (λg _ ho=>⟨by rw[hw],ho⟩)⟩;obtain⟨p,hp,hb⟩:=h.rel.blks i B hB;exact⟨p,hp,hb.mono hk λg _=>by show w'.heap[g]?=w.heap[g]?;rw[hw]⟩
theorem xK(hm:P.follows .mixedOrders=true){X:Ctx}(hA:∀log,Gi X.A log=true->∀e∈log,∀b∈e.rd,∀i,(fr i).al b)(hT:TOk P X.T)(hΓ:ΓOk P X.Γ){id:Nat}{ops:Array Oper}{draw:Bool}{σ:St}{k:Kx β}(h:(FA X n ops (Dp 0 ops.toList) σ [] λσ' log=>bif Gi X.A log&&(!draw||(FB (Dp 0 ops.toList)&&fine (Dd ops.toList []) log))then k .normal σ' else none)=some r):SimR P n R fr (.region id ops draw) σ k r:=by
 obtain⟨es,σ',h1,h2,h3,h4,h5⟩:=Oy hT hΓ (KY ops.toList 0 (by simp)) h;rw[KX]at h2;have h2':es.map (·.i)=List.range ops.size:=by rw[h2,Sg];simp
 simp only[CA]at h1
 have hc:Gi X.A es.reverse=true/\(!draw||(FB (Dp 0 ops.toList)&&fine (Dd ops.toList []) es.reverse))=true/\k .normal σ'=some r:=by
  cases hb:(Gi X.A es.reverse&&(!draw||(FB (Dp 0 ops.toList)&&fine (Dd ops.toList []) es.reverse)))with
  |false=>rw[hb]at h1;cases h1
  |true=>rw[hb]at h1;exact⟨(andB hb).1,(andB hb).2,h1⟩
 obtain⟨hfr,hc⟩:=hc;refine⟨.normal,σ',hc.2,λi ok0 base pl a w hr=>?_⟩;have h3:=Valid.among (fr i) h3 λe he b hb=>hA _ hfr e (List.mem_reverse.2 he) b hb i;have h5:(fr i).O (look σ'.bl)=finB es ((fr i).O (look σ.bl)):=by rw[h5,aS]
 cases draw with
 |false=>
  refine wp_region ?_;rw[<-h2'];refine TA h3 hr λpl' a' w' hr' hs'=>⟨rfl,pl',?_,?_⟩
  ·rw[h4,h5];exact hr'
  ·rw[h5];exact R.of hs'
 |true=>
  have hcc:=hc.1;simp only[GT,HC,Bv]at hcc;obtain⟨hb,hf⟩:=hcc
  have hback:∀(j:Nat)(o:Oper),ops[j]?=some o->∀e∈o.after,Region.binds .any e=true->e.on<j:=by
   intro j o ho;have hj:j<ops.size:=(DM.1 ho).1
   have hmem:j∈(Dp 0 ops.toList).map (·.1):=by rw[KX];simp only[CQ,List.mem_range'_1];omega
   obtain⟨p,hp,e⟩:=CJ.1 hmem;have h6:=KY (ops:=ops) ops.toList 0 (by simp) p hp;rw[e,ho]at h6;injection h6 with h6;have:=TC hb p hp;rw[e,<-h6]at this;exact this
  have hmap:∀i,(∃e∈es,e.i=i)↔i<ops.size:=by intro i;rw[<-Kt,<-h2',CJ]
  refine wp_region_any hm ?_;refine aO hback ops.size (es:=es) ?_ (by simp) ?_ (λi hi=>?_) ?_ (λe he=>(hmap e.i).1 ⟨e,he,rfl⟩) ?_ h3 (hr.drawn (w':={w with drawn:=w.drawn+1}) rfl) λpl' a' w' hr' hs'=>⟨rfl,pl',?_,?_⟩
  ·have:=Aj List.length h2'
   simpa using this
  ·intro j o _ hj
   exfalso;rw[Co]at hj;rcases HD j ops.size with h7|h7
   ·simp[h7]at hj
   ·simp[Nat.not_lt.2 h7]at hj
  ·constructor
   ·intro _;exact(hmap i).2 hi
   ·intro _;simp[Co,hi]
  ·have:(es.map (·.i)).Pairwise (· < ·):=by rw[h2'];exact List.pairwise_lt_range
   exact List.pairwise_map.1 this
  ·have:=TD hf
   exact List.pairwise_reverse.1 this
  ·rw[h4,h5];exact hr'
  ·rw[h5]
   exact R.drawn hs'
theorem Cq{c:Code}{Q Q':Exit->Act->World->Prop}{a:Act}{w:World}(h:c.wp P Q a w)(hq:∀e a w,Q e a w->Q' e a w):c.wp P Q' a w:=by intro b k cs;obtain⟨e,a',w',h1,h2⟩:=h b k cs;exact⟨e,a',w',hq _ _ _ h1,h2⟩
theorem TE(hm:P.follows .mixedOrders=true){X:Ctx}(hA:∀log,Gi X.A log=true->∀e∈log,∀b∈e.rd,∀i,(fr i).al b)(hT:TOk P X.T)(hΓ:ΓOk P X.Γ):∀{c:Code}{Λ:Nat->Option Cut}{p:Nat}{σ:St}{k:Kx β},(∀q cut,Λ q=some cut->∀c'∈find q p c,xJ P n R fr c' cut)->exec X n Λ p c σ k=some r->SimR P n R fr c σ k r:=by
 intro c
 induction c with
 |region id ops draw=>
  intro Λ p σ k hΛ h;unfold exec at h;split at h
  ·rename_i cut hc;exact hΛ p cut hc _ (Gq p _) σ k r h
  ·exact xK hm hA hT hΓ h
 |skip=>
  intro Λ p σ k hΛ h;unfold exec at h;split at h
  ·rename_i cut hc;exact hΛ p cut hc _ (Gq p _) σ k r h
  ·exact⟨.normal,σ,h,λi ok0 base pl a w hr=>wp_skip ⟨rfl,pl,hr,R.refl _ _ _⟩⟩
 |exit id=>
  intro Λ p σ k hΛ h;unfold exec at h;split at h
  ·rename_i cut hc;exact hΛ p cut hc _ (Gq p _) σ k r h
  ·exact⟨.exit id,σ,h,λi ok0 base pl a w hr=>wp_exit ⟨rfl,pl,hr,R.refl _ _ _⟩⟩
 |ret=>
  intro Λ p σ k hΛ h;unfold exec at h;split at h
  ·rename_i cut hc;exact hΛ p cut hc _ (Gq p _) σ k r h
  ·exact⟨.ret,σ,h,λi ok0 base pl a w hr=>wp_ret ⟨rfl,pl,hr,R.refl _ _ _⟩⟩
 |seq x y ihx ihy=>
  intro Λ p σ k hΛ h;unfold exec at h;split at h
  ·rename_i cut hc;exact hΛ p cut hc _ (Gq p _) σ k r h
  ·simp only at h
   obtain⟨e1,σ1,h1,hw1⟩:=ihx (λq cut hq c' hc'=>hΛ q cut hq c' (by unfold find;simp[hc'])) h;have hy:∀{k':Kx β},exec X n Λ (2*p+1) y σ1 k'=some r->SimR P n R fr y σ1 k' r:=ihy (λq cut hq c' hc'=>hΛ q cut hq c' (by unfold find;simp[hc']));cases e1 with
   |normal=>simp only at h1;obtain⟨e2,σ2,h2,hw2⟩:=hy h1;refine⟨e2,σ2,h2,λi ok0 base pl a w hr=>wp_seq (Cq (hw1 i ok0 base pl a w hr) λe a' w' ⟨he,pl',hr',hs'⟩=>?_)⟩;subst he;exact Cq (hw2 i ok0 base pl' a' w' hr') λe a2 w2 ⟨he2,pl2,hr2,hs2⟩=>⟨he2,pl2,hr2,R.trans hs' hs2⟩
   |exit id=>refine⟨.exit id,σ1,h1,λi ok0 base pl a w hr=>wp_seq (Cq (hw1 i ok0 base pl a w hr) λe a' w' hq=>?_)⟩;have he:=hq.1;subst he;exact hq
   |ret=>refine⟨.ret,σ1,h1,λi ok0 base pl a w hr=>wp_seq (Cq (hw1 i ok0 base pl a w hr) λe a' w' hq=>?_)⟩;have he:=hq.1;subst he;exact hq
 |cond x a b iha ihb=>
  intro Λ p σ k hΛ h;unfold exec at h;split at h
  ·rename_i cut hc;exact hΛ p cut hc _ (Gq p _) σ k r h
  ·simp only at h
   split at h
   ·rename_i g hg
    have hev:∀(i:ι)(ok0:OK0 P)(base:Nat)(pl:Nat->Option Pl)(a:Act)(w:World),Rel n ok0 base pl (look σ.tm) ((fr i).O (look σ.bl)) a w->a.eval x=.bool g:=by intro i ok0 base pl a w hr;have:=aJ hr x;rw[<-aI,hg]at this;exact this
    cases g with
    |true=>obtain⟨e1,σ1,h1,hw1⟩:=iha (λq cut hq c' hc'=>hΛ q cut hq c' (by unfold find;simp[hc'])) h;exact⟨e1,σ1,h1,λi ok0 base pl a w hr=>wp_cond_true (hev i ok0 base pl a w hr) (hw1 i ok0 base pl a w hr)⟩
    |false=>obtain⟨e1,σ1,h1,hw1⟩:=ihb (λq cut hq c' hc'=>hΛ q cut hq c' (by unfold find;simp[hc'])) h;exact⟨e1,σ1,h1,λi ok0 base pl a w hr=>wp_cond_false (hev i ok0 base pl a w hr) (hw1 i ok0 base pl a w hr)⟩
   ·cases h
 |block id a iha=>
  intro Λ p σ k hΛ h;unfold exec at h;split at h
  ·rename_i cut hc;exact hΛ p cut hc _ (Gq p _) σ k r h
  ·simp only at h
   obtain⟨e1,σ1,h1,hw1⟩:=iha (λq cut hq c' hc'=>hΛ q cut hq c' (by unfold find;simp[hc'])) h;cases e1 with
   |normal=>refine⟨.normal,σ1,h1,λi ok0 base pl a w hr=>wp_block (Cq (hw1 i ok0 base pl a w hr) λe a' w' hq=>?_)⟩;have he:=hq.1;subst he;exact hq
   |ret=>refine⟨.ret,σ1,h1,λi ok0 base pl a w hr=>wp_block (Cq (hw1 i ok0 base pl a w hr) λe a' w' hq=>?_)⟩;have he:=hq.1;subst he;exact hq
   |exit id'=>
    simp only at h1;cases hid:Nat.beq id' id with
    |true=>rw[hid]at h1;have hid:=Ag hid;refine⟨.normal,σ1,h1,λi ok0 base pl a w hr=>wp_block (Cq (hw1 i ok0 base pl a w hr) λe a' w' hq=>?_)⟩;have he:=hq.1;subst he;simp only[AExit.toExit,Exit.inBlock,hid,B7];exact⟨trivial,hq.2⟩
    |false=>
     rw[hid]at h1;have hne:id'≠id:=λe=>by rw[e,GY]at hid;cases hid
     refine⟨.exit id',σ1,h1,λi ok0 base pl a w hr=>wp_block (Cq (hw1 i ok0 base pl a w hr) λe a' w' hq=>?_)⟩;have he:=hq.1;subst he;simp only[AExit.toExit,Exit.inBlock,hne,Bk];exact⟨trivial,hq.2⟩
 |loop a iha=>
  intro Λ p σ k hΛ h;unfold exec at h;split at h
  ·rename_i cut hc;exact hΛ p cut hc _ (Gq p _) σ k r h
  ·simp only at h
   generalize X.N=i at h
   have key:∀(i:Nat)(σ:St),NY (λσ' k'=>exec X n (λ_=>none) 1 a σ' k') i σ k=some r->∃e' σ',k e' σ'=some r/\∀(j:ι)(ok0:OK0 P)(base:Nat)(pl:Nat->Option Pl)(a':Act)(w:World),Rel n ok0 base pl (look σ.tm) ((fr j).O (look σ.bl)) a' w->
     Code.rounds P a (λe a' w'=>e=e'.toExit/\∃pl',Rel n ok0 base pl' (look σ'.tm) ((fr j).O (look σ'.bl)) a' w'/\R.rel pl ((fr j).O (look σ.bl)) w pl' ((fr j).O (look σ'.bl)) w') i a' w:=by
    intro i
    induction i with
    |zero=>intro σ h;cases h
    |succ i ih=>
     intro σ h;simp only[NY]at h;obtain⟨e1,σ1,h1,hw1⟩:=iha (Λ:=λ_=>none) (λ_ _ h=>by cases h) h;cases e1 with
     |normal=>
      simp only at h1;obtain⟨e2,σ2,h2,hw2⟩:=ih σ1 h1;refine⟨e2,σ2,h2,λj ok0 base pl a' w hr=>?_⟩;rw[rounds_succ];refine Cq (hw1 j ok0 base pl a' w hr) λe a1 w1 ⟨he,pl1,hr1,hs1⟩=>?_;subst he
      have hmono:∀(i:Nat){Q Q':Exit->Act->World->Prop}{a1:Act}{w:World},(∀e a w,Q e a w->Q' e a w)->Code.rounds P a Q i a1 w->Code.rounds P a Q' i a1 w:=by
       intro i
       induction i with
       |zero=>intro _ _ _ _ _ h;exact h
       |succ i ihj=>
        intro Q Q' a1 w hq h;rw[rounds_succ]at h⊢;refine Cq h λe a w h=>?_;cases e with
        |normal=>exact ihj hq h
        |_=>exact hq _ _ _ h
      exact hmono i (λe a2 w2 ⟨q1,pl2,q2,q3⟩=>⟨q1,pl2,q2,R.trans hs1 q3⟩) (hw2 j ok0 base pl1 a1 w1 hr1)
     |exit id=>refine⟨.exit id,σ1,h1,λj ok0 base pl a' w hr=>?_⟩;rw[rounds_succ];refine Cq (hw1 j ok0 base pl a' w hr) λe a1 w1 hq=>?_;have he:=hq.1;subst he;exact hq
     |ret=>refine⟨.ret,σ1,h1,λj ok0 base pl a' w hr=>?_⟩;rw[rounds_succ];refine Cq (hw1 j ok0 base pl a' w hr) λe a1 w1 hq=>?_;have he:=hq.1;subst he;exact hq
   obtain⟨e',σ',h1,h2⟩:=key i σ h;exact⟨e',σ',h1,λj ok0 base pl a' w hr=>wp_loop_rounds i (h2 j ok0 base pl a' w hr)⟩
 |_=>
  intro Λ p σ k hΛ h;unfold exec at h;split at h
  ·rename_i cut hc;exact hΛ p cut hc _ (Gq p _) σ k r h
  ·cases h
theorem TF(hm:P.follows .mixedOrders=true){m:Nat}{X:Ctx}(hT:TOk P X.T)(hΓ:ΓOk P X.Γ){Λ:Nat->Option Cut}{c:Code}{p:Nat}{σ:St}{k:Kx β}(h:∀q cut,Λ q=some cut->∀c'∈find q p c,Jo P n m c' cut)(hk:exec X n Λ p c σ k=some r):Sim P n m c σ k r:=by
 obtain⟨e',σ',h1,h2⟩:=TE (R:=xI m) (fr:=λ_:Unit=>fr0) hm (λ_ _ _ _ _ _ _=>trivial) hT hΓ (λq cut hq c' hc'=>λσ k r hr=>by obtain⟨e',σ',h1,h2⟩:=h q cut hq c' hc' σ k r hr;exact⟨e',σ',h1,λ_=>h2⟩) hk
 exact⟨e',σ',h1,h2 ()⟩
end
end
end Go.Lift
namespace Go.Lift
noncomputable section
open Go.RowKit
structure View where
 m:Nat
 slots:List Nat
 params:List (Bool×List CT)
 ins:List BT
abbrev View.den(v:View):Type:=ST.dens v.params×BT.dens v.ins
def idsB(bl:Nat->Option Blk)(nx:Nat):List BT->Nat->List (Nat×Nat)->Option (List Nat)
 |[],_,_=>some []
 |t::r,j,ps=>
  match look ps j with
  |some i=>
   match t,bl i with
   |.cells _ l,some (.cells _ cs)=>
    match idsB bl nx r (j+1) (ps++EC l cs)with
    |some is=>some (i::is)
    |none=>none
   |_,_=>
    match idsB bl nx r (j+1) ps with
    |some is=>some (i::is)
    |none=>none
  |none=>
   match idsB bl (nx+1) r (j+1) ps with
   |some is=>some (nx::is)
   |none=>none
def fEq(ids:List Nat):List (List UInt8×(FuncId×Nat))->List (List UInt8×(FuncId×Nat))->Bool
 |[],[]=>true
 |x::l,y::m=>(decide (x.1=y.1)&&(Nat.beq x.2.1 y.2.1&&(match ids[x.2.2]? with|some i=>Nat.beq i y.2.2|none=>false)))&&fEq ids l m
 |_,_=>false
def Bz(bl:Nat->Option Blk)(ids:List Nat):(l:List BT)->List Nat->Option (BT.dens l)
 |[],[]=>some ()
 |.cells t l::r,i::is=>
  match bl i with
  |some (.cells t' cs)=>
   bif Nat.beq t t' then
    match AI bl ids l cs with
    |none=>none
    |some y=>
     match Bz bl ids r is with
     |none=>none
     |some z=>some (y,z)
   else none
  |_=>none
 |.row t e::r,i::is=>
  match bl i with
  |some (.row t' e' _ l)=>
   bif Nat.beq t t' then
    if h:e'=e then
     match Bz bl ids r is with
     |none=>none
     |some z=>some ((h▸l:List e.den),z)
    else none
   else none
  |none=>
   match Bz bl ids r is with
   |none=>none
   |some z=>some (([]:List e.den),z)
  |_=>none
 |.map t k v vg::r,i::is=>
  match bl i with
  |some (.map t' k' v' vg' l)=>
   bif Nat.beq t t'&&(vg==vg')then
    if h:k'=k then
     if h2:v'=v then
      match Bz bl ids r is with
      |none=>none
      |some z=>some ((h▸(h2▸l:List (k'.den×v.den)):List (k.den×v.den)),z)
     else none
    else none
   else none
  |_=>none
 |.mat t et e::r,i::is=>
  match bl i with
  |some (.mat t' et' e' _ _ none l)=>
   bif Nat.beq t t'&&Nat.beq et et' then
    if h:e'=e then
     match Bz bl ids r is with
     |none=>none
     |some z=>some ((h▸l:List (List e.den)),z)
    else none
   else none
  |none=>
   match Bz bl ids r is with
   |none=>none
   |some z=>some (([]:List (List e.den)),z)
  |_=>none
 |.tree t e::r,i::is=>
  match bl i with
  |some (.tree t' e' _ _ none l)=>
   bif Nat.beq t t' then
    if h:e'=e then
     match Bz bl ids r is with
     |none=>none
     |some z=>some ((h▸l:List e.ty.den),z)
    else none
   else none
  |none=>
   match Bz bl ids r is with
   |none=>none
   |some z=>some (([]:List e.ty.den),z)
  |_=>none
 |.fmap t l::r,i::is=>
  match bl i with
  |some (.fmap t' l')=>bif Nat.beq t t'&&fEq ids l l' then Bz bl ids r is else none
  |_=>none
 |_,_=>none
def C3:List CT->List C->List Nat
 |.data τ::l,cs=>Bg (cs.take τ.size)++C3 l (cs.drop τ.size)
 |_::l,_::cs=>C3 l cs
 |_,_=>[]
def CD:List (Bool×List CT)->List V->List Nat
 |t::l,v::vs=>
  match v.cells with
  |some cs=>C3 t.2 cs++CD l vs
  |none=>CD l vs
 |_,_=>[]
def Ci(bl:Nat->Option Blk):List BT->List Nat->List Nat
 |.cells _ l::r,i::is=>
  match bl i with
  |some (.cells _ cs)=>C3 l cs++Ci bl r is
  |_=>Ci bl r is
 |_::r,_::is=>Ci bl r is
 |_,_=>[]
def Jp(tm:List (Nat×V)):List Nat->Option (List V)
 |[]=>some []
 |t::r=>
  match look tm t with
  |some v=>
   match Jp tm r with
   |some vs=>some (v::vs)
   |none=>none
  |none=>none
def xL(m:Nat):List (Nat×Nat):=(Ax 0 m).zip (Ax 0 m)
def HZ:List Nat->List Nat->Bool
 |[],[]=>true
 |x::r,y::s=>Nat.beq x y&&HZ r s
 |_,_=>false
def View.read(v:View)(σ:St):Option v.den:=
 match Jp σ.tm v.slots with
 |none=>none
 |some vs=>
  match idsB (look σ.bl) σ.nx v.ins 0 (xL v.m++K7 v.params vs)with
  |none=>none
  |some ids=>
   match Do (look σ.bl) ids v.params vs with
   |none=>none
   |some x=>
    match Bz (look σ.bl) ids v.ins ids with
    |none=>none
    |some y=>
     bif Nat.ble v.m v.ins.length&&(HZ (ids.take v.m) (Ax 0 v.m)&&(E9 ids&&!meet (CD v.params vs++Ci (look σ.bl) v.ins ids) ids))then some (x,y)else none
def mkT(ids:List Nat):List Nat->(l:List (Bool×List CT))->ST.dens l->List (Nat×V)
 |s::ss,t::l,x=>(s,V.mk t.1 (mkC ids t.2 x.1))::mkT ids ss l x.2
 |_,_,_=>[]
def KZ:Nat->List Blk->List (Nat×Blk)
 |_,[]=>[]
 |i,b::r=>(i,b)::KZ (i+1) r
def View.mk'(v:View)(d:v.den):St:=
 ⟨mkT (Ax 0 v.ins.length) v.slots v.params d.1,KZ 0 (mkB (Ax 0 v.ins.length) v.ins d.2),v.ins.length⟩
theorem aU:∀(l:List Blk)(s i:Nat),look (KZ s l) i=if s<=i then l[i-s]? else none
 |[],s,i=>by simp[KZ,Cn,Ch]
 |b::l,s,i=>by
  simp only[KZ,Cn,Ch];by_cases h:s=i
  ·subst h;simp
  ·rw[DR (λe=>h e.symm),AT,aU]
   by_cases h2:s<=i
   ·have h3:s+1<=i:=by omega
    have h4:i-s=(i-(s+1))+1:=by omega
    simp[h2,h3,h4]
   ·have h3:¬s+1<=i:=by omega
    simp[h2,h3]
theorem Ia(v:View)(d:v.den):look (v.mk' d).bl=fnBl (mkB (Ax 0 v.ins.length) v.ins d.2):=by funext i;simp[View.mk',aU,fnBl]
theorem TG{bl:Nat->Option Blk}:∀{τ:Ty}{cs:List C}{x:τ.den}{r:List C},pack bl τ cs=some (x,r)->∃ds,cs=ds++r/\ds.length=τ.size/\pack bl τ ds=some (x,[])
 |.bool,cs,x,r,h=>by
  cases cs with
  |nil=>simp[pack]at h
  |cons c cs=>
   cases c<;>simp only[pack]at h<;>try(cases h;done)
   simp only[Ac,AN]at h;obtain⟨h1,h2⟩:=h;subst h1 h2;exact⟨[_],rfl,rfl,rfl⟩
 |.int k,cs,x,r,h=>by
  cases cs with
  |nil=>simp[pack]at h
  |cons c cs=>
   cases c<;>simp only[pack]at h<;>try(cases h;done)
   split at h
   ·rename_i hk
    subst hk;simp only[Ac,AN]at h;obtain⟨h1,h2⟩:=h;subst h1 h2;exact⟨[_],rfl,rfl,by simp[pack]⟩
   ·cases h
 |.err,cs,x,r,h=>by
  cases cs with
  |nil=>simp[pack]at h
  |cons c cs=>
   cases c<;>simp only[pack]at h<;>try(cases h;done)
   simp only[Ac,AN]at h;obtain⟨h1,h2⟩:=h;subst h1 h2;exact⟨[_],rfl,rfl,rfl⟩
 |.str,cs,x,r,h=>by
  cases cs with
  |nil=>simp[pack]at h
  |cons c cs=>
   cases c<;>simp only[pack]at h<;>try(cases h;done)
   simp only[Ac,AN]at h;obtain⟨h1,h2⟩:=h;subst h1 h2;exact⟨[_],rfl,rfl,rfl⟩
 |.unit,cs,x,r,h=>by simp only[pack,Ac,AN]at h;obtain⟨_,h2⟩:=h;subst h2;exact⟨[],rfl,rfl,rfl⟩
 |.prod a b,cs,x,r,h=>by
  simp only[pack]at h;split at h
  ·cases h
  ·rename_i x1 r1 h1
   split at h
   ·cases h
   ·rename_i x2 r2 h2
    simp only[Ac,AN]at h;obtain⟨e1,e2⟩:=h;subst e1 e2;obtain⟨ds,e3,e4,e5⟩:=TG h1;obtain⟨es,e6,e7,e8⟩:=TG h2;refine⟨ds++es,by rw[e3,e6,AW],by simp[e4,e7,Ty.size],?_⟩;have:=pack_append e5 (s:=es);simp only[pack,this,Cp,e8]
 |.slice e,cs,x,r,h=>by
  cases cs with
  |nil=>simp[pack]at h
  |cons c cs=>
   rcases Classical.em (∃b ver p,c=.trow b ver p)with⟨b,ver,p,rfl⟩|hnt
   ·cases p with
    |cons _ _=>simp[pack]at h
    |nil=>
     simp only[pack]at h;split at h
     ·cases h
     ·rename_i l hl
      simp only[Ac,AN]at h;obtain⟨h1,h2⟩:=h;subst h1 h2;exact⟨[_],rfl,rfl,by simp[pack,hl]⟩
   cases c<;>first|exact absurd ⟨_,_,_,rfl⟩ hnt|skip
   all_goals simp only[pack]at h
   all_goals try(cases h;done)
   ·split at h
    ·rename_i e' l he
     subst he;simp only[Ac,AN]at h;obtain⟨h1,h2⟩:=h;subst h1 h2;exact⟨[_],rfl,rfl,by simp[pack]⟩
    ·cases h
   ·simp only[Ac,AN]at h
    obtain⟨h1,h2⟩:=h;subst h1 h2;exact⟨[_],rfl,rfl,rfl⟩
   ·split at h
    ·cases h
    ·rename_i l hl
     simp only[Ac,AN]at h;obtain⟨h1,h2⟩:=h;subst h1 h2;exact⟨[_],rfl,rfl,by simp[pack,hl]⟩
   ·split at h
    ·cases h
    ·rename_i l hl
     simp only[Ac,AN]at h;obtain⟨h1,h2⟩:=h;subst h1 h2;exact⟨[_],rfl,rfl,by simp[pack,hl]⟩
   ·split at h
    ·cases h
    ·rename_i l hl
     simp only[Ac,AN]at h;obtain⟨h1,h2⟩:=h;subst h1 h2;exact⟨[_],rfl,rfl,by simp[pack,hl]⟩
 where
 pack_append {bl:Nat->Option Blk}:∀{τ:Ty}{cs:List C}{x:τ.den}{r s:List C},pack bl τ cs=some (x,r)->pack bl τ (cs++s)=some (x,r++s)
 |.bool,cs,x,r,s,h=>by
  cases cs with
  |nil=>simp[pack]at h
  |cons c cs=>cases c<;>simp only[pack,Cw]at h⊢<;>first|(cases h;done)|(simp_all;done)
 |.int k,cs,x,r,s,h=>by
  cases cs with
  |nil=>simp[pack]at h
  |cons c cs=>
   cases c<;>simp only[pack,Cw]at h⊢<;>try(cases h;done)
   split at h
   ·rename_i hk;subst hk;simp_all
   ·cases h
 |.err,cs,x,r,s,h=>by
  cases cs with
  |nil=>simp[pack]at h
  |cons c cs=>cases c<;>simp only[pack,Cw]at h⊢<;>first|(cases h;done)|(simp_all;done)
 |.str,cs,x,r,s,h=>by
  cases cs with
  |nil=>simp[pack]at h
  |cons c cs=>cases c<;>simp only[pack,Cw]at h⊢<;>first|(cases h;done)|(simp_all;done)
 |.unit,cs,x,r,s,h=>by simp only[pack]at h⊢;simp_all
 |.prod a b,cs,x,r,s,h=>by
  simp only[pack]at h⊢;split at h
  ·cases h
  ·rename_i x1 r1 h1
   split at h
   ·cases h
   ·rename_i x2 r2 h2
    rw[pack_append h1];simp only;rw[pack_append h2]
    simp_all
 |.slice e,cs,x,r,s,h=>by
  cases cs with
  |nil=>simp[pack]at h
  |cons c cs=>
   rcases Classical.em (∃b ver p,c=.trow b ver p)with⟨b,ver,p,rfl⟩|hnt
   ·cases p with
    |cons _ _=>simp[pack]at h
    |nil=>
     simp only[pack,Cw]at h⊢;split at h
     ·cases h
     ·simp_all
   cases c<;>first|exact absurd ⟨_,_,_,rfl⟩ hnt|skip
   all_goals simp only[pack,Cw]at h⊢
   all_goals try(cases h;done)
   ·split at h
    ·rename_i e' l he;subst he;simp_all
    ·cases h
   ·simp_all
   ·split at h
    ·cases h
    ·simp_all
   ·split at h
    ·cases h
    ·simp_all
   ·split at h
    ·cases h
    ·simp_all
end
end Go.Lift
