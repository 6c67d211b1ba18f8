/- Part16: LBld2, LBld3, LBld4, LBld5, LBld6, LPar1, LPar2, LPar3, LSame1, LSame2, LSame3, LSame4, LSame5, LBack. -/
import Derived.Lib.TrimAscii
import Derived.KernelRfl
import Derived.Test.YtadbbhhfdjjkhaaGreatDoorPart15
set_option linter.unusedVariables false
set_option linter.unusedSectionVars false
set_option linter.unusedSimpArgs false
namespace Go.Lift
open Go.RowKit Go.IntWalk
noncomputable section
set_option maxRecDepth 10000
section
variable{β:Type}{z:List AK}{p:List Bb}{c:List Bh}{s:List By}
theorem pp_0[S:Sl](a b:List UInt8)(ok:Bool)(nm:List UInt8)(pz:Int)(K:Ki β):JD K [wd Fo,wd a,wd b] ok 3 z p c s nm pz 0 0 false []=K ok z p c s nm pz 0 0 false []:=by rcases S with⟨_|_⟩<;>kernel_rfl
theorem pp_1[S:Sl](a b:List UInt8)(ok:Bool)(nm:List UInt8)(pz:Int)(K:Ki β):JD K [wd Fo,wd a,wd b,wd Lk] ok 3 z p c s nm pz 0 0 false []=K ok z p c s nm pz 0 0 true []:=by rcases S with⟨_|_⟩<;>kernel_rfl
theorem pp_2[S:Sl](a b:List UInt8)(m:Int)(ok:Bool)(nm:List UInt8)(pz:Int)(K:Ki β):JD K [wd Fo,wd a,wd b,wd Lj,nu 1 m] ok 3 z p c s nm pz 0 0 false []=K ok z p c s nm pz 0 (IntKind.i64.wrap (3600*m)) false []:=by rcases S with⟨_|_⟩<;>kernel_rfl
theorem pp_3[S:Sl](a b:List UInt8)(m:Int)(ok:Bool)(nm:List UInt8)(pz:Int)(K:Ki β):JD K [wd Fo,wd a,wd b,wd Lj,nu 1 m,wd Lk] ok 3 z p c s nm pz 0 0 false []=K ok z p c s nm pz 0 (IntKind.i64.wrap (3600*m)) true []:=by rcases S with⟨_|_⟩<;>kernel_rfl
theorem pp_4[S:Sl](a b:List UInt8)(n:Int)(ok:Bool)(nm:List UInt8)(pz:Int)(K:Ki β):JD K [wd Fo,wd a,wd b,wd Li,nu 1 n] ok 3 z p c s nm pz 0 0 false []=K ok z p c s nm pz (IntKind.i64.wrap (3600*n)) 0 false []:=by rcases S with⟨_|_⟩<;>kernel_rfl
theorem pp_5[S:Sl](a b:List UInt8)(n:Int)(ok:Bool)(nm:List UInt8)(pz:Int)(K:Ki β):JD K [wd Fo,wd a,wd b,wd Li,nu 1 n,wd Lk] ok 3 z p c s nm pz 0 0 false []=K ok z p c s nm pz (IntKind.i64.wrap (3600*n)) 0 true []:=by rcases S with⟨_|_⟩<;>kernel_rfl
theorem pp_6[S:Sl](a b:List UInt8)(n:Int)(m:Int)(ok:Bool)(nm:List UInt8)(pz:Int)(K:Ki β):JD K [wd Fo,wd a,wd b,wd Li,nu 1 n,wd Lj,nu 1 m] ok 3 z p c s nm pz 0 0 false []=K ok z p c s nm pz (IntKind.i64.wrap (3600*n)) (IntKind.i64.wrap (3600*m)) false []:=by rcases S with⟨_|_⟩<;>kernel_rfl
theorem pp_7[S:Sl](a b:List UInt8)(n:Int)(m:Int)(ok:Bool)(nm:List UInt8)(pz:Int)(K:Ki β):JD K [wd Fo,wd a,wd b,wd Li,nu 1 n,wd Lj,nu 1 m,wd Lk] ok 3 z p c s nm pz 0 0 false []=K ok z p c s nm pz (IntKind.i64.wrap (3600*n)) (IntKind.i64.wrap (3600*m)) true []:=by rcases S with⟨_|_⟩<;>kernel_rfl
end
variable[Sl]
section
variable{β:Type}
theorem AEB(b:Bool)(k:Int->Option β):IY b k=k (cond b 0 3):=by unfold IY;rw[Ad];cases b<;>rfl
theorem AEC(xs:List AK)(n:List UInt8)(h:xs.length<=1000000)(K:Int->List UInt8->Option β):OG xs n K=K (idxV (·.1) n xs) n:=by
 unfold OG;rw[Ad];unfold pC;rw[Ad];refine(Ja (λm i(_:Unit)=>TM m (λt b=>K t b) (λb=>K (-1) b) xs (xs.length:Int) i n) (idxG (·.1) n) (λe=>K e n) (λ_=>K (-1) n) ([],0,[]) xs () fuel (BB (by omega)) (λm i _ hi=>?_) (λm _=>?_)).trans ?_
 ·simp only[Afu,Zo]
  refine(Ai (by omega)).trans ?_;refine(Al (by omega)).trans ?_;rw[AT,i64_in ((i:Int)+1) (by omega)];unfold pA idxG;rw[Ad];show cond (decide _) _ _=_;cases decide ((xs.getD i ([],0,[])).1=n)<;>rfl
 ·simp only[Afu,Zo]
  exact Ae (by omega)
 ·unfold idxV
  cases walk (idxG (·.1) n) xs 0 ()<;>rfl
theorem AED(xs:List Bh)(n:List UInt8)(h:xs.length<=1000000)(K:Int->List UInt8->Option β):TS xs n K=K (idxV (·.1) n xs) n:=by
 unfold TS;rw[Ad];unfold pH;rw[Ad];refine(Ja (λm i(_:Unit)=>TR m (λt b=>K t b) (λb=>K (-1) b) xs (xs.length:Int) i n) (idxG (·.1) n) (λe=>K e n) (λ_=>K (-1) n) ([],0,[]) xs () fuel (BB (by omega)) (λm i _ hi=>?_) (λm _=>?_)).trans ?_
 ·simp only[AfK,Zr]
  refine(Ai (by omega)).trans ?_;refine(Al (by omega)).trans ?_;rw[AT,i64_in ((i:Int)+1) (by omega)];unfold pF idxG;rw[Ad];show cond (decide _) _ _=_;cases decide ((xs.getD i ([],0,[])).1=n)<;>rfl
 ·simp only[AfK,Zr]
  exact Ae (by omega)
 ·unfold idxV
  cases walk (idxG (·.1) n) xs 0 ()<;>rfl
end
section
variable{β:Type}{z:List AK}{p:List Bb}{c:List Bh}{s:List By}
theorem Aa7(hz:(z.map (·.1)).Nodup)(hl:z.length<=1000){i:Int}(hi:0<=i/\i<(z.length:Int))(K:Int->Bool->Option β):OG z (GA z i) (λEY _=>K (if EY>(0:Int)then EY else(0:Int)) (decide ((0:Int)<=EY)))=K i true:=by
 refine(AEC _ _ (by omega) _).trans ?_;unfold GA;rw[zH hz (by omega),Sy hi.1,At hi.1];congr 1;split<;>omega
theorem AEE(hz:(c.map (·.1)).Nodup)(hl:c.length<=1000){i:Int}(hi:0<=i/\i<(c.length:Int))(K:Int->Bool->Option β):TS c (calN c i) (λEY _=>K (if EY>(0:Int)then EY else(0:Int)) (decide ((0:Int)<=EY)))=K i true:=by
 refine(AED _ _ (by omega) _).trans ?_;unfold calN;rw[zH hz (by omega),Sy hi.1,At hi.1];congr 1;split<;>omega
theorem RC(k:Int->Option β):IY true k=k 0:=AEB true k
theorem Amt{w:Int}(h:(0<=w/\w<=604800)/\Int.tmod w 3600=0):IntKind.i64.wrap (3600*Int.tdiv w 3600)=w:=by obtain⟨h,h2⟩:=h;rw[FD h.1]at h2;rw[GJ h.1,i64_in _ (by omega)];omega
theorem AEF{x:Bb}(hx:PerF (z.length:Int) x)(hz:(z.map (·.1)).Nodup)(hl:z.length<=1000)(hp:p.length<=1000)(k:KB β):Rh (Pg z x) z p c s k=k 0 z (p++[(x.1,x.2.1,[],x.2.2.2)]) c s:=by
 have key:∀(l:List Tok),l.getD 1 (0,[],0)=wd x.1->l.getD 2 (0,[],0)=wd (GA z x.2.1)->3<=l.length->
   (∀(K:Ki β),JD K l true 3 z p c s x.1 x.2.1 0 0 false []=K true z p c s x.1 x.2.1 x.2.2.2.1 x.2.2.2.2.1 x.2.2.2.2.2 [])->
   Rh l z p c s k=k 0 z (p++[(x.1,x.2.1,[],x.2.2.2)]) c s:=by
  intro l h1 h2 h3 h4;unfold Rh;rw[Ad];refine(Al (show(0:Int)<=2/\(2:Int)<(l.length:Int) by omega)).trans ?_;rw[show l.getD (Int.toNat (2:Int)) (0,[],0)=wd (GA z x.2.1)from h2];refine(Aa7 hz hl hx.z (λt t2=>cond (decide (0<=(1:Int))&&decide ((1:Int)<(List.length l:Int))) (JD _ l t2 (3:Int) z p c s (l.getD (Int.toNat (1:Int)) (0,[],0)).2.1 t (0:Int) (0:Int) false []) none)).trans ?_;refine(Al (show(0:Int)<=1/\(1:Int)<(l.length:Int) by omega)).trans ?_;rw[show l.getD (Int.toNat (1:Int)) (0,[],0)=wd x.1 from h1];refine(h4 _).trans ?_;refine(RC _).trans ?_;refine(BM rfl).trans ?_;exact JM (show(p.length+1)*72<=_ by omega)
 have hw:=Amt hx.w;have hr:=Amt hx.r;obtain⟨nm,pz,q,w,r,b⟩:=x;unfold Pg gM Wd R4;by_cases c1:w=0<;>by_cases c2:r=0<;>cases b
 ·subst c1;subst c2
  exact key _ rfl rfl (by simp) λK=>pp_0 _ _ _ _ _ K
 ·subst c1;subst c2
  exact key _ rfl rfl (by simp) λK=>pp_1 _ _ _ _ _ K
 ·subst c1
  rw[if_pos rfl,if_neg c2];refine key _ rfl rfl (by simp) λK=>(pp_2 _ _ _ _ _ _ K).trans ?_;rw[hr]
 ·subst c1
  rw[if_pos rfl,if_neg c2];refine key _ rfl rfl (by simp) λK=>(pp_3 _ _ _ _ _ _ K).trans ?_;rw[hr]
 ·subst c2
  rw[if_neg c1,if_pos rfl];refine key _ rfl rfl (by simp) λK=>(pp_4 _ _ _ _ _ _ K).trans ?_;rw[hw]
 ·subst c2
  rw[if_neg c1,if_pos rfl];refine key _ rfl rfl (by simp) λK=>(pp_5 _ _ _ _ _ _ K).trans ?_;rw[hw]
 ·rw[if_neg c1,if_neg c2]
  refine key _ rfl rfl (by simp) λK=>(pp_6 _ _ _ _ _ _ _ K).trans ?_;rw[hw,hr]
 ·rw[if_neg c1,if_neg c2]
  refine key _ rfl rfl (by simp) λK=>(pp_7 _ _ _ _ _ _ _ K).trans ?_;rw[hw,hr]
theorem AEG{x:Bh}(hx:0<=x.2.1/\x.2.1<(z.length:Int))(hz:(z.map (·.1)).Nodup)(hl:z.length<=1000)(hp:c.length<=1000)(k:KB β):UO [wd calW,wd x.1,wd (GA z x.2.1)] z p c s k=k 0 z p (c++[(x.1,x.2.1,[])]) s:=by
 unfold UO;rw[Ad];refine(Al (show(0:Int)<=2/\(2:Int)<((3:Nat):Int) by omega)).trans ?_
 refine(Aa7 hz hl hx (λt t2=>IY t2 λEZ=>cond (!decide (EZ=(0:Int))) (k EZ z p c s) (cond (decide (0<=(1:Int))&&decide ((1:Int)<((3:Nat):Int)))
  (cond (true&&decide ((c.length+1)*48<=Bl)) (k 0 z p (c++[(x.1,t,[])]) s) none) none))).trans ?_
 refine(RC _).trans ?_;refine(BM rfl).trans ?_;refine(Al (show(0:Int)<=1/\(1:Int)<((3:Nat):Int) by omega)).trans ?_;exact JM (show(c.length+1)*48<=_ by omega)
theorem Aa8{α γ:Type}(f:α->γ){l:List α}{i:Nat}(hi:i<l.length)(d:γ)(e:α):(l.map f).getD i d=f (l.getD i e):=by simp[List.getD,hi]
theorem AEH(n:List UInt8)(cz:Int){l:List Int}(hl:l.length<=100)(hc:c.length<=1000)(k:KB β):Un (wd JH::l.map (nu 3)) z p (c++[(n,cz,[])]) s k=k 0 z p (c++[(n,cz,l)]) s:=by
 unfold Un;rw[Ad];refine(Ae (Kq _ _)).trans ?_;simp only[Kp c (n,cz,[]) (by omega),AT];refine(Al (Kr _ _)).trans ?_
 have hb:(decide (0<=(1:Int))&&(decide ((1:Int)<=(List.length (wd JH::l.map (nu 3)):Int))&&decide ((List.length (wd JH::l.map (nu 3)):Int)<=(List.length (wd JH::l.map (nu 3)):Int))))=true:=by rw[At (show(0:Int)<=1 by omega),At (show(1:Int)<=(List.length (wd JH::l.map (nu 3)):Int) by rw[AX];omega),At (MS _)];rfl
 rw[hb];refine c_t.trans ?_
 have e:List.drop (Int.toNat (1:Int)) (List.take (List.length (wd JH::l.map (nu 3))) (wd JH::l.map (nu 3)))=l.map (nu 3):=by rw[KA];rfl
 rw[e,DK];unfold qX;rw[Ad];refine(Jc (λm i t=>Um m (λBn Eu Bk AV=>k (0:Int) Bn Eu Bk AV) c.length (l.map (nu 3)) (l.length:Int) i z p (c++[(n,cz,t)]) s) (λx=>[x]) (λt=>k 0 z p (c++[(n,cz,t)]) s) 0 l [] 1 (by omega) (λ_ _=>by simp) (λm i t hi ht=>?_) λm t=>?_).trans ?_
 ·simp only[CX]at ht
  simp only[Agz,ZI];refine(Ai (by omega)).trans ?_;refine(Al (by rw[DK];omega)).trans ?_;simp only[AT,JL,Ko,Aa8 (nu 3) hi _ 0];refine(JM (show(t.length+1)*8<=_ by omega)).trans ?_;rw[i64_in ((i:Int)+1) (by omega)];rfl
 ·simp only[Agz,ZI]
  exact Ae (by omega)
 ·rw[Fl,Pf,List.map_id']
end
end
end Go.Lift
namespace Go.Lift
open Go.RowKit Go.IntWalk
noncomputable section
variable[Sl]
set_option maxRecDepth 10000
section
variable{β:Type}{z:List AK}{p:List Bb}{c:List Bh}{s:List By}
theorem AEI{l:AU}{np nc:Int}(hl:LayF (z.length:Int) np nc l)(hz:(z.map (·.1)).Nodup)(E1:z.length<=1000)(hs:s.length<=1000)(n:List UInt8)(ls:List AU)(es:List Ed)(Jk:ls.length<=1000)(k:KB β):UP (We z l) z p c (s++[(n,ls,es)]) k=k 0 z p c (s++[(n,ls++[(l.1,l.2.1,l.2.2.1,l.2.2.2.1,l.2.2.2.2.1,[],[],0,0)],es)]):=by
 unfold UP;rw[Ad];have hu:=hl.u;refine(Al (show(0:Int)<=6/\(6:Int)<((7:Nat):Int) by omega)).trans ?_;refine(AEu hl.u _).trans ?_;refine(Ae (by omega)).trans ?_;refine(Ae (Kq _ _)).trans ?_;simp only[Kp s (n,ls,es) (by omega),AT,JL,Ko];refine(Al (Kr _ _)).trans ?_;refine(Al (show(0:Int)<=2/\(2:Int)<((7:Nat):Int) by omega)).trans ?_
 refine(Aa7 hz E1 hl.z (λt t2=>IY t2 λEZ=>cond (!decide (EZ=(0:Int))) (k EZ z p c (s++[(n,ls,es)])) (
  cond (decide (0<=(1:Int))&&decide ((1:Int)<((7:Nat):Int))) (cond (decide (0<=(3:Int))&&decide ((3:Int)<((7:Nat):Int))) (cond (decide (0<=(4:Int))&&decide ((4:Int)<((7:Nat):Int))) (cond (decide (0<=(5:Int))&&decide ((5:Int)<((7:Nat):Int)))
  (cond (true&&decide ((ls.length+1)*120<=Bl)) (cond (decide True&&(true&&true)) (k 0 z p c (s++[(n,ls++[(l.1,t,l.2.2.1,l.2.2.2.1,l.2.2.2.2.1,[],[],0,0)],es)])) none) none) none) none) none) none))).trans ?_
 refine(RC _).trans ?_;refine(BM rfl).trans ?_;refine(Al (show(0:Int)<=1/\(1:Int)<((7:Nat):Int) by omega)).trans ?_;refine(Al (show(0:Int)<=3/\(3:Int)<((7:Nat):Int) by omega)).trans ?_;refine(Al (show(0:Int)<=4/\(4:Int)<((7:Nat):Int) by omega)).trans ?_;refine(Al (show(0:Int)<=5/\(5:Int)<((7:Nat):Int) by omega)).trans ?_;exact(JM (show(ls.length+1)*120<=_ by omega)).trans rfl
theorem Amu(hp:(p.map (·.1)).Nodup)(hl:p.length<=1000){i:Int}(hi:0<=i/\i<(p.length:Int))(K:Int->Bool->Option β):Rg (z,p,c,s) (whoB p i) K=K i true:=by
 have e:whoB p i=(p.getD i.toNat ([],0,[],0,0,false)).1:=by unfold whoB;rw[if_neg (by omega)]
 rw[e];refine(Alz (z,p,c,s) _ (by show p.length<=_;omega) _).trans ?_;show K (if idxV (·.1) _ p>0 then idxV (·.1) _ p else 0) (decide (0<=idxV (·.1) _ p))=_;rw[zH hp (by omega),Sy hi.1,At hi.1];congr 1;split<;>omega
theorem AEJ{t:Tok}{l:List Tok}:List.drop (Int.toNat (1:Int)) (List.take (List.length (t::l)) (t::l))=l:=by rw[KA];rfl
theorem AEK{t:Tok}{l:List Tok}:(decide (0<=(1:Int))&&(decide ((1:Int)<=(List.length (t::l):Int))&&decide ((List.length (t::l):Int)<=(List.length (t::l):Int))))=true:=by rw[At (show(0:Int)<=1 by omega),At (show(1:Int)<=(List.length (t::l):Int) by rw[AX];omega),At (MS _)];rfl
theorem AEL{k1:uU β}(K:uV β)(x:Nat×Nat){ms:List Int}(hm:ms.length<=100)(AaN:∀x∈ms,0<=x/\x<(p.length:Int))(hp:(p.map (·.1)).Nodup)(Ba:p.length<=1000):cL k1 K x (ms.map λm=>wd (whoB p m)) (ms.length:Int) 0 z p c s []=K x z p c s ms:=by
 unfold cL;rw[Ad];refine(Jc (λm i t=>Vh m k1 K x (ms.map λm=>wd (whoB p m)) (ms.length:Int) i z p c s t) (λx=>[x]) (λt=>K x z p c s t) 0 ms [] 1 (by omega) (λ_ _=>by simp) (λm i t hi ht=>?_) λm t=>?_).trans ?_
 ·simp only[CX]at ht
  simp only[AiX,cK];refine(Ai (by omega)).trans ?_;refine(Al (by rw[DK];omega)).trans ?_;simp only[AT,Aa8 (λm=>wd (whoB p m)) hi _ 0];refine(Amu hp Ba (AaN _ (C5 hi)) _).trans ?_;refine(RC _).trans ?_;refine(BM rfl).trans ?_;refine(Er (show(t.length+1)*8<=_ by omega)).trans ?_;rw[i64_in ((i:Int)+1) (by omega)]
 ·simp only[AiX,cK]
  exact Ae (by omega)
 ·rw[Fl,Pf,List.map_id']
theorem AEM{ms:List Int}(hm:ms.length<=100)(AaN:∀x∈ms,0<=x/\x<(p.length:Int))(hp:(p.map (·.1)).Nodup)(Ba:p.length<=1000)(hs:s.length<=1000)(n:List UInt8)(ls:List AU)(es:List Ed)(Jk:ls.length<=1000)(ln:List UInt8)(lz:Int)(lt:Int×Int)(lu le:Int)(r:List (Int×Int)×Int×Int)(k:KB β):Vi (wd memW::ms.map λm=>wd (whoB p m)) z p c (s++[(n,ls++[(ln,lz,lt,lu,le,[],r)],es)]) k=k 0 z p c (s++[(n,ls++[(ln,lz,lt,lu,le,ms,r)],es)]):=by
 unfold Vi;rw[Ad];refine(Ae (Kq _ _)).trans ?_;simp only[Kp s (n,ls++[(ln,lz,lt,lu,le,[],r)],es) (by omega),AT,JL];refine(Al (Kr _ _)).trans ?_;refine(Ae (Kq _ _)).trans ?_;simp only[Kp ls (ln,lz,lt,lu,le,[],r) (by omega),AT];refine(Al (Kr _ _)).trans ?_;rw[AEK];refine c_t.trans ?_;rw[AEJ,DK];refine(AEL _ _ hm AaN hp Ba).trans ?_;simp only[JL,Ko];refine(JM (show(0+ms.length)*8<=_ by omega)).trans ?_;rfl
theorem b_on{x:Int×Int}(hx:PWin x)(hs:s.length<=1000)(n:List UInt8)(ls:List AU)(es:List Ed)(Jk:ls.length<=1000)(ln:List UInt8)(lz:Int)(lt:Int×Int)(lu le:Int)(ms:List Int)(ws:List (Int×Int))(AK5:ws.length<=1000)(r:Int×Int)(k:KB β):UD (stW onW x) z p c (s++[(n,ls++[(ln,lz,lt,lu,le,ms,ws,r)],es)]) k=k 0 z p c (s++[(n,ls++[(ln,lz,lt,lu,le,ms,ws++[x],r)],es)]):=by
 unfold UD;rw[Ad];refine(Ams hx _).trans ?_;refine(Ae (Kq _ _)).trans ?_;simp only[Kp s (n,ls++[(ln,lz,lt,lu,le,ms,ws,r)],es) (by omega),AT,JL,Ko];refine(Al (Kr _ _)).trans ?_;refine(Ae (Kq _ _)).trans ?_;simp only[Kp ls (ln,lz,lt,lu,le,ms,ws,r) (by omega),AT,JL,Ko];refine(Al (Kr _ _)).trans ?_;refine(Ai trivial).trans ?_;refine(JM (show(ws.length+1)*16<=_ by omega)).trans ?_;rfl
theorem Amv{kw:List UInt8}{md:Int}(AGC:(kw=at' VY 1/\md=1)\/(kw=at' VY 2/\md=2)){ca:Int}(Pp:0<=ca/\ca<(c.length:Int))(hc:(c.map (·.1)).Nodup)(HI:c.length<=1000)(hs:s.length<=1000)(n:List UInt8)(ls:List AU)(es:List Ed)(Jk:ls.length<=1000)(ln:List UInt8)(lz:Int)(lt:Int×Int)(lu le:Int)(ms:List Int)(ws:List (Int×Int))(k:KB β):OV [wd kw,wd (calN c ca)] z p c (s++[(n,ls++[(ln,lz,lt,lu,le,ms,ws,0,0)],es)]) k=k 0 z p c (s++[(n,ls++[(ln,lz,lt,lu,le,ms,ws,ca,md)],es)]):=by
 unfold OV;rw[Ad];refine(Ae (Kq _ _)).trans ?_;simp only[Kp s (n,ls++[(ln,lz,lt,lu,le,ms,ws,0,0)],es) (by omega),AT,JL,Ko];refine(Al (Kr _ _)).trans ?_;refine(Ae (Kq _ _)).trans ?_;simp only[Kp ls (ln,lz,lt,lu,le,ms,ws,0,0) (by omega),AT,JL,Ko];refine(Al (Kr _ _)).trans ?_;refine(BM trivial).trans ?_;refine(Al (show(0:Int)<=1/\(1:Int)<((2:Nat):Int) by omega)).trans ?_
 refine(AEE hc HI Pp (λt t2=>IY t2 λEZ=>cond (!decide (EZ=(0:Int))) (k EZ z p c (s++[(n,ls++[(ln,lz,lt,lu,le,ms,ws,0,0)],es)])) (
  cond (decide (0<=(0:Int))&&decide ((0:Int)<((2:Nat):Int))) (cond (decide (kw=([111,110,108,121]:List UInt8))) (k 0 z p c (s++[(n,ls++[(ln,lz,lt,lu,le,ms,ws,t,2)],es)])) (k 0 z p c (s++[(n,ls++[(ln,lz,lt,lu,le,ms,ws,t,1)],es)]))) none))).trans ?_
 refine(RC _).trans ?_;refine(BM rfl).trans ?_;refine(Al (show(0:Int)<=0/\(0:Int)<((2:Nat):Int) by omega)).trans ?_;rcases AGC with⟨rfl,rfl⟩|⟨rfl,rfl⟩
 ·exact Ae (by decide)
 ·exact Ai rfl
end
end
end Go.Lift
namespace Go.Lift
open Go.RowKit Go.IntWalk
noncomputable section
variable[Sl]
set_option maxRecDepth 10000
section
variable{β:Type}{z:List AK}{p:List Bb}{c:List Bh}{s:List By}
theorem Aa9{k1:cM β}{k2:cN β}{S:Nat}{l:List Tok}{i m:Nat}{x:Ed}{people:List Int}{A:Int}(hi:i<l.length)(Lp:i<people.length)(hl:l.length<=10)(ht:l.getD i (0,[],0)=wd (whoB p A))(hA:(0<=A/\A<(p.length:Int))\/(x.1=1/\A=-1))(hp:(p.map (·.1)).Nodup)(Ba:p.length<=1000)(F9:GS∉p.map (·.1)):Mb (m+1) k1 k2 S l (l.length:Int) (i:Int) z p c s x people=Mb m k1 k2 S l (l.length:Int) ((i+1:Nat):Int) z p c s x (people.set i A):=by
 have fin:∀(B:Int)(K1:AiY β)(K2:AiZ β),Rj K1 K2 S (i:Int) B true l (l.length:Int) (i:Int) z p c s x people=K2 S l (l.length:Int) (i:Int) z p c s x (people.set i B):=by intro B K1 K2;unfold Rj;rw[Ad];unfold uZ;refine(RC _).trans ?_;refine(BM rfl).trans ?_;refine(Al (by omega)).trans ?_;rw[AT]
 have ew:IntKind.i64.wrap ((i:Int)+1)=((i+1:Nat):Int):=by rw[i64_in _ (by omega)];omega
 simp only[Aj1,cO];refine(Ai (by omega)).trans ?_;refine(Al (by omega)).trans ?_;simp only[AT,ht];rcases hA with hA|⟨hx,hA⟩
 ·refine(Amu hp Ba hA _).trans ?_
  have e:whoB p A=(p.getD A.toNat ([],0,[],0,0,false)).1:=by unfold whoB;rw[if_neg (by omega)]
  have AW:whoB p A≠GS:=by rw[e];intro g;exact F9 (by rw[<-g];exact Qi (C5 (by omega)))
  by_cases hx:x.1=1
  ·refine(Ai hx).trans ?_
   refine(Ae AW).trans ?_;refine(fin _ _ _).trans ?_;rw[ew]
  ·refine(Ae hx).trans ?_
   refine(fin _ _ _).trans ?_;rw[ew]
 ·refine(Alz (z,p,c,s) _ (by show p.length<=_;omega) _).trans ?_
  refine(Ai hx).trans ?_;subst hA;refine(Ai rfl).trans ?_;refine(fin _ _ _).trans ?_;rw[ew]
theorem Amw{k1:cM β}{k2:cN β}{S:Nat}{l:List Tok}{m:Nat}{x:Ed}{people:List Int}:Mb (m+1) k1 k2 S l (l.length:Int) (l.length:Int) z p c s x people=k2 S z p c s x people:=by
 simp only[Aj1,cO];exact Ae (by omega)
theorem AEN:∃m,fuel=m+1+1+1:=⟨fuel-3,by have:=BB (n:=3) (by omega);omega⟩
theorem Aaa{x:Ed}(hx:EdF (p.length:Int) x)(hp:(p.map (·.1)).Nodup)(Ba:p.length<=1000)(F9:GS∉p.map (·.1))(hs:s.length<=1000)(n:List UInt8)(ls:List AU)(es:List Ed)(Gs:es.length<=1000)(k:KB β):Mc (Ga p x) z p c (s++[(n,ls,es)]) k=k 0 z p c (s++[(n,ls,es++[x])]):=by
 have hk:=hx.k;obtain⟨m,hm⟩:=AEN;unfold Mc;rw[Ad];refine(Ae (Kq _ _)).trans ?_;simp only[Kp s (n,ls,es) (by omega),AT];refine(Al (Kr _ _)).trans ?_;have h0:0<(Ga p x).length:=by unfold Ga;simp
 refine(Al (by omega)).trans ?_;refine(AEw hk _).trans ?_;have ha:=hx.a;by_cases h2:x.1=2
 ·have hb:=hx.b h2
  have e:Ga p x=[wd (at' JG x.1),wd (whoB p x.2.1),wd (whoB p x.2.2.1),nu 5 x.2.2.2.1,nu 5 x.2.2.2.2]:=by unfold Ga Wg;rw[if_pos h2];rfl
  rw[e];refine(Al (show(0:Int)<=3/\(3:Int)<((5:Nat):Int) by omega)).trans ?_;refine(Al (show(0:Int)<=4/\(4:Int)<((5:Nat):Int) by omega)).trans ?_;refine(c_b (show(decide (0<=(1:Int))&&(decide ((1:Int)<=(3:Int))&&decide ((3:Int)<=(5:Int))))=true from rfl)).trans ?_;unfold cP;rw[Ad,hm];show Mb (m+1+1+1) _ _ s.length [wd (whoB p x.2.1),wd (whoB p x.2.2.1)] ((2:Nat):Int) ((0:Nat):Int) z p c (s++[(n,ls,es)]) (x.1,0,0,x.2.2.2.1,x.2.2.2.2) [0,0]=_;refine(Aa9 (l:=[wd (whoB p x.2.1),wd (whoB p x.2.2.1)]) (A:=x.2.1) (by simp) (by simp) (by simp) rfl (by show _\/(x.1=1/\_);exact ha) hp Ba F9).trans ?_;refine(Aa9 (l:=[wd (whoB p x.2.1),wd (whoB p x.2.2.1)]) (A:=x.2.2.1) (by simp) (by simp) (by simp) rfl (.inl hb) hp Ba F9).trans ?_;refine(Amw (l:=[wd (whoB p x.2.1),wd (whoB p x.2.2.1)])).trans ?_;refine(Al (show(0:Int)<=0/\(0:Int)<((2:Nat):Int) by omega)).trans ?_;refine(Al (show(0:Int)<=1/\(1:Int)<((2:Nat):Int) by omega)).trans ?_;simp only[JL,Ko];refine(JM (show(es.length+1)*40<=_ by omega)).trans ?_;rfl
 ·have hb:=hx.b0 h2
  have e:Ga p x=[wd (at' JG x.1),wd (whoB p x.2.1),nu 5 x.2.2.2.1,nu 5 x.2.2.2.2]:=by unfold Ga Wg;rw[if_neg h2];rfl
  rw[e];refine(Al (show(0:Int)<=2/\(2:Int)<((4:Nat):Int) by omega)).trans ?_;refine(Al (show(0:Int)<=3/\(3:Int)<((4:Nat):Int) by omega)).trans ?_;refine(c_b (show(decide (0<=(1:Int))&&(decide ((1:Int)<=(2:Int))&&decide ((2:Int)<=(4:Int))))=true from rfl)).trans ?_;unfold cP;rw[Ad,hm];show Mb (m+1+1+1) _ _ s.length [wd (whoB p x.2.1)] ((1:Nat):Int) ((0:Nat):Int) z p c (s++[(n,ls,es)]) (x.1,0,0,x.2.2.2.1,x.2.2.2.2) [0,0]=_;refine(Aa9 (l:=[wd (whoB p x.2.1)]) (A:=x.2.1) (by simp) (by simp) (by simp) rfl (by show _\/(x.1=1/\_);exact ha) hp Ba F9).trans ?_;refine(Amw (l:=[wd (whoB p x.2.1)])).trans ?_;refine(Al (show(0:Int)<=0/\(0:Int)<((2:Nat):Int) by omega)).trans ?_;refine(Al (show(0:Int)<=1/\(1:Int)<((2:Nat):Int) by omega)).trans ?_;simp only[JL,Ko];refine(JM (show(es.length+1)*40<=_ by omega)).trans ?_;show k 0 z p c (s++[(n,ls,es++[(x.1,x.2.1,0,x.2.2.2)])])=_;rw[<-hb]
end
end
end Go.Lift
namespace Go.Lift
open Go.RowKit Go.IntWalk
noncomputable section
variable[Sl]
set_option maxRecDepth 10000
abbrev Stm:=Int×List Tok
def GC(b:As)(toks:List Tok)(b':As):Prop:=
 ∀{β:Type}(k1:fL β)(k2:fN β)(m i:Nat)(l:List Stm)(line:Int),i<l.length->l.length<=1000->l.getD i (0,[])=(line,toks)->
  Nt (m+1) k1 k2 l (l.length:Int) (i:Int) [] [] [] [] b.1 b.2.1 b.2.2.1 b.2.2.2=Nt m k1 k2 l (l.length:Int) ((i:Int)+1) [] [] [] [] b'.1 b'.2.1 b'.2.2.1 b'.2.2.2
abbrev GD(toks:List Tok):Prop:=∀{β:Type}(k:Bool->Option β),DV toks k=k true
section
variable{toks:List Tok}{b:As}{z':List AK}{p':List Bb}{c':List Bh}{s':List By}
theorem build_p1{β:Type}{k1:Al2 β}{k2:Al3 β}{l:List Stm}{x y:Int}{st:Stm}{z p c s}:GQ k1 k2 0 l x y st [] [] [] [] z p c s=k2 l x y [] [] [] [] z p c s:=by
 unfold GQ;rw[Ad];unfold yQ;exact BM rfl
theorem AEO(hF:GD toks)(h0:0<toks.length)(hw:(toks.getD 0 (0,[],0)).2.1=[122,111,110,101])(hk:∀{β:Type}(k:KB β),TB toks b.1 b.2.1 b.2.2.1 b.2.2.2 k=k 0 z' p' c' s'):GC b toks (z',p',c',s'):=by intro β k1 k2 m i l line h1 h2 h3;rw[HB];unfold GR;refine(Ai (by omega)).trans ?_;refine(Al (by omega)).trans ?_;dsimp only;rw[AT,h3];refine(hF _).trans ?_;refine c_f.trans ?_;refine(Al (by show(0:Int)<=0/\(0:Int)<(toks.length:Int);omega)).trans ?_;dsimp only;rw[show Int.toNat (0:Int)=0 from rfl,hw];refine(Ai rfl).trans ?_;refine(hk _).trans ?_;refine build_p1.trans ?_;rw[i64_in ((i:Int)+1) (by omega)]
theorem AEP(hF:GD toks)(h0:0<toks.length)(hw:(toks.getD 0 (0,[],0)).2.1=[114,117,108,101])(hk:∀{β:Type}(k:KB β),UB toks b.1 b.2.1 b.2.2.1 b.2.2.2 k=k 0 z' p' c' s'):GC b toks (z',p',c',s'):=by intro β k1 k2 m i l line h1 h2 h3;rw[HB];unfold GR;refine(Ai (by omega)).trans ?_;refine(Al (by omega)).trans ?_;dsimp only;rw[AT,h3];refine(hF _).trans ?_;refine c_f.trans ?_;refine(Al (by show(0:Int)<=0/\(0:Int)<(toks.length:Int);omega)).trans ?_;dsimp only;rw[show Int.toNat (0:Int)=0 from rfl,hw];refine(Ae (by decide)).trans ?_;refine(Ai rfl).trans ?_;refine(hk _).trans ?_;refine build_p1.trans ?_;rw[i64_in ((i:Int)+1) (by omega)]
theorem AEQ(hF:GD toks)(h0:0<toks.length)(hw:(toks.getD 0 (0,[],0)).2.1=[112,101,114,115,111,110])(hk:∀{β:Type}(k:KB β),Rh toks b.1 b.2.1 b.2.2.1 b.2.2.2 k=k 0 z' p' c' s'):GC b toks (z',p',c',s'):=by intro β k1 k2 m i l line h1 h2 h3;rw[HB];unfold GR;refine(Ai (by omega)).trans ?_;refine(Al (by omega)).trans ?_;dsimp only;rw[AT,h3];refine(hF _).trans ?_;refine c_f.trans ?_;refine(Al (by show(0:Int)<=0/\(0:Int)<(toks.length:Int);omega)).trans ?_;dsimp only;rw[show Int.toNat (0:Int)=0 from rfl,hw];refine(Ae (by decide)).trans ?_;refine(Ae (by decide)).trans ?_;refine(Ai rfl).trans ?_;refine(hk _).trans ?_;refine build_p1.trans ?_;rw[i64_in ((i:Int)+1) (by omega)]
theorem AER(hF:GD toks)(h0:0<toks.length)(hw:(toks.getD 0 (0,[],0)).2.1=[113,117,105,101,116])(hk:∀{β:Type}(k:KB β),UC toks b.1 b.2.1 b.2.2.1 b.2.2.2 k=k 0 z' p' c' s'):GC b toks (z',p',c',s'):=by intro β k1 k2 m i l line h1 h2 h3;rw[HB];unfold GR;refine(Ai (by omega)).trans ?_;refine(Al (by omega)).trans ?_;dsimp only;rw[AT,h3];refine(hF _).trans ?_;refine c_f.trans ?_;refine(Al (by show(0:Int)<=0/\(0:Int)<(toks.length:Int);omega)).trans ?_;dsimp only;rw[show Int.toNat (0:Int)=0 from rfl,hw];refine(Ae (by decide)).trans ?_;refine(Ae (by decide)).trans ?_;refine(Ae (by decide)).trans ?_;refine(Ai rfl).trans ?_;refine(hk _).trans ?_;refine build_p1.trans ?_;rw[i64_in ((i:Int)+1) (by omega)]
theorem AES(hF:GD toks)(h0:0<toks.length)(hw:(toks.getD 0 (0,[],0)).2.1=[99,97,108,101,110,100,97,114])(hk:∀{β:Type}(k:KB β),UO toks b.1 b.2.1 b.2.2.1 b.2.2.2 k=k 0 z' p' c' s'):GC b toks (z',p',c',s'):=by intro β k1 k2 m i l line h1 h2 h3;rw[HB];unfold GR;refine(Ai (by omega)).trans ?_;refine(Al (by omega)).trans ?_;dsimp only;rw[AT,h3];refine(hF _).trans ?_;refine c_f.trans ?_;refine(Al (by show(0:Int)<=0/\(0:Int)<(toks.length:Int);omega)).trans ?_;dsimp only;rw[show Int.toNat (0:Int)=0 from rfl,hw];refine(Ae (by decide)).trans ?_;refine(Ae (by decide)).trans ?_;refine(Ae (by decide)).trans ?_;refine(Ae (by decide)).trans ?_;refine(Ai rfl).trans ?_;refine(hk _).trans ?_;refine build_p1.trans ?_;rw[i64_in ((i:Int)+1) (by omega)]
theorem AET(hF:GD toks)(h0:0<toks.length)(hw:(toks.getD 0 (0,[],0)).2.1=[100,97,121,115])(hk:∀{β:Type}(k:KB β),Un toks b.1 b.2.1 b.2.2.1 b.2.2.2 k=k 0 z' p' c' s'):GC b toks (z',p',c',s'):=by intro β k1 k2 m i l line h1 h2 h3;rw[HB];unfold GR;refine(Ai (by omega)).trans ?_;refine(Al (by omega)).trans ?_;dsimp only;rw[AT,h3];refine(hF _).trans ?_;refine c_f.trans ?_;refine(Al (by show(0:Int)<=0/\(0:Int)<(toks.length:Int);omega)).trans ?_;dsimp only;rw[show Int.toNat (0:Int)=0 from rfl,hw];refine(Ae (by decide)).trans ?_;refine(Ae (by decide)).trans ?_;refine(Ae (by decide)).trans ?_;refine(Ae (by decide)).trans ?_;refine(Ae (by decide)).trans ?_;refine(Ai rfl).trans ?_;refine(hk _).trans ?_;refine build_p1.trans ?_;rw[i64_in ((i:Int)+1) (by omega)]
theorem AEU(hF:GD toks)(h0:0<toks.length)(hw:(toks.getD 0 (0,[],0)).2.1=[115,99,104,101,100,117,108,101])(hk:∀{β:Type}(k:KB β),TC toks b.1 b.2.1 b.2.2.1 b.2.2.2 k=k 0 z' p' c' s'):GC b toks (z',p',c',s'):=by intro β k1 k2 m i l line h1 h2 h3;rw[HB];unfold GR;refine(Ai (by omega)).trans ?_;refine(Al (by omega)).trans ?_;dsimp only;rw[AT,h3];refine(hF _).trans ?_;refine c_f.trans ?_;refine(Al (by show(0:Int)<=0/\(0:Int)<(toks.length:Int);omega)).trans ?_;dsimp only;rw[show Int.toNat (0:Int)=0 from rfl,hw];refine(Ae (by decide)).trans ?_;refine(Ae (by decide)).trans ?_;refine(Ae (by decide)).trans ?_;refine(Ae (by decide)).trans ?_;refine(Ae (by decide)).trans ?_;refine(Ae (by decide)).trans ?_;refine(Ai rfl).trans ?_;refine(hk _).trans ?_;refine build_p1.trans ?_;rw[i64_in ((i:Int)+1) (by omega)]
theorem AEV(hF:GD toks)(h0:0<toks.length)(hw:(toks.getD 0 (0,[],0)).2.1=[108,97,121,101,114])(hk:∀{β:Type}(k:KB β),UP toks b.1 b.2.1 b.2.2.1 b.2.2.2 k=k 0 z' p' c' s'):GC b toks (z',p',c',s'):=by intro β k1 k2 m i l line h1 h2 h3;rw[HB];unfold GR;refine(Ai (by omega)).trans ?_;refine(Al (by omega)).trans ?_;dsimp only;rw[AT,h3];refine(hF _).trans ?_;refine c_f.trans ?_;refine(Al (by show(0:Int)<=0/\(0:Int)<(toks.length:Int);omega)).trans ?_;dsimp only;rw[show Int.toNat (0:Int)=0 from rfl,hw];refine(Ae (by decide)).trans ?_;refine(Ae (by decide)).trans ?_;refine(Ae (by decide)).trans ?_;refine(Ae (by decide)).trans ?_;refine(Ae (by decide)).trans ?_;refine(Ae (by decide)).trans ?_;refine(Ae (by decide)).trans ?_;refine(Ai rfl).trans ?_;refine(hk _).trans ?_;refine build_p1.trans ?_;rw[i64_in ((i:Int)+1) (by omega)]
theorem AEW(hF:GD toks)(h0:0<toks.length)(hw:(toks.getD 0 (0,[],0)).2.1=[109,101,109,98,101,114])(hk:∀{β:Type}(k:KB β),Vi toks b.1 b.2.1 b.2.2.1 b.2.2.2 k=k 0 z' p' c' s'):GC b toks (z',p',c',s'):=by intro β k1 k2 m i l line h1 h2 h3;rw[HB];unfold GR;refine(Ai (by omega)).trans ?_;refine(Al (by omega)).trans ?_;dsimp only;rw[AT,h3];refine(hF _).trans ?_;refine c_f.trans ?_;refine(Al (by show(0:Int)<=0/\(0:Int)<(toks.length:Int);omega)).trans ?_;dsimp only;rw[show Int.toNat (0:Int)=0 from rfl,hw];refine(Ae (by decide)).trans ?_;refine(Ae (by decide)).trans ?_;refine(Ae (by decide)).trans ?_;refine(Ae (by decide)).trans ?_;refine(Ae (by decide)).trans ?_;refine(Ae (by decide)).trans ?_;refine(Ae (by decide)).trans ?_;refine(Ae (by decide)).trans ?_;refine(Ai rfl).trans ?_;refine(hk _).trans ?_;refine build_p1.trans ?_;rw[i64_in ((i:Int)+1) (by omega)]
theorem AEX(hF:GD toks)(h0:0<toks.length)(hw:(toks.getD 0 (0,[],0)).2.1=[111,110])(hk:∀{β:Type}(k:KB β),UD toks b.1 b.2.1 b.2.2.1 b.2.2.2 k=k 0 z' p' c' s'):GC b toks (z',p',c',s'):=by intro β k1 k2 m i l line h1 h2 h3;rw[HB];unfold GR;refine(Ai (by omega)).trans ?_;refine(Al (by omega)).trans ?_;dsimp only;rw[AT,h3];refine(hF _).trans ?_;refine c_f.trans ?_;refine(Al (by show(0:Int)<=0/\(0:Int)<(toks.length:Int);omega)).trans ?_;dsimp only;rw[show Int.toNat (0:Int)=0 from rfl,hw];refine(Ae (by decide)).trans ?_;refine(Ae (by decide)).trans ?_;refine(Ae (by decide)).trans ?_;refine(Ae (by decide)).trans ?_;refine(Ae (by decide)).trans ?_;refine(Ae (by decide)).trans ?_;refine(Ae (by decide)).trans ?_;refine(Ae (by decide)).trans ?_;refine(Ae (by decide)).trans ?_;refine(Ai rfl).trans ?_;refine(hk _).trans ?_;refine build_p1.trans ?_;rw[i64_in ((i:Int)+1) (by omega)]
theorem AEY(hF:GD toks)(h0:0<toks.length)(hw:(toks.getD 0 (0,[],0)).2.1=[110,111,116])(hk:∀{β:Type}(k:KB β),OV toks b.1 b.2.1 b.2.2.1 b.2.2.2 k=k 0 z' p' c' s'):GC b toks (z',p',c',s'):=by intro β k1 k2 m i l line h1 h2 h3;rw[HB];unfold GR;refine(Ai (by omega)).trans ?_;refine(Al (by omega)).trans ?_;dsimp only;rw[AT,h3];refine(hF _).trans ?_;refine c_f.trans ?_;refine(Al (by show(0:Int)<=0/\(0:Int)<(toks.length:Int);omega)).trans ?_;dsimp only;rw[show Int.toNat (0:Int)=0 from rfl,hw];refine(Ae (by decide)).trans ?_;refine(Ae (by decide)).trans ?_;refine(Ae (by decide)).trans ?_;refine(Ae (by decide)).trans ?_;refine(Ae (by decide)).trans ?_;refine(Ae (by decide)).trans ?_;refine(Ae (by decide)).trans ?_;refine(Ae (by decide)).trans ?_;refine(Ae (by decide)).trans ?_;refine(Ae (by decide)).trans ?_;refine(Ai rfl).trans ?_;refine(hk _).trans ?_;refine build_p1.trans ?_;rw[i64_in ((i:Int)+1) (by omega)]
theorem AEZ(hF:GD toks)(h0:0<toks.length)(hw:(toks.getD 0 (0,[],0)).2.1=[111,110,108,121])(hk:∀{β:Type}(k:KB β),OV toks b.1 b.2.1 b.2.2.1 b.2.2.2 k=k 0 z' p' c' s'):GC b toks (z',p',c',s'):=by intro β k1 k2 m i l line h1 h2 h3;rw[HB];unfold GR;refine(Ai (by omega)).trans ?_;refine(Al (by omega)).trans ?_;dsimp only;rw[AT,h3];refine(hF _).trans ?_;refine c_f.trans ?_;refine(Al (by show(0:Int)<=0/\(0:Int)<(toks.length:Int);omega)).trans ?_;dsimp only;rw[show Int.toNat (0:Int)=0 from rfl,hw];refine(Ae (by decide)).trans ?_;refine(Ae (by decide)).trans ?_;refine(Ae (by decide)).trans ?_;refine(Ae (by decide)).trans ?_;refine(Ae (by decide)).trans ?_;refine(Ae (by decide)).trans ?_;refine(Ae (by decide)).trans ?_;refine(Ae (by decide)).trans ?_;refine(Ae (by decide)).trans ?_;refine(Ae (by decide)).trans ?_;refine(Ae (by decide)).trans ?_;refine(Ai rfl).trans ?_;refine(hk _).trans ?_;refine build_p1.trans ?_;rw[i64_in ((i:Int)+1) (by omega)]
theorem AF0(hF:GD toks)(h0:0<toks.length)(hw:(toks.getD 0 (0,[],0)).2.1=[108,101,97,118,101])(hk:∀{β:Type}(k:KB β),Mc toks b.1 b.2.1 b.2.2.1 b.2.2.2 k=k 0 z' p' c' s'):GC b toks (z',p',c',s'):=by intro β k1 k2 m i l line h1 h2 h3;rw[HB];unfold GR;refine(Ai (by omega)).trans ?_;refine(Al (by omega)).trans ?_;dsimp only;rw[AT,h3];refine(hF _).trans ?_;refine c_f.trans ?_;refine(Al (by show(0:Int)<=0/\(0:Int)<(toks.length:Int);omega)).trans ?_;dsimp only;rw[show Int.toNat (0:Int)=0 from rfl,hw];refine(Ae (by decide)).trans ?_;refine(Ae (by decide)).trans ?_;refine(Ae (by decide)).trans ?_;refine(Ae (by decide)).trans ?_;refine(Ae (by decide)).trans ?_;refine(Ae (by decide)).trans ?_;refine(Ae (by decide)).trans ?_;refine(Ae (by decide)).trans ?_;refine(Ae (by decide)).trans ?_;refine(Ae (by decide)).trans ?_;refine(Ae (by decide)).trans ?_;refine(Ae (by decide)).trans ?_;refine(Ai rfl).trans ?_;refine(hk _).trans ?_;refine build_p1.trans ?_;rw[i64_in ((i:Int)+1) (by omega)]
theorem AF1(hF:GD toks)(h0:0<toks.length)(hw:(toks.getD 0 (0,[],0)).2.1=[111,118,101,114,114,105,100,101])(hk:∀{β:Type}(k:KB β),Mc toks b.1 b.2.1 b.2.2.1 b.2.2.2 k=k 0 z' p' c' s'):GC b toks (z',p',c',s'):=by intro β k1 k2 m i l line h1 h2 h3;rw[HB];unfold GR;refine(Ai (by omega)).trans ?_;refine(Al (by omega)).trans ?_;dsimp only;rw[AT,h3];refine(hF _).trans ?_;refine c_f.trans ?_;refine(Al (by show(0:Int)<=0/\(0:Int)<(toks.length:Int);omega)).trans ?_;dsimp only;rw[show Int.toNat (0:Int)=0 from rfl,hw];refine(Ae (by decide)).trans ?_;refine(Ae (by decide)).trans ?_;refine(Ae (by decide)).trans ?_;refine(Ae (by decide)).trans ?_;refine(Ae (by decide)).trans ?_;refine(Ae (by decide)).trans ?_;refine(Ae (by decide)).trans ?_;refine(Ae (by decide)).trans ?_;refine(Ae (by decide)).trans ?_;refine(Ae (by decide)).trans ?_;refine(Ae (by decide)).trans ?_;refine(Ae (by decide)).trans ?_;refine(Ae (by decide)).trans ?_;refine(Ai rfl).trans ?_;refine(hk _).trans ?_;refine build_p1.trans ?_;rw[i64_in ((i:Int)+1) (by omega)]
theorem AF2(hF:GD toks)(h0:0<toks.length)(hw:(toks.getD 0 (0,[],0)).2.1=[115,119,97,112])(hk:∀{β:Type}(k:KB β),Mc toks b.1 b.2.1 b.2.2.1 b.2.2.2 k=k 0 z' p' c' s'):GC b toks (z',p',c',s'):=by intro β k1 k2 m i l line h1 h2 h3;rw[HB];unfold GR;refine(Ai (by omega)).trans ?_;refine(Al (by omega)).trans ?_;dsimp only;rw[AT,h3];refine(hF _).trans ?_;refine c_f.trans ?_;refine(Al (by show(0:Int)<=0/\(0:Int)<(toks.length:Int);omega)).trans ?_;dsimp only;rw[show Int.toNat (0:Int)=0 from rfl,hw];refine(Ae (by decide)).trans ?_;refine(Ae (by decide)).trans ?_;refine(Ae (by decide)).trans ?_;refine(Ae (by decide)).trans ?_;refine(Ae (by decide)).trans ?_;refine(Ae (by decide)).trans ?_;refine(Ae (by decide)).trans ?_;refine(Ae (by decide)).trans ?_;refine(Ae (by decide)).trans ?_;refine(Ae (by decide)).trans ?_;refine(Ae (by decide)).trans ?_;refine(Ae (by decide)).trans ?_;refine(Ae (by decide)).trans ?_;refine(Ae (by decide)).trans ?_;refine(Ai rfl).trans ?_;refine(hk _).trans ?_;refine build_p1.trans ?_;rw[i64_in ((i:Int)+1) (by omega)]
end
def Run:List (List Tok)->As->As->Prop
 |[],b,b'=>b=b'
 |t::r,b,b''=>∃b',GC b t b'/\Run r b' b''
theorem Run.app:∀{a:List (List Tok)}{b c d:As}{r:List (List Tok)},Run a b c->Run r c d->Run (a++r) b d
 |[],b,c,d,r,h,h2=>by have h:b=c:=h;rw[h];exact h2
 |t::a,b,c,d,r,⟨b',h1,h2⟩,h3=>⟨b',h1,Run.app h2 h3⟩
theorem Run.one{t:List Tok}{b b':As}(h:GC b t b'):Run [t] b b':=⟨b',h,rfl⟩
theorem Run.cons{t:List Tok}{r:List (List Tok)}{b b' c:As}(h:GC b t b')(hr:Run r b' c):Run (t::r) b c:=⟨b',h,hr⟩
section
variable{β:Type}
theorem Amx{k1:fL β}{k2:fN β}{l:List Stm}{rest:List (List Tok)}(hl:l.length<=1000):∀(a:List (List Tok))(i m:Nat)(b b':As),Run a b b'->(l.map (·.2)).drop i=a++rest->Nt (m+a.length) k1 k2 l (l.length:Int) (i:Int) [] [] [] [] b.1 b.2.1 b.2.2.1 b.2.2.2=Nt m k1 k2 l (l.length:Int) ((i+a.length:Nat):Int) [] [] [] [] b'.1 b'.2.1 b'.2.2.1 b'.2.2.2
 |[],i,m,b,b',h,_=>by have h:b=b':=h;rw[h];rfl
 |t::a,i,m,b,b'',⟨b',h1,h2⟩,hd=>by
  have hi:i<l.length:=by have:=Ax List.length hd;simp only[IL,DK,AR,AX]at this;omega
  have hg:(l.getD i (0,[])).2=t:=by
   have h3:((l.map (·.2)).drop i)[0]?=some t:=by rw[hd];rfl
   rw[NV,FT]at h3;simp only[Oa,Ef hi,Fa,Ag]at h3;simp[List.getD,hi,h3]
  have Cv:(l.map (·.2)).drop (i+1)=a++rest:=by rw[<-S1,hd];rfl
  rw[AX,show m+(a.length+1)=(m+a.length)+1 by omega];refine(h1 k1 k2 (m+a.length) i l (l.getD i (0,[])).1 hi hl (by rw[<-hg])).trans ?_;have:=Amx (k1:=k1) (k2:=k2) hl a (i+1) m b' b'' h2 Cv;rw[show((i+1:Nat):Int)=(i:Int)+1 by omega]at this;rw[this,show i+(a.length+1)=i+1+a.length by omega]
theorem AF3{n:Nat}(h:n<=1000):∃m,fuel=(m+1)+n:=by have:=BB (n:=n) (by omega);exact⟨fuel-n-1,by omega⟩
theorem AF4{l:List Stm}{b:As}(hl:l.length<=1000)(hr:Run (l.map (·.2)) ([],[],[],[]) b)(hb:ConfOk b)(k:As->Int->Int->Option β):Ry l k=k b 0 0:=by
 unfold Ry;rw[Ad]
 iterate 15 refine c_t.trans ?_
 unfold yR;rw[Ad];obtain⟨m,hm⟩:=AF3 (n:=l.length) (by omega);rw[hm];have AaJ:(l.map (·.2)).length=l.length:=DK _
 have:=Amx (rest:=[]) (k1:=λline e Am AB AG Aq=>k (Am,(AB,(AG,Aq))) line e) (k2:=λAB AG Aq BX BG BE Cp Cl=>
  Ru (BG,(BE,(Cp,Cl))) (λFR=>cond (!decide (FR=(0:Int))) (k Nf (0:Int) FR) (k (BG,(BE,(Cp,Cl))) (0:Int) (0:Int)))) hl (l.map (·.2)) 0 (m+1) ([],[],[],[]) b hr (by simp)
 rw[AaJ]at this;refine this.trans ?_;rw[HB];unfold GR;refine(Ae (by omega)).trans ?_;refine(Alc (b.1,(b.2.1,(b.2.2.1,b.2.2.2))) FZ (λy hy k=>Alf (hb.oz.2 y hy).1 k) _).trans ?_;show cond (!decide (VQ FZ b=0)) _ _=_;rw[Aly hb];exact BM rfl
end
end
end Go.Lift
namespace Go.Lift
open Go.RowKit Go.IntWalk
noncomputable section
variable[Sl]
set_option maxRecDepth 10000
abbrev AllF(ls:List (List Tok)):Prop:=∀t∈ls,GD t
theorem AllF.l{a b:List (List Tok)}(h:AllF (a++b)):AllF a:=λt ht=>h t (D0 _ ht)
theorem AllF.r{a b:List (List Tok)}(h:AllF (a++b)):AllF b:=λt ht=>h t (DJ _ ht)
theorem AllF.h{t:List Tok}{b:List (List Tok)}(h:AllF (t::b)):GD t:=h t (CW ..)
theorem AllF.t{t:List Tok}{b:List (List Tok)}(h:AllF (t::b)):AllF b:=λx hx=>h x (BY _ hx)
section
variable{z:List AK}{p:List Bb}{c:List Bh}{s:List By}
theorem Amy(n:List UInt8)(o:Int)(hz:z.length<=1000):∀(rs dn:List BZ),AllF (rs.map Mj)->(∀r∈rs,RuleOk r)->dn.length+rs.length<=1000->Run (rs.map Mj) (z++[(n,o,dn)],p,c,s) (z++[(n,o,dn++rs)],p,c,s)
 |[],dn,_,_,_=>by rw[F3];rfl
 |r::rs,dn,hF,hr,hl=>by rw[AX]at hl;refine Run.cons (b':=(z++[(n,o,dn++[r])],p,c,s)) (AEP hF.h (by simp[Mj]) rfl λk=>AEy (hr r (CW ..)) n o dn hz (by omega) k) ?_;have:=Amy n o hz rs (dn++[r]) hF.t (λx hx=>hr x (BY _ hx)) (by simp;omega);rw[Ci]at this;exact this
theorem Amz:∀(zs z:List AK),AllF (zs.flatMap Ib)->(∀x∈zs,ZoneOk x)->z.length+zs.length<=1000->Run (zs.flatMap Ib) (z,p,c,s) (z++zs,p,c,s)
 |[],z,_,_,_=>by rw[F3];rfl
 |x::zs,z,hF,hx,hl=>by
  rw[AX]at hl;rw[Jw]at hF⊢;have h1:=hx x (CW ..);have h2:=h1.l;have hF1:AllF (Ib x):=hF.l;refine Run.app (c:=(z++[x],p,c,s)) ?_ ?_
  ·refine Run.cons (b':=(z++[(x.1,x.2.1,[])],p,c,s)) (AEO hF1.h (by simp) rfl λk=>AEx x.1 x.2.1 (show z.length<=1000 by omega) k) ?_
   exact Amy x.1 x.2.1 (by omega) x.2.2 [] hF1.t h1.r (by simp;omega)
  ·have:=Amz zs (z++[x]) hF.r (λy hy=>hx y (BY _ hy)) (by simp;omega)
   rw[Ci]at this;exact this
theorem AmA(n:List UInt8)(pz:Int)(r:Int×Int×Bool)(hp:p.length<=1000):∀(ws dn:List (Int×Int)),AllF (ws.map (stW Kn))->(∀x∈ws,PWin x)->dn.length+ws.length<=1000->Run (ws.map (stW Kn)) (z,p++[(n,pz,dn,r)],c,s) (z,p++[(n,pz,dn++ws,r)],c,s)
 |[],dn,_,_,_=>by rw[F3];rfl
 |x::ws,dn,hF,hr,hl=>by rw[AX]at hl;refine Run.cons (b':=(z,p++[(n,pz,dn++[x],r)],c,s)) (AER hF.h (by simp[stW]) rfl λk=>AEz (hr x (CW ..)) n pz dn r hp (by omega) k) ?_;have:=AmA n pz r hp ws (dn++[x]) hF.t (λx hx=>hr x (BY _ hx)) (by simp;omega);rw[Ci]at this;exact this
theorem AmB(hz:(z.map (·.1)).Nodup)(E1:z.length<=1000):∀(ps p:List Bb),AllF (ps.flatMap (Ic z))->(∀x∈ps,PerF (z.length:Int) x)->p.length+ps.length<=1000->Run (ps.flatMap (Ic z)) (z,p,c,s) (z,p++ps,c,s)
 |[],p,_,_,_=>by rw[F3];rfl
 |x::ps,p,hF,hx,hl=>by
  rw[AX]at hl;rw[Jw]at hF⊢;have h1:=hx x (CW ..);have h2:=h1.q;have hF1:AllF (Ic z x):=hF.l;refine Run.app (c:=(z,p++[x],c,s)) ?_ ?_
  ·refine Run.cons (b':=(z,p++[(x.1,x.2.1,[],x.2.2.2)],c,s)) (AEQ hF1.h (by simp[Pg]) rfl λk=>AEF h1 hz E1 (show p.length<=1000 by omega) k) ?_
   exact AmA x.1 x.2.1 x.2.2.2 (by omega) x.2.2.1 [] hF1.t h2.2 (by simp;omega)
  ·have:=AmB hz E1 ps (p++[x]) hF.r (λy hy=>hx y (BY _ hy)) (by simp;omega)
   rw[Ci]at this;exact this
theorem AmC(hz:(z.map (·.1)).Nodup)(E1:z.length<=1000):∀(cs c:List Bh),AllF (cs.flatMap (I1 z))->(∀x∈cs,(0<=x.2.1/\x.2.1<(z.length:Int))/\x.2.2.length<=20)->c.length+cs.length<=1000->Run (cs.flatMap (I1 z)) (z,p,c,s) (z,p,c++cs,s)
 |[],c,_,_,_=>by rw[F3];rfl
 |x::cs,c,hF,hx,hl=>by
  rw[AX]at hl;rw[Jw]at hF⊢;have h1:=hx x (CW ..);have hF1:AllF (I1 z x):=hF.l;refine Run.app (c:=(z,p,c++[x],s)) ?_ ?_
  ·refine Run.cons (b':=(z,p,c++[(x.1,x.2.1,[])],s)) (AES hF1.h (by simp) rfl λk=>AEG h1.1 hz E1 (show c.length<=1000 by omega) k) ?_
   have hF2:AllF (R5 x.2.2):=hF1.t;unfold R5 at hF2⊢;by_cases e:x.2.2=[]
   ·rw[if_pos e]
    show(z,p,c++[(x.1,x.2.1,[])],s)=(z,p,c++[x],s);rw[<-e]
   ·rw[if_neg e]at hF2⊢
    exact Run.one (AET hF2.h (by simp) rfl λk=>AEH x.1 x.2.1 (by omega) (by omega) k)
  ·have:=AmC hz E1 cs (c++[x]) hF.r (λy hy=>hx y (BY _ hy)) (by simp;omega)
   rw[Ci]at this;exact this
theorem AmD(hs:s.length<=1000)(n:List UInt8)(ls:List AU)(es:List Ed)(Jk:ls.length<=1000)(ln:List UInt8)(lz:Int)(lt:Int×Int)(lu le:Int)(ms:List Int)(r:Int×Int):∀(ws dn:List (Int×Int)),AllF (ws.map (stW onW))->(∀x∈ws,PWin x)->dn.length+ws.length<=1000->Run (ws.map (stW onW)) (z,p,c,s++[(n,ls++[(ln,lz,lt,lu,le,ms,dn,r)],es)]) (z,p,c,s++[(n,ls++[(ln,lz,lt,lu,le,ms,dn++ws,r)],es)])
 |[],dn,_,_,_=>by rw[F3];rfl
 |x::ws,dn,hF,hr,hl=>by rw[AX]at hl;refine Run.cons (b':=(z,p,c,s++[(n,ls++[(ln,lz,lt,lu,le,ms,dn++[x],r)],es)])) (AEX hF.h (by simp[stW]) rfl λk=>b_on (hr x (CW ..)) hs n ls es Jk ln lz lt lu le ms dn (by omega) r k) ?_;have:=AmD hs n ls es Jk ln lz lt lu le ms r ws (dn++[x]) hF.t (λx hx=>hr x (BY _ hx)) (by simp;omega);rw[Ci]at this;exact this
theorem AF5(hc:(c.map (·.1)).Nodup)(HI:c.length<=1000)(hs:s.length<=1000)(n:List UInt8)(ls:List AU)(es:List Ed)(Jk:ls.length<=1000){l:AU}{nz np:Int}(hl:LayF nz np (c.length:Int) l)(hF:AllF (Mk c l)):Run (Mk c l) (z,p,c,s++[(n,ls++[(l.1,l.2.1,l.2.2.1,l.2.2.2.1,l.2.2.2.2.1,l.2.2.2.2.2.1,l.2.2.2.2.2.2.1,0,0)],es)]) (z,p,c,s++[(n,ls++[l],es)]):=by
 obtain⟨ln,lz,lt,lu,le,ms,ws,ca,md⟩:=l;have h:=hl.c;unfold Mk at hF⊢;by_cases e:md=0
 ·rw[if_pos e]
  have Pp:ca=0:=by
   rcases h with h|h
   ·exact h.2
   ·have:=h.1.1
    simp only at this;omega
  subst e;subst Pp;rfl
 ·rw[if_neg e]at hF⊢
  have Gb:(1<=md/\md<=2)/\0<=ca/\ca<(c.length:Int):=by
   rcases h with h|h
   ·exact absurd h.1 e
   ·exact h
  have key:md=1\/md=2:=by omega
  rcases key with rfl|rfl
  ·exact Run.one (AEY hF.h (by simp) rfl λk=>Amv (.inl ⟨rfl,rfl⟩) Gb.2 hc HI hs n ls es Jk ln lz lt lu le ms ws k)
  ·exact Run.one (AEZ hF.h (by simp) rfl λk=>Amv (.inr ⟨rfl,rfl⟩) Gb.2 hc HI hs n ls es Jk ln lz lt lu le ms ws k)
theorem AmE(hz:(z.map (·.1)).Nodup)(E1:z.length<=1000)(hp:(p.map (·.1)).Nodup)(Ba:p.length<=1000)(hc:(c.map (·.1)).Nodup)(HI:c.length<=1000)(hs:s.length<=1000)(n:List UInt8)(es:List Ed):∀(xs ls:List AU),AllF (xs.flatMap (Jd z p c))->(∀l∈xs,LayF (z.length:Int) (p.length:Int) (c.length:Int) l)->ls.length+xs.length<=1000->Run (xs.flatMap (Jd z p c)) (z,p,c,s++[(n,ls,es)]) (z,p,c,s++[(n,ls++xs,es)])
 |[],ls,_,_,_=>by rw[F3];rfl
 |x::xs,ls,hF,hx,hl=>by
  rw[AX]at hl;rw[Jw]at hF⊢;have h1:=hx x (CW ..);have hm:=h1.m;have hw:=h1.w;have hF1:AllF (Jd z p c x):=hF.l;have hF3:=hF1.t.t;refine Run.app (c:=(z,p,c,s++[(n,ls++[x],es)])) ?_ ?_
  ·refine Run.cons (b':=(z,p,c,s++[(n,ls++[(x.1,x.2.1,x.2.2.1,x.2.2.2.1,x.2.2.2.2.1,[],[],0,0)],es)])) (AEV hF1.h (by simp[We]) rfl λk=>AEI h1 hz E1 hs n ls es (by omega) k) ?_
   refine Run.cons (b':=(z,p,c,s++[(n,ls++[(x.1,x.2.1,x.2.2.1,x.2.2.2.1,x.2.2.2.2.1,x.2.2.2.2.2.1,[],0,0)],es)])) (AEW (b:=(z,p,c,s++[(n,ls++[(x.1,x.2.1,x.2.2.1,x.2.2.2.1,x.2.2.2.2.1,[],[],0,0)],es)])) (z':=z) (p':=p) (c':=c) (s':=s++[(n,ls++[(x.1,x.2.1,x.2.2.1,x.2.2.2.1,x.2.2.2.2.1,x.2.2.2.2.2.1,[],0,0)],es)]) hF1.t.h (by simp[gO]) rfl λk=>AEM (by omega) h1.ms hp Ba hs n ls es (by omega) x.1 x.2.1 x.2.2.1 x.2.2.2.1 x.2.2.2.2.1 ([],0,0) k) ?_;refine Run.app (AmD hs n ls es (by omega) x.1 x.2.1 x.2.2.1 x.2.2.2.1 x.2.2.2.2.1 x.2.2.2.2.2.1 (0,0) x.2.2.2.2.2.2.1 [] hF3.l hw.2 (by simp;omega)) ?_;exact AF5 hc HI hs n ls es (by omega) h1 hF3.r
  ·have:=AmE hz E1 hp Ba hc HI hs n es xs (ls++[x]) hF.r (λy hy=>hx y (BY _ hy)) (by simp;omega)
   rw[Ci]at this;exact this
theorem AF6(hp:(p.map (·.1)).Nodup)(Ba:p.length<=1000)(F9:GS∉p.map (·.1))(hs:s.length<=1000)(n:List UInt8)(ls:List AU)(es:List Ed)(Gs:es.length<=1000){x:Ed}(hx:EdF (p.length:Int) x)(hF:GD (Ga p x)):GC (z,p,c,s++[(n,ls,es)]) (Ga p x) (z,p,c,s++[(n,ls,es++[x])]):=by
 have hk:=hx.k;have h0:0<(Ga p x).length:=by unfold Ga;simp
 have key:x.1=0\/x.1=1\/x.1=2:=by omega
 have hw:((Ga p x).getD 0 (0,[],0)).2.1=at' JG x.1:=rfl;intro β;rcases key with e|e|e
 ·exact AF0 (b:=(z,p,c,s++[(n,ls,es)])) (z':=z) (p':=p) (c':=c) (s':=s++[(n,ls,es++[x])]) hF h0 (by rw[hw,e];rfl) λk=>Aaa hx hp Ba F9 hs n ls es Gs k
 ·exact AF1 (b:=(z,p,c,s++[(n,ls,es)])) (z':=z) (p':=p) (c':=c) (s':=s++[(n,ls,es++[x])]) hF h0 (by rw[hw,e];rfl) λk=>Aaa hx hp Ba F9 hs n ls es Gs k
 ·exact AF2 (b:=(z,p,c,s++[(n,ls,es)])) (z':=z) (p':=p) (c':=c) (s':=s++[(n,ls,es++[x])]) hF h0 (by rw[hw,e];rfl) λk=>Aaa hx hp Ba F9 hs n ls es Gs k
theorem AmF(hp:(p.map (·.1)).Nodup)(Ba:p.length<=1000)(F9:GS∉p.map (·.1))(hs:s.length<=1000)(n:List UInt8)(ls:List AU):∀(xs es:List Ed),AllF (xs.map (Ga p))->(∀x∈xs,EdF (p.length:Int) x)->es.length+xs.length<=1000->Run (xs.map (Ga p)) (z,p,c,s++[(n,ls,es)]) (z,p,c,s++[(n,ls,es++xs)])
 |[],es,_,_,_=>by rw[F3];rfl
 |x::xs,es,hF,hx,hl=>by rw[AX]at hl;refine Run.cons (AF6 hp Ba F9 hs n ls es (by omega) (hx x (CW ..)) hF.h) ?_;have:=AmF hp Ba F9 hs n ls xs (es++[x]) hF.t (λy hy=>hx y (BY _ hy)) (by simp;omega);rw[Ci]at this;exact this
theorem AmG(hz:(z.map (·.1)).Nodup)(E1:z.length<=1000)(hp:(p.map (·.1)).Nodup)(Ba:p.length<=1000)(F9:GS∉p.map (·.1))(hc:(c.map (·.1)).Nodup)(HI:c.length<=1000):∀(xs s:List By),AllF (xs.flatMap (JI z p c))->(∀x∈xs,SchG (z.length:Int) (p.length:Int) (c.length:Int) x)->s.length+xs.length<=1000->Run (xs.flatMap (JI z p c)) (z,p,c,s) (z,p,c,s++xs)
 |[],s,_,_,_=>by rw[F3];rfl
 |x::xs,s,hF,hx,hl=>by
  rw[AX]at hl;rw[Jw]at hF⊢;have h1:=hx x (CW ..);have AaG:=h1.l;have NA:=h1.e;have hF1:AllF (JI z p c x):=hF.l;have hF2:=hF1.t;refine Run.app (c:=(z,p,c,s++[x])) ?_ ?_
  ·refine Run.cons (b':=(z,p,c,s++[(x.1,[],[])])) (AEU hF1.h (by simp) rfl λk=>AEA x.1 (show s.length<=1000 by omega) k) ?_
   refine Run.app (AmE hz E1 hp Ba hc HI (by omega) x.1 [] x.2.1 [] hF2.l (λl hl=>(h1.ls l hl).1) (by simp;omega)) ?_;exact AmF hp Ba F9 (by omega) x.1 x.2.1 x.2.2 [] hF2.r h1.es (by simp;omega)
  ·have:=AmG hz E1 hp Ba F9 hc HI xs (s++[x]) hF.r (λy hy=>hx y (BY _ hy)) (by simp;omega)
   rw[Ci]at this;exact this
end
theorem AF7{c:As}(h:ConfOk c):Run (I2 c) ([],[],[],[]) c:=by
 have hs:=gV h;have hF:AllF (I2 c):=λt ht=>(hs.1.g t ht).form;obtain⟨z,p,x,s⟩:=c;have l1:z.length<=2:=h.oz.1.1;have l2:p.length<=8:=h.op.1.1;have l3:x.length<=1:=h.oc.1.1;have l4:s.length<=3:=h.os.1.1;have hz:(z.map (·.1)).Nodup:=h.oz.1.nodup (by decide);have hp:(p.map (·.1)).Nodup:=h.op.1.nodup (by decide);have hc:(x.map (·.1)).Nodup:=h.oc.1.nodup (by decide)
 have F9:GS∉p.map (·.1):=by have e:=h.op.1.2;rw[show p.map (·.1)=pNames.take p.length from e];intro g;exact absurd (XP g) (by decide)
 unfold I2 at hF⊢;refine Run.app (Amz z [] hF.l (λy hy=>(h.oz.2 y hy).1) (by simp;omega)) ?_;refine Run.app (AmB hz (by show z.length<=_;omega) p [] hF.r.l (Ph h) (by simp;omega)) ?_;refine Run.app (AmC hz (by show z.length<=_;omega) x [] hF.r.r.l (λy hy=>⟨(gJ (h.oc.2 y hy).1).z,(h.oc.2 y hy).2⟩) (by simp;omega)) ?_;exact AmG hz (by show z.length<=_;omega) hp (by show p.length<=_;omega) F9 hc (by show x.length<=_;omega) s [] hF.r.r.r (Wh h) (by simp;omega)
theorem AmH{β:Type}{c:As}(h:ConfOk c){l:List Stm}(hl:l.map (·.2)=I2 c)(k:As->Int->Int->Option β):Ry l k=k c 0 0:=by
 have hs:=gV h;refine AF4 ?_ ?_ h k
 ·have:=Ax List.length hl
  rw[DK]at this;have:=hs.2;omega
 ·rw[hl];exact AF7 h
end
end Go.Lift
namespace Go.Lift
open Go.RowKit Go.IntWalk
noncomputable section
set_option maxRecDepth 10000
abbrev gX(c:UInt8):Prop:=33<=c.toNat/\c.toNat<=126
theorem AmI(f:Nat)(AP:List UInt8):Lib.fieldsGoD (f+1) AP []=if AP=[]then []else [AP]:=by rw[Lib.fieldsGoD,if_pos rfl]
theorem gY(f:Nat)(AP l:List UInt8):Lib.fieldsGoD (f+1) AP (32::l)=(if AP=[]then []else [AP])++Lib.fieldsGoD f [] l:=by rw[Lib.fieldsGoD,if_neg (by simp),Lib.decodeL_ascii 32 l (by decide)];rw[if_pos (by decide)];rfl
theorem AF8(f:Nat)(AP l:List UInt8){c:UInt8}(h:gX c):Lib.fieldsGoD (f+1) AP (c::l)=Lib.fieldsGoD f (AP++[c]) l:=by
 obtain⟨h1,h2⟩:=h;rw[Lib.fieldsGoD,if_neg (by simp),Lib.decodeL_ascii c l (by omega)]
 have:Lib.isSpaceR c.toNat=false:=by unfold Lib.isSpaceR;simp only[MJ,Bool.and_eq_false_iff,XL,beq_eq_false_iff_ne];omega
 rw[if_neg (by simp[this])];rfl
theorem Aab:∀(w AP l:List UInt8)(f:Nat),(∀c∈w,gX c)->Lib.fieldsGoD (f+w.length) AP (w++l)=Lib.fieldsGoD f (AP++w) l
 |[],AP,l,f,_=>by simp
 |c::w,AP,l,f,h=>by rw[AX,<-Qk,Fz,AF8 _ _ _ (h c (by simp)),Aab w (AP++[c]) l f λx hx=>h x (by simp[hx])];simp
theorem AmJ:∀{l:List UInt8},(∀c∈l,c≠35)->Lib.index l [35]=-1
 |[],_=>rfl
 |c::l,h=>by
  have h1:=AmJ (l:=l) λx hx=>h x (by simp[hx]);have h2:=h c (by simp);unfold Lib.index;rw[h1]
  have:List.isPrefixOf [35] (c::l)=false:=by simp[List.isPrefixOf];exact λe=>h2 e.symm
  rw[this];rfl
theorem AF9{l:List UInt8}(h:∀c∈l,c≠35):(Lib.cut l [35]).1=l:=by unfold Lib.cut;rw[AmJ h];rfl
inductive Wide:List UInt8->List UInt8->Prop
 |nil:Wide [] []
 |ch {c:UInt8} {s w:List UInt8}:Wide s w->Wide (c::s) (c::w)
 |sp {s w:List UInt8}:Wide s w->Wide (32::s) (32::32::32::w)
theorem Wide.refl:∀(s:List UInt8),Wide s s
 |[]=>.nil
 |c::s=>.ch (Wide.refl s)
theorem Wide.app:∀{a b wa wb:List UInt8},Wide a wa->Wide b wb->Wide (a++b) (wa++wb):=by
 intro a b wa wb h h2
 induction h with
 |nil=>exact h2
 |ch _ ih=>exact .ch ih
 |sp _ ih=>exact .sp ih
theorem Wide.split:∀{a b w:List UInt8},Wide (a++b) w->∃wa wb,w=wa++wb/\Wide a wa/\Wide b wb
 |[],b,w,h=>⟨[],w,rfl,.nil,h⟩
 |c::a,b,w,h=>by
  rw[Fz]at h;cases h with
  |ch h=>obtain⟨wa,wb,e,h1,h2⟩:=Wide.split h;exact⟨c::wa,wb,by rw[e];rfl,.ch h1,h2⟩
  |sp h=>obtain⟨wa,wb,e,h1,h2⟩:=Wide.split h;exact⟨32::32::32::wa,wb,by rw[e];rfl,.sp h1,h2⟩
theorem Wide.plain:∀{a w:List UInt8},Wide a w->(∀c∈a,c≠32)->w=a
 |[],w,h,_=>by cases h;rfl
 |c::a,w,h,hc=>by
  cases h with
  |ch h=>rw[Wide.plain h λx hx=>hc x (BY _ hx)]
  |sp h=>exact absurd rfl (hc 32 (CW ..))
theorem Wide.mem:∀{a w:List UInt8},Wide a w->∀c∈w,c∈a:=by
 intro a w h
 induction h with
 |nil=>exact λc hc=>hc
 |ch _ ih=>
  intro x hx;rcases Bw.1 hx with e|hx
  ·rw[e];exact CW ..
  ·exact BY _ (ih x hx)
 |sp _ ih=>
  intro x hx;simp only[Bw]at hx⊢;rcases hx with e|e|e|hx
  ·exact .inl e
  ·exact .inl e
  ·exact .inl e
  ·exact .inr (ih x hx)
theorem AmK:∀(ws:List (List UInt8))(t AP:List UInt8)(f:Nat),Wide (Lib.joinTail [32] ws) t->(∀w∈ws,w≠[]/\∀c∈w,gX c)->t.length<f->Lib.fieldsGoD f AP t=(if AP=[]then []else [AP])++ws
 |[],t,AP,f,h,_,hf=>by have h:Wide [] t:=h;cases h;obtain⟨f,rfl⟩:∃f',f=f'+1:=⟨f-1,by omega⟩;rw[AmI];simp
 |w::ws,t,AP,f,h,hw,hf=>by
  have h1:=hw w (by simp)
  have e:Lib.joinTail [32] (w::ws)=32::(w++Lib.joinTail [32] ws):=by unfold Lib.joinTail;simp
  rw[e]at h
  have fin:∀{v:List UInt8}{g:Nat},Wide (w++Lib.joinTail [32] ws) v->v.length<g->Lib.fieldsGoD g [] v=w::ws:=by
   intro v g hv hg;obtain⟨wa,wb,e2,h2,h3⟩:=hv.split
   have h4:=h2.plain λc hc e=>by have:=h1.2 c hc;rw[e]at this;exact absurd this (by decide)
   subst h4;subst e2;rw[AR]at hg;obtain⟨f',rfl⟩:∃f',g=f'+wa.length:=⟨g-wa.length,by omega⟩;rw[Aab wa [] _ f' h1.2,Fl,AmK ws wb wa f' h3 (λx hx=>hw x (by simp[hx])) (by omega),if_neg h1.1];rfl
  cases h with
  |ch h=>rename_i v;obtain⟨f,rfl⟩:∃f',f=f'+1:=⟨f-1,by omega⟩;rw[gY,fin h (by simp at hf;omega)]
  |sp h=>rename_i v;simp only[AX]at hf;obtain⟨f,rfl⟩:∃f',f=f'+1+1+1:=⟨f-3,by omega⟩;rw[gY,gY,gY,fin h (by omega)];simp
theorem AFa{ws:List (List UInt8)}{t:List UInt8}(h:Wide (Lib.join ws [32]) t)(hw:∀w∈ws,w≠[]/\∀c∈w,gX c):Lib.fieldsD t=ws:=by
 unfold Lib.fieldsD;cases ws with
 |nil=>rw[Lib.join_nil]at h;cases h;rw[AmI];rfl
 |cons w ws=>
  rw[Lib.join_cons]at h;obtain⟨wa,wb,e2,h2,h3⟩:=h.split;have h1:=hw w (by simp)
  have h4:=h2.plain λc hc e=>by have:=h1.2 c hc;rw[e]at this;exact absurd this (by decide)
  subst h4;subst e2;rw[AR,show wa.length+wb.length+1=(wb.length+1)+wa.length by omega,Aab wa [] _ _ h1.2,Fl,AmK ws wb wa _ h3 (λx hx=>hw x (by simp[hx])) (by omega),if_neg h1.1];rfl
end
end Go.Lift
namespace Go.Lift
open Go.RowKit Go.IntWalk
noncomputable section
set_option maxRecDepth 10000
section
variable{β:Type}
theorem AFb[S:Sl](k:Int->List Tok->Option β):Rn [] k=k 0 []:=by rcases S with⟨_|_⟩<;>kernel_rfl
end
variable[Sl]
theorem AmL:∀{ws:List (List UInt8)}{c:UInt8},c∈Lib.joinTail [32] ws->c=32\/∃w∈ws,c∈w
 |[],c,h=>absurd h DQ
 |w::ws,c,h=>by
  have e:Lib.joinTail [32] (w::ws)=32::(w++Lib.joinTail [32] ws):=by unfold Lib.joinTail;simp
  rw[e]at h;rcases Bw.1 h with h|h
  ·exact .inl h
  rcases Cs.1 h with h|h
  ·exact .inr ⟨w,CW ..,h⟩
  ·rcases AmL h with h|⟨v,hv,h⟩
   ·exact .inl h
   ·exact .inr ⟨v,BY _ hv,h⟩
theorem AFc{ws:List (List UInt8)}{c:UInt8}(h:c∈Lib.join ws [32]):c=32\/∃w∈ws,c∈w:=by
 cases ws with
 |nil=>rw[Lib.join_nil]at h;exact absurd h DQ
 |cons w ws=>
  rw[Lib.join_cons]at h;rcases Cs.1 h with h|h
  ·exact .inr ⟨w,CW ..,h⟩
  ·rcases AmL h with h|⟨v,hv,h⟩
   ·exact .inl h
   ·exact .inr ⟨v,BY _ hv,h⟩
theorem AmM{ts:List Tok}(h:∀t∈ts,TokG t):∀c∈GT ts,32<=c.toNat/\c.toNat<=126/\c.toNat≠35:=by
 intro c hc;rcases AFc hc with e|⟨w,hw,hc⟩
 ·rw[e];decide
 ·obtain⟨t,ht,rfl⟩:=Gy.1 hw
  have:=(h t ht).ch c hc;omega
theorem Wide.len{s w:List UInt8}(h:Wide s w):w.length<=s.length+2*s.count 32:=by
 induction h with
 |nil=>simp
 |@ch c s w h ih=>rw[AX,AX];have:s.count 32<=(c::s).count 32:=List.count_le_count_cons;omega
 |@sp s w h ih=>rw[List.count_cons_self];simp only[AX];omega
theorem AmN{w:List UInt8}(h:∀c∈w,c.toNat≠32):w.count 32=0:=by rw[List.count_eq_zero];intro g;exact absurd rfl (h 32 g)
theorem AmO:∀{ws:List (List UInt8)},(∀w∈ws,∀c∈w,c.toNat≠32)->(Lib.joinTail [32] ws).count 32=ws.length
 |[],_=>rfl
 |w::ws,h=>by
  have e:Lib.joinTail [32] (w::ws)=32::(w++Lib.joinTail [32] ws):=by unfold Lib.joinTail;simp
  rw[e,List.count_cons_self,List.count_append,AmN (h w (CW ..)),AmO λv hv=>h v (BY _ hv),AX];omega
theorem AFd{ts:List Tok}(h:∀t∈ts,TokG t):(GT ts).count 32<=ts.length:=by
 have hw:∀w∈ts.map txOf,∀c∈w,c.toNat≠32:=by intro w hw c hc;obtain⟨t,ht,rfl⟩:=Gy.1 hw;have:=(h t ht).ch c hc;omega
 unfold GT;cases ts with
 |nil=>exact AQ _
 |cons t r=>rw[CM]at hw⊢;rw[Lib.join_cons,List.count_append,AmN (hw _ (CW ..)),AmO λv hv=>hw v (BY _ hv),DK,AX];omega
theorem AmP{ts:List Tok}(h:∀t∈ts,TokG t){w:List UInt8}(hw:Wide (GT ts) w):w.length<=lw3 ts:=by have h1:=hw.len;have h2:=AFd h;have h3:=Wo h;unfold lw3;omega
section
variable{β:Type}
theorem AFe{text:List UInt8}(hl:text.length<=512)(h:∀c∈text,32<=c.toNat/\c.toNat<=126)(k1:wU β)(k2:wV β):dV k1 k2 text (text.length:Int) 0=k2 text:=by
 unfold dV;rw[Ad];refine(Jb (λm i=>Vz m k1 k2 text (text.length:Int) i) (λ_=>true) (k1 2 []) (k2 text) 0 text fuel (BB (by omega)) (λm i hi=>?_) (λm=>?_)).trans ?_
 ·have hc:=h (text.getD i 0) (C5 hi)
  simp only[AjQ,dU,AT];refine(Ai (by omega)).trans ?_;refine(Al (by omega)).trans ?_;refine(Ae (by omega)).trans ?_;refine(Al (by omega)).trans ?_;refine(Ae (by omega)).trans ?_;rw[i64_in ((i:Int)+1) (by omega)];rfl
 ·simp only[AjQ,dU]
  exact Ae (by omega)
 ·have:(text.all λ_=>true)=true:=Eh.2 λ_ _=>rfl
  rw[this];rfl
theorem AFf{ts:List Tok}(hl:ts.length<=512)(h:∀t∈ts,TokG t)(k1:wX β)(k2:wY β):dX k1 k2 (ts.length:Int) 0 [] (ts.map txOf)=k2 ts:=by
 unfold dX;rw[Ad];refine(Jc (λm i t=>V0 m k1 k2 (ts.length:Int) i t (ts.map txOf)) (λx=>[x]) (λt=>k2 t) (0,[],0) ts [] 1 (by omega) (λ_ _=>by simp) (λm i t hi ht=>?_) λm t=>?_).trans ?_
 ·simp only[CX]at ht
  simp only[AjR,dW];refine(Ai (by omega)).trans ?_;refine(Al (by rw[DK];omega)).trans ?_;simp only[AT,Aa8 txOf hi _ ((0,[],0):Tok)];refine((h _ (C5 hi)).tok _).trans ?_;refine(BM rfl).trans ?_;refine(Er (show(t.length+1)*32<=_ by omega)).trans ?_;rw[i64_in ((i:Int)+1) (by omega)]
 ·simp only[AjR,dW]
  exact Ae (by omega)
 ·rw[Fl,Pf,List.map_id']
theorem AFg{ts:List Tok}(h:LineG ts){w:List UInt8}(hw:Wide (GT ts) w)(k:Int->List Tok->Option β):Rn w k=k 0 ts:=by
 have hl:=AmP h.toks hw;have hr:=h.room;have hf:=h.few;have Ms:∀c∈w,32<=c.toNat/\c.toNat<=126/\c.toNat≠35:=λc hc=>AmM h.toks c (hw.mem c hc);have N6:(Lib.cut w [35]).1=w:=AF9 λc hc e=>(Ms c hc).2.2 (by rw[e];rfl)
 have RH:Lib.fieldsD w=ts.map txOf:=AFa hw λv hv=>by obtain⟨t,ht,rfl⟩:=Gy.1 hv;exact⟨(h.toks t ht).ne,λc hc=>by have:=(h.toks t ht).ch c hc;exact⟨by omega,by omega⟩⟩
 unfold Rn;rw[Ad];refine(Ae (by omega)).trans ?_;refine(AFe (by omega) (λc hc=>⟨(Ms c hc).1,(Ms c hc).2.1⟩) _ _).trans ?_;refine(Ai (show w.length<4294967281 by omega)).trans ?_;rw[N6];refine(Ai (show w.length<4294967281 by omega)).trans ?_;rw[RH];dsimp only;rw[DK];exact AFf (by omega) h.toks _ _
abbrev Ln:=List UInt8×List Tok
structure FineW (p:Ln):Prop where
 line:∀{β:Type}(k:Int->List Tok->Option β),Rn p.1 k=k 0 p.2
 form:p.2=[]\/GD p.2
 nonl:∀c∈p.1,c≠10
def sts:Nat->List Ln->List Stm
 |_,[]=>[]
 |n,p::r=>(if p.2=[]then []else [((n:Int)+1,p.2)])++sts (n+1) r
theorem AmQ:∀(n:Nat)(ps:List Ln),(∀p∈ps,p.2≠[])->(sts n ps).map (·.2)=ps.map (·.2)
 |_,[],_=>rfl
 |n,p::ps,h=>by unfold sts;rw[if_neg (h p (CW ..)),KC,AmQ (n+1) ps λq hq=>h q (BY _ hq)];rfl
theorem Aac:∀(n:Nat)(ps qs:List Ln),sts n (ps++qs)=sts n ps++sts (n+ps.length) qs
 |n,[],qs=>by simp[sts]
 |n,p::ps,qs=>by show(if p.2=[]then []else _)++sts (n+1) (ps++qs)=_;rw[Aac (n+1) ps qs];show _=((if p.2=[]then []else _)++sts (n+1) ps)++_;rw[Ci,AX,show n+1+ps.length=n+(ps.length+1) by omega]
theorem AFh{α:Type}{xs:List α}{d:α}{i:Nat}{w:α}{r:List α}(h:xs.drop i=w::r):i<xs.length/\xs.getD i d=w/\xs.drop (i+1)=r:=by
 have hi:i<xs.length:=by
  rcases Ql i xs.length with g|g
  ·exact g
  ·rw[NU g]at h;cases h
 rw[JY hi]at h;injection h with h1 h2;exact⟨hi,by simp[List.getD,hi,h1],h2⟩
theorem AFi{k1:Ak9 β}{k2:Aka β}{i:Int}(hi:0<=i/\i<=1000){a b:Int}{l:List Stm}(hl:l.length<=1000){t:List Tok}{xs:List (List UInt8)}:Ns k1 k2 i 0 a b l t xs=k2 a b (l++(if t=[]then []else [(i+1,t)])) xs:=by
 unfold Ns;rw[Ad];unfold xJ;refine c_f.trans ?_;by_cases h:t=[]
 ·rw[if_pos h,F3]
  exact Ae (by rw[h];simp)
 ·rw[if_neg h]
  have:0<t.length:=MK.2 h;refine(Ai (by omega)).trans ?_;refine(Er (show(l.length+1)*32<=_ by omega)).trans ?_;rw[i64_in (i+1) (by omega)]
theorem AmR(k1:xF β)(k2:xG β){xs:List (List UInt8)}(hx:xs.length<=1000):∀(ps:List Ln)(i N:Nat)(acc:List Stm),(∀p∈ps,FineW p)->xs.drop i=ps.map (·.1)->acc.length<=i->Kk (N+ps.length) k1 k2 (xs.length:Int) (i:Int) acc xs=Kk N k1 k2 (xs.length:Int) ((i+ps.length:Nat):Int) (acc++sts i ps) xs
 |[],i,N,acc,_,_,_=>by simp[sts]
 |p::ps,i,N,acc,hf,hd,ha=>by
  have hp:=hf p (CW ..);obtain⟨hi,hw,Cv⟩:=AFh (d:=[]) (w:=p.1) (r:=ps.map (·.1)) hd;have ih:=AmR k1 k2 hx ps (i+1) N (acc++(if p.2=[]then []else [((i:Int)+1,p.2)])) (λq hq=>hf q (BY _ hq)) Cv (by rw[AR];split<;>simp<;>omega);have ew:IntKind.i64.wrap ((i:Int)+1)=(i:Int)+1:=i64_in _ (by omega)
  have last:Kk (N+ps.length) k1 k2 (xs.length:Int) ((i:Int)+1) (acc++(if p.2=[]then []else [((i:Int)+1,p.2)])) xs=Kk N k1 k2 (xs.length:Int) ((i+(ps.length+1):Nat):Int) (acc++sts i (p::ps)) xs:=by rw[show i+(ps.length+1)=i+1+ps.length by omega];show _=Kk N k1 k2 (xs.length:Int) ((i+1+ps.length:Nat):Int) (acc++((if p.2=[]then []else [((i:Int)+1,p.2)])++sts (i+1) ps)) xs;rw[<-Ci];exact ih
  rw[AX,show N+(ps.length+1)=(N+ps.length)+1 by omega,Akc];unfold eJ;refine(Ai (by omega)).trans ?_;refine(Al (by omega)).trans ?_;dsimp only;rw[AT,hw];refine(hp.line _).trans ?_;refine c_t.trans ?_
  have one:Ns (λline e l2=>k1 line e l2) (λMC t152 l2 MB=>Kk (N+ps.length) k1 k2 MC (IntKind.i64.wrap (t152+(1:Int))) l2 MB) (i:Int) 0 (xs.length:Int) (i:Int) acc p.2 xs=Kk N k1 k2 (xs.length:Int) ((i+(ps.length+1):Nat):Int) (acc++sts i (p::ps)) xs:=by refine(AFi (by omega) (by omega)).trans ?_;rw[ew];exact last
  by_cases he:p.2=[]
  ·refine(Ae (by rw[he];simp)).trans ?_
   exact one
  ·have hl:0<p.2.length:=MK.2 he
   refine(Ai (by omega)).trans ?_;rcases hp.form with h0|h0
   ·exact absurd h0 he
   ·refine(h0 _).trans ?_
    refine c_f.trans ?_;exact one
theorem AFj{text:List UInt8}{qs:List Ln}(hq:∀q∈qs,FineW q)(hs:Kd text [10]=qs.map (·.1))(hl:text.length<=65536)(hn:qs.length<=1000)(k:Int->Int->List Stm->Option β):V6 text k=k 0 0 (sts 0 qs):=by unfold V6;rw[Ad];unfold QN QG;refine(Ae (by omega)).trans ?_;refine(c_p2 (by omega) (by simp)).trans ?_;rw[hs];have Bp:(qs.map (·.1)).length=qs.length:=DK _;unfold xK;rw[Ad];have h:=AmR (λline e l=>k line e l) (λl=>k 0 0 l) (xs:=qs.map (·.1)) (by omega) qs 0 (fuel-qs.length) [] hq (by simp) (by simp);have AGq:fuel-qs.length+qs.length=fuel:=Nat.sub_add_cancel (Nat.le_of_lt (BB (by omega)));rw[AGq]at h;refine h.trans ?_;obtain⟨m,hm⟩:∃m,fuel-qs.length=m+1:=⟨fuel-qs.length-1,by have:=BB (n:=qs.length) (by omega);omega⟩;rw[hm,Akc];unfold eJ;refine(Ae (by rw[Bp];omega)).trans ?_;rfl
end
end
end Go.Lift
namespace Go.Lift
open Go.RowKit Go.IntWalk
noncomputable section
set_option maxRecDepth 10000
theorem AFk[S:Sl]{β:Type}(k:Bool->Option β):DV [] k=k false:=by rcases S with⟨_|_⟩<;>kernel_rfl
variable[Sl]
theorem LineG.ne{ts:List Tok}(h:LineG ts):ts≠[]:=by rintro rfl;have h1:=h.form λb=>some b;rw[AFk]at h1;cases h1
theorem AFl{ts:List Tok}(h:LineG ts){w:List UInt8}(hw:Wide (GT ts) w):FineW (w,ts):=
 ⟨λk=>AFg h hw k,.inr h.form,λc hc e=>by have:=AmM h.toks c (hw.mem c hc);rw[e]at this;exact absurd this.1 (by decide)⟩
def I3(ps:List Ln):List UInt8:=ps.flatMap λp=>p.1++[10]
theorem AmS(p:Ln)(ps:List Ln):I3 (p::ps)=p.1++10::I3 ps:=by simp[I3]
theorem AmT:∀{ls:List (List Tok)}{w:List UInt8},(∀ts∈ls,LineG ts)->Wide (GB ls) w->∃ps:List Ln,ps.map (·.2)=ls/\w=I3 ps/\∀p∈ps,FineW p
 |[],w,_,hw=>by have hw:Wide [] w:=hw;cases hw;exact⟨[],rfl,rfl,λp hp=>absurd hp DQ⟩
 |ts::ls,w,h,hw=>by
  have e:GB (ts::ls)=GT ts++([10]++GB ls):=by simp[GB]
  rw[e]at hw;obtain⟨wa,wb,e1,h1,h2⟩:=hw.split;obtain⟨wc,wd,e2,h3,h4⟩:=h2.split;have h5:=h3.plain (by decide);obtain⟨ps,g1,g2,g3⟩:=AmT (λx hx=>h x (BY _ hx)) h4;refine⟨(wa,ts)::ps,by rw[CM,g1],?_,jZ.2 ⟨AFl (h ts (CW ..)) h1,g3⟩⟩;rw[e1,e2,h5,AmS,g2];rfl
theorem AmU:∀{ps:List Ln},(∀p∈ps,FineW p)->Kd (I3 ps) [10]=(ps++[(([],[]):Ln)]).map (·.1)
 |[],_=>zV λc hc=>absurd hc DQ
 |p::ps,h=>by rw[AmS,gS _ (h p (CW ..)).nonl,AmU λq hq=>h q (BY _ hq)];rfl
theorem AFm:FineW ([],[]):=⟨λk=>AFb k,.inl rfl,λc hc=>absurd hc DQ⟩
theorem Aad:∀(n:Nat)(ps:List Ln),(∀p∈ps,p.2=[])->sts n ps=[]
 |_,[],_=>rfl
 |n,p::ps,h=>by unfold sts;rw[if_pos (h p (CW ..)),Aad (n+1) ps λq hq=>h q (BY _ hq)];rfl
section
variable{β:Type}
theorem AFn{pre:List Ln}(hp:∀p∈pre,FineW p)(CD:∀p∈pre,p.2=[]){ls:List (List Tok)}(h:∀ts∈ls,LineG ts){w:List UInt8}(hw:Wide (GB ls) w)(hl:(I3 pre++w).length<=65536)(hn:pre.length+ls.length<=900):∃l:List Stm,l.map (·.2)=ls/\∀(β:Type)(k:Int->Int->List Stm->Option β),V6 (I3 pre++w) k=k 0 0 l:=by
 obtain⟨ps,g1,g2,g3⟩:=AmT h hw;have Bp:ps.length=ls.length:=by rw[<-g1,DK]
 have JN:∀p∈pre++ps,FineW p:=λp Di=>by
  rcases Cs.1 Di with h'|h'
  ·exact hp p h'
  ·exact g3 p h'
 have hs:Kd (I3 pre++w) [10]=((pre++ps)++[(([],[]):Ln)]).map (·.1):=by rw[g2,show I3 pre++I3 ps=I3 (pre++ps) by simp[I3]];exact AmU JN
 have AW:∀p∈ps,p.2≠[]:=λp Di e=>by
  have:p.2∈ls:=by rw[<-g1];exact Qi Di
  exact(h _ this).ne e
 refine⟨sts 0 ((pre++ps)++[(([],[]):Ln)]),?_,λβ k=>AFj (λq hq=>?_) hs hl (by simp;omega) k⟩
 ·rw[Aac,Aac,Aad 0 pre CD,Aad _ [(([],[]):Ln)] (by simp),F3,Fl,AmQ _ ps AW,g1]
 ·rcases Cs.1 hq with h'|h'
  ·exact JN q h'
  ·rw[EO.1 h'];exact AFm
theorem AFo{ls:List (List Tok)}(h:∀ts∈ls,LineG ts):∀{w:List UInt8},Wide (GB ls) w->w.length<=(ls.map λts=>lw3 ts+1).sum:=by
 induction ls with
 |nil=>intro w hw;have hw:Wide [] w:=hw;cases hw;simp
 |cons ts ls ih=>
  intro w hw;have e:GB (ts::ls)=GT ts++([10]++GB ls):=by simp[GB]
  rw[e]at hw;obtain⟨wa,wb,e1,h1,h2⟩:=hw.split;obtain⟨wc,wd,e2,h3,h4⟩:=h2.split;have h5:=h3.plain (by decide);have h6:=ih (λx hx=>h x (BY _ hx)) h4;have h7:=AmP (h ts (CW ..)).toks h1;rw[e1,e2,h5,CM,NY];simp only[AR,Gp];omega
theorem AFp{c:As}(h:ConfOk c){pre:List Ln}(hp:∀p∈pre,FineW p)(CD:∀p∈pre,p.2=[])(Ba:(I3 pre).length<=100)(WT:pre.length<=10){w:List UInt8}(hw:Wide (GB (I2 c)) w)(k:As->Int->Int->Option β):fP (I3 pre++w) k=k c 0 0:=by
 have hs:=gV h
 have hn:(I2 c).length<=800:=by have l1:c.1.length<=2:=h.oz.1.1;have l2:c.2.1.length<=8:=h.op.1.1;have l4:c.2.2.2.length<=3:=h.os.1.1;have l3:c.2.2.1.length<=1:=h.oc.1.1;have z1:=Je (f:=Ib) λy(hy:y∈c.1)=>gP (h.oz.2 y hy).1;have z2:=Je (f:=Ic c.1) λy(hy:y∈c.2.1)=>gQ (Ph h y hy);have z3:=Je (f:=I1 c.1) λy(hy:y∈c.2.2.1)=>gR;have z4:=Je (f:=JI c.1 c.2.1 c.2.2.1) λy(hy:y∈c.2.2.2)=>zS (Wh h y hy);unfold I2;rw[AR,AR,AR];omega
 have AK4:=AFo hs.1.g hw;have iU:=hs.1.n;obtain⟨l,h1,h2⟩:=AFn hp CD hs.1.g hw (by rw[AR];omega) (by omega);unfold fP;rw[Ad];refine(h2 _ _).trans ?_;refine(BM rfl).trans ?_;exact AmH h h1 _
end
end
end Go.Lift
namespace Go.Lift
open Go.RowKit Go.IntWalk
noncomputable section
variable[Sl]
set_option maxRecDepth 10000
abbrev LB(n:Nat):Prop:=n<=9223372036854775807
structure SmallL (l:AU):Prop where
 m:LB l.2.2.2.2.2.1.length
 w:LB l.2.2.2.2.2.2.1.length
structure SmallS (s:By):Prop where
 l:LB s.2.1.length
 e:LB s.2.2.length
 ls:∀x∈s.2.1,SmallL x
structure SmallC (c:As):Prop where
 lz:LB c.1.length
 lp:LB c.2.1.length
 lc:LB c.2.2.1.length
 ls:LB c.2.2.2.length
 zs:∀x∈c.1,LB x.2.2.length
 ps:∀x∈c.2.1,LB x.2.2.1.length
 cs:∀x∈c.2.2.1,LB x.2.2.length
 ss:∀x∈c.2.2.2,SmallS x
theorem Wr{α:Type}{xs:List α}{i:Nat}{d:α}(h:i<xs.length):xs.getD i d∈xs:=by rw[Qd,Ef h];exact kB h
def eqD{α:Type}(a b:α):Bool:=@decide (a=b) (Classical.propDecidable _)
theorem FM{α:Type}{a b:α}:eqD a b=true↔a=b:=by unfold eqD;exact@decide_eq_true_iff (a=b) (Classical.propDecidable _)
theorem AFq{α:Type}[DecidableEq α](a b:α):decide (a=b)=eqD a b:=by rw[JZ,FM,Im]
theorem AFr{α:Type}{a b:List α}(d:α)(h:a.length=b.length):((List.range a.length).all λi=>eqD (a.getD i d) (b.getD i d))=eqD a b:=by
 rw[JZ,Eh,FM];constructor
 ·intro g
  refine List.ext_getElem h λi h1 h2=>?_;have:=FM.1 (g i (S2.2 h1));simpa [List.getD,h1,h2]using this
 ·intro g i _
  rw[g];exact FM.2 rfl
section
variable{β:Type}
theorem Ml{α:Type}(F:Nat->Int->Option β)(E K:Option β)(d:α){a b:List α}(hl:a.length=b.length)(n:Nat)(hn:a.length<n)(h1:∀(m i:Nat),i<a.length->F (m+1) (i:Int)=cond (eqD (a.getD i d) (b.getD i d)) (F m ((i:Int)+1)) E)(h2:∀(m:Nat),F (m+1) (a.length:Int)=K):F n 0=cond (eqD a b) K E:=by
 rw[<-AFr d hl];refine Jb F (λi=>eqD (a.getD i d) (b.getD i d)) E K 0 (List.range a.length) n (by simpa using hn) (λm i hi=>?_) (λm=>?_)
 ·have hi:i<a.length:=by simpa using hi
  rw[show(List.range a.length).getD i 0=i by simp[List.getD,hi]];exact h1 m i hi
 ·rw[List.length_range];exact h2 m
theorem Mm{α:Type}{a b:List α}(h:¬(a.length:Int)=(b.length:Int)):eqD a b=false:=by rw[Bool.eq_false_iff];intro e;exact h (by rw[FM.1 e])
theorem ch_p{p:Prop}[Decidable p]{R:Bool}{k:Bool->Option β}{X:Option β}(h:p->X=k R):cond (decide p) X (k false)=k (decide p&&R):=by
 by_cases g:p
 ·rw[At g,h g];rfl
 ·rw[AN g];rfl
theorem ch_b{c:Bool}{R:Bool}{k:Bool->Option β}{X:Option β}(h:X=k R):cond c X (k false)=k (c&&R):=by rw[h];cases c<;>rfl
theorem AmV(e f:Int×Int):(decide (e.1=f.1)&&(decide (e.2=f.2)&&true))=eqD e f:=by rw[JZ,FM];simp[MR]
theorem AFs(e f:BZ):(decide (e.1=f.1)&&(decide (e.2.1=f.2.1)&&(decide (e.2.2.1=f.2.2.1)&&(decide (e.2.2.2.1=f.2.2.2.1)&&(decide (e.2.2.2.2.1=f.2.2.2.2.1)&&(decide (e.2.2.2.2.2.1=f.2.2.2.2.2.1)&&(decide (e.2.2.2.2.2.2=f.2.2.2.2.2.2)&&true)))))))=eqD e f:=by rw[JZ,FM];simp[MR]
theorem AFt(e f:Int×(Int×(Int×(Int×Int)))):(decide (e.1=f.1)&&(decide (e.2.1=f.2.1)&&(decide (e.2.2.1=f.2.2.1)&&(decide (e.2.2.2.1=f.2.2.2.1)&&(decide (e.2.2.2.2=f.2.2.2.2)&&true)))))=eqD e f:=by rw[JZ,FM];simp[MR]
theorem eqb(a b:Bool):(a==b)=decide (a=b):=by cases a<;>cases b<;>rfl
end
end
end Go.Lift
namespace Go.Lift
open Go.RowKit Go.IntWalk
noncomputable section
variable[Sl]
set_option maxRecDepth 10000
section
variable{β:Type}
theorem AFu{a b:List BZ}(ha:LB a.length)(k:Bool->Option β):Zh a b k=k (eqD a b):=by
 unfold Zh;rw[Ad];by_cases h:(a.length:Int)=(b.length:Int)
 ·refine(BM h).trans ?_
  unfold oO;rw[Ad];refine(Ml (a:=a) (b:=b) (λm i=>TD m (λt=>k t) (λ_=>k true) a b (a.length:Int) i) (k false) (k true) (0,0,0,0,0,0,0) (by omega) fuel (BB (by omega)) (λm i hi=>?_) (λm=>?_)).trans (by cases eqD a b<;>rfl)
  ·simp only[AeX,Zg]
   refine(Ai (by omega)).trans ?_;refine(Al (by omega)).trans ?_;refine(Al (by omega)).trans ?_;rw[AT,i64_in ((i:Int)+1) (by omega),AFs];cases eqD (a.getD i (0,0,0,0,0,0,0)) (b.getD i (0,0,0,0,0,0,0))<;>rfl
  ·simp only[AeX,Zg]
   exact Ae (by omega)
 ·refine(Fe h).trans ?_
  rw[Mm h]
theorem AmW{a b:List (Int×Int)}(ha:LB a.length)(k:Bool->Option β):TF a b k=k (eqD a b):=by
 unfold TF;rw[Ad];by_cases h:(a.length:Int)=(b.length:Int)
 ·refine(BM h).trans ?_
  unfold oQ;rw[Ad];refine(Ml (a:=a) (b:=b) (λm i=>TE m (λt=>k t) (λ_=>k true) a b (a.length:Int) i) (k false) (k true) (0,0) (by omega) fuel (BB (by omega)) (λm i hi=>?_) (λm=>?_)).trans (by cases eqD a b<;>rfl)
  ·simp only[Af1,Zi]
   refine(Ai (by omega)).trans ?_;refine(Al (by omega)).trans ?_;refine(Al (by omega)).trans ?_;rw[AT,i64_in ((i:Int)+1) (by omega),AmV];cases eqD (a.getD i (0,0)) (b.getD i (0,0))<;>rfl
  ·simp only[Af1,Zi]
   exact Ae (by omega)
 ·refine(Fe h).trans ?_
  rw[Mm h]
theorem AmX{a b:List Int}(ha:LB a.length)(k:Bool->Option β):TH a b k=k (eqD a b):=by
 unfold TH;rw[Ad];by_cases h:(a.length:Int)=(b.length:Int)
 ·refine(BM h).trans ?_
  unfold oU;rw[Ad];refine(Ml (a:=a) (b:=b) (λm i=>TG m (λt=>k t) (λ_=>k true) a b (a.length:Int) i) (k false) (k true) 0 (by omega) fuel (BB (by omega)) (λm i hi=>?_) (λm=>?_)).trans (by cases eqD a b<;>rfl)
  ·simp only[Af6,Zj]
   refine(Ai (by omega)).trans ?_;refine(Al (by omega)).trans ?_;refine(Al (by omega)).trans ?_;rw[AT,i64_in ((i:Int)+1) (by omega),AFq];cases eqD (a.getD i 0) (b.getD i 0)<;>rfl
  ·simp only[Af6,Zj]
   exact Ae (by omega)
 ·refine(Fe h).trans ?_
  rw[Mm h]
theorem AFv{a b:List (Int×(Int×(Int×(Int×Int))))}(ha:LB a.length)(k:Bool->Option β):Zm a b k=k (eqD a b):=by
 unfold Zm;rw[Ad];by_cases h:(a.length:Int)=(b.length:Int)
 ·refine(BM h).trans ?_
  unfold oW;rw[Ad];refine(Ml (a:=a) (b:=b) (λm i=>TJ m (λt=>k t) (λ_=>k true) a b (a.length:Int) i) (k false) (k true) (0,0,0,0,0) (by omega) fuel (BB (by omega)) (λm i hi=>?_) (λm=>?_)).trans (by cases eqD a b<;>rfl)
  ·simp only[Afb,Zl]
   refine(Ai (by omega)).trans ?_;refine(Al (by omega)).trans ?_;refine(Al (by omega)).trans ?_;rw[AT,i64_in ((i:Int)+1) (by omega),AFt];cases eqD (a.getD i (0,0,0,0,0)) (b.getD i (0,0,0,0,0))<;>rfl
  ·simp only[Afb,Zl]
   exact Ae (by omega)
 ·refine(Fe h).trans ?_
  rw[Mm h]
theorem AFw{a b:AK}(ha:LB a.2.2.length)(k:Bool->Option β):ZB a b k=k (eqD a b):=by unfold ZB;rw[Ad];refine(ch_p λ_=>ch_p λ_=>AFu ha _).trans (k_eq ?_);rw[JZ,FM];simp[MR,FM]
theorem AFx{a b:Bb}(ha:LB a.2.2.1.length)(k:Bool->Option β):ZC a b k=k (eqD a b):=by unfold ZC;rw[Ad];refine(ch_p λ_=>ch_p λ_=>(AmW ha _).trans (ch_b (ch_p λ_=>ch_p λ_=>k_eq (y:=a.2.2.2.2.2==b.2.2.2.2.2) rfl))).trans (k_eq ?_);rw[JZ,FM,eqb];simp[MR,FM]
theorem AFy{a b:Bh}(ha:LB a.2.2.length)(k:Bool->Option β):ZD a b k=k (eqD a b):=by unfold ZD;rw[Ad];refine(ch_p λ_=>ch_p λ_=>AmX ha _).trans (k_eq ?_);rw[JZ,FM];simp[MR,FM]
theorem AFz{a b:AU}(ha:SmallL a)(k:Bool->Option β):Zk a b k=k (eqD a b):=by
 unfold Zk;rw[Ad];refine(ch_p λh1=>ch_p λh2=>ch_b (ch_p λh4=>ch_p λh5=>(AmX ha.m _).trans (ch_b ((AmW ha.w _).trans (ch_b (ch_p λh8=>k_eq (y:=decide (a.2.2.2.2.2.2.2.2=b.2.2.2.2.2.2.2.2)) rfl)))))).trans (k_eq ?_);rw[JZ,FM,AmV];simp only[CE,Im,FM];constructor
 ·rintro⟨r1,r2,r3,r4,r5,r6,r7,r8,r9⟩
  exact KG r1 (KG r2 (KG r3 (KG r4 (KG r5 (KG r6 (KG r7 (KG r8 r9)))))))
 ·intro r
  subst r;exact⟨rfl,rfl,rfl,rfl,rfl,rfl,rfl,rfl,rfl⟩
theorem AFA{a b:List AU}(ha:LB a.length)(hs:∀x∈a,SmallL x)(k:Bool->Option β):aB a b k=k (eqD a b):=by
 unfold aB;rw[Ad];by_cases h:(a.length:Int)=(b.length:Int)
 ·refine(BM h).trans ?_
  unfold sB;rw[Ad];refine(Ml (a:=a) (b:=b) (λm i=>U5 m (λt=>k t) (λ_=>k true) b a (a.length:Int) i) (k false) (k true) G6 (by omega) fuel (BB (by omega)) (λm i hi=>?_) (λm=>?_)).trans (by cases eqD a b<;>rfl)
  ·simp only[Aht,aA]
   refine(Ai (by omega)).trans ?_;refine(Al (by omega)).trans ?_;refine(Al (by omega)).trans ?_;rw[AT,i64_in ((i:Int)+1) (by omega)];refine(AFz (hs _ (Wr (d:=G6) hi)) _).trans ?_;show cond (!eqD (a.getD i G6) (b.getD i G6)) _ _=_;cases eqD (a.getD i G6) (b.getD i G6)<;>rfl
  ·simp only[Aht,aA]
   exact Ae (by omega)
 ·refine(Fe h).trans ?_
  rw[Mm h]
theorem AFB{a b:By}(ha:SmallS a)(k:Bool->Option β):aL a b k=k (eqD a b):=by unfold aL;rw[Ad];refine(ch_p λ_=>(AFA ha.l ha.ls _).trans (ch_b (AFv ha.e _))).trans (k_eq ?_);rw[JZ,FM];simp[MR,FM]
theorem AFC{a b:List AK}(ha:LB a.length)(hs:∀x∈a,(λx:AK=>LB x.2.2.length) x)(k:Bool->Option β):a8 a b k=k (eqD a b):=by
 unfold a8;rw[Ad];by_cases h:(a.length:Int)=(b.length:Int)
 ·refine(BM h).trans ?_
  unfold s9;rw[Ad];refine(Ml (a:=a) (b:=b) (λm i=>U4 m (λt=>k t) (λ_=>k true) b a (a.length:Int) i) (k false) (k true) KT (by omega) fuel (BB (by omega)) (λm i hi=>?_) (λm=>?_)).trans (by cases eqD a b<;>rfl)
  ·simp only[Aho,ZZ]
   refine(Ai (by omega)).trans ?_;refine(Al (by omega)).trans ?_;refine(Al (by omega)).trans ?_;rw[AT,i64_in ((i:Int)+1) (by omega)];refine(AFw (hs _ (Wr (d:=KT) hi)) _).trans ?_;show cond (!eqD (a.getD i KT) (b.getD i KT)) _ _=_;cases eqD (a.getD i KT) (b.getD i KT)<;>rfl
  ·simp only[Aho,ZZ]
   exact Ae (by omega)
 ·refine(Fe h).trans ?_
  rw[Mm h]
theorem AFD{a b:List Bb}(ha:LB a.length)(hs:∀x∈a,(λx:Bb=>LB x.2.2.1.length) x)(k:Bool->Option β):cE a b k=k (eqD a b):=by
 unfold cE;rw[Ad];by_cases h:(a.length:Int)=(b.length:Int)
 ·refine(BM h).trans ?_
  unfold uQ;rw[Ad];refine(Ml (a:=a) (b:=b) (λm i=>Ve m (λt=>k t) (λ_=>k true) b a (a.length:Int) i) (k false) (k true) QH (by omega) fuel (BB (by omega)) (λm i hi=>?_) (λm=>?_)).trans (by cases eqD a b<;>rfl)
  ·simp only[AiO,cD]
   refine(Ai (by omega)).trans ?_;refine(Al (by omega)).trans ?_;refine(Al (by omega)).trans ?_;rw[AT,i64_in ((i:Int)+1) (by omega)];refine(AFx (hs _ (Wr (d:=QH) hi)) _).trans ?_;show cond (!eqD (a.getD i QH) (b.getD i QH)) _ _=_;cases eqD (a.getD i QH) (b.getD i QH)<;>rfl
  ·simp only[AiO,cD]
   exact Ae (by omega)
 ·refine(Fe h).trans ?_
  rw[Mm h]
theorem AFE{a b:List Bh}(ha:LB a.length)(hs:∀x∈a,(λx:Bh=>LB x.2.2.length) x)(k:Bool->Option β):dK a b k=k (eqD a b):=by
 unfold dK;rw[Ad];by_cases h:(a.length:Int)=(b.length:Int)
 ·refine(BM h).trans ?_
  unfold wF;rw[Ad];refine(Ml (a:=a) (b:=b) (λm i=>Vt m (λt=>k t) (λ_=>k true) b a (a.length:Int) i) (k false) (k true) LR (by omega) fuel (BB (by omega)) (λm i hi=>?_) (λm=>?_)).trans (by cases eqD a b<;>rfl)
  ·simp only[Ajt,dJ]
   refine(Ai (by omega)).trans ?_;refine(Al (by omega)).trans ?_;refine(Al (by omega)).trans ?_;rw[AT,i64_in ((i:Int)+1) (by omega)];refine(AFy (hs _ (Wr (d:=LR) hi)) _).trans ?_;show cond (!eqD (a.getD i LR) (b.getD i LR)) _ _=_;cases eqD (a.getD i LR) (b.getD i LR)<;>rfl
  ·simp only[Ajt,dJ]
   exact Ae (by omega)
 ·refine(Fe h).trans ?_
  rw[Mm h]
theorem AFF{a b:List By}(ha:LB a.length)(hs:∀x∈a,SmallS x)(k:Bool->Option β):eH a b k=k (eqD a b):=by
 unfold eH;rw[Ad];by_cases h:(a.length:Int)=(b.length:Int)
 ·refine(BM h).trans ?_
  unfold xD;rw[Ad];refine(Ml (a:=a) (b:=b) (λm i=>V4 m (λt=>k t) (λ_=>k true) b a (a.length:Int) i) (k false) (k true) JA (by omega) fuel (BB (by omega)) (λm i hi=>?_) (λm=>?_)).trans (by cases eqD a b<;>rfl)
  ·simp only[Ak8,eG]
   refine(Ai (by omega)).trans ?_;refine(Al (by omega)).trans ?_;refine(Al (by omega)).trans ?_;rw[AT,i64_in ((i:Int)+1) (by omega)];refine(AFB (hs _ (Wr (d:=JA) hi)) _).trans ?_;show cond (!eqD (a.getD i JA) (b.getD i JA)) _ _=_;cases eqD (a.getD i JA) (b.getD i JA)<;>rfl
  ·simp only[Ak8,eG]
   exact Ae (by omega)
 ·refine(Fe h).trans ?_
  rw[Mm h]
theorem AmY{a b:As}(ha:SmallC a)(k:Bool->Option β):V5 a b k=k (eqD a b):=by unfold V5;rw[Ad];refine((AFC ha.lz ha.zs _).trans (ch_b ((AFD ha.lp ha.ps _).trans (ch_b ((AFE ha.lc ha.cs _).trans (ch_b (AFF ha.ls ha.ss _))))))).trans (k_eq ?_);rw[JZ,FM];simp[MR,FM]
end
end
end Go.Lift
namespace Go.Lift
open Go.RowKit Go.IntWalk
noncomputable section
variable[Sl]
set_option maxRecDepth 10000
structure DiceC (c:As):Prop where
 sm:SmallC c
 dz:1<=c.1.length/\c.1.length<=8
 dp:1<=c.2.1.length/\c.2.1.length<=8
 dc:c.2.2.1.length<=8
 ds:1<=c.2.2.2.length/\c.2.2.2.length<=8
 e:∀x∈c.2.2.2,x.2.2.length<=1000
 l:∀x∈c.2.2.2,x.2.1.length<=1000
section
variable{β:Type}{G:Option β->Prop}
theorem AmZ{l:List (Int×Int)}(h:Es l=0):l.length<=14:=by
 unfold Es at h;by_cases g:(14:Int)<(l.length:Int)
 ·rw[At g]at h;cases h
 ·omega
theorem AFG{nz np nc:Int}{l:AU}(h:Et nz np nc l=0):SmallL l:=by
 unfold Et at h;cases h1:ixI l.2.1 nz with
 |false=>rw[h1]at h;cases h
 |true=>
  rw[h1]at h;simp only[MO,Cd]at h;unfold l2V at h;generalize(decide (l.2.2.1.1<1)||((!dayI l.2.2.1.1)||((!inI l.2.2.1.2 0 86399)||((!inI l.2.2.2.1 0 2)||!inI l.2.2.2.2.1 1 400))))=b at h;cases b with
  |true=>cases h
  |false=>
   simp only[Cd]at h;by_cases h2:(l.2.2.2.2.2.1.length:Int)=0
   ·rw[At h2]at h;cases h
   rw[AN h2]at h;by_cases h3:(12:Int)<(l.2.2.2.2.2.1.length:Int)
   ·rw[At h3]at h;cases h
   rw[AN h3]at h;simp only[Cd]at h;cases h4:l.2.2.2.2.2.1.all λm=>ixI m np with
   |false=>rw[h4]at h;cases h
   |true=>
    rw[h4]at h;simp only[MO,Cd]at h;by_cases h5:Es l.2.2.2.2.2.2.1=0
    ·have:=AmZ h5
     exact⟨by show l.2.2.2.2.2.1.length<=_;omega,by show l.2.2.2.2.2.2.1.length<=_;omega⟩
    ·rw[AN h5]at h;cases h
theorem Aae{nz np nc:Int}{s:By}(h:FY nz np nc s=0):s.2.1.length<=6/\s.2.2.length<=48:=by
 unfold FY at h;by_cases h1:(6:Int)<(s.2.1.length:Int)
 ·rw[At h1]at h;cases h
 rw[AN h1]at h;by_cases h2:(48:Int)<(s.2.2.length:Int)
 ·rw[At h2]at h;cases h
 omega
end
end
end Go.Lift
namespace Go.Lift
open Go.RowKit Go.IntWalk
noncomputable section
variable[Sl]
set_option maxRecDepth 10000
theorem An0{α:Type}{of:α->List UInt8}{chk:α->Int}:∀{xs:List α}{j:Nat}{l:List (List UInt8)},errV (walk (F7 of chk) xs j l)=0->∀x∈xs,chk x=0
 |[],_,_,_=>λx hx=>absurd hx DQ
 |y::xs,j,l,h=>by
  unfold walk F7 at h;by_cases h1:EE (of y) l=0
  ·rw[At h1]at h
   by_cases h2:chk y=0
   ·rw[At h2]at h
    intro x hx;rcases Bw.1 hx with e|hx
    ·rw[e];exact h2
    ·exact An0 h x hx
   ·rw[AN h2]at h
    exact absurd h h2
  ·rw[AN h1]at h
   exact absurd h h1
theorem AFH{c:As}(h:ConfOk c)(h1:1<=c.1.length/\1<=c.2.1.length/\1<=c.2.2.2.length):DiceC c:=by
 have e1:zNames.length=2:=rfl;have e2:pNames.length=8:=rfl;have e3:cNames.length=1:=rfl;have e4:sNames.length=3:=rfl;have l1:=h.oz.1.1;have l2:=h.op.1.1;have l3:=h.oc.1.1;have l4:=h.os.1.1
 have hq:∀x∈c.2.1,x.2.2.1.length<=14:=by
  intro x hx;have:=h.op.2 x hx;unfold HC at this;cases g1:ixI x.2.1 (c.1.length:Int)with
  |false=>rw[g1]at this;cases this
  |true=>
   rw[g1]at this;simp only[MO,Cd]at this;by_cases g2:Es x.2.2.1=0
   ·exact AmZ g2
   ·rw[AN g2]at this;cases this
 have hd:∀x∈c.2.2.1,x.2.2.length<=64:=by
  intro x hx;have:=(h.oc.2 x hx).1;unfold calV at this;cases g1:ixI x.2.1 (c.1.length:Int)with
  |false=>rw[g1]at this;cases this
  |true=>
   rw[g1]at this;simp only[MO,Cd]at this;by_cases g2:(64:Int)<(x.2.2.length:Int)
   ·rw[At g2]at this;cases this
   ·omega
 have hs:∀x∈c.2.2.2,SmallS x:=by
  intro x hx;have hv:=(h.os.2 x hx).1;have hl:=Aae hv;refine⟨by show x.2.1.length<=_;omega,by show x.2.2.length<=_;omega,λl Gt=>?_⟩;unfold FY at hv;rw[AN (by omega),AN (by omega)]at hv;simp only[Cd]at hv;by_cases g:FX (·.1) (Et (c.1.length:Int) (c.2.1.length:Int) (c.2.2.1.length:Int)) x.2.1=0
  ·exact AFG (An0 g l Gt)
  ·rw[AN g]at hv
   exact absurd hv g
 refine⟨⟨?_,?_,?_,?_,λx hx=>?_,λx hx=>?_,λx hx=>?_,hs⟩,by omega,by omega,by omega,by omega,λx hx=>?_,λx hx=>?_⟩
 ·show c.1.length<=_;omega
 ·show c.2.1.length<=_;omega
 ·show c.2.2.1.length<=_;omega
 ·show c.2.2.2.length<=_;omega
 ·have:=(h.oz.2 x hx).1.l
  show x.2.2.length<=_;omega
 ·have:=hq x hx
  show x.2.2.1.length<=_;omega
 ·have:=hd x hx
  show x.2.2.length<=_;omega
 ·have:=Aae (h.os.2 x hx).1;omega
 ·have:=Aae (h.os.2 x hx).1;omega
section
variable{β:Type}{G:Option β->Prop}
def Aaf[Sl]:Prop:=∀{β:Type}(k:Bool->Option β),fR k=k true
end
end
end Go.Lift
namespace Go.Lift
noncomputable section
set_option maxRecDepth 100000
theorem AFI:@Aaf ⟨0⟩:=λk=>by kernel_rfl
end
end Go.Lift
namespace Go.Lift
open Go.RowKit Go.IntWalk
noncomputable section
variable[Sl]
set_option maxRecDepth 10000
theorem An1:∀(n:Nat)(ls:List (List Tok)),(numb n ls).map (·.2)=ls
 |_,[]=>rfl
 |n,t::r=>by show t::(numb (n+1) r).map (·.2)=_;rw[An1 (n+1) r]
section
variable{β:Type}{G:Option β->Prop}
theorem An2{k:xQ β}{t8:As}(hk:∀c d,Co d->ConfOk c->(1<=c.1.length/\1<=c.2.1.length/\1<=c.2.2.2.length)->G (k d c t8)):∀(j m:Nat)(d:Dice)(c:As),j<m->Co d->ConfOk c->(1<=c.1.length/\1<=c.2.1.length/\1<=c.2.2.2.length)->(c.2.2.2.getD 0 sch0).2.2.length+j<=47->G (V9 m k 0 (j:Int) d c t8)
 |_,0,_,_,h,_,_,_,_=>absurd h (MN _)
 |0,m+1,d,c,_,hd,hc,h1,_=>by simp only[Akp,eQ];exact w_n (by omega) (hk c d hd hc h1)
 |j+1,m+1,d,c,hm,hd,hc,h1,hn=>by have l2:c.2.1.length<=8:=hc.op.1.1;simp only[Akp,eQ];refine w_p (by omega) ?_;refine Alp hd ⟨h1.2.1,l2⟩ λy d' Cv hy=>?_;refine w_e (AEn hc (i:=0) (by omega) hy (by omega) _) ?_;refine w_p rfl ?_;rw[i64_in (((j+1:Nat):Int)-1) (by omega),show((j+1:Nat):Int)-1=(j:Int) by omega];refine An2 hk j m d' _ (by omega) Cv (Amo hc (by omega) (by rw[AR];show _+1<=48;omega) (Mh (Amp hc (by omega)) hy)) ⟨h1.1,h1.2.1,by rw[AEk];exact h1.2.2⟩ ?_;rw[AEj _ _ (by omega),AR];show _+1+j<=47;omega
theorem printBack(F:Aaf)(t:List Int)(k:Bool->Option β):fS t k=k true:=by
 unfold fS;rw[Ad];refine(ABZ _ _).trans ?_;by_cases h0:¬(t.length:Int)<=500
 ·rw[AN h0]
  exact F _
 have h1:(t.length:Int)<=500:=by omega
 refine(BM h1).trans ?_;refine(AC0 _ _).trans ?_;refine ACy (G:=λA=>A=k true) (AC1 h1) (by decide) λc0 d hd Wz AFO he=>?_;refine CZ (G:=λA=>A=k true) hd (by decide) λn d2 AJY Dh Ct=>?_;unfold xT;rw[Ad];unfold xS;rw[Ad,show n=((n.toNat:Nat):Int) by omega];refine An2 (G:=λA=>A=k true) (λc d3 EI hc h1=>?_) n.toNat fuel d2 c0 (BB (by omega)) Ct Wz AFO (by have:=he _ (C5 (d:=sch0) (show 0<c0.2.2.2.length by omega));omega);have hD:=AFH hc h1;refine(Amm hc _).trans ?_;have hl:=AFp hc (β:=β) (pre:=[]) (λp hp=>absurd hp DQ) (λp hp=>absurd hp DQ) (by decide) (by decide) (Wide.refl (GB (I2 c)));refine(hl _).trans ?_;refine(AlZ hc _).trans ?_;refine(AmH hc (An1 0 _) _).trans ?_;refine(Amm hc _).trans ?_;refine(Ai rfl).trans ?_;refine(Ai rfl).trans ?_;refine(Ai rfl).trans ?_;refine(Ai rfl).trans ?_;refine(Ai rfl).trans ?_;refine(Ai rfl).trans ?_;refine(Ai rfl).trans ?_;refine(AmY hD.sm _).trans ?_;rw[FM.2 rfl];refine(AmY hD.sm _).trans ?_;rw[FM.2 rfl];refine(Ai rfl).trans ?_;exact F _
end
end
end Go.Lift
