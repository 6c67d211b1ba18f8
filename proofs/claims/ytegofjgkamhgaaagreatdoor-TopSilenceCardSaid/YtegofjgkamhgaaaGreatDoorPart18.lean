/- Part18 -/
import Derived.Test.YtegofjgkamhgaaaGreatDoorProg
import Derived.Test.YtegofjgkamhgaaaGreatDoorPart11
import Derived.Test.YtegofjgkamhgaaaGreatDoorPart3
import Derived.Test.YtegofjgkamhgaaaGreatDoorPart12
import Derived.Test.YtegofjgkamhgaaaGreatDoorPart5
import Derived.Test.YtegofjgkamhgaaaGreatDoorPart7
import Derived.Test.YtegofjgkamhgaaaGreatDoorPart9
import Derived.Test.YtegofjgkamhgaaaGreatDoorPart10
import Derived.Test.YtegofjgkamhgaaaGreatDoorPart13
import Derived.Test.YtegofjgkamhgaaaGreatDoorPart15
import Derived.Test.YtegofjgkamhgaaaGreatDoorPart16
import Derived.Test.YtegofjgkamhgaaaGreatDoorPart17
set_option linter.unusedVariables false
set_option linter.unusedSectionVars false
set_option linter.unusedSimpArgs false
open _root_ renaming List → Ya, Option → Yb, Int → Yi, Nat → Yk, UInt8 → Yl, cond → Yr, Bool → Ys, absurd → Yw
open Bool renaming false → Yc, true → Yo
open Option renaming some → Yd, none → Ye
open Decidable renaming decide → Yf
open List renaming length → Yg, getD → Yn, set → YG, take → YW, drop → YY, append_eq_nil_iff → YaV
open Go.IntKind renaming i64 → Yh, wrap_i64 → Y2, u64 → YaU
open Int renaming toNat → Yj, tmod → YQ
open Go.Op renaming bytesLess → Yy
open Exists renaming intro → Y3
open Go.RowKit renaming wrap64 → Yai
open Go.Lib renaming join → Ya2
open List.Pairwise renaming nil → Ya5
namespace Go.Lift
open Go.Proofs
noncomputable section
variable[Sl]
set_option maxRecDepth 100000
abbrev AuZ:={β:Type}->BF->(Ys->Yb β)->Yb β
def AfI:Ya En:=[Atu]
abbrev AfJ(β:Type):=Ys->Yb β
abbrev AfK(β:Type):=Unit->Yb β
abbrev o6(β:Type):=BF->BF->Yi->Yi->Yb β
def AfL:Pc:=⟨29,0,AS 26 (AA Tryz.f262),⟨0,[0,5,6,7],[IR,IR,Aa,Aa],[]⟩,[(.ret,⟨0,[2],[Ap],[]⟩),(.exit 0,⟨0,[],[],[]⟩)]⟩
def Zi{β:Type}(rec:o6 β)(k1:AfJ β)(k2:AfK β):o6 β:=λl t5 t6 t7=>Yr (Yf (t7<t6)) (Yr (Yf (0<=t7)&&Yf (t7<(Yg t5:Yi))) (let e:=Yn t5 (Yj t7) ([]:Ya Yl);mF e (λAFq=>Yr (!AFq) (k1 Yc) (Yr (Yf ((0:Yi)<t7)) (Yr (Yf (0<=(Yh.wrap (t7-(1:Yi))))&&Yf ((Yh.wrap (t7-(1:Yi)))<(Yg l:Yi))) (let e2:=Yn l (Yj (Yh.wrap (t7-(1:Yi)))) ([]:Ya Yl);Yr (Yy e e2||Yf (e=e2)) (k1 Yc) (rec l t5 t6 (Yh.wrap (t7+(1:Yi))))) Ye) (rec l t5 t6 (Yh.wrap (t7+(1:Yi))))))) Ye) (k2 ())
def Zj(m:Yk){β:Type}(k1:AfJ β)(k2:AfK β):o6 β:=Gp (λr=>Zi r k1 k2) Ye m
theorem AfM{β:Type}(i:Yk)(k1 k2):Zj (β:=β) (i+1) k1 k2=Zi (Zj i k1 k2) k1 k2:=rfl
def o7{β:Type}:=hid (Zj (β:=β) fuel)
def Av0:Pb:=⟨26,AfL,λ_=>o7,pl (p:=AfL) AfI [] (g:=λi _=>Zj i)⟩
def TG:AuZ:=hid λl k=>o7 (λt2=>k t2) (λ_=>k Yo) l l (Yg l:Yi) 0
def AfN:En:=⟨262,.spec (sg [IR] [] [Ap] [] TG),pf AfI [Av0] [.tmp 2] Tryz.func262⟩
abbrev Av1:={β:Type}->Ar->(Yi->Ys->Yb β)->Yb β
def Av2:Av1:=hid λword k=>XZ ([106,97,110,32,102,101,98,32,109,97,114,32,97,112,114,32,109,97,121,32,106,117,110,32,106,117,108,32,97,117,103,32,115,101,112,32,111,99,116,32,110,111,118,32,100,101,99]:Ya Yl) word (λRI VI=>k RI VI)
def AfO:En:=⟨284,.spec (sg [AL] [] [Aa,Ap] [] Av2),pf [mG] [] [.tmp 2,.tmp 3] Tryz.func284⟩
abbrev Av3:={β:Type}->Ar->(Yi->Ys->Yb β)->Yb β
def Av4:Av3:=hid λword k=>XZ ([102,105,114,115,116,32,115,101,99,111,110,100,32,116,104,105,114,100,32,102,111,117,114,116,104,32,108,97,115,116]:Ya Yl) word (λRI VI=>k RI VI)
def AfP:En:=⟨285,.spec (sg [AL] [] [Aa,Ap] [] Av4),pf [mG] [] [.tmp 2,.tmp 3] Tryz.func285⟩
abbrev Av5:={β:Type}->Ar->(Yi->Ys->Yb β)->Yb β
def Av6:Av5:=hid λword k=>
 XZ ([109,111,110,32,116,117,101,32,119,101,100,32,116,104,117,32,102,114,105,32,115,97,116,32,115,117,110]:Ya Yl) word (λRI VI=>
 let t:=(if(Yh.wrap (RI-1))>0 then(Yh.wrap (RI-1))else 0);
 k t VI)
def o8:En:=⟨286,.spec (sg [AL] [] [Aa,Ap] [] Av6),pf [mG] [] [.tmp 2,.tmp 3] Tryz.func286⟩
def Zk:En:=au [o8] [EV] [] [O1,Aa] [] [.cell 2 158,.tmp 3] Tryz.func291 (by kernel_rfl)
def Av7:En:=au [AtK] [Aa,Aa] [] [Ap] [] [.tmp 4] Tryz.func324 (by kernel_rfl)
abbrev Av8:={β:Type}->Ar->(Yi->Ys->Yb β)->Yb β
def AfQ:Ya En:=[Adp,AtQ]
abbrev AfR(β:Type):=Yi->Ys->Yb β
abbrev AfS(β:Type):=Ar->Yb β
abbrev o9(β:Type):=Ar->Yi->Yi->Yb β
def AfT:Pc:=⟨31,0,AS 26 (AA Tryz.f367),⟨0,[0,8,9],[AL,Aa,Aa],[]⟩,[(.ret,⟨0,[2,3],[Aa,Ap],[]⟩),(.exit 0,⟨0,[0],[AL],[]⟩)]⟩
def AfU{β:Type}(rec:o9 β)(k1:AfR β)(k2:AfS β):o9 β:=λs t8 t9=>Yr (Yf (t9<t8)) (Yr (Yf (0<=t9)&&Yf (t9<(Yg s:Yi))) (kN ((Yn s (Yj t9) 0).toNat:Yi) (λrdigit=>Yr (!rdigit) (k1 0 Yc) (rec s t8 (Yh.wrap (t9+(1:Yi)))))) Ye) (k2 s)
def Zl(m:Yk){β:Type}(k1:AfR β)(k2:AfS β):o9 β:=HT (λr=>AfU r k1 k2) Ye m
theorem AGj{β:Type}(i:Yk)(k1 k2):Zl (β:=β) (i+1) k1 k2=AfU (Zl i k1 k2) k1 k2:=rfl
def AfV{β:Type}:=hid (Zl (β:=β) fuel)
def Av9:Pb:=⟨26,AfT,λ_=>AfV,pl (p:=AfT) AfQ [] (g:=λi _=>Zl i)⟩
def Zm:Av8:=hid λs k=>AfV (λt2 t3=>k t2 t3) (λs2=>Af8 s2 (λAmf AFg=>Yr AFg (let t:=(Yf ((Yg s2:Yi)<=(9:Yi)));k Amf t) (k Amf Yc))) s (Yg s:Yi) 0
def oA:En:=⟨367,.spec (sg [AL] [] [Aa,Ap] [] Zm),pf AfQ [Av9] [.tmp 2,.tmp 3] Tryz.func367⟩
def oB:En:=au [AtV,AtT,AtU] [AL,AL] [] [AL] [] [.tmp 4] Tryz.func411 (by kernel_rfl)
abbrev Ava:={β:Type}->Ar->(Yi->Ys->Yb β)->Yb β
def Zn:Ava:=hid λs k=>Zm s (λLF VJ=>Yr VJ (let t:=(Yf ((Yg s:Yi)=(2:Yi)));k LF t) (k LF Yc))
def AfW:En:=⟨427,.spec (sg [AL] [] [Aa,Ap] [] Zn),pf [oA] [] [.tmp 2,.tmp 3] Tryz.func427⟩
abbrev Avb:={β:Type}->(Yi×DK)->(Yi->Yi->Yb β)->Yb β
def AfX:Avb:=hid λd k=>AdE d (λFF=>Yr (!FF) (k 0 1) (AdD d (λLF=>k LF 0)))
def Avc:En:=⟨428,.spec (sg [O0] [] [Aa,Aa] [] AfX),pf [XD,XB] [] [.tmp 2,.tmp 3] Tryz.func428⟩
abbrev Avd:={β:Type}->Yi->Yi->(Ar->Yb β)->Yb β
def OB:Avd:=hid λx n k=>
 mI x (λP5=>
 Afa ([48]:Ya Yl) (if(Yh.wrap (n-(Yg P5:Yi)))>0 then(Yh.wrap (n-(Yg P5:Yi)))else 0) (λAmh=>
 Yr (Yf (Yg Amh+Yg P5<=9223372036854775807))
 (k (Amh++P5))
 Ye))
def AfY:En:=⟨439,.spec (sg [Aa,Aa] [] [AL] [] OB),pf [Af6,Au0] [] [.tmp 4] Tryz.func439⟩
abbrev Ave:={β:Type}->Dr->Ar->(Yi->Ys->Yb β)->Yb β
def AfZ:Ya En:=[AuL]
abbrev oC(β:Type):=Dr->Ar->Yi->Yi->Yb β
abbrev oD(β:Type):=Dr->Ar->Yi->Yi->Yi->Yb β
def Ag0:Pc:=⟨49,0,AS 60 (AA Tryz.f166),⟨0,[0,1,2,8,9,10],[Gn,AL,(Yc,[.fn 167 []]),Aa,Aa,Aa],[]⟩,[(.exit 0,⟨0,[0,1,2,8,9],[Gn,AL,(Yc,[.fn 167 []]),Aa,Aa],[]⟩)]⟩
def oE{β:Type}(rec:oD β)(k1:oC β):oD β:=λx target n i_ j=>Yr (Yf (i_<j)) (Yr (Yf (0<=(1:Yi))) (let h:=(Yh.wrap (MN .shr .u64 (YaU.wrap (Yh.wrap (i_+j))) 1));Yr (Yf (0<=h)&&Yf (h<(Yg x:Yi))) (let e:=Yn x (Yj h) (([]:Ya Yl),(([]:Ya Al),(0,(0,(Yc,Yc)))));TE e target (λrfind1=>Yr (Yf (rfind1<(0:Yi))) (let Cl:=(Yh.wrap (h+1));rec x target n Cl j) (rec x target n i_ h))) Ye) Ye) (k1 x target n i_)
def TH(m:Yk){β:Type}(k1:oC β):oD β:=K4 (λr=>oE r k1) Ye m
theorem Avf{β:Type}(i:Yk)(k1):TH (β:=β) (i+1) k1=oE (TH i k1) k1:=rfl
def oF{β:Type}:=hid (TH (β:=β) fuel)
def Avg:Pb:=⟨60,Ag0,λ_=>oF,pl (p:=Ag0) AfZ [] (g:=λi _=>TH i)⟩
def oG:Ave:=hid λx target k=>oF (λx2 target2 n i_=>Yr (Yf (i_<n)) (Yr (Yf (0<=i_)&&Yf (i_<(Yg x2:Yi))) (let e:=Yn x2 (Yj i_) (([]:Ya Yl),(([]:Ya Al),(0,(0,(Yc,Yc)))));TE e target2 (λrfind1=>let t:=(Yf (rfind1=(0:Yi)));k i_ t)) Ye) (k i_ Yc)) x target (Yg x:Yi) 0 (Yg x:Yi)
def Avh:En:=⟨166,.spec (sg [Gn,AL,(Yc,[.fn 167 []])] [] [Aa,Ap] [] oG),pf AfZ [Avg] [.tmp 6,.tmp 7] Tryz.func166⟩
abbrev Avi:={β:Type}->(Ya Nj)->Ar->(Yi->Ar->Yb β)->Yb β
def Ag1:Avi:=ET ⟨look tab,gam [mA],Yc,Yc,Yc,Yc,[],Ye,100000,[]⟩ Tryz.f281 [(Yc,[.data (.slice Mh)]),(Yc,[.fn 282 [0]])] [Mi] [Aa] [Mi] [.tmp 4]
def Avj:En:=⟨281,.spec (sg [(Yc,[.data (.slice Mh)]),(Yc,[.fn 282 [0]])] [Mi] [Aa] [Mi] Ag1),(FN mixed (X:=⟨look tab,gam [mA],Yc,Yc,Yc,Yc,[],Ye,100000,[]⟩) AG [mA] rfl [.tmp 4] Tryz.func281 (by kernel_rfl)).spec⟩
def Avk:En:=au [Atr] [Aa,(Yc,[.fn 332 [0,1]])] [Xt,Ds] [Aa] [Xt,Ds] [.tmp 4] Tryz.func331 (by kernel_rfl)
abbrev Avl:={β:Type}->Yi->CU->(CU->IP->Yb β)->Yb β
def Ag2:Ya En:=[Auf,Np,Aub]
abbrev oH(β:Type):=CU->IP->Yb β
abbrev oI(β:Type):=Yi->CU->IP->Yb β
def Ag3:Pc:=⟨34,1,AS 58 (AA Tryz.f7),⟨1,[0,5,6],[AF,EK,Aa],[DC,.row 35 Lo]⟩,[(.exit 0,⟨1,[5],[EK],[DC,.row 35 Lo]⟩)]⟩
def oJ{β:Type}(rec:oI β)(k1:oH β):oI β:=λi_ d out=>Yr (Yf ((0:Yi)<i_)) (T7 d (λyP yE=>Hr (Yg out:Yi) yE (λFE GH=>Zb 2 GH (λAF4 AEX=>let l:=([(FE,(AEX,yP.2.2))]:Ya AU);Yr (Yf ((Yg out+Yg l)*96<=Cn)) (let l2:=(out++l);let Cl:=(Yh.wrap (i_-1));rec Cl AF4 l2) Ye)))) (k1 d out)
def QR(m:Yk){β:Type}(k1:oH β):oI β:=HT (λr=>oJ r k1) Ye m
theorem Avm{β:Type}(i:Yk)(k1):QR (β:=β) (i+1) k1=oJ (QR i k1) k1:=rfl
def oK{β:Type}:=hid (QR (β:=β) fuel)
def Avn:Pb:=⟨58,Ag3,λ_=>oK,pl (p:=Ag3) Ag2 [] (g:=λi _=>QR i)⟩
def Zo:Avl:=hid λn d k=>T7 d (λyP yE=>let l:=([yP]:Ya AU);Hr (Yh.wrap (n+1)) yE (λFE GH=>oK (λEL out=>k EL out) FE GH l))
def Avo:En:=⟨7,.spec (sg [AF,Aa] [DC] [EK] [DC,.row 35 Lo] Zo),pf Ag2 [Avn] [.tmp 4] Tryz.func7⟩
abbrev Avp:={β:Type}->BE->(Yi->Yi->D4->D0->Yb β)->Yb β
def Ag4:Ya En:=[Zc,Afp,ArW]
abbrev oL(β:Type):=Yi->Yi->BE->D4->D0->Yb β
abbrev oM(β:Type):=Yi->Yi->Yi->Yi->BE->D4->D0->Yb β
def Ag5:Pc:=⟨29,0,AS 58 (AA Tryz.f30),⟨0,[1,2,14,15,16],[AF,BJ,(Yc,[.rowh 2]),Aa,Aa],AcC⟩,[(.exit 0,⟨0,[1,2],[AF,BJ],AcC⟩)]⟩
def oN{β:Type}(rec:oM β)(k1:oL β):oM β:=λCa Dm s s2 t2 CC Cd=>Yr (Yf (Dm<Ca)) (Yr (Yf (0<=Dm)&&Yf (Dm<(Yg CC:Yi))) (O9 (Yn CC (Yj Dm) (0,(([]:Ya Yl),(([]:Ya AW),(0,0))))) (λD7 D8 EC Dx Fa=>Yr (Yf (0<=Dm)&&Yf (Dm<(Yg CC:Yi))) (let l:=(YG CC (Yj Dm) (D7,(D8,(Fa,(EC,Dx)))));rec Ca (Yh.wrap (Dm+(1:Yi))) s s2 t2 l Cd) Ye)) Ye) (k1 s s2 t2 CC Cd)
def QS(m:Yk){β:Type}(k1:oL β):oM β:=To (λr=>oN r k1) Ye m
theorem Avq{β:Type}(i:Yk)(k1):QS (β:=β) (i+1) k1=oN (QS i k1) k1:=rfl
def oO{β:Type}:=hid (QS (β:=β) fuel)
def Avr:Pb:=⟨58,Ag5,λ_=>oO,pl (p:=Ag5) Ag4 [] (g:=λi _=>QS i)⟩
def QT:Avp:=hid λs k=>XL s.2.1 (λAm3=>QN s.2.2.1 (λFa=>oO (λs2 s3 t2 BL Cd=>k s2 s3 BL Cd) (Yg Am3:Yi) 0 s.1 s.2.2.2 JT Am3 Fa))
def oP:En:=⟨30,.spec (sg [IS] [] [(Yo,[.data (.int .i64),.rowh 0,.rowh 1,.data (.int .i64)])] [.row 111 EJ,.row 51 Fg] QT),pf Ag4 [Avr] [.cell 2 43] Tryz.func30⟩
abbrev Avs:={β:Type}->BQ->(Ar->Yb β)->Yb β
def Zp:Avs:=ET ⟨look tab,gam [nS,lR],Yc,Yc,Yc,Yc,[],Ye,100000,[]⟩ Tryz.f42 [C2] [] [AL] [] [.tmp 2]
def Avt:En:=⟨42,.spec (sg [C2] [] [AL] [] Zp),(FN mixed (X:=⟨look tab,gam [nS,lR],Yc,Yc,Yc,Yc,[],Ye,100000,[]⟩) AG [nS,lR] rfl [.tmp 2] Tryz.func42 (by kernel_rfl)).spec⟩
def Ag6:En:=.handf (Fe mixed (X:=⟨look tab,gam [Aei,Afv],Yc,Yc,Yc,Yc,[],Ye,100000,[]⟩) AG [Aei,Afv] rfl (ps:=[(Yc,[.maph 0])]) (is:=AcF) (rs:=[Oz]) (os:=AcF) [.tmp 2] Tryz.func60 (by kernel_rfl)) rfl (by kernel_rfl)
abbrev Avu:={β:Type}->Ag->Yi->Ar->(Yi->Yb β)->Yb β
def TJ:Avu:=hid λa route key k=>Yr (!Yf (a.1=route)) (let t:=(Yh.wrap (a.1-route));k t) (TD a.2.1 key (λyF=>k yF))
def Ag7:En:=⟨68,.spec (sg [HS,Aa,AL] [] [Aa] [] TJ),pf [Afw] [] [.tmp 6] Tryz.func68⟩
abbrev Avv:={β:Type}->BQ->(Ar->Yb β)->Yb β
def Ag8:Ya En:=[QL,AuI,Aep]
abbrev Ag9(β:Type):=BF->Yb β
abbrev oQ(β:Type):=BQ->Yi->Yi->BF->Yb β
def Aga:Pc:=⟨30,0,AS 122 (AA Tryz.f79),⟨0,[3,9,10,11],[AX,C2,Aa,Aa],[.row 9 .str]⟩,[(.exit 0,⟨0,[3],[AX],[.row 9 .str]⟩)]⟩
def oS{β:Type}(rec:oQ β)(k1:Ag9 β):oQ β:=λt9 AT Bu parts=>Yr (Yf (Bu<AT)) (Yr (Yf (0<=Bu)&&Yf (Bu<(Yg t9:Yi))) (let e:=Yn t9 (Yj Bu) (([]:Ya Yl),([]:Ya Yl));Yr (Yf (Yg e.1+Yg ([61]:Ya Yl)<=9223372036854775807)) (Kb e.2 (λrquoted=>Yr (Yf (Yg (e.1++([61]:Ya Yl))+Yg rquoted<=9223372036854775807)) (let l:=([((e.1++([61]:Ya Yl))++rquoted)]:Ya Ar);Yr (Yf ((Yg parts+Yg l)*16<=Cn)) (let l2:=(parts++l);rec t9 AT (Yh.wrap (Bu+(1:Yi))) l2) Ye) Ye)) Ye) Ye) (k1 parts)
def TK(m:Yk){β:Type}(k1:Ag9 β):oQ β:=Gp (λr=>oS r k1) Ye m
theorem Avw{β:Type}(i:Yk)(k1):TK (β:=β) (i+1) k1=oS (TK i k1) k1:=rfl
def oU{β:Type}:=hid (TK (β:=β) fuel)
def Avx:Pb:=⟨122,Aga,λ_=>oU,pl (p:=Aga) Ag8 [] (g:=λi _=>TK i)⟩
def QU:Avv:=hid λl k=>Mn l (λFF=>Yr (!FF) (k ([]:Ya Yl)) (oU (λparts=>Yr (Yf (Yg parts<=140737488355328)&&Yf (Yg (Ya2 parts ([44]:Ya Yl))<=140737488355328)) (Yr (Yf (Yg ([123]:Ya Yl)+Yg (Ya2 parts ([44]:Ya Yl))<=9223372036854775807)) (Yr (Yf (Yg (([123]:Ya Yl)++(Ya2 parts ([44]:Ya Yl)))+Yg ([125]:Ya Yl)<=9223372036854775807)) (let t:=((([123]:Ya Yl)++(Ya2 parts ([44]:Ya Yl)))++([125]:Ya Yl));k t) Ye) Ye) Ye) l (Yg l:Yi) 0 ([]:Ya Ar)))
def oV:En:=⟨79,.spec (sg [C2] [] [AL] [] QU),pf Ag8 [Avx] [.tmp 2] Tryz.func79⟩
abbrev Avy:={β:Type}->BQ->BF->(BQ->Yb β)->Yb β
def Agb:Ya En:=[Ze]
abbrev Agc(β:Type):=BQ->Yb β
abbrev oW(β:Type):=BF->BQ->Yi->Yi->BQ->Yb β
def Agd:Pc:=⟨24,0,AS 58 (AA Tryz.f80),⟨0,[1,5,8,9,10],[IR,AX,C2,Aa,Aa],[.row 37 Ei]⟩,[(.exit 0,⟨0,[5],[AX],[.row 37 Ei]⟩)]⟩
def oX{β:Type}(rec:oW β)(k1:Agc β):oW β:=λkeys t8 t9 AT out=>Yr (Yf (AT<t9)) (Yr (Yf (0<=AT)&&Yf (AT<(Yg t8:Yi))) (let e:=Yn t8 (Yj AT) (([]:Ya Yl),([]:Ya Yl));Nu keys e.1 (λVE=>Yr VE (let l:=([e]:Ya Al);Yr (Yf ((Yg out+Yg l)*32<=Cn)) (let l2:=(out++l);rec keys t8 t9 (Yh.wrap (AT+(1:Yi))) l2) Ye) (rec keys t8 t9 (Yh.wrap (AT+(1:Yi))) out))) Ye) (k1 out)
def TL(m:Yk){β:Type}(k1:Agc β):oW β:=K4 (λr=>oX r k1) Ye m
theorem Avz{β:Type}(i:Yk)(k1):TL (β:=β) (i+1) k1=oX (TL i k1) k1:=rfl
def oY{β:Type}:=hid (TL (β:=β) fuel)
def AvA:Pb:=⟨58,Agd,λ_=>oY,pl (p:=Agd) Agb [] (g:=λi _=>TL i)⟩
def oZ:Avy:=hid λl keys k=>oY (λout=>k out) keys l (Yg l:Yi) 0 ([]:Ya Al)
def AvB:En:=⟨80,.spec (sg [C2,IR] [] [AX] [.row 37 Ei] oZ),pf Agb [AvA] [.tmp 4] Tryz.func80⟩
abbrev AvC:={β:Type}->Ag->Ar->Yi->(Yi->Yi->Yb β)->Yb β
def TN:AvC:=hid λg key t2 k=>TJ g t2 key (λrorder=>k rorder t2)
def AvD:En:=⟨82,.spec (sg [HS,AL,AF] [Ds] [Aa] [Ds] TN),pf [Ag7] [] [.tmp 5] Tryz.func82⟩
abbrev AvE:={β:Type}->Ag->Ar->(Yi->Ys->Yb β)->Yb β
def TO:AvE:=hid λg key k=>oG g.2.2.1 key (λAFw AFx=>k AFw AFx)
def Age:En:=⟨87,.spec (sg [HS,AL] [] [Aa,Ap] [] TO),pf [Avh] [] [.tmp 4,.tmp 5] Tryz.func87⟩
def Agf:En:=.handf (Fe mixed (X:=⟨look tab,gam [QE,QD,Aey,XQ,HU,Ka],Yc,Yc,Yc,Yc,Lq,Ye,100000,[]⟩) AG [QE,QD,Aey,XQ,HU,Ka] rfl (ps:=[AF,Mk]) (is:=GZ) (rs:=[]) (os:=GZ) [] Tryz.func120 (by kernel_rfl)) rfl (by kernel_rfl)
def Agg:En:=.handf (Fe mixed (X:=⟨look tab,gam [QD,HU,Ka,Zh,XR],Yc,Yc,Yc,Yc,Lq,Ye,100000,[]⟩) AG [QD,HU,Ka,Zh,XR] rfl (ps:=[AF,(Yo,[.data HO])]) (is:=GZ) (rs:=[]) (os:=GZ) [] Tryz.func121 (by kernel_rfl)) rfl (by kernel_rfl)
def Agh:En:=.handf (Fe mixed (X:=⟨look tab,gam [QE,AeA,Aez,QD,HU,Ka,Zh,XR],Yc,Yc,Yc,Yc,Lq,Ye,100000,[]⟩) AG [QE,AeA,Aez,QD,HU,Ka,Zh,XR] rfl (ps:=[AF,K3]) (is:=GZ) (rs:=[]) (os:=GZ) [] Tryz.func125 (by kernel_rfl)) rfl (by kernel_rfl)
abbrev AvF:={β:Type}->AW->(Ys->Yb β)->Yb β
def QV:AvF:=hid λm k=>Mn m.2.1 (λFF=>Yr FF (QU m.2.1 (λKT=>Yr (Yf (KT=m.1)) (K5 m.2.2.1 0 8589934592 (λJC=>Yr JC (K5 m.2.2.2.1 0 8589934592 (λVH=>Yr VH (Yr m.2.2.2.2.1 (k Yo) (k (!m.2.2.2.2.2))) (k Yc))) (k Yc))) (k Yc))) (k Yc))
def AvG:En:=⟨152,.spec (sg [Ti] [] [Ap] [] QV),pf [T0,oV,QL] [] [.tmp 2] Tryz.func152⟩
abbrev AvH:={β:Type}->Ar->(Nj->Ys->Yb β)->Yb β
def Agi:AvH:=hid λword k=>let l:=([0,4]:Ya Yi);let l2:=([1,1,0,0,0,2,4]:Ya Yi);let l3:=([0,0]:Ya Yi);let l4:=([0,2,0,2]:Ya Yi);let l5:=([0,0]:Ya Yi);let l6:=([3]:Ya Yi);let l7:=([0]:Ya Yi);let l8:=([0,0,3,2,1,0]:Ya Yi);let l9:=([0]:Ya Yi);let l10:=([0,2,0,2]:Ya Yi);let l11:=([0]:Ya Yi);let l12:=([0]:Ya Yi);let l13:=([0,5,5]:Ya Yi);let l14:=([0,5,5]:Ya Yi);let l15:=([0,0,5,5]:Ya Yi);let l16:=([(([122,111,110,101]:Ya Yl),(l,Yc)),(([114,117,108,101]:Ya Yl),(l2,Yc)),(([112,101,114,115,111,110]:Ya Yl),(l3,Yc)),(([113,117,105,101,116]:Ya Yl),(l4,Yc)),(([99,97,108,101,110,100,97,114]:Ya Yl),(l5,Yc)),(([100,97,121,115]:Ya Yl),(l6,Yo)),(([115,99,104,101,100,117,108,101]:Ya Yl),(l7,Yc)),(([108,97,121,101,114]:Ya Yl),(l8,Yc)),(([109,101,109,98,101,114]:Ya Yl),(l9,Yo)),(([111,110]:Ya Yl),(l10,Yc)),(([110,111,116]:Ya Yl),(l11,Yc)),(([111,110,108,121]:Ya Yl),(l12,Yc)),(([108,101,97,118,101]:Ya Yl),(l13,Yc)),(([111,118,101,114,114,105,100,101]:Ya Yl),(l14,Yc)),(([115,119,97,112]:Ya Yl),(l15,Yc))]:Ya Nj);Ag1 l16 word (λrform AGF=>Yr (Yf (rform<0)) (k ApL Yc) (Yr (Yf (0<=rform)&&Yf (rform<(Yg l16:Yi))) (k (Yn l16 (Yj rform) (([]:Ya Yl),(([]:Ya Yi),Yc))) Yo) Ye))
def AvI:En:=⟨185,.spec (sg [AL] [] [(Yo,[.data Mh]),Ap] [] Agi),pf [Avj] [] [.cell 2 324,.tmp 3] Tryz.func185⟩
def Agj:En:=.hand (Fe mixed (X:=⟨look tab,gam [AeL,AeM,AfO,AfP,o8],Yc,Yc,Yc,Yc,DU,Ye,100000,[]⟩) AG [AeL,AeM,AfO,AfP,o8] rfl (ps:=[AF,EV]) (is:=Fi) (rs:=[Aa]) (os:=Fi) [.tmp 4] Tryz.func188 (by kernel_rfl)) rfl (by kernel_rfl)
def Agk:En:=.hand (Fe mixed (X:=⟨look tab,gam [AeQ,AeR,Zk],Yc,Yc,Yc,Yc,DU,Ye,100000,[]⟩) AG [AeQ,AeR,Zk] rfl (ps:=[AF,EV]) (is:=Fi) (rs:=[Aa]) (os:=Fi) [.tmp 4] Tryz.func190 (by kernel_rfl)) rfl (by kernel_rfl)
def Agl:En:=.hand (Fe mixed (X:=⟨look tab,gam [QI,QJ,Zk],Yc,Yc,Yc,Yc,DU,Ye,100000,[]⟩) AG [QI,QJ,Zk] rfl (ps:=[AF,EV]) (is:=Fi) (rs:=[Aa]) (os:=Fi) [.tmp 4] Tryz.func196 (by kernel_rfl)) rfl (by kernel_rfl)
def Agm:En:=au [Av7,Atp] [Jr,Aa] [] [Aa,Ap] [] [.tmp 4,.tmp 5] Tryz.func240 (by kernel_rfl)
def Agn:En:=au [Avk] [Jq,Aa] [] [Aa] [] [.tmp 4] Tryz.func246 (by kernel_rfl)
abbrev AvJ:={β:Type}->Ar->Ar->(Ys->Yb β)->Yb β
def Bw:AvJ:=ET ⟨look tab,gam [oB],Yc,Yc,Yc,Yc,[],Ye,100000,[]⟩ Tryz.f342 [AL,AL] [] [Ap] [] [.tmp 4]
def AvK:En:=⟨342,.spec (sg [AL,AL] [] [Ap] [] Bw),(FN mixed (X:=⟨look tab,gam [oB],Yc,Yc,Yc,Yc,[],Ye,100000,[]⟩) AG [oB] rfl [.tmp 4] Tryz.func342 (by kernel_rfl)).spec⟩
abbrev AvL:={β:Type}->Ar->(Yi->Ys->Yb β)->Yb β
def p7:AvL:=hid λs k=>Yr (!Yf ((Yg s:Yi)=(10:Yi))) (k 0 Yc) (Yr (Yf (0<=(4:Yi))&&Yf ((4:Yi)<(Yg s:Yi))) (Yr (!Yf (((Yn s (Yj 4) 0).toNat:Yi)=(45:Yi))) (k 0 Yc) (Yr (Yf (0<=(7:Yi))&&Yf ((7:Yi)<(Yg s:Yi))) (Yr (!Yf (((Yn s (Yj 7) 0).toNat:Yi)=(45:Yi))) (k 0 Yc) (Yr (Yf (0<=(0:Yi))&&(Yf ((0:Yi)<=(4:Yi))&&Yf ((4:Yi)<=(Yg s:Yi)))) (Zm (YY (Yj 0) (YW (Yj 4) s)) (λLF VJ=>Yr (Yf (0<=(5:Yi))&&(Yf ((5:Yi)<=(7:Yi))&&Yf ((7:Yi)<=(Yg s:Yi)))) (Zn (YY (Yj 5) (YW (Yj 7) s)) (λrtwo rtwo2=>Yr (Yf (0<=(8:Yi))&&(Yf ((8:Yi)<=(Yg s:Yi))&&Yf ((Yg s:Yi)<=(Yg s:Yi)))) (Zn (YY (Yj 8) (YW (Yj (Yg s:Yi)) s)) (λrtwo3 rtwo4=>AfX (LF,(rtwo,rtwo3)) (λcU AFm=>Yr VJ (Yr rtwo2 (Yr rtwo4 (let t:=(Yf (AFm=(0:Yi)));k cU t) (k cU Yc)) (k cU Yc)) (k cU Yc)))) Ye)) Ye)) Ye)) Ye)) Ye)
def Ago:En:=⟨365,.spec (sg [AL] [] [Aa,Ap] [] p7),pf [Avc,oA,AfW] [] [.tmp 2,.tmp 3] Tryz.func365⟩
abbrev AvM:={β:Type}->Ar->(Yi->Ys->Yb β)->Yb β
def Zq:Ya En:=[AfW,Aeb]
abbrev Agp(β:Type):=Yi->Ys->Yb β
abbrev Agq(β:Type):=Yi->Yb β
abbrev p8(β:Type):=Yi->Yi->Yi->BF->Yb β
def Agr:Pc:=⟨53,0,AS 250 (AA Tryz.f366),⟨0,[5,23,24,25],[Aa,AX,Aa,Aa],[.row 9 .str]⟩,[(.ret,⟨0,[2,3],[Aa,Ap],[]⟩),(.exit 0,⟨0,[5],[Aa],[]⟩)]⟩
def Ags{β:Type}(rec:p8 β)(k1:Agp β)(k2:Agq β):p8 β:=λn t24 t25 t23=>Yr (Yf (t25<t24)) (Yr (Yf (0<=t25)&&Yf (t25<(Yg t23:Yi))) (let x:=(Yn t23 (Yj t25) ([]:Ya Yl));Zn x (λrtwo rtwo2=>Yr (!rtwo2) (k1 0 Yc) (Yr (Yf ((0:Yi)<t25)) (Yr (Yf ((59:Yi)<rtwo)) (k1 0 Yc) (let n2:=(Yh.wrap ((Yh.wrap (60*n))+rtwo));rec n2 t24 (Yh.wrap (t25+(1:Yi))) t23)) (let n2:=(Yh.wrap ((Yh.wrap (60*n))+rtwo));rec n2 t24 (Yh.wrap (t25+(1:Yi))) t23)))) Ye) (k2 n)
def Zr(m:Yk){β:Type}(k1:Agp β)(k2:Agq β):p8 β:=Gp (λr=>Ags r k1 k2) Ye m
theorem AGk{β:Type}(i:Yk)(k1 k2):Zr (β:=β) (i+1) k1 k2=Ags (Zr i k1 k2) k1 k2:=rfl
def Agt{β:Type}:=hid (Zr (β:=β) fuel)
def AvN:Pb:=⟨250,Agr,λ_=>Agt,Qx mixed (X:=⟨look tab,gam Zq,Yc,Yo,Yc,Yc,[],Ye,0,[]⟩) (p:=Agr) AG Zq rfl [] (g:=λi _=>Zr i) (by kernel_rfl) rfl (by kernel_rfl) (λ_ _=>rfl) λ_ _ _ _=>by kernel_rfl⟩
def Zs:AvM:=hid λs k=>lS s ([58]:Ya Yl) (λP4=>Yr (Yf ((Yg P4:Yi)<(2:Yi))) (k 0 Yc) (Yr (Yf ((3:Yi)<(Yg P4:Yi))) (k 0 Yc) (let l:=([([48,48]:Ya Yl)]:Ya Ar);Yr (Yf ((Yg P4+Yg l)*16<=Cn)) (let l2:=(P4++l);Yr (Yf (0<=(3:Yi))&&Yf ((3:Yi)<=(Yg l2:Yi))) (let l3:=(YW (Yj 3) l2);Agt (λt2 t3=>k t2 t3) (λn=>let t:=(Yf (n<=86400));k n t) 0 (Yg l3:Yi) 0 l3) Ye) Ye)))
def p9:En:=⟨366,.spec (sg [AL] [] [Aa,Ap] [] Zs),iG mixed (X:=⟨look tab,gam Zq,Yc,Yo,Yc,Yc,[],Ye,0,[]⟩) AG Zq rfl [AvN] [.tmp 2,.tmp 3] Tryz.func366 (by kernel_rfl) λ_ _=>by kernel_rfl⟩
abbrev AvO:={β:Type}->Yi->Ys->(Ar->Yb β)->Yb β
def Zt:AvO:=hid λn seconds k=>OB (Yh.wrap (Int.tdiv n 3600)) 2 (λrdigits=>Yr (Yf (Yg rdigits+Yg ([58]:Ya Yl)<=9223372036854775807)) (OB (YQ (Yh.wrap (Int.tdiv n 60)) 60) 2 (λrdigits2=>Yr (Yf (Yg (rdigits++([58]:Ya Yl))+Yg rdigits2<=9223372036854775807)) (let s:=((rdigits++([58]:Ya Yl))++rdigits2);Yr seconds (OB (YQ n 60) 2 (λrdigits3=>Yr (Yf (Yg ([58]:Ya Yl)+Yg rdigits3<=9223372036854775807)) (Yr (Yf (Yg s+Yg (([58]:Ya Yl)++rdigits3)<=9223372036854775807)) (let s2:=(s++(([58]:Ya Yl)++rdigits3));k s2) Ye) Ye)) (k s)) Ye)) Ye)
def AvP:En:=⟨380,.spec (sg [Aa,Ap] [] [AL] [] Zt),pf [AfY] [] [.tmp 4] Tryz.func380⟩
abbrev AvQ:={β:Type}->Yi->(Ar->Ys->Yb β)->Yb β
def pA:AvQ:=hid λday k=>Ady day (λyG AFl=>OB yG.1 4 (λrdigits=>Yr (Yf (Yg rdigits+Yg ([45]:Ya Yl)<=9223372036854775807)) (OB yG.2.1 2 (λrdigits2=>Yr (Yf (Yg (rdigits++([45]:Ya Yl))+Yg rdigits2<=9223372036854775807)) (Yr (Yf (Yg ((rdigits++([45]:Ya Yl))++rdigits2)+Yg ([45]:Ya Yl)<=9223372036854775807)) (OB yG.2.2 2 (λrdigits3=>Yr (Yf (Yg (((rdigits++([45]:Ya Yl))++rdigits2)++([45]:Ya Yl))+Yg rdigits3<=9223372036854775807)) (let t:=((((rdigits++([45]:Ya Yl))++rdigits2)++([45]:Ya Yl))++rdigits3);let t2:=(Yf (AFl=(0:Yi)));k t t2) Ye)) Ye) Ye)) Ye))
def AvR:En:=⟨381,.spec (sg [Aa] [] [AL,Ap] [] pA),pf [Adz,AfY] [] [.tmp 2,.tmp 3] Tryz.func381⟩
def AvS:En:=au [Agn,AeD] [Jq,Aa] [] [Aa] [] [.tmp 4] Tryz.func477 (by kernel_rfl)
abbrev AvT:={β:Type}->D4->Ar->Yi->(Yi->Ys->Yi->Yb β)->Yb β
def Agu:Ya En:=[AvD]
abbrev pB(β:Type):=D4->Ar->Yi->Yi->Yi->Yb β
abbrev pC(β:Type):=D4->Ar->Yi->Yi->Yi->Yi->Yb β
def Agv:Pc:=⟨49,1,AS 60 (AA Tryz.f81),⟨1,[0,1,2,8,9,10],[K2,AL,(Yc,[.fn 82 [0]]),Aa,Aa,Aa],[Ds]⟩,[(.exit 0,⟨1,[0,1,2,8,9],[K2,AL,(Yc,[.fn 82 [0]]),Aa,Aa],[Ds]⟩)]⟩
def pD{β:Type}(rec:pC β)(k1:pB β):pC β:=λx target n i_ j EL=>Yr (Yf (i_<j)) (Yr (Yf (0<=(1:Yi))) (let h:=(Yh.wrap (MN .shr .u64 (YaU.wrap (Yh.wrap (i_+j))) 1));Yr (Yf (0<=h)&&Yf (h<(Yg x:Yi))) (let e:=Yn x (Yj h) (0,(([]:Ya Yl),(([]:Ya AW),(0,0))));TN e target EL (λrfind1 cR=>Yr (Yf (rfind1<(0:Yi))) (let Cl:=(Yh.wrap (h+1));rec x target n Cl j cR) (rec x target n i_ h cR))) Ye) Ye) (k1 x target n i_ EL)
def TP(m:Yk){β:Type}(k1:pB β):pC β:=Tn (λr=>pD r k1) Ye m
theorem AvU{β:Type}(i:Yk)(k1):TP (β:=β) (i+1) k1=pD (TP i k1) k1:=rfl
def pE{β:Type}:=hid (TP (β:=β) fuel)
def AvV:Pb:=⟨60,Agv,λ_=>pE,pl (p:=Agv) Agu [] (g:=λi _=>TP i)⟩
def pF:AvT:=hid λx target EL k=>pE (λx2 target2 n i_ Ly=>Yr (Yf (i_<n)) (Yr (Yf (0<=i_)&&Yf (i_<(Yg x2:Yi))) (let e:=Yn x2 (Yj i_) (0,(([]:Ya Yl),(([]:Ya AW),(0,0))));TN e target2 Ly (λrfind1 cR=>let t:=(Yf (rfind1=(0:Yi)));k i_ t cR)) Ye) (k i_ Yc Ly)) x target (Yg x:Yi) 0 (Yg x:Yi) EL
def AvW:En:=⟨81,.spec (sg [K2,AL,(Yc,[.fn 82 [0]])] [Ds] [Aa,Ap] [Ds] pF),pf Agu [AvV] [.tmp 6,.tmp 7] Tryz.func81⟩
abbrev AvX:={β:Type}->It->(Yi->Yb β)->Yb β
def Agw:Ya En:=[AuW]
abbrev Agx(β:Type):=Yi->Yb β
abbrev Agy(β:Type):=Unit->Yb β
abbrev pG(β:Type):=It->Yi->Yi->Yb β
def Agz:Pc:=⟨19,0,AS 26 (AA Tryz.f339),⟨0,[0,1,7,8],[JU,(Yc,[.fn 259 []]),Aa,Aa],[]⟩,[(.ret,⟨0,[4],[Aa],[]⟩),(.exit 0,⟨0,[],[],[]⟩)]⟩
def Zu{β:Type}(rec:pG β)(k1:Agx β)(k2:Agy β):pG β:=λs t7 t8=>Yr (Yf (t8<t7)) (Yr (Yf (0<=t8)&&Yf (t8<(Yg s:Yi))) (let e:=Yn s (Yj t8) (([]:Ya Yl),(0,([]:Ya Yl)));o0 e (λrwrong=>Yr rwrong (k1 t8) (rec s t7 (Yh.wrap (t8+(1:Yi)))))) Ye) (k2 ())
def Zv(m:Yk){β:Type}(k1:Agx β)(k2:Agy β):pG β:=HT (λr=>Zu r k1 k2) Ye m
theorem AgA{β:Type}(i:Yk)(k1 k2):Zv (β:=β) (i+1) k1 k2=Zu (Zv i k1 k2) k1 k2:=rfl
def pH{β:Type}:=hid (Zv (β:=β) fuel)
def AvY:Pb:=⟨26,Agz,λ_=>pH,pl (p:=Agz) Agw [] (g:=λi _=>Zv i)⟩
def pI:AvX:=hid λs k=>pH (λt4=>k t4) (λ_=>k (-1)) s (Yg s:Yi) 0
def AvZ:En:=⟨339,.spec (sg [JU,(Yc,[.fn 259 []])] [] [Aa] [] pI),pf Agw [AvY] [.tmp 4] Tryz.func339⟩
abbrev Aw0:={β:Type}->It->(Yi->Yb β)->Yb β
def AgB:Ya En:=[AuY]
abbrev AgC(β:Type):=Yi->Yb β
abbrev AgD(β:Type):=Unit->Yb β
abbrev pJ(β:Type):=It->Yi->Yi->Yb β
def AgE:Pc:=⟨19,0,AS 26 (AA Tryz.f339),⟨0,[0,1,7,8],[JU,(Yc,[.fn 261 []]),Aa,Aa],[]⟩,[(.ret,⟨0,[4],[Aa],[]⟩),(.exit 0,⟨0,[],[],[]⟩)]⟩
def pK{β:Type}(rec:pJ β)(k1:AgC β)(k2:AgD β):pJ β:=λs t7 t8=>Yr (Yf (t8<t7)) (Yr (Yf (0<=t8)&&Yf (t8<(Yg s:Yi))) (let e:=Yn s (Yj t8) (([]:Ya Yl),(0,([]:Ya Yl)));o5 e (λrwrong=>Yr rwrong (k1 t8) (rec s t7 (Yh.wrap (t8+(1:Yi)))))) Ye) (k2 ())
def TQ(m:Yk){β:Type}(k1:AgC β)(k2:AgD β):pJ β:=HT (λr=>pK r k1 k2) Ye m
theorem Aw1{β:Type}(i:Yk)(k1 k2):TQ (β:=β) (i+1) k1 k2=pK (TQ i k1 k2) k1 k2:=rfl
def pL{β:Type}:=hid (TQ (β:=β) fuel)
def Aw2:Pb:=⟨26,AgE,λ_=>pL,pl (p:=AgE) AgB [] (g:=λi _=>TQ i)⟩
def pM:Aw0:=hid λs k=>pL (λt4=>k t4) (λ_=>k (-1)) s (Yg s:Yi) 0
def Aw3:En:=⟨339,.spec (sg [JU,(Yc,[.fn 261 []])] [] [Aa] [] pM),pf AgB [Aw2] [.tmp 4] Tryz.func339⟩
def AgF:En:=au [mE] [Jr,(Yc,[.fn 314 [0,1]])] [Ds,Ds] [Aa] [Ds,Ds] [.tmp 4] Tryz.func306 (by kernel_rfl)
def Aw4:En:=au [AtL] [Xs,(Yc,[.fn 410 [0,1]])] [Ds,Ds] [Aa] [Ds,Ds] [.tmp 4] Tryz.func460 (by kernel_rfl)
abbrev Aw5:={β:Type}->Cg->BQ->(Ys->Yb β)->Yb β
def AgG:Ya En:=[Avt]
abbrev AgH(β:Type):=Ys->Yb β
abbrev AgI(β:Type):=Unit->Yb β
abbrev pN(β:Type):=Ar->Yi->Cg->Yb β
def AgJ:Pc:=⟨23,0,AS 58 (AA Tryz.f18),⟨0,[2,5,6],[AF,AL,Aa],[Js]⟩,[(.ret,⟨0,[4],[Ap],[]⟩),(.exit 0,⟨0,[],[],[]⟩)]⟩
def pO{β:Type}(rec:pN β)(k1:AgH β)(k2:AgI β):pN β:=λkey i_ x=>Yr (Yf (i_<(Yg x.2.2.2.2.1:Yi))) (Yr (Yf (0<=i_)&&Yf (i_<(Yg x.2.2.2.2.1:Yi))) (let e:=Yn x.2.2.2.2.1 (Yj i_) ([]:Ya Yl);Yr (Yf (e=key)) (k1 Yo) (let Cl:=(Yh.wrap (i_+1));rec key Cl x)) Ye) (k2 ())
def TR(m:Yk){β:Type}(k1:AgH β)(k2:AgI β):pN β:=HT (λr=>pO r k1 k2) Ye m
theorem Aw6{β:Type}(i:Yk)(k1 k2):TR (β:=β) (i+1) k1 k2=pO (TR i k1 k2) k1 k2:=rfl
def pP{β:Type}:=hid (TR (β:=β) fuel)
def Aw7:Pb:=⟨58,AgJ,λ_=>pP,pl (p:=AgJ) AgG [] (g:=λi _=>TR i)⟩
def TS:Aw5:=hid λx labels k=>Zp labels (λKT=>pP (λt4=>k t4) (λ_=>k Yc) KT 0 x)
def Aw8:En:=⟨18,.spec (sg [(Yo,[.data Hp]),C2] [] [Ap] [] TS),pf AgG [Aw7] [.tmp 4] Tryz.func18⟩
abbrev Aw9:={β:Type}->AU->BQ->(Ar->Yb β)->Yb β
def TT:Aw9:=hid λr_ labels k=>Mn labels (λFF=>Yr (!FF) (k ([]:Ya Yl)) (oZ labels r_.2.2.2.1 (λAEY=>QU AEY (λKT=>k KT))))
def AgK:En:=⟨35,.spec (sg [Nm,C2] [] [AL] [] TT),pf [AvB,oV,QL] [] [.tmp 4] Tryz.func35⟩
abbrev Awa:={β:Type}->D4->Yi->Ar->(Yi->Ys->Yb β)->Yb β
def TU:Awa:=hid λl i_ key k=>pF l key i_ (λAFo AFp AGE=>k AFo AFp)
def Awb:En:=⟨36,.spec (sg [K2,Aa,AL] [] [Aa,Ap] [] TU),pf [AvW] [] [.tmp 6,.tmp 7] Tryz.func36⟩
abbrev Awc:={β:Type}->Ag->(Ys->Yb β)->Yb β
def AgL:Ya En:=[T0,AvG]
abbrev AgM(β:Type):=Ys->Yb β
abbrev AgN(β:Type):=Unit->Yb β
abbrev pQ(β:Type):=Dr->Yi->Yi->Ag->Yb β
def AgO:Pc:=⟨54,0,AS 58 (AA Tryz.f66),⟨0,[1,27,28,29],[AF,Gn,Aa,Aa],[CE]⟩,[(.ret,⟨0,[2],[Ap],[]⟩),(.exit 0,⟨0,[],[],[]⟩)]⟩
def pR{β:Type}(rec:pQ β)(k1:AgM β)(k2:AgN β):pQ β:=λd7 t28 LG g=>Yr (Yf (LG<t28)) (Yr (Yf (0<=LG)&&Yf (LG<(Yg d7:Yi))) (let e:=Yn d7 (Yj LG) (([]:Ya Yl),(([]:Ya Al),(0,(0,(Yc,Yc)))));QV e (λrmember=>Yr (!rmember) (k1 Yc) (Yr (Yf ((0:Yi)<LG)) (Yr (Yf (0<=(Yh.wrap (LG-(1:Yi))))&&Yf ((Yh.wrap (LG-(1:Yi)))<(Yg g.2.2.1:Yi))) (let e2:=Yn g.2.2.1 (Yj (Yh.wrap (LG-(1:Yi)))) (([]:Ya Yl),(([]:Ya Al),(0,(0,(Yc,Yc)))));Yr (Yy e.1 e2.1||Yf (e.1=e2.1)) (k1 Yc) (rec d7 t28 (Yh.wrap (LG+(1:Yi))) g)) Ye) (rec d7 t28 (Yh.wrap (LG+(1:Yi))) g)))) Ye) (k2 ())
def TV(m:Yk){β:Type}(k1:AgM β)(k2:AgN β):pQ β:=Gp (λr=>pR r k1 k2) Ye m
theorem Awd{β:Type}(i:Yk)(k1 k2):TV (β:=β) (i+1) k1 k2=pR (TV i k1 k2) k1 k2:=rfl
def pS{β:Type}:=hid (TV (β:=β) fuel)
def Awe:Pb:=⟨58,AgO,λ_=>pS,pl (p:=AgO) AgL [] (g:=λi _=>TV i)⟩
def Lr:Awc:=hid λg k=>Yr (Yf ((256:Yi)<(Yg g.2.2.1:Yi))) (k Yc) (Yr (Yf (g.1<(0:Yi))) (k Yc) (K5 g.2.2.2.1 (-1) 8589934592 (λJC=>Yr (!JC) (k Yc) (K5 g.2.2.2.2 (-1) 8589934592 (λVH=>Yr (!VH) (k Yc) (pS (λt2=>k t2) (λ_=>k Yo) g.2.2.1 (Yg g.2.2.1:Yi) 0 g))))))
def Zw:En:=⟨66,.spec (sg [HS] [] [Ap] [] Lr),pf AgL [Awe] [.tmp 2] Tryz.func66⟩
abbrev Awf:={β:Type}->AW->Ax->Ag->(Ys->Ax->Ag->Yb β)->Yb β
def pT:Awf:=hid λm t1 t2 k=>Yr (Yf (0<=t2.1)&&Yf (t2.1<(Yg t1.1:Yi))) (let e:=Yn t1.1 (Yj t2.1) (0,(([]:Ya BA),(0,(([]:Ya Ar),(0,(0,(0,Yc)))))));TT e m.2.1 (λVG=>let t:=(!Yf (VG=t2.2.1));k t t1 t2)) Ye
def Awg:En:=⟨70,.spec (sg [Ti,AF,BJ] [F3,CE] [Ap] [F3,CE] pT),pf [AgK] [] [.tmp 4] Tryz.func70⟩
abbrev Awh:={β:Type}->Hq->(Ys->Yb β)->Yb β
def Zx:Ya En:=[AvI,AuU]
abbrev AgP(β:Type):=Ys->Yb β
abbrev AgQ(β:Type):=Unit->Yb β
abbrev pU(β:Type):=Hq->Yi->Yi->Nj->Yb β
def AgR:Pc:=⟨80,0,AS 1018 (AA Tryz.f103),⟨0,[3,59,60,61],[AF,EV,Aa,Aa],[.cells 324 [.data Mh]]⟩,[(.ret,⟨0,[2],[Ap],[]⟩),(.exit 0,⟨0,[],[],[]⟩)]⟩
abbrev Awi(β:Type):=Ys->Yb β
abbrev Awj(β:Type):=Hq->Nj->Yb β
def AgS:Pc:=⟨80,0,AS 127 (AA Tryz.f103),⟨0,[0,3],[EV,AF],[.cells 324 [.data Mh]]⟩,[(.ret,⟨0,[2],[Ap],[]⟩)]⟩
abbrev Awk(β:Type):=Ys->Yb β
abbrev Awl(β:Type):=Hq->Nj->Yb β
def AgT:Pc:=⟨80,0,AS 63 (AA Tryz.f103),⟨0,[0,3],[EV,AF],[.cells 324 [.data Mh]]⟩,[(.ret,⟨0,[2],[Ap],[]⟩)]⟩
def AgU{β:Type}(rec:pU β)(k1:AgP β)(k2:AgQ β):pU β:=λt59 Amk KX f=>
 Yr (Yf (KX<Amk))
 (Yr (Yf (0<=KX)&&Yf (KX<(Yg t59:Yi)))
 (let e:=Yn t59 (Yj KX) (0,(([]:Ya Yl),0));
 Yr (Yf (0<=(if(Yh.wrap ((Yg f.2.1:Yi)-(1:Yi)))<KX then(Yh.wrap ((Yg f.2.1:Yi)-(1:Yi)))else KX))&&Yf ((if(Yh.wrap ((Yg f.2.1:Yi)-(1:Yi)))<KX then(Yh.wrap ((Yg f.2.1:Yi)-(1:Yi)))else KX)<(Yg f.2.1:Yi)))
 (let e2:=Yn f.2.1 (Yj (if(Yh.wrap ((Yg f.2.1:Yi)-(1:Yi)))<KX then(Yh.wrap ((Yg f.2.1:Yi)-(1:Yi)))else KX)) 0;
 Yr (!Yf (e.1=e2))
 (k1 Yc)
 (rec t59 Amk (Yh.wrap (KX+(1:Yi))) f))
 Ye)
 Ye)
 (k2 ())
def Zy(m:Yk){β:Type}(k1:AgP β)(k2:AgQ β):pU β:=Gp (λr=>AgU r k1 k2) Ye m
theorem AGl{β:Type}(i:Yk)(k1 k2):Zy (β:=β) (i+1) k1 k2=AgU (Zy i k1 k2) k1 k2:=rfl
def AgV{β:Type}:=hid (Zy (β:=β) fuel)
def Awm:Pb:=⟨1018,AgR,λ_=>AgV,pl (p:=AgR) Zx [] (g:=λi _=>Zy i)⟩
def AgW{β:Type}(k1:Awi β):Awj β:=λl f=>Yr (Yf (0<=(1:Yi))&&(Yf ((1:Yi)<=(Yg l:Yi))&&Yf ((Yg l:Yi)<=(Yg l:Yi)))) (AgV (λt2=>k1 t2) (λ_=>k1 Yo) (YY (Yj 1) (YW (Yj (Yg l:Yi)) l)) (Yg (YY (Yj 1) (YW (Yj (Yg l:Yi)) l)):Yi) 0 f) Ye
def pV{β:Type}:=hid (AgW (β:=β))
def Awn:Pb:=⟨127,AgS,λ_=>pV,pe (p:=AgS) Zx [Awm] 127 (g:=λ_=>AgW)⟩
def AgX{β:Type}(k1:Awk β):Awl β:=λl f=>Yr (Yf ((Yh.wrap ((Yg l:Yi)-(1:Yi)))<(Yg f.2.1:Yi))) (k1 Yc) (Yr (Yf ((Yg f.2.1:Yi)<(Yh.wrap ((Yg l:Yi)-(1:Yi))))) (Yr (!f.2.2) (k1 Yc) (pV (λt2=>k1 t2) l f)) (pV (λt2=>k1 t2) l f))
def pW{β:Type}:=hid (AgX (β:=β))
def Awo:Pb:=⟨63,AgT,λ_=>pW,pe (p:=AgT) Zx [Awn] 63 (g:=λ_=>AgX)⟩
def pX:Awh:=hid λl k=>Yr (Yf ((Yg l:Yi)=(0:Yi))) (k Yc) (Yr (Yf (0<=(0:Yi))&&Yf ((0:Yi)<(Yg l:Yi))) (let e:=Yn l (Yj 0) (0,(([]:Ya Yl),0));Yr (!Yf (e.1=(0:Yi))) (k Yc) (Yr (Yf (0<=(0:Yi))&&Yf ((0:Yi)<(Yg l:Yi))) (let e2:=Yn l (Yj 0) (0,(([]:Ya Yl),0));Agi e2.2.1 (λrforms rforms2=>Yr (!rforms2) (k Yc) (Yr (Yf (rforms.1=([112,101,114,115,111,110]:Ya Yl))) (AfF l (λroptions roptions2=>Yr (!roptions2) (k Yc) (pW (λt2=>k t2) roptions rforms))) (pW (λt2=>k t2) l rforms)))) Ye)) Ye)
def Zz:En:=⟨103,.spec (sg [EV] [] [Ap] [] pX),pf Zx [Awo] [.tmp 2] Tryz.func103⟩
def pY:En:=au [Agn,AeD] [Jq,Aa,Aa] [] [AX] [.row 283 (.prod (.int .i64) (.prod (.int .i64) (.int .i64)))] [.tmp 6] Tryz.func145 (by kernel_rfl)
def AgY:En:=.hand (Fe mixed (X:=⟨look tab,gam [QG,JZ],Yc,Yc,Yc,Yc,DU,Ye,100000,[]⟩) AG [QG,JZ] rfl (ps:=[AF,EV]) (is:=Fi) (rs:=[Aa]) (os:=Fi) [.tmp 4] Tryz.func191 (by kernel_rfl)) rfl (by kernel_rfl)
def AgZ:En:=.hand (Fe mixed (X:=⟨look tab,gam [QG,JZ,QH,XV,QF],Yc,Yc,Yc,Yc,DU,Ye,100000,[]⟩) AG [QG,JZ,QH,XV,QF] rfl (ps:=[AF,EV]) (is:=Fi) (rs:=[Aa]) (os:=Fi) [.tmp 4] Tryz.func194 (by kernel_rfl)) rfl (by kernel_rfl)
abbrev Awp:={β:Type}->BA->BQ->(Ys->Yb β)->Yb β
def K6:Awp:=hid λm l k=>Tr l m.1 (λRG=>let t:=(Yf (m.2.1=(0:Yi)));Yr t (k (Yf (RG=m.2.2))) (let t2:=(Yf (m.2.1=(1:Yi)));Yr t2 (k (!Yf (RG=m.2.2))) (let t3:=(Yf (m.2.1=(2:Yi)));Yr t3 (Bw m.2.2 RG (λyK=>k yK)) (let t4:=(Yf (m.2.1=(3:Yi)));Yr t4 (Bw m.2.2 RG (λyK=>k (!yK))) (k Yc)))))
def Awq:En:=⟨264,.spec (sg [Q7,C2] [] [Ap] [] K6),pf [AcQ,AvK] [] [.tmp 4] Tryz.func264⟩
def Z0:En:=au [AtF] [Fh,AL] [] [Aa,Ap] [] [.tmp 4,.tmp 5] Tryz.func300 (by kernel_rfl)
abbrev Awr:={β:Type}->GW->(Ar->Ys->Yb β)->Yb β
def pZ:Ya En:=[AvR,AvP,Af6]
abbrev Aws(β:Type):=Ar->Ys->Yb β
abbrev Awt(β:Type):=Ys->GW->Yb β
def Ah0:Pc:=⟨95,0,AS 861 (AA Tryz.f310),⟨0,[1,4],[AF,Ap],[.cells 220 [.data FZ]]⟩,[(.ret,⟨0,[2,3],[AL,Ap],[]⟩)]⟩
abbrev Awu(β:Type):=Ar->Ys->Yb β
abbrev Awv(β:Type):=Yi->Ar->Yb β
def Ah1:Pc:=⟨95,0,AS 27643 (AA Tryz.f310),⟨0,[5,6],[Aa,AL],[]⟩,[(.ret,⟨0,[2,3],[AL,Ap],[]⟩)]⟩
def Ah2{β:Type}(k1:Aws β):Awt β:=λok t=>Zt t.2.2 (!Yf ((YQ t.2.2 60)=0)) (λKU=>k1 KU ok)
def q8{β:Type}:=hid (Ah2 (β:=β))
def Aww:Pb:=⟨861,Ah0,λ_=>q8,pe (p:=Ah0) pZ [] 861 (g:=λ_=>Ah2)⟩
def Ah3{β:Type}(k1:Awu β):Awv β:=λn sign=>Zt n Yc (λKU=>Yr (Yf (Yg sign+Yg KU<=9223372036854775807)) (Yr (Yf ((0:Yi)<=n)) (Yr (Yf (n<=64800)) (let t:=(Yf ((YQ n 60)=0));k1 (sign++KU) t) (k1 (sign++KU) Yc)) (k1 (sign++KU) Yc)) Ye)
def q9{β:Type}:=hid (Ah3 (β:=β))
def Awx:Pb:=⟨27643,Ah1,λ_=>q9,pe (p:=Ah1) pZ [] 27643 (g:=λ_=>Ah3)⟩
def Ah4:Awr:=hid λt k=>let t2:=(Yf (t.1=(1:Yi)));Yr t2 (mI t.2.2 (λP5=>Yr (Yf ((0:Yi)<=t.2.2)) (let t3:=(Yf (t.2.2<=(999999999:Yi)));k P5 t3) (k P5 Yc))) (let t3:=(Yf (t.1=(2:Yi)));Yr t3 (Yr (Yf ((0:Yi)<=t.2.2)) (let ok:=(Yf (t.2.2<=(86400:Yi)));q8 (λt22 P9=>k t22 P9) ok t) (q8 (λt22 P9=>k t22 P9) Yc t)) (let t4:=(Yf (t.1=(3:Yi)));Yr t4 (pA t.2.2 (λrdated rdated2=>k rdated rdated2)) (let t5:=(Yf (t.1=(4:Yi)));Yr t5 (Yr (Yf (t.2.2<(0:Yi))) (let n:=(Yh.wrap (0-t.2.2));q9 (λt22 P9=>k t22 P9) n ([45]:Ya Yl)) (q9 (λt22 P9=>k t22 P9) t.2.2 ([43]:Ya Yl))) (let t6:=(Yf (t.1=(5:Yi)));Yr t6 (pA (Yh.wrap (Int.tdiv t.2.2 86400)) (λrdated rdated2=>Yr (Yf (Yg rdated+Yg ([84]:Ya Yl)<=9223372036854775807)) (Zt (YQ t.2.2 86400) Yo (λKU=>Yr (Yf (Yg (rdated++([84]:Ya Yl))+Yg KU<=9223372036854775807)) (Yr (Yf (Yg ((rdated++([84]:Ya Yl))++KU)+Yg ([90]:Ya Yl)<=9223372036854775807)) (Yr rdated2 (let t7:=(((rdated++([84]:Ya Yl))++KU)++([90]:Ya Yl));let t8:=(Yf ((0:Yi)<=t.2.2));k t7 t8) (let t7:=(((rdated++([84]:Ya Yl))++KU)++([90]:Ya Yl));k t7 Yc)) Ye) Ye)) Ye)) (k ([]:Ya Yl) Yc)))))
def Awy:En:=⟨310,.spec (sg [IT] [] [AL,Ap] [] Ah4),pf pZ [Aww,Awx] [.tmp 2,.tmp 3] Tryz.func310⟩
abbrev Awz:={β:Type}->Ar->(Yi->Ys->Yb β)->Yb β
def Ah5:Ya En:=[p9]
abbrev AwA(β:Type):=Yi->Ys->Yb β
abbrev AwB(β:Type):=Ar->Yi->Ys->Yb β
def Ah6:Pc:=⟨32,0,AS 15 (AA Tryz.f362),⟨0,[0,4,5],[AL,Aa,Ap],[]⟩,[(.ret,⟨0,[2,3],[Aa,Ap],[]⟩)]⟩
def Ah7{β:Type}(k1:AwA β):AwB β:=λs n ok=>Yr ok (Yr (Yf ((Yg s:Yi)=(6:Yi))) (Yr (Yf ((-64800:Yi)<=n)) (let t:=(Yf (n<=64800));k1 n t) (k1 n Yc)) (k1 n Yc)) (k1 n Yc)
def qA{β:Type}:=hid (Ah7 (β:=β))
def AwC:Pb:=⟨15,Ah6,λ_=>qA,pe (p:=Ah6) Ah5 [] 15 (g:=λ_=>Ah7)⟩
def Ah8:Awz:=hid λs k=>Yr (Yf (0<=(1:Yi))&&(Yf ((1:Yi)<=(Yg s:Yi))&&Yf ((Yg s:Yi)<=(Yg s:Yi)))) (Zs (YY (Yj 1) (YW (Yj (Yg s:Yi)) s)) (λMB RH=>Yr (Yf (0<=(0:Yi))&&Yf ((0:Yi)<(Yg s:Yi))) (Yr (Yf (((Yn s (Yj 0) 0).toNat:Yi)=(45:Yi))) (let n:=(Yh.wrap (0-MB));qA (λt2 t3=>k t2 t3) s n RH) (qA (λt2 t3=>k t2 t3) s MB RH)) Ye)) Ye
def AwD:En:=⟨362,.spec (sg [AL] [] [Aa,Ap] [] Ah8),pf Ah5 [AwC] [.tmp 2,.tmp 3] Tryz.func362⟩
abbrev AwE:={β:Type}->Ar->(Yi->Ys->Yb β)->Yb β
def Ah9:AwE:=hid λs k=>Yr (!Yf ((Yg s:Yi)=(20:Yi))) (k 0 Yc) (Yr (Yf (0<=(10:Yi))&&Yf ((10:Yi)<(Yg s:Yi))) (Yr (!Yf (((Yn s (Yj 10) 0).toNat:Yi)=(84:Yi))) (k 0 Yc) (Yr (Yf (0<=(19:Yi))&&Yf ((19:Yi)<(Yg s:Yi))) (Yr (!Yf (((Yn s (Yj 19) 0).toNat:Yi)=(90:Yi))) (k 0 Yc) (Yr (Yf (0<=(0:Yi))&&(Yf ((0:Yi)<=(10:Yi))&&Yf ((10:Yi)<=(Yg s:Yi)))) (p7 (YY (Yj 0) (YW (Yj 10) s)) (λrdate rdate2=>Yr (Yf (0<=(11:Yi))&&(Yf ((11:Yi)<=(19:Yi))&&Yf ((19:Yi)<=(Yg s:Yi)))) (Zs (YY (Yj 11) (YW (Yj 19) s)) (λMB RH=>Yr rdate2 (Yr RH (let t:=(Yh.wrap ((Yh.wrap (rdate*86400))+MB));let t2:=(Yf (MB<86400));k t t2) (let t:=(Yh.wrap ((Yh.wrap (rdate*86400))+MB));k t Yc)) (let t:=(Yh.wrap ((Yh.wrap (rdate*86400))+MB));k t Yc))) Ye)) Ye)) Ye)) Ye)
def AwF:En:=⟨364,.spec (sg [AL] [] [Aa,Ap] [] Ah9),pf [p9,Ago] [] [.tmp 2,.tmp 3] Tryz.func364⟩
def Aha:En:=au [AvS,Au1] [Jq,Aa] [] [O1] [] [.cell 4 250] Tryz.func441 (by kernel_rfl)
abbrev AwG:={β:Type}->It->(Ys->Yb β)->Yb β
def QW:AwG:=hid λs k=>pI s (λI6=>let t:=(Yf ((0:Yi)<=I6));k t)
def Ahb:En:=⟨258,.spec (sg [JU,(Yc,[.fn 259 []])] [] [Ap] [] QW),pf [AvZ] [] [.tmp 4] Tryz.func258⟩
abbrev AwH:={β:Type}->It->(Ys->Yb β)->Yb β
def Z1:AwH:=hid λs k=>pM s (λI6=>let t:=(Yf ((0:Yi)<=I6));k t)
def AwI:En:=⟨258,.spec (sg [JU,(Yc,[.fn 261 []])] [] [Ap] [] Z1),pf [Aw3] [] [.tmp 4] Tryz.func258⟩
def AwJ:En:=.hand (Fe mixed (X:=⟨look tab,gam [mE,AgF],Yc,Yo,Yc,Yc,[],Ye,100000,[]⟩) AG [mE,AgF] rfl (ps:=[AX,(Yc,[.fn 314 [1,2]])]) (is:=[.row 3 (.int .i64),Ds,Ds]) (rs:=[AX]) (os:=[.row 3 (.int .i64),Ds,Ds]) [.tmp 4] Tryz.func313 (by kernel_rfl)) rfl (by kernel_rfl)
def AwK:En:=au [Aw4] [Xs,(Yc,[.fn 410 [0,1]])] [Ds,Ds] [Ap] [Ds,Ds] [.tmp 4] Tryz.func409 (by kernel_rfl)
def AwL:En:=au [Asn] [Tf,(Yc,[.fn 143 []])] [] [Aa] [] [.tmp 4] Tryz.func243 (by kernel_rfl)
def Ahc:En:=au [m5] [IQ,(Yc,[.fn 250 []])] [] [Aa] [] [.tmp 4] Tryz.func333 (by kernel_rfl)
def Ahd:En:=au [pY,AsT] [Jq,O1] [] [Aa,Ap] [] [.tmp 4,.tmp 5] Tryz.func138 (by kernel_rfl)
abbrev AwM:={β:Type}->CW->Yi->(Yi->Yb β)->Yb β
def qB:Ya En:=[Ahb]
abbrev AwN(β:Type):=Yi->Yb β
abbrev AwO(β:Type):=Unit->Yb β
abbrev AwP(β:Type):=Ys->CW->Yb β
def Ahe:Pc:=⟨50,0,AS 103 (AA Tryz.f151),⟨0,[2,15],[AF,Ap],[.cells 51 [.data Fg]]⟩,[(.ret,⟨0,[4],[Aa],[]⟩),(.normal,⟨0,[],[],[]⟩)]⟩
abbrev AwQ(β:Type):=Yi->Yb β
abbrev AwR(β:Type):=Unit->Yb β
abbrev AwS(β:Type):=Ys->CW->Yb β
def Ahf:Pc:=⟨50,0,AS 25 (AA Tryz.f151),⟨0,[2,5],[AF,Ap],[.cells 51 [.data Fg]]⟩,[(.ret,⟨0,[4],[Aa],[]⟩),(.normal,⟨0,[],[],[]⟩)]⟩
def qC{β:Type}(k1:AwN β)(k2:AwO β):AwP β:=λCa s=>Yr Ca (k1 1) (let t:=(Yf ((Yg s.2.2.2.2:Yi)=(0:Yi)));Yr t (k1 7) (let t2:=(Yf ((8:Yi)<(Yg s.2.2.2.2:Yi)));Yr t2 (k1 5) (QW s.2.2.2.2 (λI6=>Yr I6 (k1 8) (k2 ())))))
def QX{β:Type}:=hid (qC (β:=β))
def AwT:Pb:=⟨103,Ahe,λ_=>QX,pe (p:=Ahe) qB [] 103 (g:=λ_=>qC)⟩
def qD{β:Type}(k1:AwQ β)(k2:AwR β):AwS β:=λt5 s=>Yr t5 (k1 6) (Yr (Yf (s.2.1<(0:Yi))) (QX (λt4=>k1 t4) (λ_=>k2 ()) Yo s) (Yr (Yf (s.2.2.1<=s.2.1)) (QX (λt4=>k1 t4) (λ_=>k2 ()) Yo s) (Yr (Yf ((8589934592:Yi)<s.2.2.1)) (QX (λt4=>k1 t4) (λ_=>k2 ()) Yo s) (let t:=(Yf (s.2.2.2.1<(0:Yi)));QX (λt4=>k1 t4) (λ_=>k2 ()) t s))))
def Z2{β:Type}:=hid (qD (β:=β))
def AwU:Pb:=⟨25,Ahf,λ_=>Z2,pe (p:=Ahf) qB [AwT] 25 (g:=λ_=>qD)⟩
def Z3:AwM:=hid λs last k=>Yr (Yf (s.1<(1:Yi))) (Z2 (λt4=>k t4) (λ_=>k 0) Yo s) (Z2 (λt4=>k t4) (λ_=>k 0) (Yf (s.1<=last)) s)
def AwV:En:=⟨151,.spec (sg [(Yo,[.data Fg]),Aa] [] [Aa] [] Z3),pf qB [AwU] [.tmp 4] Tryz.func151⟩
abbrev AwW:={β:Type}->AU->Yi->(Yi->Yb β)->Yb β
def Z4:Ya En:=[AfN,AwI]
abbrev AwX(β:Type):=Yi->Yb β
abbrev AwY(β:Type):=Unit->Yb β
abbrev AwZ(β:Type):=Ys->AU->Yb β
def Ahg:Pc:=⟨82,0,AS 415 (AA Tryz.f159),⟨0,[2,39],[AF,Ap],[HR]⟩,[(.ret,⟨0,[4],[Aa],[]⟩),(.normal,⟨0,[],[],[]⟩)]⟩
abbrev Ax0(β:Type):=Yi->Yb β
abbrev Ax1(β:Type):=Unit->Yb β
abbrev Ax2(β:Type):=Ys->AU->Yb β
def Ahh:Pc:=⟨82,0,AS 103 (AA Tryz.f159),⟨0,[2,28],[AF,Ap],[HR]⟩,[(.ret,⟨0,[4],[Aa],[]⟩),(.normal,⟨0,[],[],[]⟩)]⟩
abbrev Ahi(β:Type):=Yi->Yb β
abbrev Ahj(β:Type):=Unit->Yb β
abbrev Ax3(β:Type):=Ys->AU->Yb β
def Ahk:Pc:=⟨82,0,AS 25 (AA Tryz.f159),⟨0,[2,5],[AF,Ap],[HR]⟩,[(.ret,⟨0,[4],[Aa],[]⟩),(.normal,⟨0,[],[],[]⟩)]⟩
def qE{β:Type}(k1:AwX β)(k2:AwY β):AwZ β:=λt39 r_=>Yr t39 (k1 8) (Yr (Yf (r_.2.2.1<(0:Yi))) (k1 1) (Yr (Yf (r_.2.2.2.2.1<(0:Yi))) (k1 1) (Yr (Yf (r_.2.2.2.2.2.1<r_.2.2.2.2.1)) (k1 1) (Yr (Yf (r_.2.2.2.2.2.2.1<r_.2.2.2.2.2.1)) (k1 1) (Yr (Yf ((604800:Yi)<r_.2.2.2.2.2.2.1)) (k1 1) (let t:=(Yf (r_.2.2.2.2.2.2.1=(0:Yi)));Yr t (k1 1) (k2 ())))))))
def Z5{β:Type}:=hid (qE (β:=β))
def Ax4:Pb:=⟨415,Ahg,λ_=>Z5,pe (p:=Ahg) Z4 [] 415 (g:=λ_=>qE)⟩
def qF{β:Type}(k1:Ax0 β)(k2:Ax1 β):Ax2 β:=λt28 r_=>Yr t28 (k1 5) (Z1 r_.2.1 (λI6=>Yr I6 (Z5 (λt4=>k1 t4) (λ_=>k2 ()) Yo r_) (TG r_.2.2.2.1 (λyJ=>Z5 (λt4=>k1 t4) (λ_=>k2 ()) (!yJ) r_))))
def TW{β:Type}:=hid (qF (β:=β))
def Ax5:Pb:=⟨103,Ahh,λ_=>TW,pe (p:=Ahh) Z4 [Ax4] 103 (g:=λ_=>qF)⟩
def qG{β:Type}(k1:Ahi β)(k2:Ahj β):Ax3 β:=λt5 r_=>Yr t5 (k1 3) (Yr (Yf ((8:Yi)<(Yg r_.2.1:Yi))) (TW (λt4=>k1 t4) (λ_=>k2 ()) Yo r_) (let t:=(Yf ((12:Yi)<(Yg r_.2.2.2.1:Yi)));TW (λt4=>k1 t4) (λ_=>k2 ()) t r_))
def Lt{β:Type}:=hid (qG (β:=β))
def Ax6:Pb:=⟨25,Ahk,λ_=>Lt,pe (p:=Ahk) Z4 [Ax5] 25 (g:=λ_=>qG)⟩
def Z6:AwW:=hid λr_ i_ k=>Yr (Yf (i_=0)) (Yr (!Yf (r_.1=(-1:Yi))) (Lt (λt4=>k t4) (λ_=>k 0) Yo r_) (Yr (Yf ((0:Yi)<i_)) (Yr (Yf (r_.1<(0:Yi))) (Lt (λt4=>k t4) (λ_=>k 0) Yo r_) (Lt (λt4=>k t4) (λ_=>k 0) (Yf (i_<=r_.1)) r_)) (Lt (λt4=>k t4) (λ_=>k 0) Yc r_))) (Yr (Yf ((0:Yi)<i_)) (Yr (Yf (r_.1<(0:Yi))) (Lt (λt4=>k t4) (λ_=>k 0) Yo r_) (Lt (λt4=>k t4) (λ_=>k 0) (Yf (i_<=r_.1)) r_)) (Lt (λt4=>k t4) (λ_=>k 0) Yc r_))
def Ax7:En:=⟨159,.spec (sg [Nm,Aa] [] [Aa] [] Z6),pf Z4 [Ax6] [.tmp 4] Tryz.func159⟩
def Ahl:En:=.hand (Fe mixed (X:=⟨look tab,gam [QG,JZ],Yc,Yc,Yc,Yc,DU,Ye,100000,[]⟩) AG [QG,JZ] rfl (ps:=[AF,EV]) (is:=Fi) (rs:=[Aa]) (os:=Fi) [.tmp 4] Tryz.func189 (by kernel_rfl)) rfl (by kernel_rfl)
def Ahm:En:=.hand (Fe mixed (X:=⟨look tab,gam [Z0,QI,JZ,QJ],Yc,Yc,Yc,Yc,DU,Ye,100000,[]⟩) AG [Z0,QI,JZ,QJ] rfl (ps:=[AF,EV]) (is:=Fi) (rs:=[Aa]) (os:=Fi) [.tmp 4] Tryz.func195 (by kernel_rfl)) rfl (by kernel_rfl)
def Ahn:En:=.hand (Fe mixed (X:=⟨look tab,gam [AeY,QI,JZ,QJ],Yc,Yc,Yc,Yc,DU,Ye,100000,[]⟩) AG [AeY,QI,JZ,QJ] rfl (ps:=[AF,EV]) (is:=Fi) (rs:=[Aa]) (os:=Fi) [.tmp 4] Tryz.func197 (by kernel_rfl)) rfl (by kernel_rfl)
def Aho:En:=.hand (Fe mixed (X:=⟨look tab,gam [Z0,JZ,QH,XV,QF],Yc,Yc,Yc,Yc,DU,Ye,100000,[]⟩) AG [Z0,JZ,QH,XV,QF] rfl (ps:=[AF,EV]) (is:=Fi) (rs:=[Aa]) (os:=Fi) [.tmp 4] Tryz.func198 (by kernel_rfl)) rfl (by kernel_rfl)
abbrev Ax8:={β:Type}->GW->(Ar->Yi->Yb β)->Yb β
def Ahp:Ax8:=hid λt k=>Yr (Yf (t.1=(0:Yi))) (kP t.2.1 (λyM=>Yr (!yM) (k ([]:Ya Yl) 8) (Yr (!Yf (t.2.2=(0:Yi))) (k ([]:Ya Yl) 8) (k t.2.1 0)))) (Ah4 t (λrtext rtext2=>Yr (!rtext2) (k ([]:Ya Yl) 8) (Yr (!Yf (t.2.1=([]:Ya Yl))) (k ([]:Ya Yl) 8) (k rtext 0))))
def Ax9:En:=⟨233,.spec (sg [IT] [] [AL,Aa] [] Ahp),pf [XA,Awy] [] [.tmp 2,.tmp 3] Tryz.func233⟩
def Axa:En:=au [kM,Ato,AwJ,At0] [Jr,Aa,Aa] [] [AX] Ml [.tmp 6] Tryz.func238 (by kernel_rfl)
abbrev Axb:={β:Type}->Iq->(Yi->Yb β)->Yb β
def qH:Ya En:=[AfN,Ahb]
abbrev Axc(β:Type):=Yi->Yb β
abbrev Axd(β:Type):=Unit->Yb β
abbrev Axe(β:Type):=Ys->Iq->Yb β
def Ahq:Pc:=⟨46,0,AS 103 (AA Tryz.f257),⟨0,[1,14],[AF,Ap],[.cells 379 [.data Ni]]⟩,[(.ret,⟨0,[2],[Aa],[]⟩),(.normal,⟨0,[],[],[]⟩)]⟩
abbrev Axf(β:Type):=Yi->Yb β
abbrev Axg(β:Type):=Unit->Yb β
abbrev Axh(β:Type):=Ys->Iq->Yb β
def Ahr:Pc:=⟨46,0,AS 25 (AA Tryz.f257),⟨0,[1,3],[AF,Ap],[.cells 379 [.data Ni]]⟩,[(.ret,⟨0,[2],[Aa],[]⟩),(.normal,⟨0,[],[],[]⟩)]⟩
def Ahs{β:Type}(k1:Axc β)(k2:Axd β):Axe β:=λCC x=>Yr CC (k1 5) (QW x.1 (λI6=>Yr I6 (k1 8) (QW x.2.1 (λAFv=>Yr AFv (k1 8) (TG x.2.2 (λyJ=>Yr (!yJ) (k1 8) (k2 ())))))))
def Z7{β:Type}:=hid (Ahs (β:=β))
def Axi:Pb:=⟨103,Ahq,λ_=>Z7,pe (p:=Ahq) qH [] 103 (g:=λ_=>Ahs)⟩
def Aht{β:Type}(k1:Axf β)(k2:Axg β):Axh β:=λt3 x=>Yr t3 (k1 7) (Yr (Yf ((8:Yi)<(Yg x.1:Yi))) (Z7 (λt2=>k1 t2) (λ_=>k2 ()) Yo x) (Yr (Yf ((8:Yi)<(Yg x.2.1:Yi))) (Z7 (λt2=>k1 t2) (λ_=>k2 ()) Yo x) (let t:=(Yf ((12:Yi)<(Yg x.2.2:Yi)));Z7 (λt2=>k1 t2) (λ_=>k2 ()) t x)))
def qI{β:Type}:=hid (Aht (β:=β))
def Axj:Pb:=⟨25,Ahr,λ_=>qI,pe (p:=Ahr) qH [Axi] 25 (g:=λ_=>Aht)⟩
def Ahu:Axb:=hid λx k=>Yr (Yf ((Yg x.1:Yi)=(0:Yi))) (qI (λt2=>k t2) (λ_=>k 0) Yo x) (let t:=(Yf ((Yg x.2.1:Yi)=(0:Yi)));qI (λt2=>k t2) (λ_=>k 0) t x)
def Axk:En:=⟨257,.spec (sg [(Yo,[.data Ni])] [] [Aa] [] Ahu),pf qH [Axj] [.tmp 2] Tryz.func257⟩
abbrev Axl:={β:Type}->BA->BQ->(Ys->BQ->Yb β)->Yb β
def Z8:Axl:=hid λm t1 k=>K6 m t1 (λAFu=>k (!AFu) t1)
def Axm:En:=⟨263,.spec (sg [Q7,AF] [Mj] [Ap] [Mj] Z8),pf [Awq] [] [.tmp 3] Tryz.func263⟩
abbrev Axn:={β:Type}->Ar->(Yi->Yi->Ys->Yb β)->Yb β
def qJ:Ya En:=[XA,p9,Ago,AwF,oA,AwD,Adq,Atz]
abbrev Axo(β:Type):=Yi->Yi->Ys->Yb β
abbrev Axp(β:Type):=Ar->Yb β
def Ahv:Pc:=⟨83,0,AS 7 (AA Tryz.f280),⟨0,[0],[AL],[]⟩,[(.ret,⟨0,[2,3,4],[Aa,Aa,Ap],[]⟩)]⟩
abbrev Axq(β:Type):=Yi->Yi->Ys->Yb β
abbrev Axr(β:Type):=Ar->Yb β
abbrev Axs(β:Type):=Ar->Ys->Yb β
def Ahw:Pc:=⟨83,0,AS 215 (AA Tryz.f280),⟨0,[0,23],[AL,Ap],[]⟩,[(.ret,⟨0,[2,3,4],[Aa,Aa,Ap],[]⟩),(.normal,⟨0,[0],[AL],[]⟩)]⟩
def Ahx{β:Type}(k1:Axo β):Axp β:=λs=>Zm s (λLF VJ=>Yr VJ (Yr (Yf (0<=(0:Yi))&&Yf ((0:Yi)<(Yg s:Yi))) (Yr (!Yf (((Yn s (Yj 0) 0).toNat:Yi)=(48:Yi))) (k1 1 LF Yo) (let t:=(Yf (s=([48]:Ya Yl)));k1 1 LF t)) Ye) (k1 1 LF Yc))
def qK{β:Type}:=hid (Ahx (β:=β))
def Axt:Pb:=⟨7,Ahv,λ_=>qK,pe (p:=Ahv) qJ [] 7 (g:=λ_=>Ahx)⟩
def Ahy{β:Type}(k1:Axq β)(k2:Axr β):Axs β:=λs t23=>Yr t23 (Ah8 s (λroffset roffset2=>k1 4 roffset roffset2)) (XY s ([84]:Ya Yl) (λAFh=>Yr AFh (Ah9 s (λrinstant rinstant2=>k1 5 rinstant rinstant2)) (XY s ([45]:Ya Yl) (λAFi=>Yr AFi (p7 s (λrdate rdate2=>k1 3 rdate rdate2)) (XY s ([58]:Ya Yl) (λAFj=>Yr AFj (Zs s (λMB RH=>k1 2 MB RH)) (k2 s)))))))
def qL{β:Type}:=hid (Ahy (β:=β))
def Axu:Pb:=⟨215,Ahw,λ_=>qL,pe (p:=Ahw) qJ [] 215 (g:=λ_=>Ahy)⟩
def Ahz:Axn:=hid λs k=>Yr (Yf (0<=(0:Yi))&&Yf ((0:Yi)<(Yg s:Yi))) (let c:=((Yn s (Yj 0) 0).toNat:Yi);X8 c (λrsmall=>Yr rsmall (kP s (λyM=>k 0 0 yM)) (Yr (Yf (c=43)) (qL (λt2 t3 t4=>k t2 t3 t4) (λs2=>qK (λt2 t3 t4=>k t2 t3 t4) s2) s Yo) (let t:=(Yf (c=45));qL (λt2 t3 t4=>k t2 t3 t4) (λs2=>qK (λt2 t3 t4=>k t2 t3 t4) s2) s t)))) Ye
def Axv:En:=⟨280,.spec (sg [AL] [] [Aa,Aa,Ap] [] Ahz),pf qJ [Axt,Axu] [.tmp 2,.tmp 3,.tmp 4] Tryz.func280⟩
def AhA:En:=au [AwK] [JV,Aa,Aa] [] [Ap] [] [.tmp 6] Tryz.func338 (by kernel_rfl)
def Axw:En:=au [AwL] [Tf,(Yc,[.fn 143 []])] [] [Ap] [] [.tmp 4] Tryz.func142 (by kernel_rfl)
def Axx:En:=.hand (Fe mixed (X:=⟨look tab,gam [Ahc,m5],Yc,Yo,Yc,Yc,[],Ye,100000,[]⟩) AG [Ahc,m5] rfl (ps:=[AX,(Yc,[.fn 250 []])]) (is:=JW) (rs:=[AX]) (os:=JW) [.tmp 4] Tryz.func248 (by kernel_rfl)) rfl (by kernel_rfl)
def AhB:En:=au [Asm,Axw,kT] [Tf] [] [Aa] [] [.tmp 2] Tryz.func54 (by kernel_rfl)
abbrev Axy:={β:Type}->D0->(Yi->Yb β)->Yb β
def AhC:Ya En:=[AwV]
abbrev AhD(β:Type):=Yi->Yb β
abbrev AhE(β:Type):=Unit->Yb β
abbrev qM(β:Type):=Yi->D0->Yi->Yi->Yb β
def AhF:Pc:=⟨25,0,AS 122 (AA Tryz.f65),⟨0,[3,10,11,12],[Aa,Nk,Aa,Aa],[]⟩,[(.ret,⟨0,[2],[Aa],[]⟩),(.exit 0,⟨0,[],[],[]⟩)]⟩
def TX{β:Type}(rec:qM β)(k1:AhD β)(k2:AhE β):qM β:=λlast AT Bu ED=>Yr (Yf (ED<Bu)) (Yr (Yf (0<=ED)&&Yf (ED<(Yg AT:Yi))) (let e:=Yn AT (Yj ED) (0,(0,(0,(0,([]:Ya BA)))));Z3 e last (λrcheckSilence=>Yr (!Yf (rcheckSilence=0)) (k1 rcheckSilence) (rec e.1 AT Bu (Yh.wrap (ED+(1:Yi)))))) Ye) (k2 ())
def Z9(m:Yk){β:Type}(k1:AhD β)(k2:AhE β):qM β:=Gp (λr=>TX r k1 k2) Ye m
theorem qN{β:Type}(i:Yk)(k1 k2):Z9 (β:=β) (i+1) k1 k2=TX (Z9 i k1 k2) k1 k2:=rfl
def ZA{β:Type}:=hid (Z9 (β:=β) fuel)
def Axz:Pb:=⟨122,AhF,λ_=>ZA,pl (p:=AhF) AhC [] (g:=λi _=>Z9 i)⟩
def OC:Axy:=hid λl k=>Yr (Yf ((24:Yi)<(Yg l:Yi))) (k 5) (ZA (λt2=>k t2) (λ_=>k 0) 0 l (Yg l:Yi) 0)
def AhG:En:=⟨65,.spec (sg [Nk] [] [Aa] [] OC),pf AhC [Axz] [.tmp 2] Tryz.func65⟩
abbrev AxA:={β:Type}->IP->(Yi->Yb β)->Yb β
def AhH:Ya En:=[Ax7]
abbrev qO(β:Type):=Yi->Yb β
abbrev qP(β:Type):=IP->Yb β
abbrev qQ(β:Type):=IP->IP->Yi->Yi->Yb β
def AhI:Pc:=⟨34,0,AS 58 (AA Tryz.f77),⟨0,[0,14,15,16],[Lp,Lp,Aa,Aa],[]⟩,[(.ret,⟨0,[2],[Aa],[]⟩),(.exit 1,⟨0,[0],[Lp],[]⟩)]⟩
def qR{β:Type}(rec:qQ β)(k1:qO β)(k2:qP β):qQ β:=λl CC Ca Dm=>Yr (Yf (Dm<Ca)) (Yr (Yf (0<=Dm)&&Yf (Dm<(Yg CC:Yi))) (let e:=Yn CC (Yj Dm) (0,(([]:Ya BA),(0,(([]:Ya Ar),(0,(0,(0,Yc)))))));Z6 e Dm (λrcheck=>Yr (!Yf (rcheck=0)) (k1 rcheck) (rec l CC Ca (Yh.wrap (Dm+(1:Yi)))))) Ye) (k2 l)
def TY(m:Yk){β:Type}(k1:qO β)(k2:qP β):qQ β:=Gp (λr=>qR r k1 k2) Ye m
theorem AxB{β:Type}(i:Yk)(k1 k2):TY (β:=β) (i+1) k1 k2=qR (TY i k1 k2) k1 k2:=rfl
def qS{β:Type}:=hid (TY (β:=β) fuel)
def AxC:Pb:=⟨58,AhI,λ_=>qS,pl (p:=AhI) AhH [] (g:=λi _=>TY i)⟩
def QY:AxA:=hid λl k=>let t:=(Yf ((Yg l:Yi)=(0:Yi)));Yr t (k 7) (let t2:=(Yf ((24:Yi)<(Yg l:Yi)));Yr t2 (k 5) (qS (λt22=>k t22) (λl2=>Yr (Yf (0<=(0:Yi))&&Yf ((0:Yi)<(Yg l2:Yi))) (let e:=Yn l2 (Yj 0) (0,(([]:Ya BA),(0,(([]:Ya Ar),(0,(0,(0,Yc)))))));Yr (Yf ((0:Yi)<(Yg e.2.1:Yi))) (k 8) (k 0)) Ye) l l (Yg l:Yi) 0))
def qT:En:=⟨77,.spec (sg [Lp] [] [Aa] [] QY),pf AhH [AxC] [.tmp 2] Tryz.func77⟩
abbrev AxD:={β:Type}->AU->(Ys->Yb β)->Yb β
def Nv:AxD:=hid λr_ k=>let l:=([((-1),(([]:Ya BA),r_.2.2))]:Ya AU);QY l (λNM=>let t:=(Yf (NM=0));k t)
def qU:En:=⟨85,.spec (sg [Nm] [] [Ap] [] Nv),pf [qT] [] [.tmp 2] Tryz.func85⟩
abbrev AxE:={β:Type}->HQ->(Ar->Yi->Yb β)->Yb β
def AhJ:Ya En:=[Ax9,Zz,Aep]
abbrev AhK(β:Type):=Ar->Yi->Yb β
abbrev AhL(β:Type):=BF->Yb β
abbrev qW(β:Type):=Hq->Yi->Yi->BF->Yb β
def AhM:Pc:=⟨39,0,AS 122 (AA Tryz.f127),⟨0,[4,15,16,17],[AX,EV,Aa,Aa],[.row 9 .str]⟩,[(.ret,⟨0,[2,3],[AL,Aa],[]⟩),(.exit 0,⟨0,[4],[AX],[.row 9 .str]⟩)]⟩
def AhN{β:Type}(rec:qW β)(k1:AhK β)(k2:AhL β):qW β:=λCa Dm Gh words=>Yr (Yf (Gh<Dm)) (Yr (Yf (0<=Gh)&&Yf (Gh<(Yg Ca:Yi))) (let e:=Yn Ca (Yj Gh) (0,(([]:Ya Yl),0));Ahp e (λKT AFL=>Yr (!Yf (AFL=(0:Yi))) (k1 ([]:Ya Yl) 8) (let l:=([KT]:Ya Ar);Yr (Yf ((Yg words+Yg l)*16<=Cn)) (let l2:=(words++l);rec Ca Dm (Yh.wrap (Gh+(1:Yi))) l2) Ye))) Ye) (k2 words)
def ZB(m:Yk){β:Type}(k1:AhK β)(k2:AhL β):qW β:=Gp (λr=>AhN r k1 k2) Ye m
theorem AGm{β:Type}(i:Yk)(k1 k2):ZB (β:=β) (i+1) k1 k2=AhN (ZB i k1 k2) k1 k2:=rfl
def AhO{β:Type}:=hid (ZB (β:=β) fuel)
def AxF:Pb:=⟨122,AhM,λ_=>AhO,pl (p:=AhM) AhJ [] (g:=λi _=>ZB i)⟩
def AhP:AxE:=hid λs k=>pX s.2 (λyH=>Yr (!yH) (k ([]:Ya Yl) 8) (AhO (λt2 t3=>k t2 t3) (λwords=>Yr (Yf (Yg words<=140737488355328)&&Yf (Yg (Ya2 words ([32]:Ya Yl))<=140737488355328)) (let out:=(Ya2 words ([32]:Ya Yl));Yr (Yf ((512:Yi)<(Yg out:Yi))) (k ([]:Ya Yl) 5) (k out 0)) Ye) s.2 (Yg s.2:Yi) 0 ([]:Ya Ar)))
def AxG:En:=⟨127,.spec (sg [(Yo,[.data (.prod (.int .i64) (.slice FZ))])] [] [AL,Aa] [] AhP),pf AhJ [AxF] [.tmp 2,.tmp 3] Tryz.func127⟩
def ZC:En:=au [AeC,Ahd] [Jq,K3,Aa] [] [Aa,Ap] [] [.tmp 6,.tmp 7] Tryz.func137 (by kernel_rfl)
abbrev AxH:={β:Type}->Oy->(Yi->Yb β)->Yb β
def AhQ:Ya En:=[Axk]
abbrev AhR(β:Type):=Yi->Yb β
abbrev AhS(β:Type):=Unit->Yb β
abbrev qX(β:Type):=Oy->Yi->Yi->Yb β
def AhT:Pc:=⟨21,0,AS 58 (AA Tryz.f150),⟨0,[9,10,11],[Tg,Aa,Aa],[]⟩,[(.ret,⟨0,[2],[Aa],[]⟩),(.exit 0,⟨0,[],[],[]⟩)]⟩
def qY{β:Type}(rec:qX β)(k1:AhR β)(k2:AhS β):qX β:=λt9 AT Bu=>Yr (Yf (Bu<AT)) (Yr (Yf (0<=Bu)&&Yf (Bu<(Yg t9:Yi))) (let e:=Yn t9 (Yj Bu) (([]:Ya BA),(([]:Ya BA),([]:Ya Ar)));Ahu e (λrcheckInhibit=>Yr (!Yf (rcheckInhibit=0)) (k1 rcheckInhibit) (rec t9 AT (Yh.wrap (Bu+(1:Yi)))))) Ye) (k2 ())
def ZD(m:Yk){β:Type}(k1:AhR β)(k2:AhS β):qX β:=HT (λr=>qY r k1 k2) Ye m
theorem AxI{β:Type}(i:Yk)(k1 k2):ZD (β:=β) (i+1) k1 k2=qY (ZD i k1 k2) k1 k2:=rfl
def qZ{β:Type}:=hid (ZD (β:=β) fuel)
def AxJ:Pb:=⟨58,AhT,λ_=>qZ,pl (p:=AhT) AhQ [] (g:=λi _=>ZD i)⟩
def r5:AxH:=hid λl k=>Yr (Yf ((12:Yi)<(Yg l:Yi))) (k 5) (qZ (λt2=>k t2) (λ_=>k 0) l (Yg l:Yi) 0)
def AxK:En:=⟨150,.spec (sg [Tg] [] [Aa] [] r5),pf AhQ [AxJ] [.tmp 2] Tryz.func150⟩
abbrev AxL:={β:Type}->Ar->(GW->Yi->Yb β)->Yb β
def AhU:AxL:=hid λword k=>Yr (Yf (word=([]:Ya Yl))) (k Acp 2) (Ahz word (λrform rform2 rform3=>Yr (!rform3) (k Acp 2) (let t:=(Yf (rform=0));Yr t (k (rform,(word,0)) 0) (k (rform,(([]:Ya Yl),rform2)) 0))))
def AxM:En:=⟨184,.spec (sg [AL] [] [IT,Aa] [] AhU),pf [Axv] [] [.cell 2 220,.tmp 3] Tryz.func184⟩
def AhV:En:=au [ZC,AeC,Aha] [Jq,K3,Aa] [] [Aa] [] [.tmp 6] Tryz.func385 (by kernel_rfl)
def AxN:En:=au [AhV,Agm,AtR,AtS,Aha] [Iu,K3,Aa] [] [Aa,Ap] [] [.tmp 6,.tmp 7] Tryz.func408 (by kernel_rfl)
abbrev AxO:={β:Type}->It->BQ->(Yi->BQ->Yb β)->Yb β
def AhW:Ya En:=[Axm]
abbrev AhX(β:Type):=Yi->BQ->Yb β
abbrev AhY(β:Type):=BQ->Yb β
abbrev r6(β:Type):=It->Yi->Yi->BQ->Yb β
def AhZ:Pc:=⟨19,1,AS 26 (AA Tryz.f339),⟨1,[0,1,7,8],[JU,(Yc,[.fn 263 [0]]),Aa,Aa],[Mj]⟩,[(.ret,⟨1,[4],[Aa],[Mj]⟩),(.exit 0,⟨1,[],[],[Mj]⟩)]⟩
def QZ{β:Type}(rec:r6 β)(k1:AhX β)(k2:AhY β):r6 β:=λs t7 t8 EL=>Yr (Yf (t8<t7)) (Yr (Yf (0<=t8)&&Yf (t8<(Yg s:Yi))) (let e:=Yn s (Yj t8) (([]:Ya Yl),(0,([]:Ya Yl)));Z8 e EL (λAFf Am9=>Yr AFf (k1 t8 Am9) (rec s t7 (Yh.wrap (t8+(1:Yi))) Am9))) Ye) (k2 EL)
def TZ(m:Yk){β:Type}(k1:AhX β)(k2:AhY β):r6 β:=Gp (λr=>QZ r k1 k2) Ye m
theorem ZE{β:Type}(i:Yk)(k1 k2):TZ (β:=β) (i+1) k1 k2=QZ (TZ i k1 k2) k1 k2:=rfl
def ZF{β:Type}:=hid (TZ (β:=β) fuel)
def AxP:Pb:=⟨26,AhZ,λ_=>ZF,pl (p:=AhZ) AhW [] (g:=λi _=>TZ i)⟩
def ZG:AxO:=hid λs EL k=>ZF (λt4 Ly=>k t4 Ly) (λLy=>k (-1) Ly) s (Yg s:Yi) 0 EL
def AxQ:En:=⟨339,.spec (sg [JU,(Yc,[.fn 263 [0]])] [Mj] [Aa] [Mj] ZG),pf AhW [AxP] [.tmp 4] Tryz.func339⟩
abbrev AxR:={β:Type}->D0->CW->(Yi->D0->Yb β)->Yb β
def r7:AxR:=hid λl s k=>QN l (λFa=>let l2:=([s]:Ya CW);QN l2 (λAm1=>Yr (Yf ((Yg Fa+Yg Am1)*56<=Cn)) (let l3:=(Fa++Am1);OC l3 (λcT=>Yr (!Yf (cT=0)) (k cT ([]:Ya CW)) (k 0 l3))) Ye))
def AxS:En:=⟨29,.spec (sg [Nk,(Yo,[.data Fg])] [] [AX,Aa] Tm r7),pf [AhG,Afp] [] [.tmp 4,.tmp 5] Tryz.func29⟩
abbrev AxT:={β:Type}->(Ya HQ)->(Ar->Yi->Yb β)->Yb β
def Ai0:Ya En:=[AxG,Asf,XM,Asb]
abbrev Ai1(β:Type):=Ar->Yi->Yb β
abbrev Ai2(β:Type):=Ga->Yb β
abbrev r8(β:Type):=(Ya HQ)->Yi->Yi->Ga->Yb β
def Ai3:Pc:=⟨30,0,AS 58 (AA Tryz.f49),⟨0,[4,9,10,11],[AF,Xu,Aa,Aa],[.cells 258 [.bself 0,.rowh 1],.row 5 (.int .u8)]⟩,[(.ret,⟨0,[2,3],[AL,Aa],[]⟩),(.exit 0,⟨0,[4],[AF],[.cells 258 [.bself 0,.rowh 1],.row 5 (.int .u8)]⟩)]⟩
def Ai4{β:Type}(rec:r8 β)(k1:Ai1 β)(k2:Ai2 β):r8 β:=λt9 AT Bu D5=>Yr (Yf (Bu<AT)) (Yr (Yf (0<=Bu)&&Yf (Bu<(Yg t9:Yi))) (let e:=Yn t9 (Yj Bu) (0,([]:Ya GW));AhP e (λrwritten rwritten2=>Yr (!Yf (rwritten2=(0:Yi))) (k1 ([]:Ya Yl) rwritten2) (Yr (Yf (Yg rwritten+Yg ([10]:Ya Yl)<=9223372036854775807)) (Yr (Yf (Yg D5+Yg (rwritten++([10]:Ya Yl))<=140737488355328)) (let l:=(D5++Im (rwritten++([10]:Ya Yl)));rec t9 AT (Yh.wrap (Bu+(1:Yi))) l) Ye) Ye))) Ye) (k2 D5)
def ZH(m:Yk){β:Type}(k1:Ai1 β)(k2:Ai2 β):r8 β:=Gp (λr=>Ai4 r k1 k2) Ye m
theorem AGn{β:Type}(i:Yk)(k1 k2):ZH (β:=β) (i+1) k1 k2=Ai4 (ZH i k1 k2) k1 k2:=rfl
def Ai5{β:Type}:=hid (ZH (β:=β) fuel)
def AxU:Pb:=⟨58,Ai3,λ_=>Ai5,pl (p:=Ai3) Ai0 [] (g:=λi _=>ZH i)⟩
def AxV:AxT:=hid λl k=>Ai5 (λt2 t3=>k t2 t3) (λD5=>Yr (Yf ((65536:Yi)<(Yg D5:Yi))) (k ([]:Ya Yl) 5) (Yr (Sx D5) (k (JN D5) 0) Ye)) l (Yg l:Yi) 0 ([]:Ya Yi)
def AxW:En:=⟨49,.spec (sg [Xu] [] [AL,Aa] [] AxV),pf Ai0 [AxU] [.tmp 2,.tmp 3] Tryz.func49⟩
def AxX:En:=au [AuB,Aeh,ZC,Ahd] [Iu,JV] [] [Aa] [] [.tmp 4] Tryz.func51 (by kernel_rfl)
abbrev AxY:={β:Type}->Ax->(Yi->Yb β)->Yb β
def ZI:AxY:=hid λr_ k=>QY r_.1 (λNM=>Yr (!Yf (NM=0)) (k NM) (r5 r_.2.1 (λAmg=>Yr (!Yf (Amg=0)) (k Amg) (Yr (Yf (r_.2.2<(0:Yi))) (k 1) (Yr (Yf ((604800:Yi)<r_.2.2)) (k 1) (k 0))))))
def AxZ:En:=⟨64,.spec (sg [Nl] [] [Aa] [] ZI),pf [AxK,qT] [] [.tmp 2] Tryz.func64⟩
abbrev Ay0:={β:Type}->Ag->AU->Yi->Yi->(Ag->Yi->Yb β)->Yb β
def ZJ:Ya En:=[Zc,Zw,lQ,Age,Ae8,T0,qU]
abbrev Ai6(β:Type):=Ag->Yi->Ar->Yi->Yi->Dr->Yb β
abbrev r9(β:Type):=Yi->Yi->Dr->Yi->Yi->AU->Ag->Yi->Ar->Yi->Yi->Dr->Yb β
def Ai7:Pc:=⟨75,0,AS 250 (AA Tryz.f95),⟨0,[2,3,5,8,10,41,42,43],[Aa,Aa,AF,BJ,CX,Gn,Aa,Aa],[HR,CE,AcA,.row 177 EI]⟩,[(.exit 1,⟨0,[8,10],[AF,BJ],[CE,Td,.row 177 EI]⟩)]⟩
abbrev Ay1(β:Type):=Yi->Yi->Ar->Yi->Yi->Dr->Yb β
abbrev Ay2(β:Type):=Yi->Yi->Ag->AU->Ag->Yb β
def Ai8:Pc:=⟨75,0,AS 7 (AA Tryz.f95),⟨0,[2,3,4,5,8],[Aa,Aa,AF,BJ,CX],[CE,HR,CE]⟩,[(.ret,⟨0,[8,9],[AF,Aa],[.cells 111 [.data (.int .i64),.data .str,.rowh 1,.data (.int .i64),.data (.int .i64)],.row 177 EI]⟩)]⟩
abbrev Ay3(β:Type):=Yi->Ag->Yb β
abbrev Ay4(β:Type):=Yi->Yi->Ag->AU->Ag->Yb β
abbrev Ay5(β:Type):=Yi->Yi->Ys->Ag->AU->Ag->Yb β
def Ai9:Pc:=⟨75,0,AS 25 (AA Tryz.f95),⟨0,[2,3,4,5,8,15],[Aa,Aa,AF,BJ,CX,Ap],[CE,HR,CE]⟩,[(.ret,⟨0,[8,9],[AF,Aa],[CE]⟩),(.normal,⟨0,[2,3,4,5,8],[Aa,Aa,AF,BJ,CX],[CE,HR,CE]⟩)]⟩
def Aia{β:Type}(rec:r9 β)(k1:Ai6 β):r9 β:=λt after GI Ih GJ r_ t8 out out2 out3 out4 Cd=>
 Yr (Yf (GJ<Ih))
 (Yr (Yf (0<=GJ)&&Yf (GJ<(Yg GI:Yi)))
 (let e:=Yn GI (Yj GJ) (([]:Ya Yl),(([]:Ya Al),(0,(0,(Yc,Yc)))));
 TO (out,(out2,(Cd,(out3,out4)))) e.1 (λrfind rfind2=>
 Yr rfind2
 (Yr e.2.2.2.2.1
 (Yr (Yf (e.2.2.2.1<=(Yh.wrap (t-after))))
 (Yr (Yf (0<=rfind)&&Yf (rfind<(Yg Cd:Yi)))
 (let t2:=(((((((Yn Cd (Yj rfind) (([]:Ya Yl),(([]:Ya Al),(0,(0,(Yc,Yc)))))).2).2).2).2).1)==Yc);
 Yr t2
 (Gb (out,(out2,(Cd,(out3,out4)))) (λD2=>
 Yr D2
 (rec t after GI Ih (Yh.wrap (GJ+(1:Yi))) r_ t8 out out2 (-1) out4 Cd)
 (rec t after GI Ih (Yh.wrap (GJ+(1:Yi))) r_ t8 out out2 out3 out4 Cd)))
 (let t3:=(!((((((Yn Cd (Yj rfind) (([]:Ya Yl),(([]:Ya Al),(0,(0,(Yc,Yc)))))).2).2).2).2).2));
 Yr t3
 (Yr (Yf ((0:Yi)<=rfind)&&(Yf (rfind<(Yg Cd:Yi))&&Yf ((Yh.wrap (rfind+1))=rfind+1)))
 (let l:=(delL Cd (Yj rfind));
 Gb (out,(out2,(l,(out3,out4)))) (λD2=>
 Yr D2
 (rec t after GI Ih (Yh.wrap (GJ+(1:Yi))) r_ t8 out out2 (-1) out4 l)
 (rec t after GI Ih (Yh.wrap (GJ+(1:Yi))) r_ t8 out out2 out3 out4 l)))
 Ye)
 (let l:=(YG Cd (Yj rfind) ((Yn Cd (Yj rfind) (([]:Ya Yl),(([]:Ya Al),(0,(0,(Yc,Yc)))))).1,(((Yn Cd (Yj rfind) (([]:Ya Yl),(([]:Ya Al),(0,(0,(Yc,Yc)))))).2).1,((((Yn Cd (Yj rfind) (([]:Ya Yl),(([]:Ya Al),(0,(0,(Yc,Yc)))))).2).2).1,(((((Yn Cd (Yj rfind) (([]:Ya Yl),(([]:Ya Al),(0,(0,(Yc,Yc)))))).2).2).2).1,(Yc,(((((Yn Cd (Yj rfind) (([]:Ya Yl),(([]:Ya Al),(0,(0,(Yc,Yc)))))).2).2).2).2).2))))));
 let l2:=(YG l (Yj rfind) ((Yn l (Yj rfind) (([]:Ya Yl),(([]:Ya Al),(0,(0,(Yc,Yc)))))).1,(((Yn l (Yj rfind) (([]:Ya Yl),(([]:Ya Al),(0,(0,(Yc,Yc)))))).2).1,((((Yn l (Yj rfind) (([]:Ya Yl),(([]:Ya Al),(0,(0,(Yc,Yc)))))).2).2).1,(((((Yn l (Yj rfind) (([]:Ya Yl),(([]:Ya Al),(0,(0,(Yc,Yc)))))).2).2).2).1,((((((Yn l (Yj rfind) (([]:Ya Yl),(([]:Ya Al),(0,(0,(Yc,Yc)))))).2).2).2).2).1,Yc))))));
 let l3:=(YG l2 (Yj rfind) ((Yn l2 (Yj rfind) (([]:Ya Yl),(([]:Ya Al),(0,(0,(Yc,Yc)))))).1,(((Yn l2 (Yj rfind) (([]:Ya Yl),(([]:Ya Al),(0,(0,(Yc,Yc)))))).2).1,(t,((((Yn l2 (Yj rfind) (([]:Ya Yl),(([]:Ya Al),(0,(0,(Yc,Yc)))))).2).2).2)))));
 let due:=(Yh.wrap (t+r_.2.2.2.2.1));
 Yr (!Yf (out4=(-1:Yi)))
 (let due2:=(if(Yh.wrap (out4+r_.2.2.2.2.2.1))>t then(Yh.wrap (out4+r_.2.2.2.2.2.1))else t);
 Yr (!Yf (out3=(-1:Yi)))
 (let due3:=(if out3<due2 then out3 else due2);
 Gq due3 (λrlimited=>
 Gb (out,(out2,(l3,(rlimited,out4)))) (λD2=>
 Yr D2
 (rec t after GI Ih (Yh.wrap (GJ+(1:Yi))) r_ t8 out out2 (-1) out4 l3)
 (rec t after GI Ih (Yh.wrap (GJ+(1:Yi))) r_ t8 out out2 rlimited out4 l3))))
 (Gq due2 (λrlimited=>
 Gb (out,(out2,(l3,(rlimited,out4)))) (λD2=>
 Yr D2
 (rec t after GI Ih (Yh.wrap (GJ+(1:Yi))) r_ t8 out out2 (-1) out4 l3)
 (rec t after GI Ih (Yh.wrap (GJ+(1:Yi))) r_ t8 out out2 rlimited out4 l3)))))
 (Yr (!Yf (out3=(-1:Yi)))
 (let due2:=(if out3<due then out3 else due);
 Gq due2 (λrlimited=>
 Gb (out,(out2,(l3,(rlimited,out4)))) (λD2=>
 Yr D2
 (rec t after GI Ih (Yh.wrap (GJ+(1:Yi))) r_ t8 out out2 (-1) out4 l3)
 (rec t after GI Ih (Yh.wrap (GJ+(1:Yi))) r_ t8 out out2 rlimited out4 l3))))
 (Gq due (λrlimited=>
 Gb (out,(out2,(l3,(rlimited,out4)))) (λD2=>
 Yr D2
 (rec t after GI Ih (Yh.wrap (GJ+(1:Yi))) r_ t8 out out2 (-1) out4 l3)
 (rec t after GI Ih (Yh.wrap (GJ+(1:Yi))) r_ t8 out out2 rlimited out4 l3))))))))
 Ye)
 (rec t after GI Ih (Yh.wrap (GJ+(1:Yi))) r_ t8 out out2 out3 out4 Cd))
 (rec t after GI Ih (Yh.wrap (GJ+(1:Yi))) r_ t8 out out2 out3 out4 Cd))
 (rec t after GI Ih (Yh.wrap (GJ+(1:Yi))) r_ t8 out out2 out3 out4 Cd)))
 Ye)
 (k1 t8 out out2 out3 out4 Cd)
def ZK(m:Yk){β:Type}(k1:Ai6 β):r9 β:=AcI (λr=>Aia r k1) Ye m
theorem AGo{β:Type}(i:Yk)(k1):ZK (β:=β) (i+1) k1=Aia (ZK i k1) k1:=rfl
def Aib{β:Type}:=hid (ZK (β:=β) fuel)
def Ay6:Pb:=⟨250,Ai7,λ_=>Aib,pl (p:=Ai7) ZJ [] (g:=λi _=>ZK i)⟩
def rA{β:Type}(k1:Ay1 β):Ay2 β:=λt after g r_ t8=>O9 g (λD7 D8 EC Dx Fa=>Yr (Yf (after=0)) (k1 0 D7 D8 EC Dx Fa) (Aib (λDn out out2 out3 out4 BL=>k1 0 out out2 out3 out4 BL) t after g.2.2.1 (Yg g.2.2.1:Yi) 0 r_ t8 D7 D8 EC Dx Fa))
def ZL{β:Type}:=hid (rA (β:=β))
def Ay7:Pb:=⟨7,Ai8,λ_=>ZL,pe (p:=Ai8) ZJ [Ay6] 7 (g:=λ_=>rA)⟩
def rB{β:Type}(k1:Ay3 β)(k2:Ay4 β):Ay5 β:=λt after Ca g r_ t8=>Yr Ca (k1 8 HP) (K5 t 0 8589934592 (λJC=>Yr (!JC) (k1 1 HP) (K5 after 0 604800 (λVH=>Yr (!VH) (k1 1 HP) (k2 t after g r_ t8)))))
def Ua{β:Type}:=hid (rB (β:=β))
def Ay8:Pb:=⟨25,Ai9,λ_=>Ua,pe (p:=Ai9) ZJ [] 25 (g:=λ_=>rB)⟩
def ZM:Ay0:=hid λg r_ t after k=>Lr g (λFF=>Yr (!FF) (Ua (λt9 t8=>k t8 t9) (λt2 after2 g2 Bz t8=>ZL (λt9 Dn Dy Dz t85 D5=>k (Dn,(Dy,(D5,(Dz,t85)))) t9) t2 after2 g2 Bz t8) t after Yo g r_ HP) (Nv r_ (λVK=>Ua (λt9 t8=>k t8 t9) (λt2 after2 g2 Bz t8=>ZL (λt9 Dn Dy Dz t85 D5=>k (Dn,(Dy,(D5,(Dz,t85)))) t9) t2 after2 g2 Bz t8) t after (!VK) g r_ HP)))
def Ay9:En:=⟨95,.spec (sg [HS,Nm,Aa,Aa] [] [HS,Aa] [] ZM),pf ZJ [Ay7,Ay8] [.cell 8 111,.tmp 9] Tryz.func95⟩
abbrev Aya:={β:Type}->Ar->(Yi->Hq->Yb β)->Yb β
def rC:Ya En:=[AxM,AsP,Aev]
abbrev Aic(β:Type):=Yi->Hq->Yb β
abbrev Aid(β:Type):=Ar->Yb β
abbrev rD(β:Type):=Ar->Yi->Yi->Yb β
def Aie:Pc:=⟨56,0,AS 58 (AA Tryz.f102),⟨0,[0,14,15],[AL,Aa,Aa],[]⟩,[(.ret,⟨0,[2,3],[AX,Aa],[.row 220 FZ]⟩),(.exit 0,⟨0,[0],[AL],[]⟩)]⟩
abbrev Aif(β:Type):=Yi->Hq->Yb β
abbrev Aig(β:Type):=Hq->Yb β
abbrev rE(β:Type):=Yi->Yi->Hq->BF->Yb β
def Aih:Pc:=⟨56,0,AS 506 (AA Tryz.f102),⟨0,[5,36,37,38],[AX,EK,Aa,Aa],[.row 220 FZ,.row 9 .str]⟩,[(.ret,⟨0,[2,3],[AX,Aa],[.row 220 FZ]⟩),(.exit 2,⟨0,[5],[AX],[.row 220 FZ]⟩)]⟩
def Aii{β:Type}(rec:rD β)(k1:Aic β)(k2:Aid β):rD β:=λtext CC Ca=>Yr (Yf (Ca<CC)) (Yr (Yf (0<=Ca)&&Yf (Ca<(Yg text:Yi))) (Yr (Yf (((Yn text (Yj Ca) 0).toNat:Yi)<(32:Yi))) (k1 2 ([]:Ya GW)) (Yr (Yf (0<=Ca)&&Yf (Ca<(Yg text:Yi))) (Yr (Yf ((126:Yi)<((Yn text (Yj Ca) 0).toNat:Yi))) (k1 2 ([]:Ya GW)) (rec text CC (Yh.wrap (Ca+(1:Yi))))) Ye)) Ye) (k2 text)
def ZN(m:Yk){β:Type}(k1:Aic β)(k2:Aid β):rD β:=HT (λr=>Aii r k1 k2) Ye m
theorem AGp{β:Type}(i:Yk)(k1 k2):ZN (β:=β) (i+1) k1 k2=Aii (ZN i k1 k2) k1 k2:=rfl
def Aij{β:Type}:=hid (ZN (β:=β) fuel)
def Ayb:Pb:=⟨58,Aie,λ_=>Aij,pl (p:=Aie) rC [] (g:=λi _=>ZN i)⟩
def Aik{β:Type}(rec:rE β)(k1:Aif β)(k2:Aig β):rE β:=λt37 VO out yX=>Yr (Yf (VO<t37)) (Yr (Yf (0<=VO)&&Yf (VO<(Yg yX:Yi))) (let w:=(Yn yX (Yj VO) ([]:Ya Yl));AhU w (λAFO Amj=>Yr (!Yf (Amj=(0:Yi))) (k1 Amj ([]:Ya GW)) (let l:=([AFO]:Ya GW);Yr (Yf ((Yg out+Yg l)*32<=Cn)) (let l2:=(out++l);rec t37 (Yh.wrap (VO+(1:Yi))) l2 yX) Ye))) Ye) (k2 out)
def ZO(m:Yk){β:Type}(k1:Aif β)(k2:Aig β):rE β:=Gp (λr=>Aik r k1 k2) Ye m
theorem AGq{β:Type}(i:Yk)(k1 k2):ZO (β:=β) (i+1) k1 k2=Aik (ZO i k1 k2) k1 k2:=rfl
def Ail{β:Type}:=hid (ZO (β:=β) fuel)
def Ayc:Pb:=⟨506,Aih,λ_=>Ail,pl (p:=Aih) rC [] (g:=λi _=>ZO i)⟩
def Aim:Aya:=hid λtext k=>Yr (Yf ((512:Yi)<(Yg text:Yi))) (k 5 ([]:Ya GW)) (Aij (λt3 t2=>k t3 t2) (λtext2=>Aes text2 ([35]:Ya Yl) (λAFk AGG AGH=>lZ AFk (λcO=>Ail (λt3 t2=>k t3 t2) (λout=>k 0 out) (Yg cO:Yi) 0 ([]:Ya GW) cO))) text (Yg text:Yi) 0)
def Ayd:En:=⟨102,.spec (sg [AL] [] [AX,Aa] [.row 220 FZ] Aim),pf rC [Ayb,Ayc] [.tmp 2,.tmp 3] Tryz.func102⟩
def Ain:En:=au [AxN] [Iu,K3,Aa] [] [Aa] [] [.tmp 6] Tryz.func337 (by kernel_rfl)
abbrev Aye:={β:Type}->It->BQ->(Ys->BQ->Yb β)->Yb β
def ZP:Aye:=hid λs EL k=>ZG s EL (λI6 cQ=>let t:=(Yf ((0:Yi)<=I6));k t cQ)
def Ayf:En:=⟨258,.spec (sg [JU,(Yc,[.fn 263 [0]])] [Mj] [Ap] [Mj] ZP),pf [AxQ] [] [.tmp 4] Tryz.func258⟩
def Ayg:En:=⟨175,.abs (iR 177 (.prod (.slice Ei) (.prod (.int .i64) (.prod (.int .i64) (.prod .bool .bool)))) 5 176 (λ{β}=>Nu (β:=β))),AoI (by rw[show Ty.size (.prod .str (.prod (.slice Ei) (.prod (.int .i64) (.prod (.int .i64) (.prod .bool .bool)))))=6 from by kernel_rfl];exact Ap3) (by rw[show Ty.size (.prod .str (.prod (.slice Ei) (.prod (.int .i64) (.prod (.int .i64) (.prod .bool .bool)))))=6 from by kernel_rfl];exact Ap7) Ze.ok (Go.Proofs.enters_of Tryz.func176 (by kernel_rfl) rfl) ⟨_,Tryz.func175,by kernel_rfl,by kernel_rfl⟩⟩
def Ayh:Shelf.Ren:=
   {
   f:=λx=>
    match x with
    |6=>251
    |15=>271
    |14=>334
    |28=>354
    |29=>355
    |20=>392
    |21=>393
    |22=>394
    |23=>395
    |24=>396
    |25=>397
    |26=>398
    |27=>399
    |46=>452
    |47=>414
    |48=>415
    |49=>453
    |50=>454
    |57=>482
    |n=>n,
   t:=λx=>
    match x with
    |22=>161
    |24=>284
    |25=>374
    |3=>3
    |39=>302
    |0=>0
    |53=>467
    |55=>469
    |4=>4
    |46=>461
    |45=>460
    |50=>106
    |5=>5
    |9=>9
    |66=>514
    |70=>518
    |76=>563
    |77=>376
    |n=>n,
   g:=λx=>x}
theorem Ayi:Go.Proofs.SlLaysF0.n6 Tryz.prog Ayh:=
 {
  mixed:=by kernel_rfl,
  f6:=Y3 "slices.SortFunc[[]pagewatch/api.Span,pagewatch/api.Span]" ⟨AC (by kernel_rfl),Eq.trans Tryz.func251 (Ai Yd (by kernel_rfl))⟩,
  f14:=Y3 "slices.pdqsortCmpFunc[pagewatch/api.Span]" ⟨AC (by kernel_rfl),Eq.trans Tryz.func334 (Ai Yd (by kernel_rfl))⟩,
  f15:=Eq.trans Tryz.func271 (Ai Yd (by kernel_rfl)),
  f20:=Y3 "slices.insertionSortCmpFunc[pagewatch/api.Span]" ⟨AC (by kernel_rfl),Eq.trans Tryz.func392 (Ai Yd (by kernel_rfl))⟩,
  f21:=Y3 "slices.heapSortCmpFunc[pagewatch/api.Span]" ⟨AC (by kernel_rfl),Eq.trans Tryz.func393 (Ai Yd (by kernel_rfl))⟩,
  f22:=Y3 "slices.breakPatternsCmpFunc[pagewatch/api.Span]" ⟨AC (by kernel_rfl),Eq.trans Tryz.func394 (Ai Yd (by kernel_rfl))⟩,
  f23:=Y3 "slices.choosePivotCmpFunc[pagewatch/api.Span]" ⟨AC (by kernel_rfl),Eq.trans Tryz.func395 (Ai Yd (by kernel_rfl))⟩,
  f24:=Y3 "slices.reverseRangeCmpFunc[pagewatch/api.Span]" ⟨AC (by kernel_rfl),Eq.trans Tryz.func396 (Ai Yd (by kernel_rfl))⟩,
  f25:=Y3 "slices.partialInsertionSortCmpFunc[pagewatch/api.Span]" ⟨AC (by kernel_rfl),Eq.trans Tryz.func397 (Ai Yd (by kernel_rfl))⟩,
  f26:=Y3 "slices.partitionEqualCmpFunc[pagewatch/api.Span]" ⟨AC (by kernel_rfl),Eq.trans Tryz.func398 (Ai Yd (by kernel_rfl))⟩,
  f27:=Y3 "slices.partitionCmpFunc[pagewatch/api.Span]" ⟨AC (by kernel_rfl),Eq.trans Tryz.func399 (Ai Yd (by kernel_rfl))⟩,
  f28:=Eq.trans Tryz.func354 (Ai Yd (by kernel_rfl)),
  f29:=Eq.trans Tryz.func355 (Ai Yd (by kernel_rfl)),
  f46:=Y3 "slices.siftDownCmpFunc[pagewatch/api.Span]" ⟨AC (by kernel_rfl),Eq.trans Tryz.func452 (Ai Yd (by kernel_rfl))⟩,
  f47:=Eq.trans Tryz.func414 (Ai Yd (by kernel_rfl)),
  f48:=Eq.trans Tryz.func415 (Ai Yd (by kernel_rfl)),
  f49:=Y3 "slices.medianAdjacentCmpFunc[pagewatch/api.Span]" ⟨AC (by kernel_rfl),Eq.trans Tryz.func453 (Ai Yd (by kernel_rfl))⟩,
  f50:=Y3 "slices.medianCmpFunc[pagewatch/api.Span]" ⟨AC (by kernel_rfl),Eq.trans Tryz.func454 (Ai Yd (by kernel_rfl))⟩,
  f57:=Y3 "slices.order2CmpFunc[pagewatch/api.Span]" ⟨AC (by kernel_rfl),Eq.trans Tryz.func482 (Ai Yd (by kernel_rfl))⟩,
  t0:=Tryz.underlying0,
  a0:=Tryz.isAgg0,
  z0:=Tryz.sizeOf0,
  v0:=Tryz.zeroValue0,
  t3:=Tryz.underlying3,
  a3:=Tryz.isAgg3,
  z3:=Tryz.sizeOf3,
  v3:=Tryz.zeroValue3,
  t4:=Tryz.underlying4,
  a4:=Tryz.isAgg4,
  z4:=Tryz.sizeOf4,
  v4:=Tryz.zeroValue4,
  t5:=Tryz.underlying5,
  a5:=Tryz.isAgg5,
  z5:=Tryz.sizeOf5,
  v5:=Tryz.zeroValue5,
  t9:=Tryz.underlying9,
  a9:=Tryz.isAgg9,
  z9:=Tryz.sizeOf9,
  v9:=Tryz.zeroValue9,
  t22:=Tryz.underlying161,
  a22:=Tryz.isAgg161,
  z22:=Tryz.sizeOf161,
  v22:=Tryz.zeroValue161,
  t25:=Tryz.underlying374,
  a25:=Tryz.isAgg374,
  z25:=Tryz.sizeOf374,
  v25:=Tryz.zeroValue374,
  t39:=Tryz.underlying302,
  a39:=Tryz.isAgg302,
  z39:=Tryz.sizeOf302,
  v39:=Tryz.zeroValue302,
  t45:=Tryz.underlying460,
  a45:=Tryz.isAgg460,
  z45:=Tryz.sizeOf460,
  v45:=Tryz.zeroValue460,
  t46:=Tryz.underlying461,
  a46:=Tryz.isAgg461,
  z46:=Tryz.sizeOf461,
  v46:=Tryz.zeroValue461,
  t50:=Tryz.underlying106,
  a50:=Tryz.isAgg106,
  z50:=Tryz.sizeOf106,
  v50:=Tryz.zeroValue106,
  t53:=Tryz.underlying467,
  a53:=Tryz.isAgg467,
  z53:=Tryz.sizeOf467,
  v53:=Tryz.zeroValue467,
  t55:=Tryz.underlying469,
  a55:=Tryz.isAgg469,
  z55:=Tryz.sizeOf469,
  v55:=Tryz.zeroValue469,
  t66:=Tryz.underlying514,
  a66:=Tryz.isAgg514,
  z66:=Tryz.sizeOf514,
  v66:=Tryz.zeroValue514,
  t70:=Tryz.underlying518,
  a70:=Tryz.isAgg518,
  z70:=Tryz.sizeOf518,
  v70:=Tryz.zeroValue518,
  t76:=Tryz.underlying563,
  a76:=Tryz.isAgg563,
  z76:=Tryz.sizeOf563,
  v76:=Tryz.zeroValue563,
  t77:=Tryz.underlying376,
  a77:=Tryz.isAgg376,
  z77:=Tryz.sizeOf376,
  v77:=Tryz.zeroValue376}
def OD:DK->Ys:=λx=>decide (0<=x.1)&&Yf (x.1<=4611686018427387904)
def ZQ:DK->DK->Yi:=λx y=>x.1-y.1
def Ayj:Ya DK->Ya DK:=FY OD ((0,0):Yi×Yi) rfl ZQ
theorem Ayk(x y:Yi×Yi)(hx:OD x=Yo)(hy:OD y=Yo)(W:World):Calls Tryz.prog 252 #[.agg (encT (.prod (.int .i64) (.int .i64)) x).toArray,.agg (encT (.prod (.int .i64) (.int .i64)) y).toArray] W λe w'=>e=.returned (.int .i64 (ZQ x y))/\∃q os',w'=Go.Sort.grow (W.drewN q) os':=by
 obtain⟨a,b⟩:=x;obtain⟨c,d⟩:=y;simp only[OD,CO,HB]at hx hy;obtain⟨h1,h2⟩:=hx;obtain⟨h3,h4⟩:=hy;change Calls Tryz.prog 252 #[.agg #[.int .i64 a,.int .i64 b],.agg #[.int .i64 c,.int .i64 d]] W λe w'=>e=.returned (.int .i64 (a-c))/\_;have hw:Yai (a-c)=a-c:=by unfold Yai;omega
 go_enter Tryz.func252,Tryz.ntmps252
 go_wp2
 go_ret
 exact⟨rfl,0,_,by rw[Go.Sort.alloc_eq_grow,Go.Sort.alloc_eq_grow,Go.Sort.grow_grow];rfl⟩
theorem Ayl:Go.Sort.SWO (Go.Proofs.ltOf λ(x y:{x:Yi×Yi // OD x=Yo})=>ZQ x.1 y.1):=by
 constructor
 ·intro x
  refine Ex ?_;show ¬x.1.1-x.1.1<0;omega
 ·intro x y z h1 h2
  have h1:x.1.1-y.1.1<0:=AC h1;have h2:y.1.1-z.1.1<0:=AC h2;refine CD ?_;show x.1.1-z.1.1<0;omega
 ·intro x y z h1 h2
  have h1:¬x.1.1-y.1.1<0:=MI h1;have h2:¬y.1.1-z.1.1<0:=MI h2;refine Ex ?_;show ¬x.1.1-z.1.1<0;omega
def Aio:RowF:=⟨284,(.prod (.int .i64) (.int .i64)),Yc,λl=>List.all l OD&&Yf (Yg l<4611686018427387904),Ayj,Yd 252⟩
theorem Aym:RowOk Tryz.prog 251 Aio:=
 Aco (t:=284) (e:=(.prod (.int .i64) (.int .i64))) (good:=OD) (d0:=((0,0):Yi×Yi)) (h0:=rfl) (cf:=ZQ) (g:=252) rfl (by decide) Ayi rfl Tryz.isAgg284 Tryz.sizeOf284 Ayl (Go.Proofs.enters_of Tryz.func252 (by kernel_rfl) rfl) Ayk ⟨_,Tryz.func251,by kernel_rfl,by kernel_rfl⟩
def Ayn:En:=⟨_,.rows Aio,Aym⟩
abbrev Ayo:={β:Type}->Ag->AU->BQ->Ys->Yi->(Ag->Yi->Yb β)->Yb β
def ZR:Ya En:=[Zc,Zw,lQ,Age,Ae8,T0,qU,lO,oV,QL,lP,As3]
abbrev Ayp(β:Type):=Yi->Ag->Yb β
abbrev Ayq(β:Type):=Yi->Ar->Yi->Yi->Ag->Dr->Yb β
abbrev Ayr(β:Type):=BQ->Ys->Yi->Ar->Yi->Ys->Yi->Ar->Yi->Yi->AU->Ag->Dr->Yb β
def Aip:Pc:=⟨88,0,AS 2023 (AA Tryz.f39),⟨0,[2,3,4,5,6,10,12,13,59],[C2,Ap,Aa,AF,BJ,CX,AL,Aa,Ap],[AcA,HR,CE,.row 177 EI]⟩,[(.ret,⟨0,[10,11],[AF,Aa],[CE]⟩),(.normal,⟨0,[5,10],[AF,BJ],[Td,CE,.row 177 EI]⟩)]⟩
abbrev Aiq(β:Type):=Yi->Ag->Yb β
abbrev Ays(β:Type):=BQ->Ys->Yi->Ag->AU->Ag->Yb β
def Air:Pc:=⟨88,0,AS 7 (AA Tryz.f39),⟨0,[2,3,4,5,6,10],[C2,Ap,Aa,AF,BJ,CX],[CE,HR,CE]⟩,[(.ret,⟨0,[10,11],[AF,Aa],[CE]⟩)]⟩
abbrev Ayt(β:Type):=Yi->Ag->Yb β
abbrev Ayu(β:Type):=BQ->Ys->Yi->Ag->AU->Ag->Yb β
abbrev Ayv(β:Type):=BQ->Ys->Yi->Ys->Ag->AU->Ag->Yb β
def Ais:Pc:=⟨88,0,AS 25 (AA Tryz.f39),⟨0,[2,3,4,5,6,10,16],[C2,Ap,Aa,AF,BJ,CX,Ap],[CE,HR,CE]⟩,[(.ret,⟨0,[10,11],[AF,Aa],[CE]⟩),(.normal,⟨0,[2,3,4,5,6,10],[C2,Ap,Aa,AF,BJ,CX],[CE,HR,CE]⟩)]⟩
def ZS{β:Type}(k1:Ayp β)(k2:Ayq β):Ayr β:=λlabels firing t key i_ t59 g g2 g3 g4 r_ AT Cd=>
 Yr t59
 (k1 5 HP)
 (Yr firing
 (Q9 labels (λRC=>
 let l:=([(key,(RC,(t,(t,(Yo,Yc)))))]:Ya AW);
 Yr (Yf ((0:Yi)<=i_)&&(Yf (i_<=(Yg Cd:Yi))&&Yf (Yg Cd<1000000000)))
 (let l2:=(insL Cd (Yj i_) (key,(RC,(t,(t,(Yo,Yc))))));
 let due:=(Yh.wrap (t+r_.2.2.2.2.1));
 Yr (!Yf (g4=(-1:Yi)))
 (let due2:=(if(Yh.wrap (g4+r_.2.2.2.2.2.1))>t then(Yh.wrap (g4+r_.2.2.2.2.2.1))else t);
 Yr (!Yf (g3=(-1:Yi)))
 (let due3:=(if g3<due2 then g3 else due2);
 Gq due3 (λrlimited=>
 k2 g g2 rlimited g4 AT l2))
 (Gq due2 (λrlimited=>
 k2 g g2 rlimited g4 AT l2)))
 (Yr (!Yf (g3=(-1:Yi)))
 (let due2:=(if g3<due then g3 else due);
 Gq due2 (λrlimited=>
 k2 g g2 rlimited g4 AT l2))
 (Gq due (λrlimited=>
 k2 g g2 rlimited g4 AT l2))))
 Ye))
 (k2 g g2 g3 g4 AT Cd))
def Ub{β:Type}:=hid (ZS (β:=β))
def Ayw:Pb:=⟨2023,Aip,λ_=>Ub,pe (p:=Aip) ZR [] 2023 (g:=λ_=>ZS)⟩
def rF{β:Type}(k1:Aiq β):Ays β:=λlabels firing t g r_ AT=>
 QU labels (λKT=>
 TO g KT (λrfind rfind2=>
 O9 g (λD7 D8 EC Dx Fa=>
 Yr rfind2
 (Yr (Yf (0<=rfind)&&Yf (rfind<(Yg Fa:Yi)))
 (let l:=(YG Fa (Yj rfind) ((Yn Fa (Yj rfind) (([]:Ya Yl),(([]:Ya Al),(0,(0,(Yc,Yc)))))).1,(((Yn Fa (Yj rfind) (([]:Ya Yl),(([]:Ya Al),(0,(0,(Yc,Yc)))))).2).1,((((Yn Fa (Yj rfind) (([]:Ya Yl),(([]:Ya Al),(0,(0,(Yc,Yc)))))).2).2).1,(t,(((((Yn Fa (Yj rfind) (([]:Ya Yl),(([]:Ya Al),(0,(0,(Yc,Yc)))))).2).2).2).2))))));
 Yr (Yf (0<=rfind)&&Yf (rfind<(Yg l:Yi)))
 (let t2:=(((((((Yn l (Yj rfind) (([]:Ya Yl),(([]:Ya Al),(0,(0,(Yc,Yc)))))).2).2).2).2).1)==firing);
 Yr t2
 (Gb (D7,(D8,(l,(EC,Dx)))) (λD2=>
 Yr D2
 (k1 0 (D7,(D8,(l,((-1),Dx)))))
 (k1 0 (D7,(D8,(l,(EC,Dx)))))))
 (Yr firing
 (let l2:=(YG l (Yj rfind) ((Yn l (Yj rfind) (([]:Ya Yl),(([]:Ya Al),(0,(0,(Yc,Yc)))))).1,(((Yn l (Yj rfind) (([]:Ya Yl),(([]:Ya Al),(0,(0,(Yc,Yc)))))).2).1,((((Yn l (Yj rfind) (([]:Ya Yl),(([]:Ya Al),(0,(0,(Yc,Yc)))))).2).2).1,(((((Yn l (Yj rfind) (([]:Ya Yl),(([]:Ya Al),(0,(0,(Yc,Yc)))))).2).2).2).1,(Yo,(((((Yn l (Yj rfind) (([]:Ya Yl),(([]:Ya Al),(0,(0,(Yc,Yc)))))).2).2).2).2).2))))));
 let l3:=(YG l2 (Yj rfind) ((Yn l2 (Yj rfind) (([]:Ya Yl),(([]:Ya Al),(0,(0,(Yc,Yc)))))).1,(((Yn l2 (Yj rfind) (([]:Ya Yl),(([]:Ya Al),(0,(0,(Yc,Yc)))))).2).1,((((Yn l2 (Yj rfind) (([]:Ya Yl),(([]:Ya Al),(0,(0,(Yc,Yc)))))).2).2).1,(((((Yn l2 (Yj rfind) (([]:Ya Yl),(([]:Ya Al),(0,(0,(Yc,Yc)))))).2).2).2).1,((((((Yn l2 (Yj rfind) (([]:Ya Yl),(([]:Ya Al),(0,(0,(Yc,Yc)))))).2).2).2).2).1,Yo))))));
 let l4:=(YG l3 (Yj rfind) ((Yn l3 (Yj rfind) (([]:Ya Yl),(([]:Ya Al),(0,(0,(Yc,Yc)))))).1,(((Yn l3 (Yj rfind) (([]:Ya Yl),(([]:Ya Al),(0,(0,(Yc,Yc)))))).2).1,(t,((((Yn l3 (Yj rfind) (([]:Ya Yl),(([]:Ya Al),(0,(0,(Yc,Yc)))))).2).2).2)))));
 Gb (D7,(D8,(l4,(EC,Dx)))) (λD2=>
 Yr D2
 (k1 0 (D7,(D8,(l4,((-1),Dx)))))
 (k1 0 (D7,(D8,(l4,(EC,Dx)))))))
 (let t3:=(!((((((Yn l (Yj rfind) (([]:Ya Yl),(([]:Ya Al),(0,(0,(Yc,Yc)))))).2).2).2).2).2));
 Yr t3
 (Yr (Yf ((0:Yi)<=rfind)&&(Yf (rfind<(Yg l:Yi))&&Yf ((Yh.wrap (rfind+1))=rfind+1)))
 (let l2:=(delL l (Yj rfind));
 Gb (D7,(D8,(l2,(EC,Dx)))) (λD2=>
 Yr D2
 (k1 0 (D7,(D8,(l2,((-1),Dx)))))
 (k1 0 (D7,(D8,(l2,(EC,Dx)))))))
 Ye)
 (let l2:=(YG l (Yj rfind) ((Yn l (Yj rfind) (([]:Ya Yl),(([]:Ya Al),(0,(0,(Yc,Yc)))))).1,(((Yn l (Yj rfind) (([]:Ya Yl),(([]:Ya Al),(0,(0,(Yc,Yc)))))).2).1,((((Yn l (Yj rfind) (([]:Ya Yl),(([]:Ya Al),(0,(0,(Yc,Yc)))))).2).2).1,(((((Yn l (Yj rfind) (([]:Ya Yl),(([]:Ya Al),(0,(0,(Yc,Yc)))))).2).2).2).1,(Yc,(((((Yn l (Yj rfind) (([]:Ya Yl),(([]:Ya Al),(0,(0,(Yc,Yc)))))).2).2).2).2).2))))));
 let l3:=(YG l2 (Yj rfind) ((Yn l2 (Yj rfind) (([]:Ya Yl),(([]:Ya Al),(0,(0,(Yc,Yc)))))).1,(((Yn l2 (Yj rfind) (([]:Ya Yl),(([]:Ya Al),(0,(0,(Yc,Yc)))))).2).1,((((Yn l2 (Yj rfind) (([]:Ya Yl),(([]:Ya Al),(0,(0,(Yc,Yc)))))).2).2).1,(((((Yn l2 (Yj rfind) (([]:Ya Yl),(([]:Ya Al),(0,(0,(Yc,Yc)))))).2).2).2).1,((((((Yn l2 (Yj rfind) (([]:Ya Yl),(([]:Ya Al),(0,(0,(Yc,Yc)))))).2).2).2).2).1,Yc))))));
 let l4:=(YG l3 (Yj rfind) ((Yn l3 (Yj rfind) (([]:Ya Yl),(([]:Ya Al),(0,(0,(Yc,Yc)))))).1,(((Yn l3 (Yj rfind) (([]:Ya Yl),(([]:Ya Al),(0,(0,(Yc,Yc)))))).2).1,(t,((((Yn l3 (Yj rfind) (([]:Ya Yl),(([]:Ya Al),(0,(0,(Yc,Yc)))))).2).2).2)))));
 let due:=(Yh.wrap (t+r_.2.2.2.2.1));
 Yr (!Yf (Dx=(-1:Yi)))
 (let due2:=(if(Yh.wrap (Dx+r_.2.2.2.2.2.1))>t then(Yh.wrap (Dx+r_.2.2.2.2.2.1))else t);
 Yr (!Yf (EC=(-1:Yi)))
 (let due3:=(if EC<due2 then EC else due2);
 Gq due3 (λrlimited=>
 Gb (D7,(D8,(l4,(rlimited,Dx)))) (λD2=>
 Yr D2
 (k1 0 (D7,(D8,(l4,((-1),Dx)))))
 (k1 0 (D7,(D8,(l4,(rlimited,Dx))))))))
 (Gq due2 (λrlimited=>
 Gb (D7,(D8,(l4,(rlimited,Dx)))) (λD2=>
 Yr D2
 (k1 0 (D7,(D8,(l4,((-1),Dx)))))
 (k1 0 (D7,(D8,(l4,(rlimited,Dx)))))))))
 (Yr (!Yf (EC=(-1:Yi)))
 (let due2:=(if EC<due then EC else due);
 Gq due2 (λrlimited=>
 Gb (D7,(D8,(l4,(rlimited,Dx)))) (λD2=>
 Yr D2
 (k1 0 (D7,(D8,(l4,((-1),Dx)))))
 (k1 0 (D7,(D8,(l4,(rlimited,Dx))))))))
 (Gq due (λrlimited=>
 Gb (D7,(D8,(l4,(rlimited,Dx)))) (λD2=>
 Yr D2
 (k1 0 (D7,(D8,(l4,((-1),Dx)))))
 (k1 0 (D7,(D8,(l4,(rlimited,Dx)))))))))))))
 Ye)
 Ye)
 (Yr firing
 (let t2:=(Yf ((Yg Fa:Yi)=(256:Yi)));
 Ub (λBu KW=>
 k1 Bu KW) (λg2 g3 g4 g5 KW BL=>
 Gb (g2,(g3,(BL,(g4,g5)))) (λD2=>
 Yr D2
 (k1 0 (g2,(g3,(BL,((-1),g5)))))
 (k1 0 (g2,(g3,(BL,(g4,g5))))))) labels firing t KT rfind t2 D7 D8 EC Dx r_ AT Fa)
 (Ub (λBu KW=>
 k1 Bu KW) (λg2 g3 g4 g5 KW BL=>
 Gb (g2,(g3,(BL,(g4,g5)))) (λD2=>
 Yr D2
 (k1 0 (g2,(g3,(BL,((-1),g5)))))
 (k1 0 (g2,(g3,(BL,(g4,g5))))))) labels firing t KT rfind Yc D7 D8 EC Dx r_ AT Fa)))))
def Ra{β:Type}:=hid (rF (β:=β))
def Ayx:Pb:=⟨7,Air,λ_=>Ra,pe (p:=Air) ZR [Ayw] 7 (g:=λ_=>rF)⟩
def rG{β:Type}(k1:Ayt β)(k2:Ayu β):Ayv β:=λlabels firing t Dm g r_ AT=>Yr Dm (k1 8 HP) (K5 t 0 8589934592 (λJC=>Yr (!JC) (k1 1 HP) (k2 labels firing t g r_ AT)))
def Uc{β:Type}:=hid (rG (β:=β))
def Ayy:Pb:=⟨25,Ais,λ_=>Uc,pe (p:=Ais) ZR [] 25 (g:=λ_=>rG)⟩
def ZT:Ayo:=hid λg r_ labels firing t k=>Lr g (λFF=>Yr (!FF) (Uc (λBu AT=>k AT Bu) (λlabels2 firing2 t2 g2 Bz AT=>Ra (λBu KW=>k KW Bu) labels2 firing2 t2 g2 Bz AT) labels firing t Yo g r_ HP) (Nv r_ (λVK=>Yr (!VK) (Uc (λBu AT=>k AT Bu) (λlabels2 firing2 t2 g2 Bz AT=>Ra (λBu KW=>k KW Bu) labels2 firing2 t2 g2 Bz AT) labels firing t Yo g r_ HP) (Mn labels (λyT=>Uc (λBu AT=>k AT Bu) (λlabels2 firing2 t2 g2 Bz AT=>Ra (λBu KW=>k KW Bu) labels2 firing2 t2 g2 Bz AT) labels firing t (!yT) g r_ HP)))))
def Ayz:En:=⟨39,.spec (sg [HS,Nm,C2,Ap,Aa] [] [HS,Aa] [] ZT),pf ZR [Ayx,Ayy] [.cell 10 111,.tmp 11] Tryz.func39⟩
abbrev AyA:={β:Type}->Ar->(Yi->Yi->(Ya HQ)->Yb β)->Yb β
def rH:Ya En:=[Ayd,Aeb,Zz]
abbrev Ait(β:Type):=Yi->Yi->(Ya HQ)->Yb β
abbrev Aiu(β:Type):=(Ya HQ)->Yb β
abbrev rI(β:Type):=Yi->Yi->(Ya HQ)->BF->Yb β
def rJ:Pc:=⟨54,0,AS 58 (AA Tryz.f44),⟨0,[2,13,14,15],[AX,EK,Aa,Aa],[.row 212 (.prod (.int .i64) (.slice FZ)),.row 9 .str]⟩,[(.ret,⟨0,[2,3,4],[AX,Aa,Aa],Xx⟩),(.exit 0,⟨0,[2],[AX],Xx⟩)]⟩
abbrev AyB(β:Type):=Yi->Yi->(Ya HQ)->Yb β
abbrev AyC(β:Type):=Yi->Yi->(Ya HQ)->BF->Yb β
abbrev AyD(β:Type):=Yi->Yi->Yi->Yi->(Ya HQ)->Hq->BF->Yb β
def Aiv:Pc:=⟨54,0,AS 231 (Gm rJ.c),⟨0,[2,5,7,8,13,14,15],[AX,Aa,EK,Aa,(Yc,[.rowh 2]),Aa,Aa],[.row 212 (.prod (.int .i64) (.slice FZ)),.row 220 FZ,.row 9 .str]⟩,[(.ret,⟨0,[2,3,4],[AX,Aa,Aa],Xx⟩),(.normal,⟨0,[2,13,14,15],[AX,EK,Aa,Aa],[.row 212 (.prod (.int .i64) (.slice FZ)),.row 9 .str]⟩)]⟩
def Aiw{β:Type}(k1:AyB β)(k2:AyC β):AyD β:=λi_ e CC Ca l t D9=>Yr (!Yf (e=0)) (let line:=(Yh.wrap (i_+1));k1 line e ([]:Ya HQ)) (Yr (Yf ((0:Yi)<(Yg t:Yi))) (let l2:=([((Yh.wrap (i_+1)),t)]:Ya HQ);Yr (Yf ((Yg l+Yg l2)*32<=Cn)) (let l3:=(l++l2);k2 CC Ca l3 D9) Ye) (k2 CC Ca l D9))
def Ud{β:Type}:=hid (Aiw (β:=β))
def AyE:Pb:=⟨231,Aiv,λ_=>Ud,pe (p:=Aiv) rH [] 231 (g:=λ_=>Aiw)⟩
def Aix{β:Type}(rec:rI β)(k1:Ait β)(k2:Aiu β):rI β:=λCC Ca l D9=>Yr (Yf (Ca<CC)) (Yr (Yf (0<=Ca)&&Yf (Ca<(Yg D9:Yi))) (let s:=(Yn D9 (Yj Ca) ([]:Ya Yl));Aim s (λcW RD=>Yr (Yf (cW=0)) (Yr (Yf ((0:Yi)<(Yg RD:Yi))) (pX RD (λyH=>Yr (!yH) (Ud (λline e l2=>k1 line e l2) (λP7 t152 l2 P6=>rec P7 (Yh.wrap (t152+(1:Yi))) l2 P6) Ca 2 CC Ca l RD D9) (Ud (λline e l2=>k1 line e l2) (λP7 t152 l2 P6=>rec P7 (Yh.wrap (t152+(1:Yi))) l2 P6) Ca cW CC Ca l RD D9))) (Ud (λline e l2=>k1 line e l2) (λP7 t152 l2 P6=>rec P7 (Yh.wrap (t152+(1:Yi))) l2 P6) Ca cW CC Ca l RD D9)) (Ud (λline e l2=>k1 line e l2) (λP7 t152 l2 P6=>rec P7 (Yh.wrap (t152+(1:Yi))) l2 P6) Ca cW CC Ca l RD D9))) Ye) (k2 l)
def ZU(m:Yk){β:Type}(k1:Ait β)(k2:Aiu β):rI β:=Gp (λr=>Aix r k1 k2) Ye m
theorem AGr{β:Type}(i:Yk)(k1 k2):ZU (β:=β) (i+1) k1 k2=Aix (ZU i k1 k2) k1 k2:=rfl
def Aiy{β:Type}:=hid (ZU (β:=β) fuel)
def AyF:Pb:=⟨58,rJ,λ_=>Aiy,pl (p:=rJ) rH [AyE] (g:=λi _=>ZU i)⟩
def AyG:AyA:=hid λtext k=>Yr (Yf ((65536:Yi)<(Yg text:Yi))) (k 0 5 ([]:Ya HQ)) (lS text ([10]:Ya Yl) (λP4=>Aiy (λline e l=>k line e l) (λl=>k 0 0 l) (Yg P4:Yi) 0 ([]:Ya HQ) P4))
def AyH:En:=⟨44,.spec (sg [AL] [] [AX,Aa,Aa] Xx AyG),pf rH [AyF] [.tmp 2,.tmp 3,.tmp 4] Tryz.func44⟩
def rK:En:=au [Ae0] [Mk] [] [Jq,Aa] [] [.cell 2 148,.tmp 3] Tryz.func55 (by kernel_rfl)
def Ue:En:=au [AsX,Axx,Ayn] [IQ] [] [AX] JW [.tmp 2] Tryz.func146 (by kernel_rfl)
abbrev rL:={β:Type}->It->BQ->(Ys->Yb β)->Yb β
def Iv:rL:=hid λms l k=>ZP ms l (λI6 cQ=>k (!I6))
def rM:En:=⟨161,.spec (sg [JU,C2] [] [Ap] [] Iv),pf [Ayf] [] [.tmp 4] Tryz.func161⟩
def AyI:En:=.rauto mixed (X:=⟨look tab,gam [Ain,XW,AhA],Yc,Yc,Yc,Yc,[],Ye,100000,[]⟩) AG [Ain,XW,AhA] rfl AbL [Iu,JV,Aa] [] [Aa,Aa] [] [.cell 6 3,.cell 7 3] Tryz.func256 (by kernel_rfl)
abbrev AyJ:={β:Type}->D0->BQ->Yi->(Yi->Ys->Yb β)->Yb β
def Aiz:Ya En:=[rM]
abbrev AiA(β:Type):=Yi->Ys->Yb β
abbrev rN(β:Type):=BQ->Yi->Yi->Ys->D0->Yi->Yi->Yb β
def AiB:Pc:=⟨47,0,AS 26 (AA Tryz.f272),⟨0,[1,2,6,7,10,11,12],[C2,Aa,Aa,Ap,Nk,Aa,Aa],[]⟩,[(.exit 0,⟨0,[6,7],[Aa,Ap],[]⟩)]⟩
def Uf{β:Type}(rec:rN β)(k1:AiA β):rN β:=λlabels t id ok AT Bu ED=>Yr (Yf (ED<Bu)) (Yr (Yf (0<=ED)&&Yf (ED<(Yg AT:Yi))) (let e:=Yn AT (Yj ED) (0,(0,(0,(0,([]:Ya BA)))));Yr (Yf (e.2.1<=t)) (Yr (Yf (t<e.2.2.1)) (Iv e.2.2.2.2 labels (λVC=>Yr VC (Yr (!ok) (rec labels t e.1 Yo AT Bu (Yh.wrap (ED+(1:Yi)))) (Yr (Yf (e.1<id)) (rec labels t e.1 Yo AT Bu (Yh.wrap (ED+(1:Yi)))) (rec labels t id ok AT Bu (Yh.wrap (ED+(1:Yi)))))) (rec labels t id ok AT Bu (Yh.wrap (ED+(1:Yi)))))) (rec labels t id ok AT Bu (Yh.wrap (ED+(1:Yi))))) (rec labels t id ok AT Bu (Yh.wrap (ED+(1:Yi))))) Ye) (k1 id ok)
def Ug(m:Yk){β:Type}(k1:AiA β):rN β:=To (λr=>Uf r k1) Ye m
theorem rO{β:Type}(i:Yk)(k1):Ug (β:=β) (i+1) k1=Uf (Ug i k1) k1:=rfl
def rP{β:Type}:=hid (Ug (β:=β) fuel)
def AyK:Pb:=⟨26,AiB,λ_=>rP,pl (p:=AiB) Aiz [] (g:=λi _=>Ug i)⟩
def ZV:AyJ:=hid λl labels t k=>rP (λid ok=>k id ok) labels t 0 Yc l (Yg l:Yi) 0
def AyL:En:=⟨272,.spec (sg [Nk,C2,Aa] [] [Aa,Ap] [] ZV),pf Aiz [AyK] [.tmp 6,.tmp 7] Tryz.func272⟩
abbrev AyM:={β:Type}->Oy->BQ->(Ys->Yb β)->Yb β
def AiC:Ya En:=[rM]
abbrev AiD(β:Type):=Unit->Yb β
abbrev rQ(β:Type):=BQ->Oy->Yi->Yi->Yb β
def AiE:Pc:=⟨48,0,AS 106 (AA Tryz.f273),⟨0,[1,2,11,12,13],[C2,(Yc,[.junk]),Tg,Aa,Aa],[]⟩,[(.exit 0,⟨0,[],[],[]⟩)]⟩
def rR{β:Type}(rec:rQ β)(k1:AiD β):rQ β:=λlabels Bu ED D9=>Yr (Yf (D9<ED)) (Yr (Yf (0<=D9)&&Yf (D9<(Yg Bu:Yi))) (let e:=Yn Bu (Yj D9) (([]:Ya BA),(([]:Ya BA),([]:Ya Ar)));Iv e.2.1 labels (λVC=>Yr (!VC) (rec labels Bu ED (Yh.wrap (D9+(1:Yi)))) (Ye))) Ye) (k1 ())
def ZW(m:Yk){β:Type}(k1:AiD β):rQ β:=Gp (λr=>rR r k1) Ye m
theorem AyN{β:Type}(i:Yk)(k1):ZW (β:=β) (i+1) k1=rR (ZW i k1) k1:=rfl
def rS{β:Type}:=hid (ZW (β:=β) fuel)
def AyO:Pb:=⟨106,AiE,λ_=>rS,pl (p:=AiE) AiC [] (g:=λi _=>ZW i)⟩
def Uh:AyM:=hid λl labels k=>rS (λ_=>k Yc) labels l (Yg l:Yi) 0
def AyP:En:=⟨273,.spec (sg [Tg,C2,(Yc,[.junk])] [] [Ap] [] Uh),pf AiC [AyO] [.tmp 6] Tryz.func273⟩
def AyQ:En:=au [rK] [Th] [] [AX] [.row 148 (.prod (.int .i64) (.slice (.prod (.int .i64) (.int .i64))))] [.tmp 2] Tryz.func312 (by kernel_rfl)
def AiF:En:=au [Ue] [Oz] [] [AX] JW [.tmp 2] Tryz.func321 (by kernel_rfl)
def AyR:En:=au [Ue] [JV,Aa] [] [AX] JW [.tmp 4] Tryz.func383 (by kernel_rfl)
def AyS:En:=au [Ue,pY] [Iu,Q6,Aa,Aa] [] [AX] JW [.tmp 8] Tryz.func440 (by kernel_rfl)
def rT:En:=au [Ue,pY] [Jq,IQ,Aa,Aa] [] [AX] JW [.tmp 8] Tryz.func56 (by kernel_rfl)
def AiG:En:=au [Ue] [Oz,Aa] [] [AX] JW [.tmp 4] Tryz.func59 (by kernel_rfl)
abbrev AiH(c:rL):Spec:=sg [JU,C2] [] [Ap] [] c
abbrev AiI(c:lT):Spec:=sg [Lp,Aa] [] [AX] Ml c
abbrev K7:={β:Type}->IP->Yi->BQ->(Ga->Yb β)->Yb β
def OE(c:K7):Spec:=
 ⟨[Lp,Aa,C2],[],[AX],Ml,λx k=>c x.1.1.1 x.1.2.1.1 x.1.2.2.1.1 (λr0=>k (((),()),(r0,())))⟩
abbrev ZX(β:Type):=Yi->Ga->Yb β
abbrev rU(β:Type):=IP->Yi->BQ->Yi->Yi->Ga->Ga->Yb β
abbrev Ui:={β:Type}->ZX β->rU β
def Uj:Pc:=⟨45,0,AS 58 (AA Tryz.f78),⟨0,[0,1,2,7,12,13,14],[Lp,Aa,C2,AX,EK,Aa,Aa],[.row 3 (.int .i64),.row 3 (.int .i64)]⟩,[(.exit 0,⟨0,[1,7],[Aa,AX],Ml⟩)]⟩
@[reducible] def Uk(p:Ui):Uj.G:=λd ks=>p (λa0 a1=>ks.1 (((a0,()),(),()),(a1,()))) d.1.1.1 d.1.2.1.1 d.1.2.2.1.1 d.1.2.2.2.2.2.1.1 d.1.2.2.2.2.2.2.1.1 d.2.1 d.2.2.1
section
variable(zq17g:rL)(zq17h:lT)(zq17i:K7)
@[reducible] def ZY:Ctx:=cx [(161,.spec (AiH zq17g)),(160,.spec (AiI zq17h)),(78,.spec (OE zq17i))]
def rV{β:Type}(rec:rU β)(k1:ZX β):rU β:=λl i_ labels D9 CC out ED=>Yr (Yf (CC<D9)) (Yr (Yf (0<=CC)&&Yf (CC<(Yg ED:Yi))) (let k_:=(Yn ED (Yj CC) 0);Yr (Yf (0<=k_)&&Yf (k_<(Yg l:Yi))) (let e:=Yn l (Yj k_) (0,(([]:Ya BA),(0,(([]:Ya Ar),(0,(0,(0,Yc)))))));zq17g e.2.1 labels (λVC=>Yr (!VC) (rec l i_ labels D9 (Yh.wrap (CC+(1:Yi))) out ED) (zq17i l k_ labels (λRE=>Yr (Yf ((Yg out+Yg RE)*8<=Cn)) (let l2:=(out++RE);Yr (Yf (0<=k_)&&Yf (k_<(Yg l:Yi))) (let e2:=Yn l (Yj k_) (0,(([]:Ya BA),(0,(([]:Ya Ar),(0,(0,(0,Yc)))))));Yr (!e2.2.2.2.2.2.2.2) (k1 i_ l2) (rec l i_ labels D9 (Yh.wrap (CC+(1:Yi))) l2 ED)) Ye) Ye)))) Ye) Ye) (k1 i_ out)
def rW{β:Type}(i:Yk)(k1:ZX β):=To (λr=>rV zq17g zq17i r k1) Ye i
theorem AyT(hΓ:GO (ZY zq17g zq17h zq17i))(i:Yk):OK Uj (Uk (rW zq17g zq17i i)):=
 pcL mixed (ZY zq17g zq17h zq17i) AG hΓ (G:=λi=>@λβ d ks=>Uk (rW zq17g zq17i i) d ks) (Bb []) (by kernel_rfl) rfl (by kernel_rfl) DA (λ_ _=>rfl) (λ_ _ _ _=>by kernel_rfl) i
def ZZ(p1:Ui):K7:=λl i_ labels k=>zq17h l i_ (λAm0=>p1 (λCl out=>Yr (Yf ((Yg out:Yi)=(0:Yi))) (let l2:=([Cl]:Ya Yi);k l2) (k out)) l i_ labels (Yg Am0:Yi) 0 ([]:Ya Yi) Am0)
theorem AyU(hΓ:GO (ZY zq17g zq17h zq17i))(p1:Ui)(Cv:OK Uj (Uk p1)):SpecOk Tryz.prog 78 (OE (ZZ zq17h p1)):=
 pcS mixed (ZY zq17g zq17h zq17i) AG hΓ (Bb [(58,Uj.cut (Uk p1))]) [.tmp 6] Tryz.func78 (by kernel_rfl) (by kernel_rfl) (by kernel_rfl) (by kernel_rfl) (Abc (by kernel_rfl) rfl Cv DA) (λ_ _=>by kernel_rfl)
end
theorem AiJΓ(me:K7)(Pm:SpecOk Tryz.prog 78 (OE me)):ΓOk Tryz.prog (Bb [(161,.spec (AiH Iv)),(160,.spec (AiI Ns)),(78,.spec (OE me))]):=(ΓOk_cons rM.ok (ΓOk_cons Asz.ok (ΓOk_cons Pm ΓOk_nil)))
def a8(me:K7)(m:Yk):Ui:=rW Iv me m
theorem AyV{β:Type}(me:K7)(i:Yk)(k1 l i_ labels D9 CC out ED):(a8 me (i+1) k1 l i_ labels D9 CC out ED:Yb β)=rV Iv me (a8 me i k1) k1 l i_ labels D9 CC out ED:=rfl
def Ul(me:K7):Ui:=a8 me fuel
theorem AyW(me:K7)(Pm:SpecOk Tryz.prog 78 (OE me)):OK Uj (Uk (Ul me)):=AyT Iv Ns me (AiJΓ me Pm) fuel
def IU:Yk->K7
 |0=>λ_ _ _ _=>Ye
 |i+1=>ZZ Ns (Ul (IU i))
theorem AiK:∀i,SpecOk Tryz.prog 78 (OE (IU i))
 |0=>SpecOk.never ⟨_,Tryz.func78,by kernel_rfl,by kernel_rfl⟩ (λ_ _=>rfl)
 |i+1=>
  have Pm:=AiK i;have me_ok:=Pm
  AyU Iv Ns (IU i) (AiJΓ (IU i) Pm) (Ul (IU i)) (AyW (IU i) Pm)
theorem AyX{β:Type}(i:Yk)(l i_ labels k):(IU (i+1) l i_ labels k:Yb β)=ZZ Ns (Ul (IU i)) l i_ labels k:=rfl
def AiL:K7:=IU fuel
theorem AyY:SpecOk Tryz.prog 78 (OE AiL):=AiK fuel
def AyZ:En:=.of AyY
def Az0:En:=au [AfH,AyI] [Iu,JV,Aa] [] [Aa] [] [.tmp 6] Tryz.func149 (by kernel_rfl)
abbrev Az1:={β:Type}->Oy->D0->BQ->Yi->(Ys->Yb β)->Yb β
def aA:Az1:=hid λin_ l labels t k=>ZV l labels t (λAGL AFK=>Yr AFK (k Yo) (Uh in_ labels (λyI=>k yI)))
def Az2:En:=⟨178,.spec (sg [Tg,Nk,C2,(Yc,[.junk]),Aa] [] [Ap] [] aA),pf [AyP,AyL] [] [.tmp 10] Tryz.func178⟩
def Az3:En:=au [AyQ] [Fh] [] [Iu] [] [.cell 2 136] Tryz.func235 (by kernel_rfl)
def AiM:En:=au [XX,AyR] [JV,Oz] [] [AX] O3 [.tmp 4] Tryz.func318 (by kernel_rfl)
def Az4:En:=au [AyS,ZC,lH,XX,rT] [Iu,K3,Aa,Aa] [] [AX] JW [.tmp 8] Tryz.func384 (by kernel_rfl)
abbrev Az5:={β:Type}->IP->BQ->(Ga->Yb β)->Yb β
def Um:Az5:=hid λl labels k=>QY l (λNM=>Yr (!Yf (NM=0)) (k ([]:Ya Yi)) (Mn labels (λFF=>Yr (!FF) (k ([]:Ya Yi)) (AiL l 0 labels (λRE=>k RE)))))
def Az6:En:=⟨34,.spec (sg [Lp,C2] [] [AX] Ml Um),pf [QL,qT,AyZ] [] [.tmp 4] Tryz.func34⟩
abbrev Az7:={β:Type}->Ax->BE->Ag->(BF->Yb β)->Yb β
def AiN:Ya En:=[Az2]
abbrev AiO(β:Type):=BF->Yb β
abbrev rX(β:Type):=Dr->Yi->Yi->Ax->BE->BF->Yb β
def AiP:Pc:=⟨36,0,AS 58 (AA Tryz.f98),⟨0,[3,4,5,9,13,14,15],[(Yc,[.junk]),AF,BJ,(Yc,[.rowh 2]),Gn,Aa,Aa],[F3,GX,.row 9 .str]⟩,[(.exit 0,⟨0,[9],[AX],[.row 9 .str]⟩)]⟩
def rY{β:Type}(rec:rX β)(k1:AiO β):rX β:=λD9 CC Ca r_ s out=>Yr (Yf (Ca<CC)) (Yr (Yf (0<=Ca)&&Yf (Ca<(Yg D9:Yi))) (let e:=Yn D9 (Yj Ca) (([]:Ya Yl),(([]:Ya Al),(0,(0,(Yc,Yc)))));aA r_.2.1 s.2.2.1 e.2.1 s.1 (λAFz=>Yr AFz (let l:=([e.1]:Ya Ar);Yr (Yf ((Yg out+Yg l)*16<=Cn)) (let l2:=(out++l);rec D9 CC (Yh.wrap (Ca+(1:Yi))) r_ s l2) Ye) (rec D9 CC (Yh.wrap (Ca+(1:Yi))) r_ s out))) Ye) (k1 out)
def Un(m:Yk){β:Type}(k1:AiO β):rX β:=Tn (λr=>rY r k1) Ye m
theorem Az8{β:Type}(i:Yk)(k1):Un (β:=β) (i+1) k1=rY (Un i k1) k1:=rfl
def rZ{β:Type}:=hid (Un (β:=β) fuel)
def Az9:Pb:=⟨58,AiP,λ_=>rZ,pl (p:=AiP) AiN [] (g:=λi _=>Un i)⟩
def aB:Az7:=hid λr_ s g k=>rZ (λout=>k out) g.2.2.1 (Yg g.2.2.1:Yi) 0 r_ s ([]:Ya Ar)
def Aza:En:=⟨98,.spec (sg [Nl,IS,HS,(Yc,[.junk])] [] [AX] [.row 9 .str] aB),pf AiN [Az9] [.tmp 8] Tryz.func98⟩
def AiQ:En:=au [XT,Az4,ZC,AhV] [Iu,K3,Aa,Aa] [] [AX] O3 [.tmp 8] Tryz.func319 (by kernel_rfl)
abbrev Azb:={β:Type}->Dr->Ax->Ag->(Yi->Ax->Ag->Yb β)->Yb β
def AiR:Ya En:=[Awg]
abbrev AiS(β:Type):=Yi->Ax->Ag->Yb β
abbrev AiT(β:Type):=Ax->Ag->Yb β
abbrev s0(β:Type):=Dr->Yi->Yi->Ax->Ag->Yb β
def AiU:Pc:=⟨19,2,AS 26 (AA Tryz.f155),⟨2,[0,1,7,8],[Gn,(Yc,[.fn 70 [0,1]]),Aa,Aa],[F3,CE]⟩,[(.ret,⟨2,[4],[Aa],[F3,CE]⟩),(.exit 0,⟨2,[],[],[F3,CE]⟩)]⟩
def s7{β:Type}(rec:s0 β)(k1:AiS β)(k2:AiT β):s0 β:=λs t7 t8 EL D5=>Yr (Yf (t8<t7)) (Yr (Yf (0<=t8)&&Yf (t8<(Yg s:Yi))) (let e:=Yn s (Yj t8) (([]:Ya Yl),(([]:Ya Al),(0,(0,(Yc,Yc)))));pT e EL D5 (λAFP Ama Amb=>Yr AFP (k1 t8 Ama Amb) (rec s t7 (Yh.wrap (t8+(1:Yi))) Ama Amb))) Ye) (k2 EL D5)
def Uo(m:Yk){β:Type}(k1:AiS β)(k2:AiT β):s0 β:=K4 (λr=>s7 r k1 k2) Ye m
theorem Azc{β:Type}(i:Yk)(k1 k2):Uo (β:=β) (i+1) k1 k2=s7 (Uo i k1 k2) k1 k2:=rfl
def s9{β:Type}:=hid (Uo (β:=β) fuel)
def Azd:Pb:=⟨26,AiU,λ_=>s9,pl (p:=AiU) AiR [] (g:=λi _=>Uo i)⟩
def sA:Azb:=hid λs EL D5 k=>s9 (λt4 Ly vQ=>k t4 Ly vQ) (λLy vQ=>k (-1) Ly vQ) s (Yg s:Yi) 0 EL D5
def Aze:En:=⟨155,.spec (sg [Gn,(Yc,[.fn 70 [0,1]])] [F3,CE] [Aa] [F3,CE] sA),pf AiR [Azd] [.tmp 4] Tryz.func155⟩
abbrev Azf:={β:Type}->Dr->(Yi->Yb β)->Yb β
def AiV:Ya En:=[AsI]
abbrev AiW(β:Type):=Yi->Yb β
abbrev AiX(β:Type):=Unit->Yb β
abbrev sB(β:Type):=Dr->Yi->Yi->Yb β
def AiY:Pc:=⟨19,0,AS 26 (AA Tryz.f155),⟨0,[0,1,7,8],[Gn,(Yc,[.fn 177 []]),Aa,Aa],[]⟩,[(.ret,⟨0,[4],[Aa],[]⟩),(.exit 0,⟨0,[],[],[]⟩)]⟩
def sC{β:Type}(rec:sB β)(k1:AiW β)(k2:AiX β):sB β:=λs t7 t8=>Yr (Yf (t8<t7)) (Yr (Yf (0<=t8)&&Yf (t8<(Yg s:Yi))) (let e:=Yn s (Yj t8) (([]:Ya Yl),(([]:Ya Al),(0,(0,(Yc,Yc)))));lX e (λyL=>Yr yL (k1 t8) (rec s t7 (Yh.wrap (t8+(1:Yi)))))) Ye) (k2 ())
def OG(m:Yk){β:Type}(k1:AiW β)(k2:AiX β):sB β:=HT (λr=>sC r k1 k2) Ye m
theorem Azg{β:Type}(i:Yk)(k1 k2):OG (β:=β) (i+1) k1 k2=sC (OG i k1 k2) k1 k2:=rfl
def sD{β:Type}:=hid (OG (β:=β) fuel)
def Azh:Pb:=⟨26,AiY,λ_=>sD,pl (p:=AiY) AiV [] (g:=λi _=>OG i)⟩
def sE:Azf:=hid λs k=>sD (λt4=>k t4) (λ_=>k (-1)) s (Yg s:Yi) 0
def Azi:En:=⟨155,.spec (sg [Gn,(Yc,[.fn 177 []])] [] [Aa] [] sE),pf AiV [Azh] [.tmp 4] Tryz.func155⟩
abbrev Azj:={β:Type}->Dr->Ax->Ag->(Ys->Ax->Ag->Yb β)->Yb β
def Up:Azj:=hid λs EL D5 k=>sA s EL D5 (λJB VB yC=>let t:=(Yf ((0:Yi)<=JB));k t VB yC)
def Azk:En:=⟨69,.spec (sg [Gn,(Yc,[.fn 70 [0,1]])] [F3,CE] [Ap] [F3,CE] Up),pf [Aze] [] [.tmp 4] Tryz.func69⟩
abbrev Azl:={β:Type}->Dr->(Ys->Yb β)->Yb β
def aC:Azl:=hid λs k=>sE s (λJB=>let t:=(Yf ((0:Yi)<=JB));k t)
def Azm:En:=⟨69,.spec (sg [Gn,(Yc,[.fn 177 []])] [] [Ap] [] aC),pf [Azi] [] [.tmp 4] Tryz.func69⟩
abbrev Azn:={β:Type}->Ax->BE->(Ys->Yb β)->Yb β
def sF:Ya En:=[Zw,AxZ,Ad2,Ag7,AhG,Azk]
abbrev AiZ(β:Type):=Ys->Yb β
abbrev Aj0(β:Type):=Unit->Yb β
abbrev sG(β:Type):=D4->Yi->Yi->Ax->BE->Yb β
def Aj1:Pc:=⟨104,0,AS 122 (AA Tryz.f28),⟨0,[2,3,56,57,58],[AF,BJ,K2,Aa,Aa],[F3,GX]⟩,[(.ret,⟨0,[4],[Ap],[]⟩),(.exit 0,⟨0,[],[],[]⟩)]⟩
abbrev Azo(β:Type):=Ys->Yb β
abbrev Azp(β:Type):=Ax->BE->Yb β
def Aj2:Pc:=⟨104,0,AS 15 (AA Tryz.f28),⟨0,[2,3],[AF,BJ],[F3,GX]⟩,[(.ret,⟨0,[4],[Ap],[]⟩)]⟩
def sH{β:Type}(rec:sG β)(k1:AiZ β)(k2:Aj0 β):sG β:=λNO RL Ii r_ s=>Yr (Yf (Ii<RL)) (Yr (Yf (0<=Ii)&&Yf (Ii<(Yg NO:Yi))) (let e:=Yn NO (Yj Ii) (0,(([]:Ya Yl),(([]:Ya AW),(0,0))));Lr e (λFF=>Yr (!FF) (k1 Yc) (Yr (Yf ((Yg r_.1:Yi)<=e.1)) (k1 Yc) (Nq r_ e s.1 (λridle=>Yr ridle (k1 Yc) (Yr (Yf ((0:Yi)<Ii)) (Yr (Yf (0<=(Yh.wrap (Ii-(1:Yi))))&&Yf ((Yh.wrap (Ii-(1:Yi)))<(Yg s.2.1:Yi))) (let e2:=Yn s.2.1 (Yj (Yh.wrap (Ii-(1:Yi)))) (0,(([]:Ya Yl),(([]:Ya AW),(0,0))));TJ e2 e.1 e.2.1 (λrorder=>Yr (Yf ((0:Yi)<=rorder)) (k1 Yc) (Up e.2.2.1 r_ e (λJB VB yC=>Yr JB (k1 Yc) (rec NO RL (Yh.wrap (Ii+(1:Yi))) VB s))))) Ye) (Up e.2.2.1 r_ e (λJB VB yC=>Yr JB (k1 Yc) (rec NO RL (Yh.wrap (Ii+(1:Yi))) VB s))))))))) Ye) (k2 ())
def Uq(m:Yk){β:Type}(k1:AiZ β)(k2:Aj0 β):sG β:=K4 (λr=>sH r k1 k2) Ye m
theorem Azq{β:Type}(i:Yk)(k1 k2):Uq (β:=β) (i+1) k1 k2=sH (Uq i k1 k2) k1 k2:=rfl
def sI{β:Type}:=hid (Uq (β:=β) fuel)
def Azr:Pb:=⟨122,Aj1,λ_=>sI,pl (p:=Aj1) sF [] (g:=λi _=>Uq i)⟩
def sJ{β:Type}(k1:Azo β):Azp β:=λr_ s=>sI (λt4=>k1 t4) (λ_=>k1 Yo) s.2.1 (Yg s.2.1:Yi) 0 r_ s
def Ur{β:Type}:=hid (sJ (β:=β))
def Azs:Pb:=⟨15,Aj2,λ_=>Ur,pe (p:=Aj2) sF [Azr] 15 (g:=λ_=>sJ)⟩
def Rb:Azn:=hid λr_ s k=>ZI r_ (λNM=>Yr (!Yf (NM=0)) (k Yc) (Yr (Yf (s.1<(0:Yi))) (k Yc) (Yr (Yf ((8589934592:Yi)<s.1)) (k Yc) (Yr (Yf ((64:Yi)<(Yg s.2.1:Yi))) (k Yc) (OC s.2.2.1 (λcT=>Yr (!Yf (cT=0)) (k Yc) (Yr (Yf (s.2.2.2<(1:Yi))) (k Yc) (Yr (Yf ((0:Yi)<(Yg s.2.2.1:Yi))) (Yr (Yf (0<=(Yh.wrap ((Yg s.2.2.1:Yi)-(1:Yi))))&&Yf ((Yh.wrap ((Yg s.2.2.1:Yi)-(1:Yi)))<(Yg s.2.2.1:Yi))) (let e:=Yn s.2.2.1 (Yj (Yh.wrap ((Yg s.2.2.1:Yi)-(1:Yi)))) (0,(0,(0,(0,([]:Ya BA)))));Yr (Yf (s.2.2.2<=e.1)) (k Yc) (Ur (λt4=>k t4) r_ s)) Ye) (Ur (λt4=>k t4) r_ s)))))))))
def sK:En:=⟨28,.spec (sg [Nl,IS] [] [Ap] [] Rb),pf sF [Azs] [.tmp 4] Tryz.func28⟩
end
end Go.Lift
namespace Go.Lift
open Go.Proofs
noncomputable section
variable[Sl]
set_option maxRecDepth 100000
abbrev Azt:={β:Type}->Ag->AU->Yi->BF->(Ag->Cg->Ys->Yi->Yb β)->Yb β
def Rc:Ya En:=[Zc,Zw,lQ,T0,lN,AuR,qU,Azm,Ze,Ayg]
abbrev Aj3(β:Type):=Ys->Yi->Yi->Ar->Yi->Yi->Yi->Yi->Yi->Ar->Dr->BF->BF->Yb β
abbrev Azu(β:Type):=Yi->Ys->Yi->Yi->Ar->Yi->Yi->Ag->Cg->Yi->Yi->Yi->Ar->Dr->BF->BF->Yb β
def Aj4:Pc:=⟨116,0,AS 1023 (AA Tryz.f97),⟨0,[2,4,8,9,12,13,17],[Aa,AF,BJ,CX,EW,Ap,Aa],[.cells 111 [.data (.int .i64),.data .str,.rowh 4,.data (.int .i64),.data (.int .i64)],CE,Js,.cells 65 [.data (.int .i64),.data (.int .i64),.data (.int .i64),.data .str,.rowh 5,.rowh 6],.row 177 EI,.row 9 .str,.row 9 .str]⟩,[(.ret,⟨0,[8,9,10,11],[AF,BJ,Ap,Aa],jS⟩)]⟩
abbrev Aj5(β:Type):=Ys->Yi->Yi->Ar->Yi->Yi->Yi->Yi->Yi->Ar->Dr->BF->BF->Yb β
abbrev Azv(β:Type):=Yi->Ys->Yi->Ar->Yi->Yi->AU->Ag->Cg->Yi->Yi->Yi->Ar->Dr->BF->BF->Yb β
def Aj6:Pc:=⟨116,0,AS 127 (AA Tryz.f97),⟨0,[2,4,5,8,9,12,13],[Aa,AF,BJ,CX,EW,(Yc,[.ptr 4 0]),Ap],jR⟩,[(.ret,⟨0,[8,9,10,11],[AF,BJ,Ap,Aa],jS⟩)]⟩
abbrev sL(β:Type):=Yi->Ys->Yi->Ar->Yi->Yi->AU->Ag->Cg->Yi->Yi->Yi->Ar->Dr->BF->BF->Yb β
abbrev sM(β:Type):=Yi->Ys->Yi->Yi->Yi->Ar->Yi->Yi->AU->Ag->Cg->Yi->Yi->Yi->Ar->Dr->BF->BF->Yb β
def Aj7:Pc:=⟨116,0,AS 8110 (AA Tryz.f97),⟨0,[2,4,5,8,9,12,13,65,66,67],[Aa,AF,BJ,CX,EW,(Yc,[.ptr 4 0]),Ap,(Yc,[.rowh 5]),Aa,Aa],jR⟩,[(.exit 1,⟨0,[2,4,5,8,9,12,13],[Aa,AF,BJ,CX,EW,(Yc,[.ptr 4 0]),Ap],jR⟩)]⟩
abbrev Aj8(β:Type):=Ys->Yi->Yi->Ar->Yi->Yi->Yi->Yi->Yi->Ar->Dr->BF->BF->Yb β
abbrev Azw(β:Type):=Yi->BF->Ag->AU->Ag->Cg->Yb β
def Aj9:Pc:=⟨116,0,AS 7 (AA Tryz.f97),⟨0,[2,3,4,5,8,9],[Aa,IR,AF,BJ,CX,EW],[CE,HR,CE,Js]⟩,[(.ret,⟨0,[8,9,10,11],[AF,BJ,Ap,Aa],jS⟩)]⟩
abbrev Azx(β:Type):=Ys->Yi->Ag->Cg->Yb β
abbrev Azy(β:Type):=Yi->BF->Ag->AU->Ag->Cg->Yb β
abbrev Azz(β:Type):=Yi->BF->Ys->Ag->AU->Ag->Cg->Yb β
def Aja:Pc:=⟨116,0,AS 25 (AA Tryz.f97),⟨0,[2,3,4,5,8,9,18],[Aa,IR,AF,BJ,CX,EW,Ap],[CE,HR,CE,Js]⟩,[(.ret,⟨0,[8,9,10,11],[AF,BJ,Ap,Aa],[CE,Js]⟩),(.normal,⟨0,[2,3,4,5,8,9],[Aa,IR,AF,BJ,CX,EW],[CE,HR,CE,Js]⟩)]⟩
def sN{β:Type}(k1:Aj3 β):Azu β:=λt ok due g g2 g3 g4 t8 t9 n n2 n3 n4 CL Ce Di=>
 Gq (if(Yh.wrap (t+1))>due then(Yh.wrap (t+1))else due) (λrlimited=>
 Gb (g,(g2,(CL,(rlimited,g4)))) (λD2=>
 Yr D2
 (k1 ok 0 g g2 (-1) g4 n n2 n3 n4 CL Ce Di)
 (k1 ok 0 g g2 rlimited g4 n n2 n3 n4 CL Ce Di)))
def Rd{β:Type}:=hid (sN (β:=β))
def AzA:Pb:=⟨1023,Aj4,λ_=>Rd,pe (p:=Aj4) Rc [] 1023 (g:=λ_=>sN)⟩
def sO{β:Type}(k1:Aj5 β):Azv β:=λt ok g g2 g3 g4 r_ t8 t9 n n2 n3 n4 Ce Di DM=>aC Ce (λJB=>let due:=(Yh.wrap (g4+r_.2.2.2.2.2.2.1));Yr JB (let due2:=(Yh.wrap (t+r_.2.2.2.2.2.1));Rd (λAT Bu Dn Dy Dz t85 I8 I9 IA IB BL Cd CL=>k1 AT Bu Dn Dy Dz t85 I8 I9 IA IB BL Cd CL) t ok due2 g g2 g3 g4 t8 t9 n n2 n3 n4 Ce Di DM) (Yr (Yf (due<=t)) (let due2:=(Yh.wrap (t+r_.2.2.2.2.2.1));Rd (λAT Bu Dn Dy Dz t85 I8 I9 IA IB BL Cd CL=>k1 AT Bu Dn Dy Dz t85 I8 I9 IA IB BL Cd CL) t ok due2 g g2 g3 g4 t8 t9 n n2 n3 n4 Ce Di DM) (Rd (λAT Bu Dn Dy Dz t85 I8 I9 IA IB BL Cd CL=>k1 AT Bu Dn Dy Dz t85 I8 I9 IA IB BL Cd CL) t ok due g g2 g3 g4 t8 t9 n n2 n3 n4 Ce Di DM)))
def Re{β:Type}:=hid (sO (β:=β))
def AzB:Pb:=⟨127,Aj6,λ_=>Re,pe (p:=Aj6) Rc [AzA] 127 (g:=λ_=>sO)⟩
def aD{β:Type}(rec:sM β)(k1:sL β):sM β:=λt ok t66 FI g g2 g3 g4 r_ t8 t9 n n2 n3 n4 Hg Di DM=>Yr (Yf (FI<t66)) (Yr (Yf (0<=FI)&&Yf (FI<(Yg Hg:Yi))) (Yr ((((((Yn Hg (Yj FI) (([]:Ya Yl),(([]:Ya Al),(0,(0,(Yc,Yc)))))).2).2).2).2).2) (Yr (Yf (0<=FI)&&Yf (FI<(Yg Hg:Yi))) (let l:=(YG Hg (Yj FI) ((Yn Hg (Yj FI) (([]:Ya Yl),(([]:Ya Al),(0,(0,(Yc,Yc)))))).1,(((Yn Hg (Yj FI) (([]:Ya Yl),(([]:Ya Al),(0,(0,(Yc,Yc)))))).2).1,((((Yn Hg (Yj FI) (([]:Ya Yl),(([]:Ya Al),(0,(0,(Yc,Yc)))))).2).2).1,(((((Yn Hg (Yj FI) (([]:Ya Yl),(([]:Ya Al),(0,(0,(Yc,Yc)))))).2).2).2).1,((((((Yn Hg (Yj FI) (([]:Ya Yl),(([]:Ya Al),(0,(0,(Yc,Yc)))))).2).2).2).2).1,Yo))))));rec t ok t66 (Yh.wrap (FI+(1:Yi))) g g2 g3 g4 r_ t8 t9 n n2 n3 n4 l Di DM) Ye) (Nu Di ((Yn Hg (Yj FI) (([]:Ya Yl),(([]:Ya Al),(0,(0,(Yc,Yc)))))).1) (λVE=>Yr (Yf (0<=FI)&&Yf (FI<(Yg Hg:Yi))) (let l:=(YG Hg (Yj FI) ((Yn Hg (Yj FI) (([]:Ya Yl),(([]:Ya Al),(0,(0,(Yc,Yc)))))).1,(((Yn Hg (Yj FI) (([]:Ya Yl),(([]:Ya Al),(0,(0,(Yc,Yc)))))).2).1,((((Yn Hg (Yj FI) (([]:Ya Yl),(([]:Ya Al),(0,(0,(Yc,Yc)))))).2).2).1,(((((Yn Hg (Yj FI) (([]:Ya Yl),(([]:Ya Al),(0,(0,(Yc,Yc)))))).2).2).2).1,((((((Yn Hg (Yj FI) (([]:Ya Yl),(([]:Ya Al),(0,(0,(Yc,Yc)))))).2).2).2).2).1,VE))))));rec t ok t66 (Yh.wrap (FI+(1:Yi))) g g2 g3 g4 r_ t8 t9 n n2 n3 n4 l Di DM) Ye))) Ye) (k1 t ok g g2 g3 g4 r_ t8 t9 n n2 n3 n4 Hg Di DM)
def OH(m:Yk){β:Type}(k1:sL β):sM β:=AcL (λr=>aD r k1) Ye m
theorem Ajb{β:Type}(i:Yk)(k1):OH (β:=β) (i+1) k1=aD (OH i k1) k1:=rfl
def sP{β:Type}:=hid (OH (β:=β) fuel)
def AzC:Pb:=⟨8110,Aj7,λ_=>sP,pl (p:=Aj7) Rc [] (g:=λi _=>OH i)⟩
def sQ{β:Type}(k1:Aj8 β):Azw β:=λt muted g r_ t8 t9=>O9 g (λD7 D8 EC Dx Fa=>Yr (Yf (EC=(-1:Yi))) (k1 Yc 0 D7 D8 EC Dx 0 0 0 ([]:Ya Yl) Fa ([]:Ya Ar) ([]:Ya Ar)) (Yr (Yf (t<EC)) (k1 Yc 0 D7 D8 EC Dx 0 0 0 ([]:Ya Yl) Fa ([]:Ya Ar) ([]:Ya Ar)) (Zf (D7,(D8,(Fa,(EC,Dx)))) r_ t muted (λrnotice rnotice2 rnotice3 rnotice4 rnotice5 AF1 Am7=>Yr rnotice5 (Ln (λ(xk:AW) kk=>Nu Am7 xk.1 kk) Fa (λlk=>sP (λt2 ok g2 g3 g4 g5 Bz Dn I8 n n2 n3 n4 Ce Di DM=>Re (λAT Bu Dy Dz t85 ME I9 IA IB yY BL Cd CL=>k1 AT Bu Dy Dz t85 ME I9 IA IB yY BL Cd CL) t2 ok g2 g3 g4 g5 Bz Dn I8 n n2 n3 n4 Ce Di DM) t rnotice5 (Yg lk:Yi) 0 D7 D8 EC t r_ t8 t9 rnotice rnotice2 rnotice3 rnotice4 lk AF1 Am7)) (Re (λAT Bu Dn Dy Dz t85 I8 I9 IA IB BL Cd CL=>k1 AT Bu Dn Dy Dz t85 I8 I9 IA IB BL Cd CL) t rnotice5 D7 D8 EC Dx r_ t8 t9 0 0 0 ([]:Ya Yl) Fa ([]:Ya Ar) ([]:Ya Ar))))))
def Us{β:Type}:=hid (sQ (β:=β))
def AzD:Pb:=⟨7,Aj9,λ_=>Us,pe (p:=Aj9) Rc [AzB,AzC] 7 (g:=λ_=>sQ)⟩
def sR{β:Type}(k1:Azx β)(k2:Azy β):Azz β:=λt muted Gx g r_ t8 t9=>Yr Gx (k1 Yc 8 HP Xr) (K5 t 0 8589934592 (λJC=>Yr (!JC) (k1 Yc 1 HP Xr) (k2 t muted g r_ t8 t9)))
def Ut{β:Type}:=hid (sR (β:=β))
def AzE:Pb:=⟨25,Aja,λ_=>Ut,pe (p:=Aja) Rc [] 25 (g:=λ_=>sR)⟩
def aF:Azt:=hid λg r_ t muted k=>Lr g (λFF=>Yr (!FF) (Ut (λAT Bu t8 t9=>k t8 t9 AT Bu) (λt2 muted2 g2 Bz t8 t9=>Us (λAT Bu Dn Dy Dz t85 I8 I9 IA IB BL Cd CL=>k (Dn,(Dy,(BL,(Dz,t85)))) (I8,(I9,(IA,(IB,(Cd,CL))))) AT Bu) t2 muted2 g2 Bz t8 t9) t muted Yo g r_ HP Xr) (Nv r_ (λVK=>Ut (λAT Bu t8 t9=>k t8 t9 AT Bu) (λt2 muted2 g2 Bz t8 t9=>Us (λAT Bu Dn Dy Dz t85 I8 I9 IA IB BL Cd CL=>k (Dn,(Dy,(BL,(Dz,t85)))) (I8,(I9,(IA,(IB,(Cd,CL))))) AT Bu) t2 muted2 g2 Bz t8 t9) t muted (!VK) g r_ HP Xr)))
def AzF:En:=⟨97,.spec (sg [HS,Nm,Aa,IR] [] [HS,(Yo,[.data Hp]),Ap,Aa] [] aF),pf Rc [AzD,AzE] [.cell 8 111,.cell 9 65,.tmp 10,.tmp 11] Tryz.func97⟩
def AzG:Shelf.Ren:=
   {
   f:=λx=>
    match x with
    |6=>322
    |15=>271
    |14=>386
    |28=>354
    |29=>355
    |20=>442
    |21=>443
    |22=>444
    |23=>445
    |24=>446
    |25=>447
    |26=>448
    |27=>449
    |46=>478
    |47=>414
    |48=>415
    |49=>479
    |50=>480
    |57=>498
    |n=>n,
   t:=λx=>
    match x with
    |22=>142
    |24=>156
    |25=>442
    |3=>3
    |39=>302
    |0=>0
    |53=>467
    |55=>469
    |4=>4
    |46=>461
    |45=>460
    |50=>106
    |5=>5
    |9=>9
    |66=>514
    |70=>518
    |76=>563
    |77=>376
    |n=>n,
   g:=λx=>x}
theorem AzH:Go.Proofs.SlLaysF0.n6 Tryz.prog AzG:=
 {
  mixed:=by kernel_rfl,
  f6:=Y3 "slices.SortFunc[[]pagewatch/api.Segment,pagewatch/api.Segment]" ⟨AC (by kernel_rfl),Eq.trans Tryz.func322 (Ai Yd (by kernel_rfl))⟩,
  f14:=Y3 "slices.pdqsortCmpFunc[pagewatch/api.Segment]" ⟨AC (by kernel_rfl),Eq.trans Tryz.func386 (Ai Yd (by kernel_rfl))⟩,
  f15:=Eq.trans Tryz.func271 (Ai Yd (by kernel_rfl)),
  f20:=Y3 "slices.insertionSortCmpFunc[pagewatch/api.Segment]" ⟨AC (by kernel_rfl),Eq.trans Tryz.func442 (Ai Yd (by kernel_rfl))⟩,
  f21:=Y3 "slices.heapSortCmpFunc[pagewatch/api.Segment]" ⟨AC (by kernel_rfl),Eq.trans Tryz.func443 (Ai Yd (by kernel_rfl))⟩,
  f22:=Y3 "slices.breakPatternsCmpFunc[pagewatch/api.Segment]" ⟨AC (by kernel_rfl),Eq.trans Tryz.func444 (Ai Yd (by kernel_rfl))⟩,
  f23:=Y3 "slices.choosePivotCmpFunc[pagewatch/api.Segment]" ⟨AC (by kernel_rfl),Eq.trans Tryz.func445 (Ai Yd (by kernel_rfl))⟩,
  f24:=Y3 "slices.reverseRangeCmpFunc[pagewatch/api.Segment]" ⟨AC (by kernel_rfl),Eq.trans Tryz.func446 (Ai Yd (by kernel_rfl))⟩,
  f25:=Y3 "slices.partialInsertionSortCmpFunc[pagewatch/api.Segment]" ⟨AC (by kernel_rfl),Eq.trans Tryz.func447 (Ai Yd (by kernel_rfl))⟩,
  f26:=Y3 "slices.partitionEqualCmpFunc[pagewatch/api.Segment]" ⟨AC (by kernel_rfl),Eq.trans Tryz.func448 (Ai Yd (by kernel_rfl))⟩,
  f27:=Y3 "slices.partitionCmpFunc[pagewatch/api.Segment]" ⟨AC (by kernel_rfl),Eq.trans Tryz.func449 (Ai Yd (by kernel_rfl))⟩,
  f28:=Eq.trans Tryz.func354 (Ai Yd (by kernel_rfl)),
  f29:=Eq.trans Tryz.func355 (Ai Yd (by kernel_rfl)),
  f46:=Y3 "slices.siftDownCmpFunc[pagewatch/api.Segment]" ⟨AC (by kernel_rfl),Eq.trans Tryz.func478 (Ai Yd (by kernel_rfl))⟩,
  f47:=Eq.trans Tryz.func414 (Ai Yd (by kernel_rfl)),
  f48:=Eq.trans Tryz.func415 (Ai Yd (by kernel_rfl)),
  f49:=Y3 "slices.medianAdjacentCmpFunc[pagewatch/api.Segment]" ⟨AC (by kernel_rfl),Eq.trans Tryz.func479 (Ai Yd (by kernel_rfl))⟩,
  f50:=Y3 "slices.medianCmpFunc[pagewatch/api.Segment]" ⟨AC (by kernel_rfl),Eq.trans Tryz.func480 (Ai Yd (by kernel_rfl))⟩,
  f57:=Y3 "slices.order2CmpFunc[pagewatch/api.Segment]" ⟨AC (by kernel_rfl),Eq.trans Tryz.func498 (Ai Yd (by kernel_rfl))⟩,
  t0:=Tryz.underlying0,
  a0:=Tryz.isAgg0,
  z0:=Tryz.sizeOf0,
  v0:=Tryz.zeroValue0,
  t3:=Tryz.underlying3,
  a3:=Tryz.isAgg3,
  z3:=Tryz.sizeOf3,
  v3:=Tryz.zeroValue3,
  t4:=Tryz.underlying4,
  a4:=Tryz.isAgg4,
  z4:=Tryz.sizeOf4,
  v4:=Tryz.zeroValue4,
  t5:=Tryz.underlying5,
  a5:=Tryz.isAgg5,
  z5:=Tryz.sizeOf5,
  v5:=Tryz.zeroValue5,
  t9:=Tryz.underlying9,
  a9:=Tryz.isAgg9,
  z9:=Tryz.sizeOf9,
  v9:=Tryz.zeroValue9,
  t22:=Tryz.underlying142,
  a22:=Tryz.isAgg142,
  z22:=Tryz.sizeOf142,
  v22:=Tryz.zeroValue142,
  t25:=Tryz.underlying442,
  a25:=Tryz.isAgg442,
  z25:=Tryz.sizeOf442,
  v25:=Tryz.zeroValue442,
  t39:=Tryz.underlying302,
  a39:=Tryz.isAgg302,
  z39:=Tryz.sizeOf302,
  v39:=Tryz.zeroValue302,
  t45:=Tryz.underlying460,
  a45:=Tryz.isAgg460,
  z45:=Tryz.sizeOf460,
  v45:=Tryz.zeroValue460,
  t46:=Tryz.underlying461,
  a46:=Tryz.isAgg461,
  z46:=Tryz.sizeOf461,
  v46:=Tryz.zeroValue461,
  t50:=Tryz.underlying106,
  a50:=Tryz.isAgg106,
  z50:=Tryz.sizeOf106,
  v50:=Tryz.zeroValue106,
  t53:=Tryz.underlying467,
  a53:=Tryz.isAgg467,
  z53:=Tryz.sizeOf467,
  v53:=Tryz.zeroValue467,
  t55:=Tryz.underlying469,
  a55:=Tryz.isAgg469,
  z55:=Tryz.sizeOf469,
  v55:=Tryz.zeroValue469,
  t66:=Tryz.underlying514,
  a66:=Tryz.isAgg514,
  z66:=Tryz.sizeOf514,
  v66:=Tryz.zeroValue514,
  t70:=Tryz.underlying518,
  a70:=Tryz.isAgg518,
  z70:=Tryz.sizeOf518,
  v70:=Tryz.zeroValue518,
  t76:=Tryz.underlying563,
  a76:=Tryz.isAgg563,
  z76:=Tryz.sizeOf563,
  v76:=Tryz.zeroValue563,
  t77:=Tryz.underlying376,
  a77:=Tryz.isAgg376,
  z77:=Tryz.sizeOf376,
  v77:=Tryz.zeroValue376}
def OI:(Yi×Yi×Yi)->Ys:=λx=>decide (0<=x.1)&&Yf (x.1<=4611686018427387904)
def aG:(Yi×Yi×Yi)->(Yi×Yi×Yi)->Yi:=λx y=>x.1-y.1
def AzI:Ya (Yi×Yi×Yi)->Ya (Yi×Yi×Yi):=FY OI ((0,0,0):Yi×Yi×Yi) rfl aG
theorem AzJ(x y:Yi×Yi×Yi)(hx:OI x=Yo)(hy:OI y=Yo)(W:World):Calls Tryz.prog 323 #[.agg (encT (.prod (.int .i64) (.prod (.int .i64) (.int .i64))) x).toArray,.agg (encT (.prod (.int .i64) (.prod (.int .i64) (.int .i64))) y).toArray] W λe w'=>e=.returned (.int .i64 (aG x y))/\∃q os',w'=Go.Sort.grow (W.drewN q) os':=by
 obtain⟨a,b,b'⟩:=x;obtain⟨c,d,d'⟩:=y;simp only[OI,CO,HB]at hx hy;obtain⟨h1,h2⟩:=hx;obtain⟨h3,h4⟩:=hy;change Calls Tryz.prog 323 #[.agg #[.int .i64 a,.int .i64 b,.int .i64 b'],.agg #[.int .i64 c,.int .i64 d,.int .i64 d']] W λe w'=>e=.returned (.int .i64 (a-c))/\_;have hw:Yai (a-c)=a-c:=by unfold Yai;omega
 go_enter Tryz.func323,Tryz.ntmps323
 go_wp2
 go_ret
 exact⟨rfl,0,_,by rw[Go.Sort.alloc_eq_grow,Go.Sort.alloc_eq_grow,Go.Sort.grow_grow];rfl⟩
theorem AzK:Go.Sort.SWO (Go.Proofs.ltOf λ(x y:{x:Yi×Yi×Yi // OI x=Yo})=>aG x.1 y.1):=by
 constructor
 ·intro x
  refine Ex ?_;show ¬x.1.1-x.1.1<0;omega
 ·intro x y z h1 h2
  have h1:x.1.1-y.1.1<0:=AC h1;have h2:y.1.1-z.1.1<0:=AC h2;refine CD ?_;show x.1.1-z.1.1<0;omega
 ·intro x y z h1 h2
  have h1:¬x.1.1-y.1.1<0:=MI h1;have h2:¬y.1.1-z.1.1<0:=MI h2;refine Ex ?_;show ¬x.1.1-z.1.1<0;omega
def Ajc:RowF:=⟨156,(.prod (.int .i64) (.prod (.int .i64) (.int .i64))),Yc,λl=>List.all l OI&&Yf (Yg l<4611686018427387904),AzI,Yd 323⟩
theorem AzL:RowOk Tryz.prog 322 Ajc:=
 Aco (t:=156) (e:=(.prod (.int .i64) (.prod (.int .i64) (.int .i64)))) (good:=OI) (d0:=((0,0,0):Yi×Yi×Yi)) (h0:=rfl) (cf:=aG) (g:=323) rfl (by decide) AzH rfl Tryz.isAgg156 Tryz.sizeOf156 AzK (Go.Proofs.enters_of Tryz.func323 (by kernel_rfl) rfl) AzJ ⟨_,Tryz.func322,by kernel_rfl,by kernel_rfl⟩
def Ajd:En:=⟨_,.rows Ajc,AzL⟩
def AzM:En:=.rauto mixed (X:=⟨look tab,gam [XT,AiQ,XW,Ajd,XX,AiM,AiF,Af0],Yc,Yc,Yc,Yc,[],Ye,100000,[]⟩) AG [XT,AiQ,XW,Ajd,XX,AiM,AiF,Af0] rfl AbL [Iu,JV,Aa,Aa] [] [AX] O3 [.tmp 8] Tryz.func239 (by kernel_rfl)
def Aje:En:=au [Axa,XT,AfH,Agm,AzM] [Iu,JV,Aa,Aa] [] [AX] O3 [.tmp 8] Tryz.func139 (by kernel_rfl)
abbrev AzN:={β:Type}->Ax->BE->Mf->(BE->Yi->Yb β)->Yb β
def aH:Ya En:=[Ayz,Aqh,sK,Ad1,oP,Awb,Ad4,QL,Az6,AgK,Aqf]
abbrev sS(β:Type):=Yi->Yi->Yi->D4->D0->Yb β
abbrev sT(β:Type):=Ax->Yi->Yi->Yi->Yi->D4->D0->D4->D0->Yb β
abbrev aI(β:Type):=Yi->Yi->Ax->Yi->Yi->Mf->Yi->Yi->Ga->D4->D0->D4->D0->Yb β
def aJ:Pc:=⟨122,0,AS 506 (AA Tryz.f16),⟨0,[3,4,5,6,44,45,46],[AF,BJ,CX,EW,Nn,Aa,Aa],Tj⟩,[(.ret,⟨0,[6,7],[AF,Aa],jT⟩),(.exit 0,⟨0,[3,4,6],[AF,BJ,CX],[F3,jQ,Acy,.row 111 EJ,.row 51 Fg,.row 111 EJ,.row 51 Fg]⟩)]⟩
abbrev Ajf(β:Type):=Yi->Yi->Yi->D4->D0->Yb β
abbrev Ajg(β:Type):=Yi->Yi->Ax->Yi->Yi->Mf->Yi->Yi->Ga->D4->D0->D4->D0->Yb β
abbrev AzO(β:Type):=Yi->Yi->Yi->Yi->Ax->Yi->Yi->Mf->Yi->Yi->Ga->D4->D0->D4->D0->Yb β
def Ajh:Pc:=⟨122,0,AS 927 (Gm aJ.c),⟨0,[3,4,5,6,10,12,44,45,46],[AF,BJ,CX,EW,Aa,Aa,Nn,Aa,Aa],Tj⟩,[(.ret,⟨0,[6,7],[AF,Aa],jT⟩),(.normal,⟨0,[3,4,5,6,44,45,46],[AF,BJ,CX,EW,Nn,Aa,Aa],Tj⟩)]⟩
abbrev Aji(β:Type):=Yi->Yi->Yi->D4->D0->Yb β
abbrev AzP(β:Type):=Yi->Yi->Ax->Yi->Yi->Mf->Yi->Yi->Ga->D4->D0->D4->D0->Yb β
abbrev AzQ(β:Type):=Yi->Ar->Yi->Ys->Yi->Yi->Ax->Yi->Yi->Mf->Yi->Yi->Ga->D4->D0->D4->D0->Yb β
def Ajj:Pc:=⟨122,0,AS 463 (Gm aJ.c),⟨0,[3,4,5,6,10,11,12,13,44,45,46],[AF,BJ,CX,EW,Aa,AL,Aa,Ap,Nn,Aa,Aa],Tj⟩,[(.ret,⟨0,[6,7],[AF,Aa],jT⟩),(.normal,⟨0,[3,4,5,6,44,45,46],[AF,BJ,CX,EW,Nn,Aa,Aa],Tj⟩)]⟩
def sU{β:Type}(k1:Ajf β)(k2:Ajg β):AzO β:=λi_ k_ t45 t46 r_ s s2 a t6 E5 GK Ce Di DM Mt=>Yr (Yf (0<=k_)&&Yf (k_<(Yg Ce:Yi))) (Yr (Yf (0<=i_)&&Yf (i_<(Yg r_.1:Yi))) (let e:=Yn r_.1 (Yj i_) (0,(([]:Ya BA),(0,(([]:Ya Ar),(0,(0,(0,Yc)))))));ZT (Yn Ce (Yj k_) (0,(([]:Ya Yl),(([]:Ya AW),(0,0))))) e a.2.1 a.2.2 a.1 (λcS AFc=>Yr (!Yf (AFc=(0:Yi))) (k1 5 0 0 ([]:Ya Ag) ([]:Ya CW)) (Yr (Yf (0<=k_)&&Yf (k_<(Yg Ce:Yi))) (let l:=(YG Ce (Yj k_) cS);k2 t45 t46 r_ s s2 a t6 E5 GK l Di DM Mt) Ye))) Ye) Ye
def Rf{β:Type}:=hid (sU (β:=β))
def AzR:Pb:=⟨927,Ajh,λ_=>Rf,pe (p:=Ajh) aH [] 927 (g:=λ_=>sU)⟩
def aK{β:Type}(k1:Aji β)(k2:AzP β):AzQ β:=λi_ key k_ ok t45 t46 r_ s s2 a t6 E5 GK Ce Di DM Mt=>Yr (!ok) (X5 i_ key (λcX=>let l:=([cX]:Ya Ag);Yr (Yf ((0:Yi)<=k_)&&(Yf (k_<=(Yg Ce:Yi))&&Yf (Yg Ce<1000000000))) (let l2:=(insL Ce (Yj k_) cX);Rf (λt7 FG FH D5 BL=>k1 t7 FG FH D5 BL) (λJF I7 Bz s3 s4 a2 FG FH JE Jv Jw Jy Jz=>k2 JF I7 Bz s3 s4 a2 FG FH JE Jv Jw Jy Jz) i_ k_ t45 t46 r_ s s2 a t6 E5 GK l2 Di DM Mt) Ye)) (Rf (λt7 FG FH D5 BL=>k1 t7 FG FH D5 BL) (λJF I7 Bz s3 s4 a2 FG FH JE Jv Jw Jy Jz=>k2 JF I7 Bz s3 s4 a2 FG FH JE Jv Jw Jy Jz) i_ k_ t45 t46 r_ s s2 a t6 E5 GK Ce Di DM Mt)
def OJ{β:Type}:=hid (aK (β:=β))
def AzS:Pb:=⟨463,Ajj,λ_=>OJ,pe (p:=Ajj) aH [AzR] 463 (g:=λ_=>aK)⟩
def sV{β:Type}(rec:aI β)(k1:sS β)(k2:sT β):aI β:=λt45 t46 r_ s s2 a t6 E5 GK Ce Di DM Mt=>Yr (Yf (t46<t45)) (Yr (Yf (0<=t46)&&Yf (t46<(Yg GK:Yi))) (let i_:=(Yn GK (Yj t46) 0);Yr (Yf (0<=i_)&&Yf (i_<(Yg r_.1:Yi))) (let e:=Yn r_.1 (Yj i_) (0,(([]:Ya BA),(0,(([]:Ya Ar),(0,(0,(0,Yc)))))));TT e a.2.1 (λVG=>TU Ce i_ VG (λrfind rfind2=>Yr (!rfind2) (Yr (!a.2.2) (rec t45 (Yh.wrap (t46+(1:Yi))) r_ s s2 a t6 E5 GK Ce Di DM Mt) (OJ (λt7 FG FH D5 BL=>k1 t7 FG FH D5 BL) (λJF I7 Bz s3 s4 a2 FG FH JE Jv Jw Jy Jz=>rec JF (Yh.wrap (I7+(1:Yi))) Bz s3 s4 a2 FG FH JE Jv Jw Jy Jz) i_ VG rfind rfind2 t45 t46 r_ s s2 a t6 E5 GK Ce Di DM Mt)) (OJ (λt7 FG FH D5 BL=>k1 t7 FG FH D5 BL) (λJF I7 Bz s3 s4 a2 FG FH JE Jv Jw Jy Jz=>rec JF (Yh.wrap (I7+(1:Yi))) Bz s3 s4 a2 FG FH JE Jv Jw Jy Jz) i_ VG rfind rfind2 t45 t46 r_ s s2 a t6 E5 GK Ce Di DM Mt)))) Ye) Ye) (k2 r_ s s2 t6 E5 Ce Di DM Mt)
def Rg(m:Yk){β:Type}(k1:sS β)(k2:sT β):aI β:=AcJ (λr=>sV r k1 k2) Ye m
theorem AzT{β:Type}(i:Yk)(k1 k2):Rg (β:=β) (i+1) k1 k2=sV (Rg i k1 k2) k1 k2:=rfl
def sW{β:Type}:=hid (Rg (β:=β) fuel)
def AzU:Pb:=⟨506,aJ,λ_=>sW,pl (p:=aJ) aH [AzS] (g:=λi _=>Rg i)⟩
def Uu:AzN:=hid λr_ s a k=>Rb r_ s (λFF=>Yr (!FF) (k JT 8) (Mn a.2.1 (λyT=>Yr (!yT) (k JT 8) (Ts s a.1 (λrcheck=>Yr (!Yf (rcheck=0)) (k JT rcheck) (QT s (λrcopied rcopied2 FD cP=>Um r_.1 a.2.1 (λAm2=>sW (λt7 t6 E5 D5 BL=>k (t6,(D5,(BL,E5))) t7) (λBz s2 s3 t6 E5 Cd CL Ce Di=>Ln (λ(xk:Ag) kk=>Nq Bz xk s2 kk) Cd (λlk=>Yr (Yf ((64:Yi)<(Yg lk:Yi))) (k JT 5) (k (s2,(lk,(CL,s3))) 0))) (Yg Am2:Yi) 0 r_ a.1 rcopied2 a 0 0 Am2 FD cP ([]:Ya Ag) ([]:Ya CW)))))))))
def AzV:En:=⟨16,.spec (sg [Nl,IS,(Yo,[.data jM])] [] [IS,Aa] [] Uu),pf aH [AzU] [.cell 6 43,.tmp 7] Tryz.func16⟩
abbrev AzW:={β:Type}->Ax->BE->Yi->(BE->IN->Yb β)->Yb β
def sX:Ya En:=[Ay9,AzF,AuA,oP,Aza,Ad4]
abbrev sY(β:Type):=Yi->Ax->Yi->Yi->BE->D4->D0->Yb β
abbrev sZ(β:Type):=Yi->Yi->Yi->Ax->Yi->Yi->BE->D4->D0->Yb β
def Ajk:Pc:=⟨93,0,AS 122 (AA Tryz.f41),⟨0,[2,3,4,6,23,24,25],[Aa,AF,BJ,CX,(Yc,[.rowh 3]),Aa,Aa],[F3,jQ,GX,.row 111 EJ,.row 51 Fg]⟩,[(.exit 0,⟨0,[2,3,4,6],[Aa,AF,BJ,CX],[F3,jQ,GX,.row 111 EJ,.row 51 Fg]⟩)]⟩
abbrev tA(β:Type):=Ax->Yi->Yi->BE->IN->D4->D0->Yb β
abbrev tB(β:Type):=Yi->Yi->Yi->Ax->Yi->Yi->BE->IN->D4->D0->Yb β
def Ajl:Pc:=⟨93,0,AS 1018 (AA Tryz.f41),⟨0,[2,3,4,6,10,11,52,53,54],[Aa,AF,BJ,CX,(Yc,[.junk]),(Yc,[.rowh 3]),Nn,Aa,Aa],AcB⟩,[(.exit 2,⟨0,[3,4,6,11],[AF,BJ,CX,(Yc,[.rowh 3])],AcB⟩)]⟩
def tC{β:Type}(rec:sZ β)(k1:sY β):sZ β:=λnow t24 t25 r_ s s2 t6 t23 CL=>Yr (Yf (t25<t24)) (Yr (Yf (0<=t25)&&Yf (t25<(Yg t23:Yi))) (Yr (Yf (0<=(Yn t23 (Yj t25) (0,(([]:Ya Yl),(([]:Ya AW),(0,0))))).1)&&Yf ((Yn t23 (Yj t25) (0,(([]:Ya Yl),(([]:Ya AW),(0,0))))).1<(Yg r_.1:Yi))) (let e:=Yn r_.1 (Yj ((Yn t23 (Yj t25) (0,(([]:Ya Yl),(([]:Ya AW),(0,0))))).1)) jO;ZM (Yn t23 (Yj t25) (0,(([]:Ya Yl),(([]:Ya AW),(0,0))))) e now r_.2.2 (λAFn AGI=>Yr (Yf (0<=t25)&&Yf (t25<(Yg t23:Yi))) (let l:=(YG t23 (Yj t25) AFn);rec now t24 (Yh.wrap (t25+(1:Yi))) r_ s s2 t6 l CL) Ye)) Ye) Ye) (k1 now r_ s s2 t6 t23 CL)
def Uv(m:Yk){β:Type}(k1:sY β):sZ β:=jW (λr=>tC r k1) Ye m
theorem AzX{β:Type}(i:Yk)(k1):Uv (β:=β) (i+1) k1=tC (Uv i k1) k1:=rfl
def tD{β:Type}:=hid (Uv (β:=β) fuel)
def AzY:Pb:=⟨122,Ajk,λ_=>tD,pl (p:=Ajk) sX [] (g:=λi _=>Uv i)⟩
def aL{β:Type}(rec:tB β)(k1:tA β):tB β:=λnow t53 JG r_ s s2 t6 out Gy Ce=>Yr (Yf (JG<t53)) (Yr (Yf (0<=JG)&&Yf (JG<(Yg Gy:Yi))) (Yr (Yf (0<=(Yn Gy (Yj JG) (0,(([]:Ya Yl),(([]:Ya AW),(0,0))))).1)&&Yf ((Yn Gy (Yj JG) (0,(([]:Ya Yl),(([]:Ya AW),(0,0))))).1<(Yg r_.1:Yi))) (let e:=Yn r_.1 (Yj ((Yn Gy (Yj JG) (0,(([]:Ya Yl),(([]:Ya AW),(0,0))))).1)) jO;aB r_ (s,(Gy,(Ce,s2))) (Yn Gy (Yj JG) (0,(([]:Ya Yl),(([]:Ya AW),(0,0))))) (λAF0=>aF (Yn Gy (Yj JG) (0,(([]:Ya Yl),(([]:Ya AW),(0,0))))) e now AF0 (λAFs yL AFt AGJ=>Yr (Yf (0<=JG)&&Yf (JG<(Yg Gy:Yi))) (let l:=(YG Gy (Yj JG) AFs);Yr AFt (let l2:=([yL]:Ya Cg);Yr (Yf ((Yg out+Yg l2)*88<=Cn)) (let l3:=(out++l2);rec now t53 (Yh.wrap (JG+(1:Yi))) r_ s s2 t6 l3 l Ce) Ye) (rec now t53 (Yh.wrap (JG+(1:Yi))) r_ s s2 t6 out l Ce)) Ye))) Ye) Ye) (k1 r_ s s2 t6 out Gy Ce)
def Uw(m:Yk){β:Type}(k1:tA β):tB β:=AcH (λr=>aL r k1) Ye m
theorem Ajm{β:Type}(i:Yk)(k1):Uw (β:=β) (i+1) k1=aL (Uw i k1) k1:=rfl
def tE{β:Type}:=hid (Uw (β:=β) fuel)
def AzZ:Pb:=⟨1018,Ajl,λ_=>tE,pl (p:=Ajl) sX [] (g:=λi _=>Uw i)⟩
def tF:AzW:=hid λr_ s now k=>QT s (λrcopied rcopied2 FD cP=>tD (λnow2 Bz s2 s3 t6 Cd CL=>Zd (s2,(Cd,(CL,s3))) (λ_=>tE (λGg s4 s5 E5 out vR Ce=>Ln (λ(xk:Ag) kk=>Nq Gg xk s4 kk) vR (λlk=>k (s4,(lk,(Ce,s5))) out)) now2 (Yg Cd:Yi) 0 Bz s2 s3 t6 ([]:Ya Cg) Cd CL)) now (Yg FD:Yi) 0 r_ now rcopied2 JT FD cP)
def AA0:En:=⟨41,.spec (sg [Nl,IS,Aa] [] [IS,AX] [.row 65 Hp] tF),pf sX [AzY,AzZ] [.cell 6 43,.tmp 7] Tryz.func41⟩
def AA1:En:=au [Aje] [Iu,JV,Aa,Aa] [] [Aa,Ap] [] [.tmp 8,.tmp 9] Tryz.func52 (by kernel_rfl)
abbrev AA2:={β:Type}->Ax->BE->Yi->(BE->Yi->IN->Yb β)->Yb β
def OM:AA2:=hid λr_ s now k=>Rb r_ s (λFF=>Yr (!FF) (k JT 8 ([]:Ya Cg)) (Ts s now (λrcheck=>Yr (!Yf (rcheck=0)) (k JT rcheck ([]:Ya Cg)) (tF r_ s now (λrtick yB=>k rtick 0 yB)))))
def AA3:En:=⟨17,.spec (sg [Nl,IS,Aa] [] [IS,AX,Aa] [.row 65 Hp] OM),pf [sK,Ad1,AA0] [] [.cell 6 43,.tmp 7,.tmp 8] Tryz.func17⟩
abbrev AA4:={β:Type}->Ax->BE->CW->(BE->Yi->Yi->Yb β)->Yb β
def aM:AA4:=hid λr_ s x k=>Rb r_ s (λFF=>Yr (!FF) (k JT 0 8) (let t:=(Yf ((8589934592:Yi)<=s.2.2.2));Yr t (k JT 0 5) (r7 s.2.2.1 (s.2.2.2,x.2) (λcS AET=>Yr (!Yf (cS=0)) (k JT 0 cS) (QT s (λrcopied rcopied2 FD cP=>Yr (Yf ((0:Yi)<(Yg FD:Yi))) (Yr (Yf (0<=(0:Yi))&&Yf ((0:Yi)<(Yg FD:Yi))) (AcZ ((((Yn FD (Yj 0) (0,(([]:Ya Yl),(([]:Ya AW),(0,0))))).2).2).1) (λJB=>Yr JB (Yr (Yf ((((((Yn FD (Yj 0) (0,(([]:Ya Yl),(([]:Ya AW),(0,0))))).2).2).2).1)=(-1))) (Yr (Yf (0<=(0:Yi))&&Yf ((0:Yi)<(Yg FD:Yi))) (let l:=(YG FD (Yj 0) ((Yn FD (Yj 0) (0,(([]:Ya Yl),(([]:Ya AW),(0,0))))).1,(((Yn FD (Yj 0) (0,(([]:Ya Yl),(([]:Ya AW),(0,0))))).2).1,((((Yn FD (Yj 0) (0,(([]:Ya Yl),(([]:Ya AW),(0,0))))).2).2).1,(x.2.2.1,((((Yn FD (Yj 0) (0,(([]:Ya Yl),(([]:Ya AW),(0,0))))).2).2).2).2)))));Ye) Ye) (Yr (Yf (x.2.2.1<(((((Yn FD (Yj 0) (0,(([]:Ya Yl),(([]:Ya AW),(0,0))))).2).2).2).1))) (Yr (Yf (0<=(0:Yi))&&Yf ((0:Yi)<(Yg FD:Yi))) (let l:=(YG FD (Yj 0) ((Yn FD (Yj 0) (0,(([]:Ya Yl),(([]:Ya AW),(0,0))))).1,(((Yn FD (Yj 0) (0,(([]:Ya Yl),(([]:Ya AW),(0,0))))).2).1,((((Yn FD (Yj 0) (0,(([]:Ya Yl),(([]:Ya AW),(0,0))))).2).2).1,(x.2.2.1,((((Yn FD (Yj 0) (0,(([]:Ya Yl),(([]:Ya AW),(0,0))))).2).2).2).2)))));Ye) Ye) (Ye))) (Ye))) Ye) (k (rcopied,(FD,(AET,(Yh.wrap (rcopied2+(1:Yi)))))) s.2.2.2 0)))))))
def AA5:En:=⟨9,.spec (sg [Nl,IS,(Yo,[.data Fg])] [] [IS,Aa,Aa] [] aM),pf [sK,oP,Aqd,AxS] [] [.cell 6 43,.tmp 7,.tmp 8] Tryz.func9⟩
def AA6:En:=.auto mixed (X:=⟨look tab,gam [HU,Ka,Aed,Afu,Agh,Agg,Agf,Mm],Yc,Yc,Yc,Yc,Lq,Ye,100000,[]⟩) AG [HU,Ka,Aed,Afu,Agh,Agg,Agf,Mm] rfl [Fh] [] [Xu,Aa] [] [.tmp 2,.tmp 3] Tryz.func48 (by kernel_rfl)
def Ajn:En:=au [Az3,Mm] [Fh] [] [Iu,Ap] [] [.cell 2 136,.tmp 3] Tryz.func131 (by kernel_rfl)
def tG:En:=.auto mixed (X:=⟨look tab,gam [Ae1,Mm],Yo,Yc,Yc,Yc,[],Ye,100000,[(74,[])]⟩) AG [Ae1,Mm] rfl [Fh,Aa,Te] [] [Fh,Aa] [] [.cell 6 74,.tmp 7] Tryz.func21 (by kernel_rfl)
def tH:En:=au [AA6,AxW] [Fh] [] [AL,Aa] [] [.tmp 2,.tmp 3] Tryz.func22 (by kernel_rfl)
def AA7:En:=.auto mixed (X:=⟨look tab,gam [Mm,AgY,AfG,Aho,AgZ,Ahm,Ahn,Ahl,Agk,Agj,Aex,Agl,Aew,Aec,Zz],Yc,Yc,Yc,Yc,DU,Ye,100000,[]⟩) AG [Mm,AgY,AfG,Aho,AgZ,Ahm,Ahn,Ahl,Agk,Agj,Aex,Agl,Aew,Aec,Zz] rfl [Xu] [] [Fh,Aa,Aa] [] [.cell 2 74,.tmp 3,.tmp 4] Tryz.func45 (by kernel_rfl)
def Ajo:En:=au [Ajn,Asj,X7] [Fh,Aa,Aa,Aa] [] [Iu,Aa] [] [.cell 8 136,.tmp 9] Tryz.func50 (by kernel_rfl)
def Ajp:En:=au [Aje,Ajo] [Fh,Aa,Aa,Aa] [] [AX,Aa] O3 [.tmp 8,.tmp 9] Tryz.func53 (by kernel_rfl)
def AA8:En:=au [Ajn,Az0,X7] [Fh,Aa,Aa] [] [Aa] [] [.tmp 6] Tryz.func61 (by kernel_rfl)
def tI:En:=au [AA7,AyH] [AL] [] [Fh,Aa,Aa] [] [.cell 2 74,.tmp 3,.tmp 4] Tryz.func20 (by kernel_rfl)
def tJ:En:=au [AA1,AxX,Ajo] [Fh,Aa,Aa] [] [Aa,Ap,Aa] [] [.tmp 6,.tmp 7,.tmp 8] Tryz.func23 (by kernel_rfl)
def tK:En:=.auto mixed (X:=⟨look tab,gam [AhB,Ae2,Ag6,Ajp,AiG,lH,rT,rK],Yc,Yc,Yc,Yc,[],Ye,100000,[]⟩) AG [AhB,Ae2,Ag6,Ajp,AiG,lH,rT,rK] rfl [Fh,Aa,Aa,Aa,Aa,Tf] [] [Oz,Aa] [] [.tmp 12,.tmp 13] Tryz.func24 (by kernel_rfl)
def tL:En:=au [AA8] [Fh,Aa,Aa] [] [Aa] [] [.tmp 6] Tryz.func25 (by kernel_rfl)
abbrev AA9:={β:Type}->(Ys->Yb β)->Yb β
def Rh:AA9:=ET ⟨look tab,gam [tJ,tG,tK,tH,tI,tL],Yc,Yc,Yc,Yc,[],Ye,100000,[]⟩ Tryz.f4 [] [] [Ap] [] [.tmp 0]
def AAa:En:=⟨4,.spec (sg [] [] [Ap] [] Rh),(FN mixed (X:=⟨look tab,gam [tJ,tG,tK,tH,tI,tL],Yc,Yc,Yc,Yc,[],Ye,100000,[]⟩) AG [tJ,tG,tK,tH,tI,tL] rfl [.tmp 0] Tryz.func4 (by kernel_rfl)).spec⟩
abbrev AAb:={β:Type}->Ga->Yi->(Ys->Yb β)->Yb β
def HV:Ya En:=[AzV,Aq1,AA5,AA3,AcQ,k9,Au5,Np,Afb,Avo,ApV,ApZ,ApX,Aw8,Au9,AAa]
abbrev aN(β:Type):=Yi->CU->Oy->Yi->IP->Yb β
abbrev tM(β:Type):=Yi->Yi->Yi->CU->Oy->Yi->IP->Yb β
def Ajq:Pc:=⟨221,0,AS 250 (AA Tryz.f3),⟨0,[1,5,6,51,52],[Aa,AF,BJ,Aa,Aa],AcD⟩,[(.exit 0,⟨0,[1,5,6],[Aa,AF,BJ],AcD⟩)]⟩
abbrev tN(β:Type):=Ys->Yb β
abbrev tO(β:Type):=BQ->Yi->Yi->Ys->Ax->BE->Yb β
abbrev tP(β:Type):=BQ->Yi->Yi->Ys->Yi->CU->Ax->BE->BE->Yb β
def Ri:Pc:=⟨221,0,AS 32762 (AA Tryz.f3),⟨0,[5,6,8,9,10,13,14,15,16],[AF,BJ,C2,Aa,CX,EW,Aa,Ap,Aa],O4⟩,[(.ret,⟨0,[4],[Ap],[]⟩),(.exit 2,⟨0,[6,8,9,10,14,15],[AF,C2,Aa,BJ,Aa,Ap],[F3,GX]⟩)]⟩
abbrev tQ(β:Type):=Ys->Yi->Yb β
abbrev tR(β:Type):=BQ->Ys->Yi->Yi->Yi->IN->Yb β
def Ajr:Pc:=⟨221,0,AS 131066 (AA Tryz.f3),⟨0,[8,15,33,203,204,205],[C2,Ap,Aa,AX,Aa,Aa],[.row 65 Hp]⟩,[(.exit 6,⟨0,[15,33],[Ap,Aa],[]⟩)]⟩
abbrev tT(β:Type):=Ys->Yb β
abbrev tU(β:Type):=BQ->Yi->Yi->Ys->Yi->CU->Ax->BE->BE->IN->IN->Yb β
abbrev tV(β:Type):=BQ->Yi->Yi->Ys->Yi->Yi->Yi->CU->Ax->BE->BE->IN->IN->IN->Yb β
def Ajs:Pc:=⟨221,0,AS 53242 (Gm Ri.c),⟨0,[5,6,8,9,10,13,14,15,16,26,28,170,171,172],[AF,BJ,C2,Aa,CX,EW,Aa,Ap,Aa,Nn,(Yc,[.rowh 5]),(Yc,[.rowh 6]),Aa,Aa],[DC,F3,GX,GX,.row 65 Hp,.row 65 Hp,.row 65 Hp]⟩,[(.ret,⟨0,[4],[Ap],[]⟩),(.exit 4,⟨0,[5,6,8,9,10,13,14,15,16,26,28],[AF,BJ,C2,Aa,CX,EW,Aa,Ap,Aa,Nn,(Yc,[.rowh 5])],[DC,F3,GX,GX,.row 65 Hp,.row 65 Hp]⟩)]⟩
abbrev Ajt(β:Type):=Ys->Yb β
abbrev Aju(β:Type):=BQ->Yi->Yi->Ys->Yi->CU->Ax->BE->BE->Yb β
abbrev AAc(β:Type):=BQ->Yi->Yi->Ys->Yi->CU->Ax->BE->BE->Yb β
def Ajv:Pc:=⟨221,0,AS 207 (Gm Ri.c),⟨0,[5,6,8,9,10,13,14,15,16],[AF,BJ,C2,Aa,CX,EW,Aa,Ap,Aa],O4⟩,[(.ret,⟨0,[4],[Ap],[]⟩),(.normal,⟨0,[5,6,8,9,10,13,14,15,16],[AF,BJ,C2,Aa,CX,EW,Aa,Ap,Aa],O4⟩)]⟩
abbrev tW(β:Type):=Ys->Yb β
abbrev tX(β:Type):=BQ->Yi->Yi->Ys->Yi->CU->Ax->BE->BE->Yb β
abbrev tY(β:Type):=BQ->Yi->Yi->Ys->Yi->CU->Ax->BE->BE->Yb β
abbrev AAd(β:Type):=BQ->Yi->Yi->Ys->Yi->Ys->CU->Ax->BE->BE->Mf->Yb β
def Ajw:Pc:=⟨221,0,AS 413 (Gm Ri.c),⟨0,[5,6,8,9,10,13,14,15,16,17,121],[AF,BJ,C2,Aa,CX,EW,Aa,Ap,Aa,(Yc,[.ptr 4 0]),Ap],[DC,F3,GX,GX,jP]⟩,[(.ret,⟨0,[4],[Ap],[]⟩),(.exit 3,⟨0,[5,6,8,9,10,13,14,15,16],[AF,BJ,C2,Aa,CX,EW,Aa,Ap,Aa],O4⟩),(.normal,⟨0,[5,6,8,9,10,13,14,15,16],[AF,BJ,C2,Aa,CX,EW,Aa,Ap,Aa],O4⟩)]⟩
abbrev Ajx(β:Type):=Ys->Yb β
abbrev Ajy(β:Type):=BQ->Yi->Yi->Ys->Yi->CU->Ax->BE->BE->Yb β
abbrev Ajz(β:Type):=BQ->Yi->Yi->Ys->Yi->CU->Ax->BE->BE->Yb β
abbrev AAe(β:Type):=BQ->Yi->Yi->Ys->Yi->CU->Ax->BE->BE->Mf->Yb β
def AjA:Pc:=⟨221,0,AS 103 (Gm Ri.c),⟨0,[5,6,8,9,10,13,14,15,16,17],[AF,BJ,C2,Aa,CX,EW,Aa,Ap,Aa,(Yc,[.ptr 4 0])],[DC,F3,GX,GX,jP]⟩,[(.ret,⟨0,[4],[Ap],[]⟩),(.exit 3,⟨0,[5,6,8,9,10,13,14,15,16],[AF,BJ,C2,Aa,CX,EW,Aa,Ap,Aa],O4⟩),(.normal,⟨0,[5,6,8,9,10,13,14,15,16],[AF,BJ,C2,Aa,CX,EW,Aa,Ap,Aa],O4⟩)]⟩
def aO{β:Type}(rec:tM β)(k1:aN β):tM β:=λn t51 Gy d r_ Bz BL=>Yr (Yf (Gy<t51)) (let l:=([([97,112,112]:Ya Yl)]:Ya Ar);Yr (Yf (0<=Gy)&&Yf (Gy<(Yg BL:Yi))) (let l2:=(YG BL (Yj Gy) ((Yn BL (Yj Gy) (0,(([]:Ya BA),(0,(([]:Ya Ar),(0,(0,(0,Yc)))))))).1,(((Yn BL (Yj Gy) (0,(([]:Ya BA),(0,(([]:Ya Ar),(0,(0,(0,Yc)))))))).2).1,((((Yn BL (Yj Gy) (0,(([]:Ya BA),(0,(([]:Ya Ar),(0,(0,(0,Yc)))))))).2).2).1,(l,(((((Yn BL (Yj Gy) (0,(([]:Ya BA),(0,(([]:Ya Ar),(0,(0,(0,Yc)))))))).2).2).2).2))))));rec n t51 (Yh.wrap (Gy+(1:Yi))) d r_ Bz l2) Ye) (k1 n d r_ Bz BL)
def Rj(m:Yk){β:Type}(k1:aN β):tM β:=To (λr=>aO r k1) Ye m
theorem AjB{β:Type}(i:Yk)(k1):Rj (β:=β) (i+1) k1=aO (Rj i k1) k1:=rfl
def tZ{β:Type}:=hid (Rj (β:=β) fuel)
def AAf:Pb:=⟨250,Ajq,λ_=>tZ,Qx mixed (X:=⟨look tab,gam HV,Yc,Yc,Yc,Yc,[],Ye,0,[(31,[0,1,2])]⟩) (p:=Ajq) AG HV rfl [] (g:=λi _=>Rj i) (by kernel_rfl) rfl (by kernel_rfl) (λ_ _=>rfl) λ_ _ _ _=>by kernel_rfl⟩
def u6{β:Type}(rec:tV β)(k1:tT β)(k2:tU β):tV β:=λmine end_ now told i_ t171 Ig d r_ a b m others RJ=>Yr (Yf (Ig<t171)) (Yr (Yf (0<=Ig)&&Yf (Ig<(Yg RJ:Yi))) (TS (Yn RJ (Yj Ig) (0,(0,(0,(([]:Ya Yl),(([]:Ya Ar),([]:Ya Ar))))))) mine (λyQ=>Yr yQ (Yr (Yf (((Yn RJ (Yj Ig) (0,(0,(0,(([]:Ya Yl),(([]:Ya Ar),([]:Ya Ar))))))).1)<end_)) (k1 Yc) (rec mine end_ now Yo i_ t171 (Yh.wrap (Ig+(1:Yi))) d r_ a b m others RJ)) (let l:=([(Yn RJ (Yj Ig) (0,(0,(0,(([]:Ya Yl),(([]:Ya Ar),([]:Ya Ar)))))))]:Ya Cg);Yr (Yf ((Yg others+Yg l)*88<=Cn)) (let l2:=(others++l);rec mine end_ now told i_ t171 (Yh.wrap (Ig+(1:Yi))) d r_ a b m l2 RJ) Ye))) Ye) (k2 mine end_ now told i_ d r_ a b m others)
def Ux(m:Yk){β:Type}(k1:tT β)(k2:tU β):tV β:=AcK (λr=>u6 r k1 k2) Ye m
theorem AAg{β:Type}(i:Yk)(k1 k2):Ux (β:=β) (i+1) k1 k2=u6 (Ux i k1 k2) k1 k2:=rfl
def u7{β:Type}:=hid (Ux (β:=β) fuel)
def AAh:Pb:=⟨53242,Ajs,λ_=>u7,Qx mixed (X:=⟨look tab,gam HV,Yc,Yc,Yc,Yc,[],Ye,0,[(31,[0,1,2])]⟩) (p:=Ajs) AG HV rfl [] (g:=λi _=>Ux i) (by kernel_rfl) rfl (by kernel_rfl) (λ_ _=>rfl) λ_ _ _ _=>by kernel_rfl⟩
def uA{β:Type}(k1:Ajt β)(k2:Aju β):AAc β:=λmine end_ now told i_ d r_ a b=>OM r_ a now (λAmi yS VA=>OM r_ b now (λAFM AFN AEZ=>Yr (!Yf (yS=(0:Yi))) (k1 Yc) (Yr (!Yf (AFN=(0:Yi))) (k1 Yc) (u7 (λt4=>k1 t4) (λmine2 end_2 now2 told2 Cl d2 Bz a2 b2 m others=>T6 others m (λAFG=>Yr (!AFG) (k1 Yc) (k2 mine2 end_2 now2 told2 Cl d2 Bz a2 b2))) mine end_ now told i_ (Yg VA:Yi) 0 d r_ Ami AFM AEZ ([]:Ya Cg) VA))))
def Lu{β:Type}:=hid (uA (β:=β))
def AAi:Pb:=⟨207,Ajv,λ_=>Lu,Xb mixed (X:=⟨look tab,gam HV,Yc,Yc,Yc,Yc,[],Ye,0,[(31,[0,1,2])]⟩) (p:=Ajv) AG HV rfl [AAh] 207 (g:=λ_=>uA) (by kernel_rfl) λ_ _=>by kernel_rfl⟩
def Uy{β:Type}(k1:tW β)(k2:tX β)(k3:tY β):AAd β:=λmine end_ now told i_ AFQ d r_ a b y=>Yr AFQ (Uu r_ a y (λAmd Ame=>Yr (!Yf (Ame=(0:Yi))) (let t:=(Yf (Ame=(5:Yi)));k1 t) (Yr (!Yf (i_=3)) (Uu r_ b y (λAFd AFe=>Yr (!Yf (AFe=(0:Yi))) (k1 Yc) (k2 mine end_ now told i_ d r_ Amd AFd))) (k2 mine end_ now told i_ d r_ Amd b)))) (k3 mine end_ now told i_ d r_ a b)
def K8{β:Type}:=hid (Uy (β:=β))
def AAj:Pb:=⟨413,Ajw,λ_=>K8,Xb mixed (X:=⟨look tab,gam HV,Yc,Yc,Yc,Yc,[],Ye,0,[(31,[0,1,2])]⟩) (p:=Ajw) AG HV rfl [] 413 (g:=λ_=>Uy) (by kernel_rfl) λ_ _=>by kernel_rfl⟩
def aP{β:Type}(k1:Ajx β)(k2:Ajy β)(k3:Ajz β):AAe β:=λmine end_ now told i_ d r_ a b y=>Yr (Yf (i_=3)) (K8 (λt4=>k1 t4) (λmine2 end_2 now2 told2 Cl d2 Bz a2 b2=>k2 mine2 end_2 now2 told2 Cl d2 Bz a2 b2) (λmine2 end_2 now2 told2 Cl d2 Bz a2 b2=>Lu (λt4=>k1 t4) (λmine3 end_3 now3 told3 FC d3 Gg a3 b3=>k3 mine3 end_3 now3 told3 FC d3 Gg a3 b3) mine2 end_2 now2 told2 Cl d2 Bz a2 b2) mine end_ now told i_ Yo d r_ a b y) (Yr (Yf (i_<16)) (Tr y.2.1 ([97,112,112]:Ya Yl) (λRG=>Yr (!Yf (RG=([109,105,110,101]:Ya Yl))) (Q8 2 d (λVD RF=>K8 (λt4=>k1 t4) (λmine2 end_2 now2 told2 Cl d2 Bz a2 b2=>k2 mine2 end_2 now2 told2 Cl d2 Bz a2 b2) (λmine2 end_2 now2 told2 Cl d2 Bz a2 b2=>Lu (λt4=>k1 t4) (λmine3 end_3 now3 told3 FC d3 Gg a3 b3=>k3 mine3 end_3 now3 told3 FC d3 Gg a3 b3) mine2 end_2 now2 told2 Cl d2 Bz a2 b2) mine end_ now told i_ VD RF r_ a b y)) (K8 (λt4=>k1 t4) (λmine2 end_2 now2 told2 Cl d2 Bz a2 b2=>k2 mine2 end_2 now2 told2 Cl d2 Bz a2 b2) (λmine2 end_2 now2 told2 Cl d2 Bz a2 b2=>Lu (λt4=>k1 t4) (λmine3 end_3 now3 told3 FC d3 Gg a3 b3=>k3 mine3 end_3 now3 told3 FC d3 Gg a3 b3) mine2 end_2 now2 told2 Cl d2 Bz a2 b2) mine end_ now told i_ Yc d r_ a b y))) (K8 (λt4=>k1 t4) (λmine2 end_2 now2 told2 Cl d2 Bz a2 b2=>k2 mine2 end_2 now2 told2 Cl d2 Bz a2 b2) (λmine2 end_2 now2 told2 Cl d2 Bz a2 b2=>Lu (λt4=>k1 t4) (λmine3 end_3 now3 told3 FC d3 Gg a3 b3=>k3 mine3 end_3 now3 told3 FC d3 Gg a3 b3) mine2 end_2 now2 told2 Cl d2 Bz a2 b2) mine end_ now told i_ Yc d r_ a b y))
def Rk{β:Type}:=hid (aP (β:=β))
def AAk:Pb:=⟨103,AjA,λ_=>Rk,Xb mixed (X:=⟨look tab,gam HV,Yc,Yc,Yc,Yc,[],Ye,0,[(31,[0,1,2])]⟩) (p:=AjA) AG HV rfl [AAi,AAj] 103 (g:=λ_=>aP) (by kernel_rfl) λ_ _=>by kernel_rfl⟩
def uB{β:Type}(rec:tP β)(k1:tN β)(k2:tO β):tP β:=λmine end_ now told i_ d r_ a b=>Yr (Yf (i_<26)) (let l:=([10,30,60]:Ya Yi);O8 l d (λcY yD=>let now2:=(Yh.wrap (now+cY));T4 yD (λAF3 AEV=>Hr 3 AF3 (λFE GH=>Yr (Yf (i_=3)) (Rk (λt4=>k1 t4) (λmine2 end_2 now3 told2 Cl d2 Bz a2 b2=>let FC:=(Yh.wrap (Cl+(1:Yi)));rec mine2 end_2 now3 told2 FC d2 Bz a2 b2) (λmine2 end_2 now3 told2 Cl d2 Bz a2 b2=>let FC:=(Yh.wrap (Cl+(1:Yi)));rec mine2 end_2 now3 told2 FC d2 Bz a2 b2) mine end_ now2 told i_ GH r_ a b (now2,(mine,Yo))) (Rk (λt4=>k1 t4) (λmine2 end_2 now3 told2 Cl d2 Bz a2 b2=>let FC:=(Yh.wrap (Cl+(1:Yi)));rec mine2 end_2 now3 told2 FC d2 Bz a2 b2) (λmine2 end_2 now3 told2 Cl d2 Bz a2 b2=>let FC:=(Yh.wrap (Cl+(1:Yi)));rec mine2 end_2 now3 told2 FC d2 Bz a2 b2) mine end_ now2 told i_ GH r_ a b (now2,(AEV,(Yf ((0:Yi)<FE))))))))) (k2 mine end_ now told r_ a)
def Rl(m:Yk){β:Type}(k1:tN β)(k2:tO β):tP β:=jW (λr=>uB r k1 k2) Ye m
theorem AAl{β:Type}(i:Yk)(k1 k2):Rl (β:=β) (i+1) k1 k2=uB (Rl i k1 k2) k1 k2:=rfl
def uC{β:Type}:=hid (Rl (β:=β) fuel)
def AAm:Pb:=⟨32762,Ri,λ_=>uC,Qx mixed (X:=⟨look tab,gam HV,Yc,Yc,Yc,Yc,[],Ye,0,[(31,[0,1,2])]⟩) (p:=Ri) AG HV rfl [AAk] (g:=λi _=>Rl i) (by kernel_rfl) rfl (by kernel_rfl) (λ_ _=>rfl) λ_ _ _ _=>by kernel_rfl⟩
def uD{β:Type}(rec:tR β)(k1:tQ β):tR β:=λmine told f yW RK cZ=>Yr (Yf (RK<yW)) (Yr (Yf (0<=RK)&&Yf (RK<(Yg cZ:Yi))) (Yr told (rec mine Yo f yW (Yh.wrap (RK+(1:Yi))) cZ) (TS (Yn cZ (Yj RK) (0,(0,(0,(([]:Ya Yl),(([]:Ya Ar),([]:Ya Ar))))))) mine (λyQ=>rec mine yQ f yW (Yh.wrap (RK+(1:Yi))) cZ))) Ye) (k1 told f)
def Uz(m:Yk){β:Type}(k1:tQ β):tR β:=Tn (λr=>uD r k1) Ye m
theorem AAn{β:Type}(i:Yk)(k1):Uz (β:=β) (i+1) k1=uD (Uz i k1) k1:=rfl
def uE{β:Type}:=hid (Uz (β:=β) fuel)
def AAo:Pb:=⟨131066,Ajr,λ_=>uE,Qx mixed (X:=⟨look tab,gam HV,Yc,Yc,Yc,Yc,[],Ye,0,[(31,[0,1,2])]⟩) (p:=Ajr) AG HV rfl [] (g:=λi _=>Uz i) (by kernel_rfl) rfl (by kernel_rfl) (λ_ _=>rfl) λ_ _ _ _=>by kernel_rfl⟩
def aQ:AAb:=hid λt n k=>
 Rh (λralive=>
 Yr (!ralive)
 (Rh (λralive2=>
 k ralive2))
 (X1 t (λAFr=>
 Yr (!AFr)
 (Rh (λralive2=>
 k ralive2))
 (X2 t (λAF9=>
 Zo 2 AF9 (λAFa Am5=>
 tZ (λn2 d r_ Bz BL=>
 let l:=([(([97,112,112]:Ya Yl),([109,105,110,101]:Ya Yl))]:Ya Al);
 X3 n2 500 (λAFy=>
 let end_:=(Yh.wrap (200+AFy));
 Tp (λcX=>
 let l2:=([(([97,112,112]:Ya Yl),(0,([109,105,110,101]:Ya Yl)))]:Ya BA);
 aM (BL,(r_,Bz)) cX (0,(0,(end_,(0,l2)))) (λAFH AFI AFJ=>
 Tp (λAFA=>
 Yr (!Yf (AFJ=(0:Yi)))
 (k Yc)
 (Yr (!Yf (AFI=(1:Yi)))
 (k Yc)
 (uC (λt4=>
 k t4) (λmine end_2 now told Gg a=>
 OM Gg a (Yh.wrap ((if end_2>now then end_2 else now)+400)) (λAmi yS VA=>
 uE (λtold2 f=>
 Yr (Yf (f=0))
 (k told2)
 (k Yc)) mine told yS (Yg VA:Yi) 0 VA)) l end_ 0 Yc 0 d (BL,(r_,Bz)) AFH AFA))))))) n (Yg Am5:Yi) 0 AFa ([]:Ya Iq) 0 Am5))))))
def AAp:En:=⟨3,.spec (sg [Jr,Aa] [] [Ap] [] aQ),iG mixed (X:=⟨look tab,gam HV,Yc,Yc,Yc,Yc,[],Ye,0,[(31,[0,1,2])]⟩) AG HV rfl [AAf,AAm,AAo] [.tmp 4] Tryz.func3 (by kernel_rfl) λ_ _=>by kernel_rfl⟩
theorem AAq:SpecOk Tryz.prog 3 (sg [Jr,Aa] [] [Ap] [] aQ):=AAp.ok
end
end Go.Lift
namespace Go.Lift
open Go.RowKit Go.IntWalk
section
variable{β:Type}[Sl]
theorem aR{α:Type}{f:α->(Ys->Yb β)->Yb β}{p:α->Ys}:∀{l:Ya α}{k:Ya α->Yb β},(∀x∈l,∀k,f x k=k (p x))->Ln f l k=k (l.filter λx=>!p x)
 |[],k,_=>rfl
 |x::l,k,h=>by show f x (λb=>Ln f l λl'=>k (bif b then l' else x::l'))=_;rw[h x (by simp),aR λy hy=>h y (by simp[hy])];cases hp:p x<;>simp[LJ,hp]
theorem C3{n:Yk}(h:n<=1000000):Yh.wrap ((n:Yi)+1)=((n+1:Yk):Yi):=by rw[Y2];omega
theorem uF(l:Ya Al)(hl:l.length<=1000000)(k:Ya Al->Yb β):Q9 l k=k l:=by unfold Q9 FM;exact GT (by omega)
theorem AAr(l:Ya AW)(hl:l.length<=1000000)(k:Ya AW->Yb β):XP l k=k l:=by unfold XP FM;exact GT (by omega)
theorem AAs(l:Ya Ag)(hl:l.length<=1000000)(k:Ya Ag->Yb β):XL l k=k l:=by unfold XL FM;exact GT (by omega)
theorem uG{α:Type}(l:Ya α)(i:Yk)(d:α):l.set i (l.getD i d)=l:=by
 by_cases h:i<l.length
 ·apply RR
  intro j;rw[List.getElem?_set];by_cases hj:i=j
  ·subst hj
   simp[h,Yn]
  ·simp[hj]
 ·exact List.set_eq_of_length_le (by omega)
theorem AjC(k1:n8 β)(a:Yi)(b:Ya Yl)(c d:Yi)(t:Ag)(l:Ya AW)(hn:l.length<=1000)(hl:∀m∈l,m.2.1.length<=1000):∀(m i:Yk),i<=l.length->l.length-i<m->QO m k1 (l.length:Yi) (i:Yi) a b c d t l=k1 a b c d t l
 |0,i,_,h=>Yw h (C8 _)
 |m+1,i,hi,hm=>by
  rw[Aun];unfold nA;by_cases Ae:i<l.length
  ·refine(Bp (by omega)).trans ?_
   refine(B6 ⟨by omega,by omega⟩).trans ?_
   have Co:l.getD i (([]:Ya Yl),(([]:Ya Al),((0:Yi),((0:Yi),(Yc,Yc)))))∈l:=by simp only[Yn,C0 Ae,Jh];exact Ew Ae
   refine(uF _ (BH (hl _ Co) (by decide)) _).trans ?_;refine(B6 ⟨by omega,by omega⟩).trans ?_;show QO m k1 _ (Yh.wrap ((i:Yi)+1)) a b c d t (l.set i (l.getD i _))=_;rw[uG,C3 (by omega)];exact AjC k1 a b c d t l hn hl m (i+1) (by omega) (by omega)
  ·exact AJ (by omega)
def Mo(g:Ag):Prop:=g.2.2.1.length<=1000/\∀m∈g.2.2.1,m.2.1.length<=1000
theorem aS{g:Ag}(h:Mo g)(k):O9 (β:=β) g k=k g.1 g.2.1 g.2.2.2.1 g.2.2.2.2 g.2.2.1:=by unfold O9;rw[Aq];refine(AAr _ (BH h.1 (by decide)) _).trans ?_;unfold nB;rw[Aq];exact AjC _ _ _ _ _ _ _ h.1 h.2 fuel 0 (BD _) (by have:=h.1;unfold fuel;omega)
theorem AAt(l:Ya CW)(hl:l.length<=1000000)(k:Ya CW->Yb β):XN l k=k l:=by unfold XN FM;exact GT (by omega)
theorem AAu(l:Ya BA)(hl:l.length<=1000000)(k:Ya BA->Yb β):XO l k=k l:=by unfold XO FM;exact GT (by omega)
theorem AjD(k1:mY β)(l:Ya CW)(hn:l.length<=1000)(hl:∀m∈l,m.2.2.2.2.length<=1000):∀(m i:Yk),i<=l.length->l.length-i<m->QM m k1 (l.length:Yi) (i:Yi) l=k1 l
 |0,i,_,h=>Yw h (C8 _)
 |m+1,i,hi,hm=>by
  rw[Auk];unfold n5;by_cases Ae:i<l.length
  ·refine(Bp (by omega)).trans ?_
   refine(B6 ⟨by omega,by omega⟩).trans ?_
   have Co:l.getD i ((0:Yi),((0:Yi),((0:Yi),((0:Yi),([]:Ya BA)))))∈l:=by simp only[Yn,C0 Ae,Jh];exact Ew Ae
   refine(AAu _ (BH (hl _ Co) (by decide)) _).trans ?_;refine(B6 ⟨by omega,by omega⟩).trans ?_;show QM m k1 _ (Yh.wrap ((i:Yi)+1)) (l.set i (l.getD i _))=_;rw[uG,C3 (by omega)];exact AjD k1 l hn hl m (i+1) (by omega) (by omega)
  ·exact AJ (by omega)
def AjE(l:Ya CW):Prop:=l.length<=1000/\∀m∈l,m.2.2.2.2.length<=1000
theorem uH{l:Ya CW}(h:AjE l)(k):QN (β:=β) l k=k l:=by unfold QN;rw[Aq];refine(AAt _ (BH h.1 (by decide)) _).trans ?_;unfold n7;rw[Aq];exact AjD _ _ h.1 h.2 fuel 0 (BD _) (by have:=h.1;unfold fuel;omega)
theorem AjF(k1:oL β)(a b:Yi)(t:BE)(l:Ya Ag)(q:Ya CW)(hn:l.length<=1000)(hl:∀g∈l,Mo g):∀(m i:Yk),i<=l.length->l.length-i<m->QS m k1 (l.length:Yi) (i:Yi) a b t l q=k1 a b t l q
 |0,i,_,h=>Yw h (C8 _)
 |m+1,i,hi,hm=>by
  rw[Avq];unfold oN;by_cases Ae:i<l.length
  ·refine(Bp (by omega)).trans ?_
   refine(B6 ⟨by omega,by omega⟩).trans ?_
   have Co:l.getD i ((0:Yi),(([]:Ya Yl),(([]:Ya AW),((0:Yi),(0:Yi)))))∈l:=by simp only[Yn,C0 Ae,Jh];exact Ew Ae
   refine(aS (hl _ Co) _).trans ?_;refine(B6 ⟨by omega,by omega⟩).trans ?_;show QS m k1 _ (Yh.wrap ((i:Yi)+1)) a b t (l.set i (l.getD i _)) q=_;rw[uG,C3 (by omega)];exact AjF k1 a b t l q hn hl m (i+1) (by omega) (by omega)
  ·exact AJ (by omega)
def AjG(s:BE):Prop:=s.2.1.length<=1000/\(∀g∈s.2.1,Mo g)/\AjE s.2.2.1
theorem uI{s:BE}(h:AjG s)(k):QT (β:=β) s k=k s.1 s.2.2.2 s.2.1 s.2.2.1:=by unfold QT;rw[Aq];refine(AAs _ (BH h.1 (by decide)) _).trans ?_;refine(uH h.2.2 _).trans ?_;unfold oO;rw[Aq];exact AjF _ _ _ _ _ _ h.1 h.2.1 fuel 0 (BD _) (by have:=h.1;unfold fuel;omega)
end
end Go.Lift
namespace Go.Lift
section
abbrev kApp:Ya Yl:=[97,112,112]
abbrev Bm:Ya Al:=[([97,112,112],[109,105,110,101])]
abbrev Cy:Ya Yl:=[123,97,112,112,61,34,109,105,110,101,34,125]
def qV(v:Ya Yl):Ya Yl:=34::(v.flatMap (λc=>bif Yf (c=34)||Yf (c=92)then [92,c]else [c])++[34])
def Jt(x:Al):Ya Yl:=x.1++([61]++qV x.2)
def Mp:Ya (Ya Yl)->Ya Yl
 |[]=>[]
 |x::l=>x++l.flatMap (λy=>44::y)
def E7(l:Ya Al):Ya Yl:=123::(Mp (l.map Jt)++[125])
def IV(l:Ya Al):Ya Al:=l.filter λx=>decide (x.1=kApp)
def keyV(l:Ya Al):Ya Yl:=E7 (IV l)
def vals:Ya (Ya Yl):=[[],[97],[98],[99,114,105,116],[97,34,98,92],[119,101,98,45,49]]
def opt1(k v:Ya Yl):Ya Al:=if v=[]then []else [(k,v)]
def HW(l:Ya Al):Prop:=∃a∈vals,∃h∈vals,∃s∈vals,∃t∈vals,l=opt1 kApp a++(opt1 [104,111,115,116] h++(opt1 [115,101,118] s++opt1 [116,101,97,109] t))
def DL(l:Ya Al):Prop:=HW l\/l=Bm
theorem uJ:E7 Bm=Cy:=by decide
theorem U0:keyV Bm=Cy:=by decide
theorem AAv(v:Ya Yl):IV (opt1 [104,111,115,116] v)=[]:=by unfold opt1;split<;>rfl
theorem AAw(v:Ya Yl):IV (opt1 [115,101,118] v)=[]:=by unfold opt1;split<;>rfl
theorem AAx(v:Ya Yl):IV (opt1 [116,101,97,109] v)=[]:=by unfold opt1;split<;>rfl
theorem AAy{a h s t:Ya Yl}:IV (opt1 kApp a++(opt1 [104,111,115,116] h++(opt1 [115,101,118] s++opt1 [116,101,97,109] t)))=opt1 kApp a:=by have e:∀x y:Ya Al,IV (x++y)=IV x++IV y:=λx y=>LI ..;rw[e,e,e,AAv,AAw,AAx];unfold opt1;split<;>rfl
theorem AAz{l:Ya Al}(h:HW l):E7 l≠Cy:=by
 obtain⟨a,ha,b,hb,c,hc,d,hd,rfl⟩:=h;simp only[vals,Bg,RY,or_false]at ha;by_cases h0:a=[]
 ·subst h0
  by_cases h1:b=[]
  ·by_cases h2:c=[]
   ·by_cases h3:d=[]
    ·simp[h1,h2,h3,opt1,E7,Mp,Jt,qV]
    ·simp[h1,h2,h3,opt1,E7,Mp,Jt,qV]
   ·simp[h1,h2,opt1,E7,Mp,Jt,qV]
  ·simp[h1,opt1,E7,Mp,Jt,qV]
 ·rcases ha with rfl|rfl|rfl|rfl|rfl|rfl
  ·exact Yw rfl h0
  all_goals simp[opt1,E7,Mp,Jt,qV]
theorem uK{l:Ya Al}(h:HW l):keyV l≠Cy:=by obtain⟨a,ha,b,hb,c,hc,d,hd,rfl⟩:=h;unfold keyV;rw[AAy];simp only[vals,Bg,RY,or_false]at ha;rcases ha with rfl|rfl|rfl|rfl|rfl|rfl<;>simp[opt1,E7,Mp,Jt,qV]
theorem AjH{l:Ya Al}(h:DL l)(hk:keyV l≠Cy):HW l:=h.resolve_right λh=>hk (by rw[h,U0])
abbrev FO(r:Ax)(i:Yi):AU:=Yn r.1 (Yj i) ((0:Yi),(([]:Ya BA),((0:Yi),(([]:Ya (Ya Yl)),((0:Yi),((0:Yi),((0:Yi),Yc)))))))
structure RtOk (r:AU):Prop where
 w:0<=r.2.2.2.2.1/\r.2.2.2.2.1<=60
 i:20<=r.2.2.2.2.2.1/\r.2.2.2.2.2.1<=360
 wi:r.2.2.2.2.1<=r.2.2.2.2.2.1
 r:r.2.2.2.2.2.1<=r.2.2.2.2.2.2.1/\r.2.2.2.2.2.2.1<=3960
structure RulesOk (r:Ax):Prop where
 n:1<=r.1.length/\r.1.length<=3
 rt:∀x∈r.1,RtOk x
theorem RulesOk.at{r:Ax}(h:RulesOk r){i:Yi}(h0:0<=i)(h1:i<r.1.length):RtOk (FO r i):=by
 refine h.rt _ ?_;have:i.toNat<r.1.length:=by omega
 show(r.1[i.toNat]?).getD _∈_;rw[C0 this];exact Ew this
def HX(r:Ax)(g:Ag)(now:Yi):Ys:=Yf ((g.2.2.1.length:Yi)=0)&&(Yf (g.2.2.2.2=-1)||Yf (g.2.2.2.2+(FO r g.1).2.2.2.2.2.1<=now))
def hasT(l:Ya (Ya Yl))(x:Ya Yl):Ys:=l.any λy=>decide (x=y)
def Gr(muted:Ya (Ya Yl))(s:Ys×(Ya (Ya Yl)×Ya (Ya Yl)))(m:AW):Ys×(Ya (Ya Yl)×Ya (Ya Yl)):=
 bif hasT muted m.1 then s else bif m.2.2.2.2.1 then(bif s.1 then Yo else !m.2.2.2.2.2,(s.2.1++[m.1],s.2.2))else(s.1,(s.2.1,s.2.2++[m.1]))
def FP(muted:Ya (Ya Yl))(s:Ys×(Ya (Ya Yl)×Ya (Ya Yl)))(l:Ya AW):Ys×(Ya (Ya Yl)×Ya (Ya Yl)):=l.foldl (Gr muted) s
def sayV(muted:Ya (Ya Yl))(g:Ag):Ys×(Ya (Ya Yl)×Ya (Ya Yl)):=FP muted (Yc,([],[])) g.2.2.1
def aT(r:AU)(g:Ag)(t:Yi)(firing:Ya (Ya Yl)):Ys:=Yf ((0:Yi)<(firing.length:Yi))&&(!Yf (g.2.2.2.2=-1)&&Yf (g.2.2.2.2+r.2.2.2.2.2.2.1<=t))
def okV(r:AU)(g:Ag)(t:Yi)(muted:Ya (Ya Yl)):Ys:=(sayV muted g).1||(aT r g t (sayV muted g).2.1||Yf ((0:Yi)<((sayV muted g).2.2.length:Yi)))
def Mq(f:Ya (Ya Yl))(m:AW):AW:=(m.1,(m.2.1,(m.2.2.1,(m.2.2.2.1,(m.2.2.2.2.1,m.2.2.2.2.2||hasT f m.1)))))
def dueV(r:AU)(t sent:Yi)(l:Ya AW):Yi:=
 let due:=bif (l.any λm=>!m.2.2.2.2.2)||Yf (sent+r.2.2.2.2.2.2.1<=t)then t+r.2.2.2.2.2.1 else sent+r.2.2.2.2.2.2.1
 bif Yf ((l.length:Yi)=0)then-1 else(if 8589934592<(if t+1>due then t+1 else due)then-1 else(if t+1>due then t+1 else due))
def memV(g:Ag)(muted:Ya (Ya Yl)):Ya AW:=(g.2.2.1.filter λm=>!hasT (sayV muted g).2.2 m.1).map (Mq (sayV muted g).2.1)
def Ez(r:AU)(g:Ag)(t:Yi)(muted:Ya (Ya Yl)):Ag×(Cg×Ys):=
 bif Yf (g.2.2.2.1=-1)||Yf (t<g.2.2.2.1)then(g,((0,(0,(0,([],([],[]))))),Yc))else
 bif okV r g t muted then((g.1,(g.2.1,(memV g muted,(dueV r t t (memV g muted),t)))),((t,(g.1,(r.2.2.1,(g.2.1,((sayV muted g).2.1,(sayV muted g).2.2))))),Yo))
 else((g.1,(g.2.1,(g.2.2.1,(dueV r t g.2.2.2.2 g.2.2.1,g.2.2.2.2)))),((0,(0,(0,([],([],[]))))),Yc))
def mkey(m:AW):Ya Yl:=m.1
def memF(lab:Ya Al)(firing:Ys)(t:Yi):Yb AW->Yb AW
 |none=>bif firing then Yd (E7 lab,(lab,(t,(t,(Yo,Yc)))))else Ye
 |some m=>bif m.2.2.2.2.1==firing then Yd (m.1,(m.2.1,(m.2.2.1,(t,(m.2.2.2.2.1,m.2.2.2.2.2)))))
  else bif firing then Yd (m.1,(m.2.1,(t,(t,(Yo,Yo)))))
  else bif m.2.2.2.2.2 then Yd (m.1,(m.2.1,(t,(t,(Yc,Yc)))))else Ye
def aU(firing:Ys):Yb AW->Ys
 |none=>firing
 |some m=>m.2.2.2.2.1&&(!firing&&m.2.2.2.2.2)
def Mr(r:AU)(g:Ag)(t:Yi):Yi:=
 let d:=if g.2.2.2.2=-1 then t+r.2.2.2.2.1 else(if g.2.2.2.2+r.2.2.2.2.2.1>t then g.2.2.2.2+r.2.2.2.2.2.1 else t)
 let e:=if g.2.2.2.1=-1 then d else(if g.2.2.2.1<d then g.2.2.2.1 else d)
 if 8589934592<e then-1 else e
def addL(g:Ag)(lab:Ya Al)(firing:Ys)(t:Yi):Ya AW:=putK Yy mkey (E7 lab) (memF lab firing t) g.2.2.1
def addV(r:AU)(g:Ag)(lab:Ya Al)(firing:Ys)(t:Yi):Ag:=
 (g.1,(g.2.1,(addL g lab firing t,(bif Yf (((addL g lab firing t).length:Yi)=0)then-1 else bif aU firing (getK Yy mkey (E7 lab) g.2.2.1)then Mr r g t else g.2.2.2.1,g.2.2.2.2))))
def gkey(g:Ag):Yi×Ya Yl:=(g.1,g.2.1)
def newG(i:Yi)(key:Ya Yl):Ag:=(i,(key,([],(-1,-1))))
def grpF(R:Ax)(i:Yi)(lab:Ya Al)(firing:Ys)(t:Yi):Yb Ag->Yb Ag
 |none=>bif firing then Yd (addV (FO R i) (newG i (keyV lab)) lab firing t)else Ye
 |some g=>Yd (addV (FO R i) g lab firing t)
def oneV(R:Ax)(lab:Ya Al)(firing:Ys)(t:Yi)(gs:Ya Ag)(i:Yi):Ya Ag:=putK plt gkey (i,keyV lab) (grpF R i lab firing t) gs
def Nw(R:Ax)(t:Yi)(gs:Ya Ag):Ya Ag:=gs.filter λg=>!HX R g t
def Hs(R:Ax)(fr:Ya Yi)(lab:Ya Al)(firing:Ys)(t:Yi)(gs:Ya Ag):Ya Ag:=Nw R t (fr.foldl (oneV R lab firing t) gs)
def Fk(mu:Ya Al->Ys)(g:Ag):Ya (Ya Yl):=(g.2.2.1.filter λm=>mu m.2.1).map mkey
def seeV(R:Ax)(mu:Ya Al->Ys)(t:Yi)(g:Ag):Ag×(Cg×Ys):=Ez (FO R g.1) g t (Fk mu g)
def Iw(R:Ax)(mu:Ya Al->Ys)(t:Yi)(gs:Ya Ag):Ya Ag:=Nw R t (gs.map λg=>(seeV R mu t g).1)
def E1(R:Ax)(mu:Ya Al->Ys)(t:Yi)(gs:Ya Ag):Ya Cg:=gs.flatMap λg=>bif (seeV R mu t g).2.2 then [(seeV R mu t g).2.1]else []
end
section
structure MemOk (key:Ya Yl) (t:Yi) (m:AW):Prop where
 dl:DL m.2.1
 text:m.1=E7 m.2.1
 key:keyV m.2.1=key
 since:0<=m.2.2.1/\m.2.2.1<=t
 heard:0<=m.2.2.2.1/\m.2.2.2.1<=t
 told:m.2.2.2.2.2=Yo->m.2.2.2.2.1=Yo
theorem MemOk.later{key:Ya Yl}{t t':Yi}{m:AW}(h:MemOk key t m)(ht:t<=t'):MemOk key t' m:=
 ⟨h.dl,h.text,h.key,⟨h.since.1,Wk h.since.2 ht⟩,⟨h.heard.1,Wk h.heard.2 ht⟩,h.told⟩
abbrev AscK(l:Ya AW):Prop:=Srt Yy mkey l
structure GrOk (R:Ax) (n:Yk) (t:Yi) (g:Ag):Prop where
 route:0<=g.1/\g.1<(R.1.length:Yi)
 mem:∀m∈g.2.2.1,MemOk g.2.1 t m
 asc:AscK g.2.2.1
 len:g.2.2.1.length<=n
 due:-1<=g.2.2.2.1/\g.2.2.2.1<=t+4000
 sent:-1<=g.2.2.2.2/\g.2.2.2.2<=t
theorem GrOk.later{R:Ax}{n n':Yk}{t t':Yi}{g:Ag}(h:GrOk R n t g)(hn:n<=n')(ht:t<=t'):GrOk R n' t' g:=
 ⟨h.route,λm hm=>(h.mem m hm).later ht,h.asc,BH h.len hn,⟨h.due.1,by have:=h.due.2;omega⟩,⟨h.sent.1,by have:=h.sent.2;omega⟩⟩
theorem AjI{R:Ax}{t i:Yi}{key:Ya Yl}(h0:0<=i)(h1:i<(R.1.length:Yi))(ht:0<=t):GrOk R 0 t (newG i key):=
 ⟨⟨h0,h1⟩,λm hm=>Yw hm (by simp[newG]),by show Srt _ _ [];exact Ya5,Aw _,⟨by simp[newG],by show(-1:Yi)<=_;omega⟩,⟨by simp[newG],by show(-1:Yi)<=_;omega⟩⟩
theorem AAA{lab:Ya Al}{firing:Ys}{t:Yi}(o:Yb AW)(y:AW)(h:∀x,o=Yd x->mkey x=E7 lab)(hy:memF lab firing t o=Yd y):mkey y=E7 lab:=by
 cases o with
 |none=>
  cases firing with
  |false=>exact Yw hy (by simp[memF])
  |true=>cases hy;rfl
 |some m=>
  have hm:=h m rfl;dsimp only[memF]at hy;cases h1:m.2.2.2.2.1==firing with
  |true=>rw[h1]at hy;cases hy;exact hm
  |false=>
   rw[h1]at hy;cases firing with
   |true=>cases hy;exact hm
   |false=>
    cases h2:m.2.2.2.2.2 with
    |false=>rw[h2]at hy;exact Yw hy (by simp)
    |true=>rw[h2]at hy;cases hy;exact hm
theorem AAB{lab:Ya Al}{firing:Ys}{t:Yi}{key:Ya Yl}(hl:DL lab)(hk:keyV lab=key)(ht:0<=t)(o:Yb AW)(y:AW)(h:∀x,o=Yd x->MemOk key t x)(hy:memF lab firing t o=Yd y):MemOk key t y:=by
 cases o with
 |none=>
  cases firing with
  |false=>exact Yw hy (by simp[memF])
  |true=>cases hy;exact⟨hl,rfl,hk,⟨ht,Ey _⟩,⟨ht,Ey _⟩,λh=>Yw h (by simp)⟩
 |some m=>
  have hm:=h m rfl;dsimp only[memF]at hy;cases h1:m.2.2.2.2.1==firing with
  |true=>rw[h1]at hy;cases hy;exact⟨hm.dl,hm.text,hm.key,hm.since,⟨ht,Ey _⟩,hm.told⟩
  |false=>
   rw[h1]at hy;cases firing with
   |true=>cases hy;exact⟨hm.dl,hm.text,hm.key,⟨ht,Ey _⟩,⟨ht,Ey _⟩,λ_=>rfl⟩
   |false=>
    cases h2:m.2.2.2.2.2 with
    |false=>rw[h2]at hy;exact Yw hy (by simp)
    |true=>rw[h2]at hy;cases hy;exact⟨hm.dl,hm.text,hm.key,⟨ht,Ey _⟩,⟨ht,Ey _⟩,λh=>Yw h (by simp)⟩
theorem AjJ{r:AU}(hr:RtOk r){g:Ag}{t:Yi}(ht:0<=t/\t<=100000)(hd:-1<=g.2.2.2.1)(hs:-1<=g.2.2.2.2/\g.2.2.2.2<=t):0<=Mr r g t/\Mr r g t<=t+360:=by
 obtain⟨⟨w1,w2⟩,⟨i1,i2⟩,wi,r1,r2⟩:=hr;unfold Mr;dsimp only
 repeat' split
 all_goals omega
theorem AjK{R:Ax}(hR:RulesOk R){n:Yk}{t:Yi}(ht:0<=t/\t<=100000){g:Ag}(h:GrOk R n t g){lab:Ya Al}(hl:DL lab)(hk:keyV lab=g.2.1)(firing:Ys):GrOk R (n+1) t (addV (FO R g.1) g lab firing t) where
 route:=h.route
 mem:=λm hm=>by
  rcases Ou (show m∈addL g lab firing t from hm)with⟨h1,_⟩|h1
  ·exact h.mem m h1
  ·exact AAB hl hk ht.1 _ _ (λx hx=>h.mem x (Me hx)) h1
 asc:=AbD AbA (λo y=>AAA o y) h.asc
 len:=BH AbE (Nat.succ_le_succ h.len)
 due:=by
  show-1<=(bif _ then _ else bif _ then _ else _)/\(bif _ then _ else bif _ then _ else _)<=_;have hw:=AjJ (hR.at h.route.1 h.route.2) (g:=g) ht h.due.1 h.sent;have hd:=h.due;cases Yf (((addL g lab firing t).length:Yi)=0)
  ·cases aU firing (getK Yy mkey (E7 lab) g.2.2.1)
   ·exact hd
   ·simp only[BU,Ao];omega
  ·simp only[Ao];omega
 sent:=h.sent
theorem uL{muted:Ya (Ya Yl)}:∀{l:Ya AW}{s:Ys×(Ya (Ya Yl)×Ya (Ya Yl))}{x:Ya Yl},(x∈(FP muted s l).2.1->x∈s.2.1\/∃m∈l,m.1=x/\m.2.2.2.2.1=Yo/\hasT muted x=Yc)/\(x∈(FP muted s l).2.2->x∈s.2.2\/∃m∈l,m.1=x/\m.2.2.2.2.1=Yc/\hasT muted x=Yc)
 |[],s,x=>⟨.inl,.inl⟩
 |m::l,s,x=>by
  have ih:=uL (muted:=muted) (l:=l) (s:=Gr muted s m) (x:=x);have e:FP muted s (m::l)=FP muted (Gr muted s m) l:=rfl;rw[e]
  have AY:(x∈(Gr muted s m).2.1->x∈s.2.1\/(m.1=x/\m.2.2.2.2.1=Yo/\hasT muted x=Yc))/\(x∈(Gr muted s m).2.2->x∈s.2.2\/(m.1=x/\m.2.2.2.2.1=Yc/\hasT muted x=Yc)):=by
   unfold Gr;cases h1:hasT muted m.1 with
   |true=>exact⟨.inl,.inl⟩
   |false=>
    cases h2:m.2.2.2.2.1 with
    |true=>
     refine⟨λhx=>?_,.inl⟩;rcases BV.mp (show x∈s.2.1++[m.1]from hx)with hx|hx
     ·exact .inl hx
     ·rw[DS]at hx
      subst hx;exact .inr ⟨rfl,rfl,h1⟩
    |false=>
     refine⟨.inl,λhx=>?_⟩;rcases BV.mp (show x∈s.2.2++[m.1]from hx)with hx|hx
     ·exact .inl hx
     ·rw[DS]at hx
      subst hx;exact .inr ⟨rfl,rfl,h1⟩
  constructor
  ·intro hx
   rcases ih.1 hx with hx|⟨m',Es,h⟩
   ·rcases AY.1 hx with hx|h
    ·exact .inl hx
    ·exact .inr ⟨m,by simp,h⟩
   ·exact .inr ⟨m',by simp[Es],h⟩
  ·intro hx
   rcases ih.2 hx with hx|⟨m',Es,h⟩
   ·rcases AY.2 hx with hx|h
    ·exact .inl hx
    ·exact .inr ⟨m,by simp,h⟩
   ·exact .inr ⟨m',by simp[Es],h⟩
theorem AjL{l:Ya (Ya Yl)}{x:Ya Yl}(h:hasT l x=Yo):x∈l:=by unfold hasT at h;obtain⟨y,hy,h⟩:=We.mp h;rw[AC h];exact hy
theorem AAC{l:Ya (Ya Yl)}{x:Ya Yl}(h:x∈l):hasT l x=Yo:=We.mpr ⟨x,h,by simp⟩
theorem AjM:∀{l:Ya AW},AscK l->∀{m m':AW},m∈l->m'∈l->m.1=m'.1->m=m'
 |[],_,m,_,h,_,_=>Yw h (by simp)
 |x::l,ha,m,m',h,h',e=>by
  have hp:=G4.mp ha;rcases Bg.mp h with e1|h1
  ·rcases Bg.mp h' with e2|h2
   ·rw[e1,e2]
   ·have:=hp.1 m' h2
    unfold mkey at this;rw[<-e1,e,Ll]at this;exact Yw this (by simp)
  ·rcases Bg.mp h' with e2|h2
   ·have:=hp.1 m h1
    unfold mkey at this;rw[<-e2,e,Ll]at this;exact Yw this (by simp)
   ·exact AjM hp.2 h1 h2 e
theorem AjN{r:AU}(hr:RtOk r){t sent:Yi}(ht:0<=t/\t<=100000)(hs:-1<=sent/\sent<=t)(l:Ya AW):-1<=dueV r t sent l/\dueV r t sent l<=t+4000:=by obtain⟨⟨w1,w2⟩,⟨i1,i2⟩,wi,r1,r2⟩:=hr;unfold dueV;dsimp only;cases(l.any λm=>!m.2.2.2.2.2)||Yf (sent+r.2.2.2.2.2.2.1<=t)<;>cases Yf ((l.length:Yi)=0)<;>simp only[Ao,BU]<;>(repeat' split)<;>omega
theorem AAD{r:AU}(hr:RtOk r){t sent:Yi}(ht:0<=t/\t<=100000){l:Ya AW}(h:(l.any λm=>!m.2.2.2.2.2)=Yo):0<=dueV r t sent l/\dueV r t sent l<=t+360:=by
 obtain⟨⟨w1,w2⟩,⟨i1,i2⟩,wi,r1,r2⟩:=hr;unfold dueV;dsimp only;rw[h]
 have h0:Yf ((l.length:Yi)=0)=Yc:=by
  cases l with
  |nil=>simp at h
  |cons x l=>simp only[Be];exact Ex (by omega)
 rw[h0];simp only[Ao,BU,Sj]
 repeat' split
 all_goals omega
theorem AAE{f:Ya (Ya Yl)}{p:AW->Ys}{l:Ya AW}(h:AscK l):AscK ((l.filter p).map (Mq f)):=by unfold AscK Srt;rw[RU];exact dI _ h
theorem AAF{R:Ax}(hR:RulesOk R){n:Yk}{t:Yi}(ht:0<=t/\t<=100000){g:Ag}(h:GrOk R n t g)(muted:Ya (Ya Yl)):GrOk R n t (Ez (FO R g.1) g t muted).1:=by
 have hr:=hR.at h.route.1 h.route.2;unfold Ez;cases h1:Yf (g.2.2.2.1=-1)||Yf (t<g.2.2.2.1)with
 |true=>exact h
 |false=>
  cases h2:okV (FO R g.1) g t muted with
  |true=>
   refine⟨h.route,λm hm=>?_,AAE h.asc,?_,AjN hr ht ⟨by omega,Ey _⟩ _,⟨by show-1<=t;omega,Ey _⟩⟩
   ·obtain⟨m',Es,rfl⟩:=Fw.mp (show m∈memV g muted from hm)
    have Alv:=(Fv.mp Es).1;have BS:=h.mem m' Alv;refine⟨BS.dl,BS.text,BS.key,BS.since,BS.heard,λM8=>?_⟩;rcases(Ik _ _).mp (show(m'.2.2.2.2.2||hasT (sayV muted g).2.1 m'.1)=Yo from M8)with M8|M8
    ·exact BS.told M8
    ·rcases uL.1 (AjL M8)with hx|⟨m2,Vd,e,hf,_⟩
     ·exact Yw hx (by simp)
     ·rw[<-AjM h.asc Vd Alv e]
      exact hf
   ·exact BH (by show(memV g muted).length<=_;unfold memV;rw[Fc];exact MH _ _) h.len
  |false=>exact⟨h.route,h.mem,h.asc,h.len,AjN hr ht h.sent _,h.sent⟩
theorem AAG{r:AU}{t:Yi}{g:Ag}{muted:Ya (Ya Yl)}:(Ez r g t muted).1.1=g.1/\(Ez r g t muted).1.2.1=g.2.1:=by
 unfold Ez;cases Yf (g.2.2.2.1=-1)||Yf (t<g.2.2.2.1)with
 |true=>exact⟨rfl,rfl⟩
 |false=>cases okV r g t muted<;>exact⟨rfl,rfl⟩
end
section
structure GsOk (R:Ax) (n:Yk) (t:Yi) (gs:Ya Ag):Prop where
 gr:∀g∈gs,GrOk R n t g
 srt:Srt plt gkey gs
 len:gs.length<=n
theorem GsOk.later{R:Ax}{n n':Yk}{t t':Yi}{gs:Ya Ag}(h:GsOk R n t gs)(hn:n<=n')(ht:t<=t'):GsOk R n' t' gs:=
 ⟨λg hg=>(h.gr g hg).later hn ht,h.srt,BH h.len hn⟩
theorem GsOk.filter{R:Ax}{n:Yk}{t:Yi}{gs:Ya Ag}(h:GsOk R n t gs)(p:Ag->Ys):GsOk R n t (gs.filter p):=
 ⟨λg hg=>h.gr g (Fv.mp hg).1,dI _ h.srt,BH (MH _ _) h.len⟩
theorem aV{R:Ax}{i:Yi}{lab:Ya Al}{firing:Ys}{t:Yi}(o:Yb Ag)(y:Ag)(h:∀x,o=Yd x->gkey x=(i,keyV lab))(hy:grpF R i lab firing t o=Yd y):gkey y=(i,keyV lab):=by
 cases o with
 |none=>
  cases firing with
  |false=>exact Yw hy (by simp[grpF])
  |true=>cases hy;rfl
 |some g=>cases hy;exact h g rfl
theorem AAH{R:Ax}(hR:RulesOk R){n:Yk}{t:Yi}(ht:0<=t/\t<=100000){i:Yi}(hi:0<=i/\i<(R.1.length:Yi)){lab:Ya Al}(hl:DL lab){firing:Ys}(o:Yb Ag)(y:Ag)(h:∀x,o=Yd x->GrOk R n t x/\gkey x=(i,keyV lab))(hy:grpF R i lab firing t o=Yd y):GrOk R (n+1) t y:=by
 cases o with
 |none=>
  cases firing with
  |false=>exact Yw hy (by simp[grpF])
  |true=>cases hy;exact(AjK hR ht (AjI (key:=keyV lab) hi.1 hi.2 ht.1) hl rfl Yo).later (by omega) (Ey _)
 |some g=>obtain⟨h1,h2⟩:=h g rfl;have e1:g.1=i:=Ai (·.1) h2;have e2:g.2.1=keyV lab:=Ai (·.2) h2;cases hy;rw[<-e1];exact AjK hR ht h1 hl e2.symm firing
theorem aW{R:Ax}(hR:RulesOk R){n:Yk}{t:Yi}(ht:0<=t/\t<=100000){i:Yi}(hi:0<=i/\i<(R.1.length:Yi)){lab:Ya Al}(hl:DL lab)(firing:Ys){gs:Ya Ag}(h:GsOk R n t gs):GsOk R (n+1) t (oneV R lab firing t gs i) where
 gr:=λg hg=>by
  rcases Ou hg with⟨h1,_⟩|h1
  ·exact(h.gr g h1).later (PN n) (Ey _)
  ·exact AAH hR ht hi hl _ _ (λx hx=>⟨h.gr x (Me hx),IK hx⟩) h1
 srt:=AbD iK (λo y=>aV o y) h.srt
 len:=BH AbE (Nat.succ_le_succ h.len)
theorem uM{R:Ax}(hR:RulesOk R){t:Yi}(ht:0<=t/\t<=100000){lab:Ya Al}(hl:DL lab)(firing:Ys):∀(fr:Ya Yi),(∀i∈fr,0<=i/\i<(R.1.length:Yi))->∀{n:Yk}{gs:Ya Ag},GsOk R n t gs->GsOk R (n+fr.length) t (fr.foldl (oneV R lab firing t) gs)
 |[],_,n,gs,h=>h
 |i::fr,hf,n,gs,h=>by have:=uM hR ht hl firing fr (λj hj=>hf j (by simp[hj])) (aW hR ht (hf i (by simp)) hl firing h);rw[Be,show n+(fr.length+1)=n+1+fr.length by omega];exact this
theorem AjO{R:Ax}(hR:RulesOk R){t:Yi}(ht:0<=t/\t<=100000){lab:Ya Al}(hl:DL lab)(firing:Ys){fr:Ya Yi}(hf:∀i∈fr,0<=i/\i<(R.1.length:Yi)){n:Yk}{gs:Ya Ag}(h:GsOk R n t gs):GsOk R (n+fr.length) t (Hs R fr lab firing t gs):=(uM hR ht hl firing fr hf h).filter _
theorem U1{R:Ax}{t:Yi}{gs:Ya Ag}{g:Ag}(h:g∈Nw R t gs):HX R g t=Yc:=by have:=(Fv.mp h).2;simpa using this
theorem Rm{R:Ax}{mu:Ya Al->Ys}{t:Yi}{g:Ag}:gkey (seeV R mu t g).1=gkey g:=by have h:=AAG (r:=FO R g.1) (t:=t) (g:=g) (muted:=Fk mu g);exact Prod.ext h.1 h.2
theorem AjP{R:Ax}(hR:RulesOk R){n:Yk}{t:Yi}(ht:0<=t/\t<=100000)(mu:Ya Al->Ys){gs:Ya Ag}(h:GsOk R n t gs):GsOk R n t (gs.map λg=>(seeV R mu t g).1) where
 gr:=λg hg=>by obtain⟨g',BB,rfl⟩:=Fw.mp hg;exact AAF hR ht (h.gr g' BB) _
 srt:=by unfold Srt;rw[RU];refine List.Pairwise.imp ?_ h.srt;intro a b Ru;rw[Rm,Rm];exact Ru
 len:=by rw[Fc];exact h.len
theorem AAI{R:Ax}(hR:RulesOk R){n:Yk}{t:Yi}(ht:0<=t/\t<=100000)(mu:Ya Al->Ys){gs:Ya Ag}(h:GsOk R n t gs):GsOk R n t (Iw R mu t gs):=(AjP hR ht mu h).filter _
def Ju(k:Yi×Ya Yl):Ys:=!Yf (k.2=Cy)
def nmF(gs:Ya Ag):Ya Ag:=gs.filter λg=>Ju (gkey g)
theorem uN{R:Ax}{t:Yi}{gs:Ya Ag}:nmF (Nw R t gs)=Nw R t (nmF gs):=by unfold nmF Nw;rw[List.filter_filter,List.filter_filter];congr 1;funext g;rw[Bool.and_comm]
theorem AjQ{R:Ax}{i:Yi}{lab:Ya Al}{firing:Ys}{t:Yi}{gs:Ya Ag}(hs:Srt plt gkey gs):nmF (oneV R lab firing t gs i)=bif Ju (i,keyV lab)then oneV R lab firing t (nmF gs) i else nmF gs:=
 Aoq iK (q:=Ju) (λo y=>aV o y) hs
theorem AjR{R:Ax}(hR:RulesOk R){t:Yi}(ht:0<=t/\t<=100000){lab:Ya Al}(hl:HW lab)(firing:Ys):∀(fr:Ya Yi),(∀i∈fr,0<=i/\i<(R.1.length:Yi))->∀{n:Yk}{gs:Ya Ag},GsOk R n t gs->nmF (fr.foldl (oneV R lab firing t) gs)=fr.foldl (oneV R lab firing t) (nmF gs)
 |[],_,n,gs,h=>rfl
 |i::fr,hf,n,gs,h=>by
  have:=AjR hR ht hl firing fr (λj hj=>hf j (by simp[hj])) (aW hR ht (hf i (by simp)) (.inl hl) firing h);rw[Sa,Sa,this,AjQ h.srt];have:Ju (i,keyV lab)=Yo:=by simp[Ju,uK hl]
  rw[this];rfl
theorem AjS{R:Ax}(hR:RulesOk R){t:Yi}(ht:0<=t/\t<=100000){lab:Ya Al}(hl:HW lab)(firing:Ys){fr:Ya Yi}(hf:∀i∈fr,0<=i/\i<(R.1.length:Yi)){n:Yk}{gs:Ya Ag}(h:GsOk R n t gs):nmF (Hs R fr lab firing t gs)=Hs R fr lab firing t (nmF gs):=by
 unfold Hs;rw[uN,AjR hR ht hl firing fr hf h]
theorem AjT{R:Ax}(hR:RulesOk R){t:Yi}(ht:0<=t/\t<=100000)(firing:Ys):∀(fr:Ya Yi),(∀i∈fr,0<=i/\i<(R.1.length:Yi))->∀{n:Yk}{gs:Ya Ag},GsOk R n t gs->nmF (fr.foldl (oneV R Bm firing t) gs)=nmF gs
 |[],_,n,gs,h=>rfl
 |i::fr,hf,n,gs,h=>by
  have:=AjT hR ht firing fr (λj hj=>hf j (by simp[hj])) (aW hR ht (hf i (by simp)) (.inr rfl) firing h);rw[Sa,this,AjQ h.srt];have:Ju (i,keyV Bm)=Yc:=by simp[Ju,U0]
  rw[this];rfl
theorem AAJ{R:Ax}(hR:RulesOk R){t:Yi}(ht:0<=t/\t<=100000)(firing:Ys){fr:Ya Yi}(hf:∀i∈fr,0<=i/\i<(R.1.length:Yi)){n:Yk}{gs:Ya Ag}(h:GsOk R n t gs)(hb:∀g∈gs,HX R g t=Yc):nmF (Hs R fr Bm firing t gs)=nmF gs:=by
 unfold Hs;rw[uN,AjT hR ht firing fr hf h];unfold Nw;rw[VY];intro g hg;rw[hb g (Fv.mp hg).1];rfl
theorem AjU{α:Type}{p:α->Ys}{f:α->α}(h:∀x,p (f x)=p x):∀l:Ya α,(l.map f).filter p=(l.filter p).map f
 |[]=>rfl
 |x::l=>by rw[CP,LJ,LJ,h x,AjU h l];split<;>rfl
theorem AAK{R:Ax}{mu:Ya Al->Ys}{t:Yi}(gs:Ya Ag):nmF (gs.map λg=>(seeV R mu t g).1)=(nmF gs).map λg=>(seeV R mu t g).1:=
 AjU (λg=>by rw[Rm]) gs
def Lv(mu:Ya Al->Ys):Prop:=∀l,HW l->mu l=Yc
theorem AjV{gs:Ya Ag}{g:Ag}(h:g∈nmF gs):g∈gs/\g.2.1≠Cy:=by have:=Fv.mp h;refine⟨this.1,?_⟩;have h2:=this.2;intro e;rw[show Ju (gkey g)=!Yf (g.2.1=Cy)from rfl,CD e]at h2;exact Yw h2 (by simp)
theorem uO{R:Ax}{n:Yk}{t:Yi}{g:Ag}(h:GrOk R n t g)(hk:g.2.1≠Cy){mu:Ya Al->Ys}(hm:Lv mu):Fk mu g=[]:=by unfold Fk;rw[List.map_eq_nil_iff,List.filter_eq_nil_iff];intro m Es;have:=h.mem m Es;rw[hm _ (AjH this.dl (by rw[this.key];exact hk))];simp
theorem AjW{R:Ax}{n:Yk}{t:Yi}{g:Ag}(h:GrOk R n t g)(hk:g.2.1≠Cy){mu Kn:Ya Al->Ys}(hm:Lv mu)(Es:Lv Kn):seeV R mu t g=seeV R Kn t g:=by unfold seeV;rw[uO h hk hm,uO h hk Es]
theorem AAL{R:Ax}{n:Yk}{t:Yi}{gs:Ya Ag}(h:GsOk R n t gs){mu Kn:Ya Al->Ys}(hm:Lv mu)(Es:Lv Kn):nmF (Iw R mu t gs)=Iw R Kn t (nmF gs):=by unfold Iw;rw[uN,AAK];congr 1;refine List.map_congr_left λg hg=>?_;obtain⟨h1,h2⟩:=AjV hg;rw[AjW (h.gr g h1) h2 hm Es]
def Gs(x:Cg):Ys:=hasT x.2.2.2.2.1 Cy
theorem AjX{R:Ax}{n:Yk}{t:Yi}{g:Ag}(h:GrOk R n t g)(hk:g.2.1≠Cy)(r:AU)(mu:Ya (Ya Yl)):Gs (Ez r g t mu).2.1=Yc:=by
 unfold Ez;cases Yf (g.2.2.2.1=-1)||Yf (t<g.2.2.2.1)with
 |true=>rfl
 |false=>
  cases okV r g t mu with
  |false=>rfl
  |true=>
   show hasT (sayV mu g).2.1 Cy=Yc;cases ht:hasT (sayV mu g).2.1 Cy with
   |false=>rfl
   |true=>
    rcases uL.1 (AjL ht)with hx|⟨m,hm,e,_⟩
    ·exact Yw hx (by simp)
    ·have:=h.mem m hm
     rw[this.text]at e;exact Yw e (AAz (AjH this.dl (by rw[this.key];exact hk)))
structure MineG (t:Yi) (g:Ag):Prop where
 mem:∃s h td,g.2.2.1=[(Cy,(Bm,(s,(h,(Yo,td)))))]
 due:(g.2.2.1.any λm=>!m.2.2.2.2.2)=Yo->0<=g.2.2.2.1/\g.2.2.2.1<=t+360
theorem MineG.later{t t':Yi}{g:Ag}(h:MineG t g)(ht:t<=t'):MineG t' g:=⟨h.mem,λhd=>⟨(h.due hd).1,by have:=(h.due hd).2;omega⟩⟩
theorem U2{R:Ax}(hR:RulesOk R){n:Yk}{t:Yi}(ht:0<=t/\t<=100000){g:Ag}(hg:GrOk R n t g)(h:MineG t g){mu:Ya Al->Ys}:MineG t (seeV R mu t g).1/\((seeV R mu t g).2.2=Yo->mu Bm=Yc/\Gs (seeV R mu t g).2.1=Yo/\(seeV R mu t g).2.1.1=t)/\((g.2.2.1.any λm=>!m.2.2.2.2.2)=Yo->(((seeV R mu t g).1.2.2.1.any λm=>!m.2.2.2.2.2)=Yo\/(seeV R mu t g).2.2=Yo)/\(mu Bm=Yc->g.2.2.2.1<=t->(seeV R mu t g).2.2=Yo)):=by
 obtain⟨s,hh,td,hm⟩:=h.mem;have hr:=hR.at hg.route.1 hg.route.2;unfold seeV Ez;cases h1:Yf (g.2.2.2.1=-1)||Yf (t<g.2.2.2.1)with
 |true=>
  refine⟨h,λh'=>Yw h' (by simp),λha=>⟨.inl ha,λ_ hd=>?_⟩⟩;have:=h.due ha
  have h2:(Yf (g.2.2.2.1=-1)||Yf (t<g.2.2.2.1))=Yc:=by rw[Ex (by omega),Ex (by omega)];rfl
  rw[h2]at h1;exact Yw h1 (by simp)
 |false=>
  cases Gd:mu Bm with
  |true=>
   have x6:Fk mu g=[Cy]:=by unfold Fk;rw[hm];simp[Gd,mkey]
   have hs:sayV (Fk mu g) g=(Yc,([],[])):=by rw[x6];unfold sayV;rw[hm];simp[FP,Gr,hasT]
   have ho:okV (FO R g.1) g t (Fk mu g)=Yc:=by unfold okV aT;rw[hs];simp
   rw[ho];refine⟨⟨⟨s,hh,td,hm⟩,λha=>AAD hr ht ha⟩,λh'=>Yw h' (by simp),λha=>⟨.inl ha,λh'=>Yw h' (by simp)⟩⟩
  |false=>
   have x6:Fk mu g=[]:=by unfold Fk;rw[hm];simp[Gd,mkey]
   have hs:sayV (Fk mu g) g=(!td,([Cy],[])):=by rw[x6];unfold sayV;rw[hm];simp[FP,Gr,hasT]
   cases ho:okV (FO R g.1) g t (Fk mu g)with
   |true=>
    refine⟨⟨⟨s,hh,Yo,?_⟩,λha=>?_⟩,λ_=>⟨rfl,?_,rfl⟩,λha=>⟨.inr rfl,λ_ _=>rfl⟩⟩
    ·show memV g (Fk mu g)=_
     unfold memV;rw[hs,hm];simp[Mq,hasT]
    ·have e:memV g (Fk mu g)=[(Cy,(Bm,(s,(hh,(Yo,Yo)))))]:=by unfold memV;rw[hs,hm];simp[Mq,hasT]
     have bJ:((memV g (Fk mu g)).any λm=>!m.2.2.2.2.2)=Yo:=ha;rw[e]at bJ;exact Yw bJ (by simp)
    ·show hasT (sayV (Fk mu g) g).2.1 Cy=Yo
     rw[hs];rfl
   |false=>
    have AEB:td=Yo:=by
     cases td with
     |true=>rfl
     |false=>unfold okV at ho;rw[hs]at ho;exact Yw ho (by simp)
    have Aly:¬(g.2.2.1.any λm=>!m.2.2.2.2.2)=Yo:=by rw[hm,AEB];simp
    exact⟨⟨⟨s,hh,td,hm⟩,λha=>Yw ha Aly⟩,λh'=>Yw h' (by simp),λha=>Yw ha Aly⟩
end
section
def Lw(g:Ag):Ys:=g.2.2.1.any λm=>!m.2.2.2.2.2
def Mines(t:Yi)(gs:Ya Ag):Prop:=∀g∈gs,g.2.1=Cy->MineG t g
def ON(gs:Ya Ag):Prop:=∃g∈gs,g.2.1=Cy/\Lw g=Yo
theorem Mines.later{t t':Yi}{gs:Ya Ag}(h:Mines t gs)(ht:t<=t'):Mines t' gs:=λg hg hk=>(h g hg hk).later ht
theorem uP{R:Ax}{g:Ag}(t:Yi)(h:Lw g=Yo):HX R g t=Yc:=by
 unfold HX
 have h0:Yf ((g.2.2.1.length:Yi)=0)=Yc:=by
  unfold Lw at h;cases hm:g.2.2.1 with
  |nil=>rw[hm]at h;simp at h
  |cons x l=>simp only[Be];exact Ex (by omega)
 rw[h0];rfl
theorem AjY{α κ:Type}[DecidableEq κ]{lt:κ->κ->Ys}{key:α->κ}{k:κ}{f:Yb α->Yb α}{l:Ya α}{y:α}(h:f (getK lt key k l)=Yd y):y∈putK lt key k f l:=by unfold putK;rw[h];simp
theorem AjZ{R:Ax}{t:Yi}{lab:Ya Al}(hl:HW lab)(firing:Ys):∀(fr:Ya Yi){gs:Ya Ag},Mines t gs->Mines t (fr.foldl (oneV R lab firing t) gs)
 |[],_,h=>h
 |i::fr,gs,h=>AjZ hl firing fr λg hg hk=>by
  rcases Ou hg with⟨h1,_⟩|h1
  ·exact h g h1 hk
  ·have:=aV _ _ (λx hx=>IK hx) h1
   have e:g.2.1=keyV lab:=Ai (·.2) this;exact Yw (e.symm.trans hk) (uK hl)
theorem AAM{R:Ax}{t:Yi}{lab:Ya Al}(hl:HW lab)(firing:Ys){fr:Ya Yi}{gs:Ya Ag}(h:Mines t gs):Mines t (Hs R fr lab firing t gs):=
 λg hg hk=>AjZ hl firing fr h g (Fv.mp hg).1 hk
theorem Ak0{R:Ax}{t:Yi}{lab:Ya Al}(hl:HW lab)(firing:Ys){g:Ag}(hk:g.2.1=Cy):∀(fr:Ya Yi){gs:Ya Ag},g∈gs->g∈fr.foldl (oneV R lab firing t) gs
 |[],_,h=>h
 |i::fr,gs,h=>Ak0 hl firing hk fr (Aop h λe=>uK hl (((Ai (·.2) e:g.2.1=keyV lab)).symm.trans hk))
theorem AAN{R:Ax}{t:Yi}{lab:Ya Al}(hl:HW lab)(firing:Ys){fr:Ya Yi}{gs:Ya Ag}(h:ON gs):ON (Hs R fr lab firing t gs):=by obtain⟨g,hg,hk,ho⟩:=h;exact⟨g,Fv.mpr ⟨Ak0 hl firing hk fr hg,by rw[uP t ho];rfl⟩,hk,ho⟩
theorem AAO{r:AU}(hr:RtOk r){i t:Yi}(ht:0<=t/\t<=100000):MineG t (addV r (newG i (keyV Bm)) Bm Yo t)/\Lw (addV r (newG i (keyV Bm)) Bm Yo t)=Yo:=by
 have e:addL (newG i (keyV Bm)) Bm Yo t=[(Cy,(Bm,(t,(t,(Yo,Yc)))))]:=by show [(E7 Bm,(Bm,(t,(t,(Yo,Yc)))))]=_;rw[uJ]
 have hm:(addV r (newG i (keyV Bm)) Bm Yo t).2.2.1=[(Cy,(Bm,(t,(t,(Yo,Yc)))))]:=e;refine⟨⟨⟨t,t,Yc,hm⟩,λ_=>?_⟩,by unfold Lw;rw[hm];rfl⟩
 have hd:(addV r (newG i (keyV Bm)) Bm Yo t).2.2.2.1=Mr r (newG i (keyV Bm)) t:=by show(bif Yf (((addL (newG i (keyV Bm)) Bm Yo t).length:Yi)=0)then(-1:Yi)else Mr r (newG i (keyV Bm)) t)=_;rw[e];rfl
 rw[hd];exact AjJ hr (g:=newG i (keyV Bm)) ht (by simp[newG]) ⟨by simp[newG],by show(-1:Yi)<=t;omega⟩
theorem AAP{r:AU}{t:Yi}{g:Ag}(h:MineG t g)(ho:Lw g=Yo):MineG t (addV r g Bm Yo t)/\Lw (addV r g Bm Yo t)=Yo:=by
 obtain⟨s,hh,td,hm⟩:=h.mem
 have hg:getK Yy mkey (E7 Bm) g.2.2.1=Yd (Cy,(Bm,(s,(hh,(Yo,td))))):=by rw[hm,uJ];rfl
 have e:addL g Bm Yo t=[(Cy,(Bm,(s,(t,(Yo,td)))))]:=by unfold addL;rw[hm,uJ];rfl
 have Es:(addV r g Bm Yo t).2.2.1=[(Cy,(Bm,(s,(t,(Yo,td)))))]:=e
 have hd:(addV r g Bm Yo t).2.2.2.1=g.2.2.2.1:=by show(bif Yf (((addL g Bm Yo t).length:Yi)=0)then(-1:Yi)else bif aU Yo (getK Yy mkey (E7 Bm) g.2.2.1)then Mr r g t else g.2.2.2.1)=_;rw[e,hg];rfl
 have Pr:td=Yc:=by unfold Lw at ho;rw[hm]at ho;simpa using ho
 have ADn:=h.due ho;exact⟨⟨⟨s,t,td,Es⟩,λ_=>by rw[hd];exact ADn⟩,by unfold Lw;rw[Es,Pr];rfl⟩
def aX(t:Yi)(gs:Ya Ag):Prop:=∀g∈gs,g.2.1=Cy->MineG t g/\Lw g=Yo
theorem uQ{R:Ax}(hR:RulesOk R){t:Yi}(ht:0<=t/\t<=100000){i:Yi}(hi:0<=i/\i<(R.1.length:Yi)){gs:Ya Ag}(h:aX t gs):aX t (oneV R Bm Yo t gs i)/\∃g∈oneV R Bm Yo t gs i,g.2.1=Cy:=by
 constructor
 ·intro g hg hk
  rcases Ou hg with⟨h1,_⟩|h1
  ·exact h g h1 hk
  ·cases ho:getK plt gkey (i,keyV Bm) gs with
   |none=>rw[ho]at h1;cases h1;exact AAO (hR.at hi.1 hi.2) ht
   |some g'=>rw[ho]at h1;cases h1;have e:g'.2.1=keyV Bm:=Ai (·.2) (IK ho);obtain⟨h2,h3⟩:=h g' (Me ho) (by rw[e,U0]);exact AAP h2 h3
 ·cases ho:getK plt gkey (i,keyV Bm) gs with
  |none=>exact⟨addV (FO R i) (newG i (keyV Bm)) Bm Yo t,AjY (by rw[ho];rfl),U0⟩
  |some g'=>have e:g'.2.1=keyV Bm:=Ai (·.2) (IK ho);exact⟨addV (FO R i) g' Bm Yo t,AjY (by rw[ho];rfl),e.trans U0⟩
theorem Ak1{R:Ax}(hR:RulesOk R){t:Yi}(ht:0<=t/\t<=100000):∀(fr:Ya Yi),(∀i∈fr,0<=i/\i<(R.1.length:Yi))->∀{gs:Ya Ag},aX t gs->aX t (fr.foldl (oneV R Bm Yo t) gs)/\(fr≠[]->∃g∈fr.foldl (oneV R Bm Yo t) gs,g.2.1=Cy)
 |[],_,gs,h=>⟨h,λh=>Yw rfl h⟩
 |[i],hf,gs,h=>⟨(uQ hR ht (hf i (by simp)) h).1,λ_=>(uQ hR ht (hf i (by simp)) h).2⟩
 |i::j::fr,hf,gs,h=>by have ih:=Ak1 hR ht (j::fr) (λk hk=>hf k (E6 _ hk)) (uQ hR ht (hf i (by simp)) h).1;exact⟨ih.1,λ_=>ih.2 (by simp)⟩
theorem AAQ{R:Ax}(hR:RulesOk R){t:Yi}(ht:0<=t/\t<=100000){fr:Ya Yi}(hf:∀i∈fr,0<=i/\i<(R.1.length:Yi))(Az:fr≠[]){gs:Ya Ag}(h:∀g∈gs,g.2.1≠Cy):Mines t (Hs R fr Bm Yo t gs)/\ON (Hs R fr Bm Yo t gs):=by
 have hm:=Ak1 hR ht fr hf (gs:=gs) (λg hg hk=>Yw hk (h g hg));refine⟨λg hg hk=>(hm.1 g (Fv.mp hg).1 hk).1,?_⟩;obtain⟨g,hg,hk⟩:=hm.2 Az;have ho:=(hm.1 g hg hk).2;exact⟨g,Fv.mpr ⟨hg,by rw[uP t ho];rfl⟩,hk,ho⟩
theorem AAR{R:Ax}(hR:RulesOk R){n:Yk}{t:Yi}(ht:0<=t/\t<=100000){mu:Ya Al->Ys}{gs:Ya Ag}(h:GsOk R n t gs)(hm:Mines t gs):Mines t (Iw R mu t gs):=λg hg hk=>by obtain⟨g',BB,rfl⟩:=Fw.mp (Fv.mp hg).1;have e:(seeV R mu t g').1.2.1=g'.2.1:=Ai (·.2) (Rm (R:=R) (mu:=mu) (t:=t) (g:=g'));exact(U2 hR ht (h.gr g' BB) (hm g' BB (e.symm.trans hk))).1
theorem Ak2{R:Ax}{mu:Ya Al->Ys}{t:Yi}{gs:Ya Ag}{x:Cg}(h:x∈E1 R mu t gs):∃g∈gs,(seeV R mu t g).2.2=Yo/\x=(seeV R mu t g).2.1:=by
 obtain⟨g,hg,hx⟩:=dU.mp h;cases ho:(seeV R mu t g).2.2 with
 |false=>rw[ho]at hx;exact Yw hx (by simp)
 |true=>rw[ho]at hx;exact⟨g,hg,ho,by simpa using hx⟩
theorem AAS{R:Ax}(hR:RulesOk R){n:Yk}{t:Yi}(ht:0<=t/\t<=100000){mu:Ya Al->Ys}{gs:Ya Ag}(h:GsOk R n t gs)(hm:Mines t gs){x:Cg}(hx:x∈E1 R mu t gs)(cK:Gs x=Yo):mu Bm=Yc/\x.1=t:=by
 obtain⟨g,hg,ho,rfl⟩:=Ak2 hx;by_cases hk:g.2.1=Cy
 ·obtain⟨h1,_,h3⟩:=(U2 hR ht (h.gr g hg) (hm g hg hk) (mu:=mu)).2.1 ho
  exact⟨h1,h3⟩
 ·rw[show Gs (seeV R mu t g).2.1=Yc from AjX (h.gr g hg) hk _ _]at cK
  exact Yw cK (by simp)
theorem AAT{R:Ax}(hR:RulesOk R){n:Yk}{t:Yi}(ht:0<=t/\t<=100000){mu:Ya Al->Ys}{gs:Ya Ag}(h:GsOk R n t gs)(hm:Mines t gs)(hu:ON gs):ON (Iw R mu t gs)\/∃x∈E1 R mu t gs,Gs x=Yo:=by
 obtain⟨g,hg,hk,ho⟩:=hu;have hs:=U2 hR ht (h.gr g hg) (hm g hg hk) (mu:=mu);rcases(hs.2.2 ho).1 with h1|h1
 ·refine .inl ⟨(seeV R mu t g).1,Fv.mpr ⟨RO hg,by rw[uP t h1];rfl⟩,?_,h1⟩
  exact((Ai (·.2) (Rm (R:=R) (mu:=mu) (t:=t) (g:=g)):(seeV R mu t g).1.2.1=g.2.1)).trans hk
 ·exact .inr ⟨(seeV R mu t g).2.1,dU.mpr ⟨g,hg,by rw[h1];simp⟩,(hs.2.1 h1).2.1⟩
theorem AAU{R:Ax}(hR:RulesOk R){n:Yk}{t0 t:Yi}(ht:0<=t/\t<=100000)(NH:t0+360<=t){mu:Ya Al->Ys}(Gd:mu Bm=Yc){gs:Ya Ag}(h:GsOk R n t gs)(hm:Mines t0 gs)(hu:ON gs):∃x∈E1 R mu t gs,Gs x=Yo:=by obtain⟨g,hg,hk,ho⟩:=hu;have hs:=U2 hR ht (h.gr g hg) ((hm g hg hk).later (show t0<=t by omega)) (mu:=mu);have hd:=(hm g hg hk).due ho;have h1:=(hs.2.2 ho).2 Gd (by omega);exact⟨(seeV R mu t g).2.1,dU.mpr ⟨g,hg,by rw[h1];simp⟩,(hs.2.1 h1).2.1⟩
theorem Ak3{R:Ax}(hR:RulesOk R){n:Yk}{t:Yi}(ht:0<=t/\t<=100000){mu Kn:Ya Al->Ys}(Gd:Lv mu)(Alx:Lv Kn):∀{gs:Ya Ag},(∀g∈gs,GrOk R n t g)->Mines t gs->(E1 R mu t gs).filter (λx=>!Gs x)=E1 R Kn t (nmF gs)
 |[],_,_=>rfl
 |g::gs,h,hm=>by
  have ih:=Ak3 hR ht Gd Alx (gs:=gs) (λg hg=>h g (by simp[hg])) (λg hg=>hm g (by simp[hg]));have e1:E1 R mu t (g::gs)=(bif (seeV R mu t g).2.2 then [(seeV R mu t g).2.1]else [])++E1 R mu t gs:=rfl;rw[e1,LI,ih];by_cases hk:g.2.1=Cy
  ·have e2:nmF (g::gs)=nmF gs:=by
    unfold nmF;rw[LJ];have:Ju (gkey g)=Yc:=by unfold Ju gkey;simp[hk]
    rw[this];rfl
   rw[e2];have hs:=(U2 hR ht (h g (by simp)) (hm g (by simp) hk) (mu:=mu)).2.1;cases ho:(seeV R mu t g).2.2 with
   |false=>rfl
   |true=>have:=(hs ho).2.1;simp[this]
  ·have e2:nmF (g::gs)=g::nmF gs:=by
    unfold nmF;rw[LJ];have:Ju (gkey g)=Yo:=by unfold Ju gkey;simp[hk]
    rw[this];rfl
   have e3:E1 R Kn t (g::nmF gs)=(bif (seeV R Kn t g).2.2 then [(seeV R Kn t g).2.1]else [])++E1 R Kn t (nmF gs):=rfl;rw[e2,e3,<-AjW (h g (by simp)) hk Gd Alx];have hn:Gs (seeV R mu t g).2.1=Yc:=AjX (h g (by simp)) hk _ _;cases(seeV R mu t g).2.2 with
   |false=>rfl
   |true=>simp[hn]
end
section
def QA(g:Ag):Prop:=g.2.2.2.2=-1/\∀m∈g.2.2.1,m.2.2.2.2.1=Yo/\m.2.2.2.2.2=Yc
def QB(g:Ag):Prop:=(∀m∈g.2.2.1,m.2.2.2.2.1=Yo)/\(g.2.2.2.2=-1\/(g.2.2.1≠[]/\∀m∈g.2.2.1,m.2.2.2.2.2=Yo))
def QC(g:Ag):Prop:=g.2.2.2.2=-1\/g.2.2.1≠[]
theorem QA.b{g:Ag}(h:QA g):QB g:=⟨λm hm=>(h.2 m hm).1,.inl h.1⟩
theorem QB.c{g:Ag}(h:QB g):QC g:=h.2.imp id (·.1)
def QQ:Yk->Ya Ag->Prop
 |0,gs=>gs=[]
 |1,gs=>∀g∈gs,QA g
 |2,gs=>∀g∈gs,QB g
 |3,gs=>∀g∈gs,QC g
 |_+4,_=>True
theorem QC.busy{R:Ax}{g:Ag}(h:QC g){t t':Yi}(hb:HX R g t=Yc):HX R g t'=Yc:=by
 unfold HX at*;cases h0:Yf ((g.2.2.1.length:Yi)=0)with
 |false=>rfl
 |true=>
  rcases h with h|h
  ·rw[h0,CD h]at hb
   exact Yw hb (by simp)
  ·have:=AC h0
   exact Yw (dB.mp (by omega)) h
theorem uR{r:AU}{g:Ag}{lab:Ya Al}{firing:Ys}{t:Yi}(h:QA g):QA (addV r g lab firing t):=by
 refine⟨h.1,λm hm=>?_⟩;rcases Ou (show m∈addL g lab firing t from hm)with⟨h1,_⟩|h1
 ·exact h.2 m h1
 ·cases ho:getK Yy mkey (E7 lab) g.2.2.1 with
  |none=>
   rw[ho]at h1;cases firing with
   |false=>exact Yw h1 (by simp[memF])
   |true=>cases h1;exact⟨rfl,rfl⟩
  |some m'=>
   obtain⟨h2,h3⟩:=h.2 m' (Me ho);rw[ho]at h1;dsimp only[memF]at h1;rw[h2,h3]at h1;cases firing with
   |true=>cases h1;exact⟨rfl,rfl⟩
   |false=>exact Yw h1 (by simp)
theorem Ak4{i:Yi}{key:Ya Yl}:QA (newG i key):=⟨rfl,λm hm=>Yw hm (by simp[newG])⟩
theorem AAV{r:AU}{g:Ag}{lab:Ya Al}{firing:Ys}{t:Yi}(h:QB g):QC (addV r g lab firing t):=by
 rcases h.2 with h1|⟨h1,h2⟩
 ·exact .inl h1
 ·refine .inr ?_
  show addL g lab firing t≠[];have h3:=Md (lt:=Yy) (key:=mkey) (E7 lab) g.2.2.1;intro e;unfold addL putK at e;obtain⟨e1,e2⟩:=YaV.mp e;obtain⟨e3,e4⟩:=YaV.mp e2;cases ho:getK Yy mkey (E7 lab) g.2.2.1 with
  |none=>rw[e1,e4,ho]at h3;exact h1 h3.symm
  |some m'=>have h4:=h.1 m' (Me ho);have h5:=h2 m' (Me ho);rw[ho]at e3;dsimp only[memF]at e3;rw[h4,h5]at e3;cases firing<;>exact Yw e3 (by simp)
theorem AAW{R:Ax}{lab:Ya Al}{firing:Ys}{t:Yi}{i:Yi}{gs:Ya Ag}(h:∀g∈gs,QA g):∀g∈oneV R lab firing t gs i,QA g:=λg hg=>by
 rcases Ou hg with⟨h1,_⟩|h1
 ·exact h g h1
 ·cases ho:getK plt gkey (i,keyV lab) gs with
  |none=>
   rw[ho]at h1;cases firing with
   |false=>exact Yw h1 (by simp[grpF])
   |true=>cases h1;exact uR Ak4
  |some g'=>rw[ho]at h1;cases h1;exact uR (h g' (Me ho))
theorem uS{R:Ax}{lab:Ya Al}{firing:Ys}{t:Yi}:∀(fr:Ya Yi){gs:Ya Ag},(∀g∈gs,QA g)->∀g∈fr.foldl (oneV R lab firing t) gs,QA g
 |[],_,h=>h
 |i::fr,gs,h=>uS fr (AAW h)
theorem Ak5{R:Ax}{lab:Ya Al}{firing:Ys}{t:Yi}:∀(fr:Ya Yi),fr.Nodup->∀{gs:Ya Ag},(∀g∈gs,QC g/\(g.1∈fr->QB g))->∀g∈fr.foldl (oneV R lab firing t) gs,QC g
 |[],_,_,h=>λg hg=>(h g hg).1
 |i::fr,hn,gs,h=>by
  obtain⟨hi,Dj⟩:=La.mp hn;refine Ak5 fr Dj λg hg=>?_;rcases Ou hg with⟨h1,_⟩|h1
  ·exact⟨(h g h1).1,λhm=>(h g h1).2 (by simp[hm])⟩
  ·have hk:=aV _ _ (λx hx=>IK hx) h1
   have e:g.1=i:=Ai (·.1) hk;refine⟨?_,λhm=>Yw (e▸hm) hi⟩;cases ho:getK plt gkey (i,keyV lab) gs with
   |none=>
    rw[ho]at h1;cases firing with
    |false=>exact Yw h1 (by simp[grpF])
    |true=>cases h1;exact(uR Ak4).b.c
   |some g'=>have e':g'.1=i:=Ai (·.1) (IK ho);rw[ho]at h1;cases h1;exact AAV ((h g' (Me ho)).2 (by simp[e']))
theorem AAX{R:Ax}{lab:Ya Al}{firing:Ys}{t:Yi}{fr:Ya Yi}(hn:fr.Nodup):∀{i:Yk}{gs:Ya Ag},QQ i gs->QQ (i+1) (Hs R fr lab firing t gs)
 |0,gs,h=>by cases(show gs=[]from h);exact λg hg=>uS fr (λg hg=>Yw hg (by simp)) g (Fv.mp hg).1
 |1,gs,h=>λg hg=>(uS fr h g (Fv.mp hg).1).b
 |2,gs,h=>λg hg=>Ak5 fr hn (λg hg=>⟨(h g hg).c,λ_=>h g hg⟩) g (Fv.mp hg).1
 |_+3,_,_=>trivial
theorem Ak6:∀(l:Ya AW)(s:Ys×(Ya (Ya Yl)×Ya (Ya Yl))),(∀m∈l,m.2.2.2.2.1=Yo)->(FP [] s l).2.2=s.2.2/\(FP [] s l).2.1=s.2.1++l.map mkey/\(l=[]->(FP [] s l).1=s.1)
 |[],s,_=>⟨rfl,by simp[FP],λ_=>rfl⟩
 |m::l,s,h=>by
  have ih:=Ak6 l (Gr [] s m) (λm' Es=>h m' (by simp[Es]));have e:FP [] s (m::l)=FP [] (Gr [] s m) l:=rfl
  have e2:Gr [] s m=(bif s.1 then Yo else !m.2.2.2.2.2,(s.2.1++[m.1],s.2.2)):=by unfold Gr;rw[h m (by simp)];rfl
  rw[e];refine⟨by rw[ih.1,e2],by rw[ih.2.1,e2];simp[mkey],λh=>Yw h (by simp)⟩
theorem Ak7{R:Ax}{n:Yk}{t:Yi}{g:Ag}(hg:GrOk R n t g)(hk:g.2.1≠Cy){mu:Ya Al->Ys}(hm:Lv mu)(hf:∀m∈g.2.2.1,m.2.2.2.2.1=Yo):(seeV R mu t g).1.2.2.2.2=g.2.2.2.2/\(seeV R mu t g).1.2.2.1=g.2.2.1\/g.2.2.1≠[]/\(seeV R mu t g).1.2.2.1≠[]/\∀m∈(seeV R mu t g).1.2.2.1,m.2.2.2.2.1=Yo/\m.2.2.2.2.2=Yo:=by
 unfold seeV Ez;rw[uO hg hk hm];have hs:=Ak6 g.2.2.1 (Yc,([],[])) hf;cases Yf (g.2.2.2.1=-1)||Yf (t<g.2.2.2.1)with
 |true=>exact .inl ⟨rfl,rfl⟩
 |false=>
  cases ho:okV (FO R g.1) g t []with
  |false=>exact .inl ⟨rfl,rfl⟩
  |true=>
   have Az:g.2.2.1≠[]:=λe=>by unfold okV aT sayV at ho;rw[hs.1,hs.2.1,hs.2.2 e,e]at ho;simp at ho
   have Co:memV g []=g.2.2.1.map (Mq (g.2.2.1.map mkey)):=by unfold memV sayV;rw[hs.1,hs.2.1];have:(g.2.2.1.filter λm=>!hasT [] m.1)=g.2.2.1:=VY.mpr λm _=>rfl;rw[this];rfl
   refine .inr ⟨Az,?_,?_⟩
   ·show memV g []≠[]
    rw[Co];simpa using Az
   ·intro m hm
    obtain⟨m',Es,rfl⟩:=Fw.mp (show m∈g.2.2.1.map (Mq (g.2.2.1.map mkey))from Co▸hm);refine⟨hf m' Es,?_⟩;show(m'.2.2.2.2.2||hasT (g.2.2.1.map mkey) (mkey m'))=Yo;rw[AAC (RO (f:=mkey) Es)];simp
theorem AAY{R:Ax}{n:Yk}{t:Yi}{mu:Ya Al->Ys}(hm:Lv mu):∀{i:Yk}{gs:Ya Ag},GsOk R n t gs->(∀g∈gs,g.2.1≠Cy)->QQ i gs->QQ (i+1) (Iw R mu t gs)
 |0,gs,_,_,h=>by cases(show gs=[]from h);exact λg hg=>Yw hg (by simp[Iw,Nw])
 |1,gs,hg,hk,h=>λg BB=>by
  obtain⟨g',Es,rfl⟩:=Fw.mp (Fv.mp BB).1;have hq:QA g':=h g' Es;rcases Ak7 (hg.gr g' Es) (hk g' Es) hm (λm hm=>(hq.2 m hm).1)with⟨h1,h2⟩|⟨_,h1,h2⟩
  ·exact⟨λm hm=>by rw[h2]at hm;exact(hq.2 m hm).1,.inl (h1.trans hq.1)⟩
  ·exact⟨λm hm=>(h2 m hm).1,.inr ⟨h1,λm hm=>(h2 m hm).2⟩⟩
 |2,gs,hg,hk,h=>λg BB=>by
  obtain⟨g',Es,rfl⟩:=Fw.mp (Fv.mp BB).1;have hq:QB g':=h g' Es;rcases Ak7 (hg.gr g' Es) (hk g' Es) hm hq.1 with⟨h1,h2⟩|⟨_,h1,h2⟩
  ·unfold QC
   rw[h1,h2];exact hq.c
  ·exact .inr h1
 |_+3,_,_,_,_=>trivial
end
section
structure MuOk (mu:Yi->Ya Al->Ys) (e:Yi):Prop where
 quiet:∀t,Lv (mu t)
 mine:∀t,0<=t->(mu t Bm=Yo↔t<e)
structure RelS (R:Ax) (i n:Yk) (t na nb:Yi) (a b:Ya Ag) (told:Ys):Prop where
 ok:GsOk R n t a
 nm:b=nmF a
 inA:0<=na/\na<=t
 inB:0<=nb/\nb<=t
 busyA:∀g∈a,HX R g na=Yc
 busyB:∀g∈b,HX R g nb=Yc
 mines:Mines t a
 early:i<=3->(QQ i a/\∀g∈a,g.2.1≠Cy)
 late:3<i->told=Yo\/ON a
theorem RelS.okB{R:Ax}{i n:Yk}{t na nb:Yi}{a b:Ya Ag}{told:Ys}(h:RelS R i n t na nb a b told):GsOk R n t b:=by rw[h.nm];exact h.ok.filter _
theorem RelS.later{R:Ax}{i n:Yk}{t t' na nb:Yi}{a b:Ya Ag}{told:Ys}(h:RelS R i n t na nb a b told)(ht:t<=t'):RelS R i n t' na nb a b told:=
 ⟨h.ok.later (Aw _) ht,h.nm,⟨h.inA.1,Wk h.inA.2 ht⟩,⟨h.inB.1,Wk h.inB.2 ht⟩,h.busyA,h.busyB,h.mines.later ht,h.early,h.late⟩
theorem rel0{R:Ax}:RelS R 0 0 0 0 0 [] [] Yc:=
 ⟨⟨λg hg=>Yw hg (by simp),Ya5,Aw _⟩,rfl,⟨Ey _,Ey _⟩,⟨Ey _,Ey _⟩,λg hg=>Yw hg (by simp),λg hg=>Yw hg (by simp),λg hg=>Yw hg (by simp),λ_=>⟨rfl,λg hg=>Yw hg (by simp)⟩,λh=>Yw h (by omega)⟩
theorem AAZ{gs:Ya Ag}(h:∀g∈gs,g.2.1≠Cy):nmF gs=gs:=by unfold nmF;rw[VY];intro g hg;unfold Ju gkey;simp[h g hg]
theorem AB0{R:Ax}(hR:RulesOk R){i n:Yk}{t na nb:Yi}(ht:0<=t/\t<=100000){a b:Ya Ag}{told:Ys}(h:RelS R i n t na nb a b told){lab:Ya Al}(hl:HW lab)(firing:Ys){fr:Ya Yi}(hf:∀i∈fr,0<=i/\i<(R.1.length:Yi))(hn:fr.Nodup)(h3:fr.length<=3)(hi:i≠3):RelS R (i+1) (n+3) t t t (Hs R fr lab firing t a) (Hs R fr lab firing t b) told where
 ok:=(AjO hR ht (.inl hl) firing hf h.ok).later (by omega) (Ey _)
 nm:=by rw[h.nm,AjS hR ht hl firing hf h.ok]
 inA:=⟨ht.1,Ey _⟩
 inB:=⟨ht.1,Ey _⟩
 busyA:=λg hg=>U1 hg
 busyB:=λg hg=>U1 hg
 mines:=AAM hl firing h.mines
 early:=λJd=>by
  obtain⟨h1,h2⟩:=h.early (by omega);refine⟨AAX hn h1,λg hg hk=>?_⟩;have hb:nmF a=a:=AAZ h2;have:nmF (Hs R fr lab firing t a)=Hs R fr lab firing t a:=by rw[AjS hR ht hl firing hf h.ok,hb]
  rw[<-this]at hg;exact(AjV hg).2 hk
 late:=λJd=>(h.late (by omega)).imp id λhu=>AAN hl firing hu
theorem AB1{R:Ax}(hR:RulesOk R){n:Yk}{t na nb:Yi}(ht:0<=t/\t<=100000){a b:Ya Ag}{told:Ys}(h:RelS R 3 n t na nb a b told){fr:Ya Yi}(hf:∀i∈fr,0<=i/\i<(R.1.length:Yi))(h3:fr.length<=3)(Az:fr≠[]):RelS R 4 (n+3) t t nb (Hs R fr Bm Yo t a) b told:=by
 obtain⟨h1,h2⟩:=h.early (Aw _);have hm:=AAQ hR ht hf Az h2
 exact{
  ok:=(AjO hR ht (.inr rfl) Yo hf h.ok).later (by omega) (Ey _)
  nm:=by rw[AAJ hR ht Yo hf h.ok (λg hg=>QC.busy (h1 g hg) (h.busyA g hg))];exact h.nm
  inA:=⟨ht.1,Ey _⟩
  inB:=h.inB
  busyA:=λg hg=>U1 hg
  busyB:=h.busyB
  mines:=hm.1
  early:=λhi=>Yw hi (by omega)
  late:=λ_=>.inr hm.2}
theorem AB2{R:Ax}(hR:RulesOk R){i n:Yk}{t na nb e:Yi}(ht:0<=t/\t<=100000){a b:Ya Ag}{told Hh:Ys}(h:RelS R i n t na nb a b told){mu:Yi->Ya Al->Ys}(hm:MuOk mu e)(hi:i≠3)(cI:Hh=Yo↔told=Yo\/∃x∈E1 R (mu t) t a,Gs x=Yo):RelS R (i+1) n t t t (Iw R (mu t) t a) (Iw R (λ_=>Yc) t b) Hh where
 ok:=AAI hR ht _ h.ok
 nm:=by rw[h.nm];exact(AAL h.ok (hm.quiet t) (λ_ _=>rfl)).symm
 inA:=⟨ht.1,Ey _⟩
 inB:=⟨ht.1,Ey _⟩
 busyA:=λg hg=>U1 hg
 busyB:=λg hg=>U1 hg
 mines:=AAR hR ht h.ok h.mines
 early:=λJd=>by obtain⟨h1,h2⟩:=h.early (by omega);refine⟨AAY (hm.quiet t) h.ok h2 h1,λg hg hk=>?_⟩;obtain⟨g',BB,rfl⟩:=Fw.mp (Fv.mp hg).1;have e:(seeV R (mu t) t g').1.2.1=g'.2.1:=Ai (·.2) (Rm (R:=R) (mu:=mu t) (t:=t) (g:=g'));exact h2 g' BB (e.symm.trans hk)
 late:=λJd=>by
  rcases h.late (by omega)with h1|h1
  ·exact .inl (cI.mpr (.inl h1))
  ·rcases AAT hR ht h.ok h.mines h1 with h2|h2
   ·exact .inr h2
   ·exact .inl (cI.mpr (.inr h2))
end
end Go.Lift
namespace Go.Lift
open Go.RowKit Go.IntWalk
section
variable{β:Type}[Sl]
theorem uT(g:Ag)(k:Ys->Yb β):Gb g k=k (Yf ((g.2.2.1.length:Yi)=0)):=by unfold Gb;rw[Aq]
def FitG(r:Ax)(g:Ag):Prop:=0<=g.1/\g.1<(r.1.length:Yi)∧-1<=g.2.2.2.2/\g.2.2.2.2<=8589934592/\0<=(FO r g.1).2.2.2.2.2.1/\(FO r g.1).2.2.2.2.2.1<=8589934592
theorem uU{r:Ax}{g:Ag}(h:FitG r g)(now:Yi)(k:Ys->Yb β):Nq r g now k=k (HX r g now):=by
 obtain⟨h1,h2,h3,h4,h5,h6⟩:=h;unfold Nq;rw[Aq];refine(uT g _).trans ?_;unfold HX;cases he:Yf ((g.2.2.1.length:Yi)=0)with
 |false=>exact c_f
 |true=>
  refine c_t.trans ?_;by_cases hs:g.2.2.2.2=-1
  ·refine(Bp hs).trans ?_
   rw[CD hs];rfl
  ·refine(AJ hs).trans ?_
   refine(B6 ⟨h1,h2⟩).trans ?_;rw[Ex hs];have hw:Yh.wrap (g.2.2.2.2+(FO r g.1).2.2.2.2.2.1)=g.2.2.2.2+(FO r g.1).2.2.2.2.2.1:=by rw[Y2];omega
   show k (Yf (Yh.wrap (g.2.2.2.2+(FO r g.1).2.2.2.2.2.1)<=now))=_;rw[hw];rfl
theorem Nx(n lo hi:Yi)(k:Ys->Yb β):K5 n lo hi k=k (Yf (lo<=n)&&Yf (n<=hi)):=by unfold K5;rw[Aq];exact c_kb k _ _
theorem U3(t:Yi)(k:Yi->Yb β):Gq t k=k (if 8589934592<t then-1 else t):=by
 unfold Gq;rw[Aq];by_cases h:(8589934592:Yi)<t
 ·rw[if_pos h];exact Bp h
 ·rw[if_neg h];exact AJ h
theorem AB3(i:Yi)(key:Ya Yl)(k:Ag->Yb β):X5 i key k=k (i,(key,(([]:Ya AW),((-1:Yi),(-1:Yi))))):=by unfold X5;rw[Aq]
theorem Ak8(k:BE->Yb β):Tp k=k ((0:Yi),(([]:Ya Ag),(([]:Ya CW),(1:Yi)))):=by unfold Tp;rw[Aq]
theorem Ak9{s:BE}{t:Yi}(h1:s.1<=t)(h2:t<=8589934592)(k:Yi->Yb β):Ts s t k=k 0:=by unfold Ts;rw[Aq];refine(AJ (by omega)).trans ?_;exact AJ (by omega)
end
end Go.Lift
namespace Go.Lift
open Go.RowKit Go.IntWalk
section
variable{β:Type}[Sl]
theorem Aka(k:Ys->Yb β)(s:Ya (Ya Yl))(v:Ya Yl)(hn:s.length<=100000):∀(m i:Yk),i<=s.length->s.length-i<m->T3 m (λt=>k (Yf ((0:Yi)<=t))) (λ_=>k (Yf ((0:Yi)≤-1))) s v (s.length:Yi) (i:Yi)=k (hasT (s.drop i) v)
 |0,i,_,h=>Yw h (C8 _)
 |m+1,i,hi,hm=>by
  rw[At7];unfold m8;by_cases Ae:i<s.length
  ·refine(Bp (by omega)).trans ?_
   refine(B6 ⟨by omega,by omega⟩).trans ?_
   have he:Yn s (Yj (i:Yi)) ([]:Ya Yl)=s[i]:=by show(s[i]?).getD _=_;rw[C0 Ae];rfl
   rw[he,JH Ae];by_cases hv:v=s[i]
   ·refine(Bp hv).trans ?_
    have:hasT (s[i]::s.drop (i+1)) v=Yo:=by unfold hasT;rw[PL,CD hv,Sj]
    rw[this];show k (Yf ((0:Yi)<=(i:Yi)))=k Yo;rw[CD (by omega:(0:Yi)<=(i:Yi))]
   ·refine(AJ hv).trans ?_
    have:hasT (s[i]::s.drop (i+1)) v=hasT (s.drop (i+1)) v:=by unfold hasT;rw[PL,Ex hv,Ko]
    rw[this,C3 (by omega)];exact Aka k s v hn m (i+1) (by omega) (by omega)
  ·refine(AJ (by omega)).trans ?_
   rw[GM (by omega)];rfl
theorem aY(s:Ya (Ya Yl))(v:Ya Yl)(hn:s.length<=100000)(k:Ys->Yb β):Nu s v k=k (hasT s v):=by unfold Nu;rw[Aq];unfold XU;rw[Aq];unfold m9;rw[Aq];exact Aka k s v hn fuel 0 (BD _) (by unfold fuel;omega)
theorem Akb(muted:Ya (Ya Yl))(s:Ys×(Ya (Ya Yl)×Ya (Ya Yl)))(m:AW):(Gr muted s m).2.1.length<=s.2.1.length+1/\(Gr muted s m).2.2.length<=s.2.2.length+1:=by unfold Gr;cases hasT muted m.1<;>cases m.2.2.2.2.1<;>simp
theorem Akc(k1:nU β)(t:Yi)(muted:Ya (Ya Yl))(mem:Ya AW)(g:Ag)(r:AU)(t8 Dn Dy:Yi)(Dz:Ya Yl)(n n2 n3:Yi)(n4:Ya Yl)(b4 b5:Ya (Ya Yl))(hn:mem.length<=1000)(Gd:muted.length<=100000):∀(m i:Yk)(s:Ys×(Ya (Ya Yl)×Ya (Ya Yl))),i<=mem.length->mem.length-i<m->s.2.1.length<=i->s.2.2.length<=i->TF m k1 t muted s.1 mem (mem.length:Yi) (i:Yi) g r t8 Dn Dy Dz n n2 n3 n4 b4 b5 s.2.1 s.2.2=k1 t (FP muted s (mem.drop i)).1 g r t8 Dn Dy Dz n n2 n3 n4 b4 b5 (FP muted s (mem.drop i)).2.1 (FP muted s (mem.drop i)).2.2
 |0,i,_,_,h,_,_=>Yw h (C8 _)
 |m+1,i,s,hi,hm,Bt,AP=>by
  rw[AuP];unfold nX;by_cases Ae:i<mem.length
  ·refine(Bp (by omega)).trans ?_
   refine(B6 ⟨by omega,by omega⟩).trans ?_
   have he:Yn mem (Yj (i:Yi)) (([]:Ya Yl),(([]:Ya Al),((0:Yi),((0:Yi),(Yc,Yc)))))=mem[i]:=by show(mem[i]?).getD _=_;rw[C0 Ae];rfl
   rw[he,JH Ae];generalize mem[i]=e;refine(aY muted e.1 Gd _).trans ?_;have ADw:FP muted s (e::mem.drop (i+1))=FP muted (Gr muted s e) (mem.drop (i+1)):=rfl;rw[ADw];have hl:=Akb muted s e;have ih:=Akc k1 t muted mem g r t8 Dn Dy Dz n n2 n3 n4 b4 b5 hn Gd m (i+1) (Gr muted s e) (by omega) (by omega) (by omega) (by omega);rw[<-C3 (by omega)]at ih;rw[<-ih];unfold Gr;cases hasT muted e.1 with
   |true=>rfl
   |false=>
    cases e.2.2.2.2.1 with
    |true=>refine(GT (by simp only[Be,BP];omega)).trans ?_;cases s.1<;>rfl
    |false=>exact GT (by simp only[Be,BP];omega)
  ·refine(AJ (by omega)).trans ?_
   rw[GM (by omega)];rfl
theorem uV(k1:Afx β)(fresh again:Ys)(t8 Dn Dy:Yi)(Dz:Ya Yl)(n n2 n3:Yi)(n4:Ya Yl)(b2 b3 b4 b5:Ya (Ya Yl)):OA k1 fresh again t8 Dn Dy Dz n n2 n3 n4 b2 b3 b4 b5=k1 (fresh||(again||Yf ((0:Yi)<(b5.length:Yi)))) n n2 n3 n4 b4 b5:=by
 unfold OA nW;rw[Aq];cases fresh<;>cases again<;>rfl
theorem AB4{r:AU}{g:Ag}{t:Yi}{muted:Ya (Ya Yl)}(hn:g.2.2.1.length<=1000)(Gd:muted.length<=100000)(hs:-1<=g.2.2.2.2/\g.2.2.2.2<=8589934592)(hr:0<=r.2.2.2.2.2.2.1/\r.2.2.2.2.2.2.1<=8589934592)(k):Zf (β:=β) g r t muted k=k t g.1 r.2.2.1 g.2.1 (okV r g t muted) (sayV muted g).2.1 (sayV muted g).2.2:=by
 unfold Zf;rw[Aq];unfold nY;rw[Aq];refine(Akc _ t muted g.2.2.1 g r 0 0 0 [] t g.1 r.2.2.1 g.2.1 [] [] hn Gd fuel 0 (Yc,([],[])) (BD _) (by unfold fuel;omega) (Aw _) (Aw _)).trans ?_;rw[PK];show Yr (Yf ((0:Yi)<((sayV muted g).2.1.length:Yi))) _ _=_;have hw:Yh.wrap (g.2.2.2.2+r.2.2.2.2.2.2.1)=g.2.2.2.2+r.2.2.2.2.2.2.1:=by rw[Y2];omega
 unfold okV aT;cases Yf ((0:Yi)<((sayV muted g).2.1.length:Yi))with
 |false=>exact uV _ _ _ _ _ _ _ _ _ _ _ _ _ _ _
 |true=>
  refine c_t.trans ?_;cases hd:Yf (g.2.2.2.2=-1)with
  |true=>exact uV _ _ _ _ _ _ _ _ _ _ _ _ _ _ _
  |false=>show OA _ _ (Yf (Yh.wrap (g.2.2.2.2+r.2.2.2.2.2.2.1)<=t)) _ _ _ _ _ _ _ _ _ _ _ _=_;rw[hw];exact uV _ _ _ _ _ _ _ _ _ _ _ _ _ _ _
end
end Go.Lift
namespace Go.Lift
open Go.RowKit Go.IntWalk
section
variable{β:Type}[Sl]
theorem Akd(k:Ys->Yb β)(s:Ya AW)(hn:s.length<=1000):∀(m i:Yk),i<=s.length->s.length-i<m->OG m (λt=>k (Yf ((0:Yi)<=t))) (λ_=>k (Yf ((0:Yi)≤-1))) s (s.length:Yi) (i:Yi)=k ((s.drop i).any λm=>!m.2.2.2.2.2)
 |0,i,_,h=>Yw h (C8 _)
 |m+1,i,hi,hm=>by
  rw[Azg];unfold sC;by_cases Ae:i<s.length
  ·refine(Bp (by omega)).trans ?_
   refine(B6 ⟨by omega,by omega⟩).trans ?_
   have he:Yn s (Yj (i:Yi)) (([]:Ya Yl),(([]:Ya Al),((0:Yi),((0:Yi),(Yc,Yc)))))=s[i]:=by show(s[i]?).getD _=_;rw[C0 Ae];rfl
   rw[he,JH Ae,PL];unfold lX;rw[Aq];generalize s[i]=e;show Yr (!e.2.2.2.2.2) (k (Yf ((0:Yi)<=(i:Yi)))) (OG m (λt=>k (Yf ((0:Yi)<=t))) (λ_=>k (Yf ((0:Yi)≤-1))) s (s.length:Yi) (Yh.wrap ((i:Yi)+1)))=_;cases e.2.2.2.2.2 with
   |false=>show k (Yf ((0:Yi)<=(i:Yi)))=k Yo;rw[CD (by omega:(0:Yi)<=(i:Yi))]
   |true=>show OG m _ _ s _ (Yh.wrap ((i:Yi)+1))=k ((s.drop (i+1)).any λm=>!m.2.2.2.2.2);rw[C3 (by omega)];exact Akd k s hn m (i+1) (by omega) (by omega)
  ·refine(AJ (by omega)).trans ?_
   rw[GM (by omega)];rfl
theorem AB5(s:Ya AW)(hn:s.length<=1000)(k:Ys->Yb β):aC s k=k (s.any λm=>!m.2.2.2.2.2):=by unfold aC;rw[Aq];unfold sE;rw[Aq];unfold sD;rw[Aq];exact Akd k s hn fuel 0 (BD _) (by unfold fuel;omega)
theorem U4{α:Type}(a:Ya α)(x d:α)(b:Ya α):Yn (a++x::b) (Yj (a.length:Yi)) d=x:=by show((a++x::b)[a.length]?).getD d=x;rw[ES (Aw _),Sh];rfl
theorem Rn{α:Type}(a:Ya α)(x y:α)(b:Ya α):YG (a++x::b) (Yj (a.length:Yi)) y=a++y::b:=by show(a++x::b).set a.length y=_;rw[dF _ _ (Aw _),Sh];rfl
theorem Ake(k1:sL β)(t:Yi)(ok:Ys)(g:Yi)(g2:Ya Yl)(g3 g4:Yi)(r:AU)(t8:Ag)(t9:Cg)(n n2 n3:Yi)(n4:Ya Yl)(f b7:Ya (Ya Yl))(hf:f.length<=100000):∀(b a:Ya AW)(m:Yk),a.length+b.length<=1000->b.length<m->OH m k1 t ok ((a.length+b.length:Yk):Yi) (a.length:Yi) g g2 g3 g4 r t8 t9 n n2 n3 n4 (a++b) f b7=k1 t ok g g2 g3 g4 r t8 t9 n n2 n3 n4 (a++b.map (Mq f)) f b7
 |b,a,0,_,h=>Yw h (C8 _)
 |[],a,m+1,hn,hm=>by rw[Ajb];unfold aD;exact AJ (by simp)
 |x::b,a,m+1,hn,hm=>by
  rw[Ajb];unfold aD;simp only[Be]at hn hm
  have Ci:0<=(a.length:Yi)/\(a.length:Yi)<((a++x::b).length:Yi):=by
   constructor
   ·omega
   ·simp only[Bd,Be];omega
  refine(Bp (by simp only[Be];omega)).trans ?_;refine(B6 Ci).trans ?_;rw[U4];have ih:=Ake k1 t ok g g2 g3 g4 r t8 t9 n n2 n3 n4 f b7 hf b (a++[Mq f x]) m (by simp only[Bd,Be,BP];omega) (by omega);simp only[Bd,Be,BP,C1,EE,DT]at ih;rw[show a.length+(0+1)+b.length=a.length+(b.length+1) by omega,show((a.length+(0+1):Yk):Yi)=Yh.wrap ((a.length:Yi)+1)from(C3 (by omega)).symm]at ih;rw[Be,CP,<-ih];unfold Mq;cases hx:x.2.2.2.2.2 with
  |true=>refine c_t.trans ?_;refine(B6 Ci).trans ?_;show OH m k1 t ok _ _ g g2 g3 g4 r t8 t9 n n2 n3 n4 (YG (a++x::b) (Yj (a.length:Yi)) _) f b7=_;rw[Rn];rfl
  |false=>refine c_f.trans ?_;refine(aY f x.1 hf _).trans ?_;refine(B6 Ci).trans ?_;show OH m k1 t ok _ _ g g2 g3 g4 r t8 t9 n n2 n3 n4 (YG (a++x::b) (Yj (a.length:Yi)) _) f b7=_;rw[Rn];rfl
theorem uW(k1:Aj3 β){t due:Yi}(ht:0<=t/\t<=8589934592)(ok:Ys)(g:Yi)(g2:Ya Yl)(g3 g4:Yi)(t8:Ag)(t9:Cg)(n n2 n3:Yi)(n4:Ya Yl)(b4:Ya AW)(b5 b6:Ya (Ya Yl)):Rd k1 t ok due g g2 g3 g4 t8 t9 n n2 n3 n4 b4 b5 b6=k1 ok 0 g g2 (bif Yf ((b4.length:Yi)=0)then-1 else(if 8589934592<(if t+1>due then t+1 else due)then-1 else(if t+1>due then t+1 else due))) g4 n n2 n3 n4 b4 b5 b6:=by
 unfold Rd sN;rw[Aq];have hw:Yh.wrap (t+1)=t+1:=by rw[Y2];omega
 rw[hw];refine(U3 _ _).trans ?_;refine(uT _ _).trans ?_;show Yr (Yf ((b4.length:Yi)=0)) _ _=_;cases Yf ((b4.length:Yi)=0)<;>rfl
def FitR(r:AU):Prop:=0<=r.2.2.2.2.2.1/\r.2.2.2.2.2.1<=8589934592/\0<=r.2.2.2.2.2.2.1/\r.2.2.2.2.2.2.1<=8589934592
theorem Akf(k1:Aj5 β){t:Yi}(ht:0<=t/\t<=8589934592){r:AU}(hr:FitR r)(ok:Ys)(g:Yi)(g2:Ya Yl)(g3:Yi){g4:Yi}(hs:-1<=g4/\g4<=8589934592)(t8:Ag)(t9:Cg)(n n2 n3:Yi)(n4:Ya Yl)(b4:Ya AW)(hb:b4.length<=1000)(b5 b6:Ya (Ya Yl)):Re k1 t ok g g2 g3 g4 r t8 t9 n n2 n3 n4 b4 b5 b6=k1 ok 0 g g2 (dueV r t g4 b4) g4 n n2 n3 n4 b4 b5 b6:=by
 obtain⟨r1,r2,r3,r4⟩:=hr;unfold Re sO;rw[Aq];refine(AB5 b4 hb _).trans ?_;have EP:Yh.wrap (g4+r.2.2.2.2.2.2.1)=g4+r.2.2.2.2.2.2.1:=by rw[Y2];omega
 have He:Yh.wrap (t+r.2.2.2.2.2.1)=t+r.2.2.2.2.2.1:=by rw[Y2];omega
 rw[EP,He];unfold dueV;cases(b4.any λm=>!m.2.2.2.2.2)with
 |true=>exact uW _ ht _ _ _ _ _ _ _ _ _ _ _ _ _ _
 |false=>
  refine c_f.trans ?_;cases Yf (g4+r.2.2.2.2.2.2.1<=t)with
  |true=>exact uW _ ht _ _ _ _ _ _ _ _ _ _ _ _ _ _
  |false=>exact uW _ ht _ _ _ _ _ _ _ _ _ _ _ _ _ _
theorem uX(muted:Ya (Ya Yl)):∀(l:Ya AW)(s:Ys×(Ya (Ya Yl)×Ya (Ya Yl))),(FP muted s l).2.1.length<=s.2.1.length+l.length/\(FP muted s l).2.2.length<=s.2.2.length+l.length
 |[],s=>⟨Aw _,Aw _⟩
 |x::l,s=>by have h:=Akb muted s x;have ih:=uX muted l (Gr muted s x);have e:FP muted s (x::l)=FP muted (Gr muted s x) l:=rfl;rw[e,Be];omega
theorem AB6(k1:Aj8 β){t:Yi}(ht:0<=t/\t<=8589934592){muted:Ya (Ya Yl)}(Gd:muted.length<=1000){g:Ag}(hg:Mo g)(hs:-1<=g.2.2.2.2/\g.2.2.2.2<=8589934592){r:AU}(hr:FitR r)(t8:Ag)(t9:Cg):Us k1 t muted g r t8 t9=k1 (Ez r g t muted).2.2 0 (Ez r g t muted).1.1 (Ez r g t muted).1.2.1 (Ez r g t muted).1.2.2.2.1 (Ez r g t muted).1.2.2.2.2 (Ez r g t muted).2.1.1 (Ez r g t muted).2.1.2.1 (Ez r g t muted).2.1.2.2.1 (Ez r g t muted).2.1.2.2.2.1 (Ez r g t muted).1.2.2.1 (Ez r g t muted).2.1.2.2.2.2.1 (Ez r g t muted).2.1.2.2.2.2.2:=by
 unfold Us sQ;rw[Aq];refine(aS hg _).trans ?_;unfold Ez;by_cases h1:g.2.2.2.1=-1
 ·refine(Bp h1).trans ?_
  rw[CD h1];rfl
 refine(AJ h1).trans ?_;rw[Ex h1];by_cases h2:t<g.2.2.2.1
 ·refine(Bp h2).trans ?_
  rw[CD h2];rfl
 refine(AJ h2).trans ?_;rw[Ex h2];refine(AB4 (g:=g) hg.1 (by omega) hs ⟨hr.2.2.1,hr.2.2.2⟩ _).trans ?_;cases okV r g t muted with
 |false=>exact Akf _ ht hr _ _ _ _ hs _ _ _ _ _ _ _ hg.1 _ _
 |true=>
  refine c_t.trans ?_;have hl:=uX muted g.2.2.1 (Yc,([],[]));have Ea:(sayV muted g).2.1.length<=1000:=BH hl.1 (by simpa using hg.1);have Je:(sayV muted g).2.2.length<=1000:=BH hl.2 (by simpa using hg.1);refine(aR (p:=λm:AW=>hasT (sayV muted g).2.2 m.1) λx _ k=>aY _ _ (by omega) k).trans ?_;have Ki:(g.2.2.1.filter λm=>!hasT (sayV muted g).2.2 m.1).length<=1000:=BH (MH _ _) hg.1;unfold sP;rw[Aq]
  have R7:=Ake (λt2 ok g2 g3 g4 g5 Bz Dn I8 n n2 n3 n4 Ce Di DM=>Re (λAT Bu Dy Dz t85 ME I9 IA IB yY BL Cd CL=>k1 AT Bu Dy Dz t85 ME I9 IA IB yY BL Cd CL) t2 ok g2 g3 g4 g5 Bz Dn I8 n n2 n3 n4 Ce Di DM)
   t Yo g.1 g.2.1 g.2.2.2.1 t r t8 t9 t g.1 r.2.2.1 g.2.1 (sayV muted g).2.1 (sayV muted g).2.2 (by omega) (g.2.2.1.filter λm=>!hasT (sayV muted g).2.2 m.1) [] fuel (by simpa using Ki) (by unfold fuel;omega)
  simp only[BP,CQ,DT]at R7;refine R7.trans ?_;exact Akf _ ht hr _ _ _ _ ⟨by omega,ht.2⟩ _ _ _ _ _ _ _ (by rw[Fc];exact Ki) _ _
theorem AB7{t:Yi}(ht:0<=t/\t<=8589934592){muted:Ya (Ya Yl)}(Gd:muted.length<=1000){g:Ag}(hg:Mo g)(hs:-1<=g.2.2.2.2/\g.2.2.2.2<=8589934592){r:AU}(hr:FitR r)(hv:∀{γ:Type}(k:Ys->Yb γ),Lr g k=k Yo)(Vu:∀{γ:Type}(k:Ys->Yb γ),Nv r k=k Yo)(k:Ag->Cg->Ys->Yi->Yb β):aF g r t muted k=k (Ez r g t muted).1 (Ez r g t muted).2.1 (Ez r g t muted).2.2 0:=by
 unfold aF;rw[Aq];refine(hv _).trans ?_;refine c_f.trans ?_;refine(Vu _).trans ?_;show Ut _ _ t muted Yc g r _ _=_;unfold Ut sR;rw[Aq];refine c_f.trans ?_;refine(Nx _ _ _ _).trans ?_;rw[CD ht.1,CD ht.2];refine c_f.trans ?_;exact AB6 _ ht Gd hg hs hr _ _
theorem AB8{t:Yi}(ht:0<=t/\t<=8589934592){g:Ag}(hg:Mo g){r:AU}(hv:∀{γ:Type}(k:Ys->Yb γ),Lr g k=k Yo)(Vu:∀{γ:Type}(k:Ys->Yb γ),Nv r k=k Yo)(k:Ag->Yi->Yb β):ZM g r t 0 k=k g 0:=by
 unfold ZM;rw[Aq];refine(hv _).trans ?_;refine c_f.trans ?_;refine(Vu _).trans ?_;show Ua _ _ t 0 Yc g r _=_;unfold Ua rB;rw[Aq];refine c_f.trans ?_;refine(Nx _ _ _ _).trans ?_;rw[CD ht.1,CD ht.2];refine c_f.trans ?_;refine(Nx _ _ _ _).trans ?_;refine c_f.trans ?_;unfold ZL rA;rw[Aq];refine(aS hg _).trans ?_;exact Bp rfl
end
end Go.Lift
namespace Go.Lift
open Go.RowKit Go.IntWalk
section
variable{β:Type}[Sl]
theorem AB9{l:Ya AW}(h:AscK l)(i:Yk)(hi:i+1<l.length):(Yy (l[i+1]).1 (l[i]).1||Yf ((l[i+1]).1=(l[i]).1))=Yc:=by
 have hp:Yy (l[i]).1 (l[i+1]).1=Yo:=d9.mp h i (i+1) (by omega) hi (by omega)
 have e1:Yy (l[i+1]).1 (l[i]).1=Yc:=by
  cases hc:Yy (l[i+1]).1 (l[i]).1 with
  |false=>rfl
  |true=>have:=SS hp hc;rw[Ll]at this;exact Yw this (by simp)
 have e2:¬(l[i+1]).1=(l[i]).1:=λe=>by rw[e,Ll]at hp;exact Yw hp (by simp)
 rw[e1,Ex e2];rfl
theorem Akg(k:Ys->Yb β)(g:Ag)(hn:g.2.2.1.length<=1000)(hm:∀m∈g.2.2.1,∀{γ:Type}(k:Ys->Yb γ),QV m k=k Yo)(hs:AscK g.2.2.1):∀(m i:Yk),i<=g.2.2.1.length->g.2.2.1.length-i<m->TV m (λt2=>k t2) (λ_=>k Yo) g.2.2.1 (g.2.2.1.length:Yi) (i:Yi) g=k Yo
 |0,i,_,h=>Yw h (C8 _)
 |m+1,i,hi,x4=>by
  rw[Awd];unfold pR
  have he:∀j,(h:j<g.2.2.1.length)->Yn g.2.2.1 (Yj (j:Yi)) (([]:Ya Yl),(([]:Ya Al),((0:Yi),((0:Yi),(Yc,Yc)))))=g.2.2.1[j]:=λj h=>by show(g.2.2.1[j]?).getD _=_;rw[C0 h];rfl
  by_cases Ae:i<g.2.2.1.length
  ·refine(Bp (by omega)).trans ?_
   refine(B6 ⟨by omega,by omega⟩).trans ?_;rw[he i Ae];refine(hm _ (Ew Ae) _).trans ?_;refine c_f.trans ?_;have ih:=Akg k g hn hm hs m (i+1) (by omega) (by omega);rw[<-C3 (by omega)]at ih;by_cases h0:(0:Yi)<(i:Yi)
   ·refine(Bp h0).trans ?_
    obtain⟨j,rfl⟩:∃j,i=j+1:=⟨i-1,by omega⟩;have hw:Yh.wrap (((j+1:Yk):Yi)-1)=(j:Yi):=by rw[Y2];omega
    rw[hw];refine(B6 ⟨by omega,by omega⟩).trans ?_;rw[he j (by omega)];show Yr (Yy (g.2.2.1[j+1]).1 (g.2.2.1[j]).1||Yf ((g.2.2.1[j+1]).1=(g.2.2.1[j]).1)) _ _=_;rw[AB9 hs j Ae];exact ih
   ·refine(AJ h0).trans ?_
    exact ih
  ·exact AJ (by omega)
theorem ABa{g:Ag}(hn:g.2.2.1.length<=256)(h0:0<=g.1)(hd:-1<=g.2.2.2.1/\g.2.2.2.1<=8589934592)(cF:-1<=g.2.2.2.2/\g.2.2.2.2<=8589934592)(hm:∀m∈g.2.2.1,∀{γ:Type}(k:Ys->Yb γ),QV m k=k Yo)(hs:AscK g.2.2.1)(k:Ys->Yb β):Lr g k=k Yo:=by
 unfold Lr;rw[Aq];refine(AJ (by omega)).trans ?_;refine(AJ (by omega)).trans ?_;refine(Nx _ _ _ _).trans ?_;rw[CD hd.1,CD hd.2];refine c_f.trans ?_;refine(Nx _ _ _ _).trans ?_;rw[CD cF.1,CD cF.2];refine c_f.trans ?_;unfold pS;rw[Aq];exact Akg k g (by omega) hm hs fuel 0 (BD _) (by unfold fuel;omega)
end
end Go.Lift
namespace Go.Lift
open Go.RowKit Go.IntWalk
section
variable{β:Type}[Sl]
def Kc:Ya (Ya Yl):=[[97,112,112],[104,111,115,116],[115,101,118],[116,101,97,109],[122,111,110,101]]
def Ny:Ya (Ya Yl):=[[97],[98],[],[42],[99,114,105,116],[63],[119,101,98,45,42],[97,34,98,92]]
def DD:Ya (Ya Yl):=[[],[97],[98],[99,114,105,116],[97,34,98,92],[119,101,98,45,49],[109,105,110,101]]
structure TopFacts [Sl]:Prop where
 alive:∀{β:Type}(k:Ys->Yb β),Rh k=k Yo
 key:∀s∈Kc,∀{β:Type}(k:Ys->Yb β),JY s k=k Yo
 value:∀v∈DD,∀{β:Type}(k:Ys->Yb β),Fj v k=k Yo
 pat:∀v∈Ny,∀{β:Type}(k:Ys->Yb β),Fj v k=k Yo
 quoted:∀v∈DD,∀{β:Type}(k:Ya Yl->Yb β),Kb v k=k (qV v)
 like:∀p∈Ny,∀v∈DD,∃b,∀{β:Type}(k:Ys->Yb β),Bw p v k=k b
 mine:∀{β:Type}(k:Ya Yl->Yb β),Zp Bm k=k Cy
theorem E8{α:Type}{l:Ya α}{i:Yk}{d:α}(h:i<l.length):Yn l (Yj (i:Yi)) d=l[i]:=by show(l[i]?).getD d=_;rw[C0 h];rfl
structure LabG (l:Ya Al):Prop where
 mem:∀x∈l,x.1∈Kc/\x.2∈DD/\x.2≠[]
 asc:l.Pairwise λa b=>Yy a.1 b.1=Yo
 len:l.length<=4
theorem K9{k v:Ya Yl}{x:Al}(h:x∈opt1 k v):x=(k,v)/\v≠[]:=by
 unfold opt1 at h;split at h
 ·exact Yw h (by simp)
 ·rename_i hv
  exact⟨by simpa using h,hv⟩
theorem aZ{k v:Ya Yl}:(opt1 k v).Pairwise λa b:Al=>Yy a.1 b.1=Yo:=by unfold opt1;split<;>simp
theorem Lx{k v:Ya Yl}:(opt1 k v).length<=1:=by unfold opt1;split<;>simp
theorem b9{v:Ya Yl}(h:v∈vals):v∈DD:=by simp only[vals,DD,Bg,RY,or_false]at*;rcases h with h|h|h|h|h|h<;>simp[h]
theorem Kd{l:Ya Al}(h:DL l):LabG l:=by
 rcases h with⟨a,ha,b,hb,c,hc,d,hd,rfl⟩|rfl
 ·refine⟨λx hx=>?_,?_,?_⟩
  ·rcases BV.mp hx with h|h
   ·obtain⟨rfl,h2⟩:=K9 h
    exact⟨by simp[Kc],b9 ha,h2⟩
   ·rcases BV.mp h with h|h
    ·obtain⟨rfl,h2⟩:=K9 h
     exact⟨by simp[Kc],b9 hb,h2⟩
    ·rcases BV.mp h with h|h
     ·obtain⟨rfl,h2⟩:=K9 h
      exact⟨by simp[Kc],b9 hc,h2⟩
     ·obtain⟨rfl,h2⟩:=K9 h
      exact⟨by simp[Kc],b9 hd,h2⟩
  ·refine FU.mpr ⟨aZ,FU.mpr ⟨aZ,FU.mpr ⟨aZ,aZ,?_⟩,?_⟩,?_⟩
   ·intro x hx y hy
    rw[(K9 hx).1,(K9 hy).1];rfl
   ·intro x hx y hy
    rw[(K9 hx).1];rcases BV.mp hy with hy|hy<;>rw[(K9 hy).1]<;>rfl
   ·intro x hx y hy
    rw[(K9 hx).1];rcases BV.mp hy with hy|hy
    ·rw[(K9 hy).1];rfl
    ·rcases BV.mp hy with hy|hy<;>rw[(K9 hy).1]<;>rfl
  ·simp only[Bd]
   have h1:=Lx (k:=kApp) (v:=a);have h2:=Lx (k:=[104,111,115,116]) (v:=b);have h3:=Lx (k:=[115,101,118]) (v:=c);have h4:=Lx (k:=[116,101,97,109]) (v:=d);omega
 ·refine⟨λx hx=>?_,by simp,by simp⟩
  rw[DS.mp hx];simp[Kc,DD]
theorem LabG.filter{l:Ya Al}(h:LabG l)(p:Al->Ys):LabG (l.filter p):=
 ⟨λx hx=>h.mem x (Fv.mp hx).1,dI _ h.asc,BH (MH _ _) h.len⟩
theorem Akh(F:TopFacts)(k:Ys->Yb β)(l:Ya Al)(h:LabG l):∀(m i:Yk),i<=l.length->l.length-i<m->T8 m (λt2=>k t2) (λ_=>k Yo) l l (l.length:Yi) (i:Yi)=k Yo
 |0,i,_,h=>Yw h (C8 _)
 |m+1,i,hi,hm=>by
  rw[Auh];unfold mW;by_cases Ae:i<l.length
  ·refine(Bp (by omega)).trans ?_
   refine(B6 ⟨by omega,by omega⟩).trans ?_;rw[E8 Ae];obtain⟨h1,h2,h3⟩:=h.mem _ (Ew Ae);refine(F.key _ h1 _).trans ?_;refine c_f.trans ?_;refine(F.value _ h2 _).trans ?_;refine c_f.trans ?_;refine(AJ h3).trans ?_;have ih:=Akh F k l h m (i+1) (by omega) (by omega);rw[<-C3 (by have:=h.len;omega)]at ih;by_cases h0:(0:Yi)<(i:Yi)
   ·refine(Bp h0).trans ?_
    obtain⟨j,rfl⟩:∃j,i=j+1:=⟨i-1,by omega⟩;have hw:Yh.wrap (((j+1:Yk):Yi)-1)=(j:Yi):=by rw[Y2];have:=h.len;omega
    rw[hw];refine(B6 ⟨by omega,by omega⟩).trans ?_;rw[E8 (show j<l.length by omega)];have hp:=d9.mp h.asc j (j+1) (by omega) Ae (by omega)
    have hf:(Yy (l[j+1]).1 (l[j]).1||Yf ((l[j+1]).1=(l[j]).1))=Yc:=by
     have e1:Yy (l[j+1]).1 (l[j]).1=Yc:=by
      cases hc:Yy (l[j+1]).1 (l[j]).1 with
      |false=>rfl
      |true=>have:=SS hp hc;rw[Ll]at this;exact Yw this (by simp)
     have e2:¬(l[j+1]).1=(l[j]).1:=λe=>by rw[e,Ll]at hp;exact Yw hp (by simp)
     rw[e1,Ex e2];rfl
    show Yr (Yy (l[j+1]).1 (l[j]).1||Yf ((l[j+1]).1=(l[j]).1)) _ _=_;rw[hf];exact ih
   ·refine(AJ h0).trans ?_
    exact ih
  ·exact AJ (by omega)
theorem Ro(F:TopFacts){l:Ya Al}(h:LabG l)(k:Ys->Yb β):Mn l k=k Yo:=by unfold Mn;rw[Aq];refine(AJ (by have:=h.len;omega)).trans ?_;unfold mX;rw[Aq];exact Akh F k l h fuel 0 (BD _) (by have:=h.len;unfold fuel;omega)
theorem Aki:∀s∈Kc,s.length<=10:=by decide
theorem Akj:∀v∈DD,(qV v).length<=20:=by decide
theorem ABb:∀l:Ya (Ya Yl),Ya2 l [44]=Mp l
 |[]=>rfl
 |x::l=>by rw[Lib.join_cons];show _=x++l.flatMap λy=>44::y;unfold Lib.joinTail;rw[List.flatMap_def];rfl
theorem ABc{n:Yk}:∀l:Ya (Ya Yl),(∀x∈l,x.length<=n)->(Mp l).length<=l.length*(n+1)
 |[],_=>BD _
 |x::l,h=>by
  have ht:∀r:Ya (Ya Yl),(∀x∈r,x.length<=n)->(r.flatMap λy=>44::y).length<=r.length*(n+1):=by
   intro r
   induction r with
   |nil=>intro _;exact BD _
   |cons y r ih=>intro hr;have h1:=hr y (by simp);have h2:=ih λz hz=>hr z (by simp[hz]);rw[NV,Bd,Be,Be,DJ];omega
  have h1:=h x (by simp);have h2:=ht l λz hz=>h z (by simp[hz]);show(x++l.flatMap λy=>44::y).length<=_;rw[Bd,Be,DJ];omega
theorem ABd{l:Ya Al}(h:LabG l):∀x∈l.map Jt,x.length<=40:=λx hx=>by obtain⟨y,hy,rfl⟩:=Fw.mp hx;obtain⟨h1,h2,_⟩:=h.mem y hy;have h3:=Aki _ h1;have h4:=Akj _ h2;unfold Jt;simp only[Bd,Be,BP];omega
theorem Akk(F:TopFacts)(k:Ya (Ya Yl)->Yb β)(l:Ya Al)(h:LabG l):∀(m i:Yk),i<=l.length->l.length-i<m->TK m (λparts=>k parts) l (l.length:Yi) (i:Yi) ((l.take i).map Jt)=k (l.map Jt)
 |0,i,_,h=>Yw h (C8 _)
 |m+1,i,hi,hm=>by
  rw[Avw];unfold oS;have hl:=h.len;by_cases Ae:i<l.length
  ·refine(Bp (by omega)).trans ?_
   refine(B6 ⟨by omega,by omega⟩).trans ?_;rw[E8 Ae];obtain⟨h1,h2,h3⟩:=h.mem _ (Ew Ae);have h4:=Aki _ h1;have h5:=Akj _ h2;refine(Bp (by simp only[Be,BP];omega)).trans ?_;refine(F.quoted _ h2 _).trans ?_;refine(Bp (by simp only[Bd,Be,BP];omega)).trans ?_;refine(GT (by simp only[Fc,CJ,Be,BP];omega)).trans ?_;have ih:=Akk F k l h m (i+1) (by omega) (by omega);rw[<-C3 (by omega),d8 Ae,LK]at ih;have e:((l[i]).1++([61]:Ya Yl))++qV (l[i]).2=Jt l[i]:=by unfold Jt;rw[C1]
   rw[e];exact ih
  ·have Jd:i=l.length:=by omega
   subst Jd;rw[Wa];exact AJ (by omega)
theorem uY(F:TopFacts){l:Ya Al}(h:LabG l)(k:Ya Yl->Yb β):QU l k=k (E7 l):=by unfold QU;rw[Aq];refine(Ro F h _).trans ?_;refine c_f.trans ?_;unfold oU;rw[Aq];have hl:=h.len;refine(Akk F _ l h fuel 0 (BD _) (by unfold fuel;omega)).trans ?_;have hj:=ABc _ (ABd h);rw[Fc]at hj;rw[ABb];refine(c_p2 (by rw[Fc];omega) (by omega)).trans ?_;refine(Bp (by simp only[Be,BP];omega)).trans ?_;refine(Bp (by simp only[Bd,Be,BP];omega)).trans ?_;rfl
end
end Go.Lift
