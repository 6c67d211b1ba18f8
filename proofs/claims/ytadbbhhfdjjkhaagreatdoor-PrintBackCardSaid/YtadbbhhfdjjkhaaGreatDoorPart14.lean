/- Part14: Fn1, Fn2, LBase, LCivil, LChk, LChk2. -/
import Derived.Test.YtadbbhhfdjjkhaaGreatDoorProg
import Derived.KernelRfl
import Derived.Test.YtadbbhhfdjjkhaaGreatDoorPart13
set_option linter.unusedVariables false
set_option linter.unusedSectionVars false
set_option linter.unusedSimpArgs false
namespace Go.Lift
open Go.Proofs
noncomputable section
variable[Sl]
set_option maxRecDepth 100000
abbrev Awn:={β:Type}->AF->AF->(Bool->Option β)->Option β
noncomputable def Ahk:List En:=[Av2]
abbrev Ahl(β:Type):=Bool->Option β
abbrev Ahm(β:Type):=Unit->Option β
abbrev s8(β:Type):=AF->AF->Int->Int->Option β
noncomputable def Ahn:Pc:=⟨32,0,AL 58 (Ay Tryz.f32),⟨0,[1,2,15,16,17],[LT,(false,[.fn 33 []]),LT,Ab,Ab],[]⟩,[(.ret,⟨0,[6],[AS],[]⟩),(.exit 0,⟨0,[],[],[]⟩)]⟩
def ZZ{β:Type}(rec:s8 β)(k1:Ahl β)(k2:Ahm β):s8 β:=λs2 Bc Dz BF=>cond (decide (BF<Dz)) (cond (decide (0<=BF)&&decide (BF<(List.length Bc:Int))) (let e:=List.getD Bc (Int.toNat BF) (([]:List UInt8),(0,([]:List BZ)));cond (decide (0<=BF)&&decide (BF<(List.length s2:Int))) (let e2:=List.getD s2 (Int.toNat BF) (([]:List UInt8),(0,([]:List BZ)));ZB e e2 (λrsameZone=>cond (!rsameZone) (k1 false) (rec s2 Bc Dz (IntKind.i64.wrap (BF+(1:Int)))))) none) none) (k2 ())
def U4(m:Nat){β:Type}(k1:Ahl β)(k2:Ahm β):s8 β:=DT (λr=>ZZ r k1 k2) none m
theorem Aho{β:Type}(i:Nat)(k1 k2):U4 (β:=β) (i+1) k1 k2=ZZ (U4 i k1 k2) k1 k2:=rfl
def s9{β:Type}:=hid (U4 (β:=β) fuel)
noncomputable def Awo:Pb:=⟨58,Ahn,λ_=>s9,pl (p:=Ahn) Ahk [] (g:=λi _=>U4 i)⟩
def a8:Awn:=hid λs1 s2 k=>cond (!decide ((List.length s1:Int)=(List.length s2:Int))) (k false) (s9 (λt6=>k t6) (λ_=>k true) s2 s1 (List.length s1:Int) 0)
noncomputable def Awp:En:=⟨32,.spec (sg [LT,LT,(false,[.fn 33 []])] [] [AS] [] a8),pf Ahk [Awo] [.tmp 6] Tryz.func32⟩
abbrev Awq:={β:Type}->Kf->Kf->(Bool->Option β)->Option β
noncomputable def Ahp:List En:=[AsZ]
abbrev Ahq(β:Type):=Bool->Option β
abbrev Ahr(β:Type):=Unit->Option β
abbrev sA(β:Type):=Kf->Kf->Int->Int->Option β
noncomputable def Ahs:Pc:=⟨32,0,AL 58 (Ay Tryz.f94),⟨0,[1,2,15,16,17],[O6,(false,[.fn 95 []]),O6,Ab,Ab],[]⟩,[(.ret,⟨0,[6],[AS],[]⟩),(.exit 0,⟨0,[],[],[]⟩)]⟩
def aA{β:Type}(rec:sA β)(k1:Ahq β)(k2:Ahr β):sA β:=λs2 Bc Dz BF=>cond (decide (BF<Dz)) (cond (decide (0<=BF)&&decide (BF<(List.length Bc:Int))) (let e:=List.getD Bc (Int.toNat BF) (([]:List UInt8),(0,((0,0),(0,(0,(([]:List Int),(([]:List BJ),(0,0))))))));cond (decide (0<=BF)&&decide (BF<(List.length s2:Int))) (let e2:=List.getD s2 (Int.toNat BF) (([]:List UInt8),(0,((0,0),(0,(0,(([]:List Int),(([]:List BJ),(0,0))))))));Zk e e2 (λrsameLayer=>cond (!rsameLayer) (k1 false) (rec s2 Bc Dz (IntKind.i64.wrap (BF+(1:Int)))))) none) none) (k2 ())
def U5(m:Nat){β:Type}(k1:Ahq β)(k2:Ahr β):sA β:=DT (λr=>aA r k1 k2) none m
theorem Aht{β:Type}(i:Nat)(k1 k2):U5 (β:=β) (i+1) k1 k2=aA (U5 i k1 k2) k1 k2:=rfl
def sB{β:Type}:=hid (U5 (β:=β) fuel)
noncomputable def Awr:Pb:=⟨58,Ahs,λ_=>sB,pl (p:=Ahs) Ahp [] (g:=λi _=>U5 i)⟩
def aB:Awq:=hid λs1 s2 k=>cond (!decide ((List.length s1:Int)=(List.length s2:Int))) (k false) (sB (λt6=>k t6) (λ_=>k true) s2 s1 (List.length s1:Int) 0)
noncomputable def Aws:En:=⟨94,.spec (sg [O6,O6,(false,[.fn 95 []])] [] [AS] [] aB),pf Ahp [Awr] [.tmp 6] Tryz.func94⟩
abbrev Awt:={β:Type}->(List J9)->AJ->(Int->AJ->Option β)->Option β
noncomputable def Ahu:List En:=[AtD]
abbrev Ahv(β:Type):=Int->AJ->Option β
abbrev Ahw(β:Type):=AJ->Option β
abbrev sC(β:Type):=(List J9)->Int->Int->AJ->Option β
noncomputable def Ahx:Pc:=⟨19,1,AL 26 (Ay Tryz.f143),⟨1,[0,1,7,8],[(false,[.data (.slice LQ)]),(false,[.fn 144 [0]]),Ab,Ab],[KW]⟩,[(.ret,⟨1,[4],[Ab],[KW]⟩),(.exit 0,⟨1,[],[],[KW]⟩)]⟩
def Ahy{β:Type}(rec:sC β)(k1:Ahv β)(k2:Ahw β):sC β:=λs t7 t8 AZ=>cond (decide (t8<t7)) (cond (decide (0<=t8)&&decide (t8<(List.length s:Int))) (let e:=List.getD s (Int.toNat t8) (([]:List UInt8),(([]:List Int),false));AfO e AZ (λrforms1 Aog=>cond rforms1 (k1 t8 Aog) (rec s t7 (IntKind.i64.wrap (t8+(1:Int))) Aog))) none) (k2 AZ)
def aC(m:Nat){β:Type}(k1:Ahv β)(k2:Ahw β):sC β:=DT (λr=>Ahy r k1 k2) none m
theorem AJJ{β:Type}(i:Nat)(k1 k2):aC (β:=β) (i+1) k1 k2=Ahy (aC i k1 k2) k1 k2:=rfl
def Ahz{β:Type}:=hid (aC (β:=β) fuel)
noncomputable def Awu:Pb:=⟨26,Ahx,λ_=>Ahz,pl (p:=Ahx) Ahu [] (g:=λi _=>aC i)⟩
def AhA:Awt:=hid λs AZ k=>Ahz (λt4 BO=>k t4 BO) (λBO=>k (-1) BO) s (List.length s:Int) 0 AZ
noncomputable def Awv:En:=⟨143,.spec (sg [(false,[.data (.slice LQ)]),(false,[.fn 144 [0]])] [KW] [Ab] [KW] AhA),pf Ahu [Awu] [.tmp 4] Tryz.func143⟩
abbrev Aww:={β:Type}->AF->AD->AE->Ce->(BA->Ce->Option β)->Option β
noncomputable def AhB:List En:=[Zc,Av8,KY,QM]
abbrev AhC(β:Type):=Ce->BA->Option β
abbrev Awx(β:Type):=Ce->BA->BA->Option β
noncomputable def AhD:Pc:=⟨52,1,AL 63 (Ay Tryz.f16),⟨1,[0,4,6],[AA,Ck,Dn],[Dm,HZ,HZ]⟩,[(.ret,⟨1,[4],[Ck],[Dm,HZ]⟩)]⟩
def aD{β:Type}(k1:AhC β):Awx β:=λd t4 x=>cond (decide (x.1=(1:Int))) (LV 4 d (λL1 Js=>cond L1 (k1 Js (x.1,((-1),x.2.2))) (k1 Js x))) (k1 d x)
def Ra{β:Type}:=hid (aD (β:=β))
noncomputable def Awy:Pb:=⟨63,AhD,λ_=>Ra,pe (p:=AhD) AhB [] 63 (g:=λ_=>aD)⟩
def U6:Aww:=hid λc c2 c3 d k=>C4 3 d (λCr Du=>C4 (List.length c2:Int) Du (λEb H3=>ZE H3 (λSn AIo=>let l:=([3600,86400,7,259200,40000]:List Int);IX l AIo (λFx II=>cond (decide (Cr=2)) (cond (decide ((List.length c2:Int)<(2:Int))) (k (0,(Eb,(0,(Sn,(IntKind.i64.wrap (Sn+Fx)))))) II) (C4 (IntKind.i64.wrap ((List.length c2:Int)-(1:Int))) II (λM9 PJ=>cond (!decide ((List.length c2:Int)=0)) (Ra (λAZ t4=>k t4 AZ) PJ (0,(0,(0,(0,0)))) (Cr,(Eb,((Int.tmod (IntKind.i64.wrap ((IntKind.i64.wrap (Eb+(1:Int)))+M9)) (List.length c2:Int)),(Sn,(IntKind.i64.wrap (Sn+Fx))))))) none))) (Ra (λAZ t4=>k t4 AZ) II (0,(0,(0,(0,0)))) (Cr,(Eb,(0,(Sn,(IntKind.i64.wrap (Sn+Fx)))))))))))
noncomputable def AhE:En:=⟨16,.spec (sg [AA,Aeq] [Dm] [Tt] [Dm] U6),pf AhB [Awy] [.cell 4 51] Tryz.func16⟩
abbrev Awz:={β:Type}->AK->AF->AD->AE->AI->Ca->(AF->AD->AE->AI->Ca->Option β)->Option β
noncomputable def aF:List En:=[oL,oK,Asz,AeR,IW,Nl]
abbrev AhF(β:Type):=AF->AD->AE->AI->Ca->Option β
abbrev sD(β:Type):=G7->Int->Int->AF->AD->AE->AI->Ca->E6->E6->Option β
noncomputable def AhG:Pc:=⟨59,2,AL 126 (Ay Tryz.f23),⟨2,[0,4,5,20,21,22],[AA,(false,[.rowh 2]),(false,[.rowh 3]),GP,Ab,Ab],[QI,.tree 96 KV,.row 9 .str,.row 9 .str]⟩,[(.exit 0,⟨2,[],[],Ep⟩)]⟩
def aG{β:Type}(rec:sD β)(k1:AhF β):sD β:=λt20 t21 t22 w w2 w3 w4 Am months ordinals=>cond (decide (t22<t21)) (cond (decide (0<=t22)&&decide (t22<(List.length t20:Int))) (let e:=List.getD t20 (Int.toNat t22) (0,(0,(0,(0,(0,(0,0))))));LW e.1 (λFy=>LW e.2.1 (λPU=>cond (decide (0<=(IntKind.i64.wrap (e.2.2.1-(1:Int))))&&decide ((IntKind.i64.wrap (e.2.2.1-(1:Int)))<(List.length months:Int))) (FK (List.getD months (Int.toNat (IntKind.i64.wrap (e.2.2.1-(1:Int)))) ([]:List UInt8)) (λDG=>cond (decide (0<=(IntKind.i64.wrap (e.2.2.2.1-(1:Int))))&&decide ((IntKind.i64.wrap (e.2.2.2.1-(1:Int)))<(List.length ordinals:Int))) (FK (List.getD ordinals (Int.toNat (IntKind.i64.wrap (e.2.2.2.1-(1:Int)))) ([]:List UInt8)) (λPV=>QO e.2.2.2.2.1 (λrweekday=>Ni e.2.2.2.2.2.1 (λH4=>T9 e.2.2.2.2.2.2 (λroffset=>let l:=([Fy,PU,DG,PV,rweekday,H4,roffset]:List BV);DU ([114,117,108,101]:List UInt8) l w w2 w3 w4 Am (λGf Gg Gh Gi Ge=>rec t20 t21 (IntKind.i64.wrap (t22+(1:Int))) Gf Gg Gh Gi Ge months ordinals)))))) none)) none))) none) (k1 w w2 w3 w4 Am)
def U7(m:Nat){β:Type}(k1:AhF β):sD β:=OB (λr=>aG r k1) none m
theorem AhH{β:Type}(i:Nat)(k1):U7 (β:=β) (i+1) k1=aG (U7 i k1) k1:=rfl
def sE{β:Type}:=hid (U7 (β:=β) fuel)
noncomputable def AwA:Pb:=⟨126,AhG,λ_=>sE,HY mixed (X:=⟨look tab,gam aF,false,false,false,false,FJ,none,0,[]⟩) (p:=AhG) BC aF rfl [] (g:=λi _=>U7 i) (by kernel_rfl) rfl (by kernel_rfl) (λ_ _=>rfl) λ_ _ _ _=>by kernel_rfl⟩
def aH:Awz:=hid λz w w2 w3 w4 Am k=>let l:=([([106,97,110]:List UInt8),([102,101,98]:List UInt8),([109,97,114]:List UInt8),([97,112,114]:List UInt8),([109,97,121]:List UInt8),([106,117,110]:List UInt8),([106,117,108]:List UInt8),([97,117,103]:List UInt8),([115,101,112]:List UInt8),([111,99,116]:List UInt8),([110,111,118]:List UInt8),([100,101,99]:List UInt8)]:List AJ);let l2:=([([102,105,114,115,116]:List UInt8),([115,101,99,111,110,100]:List UInt8),([116,104,105,114,100]:List UInt8),([102,111,117,114,116,104]:List UInt8),([108,97,115,116]:List UInt8)]:List AJ);FK z.1 (λDG=>T9 z.2.1 (λroffset=>let l3:=([DG,roffset]:List BV);DU ([122,111,110,101]:List UInt8) l3 w w2 w3 w4 Am (λGf Gg Gh Gi Ge=>sE (λAZ BO CB CC Bn=>k AZ BO CB CC Bn) z.2.2 (List.length z.2.2:Int) 0 Gf Gg Gh Gi Ge l l2)))
theorem AwB:SpecOkB Tryz.prog 23 (sg [AA,IU] Ep [] Ep aH):=FG mixed (X:=⟨look tab,gam aF,false,false,false,false,FJ,none,0,[]⟩) BC aF rfl [AwA] [] Tryz.func23 (by kernel_rfl) λ_ _=>by kernel_rfl
noncomputable def AwC:En:=.handf AwB rfl (by kernel_rfl)
abbrev AwD:={β:Type}->Bb->AF->AD->AE->AI->Ca->(AF->AD->AE->AI->Ca->Option β)->Option β
noncomputable def Rb:List En:=[oK,IW,Nl,Agw,Zf]
abbrev AwE(β:Type):=AF->AD->AE->AI->Ca->Option β
abbrev AwF(β:Type):=AF->AD->AE->AI->Ca->Bb->CN->Option β
noncomputable def AhI:Pc:=⟨48,2,AL 31 (Ay Tryz.f24),⟨2,[0,3,4],[AA,Dn,(false,[.rowh 3])],[QI,.tree 96 KV,.cells 78 [.data F6],.row 85 FH]⟩,[(.normal,⟨2,[],[],Ep⟩)]⟩
abbrev AwG(β:Type):=AF->AD->AE->AI->Ca->Option β
abbrev AwH(β:Type):=AF->AD->AE->AI->Ca->Bb->CN->Option β
noncomputable def AhJ:Pc:=⟨48,2,AL 15 (Ay Tryz.f24),⟨2,[0,3,4],[AA,Dn,(false,[.rowh 3])],[QI,.tree 96 KV,.cells 78 [.data F6],.row 85 FH]⟩,[(.normal,⟨2,[],[],Ep⟩)]⟩
def sF{β:Type}(k1:AwE β):AwF β:=λw w2 w3 w4 Am p_ l=>cond p_.2.2.2.2.2 (FK ([99,111,110,115,101,110,116]:List UInt8) (λDG=>let l2:=([DG]:List BV);cond (decide ((List.length l+List.length l2)*32<=Bl)) (let l3:=(l++l2);DU ([112,101,114,115,111,110]:List UInt8) l3 w w2 w3 w4 Am (λGf Gg Gh Gi Ge=>OJ ([113,117,105,101,116]:List UInt8) p_.2.2.1 Gf Gg Gh Gi Ge (λSf Sg NN Sh Sd=>k1 Sf Sg NN Sh Sd))) none)) (DU ([112,101,114,115,111,110]:List UInt8) l w w2 w3 w4 Am (λGf Gg Gh Gi Ge=>OJ ([113,117,105,101,116]:List UInt8) p_.2.2.1 Gf Gg Gh Gi Ge (λSf Sg NN Sh Sd=>k1 Sf Sg NN Sh Sd)))
def U8{β:Type}:=hid (sF (β:=β))
noncomputable def AwI:Pb:=⟨31,AhI,λ_=>U8,O1 mixed (X:=⟨look tab,gam Rb,false,false,false,false,FJ,none,0,[]⟩) (p:=AhI) BC Rb rfl [] 31 (g:=λ_=>sF) (by kernel_rfl) λ_ _=>by kernel_rfl⟩
def sG{β:Type}(k1:AwG β):AwH β:=λw w2 w3 w4 Am p_ l=>cond (!decide (p_.2.2.2.2.1=(0:Int))) (FK ([114,101,115,116]:List UInt8) (λDG=>LW (IntKind.i64.wrap (Int.tdiv p_.2.2.2.2.1 3600)) (λFy=>let l2:=([DG,Fy]:List BV);cond (decide ((List.length l+List.length l2)*32<=Bl)) (let l3:=(l++l2);U8 (λAZ BO CB CC Bn=>k1 AZ BO CB CC Bn) w w2 w3 w4 Am p_ l3) none))) (U8 (λAZ BO CB CC Bn=>k1 AZ BO CB CC Bn) w w2 w3 w4 Am p_ l)
def U9{β:Type}:=hid (sG (β:=β))
noncomputable def AwJ:Pb:=⟨15,AhJ,λ_=>U9,O1 mixed (X:=⟨look tab,gam Rb,false,false,false,false,FJ,none,0,[]⟩) (p:=AhJ) BC Rb rfl [AwI] 15 (g:=λ_=>sG) (by kernel_rfl) λ_ _=>by kernel_rfl⟩
def aI:AwD:=hid λp_ w w2 w3 w4 Am k=>FK p_.1 (λDG=>OD p_.2.1 w w2 w3 w4 Am (λrzone Si Sj Sk Sm Se=>let l:=([DG,rzone]:List BV);cond (!decide (p_.2.2.2.1=(0:Int))) (FK ([119,101,101,107]:List UInt8) (λPV=>LW (IntKind.i64.wrap (Int.tdiv p_.2.2.2.1 3600)) (λFy=>let l2:=([PV,Fy]:List BV);cond (decide ((List.length l+List.length l2)*32<=Bl)) (let l3:=(l++l2);U9 (λAZ BO CB CC Bn=>k AZ BO CB CC Bn) Si Sj Sk Sm Se p_ l3) none))) (U9 (λAZ BO CB CC Bn=>k AZ BO CB CC Bn) Si Sj Sk Sm Se p_ l)))
theorem AwK:SpecOkB Tryz.prog 24 (sg [AA,Tw] Ep [] Ep aI):=FG mixed (X:=⟨look tab,gam Rb,false,false,false,false,FJ,none,0,[]⟩) BC Rb rfl [AwJ] [] Tryz.func24 (by kernel_rfl) λ_ _=>by kernel_rfl
noncomputable def AwL:En:=.handf AwK rfl (by kernel_rfl)
abbrev AhK:={β:Type}->AU->AF->AD->AE->AI->Ca->(AF->AD->AE->AI->Ca->Option β)->Option β
noncomputable def aJ:List En:=[oL,AeT,AsH,oK,IW,Nl,Agw,Zf]
abbrev AwM(β:Type):=AF->AD->AE->AI->Ca->Option β
abbrev AwN(β:Type):=AF->AD->AE->AI->Ca->AU->Option β
noncomputable def AhL:Pc:=⟨64,2,AL 15 (Ay Tryz.f28),⟨2,[0,3],[AA,Dn],[QI,.tree 96 KV,LU]⟩,[(.normal,⟨2,[],[],Ep⟩)]⟩
def sH{β:Type}(k1:AwM β):AwN β:=λw w2 w3 w4 Am l=>OJ ([111,110]:List UInt8) l.2.2.2.2.2.2.1 w w2 w3 w4 Am (λSf Sg NN Sh Sd=>cond (!decide (l.2.2.2.2.2.2.2.2=(0:Int))) (let l2:=([([]:List UInt8),([110,111,116]:List UInt8),([111,110,108,121]:List UInt8)]:List AJ);cond (decide (0<=l.2.2.2.2.2.2.2.2)&&decide (l.2.2.2.2.2.2.2.2<(List.length l2:Int))) (cond (decide (0<=l.2.2.2.2.2.2.2.1)&&decide (l.2.2.2.2.2.2.2.1<(List.length NN:Int))) (let e:=List.getD NN (Int.toNat l.2.2.2.2.2.2.2.1) (([]:List UInt8),(0,([]:List Int)));FK e.1 (λDG=>let l3:=([DG]:List BV);DU (List.getD l2 (Int.toNat l.2.2.2.2.2.2.2.2) ([]:List UInt8)) l3 Sf Sg NN Sh Sd (λGf Gg Gh Gi Ge=>k1 Gf Gg Gh Gi Ge))) none) none) (k1 Sf Sg NN Sh Sd))
def Hn{β:Type}:=hid (sH (β:=β))
noncomputable def AwO:Pb:=⟨15,AhL,λ_=>Hn,O1 mixed (X:=⟨look tab,gam aJ,false,false,false,false,FJ,none,0,[]⟩) (p:=AhL) BC aJ rfl [] 15 (g:=λ_=>sH) (by kernel_rfl) λ_ _=>by kernel_rfl⟩
def AhM:AhK:=λl w w2 w3 w4 Am k=>FK l.1 (λDG=>OD l.2.1 w w2 w3 w4 Am (λrzone Si Sj Sk Sm Se=>QP l.2.2.1.1 (λrdate=>Ni l.2.2.1.2 (λH4=>LW l.2.2.2.2.1 (λFy=>let l2:=([([104,111,117,114,115]:List UInt8),([100,97,121,115]:List UInt8),([119,101,101,107,115]:List UInt8)]:List AJ);cond (decide (0<=l.2.2.2.1)&&decide (l.2.2.2.1<(List.length l2:Int))) (FK (List.getD l2 (Int.toNat l.2.2.2.1) ([]:List UInt8)) (λPV=>let l3:=([DG,rzone,rdate,H4,Fy,PV]:List BV);DU ([108,97,121,101,114]:List UInt8) l3 Si Sj Sk Sm Se (λGf Gg Gh Gi Ge=>cond (decide ((0:Int)<(List.length l.2.2.2.2.2.1:Int))) (cond (decide (0<=(0:Int))&&decide ((0:Int)<(List.length l.2.2.2.2.2.1:Int))) (let e:=List.getD l.2.2.2.2.2.1 (Int.toNat 0) 0;G9 e Gf Gg Gh Gi Ge (λrperson Xr Xs Xt Xu Xq=>let l4:=([rperson]:List BV);cond (decide (List.length l4*32<=Bl)) (cond (decide ((IntKind.i64.wrap (0+(1:Int)))<(List.length l.2.2.2.2.2.1:Int))) (cond (decide (0<=(IntKind.i64.wrap (0+(1:Int))))&&decide ((IntKind.i64.wrap (0+(1:Int)))<(List.length l.2.2.2.2.2.1:Int))) (let e2:=List.getD l.2.2.2.2.2.1 (Int.toNat (IntKind.i64.wrap (0+(1:Int)))) 0;G9 e2 Xr Xs Xt Xu Xq (λrperson2 jH jI jJ jK jE=>let l5:=([rperson2]:List BV);cond (decide ((List.length l4+List.length l5)*32<=Bl)) (let l6:=(l4++l5);cond (decide ((IntKind.i64.wrap ((IntKind.i64.wrap (0+(1:Int)))+1))<(List.length l.2.2.2.2.2.1:Int))) (cond (decide (0<=(IntKind.i64.wrap ((IntKind.i64.wrap (0+(1:Int)))+1)))&&decide ((IntKind.i64.wrap ((IntKind.i64.wrap (0+(1:Int)))+1))<(List.length l.2.2.2.2.2.1:Int))) (let e3:=List.getD l.2.2.2.2.2.1 (Int.toNat (IntKind.i64.wrap ((IntKind.i64.wrap (0+(1:Int)))+1))) 0;G9 e3 jH jI jJ jK jE (λrperson3 AoU Aoh Aoi Aoj Ao4=>let l7:=([rperson3]:List BV);cond (decide ((List.length l6+List.length l7)*32<=Bl)) (let l8:=(l6++l7);cond (decide ((IntKind.i64.wrap ((IntKind.i64.wrap ((IntKind.i64.wrap (0+(1:Int)))+1))+1))<(List.length l.2.2.2.2.2.1:Int))) (cond (decide (0<=(IntKind.i64.wrap ((IntKind.i64.wrap ((IntKind.i64.wrap (0+(1:Int)))+1))+1)))&&decide ((IntKind.i64.wrap ((IntKind.i64.wrap ((IntKind.i64.wrap (0+(1:Int)))+1))+1))<(List.length l.2.2.2.2.2.1:Int))) (let e4:=List.getD l.2.2.2.2.2.1 (Int.toNat (IntKind.i64.wrap ((IntKind.i64.wrap ((IntKind.i64.wrap (0+(1:Int)))+1))+1))) 0;G9 e4 AoU Aoh Aoi Aoj Ao4 (λrperson4 Aok Aol Aom Aon Ao5=>let l9:=([rperson4]:List BV);cond (decide ((List.length l8+List.length l9)*32<=Bl)) (let l10:=(l8++l9);cond (decide ((IntKind.i64.wrap ((IntKind.i64.wrap ((IntKind.i64.wrap ((IntKind.i64.wrap (0+(1:Int)))+1))+1))+1))<(List.length l.2.2.2.2.2.1:Int))) (cond (decide (0<=(IntKind.i64.wrap ((IntKind.i64.wrap ((IntKind.i64.wrap ((IntKind.i64.wrap (0+(1:Int)))+1))+1))+1)))&&decide ((IntKind.i64.wrap ((IntKind.i64.wrap ((IntKind.i64.wrap ((IntKind.i64.wrap (0+(1:Int)))+1))+1))+1))<(List.length l.2.2.2.2.2.1:Int))) (let e5:=List.getD l.2.2.2.2.2.1 (Int.toNat (IntKind.i64.wrap ((IntKind.i64.wrap ((IntKind.i64.wrap ((IntKind.i64.wrap (0+(1:Int)))+1))+1))+1))) 0;G9 e5 Aok Aol Aom Aon Ao5 (λrperson5 Aoo Aop Aoq Aor Ao6=>let l11:=([rperson5]:List BV);cond (decide ((List.length l10+List.length l11)*32<=Bl)) (let l12:=(l10++l11);cond (decide ((IntKind.i64.wrap ((IntKind.i64.wrap ((IntKind.i64.wrap ((IntKind.i64.wrap ((IntKind.i64.wrap (0+(1:Int)))+1))+1))+1))+1))<(List.length l.2.2.2.2.2.1:Int))) (cond (decide (0<=(IntKind.i64.wrap ((IntKind.i64.wrap ((IntKind.i64.wrap ((IntKind.i64.wrap ((IntKind.i64.wrap (0+(1:Int)))+1))+1))+1))+1)))&&decide ((IntKind.i64.wrap ((IntKind.i64.wrap ((IntKind.i64.wrap ((IntKind.i64.wrap ((IntKind.i64.wrap (0+(1:Int)))+1))+1))+1))+1))<(List.length l.2.2.2.2.2.1:Int))) (let e6:=List.getD l.2.2.2.2.2.1 (Int.toNat (IntKind.i64.wrap ((IntKind.i64.wrap ((IntKind.i64.wrap ((IntKind.i64.wrap ((IntKind.i64.wrap (0+(1:Int)))+1))+1))+1))+1))) 0;G9 e6 Aoo Aop Aoq Aor Ao6 (λrperson6 Aos Aot Aou Aov Ao7=>let l13:=([rperson6]:List BV);cond (decide ((List.length l12+List.length l13)*32<=Bl)) (let l14:=(l12++l13);cond (decide ((IntKind.i64.wrap ((IntKind.i64.wrap ((IntKind.i64.wrap ((IntKind.i64.wrap ((IntKind.i64.wrap ((IntKind.i64.wrap (0+(1:Int)))+1))+1))+1))+1))+1))<(List.length l.2.2.2.2.2.1:Int))) (cond (decide (0<=(IntKind.i64.wrap ((IntKind.i64.wrap ((IntKind.i64.wrap ((IntKind.i64.wrap ((IntKind.i64.wrap ((IntKind.i64.wrap (0+(1:Int)))+1))+1))+1))+1))+1)))&&decide ((IntKind.i64.wrap ((IntKind.i64.wrap ((IntKind.i64.wrap ((IntKind.i64.wrap ((IntKind.i64.wrap ((IntKind.i64.wrap (0+(1:Int)))+1))+1))+1))+1))+1))<(List.length l.2.2.2.2.2.1:Int))) (let e7:=List.getD l.2.2.2.2.2.1 (Int.toNat (IntKind.i64.wrap ((IntKind.i64.wrap ((IntKind.i64.wrap ((IntKind.i64.wrap ((IntKind.i64.wrap ((IntKind.i64.wrap (0+(1:Int)))+1))+1))+1))+1))+1))) 0;G9 e7 Aos Aot Aou Aov Ao7 (λrperson7 Aow Aox Aoy Aoz Ao8=>let l15:=([rperson7]:List BV);cond (decide ((List.length l14+List.length l15)*32<=Bl)) (let l16:=(l14++l15);cond (decide ((IntKind.i64.wrap ((IntKind.i64.wrap ((IntKind.i64.wrap ((IntKind.i64.wrap ((IntKind.i64.wrap ((IntKind.i64.wrap ((IntKind.i64.wrap (0+(1:Int)))+1))+1))+1))+1))+1))+1))<(List.length l.2.2.2.2.2.1:Int))) (cond (decide (0<=(IntKind.i64.wrap ((IntKind.i64.wrap ((IntKind.i64.wrap ((IntKind.i64.wrap ((IntKind.i64.wrap ((IntKind.i64.wrap ((IntKind.i64.wrap (0+(1:Int)))+1))+1))+1))+1))+1))+1)))&&decide ((IntKind.i64.wrap ((IntKind.i64.wrap ((IntKind.i64.wrap ((IntKind.i64.wrap ((IntKind.i64.wrap ((IntKind.i64.wrap ((IntKind.i64.wrap (0+(1:Int)))+1))+1))+1))+1))+1))+1))<(List.length l.2.2.2.2.2.1:Int))) (let e8:=List.getD l.2.2.2.2.2.1 (Int.toNat (IntKind.i64.wrap ((IntKind.i64.wrap ((IntKind.i64.wrap ((IntKind.i64.wrap ((IntKind.i64.wrap ((IntKind.i64.wrap ((IntKind.i64.wrap (0+(1:Int)))+1))+1))+1))+1))+1))+1))) 0;G9 e8 Aow Aox Aoy Aoz Ao8 (λrperson8 AoA AoB AoC AoD Ao9=>let l17:=([rperson8]:List BV);cond (decide ((List.length l16+List.length l17)*32<=Bl)) (let l18:=(l16++l17);cond (decide ((IntKind.i64.wrap ((IntKind.i64.wrap ((IntKind.i64.wrap ((IntKind.i64.wrap ((IntKind.i64.wrap ((IntKind.i64.wrap ((IntKind.i64.wrap ((IntKind.i64.wrap (0+(1:Int)))+1))+1))+1))+1))+1))+1))+1))<(List.length l.2.2.2.2.2.1:Int))) (cond (decide (0<=(IntKind.i64.wrap ((IntKind.i64.wrap ((IntKind.i64.wrap ((IntKind.i64.wrap ((IntKind.i64.wrap ((IntKind.i64.wrap ((IntKind.i64.wrap ((IntKind.i64.wrap (0+(1:Int)))+1))+1))+1))+1))+1))+1))+1)))&&decide ((IntKind.i64.wrap ((IntKind.i64.wrap ((IntKind.i64.wrap ((IntKind.i64.wrap ((IntKind.i64.wrap ((IntKind.i64.wrap ((IntKind.i64.wrap ((IntKind.i64.wrap (0+(1:Int)))+1))+1))+1))+1))+1))+1))+1))<(List.length l.2.2.2.2.2.1:Int))) (let e9:=List.getD l.2.2.2.2.2.1 (Int.toNat (IntKind.i64.wrap ((IntKind.i64.wrap ((IntKind.i64.wrap ((IntKind.i64.wrap ((IntKind.i64.wrap ((IntKind.i64.wrap ((IntKind.i64.wrap ((IntKind.i64.wrap (0+(1:Int)))+1))+1))+1))+1))+1))+1))+1))) 0;G9 e9 AoA AoB AoC AoD Ao9 (λrperson9 AoE AoF AoG AoH Aoa=>let l19:=([rperson9]:List BV);cond (decide ((List.length l18+List.length l19)*32<=Bl)) (let l20:=(l18++l19);cond (decide ((IntKind.i64.wrap ((IntKind.i64.wrap ((IntKind.i64.wrap ((IntKind.i64.wrap ((IntKind.i64.wrap ((IntKind.i64.wrap ((IntKind.i64.wrap ((IntKind.i64.wrap ((IntKind.i64.wrap (0+(1:Int)))+1))+1))+1))+1))+1))+1))+1))+1))<(List.length l.2.2.2.2.2.1:Int))) (cond (decide (0<=(IntKind.i64.wrap ((IntKind.i64.wrap ((IntKind.i64.wrap ((IntKind.i64.wrap ((IntKind.i64.wrap ((IntKind.i64.wrap ((IntKind.i64.wrap ((IntKind.i64.wrap ((IntKind.i64.wrap (0+(1:Int)))+1))+1))+1))+1))+1))+1))+1))+1)))&&decide ((IntKind.i64.wrap ((IntKind.i64.wrap ((IntKind.i64.wrap ((IntKind.i64.wrap ((IntKind.i64.wrap ((IntKind.i64.wrap ((IntKind.i64.wrap ((IntKind.i64.wrap ((IntKind.i64.wrap (0+(1:Int)))+1))+1))+1))+1))+1))+1))+1))+1))<(List.length l.2.2.2.2.2.1:Int))) (let e10:=List.getD l.2.2.2.2.2.1 (Int.toNat (IntKind.i64.wrap ((IntKind.i64.wrap ((IntKind.i64.wrap ((IntKind.i64.wrap ((IntKind.i64.wrap ((IntKind.i64.wrap ((IntKind.i64.wrap ((IntKind.i64.wrap ((IntKind.i64.wrap (0+(1:Int)))+1))+1))+1))+1))+1))+1))+1))+1))) 0;G9 e10 AoE AoF AoG AoH Aoa (λrperson10 AoI AoJ AoK AoL Ao1=>let l21:=([rperson10]:List BV);cond (decide ((List.length l20+List.length l21)*32<=Bl)) (let l22:=(l20++l21);cond (decide ((IntKind.i64.wrap ((IntKind.i64.wrap ((IntKind.i64.wrap ((IntKind.i64.wrap ((IntKind.i64.wrap ((IntKind.i64.wrap ((IntKind.i64.wrap ((IntKind.i64.wrap ((IntKind.i64.wrap ((IntKind.i64.wrap (0+(1:Int)))+1))+1))+1))+1))+1))+1))+1))+1))+1))<(List.length l.2.2.2.2.2.1:Int))) (cond (decide (0<=(IntKind.i64.wrap ((IntKind.i64.wrap ((IntKind.i64.wrap ((IntKind.i64.wrap ((IntKind.i64.wrap ((IntKind.i64.wrap ((IntKind.i64.wrap ((IntKind.i64.wrap ((IntKind.i64.wrap ((IntKind.i64.wrap (0+(1:Int)))+1))+1))+1))+1))+1))+1))+1))+1))+1)))&&decide ((IntKind.i64.wrap ((IntKind.i64.wrap ((IntKind.i64.wrap ((IntKind.i64.wrap ((IntKind.i64.wrap ((IntKind.i64.wrap ((IntKind.i64.wrap ((IntKind.i64.wrap ((IntKind.i64.wrap ((IntKind.i64.wrap (0+(1:Int)))+1))+1))+1))+1))+1))+1))+1))+1))+1))<(List.length l.2.2.2.2.2.1:Int))) (let e11:=List.getD l.2.2.2.2.2.1 (Int.toNat (IntKind.i64.wrap ((IntKind.i64.wrap ((IntKind.i64.wrap ((IntKind.i64.wrap ((IntKind.i64.wrap ((IntKind.i64.wrap ((IntKind.i64.wrap ((IntKind.i64.wrap ((IntKind.i64.wrap ((IntKind.i64.wrap (0+(1:Int)))+1))+1))+1))+1))+1))+1))+1))+1))+1))) 0;G9 e11 AoI AoJ AoK AoL Ao1 (λrperson11 AoM AoN AoO AoP Ao2=>let l23:=([rperson11]:List BV);cond (decide ((List.length l22+List.length l23)*32<=Bl)) (let l24:=(l22++l23);cond (decide ((IntKind.i64.wrap ((IntKind.i64.wrap ((IntKind.i64.wrap ((IntKind.i64.wrap ((IntKind.i64.wrap ((IntKind.i64.wrap ((IntKind.i64.wrap ((IntKind.i64.wrap ((IntKind.i64.wrap ((IntKind.i64.wrap ((IntKind.i64.wrap (0+(1:Int)))+1))+1))+1))+1))+1))+1))+1))+1))+1))+1))<(List.length l.2.2.2.2.2.1:Int))) (cond (decide (0<=(IntKind.i64.wrap ((IntKind.i64.wrap ((IntKind.i64.wrap ((IntKind.i64.wrap ((IntKind.i64.wrap ((IntKind.i64.wrap ((IntKind.i64.wrap ((IntKind.i64.wrap ((IntKind.i64.wrap ((IntKind.i64.wrap ((IntKind.i64.wrap (0+(1:Int)))+1))+1))+1))+1))+1))+1))+1))+1))+1))+1)))&&decide ((IntKind.i64.wrap ((IntKind.i64.wrap ((IntKind.i64.wrap ((IntKind.i64.wrap ((IntKind.i64.wrap ((IntKind.i64.wrap ((IntKind.i64.wrap ((IntKind.i64.wrap ((IntKind.i64.wrap ((IntKind.i64.wrap ((IntKind.i64.wrap (0+(1:Int)))+1))+1))+1))+1))+1))+1))+1))+1))+1))+1))<(List.length l.2.2.2.2.2.1:Int))) (let e12:=List.getD l.2.2.2.2.2.1 (Int.toNat (IntKind.i64.wrap ((IntKind.i64.wrap ((IntKind.i64.wrap ((IntKind.i64.wrap ((IntKind.i64.wrap ((IntKind.i64.wrap ((IntKind.i64.wrap ((IntKind.i64.wrap ((IntKind.i64.wrap ((IntKind.i64.wrap ((IntKind.i64.wrap (0+(1:Int)))+1))+1))+1))+1))+1))+1))+1))+1))+1))+1))) 0;G9 e12 AoM AoN AoO AoP Ao2 (λrperson12 AoQ AoR AoS AoT Ao3=>let l25:=([rperson12]:List BV);cond (decide ((List.length l24+List.length l25)*32<=Bl)) (let l26:=(l24++l25);cond (decide ((IntKind.i64.wrap ((IntKind.i64.wrap ((IntKind.i64.wrap ((IntKind.i64.wrap ((IntKind.i64.wrap ((IntKind.i64.wrap ((IntKind.i64.wrap ((IntKind.i64.wrap ((IntKind.i64.wrap ((IntKind.i64.wrap ((IntKind.i64.wrap ((IntKind.i64.wrap (0+(1:Int)))+1))+1))+1))+1))+1))+1))+1))+1))+1))+1))+1))<(List.length l.2.2.2.2.2.1:Int))) (cond (decide (0<=(IntKind.i64.wrap ((IntKind.i64.wrap ((IntKind.i64.wrap ((IntKind.i64.wrap ((IntKind.i64.wrap ((IntKind.i64.wrap ((IntKind.i64.wrap ((IntKind.i64.wrap ((IntKind.i64.wrap ((IntKind.i64.wrap ((IntKind.i64.wrap ((IntKind.i64.wrap (0+(1:Int)))+1))+1))+1))+1))+1))+1))+1))+1))+1))+1))+1)))&&decide ((IntKind.i64.wrap ((IntKind.i64.wrap ((IntKind.i64.wrap ((IntKind.i64.wrap ((IntKind.i64.wrap ((IntKind.i64.wrap ((IntKind.i64.wrap ((IntKind.i64.wrap ((IntKind.i64.wrap ((IntKind.i64.wrap ((IntKind.i64.wrap ((IntKind.i64.wrap (0+(1:Int)))+1))+1))+1))+1))+1))+1))+1))+1))+1))+1))+1))<(List.length l.2.2.2.2.2.1:Int))) (let e13:=List.getD l.2.2.2.2.2.1 (Int.toNat (IntKind.i64.wrap ((IntKind.i64.wrap ((IntKind.i64.wrap ((IntKind.i64.wrap ((IntKind.i64.wrap ((IntKind.i64.wrap ((IntKind.i64.wrap ((IntKind.i64.wrap ((IntKind.i64.wrap ((IntKind.i64.wrap ((IntKind.i64.wrap ((IntKind.i64.wrap (0+(1:Int)))+1))+1))+1))+1))+1))+1))+1))+1))+1))+1))+1))) 0;G9 e13 AoQ AoR AoS AoT Ao3 (λrperson13 AKi AKj AKk AKl AK9=>let l27:=([rperson13]:List BV);cond (decide ((List.length l26+List.length l27)*32<=Bl)) (let l28:=(l26++l27);none) none)) none) (DU ([109,101,109,98,101,114]:List UInt8) l26 AoQ AoR AoS AoT Ao3 (λE8 E9 EA EB E7=>Hn (λAZ BO CB CC Bn=>k AZ BO CB CC Bn) E8 E9 EA EB E7 l))) none)) none) (DU ([109,101,109,98,101,114]:List UInt8) l24 AoM AoN AoO AoP Ao2 (λE8 E9 EA EB E7=>Hn (λAZ BO CB CC Bn=>k AZ BO CB CC Bn) E8 E9 EA EB E7 l))) none)) none) (DU ([109,101,109,98,101,114]:List UInt8) l22 AoI AoJ AoK AoL Ao1 (λE8 E9 EA EB E7=>Hn (λAZ BO CB CC Bn=>k AZ BO CB CC Bn) E8 E9 EA EB E7 l))) none)) none) (DU ([109,101,109,98,101,114]:List UInt8) l20 AoE AoF AoG AoH Aoa (λE8 E9 EA EB E7=>Hn (λAZ BO CB CC Bn=>k AZ BO CB CC Bn) E8 E9 EA EB E7 l))) none)) none) (DU ([109,101,109,98,101,114]:List UInt8) l18 AoA AoB AoC AoD Ao9 (λE8 E9 EA EB E7=>Hn (λAZ BO CB CC Bn=>k AZ BO CB CC Bn) E8 E9 EA EB E7 l))) none)) none) (DU ([109,101,109,98,101,114]:List UInt8) l16 Aow Aox Aoy Aoz Ao8 (λE8 E9 EA EB E7=>Hn (λAZ BO CB CC Bn=>k AZ BO CB CC Bn) E8 E9 EA EB E7 l))) none)) none) (DU ([109,101,109,98,101,114]:List UInt8) l14 Aos Aot Aou Aov Ao7 (λE8 E9 EA EB E7=>Hn (λAZ BO CB CC Bn=>k AZ BO CB CC Bn) E8 E9 EA EB E7 l))) none)) none) (DU ([109,101,109,98,101,114]:List UInt8) l12 Aoo Aop Aoq Aor Ao6 (λE8 E9 EA EB E7=>Hn (λAZ BO CB CC Bn=>k AZ BO CB CC Bn) E8 E9 EA EB E7 l))) none)) none) (DU ([109,101,109,98,101,114]:List UInt8) l10 Aok Aol Aom Aon Ao5 (λE8 E9 EA EB E7=>Hn (λAZ BO CB CC Bn=>k AZ BO CB CC Bn) E8 E9 EA EB E7 l))) none)) none) (DU ([109,101,109,98,101,114]:List UInt8) l8 AoU Aoh Aoi Aoj Ao4 (λE8 E9 EA EB E7=>Hn (λAZ BO CB CC Bn=>k AZ BO CB CC Bn) E8 E9 EA EB E7 l))) none)) none) (DU ([109,101,109,98,101,114]:List UInt8) l6 jH jI jJ jK jE (λE8 E9 EA EB E7=>Hn (λAZ BO CB CC Bn=>k AZ BO CB CC Bn) E8 E9 EA EB E7 l))) none)) none) (DU ([109,101,109,98,101,114]:List UInt8) l4 Xr Xs Xt Xu Xq (λE8 E9 EA EB E7=>Hn (λAZ BO CB CC Bn=>k AZ BO CB CC Bn) E8 E9 EA EB E7 l))) none)) none) (DU ([109,101,109,98,101,114]:List UInt8) ([]:List BV) Gf Gg Gh Gi Ge (λE8 E9 EA EB E7=>Hn (λAZ BO CB CC Bn=>k AZ BO CB CC Bn) E8 E9 EA EB E7 l))))) none)))))
def aK:AhK:=hid AhM
theorem AwP:SpecOkB Tryz.prog 28 (sg [AA,Nh] Ep [] Ep aK):=FG mixed (X:=⟨look tab,gam aJ,false,false,false,false,FJ,none,0,[]⟩) BC aJ rfl [AwO] [] Tryz.func28 (by kernel_rfl) λ_ _=>by kernel_rfl
noncomputable def AwQ:En:=.handf AwP rfl (by kernel_rfl)
abbrev AwR:={β:Type}->By->By->(Bool->Option β)->Option β
def aL:AwR:=hid λa b k=>cond (decide (a.1=b.1)) (aB a.2.1 b.2.1 (λSo=>cond So (Zm a.2.2 b.2.2 (λXv=>k Xv)) (k false))) (k false)
noncomputable def AwS:En:=⟨39,.spec (sg [Tv,Tv] [] [AS] [] aL),pf [Aws,At2] [] [.tmp 4] Tryz.func39⟩
abbrev AwT:={β:Type}->AJ->(List It)->(Int->(List It)->Option β)->Option β
def Np:AwT:=hid λs seen k=>La s (λPR=>cond (!PR) (k 2 seen) (let g:=(mGet .str seen s false);cond g (k 4 seen) (let m_:=(mPut .str seen s true);k 0 m_)))
theorem AwU:SpecOkB Tryz.prog 56 (sg [BR,(false,[.maph 0])] [.map 129 .str .bool false] [Ab] [.map 129 .str .bool false] Np):=pfB [rA] [] [.tmp 4] Tryz.func56 (by kernel_rfl) λ_ _=>by kernel_rfl
noncomputable def UA:En:=.hand AwU rfl (by kernel_rfl)
abbrev AwV:={β:Type}->As->Bb->(Int->Option β)->Option β
def aM:AwV:=hid λc p_ k=>KZ p_.2.1 (List.length c.1:Int) (λGv=>cond (!Gv) (k 3) (TL p_.2.2.1 (λFR=>let t:=(!decide (FR=0));cond t (k 8) (Up p_.2.2.2.1 (λIj=>cond (!Ij) (k 1) (Up p_.2.2.2.2.1 (λAbN=>cond (!AbN) (k 1) (k 0))))))))
noncomputable def AwW:En:=⟨57,.spec (sg [ED,Tw] [] [Ab] [] aM),pf [Avm,TK,Afm] [] [.tmp 4] Tryz.func57⟩
abbrev AwX:={β:Type}->CN->AF->AD->AE->AI->(Int->AF->AD->AE->AI->Option β)->Option β
def UB:AwX:=hid λl Am AB AG Aq k=>cond (decide (0<=(3:Int))&&decide ((3:Int)<(List.length l:Int))) (let e:=List.getD l (Int.toNat 3) (0,(([]:List UInt8),0));ZM e.2.1 (λAJ7 AJ8=>cond (decide (0<=(4:Int))&&decide ((4:Int)<(List.length l:Int))) (let e2:=List.getD l (Int.toNat 4) (0,(([]:List UInt8),0));ZN e2.2.1 (λAJh AJi=>cond (decide (0<=(5:Int))&&decide ((5:Int)<(List.length l:Int))) (let e3:=List.getD l (Int.toNat 5) (0,(([]:List UInt8),0));QV e3.2.1 (λPT AbK=>cond (!AJ8) (k 2 Am AB AG Aq) (cond (!AJi) (k 2 Am AB AG Aq) (cond (!AbK) (k 2 Am AB AG Aq) (cond (decide ((List.length Am:Int)=(0:Int))) (k 9 Am AB AG Aq) (let i_:=(IntKind.i64.wrap ((List.length Am:Int)-(1:Int)));cond (decide (0<=i_)&&decide (i_<(List.length Am:Int))) (let e4:=List.getD Am (Int.toNat i_) (([]:List UInt8),(0,([]:List BZ)));cond (decide (0<=(1:Int))&&decide ((1:Int)<(List.length l:Int))) (let e5:=List.getD l (Int.toNat 1) (0,(([]:List UInt8),0));cond (decide (0<=(2:Int))&&decide ((2:Int)<(List.length l:Int))) (let e6:=List.getD l (Int.toNat 2) (0,(([]:List UInt8),0));cond (decide (0<=(6:Int))&&decide ((6:Int)<(List.length l:Int))) (let e7:=List.getD l (Int.toNat 6) (0,(([]:List UInt8),0));cond (decide (0<=(7:Int))&&decide ((7:Int)<(List.length l:Int))) (let e8:=List.getD l (Int.toNat 7) (0,(([]:List UInt8),0));let l2:=([(e5.2.2,(e6.2.2,(AJ7,(AJh,(PT,(e7.2.2,e8.2.2))))))]:List BZ);let l3:=((List.getD Am (Int.toNat i_) (([]:List UInt8),(0,([]:List BZ)))).2).2;cond (true&&decide ((List.length l3+List.length l2)*56<=Bl)) (let l4:=(l3++l2);let e9:=List.getD Am (Int.toNat i_) (([]:List UInt8),(0,([]:List BZ)));let l5:=List.set Am (Int.toNat i_) (e9.1,(e9.2.1,l4));cond (decide ((Int.toNat i_)=(Int.toNat i_))&&(true&&true)) (k 0 l5 AB AG Aq) none) none) none) none) none) none) none)))))) none)) none)) none
theorem AwY:SpecOkB Tryz.prog 78 (sg [AA,DS] El [Ab] El UB):=FG mixed (X:=⟨look tab,gam [Afn,Afo,AgL,AgM,rB],false,false,false,false,Dv,none,0,[]⟩) BC [Afn,Afo,AgL,AgM,rB] rfl [] [.tmp 4] Tryz.func78 (by kernel_rfl) λ_ _=>by kernel_rfl
noncomputable def AwZ:En:=.hand AwY rfl (by kernel_rfl)
abbrev Ax0:={β:Type}->CN->AF->AD->AE->AI->(Int->AF->AD->AE->AI->Option β)->Option β
def UC:Ax0:=hid λl Am AB AG Aq k=>Uq l (λX5 HP=>cond (decide ((List.length AB:Int)=(0:Int))) (cond (decide (HP=(0:Int))) (k 9 Am AB AG Aq) (cond (!decide (HP=(0:Int))) (k HP Am AB AG Aq) (none))) (let i_:=(IntKind.i64.wrap ((List.length AB:Int)-(1:Int)));cond (decide (0<=i_)&&decide (i_<(List.length AB:Int))) (cond (decide (HP=(0:Int))) (let e:=List.getD AB (Int.toNat i_) (([]:List UInt8),(0,(([]:List BJ),(0,(0,false)))));let l2:=([X5]:List BJ);let l3:=(((List.getD AB (Int.toNat i_) (([]:List UInt8),(0,(([]:List BJ),(0,(0,false)))))).2).2).1;cond (true&&decide ((List.length l3+List.length l2)*16<=Bl)) (let l4:=(l3++l2);let e2:=List.getD AB (Int.toNat i_) (([]:List UInt8),(0,(([]:List BJ),(0,(0,false)))));let l5:=List.set AB (Int.toNat i_) (e2.1,(e2.2.1,(l4,e2.2.2.2)));cond (decide ((Int.toNat i_)=(Int.toNat i_))&&(true&&true)) (k 0 Am l5 AG Aq) none) none) (cond (!decide (HP=(0:Int))) (k HP Am AB AG Aq) (let e:=List.getD AB (Int.toNat i_) (([]:List UInt8),(0,(([]:List BJ),(0,(0,false)))));let l2:=([X5]:List BJ);let l3:=(((List.getD AB (Int.toNat i_) (([]:List UInt8),(0,(([]:List BJ),(0,(0,false)))))).2).2).1;cond (true&&decide ((List.length l3+List.length l2)*16<=Bl)) (let l4:=(l3++l2);let e2:=List.getD AB (Int.toNat i_) (([]:List UInt8),(0,(([]:List BJ),(0,(0,false)))));let l5:=List.set AB (Int.toNat i_) (e2.1,(e2.2.1,(l4,e2.2.2.2)));cond (decide ((Int.toNat i_)=(Int.toNat i_))&&(true&&true)) (k 0 Am l5 AG Aq) none) none))) none))
theorem Ax1:SpecOkB Tryz.prog 80 (sg [AA,DS] El [Ab] El UC):=FG mixed (X:=⟨look tab,gam [Afx,Afy,ZO],false,false,false,false,Dv,none,0,[]⟩) BC [Afx,Afy,ZO] rfl [] [.tmp 4] Tryz.func80 (by kernel_rfl) λ_ _=>by kernel_rfl
noncomputable def Ax2:En:=.hand Ax1 rfl (by kernel_rfl)
abbrev Ax3:={β:Type}->CN->AF->AD->AE->AI->(Int->AF->AD->AE->AI->Option β)->Option β
def UD:Ax3:=hid λl Am AB AG Aq k=>Uq l (λX5 HP=>cond (decide ((List.length Aq:Int)=(0:Int))) (cond (decide (HP=(0:Int))) (k 9 Am AB AG Aq) (cond (!decide (HP=(0:Int))) (k HP Am AB AG Aq) (none))) (let i_:=(IntKind.i64.wrap ((List.length Aq:Int)-(1:Int)));cond (decide (0<=i_)&&decide (i_<(List.length Aq:Int))) (let e:=List.getD Aq (Int.toNat i_) (([]:List UInt8),(([]:List AU),([]:List BA)));let l2:=((List.getD Aq (Int.toNat i_) (([]:List UInt8),(([]:List AU),([]:List BA)))).2).1;cond (decide ((List.length l2:Int)=(0:Int))) (cond (decide (HP=(0:Int))) (k 9 Am AB AG Aq) (cond (!decide (HP=(0:Int))) (k HP Am AB AG Aq) (none))) (let l3:=((List.getD Aq (Int.toNat i_) (([]:List UInt8),(([]:List AU),([]:List BA)))).2).1;let l4:=((List.getD Aq (Int.toNat i_) (([]:List UInt8),(([]:List AU),([]:List BA)))).2).1;let Bz:=(IntKind.i64.wrap ((List.length l3:Int)-(1:Int)));cond (decide (0<=Bz)&&decide (Bz<(List.length l4:Int))) (let j:=Int.toNat Bz;cond (decide (HP=(0:Int))) (let l5:=((List.getD Aq (Int.toNat i_) (([]:List UInt8),(([]:List AU),([]:List BA)))).2).1;let e2:=List.getD l5 j G6;let l6:=([X5]:List BJ);let l7:=(((((((List.getD (((List.getD Aq (Int.toNat i_) (([]:List UInt8),(([]:List AU),([]:List BA)))).2).1) j G6).2).2).2).2).2).2).1;cond (true&&decide ((List.length l7+List.length l6)*16<=Bl)) (let l8:=(l7++l6);let e3:=List.getD Aq (Int.toNat i_) (([]:List UInt8),(([]:List AU),([]:List BA)));let e4:=List.getD e3.2.1 j G6;let l9:=List.set e3.2.1 j (e4.1,(e4.2.1,(e4.2.2.1,(e4.2.2.2.1,(e4.2.2.2.2.1,(e4.2.2.2.2.2.1,(l8,e4.2.2.2.2.2.2.2)))))));let l10:=List.set Aq (Int.toNat i_) (e3.1,(l9,e3.2.2));cond (decide ((Int.toNat i_)=(Int.toNat i_))&&(true&&(decide (j=j)&&(true&&true)))) (k 0 Am AB AG l10) none) none) (cond (!decide (HP=(0:Int))) (k HP Am AB AG Aq) (let l5:=((List.getD Aq (Int.toNat i_) (([]:List UInt8),(([]:List AU),([]:List BA)))).2).1;let e2:=List.getD l5 j G6;let l6:=([X5]:List BJ);let l7:=(((((((List.getD (((List.getD Aq (Int.toNat i_) (([]:List UInt8),(([]:List AU),([]:List BA)))).2).1) j G6).2).2).2).2).2).2).1;cond (true&&decide ((List.length l7+List.length l6)*16<=Bl)) (let l8:=(l7++l6);let e3:=List.getD Aq (Int.toNat i_) (([]:List UInt8),(([]:List AU),([]:List BA)));let e4:=List.getD e3.2.1 j G6;let l9:=List.set e3.2.1 j (e4.1,(e4.2.1,(e4.2.2.1,(e4.2.2.2.1,(e4.2.2.2.2.1,(e4.2.2.2.2.2.1,(l8,e4.2.2.2.2.2.2.2)))))));let l10:=List.set Aq (Int.toNat i_) (e3.1,(l9,e3.2.2));cond (decide ((Int.toNat i_)=(Int.toNat i_))&&(true&&(decide (j=j)&&(true&&true)))) (k 0 Am AB AG l10) none) none))) none)) none))
theorem Ax4:SpecOkB Tryz.prog 86 (sg [AA,DS] El [Ab] El UD):=FG mixed (X:=⟨look tab,gam [TP,TQ,ZO],false,false,false,false,Dv,none,0,[]⟩) BC [TP,TQ,ZO] rfl [] [.tmp 4] Tryz.func86 (by kernel_rfl) λ_ _=>by kernel_rfl
noncomputable def Ax5:En:=.hand Ax4 rfl (by kernel_rfl)
abbrev Ax6:={β:Type}->AJ->(J9->Bool->Option β)->Option β
def UE:Ax6:=hid λword k=>let l:=([0,4]:List Int);let l2:=([1,1,0,0,0,2,4]:List Int);let l3:=([0,0]:List Int);let l4:=([0,2,0,2]:List Int);let l5:=([0,0]:List Int);let l6:=([3]:List Int);let l7:=([0]:List Int);let l8:=([0,0,3,2,1,0]:List Int);let l9:=([0]:List Int);let l10:=([0,2,0,2]:List Int);let l11:=([0]:List Int);let l12:=([0]:List Int);let l13:=([0,5,5]:List Int);let l14:=([0,5,5]:List Int);let l15:=([0,0,5,5]:List Int);let l16:=([(([122,111,110,101]:List UInt8),(l,false)),(([114,117,108,101]:List UInt8),(l2,false)),(([112,101,114,115,111,110]:List UInt8),(l3,false)),(([113,117,105,101,116]:List UInt8),(l4,false)),(([99,97,108,101,110,100,97,114]:List UInt8),(l5,false)),(([100,97,121,115]:List UInt8),(l6,true)),(([115,99,104,101,100,117,108,101]:List UInt8),(l7,false)),(([108,97,121,101,114]:List UInt8),(l8,false)),(([109,101,109,98,101,114]:List UInt8),(l9,true)),(([111,110]:List UInt8),(l10,false)),(([110,111,116]:List UInt8),(l11,false)),(([111,110,108,121]:List UInt8),(l12,false)),(([108,101,97,118,101]:List UInt8),(l13,false)),(([111,118,101,114,114,105,100,101]:List UInt8),(l14,false)),(([115,119,97,112]:List UInt8),(l15,false))]:List J9);AhA l16 word (λrform AKh=>cond (decide (rform<0)) (k ArK false) (cond (decide (0<=rform)&&decide (rform<(List.length l16:Int))) (k (List.getD l16 (Int.toNat rform) (([]:List UInt8),(([]:List Int),false))) true) none))
noncomputable def Ax7:En:=⟨89,.spec (sg [BR] [] [(true,[.data LQ]),AS] [] UE),pf [Awv] [] [.cell 2 149,.tmp 3] Tryz.func89⟩
abbrev Ax8:={β:Type}->E6->Int->(Int->Option β)->Option β
noncomputable def AhN:List En:=[Aw0]
abbrev AhO(β:Type):=Int->Option β
abbrev AhP(β:Type):=Unit->Option β
abbrev sI(β:Type):=E6->Int->Int->Option β
noncomputable def AhQ:Pc:=⟨26,0,AL 58 (Ay Tryz.f146),⟨0,[0,1,5],[YU,Ab,Ab],[]⟩,[(.ret,⟨0,[4],[Ab],[]⟩),(.exit 0,⟨0,[],[],[]⟩)]⟩
def aN{β:Type}(rec:sI β)(k1:AhO β)(k2:AhP β):sI β:=λl i_ k_=>cond (decide (k_<i_)) (cond (decide (0<=k_)&&decide (k_<(List.length l:Int))) (let e:=List.getD l (Int.toNat k_) ([]:List UInt8);cond (decide (0<=i_)&&decide (i_<(List.length l:Int))) (let e2:=List.getD l (Int.toNat i_) ([]:List UInt8);cond (decide (e=e2)) (k1 4) (let H0:=(IntKind.i64.wrap (k_+1));rec l i_ H0)) none) none) (k2 ())
def UF(m:Nat){β:Type}(k1:AhO β)(k2:AhP β):sI β:=G8 (λr=>aN r k1 k2) none m
theorem AhR{β:Type}(i:Nat)(k1 k2):UF (β:=β) (i+1) k1 k2=aN (UF i k1 k2) k1 k2:=rfl
def sJ{β:Type}:=hid (UF (β:=β) fuel)
noncomputable def Ax9:Pb:=⟨58,AhQ,λ_=>sJ,pl (p:=AhQ) AhN [] (g:=λi _=>UF i)⟩
def Nq:Ax8:=hid λl i_ k=>cond (decide (0<=i_)&&decide (i_<(List.length l:Int))) (let e:=List.getD l (Int.toNat i_) ([]:List UInt8);ZT e (λPR=>cond (!PR) (k 2) (sJ (λt4=>k t4) (λ_=>k 0) l i_ 0))) none
noncomputable def aO:En:=⟨146,.spec (sg [YU,Ab] [] [Ab] [] Nq),pf AhN [Ax9] [.tmp 4] Tryz.func146⟩
abbrev Axa:={β:Type}->Int->(Iu->Int->Option β)->Option β
noncomputable def AhS:List En:=[ZW,rT,Aw6]
abbrev sK(β:Type):=Int->Iu->Iu->Option β
abbrev sL(β:Type):=Int->Iu->Iu->Option β
noncomputable def AhT:Pc:=⟨45,0,AL 124 (Ay Tryz.f171),⟨0,[2,4,5],[AA,Ck,Ab],[O4,O4]⟩,[(.exit 0,⟨0,[2,4,5],[AA,Ck,Ab],[O4,O4]⟩)]⟩
def aP{β:Type}(rec:sL β)(k1:sK β):sL β:=λrest t2 d=>DM d.1 d.2.1 (λJt=>cond (decide (Jt<=rest)) (DM d.1 d.2.1 (λAJ3=>let rest2:=(IntKind.i64.wrap (rest-AJ3));rec rest2 t2 (d.1,((IntKind.i64.wrap (d.2.1+(1:Int))),d.2.2)))) (k1 rest t2 d))
def UG(m:Nat){β:Type}(k1:sK β):sL β:=G8 (λr=>aP r k1) none m
theorem AhU{β:Type}(i:Nat)(k1):UG (β:=β) (i+1) k1=aP (UG i k1) k1:=rfl
def sM{β:Type}:=hid (UG (β:=β) fuel)
noncomputable def Axb:Pb:=⟨124,AhT,λ_=>sM,pl (p:=AhT) AhS [] (g:=λi _=>UG i)⟩
def OP:Axa:=hid λday k=>Nm 1970 (λrcount=>cond (decide (day<rcount)) (k (0,(0,0)) 1) (Nm 2241 (λrcount2=>cond (decide (rcount2<=day)) (k (0,(0,0)) 1) (ZV day (λryear=>Nm ryear (λrcount3=>let rest:=(IntKind.i64.wrap (day-rcount3));sM (λrest2 t2 d=>k (d.1,(d.2.1,(IntKind.i64.wrap (rest2+(1:Int))))) 0) rest (0,(0,0)) (ryear,(1,0))))))))
noncomputable def AhV:En:=⟨171,.spec (sg [Ab] [] [QJ,Ab] [] OP),pf AhS [Axb] [.cell 2 230,.tmp 3] Tryz.func171⟩
abbrev Axc:={β:Type}->Int->Bool->(AJ->Option β)->Option β
def OQ:Axc:=hid λn seconds k=>LZ (IntKind.i64.wrap (Int.tdiv n 3600)) 2 (λrdigits=>cond (decide (List.length rdigits+List.length ([58]:List UInt8)<=9223372036854775807)) (LZ (Int.tmod (IntKind.i64.wrap (Int.tdiv n 60)) 60) 2 (λrdigits2=>cond (decide (List.length (rdigits++([58]:List UInt8))+List.length rdigits2<=9223372036854775807)) (let s:=((rdigits++([58]:List UInt8))++rdigits2);cond seconds (LZ (Int.tmod n 60) 2 (λrdigits3=>cond (decide (List.length ([58]:List UInt8)+List.length rdigits3<=9223372036854775807)) (cond (decide (List.length s+List.length (([58]:List UInt8)++rdigits3)<=9223372036854775807)) (let s2:=(s++(([58]:List UInt8)++rdigits3));k s2) none) none)) (k s)) none)) none)
noncomputable def Axd:En:=⟨185,.spec (sg [Ab,AS] [] [BR] [] OQ),pf [Ah9] [] [.tmp 4] Tryz.func185⟩
abbrev Axe:={β:Type}->Int->(AJ->Bool->Option β)->Option β
def UH:Axe:=hid λday k=>OP day (λjM AbB=>LZ jM.1 4 (λrdigits=>cond (decide (List.length rdigits+List.length ([45]:List UInt8)<=9223372036854775807)) (LZ jM.2.1 2 (λrdigits2=>cond (decide (List.length (rdigits++([45]:List UInt8))+List.length rdigits2<=9223372036854775807)) (cond (decide (List.length ((rdigits++([45]:List UInt8))++rdigits2)+List.length ([45]:List UInt8)<=9223372036854775807)) (LZ jM.2.2 2 (λrdigits3=>cond (decide (List.length (((rdigits++([45]:List UInt8))++rdigits2)++([45]:List UInt8))+List.length rdigits3<=9223372036854775807)) (let t:=((((rdigits++([45]:List UInt8))++rdigits2)++([45]:List UInt8))++rdigits3);let t2:=(decide (AbB=(0:Int)));k t t2) none)) none) none)) none))
noncomputable def Axf:En:=⟨186,.spec (sg [Ab] [] [BR,AS] [] UH),pf [AhV,Ah9] [] [.tmp 2,.tmp 3] Tryz.func186⟩
abbrev Axg:={β:Type}->AJ->(Int->Bool->Option β)->Option β
noncomputable def aQ:List En:=[Aha,AeQ]
abbrev sN(β:Type):=Int->Bool->Option β
abbrev sO(β:Type):=Int->Option β
abbrev sP(β:Type):=Int->Int->Int->E6->Option β
noncomputable def AhW:Pc:=⟨53,0,AL 250 (Ay Tryz.f197),⟨0,[5,23,24,25],[Ab,CH,Ab,Ab],[.row 9 .str]⟩,[(.ret,⟨0,[2,3],[Ab,AS],[]⟩),(.exit 0,⟨0,[5],[Ab],[]⟩)]⟩
def sQ{β:Type}(rec:sP β)(k1:sN β)(k2:sO β):sP β:=λn Gw t25 E4=>cond (decide (t25<Gw)) (cond (decide (0<=t25)&&decide (t25<(List.length E4:Int))) (let x:=(List.getD E4 (Int.toNat t25) ([]:List UInt8));QZ x (λrtwo rtwo2=>cond (!rtwo2) (k1 0 false) (cond (decide ((0:Int)<t25)) (cond (decide ((59:Int)<rtwo)) (k1 0 false) (let n2:=(IntKind.i64.wrap ((IntKind.i64.wrap (60*n))+rtwo));rec n2 Gw (IntKind.i64.wrap (t25+(1:Int))) E4)) (let n2:=(IntKind.i64.wrap ((IntKind.i64.wrap (60*n))+rtwo));rec n2 Gw (IntKind.i64.wrap (t25+(1:Int))) E4)))) none) (k2 n)
def aR(m:Nat){β:Type}(k1:sN β)(k2:sO β):sP β:=DT (λr=>sQ r k1 k2) none m
theorem Axh{β:Type}(i:Nat)(k1 k2):aR (β:=β) (i+1) k1 k2=sQ (aR i k1 k2) k1 k2:=rfl
def aS{β:Type}:=hid (aR (β:=β) fuel)
noncomputable def Axi:Pb:=⟨250,AhW,λ_=>aS,HY mixed (X:=⟨look tab,gam aQ,false,true,false,false,[],none,0,[]⟩) (p:=AhW) BC aQ rfl [] (g:=λi _=>aR i) (by kernel_rfl) rfl (by kernel_rfl) (λ_ _=>rfl) λ_ _ _ _=>by kernel_rfl⟩
def Lb:Axg:=hid λs k=>QN s ([58]:List UInt8) (λPH=>cond (decide ((List.length PH:Int)<(2:Int))) (k 0 false) (cond (decide ((3:Int)<(List.length PH:Int))) (k 0 false) (let l:=([([48,48]:List UInt8)]:List AJ);cond (decide ((List.length PH+List.length l)*16<=Bl)) (let l2:=(PH++l);cond (decide (0<=(3:Int))&&decide ((3:Int)<=(List.length l2:Int))) (let l3:=(List.take (Int.toNat 3) l2);aS (λt2 t3=>k t2 t3) (λn=>let t:=(decide (n<=86400));k n t) 0 (List.length l3:Int) 0 l3) none) none)))
noncomputable def sR:En:=⟨197,.spec (sg [BR] [] [Ab,AS] [] Lb),QF mixed (X:=⟨look tab,gam aQ,false,true,false,false,[],none,0,[]⟩) BC aQ rfl [Axi] [.tmp 2,.tmp 3] Tryz.func197 (by kernel_rfl) λ_ _=>by kernel_rfl⟩
abbrev Axj:={β:Type}->Iu->(Int->Int->Option β)->Option β
def OR:Axj:=hid λd k=>ON d (λX0=>cond (!X0) (k 0 1) (OO d (λFy=>k Fy 0)))
noncomputable def Axk:En:=⟨225,.spec (sg [QJ] [] [Ab,Ab] [] OR),pf [Ahb,Ahf] [] [.tmp 2,.tmp 3] Tryz.func225⟩
abbrev Axl:={β:Type}->Int->Int->Int->Int->(Int->Int->Option β)->Option β
def aT:Axl:=hid λEe Ch week L6 k=>ON (Ee,(Ch,1)) (λX0=>cond (!X0) (k 0 1) (cond (decide (week<1)) (k 0 1) (cond (decide ((5:Int)<week)) (k 0 1) (cond (decide (L6<0)) (k 0 1) (cond (decide ((6:Int)<L6)) (k 0 1) (OO (Ee,(Ch,1)) (λFy=>pX Fy (λPT=>let day:=(IntKind.i64.wrap ((IntKind.i64.wrap (Fy+(Int.tmod (IntKind.i64.wrap ((IntKind.i64.wrap (L6-PT))+7)) 7)))+(IntKind.i64.wrap (7*(IntKind.i64.wrap (week-1))))));DM Ee Ch (λJt=>cond (decide ((IntKind.i64.wrap (Fy+Jt))<=day)) (let day2:=(IntKind.i64.wrap (day-7));k day2 0) (k day 0))))))))))
noncomputable def Axm:En:=⟨228,.spec (sg [Ab,Ab,Ab,Ab] [] [Ab,Ab] [] aT),pf [ZW,Ahb,Auv,Ahf] [] [.tmp 8,.tmp 9] Tryz.func228⟩
abbrev Axn:={β:Type}->Iu->(Int->Int->Option β)->Option β
noncomputable def AhX:List En:=[s6,Awm,Ag6]
abbrev sS(β:Type):=Int->Iu->Option β
abbrev sT(β:Type):=Int->Int->Iu->Option β
noncomputable def AhY:Pc:=⟨29,0,AL 122 (Ay Tryz.f244),⟨0,[1,4,5],[AA,Ab,Ab],[O4]⟩,[(.exit 0,⟨0,[1,4],[AA,Ab],[O4]⟩)]⟩
def aU{β:Type}(rec:sT β)(k1:sS β):sT β:=λn m d=>cond (decide (m<d.2.1)) (Hm d.1 m (λJt=>let n2:=(IntKind.i64.wrap (n+Jt));let m2:=(IntKind.i64.wrap (m+1));rec n2 m2 d)) (k1 n d)
def UI(m:Nat){β:Type}(k1:sS β):sT β:=G8 (λr=>aU r k1) none m
theorem AhZ{β:Type}(i:Nat)(k1):UI (β:=β) (i+1) k1=aU (UI i k1) k1:=rfl
def sU{β:Type}:=hid (UI (β:=β) fuel)
noncomputable def Axo:Pb:=⟨122,AhY,λ_=>sU,pl (p:=AhY) AhX [] (g:=λi _=>UI i)⟩
def aV:Axn:=hid λd k=>s7 d (λX0=>cond (!X0) (k 0 1) (TZ d.1 (λryear=>sU (λn d2=>let t:=(IntKind.i64.wrap ((IntKind.i64.wrap (n+d2.2.2))-1));k t 0) ryear 1 d)))
noncomputable def Axp:En:=⟨244,.spec (sg [QJ] [] [Ab,Ab] [] aV),pf AhX [Axo] [.tmp 2,.tmp 3] Tryz.func244⟩
abbrev Axq:={β:Type}->Int->Ce->(As->Ce->Option β)->Option β
noncomputable def aW:List En:=[AhE,AuS,KY,AuI,AeD]
abbrev sV(β:Type):=Ce->AF->AD->AE->AF->AD->AE->AI->AI->Option β
abbrev sW(β:Type):=Int->Ce->AF->AD->AE->AF->AD->AE->AI->AI->Option β
noncomputable def aX:Pc:=⟨69,1,AL 58 (Ay Tryz.f8),⟨1,[0,4,5,6],[AA,Ck,Dn,Ab],Aet⟩,[(.exit 0,⟨1,[4,5],[Ck,Dn],Aet⟩)]⟩
abbrev sX(β:Type):=Int->Ce->AF->AD->AE->AJ->AF->AD->AE->AI->AI->Kf->(List BA)->Option β
abbrev sY(β:Type):=Int->Int->Ce->AF->AD->AE->AJ->AF->AD->AE->AI->AI->Kf->(List BA)->Option β
noncomputable def Ai0:Pc:=⟨69,1,AL 202 (E5 aX.c),⟨1,[0,4,5,6,7,8],[AA,Ck,Dn,Ab,IV,Ab],YV⟩,[(.exit 2,⟨1,[0,4,5,6,7],[AA,Ck,Dn,Ab,IV],YV⟩)]⟩
abbrev sZ(β:Type):=Int->Ce->AF->AD->AE->AJ->AF->AD->AE->AI->AI->Kf->(List BA)->Option β
abbrev tA(β:Type):=Int->Int->Ce->AF->AD->AE->AJ->AF->AD->AE->AI->AI->Kf->(List BA)->Option β
noncomputable def Ai1:Pc:=⟨69,1,AL 410 (E5 aX.c),⟨1,[0,4,5,6,7,9],[AA,Ck,Dn,Ab,IV,Ab],YV⟩,[(.exit 4,⟨1,[0,4,5,6,7],[AA,Ck,Dn,Ab,IV],YV⟩)]⟩
def aY{β:Type}(rec:sY β)(k1:sX β):sY β:=λi_ k_ d c c2 c3 s Aq BX BG BE Cp Cl CI=>cond (decide ((0:Int)<k_)) (T6 (λSc=>cond (decide (0<=(List.length Cl:Int))&&decide ((List.length Cl:Int)<(List.length Sc:Int))) (Z8 c c2 c3 (List.getD Sc (Int.toNat (List.length Cl:Int)) ([]:List UInt8)) d (λSo Abu=>let l:=([So]:List AU);cond (decide ((List.length Cl+List.length l)*120<=Bl)) (let l2:=(Cl++l);let H0:=(IntKind.i64.wrap (k_-1));rec i_ H0 Abu c c2 c3 s Aq BX BG BE Cp l2 CI) none)) none)) (k1 i_ d c c2 c3 s Aq BX BG BE Cp Cl CI)
def UJ(m:Nat){β:Type}(k1:sX β):sY β:=oD (λr=>aY r k1) none m
theorem Ai2{β:Type}(i:Nat)(k1):UJ (β:=β) (i+1) k1=aY (UJ i k1) k1:=rfl
def tB{β:Type}:=hid (UJ (β:=β) fuel)
noncomputable def Axr:Pb:=⟨202,Ai0,λ_=>tB,pl (p:=Ai0) aW [] (g:=λi _=>UJ i)⟩
def aZ{β:Type}(rec:tA β)(k1:sZ β):tA β:=λi_ k_ d c c2 c3 s Aq BX BG BE Cp Cl CI=>cond (decide ((0:Int)<k_)) (U6 c c2 c3 d (λXv jF=>let l:=([Xv]:List BA);cond (decide ((List.length CI+List.length l)*40<=Bl)) (let l2:=(CI++l);let H0:=(IntKind.i64.wrap (k_-1));rec i_ H0 jF c c2 c3 s Aq BX BG BE Cp Cl l2) none)) (k1 i_ d c c2 c3 s Aq BX BG BE Cp Cl CI)
def UK(m:Nat){β:Type}(k1:sZ β):tA β:=oD (λr=>aZ r k1) none m
theorem Ai3{β:Type}(i:Nat)(k1):UK (β:=β) (i+1) k1=aZ (UK i k1) k1:=rfl
def tC{β:Type}:=hid (UK (β:=β) fuel)
noncomputable def Axs:Pb:=⟨410,Ai1,λ_=>tC,pl (p:=Ai1) aW [] (g:=λi _=>UK i)⟩
def bA{β:Type}(rec:sW β)(k1:sV β):sW β:=λi_ d c c2 c3 AG Aq BX BG BE=>cond (decide ((0:Int)<i_)) (let l:=([([102,105,114,115,116]:List UInt8),([115,101,99,111,110,100]:List UInt8),([116,104,105,114,100]:List UInt8)]:List AJ);cond (decide (0<=(Int.tmod (List.length BE:Int) 3))&&decide ((Int.tmod (List.length BE:Int) 3)<(List.length l:Int))) (C4 4 d (λCr Du=>tB (λBz d2 c4 c5 c6 s AV C0 C1 CO Cp Cl CI=>C4 4 d2 (λEb H3=>tC (λJr d3 c7 c8 c9 s2 An3 An4 An5 Aah CS Da CR=>let l2:=([(s2,(Da,CR))]:List By);cond (decide ((List.length CS+List.length l2)*64<=Bl)) (let l3:=(CS++l2);let Xl:=(IntKind.i64.wrap (Jr-(1:Int)));rec Xl d3 c7 c8 c9 An3 An4 An5 Aah l3) none) Bz Eb H3 c4 c5 c6 s AV C0 C1 CO Cp Cl CI)) i_ Cr Du c c2 c3 (List.getD l (Int.toNat (Int.tmod (List.length BE:Int) 3)) ([]:List UInt8)) AG Aq BX BG BE ([]:List AU) ([]:List BA))) none) (k1 d c c2 c3 AG Aq BX BG BE)
def UL(m:Nat){β:Type}(k1:sV β):sW β:=OB (λr=>bA r k1) none m
theorem Ai4{β:Type}(i:Nat)(k1):UL (β:=β) (i+1) k1=bA (UL i k1) k1:=rfl
def tD{β:Type}:=hid (UL (β:=β) fuel)
noncomputable def Axt:Pb:=⟨58,aX,λ_=>tD,pl (p:=aX) aW [Axr,Axs] (g:=λi _=>UL i)⟩
def bB:Axq:=hid λn d k=>Z5 d (λAJn AJo AJp AIx AHH=>C4 n AIx (λCr Du=>let i_:=(IntKind.i64.wrap (1+Cr));tD (λAZ c c2 c3 AG Aq BX BG BE=>k (c,(c2,(c3,BE))) AZ) i_ Du AJn AJo AJp ([]:List AK) ([]:List Bb) ([]:List Bh) ([]:List By) AHH))
noncomputable def Axu:En:=⟨8,.spec (sg [AA,Ab] [Dm] [ED] [Dm] bB),pf aW [Axt] [.cell 4 32] Tryz.func8⟩
abbrev Axv:={β:Type}->CN->(Bool->Option β)->Option β
noncomputable def bC:List En:=[Ax7,Avi]
abbrev Ai5(β:Type):=Bool->Option β
abbrev Ai6(β:Type):=Unit->Option β
abbrev tE(β:Type):=CN->Int->Int->J9->Option β
noncomputable def Ai7:Pc:=⟨80,0,AL 1018 (Ay Tryz.f31),⟨0,[3,59,60,61],[AA,DS,Ab,Ab],[.cells 149 [.data LQ]]⟩,[(.ret,⟨0,[2],[AS],[]⟩),(.exit 0,⟨0,[],[],[]⟩)]⟩
abbrev Axw(β:Type):=Bool->Option β
abbrev Axx(β:Type):=CN->J9->Option β
noncomputable def Ai8:Pc:=⟨80,0,AL 127 (Ay Tryz.f31),⟨0,[0,3],[DS,AA],[.cells 149 [.data LQ]]⟩,[(.ret,⟨0,[2],[AS],[]⟩)]⟩
abbrev Axy(β:Type):=Bool->Option β
abbrev Axz(β:Type):=CN->J9->Option β
noncomputable def Ai9:Pc:=⟨80,0,AL 63 (Ay Tryz.f31),⟨0,[0,3],[DS,AA],[.cells 149 [.data LQ]]⟩,[(.ret,⟨0,[2],[AS],[]⟩)]⟩
def bD{β:Type}(rec:tE β)(k1:Ai5 β)(k2:Ai6 β):tE β:=λt59 JX FS f=>
 cond (decide (FS<JX))
 (cond (decide (0<=FS)&&decide (FS<(List.length t59:Int)))
 (let e:=List.getD t59 (Int.toNat FS) (0,(([]:List UInt8),0));
 cond (decide (0<=(if(IntKind.i64.wrap ((List.length f.2.1:Int)-(1:Int)))<FS then(IntKind.i64.wrap ((List.length f.2.1:Int)-(1:Int)))else FS))&&decide ((if(IntKind.i64.wrap ((List.length f.2.1:Int)-(1:Int)))<FS then(IntKind.i64.wrap ((List.length f.2.1:Int)-(1:Int)))else FS)<(List.length f.2.1:Int)))
 (let e2:=List.getD f.2.1 (Int.toNat (if(IntKind.i64.wrap ((List.length f.2.1:Int)-(1:Int)))<FS then(IntKind.i64.wrap ((List.length f.2.1:Int)-(1:Int)))else FS)) 0;
 cond (!decide (e.1=e2))
 (k1 false)
 (rec t59 JX (IntKind.i64.wrap (FS+(1:Int))) f))
 none)
 none)
 (k2 ())
def UM(m:Nat){β:Type}(k1:Ai5 β)(k2:Ai6 β):tE β:=DT (λr=>bD r k1 k2) none m
theorem Aia{β:Type}(i:Nat)(k1 k2):UM (β:=β) (i+1) k1 k2=bD (UM i k1 k2) k1 k2:=rfl
def tF{β:Type}:=hid (UM (β:=β) fuel)
noncomputable def AxA:Pb:=⟨1018,Ai7,λ_=>tF,pl (p:=Ai7) bC [] (g:=λi _=>UM i)⟩
def tG{β:Type}(k1:Axw β):Axx β:=λl f=>cond (decide (0<=(1:Int))&&(decide ((1:Int)<=(List.length l:Int))&&decide ((List.length l:Int)<=(List.length l:Int)))) (tF (λt2=>k1 t2) (λ_=>k1 true) (List.drop (Int.toNat 1) (List.take (Int.toNat (List.length l:Int)) l)) (List.length (List.drop (Int.toNat 1) (List.take (Int.toNat (List.length l:Int)) l)):Int) 0 f) none
def UN{β:Type}:=hid (tG (β:=β))
noncomputable def AxB:Pb:=⟨127,Ai8,λ_=>UN,pe (p:=Ai8) bC [AxA] 127 (g:=λ_=>tG)⟩
def tH{β:Type}(k1:Axy β):Axz β:=λl f=>cond (decide ((IntKind.i64.wrap ((List.length l:Int)-(1:Int)))<(List.length f.2.1:Int))) (k1 false) (cond (decide ((List.length f.2.1:Int)<(IntKind.i64.wrap ((List.length l:Int)-(1:Int))))) (cond (!f.2.2) (k1 false) (UN (λt2=>k1 t2) l f)) (UN (λt2=>k1 t2) l f))
def bE{β:Type}:=hid (tH (β:=β))
noncomputable def AxC:Pb:=⟨63,Ai9,λ_=>bE,pe (p:=Ai9) bC [AxB] 63 (g:=λ_=>tH)⟩
def DV:Axv:=hid λl k=>cond (decide ((List.length l:Int)=(0:Int))) (k false) (cond (decide (0<=(0:Int))&&decide ((0:Int)<(List.length l:Int))) (let e:=List.getD l (Int.toNat 0) (0,(([]:List UInt8),0));cond (!decide (e.1=(0:Int))) (k false) (cond (decide (0<=(0:Int))&&decide ((0:Int)<(List.length l:Int))) (let e2:=List.getD l (Int.toNat 0) (0,(([]:List UInt8),0));UE e2.2.1 (λrforms rforms2=>cond (!rforms2) (k false) (cond (decide (rforms.1=([112,101,114,115,111,110]:List UInt8))) (AgF l (λroptions roptions2=>cond (!roptions2) (k false) (bE (λt2=>k t2) roptions rforms))) (bE (λt2=>k t2) l rforms)))) none)) none)
noncomputable def tI:En:=⟨31,.spec (sg [DS] [] [AS] [] DV),pf bC [AxC] [.tmp 2] Tryz.func31⟩
abbrev AxD:={β:Type}->CN->AF->AD->AE->AI->(Int->AF->AD->AE->AI->Option β)->Option β
def UO:AxD:=hid λl Am AB AG Aq k=>
 cond (decide (0<=(2:Int))&&decide ((2:Int)<(List.length l:Int)))
 (let e:=List.getD l (Int.toNat 2) (0,(([]:List UInt8),0));
 OG Am e.2.1 (λEY jG=>
 let t:=(if EY>0 then EY else 0);
 let t2:=(decide ((0:Int)<=EY));
 IY t2 (λEZ=>
 cond (!decide (EZ=0))
 (k EZ Am AB AG Aq)
 (cond (decide (0<=(1:Int))&&decide ((1:Int)<(List.length l:Int)))
 (let e2:=List.getD l (Int.toNat 1) (0,(([]:List UInt8),0));
 let l2:=([(e2.2.1,(t,([]:List Int)))]:List Bh);
 cond (true&&decide ((List.length AG+List.length l2)*48<=Bl))
 (let l3:=(AG++l2);
 k 0 Am AB l3 Aq)
 none)
 none))))
 none
theorem AxE:SpecOkB Tryz.prog 81 (sg [AA,DS] El [Ab] El UO):=FG mixed (X:=⟨look tab,gam [TN,LX],false,false,false,false,Dv,none,0,[]⟩) BC [TN,LX] rfl [] [.tmp 4] Tryz.func81 (by kernel_rfl) λ_ _=>by kernel_rfl
noncomputable def AxF:En:=.hand AxE rfl (by kernel_rfl)
abbrev AxG:={β:Type}->CN->AF->AD->AE->AI->(Int->AF->AD->AE->AI->Option β)->Option β
def UP:AxG:=hid λl Am AB AG Aq k=>
 let l2:=([([104,111,117,114,115]:List UInt8),([100,97,121,115]:List UInt8),([119,101,101,107,115]:List UInt8)]:List AJ);
 cond (decide (0<=(6:Int))&&decide ((6:Int)<(List.length l:Int)))
 (let e:=List.getD l (Int.toNat 6) (0,(([]:List UInt8),0));
 Nj l2 e.2.1 (λPO=>
 cond (decide (PO<0))
 (k 2 Am AB AG Aq)
 (cond (decide ((List.length Aq:Int)=(0:Int)))
 (k 9 Am AB AG Aq)
 (let i_:=(IntKind.i64.wrap ((List.length Aq:Int)-(1:Int)));
 cond (decide (0<=i_)&&decide (i_<(List.length Aq:Int)))
 (cond (decide (0<=(2:Int))&&decide ((2:Int)<(List.length l:Int)))
 (let e2:=List.getD l (Int.toNat 2) (0,(([]:List UInt8),0));
 OG Am e2.2.1 (λEY jG=>
 let t:=(if EY>0 then EY else 0);
 let t2:=(decide ((0:Int)<=EY));
 IY t2 (λEZ=>
 cond (!decide (EZ=0))
 (k EZ Am AB AG Aq)
 (let e3:=List.getD Aq (Int.toNat i_) (([]:List UInt8),(([]:List AU),([]:List BA)));
 cond (decide (0<=(1:Int))&&decide ((1:Int)<(List.length l:Int)))
 (let e4:=List.getD l (Int.toNat 1) (0,(([]:List UInt8),0));
 cond (decide (0<=(3:Int))&&decide ((3:Int)<(List.length l:Int)))
 (let e5:=List.getD l (Int.toNat 3) (0,(([]:List UInt8),0));
 cond (decide (0<=(4:Int))&&decide ((4:Int)<(List.length l:Int)))
 (let e6:=List.getD l (Int.toNat 4) (0,(([]:List UInt8),0));
 cond (decide (0<=(5:Int))&&decide ((5:Int)<(List.length l:Int)))
 (let e7:=List.getD l (Int.toNat 5) (0,(([]:List UInt8),0));
 let l3:=([(e4.2.1,(t,((e5.2.2,e6.2.2),(PO,(e7.2.2,(([]:List Int),(([]:List BJ),(0,0))))))))]:List AU);
 let l4:=((List.getD Aq (Int.toNat i_) (([]:List UInt8),(([]:List AU),([]:List BA)))).2).1;
 cond (true&&decide ((List.length l4+List.length l3)*120<=Bl))
 (let l5:=(l4++l3);
 let e8:=List.getD Aq (Int.toNat i_) (([]:List UInt8),(([]:List AU),([]:List BA)));
 let l6:=List.set Aq (Int.toNat i_) (e8.1,(l5,e8.2.2));
 cond (decide ((Int.toNat i_)=(Int.toNat i_))&&(true&&true))
 (k 0 Am AB AG l6)
 none)
 none)
 none)
 none)
 none)
 none))))
 none)
 none))))
 none
theorem AxH:SpecOkB Tryz.prog 84 (sg [AA,DS] El [Ab] El UP):=FG mixed (X:=⟨look tab,gam [TN,LX,TO,pE,Zq],false,false,false,false,Dv,none,0,[]⟩) BC [TN,LX,TO,pE,Zq] rfl [] [.tmp 4] Tryz.func84 (by kernel_rfl) λ_ _=>by kernel_rfl
noncomputable def AxI:En:=.hand AxH rfl (by kernel_rfl)
abbrev AxJ:={β:Type}->As->(Int->Option β)->Option β
noncomputable def Aib:List En:=[AfW,AtN,TU,aO]
abbrev Aic(β:Type):=Int->Option β
abbrev Aid(β:Type):=Unit->Option β
abbrev tJ(β:Type):=Int->As->E6->Option β
noncomputable def Aie:Pc:=⟨58,0,AL 58 (Ay Tryz.f98),⟨0,[1,3,4],[AA,FI,Ab],[Cj,.row 9 .str]⟩,[(.ret,⟨0,[2],[Ab],[]⟩),(.exit 0,⟨0,[],[],[]⟩)]⟩
def bF{β:Type}(rec:tJ β)(k1:Aic β)(k2:Aid β):tJ β:=λi_ c l=>cond (decide (i_<(List.length c.2.1:Int))) (cond (decide (0<=i_)&&decide (i_<(List.length c.2.1:Int))) (let e:=List.getD c.2.1 (Int.toNat i_) (([]:List UInt8),(0,(([]:List BJ),(0,(0,false)))));let l2:=([e.1]:List AJ);cond (decide ((List.length l+List.length l2)*16<=Bl)) (let l3:=(l++l2);cond (decide (e.1=([110,111,98,111,100,121]:List UInt8))) (k1 2) (Nq l3 i_ (λEC=>cond (!decide (EC=0)) (k1 EC) (Gq e.2.1 0 (IntKind.i64.wrap ((List.length c.1:Int)-(1:Int))) (λD4=>cond (!D4) (k1 3) (TW e.2.2.1 (λFR=>let t:=(!decide (FR=0));cond t (k1 8) (TX e.2.2.2.1 (λIj=>cond (!Ij) (k1 1) (TX e.2.2.2.2.1 (λAbN=>cond (!AbN) (k1 1) (let Bz:=(IntKind.i64.wrap (i_+1));rec Bz c l3)))))))))))) none) none) (k2 ())
def UQ(m:Nat){β:Type}(k1:Aic β)(k2:Aid β):tJ β:=G8 (λr=>bF r k1 k2) none m
theorem Aif{β:Type}(i:Nat)(k1 k2):UQ (β:=β) (i+1) k1 k2=bF (UQ i k1 k2) k1 k2:=rfl
def tK{β:Type}:=hid (UQ (β:=β) fuel)
noncomputable def AxK:Pb:=⟨58,Aie,λ_=>tK,pl (p:=Aie) Aib [] (g:=λi _=>UQ i)⟩
def bG:AxJ:=hid λc k=>tK (λt2=>k t2) (λ_=>k 0) 0 c ([]:List AJ)
noncomputable def AxL:En:=⟨98,.spec (sg [ED] [] [Ab] [] bG),pf Aib [AxK] [.tmp 2] Tryz.func98⟩
abbrev AxM:={β:Type}->As->(Int->Option β)->Option β
noncomputable def bH:List En:=[rC,TU,aO]
abbrev Aig(β:Type):=Int->Option β
abbrev Aih(β:Type):=Unit->Option β
abbrev tL(β:Type):=Int->As->E6->Option β
noncomputable def bI:Pc:=⟨78,0,AL 58 (Ay Tryz.f99),⟨0,[1,3,4],[AA,FI,Ab],[Cj,.row 9 .str]⟩,[(.ret,⟨0,[2],[Ab],[]⟩),(.exit 0,⟨0,[],[],[]⟩)]⟩
abbrev tM(β:Type):=Int->Option β
abbrev tN(β:Type):=Int->As->E6->Bh->Option β
abbrev tO(β:Type):=Int->Int->As->E6->Bh->Option β
noncomputable def Aii:Pc:=⟨78,0,AL 3322 (E5 bI.c),⟨0,[1,3,4,5,7],[AA,FI,Ab,Dn,Ab],[Cj,.row 9 .str,YT]⟩,[(.ret,⟨0,[2],[Ab],[]⟩),(.exit 2,⟨0,[1,3,4,5],[AA,FI,Ab,Dn],[Cj,.row 9 .str,YT]⟩)]⟩
abbrev tP(β:Type):=Int->Option β
abbrev tQ(β:Type):=Int->As->E6->Option β
abbrev tR(β:Type):=Int->Int->As->E6->Bh->Option β
noncomputable def Aij:Pc:=⟨78,0,AL 3326 (E5 bI.c),⟨0,[1,3,4,5,8],[AA,FI,Ab,Dn,Ab],[Cj,.row 9 .str,YT]⟩,[(.ret,⟨0,[2],[Ab],[]⟩),(.exit 4,⟨0,[1,3,4],[AA,FI,Ab],[Cj,.row 9 .str]⟩)]⟩
def bJ{β:Type}(rec:tO β)(k1:tM β)(k2:tN β):tO β:=λi_ k_ c l x=>cond (decide (k_<(List.length x.2.2:Int))) (cond (decide (0<=k_)&&decide (k_<(List.length x.2.2:Int))) (let e:=List.getD x.2.2 (Int.toNat k_) 0;Ur (λXx=>Gq e 0 Xx (λD4=>cond (!D4) (k1 1) (let H0:=(IntKind.i64.wrap (k_+1));rec i_ H0 c l x)))) none) (k2 i_ c l x)
def UR(m:Nat){β:Type}(k1:tM β)(k2:tN β):tO β:=JB (λr=>bJ r k1 k2) none m
theorem Aik{β:Type}(i:Nat)(k1 k2):UR (β:=β) (i+1) k1 k2=bJ (UR i k1 k2) k1 k2:=rfl
def bK{β:Type}:=hid (UR (β:=β) fuel)
noncomputable def AxN:Pb:=⟨3322,Aii,λ_=>bK,pl (p:=Aii) bH [] (g:=λi _=>UR i)⟩
def bL{β:Type}(rec:tR β)(k1:tP β)(k2:tQ β):tR β:=λi_ k_ c l x=>cond (decide (k_<(List.length x.2.2:Int))) (cond (decide (0<=k_)&&decide (k_<(List.length x.2.2:Int))) (let e:=List.getD x.2.2 (Int.toNat k_) 0;cond (decide (0<=(IntKind.i64.wrap (k_-1)))&&decide ((IntKind.i64.wrap (k_-1))<(List.length x.2.2:Int))) (let e2:=List.getD x.2.2 (Int.toNat (IntKind.i64.wrap (k_-1))) 0;cond (decide (e<=e2)) (k1 6) (let H0:=(IntKind.i64.wrap (k_+1));rec i_ H0 c l x)) none) none) (k2 i_ c l)
def US(m:Nat){β:Type}(k1:tP β)(k2:tQ β):tR β:=JB (λr=>bL r k1 k2) none m
theorem Ail{β:Type}(i:Nat)(k1 k2):US (β:=β) (i+1) k1 k2=bL (US i k1 k2) k1 k2:=rfl
def bM{β:Type}:=hid (US (β:=β) fuel)
noncomputable def AxO:Pb:=⟨3326,Aij,λ_=>bM,pl (p:=Aij) bH [] (g:=λi _=>US i)⟩
def bN{β:Type}(rec:tL β)(k1:Aig β)(k2:Aih β):tL β:=λi_ c l=>cond (decide (i_<(List.length c.2.2.1:Int))) (cond (decide (0<=i_)&&decide (i_<(List.length c.2.2.1:Int))) (let e:=List.getD c.2.2.1 (Int.toNat i_) (([]:List UInt8),(0,([]:List Int)));let l2:=([e.1]:List AJ);cond (decide ((List.length l+List.length l2)*16<=Bl)) (let l3:=(l++l2);Nq l3 i_ (λEC=>cond (!decide (EC=0)) (k1 EC) (Gq e.2.1 0 (IntKind.i64.wrap ((List.length c.1:Int)-(1:Int))) (λD4=>cond (!D4) (k1 3) (cond (decide ((64:Int)<(List.length e.2.2:Int))) (k1 5) (bK (λt2=>k1 t2) (λBz c2 l4 x=>bM (λt2=>k1 t2) (λJr c3 l5=>let Xl:=(IntKind.i64.wrap (Jr+(1:Int)));rec Xl c3 l5) Bz 1 c2 l4 x) i_ 0 c l3 e)))))) none) none) (k2 ())
def UT(m:Nat){β:Type}(k1:Aig β)(k2:Aih β):tL β:=G8 (λr=>bN r k1 k2) none m
theorem Aim{β:Type}(i:Nat)(k1 k2):UT (β:=β) (i+1) k1 k2=bN (UT i k1 k2) k1 k2:=rfl
def tS{β:Type}:=hid (UT (β:=β) fuel)
noncomputable def AxP:Pb:=⟨58,bI,λ_=>tS,pl (p:=bI) bH [AxN,AxO] (g:=λi _=>UT i)⟩
def bO:AxM:=hid λc k=>tS (λt2=>k t2) (λ_=>k 0) 0 c ([]:List AJ)
noncomputable def AxQ:En:=⟨99,.spec (sg [ED] [] [Ab] [] bO),pf bH [AxP] [.tmp 2] Tryz.func99⟩
abbrev AxR:={β:Type}->As->(Int->Option β)->Option β
noncomputable def bP:List En:=[AvX,AvF,aO]
abbrev Ain(β:Type):=Int->Option β
abbrev Aio(β:Type):=Unit->Option β
abbrev tT(β:Type):=Int->As->E6->Option β
noncomputable def bQ:Pc:=⟨95,0,AL 58 (Ay Tryz.f100),⟨0,[1,3,4],[AA,FI,Ab],[Cj,.row 9 .str]⟩,[(.ret,⟨0,[2],[Ab],[]⟩),(.exit 0,⟨0,[],[],[]⟩)]⟩
abbrev tU(β:Type):=Int->Option β
abbrev tV(β:Type):=Int->As->E6->By->Option β
abbrev tW(β:Type):=Int->Int->As->E6->By->E6->Option β
noncomputable def Aip:Pc:=⟨95,0,AL 3322 (E5 bQ.c),⟨0,[1,3,4,5,7,8],[AA,FI,Ab,Dn,(false,[.rowh 3]),Ab],[Cj,.row 9 .str,Tu,.row 9 .str]⟩,[(.ret,⟨0,[2],[Ab],[]⟩),(.exit 2,⟨0,[1,3,4,5],[AA,FI,Ab,Dn],[Cj,.row 9 .str,Tu]⟩)]⟩
abbrev tX(β:Type):=Int->Option β
abbrev tY(β:Type):=Int->As->E6->Option β
abbrev tZ(β:Type):=Int->Int->As->E6->By->Option β
noncomputable def Aiq:Pc:=⟨95,0,AL 3326 (E5 bQ.c),⟨0,[1,3,4,5,11],[AA,FI,Ab,Dn,Ab],[Cj,.row 9 .str,Tu]⟩,[(.ret,⟨0,[2],[Ab],[]⟩),(.exit 4,⟨0,[1,3,4],[AA,FI,Ab],[Cj,.row 9 .str]⟩)]⟩
def bR{β:Type}(rec:tW β)(k1:tU β)(k2:tV β):tW β:=λi_ k_ c l s m=>cond (decide (k_<(List.length s.2.1:Int))) (cond (decide (0<=k_)&&decide (k_<(List.length s.2.1:Int))) (let e:=List.getD s.2.1 (Int.toNat k_) (([]:List UInt8),(0,((0,0),(0,(0,(([]:List Int),(([]:List BJ),(0,0))))))));let l2:=([e.1]:List AJ);cond (decide ((List.length m+List.length l2)*16<=Bl)) (let l3:=(m++l2);Nq l3 k_ (λEC=>cond (!decide (EC=0)) (k1 EC) (cond (decide (0<=k_)&&decide (k_<(List.length s.2.1:Int))) (let e2:=List.getD s.2.1 (Int.toNat k_) (([]:List UInt8),(0,((0,0),(0,(0,(([]:List Int),(([]:List BJ),(0,0))))))));ZQ c e2 (λrlayer=>cond (!decide (rlayer=0)) (k1 rlayer) (let H0:=(IntKind.i64.wrap (k_+1));rec i_ H0 c l s l3))) none))) none) none) (k2 i_ c l s)
def UU(m:Nat){β:Type}(k1:tU β)(k2:tV β):tW β:=T5 (λr=>bR r k1 k2) none m
theorem Air{β:Type}(i:Nat)(k1 k2):UU (β:=β) (i+1) k1 k2=bR (UU i k1 k2) k1 k2:=rfl
def bS{β:Type}:=hid (UU (β:=β) fuel)
noncomputable def AxS:Pb:=⟨3322,Aip,λ_=>bS,pl (p:=Aip) bP [] (g:=λi _=>UU i)⟩
def bT{β:Type}(rec:tZ β)(k1:tX β)(k2:tY β):tZ β:=λi_ k_ c l s=>cond (decide (k_<(List.length s.2.2:Int))) (cond (decide (0<=k_)&&decide (k_<(List.length s.2.2:Int))) (let e:=List.getD s.2.2 (Int.toNat k_) (0,(0,(0,(0,0))));ZR c e (λAp4=>cond (!decide (Ap4=0)) (k1 Ap4) (let H0:=(IntKind.i64.wrap (k_+1));rec i_ H0 c l s))) none) (k2 i_ c l)
def UV(m:Nat){β:Type}(k1:tX β)(k2:tY β):tZ β:=JB (λr=>bT r k1 k2) none m
theorem Ais{β:Type}(i:Nat)(k1 k2):UV (β:=β) (i+1) k1 k2=bT (UV i k1 k2) k1 k2:=rfl
def bU{β:Type}:=hid (UV (β:=β) fuel)
noncomputable def AxT:Pb:=⟨3326,Aiq,λ_=>bU,pl (p:=Aiq) bP [] (g:=λi _=>UV i)⟩
def bV{β:Type}(rec:tT β)(k1:Ain β)(k2:Aio β):tT β:=λi_ c l=>cond (decide (i_<(List.length c.2.2.2:Int))) (cond (decide (0<=i_)&&decide (i_<(List.length c.2.2.2:Int))) (let e:=List.getD c.2.2.2 (Int.toNat i_) (([]:List UInt8),(([]:List AU),([]:List BA)));let l2:=([e.1]:List AJ);cond (decide ((List.length l+List.length l2)*16<=Bl)) (let l3:=(l++l2);Nq l3 i_ (λEC=>cond (!decide (EC=0)) (k1 EC) (cond (decide ((6:Int)<(List.length e.2.1:Int))) (k1 5) (cond (decide ((48:Int)<(List.length e.2.2:Int))) (k1 5) (bS (λt2=>k1 t2) (λBz c2 l4 s=>bU (λt2=>k1 t2) (λJr c3 l5=>let Xl:=(IntKind.i64.wrap (Jr+(1:Int)));rec Xl c3 l5) Bz 0 c2 l4 s) i_ 0 c l3 e ([]:List AJ)))))) none) none) (k2 ())
def UW(m:Nat){β:Type}(k1:Ain β)(k2:Aio β):tT β:=G8 (λr=>bV r k1 k2) none m
theorem Ait{β:Type}(i:Nat)(k1 k2):UW (β:=β) (i+1) k1 k2=bV (UW i k1 k2) k1 k2:=rfl
def u6{β:Type}:=hid (UW (β:=β) fuel)
noncomputable def AxU:Pb:=⟨58,bQ,λ_=>u6,pl (p:=bQ) bP [AxS,AxT] (g:=λi _=>UW i)⟩
def bW:AxR:=hid λc k=>u6 (λt2=>k t2) (λ_=>k 0) 0 c ([]:List AJ)
noncomputable def AxV:En:=⟨100,.spec (sg [ED] [] [Ab] [] bW),pf bP [AxU] [.tmp 2] Tryz.func100⟩
abbrev AxW:={β:Type}->Int->(Bool->Option β)->Option β
def Rc:AxW:=hid λn k=>OP n (λjM AbB=>let t:=(decide (AbB=(0:Int)));k t)
noncomputable def u7:En:=⟨117,.spec (sg [Ab] [] [AS] [] Rc),pf [AhV] [] [.tmp 2] Tryz.func117⟩
abbrev AxX:={β:Type}->As->BA->(Int->Option β)->Option β
noncomputable def Rd:List En:=[u7,pN,TK]
abbrev AxY(β:Type):=Int->Option β
abbrev AxZ(β:Type):=Unit->Option β
abbrev Ay0(β:Type):=Bool->BA->Option β
noncomputable def Aiu:Pc:=⟨83,0,AL 14847 (Ay Tryz.f122),⟨0,[3,61],[AA,AS],[HZ]⟩,[(.ret,⟨0,[4],[Ab],[]⟩),(.normal,⟨0,[],[],[]⟩)]⟩
abbrev Ay1(β:Type):=Int->Option β
abbrev Ay2(β:Type):=Unit->Option β
abbrev Ay3(β:Type):=Bool->BA->Option β
noncomputable def Aiv:Pc:=⟨83,0,AL 3711 (Ay Tryz.f122),⟨0,[3,50],[AA,AS],[HZ]⟩,[(.ret,⟨0,[4],[Ab],[]⟩),(.normal,⟨0,[],[],[]⟩)]⟩
abbrev Ay4(β:Type):=Int->Option β
abbrev Ay5(β:Type):=Unit->Option β
abbrev Ay6(β:Type):=Bool->BA->Option β
noncomputable def Aiw:Pc:=⟨83,0,AL 927 (Ay Tryz.f122),⟨0,[3,41],[AA,AS],[HZ]⟩,[(.ret,⟨0,[4],[Ab],[]⟩),(.normal,⟨0,[],[],[]⟩)]⟩
abbrev Ay7(β:Type):=Int->Option β
abbrev Ay8(β:Type):=Unit->Option β
abbrev Ay9(β:Type):=Bool->BA->Option β
noncomputable def Aix:Pc:=⟨83,0,AL 231 (Ay Tryz.f122),⟨0,[3,14],[AA,AS],[HZ]⟩,[(.ret,⟨0,[4],[Ab],[]⟩),(.normal,⟨0,[],[],[]⟩)]⟩
abbrev Aya(β:Type):=Bool->BA->Option β
abbrev Ayb(β:Type):=Int->Bool->BA->Option β
noncomputable def Aiy:Pc:=⟨83,0,AL 461 (Ay Tryz.f122),⟨0,[3,5,14],[AA,Ab,AS],[HZ]⟩,[(.normal,⟨0,[3,14],[AA,AS],[HZ]⟩)]⟩
def uA{β:Type}(k1:AxY β)(k2:AxZ β):Ay0 β:=λFS x=>cond FS (k1 1) (let t:=(decide (x.2.2.2.2<=x.2.2.2.1));cond t (k1 6) (k2 ()))
def Re{β:Type}:=hid (uA (β:=β))
noncomputable def Ayc:Pb:=⟨14847,Aiu,λ_=>Re,pe (p:=Aiu) Rd [] 14847 (g:=λ_=>uA)⟩
def uB{β:Type}(k1:Ay1 β)(k2:Ay2 β):Ay3 β:=λjR x=>cond jR (k1 4) (cond (decide (x.2.2.2.1<(0:Int))) (Re (λt4=>k1 t4) (λ_=>k2 ()) true x) (cond (decide (x.2.2.2.2<(0:Int))) (Re (λt4=>k1 t4) (λ_=>k2 ()) true x) (Rc (IntKind.i64.wrap (Int.tdiv x.2.2.2.2 86400)) (λrday=>Re (λt4=>k1 t4) (λ_=>k2 ()) (!rday) x))))
def UX{β:Type}:=hid (uB (β:=β))
noncomputable def Ayd:Pb:=⟨3711,Aiv,λ_=>UX,pe (p:=Aiv) Rd [Ayc] 3711 (g:=λ_=>uB)⟩
def uC{β:Type}(k1:Ay4 β)(k2:Ay5 β):Ay6 β:=λK9 x=>cond K9 (k1 1) (cond (decide (x.1=(2:Int))) (let t:=(decide (x.2.1=x.2.2.1));UX (λt4=>k1 t4) (λ_=>k2 ()) t x) (UX (λt4=>k1 t4) (λ_=>k2 ()) false x))
def UY{β:Type}:=hid (uC (β:=β))
noncomputable def Aye:Pb:=⟨927,Aiw,λ_=>UY,pe (p:=Aiw) Rd [Ayd] 927 (g:=λ_=>uC)⟩
def uD{β:Type}(k1:Ay7 β)(k2:Ay8 β):Ay9 β:=λC9 x=>cond C9 (k1 3) (cond (!decide (x.1=(2:Int))) (let t:=(!decide (x.2.2.1=(0:Int)));UY (λt4=>k1 t4) (λ_=>k2 ()) t x) (UY (λt4=>k1 t4) (λ_=>k2 ()) false x))
def OS{β:Type}:=hid (uD (β:=β))
noncomputable def Ayf:Pb:=⟨231,Aix,λ_=>OS,pe (p:=Aix) Rd [Aye] 231 (g:=λ_=>uD)⟩
def uE{β:Type}(k1:Aya β):Ayb β:=λpeople C9 x=>cond C9 (k1 C9 x) (cond (decide (x.1=(2:Int))) (KZ x.2.2.1 people (λGv=>k1 (!Gv) x)) (k1 false x))
def Rf{β:Type}:=hid (uE (β:=β))
noncomputable def Ayg:Pb:=⟨461,Aiy,λ_=>Rf,pe (p:=Aiy) Rd [] 461 (g:=λ_=>uE)⟩
def bX:AxX:=hid λc x k=>LY x.1 0 2 (λD4=>cond (!D4) (k 1) (KZ x.2.1 (List.length c.2.1:Int) (λGv=>cond (!Gv) (cond (decide (x.1=(1:Int))) (let t:=(!(decide (x.2.1=(-1:Int))));Rf (λC9 x2=>OS (λt4=>k t4) (λ_=>k 0) C9 x2) (List.length c.2.1:Int) t x) (Rf (λC9 x2=>OS (λt4=>k t4) (λ_=>k 0) C9 x2) (List.length c.2.1:Int) true x)) (Rf (λC9 x2=>OS (λt4=>k t4) (λ_=>k 0) C9 x2) (List.length c.2.1:Int) false x))))
noncomputable def Ayh:En:=⟨122,.spec (sg [ED,Tt] [] [Ab] [] bX),pf Rd [Ayf,Ayg] [.tmp 4] Tryz.func122⟩
abbrev Ayi:={β:Type}->As->AJ->(Int->Bool->Option β)->Option β
def Rg:Ayi:=hid λc name k=>
 pT c.2.1 name (λL2 AKb=>
 let t:=(if L2>0 then L2 else 0);
 let t2:=(decide ((0:Int)<=L2));
 k t t2)
noncomputable def Aiz:En:=⟨141,.spec (sg [ED,BR] [] [Ab,AS] [] Rg),pf [AtY] [] [.tmp 4,.tmp 5] Tryz.func141⟩
abbrev Ayj:={β:Type}->BV->(AJ->Bool->Option β)->Option β
noncomputable def uF:List En:=[Axf,Axd,Ag8]
abbrev Ayk(β:Type):=AJ->Bool->Option β
abbrev Ayl(β:Type):=Bool->BV->Option β
noncomputable def AiA:Pc:=⟨95,0,AL 861 (Ay Tryz.f155),⟨0,[1,4],[AA,AS],[.cells 85 [.data FH]]⟩,[(.ret,⟨0,[2,3],[BR,AS],[]⟩)]⟩
abbrev AiB(β:Type):=AJ->Bool->Option β
abbrev Aym(β:Type):=Int->AJ->Option β
noncomputable def AiC:Pc:=⟨95,0,AL 27643 (Ay Tryz.f155),⟨0,[5,6],[Ab,BR],[]⟩,[(.ret,⟨0,[2,3],[BR,AS],[]⟩)]⟩
def uG{β:Type}(k1:Ayk β):Ayl β:=λok t=>OQ t.2.2 (!decide ((Int.tmod t.2.2 60)=0)) (λIj=>k1 Ij ok)
def bY{β:Type}:=hid (uG (β:=β))
noncomputable def Ayn:Pb:=⟨861,AiA,λ_=>bY,pe (p:=AiA) uF [] 861 (g:=λ_=>uG)⟩
def uH{β:Type}(k1:AiB β):Aym β:=λn sign=>OQ n false (λIj=>cond (decide (List.length sign+List.length Ij<=9223372036854775807)) (cond (decide ((0:Int)<=n)) (cond (decide (n<=64800)) (let t:=(decide ((Int.tmod n 60)=0));k1 (sign++Ij) t) (k1 (sign++Ij) false)) (k1 (sign++Ij) false)) none)
def UZ{β:Type}:=hid (uH (β:=β))
noncomputable def Ayo:Pb:=⟨27643,AiC,λ_=>UZ,pe (p:=AiC) uF [] 27643 (g:=λ_=>uH)⟩
def Ma:Ayj:=hid λt k=>let t2:=(decide (t.1=(1:Int)));cond t2 (Ua t.2.2 (λPQ=>cond (decide ((0:Int)<=t.2.2)) (let t3:=(decide (t.2.2<=(999999999:Int)));k PQ t3) (k PQ false))) (let t3:=(decide (t.1=(2:Int)));cond t3 (cond (decide ((0:Int)<=t.2.2)) (let ok:=(decide (t.2.2<=(86400:Int)));bY (λt22 PY=>k t22 PY) ok t) (bY (λt22 PY=>k t22 PY) false t)) (let t4:=(decide (t.1=(3:Int)));cond t4 (UH t.2.2 (λrdated rdated2=>k rdated rdated2)) (let t5:=(decide (t.1=(4:Int)));cond t5 (cond (decide (t.2.2<(0:Int))) (let n:=(IntKind.i64.wrap (0-t.2.2));UZ (λt22 PY=>k t22 PY) n ([45]:List UInt8)) (UZ (λt22 PY=>k t22 PY) t.2.2 ([43]:List UInt8))) (let t6:=(decide (t.1=(5:Int)));cond t6 (UH (IntKind.i64.wrap (Int.tdiv t.2.2 86400)) (λrdated rdated2=>cond (decide (List.length rdated+List.length ([84]:List UInt8)<=9223372036854775807)) (OQ (Int.tmod t.2.2 86400) true (λIj=>cond (decide (List.length (rdated++([84]:List UInt8))+List.length Ij<=9223372036854775807)) (cond (decide (List.length ((rdated++([84]:List UInt8))++Ij)+List.length ([90]:List UInt8)<=9223372036854775807)) (cond rdated2 (let t7:=(((rdated++([84]:List UInt8))++Ij)++([90]:List UInt8));let t8:=(decide ((0:Int)<=t.2.2));k t7 t8) (let t7:=(((rdated++([84]:List UInt8))++Ij)++([90]:List UInt8));k t7 false)) none) none)) none)) (k ([]:List UInt8) false)))))
noncomputable def Ayp:En:=⟨155,.spec (sg [IT] [] [BR,AS] [] Ma),pf uF [Ayn,Ayo] [.tmp 2,.tmp 3] Tryz.func155⟩
abbrev Ayq:={β:Type}->AJ->(Int->Bool->Option β)->Option β
noncomputable def AiD:List En:=[sR]
abbrev Ayr(β:Type):=Int->Bool->Option β
abbrev Ays(β:Type):=AJ->Int->Bool->Option β
noncomputable def AiE:Pc:=⟨32,0,AL 15 (Ay Tryz.f193),⟨0,[0,4,5],[BR,Ab,AS],[]⟩,[(.ret,⟨0,[2,3],[Ab,AS],[]⟩)]⟩
def bZ{β:Type}(k1:Ayr β):Ays β:=λs n ok=>cond ok (cond (decide ((List.length s:Int)=(6:Int))) (cond (decide ((-64800:Int)<=n)) (let t:=(decide (n<=64800));k1 n t) (k1 n false)) (k1 n false)) (k1 n false)
def Va{β:Type}:=hid (bZ (β:=β))
noncomputable def Ayt:Pb:=⟨15,AiE,λ_=>Va,pe (p:=AiE) AiD [] 15 (g:=λ_=>bZ)⟩
def Vb:Ayq:=hid λs k=>cond (decide (0<=(1:Int))&&(decide ((1:Int)<=(List.length s:Int))&&decide ((List.length s:Int)<=(List.length s:Int)))) (Lb (List.drop (Int.toNat 1) (List.take (Int.toNat (List.length s:Int)) s)) (λH4 NQ=>cond (decide (0<=(0:Int))&&decide ((0:Int)<(List.length s:Int))) (cond (decide (((List.getD s (Int.toNat 0) 0).toNat:Int)=(45:Int))) (let n:=(IntKind.i64.wrap (0-H4));Va (λt2 t3=>k t2 t3) s n NQ) (Va (λt2 t3=>k t2 t3) s H4 NQ)) none)) none
noncomputable def Ayu:En:=⟨193,.spec (sg [BR] [] [Ab,AS] [] Vb),pf AiD [Ayt] [.tmp 2,.tmp 3] Tryz.func193⟩
abbrev Ayv:={β:Type}->AJ->(Int->Bool->Option β)->Option β
def OU:Ayv:=hid λs k=>cond (!decide ((List.length s:Int)=(10:Int))) (k 0 false) (cond (decide (0<=(4:Int))&&decide ((4:Int)<(List.length s:Int))) (cond (!decide (((List.getD s (Int.toNat 4) 0).toNat:Int)=(45:Int))) (k 0 false) (cond (decide (0<=(7:Int))&&decide ((7:Int)<(List.length s:Int))) (cond (!decide (((List.getD s (Int.toNat 7) 0).toNat:Int)=(45:Int))) (k 0 false) (cond (decide (0<=(0:Int))&&(decide ((0:Int)<=(4:Int))&&decide ((4:Int)<=(List.length s:Int)))) (QY (List.drop (Int.toNat 0) (List.take (Int.toNat 4) s)) (λFy PU=>cond (decide (0<=(5:Int))&&(decide ((5:Int)<=(7:Int))&&decide ((7:Int)<=(List.length s:Int)))) (QZ (List.drop (Int.toNat 5) (List.take (Int.toNat 7) s)) (λrtwo rtwo2=>cond (decide (0<=(8:Int))&&(decide ((8:Int)<=(List.length s:Int))&&decide ((List.length s:Int)<=(List.length s:Int)))) (QZ (List.drop (Int.toNat 8) (List.take (Int.toNat (List.length s:Int)) s)) (λrtwo3 rtwo4=>OR (Fy,(rtwo,rtwo3)) (λPN AbC=>cond PU (cond rtwo2 (cond rtwo4 (let t:=(decide (AbC=(0:Int)));k PN t) (k PN false)) (k PN false)) (k PN false)))) none)) none)) none)) none)) none)
noncomputable def AiF:En:=⟨196,.spec (sg [BR] [] [Ab,AS] [] OU),pf [Axk,rS,Aha] [] [.tmp 2,.tmp 3] Tryz.func196⟩
abbrev Ayw:={β:Type}->Int->Int->Int->Int->(Int->Int->Option β)->Option β
noncomputable def uI:List En:=[Axp,s6,Aux]
abbrev uJ(β:Type):=Int->Int->Int->Int->Int->Option β
abbrev uK(β:Type):=Int->Int->Int->Int->Int->Int->Option β
noncomputable def AiG:Pc:=⟨63,0,AL 124 (Ay Tryz.f233),⟨0,[0,1,2,3,10,12],[Ab,Ab,Ab,Ab,Ab,Ab],[]⟩,[(.exit 0,⟨0,[0,1,2,10,12],[Ab,Ab,Ab,Ab,Ab],[]⟩)]⟩
abbrev uL(β:Type):=Int->Option β
abbrev uM(β:Type):=Int->Int->Int->Int->Option β
noncomputable def AiH:Pc:=⟨63,0,AL 508 (Ay Tryz.f233),⟨0,[0,1,10,12],[Ab,Ab,Ab,Ab],[]⟩,[(.exit 2,⟨0,[12],[Ab],[]⟩)]⟩
def cA{β:Type}(rec:uK β)(k1:uJ β):uK β:=λy Ch week L6 first day=>Z0 day (λPT=>cond (!decide (PT=L6)) (let day2:=(IntKind.i64.wrap (day+1));rec y Ch week L6 first day2) (k1 y Ch week first day))
def Vc(m:Nat){β:Type}(k1:uJ β):uK β:=T5 (λr=>cA r k1) none m
theorem AiI{β:Type}(i:Nat)(k1):Vc (β:=β) (i+1) k1=cA (Vc i k1) k1:=rfl
def uN{β:Type}:=hid (Vc (β:=β) fuel)
noncomputable def Ayx:Pb:=⟨124,AiG,λ_=>uN,pl (p:=AiG) uI [] (g:=λi _=>Vc i)⟩
def cB{β:Type}(rec:uM β)(k1:uL β):uM β:=λy Ch first day=>Hm y Ch (λJt=>cond (decide ((IntKind.i64.wrap (day+7))<(IntKind.i64.wrap (first+Jt)))) (let day2:=(IntKind.i64.wrap (day+7));rec y Ch first day2) (k1 day))
def Vd(m:Nat){β:Type}(k1:uL β):uM β:=DT (λr=>cB r k1) none m
theorem AiJ{β:Type}(i:Nat)(k1):Vd (β:=β) (i+1) k1=cB (Vd i k1) k1:=rfl
def uO{β:Type}:=hid (Vd (β:=β) fuel)
noncomputable def Ayy:Pb:=⟨508,AiH,λ_=>uO,pl (p:=AiH) uI [] (g:=λi _=>Vd i)⟩
def cC:Ayw:=hid λy Ch week L6 k=>aV (y,(Ch,1)) (λPN AbC=>cond (!decide (AbC=(0:Int))) (k 0 1) (cond (decide (week<1)) (k 0 1) (cond (decide ((5:Int)<week)) (k 0 1) (cond (decide (L6<0)) (k 0 1) (cond (decide ((6:Int)<L6)) (k 0 1) (uN (λy2 month2 week2 first day=>cond (decide (week2<(5:Int))) (let t:=(IntKind.i64.wrap (day+(IntKind.i64.wrap (7*(IntKind.i64.wrap (week2-(1:Int)))))));k t 0) (uO (λday2=>k day2 0) y2 month2 first day)) y Ch week L6 PN PN))))))
noncomputable def Ayz:En:=⟨233,.spec (sg [Ab,Ab,Ab,Ab] [] [Ab,Ab] [] cC),pf uI [Ayx,Ayy] [.tmp 8,.tmp 9] Tryz.func233⟩
abbrev AyA:={β:Type}->AD->AD->(Bool->Option β)->Option β
noncomputable def AiK:List En:=[Av4]
abbrev AiL(β:Type):=Bool->Option β
abbrev AiM(β:Type):=Unit->Option β
abbrev uP(β:Type):=AD->AD->Int->Int->Option β
noncomputable def AiN:Pc:=⟨32,0,AL 58 (Ay Tryz.f34),⟨0,[1,2,15,16,17],[KX,(false,[.fn 35 []]),KX,Ab,Ab],[]⟩,[(.ret,⟨0,[6],[AS],[]⟩),(.exit 0,⟨0,[],[],[]⟩)]⟩
def cD{β:Type}(rec:uP β)(k1:AiL β)(k2:AiM β):uP β:=λs2 Bc Dz BF=>cond (decide (BF<Dz)) (cond (decide (0<=BF)&&decide (BF<(List.length Bc:Int))) (let e:=List.getD Bc (Int.toNat BF) (([]:List UInt8),(0,(([]:List BJ),(0,(0,false)))));cond (decide (0<=BF)&&decide (BF<(List.length s2:Int))) (let e2:=List.getD s2 (Int.toNat BF) (([]:List UInt8),(0,(([]:List BJ),(0,(0,false)))));ZC e e2 (λrsamePerson=>cond (!rsamePerson) (k1 false) (rec s2 Bc Dz (IntKind.i64.wrap (BF+(1:Int)))))) none) none) (k2 ())
def Ve(m:Nat){β:Type}(k1:AiL β)(k2:AiM β):uP β:=DT (λr=>cD r k1 k2) none m
theorem AiO{β:Type}(i:Nat)(k1 k2):Ve (β:=β) (i+1) k1 k2=cD (Ve i k1 k2) k1 k2:=rfl
def uQ{β:Type}:=hid (Ve (β:=β) fuel)
noncomputable def AyB:Pb:=⟨58,AiN,λ_=>uQ,pl (p:=AiN) AiK [] (g:=λi _=>Ve i)⟩
def cE:AyA:=hid λs1 s2 k=>cond (!decide ((List.length s1:Int)=(List.length s2:Int))) (k false) (uQ (λt6=>k t6) (λ_=>k true) s2 s1 (List.length s1:Int) 0)
noncomputable def AyC:En:=⟨34,.spec (sg [KX,KX,(false,[.fn 35 []])] [] [AS] [] cE),pf AiK [AyB] [.tmp 6] Tryz.func34⟩
abbrev AyD:={β:Type}->De->(CN->Option β)->Option β
noncomputable def AiP:List En:=[AeT]
abbrev AiQ(β:Type):=CN->Option β
abbrev uR(β:Type):=De->Int->Int->CN->Option β
noncomputable def AiR:Pc:=⟨22,0,AL 58 (Ay Tryz.f73),⟨0,[1,5,8,9,10],[(false,[.fn 74 []]),CH,Hl,Ab,Ab],OA⟩,[(.exit 0,⟨0,[5],[CH],OA⟩)]⟩
def cF{β:Type}(rec:uR β)(k1:AiQ β):uR β:=λt8 t9 Fj out=>cond (decide (Fj<t9)) (cond (decide (0<=Fj)&&decide (Fj<(List.length t8:Int))) (let e:=List.getD t8 (Int.toNat Fj) 0;QP e (λrdate=>let l:=([rdate]:List BV);cond (decide ((List.length out+List.length l)*32<=Bl)) (let l2:=(out++l);rec t8 t9 (IntKind.i64.wrap (Fj+(1:Int))) l2) none)) none) (k1 out)
def Vf(m:Nat){β:Type}(k1:AiQ β):uR β:=DT (λr=>cF r k1) none m
theorem AiS{β:Type}(i:Nat)(k1):Vf (β:=β) (i+1) k1=cF (Vf i k1) k1:=rfl
def uS{β:Type}:=hid (Vf (β:=β) fuel)
noncomputable def AyE:Pb:=⟨58,AiR,λ_=>uS,pl (p:=AiR) AiP [] (g:=λi _=>Vf i)⟩
def Vg:AyD:=hid λl k=>uS (λout=>k out) l (List.length l:Int) 0 ([]:List BV)
noncomputable def AiT:En:=⟨73,.spec (sg [Hl,(false,[.fn 74 []])] [] [CH] OA Vg),pf AiP [AyE] [.tmp 4] Tryz.func73⟩
abbrev AyF:={β:Type}->Bh->AF->AD->AE->AI->Ca->(AF->AD->AE->AI->Ca->Option β)->Option β
def cG:AyF:=hid λc w w2 w3 w4 Am k=>FK c.1 (λDG=>OD c.2.1 w w2 w3 w4 Am (λrzone Si Sj Sk Sm Se=>let l:=([DG,rzone]:List BV);DU ([99,97,108,101,110,100,97,114]:List UInt8) l Si Sj Sk Sm Se (λGf Gg Gh Gi Ge=>cond (decide (List.length c.2.2<=140737488355328)) (cond (decide (0<List.length c.2.2)) (let part:=(List.take 32 (List.drop 0 c.2.2));Vg part (λAIj=>DU ([100,97,121,115]:List UInt8) AIj Gf Gg Gh Gi Ge (λE8 E9 EA EB E7=>cond (decide (List.length c.2.2<=140737488355328)) (cond (decide (32<List.length c.2.2)) (let part2:=(List.take 32 (List.drop 32 c.2.2));Vg part2 (λAIk=>DU ([100,97,121,115]:List UInt8) AIk E8 E9 EA EB E7 (λAKg AKd AKe AKf AK8=>none))) (k E8 E9 EA EB E7)) none))) (k Gf Gg Gh Gi Ge)) none)))
theorem AyG:SpecOkB Tryz.prog 25 (sg [AA,O7] Ep [] Ep cG):=Ar6 mixed (X:=⟨look tab,gam [AiT,IW,Nl,Zf,AeS],false,false,false,false,FJ,none,0,[]⟩) BC [AiT,IW,Nl,Zf,AeS] rfl 123 2 32 Ar8 Tryz.func25 (by kernel_rfl) λ_ _=>by kernel_rfl
noncomputable def AyH:En:=.handf AyG rfl (by kernel_rfl)
abbrev AyI:={β:Type}->CN->AF->AD->AE->AI->(Int->AF->AD->AE->AI->Option β)->Option β
noncomputable def cH:List En:=[TN,LX]
abbrev Ki(β:Type):=Bool->AF->AD->AE->AI->AJ->Int->Int->Int->Bool->BP->Option β
abbrev uT(β:Type):=CN->Bool->Int->AF->AD->AE->AI->AJ->Int->Int->Int->Bool->BP->Option β
noncomputable def AiU:Pc:=⟨76,5,AL 122 (Ay Tryz.f79),⟨5,[0,1,6,7,8],[AA,DS,AS,(false,[.ptr 5 0]),Ab],Aeu⟩,[(.exit 0,⟨5,[0,6,7],[AA,AS,(false,[.ptr 5 0])],Aeu⟩)]⟩
def AiV{β:Type}(rec:uT β)(k1:Ki β):uT β:=λl ok i_ Am AB AG Aq p_ M8 PL PM NO BG=>cond (decide (i_<(List.length l:Int))) (cond (decide (0<=i_)&&decide (i_<(List.length l:Int))) (let e:=List.getD l (Int.toNat i_) (0,(([]:List UInt8),0));let t:=(decide (e.2.1=([119,101,101,107]:List UInt8)));cond t (cond (decide (0<=(IntKind.i64.wrap (i_+1)))&&decide ((IntKind.i64.wrap (i_+1))<(List.length l:Int))) (let e2:=List.getD l (Int.toNat (IntKind.i64.wrap (i_+1))) (0,(([]:List UInt8),0));let Bz:=(IntKind.i64.wrap (i_+1));rec l ok Bz Am AB AG Aq p_ M8 (IntKind.i64.wrap (3600*e2.2.2)) PM NO BG) none) (let t2:=(decide (e.2.1=([114,101,115,116]:List UInt8)));cond t2 (cond (decide (0<=(IntKind.i64.wrap (i_+1)))&&decide ((IntKind.i64.wrap (i_+1))<(List.length l:Int))) (let e2:=List.getD l (Int.toNat (IntKind.i64.wrap (i_+1))) (0,(([]:List UInt8),0));let Bz:=(IntKind.i64.wrap (i_+1));rec l ok Bz Am AB AG Aq p_ M8 PL (IntKind.i64.wrap (3600*e2.2.2)) NO BG) none) (let t3:=(decide (e.2.1=([99,111,110,115,101,110,116]:List UInt8)));cond t3 (let Bz:=(IntKind.i64.wrap (i_+1));rec l ok Bz Am AB AG Aq p_ M8 PL PM true BG) (let Bz:=(IntKind.i64.wrap (i_+1));rec l ok Bz Am AB AG Aq p_ M8 PL PM NO BG)))) none) (k1 ok Am AB AG Aq p_ M8 PL PM NO BG)
def cI(m:Nat){β:Type}(k1:Ki β):uT β:=AeA (λr=>AiV r k1) none m
theorem AJK{β:Type}(i:Nat)(k1):cI (β:=β) (i+1) k1=AiV (cI i k1) k1:=rfl
def JD{β:Type}:=hid (cI (β:=β) fuel)
noncomputable def AyJ:Pb:=⟨122,AiU,λ_=>JD,HY mixed (X:=⟨look tab,gam cH,false,false,false,false,Dv,none,0,[]⟩) (p:=AiU) BC cH rfl [] (g:=λi _=>cI i) (by kernel_rfl) rfl (by kernel_rfl) (λ_ _=>rfl) λ_ _ _ _=>by kernel_rfl⟩
def Rh:AyI:=hid λl Am AB AG Aq k=>
 cond (decide (0<=(2:Int))&&decide ((2:Int)<(List.length l:Int)))
 (let e:=List.getD l (Int.toNat 2) (0,(([]:List UInt8),0));
 OG Am e.2.1 (λEY jG=>
 let t:=(if EY>0 then EY else 0);
 let t2:=(decide ((0:Int)<=EY));
 cond (decide (0<=(1:Int))&&decide ((1:Int)<(List.length l:Int)))
 (let e2:=List.getD l (Int.toNat 1) (0,(([]:List UInt8),0));
 JD (λok Bn Eu Bk AV p_ M8 PL PM NO BG=>
 IY ok (λEZ=>
 cond (!decide (EZ=0))
 (k EZ Bn Eu Bk AV)
 (let l2:=([(p_,(M8,(BG,(PL,(PM,NO)))))]:List Bb);
 cond (true&&decide ((List.length Eu+List.length l2)*72<=Bl))
 (let l3:=(Eu++l2);
 k 0 Bn l3 Bk AV)
 none))) l t2 3 Am AB AG Aq e2.2.1 t 0 0 false ([]:List BJ))
 none))
 none
theorem AyK:SpecOkB Tryz.prog 79 (sg [AA,DS] El [Ab] El Rh):=FG mixed (X:=⟨look tab,gam cH,false,false,false,false,Dv,none,0,[]⟩) BC cH rfl [AyJ] [.tmp 4] Tryz.func79 (by kernel_rfl) λ_ _=>by kernel_rfl
noncomputable def AyL:En:=.hand AyK rfl (by kernel_rfl)
abbrev AyM:={β:Type}->CN->AF->AD->AE->AI->(Int->AF->AD->AE->AI->Option β)->Option β
noncomputable def cJ:List En:=[Aiz,TP,LX,TQ]
abbrev uU(β:Type):=Int->AF->AD->AE->AI->Option β
abbrev uV(β:Type):=(Nat×Nat)->AF->AD->AE->AI->De->Option β
abbrev uW(β:Type):=(Nat×Nat)->CN->Int->Int->AF->AD->AE->AI->De->Option β
noncomputable def AiW:Pc:=⟨56,5,AL 250 (Ay Tryz.f85),⟨5,[0,5,7,21,22,23],[AA,(false,[.tptrh 4 [1] 0]),(false,[.rowh 5]),DS,Ab,Ab],Aex⟩,[(.ret,⟨5,[4],[Ab],El⟩),(.exit 0,⟨5,[5,7],[(false,[.tptrh 4 [1] 0]),(false,[.rowh 5])],Aex⟩)]⟩
def cK{β:Type}(rec:uW β)(k1:uU β)(k2:uV β):uW β:=λx t21 t22 E4 Am AB AG Aq all=>cond (decide (E4<t22)) (cond (decide (0<=E4)&&decide (E4<(List.length t21:Int))) (let e:=List.getD t21 (Int.toNat E4) (0,(([]:List UInt8),0));Rg (Am,(AB,(AG,Aq))) e.2.1 (λL2 jP=>IY jP (λEZ=>cond (!decide (EZ=0)) (k1 EZ Am AB AG Aq) (let l:=([L2]:List Int);cond (decide ((List.length all+List.length l)*8<=Bl)) (let l2:=(all++l);rec (x.1,x.2) t21 t22 (IntKind.i64.wrap (E4+(1:Int))) Am AB AG Aq l2) none)))) none) (k2 (x.1,x.2) Am AB AG Aq all)
def Vh(m:Nat){β:Type}(k1:uU β)(k2:uV β):uW β:=QL (λr=>cK r k1 k2) none m
theorem AiX{β:Type}(i:Nat)(k1 k2):Vh (β:=β) (i+1) k1 k2=cK (Vh i k1 k2) k1 k2:=rfl
def cL{β:Type}:=hid (Vh (β:=β) fuel)
noncomputable def AyN:Pb:=⟨250,AiW,λ_=>cL,HY mixed (X:=⟨look tab,gam cJ,false,false,false,false,Dv,none,0,[]⟩) (p:=AiW) BC cJ rfl [] (g:=λi _=>Vh i) (by kernel_rfl) rfl (by kernel_rfl) (λ_ _=>rfl) λ_ _ _ _=>by kernel_rfl⟩
def Vi:AyM:=hid λl Am AB AG Aq k=>cond (decide ((List.length Aq:Int)=(0:Int))) (k 9 Am AB AG Aq) (let i_:=(IntKind.i64.wrap ((List.length Aq:Int)-(1:Int)));cond (decide (0<=i_)&&decide (i_<(List.length Aq:Int))) (let e:=List.getD Aq (Int.toNat i_) (([]:List UInt8),(([]:List AU),([]:List BA)));let l2:=((List.getD Aq (Int.toNat i_) (([]:List UInt8),(([]:List AU),([]:List BA)))).2).1;cond (decide ((List.length l2:Int)=(0:Int))) (k 9 Am AB AG Aq) (let l3:=((List.getD Aq (Int.toNat i_) (([]:List UInt8),(([]:List AU),([]:List BA)))).2).1;let l4:=((List.getD Aq (Int.toNat i_) (([]:List UInt8),(([]:List AU),([]:List BA)))).2).1;let Bz:=(IntKind.i64.wrap ((List.length l3:Int)-(1:Int)));cond (decide (0<=Bz)&&decide (Bz<(List.length l4:Int))) (let j:=Int.toNat Bz;cond (decide (0<=(1:Int))&&(decide ((1:Int)<=(List.length l:Int))&&decide ((List.length l:Int)<=(List.length l:Int)))) (cL (λt4 Bn Eu Bk AV=>k t4 Bn Eu Bk AV) (λx Bn Eu Bk AV all=>let l5:=((List.getD AV x.1 JA).2).1;let e2:=List.getD l5 x.2 G6;let l6:=((((((List.getD (((List.getD AV x.1 JA).2).1) x.2 G6).2).2).2).2).2).1;cond (true&&decide ((List.length l6+List.length all)*8<=Bl)) (let l7:=(l6++all);let e3:=List.getD AV x.1 JA;let e4:=List.getD e3.2.1 x.2 G6;let l8:=List.set e3.2.1 x.2 (e4.1,(e4.2.1,(e4.2.2.1,(e4.2.2.2.1,(e4.2.2.2.2.1,(l7,e4.2.2.2.2.2.2))))));let l9:=List.set AV x.1 (e3.1,(l8,e3.2.2));cond (decide (x.1=x.1)&&(true&&(decide (x.2=x.2)&&(true&&true)))) (k 0 Bn Eu Bk l9) none) none) ((Int.toNat i_),j) (List.drop (Int.toNat 1) (List.take (Int.toNat (List.length l:Int)) l)) (List.length (List.drop (Int.toNat 1) (List.take (Int.toNat (List.length l:Int)) l)):Int) 0 Am AB AG Aq ([]:List Int)) none) none)) none)
theorem AyO:SpecOkB Tryz.prog 85 (sg [AA,DS] El [Ab] El Vi):=FG mixed (X:=⟨look tab,gam cJ,false,false,false,false,Dv,none,0,[]⟩) BC cJ rfl [AyN] [.tmp 4] Tryz.func85 (by kernel_rfl) λ_ _=>by kernel_rfl
noncomputable def AyP:En:=.hand AyO rfl (by kernel_rfl)
abbrev AyQ:={β:Type}->CN->AF->AD->AE->AI->(Int->AF->AD->AE->AI->Option β)->Option β
def OV:AyQ:=hid λl Am AB AG Aq k=>
 cond (decide ((List.length Aq:Int)=(0:Int)))
 (k 9 Am AB AG Aq)
 (let i_:=(IntKind.i64.wrap ((List.length Aq:Int)-(1:Int)));
 cond (decide (0<=i_)&&decide (i_<(List.length Aq:Int)))
 (let e:=List.getD Aq (Int.toNat i_) (([]:List UInt8),(([]:List AU),([]:List BA)));
 let l2:=((List.getD Aq (Int.toNat i_) (([]:List UInt8),(([]:List AU),([]:List BA)))).2).1;
 cond (decide ((List.length l2:Int)=(0:Int)))
 (k 9 Am AB AG Aq)
 (let l3:=((List.getD Aq (Int.toNat i_) (([]:List UInt8),(([]:List AU),([]:List BA)))).2).1;
 let l4:=((List.getD Aq (Int.toNat i_) (([]:List UInt8),(([]:List AU),([]:List BA)))).2).1;
 let Bz:=(IntKind.i64.wrap ((List.length l3:Int)-(1:Int)));
 cond (decide (0<=Bz)&&decide (Bz<(List.length l4:Int)))
 (let j:=Int.toNat Bz;
 let l5:=((List.getD Aq (Int.toNat i_) (([]:List UInt8),(([]:List AU),([]:List BA)))).2).1;
 let e2:=List.getD l5 j G6;
 cond (!decide (e2.2.2.2.2.2.2.2.2=(0:Int)))
 (k 9 Am AB AG Aq)
 (cond (decide (0<=(1:Int))&&decide ((1:Int)<(List.length l:Int)))
 (let e3:=List.getD l (Int.toNat 1) (0,(([]:List UInt8),0));
 TS AG e3.2.1 (λNP Abt=>
 let t:=(if NP>0 then NP else 0);
 let t2:=(decide ((0:Int)<=NP));
 IY t2 (λEZ=>
 cond (!decide (EZ=0))
 (k EZ Am AB AG Aq)
 (let l6:=((List.getD Aq (Int.toNat i_) (([]:List UInt8),(([]:List AU),([]:List BA)))).2).1;
 let e4:=List.getD l6 j G6;
 let l7:=List.set l6 j (e4.1,(e4.2.1,(e4.2.2.1,(e4.2.2.2.1,(e4.2.2.2.2.1,(e4.2.2.2.2.2.1,(e4.2.2.2.2.2.2.1,(t,e4.2.2.2.2.2.2.2.2))))))));
 let e5:=List.getD Aq (Int.toNat i_) (([]:List UInt8),(([]:List AU),([]:List BA)));
 let l8:=List.set Aq (Int.toNat i_) (e5.1,(l7,e5.2.2));
 let l9:=((List.getD l8 (Int.toNat i_) (([]:List UInt8),(([]:List AU),([]:List BA)))).2).1;
 let e6:=List.getD l9 j G6;
 let l10:=List.set l9 j (e6.1,(e6.2.1,(e6.2.2.1,(e6.2.2.2.1,(e6.2.2.2.2.1,(e6.2.2.2.2.2.1,(e6.2.2.2.2.2.2.1,(e6.2.2.2.2.2.2.2.1,1))))))));
 let e7:=List.getD l8 (Int.toNat i_) (([]:List UInt8),(([]:List AU),([]:List BA)));
 let l11:=List.set l8 (Int.toNat i_) (e7.1,(l10,e7.2.2));
 cond (decide (0<=(0:Int))&&decide ((0:Int)<(List.length l:Int)))
 (let e8:=List.getD l (Int.toNat 0) (0,(([]:List UInt8),0));
 cond (decide (e8.2.1=([111,110,108,121]:List UInt8)))
 (let l12:=((List.getD l11 (Int.toNat i_) (([]:List UInt8),(([]:List AU),([]:List BA)))).2).1;
 let e9:=List.getD l12 j G6;
 let l13:=List.set l12 j (e9.1,(e9.2.1,(e9.2.2.1,(e9.2.2.2.1,(e9.2.2.2.2.1,(e9.2.2.2.2.2.1,(e9.2.2.2.2.2.2.1,(e9.2.2.2.2.2.2.2.1,2))))))));
 let e10:=List.getD l11 (Int.toNat i_) (([]:List UInt8),(([]:List AU),([]:List BA)));
 let l14:=List.set l11 (Int.toNat i_) (e10.1,(l13,e10.2.2));
 k 0 Am AB AG l14)
 (k 0 Am AB AG l11))
 none))))
 none))
 none))
 none)
theorem AyR:SpecOkB Tryz.prog 87 (sg [AA,DS] El [Ab] El OV):=FG mixed (X:=⟨look tab,gam [AfN,TP,LX,TQ],false,false,false,false,Dv,none,0,[]⟩) BC [AfN,TP,LX,TQ] rfl [] [.tmp 4] Tryz.func87 (by kernel_rfl) λ_ _=>by kernel_rfl
noncomputable def AyS:En:=.hand AyR rfl (by kernel_rfl)
abbrev AyT:={β:Type}->CN->AF->AD->AE->AI->(Int->AF->AD->AE->AI->Option β)->Option β
noncomputable def Ri:List En:=[Aiz,LX,TO,pE,Zq]
abbrev cM(β:Type):=Int->AF->AD->AE->AI->Option β
abbrev cN(β:Type):=Nat->AF->AD->AE->AI->BA->De->Option β
abbrev uX(β:Type):=Nat->CN->Int->Int->AF->AD->AE->AI->BA->De->Option β
noncomputable def uY:Pc:=⟨106,5,AL 2042 (Ay Tryz.f88),⟨5,[0,5,7,9,53,54,55],[AA,(false,[.tptrh 4 [] 0]),(false,[.ptr 5 0]),(false,[.rowh 6]),DS,Ab,Ab],YW⟩,[(.ret,⟨5,[4],[Ab],El⟩),(.exit 0,⟨5,[5,7,9],[(false,[.tptrh 4 [] 0]),(false,[.ptr 5 0]),(false,[.rowh 6])],YW⟩)]⟩
abbrev AiY(β:Type):=Int->AF->AD->AE->AI->Option β
abbrev AiZ(β:Type):=Nat->CN->Int->Int->AF->AD->AE->AI->BA->De->Option β
abbrev AyU(β:Type):=Nat->Int->Int->Bool->CN->Int->Int->AF->AD->AE->AI->BA->De->Option β
noncomputable def Aj0:Pc:=⟨106,5,AL 231 (E5 uY.c),⟨5,[0,5,7,9,10,12,13,53,54,55],[AA,(false,[.tptrh 4 [] 0]),(false,[.ptr 5 0]),(false,[.rowh 6]),Ab,Ab,AS,DS,Ab,Ab],YW⟩,[(.ret,⟨5,[4],[Ab],El⟩),(.normal,⟨5,[0,5,7,9,53,54,55],[AA,(false,[.tptrh 4 [] 0]),(false,[.ptr 5 0]),(false,[.rowh 6]),DS,Ab,Ab],YW⟩)]⟩
def uZ{β:Type}(k1:AiY β)(k2:AiZ β):AyU β:=λs i_ p_ ok t53 Sq JW Am AB AG Aq x people=>IY ok (λEZ=>cond (!decide (EZ=0)) (k1 EZ Am AB AG Aq) (cond (decide (0<=i_)&&decide (i_<(List.length people:Int))) (let l:=(List.set people (Int.toNat i_) p_);k2 s t53 Sq JW Am AB AG Aq x l) none))
def Rj{β:Type}:=hid (uZ (β:=β))
noncomputable def AyV:Pb:=⟨231,Aj0,λ_=>Rj,O1 mixed (X:=⟨look tab,gam Ri,false,false,false,false,Dv,none,0,[]⟩) (p:=Aj0) BC Ri rfl [] 231 (g:=λ_=>uZ) (by kernel_rfl) λ_ _=>by kernel_rfl⟩
def cO{β:Type}(rec:uX β)(k1:cM β)(k2:cN β):uX β:=λs t53 Sq JW Am AB AG Aq x people=>cond (decide (JW<Sq)) (cond (decide (0<=JW)&&decide (JW<(List.length t53:Int))) (let e:=List.getD t53 (Int.toNat JW) (0,(([]:List UInt8),0));Rg (Am,(AB,(AG,Aq))) e.2.1 (λL2 jP=>cond (decide (x.1=(1:Int))) (cond (decide (e.2.1=([110,111,98,111,100,121]:List UInt8))) (Rj (λt4 Bn Eu Bk AV=>k1 t4 Bn Eu Bk AV) (λs2 XD XE XF Bn Eu Bk AV x2 people2=>rec s2 XD XE (IntKind.i64.wrap (XF+(1:Int))) Bn Eu Bk AV x2 people2) s JW (-1) true t53 Sq JW Am AB AG Aq x people) (Rj (λt4 Bn Eu Bk AV=>k1 t4 Bn Eu Bk AV) (λs2 XD XE XF Bn Eu Bk AV x2 people2=>rec s2 XD XE (IntKind.i64.wrap (XF+(1:Int))) Bn Eu Bk AV x2 people2) s JW L2 jP t53 Sq JW Am AB AG Aq x people)) (Rj (λt4 Bn Eu Bk AV=>k1 t4 Bn Eu Bk AV) (λs2 XD XE XF Bn Eu Bk AV x2 people2=>rec s2 XD XE (IntKind.i64.wrap (XF+(1:Int))) Bn Eu Bk AV x2 people2) s JW L2 jP t53 Sq JW Am AB AG Aq x people))) none) (k2 s Am AB AG Aq x people)
def Mb(m:Nat){β:Type}(k1:cM β)(k2:cN β):uX β:=OB (λr=>cO r k1 k2) none m
theorem Aj1{β:Type}(i:Nat)(k1 k2):Mb (β:=β) (i+1) k1 k2=cO (Mb i k1 k2) k1 k2:=rfl
def cP{β:Type}:=hid (Mb (β:=β) fuel)
noncomputable def AyW:Pb:=⟨2042,uY,λ_=>cP,HY mixed (X:=⟨look tab,gam Ri,false,false,false,false,Dv,none,0,[]⟩) (p:=uY) BC Ri rfl [AyV] (g:=λi _=>Mb i) (by kernel_rfl) rfl (by kernel_rfl) (λ_ _=>rfl) λ_ _ _ _=>by kernel_rfl⟩
def Mc:AyT:=hid λl Am AB AG Aq k=>cond (decide ((List.length Aq:Int)=(0:Int))) (k 9 Am AB AG Aq) (let i_:=(IntKind.i64.wrap ((List.length Aq:Int)-(1:Int)));cond (decide (0<=i_)&&decide (i_<(List.length Aq:Int))) (let l2:=([([108,101,97,118,101]:List UInt8),([111,118,101,114,114,105,100,101]:List UInt8),([115,119,97,112]:List UInt8)]:List AJ);cond (decide (0<=(0:Int))&&decide ((0:Int)<(List.length l:Int))) (let e:=List.getD l (Int.toNat 0) (0,(([]:List UInt8),0));Nj l2 e.2.1 (λPO=>cond (decide (0<=(IntKind.i64.wrap ((List.length l:Int)-(2:Int))))&&decide ((IntKind.i64.wrap ((List.length l:Int)-(2:Int)))<(List.length l:Int))) (let e2:=List.getD l (Int.toNat (IntKind.i64.wrap ((List.length l:Int)-(2:Int)))) (0,(([]:List UInt8),0));cond (decide (0<=(IntKind.i64.wrap ((List.length l:Int)-(1:Int))))&&decide ((IntKind.i64.wrap ((List.length l:Int)-(1:Int)))<(List.length l:Int))) (let e3:=List.getD l (Int.toNat (IntKind.i64.wrap ((List.length l:Int)-(1:Int)))) (0,(([]:List UInt8),0));let l3:=([0,0]:List Int);cond (decide (0<=(1:Int))&&(decide ((1:Int)<=(IntKind.i64.wrap ((List.length l:Int)-(2:Int))))&&decide ((IntKind.i64.wrap ((List.length l:Int)-(2:Int)))<=(List.length l:Int)))) (cP (λt4 Bn Eu Bk AV=>k t4 Bn Eu Bk AV) (λs Bn Eu Bk AV x people=>cond (decide (0<=(0:Int))&&decide ((0:Int)<(List.length people:Int))) (cond (decide (0<=(1:Int))&&decide ((1:Int)<(List.length people:Int))) (let e4:=List.getD AV s JA;let l4:=([(x.1,((List.getD people (Int.toNat 0) 0),((List.getD people (Int.toNat 1) 0),x.2.2.2)))]:List BA);let l5:=((List.getD AV s JA).2).2;cond (true&&decide ((List.length l5+List.length l4)*40<=Bl)) (let l6:=(l5++l4);let e5:=List.getD AV s JA;let l7:=List.set AV s (e5.1,(e5.2.1,l6));cond (decide (s=s)&&(true&&true)) (k 0 Bn Eu Bk l7) none) none) none) none) (Int.toNat i_) (List.drop (Int.toNat 1) (List.take (Int.toNat (IntKind.i64.wrap ((List.length l:Int)-(2:Int)))) l)) (List.length (List.drop (Int.toNat 1) (List.take (Int.toNat (IntKind.i64.wrap ((List.length l:Int)-(2:Int)))) l)):Int) 0 Am AB AG Aq (PO,(0,(0,(e2.2.2,e3.2.2)))) l3) none) none) none)) none) none)
theorem AyX:SpecOkB Tryz.prog 88 (sg [AA,DS] El [Ab] El Mc):=FG mixed (X:=⟨look tab,gam Ri,false,false,false,false,Dv,none,0,[]⟩) BC Ri rfl [AyW] [.tmp 4] Tryz.func88 (by kernel_rfl) λ_ _=>by kernel_rfl
noncomputable def AyY:En:=.hand AyX rfl (by kernel_rfl)
abbrev AyZ:={β:Type}->BV->(AJ->Int->Option β)->Option β
def OW:AyZ:=hid λt k=>cond (decide (t.1=(0:Int))) (La t.2.1 (λPR=>cond (!PR) (k ([]:List UInt8) 8) (cond (!decide (t.2.2=(0:Int))) (k ([]:List UInt8) 8) (k t.2.1 0)))) (Ma t (λrtext rtext2=>cond (!rtext2) (k ([]:List UInt8) 8) (cond (!decide (t.2.1=([]:List UInt8))) (k ([]:List UInt8) 8) (k rtext 0))))
noncomputable def Az0:En:=⟨101,.spec (sg [IT] [] [BR,Ab] [] OW),pf [rA,Ayp] [] [.tmp 2,.tmp 3] Tryz.func101⟩
abbrev Az1:={β:Type}->Int->(Bool->Option β)->Option β
def v6:Az1:=hid λn k=>Rc n (λrday=>k (!rday))
noncomputable def Az2:En:=⟨116,.spec (sg [Ab] [] [AS] [] v6),pf [u7] [] [.tmp 2] Tryz.func116⟩
abbrev Az3:={β:Type}->AJ->(Int->Bool->Option β)->Option β
def Rk:Az3:=hid λs k=>cond (!decide ((List.length s:Int)=(20:Int))) (k 0 false) (cond (decide (0<=(10:Int))&&decide ((10:Int)<(List.length s:Int))) (cond (!decide (((List.getD s (Int.toNat 10) 0).toNat:Int)=(84:Int))) (k 0 false) (cond (decide (0<=(19:Int))&&decide ((19:Int)<(List.length s:Int))) (cond (!decide (((List.getD s (Int.toNat 19) 0).toNat:Int)=(90:Int))) (k 0 false) (cond (decide (0<=(0:Int))&&(decide ((0:Int)<=(10:Int))&&decide ((10:Int)<=(List.length s:Int)))) (OU (List.drop (Int.toNat 0) (List.take (Int.toNat 10) s)) (λrdate rdate2=>cond (decide (0<=(11:Int))&&(decide ((11:Int)<=(19:Int))&&decide ((19:Int)<=(List.length s:Int)))) (Lb (List.drop (Int.toNat 11) (List.take (Int.toNat 19) s)) (λH4 NQ=>cond rdate2 (cond NQ (let t:=(IntKind.i64.wrap ((IntKind.i64.wrap (rdate*86400))+H4));let t2:=(decide (H4<86400));k t t2) (let t:=(IntKind.i64.wrap ((IntKind.i64.wrap (rdate*86400))+H4));k t false)) (let t:=(IntKind.i64.wrap ((IntKind.i64.wrap (rdate*86400))+H4));k t false))) none)) none)) none)) none)
noncomputable def Az4:En:=⟨195,.spec (sg [BR] [] [Ab,AS] [] Rk),pf [sR,AiF] [] [.tmp 2,.tmp 3] Tryz.func195⟩
abbrev Az5:={β:Type}->G7->(BP->Option β)->Option β
noncomputable def cQ:List En:=[Ayz]
abbrev Aj2(β:Type):=BP->Option β
abbrev v7(β:Type):=G7->Int->BP->Option β
noncomputable def v8:Pc:=⟨98,0,AL 58 (Ay Tryz.f213),⟨0,[0,3,4],[GP,CH,Ab],Tz⟩,[(.exit 0,⟨0,[3],[CH],Tz⟩)]⟩
abbrev vA(β:Type):=G7->Int->BP->Option β
abbrev vB(β:Type):=G7->Int->Int->BP->Option β
noncomputable def vC:Pc:=⟨98,0,AL 50 (E5 v8.c),⟨0,[0,3,4,5],[GP,CH,Ab,Ab],Tz⟩,[(.exit 2,⟨0,[0,3,4],[GP,CH,Ab],Tz⟩)]⟩
abbrev vD(β:Type):=G7->Int->Int->Int->BP->BJ->Option β
abbrev vE(β:Type):=G7->Int->Int->Int->BP->BJ->Option β
noncomputable def Aj3:Pc:=⟨98,0,AL 412 (E5 vC.c),⟨0,[0,3,4,5,8,9],[GP,CH,Ab,Ab,Ck,Ab],Aew⟩,[(.exit 4,⟨0,[0,3,4,5,8,9],[GP,CH,Ab,Ab,Ck,Ab],Aew⟩)]⟩
def cR{β:Type}(rec:vE β)(k1:vD β):vE β:=λl i_ y k_ out x=>cond (decide ((0:Int)<k_)) (cond (decide (0<=(IntKind.i64.wrap (k_-1)))&&decide ((IntKind.i64.wrap (k_-1))<(List.length out:Int))) (cond (decide (x.1<((List.getD out (Int.toNat (IntKind.i64.wrap (k_-1))) (0,0)).1))) (let H0:=(IntKind.i64.wrap (k_-1));rec l i_ y H0 out x) (k1 l i_ y k_ out x)) none) (k1 l i_ y k_ out x)
def Vj(m:Nat){β:Type}(k1:vD β):vE β:=T5 (λr=>cR r k1) none m
theorem Aj4{β:Type}(i:Nat)(k1):Vj (β:=β) (i+1) k1=cR (Vj i k1) k1:=rfl
def vF{β:Type}:=hid (Vj (β:=β) fuel)
noncomputable def Az6:Pb:=⟨412,Aj3,λ_=>vF,pl (p:=Aj3) cQ [] (g:=λi _=>Vj i)⟩
def cS{β:Type}(rec:vB β)(k1:vA β):vB β:=λl i_ y out=>cond (decide (0<=i_)&&decide (i_<(List.length l:Int))) (let e:=List.getD l (Int.toNat i_) (0,(0,(0,(0,(0,(0,0))))));cond (decide (y<=e.2.1)) (cond (decide (0<=i_)&&decide (i_<(List.length l:Int))) (let e2:=List.getD l (Int.toNat i_) (0,(0,(0,(0,(0,(0,0))))));cond (decide (0<=i_)&&decide (i_<(List.length l:Int))) (let e3:=List.getD l (Int.toNat i_) (0,(0,(0,(0,(0,(0,0))))));cond (decide (0<=i_)&&decide (i_<(List.length l:Int))) (let e4:=List.getD l (Int.toNat i_) (0,(0,(0,(0,(0,(0,0))))));cC y e2.2.2.1 e3.2.2.2.1 e4.2.2.2.2.1 (λAbG AJg=>cond (decide (0<=i_)&&decide (i_<(List.length l:Int))) (let e5:=List.getD l (Int.toNat i_) (0,(0,(0,(0,(0,(0,0))))));cond (decide (0<=i_)&&decide (i_<(List.length l:Int))) (let e6:=List.getD l (Int.toNat i_) (0,(0,(0,(0,(0,(0,0))))));vF (λl2 Bz y2 k_ out2 x=>let l3:=([x]:List BJ);cond (decide ((List.length out2+List.length l3)*16<=Bl)) (let l4:=(out2++l3);cond (decide (0<=(IntKind.i64.wrap (k_+1)))&&(decide ((IntKind.i64.wrap (k_+1))<=(List.length l4:Int))&&decide ((List.length l4:Int)<=(List.length l4:Int)))) (cond (decide (0<=k_)&&(decide (k_<=(List.length l4:Int))&&decide ((List.length l4:Int)<=(List.length l4:Int)))) (let l5:=(List.take (Int.toNat (IntKind.i64.wrap (k_+1))) l4++(List.take ((List.length l4)-(Int.toNat (IntKind.i64.wrap (k_+1)))) (List.drop (Int.toNat k_) (List.take (List.length l4) l4))++List.drop ((Int.toNat (IntKind.i64.wrap (k_+1)))+(Nat.min (List.length (List.drop (Int.toNat k_) (List.take (List.length l4) l4))) ((List.length l4)-(Int.toNat (IntKind.i64.wrap (k_+1)))))) l4));cond (decide (0<=k_)&&decide (k_<(List.length l5:Int))) (let l6:=(List.set l5 (Int.toNat k_) x);let y3:=(IntKind.i64.wrap (y2+(1:Int)));rec l2 Bz y3 l6) none) none) none) none) l i_ y (List.length out:Int) out ((IntKind.i64.wrap ((IntKind.i64.wrap (AbG*86400))+e5.2.2.2.2.2.1)),e6.2.2.2.2.2.2)) none) none)) none) none) none) (k1 l i_ out)) none
def Vk(m:Nat){β:Type}(k1:vA β):vB β:=DT (λr=>cS r k1) none m
theorem Aj5{β:Type}(i:Nat)(k1):Vk (β:=β) (i+1) k1=cS (Vk i k1) k1:=rfl
def vG{β:Type}:=hid (Vk (β:=β) fuel)
noncomputable def Az7:Pb:=⟨50,vC,λ_=>vG,pl (p:=vC) cQ [Az6] (g:=λi _=>Vk i)⟩
def cT{β:Type}(rec:v7 β)(k1:Aj2 β):v7 β:=λl i_ out=>cond (decide (i_<(List.length l:Int))) (cond (decide (0<=i_)&&decide (i_<(List.length l:Int))) (let e:=List.getD l (Int.toNat i_) (0,(0,(0,(0,(0,(0,0))))));vG (λl2 Bz out2=>let Jr:=(IntKind.i64.wrap (Bz+(1:Int)));rec l2 Jr out2) l i_ e.1 out) none) (k1 out)
def Vl(m:Nat){β:Type}(k1:Aj2 β):v7 β:=G8 (λr=>cT r k1) none m
theorem Aj6{β:Type}(i:Nat)(k1):Vl (β:=β) (i+1) k1=cT (Vl i k1) k1:=rfl
def vH{β:Type}:=hid (Vl (β:=β) fuel)
noncomputable def Az8:Pb:=⟨58,v8,λ_=>vH,pl (p:=v8) cQ [Az7] (g:=λi _=>Vl i)⟩
def cU:Az5:=hid λl k=>vH (λout=>k out) l 0 ([]:List BJ)
noncomputable def Az9:En:=⟨213,.spec (sg [GP] [] [CH] Tz cU),pf cQ [Az8] [.tmp 2] Tryz.func213⟩
def Aza:Shelf.Ren:=
   {
   f:=λx=>
    match x with
    |20=>258
    |n=>n,
   t:=λx=>
    match x with
    |24=>257
    |22=>253
    |3=>3
    |25=>288
    |4=>4
    |0=>0
    |n=>n,
   g:=λx=>x}
theorem Azb:Go.Proofs.SlLaysF0.n20 Tryz.prog Aza:=
 {
  mixed:=by kernel_rfl,
  f20:=Exists.intro "slices.insertionSortCmpFunc[pagewatch/zone.occurrence]" ⟨Bv (by kernel_rfl),Eq.trans Tryz.func258 (Ax some (by kernel_rfl))⟩,
  t0:=Tryz.underlying0,
  a0:=Tryz.isAgg0,
  z0:=Tryz.sizeOf0,
  v0:=Tryz.zeroValue0,
  t3:=Tryz.underlying3,
  a3:=Tryz.isAgg3,
  z3:=Tryz.sizeOf3,
  v3:=Tryz.zeroValue3,
  t4:=Tryz.underlying4,
  a4:=Tryz.isAgg4,
  z4:=Tryz.sizeOf4,
  v4:=Tryz.zeroValue4,
  t22:=Tryz.underlying253,
  a22:=Tryz.isAgg253,
  z22:=Tryz.sizeOf253,
  v22:=Tryz.zeroValue253,
  t25:=Tryz.underlying288,
  a25:=Tryz.isAgg288,
  z25:=Tryz.sizeOf288,
  v25:=Tryz.zeroValue288}
def Kj:BJ->Bool:=λx=>decide (-4611686018427387904<=x.1)&&decide (x.1<4611686018427387904)
def cV:BJ->BJ->Int:=λx y=>x.1-y.1
def vI:List BJ->List BJ:=GN Kj ((0,0):Int×Int) rfl cV
theorem Azc(x y:Int×Int)(hx:Kj x=true)(hy:Kj y=true)(W:World):Calls Tryz.prog 230 #[.agg (encT (.prod (.int .i64) (.int .i64)) x).toArray,.agg (encT (.prod (.int .i64) (.int .i64)) y).toArray] W λe w'=>e=.returned (.int .i64 (cV x y))/\∃q os',w'=Go.Sort.grow (W.drewN q) os':=by
 obtain⟨a,b⟩:=x;obtain⟨c,d⟩:=y;simp only[Kj,CE,Im]at hx hy;obtain⟨h1,h2⟩:=hx;obtain⟨h3,h4⟩:=hy;change Calls Tryz.prog 230 #[.agg #[.int .i64 a,.int .i64 b],.agg #[.int .i64 c,.int .i64 d]] W λe w'=>e=.returned (.int .i64 (a-c))/\_;have hw:Go.RowKit.wrap64 (a-c)=a-c:=by unfold Go.RowKit.wrap64;omega
 go_enter Tryz.func230,Tryz.ntmps230
 go_wp2
 go_ret
 exact⟨rfl,0,_,by rw[Go.Sort.alloc_eq_grow,Go.Sort.alloc_eq_grow,Go.Sort.grow_grow];rfl⟩
theorem Aj7:Go.Sort.SWO (Go.Proofs.ltOf λ(x y:{x:Int×Int // Kj x=true})=>cV x.1 y.1):=by
 constructor
 ·intro x
  refine AN ?_;show ¬x.1.1-x.1.1<0;omega
 ·intro x y z h1 h2
  have h1:x.1.1-y.1.1<0:=Bv h1;have h2:y.1.1-z.1.1<0:=Bv h2;refine At ?_;show x.1.1-z.1.1<0;omega
 ·intro x y z h1 h2
  have h1:¬x.1.1-y.1.1<0:=XS h1;have h2:¬y.1.1-z.1.1<0:=XS h2;refine AN ?_;show ¬x.1.1-z.1.1<0;omega
theorem Azd(p:Option Addr)(n cap:Nat)(w:World)(Q:World->Prop)(hn:n<13)(h:Calls Tryz.prog 258 #[.slice p n cap,.int .i64 0,.int .i64 n,.func (.func 230) #[] #[]] w (λe2 w'=>e2=.returned (.tuple #[])/\Q w')):Calls Tryz.prog 229 #[.slice p n cap,.func (.func 230) #[] #[]] w λe2 w'=>e2=.returned (.tuple #[])/\Q w':=by
 have h2:Calls Tryz.prog 243 #[.slice p n cap,.int .i64 n,.func (.func 230) #[] #[]] w λe2 w'=>e2=.returned (.tuple #[])/\Q w':=by
  go_enter Tryz.func243,Tryz.ntmps243
  go_wp2
  refine wp_loop_rounds 1 ?_;rw[rounds_succ]
  go_wp2_with (refine h.mono ?_;rintro e w' ⟨rfl,hq⟩)
  refine wp_loop_rounds 1 ?_;rw[rounds_succ]
  go_wp2
  go_end0
  exact⟨rfl,hq⟩
 go_enter Tryz.func229,Tryz.ntmps229
 go_wp2_with (refine h2.mono ?_;rintro e w' ⟨rfl,hq⟩)
 go_end0
 exact⟨rfl,hq⟩
def Aj8:RowF:=⟨257,(.prod (.int .i64) (.int .i64)),false,λl=>List.all l Kj&&decide (List.length l<13),vI,some 230⟩
theorem Aze:RowOk Tryz.prog 229 Aj8:=
 ArH (t:=257) (e:=(.prod (.int .i64) (.int .i64))) (good:=Kj) (d0:=((0,0):Int×Int)) (h0:=rfl) (cf:=cV) (g:=230) rfl (by decide) Azb rfl Tryz.isAgg257 Tryz.sizeOf257 Aj7 (Go.Proofs.enters_of Tryz.func230 (by kernel_rfl) rfl) Azc Azd ⟨_,Tryz.func229,by kernel_rfl,by kernel_rfl⟩
noncomputable def Azf:En:=⟨_,.rows Aj8,Aze⟩
abbrev Azg:={β:Type}->KU->(AJ->Int->Option β)->Option β
noncomputable def Aj9:List En:=[Az0,tI,At6]
abbrev Aja(β:Type):=AJ->Int->Option β
abbrev Ajb(β:Type):=E6->Option β
abbrev vJ(β:Type):=CN->Int->Int->E6->Option β
noncomputable def Ajc:Pc:=⟨39,0,AL 122 (Ay Tryz.f47),⟨0,[4,15,16,17],[CH,DS,Ab,Ab],[.row 9 .str]⟩,[(.ret,⟨0,[2,3],[BR,Ab],[]⟩),(.exit 0,⟨0,[4],[CH],[.row 9 .str]⟩)]⟩
def cW{β:Type}(rec:vJ β)(k1:Aja β)(k2:Ajb β):vJ β:=λBc Dz BF words=>cond (decide (BF<Dz)) (cond (decide (0<=BF)&&decide (BF<(List.length Bc:Int))) (let e:=List.getD Bc (Int.toNat BF) (0,(([]:List UInt8),0));OW e (λSp Xz=>cond (!decide (Xz=(0:Int))) (k1 ([]:List UInt8) 8) (let l:=([Sp]:List AJ);cond (decide ((List.length words+List.length l)*16<=Bl)) (let l2:=(words++l);rec Bc Dz (IntKind.i64.wrap (BF+(1:Int))) l2) none))) none) (k2 words)
def Vm(m:Nat){β:Type}(k1:Aja β)(k2:Ajb β):vJ β:=DT (λr=>cW r k1 k2) none m
theorem Ajd{β:Type}(i:Nat)(k1 k2):Vm (β:=β) (i+1) k1 k2=cW (Vm i k1 k2) k1 k2:=rfl
def vK{β:Type}:=hid (Vm (β:=β) fuel)
noncomputable def Azh:Pb:=⟨122,Ajc,λ_=>vK,pl (p:=Ajc) Aj9 [] (g:=λi _=>Vm i)⟩
def cX:Azg:=hid λs k=>DV s.2 (λXw=>cond (!Xw) (k ([]:List UInt8) 8) (vK (λt2 t3=>k t2 t3) (λwords=>cond (decide (List.length words<=140737488355328)&&decide (List.length (Lib.join words ([32]:List UInt8))<=140737488355328)) (let out:=(Lib.join words ([32]:List UInt8));cond (decide ((512:Int)<(List.length out:Int))) (k ([]:List UInt8) 5) (k out 0)) none) s.2 (List.length s.2:Int) 0 ([]:List AJ)))
noncomputable def Azi:En:=⟨47,.spec (sg [(true,[.data (.prod (.int .i64) (.slice FH))])] [] [BR,Ab] [] cX),pf Aj9 [Azh] [.tmp 2,.tmp 3] Tryz.func47⟩
abbrev Azj:={β:Type}->AJ->(Int->Int->Bool->Option β)->Option β
noncomputable def vL:List En:=[rA,sR,AiF,Az4,rS,Ayu,AfX,Au8]
abbrev Azk(β:Type):=Int->Int->Bool->Option β
abbrev Azl(β:Type):=AJ->Option β
noncomputable def Aje:Pc:=⟨83,0,AL 7 (Ay Tryz.f164),⟨0,[0],[BR],[]⟩,[(.ret,⟨0,[2,3,4],[Ab,Ab,AS],[]⟩)]⟩
abbrev Azm(β:Type):=Int->Int->Bool->Option β
abbrev Azn(β:Type):=AJ->Option β
abbrev Azo(β:Type):=AJ->Bool->Option β
noncomputable def Ajf:Pc:=⟨83,0,AL 215 (Ay Tryz.f164),⟨0,[0,23],[BR,AS],[]⟩,[(.ret,⟨0,[2,3,4],[Ab,Ab,AS],[]⟩),(.normal,⟨0,[0],[BR],[]⟩)]⟩
def vM{β:Type}(k1:Azk β):Azl β:=λs=>QY s (λFy PU=>cond PU (cond (decide (0<=(0:Int))&&decide ((0:Int)<(List.length s:Int))) (cond (!decide (((List.getD s (Int.toNat 0) 0).toNat:Int)=(48:Int))) (k1 1 Fy true) (let t:=(decide (s=([48]:List UInt8)));k1 1 Fy t)) none) (k1 1 Fy false))
def Rl{β:Type}:=hid (vM (β:=β))
noncomputable def Azp:Pb:=⟨7,Aje,λ_=>Rl,pe (p:=Aje) vL [] 7 (g:=λ_=>vM)⟩
def Vn{β:Type}(k1:Azm β)(k2:Azn β):Azo β:=λs E4=>cond E4 (Vb s (λroffset roffset2=>k1 4 roffset roffset2)) (QR s ([84]:List UInt8) (λAIZ=>cond AIZ (Rk s (λrinstant rinstant2=>k1 5 rinstant rinstant2)) (QR s ([45]:List UInt8) (λAJ0=>cond AJ0 (OU s (λrdate rdate2=>k1 3 rdate rdate2)) (QR s ([58]:List UInt8) (λAJ1=>cond AJ1 (Lb s (λH4 NQ=>k1 2 H4 NQ)) (k2 s)))))))
def Rm{β:Type}:=hid (Vn (β:=β))
noncomputable def Azq:Pb:=⟨215,Ajf,λ_=>Rm,pe (p:=Ajf) vL [] 215 (g:=λ_=>Vn)⟩
def Md:Azj:=hid λs k=>cond (decide (0<=(0:Int))&&decide ((0:Int)<(List.length s:Int))) (let c:=((List.getD s (Int.toNat 0) 0).toNat:Int);Nk c (λrsmall=>cond rsmall (La s (λPR=>k 0 0 PR)) (cond (decide (c=43)) (Rm (λt2 t3 t4=>k t2 t3 t4) (λs2=>Rl (λt2 t3 t4=>k t2 t3 t4) s2) s true) (let t:=(decide (c=45));Rm (λt2 t3 t4=>k t2 t3 t4) (λs2=>Rl (λt2 t3 t4=>k t2 t3 t4) s2) s t)))) none
noncomputable def Azr:En:=⟨164,.spec (sg [BR] [] [Ab,Ab,AS] [] Md),pf vL [Azp,Azq] [.tmp 2,.tmp 3,.tmp 4] Tryz.func164⟩
abbrev Azs:={β:Type}->AK->(Int->BP->Option β)->Option β
noncomputable def vN:List En:=[Aga,Az9,Aue]
abbrev vO(β:Type):=Int->BP->Option β
abbrev vP(β:Type):=Int->AK->Option β
abbrev vQ(β:Type):=Int->Int->AK->Option β
noncomputable def Ajg:Pc:=⟨119,0,AL 250 (Ay Tryz.f182),⟨0,[1,4,5],[AA,Ab,Ab],[Ng]⟩,[(.ret,⟨0,[2,3],[CH,Ab],O9⟩),(.exit 0,⟨0,[1,4],[AA,Ab],[Ng]⟩)]⟩
abbrev vR(β:Type):=Int->BP->Option β
abbrev vS(β:Type):=BP->Option β
abbrev vT(β:Type):=Int->Int->BP->BP->Option β
noncomputable def Ajh:Pc:=⟨119,0,AL 8186 (Ay Tryz.f182),⟨0,[6,7,8,9],[CH,FI,Ab,Ab],[.row 259 (.prod (.int .i64) (.int .i64)),.row 268 (.prod (.int .i64) (.int .i64))]⟩,[(.ret,⟨0,[2,3],[CH,Ab],O9⟩),(.exit 2,⟨0,[6],[CH],O9⟩)]⟩
def cY{β:Type}(rec:vQ β)(k1:vO β)(k2:vP β):vQ β:=λn i_ z=>cond (decide (i_<(List.length z.2.2:Int))) (cond (decide (0<=i_)&&decide (i_<(List.length z.2.2:Int))) (let e:=List.getD z.2.2 (Int.toNat i_) (0,(0,(0,(0,(0,(0,0))))));Zx e (λAJw=>cond (!AJw) (k1 1 ([]:List BJ)) (cond (decide (0<=i_)&&decide (i_<(List.length z.2.2:Int))) (let e2:=List.getD z.2.2 (Int.toNat i_) (0,(0,(0,(0,(0,(0,0))))));cond (decide (0<=i_)&&decide (i_<(List.length z.2.2:Int))) (let e3:=List.getD z.2.2 (Int.toNat i_) (0,(0,(0,(0,(0,(0,0))))));let n2:=(IntKind.i64.wrap (n+(IntKind.i64.wrap ((IntKind.i64.wrap (e2.2.1-e3.1))+1))));let Bz:=(IntKind.i64.wrap (i_+1));rec n2 Bz z) none) none))) none) (k2 n z)
def Vo(m:Nat){β:Type}(k1:vO β)(k2:vP β):vQ β:=G8 (λr=>cY r k1 k2) none m
theorem Aji{β:Type}(i:Nat)(k1 k2):Vo (β:=β) (i+1) k1 k2=cY (Vo i k1 k2) k1 k2:=rfl
def cZ{β:Type}:=hid (Vo (β:=β) fuel)
noncomputable def Azt:Pb:=⟨250,Ajg,λ_=>cZ,pl (p:=Ajg) vN [] (g:=λi _=>Vo i)⟩
def dA{β:Type}(rec:vT β)(k1:vR β)(k2:vS β):vT β:=λnow i_ out l=>cond (decide (i_<(List.length l:Int))) (cond (decide (0<=i_)&&decide (i_<(List.length l:Int))) (cond (decide (((List.getD l (Int.toNat i_) (0,0)).2)=now)) (let Bz:=(IntKind.i64.wrap (i_+1));rec now Bz out l) (cond (decide (0<=i_)&&decide (i_<(List.length l:Int))) (cond (decide (0<=i_)&&decide (i_<(List.length l:Int))) (IZ (IntKind.i64.wrap (((List.getD l (Int.toNat i_) (0,0)).2)-now)) (-86399) 86399 (λD4=>cond (!D4) (k1 6 ([]:List BJ)) (IZ (IntKind.i64.wrap (((List.getD l (Int.toNat i_) (0,0)).1)-now)) 0 8589934592 (λJu=>cond (!Ju) (k1 6 ([]:List BJ)) (cond (decide ((0:Int)<(List.length out:Int))) (cond (decide (0<=(IntKind.i64.wrap ((List.length out:Int)-(1:Int))))&&decide ((IntKind.i64.wrap ((List.length out:Int)-(1:Int)))<(List.length out:Int))) (cond (decide ((IntKind.i64.wrap ((IntKind.i64.wrap (((List.getD l (Int.toNat i_) (0,0)).1)-now))-((List.getD out (Int.toNat (IntKind.i64.wrap ((List.length out:Int)-(1:Int)))) (0,0)).1)))<604800)) (k1 6 ([]:List BJ)) (let l2:=([((IntKind.i64.wrap (((List.getD l (Int.toNat i_) (0,0)).1)-now)),(List.getD l (Int.toNat i_) (0,0)).2)]:List BJ);cond (decide ((List.length out+List.length l2)*16<=Bl)) (let l3:=(out++l2);let now2:=(List.getD l (Int.toNat i_) (0,0)).2;let Bz:=(IntKind.i64.wrap (i_+1));rec now2 Bz l3 l) none)) none) (let l2:=([((IntKind.i64.wrap (((List.getD l (Int.toNat i_) (0,0)).1)-now)),(List.getD l (Int.toNat i_) (0,0)).2)]:List BJ);cond (decide ((List.length out+List.length l2)*16<=Bl)) (let l3:=(out++l2);let now2:=(List.getD l (Int.toNat i_) (0,0)).2;let Bz:=(IntKind.i64.wrap (i_+1));rec now2 Bz l3 l) none)))))) none) none)) none) (k2 out)
def Vp(m:Nat){β:Type}(k1:vR β)(k2:vS β):vT β:=DT (λr=>dA r k1 k2) none m
theorem Ajj{β:Type}(i:Nat)(k1 k2):Vp (β:=β) (i+1) k1 k2=dA (Vp i k1 k2) k1 k2:=rfl
def dB{β:Type}:=hid (Vp (β:=β) fuel)
noncomputable def Azu:Pb:=⟨8186,Ajh,λ_=>dB,pl (p:=Ajh) vN [] (g:=λi _=>Vp i)⟩
def vU:Azs:=hid λz k=>IZ z.2.1 (-64800) 64800 (λD4=>cond (!D4) (k 1 ([]:List BJ)) (cond (decide ((16:Int)<(List.length z.2.2:Int))) (k 5 ([]:List BJ)) (cZ (λt3 t2=>k t3 t2) (λn z2=>cond (decide ((640:Int)<n)) (k 5 ([]:List BJ)) (cU z2.2.2 (λjD=>dB (λt3 t2=>k t3 t2) (λout=>k 0 out) z2.2.1 0 ([]:List BJ) jD))) 0 0 z)))
noncomputable def Azv:En:=⟨182,.spec (sg [IU] [] [CH,Ab] O9 vU),pf vN [Azt,Azu] [.tmp 2,.tmp 3] Tryz.func182⟩
abbrev Azw:={β:Type}->AK->(Int->BP->Option β)->Option β
noncomputable def dC:List En:=[Axm,pU,Aul,Azf]
abbrev vV(β:Type):=Int->BP->Option β
abbrev vW(β:Type):=Int->AK->Option β
abbrev vX(β:Type):=Int->G7->Int->Int->AK->Option β
noncomputable def Ajk:Pc:=⟨86,0,AL 250 (Ay Tryz.f199),⟨0,[1,4,23,24,25],[AA,Ab,GP,Ab,Ab],[Ng]⟩,[(.ret,⟨0,[2,3],[CH,Ab],T0⟩),(.exit 0,⟨0,[1,4],[AA,Ab],[Ng]⟩)]⟩
abbrev vY(β:Type):=BP->Option β
abbrev vZ(β:Type):=G7->Int->Int->BP->Option β
noncomputable def wA:Pc:=⟨86,0,AL 2042 (Ay Tryz.f199),⟨0,[8,46,47,48],[CH,GP,Ab,Ab],T0⟩,[(.exit 2,⟨0,[8],[CH],T0⟩)]⟩
abbrev wB(β:Type):=G7->Int->Int->BP->Option β
abbrev wC(β:Type):=Int->G7->Int->Int->BP->BZ->Option β
noncomputable def Ajl:Pc:=⟨86,0,AL 230 (E5 wA.c),⟨0,[8,10,11,46,47,48],[CH,Ck,Ab,GP,Ab,Ab],[.row 257 (.prod (.int .i64) (.int .i64)),.cells 142 [.data Ke]]⟩,[(.exit 4,⟨0,[8,46,47,48],[CH,GP,Ab,Ab],T0⟩)]⟩
def dD{β:Type}(rec:vX β)(k1:vV β)(k2:vW β):vX β:=λn E4 Gw t25 z=>cond (decide (t25<Gw)) (cond (decide (0<=t25)&&decide (t25<(List.length E4:Int))) (let e:=List.getD E4 (Int.toNat t25) (0,(0,(0,(0,(0,(0,0))))));Zy e (λrrule=>cond (!decide (rrule=0)) (k1 rrule ([]:List BJ)) (let n2:=(IntKind.i64.wrap (n+(IntKind.i64.wrap ((IntKind.i64.wrap (e.2.1-e.1))+1))));rec n2 E4 Gw (IntKind.i64.wrap (t25+(1:Int))) z))) none) (k2 n z)
def Vq(m:Nat){β:Type}(k1:vV β)(k2:vW β):vX β:=JB (λr=>dD r k1 k2) none m
theorem Ajm{β:Type}(i:Nat)(k1 k2):Vq (β:=β) (i+1) k1 k2=dD (Vq i k1 k2) k1 k2:=rfl
def dE{β:Type}:=hid (Vq (β:=β) fuel)
noncomputable def Azx:Pb:=⟨250,Ajk,λ_=>dE,pl (p:=Ajk) dC [] (g:=λi _=>Vq i)⟩
def dF{β:Type}(rec:wC β)(k1:wB β):wC β:=λy t46 XC NR out r_=>cond (decide (y<=r_.2.1)) (aT y r_.2.2.1 r_.2.2.2.1 r_.2.2.2.2.1 (λAbG AJg=>let l:=([((IntKind.i64.wrap ((IntKind.i64.wrap (AbG*86400))+r_.2.2.2.2.2.1)),r_.2.2.2.2.2.2)]:List BJ);cond (decide ((List.length out+List.length l)*16<=Bl)) (let l2:=(out++l);let y2:=(IntKind.i64.wrap (y+1));rec y2 t46 XC NR l2 r_) none)) (k1 t46 XC NR out)
def Vr(m:Nat){β:Type}(k1:wB β):wC β:=T5 (λr=>dF r k1) none m
theorem Ajn{β:Type}(i:Nat)(k1):Vr (β:=β) (i+1) k1=dF (Vr i k1) k1:=rfl
def wD{β:Type}:=hid (Vr (β:=β) fuel)
noncomputable def Azy:Pb:=⟨230,Ajl,λ_=>wD,pl (p:=Ajl) dC [] (g:=λi _=>Vr i)⟩
def dG{β:Type}(rec:vZ β)(k1:vY β):vZ β:=λt46 XC NR out=>cond (decide (NR<XC)) (cond (decide (0<=NR)&&decide (NR<(List.length t46:Int))) (let e:=List.getD t46 (Int.toNat NR) (0,(0,(0,(0,(0,(0,0))))));wD (λAJz AJA AJB out2=>rec AJz AJA (IntKind.i64.wrap (AJB+(1:Int))) out2) e.1 t46 XC NR out e) none) (k1 out)
def Vs(m:Nat){β:Type}(k1:vY β):vZ β:=DT (λr=>dG r k1) none m
theorem Ajo{β:Type}(i:Nat)(k1):Vs (β:=β) (i+1) k1=dG (Vs i k1) k1:=rfl
def dH{β:Type}:=hid (Vs (β:=β) fuel)
noncomputable def Azz:Pb:=⟨2042,wA,λ_=>dH,pl (p:=wA) dC [Azy] (g:=λi _=>Vs i)⟩
def dI:Azw:=hid λz k=>JC z.2.1 (-64800) 64800 (λD4=>cond (!D4) (k 1 ([]:List BJ)) (cond (decide ((16:Int)<(List.length z.2.2:Int))) (k 5 ([]:List BJ)) (dE (λt3 t2=>k t3 t2) (λn z2=>cond (decide ((640:Int)<n)) (k 5 ([]:List BJ)) (dH (λout=>cond ((List.all out Kj)&&decide (List.length out<13)) (let l:=(vI out);k 0 l) none) z2.2.2 (List.length z2.2.2:Int) 0 ([]:List BJ))) 0 z.2.2 (List.length z.2.2:Int) 0 z)))
noncomputable def AzA:En:=⟨199,.spec (sg [IU] [] [CH,Ab] T0 dI),pf dC [Azx,Azz] [.tmp 2,.tmp 3] Tryz.func199⟩
abbrev AzB:={β:Type}->AE->AE->(Bool->Option β)->Option β
noncomputable def Ajp:List En:=[Av6]
abbrev Ajq(β:Type):=Bool->Option β
abbrev Ajr(β:Type):=Unit->Option β
abbrev wE(β:Type):=AE->AE->Int->Int->Option β
noncomputable def Ajs:Pc:=⟨32,0,AL 58 (Ay Tryz.f36),⟨0,[1,2,15,16,17],[LS,(false,[.fn 37 []]),LS,Ab,Ab],[]⟩,[(.ret,⟨0,[6],[AS],[]⟩),(.exit 0,⟨0,[],[],[]⟩)]⟩
def dJ{β:Type}(rec:wE β)(k1:Ajq β)(k2:Ajr β):wE β:=λs2 Bc Dz BF=>cond (decide (BF<Dz)) (cond (decide (0<=BF)&&decide (BF<(List.length Bc:Int))) (let e:=List.getD Bc (Int.toNat BF) (([]:List UInt8),(0,([]:List Int)));cond (decide (0<=BF)&&decide (BF<(List.length s2:Int))) (let e2:=List.getD s2 (Int.toNat BF) (([]:List UInt8),(0,([]:List Int)));ZD e e2 (λrsameCalendar=>cond (!rsameCalendar) (k1 false) (rec s2 Bc Dz (IntKind.i64.wrap (BF+(1:Int)))))) none) none) (k2 ())
def Vt(m:Nat){β:Type}(k1:Ajq β)(k2:Ajr β):wE β:=DT (λr=>dJ r k1 k2) none m
theorem Ajt{β:Type}(i:Nat)(k1 k2):Vt (β:=β) (i+1) k1 k2=dJ (Vt i k1 k2) k1 k2:=rfl
def wF{β:Type}:=hid (Vt (β:=β) fuel)
noncomputable def AzC:Pb:=⟨58,Ajs,λ_=>wF,pl (p:=Ajs) Ajp [] (g:=λi _=>Vt i)⟩
def dK:AzB:=hid λs1 s2 k=>cond (!decide ((List.length s1:Int)=(List.length s2:Int))) (k false) (wF (λt6=>k t6) (λ_=>k true) s2 s1 (List.length s1:Int) 0)
noncomputable def AzD:En:=⟨36,.spec (sg [LS,LS,(false,[.fn 37 []])] [] [AS] [] dK),pf Ajp [AzC] [.tmp 6] Tryz.func36⟩
abbrev AzE:={β:Type}->De->(Int->Option β)->Option β
noncomputable def Aju:List En:=[Az2]
abbrev Ajv(β:Type):=Int->Option β
abbrev Ajw(β:Type):=Unit->Option β
abbrev wG(β:Type):=De->Int->Int->Option β
noncomputable def Ajx:Pc:=⟨19,0,AL 26 (Ay Tryz.f170),⟨0,[0,1,7,8],[Hl,(false,[.fn 116 []]),Ab,Ab],[]⟩,[(.ret,⟨0,[4],[Ab],[]⟩),(.exit 0,⟨0,[],[],[]⟩)]⟩
def dL{β:Type}(rec:wG β)(k1:Ajv β)(k2:Ajw β):wG β:=λs t7 t8=>cond (decide (t8<t7)) (cond (decide (0<=t8)&&decide (t8<(List.length s:Int))) (let e:=List.getD s (Int.toNat t8) 0;v6 e (λrcheckCalendar1=>cond rcheckCalendar1 (k1 t8) (rec s t7 (IntKind.i64.wrap (t8+(1:Int)))))) none) (k2 ())
def Vu(m:Nat){β:Type}(k1:Ajv β)(k2:Ajw β):wG β:=G8 (λr=>dL r k1 k2) none m
theorem Ajy{β:Type}(i:Nat)(k1 k2):Vu (β:=β) (i+1) k1 k2=dL (Vu i k1 k2) k1 k2:=rfl
def wH{β:Type}:=hid (Vu (β:=β) fuel)
noncomputable def AzF:Pb:=⟨26,Ajx,λ_=>wH,pl (p:=Ajx) Aju [] (g:=λi _=>Vu i)⟩
def wI:AzE:=hid λs k=>wH (λt4=>k t4) (λ_=>k (-1)) s (List.length s:Int) 0
noncomputable def AzG:En:=⟨170,.spec (sg [Hl,(false,[.fn 116 []])] [] [Ab] [] wI),pf Aju [AzF] [.tmp 4] Tryz.func170⟩
abbrev AzH:={β:Type}->De->As->(Int->As->Option β)->Option β
noncomputable def Ajz:List En:=[AtS]
abbrev AjA(β:Type):=Int->As->Option β
abbrev AjB(β:Type):=As->Option β
abbrev wJ(β:Type):=De->Int->Int->As->Option β
noncomputable def AjC:Pc:=⟨19,1,AL 26 (Ay Tryz.f170),⟨1,[0,1,7,8],[Hl,(false,[.fn 172 [0]]),Ab,Ab],[Cj]⟩,[(.ret,⟨1,[4],[Ab],[Cj]⟩),(.exit 0,⟨1,[],[],[Cj]⟩)]⟩
def dM{β:Type}(rec:wJ β)(k1:AjA β)(k2:AjB β):wJ β:=λs t7 t8 AZ=>cond (decide (t8<t7)) (cond (decide (0<=t8)&&decide (t8<(List.length s:Int))) (let e:=List.getD s (Int.toNat t8) 0;pO e AZ (λrcheckLayer1 Aoe=>cond rcheckLayer1 (k1 t8 Aoe) (rec s t7 (IntKind.i64.wrap (t8+(1:Int))) Aoe))) none) (k2 AZ)
def Vv(m:Nat){β:Type}(k1:AjA β)(k2:AjB β):wJ β:=DT (λr=>dM r k1 k2) none m
theorem AjD{β:Type}(i:Nat)(k1 k2):Vv (β:=β) (i+1) k1 k2=dM (Vv i k1 k2) k1 k2:=rfl
def wK{β:Type}:=hid (Vv (β:=β) fuel)
noncomputable def AzI:Pb:=⟨26,AjC,λ_=>wK,pl (p:=AjC) Ajz [] (g:=λi _=>Vv i)⟩
def wL:AzH:=hid λs AZ k=>wK (λt4 BO=>k t4 BO) (λBO=>k (-1) BO) s (List.length s:Int) 0 AZ
noncomputable def AzJ:En:=⟨170,.spec (sg [Hl,(false,[.fn 172 [0]])] [Cj] [Ab] [Cj] wL),pf Ajz [AzI] [.tmp 4] Tryz.func170⟩
abbrev AzK:={β:Type}->Ca->(AJ->Int->Option β)->Option β
noncomputable def AjE:List En:=[Azi,Asj,Asn,Asf]
abbrev AjF(β:Type):=AJ->Int->Option β
abbrev AjG(β:Type):=De->Option β
abbrev wM(β:Type):=Ca->Int->Int->De->Option β
noncomputable def AjH:Pc:=⟨30,0,AL 58 (Ay Tryz.f20),⟨0,[4,9,10,11],[AA,O5,Ab,Ab],[.cells 116 [.bself 0,.rowh 1],.row 5 (.int .u8)]⟩,[(.ret,⟨0,[2,3],[BR,Ab],[]⟩),(.exit 0,⟨0,[4],[AA],[.cells 116 [.bself 0,.rowh 1],.row 5 (.int .u8)]⟩)]⟩
def dN{β:Type}(rec:wM β)(k1:AjF β)(k2:AjG β):wM β:=λt9 Fj K6 Am=>cond (decide (K6<Fj)) (cond (decide (0<=K6)&&decide (K6<(List.length t9:Int))) (let e:=List.getD t9 (Int.toNat K6) (0,([]:List BV));cX e (λrwritten rwritten2=>cond (!decide (rwritten2=(0:Int))) (k1 ([]:List UInt8) rwritten2) (cond (decide (List.length rwritten+List.length ([10]:List UInt8)<=9223372036854775807)) (cond (decide (List.length Am+List.length (rwritten++([10]:List UInt8))<=140737488355328)) (let l:=(Am++CQ (rwritten++([10]:List UInt8)));rec t9 Fj (IntKind.i64.wrap (K6+(1:Int))) l) none) none))) none) (k2 Am)
def Vw(m:Nat){β:Type}(k1:AjF β)(k2:AjG β):wM β:=DT (λr=>dN r k1 k2) none m
theorem AjI{β:Type}(i:Nat)(k1 k2):Vw (β:=β) (i+1) k1 k2=dN (Vw i k1 k2) k1 k2:=rfl
def wN{β:Type}:=hid (Vw (β:=β) fuel)
noncomputable def AzL:Pb:=⟨58,AjH,λ_=>wN,pl (p:=AjH) AjE [] (g:=λi _=>Vw i)⟩
def dO:AzK:=hid λl k=>wN (λt2 t3=>k t2 t3) (λAm=>cond (decide ((65536:Int)<(List.length Am:Int))) (k ([]:List UInt8) 5) (cond (KJ Am) (k (H8 Am) 0) none)) l (List.length l:Int) 0 ([]:List Int)
noncomputable def AzM:En:=⟨20,.spec (sg [O5] [] [BR,Ab] [] dO),pf AjE [AzL] [.tmp 2,.tmp 3] Tryz.func20⟩
abbrev AzN:={β:Type}->AJ->(BV->Int->Option β)->Option β
def OX:AzN:=hid λword k=>cond (decide (word=([]:List UInt8))) (k Aem 2) (Md word (λrform rform2 rform3=>cond (!rform3) (k Aem 2) (let t:=(decide (rform=0));cond t (k (rform,(word,0)) 0) (k (rform,(([]:List UInt8),rform2)) 0))))
noncomputable def AzO:En:=⟨107,.spec (sg [BR] [] [IT,Ab] [] OX),pf [Azr] [] [.cell 2 85,.tmp 3] Tryz.func107⟩
abbrev AzP:={β:Type}->AK->(Int->Option β)->Option β
def dP:AzP:=hid λz k=>vU z (λAbJ AHI=>k AbJ)
noncomputable def AzQ:En:=⟨147,.spec (sg [IU] [] [Ab] [] dP),pf [Azv] [] [.tmp 2] Tryz.func147⟩
abbrev AzR:={β:Type}->AK->(Int->BP->Option β)->Option β
noncomputable def wO:List En:=[pU,AzA]
abbrev AjJ(β:Type):=Int->BP->Option β
abbrev AjK(β:Type):=BP->Option β
abbrev wP(β:Type):=Int->Int->Int->BP->BP->Option β
noncomputable def wQ:Pc:=⟨79,0,AL 506 (Ay Tryz.f165),⟨0,[6,7,22,23,24],[CH,Ab,FI,Ab,Ab],Aey⟩,[(.ret,⟨0,[2,3],[CH,Ab],O9⟩),(.exit 0,⟨0,[6],[CH],O9⟩)]⟩
abbrev AjL(β:Type):=Int->Int->Int->BP->BP->Option β
abbrev AzS(β:Type):=Int->Int->Int->BP->BJ->BP->Option β
noncomputable def AjM:Pc:=⟨79,0,AL 463 (E5 wQ.c),⟨0,[6,9,10,22,23,24],[CH,Ck,Ab,(false,[.rowh 2]),Ab,Ab],[.row 259 (.prod (.int .i64) (.int .i64)),.cells 257 [.data (.prod (.int .i64) (.int .i64))],.row 257 (.prod (.int .i64) (.int .i64))]⟩,[(.normal,⟨0,[6,7,22,23,24],[CH,Ab,FI,Ab,Ab],Aey⟩)]⟩
def wR{β:Type}(k1:AjL β):AzS β:=λat_ E4 Gw out o t22=>let l:=([(at_,o.2)]:List BJ);cond (decide ((List.length out+List.length l)*16<=Bl)) (let l2:=(out++l);k1 o.2 E4 Gw l2 t22) none
def Vx{β:Type}:=hid (wR (β:=β))
noncomputable def AzT:Pb:=⟨463,AjM,λ_=>Vx,pe (p:=AjM) wO [] 463 (g:=λ_=>wR)⟩
def dQ{β:Type}(rec:wP β)(k1:AjJ β)(k2:AjK β):wP β:=λnow E4 Gw out t22=>cond (decide (Gw<E4)) (cond (decide (0<=Gw)&&decide (Gw<(List.length t22:Int))) (cond (decide (((List.getD t22 (Int.toNat Gw) (0,0)).2)=now)) (rec now E4 (IntKind.i64.wrap (Gw+(1:Int))) out t22) (let at_:=(IntKind.i64.wrap (((List.getD t22 (Int.toNat Gw) (0,0)).1)-now));let change:=(IntKind.i64.wrap (((List.getD t22 (Int.toNat Gw) (0,0)).2)-now));cond (decide ((86400:Int)<=change)) (k1 6 ([]:List BJ)) (cond (decide (change<=(-86400))) (k1 6 ([]:List BJ)) (JC at_ 0 8589934592 (λD4=>cond (!D4) (k1 6 ([]:List BJ)) (cond (decide ((0:Int)<(List.length out:Int))) (cond (decide (0<=(IntKind.i64.wrap ((List.length out:Int)-(1:Int))))&&decide ((IntKind.i64.wrap ((List.length out:Int)-(1:Int)))<(List.length out:Int))) (cond (decide (at_<(IntKind.i64.wrap (((List.getD out (Int.toNat (IntKind.i64.wrap ((List.length out:Int)-(1:Int)))) (0,0)).1)+604800)))) (k1 6 ([]:List BJ)) (Vx (λnow2 t232 AbR out2 AbQ=>rec now2 t232 (IntKind.i64.wrap (AbR+(1:Int))) out2 AbQ) at_ E4 Gw out (List.getD t22 (Int.toNat Gw) (0,0)) t22)) none) (Vx (λnow2 t232 AbR out2 AbQ=>rec now2 t232 (IntKind.i64.wrap (AbR+(1:Int))) out2 AbQ) at_ E4 Gw out (List.getD t22 (Int.toNat Gw) (0,0)) t22))))))) none) (k2 out)
def Vy(m:Nat){β:Type}(k1:AjJ β)(k2:AjK β):wP β:=JB (λr=>dQ r k1 k2) none m
theorem AjN{β:Type}(i:Nat)(k1 k2):Vy (β:=β) (i+1) k1 k2=dQ (Vy i k1 k2) k1 k2:=rfl
def wS{β:Type}:=hid (Vy (β:=β) fuel)
noncomputable def AzU:Pb:=⟨506,wQ,λ_=>wS,pl (p:=wQ) wO [AzT] (g:=λi _=>Vy i)⟩
def dR:AzR:=hid λz k=>dI z (λroccurrences jD=>cond (!decide (roccurrences=0)) (k roccurrences ([]:List BJ)) (wS (λt3 t2=>k t3 t2) (λout=>k 0 out) z.2.1 (List.length jD:Int) 0 ([]:List BJ) jD))
noncomputable def AzV:En:=⟨165,.spec (sg [IU] [] [CH,Ab] O9 dR),pf wO [AzU] [.tmp 2,.tmp 3] Tryz.func165⟩
abbrev AzW:={β:Type}->De->(Bool->Option β)->Option β
def dS:AzW:=hid λs k=>wI s (λAbE=>let t:=(decide ((0:Int)<=AbE));k t)
noncomputable def AzX:En:=⟨115,.spec (sg [Hl,(false,[.fn 116 []])] [] [AS] [] dS),pf [AzG] [] [.tmp 4] Tryz.func115⟩
abbrev AzY:={β:Type}->De->As->(Bool->As->Option β)->Option β
def dT:AzY:=hid λs AZ k=>wL s AZ (λAbE AIn=>let t:=(decide ((0:Int)<=AbE));k t AIn)
noncomputable def AzZ:En:=⟨115,.spec (sg [Hl,(false,[.fn 172 [0]])] [Cj] [AS] [Cj] dT),pf [AzJ] [] [.tmp 4] Tryz.func115⟩
abbrev AA0:={β:Type}->AJ->(Int->CN->Option β)->Option β
noncomputable def wT:List En:=[AzO,Atb,Afh]
abbrev wU(β:Type):=Int->CN->Option β
abbrev wV(β:Type):=AJ->Option β
abbrev wW(β:Type):=AJ->Int->Int->Option β
noncomputable def AjO:Pc:=⟨56,0,AL 58 (Ay Tryz.f52),⟨0,[0,14,15],[BR,Ab,Ab],[]⟩,[(.ret,⟨0,[2,3],[CH,Ab],OA⟩),(.exit 0,⟨0,[0],[BR],[]⟩)]⟩
abbrev wX(β:Type):=Int->CN->Option β
abbrev wY(β:Type):=CN->Option β
abbrev wZ(β:Type):=Int->Int->CN->E6->Option β
noncomputable def AjP:Pc:=⟨56,0,AL 506 (Ay Tryz.f52),⟨0,[5,36,37,38],[CH,FI,Ab,Ab],[.row 85 FH,.row 9 .str]⟩,[(.ret,⟨0,[2,3],[CH,Ab],OA⟩),(.exit 2,⟨0,[5],[CH],OA⟩)]⟩
def dU{β:Type}(rec:wW β)(k1:wU β)(k2:wV β):wW β:=λtext C9 Bc=>cond (decide (Bc<C9)) (cond (decide (0<=Bc)&&decide (Bc<(List.length text:Int))) (cond (decide (((List.getD text (Int.toNat Bc) 0).toNat:Int)<(32:Int))) (k1 2 ([]:List BV)) (cond (decide (0<=Bc)&&decide (Bc<(List.length text:Int))) (cond (decide ((126:Int)<((List.getD text (Int.toNat Bc) 0).toNat:Int))) (k1 2 ([]:List BV)) (rec text C9 (IntKind.i64.wrap (Bc+(1:Int))))) none)) none) (k2 text)
def Vz(m:Nat){β:Type}(k1:wU β)(k2:wV β):wW β:=G8 (λr=>dU r k1 k2) none m
theorem AjQ{β:Type}(i:Nat)(k1 k2):Vz (β:=β) (i+1) k1 k2=dU (Vz i k1 k2) k1 k2:=rfl
def dV{β:Type}:=hid (Vz (β:=β) fuel)
noncomputable def AA1:Pb:=⟨58,AjO,λ_=>dV,pl (p:=AjO) wT [] (g:=λi _=>Vz i)⟩
def dW{β:Type}(rec:wZ β)(k1:wX β)(k2:wY β):wZ β:=λt37 MD out AbS=>cond (decide (MD<t37)) (cond (decide (0<=MD)&&decide (MD<(List.length AbS:Int))) (let w:=(List.getD AbS (Int.toNat MD) ([]:List UInt8));OX w (λAJs Ap2=>cond (!decide (Ap2=(0:Int))) (k1 Ap2 ([]:List BV)) (let l:=([AJs]:List BV);cond (decide ((List.length out+List.length l)*32<=Bl)) (let l2:=(out++l);rec t37 (IntKind.i64.wrap (MD+(1:Int))) l2 AbS) none))) none) (k2 out)
def V0(m:Nat){β:Type}(k1:wX β)(k2:wY β):wZ β:=DT (λr=>dW r k1 k2) none m
theorem AjR{β:Type}(i:Nat)(k1 k2):V0 (β:=β) (i+1) k1 k2=dW (V0 i k1 k2) k1 k2:=rfl
def dX{β:Type}:=hid (V0 (β:=β) fuel)
noncomputable def AA2:Pb:=⟨506,AjP,λ_=>dX,pl (p:=AjP) wT [] (g:=λi _=>V0 i)⟩
def Rn:AA0:=hid λtext k=>cond (decide ((512:Int)<(List.length text:Int))) (k 5 ([]:List BV)) (dV (λt3 t2=>k t3 t2) (λtext2=>Afe text2 ([35]:List UInt8) (λAJ2 AKm AKn=>oY AJ2 (λjC=>dX (λt3 t2=>k t3 t2) (λout=>k 0 out) (List.length jC:Int) 0 ([]:List BV) jC))) text (List.length text:Int) 0)
noncomputable def AA3:En:=⟨52,.spec (sg [BR] [] [CH,Ab] OA Rn),pf wT [AA1,AA2] [.tmp 2,.tmp 3] Tryz.func52⟩
abbrev AA4:={β:Type}->As->Bh->(Int->Option β)->Option β
noncomputable def AjS:List En:=[TK,AzX]
abbrev AjT(β:Type):=Int->Option β
abbrev AjU(β:Type):=Unit->Option β
abbrev x5(β:Type):=Int->Int->Bh->Option β
noncomputable def AjV:Pc:=⟨46,0,AL 58 (Ay Tryz.f61),⟨0,[3,25,26],[AA,Ab,Ab],[YT]⟩,[(.ret,⟨0,[4],[Ab],[]⟩),(.exit 1,⟨0,[],[],[]⟩)]⟩
def dY{β:Type}(rec:x5 β)(k1:AjT β)(k2:AjU β):x5 β:=λt25 L3 x=>cond (decide (L3<t25)) (cond (decide ((0:Int)<L3)) (cond (decide (0<=L3)&&decide (L3<(List.length x.2.2:Int))) (let e:=List.getD x.2.2 (Int.toNat L3) 0;cond (decide (0<=(IntKind.i64.wrap (L3-(1:Int))))&&decide ((IntKind.i64.wrap (L3-(1:Int)))<(List.length x.2.2:Int))) (let e2:=List.getD x.2.2 (Int.toNat (IntKind.i64.wrap (L3-(1:Int)))) 0;cond (decide (e<=e2)) (k1 6) (rec t25 (IntKind.i64.wrap (L3+(1:Int))) x)) none) none) (rec t25 (IntKind.i64.wrap (L3+(1:Int))) x)) (k2 ())
def V1(m:Nat){β:Type}(k1:AjT β)(k2:AjU β):x5 β:=G8 (λr=>dY r k1 k2) none m
theorem AjW{β:Type}(i:Nat)(k1 k2):V1 (β:=β) (i+1) k1 k2=dY (V1 i k1 k2) k1 k2:=rfl
def dZ{β:Type}:=hid (V1 (β:=β) fuel)
noncomputable def AA5:Pb:=⟨58,AjV,λ_=>dZ,pl (p:=AjV) AjS [] (g:=λi _=>V1 i)⟩
def eC:AA4:=hid λc x k=>KZ x.2.1 (List.length c.1:Int) (λGv=>cond (!Gv) (k 3) (let t:=(decide ((64:Int)<(List.length x.2.2:Int)));cond t (k 5) (dS x.2.2 (λAbA=>cond AbA (k 1) (dZ (λt4=>k t4) (λ_=>k 0) (List.length x.2.2:Int) 0 x)))))
noncomputable def AA6:En:=⟨61,.spec (sg [ED,O7] [] [Ab] [] eC),pf AjS [AA5] [.tmp 4] Tryz.func61⟩
abbrev AA7:={β:Type}->As->(Int->Option β)->Option β
noncomputable def AjX:List En:=[AzQ,AtI,aO]
abbrev AjY(β:Type):=Int->Option β
abbrev AjZ(β:Type):=Unit->Option β
abbrev x6(β:Type):=Int->As->E6->Option β
noncomputable def Ak0:Pc:=⟨44,0,AL 58 (Ay Tryz.f97),⟨0,[1,3,4],[AA,FI,Ab],[Cj,.row 9 .str]⟩,[(.ret,⟨0,[2],[Ab],[]⟩),(.exit 0,⟨0,[],[],[]⟩)]⟩
def eD{β:Type}(rec:x6 β)(k1:AjY β)(k2:AjZ β):x6 β:=λi_ c l=>cond (decide (i_<(List.length c.1:Int))) (cond (decide (0<=i_)&&decide (i_<(List.length c.1:Int))) (let e:=List.getD c.1 (Int.toNat i_) (([]:List UInt8),(0,([]:List BZ)));let l2:=([e.1]:List AJ);cond (decide ((List.length l+List.length l2)*16<=Bl)) (let l3:=(l++l2);Nq l3 i_ (λEC=>cond (!decide (EC=0)) (k1 EC) (cond (decide (0<=i_)&&decide (i_<(List.length c.1:Int))) (let e2:=List.getD c.1 (Int.toNat i_) (([]:List UInt8),(0,([]:List BZ)));dP e2 (λFR=>cond (!decide (FR=0)) (k1 8) (cond (decide (0<=i_)&&decide (i_<(List.length c.1:Int))) (let e3:=List.getD c.1 (Int.toNat i_) (([]:List UInt8),(0,([]:List BZ)));Zt e3 (λAJv=>cond (!AJv) (k1 8) (let Bz:=(IntKind.i64.wrap (i_+1));rec Bz c l3))) none))) none))) none) none) (k2 ())
def V2(m:Nat){β:Type}(k1:AjY β)(k2:AjZ β):x6 β:=G8 (λr=>eD r k1 k2) none m
theorem Ak1{β:Type}(i:Nat)(k1 k2):V2 (β:=β) (i+1) k1 k2=eD (V2 i k1 k2) k1 k2:=rfl
def x7{β:Type}:=hid (V2 (β:=β) fuel)
noncomputable def AA8:Pb:=⟨58,Ak0,λ_=>x7,pl (p:=Ak0) AjX [] (g:=λi _=>V2 i)⟩
def eE:AA7:=hid λc k=>x7 (λt2=>k t2) (λ_=>k 0) 0 c ([]:List AJ)
noncomputable def AA9:En:=⟨97,.spec (sg [ED] [] [Ab] [] eE),pf AjX [AA8] [.tmp 2] Tryz.func97⟩
abbrev AAa:={β:Type}->AK->(Int->Option β)->Option β
def x8:AAa:=hid λz k=>dR z (λAbJ AHI=>k AbJ)
noncomputable def AAb:En:=⟨108,.spec (sg [IU] [] [Ab] [] x8),pf [AzV] [] [.tmp 2] Tryz.func108⟩
abbrev AAc:={β:Type}->As->AU->(Int->Option β)->Option β
noncomputable def x9:List En:=[u7,pN,TK,AzZ,Afm]
abbrev AAd(β:Type):=Int->Option β
abbrev AAe(β:Type):=Unit->Option β
abbrev AAf(β:Type):=Bool->AU->Option β
noncomputable def Ak2:Pc:=⟨91,0,AL 425983 (Ay Tryz.f121),⟨0,[3,69],[AA,AS],[LU]⟩,[(.ret,⟨0,[4],[Ab],[]⟩),(.normal,⟨0,[],[],[]⟩)]⟩
abbrev AAg(β:Type):=Int->Option β
abbrev AAh(β:Type):=Unit->Option β
abbrev AAi(β:Type):=Bool->As->AU->Option β
noncomputable def Ak3:Pc:=⟨91,0,AL 103 (Ay Tryz.f121),⟨0,[2,3,13],[AA,Ck,AS],[Cj,LU]⟩,[(.ret,⟨0,[4],[Ab],[]⟩),(.normal,⟨0,[],[],[]⟩)]⟩
def xA{β:Type}(k1:AAd β)(k2:AAe β):AAf β:=λMG l=>cond MG (k1 3) (cond (decide (l.2.2.2.2.2.2.2.2=(0:Int))) (let t:=(!decide (l.2.2.2.2.2.2.2.1=(0:Int)));cond t (k1 1) (k2 ())) (k2 ()))
def V3{β:Type}:=hid (xA (β:=β))
noncomputable def AAj:Pb:=⟨425983,Ak2,λ_=>V3,pe (p:=Ak2) x9 [] 425983 (g:=λ_=>xA)⟩
def xB{β:Type}(k1:AAg β)(k2:AAh β):AAi β:=λBI c l=>cond BI (k1 1) (let t:=(decide ((List.length l.2.2.2.2.2.1:Int)=(0:Int)));cond t (k1 7) (let t2:=(decide ((12:Int)<(List.length l.2.2.2.2.2.1:Int)));cond t2 (k1 5) (dT l.2.2.2.2.2.1 c (λAbA AIm=>cond AbA (k1 3) (TL l.2.2.2.2.2.2.1 (λFR=>let t3:=(!decide (FR=0));cond t3 (k1 8) (LY l.2.2.2.2.2.2.2.2 0 2 (λD4=>cond (!D4) (k1 1) (cond (!decide (l.2.2.2.2.2.2.2.2=(0:Int))) (KZ l.2.2.2.2.2.2.2.1 (List.length AIm.2.2.1:Int) (λGv=>V3 (λt4=>k1 t4) (λ_=>k2 ()) (!Gv) l)) (V3 (λt4=>k1 t4) (λ_=>k2 ()) false l))))))))))
def Nr{β:Type}:=hid (xB (β:=β))
noncomputable def AAk:Pb:=⟨103,Ak3,λ_=>Nr,pe (p:=Ak3) x9 [AAj] 103 (g:=λ_=>xB)⟩
def eF:AAc:=hid λc l k=>KZ l.2.1 (List.length c.1:Int) (λGv=>cond (!Gv) (k 3) (cond (decide (l.2.2.1.1<(1:Int))) (Nr (λt4=>k t4) (λ_=>k 0) true c l) (Rc l.2.2.1.1 (λrday=>cond (!rday) (Nr (λt4=>k t4) (λ_=>k 0) true c l) (LY l.2.2.1.2 0 86399 (λD4=>cond (!D4) (Nr (λt4=>k t4) (λ_=>k 0) true c l) (LY l.2.2.2.1 0 2 (λJu=>cond (!Ju) (Nr (λt4=>k t4) (λ_=>k 0) true c l) (LY l.2.2.2.2.1 1 400 (λJv=>Nr (λt4=>k t4) (λ_=>k 0) (!Jv) c l))))))))))
noncomputable def AAl:En:=⟨121,.spec (sg [ED,Nh] [] [Ab] [] eF),pf x9 [AAk] [.tmp 4] Tryz.func121⟩
abbrev AAm:={β:Type}->AI->AI->(Bool->Option β)->Option β
noncomputable def Ak4:List En:=[AwS]
abbrev Ak5(β:Type):=Bool->Option β
abbrev Ak6(β:Type):=Unit->Option β
abbrev xC(β:Type):=AI->AI->Int->Int->Option β
noncomputable def Ak7:Pc:=⟨32,0,AL 58 (Ay Tryz.f38),⟨0,[1,2,15,16,17],[Kg,(false,[.fn 39 []]),Kg,Ab,Ab],[]⟩,[(.ret,⟨0,[6],[AS],[]⟩),(.exit 0,⟨0,[],[],[]⟩)]⟩
def eG{β:Type}(rec:xC β)(k1:Ak5 β)(k2:Ak6 β):xC β:=λs2 Bc Dz BF=>cond (decide (BF<Dz)) (cond (decide (0<=BF)&&decide (BF<(List.length Bc:Int))) (let e:=List.getD Bc (Int.toNat BF) (([]:List UInt8),(([]:List AU),([]:List BA)));cond (decide (0<=BF)&&decide (BF<(List.length s2:Int))) (let e2:=List.getD s2 (Int.toNat BF) (([]:List UInt8),(([]:List AU),([]:List BA)));aL e e2 (λrsameSchedule=>cond (!rsameSchedule) (k1 false) (rec s2 Bc Dz (IntKind.i64.wrap (BF+(1:Int)))))) none) none) (k2 ())
def V4(m:Nat){β:Type}(k1:Ak5 β)(k2:Ak6 β):xC β:=DT (λr=>eG r k1 k2) none m
theorem Ak8{β:Type}(i:Nat)(k1 k2):V4 (β:=β) (i+1) k1 k2=eG (V4 i k1 k2) k1 k2:=rfl
def xD{β:Type}:=hid (V4 (β:=β) fuel)
noncomputable def AAn:Pb:=⟨58,Ak7,λ_=>xD,pl (p:=Ak7) Ak4 [] (g:=λi _=>V4 i)⟩
def eH:AAm:=hid λs1 s2 k=>cond (!decide ((List.length s1:Int)=(List.length s2:Int))) (k false) (xD (λt6=>k t6) (λ_=>k true) s2 s1 (List.length s1:Int) 0)
noncomputable def AAo:En:=⟨38,.spec (sg [Kg,Kg,(false,[.fn 39 []])] [] [AS] [] eH),pf Ak4 [AAn] [.tmp 6] Tryz.func38⟩
abbrev AAp:={β:Type}->As->As->(Bool->Option β)->Option β
def V5:AAp:=hid λa b k=>a8 a.1 b.1 (λEY=>cond EY (cE a.2.1 b.2.1 (λL2=>cond L2 (dK a.2.2.1 b.2.2.1 (λNP=>cond NP (eH a.2.2.2 b.2.2.2 (λAbH=>k AbH)) (k false))) (k false))) (k false))
noncomputable def eI:En:=⟨14,.spec (sg [ED,ED] [] [AS] [] V5),pf [AzD,AyC,AAo,Awp] [] [.tmp 4] Tryz.func14⟩
abbrev AAq:={β:Type}->AJ->(Int->Int->Ca->Option β)->Option β
noncomputable def xE:List En:=[AA3,AeQ,tI]
abbrev xF(β:Type):=Int->Int->Ca->Option β
abbrev xG(β:Type):=Ca->Option β
abbrev xH(β:Type):=Int->Int->Ca->E6->Option β
noncomputable def xI:Pc:=⟨54,0,AL 58 (Ay Tryz.f21),⟨0,[2,13,14,15],[CH,FI,Ab,Ab],[.row 96 (.prod (.int .i64) (.slice FH)),.row 9 .str]⟩,[(.ret,⟨0,[2,3,4],[CH,Ab,Ab],YX⟩),(.exit 0,⟨0,[2],[CH],YX⟩)]⟩
abbrev Ak9(β:Type):=Int->Int->Ca->Option β
abbrev Aka(β:Type):=Int->Int->Ca->E6->Option β
abbrev AAr(β:Type):=Int->Int->Int->Int->Ca->CN->E6->Option β
noncomputable def Akb:Pc:=⟨54,0,AL 231 (E5 xI.c),⟨0,[2,5,7,8,13,14,15],[CH,Ab,FI,Ab,(false,[.rowh 2]),Ab,Ab],[.row 96 (.prod (.int .i64) (.slice FH)),.row 85 FH,.row 9 .str]⟩,[(.ret,⟨0,[2,3,4],[CH,Ab,Ab],YX⟩),(.normal,⟨0,[2,13,14,15],[CH,FI,Ab,Ab],[.row 96 (.prod (.int .i64) (.slice FH)),.row 9 .str]⟩)]⟩
def xJ{β:Type}(k1:Ak9 β)(k2:Aka β):AAr β:=λi_ e C9 Bc l t BI=>cond (!decide (e=0)) (let line:=(IntKind.i64.wrap (i_+1));k1 line e ([]:List KU)) (cond (decide ((0:Int)<(List.length t:Int))) (let l2:=([((IntKind.i64.wrap (i_+1)),t)]:List KU);cond (decide ((List.length l+List.length l2)*32<=Bl)) (let l3:=(l++l2);k2 C9 Bc l3 BI) none) (k2 C9 Bc l BI))
def Ns{β:Type}:=hid (xJ (β:=β))
noncomputable def AAs:Pb:=⟨231,Akb,λ_=>Ns,pe (p:=Akb) xE [] 231 (g:=λ_=>xJ)⟩
def eJ{β:Type}(rec:xH β)(k1:xF β)(k2:xG β):xH β:=λC9 Bc l BI=>cond (decide (Bc<C9)) (cond (decide (0<=Bc)&&decide (Bc<(List.length BI:Int))) (let s:=(List.getD BI (Int.toNat Bc) ([]:List UInt8));Rn s (λjO Sb=>cond (decide (jO=0)) (cond (decide ((0:Int)<(List.length Sb:Int))) (DV Sb (λXw=>cond (!Xw) (Ns (λline e l2=>k1 line e l2) (λMC t152 l2 MB=>rec MC (IntKind.i64.wrap (t152+(1:Int))) l2 MB) Bc 2 C9 Bc l Sb BI) (Ns (λline e l2=>k1 line e l2) (λMC t152 l2 MB=>rec MC (IntKind.i64.wrap (t152+(1:Int))) l2 MB) Bc jO C9 Bc l Sb BI))) (Ns (λline e l2=>k1 line e l2) (λMC t152 l2 MB=>rec MC (IntKind.i64.wrap (t152+(1:Int))) l2 MB) Bc jO C9 Bc l Sb BI)) (Ns (λline e l2=>k1 line e l2) (λMC t152 l2 MB=>rec MC (IntKind.i64.wrap (t152+(1:Int))) l2 MB) Bc jO C9 Bc l Sb BI))) none) (k2 l)
def Kk(m:Nat){β:Type}(k1:xF β)(k2:xG β):xH β:=DT (λr=>eJ r k1 k2) none m
theorem Akc{β:Type}(i:Nat)(k1 k2):Kk (β:=β) (i+1) k1 k2=eJ (Kk i k1 k2) k1 k2:=rfl
def xK{β:Type}:=hid (Kk (β:=β) fuel)
noncomputable def AAt:Pb:=⟨58,xI,λ_=>xK,pl (p:=xI) xE [AAs] (g:=λi _=>Kk i)⟩
def V6:AAq:=hid λtext k=>cond (decide ((65536:Int)<(List.length text:Int))) (k 0 5 ([]:List KU)) (QN text ([10]:List UInt8) (λPH=>xK (λline e l=>k line e l) (λl=>k 0 0 l) (List.length PH:Int) 0 ([]:List KU) PH))
noncomputable def AAu:En:=⟨21,.spec (sg [BR] [] [CH,Ab,Ab] YX V6),pf xE [AAt] [.tmp 2,.tmp 3,.tmp 4] Tryz.func21⟩
abbrev AAv:={β:Type}->As->(Int->Option β)->Option β
def V7:AAv:=hid λc k=>cond (decide ((16:Int)<(List.length c.1:Int))) (k 5) (cond (decide ((32:Int)<(List.length c.2.1:Int))) (k 5) (cond (decide ((8:Int)<(List.length c.2.2.1:Int))) (k 5) (cond (decide ((12:Int)<(List.length c.2.2.2:Int))) (k 5) (eE c (λAp7=>cond (!decide (Ap7=0)) (k Ap7) (bG c (λAp5=>cond (!decide (Ap5=0)) (k Ap5) (bO c (λAp3=>cond (!decide (Ap3=0)) (k Ap3) (bW c (λAJx=>k AJx)))))))))))
noncomputable def AAw:En:=⟨40,.spec (sg [ED] [] [Ab] [] V7),pf [AxQ,AxL,AxV,AA9] [] [.tmp 2] Tryz.func40⟩
abbrev AAx:={β:Type}->Bh->As->(Int->As->Option β)->Option β
def xL:AAx:=hid λx t1 k=>eC t1 x (λrcheckCalendar=>k rcheckCalendar t1)
noncomputable def AAy:En:=⟨60,.spec (sg [O7,AA] [Cj] [Ab] [Cj] xL),pf [AA6] [] [.tmp 3] Tryz.func60⟩
abbrev AAz:={β:Type}->AU->As->(Int->As->Option β)->Option β
def xM:AAz:=hid λl t1 k=>eF t1 l (λrcheckLayer=>k rcheckLayer t1)
noncomputable def AAA:En:=⟨120,.spec (sg [Nh,AA] [Cj] [Ab] [Cj] xM),pf [AAl] [] [.tmp 3] Tryz.func120⟩
abbrev AAB:={β:Type}->Kf->As->(Int->As->Option β)->Option β
noncomputable def Akd:List En:=[Ato,AAA,UA]
abbrev Ake(β:Type):=Int->As->Option β
abbrev Akf(β:Type):=As->Option β
abbrev xN(β:Type):=Kf->Int->Int->As->(List It)->Option β
noncomputable def Akg:Pc:=⟨34,1,AL 58 (Ay Tryz.f118),⟨1,[1,2,7,13,14,15],[(false,[.fn 119 []]),(false,[.fn 120 [0]]),(false,[.maph 1]),O6,Ab,Ab],T1⟩,[(.ret,⟨1,[6],[Ab],[Cj]⟩),(.exit 0,⟨1,[],[],[Cj]⟩)]⟩
def eK{β:Type}(rec:xN β)(k1:Ake β)(k2:Akf β):xN β:=λBI C9 Bc AZ seen=>cond (decide (Bc<C9)) (cond (decide (0<=Bc)&&decide (Bc<(List.length BI:Int))) (let e:=List.getD BI (Int.toNat Bc) (([]:List UInt8),(0,((0,0),(0,(0,(([]:List Int),(([]:List BJ),(0,0))))))));p9 e (λrcheckSchedule1=>Np rcheckSchedule1 seen (λEC L0=>cond (!decide (EC=0)) (k1 EC AZ) (xM e AZ (λrcheckSchedule2 Aof=>cond (!decide (rcheckSchedule2=(0:Int))) (k1 rcheckSchedule2 Aof) (rec BI C9 (IntKind.i64.wrap (Bc+(1:Int))) Aof L0)))))) none) (k2 AZ)
def Ro(m:Nat){β:Type}(k1:Ake β)(k2:Akf β):xN β:=JB (λr=>eK r k1 k2) none m
theorem Akh{β:Type}(i:Nat)(k1 k2):Ro (β:=β) (i+1) k1 k2=eK (Ro i k1 k2) k1 k2:=rfl
def xO{β:Type}:=hid (Ro (β:=β) fuel)
noncomputable def AAC:Pb:=⟨58,Akg,λ_=>xO,pl (p:=Akg) Akd [] (g:=λi _=>Ro i)⟩
def eL:AAB:=hid λl AZ k=>let m_:=([]:List It);xO (λt6 BO=>k t6 BO) (λBO=>k 0 BO) l (List.length l:Int) 0 AZ m_
noncomputable def AAD:En:=⟨118,.spec (sg [O6,(false,[.fn 119 []]),(false,[.fn 120 [0]])] [Cj] [Ab] [Cj] eL),pf Akd [AAC] [.tmp 6] Tryz.func118⟩
abbrev AAE:={β:Type}->As->Int->BA->(As->Int->Option β)->Option β
def eM:AAE:=hid λc Ha e k=>V7 c (λFR=>let t:=(!decide (FR=0));cond t (k Nf 8) (cond (decide (Ha<0)) (k Nf 3) (let t2:=(decide ((List.length c.2.2.2:Int)<=Ha));cond t2 (k Nf 3) (cond (decide (0<=Ha)&&decide (Ha<(List.length c.2.2.2:Int))) (let e2:=List.getD c.2.2.2 (Int.toNat Ha) (([]:List UInt8),(([]:List AU),([]:List BA)));cond (decide (List.length e2.2.2*40<=Bl)) (let l:=([e]:List BA);cond (decide ((List.length e2.2.2+List.length l)*40<=Bl)) (let l2:=(e2.2.2++l);Zb c Ha l2 (λAp6=>V7 Ap6 (λjL=>cond (!decide (jL=(0:Int))) (k Nf jL) (k Ap6 0)))) none) none) none))))
noncomputable def AAF:En:=⟨15,.spec (sg [ED,Ab,Tt] [] [ED,Ab] [] eM),pf [AAw,As3] [] [.cell 6 32,.tmp 7] Tryz.func15⟩
abbrev AAG:={β:Type}->As->By->(Int->Option β)->Option β
noncomputable def Aki:List En:=[Ayh,AAD]
abbrev Akj(β:Type):=Int->Option β
abbrev Akk(β:Type):=Unit->Option β
abbrev xP(β:Type):=(List BA)->Int->Int->As->Option β
noncomputable def Akl:Pc:=⟨40,0,AL 250 (Ay Tryz.f65),⟨0,[2,27,28,29],[AA,O3,Ab,Ab],[Cj]⟩,[(.ret,⟨0,[4],[Ab],[]⟩),(.exit 0,⟨0,[],[],[]⟩)]⟩
def eN{β:Type}(rec:xP β)(k1:Akj β)(k2:Akk β):xP β:=λPX X8 K8 c=>cond (decide (K8<X8)) (cond (decide (0<=K8)&&decide (K8<(List.length PX:Int))) (let e:=List.getD PX (Int.toNat K8) (0,(0,(0,(0,0))));bX c e (λrcheckEdit=>cond (!decide (rcheckEdit=0)) (k1 rcheckEdit) (rec PX X8 (IntKind.i64.wrap (K8+(1:Int))) c))) none) (k2 ())
def V8(m:Nat){β:Type}(k1:Akj β)(k2:Akk β):xP β:=DT (λr=>eN r k1 k2) none m
theorem Akm{β:Type}(i:Nat)(k1 k2):V8 (β:=β) (i+1) k1 k2=eN (V8 i k1 k2) k1 k2:=rfl
def eO{β:Type}:=hid (V8 (β:=β) fuel)
noncomputable def AAH:Pb:=⟨250,Akl,λ_=>eO,pl (p:=Akl) Aki [] (g:=λi _=>V8 i)⟩
def eP:AAG:=hid λc s k=>cond (decide ((6:Int)<(List.length s.2.1:Int))) (k 5) (cond (decide ((48:Int)<(List.length s.2.2:Int))) (k 5) (eL s.2.1 c (λSo Abu=>cond (!decide (So=0)) (k So) (eO (λt4=>k t4) (λ_=>k 0) s.2.2 (List.length s.2.2:Int) 0 Abu))))
noncomputable def AAI:En:=⟨65,.spec (sg [ED,Tv] [] [Ab] [] eP),pf Aki [AAH] [.tmp 4] Tryz.func65⟩
abbrev AAJ:={β:Type}->As->Int->Int->Ce->(As->Ce->Option β)->Option β
noncomputable def Akn:List En:=[AhE,AAF]
abbrev xQ(β:Type):=Ce->As->As->Option β
abbrev xR(β:Type):=Int->Int->Ce->As->As->Option β
noncomputable def Ako:Pc:=⟨28,1,AL 12 (Ay Tryz.f7),⟨1,[0,2,3,5,8],[AA,Ab,Ab,Ck,Dn],[Dm,Cj,Cj]⟩,[(.exit 0,⟨1,[5,8],[Ck,Dn],[Dm,Cj,Cj]⟩)]⟩
def eQ{β:Type}(rec:xR β)(k1:xQ β):xR β:=λHa n d c t8=>cond (decide ((0:Int)<n)) (U6 c.1 c.2.1 c.2.2.1 d (λXv jF=>eM c Ha Xv (λAIS AIT=>cond (decide (AIT=(0:Int))) (let n2:=(IntKind.i64.wrap (n-1));rec Ha n2 jF AIS t8) (let n2:=(IntKind.i64.wrap (n-1));rec Ha n2 jF c t8)))) (k1 d c t8)
def V9(m:Nat){β:Type}(k1:xQ β):xR β:=JB (λr=>eQ r k1) none m
theorem Akp{β:Type}(i:Nat)(k1):V9 (β:=β) (i+1) k1=eQ (V9 i k1) k1:=rfl
def xS{β:Type}:=hid (V9 (β:=β) fuel)
noncomputable def AAK:Pb:=⟨12,Ako,λ_=>xS,pl (p:=Ako) Akn [] (g:=λi _=>V9 i)⟩
def xT:AAJ:=hid λc Ha n d k=>xS (λAZ c2 t8=>k c2 AZ) Ha n d c Nf
noncomputable def AAL:En:=⟨7,.spec (sg [AA,ED,Ab,Ab] [Dm] [ED] [Dm] xT),pf Akn [AAK] [.cell 8 32] Tryz.func7⟩
abbrev AAM:={β:Type}->By->As->(Int->As->Option β)->Option β
def xU:AAM:=hid λs t1 k=>eP t1 s (λrcheckSchedule=>k rcheckSchedule t1)
noncomputable def AAN:En:=⟨64,.spec (sg [Tv,AA] [Cj] [Ab] [Cj] xU),pf [AAI] [] [.tmp 3] Tryz.func64⟩
abbrev AAO:={β:Type}->G7->(Int->Option β)->Option β
noncomputable def Akq:List En:=[Atf]
abbrev Akr(β:Type):=Int->Option β
abbrev Aks(β:Type):=Unit->Option β
abbrev xV(β:Type):=G7->Int->Int->Option β
noncomputable def Akt:Pc:=⟨19,0,AL 26 (Ay Tryz.f166),⟨0,[0,1,7,8],[GP,(false,[.fn 110 []]),Ab,Ab],[]⟩,[(.ret,⟨0,[4],[Ab],[]⟩),(.exit 0,⟨0,[],[],[]⟩)]⟩
def eR{β:Type}(rec:xV β)(k1:Akr β)(k2:Aks β):xV β:=λs t7 t8=>cond (decide (t8<t7)) (cond (decide (0<=t8)&&decide (t8<(List.length s:Int))) (let e:=List.getD s (Int.toNat t8) (0,(0,(0,(0,(0,(0,0))))));oZ e (λrcheckZone1=>cond rcheckZone1 (k1 t8) (rec s t7 (IntKind.i64.wrap (t8+(1:Int)))))) none) (k2 ())
def VA(m:Nat){β:Type}(k1:Akr β)(k2:Aks β):xV β:=G8 (λr=>eR r k1 k2) none m
theorem Aku{β:Type}(i:Nat)(k1 k2):VA (β:=β) (i+1) k1 k2=eR (VA i k1 k2) k1 k2:=rfl
def xW{β:Type}:=hid (VA (β:=β) fuel)
noncomputable def AAP:Pb:=⟨26,Akt,λ_=>xW,pl (p:=Akt) Akq [] (g:=λi _=>VA i)⟩
def xX:AAO:=hid λs k=>xW (λt4=>k t4) (λ_=>k (-1)) s (List.length s:Int) 0
noncomputable def AAQ:En:=⟨166,.spec (sg [GP,(false,[.fn 110 []])] [] [Ab] [] xX),pf Akq [AAP] [.tmp 4] Tryz.func166⟩
abbrev AAR:={β:Type}->G7->(Bool->Option β)->Option β
def eS:AAR:=hid λs k=>xX s (λX1=>let t:=(decide ((0:Int)<=X1));k t)
noncomputable def AAS:En:=⟨109,.spec (sg [GP,(false,[.fn 110 []])] [] [AS] [] eS),pf [AAQ] [] [.tmp 4] Tryz.func109⟩
abbrev AAT:={β:Type}->AK->(Int->Option β)->Option β
def Rp:AAT:=hid λz k=>x8 z (λFR=>cond (!decide (FR=0)) (k 8) (cond (!decide ((Int.tmod z.2.1 60)=0)) (k 8) (eS z.2.2 (λX1=>cond X1 (k 8) (k 0)))))
noncomputable def AAU:En:=⟨55,.spec (sg [IU] [] [Ab] [] Rp),pf [AAS,AAb] [] [.tmp 2] Tryz.func55⟩
abbrev AAV:={β:Type}->AF->(Int->Option β)->Option β
noncomputable def Akv:List En:=[Ast,AAU,UA]
abbrev Akw(β:Type):=Int->Option β
abbrev Akx(β:Type):=Unit->Option β
abbrev xY(β:Type):=AF->Int->Int->(List It)->Option β
noncomputable def Aky:Pc:=⟨34,0,AL 58 (Ay Tryz.f53),⟨0,[1,2,7,13,14,15],[(false,[.fn 54 []]),(false,[.fn 55 []]),(false,[.maph 0]),LT,Ab,Ab],[.map 129 .str .bool false]⟩,[(.ret,⟨0,[6],[Ab],[]⟩),(.exit 0,⟨0,[],[],[]⟩)]⟩
def eT{β:Type}(rec:xY β)(k1:Akw β)(k2:Akx β):xY β:=λBI C9 Bc seen=>cond (decide (Bc<C9)) (cond (decide (0<=Bc)&&decide (Bc<(List.length BI:Int))) (let e:=List.getD BI (Int.toNat Bc) (([]:List UInt8),(0,([]:List BZ)));oH e (λAIW=>Np AIW seen (λEC L0=>cond (!decide (EC=0)) (k1 EC) (Rp e (λrcheckZone=>cond (!decide (rcheckZone=0)) (k1 rcheckZone) (rec BI C9 (IntKind.i64.wrap (Bc+(1:Int))) L0)))))) none) (k2 ())
def Rq(m:Nat){β:Type}(k1:Akw β)(k2:Akx β):xY β:=DT (λr=>eT r k1 k2) none m
theorem Akz{β:Type}(i:Nat)(k1 k2):Rq (β:=β) (i+1) k1 k2=eT (Rq i k1 k2) k1 k2:=rfl
def xZ{β:Type}:=hid (Rq (β:=β) fuel)
noncomputable def AAW:Pb:=⟨58,Aky,λ_=>xZ,pl (p:=Aky) Akv [] (g:=λi _=>Rq i)⟩
def eU:AAV:=hid λl k=>let m_:=([]:List It);xZ (λt6=>k t6) (λ_=>k 0) l (List.length l:Int) 0 m_
noncomputable def AAX:En:=⟨53,.spec (sg [LT,(false,[.fn 54 []]),(false,[.fn 55 []])] [] [Ab] [] eU),pf Akv [AAW] [.tmp 6] Tryz.func53⟩
abbrev AAY:={β:Type}->AE->As->(Int->As->Option β)->Option β
noncomputable def AkA:List En:=[Asv,AAy,UA]
abbrev AkB(β:Type):=Int->As->Option β
abbrev AkC(β:Type):=As->Option β
abbrev y5(β:Type):=AE->Int->Int->As->(List It)->Option β
noncomputable def AkD:Pc:=⟨34,1,AL 58 (Ay Tryz.f58),⟨1,[1,2,7,13,14,15],[(false,[.fn 59 []]),(false,[.fn 60 [0]]),(false,[.maph 1]),LS,Ab,Ab],T1⟩,[(.ret,⟨1,[6],[Ab],[Cj]⟩),(.exit 0,⟨1,[],[],[Cj]⟩)]⟩
def eV{β:Type}(rec:y5 β)(k1:AkB β)(k2:AkC β):y5 β:=λBI C9 Bc AZ seen=>cond (decide (Bc<C9)) (cond (decide (0<=Bc)&&decide (Bc<(List.length BI:Int))) (let e:=List.getD BI (Int.toNat Bc) (([]:List UInt8),(0,([]:List Int)));oI e (λjL=>Np jL seen (λEC L0=>cond (!decide (EC=0)) (k1 EC AZ) (xL e AZ (λAoX Aoc=>cond (!decide (AoX=(0:Int))) (k1 AoX Aoc) (rec BI C9 (IntKind.i64.wrap (Bc+(1:Int))) Aoc L0)))))) none) (k2 AZ)
def Rr(m:Nat){β:Type}(k1:AkB β)(k2:AkC β):y5 β:=JB (λr=>eV r k1 k2) none m
theorem AkE{β:Type}(i:Nat)(k1 k2):Rr (β:=β) (i+1) k1 k2=eV (Rr i k1 k2) k1 k2:=rfl
def y6{β:Type}:=hid (Rr (β:=β) fuel)
noncomputable def AAZ:Pb:=⟨58,AkD,λ_=>y6,pl (p:=AkD) AkA [] (g:=λi _=>Rr i)⟩
def eW:AAY:=hid λl AZ k=>let m_:=([]:List It);y6 (λt6 BO=>k t6 BO) (λBO=>k 0 BO) l (List.length l:Int) 0 AZ m_
noncomputable def AB0:En:=⟨58,.spec (sg [LS,(false,[.fn 59 []]),(false,[.fn 60 [0]])] [Cj] [Ab] [Cj] eW),pf AkA [AAZ] [.tmp 6] Tryz.func58⟩
abbrev AB1:={β:Type}->AI->As->(Int->As->Option β)->Option β
noncomputable def AkF:List En:=[Asx,AAN,UA]
abbrev AkG(β:Type):=Int->As->Option β
abbrev AkH(β:Type):=As->Option β
abbrev y7(β:Type):=AI->Int->Int->As->(List It)->Option β
noncomputable def AkI:Pc:=⟨34,1,AL 58 (Ay Tryz.f62),⟨1,[1,2,7,13,14,15],[(false,[.fn 63 []]),(false,[.fn 64 [0]]),(false,[.maph 1]),Kg,Ab,Ab],T1⟩,[(.ret,⟨1,[6],[Ab],[Cj]⟩),(.exit 0,⟨1,[],[],[Cj]⟩)]⟩
def eX{β:Type}(rec:y7 β)(k1:AkG β)(k2:AkH β):y7 β:=λBI C9 Bc AZ seen=>cond (decide (Bc<C9)) (cond (decide (0<=Bc)&&decide (Bc<(List.length BI:Int))) (let e:=List.getD BI (Int.toNat Bc) (([]:List UInt8),(([]:List AU),([]:List BA)));oJ e (λAIX=>Np AIX seen (λEC L0=>cond (!decide (EC=0)) (k1 EC AZ) (xU e AZ (λAoY Aod=>cond (!decide (AoY=(0:Int))) (k1 AoY Aod) (rec BI C9 (IntKind.i64.wrap (Bc+(1:Int))) Aod L0)))))) none) (k2 AZ)
def Rs(m:Nat){β:Type}(k1:AkG β)(k2:AkH β):y7 β:=JB (λr=>eX r k1 k2) none m
theorem AkJ{β:Type}(i:Nat)(k1 k2):Rs (β:=β) (i+1) k1 k2=eX (Rs i k1 k2) k1 k2:=rfl
def y8{β:Type}:=hid (Rs (β:=β) fuel)
noncomputable def AB2:Pb:=⟨58,AkI,λ_=>y8,pl (p:=AkI) AkF [] (g:=λi _=>Rs i)⟩
def eY:AB1:=hid λl AZ k=>let m_:=([]:List It);y8 (λt6 BO=>k t6 BO) (λBO=>k 0 BO) l (List.length l:Int) 0 AZ m_
noncomputable def AB3:En:=⟨62,.spec (sg [Kg,(false,[.fn 63 []]),(false,[.fn 64 [0]])] [Cj] [Ab] [Cj] eY),pf AkF [AB2] [.tmp 6] Tryz.func62⟩
abbrev AB4:={β:Type}->As->(Int->Option β)->Option β
noncomputable def y9:List En:=[AwW,UA,AB0,AB3,AAX]
abbrev AkK(β:Type):=Int->Option β
abbrev AkL(β:Type):=As->Option β
abbrev yA(β:Type):=AD->Int->Int->As->(List It)->Option β
noncomputable def yB:Pc:=⟨72,0,AL 250 (Ay Tryz.f22),⟨0,[1,4,39,40,41],[AA,(false,[.maph 1]),KX,Ab,Ab],T1⟩,[(.ret,⟨0,[2],[Ab],[]⟩),(.exit 0,⟨0,[1],[AA],[Cj]⟩)]⟩
abbrev AB5(β:Type):=Int->Option β
abbrev AB6(β:Type):=AD->Int->Int->As->(List It)->Option β
abbrev AB7(β:Type):=Int->AD->Int->Int->As->(List It)->Bb->Option β
noncomputable def AkM:Pc:=⟨72,0,AL 231 (E5 yB.c),⟨0,[1,4,6,7,39,40,41],[AA,(false,[.maph 1]),Dn,Ab,KX,Ab,Ab],[Cj,.map 129 .str .bool false,.cells 78 [.data F6]]⟩,[(.ret,⟨0,[2],[Ab],[]⟩),(.normal,⟨0,[1,4,39,40,41],[AA,(false,[.maph 1]),KX,Ab,Ab],T1⟩)]⟩
def yC{β:Type}(k1:AB5 β)(k2:AB6 β):AB7 β:=λe L4 t40 K9 c seen p_=>cond (decide (e=0)) (aM c p_ (λrcheckPerson=>cond (!decide (rcheckPerson=0)) (k1 rcheckPerson) (k2 L4 t40 K9 c seen))) (cond (!decide (e=0)) (k1 e) (k2 L4 t40 K9 c seen))
def VB{β:Type}:=hid (yC (β:=β))
noncomputable def AB8:Pb:=⟨231,AkM,λ_=>VB,pe (p:=AkM) y9 [] 231 (g:=λ_=>yC)⟩
def eZ{β:Type}(rec:yA β)(k1:AkK β)(k2:AkL β):yA β:=λL4 t40 K9 c seen=>cond (decide (K9<t40)) (cond (decide (0<=K9)&&decide (K9<(List.length L4:Int))) (let e:=List.getD L4 (Int.toNat K9) (([]:List UInt8),(0,(([]:List BJ),(0,(0,false)))));Np e.1 seen (λEC L0=>cond (decide (e.1=([110,111,98,111,100,121]:List UInt8))) (VB (λt2=>k1 t2) (λX9 XA XB c2 seen2=>rec X9 XA (IntKind.i64.wrap (XB+(1:Int))) c2 seen2) 2 L4 t40 K9 c L0 e) (VB (λt2=>k1 t2) (λX9 XA XB c2 seen2=>rec X9 XA (IntKind.i64.wrap (XB+(1:Int))) c2 seen2) EC L4 t40 K9 c L0 e))) none) (k2 c)
def Rt(m:Nat){β:Type}(k1:AkK β)(k2:AkL β):yA β:=JB (λr=>eZ r k1 k2) none m
theorem AkN{β:Type}(i:Nat)(k1 k2):Rt (β:=β) (i+1) k1 k2=eZ (Rt i k1 k2) k1 k2:=rfl
def f4{β:Type}:=hid (Rt (β:=β) fuel)
noncomputable def AB9:Pb:=⟨250,yB,λ_=>f4,pl (p:=yB) y9 [AB8] (g:=λi _=>Rt i)⟩
def Ru:AB4:=hid λc k=>cond (decide ((16:Int)<(List.length c.1:Int))) (k 5) (cond (decide ((32:Int)<(List.length c.2.1:Int))) (k 5) (cond (decide ((8:Int)<(List.length c.2.2.1:Int))) (k 5) (cond (decide ((12:Int)<(List.length c.2.2.2:Int))) (k 5) (eU c.1 (λEY=>cond (!decide (EY=0)) (k EY) (let m_:=([]:List It);f4 (λt2=>k t2) (λc2=>eW c2.2.2.1 c2 (λNP Abt=>cond (!decide (NP=0)) (k NP) (eY Abt.2.2.2 Abt (λAbH AKc=>k AbH)))) c.2.1 (List.length c.2.1:Int) 0 c m_))))))
noncomputable def AkO:En:=⟨22,.spec (sg [ED] [] [Ab] [] Ru),pf y9 [AB9] [.tmp 2] Tryz.func22⟩
abbrev ABa:={β:Type}->As->(Ca->Int->Option β)->Option β
noncomputable def Iz:List En:=[IW,Nl,AyH,Av0,AwQ,AwL,AwC,AkO]
abbrev yD(β:Type):=As->AF->AD->AE->AI->Ca->Option β
abbrev yE(β:Type):=AF->Int->Int->As->AF->AD->AE->AI->Ca->Option β
noncomputable def AkP:Pc:=⟨99,0,AL 122 (Ay Tryz.f12),⟨0,[1,5,27,28,29],[AA,Ck,LT,Ab,Ab],QK⟩,[(.exit 0,⟨0,[1,5],[AA,Ck],QK⟩)]⟩
abbrev yF(β:Type):=As->AF->AD->AE->AI->Ca->Option β
abbrev yG(β:Type):=AD->Int->Int->As->AF->AD->AE->AI->Ca->Option β
noncomputable def AkQ:Pc:=⟨99,0,AL 250 (Ay Tryz.f12),⟨0,[1,5,38,39,40],[AA,Ck,KX,Ab,Ab],QK⟩,[(.exit 2,⟨0,[1,5],[AA,Ck],QK⟩)]⟩
abbrev yH(β:Type):=As->AF->AD->AE->AI->Ca->Option β
abbrev yI(β:Type):=AE->Int->Int->As->AF->AD->AE->AI->Ca->Option β
noncomputable def AkR:Pc:=⟨99,0,AL 506 (Ay Tryz.f12),⟨0,[1,5,49,50,51],[AA,Ck,LS,Ab,Ab],QK⟩,[(.exit 4,⟨0,[1,5],[AA,Ck],QK⟩)]⟩
abbrev AkS(β:Type):=AF->AD->AE->AI->Ca->Option β
abbrev yJ(β:Type):=AI->Int->Int->AF->AD->AE->AI->Ca->Option β
noncomputable def f6:Pc:=⟨99,0,AL 1018 (Ay Tryz.f12),⟨0,[5,60,61,62],[AA,Kg,Ab,Ab],Ep⟩,[(.exit 6,⟨0,[5],[AA],Ep⟩)]⟩
abbrev AkT(β:Type):=AI->Int->Int->AF->AD->AE->AI->By->Ca->Option β
abbrev yK(β:Type):=AI->Int->Int->Kf->Int->Int->AF->AD->AE->AI->By->Ca->Option β
noncomputable def AkU:Pc:=⟨99,0,AL 922 (E5 f6.c),⟨0,[5,13,60,61,62,73,74,75],[AA,Ck,Kg,Ab,Ab,O6,Ab,Ab],[o8,Tu,.tree 96 KV]⟩,[(.exit 8,⟨0,[5,13,60,61,62],[AA,Ck,Kg,Ab,Ab],[o8,Tu,.tree 96 KV]⟩)]⟩
abbrev yL(β:Type):=AI->Int->Int->AF->AD->AE->AI->Ca->Option β
abbrev yM(β:Type):=AI->Int->Int->(List BA)->Int->Int->AF->AD->AE->AI->Ca->Option β
noncomputable def AkV:Pc:=⟨99,0,AL 926 (E5 f6.c),⟨0,[5,60,61,62,84,85,86],[AA,Kg,Ab,Ab,O3,Ab,Ab],Ep⟩,[(.exit 10,⟨0,[5,60,61,62],[AA,Kg,Ab,Ab],Ep⟩)]⟩
def f9{β:Type}(rec:yE β)(k1:yD β):yE β:=λPX X8 K8 c w w2 w3 w4 AB=>cond (decide (K8<X8)) (cond (decide (0<=K8)&&decide (K8<(List.length PX:Int))) (let e:=List.getD PX (Int.toNat K8) (([]:List UInt8),(0,([]:List BZ)));aH e w w2 w3 w4 AB (λAIO AIP AIQ AIR Abs=>rec PX X8 (IntKind.i64.wrap (K8+(1:Int))) c AIO AIP AIQ AIR Abs)) none) (k1 c w w2 w3 w4 AB)
def VC(m:Nat){β:Type}(k1:yD β):yE β:=QL (λr=>f9 r k1) none m
theorem AkW{β:Type}(i:Nat)(k1):VC (β:=β) (i+1) k1=f9 (VC i k1) k1:=rfl
def fE{β:Type}:=hid (VC (β:=β) fuel)
noncomputable def ABb:Pb:=⟨122,AkP,λ_=>fE,HY mixed (X:=⟨look tab,gam Iz,false,false,false,false,FJ,none,0,[]⟩) (p:=AkP) BC Iz rfl [] (g:=λi _=>VC i) (by kernel_rfl) rfl (by kernel_rfl) (λ_ _=>rfl) λ_ _ _ _=>by kernel_rfl⟩
def fF{β:Type}(rec:yG β)(k1:yF β):yG β:=λMD L4 t40 c w w2 w3 w4 AB=>cond (decide (t40<L4)) (cond (decide (0<=t40)&&decide (t40<(List.length MD:Int))) (let e:=List.getD MD (Int.toNat t40) (([]:List UInt8),(0,(([]:List BJ),(0,(0,false)))));aI e w w2 w3 w4 AB (λAIK AIL AIM AIN Abr=>rec MD L4 (IntKind.i64.wrap (t40+(1:Int))) c AIK AIL AIM AIN Abr)) none) (k1 c w w2 w3 w4 AB)
def VD(m:Nat){β:Type}(k1:yF β):yG β:=QL (λr=>fF r k1) none m
theorem AkX{β:Type}(i:Nat)(k1):VD (β:=β) (i+1) k1=fF (VD i k1) k1:=rfl
def VE{β:Type}:=hid (VD (β:=β) fuel)
noncomputable def ABc:Pb:=⟨250,AkQ,λ_=>VE,HY mixed (X:=⟨look tab,gam Iz,false,false,false,false,FJ,none,0,[]⟩) (p:=AkQ) BC Iz rfl [] (g:=λi _=>VD i) (by kernel_rfl) rfl (by kernel_rfl) (λ_ _=>rfl) λ_ _ _ _=>by kernel_rfl⟩
def fG{β:Type}(rec:yI β)(k1:yH β):yI β:=λt49 jR t51 c w w2 w3 w4 AB=>cond (decide (t51<jR)) (cond (decide (0<=t51)&&decide (t51<(List.length t49:Int))) (let e:=List.getD t49 (Int.toNat t51) (([]:List UInt8),(0,([]:List Int)));cG e w w2 w3 w4 AB (λAIy AIz AIA AIB Abl=>rec t49 jR (IntKind.i64.wrap (t51+(1:Int))) c AIy AIz AIA AIB Abl)) none) (k1 c w w2 w3 w4 AB)
def VG(m:Nat){β:Type}(k1:yH β):yI β:=QL (λr=>fG r k1) none m
theorem AkY{β:Type}(i:Nat)(k1):VG (β:=β) (i+1) k1=fG (VG i k1) k1:=rfl
def VH{β:Type}:=hid (VG (β:=β) fuel)
noncomputable def ABd:Pb:=⟨506,AkR,λ_=>VH,HY mixed (X:=⟨look tab,gam Iz,false,false,false,false,FJ,none,0,[]⟩) (p:=AkR) BC Iz rfl [] (g:=λi _=>VG i) (by kernel_rfl) rfl (by kernel_rfl) (λ_ _=>rfl) λ_ _ _ _=>by kernel_rfl⟩
def fH{β:Type}(rec:yK β)(k1:AkT β):yK β:=λJX FS DH Ac0 Ap8 t75 w w2 w3 w4 s AB=>cond (decide (t75<Ap8)) (cond (decide (0<=t75)&&decide (t75<(List.length Ac0:Int))) (let e:=List.getD Ac0 (Int.toNat t75) (([]:List UInt8),(0,((0,0),(0,(0,(([]:List Int),(([]:List BJ),(0,0))))))));aK e w w2 w3 w4 AB (λAIG AIH AII AIJ Abm=>rec JX FS DH Ac0 Ap8 (IntKind.i64.wrap (t75+(1:Int))) AIG AIH AII AIJ s Abm)) none) (k1 JX FS DH w w2 w3 w4 s AB)
def VI(m:Nat){β:Type}(k1:AkT β):yK β:=Aez (λr=>fH r k1) none m
theorem AkZ{β:Type}(i:Nat)(k1):VI (β:=β) (i+1) k1=fH (VI i k1) k1:=rfl
def yN{β:Type}:=hid (VI (β:=β) fuel)
noncomputable def ABe:Pb:=⟨922,AkU,λ_=>yN,HY mixed (X:=⟨look tab,gam Iz,false,false,false,false,FJ,none,0,[]⟩) (p:=AkU) BC Iz rfl [] (g:=λi _=>VI i) (by kernel_rfl) rfl (by kernel_rfl) (λ_ _=>rfl) λ_ _ _ _=>by kernel_rfl⟩
def fJ{β:Type}(rec:yM β)(k1:yL β):yM β:=λJX FS DH Ac1 t85 XH w w2 w3 w4 Am=>cond (decide (XH<t85)) (cond (decide (0<=XH)&&decide (XH<(List.length Ac1:Int))) (let e:=List.getD Ac1 (Int.toNat XH) (0,(0,(0,(0,0))));ZA e w w2 w3 w4 Am (λAIC AID AIE AIF PI=>rec JX FS DH Ac1 t85 (IntKind.i64.wrap (XH+(1:Int))) AIC AID AIE AIF PI)) none) (k1 JX FS DH w w2 w3 w4 Am)
def VJ(m:Nat){β:Type}(k1:yL β):yM β:=oC (λr=>fJ r k1) none m
theorem Al0{β:Type}(i:Nat)(k1):VJ (β:=β) (i+1) k1=fJ (VJ i k1) k1:=rfl
def Rv{β:Type}:=hid (VJ (β:=β) fuel)
noncomputable def ABf:Pb:=⟨926,AkV,λ_=>Rv,HY mixed (X:=⟨look tab,gam Iz,false,false,false,false,FJ,none,0,[]⟩) (p:=AkV) BC Iz rfl [] (g:=λi _=>VJ i) (by kernel_rfl) rfl (by kernel_rfl) (λ_ _=>rfl) λ_ _ _ _=>by kernel_rfl⟩
def fK{β:Type}(rec:yJ β)(k1:AkS β):yJ β:=λJX FS DH w w2 w3 w4 Am=>cond (decide (DH<FS)) (cond (decide (0<=DH)&&decide (DH<(List.length JX:Int))) (let e:=List.getD JX (Int.toNat DH) (([]:List UInt8),(([]:List AU),([]:List BA)));FK e.1 (λDG=>let l:=([DG]:List BV);DU ([115,99,104,101,100,117,108,101]:List UInt8) l w w2 w3 w4 Am (λGf Gg Gh Gi Ge=>yN (λAbT NS PZ w5 w6 w7 w8 s AB=>Rv (λXG L5 MF w9 w10 w11 w12 Bn=>rec XG L5 (IntKind.i64.wrap (MF+(1:Int))) w9 w10 w11 w12 Bn) AbT NS PZ s.2.2 (List.length s.2.2:Int) 0 w5 w6 w7 w8 AB) JX FS DH e.2.1 (List.length e.2.1:Int) 0 Gf Gg Gh Gi e Ge))) none) (k1 w w2 w3 w4 Am)
def OY(m:Nat){β:Type}(k1:AkS β):yJ β:=oB (λr=>fK r k1) none m
theorem Al1{β:Type}(i:Nat)(k1):OY (β:=β) (i+1) k1=fK (OY i k1) k1:=rfl
def Rw{β:Type}:=hid (OY (β:=β) fuel)
noncomputable def ABg:Pb:=⟨1018,f6,λ_=>Rw,HY mixed (X:=⟨look tab,gam Iz,false,false,false,false,FJ,none,0,[]⟩) (p:=f6) BC Iz rfl [ABe,ABf] (g:=λi _=>OY i) (by kernel_rfl) rfl (by kernel_rfl) (λ_ _=>rfl) λ_ _ _ _=>by kernel_rfl⟩
def VK:ABa:=hid λc k=>Ru c (λFR=>cond (!decide (FR=0)) (k ([]:List KU) FR) (fE (λc2 w w2 w3 w4 AB=>VE (λc3 w5 w6 w7 w8 Eu=>VH (λc4 w9 w10 w11 w12 AFK=>Rw (λw13 w14 w15 w16 Am=>k Am 0) c4.2.2.2 (List.length c4.2.2.2:Int) 0 w9 w10 w11 w12 AFK) c3.2.2.1 (List.length c3.2.2.1:Int) 0 c3 w5 w6 w7 w8 Eu) c2.2.1 (List.length c2.2.1:Int) 0 c2 w w2 w3 w4 AB) c.1 (List.length c.1:Int) 0 c c.1 c.2.1 c.2.2.1 c.2.2.2 ([]:List KU)))
noncomputable def VL:En:=⟨12,.spec (sg [ED] [] [O5,Ab] [] VK),QF mixed (X:=⟨look tab,gam Iz,false,false,false,false,FJ,none,0,[]⟩) BC Iz rfl [ABb,ABc,ABd,ABg] [.tmp 2,.tmp 3] Tryz.func12 (by kernel_rfl) λ_ _=>by kernel_rfl⟩
abbrev ABh:={β:Type}->Ca->(As->Int->Int->Option β)->Option β
noncomputable def Rx:List En:=[AkO,AxF,Avf,AyY,AxI,AyP,AyS,AyL,Ax2,AwZ,AsQ,Ax5,AsN,As1,tI]
abbrev fL(β:Type):=Int->Int->AF->AD->AE->AI->Option β
abbrev fN(β:Type):=AF->AD->AE->AI->AF->AD->AE->AI->Option β
abbrev yO(β:Type):=Ca->Int->Int->AF->AD->AE->AI->AF->AD->AE->AI->Option β
noncomputable def yP:Pc:=⟨58,0,AL 122 (Ay Tryz.f13),⟨0,[2,5,6,15,16,17],[AA,Ck,(false,[.maph 2]),O5,Ab,Ab],[.cells 32 [.trowh 3,.trowh 4,.trowh 5,.trowh 6],.cells 91 [.trowh 7,.trowh 8,.trowh 9,.trowh 10],.fmap 92 [([122,111,110,101],(77,1)),([114,117,108,101],(78,1)),([112,101,114,115,111,110],(79,1)),([113,117,105,101,116],(80,1)),([99,97,108,101,110,100,97,114],(81,1)),([100,97,121,115],(82,1)),([115,99,104,101,100,117,108,101],(83,1)),([108,97,121,101,114],(84,1)),([109,101,109,98,101,114],(85,1)),([111,110],(86,1)),([110,111,116],(87,1)),([111,110,108,121],(87,1)),([108,101,97,118,101],(88,1)),([111,118,101,114,114,105,100,101],(88,1)),([115,119,97,112],(88,1))],.tree 75 Ix,.tree 78 Iv,.tree 81 Iy,.tree 58 Iw,.tree 75 Ix,.tree 78 Iv,.tree 81 Iy,.tree 58 Iw]⟩,[(.ret,⟨0,[2,3,4],[AA,Ab,Ab],Aev⟩),(.exit 0,⟨0,[2,5],[AA,Ck],[.cells 32 [.trowh 2,.trowh 3,.trowh 4,.trowh 5],.cells 91 [.trowh 6,.trowh 7,.trowh 8,.trowh 9],.tree 75 Ix,.tree 78 Iv,.tree 81 Iy,.tree 58 Iw,.tree 75 Ix,.tree 78 Iv,.tree 81 Iy,.tree 58 Iw]⟩)]⟩
abbrev Al2(β:Type):=Int->Int->AF->AD->AE->AI->Option β
abbrev Al3(β:Type):=Ca->Int->Int->AF->AD->AE->AI->AF->AD->AE->AI->Option β
abbrev ABi(β:Type):=Int->Ca->Int->Int->KU->AF->AD->AE->AI->AF->AD->AE->AI->Option β
noncomputable def Al4:Pc:=⟨58,0,AL 231 (E5 yP.c),⟨0,[2,5,6,8,9,15,16,17],[AA,Ck,(false,[.maph 2]),IV,Ab,O5,Ab,Ab],[.cells 32 [.trowh 4,.trowh 5,.trowh 6,.trowh 7],.cells 91 [.trowh 8,.trowh 9,.trowh 10,.trowh 11],.fmap 92 [([122,111,110,101],(77,1)),([114,117,108,101],(78,1)),([112,101,114,115,111,110],(79,1)),([113,117,105,101,116],(80,1)),([99,97,108,101,110,100,97,114],(81,1)),([100,97,121,115],(82,1)),([115,99,104,101,100,117,108,101],(83,1)),([108,97,121,101,114],(84,1)),([109,101,109,98,101,114],(85,1)),([111,110],(86,1)),([110,111,116],(87,1)),([111,110,108,121],(87,1)),([108,101,97,118,101],(88,1)),([111,118,101,114,114,105,100,101],(88,1)),([115,119,97,112],(88,1))],.cells 96 [.data (.prod (.int .i64) (.slice FH))],.tree 75 Ix,.tree 78 Iv,.tree 81 Iy,.tree 58 Iw,.tree 75 Ix,.tree 78 Iv,.tree 81 Iy,.tree 58 Iw]⟩,[(.ret,⟨0,[2,3,4],[AA,Ab,Ab],Aev⟩),(.normal,⟨0,[2,5,6,15,16,17],[AA,Ck,(false,[.maph 2]),O5,Ab,Ab],[.cells 32 [.trowh 3,.trowh 4,.trowh 5,.trowh 6],.cells 91 [.trowh 7,.trowh 8,.trowh 9,.trowh 10],.fmap 92 [([122,111,110,101],(77,1)),([114,117,108,101],(78,1)),([112,101,114,115,111,110],(79,1)),([113,117,105,101,116],(80,1)),([99,97,108,101,110,100,97,114],(81,1)),([100,97,121,115],(82,1)),([115,99,104,101,100,117,108,101],(83,1)),([108,97,121,101,114],(84,1)),([109,101,109,98,101,114],(85,1)),([111,110],(86,1)),([110,111,116],(87,1)),([111,110,108,121],(87,1)),([108,101,97,118,101],(88,1)),([111,118,101,114,114,105,100,101],(88,1)),([115,119,97,112],(88,1))],.tree 75 Ix,.tree 78 Iv,.tree 81 Iy,.tree 58 Iw,.tree 75 Ix,.tree 78 Iv,.tree 81 Iy,.tree 58 Iw]⟩)]⟩
def yQ{β:Type}(k1:Al2 β)(k2:Al3 β):ABi β:=λe Bc Dz BF s Aq BX BG BE Cp Cl CI N1=>cond (!decide (e=0)) (k1 s.1 e ([]:List AK) ([]:List Bb) ([]:List Bh) ([]:List By)) (k2 Bc Dz BF Aq BX BG BE Cp Cl CI N1)
def GQ{β:Type}:=hid (yQ (β:=β))
noncomputable def ABj:Pb:=⟨231,Al4,λ_=>GQ,O1 mixed (X:=⟨look tab,gam Rx,false,false,false,false,Dv,none,0,[]⟩) (p:=Al4) BC Rx rfl [] 231 (g:=λ_=>yQ) (by kernel_rfl) λ_ _=>by kernel_rfl⟩
def GR{β:Type}(rec:yO β)(k1:fL β)(k2:fN β):yO β:=λBc Dz BF AG Aq BX BG BE Cp Cl CI=>cond (decide (BF<Dz)) (cond (decide (0<=BF)&&decide (BF<(List.length Bc:Int))) (let e:=List.getD Bc (Int.toNat BF) (0,([]:List BV));DV e.2 (λXw=>cond (!Xw) (k1 e.1 2 ([]:List AK) ([]:List Bb) ([]:List Bh) ([]:List By)) (cond (decide (0<=(0:Int))&&decide ((0:Int)<(List.length e.2:Int))) (let e2:=List.getD e.2 (Int.toNat 0) (0,(([]:List UInt8),0));cond (decide (([122,111,110,101]:List UInt8)=e2.2.1)) (TB e.2 BE Cp Cl CI (λraddZone Abs AIg AIh AIi=>GQ (λline e3 Am AB Bk AV=>k1 line e3 Am AB Bk AV) (λt152 E2 E3 Bk AV C0 C1 CO CS Da CR=>rec t152 E2 (IntKind.i64.wrap (E3+(1:Int))) Bk AV C0 C1 CO CS Da CR) raddZone Bc Dz BF e AG Aq BX BG Abs AIg AIh AIi)) (cond (decide (([114,117,108,101]:List UInt8)=e2.2.1)) (UB e.2 BE Cp Cl CI (λraddRule AI4 AI5 AI6 AI7=>GQ (λline e3 Am AB Bk AV=>k1 line e3 Am AB Bk AV) (λt152 E2 E3 Bk AV C0 C1 CO CS Da CR=>rec t152 E2 (IntKind.i64.wrap (E3+(1:Int))) Bk AV C0 C1 CO CS Da CR) raddRule Bc Dz BF e AG Aq BX BG AI4 AI5 AI6 AI7)) (cond (decide (([112,101,114,115,111,110]:List UInt8)=e2.2.1)) (Rh e.2 BE Cp Cl CI (λraddPerson Abr AHX AHY AHZ=>GQ (λline e3 Am AB Bk AV=>k1 line e3 Am AB Bk AV) (λt152 E2 E3 Bk AV C0 C1 CO CS Da CR=>rec t152 E2 (IntKind.i64.wrap (E3+(1:Int))) Bk AV C0 C1 CO CS Da CR) raddPerson Bc Dz BF e AG Aq BX BG Abr AHX AHY AHZ)) (cond (decide (([113,117,105,101,116]:List UInt8)=e2.2.1)) (UC e.2 BE Cp Cl CI (λraddQuiet AI0 AI1 AI2 AI3=>GQ (λline e3 Am AB Bk AV=>k1 line e3 Am AB Bk AV) (λt152 E2 E3 Bk AV C0 C1 CO CS Da CR=>rec t152 E2 (IntKind.i64.wrap (E3+(1:Int))) Bk AV C0 C1 CO CS Da CR) raddQuiet Bc Dz BF e AG Aq BX BG AI0 AI1 AI2 AI3)) (cond (decide (([99,97,108,101,110,100,97,114]:List UInt8)=e2.2.1)) (UO e.2 BE Cp Cl CI (λraddCalendar Abl AHJ AHK AHL=>GQ (λline e3 Am AB Bk AV=>k1 line e3 Am AB Bk AV) (λt152 E2 E3 Bk AV C0 C1 CO CS Da CR=>rec t152 E2 (IntKind.i64.wrap (E3+(1:Int))) Bk AV C0 C1 CO CS Da CR) raddCalendar Bc Dz BF e AG Aq BX BG Abl AHJ AHK AHL)) (cond (decide (([100,97,121,115]:List UInt8)=e2.2.1)) (Un e.2 BE Cp Cl CI (λraddDays AHM AHN AHO AHP=>GQ (λline e3 Am AB Bk AV=>k1 line e3 Am AB Bk AV) (λt152 E2 E3 Bk AV C0 C1 CO CS Da CR=>rec t152 E2 (IntKind.i64.wrap (E3+(1:Int))) Bk AV C0 C1 CO CS Da CR) raddDays Bc Dz BF e AG Aq BX BG AHM AHN AHO AHP)) (cond (decide (([115,99,104,101,100,117,108,101]:List UInt8)=e2.2.1)) (TC e.2 BE Cp Cl CI (λraddSchedule AI8 AI9 AIa AIb=>GQ (λline e3 Am AB Bk AV=>k1 line e3 Am AB Bk AV) (λt152 E2 E3 Bk AV C0 C1 CO CS Da CR=>rec t152 E2 (IntKind.i64.wrap (E3+(1:Int))) Bk AV C0 C1 CO CS Da CR) raddSchedule Bc Dz BF e AG Aq BX BG AI8 AI9 AIa AIb)) (cond (decide (([108,97,121,101,114]:List UInt8)=e2.2.1)) (UP e.2 BE Cp Cl CI (λraddLayer Abm AHQ AHR AHS=>GQ (λline e3 Am AB Bk AV=>k1 line e3 Am AB Bk AV) (λt152 E2 E3 Bk AV C0 C1 CO CS Da CR=>rec t152 E2 (IntKind.i64.wrap (E3+(1:Int))) Bk AV C0 C1 CO CS Da CR) raddLayer Bc Dz BF e AG Aq BX BG Abm AHQ AHR AHS)) (cond (decide (([109,101,109,98,101,114]:List UInt8)=e2.2.1)) (Vi e.2 BE Cp Cl CI (λraddMember AHT AHU AHV AHW=>GQ (λline e3 Am AB Bk AV=>k1 line e3 Am AB Bk AV) (λt152 E2 E3 Bk AV C0 C1 CO CS Da CR=>rec t152 E2 (IntKind.i64.wrap (E3+(1:Int))) Bk AV C0 C1 CO CS Da CR) raddMember Bc Dz BF e AG Aq BX BG AHT AHU AHV AHW)) (cond (decide (([111,110]:List UInt8)=e2.2.1)) (UD e.2 BE Cp Cl CI (λraddWindow AIc AId AIe AIf=>GQ (λline e3 Am AB Bk AV=>k1 line e3 Am AB Bk AV) (λt152 E2 E3 Bk AV C0 C1 CO CS Da CR=>rec t152 E2 (IntKind.i64.wrap (E3+(1:Int))) Bk AV C0 C1 CO CS Da CR) raddWindow Bc Dz BF e AG Aq BX BG AIc AId AIe AIf)) (cond (decide (([110,111,116]:List UInt8)=e2.2.1)) (OV e.2 BE Cp Cl CI (λraddMode Abn Abo Abp Abq=>GQ (λline e3 Am AB Bk AV=>k1 line e3 Am AB Bk AV) (λt152 E2 E3 Bk AV C0 C1 CO CS Da CR=>rec t152 E2 (IntKind.i64.wrap (E3+(1:Int))) Bk AV C0 C1 CO CS Da CR) raddMode Bc Dz BF e AG Aq BX BG Abn Abo Abp Abq)) (cond (decide (([111,110,108,121]:List UInt8)=e2.2.1)) (OV e.2 BE Cp Cl CI (λraddMode Abn Abo Abp Abq=>GQ (λline e3 Am AB Bk AV=>k1 line e3 Am AB Bk AV) (λt152 E2 E3 Bk AV C0 C1 CO CS Da CR=>rec t152 E2 (IntKind.i64.wrap (E3+(1:Int))) Bk AV C0 C1 CO CS Da CR) raddMode Bc Dz BF e AG Aq BX BG Abn Abo Abp Abq)) (cond (decide (([108,101,97,118,101]:List UInt8)=e2.2.1)) (Mc e.2 BE Cp Cl CI (λraddEdit PI Xn Xo Xp=>GQ (λline e3 Am AB Bk AV=>k1 line e3 Am AB Bk AV) (λt152 E2 E3 Bk AV C0 C1 CO CS Da CR=>rec t152 E2 (IntKind.i64.wrap (E3+(1:Int))) Bk AV C0 C1 CO CS Da CR) raddEdit Bc Dz BF e AG Aq BX BG PI Xn Xo Xp)) (cond (decide (([111,118,101,114,114,105,100,101]:List UInt8)=e2.2.1)) (Mc e.2 BE Cp Cl CI (λraddEdit PI Xn Xo Xp=>GQ (λline e3 Am AB Bk AV=>k1 line e3 Am AB Bk AV) (λt152 E2 E3 Bk AV C0 C1 CO CS Da CR=>rec t152 E2 (IntKind.i64.wrap (E3+(1:Int))) Bk AV C0 C1 CO CS Da CR) raddEdit Bc Dz BF e AG Aq BX BG PI Xn Xo Xp)) (cond (decide (([115,119,97,112]:List UInt8)=e2.2.1)) (Mc e.2 BE Cp Cl CI (λraddEdit PI Xn Xo Xp=>GQ (λline e3 Am AB Bk AV=>k1 line e3 Am AB Bk AV) (λt152 E2 E3 Bk AV C0 C1 CO CS Da CR=>rec t152 E2 (IntKind.i64.wrap (E3+(1:Int))) Bk AV C0 C1 CO CS Da CR) raddEdit Bc Dz BF e AG Aq BX BG PI Xn Xo Xp)) (none)))))))))))))))) none))) none) (k2 AG Aq BX BG BE Cp Cl CI)
def Nt(m:Nat){β:Type}(k1:fL β)(k2:fN β):yO β:=oC (λr=>GR r k1 k2) none m
theorem HB{β:Type}(i:Nat)(k1 k2):Nt (β:=β) (i+1) k1 k2=GR (Nt i k1 k2) k1 k2:=rfl
def yR{β:Type}:=hid (Nt (β:=β) fuel)
noncomputable def ABk:Pb:=⟨122,yP,λ_=>yR,HY mixed (X:=⟨look tab,gam Rx,false,false,false,false,Dv,none,0,[]⟩) (p:=yP) BC Rx rfl [ABj] (g:=λi _=>Nt i) (by kernel_rfl) rfl (by kernel_rfl) (λ_ _=>rfl) λ_ _ _ _=>by kernel_rfl⟩
def Ry:ABh:=hid λl k=>cond true (cond true (cond true (cond true (cond true (cond true (cond true (cond true (cond true (cond true (cond true (cond true (cond true (cond true (cond true (yR (λline e Am AB AG Aq=>k (Am,(AB,(AG,Aq))) line e) (λAB AG Aq BX BG BE Cp Cl=>Ru (BG,(BE,(Cp,Cl))) (λFR=>cond (!decide (FR=0)) (k Nf 0 FR) (k (BG,(BE,(Cp,Cl))) 0 0))) l (List.length l:Int) 0 ([]:List AK) ([]:List Bb) ([]:List Bh) ([]:List By) ([]:List AK) ([]:List Bb) ([]:List Bh) ([]:List By)) none) none) none) none) none) none) none) none) none) none) none) none) none) none) none
noncomputable def Al5:En:=⟨13,.spec (sg [O5] [] [ED,Ab,Ab] [] Ry),QF mixed (X:=⟨look tab,gam Rx,false,false,false,false,Dv,none,0,[]⟩) BC Rx rfl [ABk] [.cell 2 32,.tmp 3,.tmp 4] Tryz.func13 (by kernel_rfl) λ_ _=>by kernel_rfl⟩
abbrev ABl:={β:Type}->As->(AJ->Int->Option β)->Option β
def VM:ABl:=hid λc k=>VK c (λAbI jQ=>cond (!decide (jQ=(0:Int))) (k ([]:List UInt8) jQ) (dO AbI (λSp Xz=>k Sp Xz)))
noncomputable def fO:En:=⟨10,.spec (sg [ED] [] [BR,Ab] [] VM),pf [VL,AzM] [] [.tmp 2,.tmp 3] Tryz.func10⟩
abbrev ABm:={β:Type}->AJ->(As->Int->Int->Option β)->Option β
def fP:ABm:=hid λtext k=>V6 text (λAJj Ap0 AHG=>cond (!decide (Ap0=(0:Int))) (k Nf AJj Ap0) (Ry AHG (λAbx Aby Abz=>k Abx Aby Abz)))
noncomputable def fQ:En:=⟨11,.spec (sg [BR] [] [ED,Ab,Ab] [] fP),pf [Al5,AAu] [] [.cell 2 32,.tmp 3,.tmp 4] Tryz.func11⟩
abbrev ABn:={β:Type}->(Bool->Option β)->Option β
noncomputable def fR:ABn:=YN ⟨look tab,gam [eI,VL,fO,fQ],false,false,false,false,[],none,100000,[]⟩ Tryz.f5 [] [] [AS] [] [.tmp 0]
noncomputable def ABo:En:=⟨5,.spec (sg [] [] [AS] [] fR),(Ard mixed (X:=⟨look tab,gam [eI,VL,fO,fQ],false,false,false,false,[],none,100000,[]⟩) BC [eI,VL,fO,fQ] rfl [.tmp 0] Tryz.func5 (by kernel_rfl)).spec⟩
abbrev ABp:={β:Type}->De->(Bool->Option β)->Option β
def fS:ABp:=hid λt k=>YZ t (λAJ4=>cond (!AJ4) (fR (λrsane=>k rsane)) (Za t (λAIw=>bB 3 AIw (λAIY AIl=>C4 4 AIl (λCr Du=>xT AIY 0 Cr Du (λjN AKa=>VM jN (λSp Xz=>fP Sp (λAoZ AJ5 AJ6=>VK jN (λAbI jQ=>Ry AbI (λAbx Aby Abz=>VM AoZ (λAJq AJr=>cond (decide (Xz=(0:Int))) (cond (decide (AJ6=(0:Int))) (cond (decide (jQ=(0:Int))) (cond (decide (Abz=(0:Int))) (cond (decide (AJr=(0:Int))) (cond (decide (AJ5=(0:Int))) (cond (decide (Aby=(0:Int))) (V5 AoZ jN (λAJl=>cond AJl (V5 Abx jN (λAJm=>cond AJm (cond (decide (AJq=Sp)) (fR (λrsane=>k rsane)) (k false)) (k false))) (k false))) (k false)) (k false)) (k false)) (k false)) (k false)) (k false)) (k false))))))))))))
noncomputable def ABq:En:=⟨3,.spec (sg [Hl] [] [AS] [] fS),pf [ABo,Axu,AAL,KY,ArV,ArX,eI,VL,fO,Al5,fQ] [] [.tmp 2] Tryz.func3⟩
theorem ABr:SpecOk Tryz.prog 3 (sg [Hl] [] [AS] [] fS):=ABq.ok
end
end Go.Lift
namespace Go.Lift
open Go.RowKit Go.IntWalk
section
variable{β:Type}
theorem Al{i n:Int}{a b:Option β}(h:0<=i/\i<n):cond (decide (0<=i)&&decide (i<n)) a b=a:=by rw[At h.1,At h.2];rfl
theorem Er{n:Nat}{a b:Option β}(h:n<=140737488355328):cond (decide (n<=Bl)) a b=a:=by rw[At (p:=n<=Bl) h];rfl
theorem Ai{p:Prop}[Decidable p]{a b:Option β}(h:p):cond (decide p) a b=a:=by rw[At h];rfl
theorem Ae{p:Prop}[Decidable p]{a b:Option β}(h:¬p):cond (decide p) a b=b:=by rw[AN h];rfl
theorem BM{p:Prop}[Decidable p]{a b:Option β}(h:p):cond (!decide p) a b=b:=by rw[At h];rfl
theorem Fe{p:Prop}[Decidable p]{a b:Option β}(h:¬p):cond (!decide p) a b=a:=by rw[AN h];rfl
theorem c_t{a b:Option β}:cond true a b=a:=rfl
theorem c_f{a b:Option β}:cond false a b=b:=rfl
theorem c_p2{p q:Prop}[Decidable p][Decidable q]{a b:Option β}(hp:p)(hq:q):cond (decide p&&decide q) a b=a:=by rw[At hp,At hq];rfl
theorem c_p3{p q r:Prop}[Decidable p][Decidable q][Decidable r]{a b:Option β}(hp:p)(hq:q)(hr:r):cond (decide p&&(decide q&&decide r)) a b=a:=by rw[At hp,At hq,At hr];rfl
theorem c_kb(k:Bool->Option β)(p q:Bool):cond p (k q) (k false)=k (p&&q):=by cases p<;>rfl
theorem k_eq{γ:Type}{k:γ->Option β}{x y:γ}(h:x=y):k x=k y:=by rw[h]
def walk{α σ ε:Type}(g:Nat->α->σ->ε⊕σ):List α->Nat->σ->ε⊕σ
 |[],_,s=>.inr s
 |x::r,j,s=>
  match g j x s with
  |.inl e=>.inl e
  |.inr s'=>walk g r (j+1) s'
def sumK{ε σ:Type}(E:ε->Option β)(K:σ->Option β):ε⊕σ->Option β
 |.inl e=>E e
 |.inr s=>K s
theorem Al6{α σ ε:Type}(F:Nat->Int->σ->Option β)(g:Nat->α->σ->ε⊕σ)(E:ε->Option β)(K:σ->Option β)(d:α)(xs:List α)(h1:∀(m i:Nat) s,i<xs.length->F (m+1) (i:Int) s=sumK E (λs'=>F m ((i:Int)+1) s') (g i (xs.getD i d) s))(h2:∀(m:Nat) s,F (m+1) (xs.length:Int) s=K s):∀(r:List α)(j fuel:Nat)(s:σ),xs.drop j=r->j+r.length=xs.length->r.length<fuel->F fuel (j:Int) s=sumK E K (walk g r j s)
 |r,j,0,s,_,_,h=>absurd h (MN _)
 |[],j,m+1,s,hd,hj,_=>by simp only[CX,Oa]at hj;subst hj;rw[h2];rfl
 |x::r,j,m+1,s,hd,hj,hm=>by
  simp only[AX]at hj hm;have h3:j<xs.length:=by omega
  have hx:xs.getD j d=x:=by rw[JY h3]at hd;injection hd with Cq Ct;simp[List.getD,h3,Cq]
  have hr:xs.drop (j+1)=r:=by rw[JY h3]at hd;injection hd with Cq Ct
  rw[h1 m j s h3,hx,walk];cases hg:g j x s with
  |inl e=>rfl
  |inr s'=>simp only[sumK];exact Al6 F g E K d xs h1 h2 r (j+1) m s' hr (by omega) (by omega)
theorem Ja{α σ ε:Type}(F:Nat->Int->σ->Option β)(g:Nat->α->σ->ε⊕σ)(E:ε->Option β)(K:σ->Option β)(d:α)(xs:List α)(s:σ)(n:Nat)(hn:xs.length<n)(h1:∀(m i:Nat) s,i<xs.length->F (m+1) (i:Int) s=sumK E (λs'=>F m ((i:Int)+1) s') (g i (xs.getD i d) s))(h2:∀(m:Nat) s,F (m+1) (xs.length:Int) s=K s):F n 0 s=sumK E K (walk g xs 0 s):=
 Al6 F g E K d xs h1 h2 xs 0 n s rfl (by simp) hn
theorem Jb{α:Type}(F:Nat->Int->Option β)(p:α->Bool)(E K:Option β)(d:α)(xs:List α)(n:Nat)(hn:xs.length<n)(h1:∀(m i:Nat),i<xs.length->F (m+1) (i:Int)=cond (p (xs.getD i d)) (F m ((i:Int)+1)) E)(h2:∀(m:Nat),F (m+1) (xs.length:Int)=K):F n 0=cond (xs.all p) K E:=by
 have h:=Ja (ε:=Unit) (λm i(_:Unit)=>F m i) (λ_ x s=>cond (p x) (.inr s) (.inl ())) (λ_=>E) (λ_=>K) d xs () n hn
  (λm i s hi=>by rw[h1 m i hi];cases p (xs.getD i d)<;>rfl) (λm s=>h2 m)
 rw[h]
 have key:∀(l:List α)(j:Nat),sumK (λ_=>E) (λ_=>K) (walk (ε:=Unit) (λ_ x(s:Unit)=>cond (p x) (.inr s) (.inl ())) l j ())=cond (l.all p) K E:=by
  intro l
  induction l with
  |nil=>intro j;rfl
  |cons x l ih=>
   intro j;simp only[walk,Yd];cases p x with
   |true=>simpa using ih (j+1)
   |false=>rfl
 exact key xs 0
theorem Rz{α σ:Type}(I:Nat->σ->Prop)(F:Nat->Int->σ->Option β)(g:σ->α->σ)(K:σ->Option β)(d:α)(xs:List α)(s:σ)(n:Nat)(hn:xs.length<n)(h0:I 0 s)(hI:∀(i:Nat) s,i<xs.length->I i s->I (i+1) (g s (xs.getD i d)))(h1:∀(m i:Nat) s,i<xs.length->I i s->F (m+1) (i:Int) s=F m ((i:Int)+1) (g s (xs.getD i d)))(h2:∀(m:Nat) s,I xs.length s->F (m+1) (xs.length:Int) s=K s):F n 0 s=K (xs.foldl g s):=by
 have key:∀(r:List α)(j fuel:Nat)(s:σ),xs.drop j=r->j+r.length=xs.length->r.length<fuel->I j s->F fuel (j:Int) s=K (r.foldl g s):=by
  intro r
  induction r with
  |nil=>intro j fuel s hd hj hf hs;obtain⟨m,rfl⟩:∃m,fuel=m+1:=⟨fuel-1,by omega⟩;simp only[CX,Oa]at hj;subst hj;exact h2 m s hs
  |cons x r ih=>
   intro j fuel s hd hj hf hs;obtain⟨m,rfl⟩:∃m,fuel=m+1:=⟨fuel-1,by omega⟩;simp only[AX]at hj hf;have h3:j<xs.length:=by omega
   have hx:xs.getD j d=x:=by rw[JY h3]at hd;injection hd with Cq Ct;simp[List.getD,h3,Cq]
   have hr:xs.drop (j+1)=r:=by rw[JY h3]at hd;injection hd with Cq Ct
   rw[h1 m j s h3 hs,hx];have:=hI j s h3 hs;rw[hx]at this;exact ih (j+1) m (g s x) hr (by omega) (by omega) this
 exact key xs 0 n s rfl (by simp) hn h0
end
end Go.Lift
namespace Go.Lift
open Go.RowKit Go.IntWalk
noncomputable section
variable[Sl]
set_option maxRecDepth 10000
abbrev Be(y:Int):Prop:=y%4=0/\(y%100≠0\/y%400=0)
def Cf(lp:Prop)[Decidable lp](m:Int):Int:=
 if m<1 then 0 else if 12<m then 0 else if m=2 then(if lp then 29 else 28)else if m=4\/m=6\/m=9\/m=11 then 30 else 31
def cntN(y:Int):Int:=365*(y-1970)+(y-1) / 4-(y-1) / 100+(y-1) / 400-477
def sumM(lp:Prop)[Decidable lp]:Nat->Int
 |0=>0
 |n+1=>sumM lp n+Cf lp ((n:Int)+1)
section
variable{β:Type}
theorem ABs{y:Int}(hy:0<=y)(k:Bool->Option β):Zz y k=k (decide (Be y)):=by
 have e1:Int.tmod y 4=y%4:=FD hy;have e2:Int.tmod y 100=y%100:=FD hy;have e3:Int.tmod y 400=y%400:=FD hy;unfold Zz;rw[Ad];rw[e1,e2,e3];by_cases h1:y%4=0
 ·refine(Ai h1).trans ?_
  by_cases h2:y%100=0
  ·refine(BM h2).trans ?_
   exact k_eq (decide_eq_decide.2 ⟨λh=>⟨h1,.inr h⟩,λh=>by rcases h.2 with h|h;exact absurd h2 h;exact h⟩)
  ·refine(Fe h2).trans ?_
   exact k_eq (At (p:=Be y) ⟨h1,.inl h2⟩).symm
 ·refine(Ae h1).trans ?_
  exact k_eq (AN (p:=Be y) λh=>h1 h.1).symm
theorem OZ{y:Int}(hy:0<=y)(m:Int)(k:Int->Option β):DM y m k=k (Cf (Be y) m):=by
 by_cases h1:m<1
 ·unfold DM
  rw[Ad];unfold EU;refine(Ai h1).trans (k_eq ?_);unfold Cf;rw[if_pos h1]
 ·by_cases h2:12<m
  ·unfold DM
   rw[Ad];unfold EU;refine(Ae h1).trans ((Ai h2).trans (k_eq ?_));unfold Cf;rw[if_neg h1,if_pos h2]
  ·have hm:m=1\/m=2\/m=3\/m=4\/m=5\/m=6\/m=7\/m=8\/m=9\/m=10\/m=11\/m=12:=by omega
   rcases hm with rfl|rfl|rfl|rfl|rfl|rfl|rfl|rfl|rfl|rfl|rfl|rfl
   ·exact(show DM y 1 k=EU y 1 k by unfold DM;rw[Ad]).trans (show EU y 1 k=k (Cf (Be y) 1) by kernel_rfl)
   ·unfold DM
    rw[Ad];unfold EU;refine(Ae h1).trans ((Ae h2).trans ((Ai rfl).trans ?_));refine(ABs hy _).trans ?_;unfold Cf;rw[if_neg h1,if_neg h2,if_pos rfl];by_cases h:Be y
    ·rw[At h,if_pos h]
     rfl
    ·rw[AN h,if_neg h]
     rfl
   ·exact(show DM y 3 k=EU y 3 k by unfold DM;rw[Ad]).trans (show EU y 3 k=k (Cf (Be y) 3) by kernel_rfl)
   ·exact(show DM y 4 k=EU y 4 k by unfold DM;rw[Ad]).trans (show EU y 4 k=k (Cf (Be y) 4) by kernel_rfl)
   ·exact(show DM y 5 k=EU y 5 k by unfold DM;rw[Ad]).trans (show EU y 5 k=k (Cf (Be y) 5) by kernel_rfl)
   ·exact(show DM y 6 k=EU y 6 k by unfold DM;rw[Ad]).trans (show EU y 6 k=k (Cf (Be y) 6) by kernel_rfl)
   ·exact(show DM y 7 k=EU y 7 k by unfold DM;rw[Ad]).trans (show EU y 7 k=k (Cf (Be y) 7) by kernel_rfl)
   ·exact(show DM y 8 k=EU y 8 k by unfold DM;rw[Ad]).trans (show EU y 8 k=k (Cf (Be y) 8) by kernel_rfl)
   ·exact(show DM y 9 k=EU y 9 k by unfold DM;rw[Ad]).trans (show EU y 9 k=k (Cf (Be y) 9) by kernel_rfl)
   ·exact(show DM y 10 k=EU y 10 k by unfold DM;rw[Ad]).trans (show EU y 10 k=k (Cf (Be y) 10) by kernel_rfl)
   ·exact(show DM y 11 k=EU y 11 k by unfold DM;rw[Ad]).trans (show EU y 11 k=k (Cf (Be y) 11) by kernel_rfl)
   ·exact(show DM y 12 k=EU y 12 k by unfold DM;rw[Ad]).trans (show EU y 12 k=k (Cf (Be y) 12) by kernel_rfl)
theorem fT{a b:Int}(ha:0<=a/\a<=1000000000)(hb:0<b/\b<=1000000000)(k:Int->Option β):OI a b k=k (a / b):=by have e1:Int.tdiv a b=a / b:=GJ ha.1;have e2:Int.tmod a b=a%b:=FD ha.1;have e3:=Int.emod_nonneg a (show b≠0 by omega);have e4:=Int.ediv_nonneg ha.1 (show 0<=b by omega);have e5:=Int.ediv_le_self b ha.1;unfold OI;rw[Ad];refine(Fe (by omega)).trans ?_;refine(Fe (by omega)).trans ?_;refine(Ae (by omega)).trans ?_;rw[e1,i64_in _ (by omega)]
theorem Lc{y:Int}(hy:1<=y/\y<=1000000)(k:Int->Option β):Nm y k=k (cntN y):=by
 unfold Nm;rw[Ad];simp only;rw[i64_in (y-1) (by omega)];refine(fT (by omega) (by omega) _).trans ?_;refine(fT (by omega) (by omega) _).trans ?_;refine(fT (by omega) (by omega) _).trans ?_
 rw[i64_in (y-1970) (by omega),i64_in (365*(y-1970)) (by omega),i64_in (365*(y-1970)+(y-1) / 4) (by omega),i64_in (365*(y-1970)+(y-1) / 4-(y-1) / 100) (by omega),
  i64_in (365*(y-1970)+(y-1) / 4-(y-1) / 100+(y-1) / 400) (by omega),i64_in (365*(y-1970)+(y-1) / 4-(y-1) / 100+(y-1) / 400-477) (by omega)]
 rfl
theorem ABt{y:Int}(hy:1<=y):cntN (y+1)=cntN y+(if Be y then 366 else 365):=by unfold cntN;split<;>omega
theorem ABu{day:Int}(h:0<=day/\day<98981):∃y,(1970<=y/\y<=2240)/\cntN y<=day/\day<cntN (y+1)/\∀{β:Type}(k:Int->Option β),ZV day k=k y:=by
 have last:cntN 2241=98981:=by decide
 have key:∀(n m:Nat)(y:Int),y+n=2240->n<m->1970<=y->cntN y<=day->∃y',(1970<=y'/\y'<=2240)/\cntN y'<=day/\day<cntN (y'+1)/\
   ∀{β:Type}(k1:rU β),U1 m k1 day y=k1 y':=by
  intro n
  induction n with
  |zero=>
   intro m y hy hm h0 hc;obtain⟨m,rfl⟩:∃m',m=m'+1:=⟨m-1,by omega⟩;have hy:y=2240:=by omega
   subst hy;refine⟨2240,by omega,hc,by rw[show(2240:Int)+1=2241 from rfl,last];omega,λk1=>?_⟩;simp only[rW,U0];rw[show IntKind.i64.wrap ((2240:Int)+1)=2241 by decide];refine(Lc (by omega) _).trans ?_;exact Ae (by rw[last];omega)
  |succ n ih=>
   intro m y hy hm h0 hc;obtain⟨m,rfl⟩:∃m',m=m'+1:=⟨m-1,by omega⟩;by_cases hn:cntN (y+1)<=day
   ·obtain⟨y',h1,h2,h3,h4⟩:=ih m (y+1) (by omega) (by omega) (by omega) hn
    refine⟨y',h1,h2,h3,λk1=>?_⟩;simp only[rW,U0];rw[i64_in (y+1) (by omega)];refine(Lc (by omega) _).trans ?_;refine(Ai hn).trans ?_;exact h4 k1
   ·refine⟨y,by omega,hc,by omega,λk1=>?_⟩
    simp only[rW,U0];rw[i64_in (y+1) (by omega)];refine(Lc (by omega) _).trans ?_;exact Ae hn
 have hq:∀q:Fin 271,cntN (1970+(q.val:Int))<=366*(q.val:Int):=by decide+kernel
 have h0:cntN (1970+day / 366)<=day:=by have:=hq ⟨(day / 366).toNat,by omega⟩;simp only at this;rw[show(((day / 366).toNat:Nat):Int)=day / 366 by omega]at this;omega
 obtain⟨y',h1,h2,h3,h4⟩:=key (2240-(1970+day / 366)).toNat fuel (1970+day / 366) (by omega) (BB (by omega)) (by omega) h0;refine⟨y',h1,h2,h3,λk=>?_⟩;unfold ZV;rw[Ad];refine(fT (by omega) (by omega) _).trans ?_;simp only;rw[i64_in (1970+day / 366) (by omega)];unfold rX;rw[Ad];exact h4 _
theorem VN(lp:Prop)[Decidable lp](m:Int):0<=Cf lp m/\Cf lp m<=31:=by
 unfold Cf
 repeat' split
 all_goals omega
theorem Pa(lp:Prop)[Decidable lp](n:Nat):0<=sumM lp n/\sumM lp n<=31*(n:Int):=by
 induction n with
 |zero=>exact⟨MS _,MS _⟩
 |succ n ih=>have:=VN lp ((n:Int)+1);show 0<=sumM lp n+Cf lp ((n:Int)+1)/\sumM lp n+Cf lp ((n:Int)+1)<=31*((n+1:Nat):Int);omega
theorem ABv(lp:Prop)[Decidable lp]:sumM lp 12=if lp then 366 else 365:=by
 by_cases h:lp
 ·simp[sumM,Cf,h]
 ·simp[sumM,Cf,h]
theorem ABw{y:Int}(hy:0<=y)(a:Int×(Int×Int))(d3:Int):∀(j f n:Nat)(r:Int),n+j=12->j<f->0<=r->r<sumM (Be y) 12-sumM (Be y) n->∃(n':Nat)(r':Int),n'<12/\0<=r'/\r'<Cf (Be y) ((n':Int)+1)/\sumM (Be y) n'+r'=sumM (Be y) n+r/\∀{β:Type}(k1:sK β),UG f k1 r a (y,((n:Int)+1,d3))=k1 r' a (y,((n':Int)+1,d3)):=by
 intro j
 induction j with
 |zero=>
  intro f n r hn hf h0 h1;obtain rfl:n=12:=by omega
  omega
 |succ j ih=>
  intro f n r hn hf h0 h1;obtain⟨f,rfl⟩:∃f',f=f'+1:=⟨f-1,by omega⟩;have hd:=VN (Be y) ((n:Int)+1);have hb:=Pa (Be y) n;have AJM:=Pa (Be y) 12;by_cases hr:Cf (Be y) ((n:Int)+1)<=r
  ·have hs:sumM (Be y) (n+1)=sumM (Be y) n+Cf (Be y) ((n:Int)+1):=rfl
   obtain⟨n',r',g1,g2,g3,g4,g5⟩:=ih f (n+1) (r-Cf (Be y) ((n:Int)+1)) (by omega) (by omega) (by omega) (by omega);refine⟨n',r',g1,g2,g3,by omega,λk1=>?_⟩;simp only[AhU,aP];refine(OZ hy _ _).trans ?_;refine(Ai hr).trans ?_;refine(OZ hy _ _).trans ?_;rw[i64_in (r-Cf (Be y) ((n:Int)+1)) (by omega),i64_in ((n:Int)+1+1) (by omega)];have:=g5 k1
   rwa [show((n+1:Nat):Int)=(n:Int)+1 by omega]at this
  ·refine⟨n,r,by omega,h0,by omega,rfl,λk1=>?_⟩
   simp only[AhU,aP];refine(OZ hy _ _).trans ?_;exact Ae hr
theorem Al7{y:Int}(hy:0<=y)(M d3:Int):∀(j f n:Nat)(s:Int),(n:Int)+1+j=M->M<=12->j<f->0<=s+1000->s+31*(j:Int)<=1000000->∀{β:Type}(k1:rY β),U2 f k1 s ((n:Int)+1) (y,(M,d3))=k1 (s+(sumM (Be y) (n+j)-sumM (Be y) n)):=by
 intro j
 induction j with
 |zero=>intro f n s hn hM hf h0 h1 β k1;obtain⟨f,rfl⟩:∃f',f=f'+1:=⟨f-1,by omega⟩;simp only[Ahe,ZX];refine(Ae (by omega)).trans ?_;exact k_eq (by show s=s+(sumM (Be y) n-sumM (Be y) n);omega)
 |succ j ih=>intro f n s hn hM hf h0 h1 β k1;obtain⟨f,rfl⟩:∃f',f=f'+1:=⟨f-1,by omega⟩;have hd:=VN (Be y) ((n:Int)+1);simp only[Ahe,ZX];refine(Ai (by omega)).trans ?_;refine(OZ hy _ _).trans ?_;rw[i64_in (s+Cf (Be y) ((n:Int)+1)) (by omega),i64_in ((n:Int)+1+1) (by omega)];have:=ih f (n+1) (s+Cf (Be y) ((n:Int)+1)) (by omega) hM (by omega) (by omega) (by omega) k1;rw[show((n+1:Nat):Int)=(n:Int)+1 by omega]at this;refine this.trans (k_eq ?_);have hs:sumM (Be y) (n+1)=sumM (Be y) n+Cf (Be y) ((n:Int)+1):=rfl;rw[show n+1+j=n+(j+1) by omega];omega
structure DateIs (day y m d:Int):Prop where
 yr:1970<=y/\y<=2240
 mo:1<=m/\m<=12
 dd:1<=d/\d<=31
 of:∀{β:Type}(k:Int×Int×Int->Int->Option β),OP day k=k (y,m,d) 0
 day:∀{β:Type}(k:Int->Int->Option β),OR (y,m,d) k=k day 0
theorem Al8{day:Int}(h:0<=day/\day<98981):∃y m d,DateIs day y m d:=by
 obtain⟨y,hy,h1,h2,h3⟩:=ABu h;have hn:=ABt (y:=y) (by omega);rw[<-ABv]at hn;have hc:cntN 1970=0:=by decide
 have Cz:cntN 2241=98981:=by decide
 have AJN:=Pa (Be y) 12
 have h0:0<=cntN y:=by unfold cntN;omega
 obtain⟨n',r',g1,g2,g3,g4,g5⟩:=ABw (y:=y) (by omega) (0,(0,0)) 0 12 fuel 0 (day-cntN y) rfl (BB (by omega)) (by omega) (by show day-cntN y<sumM (Be y) 12-0;omega);have hd:=VN (Be y) ((n':Int)+1);have NJ:sumM (Be y) 0=0:=rfl;refine⟨y,(n':Int)+1,r'+1,hy,by omega,by omega,λk=>?_,λk=>?_⟩
 ·unfold OP
  rw[Ad];refine(Lc (by omega) _).trans ?_;refine(Ae (by rw[hc];omega)).trans ?_;refine(Lc (by omega) _).trans ?_;refine(Ae (by rw[Cz];omega)).trans ?_;refine(h3 _).trans ?_;refine(Lc (by omega) _).trans ?_;simp only;rw[i64_in (day-cntN y) (by omega)];unfold sM;rw[Ad];refine(g5 _).trans ?_;rw[i64_in (r'+1) (by omega)]
 ·unfold OR
  rw[Ad]
  have hv:∀{β:Type}(k:Bool->Option β),ON (y,(n':Int)+1,r'+1) k=k true:=by intro β k;unfold ON;rw[Ad];refine(Ai hy.1).trans ?_;refine(Ai hy.2).trans ?_;refine(Ai (by show(1:Int)<=r'+1;omega)).trans ?_;refine(OZ (by show 0<=y;omega) _ _).trans ?_;exact k_eq (At (by show r'+1<=Cf (Be y) ((n':Int)+1);omega))
  refine(hv _).trans ?_;show OO (y,(n':Int)+1,r'+1) _=_;unfold OO;rw[Ad];refine(Lc (y:=y) (by omega) _).trans ?_;simp only;rw[i64_in (cntN y+(r'+1)) (by omega),i64_in (cntN y+(r'+1)-1) (by omega)];unfold ZY;rw[Ad];refine(Al7 (y:=y) (by omega) ((n':Int)+1) (r'+1) n' fuel 0 (cntN y+(r'+1)-1) (by omega) (by omega) (BB (by omega)) (by omega) (by omega) _).trans ?_;rw[Ei,NJ];have e:cntN y+(r'+1)-1+(sumM (Be y) n'-0)=day:=by omega
  rw[e]
theorem ABx{day:Int}(h:day<0\/98981<=day)(k:Int×Int×Int->Int->Option β):OP day k=k (0,0,0) 1:=by
 have hc:cntN 1970=0:=by decide
 have Cz:cntN 2241=98981:=by decide
 unfold OP;rw[Ad];refine(Lc (by omega) _).trans ?_;by_cases h0:day<0
 ·exact Ai (by rw[hc];omega)
 ·refine(Ae (by rw[hc];omega)).trans ?_
  refine(Lc (by omega) _).trans ?_;exact Ai (by rw[Cz];omega)
end
end
end Go.Lift
namespace Go.Lift
open Go.RowKit Go.IntWalk
noncomputable section
variable[Sl]
set_option maxRecDepth 10000
section
variable{β:Type}
abbrev inI(n lo hi:Int):Bool:=decide (lo<=n)&&decide (n<=hi)
abbrev ixI(i n:Int):Bool:=decide ((0:Int)<=i)&&decide (i<n)
theorem r_in(n lo hi:Int)(k:Bool->Option β):LY n lo hi k=k (inI n lo hi):=by unfold LY;rw[Ad];exact c_kb k _ _
theorem z_in(n lo hi:Int)(k:Bool->Option β):JC n lo hi k=k (inI n lo hi):=by unfold JC;rw[Ad];exact c_kb k _ _
theorem r_ix(i n:Int)(k:Bool->Option β):KZ i n k=k (ixI i n):=by unfold KZ;rw[Ad];exact c_kb k _ _
def dayI(n:Int):Bool:=decide (0<=n)&&decide (n<98981)
theorem yS(n:Int)(k:Bool->Option β):Rc n k=k (dayI n):=by
 unfold Rc;rw[Ad];unfold dayI;by_cases h:0<=n/\n<98981
 ·obtain⟨y,m,d,hd⟩:=Al8 h
  refine(hd.of _).trans (k_eq ?_);rw[At h.1,At h.2];rfl
 ·refine(ABx (by omega) _).trans (k_eq ?_)
  by_cases h0:0<=n
  ·rw[At h0,AN (by omega:¬n<98981)];rfl
  ·rw[AN h0];rfl
def I0(n:Int):Bool:=inI n 0 604800&&decide (Int.tmod n 3600=0)
theorem Al9(n:Int)(k:Bool->Option β):Up n k=k (I0 n):=by unfold Up;rw[Ad];refine(r_in _ _ _ _).trans ?_;exact c_kb k _ _
def JE(c:Int):Bool:=inI c 97 122
def Pd(c:Int):Bool:=inI c 48 57
def Kl(c:UInt8):Bool:=JE c.toNat||(Pd c.toNat||(decide ((c.toNat:Int)=95)||decide ((c.toNat:Int)=45)))
def Cy(s:List UInt8):Bool:=(!decide (s=[]))&&(!decide (24<(s.length:Int))&&(JE (s.getD 0 0).toNat&&s.all Kl))
theorem yT(c:Int)(k:Bool->Option β):Nk c k=k (JE c):=by unfold Nk;rw[Ad];exact c_kb k _ _
theorem ABy(c:Int)(k:Bool->Option β):OH c k=k (Pd c):=by unfold OH;rw[Ad];exact c_kb k _ _
theorem yU(s:List UInt8)(k:Bool->Option β):La s k=k (Cy s):=by
 unfold La;rw[Ad];unfold Cy;by_cases h1:s=[]
 ·refine(Ai h1).trans ?_
  rw[At h1];rfl
 ·refine(Ae h1).trans ?_
  rw[AN h1];by_cases h2:24<(s.length:Int)
  ·refine(Ai h2).trans ?_
   rw[At h2];rfl
  ·refine(Ae h2).trans ?_
   rw[AN h2]
   have h3:0<s.length:=by cases s with
    |nil=>exact absurd rfl h1
    |cons _ _=>simp
   refine(Al (by omega)).trans ?_;refine(yT _ _).trans ?_;show _=k (JE (s.getD 0 0).toNat&&s.all Kl);rw[show Int.toNat (0:Int)=0 from rfl];cases JE (s.getD 0 0).toNat with
   |false=>rfl
   |true=>
    show ZL (λt2=>k t2) (λ_=>k true) s (s.length:Int) 0=k (s.all Kl);unfold ZL;rw[Ad];refine(Jb (λm i=>Uo m (λt2=>k t2) (λ_=>k true) s (s.length:Int) i) Kl (k false) (k true) 0 s fuel (BB (by omega)) (λm i hi=>?_) (λm=>?_)).trans ?_
    ·simp only[AgK,ZK]
     refine(Ai (by omega)).trans ?_;refine(Al (by omega)).trans ?_;refine(yT _ _).trans ?_;rw[AT,i64_in ((i:Int)+1) (by omega)];unfold Kl;cases JE (s.getD i 0).toNat with
     |true=>rfl
     |false=>
      refine(ABy _ _).trans ?_;cases Pd (s.getD i 0).toNat with
      |true=>rfl
      |false=>show cond (!decide (((s.getD i 0).toNat:Int)=95)) (cond (!decide (((s.getD i 0).toNat:Int)=45)) _ _) _=cond (decide (((s.getD i 0).toNat:Int)=95)||decide (((s.getD i 0).toNat:Int)=45)) _ _;cases decide (((s.getD i 0).toNat:Int)=95)<;>cases decide (((s.getD i 0).toNat:Int)=45)<;>rfl
    ·simp only[AgK,ZK]
     exact Ae (by omega)
    ·cases s.all Kl<;>rfl
def sn(l:List (List UInt8)):List (List UInt8×Bool):=l.map λs=>(s,true)
theorem ABz(l:List (List UInt8))(s:List UInt8):mGet .str (sn l) s false=decide (s∈l):=by
 induction l with
 |nil=>rfl
 |cons x l ih=>
  show(bif decide (x=s)then true else mGet .str (sn l) s false)=_;by_cases h:x=s
  ·subst h
   simp
  ·rw[AN h,ih]
   show decide (s∈l)=decide (s∈x::l)
   have:s∈x::l↔s∈l:=by rw[Bw];exact⟨λg=>g.resolve_left λe=>h e.symm,.inr⟩
   exact(decide_eq_decide.2 this).symm
theorem ABA{l:List (List UInt8)}{s:List UInt8}(h:s∉l):mPut .str (sn l) s true=sn (l++[s]):=by
 induction l with
 |nil=>rfl
 |cons x l ih=>have hx:x≠s:=λe=>h (by rw[e];exact CW ..);have hl:s∉l:=λe=>h (BY _ e);show(bif decide (x=s)then(s,true)::sn l else(x,true)::mPut .str (sn l) s true)=_;rw[AN hx,ih hl];rfl
def EE(s:List UInt8)(l:List (List UInt8)):Int:=cond (Cy s) (cond (decide (s∈l)) 4 0) 2
theorem VO(s:List UInt8)(l:List (List UInt8))(k:Int->List (List UInt8×Bool)->Option β):Np s (sn l) k=k (EE s l) (sn (cond (decide (EE s l=0)) (l++[s]) l)):=by
 unfold Np;rw[Ad];unfold EE;refine(yU _ _).trans ?_;cases Cy s with
 |false=>rfl
 |true=>
  show(let g:Bool:=mGet .str (sn l) s false;cond g _ _)=_;simp only[ABz];by_cases h:s∈l
  ·rw[At h];rfl
  ·rw[AN h]
   show k 0 (mPut .str (sn l) s true)=_;rw[ABA h];rfl
def errV{σ:Type}:Int⊕σ->Int
 |.inl e=>e
 |.inr _=>0
theorem Ld{σ:Type}(k:Int->Option β)(r:Int⊕σ):sumK (λe=>k e) (λ_=>k 0) r=k (errV r):=by cases r<;>rfl
def Me(l:List (Int×Int))(i:Nat)(w:Int×Int)(_:Unit):Int⊕Unit:=
 cond (decide (w.1<0)||(decide (w.2<=w.1)||decide ((604800:Int)<w.2))) (.inl 1) (cond (decide (0<(i:Int))&&decide (w.1<(l.getD (i-1) (0,0)).2)) (.inl 6) (.inr ()))
def Es(l:List (Int×Int)):Int:=cond (decide (14<(l.length:Int))) 5 (errV (walk (Me l) l 0 ()))
theorem Ala(l:List (Int×Int))(k:Int->Option β):TL l k=k (Es l):=by
 unfold TL;rw[Ad];unfold Es;by_cases h:14<(l.length:Int)
 ·refine(Ai h).trans ?_
  rw[At h];rfl
 ·refine(Ae h).trans ?_
  rw[AN h];unfold p8;rw[Ad];refine(Ja (λm i(_:Unit)=>OE m (λt=>k t) (λ_=>k 0) l l (l.length:Int) i) (Me l) (λe=>k e) (λ_=>k 0) (0,0) l () fuel (BB (by omega)) (λm i _ hi=>?_) (λm _=>?_)).trans (Ld k _)
  ·simp only[Afl,Zn]
   refine(Ai (by omega)).trans ?_;refine(Al (by omega)).trans ?_;rw[AT];generalize hw:l.getD i (0,0)=w
   have hp:∀t:Bool,QQ (λt=>k t) (λl2 Qa Qb PW=>OE m (λt=>k t) (λ_=>k 0) l2 Qa Qb (IntKind.i64.wrap (PW+1))) l (i:Int) l (l.length:Int) (i:Int) t w=
     sumK (λe=>k e) (λ_=>OE m (λt=>k t) (λ_=>k 0) l l (l.length:Int) ((i:Int)+1)) (cond t (.inl 1) (cond (decide (0<(i:Int))&&decide (w.1<(l.getD (i-1) (0,0)).2)) (.inl 6) (.inr ()):Int⊕Unit)):=by
    intro t;unfold QQ;rw[Ad];unfold p7;cases t with
    |true=>rfl
    |false=>
     show cond (decide ((0:Int)<i)) _ _=_;by_cases h0:(0:Int)<i
     ·refine(Ai h0).trans ?_
      rw[i64_in ((i:Int)-1) (by omega)];refine(Al (by omega)).trans ?_;simp only;rw[show((i:Int)-1).toNat=i-1 by omega,At h0,i64_in ((i:Int)+1) (by omega)];cases decide (w.1<(l.getD (i-1) (0,0)).2)<;>rfl
     ·refine(Ae h0).trans ?_
      simp only;rw[AN h0,i64_in ((i:Int)+1) (by omega)];rfl
   simp only[hp];unfold Me;cases decide (w.1<0)<;>cases decide (w.2<=w.1)<;>rfl
  ·simp only[Afl,Zn]
   exact Ae (by omega)
end
end
end Go.Lift
namespace Go.Lift
open Go.RowKit Go.IntWalk
noncomputable section
variable[Sl]
set_option maxRecDepth 10000
section
variable{β:Type}
def HC(nz:Int)(p:Bb):Int:=cond (!ixI p.2.1 nz) 3 (cond (!decide (Es p.2.2.1=0)) 8 (cond (!I0 p.2.2.2.1) 1 (cond (!I0 p.2.2.2.2.1) 1 0)))
theorem ABB(c:As)(p:Bb)(k:Int->Option β):aM c p k=k (HC (c.1.length:Int) p):=by
 unfold aM;rw[Ad];unfold HC;refine(r_ix _ _ _).trans ?_;cases ixI p.2.1 (c.1.length:Int)with
 |false=>rfl
 |true=>
  refine(Ala _ _).trans ?_;show cond (!decide (Es p.2.2.1=0)) _ _=k (cond (!decide (Es p.2.2.1=0)) _ _);cases decide (Es p.2.2.1=0)with
  |false=>rfl
  |true=>
   refine(Al9 _ _).trans ?_;cases I0 p.2.2.2.1 with
   |false=>rfl
   |true=>refine(Al9 _ _).trans ?_;cases I0 p.2.2.2.2.1<;>rfl
abbrev Ed:=Int×(Int×(Int×(Int×Int)))
def e1V(b:Bool)(x:Ed):Int:=cond b 1 (cond (decide (x.2.2.2.2<=x.2.2.2.1)) 6 0)
def e2V(b:Bool)(x:Ed):Int:=cond b 4 (e1V (decide (x.2.2.2.1<0)||(decide (x.2.2.2.2<0)||!dayI (IntKind.i64.wrap (Int.tdiv x.2.2.2.2 86400)))) x)
def e3V(b:Bool)(x:Ed):Int:=cond b 1 (e2V (decide (x.1=2)&&decide (x.2.1=x.2.2.1)) x)
def e4V(b:Bool)(x:Ed):Int:=cond b 3 (e3V ((!decide (x.1=2))&&!decide (x.2.2.1=0)) x)
def HD(np:Int)(x:Ed):Int:=
 cond (!inI x.1 0 2) 1 (e4V (((!ixI x.2.1 np)&&!(decide (x.1=1)&&decide (x.2.1=-1)))||(decide (x.1=2)&&!ixI x.2.2.1 np)) x)
theorem r_e1(b:Bool)(x:Ed)(k:Int->Option β):Re (λt=>k t) (λ_=>k 0) b x=k (e1V b x):=by
 unfold Re;rw[Ad];unfold uA e1V;cases b with
 |true=>rfl
 |false=>show cond (decide (x.2.2.2.2<=x.2.2.2.1)) _ _=k (cond (decide (x.2.2.2.2<=x.2.2.2.1)) _ _);cases decide (x.2.2.2.2<=x.2.2.2.1)<;>rfl
theorem r_e2(b:Bool)(x:Ed)(k:Int->Option β):UX (λt=>k t) (λ_=>k 0) b x=k (e2V b x):=by
 unfold UX;rw[Ad];unfold uB e2V;cases b with
 |true=>rfl
 |false=>
  show cond (decide (x.2.2.2.1<0)) _ _=k (e1V (decide (x.2.2.2.1<0)||_) x);cases decide (x.2.2.2.1<0)with
  |true=>exact r_e1 _ _ _
  |false=>
   show cond (decide (x.2.2.2.2<0)) _ _=k (e1V (decide (x.2.2.2.2<0)||_) x);cases decide (x.2.2.2.2<0)with
   |true=>exact r_e1 _ _ _
   |false=>exact(yS _ _).trans (r_e1 _ _ _)
theorem r_e3(b:Bool)(x:Ed)(k:Int->Option β):UY (λt=>k t) (λ_=>k 0) b x=k (e3V b x):=by
 unfold UY;rw[Ad];unfold uC e3V;cases b with
 |true=>rfl
 |false=>show cond (decide (x.1=2)) _ _=k (e2V (decide (x.1=2)&&_) x);cases decide (x.1=2)<;>exact r_e2 _ _ _
theorem r_e4(b:Bool)(x:Ed)(k:Int->Option β):OS (λt=>k t) (λ_=>k 0) b x=k (e4V b x):=by
 unfold OS;rw[Ad];unfold uD e4V;cases b with
 |true=>rfl
 |false=>show cond (!decide (x.1=2)) _ _=k (e3V ((!decide (x.1=2))&&_) x);cases decide (x.1=2)<;>exact r_e3 _ _ _
theorem ABC(c:As)(x:Ed)(k:Int->Option β):bX c x k=k (HD (c.2.1.length:Int) x):=by
 have h5:∀b:Bool,Rf (λC9 x2=>OS (λt=>k t) (λ_=>k 0) C9 x2) (c.2.1.length:Int) b x=k (e4V (b||(decide (x.1=2)&&!ixI x.2.2.1 (c.2.1.length:Int))) x):=by
  intro b;unfold Rf;rw[Ad];unfold uE;cases b with
  |true=>exact r_e4 _ _ _
  |false=>
   show cond (decide (x.1=2)) _ _=k (e4V (decide (x.1=2)&&_) x);cases decide (x.1=2)with
   |false=>exact r_e4 _ _ _
   |true=>exact(r_ix _ _ _).trans (r_e4 _ _ _)
 unfold bX;rw[Ad];unfold HD;refine(r_in _ _ _ _).trans ?_;cases inI x.1 0 2 with
 |false=>rfl
 |true=>
  refine(r_ix _ _ _).trans ?_;show cond (!ixI x.2.1 (c.2.1.length:Int)) _ _=k (e4V (((!ixI x.2.1 (c.2.1.length:Int))&&_)||_) x);cases ixI x.2.1 (c.2.1.length:Int)with
  |true=>exact h5 _
  |false=>show cond (decide (x.1=1)) _ _=k (e4V ((!(decide (x.1=1)&&_))||_) x);cases decide (x.1=1)<;>exact h5 _
def l1V(b:Bool)(l:AU):Int:=cond b 3 (cond (decide (l.2.2.2.2.2.2.2.2=0)) (cond (!decide (l.2.2.2.2.2.2.2.1=0)) 1 0) 0)
def l2V(np nc:Int)(b:Bool)(l:AU):Int:=
 cond b 1 (cond (decide ((l.2.2.2.2.2.1.length:Int)=0)) 7 (cond (decide (12<(l.2.2.2.2.2.1.length:Int))) 5 (cond (!l.2.2.2.2.2.1.all λm=>ixI m np) 3
  (cond (!decide (Es l.2.2.2.2.2.2.1=0)) 8 (cond (!inI l.2.2.2.2.2.2.2.2 0 2) 1 (l1V ((!decide (l.2.2.2.2.2.2.2.2=0))&&!ixI l.2.2.2.2.2.2.2.1 nc) l))))))
def Et(nz np nc:Int)(l:AU):Int:=
 cond (!ixI l.2.1 nz) 3 (l2V np nc (decide (l.2.2.1.1<1)||((!dayI l.2.2.1.1)||((!inI l.2.2.1.2 0 86399)||((!inI l.2.2.2.1 0 2)||!inI l.2.2.2.2.1 1 400)))) l)
theorem r_l1(b:Bool)(l:AU)(k:Int->Option β):V3 (λt=>k t) (λ_=>k 0) b l=k (l1V b l):=by
 unfold V3;rw[Ad];unfold xA l1V;cases b with
 |true=>rfl
 |false=>show cond (decide (l.2.2.2.2.2.2.2.2=0)) (cond (!decide (l.2.2.2.2.2.2.2.1=0)) _ _) _=k (cond (decide (l.2.2.2.2.2.2.2.2=0)) (cond (!decide (l.2.2.2.2.2.2.2.1=0)) _ _) _);cases decide (l.2.2.2.2.2.2.2.2=0)<;>cases decide (l.2.2.2.2.2.2.2.1=0)<;>rfl
theorem ABD(s:List Int)(hs:s.length<=1000000)(c:As)(k:Bool->As->Option β):dT s c k=k (!s.all λm=>ixI m (c.2.1.length:Int)) c:=by
 unfold dT;rw[Ad];unfold wL;rw[Ad];unfold wK;rw[Ad];refine(Jb (λm i=>Vv m (λt b=>k (decide ((0:Int)<=t)) b) (λb=>k (decide ((0:Int)≤-1)) b) s (s.length:Int) i c) (λm=>ixI m (c.2.1.length:Int)) (k true c) (k false c) 0 s fuel (BB (by omega)) (λm i hi=>?_) (λm=>?_)).trans ?_
 ·simp only[AjD,dM]
  refine(Ai (by omega)).trans ?_;refine(Al (by omega)).trans ?_;rw[AT,i64_in ((i:Int)+1) (by omega)];unfold pO;rw[Ad];refine(r_ix _ _ _).trans ?_;cases ixI (s.getD i 0) (c.2.1.length:Int)with
  |true=>rfl
  |false=>show k (decide ((0:Int)<=i)) c=k true c;rw[At (by omega:(0:Int)<=i)]
 ·simp only[AjD,dM]
  exact Ae (by omega)
 ·cases s.all λm=>ixI m (c.2.1.length:Int)<;>rfl
theorem r_l2(b:Bool)(c:As)(l:AU)(k:Int->Option β):Nr (λt=>k t) (λ_=>k 0) b c l=k (l2V (c.2.1.length:Int) (c.2.2.1.length:Int) b l):=by
 unfold Nr;rw[Ad];unfold xB l2V;cases b with
 |true=>rfl
 |false=>
  show cond (decide ((l.2.2.2.2.2.1.length:Int)=0)) _ _=k (cond (decide ((l.2.2.2.2.2.1.length:Int)=0)) _ _);cases decide ((l.2.2.2.2.2.1.length:Int)=0)with
  |true=>rfl
  |false=>
   show cond (decide ((12:Int)<(l.2.2.2.2.2.1.length:Int))) _ _=k (cond (decide ((12:Int)<(l.2.2.2.2.2.1.length:Int))) _ _);by_cases h:(12:Int)<(l.2.2.2.2.2.1.length:Int)
   ·rw[At h];rfl
   ·rw[AN h]
    refine(ABD _ (by omega) _ _).trans ?_;cases l.2.2.2.2.2.1.all λm=>ixI m (c.2.1.length:Int)with
    |false=>rfl
    |true=>
     refine(Ala _ _).trans ?_;show cond (!decide (Es l.2.2.2.2.2.2.1=0)) _ _=k (cond (!decide (Es l.2.2.2.2.2.2.1=0)) _ _);cases decide (Es l.2.2.2.2.2.2.1=0)with
     |false=>rfl
     |true=>
      refine(r_in _ _ _ _).trans ?_;cases inI l.2.2.2.2.2.2.2.2 0 2 with
      |false=>rfl
      |true=>
       show cond (!decide (l.2.2.2.2.2.2.2.2=0)) _ _=k (l1V ((!decide (l.2.2.2.2.2.2.2.2=0))&&_) l);cases decide (l.2.2.2.2.2.2.2.2=0)with
       |true=>exact r_l1 _ _ _
       |false=>exact(r_ix _ _ _).trans (r_l1 _ _ _)
theorem ABE(c:As)(l:AU)(k:Int->Option β):eF c l k=k (Et (c.1.length:Int) (c.2.1.length:Int) (c.2.2.1.length:Int) l):=by
 unfold eF;rw[Ad];unfold Et;refine(r_ix _ _ _).trans ?_;cases ixI l.2.1 (c.1.length:Int)with
 |false=>rfl
 |true=>
  show cond (decide (l.2.2.1.1<1)) _ _=k (l2V _ _ (decide (l.2.2.1.1<1)||_) l);cases decide (l.2.2.1.1<1)with
  |true=>exact r_l2 _ _ _ _
  |false=>
   refine(yS _ _).trans ?_;show cond (!dayI l.2.2.1.1) _ _=k (l2V _ _ ((!dayI l.2.2.1.1)||_) l);cases dayI l.2.2.1.1 with
   |false=>exact r_l2 _ _ _ _
   |true=>
    refine(r_in _ _ _ _).trans ?_;show cond (!inI l.2.2.1.2 0 86399) _ _=k (l2V _ _ ((!inI l.2.2.1.2 0 86399)||_) l);cases inI l.2.2.1.2 0 86399 with
    |false=>exact r_l2 _ _ _ _
    |true=>
     refine(r_in _ _ _ _).trans ?_;show cond (!inI l.2.2.2.1 0 2) _ _=k (l2V _ _ ((!inI l.2.2.2.1 0 2)||_) l);cases inI l.2.2.2.1 0 2 with
     |false=>exact r_l2 _ _ _ _
     |true=>exact(r_in _ _ _ _).trans (r_l2 _ _ _ _)
theorem ABF(s:List Int)(hs:s.length<=1000000)(k:Bool->Option β):dS s k=k (!s.all dayI):=by
 unfold dS;rw[Ad];unfold wI;rw[Ad];unfold wH;rw[Ad];refine(Jb (λm i=>Vu m (λt=>k (decide ((0:Int)<=t))) (λ_=>k (decide ((0:Int)≤-1))) s (s.length:Int) i) dayI (k true) (k false) 0 s fuel (BB (by omega)) (λm i hi=>?_) (λm=>?_)).trans ?_
 ·simp only[Ajy,dL]
  refine(Ai (by omega)).trans ?_;refine(Al (by omega)).trans ?_;rw[AT,i64_in ((i:Int)+1) (by omega)];unfold v6;rw[Ad];refine(yS _ _).trans ?_;cases dayI (s.getD i 0)with
  |true=>rfl
  |false=>show k (decide ((0:Int)<=i))=k true;rw[At (by omega:(0:Int)<=i)]
 ·simp only[Ajy,dL]
  exact Ae (by omega)
 ·cases s.all dayI<;>rfl
def ascG(l:List Int)(i:Nat)(d:Int)(_:Unit):Int⊕Unit:=cond (decide (0<(i:Int))&&decide (d<=l.getD (i-1) 0)) (.inl 6) (.inr ())
def calV(nz:Int)(x:Bh):Int:=
 cond (!ixI x.2.1 nz) 3 (cond (decide (64<(x.2.2.length:Int))) 5 (cond (!x.2.2.all dayI) 1 (errV (walk (ascG x.2.2) x.2.2 0 ()))))
theorem ABG(c:As)(x:Bh)(k:Int->Option β):eC c x k=k (calV (c.1.length:Int) x):=by
 unfold eC;rw[Ad];unfold calV;refine(r_ix _ _ _).trans ?_;cases ixI x.2.1 (c.1.length:Int)with
 |false=>rfl
 |true=>
  show cond (decide ((64:Int)<(x.2.2.length:Int))) _ _=k (cond (decide ((64:Int)<(x.2.2.length:Int))) _ _);by_cases h:(64:Int)<(x.2.2.length:Int)
  ·rw[At h];rfl
  ·rw[AN h]
   refine(ABF _ (by omega) _).trans ?_;cases x.2.2.all dayI with
   |false=>rfl
   |true=>
    show dZ (λt=>k t) (λ_=>k 0) (x.2.2.length:Int) 0 x=k (errV (walk (ascG x.2.2) x.2.2 0 ()));unfold dZ;rw[Ad];refine(Ja (λm i(_:Unit)=>V1 m (λt=>k t) (λ_=>k 0) (x.2.2.length:Int) i x) (ascG x.2.2) (λe=>k e) (λ_=>k 0) 0 x.2.2 () fuel (BB (by omega)) (λm i _ hi=>?_) (λm _=>?_)).trans (Ld k _)
    ·simp only[AjW,dY]
     refine(Ai (by omega)).trans ?_;unfold ascG;rw[i64_in ((i:Int)+1) (by omega)];by_cases h0:(0:Int)<i
     ·refine(Ai h0).trans ?_
      refine(Al (by omega)).trans ?_;rw[i64_in ((i:Int)-1) (by omega)];refine(Al (by omega)).trans ?_;rw[show((i:Int)-1).toNat=i-1 by omega,AT,At h0];cases decide (x.2.2.getD i 0<=x.2.2.getD (i-1) 0)<;>rfl
     ·refine(Ae h0).trans ?_
      rw[AN h0];rfl
    ·simp only[AjW,dY]
     exact Ae (by omega)
def F7{α:Type}(of:α->List UInt8)(chk:α->Int)(_:Nat)(x:α)(l:List (List UInt8)):Int⊕List (List UInt8):=
 cond (decide (EE (of x) l=0)) (cond (decide (chk x=0)) (.inr (l++[of x])) (.inl (chk x))) (.inl (EE (of x) l))
def FX{α:Type}(of:α->List UInt8)(chk:α->Int)(xs:List α):Int:=errV (walk (F7 of chk) xs 0 [])
theorem C5{α:Type}{xs:List α}{i:Nat}{d:α}(h:i<xs.length):xs.getD i d∈xs:=by rw[Qd,Ef h];exact kB h
theorem fU{α:Type}(E:Int->Option β)(K:List (List UInt8)->Option β)(of:α->List UInt8)(chk:α->Int)(i:Nat)(x:α)(l:List (List UInt8)):sumK E K (F7 of chk i x l)=cond (!decide (EE (of x) l=0)) (E (EE (of x) l)) (cond (!decide (chk x=0)) (E (chk x)) (K (l++[of x]))):=by
 unfold F7;cases decide (EE (of x) l=0)<;>cases decide (chk x=0)<;>rfl
theorem fV{s:List UInt8}{l:List (List UInt8)}{a:Option β}{f:List (List UInt8×Bool)->Option β}:cond (!decide (EE s l=0)) a (f (sn (cond (decide (EE s l=0)) (l++[s]) l)))=cond (!decide (EE s l=0)) a (f (sn (l++[s]))):=by
 cases decide (EE s l=0)<;>rfl
theorem ABH(xs:List AK)(zv:AK->Int)(hz:∀z∈xs,∀k:Int->Option β,Rp z k=k (zv z))(hs:xs.length<=1000000)(k:Int->Option β):eU xs k=k (FX (·.1) zv xs):=by
 unfold eU;rw[Ad];unfold xZ;rw[Ad];refine(Ja (λm i l=>Rq m (λt=>k t) (λ_=>k 0) xs (xs.length:Int) i (sn l)) (F7 (·.1) zv) (λe=>k e) (λ_=>k 0) ([],0,[]) xs [] fuel (BB (by omega)) (λm i l hi=>?_) (λm _=>?_)).trans (Ld k _)
 ·simp only[Akz,eT]
  refine(Ai (by omega)).trans ?_;refine(Al (by omega)).trans ?_;rw[AT,i64_in ((i:Int)+1) (by omega),fU];generalize hx:xs.getD i ([],0,[])=x;have hm:x∈xs:=hx▸C5 hi;unfold oH;rw[Ad];refine(VO _ _ _).trans ?_;rw[hz x hm];exact fV (f:=λt=>cond (!decide (zv x=0)) (k (zv x)) (Rq m (λt=>k t) (λ_=>k 0) xs (xs.length:Int) ((i:Int)+1) t))
 ·simp only[Akz,eT]
  exact Ae (by omega)
theorem ABI(c:As)(xs:List Bh)(hs:xs.length<=1000000)(k:Int->As->Option β):eW xs c k=k (FX (·.1) (calV (c.1.length:Int)) xs) c:=by
 unfold eW;rw[Ad];unfold y6;rw[Ad];refine(Ja (λm i l=>Rr m (λt b=>k t b) (λb=>k 0 b) xs (xs.length:Int) i c (sn l)) (F7 (·.1) (calV (c.1.length:Int))) (λe=>k e c) (λ_=>k 0 c) ([],0,[]) xs [] fuel (BB (by omega)) (λm i l hi=>?_) (λm _=>?_)).trans (Ld (λe=>k e c) _)
 ·simp only[AkE,eV]
  refine(Ai (by omega)).trans ?_;refine(Al (by omega)).trans ?_;rw[AT,i64_in ((i:Int)+1) (by omega),fU];generalize hx:xs.getD i ([],0,[])=x;unfold oI xL;rw[Ad,Ad];refine(VO _ _ _).trans ?_;refine(Ax (cond _ _) (ABG _ _ _)).trans ?_;exact fV (f:=λt=>cond (!decide (calV (c.1.length:Int) x=0)) (k (calV (c.1.length:Int) x) c) (Rr m (λt b=>k t b) (λb=>k 0 b) xs (xs.length:Int) ((i:Int)+1) c t))
 ·simp only[AkE,eV]
  exact Ae (by omega)
theorem ABJ(c:As)(xs:List AU)(hs:xs.length<=1000000)(k:Int->As->Option β):eL xs c k=k (FX (·.1) (Et (c.1.length:Int) (c.2.1.length:Int) (c.2.2.1.length:Int)) xs) c:=by
 unfold eL;rw[Ad];unfold xO;rw[Ad];refine(Ja (λm i l=>Ro m (λt b=>k t b) (λb=>k 0 b) xs (xs.length:Int) i c (sn l)) (F7 (·.1) (Et (c.1.length:Int) (c.2.1.length:Int) (c.2.2.1.length:Int))) (λe=>k e c) (λ_=>k 0 c) ([],0,(0,0),0,0,[],[],0,0) xs [] fuel (BB (by omega)) (λm i l hi=>?_) (λm _=>?_)).trans (Ld (λe=>k e c) _)
 ·simp only[Akh,eK]
  refine(Ai (by omega)).trans ?_;refine(Al (by omega)).trans ?_;rw[AT,i64_in ((i:Int)+1) (by omega),fU];generalize hx:xs.getD i ([],0,(0,0),0,0,[],[],0,0)=x;unfold p9 xM;rw[Ad,Ad];refine(VO _ _ _).trans ?_;refine(Ax (cond _ _) (ABE _ _ _)).trans ?_;exact fV (f:=λt=>cond (!decide (Et (c.1.length:Int) (c.2.1.length:Int) (c.2.2.1.length:Int) x=0)) (k (Et (c.1.length:Int) (c.2.1.length:Int) (c.2.2.1.length:Int) x) c) (Ro m (λt b=>k t b) (λb=>k 0 b) xs (xs.length:Int) ((i:Int)+1) c t))
 ·simp only[Akh,eK]
  exact Ae (by omega)
def Mf(np:Int)(_:Nat)(x:Ed)(_:Unit):Int⊕Unit:=cond (decide (HD np x=0)) (.inr ()) (.inl (HD np x))
def FY(nz np nc:Int)(x:By):Int:=
 cond (decide (6<(x.2.1.length:Int))) 5 (cond (decide (48<(x.2.2.length:Int))) 5
  (cond (decide (FX (·.1) (Et nz np nc) x.2.1=0)) (errV (walk (Mf np) x.2.2 0 ())) (FX (·.1) (Et nz np nc) x.2.1)))
theorem ABK(c:As)(x:By)(k:Int->Option β):eP c x k=k (FY (c.1.length:Int) (c.2.1.length:Int) (c.2.2.1.length:Int) x):=by
 unfold eP;rw[Ad];unfold FY;by_cases h1:(6:Int)<(x.2.1.length:Int)
 ·refine(Ai h1).trans ?_
  rw[At h1];rfl
 refine(Ae h1).trans ?_;rw[AN h1];by_cases h2:(48:Int)<(x.2.2.length:Int)
 ·refine(Ai h2).trans ?_
  rw[At h2];rfl
 refine(Ae h2).trans ?_;rw[AN h2];refine(ABJ c _ (by omega) _).trans ?_;show cond (!decide (FX _ (Et _ _ _) x.2.1=0)) _ _=k (cond (decide (FX _ (Et _ _ _) x.2.1=0)) _ _);cases decide (FX (·.1) (Et (c.1.length:Int) (c.2.1.length:Int) (c.2.2.1.length:Int)) x.2.1=0)with
 |false=>rfl
 |true=>
  show eO (λt=>k t) (λ_=>k 0) x.2.2 (x.2.2.length:Int) 0 c=k (errV (walk (Mf (c.2.1.length:Int)) x.2.2 0 ()));unfold eO;rw[Ad];refine(Ja (λm i(_:Unit)=>V8 m (λt=>k t) (λ_=>k 0) x.2.2 (x.2.2.length:Int) i c) (Mf (c.2.1.length:Int)) (λe=>k e) (λ_=>k 0) (0,0,0,0,0) x.2.2 () fuel (BB (by omega)) (λm i _ hi=>?_) (λm _=>?_)).trans (Ld k _)
  ·simp only[Akm,eN]
   refine(Ai (by omega)).trans ?_;refine(Al (by omega)).trans ?_;rw[AT,i64_in ((i:Int)+1) (by omega)];refine(ABC _ _ _).trans ?_;unfold Mf;cases decide (HD (c.2.1.length:Int) (x.2.2.getD i (0,0,0,0,0))=0)<;>rfl
  ·simp only[Akm,eN]
   exact Ae (by omega)
theorem ABL(c:As)(xs:List By)(hs:xs.length<=1000000)(k:Int->As->Option β):eY xs c k=k (FX (·.1) (FY (c.1.length:Int) (c.2.1.length:Int) (c.2.2.1.length:Int)) xs) c:=by
 unfold eY;rw[Ad];unfold y8;rw[Ad];refine(Ja (λm i l=>Rs m (λt b=>k t b) (λb=>k 0 b) xs (xs.length:Int) i c (sn l)) (F7 (·.1) (FY (c.1.length:Int) (c.2.1.length:Int) (c.2.2.1.length:Int))) (λe=>k e c) (λ_=>k 0 c) ([],[],[]) xs [] fuel (BB (by omega)) (λm i l hi=>?_) (λm _=>?_)).trans (Ld (λe=>k e c) _)
 ·simp only[AkJ,eX]
  refine(Ai (by omega)).trans ?_;refine(Al (by omega)).trans ?_;rw[AT,i64_in ((i:Int)+1) (by omega),fU];generalize hx:xs.getD i ([],[],[])=x;unfold oJ xU;rw[Ad,Ad];refine(VO _ _ _).trans ?_;refine(Ax (cond _ _) (ABK _ _ _)).trans ?_;exact fV (f:=λt=>cond (!decide (FY (c.1.length:Int) (c.2.1.length:Int) (c.2.2.1.length:Int) x=0)) (k (FY (c.1.length:Int) (c.2.1.length:Int) (c.2.2.1.length:Int) x) c) (Rs m (λt b=>k t b) (λb=>k 0 b) xs (xs.length:Int) ((i:Int)+1) c t))
 ·simp only[AkJ,eX]
  exact Ae (by omega)
def GS:List UInt8:=[110,111,98,111,100,121]
def Le(nz:Int)(p:Bb)(l:List (List UInt8)):Int:=cond (decide (p.1=GS)) 2 (EE p.1 l)
def Mg(nz:Int)(_:Nat)(p:Bb)(l:List (List UInt8)):Int⊕List (List UInt8):=
 cond (decide (Le nz p l=0)) (cond (decide (HC nz p=0)) (.inr (l++[p.1])) (.inl (HC nz p))) (.inl (Le nz p l))
def VP(nz:Int)(xs:List Bb):Int:=errV (walk (Mg nz) xs 0 [])
def orV(a b:Int):Int:=cond (decide (a=0)) b a
def VQ(zv:AK->Int)(c:As):Int:=
 cond (decide (16<(c.1.length:Int))) 5 (cond (decide (32<(c.2.1.length:Int))) 5 (cond (decide (8<(c.2.2.1.length:Int))) 5 (cond (decide (12<(c.2.2.2.length:Int))) 5
  (orV (FX (·.1) zv c.1) (orV (VP (c.1.length:Int) c.2.1) (orV (FX (·.1) (calV (c.1.length:Int)) c.2.2.1)
   (FX (·.1) (FY (c.1.length:Int) (c.2.1.length:Int) (c.2.2.1.length:Int)) c.2.2.2)))))))
theorem Alb{k:Int->Option β}{a b:Int}{g:Option β}(h:g=k b):cond (!decide (a=0)) (k a) g=k (orV a b):=by rw[h];unfold orV;cases decide (a=0)<;>rfl
theorem ABM{nz:Int}{xs:List Bb}:∀{j:Nat}{l:List (List UInt8)}{e:Int},walk (Mg nz) xs j l=.inl e->e≠0:=by
 induction xs with
 |nil=>intro j l e h;cases h
 |cons x xs ih=>
  intro j l e h;unfold walk at h;unfold Mg at h;by_cases h1:Le nz x l=0
  ·rw[At h1]at h
   by_cases h2:HC nz x=0
   ·rw[At h2]at h
    exact ih h
   ·rw[AN h2]at h
    injection h with h;exact h▸h2
  ·rw[AN h1]at h
   injection h with h;exact h▸h1
theorem ABN(nz:Int){p:Bb}{l:List (List UInt8)}{f:Int->List (List UInt8×Bool)->Option β}:cond (decide (p.1=GS)) (f 2 (sn (cond (decide (EE p.1 l=0)) (l++[p.1]) l))) (f (EE p.1 l) (sn (cond (decide (EE p.1 l=0)) (l++[p.1]) l)))=f (Le nz p l) (sn (cond (decide (EE p.1 l=0)) (l++[p.1]) l)):=by
 unfold Le;cases decide (p.1=GS)<;>rfl
theorem ABO{nz:Int}{p:Bb}{l:List (List UInt8)}(h:Le nz p l=0):EE p.1 l=0:=by
 unfold Le at h;cases hp:decide (p.1=GS)with
 |true=>rw[hp]at h;cases h
 |false=>rw[hp]at h;exact h
theorem ABP(c:As)(xs:List Bb)(hs:xs.length<=1000000)(k:Int->Option β)(K:As->Option β)(b:Int)(hK:K c=k b):f4 (λt=>k t) K xs (xs.length:Int) 0 c []=k (orV (VP (c.1.length:Int) xs) b):=by
 unfold f4;rw[Ad];refine(Ja (λm i l=>Rt m (λt=>k t) K xs (xs.length:Int) i c (sn l)) (Mg (c.1.length:Int)) (λe=>k e) (λ_=>k b) ([],0,[],0,0,false) xs [] fuel (BB (by omega)) (λm i l hi=>?_) (λm _=>?_)).trans ?_
 ·simp only[AkN,eZ]
  refine(Ai (by omega)).trans ?_;refine(Al (by omega)).trans ?_;rw[AT];generalize hx:xs.getD i ([],0,[],0,0,false)=x;refine(VO _ _ _).trans ?_;refine(ABN (c.1.length:Int) (f:=λe s=>VB (λt=>k t) (λX9 XA XB c2 seen2=>Rt m (λt=>k t) K X9 XA (IntKind.i64.wrap (XB+1)) c2 seen2) e xs (xs.length:Int) (i:Int) c s x)).trans ?_;unfold VB;rw[Ad];unfold yC Mg;simp only;rw[i64_in ((i:Int)+1) (by omega)];by_cases h1:Le (c.1.length:Int) x l=0
  ·refine(Ai h1).trans ?_
   rw[At h1,ABO h1];refine(ABB _ _ _).trans ?_;cases decide (HC (c.1.length:Int) x=0)<;>rfl
  ·refine(Ae h1).trans ?_
   refine(Fe h1).trans ?_;rw[AN h1];rfl
 ·simp only[AkN,eZ]
  exact(Ae (by omega)).trans hK
 ·unfold VP
  cases hw:walk (Mg (c.1.length:Int)) xs 0 []with
  |inr _=>rfl
  |inl e=>have:=ABM hw;show k e=k (orV e b);unfold orV;rw[AN this];rfl
theorem Alc(c:As)(zv:AK->Int)(hz:∀z∈c.1,∀k:Int->Option β,Rp z k=k (zv z))(k:Int->Option β):Ru c k=k (VQ zv c):=by
 unfold Ru;rw[Ad];unfold VQ;by_cases h1:(16:Int)<(c.1.length:Int)
 ·refine(Ai h1).trans ?_
  rw[At h1];rfl
 refine(Ae h1).trans ?_;rw[AN h1];by_cases h2:(32:Int)<(c.2.1.length:Int)
 ·refine(Ai h2).trans ?_
  rw[At h2];rfl
 refine(Ae h2).trans ?_;rw[AN h2];by_cases h3:(8:Int)<(c.2.2.1.length:Int)
 ·refine(Ai h3).trans ?_
  rw[At h3];rfl
 refine(Ae h3).trans ?_;rw[AN h3];by_cases h4:(12:Int)<(c.2.2.2.length:Int)
 ·refine(Ai h4).trans ?_
  rw[At h4];rfl
 refine(Ae h4).trans ?_;rw[AN h4];refine(ABH c.1 zv hz (by omega) _).trans ?_;refine Alb (k:=k) ?_;refine ABP c c.2.1 (by omega) k _ _ ?_;refine(ABI c c.2.2.1 (by omega) _).trans ?_;refine Alb (k:=k) ?_;exact ABL c c.2.2.2 (by omega) _
end
end
end Go.Lift
