/- Part14: Fn1, Fn2, LBase, LCivil, LChk, LChk2, LZone, LDice, LNames1, LNames2. -/
import Derived.Test.YtdnpgahodmolkaaGreatDoorProg
import Derived.KernelRfl
import Derived.Test.YtdnpgahodmolkaaGreatDoorPart13
set_option linter.unusedVariables false
set_option linter.unusedSectionVars false
set_option linter.unusedSimpArgs false
namespace Go.Lift
open Go.Proofs
noncomputable section
variable[Sl]
set_option maxRecDepth 100000
abbrev kP:={β:Type}->AD->Am->Ak->Al->Ap->AV->(Am->Ak->Al->Ap->AV->Option β)->Option β
noncomputable def PR:List En:=[Uu,dP,Aar,Ut,Ew,Ho,iH,OO]
abbrev AdT(β:Type):=Am->Ak->Al->Ap->AV->Option β
abbrev AdU(β:Type):=Am->Ak->Al->Ap->AV->AD->Option β
noncomputable def kQ:Pc:=⟨64,2,AA 15 (Ar Tryz.f25),⟨2,[0,3],[As,BY],[Ju,.tree 42 FK,.cells 61 [.data Gt]]⟩,[(.normal,⟨2,[],[],Cb⟩)]⟩
def VP{β:Type}(k1:AdT β):AdU β:=λw w2 w3 w4 b1_ l=>Ir ([111,110]:List UInt8) l.2.2.2.2.2.2.1 w w2 w3 w4 b1_ (λmrwindows mrwindows2 mrwindows3 mrwindows4 lrwindows=>cond (!decide (l.2.2.2.2.2.2.2.2=(0:Int))) (let l2:=([([]:List UInt8),([110,111,116]:List UInt8),([111,110,108,121]:List UInt8)]:List An);cond (decide (0<=l.2.2.2.2.2.2.2.2)&&decide (l.2.2.2.2.2.2.2.2<(List.length l2:Int))) (cond (decide (0<=l.2.2.2.2.2.2.2.1)&&decide (l.2.2.2.2.2.2.2.1<(List.length mrwindows3:Int))) (let e:=List.getD mrwindows3 (Int.toNat l.2.2.2.2.2.2.2.1) (([]:List UInt8),(0,([]:List Int)));C8 e.1 (λrword=>let l3:=([rword]:List AR);BR (List.getD l2 (Int.toNat l.2.2.2.2.2.2.2.2) ([]:List UInt8)) l3 mrwindows mrwindows2 mrwindows3 mrwindows4 lrwindows (λmradd mradd2 mradd3 mradd4 lradd=>k1 mradd mradd2 mradd3 mradd4 lradd))) none) none) (k1 mrwindows mrwindows2 mrwindows3 mrwindows4 lrwindows))
def Du{β:Type}:=hid (VP (β:=β))
noncomputable def AdV:Pb:=⟨15,kQ,λ_=>Du,Ie mixed (X:=⟨look tab,gam PR,false,false,false,false,C7,none,0,[]⟩) (p:=kQ) AJ PR rfl [] 15 (g:=λ_=>VP) (by kernel_rfl) λ_ _=>by kernel_rfl⟩
def kR:kP:=λl w w2 w3 w4 b1_ k=>C8 l.1 (λrword=>Il l.2.1 w w2 w3 w4 b1_ (λrzone mrzone mrzone2 mrzone3 mrzone4 lrzone=>J0 l.2.2.1.1 (λrdate=>Hl l.2.2.1.2 (λrclock=>G4 l.2.2.2.2.1 (λrnumber=>let l2:=([([104,111,117,114,115]:List UInt8),([100,97,121,115]:List UInt8),([119,101,101,107,115]:List UInt8)]:List An);cond (decide (0<=l.2.2.2.1)&&decide (l.2.2.2.1<(List.length l2:Int))) (C8 (List.getD l2 (Int.toNat l.2.2.2.1) ([]:List UInt8)) (λrword2=>let l3:=([rword,rzone,rdate,rclock,rnumber,rword2]:List AR);BR ([108,97,121,101,114]:List UInt8) l3 mrzone mrzone2 mrzone3 mrzone4 lrzone (λmradd mradd2 mradd3 mradd4 lradd=>cond (decide ((0:Int)<(List.length l.2.2.2.2.2.1:Int))) (cond (decide (0<=(0:Int))&&decide ((0:Int)<(List.length l.2.2.2.2.2.1:Int))) (let e:=List.getD l.2.2.2.2.2.1 (Int.toNat 0) 0;CX e mradd mradd2 mradd3 mradd4 lradd (λrperson mrperson mrperson2 mrperson3 mrperson4 lrperson=>let l4:=([rperson]:List AR);cond (decide (List.length l4*32<=AG)) (cond (decide ((IntKind.i64.wrap (0+(1:Int)))<(List.length l.2.2.2.2.2.1:Int))) (cond (decide (0<=(IntKind.i64.wrap (0+(1:Int))))&&decide ((IntKind.i64.wrap (0+(1:Int)))<(List.length l.2.2.2.2.2.1:Int))) (let e2:=List.getD l.2.2.2.2.2.1 (Int.toNat (IntKind.i64.wrap (0+(1:Int)))) 0;CX e2 mrperson mrperson2 mrperson3 mrperson4 lrperson (λrperson2 mrperson5 mrperson6 mrperson7 mrperson8 lrperson2=>let l5:=([rperson2]:List AR);cond (decide ((List.length l4+List.length l5)*32<=AG)) (let l6:=(l4++l5);cond (decide ((IntKind.i64.wrap ((IntKind.i64.wrap (0+(1:Int)))+1))<(List.length l.2.2.2.2.2.1:Int))) (cond (decide (0<=(IntKind.i64.wrap ((IntKind.i64.wrap (0+(1:Int)))+1)))&&decide ((IntKind.i64.wrap ((IntKind.i64.wrap (0+(1:Int)))+1))<(List.length l.2.2.2.2.2.1:Int))) (let e3:=List.getD l.2.2.2.2.2.1 (Int.toNat (IntKind.i64.wrap ((IntKind.i64.wrap (0+(1:Int)))+1))) 0;CX e3 mrperson5 mrperson6 mrperson7 mrperson8 lrperson2 (λrperson3 mrperson9 mrperson10 mrperson11 mrperson12 lrperson3=>let l7:=([rperson3]:List AR);cond (decide ((List.length l6+List.length l7)*32<=AG)) (let l8:=(l6++l7);cond (decide ((IntKind.i64.wrap ((IntKind.i64.wrap ((IntKind.i64.wrap (0+(1:Int)))+1))+1))<(List.length l.2.2.2.2.2.1:Int))) (cond (decide (0<=(IntKind.i64.wrap ((IntKind.i64.wrap ((IntKind.i64.wrap (0+(1:Int)))+1))+1)))&&decide ((IntKind.i64.wrap ((IntKind.i64.wrap ((IntKind.i64.wrap (0+(1:Int)))+1))+1))<(List.length l.2.2.2.2.2.1:Int))) (let e4:=List.getD l.2.2.2.2.2.1 (Int.toNat (IntKind.i64.wrap ((IntKind.i64.wrap ((IntKind.i64.wrap (0+(1:Int)))+1))+1))) 0;CX e4 mrperson9 mrperson10 mrperson11 mrperson12 lrperson3 (λrperson4 mrperson13 mrperson14 mrperson15 mrperson16 lrperson4=>let l9:=([rperson4]:List AR);cond (decide ((List.length l8+List.length l9)*32<=AG)) (let l10:=(l8++l9);cond (decide ((IntKind.i64.wrap ((IntKind.i64.wrap ((IntKind.i64.wrap ((IntKind.i64.wrap (0+(1:Int)))+1))+1))+1))<(List.length l.2.2.2.2.2.1:Int))) (cond (decide (0<=(IntKind.i64.wrap ((IntKind.i64.wrap ((IntKind.i64.wrap ((IntKind.i64.wrap (0+(1:Int)))+1))+1))+1)))&&decide ((IntKind.i64.wrap ((IntKind.i64.wrap ((IntKind.i64.wrap ((IntKind.i64.wrap (0+(1:Int)))+1))+1))+1))<(List.length l.2.2.2.2.2.1:Int))) (let e5:=List.getD l.2.2.2.2.2.1 (Int.toNat (IntKind.i64.wrap ((IntKind.i64.wrap ((IntKind.i64.wrap ((IntKind.i64.wrap (0+(1:Int)))+1))+1))+1))) 0;CX e5 mrperson13 mrperson14 mrperson15 mrperson16 lrperson4 (λrperson5 mrperson17 mrperson18 mrperson19 mrperson20 lrperson5=>let l11:=([rperson5]:List AR);cond (decide ((List.length l10+List.length l11)*32<=AG)) (let l12:=(l10++l11);cond (decide ((IntKind.i64.wrap ((IntKind.i64.wrap ((IntKind.i64.wrap ((IntKind.i64.wrap ((IntKind.i64.wrap (0+(1:Int)))+1))+1))+1))+1))<(List.length l.2.2.2.2.2.1:Int))) (cond (decide (0<=(IntKind.i64.wrap ((IntKind.i64.wrap ((IntKind.i64.wrap ((IntKind.i64.wrap ((IntKind.i64.wrap (0+(1:Int)))+1))+1))+1))+1)))&&decide ((IntKind.i64.wrap ((IntKind.i64.wrap ((IntKind.i64.wrap ((IntKind.i64.wrap ((IntKind.i64.wrap (0+(1:Int)))+1))+1))+1))+1))<(List.length l.2.2.2.2.2.1:Int))) (let e6:=List.getD l.2.2.2.2.2.1 (Int.toNat (IntKind.i64.wrap ((IntKind.i64.wrap ((IntKind.i64.wrap ((IntKind.i64.wrap ((IntKind.i64.wrap (0+(1:Int)))+1))+1))+1))+1))) 0;CX e6 mrperson17 mrperson18 mrperson19 mrperson20 lrperson5 (λrperson6 mrperson21 mrperson22 mrperson23 mrperson24 lrperson6=>let l13:=([rperson6]:List AR);cond (decide ((List.length l12+List.length l13)*32<=AG)) (let l14:=(l12++l13);cond (decide ((IntKind.i64.wrap ((IntKind.i64.wrap ((IntKind.i64.wrap ((IntKind.i64.wrap ((IntKind.i64.wrap ((IntKind.i64.wrap (0+(1:Int)))+1))+1))+1))+1))+1))<(List.length l.2.2.2.2.2.1:Int))) (cond (decide (0<=(IntKind.i64.wrap ((IntKind.i64.wrap ((IntKind.i64.wrap ((IntKind.i64.wrap ((IntKind.i64.wrap ((IntKind.i64.wrap (0+(1:Int)))+1))+1))+1))+1))+1)))&&decide ((IntKind.i64.wrap ((IntKind.i64.wrap ((IntKind.i64.wrap ((IntKind.i64.wrap ((IntKind.i64.wrap ((IntKind.i64.wrap (0+(1:Int)))+1))+1))+1))+1))+1))<(List.length l.2.2.2.2.2.1:Int))) (let e7:=List.getD l.2.2.2.2.2.1 (Int.toNat (IntKind.i64.wrap ((IntKind.i64.wrap ((IntKind.i64.wrap ((IntKind.i64.wrap ((IntKind.i64.wrap ((IntKind.i64.wrap (0+(1:Int)))+1))+1))+1))+1))+1))) 0;CX e7 mrperson21 mrperson22 mrperson23 mrperson24 lrperson6 (λrperson7 mrperson25 mrperson26 mrperson27 mrperson28 lrperson7=>let l15:=([rperson7]:List AR);cond (decide ((List.length l14+List.length l15)*32<=AG)) (let l16:=(l14++l15);cond (decide ((IntKind.i64.wrap ((IntKind.i64.wrap ((IntKind.i64.wrap ((IntKind.i64.wrap ((IntKind.i64.wrap ((IntKind.i64.wrap ((IntKind.i64.wrap (0+(1:Int)))+1))+1))+1))+1))+1))+1))<(List.length l.2.2.2.2.2.1:Int))) (cond (decide (0<=(IntKind.i64.wrap ((IntKind.i64.wrap ((IntKind.i64.wrap ((IntKind.i64.wrap ((IntKind.i64.wrap ((IntKind.i64.wrap ((IntKind.i64.wrap (0+(1:Int)))+1))+1))+1))+1))+1))+1)))&&decide ((IntKind.i64.wrap ((IntKind.i64.wrap ((IntKind.i64.wrap ((IntKind.i64.wrap ((IntKind.i64.wrap ((IntKind.i64.wrap ((IntKind.i64.wrap (0+(1:Int)))+1))+1))+1))+1))+1))+1))<(List.length l.2.2.2.2.2.1:Int))) (let e8:=List.getD l.2.2.2.2.2.1 (Int.toNat (IntKind.i64.wrap ((IntKind.i64.wrap ((IntKind.i64.wrap ((IntKind.i64.wrap ((IntKind.i64.wrap ((IntKind.i64.wrap ((IntKind.i64.wrap (0+(1:Int)))+1))+1))+1))+1))+1))+1))) 0;CX e8 mrperson25 mrperson26 mrperson27 mrperson28 lrperson7 (λrperson8 mrperson29 mrperson30 mrperson31 mrperson32 lrperson8=>let l17:=([rperson8]:List AR);cond (decide ((List.length l16+List.length l17)*32<=AG)) (let l18:=(l16++l17);cond (decide ((IntKind.i64.wrap ((IntKind.i64.wrap ((IntKind.i64.wrap ((IntKind.i64.wrap ((IntKind.i64.wrap ((IntKind.i64.wrap ((IntKind.i64.wrap ((IntKind.i64.wrap (0+(1:Int)))+1))+1))+1))+1))+1))+1))+1))<(List.length l.2.2.2.2.2.1:Int))) (cond (decide (0<=(IntKind.i64.wrap ((IntKind.i64.wrap ((IntKind.i64.wrap ((IntKind.i64.wrap ((IntKind.i64.wrap ((IntKind.i64.wrap ((IntKind.i64.wrap ((IntKind.i64.wrap (0+(1:Int)))+1))+1))+1))+1))+1))+1))+1)))&&decide ((IntKind.i64.wrap ((IntKind.i64.wrap ((IntKind.i64.wrap ((IntKind.i64.wrap ((IntKind.i64.wrap ((IntKind.i64.wrap ((IntKind.i64.wrap ((IntKind.i64.wrap (0+(1:Int)))+1))+1))+1))+1))+1))+1))+1))<(List.length l.2.2.2.2.2.1:Int))) (let e9:=List.getD l.2.2.2.2.2.1 (Int.toNat (IntKind.i64.wrap ((IntKind.i64.wrap ((IntKind.i64.wrap ((IntKind.i64.wrap ((IntKind.i64.wrap ((IntKind.i64.wrap ((IntKind.i64.wrap ((IntKind.i64.wrap (0+(1:Int)))+1))+1))+1))+1))+1))+1))+1))) 0;CX e9 mrperson29 mrperson30 mrperson31 mrperson32 lrperson8 (λrperson9 mrperson33 mrperson34 mrperson35 mrperson36 lrperson9=>let l19:=([rperson9]:List AR);cond (decide ((List.length l18+List.length l19)*32<=AG)) (let l20:=(l18++l19);cond (decide ((IntKind.i64.wrap ((IntKind.i64.wrap ((IntKind.i64.wrap ((IntKind.i64.wrap ((IntKind.i64.wrap ((IntKind.i64.wrap ((IntKind.i64.wrap ((IntKind.i64.wrap ((IntKind.i64.wrap (0+(1:Int)))+1))+1))+1))+1))+1))+1))+1))+1))<(List.length l.2.2.2.2.2.1:Int))) (cond (decide (0<=(IntKind.i64.wrap ((IntKind.i64.wrap ((IntKind.i64.wrap ((IntKind.i64.wrap ((IntKind.i64.wrap ((IntKind.i64.wrap ((IntKind.i64.wrap ((IntKind.i64.wrap ((IntKind.i64.wrap (0+(1:Int)))+1))+1))+1))+1))+1))+1))+1))+1)))&&decide ((IntKind.i64.wrap ((IntKind.i64.wrap ((IntKind.i64.wrap ((IntKind.i64.wrap ((IntKind.i64.wrap ((IntKind.i64.wrap ((IntKind.i64.wrap ((IntKind.i64.wrap ((IntKind.i64.wrap (0+(1:Int)))+1))+1))+1))+1))+1))+1))+1))+1))<(List.length l.2.2.2.2.2.1:Int))) (let e10:=List.getD l.2.2.2.2.2.1 (Int.toNat (IntKind.i64.wrap ((IntKind.i64.wrap ((IntKind.i64.wrap ((IntKind.i64.wrap ((IntKind.i64.wrap ((IntKind.i64.wrap ((IntKind.i64.wrap ((IntKind.i64.wrap ((IntKind.i64.wrap (0+(1:Int)))+1))+1))+1))+1))+1))+1))+1))+1))) 0;CX e10 mrperson33 mrperson34 mrperson35 mrperson36 lrperson9 (λrperson10 mrperson37 mrperson38 mrperson39 mrperson40 lrperson10=>let l21:=([rperson10]:List AR);cond (decide ((List.length l20+List.length l21)*32<=AG)) (let l22:=(l20++l21);cond (decide ((IntKind.i64.wrap ((IntKind.i64.wrap ((IntKind.i64.wrap ((IntKind.i64.wrap ((IntKind.i64.wrap ((IntKind.i64.wrap ((IntKind.i64.wrap ((IntKind.i64.wrap ((IntKind.i64.wrap ((IntKind.i64.wrap (0+(1:Int)))+1))+1))+1))+1))+1))+1))+1))+1))+1))<(List.length l.2.2.2.2.2.1:Int))) (cond (decide (0<=(IntKind.i64.wrap ((IntKind.i64.wrap ((IntKind.i64.wrap ((IntKind.i64.wrap ((IntKind.i64.wrap ((IntKind.i64.wrap ((IntKind.i64.wrap ((IntKind.i64.wrap ((IntKind.i64.wrap ((IntKind.i64.wrap (0+(1:Int)))+1))+1))+1))+1))+1))+1))+1))+1))+1)))&&decide ((IntKind.i64.wrap ((IntKind.i64.wrap ((IntKind.i64.wrap ((IntKind.i64.wrap ((IntKind.i64.wrap ((IntKind.i64.wrap ((IntKind.i64.wrap ((IntKind.i64.wrap ((IntKind.i64.wrap ((IntKind.i64.wrap (0+(1:Int)))+1))+1))+1))+1))+1))+1))+1))+1))+1))<(List.length l.2.2.2.2.2.1:Int))) (let e11:=List.getD l.2.2.2.2.2.1 (Int.toNat (IntKind.i64.wrap ((IntKind.i64.wrap ((IntKind.i64.wrap ((IntKind.i64.wrap ((IntKind.i64.wrap ((IntKind.i64.wrap ((IntKind.i64.wrap ((IntKind.i64.wrap ((IntKind.i64.wrap ((IntKind.i64.wrap (0+(1:Int)))+1))+1))+1))+1))+1))+1))+1))+1))+1))) 0;CX e11 mrperson37 mrperson38 mrperson39 mrperson40 lrperson10 (λrperson11 mrperson41 mrperson42 mrperson43 mrperson44 lrperson11=>let l23:=([rperson11]:List AR);cond (decide ((List.length l22+List.length l23)*32<=AG)) (let l24:=(l22++l23);cond (decide ((IntKind.i64.wrap ((IntKind.i64.wrap ((IntKind.i64.wrap ((IntKind.i64.wrap ((IntKind.i64.wrap ((IntKind.i64.wrap ((IntKind.i64.wrap ((IntKind.i64.wrap ((IntKind.i64.wrap ((IntKind.i64.wrap ((IntKind.i64.wrap (0+(1:Int)))+1))+1))+1))+1))+1))+1))+1))+1))+1))+1))<(List.length l.2.2.2.2.2.1:Int))) (cond (decide (0<=(IntKind.i64.wrap ((IntKind.i64.wrap ((IntKind.i64.wrap ((IntKind.i64.wrap ((IntKind.i64.wrap ((IntKind.i64.wrap ((IntKind.i64.wrap ((IntKind.i64.wrap ((IntKind.i64.wrap ((IntKind.i64.wrap ((IntKind.i64.wrap (0+(1:Int)))+1))+1))+1))+1))+1))+1))+1))+1))+1))+1)))&&decide ((IntKind.i64.wrap ((IntKind.i64.wrap ((IntKind.i64.wrap ((IntKind.i64.wrap ((IntKind.i64.wrap ((IntKind.i64.wrap ((IntKind.i64.wrap ((IntKind.i64.wrap ((IntKind.i64.wrap ((IntKind.i64.wrap ((IntKind.i64.wrap (0+(1:Int)))+1))+1))+1))+1))+1))+1))+1))+1))+1))+1))<(List.length l.2.2.2.2.2.1:Int))) (let e12:=List.getD l.2.2.2.2.2.1 (Int.toNat (IntKind.i64.wrap ((IntKind.i64.wrap ((IntKind.i64.wrap ((IntKind.i64.wrap ((IntKind.i64.wrap ((IntKind.i64.wrap ((IntKind.i64.wrap ((IntKind.i64.wrap ((IntKind.i64.wrap ((IntKind.i64.wrap ((IntKind.i64.wrap (0+(1:Int)))+1))+1))+1))+1))+1))+1))+1))+1))+1))+1))) 0;CX e12 mrperson41 mrperson42 mrperson43 mrperson44 lrperson11 (λrperson12 mrperson45 mrperson46 mrperson47 mrperson48 lrperson12=>let l25:=([rperson12]:List AR);cond (decide ((List.length l24+List.length l25)*32<=AG)) (let l26:=(l24++l25);cond (decide ((IntKind.i64.wrap ((IntKind.i64.wrap ((IntKind.i64.wrap ((IntKind.i64.wrap ((IntKind.i64.wrap ((IntKind.i64.wrap ((IntKind.i64.wrap ((IntKind.i64.wrap ((IntKind.i64.wrap ((IntKind.i64.wrap ((IntKind.i64.wrap ((IntKind.i64.wrap (0+(1:Int)))+1))+1))+1))+1))+1))+1))+1))+1))+1))+1))+1))<(List.length l.2.2.2.2.2.1:Int))) (cond (decide (0<=(IntKind.i64.wrap ((IntKind.i64.wrap ((IntKind.i64.wrap ((IntKind.i64.wrap ((IntKind.i64.wrap ((IntKind.i64.wrap ((IntKind.i64.wrap ((IntKind.i64.wrap ((IntKind.i64.wrap ((IntKind.i64.wrap ((IntKind.i64.wrap ((IntKind.i64.wrap (0+(1:Int)))+1))+1))+1))+1))+1))+1))+1))+1))+1))+1))+1)))&&decide ((IntKind.i64.wrap ((IntKind.i64.wrap ((IntKind.i64.wrap ((IntKind.i64.wrap ((IntKind.i64.wrap ((IntKind.i64.wrap ((IntKind.i64.wrap ((IntKind.i64.wrap ((IntKind.i64.wrap ((IntKind.i64.wrap ((IntKind.i64.wrap ((IntKind.i64.wrap (0+(1:Int)))+1))+1))+1))+1))+1))+1))+1))+1))+1))+1))+1))<(List.length l.2.2.2.2.2.1:Int))) (let e13:=List.getD l.2.2.2.2.2.1 (Int.toNat (IntKind.i64.wrap ((IntKind.i64.wrap ((IntKind.i64.wrap ((IntKind.i64.wrap ((IntKind.i64.wrap ((IntKind.i64.wrap ((IntKind.i64.wrap ((IntKind.i64.wrap ((IntKind.i64.wrap ((IntKind.i64.wrap ((IntKind.i64.wrap ((IntKind.i64.wrap (0+(1:Int)))+1))+1))+1))+1))+1))+1))+1))+1))+1))+1))+1))) 0;CX e13 mrperson45 mrperson46 mrperson47 mrperson48 lrperson12 (λrperson13 mrperson49 mrperson50 mrperson51 mrperson52 lrperson13=>let l27:=([rperson13]:List AR);cond (decide ((List.length l26+List.length l27)*32<=AG)) (let l28:=(l26++l27);none) none)) none) (BR ([109,101,109,98,101,114]:List UInt8) l26 mrperson45 mrperson46 mrperson47 mrperson48 lrperson12 (λmradd5 mradd6 mradd7 mradd8 lradd2=>Du (λb0_ b0_2 b0_3 b0_4 b1_2=>k b0_ b0_2 b0_3 b0_4 b1_2) mradd5 mradd6 mradd7 mradd8 lradd2 l))) none)) none) (BR ([109,101,109,98,101,114]:List UInt8) l24 mrperson41 mrperson42 mrperson43 mrperson44 lrperson11 (λmradd5 mradd6 mradd7 mradd8 lradd2=>Du (λb0_ b0_2 b0_3 b0_4 b1_2=>k b0_ b0_2 b0_3 b0_4 b1_2) mradd5 mradd6 mradd7 mradd8 lradd2 l))) none)) none) (BR ([109,101,109,98,101,114]:List UInt8) l22 mrperson37 mrperson38 mrperson39 mrperson40 lrperson10 (λmradd5 mradd6 mradd7 mradd8 lradd2=>Du (λb0_ b0_2 b0_3 b0_4 b1_2=>k b0_ b0_2 b0_3 b0_4 b1_2) mradd5 mradd6 mradd7 mradd8 lradd2 l))) none)) none) (BR ([109,101,109,98,101,114]:List UInt8) l20 mrperson33 mrperson34 mrperson35 mrperson36 lrperson9 (λmradd5 mradd6 mradd7 mradd8 lradd2=>Du (λb0_ b0_2 b0_3 b0_4 b1_2=>k b0_ b0_2 b0_3 b0_4 b1_2) mradd5 mradd6 mradd7 mradd8 lradd2 l))) none)) none) (BR ([109,101,109,98,101,114]:List UInt8) l18 mrperson29 mrperson30 mrperson31 mrperson32 lrperson8 (λmradd5 mradd6 mradd7 mradd8 lradd2=>Du (λb0_ b0_2 b0_3 b0_4 b1_2=>k b0_ b0_2 b0_3 b0_4 b1_2) mradd5 mradd6 mradd7 mradd8 lradd2 l))) none)) none) (BR ([109,101,109,98,101,114]:List UInt8) l16 mrperson25 mrperson26 mrperson27 mrperson28 lrperson7 (λmradd5 mradd6 mradd7 mradd8 lradd2=>Du (λb0_ b0_2 b0_3 b0_4 b1_2=>k b0_ b0_2 b0_3 b0_4 b1_2) mradd5 mradd6 mradd7 mradd8 lradd2 l))) none)) none) (BR ([109,101,109,98,101,114]:List UInt8) l14 mrperson21 mrperson22 mrperson23 mrperson24 lrperson6 (λmradd5 mradd6 mradd7 mradd8 lradd2=>Du (λb0_ b0_2 b0_3 b0_4 b1_2=>k b0_ b0_2 b0_3 b0_4 b1_2) mradd5 mradd6 mradd7 mradd8 lradd2 l))) none)) none) (BR ([109,101,109,98,101,114]:List UInt8) l12 mrperson17 mrperson18 mrperson19 mrperson20 lrperson5 (λmradd5 mradd6 mradd7 mradd8 lradd2=>Du (λb0_ b0_2 b0_3 b0_4 b1_2=>k b0_ b0_2 b0_3 b0_4 b1_2) mradd5 mradd6 mradd7 mradd8 lradd2 l))) none)) none) (BR ([109,101,109,98,101,114]:List UInt8) l10 mrperson13 mrperson14 mrperson15 mrperson16 lrperson4 (λmradd5 mradd6 mradd7 mradd8 lradd2=>Du (λb0_ b0_2 b0_3 b0_4 b1_2=>k b0_ b0_2 b0_3 b0_4 b1_2) mradd5 mradd6 mradd7 mradd8 lradd2 l))) none)) none) (BR ([109,101,109,98,101,114]:List UInt8) l8 mrperson9 mrperson10 mrperson11 mrperson12 lrperson3 (λmradd5 mradd6 mradd7 mradd8 lradd2=>Du (λb0_ b0_2 b0_3 b0_4 b1_2=>k b0_ b0_2 b0_3 b0_4 b1_2) mradd5 mradd6 mradd7 mradd8 lradd2 l))) none)) none) (BR ([109,101,109,98,101,114]:List UInt8) l6 mrperson5 mrperson6 mrperson7 mrperson8 lrperson2 (λmradd5 mradd6 mradd7 mradd8 lradd2=>Du (λb0_ b0_2 b0_3 b0_4 b1_2=>k b0_ b0_2 b0_3 b0_4 b1_2) mradd5 mradd6 mradd7 mradd8 lradd2 l))) none)) none) (BR ([109,101,109,98,101,114]:List UInt8) l4 mrperson mrperson2 mrperson3 mrperson4 lrperson (λmradd5 mradd6 mradd7 mradd8 lradd2=>Du (λb0_ b0_2 b0_3 b0_4 b1_2=>k b0_ b0_2 b0_3 b0_4 b1_2) mradd5 mradd6 mradd7 mradd8 lradd2 l))) none)) none) (BR ([109,101,109,98,101,114]:List UInt8) ([]:List AR) mradd mradd2 mradd3 mradd4 lradd (λmradd5 mradd6 mradd7 mradd8 lradd2=>Du (λb0_ b0_2 b0_3 b0_4 b1_2=>k b0_ b0_2 b0_3 b0_4 b1_2) mradd5 mradd6 mradd7 mradd8 lradd2 l))))) none)))))
def PS:kP:=hid kR
theorem AdW:SpecOkB Tryz.prog 25 (sg [As,Ih] Cb [] Cb PS):=C5 mixed (X:=⟨look tab,gam PR,false,false,false,false,C7,none,0,[]⟩) AJ PR rfl [AdV] [] Tryz.func25 (by kernel_rfl) λ_ _=>by kernel_rfl
noncomputable def AdX:En:=.handf AdW rfl (by kernel_rfl)
abbrev AdY:={β:Type}->An->(EJ->Bool->Option β)->Option β
def Mi:AdY:=hid λword k=>let l:=([0,4]:List Int);let l2:=([1,1,0,0,0,2,4]:List Int);let l3:=([0,0]:List Int);let l4:=([0,2,0,2]:List Int);let l5:=([0,0]:List Int);let l6:=([3]:List Int);let l7:=([0]:List Int);let l8:=([0,0,3,2,1,0]:List Int);let l9:=([0]:List Int);let l10:=([0,2,0,2]:List Int);let l11:=([0]:List Int);let l12:=([0]:List Int);let l13:=([0,5,5]:List Int);let l14:=([0,5,5]:List Int);let l15:=([0,0,5,5]:List Int);let l16:=([(([122,111,110,101]:List UInt8),(l,false)),(([114,117,108,101]:List UInt8),(l2,false)),(([112,101,114,115,111,110]:List UInt8),(l3,false)),(([113,117,105,101,116]:List UInt8),(l4,false)),(([99,97,108,101,110,100,97,114]:List UInt8),(l5,false)),(([100,97,121,115]:List UInt8),(l6,true)),(([115,99,104,101,100,117,108,101]:List UInt8),(l7,false)),(([108,97,121,101,114]:List UInt8),(l8,false)),(([109,101,109,98,101,114]:List UInt8),(l9,true)),(([111,110]:List UInt8),(l10,false)),(([110,111,116]:List UInt8),(l11,false)),(([111,110,108,121]:List UInt8),(l12,false)),(([108,101,97,118,101]:List UInt8),(l13,false)),(([111,118,101,114,114,105,100,101]:List UInt8),(l14,false)),(([115,119,97,112]:List UInt8),(l15,false))]:List EJ);jQ l16 word (λrform mrform=>cond (decide (rform<0)) (k zU false) (cond (decide (0<=rform)&&decide (rform<(List.length l16:Int))) (k (List.getD l16 (Int.toNat rform) (([]:List UInt8),(([]:List Int),false))) true) none))
noncomputable def AdZ:En:=⟨28,.spec (sg [AP] [] [(true,[.data Gu]),AC] [] Mi),pf [Adf] [] [.cell 2 89,.tmp 3] Tryz.func28⟩
abbrev Ae0:={β:Type}->AK->AK->(Bool->Option β)->Option β
def PT:Ae0:=hid λa b k=>cond (decide (a.1=b.1)) (PA a.2.1 b.2.1 (λrLayer=>cond rLayer (OW a.2.2 b.2.2 (λrEdit=>k rEdit)) (k false))) (k false)
noncomputable def Ae1:En:=⟨39,.spec (sg [Lj,Lj] [] [AC] [] PT),pf [Adi,Ab1] [] [.tmp 4] Tryz.func39⟩
abbrev Ae2:={β:Type}->An->(List DW)->(Int->(List DW)->Option β)->Option β
def Hq:Ae2:=hid λs seen k=>FQ s (λrName=>cond (!rName) (k 2 seen) (let g:=(mGet .str seen s false);cond g (k 4 seen) (let m_:=(mPut .str seen s true);k 0 m_)))
theorem Ae3:SpecOkB Tryz.prog 47 (sg [AP,(false,[.maph 0])] [.map 112 .str .bool false] [Aa] [.map 112 .str .bool false] Hq):=pfB [Ve] [] [.tmp 4] Tryz.func47 (by kernel_rfl) λ_ _=>by kernel_rfl
noncomputable def Mj:En:=.hand Ae3 rfl (by kernel_rfl)
abbrev Ae4:={β:Type}->Au->Ay->(Int->Option β)->Option β
def PU:Ae4:=hid λc p_ k=>FO p_.2.1 (List.length c.1:Int) (λrindex=>cond (!rindex) (k 3) (L3 p_.2.2.1 (λrCheck=>let t:=(!decide (rCheck=0));cond t (k 8) (LN p_.2.2.2.1 (λrhours=>cond (!rhours) (k 1) (LN p_.2.2.2.2.1 (λrhours2=>cond (!rhours2) (k 1) (k 0))))))))
noncomputable def Ae5:En:=⟨48,.spec (sg [Eb,Ll] [] [Aa] [] PU),pf [AcQ,L2,eU] [] [.tmp 4] Tryz.func48⟩
abbrev Ae6:={β:Type}->Bn->Am->Ak->Al->Ap->(Int->Am->Ak->Al->Ap->Option β)->Option β
def Mk:Ae6:=hid λl b1_ b2_ b3_ b4_ k=>cond (decide (0<=(3:Int))&&decide ((3:Int)<(List.length l:Int))) (let e:=List.getD l (Int.toNat 3) (0,(([]:List UInt8),0));Py e.2.1 (λrMonth rMonth2=>cond (decide (0<=(4:Int))&&decide ((4:Int)<(List.length l:Int))) (let e2:=List.getD l (Int.toNat 4) (0,(([]:List UInt8),0));Pz e2.2.1 (λrOrdinal rOrdinal2=>cond (decide (0<=(5:Int))&&decide ((5:Int)<(List.length l:Int))) (let e3:=List.getD l (Int.toNat 5) (0,(([]:List UInt8),0));J4 e3.2.1 (λrWeekday rWeekday2=>cond (!rMonth2) (k 2 b1_ b2_ b3_ b4_) (cond (!rOrdinal2) (k 2 b1_ b2_ b3_ b4_) (cond (!rWeekday2) (k 2 b1_ b2_ b3_ b4_) (cond (decide ((List.length b1_:Int)=(0:Int))) (k 9 b1_ b2_ b3_ b4_) (let i_:=(IntKind.i64.wrap ((List.length b1_:Int)-(1:Int)));cond (decide (0<=i_)&&decide (i_<(List.length b1_:Int))) (let e4:=List.getD b1_ (Int.toNat i_) (([]:List UInt8),(0,([]:List Bd)));cond (decide (0<=(1:Int))&&decide ((1:Int)<(List.length l:Int))) (let e5:=List.getD l (Int.toNat 1) (0,(([]:List UInt8),0));cond (decide (0<=(2:Int))&&decide ((2:Int)<(List.length l:Int))) (let e6:=List.getD l (Int.toNat 2) (0,(([]:List UInt8),0));cond (decide (0<=(6:Int))&&decide ((6:Int)<(List.length l:Int))) (let e7:=List.getD l (Int.toNat 6) (0,(([]:List UInt8),0));cond (decide (0<=(7:Int))&&decide ((7:Int)<(List.length l:Int))) (let e8:=List.getD l (Int.toNat 7) (0,(([]:List UInt8),0));let l2:=([(e5.2.2,(e6.2.2,(rMonth,(rOrdinal,(rWeekday,(e7.2.2,e8.2.2))))))]:List Bd);let l3:=((List.getD b1_ (Int.toNat i_) (([]:List UInt8),(0,([]:List Bd)))).2).2;cond (true&&decide ((List.length l3+List.length l2)*56<=AG)) (let l4:=(l3++l2);let e9:=List.getD b1_ (Int.toNat i_) (([]:List UInt8),(0,([]:List Bd)));let l5:=List.set b1_ (Int.toNat i_) (e9.1,(e9.2.1,l4));cond (decide ((Int.toNat i_)=(Int.toNat i_))&&(true&&true)) (k 0 l5 b2_ b3_ b4_) none) none) none) none) none) none) none)))))) none)) none)) none
theorem Ae7:SpecOkB Tryz.prog 108 (sg [As,BQ] Ca [Aa] Ca Mk):=C5 mixed (X:=⟨look tab,gam [fE,fF,iQ,iR,Vh],false,false,false,false,BF,none,0,[]⟩) AJ [fE,fF,iQ,iR,Vh] rfl [] [.tmp 4] Tryz.func108 (by kernel_rfl) λ_ _=>by kernel_rfl
noncomputable def Ae8:En:=.hand Ae7 rfl (by kernel_rfl)
abbrev Ae9:={β:Type}->Bn->Am->Ak->Al->Ap->(Int->Am->Ak->Al->Ap->Option β)->Option β
def Ml:Ae9:=hid λl b1_ b2_ b3_ b4_ k=>LQ l (λrwindow rwindow2=>cond (decide ((List.length b2_:Int)=(0:Int))) (cond (decide (rwindow2=(0:Int))) (k 9 b1_ b2_ b3_ b4_) (cond (!decide (rwindow2=(0:Int))) (k rwindow2 b1_ b2_ b3_ b4_) (none))) (let i_:=(IntKind.i64.wrap ((List.length b2_:Int)-(1:Int)));cond (decide (0<=i_)&&decide (i_<(List.length b2_:Int))) (cond (decide (rwindow2=(0:Int))) (let e:=List.getD b2_ (Int.toNat i_) (([]:List UInt8),(0,(([]:List AS),(0,(0,false)))));let l2:=([rwindow]:List AS);let l3:=(((List.getD b2_ (Int.toNat i_) (([]:List UInt8),(0,(([]:List AS),(0,(0,false)))))).2).2).1;cond (true&&decide ((List.length l3+List.length l2)*16<=AG)) (let l4:=(l3++l2);let e2:=List.getD b2_ (Int.toNat i_) (([]:List UInt8),(0,(([]:List AS),(0,(0,false)))));let l5:=List.set b2_ (Int.toNat i_) (e2.1,(e2.2.1,(l4,e2.2.2.2)));cond (decide ((Int.toNat i_)=(Int.toNat i_))&&(true&&true)) (k 0 b1_ l5 b3_ b4_) none) none) (cond (!decide (rwindow2=(0:Int))) (k rwindow2 b1_ b2_ b3_ b4_) (let e:=List.getD b2_ (Int.toNat i_) (([]:List UInt8),(0,(([]:List AS),(0,(0,false)))));let l2:=([rwindow]:List AS);let l3:=(((List.getD b2_ (Int.toNat i_) (([]:List UInt8),(0,(([]:List AS),(0,(0,false)))))).2).2).1;cond (true&&decide ((List.length l3+List.length l2)*16<=AG)) (let l4:=(l3++l2);let e2:=List.getD b2_ (Int.toNat i_) (([]:List UInt8),(0,(([]:List AS),(0,(0,false)))));let l5:=List.set b2_ (Int.toNat i_) (e2.1,(e2.2.1,(l4,e2.2.2.2)));cond (decide ((Int.toNat i_)=(Int.toNat i_))&&(true&&true)) (k 0 b1_ l5 b3_ b4_) none) none))) none))
theorem Aea:SpecOkB Tryz.prog 110 (sg [As,BQ] Ca [Aa] Ca Ml):=C5 mixed (X:=⟨look tab,gam [fQ,fR,P0],false,false,false,false,BF,none,0,[]⟩) AJ [fQ,fR,P0] rfl [] [.tmp 4] Tryz.func110 (by kernel_rfl) λ_ _=>by kernel_rfl
noncomputable def Aeb:En:=.hand Aea rfl (by kernel_rfl)
abbrev Aec:={β:Type}->Bn->Am->Ak->Al->Ap->(Int->Am->Ak->Al->Ap->Option β)->Option β
def Mm:Aec:=hid λl b1_ b2_ b3_ b4_ k=>LQ l (λrwindow rwindow2=>cond (decide ((List.length b4_:Int)=(0:Int))) (cond (decide (rwindow2=(0:Int))) (k 9 b1_ b2_ b3_ b4_) (cond (!decide (rwindow2=(0:Int))) (k rwindow2 b1_ b2_ b3_ b4_) (none))) (let i_:=(IntKind.i64.wrap ((List.length b4_:Int)-(1:Int)));cond (decide (0<=i_)&&decide (i_<(List.length b4_:Int))) (let e:=List.getD b4_ (Int.toNat i_) (([]:List UInt8),(([]:List AD),([]:List AO)));let l2:=((List.getD b4_ (Int.toNat i_) (([]:List UInt8),(([]:List AD),([]:List AO)))).2).1;cond (decide ((List.length l2:Int)=(0:Int))) (cond (decide (rwindow2=(0:Int))) (k 9 b1_ b2_ b3_ b4_) (cond (!decide (rwindow2=(0:Int))) (k rwindow2 b1_ b2_ b3_ b4_) (none))) (let l3:=((List.getD b4_ (Int.toNat i_) (([]:List UInt8),(([]:List AD),([]:List AO)))).2).1;let l4:=((List.getD b4_ (Int.toNat i_) (([]:List UInt8),(([]:List AD),([]:List AO)))).2).1;let i_2:=(IntKind.i64.wrap ((List.length l3:Int)-(1:Int)));cond (decide (0<=i_2)&&decide (i_2<(List.length l4:Int))) (let j:=Int.toNat i_2;cond (decide (rwindow2=(0:Int))) (let l5:=((List.getD b4_ (Int.toNat i_) (([]:List UInt8),(([]:List AD),([]:List AO)))).2).1;let e2:=List.getD l5 j CW;let l6:=([rwindow]:List AS);let l7:=(((((((List.getD (((List.getD b4_ (Int.toNat i_) (([]:List UInt8),(([]:List AD),([]:List AO)))).2).1) j CW).2).2).2).2).2).2).1;cond (true&&decide ((List.length l7+List.length l6)*16<=AG)) (let l8:=(l7++l6);let e3:=List.getD b4_ (Int.toNat i_) (([]:List UInt8),(([]:List AD),([]:List AO)));let e4:=List.getD e3.2.1 j CW;let l9:=List.set e3.2.1 j (e4.1,(e4.2.1,(e4.2.2.1,(e4.2.2.2.1,(e4.2.2.2.2.1,(e4.2.2.2.2.2.1,(l8,e4.2.2.2.2.2.2.2)))))));let l10:=List.set b4_ (Int.toNat i_) (e3.1,(l9,e3.2.2));cond (decide ((Int.toNat i_)=(Int.toNat i_))&&(true&&(decide (j=j)&&(true&&true)))) (k 0 b1_ b2_ b3_ l10) none) none) (cond (!decide (rwindow2=(0:Int))) (k rwindow2 b1_ b2_ b3_ b4_) (let l5:=((List.getD b4_ (Int.toNat i_) (([]:List UInt8),(([]:List AD),([]:List AO)))).2).1;let e2:=List.getD l5 j CW;let l6:=([rwindow]:List AS);let l7:=(((((((List.getD (((List.getD b4_ (Int.toNat i_) (([]:List UInt8),(([]:List AD),([]:List AO)))).2).1) j CW).2).2).2).2).2).2).1;cond (true&&decide ((List.length l7+List.length l6)*16<=AG)) (let l8:=(l7++l6);let e3:=List.getD b4_ (Int.toNat i_) (([]:List UInt8),(([]:List AD),([]:List AO)));let e4:=List.getD e3.2.1 j CW;let l9:=List.set e3.2.1 j (e4.1,(e4.2.1,(e4.2.2.1,(e4.2.2.2.1,(e4.2.2.2.2.1,(e4.2.2.2.2.2.1,(l8,e4.2.2.2.2.2.2.2)))))));let l10:=List.set b4_ (Int.toNat i_) (e3.1,(l9,e3.2.2));cond (decide ((Int.toNat i_)=(Int.toNat i_))&&(true&&(decide (j=j)&&(true&&true)))) (k 0 b1_ b2_ b3_ l10) none) none))) none)) none))
theorem Aed:SpecOkB Tryz.prog 116 (sg [As,BQ] Ca [Aa] Ca Mm):=C5 mixed (X:=⟨look tab,gam [L9,LA,P0],false,false,false,false,BF,none,0,[]⟩) AJ [L9,LA,P0] rfl [] [.tmp 4] Tryz.func116 (by kernel_rfl) λ_ _=>by kernel_rfl
noncomputable def Aee:En:=.hand Aed rfl (by kernel_rfl)
abbrev Aef:={β:Type}->Int->((Int×AS)->Int->Option β)->Option β
noncomputable def kS:List En:=[P2,Vi,Ad2]
abbrev VQ(β:Type):=Int->(Int×AS)->(Int×AS)->Option β
abbrev VR(β:Type):=Int->(Int×AS)->(Int×AS)->Option β
noncomputable def kT:Pc:=⟨45,0,AA 124 (Ar Tryz.f125),⟨0,[2,4,5],[As,Bf,Aa],[Li,Li]⟩,[(.exit 0,⟨0,[2,4,5],[As,Bf,Aa],[Li,Li]⟩)]⟩
def PV{β:Type}(rec:VR β)(k1:VQ β):VR β:=λrest t2 d=>BO d.1 d.2.1 (λrDays=>cond (decide (rDays<=rest)) (BO d.1 d.2.1 (λrDays2=>let rest2:=(IntKind.i64.wrap (rest-rDays2));rec rest2 t2 (d.1,((IntKind.i64.wrap (d.2.1+(1:Int))),d.2.2)))) (k1 rest t2 d))
def Mn(m:Nat){β:Type}(k1:VQ β):VR β:=Gz (λr=>PV r k1) none m
theorem kU{β:Type}(i:Nat)(k1):Mn (β:=β) (i+1) k1=PV (Mn i k1) k1:=rfl
def VS{β:Type}:=hid (Mn (β:=β) fuel)
noncomputable def Aeg:Pb:=⟨124,kT,λ_=>VS,pl (p:=kT) kS [] (g:=λi _=>Mn i)⟩
def Iu:Aef:=hid λday k=>Hp 1970 (λrcount=>cond (decide (day<rcount)) (k (0,(0,0)) 1) (Hp 2241 (λrcount2=>cond (decide (rcount2<=day)) (k (0,(0,0)) 1) (P1 day (λryear=>Hp ryear (λrcount3=>let rest:=(IntKind.i64.wrap (day-rcount3));VS (λrest2 t2 d=>k (d.1,(d.2.1,(IntKind.i64.wrap (rest2+(1:Int))))) 0) rest (0,(0,0)) (ryear,(1,0))))))))
noncomputable def kV:En:=⟨125,.spec (sg [Aa] [] [OG,Aa] [] Iu),pf kS [Aeg] [.cell 2 190,.tmp 3] Tryz.func125⟩
abbrev Aeh:={β:Type}->Int->Bool->(An->Option β)->Option β
def Iv:Aeh:=hid λn seconds k=>G7 (IntKind.i64.wrap (Int.tdiv n 3600)) 2 (λrdigits=>cond (decide (List.length rdigits+List.length ([58]:List UInt8)<=9223372036854775807)) (G7 (Int.tmod (IntKind.i64.wrap (Int.tdiv n 60)) 60) 2 (λrdigits2=>cond (decide (List.length (rdigits++([58]:List UInt8))+List.length rdigits2<=9223372036854775807)) (let s:=((rdigits++([58]:List UInt8))++rdigits2);cond seconds (G7 (Int.tmod n 60) 2 (λrdigits3=>cond (decide (List.length ([58]:List UInt8)+List.length rdigits3<=9223372036854775807)) (cond (decide (List.length s+List.length (([58]:List UInt8)++rdigits3)<=9223372036854775807)) (let s2:=(s++(([58]:List UInt8)++rdigits3));k s2) none) none)) (k s)) none)) none)
noncomputable def Aei:En:=⟨162,.spec (sg [Aa,AC] [] [AP] [] Iv),pf [iY] [] [.tmp 4] Tryz.func162⟩
abbrev Aej:={β:Type}->Int->(An->Bool->Option β)->Option β
def Mo:Aej:=hid λday k=>Iu day (λrDateOf rDateOf2=>G7 rDateOf.1 4 (λrdigits=>cond (decide (List.length rdigits+List.length ([45]:List UInt8)<=9223372036854775807)) (G7 rDateOf.2.1 2 (λrdigits2=>cond (decide (List.length (rdigits++([45]:List UInt8))+List.length rdigits2<=9223372036854775807)) (cond (decide (List.length ((rdigits++([45]:List UInt8))++rdigits2)+List.length ([45]:List UInt8)<=9223372036854775807)) (G7 rDateOf.2.2 2 (λrdigits3=>cond (decide (List.length (((rdigits++([45]:List UInt8))++rdigits2)++([45]:List UInt8))+List.length rdigits3<=9223372036854775807)) (let t:=((((rdigits++([45]:List UInt8))++rdigits2)++([45]:List UInt8))++rdigits3);let t2:=(decide (rDateOf2=(0:Int)));k t t2) none)) none) none)) none))
noncomputable def Aek:En:=⟨163,.spec (sg [Aa] [] [AP,AC] [] Mo),pf [kV,iY] [] [.tmp 2,.tmp 3] Tryz.func163⟩
abbrev Ael:={β:Type}->An->(Int->Bool->Option β)->Option β
noncomputable def PW:List En:=[iZ,dV]
abbrev VT(β:Type):=Int->Bool->Option β
abbrev VU(β:Type):=Int->Option β
abbrev VV(β:Type):=Int->Int->Int->(List An)->Option β
noncomputable def kW:Pc:=⟨53,0,AA 250 (Ar Tryz.f174),⟨0,[5,23,24,25],[Aa,BN,Aa,Aa],[.row 9 .str]⟩,[(.ret,⟨0,[2,3],[Aa,AC],[]⟩),(.exit 0,⟨0,[5],[Aa],[]⟩)]⟩
def VW{β:Type}(rec:VV β)(k1:VT β)(k2:VU β):VV β:=λn t24 t25 t23=>cond (decide (t25<t24)) (cond (decide (0<=t25)&&decide (t25<(List.length t23:Int))) (let x:=(List.getD t23 (Int.toNat t25) ([]:List UInt8));J6 x (λrtwo rtwo2=>cond (!rtwo2) (k1 0 false) (cond (decide ((0:Int)<t25)) (cond (decide ((59:Int)<rtwo)) (k1 0 false) (let n2:=(IntKind.i64.wrap ((IntKind.i64.wrap (60*n))+rtwo));rec n2 t24 (IntKind.i64.wrap (t25+(1:Int))) t23)) (let n2:=(IntKind.i64.wrap ((IntKind.i64.wrap (60*n))+rtwo));rec n2 t24 (IntKind.i64.wrap (t25+(1:Int))) t23)))) none) (k2 n)
def PX(m:Nat){β:Type}(k1:VT β)(k2:VU β):VV β:=Ce (λr=>VW r k1 k2) none m
theorem Aem{β:Type}(i:Nat)(k1 k2):PX (β:=β) (i+1) k1 k2=VW (PX i k1 k2) k1 k2:=rfl
def PY{β:Type}:=hid (PX (β:=β) fuel)
noncomputable def Aen:Pb:=⟨250,kW,λ_=>PY,DF mixed (X:=⟨look tab,gam PW,false,true,false,false,[],none,0,[]⟩) (p:=kW) AJ PW rfl [] (g:=λi _=>PX i) (by kernel_rfl) rfl (by kernel_rfl) (λ_ _=>rfl) λ_ _ _ _=>by kernel_rfl⟩
def FR:Ael:=hid λs k=>J1 s ([58]:List UInt8) (λlrSplit=>cond (decide ((List.length lrSplit:Int)<(2:Int))) (k 0 false) (cond (decide ((3:Int)<(List.length lrSplit:Int))) (k 0 false) (let l:=([([48,48]:List UInt8)]:List An);cond (decide ((List.length lrSplit+List.length l)*16<=AG)) (let l2:=(lrSplit++l);cond (decide (0<=(3:Int))&&decide ((3:Int)<=(List.length l2:Int))) (let l3:=(List.take (Int.toNat 3) l2);PY (λt2 t3=>k t2 t3) (λn=>let t:=(decide (n<=86400));k n t) 0 (List.length l3:Int) 0 l3) none) none)))
noncomputable def VX:En:=⟨174,.spec (sg [AP] [] [Aa,AC] [] FR),Jr mixed (X:=⟨look tab,gam PW,false,true,false,false,[],none,0,[]⟩) AJ PW rfl [Aen] [.tmp 2,.tmp 3] Tryz.func174 (by kernel_rfl) λ_ _=>by kernel_rfl⟩
abbrev Aeo:={β:Type}->Int->Int->Int->Int->(Int->Int->Option β)->Option β
def PZ:Aeo:=hid λyear month week weekday k=>Is (year,(month,1)) (λrValid=>cond (!rValid) (k 0 1) (cond (decide (week<1)) (k 0 1) (cond (decide ((5:Int)<week)) (k 0 1) (cond (decide (weekday<0)) (k 0 1) (cond (decide ((6:Int)<weekday)) (k 0 1) (It (year,(month,1)) (λrnumber=>UU rnumber (λrWeekday=>let day:=(IntKind.i64.wrap ((IntKind.i64.wrap (rnumber+(Int.tmod (IntKind.i64.wrap ((IntKind.i64.wrap (weekday-rWeekday))+7)) 7)))+(IntKind.i64.wrap (7*(IntKind.i64.wrap (week-1))))));BO year month (λrDays=>cond (decide ((IntKind.i64.wrap (rnumber+rDays))<=day)) (let day2:=(IntKind.i64.wrap (day-7));k day2 0) (k day 0))))))))))
noncomputable def Aep:En:=⟨185,.spec (sg [Aa,Aa,Aa,Aa] [] [Aa,Aa] [] PZ),pf [P2,jA,Acd,jE] [] [.tmp 8,.tmp 9] Tryz.func185⟩
abbrev Aeq:={β:Type}->(Int×AS)->(Int->Int->Option β)->Option β
def Iw:Aeq:=hid λd k=>Is d (λrValid=>cond (!rValid) (k 0 1) (It d (λrnumber=>k rnumber 0)))
noncomputable def Aer:En:=⟨201,.spec (sg [OG] [] [Aa,Aa] [] Iw),pf [jA,jE] [] [.tmp 2,.tmp 3] Tryz.func201⟩
abbrev Aes:={β:Type}->Int->AX->(Au->AX->Option β)->Option β
noncomputable def Qa:List En:=[AdF,AdB,G3,Adr,dM]
abbrev VY(β:Type):=AX->Am->Ak->Al->Am->Ak->Al->Ap->Ap->Option β
abbrev VZ(β:Type):=Int->AX->Am->Ak->Al->Am->Ak->Al->Ap->Ap->Option β
noncomputable def Qb:Pc:=⟨69,1,AA 58 (Ar Tryz.f7),⟨1,[0,4,5,6],[As,Bf,BY,Aa],dC⟩,[(.exit 0,⟨1,[4,5],[Bf,BY],dC⟩)]⟩
abbrev Wa(β:Type):=Int->AX->Am->Ak->Al->An->Am->Ak->Al->Ap->Ap->Fi->(List AO)->Option β
abbrev Wb(β:Type):=Int->Int->AX->Am->Ak->Al->An->Am->Ak->Al->Ap->Ap->Fi->(List AO)->Option β
noncomputable def kX:Pc:=⟨69,1,AA 202 (C4 Qb.c),⟨1,[0,4,5,6,7,8],[As,Bf,BY,Aa,Eu,Aa],OH⟩,[(.exit 2,⟨1,[0,4,5,6,7],[As,Bf,BY,Aa,Eu],OH⟩)]⟩
abbrev Wc(β:Type):=Int->AX->Am->Ak->Al->An->Am->Ak->Al->Ap->Ap->Fi->(List AO)->Option β
abbrev Wd(β:Type):=Int->Int->AX->Am->Ak->Al->An->Am->Ak->Al->Ap->Ap->Fi->(List AO)->Option β
noncomputable def kY:Pc:=⟨69,1,AA 410 (C4 Qb.c),⟨1,[0,4,5,6,7,9],[As,Bf,BY,Aa,Eu,Aa],OH⟩,[(.exit 4,⟨1,[0,4,5,6,7],[As,Bf,BY,Aa,Eu],OH⟩)]⟩
def Qc{β:Type}(rec:Wb β)(k1:Wa β):Wb β:=λi_ k_ d c c2 c3 s b4_ b5_ b6_ b7_ b8_ b9_ b10_=>cond (decide ((0:Int)<k_)) (Lt (λlrnames=>cond (decide (0<=(List.length b9_:Int))&&decide ((List.length b9_:Int)<(List.length lrnames:Int))) (PJ c c2 c3 (List.getD lrnames (Int.toNat (List.length b9_:Int)) ([]:List UInt8)) d (λrLayer mrLayer=>let l:=([rLayer]:List AD);cond (decide ((List.length b9_+List.length l)*120<=AG)) (let l2:=(b9_++l);let k_2:=(IntKind.i64.wrap (k_-1));rec i_ k_2 mrLayer c c2 c3 s b4_ b5_ b6_ b7_ b8_ l2 b10_) none)) none)) (k1 i_ d c c2 c3 s b4_ b5_ b6_ b7_ b8_ b9_ b10_)
def Mp(m:Nat){β:Type}(k1:Wa β):Wb β:=Up (λr=>Qc r k1) none m
theorem kZ{β:Type}(i:Nat)(k1):Mp (β:=β) (i+1) k1=Qc (Mp i k1) k1:=rfl
def We{β:Type}:=hid (Mp (β:=β) fuel)
noncomputable def Aet:Pb:=⟨202,kX,λ_=>We,pl (p:=kX) Qa [] (g:=λi _=>Mp i)⟩
def Qd{β:Type}(rec:Wd β)(k1:Wc β):Wd β:=λi_ k_ d c c2 c3 s b4_ b5_ b6_ b7_ b8_ b9_ b10_=>cond (decide ((0:Int)<k_)) (PL c c2 c3 d (λrEdit mrEdit=>let l:=([rEdit]:List AO);cond (decide ((List.length b10_+List.length l)*40<=AG)) (let l2:=(b10_++l);let k_2:=(IntKind.i64.wrap (k_-1));rec i_ k_2 mrEdit c c2 c3 s b4_ b5_ b6_ b7_ b8_ b9_ l2) none)) (k1 i_ d c c2 c3 s b4_ b5_ b6_ b7_ b8_ b9_ b10_)
def Mq(m:Nat){β:Type}(k1:Wc β):Wd β:=Up (λr=>Qd r k1) none m
theorem lB{β:Type}(i:Nat)(k1):Mq (β:=β) (i+1) k1=Qd (Mq i k1) k1:=rfl
def Wg{β:Type}:=hid (Mq (β:=β) fuel)
noncomputable def Aeu:Pb:=⟨410,kY,λ_=>Wg,pl (p:=kY) Qa [] (g:=λi _=>Mq i)⟩
def Qe{β:Type}(rec:VZ β)(k1:VY β):VZ β:=λi_ d c c2 c3 b3_ b4_ b5_ b6_ b7_=>cond (decide ((0:Int)<i_)) (let l:=([([102,105,114,115,116]:List UInt8),([115,101,99,111,110,100]:List UInt8),([116,104,105,114,100]:List UInt8)]:List An);cond (decide (0<=(Int.tmod (List.length b7_:Int) 3))&&decide ((Int.tmod (List.length b7_:Int) 3)<(List.length l:Int))) (Bh 4 d (λrNext mrNext=>We (λi_2 d2 c4 c5 c6 s b4_2 b5_2 b6_2 b7_2 b8_ b9_ b10_=>Bh 4 d2 (λrNext2 mrNext2=>Wg (λi_3 d3 c7 c8 c9 s2 b4_3 b5_3 b6_3 b7_3 b8_2 b9_2 b10_2=>let l2:=([(s2,(b9_2,b10_2))]:List AK);cond (decide ((List.length b8_2+List.length l2)*64<=AG)) (let l3:=(b8_2++l2);let i_4:=(IntKind.i64.wrap (i_3-(1:Int)));rec i_4 d3 c7 c8 c9 b4_3 b5_3 b6_3 b7_3 l3) none) i_2 rNext2 mrNext2 c4 c5 c6 s b4_2 b5_2 b6_2 b7_2 b8_ b9_ b10_)) i_ rNext mrNext c c2 c3 (List.getD l (Int.toNat (Int.tmod (List.length b7_:Int) 3)) ([]:List UInt8)) b3_ b4_ b5_ b6_ b7_ ([]:List AD) ([]:List AO))) none) (k1 d c c2 c3 b3_ b4_ b5_ b6_ b7_)
def Mr(m:Nat){β:Type}(k1:VY β):VZ β:=Ik (λr=>Qe r k1) none m
theorem lC{β:Type}(i:Nat)(k1):Mr (β:=β) (i+1) k1=Qe (Mr i k1) k1:=rfl
def Wh{β:Type}:=hid (Mr (β:=β) fuel)
noncomputable def Aev:Pb:=⟨58,Qb,λ_=>Wh,pl (p:=Qb) Qa [Aet,Aeu] (g:=λi _=>Mr i)⟩
def Qf:Aes:=hid λn d k=>PG d (λrStaff rStaff2 rStaff3 mrStaff lrStaff=>Bh n mrStaff (λrNext mrNext=>let i_:=(IntKind.i64.wrap (1+rNext));Wh (λb0_ c c2 c3 b3_ b4_ b5_ b6_ b7_=>k (c,(c2,(c3,b7_))) b0_) i_ mrNext rStaff rStaff2 rStaff3 ([]:List At) ([]:List Ay) ([]:List AF) ([]:List AK) lrStaff))
noncomputable def Aew:En:=⟨7,.spec (sg [As,Aa] [BC] [Eb] [BC] Qf),pf Qa [Aev] [.cell 4 32] Tryz.func7⟩
abbrev Aex:={β:Type}->Bn->(Bool->Option β)->Option β
noncomputable def Qg:List En:=[AdZ,Acv]
abbrev lD(β:Type):=Bool->Option β
abbrev lE(β:Type):=Unit->Option β
abbrev Wi(β:Type):=Bn->Int->Int->EJ->Option β
noncomputable def lF:Pc:=⟨80,0,AA 1018 (Ar Tryz.f10),⟨0,[3,59,60,61],[As,BQ,Aa,Aa],[.cells 89 [.data Gu]]⟩,[(.ret,⟨0,[2],[AC],[]⟩),(.exit 0,⟨0,[],[],[]⟩)]⟩
abbrev Aey(β:Type):=Bool->Option β
abbrev Aez(β:Type):=Bn->EJ->Option β
noncomputable def lG:Pc:=⟨80,0,AA 127 (Ar Tryz.f10),⟨0,[0,3],[BQ,As],[.cells 89 [.data Gu]]⟩,[(.ret,⟨0,[2],[AC],[]⟩)]⟩
abbrev AeA(β:Type):=Bool->Option β
abbrev AeB(β:Type):=Bn->EJ->Option β
noncomputable def lH:Pc:=⟨80,0,AA 63 (Ar Tryz.f10),⟨0,[0,3],[BQ,As],[.cells 89 [.data Gu]]⟩,[(.ret,⟨0,[2],[AC],[]⟩)]⟩
def Qh{β:Type}(rec:Wi β)(k1:lD β)(k2:lE β):Wi β:=λt59 t60 t61 f=>
 cond (decide (t61<t60))
 (cond (decide (0<=t61)&&decide (t61<(List.length t59:Int)))
 (let e:=List.getD t59 (Int.toNat t61) (0,(([]:List UInt8),0));
 cond (decide (0<=(if(IntKind.i64.wrap ((List.length f.2.1:Int)-(1:Int)))<t61 then(IntKind.i64.wrap ((List.length f.2.1:Int)-(1:Int)))else t61))&&decide ((if(IntKind.i64.wrap ((List.length f.2.1:Int)-(1:Int)))<t61 then(IntKind.i64.wrap ((List.length f.2.1:Int)-(1:Int)))else t61)<(List.length f.2.1:Int)))
 (let e2:=List.getD f.2.1 (Int.toNat (if(IntKind.i64.wrap ((List.length f.2.1:Int)-(1:Int)))<t61 then(IntKind.i64.wrap ((List.length f.2.1:Int)-(1:Int)))else t61)) 0;
 cond (!decide (e.1=e2))
 (k1 false)
 (rec t59 t60 (IntKind.i64.wrap (t61+(1:Int))) f))
 none)
 none)
 (k2 ())
def Ms(m:Nat){β:Type}(k1:lD β)(k2:lE β):Wi β:=Ce (λr=>Qh r k1 k2) none m
theorem lI{β:Type}(i:Nat)(k1 k2):Ms (β:=β) (i+1) k1 k2=Qh (Ms i k1 k2) k1 k2:=rfl
def Wj{β:Type}:=hid (Ms (β:=β) fuel)
noncomputable def AeC:Pb:=⟨1018,lF,λ_=>Wj,pl (p:=lF) Qg [] (g:=λi _=>Ms i)⟩
def Wk{β:Type}(k1:Aey β):Aez β:=λl f=>cond (decide (0<=(1:Int))&&(decide ((1:Int)<=(List.length l:Int))&&decide ((List.length l:Int)<=(List.length l:Int)))) (Wj (λt2=>k1 t2) (λ_=>k1 true) (List.drop (Int.toNat 1) (List.take (Int.toNat (List.length l:Int)) l)) (List.length (List.drop (Int.toNat 1) (List.take (Int.toNat (List.length l:Int)) l)):Int) 0 f) none
def Mt{β:Type}:=hid (Wk (β:=β))
noncomputable def AeD:Pb:=⟨127,lG,λ_=>Mt,pe (p:=lG) Qg [AeC] 127 (g:=λ_=>Wk)⟩
def Wl{β:Type}(k1:AeA β):AeB β:=λl f=>cond (decide ((IntKind.i64.wrap ((List.length l:Int)-(1:Int)))<(List.length f.2.1:Int))) (k1 false) (cond (decide ((List.length f.2.1:Int)<(IntKind.i64.wrap ((List.length l:Int)-(1:Int))))) (cond (!f.2.2) (k1 false) (Mt (λt2=>k1 t2) l f)) (Mt (λt2=>k1 t2) l f))
def Qi{β:Type}:=hid (Wl (β:=β))
noncomputable def AeE:Pb:=⟨63,lH,λ_=>Qi,pe (p:=lH) Qg [AeD] 63 (g:=λ_=>Wl)⟩
def BP:Aex:=hid λl k=>cond (decide ((List.length l:Int)=(0:Int))) (k false) (cond (decide (0<=(0:Int))&&decide ((0:Int)<(List.length l:Int))) (let e:=List.getD l (Int.toNat 0) (0,(([]:List UInt8),0));cond (!decide (e.1=(0:Int))) (k false) (cond (decide (0<=(0:Int))&&decide ((0:Int)<(List.length l:Int))) (let e2:=List.getD l (Int.toNat 0) (0,(([]:List UInt8),0));Mi e2.2.1 (λrforms rforms2=>cond (!rforms2) (k false) (cond (decide (rforms.1=([112,101,114,115,111,110]:List UInt8))) (hU l (λroptions roptions2=>cond (!roptions2) (k false) (Qi (λt2=>k t2) roptions rforms))) (Qi (λt2=>k t2) l rforms)))) none)) none)
noncomputable def Qj:En:=⟨10,.spec (sg [BQ] [] [AC] [] BP),pf Qg [AeE] [.tmp 2] Tryz.func10⟩
abbrev AeF:={β:Type}->Int->(Bool->Option β)->Option β
def JB:AeF:=hid λn k=>Iu n (λrDateOf rDateOf2=>let t:=(decide (rDateOf2=(0:Int)));k t)
noncomputable def Wm:En:=⟨93,.spec (sg [Aa] [] [AC] [] JB),pf [kV] [] [.tmp 2] Tryz.func93⟩
abbrev AeG:={β:Type}->Au->AO->(Int->Option β)->Option β
noncomputable def JC:List En:=[Wm,UD,L2]
abbrev AeH(β:Type):=Int->Option β
abbrev AeI(β:Type):=Unit->Option β
abbrev AeJ(β:Type):=Bool->AO->Option β
noncomputable def lJ:Pc:=⟨83,0,AA 14847 (Ar Tryz.f98),⟨0,[3,61],[As,AC],[Fj]⟩,[(.ret,⟨0,[4],[Aa],[]⟩),(.normal,⟨0,[],[],[]⟩)]⟩
abbrev AeK(β:Type):=Int->Option β
abbrev AeL(β:Type):=Unit->Option β
abbrev AeM(β:Type):=Bool->AO->Option β
noncomputable def lK:Pc:=⟨83,0,AA 3711 (Ar Tryz.f98),⟨0,[3,50],[As,AC],[Fj]⟩,[(.ret,⟨0,[4],[Aa],[]⟩),(.normal,⟨0,[],[],[]⟩)]⟩
abbrev AeN(β:Type):=Int->Option β
abbrev AeO(β:Type):=Unit->Option β
abbrev AeP(β:Type):=Bool->AO->Option β
noncomputable def lL:Pc:=⟨83,0,AA 927 (Ar Tryz.f98),⟨0,[3,41],[As,AC],[Fj]⟩,[(.ret,⟨0,[4],[Aa],[]⟩),(.normal,⟨0,[],[],[]⟩)]⟩
abbrev AeQ(β:Type):=Int->Option β
abbrev AeR(β:Type):=Unit->Option β
abbrev AeS(β:Type):=Bool->AO->Option β
noncomputable def lM:Pc:=⟨83,0,AA 231 (Ar Tryz.f98),⟨0,[3,14],[As,AC],[Fj]⟩,[(.ret,⟨0,[4],[Aa],[]⟩),(.normal,⟨0,[],[],[]⟩)]⟩
abbrev AeT(β:Type):=Bool->AO->Option β
abbrev AeU(β:Type):=Int->Bool->AO->Option β
noncomputable def lN:Pc:=⟨83,0,AA 461 (Ar Tryz.f98),⟨0,[3,5,14],[As,Aa,AC],[Fj]⟩,[(.normal,⟨0,[3,14],[As,AC],[Fj]⟩)]⟩
def Wn{β:Type}(k1:AeH β)(k2:AeI β):AeJ β:=λt61 x=>cond t61 (k1 1) (let t:=(decide (x.2.2.2.2<=x.2.2.2.1));cond t (k1 6) (k2 ()))
def JD{β:Type}:=hid (Wn (β:=β))
noncomputable def AeV:Pb:=⟨14847,lJ,λ_=>JD,pe (p:=lJ) JC [] 14847 (g:=λ_=>Wn)⟩
def Wo{β:Type}(k1:AeK β)(k2:AeL β):AeM β:=λt50 x=>cond t50 (k1 4) (cond (decide (x.2.2.2.1<(0:Int))) (JD (λt4=>k1 t4) (λ_=>k2 ()) true x) (cond (decide (x.2.2.2.2<(0:Int))) (JD (λt4=>k1 t4) (λ_=>k2 ()) true x) (JB (IntKind.i64.wrap (Int.tdiv x.2.2.2.2 86400)) (λrday=>JD (λt4=>k1 t4) (λ_=>k2 ()) (!rday) x))))
def Mu{β:Type}:=hid (Wo (β:=β))
noncomputable def AeW:Pb:=⟨3711,lK,λ_=>Mu,pe (p:=lK) JC [AeV] 3711 (g:=λ_=>Wo)⟩
def Wp{β:Type}(k1:AeN β)(k2:AeO β):AeP β:=λt41 x=>cond t41 (k1 1) (cond (decide (x.1=(2:Int))) (let t:=(decide (x.2.1=x.2.2.1));Mu (λt4=>k1 t4) (λ_=>k2 ()) t x) (Mu (λt4=>k1 t4) (λ_=>k2 ()) false x))
def Mv{β:Type}:=hid (Wp (β:=β))
noncomputable def AeX:Pb:=⟨927,lL,λ_=>Mv,pe (p:=lL) JC [AeW] 927 (g:=λ_=>Wp)⟩
def Wq{β:Type}(k1:AeQ β)(k2:AeR β):AeS β:=λt14 x=>cond t14 (k1 3) (cond (!decide (x.1=(2:Int))) (let t:=(!decide (x.2.2.1=(0:Int)));Mv (λt4=>k1 t4) (λ_=>k2 ()) t x) (Mv (λt4=>k1 t4) (λ_=>k2 ()) false x))
def Ix{β:Type}:=hid (Wq (β:=β))
noncomputable def AeY:Pb:=⟨231,lM,λ_=>Ix,pe (p:=lM) JC [AeX] 231 (g:=λ_=>Wq)⟩
def Wr{β:Type}(k1:AeT β):AeU β:=λpeople t14 x=>cond t14 (k1 t14 x) (cond (decide (x.1=(2:Int))) (FO x.2.2.1 people (λrindex=>k1 (!rindex) x)) (k1 false x))
def JE{β:Type}:=hid (Wr (β:=β))
noncomputable def AeZ:Pb:=⟨461,lN,λ_=>JE,pe (p:=lN) JC [] 461 (g:=λ_=>Wr)⟩
def Qk:AeG:=hid λc x k=>G5 x.1 0 2 (λrin=>cond (!rin) (k 1) (FO x.2.1 (List.length c.2.1:Int) (λrindex=>cond (!rindex) (cond (decide (x.1=(1:Int))) (let t:=(!(decide (x.2.1=(-1:Int))));JE (λt14 x2=>Ix (λt4=>k t4) (λ_=>k 0) t14 x2) (List.length c.2.1:Int) t x) (JE (λt14 x2=>Ix (λt4=>k t4) (λ_=>k 0) t14 x2) (List.length c.2.1:Int) true x)) (JE (λt14 x2=>Ix (λt4=>k t4) (λ_=>k 0) t14 x2) (List.length c.2.1:Int) false x))))
noncomputable def Af0:En:=⟨98,.spec (sg [Eb,Uj] [] [Aa] [] Qk),pf JC [AeY,AeZ] [.tmp 4] Tryz.func98⟩
abbrev Af1:={β:Type}->Bn->Am->Ak->Al->Ap->(Int->Am->Ak->Al->Ap->Option β)->Option β
def Mw:Af1:=hid λl b1_ b2_ b3_ b4_ k=>
 cond (decide (0<=(2:Int))&&decide ((2:Int)<(List.length l:Int)))
 (let e:=List.getD l (Int.toNat 2) (0,(([]:List UInt8),0));
 Io b1_ e.2.1 (λrZone mrZone=>
 let t:=(if rZone>0 then rZone else 0);
 let t2:=(decide ((0:Int)<=rZone));
 Ey t2 (λrfound=>
 cond (!decide (rfound=0))
 (k rfound b1_ b2_ b3_ b4_)
 (cond (decide (0<=(1:Int))&&decide ((1:Int)<(List.length l:Int)))
 (let e2:=List.getD l (Int.toNat 1) (0,(([]:List UInt8),0));
 let l2:=([(e2.2.1,(t,([]:List Int)))]:List AF);
 cond (true&&decide ((List.length b3_+List.length l2)*48<=AG))
 (let l3:=(b3_++l2);
 k 0 b1_ b2_ l3 b4_)
 none)
 none))))
 none
theorem Af2:SpecOkB Tryz.prog 111 (sg [As,BQ] Ca [Aa] Ca Mw):=C5 mixed (X:=⟨look tab,gam [L7,G6],false,false,false,false,BF,none,0,[]⟩) AJ [L7,G6] rfl [] [.tmp 4] Tryz.func111 (by kernel_rfl) λ_ _=>by kernel_rfl
noncomputable def Af3:En:=.hand Af2 rfl (by kernel_rfl)
abbrev Af4:={β:Type}->Bn->Am->Ak->Al->Ap->(Int->Am->Ak->Al->Ap->Option β)->Option β
def Mx:Af4:=hid λl b1_ b2_ b3_ b4_ k=>
 let l2:=([([104,111,117,114,115]:List UInt8),([100,97,121,115]:List UInt8),([119,101,101,107,115]:List UInt8)]:List An);
 cond (decide (0<=(6:Int))&&decide ((6:Int)<(List.length l:Int)))
 (let e:=List.getD l (Int.toNat 6) (0,(([]:List UInt8),0));
 Hn l2 e.2.1 (λrIndexstringstring=>
 cond (decide (rIndexstringstring<0))
 (k 2 b1_ b2_ b3_ b4_)
 (cond (decide ((List.length b4_:Int)=(0:Int)))
 (k 9 b1_ b2_ b3_ b4_)
 (let i_:=(IntKind.i64.wrap ((List.length b4_:Int)-(1:Int)));
 cond (decide (0<=i_)&&decide (i_<(List.length b4_:Int)))
 (cond (decide (0<=(2:Int))&&decide ((2:Int)<(List.length l:Int)))
 (let e2:=List.getD l (Int.toNat 2) (0,(([]:List UInt8),0));
 Io b1_ e2.2.1 (λrZone mrZone=>
 let t:=(if rZone>0 then rZone else 0);
 let t2:=(decide ((0:Int)<=rZone));
 Ey t2 (λrfound=>
 cond (!decide (rfound=0))
 (k rfound b1_ b2_ b3_ b4_)
 (let e3:=List.getD b4_ (Int.toNat i_) (([]:List UInt8),(([]:List AD),([]:List AO)));
 cond (decide (0<=(1:Int))&&decide ((1:Int)<(List.length l:Int)))
 (let e4:=List.getD l (Int.toNat 1) (0,(([]:List UInt8),0));
 cond (decide (0<=(3:Int))&&decide ((3:Int)<(List.length l:Int)))
 (let e5:=List.getD l (Int.toNat 3) (0,(([]:List UInt8),0));
 cond (decide (0<=(4:Int))&&decide ((4:Int)<(List.length l:Int)))
 (let e6:=List.getD l (Int.toNat 4) (0,(([]:List UInt8),0));
 cond (decide (0<=(5:Int))&&decide ((5:Int)<(List.length l:Int)))
 (let e7:=List.getD l (Int.toNat 5) (0,(([]:List UInt8),0));
 let l3:=([(e4.2.1,(t,((e5.2.2,e6.2.2),(rIndexstringstring,(e7.2.2,(([]:List Int),(([]:List AS),(0,0))))))))]:List AD);
 let l4:=((List.getD b4_ (Int.toNat i_) (([]:List UInt8),(([]:List AD),([]:List AO)))).2).1;
 cond (true&&decide ((List.length l4+List.length l3)*120<=AG))
 (let l5:=(l4++l3);
 let e8:=List.getD b4_ (Int.toNat i_) (([]:List UInt8),(([]:List AD),([]:List AO)));
 let l6:=List.set b4_ (Int.toNat i_) (e8.1,(l5,e8.2.2));
 cond (decide ((Int.toNat i_)=(Int.toNat i_))&&(true&&true))
 (k 0 b1_ b2_ b3_ l6)
 none)
 none)
 none)
 none)
 none)
 none))))
 none)
 none))))
 none
theorem Af5:SpecOkB Tryz.prog 114 (sg [As,BQ] Ca [Aa] Ca Mx):=C5 mixed (X:=⟨look tab,gam [L7,G6,L8,UJ,Pa],false,false,false,false,BF,none,0,[]⟩) AJ [L7,G6,L8,UJ,Pa] rfl [] [.tmp 4] Tryz.func114 (by kernel_rfl) λ_ _=>by kernel_rfl
noncomputable def Af6:En:=.hand Af5 rfl (by kernel_rfl)
abbrev Af7:={β:Type}->AR->(An->Bool->Option β)->Option β
noncomputable def Ws:List En:=[Aek,Aei,gJ]
abbrev Af8(β:Type):=An->Bool->Option β
abbrev Af9(β:Type):=Bool->AR->Option β
noncomputable def lO:Pc:=⟨95,0,AA 861 (Ar Tryz.f127),⟨0,[1,4],[As,AC],[.cells 83 [.data C6]]⟩,[(.ret,⟨0,[2,3],[AP,AC],[]⟩)]⟩
abbrev lP(β:Type):=An->Bool->Option β
abbrev Afa(β:Type):=Int->An->Option β
noncomputable def lQ:Pc:=⟨95,0,AA 27643 (Ar Tryz.f127),⟨0,[5,6],[Aa,AP],[]⟩,[(.ret,⟨0,[2,3],[AP,AC],[]⟩)]⟩
def Wt{β:Type}(k1:Af8 β):Af9 β:=λok t=>Iv t.2.2 (!decide ((Int.tmod t.2.2 60)=0)) (λrhours=>k1 rhours ok)
def Ql{β:Type}:=hid (Wt (β:=β))
noncomputable def Afb:Pb:=⟨861,lO,λ_=>Ql,pe (p:=lO) Ws [] 861 (g:=λ_=>Wt)⟩
def Wu{β:Type}(k1:lP β):Afa β:=λn sign=>Iv n false (λrhours=>cond (decide (List.length sign+List.length rhours<=9223372036854775807)) (cond (decide ((0:Int)<=n)) (cond (decide (n<=64800)) (let t:=(decide ((Int.tmod n 60)=0));k1 (sign++rhours) t) (k1 (sign++rhours) false)) (k1 (sign++rhours) false)) none)
def My{β:Type}:=hid (Wu (β:=β))
noncomputable def Afc:Pb:=⟨27643,lQ,λ_=>My,pe (p:=lQ) Ws [] 27643 (g:=λ_=>Wu)⟩
def G8:Af7:=hid λt k=>let t2:=(decide (t.1=(1:Int)));cond t2 (LE t.2.2 (λrItoa=>cond (decide ((0:Int)<=t.2.2)) (let t3:=(decide (t.2.2<=(999999999:Int)));k rItoa t3) (k rItoa false))) (let t3:=(decide (t.1=(2:Int)));cond t3 (cond (decide ((0:Int)<=t.2.2)) (let ok:=(decide (t.2.2<=(86400:Int)));Ql (λt22 t32=>k t22 t32) ok t) (Ql (λt22 t32=>k t22 t32) false t)) (let t4:=(decide (t.1=(3:Int)));cond t4 (Mo t.2.2 (λrdated rdated2=>k rdated rdated2)) (let t5:=(decide (t.1=(4:Int)));cond t5 (cond (decide (t.2.2<(0:Int))) (let n:=(IntKind.i64.wrap (0-t.2.2));My (λt22 t32=>k t22 t32) n ([45]:List UInt8)) (My (λt22 t32=>k t22 t32) t.2.2 ([43]:List UInt8))) (let t6:=(decide (t.1=(5:Int)));cond t6 (Mo (IntKind.i64.wrap (Int.tdiv t.2.2 86400)) (λrdated rdated2=>cond (decide (List.length rdated+List.length ([84]:List UInt8)<=9223372036854775807)) (Iv (Int.tmod t.2.2 86400) true (λrhours=>cond (decide (List.length (rdated++([84]:List UInt8))+List.length rhours<=9223372036854775807)) (cond (decide (List.length ((rdated++([84]:List UInt8))++rhours)+List.length ([90]:List UInt8)<=9223372036854775807)) (cond rdated2 (let t7:=(((rdated++([84]:List UInt8))++rhours)++([90]:List UInt8));let t8:=(decide ((0:Int)<=t.2.2));k t7 t8) (let t7:=(((rdated++([84]:List UInt8))++rhours)++([90]:List UInt8));k t7 false)) none) none)) none)) (k ([]:List UInt8) false)))))
noncomputable def Afd:En:=⟨127,.spec (sg [Et] [] [AP,AC] [] G8),pf Ws [Afb,Afc] [.tmp 2,.tmp 3] Tryz.func127⟩
abbrev Afe:={β:Type}->Au->An->(Int->Bool->Option β)->Option β
def JF:Afe:=hid λc name k=>
 US c.2.1 name (λrPerson mrPerson=>
 let t:=(if rPerson>0 then rPerson else 0);
 let t2:=(decide ((0:Int)<=rPerson));
 k t t2)
noncomputable def lR:En:=⟨154,.spec (sg [Eb,AP] [] [Aa,AC] [] JF),pf [Ac1] [] [.tmp 4,.tmp 5] Tryz.func154⟩
abbrev Aff:={β:Type}->An->(Int->Bool->Option β)->Option β
noncomputable def lS:List En:=[VX]
abbrev Afg(β:Type):=Int->Bool->Option β
abbrev Afh(β:Type):=An->Int->Bool->Option β
noncomputable def lT:Pc:=⟨32,0,AA 15 (Ar Tryz.f170),⟨0,[0,4,5],[AP,Aa,AC],[]⟩,[(.ret,⟨0,[2,3],[Aa,AC],[]⟩)]⟩
def Qm{β:Type}(k1:Afg β):Afh β:=λs n ok=>cond ok (cond (decide ((List.length s:Int)=(6:Int))) (cond (decide ((-64800:Int)<=n)) (let t:=(decide (n<=64800));k1 n t) (k1 n false)) (k1 n false)) (k1 n false)
def Mz{β:Type}:=hid (Qm (β:=β))
noncomputable def Afi:Pb:=⟨15,lT,λ_=>Mz,pe (p:=lT) lS [] 15 (g:=λ_=>Qm)⟩
def M0:Aff:=hid λs k=>cond (decide (0<=(1:Int))&&(decide ((1:Int)<=(List.length s:Int))&&decide ((List.length s:Int)<=(List.length s:Int)))) (FR (List.drop (Int.toNat 1) (List.take (Int.toNat (List.length s:Int)) s)) (λrclock rclock2=>cond (decide (0<=(0:Int))&&decide ((0:Int)<(List.length s:Int))) (cond (decide (((List.getD s (Int.toNat 0) 0).toNat:Int)=(45:Int))) (let n:=(IntKind.i64.wrap (0-rclock));Mz (λt2 t3=>k t2 t3) s n rclock2) (Mz (λt2 t3=>k t2 t3) s rclock rclock2)) none)) none
noncomputable def Afj:En:=⟨170,.spec (sg [AP] [] [Aa,AC] [] M0),pf lS [Afi] [.tmp 2,.tmp 3] Tryz.func170⟩
abbrev Afk:={β:Type}->An->(Int->Bool->Option β)->Option β
def Iy:Afk:=hid λs k=>cond (!decide ((List.length s:Int)=(10:Int))) (k 0 false) (cond (decide (0<=(4:Int))&&decide ((4:Int)<(List.length s:Int))) (cond (!decide (((List.getD s (Int.toNat 4) 0).toNat:Int)=(45:Int))) (k 0 false) (cond (decide (0<=(7:Int))&&decide ((7:Int)<(List.length s:Int))) (cond (!decide (((List.getD s (Int.toNat 7) 0).toNat:Int)=(45:Int))) (k 0 false) (cond (decide (0<=(0:Int))&&(decide ((0:Int)<=(4:Int))&&decide ((4:Int)<=(List.length s:Int)))) (J5 (List.drop (Int.toNat 0) (List.take (Int.toNat 4) s)) (λrnumber rnumber2=>cond (decide (0<=(5:Int))&&(decide ((5:Int)<=(7:Int))&&decide ((7:Int)<=(List.length s:Int)))) (J6 (List.drop (Int.toNat 5) (List.take (Int.toNat 7) s)) (λrtwo rtwo2=>cond (decide (0<=(8:Int))&&(decide ((8:Int)<=(List.length s:Int))&&decide ((List.length s:Int)<=(List.length s:Int)))) (J6 (List.drop (Int.toNat 8) (List.take (Int.toNat (List.length s:Int)) s)) (λrtwo3 rtwo4=>Iw (rnumber,(rtwo,rtwo3)) (λrDay rDay2=>cond rnumber2 (cond rtwo2 (cond rtwo4 (let t:=(decide (rDay2=(0:Int)));k rDay t) (k rDay false)) (k rDay false)) (k rDay false)))) none)) none)) none)) none)) none)
noncomputable def lU:En:=⟨173,.spec (sg [AP] [] [Aa,AC] [] Iy),pf [Aer,Vr,iZ] [] [.tmp 2,.tmp 3] Tryz.func173⟩
abbrev Afl:={β:Type}->Ak->Ak->(Bool->Option β)->Option β
noncomputable def lV:List En:=[Acz]
abbrev lW(β:Type):=Bool->Option β
abbrev lX(β:Type):=Unit->Option β
abbrev Wv(β:Type):=Ak->Ak->Int->Int->Option β
noncomputable def lZ:Pc:=⟨32,0,AA 58 (Ar Tryz.f34),⟨0,[1,2,15,16,17],[FM,(false,[.fn 35 []]),FM,Aa,Aa],[]⟩,[(.ret,⟨0,[6],[AC],[]⟩),(.exit 0,⟨0,[],[],[]⟩)]⟩
def Qn{β:Type}(rec:Wv β)(k1:lW β)(k2:lX β):Wv β:=λs2 t15 t16 t17=>cond (decide (t17<t16)) (cond (decide (0<=t17)&&decide (t17<(List.length t15:Int))) (let e:=List.getD t15 (Int.toNat t17) (([]:List UInt8),(0,(([]:List AS),(0,(0,false)))));cond (decide (0<=t17)&&decide (t17<(List.length s2:Int))) (let e2:=List.getD s2 (Int.toNat t17) (([]:List UInt8),(0,(([]:List AS),(0,(0,false)))));Pn e e2 (λrsamePerson=>cond (!rsamePerson) (k1 false) (rec s2 t15 t16 (IntKind.i64.wrap (t17+(1:Int)))))) none) none) (k2 ())
def M1(m:Nat){β:Type}(k1:lW β)(k2:lX β):Wv β:=Ce (λr=>Qn r k1 k2) none m
theorem m5{β:Type}(i:Nat)(k1 k2):M1 (β:=β) (i+1) k1 k2=Qn (M1 i k1 k2) k1 k2:=rfl
def Ww{β:Type}:=hid (M1 (β:=β) fuel)
noncomputable def Afm:Pb:=⟨58,lZ,λ_=>Ww,pl (p:=lZ) lV [] (g:=λi _=>M1 i)⟩
def Qo:Afl:=hid λs1 s2 k=>cond (!decide ((List.length s1:Int)=(List.length s2:Int))) (k false) (Ww (λt6=>k t6) (λ_=>k true) s2 s1 (List.length s1:Int) 0)
noncomputable def Afn:En:=⟨34,.spec (sg [FM,FM,(false,[.fn 35 []])] [] [AC] [] Qo),pf lV [Afm] [.tmp 6] Tryz.func34⟩
abbrev Afo:={β:Type}->B3->(Bn->Option β)->Option β
noncomputable def m6:List En:=[dP]
abbrev m7(β:Type):=Bn->Option β
abbrev Wx(β:Type):=B3->Int->Int->Bn->Option β
noncomputable def m8:Pc:=⟨22,0,AA 58 (Ar Tryz.f64),⟨0,[1,5,8,9,10],[(false,[.fn 65 []]),BN,Dt,Aa,Aa],Ij⟩,[(.exit 0,⟨0,[5],[BN],Ij⟩)]⟩
def Qp{β:Type}(rec:Wx β)(k1:m7 β):Wx β:=λt8 t9 t10 out=>cond (decide (t10<t9)) (cond (decide (0<=t10)&&decide (t10<(List.length t8:Int))) (let e:=List.getD t8 (Int.toNat t10) 0;J0 e (λrdate=>let l:=([rdate]:List AR);cond (decide ((List.length out+List.length l)*32<=AG)) (let l2:=(out++l);rec t8 t9 (IntKind.i64.wrap (t10+(1:Int))) l2) none)) none) (k1 out)
def M2(m:Nat){β:Type}(k1:m7 β):Wx β:=Ce (λr=>Qp r k1) none m
theorem m9{β:Type}(i:Nat)(k1):M2 (β:=β) (i+1) k1=Qp (M2 i k1) k1:=rfl
def Wy{β:Type}:=hid (M2 (β:=β) fuel)
noncomputable def Afp:Pb:=⟨58,m8,λ_=>Wy,pl (p:=m8) m6 [] (g:=λi _=>M2 i)⟩
def M3:Afo:=hid λl k=>Wy (λout=>k out) l (List.length l:Int) 0 ([]:List AR)
noncomputable def mD:En:=⟨64,.spec (sg [Dt,(false,[.fn 65 []])] [] [BN] Ij M3),pf m6 [Afp] [.tmp 4] Tryz.func64⟩
abbrev Afq:={β:Type}->AF->Am->Ak->Al->Ap->AV->(Am->Ak->Al->Ap->AV->Option β)->Option β
def Qq:Afq:=hid λc w w2 w3 w4 b1_ k=>C8 c.1 (λrword=>Il c.2.1 w w2 w3 w4 b1_ (λrzone mrzone mrzone2 mrzone3 mrzone4 lrzone=>let l:=([rword,rzone]:List AR);BR ([99,97,108,101,110,100,97,114]:List UInt8) l mrzone mrzone2 mrzone3 mrzone4 lrzone (λmradd mradd2 mradd3 mradd4 lradd=>cond (decide (List.length c.2.2<=140737488355328)) (cond (decide (0<List.length c.2.2)) (let part:=(List.take 32 (List.drop 0 c.2.2));M3 part (λlrmanyint=>BR ([100,97,121,115]:List UInt8) lrmanyint mradd mradd2 mradd3 mradd4 lradd (λmradd5 mradd6 mradd7 mradd8 lradd2=>cond (decide (List.length c.2.2<=140737488355328)) (cond (decide (32<List.length c.2.2)) (let part2:=(List.take 32 (List.drop 32 c.2.2));M3 part2 (λlrmanyint2=>BR ([100,97,121,115]:List UInt8) lrmanyint2 mradd5 mradd6 mradd7 mradd8 lradd2 (λmradd9 mradd10 mradd11 mradd12 lradd3=>none))) (k mradd5 mradd6 mradd7 mradd8 lradd2)) none))) (k mradd mradd2 mradd3 mradd4 lradd)) none)))
theorem Afr:SpecOkB Tryz.prog 22 (sg [As,Ig] Cb [] Cb Qq):=yI mixed (X:=⟨look tab,gam [mD,Ew,Ho,OO,dO],false,false,false,false,C7,none,0,[]⟩) AJ [mD,Ew,Ho,OO,dO] rfl 99 2 32 yK Tryz.func22 (by kernel_rfl) λ_ _=>by kernel_rfl
noncomputable def Afs:En:=.handf Afr rfl (by kernel_rfl)
abbrev Aft:={β:Type}->Int->(Bool->Option β)->Option β
def Wz:Aft:=hid λn k=>JB n (λrday=>k (!rday))
noncomputable def Afu:En:=⟨92,.spec (sg [Aa] [] [AC] [] Wz),pf [Wm] [] [.tmp 2] Tryz.func92⟩
abbrev Afv:={β:Type}->AR->(An->Int->Option β)->Option β
def Iz:Afv:=hid λt k=>cond (decide (t.1=(0:Int))) (FQ t.2.1 (λrName=>cond (!rName) (k ([]:List UInt8) 8) (cond (!decide (t.2.2=(0:Int))) (k ([]:List UInt8) 8) (k t.2.1 0)))) (G8 t (λrtext rtext2=>cond (!rtext2) (k ([]:List UInt8) 8) (cond (!decide (t.2.1=([]:List UInt8))) (k ([]:List UInt8) 8) (k rtext 0))))
noncomputable def Afw:En:=⟨100,.spec (sg [Et] [] [AP,Aa] [] Iz),pf [Ve,Afd] [] [.tmp 2,.tmp 3] Tryz.func100⟩
abbrev Afx:={β:Type}->Bn->Am->Ak->Al->Ap->(Int->Am->Ak->Al->Ap->Option β)->Option β
noncomputable def Qr:List En:=[L7,G6]
abbrev Fl(β:Type):=Bool->Am->Ak->Al->Ap->An->Int->Int->Int->Bool->Be->Option β
abbrev W0(β:Type):=Bn->Bool->Int->Am->Ak->Al->Ap->An->Int->Int->Int->Bool->Be->Option β
noncomputable def mE:Pc:=⟨76,5,AA 122 (Ar Tryz.f109),⟨5,[0,1,6,7,8],[As,BQ,AC,(false,[.ptr 5 0]),Aa],dD⟩,[(.exit 0,⟨5,[0,6,7],[As,AC,(false,[.ptr 5 0])],dD⟩)]⟩
def mF{β:Type}(rec:W0 β)(k1:Fl β):W0 β:=λl ok i_ b1_ b2_ b3_ b4_ p_ p_2 p_3 p_4 p_5 b6_=>cond (decide (i_<(List.length l:Int))) (cond (decide (0<=i_)&&decide (i_<(List.length l:Int))) (let e:=List.getD l (Int.toNat i_) (0,(([]:List UInt8),0));let t:=(decide (e.2.1=([119,101,101,107]:List UInt8)));cond t (cond (decide (0<=(IntKind.i64.wrap (i_+1)))&&decide ((IntKind.i64.wrap (i_+1))<(List.length l:Int))) (let e2:=List.getD l (Int.toNat (IntKind.i64.wrap (i_+1))) (0,(([]:List UInt8),0));let i_2:=(IntKind.i64.wrap (i_+1));rec l ok i_2 b1_ b2_ b3_ b4_ p_ p_2 (IntKind.i64.wrap (3600*e2.2.2)) p_4 p_5 b6_) none) (let t2:=(decide (e.2.1=([114,101,115,116]:List UInt8)));cond t2 (cond (decide (0<=(IntKind.i64.wrap (i_+1)))&&decide ((IntKind.i64.wrap (i_+1))<(List.length l:Int))) (let e2:=List.getD l (Int.toNat (IntKind.i64.wrap (i_+1))) (0,(([]:List UInt8),0));let i_2:=(IntKind.i64.wrap (i_+1));rec l ok i_2 b1_ b2_ b3_ b4_ p_ p_2 p_3 (IntKind.i64.wrap (3600*e2.2.2)) p_5 b6_) none) (let t3:=(decide (e.2.1=([99,111,110,115,101,110,116]:List UInt8)));cond t3 (let i_2:=(IntKind.i64.wrap (i_+1));rec l ok i_2 b1_ b2_ b3_ b4_ p_ p_2 p_3 p_4 true b6_) (let i_2:=(IntKind.i64.wrap (i_+1));rec l ok i_2 b1_ b2_ b3_ b4_ p_ p_2 p_3 p_4 p_5 b6_)))) none) (k1 ok b1_ b2_ b3_ b4_ p_ p_2 p_3 p_4 p_5 b6_)
def Qs(m:Nat){β:Type}(k1:Fl β):W0 β:=dJ (λr=>mF r k1) none m
theorem AlS{β:Type}(i:Nat)(k1):Qs (β:=β) (i+1) k1=mF (Qs i k1) k1:=rfl
def EN{β:Type}:=hid (Qs (β:=β) fuel)
noncomputable def Afy:Pb:=⟨122,mE,λ_=>EN,DF mixed (X:=⟨look tab,gam Qr,false,false,false,false,BF,none,0,[]⟩) (p:=mE) AJ Qr rfl [] (g:=λi _=>Qs i) (by kernel_rfl) rfl (by kernel_rfl) (λ_ _=>rfl) λ_ _ _ _=>by kernel_rfl⟩
def JG:Afx:=hid λl b1_ b2_ b3_ b4_ k=>
 cond (decide (0<=(2:Int))&&decide ((2:Int)<(List.length l:Int)))
 (let e:=List.getD l (Int.toNat 2) (0,(([]:List UInt8),0));
 Io b1_ e.2.1 (λrZone mrZone=>
 let t:=(if rZone>0 then rZone else 0);
 let t2:=(decide ((0:Int)<=rZone));
 cond (decide (0<=(1:Int))&&decide ((1:Int)<(List.length l:Int)))
 (let e2:=List.getD l (Int.toNat 1) (0,(([]:List UInt8),0));
 EN (λok b1_2 b2_2 b3_2 b4_2 p_ p_2 p_3 p_4 p_5 b6_=>
 Ey ok (λrfound=>
 cond (!decide (rfound=0))
 (k rfound b1_2 b2_2 b3_2 b4_2)
 (let l2:=([(p_,(p_2,(b6_,(p_3,(p_4,p_5)))))]:List Ay);
 cond (true&&decide ((List.length b2_2+List.length l2)*72<=AG))
 (let l3:=(b2_2++l2);
 k 0 b1_2 l3 b3_2 b4_2)
 none))) l t2 3 b1_ b2_ b3_ b4_ e2.2.1 t 0 0 false ([]:List AS))
 none))
 none
theorem Afz:SpecOkB Tryz.prog 109 (sg [As,BQ] Ca [Aa] Ca JG):=C5 mixed (X:=⟨look tab,gam Qr,false,false,false,false,BF,none,0,[]⟩) AJ Qr rfl [Afy] [.tmp 4] Tryz.func109 (by kernel_rfl) λ_ _=>by kernel_rfl
noncomputable def AfA:En:=.hand Afz rfl (by kernel_rfl)
abbrev AfB:={β:Type}->Bn->Am->Ak->Al->Ap->(Int->Am->Ak->Al->Ap->Option β)->Option β
noncomputable def Qt:List En:=[lR,L9,G6,LA]
abbrev W4(β:Type):=Int->Am->Ak->Al->Ap->Option β
abbrev W5(β:Type):=(Nat×Nat)->Am->Ak->Al->Ap->B3->Option β
abbrev W6(β:Type):=(Nat×Nat)->Bn->Int->Int->Am->Ak->Al->Ap->B3->Option β
noncomputable def mG:Pc:=⟨56,5,AA 250 (Ar Tryz.f115),⟨5,[0,5,7,21,22,23],[As,(false,[.tptrh 4 [1] 0]),(false,[.rowh 5]),BQ,Aa,Aa],dF⟩,[(.ret,⟨5,[4],[Aa],Ca⟩),(.exit 0,⟨5,[5,7],[(false,[.tptrh 4 [1] 0]),(false,[.rowh 5])],dF⟩)]⟩
def Qu{β:Type}(rec:W6 β)(k1:W4 β)(k2:W5 β):W6 β:=λx t21 t22 t23 b1_ b2_ b3_ b4_ all=>cond (decide (t23<t22)) (cond (decide (0<=t23)&&decide (t23<(List.length t21:Int))) (let e:=List.getD t21 (Int.toNat t23) (0,(([]:List UInt8),0));JF (b1_,(b2_,(b3_,b4_))) e.2.1 (λrPerson rPerson2=>Ey rPerson2 (λrfound=>cond (!decide (rfound=0)) (k1 rfound b1_ b2_ b3_ b4_) (let l:=([rPerson]:List Int);cond (decide ((List.length all+List.length l)*8<=AG)) (let l2:=(all++l);rec (x.1,x.2) t21 t22 (IntKind.i64.wrap (t23+(1:Int))) b1_ b2_ b3_ b4_ l2) none)))) none) (k2 (x.1,x.2) b1_ b2_ b3_ b4_ all)
def M4(m:Nat){β:Type}(k1:W4 β)(k2:W5 β):W6 β:=Jx (λr=>Qu r k1 k2) none m
theorem mH{β:Type}(i:Nat)(k1 k2):M4 (β:=β) (i+1) k1 k2=Qu (M4 i k1 k2) k1 k2:=rfl
def Qv{β:Type}:=hid (M4 (β:=β) fuel)
noncomputable def AfC:Pb:=⟨250,mG,λ_=>Qv,DF mixed (X:=⟨look tab,gam Qt,false,false,false,false,BF,none,0,[]⟩) (p:=mG) AJ Qt rfl [] (g:=λi _=>M4 i) (by kernel_rfl) rfl (by kernel_rfl) (λ_ _=>rfl) λ_ _ _ _=>by kernel_rfl⟩
def M5:AfB:=hid λl b1_ b2_ b3_ b4_ k=>cond (decide ((List.length b4_:Int)=(0:Int))) (k 9 b1_ b2_ b3_ b4_) (let i_:=(IntKind.i64.wrap ((List.length b4_:Int)-(1:Int)));cond (decide (0<=i_)&&decide (i_<(List.length b4_:Int))) (let e:=List.getD b4_ (Int.toNat i_) (([]:List UInt8),(([]:List AD),([]:List AO)));let l2:=((List.getD b4_ (Int.toNat i_) (([]:List UInt8),(([]:List AD),([]:List AO)))).2).1;cond (decide ((List.length l2:Int)=(0:Int))) (k 9 b1_ b2_ b3_ b4_) (let l3:=((List.getD b4_ (Int.toNat i_) (([]:List UInt8),(([]:List AD),([]:List AO)))).2).1;let l4:=((List.getD b4_ (Int.toNat i_) (([]:List UInt8),(([]:List AD),([]:List AO)))).2).1;let i_2:=(IntKind.i64.wrap ((List.length l3:Int)-(1:Int)));cond (decide (0<=i_2)&&decide (i_2<(List.length l4:Int))) (let j:=Int.toNat i_2;cond (decide (0<=(1:Int))&&(decide ((1:Int)<=(List.length l:Int))&&decide ((List.length l:Int)<=(List.length l:Int)))) (Qv (λt4 b1_2 b2_2 b3_2 b4_2=>k t4 b1_2 b2_2 b3_2 b4_2) (λx b1_2 b2_2 b3_2 b4_2 all=>let l5:=((List.getD b4_2 x.1 EK).2).1;let e2:=List.getD l5 x.2 CW;let l6:=((((((List.getD (((List.getD b4_2 x.1 EK).2).1) x.2 CW).2).2).2).2).2).1;cond (true&&decide ((List.length l6+List.length all)*8<=AG)) (let l7:=(l6++all);let e3:=List.getD b4_2 x.1 EK;let e4:=List.getD e3.2.1 x.2 CW;let l8:=List.set e3.2.1 x.2 (e4.1,(e4.2.1,(e4.2.2.1,(e4.2.2.2.1,(e4.2.2.2.2.1,(l7,e4.2.2.2.2.2.2))))));let l9:=List.set b4_2 x.1 (e3.1,(l8,e3.2.2));cond (decide (x.1=x.1)&&(true&&(decide (x.2=x.2)&&(true&&true)))) (k 0 b1_2 b2_2 b3_2 l9) none) none) ((Int.toNat i_),j) (List.drop (Int.toNat 1) (List.take (Int.toNat (List.length l:Int)) l)) (List.length (List.drop (Int.toNat 1) (List.take (Int.toNat (List.length l:Int)) l)):Int) 0 b1_ b2_ b3_ b4_ ([]:List Int)) none) none)) none)
theorem AfD:SpecOkB Tryz.prog 115 (sg [As,BQ] Ca [Aa] Ca M5):=C5 mixed (X:=⟨look tab,gam Qt,false,false,false,false,BF,none,0,[]⟩) AJ Qt rfl [AfC] [.tmp 4] Tryz.func115 (by kernel_rfl) λ_ _=>by kernel_rfl
noncomputable def AfE:En:=.hand AfD rfl (by kernel_rfl)
abbrev AfF:={β:Type}->Bn->Am->Ak->Al->Ap->(Int->Am->Ak->Al->Ap->Option β)->Option β
def I0:AfF:=hid λl b1_ b2_ b3_ b4_ k=>
 cond (decide ((List.length b4_:Int)=(0:Int)))
 (k 9 b1_ b2_ b3_ b4_)
 (let i_:=(IntKind.i64.wrap ((List.length b4_:Int)-(1:Int)));
 cond (decide (0<=i_)&&decide (i_<(List.length b4_:Int)))
 (let e:=List.getD b4_ (Int.toNat i_) (([]:List UInt8),(([]:List AD),([]:List AO)));
 let l2:=((List.getD b4_ (Int.toNat i_) (([]:List UInt8),(([]:List AD),([]:List AO)))).2).1;
 cond (decide ((List.length l2:Int)=(0:Int)))
 (k 9 b1_ b2_ b3_ b4_)
 (let l3:=((List.getD b4_ (Int.toNat i_) (([]:List UInt8),(([]:List AD),([]:List AO)))).2).1;
 let l4:=((List.getD b4_ (Int.toNat i_) (([]:List UInt8),(([]:List AD),([]:List AO)))).2).1;
 let i_2:=(IntKind.i64.wrap ((List.length l3:Int)-(1:Int)));
 cond (decide (0<=i_2)&&decide (i_2<(List.length l4:Int)))
 (let j:=Int.toNat i_2;
 let l5:=((List.getD b4_ (Int.toNat i_) (([]:List UInt8),(([]:List AD),([]:List AO)))).2).1;
 let e2:=List.getD l5 j CW;
 cond (!decide (e2.2.2.2.2.2.2.2.2=(0:Int)))
 (k 9 b1_ b2_ b3_ b4_)
 (cond (decide (0<=(1:Int))&&decide ((1:Int)<(List.length l:Int)))
 (let e3:=List.getD l (Int.toNat 1) (0,(([]:List UInt8),0));
 LD b3_ e3.2.1 (λrCalendar mrCalendar=>
 let t:=(if rCalendar>0 then rCalendar else 0);
 let t2:=(decide ((0:Int)<=rCalendar));
 Ey t2 (λrfound=>
 cond (!decide (rfound=0))
 (k rfound b1_ b2_ b3_ b4_)
 (let l6:=((List.getD b4_ (Int.toNat i_) (([]:List UInt8),(([]:List AD),([]:List AO)))).2).1;
 let e4:=List.getD l6 j CW;
 let l7:=List.set l6 j (e4.1,(e4.2.1,(e4.2.2.1,(e4.2.2.2.1,(e4.2.2.2.2.1,(e4.2.2.2.2.2.1,(e4.2.2.2.2.2.2.1,(t,e4.2.2.2.2.2.2.2.2))))))));
 let e5:=List.getD b4_ (Int.toNat i_) (([]:List UInt8),(([]:List AD),([]:List AO)));
 let l8:=List.set b4_ (Int.toNat i_) (e5.1,(l7,e5.2.2));
 let l9:=((List.getD l8 (Int.toNat i_) (([]:List UInt8),(([]:List AD),([]:List AO)))).2).1;
 let e6:=List.getD l9 j CW;
 let l10:=List.set l9 j (e6.1,(e6.2.1,(e6.2.2.1,(e6.2.2.2.1,(e6.2.2.2.2.1,(e6.2.2.2.2.2.1,(e6.2.2.2.2.2.2.1,(e6.2.2.2.2.2.2.2.1,1))))))));
 let e7:=List.getD l8 (Int.toNat i_) (([]:List UInt8),(([]:List AD),([]:List AO)));
 let l11:=List.set l8 (Int.toNat i_) (e7.1,(l10,e7.2.2));
 cond (decide (0<=(0:Int))&&decide ((0:Int)<(List.length l:Int)))
 (let e8:=List.getD l (Int.toNat 0) (0,(([]:List UInt8),0));
 cond (decide (e8.2.1=([111,110,108,121]:List UInt8)))
 (let l12:=((List.getD l11 (Int.toNat i_) (([]:List UInt8),(([]:List AD),([]:List AO)))).2).1;
 let e9:=List.getD l12 j CW;
 let l13:=List.set l12 j (e9.1,(e9.2.1,(e9.2.2.1,(e9.2.2.2.1,(e9.2.2.2.2.1,(e9.2.2.2.2.2.1,(e9.2.2.2.2.2.2.1,(e9.2.2.2.2.2.2.2.1,2))))))));
 let e10:=List.getD l11 (Int.toNat i_) (([]:List UInt8),(([]:List AD),([]:List AO)));
 let l14:=List.set l11 (Int.toNat i_) (e10.1,(l13,e10.2.2));
 k 0 b1_ b2_ b3_ l14)
 (k 0 b1_ b2_ b3_ l11))
 none))))
 none))
 none))
 none)
theorem AfG:SpecOkB Tryz.prog 117 (sg [As,BQ] Ca [Aa] Ca I0):=C5 mixed (X:=⟨look tab,gam [gH,L9,G6,LA],false,false,false,false,BF,none,0,[]⟩) AJ [gH,L9,G6,LA] rfl [] [.tmp 4] Tryz.func117 (by kernel_rfl) λ_ _=>by kernel_rfl
noncomputable def AfH:En:=.hand AfG rfl (by kernel_rfl)
abbrev AfI:={β:Type}->Bn->Am->Ak->Al->Ap->(Int->Am->Ak->Al->Ap->Option β)->Option β
noncomputable def JH:List En:=[lR,G6,L8,UJ,Pa]
abbrev Qw(β:Type):=Int->Am->Ak->Al->Ap->Option β
abbrev Qx(β:Type):=Nat->Am->Ak->Al->Ap->AO->B3->Option β
abbrev W7(β:Type):=Nat->Bn->Int->Int->Am->Ak->Al->Ap->AO->B3->Option β
noncomputable def W8:Pc:=⟨106,5,AA 2042 (Ar Tryz.f118),⟨5,[0,5,7,9,53,54,55],[As,(false,[.tptrh 4 [] 0]),(false,[.ptr 5 0]),(false,[.rowh 6]),BQ,Aa,Aa],OI⟩,[(.ret,⟨5,[4],[Aa],Ca⟩),(.exit 0,⟨5,[5,7,9],[(false,[.tptrh 4 [] 0]),(false,[.ptr 5 0]),(false,[.rowh 6])],OI⟩)]⟩
abbrev mI(β:Type):=Int->Am->Ak->Al->Ap->Option β
abbrev mJ(β:Type):=Nat->Bn->Int->Int->Am->Ak->Al->Ap->AO->B3->Option β
abbrev AfJ(β:Type):=Nat->Int->Int->Bool->Bn->Int->Int->Am->Ak->Al->Ap->AO->B3->Option β
noncomputable def mK:Pc:=⟨106,5,AA 231 (C4 W8.c),⟨5,[0,5,7,9,10,12,13,53,54,55],[As,(false,[.tptrh 4 [] 0]),(false,[.ptr 5 0]),(false,[.rowh 6]),Aa,Aa,AC,BQ,Aa,Aa],OI⟩,[(.ret,⟨5,[4],[Aa],Ca⟩),(.normal,⟨5,[0,5,7,9,53,54,55],[As,(false,[.tptrh 4 [] 0]),(false,[.ptr 5 0]),(false,[.rowh 6]),BQ,Aa,Aa],OI⟩)]⟩
def W9{β:Type}(k1:mI β)(k2:mJ β):AfJ β:=λs i_ p_ ok t53 t54 t55 b1_ b2_ b3_ b4_ x people=>Ey ok (λrfound=>cond (!decide (rfound=0)) (k1 rfound b1_ b2_ b3_ b4_) (cond (decide (0<=i_)&&decide (i_<(List.length people:Int))) (let l:=(List.set people (Int.toNat i_) p_);k2 s t53 t54 t55 b1_ b2_ b3_ b4_ x l) none))
def JI{β:Type}:=hid (W9 (β:=β))
noncomputable def AfK:Pb:=⟨231,mK,λ_=>JI,Ie mixed (X:=⟨look tab,gam JH,false,false,false,false,BF,none,0,[]⟩) (p:=mK) AJ JH rfl [] 231 (g:=λ_=>W9) (by kernel_rfl) λ_ _=>by kernel_rfl⟩
def Qy{β:Type}(rec:W7 β)(k1:Qw β)(k2:Qx β):W7 β:=λs t53 t54 t55 b1_ b2_ b3_ b4_ x people=>cond (decide (t55<t54)) (cond (decide (0<=t55)&&decide (t55<(List.length t53:Int))) (let e:=List.getD t53 (Int.toNat t55) (0,(([]:List UInt8),0));JF (b1_,(b2_,(b3_,b4_))) e.2.1 (λrPerson rPerson2=>cond (decide (x.1=(1:Int))) (cond (decide (e.2.1=([110,111,98,111,100,121]:List UInt8))) (JI (λt4 b1_2 b2_2 b3_2 b4_2=>k1 t4 b1_2 b2_2 b3_2 b4_2) (λs2 t532 t542 t552 b1_2 b2_2 b3_2 b4_2 x2 people2=>rec s2 t532 t542 (IntKind.i64.wrap (t552+(1:Int))) b1_2 b2_2 b3_2 b4_2 x2 people2) s t55 (-1) true t53 t54 t55 b1_ b2_ b3_ b4_ x people) (JI (λt4 b1_2 b2_2 b3_2 b4_2=>k1 t4 b1_2 b2_2 b3_2 b4_2) (λs2 t532 t542 t552 b1_2 b2_2 b3_2 b4_2 x2 people2=>rec s2 t532 t542 (IntKind.i64.wrap (t552+(1:Int))) b1_2 b2_2 b3_2 b4_2 x2 people2) s t55 rPerson rPerson2 t53 t54 t55 b1_ b2_ b3_ b4_ x people)) (JI (λt4 b1_2 b2_2 b3_2 b4_2=>k1 t4 b1_2 b2_2 b3_2 b4_2) (λs2 t532 t542 t552 b1_2 b2_2 b3_2 b4_2 x2 people2=>rec s2 t532 t542 (IntKind.i64.wrap (t552+(1:Int))) b1_2 b2_2 b3_2 b4_2 x2 people2) s t55 rPerson rPerson2 t53 t54 t55 b1_ b2_ b3_ b4_ x people))) none) (k2 s b1_ b2_ b3_ b4_ x people)
def G9(m:Nat){β:Type}(k1:Qw β)(k2:Qx β):W7 β:=Ik (λr=>Qy r k1 k2) none m
theorem mL{β:Type}(i:Nat)(k1 k2):G9 (β:=β) (i+1) k1 k2=Qy (G9 i k1 k2) k1 k2:=rfl
def Qz{β:Type}:=hid (G9 (β:=β) fuel)
noncomputable def AfL:Pb:=⟨2042,W8,λ_=>Qz,DF mixed (X:=⟨look tab,gam JH,false,false,false,false,BF,none,0,[]⟩) (p:=W8) AJ JH rfl [AfK] (g:=λi _=>G9 i) (by kernel_rfl) rfl (by kernel_rfl) (λ_ _=>rfl) λ_ _ _ _=>by kernel_rfl⟩
def GA:AfI:=hid λl b1_ b2_ b3_ b4_ k=>cond (decide ((List.length b4_:Int)=(0:Int))) (k 9 b1_ b2_ b3_ b4_) (let i_:=(IntKind.i64.wrap ((List.length b4_:Int)-(1:Int)));cond (decide (0<=i_)&&decide (i_<(List.length b4_:Int))) (let l2:=([([108,101,97,118,101]:List UInt8),([111,118,101,114,114,105,100,101]:List UInt8),([115,119,97,112]:List UInt8)]:List An);cond (decide (0<=(0:Int))&&decide ((0:Int)<(List.length l:Int))) (let e:=List.getD l (Int.toNat 0) (0,(([]:List UInt8),0));Hn l2 e.2.1 (λrIndexstringstring=>cond (decide (0<=(IntKind.i64.wrap ((List.length l:Int)-(2:Int))))&&decide ((IntKind.i64.wrap ((List.length l:Int)-(2:Int)))<(List.length l:Int))) (let e2:=List.getD l (Int.toNat (IntKind.i64.wrap ((List.length l:Int)-(2:Int)))) (0,(([]:List UInt8),0));cond (decide (0<=(IntKind.i64.wrap ((List.length l:Int)-(1:Int))))&&decide ((IntKind.i64.wrap ((List.length l:Int)-(1:Int)))<(List.length l:Int))) (let e3:=List.getD l (Int.toNat (IntKind.i64.wrap ((List.length l:Int)-(1:Int)))) (0,(([]:List UInt8),0));let l3:=([0,0]:List Int);cond (decide (0<=(1:Int))&&(decide ((1:Int)<=(IntKind.i64.wrap ((List.length l:Int)-(2:Int))))&&decide ((IntKind.i64.wrap ((List.length l:Int)-(2:Int)))<=(List.length l:Int)))) (Qz (λt4 b1_2 b2_2 b3_2 b4_2=>k t4 b1_2 b2_2 b3_2 b4_2) (λs b1_2 b2_2 b3_2 b4_2 x people=>cond (decide (0<=(0:Int))&&decide ((0:Int)<(List.length people:Int))) (cond (decide (0<=(1:Int))&&decide ((1:Int)<(List.length people:Int))) (let e4:=List.getD b4_2 s EK;let l4:=([(x.1,((List.getD people (Int.toNat 0) 0),((List.getD people (Int.toNat 1) 0),x.2.2.2)))]:List AO);let l5:=((List.getD b4_2 s EK).2).2;cond (true&&decide ((List.length l5+List.length l4)*40<=AG)) (let l6:=(l5++l4);let e5:=List.getD b4_2 s EK;let l7:=List.set b4_2 s (e5.1,(e5.2.1,l6));cond (decide (s=s)&&(true&&true)) (k 0 b1_2 b2_2 b3_2 l7) none) none) none) none) (Int.toNat i_) (List.drop (Int.toNat 1) (List.take (Int.toNat (IntKind.i64.wrap ((List.length l:Int)-(2:Int)))) l)) (List.length (List.drop (Int.toNat 1) (List.take (Int.toNat (IntKind.i64.wrap ((List.length l:Int)-(2:Int)))) l)):Int) 0 b1_ b2_ b3_ b4_ (rIndexstringstring,(0,(0,(e2.2.2,e3.2.2)))) l3) none) none) none)) none) none)
theorem AfM:SpecOkB Tryz.prog 118 (sg [As,BQ] Ca [Aa] Ca GA):=C5 mixed (X:=⟨look tab,gam JH,false,false,false,false,BF,none,0,[]⟩) AJ JH rfl [AfL] [.tmp 4] Tryz.func118 (by kernel_rfl) λ_ _=>by kernel_rfl
noncomputable def AfN:En:=.hand AfM rfl (by kernel_rfl)
abbrev AfO:={β:Type}->An->(Int->Bool->Option β)->Option β
def JJ:AfO:=hid λs k=>cond (!decide ((List.length s:Int)=(20:Int))) (k 0 false) (cond (decide (0<=(10:Int))&&decide ((10:Int)<(List.length s:Int))) (cond (!decide (((List.getD s (Int.toNat 10) 0).toNat:Int)=(84:Int))) (k 0 false) (cond (decide (0<=(19:Int))&&decide ((19:Int)<(List.length s:Int))) (cond (!decide (((List.getD s (Int.toNat 19) 0).toNat:Int)=(90:Int))) (k 0 false) (cond (decide (0<=(0:Int))&&(decide ((0:Int)<=(10:Int))&&decide ((10:Int)<=(List.length s:Int)))) (Iy (List.drop (Int.toNat 0) (List.take (Int.toNat 10) s)) (λrdate rdate2=>cond (decide (0<=(11:Int))&&(decide ((11:Int)<=(19:Int))&&decide ((19:Int)<=(List.length s:Int)))) (FR (List.drop (Int.toNat 11) (List.take (Int.toNat 19) s)) (λrclock rclock2=>cond rdate2 (cond rclock2 (let t:=(IntKind.i64.wrap ((IntKind.i64.wrap (rdate*86400))+rclock));let t2:=(decide (rclock<86400));k t t2) (let t:=(IntKind.i64.wrap ((IntKind.i64.wrap (rdate*86400))+rclock));k t false)) (let t:=(IntKind.i64.wrap ((IntKind.i64.wrap (rdate*86400))+rclock));k t false))) none)) none)) none)) none)
noncomputable def AfP:En:=⟨172,.spec (sg [AP] [] [Aa,AC] [] JJ),pf [VX,lU] [] [.tmp 2,.tmp 3] Tryz.func172⟩
def AfQ:Shelf.Ren:=
   {
   f:=λx=>
    match x with
    |20=>219
    |n=>n,
   t:=λx=>
    match x with
    |24=>231
    |22=>227
    |3=>3
    |25=>259
    |4=>4
    |0=>0
    |n=>n,
   g:=λx=>x}
theorem AfR:Go.Proofs.SlLaysF0.n20 Tryz.prog AfQ:=
 {
  mixed:=by kernel_rfl,
  f20:=Exists.intro "slices.insertionSortCmpFunc[pagewatch/zone.occurrence]" ⟨Az (by kernel_rfl),Eq.trans Tryz.func219 (Aj some (by kernel_rfl))⟩,
  t0:=Tryz.underlying0,
  a0:=Tryz.isAgg0,
  z0:=Tryz.sizeOf0,
  v0:=Tryz.zeroValue0,
  t3:=Tryz.underlying3,
  a3:=Tryz.isAgg3,
  z3:=Tryz.sizeOf3,
  v3:=Tryz.zeroValue3,
  t4:=Tryz.underlying4,
  a4:=Tryz.isAgg4,
  z4:=Tryz.sizeOf4,
  v4:=Tryz.zeroValue4,
  t22:=Tryz.underlying227,
  a22:=Tryz.isAgg227,
  z22:=Tryz.sizeOf227,
  v22:=Tryz.zeroValue227,
  t25:=Tryz.underlying259,
  a25:=Tryz.isAgg259,
  z25:=Tryz.sizeOf259,
  v25:=Tryz.zeroValue259}
def Fm:AS->Bool:=λx=>decide (-4611686018427387904<=x.1)&&decide (x.1<4611686018427387904)
def Q0:AS->AS->Int:=λx y=>x.1-y.1
def WA:List AS->List AS:=De Fm ((0,0):Int×Int) rfl Q0
theorem AfS(x y:Int×Int)(hx:Fm x=true)(hy:Fm y=true)(W:World):Calls Tryz.prog 187 #[.agg (encT (.prod (.int .i64) (.int .i64)) x).toArray,.agg (encT (.prod (.int .i64) (.int .i64)) y).toArray] W λe w'=>e=.returned (.int .i64 (Q0 x y))/\∃q os',w'=Go.Sort.grow (W.drewN q) os':=by
 obtain⟨a,b⟩:=x;obtain⟨c,d⟩:=y;simp only[Fm,Bv,EZ]at hx hy;obtain⟨h1,h2⟩:=hx;obtain⟨h3,h4⟩:=hy;change Calls Tryz.prog 187 #[.agg #[.int .i64 a,.int .i64 b],.agg #[.int .i64 c,.int .i64 d]] W λe w'=>e=.returned (.int .i64 (a-c))/\_;have hw:Go.RowKit.wrap64 (a-c)=a-c:=by unfold Go.RowKit.wrap64;omega
 go_enter Tryz.func187,Tryz.ntmps187
 go_wp2
 go_ret
 exact⟨rfl,0,_,by rw[Go.Sort.alloc_eq_grow,Go.Sort.alloc_eq_grow,Go.Sort.grow_grow];rfl⟩
theorem mM:Go.Sort.SWO (Go.Proofs.ltOf λ(x y:{x:Int×Int // Fm x=true})=>Q0 x.1 y.1):=by
 constructor
 ·intro x
  refine AB ?_;show ¬x.1.1-x.1.1<0;omega
 ·intro x y z h1 h2
  have h1:x.1.1-y.1.1<0:=Az h1;have h2:y.1.1-z.1.1<0:=Az h2;refine Aq ?_;show x.1.1-z.1.1<0;omega
 ·intro x y z h1 h2
  have h1:¬x.1.1-y.1.1<0:=N9 h1;have h2:¬y.1.1-z.1.1<0:=N9 h2;refine AB ?_;show ¬x.1.1-z.1.1<0;omega
theorem AfT(p:Option Addr)(n cap:Nat)(w:World)(Q:World->Prop)(hn:n<13)(h:Calls Tryz.prog 219 #[.slice p n cap,.int .i64 0,.int .i64 n,.func (.func 187) #[] #[]] w (λe2 w'=>e2=.returned (.tuple #[])/\Q w')):Calls Tryz.prog 186 #[.slice p n cap,.func (.func 187) #[] #[]] w λe2 w'=>e2=.returned (.tuple #[])/\Q w':=by
 have h2:Calls Tryz.prog 212 #[.slice p n cap,.int .i64 n,.func (.func 187) #[] #[]] w λe2 w'=>e2=.returned (.tuple #[])/\Q w':=by
  go_enter Tryz.func212,Tryz.ntmps212
  go_wp2
  refine wp_loop_rounds 1 ?_;rw[rounds_succ]
  go_wp2_with (refine h.mono ?_;rintro e w' ⟨rfl,hq⟩)
  refine wp_loop_rounds 1 ?_;rw[rounds_succ]
  go_wp2
  go_end0
  exact⟨rfl,hq⟩
 go_enter Tryz.func186,Tryz.ntmps186
 go_wp2_with (refine h2.mono ?_;rintro e w' ⟨rfl,hq⟩)
 go_end0
 exact⟨rfl,hq⟩
def mN:RowF:=⟨231,(.prod (.int .i64) (.int .i64)),false,λl=>List.all l Fm&&decide (List.length l<13),WA,some 187⟩
theorem AfU:RowOk Tryz.prog 186 mN:=
 zR (t:=231) (e:=(.prod (.int .i64) (.int .i64))) (good:=Fm) (d0:=((0,0):Int×Int)) (h0:=rfl) (cf:=Q0) (g:=187) rfl (by decide) AfR rfl Tryz.isAgg231 Tryz.sizeOf231 mM (Go.Proofs.enters_of Tryz.func187 (by kernel_rfl) rfl) AfS AfT ⟨_,Tryz.func186,by kernel_rfl,by kernel_rfl⟩
noncomputable def AfV:En:=⟨_,.rows mN,AfU⟩
abbrev AfW:={β:Type}->FJ->(An->Int->Option β)->Option β
noncomputable def mO:List En:=[Afw,Qj,Abg]
abbrev mP(β:Type):=An->Int->Option β
abbrev mQ(β:Type):=(List An)->Option β
abbrev WB(β:Type):=Bn->Int->Int->(List An)->Option β
noncomputable def mR:Pc:=⟨39,0,AA 122 (Ar Tryz.f68),⟨0,[4,15,16,17],[BN,BQ,Aa,Aa],[.row 9 .str]⟩,[(.ret,⟨0,[2,3],[AP,Aa],[]⟩),(.exit 0,⟨0,[4],[BN],[.row 9 .str]⟩)]⟩
def Q1{β:Type}(rec:WB β)(k1:mP β)(k2:mQ β):WB β:=λt15 t16 t17 words=>cond (decide (t17<t16)) (cond (decide (0<=t17)&&decide (t17<(List.length t15:Int))) (let e:=List.getD t15 (Int.toNat t17) (0,(([]:List UInt8),0));Iz e (λrText rText2=>cond (!decide (rText2=(0:Int))) (k1 ([]:List UInt8) 8) (let l:=([rText]:List An);cond (decide ((List.length words+List.length l)*16<=AG)) (let l2:=(words++l);rec t15 t16 (IntKind.i64.wrap (t17+(1:Int))) l2) none))) none) (k2 words)
def M6(m:Nat){β:Type}(k1:mP β)(k2:mQ β):WB β:=Ce (λr=>Q1 r k1 k2) none m
theorem mS{β:Type}(i:Nat)(k1 k2):M6 (β:=β) (i+1) k1 k2=Q1 (M6 i k1 k2) k1 k2:=rfl
def WC{β:Type}:=hid (M6 (β:=β) fuel)
noncomputable def AfX:Pb:=⟨122,mR,λ_=>WC,pl (p:=mR) mO [] (g:=λi _=>M6 i)⟩
def Q2:AfW:=hid λs k=>BP s.2 (λrForm=>cond (!rForm) (k ([]:List UInt8) 8) (WC (λt2 t3=>k t2 t3) (λwords=>cond (decide (List.length words<=140737488355328)&&decide (List.length (Lib.join words ([32]:List UInt8))<=140737488355328)) (let out:=(Lib.join words ([32]:List UInt8));cond (decide ((512:Int)<(List.length out:Int))) (k ([]:List UInt8) 5) (k out 0)) none) s.2 (List.length s.2:Int) 0 ([]:List An)))
noncomputable def AfY:En:=⟨68,.spec (sg [(true,[.data (.prod (.int .i64) (.slice C6))])] [] [AP,Aa] [] Q2),pf mO [AfX] [.tmp 2,.tmp 3] Tryz.func68⟩
abbrev AfZ:={β:Type}->An->(Int->Int->Bool->Option β)->Option β
noncomputable def WD:List En:=[Ve,VX,lU,AfP,Vr,Afj,f6,AbV]
abbrev Ag0(β:Type):=Int->Int->Bool->Option β
abbrev Ag1(β:Type):=An->Option β
noncomputable def mT:Pc:=⟨83,0,AA 7 (Ar Tryz.f136),⟨0,[0],[AP],[]⟩,[(.ret,⟨0,[2,3,4],[Aa,Aa,AC],[]⟩)]⟩
abbrev Ag2(β:Type):=Int->Int->Bool->Option β
abbrev Ag3(β:Type):=An->Option β
abbrev Ag4(β:Type):=An->Bool->Option β
noncomputable def mU:Pc:=⟨83,0,AA 215 (Ar Tryz.f136),⟨0,[0,23],[AP,AC],[]⟩,[(.ret,⟨0,[2,3,4],[Aa,Aa,AC],[]⟩),(.normal,⟨0,[0],[AP],[]⟩)]⟩
def WE{β:Type}(k1:Ag0 β):Ag1 β:=λs=>J5 s (λrnumber rnumber2=>cond rnumber2 (cond (decide (0<=(0:Int))&&decide ((0:Int)<(List.length s:Int))) (cond (!decide (((List.getD s (Int.toNat 0) 0).toNat:Int)=(48:Int))) (k1 1 rnumber true) (let t:=(decide (s=([48]:List UInt8)));k1 1 rnumber t)) none) (k1 1 rnumber false))
def JK{β:Type}:=hid (WE (β:=β))
noncomputable def Ag5:Pb:=⟨7,mT,λ_=>JK,pe (p:=mT) WD [] 7 (g:=λ_=>WE)⟩
def M7{β:Type}(k1:Ag2 β)(k2:Ag3 β):Ag4 β:=λs t23=>cond t23 (M0 s (λroffset roffset2=>k1 4 roffset roffset2)) (J3 s ([84]:List UInt8) (λrContains=>cond rContains (JJ s (λrinstant rinstant2=>k1 5 rinstant rinstant2)) (J3 s ([45]:List UInt8) (λrContains2=>cond rContains2 (Iy s (λrdate rdate2=>k1 3 rdate rdate2)) (J3 s ([58]:List UInt8) (λrContains3=>cond rContains3 (FR s (λrclock rclock2=>k1 2 rclock rclock2)) (k2 s)))))))
def JL{β:Type}:=hid (M7 (β:=β))
noncomputable def Ag6:Pb:=⟨215,mU,λ_=>JL,pe (p:=mU) WD [] 215 (g:=λ_=>M7)⟩
def GB:AfZ:=hid λs k=>cond (decide (0<=(0:Int))&&decide ((0:Int)<(List.length s:Int))) (let c:=((List.getD s (Int.toNat 0) 0).toNat:Int);Hm c (λrsmall=>cond rsmall (FQ s (λrName=>k 0 0 rName)) (cond (decide (c=43)) (JL (λt2 t3 t4=>k t2 t3 t4) (λs2=>JK (λt2 t3 t4=>k t2 t3 t4) s2) s true) (let t:=(decide (c=45));JL (λt2 t3 t4=>k t2 t3 t4) (λs2=>JK (λt2 t3 t4=>k t2 t3 t4) s2) s t)))) none
noncomputable def Ag7:En:=⟨136,.spec (sg [AP] [] [Aa,Aa,AC] [] GB),pf WD [Ag5,Ag6] [.tmp 2,.tmp 3,.tmp 4] Tryz.func136⟩
abbrev Ag8:={β:Type}->At->(Int->Be->Option β)->Option β
noncomputable def Q3:List En:=[Aep,UN,Ac3,AfV]
abbrev WF(β:Type):=Int->Be->Option β
abbrev WG(β:Type):=Int->At->Option β
abbrev WH(β:Type):=Int->Er->Int->Int->At->Option β
noncomputable def mV:Pc:=⟨86,0,AA 250 (Ar Tryz.f156),⟨0,[1,4,23,24,25],[As,Aa,EL,Aa,Aa],[Lk]⟩,[(.ret,⟨0,[2,3],[BN,Aa],Lo⟩),(.exit 0,⟨0,[1,4],[As,Aa],[Lk]⟩)]⟩
abbrev WI(β:Type):=Be->Option β
abbrev WJ(β:Type):=Er->Int->Int->Be->Option β
noncomputable def WL:Pc:=⟨86,0,AA 2042 (Ar Tryz.f156),⟨0,[8,46,47,48],[BN,EL,Aa,Aa],Lo⟩,[(.exit 2,⟨0,[8],[BN],Lo⟩)]⟩
abbrev WM(β:Type):=Er->Int->Int->Be->Option β
abbrev WN(β:Type):=Int->Er->Int->Int->Be->Bd->Option β
noncomputable def mW:Pc:=⟨86,0,AA 230 (C4 WL.c),⟨0,[8,10,11,46,47,48],[BN,Bf,Aa,EL,Aa,Aa],[.row 231 (.prod (.int .i64) (.int .i64)),.cells 125 [.data FH]]⟩,[(.exit 4,⟨0,[8,46,47,48],[BN,EL,Aa,Aa],Lo⟩)]⟩
def Q4{β:Type}(rec:WH β)(k1:WF β)(k2:WG β):WH β:=λn t23 t24 t25 z=>cond (decide (t25<t24)) (cond (decide (0<=t25)&&decide (t25<(List.length t23:Int))) (let e:=List.getD t23 (Int.toNat t25) (0,(0,(0,(0,(0,(0,0))))));Pg e (λrrule=>cond (!decide (rrule=0)) (k1 rrule ([]:List AS)) (let n2:=(IntKind.i64.wrap (n+(IntKind.i64.wrap ((IntKind.i64.wrap (e.2.1-e.1))+1))));rec n2 t23 t24 (IntKind.i64.wrap (t25+(1:Int))) z))) none) (k2 n z)
def M8(m:Nat){β:Type}(k1:WF β)(k2:WG β):WH β:=G0 (λr=>Q4 r k1 k2) none m
theorem mX{β:Type}(i:Nat)(k1 k2):M8 (β:=β) (i+1) k1 k2=Q4 (M8 i k1 k2) k1 k2:=rfl
def Q5{β:Type}:=hid (M8 (β:=β) fuel)
noncomputable def Ag9:Pb:=⟨250,mV,λ_=>Q5,pl (p:=mV) Q3 [] (g:=λi _=>M8 i)⟩
def Q6{β:Type}(rec:WN β)(k1:WM β):WN β:=λy t46 t47 t48 out r_=>cond (decide (y<=r_.2.1)) (PZ y r_.2.2.1 r_.2.2.2.1 r_.2.2.2.2.1 (λrNth rNth2=>let l:=([((IntKind.i64.wrap ((IntKind.i64.wrap (rNth*86400))+r_.2.2.2.2.2.1)),r_.2.2.2.2.2.2)]:List AS);cond (decide ((List.length out+List.length l)*16<=AG)) (let l2:=(out++l);let y2:=(IntKind.i64.wrap (y+1));rec y2 t46 t47 t48 l2 r_) none)) (k1 t46 t47 t48 out)
def M9(m:Nat){β:Type}(k1:WM β):WN β:=Um (λr=>Q6 r k1) none m
theorem mY{β:Type}(i:Nat)(k1):M9 (β:=β) (i+1) k1=Q6 (M9 i k1) k1:=rfl
def WO{β:Type}:=hid (M9 (β:=β) fuel)
noncomputable def Aga:Pb:=⟨230,mW,λ_=>WO,pl (p:=mW) Q3 [] (g:=λi _=>M9 i)⟩
def Q7{β:Type}(rec:WJ β)(k1:WI β):WJ β:=λt46 t47 t48 out=>cond (decide (t48<t47)) (cond (decide (0<=t48)&&decide (t48<(List.length t46:Int))) (let e:=List.getD t46 (Int.toNat t48) (0,(0,(0,(0,(0,(0,0))))));WO (λt462 t472 t482 out2=>rec t462 t472 (IntKind.i64.wrap (t482+(1:Int))) out2) e.1 t46 t47 t48 out e) none) (k1 out)
def MA(m:Nat){β:Type}(k1:WI β):WJ β:=Ce (λr=>Q7 r k1) none m
theorem mZ{β:Type}(i:Nat)(k1):MA (β:=β) (i+1) k1=Q7 (MA i k1) k1:=rfl
def Q8{β:Type}:=hid (MA (β:=β) fuel)
noncomputable def Agb:Pb:=⟨2042,WL,λ_=>Q8,pl (p:=WL) Q3 [Aga] (g:=λi _=>MA i)⟩
def Q9:Ag8:=hid λz k=>EM z.2.1 (-64800) 64800 (λrin=>cond (!rin) (k 1 ([]:List AS)) (cond (decide ((16:Int)<(List.length z.2.2:Int))) (k 5 ([]:List AS)) (Q5 (λt3 t2=>k t3 t2) (λn z2=>cond (decide ((640:Int)<n)) (k 5 ([]:List AS)) (Q8 (λout=>cond ((List.all out Fm)&&decide (List.length out<13)) (let l:=(WA out);k 0 l) none) z2.2.2 (List.length z2.2.2:Int) 0 ([]:List AS))) 0 z.2.2 (List.length z.2.2:Int) 0 z)))
noncomputable def Agc:En:=⟨156,.spec (sg [FN] [] [BN,Aa] Lo Q9),pf Q3 [Ag9,Agb] [.tmp 2,.tmp 3] Tryz.func156⟩
abbrev Agd:={β:Type}->Al->Al->(Bool->Option β)->Option β
noncomputable def n5:List En:=[AcB]
abbrev n6(β:Type):=Bool->Option β
abbrev n7(β:Type):=Unit->Option β
abbrev WP(β:Type):=Al->Al->Int->Int->Option β
noncomputable def n8:Pc:=⟨32,0,AA 58 (Ar Tryz.f36),⟨0,[1,2,15,16,17],[Gw,(false,[.fn 37 []]),Gw,Aa,Aa],[]⟩,[(.ret,⟨0,[6],[AC],[]⟩),(.exit 0,⟨0,[],[],[]⟩)]⟩
def QA{β:Type}(rec:WP β)(k1:n6 β)(k2:n7 β):WP β:=λs2 t15 t16 t17=>cond (decide (t17<t16)) (cond (decide (0<=t17)&&decide (t17<(List.length t15:Int))) (let e:=List.getD t15 (Int.toNat t17) (([]:List UInt8),(0,([]:List Int)));cond (decide (0<=t17)&&decide (t17<(List.length s2:Int))) (let e2:=List.getD s2 (Int.toNat t17) (([]:List UInt8),(0,([]:List Int)));Po e e2 (λrsameCalendar=>cond (!rsameCalendar) (k1 false) (rec s2 t15 t16 (IntKind.i64.wrap (t17+(1:Int)))))) none) none) (k2 ())
def MB(m:Nat){β:Type}(k1:n6 β)(k2:n7 β):WP β:=Ce (λr=>QA r k1 k2) none m
theorem n9{β:Type}(i:Nat)(k1 k2):MB (β:=β) (i+1) k1 k2=QA (MB i k1 k2) k1 k2:=rfl
def WQ{β:Type}:=hid (MB (β:=β) fuel)
noncomputable def Age:Pb:=⟨58,n8,λ_=>WQ,pl (p:=n8) n5 [] (g:=λi _=>MB i)⟩
def QB:Agd:=hid λs1 s2 k=>cond (!decide ((List.length s1:Int)=(List.length s2:Int))) (k false) (WQ (λt6=>k t6) (λ_=>k true) s2 s1 (List.length s1:Int) 0)
noncomputable def Agf:En:=⟨36,.spec (sg [Gw,Gw,(false,[.fn 37 []])] [] [AC] [] QB),pf n5 [Age] [.tmp 6] Tryz.func36⟩
abbrev Agg:={β:Type}->B3->(Int->Option β)->Option β
noncomputable def nD:List En:=[Afu]
abbrev nE(β:Type):=Int->Option β
abbrev nF(β:Type):=Unit->Option β
abbrev WR(β:Type):=B3->Int->Int->Option β
noncomputable def nG:Pc:=⟨19,0,AA 26 (Ar Tryz.f124),⟨0,[0,1,7,8],[Dt,(false,[.fn 92 []]),Aa,Aa],[]⟩,[(.ret,⟨0,[4],[Aa],[]⟩),(.exit 0,⟨0,[],[],[]⟩)]⟩
def QC{β:Type}(rec:WR β)(k1:nE β)(k2:nF β):WR β:=λs t7 t8=>cond (decide (t8<t7)) (cond (decide (0<=t8)&&decide (t8<(List.length s:Int))) (let e:=List.getD s (Int.toNat t8) 0;Wz e (λrcheckCalendar1=>cond rcheckCalendar1 (k1 t8) (rec s t7 (IntKind.i64.wrap (t8+(1:Int)))))) none) (k2 ())
def MC(m:Nat){β:Type}(k1:nE β)(k2:nF β):WR β:=Gz (λr=>QC r k1 k2) none m
theorem nH{β:Type}(i:Nat)(k1 k2):MC (β:=β) (i+1) k1 k2=QC (MC i k1 k2) k1 k2:=rfl
def WS{β:Type}:=hid (MC (β:=β) fuel)
noncomputable def Agh:Pb:=⟨26,nG,λ_=>WS,pl (p:=nG) nD [] (g:=λi _=>MC i)⟩
def WT:Agg:=hid λs k=>WS (λt4=>k t4) (λ_=>k (-1)) s (List.length s:Int) 0
noncomputable def Agi:En:=⟨124,.spec (sg [Dt,(false,[.fn 92 []])] [] [Aa] [] WT),pf nD [Agh] [.tmp 4] Tryz.func124⟩
abbrev Agj:={β:Type}->B3->Au->(Int->Au->Option β)->Option β
noncomputable def nI:List En:=[Aby]
abbrev nJ(β:Type):=Int->Au->Option β
abbrev nK(β:Type):=Au->Option β
abbrev WU(β:Type):=B3->Int->Int->Au->Option β
noncomputable def nL:Pc:=⟨19,1,AA 26 (Ar Tryz.f124),⟨1,[0,1,7,8],[Dt,(false,[.fn 126 [0]]),Aa,Aa],[BD]⟩,[(.ret,⟨1,[4],[Aa],[BD]⟩),(.exit 0,⟨1,[],[],[BD]⟩)]⟩
def QD{β:Type}(rec:WU β)(k1:nJ β)(k2:nK β):WU β:=λs t7 t8 b0_=>cond (decide (t8<t7)) (cond (decide (0<=t8)&&decide (t8<(List.length s:Int))) (let e:=List.getD s (Int.toNat t8) 0;UE e b0_ (λrcheckLayer1 mrcheckLayer1=>cond rcheckLayer1 (k1 t8 mrcheckLayer1) (rec s t7 (IntKind.i64.wrap (t8+(1:Int))) mrcheckLayer1))) none) (k2 b0_)
def MD(m:Nat){β:Type}(k1:nJ β)(k2:nK β):WU β:=Ce (λr=>QD r k1 k2) none m
theorem nM{β:Type}(i:Nat)(k1 k2):MD (β:=β) (i+1) k1 k2=QD (MD i k1 k2) k1 k2:=rfl
def WV{β:Type}:=hid (MD (β:=β) fuel)
noncomputable def Agk:Pb:=⟨26,nL,λ_=>WV,pl (p:=nL) nI [] (g:=λi _=>MD i)⟩
def WW:Agj:=hid λs b0_ k=>WV (λt4 b0_2=>k t4 b0_2) (λb0_2=>k (-1) b0_2) s (List.length s:Int) 0 b0_
noncomputable def Agl:En:=⟨124,.spec (sg [Dt,(false,[.fn 126 [0]])] [BD] [Aa] [BD] WW),pf nI [Agk] [.tmp 4] Tryz.func124⟩
abbrev Agm:={β:Type}->AV->(An->Int->Option β)->Option β
noncomputable def nN:List En:=[AfY,AaC,AaG,Aay]
abbrev nO(β:Type):=An->Int->Option β
abbrev nQ(β:Type):=B3->Option β
abbrev WX(β:Type):=AV->Int->Int->B3->Option β
noncomputable def nR:Pc:=⟨30,0,AA 58 (Ar Tryz.f27),⟨0,[4,9,10,11],[As,Hk,Aa,Aa],[.cells 134 [.bself 0,.rowh 1],.row 5 (.int .u8)]⟩,[(.ret,⟨0,[2,3],[AP,Aa],[]⟩),(.exit 0,⟨0,[4],[As],[.cells 134 [.bself 0,.rowh 1],.row 5 (.int .u8)]⟩)]⟩
def QE{β:Type}(rec:WX β)(k1:nO β)(k2:nQ β):WX β:=λt9 t10 t11 b1_=>cond (decide (t11<t10)) (cond (decide (0<=t11)&&decide (t11<(List.length t9:Int))) (let e:=List.getD t9 (Int.toNat t11) (0,([]:List AR));Q2 e (λrwritten rwritten2=>cond (!decide (rwritten2=(0:Int))) (k1 ([]:List UInt8) rwritten2) (cond (decide (List.length rwritten+List.length ([10]:List UInt8)<=9223372036854775807)) (cond (decide (List.length b1_+List.length (rwritten++([10]:List UInt8))<=140737488355328)) (let l:=(b1_++Bt (rwritten++([10]:List UInt8)));rec t9 t10 (IntKind.i64.wrap (t11+(1:Int))) l) none) none))) none) (k2 b1_)
def ME(m:Nat){β:Type}(k1:nO β)(k2:nQ β):WX β:=Ce (λr=>QE r k1 k2) none m
theorem nS{β:Type}(i:Nat)(k1 k2):ME (β:=β) (i+1) k1 k2=QE (ME i k1 k2) k1 k2:=rfl
def WY{β:Type}:=hid (ME (β:=β) fuel)
noncomputable def Agn:Pb:=⟨58,nR,λ_=>WY,pl (p:=nR) nN [] (g:=λi _=>ME i)⟩
def QF:Agm:=hid λl k=>WY (λt2 t3=>k t2 t3) (λb1_=>cond (decide ((65536:Int)<(List.length b1_:Int))) (k ([]:List UInt8) 5) (cond (F7 b1_) (k (D1 b1_) 0) none)) l (List.length l:Int) 0 ([]:List Int)
noncomputable def Ago:En:=⟨27,.spec (sg [Hk] [] [AP,Aa] [] QF),pf nN [Agn] [.tmp 2,.tmp 3] Tryz.func27⟩
abbrev Agp:={β:Type}->An->(AR->Int->Option β)->Option β
def I1:Agp:=hid λword k=>cond (decide (word=([]:List UInt8))) (k cV 2) (GB word (λrform rform2 rform3=>cond (!rform3) (k cV 2) (let t:=(decide (rform=0));cond t (k (rform,(word,0)) 0) (k (rform,(([]:List UInt8),rform2)) 0))))
noncomputable def Agq:En:=⟨106,.spec (sg [AP] [] [Et,Aa] [] I1),pf [Ag7] [] [.cell 2 83,.tmp 3] Tryz.func106⟩
abbrev Agr:={β:Type}->At->(Int->Be->Option β)->Option β
noncomputable def WZ:List En:=[UN,Agc]
abbrev nT(β:Type):=Int->Be->Option β
abbrev nU(β:Type):=Be->Option β
abbrev Xa(β:Type):=Int->Int->Int->Be->Be->Option β
noncomputable def Xb:Pc:=⟨79,0,AA 506 (Ar Tryz.f119),⟨0,[6,7,22,23,24],[BN,Aa,Gy,Aa,Aa],dG⟩,[(.ret,⟨0,[2,3],[BN,Aa],Ul⟩),(.exit 0,⟨0,[6],[BN],Ul⟩)]⟩
abbrev nV(β:Type):=Int->Int->Int->Be->Be->Option β
abbrev Ags(β:Type):=Int->Int->Int->Be->AS->Be->Option β
noncomputable def nW:Pc:=⟨79,0,AA 463 (C4 Xb.c),⟨0,[6,9,10,22,23,24],[BN,Bf,Aa,(false,[.rowh 2]),Aa,Aa],[.row 233 (.prod (.int .i64) (.int .i64)),.cells 231 [.data (.prod (.int .i64) (.int .i64))],.row 231 (.prod (.int .i64) (.int .i64))]⟩,[(.normal,⟨0,[6,7,22,23,24],[BN,Aa,Gy,Aa,Aa],dG⟩)]⟩
def Xc{β:Type}(k1:nV β):Ags β:=λat_ t23 t24 out o t22=>let l:=([(at_,o.2)]:List AS);cond (decide ((List.length out+List.length l)*16<=AG)) (let l2:=(out++l);k1 o.2 t23 t24 l2 t22) none
def MF{β:Type}:=hid (Xc (β:=β))
noncomputable def Agt:Pb:=⟨463,nW,λ_=>MF,pe (p:=nW) WZ [] 463 (g:=λ_=>Xc)⟩
def QG{β:Type}(rec:Xa β)(k1:nT β)(k2:nU β):Xa β:=λnow t23 t24 out t22=>cond (decide (t24<t23)) (cond (decide (0<=t24)&&decide (t24<(List.length t22:Int))) (cond (decide (((List.getD t22 (Int.toNat t24) (0,0)).2)=now)) (rec now t23 (IntKind.i64.wrap (t24+(1:Int))) out t22) (let at_:=(IntKind.i64.wrap (((List.getD t22 (Int.toNat t24) (0,0)).1)-now));let change:=(IntKind.i64.wrap (((List.getD t22 (Int.toNat t24) (0,0)).2)-now));cond (decide ((86400:Int)<=change)) (k1 6 ([]:List AS)) (cond (decide (change<=(-86400))) (k1 6 ([]:List AS)) (EM at_ 0 8589934592 (λrin=>cond (!rin) (k1 6 ([]:List AS)) (cond (decide ((0:Int)<(List.length out:Int))) (cond (decide (0<=(IntKind.i64.wrap ((List.length out:Int)-(1:Int))))&&decide ((IntKind.i64.wrap ((List.length out:Int)-(1:Int)))<(List.length out:Int))) (cond (decide (at_<(IntKind.i64.wrap (((List.getD out (Int.toNat (IntKind.i64.wrap ((List.length out:Int)-(1:Int)))) (0,0)).1)+604800)))) (k1 6 ([]:List AS)) (MF (λnow2 t232 t242 out2 t222=>rec now2 t232 (IntKind.i64.wrap (t242+(1:Int))) out2 t222) at_ t23 t24 out (List.getD t22 (Int.toNat t24) (0,0)) t22)) none) (MF (λnow2 t232 t242 out2 t222=>rec now2 t232 (IntKind.i64.wrap (t242+(1:Int))) out2 t222) at_ t23 t24 out (List.getD t22 (Int.toNat t24) (0,0)) t22))))))) none) (k2 out)
def MG(m:Nat){β:Type}(k1:nT β)(k2:nU β):Xa β:=G0 (λr=>QG r k1 k2) none m
theorem nX{β:Type}(i:Nat)(k1 k2):MG (β:=β) (i+1) k1 k2=QG (MG i k1 k2) k1 k2:=rfl
def Xd{β:Type}:=hid (MG (β:=β) fuel)
noncomputable def Agu:Pb:=⟨506,Xb,λ_=>Xd,pl (p:=Xb) WZ [Agt] (g:=λi _=>MG i)⟩
def QH:Agr:=hid λz k=>Q9 z (λroccurrences lroccurrences=>cond (!decide (roccurrences=0)) (k roccurrences ([]:List AS)) (Xd (λt3 t2=>k t3 t2) (λout=>k 0 out) z.2.1 (List.length lroccurrences:Int) 0 ([]:List AS) lroccurrences))
noncomputable def Agv:En:=⟨119,.spec (sg [FN] [] [BN,Aa] Ul QH),pf WZ [Agu] [.tmp 2,.tmp 3] Tryz.func119⟩
abbrev Agw:={β:Type}->B3->(Bool->Option β)->Option β
def QI:Agw:=hid λs k=>WT s (λrIndexFuncintint=>let t:=(decide ((0:Int)<=rIndexFuncintint));k t)
noncomputable def Agx:En:=⟨91,.spec (sg [Dt,(false,[.fn 92 []])] [] [AC] [] QI),pf [Agi] [] [.tmp 4] Tryz.func91⟩
abbrev Agy:={β:Type}->B3->Au->(Bool->Au->Option β)->Option β
def QJ:Agy:=hid λs b0_ k=>WW s b0_ (λrIndexFuncintint mrIndexFuncintint=>let t:=(decide ((0:Int)<=rIndexFuncintint));k t mrIndexFuncintint)
noncomputable def Agz:En:=⟨91,.spec (sg [Dt,(false,[.fn 126 [0]])] [BD] [AC] [BD] QJ),pf [Agl] [] [.tmp 4] Tryz.func91⟩
abbrev AgA:={β:Type}->Au->AF->(Int->Option β)->Option β
noncomputable def nY:List En:=[L2,Agx]
abbrev nZ(β:Type):=Int->Option β
abbrev o0(β:Type):=Unit->Option β
abbrev Xe(β:Type):=Int->Int->AF->Option β
noncomputable def o5:Pc:=⟨46,0,AA 58 (Ar Tryz.f52),⟨0,[3,25,26],[As,Aa,Aa],[.cells 79 [.data CE]]⟩,[(.ret,⟨0,[4],[Aa],[]⟩),(.exit 1,⟨0,[],[],[]⟩)]⟩
def QK{β:Type}(rec:Xe β)(k1:nZ β)(k2:o0 β):Xe β:=λt25 t26 x=>cond (decide (t26<t25)) (cond (decide ((0:Int)<t26)) (cond (decide (0<=t26)&&decide (t26<(List.length x.2.2:Int))) (let e:=List.getD x.2.2 (Int.toNat t26) 0;cond (decide (0<=(IntKind.i64.wrap (t26-(1:Int))))&&decide ((IntKind.i64.wrap (t26-(1:Int)))<(List.length x.2.2:Int))) (let e2:=List.getD x.2.2 (Int.toNat (IntKind.i64.wrap (t26-(1:Int)))) 0;cond (decide (e<=e2)) (k1 6) (rec t25 (IntKind.i64.wrap (t26+(1:Int))) x)) none) none) (rec t25 (IntKind.i64.wrap (t26+(1:Int))) x)) (k2 ())
def MH(m:Nat){β:Type}(k1:nZ β)(k2:o0 β):Xe β:=Gz (λr=>QK r k1 k2) none m
theorem o6{β:Type}(i:Nat)(k1 k2):MH (β:=β) (i+1) k1 k2=QK (MH i k1 k2) k1 k2:=rfl
def QL{β:Type}:=hid (MH (β:=β) fuel)
noncomputable def AgB:Pb:=⟨58,o5,λ_=>QL,pl (p:=o5) nY [] (g:=λi _=>MH i)⟩
def QM:AgA:=hid λc x k=>FO x.2.1 (List.length c.1:Int) (λrindex=>cond (!rindex) (k 3) (let t:=(decide ((64:Int)<(List.length x.2.2:Int)));cond t (k 5) (QI x.2.2 (λrContainsFuncintint=>cond rContainsFuncintint (k 1) (QL (λt4=>k t4) (λ_=>k 0) (List.length x.2.2:Int) 0 x)))))
noncomputable def AgC:En:=⟨52,.spec (sg [Eb,Ig] [] [Aa] [] QM),pf nY [AgB] [.tmp 4] Tryz.func52⟩
abbrev AgD:={β:Type}->An->(Int->Bn->Option β)->Option β
noncomputable def Xf:List En:=[Agq,Abl,f4]
abbrev Xg(β:Type):=Int->Bn->Option β
abbrev Xh(β:Type):=An->Option β
abbrev Xi(β:Type):=An->Int->Int->Option β
noncomputable def o7:Pc:=⟨56,0,AA 58 (Ar Tryz.f76),⟨0,[0,14,15],[AP,Aa,Aa],[]⟩,[(.ret,⟨0,[2,3],[BN,Aa],Ij⟩),(.exit 0,⟨0,[0],[AP],[]⟩)]⟩
abbrev Xj(β:Type):=Int->Bn->Option β
abbrev Xk(β:Type):=Bn->Option β
abbrev Xl(β:Type):=Int->Int->Bn->(List An)->Option β
noncomputable def o8:Pc:=⟨56,0,AA 506 (Ar Tryz.f76),⟨0,[5,36,37,38],[BN,Gy,Aa,Aa],[.row 83 C6,.row 9 .str]⟩,[(.ret,⟨0,[2,3],[BN,Aa],Ij⟩),(.exit 2,⟨0,[5],[BN],Ij⟩)]⟩
def QN{β:Type}(rec:Xi β)(k1:Xg β)(k2:Xh β):Xi β:=λtext t14 t15=>cond (decide (t15<t14)) (cond (decide (0<=t15)&&decide (t15<(List.length text:Int))) (cond (decide (((List.getD text (Int.toNat t15) 0).toNat:Int)<(32:Int))) (k1 2 ([]:List AR)) (cond (decide (0<=t15)&&decide (t15<(List.length text:Int))) (cond (decide ((126:Int)<((List.getD text (Int.toNat t15) 0).toNat:Int))) (k1 2 ([]:List AR)) (rec text t14 (IntKind.i64.wrap (t15+(1:Int))))) none)) none) (k2 text)
def MI(m:Nat){β:Type}(k1:Xg β)(k2:Xh β):Xi β:=Gz (λr=>QN r k1 k2) none m
theorem o9{β:Type}(i:Nat)(k1 k2):MI (β:=β) (i+1) k1 k2=QN (MI i k1 k2) k1 k2:=rfl
def QO{β:Type}:=hid (MI (β:=β) fuel)
noncomputable def AgE:Pb:=⟨58,o7,λ_=>QO,pl (p:=o7) Xf [] (g:=λi _=>MI i)⟩
def QP{β:Type}(rec:Xl β)(k1:Xj β)(k2:Xk β):Xl β:=λt37 t38 out t36=>cond (decide (t38<t37)) (cond (decide (0<=t38)&&decide (t38<(List.length t36:Int))) (let w:=(List.getD t36 (Int.toNat t38) ([]:List UInt8));I1 w (λrToken rToken2=>cond (!decide (rToken2=(0:Int))) (k1 rToken2 ([]:List AR)) (let l:=([rToken]:List AR);cond (decide ((List.length out+List.length l)*32<=AG)) (let l2:=(out++l);rec t37 (IntKind.i64.wrap (t38+(1:Int))) l2 t36) none))) none) (k2 out)
def MJ(m:Nat){β:Type}(k1:Xj β)(k2:Xk β):Xl β:=Ce (λr=>QP r k1 k2) none m
theorem oA{β:Type}(i:Nat)(k1 k2):MJ (β:=β) (i+1) k1 k2=QP (MJ i k1 k2) k1 k2:=rfl
def QQ{β:Type}:=hid (MJ (β:=β) fuel)
noncomputable def AgF:Pb:=⟨506,o8,λ_=>QQ,pl (p:=o8) Xf [] (g:=λi _=>MJ i)⟩
def I2:AgD:=hid λtext k=>cond (decide ((512:Int)<(List.length text:Int))) (k 5 ([]:List AR)) (QO (λt3 t2=>k t3 t2) (λtext2=>eX text2 ([35]:List UInt8) (λrCut rCut2 rCut3=>UC rCut (λlrFields=>QQ (λt3 t2=>k t3 t2) (λout=>k 0 out) (List.length lrFields:Int) 0 ([]:List AR) lrFields))) text (List.length text:Int) 0)
noncomputable def AgG:En:=⟨76,.spec (sg [AP] [] [BN,Aa] Ij I2),pf Xf [AgE,AgF] [.tmp 2,.tmp 3] Tryz.func76⟩
abbrev AgH:={β:Type}->At->(Int->Option β)->Option β
def Xm:AgH:=hid λz k=>QH z (λrTransitions lrTransitions=>k rTransitions)
noncomputable def AgI:En:=⟨84,.spec (sg [FN] [] [Aa] [] Xm),pf [Agv] [] [.tmp 2] Tryz.func84⟩
abbrev AgJ:={β:Type}->Au->AD->(Int->Option β)->Option β
noncomputable def Xn:List En:=[Wm,UD,L2,Agz,eU]
abbrev AgK(β:Type):=Int->Option β
abbrev AgL(β:Type):=Unit->Option β
abbrev AgM(β:Type):=Bool->AD->Option β
noncomputable def oB:Pc:=⟨91,0,AA 425983 (Ar Tryz.f97),⟨0,[3,69],[As,AC],[.cells 61 [.data Gt]]⟩,[(.ret,⟨0,[4],[Aa],[]⟩),(.normal,⟨0,[],[],[]⟩)]⟩
abbrev AgN(β:Type):=Int->Option β
abbrev AgO(β:Type):=Unit->Option β
abbrev AgP(β:Type):=Bool->Au->AD->Option β
noncomputable def oC:Pc:=⟨91,0,AA 103 (Ar Tryz.f97),⟨0,[2,3,13],[As,Bf,AC],[BD,.cells 61 [.data Gt]]⟩,[(.ret,⟨0,[4],[Aa],[]⟩),(.normal,⟨0,[],[],[]⟩)]⟩
def Xo{β:Type}(k1:AgK β)(k2:AgL β):AgM β:=λt69 l=>cond t69 (k1 3) (cond (decide (l.2.2.2.2.2.2.2.2=(0:Int))) (let t:=(!decide (l.2.2.2.2.2.2.2.1=(0:Int)));cond t (k1 1) (k2 ())) (k2 ()))
def MK{β:Type}:=hid (Xo (β:=β))
noncomputable def AgQ:Pb:=⟨425983,oB,λ_=>MK,pe (p:=oB) Xn [] 425983 (g:=λ_=>Xo)⟩
def Xp{β:Type}(k1:AgN β)(k2:AgO β):AgP β:=λt13 c l=>cond t13 (k1 1) (let t:=(decide ((List.length l.2.2.2.2.2.1:Int)=(0:Int)));cond t (k1 7) (let t2:=(decide ((12:Int)<(List.length l.2.2.2.2.2.1:Int)));cond t2 (k1 5) (QJ l.2.2.2.2.2.1 c (λrContainsFuncintint mrContainsFuncintint=>cond rContainsFuncintint (k1 3) (L3 l.2.2.2.2.2.2.1 (λrCheck=>let t3:=(!decide (rCheck=0));cond t3 (k1 8) (G5 l.2.2.2.2.2.2.2.2 0 2 (λrin=>cond (!rin) (k1 1) (cond (!decide (l.2.2.2.2.2.2.2.2=(0:Int))) (FO l.2.2.2.2.2.2.2.1 (List.length mrContainsFuncintint.2.2.1:Int) (λrindex=>MK (λt4=>k1 t4) (λ_=>k2 ()) (!rindex) l)) (MK (λt4=>k1 t4) (λ_=>k2 ()) false l))))))))))
def Hr{β:Type}:=hid (Xp (β:=β))
noncomputable def AgR:Pb:=⟨103,oC,λ_=>Hr,pe (p:=oC) Xn [AgQ] 103 (g:=λ_=>Xp)⟩
def QR:AgJ:=hid λc l k=>FO l.2.1 (List.length c.1:Int) (λrindex=>cond (!rindex) (k 3) (cond (decide (l.2.2.1.1<(1:Int))) (Hr (λt4=>k t4) (λ_=>k 0) true c l) (JB l.2.2.1.1 (λrday=>cond (!rday) (Hr (λt4=>k t4) (λ_=>k 0) true c l) (G5 l.2.2.1.2 0 86399 (λrin=>cond (!rin) (Hr (λt4=>k t4) (λ_=>k 0) true c l) (G5 l.2.2.2.1 0 2 (λrin2=>cond (!rin2) (Hr (λt4=>k t4) (λ_=>k 0) true c l) (G5 l.2.2.2.2.1 1 400 (λrin3=>Hr (λt4=>k t4) (λ_=>k 0) (!rin3) c l))))))))))
noncomputable def AgS:En:=⟨97,.spec (sg [Eb,Ih] [] [Aa] [] QR),pf Xn [AgR] [.tmp 4] Tryz.func97⟩
abbrev AgT:={β:Type}->Ap->Ap->(Bool->Option β)->Option β
noncomputable def oD:List En:=[Ae1]
abbrev oE(β:Type):=Bool->Option β
abbrev oF(β:Type):=Unit->Option β
abbrev Xq(β:Type):=Ap->Ap->Int->Int->Option β
noncomputable def oG:Pc:=⟨32,0,AA 58 (Ar Tryz.f38),⟨0,[1,2,15,16,17],[Fk,(false,[.fn 39 []]),Fk,Aa,Aa],[]⟩,[(.ret,⟨0,[6],[AC],[]⟩),(.exit 0,⟨0,[],[],[]⟩)]⟩
def QS{β:Type}(rec:Xq β)(k1:oE β)(k2:oF β):Xq β:=λs2 t15 t16 t17=>cond (decide (t17<t16)) (cond (decide (0<=t17)&&decide (t17<(List.length t15:Int))) (let e:=List.getD t15 (Int.toNat t17) (([]:List UInt8),(([]:List AD),([]:List AO)));cond (decide (0<=t17)&&decide (t17<(List.length s2:Int))) (let e2:=List.getD s2 (Int.toNat t17) (([]:List UInt8),(([]:List AD),([]:List AO)));PT e e2 (λrsameSchedule=>cond (!rsameSchedule) (k1 false) (rec s2 t15 t16 (IntKind.i64.wrap (t17+(1:Int)))))) none) none) (k2 ())
def ML(m:Nat){β:Type}(k1:oE β)(k2:oF β):Xq β:=Ce (λr=>QS r k1 k2) none m
theorem oH{β:Type}(i:Nat)(k1 k2):ML (β:=β) (i+1) k1 k2=QS (ML i k1 k2) k1 k2:=rfl
def Xr{β:Type}:=hid (ML (β:=β) fuel)
noncomputable def AgU:Pb:=⟨58,oG,λ_=>Xr,pl (p:=oG) oD [] (g:=λi _=>ML i)⟩
def QT:AgT:=hid λs1 s2 k=>cond (!decide ((List.length s1:Int)=(List.length s2:Int))) (k false) (Xr (λt6=>k t6) (λ_=>k true) s2 s1 (List.length s1:Int) 0)
noncomputable def AgV:En:=⟨38,.spec (sg [Fk,Fk,(false,[.fn 39 []])] [] [AC] [] QT),pf oD [AgU] [.tmp 6] Tryz.func38⟩
abbrev AgW:={β:Type}->Au->Au->(Bool->Option β)->Option β
def QU:AgW:=hid λa b k=>P7 a.1 b.1 (λrZone=>cond rZone (Qo a.2.1 b.2.1 (λrPerson=>cond rPerson (QB a.2.2.1 b.2.2.1 (λrCalendar=>cond rCalendar (QT a.2.2.2 b.2.2.2 (λrSchedule=>k rSchedule)) (k false))) (k false))) (k false))
noncomputable def QV:En:=⟨13,.spec (sg [Eb,Eb] [] [AC] [] QU),pf [Agf,Afn,AgV,Adc] [] [.tmp 4] Tryz.func13⟩
abbrev AgX:={β:Type}->An->(Int->Int->AV->Option β)->Option β
noncomputable def Xs:List En:=[AgG,dV,Qj]
abbrev Xt(β:Type):=Int->Int->AV->Option β
abbrev Xu(β:Type):=AV->Option β
abbrev Xv(β:Type):=Int->Int->AV->(List An)->Option β
noncomputable def Xw:Pc:=⟨54,0,AA 58 (Ar Tryz.f30),⟨0,[2,13,14,15],[BN,Gy,Aa,Aa],[.row 42 (.prod (.int .i64) (.slice C6)),.row 9 .str]⟩,[(.ret,⟨0,[2,3,4],[BN,Aa,Aa],OJ⟩),(.exit 0,⟨0,[2],[BN],OJ⟩)]⟩
abbrev oI(β:Type):=Int->Int->AV->Option β
abbrev oJ(β:Type):=Int->Int->AV->(List An)->Option β
abbrev AgY(β:Type):=Int->Int->Int->Int->AV->Bn->(List An)->Option β
noncomputable def oK:Pc:=⟨54,0,AA 231 (C4 Xw.c),⟨0,[2,5,7,8,13,14,15],[BN,Aa,Gy,Aa,(false,[.rowh 2]),Aa,Aa],[.row 42 (.prod (.int .i64) (.slice C6)),.row 83 C6,.row 9 .str]⟩,[(.ret,⟨0,[2,3,4],[BN,Aa,Aa],OJ⟩),(.normal,⟨0,[2,13,14,15],[BN,Gy,Aa,Aa],[.row 42 (.prod (.int .i64) (.slice C6)),.row 9 .str]⟩)]⟩
def Xx{β:Type}(k1:oI β)(k2:oJ β):AgY β:=λi_ e t14 t15 l t t13=>cond (!decide (e=0)) (let line:=(IntKind.i64.wrap (i_+1));k1 line e ([]:List FJ)) (cond (decide ((0:Int)<(List.length t:Int))) (let l2:=([((IntKind.i64.wrap (i_+1)),t)]:List FJ);cond (decide ((List.length l+List.length l2)*32<=AG)) (let l3:=(l++l2);k2 t14 t15 l3 t13) none) (k2 t14 t15 l t13))
def Hs{β:Type}:=hid (Xx (β:=β))
noncomputable def AgZ:Pb:=⟨231,oK,λ_=>Hs,pe (p:=oK) Xs [] 231 (g:=λ_=>Xx)⟩
def QW{β:Type}(rec:Xv β)(k1:Xt β)(k2:Xu β):Xv β:=λt14 t15 l t13=>cond (decide (t15<t14)) (cond (decide (0<=t15)&&decide (t15<(List.length t13:Int))) (let s:=(List.getD t13 (Int.toNat t15) ([]:List UInt8));I2 s (λrLine lrLine=>cond (decide (rLine=0)) (cond (decide ((0:Int)<(List.length lrLine:Int))) (BP lrLine (λrForm=>cond (!rForm) (Hs (λline e l2=>k1 line e l2) (λt142 t152 l2 t132=>rec t142 (IntKind.i64.wrap (t152+(1:Int))) l2 t132) t15 2 t14 t15 l lrLine t13) (Hs (λline e l2=>k1 line e l2) (λt142 t152 l2 t132=>rec t142 (IntKind.i64.wrap (t152+(1:Int))) l2 t132) t15 rLine t14 t15 l lrLine t13))) (Hs (λline e l2=>k1 line e l2) (λt142 t152 l2 t132=>rec t142 (IntKind.i64.wrap (t152+(1:Int))) l2 t132) t15 rLine t14 t15 l lrLine t13)) (Hs (λline e l2=>k1 line e l2) (λt142 t152 l2 t132=>rec t142 (IntKind.i64.wrap (t152+(1:Int))) l2 t132) t15 rLine t14 t15 l lrLine t13))) none) (k2 l)
def Fo(m:Nat){β:Type}(k1:Xt β)(k2:Xu β):Xv β:=Ce (λr=>QW r k1 k2) none m
theorem oL{β:Type}(i:Nat)(k1 k2):Fo (β:=β) (i+1) k1 k2=QW (Fo i k1 k2) k1 k2:=rfl
def Xy{β:Type}:=hid (Fo (β:=β) fuel)
noncomputable def Ah0:Pb:=⟨58,Xw,λ_=>Xy,pl (p:=Xw) Xs [AgZ] (g:=λi _=>Fo i)⟩
def MM:AgX:=hid λtext k=>cond (decide ((65536:Int)<(List.length text:Int))) (k 0 5 ([]:List FJ)) (J1 text ([10]:List UInt8) (λlrSplit=>Xy (λline e l=>k line e l) (λl=>k 0 0 l) (List.length lrSplit:Int) 0 ([]:List FJ) lrSplit))
noncomputable def Ah1:En:=⟨30,.spec (sg [AP] [] [BN,Aa,Aa] OJ MM),pf Xs [Ah0] [.tmp 2,.tmp 3,.tmp 4] Tryz.func30⟩
abbrev Ah2:={β:Type}->AF->Au->(Int->Au->Option β)->Option β
def Xz:Ah2:=hid λx t1 k=>QM t1 x (λrcheckCalendar=>k rcheckCalendar t1)
noncomputable def Ah3:En:=⟨51,.spec (sg [Ig,As] [BD] [Aa] [BD] Xz),pf [AgC] [] [.tmp 3] Tryz.func51⟩
abbrev Ah4:={β:Type}->AD->Au->(Int->Au->Option β)->Option β
def X0:Ah4:=hid λl t1 k=>QR t1 l (λrcheckLayer=>k rcheckLayer t1)
noncomputable def Ah5:En:=⟨96,.spec (sg [Ih,As] [BD] [Aa] [BD] X0),pf [AgS] [] [.tmp 3] Tryz.func96⟩
abbrev Ah6:={β:Type}->Fi->Au->(Int->Au->Option β)->Option β
noncomputable def oM:List En:=[Abc,Ah5,Mj]
abbrev oN(β:Type):=Int->Au->Option β
abbrev oO(β:Type):=Au->Option β
abbrev X1(β:Type):=Fi->Int->Int->Au->(List DW)->Option β
noncomputable def oP:Pc:=⟨34,1,AA 58 (Ar Tryz.f94),⟨1,[1,2,7,13,14,15],[(false,[.fn 95 []]),(false,[.fn 96 [0]]),(false,[.maph 1]),If,Aa,Aa],Lp⟩,[(.ret,⟨1,[6],[Aa],[BD]⟩),(.exit 0,⟨1,[],[],[BD]⟩)]⟩
def QX{β:Type}(rec:X1 β)(k1:oN β)(k2:oO β):X1 β:=λt13 t14 t15 b0_ seen=>cond (decide (t15<t14)) (cond (decide (0<=t15)&&decide (t15<(List.length t13:Int))) (let e:=List.getD t13 (Int.toNat t15) (([]:List UInt8),(0,((0,0),(0,(0,(([]:List Int),(([]:List AS),(0,0))))))));UA e (λrcheckSchedule1=>Hq rcheckSchedule1 seen (λrname lrname=>cond (!decide (rname=0)) (k1 rname b0_) (X0 e b0_ (λrcheckSchedule2 mrcheckSchedule2=>cond (!decide (rcheckSchedule2=(0:Int))) (k1 rcheckSchedule2 mrcheckSchedule2) (rec t13 t14 (IntKind.i64.wrap (t15+(1:Int))) mrcheckSchedule2 lrname)))))) none) (k2 b0_)
def JM(m:Nat){β:Type}(k1:oN β)(k2:oO β):X1 β:=G0 (λr=>QX r k1 k2) none m
theorem oQ{β:Type}(i:Nat)(k1 k2):JM (β:=β) (i+1) k1 k2=QX (JM i k1 k2) k1 k2:=rfl
def X2{β:Type}:=hid (JM (β:=β) fuel)
noncomputable def Ah7:Pb:=⟨58,oP,λ_=>X2,pl (p:=oP) oM [] (g:=λi _=>JM i)⟩
def QY:Ah6:=hid λl b0_ k=>let m_:=([]:List DW);X2 (λt6 b0_2=>k t6 b0_2) (λb0_2=>k 0 b0_2) l (List.length l:Int) 0 b0_ m_
noncomputable def Ah8:En:=⟨94,.spec (sg [If,(false,[.fn 95 []]),(false,[.fn 96 [0]])] [BD] [Aa] [BD] QY),pf oM [Ah7] [.tmp 6] Tryz.func94⟩
abbrev Ah9:={β:Type}->Au->AK->(Int->Option β)->Option β
noncomputable def oS:List En:=[Af0,Ah8]
abbrev oU(β:Type):=Int->Option β
abbrev oV(β:Type):=Unit->Option β
abbrev X3(β:Type):=(List AO)->Int->Int->Au->Option β
noncomputable def oW:Pc:=⟨40,0,AA 250 (Ar Tryz.f56),⟨0,[2,27,28,29],[As,Jv,Aa,Aa],[BD]⟩,[(.ret,⟨0,[4],[Aa],[]⟩),(.exit 0,⟨0,[],[],[]⟩)]⟩
def QZ{β:Type}(rec:X3 β)(k1:oU β)(k2:oV β):X3 β:=λt27 t28 t29 c=>cond (decide (t29<t28)) (cond (decide (0<=t29)&&decide (t29<(List.length t27:Int))) (let e:=List.getD t27 (Int.toNat t29) (0,(0,(0,(0,0))));Qk c e (λrcheckEdit=>cond (!decide (rcheckEdit=0)) (k1 rcheckEdit) (rec t27 t28 (IntKind.i64.wrap (t29+(1:Int))) c))) none) (k2 ())
def MN(m:Nat){β:Type}(k1:oU β)(k2:oV β):X3 β:=Ce (λr=>QZ r k1 k2) none m
theorem oX{β:Type}(i:Nat)(k1 k2):MN (β:=β) (i+1) k1 k2=QZ (MN i k1 k2) k1 k2:=rfl
def Ra{β:Type}:=hid (MN (β:=β) fuel)
noncomputable def Aha:Pb:=⟨250,oW,λ_=>Ra,pl (p:=oW) oS [] (g:=λi _=>MN i)⟩
def Rb:Ah9:=hid λc s k=>cond (decide ((6:Int)<(List.length s.2.1:Int))) (k 5) (cond (decide ((48:Int)<(List.length s.2.2:Int))) (k 5) (QY s.2.1 c (λrLayer mrLayer=>cond (!decide (rLayer=0)) (k rLayer) (Ra (λt4=>k t4) (λ_=>k 0) s.2.2 (List.length s.2.2:Int) 0 mrLayer))))
noncomputable def Ahb:En:=⟨56,.spec (sg [Eb,Lj] [] [Aa] [] Rb),pf oS [Aha] [.tmp 4] Tryz.func56⟩
abbrev Ahc:={β:Type}->AK->Au->(Int->Au->Option β)->Option β
def X4:Ahc:=hid λs t1 k=>Rb t1 s (λrcheckSchedule=>k rcheckSchedule t1)
noncomputable def Ahd:En:=⟨55,.spec (sg [Lj,As] [BD] [Aa] [BD] X4),pf [Ahb] [] [.tmp 3] Tryz.func55⟩
abbrev Ahe:={β:Type}->Er->(Int->Option β)->Option β
noncomputable def oY:List En:=[Ab3]
abbrev oZ(β:Type):=Int->Option β
abbrev p4(β:Type):=Unit->Option β
abbrev X5(β:Type):=Er->Int->Int->Option β
noncomputable def p5:Pc:=⟨19,0,AA 26 (Ar Tryz.f120),⟨0,[0,1,7,8],[EL,(false,[.fn 86 []]),Aa,Aa],[]⟩,[(.ret,⟨0,[4],[Aa],[]⟩),(.exit 0,⟨0,[],[],[]⟩)]⟩
def Rc{β:Type}(rec:X5 β)(k1:oZ β)(k2:p4 β):X5 β:=λs t7 t8=>cond (decide (t8<t7)) (cond (decide (0<=t8)&&decide (t8<(List.length s:Int))) (let e:=List.getD s (Int.toNat t8) (0,(0,(0,(0,(0,(0,0))))));U5 e (λrcheckZone1=>cond rcheckZone1 (k1 t8) (rec s t7 (IntKind.i64.wrap (t8+(1:Int)))))) none) (k2 ())
def MO(m:Nat){β:Type}(k1:oZ β)(k2:p4 β):X5 β:=Gz (λr=>Rc r k1 k2) none m
theorem p6{β:Type}(i:Nat)(k1 k2):MO (β:=β) (i+1) k1 k2=Rc (MO i k1 k2) k1 k2:=rfl
def X6{β:Type}:=hid (MO (β:=β) fuel)
noncomputable def Ahf:Pb:=⟨26,p5,λ_=>X6,pl (p:=p5) oY [] (g:=λi _=>MO i)⟩
def X7:Ahe:=hid λs k=>X6 (λt4=>k t4) (λ_=>k (-1)) s (List.length s:Int) 0
noncomputable def Ahg:En:=⟨120,.spec (sg [EL,(false,[.fn 86 []])] [] [Aa] [] X7),pf oY [Ahf] [.tmp 4] Tryz.func120⟩
abbrev Ahh:={β:Type}->Er->(Bool->Option β)->Option β
def Rd:Ahh:=hid λs k=>X7 s (λrYearRule=>let t:=(decide ((0:Int)<=rYearRule));k t)
noncomputable def Ahi:En:=⟨85,.spec (sg [EL,(false,[.fn 86 []])] [] [AC] [] Rd),pf [Ahg] [] [.tmp 4] Tryz.func85⟩
abbrev Ahj:={β:Type}->At->(Int->Option β)->Option β
def JN:Ahj:=hid λz k=>Xm z (λrCheck=>cond (!decide (rCheck=0)) (k 8) (cond (!decide ((Int.tmod z.2.1 60)=0)) (k 8) (Rd z.2.2 (λrYearRule=>cond rYearRule (k 8) (k 0)))))
noncomputable def Ahk:En:=⟨46,.spec (sg [FN] [] [Aa] [] JN),pf [Ahi,AgI] [] [.tmp 2] Tryz.func46⟩
abbrev Ahl:={β:Type}->Am->(Int->Option β)->Option β
noncomputable def p7:List En:=[Aad,Ahk,Mj]
abbrev p8(β:Type):=Int->Option β
abbrev p9(β:Type):=Unit->Option β
abbrev X8(β:Type):=Am->Int->Int->(List DW)->Option β
noncomputable def pA:Pc:=⟨34,0,AA 58 (Ar Tryz.f44),⟨0,[1,2,7,13,14,15],[(false,[.fn 45 []]),(false,[.fn 46 []]),(false,[.maph 0]),Gx,Aa,Aa],[.map 112 .str .bool false]⟩,[(.ret,⟨0,[6],[Aa],[]⟩),(.exit 0,⟨0,[],[],[]⟩)]⟩
def Re{β:Type}(rec:X8 β)(k1:p8 β)(k2:p9 β):X8 β:=λt13 t14 t15 seen=>cond (decide (t15<t14)) (cond (decide (0<=t15)&&decide (t15<(List.length t13:Int))) (let e:=List.getD t13 (Int.toNat t15) (([]:List UInt8),(0,([]:List Bd)));Uq e (λrCheck1=>Hq rCheck1 seen (λrname lrname=>cond (!decide (rname=0)) (k1 rname) (JN e (λrcheckZone=>cond (!decide (rcheckZone=0)) (k1 rcheckZone) (rec t13 t14 (IntKind.i64.wrap (t15+(1:Int))) lrname)))))) none) (k2 ())
def JO(m:Nat){β:Type}(k1:p8 β)(k2:p9 β):X8 β:=Ce (λr=>Re r k1 k2) none m
theorem pB{β:Type}(i:Nat)(k1 k2):JO (β:=β) (i+1) k1 k2=Re (JO i k1 k2) k1 k2:=rfl
def X9{β:Type}:=hid (JO (β:=β) fuel)
noncomputable def Ahm:Pb:=⟨58,pA,λ_=>X9,pl (p:=pA) p7 [] (g:=λi _=>JO i)⟩
def Rf:Ahl:=hid λl k=>let m_:=([]:List DW);X9 (λt6=>k t6) (λ_=>k 0) l (List.length l:Int) 0 m_
noncomputable def Ahn:En:=⟨44,.spec (sg [Gx,(false,[.fn 45 []]),(false,[.fn 46 []])] [] [Aa] [] Rf),pf p7 [Ahm] [.tmp 6] Tryz.func44⟩
abbrev Aho:={β:Type}->Al->Au->(Int->Au->Option β)->Option β
noncomputable def pC:List En:=[Aaf,Ah3,Mj]
abbrev pD(β:Type):=Int->Au->Option β
abbrev pE(β:Type):=Au->Option β
abbrev XA(β:Type):=Al->Int->Int->Au->(List DW)->Option β
noncomputable def pF:Pc:=⟨34,1,AA 58 (Ar Tryz.f49),⟨1,[1,2,7,13,14,15],[(false,[.fn 50 []]),(false,[.fn 51 [0]]),(false,[.maph 1]),Gw,Aa,Aa],Lp⟩,[(.ret,⟨1,[6],[Aa],[BD]⟩),(.exit 0,⟨1,[],[],[BD]⟩)]⟩
def Rg{β:Type}(rec:XA β)(k1:pD β)(k2:pE β):XA β:=λt13 t14 t15 b0_ seen=>cond (decide (t15<t14)) (cond (decide (0<=t15)&&decide (t15<(List.length t13:Int))) (let e:=List.getD t13 (Int.toNat t15) (([]:List UInt8),(0,([]:List Int)));Ur e (λrCheck2=>Hq rCheck2 seen (λrname lrname=>cond (!decide (rname=0)) (k1 rname b0_) (Xz e b0_ (λrCheck3 mrCheck3=>cond (!decide (rCheck3=(0:Int))) (k1 rCheck3 mrCheck3) (rec t13 t14 (IntKind.i64.wrap (t15+(1:Int))) mrCheck3 lrname)))))) none) (k2 b0_)
def JP(m:Nat){β:Type}(k1:pD β)(k2:pE β):XA β:=G0 (λr=>Rg r k1 k2) none m
theorem pG{β:Type}(i:Nat)(k1 k2):JP (β:=β) (i+1) k1 k2=Rg (JP i k1 k2) k1 k2:=rfl
def XB{β:Type}:=hid (JP (β:=β) fuel)
noncomputable def Ahp:Pb:=⟨58,pF,λ_=>XB,pl (p:=pF) pC [] (g:=λi _=>JP i)⟩
def Rh:Aho:=hid λl b0_ k=>let m_:=([]:List DW);XB (λt6 b0_2=>k t6 b0_2) (λb0_2=>k 0 b0_2) l (List.length l:Int) 0 b0_ m_
noncomputable def Ahq:En:=⟨49,.spec (sg [Gw,(false,[.fn 50 []]),(false,[.fn 51 [0]])] [BD] [Aa] [BD] Rh),pf pC [Ahp] [.tmp 6] Tryz.func49⟩
abbrev Ahr:={β:Type}->Ap->Au->(Int->Au->Option β)->Option β
noncomputable def pH:List En:=[Aah,Ahd,Mj]
abbrev pI(β:Type):=Int->Au->Option β
abbrev pJ(β:Type):=Au->Option β
abbrev XC(β:Type):=Ap->Int->Int->Au->(List DW)->Option β
noncomputable def pK:Pc:=⟨34,1,AA 58 (Ar Tryz.f53),⟨1,[1,2,7,13,14,15],[(false,[.fn 54 []]),(false,[.fn 55 [0]]),(false,[.maph 1]),Fk,Aa,Aa],Lp⟩,[(.ret,⟨1,[6],[Aa],[BD]⟩),(.exit 0,⟨1,[],[],[BD]⟩)]⟩
def Ri{β:Type}(rec:XC β)(k1:pI β)(k2:pJ β):XC β:=λt13 t14 t15 b0_ seen=>cond (decide (t15<t14)) (cond (decide (0<=t15)&&decide (t15<(List.length t13:Int))) (let e:=List.getD t13 (Int.toNat t15) (([]:List UInt8),(([]:List AD),([]:List AO)));Us e (λrCheck4=>Hq rCheck4 seen (λrname lrname=>cond (!decide (rname=0)) (k1 rname b0_) (X4 e b0_ (λrCheck5 mrCheck5=>cond (!decide (rCheck5=(0:Int))) (k1 rCheck5 mrCheck5) (rec t13 t14 (IntKind.i64.wrap (t15+(1:Int))) mrCheck5 lrname)))))) none) (k2 b0_)
def JQ(m:Nat){β:Type}(k1:pI β)(k2:pJ β):XC β:=G0 (λr=>Ri r k1 k2) none m
theorem pL{β:Type}(i:Nat)(k1 k2):JQ (β:=β) (i+1) k1 k2=Ri (JQ i k1 k2) k1 k2:=rfl
def XD{β:Type}:=hid (JQ (β:=β) fuel)
noncomputable def Ahs:Pb:=⟨58,pK,λ_=>XD,pl (p:=pK) pH [] (g:=λi _=>JQ i)⟩
def Rj:Ahr:=hid λl b0_ k=>let m_:=([]:List DW);XD (λt6 b0_2=>k t6 b0_2) (λb0_2=>k 0 b0_2) l (List.length l:Int) 0 b0_ m_
noncomputable def Aht:En:=⟨53,.spec (sg [Fk,(false,[.fn 54 []]),(false,[.fn 55 [0]])] [BD] [Aa] [BD] Rj),pf pH [Ahs] [.tmp 6] Tryz.func53⟩
abbrev Ahu:={β:Type}->Au->(Int->Option β)->Option β
noncomputable def XE:List En:=[Ae5,Mj,Ahq,Aht,Ahn]
abbrev pM(β:Type):=Int->Option β
abbrev pN(β:Type):=Au->Option β
abbrev XF(β:Type):=Ak->Int->Int->Au->(List DW)->Option β
noncomputable def XG:Pc:=⟨72,0,AA 250 (Ar Tryz.f19),⟨0,[1,4,39,40,41],[As,(false,[.maph 1]),FM,Aa,Aa],Lp⟩,[(.ret,⟨0,[2],[Aa],[]⟩),(.exit 0,⟨0,[1],[As],[BD]⟩)]⟩
abbrev Ahv(β:Type):=Int->Option β
abbrev Ahw(β:Type):=Ak->Int->Int->Au->(List DW)->Option β
abbrev Ahx(β:Type):=Int->Ak->Int->Int->Au->(List DW)->Ay->Option β
noncomputable def pO:Pc:=⟨72,0,AA 231 (C4 XG.c),⟨0,[1,4,6,7,39,40,41],[As,(false,[.maph 1]),BY,Aa,FM,Aa,Aa],[BD,.map 112 .str .bool false,.cells 76 [.data Cz]]⟩,[(.ret,⟨0,[2],[Aa],[]⟩),(.normal,⟨0,[1,4,39,40,41],[As,(false,[.maph 1]),FM,Aa,Aa],Lp⟩)]⟩
def XH{β:Type}(k1:Ahv β)(k2:Ahw β):Ahx β:=λe t39 t40 t41 c seen p_=>cond (decide (e=0)) (PU c p_ (λrcheckPerson=>cond (!decide (rcheckPerson=0)) (k1 rcheckPerson) (k2 t39 t40 t41 c seen))) (cond (!decide (e=0)) (k1 e) (k2 t39 t40 t41 c seen))
def MP{β:Type}:=hid (XH (β:=β))
noncomputable def Ahy:Pb:=⟨231,pO,λ_=>MP,pe (p:=pO) XE [] 231 (g:=λ_=>XH)⟩
def Rk{β:Type}(rec:XF β)(k1:pM β)(k2:pN β):XF β:=λt39 t40 t41 c seen=>cond (decide (t41<t40)) (cond (decide (0<=t41)&&decide (t41<(List.length t39:Int))) (let e:=List.getD t39 (Int.toNat t41) (([]:List UInt8),(0,(([]:List AS),(0,(0,false)))));Hq e.1 seen (λrname lrname=>cond (decide (e.1=([110,111,98,111,100,121]:List UInt8))) (MP (λt2=>k1 t2) (λt392 t402 t412 c2 seen2=>rec t392 t402 (IntKind.i64.wrap (t412+(1:Int))) c2 seen2) 2 t39 t40 t41 c lrname e) (MP (λt2=>k1 t2) (λt392 t402 t412 c2 seen2=>rec t392 t402 (IntKind.i64.wrap (t412+(1:Int))) c2 seen2) rname t39 t40 t41 c lrname e))) none) (k2 c)
def JR(m:Nat){β:Type}(k1:pM β)(k2:pN β):XF β:=G0 (λr=>Rk r k1 k2) none m
theorem pP{β:Type}(i:Nat)(k1 k2):JR (β:=β) (i+1) k1 k2=Rk (JR i k1 k2) k1 k2:=rfl
def Rl{β:Type}:=hid (JR (β:=β) fuel)
noncomputable def Ahz:Pb:=⟨250,XG,λ_=>Rl,pl (p:=XG) XE [Ahy] (g:=λi _=>JR i)⟩
def JS:Ahu:=hid λc k=>cond (decide ((16:Int)<(List.length c.1:Int))) (k 5) (cond (decide ((32:Int)<(List.length c.2.1:Int))) (k 5) (cond (decide ((8:Int)<(List.length c.2.2.1:Int))) (k 5) (cond (decide ((12:Int)<(List.length c.2.2.2:Int))) (k 5) (Rf c.1 (λrZone=>cond (!decide (rZone=0)) (k rZone) (let m_:=([]:List DW);Rl (λt2=>k t2) (λc2=>Rh c2.2.2.1 c2 (λrCalendar mrCalendar=>cond (!decide (rCalendar=0)) (k rCalendar) (Rj mrCalendar.2.2.2 mrCalendar (λrSchedule mrSchedule=>k rSchedule)))) c.2.1 (List.length c.2.1:Int) 0 c m_))))))
noncomputable def pQ:En:=⟨19,.spec (sg [Eb] [] [Aa] [] JS),pf XE [Ahz] [.tmp 2] Tryz.func19⟩
abbrev AhA:={β:Type}->AV->(Au->Int->Int->Option β)->Option β
noncomputable def JT:List En:=[pQ,Af3,AcU,AfN,Af6,AfE,AfH,AfA,Aeb,Ae8,Abt,Aee,Abq,AaP,Qj]
abbrev Rm(β:Type):=Int->Int->Am->Ak->Al->Ap->Option β
abbrev Rn(β:Type):=Am->Ak->Al->Ap->Am->Ak->Al->Ap->Option β
abbrev XI(β:Type):=AV->Int->Int->Am->Ak->Al->Ap->Am->Ak->Al->Ap->Option β
noncomputable def XJ:Pc:=⟨58,0,AA 122 (Ar Tryz.f31),⟨0,[2,5,6,15,16,17],[As,Bf,(false,[.maph 2]),Hk,Aa,Aa],[.cells 32 [.trowh 3,.trowh 4,.trowh 5,.trowh 6],.cells 150 [.trowh 7,.trowh 8,.trowh 9,.trowh 10],.fmap 151 [([122,111,110,101],(107,1)),([114,117,108,101],(108,1)),([112,101,114,115,111,110],(109,1)),([113,117,105,101,116],(110,1)),([99,97,108,101,110,100,97,114],(111,1)),([100,97,121,115],(112,1)),([115,99,104,101,100,117,108,101],(113,1)),([108,97,121,101,114],(114,1)),([109,101,109,98,101,114],(115,1)),([111,110],(116,1)),([110,111,116],(117,1)),([111,110,108,121],(117,1)),([108,101,97,118,101],(118,1)),([111,118,101,114,114,105,100,101],(118,1)),([115,119,97,112],(118,1))],.tree 73 DZ,.tree 76 DX,.tree 79 Ea,.tree 56 DY,.tree 73 DZ,.tree 76 DX,.tree 79 Ea,.tree 56 DY]⟩,[(.ret,⟨0,[2,3,4],[As,Aa,Aa],dE⟩),(.exit 0,⟨0,[2,5],[As,Bf],[.cells 32 [.trowh 2,.trowh 3,.trowh 4,.trowh 5],.cells 150 [.trowh 6,.trowh 7,.trowh 8,.trowh 9],.tree 73 DZ,.tree 76 DX,.tree 79 Ea,.tree 56 DY,.tree 73 DZ,.tree 76 DX,.tree 79 Ea,.tree 56 DY]⟩)]⟩
abbrev pR(β:Type):=Int->Int->Am->Ak->Al->Ap->Option β
abbrev pS(β:Type):=AV->Int->Int->Am->Ak->Al->Ap->Am->Ak->Al->Ap->Option β
abbrev AhB(β:Type):=Int->AV->Int->Int->FJ->Am->Ak->Al->Ap->Am->Ak->Al->Ap->Option β
noncomputable def pT:Pc:=⟨58,0,AA 231 (C4 XJ.c),⟨0,[2,5,6,8,9,15,16,17],[As,Bf,(false,[.maph 2]),Eu,Aa,Hk,Aa,Aa],[.cells 32 [.trowh 4,.trowh 5,.trowh 6,.trowh 7],.cells 150 [.trowh 8,.trowh 9,.trowh 10,.trowh 11],.fmap 151 [([122,111,110,101],(107,1)),([114,117,108,101],(108,1)),([112,101,114,115,111,110],(109,1)),([113,117,105,101,116],(110,1)),([99,97,108,101,110,100,97,114],(111,1)),([100,97,121,115],(112,1)),([115,99,104,101,100,117,108,101],(113,1)),([108,97,121,101,114],(114,1)),([109,101,109,98,101,114],(115,1)),([111,110],(116,1)),([110,111,116],(117,1)),([111,110,108,121],(117,1)),([108,101,97,118,101],(118,1)),([111,118,101,114,114,105,100,101],(118,1)),([115,119,97,112],(118,1))],.cells 42 [.data (.prod (.int .i64) (.slice C6))],.tree 73 DZ,.tree 76 DX,.tree 79 Ea,.tree 56 DY,.tree 73 DZ,.tree 76 DX,.tree 79 Ea,.tree 56 DY]⟩,[(.ret,⟨0,[2,3,4],[As,Aa,Aa],dE⟩),(.normal,⟨0,[2,5,6,15,16,17],[As,Bf,(false,[.maph 2]),Hk,Aa,Aa],[.cells 32 [.trowh 3,.trowh 4,.trowh 5,.trowh 6],.cells 150 [.trowh 7,.trowh 8,.trowh 9,.trowh 10],.fmap 151 [([122,111,110,101],(107,1)),([114,117,108,101],(108,1)),([112,101,114,115,111,110],(109,1)),([113,117,105,101,116],(110,1)),([99,97,108,101,110,100,97,114],(111,1)),([100,97,121,115],(112,1)),([115,99,104,101,100,117,108,101],(113,1)),([108,97,121,101,114],(114,1)),([109,101,109,98,101,114],(115,1)),([111,110],(116,1)),([110,111,116],(117,1)),([111,110,108,121],(117,1)),([108,101,97,118,101],(118,1)),([111,118,101,114,114,105,100,101],(118,1)),([115,119,97,112],(118,1))],.tree 73 DZ,.tree 76 DX,.tree 79 Ea,.tree 56 DY,.tree 73 DZ,.tree 76 DX,.tree 79 Ea,.tree 56 DY]⟩)]⟩
def XK{β:Type}(k1:pR β)(k2:pS β):AhB β:=λe t15 t16 t17 s b4_ b5_ b6_ b7_ b8_ b9_ b10_ b11_=>cond (!decide (e=0)) (k1 s.1 e ([]:List At) ([]:List Ay) ([]:List AF) ([]:List AK)) (k2 t15 t16 t17 b4_ b5_ b6_ b7_ b8_ b9_ b10_ b11_)
def Df{β:Type}:=hid (XK (β:=β))
noncomputable def AhC:Pb:=⟨231,pT,λ_=>Df,Ie mixed (X:=⟨look tab,gam JT,false,false,false,false,BF,none,0,[]⟩) (p:=pT) AJ JT rfl [] 231 (g:=λ_=>XK) (by kernel_rfl) λ_ _=>by kernel_rfl⟩
def Dg{β:Type}(rec:XI β)(k1:Rm β)(k2:Rn β):XI β:=λt15 t16 t17 b3_ b4_ b5_ b6_ b7_ b8_ b9_ b10_=>cond (decide (t17<t16)) (cond (decide (0<=t17)&&decide (t17<(List.length t15:Int))) (let e:=List.getD t15 (Int.toNat t17) (0,([]:List AR));BP e.2 (λrForm=>cond (!rForm) (k1 e.1 2 ([]:List At) ([]:List Ay) ([]:List AF) ([]:List AK)) (cond (decide (0<=(0:Int))&&decide ((0:Int)<(List.length e.2:Int))) (let e2:=List.getD e.2 (Int.toNat 0) (0,(([]:List UInt8),0));cond (decide (([122,111,110,101]:List UInt8)=e2.2.1)) (L4 e.2 b7_ b8_ b9_ b10_ (λraddZone lraddZone lraddZone2 lraddZone3 lraddZone4=>Df (λline e3 b1_ b2_ b3_2 b4_2=>k1 line e3 b1_ b2_ b3_2 b4_2) (λt152 t162 t172 b3_2 b4_2 b5_2 b6_2 b7_2 b8_2 b9_2 b10_2=>rec t152 t162 (IntKind.i64.wrap (t172+(1:Int))) b3_2 b4_2 b5_2 b6_2 b7_2 b8_2 b9_2 b10_2) raddZone t15 t16 t17 e b3_ b4_ b5_ b6_ lraddZone lraddZone2 lraddZone3 lraddZone4)) (cond (decide (([114,117,108,101]:List UInt8)=e2.2.1)) (Mk e.2 b7_ b8_ b9_ b10_ (λraddRule lraddRule lraddRule2 lraddRule3 lraddRule4=>Df (λline e3 b1_ b2_ b3_2 b4_2=>k1 line e3 b1_ b2_ b3_2 b4_2) (λt152 t162 t172 b3_2 b4_2 b5_2 b6_2 b7_2 b8_2 b9_2 b10_2=>rec t152 t162 (IntKind.i64.wrap (t172+(1:Int))) b3_2 b4_2 b5_2 b6_2 b7_2 b8_2 b9_2 b10_2) raddRule t15 t16 t17 e b3_ b4_ b5_ b6_ lraddRule lraddRule2 lraddRule3 lraddRule4)) (cond (decide (([112,101,114,115,111,110]:List UInt8)=e2.2.1)) (JG e.2 b7_ b8_ b9_ b10_ (λraddPerson lraddPerson lraddPerson2 lraddPerson3 lraddPerson4=>Df (λline e3 b1_ b2_ b3_2 b4_2=>k1 line e3 b1_ b2_ b3_2 b4_2) (λt152 t162 t172 b3_2 b4_2 b5_2 b6_2 b7_2 b8_2 b9_2 b10_2=>rec t152 t162 (IntKind.i64.wrap (t172+(1:Int))) b3_2 b4_2 b5_2 b6_2 b7_2 b8_2 b9_2 b10_2) raddPerson t15 t16 t17 e b3_ b4_ b5_ b6_ lraddPerson lraddPerson2 lraddPerson3 lraddPerson4)) (cond (decide (([113,117,105,101,116]:List UInt8)=e2.2.1)) (Ml e.2 b7_ b8_ b9_ b10_ (λraddQuiet lraddQuiet lraddQuiet2 lraddQuiet3 lraddQuiet4=>Df (λline e3 b1_ b2_ b3_2 b4_2=>k1 line e3 b1_ b2_ b3_2 b4_2) (λt152 t162 t172 b3_2 b4_2 b5_2 b6_2 b7_2 b8_2 b9_2 b10_2=>rec t152 t162 (IntKind.i64.wrap (t172+(1:Int))) b3_2 b4_2 b5_2 b6_2 b7_2 b8_2 b9_2 b10_2) raddQuiet t15 t16 t17 e b3_ b4_ b5_ b6_ lraddQuiet lraddQuiet2 lraddQuiet3 lraddQuiet4)) (cond (decide (([99,97,108,101,110,100,97,114]:List UInt8)=e2.2.1)) (Mw e.2 b7_ b8_ b9_ b10_ (λraddCalendar lraddCalendar lraddCalendar2 lraddCalendar3 lraddCalendar4=>Df (λline e3 b1_ b2_ b3_2 b4_2=>k1 line e3 b1_ b2_ b3_2 b4_2) (λt152 t162 t172 b3_2 b4_2 b5_2 b6_2 b7_2 b8_2 b9_2 b10_2=>rec t152 t162 (IntKind.i64.wrap (t172+(1:Int))) b3_2 b4_2 b5_2 b6_2 b7_2 b8_2 b9_2 b10_2) raddCalendar t15 t16 t17 e b3_ b4_ b5_ b6_ lraddCalendar lraddCalendar2 lraddCalendar3 lraddCalendar4)) (cond (decide (([100,97,121,115]:List UInt8)=e2.2.1)) (LP e.2 b7_ b8_ b9_ b10_ (λraddDays lraddDays lraddDays2 lraddDays3 lraddDays4=>Df (λline e3 b1_ b2_ b3_2 b4_2=>k1 line e3 b1_ b2_ b3_2 b4_2) (λt152 t162 t172 b3_2 b4_2 b5_2 b6_2 b7_2 b8_2 b9_2 b10_2=>rec t152 t162 (IntKind.i64.wrap (t172+(1:Int))) b3_2 b4_2 b5_2 b6_2 b7_2 b8_2 b9_2 b10_2) raddDays t15 t16 t17 e b3_ b4_ b5_ b6_ lraddDays lraddDays2 lraddDays3 lraddDays4)) (cond (decide (([115,99,104,101,100,117,108,101]:List UInt8)=e2.2.1)) (L5 e.2 b7_ b8_ b9_ b10_ (λraddSchedule lraddSchedule lraddSchedule2 lraddSchedule3 lraddSchedule4=>Df (λline e3 b1_ b2_ b3_2 b4_2=>k1 line e3 b1_ b2_ b3_2 b4_2) (λt152 t162 t172 b3_2 b4_2 b5_2 b6_2 b7_2 b8_2 b9_2 b10_2=>rec t152 t162 (IntKind.i64.wrap (t172+(1:Int))) b3_2 b4_2 b5_2 b6_2 b7_2 b8_2 b9_2 b10_2) raddSchedule t15 t16 t17 e b3_ b4_ b5_ b6_ lraddSchedule lraddSchedule2 lraddSchedule3 lraddSchedule4)) (cond (decide (([108,97,121,101,114]:List UInt8)=e2.2.1)) (Mx e.2 b7_ b8_ b9_ b10_ (λraddLayer lraddLayer lraddLayer2 lraddLayer3 lraddLayer4=>Df (λline e3 b1_ b2_ b3_2 b4_2=>k1 line e3 b1_ b2_ b3_2 b4_2) (λt152 t162 t172 b3_2 b4_2 b5_2 b6_2 b7_2 b8_2 b9_2 b10_2=>rec t152 t162 (IntKind.i64.wrap (t172+(1:Int))) b3_2 b4_2 b5_2 b6_2 b7_2 b8_2 b9_2 b10_2) raddLayer t15 t16 t17 e b3_ b4_ b5_ b6_ lraddLayer lraddLayer2 lraddLayer3 lraddLayer4)) (cond (decide (([109,101,109,98,101,114]:List UInt8)=e2.2.1)) (M5 e.2 b7_ b8_ b9_ b10_ (λraddMember lraddMember lraddMember2 lraddMember3 lraddMember4=>Df (λline e3 b1_ b2_ b3_2 b4_2=>k1 line e3 b1_ b2_ b3_2 b4_2) (λt152 t162 t172 b3_2 b4_2 b5_2 b6_2 b7_2 b8_2 b9_2 b10_2=>rec t152 t162 (IntKind.i64.wrap (t172+(1:Int))) b3_2 b4_2 b5_2 b6_2 b7_2 b8_2 b9_2 b10_2) raddMember t15 t16 t17 e b3_ b4_ b5_ b6_ lraddMember lraddMember2 lraddMember3 lraddMember4)) (cond (decide (([111,110]:List UInt8)=e2.2.1)) (Mm e.2 b7_ b8_ b9_ b10_ (λraddWindow lraddWindow lraddWindow2 lraddWindow3 lraddWindow4=>Df (λline e3 b1_ b2_ b3_2 b4_2=>k1 line e3 b1_ b2_ b3_2 b4_2) (λt152 t162 t172 b3_2 b4_2 b5_2 b6_2 b7_2 b8_2 b9_2 b10_2=>rec t152 t162 (IntKind.i64.wrap (t172+(1:Int))) b3_2 b4_2 b5_2 b6_2 b7_2 b8_2 b9_2 b10_2) raddWindow t15 t16 t17 e b3_ b4_ b5_ b6_ lraddWindow lraddWindow2 lraddWindow3 lraddWindow4)) (cond (decide (([110,111,116]:List UInt8)=e2.2.1)) (I0 e.2 b7_ b8_ b9_ b10_ (λraddMode lraddMode lraddMode2 lraddMode3 lraddMode4=>Df (λline e3 b1_ b2_ b3_2 b4_2=>k1 line e3 b1_ b2_ b3_2 b4_2) (λt152 t162 t172 b3_2 b4_2 b5_2 b6_2 b7_2 b8_2 b9_2 b10_2=>rec t152 t162 (IntKind.i64.wrap (t172+(1:Int))) b3_2 b4_2 b5_2 b6_2 b7_2 b8_2 b9_2 b10_2) raddMode t15 t16 t17 e b3_ b4_ b5_ b6_ lraddMode lraddMode2 lraddMode3 lraddMode4)) (cond (decide (([111,110,108,121]:List UInt8)=e2.2.1)) (I0 e.2 b7_ b8_ b9_ b10_ (λraddMode lraddMode lraddMode2 lraddMode3 lraddMode4=>Df (λline e3 b1_ b2_ b3_2 b4_2=>k1 line e3 b1_ b2_ b3_2 b4_2) (λt152 t162 t172 b3_2 b4_2 b5_2 b6_2 b7_2 b8_2 b9_2 b10_2=>rec t152 t162 (IntKind.i64.wrap (t172+(1:Int))) b3_2 b4_2 b5_2 b6_2 b7_2 b8_2 b9_2 b10_2) raddMode t15 t16 t17 e b3_ b4_ b5_ b6_ lraddMode lraddMode2 lraddMode3 lraddMode4)) (cond (decide (([108,101,97,118,101]:List UInt8)=e2.2.1)) (GA e.2 b7_ b8_ b9_ b10_ (λraddEdit lraddEdit lraddEdit2 lraddEdit3 lraddEdit4=>Df (λline e3 b1_ b2_ b3_2 b4_2=>k1 line e3 b1_ b2_ b3_2 b4_2) (λt152 t162 t172 b3_2 b4_2 b5_2 b6_2 b7_2 b8_2 b9_2 b10_2=>rec t152 t162 (IntKind.i64.wrap (t172+(1:Int))) b3_2 b4_2 b5_2 b6_2 b7_2 b8_2 b9_2 b10_2) raddEdit t15 t16 t17 e b3_ b4_ b5_ b6_ lraddEdit lraddEdit2 lraddEdit3 lraddEdit4)) (cond (decide (([111,118,101,114,114,105,100,101]:List UInt8)=e2.2.1)) (GA e.2 b7_ b8_ b9_ b10_ (λraddEdit lraddEdit lraddEdit2 lraddEdit3 lraddEdit4=>Df (λline e3 b1_ b2_ b3_2 b4_2=>k1 line e3 b1_ b2_ b3_2 b4_2) (λt152 t162 t172 b3_2 b4_2 b5_2 b6_2 b7_2 b8_2 b9_2 b10_2=>rec t152 t162 (IntKind.i64.wrap (t172+(1:Int))) b3_2 b4_2 b5_2 b6_2 b7_2 b8_2 b9_2 b10_2) raddEdit t15 t16 t17 e b3_ b4_ b5_ b6_ lraddEdit lraddEdit2 lraddEdit3 lraddEdit4)) (cond (decide (([115,119,97,112]:List UInt8)=e2.2.1)) (GA e.2 b7_ b8_ b9_ b10_ (λraddEdit lraddEdit lraddEdit2 lraddEdit3 lraddEdit4=>Df (λline e3 b1_ b2_ b3_2 b4_2=>k1 line e3 b1_ b2_ b3_2 b4_2) (λt152 t162 t172 b3_2 b4_2 b5_2 b6_2 b7_2 b8_2 b9_2 b10_2=>rec t152 t162 (IntKind.i64.wrap (t172+(1:Int))) b3_2 b4_2 b5_2 b6_2 b7_2 b8_2 b9_2 b10_2) raddEdit t15 t16 t17 e b3_ b4_ b5_ b6_ lraddEdit lraddEdit2 lraddEdit3 lraddEdit4)) (none)))))))))))))))) none))) none) (k2 b3_ b4_ b5_ b6_ b7_ b8_ b9_ b10_)
def Ht(m:Nat){β:Type}(k1:Rm β)(k2:Rn β):XI β:=Uo (λr=>Dg r k1 k2) none m
theorem D3{β:Type}(i:Nat)(k1 k2):Ht (β:=β) (i+1) k1 k2=Dg (Ht i k1 k2) k1 k2:=rfl
def XL{β:Type}:=hid (Ht (β:=β) fuel)
noncomputable def AhD:Pb:=⟨122,XJ,λ_=>XL,DF mixed (X:=⟨look tab,gam JT,false,false,false,false,BF,none,0,[]⟩) (p:=XJ) AJ JT rfl [AhC] (g:=λi _=>Ht i) (by kernel_rfl) rfl (by kernel_rfl) (λ_ _=>rfl) λ_ _ _ _=>by kernel_rfl⟩
def MQ:AhA:=hid λl k=>cond true (cond true (cond true (cond true (cond true (cond true (cond true (cond true (cond true (cond true (cond true (cond true (cond true (cond true (cond true (XL (λline e b1_ b2_ b3_ b4_=>k (b1_,(b2_,(b3_,b4_))) line e) (λb2_ b3_ b4_ b5_ b6_ b7_ b8_ b9_=>JS (b6_,(b7_,(b8_,b9_))) (λrCheck=>cond (!decide (rCheck=0)) (k Ug 0 rCheck) (k (b6_,(b7_,(b8_,b9_))) 0 0))) l (List.length l:Int) 0 ([]:List At) ([]:List Ay) ([]:List AF) ([]:List AK) ([]:List At) ([]:List Ay) ([]:List AF) ([]:List AK)) none) none) none) none) none) none) none) none) none) none) none) none) none) none) none
noncomputable def AhE:En:=⟨31,.spec (sg [Hk] [] [Eb,Aa,Aa] [] MQ),Jr mixed (X:=⟨look tab,gam JT,false,false,false,false,BF,none,0,[]⟩) AJ JT rfl [AhD] [.cell 2 32,.tmp 3,.tmp 4] Tryz.func31 (by kernel_rfl) λ_ _=>by kernel_rfl⟩
abbrev AhF:={β:Type}->Au->(AV->Int->Option β)->Option β
noncomputable def Ee:List En:=[Ew,Ho,Afs,Acr,AdX,AdS,AdJ,pQ]
abbrev XM(β:Type):=Au->Am->Ak->Al->Ap->AV->Option β
abbrev XN(β:Type):=Am->Int->Int->Au->Am->Ak->Al->Ap->AV->Option β
noncomputable def pU:Pc:=⟨99,0,AA 122 (Ar Tryz.f8),⟨0,[1,5,27,28,29],[As,Bf,Gx,Aa,Aa],Jw⟩,[(.exit 0,⟨0,[1,5],[As,Bf],Jw⟩)]⟩
abbrev XO(β:Type):=Au->Am->Ak->Al->Ap->AV->Option β
abbrev XP(β:Type):=Ak->Int->Int->Au->Am->Ak->Al->Ap->AV->Option β
noncomputable def pV:Pc:=⟨99,0,AA 250 (Ar Tryz.f8),⟨0,[1,5,38,39,40],[As,Bf,FM,Aa,Aa],Jw⟩,[(.exit 2,⟨0,[1,5],[As,Bf],Jw⟩)]⟩
abbrev XQ(β:Type):=Au->Am->Ak->Al->Ap->AV->Option β
abbrev XR(β:Type):=Al->Int->Int->Au->Am->Ak->Al->Ap->AV->Option β
noncomputable def pW:Pc:=⟨99,0,AA 506 (Ar Tryz.f8),⟨0,[1,5,49,50,51],[As,Bf,Gw,Aa,Aa],Jw⟩,[(.exit 4,⟨0,[1,5],[As,Bf],Jw⟩)]⟩
abbrev pX(β:Type):=Am->Ak->Al->Ap->AV->Option β
abbrev XS(β:Type):=Ap->Int->Int->Am->Ak->Al->Ap->AV->Option β
noncomputable def Ro:Pc:=⟨99,0,AA 1018 (Ar Tryz.f8),⟨0,[5,60,61,62],[As,Fk,Aa,Aa],Cb⟩,[(.exit 6,⟨0,[5],[As],Cb⟩)]⟩
abbrev pY(β:Type):=Ap->Int->Int->Am->Ak->Al->Ap->AK->AV->Option β
abbrev XT(β:Type):=Ap->Int->Int->Fi->Int->Int->Am->Ak->Al->Ap->AK->AV->Option β
noncomputable def pZ:Pc:=⟨99,0,AA 922 (C4 Ro.c),⟨0,[5,13,60,61,62,73,74,75],[As,Bf,Fk,Aa,Aa,If,Aa,Aa],[Uh,.cells 56 [.data CK],.tree 42 FK]⟩,[(.exit 8,⟨0,[5,13,60,61,62],[As,Bf,Fk,Aa,Aa],[Uh,.cells 56 [.data CK],.tree 42 FK]⟩)]⟩
abbrev XU(β:Type):=Ap->Int->Int->Am->Ak->Al->Ap->AV->Option β
abbrev XV(β:Type):=Ap->Int->Int->(List AO)->Int->Int->Am->Ak->Al->Ap->AV->Option β
noncomputable def q8:Pc:=⟨99,0,AA 926 (C4 Ro.c),⟨0,[5,60,61,62,84,85,86],[As,Fk,Aa,Aa,Jv,Aa,Aa],Cb⟩,[(.exit 10,⟨0,[5,60,61,62],[As,Fk,Aa,Aa],Cb⟩)]⟩
def Rp{β:Type}(rec:XN β)(k1:XM β):XN β:=λt27 t28 t29 c w w2 w3 w4 b2_=>cond (decide (t29<t28)) (cond (decide (0<=t29)&&decide (t29<(List.length t27:Int))) (let e:=List.getD t27 (Int.toNat t29) (([]:List UInt8),(0,([]:List Bd)));PO e w w2 w3 w4 b2_ (λmraddZone mraddZone2 mraddZone3 mraddZone4 lraddZone=>rec t27 t28 (IntKind.i64.wrap (t29+(1:Int))) c mraddZone mraddZone2 mraddZone3 mraddZone4 lraddZone)) none) (k1 c w w2 w3 w4 b2_)
def MR(m:Nat){β:Type}(k1:XM β):XN β:=Jx (λr=>Rp r k1) none m
theorem q9{β:Type}(i:Nat)(k1):MR (β:=β) (i+1) k1=Rp (MR i k1) k1:=rfl
def Rq{β:Type}:=hid (MR (β:=β) fuel)
noncomputable def AhG:Pb:=⟨122,pU,λ_=>Rq,DF mixed (X:=⟨look tab,gam Ee,false,false,false,false,C7,none,0,[]⟩) (p:=pU) AJ Ee rfl [] (g:=λi _=>MR i) (by kernel_rfl) rfl (by kernel_rfl) (λ_ _=>rfl) λ_ _ _ _=>by kernel_rfl⟩
def Rr{β:Type}(rec:XP β)(k1:XO β):XP β:=λt38 t39 t40 c w w2 w3 w4 b2_=>cond (decide (t40<t39)) (cond (decide (0<=t40)&&decide (t40<(List.length t38:Int))) (let e:=List.getD t38 (Int.toNat t40) (([]:List UInt8),(0,(([]:List AS),(0,(0,false)))));PQ e w w2 w3 w4 b2_ (λmraddPerson mraddPerson2 mraddPerson3 mraddPerson4 lraddPerson=>rec t38 t39 (IntKind.i64.wrap (t40+(1:Int))) c mraddPerson mraddPerson2 mraddPerson3 mraddPerson4 lraddPerson)) none) (k1 c w w2 w3 w4 b2_)
def MS(m:Nat){β:Type}(k1:XO β):XP β:=Jx (λr=>Rr r k1) none m
theorem qC{β:Type}(i:Nat)(k1):MS (β:=β) (i+1) k1=Rr (MS i k1) k1:=rfl
def MT{β:Type}:=hid (MS (β:=β) fuel)
noncomputable def AhH:Pb:=⟨250,pV,λ_=>MT,DF mixed (X:=⟨look tab,gam Ee,false,false,false,false,C7,none,0,[]⟩) (p:=pV) AJ Ee rfl [] (g:=λi _=>MS i) (by kernel_rfl) rfl (by kernel_rfl) (λ_ _=>rfl) λ_ _ _ _=>by kernel_rfl⟩
def Rs{β:Type}(rec:XR β)(k1:XQ β):XR β:=λt49 t50 t51 c w w2 w3 w4 b2_=>cond (decide (t51<t50)) (cond (decide (0<=t51)&&decide (t51<(List.length t49:Int))) (let e:=List.getD t49 (Int.toNat t51) (([]:List UInt8),(0,([]:List Int)));Qq e w w2 w3 w4 b2_ (λmraddCalendar mraddCalendar2 mraddCalendar3 mraddCalendar4 lraddCalendar=>rec t49 t50 (IntKind.i64.wrap (t51+(1:Int))) c mraddCalendar mraddCalendar2 mraddCalendar3 mraddCalendar4 lraddCalendar)) none) (k1 c w w2 w3 w4 b2_)
def MU(m:Nat){β:Type}(k1:XQ β):XR β:=Jx (λr=>Rs r k1) none m
theorem qD{β:Type}(i:Nat)(k1):MU (β:=β) (i+1) k1=Rs (MU i k1) k1:=rfl
def MV{β:Type}:=hid (MU (β:=β) fuel)
noncomputable def AhI:Pb:=⟨506,pW,λ_=>MV,DF mixed (X:=⟨look tab,gam Ee,false,false,false,false,C7,none,0,[]⟩) (p:=pW) AJ Ee rfl [] (g:=λi _=>MU i) (by kernel_rfl) rfl (by kernel_rfl) (λ_ _=>rfl) λ_ _ _ _=>by kernel_rfl⟩
def Rt{β:Type}(rec:XT β)(k1:pY β):XT β:=λt60 t61 t62 t73 t74 t75 w w2 w3 w4 s b2_=>cond (decide (t75<t74)) (cond (decide (0<=t75)&&decide (t75<(List.length t73:Int))) (let e:=List.getD t73 (Int.toNat t75) (([]:List UInt8),(0,((0,0),(0,(0,(([]:List Int),(([]:List AS),(0,0))))))));PS e w w2 w3 w4 b2_ (λmraddLayer mraddLayer2 mraddLayer3 mraddLayer4 lraddLayer=>rec t60 t61 t62 t73 t74 (IntKind.i64.wrap (t75+(1:Int))) mraddLayer mraddLayer2 mraddLayer3 mraddLayer4 s lraddLayer)) none) (k1 t60 t61 t62 w w2 w3 w4 s b2_)
def MW(m:Nat){β:Type}(k1:pY β):XT β:=dI (λr=>Rt r k1) none m
theorem qE{β:Type}(i:Nat)(k1):MW (β:=β) (i+1) k1=Rt (MW i k1) k1:=rfl
def XW{β:Type}:=hid (MW (β:=β) fuel)
noncomputable def AhJ:Pb:=⟨922,pZ,λ_=>XW,DF mixed (X:=⟨look tab,gam Ee,false,false,false,false,C7,none,0,[]⟩) (p:=pZ) AJ Ee rfl [] (g:=λi _=>MW i) (by kernel_rfl) rfl (by kernel_rfl) (λ_ _=>rfl) λ_ _ _ _=>by kernel_rfl⟩
def Ru{β:Type}(rec:XV β)(k1:XU β):XV β:=λt60 t61 t62 t84 t85 t86 w w2 w3 w4 b1_=>cond (decide (t86<t85)) (cond (decide (0<=t86)&&decide (t86<(List.length t84:Int))) (let e:=List.getD t84 (Int.toNat t86) (0,(0,(0,(0,0))));Pj e w w2 w3 w4 b1_ (λmraddEdit mraddEdit2 mraddEdit3 mraddEdit4 lraddEdit=>rec t60 t61 t62 t84 t85 (IntKind.i64.wrap (t86+(1:Int))) mraddEdit mraddEdit2 mraddEdit3 mraddEdit4 lraddEdit)) none) (k1 t60 t61 t62 w w2 w3 w4 b1_)
def MX(m:Nat){β:Type}(k1:XU β):XV β:=Uo (λr=>Ru r k1) none m
theorem qF{β:Type}(i:Nat)(k1):MX (β:=β) (i+1) k1=Ru (MX i k1) k1:=rfl
def JU{β:Type}:=hid (MX (β:=β) fuel)
noncomputable def AhK:Pb:=⟨926,q8,λ_=>JU,DF mixed (X:=⟨look tab,gam Ee,false,false,false,false,C7,none,0,[]⟩) (p:=q8) AJ Ee rfl [] (g:=λi _=>MX i) (by kernel_rfl) rfl (by kernel_rfl) (λ_ _=>rfl) λ_ _ _ _=>by kernel_rfl⟩
def Rv{β:Type}(rec:XS β)(k1:pX β):XS β:=λt60 t61 t62 w w2 w3 w4 b1_=>cond (decide (t62<t61)) (cond (decide (0<=t62)&&decide (t62<(List.length t60:Int))) (let e:=List.getD t60 (Int.toNat t62) (([]:List UInt8),(([]:List AD),([]:List AO)));C8 e.1 (λrword=>let l:=([rword]:List AR);BR ([115,99,104,101,100,117,108,101]:List UInt8) l w w2 w3 w4 b1_ (λmradd mradd2 mradd3 mradd4 lradd=>XW (λt602 t612 t622 w5 w6 w7 w8 s b2_=>JU (λt603 t613 t623 w9 w10 w11 w12 b1_2=>rec t603 t613 (IntKind.i64.wrap (t623+(1:Int))) w9 w10 w11 w12 b1_2) t602 t612 t622 s.2.2 (List.length s.2.2:Int) 0 w5 w6 w7 w8 b2_) t60 t61 t62 e.2.1 (List.length e.2.1:Int) 0 mradd mradd2 mradd3 mradd4 e lradd))) none) (k1 w w2 w3 w4 b1_)
def I3(m:Nat){β:Type}(k1:pX β):XS β:=Un (λr=>Rv r k1) none m
theorem qG{β:Type}(i:Nat)(k1):I3 (β:=β) (i+1) k1=Rv (I3 i k1) k1:=rfl
def JV{β:Type}:=hid (I3 (β:=β) fuel)
noncomputable def AhL:Pb:=⟨1018,Ro,λ_=>JV,DF mixed (X:=⟨look tab,gam Ee,false,false,false,false,C7,none,0,[]⟩) (p:=Ro) AJ Ee rfl [AhJ,AhK] (g:=λi _=>I3 i) (by kernel_rfl) rfl (by kernel_rfl) (λ_ _=>rfl) λ_ _ _ _=>by kernel_rfl⟩
def MY:AhF:=hid λc k=>JS c (λrCheck=>cond (!decide (rCheck=0)) (k ([]:List FJ) rCheck) (Rq (λc2 w w2 w3 w4 b2_=>MT (λc3 w5 w6 w7 w8 b2_2=>MV (λc4 w9 w10 w11 w12 b2_3=>JV (λw13 w14 w15 w16 b1_=>k b1_ 0) c4.2.2.2 (List.length c4.2.2.2:Int) 0 w9 w10 w11 w12 b2_3) c3.2.2.1 (List.length c3.2.2.1:Int) 0 c3 w5 w6 w7 w8 b2_2) c2.2.1 (List.length c2.2.1:Int) 0 c2 w w2 w3 w4 b2_) c.1 (List.length c.1:Int) 0 c c.1 c.2.1 c.2.2.1 c.2.2.2 ([]:List FJ)))
noncomputable def MZ:En:=⟨8,.spec (sg [Eb] [] [Hk,Aa] [] MY),Jr mixed (X:=⟨look tab,gam Ee,false,false,false,false,C7,none,0,[]⟩) AJ Ee rfl [AhG,AhH,AhI,AhL] [.tmp 2,.tmp 3] Tryz.func8 (by kernel_rfl) λ_ _=>by kernel_rfl⟩
abbrev AhM:={β:Type}->Au->(An->Int->Option β)->Option β
def Rw:AhM:=hid λc k=>MY c (λrStatements rStatements2=>cond (!decide (rStatements2=(0:Int))) (k ([]:List UInt8) rStatements2) (QF rStatements (λrText rText2=>k rText rText2)))
noncomputable def Rx:En:=⟨9,.spec (sg [Eb] [] [AP,Aa] [] Rw),pf [MZ,Ago] [] [.tmp 2,.tmp 3] Tryz.func9⟩
abbrev AhN:={β:Type}->An->(Au->Int->Int->Option β)->Option β
def Ry:AhN:=hid λtext k=>MM text (λrParse rParse2 lrParse=>cond (!decide (rParse2=(0:Int))) (k Ug rParse rParse2) (MQ lrParse (λrBuild rBuild2 rBuild3=>k rBuild rBuild2 rBuild3)))
noncomputable def Rz:En:=⟨12,.spec (sg [AP] [] [Eb,Aa,Aa] [] Ry),pf [AhE,Ah1] [] [.cell 2 32,.tmp 3,.tmp 4] Tryz.func12⟩
abbrev AhO:={β:Type}->(Bool->Option β)->Option β
noncomputable def R0:AhO:=O9 ⟨look tab,gam [QV,MZ,Rx,Rz],false,false,false,false,[],none,100000,[]⟩ Tryz.f5 [] [] [AC] [] [.tmp 0]
noncomputable def AhP:En:=⟨5,.spec (sg [] [] [AC] [] R0),(yP mixed (X:=⟨look tab,gam [QV,MZ,Rx,Rz],false,false,false,false,[],none,100000,[]⟩) AJ [QV,MZ,Rx,Rz] rfl [.tmp 0] Tryz.func5 (by kernel_rfl)).spec⟩
abbrev AhQ:={β:Type}->B3->(Bool->Option β)->Option β
noncomputable def XX:List En:=[AhP,LH,Aew,Aa5,Aa7,QV,MZ,Rx,Rz,Qj]
abbrev XY(β:Type):=Bool->Option β
abbrev XZ(β:Type):=An->AX->Au->Option β
abbrev Ya(β:Type):=AV->An->Int->Int->AX->Au->Option β
noncomputable def qH:Pc:=⟨101,0,AA 2042 (Ar Tryz.f3),⟨0,[3,4,5,7,40,41],[As,Bf,Hk,AP,Aa,Aa],[BC,BD]⟩,[(.ret,⟨0,[2],[AC],[]⟩),(.exit 0,⟨0,[3,4,7],[As,Bf,AP],[BC,BD]⟩)]⟩
abbrev Yb(β:Type):=An->Au->Option β
abbrev Yc(β:Type):=An->An->Int->AX->Au->Option β
noncomputable def qI:Pc:=⟨101,0,AA 8186 (Ar Tryz.f3),⟨0,[3,4,7,10,11],[As,Bf,AP,AP,Aa],[BC,BD]⟩,[(.exit 2,⟨0,[4,10],[As,AP],[BD]⟩)]⟩
def R1{β:Type}(rec:Ya β)(k1:XY β)(k2:XZ β):Ya β:=λl s t40 t41 d c=>cond (decide (t41<t40)) (cond (decide (0<=t41)&&decide (t41<(List.length l:Int))) (let e:=List.getD l (Int.toNat t41) (0,([]:List AR));cond (!decide (e.1=(IntKind.i64.wrap (t41+(1:Int))))) (k1 false) (cond (decide (0<=t41)&&decide (t41<(List.length l:Int))) (let e2:=List.getD l (Int.toNat t41) (0,([]:List AR));BP e2.2 (λrForm=>cond (!rForm) (k1 false) (rec l s t40 (IntKind.i64.wrap (t41+(1:Int))) d c))) none)) none) (k2 s d c)
def Na(m:Nat){β:Type}(k1:XY β)(k2:XZ β):Ya β:=Um (λr=>R1 r k1 k2) none m
theorem qJ{β:Type}(i:Nat)(k1 k2):Na (β:=β) (i+1) k1 k2=R1 (Na i k1 k2) k1 k2:=rfl
def R2{β:Type}:=hid (Na (β:=β) fuel)
noncomputable def AhR:Pb:=⟨2042,qH,λ_=>R2,pl (p:=qH) XX [] (g:=λi _=>Na i)⟩
def R3{β:Type}(rec:Yc β)(k1:Yb β):Yc β:=λs wide i_ d c=>cond (decide (i_<(List.length s:Int))) (cond (decide (0<=i_)&&(decide (i_<=(IntKind.i64.wrap (i_+1)))&&decide ((IntKind.i64.wrap (i_+1))<=(List.length s:Int)))) (cond (decide (List.length wide+List.length (List.drop (Int.toNat i_) (List.take (Int.toNat (IntKind.i64.wrap (i_+1))) s))<=9223372036854775807)) (let wide2:=(wide++(List.drop (Int.toNat i_) (List.take (Int.toNat (IntKind.i64.wrap (i_+1))) s)));cond (decide (0<=i_)&&decide (i_<(List.length s:Int))) (cond (decide (((List.getD s (Int.toNat i_) 0).toNat:Int)=(32:Int))) (FP 3 d (λrBool mrBool=>cond rBool (cond (decide (List.length wide2+List.length ([32,32]:List UInt8)<=9223372036854775807)) (let wide3:=(wide2++([32,32]:List UInt8));let i_2:=(IntKind.i64.wrap (i_+1));rec s wide3 i_2 mrBool c) none) (let i_2:=(IntKind.i64.wrap (i_+1));rec s wide2 i_2 mrBool c))) (let i_2:=(IntKind.i64.wrap (i_+1));rec s wide2 i_2 d c)) none) none) none) (k1 wide c)
def JW(m:Nat){β:Type}(k1:Yb β):Yc β:=G0 (λr=>R3 r k1) none m
theorem qK{β:Type}(i:Nat)(k1):JW (β:=β) (i+1) k1=R3 (JW i k1) k1:=rfl
def Yd{β:Type}:=hid (JW (β:=β) fuel)
noncomputable def AhS:Pb:=⟨8186,qI,λ_=>Yd,pl (p:=qI) XX [] (g:=λi _=>JW i)⟩
def R4:AhQ:=hid λt k=>OM t (λrLight=>cond (!rLight) (R0 (λrsane=>k rsane)) (ON t (λmrRoll=>Qf 2 mrRoll (λrConfig mrConfig=>MY rConfig (λrStatements rStatements2=>Rw rConfig (λrText rText2=>cond (!decide (rStatements2=(0:Int))) (k false) (cond (!decide (rText2=(0:Int))) (k false) (R2 (λt2=>k t2) (λs d c=>let wide:=([35,32,97,32,99,111,109,109,101,110,116,10,10]:List UInt8);Yd (λwide2 c2=>Ry wide2 (λrLoad rLoad2 rLoad3=>cond (decide (rLoad3=(0:Int))) (QU rLoad c2 (λrSame=>cond rSame (R0 (λrsane=>k rsane)) (k false))) (k false))) s wide 0 d c) rStatements rText (List.length rStatements:Int) 0 mrConfig rConfig))))))))
noncomputable def AhT:En:=⟨3,.spec (sg [Dt] [] [AC] [] R4),pf XX [AhR,AhS] [.tmp 2] Tryz.func3⟩
theorem AhU:SpecOk Tryz.prog 3 (sg [Dt] [] [AC] [] R4):=AhT.ok
end
end Go.Lift
namespace Go.Lift
open Go.RowKit Go.IntWalk
section
variable{β:Type}
theorem Ai{i n:Int}{a b:Option β}(h:0<=i/\i<n):cond (decide (0<=i)&&decide (i<n)) a b=a:=by rw[Aq h.1,Aq h.2];rfl
theorem Dh{n:Nat}{a b:Option β}(h:n<=140737488355328):cond (decide (n<=AG)) a b=a:=by rw[Aq (p:=n<=AG) h];rfl
theorem Ah{p:Prop}[Decidable p]{a b:Option β}(h:p):cond (decide p) a b=a:=by rw[Aq h];rfl
theorem Ad{p:Prop}[Decidable p]{a b:Option β}(h:¬p):cond (decide p) a b=b:=by rw[AB h];rfl
theorem Bm{p:Prop}[Decidable p]{a b:Option β}(h:p):cond (!decide p) a b=b:=by rw[Aq h];rfl
theorem CL{p:Prop}[Decidable p]{a b:Option β}(h:¬p):cond (!decide p) a b=a:=by rw[AB h];rfl
theorem c_t{a b:Option β}:cond true a b=a:=rfl
theorem c_f{a b:Option β}:cond false a b=b:=rfl
theorem c_p2{p q:Prop}[Decidable p][Decidable q]{a b:Option β}(hp:p)(hq:q):cond (decide p&&decide q) a b=a:=by rw[Aq hp,Aq hq];rfl
theorem c_p3{p q r:Prop}[Decidable p][Decidable q][Decidable r]{a b:Option β}(hp:p)(hq:q)(hr:r):cond (decide p&&(decide q&&decide r)) a b=a:=by rw[Aq hp,Aq hq,Aq hr];rfl
theorem c_kb(k:Bool->Option β)(p q:Bool):cond p (k q) (k false)=k (p&&q):=by cases p<;>rfl
theorem k_eq{γ:Type}{k:γ->Option β}{x y:γ}(h:x=y):k x=k y:=by rw[h]
def walk{α σ ε:Type}(g:Nat->α->σ->ε⊕σ):List α->Nat->σ->ε⊕σ
 |[],_,s=>.inr s
 |x::r,j,s=>
  match g j x s with
  |.inl e=>.inl e
  |.inr s'=>walk g r (j+1) s'
def sumK{ε σ:Type}(E:ε->Option β)(K:σ->Option β):ε⊕σ->Option β
 |.inl e=>E e
 |.inr s=>K s
theorem qL{α σ ε:Type}(F:Nat->Int->σ->Option β)(g:Nat->α->σ->ε⊕σ)(E:ε->Option β)(K:σ->Option β)(d:α)(xs:List α)(h1:∀(m i:Nat) s,i<xs.length->F (m+1) (i:Int) s=sumK E (λs'=>F m ((i:Int)+1) s') (g i (xs.getD i d) s))(h2:∀(m:Nat) s,F (m+1) (xs.length:Int) s=K s):∀(r:List α)(j fuel:Nat)(s:σ),xs.drop j=r->j+r.length=xs.length->r.length<fuel->F fuel (j:Int) s=sumK E K (walk g r j s)
 |r,j,0,s,_,_,h=>absurd h (H9 _)
 |[],j,m+1,s,hd,hj,_=>by simp only[Bw,HE]at hj;subst hj;rw[h2];rfl
 |x::r,j,m+1,s,hd,hj,hm=>by
  simp only[Aw]at hj hm;have h3:j<xs.length:=by omega
  have hx:xs.getD j d=x:=by rw[EY h3]at hd;injection hd with hd1 hd2;simp[List.getD,h3,hd1]
  have hr:xs.drop (j+1)=r:=by rw[EY h3]at hd;injection hd with hd1 hd2
  rw[h1 m j s h3,hx,walk];cases hg:g j x s with
  |inl e=>rfl
  |inr s'=>simp only[sumK];exact qL F g E K d xs h1 h2 r (j+1) m s' hr (by omega) (by omega)
theorem EO{α σ ε:Type}(F:Nat->Int->σ->Option β)(g:Nat->α->σ->ε⊕σ)(E:ε->Option β)(K:σ->Option β)(d:α)(xs:List α)(s:σ)(n:Nat)(hn:xs.length<n)(h1:∀(m i:Nat) s,i<xs.length->F (m+1) (i:Int) s=sumK E (λs'=>F m ((i:Int)+1) s') (g i (xs.getD i d) s))(h2:∀(m:Nat) s,F (m+1) (xs.length:Int) s=K s):F n 0 s=sumK E K (walk g xs 0 s):=
 qL F g E K d xs h1 h2 xs 0 n s rfl (by simp) hn
theorem Hu{α:Type}(F:Nat->Int->Option β)(p:α->Bool)(E K:Option β)(d:α)(xs:List α)(n:Nat)(hn:xs.length<n)(h1:∀(m i:Nat),i<xs.length->F (m+1) (i:Int)=cond (p (xs.getD i d)) (F m ((i:Int)+1)) E)(h2:∀(m:Nat),F (m+1) (xs.length:Int)=K):F n 0=cond (xs.all p) K E:=by
 have h:=EO (ε:=Unit) (λm i(_:Unit)=>F m i) (λ_ x s=>cond (p x) (.inr s) (.inl ())) (λ_=>E) (λ_=>K) d xs () n hn
  (λm i s hi=>by rw[h1 m i hi];cases p (xs.getD i d)<;>rfl) (λm s=>h2 m)
 rw[h]
 have key:∀(l:List α)(j:Nat),sumK (λ_=>E) (λ_=>K) (walk (ε:=Unit) (λ_ x(s:Unit)=>cond (p x) (.inr s) (.inl ())) l j ())=cond (l.all p) K E:=by
  intro l
  induction l with
  |nil=>intro j;rfl
  |cons x l ih=>
   intro j;simp only[walk,NJ];cases p x with
   |true=>simpa using ih (j+1)
   |false=>rfl
 exact key xs 0
theorem R5{α σ:Type}(I:Nat->σ->Prop)(F:Nat->Int->σ->Option β)(g:σ->α->σ)(K:σ->Option β)(d:α)(xs:List α)(s:σ)(n:Nat)(hn:xs.length<n)(h0:I 0 s)(hI:∀(i:Nat) s,i<xs.length->I i s->I (i+1) (g s (xs.getD i d)))(h1:∀(m i:Nat) s,i<xs.length->I i s->F (m+1) (i:Int) s=F m ((i:Int)+1) (g s (xs.getD i d)))(h2:∀(m:Nat) s,I xs.length s->F (m+1) (xs.length:Int) s=K s):F n 0 s=K (xs.foldl g s):=by
 have key:∀(r:List α)(j fuel:Nat)(s:σ),xs.drop j=r->j+r.length=xs.length->r.length<fuel->I j s->F fuel (j:Int) s=K (r.foldl g s):=by
  intro r
  induction r with
  |nil=>intro j fuel s hd hj hf hs;obtain⟨m,rfl⟩:∃m,fuel=m+1:=⟨fuel-1,by omega⟩;simp only[Bw,HE]at hj;subst hj;exact h2 m s hs
  |cons x r ih=>
   intro j fuel s hd hj hf hs;obtain⟨m,rfl⟩:∃m,fuel=m+1:=⟨fuel-1,by omega⟩;simp only[Aw]at hj hf;have h3:j<xs.length:=by omega
   have hx:xs.getD j d=x:=by rw[EY h3]at hd;injection hd with hd1 hd2;simp[List.getD,h3,hd1]
   have hr:xs.drop (j+1)=r:=by rw[EY h3]at hd;injection hd with hd1 hd2
   rw[h1 m j s h3 hs,hx];have:=hI j s h3 hs;rw[hx]at this;exact ih (j+1) m (g s x) hr (by omega) (by omega) this
 exact key xs 0 n s rfl (by simp) hn h0
end
end Go.Lift
namespace Go.Lift
open Go.RowKit Go.IntWalk
noncomputable section
variable[Sl]
set_option maxRecDepth 10000
abbrev AQ(y:Int):Prop:=y%4=0/\(y%100≠0\/y%400=0)
def B4(lp:Prop)[Decidable lp](m:Int):Int:=
 if m<1 then 0 else if 12<m then 0 else if m=2 then(if lp then 29 else 28)else if m=4\/m=6\/m=9\/m=11 then 30 else 31
def cntN(y:Int):Int:=365*(y-1970)+(y-1) / 4-(y-1) / 100+(y-1) / 400-477
def sumM(lp:Prop)[Decidable lp]:Nat->Int
 |0=>0
 |n+1=>sumM lp n+B4 lp ((n:Int)+1)
section
variable{β:Type}
theorem AhV{y:Int}(hy:0<=y)(k:Bool->Option β):Ph y k=k (decide (AQ y)):=by
 have e1:Int.tmod y 4=y%4:=Dk hy;have e2:Int.tmod y 100=y%100:=Dk hy;have e3:Int.tmod y 400=y%400:=Dk hy;unfold Ph;rw[Ab];rw[e1,e2,e3];by_cases h1:y%4=0
 ·refine(Ah h1).trans ?_
  by_cases h2:y%100=0
  ·refine(Bm h2).trans ?_
   exact k_eq (decide_eq_decide.2 ⟨λh=>⟨h1,.inr h⟩,λh=>by rcases h.2 with h|h;exact absurd h2 h;exact h⟩)
  ·refine(CL h2).trans ?_
   exact k_eq (Aq (p:=AQ y) ⟨h1,.inl h2⟩).symm
 ·refine(Ad h1).trans ?_
  exact k_eq (AB (p:=AQ y) λh=>h1 h.1).symm
theorem I4{y:Int}(hy:0<=y)(m:Int)(k:Int->Option β):BO y m k=k (B4 (AQ y) m):=by
 by_cases h1:m<1
 ·unfold BO
  rw[Ab];unfold Ck;refine(Ah h1).trans (k_eq ?_);unfold B4;rw[if_pos h1]
 ·by_cases h2:12<m
  ·unfold BO
   rw[Ab];unfold Ck;refine(Ad h1).trans ((Ah h2).trans (k_eq ?_));unfold B4;rw[if_neg h1,if_pos h2]
  ·have hm:m=1\/m=2\/m=3\/m=4\/m=5\/m=6\/m=7\/m=8\/m=9\/m=10\/m=11\/m=12:=by omega
   rcases hm with rfl|rfl|rfl|rfl|rfl|rfl|rfl|rfl|rfl|rfl|rfl|rfl
   ·exact(show BO y 1 k=Ck y 1 k by unfold BO;rw[Ab]).trans (show Ck y 1 k=k (B4 (AQ y) 1) by kernel_rfl)
   ·unfold BO
    rw[Ab];unfold Ck;refine(Ad h1).trans ((Ad h2).trans ((Ah rfl).trans ?_));refine(AhV hy _).trans ?_;unfold B4;rw[if_neg h1,if_neg h2,if_pos rfl];by_cases h:AQ y
    ·rw[Aq h,if_pos h]
     rfl
    ·rw[AB h,if_neg h]
     rfl
   ·exact(show BO y 3 k=Ck y 3 k by unfold BO;rw[Ab]).trans (show Ck y 3 k=k (B4 (AQ y) 3) by kernel_rfl)
   ·exact(show BO y 4 k=Ck y 4 k by unfold BO;rw[Ab]).trans (show Ck y 4 k=k (B4 (AQ y) 4) by kernel_rfl)
   ·exact(show BO y 5 k=Ck y 5 k by unfold BO;rw[Ab]).trans (show Ck y 5 k=k (B4 (AQ y) 5) by kernel_rfl)
   ·exact(show BO y 6 k=Ck y 6 k by unfold BO;rw[Ab]).trans (show Ck y 6 k=k (B4 (AQ y) 6) by kernel_rfl)
   ·exact(show BO y 7 k=Ck y 7 k by unfold BO;rw[Ab]).trans (show Ck y 7 k=k (B4 (AQ y) 7) by kernel_rfl)
   ·exact(show BO y 8 k=Ck y 8 k by unfold BO;rw[Ab]).trans (show Ck y 8 k=k (B4 (AQ y) 8) by kernel_rfl)
   ·exact(show BO y 9 k=Ck y 9 k by unfold BO;rw[Ab]).trans (show Ck y 9 k=k (B4 (AQ y) 9) by kernel_rfl)
   ·exact(show BO y 10 k=Ck y 10 k by unfold BO;rw[Ab]).trans (show Ck y 10 k=k (B4 (AQ y) 10) by kernel_rfl)
   ·exact(show BO y 11 k=Ck y 11 k by unfold BO;rw[Ab]).trans (show Ck y 11 k=k (B4 (AQ y) 11) by kernel_rfl)
   ·exact(show BO y 12 k=Ck y 12 k by unfold BO;rw[Ab]).trans (show Ck y 12 k=k (B4 (AQ y) 12) by kernel_rfl)
theorem R6{a b:Int}(ha:0<=a/\a<=1000000000)(hb:0<b/\b<=1000000000)(k:Int->Option β):Ip a b k=k (a / b):=by have e1:Int.tdiv a b=a / b:=DN ha.1;have e2:Int.tmod a b=a%b:=Dk ha.1;have e3:=Int.emod_nonneg a (show b≠0 by omega);have e4:=Int.ediv_nonneg ha.1 (show 0<=b by omega);have e5:=Int.ediv_le_self b ha.1;unfold Ip;rw[Ab];refine(CL (by omega)).trans ?_;refine(CL (by omega)).trans ?_;refine(Ad (by omega)).trans ?_;rw[e1,i64_in _ (by omega)]
theorem FS{y:Int}(hy:1<=y/\y<=1000000)(k:Int->Option β):Hp y k=k (cntN y):=by
 unfold Hp;rw[Ab];simp only;rw[i64_in (y-1) (by omega)];refine(R6 (by omega) (by omega) _).trans ?_;refine(R6 (by omega) (by omega) _).trans ?_;refine(R6 (by omega) (by omega) _).trans ?_
 rw[i64_in (y-1970) (by omega),i64_in (365*(y-1970)) (by omega),i64_in (365*(y-1970)+(y-1) / 4) (by omega),i64_in (365*(y-1970)+(y-1) / 4-(y-1) / 100) (by omega),
  i64_in (365*(y-1970)+(y-1) / 4-(y-1) / 100+(y-1) / 400) (by omega),i64_in (365*(y-1970)+(y-1) / 4-(y-1) / 100+(y-1) / 400-477) (by omega)]
 rfl
theorem AhW{y:Int}(hy:1<=y):cntN (y+1)=cntN y+(if AQ y then 366 else 365):=by unfold cntN;split<;>omega
theorem AhX{day:Int}(h:0<=day/\day<98981):∃y,(1970<=y/\y<=2240)/\cntN y<=day/\day<cntN (y+1)/\∀{β:Type}(k:Int->Option β),P1 day k=k y:=by
 have last:cntN 2241=98981:=by decide
 have key:∀(n m:Nat)(y:Int),y+n=2240->n<m->1970<=y->cntN y<=day->∃y',(1970<=y'/\y'<=2240)/\cntN y'<=day/\day<cntN (y'+1)/\
   ∀{β:Type}(k1:Vj β),LS m k1 day y=k1 y':=by
  intro n
  induction n with
  |zero=>
   intro m y hy hm h0 hc;obtain⟨m,rfl⟩:∃m',m=m'+1:=⟨m-1,by omega⟩;have hy:y=2240:=by omega
   subst hy;refine⟨2240,by omega,hc,by rw[show(2240:Int)+1=2241 from rfl,last];omega,λk1=>?_⟩;simp only[Vl,LR];rw[show IntKind.i64.wrap ((2240:Int)+1)=2241 by decide];refine(FS (by omega) _).trans ?_;exact Ad (by rw[last];omega)
  |succ n ih=>
   intro m y hy hm h0 hc;obtain⟨m,rfl⟩:∃m',m=m'+1:=⟨m-1,by omega⟩;by_cases hn:cntN (y+1)<=day
   ·obtain⟨y',h1,h2,h3,h4⟩:=ih m (y+1) (by omega) (by omega) (by omega) hn
    refine⟨y',h1,h2,h3,λk1=>?_⟩;simp only[Vl,LR];rw[i64_in (y+1) (by omega)];refine(FS (by omega) _).trans ?_;refine(Ah hn).trans ?_;exact h4 k1
   ·refine⟨y,by omega,hc,by omega,λk1=>?_⟩
    simp only[Vl,LR];rw[i64_in (y+1) (by omega)];refine(FS (by omega) _).trans ?_;exact Ad hn
 have hq:∀q:Fin 271,cntN (1970+(q.val:Int))<=366*(q.val:Int):=by decide+kernel
 have h0:cntN (1970+day / 366)<=day:=by have:=hq ⟨(day / 366).toNat,by omega⟩;simp only at this;rw[show(((day / 366).toNat:Nat):Int)=day / 366 by omega]at this;omega
 obtain⟨y',h1,h2,h3,h4⟩:=key (2240-(1970+day / 366)).toNat fuel (1970+day / 366) (by omega) (AY (by omega)) (by omega) h0;refine⟨y',h1,h2,h3,λk=>?_⟩;unfold P1;rw[Ab];refine(R6 (by omega) (by omega) _).trans ?_;simp only;rw[i64_in (1970+day / 366) (by omega)];unfold Vm;rw[Ab];exact h4 _
theorem R7(lp:Prop)[Decidable lp](m:Int):0<=B4 lp m/\B4 lp m<=31:=by
 unfold B4
 repeat' split
 all_goals omega
theorem JX(lp:Prop)[Decidable lp](n:Nat):0<=sumM lp n/\sumM lp n<=31*(n:Int):=by
 induction n with
 |zero=>exact⟨Gd _,Gd _⟩
 |succ n ih=>have:=R7 lp ((n:Int)+1);show 0<=sumM lp n+B4 lp ((n:Int)+1)/\sumM lp n+B4 lp ((n:Int)+1)<=31*((n+1:Nat):Int);omega
theorem AhY(lp:Prop)[Decidable lp]:sumM lp 12=if lp then 366 else 365:=by
 by_cases h:lp
 ·simp[sumM,B4,h]
 ·simp[sumM,B4,h]
theorem AhZ{y:Int}(hy:0<=y)(a:Int×(Int×Int))(d3:Int):∀(j f n:Nat)(r:Int),n+j=12->j<f->0<=r->r<sumM (AQ y) 12-sumM (AQ y) n->∃(n':Nat)(r':Int),n'<12/\0<=r'/\r'<B4 (AQ y) ((n':Int)+1)/\sumM (AQ y) n'+r'=sumM (AQ y) n+r/\∀{β:Type}(k1:VQ β),Mn f k1 r a (y,((n:Int)+1,d3))=k1 r' a (y,((n':Int)+1,d3)):=by
 intro j
 induction j with
 |zero=>
  intro f n r hn hf h0 h1;obtain rfl:n=12:=by omega
  omega
 |succ j ih=>
  intro f n r hn hf h0 h1;obtain⟨f,rfl⟩:∃f',f=f'+1:=⟨f-1,by omega⟩;have hd:=R7 (AQ y) ((n:Int)+1);have hb:=JX (AQ y) n;have h12:=JX (AQ y) 12;by_cases hr:B4 (AQ y) ((n:Int)+1)<=r
  ·have hs:sumM (AQ y) (n+1)=sumM (AQ y) n+B4 (AQ y) ((n:Int)+1):=rfl
   obtain⟨n',r',g1,g2,g3,g4,g5⟩:=ih f (n+1) (r-B4 (AQ y) ((n:Int)+1)) (by omega) (by omega) (by omega) (by omega);refine⟨n',r',g1,g2,g3,by omega,λk1=>?_⟩;simp only[kU,PV];refine(I4 hy _ _).trans ?_;refine(Ah hr).trans ?_;refine(I4 hy _ _).trans ?_;rw[i64_in (r-B4 (AQ y) ((n:Int)+1)) (by omega),i64_in ((n:Int)+1+1) (by omega)];have:=g5 k1
   rwa [show((n+1:Nat):Int)=(n:Int)+1 by omega]at this
  ·refine⟨n,r,by omega,h0,by omega,rfl,λk1=>?_⟩
   simp only[kU,PV];refine(I4 hy _ _).trans ?_;exact Ad hr
theorem qM{y:Int}(hy:0<=y)(M d3:Int):∀(j f n:Nat)(s:Int),(n:Int)+1+j=M->M<=12->j<f->0<=s+1000->s+31*(j:Int)<=1000000->∀{β:Type}(k1:Vs β),LU f k1 s ((n:Int)+1) (y,(M,d3))=k1 (s+(sumM (AQ y) (n+j)-sumM (AQ y) n)):=by
 intro j
 induction j with
 |zero=>intro f n s hn hM hf h0 h1 β k1;obtain⟨f,rfl⟩:∃f',f=f'+1:=⟨f-1,by omega⟩;simp only[jD,P4];refine(Ad (by omega)).trans ?_;exact k_eq (by show s=s+(sumM (AQ y) n-sumM (AQ y) n);omega)
 |succ j ih=>intro f n s hn hM hf h0 h1 β k1;obtain⟨f,rfl⟩:∃f',f=f'+1:=⟨f-1,by omega⟩;have hd:=R7 (AQ y) ((n:Int)+1);simp only[jD,P4];refine(Ah (by omega)).trans ?_;refine(I4 hy _ _).trans ?_;rw[i64_in (s+B4 (AQ y) ((n:Int)+1)) (by omega),i64_in ((n:Int)+1+1) (by omega)];have:=ih f (n+1) (s+B4 (AQ y) ((n:Int)+1)) (by omega) hM (by omega) (by omega) (by omega) k1;rw[show((n+1:Nat):Int)=(n:Int)+1 by omega]at this;refine this.trans (k_eq ?_);have hs:sumM (AQ y) (n+1)=sumM (AQ y) n+B4 (AQ y) ((n:Int)+1):=rfl;rw[show n+1+j=n+(j+1) by omega];omega
structure DateIs (day y m d:Int):Prop where
 yr:1970<=y/\y<=2240
 mo:1<=m/\m<=12
 dd:1<=d/\d<=31
 of:∀{β:Type}(k:Int×Int×Int->Int->Option β),Iu day k=k (y,m,d) 0
 day:∀{β:Type}(k:Int->Int->Option β),Iw (y,m,d) k=k day 0
theorem qN{day:Int}(h:0<=day/\day<98981):∃y m d,DateIs day y m d:=by
 obtain⟨y,hy,h1,h2,h3⟩:=AhX h;have hn:=AhW (y:=y) (by omega);rw[<-AhY]at hn;have hc:cntN 1970=0:=by decide
 have hc2:cntN 2241=98981:=by decide
 have hb12:=JX (AQ y) 12
 have h0:0<=cntN y:=by unfold cntN;omega
 obtain⟨n',r',g1,g2,g3,g4,g5⟩:=AhZ (y:=y) (by omega) (0,(0,0)) 0 12 fuel 0 (day-cntN y) rfl (AY (by omega)) (by omega) (by show day-cntN y<sumM (AQ y) 12-0;omega);have hd:=R7 (AQ y) ((n':Int)+1);have hs0:sumM (AQ y) 0=0:=rfl;refine⟨y,(n':Int)+1,r'+1,hy,by omega,by omega,λk=>?_,λk=>?_⟩
 ·unfold Iu
  rw[Ab];refine(FS (by omega) _).trans ?_;refine(Ad (by rw[hc];omega)).trans ?_;refine(FS (by omega) _).trans ?_;refine(Ad (by rw[hc2];omega)).trans ?_;refine(h3 _).trans ?_;refine(FS (by omega) _).trans ?_;simp only;rw[i64_in (day-cntN y) (by omega)];unfold VS;rw[Ab];refine(g5 _).trans ?_;rw[i64_in (r'+1) (by omega)]
 ·unfold Iw
  rw[Ab]
  have hv:∀{β:Type}(k:Bool->Option β),Is (y,(n':Int)+1,r'+1) k=k true:=by intro β k;unfold Is;rw[Ab];refine(Ah hy.1).trans ?_;refine(Ah hy.2).trans ?_;refine(Ah (by show(1:Int)<=r'+1;omega)).trans ?_;refine(I4 (by show 0<=y;omega) _ _).trans ?_;exact k_eq (Aq (by show r'+1<=B4 (AQ y) ((n':Int)+1);omega))
  refine(hv _).trans ?_;show It (y,(n':Int)+1,r'+1) _=_;unfold It;rw[Ab];refine(FS (y:=y) (by omega) _).trans ?_;simp only;rw[i64_in (cntN y+(r'+1)) (by omega),i64_in (cntN y+(r'+1)-1) (by omega)];unfold P5;rw[Ab];refine(qM (y:=y) (by omega) ((n':Int)+1) (r'+1) n' fuel 0 (cntN y+(r'+1)-1) (by omega) (by omega) (AY (by omega)) (by omega) (by omega) _).trans ?_;rw[BW,hs0];have e:cntN y+(r'+1)-1+(sumM (AQ y) n'-0)=day:=by omega
  rw[e]
theorem Ai0{day:Int}(h:day<0\/98981<=day)(k:Int×Int×Int->Int->Option β):Iu day k=k (0,0,0) 1:=by
 have hc:cntN 1970=0:=by decide
 have hc2:cntN 2241=98981:=by decide
 unfold Iu;rw[Ab];refine(FS (by omega) _).trans ?_;by_cases h0:day<0
 ·exact Ah (by rw[hc];omega)
 ·refine(Ad (by rw[hc];omega)).trans ?_
  refine(FS (by omega) _).trans ?_;exact Ah (by rw[hc2];omega)
end
end
end Go.Lift
namespace Go.Lift
open Go.RowKit Go.IntWalk
noncomputable section
variable[Sl]
set_option maxRecDepth 10000
section
variable{β:Type}
abbrev inI(n lo hi:Int):Bool:=decide (lo<=n)&&decide (n<=hi)
abbrev ixI(i n:Int):Bool:=decide ((0:Int)<=i)&&decide (i<n)
theorem r_in(n lo hi:Int)(k:Bool->Option β):G5 n lo hi k=k (inI n lo hi):=by unfold G5;rw[Ab];exact c_kb k _ _
theorem z_in(n lo hi:Int)(k:Bool->Option β):EM n lo hi k=k (inI n lo hi):=by unfold EM;rw[Ab];exact c_kb k _ _
theorem r_ix(i n:Int)(k:Bool->Option β):FO i n k=k (ixI i n):=by unfold FO;rw[Ab];exact c_kb k _ _
def dayI(n:Int):Bool:=decide (0<=n)&&decide (n<98981)
theorem Ye(n:Int)(k:Bool->Option β):JB n k=k (dayI n):=by
 unfold JB;rw[Ab];unfold dayI;by_cases h:0<=n/\n<98981
 ·obtain⟨y,m,d,hd⟩:=qN h
  refine(hd.of _).trans (k_eq ?_);rw[Aq h.1,Aq h.2];rfl
 ·refine(Ai0 (by omega) _).trans (k_eq ?_)
  by_cases h0:0<=n
  ·rw[Aq h0,AB (by omega:¬n<98981)];rfl
  ·rw[AB h0];rfl
def GC(n:Int):Bool:=inI n 0 604800&&decide (Int.tmod n 3600=0)
theorem qO(n:Int)(k:Bool->Option β):LN n k=k (GC n):=by unfold LN;rw[Ab];refine(r_in _ _ _ _).trans ?_;exact c_kb k _ _
def GD(c:Int):Bool:=inI c 97 122
def R8(c:Int):Bool:=inI c 48 57
def Hv(c:UInt8):Bool:=GD c.toNat||(R8 c.toNat||(decide ((c.toNat:Int)=95)||decide ((c.toNat:Int)=45)))
def BE(s:List UInt8):Bool:=(!decide (s=[]))&&(!decide (24<(s.length:Int))&&(GD (s.getD 0 0).toNat&&s.all Hv))
theorem Yf(c:Int)(k:Bool->Option β):Hm c k=k (GD c):=by unfold Hm;rw[Ab];exact c_kb k _ _
theorem Ai1(c:Int)(k:Bool->Option β):In c k=k (R8 c):=by unfold In;rw[Ab];exact c_kb k _ _
theorem Yg(s:List UInt8)(k:Bool->Option β):FQ s k=k (BE s):=by
 unfold FQ;rw[Ab];unfold BE;by_cases h1:s=[]
 ·refine(Ah h1).trans ?_
  rw[Aq h1];rfl
 ·refine(Ad h1).trans ?_
  rw[AB h1];by_cases h2:24<(s.length:Int)
  ·refine(Ah h2).trans ?_
   rw[Aq h2];rfl
  ·refine(Ad h2).trans ?_
   rw[AB h2]
   have h3:0<s.length:=by cases s with
    |nil=>exact absurd rfl h1
    |cons _ _=>simp
   refine(Ai (by omega)).trans ?_;refine(Yf _ _).trans ?_;show _=k (GD (s.getD 0 0).toNat&&s.all Hv);rw[show Int.toNat (0:Int)=0 from rfl];cases GD (s.getD 0 0).toNat with
   |false=>rfl
   |true=>
    show Pv (λt2=>k t2) (λ_=>k true) s (s.length:Int) 0=k (s.all Hv);unfold Pv;rw[Ab];refine(Hu (λm i=>LM m (λt2=>k t2) (λ_=>k true) s (s.length:Int) i) Hv (k false) (k true) 0 s fuel (AY (by omega)) (λm i hi=>?_) (λm=>?_)).trans ?_
    ·simp only[iM,Pu]
     refine(Ah (by omega)).trans ?_;refine(Ai (by omega)).trans ?_;refine(Yf _ _).trans ?_;rw[AE,i64_in ((i:Int)+1) (by omega)];unfold Hv;cases GD (s.getD i 0).toNat with
     |true=>rfl
     |false=>
      refine(Ai1 _ _).trans ?_;cases R8 (s.getD i 0).toNat with
      |true=>rfl
      |false=>show cond (!decide (((s.getD i 0).toNat:Int)=95)) (cond (!decide (((s.getD i 0).toNat:Int)=45)) _ _) _=cond (decide (((s.getD i 0).toNat:Int)=95)||decide (((s.getD i 0).toNat:Int)=45)) _ _;cases decide (((s.getD i 0).toNat:Int)=95)<;>cases decide (((s.getD i 0).toNat:Int)=45)<;>rfl
    ·simp only[iM,Pu]
     exact Ad (by omega)
    ·cases s.all Hv<;>rfl
def sn(l:List (List UInt8)):List (List UInt8×Bool):=l.map λs=>(s,true)
theorem Ai2(l:List (List UInt8))(s:List UInt8):mGet .str (sn l) s false=decide (s∈l):=by
 induction l with
 |nil=>rfl
 |cons x l ih=>
  show(bif decide (x=s)then true else mGet .str (sn l) s false)=_;by_cases h:x=s
  ·subst h
   simp
  ·rw[AB h,ih]
   show decide (s∈l)=decide (s∈x::l)
   have:s∈x::l↔s∈l:=by rw[AH];exact⟨λg=>g.resolve_left λe=>h e.symm,.inr⟩
   exact(decide_eq_decide.2 this).symm
theorem Ai3{l:List (List UInt8)}{s:List UInt8}(h:s∉l):mPut .str (sn l) s true=sn (l++[s]):=by
 induction l with
 |nil=>rfl
 |cons x l ih=>have hx:x≠s:=λe=>h (by rw[e];exact Bu ..);have hl:s∉l:=λe=>h (AU _ e);show(bif decide (x=s)then(s,true)::sn l else(x,true)::mPut .str (sn l) s true)=_;rw[AB hx,ih hl];rfl
def Cr(s:List UInt8)(l:List (List UInt8)):Int:=cond (BE s) (cond (decide (s∈l)) 4 0) 2
theorem Nb(s:List UInt8)(l:List (List UInt8))(k:Int->List (List UInt8×Bool)->Option β):Hq s (sn l) k=k (Cr s l) (sn (cond (decide (Cr s l=0)) (l++[s]) l)):=by
 unfold Hq;rw[Ab];unfold Cr;refine(Yg _ _).trans ?_;cases BE s with
 |false=>rfl
 |true=>
  show(let g:Bool:=mGet .str (sn l) s false;cond g _ _)=_;simp only[Ai2];by_cases h:s∈l
  ·rw[Aq h];rfl
  ·rw[AB h]
   show k 0 (mPut .str (sn l) s true)=_;rw[Ai3 h];rfl
def errV{σ:Type}:Int⊕σ->Int
 |.inl e=>e
 |.inr _=>0
theorem Hw{σ:Type}(k:Int->Option β)(r:Int⊕σ):sumK (λe=>k e) (λ_=>k 0) r=k (errV r):=by cases r<;>rfl
def I5(l:List (Int×Int))(i:Nat)(w:Int×Int)(_:Unit):Int⊕Unit:=
 cond (decide (w.1<0)||(decide (w.2<=w.1)||decide ((604800:Int)<w.2))) (.inl 1) (cond (decide (0<(i:Int))&&decide (w.1<(l.getD (i-1) (0,0)).2)) (.inl 6) (.inr ()))
def Cs(l:List (Int×Int)):Int:=cond (decide (14<(l.length:Int))) 5 (errV (walk (I5 l) l 0 ()))
theorem qP(l:List (Int×Int))(k:Int->Option β):L3 l k=k (Cs l):=by
 unfold L3;rw[Ab];unfold Cs;by_cases h:14<(l.length:Int)
 ·refine(Ah h).trans ?_
  rw[Aq h];rfl
 ·refine(Ad h).trans ?_
  rw[AB h];unfold U9;rw[Ab];refine(EO (λm i(_:Unit)=>Im m (λt=>k t) (λ_=>k 0) l l (l.length:Int) i) (I5 l) (λe=>k e) (λ_=>k 0) (0,0) l () fuel (AY (by omega)) (λm i _ hi=>?_) (λm _=>?_)).trans (Hw k _)
  ·simp only[eT,OX]
   refine(Ah (by omega)).trans ?_;refine(Ai (by omega)).trans ?_;rw[AE];generalize hw:l.getD i (0,0)=w
   have hp:∀t:Bool,J2 (λt=>k t) (λl2 t82 t92 t102=>Im m (λt=>k t) (λ_=>k 0) l2 t82 t92 (IntKind.i64.wrap (t102+1))) l (i:Int) l (l.length:Int) (i:Int) t w=
     sumK (λe=>k e) (λ_=>Im m (λt=>k t) (λ_=>k 0) l l (l.length:Int) ((i:Int)+1)) (cond t (.inl 1) (cond (decide (0<(i:Int))&&decide (w.1<(l.getD (i-1) (0,0)).2)) (.inl 6) (.inr ()):Int⊕Unit)):=by
    intro t;unfold J2;rw[Ab];unfold U8;cases t with
    |true=>rfl
    |false=>
     show cond (decide ((0:Int)<i)) _ _=_;by_cases h0:(0:Int)<i
     ·refine(Ah h0).trans ?_
      rw[i64_in ((i:Int)-1) (by omega)];refine(Ai (by omega)).trans ?_;simp only;rw[show((i:Int)-1).toNat=i-1 by omega,Aq h0,i64_in ((i:Int)+1) (by omega)];cases decide (w.1<(l.getD (i-1) (0,0)).2)<;>rfl
     ·refine(Ad h0).trans ?_
      simp only;rw[AB h0,i64_in ((i:Int)+1) (by omega)];rfl
   simp only[hp];unfold I5;cases decide (w.1<0)<;>cases decide (w.2<=w.1)<;>rfl
  ·simp only[eT,OX]
   exact Ad (by omega)
end
end
end Go.Lift
namespace Go.Lift
open Go.RowKit Go.IntWalk
noncomputable section
variable[Sl]
set_option maxRecDepth 10000
section
variable{β:Type}
def Ez(nz:Int)(p:Ay):Int:=cond (!ixI p.2.1 nz) 3 (cond (!decide (Cs p.2.2.1=0)) 8 (cond (!GC p.2.2.2.1) 1 (cond (!GC p.2.2.2.2.1) 1 0)))
theorem Ai4(c:Au)(p:Ay)(k:Int->Option β):PU c p k=k (Ez (c.1.length:Int) p):=by
 unfold PU;rw[Ab];unfold Ez;refine(r_ix _ _ _).trans ?_;cases ixI p.2.1 (c.1.length:Int)with
 |false=>rfl
 |true=>
  refine(qP _ _).trans ?_;show cond (!decide (Cs p.2.2.1=0)) _ _=k (cond (!decide (Cs p.2.2.1=0)) _ _);cases decide (Cs p.2.2.1=0)with
  |false=>rfl
  |true=>
   refine(qO _ _).trans ?_;cases GC p.2.2.2.1 with
   |false=>rfl
   |true=>refine(qO _ _).trans ?_;cases GC p.2.2.2.2.1<;>rfl
abbrev Ed:=Int×(Int×(Int×(Int×Int)))
def e1V(b:Bool)(x:Ed):Int:=cond b 1 (cond (decide (x.2.2.2.2<=x.2.2.2.1)) 6 0)
def e2V(b:Bool)(x:Ed):Int:=cond b 4 (e1V (decide (x.2.2.2.1<0)||(decide (x.2.2.2.2<0)||!dayI (IntKind.i64.wrap (Int.tdiv x.2.2.2.2 86400)))) x)
def e3V(b:Bool)(x:Ed):Int:=cond b 1 (e2V (decide (x.1=2)&&decide (x.2.1=x.2.2.1)) x)
def e4V(b:Bool)(x:Ed):Int:=cond b 3 (e3V ((!decide (x.1=2))&&!decide (x.2.2.1=0)) x)
def DG(np:Int)(x:Ed):Int:=
 cond (!inI x.1 0 2) 1 (e4V (((!ixI x.2.1 np)&&!(decide (x.1=1)&&decide (x.2.1=-1)))||(decide (x.1=2)&&!ixI x.2.2.1 np)) x)
theorem r_e1(b:Bool)(x:Ed)(k:Int->Option β):JD (λt=>k t) (λ_=>k 0) b x=k (e1V b x):=by
 unfold JD;rw[Ab];unfold Wn e1V;cases b with
 |true=>rfl
 |false=>show cond (decide (x.2.2.2.2<=x.2.2.2.1)) _ _=k (cond (decide (x.2.2.2.2<=x.2.2.2.1)) _ _);cases decide (x.2.2.2.2<=x.2.2.2.1)<;>rfl
theorem r_e2(b:Bool)(x:Ed)(k:Int->Option β):Mu (λt=>k t) (λ_=>k 0) b x=k (e2V b x):=by
 unfold Mu;rw[Ab];unfold Wo e2V;cases b with
 |true=>rfl
 |false=>
  show cond (decide (x.2.2.2.1<0)) _ _=k (e1V (decide (x.2.2.2.1<0)||_) x);cases decide (x.2.2.2.1<0)with
  |true=>exact r_e1 _ _ _
  |false=>
   show cond (decide (x.2.2.2.2<0)) _ _=k (e1V (decide (x.2.2.2.2<0)||_) x);cases decide (x.2.2.2.2<0)with
   |true=>exact r_e1 _ _ _
   |false=>exact(Ye _ _).trans (r_e1 _ _ _)
theorem r_e3(b:Bool)(x:Ed)(k:Int->Option β):Mv (λt=>k t) (λ_=>k 0) b x=k (e3V b x):=by
 unfold Mv;rw[Ab];unfold Wp e3V;cases b with
 |true=>rfl
 |false=>show cond (decide (x.1=2)) _ _=k (e2V (decide (x.1=2)&&_) x);cases decide (x.1=2)<;>exact r_e2 _ _ _
theorem r_e4(b:Bool)(x:Ed)(k:Int->Option β):Ix (λt=>k t) (λ_=>k 0) b x=k (e4V b x):=by
 unfold Ix;rw[Ab];unfold Wq e4V;cases b with
 |true=>rfl
 |false=>show cond (!decide (x.1=2)) _ _=k (e3V ((!decide (x.1=2))&&_) x);cases decide (x.1=2)<;>exact r_e3 _ _ _
theorem Ai5(c:Au)(x:Ed)(k:Int->Option β):Qk c x k=k (DG (c.2.1.length:Int) x):=by
 have h5:∀b:Bool,JE (λt14 x2=>Ix (λt=>k t) (λ_=>k 0) t14 x2) (c.2.1.length:Int) b x=k (e4V (b||(decide (x.1=2)&&!ixI x.2.2.1 (c.2.1.length:Int))) x):=by
  intro b;unfold JE;rw[Ab];unfold Wr;cases b with
  |true=>exact r_e4 _ _ _
  |false=>
   show cond (decide (x.1=2)) _ _=k (e4V (decide (x.1=2)&&_) x);cases decide (x.1=2)with
   |false=>exact r_e4 _ _ _
   |true=>exact(r_ix _ _ _).trans (r_e4 _ _ _)
 unfold Qk;rw[Ab];unfold DG;refine(r_in _ _ _ _).trans ?_;cases inI x.1 0 2 with
 |false=>rfl
 |true=>
  refine(r_ix _ _ _).trans ?_;show cond (!ixI x.2.1 (c.2.1.length:Int)) _ _=k (e4V (((!ixI x.2.1 (c.2.1.length:Int))&&_)||_) x);cases ixI x.2.1 (c.2.1.length:Int)with
  |true=>exact h5 _
  |false=>show cond (decide (x.1=1)) _ _=k (e4V ((!(decide (x.1=1)&&_))||_) x);cases decide (x.1=1)<;>exact h5 _
def l1V(b:Bool)(l:AD):Int:=cond b 3 (cond (decide (l.2.2.2.2.2.2.2.2=0)) (cond (!decide (l.2.2.2.2.2.2.2.1=0)) 1 0) 0)
def l2V(np nc:Int)(b:Bool)(l:AD):Int:=
 cond b 1 (cond (decide ((l.2.2.2.2.2.1.length:Int)=0)) 7 (cond (decide (12<(l.2.2.2.2.2.1.length:Int))) 5 (cond (!l.2.2.2.2.2.1.all λm=>ixI m np) 3
  (cond (!decide (Cs l.2.2.2.2.2.2.1=0)) 8 (cond (!inI l.2.2.2.2.2.2.2.2 0 2) 1 (l1V ((!decide (l.2.2.2.2.2.2.2.2=0))&&!ixI l.2.2.2.2.2.2.2.1 nc) l))))))
def CG(nz np nc:Int)(l:AD):Int:=
 cond (!ixI l.2.1 nz) 3 (l2V np nc (decide (l.2.2.1.1<1)||((!dayI l.2.2.1.1)||((!inI l.2.2.1.2 0 86399)||((!inI l.2.2.2.1 0 2)||!inI l.2.2.2.2.1 1 400)))) l)
theorem r_l1(b:Bool)(l:AD)(k:Int->Option β):MK (λt=>k t) (λ_=>k 0) b l=k (l1V b l):=by
 unfold MK;rw[Ab];unfold Xo l1V;cases b with
 |true=>rfl
 |false=>show cond (decide (l.2.2.2.2.2.2.2.2=0)) (cond (!decide (l.2.2.2.2.2.2.2.1=0)) _ _) _=k (cond (decide (l.2.2.2.2.2.2.2.2=0)) (cond (!decide (l.2.2.2.2.2.2.2.1=0)) _ _) _);cases decide (l.2.2.2.2.2.2.2.2=0)<;>cases decide (l.2.2.2.2.2.2.2.1=0)<;>rfl
theorem Ai6(s:List Int)(hs:s.length<=1000000)(c:Au)(k:Bool->Au->Option β):QJ s c k=k (!s.all λm=>ixI m (c.2.1.length:Int)) c:=by
 unfold QJ;rw[Ab];unfold WW;rw[Ab];unfold WV;rw[Ab];refine(Hu (λm i=>MD m (λt b=>k (decide ((0:Int)<=t)) b) (λb=>k (decide ((0:Int)≤-1)) b) s (s.length:Int) i c) (λm=>ixI m (c.2.1.length:Int)) (k true c) (k false c) 0 s fuel (AY (by omega)) (λm i hi=>?_) (λm=>?_)).trans ?_
 ·simp only[nM,QD]
  refine(Ah (by omega)).trans ?_;refine(Ai (by omega)).trans ?_;rw[AE,i64_in ((i:Int)+1) (by omega)];unfold UE;rw[Ab];refine(r_ix _ _ _).trans ?_;cases ixI (s.getD i 0) (c.2.1.length:Int)with
  |true=>rfl
  |false=>show k (decide ((0:Int)<=i)) c=k true c;rw[Aq (by omega:(0:Int)<=i)]
 ·simp only[nM,QD]
  exact Ad (by omega)
 ·cases s.all λm=>ixI m (c.2.1.length:Int)<;>rfl
theorem r_l2(b:Bool)(c:Au)(l:AD)(k:Int->Option β):Hr (λt=>k t) (λ_=>k 0) b c l=k (l2V (c.2.1.length:Int) (c.2.2.1.length:Int) b l):=by
 unfold Hr;rw[Ab];unfold Xp l2V;cases b with
 |true=>rfl
 |false=>
  show cond (decide ((l.2.2.2.2.2.1.length:Int)=0)) _ _=k (cond (decide ((l.2.2.2.2.2.1.length:Int)=0)) _ _);cases decide ((l.2.2.2.2.2.1.length:Int)=0)with
  |true=>rfl
  |false=>
   show cond (decide ((12:Int)<(l.2.2.2.2.2.1.length:Int))) _ _=k (cond (decide ((12:Int)<(l.2.2.2.2.2.1.length:Int))) _ _);by_cases h:(12:Int)<(l.2.2.2.2.2.1.length:Int)
   ·rw[Aq h];rfl
   ·rw[AB h]
    refine(Ai6 _ (by omega) _ _).trans ?_;cases l.2.2.2.2.2.1.all λm=>ixI m (c.2.1.length:Int)with
    |false=>rfl
    |true=>
     refine(qP _ _).trans ?_;show cond (!decide (Cs l.2.2.2.2.2.2.1=0)) _ _=k (cond (!decide (Cs l.2.2.2.2.2.2.1=0)) _ _);cases decide (Cs l.2.2.2.2.2.2.1=0)with
     |false=>rfl
     |true=>
      refine(r_in _ _ _ _).trans ?_;cases inI l.2.2.2.2.2.2.2.2 0 2 with
      |false=>rfl
      |true=>
       show cond (!decide (l.2.2.2.2.2.2.2.2=0)) _ _=k (l1V ((!decide (l.2.2.2.2.2.2.2.2=0))&&_) l);cases decide (l.2.2.2.2.2.2.2.2=0)with
       |true=>exact r_l1 _ _ _
       |false=>exact(r_ix _ _ _).trans (r_l1 _ _ _)
theorem Ai7(c:Au)(l:AD)(k:Int->Option β):QR c l k=k (CG (c.1.length:Int) (c.2.1.length:Int) (c.2.2.1.length:Int) l):=by
 unfold QR;rw[Ab];unfold CG;refine(r_ix _ _ _).trans ?_;cases ixI l.2.1 (c.1.length:Int)with
 |false=>rfl
 |true=>
  show cond (decide (l.2.2.1.1<1)) _ _=k (l2V _ _ (decide (l.2.2.1.1<1)||_) l);cases decide (l.2.2.1.1<1)with
  |true=>exact r_l2 _ _ _ _
  |false=>
   refine(Ye _ _).trans ?_;show cond (!dayI l.2.2.1.1) _ _=k (l2V _ _ ((!dayI l.2.2.1.1)||_) l);cases dayI l.2.2.1.1 with
   |false=>exact r_l2 _ _ _ _
   |true=>
    refine(r_in _ _ _ _).trans ?_;show cond (!inI l.2.2.1.2 0 86399) _ _=k (l2V _ _ ((!inI l.2.2.1.2 0 86399)||_) l);cases inI l.2.2.1.2 0 86399 with
    |false=>exact r_l2 _ _ _ _
    |true=>
     refine(r_in _ _ _ _).trans ?_;show cond (!inI l.2.2.2.1 0 2) _ _=k (l2V _ _ ((!inI l.2.2.2.1 0 2)||_) l);cases inI l.2.2.2.1 0 2 with
     |false=>exact r_l2 _ _ _ _
     |true=>exact(r_in _ _ _ _).trans (r_l2 _ _ _ _)
theorem Ai8(s:List Int)(hs:s.length<=1000000)(k:Bool->Option β):QI s k=k (!s.all dayI):=by
 unfold QI;rw[Ab];unfold WT;rw[Ab];unfold WS;rw[Ab];refine(Hu (λm i=>MC m (λt=>k (decide ((0:Int)<=t))) (λ_=>k (decide ((0:Int)≤-1))) s (s.length:Int) i) dayI (k true) (k false) 0 s fuel (AY (by omega)) (λm i hi=>?_) (λm=>?_)).trans ?_
 ·simp only[nH,QC]
  refine(Ah (by omega)).trans ?_;refine(Ai (by omega)).trans ?_;rw[AE,i64_in ((i:Int)+1) (by omega)];unfold Wz;rw[Ab];refine(Ye _ _).trans ?_;cases dayI (s.getD i 0)with
  |true=>rfl
  |false=>show k (decide ((0:Int)<=i))=k true;rw[Aq (by omega:(0:Int)<=i)]
 ·simp only[nH,QC]
  exact Ad (by omega)
 ·cases s.all dayI<;>rfl
def ascG(l:List Int)(i:Nat)(d:Int)(_:Unit):Int⊕Unit:=cond (decide (0<(i:Int))&&decide (d<=l.getD (i-1) 0)) (.inl 6) (.inr ())
def calV(nz:Int)(x:AF):Int:=
 cond (!ixI x.2.1 nz) 3 (cond (decide (64<(x.2.2.length:Int))) 5 (cond (!x.2.2.all dayI) 1 (errV (walk (ascG x.2.2) x.2.2 0 ()))))
theorem Ai9(c:Au)(x:AF)(k:Int->Option β):QM c x k=k (calV (c.1.length:Int) x):=by
 unfold QM;rw[Ab];unfold calV;refine(r_ix _ _ _).trans ?_;cases ixI x.2.1 (c.1.length:Int)with
 |false=>rfl
 |true=>
  show cond (decide ((64:Int)<(x.2.2.length:Int))) _ _=k (cond (decide ((64:Int)<(x.2.2.length:Int))) _ _);by_cases h:(64:Int)<(x.2.2.length:Int)
  ·rw[Aq h];rfl
  ·rw[AB h]
   refine(Ai8 _ (by omega) _).trans ?_;cases x.2.2.all dayI with
   |false=>rfl
   |true=>
    show QL (λt=>k t) (λ_=>k 0) (x.2.2.length:Int) 0 x=k (errV (walk (ascG x.2.2) x.2.2 0 ()));unfold QL;rw[Ab];refine(EO (λm i(_:Unit)=>MH m (λt=>k t) (λ_=>k 0) (x.2.2.length:Int) i x) (ascG x.2.2) (λe=>k e) (λ_=>k 0) 0 x.2.2 () fuel (AY (by omega)) (λm i _ hi=>?_) (λm _=>?_)).trans (Hw k _)
    ·simp only[o6,QK]
     refine(Ah (by omega)).trans ?_;unfold ascG;rw[i64_in ((i:Int)+1) (by omega)];by_cases h0:(0:Int)<i
     ·refine(Ah h0).trans ?_
      refine(Ai (by omega)).trans ?_;rw[i64_in ((i:Int)-1) (by omega)];refine(Ai (by omega)).trans ?_;rw[show((i:Int)-1).toNat=i-1 by omega,AE,Aq h0];cases decide (x.2.2.getD i 0<=x.2.2.getD (i-1) 0)<;>rfl
     ·refine(Ad h0).trans ?_
      rw[AB h0];rfl
    ·simp only[o6,QK]
     exact Ad (by omega)
def D4{α:Type}(of:α->List UInt8)(chk:α->Int)(_:Nat)(x:α)(l:List (List UInt8)):Int⊕List (List UInt8):=
 cond (decide (Cr (of x) l=0)) (cond (decide (chk x=0)) (.inr (l++[of x])) (.inl (chk x))) (.inl (Cr (of x) l))
def Dv{α:Type}(of:α->List UInt8)(chk:α->Int)(xs:List α):Int:=errV (walk (D4 of chk) xs 0 [])
theorem Cc{α:Type}{xs:List α}{i:Nat}{d:α}(h:i<xs.length):xs.getD i d∈xs:=by rw[ID,Bx h];exact Sn h
theorem R9{α:Type}(E:Int->Option β)(K:List (List UInt8)->Option β)(of:α->List UInt8)(chk:α->Int)(i:Nat)(x:α)(l:List (List UInt8)):sumK E K (D4 of chk i x l)=cond (!decide (Cr (of x) l=0)) (E (Cr (of x) l)) (cond (!decide (chk x=0)) (E (chk x)) (K (l++[of x]))):=by
 unfold D4;cases decide (Cr (of x) l=0)<;>cases decide (chk x=0)<;>rfl
theorem RA{s:List UInt8}{l:List (List UInt8)}{a:Option β}{f:List (List UInt8×Bool)->Option β}:cond (!decide (Cr s l=0)) a (f (sn (cond (decide (Cr s l=0)) (l++[s]) l)))=cond (!decide (Cr s l=0)) a (f (sn (l++[s]))):=by
 cases decide (Cr s l=0)<;>rfl
theorem Aia(xs:List At)(zv:At->Int)(hz:∀z∈xs,∀k:Int->Option β,JN z k=k (zv z))(hs:xs.length<=1000000)(k:Int->Option β):Rf xs k=k (Dv (·.1) zv xs):=by
 unfold Rf;rw[Ab];unfold X9;rw[Ab];refine(EO (λm i l=>JO m (λt=>k t) (λ_=>k 0) xs (xs.length:Int) i (sn l)) (D4 (·.1) zv) (λe=>k e) (λ_=>k 0) ([],0,[]) xs [] fuel (AY (by omega)) (λm i l hi=>?_) (λm _=>?_)).trans (Hw k _)
 ·simp only[pB,Re]
  refine(Ah (by omega)).trans ?_;refine(Ai (by omega)).trans ?_;rw[AE,i64_in ((i:Int)+1) (by omega),R9];generalize hx:xs.getD i ([],0,[])=x;have hm:x∈xs:=hx▸Cc hi;unfold Uq;rw[Ab];refine(Nb _ _ _).trans ?_;rw[hz x hm];exact RA (f:=λt=>cond (!decide (zv x=0)) (k (zv x)) (JO m (λt=>k t) (λ_=>k 0) xs (xs.length:Int) ((i:Int)+1) t))
 ·simp only[pB,Re]
  exact Ad (by omega)
theorem Aib(c:Au)(xs:List AF)(hs:xs.length<=1000000)(k:Int->Au->Option β):Rh xs c k=k (Dv (·.1) (calV (c.1.length:Int)) xs) c:=by
 unfold Rh;rw[Ab];unfold XB;rw[Ab];refine(EO (λm i l=>JP m (λt b=>k t b) (λb=>k 0 b) xs (xs.length:Int) i c (sn l)) (D4 (·.1) (calV (c.1.length:Int))) (λe=>k e c) (λ_=>k 0 c) ([],0,[]) xs [] fuel (AY (by omega)) (λm i l hi=>?_) (λm _=>?_)).trans (Hw (λe=>k e c) _)
 ·simp only[pG,Rg]
  refine(Ah (by omega)).trans ?_;refine(Ai (by omega)).trans ?_;rw[AE,i64_in ((i:Int)+1) (by omega),R9];generalize hx:xs.getD i ([],0,[])=x;unfold Ur Xz;rw[Ab,Ab];refine(Nb _ _ _).trans ?_;refine(Aj (cond _ _) (Ai9 _ _ _)).trans ?_;exact RA (f:=λt=>cond (!decide (calV (c.1.length:Int) x=0)) (k (calV (c.1.length:Int) x) c) (JP m (λt b=>k t b) (λb=>k 0 b) xs (xs.length:Int) ((i:Int)+1) c t))
 ·simp only[pG,Rg]
  exact Ad (by omega)
theorem Aic(c:Au)(xs:List AD)(hs:xs.length<=1000000)(k:Int->Au->Option β):QY xs c k=k (Dv (·.1) (CG (c.1.length:Int) (c.2.1.length:Int) (c.2.2.1.length:Int)) xs) c:=by
 unfold QY;rw[Ab];unfold X2;rw[Ab];refine(EO (λm i l=>JM m (λt b=>k t b) (λb=>k 0 b) xs (xs.length:Int) i c (sn l)) (D4 (·.1) (CG (c.1.length:Int) (c.2.1.length:Int) (c.2.2.1.length:Int))) (λe=>k e c) (λ_=>k 0 c) ([],0,(0,0),0,0,[],[],0,0) xs [] fuel (AY (by omega)) (λm i l hi=>?_) (λm _=>?_)).trans (Hw (λe=>k e c) _)
 ·simp only[oQ,QX]
  refine(Ah (by omega)).trans ?_;refine(Ai (by omega)).trans ?_;rw[AE,i64_in ((i:Int)+1) (by omega),R9];generalize hx:xs.getD i ([],0,(0,0),0,0,[],[],0,0)=x;unfold UA X0;rw[Ab,Ab];refine(Nb _ _ _).trans ?_;refine(Aj (cond _ _) (Ai7 _ _ _)).trans ?_;exact RA (f:=λt=>cond (!decide (CG (c.1.length:Int) (c.2.1.length:Int) (c.2.2.1.length:Int) x=0)) (k (CG (c.1.length:Int) (c.2.1.length:Int) (c.2.2.1.length:Int) x) c) (JM m (λt b=>k t b) (λb=>k 0 b) xs (xs.length:Int) ((i:Int)+1) c t))
 ·simp only[oQ,QX]
  exact Ad (by omega)
def GE(np:Int)(_:Nat)(x:Ed)(_:Unit):Int⊕Unit:=cond (decide (DG np x=0)) (.inr ()) (.inl (DG np x))
def DH(nz np nc:Int)(x:AK):Int:=
 cond (decide (6<(x.2.1.length:Int))) 5 (cond (decide (48<(x.2.2.length:Int))) 5
  (cond (decide (Dv (·.1) (CG nz np nc) x.2.1=0)) (errV (walk (GE np) x.2.2 0 ())) (Dv (·.1) (CG nz np nc) x.2.1)))
theorem Aid(c:Au)(x:AK)(k:Int->Option β):Rb c x k=k (DH (c.1.length:Int) (c.2.1.length:Int) (c.2.2.1.length:Int) x):=by
 unfold Rb;rw[Ab];unfold DH;by_cases h1:(6:Int)<(x.2.1.length:Int)
 ·refine(Ah h1).trans ?_
  rw[Aq h1];rfl
 refine(Ad h1).trans ?_;rw[AB h1];by_cases h2:(48:Int)<(x.2.2.length:Int)
 ·refine(Ah h2).trans ?_
  rw[Aq h2];rfl
 refine(Ad h2).trans ?_;rw[AB h2];refine(Aic c _ (by omega) _).trans ?_;show cond (!decide (Dv _ (CG _ _ _) x.2.1=0)) _ _=k (cond (decide (Dv _ (CG _ _ _) x.2.1=0)) _ _);cases decide (Dv (·.1) (CG (c.1.length:Int) (c.2.1.length:Int) (c.2.2.1.length:Int)) x.2.1=0)with
 |false=>rfl
 |true=>
  show Ra (λt=>k t) (λ_=>k 0) x.2.2 (x.2.2.length:Int) 0 c=k (errV (walk (GE (c.2.1.length:Int)) x.2.2 0 ()));unfold Ra;rw[Ab];refine(EO (λm i(_:Unit)=>MN m (λt=>k t) (λ_=>k 0) x.2.2 (x.2.2.length:Int) i c) (GE (c.2.1.length:Int)) (λe=>k e) (λ_=>k 0) (0,0,0,0,0) x.2.2 () fuel (AY (by omega)) (λm i _ hi=>?_) (λm _=>?_)).trans (Hw k _)
  ·simp only[oX,QZ]
   refine(Ah (by omega)).trans ?_;refine(Ai (by omega)).trans ?_;rw[AE,i64_in ((i:Int)+1) (by omega)];refine(Ai5 _ _ _).trans ?_;unfold GE;cases decide (DG (c.2.1.length:Int) (x.2.2.getD i (0,0,0,0,0))=0)<;>rfl
  ·simp only[oX,QZ]
   exact Ad (by omega)
theorem Aie(c:Au)(xs:List AK)(hs:xs.length<=1000000)(k:Int->Au->Option β):Rj xs c k=k (Dv (·.1) (DH (c.1.length:Int) (c.2.1.length:Int) (c.2.2.1.length:Int)) xs) c:=by
 unfold Rj;rw[Ab];unfold XD;rw[Ab];refine(EO (λm i l=>JQ m (λt b=>k t b) (λb=>k 0 b) xs (xs.length:Int) i c (sn l)) (D4 (·.1) (DH (c.1.length:Int) (c.2.1.length:Int) (c.2.2.1.length:Int))) (λe=>k e c) (λ_=>k 0 c) ([],[],[]) xs [] fuel (AY (by omega)) (λm i l hi=>?_) (λm _=>?_)).trans (Hw (λe=>k e c) _)
 ·simp only[pL,Ri]
  refine(Ah (by omega)).trans ?_;refine(Ai (by omega)).trans ?_;rw[AE,i64_in ((i:Int)+1) (by omega),R9];generalize hx:xs.getD i ([],[],[])=x;unfold Us X4;rw[Ab,Ab];refine(Nb _ _ _).trans ?_;refine(Aj (cond _ _) (Aid _ _ _)).trans ?_;exact RA (f:=λt=>cond (!decide (DH (c.1.length:Int) (c.2.1.length:Int) (c.2.2.1.length:Int) x=0)) (k (DH (c.1.length:Int) (c.2.1.length:Int) (c.2.2.1.length:Int) x) c) (JQ m (λt b=>k t b) (λb=>k 0 b) xs (xs.length:Int) ((i:Int)+1) c t))
 ·simp only[pL,Ri]
  exact Ad (by omega)
def DI:List UInt8:=[110,111,98,111,100,121]
def FT(nz:Int)(p:Ay)(l:List (List UInt8)):Int:=cond (decide (p.1=DI)) 2 (Cr p.1 l)
def GF(nz:Int)(_:Nat)(p:Ay)(l:List (List UInt8)):Int⊕List (List UInt8):=
 cond (decide (FT nz p l=0)) (cond (decide (Ez nz p=0)) (.inr (l++[p.1])) (.inl (Ez nz p))) (.inl (FT nz p l))
def Nc(nz:Int)(xs:List Ay):Int:=errV (walk (GF nz) xs 0 [])
def orV(a b:Int):Int:=cond (decide (a=0)) b a
def Nd(zv:At->Int)(c:Au):Int:=
 cond (decide (16<(c.1.length:Int))) 5 (cond (decide (32<(c.2.1.length:Int))) 5 (cond (decide (8<(c.2.2.1.length:Int))) 5 (cond (decide (12<(c.2.2.2.length:Int))) 5
  (orV (Dv (·.1) zv c.1) (orV (Nc (c.1.length:Int) c.2.1) (orV (Dv (·.1) (calV (c.1.length:Int)) c.2.2.1)
   (Dv (·.1) (DH (c.1.length:Int) (c.2.1.length:Int) (c.2.2.1.length:Int)) c.2.2.2)))))))
theorem qQ{k:Int->Option β}{a b:Int}{g:Option β}(h:g=k b):cond (!decide (a=0)) (k a) g=k (orV a b):=by rw[h];unfold orV;cases decide (a=0)<;>rfl
theorem Aif{nz:Int}{xs:List Ay}:∀{j:Nat}{l:List (List UInt8)}{e:Int},walk (GF nz) xs j l=.inl e->e≠0:=by
 induction xs with
 |nil=>intro j l e h;cases h
 |cons x xs ih=>
  intro j l e h;unfold walk at h;unfold GF at h;by_cases h1:FT nz x l=0
  ·rw[Aq h1]at h
   by_cases h2:Ez nz x=0
   ·rw[Aq h2]at h
    exact ih h
   ·rw[AB h2]at h
    injection h with h;exact h▸h2
  ·rw[AB h1]at h
   injection h with h;exact h▸h1
theorem Aig(nz:Int){p:Ay}{l:List (List UInt8)}{f:Int->List (List UInt8×Bool)->Option β}:cond (decide (p.1=DI)) (f 2 (sn (cond (decide (Cr p.1 l=0)) (l++[p.1]) l))) (f (Cr p.1 l) (sn (cond (decide (Cr p.1 l=0)) (l++[p.1]) l)))=f (FT nz p l) (sn (cond (decide (Cr p.1 l=0)) (l++[p.1]) l)):=by
 unfold FT;cases decide (p.1=DI)<;>rfl
theorem Aih{nz:Int}{p:Ay}{l:List (List UInt8)}(h:FT nz p l=0):Cr p.1 l=0:=by
 unfold FT at h;cases hp:decide (p.1=DI)with
 |true=>rw[hp]at h;cases h
 |false=>rw[hp]at h;exact h
theorem Aii(c:Au)(xs:List Ay)(hs:xs.length<=1000000)(k:Int->Option β)(K:Au->Option β)(b:Int)(hK:K c=k b):Rl (λt=>k t) K xs (xs.length:Int) 0 c []=k (orV (Nc (c.1.length:Int) xs) b):=by
 unfold Rl;rw[Ab];refine(EO (λm i l=>JR m (λt=>k t) K xs (xs.length:Int) i c (sn l)) (GF (c.1.length:Int)) (λe=>k e) (λ_=>k b) ([],0,[],0,0,false) xs [] fuel (AY (by omega)) (λm i l hi=>?_) (λm _=>?_)).trans ?_
 ·simp only[pP,Rk]
  refine(Ah (by omega)).trans ?_;refine(Ai (by omega)).trans ?_;rw[AE];generalize hx:xs.getD i ([],0,[],0,0,false)=x;refine(Nb _ _ _).trans ?_;refine(Aig (c.1.length:Int) (f:=λe s=>MP (λt=>k t) (λt392 t402 t412 c2 seen2=>JR m (λt=>k t) K t392 t402 (IntKind.i64.wrap (t412+1)) c2 seen2) e xs (xs.length:Int) (i:Int) c s x)).trans ?_;unfold MP;rw[Ab];unfold XH GF;simp only;rw[i64_in ((i:Int)+1) (by omega)];by_cases h1:FT (c.1.length:Int) x l=0
  ·refine(Ah h1).trans ?_
   rw[Aq h1,Aih h1];refine(Ai4 _ _ _).trans ?_;cases decide (Ez (c.1.length:Int) x=0)<;>rfl
  ·refine(Ad h1).trans ?_
   refine(CL h1).trans ?_;rw[AB h1];rfl
 ·simp only[pP,Rk]
  exact(Ad (by omega)).trans hK
 ·unfold Nc
  cases hw:walk (GF (c.1.length:Int)) xs 0 []with
  |inr _=>rfl
  |inl e=>have:=Aif hw;show k e=k (orV e b);unfold orV;rw[AB this];rfl
theorem qR(c:Au)(zv:At->Int)(hz:∀z∈c.1,∀k:Int->Option β,JN z k=k (zv z))(k:Int->Option β):JS c k=k (Nd zv c):=by
 unfold JS;rw[Ab];unfold Nd;by_cases h1:(16:Int)<(c.1.length:Int)
 ·refine(Ah h1).trans ?_
  rw[Aq h1];rfl
 refine(Ad h1).trans ?_;rw[AB h1];by_cases h2:(32:Int)<(c.2.1.length:Int)
 ·refine(Ah h2).trans ?_
  rw[Aq h2];rfl
 refine(Ad h2).trans ?_;rw[AB h2];by_cases h3:(8:Int)<(c.2.2.1.length:Int)
 ·refine(Ah h3).trans ?_
  rw[Aq h3];rfl
 refine(Ad h3).trans ?_;rw[AB h3];by_cases h4:(12:Int)<(c.2.2.2.length:Int)
 ·refine(Ah h4).trans ?_
  rw[Aq h4];rfl
 refine(Ad h4).trans ?_;rw[AB h4];refine(Aia c.1 zv hz (by omega) _).trans ?_;refine qQ (k:=k) ?_;refine Aii c c.2.1 (by omega) k _ _ ?_;refine(Aib c c.2.2.1 (by omega) _).trans ?_;refine qQ (k:=k) ?_;exact Aie c c.2.2.2 (by omega) _
end
end
end Go.Lift
namespace Go.Lift
open Go.RowKit Go.IntWalk
noncomputable section
variable[Sl]
set_option maxRecDepth 10000
section
variable{β:Type}
theorem Aij{y m:Int}(hy:1970<=y/\y<=2240)(hm:1<=m/\m<=12)(k:Int->Option β):It (y,(m,1)) k=k (cntN y+sumM (AQ y) (m-1).toNat):=by
 have hs0:sumM (AQ y) 0=0:=rfl;have hb:=JX (AQ y) (m-1).toNat;have h0:0<=cntN y/\cntN y<=100000:=by unfold cntN;omega
 unfold It;rw[Ab];refine(FS (y:=y) (by omega) _).trans ?_;simp only;rw[i64_in (cntN y+1) (by omega),i64_in (cntN y+1-1) (by omega)];unfold P5;rw[Ab];refine(qM (y:=y) (by omega) m 1 (m-1).toNat fuel 0 (cntN y+1-1) (by omega) (by omega) (AY (by omega)) (by omega) (by omega) _).trans (k_eq ?_);rw[BW,hs0];omega
def Bc(y m:Int):Int:=cntN y+sumM (AQ y) (m-1).toNat
theorem qS(lp:Prop)[Decidable lp]{m:Int}(hm:1<=m/\m<=12):28<=B4 lp m/\B4 lp m<=31:=by
 unfold B4;rw[if_neg (by omega),if_neg (by omega)];by_cases h2:m=2
 ·rw[if_pos h2]
  by_cases h3:lp
  ·rw[if_pos h3];omega
  ·rw[if_neg h3];omega
 ·rw[if_neg h2]
  by_cases h4:m=4\/m=6\/m=9\/m=11
  ·rw[if_pos h4];omega
  ·rw[if_neg h4];omega
def nthD(y m w wd:Int):Int:=
 let n:=Bc y m
 let d:=n+(wd-(n+3)%7+7)%7+7*(w-1)
 if n+B4 (AQ y) m<=d then d-7 else d
theorem Aik{y m:Int}(hy:1970<=y/\y<=2240)(hm:1<=m/\m<=12):0<=Bc y m/\Bc y m<=200000:=by
 have hb:=JX (AQ y) (m-1).toNat;have hb2:sumM (AQ y) (m-1).toNat<=sumM (AQ y) (m-1).toNat:=Gd _;have h0:0<=cntN y/\cntN y<=99000:=by unfold cntN;omega
 unfold Bc;omega
theorem Ail{y m w wd:Int}(hy:1970<=y/\y<=2240)(hm:1<=m/\m<=12)(hw:1<=w/\w<=5)(hd:0<=wd/\wd<=6)(k:Int->Int->Option β):PZ y m w wd k=k (nthD y m w wd) 0:=by
 have hl:=qS (AQ y) hm;have hb:=JX (AQ y) (m-1).toNat;have h0:0<=cntN y/\cntN y<=99000:=by unfold cntN;omega
 have hn:0<=Bc y m/\Bc y m<=100000:=by unfold Bc;omega
 unfold PZ;rw[Ab]
 have hv:∀k:Bool->Option β,Is (y,m,1) k=k true:=by intro k;unfold Is;rw[Ab];refine(Ah hy.1).trans ?_;refine(Ah hy.2).trans ?_;refine(Ah (by show(1:Int)<=1;omega)).trans ?_;refine(I4 (by show 0<=y;omega) _ _).trans ?_;exact k_eq (Aq (by show 1<=B4 (AQ y) m;omega))
 refine(hv _).trans ?_;refine(Ad (by omega)).trans ?_;refine(Ad (by omega)).trans ?_;refine(Ad (by omega)).trans ?_;refine(Ad (by omega)).trans ?_;refine(Aij hy hm _).trans ?_;rw[show cntN y+sumM (AQ y) (m-1).toNat=Bc y m from rfl];unfold UU;rw[Ab];refine(I4 (by omega) _ _).trans ?_;have e1:Int.tmod (Bc y m) 7=Bc y m%7:=Dk hn.1;simp only;rw[e1];have e2:IntKind.i64.wrap (Bc y m%7+10)=Bc y m%7+10:=i64_in _ (by omega);rw[e2]
 have e3:Int.tmod (Bc y m%7+10) 7=(Bc y m+3)%7:=by rw[Dk (by omega)];omega
 rw[e3];have g1:0<=(Bc y m+3)%7/\(Bc y m+3)%7<7:=by omega
 rw[i64_in (wd-(Bc y m+3)%7) (by omega),i64_in (wd-(Bc y m+3)%7+7) (by omega)];rw[Dk (a:=wd-(Bc y m+3)%7+7) (by omega)];have g2:0<=(wd-(Bc y m+3)%7+7)%7/\(wd-(Bc y m+3)%7+7)%7<7:=by omega
 rw[i64_in (w-1) (by omega),i64_in (7*(w-1)) (by omega),i64_in (Bc y m+(wd-(Bc y m+3)%7+7)%7) (by omega),
  i64_in (Bc y m+(wd-(Bc y m+3)%7+7)%7+7*(w-1)) (by omega),i64_in (Bc y m+B4 (AQ y) m) (by omega),
  i64_in (Bc y m+(wd-(Bc y m+3)%7+7)%7+7*(w-1)-7) (by omega)]
 unfold nthD;simp only;by_cases h:Bc y m+B4 (AQ y) m<=Bc y m+(wd-(Bc y m+3)%7+7)%7+7*(w-1)
 ·refine(Ah h).trans ?_
  rw[if_pos h]
 ·refine(Ad h).trans ?_
  rw[if_neg h]
theorem FU{y m w wd:Int}(hm:1<=m/\m<=12)(hw:1<=w/\w<=5):Bc y m+7*(w-1)-7<=nthD y m w wd/\nthD y m w wd<=Bc y m+7*w-1/\(w<=4->Bc y m+7*(w-1)<=nthD y m w wd)/\nthD y m w wd<=Bc y m+30:=by
 have hl:=qS (AQ y) hm;unfold nthD;simp only;by_cases h:Bc y m+B4 (AQ y) m<=Bc y m+(wd-(Bc y m+3)%7+7)%7+7*(w-1)
 ·rw[if_pos h];omega
 ·rw[if_neg h];omega
structure RuleOk (r:Bd):Prop where
 f:1970<=r.1/\r.1<=2240
 t:r.1<=r.2.1/\r.2.1<=2240
 m:1<=r.2.2.1/\r.2.2.1<=12
 w:1<=r.2.2.2.1/\r.2.2.2.1<=5
 d:0<=r.2.2.2.2.1/\r.2.2.2.2.1<=6
 s:0<=r.2.2.2.2.2.1/\r.2.2.2.2.2.1<=86399
 o:-64800<=r.2.2.2.2.2.2/\r.2.2.2.2.2.2<=64800
theorem Ef{n lo hi:Int}(h:lo<=n/\n<=hi):inI n lo hi=true:=by unfold inI;rw[Aq h.1,Aq h.2];rfl
theorem Aim{r:Bd}(h:RuleOk r)(k:Int->Option β):Pg r k=k 0:=by unfold Pg;rw[Ab];refine(z_in _ _ _ _).trans ?_;rw[Ef h.f];refine(z_in _ _ _ _).trans ?_;rw[Ef h.t];refine(z_in _ _ _ _).trans ?_;rw[Ef h.m];refine(z_in _ _ _ _).trans ?_;rw[Ef h.w];refine(z_in _ _ _ _).trans ?_;rw[Ef h.d];refine(z_in _ _ _ _).trans ?_;rw[Ef h.s];refine(z_in _ _ _ _).trans ?_;rw[Ef h.o];rfl
def occY(r:Bd)(y:Int):Int×Int:=(nthD y r.2.2.1 r.2.2.2.1 r.2.2.2.2.1*86400+r.2.2.2.2.2.1,r.2.2.2.2.2.2)
def occL(r:Bd):List (Int×Int):=(List.range (r.2.1-r.1+1).toNat).map λi=>occY r (r.1+(i:Nat))
theorem qT{r:Bd}(h:RuleOk r){y:Int}(hy:r.1<=y/\y<=r.2.1):-10<=nthD y r.2.2.1 r.2.2.2.1 r.2.2.2.2.1/\nthD y r.2.2.1 r.2.2.2.1 r.2.2.2.2.1<=300000:=by have h1:=h.f;have h2:=h.t;have hb:=FU (y:=y) (wd:=r.2.2.2.2.1) h.m h.w;have hn:=Aik (y:=y) (m:=r.2.2.1) (by omega) h.m;have:=h.w;omega
theorem Ain{r:Bd}(h:RuleOk r)(a:List Bd)(b c:Int)(K:WM β):∀(j f:Nat)(y:Int)(out:List (Int×Int)),y+(j:Int)=r.2.1+1->r.1<=y->j<f->out.length+j<=1000000->M9 f K y a b c out r=K a b c (out++(List.range j).map λi=>occY r (y+(i:Nat))):=by
 have h1:=h.f;have h2:=h.t;intro j
 induction j with
 |zero=>intro f y out hj hy hf hl;obtain⟨f,rfl⟩:∃f',f=f'+1:=⟨f-1,by omega⟩;simp only[mY,Q6];refine(Ad (by omega)).trans ?_;simp
 |succ j ih=>
  intro f y out hj hy hf hl;obtain⟨f,rfl⟩:∃f',f=f'+1:=⟨f-1,by omega⟩;have hb:=qT h (y:=y) ⟨hy,by omega⟩;have hs:=h.s;simp only[mY,Q6];refine(Ah (by omega)).trans ?_;refine(Ail (by omega) h.m h.w h.d _).trans ?_;rw[i64_in (nthD y r.2.2.1 r.2.2.2.1 r.2.2.2.2.1*86400) (by omega),i64_in (nthD y r.2.2.1 r.2.2.2.1 r.2.2.2.2.1*86400+r.2.2.2.2.2.1) (by omega)];have hr:(out.length+1)*16<=140737488355328:=by omega
  refine(Dh hr).trans ?_;rw[i64_in (y+1) (by omega)];have hl2:(out++[occY r y]).length+j<=1000000:=by simp;omega
  refine(ih f (y+1) (out++[occY r y]) (by omega) (by omega) (by omega) hl2).trans ?_;refine Aj (K a b c) ?_;rw[AW,List.range_succ_eq_map,Bp,Ku];congr 1;simp only[List.singleton_append];congr 1
  ·simp
  ·refine List.map_congr_left λi _=>?_
   simp only[Function.comp];congr 1;simp;omega
def BS(l:List Bd):List (Int×Int):=l.flatMap occL
theorem Aio(r:Bd):(occL r).length=(r.2.1-r.1+1).toNat:=by simp[occL]
def occS(z:At):List (Int×Int):=WA (BS z.2.2)
structure ZoneOk (z:At):Prop where
 o:-64800<=z.2.1/\z.2.1<=64800
 r:∀r∈z.2.2,RuleOk r
 n:(BS z.2.2).length<=12
 l:z.2.2.length<=12
theorem Yh{z:At}(h:ZoneOk z){x:Int×Int}(hx:x∈BS z.2.2):(-1000000<=x.1/\x.1<=30000000000)/\(-64800<=x.2/\x.2<=64800):=by
 obtain⟨r,hr,hx⟩:=List.mem_flatMap.1 hx;obtain⟨i,hi,rfl⟩:=CJ.1 hx;have hi:i<(r.2.1-r.1+1).toNat:=by simpa using hi
 have hb:=qT (h.r r hr) (y:=r.1+(i:Nat)) (by omega);have hs:=(h.r r hr).s;have ho:=(h.r r hr).o;refine⟨?_,ho⟩;show-1000000<=nthD _ _ _ _*86400+r.2.2.2.2.2.1/\nthD _ _ _ _*86400+r.2.2.2.2.2.1<=30000000000;omega
theorem RC{α:Type}{l:List α}{i:Nat}(d:α)(h:i<l.length):l.take (i+1)=l.take i++[l.getD i d]:=by rw[List.take_add_one];simp[List.getD,h]
theorem Aip{z:At}(h:ZoneOk z)(k1:WF β)(K:WG β):Q5 k1 K 0 z.2.2 (z.2.2.length:Int) 0 z=K ((BS z.2.2).length:Int) z:=by
 have hl:=h.l;unfold Q5;rw[Ab];have hr0:∀(i:Nat),i<z.2.2.length->RuleOk (z.2.2.getD i (0,0,0,0,0,0,0)):=λi hi=>h.r _ (Cc hi)
 refine(R5 (λi(n:Int)=>0<=n/\n<=300*(i:Int)/\n=((BS (z.2.2.take i)).length:Int)) (λm i n=>M8 m k1 K n z.2.2 (z.2.2.length:Int) i z) (λn r=>n+(r.2.1-r.1+1)) (λn=>K ((BS z.2.2).length:Int) z) (0,0,0,0,0,0,0) z.2.2 0 fuel (AY (by omega)) ⟨by omega,by omega,rfl⟩
  (λi n hi hn=>?_) (λm i n hi hn=>?_) (λm n hn=>?_))
 ·obtain⟨h1,h2,h3⟩:=hn
  have hr:=hr0 i hi;have g1:=hr.f;have g2:=hr.t;refine⟨by omega,by omega,?_⟩;rw[RC (0,0,0,0,0,0,0) hi];unfold BS at h3⊢;rw[Si,Av,Sf,Aio];omega
 ·obtain⟨h1,h2,h3⟩:=hn
  have hr:=hr0 i hi;have g1:=hr.f;have g2:=hr.t;simp only[mX,Q4];refine(Ah (by omega)).trans ?_;refine(Ai (by omega)).trans ?_;rw[AE];refine(Aim hr _).trans ?_;refine(Bm rfl).trans ?_;generalize z.2.2.getD i (0,0,0,0,0,0,0)=r at hr g1 g2;rw[i64_in (r.2.1-r.1) (by omega),i64_in (r.2.1-r.1+1) (by omega),i64_in (n+(r.2.1-r.1+1)) (by omega),i64_in ((i:Int)+1) (by omega)]
 ·obtain⟨h1,h2,h3⟩:=hn
  rw[H8]at h3;simp only[mX,Q4];refine(Ad (by omega)).trans ?_;rw[h3]
theorem Aiq{z:At}(h:ZoneOk z)(K:WI β):Q8 K z.2.2 (z.2.2.length:Int) 0 []=K (BS z.2.2):=by
 have hl:=h.l;unfold Q8;rw[Ab]
 refine(R5 (λi(out:List (Int×Int))=>out=BS (z.2.2.take i)) (λm i out=>MA m K z.2.2 (z.2.2.length:Int) i out) (λout r=>out++occL r) (λout=>K (BS z.2.2)) (0,0,0,0,0,0,0) z.2.2 [] fuel (AY (by omega)) rfl
  (λi out hi ho=>?_) (λm i out hi ho=>?_) (λm out ho=>?_))
 ·rw[RC (0,0,0,0,0,0,0) hi,ho]
  unfold BS;rw[Si,Sf]
 ·have hr:RuleOk (z.2.2.getD i (0,0,0,0,0,0,0)):=h.r _ (Cc hi)
  have g1:=hr.f;have g2:=hr.t
  have hlen:out.length<=12:=by have e:z.2.2=z.2.2.take i++z.2.2.drop i:=(H4 i z.2.2).symm;have hn12:=h.n;rw[e]at hn12;unfold BS at hn12;rw[Si,Av]at hn12;rw[ho];unfold BS;omega
  simp only[mZ,Q7];refine(Ah (by omega)).trans ?_;refine(Ai (by omega)).trans ?_;rw[AE];generalize z.2.2.getD i (0,0,0,0,0,0,0)=r at hr g1 g2;unfold WO;rw[Ab];refine(Ain hr _ _ _ _ (r.2.1-r.1+1).toNat fuel r.1 out (by omega) (by omega) (AY (by omega)) (by omega)).trans ?_;rw[i64_in ((i:Int)+1) (by omega)];rfl
 ·rw[H8]at ho
  simp only[mZ,Q7];refine(Ad (by omega)).trans ?_;rw[ho]
theorem Air{z:At}(h:ZoneOk z)(k:Int->List (Int×Int)->Option β):Q9 z k=k 0 (occS z):=by
 have hl:=h.l;have hn12:=h.n;unfold Q9;rw[Ab];refine(z_in _ _ _ _).trans ?_;rw[Ef h.o];refine(Ad (by omega)).trans ?_;refine(Aip h _ _).trans ?_;refine(Ad (by omega)).trans ?_;refine(Aiq h _).trans ?_
 have hg:(BS z.2.2).all Fm=true:=by rw[C1];intro x hx;have:=(Yh h hx).1;unfold Fm;rw[Aq (by omega),Aq (by omega)];rfl
 have hn:decide ((BS z.2.2).length<13)=true:=Aq (by omega);rw[hg,hn];rfl
abbrev TrS:=Int×List (Int×Int)
def Eg(_:Nat)(o:Int×Int)(s:TrS):Int⊕TrS:=
 cond (decide (o.2=s.1)) (.inr s)
  (cond (decide (86400<=o.2-s.1)||(decide (o.2-s.1≤-86400)||((!inI (o.1-s.1) 0 8589934592)||(decide (0<(s.2.length:Int))&&decide (o.1-s.1<(s.2.getD (s.2.length-1) (0,0)).1+604800)))))
   (.inl 6) (.inr (o.2,s.2++[(o.1-s.1,o.2)])))
def TrI(i:Nat)(s:TrS):Prop:=(-64800<=s.1/\s.1<=64800)/\s.2.length<=i/\∀x∈s.2,0<=x.1/\x.1<=8589934592
theorem qU{α σ ε:Type}(I:Nat->σ->Prop)(F:Nat->Int->σ->Option β)(g:Nat->α->σ->ε⊕σ)(E:ε->Option β)(K:σ->Option β)(d:α)(xs:List α)(hI:∀(i:Nat) s s',i<xs.length->I i s->g i (xs.getD i d) s=.inr s'->I (i+1) s')(h1:∀(m i:Nat) s,i<xs.length->I i s->F (m+1) (i:Int) s=sumK E (λs'=>F m ((i:Int)+1) s') (g i (xs.getD i d) s))(h2:∀(m:Nat) s,F (m+1) (xs.length:Int) s=K s):∀(r:List α)(j fuel:Nat)(s:σ),xs.drop j=r->j+r.length=xs.length->r.length<fuel->I j s->F fuel (j:Int) s=sumK E K (walk g r j s)
 |r,j,0,s,_,_,h,_=>absurd h (H9 _)
 |[],j,m+1,s,hd,hj,_,_=>by simp only[Bw,HE]at hj;subst hj;rw[h2];rfl
 |x::r,j,m+1,s,hd,hj,hm,hs=>by
  simp only[Aw]at hj hm;have h3:j<xs.length:=by omega
  have hx:xs.getD j d=x:=by rw[EY h3]at hd;injection hd with hd1 hd2;simp[List.getD,h3,hd1]
  have hr:xs.drop (j+1)=r:=by rw[EY h3]at hd;injection hd with hd1 hd2
  rw[h1 m j s h3 hs,hx,walk];cases hg:g j x s with
  |inl e=>rfl
  |inr s'=>simp only[sumK];exact qU I F g E K d xs hI h1 h2 r (j+1) m s' hr (by omega) (by omega) (hI j s s' h3 hs (hx▸hg))
theorem Yi{z:At}(h:ZoneOk z):(occS z).Perm (BS z.2.2)/\∀i j,i<j->j<(BS z.2.2).length->¬((occS z).getD j (0,0)).1-((occS z).getD i (0,0)).1<0:=by refine cU mM λx hx=>?_;have:=(Yh h hx).1;unfold Fm;rw[Aq (by omega),Aq (by omega)];rfl
theorem qV{z:At}(h:ZoneOk z){x:Int×Int}(hx:x∈occS z):(-1000000<=x.1/\x.1<=30000000000)/\(-64800<=x.2/\x.2<=64800):=
 Yh h ((Yi h).1.mem_iff.1 hx)
def Fs(z:At):Int⊕TrS:=walk Eg (occS z) 0 (z.2.1,[])
theorem Ais{z:At}(h:ZoneOk z)(k:Int->List (Int×Int)->Option β):QH z k=sumK (λe=>k e []) (λs=>k 0 s.2) (Fs z):=by
 have hlen:(occS z).length<=12:=by rw[(Yi h).1.length_eq];exact h.n
 unfold QH;rw[Ab];refine(Air h _).trans ?_;refine(Bm rfl).trans ?_;unfold Xd;rw[Ab]
 refine qU TrI (λm i(s:TrS)=>MG m (λt3 t2=>k t3 t2) (λout=>k 0 out) s.1 ((occS z).length:Int) i s.2 (occS z)) Eg (λe=>k e []) (λs=>k 0 s.2) (0,0) (occS z)
  (λi s s' hi hs hg=>?_) (λm i s hi hs=>?_) (λm s=>?_) (occS z) 0 fuel (z.2.1,[]) rfl (by simp) (AY (by omega)) ⟨h.o,Ao _,λx hx=>absurd hx Cd⟩
 ·have ho:=qV h (Cc (d:=((0,0):Int×Int)) hi)
  obtain⟨h1,h2,h3⟩:=hs;generalize(occS z).getD i (0,0)=o at ho hg;unfold Eg at hg;by_cases e:o.2=s.1
  ·rw[Aq e]at hg
   injection hg with hg;subst hg;exact⟨h1,by omega,h3⟩
  ·rw[AB e]at hg
   cases hc:(decide (86400<=o.2-s.1)||(decide (o.2-s.1≤-86400)||((!inI (o.1-s.1) 0 8589934592)||(decide (0<(s.2.length:Int))&&decide (o.1-s.1<(s.2.getD (s.2.length-1) (0,0)).1+604800)))))with
   |true=>rw[hc]at hg;cases hg
   |false=>
    rw[hc]at hg;injection hg with hg;subst hg;simp only[H5,Bool.not_eq_false']at hc;have hin:=hc.2.2.1;unfold inI at hin;rw[Bv,EZ,EZ]at hin;refine⟨ho.2,by simp;omega,λx hx=>?_⟩;rcases Ba.1 hx with hx|hx
    ·exact h3 x hx
    ·rw[Cv.1 hx]
     exact hin
 ·have ho:=qV h (Cc (d:=((0,0):Int×Int)) hi)
  obtain⟨h1,h2,h3⟩:=hs;simp only[nX,QG];refine(Ah (by omega)).trans ?_;refine(Ai (by omega)).trans ?_;rw[AE];generalize(occS z).getD i (0,0)=o at ho;unfold Eg;rw[i64_in ((i:Int)+1) (by omega)];by_cases e:o.2=s.1
  ·refine(Ah e).trans ?_
   rw[Aq e];rfl
  refine(Ad e).trans ?_;rw[AB e,i64_in (o.2-s.1) (by omega),i64_in (o.1-s.1) (by omega)];by_cases a1:86400<=o.2-s.1
  ·refine(Ah a1).trans ?_
   rw[Aq a1];rfl
  refine(Ad a1).trans ?_;rw[AB a1];by_cases a2:o.2-s.1≤-86400
  ·refine(Ah a2).trans ?_
   rw[Aq a2];rfl
  refine(Ad a2).trans ?_;rw[AB a2];refine(z_in _ _ _ _).trans ?_;cases inI (o.1-s.1) 0 8589934592 with
  |false=>rfl
  |true=>
   have hp:∀a b t(K:nV β),MF K a ((occS z).length:Int) b s.2 o t=K o.2 ((occS z).length:Int) b (s.2++[(a,o.2)]) t:=by
    intro a b t K;unfold MF;rw[Ab];unfold Xc;have hr:(s.2.length+1)*16<=140737488355328:=by omega
    exact Dh hr
   by_cases a3:(0:Int)<(s.2.length:Int)
   ·refine(Ah a3).trans ?_
    rw[i64_in ((s.2.length:Int)-1) (by omega)];refine(Ai (by omega)).trans ?_;rw[Aq a3,show((s.2.length:Int)-1).toNat=s.2.length-1 by omega];have h4:=h3 _ (Cc (d:=((0,0):Int×Int)) (show s.2.length-1<s.2.length by omega));rw[i64_in ((s.2.getD (s.2.length-1) (0,0)).1+604800) (by omega)];by_cases a4:o.1-s.1<(s.2.getD (s.2.length-1) (0,0)).1+604800
    ·refine(Ah a4).trans ?_
     rw[Aq a4];rfl
    ·refine(Ad a4).trans ?_
     rw[AB a4];refine(hp _ _ _ _).trans ?_;rw[i64_in ((i:Int)+1) (by omega)];rfl
   ·refine(Ad a3).trans ?_
    rw[AB a3];refine(hp _ _ _ _).trans ?_;rw[i64_in ((i:Int)+1) (by omega)];rfl
 ·simp only[nX,QG]
  exact Ad (by omega)
def Di(z:At):Int:=
 cond (!decide (errV (Fs z)=0)) 8 (cond (!decide (Int.tmod z.2.1 60=0)) 8 (cond (!z.2.2.all λr=>decide (Int.tmod r.2.2.2.2.2.2 60=0)) 8 0))
theorem Ait(s:List Bd)(hs:s.length<=1000000)(k:Bool->Option β):Rd s k=k (!s.all λr=>decide (Int.tmod r.2.2.2.2.2.2 60=0)):=by
 unfold Rd;rw[Ab];unfold X7;rw[Ab];unfold X6;rw[Ab];refine(Hu (λm i=>MO m (λt=>k (decide ((0:Int)<=t))) (λ_=>k (decide ((0:Int)≤-1))) s (s.length:Int) i) (λr=>decide (Int.tmod r.2.2.2.2.2.2 60=0)) (k true) (k false) (0,0,0,0,0,0,0) s fuel (AY (by omega)) (λm i hi=>?_) (λm=>?_)).trans ?_
 ·simp only[p6,Rc]
  refine(Ah (by omega)).trans ?_;refine(Ai (by omega)).trans ?_;rw[AE,i64_in ((i:Int)+1) (by omega)];unfold U5;rw[Ab];show cond (!decide _) _ _=cond (decide _) _ _;cases decide (Int.tmod (s.getD i (0,0,0,0,0,0,0)).2.2.2.2.2.2 60=0)with
  |true=>rfl
  |false=>show k (decide ((0:Int)<=i))=k true;rw[Aq (by omega:(0:Int)<=i)]
 ·simp only[p6,Rc]
  exact Ad (by omega)
 ·cases s.all λr=>decide (Int.tmod r.2.2.2.2.2.2 60=0)<;>rfl
theorem qW{z:At}(h:ZoneOk z)(k:Int->Option β):JN z k=k (Di z):=by
 have hl:=h.l;unfold JN;rw[Ab];unfold Xm;rw[Ab];refine(Ais h _).trans ?_;have e:∀K:Int->Option β,sumK (λe=>K e) (λ_=>K 0) (Fs z)=K (errV (Fs z)):=λK=>Hw K _;refine(e _).trans ?_;unfold Di;cases decide (errV (Fs z)=0)with
 |false=>rfl
 |true=>
  show cond (!decide (Int.tmod z.2.1 60=0)) _ _=k (cond (!decide (Int.tmod z.2.1 60=0)) _ _);cases decide (Int.tmod z.2.1 60=0)with
  |false=>rfl
  |true=>refine(Ait _ (by omega) _).trans ?_;cases z.2.2.all λr=>decide (Int.tmod r.2.2.2.2.2.2 60=0)<;>rfl
end
end
end Go.Lift
namespace Go.Lift
open Go.RowKit Go.IntWalk
noncomputable section
variable[Sl]
abbrev Dice:=List Int×Int
def AZ(d:Dice):Prop:=0<=d.2/\d.2<=d.1.length/\d.1.length<=500
theorem Aiu{β:Type}(l:List Int)(k:Bool->Option β):OM l k=k (decide ((l.length:Int)<=500)):=by simp only[OM,Ab]
theorem Aiv{β:Type}(l:List Int)(k:Dice->Option β):ON l k=k (l,0):=by simp only[ON,Ab]
theorem Aiw{l:List Int}(h:(l.length:Int)<=500):AZ (l,0):=⟨by simp,by simp,by show l.length<=500;omega⟩
theorem Aix{n:Int}{d:Dice}(hd:AZ d)(hn:1<=n/\n<=4611686018427387904):∃x d',0<=x/\x<n/\AZ d'/\∀{β:Type}(k:Int->Dice->Option β),Bh n d k=k x d':=by
 obtain⟨h1,h2,h3⟩:=hd;by_cases ha:(d.1.length:Int)<=d.2
 ·exact⟨0,d,by omega,by omega,⟨h1,h2,h3⟩,λk=>by simp(disch:=omega) only[Bh,Ab,Ah]⟩
 ·generalize hv:List.getD d.1 (Int.toNat d.2) (0:Int)=v
  have hm1:=Sj v (show 0<n by omega)
  have hm2:-n<Int.tmod v n:=by have h5:=Sj (-v) (show 0<n by omega);rw[Int.neg_tmod]at h5;omega
  have hd':AZ (d.1,d.2+1):=⟨by show(0:Int)<=d.2+1;omega,by show d.2+1<=(d.1.length:Int);omega,h3⟩;by_cases hc:Int.tmod v n<0
  ·refine⟨Int.tmod v n+n,(d.1,d.2+1),by omega,by omega,hd',λk=>?_⟩
   simp(disch:=omega) only[Bh,Ab,hv,Ah,Ad,Ai,CL,i64_in]
  ·refine⟨Int.tmod v n,(d.1,d.2+1),by omega,by omega,hd',λk=>?_⟩
   simp(disch:=omega) only[Bh,Ab,hv,Ah,Ad,Ai,CL,i64_in]
end
end Go.Lift
namespace Go.Lift
open Go.RowKit Go.IntWalk
noncomputable section
variable[Sl]
set_option maxRecDepth 10000
theorem Aiy{s:List (Int×Int)}(hs:s.Pairwise λx y=>x.1<y.1){a b:Int×Int}(ha:a∈s)(hb:b∈s)(e:a.1=b.1):a=b:=by
 induction hs with
 |nil=>exact absurd ha Cd
 |cons h _ ih=>
  rcases AH.1 ha with ga|ga
  ·rcases AH.1 hb with gb|gb
   ·exact ga.trans gb.symm
   ·have:=h b gb;rw[<-ga]at this;omega
  ·rcases AH.1 hb with gb|gb
   ·have:=h a ga;rw[<-gb]at this;omega
   ·exact ih ga gb
theorem Aiz{l:List (Int×Int)}(h:∀i j,i<j->j<l.length->¬(l.getD j (0,0)).1-(l.getD i (0,0)).1<0):l.Pairwise λx y=>x.1<=y.1:=by rw[Sb];intro i j hi hj hij;have:=h i j hij hj;simp only[List.getD,hi,hj,Bx,Gb]at this;omega
theorem RD{z:At}(h:ZoneOk z){s:List (Int×Int)}(hp:(BS z.2.2).Perm s)(hs:s.Pairwise λx y=>x.1<y.1):occS z=s:=by obtain⟨h1,h2⟩:=Yi h;have hp':(occS z).Perm s:=h1.trans hp;refine List.Perm.eq_of_pairwise (le:=λx y=>x.1<=y.1) (λa b ha hb g1 g2=>?_) (Aiz λi j hij hj=>h2 i j hij (h1.length_eq▸hj)) (hs.imp λg=>Int.le_of_lt g) hp';exact Aiy hs (hp'.mem_iff.1 ha) hb (Int.le_antisymm g1 g2)
theorem AiA(i:Nat){o:Int×Int}{s:TrS}(h:o.2=s.1):Eg i o s=.inr s:=by unfold Eg;rw[Aq h];rfl
theorem Yj(i:Nat){o:Int×Int}{now:Int}(h:o.2≠now)(hd:-86400<o.2-now/\o.2-now<86400)(ha:0<=o.1-now/\o.1-now<=8589934592):Eg i o (now,[])=.inr (o.2,[(o.1-now,o.2)]):=by unfold Eg;simp only;rw[AB h,AB (by omega),AB (by omega),Ef ha];rfl
theorem RE(i:Nat){o x:Int×Int}{now:Int}{p:List (Int×Int)}(h:o.2≠now)(hd:-86400<o.2-now/\o.2-now<86400)(ha:0<=o.1-now/\o.1-now<=8589934592)(hx:x.1+604800<=o.1-now):Eg i o (now,p++[x])=.inr (o.2,(p++[x])++[(o.1-now,o.2)]):=by
 unfold Eg;simp only;have e:(p++[x]).getD ((p++[x]).length-1) (0,0)=x:=by simp[List.getD]
 rw[AB h,AB (by omega),AB (by omega),Ef ha,e,AB (show ¬o.1-now<x.1+604800 by omega),Bool.and_false];rfl
theorem Nf{z:At}{s:TrS}(h:Fs z=.inr s)(ho:Int.tmod z.2.1 60=0)(hr:∀r∈z.2.2,Int.tmod r.2.2.2.2.2.2 60=0):Di z=0:=by unfold Di;rw[h,Aq (show errV (Sum.inr s:Int⊕TrS)=0 from rfl),Aq ho,C1.2 λr hr'=>Aq (hr r hr')];rfl
abbrev Ng(z:At):Prop:=(occS z).Pairwise λx y=>x.1<y.1
theorem AiB{n:List UInt8}{off:Int}(ho:-64800<=off/\off<=64800)(h6:Int.tmod off 60=0):ZoneOk (n,off,[])/\Di (n,off,[])=0/\Ng (n,off,[]):=by have hz:ZoneOk (n,off,[]):=⟨ho,λr hr=>absurd hr Cd,by simp[BS],by simp⟩;have hs:occS (n,off,[])=[]:=RD hz (s:=[]) (List.Perm.refl _) List.Pairwise.nil;refine⟨hz,Nf (s:=(off,[])) ?_ h6 λr hr=>absurd hr Cd,by show(occS _).Pairwise _;rw[hs];exact List.Pairwise.nil⟩;unfold Fs;rw[hs];rfl
theorem Yk(r:Bd)(h:r.2.1=r.1):occL r=[occY r r.1]:=by unfold occL;rw[show(r.2.1-r.1+1).toNat=1 by omega];simp[List.range_succ]
theorem qX(r:Bd)(h:r.2.1=r.1+1):occL r=[occY r r.1,occY r (r.1+1)]:=by unfold occL;rw[show(r.2.1-r.1+1).toNat=2 by omega];simp[List.range_succ]
theorem AiC{n:List UInt8}{off:Int}{r:Bd}(ho:-64800<=off/\off<=64800)(h6:Int.tmod off 60=0)(hr:RuleOk r)(hy:r.2.1=r.1)(hr6:Int.tmod r.2.2.2.2.2.2 60=0)(hd:-86400<r.2.2.2.2.2.2-off/\r.2.2.2.2.2.2-off<86400)(ht:100000<=(occY r r.1).1/\(occY r r.1).1<=8000000000):ZoneOk (n,off,[r])/\Di (n,off,[r])=0/\Ng (n,off,[r]):=by
 have e:BS [r]=[occY r r.1]:=by unfold BS;rw[Sf,Yk r hy]
 have hz:ZoneOk (n,off,[r]):=⟨ho,λx hx=>by rw[Cv.1 hx];exact hr,by show(BS [r]).length<=12;rw[e];simp,by simp⟩;have hs:occS (n,off,[r])=[occY r r.1]:=RD hz (by show(BS [r]).Perm _;rw[e]) (IG _ _);have h6':∀x∈(n,off,[r]).2.2,Int.tmod x.2.2.2.2.2.2 60=0:=λx hx=>by rw[Cv.1 hx];exact hr6
 by_cases g:(occY r r.1).2=off
 ·refine⟨hz,Nf (s:=(off,[])) ?_ h6 h6',by show(occS _).Pairwise _;rw[hs];exact IG _ _⟩
  unfold Fs;rw[hs];unfold walk;rw[AiA 0 (s:=((n,off,[r]).2.1,[])) g];rfl
 ·refine⟨hz,Nf (s:=((occY r r.1).2,[((occY r r.1).1-off,(occY r r.1).2)])) ?_ h6 h6',by show(occS _).Pairwise _;rw[hs];exact IG _ _⟩
  unfold Fs;rw[hs];unfold walk;rw[Yj 0 (now:=(n,off,[r]).2.1) g hd (by show 0<=_-off/\_-off<=_;omega)];rfl
theorem Hx{α σ ε:Type}{g:Nat->α->σ->ε⊕σ}{x:α}{r:List α}{j:Nat}{s s':σ}(h:g j x s=.inr s'):walk g (x::r) j s=walk g r (j+1) s':=by rw[walk,h]
theorem alt2{off dl ta tb:Int}(ho:-43200<=off/\off<=45000)(hd:0<dl/\dl<=14400)(h0:100000<=ta)(h1:ta+619200<=tb)(h2:tb<=8000000000):walk Eg [(ta,off+dl),(tb,off)] 0 (off,[])=.inr (off,[(ta-off,off+dl)]++[(tb-(off+dl),off)]):=by
 refine(Hx (Yj 0 (o:=(ta,off+dl)) (now:=off) (by show off+dl≠off;omega) (by show-86400<off+dl-off/\off+dl-off<86400;omega) (by show 0<=ta-off/\ta-off<=_;omega))).trans ?_;refine(Hx (RE (0+1) (o:=(tb,off)) (now:=off+dl) (p:=[]) (x:=(ta-off,off+dl)) (by show off≠off+dl;omega) (by show-86400<off-(off+dl)/\off-(off+dl)<86400;omega) (by show 0<=tb-(off+dl)/\tb-(off+dl)<=_;omega) (by show ta-off+604800<=tb-(off+dl);omega))).trans ?_;rfl
theorem alt4{off dl ta tb tc td:Int}(ho:-43200<=off/\off<=45000)(hd:0<dl/\dl<=14400)(h0:100000<=ta)(h1:ta+619200<=tb)(h2:tb+619200<=tc)(h3:tc+619200<=td)(h4:td<=8000000000):∃l,walk Eg [(ta,off+dl),(tb,off),(tc,off+dl),(td,off)] 0 (off,[])=.inr (off,l):=by
 refine⟨([(ta-off,off+dl),(tb-(off+dl),off)]++[(tc-off,off+dl)])++[(td-(off+dl),off)],?_⟩;refine(Hx (Yj 0 (o:=(ta,off+dl)) (now:=off) (by show off+dl≠off;omega) (by show-86400<off+dl-off/\off+dl-off<86400;omega) (by show 0<=ta-off/\ta-off<=_;omega))).trans ?_;refine(Hx (RE (0+1) (o:=(tb,off)) (now:=off+dl) (p:=[]) (x:=(ta-off,off+dl)) (by show off≠off+dl;omega) (by show-86400<off-(off+dl)/\off-(off+dl)<86400;omega) (by show 0<=tb-(off+dl)/\tb-(off+dl)<=_;omega) (by show ta-off+604800<=tb-(off+dl);omega))).trans ?_;refine(Hx (RE (0+1+1) (o:=(tc,off+dl)) (now:=off) (p:=[(ta-off,off+dl)]) (x:=(tb-(off+dl),off)) (by show off+dl≠off;omega) (by show-86400<off+dl-off/\off+dl-off<86400;omega) (by show 0<=tc-off/\tc-off<=_;omega) (by show tb-(off+dl)+604800<=tc-off;omega))).trans ?_;refine(Hx (RE (0+1+1+1) (o:=(td,off)) (now:=off+dl) (p:=[(ta-off,off+dl),(tb-(off+dl),off)]) (x:=(tc-off,off+dl)) (by show off≠off+dl;omega) (by show-86400<off-(off+dl)/\off-(off+dl)<86400;omega) (by show 0<=td-(off+dl)/\td-(off+dl)<=_;omega) (by show tc-off+604800<=td-(off+dl);omega))).trans ?_;rfl
theorem qY{n:List UInt8}{off dl last:Int}{A B:Bd}(ho:-43200<=off/\off<=45000)(h6:Int.tmod off 60=0)(hA:RuleOk A)(hB:RuleOk B)(hA6:Int.tmod A.2.2.2.2.2.2 60=0)(a1:A.1=2025)(b1:B.1=2025)(a2:A.2.1=last)(b2:B.2.1=last)(hl:last=2025\/last=2026)(ao:A.2.2.2.2.2.2=off+dl)(bo:B.2.2.2.2.2.2=off)(hd:0<dl/\dl<=14400)(t0:∀y,y=2025\/y=2026->100000<=(occY A y).1)(t1:∀y,y=2025\/y=2026->(occY A y).1+619200<=(occY B y).1)(t2:(occY B 2025).1+619200<=(occY A 2026).1)(t3:∀y,y=2025\/y=2026->(occY B y).1<=8000000000):ZoneOk (n,off,[A,B])/\Di (n,off,[A,B])=0/\Ng (n,off,[A,B]):=by
 have h6':∀x∈(n,off,[A,B]).2.2,Int.tmod x.2.2.2.2.2.2 60=0:=by
  intro x hx;rcases AH.1 hx with rfl|hx
  ·exact hA6
  ·rw[Cv.1 hx,bo];exact h6
 have hrs:∀x∈(n,off,[A,B]).2.2,RuleOk x:=by
  intro x hx;rcases AH.1 hx with rfl|hx
  ·exact hA
  ·rw[Cv.1 hx];exact hB
 have s25:=t0 2025 (.inl rfl);have s26:=t0 2026 (.inr rfl);have u25:=t1 2025 (.inl rfl);have u26:=t1 2026 (.inr rfl);have v25:=t3 2025 (.inl rfl);have v26:=t3 2026 (.inr rfl);have eA:∀y,(occY A y).2=off+dl:=λ_=>ao;have eB:∀y,(occY B y).2=off:=λ_=>bo;have qA:∀y,occY A y=((occY A y).1,off+dl):=λy=>F5 rfl (eA y);have qB:∀y,occY B y=((occY B y).1,off):=λy=>F5 rfl (eB y);rcases hl with rfl|rfl
 ·have e:BS [A,B]=[occY A 2025,occY B 2025]:=by unfold BS;simp only[E5,List.flatMap_nil];rw[Yk A (by omega),Yk B (by omega),a1,b1];rfl
  have hz:ZoneOk (n,off,[A,B]):=⟨by show-64800<=off/\off<=64800;omega,hrs,by show(BS [A,B]).length<=12;rw[e];simp,by simp⟩
  have hpw:[occY A 2025,occY B 2025].Pairwise λx y=>x.1<y.1:=by refine List.Pairwise.cons (λx hx=>?_) (IG _ _);rw[Cv.1 hx];omega
  have hs:occS (n,off,[A,B])=[occY A 2025,occY B 2025]:=RD hz (by show(BS [A,B]).Perm _;rw[e]) hpw;refine⟨hz,Nf (s:=(off,[((occY A 2025).1-off,off+dl)]++[((occY B 2025).1-(off+dl),off)])) ?_ h6 h6',by show(occS _).Pairwise _;rw[hs];exact hpw⟩;unfold Fs;rw[hs];refine Eq.trans (Aj (λl=>walk Eg l 0 (off,[])) ?_) (alt2 ho hd s25 u25 v25);rw[qA 2025,qB 2025]
 ·have e:BS [A,B]=[occY A 2025,occY A 2026,occY B 2025,occY B 2026]:=by unfold BS;simp only[E5,List.flatMap_nil];rw[qX A (by omega),qX B (by omega),a1,b1];rfl
  have hz:ZoneOk (n,off,[A,B]):=⟨by show-64800<=off/\off<=64800;omega,hrs,by show(BS [A,B]).length<=12;rw[e];simp,by simp⟩
  have hpw:[occY A 2025,occY B 2025,occY A 2026,occY B 2026].Pairwise λx y=>x.1<y.1:=by simp only[D8,AH,Cd,or_false,forall_eq_or_imp,forall_eq,false_implies,implies_true,List.Pairwise.nil,Cm];omega
  have hs:occS (n,off,[A,B])=[occY A 2025,occY B 2025,occY A 2026,occY B 2026]:=RD hz (by show(BS [A,B]).Perm _;rw[e];exact .cons _ (.swap _ _ _)) hpw;obtain⟨l,hl⟩:=alt4 ho hd s25 u25 t2 u26 v26;refine⟨hz,Nf (s:=(off,l)) ?_ h6 h6',by show(occS _).Pairwise _;rw[hs];exact hpw⟩;unfold Fs;rw[hs];refine Eq.trans (Aj (λl=>walk Eg l 0 (off,[])) ?_) hl;rw[qA 2025,qB 2025,qA 2026,qB 2026]
end
end Go.Lift
namespace Go.Lift
open Go.RowKit Go.IntWalk
noncomputable section
variable[Sl]
set_option maxRecDepth 10000
section
variable{β:Type}{G:Option β->Prop}
theorem w_e{A B:Option β}(e:A=B)(h:G B):G A:=e▸h
theorem w_c{b:Bool}{A B:Option β}(h1:b=true->G A)(h2:b=false->G B):G (cond b A B):=match b,h1,h2 with|true,h,_=>h rfl|false,_,h=>h rfl
theorem w_d{p:Prop}[Decidable p]{A B:Option β}(h1:p->G A)(h2:¬p->G B):G (cond (decide p) A B):=w_c (λh=>h1 (Az h)) (λh=>h2 (N9 h))
theorem w_i{i n:Int}{A B:Option β}(h:0<=i/\i<n)(h1:G A):G (cond (decide (0<=i)&&decide (i<n)) A B):=w_e (Ai h) h1
theorem w_r{n:Nat}{A B:Option β}(h:n<=140737488355328)(h1:G A):G (cond (decide (n<=AG)) A B):=w_e (Dh h) h1
theorem w_p{p:Prop}[Decidable p]{A B:Option β}(h:p)(h1:G A):G (cond (decide p) A B):=w_e (Ah h) h1
theorem w_n{p:Prop}[Decidable p]{A B:Option β}(h:¬p)(h1:G B):G (cond (decide p) A B):=w_e (Ad h) h1
theorem B5{n:Int}{d:Dice}{k:Int->Dice->Option β}(hd:AZ d)(hn:1<=n/\n<=4611686018427387904)(hk:∀x d',0<=x->x<n->AZ d'->G (k x d')):G (Bh n d k):=by obtain⟨x,d',h1,h2,h3,h4⟩:=Aix hd hn;exact w_e (h4 k) (hk x d' h1 h2 h3)
theorem FV{l:List Int}{d:Dice}{k:Int->Dice->Option β}(hd:AZ d)(hl:0<l.length/\l.length<=1000000)(hk:∀x d',x∈l->AZ d'->G (k x d')):G (Ex l d k):=by unfold Ex;rw[Ab];refine B5 hd ⟨by omega,by omega⟩ λx d' h1 h2 h3=>?_;refine w_i ⟨h1,h2⟩ ?_;exact hk _ _ (Cc (by omega)) h3
theorem I6{n:Int}{d:Dice}{k:Bool->Dice->Option β}(hd:AZ d)(hn:1<=n/\n<=1000)(hk:∀b d',AZ d'->G (k b d')):G (FP n d k):=by unfold FP;rw[Ab];exact B5 hd ⟨by omega,by omega⟩ λx d' h1 h2 h3=>hk _ _ h3
theorem Nh{f t m w d s o:Int}(hf:1970<=f/\f<=2240)(ht:f<=t/\t<=2240)(hm:1<=m/\m<=12)(hw:1<=w/\w<=5)(hd:0<=d/\d<=6)(hs:0<=s/\s<=86399)(ho:-64800<=o/\o<=64800):RuleOk (f,t,m,w,d,s,o):=⟨hf,ht,hm,hw,hd,hs,ho⟩
theorem RF(q:Int):Int.tmod (900*q) 60=0:=YR ⟨15*q,by omega⟩
theorem Yl{o:Int}(h:∃q,o=300*q):Int.tmod o 60=0:=by obtain⟨q,rfl⟩:=h;exact YR ⟨5*q,by omega⟩
theorem AiD:Bc 2025 1=20089:=by decide
theorem qZ:Bc 2026 1=20454:=by decide
theorem AiE:Bc 2025 2=20120:=by decide
theorem AiF:Bc 2026 2=20485:=by decide
theorem Ym:Bc 2025 3=20148:=by decide
theorem RG:Bc 2026 3=20513:=by decide
theorem Yn:Bc 2025 10=20362:=by decide
theorem rA:Bc 2026 10=20727:=by decide
abbrev rB(name:List UInt8)(z:At):Prop:=z.1=name/\ZoneOk z/\Di z=0/\Ng z
theorem AiG{x:Int}{d:Dice}{t:At}{name:List UInt8}{q:Int}{k:i6 β}(hd:AZ d)(hq:-47<=q/\q<=50)(hx:-64800<=x/\x<=64800)(h5:∃p,x=300*p)(hc:-86400<x-900*q/\x-900*q<86400)(hk:∀d' l,AZ d'->rB name (name,900*q,l)->G (k d' t name (900*q) l)):G (Iq k x d t (name,900*q,[])):=by
 unfold Iq;rw[Ab];unfold UY;refine B5 hd ⟨by omega,by omega⟩ λw d1 h1 h2 hd1=>?_;refine B5 hd1 ⟨by omega,by omega⟩ λs d2 h3 h4 hd2=>?_;simp(disch:=omega) only[i64_in];refine hk _ _ hd2 ⟨rfl,AiC (by omega) (RF q) (Nh (by omega) (by omega) (by omega) (by omega) (by omega) (by omega) hx) rfl (Yl h5) hc ?_⟩;have hb:=FU (y:=2026) (wd:=w) (m:=1) (w:=2) (by omega) (by omega);rw[qZ]at hb;show 100000<=nthD 2026 1 2 w*86400+1800*s/\nthD 2026 1 2 w*86400+1800*s<=_;omega
theorem AiH{name:List UInt8}{d:Dice}{k:At->Dice->Option β}(hd:AZ d)(hk:∀z d',AZ d'->rB name z->G (k z d')):G (Pp name d k):=by
 unfold Pp;rw[Ab];refine FV hd (by decide) λp d1 hp hd1=>?_;refine B5 hd1 ⟨by omega,by omega⟩ λx d2 hx0 hx1 hd2=>?_;refine B5 hd2 ⟨by omega,by omega⟩ λy d3 hy0 hy1 hd3=>?_;refine B5 hd3 ⟨by omega,by omega⟩ λl d4 hl0 hl1 hd4=>?_;refine B5 hd4 ⟨by omega,by omega⟩ λc d5 hc0 hc1 hd5=>?_;have hp':-47<=p/\p<=48:=by simp at hp;omega
 have hxy:0<=x*y/\x*y<=2:=by
  rcases(show x=0\/x=1 by omega)with rfl|rfl
  ·simp
  ·simp;omega
 simp(disch:=omega) only[i64_in];generalize hq':p+x*y=q;have hq:-47<=q/\q<=50:=by omega
 refine w_d (λh=>?_) (λ_=>?_)
 ·refine hk _ _ hd5 ⟨rfl,qY (dl:=3600) (last:=2025+l) (by omega) (RF q) (Nh (by omega) (by omega) (by omega) (by omega) (by omega) (by omega) (by omega)) (Nh (by omega) (by omega) (by omega) (by omega) (by omega) (by omega) (by omega))
   (Yl ⟨3*q+12,by show 900*q+3600=_;omega⟩) rfl rfl rfl rfl (by omega) rfl rfl (by omega) ?_ ?_ ?_ ?_⟩
  ·intro y hy
   have hb:=FU (y:=y) (wd:=6) (m:=3) (w:=5) (by omega) (by omega);show 100000<=nthD y 3 5 6*86400+7200;rcases hy with rfl|rfl
   ·rw[Ym]at hb;omega
   ·rw[RG]at hb;omega
  ·intro y hy
   have hb:=FU (y:=y) (wd:=6) (m:=3) (w:=5) (by omega) (by omega);have hb2:=FU (y:=y) (wd:=6) (m:=10) (w:=5) (by omega) (by omega);show nthD y 3 5 6*86400+7200+619200<=nthD y 10 5 6*86400+10800;rcases hy with rfl|rfl
   ·rw[Ym]at hb;rw[Yn]at hb2;omega
   ·rw[RG]at hb;rw[rA]at hb2;omega
  ·have hb:=FU (y:=2026) (wd:=6) (m:=3) (w:=5) (by omega) (by omega)
   have hb2:=FU (y:=2025) (wd:=6) (m:=10) (w:=5) (by omega) (by omega);show nthD 2025 10 5 6*86400+10800+619200<=nthD 2026 3 5 6*86400+7200;rw[RG]at hb;rw[Yn]at hb2;omega
  ·intro y hy
   have hb2:=FU (y:=y) (wd:=6) (m:=10) (w:=5) (by omega) (by omega);show nthD y 10 5 6*86400+10800<=8000000000;rcases hy with rfl|rfl
   ·rw[Yn]at hb2;omega
   ·rw[rA]at hb2;omega
 refine w_d (λh=>?_) (λ_=>?_)
 ·refine B5 hd5 ⟨by omega,by omega⟩ λw1 d6 g1 g2 hd6=>?_
  refine B5 hd6 ⟨by omega,by omega⟩ λwd1 d7 g3 g4 hd7=>?_;refine B5 hd7 ⟨by omega,by omega⟩ λs1 d8 g5 g6 hd8=>?_;refine B5 hd8 ⟨by omega,by omega⟩ λo1 d9 g7 g8 hd9=>?_;refine B5 hd9 ⟨by omega,by omega⟩ λmm d10 g9 g10 hd10=>?_;refine FV hd10 (by decide) λw2 d11 hw2 hd11=>?_;refine B5 hd11 ⟨by omega,by omega⟩ λwd2 d12 g11 g12 hd12=>?_;refine B5 hd12 ⟨by omega,by omega⟩ λs2 d13 g13 g14 hd13=>?_;have hw2':w2=2\/w2=3\/w2=5:=by simpa using hw2
  simp(disch:=omega) only[i64_in];have hA:=λy=>FU (y:=y) (wd:=wd1) (m:=1) (w:=1+w1) (by omega) (by omega);have hB:=λy=>FU (y:=y) (wd:=wd2) (m:=2+mm) (w:=w2) (by omega) (by omega);have hmm:mm=0\/mm=1:=by omega
  have e25:20120<=Bc 2025 (2+mm)/\Bc 2025 (2+mm)<=20148:=by
   rcases hmm with rfl|rfl
   ·rw[show(2:Int)+0=2 from rfl,AiE];omega
   ·rw[show(2:Int)+1=3 from rfl,Ym];omega
  have e26:20485<=Bc 2026 (2+mm)/\Bc 2026 (2+mm)<=20513:=by
   rcases hmm with rfl|rfl
   ·rw[show(2:Int)+0=2 from rfl,AiF];omega
   ·rw[show(2:Int)+1=3 from rfl,RG];omega
  have A25:=hA 2025;have A26:=hA 2026;have B25:=hB 2025;have B26:=hB 2026;rw[AiD]at A25;rw[qZ]at A26;have B25':20127<=nthD 2025 (2+mm) w2 wd2:=by rcases hw2' with h|h|h<;>omega
  have B26':20492<=nthD 2026 (2+mm) w2 wd2:=by rcases hw2' with h|h|h<;>omega
  refine hk _ _ hd13 ⟨rfl,qY (dl:=1800*(1+o1)) (last:=2025+l) (by omega) (RF q) (Nh (by omega) (by omega) (by omega) (by omega) (by omega) (by omega) (by omega)) (Nh (by omega) (by omega) (by omega) (by omega) (by omega) (by omega) (by omega))
   (Yl ⟨3*q+6*(1+o1),by show 900*q+1800*(1+o1)=_;omega⟩) rfl rfl rfl rfl (by omega) rfl rfl (by omega) ?_ ?_ ?_ ?_⟩
  ·intro y hy
   show 100000<=nthD y 1 (1+w1) wd1*86400+3600*s1;rcases hy with rfl|rfl<;>omega
  ·intro y hy
   show nthD y 1 (1+w1) wd1*86400+3600*s1+619200<=nthD y (2+mm) w2 wd2*86400+3600*s2;rcases hy with rfl|rfl<;>omega
  ·show nthD 2025 (2+mm) w2 wd2*86400+3600*s2+619200<=nthD 2026 1 (1+w1) wd1*86400+3600*s1
   omega
  ·intro y hy
   show nthD y (2+mm) w2 wd2*86400+3600*s2<=8000000000;rcases hy with rfl|rfl<;>omega
 refine w_d (λh=>?_) (λ_=>?_)
 ·refine FV hd5 (by decide) λp2 d6 hp2 hd6=>?_
  have hp2':p2=3600\/p2=-3600\/p2=82800\/p2=-82800\/p2=43200:=by simpa using hp2
  simp(disch:=omega) only[i64_in]
  have key:∀x,(-64800<=x/\x<=64800)->(∃p,x=300*p)->(-86400<x-900*q/\x-900*q<86400)->G (Iq (λb0_ t4 z z2 b3_=>k (z,(z2,b3_)) b0_) x d6 FI (name,900*q,[])):=λx h1 h2 h3=>
   AiG hd6 hq h1 h2 h3 λd' l hd' hz=>hk _ _ hd' hz
  refine w_d (λh=>key 0 (by omega) ⟨0,rfl⟩ (by omega)) (λh=>?_);refine w_d (λh=>key 0 (by omega) ⟨0,rfl⟩ (by omega)) (λh=>?_);refine key _ (by omega) ?_ (by omega);rcases hp2' with rfl|rfl|rfl|rfl|rfl
  ·exact⟨3*q+12,by omega⟩
  ·exact⟨3*q-12,by omega⟩
  ·exact⟨3*q+276,by omega⟩
  ·exact⟨3*q-276,by omega⟩
  ·exact⟨3*q+144,by omega⟩
 ·exact hk _ _ hd5 ⟨rfl,AiB (by omega) (RF q)⟩
end
end
end Go.Lift
