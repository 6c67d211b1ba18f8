/- Part17 -/
import Derived.Test.YtegofjgkamhgaaaGreatDoorProg
import Derived.Test.YtegofjgkamhgaaaGreatDoorPart11
import Derived.Test.YtegofjgkamhgaaaGreatDoorPart3
import Derived.Test.YtegofjgkamhgaaaGreatDoorPart12
import Derived.Test.YtegofjgkamhgaaaGreatDoorPart5
import Derived.Test.YtegofjgkamhgaaaGreatDoorPart7
import Derived.Test.YtegofjgkamhgaaaGreatDoorPart9
import Derived.Test.YtegofjgkamhgaaaGreatDoorPart10
import Derived.Test.YtegofjgkamhgaaaGreatDoorPart13
import Derived.Test.YtegofjgkamhgaaaGreatDoorPart15
import Derived.Test.YtegofjgkamhgaaaGreatDoorPart16
set_option linter.unusedVariables false
set_option linter.unusedSectionVars false
set_option linter.unusedSimpArgs false
open _root_ renaming List → Ya, Option → Yb, Int → Yi, Nat → Yk, UInt8 → Yl, cond → Yr, Bool → Ys
open Bool renaming false → Yc, true → Yo
open Option renaming some → Yd, none → Ye
open Decidable renaming decide → Yf
open List renaming length → Yg, getD → Yn, set → YG, take → YW, drop → YY
open Go.IntKind renaming i64 → Yh
open Int renaming toNat → Yj, tmod → YQ
open Nat renaming beq → Ym, ble → YB
open Go.Op renaming bytesLess → Yy
open Exists renaming intro → Y3
open Go renaming FuncId → Y6, Calls → Yat
open Go.RowKit renaming wrap64 → Yai
namespace Go.Lift
open Go.Proofs
noncomputable section
variable[Sl]
set_option maxRecDepth 100000
abbrev Al:=(Ya Yl×Ya Yl)
abbrev Ei:Ty:=(.prod .str .str)
abbrev Mf:=(Yi×(Ya Al×Ys))
abbrev jM:Ty:=(.prod (.int .i64) (.prod (.slice Ei) .bool))
abbrev Kw:=(Ya Yl×(Yi×Ya Yi))
abbrev Ky:Ty:=(.prod .str (.prod (.int .i64) (.slice (.int .i64))))
abbrev BA:=(Ya Yl×(Yi×Ya Yl))
abbrev HN:Ty:=(.prod .str (.prod (.int .i64) .str))
abbrev Iq:=(Ya BA×(Ya BA×Ya (Ya Yl)))
abbrev Ni:Ty:=(.prod (.slice HN) (.prod (.slice HN) (.slice .str)))
abbrev AU:=(Yi×(Ya BA×(Yi×(Ya (Ya Yl)×(Yi×(Yi×(Yi×Ys)))))))
abbrev Lo:Ty:=(.prod (.int .i64) (.prod (.slice HN) (.prod (.int .i64) (.prod (.slice .str) (.prod (.int .i64) (.prod (.int .i64) (.prod (.int .i64) .bool)))))))
abbrev Ax:=(Ya AU×(Ya Iq×Yi))
abbrev Ta:Ty:=(.prod (.slice Lo) (.prod (.slice Ni) (.int .i64)))
abbrev Tb:=(Ya Yl×(Yi×((Yi×Yi)×(Yi×(Yi×(Ya Yi×(Ya (Yi×Yi)×(Yi×Yi))))))))
abbrev Kz:Ty:=(.prod .str (.prod (.int .i64) (.prod (.prod (.int .i64) (.int .i64)) (.prod (.int .i64) (.prod (.int .i64) (.prod (.slice (.int .i64)) (.prod (.slice (.prod (.int .i64) (.int .i64))) (.prod (.int .i64) (.int .i64)))))))))
abbrev Mg:=(Ya Yl×(Ya Tb×Ya (Yi×(Yi×(Yi×(Yi×Yi))))))
abbrev JS:Ty:=(.prod .str (.prod (.slice Kz) (.slice (.prod (.int .i64) (.prod (.int .i64) (.prod (.int .i64) (.prod (.int .i64) (.int .i64))))))))
abbrev GW:=(Yi×(Ya Yl×Yi))
abbrev FZ:Ty:=(.prod (.int .i64) (.prod .str (.int .i64)))
abbrev K0:=(Yi×(Yi×(Yi×(Yi×(Yi×(Yi×Yi))))))
abbrev Ir:Ty:=(.prod (.int .i64) (.prod (.int .i64) (.prod (.int .i64) (.prod (.int .i64) (.prod (.int .i64) (.prod (.int .i64) (.int .i64)))))))
abbrev Is:=(Ya Yl×(Yi×Ya K0))
abbrev Jp:Ty:=(.prod .str (.prod (.int .i64) (.slice Ir)))
abbrev Nj:=(Ya Yl×(Ya Yi×Ys))
abbrev Mh:Ty:=(.prod .str (.prod (.slice (.int .i64)) .bool))
abbrev K1:=(Ya Yl×(Yi×(Ya (Yi×Yi)×(Yi×(Yi×Ys)))))
abbrev HO:Ty:=(.prod .str (.prod (.int .i64) (.prod (.slice (.prod (.int .i64) (.int .i64))) (.prod (.int .i64) (.prod (.int .i64) .bool)))))
abbrev Tc:=(Ya Is×(Ya K1×(Ya Kw×Ya Mg)))
abbrev Q5:Ty:=(.prod (.slice Jp) (.prod (.slice HO) (.prod (.slice Ky) (.slice JS))))
abbrev AW:=(Ya Yl×(Ya Al×(Yi×(Yi×(Ys×Ys)))))
abbrev EI:Ty:=(.prod .str (.prod (.slice Ei) (.prod (.int .i64) (.prod (.int .i64) (.prod .bool .bool)))))
abbrev Ag:=(Yi×(Ya Yl×(Ya AW×(Yi×Yi))))
abbrev EJ:Ty:=(.prod (.int .i64) (.prod .str (.prod (.slice EI) (.prod (.int .i64) (.int .i64)))))
abbrev CW:=(Yi×(Yi×(Yi×(Yi×Ya BA))))
abbrev Fg:Ty:=(.prod (.int .i64) (.prod (.int .i64) (.prod (.int .i64) (.prod (.int .i64) (.slice HN)))))
abbrev BE:=(Yi×(Ya Ag×(Ya CW×Yi)))
abbrev jN:Ty:=(.prod (.int .i64) (.prod (.slice EJ) (.prod (.slice Fg) (.int .i64))))
abbrev ApI:=(Tc×Ya (Yi×Ya (Yi×Yi)))
abbrev Xq:Ty:=(.prod Q5 (.slice (.prod (.int .i64) (.slice (.prod (.int .i64) (.int .i64))))))
abbrev ApJ:=(Tc×Ya (Yi×Ya GW))
abbrev ApK:Ty:=(.prod Q5 (.slice (.prod (.int .i64) (.slice FZ))))
abbrev Cg:=(Yi×(Yi×(Yi×(Ya Yl×(Ya (Ya Yl)×Ya (Ya Yl))))))
abbrev Hp:Ty:=(.prod (.int .i64) (.prod (.int .i64) (.prod (.int .i64) (.prod .str (.prod (.slice .str) (.slice .str))))))
abbrev AFU:Al:=(([]:Ya Yl),([]:Ya Yl))
abbrev Acp:GW:=((0:Yi),(([]:Ya Yl),(0:Yi)))
abbrev AFV:Mf:=((0:Yi),(([]:Ya Al),Yc))
abbrev ApL:Nj:=(([]:Ya Yl),(([]:Ya Yi),Yc))
abbrev AFW:Kw:=(([]:Ya Yl),((0:Yi),([]:Ya Yi)))
abbrev AFX:BA:=(([]:Ya Yl),((0:Yi),([]:Ya Yl)))
abbrev AFY:Is:=(([]:Ya Yl),((0:Yi),([]:Ya K0)))
abbrev AFZ:Ax:=(([]:Ya AU),(([]:Ya Iq),(0:Yi)))
abbrev JT:BE:=((0:Yi),(([]:Ya Ag),(([]:Ya CW),(0:Yi))))
abbrev AG0:CW:=((0:Yi),((0:Yi),((0:Yi),((0:Yi),([]:Ya BA)))))
abbrev AG1:Iq:=(([]:Ya BA),(([]:Ya BA),([]:Ya (Ya Yl))))
abbrev HP:Ag:=((0:Yi),(([]:Ya Yl),(([]:Ya AW),((0:Yi),(0:Yi)))))
abbrev AG2:AW:=(([]:Ya Yl),(([]:Ya Al),((0:Yi),((0:Yi),(Yc,Yc)))))
abbrev AG3:K0:=((0:Yi),((0:Yi),((0:Yi),((0:Yi),((0:Yi),((0:Yi),(0:Yi)))))))
abbrev AG4:K1:=(([]:Ya Yl),((0:Yi),(([]:Ya (Yi×Yi)),((0:Yi),((0:Yi),Yc)))))
abbrev AG5:Mg:=(([]:Ya Yl),(([]:Ya Tb),([]:Ya (Yi×(Yi×(Yi×(Yi×Yi)))))))
abbrev AG6:Tc:=(([]:Ya Is),(([]:Ya K1),(([]:Ya Kw),([]:Ya Mg))))
abbrev Xr:Cg:=((0:Yi),((0:Yi),((0:Yi),(([]:Ya Yl),(([]:Ya (Ya Yl)),([]:Ya (Ya Yl)))))))
abbrev jO:AU:=((0:Yi),(([]:Ya BA),((0:Yi),(([]:Ya (Ya Yl)),((0:Yi),((0:Yi),((0:Yi),Yc)))))))
abbrev AG7:ApJ:=((([]:Ya Is),(([]:Ya K1),(([]:Ya Kw),([]:Ya Mg)))),([]:Ya (Yi×Ya GW)))
abbrev AG8:ApI:=((([]:Ya Is),(([]:Ya K1),(([]:Ya Kw),([]:Ya Mg)))),([]:Ya (Yi×Ya (Yi×Yi))))
abbrev AG9:Tb:=(([]:Ya Yl),((0:Yi),(((0:Yi),(0:Yi)),((0:Yi),((0:Yi),(([]:Ya Yi),(([]:Ya (Yi×Yi)),((0:Yi),(0:Yi)))))))))
abbrev Ar:=Ya Yl
abbrev BQ:=Ya Al
abbrev CU:=Ya Yi×Yi
abbrev D0:=Ya CW
abbrev Dr:=Ya AW
abbrev D4:=Ya Ag
abbrev DK:=Yi×Yi
abbrev BF:=Ya Ar
abbrev HQ:=Yi×Ya GW
abbrev Ox:=Ya (Ya Yl×Ya Al)
abbrev It:=Ya BA
abbrev Hq:=Ya GW
abbrev IN:=Ya Cg
abbrev IP:=Ya AU
abbrev Ga:=Ya Yi
abbrev GB:=Ya DK
abbrev Oy:=Ya Iq
abbrev Acq:OT:=.p (.d .str) (.p (.d (.int .i64)) (.p (.d (.prod (.int .i64) (.int .i64))) (.p (.d (.int .i64)) (.p (.d (.int .i64)) (.p (.r 3 (.d (.int .i64))) (.p (.r 158 (.d (.prod (.int .i64) (.int .i64)))) (.d (.prod (.int .i64) (.int .i64)))))))))
abbrev Acr:OT:=.p (.d .str) (.p (.r 252 Acq) (.r 80 (.d (.prod (.int .i64) (.prod (.int .i64) (.prod (.int .i64) (.prod (.int .i64) (.int .i64))))))))
abbrev Acs:OT:=.p (.d .str) (.p (.d (.int .i64)) (.p (.r 158 (.d (.prod (.int .i64) (.int .i64)))) (.d (.prod (.int .i64) (.prod (.int .i64) .bool)))))
abbrev Acu:OT:=.p (.d .str) (.p (.d (.int .i64)) (.r 335 (.d Ir)))
abbrev Acv:OT:=.p (.d .str) (.p (.d (.int .i64)) (.r 3 (.d (.int .i64))))
abbrev Acw:OT:=.p (.d (.int .i64)) (.r 220 (.d FZ))
abbrev Aa:Ys×Ya CT:=(Yc,[.data (.int .i64)])
abbrev Ap:Ys×Ya CT:=(Yc,[.data .bool])
abbrev ApM:BT:=.cells 243 [.data (.slice Jp),.data (.slice HO),.data (.slice Ky),.data (.slice JS),.trowh 1]
abbrev DC:BT:=.cells 92 [.data (.prod (.slice (.int .i64)) (.int .i64))]
abbrev AF:Ys×Ya CT:=(Yc,[.ptr 0 0])
abbrev AL:Ys×Ya CT:=(Yc,[.data .str])
abbrev C2:Ys×Ya CT:=(Yc,[.data (.slice Ei)])
abbrev AX:Ys×Ya CT:=(Yc,[.rowh 0])
abbrev CE:BT:=.cells 111 [.data EJ]
abbrev ApN:BT:=.cells 215 [.trowh 1,.trowh 2,.trowh 3,.trowh 4]
abbrev BJ:Ys×Ya CT:=(Yc,[.ptr 1 0])
abbrev Jq:Ys×Ya CT:=(Yo,[.data (.prod (.int .i64) (.slice (.prod (.int .i64) (.int .i64))))])
abbrev Ds:BT:=.cells 3 [.data (.int .i64)]
abbrev F3:BT:=.cells 31 [.data Ta]
abbrev GX:BT:=.cells 43 [.data jN]
abbrev EV:Ys×Ya CT:=(Yc,[.data (.slice FZ)])
abbrev IQ:Ys×Ya CT:=(Yc,[.data (.slice (.prod (.int .i64) (.int .i64)))])
abbrev Gn:Ys×Ya CT:=(Yc,[.data (.slice EI)])
abbrev CX:Ys×Ya CT:=(Yc,[.ptr 2 0])
abbrev Fh:Ys×Ya CT:=(Yo,[.data Q5])
abbrev Td:BT:=.cells 111 [.data (.int .i64),.data .str,.rowh 2,.data (.int .i64),.data (.int .i64)]
abbrev HR:BT:=.cells 35 [.data Lo]
abbrev Oz:Ys×Ya CT:=(Yc,[.data (.slice (.prod (.int .i64) (.prod (.int .i64) (.int .i64))))])
abbrev GY:BT:=.cells 74 [.data Q5]
abbrev Te:Ys×Ya CT:=(Yo,[.data (.prod (.int .i64) (.prod (.int .i64) (.prod (.int .i64) (.prod (.int .i64) (.int .i64)))))])
abbrev Jr:Ys×Ya CT:=(Yc,[.data (.slice (.int .i64))])
abbrev JU:Ys×Ya CT:=(Yc,[.data (.slice HN)])
abbrev O0:Ys×Ya CT:=(Yo,[.data (.prod (.int .i64) (.prod (.int .i64) (.int .i64)))])
abbrev Acx:BT:=.cells 65 [.data (.int .i64),.data (.int .i64),.data (.int .i64),.data .str,.rowh 6,.rowh 7]
abbrev Js:BT:=.cells 65 [.data Hp]
abbrev EW:Ys×Ya CT:=(Yc,[.ptr 3 0])
abbrev Xs:Ys×Ya CT:=(Yc,[.data (.slice (.prod (.int .i64) (.prod (.int .i64) (.prod (.int .i64) (.prod (.int .i64) (.int .i64))))))])
abbrev HS:Ys×Ya CT:=(Yo,[.data EJ])
abbrev EK:Ys×Ya CT:=(Yc,[.rowh 1])
abbrev IR:Ys×Ya CT:=(Yc,[.data (.slice .str)])
abbrev K2:Ys×Ya CT:=(Yc,[.data (.slice EJ)])
abbrev Iu:Ys×Ya CT:=(Yo,[.data Xq])
abbrev Acy:BT:=.cells 43 [.data (.int .i64),.rowh 5,.rowh 6,.data (.int .i64)]
abbrev IS:Ys×Ya CT:=(Yo,[.data jN])
abbrev Lp:Ys×Ya CT:=(Yc,[.data (.slice Lo)])
abbrev Tf:Ys×Ya CT:=(Yc,[.data (.slice (.prod (.prod (.int .i64) (.int .i64)) (.int .i64)))])
abbrev IT:Ys×Ya CT:=(Yo,[.data FZ])
abbrev JV:Ys×Ya CT:=(Yo,[.data JS])
abbrev Mi:BT:=.cells 9 [.data .str]
abbrev Mj:BT:=.cells 38 [.data (.slice Ei)]
abbrev O1:Ys×Ya CT:=(Yo,[.data (.prod (.int .i64) (.int .i64))])
abbrev ApO:BT:=.cells 43 [.data (.int .i64),.rowh 7,.rowh 8,.data (.int .i64)]
abbrev Nk:Ys×Ya CT:=(Yc,[.data (.slice Fg)])
abbrev Xt:BT:=.cells 148 [.data (.prod (.int .i64) (.slice (.prod (.int .i64) (.int .i64))))]
abbrev K3:Ys×Ya CT:=(Yo,[.data Kz])
abbrev O2:Ys×Ya CT:=(Yc,[.data (.slice Ir)])
abbrev Acz:BT:=.cells 65 [.data (.int .i64),.data (.int .i64),.data (.int .i64),.data .str,.rowh 4,.rowh 5]
abbrev ApP:BT:=.cells 65 [.data (.int .i64),.data (.int .i64),.data (.int .i64),.data .str,.rowh 3,.rowh 4]
abbrev Xu:Ys×Ya CT:=(Yc,[.data (.slice (.prod (.int .i64) (.slice FZ)))])
abbrev ApQ:BT:=.cells 111 [.data (.int .i64),.data .str,.rowh 5,.data (.int .i64),.data (.int .i64)]
abbrev Mk:Ys×Ya CT:=(Yo,[.data Jp])
abbrev Nl:Ys×Ya CT:=(Yo,[.data Ta])
abbrev Nm:Ys×Ya CT:=(Yo,[.data Lo])
abbrev jP:BT:=.cells 56 [.data jM]
abbrev Tg:Ys×Ya CT:=(Yc,[.data (.slice Ni)])
abbrev Q6:Ys×Ya CT:=(Yo,[.data Ky])
abbrev Th:Ys×Ya CT:=(Yc,[.data (.slice Jp)])
abbrev jQ:BT:=.cells 43 [.data (.int .i64),.rowh 3,.rowh 4,.data (.int .i64)]
abbrev ApR:BT:=.cells 43 [.data (.int .i64),.rowh 1,.rowh 2,.data (.int .i64)]
abbrev Q7:Ys×Ya CT:=(Yo,[.data HN])
abbrev Xv:Ys×Ya CT:=(Yc,[.data (.slice Ky)])
abbrev Xw:Ys×Ya CT:=(Yc,[.data (.slice Hp)])
abbrev Ti:Ys×Ya CT:=(Yo,[.data EI])
abbrev Nn:Ys×Ya CT:=(Yc,[.rowh 4])
abbrev AcA:BT:=.cells 111 [.data (.int .i64),.data .str,.rowh 3,.data (.int .i64),.data (.int .i64)]
abbrev Fi:Ya BT:=[ApN,.tree 153 Acu,.tree 228 Acs,.tree 233 Acv,.tree 129 Acr]
abbrev Tj:Ya BT:=[F3,Acy,jP,ApO,.row 3 (.int .i64),.row 111 EJ,.row 51 Fg,.row 111 EJ,.row 51 Fg]
abbrev JW:Ya BT:=[.row 284 (.prod (.int .i64) (.int .i64))]
abbrev O3:Ya BT:=[.row 156 (.prod (.int .i64) (.prod (.int .i64) (.int .i64)))]
abbrev GZ:Ya BT:=[ApM,.tree 212 Acw]
abbrev Tk:Ya BT:=[.map 310 .str (.slice Ei) Yc,.row 9 .str]
abbrev jR:Ya BT:=[ApQ,HR,CE,Js,Acx,.row 177 EI,.row 9 .str,.row 9 .str]
abbrev Tl:Ya BT:=[.row 370 (.prod (.int .i64) (.int .i64))]
abbrev AcB:Ya BT:=[F3,.cells 43 [.data (.int .i64),.rowh 4,.rowh 5,.data (.int .i64)],GX,.row 65 Hp,.row 111 EJ,.row 51 Fg]
abbrev Xx:Ya BT:=[.row 212 (.prod (.int .i64) (.slice FZ))]
abbrev Ml:Ya BT:=[.row 3 (.int .i64)]
abbrev O4:Ya BT:=[DC,F3,GX,GX]
abbrev AcC:Ya BT:=[.cells 43 [.data (.int .i64),.rowh 2,.rowh 3,.data (.int .i64)],GX,.row 111 EJ,.row 51 Fg]
abbrev jS:Ya BT:=[Td,ApP,.row 177 EI,.row 9 .str,.row 9 .str]
abbrev jT:Ya BT:=[ApR,.row 111 EJ,.row 51 Fg]
abbrev AcD:Ya BT:=[DC,.cells 31 [.rowh 2,.data (.slice Ni),.data (.int .i64)],.row 35 Lo]
abbrev AcE:Ya BT:=[.row 358 (.prod (.int .i64) (.int .i64)),.row 370 (.prod (.int .i64) (.int .i64))]
abbrev Xy:Ya BT:=[.cells 484 [.fn 373 []],Mi]
abbrev Xz:Ya BT:=[.cells 234 [.fn 375 []],Mi]
abbrev X0:Ya BT:=[.cells 224 [.fn 370 []],Mi]
abbrev jU:Ya BT:=[.row 358 (.prod (.int .i64) (.int .i64))]
abbrev AcF:Ya BT:=[.map 154 (.int .i64) (.prod (.int .i64) (.prod (.int .i64) (.int .i64))) Yo]
abbrev Tm:Ya BT:=[.row 51 Fg]
abbrev AcG:Ya BT:=[CE,HR,Acz,Acx,.row 9 .str,.row 9 .str,.row 9 .str,.row 9 .str]
abbrev DU:Ya (TypeId×OT):=[(129,Acr),(153,Acu),(228,Acs),(233,Acv),(252,Acq)]
abbrev Lq:Ya (TypeId×OT):=[(212,Acw)]
def tab:Ya (Yk×TI):=[
 (3,⟨Yc,1,8,[.int .i64 (0:Yi)],[],Ye,Ye,(Yd (.int .i64)),(Yd .i64),Yc,Yc,Ye,Ye,Yc⟩),
 (4,⟨Yc,1,1,[.bool Yc],[],Ye,Ye,(Yd .bool),Ye,Yo,Yc,Ye,Ye,Yc⟩),
 (5,⟨Yc,1,1,[.int .u8 (0:Yi)],[],Ye,Ye,(Yd (.int .u8)),(Yd .u8),Yc,Yc,Ye,Ye,Yc⟩),
 (9,⟨Yc,1,16,[.str ([]:Ya Yl)],[],Ye,Ye,(Yd .str),Ye,Yc,Yo,Ye,Ye,Yc⟩),
 (22,⟨Yc,1,24,[.nils],[],(Yd 3),Ye,(Yd (.slice (.int .i64))),Ye,Yc,Yc,Ye,Ye,Yc⟩),
 (27,⟨Yc,1,24,[.nils],[],(Yd 35),Ye,(Yd (.slice Lo)),Ye,Yc,Yc,Ye,Ye,Yc⟩),
 (29,⟨Yc,1,24,[.nils],[],(Yd 379),Ye,(Yd (.slice Ni)),Ye,Yc,Yc,Ye,Ye,Yc⟩),
 (31,⟨Yo,3,56,[.nils,.nils,.int .i64 (0:Yi)],[(0,1,Yc),(1,1,Yc),(2,1,Yc)],Ye,Ye,(Yd Ta),Ye,Yc,Yc,Ye,Ye,Yc⟩),
 (32,⟨Yc,1,24,[.nils],[],(Yd 9),Ye,(Yd (.slice .str)),Ye,Yc,Yc,Ye,Ye,Yc⟩),
 (33,⟨Yc,1,24,[.nils],[],(Yd 49),Ye,(Yd (.slice HN)),Ye,Yc,Yc,Ye,Ye,Yc⟩),
 (35,⟨Yo,8,96,[.int .i64 (0:Yi),.nils,.int .i64 (0:Yi),.nils,.int .i64 (0:Yi),.int .i64 (0:Yi),.int .i64 (0:Yi),.bool Yc],[(0,1,Yc),(1,1,Yc),(2,1,Yc),(3,1,Yc),(4,1,Yc),(5,1,Yc),(6,1,Yc),(7,1,Yc)],Ye,Ye,(Yd Lo),Ye,Yc,Yc,Ye,Ye,Yc⟩),
 (37,⟨Yo,2,32,[.str ([]:Ya Yl),.str ([]:Ya Yl)],[(0,1,Yc),(1,1,Yc)],Ye,Ye,(Yd Ei),Ye,Yc,Yc,(Yd [.s,.s]),Ye,Yc⟩),
 (38,⟨Yc,1,24,[.nils],[],(Yd 37),Ye,(Yd (.slice Ei)),Ye,Yc,Yc,Ye,Ye,Yc⟩),
 (40,⟨Yc,1,24,[.nils],[],(Yd 111),Ye,(Yd (.slice EJ)),Ye,Yc,Yc,Ye,Ye,Yc⟩),
 (41,⟨Yc,1,24,[.nils],[],(Yd 51),Ye,(Yd (.slice Fg)),Ye,Yc,Yc,Ye,Ye,Yc⟩),
 (43,⟨Yo,4,64,[.int .i64 (0:Yi),.nils,.nils,.int .i64 (0:Yi)],[(0,1,Yc),(1,1,Yc),(2,1,Yc),(3,1,Yc)],Ye,Ye,(Yd jN),Ye,Yc,Yc,Ye,Ye,Yc⟩),
 (44,⟨Yc,1,8,[.int .i64 (0:Yi)],[],Ye,Ye,(Yd (.int .i64)),(Yd .i64),Yc,Yc,Ye,Ye,Yc⟩),
 (49,⟨Yo,3,40,[.str ([]:Ya Yl),.int .i64 (0:Yi),.str ([]:Ya Yl)],[(0,1,Yc),(1,1,Yc),(2,1,Yc)],Ye,Ye,(Yd HN),Ye,Yc,Yc,(Yd [.s,.i,.s]),Ye,Yc⟩),
 (51,⟨Yo,5,56,[.int .i64 (0:Yi),.int .i64 (0:Yi),.int .i64 (0:Yi),.int .i64 (0:Yi),.nils],[(0,1,Yc),(1,1,Yc),(2,1,Yc),(3,1,Yc),(4,1,Yc)],Ye,Ye,(Yd Fg),Ye,Yc,Yc,Ye,Ye,Yc⟩),
 (56,⟨Yo,3,40,[.int .i64 (0:Yi),.nils,.bool Yc],[(0,1,Yc),(1,1,Yc),(2,1,Yc)],Ye,Ye,(Yd jM),Ye,Yc,Yc,Ye,Ye,Yc⟩),
 (61,⟨Yc,1,24,[.nils],[],(Yd 65),Ye,(Yd (.slice Hp)),Ye,Yc,Yc,Ye,Ye,Yc⟩),
 (65,⟨Yo,6,88,[.int .i64 (0:Yi),.int .i64 (0:Yi),.int .i64 (0:Yi),.str ([]:Ya Yl),.nils,.nils],[(0,1,Yc),(1,1,Yc),(2,1,Yc),(3,1,Yc),(4,1,Yc),(5,1,Yc)],Ye,Ye,(Yd Hp),Ye,Yc,Yc,Ye,Ye,Yc⟩),
 (69,⟨Yc,1,24,[.nils],[],(Yd 153),Ye,(Yd (.slice Jp)),Ye,Yc,Yc,Ye,Ye,Yc⟩),
 (70,⟨Yc,1,24,[.nils],[],(Yd 228),Ye,(Yd (.slice HO)),Ye,Yc,Yc,Ye,Ye,Yc⟩),
 (71,⟨Yc,1,24,[.nils],[],(Yd 233),Ye,(Yd (.slice Ky)),Ye,Yc,Yc,Ye,Ye,Yc⟩),
 (72,⟨Yc,1,24,[.nils],[],(Yd 129),Ye,(Yd (.slice JS)),Ye,Yc,Yc,Ye,Ye,Yc⟩),
 (74,⟨Yo,4,96,[.nils,.nils,.nils,.nils],[(0,1,Yc),(1,1,Yc),(2,1,Yc),(3,1,Yc)],Ye,Ye,(Yd Q5),Ye,Yc,Yc,Ye,Ye,Yc⟩),
 (80,⟨Yo,5,40,[.int .i64 (0:Yi),.int .i64 (0:Yi),.int .i64 (0:Yi),.int .i64 (0:Yi),.int .i64 (0:Yi)],[(0,1,Yc),(1,1,Yc),(2,1,Yc),(3,1,Yc),(4,1,Yc)],Ye,Ye,(Yd (.prod (.int .i64) (.prod (.int .i64) (.prod (.int .i64) (.prod (.int .i64) (.int .i64)))))),Ye,Yc,Yc,(Yd [.i,.i,.i,.i,.i]),Ye,Yc⟩),
 (85,⟨Yc,1,24,[.nils],[],(Yd 90),Ye,(Yd (.slice (.prod (.int .i64) (.prod (.int .i64) (.int .i64))))),Ye,Yc,Yc,Ye,Ye,Yc⟩),
 (90,⟨Yo,3,24,[.int .i64 (0:Yi),.int .i64 (0:Yi),.int .i64 (0:Yi)],[(0,1,Yc),(1,1,Yc),(2,1,Yc)],Ye,Ye,(Yd (.prod (.int .i64) (.prod (.int .i64) (.int .i64)))),Ye,Yc,Yc,(Yd [.i,.i,.i]),Ye,Yc⟩),
 (92,⟨Yo,2,32,[.nils,.int .i64 (0:Yi)],[(0,1,Yc),(1,1,Yc)],Ye,Ye,(Yd (.prod (.slice (.int .i64)) (.int .i64))),Ye,Yc,Yc,Ye,Ye,Yc⟩),
 (101,⟨Yo,4,64,[.str ([]:Ya Yl),.str ([]:Ya Yl),.str ([]:Ya Yl),.str ([]:Ya Yl)],[],(Yd 9),(Yd 4),(Yd (.prod .str (.prod .str Ei))),Ye,Yc,Yc,(Yd [.s,.s,.s,.s]),Ye,Yc⟩),
 (109,⟨Yc,1,24,[.nils],[],(Yd 177),Ye,(Yd (.slice EI)),Ye,Yc,Yc,Ye,Ye,Yc⟩),
 (111,⟨Yo,5,64,[.int .i64 (0:Yi),.str ([]:Ya Yl),.nils,.int .i64 (0:Yi),.int .i64 (0:Yi)],[(0,1,Yc),(1,1,Yc),(2,1,Yc),(3,1,Yc),(4,1,Yc)],Ye,Ye,(Yd EJ),Ye,Yc,Yc,Ye,Ye,Yc⟩),
 (120,⟨Yc,1,24,[.nils],[],(Yd 212),Ye,(Yd (.slice (.prod (.int .i64) (.slice FZ)))),Ye,Yc,Yc,Ye,Ye,Yc⟩),
 (125,⟨Yc,1,8,[.nilp],[],Ye,Ye,Ye,Ye,Yc,Yc,Ye,Ye,Yo⟩),
 (126,⟨Yc,1,24,[.nils],[],(Yd 252),Ye,(Yd (.slice Kz)),Ye,Yc,Yc,Ye,Ye,Yc⟩),
 (127,⟨Yc,1,24,[.nils],[],(Yd 80),Ye,(Yd (.slice (.prod (.int .i64) (.prod (.int .i64) (.prod (.int .i64) (.prod (.int .i64) (.int .i64))))))),Ye,Yc,Yc,Ye,Ye,Yc⟩),
 (129,⟨Yo,3,64,[.str ([]:Ya Yl),.nils,.nils],[(0,1,Yc),(1,1,Yc),(2,1,Yc)],Ye,Ye,(Yd JS),Ye,Yc,Yc,Ye,Ye,Yc⟩),
 (134,⟨Yc,1,24,[.nils],[],(Yd 148),Ye,(Yd (.slice (.prod (.int .i64) (.slice (.prod (.int .i64) (.int .i64)))))),Ye,Yc,Yc,Ye,Ye,Yc⟩),
 (136,⟨Yo,5,120,[.nils,.nils,.nils,.nils,.nils],[(0,4,Yo),(4,1,Yc)],Ye,Ye,(Yd Xq),Ye,Yc,Yc,Ye,Ye,Yc⟩),
 (141,⟨Yc,1,24,[.nils],[],(Yd 160),Ye,(Yd (.slice (.prod (.prod (.int .i64) (.int .i64)) (.int .i64)))),Ye,Yc,Yc,Ye,Ye,Yc⟩),
 (142,⟨Yc,1,24,[.nils],[],(Yd 156),Ye,(Yd (.slice (.prod (.int .i64) (.prod (.int .i64) (.int .i64))))),Ye,Yc,Yc,Ye,Ye,Yc⟩),
 (146,⟨Yc,1,24,[.nils],[],(Yd 358),Ye,(Yd (.slice (.prod (.int .i64) (.int .i64)))),Ye,Yc,Yc,Ye,Ye,Yc⟩),
 (148,⟨Yo,2,32,[.int .i64 (0:Yi),.nils],[(0,1,Yc),(1,1,Yc)],Ye,Ye,(Yd (.prod (.int .i64) (.slice (.prod (.int .i64) (.int .i64))))),Ye,Yc,Yc,Ye,Ye,Yc⟩),
 (151,⟨Yc,1,24,[.nils],[],(Yd 335),Ye,(Yd (.slice Ir)),Ye,Yc,Yc,Ye,Ye,Yc⟩),
 (153,⟨Yo,3,48,[.str ([]:Ya Yl),.int .i64 (0:Yi),.nils],[(0,1,Yc),(1,1,Yc),(2,1,Yc)],Ye,Ye,(Yd Jp),Ye,Yc,Yc,Ye,Ye,Yc⟩),
 (154,⟨Yc,1,8,[.junk],[],Ye,Ye,Ye,Ye,Yc,Yc,Ye,(Yd (3,90)),Yc⟩),
 (156,⟨Yo,3,24,[.int .i64 (0:Yi),.int .i64 (0:Yi),.int .i64 (0:Yi)],[(0,1,Yc),(1,1,Yc),(2,1,Yc)],Ye,Ye,(Yd (.prod (.int .i64) (.prod (.int .i64) (.int .i64)))),Ye,Yc,Yc,(Yd [.i,.i,.i]),Ye,Yc⟩),
 (158,⟨Yo,2,16,[.int .i64 (0:Yi),.int .i64 (0:Yi)],[(0,1,Yc),(1,1,Yc)],Ye,Ye,(Yd (.prod (.int .i64) (.int .i64))),Ye,Yc,Yc,(Yd [.i,.i]),Ye,Yc⟩),
 (160,⟨Yo,3,24,[.int .i64 (0:Yi),.int .i64 (0:Yi),.int .i64 (0:Yi)],[(0,2,Yo),(2,1,Yc)],Ye,Ye,(Yd (.prod (.prod (.int .i64) (.int .i64)) (.int .i64))),Ye,Yc,Yc,(Yd [.i,.i,.i]),Ye,Yc⟩),
 (161,⟨Yc,1,24,[.nils],[],(Yd 284),Ye,(Yd (.slice (.prod (.int .i64) (.int .i64)))),Ye,Yc,Yc,Ye,Ye,Yc⟩),
 (163,⟨Yc,1,24,[.nils],[],(Yd 158),Ye,(Yd (.slice (.prod (.int .i64) (.int .i64)))),Ye,Yc,Yc,Ye,Ye,Yc⟩),
 (177,⟨Yo,6,64,[.str ([]:Ya Yl),.nils,.int .i64 (0:Yi),.int .i64 (0:Yi),.bool Yc,.bool Yc],[(0,1,Yc),(1,1,Yc),(2,1,Yc),(3,1,Yc),(4,1,Yc),(5,1,Yc)],Ye,Ye,(Yd EI),Ye,Yc,Yc,Ye,Ye,Yc⟩),
 (200,⟨Yc,1,24,[.nils],[],(Yd 38),Ye,(Yd (.slice (.slice Ei))),Ye,Yc,Yc,Ye,Ye,Yc⟩),
 (207,⟨Yc,1,24,[.nils],[],(Yd 220),Ye,(Yd (.slice FZ)),Ye,Yc,Yc,Ye,Ye,Yc⟩),
 (212,⟨Yo,2,32,[.int .i64 (0:Yi),.nils],[(0,1,Yc),(1,1,Yc)],Ye,Ye,(Yd (.prod (.int .i64) (.slice FZ))),Ye,Yc,Yc,Ye,Ye,Yc⟩),
 (215,⟨Yo,4,96,[.nils,.nils,.nils,.nils],[(0,4,Yo)],Ye,Ye,(Yd Q5),Ye,Yc,Yc,Ye,Ye,Yc⟩),
 (216,⟨Yc,1,8,[.junk],[],Ye,Ye,Ye,Ye,Yc,Yc,Ye,(Yd (9,218)),Yc⟩),
 (218,⟨Yc,1,8,[.nilfn],[],Ye,Ye,Ye,Ye,Yc,Yc,Ye,Ye,Yc⟩),
 (220,⟨Yo,3,32,[.int .i64 (0:Yi),.str ([]:Ya Yl),.int .i64 (0:Yi)],[(0,1,Yc),(1,1,Yc),(2,1,Yc)],Ye,Ye,(Yd FZ),Ye,Yc,Yc,(Yd [.i,.s,.i]),Ye,Yc⟩),
 (224,⟨Yc,1,8,[.nilfn],[],Ye,Ye,Ye,Ye,Yc,Yc,Ye,Ye,Yc⟩),
 (226,⟨Yc,1,8,[.junk],[],Ye,Ye,Ye,Ye,Yc,Yc,Ye,(Yd (9,4)),Yc⟩),
 (228,⟨Yo,6,72,[.str ([]:Ya Yl),.int .i64 (0:Yi),.nils,.int .i64 (0:Yi),.int .i64 (0:Yi),.bool Yc],[(0,1,Yc),(1,1,Yc),(2,1,Yc),(3,1,Yc),(4,1,Yc),(5,1,Yc)],Ye,Ye,(Yd HO),Ye,Yc,Yc,Ye,Ye,Yc⟩),
 (233,⟨Yo,3,48,[.str ([]:Ya Yl),.int .i64 (0:Yi),.nils],[(0,1,Yc),(1,1,Yc),(2,1,Yc)],Ye,Ye,(Yd Ky),Ye,Yc,Yc,Ye,Ye,Yc⟩),
 (234,⟨Yc,1,8,[.nilfn],[],Ye,Ye,Ye,Ye,Yc,Yc,Ye,Ye,Yc⟩),
 (243,⟨Yo,5,120,[.nils,.nils,.nils,.nils,.nils],[(0,4,Yo),(4,1,Yc)],Ye,Ye,(Yd ApK),Ye,Yc,Yc,Ye,Ye,Yc⟩),
 (250,⟨Yo,2,16,[.int .i64 (0:Yi),.int .i64 (0:Yi)],[(0,1,Yc),(1,1,Yc)],Ye,Ye,(Yd (.prod (.int .i64) (.int .i64))),Ye,Yc,Yc,(Yd [.i,.i]),Ye,Yc⟩),
 (252,⟨Yo,10,120,[.str ([]:Ya Yl),.int .i64 (0:Yi),.int .i64 (0:Yi),.int .i64 (0:Yi),.int .i64 (0:Yi),.int .i64 (0:Yi),.nils,.nils,.int .i64 (0:Yi),.int .i64 (0:Yi)],[(0,1,Yc),(1,1,Yc),(2,2,Yo),(4,1,Yc),(5,1,Yc),(6,1,Yc),(7,1,Yc),(8,1,Yc),(9,1,Yc)],Ye,Ye,(Yd Kz),Ye,Yc,Yc,Ye,Ye,Yc⟩),
 (258,⟨Yo,2,32,[.nilp,.nils],[(0,1,Yc),(1,1,Yc)],Ye,Ye,Ye,Ye,Yc,Yc,Ye,Ye,Yc⟩),
 (261,⟨Yc,1,16,[.err Yo],[],Ye,Ye,(Yd .err),Ye,Yc,Yc,Ye,Ye,Yc⟩),
 (280,⟨Yc,1,24,[.nils],[],(Yd 283),Ye,(Yd (.slice (.prod (.int .i64) (.prod (.int .i64) (.int .i64))))),Ye,Yc,Yc,Ye,Ye,Yc⟩),
 (283,⟨Yo,3,24,[.int .i64 (0:Yi),.int .i64 (0:Yi),.int .i64 (0:Yi)],[(0,1,Yc),(1,1,Yc),(2,1,Yc)],Ye,Ye,(Yd (.prod (.int .i64) (.prod (.int .i64) (.int .i64)))),Ye,Yc,Yc,(Yd [.i,.i,.i]),Ye,Yc⟩),
 (284,⟨Yo,2,16,[.int .i64 (0:Yi),.int .i64 (0:Yi)],[(0,1,Yc),(1,1,Yc)],Ye,Ye,(Yd (.prod (.int .i64) (.int .i64))),Ye,Yc,Yc,(Yd [.i,.i]),Ye,Yc⟩),
 (288,⟨Yc,1,8,[.nilfn],[],Ye,Ye,Ye,Ye,Yc,Yc,Ye,Ye,Yc⟩),
 (302,⟨Yc,1,8,[.int .u64 (0:Yi)],[],Ye,Ye,(Yd (.int .u64)),(Yd .u64),Yc,Yc,Ye,Ye,Yc⟩),
 (310,⟨Yc,1,8,[.junk],[],Ye,Ye,Ye,Ye,Yc,Yc,Ye,(Yd (9,38)),Yc⟩),
 (324,⟨Yo,3,48,[.str ([]:Ya Yl),.nils,.bool Yc],[(0,1,Yc),(1,1,Yc),(2,1,Yc)],Ye,Ye,(Yd Mh),Ye,Yc,Yc,Ye,Ye,Yc⟩),
 (335,⟨Yo,7,56,[.int .i64 (0:Yi),.int .i64 (0:Yi),.int .i64 (0:Yi),.int .i64 (0:Yi),.int .i64 (0:Yi),.int .i64 (0:Yi),.int .i64 (0:Yi)],[(0,1,Yc),(1,1,Yc),(2,1,Yc),(3,1,Yc),(4,1,Yc),(5,1,Yc),(6,1,Yc)],Ye,Ye,(Yd Ir),Ye,Yc,Yc,(Yd [.i,.i,.i,.i,.i,.i,.i]),Ye,Yc⟩),
 (358,⟨Yo,2,16,[.int .i64 (0:Yi),.int .i64 (0:Yi)],[(0,1,Yc),(1,1,Yc)],Ye,Ye,(Yd (.prod (.int .i64) (.int .i64))),Ye,Yc,Yc,(Yd [.i,.i]),Ye,Yc⟩),
 (366,⟨Yc,1,24,[.nils],[],(Yd 370),Ye,(Yd (.slice (.prod (.int .i64) (.int .i64)))),Ye,Yc,Yc,Ye,Ye,Yc⟩),
 (370,⟨Yo,2,16,[.int .i64 (0:Yi),.int .i64 (0:Yi)],[(0,1,Yc),(1,1,Yc)],Ye,Ye,(Yd (.prod (.int .i64) (.int .i64))),Ye,Yc,Yc,(Yd [.i,.i]),Ye,Yc⟩),
 (379,⟨Yo,3,72,[.nils,.nils,.nils],[(0,1,Yc),(1,1,Yc),(2,1,Yc)],Ye,Ye,(Yd Ni),Ye,Yc,Yc,Ye,Ye,Yc⟩),
 (398,⟨Yc,1,24,[.nils],[],(Yd 324),Ye,(Yd (.slice Mh)),Ye,Yc,Yc,Ye,Ye,Yc⟩),
 (403,⟨Yc,1,8,[.nilp],[],Ye,Ye,Ye,Ye,Yc,Yc,Ye,Ye,Yo⟩),
 (409,⟨Yc,1,8,[.nilp],[],Ye,Ye,Ye,Ye,Yc,Yc,Ye,Ye,Yo⟩),
 (412,⟨Yc,1,8,[.nilp],[],Ye,Ye,Ye,Ye,Yc,Yc,Ye,Ye,Yo⟩),
 (417,⟨Yc,1,8,[.nilp],[],Ye,Ye,Ye,Ye,Yc,Yc,Ye,Ye,Yo⟩),
 (425,⟨Yo,3,24,[.int .i64 (0:Yi),.int .i64 (0:Yi),.int .i64 (0:Yi)],[(0,1,Yc),(1,1,Yc),(2,1,Yc)],Ye,Ye,(Yd (.prod (.int .i64) (.prod (.int .i64) (.int .i64)))),Ye,Yc,Yc,(Yd [.i,.i,.i]),Ye,Yc⟩),
 (442,⟨Yc,1,8,[.nilfn],[],Ye,Ye,Ye,Ye,Yc,Yc,Ye,Ye,Yc⟩),
 (484,⟨Yc,1,8,[.nilfn],[],Ye,Ye,Ye,Ye,Yc,Yc,Ye,Ye,Yc⟩),
 (490,⟨Yc,1,8,[.junk],[],Ye,Ye,Ye,Ye,Yc,Yc,Ye,(Yd (3,161)),Yc⟩),
 (539,⟨Yo,12,96,[.int .i64 (0:Yi),.int .i64 (0:Yi),.int .i64 (0:Yi),.int .i64 (0:Yi),.int .i64 (0:Yi),.int .i64 (0:Yi),.int .i64 (0:Yi),.int .i64 (0:Yi),.int .i64 (0:Yi),.int .i64 (0:Yi),.int .i64 (0:Yi),.int .i64 (0:Yi)],[],(Yd 3),(Yd 12),(Yd (.prod (.int .i64) (.prod (.int .i64) (.prod (.int .i64) (.prod (.int .i64) (.prod (.int .i64) Ir)))))),Ye,Yc,Yc,(Yd [.i,.i,.i,.i,.i,.i,.i,.i,.i,.i,.i,.i]),Ye,Yc⟩)]
theorem AG:TOk Tryz.prog (look tab):=Ao6 (by kernel_rfl)
theorem mixed:Tryz.prog.follows .mixedOrders=Yo:=by kernel_rfl
abbrev OK(p:Pc)(G:p.G):Prop:=p.Ok Tryz.prog G
abbrev GO(X:Ctx):Prop:=ΓOk Tryz.prog X.Γ
@[reducible] def cx(l:Ya (Yk×Fun)):Ctx:=⟨look tab,Bb l,Yc,Yc,Yc,Yc,[],Ye,0,[]⟩
@[reducible] def ApS{A0 A1 B:Type}(f:(A0->A1->B)->A0->A1->B)(z:B):Yk->A0->A1->B
 |0=>λ_ _=>z
 |i+1=>f (ApS f z i)
@[reducible] def HT{A0 A1 A2 B:Type}(f:(A0->A1->A2->B)->A0->A1->A2->B)(z:B):Yk->A0->A1->A2->B
 |0=>λ_ _ _=>z
 |i+1=>f (HT f z i)
@[reducible] def Gp{A0 A1 A2 A3 B:Type}(f:(A0->A1->A2->A3->B)->A0->A1->A2->A3->B)(z:B):Yk->A0->A1->A2->A3->B
 |0=>λ_ _ _ _=>z
 |i+1=>f (Gp f z i)
@[reducible] def K4{A0 A1 A2 A3 A4 B:Type}(f:(A0->A1->A2->A3->A4->B)->A0->A1->A2->A3->A4->B)(z:B):Yk->A0->A1->A2->A3->A4->B
 |0=>λ_ _ _ _ _=>z
 |i+1=>f (K4 f z i)
@[reducible] def Tn{A0 A1 A2 A3 A4 A5 B:Type}(f:(A0->A1->A2->A3->A4->A5->B)->A0->A1->A2->A3->A4->A5->B)(z:B):Yk->A0->A1->A2->A3->A4->A5->B
 |0=>λ_ _ _ _ _ _=>z
 |i+1=>f (Tn f z i)
@[reducible] def To{A0 A1 A2 A3 A4 A5 A6 B:Type}(f:(A0->A1->A2->A3->A4->A5->A6->B)->A0->A1->A2->A3->A4->A5->A6->B)(z:B):Yk->A0->A1->A2->A3->A4->A5->A6->B
 |0=>λ_ _ _ _ _ _ _=>z
 |i+1=>f (To f z i)
@[reducible] def jV{A0 A1 A2 A3 A4 A5 A6 A7 B:Type}(f:(A0->A1->A2->A3->A4->A5->A6->A7->B)->A0->A1->A2->A3->A4->A5->A6->A7->B)(z:B):Yk->A0->A1->A2->A3->A4->A5->A6->A7->B
 |0=>λ_ _ _ _ _ _ _ _=>z
 |i+1=>f (jV f z i)
@[reducible] def jW{A0 A1 A2 A3 A4 A5 A6 A7 A8 B:Type}(f:(A0->A1->A2->A3->A4->A5->A6->A7->A8->B)->A0->A1->A2->A3->A4->A5->A6->A7->A8->B)(z:B):Yk->A0->A1->A2->A3->A4->A5->A6->A7->A8->B
 |0=>λ_ _ _ _ _ _ _ _ _=>z
 |i+1=>f (jW f z i)
@[reducible] def AcH{A0 A1 A2 A3 A4 A5 A6 A7 A8 A9 B:Type}(f:(A0->A1->A2->A3->A4->A5->A6->A7->A8->A9->B)->A0->A1->A2->A3->A4->A5->A6->A7->A8->A9->B)(z:B):Yk->A0->A1->A2->A3->A4->A5->A6->A7->A8->A9->B
 |0=>λ_ _ _ _ _ _ _ _ _ _=>z
 |i+1=>f (AcH f z i)
@[reducible] def ApT{A0 A1 A2 A3 A4 A5 A6 A7 A8 A9 A10 B:Type}(f:(A0->A1->A2->A3->A4->A5->A6->A7->A8->A9->A10->B)->A0->A1->A2->A3->A4->A5->A6->A7->A8->A9->A10->B)(z:B):Yk->A0->A1->A2->A3->A4->A5->A6->A7->A8->A9->A10->B
 |0=>λ_ _ _ _ _ _ _ _ _ _ _=>z
 |i+1=>f (ApT f z i)
@[reducible] def AcI{A0 A1 A2 A3 A4 A5 A6 A7 A8 A9 A10 A11 B:Type}(f:(A0->A1->A2->A3->A4->A5->A6->A7->A8->A9->A10->A11->B)->A0->A1->A2->A3->A4->A5->A6->A7->A8->A9->A10->A11->B)(z:B):Yk->A0->A1->A2->A3->A4->A5->A6->A7->A8->A9->A10->A11->B
 |0=>λ_ _ _ _ _ _ _ _ _ _ _ _=>z
 |i+1=>f (AcI f z i)
@[reducible] def AcJ{A0 A1 A2 A3 A4 A5 A6 A7 A8 A9 A10 A11 A12 B:Type}(f:(A0->A1->A2->A3->A4->A5->A6->A7->A8->A9->A10->A11->A12->B)->A0->A1->A2->A3->A4->A5->A6->A7->A8->A9->A10->A11->A12->B)(z:B):Yk->A0->A1->A2->A3->A4->A5->A6->A7->A8->A9->A10->A11->A12->B
 |0=>λ_ _ _ _ _ _ _ _ _ _ _ _ _=>z
 |i+1=>f (AcJ f z i)
@[reducible] def AcK{A0 A1 A2 A3 A4 A5 A6 A7 A8 A9 A10 A11 A12 A13 B:Type}(f:(A0->A1->A2->A3->A4->A5->A6->A7->A8->A9->A10->A11->A12->A13->B)->A0->A1->A2->A3->A4->A5->A6->A7->A8->A9->A10->A11->A12->A13->B)(z:B):Yk->A0->A1->A2->A3->A4->A5->A6->A7->A8->A9->A10->A11->A12->A13->B
 |0=>λ_ _ _ _ _ _ _ _ _ _ _ _ _ _=>z
 |i+1=>f (AcK f z i)
@[reducible] def AcL{A0 A1 A2 A3 A4 A5 A6 A7 A8 A9 A10 A11 A12 A13 A14 A15 A16 A17 B:Type}(f:(A0->A1->A2->A3->A4->A5->A6->A7->A8->A9->A10->A11->A12->A13->A14->A15->A16->A17->B)->A0->A1->A2->A3->A4->A5->A6->A7->A8->A9->A10->A11->A12->A13->A14->A15->A16->A17->B)(z:B):Yk->A0->A1->A2->A3->A4->A5->A6->A7->A8->A9->A10->A11->A12->A13->A14->A15->A16->A17->B
 |0=>λ_ _ _ _ _ _ _ _ _ _ _ _ _ _ _ _ _ _=>z
 |i+1=>f (AcL f z i)
@[reducible] def AcM{A0 A1 A2 A3 A4 A5 A6 A7 A8 A9 A10 A11 A12 A13 A14 A15 A16 A17 A18 A19 B:Type}(f:(A0->A1->A2->A3->A4->A5->A6->A7->A8->A9->A10->A11->A12->A13->A14->A15->A16->A17->A18->A19->B)->A0->A1->A2->A3->A4->A5->A6->A7->A8->A9->A10->A11->A12->A13->A14->A15->A16->A17->A18->A19->B)(z:B):Yk->A0->A1->A2->A3->A4->A5->A6->A7->A8->A9->A10->A11->A12->A13->A14->A15->A16->A17->A18->A19->B
 |0=>λ_ _ _ _ _ _ _ _ _ _ _ _ _ _ _ _ _ _ _ _=>z
 |i+1=>f (AcM f z i)
abbrev En:=Ent Tryz.prog
abbrev Pb:=PB Tryz.prog
@[reducible] noncomputable def ctx(es:Ya En):Ctx:=⟨look tab,gam es,Yc,Yc,Yc,Yc,[],Ye,0,[]⟩
theorem pf(es:Ya En)(cs:Ya Pb){ps rs:Ya (Ys×Ya CT)}{is os:Ya BT}{f:Y6}{fn:Func}(vs:Ya RS){s:(β:Type)->VF (KF (Yb β) rs os->Yb β) ps is}(hf:Tryz.prog.funcs[f]?=Yd fn)(hc:((fn.name== "runtime.NumGoroutine"),fn.body,fn.results.toList,(Ym vs.length rs.length&&(ST.tidy rs&&YB ps.length fn.ntmps)),cs.map (λb=>(find b.q 1 (AA fn),b.p.v.m,b.p.n,b.p.m)))=(Yc,Yd (AA fn),vs.map RS.toVar,Yo,cs.map (λb=>([b.p.c],is.length,fn.ntmps,is.length))):=by kernel_rfl)(h:∀{β:Type}(x:ST.dens ps×BT.dens is)(k:ST.dens rs×BT.dens os->Yb β),exec (ctx es) fn.ntmps (cuts cs) 1 (AA fn) ((vIn (sgE ps is rs os s)).mk' x) (retK (ctx es).T (sgE ps is rs os s) vs k)=vapp ps is (s β) x (klam rs os k):=by intros;kernel_rfl):SpecOk Tryz.prog f (sgE ps is rs os λβ=>hid (s β)):=iG mixed (X:=ctx es) AG es rfl cs vs hf hc h
theorem pfB(es:Ya En)(cs:Ya Pb){ps rs:Ya (Ys×Ya CT)}{is os:Ya BT}{f:Y6}{fn:Func}(vs:Ya RS){s:(β:Type)->VF (KF (Yb β) rs os->Yb β) ps is}(hf:Tryz.prog.funcs[f]?=Yd fn)(hc:((fn.name== "runtime.NumGoroutine"),fn.body,fn.results.toList,(Ym vs.length rs.length&&(ST.tidy rs&&YB ps.length fn.ntmps)),cs.map (λb=>(find b.q 1 (AA fn),b.p.v.m,b.p.n,b.p.m)))=(Yc,Yd (AA fn),vs.map RS.toVar,Yo,cs.map (λb=>([b.p.c],is.length,fn.ntmps,is.length))):=by kernel_rfl)(h:∀{β:Type}(x:ST.dens ps×BT.dens is)(k:ST.dens rs×BT.dens os->Yb β),exec (ctx es) fn.ntmps (cuts cs) 1 (AA fn) ((vIn (sgE ps is rs os s)).mk' x) (retK (ctx es).T (sgE ps is rs os s) vs k)=vapp ps is (s β) x (klam rs os k):=by intros;kernel_rfl):SpecOkB Tryz.prog f (sgE ps is rs os λβ=>hid (s β)):=Abx mixed (X:=ctx es) AG es rfl cs vs hf hc h
theorem pl{p:Pc}(es:Ya En)(cs:Ya Pb){g:Yk->(β:Type)->p.T β}(hc:((p.o.all λx=>Ym x.2.m p.m),cs.map (λb=>(find b.q 1 (Gm p.c),b.p.v.m,b.p.n,b.p.m)))=(Yo,cs.map (λb=>([b.p.c],p.m,p.n,p.m))):=by kernel_rfl)(hv:p.v.m=p.m:=by rfl)(hl:p.c=.loop (Gm p.c):=by kernel_rfl)(h0:∀{β:Type}(d:p.v.den)(ks:Outs.K β p.o),p.un (g 0) d ks=Ye:=by exact λ_ _=>rfl)(h:∀(i:Yk){β:Type}(d:p.v.den)(ks:Outs.K β p.o),exec (ctx es) p.n (cuts cs) 1 (Gm p.c) (p.v.mk' d) (SP p.v (λd'=>p.un (g i) d' ks) p.o ks)=p.un (g (i+1)) d ks:=by intros;kernel_rfl):p.Ok Tryz.prog (p.un λβ=>hid (g fuel β)):=Qx mixed (X:=ctx es) AG es rfl cs hc hv hl h0 h
theorem pe{p:Pc}(es:Ya En)(cs:Ya Pb)(q:Yk){g:(β:Type)->p.T β}(hc:((p.o.all λx=>Ym x.2.m p.m),cs.map (λb=>(find b.q q p.c,b.p.v.m,b.p.n,b.p.m)))=(Yo,cs.map (λb=>([b.p.c],p.m,p.n,p.m))):=by kernel_rfl)(h:∀{β:Type}(d:p.v.den)(ks:Outs.K β p.o),exec (ctx es) p.n (cuts cs) q p.c (p.v.mk' d) (outK p.o ks)=p.un g d ks:=by intros;kernel_rfl):p.Ok Tryz.prog (p.un λβ=>hid (g β)):=Xb mixed (X:=ctx es) AG es rfl cs q hc h
def au(es:Ya En)(ps:Ya (Ys×Ya CT))(is:Ya BT)(rs:Ya (Ys×Ya CT))(os:Ya BT){f:Y6}{fn:Func}(vs:Ya RS)(hf:Tryz.prog.funcs[f]?=Yd fn)(hc:((fn.name== "runtime.NumGoroutine"),fn.body,fn.results.toList,(Ym vs.length rs.length&&(ST.tidy rs&&YB ps.length fn.ntmps)))=(Yc,Yd (AA fn),vs.map RS.toVar,Yo)):En:=
 .auto mixed (X:=⟨look tab,gam es,Yc,Yc,Yc,Yc,[],Ye,100000,[]⟩) AG es rfl ps is rs os vs hf hc
abbrev ApU:={β:Type}->Ga->(Ys->Yb β)->Yb β
def X1:ApU:=hid λl k=>let t:=(Yf ((Yg l:Yi)<=(500:Yi)));k t
def ApV:En:=⟨5,.spec (sg [Jr] [] [Ap] [] X1),pf [] [] [.tmp 2] Tryz.func5⟩
abbrev ApW:={β:Type}->Ga->(CU->Yb β)->Yb β
def X2:ApW:=hid λl k=>k (l,0)
def ApX:En:=⟨6,.spec (sg [Jr] [] [AF] [DC] X2),pf [] [] [.tmp 2] Tryz.func6⟩
abbrev ApY:={β:Type}->Yi->Yi->(Yi->Yb β)->Yb β
def X3:ApY:=hid λx n k=>Yr (!Yf (n=0)) (Yr (!Yf (n=0)) (let t:=(YQ (Yh.wrap ((YQ x n)+n)) n);k t) Ye) Ye
def ApZ:En:=⟨8,.spec (sg [Aa,Aa] [] [Aa] [] X3),pf [] [] [.tmp 4] Tryz.func8⟩
abbrev Aq0:={β:Type}->(BE->Yb β)->Yb β
def Tp:Aq0:=hid λk=>k (0,(([]:Ya Ag),(([]:Ya CW),1)))
def Aq1:En:=⟨10,.spec (sg [] [] [IS] [] Tp),pf [] [] [.cell 0 43] Tryz.func10⟩
abbrev Aq2:={β:Type}->Yi->CU->(Yi->CU->Yb β)->Yb β
def Hr:Aq2:=hid λn d k=>Yr (Yf ((Yg d.1:Yi)<=d.2)) (k 0 d) (Yr (Yf (n<1)) (k 0 d) (Yr (Yf (0<=d.2)&&Yf (d.2<(Yg d.1:Yi))) (let e:=Yn d.1 (Yj d.2) 0;Yr (!Yf (n=0)) (Yr (Yf ((YQ e n)<0)) (let x:=(Yh.wrap ((YQ e n)+n));k x (d.1,(Yh.wrap (d.2+(1:Yi))))) (k (YQ e n) (d.1,(Yh.wrap (d.2+(1:Yi)))))) Ye) Ye))
def Np:En:=⟨13,.spec (sg [AF,Aa] [DC] [Aa] [DC] Hr),pf [] [] [.tmp 4] Tryz.func13⟩
abbrev Aq3:={β:Type}->BQ->Ar->(Ar->Yb β)->Yb β
abbrev AcN(β:Type):=Ar->Yb β
abbrev AcO(β:Type):=Unit->Yb β
abbrev jX(β:Type):=Ar->BQ->Yi->Yi->Yb β
def AcP:Pc:=⟨20,0,AS 26 (AA Tryz.f14),⟨0,[1,7,8,9],[AL,C2,Aa,Aa],[]⟩,[(.ret,⟨0,[4],[AL],[]⟩),(.exit 0,⟨0,[],[],[]⟩)]⟩
def jY{β:Type}(rec:jX β)(k1:AcN β)(k2:AcO β):jX β:=λkey t7 t8 t9=>Yr (Yf (t9<t8)) (Yr (Yf (0<=t9)&&Yf (t9<(Yg t7:Yi))) (let e:=Yn t7 (Yj t9) (([]:Ya Yl),([]:Ya Yl));Yr (Yf (e.1=key)) (k1 e.2) (rec key t7 t8 (Yh.wrap (t9+(1:Yi))))) Ye) (k2 ())
def Tq(m:Yk){β:Type}(k1:AcN β)(k2:AcO β):jX β:=Gp (λr=>jY r k1 k2) Ye m
theorem Aq4{β:Type}(i:Yk)(k1 k2):Tq (β:=β) (i+1) k1 k2=jY (Tq i k1 k2) k1 k2:=rfl
def jZ{β:Type}:=hid (Tq (β:=β) fuel)
def Aq5:Pb:=⟨26,AcP,λ_=>jZ,pl (p:=AcP) [] [] (g:=λi _=>Tq i)⟩
def Tr:Aq3:=hid λl key k=>jZ (λt4=>k t4) (λ_=>k ([]:Ya Yl)) key l (Yg l:Yi) 0
def AcQ:En:=⟨14,.spec (sg [C2,AL] [] [AL] [] Tr),pf [] [Aq5] [.tmp 4] Tryz.func14⟩
abbrev Aq6:={β:Type}->Yi->CU->(Ys->CU->Yb β)->Yb β
def Q8:Aq6:=hid λn d k=>Hr n d (λFE GH=>let t:=(Yf (FE=(Yh.wrap (n-1))));k t GH)
def k9:En:=⟨15,.spec (sg [AF,Aa] [DC] [Ap] [DC] Q8),pf [Np] [] [.tmp 4] Tryz.func15⟩
abbrev Aq7:={β:Type}->AW->(Ys->Yb β)->Yb β
def AcR:Aq7:=hid λm k=>k (!m.2.2.2.2.2)
def Aq8:En:=⟨74,.spec (sg [Ti] [] [Ap] [] AcR),pf [] [] [.tmp 2] Tryz.func74⟩
abbrev Aq9:={β:Type}->Dr->(Yi->Yb β)->Yb β
def AcS:Ya En:=[Aq8]
abbrev AcT(β:Type):=Yi->Yb β
abbrev AcU(β:Type):=Unit->Yb β
abbrev kA(β:Type):=Dr->Yi->Yi->Yb β
def AcV:Pc:=⟨19,0,AS 26 (AA Tryz.f155),⟨0,[0,1,7,8],[Gn,(Yc,[.fn 74 []]),Aa,Aa],[]⟩,[(.ret,⟨0,[4],[Aa],[]⟩),(.exit 0,⟨0,[],[],[]⟩)]⟩
def AcW{β:Type}(rec:kA β)(k1:AcT β)(k2:AcU β):kA β:=λs t7 t8=>Yr (Yf (t8<t7)) (Yr (Yf (0<=t8)&&Yf (t8<(Yg s:Yi))) (let e:=Yn s (Yj t8) (([]:Ya Yl),(([]:Ya Al),(0,(0,(Yc,Yc)))));AcR e (λrhurry1=>Yr rhurry1 (k1 t8) (rec s t7 (Yh.wrap (t8+(1:Yi)))))) Ye) (k2 ())
def X4(m:Yk){β:Type}(k1:AcT β)(k2:AcU β):kA β:=HT (λr=>AcW r k1 k2) Ye m
theorem AGa{β:Type}(i:Yk)(k1 k2):X4 (β:=β) (i+1) k1 k2=AcW (X4 i k1 k2) k1 k2:=rfl
def AcX{β:Type}:=hid (X4 (β:=β) fuel)
def Aqa:Pb:=⟨26,AcV,λ_=>AcX,pl (p:=AcV) AcS [] (g:=λi _=>X4 i)⟩
def AcY:Aq9:=hid λs k=>AcX (λt4=>k t4) (λ_=>k (-1)) s (Yg s:Yi) 0
def Aqb:En:=⟨155,.spec (sg [Gn,(Yc,[.fn 74 []])] [] [Aa] [] AcY),pf AcS [Aqa] [.tmp 4] Tryz.func155⟩
abbrev Aqc:={β:Type}->Dr->(Ys->Yb β)->Yb β
def AcZ:Aqc:=hid λs k=>AcY s (λJB=>let t:=(Yf ((0:Yi)<=JB));k t)
def Ad0:En:=⟨69,.spec (sg [Gn,(Yc,[.fn 74 []])] [] [Ap] [] AcZ),pf [Aqb] [] [.tmp 4] Tryz.func69⟩
def Aqd:En:=.inl mixed (X:=⟨look tab,gam [Ad0],Yc,Yc,Yc,Yc,[],Ye,1,[]⟩) (rs:=[]) AG [Ad0] rfl 1 Tryz.func31 (by kernel_rfl)
abbrev Aqe:={β:Type}->BE->Yi->(Yi->Yb β)->Yb β
def Ts:Aqe:=hid λs t k=>Yr (Yf (t<s.1)) (k 6) (let t2:=(Yf ((8589934592:Yi)<t));Yr t2 (k 1) (k 0))
def Ad1:En:=⟨33,.spec (sg [IS,Aa] [] [Aa] [] Ts),pf [] [] [.tmp 4] Tryz.func33⟩
def Aqf:En:=⟨37,.abs (insA 111 EJ),AbS (by rw[(show Ty.size EJ=5 from by kernel_rfl)];exact AoQ) ⟨_,Tryz.func37,by kernel_rfl,by kernel_rfl⟩⟩
abbrev Aqg:={β:Type}->Yi->Ar->(Ag->Yb β)->Yb β
def X5:Aqg:=hid λroute key k=>k (route,(key,(([]:Ya AW),((-1),(-1)))))
def Aqh:En:=⟨38,.spec (sg [Aa,AL] [] [HS] [] X5),pf [] [] [.cell 4 111] Tryz.func38⟩
abbrev Aqi:={β:Type}->Ag->(Ys->Yb β)->Yb β
def Gb:Aqi:=hid λg k=>let t:=(Yf ((Yg g.2.2.1:Yi)=(0:Yi)));k t
def kB:En:=⟨153,.spec (sg [HS] [] [Ap] [] Gb),pf [] [] [.tmp 2] Tryz.func153⟩
abbrev Aqj:={β:Type}->Ax->Ag->Yi->(Ys->Yb β)->Yb β
def Nq:Aqj:=hid λr_ g now k=>Gb g (λD2=>Yr D2 (Yr (Yf (g.2.2.2.2=(-1:Yi))) (k Yo) (Yr (Yf (0<=g.1)&&Yf (g.1<(Yg r_.1:Yi))) (let e:=Yn r_.1 (Yj g.1) (0,(([]:Ya BA),(0,(([]:Ya Ar),(0,(0,(0,Yc)))))));let t:=(Yf ((Yh.wrap (g.2.2.2.2+e.2.2.2.2.2.1))<=now));k t) Ye)) (k Yc))
def Ad2:En:=⟨67,.spec (sg [Nl,HS,Aa] [] [Ap] [] Nq),pf [kB] [] [.tmp 6] Tryz.func67⟩
def Ad3:En:=⟨93,.abs (iQ 111 EJ Ta 94 (λ{β}=>Nq (β:=β))),AoH (by rw[(show Ty.size EJ=5 from by kernel_rfl)];exact AoT) (by rw[(show Ty.size EJ=5 from by kernel_rfl),(show Ty.size Ta=3 from by kernel_rfl)];exact Ap6) Ad2.ok (Go.Proofs.enters_of Tryz.func94 (by kernel_rfl) rfl) ⟨_,Tryz.func93,by kernel_rfl,by kernel_rfl⟩⟩
def Ad4:En:=.inl mixed (X:=⟨look tab,gam [Ad3],Yc,Yc,Yc,Yc,[],Ye,0,[]⟩) (rs:=[.cell 4 43]) AG [Ad3] rfl 3 Tryz.func40 (by kernel_rfl)
abbrev Aqk:={β:Type}->Cg->Cg->(Ys->Yb β)->Yb β
abbrev kC(β:Type):=Ys->Yb β
abbrev kD(β:Type):=Cg->Cg->Yb β
abbrev kE(β:Type):=Yi->Cg->Cg->Yb β
def Ad5:Pc:=⟨87,0,AS 58 (AA Tryz.f43),⟨0,[2,3,5],[AF,BJ,Aa],[Js,Js]⟩,[(.ret,⟨0,[4],[Ap],[]⟩),(.exit 0,⟨0,[2,3],[AF,BJ],[Js,Js]⟩)]⟩
abbrev kF(β:Type):=Ys->Yb β
abbrev kG(β:Type):=Unit->Yb β
abbrev kH(β:Type):=Yi->Cg->Cg->Yb β
def Ad6:Pc:=⟨87,0,AS 122 (AA Tryz.f43),⟨0,[2,3,6],[AF,BJ,Aa],[Js,Js]⟩,[(.ret,⟨0,[4],[Ap],[]⟩),(.exit 2,⟨0,[],[],[]⟩)]⟩
def kI{β:Type}(rec:kE β)(k1:kC β)(k2:kD β):kE β:=λi_ a b=>Yr (Yf (i_<(Yg a.2.2.2.2.1:Yi))) (Yr (Yf (0<=i_)&&Yf (i_<(Yg a.2.2.2.2.1:Yi))) (let e:=Yn a.2.2.2.2.1 (Yj i_) ([]:Ya Yl);Yr (Yf (0<=i_)&&Yf (i_<(Yg b.2.2.2.2.1:Yi))) (let e2:=Yn b.2.2.2.2.1 (Yj i_) ([]:Ya Yl);Yr (!Yf (e=e2)) (k1 Yc) (let Cl:=(Yh.wrap (i_+1));rec Cl a b)) Ye) Ye) (k2 a b)
def Tt(m:Yk){β:Type}(k1:kC β)(k2:kD β):kE β:=HT (λr=>kI r k1 k2) Ye m
theorem Aql{β:Type}(i:Yk)(k1 k2):Tt (β:=β) (i+1) k1 k2=kI (Tt i k1 k2) k1 k2:=rfl
def kJ{β:Type}:=hid (Tt (β:=β) fuel)
def Aqm:Pb:=⟨58,Ad5,λ_=>kJ,pl (p:=Ad5) [] [] (g:=λi _=>Tt i)⟩
def kK{β:Type}(rec:kH β)(k1:kF β)(k2:kG β):kH β:=λi_ a b=>Yr (Yf (i_<(Yg a.2.2.2.2.2:Yi))) (Yr (Yf (0<=i_)&&Yf (i_<(Yg a.2.2.2.2.2:Yi))) (let e:=Yn a.2.2.2.2.2 (Yj i_) ([]:Ya Yl);Yr (Yf (0<=i_)&&Yf (i_<(Yg b.2.2.2.2.2:Yi))) (let e2:=Yn b.2.2.2.2.2 (Yj i_) ([]:Ya Yl);Yr (!Yf (e=e2)) (k1 Yc) (let Cl:=(Yh.wrap (i_+1));rec Cl a b)) Ye) Ye) (k2 ())
def Tu(m:Yk){β:Type}(k1:kF β)(k2:kG β):kH β:=HT (λr=>kK r k1 k2) Ye m
theorem Aqn{β:Type}(i:Yk)(k1 k2):Tu (β:=β) (i+1) k1 k2=kK (Tu i k1 k2) k1 k2:=rfl
def kL{β:Type}:=hid (Tu (β:=β) fuel)
def Aqo:Pb:=⟨122,Ad6,λ_=>kL,pl (p:=Ad6) [] [] (g:=λi _=>Tu i)⟩
def X6:Aqk:=hid λa b k=>Yr (!Yf (a.1=b.1)) (k Yc) (Yr (!Yf (a.2.1=b.2.1)) (k Yc) (Yr (!Yf (a.2.2.1=b.2.2.1)) (k Yc) (Yr (!Yf (a.2.2.2.1=b.2.2.2.1)) (k Yc) (Yr (!Yf ((Yg a.2.2.2.2.1:Yi)=(Yg b.2.2.2.2.1:Yi))) (k Yc) (Yr (!Yf ((Yg a.2.2.2.2.2:Yi)=(Yg b.2.2.2.2.2:Yi))) (k Yc) (kJ (λt4=>k t4) (λa2 b2=>kL (λt4=>k t4) (λ_=>k Yo) 0 a2 b2) 0 a b))))))
def Aqp:En:=⟨43,.spec (sg [(Yo,[.data Hp]),(Yo,[.data Hp])] [] [Ap] [] X6),pf [] [Aqm,Aqo] [.tmp 4] Tryz.func43⟩
abbrev Aqq:={β:Type}->Tc->Yi->(Ys->Yb β)->Yb β
def Aqr:Aqq:=ET ⟨look tab,gam ([]:Ya En),Yc,Yc,Yc,Yc,[],Ye,100000,[]⟩ Tryz.f105 [Fh,Aa] [] [Ap] [] [.tmp 4]
def X7:En:=⟨105,.spec (sg [Fh,Aa] [] [Ap] [] Aqr),(FN mixed (X:=⟨look tab,gam ([]:Ya En),Yc,Yc,Yc,Yc,[],Ye,100000,[]⟩) AG ([]:Ya En) rfl [.tmp 4] Tryz.func105 (by kernel_rfl)).spec⟩
abbrev Ad7:={β:Type}->(Ya Is)->((Ya Is)->Yb β)->Yb β
def Aqs(c:Ad7):Spec:=
 ⟨[Th],[],[AX],[.row 153 Jp],λx k=>c x.1.1.1 (λr0=>k (((),()),(r0,())))⟩
def Aqt:Ad7:=λl k=>FM Jp 48 l k
theorem Aqu:SpecOk Tryz.prog 199 (Aqs Aqt):=
 Ip (et:=153) (e:=Jp) (bytes:=48) (by kernel_rfl)
  (Eh (X:=⟨look tab,Bb [],Yc,Yc,Yc,Yc,[],Ye,0,[]⟩) (Λ:=Bb []) (rs:=[.tmp 2]) (c:=AA Tryz.f199) mixed AG ΓOk_nil Tryz.func199 (by kernel_rfl) (by kernel_rfl) (by kernel_rfl) (by kernel_rfl) DA (λx k r h=>Eq.trans (b:=(HI 153 Jp 48).run x k) (by kernel_rfl) h))
  (Eh (X:=⟨look tab,Bb [],Yc,Yc,Yc,Yc,[],Ye,0,[]⟩) (Λ:=Bb []) (rs:=[.tmp 2]) (c:=AA Tryz.f199) mixed AG ΓOk_nil Tryz.func199 (by kernel_rfl) (by kernel_rfl) (by kernel_rfl) (by kernel_rfl) DA (λx k r h=>Eq.trans (b:=(HJ 153 Jp).run x k) (by kernel_rfl) h))
def Ad8:En:=.of Aqu
abbrev Ad9:={β:Type}->(Ya K1)->((Ya K1)->Yb β)->Yb β
def Aqv(c:Ad9):Spec:=
 ⟨[(Yc,[.data (.slice HO)])],[],[AX],[.row 228 HO],λx k=>c x.1.1.1 (λr0=>k (((),()),(r0,())))⟩
def Aqw:Ad9:=λl k=>FM HO 72 l k
theorem Aqx:SpecOk Tryz.prog 200 (Aqv Aqw):=
 Ip (et:=228) (e:=HO) (bytes:=72) (by kernel_rfl)
  (Eh (X:=⟨look tab,Bb [],Yc,Yc,Yc,Yc,[],Ye,0,[]⟩) (Λ:=Bb []) (rs:=[.tmp 2]) (c:=AA Tryz.f200) mixed AG ΓOk_nil Tryz.func200 (by kernel_rfl) (by kernel_rfl) (by kernel_rfl) (by kernel_rfl) DA (λx k r h=>Eq.trans (b:=(HI 228 HO 72).run x k) (by kernel_rfl) h))
  (Eh (X:=⟨look tab,Bb [],Yc,Yc,Yc,Yc,[],Ye,0,[]⟩) (Λ:=Bb []) (rs:=[.tmp 2]) (c:=AA Tryz.f200) mixed AG ΓOk_nil Tryz.func200 (by kernel_rfl) (by kernel_rfl) (by kernel_rfl) (by kernel_rfl) DA (λx k r h=>Eq.trans (b:=(HJ 228 HO).run x k) (by kernel_rfl) h))
def Ada:En:=.of Aqx
abbrev Adb:={β:Type}->(Ya Kw)->((Ya Kw)->Yb β)->Yb β
def Aqy(c:Adb):Spec:=
 ⟨[Xv],[],[AX],[.row 233 Ky],λx k=>c x.1.1.1 (λr0=>k (((),()),(r0,())))⟩
def Aqz:Adb:=λl k=>FM Ky 48 l k
theorem AqA:SpecOk Tryz.prog 201 (Aqy Aqz):=
 Ip (et:=233) (e:=Ky) (bytes:=48) (by kernel_rfl)
  (Eh (X:=⟨look tab,Bb [],Yc,Yc,Yc,Yc,[],Ye,0,[]⟩) (Λ:=Bb []) (rs:=[.tmp 2]) (c:=AA Tryz.f201) mixed AG ΓOk_nil Tryz.func201 (by kernel_rfl) (by kernel_rfl) (by kernel_rfl) (by kernel_rfl) DA (λx k r h=>Eq.trans (b:=(HI 233 Ky 48).run x k) (by kernel_rfl) h))
  (Eh (X:=⟨look tab,Bb [],Yc,Yc,Yc,Yc,[],Ye,0,[]⟩) (Λ:=Bb []) (rs:=[.tmp 2]) (c:=AA Tryz.f201) mixed AG ΓOk_nil Tryz.func201 (by kernel_rfl) (by kernel_rfl) (by kernel_rfl) (by kernel_rfl) DA (λx k r h=>Eq.trans (b:=(HJ 233 Ky).run x k) (by kernel_rfl) h))
def Adc:En:=.of AqA
abbrev Add:={β:Type}->(Ya Mg)->((Ya Mg)->Yb β)->Yb β
def AqB(c:Add):Spec:=
 ⟨[(Yc,[.data (.slice JS)])],[],[AX],[.row 129 JS],λx k=>c x.1.1.1 (λr0=>k (((),()),(r0,())))⟩
def AqC:Add:=λl k=>FM JS 64 l k
theorem AqD:SpecOk Tryz.prog 202 (AqB AqC):=
 Ip (et:=129) (e:=JS) (bytes:=64) (by kernel_rfl)
  (Eh (X:=⟨look tab,Bb [],Yc,Yc,Yc,Yc,[],Ye,0,[]⟩) (Λ:=Bb []) (rs:=[.tmp 2]) (c:=AA Tryz.f202) mixed AG ΓOk_nil Tryz.func202 (by kernel_rfl) (by kernel_rfl) (by kernel_rfl) (by kernel_rfl) DA (λx k r h=>Eq.trans (b:=(HI 129 JS 64).run x k) (by kernel_rfl) h))
  (Eh (X:=⟨look tab,Bb [],Yc,Yc,Yc,Yc,[],Ye,0,[]⟩) (Λ:=Bb []) (rs:=[.tmp 2]) (c:=AA Tryz.f202) mixed AG ΓOk_nil Tryz.func202 (by kernel_rfl) (by kernel_rfl) (by kernel_rfl) (by kernel_rfl) DA (λx k r h=>Eq.trans (b:=(HJ 129 JS).run x k) (by kernel_rfl) h))
def Ade:En:=.of AqD
abbrev Adf:={β:Type}->(Ya K0)->((Ya K0)->Yb β)->Yb β
def AqE(c:Adf):Spec:=
 ⟨[O2],[],[AX],[.row 335 Ir],λx k=>c x.1.1.1 (λr0=>k (((),()),(r0,())))⟩
def AqF:Adf:=λl k=>FM Ir 56 l k
theorem AqG:SpecOk Tryz.prog 203 (AqE AqF):=
 Ip (et:=335) (e:=Ir) (bytes:=56) (by kernel_rfl)
  (Eh (X:=⟨look tab,Bb [],Yc,Yc,Yc,Yc,[],Ye,0,[]⟩) (Λ:=Bb []) (rs:=[.tmp 2]) (c:=AA Tryz.f203) mixed AG ΓOk_nil Tryz.func203 (by kernel_rfl) (by kernel_rfl) (by kernel_rfl) (by kernel_rfl) DA (λx k r h=>Eq.trans (b:=(HI 335 Ir 56).run x k) (by kernel_rfl) h))
  (Eh (X:=⟨look tab,Bb [],Yc,Yc,Yc,Yc,[],Ye,0,[]⟩) (Λ:=Bb []) (rs:=[.tmp 2]) (c:=AA Tryz.f203) mixed AG ΓOk_nil Tryz.func203 (by kernel_rfl) (by kernel_rfl) (by kernel_rfl) (by kernel_rfl) DA (λx k r h=>Eq.trans (b:=(HJ 335 Ir).run x k) (by kernel_rfl) h))
def Adg:En:=.of AqG
abbrev Adh:={β:Type}->GB->(GB->Yb β)->Yb β
def AqH(c:Adh):Spec:=
 ⟨[IQ],[],[AX],[.row 158 (.prod (.int .i64) (.int .i64))],λx k=>c x.1.1.1 (λr0=>k (((),()),(r0,())))⟩
def AqI:Adh:=λl k=>FM (.prod (.int .i64) (.int .i64)) 16 l k
theorem AqJ:SpecOk Tryz.prog 204 (AqH AqI):=
 Ip (et:=158) (e:=(.prod (.int .i64) (.int .i64))) (bytes:=16) (by kernel_rfl)
  (Eh (X:=⟨look tab,Bb [],Yc,Yc,Yc,Yc,[],Ye,0,[]⟩) (Λ:=Bb []) (rs:=[.tmp 2]) (c:=AA Tryz.f204) mixed AG ΓOk_nil Tryz.func204 (by kernel_rfl) (by kernel_rfl) (by kernel_rfl) (by kernel_rfl) DA (λx k r h=>Eq.trans (b:=(HI 158 (.prod (.int .i64) (.int .i64)) 16).run x k) (by kernel_rfl) h))
  (Eh (X:=⟨look tab,Bb [],Yc,Yc,Yc,Yc,[],Ye,0,[]⟩) (Λ:=Bb []) (rs:=[.tmp 2]) (c:=AA Tryz.f204) mixed AG ΓOk_nil Tryz.func204 (by kernel_rfl) (by kernel_rfl) (by kernel_rfl) (by kernel_rfl) DA (λx k r h=>Eq.trans (b:=(HJ 158 (.prod (.int .i64) (.int .i64))).run x k) (by kernel_rfl) h))
def Adi:En:=.of AqJ
abbrev Adj:={β:Type}->Ga->(Ga->Yb β)->Yb β
def AqK(c:Adj):Spec:=
 ⟨[Jr],[],[AX],Ml,λx k=>c x.1.1.1 (λr0=>k (((),()),(r0,())))⟩
def AqL:Adj:=λl k=>FM (.int .i64) 8 l k
theorem AqM:SpecOk Tryz.prog 205 (AqK AqL):=
 Ip (et:=3) (e:=(.int .i64)) (bytes:=8) (by kernel_rfl)
  (Eh (X:=⟨look tab,Bb [],Yc,Yc,Yc,Yc,[],Ye,0,[]⟩) (Λ:=Bb []) (rs:=[.tmp 2]) (c:=AA Tryz.f205) mixed AG ΓOk_nil Tryz.func205 (by kernel_rfl) (by kernel_rfl) (by kernel_rfl) (by kernel_rfl) DA (λx k r h=>Eq.trans (b:=(HI 3 (.int .i64) 8).run x k) (by kernel_rfl) h))
  (Eh (X:=⟨look tab,Bb [],Yc,Yc,Yc,Yc,[],Ye,0,[]⟩) (Λ:=Bb []) (rs:=[.tmp 2]) (c:=AA Tryz.f205) mixed AG ΓOk_nil Tryz.func205 (by kernel_rfl) (by kernel_rfl) (by kernel_rfl) (by kernel_rfl) DA (λx k r h=>Eq.trans (b:=(HJ 3 (.int .i64)).run x k) (by kernel_rfl) h))
def kM:En:=.of AqM
abbrev Adk:={β:Type}->(Ya Tb)->((Ya Tb)->Yb β)->Yb β
def AqN(c:Adk):Spec:=
 ⟨[(Yc,[.data (.slice Kz)])],[],[AX],[.row 252 Kz],λx k=>c x.1.1.1 (λr0=>k (((),()),(r0,())))⟩
def AqO:Adk:=λl k=>FM Kz 120 l k
theorem AqP:SpecOk Tryz.prog 206 (AqN AqO):=
 Ip (et:=252) (e:=Kz) (bytes:=120) (by kernel_rfl)
  (Eh (X:=⟨look tab,Bb [],Yc,Yc,Yc,Yc,[],Ye,0,[]⟩) (Λ:=Bb []) (rs:=[.tmp 2]) (c:=AA Tryz.f206) mixed AG ΓOk_nil Tryz.func206 (by kernel_rfl) (by kernel_rfl) (by kernel_rfl) (by kernel_rfl) DA (λx k r h=>Eq.trans (b:=(HI 252 Kz 120).run x k) (by kernel_rfl) h))
  (Eh (X:=⟨look tab,Bb [],Yc,Yc,Yc,Yc,[],Ye,0,[]⟩) (Λ:=Bb []) (rs:=[.tmp 2]) (c:=AA Tryz.f206) mixed AG ΓOk_nil Tryz.func206 (by kernel_rfl) (by kernel_rfl) (by kernel_rfl) (by kernel_rfl) DA (λx k r h=>Eq.trans (b:=(HJ 252 Kz).run x k) (by kernel_rfl) h))
def Adl:En:=.of AqP
abbrev Adm:={β:Type}->(Ya (Yi×(Yi×(Yi×DK))))->((Ya (Yi×(Yi×(Yi×DK))))->Yb β)->Yb β
def AqQ(c:Adm):Spec:=
 ⟨[Xs],[],[AX],[.row 80 (.prod (.int .i64) (.prod (.int .i64) (.prod (.int .i64) (.prod (.int .i64) (.int .i64)))))],λx k=>c x.1.1.1 (λr0=>k (((),()),(r0,())))⟩
def AqR:Adm:=λl k=>FM (.prod (.int .i64) (.prod (.int .i64) (.prod (.int .i64) (.prod (.int .i64) (.int .i64))))) 40 l k
theorem AqS:SpecOk Tryz.prog 207 (AqQ AqR):=
 Ip (et:=80) (e:=(.prod (.int .i64) (.prod (.int .i64) (.prod (.int .i64) (.prod (.int .i64) (.int .i64)))))) (bytes:=40) (by kernel_rfl)
  (Eh (X:=⟨look tab,Bb [],Yc,Yc,Yc,Yc,[],Ye,0,[]⟩) (Λ:=Bb []) (rs:=[.tmp 2]) (c:=AA Tryz.f207) mixed AG ΓOk_nil Tryz.func207 (by kernel_rfl) (by kernel_rfl) (by kernel_rfl) (by kernel_rfl) DA (λx k r h=>Eq.trans (b:=(HI 80 (.prod (.int .i64) (.prod (.int .i64) (.prod (.int .i64) (.prod (.int .i64) (.int .i64))))) 40).run x k) (by kernel_rfl) h))
  (Eh (X:=⟨look tab,Bb [],Yc,Yc,Yc,Yc,[],Ye,0,[]⟩) (Λ:=Bb []) (rs:=[.tmp 2]) (c:=AA Tryz.f207) mixed AG ΓOk_nil Tryz.func207 (by kernel_rfl) (by kernel_rfl) (by kernel_rfl) (by kernel_rfl) DA (λx k r h=>Eq.trans (b:=(HJ 80 (.prod (.int .i64) (.prod (.int .i64) (.prod (.int .i64) (.prod (.int .i64) (.int .i64)))))).run x k) (by kernel_rfl) h))
def Adn:En:=.of AqS
def Ado:En:=.inl mixed (X:=⟨look tab,gam [Adc,Adn,Adl,Ada,Ade,Adi,Adg,Ad8,kM],Yo,Yc,Yc,Yc,[],Ye,100000,[]⟩) (rs:=[.cell 2 74]) AG [Adc,Adn,Adl,Ada,Ade,Adi,Adg,Ad8,kM] rfl 40 Tryz.func106 (by kernel_rfl)
abbrev AqT:={β:Type}->Yi->(Ys->Yb β)->Yb β
def kN:AqT:=hid λc k=>Yr (Yf ((48:Yi)<=c)) (let t:=(Yf (c<=57));k t) (k Yc)
def Adp:En:=⟨304,.spec (sg [(Yc,[.data (.int .u8)])] [] [Ap] [] kN),pf [] [] [.tmp 2] Tryz.func304⟩
abbrev AqU:={β:Type}->Yi->(Ys->Yb β)->Yb β
def X8:AqU:=hid λc k=>Yr (Yf ((97:Yi)<=c)) (let t:=(Yf (c<=122));k t) (k Yc)
def Adq:En:=⟨303,.spec (sg [(Yc,[.data (.int .u8)])] [] [Ap] [] X8),pf [] [] [.tmp 2] Tryz.func303⟩
abbrev AqV:={β:Type}->Ar->(Ys->Yb β)->Yb β
def Adr:Ya En:=[Adp,Adq]
abbrev Ads(β:Type):=Ys->Yb β
abbrev Adt(β:Type):=Unit->Yb β
abbrev kO(β:Type):=Ar->Yi->Yi->Yb β
def Adu:Pc:=⟨43,0,AS 58 (AA Tryz.f211),⟨0,[0,19,20],[AL,Aa,Aa],[]⟩,[(.ret,⟨0,[2],[Ap],[]⟩),(.exit 0,⟨0,[],[],[]⟩)]⟩
def Adv{β:Type}(rec:kO β)(k1:Ads β)(k2:Adt β):kO β:=λs VM t20=>Yr (Yf (t20<VM)) (Yr (Yf (0<=t20)&&Yf (t20<(Yg s:Yi))) (let c:=((Yn s (Yj t20) 0).toNat:Yi);X8 c (λrsmall=>Yr (!rsmall) (kN c (λrdigit=>Yr (!rdigit) (Yr (!Yf (c=95)) (Yr (!Yf (c=45)) (k1 Yc) (rec s VM (Yh.wrap (t20+(1:Yi))))) (rec s VM (Yh.wrap (t20+(1:Yi))))) (rec s VM (Yh.wrap (t20+(1:Yi)))))) (rec s VM (Yh.wrap (t20+(1:Yi)))))) Ye) (k2 ())
def X9(m:Yk){β:Type}(k1:Ads β)(k2:Adt β):kO β:=HT (λr=>Adv r k1 k2) Ye m
theorem AGb{β:Type}(i:Yk)(k1 k2):X9 (β:=β) (i+1) k1 k2=Adv (X9 i k1 k2) k1 k2:=rfl
def Adw{β:Type}:=hid (X9 (β:=β) fuel)
def AqW:Pb:=⟨58,Adu,λ_=>Adw,pl (p:=Adu) Adr [] (g:=λi _=>X9 i)⟩
def kP:AqV:=hid λs k=>Yr (Yf (s=([]:Ya Yl))) (k Yc) (Yr (Yf ((24:Yi)<(Yg s:Yi))) (k Yc) (Yr (Yf (0<=(0:Yi))&&Yf ((0:Yi)<(Yg s:Yi))) (X8 ((Yn s (Yj 0) 0).toNat:Yi) (λrsmall=>Yr (!rsmall) (k Yc) (Adw (λt2=>k t2) (λ_=>k Yo) s (Yg s:Yi) 0))) Ye))
def XA:En:=⟨211,.spec (sg [AL] [] [Ap] [] kP),pf Adr [AqW] [.tmp 2] Tryz.func211⟩
def O5:En:=.hand (Fe mixed (X:=⟨look tab,gam [XA],Yc,Yc,Yc,Yc,[],Ye,100000,[]⟩) AG [XA] rfl (ps:=[AL,(Yc,[.maph 0])]) (is:=[.map 226 .str .bool Yc]) (rs:=[Aa]) (os:=[.map 226 .str .bool Yc]) [.tmp 4] Tryz.func110 (by kernel_rfl)) rfl (by kernel_rfl)
def AqX:En:=au ([]:Ya En) [JV] [] [AL] [] [.tmp 2] Tryz.func117 (by kernel_rfl)
def AqY:En:=au ([]:Ya En) [Aa] [] [Ap] [] [.tmp 2] Tryz.func437 (by kernel_rfl)
def JX:En:=au [AqY] [Aa,Aa] [] [Aa] [] [.tmp 4] Tryz.func378 (by kernel_rfl)
def Adx:En:=au ([]:Ya En) [Aa,Aa] [] [Aa] [] [.tmp 4] Tryz.func436 (by kernel_rfl)
def O6:En:=au [Adx] [Aa] [] [Aa] [] [.tmp 2] Tryz.func376 (by kernel_rfl)
def kQ:En:=au [O6,Adx] [Aa] [] [Aa] [] [.tmp 2] Tryz.func377 (by kernel_rfl)
abbrev AqZ:={β:Type}->Yi->((Yi×DK)->Yi->Yb β)->Yb β
def Ady:AqZ:=ET ⟨look tab,gam [JX,O6,kQ],Yc,Yc,Yc,Yc,[],Ye,100000,[]⟩ Tryz.f307 [Aa] [] [O0,Aa] [] [.cell 2 425,.tmp 3]
def Adz:En:=⟨307,.spec (sg [Aa] [] [O0,Aa] [] Ady),(FN mixed (X:=⟨look tab,gam [JX,O6,kQ],Yc,Yc,Yc,Yc,[],Ye,100000,[]⟩) AG [JX,O6,kQ] rfl [.cell 2 425,.tmp 3] Tryz.func307 (by kernel_rfl)).spec⟩
def kR:En:=au [Adz] [Aa] [] [Ap] [] [.tmp 2] Tryz.func216 (by kernel_rfl)
def kS:En:=au ([]:Ya En) [Aa,Aa,Aa] [] [Ap] [] [.tmp 6] Tryz.func305 (by kernel_rfl)
def Tv:En:=au ([]:Ya En) [Aa,Aa] [] [Ap] [] [.tmp 4] Tryz.func212 (by kernel_rfl)
def Ar0:En:=au [kR,kS,Tv] [Fh,Te] [] [Aa] [] [.tmp 4] Tryz.func221 (by kernel_rfl)
def kT:En:=au ([]:Ya En) [IQ] [] [Aa] [] [.tmp 2] Tryz.func140 (by kernel_rfl)
def Ar1:En:=au [Tv] [Aa,AF] [GY] [Ap] [GY] [.tmp 3] Tryz.func308 (by kernel_rfl)
def Ar2:En:=au [Ar1] [Jr,(Yc,[.fn 308 [0]])] [GY] [Aa] [GY] [.tmp 4] Tryz.func306 (by kernel_rfl)
def Ar3:En:=au [Ar2] [Jr,(Yc,[.fn 308 [0]])] [GY] [Ap] [GY] [.tmp 4] Tryz.func214 (by kernel_rfl)
def Ar4:En:=au [kR,kS,Tv,Ar3,kT] [Fh,K3] [] [Aa] [] [.tmp 4] Tryz.func220 (by kernel_rfl)
def Ar5:En:=au [Ar4] [K3,AF] [GY] [Aa] [GY] [.tmp 3] Tryz.func219 (by kernel_rfl)
def Ar6:En:=au ([]:Ya En) [K3] [] [AL] [] [.tmp 2] Tryz.func218 (by kernel_rfl)
def Ar7:En:=au [Ar6,Ar5,O5] [(Yc,[.data (.slice Kz)]),(Yc,[.fn 218 []]),(Yc,[.fn 219 [0]])] [GY] [Aa] [GY] [.tmp 6] Tryz.func217 (by kernel_rfl)
def Ar8:En:=au [Ar0,Ar7] [Fh,JV] [] [Aa] [] [.tmp 4] Tryz.func119 (by kernel_rfl)
def Ar9:En:=au [Ar8] [JV,AF] [GY] [Aa] [GY] [.tmp 3] Tryz.func118 (by kernel_rfl)
def kU:En:=au [AqX,Ar9,O5] [(Yc,[.data (.slice JS)]),(Yc,[.fn 117 []]),(Yc,[.fn 118 [0]])] [GY] [Aa] [GY] [.tmp 6] Tryz.func116 (by kernel_rfl)
def Ara:En:=au [kR] [Aa] [] [Ap] [] [.tmp 2] Tryz.func215 (by kernel_rfl)
def Arb:En:=au [Ara] [Jr,(Yc,[.fn 215 []])] [] [Aa] [] [.tmp 4] Tryz.func306 (by kernel_rfl)
def Arc:En:=au [Arb] [Jr,(Yc,[.fn 215 []])] [] [Ap] [] [.tmp 4] Tryz.func214 (by kernel_rfl)
def Ard:En:=au [Tv,Arc] [Fh,Q6] [] [Aa] [] [.tmp 4] Tryz.func115 (by kernel_rfl)
def Are:En:=au [Ard] [Q6,AF] [GY] [Aa] [GY] [.tmp 3] Tryz.func114 (by kernel_rfl)
def Arf:En:=au ([]:Ya En) [Q6] [] [AL] [] [.tmp 2] Tryz.func113 (by kernel_rfl)
def kV:En:=au [Arf,Are,O5] [Xv,(Yc,[.fn 113 []]),(Yc,[.fn 114 [0]])] [GY] [Aa] [GY] [.tmp 6] Tryz.func112 (by kernel_rfl)
def Arg:En:=au [kS] [Aa] [] [Ap] [] [.tmp 2] Tryz.func213 (by kernel_rfl)
def kW:En:=au [Arg,Tv,kT] [Fh,(Yo,[.data HO])] [] [Aa] [] [.tmp 4] Tryz.func111 (by kernel_rfl)
abbrev Arh:={β:Type}->Yi->Yi->Yi->(Ys->Yb β)->Yb β
def kX:Arh:=ET ⟨look tab,gam ([]:Ya En),Yc,Yc,Yc,Yc,[],Ye,100000,[]⟩ Tryz.f245 [Aa,Aa,Aa] [] [Ap] [] [.tmp 6]
def Tw:En:=⟨245,.spec (sg [Aa,Aa,Aa] [] [Ap] [] kX),(FN mixed (X:=⟨look tab,gam ([]:Ya En),Yc,Yc,Yc,Yc,[],Ye,100000,[]⟩) AG ([]:Ya En) rfl [.tmp 6] Tryz.func245 (by kernel_rfl)).spec⟩
def Ari:Shelf.Ren:=
   {
   f:=λx=>
    match x with
    |20=>450
    |n=>n,
   t:=λx=>
    match x with
    |24=>370
    |22=>366
    |3=>3
    |25=>448
    |4=>4
    |0=>0
    |n=>n,
   g:=λx=>x}
theorem Arj:Go.Proofs.SlLaysF0.n20 Tryz.prog Ari:=
 {
  mixed:=by kernel_rfl,
  f20:=Y3 "slices.insertionSortCmpFunc[pagewatch/zone.occurrence]" ⟨AC (by kernel_rfl),Eq.trans Tryz.func450 (Ai Yd (by kernel_rfl))⟩,
  t0:=Tryz.underlying0,
  a0:=Tryz.isAgg0,
  z0:=Tryz.sizeOf0,
  v0:=Tryz.zeroValue0,
  t3:=Tryz.underlying3,
  a3:=Tryz.isAgg3,
  z3:=Tryz.sizeOf3,
  v3:=Tryz.zeroValue3,
  t4:=Tryz.underlying4,
  a4:=Tryz.isAgg4,
  z4:=Tryz.sizeOf4,
  v4:=Tryz.zeroValue4,
  t22:=Tryz.underlying366,
  a22:=Tryz.isAgg366,
  z22:=Tryz.sizeOf366,
  v22:=Tryz.zeroValue366,
  t25:=Tryz.underlying448,
  a25:=Tryz.isAgg448,
  z25:=Tryz.sizeOf448,
  v25:=Tryz.zeroValue448}
def Nr:DK->Ys:=λx=>decide (-4611686018427387904<=x.1)&&Yf (x.1<4611686018427387904)
def Tx:DK->DK->Yi:=λx y=>x.1-y.1
def AdA:DK->Yi:=λx=>x.1
def AdB:Ya DK->Ya DK:=FY Nr ((0,0):Yi×Yi) rfl Tx
theorem AGc(x y:Yi×Yi):Tx x y<0↔AdA x<AdA y:=by show x.1-y.1<0↔x.1<y.1;omega
theorem Ark(x y:Yi×Yi)(hx:Nr x=Yo)(hy:Nr y=Yo)(W:World):Yat Tryz.prog 330 #[.agg (encT (.prod (.int .i64) (.int .i64)) x).toArray,.agg (encT (.prod (.int .i64) (.int .i64)) y).toArray] W λe w'=>e=.returned (.int .i64 (Tx x y))/\∃q os',w'=Go.Sort.grow (W.drewN q) os':=by
 obtain⟨a,b⟩:=x;obtain⟨c,d⟩:=y;simp only[Nr,CO,HB]at hx hy;obtain⟨h1,h2⟩:=hx;obtain⟨h3,h4⟩:=hy;change Yat Tryz.prog 330 #[.agg #[.int .i64 a,.int .i64 b],.agg #[.int .i64 c,.int .i64 d]] W λe w'=>e=.returned (.int .i64 (a-c))/\_;have hw:Yai (a-c)=a-c:=by unfold Yai;omega
 go_enter Tryz.func330,Tryz.ntmps330
 go_wp2
 go_ret
 exact⟨rfl,0,_,by rw[Go.Sort.alloc_eq_grow,Go.Sort.alloc_eq_grow,Go.Sort.grow_grow];rfl⟩
theorem Arl:Go.Sort.SWO (Go.Proofs.ltOf λ(x y:{x:Yi×Yi // Nr x=Yo})=>Tx x.1 y.1):=by
 constructor
 ·intro x
  refine Ex ?_;show ¬x.1.1-x.1.1<0;omega
 ·intro x y z h1 h2
  have h1:x.1.1-y.1.1<0:=AC h1;have h2:y.1.1-z.1.1<0:=AC h2;refine CD ?_;show x.1.1-z.1.1<0;omega
 ·intro x y z h1 h2
  have h1:¬x.1.1-y.1.1<0:=MI h1;have h2:¬y.1.1-z.1.1<0:=MI h2;refine Ex ?_;show ¬x.1.1-z.1.1<0;omega
theorem Arm(p:Yb Addr)(n cap:Yk)(w:World)(Q:World->Prop)(hn:n<13)(h:Yat Tryz.prog 450 #[.slice p n cap,.int .i64 0,.int .i64 n,.func (.func 330) #[] #[]] w (λe2 w'=>e2=.returned (.tuple #[])/\Q w')):Yat Tryz.prog 329 #[.slice p n cap,.func (.func 330) #[] #[]] w λe2 w'=>e2=.returned (.tuple #[])/\Q w':=by
 have h2:Yat Tryz.prog 391 #[.slice p n cap,.int .i64 n,.func (.func 330) #[] #[]] w λe2 w'=>e2=.returned (.tuple #[])/\Q w':=by
  go_enter Tryz.func391,Tryz.ntmps391
  go_wp2
  refine wp_loop_rounds 1 ?_;rw[rounds_succ]
  go_wp2_with (refine h.mono ?_;rintro e w' ⟨rfl,hq⟩)
  refine wp_loop_rounds 1 ?_;rw[rounds_succ]
  go_wp2
  go_end0
  exact⟨rfl,hq⟩
 go_enter Tryz.func329,Tryz.ntmps329
 go_wp2_with (refine h2.mono ?_;rintro e w' ⟨rfl,hq⟩)
 go_end0
 exact⟨rfl,hq⟩
def AdC:RowF:=⟨370,(.prod (.int .i64) (.int .i64)),Yc,λl=>List.all l Nr&&Yf (Yg l<13),AdB,Yd 330⟩
theorem Arn:RowOk Tryz.prog 329 AdC:=
 ApH (t:=370) (e:=(.prod (.int .i64) (.int .i64))) (good:=Nr) (d0:=((0,0):Yi×Yi)) (h0:=rfl) (cf:=Tx) (g:=330) rfl (by decide) Arj rfl Tryz.isAgg370 Tryz.sizeOf370 Arl (Go.Proofs.enters_of Tryz.func330 (by kernel_rfl) rfl) Ark Arm ⟨_,Tryz.func329,by kernel_rfl,by kernel_rfl⟩
def Aro:En:=⟨_,.rows AdC,Arn⟩
abbrev Arp:={β:Type}->(Yi×DK)->(Yi->Yb β)->Yb β
def AdD:Arp:=ET ⟨look tab,gam [JX,O6],Yc,Yc,Yc,Yc,[],Ye,100000,[]⟩ Tryz.f389 [O0] [] [Aa] [] [.tmp 2]
def XB:En:=⟨389,.spec (sg [O0] [] [Aa] [] AdD),(FN mixed (X:=⟨look tab,gam [JX,O6],Yc,Yc,Yc,Yc,[],Ye,100000,[]⟩) AG [JX,O6] rfl [.tmp 2] Tryz.func389 (by kernel_rfl)).spec⟩
def XC:En:=au ([]:Ya En) [Aa] [] [Aa] [] [.tmp 2] Tryz.func390 (by kernel_rfl)
abbrev Arq:={β:Type}->(Yi×DK)->(Ys->Yb β)->Yb β
def AdE:Arq:=ET ⟨look tab,gam [JX],Yc,Yc,Yc,Yc,[],Ye,100000,[]⟩ Tryz.f388 [O0] [] [Ap] [] [.tmp 2]
def XD:En:=⟨388,.spec (sg [O0] [] [Ap] [] AdE),(FN mixed (X:=⟨look tab,gam [JX],Yc,Yc,Yc,Yc,[],Ye,100000,[]⟩) AG [JX] rfl [.tmp 2] Tryz.func388 (by kernel_rfl)).spec⟩
abbrev Arr:={β:Type}->Yi->Yi->Yi->Yi->(Yi->Yi->Yb β)->Yb β
def AdF:Arr:=ET ⟨look tab,gam [JX,XD,XC,XB],Yc,Yc,Yc,Yc,[],Ye,100000,[]⟩ Tryz.f328 [Aa,Aa,Aa,Aa] [] [Aa,Aa] [] [.tmp 8,.tmp 9]
def Ars:En:=⟨328,.spec (sg [Aa,Aa,Aa,Aa] [] [Aa,Aa] [] AdF),(FN mixed (X:=⟨look tab,gam [JX,XD,XC,XB],Yc,Yc,Yc,Yc,[],Ye,100000,[]⟩) AG [JX,XD,XC,XB] rfl [.tmp 8,.tmp 9] Tryz.func328 (by kernel_rfl)).spec⟩
abbrev Art:={β:Type}->K0->(Yi->Yb β)->Yb β
def AdG:Art:=ET ⟨look tab,gam [Tw],Yc,Yc,Yc,Yc,[],Ye,100000,[]⟩ Tryz.f327 [(Yo,[.data Ir])] [] [Aa] [] [.tmp 2]
def Aru:En:=⟨327,.spec (sg [(Yo,[.data Ir])] [] [Aa] [] AdG),(FN mixed (X:=⟨look tab,gam [Tw],Yc,Yc,Yc,Yc,[],Ye,100000,[]⟩) AG [Tw] rfl [.tmp 2] Tryz.func327 (by kernel_rfl)).spec⟩
abbrev Arv:={β:Type}->Is->(Yi->GB->Yb β)->Yb β
def XE:Ya En:=[Ars,Tw,Aru,Aro]
abbrev AdH(β:Type):=Yi->GB->Yb β
abbrev AdI(β:Type):=Yi->Is->Yb β
abbrev kY(β:Type):=Yi->(Ya K0)->Yi->Yi->Is->Yb β
def AdJ:Pc:=⟨86,0,AS 250 (AA Tryz.f244),⟨0,[1,4,23,24,25],[AF,Aa,O2,Aa,Aa],[.cells 153 [.data Jp]]⟩,[(.ret,⟨0,[2,3],[AX,Aa],Tl⟩),(.exit 0,⟨0,[1,4],[AF,Aa],[.cells 153 [.data Jp]]⟩)]⟩
abbrev AdK(β:Type):=GB->Yb β
abbrev kZ(β:Type):=(Ya K0)->Yi->Yi->GB->Yb β
def lA:Pc:=⟨86,0,AS 2042 (AA Tryz.f244),⟨0,[8,46,47,48],[AX,O2,Aa,Aa],Tl⟩,[(.exit 2,⟨0,[8],[AX],Tl⟩)]⟩
abbrev AdL(β:Type):=(Ya K0)->Yi->Yi->GB->Yb β
abbrev lB(β:Type):=Yi->(Ya K0)->Yi->Yi->GB->K0->Yb β
def AdM:Pc:=⟨86,0,AS 230 (Gm lA.c),⟨0,[8,10,11,46,47,48],[AX,BJ,Aa,O2,Aa,Aa],[.row 370 (.prod (.int .i64) (.int .i64)),.cells 335 [.data Ir]]⟩,[(.exit 4,⟨0,[8,46,47,48],[AX,O2,Aa,Aa],Tl⟩)]⟩
def AdN{β:Type}(rec:kY β)(k1:AdH β)(k2:AdI β):kY β:=λn t23 t24 t25 z=>Yr (Yf (t25<t24)) (Yr (Yf (0<=t25)&&Yf (t25<(Yg t23:Yi))) (let e:=Yn t23 (Yj t25) (0,(0,(0,(0,(0,(0,0))))));AdG e (λrrule=>Yr (!Yf (rrule=0)) (k1 rrule ([]:Ya DK)) (let n2:=(Yh.wrap (n+(Yh.wrap ((Yh.wrap (e.2.1-e.1))+1))));rec n2 t23 t24 (Yh.wrap (t25+(1:Yi))) z))) Ye) (k2 n z)
def XF(m:Yk){β:Type}(k1:AdH β)(k2:AdI β):kY β:=K4 (λr=>AdN r k1 k2) Ye m
theorem AGd{β:Type}(i:Yk)(k1 k2):XF (β:=β) (i+1) k1 k2=AdN (XF i k1 k2) k1 k2:=rfl
def AdO{β:Type}:=hid (XF (β:=β) fuel)
def Arw:Pb:=⟨250,AdJ,λ_=>AdO,pl (p:=AdJ) XE [] (g:=λi _=>XF i)⟩
def AdP{β:Type}(rec:lB β)(k1:AdL β):lB β:=λy t46 VP NN out r_=>Yr (Yf (y<=r_.2.1)) (AdF y r_.2.2.1 r_.2.2.2.1 r_.2.2.2.2.1 (λAFC AGK=>let l:=([((Yh.wrap ((Yh.wrap (AFC*86400))+r_.2.2.2.2.2.1)),r_.2.2.2.2.2.2)]:Ya DK);Yr (Yf ((Yg out+Yg l)*16<=Cn)) (let l2:=(out++l);let y2:=(Yh.wrap (y+1));rec y2 t46 VP NN l2 r_) Ye)) (k1 t46 VP NN out)
def XG(m:Yk){β:Type}(k1:AdL β):lB β:=Tn (λr=>AdP r k1) Ye m
theorem AGe{β:Type}(i:Yk)(k1):XG (β:=β) (i+1) k1=AdP (XG i k1) k1:=rfl
def AdQ{β:Type}:=hid (XG (β:=β) fuel)
def Arx:Pb:=⟨230,AdM,λ_=>AdQ,pl (p:=AdM) XE [] (g:=λi _=>XG i)⟩
def AdR{β:Type}(rec:kZ β)(k1:AdK β):kZ β:=λt46 VP NN out=>Yr (Yf (NN<VP)) (Yr (Yf (0<=NN)&&Yf (NN<(Yg t46:Yi))) (let e:=Yn t46 (Yj NN) (0,(0,(0,(0,(0,(0,0))))));AdQ (λI7 AFR AFS out2=>rec I7 AFR (Yh.wrap (AFS+(1:Yi))) out2) e.1 t46 VP NN out e) Ye) (k1 out)
def XH(m:Yk){β:Type}(k1:AdK β):kZ β:=Gp (λr=>AdR r k1) Ye m
theorem AGf{β:Type}(i:Yk)(k1):XH (β:=β) (i+1) k1=AdR (XH i k1) k1:=rfl
def AdS{β:Type}:=hid (XH (β:=β) fuel)
def Ary:Pb:=⟨2042,lA,λ_=>AdS,pl (p:=lA) XE [Arx] (g:=λi _=>XH i)⟩
def AdT:Arv:=hid λz k=>kX z.2.1 (-64800) 64800 (λJC=>Yr (!JC) (k 1 ([]:Ya DK)) (Yr (Yf ((16:Yi)<(Yg z.2.2:Yi))) (k 5 ([]:Ya DK)) (AdO (λt3 t2=>k t3 t2) (λn z2=>Yr (Yf ((640:Yi)<n)) (k 5 ([]:Ya DK)) (AdS (λout=>Yr ((List.all out Nr)&&Yf (Yg out<13)) (let l:=(AdB out);k 0 l) Ye) z2.2.2 (Yg z2.2.2:Yi) 0 ([]:Ya DK))) 0 z.2.2 (Yg z.2.2:Yi) 0 z)))
def Arz:En:=⟨244,.spec (sg [Mk] [] [AX,Aa] Tl AdT),pf XE [Arw,Ary] [.tmp 2,.tmp 3] Tryz.func244⟩
abbrev ArA:={β:Type}->Is->(Yi->GB->Yb β)->Yb β
def lC:Ya En:=[Tw,Arz]
abbrev AdU(β:Type):=Yi->GB->Yb β
abbrev AdV(β:Type):=GB->Yb β
abbrev lD(β:Type):=Yi->Yi->Yi->GB->GB->Yb β
def lE:Pc:=⟨79,0,AS 506 (AA Tryz.f144),⟨0,[6,7,22,23,24],[AX,Aa,EK,Aa,Aa],AcE⟩,[(.ret,⟨0,[2,3],[AX,Aa],jU⟩),(.exit 0,⟨0,[6],[AX],jU⟩)]⟩
abbrev ArB(β:Type):=Yi->Yi->Yi->GB->GB->Yb β
abbrev ArC(β:Type):=Yi->Yi->Yi->GB->DK->GB->Yb β
def AdW:Pc:=⟨79,0,AS 463 (Gm lE.c),⟨0,[6,9,10,22,23,24],[AX,BJ,Aa,(Yc,[.rowh 2]),Aa,Aa],[.row 358 (.prod (.int .i64) (.int .i64)),.cells 370 [.data (.prod (.int .i64) (.int .i64))],.row 370 (.prod (.int .i64) (.int .i64))]⟩,[(.normal,⟨0,[6,7,22,23,24],[AX,Aa,EK,Aa,Aa],AcE⟩)]⟩
def AdX{β:Type}(k1:ArB β):ArC β:=λat_ t23 t24 out o t22=>let l:=([(at_,o.2)]:Ya DK);Yr (Yf ((Yg out+Yg l)*16<=Cn)) (let l2:=(out++l);k1 o.2 t23 t24 l2 t22) Ye
def lF{β:Type}:=hid (AdX (β:=β))
def ArD:Pb:=⟨463,AdW,λ_=>lF,pe (p:=AdW) lC [] 463 (g:=λ_=>AdX)⟩
def AdY{β:Type}(rec:lD β)(k1:AdU β)(k2:AdV β):lD β:=λnow t23 t24 out t22=>Yr (Yf (t24<t23)) (Yr (Yf (0<=t24)&&Yf (t24<(Yg t22:Yi))) (Yr (Yf (((Yn t22 (Yj t24) (0,0)).2)=now)) (rec now t23 (Yh.wrap (t24+(1:Yi))) out t22) (let at_:=(Yh.wrap (((Yn t22 (Yj t24) (0,0)).1)-now));let change:=(Yh.wrap (((Yn t22 (Yj t24) (0,0)).2)-now));Yr (Yf ((86400:Yi)<=change)) (k1 6 ([]:Ya DK)) (Yr (Yf (change<=(-86400))) (k1 6 ([]:Ya DK)) (kX at_ 0 8589934592 (λJC=>Yr (!JC) (k1 6 ([]:Ya DK)) (Yr (Yf ((0:Yi)<(Yg out:Yi))) (Yr (Yf (0<=(Yh.wrap ((Yg out:Yi)-(1:Yi))))&&Yf ((Yh.wrap ((Yg out:Yi)-(1:Yi)))<(Yg out:Yi))) (Yr (Yf (at_<(Yh.wrap (((Yn out (Yj (Yh.wrap ((Yg out:Yi)-(1:Yi)))) (0,0)).1)+604800)))) (k1 6 ([]:Ya DK)) (lF (λnow2 t232 MD out2 t222=>rec now2 t232 (Yh.wrap (MD+(1:Yi))) out2 t222) at_ t23 t24 out (Yn t22 (Yj t24) (0,0)) t22)) Ye) (lF (λnow2 t232 MD out2 t222=>rec now2 t232 (Yh.wrap (MD+(1:Yi))) out2 t222) at_ t23 t24 out (Yn t22 (Yj t24) (0,0)) t22))))))) Ye) (k2 out)
def XI(m:Yk){β:Type}(k1:AdU β)(k2:AdV β):lD β:=K4 (λr=>AdY r k1 k2) Ye m
theorem AGg{β:Type}(i:Yk)(k1 k2):XI (β:=β) (i+1) k1 k2=AdY (XI i k1 k2) k1 k2:=rfl
def AdZ{β:Type}:=hid (XI (β:=β) fuel)
def ArE:Pb:=⟨506,lE,λ_=>AdZ,pl (p:=lE) lC [ArD] (g:=λi _=>XI i)⟩
def ArF:ArA:=hid λz k=>AdT z (λroccurrences Am8=>Yr (!Yf (roccurrences=0)) (k roccurrences ([]:Ya DK)) (AdZ (λt3 t2=>k t3 t2) (λout=>k 0 out) z.2.1 (Yg Am8:Yi) 0 ([]:Ya DK) Am8))
def Ae0:En:=⟨144,.spec (sg [Mk] [] [AX,Aa] jU ArF),pf lC [ArE] [.tmp 2,.tmp 3] Tryz.func144⟩
def ArG:En:=au [Ae0] [Mk] [] [Aa] [] [.tmp 2] Tryz.func208 (by kernel_rfl)
def ArH:En:=au ([]:Ya En) [(Yo,[.data Ir])] [] [Ap] [] [.tmp 2] Tryz.func210 (by kernel_rfl)
def ArI:En:=au [ArH] [O2,(Yc,[.fn 210 []])] [] [Aa] [] [.tmp 4] Tryz.func302 (by kernel_rfl)
def ArJ:En:=au [ArI] [O2,(Yc,[.fn 210 []])] [] [Ap] [] [.tmp 4] Tryz.func209 (by kernel_rfl)
def ArK:En:=au [ArJ,ArG] [Mk] [] [Aa] [] [.tmp 2] Tryz.func109 (by kernel_rfl)
def ArL:En:=au ([]:Ya En) [Mk] [] [AL] [] [.tmp 2] Tryz.func108 (by kernel_rfl)
def lG:En:=au [ArL,ArK,O5] [Th,(Yc,[.fn 108 []]),(Yc,[.fn 109 []])] [] [Aa] [] [.tmp 6] Tryz.func107 (by kernel_rfl)
abbrev ArM:={β:Type}->Tc->(Yi->Yb β)->Yb β
def ArN:ArM:=ET ⟨look tab,gam [kW,O5,kV,kU,lG],Yc,Yc,Yc,Yc,[],Ye,100000,[]⟩ Tryz.f47 [Fh] [] [Aa] [] [.tmp 2]
def Mm:En:=⟨47,.spec (sg [Fh] [] [Aa] [] ArN),(FN mixed (X:=⟨look tab,gam [kW,O5,kV,kU,lG],Yc,Yc,Yc,Yc,[],Ye,100000,[]⟩) AG [kW,O5,kV,kU,lG] rfl [.tmp 2] Tryz.func47 (by kernel_rfl)).spec⟩
def Ae1:En:=.inl mixed (X:=⟨look tab,gam [Ado,Mm,X7],Yc,Yc,Yc,Yc,[],Ye,0,[]⟩) (rs:=[.cell 4 74,.tmp 5]) AG [Ado,Mm,X7] rfl 44 Tryz.func46 (by kernel_rfl)
def Ae2:En:=au ([]:Ya En) [IQ] [] [Aa] [] [.tmp 2] Tryz.func57 (by kernel_rfl)
def lH:En:=au ([]:Ya En) [IQ,IQ] [] [AX] JW [.tmp 4] Tryz.func58 (by kernel_rfl)
abbrev ArO:={β:Type}->CU->(CU->BF->Yb β)->Yb β
def Ae3:Ya En:=[k9]
abbrev lI(β:Type):=CU->BF->Yb β
abbrev lJ(β:Type):=(Ya Yl×(Ya Yl×Al))->Yi->CU->BF->Yb β
def Ae4:Pc:=⟨18,1,AS 58 (AA Tryz.f62),⟨1,[0,3,6,7],[AF,EK,(Yo,[.data (.prod .str (.prod .str Ei))]),Aa],[DC,.row 9 .str]⟩,[(.exit 0,⟨1,[3],[EK],[DC,.row 9 .str]⟩)]⟩
def lK{β:Type}(rec:lJ β)(k1:lI β):lJ β:=λt6 t7 d out=>Yr (Yf (t7<(4:Yi))) (Yr (Yf (0<=t7)&&Yf (t7<(Yg ([t6.1,t6.2.1,t6.2.2.1,t6.2.2.2]:Ya Ar):Yi))) (let e:=Yn ([t6.1,t6.2.1,t6.2.2.1,t6.2.2.2]:Ya Ar) (Yj t7) ([]:Ya Yl);Q8 3 d (λVD RF=>Yr VD (let l:=([e]:Ya Ar);Yr (Yf ((Yg out+Yg l)*16<=Cn)) (let l2:=(out++l);rec t6 (Yh.wrap (t7+(1:Yi))) RF l2) Ye) (rec t6 (Yh.wrap (t7+(1:Yi))) RF out))) Ye) (k1 d out)
def Tz(m:Yk){β:Type}(k1:lI β):lJ β:=Gp (λr=>lK r k1) Ye m
theorem ArP{β:Type}(i:Yk)(k1):Tz (β:=β) (i+1) k1=lK (Tz i k1) k1:=rfl
def lL{β:Type}:=hid (Tz (β:=β) fuel)
def ArQ:Pb:=⟨58,Ae4,λ_=>lL,pl (p:=Ae4) Ae3 [] (g:=λi _=>Tz i)⟩
def XJ:ArO:=hid λd k=>lL (λEL out=>k EL out) (([97,112,112]:Ya Yl),(([104,111,115,116]:Ya Yl),(([115,101,118]:Ya Yl),([116,101,97,109]:Ya Yl)))) 0 d ([]:Ya Ar)
def ArR:En:=⟨62,.spec (sg [AF] [DC] [EK] [DC,.row 9 .str] XJ),pf Ae3 [ArQ] [.tmp 2] Tryz.func62⟩
abbrev ArS:={β:Type}->CU->(BA->CU->Yb β)->Yb β
def XK:ArS:=hid λd k=>let l:=([([97,112,112]:Ya Yl),([104,111,115,116]:Ya Yl),([115,101,118]:Ya Yl),([116,101,97,109]:Ya Yl),([122,111,110,101]:Ya Yl)]:Ya Ar);Hr 5 d (λFE GH=>Yr (Yf (0<=FE)&&Yf (FE<(Yg l:Yi))) (Hr 4 GH (λAFB AF5=>let l2:=([([97]:Ya Yl),([98]:Ya Yl),([]:Ya Yl),([42]:Ya Yl),([99,114,105,116]:Ya Yl),([63]:Ya Yl),([119,101,98,45,42]:Ya Yl),([97,34,98,92]:Ya Yl)]:Ya Ar);Hr 8 AF5 (λyN AF6=>Yr (Yf (0<=yN)&&Yf (yN<(Yg l2:Yi))) (k ((Yn l (Yj FE) ([]:Ya Yl)),(AFB,(Yn l2 (Yj yN) ([]:Ya Yl)))) AF6) Ye))) Ye)
def ArT:En:=⟨63,.spec (sg [AF] [DC] [Q7] [DC] XK),pf [Np] [] [.cell 2 49] Tryz.func63⟩
abbrev Ae5:={β:Type}->D4->(D4->Yb β)->Yb β
def ArU(c:Ae5):Spec:=
 ⟨[K2],[],[AX],[.row 111 EJ],λx k=>c x.1.1.1 (λr0=>k (((),()),(r0,())))⟩
def XL:Ae5:=λl k=>FM EJ 64 l k
theorem ArV:SpecOk Tryz.prog 72 (ArU XL):=
 Ip (et:=111) (e:=EJ) (bytes:=64) (by kernel_rfl)
  (Eh (X:=⟨look tab,Bb [],Yc,Yc,Yc,Yc,[],Ye,0,[]⟩) (Λ:=Bb []) (rs:=[.tmp 2]) (c:=AA Tryz.f72) mixed AG ΓOk_nil Tryz.func72 (by kernel_rfl) (by kernel_rfl) (by kernel_rfl) (by kernel_rfl) DA (λx k r h=>Eq.trans (b:=(HI 111 EJ 64).run x k) (by kernel_rfl) h))
  (Eh (X:=⟨look tab,Bb [],Yc,Yc,Yc,Yc,[],Ye,0,[]⟩) (Λ:=Bb []) (rs:=[.tmp 2]) (c:=AA Tryz.f72) mixed AG ΓOk_nil Tryz.func72 (by kernel_rfl) (by kernel_rfl) (by kernel_rfl) (by kernel_rfl) DA (λx k r h=>Eq.trans (b:=(HJ 111 EJ).run x k) (by kernel_rfl) h))
def ArW:En:=.of ArV
abbrev ArX:={β:Type}->Ar->(Ys->Yb β)->Yb β
def JY:ArX:=ET ⟨look tab,gam ([]:Ya En),Yc,Yc,Yc,Yc,[],Ye,100000,[]⟩ Tryz.f75 [AL] [] [Ap] [] [.tmp 2]
def lM:En:=⟨75,.spec (sg [AL] [] [Ap] [] JY),(FN mixed (X:=⟨look tab,gam ([]:Ya En),Yc,Yc,Yc,Yc,[],Ye,100000,[]⟩) AG ([]:Ya En) rfl [.tmp 2] Tryz.func75 (by kernel_rfl)).spec⟩
abbrev ArY:={β:Type}->Ar->(Ys->Yb β)->Yb β
def Fj:ArY:=ET ⟨look tab,gam ([]:Ya En),Yc,Yc,Yc,Yc,[],Ye,100000,[]⟩ Tryz.f76 [AL] [] [Ap] [] [.tmp 2]
def Ae6:En:=⟨76,.spec (sg [AL] [] [Ap] [] Fj),(FN mixed (X:=⟨look tab,gam ([]:Ya En),Yc,Yc,Yc,Yc,[],Ye,100000,[]⟩) AG ([]:Ya En) rfl [.tmp 2] Tryz.func76 (by kernel_rfl)).spec⟩
abbrev ArZ:={β:Type}->Yi->Yi->Yi->(Ys->Yb β)->Yb β
def K5:ArZ:=hid λn lo hi k=>Yr (Yf (lo<=n)) (k (Yf (n<=hi))) (k Yc)
def T0:En:=⟨86,.spec (sg [Aa,Aa,Aa] [] [Ap] [] K5),pf [] [] [.tmp 6] Tryz.func86⟩
def Ae7:En:=⟨168,.abs (delA 177 EI),AoF (by rw[(show Ty.size EI=6 from by kernel_rfl)];exact Ap5) ⟨_,Tryz.func168,by kernel_rfl,by kernel_rfl⟩⟩
abbrev As0:={β:Type}->Yi->(Yi->Yb β)->Yb β
def Gq:As0:=hid λt k=>Yr (Yf ((8589934592:Yi)<t)) (k (-1)) (k t)
def lN:En:=⟨171,.spec (sg [Aa] [] [Aa] [] Gq),pf [] [] [.tmp 2] Tryz.func171⟩
def lO:En:=.inl mixed (X:=⟨look tab,gam [lN],Yc,Yc,Yc,Yc,[],Ye,0,[]⟩) (rs:=[]) AG [lN] rfl 1 Tryz.func91 (by kernel_rfl)
def Ae8:En:=.inl mixed (X:=⟨look tab,gam [lO,Ae7],Yc,Yc,Yc,Yc,[],Ye,0,[]⟩) (rs:=[]) AG [lO,Ae7] rfl 2 Tryz.func88 (by kernel_rfl)
abbrev Ae9:={β:Type}->BQ->(BQ->Yb β)->Yb β
def As1(c:Ae9):Spec:=
 ⟨[C2],[],[AX],[.row 37 Ei],λx k=>c x.1.1.1 (λr0=>k (((),()),(r0,())))⟩
def Q9:Ae9:=λl k=>FM Ei 32 l k
theorem As2:SpecOk Tryz.prog 89 (As1 Q9):=
 Ip (et:=37) (e:=Ei) (bytes:=32) (by kernel_rfl)
  (Eh (X:=⟨look tab,Bb [],Yc,Yc,Yc,Yc,[],Ye,0,[]⟩) (Λ:=Bb []) (rs:=[.tmp 2]) (c:=AA Tryz.f89) mixed AG ΓOk_nil Tryz.func89 (by kernel_rfl) (by kernel_rfl) (by kernel_rfl) (by kernel_rfl) DA (λx k r h=>Eq.trans (b:=(HI 37 Ei 32).run x k) (by kernel_rfl) h))
  (Eh (X:=⟨look tab,Bb [],Yc,Yc,Yc,Yc,[],Ye,0,[]⟩) (Λ:=Bb []) (rs:=[.tmp 2]) (c:=AA Tryz.f89) mixed AG ΓOk_nil Tryz.func89 (by kernel_rfl) (by kernel_rfl) (by kernel_rfl) (by kernel_rfl) DA (λx k r h=>Eq.trans (b:=(HJ 37 Ei).run x k) (by kernel_rfl) h))
def lP:En:=.of As2
def As3:En:=⟨90,.abs (insA 177 EI),AbS (by rw[(show Ty.size EI=6 from by kernel_rfl)];exact Ap0) ⟨_,Tryz.func90,by kernel_rfl,by kernel_rfl⟩⟩
def lQ:En:=.inl mixed (X:=⟨look tab,gam [kB],Yc,Yc,Yc,Yc,[],Ye,0,[]⟩) (rs:=[.cell 2 111]) AG [kB] rfl 2 Tryz.func92 (by kernel_rfl)
def lR:En:=au ([]:Ya En) [AL] [] [AL] [] [.tmp 2] Tryz.func100 (by kernel_rfl)
def As4:Shelf.Ren:=
   {
   f:=λx=>
    match x with
    |146=>101
    |221=>181
    |268=>274
    |138=>275
    |143=>276
    |195=>357
    |197=>358
    |218=>359
    |219=>360
    |260=>420
    |217=>421
    |225=>422
    |224=>423
    |267=>424
    |266=>470
    |314=>471
    |n=>n,
   t:=λx=>
    match x with
    |9=>9
    |31=>32
    |3=>3
    |4=>4
    |0=>0
    |105=>472
    |21=>21
    |5=>5
    |46=>302
    |119=>393
    |139=>568
    |138=>567
    |146=>569
    |51=>467
    |n=>n,
   g:=λx=>
    match x with
    |1=>2
    |3=>3
    |4=>4
    |n=>n}
theorem As5:Go.Proofs.Lays.n146 Tryz.prog As4:=
 {
  mixed:=by kernel_rfl,
  f138:=Eq.trans Tryz.func275 (Ai Yd (by kernel_rfl)),
  f143:=Eq.trans Tryz.func276 (Ai Yd (by kernel_rfl)),
  f146:=Eq.trans Tryz.func101 (Ai Yd (by kernel_rfl)),
  f195:=Eq.trans Tryz.func357 (Ai Yd (by kernel_rfl)),
  f197:=Eq.trans Tryz.func358 (Ai Yd (by kernel_rfl)),
  f217:=Eq.trans Tryz.func421 (Ai Yd (by kernel_rfl)),
  f218:=Eq.trans Tryz.func359 (Ai Yd (by kernel_rfl)),
  f219:=Eq.trans Tryz.func360 (Ai Yd (by kernel_rfl)),
  f221:=Eq.trans Tryz.func181 (Ai Yd (by kernel_rfl)),
  f224:=Eq.trans Tryz.func423 (Ai Yd (by kernel_rfl)),
  f225:=Eq.trans Tryz.func422 (Ai Yd (by kernel_rfl)),
  f260:=Eq.trans Tryz.func420 (Ai Yd (by kernel_rfl)),
  f266:=Eq.trans Tryz.func470 (Ai Yd (by kernel_rfl)),
  f267:=Eq.trans Tryz.func424 (Ai Yd (by kernel_rfl)),
  f268:=Eq.trans Tryz.func274 (Ai Yd (by kernel_rfl)),
  f314:=Eq.trans Tryz.func471 (Ai Yd (by kernel_rfl)),
  t0:=Tryz.underlying0,
  a0:=Tryz.isAgg0,
  z0:=Tryz.sizeOf0,
  v0:=Tryz.zeroValue0,
  t3:=Tryz.underlying3,
  a3:=Tryz.isAgg3,
  z3:=Tryz.sizeOf3,
  v3:=Tryz.zeroValue3,
  t4:=Tryz.underlying4,
  a4:=Tryz.isAgg4,
  z4:=Tryz.sizeOf4,
  v4:=Tryz.zeroValue4,
  t5:=Tryz.underlying5,
  a5:=Tryz.isAgg5,
  z5:=Tryz.sizeOf5,
  v5:=Tryz.zeroValue5,
  t9:=Tryz.underlying9,
  a9:=Tryz.isAgg9,
  z9:=Tryz.sizeOf9,
  v9:=Tryz.zeroValue9,
  t21:=Tryz.underlying21,
  a21:=Tryz.isAgg21,
  z21:=Tryz.sizeOf21,
  v21:=Tryz.zeroValue21,
  t31:=Tryz.underlying32,
  a31:=Tryz.isAgg32,
  z31:=Tryz.sizeOf32,
  v31:=Tryz.zeroValue32,
  t46:=Tryz.underlying302,
  a46:=Tryz.isAgg302,
  z46:=Tryz.sizeOf302,
  v46:=Tryz.zeroValue302,
  t51:=Tryz.underlying467,
  a51:=Tryz.isAgg467,
  z51:=Tryz.sizeOf467,
  v51:=Tryz.zeroValue467,
  t105:=Tryz.underlying472,
  a105:=Tryz.isAgg472,
  z105:=Tryz.sizeOf472,
  v105:=Tryz.zeroValue472,
  t119:=Tryz.underlying393,
  a119:=Tryz.isAgg393,
  z119:=Tryz.sizeOf393,
  t138:=Tryz.underlying567,
  a138:=Tryz.isAgg567,
  z138:=Tryz.sizeOf567,
  v138:=Tryz.zeroValue567,
  t139:=Tryz.underlying568,
  a139:=Tryz.isAgg568,
  z139:=Tryz.sizeOf568,
  v139:=Tryz.zeroValue568,
  t146:=Tryz.underlying569,
  a146:=Tryz.isAgg569,
  z146:=Tryz.sizeOf569,
  v146:=Tryz.zeroValue569,
  g1:=by kernel_rfl,
  g3:=by kernel_rfl,
  g4:=by kernel_rfl}
abbrev Aea:=Xp
def As6(c:Aea):Spec:=Acd 9 c
def lS:Aea:=λx y k=>jE x y k
theorem As7:SpecOk Tryz.prog 101 (As6 lS):=
 Apj As5 rfl rfl (by kernel_rfl) (AC (by kernel_rfl)) (λw0 h0=>Go.Proofs.cell_of_shapedOpen_int (P:=Tryz.prog) (g:=2) (t:=3) (zero:=#[.int .i64 0]) h0 (AC (by kernel_rfl)) (by kernel_rfl) rfl (by kernel_rfl) (by kernel_rfl) Tryz.underlying3) ⟨_,Tryz.func101,by kernel_rfl,by kernel_rfl⟩
def Aeb:En:=.of As7
def Aec:En:=.inl mixed (X:=⟨look tab,gam ([]:Ya En),Yc,Yc,Yc,Yc,DU,Ye,0,[]⟩) (rs:=[.tmp 2]) AG ([]:Ya En) rfl 1 Tryz.func104 (by kernel_rfl)
def Aed:En:=.stub 122 ⟨_,Tryz.func122,by kernel_rfl,by kernel_rfl⟩
def HU:En:=au ([]:Ya En) [AL] [] [IT] [] [.cell 2 220] Tryz.func124 (by kernel_rfl)
def As8:Shelf.Ren:=
   {
   f:=λx=>
    match x with
    |166=>128
    |240=>234
    |276=>311
    |n=>n,
   t:=λx=>
    match x with
    |70=>255
    |9=>9
    |0=>0
    |72=>258
    |37=>256
    |127=>355
    |3=>3
    |5=>5
    |80=>265
    |4=>4
    |164=>430
    |20=>20
    |75=>261
    |n=>n,
   g:=λx=>x}
theorem As9:Go.Proofs.Lays.n166 Tryz.prog As8:=
 {
  mixed:=by kernel_rfl,
  f166:=Eq.trans Tryz.func128 (Ai Yd (by kernel_rfl)),
  f240:=Eq.trans Tryz.func234 (Ai Yd (by kernel_rfl)),
  f276:=Eq.trans Tryz.func311 (Ai Yd (by kernel_rfl)),
  t0:=Tryz.underlying0,
  a0:=Tryz.isAgg0,
  z0:=Tryz.sizeOf0,
  v0:=Tryz.zeroValue0,
  t3:=Tryz.underlying3,
  a3:=Tryz.isAgg3,
  z3:=Tryz.sizeOf3,
  v3:=Tryz.zeroValue3,
  t4:=Tryz.underlying4,
  a4:=Tryz.isAgg4,
  z4:=Tryz.sizeOf4,
  v4:=Tryz.zeroValue4,
  t9:=Tryz.underlying9,
  a9:=Tryz.isAgg9,
  z9:=Tryz.sizeOf9,
  v9:=Tryz.zeroValue9,
  t20:=Tryz.underlying20,
  a20:=Tryz.isAgg20,
  z20:=Tryz.sizeOf20,
  v20:=Tryz.zeroValue20,
  t37:=Tryz.underlying256,
  a37:=Tryz.isAgg256,
  z37:=Tryz.sizeOf256,
  v37:=Tryz.zeroValue256,
  t70:=Tryz.underlying255,
  a70:=Tryz.isAgg255,
  z70:=Tryz.sizeOf255,
  v70:=Tryz.zeroValue255,
  t72:=Tryz.underlying258,
  a72:=Tryz.isAgg258,
  z72:=Tryz.sizeOf258,
  v72:=Tryz.zeroValue258,
  t75:=Tryz.underlying261,
  a75:=Tryz.isAgg261,
  z75:=Tryz.sizeOf261,
  v75:=Tryz.zeroValue261,
  t164:=Tryz.underlying430,
  a164:=Tryz.isAgg430,
  z164:=Tryz.sizeOf430,
  v164:=Tryz.zeroValue430}
def Aee:BldF:=⟨258,5,0⟩
theorem Asa:BldOk Tryz.prog 128 Aee:=
 Apw As9 {sizeBuilder:=by kernel_rfl,liesBuilder:=by kernel_rfl,t5:=Tryz.underlying5,a5:=Tryz.isAgg5,z5:=Tryz.sizeOf5,v5:=Tryz.zeroValue5,infoByte:=by kernel_rfl,cellsByte:=by kernel_rfl,sizeByte:=by kernel_rfl,neB5:=by decide} rfl rfl rfl ⟨_,Tryz.func128,by kernel_rfl,by kernel_rfl⟩
def Asb:En:=⟨_,.bld Aee,Asa⟩
def Asc:Shelf.Ren:=
   {
   f:=λx=>
    match x with
    |170=>129
    |n=>n,
   t:=λx=>
    match x with
    |70=>255
    |3=>3
    |0=>0
    |72=>258
    |37=>256
    |5=>5
    |n=>n,
   g:=λx=>x}
theorem Asd:Go.Proofs.Lays.n170 Tryz.prog Asc:=
 {
  mixed:=by kernel_rfl,
  f170:=Eq.trans Tryz.func129 (Ai Yd (by kernel_rfl)),
  t0:=Tryz.underlying0,
  a0:=Tryz.isAgg0,
  z0:=Tryz.sizeOf0,
  v0:=Tryz.zeroValue0,
  t3:=Tryz.underlying3,
  a3:=Tryz.isAgg3,
  z3:=Tryz.sizeOf3,
  v3:=Tryz.zeroValue3,
  t37:=Tryz.underlying256,
  a37:=Tryz.isAgg256,
  z37:=Tryz.sizeOf256,
  v37:=Tryz.zeroValue256,
  t70:=Tryz.underlying255,
  a70:=Tryz.isAgg255,
  z70:=Tryz.sizeOf255,
  v70:=Tryz.zeroValue255,
  t72:=Tryz.underlying258,
  a72:=Tryz.isAgg258,
  z72:=Tryz.sizeOf258,
  v72:=Tryz.zeroValue258}
def Aef:BldF:=⟨258,5,2⟩
theorem Ase:BldOk Tryz.prog 129 Aef:=
 Apz Asd rfl rfl rfl ⟨_,Tryz.func129,by kernel_rfl,by kernel_rfl⟩
def Asf:En:=⟨_,.bld Aef,Ase⟩
def Asg:Shelf.Ren:=
   {
   f:=λx=>
    match x with
    |169=>130
    |n=>n,
   t:=λx=>
    match x with
    |70=>255
    |9=>9
    |0=>0
    |72=>258
    |37=>256
    |127=>355
    |3=>3
    |5=>5
    |n=>n,
   g:=λx=>x}
theorem Ash:Go.Proofs.Lays.n169 Tryz.prog Asg:=
 {
  mixed:=by kernel_rfl,
  f169:=Eq.trans Tryz.func130 (Ai Yd (by kernel_rfl)),
  t0:=Tryz.underlying0,
  a0:=Tryz.isAgg0,
  z0:=Tryz.sizeOf0,
  v0:=Tryz.zeroValue0,
  t3:=Tryz.underlying3,
  a3:=Tryz.isAgg3,
  z3:=Tryz.sizeOf3,
  v3:=Tryz.zeroValue3,
  t9:=Tryz.underlying9,
  a9:=Tryz.isAgg9,
  z9:=Tryz.sizeOf9,
  v9:=Tryz.zeroValue9,
  t37:=Tryz.underlying256,
  a37:=Tryz.isAgg256,
  z37:=Tryz.sizeOf256,
  v37:=Tryz.zeroValue256,
  t70:=Tryz.underlying255,
  a70:=Tryz.isAgg255,
  z70:=Tryz.sizeOf255,
  v70:=Tryz.zeroValue255,
  t72:=Tryz.underlying258,
  a72:=Tryz.isAgg258,
  z72:=Tryz.sizeOf258,
  v72:=Tryz.zeroValue258,
  t127:=Tryz.underlying355,
  a127:=Tryz.isAgg355,
  z127:=Tryz.sizeOf355,
  v127:=Tryz.zeroValue355}
def Aeg:BldF:=⟨258,5,1⟩
theorem Asi:BldOk Tryz.prog 130 Aeg:=
 Apy Ash {sizeBuilder:=by kernel_rfl,liesBuilder:=by kernel_rfl,t5:=Tryz.underlying5,a5:=Tryz.isAgg5,z5:=Tryz.sizeOf5,v5:=Tryz.zeroValue5,infoByte:=by kernel_rfl,cellsByte:=by kernel_rfl,sizeByte:=by kernel_rfl,neB5:=by decide} rfl rfl rfl ⟨_,Tryz.func130,by kernel_rfl,by kernel_rfl⟩
def XM:En:=⟨_,.bld Aeg,Asi⟩
def Asj:En:=au ([]:Ya En) [Aa,Aa] [] [Ap] [] [.tmp 4] Tryz.func132 (by kernel_rfl)
def Aeh:En:=au ([]:Ya En) [Iu,Aa] [] [Jq] [] [.cell 4 148] Tryz.func134 (by kernel_rfl)
def Ask:En:=au ([]:Ya En) [Jq] [] [Ap] [] [.tmp 2] Tryz.func135 (by kernel_rfl)
def Asl:En:=au ([]:Ya En) [Jq] [] [Aa] [] [.tmp 2] Tryz.func136 (by kernel_rfl)
def Asm:En:=au ([]:Ya En) [Tf] [] [AX] [.row 158 (.prod (.int .i64) (.int .i64))] [.tmp 2] Tryz.func141 (by kernel_rfl)
def Asn:En:=au ([]:Ya En) [(Yo,[.data (.prod (.prod (.int .i64) (.int .i64)) (.int .i64))])] [] [Ap] [] [.tmp 2] Tryz.func143 (by kernel_rfl)
def Aei:En:=.inl mixed (X:=⟨look tab,gam ([]:Ya En),Yc,Yc,Yc,Yc,[],Ye,0,[]⟩) (rs:=[.tmp 2]) AG ([]:Ya En) rfl 1 Tryz.func148 (by kernel_rfl)
abbrev Aej:={β:Type}->D0->(D0->Yb β)->Yb β
def Aso(c:Aej):Spec:=
 ⟨[Nk],[],[AX],Tm,λx k=>c x.1.1.1 (λr0=>k (((),()),(r0,())))⟩
def XN:Aej:=λl k=>FM Fg 56 l k
theorem Asp:SpecOk Tryz.prog 156 (Aso XN):=
 Ip (et:=51) (e:=Fg) (bytes:=56) (by kernel_rfl)
  (Eh (X:=⟨look tab,Bb [],Yc,Yc,Yc,Yc,[],Ye,0,[]⟩) (Λ:=Bb []) (rs:=[.tmp 2]) (c:=AA Tryz.f156) mixed AG ΓOk_nil Tryz.func156 (by kernel_rfl) (by kernel_rfl) (by kernel_rfl) (by kernel_rfl) DA (λx k r h=>Eq.trans (b:=(HI 51 Fg 56).run x k) (by kernel_rfl) h))
  (Eh (X:=⟨look tab,Bb [],Yc,Yc,Yc,Yc,[],Ye,0,[]⟩) (Λ:=Bb []) (rs:=[.tmp 2]) (c:=AA Tryz.f156) mixed AG ΓOk_nil Tryz.func156 (by kernel_rfl) (by kernel_rfl) (by kernel_rfl) (by kernel_rfl) DA (λx k r h=>Eq.trans (b:=(HJ 51 Fg).run x k) (by kernel_rfl) h))
def Asq:En:=.of Asp
abbrev Aek:={β:Type}->It->(It->Yb β)->Yb β
def Asr(c:Aek):Spec:=
 ⟨[JU],[],[AX],[.row 49 HN],λx k=>c x.1.1.1 (λr0=>k (((),()),(r0,())))⟩
def XO:Aek:=λl k=>FM HN 40 l k
theorem Ass:SpecOk Tryz.prog 157 (Asr XO):=
 Ip (et:=49) (e:=HN) (bytes:=40) (by kernel_rfl)
  (Eh (X:=⟨look tab,Bb [],Yc,Yc,Yc,Yc,[],Ye,0,[]⟩) (Λ:=Bb []) (rs:=[.tmp 2]) (c:=AA Tryz.f157) mixed AG ΓOk_nil Tryz.func157 (by kernel_rfl) (by kernel_rfl) (by kernel_rfl) (by kernel_rfl) DA (λx k r h=>Eq.trans (b:=(HI 49 HN 40).run x k) (by kernel_rfl) h))
  (Eh (X:=⟨look tab,Bb [],Yc,Yc,Yc,Yc,[],Ye,0,[]⟩) (Λ:=Bb []) (rs:=[.tmp 2]) (c:=AA Tryz.f157) mixed AG ΓOk_nil Tryz.func157 (by kernel_rfl) (by kernel_rfl) (by kernel_rfl) (by kernel_rfl) DA (λx k r h=>Eq.trans (b:=(HJ 49 HN).run x k) (by kernel_rfl) h))
def Ast:En:=.of Ass
abbrev Ael:={β:Type}->Dr->(Dr->Yb β)->Yb β
def Asu(c:Ael):Spec:=
 ⟨[Gn],[],[AX],[.row 177 EI],λx k=>c x.1.1.1 (λr0=>k (((),()),(r0,())))⟩
def XP:Ael:=λl k=>FM EI 64 l k
theorem Asv:SpecOk Tryz.prog 158 (Asu XP):=
 Ip (et:=177) (e:=EI) (bytes:=64) (by kernel_rfl)
  (Eh (X:=⟨look tab,Bb [],Yc,Yc,Yc,Yc,[],Ye,0,[]⟩) (Λ:=Bb []) (rs:=[.tmp 2]) (c:=AA Tryz.f158) mixed AG ΓOk_nil Tryz.func158 (by kernel_rfl) (by kernel_rfl) (by kernel_rfl) (by kernel_rfl) DA (λx k r h=>Eq.trans (b:=(HI 177 EI 64).run x k) (by kernel_rfl) h))
  (Eh (X:=⟨look tab,Bb [],Yc,Yc,Yc,Yc,[],Ye,0,[]⟩) (Λ:=Bb []) (rs:=[.tmp 2]) (c:=AA Tryz.f158) mixed AG ΓOk_nil Tryz.func158 (by kernel_rfl) (by kernel_rfl) (by kernel_rfl) (by kernel_rfl) DA (λx k r h=>Eq.trans (b:=(HJ 177 EI).run x k) (by kernel_rfl) h))
def Asw:En:=.of Asv
abbrev lT:={β:Type}->IP->Yi->(Ga->Yb β)->Yb β
abbrev Aem(β:Type):=Ga->Yb β
abbrev lU(β:Type):=Yi->IP->Yi->Yi->Ga->Yb β
def Aen:Pc:=⟨25,0,AS 58 (AA Tryz.f160),⟨0,[1,5,8,9,10],[Aa,AX,Lp,Aa,Aa],Ml⟩,[(.exit 0,⟨0,[5],[AX],Ml⟩)]⟩
def lV{β:Type}(rec:lU β)(k1:Aem β):lU β:=λi_ t8 t9 AT out=>Yr (Yf (AT<t9)) (Yr (Yf (0<=AT)&&Yf (AT<(Yg t8:Yi))) (let e:=Yn t8 (Yj AT) (0,(([]:Ya BA),(0,(([]:Ya Ar),(0,(0,(0,Yc)))))));Yr (Yf (e.1=i_)) (let l:=([AT]:Ya Yi);Yr (Yf ((Yg out+Yg l)*8<=Cn)) (let l2:=(out++l);rec i_ t8 t9 (Yh.wrap (AT+(1:Yi))) l2) Ye) (rec i_ t8 t9 (Yh.wrap (AT+(1:Yi))) out)) Ye) (k1 out)
def T1(m:Yk){β:Type}(k1:Aem β):lU β:=K4 (λr=>lV r k1) Ye m
theorem Asx{β:Type}(i:Yk)(k1):T1 (β:=β) (i+1) k1=lV (T1 i k1) k1:=rfl
def lW{β:Type}:=hid (T1 (β:=β) fuel)
def Asy:Pb:=⟨58,Aen,λ_=>lW,pl (p:=Aen) [] [] (g:=λi _=>T1 i)⟩
def Ns:lT:=hid λl i_ k=>lW (λout=>k out) i_ l (Yg l:Yi) 0 ([]:Ya Yi)
def Asz:En:=⟨160,.spec (sg [Lp,Aa] [] [AX] Ml Ns),pf [] [Asy] [.tmp 4] Tryz.func160⟩
def AsA:Shelf.Ren:=
   {
   f:=λx=>
    match x with
    |156=>163
    |165=>266
    |166=>128
    |169=>130
    |240=>234
    |241=>343
    |276=>311
    |277=>412
    |n=>n,
   t:=λx=>
    match x with
    |31=>32
    |9=>9
    |3=>3
    |4=>4
    |0=>0
    |20=>20
    |72=>258
    |76=>262
    |70=>255
    |37=>256
    |75=>261
    |127=>355
    |164=>430
    |5=>5
    |80=>265
    |n=>n,
   g:=λx=>x}
theorem AsB:Go.Proofs.Lays.n156 Tryz.prog AsA:=
 {
  mixed:=by kernel_rfl,
  f156:=Eq.trans Tryz.func163 (Ai Yd (by kernel_rfl)),
  f165:=Eq.trans Tryz.func266 (Ai Yd (by kernel_rfl)),
  f166:=Eq.trans Tryz.func128 (Ai Yd (by kernel_rfl)),
  f169:=Eq.trans Tryz.func130 (Ai Yd (by kernel_rfl)),
  f240:=Eq.trans Tryz.func234 (Ai Yd (by kernel_rfl)),
  f241:=Eq.trans Tryz.func343 (Ai Yd (by kernel_rfl)),
  f276:=Eq.trans Tryz.func311 (Ai Yd (by kernel_rfl)),
  f277:=Eq.trans Tryz.func412 (Ai Yd (by kernel_rfl)),
  t0:=Tryz.underlying0,
  a0:=Tryz.isAgg0,
  z0:=Tryz.sizeOf0,
  v0:=Tryz.zeroValue0,
  t3:=Tryz.underlying3,
  a3:=Tryz.isAgg3,
  z3:=Tryz.sizeOf3,
  v3:=Tryz.zeroValue3,
  t4:=Tryz.underlying4,
  a4:=Tryz.isAgg4,
  z4:=Tryz.sizeOf4,
  v4:=Tryz.zeroValue4,
  t9:=Tryz.underlying9,
  a9:=Tryz.isAgg9,
  z9:=Tryz.sizeOf9,
  v9:=Tryz.zeroValue9,
  t20:=Tryz.underlying20,
  a20:=Tryz.isAgg20,
  z20:=Tryz.sizeOf20,
  v20:=Tryz.zeroValue20,
  t31:=Tryz.underlying32,
  a31:=Tryz.isAgg32,
  z31:=Tryz.sizeOf32,
  v31:=Tryz.zeroValue32,
  t37:=Tryz.underlying256,
  a37:=Tryz.isAgg256,
  z37:=Tryz.sizeOf256,
  v37:=Tryz.zeroValue256,
  t70:=Tryz.underlying255,
  a70:=Tryz.isAgg255,
  z70:=Tryz.sizeOf255,
  v70:=Tryz.zeroValue255,
  t72:=Tryz.underlying258,
  a72:=Tryz.isAgg258,
  z72:=Tryz.sizeOf258,
  v72:=Tryz.zeroValue258,
  t75:=Tryz.underlying261,
  a75:=Tryz.isAgg261,
  z75:=Tryz.sizeOf261,
  v75:=Tryz.zeroValue261,
  t76:=Tryz.underlying262,
  a76:=Tryz.isAgg262,
  z76:=Tryz.sizeOf262,
  v76:=Tryz.zeroValue262,
  t127:=Tryz.underlying355,
  a127:=Tryz.isAgg355,
  z127:=Tryz.sizeOf355,
  v127:=Tryz.zeroValue355,
  t164:=Tryz.underlying430,
  a164:=Tryz.isAgg430,
  z164:=Tryz.sizeOf430,
  v164:=Tryz.zeroValue430}
def Aeo:BldF:=⟨9,0,3⟩
theorem AsC:BldOk Tryz.prog 163 Aeo:=
 ApA AsB {sizeBuilder:=by kernel_rfl,liesBuilder:=by kernel_rfl,t5:=Tryz.underlying5,a5:=Tryz.isAgg5,z5:=Tryz.sizeOf5,v5:=Tryz.zeroValue5,infoByte:=by kernel_rfl,cellsByte:=by kernel_rfl,sizeByte:=by kernel_rfl,neB5:=by decide} rfl ⟨_,Tryz.func163,by kernel_rfl,by kernel_rfl⟩
def Aep:En:=⟨_,.bld Aeo,AsC⟩
def AsD:Shelf.Ren:=
   {
   f:=λx=>
    match x with
    |190=>173
    |125=>271
    |258=>270
    |128=>354
    |129=>355
    |302=>345
    |303=>346
    |304=>347
    |305=>348
    |306=>349
    |307=>350
    |308=>351
    |309=>352
    |310=>353
    |333=>413
    |329=>414
    |330=>415
    |334=>416
    |335=>417
    |336=>260
    |344=>468
    |n=>n,
   t:=λx=>
    match x with
    |31=>32
    |9=>9
    |3=>3
    |46=>302
    |0=>0
    |51=>467
    |53=>469
    |4=>4
    |183=>461
    |182=>460
    |131=>106
    |5=>5
    |218=>514
    |222=>518
    |228=>563
    |229=>376
    |n=>n,
   g:=λx=>x}
theorem AsE:Go.Proofs.Lays.n190 Tryz.prog AsD:=
 {
  mixed:=by kernel_rfl,
  f125:=Eq.trans Tryz.func271 (Ai Yd (by kernel_rfl)),
  f128:=Eq.trans Tryz.func354 (Ai Yd (by kernel_rfl)),
  f129:=Eq.trans Tryz.func355 (Ai Yd (by kernel_rfl)),
  f190:=Eq.trans Tryz.func173 (Ai Yd (by kernel_rfl)),
  f258:=Eq.trans Tryz.func270 (Ai Yd (by kernel_rfl)),
  f302:=Eq.trans Tryz.func345 (Ai Yd (by kernel_rfl)),
  f303:=Eq.trans Tryz.func346 (Ai Yd (by kernel_rfl)),
  f304:=Eq.trans Tryz.func347 (Ai Yd (by kernel_rfl)),
  f305:=Eq.trans Tryz.func348 (Ai Yd (by kernel_rfl)),
  f306:=Eq.trans Tryz.func349 (Ai Yd (by kernel_rfl)),
  f307:=Eq.trans Tryz.func350 (Ai Yd (by kernel_rfl)),
  f308:=Eq.trans Tryz.func351 (Ai Yd (by kernel_rfl)),
  f309:=Eq.trans Tryz.func352 (Ai Yd (by kernel_rfl)),
  f310:=Eq.trans Tryz.func353 (Ai Yd (by kernel_rfl)),
  f329:=Eq.trans Tryz.func414 (Ai Yd (by kernel_rfl)),
  f330:=Eq.trans Tryz.func415 (Ai Yd (by kernel_rfl)),
  f333:=Eq.trans Tryz.func413 (Ai Yd (by kernel_rfl)),
  f334:=Eq.trans Tryz.func416 (Ai Yd (by kernel_rfl)),
  f335:=Eq.trans Tryz.func417 (Ai Yd (by kernel_rfl)),
  f336:=Eq.trans Tryz.func260 (Ai Yd (by kernel_rfl)),
  f344:=Eq.trans Tryz.func468 (Ai Yd (by kernel_rfl)),
  t0:=Tryz.underlying0,
  a0:=Tryz.isAgg0,
  z0:=Tryz.sizeOf0,
  v0:=Tryz.zeroValue0,
  t3:=Tryz.underlying3,
  a3:=Tryz.isAgg3,
  z3:=Tryz.sizeOf3,
  v3:=Tryz.zeroValue3,
  t4:=Tryz.underlying4,
  a4:=Tryz.isAgg4,
  z4:=Tryz.sizeOf4,
  v4:=Tryz.zeroValue4,
  t5:=Tryz.underlying5,
  a5:=Tryz.isAgg5,
  z5:=Tryz.sizeOf5,
  v5:=Tryz.zeroValue5,
  t9:=Tryz.underlying9,
  a9:=Tryz.isAgg9,
  z9:=Tryz.sizeOf9,
  v9:=Tryz.zeroValue9,
  t31:=Tryz.underlying32,
  a31:=Tryz.isAgg32,
  z31:=Tryz.sizeOf32,
  v31:=Tryz.zeroValue32,
  t46:=Tryz.underlying302,
  a46:=Tryz.isAgg302,
  z46:=Tryz.sizeOf302,
  v46:=Tryz.zeroValue302,
  t51:=Tryz.underlying467,
  a51:=Tryz.isAgg467,
  z51:=Tryz.sizeOf467,
  v51:=Tryz.zeroValue467,
  t53:=Tryz.underlying469,
  a53:=Tryz.isAgg469,
  z53:=Tryz.sizeOf469,
  v53:=Tryz.zeroValue469,
  t131:=Tryz.underlying106,
  a131:=Tryz.isAgg106,
  z131:=Tryz.sizeOf106,
  v131:=Tryz.zeroValue106,
  t182:=Tryz.underlying460,
  a182:=Tryz.isAgg460,
  z182:=Tryz.sizeOf460,
  v182:=Tryz.zeroValue460,
  t183:=Tryz.underlying461,
  a183:=Tryz.isAgg461,
  z183:=Tryz.sizeOf461,
  v183:=Tryz.zeroValue461,
  t218:=Tryz.underlying514,
  a218:=Tryz.isAgg514,
  z218:=Tryz.sizeOf514,
  v218:=Tryz.zeroValue514,
  t222:=Tryz.underlying518,
  a222:=Tryz.isAgg518,
  z222:=Tryz.sizeOf518,
  v222:=Tryz.zeroValue518,
  t228:=Tryz.underlying563,
  a228:=Tryz.isAgg563,
  z228:=Tryz.sizeOf563,
  v228:=Tryz.zeroValue563,
  t229:=Tryz.underlying376,
  a229:=Tryz.isAgg376,
  z229:=Tryz.sizeOf376,
  v229:=Tryz.zeroValue376}
def Aeq:RowF:=Q4 9
theorem AsF:RowOk Tryz.prog 173 Aeq:=
 Apa AsE rfl ⟨_,Tryz.func173,by kernel_rfl,by kernel_rfl⟩
def AsG:En:=⟨_,.rows Aeq,AsF⟩
abbrev AsH:={β:Type}->AW->(Ys->Yb β)->Yb β
def lX:AsH:=hid λm k=>k (!m.2.2.2.2.2)
def AsI:En:=⟨177,.spec (sg [Ti] [] [Ap] [] lX),pf [] [] [.tmp 2] Tryz.func177⟩
def AsJ:En:=au ([]:Ya En) [AL] [] [Ap] [] [.tmp 2] Tryz.func179 (by kernel_rfl)
def AsK:En:=au ([]:Ya En) [AL] [] [Ap] [] [.tmp 2] Tryz.func180 (by kernel_rfl)
def AsL:Shelf.Ren:=
   {
   f:=λx=>
    match x with
    |145=>182
    |220=>277
    |219=>360
    |217=>421
    |225=>422
    |224=>423
    |267=>424
    |266=>470
    |314=>471
    |n=>n,
   t:=λx=>
    match x with
    |9=>9
    |4=>4
    |59=>318
    |3=>3
    |5=>5
    |46=>302
    |146=>569
    |51=>467
    |n=>n,
   g:=λx=>
    match x with
    |1=>2
    |n=>n}
theorem AsM:Go.Proofs.Lays.n145 Tryz.prog AsL:=
 {
  mixed:=by kernel_rfl,
  f145:=Eq.trans Tryz.func182 (Ai Yd (by kernel_rfl)),
  f217:=Eq.trans Tryz.func421 (Ai Yd (by kernel_rfl)),
  f219:=Eq.trans Tryz.func360 (Ai Yd (by kernel_rfl)),
  f220:=Eq.trans Tryz.func277 (Ai Yd (by kernel_rfl)),
  f224:=Eq.trans Tryz.func423 (Ai Yd (by kernel_rfl)),
  f225:=Eq.trans Tryz.func422 (Ai Yd (by kernel_rfl)),
  f266:=Eq.trans Tryz.func470 (Ai Yd (by kernel_rfl)),
  f267:=Eq.trans Tryz.func424 (Ai Yd (by kernel_rfl)),
  f314:=Eq.trans Tryz.func471 (Ai Yd (by kernel_rfl)),
  t3:=Tryz.underlying3,
  a3:=Tryz.isAgg3,
  z3:=Tryz.sizeOf3,
  v3:=Tryz.zeroValue3,
  t4:=Tryz.underlying4,
  a4:=Tryz.isAgg4,
  z4:=Tryz.sizeOf4,
  v4:=Tryz.zeroValue4,
  t5:=Tryz.underlying5,
  a5:=Tryz.isAgg5,
  z5:=Tryz.sizeOf5,
  v5:=Tryz.zeroValue5,
  t9:=Tryz.underlying9,
  a9:=Tryz.isAgg9,
  z9:=Tryz.sizeOf9,
  v9:=Tryz.zeroValue9,
  t46:=Tryz.underlying302,
  a46:=Tryz.isAgg302,
  z46:=Tryz.sizeOf302,
  v46:=Tryz.zeroValue302,
  t51:=Tryz.underlying467,
  a51:=Tryz.isAgg467,
  z51:=Tryz.sizeOf467,
  v51:=Tryz.zeroValue467,
  t59:=Tryz.underlying318,
  a59:=Tryz.isAgg318,
  z59:=Tryz.sizeOf318,
  v59:=Tryz.zeroValue318,
  t146:=Tryz.underlying569,
  a146:=Tryz.isAgg569,
  z146:=Tryz.sizeOf569,
  v146:=Tryz.zeroValue569,
  g1:=by kernel_rfl}
abbrev Aer:=cutT
def AsN(c:Aer):Spec:=cutS c
def Aes:Aer:=λx y k=>cutF x y k
theorem AsO:SpecOk Tryz.prog 182 (AsN Aes):=
 Ape AsM rfl (AC (by kernel_rfl)) (λw0 h0=>Go.Proofs.cell_of_shapedOpen_int (P:=Tryz.prog) (g:=2) (t:=3) (zero:=#[.int .i64 0]) h0 (AC (by kernel_rfl)) (by kernel_rfl) rfl (by kernel_rfl) (by kernel_rfl) Tryz.underlying3) ⟨_,Tryz.func182,by kernel_rfl,by kernel_rfl⟩
def AsP:En:=.of AsO
def lY:Shelf.Ren:=
   {
   f:=λx=>
    match x with
    |157=>183
    |229=>278
    |199=>279
    |261=>361
    |311=>425
    |312=>426
    |n=>n,
   t:=λx=>
    match x with
    |9=>9
    |31=>32
    |3=>3
    |5=>5
    |4=>4
    |119=>393
    |0=>0
    |40=>395
    |152=>475
    |21=>21
    |154=>477
    |51=>467
    |141=>479
    |196=>524
    |193=>521
    |198=>527
    |49=>525
    |194=>522
    |201=>530
    |226=>571
    |46=>302
    |227=>572
    |n=>n,
   g:=λx=>
    match x with
    |0=>0
    |6=>1
    |n=>n}
theorem Aet:Go.Proofs.Lays.n157 Tryz.prog lY:=
 {
  mixed:=by kernel_rfl,
  f157:=Eq.trans Tryz.func183 (Ai Yd (by kernel_rfl)),
  f199:=Eq.trans Tryz.func279 (Ai Yd (by kernel_rfl)),
  f229:=Eq.trans Tryz.func278 (Ai Yd (by kernel_rfl)),
  f261:=Eq.trans Tryz.func361 (Ai Yd (by kernel_rfl)),
  f311:=Eq.trans Tryz.func425 (Ai Yd (by kernel_rfl)),
  f312:=Eq.trans Tryz.func426 (Ai Yd (by kernel_rfl)),
  t0:=Tryz.underlying0,
  a0:=Tryz.isAgg0,
  z0:=Tryz.sizeOf0,
  v0:=Tryz.zeroValue0,
  t3:=Tryz.underlying3,
  a3:=Tryz.isAgg3,
  z3:=Tryz.sizeOf3,
  v3:=Tryz.zeroValue3,
  t4:=Tryz.underlying4,
  a4:=Tryz.isAgg4,
  z4:=Tryz.sizeOf4,
  v4:=Tryz.zeroValue4,
  t5:=Tryz.underlying5,
  a5:=Tryz.isAgg5,
  z5:=Tryz.sizeOf5,
  v5:=Tryz.zeroValue5,
  t9:=Tryz.underlying9,
  a9:=Tryz.isAgg9,
  z9:=Tryz.sizeOf9,
  v9:=Tryz.zeroValue9,
  t21:=Tryz.underlying21,
  a21:=Tryz.isAgg21,
  z21:=Tryz.sizeOf21,
  v21:=Tryz.zeroValue21,
  t31:=Tryz.underlying32,
  a31:=Tryz.isAgg32,
  z31:=Tryz.sizeOf32,
  v31:=Tryz.zeroValue32,
  t40:=Tryz.underlying395,
  a40:=Tryz.isAgg395,
  z40:=Tryz.sizeOf395,
  v40:=Tryz.zeroValue395,
  t46:=Tryz.underlying302,
  a46:=Tryz.isAgg302,
  z46:=Tryz.sizeOf302,
  v46:=Tryz.zeroValue302,
  t49:=Tryz.underlying525,
  a49:=Tryz.isAgg525,
  z49:=Tryz.sizeOf525,
  v49:=Tryz.zeroValue525,
  t51:=Tryz.underlying467,
  a51:=Tryz.isAgg467,
  z51:=Tryz.sizeOf467,
  v51:=Tryz.zeroValue467,
  t119:=Tryz.underlying393,
  a119:=Tryz.isAgg393,
  z119:=Tryz.sizeOf393,
  t141:=Tryz.underlying479,
  a141:=Tryz.isAgg479,
  z141:=Tryz.sizeOf479,
  v141:=Tryz.zeroValue479,
  t152:=Tryz.underlying475,
  a152:=Tryz.isAgg475,
  z152:=Tryz.sizeOf475,
  v152:=Tryz.zeroValue475,
  t154:=Tryz.underlying477,
  a154:=Tryz.isAgg477,
  z154:=Tryz.sizeOf477,
  v154:=Tryz.zeroValue477,
  t193:=Tryz.underlying521,
  a193:=Tryz.isAgg521,
  z193:=Tryz.sizeOf521,
  v193:=Tryz.zeroValue521,
  t194:=Tryz.underlying522,
  a194:=Tryz.isAgg522,
  z194:=Tryz.sizeOf522,
  v194:=Tryz.zeroValue522,
  t196:=Tryz.underlying524,
  a196:=Tryz.isAgg524,
  z196:=Tryz.sizeOf524,
  v196:=Tryz.zeroValue524,
  t198:=Tryz.underlying527,
  a198:=Tryz.isAgg527,
  z198:=Tryz.sizeOf527,
  v198:=Tryz.zeroValue527,
  t201:=Tryz.underlying530,
  a201:=Tryz.isAgg530,
  z201:=Tryz.sizeOf530,
  v201:=Tryz.zeroValue530,
  t226:=Tryz.underlying571,
  a226:=Tryz.isAgg571,
  z226:=Tryz.sizeOf571,
  v226:=Tryz.zeroValue571,
  t227:=Tryz.underlying572,
  a227:=Tryz.isAgg572,
  z227:=Tryz.sizeOf572,
  v227:=Tryz.zeroValue572,
  g0:=by kernel_rfl,
  g6:=by kernel_rfl}
abbrev Aeu:=jH
def AsQ(c:Aeu):Spec:=Acf 9 c
def lZ:Aeu:=λx k=>jI x k
theorem AsR:SpecOk Tryz.prog 183 (AsQ lZ):=
 Apm Aet rfl rfl (by kernel_rfl) (by kernel_rfl) (by kernel_rfl) (by kernel_rfl) ⟨_,Tryz.func183,by kernel_rfl,by kernel_rfl⟩
def Aev:En:=.of AsR
def Aew:En:=.hand (Fe mixed (X:=⟨look tab,gam ([]:Ya En),Yc,Yc,Yc,Yc,DU,Ye,100000,[]⟩) AG ([]:Ya En) rfl (ps:=[AF,EV]) (is:=Fi) (rs:=[Aa]) (os:=Fi) [.tmp 4] Tryz.func187 (by kernel_rfl)) rfl (by kernel_rfl)
def Aex:En:=.hand (Fe mixed (X:=⟨look tab,gam ([]:Ya En),Yc,Yc,Yc,Yc,DU,Ye,100000,[]⟩) AG ([]:Ya En) rfl (ps:=[AF,EV]) (is:=Fi) (rs:=[Aa]) (os:=Fi) [.tmp 4] Tryz.func193 (by kernel_rfl)) rfl (by kernel_rfl)
def Aey:En:=au ([]:Ya En) [Aa] [] [IT] [] [.cell 2 220] Tryz.func222 (by kernel_rfl)
def QD:En:=au ([]:Ya En) [Aa] [] [IT] [] [.cell 2 220] Tryz.func223 (by kernel_rfl)
def XQ:En:=au [HU] [Aa] [] [IT] [] [.cell 2 220] Tryz.func224 (by kernel_rfl)
def QE:En:=au ([]:Ya En) [Aa] [] [IT] [] [.cell 2 220] Tryz.func225 (by kernel_rfl)
def XR:En:=.handf (Fe mixed (X:=⟨look tab,gam [HU],Yc,Yc,Yc,Yc,Lq,Ye,100000,[]⟩) AG [HU] rfl (ps:=[AF,Aa]) (is:=GZ) (rs:=[IT]) (os:=GZ) [.cell 4 220] Tryz.func226 (by kernel_rfl)) rfl (by kernel_rfl)
abbrev AsS:={β:Type}->Yi->(Ya Is)->(Ya K1)->(Ya Kw)->(Ya Mg)->(Ya HQ)->(GW->(Ya Is)->(Ya K1)->(Ya Kw)->(Ya Mg)->(Ya HQ)->Yb β)->Yb β
def AGh:AsS:=ET ⟨look tab,gam [HU],Yc,Yc,Yc,Yc,Lq,Ye,100000,[]⟩ Tryz.f231 [AF,Aa] GZ [IT] GZ [.cell 4 220]
def XS:En:=.handf (FN mixed (X:=⟨look tab,gam [HU],Yc,Yc,Yc,Yc,Lq,Ye,100000,[]⟩) AG [HU] rfl (ps:=[AF,Aa]) (is:=GZ) (rs:=[IT]) (os:=GZ) [.cell 4 220] Tryz.func231 (by kernel_rfl)) rfl (by kernel_rfl)
def Aez:En:=.inl mixed (X:=⟨look tab,gam [XS],Yc,Yc,Yc,Yc,[],Ye,13,[]⟩) (rs:=[.tmp 4]) AG [XS] rfl 13 Tryz.func229 (by kernel_rfl)
def AeA:En:=au ([]:Ya En) [Aa] [] [IT] [] [.cell 2 220] Tryz.func230 (by kernel_rfl)
def AeB:En:=au ([]:Ya En) [Aa] [] [IT] [] [.cell 2 220] Tryz.func232 (by kernel_rfl)
def AeC:En:=au ([]:Ya En) [K3] [] [Aa] [] [.tmp 2] Tryz.func236 (by kernel_rfl)
def AsT:En:=au ([]:Ya En) [O1] [] [Aa] [] [.tmp 2] Tryz.func237 (by kernel_rfl)
def XT:En:=au ([]:Ya En) [Oz] [] [AX] O3 [.tmp 2] Tryz.func242 (by kernel_rfl)
def AeD:En:=au ([]:Ya En) [Jq,Aa] [] [Aa] [] [.tmp 4] Tryz.func247 (by kernel_rfl)
abbrev AeE:={β:Type}->GB->(GB->Yb β)->Yb β
def AsU(c:AeE):Spec:=
 ⟨[IQ],[],[AX],JW,λx k=>c x.1.1.1 (λr0=>k (((),()),(r0,())))⟩
def AsV:AeE:=λl k=>FM (.prod (.int .i64) (.int .i64)) 16 l k
theorem AsW:SpecOk Tryz.prog 249 (AsU AsV):=
 Ip (et:=284) (e:=(.prod (.int .i64) (.int .i64))) (bytes:=16) (by kernel_rfl)
  (Eh (X:=⟨look tab,Bb [],Yc,Yc,Yc,Yc,[],Ye,0,[]⟩) (Λ:=Bb []) (rs:=[.tmp 2]) (c:=AA Tryz.f249) mixed AG ΓOk_nil Tryz.func249 (by kernel_rfl) (by kernel_rfl) (by kernel_rfl) (by kernel_rfl) DA (λx k r h=>Eq.trans (b:=(HI 284 (.prod (.int .i64) (.int .i64)) 16).run x k) (by kernel_rfl) h))
  (Eh (X:=⟨look tab,Bb [],Yc,Yc,Yc,Yc,[],Ye,0,[]⟩) (Λ:=Bb []) (rs:=[.tmp 2]) (c:=AA Tryz.f249) mixed AG ΓOk_nil Tryz.func249 (by kernel_rfl) (by kernel_rfl) (by kernel_rfl) (by kernel_rfl) DA (λx k r h=>Eq.trans (b:=(HJ 284 (.prod (.int .i64) (.int .i64))).run x k) (by kernel_rfl) h))
def AsX:En:=.of AsW
def m5:En:=au ([]:Ya En) [O1] [] [Ap] [] [.tmp 2] Tryz.func250 (by kernel_rfl)
def AsY:Shelf.Ren:=
   {
   f:=λx=>
    match x with
    |189=>254
    |125=>271
    |257=>336
    |128=>354
    |129=>355
    |294=>400
    |295=>401
    |296=>402
    |297=>403
    |298=>404
    |299=>405
    |216=>324
    |300=>406
    |301=>407
    |328=>455
    |329=>414
    |330=>415
    |331=>456
    |332=>457
    |215=>387
    |343=>483
    |n=>n,
   t:=λx=>
    match x with
    |28=>22
    |3=>3
    |46=>302
    |0=>0
    |51=>467
    |53=>469
    |4=>4
    |183=>461
    |182=>460
    |131=>106
    |5=>5
    |9=>9
    |218=>514
    |222=>518
    |228=>563
    |229=>376
    |n=>n,
   g:=λx=>x}
theorem AeF:Go.Proofs.Lays.n189 Tryz.prog AsY:=
 {
  mixed:=by kernel_rfl,
  f125:=Eq.trans Tryz.func271 (Ai Yd (by kernel_rfl)),
  f128:=Eq.trans Tryz.func354 (Ai Yd (by kernel_rfl)),
  f129:=Eq.trans Tryz.func355 (Ai Yd (by kernel_rfl)),
  f189:=Eq.trans Tryz.func254 (Ai Yd (by kernel_rfl)),
  f215:=Eq.trans Tryz.func387 (Ai Yd (by kernel_rfl)),
  f216:=Eq.trans Tryz.func324 (Ai Yd (by kernel_rfl)),
  f257:=Eq.trans Tryz.func336 (Ai Yd (by kernel_rfl)),
  f294:=Eq.trans Tryz.func400 (Ai Yd (by kernel_rfl)),
  f295:=Eq.trans Tryz.func401 (Ai Yd (by kernel_rfl)),
  f296:=Eq.trans Tryz.func402 (Ai Yd (by kernel_rfl)),
  f297:=Eq.trans Tryz.func403 (Ai Yd (by kernel_rfl)),
  f298:=Eq.trans Tryz.func404 (Ai Yd (by kernel_rfl)),
  f299:=Eq.trans Tryz.func405 (Ai Yd (by kernel_rfl)),
  f300:=Eq.trans Tryz.func406 (Ai Yd (by kernel_rfl)),
  f301:=Eq.trans Tryz.func407 (Ai Yd (by kernel_rfl)),
  f328:=Eq.trans Tryz.func455 (Ai Yd (by kernel_rfl)),
  f329:=Eq.trans Tryz.func414 (Ai Yd (by kernel_rfl)),
  f330:=Eq.trans Tryz.func415 (Ai Yd (by kernel_rfl)),
  f331:=Eq.trans Tryz.func456 (Ai Yd (by kernel_rfl)),
  f332:=Eq.trans Tryz.func457 (Ai Yd (by kernel_rfl)),
  f343:=Eq.trans Tryz.func483 (Ai Yd (by kernel_rfl)),
  t0:=Tryz.underlying0,
  a0:=Tryz.isAgg0,
  z0:=Tryz.sizeOf0,
  v0:=Tryz.zeroValue0,
  t3:=Tryz.underlying3,
  a3:=Tryz.isAgg3,
  z3:=Tryz.sizeOf3,
  v3:=Tryz.zeroValue3,
  t4:=Tryz.underlying4,
  a4:=Tryz.isAgg4,
  z4:=Tryz.sizeOf4,
  v4:=Tryz.zeroValue4,
  t5:=Tryz.underlying5,
  a5:=Tryz.isAgg5,
  z5:=Tryz.sizeOf5,
  v5:=Tryz.zeroValue5,
  t9:=Tryz.underlying9,
  a9:=Tryz.isAgg9,
  z9:=Tryz.sizeOf9,
  v9:=Tryz.zeroValue9,
  t28:=Tryz.underlying22,
  a28:=Tryz.isAgg22,
  z28:=Tryz.sizeOf22,
  v28:=Tryz.zeroValue22,
  t46:=Tryz.underlying302,
  a46:=Tryz.isAgg302,
  z46:=Tryz.sizeOf302,
  v46:=Tryz.zeroValue302,
  t51:=Tryz.underlying467,
  a51:=Tryz.isAgg467,
  z51:=Tryz.sizeOf467,
  v51:=Tryz.zeroValue467,
  t53:=Tryz.underlying469,
  a53:=Tryz.isAgg469,
  z53:=Tryz.sizeOf469,
  v53:=Tryz.zeroValue469,
  t131:=Tryz.underlying106,
  a131:=Tryz.isAgg106,
  z131:=Tryz.sizeOf106,
  v131:=Tryz.zeroValue106,
  t182:=Tryz.underlying460,
  a182:=Tryz.isAgg460,
  z182:=Tryz.sizeOf460,
  v182:=Tryz.zeroValue460,
  t183:=Tryz.underlying461,
  a183:=Tryz.isAgg461,
  z183:=Tryz.sizeOf461,
  v183:=Tryz.zeroValue461,
  t218:=Tryz.underlying514,
  a218:=Tryz.isAgg514,
  z218:=Tryz.sizeOf514,
  v218:=Tryz.zeroValue514,
  t222:=Tryz.underlying518,
  a222:=Tryz.isAgg518,
  z222:=Tryz.sizeOf518,
  v222:=Tryz.zeroValue518,
  t228:=Tryz.underlying563,
  a228:=Tryz.isAgg563,
  z228:=Tryz.sizeOf563,
  v228:=Tryz.zeroValue563,
  t229:=Tryz.underlying376,
  a229:=Tryz.isAgg376,
  z229:=Tryz.sizeOf376,
  v229:=Tryz.zeroValue376}
def AeG:RowF:=Q3 3
theorem AsZ:RowOk Tryz.prog 254 AeG:=
 Ap8 AeF rfl ⟨_,Tryz.func254,by kernel_rfl,by kernel_rfl⟩
def At0:En:=⟨_,.rows AeG,AsZ⟩
abbrev At1:={β:Type}->Ar->(Ys->Yb β)->Yb β
def T2:At1:=hid λx k=>k (!Yf (x=x))
def At2:En:=⟨260,.spec (sg [AL] [] [Ap] [] T2),pf [] [] [.tmp 2] Tryz.func260⟩
def At3:Shelf.Ren:=
   {
   f:=λx=>
    match x with
    |167=>265
    |240=>234
    |276=>311
    |n=>n,
   t:=λx=>
    match x with
    |70=>255
    |9=>9
    |0=>0
    |72=>258
    |37=>256
    |127=>355
    |3=>3
    |5=>5
    |80=>265
    |4=>4
    |164=>430
    |20=>20
    |75=>261
    |n=>n,
   g:=λx=>x}
theorem At4:Go.Proofs.Lays.n167 Tryz.prog At3:=
 {
  mixed:=by kernel_rfl,
  f167:=Eq.trans Tryz.func265 (Ai Yd (by kernel_rfl)),
  f240:=Eq.trans Tryz.func234 (Ai Yd (by kernel_rfl)),
  f276:=Eq.trans Tryz.func311 (Ai Yd (by kernel_rfl)),
  t0:=Tryz.underlying0,
  a0:=Tryz.isAgg0,
  z0:=Tryz.sizeOf0,
  v0:=Tryz.zeroValue0,
  t4:=Tryz.underlying4,
  a4:=Tryz.isAgg4,
  z4:=Tryz.sizeOf4,
  v4:=Tryz.zeroValue4,
  t5:=Tryz.underlying5,
  a5:=Tryz.isAgg5,
  z5:=Tryz.sizeOf5,
  v5:=Tryz.zeroValue5,
  t9:=Tryz.underlying9,
  a9:=Tryz.isAgg9,
  z9:=Tryz.sizeOf9,
  v9:=Tryz.zeroValue9,
  t20:=Tryz.underlying20,
  a20:=Tryz.isAgg20,
  z20:=Tryz.sizeOf20,
  v20:=Tryz.zeroValue20,
  t37:=Tryz.underlying256,
  a37:=Tryz.isAgg256,
  z37:=Tryz.sizeOf256,
  v37:=Tryz.zeroValue256,
  t70:=Tryz.underlying255,
  a70:=Tryz.isAgg255,
  z70:=Tryz.sizeOf255,
  v70:=Tryz.zeroValue255,
  t72:=Tryz.underlying258,
  a72:=Tryz.isAgg258,
  z72:=Tryz.sizeOf258,
  v72:=Tryz.zeroValue258,
  t75:=Tryz.underlying261,
  a75:=Tryz.isAgg261,
  z75:=Tryz.sizeOf261,
  v75:=Tryz.zeroValue261,
  t164:=Tryz.underlying430,
  a164:=Tryz.isAgg430,
  z164:=Tryz.sizeOf430,
  v164:=Tryz.zeroValue430}
def AeH:BldF:=⟨258,5,4⟩
theorem At5:BldOk Tryz.prog 265 AeH:=
 Apx At4 {sizeBuilder:=by kernel_rfl,liesBuilder:=by kernel_rfl,t5:=Tryz.underlying5,a5:=Tryz.isAgg5,z5:=Tryz.sizeOf5,v5:=Tryz.zeroValue5,infoByte:=by kernel_rfl,cellsByte:=by kernel_rfl,sizeByte:=by kernel_rfl,neB5:=by decide} rfl rfl rfl ⟨_,Tryz.func265,by kernel_rfl,by kernel_rfl⟩
def m6:En:=⟨_,.bld AeH,At5⟩
abbrev At6:={β:Type}->BF->Ar->(Yi->Yb β)->Yb β
abbrev AeI(β:Type):=Yi->Yb β
abbrev AeJ(β:Type):=Unit->Yb β
abbrev m7(β:Type):=BF->Ar->Yi->Yi->Yb β
def AeK:Pc:=⟨19,0,AS 26 (AA Tryz.f267),⟨0,[0,1,7,8],[IR,AL,Aa,Aa],[]⟩,[(.ret,⟨0,[4],[Aa],[]⟩),(.exit 0,⟨0,[],[],[]⟩)]⟩
def m8{β:Type}(rec:m7 β)(k1:AeI β)(k2:AeJ β):m7 β:=λs v t7 t8=>Yr (Yf (t8<t7)) (Yr (Yf (0<=t8)&&Yf (t8<(Yg s:Yi))) (let e:=Yn s (Yj t8) ([]:Ya Yl);Yr (Yf (v=e)) (k1 t8) (rec s v t7 (Yh.wrap (t8+(1:Yi))))) Ye) (k2 ())
def T3(m:Yk){β:Type}(k1:AeI β)(k2:AeJ β):m7 β:=Gp (λr=>m8 r k1 k2) Ye m
theorem At7{β:Type}(i:Yk)(k1 k2):T3 (β:=β) (i+1) k1 k2=m8 (T3 i k1 k2) k1 k2:=rfl
def m9{β:Type}:=hid (T3 (β:=β) fuel)
def At8:Pb:=⟨26,AeK,λ_=>m9,pl (p:=AeK) [] [] (g:=λi _=>T3 i)⟩
def XU:At6:=hid λs v k=>m9 (λt4=>k t4) (λ_=>k (-1)) s v (Yg s:Yi) 0
def QF:En:=⟨267,.spec (sg [IR,AL] [] [Aa] [] XU),pf [] [At8] [.tmp 4] Tryz.func267⟩
abbrev At9:={β:Type}->Nj->Ar->(Ys->Ar->Yb β)->Yb β
def Ata:At9:=hid λf t1 k=>k (Yf (f.1=t1)) t1
def mA:En:=⟨282,.spec (sg [(Yo,[.data Mh]),AF] [Mi] [Ap] [Mi] Ata),pf [] [] [.tmp 3] Tryz.func282⟩
abbrev Atb:={β:Type}->GW->Ar->(Ys->Yb β)->Yb β
def mB:Atb:=hid λt s k=>Yr (Yf (t.1=(0:Yi))) (k (Yf (t.2.1=s))) (k Yc)
def Atc:En:=⟨283,.spec (sg [IT,AL] [] [Ap] [] mB),pf [] [] [.tmp 4] Tryz.func283⟩
def AeL:En:=.inl mixed (X:=⟨look tab,gam ([]:Ya En),Yc,Yc,Yc,Yc,DU,Ye,0,[]⟩) (rs:=[.tmp 2]) AG ([]:Ya En) rfl 0 Tryz.func287 (by kernel_rfl)
def AeM:En:=.inl mixed (X:=⟨look tab,gam ([]:Ya En),Yc,Yc,Yc,Yc,DU,Ye,0,[]⟩) (rs:=[.tmp 2]) AG ([]:Ya En) rfl 0 Tryz.func288 (by kernel_rfl)
abbrev Atd:={β:Type}->Is->(Ar->Yb β)->Yb β
def Ate:Atd:=ET ⟨look tab,gam ([]:Ya En),Yc,Yc,Yc,Yc,DU,Ye,100000,[]⟩ Tryz.f370 [Mk] [] [AL] [] [.tmp 2]
def AeN:En:=⟨370,.spec (sg [Mk] [] [AL] [] Ate),(FN mixed (X:=⟨look tab,gam ([]:Ya En),Yc,Yc,Yc,Yc,DU,Ye,100000,[]⟩) AG ([]:Ya En) rfl [.tmp 2] Tryz.func370 (by kernel_rfl)).spec⟩
def mC:En:=.inl mixed (X:=⟨look tab,gam [AeN],Yc,Yc,Yc,Yc,[],Ye,0,[]⟩) (rs:=[.tmp 4]) AG [AeN] rfl 1 Tryz.func431 (by kernel_rfl)
abbrev Atf:={β:Type}->(Ya Is)->Ar->(Yi->Ar->Yb β)->Yb β
def Atg:Atf:=ET ⟨look tab,gam [mC],Yc,Yc,Yc,Yc,[],Ye,100000,[]⟩ Tryz.f430 [Th,(Yc,[.fn 431 [0,1]])] X0 [Aa] X0 [.tmp 4]
def AeO:En:=⟨430,.spec (sg [Th,(Yc,[.fn 431 [0,1]])] X0 [Aa] X0 Atg),(FN mixed (X:=⟨look tab,gam [mC],Yc,Yc,Yc,Yc,[],Ye,100000,[]⟩) AG [mC] rfl [.tmp 4] Tryz.func430 (by kernel_rfl)).spec⟩
def AeP:En:=.inl mixed (X:=⟨look tab,gam [AeO],Yc,Yc,Yc,Yc,[],Ye,0,[]⟩) (rs:=[.tmp 6,.tmp 7]) AG [AeO] rfl 2 Tryz.func369 (by kernel_rfl)
def QG:En:=.inl mixed (X:=⟨look tab,gam [AeP],Yc,Yc,Yc,Yc,DU,Ye,0,[]⟩) (rs:=[.tmp 4,.tmp 5]) AG [AeP] rfl 2 Tryz.func289 (by kernel_rfl)
def JZ:En:=au ([]:Ya En) [Ap] [] [Aa] [] [.tmp 2] Tryz.func290 (by kernel_rfl)
def AeQ:En:=.inl mixed (X:=⟨look tab,gam ([]:Ya En),Yc,Yc,Yc,Yc,DU,Ye,0,[]⟩) (rs:=[.tmp 2]) AG ([]:Ya En) rfl 0 Tryz.func292 (by kernel_rfl)
def AeR:En:=.inl mixed (X:=⟨look tab,gam ([]:Ya En),Yc,Yc,Yc,Yc,DU,Ye,0,[]⟩) (rs:=[.tmp 2]) AG ([]:Ya En) rfl 0 Tryz.func293 (by kernel_rfl)
def AeS:En:=.inl mixed (X:=⟨look tab,gam ([]:Ya En),Yc,Yc,Yc,Yc,DU,Ye,0,[]⟩) (rs:=[.tmp 2]) AG ([]:Ya En) rfl 0 Tryz.func294 (by kernel_rfl)
def AeT:En:=.inl mixed (X:=⟨look tab,gam ([]:Ya En),Yc,Yc,Yc,Yc,DU,Ye,0,[]⟩) (rs:=[.tmp 2]) AG ([]:Ya En) rfl 0 Tryz.func295 (by kernel_rfl)
def QH:En:=.inl mixed (X:=⟨look tab,gam ([]:Ya En),Yc,Yc,Yc,Yc,DU,Ye,0,[]⟩) (rs:=[.tmp 2]) AG ([]:Ya En) rfl 0 Tryz.func296 (by kernel_rfl)
def XV:En:=.inl mixed (X:=⟨look tab,gam ([]:Ya En),Yc,Yc,Yc,Yc,DU,Ye,0,[]⟩) (rs:=[.tmp 2]) AG ([]:Ya En) rfl 0 Tryz.func297 (by kernel_rfl)
def AeU:En:=.inl mixed (X:=⟨look tab,gam ([]:Ya En),Yc,Yc,Yc,Yc,DU,Ye,0,[]⟩) (rs:=[.tmp 2]) AG ([]:Ya En) rfl 0 Tryz.func371 (by kernel_rfl)
def QI:En:=.inl mixed (X:=⟨look tab,gam [AeU,QH],Yc,Yc,Yc,Yc,DU,Ye,0,[]⟩) (rs:=[.tmp 2]) AG [AeU,QH] rfl 0 Tryz.func298 (by kernel_rfl)
def QJ:En:=.inl mixed (X:=⟨look tab,gam ([]:Ya En),Yc,Yc,Yc,Yc,DU,Ye,0,[]⟩) (rs:=[.tmp 2]) AG ([]:Ya En) rfl 0 Tryz.func299 (by kernel_rfl)
abbrev Ath:={β:Type}->Kw->(Ar->Yb β)->Yb β
def Ati:Ath:=ET ⟨look tab,gam ([]:Ya En),Yc,Yc,Yc,Yc,DU,Ye,100000,[]⟩ Tryz.f375 [Q6] [] [AL] [] [.tmp 2]
def AeV:En:=⟨375,.spec (sg [Q6] [] [AL] [] Ati),(FN mixed (X:=⟨look tab,gam ([]:Ya En),Yc,Yc,Yc,Yc,DU,Ye,100000,[]⟩) AG ([]:Ya En) rfl [.tmp 2] Tryz.func375 (by kernel_rfl)).spec⟩
def mD:En:=.inl mixed (X:=⟨look tab,gam [AeV],Yc,Yc,Yc,Yc,[],Ye,0,[]⟩) (rs:=[.tmp 4]) AG [AeV] rfl 1 Tryz.func435 (by kernel_rfl)
abbrev Atj:={β:Type}->(Ya Kw)->Ar->(Yi->Ar->Yb β)->Yb β
def Atk:Atj:=ET ⟨look tab,gam [mD],Yc,Yc,Yc,Yc,[],Ye,100000,[]⟩ Tryz.f434 [Xv,(Yc,[.fn 435 [0,1]])] Xz [Aa] Xz [.tmp 4]
def AeW:En:=⟨434,.spec (sg [Xv,(Yc,[.fn 435 [0,1]])] Xz [Aa] Xz Atk),(FN mixed (X:=⟨look tab,gam [mD],Yc,Yc,Yc,Yc,[],Ye,100000,[]⟩) AG [mD] rfl [.tmp 4] Tryz.func434 (by kernel_rfl)).spec⟩
def AeX:En:=.inl mixed (X:=⟨look tab,gam [AeW],Yc,Yc,Yc,Yc,[],Ye,0,[]⟩) (rs:=[.tmp 6,.tmp 7]) AG [AeW] rfl 2 Tryz.func374 (by kernel_rfl)
def AeY:En:=.inl mixed (X:=⟨look tab,gam [AeX],Yc,Yc,Yc,Yc,DU,Ye,0,[]⟩) (rs:=[.tmp 4,.tmp 5]) AG [AeX] rfl 2 Tryz.func301 (by kernel_rfl)
def mE:En:=au ([]:Ya En) [Aa,AF,BJ] [Ds,Ds] [Ap] [Ds,Ds] [.tmp 4] Tryz.func314 (by kernel_rfl)
def Atl:Shelf.Ren:=
   {
   f:=λx=>
    match x with
    |20=>315
    |n=>n,
   t:=λx=>
    match x with
    |22=>22
    |3=>3
    |4=>4
    |0=>0
    |n=>n,
   g:=λx=>x}
theorem Atm:Go.Proofs.Lays2.n20 Tryz.prog Atl:=
 {
  mixed:=by kernel_rfl,
  f20:=Eq.trans Tryz.func315 (Ai Yd (by kernel_rfl)),
  t0:=Tryz.underlying0,
  a0:=Tryz.isAgg0,
  z0:=Tryz.sizeOf0,
  v0:=Tryz.zeroValue0,
  t3:=Tryz.underlying3,
  a3:=Tryz.isAgg3,
  z3:=Tryz.sizeOf3,
  v3:=Tryz.zeroValue3,
  t4:=Tryz.underlying4,
  a4:=Tryz.isAgg4,
  z4:=Tryz.sizeOf4,
  v4:=Tryz.zeroValue4,
  t22:=Tryz.underlying22,
  a22:=Tryz.isAgg22,
  z22:=Tryz.sizeOf22,
  v22:=Tryz.zeroValue22,
  i3:=by kernel_rfl}
def AeZ:RowF:=Ac5 3
theorem Atn:RowOk Tryz.prog 315 AeZ:=
 Ap9 Atm rfl ⟨_,Tryz.func315,by kernel_rfl,by kernel_rfl⟩
def Ato:En:=⟨_,.rows AeZ,Atn⟩
def XW:En:=.inl mixed (X:=⟨look tab,gam ([]:Ya En),Yc,Yc,Yc,Yc,[],Ye,0,[]⟩) (rs:=[.tmp 2]) AG ([]:Ya En) rfl 1 Tryz.func316 (by kernel_rfl)
def Af0:En:=au ([]:Ya En) [Oz,IQ] [] [AX] O3 [.tmp 4] Tryz.func317 (by kernel_rfl)
def XX:En:=au ([]:Ya En) [IQ,IQ] [] [AX] JW [.tmp 4] Tryz.func320 (by kernel_rfl)
def Atp:En:=au ([]:Ya En) [Aa] [] [Ap] [] [.tmp 2] Tryz.func325 (by kernel_rfl)
def Atq:En:=au ([]:Ya En) [Te,Aa] [] [Ap] [] [.tmp 4] Tryz.func326 (by kernel_rfl)
def Atr:En:=au ([]:Ya En) [Aa,AF,BJ] [Xt,Ds] [Ap] [Xt,Ds] [.tmp 4] Tryz.func332 (by kernel_rfl)
abbrev Ats:={β:Type}->BA->(Ys->Yb β)->Yb β
def O7:Ats:=hid λm k=>JY m.1 (λrkey=>Yr rkey (Yr (Yf ((0:Yi)<=m.2.1)) (Yr (Yf (m.2.1<=(3:Yi))) (Fj m.2.2 (λrvalue=>k rvalue)) (k Yc)) (k Yc)) (k Yc))
def Af1:En:=⟨340,.spec (sg [Q7] [] [Ap] [] O7),pf [lM,Ae6] [] [.tmp 2] Tryz.func340⟩
abbrev Att:={β:Type}->Ar->(Ys->Yb β)->Yb β
def mF:Att:=hid λs k=>JY s (λrkey=>k rkey)
def Atu:En:=⟨341,.spec (sg [AL] [] [Ap] [] mF),pf [lM] [] [.tmp 2] Tryz.func341⟩
def Atv:Shelf.Ren:=
   {
   f:=λx=>
    match x with
    |144=>363
    |143=>276
    |219=>360
    |217=>421
    |225=>422
    |224=>423
    |267=>424
    |266=>470
    |314=>471
    |n=>n,
   t:=λx=>
    match x with
    |9=>9
    |4=>4
    |3=>3
    |5=>5
    |46=>302
    |146=>569
    |51=>467
    |n=>n,
   g:=λx=>
    match x with
    |1=>2
    |n=>n}
theorem Atw:Go.Proofs.Lays.n144 Tryz.prog Atv:=
 {
  mixed:=by kernel_rfl,
  f143:=Eq.trans Tryz.func276 (Ai Yd (by kernel_rfl)),
  f144:=Eq.trans Tryz.func363 (Ai Yd (by kernel_rfl)),
  f217:=Eq.trans Tryz.func421 (Ai Yd (by kernel_rfl)),
  f219:=Eq.trans Tryz.func360 (Ai Yd (by kernel_rfl)),
  f224:=Eq.trans Tryz.func423 (Ai Yd (by kernel_rfl)),
  f225:=Eq.trans Tryz.func422 (Ai Yd (by kernel_rfl)),
  f266:=Eq.trans Tryz.func470 (Ai Yd (by kernel_rfl)),
  f267:=Eq.trans Tryz.func424 (Ai Yd (by kernel_rfl)),
  f314:=Eq.trans Tryz.func471 (Ai Yd (by kernel_rfl)),
  t3:=Tryz.underlying3,
  a3:=Tryz.isAgg3,
  z3:=Tryz.sizeOf3,
  v3:=Tryz.zeroValue3,
  t4:=Tryz.underlying4,
  a4:=Tryz.isAgg4,
  z4:=Tryz.sizeOf4,
  v4:=Tryz.zeroValue4,
  t5:=Tryz.underlying5,
  a5:=Tryz.isAgg5,
  z5:=Tryz.sizeOf5,
  v5:=Tryz.zeroValue5,
  t9:=Tryz.underlying9,
  a9:=Tryz.isAgg9,
  z9:=Tryz.sizeOf9,
  v9:=Tryz.zeroValue9,
  t46:=Tryz.underlying302,
  a46:=Tryz.isAgg302,
  z46:=Tryz.sizeOf302,
  v46:=Tryz.zeroValue302,
  t51:=Tryz.underlying467,
  a51:=Tryz.isAgg467,
  z51:=Tryz.sizeOf467,
  v51:=Tryz.zeroValue467,
  t146:=Tryz.underlying569,
  a146:=Tryz.isAgg569,
  z146:=Tryz.sizeOf569,
  v146:=Tryz.zeroValue569,
  g1:=by kernel_rfl}
abbrev Af2:=jB
def Atx(c:Af2):Spec:=Aca c
def XY:Af2:=λx y k=>jC x y k
theorem Aty:SpecOk Tryz.prog 363 (Atx XY):=
 Api Atw rfl (AC (by kernel_rfl)) (λw0 h0=>Go.Proofs.cell_of_shapedOpen_int (P:=Tryz.prog) (g:=2) (t:=3) (zero:=#[.int .i64 0]) h0 (AC (by kernel_rfl)) (by kernel_rfl) rfl (by kernel_rfl) (by kernel_rfl) Tryz.underlying3) ⟨_,Tryz.func363,by kernel_rfl,by kernel_rfl⟩
def Atz:En:=.of Aty
abbrev AtA:={β:Type}->Ar->Ar->(Yi->Ys->Yb β)->Yb β
def XZ:AtA:=hid λwords word k=>lZ words (λcO=>XU cO word (λcV=>let t:=(Yh.wrap (cV+1));let t2:=(Yf ((0:Yi)<=cV));k t t2))
def mG:En:=⟨368,.spec (sg [AL,AL] [] [Aa,Ap] [] XZ),pf [QF,Aev] [] [.tmp 4,.tmp 5] Tryz.func368⟩
abbrev AtB:={β:Type}->K1->(Ar->Yb β)->Yb β
def AtC:AtB:=ET ⟨look tab,gam ([]:Ya En),Yc,Yc,Yc,Yc,[],Ye,100000,[]⟩ Tryz.f373 [(Yo,[.data HO])] [] [AL] [] [.tmp 2]
def Af3:En:=⟨373,.spec (sg [(Yo,[.data HO])] [] [AL] [] AtC),(FN mixed (X:=⟨look tab,gam ([]:Ya En),Yc,Yc,Yc,Yc,[],Ye,100000,[]⟩) AG ([]:Ya En) rfl [.tmp 2] Tryz.func373 (by kernel_rfl)).spec⟩
def mH:En:=.inl mixed (X:=⟨look tab,gam [Af3],Yc,Yc,Yc,Yc,[],Ye,0,[]⟩) (rs:=[.tmp 4]) AG [Af3] rfl 1 Tryz.func433 (by kernel_rfl)
abbrev AtD:={β:Type}->(Ya K1)->Ar->(Yi->Ar->Yb β)->Yb β
def AtE:AtD:=ET ⟨look tab,gam [mH],Yc,Yc,Yc,Yc,[],Ye,100000,[]⟩ Tryz.f432 [(Yc,[.data (.slice HO)]),(Yc,[.fn 433 [0,1]])] Xy [Aa] Xy [.tmp 4]
def Af4:En:=⟨432,.spec (sg [(Yc,[.data (.slice HO)]),(Yc,[.fn 433 [0,1]])] Xy [Aa] Xy AtE),(FN mixed (X:=⟨look tab,gam [mH],Yc,Yc,Yc,Yc,[],Ye,100000,[]⟩) AG [mH] rfl [.tmp 4] Tryz.func432 (by kernel_rfl)).spec⟩
def AtF:En:=.inl mixed (X:=⟨look tab,gam [Af4],Yc,Yc,Yc,Yc,[],Ye,0,[]⟩) (rs:=[.tmp 6,.tmp 7]) AG [Af4] rfl 2 Tryz.func372 (by kernel_rfl)
def AtG:Shelf.Ren:=
   {
   f:=λx=>
    match x with
    |171=>379
    |243=>438
    |246=>474
    |283=>492
    |284=>493
    |285=>494
    |286=>495
    |129=>355
    |317=>505
    |318=>506
    |319=>507
    |320=>508
    |337=>516
    |338=>517
    |n=>n,
   t:=λx=>
    match x with
    |3=>3
    |9=>9
    |2=>2
    |4=>4
    |171=>587
    |0=>0
    |53=>469
    |37=>256
    |5=>5
    |173=>589
    |212=>601
    |51=>467
    |20=>20
    |213=>602
    |46=>302
    |232=>610
    |233=>611
    |n=>n,
   g:=λx=>
    match x with
    |17=>7
    |18=>8
    |19=>9
    |n=>n}
theorem AtH:Go.Proofs.LaysM.n171 Tryz.prog AtG:=
 {
  mixed:=by kernel_rfl,
  f129:=Eq.trans Tryz.func355 (Ai Yd (by kernel_rfl)),
  f171:=Eq.trans Tryz.func379 (Ai Yd (by kernel_rfl)),
  f243:=Eq.trans Tryz.func438 (Ai Yd (by kernel_rfl)),
  f246:=Eq.trans Tryz.func474 (Ai Yd (by kernel_rfl)),
  f283:=Eq.trans Tryz.func492 (Ai Yd (by kernel_rfl)),
  f284:=Eq.trans Tryz.func493 (Ai Yd (by kernel_rfl)),
  f285:=Eq.trans Tryz.func494 (Ai Yd (by kernel_rfl)),
  f286:=Eq.trans Tryz.func495 (Ai Yd (by kernel_rfl)),
  f317:=Eq.trans Tryz.func505 (Ai Yd (by kernel_rfl)),
  f318:=Eq.trans Tryz.func506 (Ai Yd (by kernel_rfl)),
  f319:=Eq.trans Tryz.func507 (Ai Yd (by kernel_rfl)),
  f320:=Eq.trans Tryz.func508 (Ai Yd (by kernel_rfl)),
  f337:=Eq.trans Tryz.func516 (Ai Yd (by kernel_rfl)),
  f338:=Eq.trans Tryz.func517 (Ai Yd (by kernel_rfl)),
  t0:=Tryz.underlying0,
  a0:=Tryz.isAgg0,
  z0:=Tryz.sizeOf0,
  v0:=Tryz.zeroValue0,
  t2:=Tryz.underlying2,
  a2:=Tryz.isAgg2,
  z2:=Tryz.sizeOf2,
  v2:=Tryz.zeroValue2,
  t3:=Tryz.underlying3,
  a3:=Tryz.isAgg3,
  z3:=Tryz.sizeOf3,
  v3:=Tryz.zeroValue3,
  t4:=Tryz.underlying4,
  a4:=Tryz.isAgg4,
  z4:=Tryz.sizeOf4,
  v4:=Tryz.zeroValue4,
  t5:=Tryz.underlying5,
  a5:=Tryz.isAgg5,
  z5:=Tryz.sizeOf5,
  v5:=Tryz.zeroValue5,
  t9:=Tryz.underlying9,
  a9:=Tryz.isAgg9,
  z9:=Tryz.sizeOf9,
  v9:=Tryz.zeroValue9,
  t20:=Tryz.underlying20,
  a20:=Tryz.isAgg20,
  z20:=Tryz.sizeOf20,
  v20:=Tryz.zeroValue20,
  t37:=Tryz.underlying256,
  a37:=Tryz.isAgg256,
  z37:=Tryz.sizeOf256,
  v37:=Tryz.zeroValue256,
  t46:=Tryz.underlying302,
  a46:=Tryz.isAgg302,
  z46:=Tryz.sizeOf302,
  v46:=Tryz.zeroValue302,
  t51:=Tryz.underlying467,
  a51:=Tryz.isAgg467,
  z51:=Tryz.sizeOf467,
  v51:=Tryz.zeroValue467,
  t53:=Tryz.underlying469,
  a53:=Tryz.isAgg469,
  z53:=Tryz.sizeOf469,
  v53:=Tryz.zeroValue469,
  t171:=Tryz.underlying587,
  a171:=Tryz.isAgg587,
  z171:=Tryz.sizeOf587,
  v171:=Tryz.zeroValue587,
  t173:=Tryz.underlying589,
  a173:=Tryz.isAgg589,
  z173:=Tryz.sizeOf589,
  v173:=Tryz.zeroValue589,
  t212:=Tryz.underlying601,
  a212:=Tryz.isAgg601,
  z212:=Tryz.sizeOf601,
  v212:=Tryz.zeroValue601,
  t213:=Tryz.underlying602,
  a213:=Tryz.isAgg602,
  z213:=Tryz.sizeOf602,
  t232:=Tryz.underlying610,
  a232:=Tryz.isAgg610,
  z232:=Tryz.sizeOf610,
  v232:=Tryz.zeroValue610,
  t233:=Tryz.underlying611,
  a233:=Tryz.isAgg611,
  z233:=Tryz.sizeOf611,
  v233:=Tryz.zeroValue611,
  g17:=by kernel_rfl,
  g18:=by kernel_rfl,
  g19:=by kernel_rfl,
  i0:=by kernel_rfl,
  i2:=by kernel_rfl,
  i3:=by kernel_rfl,
  i4:=by kernel_rfl,
  i5:=by kernel_rfl,
  i9:=by kernel_rfl,
  i20:=by kernel_rfl,
  i37:=by kernel_rfl,
  i46:=by kernel_rfl,
  i51:=by kernel_rfl,
  i53:=by kernel_rfl,
  i171:=by kernel_rfl,
  i173:=by kernel_rfl,
  i212:=by kernel_rfl,
  i232:=by kernel_rfl,
  i233:=by kernel_rfl,
  m17:=by kernel_rfl,
  m18:=by kernel_rfl,
  m19:=by kernel_rfl}
abbrev Af5:=iX
def AtI(c:Af5):Spec:=Ac8 c
def mI:Af5:=λx k=>iY x k
theorem AtJ:SpecOk Tryz.prog 379 (AtI mI):=
 Apg AtH rfl (g:=7) (by kernel_rfl) ⟨_,Tryz.func379,by kernel_rfl,by kernel_rfl⟩
def Af6:En:=.of AtJ
def AtK:En:=au ([]:Ya En) [Aa] [] [Ap] [] [.tmp 2] Tryz.func387 (by kernel_rfl)
def AtL:En:=au ([]:Ya En) [Te,AF,BJ] [Ds,Ds] [Ap] [Ds,Ds] [.tmp 4] Tryz.func410 (by kernel_rfl)
def AtM:Shelf.Ren:=
   {
   f:=λx=>
    match x with
    |172=>429
    |244=>472
    |245=>473
    |247=>487
    |279=>488
    |280=>489
    |281=>490
    |282=>491
    |287=>502
    |316=>503
    |171=>379
    |205=>504
    |321=>514
    |322=>515
    |243=>438
    |246=>474
    |283=>492
    |284=>493
    |285=>494
    |286=>495
    |129=>355
    |317=>505
    |318=>506
    |319=>507
    |320=>508
    |337=>516
    |338=>517
    |n=>n,
   t:=λx=>
    match x with
    |9=>9
    |3=>3
    |75=>261
    |76=>262
    |4=>4
    |5=>5
    |167=>581
    |37=>256
    |0=>0
    |85=>582
    |2=>2
    |168=>584
    |53=>469
    |175=>595
    |46=>302
    |210=>598
    |127=>355
    |145=>609
    |143=>607
    |21=>21
    |171=>587
    |173=>589
    |212=>601
    |51=>467
    |20=>20
    |213=>602
    |232=>610
    |233=>611
    |80=>265
    |n=>n,
   g:=λx=>
    match x with
    |15=>5
    |16=>6
    |17=>7
    |18=>8
    |19=>9
    |n=>n}
theorem AtN:Go.Proofs.LaysC.n172 Tryz.prog AtM:=
 {
  mixed:=by kernel_rfl,
  f129:=Eq.trans Tryz.func355 (Ai Yd (by kernel_rfl)),
  f171:=Eq.trans Tryz.func379 (Ai Yd (by kernel_rfl)),
  f172:=Eq.trans Tryz.func429 (Ai Yd (by kernel_rfl)),
  f205:=Eq.trans Tryz.func504 (Ai Yd (by kernel_rfl)),
  f243:=Eq.trans Tryz.func438 (Ai Yd (by kernel_rfl)),
  f244:=Eq.trans Tryz.func472 (Ai Yd (by kernel_rfl)),
  f245:=Eq.trans Tryz.func473 (Ai Yd (by kernel_rfl)),
  f246:=Eq.trans Tryz.func474 (Ai Yd (by kernel_rfl)),
  f247:=Eq.trans Tryz.func487 (Ai Yd (by kernel_rfl)),
  f279:=Eq.trans Tryz.func488 (Ai Yd (by kernel_rfl)),
  f280:=Eq.trans Tryz.func489 (Ai Yd (by kernel_rfl)),
  f281:=Eq.trans Tryz.func490 (Ai Yd (by kernel_rfl)),
  f282:=Eq.trans Tryz.func491 (Ai Yd (by kernel_rfl)),
  f283:=Eq.trans Tryz.func492 (Ai Yd (by kernel_rfl)),
  f284:=Eq.trans Tryz.func493 (Ai Yd (by kernel_rfl)),
  f285:=Eq.trans Tryz.func494 (Ai Yd (by kernel_rfl)),
  f286:=Eq.trans Tryz.func495 (Ai Yd (by kernel_rfl)),
  f287:=Eq.trans Tryz.func502 (Ai Yd (by kernel_rfl)),
  f316:=Eq.trans Tryz.func503 (Ai Yd (by kernel_rfl)),
  f317:=Eq.trans Tryz.func505 (Ai Yd (by kernel_rfl)),
  f318:=Eq.trans Tryz.func506 (Ai Yd (by kernel_rfl)),
  f319:=Eq.trans Tryz.func507 (Ai Yd (by kernel_rfl)),
  f320:=Eq.trans Tryz.func508 (Ai Yd (by kernel_rfl)),
  f321:=Eq.trans Tryz.func514 (Ai Yd (by kernel_rfl)),
  f322:=Eq.trans Tryz.func515 (Ai Yd (by kernel_rfl)),
  f337:=Eq.trans Tryz.func516 (Ai Yd (by kernel_rfl)),
  f338:=Eq.trans Tryz.func517 (Ai Yd (by kernel_rfl)),
  t0:=Tryz.underlying0,
  a0:=Tryz.isAgg0,
  z0:=Tryz.sizeOf0,
  v0:=Tryz.zeroValue0,
  t2:=Tryz.underlying2,
  a2:=Tryz.isAgg2,
  z2:=Tryz.sizeOf2,
  v2:=Tryz.zeroValue2,
  t3:=Tryz.underlying3,
  a3:=Tryz.isAgg3,
  z3:=Tryz.sizeOf3,
  v3:=Tryz.zeroValue3,
  t4:=Tryz.underlying4,
  a4:=Tryz.isAgg4,
  z4:=Tryz.sizeOf4,
  v4:=Tryz.zeroValue4,
  t5:=Tryz.underlying5,
  a5:=Tryz.isAgg5,
  z5:=Tryz.sizeOf5,
  v5:=Tryz.zeroValue5,
  t9:=Tryz.underlying9,
  a9:=Tryz.isAgg9,
  z9:=Tryz.sizeOf9,
  v9:=Tryz.zeroValue9,
  t20:=Tryz.underlying20,
  a20:=Tryz.isAgg20,
  z20:=Tryz.sizeOf20,
  v20:=Tryz.zeroValue20,
  t21:=Tryz.underlying21,
  a21:=Tryz.isAgg21,
  z21:=Tryz.sizeOf21,
  v21:=Tryz.zeroValue21,
  t37:=Tryz.underlying256,
  a37:=Tryz.isAgg256,
  z37:=Tryz.sizeOf256,
  v37:=Tryz.zeroValue256,
  t46:=Tryz.underlying302,
  a46:=Tryz.isAgg302,
  z46:=Tryz.sizeOf302,
  v46:=Tryz.zeroValue302,
  t51:=Tryz.underlying467,
  a51:=Tryz.isAgg467,
  z51:=Tryz.sizeOf467,
  v51:=Tryz.zeroValue467,
  t53:=Tryz.underlying469,
  a53:=Tryz.isAgg469,
  z53:=Tryz.sizeOf469,
  v53:=Tryz.zeroValue469,
  t75:=Tryz.underlying261,
  a75:=Tryz.isAgg261,
  z75:=Tryz.sizeOf261,
  v75:=Tryz.zeroValue261,
  t76:=Tryz.underlying262,
  a76:=Tryz.isAgg262,
  z76:=Tryz.sizeOf262,
  v76:=Tryz.zeroValue262,
  t85:=Tryz.underlying582,
  a85:=Tryz.isAgg582,
  z85:=Tryz.sizeOf582,
  v85:=Tryz.zeroValue582,
  t127:=Tryz.underlying355,
  a127:=Tryz.isAgg355,
  z127:=Tryz.sizeOf355,
  v127:=Tryz.zeroValue355,
  t143:=Tryz.underlying607,
  a143:=Tryz.isAgg607,
  z143:=Tryz.sizeOf607,
  v143:=Tryz.zeroValue607,
  t145:=Tryz.underlying609,
  a145:=Tryz.isAgg609,
  z145:=Tryz.sizeOf609,
  v145:=Tryz.zeroValue609,
  t167:=Tryz.underlying581,
  a167:=Tryz.isAgg581,
  z167:=Tryz.sizeOf581,
  v167:=Tryz.zeroValue581,
  t168:=Tryz.underlying584,
  a168:=Tryz.isAgg584,
  z168:=Tryz.sizeOf584,
  v168:=Tryz.zeroValue584,
  t171:=Tryz.underlying587,
  a171:=Tryz.isAgg587,
  z171:=Tryz.sizeOf587,
  v171:=Tryz.zeroValue587,
  t173:=Tryz.underlying589,
  a173:=Tryz.isAgg589,
  z173:=Tryz.sizeOf589,
  v173:=Tryz.zeroValue589,
  t175:=Tryz.underlying595,
  a175:=Tryz.isAgg595,
  z175:=Tryz.sizeOf595,
  v175:=Tryz.zeroValue595,
  t210:=Tryz.underlying598,
  a210:=Tryz.isAgg598,
  z210:=Tryz.sizeOf598,
  v210:=Tryz.zeroValue598,
  t212:=Tryz.underlying601,
  a212:=Tryz.isAgg601,
  z212:=Tryz.sizeOf601,
  v212:=Tryz.zeroValue601,
  t213:=Tryz.underlying602,
  a213:=Tryz.isAgg602,
  z213:=Tryz.sizeOf602,
  t232:=Tryz.underlying610,
  a232:=Tryz.isAgg610,
  z232:=Tryz.sizeOf610,
  v232:=Tryz.zeroValue610,
  t233:=Tryz.underlying611,
  a233:=Tryz.isAgg611,
  z233:=Tryz.sizeOf611,
  v233:=Tryz.zeroValue611,
  g15:=by kernel_rfl,
  g16:=by kernel_rfl,
  g17:=by kernel_rfl,
  g18:=by kernel_rfl,
  g19:=by kernel_rfl,
  t80:=Tryz.underlying265,
  a80:=Tryz.isAgg265,
  z80:=Tryz.sizeOf265,
  v80:=Tryz.zeroValue265,
  i0:=by kernel_rfl,
  i2:=by kernel_rfl,
  i3:=by kernel_rfl,
  i4:=by kernel_rfl,
  i5:=by kernel_rfl,
  i9:=by kernel_rfl,
  i20:=by kernel_rfl,
  i21:=by kernel_rfl,
  i37:=by kernel_rfl,
  i46:=by kernel_rfl,
  i51:=by kernel_rfl,
  i53:=by kernel_rfl,
  i75:=by kernel_rfl,
  i76:=by kernel_rfl,
  i80:=by kernel_rfl,
  i85:=by kernel_rfl,
  i127:=by kernel_rfl,
  i143:=by kernel_rfl,
  i145:=by kernel_rfl,
  i167:=by kernel_rfl,
  i168:=by kernel_rfl,
  i171:=by kernel_rfl,
  i173:=by kernel_rfl,
  i175:=by kernel_rfl,
  i210:=by kernel_rfl,
  i212:=by kernel_rfl,
  i232:=by kernel_rfl,
  i233:=by kernel_rfl,
  m15:=by kernel_rfl,
  m16:=by kernel_rfl,
  m17:=by kernel_rfl,
  m18:=by kernel_rfl,
  m19:=by kernel_rfl,
  c0:=by kernel_rfl,
  c2:=by kernel_rfl,
  c3:=by kernel_rfl,
  c4:=by kernel_rfl,
  c5:=by kernel_rfl,
  c9:=by kernel_rfl,
  c20:=by kernel_rfl,
  c21:=by kernel_rfl,
  c37:=by kernel_rfl,
  c46:=by kernel_rfl,
  c51:=by kernel_rfl,
  c53:=by kernel_rfl,
  c75:=by kernel_rfl,
  c76:=by kernel_rfl,
  c80:=by kernel_rfl,
  c85:=by kernel_rfl,
  c127:=by kernel_rfl,
  c143:=by kernel_rfl,
  c145:=by kernel_rfl,
  c167:=by kernel_rfl,
  c168:=by kernel_rfl,
  c171:=by kernel_rfl,
  c173:=by kernel_rfl,
  c175:=by kernel_rfl,
  c210:=by kernel_rfl,
  c212:=by kernel_rfl,
  c213:=by kernel_rfl,
  c232:=by kernel_rfl,
  c233:=by kernel_rfl}
abbrev Af7:=iZ
def AtO(c:Af7):Spec:=Ac9 c
def Af8:Af7:=λx k=>jA x k
theorem AtP:SpecOk Tryz.prog 429 (AtO Af8):=
 Aph AtN rfl (by kernel_rfl) (by kernel_rfl) ⟨_,Tryz.func429,by kernel_rfl,by kernel_rfl⟩
def AtQ:En:=.of AtP
def AtR:En:=au ([]:Ya En) [IQ,Aa] [] [Ap] [] [.tmp 4] Tryz.func458 (by kernel_rfl)
def AtS:En:=au [XC] [O1] [] [Aa] [] [.tmp 2] Tryz.func459 (by kernel_rfl)
def AtT:En:=au ([]:Ya En) [AL,(Yc,[.data (.int .u8)])] [] [AL] [] [.tmp 4] Tryz.func461 (by kernel_rfl)
def AtU:En:=au ([]:Ya En) [AL,(Yc,[.data (.int .u8)])] [] [AL] [] [.tmp 4] Tryz.func462 (by kernel_rfl)
def AtV:En:=.stub 463 ⟨_,Tryz.func463,by kernel_rfl,by kernel_rfl⟩
def AtW:Shelf.Ren:=
   {
   f:=λx=>
    match x with
    |105=>475
    |212=>496
    |99=>497
    |165=>266
    |166=>128
    |170=>129
    |169=>130
    |263=>509
    |264=>510
    |206=>511
    |240=>234
    |241=>343
    |276=>311
    |277=>412
    |n=>n,
   t:=λx=>
    match x with
    |9=>9
    |3=>3
    |4=>4
    |20=>20
    |0=>0
    |46=>302
    |109=>591
    |5=>5
    |72=>258
    |76=>262
    |51=>467
    |146=>569
    |53=>469
    |148=>604
    |70=>255
    |37=>256
    |75=>261
    |127=>355
    |164=>430
    |80=>265
    |n=>n,
   g:=λx=>x}
theorem AtX:Go.Proofs.Lays.n105 Tryz.prog AtW:=
 {
  mixed:=by kernel_rfl,
  f99:=Eq.trans Tryz.func497 (Ai Yd (by kernel_rfl)),
  f105:=Eq.trans Tryz.func475 (Ai Yd (by kernel_rfl)),
  f165:=Eq.trans Tryz.func266 (Ai Yd (by kernel_rfl)),
  f166:=Eq.trans Tryz.func128 (Ai Yd (by kernel_rfl)),
  f169:=Eq.trans Tryz.func130 (Ai Yd (by kernel_rfl)),
  f170:=Eq.trans Tryz.func129 (Ai Yd (by kernel_rfl)),
  f206:=Eq.trans Tryz.func511 (Ai Yd (by kernel_rfl)),
  f212:=Eq.trans Tryz.func496 (Ai Yd (by kernel_rfl)),
  f240:=Eq.trans Tryz.func234 (Ai Yd (by kernel_rfl)),
  f241:=Eq.trans Tryz.func343 (Ai Yd (by kernel_rfl)),
  f263:=Eq.trans Tryz.func509 (Ai Yd (by kernel_rfl)),
  f264:=Eq.trans Tryz.func510 (Ai Yd (by kernel_rfl)),
  f276:=Eq.trans Tryz.func311 (Ai Yd (by kernel_rfl)),
  f277:=Eq.trans Tryz.func412 (Ai Yd (by kernel_rfl)),
  t0:=Tryz.underlying0,
  a0:=Tryz.isAgg0,
  z0:=Tryz.sizeOf0,
  v0:=Tryz.zeroValue0,
  t3:=Tryz.underlying3,
  a3:=Tryz.isAgg3,
  z3:=Tryz.sizeOf3,
  v3:=Tryz.zeroValue3,
  t4:=Tryz.underlying4,
  a4:=Tryz.isAgg4,
  z4:=Tryz.sizeOf4,
  v4:=Tryz.zeroValue4,
  t5:=Tryz.underlying5,
  a5:=Tryz.isAgg5,
  z5:=Tryz.sizeOf5,
  v5:=Tryz.zeroValue5,
  t9:=Tryz.underlying9,
  a9:=Tryz.isAgg9,
  z9:=Tryz.sizeOf9,
  v9:=Tryz.zeroValue9,
  t20:=Tryz.underlying20,
  a20:=Tryz.isAgg20,
  z20:=Tryz.sizeOf20,
  v20:=Tryz.zeroValue20,
  t37:=Tryz.underlying256,
  a37:=Tryz.isAgg256,
  z37:=Tryz.sizeOf256,
  v37:=Tryz.zeroValue256,
  t46:=Tryz.underlying302,
  a46:=Tryz.isAgg302,
  z46:=Tryz.sizeOf302,
  v46:=Tryz.zeroValue302,
  t51:=Tryz.underlying467,
  a51:=Tryz.isAgg467,
  z51:=Tryz.sizeOf467,
  v51:=Tryz.zeroValue467,
  t53:=Tryz.underlying469,
  a53:=Tryz.isAgg469,
  z53:=Tryz.sizeOf469,
  v53:=Tryz.zeroValue469,
  t70:=Tryz.underlying255,
  a70:=Tryz.isAgg255,
  z70:=Tryz.sizeOf255,
  v70:=Tryz.zeroValue255,
  t72:=Tryz.underlying258,
  a72:=Tryz.isAgg258,
  z72:=Tryz.sizeOf258,
  v72:=Tryz.zeroValue258,
  t75:=Tryz.underlying261,
  a75:=Tryz.isAgg261,
  z75:=Tryz.sizeOf261,
  v75:=Tryz.zeroValue261,
  t76:=Tryz.underlying262,
  a76:=Tryz.isAgg262,
  z76:=Tryz.sizeOf262,
  v76:=Tryz.zeroValue262,
  t109:=Tryz.underlying591,
  a109:=Tryz.isAgg591,
  z109:=Tryz.sizeOf591,
  v109:=Tryz.zeroValue591,
  t127:=Tryz.underlying355,
  a127:=Tryz.isAgg355,
  z127:=Tryz.sizeOf355,
  v127:=Tryz.zeroValue355,
  t146:=Tryz.underlying569,
  a146:=Tryz.isAgg569,
  z146:=Tryz.sizeOf569,
  v146:=Tryz.zeroValue569,
  t148:=Tryz.underlying604,
  a148:=Tryz.isAgg604,
  z148:=Tryz.sizeOf604,
  v148:=Tryz.zeroValue604,
  t164:=Tryz.underlying430,
  a164:=Tryz.isAgg430,
  z164:=Tryz.sizeOf430,
  v164:=Tryz.zeroValue430}
abbrev Af9:=jF
def AtY(c:Af9):Spec:=Ace c
def Afa:Af9:=λx y k=>jG x y k
theorem AtZ:SpecOk Tryz.prog 475 (AtY Afa):=
 Apk AtX {sizeBuilder:=by kernel_rfl,liesBuilder:=by kernel_rfl,t5:=Tryz.underlying5,a5:=Tryz.isAgg5,z5:=Tryz.sizeOf5,v5:=Tryz.zeroValue5,infoByte:=by kernel_rfl,cellsByte:=by kernel_rfl,sizeByte:=by kernel_rfl,neB5:=by decide} rfl ⟨_,Tryz.func475,by kernel_rfl,by kernel_rfl⟩
def Au0:En:=.of AtZ
def Au1:En:=au ([]:Ya En) [Aa] [] [O1] [] [.cell 2 250] Tryz.func476 (by kernel_rfl)
abbrev Au2:={β:Type}->Ga->CU->(Yi->CU->Yb β)->Yb β
def O8:Au2:=hid λl d k=>Hr (Yg l:Yi) d (λFE GH=>Yr (Yf (0<=FE)&&Yf (FE<(Yg l:Yi))) (let e:=Yn l (Yj FE) 0;k e GH) Ye)
def Afb:En:=⟨11,.spec (sg [AF,Jr] [DC] [Aa] [DC] O8),pf [Np] [] [.tmp 4] Tryz.func11⟩
abbrev Au3:={β:Type}->CU->(CU->BQ->Yb β)->Yb β
def Afc:Ya En:=[Np]
abbrev mJ(β:Type):=CU->BQ->Yb β
abbrev mK(β:Type):=(Ya Yl×(Ya Yl×Al))->Yi->CU->BQ->Yb β
def Afd:Pc:=⟨26,1,AS 58 (AA Tryz.f12),⟨1,[0,3,7,8],[AF,EK,(Yo,[.data (.prod .str (.prod .str Ei))]),Aa],[DC,.row 37 Ei]⟩,[(.exit 0,⟨1,[3],[EK],[DC,.row 37 Ei]⟩)]⟩
def Za{β:Type}(rec:mK β)(k1:mJ β):mK β:=λt7 t8 d out=>Yr (Yf (t8<(4:Yi))) (Yr (Yf (0<=t8)&&Yf (t8<(Yg ([t7.1,t7.2.1,t7.2.2.1,t7.2.2.2]:Ya Ar):Yi))) (let e:=Yn ([t7.1,t7.2.1,t7.2.2.1,t7.2.2.2]:Ya Ar) (Yj t8) ([]:Ya Yl);let l:=([([]:Ya Yl),([97]:Ya Yl),([98]:Ya Yl),([99,114,105,116]:Ya Yl),([97,34,98,92]:Ya Yl),([119,101,98,45,49]:Ya Yl)]:Ya Ar);Hr 6 d (λFE GH=>Yr (Yf (0<=FE)&&Yf (FE<(Yg l:Yi))) (let v:=(Yn l (Yj FE) ([]:Ya Yl));Yr (!Yf (v=([]:Ya Yl))) (let l2:=([(e,v)]:Ya Al);Yr (Yf ((Yg out+Yg l2)*32<=Cn)) (let l3:=(out++l2);rec t7 (Yh.wrap (t8+(1:Yi))) GH l3) Ye) (rec t7 (Yh.wrap (t8+(1:Yi))) GH out)) Ye)) Ye) (k1 d out)
def Nt(m:Yk){β:Type}(k1:mJ β):mK β:=Gp (λr=>Za r k1) Ye m
theorem Afe{β:Type}(i:Yk)(k1):Nt (β:=β) (i+1) k1=Za (Nt i k1) k1:=rfl
def mL{β:Type}:=hid (Nt (β:=β) fuel)
def Au4:Pb:=⟨58,Afd,λ_=>mL,pl (p:=Afd) Afc [] (g:=λi _=>Nt i)⟩
def T4:Au3:=hid λd k=>mL (λEL out=>k EL out) (([97,112,112]:Ya Yl),(([104,111,115,116]:Ya Yl),(([115,101,118]:Ya Yl),([116,101,97,109]:Ya Yl)))) 0 d ([]:Ya Al)
def Au5:En:=⟨12,.spec (sg [AF] [DC] [EK] [DC,.row 37 Ei] T4),pf Afc [Au4] [.tmp 2] Tryz.func12⟩
abbrev Au6:={β:Type}->IN->IN->(Ys->Yb β)->Yb β
def Aff:Ya En:=[Aqp]
abbrev mM(β:Type):=Ys->Yb β
abbrev mN(β:Type):=Unit->Yb β
abbrev mO(β:Type):=IN->IN->Yi->Yb β
def Afg:Pc:=⟨27,0,AS 58 (AA Tryz.f19),⟨0,[0,1,5],[Xw,Xw,Aa],[]⟩,[(.ret,⟨0,[4],[Ap],[]⟩),(.exit 0,⟨0,[],[],[]⟩)]⟩
def mP{β:Type}(rec:mO β)(k1:mM β)(k2:mN β):mO β:=λa b i_=>Yr (Yf (i_<(Yg a:Yi))) (Yr (Yf (0<=i_)&&Yf (i_<(Yg a:Yi))) (let e:=Yn a (Yj i_) (0,(0,(0,(([]:Ya Yl),(([]:Ya Ar),([]:Ya Ar))))));Yr (Yf (0<=i_)&&Yf (i_<(Yg b:Yi))) (let e2:=Yn b (Yj i_) (0,(0,(0,(([]:Ya Yl),(([]:Ya Ar),([]:Ya Ar))))));X6 e e2 (λAFF=>Yr (!AFF) (k1 Yc) (let Cl:=(Yh.wrap (i_+1));rec a b Cl))) Ye) Ye) (k2 ())
def T5(m:Yk){β:Type}(k1:mM β)(k2:mN β):mO β:=HT (λr=>mP r k1 k2) Ye m
theorem Au7{β:Type}(i:Yk)(k1 k2):T5 (β:=β) (i+1) k1 k2=mP (T5 i k1 k2) k1 k2:=rfl
def mQ{β:Type}:=hid (T5 (β:=β) fuel)
def Au8:Pb:=⟨58,Afg,λ_=>mQ,pl (p:=Afg) Aff [] (g:=λi _=>T5 i)⟩
def T6:Au6:=hid λa b k=>Yr (!Yf ((Yg a:Yi)=(Yg b:Yi))) (k Yc) (mQ (λt4=>k t4) (λ_=>k Yo) a b 0)
def Au9:En:=⟨19,.spec (sg [Xw,Xw] [] [Ap] [] T6),pf Aff [Au8] [.tmp 4] Tryz.func19⟩
abbrev Aua:={β:Type}->CU->(AU->CU->Yb β)->Yb β
def T7:Aua:=hid λd k=>let l:=([0,30,10,60]:Ya Yi);O8 l d (λcY yD=>let l2:=([20,300,40]:Ya Yi);O8 l2 yD (λAFD AF7=>let interval:=(Yh.wrap (cY+AFD));Hr 3 AF7 (λFE GH=>XJ GH (λAF2 AEU=>let l3:=([0,3600,100]:Ya Yi);O8 l3 AF2 (λAFE AF8=>Q8 2 AF8 (λVD RF=>k ((-1),(([]:Ya BA),(FE,(AEU,(cY,(interval,((Yh.wrap (interval+AFE)),VD))))))) RF))))))
def Aub:En:=⟨26,.spec (sg [AF] [DC] [Nm] [DC] T7),pf [k9,ArR,Np,Afb] [] [.cell 2 35] Tryz.func26⟩
abbrev Auc:={β:Type}->Yi->CU->(CU->It->Yb β)->Yb β
def Afh:Ya En:=[ArT,Np]
abbrev mR(β:Type):=CU->It->Yb β
abbrev mS(β:Type):=Yi->CU->It->Yb β
def Afi:Pc:=⟨21,1,AS 58 (AA Tryz.f27),⟨1,[0,5,6],[AF,EK,Aa],[DC,.row 49 HN]⟩,[(.exit 0,⟨1,[5],[EK],[DC,.row 49 HN]⟩)]⟩
def mT{β:Type}(rec:mS β)(k1:mR β):mS β:=λi_ d out=>Yr (Yf ((0:Yi)<i_)) (XK d (λI6 cQ=>let l:=([I6]:Ya BA);Yr (Yf ((Yg out+Yg l)*40<=Cn)) (let l2:=(out++l);let Cl:=(Yh.wrap (i_-1));rec Cl cQ l2) Ye)) (k1 d out)
def QK(m:Yk){β:Type}(k1:mR β):mS β:=HT (λr=>mT r k1) Ye m
theorem Aud{β:Type}(i:Yk)(k1):QK (β:=β) (i+1) k1=mT (QK i k1) k1:=rfl
def mU{β:Type}:=hid (QK (β:=β) fuel)
def Aue:Pb:=⟨58,Afi,λ_=>mU,pl (p:=Afi) Afh [] (g:=λi _=>QK i)⟩
def Zb:Auc:=hid λn d k=>Hr (Yh.wrap (n+1)) d (λFE GH=>mU (λEL out=>k EL out) FE GH ([]:Ya BA))
def Auf:En:=⟨27,.spec (sg [AF,Aa] [DC] [EK] [DC,.row 49 HN] Zb),pf Afh [Aue] [.tmp 4] Tryz.func27⟩
abbrev Aug:={β:Type}->BQ->(Ys->Yb β)->Yb β
def Afj:Ya En:=[lM,Ae6]
abbrev Afk(β:Type):=Ys->Yb β
abbrev Afl(β:Type):=Unit->Yb β
abbrev mV(β:Type):=BQ->BQ->Yi->Yi->Yb β
def Afm:Pc:=⟨46,0,AS 58 (AA Tryz.f32),⟨0,[0,8,9,10],[C2,C2,Aa,Aa],[]⟩,[(.ret,⟨0,[2],[Ap],[]⟩),(.exit 0,⟨0,[],[],[]⟩)]⟩
def mW{β:Type}(rec:mV β)(k1:Afk β)(k2:Afl β):mV β:=λl t8 t9 AT=>Yr (Yf (AT<t9)) (Yr (Yf (0<=AT)&&Yf (AT<(Yg t8:Yi))) (let e:=Yn t8 (Yj AT) (([]:Ya Yl),([]:Ya Yl));JY e.1 (λrkey=>Yr (!rkey) (k1 Yc) (Fj e.2 (λrvalue=>Yr (!rvalue) (k1 Yc) (Yr (Yf (e.2=([]:Ya Yl))) (k1 Yc) (Yr (Yf ((0:Yi)<AT)) (Yr (Yf (0<=(Yh.wrap (AT-(1:Yi))))&&Yf ((Yh.wrap (AT-(1:Yi)))<(Yg l:Yi))) (let e2:=Yn l (Yj (Yh.wrap (AT-(1:Yi)))) (([]:Ya Yl),([]:Ya Yl));Yr (Yy e.1 e2.1||Yf (e.1=e2.1)) (k1 Yc) (rec l t8 t9 (Yh.wrap (AT+(1:Yi))))) Ye) (rec l t8 t9 (Yh.wrap (AT+(1:Yi)))))))))) Ye) (k2 ())
def T8(m:Yk){β:Type}(k1:Afk β)(k2:Afl β):mV β:=Gp (λr=>mW r k1 k2) Ye m
theorem Auh{β:Type}(i:Yk)(k1 k2):T8 (β:=β) (i+1) k1 k2=mW (T8 i k1 k2) k1 k2:=rfl
def mX{β:Type}:=hid (T8 (β:=β) fuel)
def Aui:Pb:=⟨58,Afm,λ_=>mX,pl (p:=Afm) Afj [] (g:=λi _=>T8 i)⟩
def Mn:Aug:=hid λl k=>Yr (Yf ((12:Yi)<(Yg l:Yi))) (k Yc) (mX (λt2=>k t2) (λ_=>k Yo) l l (Yg l:Yi) 0)
def QL:En:=⟨32,.spec (sg [C2] [] [Ap] [] Mn),pf Afj [Aui] [.tmp 2] Tryz.func32⟩
abbrev Auj:={β:Type}->D0->(D0->Yb β)->Yb β
def Afn:Ya En:=[Ast,Asq]
abbrev mY(β:Type):=D0->Yb β
abbrev mZ(β:Type):=Yi->Yi->D0->Yb β
def Afo:Pc:=⟨24,0,AS 58 (AA Tryz.f71),⟨0,[3,8,9],[AX,Aa,Aa],Tm⟩,[(.exit 0,⟨0,[3],[AX],Tm⟩)]⟩
def n5{β:Type}(rec:mZ β)(k1:mY β):mZ β:=λt8 t9 out=>Yr (Yf (t9<t8)) (Yr (Yf (0<=t9)&&Yf (t9<(Yg out:Yi))) (XO (((((Yn out (Yj t9) (0,(0,(0,(0,([]:Ya BA)))))).2).2).2).2) (λAEW=>Yr (Yf (0<=t9)&&Yf (t9<(Yg out:Yi))) (let l:=(YG out (Yj t9) ((Yn out (Yj t9) (0,(0,(0,(0,([]:Ya BA)))))).1,(((Yn out (Yj t9) (0,(0,(0,(0,([]:Ya BA)))))).2).1,((((Yn out (Yj t9) (0,(0,(0,(0,([]:Ya BA)))))).2).2).1,(((((Yn out (Yj t9) (0,(0,(0,(0,([]:Ya BA)))))).2).2).2).1,AEW)))));rec t8 (Yh.wrap (t9+(1:Yi))) l) Ye)) Ye) (k1 out)
def QM(m:Yk){β:Type}(k1:mY β):mZ β:=HT (λr=>n5 r k1) Ye m
theorem Auk{β:Type}(i:Yk)(k1):QM (β:=β) (i+1) k1=n5 (QM i k1) k1:=rfl
def n7{β:Type}:=hid (QM (β:=β) fuel)
def Aul:Pb:=⟨58,Afo,λ_=>n7,pl (p:=Afo) Afn [] (g:=λi _=>QM i)⟩
def QN:Auj:=hid λl k=>XN l (λAm6=>n7 (λout=>k out) (Yg Am6:Yi) 0 Am6)
def Afp:En:=⟨71,.spec (sg [Nk] [] [AX] Tm QN),pf Afn [Aul] [.tmp 2] Tryz.func71⟩
abbrev Aum:={β:Type}->Ag->(Yi->Ar->Yi->Yi->Dr->Yb β)->Yb β
def Afq:Ya En:=[lP,Asw]
abbrev n8(β:Type):=Yi->Ar->Yi->Yi->Ag->Dr->Yb β
abbrev n9(β:Type):=Yi->Yi->Yi->Ar->Yi->Yi->Ag->Dr->Yb β
def Afr:Pc:=⟨28,0,AS 58 (AA Tryz.f73),⟨0,[1,2,10,11],[AF,BJ,Aa,Aa],[Td,CE,.row 177 EI]⟩,[(.exit 0,⟨0,[1,2],[AF,BJ],[Td,CE,.row 177 EI]⟩)]⟩
def nA{β:Type}(rec:n9 β)(k1:n8 β):n9 β:=λAT Bu g g2 g3 g4 t2 BL=>Yr (Yf (Bu<AT)) (Yr (Yf (0<=Bu)&&Yf (Bu<(Yg BL:Yi))) (Q9 (((Yn BL (Yj Bu) (([]:Ya Yl),(([]:Ya Al),(0,(0,(Yc,Yc)))))).2).1) (λRC=>Yr (Yf (0<=Bu)&&Yf (Bu<(Yg BL:Yi))) (let l:=(YG BL (Yj Bu) ((Yn BL (Yj Bu) (([]:Ya Yl),(([]:Ya Al),(0,(0,(Yc,Yc)))))).1,(RC,(((Yn BL (Yj Bu) (([]:Ya Yl),(([]:Ya Al),(0,(0,(Yc,Yc)))))).2).2))));rec AT (Yh.wrap (Bu+(1:Yi))) g g2 g3 g4 t2 l) Ye)) Ye) (k1 g g2 g3 g4 t2 BL)
def QO(m:Yk){β:Type}(k1:n8 β):n9 β:=jV (λr=>nA r k1) Ye m
theorem Aun{β:Type}(i:Yk)(k1):QO (β:=β) (i+1) k1=nA (QO i k1) k1:=rfl
def nB{β:Type}:=hid (QO (β:=β) fuel)
def Auo:Pb:=⟨58,Afr,λ_=>nB,pl (p:=Afr) Afq [] (g:=λi _=>QO i)⟩
def O9:Aum:=hid λg k=>XP g.2.2.1 (λAm4=>nB (λg2 g3 g4 g5 t2 BL=>k g2 g3 g4 g5 BL) (Yg Am4:Yi) 0 g.1 g.2.1 g.2.2.2.1 g.2.2.2.2 HP Am4)
def Zc:En:=⟨73,.spec (sg [HS] [] [(Yo,[.data (.int .i64),.data .str,.rowh 0,.data (.int .i64),.data (.int .i64)])] [.row 177 EI] O9),pf Afq [Auo] [.cell 2 111] Tryz.func73⟩
abbrev Aup:={β:Type}->BE->((Ya BQ)->Yb β)->Yb β
def T9:Ya En:=[lP,AsG]
abbrev nC(β:Type):=Ox->BF->Yb β
abbrev nD(β:Type):=D4->Yi->Yi->Ox->BF->Yb β
def nE:Pc:=⟨71,0,AS 122 (AA Tryz.f96),⟨0,[3,4,16,17,18],[(Yc,[.maph 0]),EK,K2,Aa,Aa],Tk⟩,[(.exit 0,⟨0,[3,4],[(Yc,[.maph 0]),EK],Tk⟩)]⟩
abbrev nF(β:Type):=(Ya BQ)->Yb β
abbrev nG(β:Type):=Yi->Yi->Ox->(Ya BQ)->BF->Yb β
def Afs:Pc:=⟨71,0,AS 1018 (AA Tryz.f96),⟨0,[3,11,56,57,58],[(Yc,[.maph 0]),EK,(Yc,[.rowh 2]),Aa,Aa],[.map 310 .str (.slice Ei) Yc,.row 38 (.slice Ei),.row 9 .str]⟩,[(.exit 4,⟨0,[11],[AX],[.row 38 (.slice Ei)]⟩)]⟩
abbrev nH(β:Type):=D4->Yi->Yi->Ox->BF->Yb β
abbrev nI(β:Type):=D4->Yi->Yi->Dr->Yi->Yi->Ox->BF->Yb β
def nJ:Pc:=⟨71,0,AS 230 (Gm nE.c),⟨0,[3,4,16,17,18,23,24,25],[(Yc,[.maph 0]),EK,K2,Aa,Aa,Gn,Aa,Aa],Tk⟩,[(.exit 2,⟨0,[3,4,16,17,18],[(Yc,[.maph 0]),EK,K2,Aa,Aa],Tk⟩)]⟩
abbrev Auq(β:Type):=D4->Yi->Yi->Dr->Yi->Yi->Ox->BF->Yb β
abbrev Aur(β:Type):=D4->Yi->Yi->Dr->Yi->Yi->Ys->Ox->BF->AW->Yb β
def Aft:Pc:=⟨71,0,AS 231 (Gm nJ.c),⟨0,[3,4,8,16,17,18,23,24,25,41],[(Yc,[.maph 0]),EK,CX,K2,Aa,Aa,Gn,Aa,Aa,Ap],[.map 310 .str (.slice Ei) Yc,.row 9 .str,.cells 177 [.data EI]]⟩,[(.normal,⟨0,[3,4,16,17,18,23,24,25],[(Yc,[.maph 0]),EK,K2,Aa,Aa,Gn,Aa,Aa],Tk⟩)]⟩
def nK{β:Type}(k1:Auq β):Aur β:=λDm Gh Gx t23 t24 t25 GI all keys m=>Yr GI (let m_:=(mPut .str all m.1 m.2.1);let l:=([m.1]:Ya Ar);Yr (Yf ((Yg keys+Yg l)*16<=Cn)) (let l2:=(keys++l);k1 Dm Gh Gx t23 t24 t25 m_ l2) Ye) (k1 Dm Gh Gx t23 t24 t25 all keys)
def TA{β:Type}:=hid (nK (β:=β))
def Aus:Pb:=⟨231,Aft,λ_=>TA,pe (p:=Aft) T9 [] 231 (g:=λ_=>nK)⟩
def nL{β:Type}(rec:nI β)(k1:nH β):nI β:=λDm Gh Gx t23 t24 t25 all keys=>Yr (Yf (t25<t24)) (Yr (Yf (0<=t25)&&Yf (t25<(Yg t23:Yi))) (let e:=Yn t23 (Yj t25) (([]:Ya Yl),(([]:Ya Al),(0,(0,(Yc,Yc)))));let g:=(mGet .str all e.1 ([]:Ya Al));Yr e.2.2.2.2.1 (TA (λP8 Ig t182 t232 MD VN all2 keys2=>rec P8 Ig t182 t232 MD (Yh.wrap (VN+(1:Yi))) all2 keys2) Dm Gh Gx t23 t24 t25 (!(mHas .str all e.1)) all keys e) (TA (λP8 Ig t182 t232 MD VN all2 keys2=>rec P8 Ig t182 t232 MD (Yh.wrap (VN+(1:Yi))) all2 keys2) Dm Gh Gx t23 t24 t25 Yc all keys e)) Ye) (k1 Dm Gh Gx all keys)
def QP(m:Yk){β:Type}(k1:nH β):nI β:=jV (λr=>nL r k1) Ye m
theorem Aut{β:Type}(i:Yk)(k1):QP (β:=β) (i+1) k1=nL (QP i k1) k1:=rfl
def nM{β:Type}:=hid (QP (β:=β) fuel)
def Auu:Pb:=⟨230,nJ,λ_=>nM,pl (p:=nJ) T9 [Aus] (g:=λi _=>QP i)⟩
def nN{β:Type}(rec:nD β)(k1:nC β):nD β:=λDm Gh Gx all keys=>Yr (Yf (Gx<Gh)) (Yr (Yf (0<=Gx)&&Yf (Gx<(Yg Dm:Yi))) (let e:=Yn Dm (Yj Gx) (0,(([]:Ya Yl),(([]:Ya AW),(0,0))));nM (λP8 Ig t182 all2 keys2=>rec P8 Ig (Yh.wrap (t182+(1:Yi))) all2 keys2) Dm Gh Gx e.2.2.1 (Yg e.2.2.1:Yi) 0 all keys) Ye) (k1 all keys)
def TB(m:Yk){β:Type}(k1:nC β):nD β:=K4 (λr=>nN r k1) Ye m
theorem Auv{β:Type}(i:Yk)(k1):TB (β:=β) (i+1) k1=nN (TB i k1) k1:=rfl
def nO{β:Type}:=hid (TB (β:=β) fuel)
def Auw:Pb:=⟨122,nE,λ_=>nO,pl (p:=nE) T9 [Auu] (g:=λi _=>TB i)⟩
def nQ{β:Type}(rec:nG β)(k1:nF β):nG β:=λRL Ii all out NO=>Yr (Yf (Ii<RL)) (Yr (Yf (0<=Ii)&&Yf (Ii<(Yg NO:Yi))) (let k_:=(Yn NO (Yj Ii) ([]:Ya Yl));let g:=(mGet .str all k_ ([]:Ya Al));Q9 g (λRC=>let l:=([RC]:Ya BQ);Yr (Yf ((Yg out+Yg l)*24<=Cn)) (let l2:=(out++l);rec RL (Yh.wrap (Ii+(1:Yi))) all l2 NO) Ye)) Ye) (k1 out)
def TC(m:Yk){β:Type}(k1:nF β):nG β:=K4 (λr=>nQ r k1) Ye m
theorem Aux{β:Type}(i:Yk)(k1):TC (β:=β) (i+1) k1=nQ (TC i k1) k1:=rfl
def nR{β:Type}:=hid (TC (β:=β) fuel)
def Auy:Pb:=⟨1018,Afs,λ_=>nR,pl (p:=Afs) T9 [] (g:=λi _=>TC i)⟩
def Zd:Aup:=hid λs k=>let m_:=([]:Ya (Ya Yl×Ya Al));nO (λall keys=>Yr (Yf (Yg keys<4611686018427387904)) (let l:=(Kv keys);nR (λout=>k out) (Yg l:Yi) 0 all ([]:Ya BQ) l) Ye) s.2.1 (Yg s.2.1:Yi) 0 m_ ([]:Ya Ar)
theorem Auz:SpecOkB Tryz.prog 96 (sg [IS] [] [AX] [.row 38 (.slice Ei)] Zd):=pfB T9 [Auw,Auy] [.tmp 2] Tryz.func96 (by kernel_rfl) λ_ _=>by kernel_rfl
def AuA:En:=.junk Auz
def nS:En:=au [AsJ,AsK] [C2] [] [Ap] [] [.tmp 2] Tryz.func99 (by kernel_rfl)
def Ka:En:=.handf (Fe mixed (X:=⟨look tab,gam [HU],Yc,Yc,Yc,Yc,Lq,Ye,100000,[]⟩) AG [HU] rfl (ps:=[AF,AL,EV]) (is:=GZ) (rs:=[]) (os:=GZ) [] Tryz.func123 (by kernel_rfl)) rfl (by kernel_rfl)
def Afu:En:=.handf (Fe mixed (X:=⟨look tab,gam [AeB,Ka,XS],Yc,Yc,Yc,Yc,Lq,Ye,100000,[]⟩) AG [AeB,Ka,XS] rfl (ps:=[AF,Te]) (is:=GZ) (rs:=[]) (os:=GZ) [] Tryz.func126 (by kernel_rfl)) rfl (by kernel_rfl)
def AuB:En:=au [Aeh,Ask,Asl] [Aa,AF,BJ] [.cells 136 [.data Xq],Ds] [] [.cells 136 [.data Xq],Ds] [] Tryz.func133 (by kernel_rfl)
def AuC:Shelf.Ren:=
   {
   f:=λx=>
    match x with
    |6=>147
    |8=>253
    |9=>254
    |11=>335
    |13=>271
    |12=>336
    |23=>354
    |24=>355
    |14=>400
    |15=>401
    |16=>402
    |17=>403
    |18=>404
    |19=>405
    |20=>324
    |21=>406
    |22=>407
    |25=>455
    |26=>414
    |27=>415
    |28=>456
    |29=>457
    |30=>387
    |31=>483
    |n=>n,
   t:=λx=>
    match x with
    |26=>3
    |28=>288
    |24=>22
    |0=>0
    |3=>3
    |37=>302
    |48=>467
    |50=>469
    |4=>4
    |40=>461
    |39=>460
    |45=>106
    |5=>5
    |9=>9
    |51=>514
    |55=>518
    |57=>563
    |58=>376
    |33=>58
    |n=>n,
   g:=λx=>x}
theorem AuD:Go.Proofs.SlLaysZI.n6 Tryz.prog AuC:=
 {
  mixed:=by kernel_rfl,
  f6:=Y3 "slices.Sorted[int]" ⟨AC (by kernel_rfl),Eq.trans Tryz.func147 (Ai Yd (by kernel_rfl))⟩,
  f8:=Y3 "slices.Collect[int]" ⟨AC (by kernel_rfl),Eq.trans Tryz.func253 (Ai Yd (by kernel_rfl))⟩,
  f11:=Y3 "slices.AppendSeq[[]int,int]" ⟨AC (by kernel_rfl),Eq.trans Tryz.func335 (Ai Yd (by kernel_rfl))⟩,
  t0:=Tryz.underlying0,
  a0:=Tryz.isAgg0,
  z0:=Tryz.sizeOf0,
  v0:=Tryz.zeroValue0,
  t24:=Tryz.underlying22,
  a24:=Tryz.isAgg22,
  z24:=Tryz.sizeOf22,
  v24:=Tryz.zeroValue22,
  t26:=Tryz.underlying3,
  a26:=Tryz.isAgg3,
  z26:=Tryz.sizeOf3,
  v26:=Tryz.zeroValue3,
  t28:=Tryz.underlying288,
  a28:=Tryz.isAgg288,
  z28:=Tryz.sizeOf288,
  v28:=Tryz.zeroValue288,
  i26:=by kernel_rfl}
def AuE:Shelf.Ren:=
   {
   f:=λx=>
    match x with
    |10=>255
    |n=>n,
   t:=λx=>
    match x with
    |33=>58
    |23=>154
    |0=>0
    |4=>4
    |26=>3
    |3=>90
    |n=>n,
   g:=λx=>x}
theorem AuF:Go.Proofs.SlLaysZI.n10 Tryz.prog AuE:=
 {
  mixed:=by kernel_rfl,
  f10:=Y3 "maps.Keys[map[int]pagewatch/api.Load,int,pagewatch/api.Load]$1" ⟨AC (by kernel_rfl),Eq.trans Tryz.func255 (Ai Yd (by kernel_rfl))⟩,
  t0:=Tryz.underlying0,
  a0:=Tryz.isAgg0,
  z0:=Tryz.sizeOf0,
  v0:=Tryz.zeroValue0,
  t4:=Tryz.underlying4,
  a4:=Tryz.isAgg4,
  z4:=Tryz.sizeOf4,
  v4:=Tryz.zeroValue4,
  t23:=Tryz.underlying154,
  a23:=Tryz.isAgg154,
  z23:=Tryz.sizeOf154,
  v23:=Tryz.zeroValue154,
  t26:=Tryz.underlying3,
  a26:=Tryz.isAgg3,
  z26:=Tryz.sizeOf3,
  v26:=Tryz.zeroValue3,
  t33:=Tryz.underlying58,
  a33:=Tryz.isAgg58,
  z33:=Tryz.sizeOf58,
  v33:=Tryz.zeroValue58}
def Afv:En:=⟨147,.abs (iV 255 3),Apc AuD AuF AeF rfl rfl rfl rfl (by kernel_rfl) (Go.Proofs.enters_of Tryz.func254 (by kernel_rfl) rfl) (Go.Proofs.enters_of Tryz.func255 (by kernel_rfl) rfl) ⟨_,Tryz.func147,by kernel_rfl,by kernel_rfl⟩⟩
abbrev AuG:={β:Type}->Ar->Ar->(Yi->Yb β)->Yb β
def TD:AuG:=hid λx y k=>T2 x (λrisNaNstring=>T2 y (λrisNaNstring2=>Yr risNaNstring (Yr risNaNstring2 (k 0) (k (-1))) (Yr risNaNstring2 (k 1) (Yr (Yy x y) (k (-1)) (Yr (!(Yy x y||Yf (x=y))) (k 1) (k 0))))))
def Afw:En:=⟨154,.spec (sg [AL,AL] [] [Aa] [] TD),pf [At2] [] [.tmp 4] Tryz.func154⟩
abbrev AuH:={β:Type}->Ar->(Ar->Yb β)->Yb β
def Kb:AuH:=ET ⟨look tab,gam [XM,m6],Yc,Yc,Yc,Yc,[],Ye,100000,[]⟩ Tryz.f162 [AL] [] [AL] [] [.tmp 2]
def AuI:En:=⟨162,.spec (sg [AL] [] [AL] [] Kb),(FN mixed (X:=⟨look tab,gam [XM,m6],Yc,Yc,Yc,Yc,[],Ye,100000,[]⟩) AG [XM,m6] rfl [.tmp 2] Tryz.func162 (by kernel_rfl)).spec⟩
abbrev AuJ:={β:Type}->BF->Ar->(Ys->Yb β)->Yb β
def Nu:AuJ:=hid λs v k=>XU s v (λcV=>let t:=(Yf ((0:Yi)<=cV));k t)
def Ze:En:=⟨164,.spec (sg [IR,AL] [] [Ap] [] Nu),pf [QF] [] [.tmp 4] Tryz.func164⟩
abbrev AuK:={β:Type}->AW->Ar->(Yi->Yb β)->Yb β
def TE:AuK:=hid λm key k=>TD m.1 key (λyF=>k yF)
def AuL:En:=⟨167,.spec (sg [Ti,AL] [] [Aa] [] TE),pf [Afw] [] [.tmp 4] Tryz.func167⟩
abbrev AuM:={β:Type}->Ag->AU->Yi->BF->(Yi->Yi->Yi->Ar->Ys->BF->BF->Yb β)->Yb β
def nT:Ya En:=[Ze]
abbrev Afx(β:Type):=Ys->Yi->Yi->Yi->Ar->BF->BF->Yb β
abbrev AuN(β:Type):=Ys->Ys->Yi->Yi->Yi->Ar->Yi->Yi->Yi->Ar->BF->BF->BF->BF->Yb β
def Afy:Pc:=⟨88,0,AS 63 (AA Tryz.f174),⟨0,[8,10,11,14],[AF,BJ,Ap,Ap],[.cells 65 [.data (.int .i64),.data (.int .i64),.data (.int .i64),.data .str,.rowh 2,.rowh 3],Acz,.row 9 .str,.row 9 .str,.row 9 .str,.row 9 .str]⟩,[(.ret,⟨0,[8,9],[AF,Ap],[.cells 65 [.data (.int .i64),.data (.int .i64),.data (.int .i64),.data .str,.rowh 1,.rowh 2],.row 9 .str,.row 9 .str]⟩)]⟩
abbrev nU(β:Type):=Yi->Ys->Ag->AU->Yi->Yi->Yi->Ar->Yi->Yi->Yi->Ar->BF->BF->BF->BF->Yb β
abbrev nV(β:Type):=Yi->BF->Ys->Dr->Yi->Yi->Ag->AU->Yi->Yi->Yi->Ar->Yi->Yi->Yi->Ar->BF->BF->BF->BF->Yb β
def Afz:Pc:=⟨88,0,AS 122 (AA Tryz.f174),⟨0,[2,3,4,5,8,10,11,24,25,26],[Aa,IR,AF,BJ,CX,EW,Ap,Gn,Aa,Aa],AcG⟩,[(.exit 0,⟨0,[2,4,5,8,10,11],[Aa,AF,BJ,CX,EW,Ap],AcG⟩)]⟩
def nW{β:Type}(k1:Afx β):AuN β:=λfresh again t8 Dn Dy Dz n n2 n3 n4 BL Cd CL Ce=>Yr fresh (k1 Yo n n2 n3 n4 CL Ce) (Yr again (k1 Yo n n2 n3 n4 CL Ce) (let t:=(Yf ((0:Yi)<(Yg Ce:Yi)));k1 t n n2 n3 n4 CL Ce))
def OA{β:Type}:=hid (nW (β:=β))
def AuO:Pb:=⟨63,Afy,λ_=>OA,pe (p:=Afy) nT [] 63 (g:=λ_=>nW)⟩
def nX{β:Type}(rec:nV β)(k1:nU β):nV β:=λt muted fresh t24 t25 t26 g r_ t8 Dn Dy Dz n n2 n3 n4 CL Ce Di DM=>Yr (Yf (t26<t25)) (Yr (Yf (0<=t26)&&Yf (t26<(Yg t24:Yi))) (let e:=Yn t24 (Yj t26) (([]:Ya Yl),(([]:Ya Al),(0,(0,(Yc,Yc)))));Nu muted e.1 (λVE=>Yr VE (rec t muted fresh t24 t25 (Yh.wrap (t26+(1:Yi))) g r_ t8 Dn Dy Dz n n2 n3 n4 CL Ce Di DM) (Yr e.2.2.2.2.1 (let l:=([e.1]:Ya Ar);Yr (Yf ((Yg Di+Yg l)*16<=Cn)) (let l2:=(Di++l);Yr fresh (rec t muted Yo t24 t25 (Yh.wrap (t26+(1:Yi))) g r_ t8 Dn Dy Dz n n2 n3 n4 CL Ce l2 DM) (rec t muted (!e.2.2.2.2.2) t24 t25 (Yh.wrap (t26+(1:Yi))) g r_ t8 Dn Dy Dz n n2 n3 n4 CL Ce l2 DM)) Ye) (let l:=([e.1]:Ya Ar);Yr (Yf ((Yg DM+Yg l)*16<=Cn)) (let l2:=(DM++l);rec t muted fresh t24 t25 (Yh.wrap (t26+(1:Yi))) g r_ t8 Dn Dy Dz n n2 n3 n4 CL Ce Di l2) Ye)))) Ye) (k1 t fresh g r_ t8 Dn Dy Dz n n2 n3 n4 CL Ce Di DM)
def TF(m:Yk){β:Type}(k1:nU β):nV β:=AcM (λr=>nX r k1) Ye m
theorem AuP{β:Type}(i:Yk)(k1):TF (β:=β) (i+1) k1=nX (TF i k1) k1:=rfl
def nY{β:Type}:=hid (TF (β:=β) fuel)
def AuQ:Pb:=⟨122,Afz,λ_=>nY,pl (p:=Afz) nT [] (g:=λi _=>TF i)⟩
def Zf:AuM:=hid λg r_ t muted k=>nY (λt2 fresh g2 Bz t8 Dn Dy Dz n n2 n3 n4 CL Ce Di DM=>Yr (Yf ((0:Yi)<(Yg Di:Yi))) (Yr (!Yf (g2.2.2.2.2=(-1:Yi))) (let again:=(Yf ((Yh.wrap (g2.2.2.2.2+Bz.2.2.2.2.2.2.1))<=t2));OA (λt9 t85 ME VQ VR D5 BL=>k t85 ME VQ VR t9 D5 BL) fresh again t8 Dn Dy Dz n n2 n3 n4 CL Ce Di DM) (OA (λt9 t85 ME VQ VR D5 BL=>k t85 ME VQ VR t9 D5 BL) fresh Yc t8 Dn Dy Dz n n2 n3 n4 CL Ce Di DM)) (OA (λt9 t85 ME VQ VR D5 BL=>k t85 ME VQ VR t9 D5 BL) fresh Yc t8 Dn Dy Dz n n2 n3 n4 CL Ce Di DM)) t muted Yc g.2.2.1 (Yg g.2.2.1:Yi) 0 g r_ 0 0 0 ([]:Ya Yl) t g.1 r_.2.2.1 g.2.1 ([]:Ya Ar) ([]:Ya Ar) ([]:Ya Ar) ([]:Ya Ar)
def AuR:En:=⟨174,.spec (sg [HS,Nm,Aa,IR] [] [(Yo,[.data (.int .i64),.data (.int .i64),.data (.int .i64),.data .str,.rowh 0,.rowh 1]),Ap] [.row 9 .str,.row 9 .str] Zf),pf nT [AuO,AuQ] [.cell 8 65,.tmp 9] Tryz.func174⟩
abbrev AuS:={β:Type}->Hq->(Hq->Ys->Yb β)->Yb β
def AfA:Ya En:=[Atc]
abbrev AfB(β:Type):=Hq->Hq->Yb β
abbrev nZ(β:Type):=Hq->Hq->Yi->Yi->BF->Yb β
def AfC:Pc:=⟨55,0,AS 122 (AA Tryz.f186),⟨0,[0,4,13,14,15],[EV,EV,AX,Aa,Aa],[.row 9 .str]⟩,[(.exit 0,⟨0,[0,4],[EV,EV],[]⟩)]⟩
def AfD{β:Type}(rec:nZ β)(k1:AfB β):nZ β:=λl B5 CC Ca D9=>Yr (Yf (Ca<CC)) (Yr (Yf (0<=Ca)&&Yf (Ca<(Yg D9:Yi))) (let s:=(Yn D9 (Yj Ca) ([]:Ya Yl));Yr (Yf ((2:Yi)<=(Yg B5:Yi))) (Yr (Yf (0<=(0:Yi))&&Yf ((0:Yi)<(Yg B5:Yi))) (let e:=Yn B5 (Yj 0) (0,(([]:Ya Yl),0));mB e s (λyV=>Yr yV (Yr (Yf (0<=(1:Yi))&&Yf ((1:Yi)<(Yg B5:Yi))) (let e2:=Yn B5 (Yj 1) (0,(([]:Ya Yl),0));Yr (Yf (e2.1=(1:Yi))) (Yr (Yf (0<=(2:Yi))&&(Yf ((2:Yi)<=(Yg B5:Yi))&&Yf ((Yg B5:Yi)<=(Yg B5:Yi)))) (let rest2:=(YY (Yj 2) (YW (Yj (Yg B5:Yi)) B5));rec l rest2 CC (Yh.wrap (Ca+(1:Yi))) D9) Ye) (rec l B5 CC (Yh.wrap (Ca+(1:Yi))) D9)) Ye) (rec l B5 CC (Yh.wrap (Ca+(1:Yi))) D9))) Ye) (rec l B5 CC (Yh.wrap (Ca+(1:Yi))) D9)) Ye) (k1 l B5)
def Zg(m:Yk){β:Type}(k1:AfB β):nZ β:=K4 (λr=>AfD r k1) Ye m
theorem AGi{β:Type}(i:Yk)(k1):Zg (β:=β) (i+1) k1=AfD (Zg i k1) k1:=rfl
def AfE{β:Type}:=hid (Zg (β:=β) fuel)
def AuT:Pb:=⟨122,AfC,λ_=>AfE,pl (p:=AfC) AfA [] (g:=λi _=>Zg i)⟩
def AfF:AuS:=hid λl k=>Yr (Yf ((Yg l:Yi)<(3:Yi))) (k l Yc) (Yr (Yf (0<=(3:Yi))&&(Yf ((3:Yi)<=(Yg l:Yi))&&Yf ((Yg l:Yi)<=(Yg l:Yi)))) (let B5:=(YY (Yj 3) (YW (Yj (Yg l:Yi)) l));let l2:=([([119,101,101,107]:Ya Yl),([114,101,115,116]:Ya Yl)]:Ya Ar);AfE (λl3 rest2=>Yr (Yf ((0:Yi)<(Yg rest2:Yi))) (Yr (Yf (0<=(0:Yi))&&Yf ((0:Yi)<(Yg rest2:Yi))) (let e:=Yn rest2 (Yj 0) (0,(([]:Ya Yl),0));mB e ([99,111,110,115,101,110,116]:Ya Yl) (λyV=>Yr yV (Yr (Yf (0<=(1:Yi))&&(Yf ((1:Yi)<=(Yg rest2:Yi))&&Yf ((Yg rest2:Yi)<=(Yg rest2:Yi)))) (let rest3:=(YY (Yj 1) (YW (Yj (Yg rest2:Yi)) rest2));Yr (Yf (0<=(0:Yi))&&(Yf ((0:Yi)<=(3:Yi))&&Yf ((3:Yi)<=(Yg l3:Yi)))) (let t:=(YY (Yj 0) (YW (Yj 3) l3));let t2:=(Yf ((Yg rest3:Yi)=(0:Yi)));k t t2) Ye) Ye) (Yr (Yf (0<=(0:Yi))&&(Yf ((0:Yi)<=(3:Yi))&&Yf ((3:Yi)<=(Yg l3:Yi)))) (let t:=(YY (Yj 0) (YW (Yj 3) l3));let t2:=(Yf ((Yg rest2:Yi)=(0:Yi)));k t t2) Ye))) Ye) (Yr (Yf (0<=(0:Yi))&&(Yf ((0:Yi)<=(3:Yi))&&Yf ((3:Yi)<=(Yg l3:Yi)))) (let t:=(YY (Yj 0) (YW (Yj 3) l3));let t2:=(Yf ((Yg rest2:Yi)=(0:Yi)));k t t2) Ye)) l B5 (Yg l2:Yi) 0 l2) Ye)
def AuU:En:=⟨186,.spec (sg [EV] [] [EV,Ap] [] AfF),pf AfA [AuT] [.tmp 2,.tmp 3] Tryz.func186⟩
def AfG:En:=.hand (Fe mixed (X:=⟨look tab,gam [AeS,AeT],Yc,Yc,Yc,Yc,DU,Ye,100000,[]⟩) AG [AeS,AeT] rfl (ps:=[AF,EV]) (is:=Fi) (rs:=[Aa]) (os:=Fi) [.tmp 4] Tryz.func192 (by kernel_rfl)) rfl (by kernel_rfl)
def Zh:En:=.handf (Fe mixed (X:=⟨look tab,gam [QE,XQ,Ka],Yc,Yc,Yc,Yc,Lq,Ye,100000,[]⟩) AG [QE,XQ,Ka] rfl (ps:=[AF,AL,IQ]) (is:=GZ) (rs:=[]) (os:=GZ) [] Tryz.func227 (by kernel_rfl)) rfl (by kernel_rfl)
def AfH:En:=au [Atq] [Xs,Aa,Aa] [] [Aa] [] [.tmp 6] Tryz.func241 (by kernel_rfl)
abbrev AuV:={β:Type}->BA->(Ys->Yb β)->Yb β
def o0:AuV:=hid λm k=>O7 m (λyO=>k (!yO))
def AuW:En:=⟨259,.spec (sg [Q7] [] [Ap] [] o0),pf [Af1] [] [.tmp 2] Tryz.func259⟩
abbrev AuX:={β:Type}->BA->(Ys->Yb β)->Yb β
def o5:AuX:=hid λm k=>O7 m (λyO=>k (!yO))
def AuY:En:=⟨261,.spec (sg [Q7] [] [Ap] [] o5),pf [Af1] [] [.tmp 2] Tryz.func261⟩
end
end Go.Lift
