/- Part13: Fn0. -/
import Derived.Test.YtgocccmoefchaaaGreatDoorProg
import Derived.Test.YtgocccmoefchaaaGreatDoorPart12
import Derived.Test.YtgocccmoefchaaaGreatDoorPart7
set_option linter.unusedVariables false
set_option linter.unusedSectionVars false
set_option linter.unusedSimpArgs false
namespace Go.Lift
open Go.Proofs
noncomputable section
variable[Sl]
set_option maxRecDepth 100000
abbrev Bu:=(List UInt8×(Int×List Int))
abbrev Fy:Ty:=(.prod .str (.prod (.int .i64) (.slice (.int .i64))))
abbrev Bz:=(List UInt8×(Int×((Int×Int)×(Int×(Int×(List Int×(List (Int×Int)×(Int×Int))))))))
abbrev Nl:Ty:=(.prod .str (.prod (.int .i64) (.prod (.prod (.int .i64) (.int .i64)) (.prod (.int .i64) (.prod (.int .i64) (.prod (.slice (.int .i64)) (.prod (.slice (.prod (.int .i64) (.int .i64))) (.prod (.int .i64) (.int .i64)))))))))
abbrev B8:=(List UInt8×(List Bz×List (Int×(Int×(Int×(Int×Int))))))
abbrev FW:Ty:=(.prod .str (.prod (.slice Nl) (.slice (.prod (.int .i64) (.prod (.int .i64) (.prod (.int .i64) (.prod (.int .i64) (.int .i64))))))))
abbrev BF:=(Int×(List UInt8×Int))
abbrev Fz:Ty:=(.prod (.int .i64) (.prod .str (.int .i64)))
abbrev Cz:=(Int×(Int×(Int×(Int×(Int×(Int×Int))))))
abbrev Ju:Ty:=(.prod (.int .i64) (.prod (.int .i64) (.prod (.int .i64) (.prod (.int .i64) (.prod (.int .i64) (.prod (.int .i64) (.int .i64)))))))
abbrev AG:=(List UInt8×(Int×List Cz))
abbrev F3:Ty:=(.prod .str (.prod (.int .i64) (.slice Ju)))
abbrev IW:=(List UInt8×(List Int×Bool))
abbrev KV:Ty:=(.prod .str (.prod (.slice (.int .i64)) .bool))
abbrev AX:=(List UInt8×(Int×(List (Int×Int)×(Int×(Int×Bool)))))
abbrev Fa:Ty:=(.prod .str (.prod (.int .i64) (.prod (.slice (.prod (.int .i64) (.int .i64))) (.prod (.int .i64) (.prod (.int .i64) .bool)))))
abbrev Au:=(List AG×(List AX×(List Bu×List B8)))
abbrev RO:Ty:=(.prod (.slice F3) (.prod (.slice Fa) (.prod (.slice Fy) (.slice FW))))
abbrev AmC:=(Au×List (Int×List BF))
abbrev AmD:Ty:=(.prod RO (.slice (.prod (.int .i64) (.slice Fz))))
abbrev Aau:BF:=((0:Int),(([]:List UInt8),(0:Int)))
abbrev AmE:IW:=(([]:List UInt8),(([]:List Int),false))
abbrev ABF:Bu:=(([]:List UInt8),((0:Int),([]:List Int)))
abbrev WF:AG:=(([]:List UInt8),((0:Int),([]:List Cz)))
abbrev ABG:Cz:=((0:Int),((0:Int),((0:Int),((0:Int),((0:Int),((0:Int),(0:Int)))))))
abbrev ABH:AX:=(([]:List UInt8),((0:Int),(([]:List (Int×Int)),((0:Int),((0:Int),false)))))
abbrev ABI:B8:=(([]:List UInt8),(([]:List Bz),([]:List (Int×(Int×(Int×(Int×Int)))))))
abbrev Ke:Au:=(([]:List AG),(([]:List AX),(([]:List Bu),([]:List B8))))
abbrev ABJ:AmC:=((([]:List AG),(([]:List AX),(([]:List Bu),([]:List B8)))),([]:List (Int×List BF)))
abbrev ABK:Bz:=(([]:List UInt8),((0:Int),(((0:Int),(0:Int)),((0:Int),((0:Int),(([]:List Int),(([]:List (Int×Int)),((0:Int),(0:Int)))))))))
abbrev AY:=List Bu
abbrev Bd:=List B8
abbrev AW:=List AX
abbrev AD:=List UInt8
abbrev AZ:=List AG
abbrev BX:=Int×Int
abbrev BY:=List Int×Int
abbrev BH:=List BX
abbrev EO:=List BF
abbrev H3:=List Cz
abbrev HM:=List UInt8×Bool
abbrev DJ:=List Int
abbrev Eg:=List AD
abbrev KW:=Int×List BF
abbrev BV:=List KW
abbrev HN:=Int×BX
abbrev CN:=Int×(Int×HN)
abbrev Aav:OT:=.p (.d .str) (.p (.d (.int .i64)) (.p (.d (.prod (.int .i64) (.int .i64))) (.p (.d (.int .i64)) (.p (.d (.int .i64)) (.p (.r 3 (.d (.int .i64))) (.p (.r 151 (.d (.prod (.int .i64) (.int .i64)))) (.d (.prod (.int .i64) (.int .i64)))))))))
abbrev Aaw:OT:=.p (.d .str) (.p (.d (.int .i64)) (.p (.r 151 (.d (.prod (.int .i64) (.int .i64)))) (.d (.prod (.int .i64) (.prod (.int .i64) .bool)))))
abbrev Aax:OT:=.p (.d .str) (.p (.r 62 Aav) (.r 35 (.d (.prod (.int .i64) (.prod (.int .i64) (.prod (.int .i64) (.prod (.int .i64) (.int .i64))))))))
abbrev Aay:OT:=.p (.d .str) (.p (.d (.int .i64)) (.r 142 (.d Ju)))
abbrev Aaz:OT:=.p (.d .str) (.p (.d (.int .i64)) (.r 3 (.d (.int .i64))))
abbrev Kf:OT:=.p (.d (.int .i64)) (.r 89 (.d Fz))
abbrev Ac:Bool×List CT:=(false,[.data (.int .i64)])
abbrev Px:BT:=.cells 76 [.data (.slice F3),.data (.slice Fa),.data (.slice Fy),.data (.slice FW),.trowh 1]
abbrev Do:BT:=.cells 54 [.data (.prod (.slice (.int .i64)) (.int .i64))]
abbrev Ax:Bool×List CT:=(false,[.ptr 0 0])
abbrev AK:Bool×List CT:=(false,[.data .bool])
abbrev BG:BT:=.cells 32 [.data RO]
abbrev HO:BT:=.cells 35 [.data (.prod (.int .i64) (.prod (.int .i64) (.prod (.int .i64) (.prod (.int .i64) (.int .i64)))))]
abbrev AmF:BT:=.cells 122 [.trowh 1,.trowh 2,.trowh 3,.trowh 4]
abbrev B9:Bool×List CT:=(false,[.data .str])
abbrev gY:BT:=.cells 76 [.data (.slice F3),.data (.slice Fa),.data (.slice Fy),.data (.slice FW),.trowh 2]
abbrev EC:Bool×List CT:=(false,[.data (.slice Fz)])
abbrev BZ:Bool×List CT:=(false,[.ptr 1 0])
abbrev AmG:BT:=.cells 62 [.data .str,.data (.int .i64),.data (.int .i64),.data (.int .i64),.data (.int .i64),.data (.int .i64),.rowh 6,.rowh 7,.data (.int .i64),.data (.int .i64)]
abbrev AmH:BT:=.cells 62 [.data .str,.data (.int .i64),.data (.int .i64),.data (.int .i64),.data (.int .i64),.data (.int .i64),.rowh 4,.rowh 5,.data (.int .i64),.data (.int .i64)]
abbrev It:Bool×List CT:=(false,[.data (.slice (.prod (.int .i64) (.int .i64)))])
abbrev Eh:Bool×List CT:=(true,[.data RO])
abbrev C0:Bool×List CT:=(false,[.rowh 0])
abbrev He:Bool×List CT:=(false,[.data (.slice Ju)])
abbrev Da:Bool×List CT:=(false,[.ptr 2 0])
abbrev RP:Bool×List CT:=(false,[.data (.slice (.prod (.int .i64) (.prod (.int .i64) (.prod (.int .i64) (.prod (.int .i64) (.int .i64))))))])
abbrev H4:Bool×List CT:=(false,[.data (.slice (.int .i64))])
abbrev RQ:Bool×List CT:=(true,[.data (.prod (.int .i64) (.prod (.int .i64) (.prod (.int .i64) (.prod (.int .i64) (.int .i64)))))])
abbrev AmI:BT:=.cells 32 [.data (.slice F3),.data (.slice Fa),.data (.slice Fy),.junk]
abbrev Nm:BT:=.cells 230 [.data (.prod (.int .i64) (.prod (.int .i64) (.int .i64)))]
abbrev AaA:BT:=.cells 32 [.rowh 3,.rowh 4,.rowh 5,.rowh 6]
abbrev Py:Bool×List CT:=(true,[.data (.prod (.int .i64) (.prod (.int .i64) (.int .i64)))])
abbrev AmJ:BT:=.cells 32 [.data (.slice F3),.data (.slice Fa),.data (.slice Fy),.rowh 8]
abbrev Kg:BT:=.cells 9 [.data .str]
abbrev KX:Bool×List CT:=(false,[.data (.slice FW)])
abbrev HP:Bool×List CT:=(true,[.data F3])
abbrev Fi:Bool×List CT:=(false,[.rowh 1])
abbrev Iu:Bool×List CT:=(true,[.data Fz])
abbrev AmK:BT:=.cells 32 [.rowh 7,.rowh 8,.rowh 9,.rowh 10]
abbrev gZ:BT:=.cells 32 [.rowh 4,.rowh 5,.rowh 6,.rowh 7]
abbrev LZ:Bool×List CT:=(false,[.data (.slice Fa)])
abbrev Nn:Bool×List CT:=(false,[.data (.slice Fy)])
abbrev KY:BT:=.cells 62 [.data Nl]
abbrev Np:Bool×List CT:=(false,[.data (.slice F3)])
abbrev WG:Bool×List CT:=(false,[.data (.slice (.prod (.int .i64) (.slice Fz)))])
abbrev Ma:Bool×List CT:=(true,[.data Fy])
abbrev AaB:BT:=.cells 62 [.data .str,.data (.int .i64),.data (.int .i64),.data (.int .i64),.data (.int .i64),.data (.int .i64),.rowh 2,.rowh 3,.data (.int .i64),.data (.int .i64)]
abbrev Mb:BT:=.cells 79 [.data F3]
abbrev Mc:Bool×List CT:=(true,[.data Nl])
abbrev IX:Bool×List CT:=(false,[.ptr 3 0])
abbrev RR:Bool×List CT:=(false,[.data (.slice Nl)])
abbrev Pz:Bool×List CT:=(true,[.data Fa])
abbrev RT:BT:=.cells 44 [.data FW]
abbrev AmL:BT:=.cells 44 [.data .str,.rowh 9,.rowh 10]
abbrev AmM:BT:=.cells 32 [.data (.slice F3),.data (.slice Fa),.data (.slice Fy),.rowh 7]
abbrev RU:Bool×List CT:=(true,[.data FW])
abbrev AaC:Bool×List CT:=(true,[.data (.slice F3),.data (.slice Fa),.data (.slice Fy),.junk])
abbrev AaD:BT:=.cells 32 [.rowh 8,.rowh 9,.rowh 10,.rowh 11]
abbrev WH:BT:=.cells 85 [.data Fy]
abbrev WI:Bool×List CT:=(false,[.data (.slice .str)])
abbrev EP:List BT:=[AmF,.tree 79 Aay,.tree 82 Aaw,.tree 85 Aaz,.tree 44 Aax]
abbrev Nq:List BT:=[Do,AaA,AmK,.row 79 F3,.row 82 Fa,.row 85 Fy,.row 44 FW,.row 79 F3,.row 82 Fa,.row 85 Fy,.row 44 FW]
abbrev WJ:List BT:=[Do,gZ,AmJ,AmL,.row 79 F3,.row 82 Fa,.row 85 Fy,.row 44 FW,.row 44 FW,.row 62 Nl,.row 35 (.prod (.int .i64) (.prod (.int .i64) (.prod (.int .i64) (.prod (.int .i64) (.int .i64)))))]
abbrev RV:List BT:=[Do,AmI,AmH,AmG,.row 3 (.int .i64),.row 151 (.prod (.int .i64) (.int .i64)),.row 3 (.int .i64),.row 151 (.prod (.int .i64) (.int .i64))]
abbrev DO:List BT:=[Px,.tree 109 Kf]
abbrev AaE:List BT:=[Do,gZ,AaD,.cells 85 [.data .str,.data (.int .i64),.rowh 12],.row 79 F3,.row 82 Fa,.row 85 Fy,.row 44 FW,.row 79 F3,.row 82 Fa,.row 85 Fy,.row 44 FW,.row 3 (.int .i64)]
abbrev Nr:List BT:=[.row 237 (.prod (.int .i64) (.int .i64))]
abbrev RW:List BT:=[.row 262 (.prod (.int .i64) (.int .i64))]
abbrev RX:List BT:=[.row 236 (.prod (.int .i64) (.int .i64))]
abbrev WL:List BT:=[.row 109 (.prod (.int .i64) (.slice Fz))]
abbrev AaF:List BT:=[Do,AaA,AmM,.row 79 F3,.row 82 Fa,.row 85 Fy,.row 44 FW,.row 44 FW]
abbrev P0:List BT:=[BG,gY,.tree 109 Kf]
abbrev RY:List BT:=[BG,.map 129 .str .bool false]
abbrev Ns:List BT:=[.row 89 Fz]
abbrev AaG:List BT:=[.row 236 (.prod (.int .i64) (.int .i64)),.cells 236 [.data (.prod (.int .i64) (.int .i64))]]
abbrev h9:List BT:=[Do,.row 151 (.prod (.int .i64) (.int .i64))]
abbrev AaH:List BT:=[.row 237 (.prod (.int .i64) (.int .i64)),.row 262 (.prod (.int .i64) (.int .i64))]
abbrev WM:List BT:=[.cells 256 [.fn 200 []],Kg]
abbrev WN:List BT:=[.cells 133 [.fn 202 []],Kg]
abbrev WO:List BT:=[.cells 127 [.fn 197 []],Kg]
abbrev D9:List (TypeId×OT):=[(44,Aax),(62,Aav),(79,Aay),(82,Aaw),(85,Aaz)]
abbrev Fj:List (TypeId×OT):=[(109,Kf)]
def tab:List (Nat×TI):=[
 (3,⟨false,1,8,[.int .i64 (0:Int)],[],none,none,(some (.int .i64)),(some .i64),false,false,none,none,false⟩),
 (4,⟨false,1,1,[.bool false],[],none,none,(some .bool),none,true,false,none,none,false⟩),
 (5,⟨false,1,1,[.int .u8 (0:Int)],[],none,none,(some (.int .u8)),(some .u8),false,false,none,none,false⟩),
 (9,⟨false,1,16,[.str ([]:List UInt8)],[],none,none,(some .str),none,false,true,none,none,false⟩),
 (22,⟨false,1,24,[.nils],[],(some 3),none,(some (.slice (.int .i64))),none,false,false,none,none,false⟩),
 (27,⟨false,1,24,[.nils],[],(some 79),none,(some (.slice F3)),none,false,false,none,none,false⟩),
 (28,⟨false,1,24,[.nils],[],(some 82),none,(some (.slice Fa)),none,false,false,none,none,false⟩),
 (29,⟨false,1,24,[.nils],[],(some 85),none,(some (.slice Fy)),none,false,false,none,none,false⟩),
 (30,⟨false,1,24,[.nils],[],(some 44),none,(some (.slice FW)),none,false,false,none,none,false⟩),
 (32,⟨true,4,96,[.nils,.nils,.nils,.nils],[(0,1,false),(1,1,false),(2,1,false),(3,1,false)],none,none,(some RO),none,false,false,none,none,false⟩),
 (35,⟨true,5,40,[.int .i64 (0:Int),.int .i64 (0:Int),.int .i64 (0:Int),.int .i64 (0:Int),.int .i64 (0:Int)],[(0,1,false),(1,1,false),(2,1,false),(3,1,false),(4,1,false)],none,none,(some (.prod (.int .i64) (.prod (.int .i64) (.prod (.int .i64) (.prod (.int .i64) (.int .i64)))))),none,false,false,(some [.i,.i,.i,.i,.i]),none,false⟩),
 (41,⟨false,1,24,[.nils],[],(some 62),none,(some (.slice Nl)),none,false,false,none,none,false⟩),
 (42,⟨false,1,24,[.nils],[],(some 35),none,(some (.slice (.prod (.int .i64) (.prod (.int .i64) (.prod (.int .i64) (.prod (.int .i64) (.int .i64))))))),none,false,false,none,none,false⟩),
 (44,⟨true,3,64,[.str ([]:List UInt8),.nils,.nils],[(0,1,false),(1,1,false),(2,1,false)],none,none,(some FW),none,false,false,none,none,false⟩),
 (49,⟨false,1,24,[.nils],[],(some 109),none,(some (.slice (.prod (.int .i64) (.slice Fz)))),none,false,false,none,none,false⟩),
 (54,⟨true,2,32,[.nils,.int .i64 (0:Int)],[(0,1,false),(1,1,false)],none,none,(some (.prod (.slice (.int .i64)) (.int .i64))),none,false,false,none,none,false⟩),
 (57,⟨false,1,24,[.nils],[],(some 9),none,(some (.slice .str)),none,false,false,none,none,false⟩),
 (59,⟨true,2,16,[.int .i64 (0:Int),.int .i64 (0:Int)],[(0,1,false),(1,1,false)],none,none,(some (.prod (.int .i64) (.int .i64))),none,false,false,(some [.i,.i]),none,false⟩),
 (60,⟨false,1,24,[.nils],[],(some 151),none,(some (.slice (.prod (.int .i64) (.int .i64)))),none,false,false,none,none,false⟩),
 (62,⟨true,10,120,[.str ([]:List UInt8),.int .i64 (0:Int),.int .i64 (0:Int),.int .i64 (0:Int),.int .i64 (0:Int),.int .i64 (0:Int),.nils,.nils,.int .i64 (0:Int),.int .i64 (0:Int)],[(0,1,false),(1,1,false),(2,2,true),(4,1,false),(5,1,false),(6,1,false),(7,1,false),(8,1,false),(9,1,false)],none,none,(some Nl),none,false,false,none,none,false⟩),
 (74,⟨false,1,8,[.nilp],[],none,none,none,none,false,false,none,none,true⟩),
 (76,⟨true,5,120,[.nils,.nils,.nils,.nils,.nils],[(0,4,true),(4,1,false)],none,none,(some AmD),none,false,false,none,none,false⟩),
 (77,⟨false,1,24,[.nils],[],(some 142),none,(some (.slice Ju)),none,false,false,none,none,false⟩),
 (79,⟨true,3,48,[.str ([]:List UInt8),.int .i64 (0:Int),.nils],[(0,1,false),(1,1,false),(2,1,false)],none,none,(some F3),none,false,false,none,none,false⟩),
 (82,⟨true,6,72,[.str ([]:List UInt8),.int .i64 (0:Int),.nils,.int .i64 (0:Int),.int .i64 (0:Int),.bool false],[(0,1,false),(1,1,false),(2,1,false),(3,1,false),(4,1,false),(5,1,false)],none,none,(some Fa),none,false,false,none,none,false⟩),
 (85,⟨true,3,48,[.str ([]:List UInt8),.int .i64 (0:Int),.nils],[(0,1,false),(1,1,false),(2,1,false)],none,none,(some Fy),none,false,false,none,none,false⟩),
 (89,⟨true,3,32,[.int .i64 (0:Int),.str ([]:List UInt8),.int .i64 (0:Int)],[(0,1,false),(1,1,false),(2,1,false)],none,none,(some Fz),none,false,false,(some [.i,.s,.i]),none,false⟩),
 (106,⟨true,2,32,[.nilp,.nils],[(0,1,false),(1,1,false)],none,none,none,none,false,false,none,none,false⟩),
 (107,⟨false,1,24,[.nils],[],(some 89),none,(some (.slice Fz)),none,false,false,none,none,false⟩),
 (109,⟨true,2,32,[.int .i64 (0:Int),.nils],[(0,1,false),(1,1,false)],none,none,(some (.prod (.int .i64) (.slice Fz))),none,false,false,none,none,false⟩),
 (112,⟨false,1,16,[.err true],[],none,none,(some .err),none,false,false,none,none,false⟩),
 (122,⟨true,4,96,[.nils,.nils,.nils,.nils],[(0,4,true)],none,none,(some RO),none,false,false,none,none,false⟩),
 (123,⟨false,1,8,[.junk],[],none,none,none,none,false,false,none,(some (9,125)),false⟩),
 (125,⟨false,1,8,[.nilfn],[],none,none,none,none,false,false,none,none,false⟩),
 (127,⟨false,1,8,[.nilfn],[],none,none,none,none,false,false,none,none,false⟩),
 (129,⟨false,1,8,[.junk],[],none,none,none,none,false,false,none,(some (9,4)),false⟩),
 (133,⟨false,1,8,[.nilfn],[],none,none,none,none,false,false,none,none,false⟩),
 (142,⟨true,7,56,[.int .i64 (0:Int),.int .i64 (0:Int),.int .i64 (0:Int),.int .i64 (0:Int),.int .i64 (0:Int),.int .i64 (0:Int),.int .i64 (0:Int)],[(0,1,false),(1,1,false),(2,1,false),(3,1,false),(4,1,false),(5,1,false),(6,1,false)],none,none,(some Ju),none,false,false,(some [.i,.i,.i,.i,.i,.i,.i]),none,false⟩),
 (151,⟨true,2,16,[.int .i64 (0:Int),.int .i64 (0:Int)],[(0,1,false),(1,1,false)],none,none,(some (.prod (.int .i64) (.int .i64))),none,false,false,(some [.i,.i]),none,false⟩),
 (172,⟨true,3,48,[.str ([]:List UInt8),.nils,.bool false],[(0,1,false),(1,1,false),(2,1,false)],none,none,(some KV),none,false,false,none,none,false⟩),
 (185,⟨false,1,24,[.nils],[],(some 237),none,(some (.slice (.prod (.int .i64) (.int .i64)))),none,false,false,none,none,false⟩),
 (200,⟨false,1,24,[.nils],[],(some 172),none,(some (.slice KV)),none,false,false,none,none,false⟩),
 (206,⟨false,1,8,[.nilp],[],none,none,none,none,false,false,none,none,true⟩),
 (212,⟨false,1,8,[.nilp],[],none,none,none,none,false,false,none,none,true⟩),
 (215,⟨false,1,8,[.nilp],[],none,none,none,none,false,false,none,none,true⟩),
 (219,⟨false,1,8,[.nilp],[],none,none,none,none,false,false,none,none,true⟩),
 (222,⟨false,1,8,[.nilp],[],none,none,none,none,false,false,none,none,true⟩),
 (230,⟨true,3,24,[.int .i64 (0:Int),.int .i64 (0:Int),.int .i64 (0:Int)],[(0,1,false),(1,1,false),(2,1,false)],none,none,(some (.prod (.int .i64) (.prod (.int .i64) (.int .i64)))),none,false,false,(some [.i,.i,.i]),none,false⟩),
 (233,⟨false,1,24,[.nils],[],(some 236),none,(some (.slice (.prod (.int .i64) (.int .i64)))),none,false,false,none,none,false⟩),
 (236,⟨true,2,16,[.int .i64 (0:Int),.int .i64 (0:Int)],[(0,1,false),(1,1,false)],none,none,(some (.prod (.int .i64) (.int .i64))),none,false,false,(some [.i,.i]),none,false⟩),
 (237,⟨true,2,16,[.int .i64 (0:Int),.int .i64 (0:Int)],[(0,1,false),(1,1,false)],none,none,(some (.prod (.int .i64) (.int .i64))),none,false,false,(some [.i,.i]),none,false⟩),
 (256,⟨false,1,8,[.nilfn],[],none,none,none,none,false,false,none,none,false⟩),
 (258,⟨false,1,24,[.nils],[],(some 262),none,(some (.slice (.prod (.int .i64) (.int .i64)))),none,false,false,none,none,false⟩),
 (262,⟨true,2,16,[.int .i64 (0:Int),.int .i64 (0:Int)],[(0,1,false),(1,1,false)],none,none,(some (.prod (.int .i64) (.int .i64))),none,false,false,(some [.i,.i]),none,false⟩),
 (289,⟨true,12,96,[.int .i64 (0:Int),.int .i64 (0:Int),.int .i64 (0:Int),.int .i64 (0:Int),.int .i64 (0:Int),.int .i64 (0:Int),.int .i64 (0:Int),.int .i64 (0:Int),.int .i64 (0:Int),.int .i64 (0:Int),.int .i64 (0:Int),.int .i64 (0:Int)],[],(some 3),(some 12),(some (.prod (.int .i64) (.prod (.int .i64) (.prod (.int .i64) (.prod (.int .i64) (.prod (.int .i64) Ju)))))),none,false,false,(some [.i,.i,.i,.i,.i,.i,.i,.i,.i,.i,.i,.i]),none,false⟩)]
theorem Bx:TOk Tryz.prog (look tab):=AlJ (by kernel_rfl)
theorem mixed:Tryz.prog.follows .mixedOrders=true:=by kernel_rfl
abbrev OK(p:Pc)(G:p.G):Prop:=p.Ok Tryz.prog G
abbrev GO(X:Ctx):Prop:=ΓOk Tryz.prog X.Γ
@[reducible] def cx(l:List (Nat×Fun)):Ctx:=⟨look tab,Ez l,false,false,false,false,[],none,0,[]⟩
@[reducible] def WP{A0 A1 B:Type}(f:(A0->A1->B)->A0->A1->B)(z:B):Nat->A0->A1->B
 |0=>λ_ _=>z
 |i+1=>f (WP f z i)
@[reducible] def FX{A0 A1 A2 B:Type}(f:(A0->A1->A2->B)->A0->A1->A2->B)(z:B):Nat->A0->A1->A2->B
 |0=>λ_ _ _=>z
 |i+1=>f (FX f z i)
@[reducible] def Gm{A0 A1 A2 A3 B:Type}(f:(A0->A1->A2->A3->B)->A0->A1->A2->A3->B)(z:B):Nat->A0->A1->A2->A3->B
 |0=>λ_ _ _ _=>z
 |i+1=>f (Gm f z i)
@[reducible] def Jv{A0 A1 A2 A3 A4 B:Type}(f:(A0->A1->A2->A3->A4->B)->A0->A1->A2->A3->A4->B)(z:B):Nat->A0->A1->A2->A3->A4->B
 |0=>λ_ _ _ _ _=>z
 |i+1=>f (Jv f z i)
@[reducible] def RZ{A0 A1 A2 A3 A4 A5 B:Type}(f:(A0->A1->A2->A3->A4->A5->B)->A0->A1->A2->A3->A4->A5->B)(z:B):Nat->A0->A1->A2->A3->A4->A5->B
 |0=>λ_ _ _ _ _ _=>z
 |i+1=>f (RZ f z i)
@[reducible] def AmN{A0 A1 A2 A3 A4 A5 A6 B:Type}(f:(A0->A1->A2->A3->A4->A5->A6->B)->A0->A1->A2->A3->A4->A5->A6->B)(z:B):Nat->A0->A1->A2->A3->A4->A5->A6->B
 |0=>λ_ _ _ _ _ _ _=>z
 |i+1=>f (AmN f z i)
@[reducible] def AaI{A0 A1 A2 A3 A4 A5 A6 A7 B:Type}(f:(A0->A1->A2->A3->A4->A5->A6->A7->B)->A0->A1->A2->A3->A4->A5->A6->A7->B)(z:B):Nat->A0->A1->A2->A3->A4->A5->A6->A7->B
 |0=>λ_ _ _ _ _ _ _ _=>z
 |i+1=>f (AaI f z i)
@[reducible] def Sa{A0 A1 A2 A3 A4 A5 A6 A7 A8 B:Type}(f:(A0->A1->A2->A3->A4->A5->A6->A7->A8->B)->A0->A1->A2->A3->A4->A5->A6->A7->A8->B)(z:B):Nat->A0->A1->A2->A3->A4->A5->A6->A7->A8->B
 |0=>λ_ _ _ _ _ _ _ _ _=>z
 |i+1=>f (Sa f z i)
@[reducible] def P1{A0 A1 A2 A3 A4 A5 A6 A7 A8 A9 B:Type}(f:(A0->A1->A2->A3->A4->A5->A6->A7->A8->A9->B)->A0->A1->A2->A3->A4->A5->A6->A7->A8->A9->B)(z:B):Nat->A0->A1->A2->A3->A4->A5->A6->A7->A8->A9->B
 |0=>λ_ _ _ _ _ _ _ _ _ _=>z
 |i+1=>f (P1 f z i)
@[reducible] def AaJ{A0 A1 A2 A3 A4 A5 A6 A7 A8 A9 A10 B:Type}(f:(A0->A1->A2->A3->A4->A5->A6->A7->A8->A9->A10->B)->A0->A1->A2->A3->A4->A5->A6->A7->A8->A9->A10->B)(z:B):Nat->A0->A1->A2->A3->A4->A5->A6->A7->A8->A9->A10->B
 |0=>λ_ _ _ _ _ _ _ _ _ _ _=>z
 |i+1=>f (AaJ f z i)
@[reducible] def AaK{A0 A1 A2 A3 A4 A5 A6 A7 A8 A9 A10 A11 B:Type}(f:(A0->A1->A2->A3->A4->A5->A6->A7->A8->A9->A10->A11->B)->A0->A1->A2->A3->A4->A5->A6->A7->A8->A9->A10->A11->B)(z:B):Nat->A0->A1->A2->A3->A4->A5->A6->A7->A8->A9->A10->A11->B
 |0=>λ_ _ _ _ _ _ _ _ _ _ _ _=>z
 |i+1=>f (AaK f z i)
@[reducible] def AmO{A0 A1 A2 A3 A4 A5 A6 A7 A8 A9 A10 A11 A12 B:Type}(f:(A0->A1->A2->A3->A4->A5->A6->A7->A8->A9->A10->A11->A12->B)->A0->A1->A2->A3->A4->A5->A6->A7->A8->A9->A10->A11->A12->B)(z:B):Nat->A0->A1->A2->A3->A4->A5->A6->A7->A8->A9->A10->A11->A12->B
 |0=>λ_ _ _ _ _ _ _ _ _ _ _ _ _=>z
 |i+1=>f (AmO f z i)
@[reducible] def hU{A0 A1 A2 A3 A4 A5 A6 A7 A8 A9 A10 A11 A12 A13 B:Type}(f:(A0->A1->A2->A3->A4->A5->A6->A7->A8->A9->A10->A11->A12->A13->B)->A0->A1->A2->A3->A4->A5->A6->A7->A8->A9->A10->A11->A12->A13->B)(z:B):Nat->A0->A1->A2->A3->A4->A5->A6->A7->A8->A9->A10->A11->A12->A13->B
 |0=>λ_ _ _ _ _ _ _ _ _ _ _ _ _ _=>z
 |i+1=>f (hU f z i)
@[reducible] def AaL{A0 A1 A2 A3 A4 A5 A6 A7 A8 A9 A10 A11 A12 A13 A14 B:Type}(f:(A0->A1->A2->A3->A4->A5->A6->A7->A8->A9->A10->A11->A12->A13->A14->B)->A0->A1->A2->A3->A4->A5->A6->A7->A8->A9->A10->A11->A12->A13->A14->B)(z:B):Nat->A0->A1->A2->A3->A4->A5->A6->A7->A8->A9->A10->A11->A12->A13->A14->B
 |0=>λ_ _ _ _ _ _ _ _ _ _ _ _ _ _ _=>z
 |i+1=>f (AaL f z i)
@[reducible] def AaM{A0 A1 A2 A3 A4 A5 A6 A7 A8 A9 A10 A11 A12 A13 A14 A15 A16 A17 A18 A19 A20 A21 A22 A23 A24 B:Type}(f:(A0->A1->A2->A3->A4->A5->A6->A7->A8->A9->A10->A11->A12->A13->A14->A15->A16->A17->A18->A19->A20->A21->A22->A23->A24->B)->A0->A1->A2->A3->A4->A5->A6->A7->A8->A9->A10->A11->A12->A13->A14->A15->A16->A17->A18->A19->A20->A21->A22->A23->A24->B)(z:B):Nat->A0->A1->A2->A3->A4->A5->A6->A7->A8->A9->A10->A11->A12->A13->A14->A15->A16->A17->A18->A19->A20->A21->A22->A23->A24->B
 |0=>λ_ _ _ _ _ _ _ _ _ _ _ _ _ _ _ _ _ _ _ _ _ _ _ _ _=>z
 |i+1=>f (AaM f z i)
abbrev En:=Ent Tryz.prog
abbrev Pb:=PB Tryz.prog
@[reducible] noncomputable def ctx(es:List En):Ctx:=⟨look tab,gam es,false,false,false,false,[],none,0,[]⟩
theorem pf(es:List En)(cs:List Pb){ps rs:List (Bool×List CT)}{is os:List BT}{f:FuncId}{fn:Func}(vs:List RS){s:(β:Type)->VF (KF (Option β) rs os->Option β) ps is}(hf:Tryz.prog.funcs[f]?=some fn)(hc:((fn.name== "runtime.NumGoroutine"),fn.body,fn.results.toList,(Nat.beq vs.length rs.length&&(ST.tidy rs&&Nat.ble ps.length fn.ntmps)),cs.map (λb=>(find b.q 1 (Az fn),b.p.v.m,b.p.n,b.p.m)))=(false,some (Az fn),vs.map RS.toVar,true,cs.map (λb=>([b.p.c],is.length,fn.ntmps,is.length))):=by kernel_rfl)(h:∀{β:Type}(x:ST.dens ps×BT.dens is)(k:ST.dens rs×BT.dens os->Option β),exec (ctx es) fn.ntmps (cuts cs) 1 (Az fn) ((vIn (sgE ps is rs os s)).mk' x) (retK (ctx es).T (sgE ps is rs os s) vs k)=vapp ps is (s β) x (klam rs os k):=by intros;kernel_rfl):SpecOk Tryz.prog f (sgE ps is rs os λβ=>hid (s β)):=gK mixed (X:=ctx es) Bx es rfl cs vs hf hc h
theorem pfB(es:List En)(cs:List Pb){ps rs:List (Bool×List CT)}{is os:List BT}{f:FuncId}{fn:Func}(vs:List RS){s:(β:Type)->VF (KF (Option β) rs os->Option β) ps is}(hf:Tryz.prog.funcs[f]?=some fn)(hc:((fn.name== "runtime.NumGoroutine"),fn.body,fn.results.toList,(Nat.beq vs.length rs.length&&(ST.tidy rs&&Nat.ble ps.length fn.ntmps)),cs.map (λb=>(find b.q 1 (Az fn),b.p.v.m,b.p.n,b.p.m)))=(false,some (Az fn),vs.map RS.toVar,true,cs.map (λb=>([b.p.c],is.length,fn.ntmps,is.length))):=by kernel_rfl)(h:∀{β:Type}(x:ST.dens ps×BT.dens is)(k:ST.dens rs×BT.dens os->Option β),exec (ctx es) fn.ntmps (cuts cs) 1 (Az fn) ((vIn (sgE ps is rs os s)).mk' x) (retK (ctx es).T (sgE ps is rs os s) vs k)=vapp ps is (s β) x (klam rs os k):=by intros;kernel_rfl):SpecOkB Tryz.prog f (sgE ps is rs os λβ=>hid (s β)):=Ka mixed (X:=ctx es) Bx es rfl cs vs hf hc h
theorem pl{p:Pc}(es:List En)(cs:List Pb){g:Nat->(β:Type)->p.T β}(hc:((p.o.all λx=>Nat.beq x.2.m p.m),cs.map (λb=>(find b.q 1 (E1 p.c),b.p.v.m,b.p.n,b.p.m)))=(true,cs.map (λb=>([b.p.c],p.m,p.n,p.m))):=by kernel_rfl)(hv:p.v.m=p.m:=by rfl)(hl:p.c=.loop (E1 p.c):=by kernel_rfl)(h0:∀{β:Type}(d:p.v.den)(ks:Outs.K β p.o),p.un (g 0) d ks=none:=by exact λ_ _=>rfl)(h:∀(i:Nat){β:Type}(d:p.v.den)(ks:Outs.K β p.o),exec (ctx es) p.n (cuts cs) 1 (E1 p.c) (p.v.mk' d) (RF p.v (λd'=>p.un (g i) d' ks) p.o ks)=p.un (g (i+1)) d ks:=by intros;kernel_rfl):p.Ok Tryz.prog (p.un λβ=>hid (g fuel β)):=Kb mixed (X:=ctx es) Bx es rfl cs hc hv hl h0 h
theorem pe{p:Pc}(es:List En)(cs:List Pb)(q:Nat){g:(β:Type)->p.T β}(hc:((p.o.all λx=>Nat.beq x.2.m p.m),cs.map (λb=>(find b.q q p.c,b.p.v.m,b.p.n,b.p.m)))=(true,cs.map (λb=>([b.p.c],p.m,p.n,p.m))):=by kernel_rfl)(h:∀{β:Type}(d:p.v.den)(ks:Outs.K β p.o),exec (ctx es) p.n (cuts cs) q p.c (p.v.mk' d) (outK p.o ks)=p.un g d ks:=by intros;kernel_rfl):p.Ok Tryz.prog (p.un λβ=>hid (g β)):=RH mixed (X:=ctx es) Bx es rfl cs q hc h
noncomputable def au(es:List En)(ps:List (Bool×List CT))(is:List BT)(rs:List (Bool×List CT))(os:List BT){f:FuncId}{fn:Func}(vs:List RS)(hf:Tryz.prog.funcs[f]?=some fn)(hc:((fn.name== "runtime.NumGoroutine"),fn.body,fn.results.toList,(Nat.beq vs.length rs.length&&(ST.tidy rs&&Nat.ble ps.length fn.ntmps)))=(false,some (Az fn),vs.map RS.toVar,true)):En:=
 .auto mixed (X:=⟨look tab,gam es,false,false,false,false,[],none,100000,[]⟩) Bx es rfl ps is rs os vs hf hc
abbrev AmP:={β:Type}->DJ->(Bool->Option β)->Option β
def WQ:AmP:=hid λl k=>let t:=(decide ((List.length l:Int)<=(500:Int)));k t
noncomputable def AmQ:En:=⟨4,.spec (sg [H4] [] [AK] [] WQ),pf [] [] [.tmp 2] Tryz.func4⟩
abbrev AmR:={β:Type}->DJ->(BY->Option β)->Option β
def WR:AmR:=hid λl k=>k (l,0)
noncomputable def AmS:En:=⟨6,.spec (sg [H4] [] [Ax] [Do] WR),pf [] [] [.tmp 2] Tryz.func6⟩
abbrev AmT:={β:Type}->Int->BY->(Int->BY->Option β)->Option β
def Cp:AmT:=hid λn d k=>cond (decide ((List.length d.1:Int)<=d.2)) (k 0 d) (cond (decide (n<1)) (k 0 d) (cond (decide (0<=d.2)&&decide (d.2<(List.length d.1:Int))) (let e:=List.getD d.1 (Int.toNat d.2) 0;cond (!decide (n=0)) (cond (decide ((Int.tmod e n)<0)) (let x:=(IntKind.i64.wrap ((Int.tmod e n)+n));k x (d.1,(IntKind.i64.wrap (d.2+(1:Int))))) (k (Int.tmod e n) (d.1,(IntKind.i64.wrap (d.2+(1:Int)))))) none) none))
noncomputable def KZ:En:=⟨16,.spec (sg [Ax,Ac] [Do] [Ac] [Do] Cp),pf [] [] [.tmp 4] Tryz.func16⟩
abbrev AmU:={β:Type}->(Eg->Option β)->Option β
def Sb:AmU:=hid λk=>let l:=([([97,100,97]:List UInt8),([98,111,98]:List UInt8),([99,108,101,111]:List UInt8),([100,97,110]:List UInt8),([101,118,101]:List UInt8),([102,97,121]:List UInt8),([103,117,115]:List UInt8),([104,97,108]:List UInt8)]:List AD);k l
noncomputable def AaN:En:=⟨18,.spec (sg [] [] [C0] [.row 9 .str] Sb),pf [] [] [.tmp 0] Tryz.func18⟩
abbrev AmV:={β:Type}->DJ->BY->(Int->BY->Option β)->Option β
def Iv:AmV:=hid λl d k=>Cp (List.length l:Int) d (λCd Di=>cond (decide (0<=Cd)&&decide (Cd<(List.length l:Int))) (let e:=List.getD l (Int.toNat Cd) 0;k e Di) none)
noncomputable def P2:En:=⟨20,.spec (sg [Ax,H4] [Do] [Ac] [Do] Iv),pf [KZ] [] [.tmp 4] Tryz.func20⟩
abbrev AmW:={β:Type}->Int->BY->(Bool->BY->Option β)->Option β
def La:AmW:=hid λn d k=>Cp n d (λCd Di=>let t:=(decide (Cd=(IntKind.i64.wrap (n-1))));k t Di)
noncomputable def WS:En:=⟨21,.spec (sg [Ax,Ac] [Do] [AK] [Do] La),pf [KZ] [] [.tmp 4] Tryz.func21⟩
abbrev AmX:={β:Type}->Au->Int->(List CN)->(Au->Option β)->Option β
def Sc:AmX:=hid λc Et l k=>cond (decide (List.length c.2.2.2*64<=Bt)) (cond (decide (0<=Et)&&decide (Et<(List.length c.2.2.2:Int))) (let l2:=(List.set c.2.2.2 (Int.toNat Et) ((List.getD c.2.2.2 (Int.toNat Et) (([]:List UInt8),(([]:List Bz),([]:List CN)))).1,(((List.getD c.2.2.2 (Int.toNat Et) (([]:List UInt8),(([]:List Bz),([]:List CN)))).2).1,l)));k (c.1,(c.2.1,(c.2.2.1,l2)))) none) none
noncomputable def AaO:En:=⟨23,.spec (sg [Eh,Ac,RP] [] [Eh] [] Sc),pf [] [] [.cell 6 32] Tryz.func23⟩
abbrev AmY:={β:Type}->AD->(BF->Option β)->Option β
def Fk:AmY:=hid λs k=>k (0,(s,0))
noncomputable def Iw:En:=⟨32,.spec (sg [B9] [] [Iu] [] Fk),pf [] [] [.cell 2 89] Tryz.func32⟩
abbrev AmZ:={β:Type}->AD->BY->(AG->BY->Option β)->Option β
noncomputable def AaP:List En:=[KZ,P2]
abbrev AaQ(β:Type):=BY->AG->AD->Int->H3->Option β
abbrev An0(β:Type):=Int->BY->AG->AG->Option β
noncomputable def AaR:Pc:=⟨98,1,AI 31483 (Az Tryz.f43),⟨1,[0,4,5,7],[Ax,BZ,Da,Ac],[Do,Mb,Mb]⟩,[(.normal,⟨1,[4,5],[BZ,Da],[Do,Mb,.cells 79 [.data .str,.data (.int .i64),.rowh 3],.row 142 Ju]⟩)]⟩
def hZ{β:Type}(k1:AaQ β):An0 β:=λx d t4 z=>Cp 7 d (λCd Di=>Cp 48 Di (λDG GT=>let l:=([(2026,(2026,(1,(2,(Cd,((IntKind.i64.wrap (1800*DG)),x))))))]:List Cz);k1 GT t4 z.1 z.2.1 l))
def Nt{β:Type}:=hid (hZ (β:=β))
noncomputable def An1:Pb:=⟨31483,AaR,λ_=>Nt,pe (p:=AaR) AaP [] 31483 (g:=λ_=>hZ)⟩
def WT:AmZ:=hid λname d k=>let l:=([0,4,(-20),22,48,(-47)]:List Int);Iv l d (λEV Ii=>Cp 2 Ii (λCd Di=>Cp 3 Di (λDG GT=>Cp 2 GT (λL7 Ov=>let last:=(IntKind.i64.wrap (2025+L7));Cp 4 Ov (λVk Ow=>let t:=(decide (Vk=(1:Int)));cond t (let l2:=([(2025,(last,(3,(5,(6,(7200,(IntKind.i64.wrap ((IntKind.i64.wrap (900*(IntKind.i64.wrap (EV+(IntKind.i64.wrap (Cd*DG))))))+3600)))))))),(2025,(last,(10,(5,(6,(10800,(IntKind.i64.wrap (900*(IntKind.i64.wrap (EV+(IntKind.i64.wrap (Cd*DG))))))))))))]:List Cz);k (name,((IntKind.i64.wrap (900*(IntKind.i64.wrap (EV+(IntKind.i64.wrap (Cd*DG)))))),l2)) Ow) (let t2:=(decide (Vk=(2:Int)));cond t2 (Cp 4 Ow (λABe AAu=>Cp 7 AAu (λABf AAv=>Cp 24 AAv (λABg AAw=>Cp 8 AAw (λABh AAx=>Cp 2 AAx (λABi AAy=>let l2:=([2,3,5]:List Int);Iv l2 AAy (λO0 L6=>Cp 7 L6 (λABc AAs=>Cp 24 AAs (λABd AAt=>let l3:=([(2025,(last,(1,((IntKind.i64.wrap (1+ABe)),(ABf,((IntKind.i64.wrap (3600*ABg)),(IntKind.i64.wrap ((IntKind.i64.wrap (900*(IntKind.i64.wrap (EV+(IntKind.i64.wrap (Cd*DG))))))+(IntKind.i64.wrap (1800*(IntKind.i64.wrap (1+ABh)))))))))))),(2025,(last,((IntKind.i64.wrap (2+ABi)),(O0,(ABc,((IntKind.i64.wrap (3600*ABd)),(IntKind.i64.wrap (900*(IntKind.i64.wrap (EV+(IntKind.i64.wrap (Cd*DG))))))))))))]:List Cz);k (name,((IntKind.i64.wrap (900*(IntKind.i64.wrap (EV+(IntKind.i64.wrap (Cd*DG)))))),l3)) AAt))))))))) (let t3:=(decide (Vk=(3:Int)));cond t3 (let l2:=([3600,(-3600),82800,(-82800),43200]:List Int);Iv l2 Ow (λO0 L6=>let x:=(IntKind.i64.wrap ((IntKind.i64.wrap (900*(IntKind.i64.wrap (EV+(IntKind.i64.wrap (Cd*DG))))))+O0));cond (decide ((64800:Int)<x)) (Nt (λAJ t4 z z2 Dt=>k (z,(z2,Dt)) AJ) 0 L6 WF (name,((IntKind.i64.wrap (900*(IntKind.i64.wrap (EV+(IntKind.i64.wrap (Cd*DG)))))),([]:List Cz)))) (cond (decide (x<(-64800))) (Nt (λAJ t4 z z2 Dt=>k (z,(z2,Dt)) AJ) 0 L6 WF (name,((IntKind.i64.wrap (900*(IntKind.i64.wrap (EV+(IntKind.i64.wrap (Cd*DG)))))),([]:List Cz)))) (Nt (λAJ t4 z z2 Dt=>k (z,(z2,Dt)) AJ) x L6 WF (name,((IntKind.i64.wrap (900*(IntKind.i64.wrap (EV+(IntKind.i64.wrap (Cd*DG)))))),([]:List Cz))))))) (k (name,((IntKind.i64.wrap (900*(IntKind.i64.wrap (EV+(IntKind.i64.wrap (Cd*DG)))))),([]:List Cz))) Ow))))))))
noncomputable def An2:En:=⟨43,.spec (sg [Ax,B9] [Do] [HP] [Do] WT),pf AaP [An1] [.cell 4 79] Tryz.func43⟩
abbrev An3:={β:Type}->BY->(BY->BH->Option β)->Option β
noncomputable def AaS:List En:=[KZ,P2]
abbrev AaT(β:Type):=BY->BH->Option β
abbrev i6(β:Type):=Int->Int->BY->BH->Option β
noncomputable def AaU:Pc:=⟨38,1,AI 122 (Az Tryz.f44),⟨1,[0,3,4,5],[Ax,Fi,Ac,Ac],h9⟩,[(.exit 0,⟨1,[3],[Fi],h9⟩)]⟩
def WU{β:Type}(rec:i6 β)(k1:AaT β):i6 β:=λat_ i_ d out=>cond (decide ((0:Int)<i_)) (Cp 30 d (λCd Di=>Cp 2 Di (λDG GT=>let from_:=(IntKind.i64.wrap ((IntKind.i64.wrap (at_+(IntKind.i64.wrap (3600*Cd))))+(IntKind.i64.wrap (60*DG))));let l:=([3600,28800,43200,86400,61,1]:List Int);Iv l GT (λEV Ii=>let to_:=(IntKind.i64.wrap (from_+EV));cond (decide ((604800:Int)<to_)) (k1 Ii out) (let l2:=([(from_,to_)]:List BX);cond (decide ((List.length out+List.length l2)*16<=Bt)) (let l3:=(out++l2);let BB:=(IntKind.i64.wrap (i_-1));rec to_ BB Ii l3) none))))) (k1 d out)
def Sd(m:Nat){β:Type}(k1:AaT β):i6 β:=Gm (λr=>WU r k1) none m
theorem AaV{β:Type}(i:Nat)(k1):Sd (β:=β) (i+1) k1=WU (Sd i k1) k1:=rfl
def i7{β:Type}:=hid (Sd (β:=β) fuel)
noncomputable def An4:Pb:=⟨122,AaU,λ_=>i7,pl (p:=AaU) AaS [] (g:=λi _=>Sd i)⟩
def Se:An3:=hid λd k=>Cp 4 d (λCd Di=>i7 (λAJ out=>k AJ out) 0 Cd Di ([]:List BX))
noncomputable def AaW:En:=⟨44,.spec (sg [Ax] [Do] [Fi] h9 Se),pf AaS [An4] [.tmp 2] Tryz.func44⟩
def An5:Shelf.Ren:=
   {
   f:=λx=>
    match x with
    |166=>50
    |240=>98
    |276=>138
    |n=>n,
   t:=λx=>
    match x with
    |70=>103
    |9=>9
    |0=>0
    |72=>106
    |37=>104
    |127=>164
    |3=>3
    |5=>5
    |80=>115
    |4=>4
    |164=>191
    |20=>20
    |75=>112
    |n=>n,
   g:=λx=>x}
theorem An6:Go.Proofs.Lays.n166 Tryz.prog An5:=
 {
  mixed:=by kernel_rfl,
  f166:=Eq.trans Tryz.func50 (At some (by kernel_rfl)),
  f240:=Eq.trans Tryz.func98 (At some (by kernel_rfl)),
  f276:=Eq.trans Tryz.func138 (At some (by kernel_rfl)),
  t0:=Tryz.underlying0,
  a0:=Tryz.isAgg0,
  z0:=Tryz.sizeOf0,
  v0:=Tryz.zeroValue0,
  t3:=Tryz.underlying3,
  a3:=Tryz.isAgg3,
  z3:=Tryz.sizeOf3,
  v3:=Tryz.zeroValue3,
  t4:=Tryz.underlying4,
  a4:=Tryz.isAgg4,
  z4:=Tryz.sizeOf4,
  v4:=Tryz.zeroValue4,
  t9:=Tryz.underlying9,
  a9:=Tryz.isAgg9,
  z9:=Tryz.sizeOf9,
  v9:=Tryz.zeroValue9,
  t20:=Tryz.underlying20,
  a20:=Tryz.isAgg20,
  z20:=Tryz.sizeOf20,
  v20:=Tryz.zeroValue20,
  t37:=Tryz.underlying104,
  a37:=Tryz.isAgg104,
  z37:=Tryz.sizeOf104,
  v37:=Tryz.zeroValue104,
  t70:=Tryz.underlying103,
  a70:=Tryz.isAgg103,
  z70:=Tryz.sizeOf103,
  v70:=Tryz.zeroValue103,
  t72:=Tryz.underlying106,
  a72:=Tryz.isAgg106,
  z72:=Tryz.sizeOf106,
  v72:=Tryz.zeroValue106,
  t75:=Tryz.underlying112,
  a75:=Tryz.isAgg112,
  z75:=Tryz.sizeOf112,
  v75:=Tryz.zeroValue112,
  t164:=Tryz.underlying191,
  a164:=Tryz.isAgg191,
  z164:=Tryz.sizeOf191,
  v164:=Tryz.zeroValue191}
def AaX:BldF:=⟨106,5,0⟩
theorem An7:BldOk Tryz.prog 50 AaX:=
 Amq An6 {sizeBuilder:=by kernel_rfl,liesBuilder:=by kernel_rfl,t5:=Tryz.underlying5,a5:=Tryz.isAgg5,z5:=Tryz.sizeOf5,v5:=Tryz.zeroValue5,infoByte:=by kernel_rfl,cellsByte:=by kernel_rfl,sizeByte:=by kernel_rfl,neB5:=by decide} rfl rfl rfl ⟨_,Tryz.func50,by kernel_rfl,by kernel_rfl⟩
noncomputable def An8:En:=⟨_,.bld AaX,An7⟩
def An9:Shelf.Ren:=
   {
   f:=λx=>
    match x with
    |170=>51
    |n=>n,
   t:=λx=>
    match x with
    |70=>103
    |3=>3
    |0=>0
    |72=>106
    |37=>104
    |5=>5
    |n=>n,
   g:=λx=>x}
theorem Ana:Go.Proofs.Lays.n170 Tryz.prog An9:=
 {
  mixed:=by kernel_rfl,
  f170:=Eq.trans Tryz.func51 (At some (by kernel_rfl)),
  t0:=Tryz.underlying0,
  a0:=Tryz.isAgg0,
  z0:=Tryz.sizeOf0,
  v0:=Tryz.zeroValue0,
  t3:=Tryz.underlying3,
  a3:=Tryz.isAgg3,
  z3:=Tryz.sizeOf3,
  v3:=Tryz.zeroValue3,
  t37:=Tryz.underlying104,
  a37:=Tryz.isAgg104,
  z37:=Tryz.sizeOf104,
  v37:=Tryz.zeroValue104,
  t70:=Tryz.underlying103,
  a70:=Tryz.isAgg103,
  z70:=Tryz.sizeOf103,
  v70:=Tryz.zeroValue103,
  t72:=Tryz.underlying106,
  a72:=Tryz.isAgg106,
  z72:=Tryz.sizeOf106,
  v72:=Tryz.zeroValue106}
def AaY:BldF:=⟨106,5,2⟩
theorem Anb:BldOk Tryz.prog 51 AaY:=
 Ams Ana rfl rfl rfl ⟨_,Tryz.func51,by kernel_rfl,by kernel_rfl⟩
noncomputable def Anc:En:=⟨_,.bld AaY,Anb⟩
def And:Shelf.Ren:=
   {
   f:=λx=>
    match x with
    |169=>52
    |n=>n,
   t:=λx=>
    match x with
    |70=>103
    |9=>9
    |0=>0
    |72=>106
    |37=>104
    |127=>164
    |3=>3
    |5=>5
    |n=>n,
   g:=λx=>x}
theorem Ane:Go.Proofs.Lays.n169 Tryz.prog And:=
 {
  mixed:=by kernel_rfl,
  f169:=Eq.trans Tryz.func52 (At some (by kernel_rfl)),
  t0:=Tryz.underlying0,
  a0:=Tryz.isAgg0,
  z0:=Tryz.sizeOf0,
  v0:=Tryz.zeroValue0,
  t3:=Tryz.underlying3,
  a3:=Tryz.isAgg3,
  z3:=Tryz.sizeOf3,
  v3:=Tryz.zeroValue3,
  t9:=Tryz.underlying9,
  a9:=Tryz.isAgg9,
  z9:=Tryz.sizeOf9,
  v9:=Tryz.zeroValue9,
  t37:=Tryz.underlying104,
  a37:=Tryz.isAgg104,
  z37:=Tryz.sizeOf104,
  v37:=Tryz.zeroValue104,
  t70:=Tryz.underlying103,
  a70:=Tryz.isAgg103,
  z70:=Tryz.sizeOf103,
  v70:=Tryz.zeroValue103,
  t72:=Tryz.underlying106,
  a72:=Tryz.isAgg106,
  z72:=Tryz.sizeOf106,
  v72:=Tryz.zeroValue106,
  t127:=Tryz.underlying164,
  a127:=Tryz.isAgg164,
  z127:=Tryz.sizeOf164,
  v127:=Tryz.zeroValue164}
def AaZ:BldF:=⟨106,5,1⟩
theorem Anf:BldOk Tryz.prog 52 AaZ:=
 Amr Ane {sizeBuilder:=by kernel_rfl,liesBuilder:=by kernel_rfl,t5:=Tryz.underlying5,a5:=Tryz.isAgg5,z5:=Tryz.sizeOf5,v5:=Tryz.zeroValue5,infoByte:=by kernel_rfl,cellsByte:=by kernel_rfl,sizeByte:=by kernel_rfl,neB5:=by decide} rfl rfl rfl ⟨_,Tryz.func52,by kernel_rfl,by kernel_rfl⟩
noncomputable def Ang:En:=⟨_,.bld AaZ,Anf⟩
def Anh:Shelf.Ren:=
   {
   f:=λx=>
    match x with
    |146=>53
    |221=>99
    |268=>139
    |138=>140
    |143=>141
    |195=>184
    |197=>185
    |218=>186
    |219=>187
    |260=>212
    |217=>213
    |225=>214
    |224=>215
    |267=>216
    |266=>239
    |314=>240
    |n=>n,
   t:=λx=>
    match x with
    |9=>9
    |31=>57
    |3=>3
    |4=>4
    |0=>0
    |105=>242
    |21=>21
    |5=>5
    |46=>268
    |119=>195
    |139=>294
    |138=>293
    |146=>295
    |51=>248
    |n=>n,
   g:=λx=>
    match x with
    |1=>2
    |3=>3
    |4=>4
    |n=>n}
theorem Ani:Go.Proofs.Lays.n146 Tryz.prog Anh:=
 {
  mixed:=by kernel_rfl,
  f138:=Eq.trans Tryz.func140 (At some (by kernel_rfl)),
  f143:=Eq.trans Tryz.func141 (At some (by kernel_rfl)),
  f146:=Eq.trans Tryz.func53 (At some (by kernel_rfl)),
  f195:=Eq.trans Tryz.func184 (At some (by kernel_rfl)),
  f197:=Eq.trans Tryz.func185 (At some (by kernel_rfl)),
  f217:=Eq.trans Tryz.func213 (At some (by kernel_rfl)),
  f218:=Eq.trans Tryz.func186 (At some (by kernel_rfl)),
  f219:=Eq.trans Tryz.func187 (At some (by kernel_rfl)),
  f221:=Eq.trans Tryz.func99 (At some (by kernel_rfl)),
  f224:=Eq.trans Tryz.func215 (At some (by kernel_rfl)),
  f225:=Eq.trans Tryz.func214 (At some (by kernel_rfl)),
  f260:=Eq.trans Tryz.func212 (At some (by kernel_rfl)),
  f266:=Eq.trans Tryz.func239 (At some (by kernel_rfl)),
  f267:=Eq.trans Tryz.func216 (At some (by kernel_rfl)),
  f268:=Eq.trans Tryz.func139 (At some (by kernel_rfl)),
  f314:=Eq.trans Tryz.func240 (At some (by kernel_rfl)),
  t0:=Tryz.underlying0,
  a0:=Tryz.isAgg0,
  z0:=Tryz.sizeOf0,
  v0:=Tryz.zeroValue0,
  t3:=Tryz.underlying3,
  a3:=Tryz.isAgg3,
  z3:=Tryz.sizeOf3,
  v3:=Tryz.zeroValue3,
  t4:=Tryz.underlying4,
  a4:=Tryz.isAgg4,
  z4:=Tryz.sizeOf4,
  v4:=Tryz.zeroValue4,
  t5:=Tryz.underlying5,
  a5:=Tryz.isAgg5,
  z5:=Tryz.sizeOf5,
  v5:=Tryz.zeroValue5,
  t9:=Tryz.underlying9,
  a9:=Tryz.isAgg9,
  z9:=Tryz.sizeOf9,
  v9:=Tryz.zeroValue9,
  t21:=Tryz.underlying21,
  a21:=Tryz.isAgg21,
  z21:=Tryz.sizeOf21,
  v21:=Tryz.zeroValue21,
  t31:=Tryz.underlying57,
  a31:=Tryz.isAgg57,
  z31:=Tryz.sizeOf57,
  v31:=Tryz.zeroValue57,
  t46:=Tryz.underlying268,
  a46:=Tryz.isAgg268,
  z46:=Tryz.sizeOf268,
  v46:=Tryz.zeroValue268,
  t51:=Tryz.underlying248,
  a51:=Tryz.isAgg248,
  z51:=Tryz.sizeOf248,
  v51:=Tryz.zeroValue248,
  t105:=Tryz.underlying242,
  a105:=Tryz.isAgg242,
  z105:=Tryz.sizeOf242,
  v105:=Tryz.zeroValue242,
  t119:=Tryz.underlying195,
  a119:=Tryz.isAgg195,
  z119:=Tryz.sizeOf195,
  t138:=Tryz.underlying293,
  a138:=Tryz.isAgg293,
  z138:=Tryz.sizeOf293,
  v138:=Tryz.zeroValue293,
  t139:=Tryz.underlying294,
  a139:=Tryz.isAgg294,
  z139:=Tryz.sizeOf294,
  v139:=Tryz.zeroValue294,
  t146:=Tryz.underlying295,
  a146:=Tryz.isAgg295,
  z146:=Tryz.sizeOf295,
  v146:=Tryz.zeroValue295,
  g1:=by kernel_rfl,
  g3:=by kernel_rfl,
  g4:=by kernel_rfl}
abbrev Ab0:=WD
def Anj(c:Ab0):Spec:=Aak 9 c
def Sf:Ab0:=λx y k=>RM x y k
theorem Ank:SpecOk Tryz.prog 53 (Anj Sf):=
 Ame Ani rfl rfl (by kernel_rfl) (AV (by kernel_rfl)) (λw0 h0=>Go.Proofs.cell_of_shapedOpen_int (P:=Tryz.prog) (g:=2) (t:=3) (zero:=#[.int .i64 0]) h0 (AV (by kernel_rfl)) (by kernel_rfl) rfl (by kernel_rfl) (by kernel_rfl) Tryz.underlying3) ⟨_,Tryz.func53,by kernel_rfl,by kernel_rfl⟩
noncomputable def Ab1:En:=.of Ank
noncomputable def Ab2:En:=.inl mixed (X:=⟨look tab,gam ([]:List En),false,false,false,false,D9,none,0,[]⟩) (rs:=[.tmp 2]) Bx ([]:List En) rfl 1 Tryz.func56 (by kernel_rfl)
abbrev Anl:={β:Type}->AG->(AD->Option β)->Option β
def i8:Anl:=hid λz k=>k z.1
noncomputable def Anm:En:=⟨58,.spec (sg [HP] [] [B9] [] i8),pf [] [] [.tmp 2] Tryz.func58⟩
abbrev Ann:={β:Type}->Bu->(AD->Option β)->Option β
def iA:Ann:=hid λx k=>k x.1
noncomputable def Ano:En:=⟨63,.spec (sg [Ma] [] [B9] [] iA),pf [] [] [.tmp 2] Tryz.func63⟩
abbrev Anp:={β:Type}->B8->(AD->Option β)->Option β
def iB:Anp:=hid λs k=>k s.1
noncomputable def Anq:En:=⟨67,.spec (sg [RU] [] [B9] [] iB),pf [] [] [.tmp 2] Tryz.func67⟩
abbrev Anr:={β:Type}->Int->(BF->Option β)->Option β
def Sg:Anr:=hid λn k=>k (4,(([]:List UInt8),n))
noncomputable def Ans:En:=⟨70,.spec (sg [Ac] [] [Iu] [] Sg),pf [] [] [.cell 2 89] Tryz.func70⟩
abbrev Ant:={β:Type}->Int->(BF->Option β)->Option β
def Lb:Ant:=hid λn k=>k (1,(([]:List UInt8),n))
noncomputable def iC:En:=⟨71,.spec (sg [Ac] [] [Iu] [] Lb),pf [] [] [.cell 2 89] Tryz.func71⟩
abbrev Anu:={β:Type}->Int->(BF->Option β)->Option β
def P3:Anu:=hid λn k=>let l:=([([109,111,110]:List UInt8),([116,117,101]:List UInt8),([119,101,100]:List UInt8),([116,104,117]:List UInt8),([102,114,105]:List UInt8),([115,97,116]:List UInt8),([115,117,110]:List UInt8)]:List AD);cond (decide (0<=n)&&decide (n<(List.length l:Int))) (Fk (List.getD l (Int.toNat n) ([]:List UInt8)) (λD0=>k D0)) none
noncomputable def Ab3:En:=⟨72,.spec (sg [Ac] [] [Iu] [] P3),pf [Iw] [] [.cell 2 89] Tryz.func72⟩
abbrev Anv:={β:Type}->Int->(BF->Option β)->Option β
def Md:Anv:=hid λn k=>k (2,(([]:List UInt8),n))
noncomputable def iD:En:=⟨73,.spec (sg [Ac] [] [Iu] [] Md),pf [] [] [.cell 2 89] Tryz.func73⟩
abbrev Anw:={β:Type}->Int->AZ->AW->AY->Bd->BV->(BF->AZ->AW->AY->Bd->BV->Option β)->Option β
def Nu:Anw:=hid λi_ w w2 w3 w4 BL k=>cond (decide (0<=i_)&&decide (i_<(List.length w:Int))) (let e:=List.getD w (Int.toNat i_) (([]:List UInt8),(0,([]:List Cz)));Fk e.1 (λD0=>k D0 w w2 w3 w4 BL)) none
theorem Anx:SpecOkB Tryz.prog 74 (sg [Ax,Ac] DO [Iu] DO Nu):=Ka mixed (X:=⟨look tab,gam [Iw],false,false,false,false,Fj,none,0,[]⟩) Bx [Iw] rfl [] [.cell 4 89] Tryz.func74 (by kernel_rfl) λ_ _=>by kernel_rfl
noncomputable def WV:En:=.handf Anx rfl (by kernel_rfl)
noncomputable def Ab4:En:=.inl mixed (X:=⟨look tab,gam ([]:List En),false,false,false,false,[],none,0,[]⟩) (rs:=[.tmp 4]) Bx ([]:List En) rfl 2 Tryz.func76 (by kernel_rfl)
abbrev Anz:={β:Type}->Int->AZ->AW->AY->Bd->BV->(BF->AZ->AW->AY->Bd->BV->Option β)->Option β
def FY:Anz:=hid λi_ w w2 w3 w4 BL k=>cond (decide (i_<0)) (Fk ([110,111,98,111,100,121]:List UInt8) (λD0=>k D0 w w2 w3 w4 BL)) (cond (decide (0<=i_)&&decide (i_<(List.length w2:Int))) (let e:=List.getD w2 (Int.toNat i_) (([]:List UInt8),(0,(([]:List BX),(0,(0,false)))));Fk e.1 (λD0=>k D0 w w2 w3 w4 BL)) none)
theorem AnA:SpecOkB Tryz.prog 79 (sg [Ax,Ac] DO [Iu] DO FY):=Ka mixed (X:=⟨look tab,gam [Iw],false,false,false,false,Fj,none,0,[]⟩) Bx [Iw] rfl [] [.cell 4 89] Tryz.func79 (by kernel_rfl) λ_ _=>by kernel_rfl
noncomputable def iE:En:=.handf AnA rfl (by kernel_rfl)
noncomputable def AnB:En:=.inl mixed (X:=⟨look tab,gam [iE],false,false,false,false,[],none,13,[]⟩) (rs:=[.tmp 4]) Bx [iE] rfl 13 Tryz.func77 (by kernel_rfl)
abbrev AnC:={β:Type}->Int->(BF->Option β)->Option β
def P4:AnC:=hid λn k=>k (3,(([]:List UInt8),n))
noncomputable def Ab5:En:=⟨78,.spec (sg [Ac] [] [Iu] [] P4),pf [] [] [.cell 2 89] Tryz.func78⟩
abbrev AnD:={β:Type}->Int->(BF->Option β)->Option β
def Sh:AnD:=hid λn k=>k (5,(([]:List UInt8),n))
noncomputable def AnE:En:=⟨80,.spec (sg [Ac] [] [Iu] [] Sh),pf [] [] [.cell 2 89] Tryz.func80⟩
noncomputable def AnF:En:=au ([]:List En) [He,He] [] [AK] [] [.tmp 4] Tryz.func81 (by kernel_rfl)
noncomputable def Ab6:En:=au ([]:List En) [It,It] [] [AK] [] [.tmp 4] Tryz.func82 (by kernel_rfl)
noncomputable def Ab7:En:=au ([]:List En) [H4,H4] [] [AK] [] [.tmp 4] Tryz.func83 (by kernel_rfl)
noncomputable def AnG:En:=au [Ab6,Ab7] [Mc,Mc] [] [AK] [] [.tmp 4] Tryz.func85 (by kernel_rfl)
noncomputable def AnH:En:=au ([]:List En) [RP,RP] [] [AK] [] [.tmp 4] Tryz.func86 (by kernel_rfl)
abbrev AnI:={β:Type}->AG->(Bool->Option β)->Option β
abbrev Ab8(β:Type):=Bool->Option β
abbrev iF(β:Type):=Bool->Int->AG->Option β
noncomputable def Ab9:Pc:=⟨28,0,AI 58 (Az Tryz.f89),⟨0,[1,3,4],[Ax,AK,Ac],[Mb]⟩,[(.exit 0,⟨0,[3],[AK],[]⟩)]⟩
def WW{β:Type}(rec:iF β)(k1:Ab8 β):iF β:=λok i_ z=>cond (decide (i_<(List.length z.2.2:Int))) (cond ok (cond (decide (0<=i_)&&decide (i_<(List.length z.2.2:Int))) (let e:=List.getD z.2.2 (Int.toNat i_) (0,(0,(0,(0,(0,(0,0))))));let ok2:=(decide ((Int.tmod e.2.2.2.2.2.2 60)=0));let BB:=(IntKind.i64.wrap (i_+1));rec ok2 BB z) none) (let BB:=(IntKind.i64.wrap (i_+1));rec false BB z)) (k1 ok)
def Si(m:Nat){β:Type}(k1:Ab8 β):iF β:=FX (λr=>WW r k1) none m
theorem Aba{β:Type}(i:Nat)(k1):Si (β:=β) (i+1) k1=WW (Si i k1) k1:=rfl
def iG{β:Type}:=hid (Si (β:=β) fuel)
noncomputable def AnJ:Pb:=⟨58,Ab9,λ_=>iG,pl (p:=Ab9) [] [] (g:=λi _=>Si i)⟩
def WX:AnI:=hid λz k=>let ok:=(decide ((Int.tmod z.2.1 60)=0));iG (λok2=>k ok2) ok 0 z
noncomputable def AnK:En:=⟨89,.spec (sg [HP] [] [AK] [] WX),pf [] [AnJ] [.tmp 2] Tryz.func89⟩
abbrev AnL:={β:Type}->Int->Int->Int->(Bool->Option β)->Option β
def FK:AnL:=hid λn lo hi k=>cond (decide (lo<=n)) (k (decide (n<=hi))) (k false)
noncomputable def Sj:En:=⟨90,.spec (sg [Ac,Ac,Ac] [] [AK] [] FK),pf [] [] [.tmp 6] Tryz.func90⟩
abbrev AnM:={β:Type}->BH->(Int->Option β)->Option β
abbrev Abb(β:Type):=Int->Option β
abbrev Abc(β:Type):=Unit->Option β
abbrev iH(β:Type):=BH->Int->Option β
noncomputable def Abd:Pc:=⟨56,0,AI 58 (Az Tryz.f91),⟨0,[0,3],[It,Ac],[]⟩,[(.ret,⟨0,[2],[Ac],[]⟩),(.exit 0,⟨0,[],[],[]⟩)]⟩
def WY{β:Type}(rec:iH β)(k1:Abb β)(k2:Abc β):iH β:=λl i_=>cond (decide (i_<(List.length l:Int))) (cond (decide (0<=i_)&&decide (i_<(List.length l:Int))) (let e:=List.getD l (Int.toNat i_) (0,0);cond (decide (e.1<(0:Int))) (k1 1) (cond (decide (0<=i_)&&decide (i_<(List.length l:Int))) (let e2:=List.getD l (Int.toNat i_) (0,0);cond (decide (0<=i_)&&decide (i_<(List.length l:Int))) (let e3:=List.getD l (Int.toNat i_) (0,0);cond (decide (e3.2<=e2.1)) (k1 1) (cond (decide (0<=i_)&&decide (i_<(List.length l:Int))) (let e4:=List.getD l (Int.toNat i_) (0,0);cond (decide ((604800:Int)<e4.2)) (k1 1) (cond (decide ((0:Int)<i_)) (cond (decide (0<=i_)&&decide (i_<(List.length l:Int))) (let e5:=List.getD l (Int.toNat i_) (0,0);cond (decide (0<=(IntKind.i64.wrap (i_-1)))&&decide ((IntKind.i64.wrap (i_-1))<(List.length l:Int))) (let e6:=List.getD l (Int.toNat (IntKind.i64.wrap (i_-1))) (0,0);cond (decide (e5.1<e6.2)) (k1 6) (let BB:=(IntKind.i64.wrap (i_+1));rec l BB)) none) none) (let BB:=(IntKind.i64.wrap (i_+1));rec l BB))) none)) none) none)) none) (k2 ())
def Sk(m:Nat){β:Type}(k1:Abb β)(k2:Abc β):iH β:=WP (λr=>WY r k1 k2) none m
theorem Abe{β:Type}(i:Nat)(k1 k2):Sk (β:=β) (i+1) k1 k2=WY (Sk i k1 k2) k1 k2:=rfl
def iI{β:Type}:=hid (Sk (β:=β) fuel)
noncomputable def AnN:Pb:=⟨58,Abd,λ_=>iI,pl (p:=Abd) [] [] (g:=λi _=>Sk i)⟩
def Sm:AnM:=hid λl k=>cond (decide ((14:Int)<(List.length l:Int))) (k 5) (iI (λt2=>k t2) (λ_=>k 0) l 0)
noncomputable def Abf:En:=⟨91,.spec (sg [It] [] [Ac] [] Sm),pf [] [AnN] [.tmp 2] Tryz.func91⟩
abbrev AnO:={β:Type}->Int->(Bool->Option β)->Option β
def Sn:AnO:=hid λn k=>FK n 0 604800 (λDj=>cond Dj (let t:=(decide ((Int.tmod n 3600)=0));k t) (k false))
noncomputable def AnP:En:=⟨92,.spec (sg [Ac] [] [AK] [] Sn),pf [Sj] [] [.tmp 2] Tryz.func92⟩
def AnQ:Shelf.Ren:=
   {
   f:=λx=>
    match x with
    |156=>97
    |165=>137
    |166=>50
    |169=>52
    |240=>98
    |241=>183
    |276=>138
    |277=>211
    |n=>n,
   t:=λx=>
    match x with
    |31=>57
    |9=>9
    |3=>3
    |4=>4
    |0=>0
    |20=>20
    |72=>106
    |76=>113
    |70=>103
    |37=>104
    |75=>112
    |127=>164
    |164=>191
    |5=>5
    |80=>115
    |n=>n,
   g:=λx=>x}
theorem AnR:Go.Proofs.Lays.n156 Tryz.prog AnQ:=
 {
  mixed:=by kernel_rfl,
  f156:=Eq.trans Tryz.func97 (At some (by kernel_rfl)),
  f165:=Eq.trans Tryz.func137 (At some (by kernel_rfl)),
  f166:=Eq.trans Tryz.func50 (At some (by kernel_rfl)),
  f169:=Eq.trans Tryz.func52 (At some (by kernel_rfl)),
  f240:=Eq.trans Tryz.func98 (At some (by kernel_rfl)),
  f241:=Eq.trans Tryz.func183 (At some (by kernel_rfl)),
  f276:=Eq.trans Tryz.func138 (At some (by kernel_rfl)),
  f277:=Eq.trans Tryz.func211 (At some (by kernel_rfl)),
  t0:=Tryz.underlying0,
  a0:=Tryz.isAgg0,
  z0:=Tryz.sizeOf0,
  v0:=Tryz.zeroValue0,
  t3:=Tryz.underlying3,
  a3:=Tryz.isAgg3,
  z3:=Tryz.sizeOf3,
  v3:=Tryz.zeroValue3,
  t4:=Tryz.underlying4,
  a4:=Tryz.isAgg4,
  z4:=Tryz.sizeOf4,
  v4:=Tryz.zeroValue4,
  t9:=Tryz.underlying9,
  a9:=Tryz.isAgg9,
  z9:=Tryz.sizeOf9,
  v9:=Tryz.zeroValue9,
  t20:=Tryz.underlying20,
  a20:=Tryz.isAgg20,
  z20:=Tryz.sizeOf20,
  v20:=Tryz.zeroValue20,
  t31:=Tryz.underlying57,
  a31:=Tryz.isAgg57,
  z31:=Tryz.sizeOf57,
  v31:=Tryz.zeroValue57,
  t37:=Tryz.underlying104,
  a37:=Tryz.isAgg104,
  z37:=Tryz.sizeOf104,
  v37:=Tryz.zeroValue104,
  t70:=Tryz.underlying103,
  a70:=Tryz.isAgg103,
  z70:=Tryz.sizeOf103,
  v70:=Tryz.zeroValue103,
  t72:=Tryz.underlying106,
  a72:=Tryz.isAgg106,
  z72:=Tryz.sizeOf106,
  v72:=Tryz.zeroValue106,
  t75:=Tryz.underlying112,
  a75:=Tryz.isAgg112,
  z75:=Tryz.sizeOf112,
  v75:=Tryz.zeroValue112,
  t76:=Tryz.underlying113,
  a76:=Tryz.isAgg113,
  z76:=Tryz.sizeOf113,
  v76:=Tryz.zeroValue113,
  t127:=Tryz.underlying164,
  a127:=Tryz.isAgg164,
  z127:=Tryz.sizeOf164,
  v127:=Tryz.zeroValue164,
  t164:=Tryz.underlying191,
  a164:=Tryz.isAgg191,
  z164:=Tryz.sizeOf191,
  v164:=Tryz.zeroValue191}
def Abg:BldF:=⟨9,0,3⟩
theorem AnS:BldOk Tryz.prog 97 Abg:=
 Amt AnR {sizeBuilder:=by kernel_rfl,liesBuilder:=by kernel_rfl,t5:=Tryz.underlying5,a5:=Tryz.isAgg5,z5:=Tryz.sizeOf5,v5:=Tryz.zeroValue5,infoByte:=by kernel_rfl,cellsByte:=by kernel_rfl,sizeByte:=by kernel_rfl,neB5:=by decide} rfl ⟨_,Tryz.func97,by kernel_rfl,by kernel_rfl⟩
noncomputable def AnT:En:=⟨_,.bld Abg,AnS⟩
def AnU:Shelf.Ren:=
   {
   f:=λx=>
    match x with
    |145=>100
    |220=>142
    |219=>187
    |217=>213
    |225=>214
    |224=>215
    |267=>216
    |266=>239
    |314=>240
    |n=>n,
   t:=λx=>
    match x with
    |9=>9
    |4=>4
    |59=>166
    |3=>3
    |5=>5
    |46=>268
    |146=>295
    |51=>248
    |n=>n,
   g:=λx=>
    match x with
    |1=>2
    |n=>n}
theorem AnV:Go.Proofs.Lays.n145 Tryz.prog AnU:=
 {
  mixed:=by kernel_rfl,
  f145:=Eq.trans Tryz.func100 (At some (by kernel_rfl)),
  f217:=Eq.trans Tryz.func213 (At some (by kernel_rfl)),
  f219:=Eq.trans Tryz.func187 (At some (by kernel_rfl)),
  f220:=Eq.trans Tryz.func142 (At some (by kernel_rfl)),
  f224:=Eq.trans Tryz.func215 (At some (by kernel_rfl)),
  f225:=Eq.trans Tryz.func214 (At some (by kernel_rfl)),
  f266:=Eq.trans Tryz.func239 (At some (by kernel_rfl)),
  f267:=Eq.trans Tryz.func216 (At some (by kernel_rfl)),
  f314:=Eq.trans Tryz.func240 (At some (by kernel_rfl)),
  t3:=Tryz.underlying3,
  a3:=Tryz.isAgg3,
  z3:=Tryz.sizeOf3,
  v3:=Tryz.zeroValue3,
  t4:=Tryz.underlying4,
  a4:=Tryz.isAgg4,
  z4:=Tryz.sizeOf4,
  v4:=Tryz.zeroValue4,
  t5:=Tryz.underlying5,
  a5:=Tryz.isAgg5,
  z5:=Tryz.sizeOf5,
  v5:=Tryz.zeroValue5,
  t9:=Tryz.underlying9,
  a9:=Tryz.isAgg9,
  z9:=Tryz.sizeOf9,
  v9:=Tryz.zeroValue9,
  t46:=Tryz.underlying268,
  a46:=Tryz.isAgg268,
  z46:=Tryz.sizeOf268,
  v46:=Tryz.zeroValue268,
  t51:=Tryz.underlying248,
  a51:=Tryz.isAgg248,
  z51:=Tryz.sizeOf248,
  v51:=Tryz.zeroValue248,
  t59:=Tryz.underlying166,
  a59:=Tryz.isAgg166,
  z59:=Tryz.sizeOf166,
  v59:=Tryz.zeroValue166,
  t146:=Tryz.underlying295,
  a146:=Tryz.isAgg295,
  z146:=Tryz.sizeOf295,
  v146:=Tryz.zeroValue295,
  g1:=by kernel_rfl}
abbrev Abh:=cutT
def AnW(c:Abh):Spec:=cutS c
def Abi:Abh:=λx y k=>cutF x y k
theorem AnX:SpecOk Tryz.prog 100 (AnW Abi):=
 Am9 AnV rfl (AV (by kernel_rfl)) (λw0 h0=>Go.Proofs.cell_of_shapedOpen_int (P:=Tryz.prog) (g:=2) (t:=3) (zero:=#[.int .i64 0]) h0 (AV (by kernel_rfl)) (by kernel_rfl) rfl (by kernel_rfl) (by kernel_rfl) Tryz.underlying3) ⟨_,Tryz.func100,by kernel_rfl,by kernel_rfl⟩
noncomputable def AnY:En:=.of AnX
def iJ:Shelf.Ren:=
   {
   f:=λx=>
    match x with
    |157=>101
    |229=>143
    |199=>144
    |261=>188
    |311=>217
    |312=>218
    |n=>n,
   t:=λx=>
    match x with
    |9=>9
    |31=>57
    |3=>3
    |5=>5
    |4=>4
    |119=>195
    |0=>0
    |40=>197
    |152=>245
    |21=>21
    |154=>247
    |51=>248
    |141=>250
    |196=>272
    |193=>269
    |198=>275
    |49=>273
    |194=>270
    |201=>278
    |226=>297
    |46=>268
    |227=>298
    |n=>n,
   g:=λx=>
    match x with
    |0=>0
    |6=>1
    |n=>n}
theorem Abj:Go.Proofs.Lays.n157 Tryz.prog iJ:=
 {
  mixed:=by kernel_rfl,
  f157:=Eq.trans Tryz.func101 (At some (by kernel_rfl)),
  f199:=Eq.trans Tryz.func144 (At some (by kernel_rfl)),
  f229:=Eq.trans Tryz.func143 (At some (by kernel_rfl)),
  f261:=Eq.trans Tryz.func188 (At some (by kernel_rfl)),
  f311:=Eq.trans Tryz.func217 (At some (by kernel_rfl)),
  f312:=Eq.trans Tryz.func218 (At some (by kernel_rfl)),
  t0:=Tryz.underlying0,
  a0:=Tryz.isAgg0,
  z0:=Tryz.sizeOf0,
  v0:=Tryz.zeroValue0,
  t3:=Tryz.underlying3,
  a3:=Tryz.isAgg3,
  z3:=Tryz.sizeOf3,
  v3:=Tryz.zeroValue3,
  t4:=Tryz.underlying4,
  a4:=Tryz.isAgg4,
  z4:=Tryz.sizeOf4,
  v4:=Tryz.zeroValue4,
  t5:=Tryz.underlying5,
  a5:=Tryz.isAgg5,
  z5:=Tryz.sizeOf5,
  v5:=Tryz.zeroValue5,
  t9:=Tryz.underlying9,
  a9:=Tryz.isAgg9,
  z9:=Tryz.sizeOf9,
  v9:=Tryz.zeroValue9,
  t21:=Tryz.underlying21,
  a21:=Tryz.isAgg21,
  z21:=Tryz.sizeOf21,
  v21:=Tryz.zeroValue21,
  t31:=Tryz.underlying57,
  a31:=Tryz.isAgg57,
  z31:=Tryz.sizeOf57,
  v31:=Tryz.zeroValue57,
  t40:=Tryz.underlying197,
  a40:=Tryz.isAgg197,
  z40:=Tryz.sizeOf197,
  v40:=Tryz.zeroValue197,
  t46:=Tryz.underlying268,
  a46:=Tryz.isAgg268,
  z46:=Tryz.sizeOf268,
  v46:=Tryz.zeroValue268,
  t49:=Tryz.underlying273,
  a49:=Tryz.isAgg273,
  z49:=Tryz.sizeOf273,
  v49:=Tryz.zeroValue273,
  t51:=Tryz.underlying248,
  a51:=Tryz.isAgg248,
  z51:=Tryz.sizeOf248,
  v51:=Tryz.zeroValue248,
  t119:=Tryz.underlying195,
  a119:=Tryz.isAgg195,
  z119:=Tryz.sizeOf195,
  t141:=Tryz.underlying250,
  a141:=Tryz.isAgg250,
  z141:=Tryz.sizeOf250,
  v141:=Tryz.zeroValue250,
  t152:=Tryz.underlying245,
  a152:=Tryz.isAgg245,
  z152:=Tryz.sizeOf245,
  v152:=Tryz.zeroValue245,
  t154:=Tryz.underlying247,
  a154:=Tryz.isAgg247,
  z154:=Tryz.sizeOf247,
  v154:=Tryz.zeroValue247,
  t193:=Tryz.underlying269,
  a193:=Tryz.isAgg269,
  z193:=Tryz.sizeOf269,
  v193:=Tryz.zeroValue269,
  t194:=Tryz.underlying270,
  a194:=Tryz.isAgg270,
  z194:=Tryz.sizeOf270,
  v194:=Tryz.zeroValue270,
  t196:=Tryz.underlying272,
  a196:=Tryz.isAgg272,
  z196:=Tryz.sizeOf272,
  v196:=Tryz.zeroValue272,
  t198:=Tryz.underlying275,
  a198:=Tryz.isAgg275,
  z198:=Tryz.sizeOf275,
  v198:=Tryz.zeroValue275,
  t201:=Tryz.underlying278,
  a201:=Tryz.isAgg278,
  z201:=Tryz.sizeOf278,
  v201:=Tryz.zeroValue278,
  t226:=Tryz.underlying297,
  a226:=Tryz.isAgg297,
  z226:=Tryz.sizeOf297,
  v226:=Tryz.zeroValue297,
  t227:=Tryz.underlying298,
  a227:=Tryz.isAgg298,
  z227:=Tryz.sizeOf298,
  v227:=Tryz.zeroValue298,
  g0:=by kernel_rfl,
  g6:=by kernel_rfl}
abbrev Abk:=gU
def AnZ(c:Abk):Spec:=Aam 9 c
def iK:Abk:=λx k=>gV x k
theorem Ao0:SpecOk Tryz.prog 101 (AnZ iK):=
 Amh Abj rfl rfl (by kernel_rfl) (by kernel_rfl) (by kernel_rfl) (by kernel_rfl) ⟨_,Tryz.func101,by kernel_rfl,by kernel_rfl⟩
noncomputable def Abl:En:=.of Ao0
noncomputable def Abm:En:=.hand (Is mixed (X:=⟨look tab,gam ([]:List En),false,false,false,false,D9,none,100000,[]⟩) Bx ([]:List En) rfl (ps:=[Ax,EC]) (is:=EP) (rs:=[Ac]) (os:=EP) [.tmp 4] Tryz.func105 (by kernel_rfl)) rfl (by kernel_rfl)
noncomputable def Abn:En:=.hand (Is mixed (X:=⟨look tab,gam ([]:List En),false,false,false,false,D9,none,100000,[]⟩) Bx ([]:List En) rfl (ps:=[Ax,EC]) (is:=EP) (rs:=[Ac]) (os:=EP) [.tmp 4] Tryz.func111 (by kernel_rfl)) rfl (by kernel_rfl)
abbrev Ao1:={β:Type}->Cz->(Bool->Option β)->Option β
def iL:Ao1:=hid λr_ k=>let t:=(!decide ((Int.tmod r_.2.2.2.2.2.2 60)=0));k t
noncomputable def Ao2:En:=⟨119,.spec (sg [(true,[.data Ju])] [] [AK] [] iL),pf [] [] [.tmp 2] Tryz.func119⟩
abbrev Ao3:={β:Type}->Int->Int->(Bool->Option β)->Option β
def Kh:Ao3:=hid λi_ n k=>cond (decide ((0:Int)<=i_)) (k (decide (i_<n))) (k false)
noncomputable def So:En:=⟨121,.spec (sg [Ac,Ac] [] [AK] [] Kh),pf [] [] [.tmp 4] Tryz.func121⟩
abbrev Ao4:={β:Type}->BH->(Int->Option β)->Option β
abbrev Abo(β:Type):=Int->Option β
abbrev Abp(β:Type):=Unit->Option β
abbrev iM(β:Type):=BH->BH->Int->Int->Option β
noncomputable def iN:Pc:=⟨46,0,AI 58 (Az Tryz.f122),⟨0,[0,8,9,10],[It,It,Ac,Ac],[]⟩,[(.ret,⟨0,[2],[Ac],[]⟩),(.exit 0,⟨0,[],[],[]⟩)]⟩
abbrev Ao5(β:Type):=Int->Option β
abbrev Ao6(β:Type):=BH->BH->Int->Int->Option β
abbrev Ao7(β:Type):=BH->Int->BH->Int->Int->Bool->BX->Option β
noncomputable def Abq:Pc:=⟨46,0,AI 229 (E1 iN.c),⟨0,[0,3,4,8,9,10,15],[It,Ac,Ax,It,Ac,Ac,AK],[.cells 151 [.data (.prod (.int .i64) (.int .i64))]]⟩,[(.ret,⟨0,[2],[Ac],[]⟩),(.normal,⟨0,[0,8,9,10],[It,It,Ac,Ac],[]⟩)]⟩
def iO{β:Type}(k1:Ao5 β)(k2:Ao6 β):Ao7 β:=λl i_ t8 t9 EK B7 w=>cond B7 (k1 1) (cond (decide ((0:Int)<i_)) (cond (decide (0<=(IntKind.i64.wrap (i_-1)))&&decide ((IntKind.i64.wrap (i_-1))<(List.length l:Int))) (let e:=List.getD l (Int.toNat (IntKind.i64.wrap (i_-1))) (0,0);cond (decide (w.1<e.2)) (k1 6) (k2 l t8 t9 EK)) none) (k2 l t8 t9 EK))
def P5{β:Type}:=hid (iO (β:=β))
noncomputable def Ao8:Pb:=⟨229,Abq,λ_=>P5,pe (p:=Abq) [] [] 229 (g:=λ_=>iO)⟩
def WZ{β:Type}(rec:iM β)(k1:Abo β)(k2:Abp β):iM β:=λl t8 t9 EK=>cond (decide (EK<t9)) (cond (decide (0<=EK)&&decide (EK<(List.length t8:Int))) (let e:=List.getD t8 (Int.toNat EK) (0,0);cond (decide (e.1<(0:Int))) (P5 (λt2=>k1 t2) (λl2 O9 OA O3=>rec l2 O9 OA (IntKind.i64.wrap (O3+(1:Int)))) l EK t8 t9 EK true e) (cond (decide (e.2<=e.1)) (P5 (λt2=>k1 t2) (λl2 O9 OA O3=>rec l2 O9 OA (IntKind.i64.wrap (O3+(1:Int)))) l EK t8 t9 EK true e) (let t:=(decide ((604800:Int)<e.2));P5 (λt2=>k1 t2) (λl2 O9 OA O3=>rec l2 O9 OA (IntKind.i64.wrap (O3+(1:Int)))) l EK t8 t9 EK t e))) none) (k2 ())
def Nv(m:Nat){β:Type}(k1:Abo β)(k2:Abp β):iM β:=Gm (λr=>WZ r k1 k2) none m
theorem Abr{β:Type}(i:Nat)(k1 k2):Nv (β:=β) (i+1) k1 k2=WZ (Nv i k1 k2) k1 k2:=rfl
def iP{β:Type}:=hid (Nv (β:=β) fuel)
noncomputable def Ao9:Pb:=⟨58,iN,λ_=>iP,pl (p:=iN) [] [Ao8] (g:=λi _=>Nv i)⟩
def Sp:Ao4:=hid λl k=>cond (decide ((14:Int)<(List.length l:Int))) (k 5) (iP (λt2=>k t2) (λ_=>k 0) l l (List.length l:Int) 0)
noncomputable def Abs:En:=⟨122,.spec (sg [It] [] [Ac] [] Sp),pf [] [Ao9] [.tmp 2] Tryz.func122⟩
abbrev Aoa:={β:Type}->Bz->(AD->Option β)->Option β
def iQ:Aoa:=hid λl k=>k l.1
noncomputable def Aob:En:=⟨128,.spec (sg [Mc] [] [B9] [] iQ),pf [] [] [.tmp 2] Tryz.func128⟩
abbrev Aoc:={β:Type}->Int->(Int->Option β)->Option β
def Sq:Aoc:=hid λy k=>let t:=(IntKind.i64.wrap ((IntKind.i64.wrap ((IntKind.i64.wrap ((IntKind.i64.wrap ((IntKind.i64.wrap (y-1970))*365))+(IntKind.i64.wrap (Int.tdiv (IntKind.i64.wrap (y-1969)) 4))))-(IntKind.i64.wrap (Int.tdiv (IntKind.i64.wrap (y-1901)) 100))))+(IntKind.i64.wrap (Int.tdiv (IntKind.i64.wrap (y-1601)) 400))));k t
noncomputable def Abt:En:=⟨135,.spec (sg [Ac] [] [Ac] [] Sq),pf [] [] [.tmp 2] Tryz.func135⟩
abbrev Aod:={β:Type}->IW->AD->(Bool->AD->Option β)->Option β
def Abu:Aod:=hid λf t1 k=>k (decide (f.1=t1)) t1
noncomputable def Aoe:En:=⟨147,.spec (sg [(true,[.data KV]),Ax] [Kg] [AK] [Kg] Abu),pf [] [] [.tmp 3] Tryz.func147⟩
abbrev Aof:={β:Type}->BF->AD->(Bool->Option β)->Option β
def iR:Aof:=hid λt s k=>cond (decide (t.1=(0:Int))) (k (decide (t.2.1=s))) (k false)
noncomputable def Aog:En:=⟨148,.spec (sg [Iu,B9] [] [AK] [] iR),pf [] [] [.tmp 4] Tryz.func148⟩
noncomputable def Abv:En:=.inl mixed (X:=⟨look tab,gam ([]:List En),false,false,false,false,D9,none,0,[]⟩) (rs:=[.tmp 2]) Bx ([]:List En) rfl 0 Tryz.func152 (by kernel_rfl)
noncomputable def Abw:En:=.inl mixed (X:=⟨look tab,gam ([]:List En),false,false,false,false,D9,none,0,[]⟩) (rs:=[.tmp 2]) Bx ([]:List En) rfl 0 Tryz.func153 (by kernel_rfl)
abbrev Aoh:={β:Type}->AG->(AD->Option β)->Option β
noncomputable def Aoi:Aoh:=Jt ⟨look tab,gam ([]:List En),false,false,false,false,D9,none,100000,[]⟩ Tryz.f197 [HP] [] [B9] [] [.tmp 2]
noncomputable def Abx:En:=⟨197,.spec (sg [HP] [] [B9] [] Aoi),(LX mixed (X:=⟨look tab,gam ([]:List En),false,false,false,false,D9,none,100000,[]⟩) Bx ([]:List En) rfl [.tmp 2] Tryz.func197 (by kernel_rfl)).spec⟩
noncomputable def iS:En:=.inl mixed (X:=⟨look tab,gam [Abx],false,false,false,false,[],none,0,[]⟩) (rs:=[.tmp 4]) Bx [Abx] rfl 1 Tryz.func223 (by kernel_rfl)
abbrev Aoj:={β:Type}->AZ->AD->(Int->AD->Option β)->Option β
noncomputable def Aok:Aoj:=Jt ⟨look tab,gam [iS],false,false,false,false,[],none,100000,[]⟩ Tryz.f222 [Np,(false,[.fn 223 [0,1]])] WO [Ac] WO [.tmp 4]
noncomputable def Aby:En:=⟨222,.spec (sg [Np,(false,[.fn 223 [0,1]])] WO [Ac] WO Aok),(LX mixed (X:=⟨look tab,gam [iS],false,false,false,false,[],none,100000,[]⟩) Bx [iS] rfl [.tmp 4] Tryz.func222 (by kernel_rfl)).spec⟩
noncomputable def Abz:En:=.inl mixed (X:=⟨look tab,gam [Aby],false,false,false,false,[],none,0,[]⟩) (rs:=[.tmp 6,.tmp 7]) Bx [Aby] rfl 2 Tryz.func196 (by kernel_rfl)
noncomputable def P6:En:=.inl mixed (X:=⟨look tab,gam [Abz],false,false,false,false,D9,none,0,[]⟩) (rs:=[.tmp 4,.tmp 5]) Bx [Abz] rfl 2 Tryz.func154 (by kernel_rfl)
noncomputable def IY:En:=au ([]:List En) [AK] [] [Ac] [] [.tmp 2] Tryz.func155 (by kernel_rfl)
noncomputable def AbA:En:=.inl mixed (X:=⟨look tab,gam ([]:List En),false,false,false,false,D9,none,0,[]⟩) (rs:=[.tmp 2]) Bx ([]:List En) rfl 0 Tryz.func157 (by kernel_rfl)
noncomputable def AbB:En:=.inl mixed (X:=⟨look tab,gam ([]:List En),false,false,false,false,D9,none,0,[]⟩) (rs:=[.tmp 2]) Bx ([]:List En) rfl 0 Tryz.func158 (by kernel_rfl)
noncomputable def AbC:En:=.inl mixed (X:=⟨look tab,gam ([]:List En),false,false,false,false,D9,none,0,[]⟩) (rs:=[.tmp 2]) Bx ([]:List En) rfl 0 Tryz.func159 (by kernel_rfl)
noncomputable def AbD:En:=.inl mixed (X:=⟨look tab,gam ([]:List En),false,false,false,false,D9,none,0,[]⟩) (rs:=[.tmp 2]) Bx ([]:List En) rfl 0 Tryz.func160 (by kernel_rfl)
abbrev Aol:={β:Type}->Eg->AD->(Int->Option β)->Option β
noncomputable def AbE:Aol:=Jt ⟨look tab,gam ([]:List En),false,false,false,false,[],none,100000,[]⟩ Tryz.f161 [WI,B9] [] [Ac] [] [.tmp 4]
noncomputable def Sr:En:=⟨161,.spec (sg [WI,B9] [] [Ac] [] AbE),(LX mixed (X:=⟨look tab,gam ([]:List En),false,false,false,false,[],none,100000,[]⟩) Bx ([]:List En) rfl [.tmp 4] Tryz.func161 (by kernel_rfl)).spec⟩
noncomputable def P7:En:=.inl mixed (X:=⟨look tab,gam ([]:List En),false,false,false,false,D9,none,0,[]⟩) (rs:=[.tmp 2]) Bx ([]:List En) rfl 0 Tryz.func162 (by kernel_rfl)
noncomputable def Xa:En:=.inl mixed (X:=⟨look tab,gam ([]:List En),false,false,false,false,D9,none,0,[]⟩) (rs:=[.tmp 2]) Bx ([]:List En) rfl 0 Tryz.func163 (by kernel_rfl)
noncomputable def AbF:En:=.inl mixed (X:=⟨look tab,gam ([]:List En),false,false,false,false,D9,none,0,[]⟩) (rs:=[.tmp 2]) Bx ([]:List En) rfl 0 Tryz.func198 (by kernel_rfl)
noncomputable def P8:En:=.inl mixed (X:=⟨look tab,gam [AbF,P7],false,false,false,false,D9,none,0,[]⟩) (rs:=[.tmp 2]) Bx [AbF,P7] rfl 0 Tryz.func164 (by kernel_rfl)
noncomputable def P9:En:=.inl mixed (X:=⟨look tab,gam ([]:List En),false,false,false,false,D9,none,0,[]⟩) (rs:=[.tmp 2]) Bx ([]:List En) rfl 0 Tryz.func165 (by kernel_rfl)
abbrev Aom:={β:Type}->Bu->(AD->Option β)->Option β
noncomputable def Aon:Aom:=Jt ⟨look tab,gam ([]:List En),false,false,false,false,D9,none,100000,[]⟩ Tryz.f202 [Ma] [] [B9] [] [.tmp 2]
noncomputable def AbG:En:=⟨202,.spec (sg [Ma] [] [B9] [] Aon),(LX mixed (X:=⟨look tab,gam ([]:List En),false,false,false,false,D9,none,100000,[]⟩) Bx ([]:List En) rfl [.tmp 2] Tryz.func202 (by kernel_rfl)).spec⟩
noncomputable def iT:En:=.inl mixed (X:=⟨look tab,gam [AbG],false,false,false,false,[],none,0,[]⟩) (rs:=[.tmp 4]) Bx [AbG] rfl 1 Tryz.func227 (by kernel_rfl)
abbrev Aoo:={β:Type}->AY->AD->(Int->AD->Option β)->Option β
noncomputable def Aop:Aoo:=Jt ⟨look tab,gam [iT],false,false,false,false,[],none,100000,[]⟩ Tryz.f226 [Nn,(false,[.fn 227 [0,1]])] WN [Ac] WN [.tmp 4]
noncomputable def AbH:En:=⟨226,.spec (sg [Nn,(false,[.fn 227 [0,1]])] WN [Ac] WN Aop),(LX mixed (X:=⟨look tab,gam [iT],false,false,false,false,[],none,100000,[]⟩) Bx [iT] rfl [.tmp 4] Tryz.func226 (by kernel_rfl)).spec⟩
noncomputable def AbI:En:=.inl mixed (X:=⟨look tab,gam [AbH],false,false,false,false,[],none,0,[]⟩) (rs:=[.tmp 6,.tmp 7]) Bx [AbH] rfl 2 Tryz.func201 (by kernel_rfl)
noncomputable def AbJ:En:=.inl mixed (X:=⟨look tab,gam [AbI],false,false,false,false,D9,none,0,[]⟩) (rs:=[.tmp 4,.tmp 5]) Bx [AbI] rfl 2 Tryz.func167 (by kernel_rfl)
abbrev Aoq:={β:Type}->Int->(Bool->Option β)->Option β
def Me:Aoq:=hid λc k=>cond (decide ((97:Int)<=c)) (let t:=(decide (c<=122));k t) (k false)
noncomputable def AbK:En:=⟨170,.spec (sg [(false,[.data (.int .u8)])] [] [AK] [] Me),pf [] [] [.tmp 2] Tryz.func170⟩
abbrev Aor:={β:Type}->Int->(Bool->Option β)->Option β
def Nw:Aor:=hid λc k=>cond (decide ((48:Int)<=c)) (let t:=(decide (c<=57));k t) (k false)
noncomputable def AbL:En:=⟨171,.spec (sg [(false,[.data (.int .u8)])] [] [AK] [] Nw),pf [] [] [.tmp 2] Tryz.func171⟩
abbrev Aos:={β:Type}->Int->Int->Int->(Bool->Option β)->Option β
def Lc:Aos:=hid λn lo hi k=>cond (decide (lo<=n)) (k (decide (n<=hi))) (k false)
noncomputable def iU:En:=⟨172,.spec (sg [Ac,Ac,Ac] [] [AK] [] Lc),pf [] [] [.tmp 6] Tryz.func172⟩
abbrev Aot:={β:Type}->Int->Au->(Bool->Au->Option β)->Option β
def iV:Aot:=hid λm t1 k=>Kh m (List.length t1.2.1:Int) (λFO=>k (!FO) t1)
noncomputable def Aou:En:=⟨175,.spec (sg [Ac,Ax] [BG] [AK] [BG] iV),pf [So] [] [.tmp 3] Tryz.func175⟩
abbrev Aov:={β:Type}->Int->(Bool->Option β)->Option β
def PA:Aov:=hid λb k=>cond (decide ((48:Int)<=b)) (let t:=(decide (b<=57));k t) (k false)
noncomputable def Aow:En:=⟨176,.spec (sg [(false,[.data (.int .u8)])] [] [AK] [] PA),pf [] [] [.tmp 2] Tryz.func176⟩
abbrev Aox:={β:Type}->Int->Int->Int->(Bool->Option β)->Option β
def Ix:Aox:=hid λn lo hi k=>cond (decide (lo<=n)) (k (decide (n<=hi))) (k false)
noncomputable def AbM:En:=⟨177,.spec (sg [Ac,Ac,Ac] [] [AK] [] Ix),pf [] [] [.tmp 6] Tryz.func177⟩
abbrev Aoy:={β:Type}->Cz->(Bool->Option β)->Option β
def Xb:Aoy:=hid λr_ k=>Ix r_.1 1970 2240 (λDj=>cond Dj (Ix r_.2.1 r_.1 2240 (λIF=>cond IF (Ix r_.2.2.1 1 12 (λIG=>cond IG (Ix r_.2.2.2.1 1 5 (λVn=>cond Vn (Ix r_.2.2.2.2.1 0 6 (λVo=>cond Vo (Ix r_.2.2.2.2.2.1 0 86399 (λvP=>cond vP (Ix r_.2.2.2.2.2.2 (-64800) 64800 (λvQ=>k vQ)) (k false))) (k false))) (k false))) (k false))) (k false))) (k false))
noncomputable def Aoz:En:=⟨178,.spec (sg [(true,[.data Ju])] [] [AK] [] Xb),pf [AbM] [] [.tmp 2] Tryz.func178⟩
def AoA:Shelf.Ren:=
   {
   f:=λx=>
    match x with
    |171=>180
    |243=>209
    |246=>237
    |283=>249
    |284=>250
    |285=>251
    |286=>252
    |129=>263
    |317=>262
    |318=>264
    |319=>265
    |320=>266
    |337=>274
    |338=>275
    |n=>n,
   t:=λx=>
    match x with
    |3=>3
    |9=>9
    |2=>2
    |4=>4
    |171=>303
    |0=>0
    |53=>304
    |37=>104
    |5=>5
    |173=>307
    |212=>320
    |51=>248
    |20=>20
    |213=>321
    |46=>268
    |232=>337
    |233=>338
    |n=>n,
   g:=λx=>
    match x with
    |17=>5
    |18=>8
    |19=>9
    |n=>n}
theorem AoB:Go.Proofs.LaysM.n171 Tryz.prog AoA:=
 {
  mixed:=by kernel_rfl,
  f129:=Eq.trans Tryz.func263 (At some (by kernel_rfl)),
  f171:=Eq.trans Tryz.func180 (At some (by kernel_rfl)),
  f243:=Eq.trans Tryz.func209 (At some (by kernel_rfl)),
  f246:=Eq.trans Tryz.func237 (At some (by kernel_rfl)),
  f283:=Eq.trans Tryz.func249 (At some (by kernel_rfl)),
  f284:=Eq.trans Tryz.func250 (At some (by kernel_rfl)),
  f285:=Eq.trans Tryz.func251 (At some (by kernel_rfl)),
  f286:=Eq.trans Tryz.func252 (At some (by kernel_rfl)),
  f317:=Eq.trans Tryz.func262 (At some (by kernel_rfl)),
  f318:=Eq.trans Tryz.func264 (At some (by kernel_rfl)),
  f319:=Eq.trans Tryz.func265 (At some (by kernel_rfl)),
  f320:=Eq.trans Tryz.func266 (At some (by kernel_rfl)),
  f337:=Eq.trans Tryz.func274 (At some (by kernel_rfl)),
  f338:=Eq.trans Tryz.func275 (At some (by kernel_rfl)),
  t0:=Tryz.underlying0,
  a0:=Tryz.isAgg0,
  z0:=Tryz.sizeOf0,
  v0:=Tryz.zeroValue0,
  t2:=Tryz.underlying2,
  a2:=Tryz.isAgg2,
  z2:=Tryz.sizeOf2,
  v2:=Tryz.zeroValue2,
  t3:=Tryz.underlying3,
  a3:=Tryz.isAgg3,
  z3:=Tryz.sizeOf3,
  v3:=Tryz.zeroValue3,
  t4:=Tryz.underlying4,
  a4:=Tryz.isAgg4,
  z4:=Tryz.sizeOf4,
  v4:=Tryz.zeroValue4,
  t5:=Tryz.underlying5,
  a5:=Tryz.isAgg5,
  z5:=Tryz.sizeOf5,
  v5:=Tryz.zeroValue5,
  t9:=Tryz.underlying9,
  a9:=Tryz.isAgg9,
  z9:=Tryz.sizeOf9,
  v9:=Tryz.zeroValue9,
  t20:=Tryz.underlying20,
  a20:=Tryz.isAgg20,
  z20:=Tryz.sizeOf20,
  v20:=Tryz.zeroValue20,
  t37:=Tryz.underlying104,
  a37:=Tryz.isAgg104,
  z37:=Tryz.sizeOf104,
  v37:=Tryz.zeroValue104,
  t46:=Tryz.underlying268,
  a46:=Tryz.isAgg268,
  z46:=Tryz.sizeOf268,
  v46:=Tryz.zeroValue268,
  t51:=Tryz.underlying248,
  a51:=Tryz.isAgg248,
  z51:=Tryz.sizeOf248,
  v51:=Tryz.zeroValue248,
  t53:=Tryz.underlying304,
  a53:=Tryz.isAgg304,
  z53:=Tryz.sizeOf304,
  v53:=Tryz.zeroValue304,
  t171:=Tryz.underlying303,
  a171:=Tryz.isAgg303,
  z171:=Tryz.sizeOf303,
  v171:=Tryz.zeroValue303,
  t173:=Tryz.underlying307,
  a173:=Tryz.isAgg307,
  z173:=Tryz.sizeOf307,
  v173:=Tryz.zeroValue307,
  t212:=Tryz.underlying320,
  a212:=Tryz.isAgg320,
  z212:=Tryz.sizeOf320,
  v212:=Tryz.zeroValue320,
  t213:=Tryz.underlying321,
  a213:=Tryz.isAgg321,
  z213:=Tryz.sizeOf321,
  t232:=Tryz.underlying337,
  a232:=Tryz.isAgg337,
  z232:=Tryz.sizeOf337,
  v232:=Tryz.zeroValue337,
  t233:=Tryz.underlying338,
  a233:=Tryz.isAgg338,
  z233:=Tryz.sizeOf338,
  v233:=Tryz.zeroValue338,
  g17:=by kernel_rfl,
  g18:=by kernel_rfl,
  g19:=by kernel_rfl,
  i0:=by kernel_rfl,
  i2:=by kernel_rfl,
  i3:=by kernel_rfl,
  i4:=by kernel_rfl,
  i5:=by kernel_rfl,
  i9:=by kernel_rfl,
  i20:=by kernel_rfl,
  i37:=by kernel_rfl,
  i46:=by kernel_rfl,
  i51:=by kernel_rfl,
  i53:=by kernel_rfl,
  i171:=by kernel_rfl,
  i173:=by kernel_rfl,
  i212:=by kernel_rfl,
  i232:=by kernel_rfl,
  i233:=by kernel_rfl,
  m17:=by kernel_rfl,
  m18:=by kernel_rfl,
  m19:=by kernel_rfl}
abbrev AbN:=gQ
def AoC(c:AbN):Spec:=Aaf c
def Ss:AbN:=λx k=>RL x k
theorem AoD:SpecOk Tryz.prog 180 (AoC Ss):=
 Amb AoB rfl (g:=5) (by kernel_rfl) ⟨_,Tryz.func180,by kernel_rfl,by kernel_rfl⟩
noncomputable def AbO:En:=.of AoD
def AoE:Shelf.Ren:=
   {
   f:=λx=>
    match x with
    |144=>190
    |143=>141
    |219=>187
    |217=>213
    |225=>214
    |224=>215
    |267=>216
    |266=>239
    |314=>240
    |n=>n,
   t:=λx=>
    match x with
    |9=>9
    |4=>4
    |3=>3
    |5=>5
    |46=>268
    |146=>295
    |51=>248
    |n=>n,
   g:=λx=>
    match x with
    |1=>2
    |n=>n}
theorem AoF:Go.Proofs.Lays.n144 Tryz.prog AoE:=
 {
  mixed:=by kernel_rfl,
  f143:=Eq.trans Tryz.func141 (At some (by kernel_rfl)),
  f144:=Eq.trans Tryz.func190 (At some (by kernel_rfl)),
  f217:=Eq.trans Tryz.func213 (At some (by kernel_rfl)),
  f219:=Eq.trans Tryz.func187 (At some (by kernel_rfl)),
  f224:=Eq.trans Tryz.func215 (At some (by kernel_rfl)),
  f225:=Eq.trans Tryz.func214 (At some (by kernel_rfl)),
  f266:=Eq.trans Tryz.func239 (At some (by kernel_rfl)),
  f267:=Eq.trans Tryz.func216 (At some (by kernel_rfl)),
  f314:=Eq.trans Tryz.func240 (At some (by kernel_rfl)),
  t3:=Tryz.underlying3,
  a3:=Tryz.isAgg3,
  z3:=Tryz.sizeOf3,
  v3:=Tryz.zeroValue3,
  t4:=Tryz.underlying4,
  a4:=Tryz.isAgg4,
  z4:=Tryz.sizeOf4,
  v4:=Tryz.zeroValue4,
  t5:=Tryz.underlying5,
  a5:=Tryz.isAgg5,
  z5:=Tryz.sizeOf5,
  v5:=Tryz.zeroValue5,
  t9:=Tryz.underlying9,
  a9:=Tryz.isAgg9,
  z9:=Tryz.sizeOf9,
  v9:=Tryz.zeroValue9,
  t46:=Tryz.underlying268,
  a46:=Tryz.isAgg268,
  z46:=Tryz.sizeOf268,
  v46:=Tryz.zeroValue268,
  t51:=Tryz.underlying248,
  a51:=Tryz.isAgg248,
  z51:=Tryz.sizeOf248,
  v51:=Tryz.zeroValue248,
  t146:=Tryz.underlying295,
  a146:=Tryz.isAgg295,
  z146:=Tryz.sizeOf295,
  v146:=Tryz.zeroValue295,
  g1:=by kernel_rfl}
abbrev AbP:=gS
def AoG(c:AbP):Spec:=Aah c
def PC:AbP:=λx y k=>WC x y k
theorem AoH:SpecOk Tryz.prog 190 (AoG PC):=
 Amd AoF rfl (AV (by kernel_rfl)) (λw0 h0=>Go.Proofs.cell_of_shapedOpen_int (P:=Tryz.prog) (g:=2) (t:=3) (zero:=#[.int .i64 0]) h0 (AV (by kernel_rfl)) (by kernel_rfl) rfl (by kernel_rfl) (by kernel_rfl) Tryz.underlying3) ⟨_,Tryz.func190,by kernel_rfl,by kernel_rfl⟩
noncomputable def AoI:En:=.of AoH
abbrev AoJ:={β:Type}->AD->AD->(Int->Bool->Option β)->Option β
def Xc:AoJ:=hid λwords word k=>iK words (λbL=>AbE bL word (λAjV=>let t:=(IntKind.i64.wrap (AjV+1));let t2:=(decide ((0:Int)<=AjV));k t t2))
noncomputable def iW:En:=⟨195,.spec (sg [B9,B9] [] [Ac,AK] [] Xc),pf [Sr,Abl] [] [.tmp 4,.tmp 5] Tryz.func195⟩
abbrev AoK:={β:Type}->AX->(AD->Option β)->Option β
noncomputable def AoL:AoK:=Jt ⟨look tab,gam ([]:List En),false,false,false,false,[],none,100000,[]⟩ Tryz.f200 [Pz] [] [B9] [] [.tmp 2]
noncomputable def AbQ:En:=⟨200,.spec (sg [Pz] [] [B9] [] AoL),(LX mixed (X:=⟨look tab,gam ([]:List En),false,false,false,false,[],none,100000,[]⟩) Bx ([]:List En) rfl [.tmp 2] Tryz.func200 (by kernel_rfl)).spec⟩
noncomputable def iX:En:=.inl mixed (X:=⟨look tab,gam [AbQ],false,false,false,false,[],none,0,[]⟩) (rs:=[.tmp 4]) Bx [AbQ] rfl 1 Tryz.func225 (by kernel_rfl)
abbrev AoM:={β:Type}->AW->AD->(Int->AD->Option β)->Option β
noncomputable def AoN:AoM:=Jt ⟨look tab,gam [iX],false,false,false,false,[],none,100000,[]⟩ Tryz.f224 [LZ,(false,[.fn 225 [0,1]])] WM [Ac] WM [.tmp 4]
noncomputable def AbR:En:=⟨224,.spec (sg [LZ,(false,[.fn 225 [0,1]])] WM [Ac] WM AoN),(LX mixed (X:=⟨look tab,gam [iX],false,false,false,false,[],none,100000,[]⟩) Bx [iX] rfl [.tmp 4] Tryz.func224 (by kernel_rfl)).spec⟩
noncomputable def AoO:En:=.inl mixed (X:=⟨look tab,gam [AbR],false,false,false,false,[],none,0,[]⟩) (rs:=[.tmp 6,.tmp 7]) Bx [AbR] rfl 2 Tryz.func199 (by kernel_rfl)
abbrev AoP:={β:Type}->Int->Int->Int->(Bool->Option β)->Option β
def IZ:AoP:=hid λn lo hi k=>cond (decide (lo<=n)) (k (decide (n<=hi))) (k false)
noncomputable def iY:En:=⟨204,.spec (sg [Ac,Ac,Ac] [] [AK] [] IZ),pf [] [] [.tmp 6] Tryz.func204⟩
def AoQ:Shelf.Ren:=
   {
   f:=λx=>
    match x with
    |172=>221
    |244=>243
    |245=>244
    |247=>255
    |279=>256
    |280=>257
    |281=>258
    |282=>259
    |287=>270
    |316=>271
    |171=>180
    |205=>272
    |321=>276
    |322=>277
    |243=>209
    |246=>237
    |283=>249
    |284=>250
    |285=>251
    |286=>252
    |129=>263
    |317=>262
    |318=>264
    |319=>265
    |320=>266
    |337=>274
    |338=>275
    |n=>n,
   t:=λx=>
    match x with
    |9=>9
    |3=>3
    |75=>112
    |76=>113
    |4=>4
    |5=>5
    |167=>311
    |37=>104
    |0=>0
    |85=>312
    |2=>2
    |168=>314
    |53=>304
    |175=>326
    |46=>268
    |210=>330
    |127=>164
    |145=>336
    |143=>334
    |21=>21
    |171=>303
    |173=>307
    |212=>320
    |51=>248
    |20=>20
    |213=>321
    |232=>337
    |233=>338
    |80=>115
    |n=>n,
   g:=λx=>
    match x with
    |15=>6
    |16=>7
    |17=>5
    |18=>8
    |19=>9
    |n=>n}
theorem AoR:Go.Proofs.LaysC.n172 Tryz.prog AoQ:=
 {
  mixed:=by kernel_rfl,
  f129:=Eq.trans Tryz.func263 (At some (by kernel_rfl)),
  f171:=Eq.trans Tryz.func180 (At some (by kernel_rfl)),
  f172:=Eq.trans Tryz.func221 (At some (by kernel_rfl)),
  f205:=Eq.trans Tryz.func272 (At some (by kernel_rfl)),
  f243:=Eq.trans Tryz.func209 (At some (by kernel_rfl)),
  f244:=Eq.trans Tryz.func243 (At some (by kernel_rfl)),
  f245:=Eq.trans Tryz.func244 (At some (by kernel_rfl)),
  f246:=Eq.trans Tryz.func237 (At some (by kernel_rfl)),
  f247:=Eq.trans Tryz.func255 (At some (by kernel_rfl)),
  f279:=Eq.trans Tryz.func256 (At some (by kernel_rfl)),
  f280:=Eq.trans Tryz.func257 (At some (by kernel_rfl)),
  f281:=Eq.trans Tryz.func258 (At some (by kernel_rfl)),
  f282:=Eq.trans Tryz.func259 (At some (by kernel_rfl)),
  f283:=Eq.trans Tryz.func249 (At some (by kernel_rfl)),
  f284:=Eq.trans Tryz.func250 (At some (by kernel_rfl)),
  f285:=Eq.trans Tryz.func251 (At some (by kernel_rfl)),
  f286:=Eq.trans Tryz.func252 (At some (by kernel_rfl)),
  f287:=Eq.trans Tryz.func270 (At some (by kernel_rfl)),
  f316:=Eq.trans Tryz.func271 (At some (by kernel_rfl)),
  f317:=Eq.trans Tryz.func262 (At some (by kernel_rfl)),
  f318:=Eq.trans Tryz.func264 (At some (by kernel_rfl)),
  f319:=Eq.trans Tryz.func265 (At some (by kernel_rfl)),
  f320:=Eq.trans Tryz.func266 (At some (by kernel_rfl)),
  f321:=Eq.trans Tryz.func276 (At some (by kernel_rfl)),
  f322:=Eq.trans Tryz.func277 (At some (by kernel_rfl)),
  f337:=Eq.trans Tryz.func274 (At some (by kernel_rfl)),
  f338:=Eq.trans Tryz.func275 (At some (by kernel_rfl)),
  t0:=Tryz.underlying0,
  a0:=Tryz.isAgg0,
  z0:=Tryz.sizeOf0,
  v0:=Tryz.zeroValue0,
  t2:=Tryz.underlying2,
  a2:=Tryz.isAgg2,
  z2:=Tryz.sizeOf2,
  v2:=Tryz.zeroValue2,
  t3:=Tryz.underlying3,
  a3:=Tryz.isAgg3,
  z3:=Tryz.sizeOf3,
  v3:=Tryz.zeroValue3,
  t4:=Tryz.underlying4,
  a4:=Tryz.isAgg4,
  z4:=Tryz.sizeOf4,
  v4:=Tryz.zeroValue4,
  t5:=Tryz.underlying5,
  a5:=Tryz.isAgg5,
  z5:=Tryz.sizeOf5,
  v5:=Tryz.zeroValue5,
  t9:=Tryz.underlying9,
  a9:=Tryz.isAgg9,
  z9:=Tryz.sizeOf9,
  v9:=Tryz.zeroValue9,
  t20:=Tryz.underlying20,
  a20:=Tryz.isAgg20,
  z20:=Tryz.sizeOf20,
  v20:=Tryz.zeroValue20,
  t21:=Tryz.underlying21,
  a21:=Tryz.isAgg21,
  z21:=Tryz.sizeOf21,
  v21:=Tryz.zeroValue21,
  t37:=Tryz.underlying104,
  a37:=Tryz.isAgg104,
  z37:=Tryz.sizeOf104,
  v37:=Tryz.zeroValue104,
  t46:=Tryz.underlying268,
  a46:=Tryz.isAgg268,
  z46:=Tryz.sizeOf268,
  v46:=Tryz.zeroValue268,
  t51:=Tryz.underlying248,
  a51:=Tryz.isAgg248,
  z51:=Tryz.sizeOf248,
  v51:=Tryz.zeroValue248,
  t53:=Tryz.underlying304,
  a53:=Tryz.isAgg304,
  z53:=Tryz.sizeOf304,
  v53:=Tryz.zeroValue304,
  t75:=Tryz.underlying112,
  a75:=Tryz.isAgg112,
  z75:=Tryz.sizeOf112,
  v75:=Tryz.zeroValue112,
  t76:=Tryz.underlying113,
  a76:=Tryz.isAgg113,
  z76:=Tryz.sizeOf113,
  v76:=Tryz.zeroValue113,
  t85:=Tryz.underlying312,
  a85:=Tryz.isAgg312,
  z85:=Tryz.sizeOf312,
  v85:=Tryz.zeroValue312,
  t127:=Tryz.underlying164,
  a127:=Tryz.isAgg164,
  z127:=Tryz.sizeOf164,
  v127:=Tryz.zeroValue164,
  t143:=Tryz.underlying334,
  a143:=Tryz.isAgg334,
  z143:=Tryz.sizeOf334,
  v143:=Tryz.zeroValue334,
  t145:=Tryz.underlying336,
  a145:=Tryz.isAgg336,
  z145:=Tryz.sizeOf336,
  v145:=Tryz.zeroValue336,
  t167:=Tryz.underlying311,
  a167:=Tryz.isAgg311,
  z167:=Tryz.sizeOf311,
  v167:=Tryz.zeroValue311,
  t168:=Tryz.underlying314,
  a168:=Tryz.isAgg314,
  z168:=Tryz.sizeOf314,
  v168:=Tryz.zeroValue314,
  t171:=Tryz.underlying303,
  a171:=Tryz.isAgg303,
  z171:=Tryz.sizeOf303,
  v171:=Tryz.zeroValue303,
  t173:=Tryz.underlying307,
  a173:=Tryz.isAgg307,
  z173:=Tryz.sizeOf307,
  v173:=Tryz.zeroValue307,
  t175:=Tryz.underlying326,
  a175:=Tryz.isAgg326,
  z175:=Tryz.sizeOf326,
  v175:=Tryz.zeroValue326,
  t210:=Tryz.underlying330,
  a210:=Tryz.isAgg330,
  z210:=Tryz.sizeOf330,
  v210:=Tryz.zeroValue330,
  t212:=Tryz.underlying320,
  a212:=Tryz.isAgg320,
  z212:=Tryz.sizeOf320,
  v212:=Tryz.zeroValue320,
  t213:=Tryz.underlying321,
  a213:=Tryz.isAgg321,
  z213:=Tryz.sizeOf321,
  t232:=Tryz.underlying337,
  a232:=Tryz.isAgg337,
  z232:=Tryz.sizeOf337,
  v232:=Tryz.zeroValue337,
  t233:=Tryz.underlying338,
  a233:=Tryz.isAgg338,
  z233:=Tryz.sizeOf338,
  v233:=Tryz.zeroValue338,
  g15:=by kernel_rfl,
  g16:=by kernel_rfl,
  g17:=by kernel_rfl,
  g18:=by kernel_rfl,
  g19:=by kernel_rfl,
  t80:=Tryz.underlying115,
  a80:=Tryz.isAgg115,
  z80:=Tryz.sizeOf115,
  v80:=Tryz.zeroValue115,
  i0:=by kernel_rfl,
  i2:=by kernel_rfl,
  i3:=by kernel_rfl,
  i4:=by kernel_rfl,
  i5:=by kernel_rfl,
  i9:=by kernel_rfl,
  i20:=by kernel_rfl,
  i21:=by kernel_rfl,
  i37:=by kernel_rfl,
  i46:=by kernel_rfl,
  i51:=by kernel_rfl,
  i53:=by kernel_rfl,
  i75:=by kernel_rfl,
  i76:=by kernel_rfl,
  i80:=by kernel_rfl,
  i85:=by kernel_rfl,
  i127:=by kernel_rfl,
  i143:=by kernel_rfl,
  i145:=by kernel_rfl,
  i167:=by kernel_rfl,
  i168:=by kernel_rfl,
  i171:=by kernel_rfl,
  i173:=by kernel_rfl,
  i175:=by kernel_rfl,
  i210:=by kernel_rfl,
  i212:=by kernel_rfl,
  i232:=by kernel_rfl,
  i233:=by kernel_rfl,
  m15:=by kernel_rfl,
  m16:=by kernel_rfl,
  m17:=by kernel_rfl,
  m18:=by kernel_rfl,
  m19:=by kernel_rfl,
  c0:=by kernel_rfl,
  c2:=by kernel_rfl,
  c3:=by kernel_rfl,
  c4:=by kernel_rfl,
  c5:=by kernel_rfl,
  c9:=by kernel_rfl,
  c20:=by kernel_rfl,
  c21:=by kernel_rfl,
  c37:=by kernel_rfl,
  c46:=by kernel_rfl,
  c51:=by kernel_rfl,
  c53:=by kernel_rfl,
  c75:=by kernel_rfl,
  c76:=by kernel_rfl,
  c80:=by kernel_rfl,
  c85:=by kernel_rfl,
  c127:=by kernel_rfl,
  c143:=by kernel_rfl,
  c145:=by kernel_rfl,
  c167:=by kernel_rfl,
  c168:=by kernel_rfl,
  c171:=by kernel_rfl,
  c173:=by kernel_rfl,
  c175:=by kernel_rfl,
  c210:=by kernel_rfl,
  c212:=by kernel_rfl,
  c213:=by kernel_rfl,
  c232:=by kernel_rfl,
  c233:=by kernel_rfl}
abbrev AbS:=gR
def AoS(c:AbS):Spec:=Aag c
def iZ:AbS:=λx k=>WB x k
theorem AoT:SpecOk Tryz.prog 221 (AoS iZ):=
 Amc AoR rfl (by kernel_rfl) (by kernel_rfl) ⟨_,Tryz.func221,by kernel_rfl,by kernel_rfl⟩
noncomputable def AoU:En:=.of AoT
abbrev AoV:={β:Type}->Cz->(Int->Option β)->Option β
def Xd:AoV:=hid λr_ k=>IZ r_.1 1970 2240 (λDj=>cond (!Dj) (k 1) (IZ r_.2.1 r_.1 2240 (λIF=>cond (!IF) (k 1) (IZ r_.2.2.1 1 12 (λIG=>cond (!IG) (k 1) (IZ r_.2.2.2.1 1 5 (λVn=>cond (!Vn) (k 1) (IZ r_.2.2.2.2.1 0 6 (λVo=>cond (!Vo) (k 1) (IZ r_.2.2.2.2.2.1 0 86399 (λvP=>cond (!vP) (k 1) (IZ r_.2.2.2.2.2.2 (-64800) 64800 (λvQ=>cond (!vQ) (k 1) (k 0))))))))))))))
noncomputable def AoW:En:=⟨228,.spec (sg [(true,[.data Ju])] [] [Ac] [] Xd),pf [iY] [] [.tmp 2] Tryz.func228⟩
abbrev AoX:={β:Type}->Int->Int->(Int->Option β)->Option β
def Nx:AoX:=hid λa b k=>cond (!decide (b=0)) (let q:=(IntKind.i64.wrap (Int.tdiv a b));cond (!decide (b=0)) (cond (decide ((Int.tmod a b)<0)) (let q2:=(IntKind.i64.wrap (q-1));k q2) (k q)) none) none
noncomputable def AbT:En:=⟨232,.spec (sg [Ac,Ac] [] [Ac] [] Nx),pf [] [] [.tmp 4] Tryz.func232⟩
abbrev AoY:={β:Type}->Int->(Bool->Option β)->Option β
def Xe:AoY:=hid λDH k=>cond (decide ((Int.tmod DH 4)=0)) (cond (!decide ((Int.tmod DH 100)=0)) (k true) (let t:=(decide ((Int.tmod DH 400)=0));k t)) (k false)
noncomputable def AoZ:En:=⟨233,.spec (sg [Ac] [] [AK] [] Xe),pf [] [] [.tmp 2] Tryz.func233⟩
abbrev Ap0:={β:Type}->Int->(Int->Option β)->Option β
def Xf:Ap0:=hid λday k=>let t:=(Int.tmod (IntKind.i64.wrap ((Int.tmod day 7)+10)) 7);k t
noncomputable def Ap1:En:=⟨235,.spec (sg [Ac] [] [Ac] [] Xf),pf [] [] [.tmp 2] Tryz.func235⟩
def Ap2:Shelf.Ren:=
   {
   f:=λx=>
    match x with
    |105=>238
    |212=>253
    |99=>254
    |165=>137
    |166=>50
    |170=>51
    |169=>52
    |263=>267
    |264=>268
    |206=>269
    |240=>98
    |241=>183
    |276=>138
    |277=>211
    |n=>n,
   t:=λx=>
    match x with
    |9=>9
    |3=>3
    |4=>4
    |20=>20
    |0=>0
    |46=>268
    |109=>309
    |5=>5
    |72=>106
    |76=>113
    |51=>248
    |146=>295
    |53=>304
    |148=>324
    |70=>103
    |37=>104
    |75=>112
    |127=>164
    |164=>191
    |80=>115
    |n=>n,
   g:=λx=>x}
theorem Ap3:Go.Proofs.Lays.n105 Tryz.prog Ap2:=
 {
  mixed:=by kernel_rfl,
  f99:=Eq.trans Tryz.func254 (At some (by kernel_rfl)),
  f105:=Eq.trans Tryz.func238 (At some (by kernel_rfl)),
  f165:=Eq.trans Tryz.func137 (At some (by kernel_rfl)),
  f166:=Eq.trans Tryz.func50 (At some (by kernel_rfl)),
  f169:=Eq.trans Tryz.func52 (At some (by kernel_rfl)),
  f170:=Eq.trans Tryz.func51 (At some (by kernel_rfl)),
  f206:=Eq.trans Tryz.func269 (At some (by kernel_rfl)),
  f212:=Eq.trans Tryz.func253 (At some (by kernel_rfl)),
  f240:=Eq.trans Tryz.func98 (At some (by kernel_rfl)),
  f241:=Eq.trans Tryz.func183 (At some (by kernel_rfl)),
  f263:=Eq.trans Tryz.func267 (At some (by kernel_rfl)),
  f264:=Eq.trans Tryz.func268 (At some (by kernel_rfl)),
  f276:=Eq.trans Tryz.func138 (At some (by kernel_rfl)),
  f277:=Eq.trans Tryz.func211 (At some (by kernel_rfl)),
  t0:=Tryz.underlying0,
  a0:=Tryz.isAgg0,
  z0:=Tryz.sizeOf0,
  v0:=Tryz.zeroValue0,
  t3:=Tryz.underlying3,
  a3:=Tryz.isAgg3,
  z3:=Tryz.sizeOf3,
  v3:=Tryz.zeroValue3,
  t4:=Tryz.underlying4,
  a4:=Tryz.isAgg4,
  z4:=Tryz.sizeOf4,
  v4:=Tryz.zeroValue4,
  t5:=Tryz.underlying5,
  a5:=Tryz.isAgg5,
  z5:=Tryz.sizeOf5,
  v5:=Tryz.zeroValue5,
  t9:=Tryz.underlying9,
  a9:=Tryz.isAgg9,
  z9:=Tryz.sizeOf9,
  v9:=Tryz.zeroValue9,
  t20:=Tryz.underlying20,
  a20:=Tryz.isAgg20,
  z20:=Tryz.sizeOf20,
  v20:=Tryz.zeroValue20,
  t37:=Tryz.underlying104,
  a37:=Tryz.isAgg104,
  z37:=Tryz.sizeOf104,
  v37:=Tryz.zeroValue104,
  t46:=Tryz.underlying268,
  a46:=Tryz.isAgg268,
  z46:=Tryz.sizeOf268,
  v46:=Tryz.zeroValue268,
  t51:=Tryz.underlying248,
  a51:=Tryz.isAgg248,
  z51:=Tryz.sizeOf248,
  v51:=Tryz.zeroValue248,
  t53:=Tryz.underlying304,
  a53:=Tryz.isAgg304,
  z53:=Tryz.sizeOf304,
  v53:=Tryz.zeroValue304,
  t70:=Tryz.underlying103,
  a70:=Tryz.isAgg103,
  z70:=Tryz.sizeOf103,
  v70:=Tryz.zeroValue103,
  t72:=Tryz.underlying106,
  a72:=Tryz.isAgg106,
  z72:=Tryz.sizeOf106,
  v72:=Tryz.zeroValue106,
  t75:=Tryz.underlying112,
  a75:=Tryz.isAgg112,
  z75:=Tryz.sizeOf112,
  v75:=Tryz.zeroValue112,
  t76:=Tryz.underlying113,
  a76:=Tryz.isAgg113,
  z76:=Tryz.sizeOf113,
  v76:=Tryz.zeroValue113,
  t109:=Tryz.underlying309,
  a109:=Tryz.isAgg309,
  z109:=Tryz.sizeOf309,
  v109:=Tryz.zeroValue309,
  t127:=Tryz.underlying164,
  a127:=Tryz.isAgg164,
  z127:=Tryz.sizeOf164,
  v127:=Tryz.zeroValue164,
  t146:=Tryz.underlying295,
  a146:=Tryz.isAgg295,
  z146:=Tryz.sizeOf295,
  v146:=Tryz.zeroValue295,
  t148:=Tryz.underlying324,
  a148:=Tryz.isAgg324,
  z148:=Tryz.sizeOf324,
  v148:=Tryz.zeroValue324,
  t164:=Tryz.underlying191,
  a164:=Tryz.isAgg191,
  z164:=Tryz.sizeOf191,
  v164:=Tryz.zeroValue191}
abbrev AbU:=gT
def Ap4(c:AbU):Spec:=Aal c
def jA:AbU:=λx y k=>WE x y k
theorem Ap5:SpecOk Tryz.prog 238 (Ap4 jA):=
 Amf Ap3 {sizeBuilder:=by kernel_rfl,liesBuilder:=by kernel_rfl,t5:=Tryz.underlying5,a5:=Tryz.isAgg5,z5:=Tryz.sizeOf5,v5:=Tryz.zeroValue5,infoByte:=by kernel_rfl,cellsByte:=by kernel_rfl,sizeByte:=by kernel_rfl,neB5:=by decide} rfl ⟨_,Tryz.func238,by kernel_rfl,by kernel_rfl⟩
noncomputable def Ap6:En:=.of Ap5
abbrev Ap7:={β:Type}->Int->(Int->Option β)->Option β
def jB:Ap7:=hid λday k=>let t:=(Int.tmod (IntKind.i64.wrap ((Int.tmod day 7)+10)) 7);k t
noncomputable def Ap8:En:=⟨245,.spec (sg [Ac] [] [Ac] [] jB),pf [] [] [.tmp 2] Tryz.func245⟩
abbrev Ap9:={β:Type}->Int->(Bool->Option β)->Option β
def Su:Ap9:=hid λDH k=>cond (decide ((Int.tmod DH 4)=0)) (cond (!decide ((Int.tmod DH 100)=0)) (k true) (let t:=(decide ((Int.tmod DH 400)=0));k t)) (k false)
noncomputable def Apa:En:=⟨248,.spec (sg [Ac] [] [AK] [] Su),pf [] [] [.tmp 2] Tryz.func248⟩
abbrev Apb:={β:Type}->BY->(AZ->AW->AY->BY->Bd->Option β)->Option β
noncomputable def PD:List En:=[WS,KZ,P2,AaW,An2,AaN]
abbrev jC(β:Type):=BY->AZ->AW->AY->Bd->AZ->AW->AY->Bd->Option β
abbrev jD(β:Type):=Int->BY->AZ->AW->AY->Bd->AZ->AW->AY->Bd->Option β
noncomputable def AbV:Pc:=⟨109,1,AI 58 (Az Tryz.f15),⟨1,[0,2,3,4],[Ax,BZ,Da,Ac],Nq⟩,[(.exit 0,⟨1,[0,2,3],[Ax,BZ,Da],Nq⟩)]⟩
abbrev jE(β:Type):=BY->AZ->AW->AY->Bd->AZ->AW->AY->Bd->Option β
abbrev jF(β:Type):=Int->BY->AZ->AW->AY->Bd->AZ->AW->AY->Bd->Option β
noncomputable def jG:Pc:=⟨109,1,AI 122 (Az Tryz.f15),⟨1,[0,2,3,5],[Ax,BZ,Da,Ac],Nq⟩,[(.exit 2,⟨1,[0,2,3],[Ax,BZ,Da],Nq⟩)]⟩
abbrev jH(β:Type):=BY->AZ->AW->AY->Bd->AZ->AW->AY->Bd->Option β
abbrev jI(β:Type):=Int->BY->AZ->AW->AY->Bd->AZ->AW->AY->Bd->Option β
noncomputable def jJ:Pc:=⟨109,1,AI 250 (Az Tryz.f15),⟨1,[0,2,3,7],[Ax,BZ,Da,Ac],Nq⟩,[(.exit 4,⟨1,[2,3],[BZ,Da],Nq⟩)]⟩
abbrev Apc(β:Type):=Int->BY->AZ->AW->AY->Bd->AZ->AW->AY->Bd->Option β
abbrev Apd(β:Type):=Int->BY->AD->Int->Int->Int->Bool->AZ->AW->AY->Bd->AZ->AW->AY->Bd->BH->Option β
noncomputable def AbW:Pc:=⟨109,1,AI 51 (E1 jG.c),⟨1,[0,2,3,5,6],[Ax,BZ,Da,Ac,IX],[Do,gZ,AaD,.cells 82 [.data .str,.data (.int .i64),.rowh 12,.data (.int .i64),.data (.int .i64),.data .bool],.row 79 F3,.row 82 Fa,.row 85 Fy,.row 44 FW,.row 79 F3,.row 82 Fa,.row 85 Fy,.row 44 FW,.row 151 (.prod (.int .i64) (.int .i64))]⟩,[(.normal,⟨1,[0,2,3,5],[Ax,BZ,Da,Ac],Nq⟩)]⟩
abbrev jK(β:Type):=Int->BY->AD->Int->AZ->AW->AY->Bd->AZ->AW->AY->Bd->DJ->Option β
abbrev jL(β:Type):=Int->Int->Int->BY->AD->Int->AZ->AW->AY->Bd->AZ->AW->AY->Bd->DJ->Option β
noncomputable def AbX:Pc:=⟨109,1,AI 202 (E1 jJ.c),⟨1,[0,2,3,7,8,9,10],[Ax,BZ,Da,Ac,IX,Ac,Ac],AaE⟩,[(.exit 6,⟨1,[0,2,3,7,8],[Ax,BZ,Da,Ac,IX],AaE⟩)]⟩
def Xg{β:Type}(rec:jD β)(k1:jC β):jD β:=λi_ d Dt CV CW CP Cn DW DP EE=>cond (decide ((0:Int)<i_)) (let l:=([([104,101,114,101]:List UInt8),([116,104,101,114,101]:List UInt8)]:List AD);cond (decide (0<=(List.length Cn:Int))&&decide ((List.length Cn:Int)<(List.length l:Int))) (WT (List.getD l (Int.toNat (List.length Cn:Int)) ([]:List UInt8)) d (λbX AAB=>let l2:=([bX]:List AG);cond (decide ((List.length Cn+List.length l2)*48<=Bt)) (let l3:=(Cn++l2);let BB:=(IntKind.i64.wrap (i_-1));rec BB AAB Dt CV CW CP l3 DW DP EE) none)) none) (k1 d Dt CV CW CP Cn DW DP EE)
def Sv(m:Nat){β:Type}(k1:jC β):jD β:=P1 (λr=>Xg r k1) none m
theorem AbY{β:Type}(i:Nat)(k1):Sv (β:=β) (i+1) k1=Xg (Sv i k1) k1:=rfl
def jM{β:Type}:=hid (Sv (β:=β) fuel)
noncomputable def Ape:Pb:=⟨58,AbV,λ_=>jM,pl (p:=AbV) PD [] (g:=λi _=>Sv i)⟩
def jN{β:Type}(k1:Apc β):Apd β:=λi_ d p_ AAW ACp ACq AAX CV CW CP Cn DW DP EE Qp NI=>let l:=([0,40,100,12]:List Int);Iv l d (λEV Ii=>let l2:=([0,11,24,1]:List Int);Iv l2 Ii (λO0 L6=>let l3:=([(p_,(AAW,(NI,((IntKind.i64.wrap (3600*EV)),((IntKind.i64.wrap (3600*O0)),AAX)))))]:List AX);cond (decide ((List.length DP+List.length l3)*72<=Bt)) (let l4:=(DP++l3);k1 i_ L6 CV CW CP Cn DW l4 EE Qp) none))
def Sw{β:Type}:=hid (jN (β:=β))
noncomputable def Apf:Pb:=⟨51,AbW,λ_=>Sw,pe (p:=AbW) PD [] 51 (g:=λ_=>jN)⟩
def Xh{β:Type}(rec:jF β)(k1:jE β):jF β:=λi_ d Dt CV CW CP Cn DW DP EE=>cond (decide ((0:Int)<i_)) (Sb (λQD=>cond (decide (0<=(List.length DW:Int))&&decide ((List.length DW:Int)<(List.length QD:Int))) (Cp (List.length Cn:Int) d (λCd Di=>La 3 Di (λKA IB=>La 2 IB (λAB1 Aj2=>cond AB1 (Se Aj2 (λvB v8=>Sw (λBB d2 NJ Hj Gp Gq Iz Jf J7 Je=>let IA:=(IntKind.i64.wrap (BB-(1:Int)));rec IA d2 NJ Hj Gp Gq Iz Jf J7 Je) i_ vB (List.getD QD (Int.toNat (List.length DW:Int)) ([]:List UInt8)) Cd 0 0 KA Dt CV CW CP Cn DW DP EE v8)) (Sw (λBB d2 NJ Hj Gp Gq Iz Jf J7 Je=>let IA:=(IntKind.i64.wrap (BB-(1:Int)));rec IA d2 NJ Hj Gp Gq Iz Jf J7 Je) i_ Aj2 (List.getD QD (Int.toNat (List.length DW:Int)) ([]:List UInt8)) Cd 0 0 KA Dt CV CW CP Cn DW DP EE ([]:List BX)))))) none)) (k1 d Dt CV CW CP Cn DW DP EE)
def PE(m:Nat){β:Type}(k1:jE β):jF β:=P1 (λr=>Xh r k1) none m
theorem AbZ{β:Type}(i:Nat)(k1):PE (β:=β) (i+1) k1=Xh (PE i k1) k1:=rfl
def jO{β:Type}:=hid (PE (β:=β) fuel)
noncomputable def Apg:Pb:=⟨122,jG,λ_=>jO,pl (p:=jG) PD [Apf] (g:=λi _=>PE i)⟩
def Xi{β:Type}(rec:jL β)(k1:jK β):jL β:=λi_ k_ day d x x2 CV CW CP Cn DW DP EE Qp NI=>cond (decide ((0:Int)<k_)) (Cp 6 d (λCd Di=>let day2:=(IntKind.i64.wrap (day+(IntKind.i64.wrap (1+Cd))));let l:=([day2]:List Int);cond (decide ((List.length NI+List.length l)*8<=Bt)) (let l2:=(NI++l);let GS:=(IntKind.i64.wrap (k_-1));rec i_ GS day2 Di x x2 CV CW CP Cn DW DP EE Qp l2) none)) (k1 i_ d x x2 CV CW CP Cn DW DP EE Qp NI)
def Sx(m:Nat){β:Type}(k1:jK β):jL β:=AaL (λr=>Xi r k1) none m
theorem Ac0{β:Type}(i:Nat)(k1):Sx (β:=β) (i+1) k1=Xi (Sx i k1) k1:=rfl
def jP{β:Type}:=hid (Sx (β:=β) fuel)
noncomputable def Aph:Pb:=⟨202,AbX,λ_=>jP,pl (p:=AbX) PD [] (g:=λi _=>Sx i)⟩
def Xj{β:Type}(rec:jI β)(k1:jH β):jI β:=λi_ d Dt CV CW CP Cn DW DP EE=>cond (decide ((0:Int)<i_)) (Cp (List.length Cn:Int) d (λCd Di=>Cp 4 Di (λDG GT=>jP (λBB d2 x x2 Hj Gp Gq Iz Jf J7 Je Qp NI=>let l:=([(x,(x2,NI))]:List Bu);cond (decide ((List.length Je+List.length l)*48<=Bt)) (let l2:=(Je++l);let IA:=(IntKind.i64.wrap (BB-(1:Int)));rec IA d2 Hj Gp Gq Iz Jf J7 l2 Qp) none) i_ DG 20454 GT ([100,97,121,115]:List UInt8) Cd Dt CV CW CP Cn DW DP EE ([]:List Int)))) (k1 d Dt CV CW CP Cn DW DP EE)
def Sy(m:Nat){β:Type}(k1:jH β):jI β:=P1 (λr=>Xj r k1) none m
theorem Ac1{β:Type}(i:Nat)(k1):Sy (β:=β) (i+1) k1=Xj (Sy i k1) k1:=rfl
def jQ{β:Type}:=hid (Sy (β:=β) fuel)
noncomputable def Api:Pb:=⟨250,jJ,λ_=>jQ,pl (p:=jJ) PD [Aph] (g:=λi _=>Sy i)⟩
def Xk:Apb:=hid λd k=>Cp 2 d (λCd Di=>let i_:=(IntKind.i64.wrap (1+Cd));jM (λd2 Dt CV CW CP Cn DW DP EE=>Cp 4 d2 (λDG GT=>let BB:=(IntKind.i64.wrap (1+DG));jO (λd3 NJ Hj Gp Gq Iz Jf J7 Je=>Cp 2 d3 (λL7 Ov=>jQ (λAJ ABQ AhN AhO AhP sS Ayk Ayl Ayh=>k sS Ayk Ayl AJ Ayh) L7 Ov NJ Hj Gp Gq Iz Jf J7 Je)) BB GT Dt CV CW CP Cn DW DP EE)) i_ Di ([]:List AG) ([]:List AX) ([]:List Bu) ([]:List B8) ([]:List AG) ([]:List AX) ([]:List Bu) ([]:List B8))
noncomputable def Apj:En:=⟨15,.spec (sg [Ax] [Do] [(true,[.data (.slice F3),.data (.slice Fa),.data (.slice Fy),.rowh 1])] [Do,.row 44 FW] Xk),pf PD [Ape,Apg,Api] [.cell 2 32] Tryz.func15⟩
abbrev Apk:={β:Type}->AZ->AW->AY->AD->BY->(Bz->BY->Option β)->Option β
noncomputable def Sz:List En:=[WS,KZ,P2,AaW]
abbrev Apl(β:Type):=BY->AD->Int->Int->Int->Int->Int->Int->Int->AD->Int->Int->Int->Int->Int->Int->Int->DJ->BH->DJ->BH->Option β
abbrev Apm(β:Type):=Bool->BY->AZ->AW->AY->AD->Int->Int->Int->Int->Int->Int->Int->AD->Int->Int->Int->Int->Int->Int->Int->DJ->BH->DJ->BH->Option β
noncomputable def Ac2:Pc:=⟨77,1,AI 253 (Az Tryz.f17),⟨1,[0,4,6,7,65],[Ax,BZ,Da,IX,AK],RV⟩,[(.normal,⟨1,[6,7],[BZ,Da],[Do,.cells 62 [.data .str,.data (.int .i64),.data (.int .i64),.data (.int .i64),.data (.int .i64),.data (.int .i64),.rowh 3,.rowh 4,.data (.int .i64),.data (.int .i64)],.cells 62 [.data .str,.data (.int .i64),.data (.int .i64),.data (.int .i64),.data (.int .i64),.data (.int .i64),.rowh 5,.rowh 6,.data (.int .i64),.data (.int .i64)],.row 3 (.int .i64),.row 151 (.prod (.int .i64) (.int .i64)),.row 3 (.int .i64),.row 151 (.prod (.int .i64) (.int .i64))]⟩)]⟩
abbrev Ac3(β:Type):=BY->AD->Int->Int->Int->Int->Int->Int->Int->DJ->BH->Option β
abbrev Apn(β:Type):=BY->AZ->AW->AY->AD->Int->Int->Int->Int->Int->Int->Int->AD->Int->Int->Int->Int->Int->Int->Int->DJ->BH->DJ->BH->Option β
noncomputable def Ac4:Pc:=⟨77,1,AI 63 (Az Tryz.f17),⟨1,[0,4,6,7],[Ax,BZ,Da,IX],RV⟩,[(.ret,⟨1,[6],[BZ],[Do,AaB,.row 3 (.int .i64),.row 151 (.prod (.int .i64) (.int .i64))]⟩)]⟩
abbrev jR(β:Type):=BY->AZ->AW->AY->AD->Int->Int->Int->Int->Int->Int->Int->AD->Int->Int->Int->Int->Int->Int->Int->DJ->BH->DJ->BH->Option β
abbrev jS(β:Type):=Int->BY->AZ->AW->AY->AD->Int->Int->Int->Int->Int->Int->Int->AD->Int->Int->Int->Int->Int->Int->Int->DJ->BH->DJ->BH->Option β
noncomputable def Ac5:Pc:=⟨77,1,AI 122 (Az Tryz.f17),⟨1,[0,4,6,7,8],[Ax,BZ,Da,IX,Ac],RV⟩,[(.exit 0,⟨1,[0,4,6,7],[Ax,BZ,Da,IX],RV⟩)]⟩
abbrev Ac6(β:Type):=BY->AD->Int->Int->Int->Int->Int->Int->Int->DJ->BH->Option β
abbrev Apo(β:Type):=BY->AZ->AW->AY->AD->Int->Int->Int->Int->Int->Int->Int->AD->Int->Int->Int->Int->Int->Int->Int->DJ->BH->DJ->BH->Option β
noncomputable def Ac7:Pc:=⟨77,1,AI 15 (Az Tryz.f17),⟨1,[0,4,6,7],[Ax,BZ,Da,IX],RV⟩,[(.ret,⟨1,[6],[BZ],[Do,AaB,.row 3 (.int .i64),.row 151 (.prod (.int .i64) (.int .i64))]⟩)]⟩
def jT{β:Type}(k1:Apl β):Apm β:=λFQ d c c2 c3 t6 CZ FC Ff FD FE FF LC l l2 l3 l4 l5 l6 l7 l8 CV CW CP Cn=>cond FQ (Cp (List.length c3:Int) d (λCd Di=>Cp 2 Di (λDG GT=>k1 GT t6 CZ FC Ff FD FE FF LC l l2 l3 l4 l5 l6 Cd (IntKind.i64.wrap (1+DG)) CV CW CP Cn))) (k1 d t6 CZ FC Ff FD FE FF LC l l2 l3 l4 l5 l6 l7 l8 CV CW CP Cn)
def Xl{β:Type}:=hid (jT (β:=β))
noncomputable def App:Pb:=⟨253,Ac2,λ_=>Xl,pe (p:=Ac2) Sz [] 253 (g:=λ_=>jT)⟩
def jU{β:Type}(k1:Ac3 β):Apn β:=λd c c2 c3 t6 CZ FC Ff FQ FD FE FF l l2 l3 l4 l5 l6 l7 l8 CV CW CP Cn=>La 4 d (λKA IB=>cond KA (Xl (λAJ LC cA cB MG KD cC cD cE l9 l10 l11 l12 l13 l14 l15 l16 Dt Hj Gp Gq=>k1 AJ l9 l10 l11 l12 l13 l14 l15 l16 Gp Gq) (decide ((0:Int)<(List.length c3:Int))) IB c c2 c3 t6 CZ FC Ff FQ FD FE FF l l2 l3 l4 l5 l6 l7 l8 CV CW CP Cn) (Xl (λAJ LC cA cB MG KD cC cD cE l9 l10 l11 l12 l13 l14 l15 l16 Dt Hj Gp Gq=>k1 AJ l9 l10 l11 l12 l13 l14 l15 l16 Gp Gq) false IB c c2 c3 t6 CZ FC Ff FQ FD FE FF l l2 l3 l4 l5 l6 l7 l8 CV CW CP Cn))
def S0{β:Type}:=hid (jU (β:=β))
noncomputable def Apq:Pb:=⟨63,Ac4,λ_=>S0,pe (p:=Ac4) Sz [App] 63 (g:=λ_=>jU)⟩
def Xm{β:Type}(rec:jS β)(k1:jR β):jS β:=λi_ d c c2 c3 t6 CZ FC Ff FQ FD FE FF l l2 l3 l4 l5 l6 l7 l8 CV CW CP Cn=>cond (decide ((0:Int)<i_)) (Cp (List.length c2:Int) d (λCd Di=>let l9:=([Cd]:List Int);cond (decide ((List.length CP+List.length l9)*8<=Bt)) (let l10:=(CP++l9);let BB:=(IntKind.i64.wrap (i_-1));rec BB Di c c2 c3 t6 CZ FC Ff FQ FD FE FF l l2 l3 l4 l5 l6 l7 l8 CV CW l10 Cn) none)) (k1 d c c2 c3 t6 CZ FC Ff FQ FD FE FF l l2 l3 l4 l5 l6 l7 l8 CV CW CP Cn)
def S1(m:Nat){β:Type}(k1:jR β):jS β:=AaM (λr=>Xm r k1) none m
theorem Ac8{β:Type}(i:Nat)(k1):S1 (β:=β) (i+1) k1=Xm (S1 i k1) k1:=rfl
def jV{β:Type}:=hid (S1 (β:=β) fuel)
noncomputable def Apr:Pb:=⟨122,Ac5,λ_=>jV,pl (p:=Ac5) Sz [] (g:=λi _=>S1 i)⟩
def jW{β:Type}(k1:Ac6 β):Apo β:=λd c c2 c3 t6 CZ FC Ff FQ FD FE FF l l2 l3 l4 l5 l6 l7 l8 CV CW CP Cn=>Cp 3 d (λCd Di=>let i_:=(IntKind.i64.wrap (1+Cd));jV (λd2 c4 c5 c6 LC cA cB MG KD cC cD cE l9 l10 l11 l12 l13 l14 l15 l16 Hj Gp Gq Iz=>La 2 d2 (λKA IB=>cond KA (Se IB (λvB v8=>S0 (λAJ vV vW vX vY vZ O8 LB wA EF Dt=>k1 AJ vV vW vX vY vZ O8 LB wA EF Dt) vB c4 c5 c6 LC cA cB MG KD cC cD cE l9 l10 l11 l12 l13 l14 l15 l16 Hj Gp Gq v8)) (S0 (λAJ vV vW vX vY vZ O8 LB wA EF Dt=>k1 AJ vV vW vX vY vZ O8 LB wA EF Dt) IB c4 c5 c6 LC cA cB MG KD cC cD cE l9 l10 l11 l12 l13 l14 l15 l16 Hj Gp Gq Iz))) i_ Di c c2 c3 t6 CZ FC Ff FQ FD FE FF l l2 l3 l4 l5 l6 l7 l8 CV CW CP Cn)
def S2{β:Type}:=hid (jW (β:=β))
noncomputable def Aps:Pb:=⟨15,Ac7,λ_=>S2,pe (p:=Ac7) Sz [Apq,Apr] 15 (g:=λ_=>jW)⟩
def Xn:Apk:=hid λc c2 c3 name d k=>Cp (List.length c:Int) d (λCd Di=>Cp 6 Di (λDG GT=>let l:=([0,32400,7200,9000,79200,1]:List Int);Iv l GT (λEV Ii=>Cp 3 Ii (λL7 Ov=>Cp 2 Ov (λVk Ow=>cond (decide (L7=(0:Int))) (let l2:=([6,8,12,24,23,49]:List Int);Iv l2 Ow (λO0 L6=>S2 (λAJ t6 CZ FC Ff FQ FD FE FF EF Dt=>k (t6,(CZ,((FC,Ff),(FQ,(FD,(EF,(Dt,(FE,FF)))))))) AJ) L6 c c2 c3 ([]:List UInt8) 0 0 0 0 0 0 0 name Cd (IntKind.i64.wrap ((IntKind.i64.wrap (20454+DG))-2)) EV L7 O0 0 0 ([]:List Int) ([]:List BX) ([]:List Int) ([]:List BX))) (S2 (λAJ t6 CZ FC Ff FQ FD FE FF EF Dt=>k (t6,(CZ,((FC,Ff),(FQ,(FD,(EF,(Dt,(FE,FF)))))))) AJ) Ow c c2 c3 ([]:List UInt8) 0 0 0 0 0 0 0 name Cd (IntKind.i64.wrap ((IntKind.i64.wrap (20454+DG))-2)) EV L7 (IntKind.i64.wrap (1+Vk)) 0 0 ([]:List Int) ([]:List BX) ([]:List Int) ([]:List BX)))))))
noncomputable def Apt:En:=⟨17,.spec (sg [Ax,AaC,B9] [Do] [Mc] [Do] Xn),pf Sz [Aps] [.cell 6 62] Tryz.func17⟩
abbrev Apu:={β:Type}->BY->(Int->BY->Option β)->Option β
def Xo:Apu:=hid λd k=>Cp 576 d (λCd Di=>let t:=(IntKind.i64.wrap (1767139200+(IntKind.i64.wrap (3600*Cd))));La 3 Di (λKA IB=>cond KA (let l:=([(-1),1,1800,3599]:List Int);Iv l IB (λEV Ii=>let t2:=(IntKind.i64.wrap (t+EV));k t2 Ii)) (k t IB)))
noncomputable def Apv:En:=⟨19,.spec (sg [Ax] [Do] [Ac] [Do] Xo),pf [WS,KZ,P2] [] [.tmp 2] Tryz.func19⟩
abbrev Apw:={β:Type}->AD->EO->AZ->AW->AY->Bd->BV->(AZ->AW->AY->Bd->BV->Option β)->Option β
def DA:Apw:=hid λkeyword tokens w w2 w3 w4 BL k=>Fk keyword (λD0=>let l:=([D0]:List BF);cond (decide ((List.length l+List.length tokens)*32<=Bt)) (let l2:=(l++tokens);let l3:=([((IntKind.i64.wrap ((List.length BL:Int)+(1:Int))),l2)]:List KW);cond (true&&decide ((List.length BL+List.length l3)*32<=Bt)) (let l4:=(BL++l3);k w w2 w3 w4 l4) none) none)
theorem Apx:SpecOkB Tryz.prog 31 (sg [Ax,B9,EC] DO [] DO DA):=Ka mixed (X:=⟨look tab,gam [Iw],false,false,false,false,Fj,none,0,[]⟩) Bx [Iw] rfl [] [] Tryz.func31 (by kernel_rfl) λ_ _=>by kernel_rfl
noncomputable def Mf:En:=.handf Apx rfl (by kernel_rfl)
abbrev Apy:={β:Type}->CN->AZ->AW->AY->Bd->BV->(AZ->AW->AY->Bd->BV->Option β)->Option β
noncomputable def Xp:List En:=[AnE,Mf,iE]
abbrev Apz(β:Type):=AZ->AW->AY->Bd->BV->Option β
abbrev ApA(β:Type):=AZ->AW->AY->Bd->BV->CN->EO->Option β
noncomputable def Ac9:Pc:=⟨36,2,AI 15 (Az Tryz.f34),⟨2,[0,3,4],[Ax,Da,(false,[.rowh 3])],[Px,.tree 109 Kf,HO,.row 89 Fz]⟩,[(.normal,⟨2,[],[],DO⟩)]⟩
def jX{β:Type}(k1:Apz β):ApA β:=λw w2 w3 w4 BL x l=>let l2:=([([108,101,97,118,101]:List UInt8),([111,118,101,114,114,105,100,101]:List UInt8),([115,119,97,112]:List UInt8)]:List AD);cond (decide (0<=x.1)&&decide (x.1<(List.length l2:Int))) (Sh x.2.2.2.1 (λrinstant=>Sh x.2.2.2.2 (λrinstant2=>let l3:=([rinstant,rinstant2]:List BF);cond (decide ((List.length l+List.length l3)*32<=Bt)) (let l4:=(l++l3);DA (List.getD l2 (Int.toNat x.1) ([]:List UInt8)) l4 w w2 w3 w4 BL (λF8 F9 FA FB F7=>k1 F8 F9 FA FB F7)) none))) none
def S3{β:Type}:=hid (jX (β:=β))
noncomputable def ApB:Pb:=⟨15,Ac9,λ_=>S3,RH mixed (X:=⟨look tab,gam Xp,false,false,false,false,Fj,none,0,[]⟩) (p:=Ac9) Bx Xp rfl [] 15 (g:=λ_=>jX) (by kernel_rfl) λ_ _=>by kernel_rfl⟩
def Xq:Apy:=hid λx w w2 w3 w4 BL k=>FY x.2.1 w w2 w3 w4 BL (λrperson Vf Vg Vh Vi Ve=>let l:=([rperson]:List BF);cond (decide (x.1=(2:Int))) (FY x.2.2.1 Vf Vg Vh Vi Ve (λrperson2 bO bP bQ bR bN=>let l2:=([rperson2]:List BF);cond (decide ((List.length l+List.length l2)*32<=Bt)) (let l3:=(l++l2);S3 (λAJ B6 Cu Cv Cb=>k AJ B6 Cu Cv Cb) bO bP bQ bR bN x l3) none)) (S3 (λAJ B6 Cu Cv Cb=>k AJ B6 Cu Cv Cb) Vf Vg Vh Vi Ve x l))
theorem ApC:SpecOkB Tryz.prog 34 (sg [Ax,RQ] DO [] DO Xq):=Ka mixed (X:=⟨look tab,gam Xp,false,false,false,false,Fj,none,0,[]⟩) Bx Xp rfl [ApB] [] Tryz.func34 (by kernel_rfl) λ_ _=>by kernel_rfl
noncomputable def ApD:En:=.handf ApC rfl (by kernel_rfl)
noncomputable def ApE:En:=au [AnF] [HP,HP] [] [AK] [] [.tmp 4] Tryz.func36 (by kernel_rfl)
noncomputable def ApF:En:=au [Ab6] [Pz,Pz] [] [AK] [] [.tmp 4] Tryz.func38 (by kernel_rfl)
noncomputable def ApG:En:=au [Ab7] [Ma,Ma] [] [AK] [] [.tmp 4] Tryz.func40 (by kernel_rfl)
abbrev ApH:={β:Type}->AD->BH->AZ->AW->AY->Bd->BV->(AZ->AW->AY->Bd->BV->Option β)->Option β
noncomputable def Xr:List En:=[iD,Ab3,Mf]
abbrev Aca(β:Type):=AZ->AW->AY->Bd->BV->Option β
abbrev jY(β:Type):=AD->BH->Int->Int->AZ->AW->AY->Bd->BV->Option β
noncomputable def Acb:Pc:=⟨40,2,AI 6 (Az Tryz.f75),⟨2,[0,1,9,10,11],[Ax,B9,It,Ac,Ac],DO⟩,[(.exit 0,⟨2,[],[],DO⟩)]⟩
def Xs{β:Type}(rec:jY β)(k1:Aca β):jY β:=λkeyword t9 EK JJ w w2 w3 w4 BL=>cond (decide (JJ<EK)) (cond (decide (0<=JJ)&&decide (JJ<(List.length t9:Int))) (let e:=List.getD t9 (Int.toNat JJ) (0,0);let last:=(IntKind.i64.wrap (Int.tdiv (IntKind.i64.wrap (e.2-(1:Int))) 86400));P3 (IntKind.i64.wrap (Int.tdiv e.1 86400)) (λrweekday=>Md (Int.tmod e.1 86400) (λGU=>P3 last (λrweekday2=>Md (IntKind.i64.wrap (e.2-(IntKind.i64.wrap (last*86400)))) (λME=>let l:=([rweekday,GU,rweekday2,ME]:List BF);DA keyword l w w2 w3 w4 BL (λF8 F9 FA FB F7=>rec keyword t9 EK (IntKind.i64.wrap (JJ+(1:Int))) F8 F9 FA FB F7)))))) none) (k1 w w2 w3 w4 BL)
def S4(m:Nat){β:Type}(k1:Aca β):jY β:=Sa (λr=>Xs r k1) none m
theorem Acc{β:Type}(i:Nat)(k1):S4 (β:=β) (i+1) k1=Xs (S4 i k1) k1:=rfl
def jZ{β:Type}:=hid (S4 (β:=β) fuel)
noncomputable def ApI:Pb:=⟨6,Acb,λ_=>jZ,Kb mixed (X:=⟨look tab,gam Xr,false,false,false,false,Fj,none,0,[]⟩) (p:=Acb) Bx Xr rfl [] (g:=λi _=>S4 i) (by kernel_rfl) rfl (by kernel_rfl) (λ_ _=>rfl) λ_ _ _ _=>by kernel_rfl⟩
def Ny:ApH:=hid λkeyword l w w2 w3 w4 BL k=>jZ (λAJ B6 Cu Cv Cb=>k AJ B6 Cu Cv Cb) keyword l (List.length l:Int) 0 w w2 w3 w4 BL
theorem ApJ:SpecOkB Tryz.prog 75 (sg [Ax,B9,It] DO [] DO Ny):=Ka mixed (X:=⟨look tab,gam Xr,false,false,false,false,Fj,none,0,[]⟩) Bx Xr rfl [ApI] [] Tryz.func75 (by kernel_rfl) λ_ _=>by kernel_rfl
noncomputable def Acd:En:=.handf ApJ rfl (by kernel_rfl)
abbrev ApK:={β:Type}->(Int->Option β)->Option β
def S5:ApK:=hid λk=>Sq 2241 (λryear=>let t:=(IntKind.i64.wrap (ryear-1));k t)
noncomputable def k7:En:=⟨93,.spec (sg [] [] [Ac] [] S5),pf [Abt] [] [.tmp 0] Tryz.func93⟩
abbrev ApL:={β:Type}->Au->Bz->(Int->Option β)->Option β
noncomputable def S6:List En:=[k7,Abf,Sj]
abbrev Ace(β:Type):=Int->Option β
abbrev Acf(β:Type):=Au->Bz->Option β
abbrev k8(β:Type):=Int->Au->Bz->Option β
noncomputable def Acg:Pc:=⟨102,0,AI 58 (Az Tryz.f94),⟨0,[2,3,5],[Ax,BZ,Ac],[BG,KY]⟩,[(.ret,⟨0,[4],[Ac],[]⟩),(.exit 1,⟨0,[2,3],[Ax,BZ],[BG,KY]⟩)]⟩
abbrev ApM(β:Type):=Int->Option β
abbrev ApN(β:Type):=Unit->Option β
abbrev ApO(β:Type):=Bool->Bz->Option β
noncomputable def Ach:Pc:=⟨102,0,AI 1951 (Az Tryz.f94),⟨0,[3,79],[Ax,AK],[KY]⟩,[(.ret,⟨0,[4],[Ac],[]⟩),(.normal,⟨0,[],[],[]⟩)]⟩
abbrev ApP(β:Type):=Int->Option β
abbrev ApQ(β:Type):=Au->Bz->Option β
noncomputable def Aci:Pc:=⟨102,0,AI 7 (Az Tryz.f94),⟨0,[2,3],[Ax,BZ],[BG,KY]⟩,[(.ret,⟨0,[4],[Ac],[]⟩)]⟩
abbrev ApR(β:Type):=Int->Option β
abbrev ApS(β:Type):=Au->Bz->Option β
abbrev ApT(β:Type):=Bool->Au->Bz->Option β
noncomputable def Acj:Pc:=⟨102,0,AI 103 (Az Tryz.f94),⟨0,[2,3,15],[Ax,BZ,AK],[BG,KY]⟩,[(.ret,⟨0,[4],[Ac],[]⟩),(.normal,⟨0,[2,3],[Ax,BZ],[BG,KY]⟩)]⟩
def Xt{β:Type}(rec:k8 β)(k1:Ace β)(k2:Acf β):k8 β:=λi_ c l=>cond (decide (i_<(List.length l.2.2.2.2.2.1:Int))) (cond (decide (0<=i_)&&decide (i_<(List.length l.2.2.2.2.2.1:Int))) (let e:=List.getD l.2.2.2.2.2.1 (Int.toNat i_) 0;FK e 0 (IntKind.i64.wrap ((List.length c.2.1:Int)-(1:Int))) (λDj=>cond (!Dj) (k1 3) (let BB:=(IntKind.i64.wrap (i_+1));rec BB c l))) none) (k2 c l)
def S7(m:Nat){β:Type}(k1:Ace β)(k2:Acf β):k8 β:=FX (λr=>Xt r k1 k2) none m
theorem Ack{β:Type}(i:Nat)(k1 k2):S7 (β:=β) (i+1) k1 k2=Xt (S7 i k1 k2) k1 k2:=rfl
def k9{β:Type}:=hid (S7 (β:=β) fuel)
noncomputable def ApU:Pb:=⟨58,Acg,λ_=>k9,pl (p:=Acg) S6 [] (g:=λi _=>S7 i)⟩
def kA{β:Type}(k1:ApM β)(k2:ApN β):ApO β:=λABC l=>cond ABC (k1 3) (cond (decide (l.2.2.2.2.2.2.2.2=(0:Int))) (let t:=(!decide (l.2.2.2.2.2.2.2.1=(0:Int)));cond t (k1 1) (k2 ())) (k2 ()))
def S8{β:Type}:=hid (kA (β:=β))
noncomputable def ApV:Pb:=⟨1951,Ach,λ_=>S8,pe (p:=Ach) S6 [] 1951 (g:=λ_=>kA)⟩
def kB{β:Type}(k1:ApP β):ApQ β:=λc l=>k9 (λt4=>k1 t4) (λc2 l2=>Sm l2.2.2.2.2.2.2.1 (λGz=>let t:=(!decide (Gz=0));cond t (k1 8) (FK l2.2.2.2.2.2.2.2.2 0 2 (λDj=>cond (!Dj) (k1 1) (cond (!decide (l2.2.2.2.2.2.2.2.2=(0:Int))) (FK l2.2.2.2.2.2.2.2.1 0 (IntKind.i64.wrap ((List.length c2.2.2.1:Int)-(1:Int))) (λIF=>S8 (λt4=>k1 t4) (λ_=>k1 0) (!IF) l2)) (S8 (λt4=>k1 t4) (λ_=>k1 0) false l2)))))) 0 c l
def Nz{β:Type}:=hid (kB (β:=β))
noncomputable def ApW:Pb:=⟨7,Aci,λ_=>Nz,pe (p:=Aci) S6 [ApU,ApV] 7 (g:=λ_=>kB)⟩
def kC{β:Type}(k1:ApR β)(k2:ApS β):ApT β:=λB7 c l=>cond B7 (k1 1) (let t:=(decide ((List.length l.2.2.2.2.2.1:Int)=(0:Int)));cond t (k1 7) (let t2:=(decide ((12:Int)<(List.length l.2.2.2.2.2.1:Int)));cond t2 (k1 5) (k2 c l)))
def PF{β:Type}:=hid (kC (β:=β))
noncomputable def ApX:Pb:=⟨103,Acj,λ_=>PF,pe (p:=Acj) S6 [] 103 (g:=λ_=>kC)⟩
def Xu:ApL:=hid λc l k=>FK l.2.1 0 (IntKind.i64.wrap ((List.length c.1:Int)-(1:Int))) (λDj=>cond (!Dj) (k 3) (S5 (λVj=>FK l.2.2.1.1 1 Vj (λIF=>cond (!IF) (PF (λt4=>k t4) (λc2 l2=>Nz (λt4=>k t4) c2 l2) true c l) (FK l.2.2.1.2 0 86399 (λIG=>cond (!IG) (PF (λt4=>k t4) (λc2 l2=>Nz (λt4=>k t4) c2 l2) true c l) (FK l.2.2.2.1 0 2 (λVn=>cond (!Vn) (PF (λt4=>k t4) (λc2 l2=>Nz (λt4=>k t4) c2 l2) true c l) (FK l.2.2.2.2.1 1 400 (λVo=>PF (λt4=>k t4) (λc2 l2=>Nz (λt4=>k t4) c2 l2) (!Vo) c l))))))))))
noncomputable def ApY:En:=⟨94,.spec (sg [Eh,Mc] [] [Ac] [] Xu),pf S6 [ApW,ApX] [.tmp 4] Tryz.func94⟩
abbrev ApZ:={β:Type}->Au->CN->(Int->Option β)->Option β
noncomputable def S9:List En:=[k7,Sj]
abbrev Aq0(β:Type):=Int->Option β
abbrev Aq1(β:Type):=Unit->Option β
abbrev Aq2(β:Type):=Bool->CN->Option β
noncomputable def Acl:Pc:=⟨86,0,AI 14847 (Az Tryz.f95),⟨0,[3,64],[Ax,AK],[HO]⟩,[(.ret,⟨0,[4],[Ac],[]⟩),(.normal,⟨0,[],[],[]⟩)]⟩
abbrev Aq3(β:Type):=Int->Option β
abbrev Aq4(β:Type):=Unit->Option β
abbrev Aq5(β:Type):=Bool->CN->Option β
noncomputable def Acm:Pc:=⟨86,0,AI 3711 (Az Tryz.f95),⟨0,[3,53],[Ax,AK],[HO]⟩,[(.ret,⟨0,[4],[Ac],[]⟩),(.normal,⟨0,[],[],[]⟩)]⟩
abbrev Aq6(β:Type):=Int->Option β
abbrev Aq7(β:Type):=Unit->Option β
abbrev Aq8(β:Type):=Bool->CN->Option β
noncomputable def Acn:Pc:=⟨86,0,AI 927 (Az Tryz.f95),⟨0,[3,44],[Ax,AK],[HO]⟩,[(.ret,⟨0,[4],[Ac],[]⟩),(.normal,⟨0,[],[],[]⟩)]⟩
abbrev Aq9(β:Type):=Int->Option β
abbrev Aqa(β:Type):=Unit->Option β
abbrev Aqb(β:Type):=Bool->CN->Option β
noncomputable def Aco:Pc:=⟨86,0,AI 231 (Az Tryz.f95),⟨0,[3,14],[Ax,AK],[HO]⟩,[(.ret,⟨0,[4],[Ac],[]⟩),(.normal,⟨0,[],[],[]⟩)]⟩
def kD{β:Type}(k1:Aq0 β)(k2:Aq1 β):Aq2 β:=λFf x=>cond Ff (k1 1) (let t:=(decide (x.2.2.2.2<=x.2.2.2.1));cond t (k1 6) (k2 ()))
def PG{β:Type}:=hid (kD (β:=β))
noncomputable def Aqc:Pb:=⟨14847,Acl,λ_=>PG,pe (p:=Acl) S9 [] 14847 (g:=λ_=>kD)⟩
def kE{β:Type}(k1:Aq3 β)(k2:Aq4 β):Aq5 β:=λt53 x=>cond t53 (k1 4) (cond (decide (x.2.2.2.1<(0:Int))) (PG (λt4=>k1 t4) (λ_=>k2 ()) true x) (cond (decide (x.2.2.2.2<(0:Int))) (PG (λt4=>k1 t4) (λ_=>k2 ()) true x) (S5 (λVj=>let t:=(decide (Vj<(IntKind.i64.wrap (Int.tdiv x.2.2.2.2 86400))));PG (λt4=>k1 t4) (λ_=>k2 ()) t x))))
def SA{β:Type}:=hid (kE (β:=β))
noncomputable def Aqd:Pb:=⟨3711,Acm,λ_=>SA,pe (p:=Acm) S9 [Aqc] 3711 (g:=λ_=>kE)⟩
def kF{β:Type}(k1:Aq6 β)(k2:Aq7 β):Aq8 β:=λABy x=>cond ABy (k1 1) (cond (decide (x.1=(2:Int))) (let t:=(decide (x.2.1=x.2.2.1));SA (λt4=>k1 t4) (λ_=>k2 ()) t x) (SA (λt4=>k1 t4) (λ_=>k2 ()) false x))
def SB{β:Type}:=hid (kF (β:=β))
noncomputable def Aqe:Pb:=⟨927,Acn,λ_=>SB,pe (p:=Acn) S9 [Aqd] 927 (g:=λ_=>kF)⟩
def kG{β:Type}(k1:Aq9 β)(k2:Aqa β):Aqb β:=λCm x=>cond Cm (k1 3) (cond (!decide (x.1=(2:Int))) (let t:=(!decide (x.2.2.1=(0:Int)));SB (λt4=>k1 t4) (λ_=>k2 ()) t x) (SB (λt4=>k1 t4) (λ_=>k2 ()) false x))
def Jw{β:Type}:=hid (kG (β:=β))
noncomputable def Aqf:Pb:=⟨231,Aco,λ_=>Jw,pe (p:=Aco) S9 [Aqe] 231 (g:=λ_=>kG)⟩
def Xv:ApZ:=hid λc x k=>FK x.1 0 2 (λDj=>cond (!Dj) (k 1) (FK x.2.1 0 (IntKind.i64.wrap ((List.length c.2.1:Int)-(1:Int))) (λIF=>cond (!IF) (cond (!decide (x.1=(1:Int))) (Jw (λt4=>k t4) (λ_=>k 0) true x) (cond (!decide (x.2.1=(-1:Int))) (Jw (λt4=>k t4) (λ_=>k 0) true x) (cond (decide (x.1=(2:Int))) (FK x.2.2.1 0 (IntKind.i64.wrap ((List.length c.2.1:Int)-(1:Int))) (λIG=>Jw (λt4=>k t4) (λ_=>k 0) (!IG) x)) (Jw (λt4=>k t4) (λ_=>k 0) false x)))) (cond (decide (x.1=(2:Int))) (FK x.2.2.1 0 (IntKind.i64.wrap ((List.length c.2.1:Int)-(1:Int))) (λIG=>Jw (λt4=>k t4) (λ_=>k 0) (!IG) x)) (Jw (λt4=>k t4) (λ_=>k 0) false x)))))
noncomputable def Aqg:En:=⟨95,.spec (sg [Eh,RQ] [] [Ac] [] Xv),pf S9 [Aqf] [.tmp 4] Tryz.func95⟩
abbrev Aqh:={β:Type}->EO->(EO->Bool->Option β)->Option β
noncomputable def Acp:List En:=[Aog]
abbrev Acq(β:Type):=EO->EO->Option β
abbrev kH(β:Type):=EO->EO->Int->Int->Eg->Option β
noncomputable def Acr:Pc:=⟨55,0,AI 122 (Az Tryz.f104),⟨0,[0,4,13,14,15],[EC,EC,C0,Ac,Ac],[.row 9 .str]⟩,[(.exit 0,⟨0,[0,4],[EC,EC],[]⟩)]⟩
def Acs{β:Type}(rec:kH β)(k1:Acq β):kH β:=λl BA Cm B7 Dq=>cond (decide (B7<Cm)) (cond (decide (0<=B7)&&decide (B7<(List.length Dq:Int))) (let s:=(List.getD Dq (Int.toNat B7) ([]:List UInt8));cond (decide ((2:Int)<=(List.length BA:Int))) (cond (decide (0<=(0:Int))&&decide ((0:Int)<(List.length BA:Int))) (let e:=List.getD BA (Int.toNat 0) (0,(([]:List UInt8),0));iR e s (λD0=>cond D0 (cond (decide (0<=(1:Int))&&decide ((1:Int)<(List.length BA:Int))) (let e2:=List.getD BA (Int.toNat 1) (0,(([]:List UInt8),0));cond (decide (e2.1=(1:Int))) (cond (decide (0<=(2:Int))&&(decide ((2:Int)<=(List.length BA:Int))&&decide ((List.length BA:Int)<=(List.length BA:Int)))) (let rest2:=(List.drop (Int.toNat 2) (List.take (Int.toNat (List.length BA:Int)) BA));rec l rest2 Cm (IntKind.i64.wrap (B7+(1:Int))) Dq) none) (rec l BA Cm (IntKind.i64.wrap (B7+(1:Int))) Dq)) none) (rec l BA Cm (IntKind.i64.wrap (B7+(1:Int))) Dq))) none) (rec l BA Cm (IntKind.i64.wrap (B7+(1:Int))) Dq)) none) (k1 l BA)
def Xw(m:Nat){β:Type}(k1:Acq β):kH β:=Jv (λr=>Acs r k1) none m
theorem ABL{β:Type}(i:Nat)(k1):Xw (β:=β) (i+1) k1=Acs (Xw i k1) k1:=rfl
def Acu{β:Type}:=hid (Xw (β:=β) fuel)
noncomputable def Aqi:Pb:=⟨122,Acr,λ_=>Acu,pl (p:=Acr) Acp [] (g:=λi _=>Xw i)⟩
def Acv:Aqh:=hid λl k=>cond (decide ((List.length l:Int)<(3:Int))) (k l false) (cond (decide (0<=(3:Int))&&(decide ((3:Int)<=(List.length l:Int))&&decide ((List.length l:Int)<=(List.length l:Int)))) (let BA:=(List.drop (Int.toNat 3) (List.take (Int.toNat (List.length l:Int)) l));let l2:=([([119,101,101,107]:List UInt8),([114,101,115,116]:List UInt8)]:List AD);Acu (λl3 rest2=>cond (decide ((0:Int)<(List.length rest2:Int))) (cond (decide (0<=(0:Int))&&decide ((0:Int)<(List.length rest2:Int))) (let e:=List.getD rest2 (Int.toNat 0) (0,(([]:List UInt8),0));iR e ([99,111,110,115,101,110,116]:List UInt8) (λD0=>cond D0 (cond (decide (0<=(1:Int))&&(decide ((1:Int)<=(List.length rest2:Int))&&decide ((List.length rest2:Int)<=(List.length rest2:Int)))) (let rest3:=(List.drop (Int.toNat 1) (List.take (Int.toNat (List.length rest2:Int)) rest2));cond (decide (0<=(0:Int))&&(decide ((0:Int)<=(3:Int))&&decide ((3:Int)<=(List.length l3:Int)))) (let t:=(List.drop (Int.toNat 0) (List.take (Int.toNat 3) l3));let t2:=(decide ((List.length rest3:Int)=(0:Int)));k t t2) none) none) (cond (decide (0<=(0:Int))&&(decide ((0:Int)<=(3:Int))&&decide ((3:Int)<=(List.length l3:Int)))) (let t:=(List.drop (Int.toNat 0) (List.take (Int.toNat 3) l3));let t2:=(decide ((List.length rest2:Int)=(0:Int)));k t t2) none))) none) (cond (decide (0<=(0:Int))&&(decide ((0:Int)<=(3:Int))&&decide ((3:Int)<=(List.length l3:Int)))) (let t:=(List.drop (Int.toNat 0) (List.take (Int.toNat 3) l3));let t2:=(decide ((List.length rest2:Int)=(0:Int)));k t t2) none)) l BA (List.length l2:Int) 0 l2) none)
noncomputable def Aqj:En:=⟨104,.spec (sg [EC] [] [EC,AK] [] Acv),pf Acp [Aqi] [.tmp 2,.tmp 3] Tryz.func104⟩
noncomputable def Acw:En:=.hand (Is mixed (X:=⟨look tab,gam [AbC,AbD],false,false,false,false,D9,none,100000,[]⟩) Bx [AbC,AbD] rfl (ps:=[Ax,EC]) (is:=EP) (rs:=[Ac]) (os:=EP) [.tmp 4] Tryz.func110 (by kernel_rfl)) rfl (by kernel_rfl)
abbrev Aqk:={β:Type}->AD->(Bool->Option β)->Option β
noncomputable def Acx:List En:=[AbL,AbK]
abbrev Acy(β:Type):=Bool->Option β
abbrev Acz(β:Type):=Unit->Option β
abbrev kI(β:Type):=AD->Int->Int->Option β
noncomputable def AcA:Pc:=⟨43,0,AI 58 (Az Tryz.f120),⟨0,[0,19,20],[B9,Ac,Ac],[]⟩,[(.ret,⟨0,[2],[AK],[]⟩),(.exit 0,⟨0,[],[],[]⟩)]⟩
def Xx{β:Type}(rec:kI β)(k1:Acy β)(k2:Acz β):kI β:=λs Vs t20=>cond (decide (t20<Vs)) (cond (decide (0<=t20)&&decide (t20<(List.length s:Int))) (let c:=((List.getD s (Int.toNat t20) 0).toNat:Int);Me c (λrsmall=>cond (!rsmall) (Nw c (λrdigit=>cond (!rdigit) (cond (!decide (c=95)) (cond (!decide (c=45)) (k1 false) (rec s Vs (IntKind.i64.wrap (t20+(1:Int))))) (rec s Vs (IntKind.i64.wrap (t20+(1:Int))))) (rec s Vs (IntKind.i64.wrap (t20+(1:Int)))))) (rec s Vs (IntKind.i64.wrap (t20+(1:Int)))))) none) (k2 ())
def SC(m:Nat){β:Type}(k1:Acy β)(k2:Acz β):kI β:=FX (λr=>Xx r k1 k2) none m
theorem AcB{β:Type}(i:Nat)(k1 k2):SC (β:=β) (i+1) k1 k2=Xx (SC i k1 k2) k1 k2:=rfl
def Xy{β:Type}:=hid (SC (β:=β) fuel)
noncomputable def Aql:Pb:=⟨58,AcA,λ_=>Xy,pl (p:=AcA) Acx [] (g:=λi _=>SC i)⟩
def Ki:Aqk:=hid λs k=>cond (decide (s=([]:List UInt8))) (k false) (cond (decide ((24:Int)<(List.length s:Int))) (k false) (cond (decide (0<=(0:Int))&&decide ((0:Int)<(List.length s:Int))) (Me ((List.getD s (Int.toNat 0) 0).toNat:Int) (λrsmall=>cond (!rsmall) (k false) (Xy (λt2=>k t2) (λ_=>k true) s (List.length s:Int) 0))) none))
noncomputable def kJ:En:=⟨120,.spec (sg [B9] [] [AK] [] Ki),pf Acx [Aql] [.tmp 2] Tryz.func120⟩
abbrev Aqm:={β:Type}->Int->(Bool->Option β)->Option β
def SD:Aqm:=hid λn k=>Lc n 0 604800 (λDj=>cond Dj (let t:=(decide ((Int.tmod n 3600)=0));k t) (k false))
noncomputable def Aqn:En:=⟨123,.spec (sg [Ac] [] [AK] [] SD),pf [iU] [] [.tmp 2] Tryz.func123⟩
abbrev Aqo:={β:Type}->AD->(Bool->Option β)->Option β
noncomputable def AcC:List En:=[Aow]
abbrev AcD(β:Type):=Bool->Option β
abbrev AcE(β:Type):=Unit->Option β
abbrev kK(β:Type):=AD->Int->Option β
noncomputable def AcF:Pc:=⟨57,0,AI 58 (Az Tryz.f133),⟨0,[0,3],[B9,Ac],[]⟩,[(.ret,⟨0,[2],[AK],[]⟩),(.exit 0,⟨0,[],[],[]⟩)]⟩
def Xz{β:Type}(rec:kK β)(k1:AcD β)(k2:AcE β):kK β:=λs i_=>cond (decide (i_<(List.length s:Int))) (cond (decide (0<=i_)&&decide (i_<(List.length s:Int))) (cond (decide (((List.getD s (Int.toNat i_) 0).toNat:Int)<(97:Int))) (cond (decide (0<=i_)&&decide (i_<(List.length s:Int))) (PA ((List.getD s (Int.toNat i_) 0).toNat:Int) (λrdigit=>cond (!rdigit) (cond (decide (0<=i_)&&decide (i_<(List.length s:Int))) (cond (!decide (((List.getD s (Int.toNat i_) 0).toNat:Int)=(95:Int))) (cond (decide (0<=i_)&&decide (i_<(List.length s:Int))) (cond (!decide (((List.getD s (Int.toNat i_) 0).toNat:Int)=(45:Int))) (k1 false) (let BB:=(IntKind.i64.wrap (i_+1));rec s BB)) none) (let BB:=(IntKind.i64.wrap (i_+1));rec s BB)) none) (let BB:=(IntKind.i64.wrap (i_+1));rec s BB))) none) (cond (decide (0<=i_)&&decide (i_<(List.length s:Int))) (cond (decide ((122:Int)<((List.getD s (Int.toNat i_) 0).toNat:Int))) (cond (decide (0<=i_)&&decide (i_<(List.length s:Int))) (PA ((List.getD s (Int.toNat i_) 0).toNat:Int) (λrdigit=>cond (!rdigit) (cond (decide (0<=i_)&&decide (i_<(List.length s:Int))) (cond (!decide (((List.getD s (Int.toNat i_) 0).toNat:Int)=(95:Int))) (cond (decide (0<=i_)&&decide (i_<(List.length s:Int))) (cond (!decide (((List.getD s (Int.toNat i_) 0).toNat:Int)=(45:Int))) (k1 false) (let BB:=(IntKind.i64.wrap (i_+1));rec s BB)) none) (let BB:=(IntKind.i64.wrap (i_+1));rec s BB)) none) (let BB:=(IntKind.i64.wrap (i_+1));rec s BB))) none) (let BB:=(IntKind.i64.wrap (i_+1));rec s BB)) none)) none) (k2 ())
def SE(m:Nat){β:Type}(k1:AcD β)(k2:AcE β):kK β:=WP (λr=>Xz r k1 k2) none m
theorem AcG{β:Type}(i:Nat)(k1 k2):SE (β:=β) (i+1) k1 k2=Xz (SE i k1 k2) k1 k2:=rfl
def kL{β:Type}:=hid (SE (β:=β) fuel)
noncomputable def Aqp:Pb:=⟨58,AcF,λ_=>kL,pl (p:=AcF) AcC [] (g:=λi _=>SE i)⟩
def X0:Aqo:=hid λs k=>cond (decide ((List.length s:Int)<(1:Int))) (k false) (cond (decide ((24:Int)<(List.length s:Int))) (k false) (cond (decide (0<=(0:Int))&&decide ((0:Int)<(List.length s:Int))) (cond (decide (((List.getD s (Int.toNat 0) 0).toNat:Int)<(97:Int))) (k false) (cond (decide (0<=(0:Int))&&decide ((0:Int)<(List.length s:Int))) (cond (decide ((122:Int)<((List.getD s (Int.toNat 0) 0).toNat:Int))) (k false) (kL (λt2=>k t2) (λ_=>k true) s 0)) none)) none))
noncomputable def Aqq:En:=⟨133,.spec (sg [B9] [] [AK] [] X0),pf AcC [Aqp] [.tmp 2] Tryz.func133⟩
abbrev Aqr:={β:Type}->AD->(Int->Bool->Option β)->Option β
def Aqs:Aqr:=hid λword k=>Xc ([106,97,110,32,102,101,98,32,109,97,114,32,97,112,114,32,109,97,121,32,106,117,110,32,106,117,108,32,97,117,103,32,115,101,112,32,111,99,116,32,110,111,118,32,100,101,99]:List UInt8) word (λFO Vp=>k FO Vp)
noncomputable def AcH:En:=⟨149,.spec (sg [B9] [] [Ac,AK] [] Aqs),pf [iW] [] [.tmp 2,.tmp 3] Tryz.func149⟩
abbrev Aqt:={β:Type}->AD->(Int->Bool->Option β)->Option β
def Aqu:Aqt:=hid λword k=>Xc ([102,105,114,115,116,32,115,101,99,111,110,100,32,116,104,105,114,100,32,102,111,117,114,116,104,32,108,97,115,116]:List UInt8) word (λFO Vp=>k FO Vp)
noncomputable def AcI:En:=⟨150,.spec (sg [B9] [] [Ac,AK] [] Aqu),pf [iW] [] [.tmp 2,.tmp 3] Tryz.func150⟩
abbrev Aqv:={β:Type}->AD->(Int->Bool->Option β)->Option β
def Aqw:Aqv:=hid λword k=>
 Xc ([109,111,110,32,116,117,101,32,119,101,100,32,116,104,117,32,102,114,105,32,115,97,116,32,115,117,110]:List UInt8) word (λFO Vp=>
 let t:=(if(IntKind.i64.wrap (FO-1))>0 then(IntKind.i64.wrap (FO-1))else 0);
 k t Vp)
noncomputable def kM:En:=⟨151,.spec (sg [B9] [] [Ac,AK] [] Aqw),pf [iW] [] [.tmp 2,.tmp 3] Tryz.func151⟩
noncomputable def X1:En:=au [kM] [EC] [] [(true,[.data (.prod (.int .i64) (.int .i64))]),Ac] [] [.cell 2 151,.tmp 3] Tryz.func156 (by kernel_rfl)
abbrev Aqx:={β:Type}->AD->(Int->Bool->Option β)->Option β
noncomputable def AcJ:List En:=[AbL,AoU]
abbrev kN(β:Type):=Int->Bool->Option β
abbrev kO(β:Type):=AD->Option β
abbrev kP(β:Type):=AD->Int->Int->Option β
noncomputable def AcK:Pc:=⟨31,0,AI 26 (Az Tryz.f194),⟨0,[0,8,9],[B9,Ac,Ac],[]⟩,[(.ret,⟨0,[2,3],[Ac,AK],[]⟩),(.exit 0,⟨0,[0],[B9],[]⟩)]⟩
def X2{β:Type}(rec:kP β)(k1:kN β)(k2:kO β):kP β:=λs t8 t9=>cond (decide (t9<t8)) (cond (decide (0<=t9)&&decide (t9<(List.length s:Int))) (Nw ((List.getD s (Int.toNat t9) 0).toNat:Int) (λrdigit=>cond (!rdigit) (k1 0 false) (rec s t8 (IntKind.i64.wrap (t9+(1:Int)))))) none) (k2 s)
def SF(m:Nat){β:Type}(k1:kN β)(k2:kO β):kP β:=FX (λr=>X2 r k1 k2) none m
theorem AcL{β:Type}(i:Nat)(k1 k2):SF (β:=β) (i+1) k1 k2=X2 (SF i k1 k2) k1 k2:=rfl
def kQ{β:Type}:=hid (SF (β:=β) fuel)
noncomputable def Aqy:Pb:=⟨26,AcK,λ_=>kQ,pl (p:=AcK) AcJ [] (g:=λi _=>SF i)⟩
def PH:Aqx:=hid λs k=>kQ (λt2 t3=>k t2 t3) (λs2=>iZ s2 (λAjR AB0=>cond AB0 (let t:=(decide ((List.length s2:Int)<=(9:Int)));k AjR t) (k AjR false))) s (List.length s:Int) 0
noncomputable def kR:En:=⟨194,.spec (sg [B9] [] [Ac,AK] [] PH),pf AcJ [Aqy] [.tmp 2,.tmp 3] Tryz.func194⟩
abbrev Aqz:={β:Type}->Int->(Int->Option β)->Option β
def Mg:Aqz:=hid λDH k=>let y:=(IntKind.i64.wrap (DH-1));Nx y 4 (λrfloor=>Nx y 100 (λrfloor2=>Nx y 400 (λrfloor3=>let t:=(IntKind.i64.wrap ((IntKind.i64.wrap ((IntKind.i64.wrap ((IntKind.i64.wrap ((IntKind.i64.wrap (365*(IntKind.i64.wrap (DH-1970))))+rfloor))-rfloor2))+rfloor3))-477));k t)))
noncomputable def kS:En:=⟨205,.spec (sg [Ac] [] [Ac] [] Mg),pf [AbT] [] [.tmp 2] Tryz.func205⟩
abbrev AqA:={β:Type}->Int->(Int->Option β)->Option β
noncomputable def AcM:List En:=[kS,AbT]
abbrev kT(β:Type):=Int->Option β
abbrev kU(β:Type):=Int->Int->Option β
noncomputable def AcN:Pc:=⟨15,0,AI 28 (Az Tryz.f206),⟨0,[0,3],[Ac,Ac],[]⟩,[(.exit 0,⟨0,[3],[Ac],[]⟩)]⟩
def SG{β:Type}(rec:kU β)(k1:kT β):kU β:=λday y=>Mg (IntKind.i64.wrap (y+1)) (λrcount=>cond (decide (rcount<=day)) (let y2:=(IntKind.i64.wrap (y+1));rec day y2) (k1 y))
def SH(m:Nat){β:Type}(k1:kT β):kU β:=WP (λr=>SG r k1) none m
theorem kV{β:Type}(i:Nat)(k1):SH (β:=β) (i+1) k1=SG (SH i k1) k1:=rfl
def kW{β:Type}:=hid (SH (β:=β) fuel)
noncomputable def AqB:Pb:=⟨28,AcN,λ_=>kW,pl (p:=AcN) AcM [] (g:=λi _=>SH i)⟩
def X3:AqA:=hid λday k=>Nx day 366 (λrfloor=>let y:=(IntKind.i64.wrap (1970+rfloor));kW (λy2=>k y2) day y)
noncomputable def AqC:En:=⟨206,.spec (sg [Ac] [] [Ac] [] X3),pf AcM [AqB] [.tmp 2] Tryz.func206⟩
abbrev AcO:={β:Type}->Int->Int->(Int->Option β)->Option β
def E2:AcO:=λDH BQ k=>cond (decide (BQ<1)) (k 0) (cond (decide ((12:Int)<BQ)) (k 0) (cond (decide (BQ=2)) (Xe DH (λvI=>cond vI (k 29) (cond (decide ((IntKind.i64.wrap (BQ-1))=0)) (k 31) (cond (decide ((IntKind.i64.wrap (BQ-1))=1)) (k 28) (cond (decide ((IntKind.i64.wrap (BQ-1))=2)) (k 31) (cond (decide ((IntKind.i64.wrap (BQ-1))=3)) (k 30) (cond (decide ((IntKind.i64.wrap (BQ-1))=4)) (k 31) (cond (decide ((IntKind.i64.wrap (BQ-1))=5)) (k 30) (cond (decide ((IntKind.i64.wrap (BQ-1))=6)) (k 31) (cond (decide ((IntKind.i64.wrap (BQ-1))=7)) (k 31) (cond (decide ((IntKind.i64.wrap (BQ-1))=8)) (k 30) (cond (decide ((IntKind.i64.wrap (BQ-1))=9)) (k 31) (cond (decide ((IntKind.i64.wrap (BQ-1))=10)) (k 30) (cond (decide ((IntKind.i64.wrap (BQ-1))=11)) (k 31) (none))))))))))))))) (cond (decide ((IntKind.i64.wrap (BQ-1))=0)) (k 31) (cond (decide ((IntKind.i64.wrap (BQ-1))=1)) (k 28) (cond (decide ((IntKind.i64.wrap (BQ-1))=2)) (k 31) (cond (decide ((IntKind.i64.wrap (BQ-1))=3)) (k 30) (cond (decide ((IntKind.i64.wrap (BQ-1))=4)) (k 31) (cond (decide ((IntKind.i64.wrap (BQ-1))=5)) (k 30) (cond (decide ((IntKind.i64.wrap (BQ-1))=6)) (k 31) (cond (decide ((IntKind.i64.wrap (BQ-1))=7)) (k 31) (cond (decide ((IntKind.i64.wrap (BQ-1))=8)) (k 30) (cond (decide ((IntKind.i64.wrap (BQ-1))=9)) (k 31) (cond (decide ((IntKind.i64.wrap (BQ-1))=10)) (k 30) (cond (decide ((IntKind.i64.wrap (BQ-1))=11)) (k 31) (none)))))))))))))))
def D3:AcO:=hid E2
noncomputable def X4:En:=⟨207,.spec (sg [Ac,Ac] [] [Ac] [] D3),pf [AoZ] [] [.tmp 4] Tryz.func207⟩
abbrev AqD:={β:Type}->Int->Int->(AD->Option β)->Option β
def Ld:AqD:=hid λx n k=>
 Ss x (λOy=>
 jA ([48]:List UInt8) (if(IntKind.i64.wrap (n-(List.length Oy:Int)))>0 then(IntKind.i64.wrap (n-(List.length Oy:Int)))else 0) (λAjW=>
 cond (decide (List.length AjW+List.length Oy<=9223372036854775807))
 (k (AjW++Oy))
 none))
noncomputable def AcP:En:=⟨210,.spec (sg [Ac,Ac] [] [B9] [] Ld),pf [AbO,Ap6] [] [.tmp 4] Tryz.func210⟩
abbrev AqE:={β:Type}->AD->(Int->Bool->Option β)->Option β
def PI:AqE:=hid λs k=>PH s (λEW O1=>cond O1 (let t:=(decide ((List.length s:Int)=(2:Int)));k EW t) (k EW false))
noncomputable def AcQ:En:=⟨219,.spec (sg [B9] [] [Ac,AK] [] PI),pf [kR] [] [.tmp 2,.tmp 3] Tryz.func219⟩
abbrev AqF:={β:Type}->Int->Int->(Int->Option β)->Option β
noncomputable def kX:List En:=[Apa]
abbrev AqG(β:Type):=Int->Option β
abbrev AqH(β:Type):=Unit->Option β
abbrev AqI(β:Type):=Int->Int->Bool->Option β
noncomputable def AcR:Pc:=⟨23,0,AI 215 (Az Tryz.f236),⟨0,[0,5,14],[Ac,Ac,AK],[]⟩,[(.ret,⟨0,[4],[Ac],[]⟩),(.normal,⟨0,[],[],[]⟩)]⟩
abbrev AqJ(β:Type):=Int->Option β
abbrev AqK(β:Type):=Unit->Option β
abbrev AqL(β:Type):=Int->Int->Bool->Option β
noncomputable def AcS:Pc:=⟨23,0,AI 53 (Az Tryz.f236),⟨0,[0,5,6],[Ac,Ac,AK],[]⟩,[(.ret,⟨0,[4],[Ac],[]⟩),(.normal,⟨0,[],[],[]⟩)]⟩
def AcT{β:Type}(k1:AqG β)(k2:AqH β):AqI β:=λDH t5 Cm=>cond Cm (k1 30) (let t:=(decide (t5=(2:Int)));cond t (Su DH (λvI=>cond vI (k1 29) (k1 28))) (k2 ()))
def SI{β:Type}:=hid (AcT (β:=β))
noncomputable def AqM:Pb:=⟨215,AcR,λ_=>SI,pe (p:=AcR) kX [] 215 (g:=λ_=>AcT)⟩
def AcU{β:Type}(k1:AqJ β)(k2:AqK β):AqL β:=λDH t5 t6=>cond t6 (k1 31) (let t:=(decide (t5=(4:Int)));cond t (SI (λt4=>k1 t4) (λ_=>k2 ()) DH t5 t) (let t2:=(decide (t5=(6:Int)));cond t2 (SI (λt4=>k1 t4) (λ_=>k2 ()) DH t5 t2) (let t3:=(decide (t5=(9:Int)));cond t3 (SI (λt4=>k1 t4) (λ_=>k2 ()) DH t5 t3) (let t4:=(decide (t5=(11:Int)));SI (λLA=>k1 LA) (λ_=>k2 ()) DH t5 t4))))
def Mh{β:Type}:=hid (AcU (β:=β))
noncomputable def AqN:Pb:=⟨53,AcS,λ_=>Mh,pe (p:=AcS) kX [AqM] 53 (g:=λ_=>AcU)⟩
def GB:AqF:=hid λDH BQ k=>let t:=(decide (BQ=1));cond t (Mh (λt4=>k t4) (λ_=>k 0) DH BQ t) (let t2:=(decide (BQ=3));cond t2 (Mh (λt4=>k t4) (λ_=>k 0) DH BQ t2) (let t3:=(decide (BQ=5));cond t3 (Mh (λt4=>k t4) (λ_=>k 0) DH BQ t3) (let t4:=(decide (BQ=7));cond t4 (Mh (λLA=>k LA) (λ_=>k 0) DH BQ t4) (let t5:=(decide (BQ=8));cond t5 (Mh (λLA=>k LA) (λ_=>k 0) DH BQ t5) (let t6:=(decide (BQ=10));cond t6 (Mh (λLA=>k LA) (λ_=>k 0) DH BQ t6) (let t7:=(decide (BQ=12));Mh (λLA=>k LA) (λ_=>k 0) DH BQ t7))))))
noncomputable def kY:En:=⟨236,.spec (sg [Ac,Ac] [] [Ac] [] GB),pf kX [AqN] [.tmp 4] Tryz.func236⟩
abbrev AqO:={β:Type}->HN->(Bool->Option β)->Option β
def N0:AqO:=hid λd k=>cond (decide ((1970:Int)<=d.1)) (cond (decide (d.1<=(2240:Int))) (cond (decide ((1:Int)<=d.2.2)) (D3 d.1 d.2.1 (λIC=>k (decide (d.2.2<=IC)))) (k false)) (k false)) (k false)
noncomputable def AcV:En:=⟨241,.spec (sg [Py] [] [AK] [] N0),pf [X4] [] [.tmp 2] Tryz.func241⟩
abbrev AqP:={β:Type}->HN->(Int->Option β)->Option β
noncomputable def AcW:List En:=[X4,kS]
abbrev kZ(β:Type):=Int->Option β
abbrev lB(β:Type):=Int->Int->HN->Option β
noncomputable def AcX:Pc:=⟨25,0,AI 58 (Az Tryz.f242),⟨0,[1,3,4],[Ax,Ac,Ac],[Nm]⟩,[(.exit 0,⟨0,[3],[Ac],[]⟩)]⟩
def X5{β:Type}(rec:lB β)(k1:kZ β):lB β:=λn m d=>cond (decide (m<d.2.1)) (D3 d.1 m (λIC=>let n2:=(IntKind.i64.wrap (n+IC));let m2:=(IntKind.i64.wrap (m+1));rec n2 m2 d)) (k1 n)
def SJ(m:Nat){β:Type}(k1:kZ β):lB β:=FX (λr=>X5 r k1) none m
theorem AcY{β:Type}(i:Nat)(k1):SJ (β:=β) (i+1) k1=X5 (SJ i k1) k1:=rfl
def X6{β:Type}:=hid (SJ (β:=β) fuel)
noncomputable def AqQ:Pb:=⟨58,AcX,λ_=>X6,pl (p:=AcX) AcW [] (g:=λi _=>SJ i)⟩
def N1:AqP:=hid λd k=>Mg d.1 (λrcount=>let n:=(IntKind.i64.wrap ((IntKind.i64.wrap (rcount+d.2.2))-1));X6 (λn2=>k n2) n 1 d)
noncomputable def AcZ:En:=⟨242,.spec (sg [Py] [] [Ac] [] N1),pf AcW [AqQ] [.tmp 2] Tryz.func242⟩
abbrev AqR:={β:Type}->HN->(Bool->Option β)->Option β
def lC:AqR:=hid λd k=>cond (decide ((1970:Int)<=d.1)) (cond (decide (d.1<=(2240:Int))) (cond (decide ((1:Int)<=d.2.1)) (cond (decide (d.2.1<=(12:Int))) (cond (decide ((1:Int)<=d.2.2)) (GB d.1 d.2.1 (λIC=>k (decide (d.2.2<=IC)))) (k false)) (k false)) (k false)) (k false)) (k false)
noncomputable def AqS:En:=⟨247,.spec (sg [Py] [] [AK] [] lC),pf [kY] [] [.tmp 2] Tryz.func247⟩
noncomputable def AqT:En:=au [ApE] [Np,Np,(false,[.fn 36 []])] [] [AK] [] [.tmp 6] Tryz.func35 (by kernel_rfl)
noncomputable def AqU:En:=au [AnG] [RR,RR,(false,[.fn 85 []])] [] [AK] [] [.tmp 6] Tryz.func84 (by kernel_rfl)
abbrev AqV:={β:Type}->(List IW)->AD->(Int->AD->Option β)->Option β
noncomputable def Ad0:List En:=[Aoe]
abbrev Ad1(β:Type):=Int->AD->Option β
abbrev Ad2(β:Type):=AD->Option β
abbrev lD(β:Type):=(List IW)->Int->Int->AD->Option β
noncomputable def Ad3:Pc:=⟨19,1,AI 26 (Az Tryz.f146),⟨1,[0,1,7,8],[(false,[.data (.slice KV)]),(false,[.fn 147 [0]]),Ac,Ac],[Kg]⟩,[(.ret,⟨1,[4],[Ac],[Kg]⟩),(.exit 0,⟨1,[],[],[Kg]⟩)]⟩
def Ad4{β:Type}(rec:lD β)(k1:Ad1 β)(k2:Ad2 β):lD β:=λs t7 t8 AJ=>cond (decide (t8<t7)) (cond (decide (0<=t8)&&decide (t8<(List.length s:Int))) (let e:=List.getD s (Int.toNat t8) (([]:List UInt8),(([]:List Int),false));Abu e AJ (λrforms1 Aj9=>cond rforms1 (k1 t8 Aj9) (rec s t7 (IntKind.i64.wrap (t8+(1:Int))) Aj9))) none) (k2 AJ)
def X7(m:Nat){β:Type}(k1:Ad1 β)(k2:Ad2 β):lD β:=Gm (λr=>Ad4 r k1 k2) none m
theorem ABM{β:Type}(i:Nat)(k1 k2):X7 (β:=β) (i+1) k1 k2=Ad4 (X7 i k1 k2) k1 k2:=rfl
def Ad5{β:Type}:=hid (X7 (β:=β) fuel)
noncomputable def AqW:Pb:=⟨26,Ad3,λ_=>Ad5,pl (p:=Ad3) Ad0 [] (g:=λi _=>X7 i)⟩
def Ad6:AqV:=hid λs AJ k=>Ad5 (λt4 B6=>k t4 B6) (λB6=>k (-1) B6) s (List.length s:Int) 0 AJ
noncomputable def AqX:En:=⟨146,.spec (sg [(false,[.data (.slice KV)]),(false,[.fn 147 [0]])] [Kg] [Ac] [Kg] Ad6),pf Ad0 [AqW] [.tmp 4] Tryz.func146⟩
abbrev AqY:={β:Type}->AZ->AW->AY->BY->(CN->BY->Option β)->Option β
noncomputable def Ad7:List En:=[WS,Apv,KZ,P2]
abbrev Ad8(β:Type):=BY->CN->Option β
abbrev AqZ(β:Type):=BY->CN->CN->Option β
noncomputable def Ad9:Pc:=⟨52,1,AI 63 (Az Tryz.f8),⟨1,[0,4,6],[Ax,BZ,Da],[Do,HO,HO]⟩,[(.ret,⟨1,[4],[BZ],[Do,HO]⟩)]⟩
def X8{β:Type}(k1:Ad8 β):AqZ β:=λd t4 x=>cond (decide (x.1=(1:Int))) (La 4 d (λKA IB=>cond KA (k1 IB (x.1,((-1),x.2.2))) (k1 IB x))) (k1 d x)
def PJ{β:Type}:=hid (X8 (β:=β))
noncomputable def Ar0:Pb:=⟨63,Ad9,λ_=>PJ,pe (p:=Ad9) Ad7 [] 63 (g:=λ_=>X8)⟩
def SK:AqY:=hid λc c2 c3 d k=>Cp 3 d (λCd Di=>Cp (List.length c2:Int) Di (λDG GT=>Xo GT (λQN AAr=>let l:=([3600,86400,7,259200,40000]:List Int);Iv l AAr (λEV Ii=>cond (decide (Cd=2)) (cond (decide ((List.length c2:Int)<(2:Int))) (k (0,(DG,(0,(QN,(IntKind.i64.wrap (QN+EV)))))) Ii) (Cp (IntKind.i64.wrap ((List.length c2:Int)-(1:Int))) Ii (λL7 Ov=>cond (!decide ((List.length c2:Int)=0)) (PJ (λAJ t4=>k t4 AJ) Ov (0,(0,(0,(0,0)))) (Cd,(DG,((Int.tmod (IntKind.i64.wrap ((IntKind.i64.wrap (DG+(1:Int)))+L7)) (List.length c2:Int)),(QN,(IntKind.i64.wrap (QN+EV))))))) none))) (PJ (λAJ t4=>k t4 AJ) Ii (0,(0,(0,(0,0)))) (Cd,(DG,(0,(QN,(IntKind.i64.wrap (QN+EV)))))))))))
noncomputable def Ada:En:=⟨8,.spec (sg [Ax,AaC] [Do] [RQ] [Do] SK),pf Ad7 [Ar0] [.cell 4 35] Tryz.func8⟩
abbrev Ar1:={β:Type}->AG->AZ->AW->AY->Bd->BV->(AZ->AW->AY->Bd->BV->Option β)->Option β
noncomputable def X9:List En:=[iD,iC,Ans,Ab3,Iw,Mf]
abbrev Adb(β:Type):=AZ->AW->AY->Bd->BV->Option β
abbrev lE(β:Type):=H3->Int->Int->AZ->AW->AY->Bd->BV->Eg->Eg->Option β
noncomputable def Adc:Pc:=⟨59,2,AI 126 (Az Tryz.f28),⟨2,[0,4,5,20,21,22],[Ax,(false,[.rowh 2]),(false,[.rowh 3]),He,Ac,Ac],[Px,.tree 109 Kf,.row 9 .str,.row 9 .str]⟩,[(.exit 0,⟨2,[],[],DO⟩)]⟩
def XA{β:Type}(rec:lE β)(k1:Adb β):lE β:=λt20 t21 t22 w w2 w3 w4 BL months ordinals=>cond (decide (t22<t21)) (cond (decide (0<=t22)&&decide (t22<(List.length t20:Int))) (let e:=List.getD t20 (Int.toNat t22) (0,(0,(0,(0,(0,(0,0))))));Lb e.1 (λEW=>Lb e.2.1 (λO1=>cond (decide (0<=(IntKind.i64.wrap (e.2.2.1-(1:Int))))&&decide ((IntKind.i64.wrap (e.2.2.1-(1:Int)))<(List.length months:Int))) (Fk (List.getD months (Int.toNat (IntKind.i64.wrap (e.2.2.1-(1:Int)))) ([]:List UInt8)) (λD0=>cond (decide (0<=(IntKind.i64.wrap (e.2.2.2.1-(1:Int))))&&decide ((IntKind.i64.wrap (e.2.2.2.1-(1:Int)))<(List.length ordinals:Int))) (Fk (List.getD ordinals (Int.toNat (IntKind.i64.wrap (e.2.2.2.1-(1:Int)))) ([]:List UInt8)) (λO2=>P3 e.2.2.2.2.1 (λrweekday=>Md e.2.2.2.2.2.1 (λGU=>Sg e.2.2.2.2.2.2 (λroffset=>let l:=([EW,O1,D0,O2,rweekday,GU,roffset]:List BF);DA ([114,117,108,101]:List UInt8) l w w2 w3 w4 BL (λF8 F9 FA FB F7=>rec t20 t21 (IntKind.i64.wrap (t22+(1:Int))) F8 F9 FA FB F7 months ordinals)))))) none)) none))) none) (k1 w w2 w3 w4 BL)
def SM(m:Nat){β:Type}(k1:Adb β):lE β:=P1 (λr=>XA r k1) none m
theorem Add{β:Type}(i:Nat)(k1):SM (β:=β) (i+1) k1=XA (SM i k1) k1:=rfl
def lF{β:Type}:=hid (SM (β:=β) fuel)
noncomputable def Ar2:Pb:=⟨126,Adc,λ_=>lF,Kb mixed (X:=⟨look tab,gam X9,false,false,false,false,Fj,none,0,[]⟩) (p:=Adc) Bx X9 rfl [] (g:=λi _=>SM i) (by kernel_rfl) rfl (by kernel_rfl) (λ_ _=>rfl) λ_ _ _ _=>by kernel_rfl⟩
def XB:Ar1:=hid λz w w2 w3 w4 BL k=>let l:=([([106,97,110]:List UInt8),([102,101,98]:List UInt8),([109,97,114]:List UInt8),([97,112,114]:List UInt8),([109,97,121]:List UInt8),([106,117,110]:List UInt8),([106,117,108]:List UInt8),([97,117,103]:List UInt8),([115,101,112]:List UInt8),([111,99,116]:List UInt8),([110,111,118]:List UInt8),([100,101,99]:List UInt8)]:List AD);let l2:=([([102,105,114,115,116]:List UInt8),([115,101,99,111,110,100]:List UInt8),([116,104,105,114,100]:List UInt8),([102,111,117,114,116,104]:List UInt8),([108,97,115,116]:List UInt8)]:List AD);Fk z.1 (λD0=>Sg z.2.1 (λroffset=>let l3:=([D0,roffset]:List BF);DA ([122,111,110,101]:List UInt8) l3 w w2 w3 w4 BL (λF8 F9 FA FB F7=>lF (λAJ B6 Cu Cv Cb=>k AJ B6 Cu Cv Cb) z.2.2 (List.length z.2.2:Int) 0 F8 F9 FA FB F7 l l2)))
theorem Ar3:SpecOkB Tryz.prog 28 (sg [Ax,HP] DO [] DO XB):=Ka mixed (X:=⟨look tab,gam X9,false,false,false,false,Fj,none,0,[]⟩) Bx X9 rfl [Ar2] [] Tryz.func28 (by kernel_rfl) λ_ _=>by kernel_rfl
noncomputable def Ar4:En:=.handf Ar3 rfl (by kernel_rfl)
abbrev Ar5:={β:Type}->AX->AZ->AW->AY->Bd->BV->(AZ->AW->AY->Bd->BV->Option β)->Option β
noncomputable def PK:List En:=[iC,Iw,Mf,Acd,WV]
abbrev Ar6(β:Type):=AZ->AW->AY->Bd->BV->Option β
abbrev Ar7(β:Type):=AZ->AW->AY->Bd->BV->AX->EO->Option β
noncomputable def Ade:Pc:=⟨48,2,AI 31 (Az Tryz.f29),⟨2,[0,3,4],[Ax,Da,(false,[.rowh 3])],[Px,.tree 109 Kf,.cells 82 [.data Fa],.row 89 Fz]⟩,[(.normal,⟨2,[],[],DO⟩)]⟩
abbrev Ar8(β:Type):=AZ->AW->AY->Bd->BV->Option β
abbrev Ar9(β:Type):=AZ->AW->AY->Bd->BV->AX->EO->Option β
noncomputable def Adf:Pc:=⟨48,2,AI 15 (Az Tryz.f29),⟨2,[0,3,4],[Ax,Da,(false,[.rowh 3])],[Px,.tree 109 Kf,.cells 82 [.data Fa],.row 89 Fz]⟩,[(.normal,⟨2,[],[],DO⟩)]⟩
def lG{β:Type}(k1:Ar6 β):Ar7 β:=λw w2 w3 w4 BL p_ l=>cond p_.2.2.2.2.2 (Fk ([99,111,110,115,101,110,116]:List UInt8) (λD0=>let l2:=([D0]:List BF);cond (decide ((List.length l+List.length l2)*32<=Bt)) (let l3:=(l++l2);DA ([112,101,114,115,111,110]:List UInt8) l3 w w2 w3 w4 BL (λF8 F9 FA FB F7=>Ny ([113,117,105,101,116]:List UInt8) p_.2.2.1 F8 F9 FA FB F7 (λQG QH MC QI QE=>k1 QG QH MC QI QE))) none)) (DA ([112,101,114,115,111,110]:List UInt8) l w w2 w3 w4 BL (λF8 F9 FA FB F7=>Ny ([113,117,105,101,116]:List UInt8) p_.2.2.1 F8 F9 FA FB F7 (λQG QH MC QI QE=>k1 QG QH MC QI QE)))
def SN{β:Type}:=hid (lG (β:=β))
noncomputable def Ara:Pb:=⟨31,Ade,λ_=>SN,RH mixed (X:=⟨look tab,gam PK,false,false,false,false,Fj,none,0,[]⟩) (p:=Ade) Bx PK rfl [] 31 (g:=λ_=>lG) (by kernel_rfl) λ_ _=>by kernel_rfl⟩
def lH{β:Type}(k1:Ar8 β):Ar9 β:=λw w2 w3 w4 BL p_ l=>cond (!decide (p_.2.2.2.2.1=(0:Int))) (Fk ([114,101,115,116]:List UInt8) (λD0=>Lb (IntKind.i64.wrap (Int.tdiv p_.2.2.2.2.1 3600)) (λEW=>let l2:=([D0,EW]:List BF);cond (decide ((List.length l+List.length l2)*32<=Bt)) (let l3:=(l++l2);SN (λAJ B6 Cu Cv Cb=>k1 AJ B6 Cu Cv Cb) w w2 w3 w4 BL p_ l3) none))) (SN (λAJ B6 Cu Cv Cb=>k1 AJ B6 Cu Cv Cb) w w2 w3 w4 BL p_ l)
def SO{β:Type}:=hid (lH (β:=β))
noncomputable def Arb:Pb:=⟨15,Adf,λ_=>SO,RH mixed (X:=⟨look tab,gam PK,false,false,false,false,Fj,none,0,[]⟩) (p:=Adf) Bx PK rfl [Ara] 15 (g:=λ_=>lH) (by kernel_rfl) λ_ _=>by kernel_rfl⟩
def XC:Ar5:=hid λp_ w w2 w3 w4 BL k=>Fk p_.1 (λD0=>Nu p_.2.1 w w2 w3 w4 BL (λrzone QJ QK QL QM QF=>let l:=([D0,rzone]:List BF);cond (!decide (p_.2.2.2.1=(0:Int))) (Fk ([119,101,101,107]:List UInt8) (λO2=>Lb (IntKind.i64.wrap (Int.tdiv p_.2.2.2.1 3600)) (λEW=>let l2:=([O2,EW]:List BF);cond (decide ((List.length l+List.length l2)*32<=Bt)) (let l3:=(l++l2);SO (λAJ B6 Cu Cv Cb=>k AJ B6 Cu Cv Cb) QJ QK QL QM QF p_ l3) none))) (SO (λAJ B6 Cu Cv Cb=>k AJ B6 Cu Cv Cb) QJ QK QL QM QF p_ l)))
theorem Arc:SpecOkB Tryz.prog 29 (sg [Ax,Pz] DO [] DO XC):=Ka mixed (X:=⟨look tab,gam PK,false,false,false,false,Fj,none,0,[]⟩) Bx PK rfl [Arb] [] Tryz.func29 (by kernel_rfl) λ_ _=>by kernel_rfl
noncomputable def Ard:En:=.handf Arc rfl (by kernel_rfl)
end
end Go.Lift
