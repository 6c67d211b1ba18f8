/- Part13: Fn0. -/
import Derived.Test.YtadbbhhfdjjkhaaGreatDoorProg
import Derived.Test.YtadbbhhfdjjkhaaGreatDoorPart12
import Derived.Test.YtadbbhhfdjjkhaaGreatDoorPart7
set_option linter.unusedVariables false
set_option linter.unusedSectionVars false
set_option linter.unusedSimpArgs false
namespace Go.Lift
open Go.Proofs
noncomputable section
variable[Sl]
set_option maxRecDepth 100000
abbrev Bh:=(List UInt8×(Int×List Int))
abbrev FV:Ty:=(.prod .str (.prod (.int .i64) (.slice (.int .i64))))
abbrev AU:=(List UInt8×(Int×((Int×Int)×(Int×(Int×(List Int×(List (Int×Int)×(Int×Int))))))))
abbrev O2:Ty:=(.prod .str (.prod (.int .i64) (.prod (.prod (.int .i64) (.int .i64)) (.prod (.int .i64) (.prod (.int .i64) (.prod (.slice (.int .i64)) (.prod (.slice (.prod (.int .i64) (.int .i64))) (.prod (.int .i64) (.int .i64)))))))))
abbrev By:=(List UInt8×(List AU×List (Int×(Int×(Int×(Int×Int))))))
abbrev G5:Ty:=(.prod .str (.prod (.slice O2) (.slice (.prod (.int .i64) (.prod (.int .i64) (.prod (.int .i64) (.prod (.int .i64) (.int .i64))))))))
abbrev BV:=(Int×(List UInt8×Int))
abbrev FH:Ty:=(.prod (.int .i64) (.prod .str (.int .i64)))
abbrev BZ:=(Int×(Int×(Int×(Int×(Int×(Int×Int))))))
abbrev Ke:Ty:=(.prod (.int .i64) (.prod (.int .i64) (.prod (.int .i64) (.prod (.int .i64) (.prod (.int .i64) (.prod (.int .i64) (.int .i64)))))))
abbrev AK:=(List UInt8×(Int×List BZ))
abbrev FW:Ty:=(.prod .str (.prod (.int .i64) (.slice Ke)))
abbrev J9:=(List UInt8×(List Int×Bool))
abbrev LQ:Ty:=(.prod .str (.prod (.slice (.int .i64)) .bool))
abbrev Bb:=(List UInt8×(Int×(List (Int×Int)×(Int×(Int×Bool)))))
abbrev F6:Ty:=(.prod .str (.prod (.int .i64) (.prod (.slice (.prod (.int .i64) (.int .i64))) (.prod (.int .i64) (.prod (.int .i64) .bool)))))
abbrev As:=(List AK×(List Bb×(List Bh×List By)))
abbrev Ts:Ty:=(.prod (.slice FW) (.prod (.slice F6) (.prod (.slice FV) (.slice G5))))
abbrev ArI:=(As×List (Int×List BV))
abbrev ArJ:Ty:=(.prod Ts (.slice (.prod (.int .i64) (.slice FH))))
abbrev Aem:BV:=((0:Int),(([]:List UInt8),(0:Int)))
abbrev ArK:J9:=(([]:List UInt8),(([]:List Int),false))
abbrev LR:Bh:=(([]:List UInt8),((0:Int),([]:List Int)))
abbrev KT:AK:=(([]:List UInt8),((0:Int),([]:List BZ)))
abbrev AJF:BZ:=((0:Int),((0:Int),((0:Int),((0:Int),((0:Int),((0:Int),(0:Int)))))))
abbrev QH:Bb:=(([]:List UInt8),((0:Int),(([]:List (Int×Int)),((0:Int),((0:Int),false)))))
abbrev JA:By:=(([]:List UInt8),(([]:List AU),([]:List (Int×(Int×(Int×(Int×Int)))))))
abbrev Nf:As:=(([]:List AK),(([]:List Bb),(([]:List Bh),([]:List By))))
abbrev AJG:ArI:=((([]:List AK),(([]:List Bb),(([]:List Bh),([]:List By)))),([]:List (Int×List BV)))
abbrev G6:AU:=(([]:List UInt8),((0:Int),(((0:Int),(0:Int)),((0:Int),((0:Int),(([]:List Int),(([]:List (Int×Int)),((0:Int),(0:Int)))))))))
abbrev AE:=List Bh
abbrev AI:=List By
abbrev AD:=List Bb
abbrev AF:=List AK
abbrev AJ:=List UInt8
abbrev BJ:=Int×Int
abbrev Ce:=List Int×Int
abbrev CN:=List BV
abbrev BP:=List BJ
abbrev G7:=List BZ
abbrev It:=List UInt8×Bool
abbrev De:=List Int
abbrev KU:=Int×List BV
abbrev Ca:=List KU
abbrev E6:=List AJ
abbrev Kf:=List AU
abbrev Iu:=Int×BJ
abbrev BA:=Int×(Int×Iu)
abbrev Iv:OT:=.p (.d .str) (.p (.d (.int .i64)) (.p (.r 157 (.d (.prod (.int .i64) (.int .i64)))) (.d (.prod (.int .i64) (.prod (.int .i64) .bool)))))
abbrev Aen:OT:=.p (.d .str) (.p (.d (.int .i64)) (.p (.d (.prod (.int .i64) (.int .i64))) (.p (.d (.int .i64)) (.p (.d (.int .i64)) (.p (.r 3 (.d (.int .i64))) (.p (.r 157 (.d (.prod (.int .i64) (.int .i64)))) (.d (.prod (.int .i64) (.int .i64)))))))))
abbrev Iw:OT:=.p (.d .str) (.p (.r 63 Aen) (.r 51 (.d (.prod (.int .i64) (.prod (.int .i64) (.prod (.int .i64) (.prod (.int .i64) (.int .i64))))))))
abbrev Ix:OT:=.p (.d .str) (.p (.d (.int .i64)) (.r 142 (.d Ke)))
abbrev Iy:OT:=.p (.d .str) (.p (.d (.int .i64)) (.r 3 (.d (.int .i64))))
abbrev KV:OT:=.p (.d (.int .i64)) (.r 85 (.d FH))
abbrev Ab:Bool×List CT:=(false,[.data (.int .i64)])
abbrev QI:BT:=.cells 72 [.data (.slice FW),.data (.slice F6),.data (.slice FV),.data (.slice G5),.trowh 1]
abbrev Dm:BT:=.cells 47 [.data (.prod (.slice (.int .i64)) (.int .i64))]
abbrev AA:Bool×List CT:=(false,[.ptr 0 0])
abbrev AS:Bool×List CT:=(false,[.data .bool])
abbrev HZ:BT:=.cells 51 [.data (.prod (.int .i64) (.prod (.int .i64) (.prod (.int .i64) (.prod (.int .i64) (.int .i64)))))]
abbrev YS:BT:=.cells 91 [.trowh 1,.trowh 2,.trowh 3,.trowh 4]
abbrev Cj:BT:=.cells 32 [.data Ts]
abbrev DS:Bool×List CT:=(false,[.data (.slice FH)])
abbrev BR:Bool×List CT:=(false,[.data .str])
abbrev o8:BT:=.cells 72 [.data (.slice FW),.data (.slice F6),.data (.slice FV),.data (.slice G5),.trowh 2]
abbrev Ck:Bool×List CT:=(false,[.ptr 1 0])
abbrev Ia:Bool×List CT:=(false,[.data (.slice (.prod (.int .i64) (.int .i64)))])
abbrev ArL:BT:=.cells 63 [.data .str,.data (.int .i64),.data (.int .i64),.data (.int .i64),.data (.int .i64),.data (.int .i64),.rowh 6,.rowh 7,.data (.int .i64),.data (.int .i64)]
abbrev ArM:BT:=.cells 63 [.data .str,.data (.int .i64),.data (.int .i64),.data (.int .i64),.data (.int .i64),.data (.int .i64),.rowh 4,.rowh 5,.data (.int .i64),.data (.int .i64)]
abbrev O3:Bool×List CT:=(false,[.data (.slice (.prod (.int .i64) (.prod (.int .i64) (.prod (.int .i64) (.prod (.int .i64) (.int .i64))))))])
abbrev ED:Bool×List CT:=(true,[.data Ts])
abbrev GP:Bool×List CT:=(false,[.data (.slice Ke)])
abbrev CH:Bool×List CT:=(false,[.rowh 0])
abbrev Dn:Bool×List CT:=(false,[.ptr 2 0])
abbrev Hl:Bool×List CT:=(false,[.data (.slice (.int .i64))])
abbrev Tt:Bool×List CT:=(true,[.data (.prod (.int .i64) (.prod (.int .i64) (.prod (.int .i64) (.prod (.int .i64) (.int .i64)))))])
abbrev ArN:BT:=.cells 32 [.data (.slice FW),.data (.slice F6),.data (.slice FV),.junk]
abbrev O4:BT:=.cells 230 [.data (.prod (.int .i64) (.prod (.int .i64) (.int .i64)))]
abbrev O5:Bool×List CT:=(false,[.data (.slice (.prod (.int .i64) (.slice FH)))])
abbrev Kg:Bool×List CT:=(false,[.data (.slice G5)])
abbrev KW:BT:=.cells 9 [.data .str]
abbrev Aeo:BT:=.cells 32 [.rowh 3,.rowh 4,.rowh 5,.rowh 6]
abbrev QJ:Bool×List CT:=(true,[.data (.prod (.int .i64) (.prod (.int .i64) (.int .i64)))])
abbrev ArO:BT:=.cells 32 [.data (.slice FW),.data (.slice F6),.data (.slice FV),.rowh 8]
abbrev KX:Bool×List CT:=(false,[.data (.slice F6)])
abbrev LS:Bool×List CT:=(false,[.data (.slice FV)])
abbrev FI:Bool×List CT:=(false,[.rowh 1])
abbrev IT:Bool×List CT:=(true,[.data FH])
abbrev ArP:BT:=.cells 32 [.rowh 7,.rowh 8,.rowh 9,.rowh 10]
abbrev IU:Bool×List CT:=(true,[.data FW])
abbrev LT:Bool×List CT:=(false,[.data (.slice FW)])
abbrev o9:BT:=.cells 32 [.rowh 4,.rowh 5,.rowh 6,.rowh 7]
abbrev LU:BT:=.cells 63 [.data O2]
abbrev O6:Bool×List CT:=(false,[.data (.slice O2)])
abbrev Aep:BT:=.cells 63 [.data .str,.data (.int .i64),.data (.int .i64),.data (.int .i64),.data (.int .i64),.data (.int .i64),.rowh 2,.rowh 3,.data (.int .i64),.data (.int .i64)]
abbrev IV:Bool×List CT:=(false,[.ptr 3 0])
abbrev Ng:BT:=.cells 75 [.data FW]
abbrev Nh:Bool×List CT:=(true,[.data O2])
abbrev O7:Bool×List CT:=(true,[.data FV])
abbrev Tu:BT:=.cells 58 [.data G5]
abbrev ArQ:BT:=.cells 58 [.data .str,.rowh 9,.rowh 10]
abbrev ArR:BT:=.cells 32 [.data (.slice FW),.data (.slice F6),.data (.slice FV),.rowh 7]
abbrev Tv:Bool×List CT:=(true,[.data G5])
abbrev Aeq:Bool×List CT:=(true,[.data (.slice FW),.data (.slice F6),.data (.slice FV),.junk])
abbrev ArS:BT:=.cells 78 [.data .str,.data (.int .i64),.rowh 6,.data (.int .i64),.data (.int .i64),.data .bool]
abbrev Tw:Bool×List CT:=(true,[.data F6])
abbrev Aer:BT:=.cells 32 [.rowh 8,.rowh 9,.rowh 10,.rowh 11]
abbrev YT:BT:=.cells 81 [.data FV]
abbrev YU:Bool×List CT:=(false,[.data (.slice .str)])
abbrev El:List BT:=[YS,.tree 75 Ix,.tree 78 Iv,.tree 81 Iy,.tree 58 Iw]
abbrev O8:List BT:=[Dm,Aeo,ArP,.row 75 FW,.row 78 F6,.row 81 FV,.row 58 G5,.row 75 FW,.row 78 F6,.row 81 FV,.row 58 G5]
abbrev YV:List BT:=[Dm,o9,ArO,ArQ,.row 75 FW,.row 78 F6,.row 81 FV,.row 58 G5,.row 58 G5,.row 63 O2,.row 51 (.prod (.int .i64) (.prod (.int .i64) (.prod (.int .i64) (.prod (.int .i64) (.int .i64)))))]
abbrev Tx:List BT:=[Dm,ArN,ArM,ArL,.row 3 (.int .i64),.row 157 (.prod (.int .i64) (.int .i64)),.row 3 (.int .i64),.row 157 (.prod (.int .i64) (.int .i64))]
abbrev Ep:List BT:=[QI,.tree 96 KV]
abbrev Aes:List BT:=[Dm,o9,Aer,.cells 81 [.data .str,.data (.int .i64),.rowh 12],.row 75 FW,.row 78 F6,.row 81 FV,.row 58 G5,.row 75 FW,.row 78 F6,.row 81 FV,.row 58 G5,.row 3 (.int .i64)]
abbrev YW:List BT:=[YS,.tree 75 Ix,.tree 78 Iv,.tree 81 Iy,.tree 58 Iw,HZ,.row 3 (.int .i64)]
abbrev O9:List BT:=[.row 259 (.prod (.int .i64) (.int .i64))]
abbrev Tz:List BT:=[.row 268 (.prod (.int .i64) (.int .i64))]
abbrev T0:List BT:=[.row 257 (.prod (.int .i64) (.int .i64))]
abbrev YX:List BT:=[.row 96 (.prod (.int .i64) (.slice FH))]
abbrev Aet:List BT:=[Dm,Aeo,ArR,.row 75 FW,.row 78 F6,.row 81 FV,.row 58 G5,.row 58 G5]
abbrev T1:List BT:=[Cj,.map 129 .str .bool false]
abbrev QK:List BT:=[Cj,o8,.tree 96 KV]
abbrev Aeu:List BT:=[YS,.tree 75 Ix,.tree 78 Iv,.tree 81 Iy,.tree 58 Iw,ArS,.row 157 (.prod (.int .i64) (.int .i64))]
abbrev Aev:List BT:=[.cells 32 [.trowh 1,.trowh 2,.trowh 3,.trowh 4],.tree 75 Ix,.tree 78 Iv,.tree 81 Iy,.tree 58 Iw]
abbrev T2:List BT:=[.cells 237 [.fn 178 []],KW]
abbrev T3:List BT:=[.cells 133 [.fn 180 []],KW]
abbrev T4:List BT:=[.cells 127 [.fn 175 []],KW]
abbrev OA:List BT:=[.row 85 FH]
abbrev Aew:List BT:=[.row 268 (.prod (.int .i64) (.int .i64)),.cells 268 [.data (.prod (.int .i64) (.int .i64))]]
abbrev oA:List BT:=[Dm,.row 157 (.prod (.int .i64) (.int .i64))]
abbrev Aex:List BT:=[YS,.tree 75 Ix,.tree 78 Iv,.tree 81 Iy,.tree 58 Iw,.row 3 (.int .i64)]
abbrev Aey:List BT:=[.row 259 (.prod (.int .i64) (.int .i64)),.row 257 (.prod (.int .i64) (.int .i64))]
abbrev Dv:List (TypeId×OT):=[(58,Iw),(63,Aen),(75,Ix),(78,Iv),(81,Iy)]
abbrev FJ:List (TypeId×OT):=[(96,KV)]
def tab:List (Nat×TI):=[
 (3,⟨false,1,8,[.int .i64 (0:Int)],[],none,none,(some (.int .i64)),(some .i64),false,false,none,none,false⟩),
 (4,⟨false,1,1,[.bool false],[],none,none,(some .bool),none,true,false,none,none,false⟩),
 (5,⟨false,1,1,[.int .u8 (0:Int)],[],none,none,(some (.int .u8)),(some .u8),false,false,none,none,false⟩),
 (9,⟨false,1,16,[.str ([]:List UInt8)],[],none,none,(some .str),none,false,true,none,none,false⟩),
 (22,⟨false,1,24,[.nils],[],(some 3),none,(some (.slice (.int .i64))),none,false,false,none,none,false⟩),
 (27,⟨false,1,24,[.nils],[],(some 75),none,(some (.slice FW)),none,false,false,none,none,false⟩),
 (28,⟨false,1,24,[.nils],[],(some 78),none,(some (.slice F6)),none,false,false,none,none,false⟩),
 (29,⟨false,1,24,[.nils],[],(some 81),none,(some (.slice FV)),none,false,false,none,none,false⟩),
 (30,⟨false,1,24,[.nils],[],(some 58),none,(some (.slice G5)),none,false,false,none,none,false⟩),
 (32,⟨true,4,96,[.nils,.nils,.nils,.nils],[(0,1,false),(1,1,false),(2,1,false),(3,1,false)],none,none,(some Ts),none,false,false,none,none,false⟩),
 (41,⟨false,1,24,[.nils],[],(some 96),none,(some (.slice (.prod (.int .i64) (.slice FH)))),none,false,false,none,none,false⟩),
 (47,⟨true,2,32,[.nils,.int .i64 (0:Int)],[(0,1,false),(1,1,false)],none,none,(some (.prod (.slice (.int .i64)) (.int .i64))),none,false,false,none,none,false⟩),
 (51,⟨true,5,40,[.int .i64 (0:Int),.int .i64 (0:Int),.int .i64 (0:Int),.int .i64 (0:Int),.int .i64 (0:Int)],[(0,1,false),(1,1,false),(2,1,false),(3,1,false),(4,1,false)],none,none,(some (.prod (.int .i64) (.prod (.int .i64) (.prod (.int .i64) (.prod (.int .i64) (.int .i64)))))),none,false,false,(some [.i,.i,.i,.i,.i]),none,false⟩),
 (54,⟨false,1,24,[.nils],[],(some 9),none,(some (.slice .str)),none,false,false,none,none,false⟩),
 (55,⟨false,1,24,[.nils],[],(some 63),none,(some (.slice O2)),none,false,false,none,none,false⟩),
 (56,⟨false,1,24,[.nils],[],(some 51),none,(some (.slice (.prod (.int .i64) (.prod (.int .i64) (.prod (.int .i64) (.prod (.int .i64) (.int .i64))))))),none,false,false,none,none,false⟩),
 (58,⟨true,3,64,[.str ([]:List UInt8),.nils,.nils],[(0,1,false),(1,1,false),(2,1,false)],none,none,(some G5),none,false,false,none,none,false⟩),
 (60,⟨true,2,16,[.int .i64 (0:Int),.int .i64 (0:Int)],[(0,1,false),(1,1,false)],none,none,(some (.prod (.int .i64) (.int .i64))),none,false,false,(some [.i,.i]),none,false⟩),
 (61,⟨false,1,24,[.nils],[],(some 157),none,(some (.slice (.prod (.int .i64) (.int .i64)))),none,false,false,none,none,false⟩),
 (63,⟨true,10,120,[.str ([]:List UInt8),.int .i64 (0:Int),.int .i64 (0:Int),.int .i64 (0:Int),.int .i64 (0:Int),.int .i64 (0:Int),.nils,.nils,.int .i64 (0:Int),.int .i64 (0:Int)],[(0,1,false),(1,1,false),(2,2,true),(4,1,false),(5,1,false),(6,1,false),(7,1,false),(8,1,false),(9,1,false)],none,none,(some O2),none,false,false,none,none,false⟩),
 (70,⟨false,1,8,[.nilp],[],none,none,none,none,false,false,none,none,true⟩),
 (72,⟨true,5,120,[.nils,.nils,.nils,.nils,.nils],[(0,4,true),(4,1,false)],none,none,(some ArJ),none,false,false,none,none,false⟩),
 (73,⟨false,1,24,[.nils],[],(some 142),none,(some (.slice Ke)),none,false,false,none,none,false⟩),
 (75,⟨true,3,48,[.str ([]:List UInt8),.int .i64 (0:Int),.nils],[(0,1,false),(1,1,false),(2,1,false)],none,none,(some FW),none,false,false,none,none,false⟩),
 (78,⟨true,6,72,[.str ([]:List UInt8),.int .i64 (0:Int),.nils,.int .i64 (0:Int),.int .i64 (0:Int),.bool false],[(0,1,false),(1,1,false),(2,1,false),(3,1,false),(4,1,false),(5,1,false)],none,none,(some F6),none,false,false,none,none,false⟩),
 (81,⟨true,3,48,[.str ([]:List UInt8),.int .i64 (0:Int),.nils],[(0,1,false),(1,1,false),(2,1,false)],none,none,(some FV),none,false,false,none,none,false⟩),
 (85,⟨true,3,32,[.int .i64 (0:Int),.str ([]:List UInt8),.int .i64 (0:Int)],[(0,1,false),(1,1,false),(2,1,false)],none,none,(some FH),none,false,false,(some [.i,.s,.i]),none,false⟩),
 (91,⟨true,4,96,[.nils,.nils,.nils,.nils],[(0,4,true)],none,none,(some Ts),none,false,false,none,none,false⟩),
 (92,⟨false,1,8,[.junk],[],none,none,none,none,false,false,none,(some (9,98)),false⟩),
 (94,⟨false,1,24,[.nils],[],(some 85),none,(some (.slice FH)),none,false,false,none,none,false⟩),
 (96,⟨true,2,32,[.int .i64 (0:Int),.nils],[(0,1,false),(1,1,false)],none,none,(some (.prod (.int .i64) (.slice FH))),none,false,false,none,none,false⟩),
 (98,⟨false,1,8,[.nilfn],[],none,none,none,none,false,false,none,none,false⟩),
 (116,⟨true,2,32,[.nilp,.nils],[(0,1,false),(1,1,false)],none,none,none,none,false,false,none,none,false⟩),
 (119,⟨false,1,16,[.err true],[],none,none,(some .err),none,false,false,none,none,false⟩),
 (127,⟨false,1,8,[.nilfn],[],none,none,none,none,false,false,none,none,false⟩),
 (129,⟨false,1,8,[.junk],[],none,none,none,none,false,false,none,(some (9,4)),false⟩),
 (133,⟨false,1,8,[.nilfn],[],none,none,none,none,false,false,none,none,false⟩),
 (142,⟨true,7,56,[.int .i64 (0:Int),.int .i64 (0:Int),.int .i64 (0:Int),.int .i64 (0:Int),.int .i64 (0:Int),.int .i64 (0:Int),.int .i64 (0:Int)],[(0,1,false),(1,1,false),(2,1,false),(3,1,false),(4,1,false),(5,1,false),(6,1,false)],none,none,(some Ke),none,false,false,(some [.i,.i,.i,.i,.i,.i,.i]),none,false⟩),
 (149,⟨true,3,48,[.str ([]:List UInt8),.nils,.bool false],[(0,1,false),(1,1,false),(2,1,false)],none,none,(some LQ),none,false,false,none,none,false⟩),
 (157,⟨true,2,16,[.int .i64 (0:Int),.int .i64 (0:Int)],[(0,1,false),(1,1,false)],none,none,(some (.prod (.int .i64) (.int .i64))),none,false,false,(some [.i,.i]),none,false⟩),
 (184,⟨false,1,8,[.nilp],[],none,none,none,none,false,false,none,none,true⟩),
 (190,⟨false,1,8,[.nilp],[],none,none,none,none,false,false,none,none,true⟩),
 (193,⟨false,1,8,[.nilp],[],none,none,none,none,false,false,none,none,true⟩),
 (197,⟨false,1,8,[.nilp],[],none,none,none,none,false,false,none,none,true⟩),
 (200,⟨false,1,8,[.nilp],[],none,none,none,none,false,false,none,none,true⟩),
 (204,⟨false,1,24,[.nils],[],(some 149),none,(some (.slice LQ)),none,false,false,none,none,false⟩),
 (223,⟨false,1,24,[.nils],[],(some 259),none,(some (.slice (.prod (.int .i64) (.int .i64)))),none,false,false,none,none,false⟩),
 (230,⟨true,3,24,[.int .i64 (0:Int),.int .i64 (0:Int),.int .i64 (0:Int)],[(0,1,false),(1,1,false),(2,1,false)],none,none,(some (.prod (.int .i64) (.prod (.int .i64) (.int .i64)))),none,false,false,(some [.i,.i,.i]),none,false⟩),
 (237,⟨false,1,8,[.nilfn],[],none,none,none,none,false,false,none,none,false⟩),
 (253,⟨false,1,24,[.nils],[],(some 257),none,(some (.slice (.prod (.int .i64) (.int .i64)))),none,false,false,none,none,false⟩),
 (257,⟨true,2,16,[.int .i64 (0:Int),.int .i64 (0:Int)],[(0,1,false),(1,1,false)],none,none,(some (.prod (.int .i64) (.int .i64))),none,false,false,(some [.i,.i]),none,false⟩),
 (259,⟨true,2,16,[.int .i64 (0:Int),.int .i64 (0:Int)],[(0,1,false),(1,1,false)],none,none,(some (.prod (.int .i64) (.int .i64))),none,false,false,(some [.i,.i]),none,false⟩),
 (266,⟨false,1,24,[.nils],[],(some 268),none,(some (.slice (.prod (.int .i64) (.int .i64)))),none,false,false,none,none,false⟩),
 (268,⟨true,2,16,[.int .i64 (0:Int),.int .i64 (0:Int)],[(0,1,false),(1,1,false)],none,none,(some (.prod (.int .i64) (.int .i64))),none,false,false,(some [.i,.i]),none,false⟩),
 (289,⟨true,12,96,[.int .i64 (0:Int),.int .i64 (0:Int),.int .i64 (0:Int),.int .i64 (0:Int),.int .i64 (0:Int),.int .i64 (0:Int),.int .i64 (0:Int),.int .i64 (0:Int),.int .i64 (0:Int),.int .i64 (0:Int),.int .i64 (0:Int),.int .i64 (0:Int)],[],(some 3),(some 12),(some (.prod (.int .i64) (.prod (.int .i64) (.prod (.int .i64) (.prod (.int .i64) (.prod (.int .i64) Ke)))))),none,false,false,(some [.i,.i,.i,.i,.i,.i,.i,.i,.i,.i,.i,.i]),none,false⟩)]
theorem BC:TOk Tryz.prog (look tab):=AqN (by kernel_rfl)
theorem mixed:Tryz.prog.follows .mixedOrders=true:=by kernel_rfl
abbrev OK(p:Pc)(G:p.G):Prop:=p.Ok Tryz.prog G
abbrev GO(X:Ctx):Prop:=ΓOk Tryz.prog X.Γ
@[reducible] def cx(l:List (Nat×Fun)):Ctx:=⟨look tab,ET l,false,false,false,false,[],none,0,[]⟩
@[reducible] def YY{A0 A1 B:Type}(f:(A0->A1->B)->A0->A1->B)(z:B):Nat->A0->A1->B
 |0=>λ_ _=>z
 |i+1=>f (YY f z i)
@[reducible] def G8{A0 A1 A2 B:Type}(f:(A0->A1->A2->B)->A0->A1->A2->B)(z:B):Nat->A0->A1->A2->B
 |0=>λ_ _ _=>z
 |i+1=>f (G8 f z i)
@[reducible] def DT{A0 A1 A2 A3 B:Type}(f:(A0->A1->A2->A3->B)->A0->A1->A2->A3->B)(z:B):Nat->A0->A1->A2->A3->B
 |0=>λ_ _ _ _=>z
 |i+1=>f (DT f z i)
@[reducible] def JB{A0 A1 A2 A3 A4 B:Type}(f:(A0->A1->A2->A3->A4->B)->A0->A1->A2->A3->A4->B)(z:B):Nat->A0->A1->A2->A3->A4->B
 |0=>λ_ _ _ _ _=>z
 |i+1=>f (JB f z i)
@[reducible] def T5{A0 A1 A2 A3 A4 A5 B:Type}(f:(A0->A1->A2->A3->A4->A5->B)->A0->A1->A2->A3->A4->A5->B)(z:B):Nat->A0->A1->A2->A3->A4->A5->B
 |0=>λ_ _ _ _ _ _=>z
 |i+1=>f (T5 f z i)
@[reducible] def ArT{A0 A1 A2 A3 A4 A5 A6 B:Type}(f:(A0->A1->A2->A3->A4->A5->A6->B)->A0->A1->A2->A3->A4->A5->A6->B)(z:B):Nat->A0->A1->A2->A3->A4->A5->A6->B
 |0=>λ_ _ _ _ _ _ _=>z
 |i+1=>f (ArT f z i)
@[reducible] def oB{A0 A1 A2 A3 A4 A5 A6 A7 B:Type}(f:(A0->A1->A2->A3->A4->A5->A6->A7->B)->A0->A1->A2->A3->A4->A5->A6->A7->B)(z:B):Nat->A0->A1->A2->A3->A4->A5->A6->A7->B
 |0=>λ_ _ _ _ _ _ _ _=>z
 |i+1=>f (oB f z i)
@[reducible] def QL{A0 A1 A2 A3 A4 A5 A6 A7 A8 B:Type}(f:(A0->A1->A2->A3->A4->A5->A6->A7->A8->B)->A0->A1->A2->A3->A4->A5->A6->A7->A8->B)(z:B):Nat->A0->A1->A2->A3->A4->A5->A6->A7->A8->B
 |0=>λ_ _ _ _ _ _ _ _ _=>z
 |i+1=>f (QL f z i)
@[reducible] def OB{A0 A1 A2 A3 A4 A5 A6 A7 A8 A9 B:Type}(f:(A0->A1->A2->A3->A4->A5->A6->A7->A8->A9->B)->A0->A1->A2->A3->A4->A5->A6->A7->A8->A9->B)(z:B):Nat->A0->A1->A2->A3->A4->A5->A6->A7->A8->A9->B
 |0=>λ_ _ _ _ _ _ _ _ _ _=>z
 |i+1=>f (OB f z i)
@[reducible] def oC{A0 A1 A2 A3 A4 A5 A6 A7 A8 A9 A10 B:Type}(f:(A0->A1->A2->A3->A4->A5->A6->A7->A8->A9->A10->B)->A0->A1->A2->A3->A4->A5->A6->A7->A8->A9->A10->B)(z:B):Nat->A0->A1->A2->A3->A4->A5->A6->A7->A8->A9->A10->B
 |0=>λ_ _ _ _ _ _ _ _ _ _ _=>z
 |i+1=>f (oC f z i)
@[reducible] def Aez{A0 A1 A2 A3 A4 A5 A6 A7 A8 A9 A10 A11 B:Type}(f:(A0->A1->A2->A3->A4->A5->A6->A7->A8->A9->A10->A11->B)->A0->A1->A2->A3->A4->A5->A6->A7->A8->A9->A10->A11->B)(z:B):Nat->A0->A1->A2->A3->A4->A5->A6->A7->A8->A9->A10->A11->B
 |0=>λ_ _ _ _ _ _ _ _ _ _ _ _=>z
 |i+1=>f (Aez f z i)
@[reducible] def AeA{A0 A1 A2 A3 A4 A5 A6 A7 A8 A9 A10 A11 A12 B:Type}(f:(A0->A1->A2->A3->A4->A5->A6->A7->A8->A9->A10->A11->A12->B)->A0->A1->A2->A3->A4->A5->A6->A7->A8->A9->A10->A11->A12->B)(z:B):Nat->A0->A1->A2->A3->A4->A5->A6->A7->A8->A9->A10->A11->A12->B
 |0=>λ_ _ _ _ _ _ _ _ _ _ _ _ _=>z
 |i+1=>f (AeA f z i)
@[reducible] def oD{A0 A1 A2 A3 A4 A5 A6 A7 A8 A9 A10 A11 A12 A13 B:Type}(f:(A0->A1->A2->A3->A4->A5->A6->A7->A8->A9->A10->A11->A12->A13->B)->A0->A1->A2->A3->A4->A5->A6->A7->A8->A9->A10->A11->A12->A13->B)(z:B):Nat->A0->A1->A2->A3->A4->A5->A6->A7->A8->A9->A10->A11->A12->A13->B
 |0=>λ_ _ _ _ _ _ _ _ _ _ _ _ _ _=>z
 |i+1=>f (oD f z i)
@[reducible] def AeB{A0 A1 A2 A3 A4 A5 A6 A7 A8 A9 A10 A11 A12 A13 A14 B:Type}(f:(A0->A1->A2->A3->A4->A5->A6->A7->A8->A9->A10->A11->A12->A13->A14->B)->A0->A1->A2->A3->A4->A5->A6->A7->A8->A9->A10->A11->A12->A13->A14->B)(z:B):Nat->A0->A1->A2->A3->A4->A5->A6->A7->A8->A9->A10->A11->A12->A13->A14->B
 |0=>λ_ _ _ _ _ _ _ _ _ _ _ _ _ _ _=>z
 |i+1=>f (AeB f z i)
@[reducible] def AeC{A0 A1 A2 A3 A4 A5 A6 A7 A8 A9 A10 A11 A12 A13 A14 A15 A16 A17 A18 A19 A20 A21 A22 A23 A24 B:Type}(f:(A0->A1->A2->A3->A4->A5->A6->A7->A8->A9->A10->A11->A12->A13->A14->A15->A16->A17->A18->A19->A20->A21->A22->A23->A24->B)->A0->A1->A2->A3->A4->A5->A6->A7->A8->A9->A10->A11->A12->A13->A14->A15->A16->A17->A18->A19->A20->A21->A22->A23->A24->B)(z:B):Nat->A0->A1->A2->A3->A4->A5->A6->A7->A8->A9->A10->A11->A12->A13->A14->A15->A16->A17->A18->A19->A20->A21->A22->A23->A24->B
 |0=>λ_ _ _ _ _ _ _ _ _ _ _ _ _ _ _ _ _ _ _ _ _ _ _ _ _=>z
 |i+1=>f (AeC f z i)
abbrev En:=Ent Tryz.prog
abbrev Pb:=PB Tryz.prog
@[reducible] noncomputable def ctx(es:List En):Ctx:=⟨look tab,gam es,false,false,false,false,[],none,0,[]⟩
theorem pf(es:List En)(cs:List Pb){ps rs:List (Bool×List CT)}{is os:List BT}{f:FuncId}{fn:Func}(vs:List RS){s:(β:Type)->VF (KF (Option β) rs os->Option β) ps is}(hf:Tryz.prog.funcs[f]?=some fn)(hc:((fn.name== "runtime.NumGoroutine"),fn.body,fn.results.toList,(Nat.beq vs.length rs.length&&(ST.tidy rs&&Nat.ble ps.length fn.ntmps)),cs.map (λb=>(find b.q 1 (Ay fn),b.p.v.m,b.p.n,b.p.m)))=(false,some (Ay fn),vs.map RS.toVar,true,cs.map (λb=>([b.p.c],is.length,fn.ntmps,is.length))):=by kernel_rfl)(h:∀{β:Type}(x:ST.dens ps×BT.dens is)(k:ST.dens rs×BT.dens os->Option β),exec (ctx es) fn.ntmps (cuts cs) 1 (Ay fn) ((vIn (sgE ps is rs os s)).mk' x) (retK (ctx es).T (sgE ps is rs os s) vs k)=vapp ps is (s β) x (klam rs os k):=by intros;kernel_rfl):SpecOk Tryz.prog f (sgE ps is rs os λβ=>hid (s β)):=QF mixed (X:=ctx es) BC es rfl cs vs hf hc h
theorem pfB(es:List En)(cs:List Pb){ps rs:List (Bool×List CT)}{is os:List BT}{f:FuncId}{fn:Func}(vs:List RS){s:(β:Type)->VF (KF (Option β) rs os->Option β) ps is}(hf:Tryz.prog.funcs[f]?=some fn)(hc:((fn.name== "runtime.NumGoroutine"),fn.body,fn.results.toList,(Nat.beq vs.length rs.length&&(ST.tidy rs&&Nat.ble ps.length fn.ntmps)),cs.map (λb=>(find b.q 1 (Ay fn),b.p.v.m,b.p.n,b.p.m)))=(false,some (Ay fn),vs.map RS.toVar,true,cs.map (λb=>([b.p.c],is.length,fn.ntmps,is.length))):=by kernel_rfl)(h:∀{β:Type}(x:ST.dens ps×BT.dens is)(k:ST.dens rs×BT.dens os->Option β),exec (ctx es) fn.ntmps (cuts cs) 1 (Ay fn) ((vIn (sgE ps is rs os s)).mk' x) (retK (ctx es).T (sgE ps is rs os s) vs k)=vapp ps is (s β) x (klam rs os k):=by intros;kernel_rfl):SpecOkB Tryz.prog f (sgE ps is rs os λβ=>hid (s β)):=FG mixed (X:=ctx es) BC es rfl cs vs hf hc h
theorem pl{p:Pc}(es:List En)(cs:List Pb){g:Nat->(β:Type)->p.T β}(hc:((p.o.all λx=>Nat.beq x.2.m p.m),cs.map (λb=>(find b.q 1 (E5 p.c),b.p.v.m,b.p.n,b.p.m)))=(true,cs.map (λb=>([b.p.c],p.m,p.n,p.m))):=by kernel_rfl)(hv:p.v.m=p.m:=by rfl)(hl:p.c=.loop (E5 p.c):=by kernel_rfl)(h0:∀{β:Type}(d:p.v.den)(ks:Outs.K β p.o),p.un (g 0) d ks=none:=by exact λ_ _=>rfl)(h:∀(i:Nat){β:Type}(d:p.v.den)(ks:Outs.K β p.o),exec (ctx es) p.n (cuts cs) 1 (E5 p.c) (p.v.mk' d) (Tl p.v (λd'=>p.un (g i) d' ks) p.o ks)=p.un (g (i+1)) d ks:=by intros;kernel_rfl):p.Ok Tryz.prog (p.un λβ=>hid (g fuel β)):=HY mixed (X:=ctx es) BC es rfl cs hc hv hl h0 h
theorem pe{p:Pc}(es:List En)(cs:List Pb)(q:Nat){g:(β:Type)->p.T β}(hc:((p.o.all λx=>Nat.beq x.2.m p.m),cs.map (λb=>(find b.q q p.c,b.p.v.m,b.p.n,b.p.m)))=(true,cs.map (λb=>([b.p.c],p.m,p.n,p.m))):=by kernel_rfl)(h:∀{β:Type}(d:p.v.den)(ks:Outs.K β p.o),exec (ctx es) p.n (cuts cs) q p.c (p.v.mk' d) (outK p.o ks)=p.un g d ks:=by intros;kernel_rfl):p.Ok Tryz.prog (p.un λβ=>hid (g β)):=O1 mixed (X:=ctx es) BC es rfl cs q hc h
noncomputable def au(es:List En)(ps:List (Bool×List CT))(is:List BT)(rs:List (Bool×List CT))(os:List BT){f:FuncId}{fn:Func}(vs:List RS)(hf:Tryz.prog.funcs[f]?=some fn)(hc:((fn.name== "runtime.NumGoroutine"),fn.body,fn.results.toList,(Nat.beq vs.length rs.length&&(ST.tidy rs&&Nat.ble ps.length fn.ntmps)))=(false,some (Ay fn),vs.map RS.toVar,true)):En:=
 .auto mixed (X:=⟨look tab,gam es,false,false,false,false,[],none,100000,[]⟩) BC es rfl ps is rs os vs hf hc
abbrev ArU:={β:Type}->De->(Bool->Option β)->Option β
def YZ:ArU:=hid λl k=>let t:=(decide ((List.length l:Int)<=(500:Int)));k t
noncomputable def ArV:En:=⟨4,.spec (sg [Hl] [] [AS] [] YZ),pf [] [] [.tmp 2] Tryz.func4⟩
abbrev ArW:={β:Type}->De->(Ce->Option β)->Option β
def Za:ArW:=hid λl k=>k (l,0)
noncomputable def ArX:En:=⟨6,.spec (sg [Hl] [] [AA] [Dm] Za),pf [] [] [.tmp 2] Tryz.func6⟩
abbrev ArY:={β:Type}->Int->Ce->(Int->Ce->Option β)->Option β
def C4:ArY:=hid λn d k=>cond (decide ((List.length d.1:Int)<=d.2)) (k 0 d) (cond (decide (n<1)) (k 0 d) (cond (decide (0<=d.2)&&decide (d.2<(List.length d.1:Int))) (let e:=List.getD d.1 (Int.toNat d.2) 0;cond (!decide (n=0)) (cond (decide ((Int.tmod e n)<0)) (let x:=(IntKind.i64.wrap ((Int.tmod e n)+n));k x (d.1,(IntKind.i64.wrap (d.2+(1:Int))))) (k (Int.tmod e n) (d.1,(IntKind.i64.wrap (d.2+(1:Int)))))) none) none))
noncomputable def KY:En:=⟨9,.spec (sg [AA,Ab] [Dm] [Ab] [Dm] C4),pf [] [] [.tmp 4] Tryz.func9⟩
abbrev ArZ:={β:Type}->(E6->Option β)->Option β
def T6:ArZ:=hid λk=>let l:=([([97,100,97]:List UInt8),([98,111,98]:List UInt8),([99,108,101,111]:List UInt8),([100,97,110]:List UInt8),([101,118,101]:List UInt8),([102,97,121]:List UInt8),([103,117,115]:List UInt8),([104,97,108]:List UInt8)]:List AJ);k l
noncomputable def AeD:En:=⟨19,.spec (sg [] [] [CH] [.row 9 .str] T6),pf [] [] [.tmp 0] Tryz.func19⟩
abbrev As0:={β:Type}->AJ->(BV->Option β)->Option β
def FK:As0:=hid λs k=>k (0,(s,0))
noncomputable def IW:En:=⟨27,.spec (sg [BR] [] [IT] [] FK),pf [] [] [.cell 2 85] Tryz.func27⟩
noncomputable def As1:En:=.inl mixed (X:=⟨look tab,gam ([]:List En),false,false,false,false,Dv,none,0,[]⟩) (rs:=[.tmp 2]) BC ([]:List En) rfl 1 Tryz.func30 (by kernel_rfl)
abbrev As2:={β:Type}->As->Int->(List BA)->(As->Option β)->Option β
def Zb:As2:=hid λc Ha l k=>cond (decide (List.length c.2.2.2*64<=Bl)) (cond (decide (0<=Ha)&&decide (Ha<(List.length c.2.2.2:Int))) (let l2:=(List.set c.2.2.2 (Int.toNat Ha) ((List.getD c.2.2.2 (Int.toNat Ha) (([]:List UInt8),(([]:List AU),([]:List BA)))).1,(((List.getD c.2.2.2 (Int.toNat Ha) (([]:List UInt8),(([]:List AU),([]:List BA)))).2).1,l)));k (c.1,(c.2.1,(c.2.2.1,l2)))) none) none
noncomputable def As3:En:=⟨41,.spec (sg [ED,Ab,O3] [] [ED] [] Zb),pf [] [] [.cell 6 32] Tryz.func41⟩
abbrev As4:={β:Type}->De->Ce->(Int->Ce->Option β)->Option β
def IX:As4:=hid λl d k=>C4 (List.length l:Int) d (λCr Du=>cond (decide (0<=Cr)&&decide (Cr<(List.length l:Int))) (let e:=List.getD l (Int.toNat Cr) 0;k e Du) none)
noncomputable def QM:En:=⟨43,.spec (sg [AA,Hl] [Dm] [Ab] [Dm] IX),pf [KY] [] [.tmp 4] Tryz.func43⟩
abbrev As5:={β:Type}->Int->Ce->(Bool->Ce->Option β)->Option β
def LV:As5:=hid λn d k=>C4 n d (λCr Du=>let t:=(decide (Cr=(IntKind.i64.wrap (n-1))));k t Du)
noncomputable def Zc:En:=⟨44,.spec (sg [AA,Ab] [Dm] [AS] [Dm] LV),pf [KY] [] [.tmp 4] Tryz.func44⟩
abbrev As6:={β:Type}->AJ->Ce->(AK->Ce->Option β)->Option β
noncomputable def AeE:List En:=[KY,QM]
abbrev AeF(β:Type):=Ce->AK->AJ->Int->G7->Option β
abbrev As7(β:Type):=Int->Ce->AK->AK->Option β
noncomputable def AeG:Pc:=⟨98,1,AL 31483 (Ay Tryz.f45),⟨1,[0,4,5,7],[AA,Ck,Dn,Ab],[Dm,Ng,Ng]⟩,[(.normal,⟨1,[4,5],[Ck,Dn],[Dm,Ng,.cells 75 [.data .str,.data (.int .i64),.rowh 3],.row 142 Ke]⟩)]⟩
def oE{β:Type}(k1:AeF β):As7 β:=λx d t4 z=>C4 7 d (λCr Du=>C4 48 Du (λEb H3=>let l:=([(2026,(2026,(1,(2,(Cr,((IntKind.i64.wrap (1800*Eb)),x))))))]:List BZ);k1 H3 t4 z.1 z.2.1 l))
def OC{β:Type}:=hid (oE (β:=β))
noncomputable def As8:Pb:=⟨31483,AeG,λ_=>OC,pe (p:=AeG) AeE [] 31483 (g:=λ_=>oE)⟩
def Zd:As6:=hid λname d k=>let l:=([0,4,(-20),22,48,(-47)]:List Int);IX l d (λFx II=>C4 2 II (λCr Du=>C4 3 Du (λEb H3=>C4 2 H3 (λM9 PJ=>let last:=(IntKind.i64.wrap (2025+M9));C4 4 PJ (λXy PK=>let t:=(decide (Xy=(1:Int)));cond t (let l2:=([(2025,(last,(3,(5,(6,(7200,(IntKind.i64.wrap ((IntKind.i64.wrap (900*(IntKind.i64.wrap (Fx+(IntKind.i64.wrap (Cr*Eb))))))+3600)))))))),(2025,(last,(10,(5,(6,(10800,(IntKind.i64.wrap (900*(IntKind.i64.wrap (Fx+(IntKind.i64.wrap (Cr*Eb))))))))))))]:List BZ);k (name,((IntKind.i64.wrap (900*(IntKind.i64.wrap (Fx+(IntKind.i64.wrap (Cr*Eb)))))),l2)) PK) (let t2:=(decide (Xy=(2:Int)));cond t2 (C4 4 PK (λAJb AIr=>C4 7 AIr (λAJc AIs=>C4 24 AIs (λAJd AIt=>C4 8 AIt (λAJe AIu=>C4 2 AIu (λAJf AIv=>let l2:=([2,3,5]:List Int);IX l2 AIv (λPS M7=>C4 7 M7 (λAJ9 AIp=>C4 24 AIp (λAJa AIq=>let l3:=([(2025,(last,(1,((IntKind.i64.wrap (1+AJb)),(AJc,((IntKind.i64.wrap (3600*AJd)),(IntKind.i64.wrap ((IntKind.i64.wrap (900*(IntKind.i64.wrap (Fx+(IntKind.i64.wrap (Cr*Eb))))))+(IntKind.i64.wrap (1800*(IntKind.i64.wrap (1+AJe)))))))))))),(2025,(last,((IntKind.i64.wrap (2+AJf)),(PS,(AJ9,((IntKind.i64.wrap (3600*AJa)),(IntKind.i64.wrap (900*(IntKind.i64.wrap (Fx+(IntKind.i64.wrap (Cr*Eb))))))))))))]:List BZ);k (name,((IntKind.i64.wrap (900*(IntKind.i64.wrap (Fx+(IntKind.i64.wrap (Cr*Eb)))))),l3)) AIq))))))))) (let t3:=(decide (Xy=(3:Int)));cond t3 (let l2:=([3600,(-3600),82800,(-82800),43200]:List Int);IX l2 PK (λPS M7=>let x:=(IntKind.i64.wrap ((IntKind.i64.wrap (900*(IntKind.i64.wrap (Fx+(IntKind.i64.wrap (Cr*Eb))))))+PS));cond (decide ((64800:Int)<x)) (OC (λAZ t4 z z2 AG=>k (z,(z2,AG)) AZ) 0 M7 KT (name,((IntKind.i64.wrap (900*(IntKind.i64.wrap (Fx+(IntKind.i64.wrap (Cr*Eb)))))),([]:List BZ)))) (cond (decide (x<(-64800))) (OC (λAZ t4 z z2 AG=>k (z,(z2,AG)) AZ) 0 M7 KT (name,((IntKind.i64.wrap (900*(IntKind.i64.wrap (Fx+(IntKind.i64.wrap (Cr*Eb)))))),([]:List BZ)))) (OC (λAZ t4 z z2 AG=>k (z,(z2,AG)) AZ) x M7 KT (name,((IntKind.i64.wrap (900*(IntKind.i64.wrap (Fx+(IntKind.i64.wrap (Cr*Eb)))))),([]:List BZ))))))) (k (name,((IntKind.i64.wrap (900*(IntKind.i64.wrap (Fx+(IntKind.i64.wrap (Cr*Eb)))))),([]:List BZ))) PK))))))))
noncomputable def As9:En:=⟨45,.spec (sg [AA,BR] [Dm] [IU] [Dm] Zd),pf AeE [As8] [.cell 4 75] Tryz.func45⟩
abbrev Asa:={β:Type}->Ce->(Ce->BP->Option β)->Option β
noncomputable def AeH:List En:=[KY,QM]
abbrev AeI(β:Type):=Ce->BP->Option β
abbrev oF(β:Type):=Int->Int->Ce->BP->Option β
noncomputable def AeJ:Pc:=⟨38,1,AL 122 (Ay Tryz.f46),⟨1,[0,3,4,5],[AA,FI,Ab,Ab],oA⟩,[(.exit 0,⟨1,[3],[FI],oA⟩)]⟩
def Ze{β:Type}(rec:oF β)(k1:AeI β):oF β:=λat_ i_ d out=>cond (decide ((0:Int)<i_)) (C4 30 d (λCr Du=>C4 2 Du (λEb H3=>let from_:=(IntKind.i64.wrap ((IntKind.i64.wrap (at_+(IntKind.i64.wrap (3600*Cr))))+(IntKind.i64.wrap (60*Eb))));let l:=([3600,28800,43200,86400,61,1]:List Int);IX l H3 (λFx II=>let to_:=(IntKind.i64.wrap (from_+Fx));cond (decide ((604800:Int)<to_)) (k1 II out) (let l2:=([(from_,to_)]:List BJ);cond (decide ((List.length out+List.length l2)*16<=Bl)) (let l3:=(out++l2);let Bz:=(IntKind.i64.wrap (i_-1));rec to_ Bz II l3) none))))) (k1 d out)
def T7(m:Nat){β:Type}(k1:AeI β):oF β:=DT (λr=>Ze r k1) none m
theorem AeK{β:Type}(i:Nat)(k1):T7 (β:=β) (i+1) k1=Ze (T7 i k1) k1:=rfl
def oG{β:Type}:=hid (T7 (β:=β) fuel)
noncomputable def Asb:Pb:=⟨122,AeJ,λ_=>oG,pl (p:=AeJ) AeH [] (g:=λi _=>T7 i)⟩
def T8:Asa:=hid λd k=>C4 4 d (λCr Du=>oG (λAZ out=>k AZ out) 0 Cr Du ([]:List BJ))
noncomputable def AeL:En:=⟨46,.spec (sg [AA] [Dm] [FI] oA T8),pf AeH [Asb] [.tmp 2] Tryz.func46⟩
def Asc:Shelf.Ren:=
   {
   f:=λx=>
    match x with
    |166=>48
    |240=>103
    |276=>157
    |n=>n,
   t:=λx=>
    match x with
    |70=>113
    |9=>9
    |0=>0
    |72=>116
    |37=>114
    |127=>164
    |3=>3
    |5=>5
    |80=>122
    |4=>4
    |164=>214
    |20=>20
    |75=>119
    |n=>n,
   g:=λx=>x}
theorem Asd:Go.Proofs.Lays.n166 Tryz.prog Asc:=
 {
  mixed:=by kernel_rfl,
  f166:=Eq.trans Tryz.func48 (Ax some (by kernel_rfl)),
  f240:=Eq.trans Tryz.func103 (Ax some (by kernel_rfl)),
  f276:=Eq.trans Tryz.func157 (Ax some (by kernel_rfl)),
  t0:=Tryz.underlying0,
  a0:=Tryz.isAgg0,
  z0:=Tryz.sizeOf0,
  v0:=Tryz.zeroValue0,
  t3:=Tryz.underlying3,
  a3:=Tryz.isAgg3,
  z3:=Tryz.sizeOf3,
  v3:=Tryz.zeroValue3,
  t4:=Tryz.underlying4,
  a4:=Tryz.isAgg4,
  z4:=Tryz.sizeOf4,
  v4:=Tryz.zeroValue4,
  t9:=Tryz.underlying9,
  a9:=Tryz.isAgg9,
  z9:=Tryz.sizeOf9,
  v9:=Tryz.zeroValue9,
  t20:=Tryz.underlying20,
  a20:=Tryz.isAgg20,
  z20:=Tryz.sizeOf20,
  v20:=Tryz.zeroValue20,
  t37:=Tryz.underlying114,
  a37:=Tryz.isAgg114,
  z37:=Tryz.sizeOf114,
  v37:=Tryz.zeroValue114,
  t70:=Tryz.underlying113,
  a70:=Tryz.isAgg113,
  z70:=Tryz.sizeOf113,
  v70:=Tryz.zeroValue113,
  t72:=Tryz.underlying116,
  a72:=Tryz.isAgg116,
  z72:=Tryz.sizeOf116,
  v72:=Tryz.zeroValue116,
  t75:=Tryz.underlying119,
  a75:=Tryz.isAgg119,
  z75:=Tryz.sizeOf119,
  v75:=Tryz.zeroValue119,
  t164:=Tryz.underlying214,
  a164:=Tryz.isAgg214,
  z164:=Tryz.sizeOf214,
  v164:=Tryz.zeroValue214}
def AeM:BldF:=⟨116,5,0⟩
theorem Ase:BldOk Tryz.prog 48 AeM:=
 Arw Asd {sizeBuilder:=by kernel_rfl,liesBuilder:=by kernel_rfl,t5:=Tryz.underlying5,a5:=Tryz.isAgg5,z5:=Tryz.sizeOf5,v5:=Tryz.zeroValue5,infoByte:=by kernel_rfl,cellsByte:=by kernel_rfl,sizeByte:=by kernel_rfl,neB5:=by decide} rfl rfl rfl ⟨_,Tryz.func48,by kernel_rfl,by kernel_rfl⟩
noncomputable def Asf:En:=⟨_,.bld AeM,Ase⟩
def Asg:Shelf.Ren:=
   {
   f:=λx=>
    match x with
    |170=>49
    |n=>n,
   t:=λx=>
    match x with
    |70=>113
    |3=>3
    |0=>0
    |72=>116
    |37=>114
    |5=>5
    |n=>n,
   g:=λx=>x}
theorem Ash:Go.Proofs.Lays.n170 Tryz.prog Asg:=
 {
  mixed:=by kernel_rfl,
  f170:=Eq.trans Tryz.func49 (Ax some (by kernel_rfl)),
  t0:=Tryz.underlying0,
  a0:=Tryz.isAgg0,
  z0:=Tryz.sizeOf0,
  v0:=Tryz.zeroValue0,
  t3:=Tryz.underlying3,
  a3:=Tryz.isAgg3,
  z3:=Tryz.sizeOf3,
  v3:=Tryz.zeroValue3,
  t37:=Tryz.underlying114,
  a37:=Tryz.isAgg114,
  z37:=Tryz.sizeOf114,
  v37:=Tryz.zeroValue114,
  t70:=Tryz.underlying113,
  a70:=Tryz.isAgg113,
  z70:=Tryz.sizeOf113,
  v70:=Tryz.zeroValue113,
  t72:=Tryz.underlying116,
  a72:=Tryz.isAgg116,
  z72:=Tryz.sizeOf116,
  v72:=Tryz.zeroValue116}
def AeN:BldF:=⟨116,5,2⟩
theorem Asi:BldOk Tryz.prog 49 AeN:=
 Ary Ash rfl rfl rfl ⟨_,Tryz.func49,by kernel_rfl,by kernel_rfl⟩
noncomputable def Asj:En:=⟨_,.bld AeN,Asi⟩
def Ask:Shelf.Ren:=
   {
   f:=λx=>
    match x with
    |169=>50
    |n=>n,
   t:=λx=>
    match x with
    |70=>113
    |9=>9
    |0=>0
    |72=>116
    |37=>114
    |127=>164
    |3=>3
    |5=>5
    |n=>n,
   g:=λx=>x}
theorem Asl:Go.Proofs.Lays.n169 Tryz.prog Ask:=
 {
  mixed:=by kernel_rfl,
  f169:=Eq.trans Tryz.func50 (Ax some (by kernel_rfl)),
  t0:=Tryz.underlying0,
  a0:=Tryz.isAgg0,
  z0:=Tryz.sizeOf0,
  v0:=Tryz.zeroValue0,
  t3:=Tryz.underlying3,
  a3:=Tryz.isAgg3,
  z3:=Tryz.sizeOf3,
  v3:=Tryz.zeroValue3,
  t9:=Tryz.underlying9,
  a9:=Tryz.isAgg9,
  z9:=Tryz.sizeOf9,
  v9:=Tryz.zeroValue9,
  t37:=Tryz.underlying114,
  a37:=Tryz.isAgg114,
  z37:=Tryz.sizeOf114,
  v37:=Tryz.zeroValue114,
  t70:=Tryz.underlying113,
  a70:=Tryz.isAgg113,
  z70:=Tryz.sizeOf113,
  v70:=Tryz.zeroValue113,
  t72:=Tryz.underlying116,
  a72:=Tryz.isAgg116,
  z72:=Tryz.sizeOf116,
  v72:=Tryz.zeroValue116,
  t127:=Tryz.underlying164,
  a127:=Tryz.isAgg164,
  z127:=Tryz.sizeOf164,
  v127:=Tryz.zeroValue164}
def AeO:BldF:=⟨116,5,1⟩
theorem Asm:BldOk Tryz.prog 50 AeO:=
 Arx Asl {sizeBuilder:=by kernel_rfl,liesBuilder:=by kernel_rfl,t5:=Tryz.underlying5,a5:=Tryz.isAgg5,z5:=Tryz.sizeOf5,v5:=Tryz.zeroValue5,infoByte:=by kernel_rfl,cellsByte:=by kernel_rfl,sizeByte:=by kernel_rfl,neB5:=by decide} rfl rfl rfl ⟨_,Tryz.func50,by kernel_rfl,by kernel_rfl⟩
noncomputable def Asn:En:=⟨_,.bld AeO,Asm⟩
def Aso:Shelf.Ren:=
   {
   f:=λx=>
    match x with
    |146=>51
    |221=>104
    |268=>158
    |138=>159
    |143=>160
    |195=>188
    |197=>189
    |218=>190
    |219=>191
    |260=>217
    |217=>218
    |225=>219
    |224=>220
    |267=>221
    |266=>236
    |314=>237
    |n=>n,
   t:=λx=>
    match x with
    |9=>9
    |31=>54
    |3=>3
    |4=>4
    |0=>0
    |105=>243
    |21=>21
    |5=>5
    |46=>271
    |119=>218
    |139=>294
    |138=>293
    |146=>295
    |51=>249
    |n=>n,
   g:=λx=>
    match x with
    |1=>2
    |3=>3
    |4=>4
    |n=>n}
theorem Asp:Go.Proofs.Lays.n146 Tryz.prog Aso:=
 {
  mixed:=by kernel_rfl,
  f138:=Eq.trans Tryz.func159 (Ax some (by kernel_rfl)),
  f143:=Eq.trans Tryz.func160 (Ax some (by kernel_rfl)),
  f146:=Eq.trans Tryz.func51 (Ax some (by kernel_rfl)),
  f195:=Eq.trans Tryz.func188 (Ax some (by kernel_rfl)),
  f197:=Eq.trans Tryz.func189 (Ax some (by kernel_rfl)),
  f217:=Eq.trans Tryz.func218 (Ax some (by kernel_rfl)),
  f218:=Eq.trans Tryz.func190 (Ax some (by kernel_rfl)),
  f219:=Eq.trans Tryz.func191 (Ax some (by kernel_rfl)),
  f221:=Eq.trans Tryz.func104 (Ax some (by kernel_rfl)),
  f224:=Eq.trans Tryz.func220 (Ax some (by kernel_rfl)),
  f225:=Eq.trans Tryz.func219 (Ax some (by kernel_rfl)),
  f260:=Eq.trans Tryz.func217 (Ax some (by kernel_rfl)),
  f266:=Eq.trans Tryz.func236 (Ax some (by kernel_rfl)),
  f267:=Eq.trans Tryz.func221 (Ax some (by kernel_rfl)),
  f268:=Eq.trans Tryz.func158 (Ax some (by kernel_rfl)),
  f314:=Eq.trans Tryz.func237 (Ax some (by kernel_rfl)),
  t0:=Tryz.underlying0,
  a0:=Tryz.isAgg0,
  z0:=Tryz.sizeOf0,
  v0:=Tryz.zeroValue0,
  t3:=Tryz.underlying3,
  a3:=Tryz.isAgg3,
  z3:=Tryz.sizeOf3,
  v3:=Tryz.zeroValue3,
  t4:=Tryz.underlying4,
  a4:=Tryz.isAgg4,
  z4:=Tryz.sizeOf4,
  v4:=Tryz.zeroValue4,
  t5:=Tryz.underlying5,
  a5:=Tryz.isAgg5,
  z5:=Tryz.sizeOf5,
  v5:=Tryz.zeroValue5,
  t9:=Tryz.underlying9,
  a9:=Tryz.isAgg9,
  z9:=Tryz.sizeOf9,
  v9:=Tryz.zeroValue9,
  t21:=Tryz.underlying21,
  a21:=Tryz.isAgg21,
  z21:=Tryz.sizeOf21,
  v21:=Tryz.zeroValue21,
  t31:=Tryz.underlying54,
  a31:=Tryz.isAgg54,
  z31:=Tryz.sizeOf54,
  v31:=Tryz.zeroValue54,
  t46:=Tryz.underlying271,
  a46:=Tryz.isAgg271,
  z46:=Tryz.sizeOf271,
  v46:=Tryz.zeroValue271,
  t51:=Tryz.underlying249,
  a51:=Tryz.isAgg249,
  z51:=Tryz.sizeOf249,
  v51:=Tryz.zeroValue249,
  t105:=Tryz.underlying243,
  a105:=Tryz.isAgg243,
  z105:=Tryz.sizeOf243,
  v105:=Tryz.zeroValue243,
  t119:=Tryz.underlying218,
  a119:=Tryz.isAgg218,
  z119:=Tryz.sizeOf218,
  t138:=Tryz.underlying293,
  a138:=Tryz.isAgg293,
  z138:=Tryz.sizeOf293,
  v138:=Tryz.zeroValue293,
  t139:=Tryz.underlying294,
  a139:=Tryz.isAgg294,
  z139:=Tryz.sizeOf294,
  v139:=Tryz.zeroValue294,
  t146:=Tryz.underlying295,
  a146:=Tryz.isAgg295,
  z146:=Tryz.sizeOf295,
  v146:=Tryz.zeroValue295,
  g1:=by kernel_rfl,
  g3:=by kernel_rfl,
  g4:=by kernel_rfl}
abbrev AeP:=YQ
def Asq(c:AeP):Spec:=Aec 9 c
def QN:AeP:=λx y k=>QG x y k
theorem Asr:SpecOk Tryz.prog 51 (Asq QN):=
 Ark Asp rfl rfl (by kernel_rfl) (Bv (by kernel_rfl)) (λw0 h0=>Go.Proofs.cell_of_shapedOpen_int (P:=Tryz.prog) (g:=2) (t:=3) (zero:=#[.int .i64 0]) h0 (Bv (by kernel_rfl)) (by kernel_rfl) rfl (by kernel_rfl) (by kernel_rfl) Tryz.underlying3) ⟨_,Tryz.func51,by kernel_rfl,by kernel_rfl⟩
noncomputable def AeQ:En:=.of Asr
abbrev Ass:={β:Type}->AK->(AJ->Option β)->Option β
def oH:Ass:=hid λz k=>k z.1
noncomputable def Ast:En:=⟨54,.spec (sg [IU] [] [BR] [] oH),pf [] [] [.tmp 2] Tryz.func54⟩
abbrev Asu:={β:Type}->Bh->(AJ->Option β)->Option β
def oI:Asu:=hid λx k=>k x.1
noncomputable def Asv:En:=⟨59,.spec (sg [O7] [] [BR] [] oI),pf [] [] [.tmp 2] Tryz.func59⟩
abbrev Asw:={β:Type}->By->(AJ->Option β)->Option β
def oJ:Asw:=hid λs k=>k s.1
noncomputable def Asx:En:=⟨63,.spec (sg [Tv] [] [BR] [] oJ),pf [] [] [.tmp 2] Tryz.func63⟩
abbrev Asy:={β:Type}->Int->(BV->Option β)->Option β
def T9:Asy:=hid λn k=>k (4,(([]:List UInt8),n))
noncomputable def Asz:En:=⟨66,.spec (sg [Ab] [] [IT] [] T9),pf [] [] [.cell 2 85] Tryz.func66⟩
abbrev AsA:={β:Type}->Int->(BV->Option β)->Option β
def LW:AsA:=hid λn k=>k (1,(([]:List UInt8),n))
noncomputable def oK:En:=⟨67,.spec (sg [Ab] [] [IT] [] LW),pf [] [] [.cell 2 85] Tryz.func67⟩
abbrev AsB:={β:Type}->Int->(BV->Option β)->Option β
def QO:AsB:=hid λn k=>let l:=([([109,111,110]:List UInt8),([116,117,101]:List UInt8),([119,101,100]:List UInt8),([116,104,117]:List UInt8),([102,114,105]:List UInt8),([115,97,116]:List UInt8),([115,117,110]:List UInt8)]:List AJ);cond (decide (0<=n)&&decide (n<(List.length l:Int))) (FK (List.getD l (Int.toNat n) ([]:List UInt8)) (λDG=>k DG)) none
noncomputable def AeR:En:=⟨68,.spec (sg [Ab] [] [IT] [] QO),pf [IW] [] [.cell 2 85] Tryz.func68⟩
abbrev AsC:={β:Type}->Int->(BV->Option β)->Option β
def Ni:AsC:=hid λn k=>k (2,(([]:List UInt8),n))
noncomputable def oL:En:=⟨69,.spec (sg [Ab] [] [IT] [] Ni),pf [] [] [.cell 2 85] Tryz.func69⟩
abbrev AsD:={β:Type}->Int->AF->AD->AE->AI->Ca->(BV->AF->AD->AE->AI->Ca->Option β)->Option β
def OD:AsD:=hid λi_ w w2 w3 w4 Am k=>cond (decide (0<=i_)&&decide (i_<(List.length w:Int))) (let e:=List.getD w (Int.toNat i_) (([]:List UInt8),(0,([]:List BZ)));FK e.1 (λDG=>k DG w w2 w3 w4 Am)) none
theorem AsE:SpecOkB Tryz.prog 70 (sg [AA,Ab] Ep [IT] Ep OD):=FG mixed (X:=⟨look tab,gam [IW],false,false,false,false,FJ,none,0,[]⟩) BC [IW] rfl [] [.cell 4 85] Tryz.func70 (by kernel_rfl) λ_ _=>by kernel_rfl
noncomputable def Zf:En:=.handf AsE rfl (by kernel_rfl)
noncomputable def AeS:En:=.inl mixed (X:=⟨look tab,gam ([]:List En),false,false,false,false,[],none,0,[]⟩) (rs:=[.tmp 4]) BC ([]:List En) rfl 2 Tryz.func72 (by kernel_rfl)
abbrev AsF:={β:Type}->Int->AF->AD->AE->AI->Ca->(BV->AF->AD->AE->AI->Ca->Option β)->Option β
def G9:AsF:=hid λi_ w w2 w3 w4 Am k=>cond (decide (i_<0)) (FK ([110,111,98,111,100,121]:List UInt8) (λDG=>k DG w w2 w3 w4 Am)) (cond (decide (0<=i_)&&decide (i_<(List.length w2:Int))) (let e:=List.getD w2 (Int.toNat i_) (([]:List UInt8),(0,(([]:List BJ),(0,(0,false)))));FK e.1 (λDG=>k DG w w2 w3 w4 Am)) none)
theorem AsG:SpecOkB Tryz.prog 75 (sg [AA,Ab] Ep [IT] Ep G9):=FG mixed (X:=⟨look tab,gam [IW],false,false,false,false,FJ,none,0,[]⟩) BC [IW] rfl [] [.cell 4 85] Tryz.func75 (by kernel_rfl) λ_ _=>by kernel_rfl
noncomputable def oM:En:=.handf AsG rfl (by kernel_rfl)
noncomputable def AsH:En:=.inl mixed (X:=⟨look tab,gam [oM],false,false,false,false,[],none,13,[]⟩) (rs:=[.tmp 4]) BC [oM] rfl 13 Tryz.func73 (by kernel_rfl)
abbrev AsI:={β:Type}->Int->(BV->Option β)->Option β
def QP:AsI:=hid λn k=>k (3,(([]:List UInt8),n))
noncomputable def AeT:En:=⟨74,.spec (sg [Ab] [] [IT] [] QP),pf [] [] [.cell 2 85] Tryz.func74⟩
abbrev AsJ:={β:Type}->Int->(BV->Option β)->Option β
def TA:AsJ:=hid λn k=>k (5,(([]:List UInt8),n))
noncomputable def AsK:En:=⟨76,.spec (sg [Ab] [] [IT] [] TA),pf [] [] [.cell 2 85] Tryz.func76⟩
abbrev AsL:={β:Type}->CN->AF->AD->AE->AI->(Int->AF->AD->AE->AI->Option β)->Option β
def TB:AsL:=hid λl Am AB AG Aq k=>cond (decide (0<=(1:Int))&&decide ((1:Int)<(List.length l:Int))) (let e:=List.getD l (Int.toNat 1) (0,(([]:List UInt8),0));cond (decide (0<=(2:Int))&&decide ((2:Int)<(List.length l:Int))) (let e2:=List.getD l (Int.toNat 2) (0,(([]:List UInt8),0));let l2:=([(e.2.1,(e2.2.2,([]:List BZ)))]:List AK);cond (true&&decide ((List.length Am+List.length l2)*48<=Bl)) (let l3:=(Am++l2);k 0 l3 AB AG Aq) none) none) none
theorem AsM:SpecOkB Tryz.prog 77 (sg [AA,DS] El [Ab] El TB):=FG mixed (X:=⟨look tab,gam ([]:List En),false,false,false,false,Dv,none,0,[]⟩) BC [] rfl [] [.tmp 4] Tryz.func77 (by kernel_rfl) λ_ _=>by kernel_rfl
noncomputable def AsN:En:=.hand AsM rfl (by kernel_rfl)
abbrev AsO:={β:Type}->CN->AF->AD->AE->AI->(Int->AF->AD->AE->AI->Option β)->Option β
def TC:AsO:=hid λl Am AB AG Aq k=>cond (decide (0<=(1:Int))&&decide ((1:Int)<(List.length l:Int))) (let e:=List.getD l (Int.toNat 1) (0,(([]:List UInt8),0));let l2:=([(e.2.1,(([]:List AU),([]:List BA)))]:List By);cond (true&&decide ((List.length Aq+List.length l2)*64<=Bl)) (let l3:=(Aq++l2);k 0 Am AB AG l3) none) none
theorem AsP:SpecOkB Tryz.prog 83 (sg [AA,DS] El [Ab] El TC):=FG mixed (X:=⟨look tab,gam ([]:List En),false,false,false,false,Dv,none,0,[]⟩) BC [] rfl [] [.tmp 4] Tryz.func83 (by kernel_rfl) λ_ _=>by kernel_rfl
noncomputable def AsQ:En:=.hand AsP rfl (by kernel_rfl)
abbrev AsR:={β:Type}->G7->G7->(Bool->Option β)->Option β
abbrev AeU(β:Type):=Bool->Option β
abbrev AeV(β:Type):=Unit->Option β
abbrev oN(β:Type):=G7->G7->Int->Int->Option β
noncomputable def AeW:Pc:=⟨26,0,AL 58 (Ay Tryz.f91),⟨0,[0,1,12,13],[GP,GP,Ab,Ab],[]⟩,[(.ret,⟨0,[4],[AS],[]⟩),(.exit 0,⟨0,[],[],[]⟩)]⟩
def Zg{β:Type}(rec:oN β)(k1:AeU β)(k2:AeV β):oN β:=λs1 s2 K7 BI=>cond (decide (BI<K7)) (cond (decide (0<=BI)&&decide (BI<(List.length s1:Int))) (let e:=List.getD s1 (Int.toNat BI) (0,(0,(0,(0,(0,(0,0))))));cond (decide (0<=BI)&&decide (BI<(List.length s2:Int))) (let e2:=List.getD s2 (Int.toNat BI) (0,(0,(0,(0,(0,(0,0))))));cond (!(decide (e.1=e2.1)&&(decide (e.2.1=e2.2.1)&&(decide (e.2.2.1=e2.2.2.1)&&(decide (e.2.2.2.1=e2.2.2.2.1)&&(decide (e.2.2.2.2.1=e2.2.2.2.2.1)&&(decide (e.2.2.2.2.2.1=e2.2.2.2.2.2.1)&&(decide (e.2.2.2.2.2.2=e2.2.2.2.2.2.2)&&true)))))))) (k1 false) (rec s1 s2 K7 (IntKind.i64.wrap (BI+(1:Int))))) none) none) (k2 ())
def TD(m:Nat){β:Type}(k1:AeU β)(k2:AeV β):oN β:=DT (λr=>Zg r k1 k2) none m
theorem AeX{β:Type}(i:Nat)(k1 k2):TD (β:=β) (i+1) k1 k2=Zg (TD i k1 k2) k1 k2:=rfl
def oO{β:Type}:=hid (TD (β:=β) fuel)
noncomputable def AsS:Pb:=⟨58,AeW,λ_=>oO,pl (p:=AeW) [] [] (g:=λi _=>TD i)⟩
def Zh:AsR:=hid λs1 s2 k=>cond (!decide ((List.length s1:Int)=(List.length s2:Int))) (k false) (oO (λt4=>k t4) (λ_=>k true) s1 s2 (List.length s1:Int) 0)
noncomputable def AsT:En:=⟨91,.spec (sg [GP,GP] [] [AS] [] Zh),pf [] [AsS] [.tmp 4] Tryz.func91⟩
abbrev AsU:={β:Type}->BP->BP->(Bool->Option β)->Option β
abbrev AeY(β:Type):=Bool->Option β
abbrev AeZ(β:Type):=Unit->Option β
abbrev oP(β:Type):=BP->BP->Int->Int->Option β
noncomputable def Af0:Pc:=⟨26,0,AL 58 (Ay Tryz.f92),⟨0,[0,1,12,13],[Ia,Ia,Ab,Ab],[]⟩,[(.ret,⟨0,[4],[AS],[]⟩),(.exit 0,⟨0,[],[],[]⟩)]⟩
def Zi{β:Type}(rec:oP β)(k1:AeY β)(k2:AeZ β):oP β:=λs1 s2 K7 BI=>cond (decide (BI<K7)) (cond (decide (0<=BI)&&decide (BI<(List.length s1:Int))) (let e:=List.getD s1 (Int.toNat BI) (0,0);cond (decide (0<=BI)&&decide (BI<(List.length s2:Int))) (let e2:=List.getD s2 (Int.toNat BI) (0,0);cond (!(decide (e.1=e2.1)&&(decide (e.2=e2.2)&&true))) (k1 false) (rec s1 s2 K7 (IntKind.i64.wrap (BI+(1:Int))))) none) none) (k2 ())
def TE(m:Nat){β:Type}(k1:AeY β)(k2:AeZ β):oP β:=DT (λr=>Zi r k1 k2) none m
theorem Af1{β:Type}(i:Nat)(k1 k2):TE (β:=β) (i+1) k1 k2=Zi (TE i k1 k2) k1 k2:=rfl
def oQ{β:Type}:=hid (TE (β:=β) fuel)
noncomputable def AsV:Pb:=⟨58,Af0,λ_=>oQ,pl (p:=Af0) [] [] (g:=λi _=>TE i)⟩
def TF:AsU:=hid λs1 s2 k=>cond (!decide ((List.length s1:Int)=(List.length s2:Int))) (k false) (oQ (λt4=>k t4) (λ_=>k true) s1 s2 (List.length s1:Int) 0)
noncomputable def Af2:En:=⟨92,.spec (sg [Ia,Ia] [] [AS] [] TF),pf [] [AsV] [.tmp 4] Tryz.func92⟩
abbrev AsW:={β:Type}->De->De->(Bool->Option β)->Option β
abbrev Af3(β:Type):=Bool->Option β
abbrev Af4(β:Type):=Unit->Option β
abbrev oS(β:Type):=De->De->Int->Int->Option β
noncomputable def Af5:Pc:=⟨26,0,AL 58 (Ay Tryz.f93),⟨0,[0,1,12,13],[Hl,Hl,Ab,Ab],[]⟩,[(.ret,⟨0,[4],[AS],[]⟩),(.exit 0,⟨0,[],[],[]⟩)]⟩
def Zj{β:Type}(rec:oS β)(k1:Af3 β)(k2:Af4 β):oS β:=λs1 s2 K7 BI=>cond (decide (BI<K7)) (cond (decide (0<=BI)&&decide (BI<(List.length s1:Int))) (let e:=List.getD s1 (Int.toNat BI) 0;cond (decide (0<=BI)&&decide (BI<(List.length s2:Int))) (let e2:=List.getD s2 (Int.toNat BI) 0;cond (!decide (e=e2)) (k1 false) (rec s1 s2 K7 (IntKind.i64.wrap (BI+(1:Int))))) none) none) (k2 ())
def TG(m:Nat){β:Type}(k1:Af3 β)(k2:Af4 β):oS β:=DT (λr=>Zj r k1 k2) none m
theorem Af6{β:Type}(i:Nat)(k1 k2):TG (β:=β) (i+1) k1 k2=Zj (TG i k1 k2) k1 k2:=rfl
def oU{β:Type}:=hid (TG (β:=β) fuel)
noncomputable def AsX:Pb:=⟨58,Af5,λ_=>oU,pl (p:=Af5) [] [] (g:=λi _=>TG i)⟩
def TH:AsW:=hid λs1 s2 k=>cond (!decide ((List.length s1:Int)=(List.length s2:Int))) (k false) (oU (λt4=>k t4) (λ_=>k true) s1 s2 (List.length s1:Int) 0)
noncomputable def Af7:En:=⟨93,.spec (sg [Hl,Hl] [] [AS] [] TH),pf [] [AsX] [.tmp 4] Tryz.func93⟩
abbrev AsY:={β:Type}->AU->AU->(Bool->Option β)->Option β
def Zk:AsY:=hid λa b k=>cond (decide (a.1=b.1)) (cond (decide (a.2.1=b.2.1)) (cond (decide (a.2.2.1.1=b.2.2.1.1)&&(decide (a.2.2.1.2=b.2.2.1.2)&&true)) (cond (decide (a.2.2.2.1=b.2.2.2.1)) (cond (decide (a.2.2.2.2.1=b.2.2.2.2.1)) (TH a.2.2.2.2.2.1 b.2.2.2.2.2.1 (λAbD=>cond AbD (TF a.2.2.2.2.2.2.1 b.2.2.2.2.2.2.1 (λAbL=>cond AbL (cond (decide (a.2.2.2.2.2.2.2.1=b.2.2.2.2.2.2.2.1)) (let t:=(decide (a.2.2.2.2.2.2.2.2=b.2.2.2.2.2.2.2.2));k t) (k false)) (k false))) (k false))) (k false)) (k false)) (k false)) (k false)) (k false)
noncomputable def AsZ:En:=⟨95,.spec (sg [Nh,Nh] [] [AS] [] Zk),pf [Af2,Af7] [] [.tmp 4] Tryz.func95⟩
abbrev At0:={β:Type}->(List BA)->(List BA)->(Bool->Option β)->Option β
abbrev Af8(β:Type):=Bool->Option β
abbrev Af9(β:Type):=Unit->Option β
abbrev oV(β:Type):=(List BA)->(List BA)->Int->Int->Option β
noncomputable def Afa:Pc:=⟨26,0,AL 58 (Ay Tryz.f96),⟨0,[0,1,12,13],[O3,O3,Ab,Ab],[]⟩,[(.ret,⟨0,[4],[AS],[]⟩),(.exit 0,⟨0,[],[],[]⟩)]⟩
def Zl{β:Type}(rec:oV β)(k1:Af8 β)(k2:Af9 β):oV β:=λs1 s2 K7 BI=>cond (decide (BI<K7)) (cond (decide (0<=BI)&&decide (BI<(List.length s1:Int))) (let e:=List.getD s1 (Int.toNat BI) (0,(0,(0,(0,0))));cond (decide (0<=BI)&&decide (BI<(List.length s2:Int))) (let e2:=List.getD s2 (Int.toNat BI) (0,(0,(0,(0,0))));cond (!(decide (e.1=e2.1)&&(decide (e.2.1=e2.2.1)&&(decide (e.2.2.1=e2.2.2.1)&&(decide (e.2.2.2.1=e2.2.2.2.1)&&(decide (e.2.2.2.2=e2.2.2.2.2)&&true)))))) (k1 false) (rec s1 s2 K7 (IntKind.i64.wrap (BI+(1:Int))))) none) none) (k2 ())
def TJ(m:Nat){β:Type}(k1:Af8 β)(k2:Af9 β):oV β:=DT (λr=>Zl r k1 k2) none m
theorem Afb{β:Type}(i:Nat)(k1 k2):TJ (β:=β) (i+1) k1 k2=Zl (TJ i k1 k2) k1 k2:=rfl
def oW{β:Type}:=hid (TJ (β:=β) fuel)
noncomputable def At1:Pb:=⟨58,Afa,λ_=>oW,pl (p:=Afa) [] [] (g:=λi _=>TJ i)⟩
def Zm:At0:=hid λs1 s2 k=>cond (!decide ((List.length s1:Int)=(List.length s2:Int))) (k false) (oW (λt4=>k t4) (λ_=>k true) s1 s2 (List.length s1:Int) 0)
noncomputable def At2:En:=⟨96,.spec (sg [O3,O3] [] [AS] [] Zm),pf [] [At1] [.tmp 4] Tryz.func96⟩
def At3:Shelf.Ren:=
   {
   f:=λx=>
    match x with
    |156=>102
    |165=>156
    |166=>48
    |169=>50
    |240=>103
    |241=>187
    |276=>157
    |277=>216
    |n=>n,
   t:=λx=>
    match x with
    |31=>54
    |9=>9
    |3=>3
    |4=>4
    |0=>0
    |20=>20
    |72=>116
    |76=>120
    |70=>113
    |37=>114
    |75=>119
    |127=>164
    |164=>214
    |5=>5
    |80=>122
    |n=>n,
   g:=λx=>x}
theorem At4:Go.Proofs.Lays.n156 Tryz.prog At3:=
 {
  mixed:=by kernel_rfl,
  f156:=Eq.trans Tryz.func102 (Ax some (by kernel_rfl)),
  f165:=Eq.trans Tryz.func156 (Ax some (by kernel_rfl)),
  f166:=Eq.trans Tryz.func48 (Ax some (by kernel_rfl)),
  f169:=Eq.trans Tryz.func50 (Ax some (by kernel_rfl)),
  f240:=Eq.trans Tryz.func103 (Ax some (by kernel_rfl)),
  f241:=Eq.trans Tryz.func187 (Ax some (by kernel_rfl)),
  f276:=Eq.trans Tryz.func157 (Ax some (by kernel_rfl)),
  f277:=Eq.trans Tryz.func216 (Ax some (by kernel_rfl)),
  t0:=Tryz.underlying0,
  a0:=Tryz.isAgg0,
  z0:=Tryz.sizeOf0,
  v0:=Tryz.zeroValue0,
  t3:=Tryz.underlying3,
  a3:=Tryz.isAgg3,
  z3:=Tryz.sizeOf3,
  v3:=Tryz.zeroValue3,
  t4:=Tryz.underlying4,
  a4:=Tryz.isAgg4,
  z4:=Tryz.sizeOf4,
  v4:=Tryz.zeroValue4,
  t9:=Tryz.underlying9,
  a9:=Tryz.isAgg9,
  z9:=Tryz.sizeOf9,
  v9:=Tryz.zeroValue9,
  t20:=Tryz.underlying20,
  a20:=Tryz.isAgg20,
  z20:=Tryz.sizeOf20,
  v20:=Tryz.zeroValue20,
  t31:=Tryz.underlying54,
  a31:=Tryz.isAgg54,
  z31:=Tryz.sizeOf54,
  v31:=Tryz.zeroValue54,
  t37:=Tryz.underlying114,
  a37:=Tryz.isAgg114,
  z37:=Tryz.sizeOf114,
  v37:=Tryz.zeroValue114,
  t70:=Tryz.underlying113,
  a70:=Tryz.isAgg113,
  z70:=Tryz.sizeOf113,
  v70:=Tryz.zeroValue113,
  t72:=Tryz.underlying116,
  a72:=Tryz.isAgg116,
  z72:=Tryz.sizeOf116,
  v72:=Tryz.zeroValue116,
  t75:=Tryz.underlying119,
  a75:=Tryz.isAgg119,
  z75:=Tryz.sizeOf119,
  v75:=Tryz.zeroValue119,
  t76:=Tryz.underlying120,
  a76:=Tryz.isAgg120,
  z76:=Tryz.sizeOf120,
  v76:=Tryz.zeroValue120,
  t127:=Tryz.underlying164,
  a127:=Tryz.isAgg164,
  z127:=Tryz.sizeOf164,
  v127:=Tryz.zeroValue164,
  t164:=Tryz.underlying214,
  a164:=Tryz.isAgg214,
  z164:=Tryz.sizeOf214,
  v164:=Tryz.zeroValue214}
def Afc:BldF:=⟨9,0,3⟩
theorem At5:BldOk Tryz.prog 102 Afc:=
 Arz At4 {sizeBuilder:=by kernel_rfl,liesBuilder:=by kernel_rfl,t5:=Tryz.underlying5,a5:=Tryz.isAgg5,z5:=Tryz.sizeOf5,v5:=Tryz.zeroValue5,infoByte:=by kernel_rfl,cellsByte:=by kernel_rfl,sizeByte:=by kernel_rfl,neB5:=by decide} rfl ⟨_,Tryz.func102,by kernel_rfl,by kernel_rfl⟩
noncomputable def At6:En:=⟨_,.bld Afc,At5⟩
def At7:Shelf.Ren:=
   {
   f:=λx=>
    match x with
    |145=>105
    |220=>161
    |219=>191
    |217=>218
    |225=>219
    |224=>220
    |267=>221
    |266=>236
    |314=>237
    |n=>n,
   t:=λx=>
    match x with
    |9=>9
    |4=>4
    |59=>166
    |3=>3
    |5=>5
    |46=>271
    |146=>295
    |51=>249
    |n=>n,
   g:=λx=>
    match x with
    |1=>2
    |n=>n}
theorem At8:Go.Proofs.Lays.n145 Tryz.prog At7:=
 {
  mixed:=by kernel_rfl,
  f145:=Eq.trans Tryz.func105 (Ax some (by kernel_rfl)),
  f217:=Eq.trans Tryz.func218 (Ax some (by kernel_rfl)),
  f219:=Eq.trans Tryz.func191 (Ax some (by kernel_rfl)),
  f220:=Eq.trans Tryz.func161 (Ax some (by kernel_rfl)),
  f224:=Eq.trans Tryz.func220 (Ax some (by kernel_rfl)),
  f225:=Eq.trans Tryz.func219 (Ax some (by kernel_rfl)),
  f266:=Eq.trans Tryz.func236 (Ax some (by kernel_rfl)),
  f267:=Eq.trans Tryz.func221 (Ax some (by kernel_rfl)),
  f314:=Eq.trans Tryz.func237 (Ax some (by kernel_rfl)),
  t3:=Tryz.underlying3,
  a3:=Tryz.isAgg3,
  z3:=Tryz.sizeOf3,
  v3:=Tryz.zeroValue3,
  t4:=Tryz.underlying4,
  a4:=Tryz.isAgg4,
  z4:=Tryz.sizeOf4,
  v4:=Tryz.zeroValue4,
  t5:=Tryz.underlying5,
  a5:=Tryz.isAgg5,
  z5:=Tryz.sizeOf5,
  v5:=Tryz.zeroValue5,
  t9:=Tryz.underlying9,
  a9:=Tryz.isAgg9,
  z9:=Tryz.sizeOf9,
  v9:=Tryz.zeroValue9,
  t46:=Tryz.underlying271,
  a46:=Tryz.isAgg271,
  z46:=Tryz.sizeOf271,
  v46:=Tryz.zeroValue271,
  t51:=Tryz.underlying249,
  a51:=Tryz.isAgg249,
  z51:=Tryz.sizeOf249,
  v51:=Tryz.zeroValue249,
  t59:=Tryz.underlying166,
  a59:=Tryz.isAgg166,
  z59:=Tryz.sizeOf166,
  v59:=Tryz.zeroValue166,
  t146:=Tryz.underlying295,
  a146:=Tryz.isAgg295,
  z146:=Tryz.sizeOf295,
  v146:=Tryz.zeroValue295,
  g1:=by kernel_rfl}
abbrev Afd:=cutT
def At9(c:Afd):Spec:=cutS c
def Afe:Afd:=λx y k=>cutF x y k
theorem Ata:SpecOk Tryz.prog 105 (At9 Afe):=
 Arf At8 rfl (Bv (by kernel_rfl)) (λw0 h0=>Go.Proofs.cell_of_shapedOpen_int (P:=Tryz.prog) (g:=2) (t:=3) (zero:=#[.int .i64 0]) h0 (Bv (by kernel_rfl)) (by kernel_rfl) rfl (by kernel_rfl) (by kernel_rfl) Tryz.underlying3) ⟨_,Tryz.func105,by kernel_rfl,by kernel_rfl⟩
noncomputable def Atb:En:=.of Ata
def oX:Shelf.Ren:=
   {
   f:=λx=>
    match x with
    |157=>106
    |229=>162
    |199=>163
    |261=>192
    |311=>222
    |312=>223
    |n=>n,
   t:=λx=>
    match x with
    |9=>9
    |31=>54
    |3=>3
    |5=>5
    |4=>4
    |119=>218
    |0=>0
    |40=>220
    |152=>246
    |21=>21
    |154=>248
    |51=>249
    |141=>251
    |196=>275
    |193=>272
    |198=>278
    |49=>276
    |194=>273
    |201=>281
    |226=>297
    |46=>271
    |227=>298
    |n=>n,
   g:=λx=>
    match x with
    |0=>0
    |6=>1
    |n=>n}
theorem Aff:Go.Proofs.Lays.n157 Tryz.prog oX:=
 {
  mixed:=by kernel_rfl,
  f157:=Eq.trans Tryz.func106 (Ax some (by kernel_rfl)),
  f199:=Eq.trans Tryz.func163 (Ax some (by kernel_rfl)),
  f229:=Eq.trans Tryz.func162 (Ax some (by kernel_rfl)),
  f261:=Eq.trans Tryz.func192 (Ax some (by kernel_rfl)),
  f311:=Eq.trans Tryz.func222 (Ax some (by kernel_rfl)),
  f312:=Eq.trans Tryz.func223 (Ax some (by kernel_rfl)),
  t0:=Tryz.underlying0,
  a0:=Tryz.isAgg0,
  z0:=Tryz.sizeOf0,
  v0:=Tryz.zeroValue0,
  t3:=Tryz.underlying3,
  a3:=Tryz.isAgg3,
  z3:=Tryz.sizeOf3,
  v3:=Tryz.zeroValue3,
  t4:=Tryz.underlying4,
  a4:=Tryz.isAgg4,
  z4:=Tryz.sizeOf4,
  v4:=Tryz.zeroValue4,
  t5:=Tryz.underlying5,
  a5:=Tryz.isAgg5,
  z5:=Tryz.sizeOf5,
  v5:=Tryz.zeroValue5,
  t9:=Tryz.underlying9,
  a9:=Tryz.isAgg9,
  z9:=Tryz.sizeOf9,
  v9:=Tryz.zeroValue9,
  t21:=Tryz.underlying21,
  a21:=Tryz.isAgg21,
  z21:=Tryz.sizeOf21,
  v21:=Tryz.zeroValue21,
  t31:=Tryz.underlying54,
  a31:=Tryz.isAgg54,
  z31:=Tryz.sizeOf54,
  v31:=Tryz.zeroValue54,
  t40:=Tryz.underlying220,
  a40:=Tryz.isAgg220,
  z40:=Tryz.sizeOf220,
  v40:=Tryz.zeroValue220,
  t46:=Tryz.underlying271,
  a46:=Tryz.isAgg271,
  z46:=Tryz.sizeOf271,
  v46:=Tryz.zeroValue271,
  t49:=Tryz.underlying276,
  a49:=Tryz.isAgg276,
  z49:=Tryz.sizeOf276,
  v49:=Tryz.zeroValue276,
  t51:=Tryz.underlying249,
  a51:=Tryz.isAgg249,
  z51:=Tryz.sizeOf249,
  v51:=Tryz.zeroValue249,
  t119:=Tryz.underlying218,
  a119:=Tryz.isAgg218,
  z119:=Tryz.sizeOf218,
  t141:=Tryz.underlying251,
  a141:=Tryz.isAgg251,
  z141:=Tryz.sizeOf251,
  v141:=Tryz.zeroValue251,
  t152:=Tryz.underlying246,
  a152:=Tryz.isAgg246,
  z152:=Tryz.sizeOf246,
  v152:=Tryz.zeroValue246,
  t154:=Tryz.underlying248,
  a154:=Tryz.isAgg248,
  z154:=Tryz.sizeOf248,
  v154:=Tryz.zeroValue248,
  t193:=Tryz.underlying272,
  a193:=Tryz.isAgg272,
  z193:=Tryz.sizeOf272,
  v193:=Tryz.zeroValue272,
  t194:=Tryz.underlying273,
  a194:=Tryz.isAgg273,
  z194:=Tryz.sizeOf273,
  v194:=Tryz.zeroValue273,
  t196:=Tryz.underlying275,
  a196:=Tryz.isAgg275,
  z196:=Tryz.sizeOf275,
  v196:=Tryz.zeroValue275,
  t198:=Tryz.underlying278,
  a198:=Tryz.isAgg278,
  z198:=Tryz.sizeOf278,
  v198:=Tryz.zeroValue278,
  t201:=Tryz.underlying281,
  a201:=Tryz.isAgg281,
  z201:=Tryz.sizeOf281,
  v201:=Tryz.zeroValue281,
  t226:=Tryz.underlying297,
  a226:=Tryz.isAgg297,
  z226:=Tryz.sizeOf297,
  v226:=Tryz.zeroValue297,
  t227:=Tryz.underlying298,
  a227:=Tryz.isAgg298,
  z227:=Tryz.sizeOf298,
  v227:=Tryz.zeroValue298,
  g0:=by kernel_rfl,
  g6:=by kernel_rfl}
abbrev Afg:=o0
def Atc(c:Afg):Spec:=Aee 9 c
def oY:Afg:=λx k=>o5 x k
theorem Atd:SpecOk Tryz.prog 106 (Atc oY):=
 Arn Aff rfl rfl (by kernel_rfl) (by kernel_rfl) (by kernel_rfl) (by kernel_rfl) ⟨_,Tryz.func106,by kernel_rfl,by kernel_rfl⟩
noncomputable def Afh:En:=.of Atd
abbrev Ate:={β:Type}->BZ->(Bool->Option β)->Option β
def oZ:Ate:=hid λr_ k=>let t:=(!decide ((Int.tmod r_.2.2.2.2.2.2 60)=0));k t
noncomputable def Atf:En:=⟨110,.spec (sg [(true,[.data Ke])] [] [AS] [] oZ),pf [] [] [.tmp 2] Tryz.func110⟩
abbrev Atg:={β:Type}->Int->Int->(Bool->Option β)->Option β
def KZ:Atg:=hid λi_ n k=>cond (decide ((0:Int)<=i_)) (k (decide (i_<n))) (k false)
noncomputable def TK:En:=⟨112,.spec (sg [Ab,Ab] [] [AS] [] KZ),pf [] [] [.tmp 4] Tryz.func112⟩
abbrev Ath:={β:Type}->BP->(Int->Option β)->Option β
abbrev Afi(β:Type):=Int->Option β
abbrev Afj(β:Type):=Unit->Option β
abbrev p5(β:Type):=BP->BP->Int->Int->Option β
noncomputable def p6:Pc:=⟨46,0,AL 58 (Ay Tryz.f113),⟨0,[0,8,9,10],[Ia,Ia,Ab,Ab],[]⟩,[(.ret,⟨0,[2],[Ab],[]⟩),(.exit 0,⟨0,[],[],[]⟩)]⟩
abbrev Ati(β:Type):=Int->Option β
abbrev Atj(β:Type):=BP->BP->Int->Int->Option β
abbrev Atk(β:Type):=BP->Int->BP->Int->Int->Bool->BJ->Option β
noncomputable def Afk:Pc:=⟨46,0,AL 229 (E5 p6.c),⟨0,[0,3,4,8,9,10,15],[Ia,Ab,AA,Ia,Ab,Ab,AS],[.cells 157 [.data (.prod (.int .i64) (.int .i64))]]⟩,[(.ret,⟨0,[2],[Ab],[]⟩),(.normal,⟨0,[0,8,9,10],[Ia,Ia,Ab,Ab],[]⟩)]⟩
def p7{β:Type}(k1:Ati β)(k2:Atj β):Atk β:=λl i_ t8 t9 Fj Bc w=>cond Bc (k1 1) (cond (decide ((0:Int)<i_)) (cond (decide (0<=(IntKind.i64.wrap (i_-1)))&&decide ((IntKind.i64.wrap (i_-1))<(List.length l:Int))) (let e:=List.getD l (Int.toNat (IntKind.i64.wrap (i_-1))) (0,0);cond (decide (w.1<e.2)) (k1 6) (k2 l t8 t9 Fj)) none) (k2 l t8 t9 Fj))
def QQ{β:Type}:=hid (p7 (β:=β))
noncomputable def Atl:Pb:=⟨229,Afk,λ_=>QQ,pe (p:=Afk) [] [] 229 (g:=λ_=>p7)⟩
def Zn{β:Type}(rec:p5 β)(k1:Afi β)(k2:Afj β):p5 β:=λl t8 t9 Fj=>cond (decide (Fj<t9)) (cond (decide (0<=Fj)&&decide (Fj<(List.length t8:Int))) (let e:=List.getD t8 (Int.toNat Fj) (0,0);cond (decide (e.1<(0:Int))) (QQ (λt2=>k1 t2) (λl2 Qa Qb PW=>rec l2 Qa Qb (IntKind.i64.wrap (PW+(1:Int)))) l Fj t8 t9 Fj true e) (cond (decide (e.2<=e.1)) (QQ (λt2=>k1 t2) (λl2 Qa Qb PW=>rec l2 Qa Qb (IntKind.i64.wrap (PW+(1:Int)))) l Fj t8 t9 Fj true e) (let t:=(decide ((604800:Int)<e.2));QQ (λt2=>k1 t2) (λl2 Qa Qb PW=>rec l2 Qa Qb (IntKind.i64.wrap (PW+(1:Int)))) l Fj t8 t9 Fj t e))) none) (k2 ())
def OE(m:Nat){β:Type}(k1:Afi β)(k2:Afj β):p5 β:=DT (λr=>Zn r k1 k2) none m
theorem Afl{β:Type}(i:Nat)(k1 k2):OE (β:=β) (i+1) k1 k2=Zn (OE i k1 k2) k1 k2:=rfl
def p8{β:Type}:=hid (OE (β:=β) fuel)
noncomputable def Atm:Pb:=⟨58,p6,λ_=>p8,pl (p:=p6) [] [Atl] (g:=λi _=>OE i)⟩
def TL:Ath:=hid λl k=>cond (decide ((14:Int)<(List.length l:Int))) (k 5) (p8 (λt2=>k t2) (λ_=>k 0) l l (List.length l:Int) 0)
noncomputable def Afm:En:=⟨113,.spec (sg [Ia] [] [Ab] [] TL),pf [] [Atm] [.tmp 2] Tryz.func113⟩
abbrev Atn:={β:Type}->AU->(AJ->Option β)->Option β
def p9:Atn:=hid λl k=>k l.1
noncomputable def Ato:En:=⟨119,.spec (sg [Nh] [] [BR] [] p9),pf [] [] [.tmp 2] Tryz.func119⟩
noncomputable def Afn:En:=.inl mixed (X:=⟨look tab,gam ([]:List En),false,false,false,false,Dv,none,0,[]⟩) (rs:=[.tmp 2]) BC ([]:List En) rfl 0 Tryz.func127 (by kernel_rfl)
noncomputable def Afo:En:=.inl mixed (X:=⟨look tab,gam ([]:List En),false,false,false,false,Dv,none,0,[]⟩) (rs:=[.tmp 2]) BC ([]:List En) rfl 0 Tryz.func128 (by kernel_rfl)
abbrev Atp:={β:Type}->AK->(AJ->Option β)->Option β
def pA:Atp:=hid λz k=>k z.1
noncomputable def Afp:En:=⟨175,.spec (sg [IU] [] [BR] [] pA),QF mixed (X:=⟨look tab,gam ([]:List En),false,false,false,false,Dv,none,0,[]⟩) BC [] rfl [] [.tmp 2] Tryz.func175 (by kernel_rfl) λ_ _=>by kernel_rfl⟩
noncomputable def Atq:En:=.inl mixed (X:=⟨look tab,gam [Afp],false,false,false,false,[],none,0,[]⟩) (rs:=[.tmp 4]) BC [Afp] rfl 1 Tryz.func205 (by kernel_rfl)
abbrev Atr:={β:Type}->AF->AJ->(Int->AJ->Option β)->Option β
noncomputable def Afq:List En:=[Atq]
abbrev Afr(β:Type):=Int->AJ->Option β
abbrev Afs(β:Type):=AJ->Option β
abbrev pB(β:Type):=AF->Int->Int->AJ->Option β
noncomputable def Aft:Pc:=⟨19,2,AL 26 (Ay Tryz.f204),⟨2,[0,1,7,8],[LT,(false,[.fn 205 [0,1]]),Ab,Ab],T4⟩,[(.ret,⟨2,[4],[Ab],T4⟩),(.exit 0,⟨2,[],[],T4⟩)]⟩
def Zo{β:Type}(rec:pB β)(k1:Afr β)(k2:Afs β):pB β:=λs t7 t8 Am=>cond (decide (t8<t7)) (cond (decide (0<=t8)&&decide (t8<(List.length s:Int))) (let e:=List.getD s (Int.toNat t8) (([]:List UInt8),(0,([]:List BZ)));pA e (λrzone1=>cond (decide (rzone1=Am)) (k1 t8 Am) (rec s t7 (IntKind.i64.wrap (t8+(1:Int))) Am))) none) (k2 Am)
def TM(m:Nat){β:Type}(k1:Afr β)(k2:Afs β):pB β:=DT (λr=>Zo r k1 k2) none m
theorem Afu{β:Type}(i:Nat)(k1 k2):TM (β:=β) (i+1) k1 k2=Zo (TM i k1 k2) k1 k2:=rfl
def pC{β:Type}:=hid (TM (β:=β) fuel)
noncomputable def Ats:Pb:=⟨26,Aft,λ_=>pC,pl (p:=Aft) Afq [] (g:=λi _=>TM i)⟩
def OG:Atr:=hid λs Am k=>pC (λt4 Bn=>k t4 Bn) (λBn=>k (-1) Bn) s (List.length s:Int) 0 Am
noncomputable def Afv:En:=⟨204,.spec (sg [LT,(false,[.fn 205 [0,1]])] T4 [Ab] T4 OG),pf Afq [Ats] [.tmp 4] Tryz.func204⟩
noncomputable def Afw:En:=.inl mixed (X:=⟨look tab,gam [Afv],false,false,false,false,[],none,0,[]⟩) (rs:=[.tmp 6,.tmp 7]) BC [Afv] rfl 2 Tryz.func174 (by kernel_rfl)
noncomputable def TN:En:=.inl mixed (X:=⟨look tab,gam [Afw],false,false,false,false,Dv,none,0,[]⟩) (rs:=[.tmp 4,.tmp 5]) BC [Afw] rfl 2 Tryz.func129 (by kernel_rfl)
abbrev Att:={β:Type}->Bool->(Int->Option β)->Option β
def IY:Att:=hid λok k=>cond (!ok) (k 3) (k 0)
noncomputable def LX:En:=⟨130,.spec (sg [AS] [] [Ab] [] IY),pf [] [] [.tmp 2] Tryz.func130⟩
noncomputable def Afx:En:=.inl mixed (X:=⟨look tab,gam ([]:List En),false,false,false,false,Dv,none,0,[]⟩) (rs:=[.tmp 2]) BC ([]:List En) rfl 0 Tryz.func132 (by kernel_rfl)
noncomputable def Afy:En:=.inl mixed (X:=⟨look tab,gam ([]:List En),false,false,false,false,Dv,none,0,[]⟩) (rs:=[.tmp 2]) BC ([]:List En) rfl 0 Tryz.func133 (by kernel_rfl)
noncomputable def Atu:En:=.inl mixed (X:=⟨look tab,gam ([]:List En),false,false,false,false,Dv,none,0,[]⟩) (rs:=[.tmp 2]) BC ([]:List En) rfl 0 Tryz.func134 (by kernel_rfl)
noncomputable def Atv:En:=.inl mixed (X:=⟨look tab,gam ([]:List En),false,false,false,false,Dv,none,0,[]⟩) (rs:=[.tmp 2]) BC ([]:List En) rfl 0 Tryz.func135 (by kernel_rfl)
abbrev Atw:={β:Type}->E6->AJ->(Int->Option β)->Option β
abbrev Afz(β:Type):=Int->Option β
abbrev AfA(β:Type):=Unit->Option β
abbrev pD(β:Type):=E6->AJ->Int->Int->Option β
noncomputable def AfB:Pc:=⟨19,0,AL 26 (Ay Tryz.f136),⟨0,[0,1,7,8],[YU,BR,Ab,Ab],[]⟩,[(.ret,⟨0,[4],[Ab],[]⟩),(.exit 0,⟨0,[],[],[]⟩)]⟩
def AfC{β:Type}(rec:pD β)(k1:Afz β)(k2:AfA β):pD β:=λs v t7 t8=>cond (decide (t8<t7)) (cond (decide (0<=t8)&&decide (t8<(List.length s:Int))) (let e:=List.getD s (Int.toNat t8) ([]:List UInt8);cond (decide (v=e)) (k1 t8) (rec s v t7 (IntKind.i64.wrap (t8+(1:Int))))) none) (k2 ())
def Zp(m:Nat){β:Type}(k1:Afz β)(k2:AfA β):pD β:=DT (λr=>AfC r k1 k2) none m
theorem AJH{β:Type}(i:Nat)(k1 k2):Zp (β:=β) (i+1) k1 k2=AfC (Zp i k1 k2) k1 k2:=rfl
def AfD{β:Type}:=hid (Zp (β:=β) fuel)
noncomputable def Atx:Pb:=⟨26,AfB,λ_=>AfD,pl (p:=AfB) [] [] (g:=λi _=>Zp i)⟩
def Nj:Atw:=hid λs v k=>AfD (λt4=>k t4) (λ_=>k (-1)) s v (List.length s:Int) 0
noncomputable def Zq:En:=⟨136,.spec (sg [YU,BR] [] [Ab] [] Nj),pf [] [Atx] [.tmp 4] Tryz.func136⟩
noncomputable def TO:En:=.inl mixed (X:=⟨look tab,gam ([]:List En),false,false,false,false,Dv,none,0,[]⟩) (rs:=[.tmp 2]) BC ([]:List En) rfl 0 Tryz.func137 (by kernel_rfl)
noncomputable def pE:En:=.inl mixed (X:=⟨look tab,gam ([]:List En),false,false,false,false,Dv,none,0,[]⟩) (rs:=[.tmp 2]) BC ([]:List En) rfl 0 Tryz.func138 (by kernel_rfl)
noncomputable def AfE:En:=.inl mixed (X:=⟨look tab,gam ([]:List En),false,false,false,false,Dv,none,0,[]⟩) (rs:=[.tmp 2]) BC ([]:List En) rfl 0 Tryz.func176 (by kernel_rfl)
noncomputable def TP:En:=.inl mixed (X:=⟨look tab,gam [AfE,TO],false,false,false,false,Dv,none,0,[]⟩) (rs:=[.tmp 2]) BC [AfE,TO] rfl 0 Tryz.func139 (by kernel_rfl)
noncomputable def TQ:En:=.inl mixed (X:=⟨look tab,gam ([]:List En),false,false,false,false,Dv,none,0,[]⟩) (rs:=[.tmp 2]) BC ([]:List En) rfl 0 Tryz.func140 (by kernel_rfl)
abbrev Aty:={β:Type}->Bh->(AJ->Option β)->Option β
def pF:Aty:=hid λc k=>k c.1
noncomputable def AfF:En:=⟨180,.spec (sg [O7] [] [BR] [] pF),QF mixed (X:=⟨look tab,gam ([]:List En),false,false,false,false,Dv,none,0,[]⟩) BC [] rfl [] [.tmp 2] Tryz.func180 (by kernel_rfl) λ_ _=>by kernel_rfl⟩
noncomputable def Atz:En:=.inl mixed (X:=⟨look tab,gam [AfF],false,false,false,false,[],none,0,[]⟩) (rs:=[.tmp 4]) BC [AfF] rfl 1 Tryz.func209 (by kernel_rfl)
abbrev AtA:={β:Type}->AE->AJ->(Int->AJ->Option β)->Option β
noncomputable def AfG:List En:=[Atz]
abbrev AfH(β:Type):=Int->AJ->Option β
abbrev AfI(β:Type):=AJ->Option β
abbrev pG(β:Type):=AE->Int->Int->AJ->Option β
noncomputable def AfJ:Pc:=⟨19,2,AL 26 (Ay Tryz.f208),⟨2,[0,1,7,8],[LS,(false,[.fn 209 [0,1]]),Ab,Ab],T3⟩,[(.ret,⟨2,[4],[Ab],T3⟩),(.exit 0,⟨2,[],[],T3⟩)]⟩
def Zr{β:Type}(rec:pG β)(k1:AfH β)(k2:AfI β):pG β:=λs t7 t8 Am=>cond (decide (t8<t7)) (cond (decide (0<=t8)&&decide (t8<(List.length s:Int))) (let e:=List.getD s (Int.toNat t8) (([]:List UInt8),(0,([]:List Int)));pF e (λrcalendar1=>let t:=(decide (rcalendar1=Am));cond t (k1 t8 Am) (rec s t7 (IntKind.i64.wrap (t8+(1:Int))) Am))) none) (k2 Am)
def TR(m:Nat){β:Type}(k1:AfH β)(k2:AfI β):pG β:=DT (λr=>Zr r k1 k2) none m
theorem AfK{β:Type}(i:Nat)(k1 k2):TR (β:=β) (i+1) k1 k2=Zr (TR i k1 k2) k1 k2:=rfl
def pH{β:Type}:=hid (TR (β:=β) fuel)
noncomputable def AtB:Pb:=⟨26,AfJ,λ_=>pH,pl (p:=AfJ) AfG [] (g:=λi _=>TR i)⟩
def TS:AtA:=hid λs Am k=>pH (λt4 Bn=>k t4 Bn) (λBn=>k (-1) Bn) s (List.length s:Int) 0 Am
noncomputable def AfL:En:=⟨208,.spec (sg [LS,(false,[.fn 209 [0,1]])] T3 [Ab] T3 TS),pf AfG [AtB] [.tmp 4] Tryz.func208⟩
noncomputable def AfM:En:=.inl mixed (X:=⟨look tab,gam [AfL],false,false,false,false,[],none,0,[]⟩) (rs:=[.tmp 6,.tmp 7]) BC [AfL] rfl 2 Tryz.func179 (by kernel_rfl)
noncomputable def AfN:En:=.inl mixed (X:=⟨look tab,gam [AfM],false,false,false,false,Dv,none,0,[]⟩) (rs:=[.tmp 4,.tmp 5]) BC [AfM] rfl 2 Tryz.func142 (by kernel_rfl)
abbrev AtC:={β:Type}->J9->AJ->(Bool->AJ->Option β)->Option β
def AfO:AtC:=hid λf t1 k=>k (decide (f.1=t1)) t1
noncomputable def AtD:En:=⟨144,.spec (sg [(true,[.data LQ]),AA] [KW] [AS] [KW] AfO),pf [] [] [.tmp 3] Tryz.func144⟩
abbrev AtE:={β:Type}->BV->AJ->(Bool->Option β)->Option β
def pI:AtE:=hid λt s k=>cond (decide (t.1=(0:Int))) (k (decide (t.2.1=s))) (k false)
noncomputable def AtF:En:=⟨145,.spec (sg [IT,BR] [] [AS] [] pI),pf [] [] [.tmp 4] Tryz.func145⟩
abbrev AtG:={β:Type}->AK->(Bool->Option β)->Option β
abbrev AfP(β:Type):=Bool->Option β
abbrev pJ(β:Type):=Bool->Int->AK->Option β
noncomputable def AfQ:Pc:=⟨28,0,AL 58 (Ay Tryz.f148),⟨0,[1,3,4],[AA,AS,Ab],[Ng]⟩,[(.exit 0,⟨0,[3],[AS],[]⟩)]⟩
def Zs{β:Type}(rec:pJ β)(k1:AfP β):pJ β:=λok i_ z=>cond (decide (i_<(List.length z.2.2:Int))) (cond ok (cond (decide (0<=i_)&&decide (i_<(List.length z.2.2:Int))) (let e:=List.getD z.2.2 (Int.toNat i_) (0,(0,(0,(0,(0,(0,0))))));let ok2:=(decide ((Int.tmod e.2.2.2.2.2.2 60)=0));let Bz:=(IntKind.i64.wrap (i_+1));rec ok2 Bz z) none) (let Bz:=(IntKind.i64.wrap (i_+1));rec false Bz z)) (k1 ok)
def TT(m:Nat){β:Type}(k1:AfP β):pJ β:=G8 (λr=>Zs r k1) none m
theorem AfR{β:Type}(i:Nat)(k1):TT (β:=β) (i+1) k1=Zs (TT i k1) k1:=rfl
def pK{β:Type}:=hid (TT (β:=β) fuel)
noncomputable def AtH:Pb:=⟨58,AfQ,λ_=>pK,pl (p:=AfQ) [] [] (g:=λi _=>TT i)⟩
def Zt:AtG:=hid λz k=>let ok:=(decide ((Int.tmod z.2.1 60)=0));pK (λok2=>k ok2) ok 0 z
noncomputable def AtI:En:=⟨148,.spec (sg [IU] [] [AS] [] Zt),pf [] [AtH] [.tmp 2] Tryz.func148⟩
abbrev AtJ:={β:Type}->Int->Int->Int->(Bool->Option β)->Option β
def Gq:AtJ:=hid λn lo hi k=>cond (decide (lo<=n)) (k (decide (n<=hi))) (k false)
noncomputable def TU:En:=⟨149,.spec (sg [Ab,Ab,Ab] [] [AS] [] Gq),pf [] [] [.tmp 6] Tryz.func149⟩
abbrev AtK:={β:Type}->BP->(Int->Option β)->Option β
abbrev AfS(β:Type):=Int->Option β
abbrev AfT(β:Type):=Unit->Option β
abbrev pL(β:Type):=BP->Int->Option β
noncomputable def AfU:Pc:=⟨56,0,AL 58 (Ay Tryz.f150),⟨0,[0,3],[Ia,Ab],[]⟩,[(.ret,⟨0,[2],[Ab],[]⟩),(.exit 0,⟨0,[],[],[]⟩)]⟩
def Zu{β:Type}(rec:pL β)(k1:AfS β)(k2:AfT β):pL β:=λl i_=>cond (decide (i_<(List.length l:Int))) (cond (decide (0<=i_)&&decide (i_<(List.length l:Int))) (let e:=List.getD l (Int.toNat i_) (0,0);cond (decide (e.1<(0:Int))) (k1 1) (cond (decide (0<=i_)&&decide (i_<(List.length l:Int))) (let e2:=List.getD l (Int.toNat i_) (0,0);cond (decide (0<=i_)&&decide (i_<(List.length l:Int))) (let e3:=List.getD l (Int.toNat i_) (0,0);cond (decide (e3.2<=e2.1)) (k1 1) (cond (decide (0<=i_)&&decide (i_<(List.length l:Int))) (let e4:=List.getD l (Int.toNat i_) (0,0);cond (decide ((604800:Int)<e4.2)) (k1 1) (cond (decide ((0:Int)<i_)) (cond (decide (0<=i_)&&decide (i_<(List.length l:Int))) (let e5:=List.getD l (Int.toNat i_) (0,0);cond (decide (0<=(IntKind.i64.wrap (i_-1)))&&decide ((IntKind.i64.wrap (i_-1))<(List.length l:Int))) (let e6:=List.getD l (Int.toNat (IntKind.i64.wrap (i_-1))) (0,0);cond (decide (e5.1<e6.2)) (k1 6) (let Bz:=(IntKind.i64.wrap (i_+1));rec l Bz)) none) none) (let Bz:=(IntKind.i64.wrap (i_+1));rec l Bz))) none)) none) none)) none) (k2 ())
def TV(m:Nat){β:Type}(k1:AfS β)(k2:AfT β):pL β:=YY (λr=>Zu r k1 k2) none m
theorem AfV{β:Type}(i:Nat)(k1 k2):TV (β:=β) (i+1) k1 k2=Zu (TV i k1 k2) k1 k2:=rfl
def pM{β:Type}:=hid (TV (β:=β) fuel)
noncomputable def AtL:Pb:=⟨58,AfU,λ_=>pM,pl (p:=AfU) [] [] (g:=λi _=>TV i)⟩
def TW:AtK:=hid λl k=>cond (decide ((14:Int)<(List.length l:Int))) (k 5) (pM (λt2=>k t2) (λ_=>k 0) l 0)
noncomputable def AfW:En:=⟨150,.spec (sg [Ia] [] [Ab] [] TW),pf [] [AtL] [.tmp 2] Tryz.func150⟩
abbrev AtM:={β:Type}->Int->(Bool->Option β)->Option β
def TX:AtM:=hid λn k=>Gq n 0 604800 (λD4=>cond D4 (let t:=(decide ((Int.tmod n 3600)=0));k t) (k false))
noncomputable def AtN:En:=⟨151,.spec (sg [Ab] [] [AS] [] TX),pf [TU] [] [.tmp 2] Tryz.func151⟩
abbrev AtO:={β:Type}->Int->(Bool->Option β)->Option β
def Nk:AtO:=hid λc k=>cond (decide ((97:Int)<=c)) (let t:=(decide (c<=122));k t) (k false)
noncomputable def AfX:En:=⟨167,.spec (sg [(false,[.data (.int .u8)])] [] [AS] [] Nk),pf [] [] [.tmp 2] Tryz.func167⟩
abbrev AtP:={β:Type}->Int->(Bool->Option β)->Option β
def OH:AtP:=hid λc k=>cond (decide ((48:Int)<=c)) (let t:=(decide (c<=57));k t) (k false)
noncomputable def AfY:En:=⟨168,.spec (sg [(false,[.data (.int .u8)])] [] [AS] [] OH),pf [] [] [.tmp 2] Tryz.func168⟩
abbrev AtQ:={β:Type}->Int->Int->Int->(Bool->Option β)->Option β
def LY:AtQ:=hid λn lo hi k=>cond (decide (lo<=n)) (k (decide (n<=hi))) (k false)
noncomputable def pN:En:=⟨169,.spec (sg [Ab,Ab,Ab] [] [AS] [] LY),pf [] [] [.tmp 6] Tryz.func169⟩
abbrev AtR:={β:Type}->Int->As->(Bool->As->Option β)->Option β
def pO:AtR:=hid λm t1 k=>KZ m (List.length t1.2.1:Int) (λGv=>k (!Gv) t1)
noncomputable def AtS:En:=⟨172,.spec (sg [Ab,AA] [Cj] [AS] [Cj] pO),pf [TK] [] [.tmp 3] Tryz.func172⟩
abbrev AtT:={β:Type}->AJ->AJ->(Int->Bool->Option β)->Option β
def Zv:AtT:=hid λwords word k=>oY words (λjC=>Nj jC word (λPO=>let t:=(IntKind.i64.wrap (PO+1));let t2:=(decide ((0:Int)<=PO));k t t2))
noncomputable def pP:En:=⟨173,.spec (sg [BR,BR] [] [Ab,AS] [] Zv),pf [Zq,Afh] [] [.tmp 4,.tmp 5] Tryz.func173⟩
abbrev AtU:={β:Type}->Bb->(AJ->Option β)->Option β
def pQ:AtU:=hid λp_ k=>k p_.1
noncomputable def AfZ:En:=⟨178,.spec (sg [Tw] [] [BR] [] pQ),pf [] [] [.tmp 2] Tryz.func178⟩
noncomputable def AtV:En:=.inl mixed (X:=⟨look tab,gam [AfZ],false,false,false,false,[],none,0,[]⟩) (rs:=[.tmp 4]) BC [AfZ] rfl 1 Tryz.func207 (by kernel_rfl)
abbrev AtW:={β:Type}->AD->AJ->(Int->AJ->Option β)->Option β
noncomputable def Ag0:List En:=[AtV]
abbrev Ag1(β:Type):=Int->AJ->Option β
abbrev Ag2(β:Type):=AJ->Option β
abbrev pR(β:Type):=AD->Int->Int->AJ->Option β
noncomputable def Ag3:Pc:=⟨19,2,AL 26 (Ay Tryz.f206),⟨2,[0,1,7,8],[KX,(false,[.fn 207 [0,1]]),Ab,Ab],T2⟩,[(.ret,⟨2,[4],[Ab],T2⟩),(.exit 0,⟨2,[],[],T2⟩)]⟩
def Zw{β:Type}(rec:pR β)(k1:Ag1 β)(k2:Ag2 β):pR β:=λs t7 t8 Am=>cond (decide (t8<t7)) (cond (decide (0<=t8)&&decide (t8<(List.length s:Int))) (let e:=List.getD s (Int.toNat t8) (([]:List UInt8),(0,(([]:List BJ),(0,(0,false)))));pQ e (λAJk=>let t:=(decide (AJk=Am));cond t (k1 t8 Am) (rec s t7 (IntKind.i64.wrap (t8+(1:Int))) Am))) none) (k2 Am)
def TY(m:Nat){β:Type}(k1:Ag1 β)(k2:Ag2 β):pR β:=DT (λr=>Zw r k1 k2) none m
theorem Ag4{β:Type}(i:Nat)(k1 k2):TY (β:=β) (i+1) k1 k2=Zw (TY i k1 k2) k1 k2:=rfl
def pS{β:Type}:=hid (TY (β:=β) fuel)
noncomputable def AtX:Pb:=⟨26,Ag3,λ_=>pS,pl (p:=Ag3) Ag0 [] (g:=λi _=>TY i)⟩
def pT:AtW:=hid λs Am k=>pS (λt4 Bn=>k t4 Bn) (λBn=>k (-1) Bn) s (List.length s:Int) 0 Am
noncomputable def Ag5:En:=⟨206,.spec (sg [KX,(false,[.fn 207 [0,1]])] T2 [Ab] T2 pT),pf Ag0 [AtX] [.tmp 4] Tryz.func206⟩
noncomputable def AtY:En:=.inl mixed (X:=⟨look tab,gam [Ag5],false,false,false,false,[],none,0,[]⟩) (rs:=[.tmp 6,.tmp 7]) BC [Ag5] rfl 2 Tryz.func177 (by kernel_rfl)
abbrev AtZ:={β:Type}->Int->(Int->Option β)->Option β
def TZ:AtZ:=hid λy k=>let t:=(IntKind.i64.wrap ((IntKind.i64.wrap ((IntKind.i64.wrap ((IntKind.i64.wrap ((IntKind.i64.wrap (y-1970))*365))+(IntKind.i64.wrap (Int.tdiv (IntKind.i64.wrap (y-1969)) 4))))-(IntKind.i64.wrap (Int.tdiv (IntKind.i64.wrap (y-1901)) 100))))+(IntKind.i64.wrap (Int.tdiv (IntKind.i64.wrap (y-1601)) 400))));k t
noncomputable def Ag6:En:=⟨183,.spec (sg [Ab] [] [Ab] [] TZ),pf [] [] [.tmp 2] Tryz.func183⟩
def Au0:Shelf.Ren:=
   {
   f:=λx=>
    match x with
    |171=>184
    |243=>214
    |246=>234
    |283=>247
    |284=>248
    |285=>249
    |286=>250
    |129=>263
    |317=>262
    |318=>264
    |319=>265
    |320=>266
    |337=>274
    |338=>275
    |n=>n,
   t:=λx=>
    match x with
    |3=>3
    |9=>9
    |2=>2
    |4=>4
    |171=>303
    |0=>0
    |53=>304
    |37=>114
    |5=>5
    |173=>307
    |212=>320
    |51=>249
    |20=>20
    |213=>321
    |46=>271
    |232=>337
    |233=>338
    |n=>n,
   g:=λx=>
    match x with
    |17=>5
    |18=>8
    |19=>9
    |n=>n}
theorem Au1:Go.Proofs.LaysM.n171 Tryz.prog Au0:=
 {
  mixed:=by kernel_rfl,
  f129:=Eq.trans Tryz.func263 (Ax some (by kernel_rfl)),
  f171:=Eq.trans Tryz.func184 (Ax some (by kernel_rfl)),
  f243:=Eq.trans Tryz.func214 (Ax some (by kernel_rfl)),
  f246:=Eq.trans Tryz.func234 (Ax some (by kernel_rfl)),
  f283:=Eq.trans Tryz.func247 (Ax some (by kernel_rfl)),
  f284:=Eq.trans Tryz.func248 (Ax some (by kernel_rfl)),
  f285:=Eq.trans Tryz.func249 (Ax some (by kernel_rfl)),
  f286:=Eq.trans Tryz.func250 (Ax some (by kernel_rfl)),
  f317:=Eq.trans Tryz.func262 (Ax some (by kernel_rfl)),
  f318:=Eq.trans Tryz.func264 (Ax some (by kernel_rfl)),
  f319:=Eq.trans Tryz.func265 (Ax some (by kernel_rfl)),
  f320:=Eq.trans Tryz.func266 (Ax some (by kernel_rfl)),
  f337:=Eq.trans Tryz.func274 (Ax some (by kernel_rfl)),
  f338:=Eq.trans Tryz.func275 (Ax some (by kernel_rfl)),
  t0:=Tryz.underlying0,
  a0:=Tryz.isAgg0,
  z0:=Tryz.sizeOf0,
  v0:=Tryz.zeroValue0,
  t2:=Tryz.underlying2,
  a2:=Tryz.isAgg2,
  z2:=Tryz.sizeOf2,
  v2:=Tryz.zeroValue2,
  t3:=Tryz.underlying3,
  a3:=Tryz.isAgg3,
  z3:=Tryz.sizeOf3,
  v3:=Tryz.zeroValue3,
  t4:=Tryz.underlying4,
  a4:=Tryz.isAgg4,
  z4:=Tryz.sizeOf4,
  v4:=Tryz.zeroValue4,
  t5:=Tryz.underlying5,
  a5:=Tryz.isAgg5,
  z5:=Tryz.sizeOf5,
  v5:=Tryz.zeroValue5,
  t9:=Tryz.underlying9,
  a9:=Tryz.isAgg9,
  z9:=Tryz.sizeOf9,
  v9:=Tryz.zeroValue9,
  t20:=Tryz.underlying20,
  a20:=Tryz.isAgg20,
  z20:=Tryz.sizeOf20,
  v20:=Tryz.zeroValue20,
  t37:=Tryz.underlying114,
  a37:=Tryz.isAgg114,
  z37:=Tryz.sizeOf114,
  v37:=Tryz.zeroValue114,
  t46:=Tryz.underlying271,
  a46:=Tryz.isAgg271,
  z46:=Tryz.sizeOf271,
  v46:=Tryz.zeroValue271,
  t51:=Tryz.underlying249,
  a51:=Tryz.isAgg249,
  z51:=Tryz.sizeOf249,
  v51:=Tryz.zeroValue249,
  t53:=Tryz.underlying304,
  a53:=Tryz.isAgg304,
  z53:=Tryz.sizeOf304,
  v53:=Tryz.zeroValue304,
  t171:=Tryz.underlying303,
  a171:=Tryz.isAgg303,
  z171:=Tryz.sizeOf303,
  v171:=Tryz.zeroValue303,
  t173:=Tryz.underlying307,
  a173:=Tryz.isAgg307,
  z173:=Tryz.sizeOf307,
  v173:=Tryz.zeroValue307,
  t212:=Tryz.underlying320,
  a212:=Tryz.isAgg320,
  z212:=Tryz.sizeOf320,
  v212:=Tryz.zeroValue320,
  t213:=Tryz.underlying321,
  a213:=Tryz.isAgg321,
  z213:=Tryz.sizeOf321,
  t232:=Tryz.underlying337,
  a232:=Tryz.isAgg337,
  z232:=Tryz.sizeOf337,
  v232:=Tryz.zeroValue337,
  t233:=Tryz.underlying338,
  a233:=Tryz.isAgg338,
  z233:=Tryz.sizeOf338,
  v233:=Tryz.zeroValue338,
  g17:=by kernel_rfl,
  g18:=by kernel_rfl,
  g19:=by kernel_rfl,
  i0:=by kernel_rfl,
  i2:=by kernel_rfl,
  i3:=by kernel_rfl,
  i4:=by kernel_rfl,
  i5:=by kernel_rfl,
  i9:=by kernel_rfl,
  i20:=by kernel_rfl,
  i37:=by kernel_rfl,
  i46:=by kernel_rfl,
  i51:=by kernel_rfl,
  i53:=by kernel_rfl,
  i171:=by kernel_rfl,
  i173:=by kernel_rfl,
  i212:=by kernel_rfl,
  i232:=by kernel_rfl,
  i233:=by kernel_rfl,
  m17:=by kernel_rfl,
  m18:=by kernel_rfl,
  m19:=by kernel_rfl}
abbrev Ag7:=nW
def Au2(c:Ag7):Spec:=Ae7 c
def Ua:Ag7:=λx k=>Tq x k
theorem Au3:SpecOk Tryz.prog 184 (Au2 Ua):=
 Arh Au1 rfl (g:=5) (by kernel_rfl) ⟨_,Tryz.func184,by kernel_rfl,by kernel_rfl⟩
noncomputable def Ag8:En:=.of Au3
def Au4:Shelf.Ren:=
   {
   f:=λx=>
    match x with
    |144=>194
    |143=>160
    |219=>191
    |217=>218
    |225=>219
    |224=>220
    |267=>221
    |266=>236
    |314=>237
    |n=>n,
   t:=λx=>
    match x with
    |9=>9
    |4=>4
    |3=>3
    |5=>5
    |46=>271
    |146=>295
    |51=>249
    |n=>n,
   g:=λx=>
    match x with
    |1=>2
    |n=>n}
theorem Au5:Go.Proofs.Lays.n144 Tryz.prog Au4:=
 {
  mixed:=by kernel_rfl,
  f143:=Eq.trans Tryz.func160 (Ax some (by kernel_rfl)),
  f144:=Eq.trans Tryz.func194 (Ax some (by kernel_rfl)),
  f217:=Eq.trans Tryz.func218 (Ax some (by kernel_rfl)),
  f219:=Eq.trans Tryz.func191 (Ax some (by kernel_rfl)),
  f224:=Eq.trans Tryz.func220 (Ax some (by kernel_rfl)),
  f225:=Eq.trans Tryz.func219 (Ax some (by kernel_rfl)),
  f266:=Eq.trans Tryz.func236 (Ax some (by kernel_rfl)),
  f267:=Eq.trans Tryz.func221 (Ax some (by kernel_rfl)),
  f314:=Eq.trans Tryz.func237 (Ax some (by kernel_rfl)),
  t3:=Tryz.underlying3,
  a3:=Tryz.isAgg3,
  z3:=Tryz.sizeOf3,
  v3:=Tryz.zeroValue3,
  t4:=Tryz.underlying4,
  a4:=Tryz.isAgg4,
  z4:=Tryz.sizeOf4,
  v4:=Tryz.zeroValue4,
  t5:=Tryz.underlying5,
  a5:=Tryz.isAgg5,
  z5:=Tryz.sizeOf5,
  v5:=Tryz.zeroValue5,
  t9:=Tryz.underlying9,
  a9:=Tryz.isAgg9,
  z9:=Tryz.sizeOf9,
  v9:=Tryz.zeroValue9,
  t46:=Tryz.underlying271,
  a46:=Tryz.isAgg271,
  z46:=Tryz.sizeOf271,
  v46:=Tryz.zeroValue271,
  t51:=Tryz.underlying249,
  a51:=Tryz.isAgg249,
  z51:=Tryz.sizeOf249,
  v51:=Tryz.zeroValue249,
  t146:=Tryz.underlying295,
  a146:=Tryz.isAgg295,
  z146:=Tryz.sizeOf295,
  v146:=Tryz.zeroValue295,
  g1:=by kernel_rfl}
abbrev Ag9:=nY
def Au6(c:Ag9):Spec:=Ae9 c
def QR:Ag9:=λx y k=>YP x y k
theorem Au7:SpecOk Tryz.prog 194 (Au6 QR):=
 Arj Au5 rfl (Bv (by kernel_rfl)) (λw0 h0=>Go.Proofs.cell_of_shapedOpen_int (P:=Tryz.prog) (g:=2) (t:=3) (zero:=#[.int .i64 0]) h0 (Bv (by kernel_rfl)) (by kernel_rfl) rfl (by kernel_rfl) (by kernel_rfl) Tryz.underlying3) ⟨_,Tryz.func194,by kernel_rfl,by kernel_rfl⟩
noncomputable def Au8:En:=.of Au7
abbrev Au9:={β:Type}->Int->Int->Int->(Bool->Option β)->Option β
def JC:Au9:=hid λn lo hi k=>cond (decide (lo<=n)) (k (decide (n<=hi))) (k false)
noncomputable def pU:En:=⟨200,.spec (sg [Ab,Ab,Ab] [] [AS] [] JC),pf [] [] [.tmp 6] Tryz.func200⟩
abbrev Aua:={β:Type}->Int->(Bool->Option β)->Option β
def QS:Aua:=hid λb k=>cond (decide ((48:Int)<=b)) (let t:=(decide (b<=57));k t) (k false)
noncomputable def Aub:En:=⟨210,.spec (sg [(false,[.data (.int .u8)])] [] [AS] [] QS),pf [] [] [.tmp 2] Tryz.func210⟩
abbrev Auc:={β:Type}->Int->Int->Int->(Bool->Option β)->Option β
def IZ:Auc:=hid λn lo hi k=>cond (decide (lo<=n)) (k (decide (n<=hi))) (k false)
noncomputable def Aga:En:=⟨211,.spec (sg [Ab,Ab,Ab] [] [AS] [] IZ),pf [] [] [.tmp 6] Tryz.func211⟩
abbrev Aud:={β:Type}->BZ->(Bool->Option β)->Option β
def Zx:Aud:=hid λr_ k=>IZ r_.1 1970 2240 (λD4=>cond D4 (IZ r_.2.1 r_.1 2240 (λJu=>cond Ju (IZ r_.2.2.1 1 12 (λJv=>cond Jv (IZ r_.2.2.2.1 1 5 (λX2=>cond X2 (IZ r_.2.2.2.2.1 0 6 (λX3=>cond X3 (IZ r_.2.2.2.2.2.1 0 86399 (λAbO=>cond AbO (IZ r_.2.2.2.2.2.2 (-64800) 64800 (λAbP=>k AbP)) (k false))) (k false))) (k false))) (k false))) (k false))) (k false))
noncomputable def Aue:En:=⟨212,.spec (sg [(true,[.data Ke])] [] [AS] [] Zx),pf [Aga] [] [.tmp 2] Tryz.func212⟩
def Auf:Shelf.Ren:=
   {
   f:=λx=>
    match x with
    |172=>226
    |244=>240
    |245=>241
    |247=>253
    |279=>254
    |280=>255
    |281=>256
    |282=>257
    |287=>270
    |316=>271
    |171=>184
    |205=>272
    |321=>276
    |322=>277
    |243=>214
    |246=>234
    |283=>247
    |284=>248
    |285=>249
    |286=>250
    |129=>263
    |317=>262
    |318=>264
    |319=>265
    |320=>266
    |337=>274
    |338=>275
    |n=>n,
   t:=λx=>
    match x with
    |9=>9
    |3=>3
    |75=>119
    |76=>120
    |4=>4
    |5=>5
    |167=>311
    |37=>114
    |0=>0
    |85=>312
    |2=>2
    |168=>314
    |53=>304
    |175=>326
    |46=>271
    |210=>330
    |127=>164
    |145=>336
    |143=>334
    |21=>21
    |171=>303
    |173=>307
    |212=>320
    |51=>249
    |20=>20
    |213=>321
    |232=>337
    |233=>338
    |80=>122
    |n=>n,
   g:=λx=>
    match x with
    |15=>6
    |16=>7
    |17=>5
    |18=>8
    |19=>9
    |n=>n}
theorem Aug:Go.Proofs.LaysC.n172 Tryz.prog Auf:=
 {
  mixed:=by kernel_rfl,
  f129:=Eq.trans Tryz.func263 (Ax some (by kernel_rfl)),
  f171:=Eq.trans Tryz.func184 (Ax some (by kernel_rfl)),
  f172:=Eq.trans Tryz.func226 (Ax some (by kernel_rfl)),
  f205:=Eq.trans Tryz.func272 (Ax some (by kernel_rfl)),
  f243:=Eq.trans Tryz.func214 (Ax some (by kernel_rfl)),
  f244:=Eq.trans Tryz.func240 (Ax some (by kernel_rfl)),
  f245:=Eq.trans Tryz.func241 (Ax some (by kernel_rfl)),
  f246:=Eq.trans Tryz.func234 (Ax some (by kernel_rfl)),
  f247:=Eq.trans Tryz.func253 (Ax some (by kernel_rfl)),
  f279:=Eq.trans Tryz.func254 (Ax some (by kernel_rfl)),
  f280:=Eq.trans Tryz.func255 (Ax some (by kernel_rfl)),
  f281:=Eq.trans Tryz.func256 (Ax some (by kernel_rfl)),
  f282:=Eq.trans Tryz.func257 (Ax some (by kernel_rfl)),
  f283:=Eq.trans Tryz.func247 (Ax some (by kernel_rfl)),
  f284:=Eq.trans Tryz.func248 (Ax some (by kernel_rfl)),
  f285:=Eq.trans Tryz.func249 (Ax some (by kernel_rfl)),
  f286:=Eq.trans Tryz.func250 (Ax some (by kernel_rfl)),
  f287:=Eq.trans Tryz.func270 (Ax some (by kernel_rfl)),
  f316:=Eq.trans Tryz.func271 (Ax some (by kernel_rfl)),
  f317:=Eq.trans Tryz.func262 (Ax some (by kernel_rfl)),
  f318:=Eq.trans Tryz.func264 (Ax some (by kernel_rfl)),
  f319:=Eq.trans Tryz.func265 (Ax some (by kernel_rfl)),
  f320:=Eq.trans Tryz.func266 (Ax some (by kernel_rfl)),
  f321:=Eq.trans Tryz.func276 (Ax some (by kernel_rfl)),
  f322:=Eq.trans Tryz.func277 (Ax some (by kernel_rfl)),
  f337:=Eq.trans Tryz.func274 (Ax some (by kernel_rfl)),
  f338:=Eq.trans Tryz.func275 (Ax some (by kernel_rfl)),
  t0:=Tryz.underlying0,
  a0:=Tryz.isAgg0,
  z0:=Tryz.sizeOf0,
  v0:=Tryz.zeroValue0,
  t2:=Tryz.underlying2,
  a2:=Tryz.isAgg2,
  z2:=Tryz.sizeOf2,
  v2:=Tryz.zeroValue2,
  t3:=Tryz.underlying3,
  a3:=Tryz.isAgg3,
  z3:=Tryz.sizeOf3,
  v3:=Tryz.zeroValue3,
  t4:=Tryz.underlying4,
  a4:=Tryz.isAgg4,
  z4:=Tryz.sizeOf4,
  v4:=Tryz.zeroValue4,
  t5:=Tryz.underlying5,
  a5:=Tryz.isAgg5,
  z5:=Tryz.sizeOf5,
  v5:=Tryz.zeroValue5,
  t9:=Tryz.underlying9,
  a9:=Tryz.isAgg9,
  z9:=Tryz.sizeOf9,
  v9:=Tryz.zeroValue9,
  t20:=Tryz.underlying20,
  a20:=Tryz.isAgg20,
  z20:=Tryz.sizeOf20,
  v20:=Tryz.zeroValue20,
  t21:=Tryz.underlying21,
  a21:=Tryz.isAgg21,
  z21:=Tryz.sizeOf21,
  v21:=Tryz.zeroValue21,
  t37:=Tryz.underlying114,
  a37:=Tryz.isAgg114,
  z37:=Tryz.sizeOf114,
  v37:=Tryz.zeroValue114,
  t46:=Tryz.underlying271,
  a46:=Tryz.isAgg271,
  z46:=Tryz.sizeOf271,
  v46:=Tryz.zeroValue271,
  t51:=Tryz.underlying249,
  a51:=Tryz.isAgg249,
  z51:=Tryz.sizeOf249,
  v51:=Tryz.zeroValue249,
  t53:=Tryz.underlying304,
  a53:=Tryz.isAgg304,
  z53:=Tryz.sizeOf304,
  v53:=Tryz.zeroValue304,
  t75:=Tryz.underlying119,
  a75:=Tryz.isAgg119,
  z75:=Tryz.sizeOf119,
  v75:=Tryz.zeroValue119,
  t76:=Tryz.underlying120,
  a76:=Tryz.isAgg120,
  z76:=Tryz.sizeOf120,
  v76:=Tryz.zeroValue120,
  t85:=Tryz.underlying312,
  a85:=Tryz.isAgg312,
  z85:=Tryz.sizeOf312,
  v85:=Tryz.zeroValue312,
  t127:=Tryz.underlying164,
  a127:=Tryz.isAgg164,
  z127:=Tryz.sizeOf164,
  v127:=Tryz.zeroValue164,
  t143:=Tryz.underlying334,
  a143:=Tryz.isAgg334,
  z143:=Tryz.sizeOf334,
  v143:=Tryz.zeroValue334,
  t145:=Tryz.underlying336,
  a145:=Tryz.isAgg336,
  z145:=Tryz.sizeOf336,
  v145:=Tryz.zeroValue336,
  t167:=Tryz.underlying311,
  a167:=Tryz.isAgg311,
  z167:=Tryz.sizeOf311,
  v167:=Tryz.zeroValue311,
  t168:=Tryz.underlying314,
  a168:=Tryz.isAgg314,
  z168:=Tryz.sizeOf314,
  v168:=Tryz.zeroValue314,
  t171:=Tryz.underlying303,
  a171:=Tryz.isAgg303,
  z171:=Tryz.sizeOf303,
  v171:=Tryz.zeroValue303,
  t173:=Tryz.underlying307,
  a173:=Tryz.isAgg307,
  z173:=Tryz.sizeOf307,
  v173:=Tryz.zeroValue307,
  t175:=Tryz.underlying326,
  a175:=Tryz.isAgg326,
  z175:=Tryz.sizeOf326,
  v175:=Tryz.zeroValue326,
  t210:=Tryz.underlying330,
  a210:=Tryz.isAgg330,
  z210:=Tryz.sizeOf330,
  v210:=Tryz.zeroValue330,
  t212:=Tryz.underlying320,
  a212:=Tryz.isAgg320,
  z212:=Tryz.sizeOf320,
  v212:=Tryz.zeroValue320,
  t213:=Tryz.underlying321,
  a213:=Tryz.isAgg321,
  z213:=Tryz.sizeOf321,
  t232:=Tryz.underlying337,
  a232:=Tryz.isAgg337,
  z232:=Tryz.sizeOf337,
  v232:=Tryz.zeroValue337,
  t233:=Tryz.underlying338,
  a233:=Tryz.isAgg338,
  z233:=Tryz.sizeOf338,
  v233:=Tryz.zeroValue338,
  g15:=by kernel_rfl,
  g16:=by kernel_rfl,
  g17:=by kernel_rfl,
  g18:=by kernel_rfl,
  g19:=by kernel_rfl,
  t80:=Tryz.underlying122,
  a80:=Tryz.isAgg122,
  z80:=Tryz.sizeOf122,
  v80:=Tryz.zeroValue122,
  i0:=by kernel_rfl,
  i2:=by kernel_rfl,
  i3:=by kernel_rfl,
  i4:=by kernel_rfl,
  i5:=by kernel_rfl,
  i9:=by kernel_rfl,
  i20:=by kernel_rfl,
  i21:=by kernel_rfl,
  i37:=by kernel_rfl,
  i46:=by kernel_rfl,
  i51:=by kernel_rfl,
  i53:=by kernel_rfl,
  i75:=by kernel_rfl,
  i76:=by kernel_rfl,
  i80:=by kernel_rfl,
  i85:=by kernel_rfl,
  i127:=by kernel_rfl,
  i143:=by kernel_rfl,
  i145:=by kernel_rfl,
  i167:=by kernel_rfl,
  i168:=by kernel_rfl,
  i171:=by kernel_rfl,
  i173:=by kernel_rfl,
  i175:=by kernel_rfl,
  i210:=by kernel_rfl,
  i212:=by kernel_rfl,
  i232:=by kernel_rfl,
  i233:=by kernel_rfl,
  m15:=by kernel_rfl,
  m16:=by kernel_rfl,
  m17:=by kernel_rfl,
  m18:=by kernel_rfl,
  m19:=by kernel_rfl,
  c0:=by kernel_rfl,
  c2:=by kernel_rfl,
  c3:=by kernel_rfl,
  c4:=by kernel_rfl,
  c5:=by kernel_rfl,
  c9:=by kernel_rfl,
  c20:=by kernel_rfl,
  c21:=by kernel_rfl,
  c37:=by kernel_rfl,
  c46:=by kernel_rfl,
  c51:=by kernel_rfl,
  c53:=by kernel_rfl,
  c75:=by kernel_rfl,
  c76:=by kernel_rfl,
  c80:=by kernel_rfl,
  c85:=by kernel_rfl,
  c127:=by kernel_rfl,
  c143:=by kernel_rfl,
  c145:=by kernel_rfl,
  c167:=by kernel_rfl,
  c168:=by kernel_rfl,
  c171:=by kernel_rfl,
  c173:=by kernel_rfl,
  c175:=by kernel_rfl,
  c210:=by kernel_rfl,
  c212:=by kernel_rfl,
  c213:=by kernel_rfl,
  c232:=by kernel_rfl,
  c233:=by kernel_rfl}
abbrev Agb:=nX
def Auh(c:Agb):Spec:=Ae8 c
def pV:Agb:=λx k=>YO x k
theorem Aui:SpecOk Tryz.prog 226 (Auh pV):=
 Ari Aug rfl (by kernel_rfl) (by kernel_rfl) ⟨_,Tryz.func226,by kernel_rfl,by kernel_rfl⟩
noncomputable def Auj:En:=.of Aui
abbrev Auk:={β:Type}->BZ->(Int->Option β)->Option β
def Zy:Auk:=hid λr_ k=>JC r_.1 1970 2240 (λD4=>cond (!D4) (k 1) (JC r_.2.1 r_.1 2240 (λJu=>cond (!Ju) (k 1) (JC r_.2.2.1 1 12 (λJv=>cond (!Jv) (k 1) (JC r_.2.2.2.1 1 5 (λX2=>cond (!X2) (k 1) (JC r_.2.2.2.2.1 0 6 (λX3=>cond (!X3) (k 1) (JC r_.2.2.2.2.2.1 0 86399 (λAbO=>cond (!AbO) (k 1) (JC r_.2.2.2.2.2.2 (-64800) 64800 (λAbP=>cond (!AbP) (k 1) (k 0))))))))))))))
noncomputable def Aul:En:=⟨227,.spec (sg [(true,[.data Ke])] [] [Ab] [] Zy),pf [pU] [] [.tmp 2] Tryz.func227⟩
abbrev Aum:={β:Type}->Int->Int->(Int->Option β)->Option β
def OI:Aum:=hid λa b k=>cond (!decide (b=0)) (let q:=(IntKind.i64.wrap (Int.tdiv a b));cond (!decide (b=0)) (cond (decide ((Int.tmod a b)<0)) (let q2:=(IntKind.i64.wrap (q-1));k q2) (k q)) none) none
noncomputable def Agc:En:=⟨231,.spec (sg [Ab,Ab] [] [Ab] [] OI),pf [] [] [.tmp 4] Tryz.func231⟩
abbrev Aun:={β:Type}->Int->(Bool->Option β)->Option β
def Zz:Aun:=hid λEe k=>cond (decide ((Int.tmod Ee 4)=0)) (cond (!decide ((Int.tmod Ee 100)=0)) (k true) (let t:=(decide ((Int.tmod Ee 400)=0));k t)) (k false)
noncomputable def Auo:En:=⟨232,.spec (sg [Ab] [] [AS] [] Zz),pf [] [] [.tmp 2] Tryz.func232⟩
def Aup:Shelf.Ren:=
   {
   f:=λx=>
    match x with
    |105=>235
    |212=>251
    |99=>252
    |165=>156
    |166=>48
    |170=>49
    |169=>50
    |263=>267
    |264=>268
    |206=>269
    |240=>103
    |241=>187
    |276=>157
    |277=>216
    |n=>n,
   t:=λx=>
    match x with
    |9=>9
    |3=>3
    |4=>4
    |20=>20
    |0=>0
    |46=>271
    |109=>309
    |5=>5
    |72=>116
    |76=>120
    |51=>249
    |146=>295
    |53=>304
    |148=>324
    |70=>113
    |37=>114
    |75=>119
    |127=>164
    |164=>214
    |80=>122
    |n=>n,
   g:=λx=>x}
theorem Auq:Go.Proofs.Lays.n105 Tryz.prog Aup:=
 {
  mixed:=by kernel_rfl,
  f99:=Eq.trans Tryz.func252 (Ax some (by kernel_rfl)),
  f105:=Eq.trans Tryz.func235 (Ax some (by kernel_rfl)),
  f165:=Eq.trans Tryz.func156 (Ax some (by kernel_rfl)),
  f166:=Eq.trans Tryz.func48 (Ax some (by kernel_rfl)),
  f169:=Eq.trans Tryz.func50 (Ax some (by kernel_rfl)),
  f170:=Eq.trans Tryz.func49 (Ax some (by kernel_rfl)),
  f206:=Eq.trans Tryz.func269 (Ax some (by kernel_rfl)),
  f212:=Eq.trans Tryz.func251 (Ax some (by kernel_rfl)),
  f240:=Eq.trans Tryz.func103 (Ax some (by kernel_rfl)),
  f241:=Eq.trans Tryz.func187 (Ax some (by kernel_rfl)),
  f263:=Eq.trans Tryz.func267 (Ax some (by kernel_rfl)),
  f264:=Eq.trans Tryz.func268 (Ax some (by kernel_rfl)),
  f276:=Eq.trans Tryz.func157 (Ax some (by kernel_rfl)),
  f277:=Eq.trans Tryz.func216 (Ax some (by kernel_rfl)),
  t0:=Tryz.underlying0,
  a0:=Tryz.isAgg0,
  z0:=Tryz.sizeOf0,
  v0:=Tryz.zeroValue0,
  t3:=Tryz.underlying3,
  a3:=Tryz.isAgg3,
  z3:=Tryz.sizeOf3,
  v3:=Tryz.zeroValue3,
  t4:=Tryz.underlying4,
  a4:=Tryz.isAgg4,
  z4:=Tryz.sizeOf4,
  v4:=Tryz.zeroValue4,
  t5:=Tryz.underlying5,
  a5:=Tryz.isAgg5,
  z5:=Tryz.sizeOf5,
  v5:=Tryz.zeroValue5,
  t9:=Tryz.underlying9,
  a9:=Tryz.isAgg9,
  z9:=Tryz.sizeOf9,
  v9:=Tryz.zeroValue9,
  t20:=Tryz.underlying20,
  a20:=Tryz.isAgg20,
  z20:=Tryz.sizeOf20,
  v20:=Tryz.zeroValue20,
  t37:=Tryz.underlying114,
  a37:=Tryz.isAgg114,
  z37:=Tryz.sizeOf114,
  v37:=Tryz.zeroValue114,
  t46:=Tryz.underlying271,
  a46:=Tryz.isAgg271,
  z46:=Tryz.sizeOf271,
  v46:=Tryz.zeroValue271,
  t51:=Tryz.underlying249,
  a51:=Tryz.isAgg249,
  z51:=Tryz.sizeOf249,
  v51:=Tryz.zeroValue249,
  t53:=Tryz.underlying304,
  a53:=Tryz.isAgg304,
  z53:=Tryz.sizeOf304,
  v53:=Tryz.zeroValue304,
  t70:=Tryz.underlying113,
  a70:=Tryz.isAgg113,
  z70:=Tryz.sizeOf113,
  v70:=Tryz.zeroValue113,
  t72:=Tryz.underlying116,
  a72:=Tryz.isAgg116,
  z72:=Tryz.sizeOf116,
  v72:=Tryz.zeroValue116,
  t75:=Tryz.underlying119,
  a75:=Tryz.isAgg119,
  z75:=Tryz.sizeOf119,
  v75:=Tryz.zeroValue119,
  t76:=Tryz.underlying120,
  a76:=Tryz.isAgg120,
  z76:=Tryz.sizeOf120,
  v76:=Tryz.zeroValue120,
  t109:=Tryz.underlying309,
  a109:=Tryz.isAgg309,
  z109:=Tryz.sizeOf309,
  v109:=Tryz.zeroValue309,
  t127:=Tryz.underlying164,
  a127:=Tryz.isAgg164,
  z127:=Tryz.sizeOf164,
  v127:=Tryz.zeroValue164,
  t146:=Tryz.underlying295,
  a146:=Tryz.isAgg295,
  z146:=Tryz.sizeOf295,
  v146:=Tryz.zeroValue295,
  t148:=Tryz.underlying324,
  a148:=Tryz.isAgg324,
  z148:=Tryz.sizeOf324,
  v148:=Tryz.zeroValue324,
  t164:=Tryz.underlying214,
  a164:=Tryz.isAgg214,
  z164:=Tryz.sizeOf214,
  v164:=Tryz.zeroValue214}
abbrev Agd:=nZ
def Aur(c:Agd):Spec:=Aed c
def pW:Agd:=λx y k=>YR x y k
theorem Aus:SpecOk Tryz.prog 235 (Aur pW):=
 Arl Auq {sizeBuilder:=by kernel_rfl,liesBuilder:=by kernel_rfl,t5:=Tryz.underlying5,a5:=Tryz.isAgg5,z5:=Tryz.sizeOf5,v5:=Tryz.zeroValue5,infoByte:=by kernel_rfl,cellsByte:=by kernel_rfl,sizeByte:=by kernel_rfl,neB5:=by decide} rfl ⟨_,Tryz.func235,by kernel_rfl,by kernel_rfl⟩
noncomputable def Aut:En:=.of Aus
abbrev Auu:={β:Type}->Int->(Int->Option β)->Option β
def pX:Auu:=hid λday k=>let t:=(Int.tmod (IntKind.i64.wrap ((Int.tmod day 7)+10)) 7);k t
noncomputable def Auv:En:=⟨242,.spec (sg [Ab] [] [Ab] [] pX),pf [] [] [.tmp 2] Tryz.func242⟩
abbrev Auw:={β:Type}->Int->(Int->Option β)->Option β
def Z0:Auw:=hid λday k=>let t:=(Int.tmod (IntKind.i64.wrap ((Int.tmod day 7)+10)) 7);k t
noncomputable def Aux:En:=⟨245,.spec (sg [Ab] [] [Ab] [] Z0),pf [] [] [.tmp 2] Tryz.func245⟩
abbrev Auy:={β:Type}->Int->(Bool->Option β)->Option β
def Ub:Auy:=hid λEe k=>cond (decide ((Int.tmod Ee 4)=0)) (cond (!decide ((Int.tmod Ee 100)=0)) (k true) (let t:=(decide ((Int.tmod Ee 400)=0));k t)) (k false)
noncomputable def Auz:En:=⟨261,.spec (sg [Ab] [] [AS] [] Ub),pf [] [] [.tmp 2] Tryz.func261⟩
abbrev AuA:={β:Type}->Ce->(AF->AD->AE->Ce->AI->Option β)->Option β
noncomputable def QT:List En:=[Zc,KY,QM,AeL,As9,AeD]
abbrev pY(β:Type):=Ce->AF->AD->AE->AI->AF->AD->AE->AI->Option β
abbrev pZ(β:Type):=Int->Ce->AF->AD->AE->AI->AF->AD->AE->AI->Option β
noncomputable def Age:Pc:=⟨109,1,AL 58 (Ay Tryz.f17),⟨1,[0,2,3,4],[AA,Ck,Dn,Ab],O8⟩,[(.exit 0,⟨1,[0,2,3],[AA,Ck,Dn],O8⟩)]⟩
abbrev q8(β:Type):=Ce->AF->AD->AE->AI->AF->AD->AE->AI->Option β
abbrev q9(β:Type):=Int->Ce->AF->AD->AE->AI->AF->AD->AE->AI->Option β
noncomputable def qC:Pc:=⟨109,1,AL 122 (Ay Tryz.f17),⟨1,[0,2,3,5],[AA,Ck,Dn,Ab],O8⟩,[(.exit 2,⟨1,[0,2,3],[AA,Ck,Dn],O8⟩)]⟩
abbrev qD(β:Type):=Ce->AF->AD->AE->AI->AF->AD->AE->AI->Option β
abbrev qE(β:Type):=Int->Ce->AF->AD->AE->AI->AF->AD->AE->AI->Option β
noncomputable def qF:Pc:=⟨109,1,AL 250 (Ay Tryz.f17),⟨1,[0,2,3,7],[AA,Ck,Dn,Ab],O8⟩,[(.exit 4,⟨1,[2,3],[Ck,Dn],O8⟩)]⟩
abbrev AuB(β:Type):=Int->Ce->AF->AD->AE->AI->AF->AD->AE->AI->Option β
abbrev AuC(β:Type):=Int->Ce->AJ->Int->Int->Int->Bool->AF->AD->AE->AI->AF->AD->AE->AI->BP->Option β
noncomputable def Agf:Pc:=⟨109,1,AL 51 (E5 qC.c),⟨1,[0,2,3,5,6],[AA,Ck,Dn,Ab,IV],[Dm,o9,Aer,.cells 78 [.data .str,.data (.int .i64),.rowh 12,.data (.int .i64),.data (.int .i64),.data .bool],.row 75 FW,.row 78 F6,.row 81 FV,.row 58 G5,.row 75 FW,.row 78 F6,.row 81 FV,.row 58 G5,.row 157 (.prod (.int .i64) (.int .i64))]⟩,[(.normal,⟨1,[0,2,3,5],[AA,Ck,Dn,Ab],O8⟩)]⟩
abbrev qG(β:Type):=Int->Ce->AJ->Int->AF->AD->AE->AI->AF->AD->AE->AI->De->Option β
abbrev qH(β:Type):=Int->Int->Int->Ce->AJ->Int->AF->AD->AE->AI->AF->AD->AE->AI->De->Option β
noncomputable def Agg:Pc:=⟨109,1,AL 202 (E5 qF.c),⟨1,[0,2,3,7,8,9,10],[AA,Ck,Dn,Ab,IV,Ab,Ab],Aes⟩,[(.exit 6,⟨1,[0,2,3,7,8],[AA,Ck,Dn,Ab,IV],Aes⟩)]⟩
def Z1{β:Type}(rec:pZ β)(k1:pY β):pZ β:=λi_ d AG Aq BX BG BE Cp Cl CI=>cond (decide ((0:Int)<i_)) (let l:=([([104,101,114,101]:List UInt8),([116,104,101,114,101]:List UInt8)]:List AJ);cond (decide (0<=(List.length BE:Int))&&decide ((List.length BE:Int)<(List.length l:Int))) (Zd (List.getD l (Int.toNat (List.length BE:Int)) ([]:List UInt8)) d (λEY jG=>let l2:=([EY]:List AK);cond (decide ((List.length BE+List.length l2)*48<=Bl)) (let l3:=(BE++l2);let Bz:=(IntKind.i64.wrap (i_-1));rec Bz jG AG Aq BX BG l3 Cp Cl CI) none)) none) (k1 d AG Aq BX BG BE Cp Cl CI)
def Uc(m:Nat){β:Type}(k1:pY β):pZ β:=OB (λr=>Z1 r k1) none m
theorem Agh{β:Type}(i:Nat)(k1):Uc (β:=β) (i+1) k1=Z1 (Uc i k1) k1:=rfl
def qI{β:Type}:=hid (Uc (β:=β) fuel)
noncomputable def AuD:Pb:=⟨58,Age,λ_=>qI,pl (p:=Age) QT [] (g:=λi _=>Uc i)⟩
def qJ{β:Type}(k1:AuB β):AuC β:=λi_ d p_ M8 PL PM NO Aq BX BG BE Cp Cl CI N1 Pj=>let l:=([0,40,100,12]:List Int);IX l d (λFx II=>let l2:=([0,11,24,1]:List Int);IX l2 II (λPS M7=>let l3:=([(p_,(M8,(Pj,((IntKind.i64.wrap (3600*Fx)),((IntKind.i64.wrap (3600*PS)),NO)))))]:List Bb);cond (decide ((List.length Cl+List.length l3)*72<=Bl)) (let l4:=(Cl++l3);k1 i_ M7 Aq BX BG BE Cp l4 CI N1) none))
def Ud{β:Type}:=hid (qJ (β:=β))
noncomputable def AuE:Pb:=⟨51,Agf,λ_=>Ud,pe (p:=Agf) QT [] 51 (g:=λ_=>qJ)⟩
def Z2{β:Type}(rec:q9 β)(k1:q8 β):q9 β:=λi_ d AG Aq BX BG BE Cp Cl CI=>cond (decide ((0:Int)<i_)) (T6 (λSc=>cond (decide (0<=(List.length Cp:Int))&&decide ((List.length Cp:Int)<(List.length Sc:Int))) (C4 (List.length BE:Int) d (λCr Du=>LV 3 Du (λL1 Js=>LV 2 Js (λAIV Aob=>cond AIV (T8 Aob (λAbv Abk=>Ud (λBz d2 Bk AV C0 C1 CO CS Da CR=>let Jr:=(IntKind.i64.wrap (Bz-(1:Int)));rec Jr d2 Bk AV C0 C1 CO CS Da CR) i_ Abv (List.getD Sc (Int.toNat (List.length Cp:Int)) ([]:List UInt8)) Cr 0 0 L1 AG Aq BX BG BE Cp Cl CI Abk)) (Ud (λBz d2 Bk AV C0 C1 CO CS Da CR=>let Jr:=(IntKind.i64.wrap (Bz-(1:Int)));rec Jr d2 Bk AV C0 C1 CO CS Da CR) i_ Aob (List.getD Sc (Int.toNat (List.length Cp:Int)) ([]:List UInt8)) Cr 0 0 L1 AG Aq BX BG BE Cp Cl CI ([]:List BJ)))))) none)) (k1 d AG Aq BX BG BE Cp Cl CI)
def QU(m:Nat){β:Type}(k1:q8 β):q9 β:=OB (λr=>Z2 r k1) none m
theorem Agi{β:Type}(i:Nat)(k1):QU (β:=β) (i+1) k1=Z2 (QU i k1) k1:=rfl
def qK{β:Type}:=hid (QU (β:=β) fuel)
noncomputable def AuF:Pb:=⟨122,qC,λ_=>qK,pl (p:=qC) QT [AuE] (g:=λi _=>QU i)⟩
def Z3{β:Type}(rec:qH β)(k1:qG β):qH β:=λi_ k_ day d x x2 Aq BX BG BE Cp Cl CI N1 Pj=>cond (decide ((0:Int)<k_)) (C4 6 d (λCr Du=>let day2:=(IntKind.i64.wrap (day+(IntKind.i64.wrap (1+Cr))));let l:=([day2]:List Int);cond (decide ((List.length Pj+List.length l)*8<=Bl)) (let l2:=(Pj++l);let H0:=(IntKind.i64.wrap (k_-1));rec i_ H0 day2 Du x x2 Aq BX BG BE Cp Cl CI N1 l2) none)) (k1 i_ d x x2 Aq BX BG BE Cp Cl CI N1 Pj)
def Ue(m:Nat){β:Type}(k1:qG β):qH β:=AeB (λr=>Z3 r k1) none m
theorem Agj{β:Type}(i:Nat)(k1):Ue (β:=β) (i+1) k1=Z3 (Ue i k1) k1:=rfl
def qL{β:Type}:=hid (Ue (β:=β) fuel)
noncomputable def AuG:Pb:=⟨202,Agg,λ_=>qL,pl (p:=Agg) QT [] (g:=λi _=>Ue i)⟩
def Z4{β:Type}(rec:qE β)(k1:qD β):qE β:=λi_ d AG Aq BX BG BE Cp Cl CI=>cond (decide ((0:Int)<i_)) (C4 (List.length BE:Int) d (λCr Du=>C4 4 Du (λEb H3=>qL (λBz d2 x x2 AV C0 C1 CO CS Da CR N1 Pj=>let l:=([(x,(x2,Pj))]:List Bh);cond (decide ((List.length CR+List.length l)*48<=Bl)) (let l2:=(CR++l);let Jr:=(IntKind.i64.wrap (Bz-(1:Int)));rec Jr d2 AV C0 C1 CO CS Da l2 N1) none) i_ Eb 20454 H3 ([100,97,121,115]:List UInt8) Cr AG Aq BX BG BE Cp Cl CI ([]:List Int)))) (k1 d AG Aq BX BG BE Cp Cl CI)
def Uf(m:Nat){β:Type}(k1:qD β):qE β:=OB (λr=>Z4 r k1) none m
theorem Agk{β:Type}(i:Nat)(k1):Uf (β:=β) (i+1) k1=Z4 (Uf i k1) k1:=rfl
def qM{β:Type}:=hid (Uf (β:=β) fuel)
noncomputable def AuH:Pb:=⟨250,qF,λ_=>qM,pl (p:=qF) QT [AuG] (g:=λi _=>Uf i)⟩
def Z5:AuA:=hid λd k=>C4 2 d (λCr Du=>let i_:=(IntKind.i64.wrap (1+Cr));qI (λd2 AG Aq BX BG BE Cp Cl CI=>C4 4 d2 (λEb H3=>let Bz:=(IntKind.i64.wrap (1+Eb));qK (λd3 Bk AV C0 C1 CO CS Da CR=>C4 2 d3 (λM9 PJ=>qM (λAZ AJL An3 An4 An5 Aah AFL AFM AFJ=>k Aah AFL AFM AZ AFJ) M9 PJ Bk AV C0 C1 CO CS Da CR)) Bz H3 AG Aq BX BG BE Cp Cl CI)) i_ Du ([]:List AK) ([]:List Bb) ([]:List Bh) ([]:List By) ([]:List AK) ([]:List Bb) ([]:List Bh) ([]:List By))
noncomputable def AuI:En:=⟨17,.spec (sg [AA] [Dm] [(true,[.data (.slice FW),.data (.slice F6),.data (.slice FV),.rowh 1])] [Dm,.row 58 G5] Z5),pf QT [AuD,AuF,AuH] [.cell 2 32] Tryz.func17⟩
abbrev AuJ:={β:Type}->AF->AD->AE->AJ->Ce->(AU->Ce->Option β)->Option β
noncomputable def Ug:List En:=[Zc,KY,QM,AeL]
abbrev AuK(β:Type):=Ce->AJ->Int->Int->Int->Int->Int->Int->Int->AJ->Int->Int->Int->Int->Int->Int->Int->De->BP->De->BP->Option β
abbrev AuL(β:Type):=Bool->Ce->AF->AD->AE->AJ->Int->Int->Int->Int->Int->Int->Int->AJ->Int->Int->Int->Int->Int->Int->Int->De->BP->De->BP->Option β
noncomputable def Agl:Pc:=⟨77,1,AL 253 (Ay Tryz.f18),⟨1,[0,4,6,7,65],[AA,Ck,Dn,IV,AS],Tx⟩,[(.normal,⟨1,[6,7],[Ck,Dn],[Dm,.cells 63 [.data .str,.data (.int .i64),.data (.int .i64),.data (.int .i64),.data (.int .i64),.data (.int .i64),.rowh 3,.rowh 4,.data (.int .i64),.data (.int .i64)],.cells 63 [.data .str,.data (.int .i64),.data (.int .i64),.data (.int .i64),.data (.int .i64),.data (.int .i64),.rowh 5,.rowh 6,.data (.int .i64),.data (.int .i64)],.row 3 (.int .i64),.row 157 (.prod (.int .i64) (.int .i64)),.row 3 (.int .i64),.row 157 (.prod (.int .i64) (.int .i64))]⟩)]⟩
abbrev Agm(β:Type):=Ce->AJ->Int->Int->Int->Int->Int->Int->Int->De->BP->Option β
abbrev AuM(β:Type):=Ce->AF->AD->AE->AJ->Int->Int->Int->Int->Int->Int->Int->AJ->Int->Int->Int->Int->Int->Int->Int->De->BP->De->BP->Option β
noncomputable def Agn:Pc:=⟨77,1,AL 63 (Ay Tryz.f18),⟨1,[0,4,6,7],[AA,Ck,Dn,IV],Tx⟩,[(.ret,⟨1,[6],[Ck],[Dm,Aep,.row 3 (.int .i64),.row 157 (.prod (.int .i64) (.int .i64))]⟩)]⟩
abbrev qN(β:Type):=Ce->AF->AD->AE->AJ->Int->Int->Int->Int->Int->Int->Int->AJ->Int->Int->Int->Int->Int->Int->Int->De->BP->De->BP->Option β
abbrev qO(β:Type):=Int->Ce->AF->AD->AE->AJ->Int->Int->Int->Int->Int->Int->Int->AJ->Int->Int->Int->Int->Int->Int->Int->De->BP->De->BP->Option β
noncomputable def Ago:Pc:=⟨77,1,AL 122 (Ay Tryz.f18),⟨1,[0,4,6,7,8],[AA,Ck,Dn,IV,Ab],Tx⟩,[(.exit 0,⟨1,[0,4,6,7],[AA,Ck,Dn,IV],Tx⟩)]⟩
abbrev Agp(β:Type):=Ce->AJ->Int->Int->Int->Int->Int->Int->Int->De->BP->Option β
abbrev AuN(β:Type):=Ce->AF->AD->AE->AJ->Int->Int->Int->Int->Int->Int->Int->AJ->Int->Int->Int->Int->Int->Int->Int->De->BP->De->BP->Option β
noncomputable def Agq:Pc:=⟨77,1,AL 15 (Ay Tryz.f18),⟨1,[0,4,6,7],[AA,Ck,Dn,IV],Tx⟩,[(.ret,⟨1,[6],[Ck],[Dm,Aep,.row 3 (.int .i64),.row 157 (.prod (.int .i64) (.int .i64))]⟩)]⟩
def qP{β:Type}(k1:AuK β):AuL β:=λGx d c c2 c3 t6 DH Gj FC Gk Gl Gm MG l l2 l3 l4 l5 l6 l7 l8 Aq BX BG BE=>cond Gx (C4 (List.length c3:Int) d (λCr Du=>C4 2 Du (λEb H3=>k1 H3 t6 DH Gj FC Gk Gl Gm MG l l2 l3 l4 l5 l6 Cr (IntKind.i64.wrap (1+Eb)) Aq BX BG BE))) (k1 d t6 DH Gj FC Gk Gl Gm MG l l2 l3 l4 l5 l6 l7 l8 Aq BX BG BE)
def Z6{β:Type}:=hid (qP (β:=β))
noncomputable def AuO:Pb:=⟨253,Agl,λ_=>Z6,pe (p:=Agl) Ug [] 253 (g:=λ_=>qP)⟩
def qQ{β:Type}(k1:Agm β):AuM β:=λd c c2 c3 t6 DH Gj FC Gx Gk Gl Gm l l2 l3 l4 l5 l6 l7 l8 Aq BX BG BE=>LV 4 d (λL1 Js=>cond L1 (Z6 (λAZ MG jS jT NS L5 jU jV jW l9 l10 l11 l12 l13 l14 l15 l16 AG AV C0 C1=>k1 AZ l9 l10 l11 l12 l13 l14 l15 l16 C0 C1) (decide ((0:Int)<(List.length c3:Int))) Js c c2 c3 t6 DH Gj FC Gx Gk Gl Gm l l2 l3 l4 l5 l6 l7 l8 Aq BX BG BE) (Z6 (λAZ MG jS jT NS L5 jU jV jW l9 l10 l11 l12 l13 l14 l15 l16 AG AV C0 C1=>k1 AZ l9 l10 l11 l12 l13 l14 l15 l16 C0 C1) false Js c c2 c3 t6 DH Gj FC Gx Gk Gl Gm l l2 l3 l4 l5 l6 l7 l8 Aq BX BG BE))
def Uh{β:Type}:=hid (qQ (β:=β))
noncomputable def AuP:Pb:=⟨63,Agn,λ_=>Uh,pe (p:=Agn) Ug [AuO] 63 (g:=λ_=>qQ)⟩
def Z7{β:Type}(rec:qO β)(k1:qN β):qO β:=λi_ d c c2 c3 t6 DH Gj FC Gx Gk Gl Gm l l2 l3 l4 l5 l6 l7 l8 Aq BX BG BE=>cond (decide ((0:Int)<i_)) (C4 (List.length c2:Int) d (λCr Du=>let l9:=([Cr]:List Int);cond (decide ((List.length BG+List.length l9)*8<=Bl)) (let l10:=(BG++l9);let Bz:=(IntKind.i64.wrap (i_-1));rec Bz Du c c2 c3 t6 DH Gj FC Gx Gk Gl Gm l l2 l3 l4 l5 l6 l7 l8 Aq BX l10 BE) none)) (k1 d c c2 c3 t6 DH Gj FC Gx Gk Gl Gm l l2 l3 l4 l5 l6 l7 l8 Aq BX BG BE)
def Ui(m:Nat){β:Type}(k1:qN β):qO β:=AeC (λr=>Z7 r k1) none m
theorem Agr{β:Type}(i:Nat)(k1):Ui (β:=β) (i+1) k1=Z7 (Ui i k1) k1:=rfl
def qR{β:Type}:=hid (Ui (β:=β) fuel)
noncomputable def AuQ:Pb:=⟨122,Ago,λ_=>qR,pl (p:=Ago) Ug [] (g:=λi _=>Ui i)⟩
def qS{β:Type}(k1:Agp β):AuN β:=λd c c2 c3 t6 DH Gj FC Gx Gk Gl Gm l l2 l3 l4 l5 l6 l7 l8 Aq BX BG BE=>C4 3 d (λCr Du=>let i_:=(IntKind.i64.wrap (1+Cr));qR (λd2 c4 c5 c6 MG jS jT NS L5 jU jV jW l9 l10 l11 l12 l13 l14 l15 l16 AV C0 C1 CO=>LV 2 d2 (λL1 Js=>cond L1 (T8 Js (λAbv Abk=>Uh (λAZ AbU AbV AbW AbX AbY PZ MF AbZ AB AG=>k1 AZ AbU AbV AbW AbX AbY PZ MF AbZ AB AG) Abv c4 c5 c6 MG jS jT NS L5 jU jV jW l9 l10 l11 l12 l13 l14 l15 l16 AV C0 C1 Abk)) (Uh (λAZ AbU AbV AbW AbX AbY PZ MF AbZ AB AG=>k1 AZ AbU AbV AbW AbX AbY PZ MF AbZ AB AG) Js c4 c5 c6 MG jS jT NS L5 jU jV jW l9 l10 l11 l12 l13 l14 l15 l16 AV C0 C1 CO))) i_ Du c c2 c3 t6 DH Gj FC Gx Gk Gl Gm l l2 l3 l4 l5 l6 l7 l8 Aq BX BG BE)
def Uj{β:Type}:=hid (qS (β:=β))
noncomputable def AuR:Pb:=⟨15,Agq,λ_=>Uj,pe (p:=Agq) Ug [AuP,AuQ] 15 (g:=λ_=>qS)⟩
def Z8:AuJ:=hid λc c2 c3 name d k=>C4 (List.length c:Int) d (λCr Du=>C4 6 Du (λEb H3=>let l:=([0,32400,7200,9000,79200,1]:List Int);IX l H3 (λFx II=>C4 3 II (λM9 PJ=>C4 2 PJ (λXy PK=>cond (decide (M9=(0:Int))) (let l2:=([6,8,12,24,23,49]:List Int);IX l2 PK (λPS M7=>Uj (λAZ t6 DH Gj FC Gx Gk Gl Gm AB AG=>k (t6,(DH,((Gj,FC),(Gx,(Gk,(AB,(AG,(Gl,Gm)))))))) AZ) M7 c c2 c3 ([]:List UInt8) 0 0 0 0 0 0 0 name Cr (IntKind.i64.wrap ((IntKind.i64.wrap (20454+Eb))-2)) Fx M9 PS 0 0 ([]:List Int) ([]:List BJ) ([]:List Int) ([]:List BJ))) (Uj (λAZ t6 DH Gj FC Gx Gk Gl Gm AB AG=>k (t6,(DH,((Gj,FC),(Gx,(Gk,(AB,(AG,(Gl,Gm)))))))) AZ) PK c c2 c3 ([]:List UInt8) 0 0 0 0 0 0 0 name Cr (IntKind.i64.wrap ((IntKind.i64.wrap (20454+Eb))-2)) Fx M9 (IntKind.i64.wrap (1+Xy)) 0 0 ([]:List Int) ([]:List BJ) ([]:List Int) ([]:List BJ)))))))
noncomputable def AuS:En:=⟨18,.spec (sg [AA,Aeq,BR] [Dm] [Nh] [Dm] Z8),pf Ug [AuR] [.cell 6 63] Tryz.func18⟩
abbrev AuT:={β:Type}->AJ->CN->AF->AD->AE->AI->Ca->(AF->AD->AE->AI->Ca->Option β)->Option β
def DU:AuT:=hid λkeyword tokens w w2 w3 w4 Am k=>FK keyword (λDG=>let l:=([DG]:List BV);cond (decide ((List.length l+List.length tokens)*32<=Bl)) (let l2:=(l++tokens);let l3:=([((IntKind.i64.wrap ((List.length Am:Int)+(1:Int))),l2)]:List KU);cond (true&&decide ((List.length Am+List.length l3)*32<=Bl)) (let l4:=(Am++l3);k w w2 w3 w4 l4) none) none)
theorem AuU:SpecOkB Tryz.prog 26 (sg [AA,BR,DS] Ep [] Ep DU):=FG mixed (X:=⟨look tab,gam [IW],false,false,false,false,FJ,none,0,[]⟩) BC [IW] rfl [] [] Tryz.func26 (by kernel_rfl) λ_ _=>by kernel_rfl
noncomputable def Nl:En:=.handf AuU rfl (by kernel_rfl)
abbrev AuV:={β:Type}->BA->AF->AD->AE->AI->Ca->(AF->AD->AE->AI->Ca->Option β)->Option β
noncomputable def Z9:List En:=[AsK,Nl,oM]
abbrev AuW(β:Type):=AF->AD->AE->AI->Ca->Option β
abbrev AuX(β:Type):=AF->AD->AE->AI->Ca->BA->CN->Option β
noncomputable def Ags:Pc:=⟨36,2,AL 15 (Ay Tryz.f29),⟨2,[0,3,4],[AA,Dn,(false,[.rowh 3])],[QI,.tree 96 KV,HZ,.row 85 FH]⟩,[(.normal,⟨2,[],[],Ep⟩)]⟩
def qT{β:Type}(k1:AuW β):AuX β:=λw w2 w3 w4 Am x l=>let l2:=([([108,101,97,118,101]:List UInt8),([111,118,101,114,114,105,100,101]:List UInt8),([115,119,97,112]:List UInt8)]:List AJ);cond (decide (0<=x.1)&&decide (x.1<(List.length l2:Int))) (TA x.2.2.2.1 (λrinstant=>TA x.2.2.2.2 (λrinstant2=>let l3:=([rinstant,rinstant2]:List BV);cond (decide ((List.length l+List.length l3)*32<=Bl)) (let l4:=(l++l3);DU (List.getD l2 (Int.toNat x.1) ([]:List UInt8)) l4 w w2 w3 w4 Am (λGf Gg Gh Gi Ge=>k1 Gf Gg Gh Gi Ge)) none))) none
def Uk{β:Type}:=hid (qT (β:=β))
noncomputable def AuY:Pb:=⟨15,Ags,λ_=>Uk,O1 mixed (X:=⟨look tab,gam Z9,false,false,false,false,FJ,none,0,[]⟩) (p:=Ags) BC Z9 rfl [] 15 (g:=λ_=>qT) (by kernel_rfl) λ_ _=>by kernel_rfl⟩
def ZA:AuV:=hid λx w w2 w3 w4 Am k=>G9 x.2.1 w w2 w3 w4 Am (λrperson Xr Xs Xt Xu Xq=>let l:=([rperson]:List BV);cond (decide (x.1=(2:Int))) (G9 x.2.2.1 Xr Xs Xt Xu Xq (λrperson2 jH jI jJ jK jE=>let l2:=([rperson2]:List BV);cond (decide ((List.length l+List.length l2)*32<=Bl)) (let l3:=(l++l2);Uk (λAZ BO CB CC Bn=>k AZ BO CB CC Bn) jH jI jJ jK jE x l3) none)) (Uk (λAZ BO CB CC Bn=>k AZ BO CB CC Bn) Xr Xs Xt Xu Xq x l))
theorem AuZ:SpecOkB Tryz.prog 29 (sg [AA,Tt] Ep [] Ep ZA):=FG mixed (X:=⟨look tab,gam Z9,false,false,false,false,FJ,none,0,[]⟩) BC Z9 rfl [AuY] [] Tryz.func29 (by kernel_rfl) λ_ _=>by kernel_rfl
noncomputable def Av0:En:=.handf AuZ rfl (by kernel_rfl)
abbrev Av1:={β:Type}->AK->AK->(Bool->Option β)->Option β
def ZB:Av1:=hid λa b k=>cond (decide (a.1=b.1)) (cond (decide (a.2.1=b.2.1)) (Zh a.2.2 b.2.2 (λX1=>k X1)) (k false)) (k false)
noncomputable def Av2:En:=⟨33,.spec (sg [IU,IU] [] [AS] [] ZB),pf [AsT] [] [.tmp 4] Tryz.func33⟩
abbrev Av3:={β:Type}->Bb->Bb->(Bool->Option β)->Option β
def ZC:Av3:=hid λa b k=>cond (decide (a.1=b.1)) (cond (decide (a.2.1=b.2.1)) (TF a.2.2.1 b.2.2.1 (λAbL=>cond AbL (cond (decide (a.2.2.2.1=b.2.2.2.1)) (cond (decide (a.2.2.2.2.1=b.2.2.2.2.1)) (let t:=(a.2.2.2.2.2==b.2.2.2.2.2);k t) (k false)) (k false)) (k false))) (k false)) (k false)
noncomputable def Av4:En:=⟨35,.spec (sg [Tw,Tw] [] [AS] [] ZC),pf [Af2] [] [.tmp 4] Tryz.func35⟩
abbrev Av5:={β:Type}->Bh->Bh->(Bool->Option β)->Option β
def ZD:Av5:=hid λa b k=>cond (decide (a.1=b.1)) (cond (decide (a.2.1=b.2.1)) (TH a.2.2 b.2.2 (λAbD=>k AbD)) (k false)) (k false)
noncomputable def Av6:En:=⟨37,.spec (sg [O7,O7] [] [AS] [] ZD),pf [Af7] [] [.tmp 4] Tryz.func37⟩
abbrev Av7:={β:Type}->Ce->(Int->Ce->Option β)->Option β
def ZE:Av7:=hid λd k=>C4 576 d (λCr Du=>let t:=(IntKind.i64.wrap (1767139200+(IntKind.i64.wrap (3600*Cr))));LV 3 Du (λL1 Js=>cond L1 (let l:=([(-1),1,1800,3599]:List Int);IX l Js (λFx II=>let t2:=(IntKind.i64.wrap (t+Fx));k t2 II)) (k t Js)))
noncomputable def Av8:En:=⟨42,.spec (sg [AA] [Dm] [Ab] [Dm] ZE),pf [Zc,KY,QM] [] [.tmp 2] Tryz.func42⟩
abbrev Av9:={β:Type}->AJ->BP->AF->AD->AE->AI->Ca->(AF->AD->AE->AI->Ca->Option β)->Option β
noncomputable def ZF:List En:=[oL,AeR,Nl]
abbrev Agt(β:Type):=AF->AD->AE->AI->Ca->Option β
abbrev qU(β:Type):=AJ->BP->Int->Int->AF->AD->AE->AI->Ca->Option β
noncomputable def Agu:Pc:=⟨40,2,AL 6 (Ay Tryz.f71),⟨2,[0,1,9,10,11],[AA,BR,Ia,Ab,Ab],Ep⟩,[(.exit 0,⟨2,[],[],Ep⟩)]⟩
def ZG{β:Type}(rec:qU β)(k1:Agt β):qU β:=λkeyword t9 Fj K6 w w2 w3 w4 Am=>cond (decide (K6<Fj)) (cond (decide (0<=K6)&&decide (K6<(List.length t9:Int))) (let e:=List.getD t9 (Int.toNat K6) (0,0);let last:=(IntKind.i64.wrap (Int.tdiv (IntKind.i64.wrap (e.2-(1:Int))) 86400));QO (IntKind.i64.wrap (Int.tdiv e.1 86400)) (λrweekday=>Ni (Int.tmod e.1 86400) (λH4=>QO last (λrweekday2=>Ni (IntKind.i64.wrap (e.2-(IntKind.i64.wrap (last*86400)))) (λNQ=>let l:=([rweekday,H4,rweekday2,NQ]:List BV);DU keyword l w w2 w3 w4 Am (λGf Gg Gh Gi Ge=>rec keyword t9 Fj (IntKind.i64.wrap (K6+(1:Int))) Gf Gg Gh Gi Ge)))))) none) (k1 w w2 w3 w4 Am)
def Ul(m:Nat){β:Type}(k1:Agt β):qU β:=QL (λr=>ZG r k1) none m
theorem Agv{β:Type}(i:Nat)(k1):Ul (β:=β) (i+1) k1=ZG (Ul i k1) k1:=rfl
def qV{β:Type}:=hid (Ul (β:=β) fuel)
noncomputable def Ava:Pb:=⟨6,Agu,λ_=>qV,HY mixed (X:=⟨look tab,gam ZF,false,false,false,false,FJ,none,0,[]⟩) (p:=Agu) BC ZF rfl [] (g:=λi _=>Ul i) (by kernel_rfl) rfl (by kernel_rfl) (λ_ _=>rfl) λ_ _ _ _=>by kernel_rfl⟩
def OJ:Av9:=hid λkeyword l w w2 w3 w4 Am k=>qV (λAZ BO CB CC Bn=>k AZ BO CB CC Bn) keyword l (List.length l:Int) 0 w w2 w3 w4 Am
theorem Avb:SpecOkB Tryz.prog 71 (sg [AA,BR,Ia] Ep [] Ep OJ):=FG mixed (X:=⟨look tab,gam ZF,false,false,false,false,FJ,none,0,[]⟩) BC ZF rfl [Ava] [] Tryz.func71 (by kernel_rfl) λ_ _=>by kernel_rfl
noncomputable def Agw:En:=.handf Avb rfl (by kernel_rfl)
abbrev Avc:={β:Type}->CN->AF->AD->AE->AI->(Int->AF->AD->AE->AI->Option β)->Option β
noncomputable def ZH:List En:=[Atu,Atv]
abbrev Agx(β:Type):=AF->AD->AE->AI->Option β
abbrev qW(β:Type):=Nat->CN->Int->Int->AF->AD->AE->AI->Option β
noncomputable def Agy:Pc:=⟨39,5,AL 122 (Ay Tryz.f82),⟨5,[5,21,22,23],[(false,[.tptrh 3 [] 0]),DS,Ab,Ab],El⟩,[(.exit 0,⟨5,[],[],El⟩)]⟩
def ZI{β:Type}(rec:qW β)(k1:Agx β):qW β:=λc t21 t22 E4 Am AB AG Aq=>cond (decide (E4<t22)) (cond (decide (0<=E4)&&decide (E4<(List.length t21:Int))) (let e:=List.getD t21 (Int.toNat E4) (0,(([]:List UInt8),0));let e2:=List.getD AG c LR;let l:=([e.2.2]:List Int);let l2:=((List.getD AG c LR).2).2;cond (true&&decide ((List.length l2+List.length l)*8<=Bl)) (let l3:=(l2++l);let e3:=List.getD AG c LR;let l4:=List.set AG c (e3.1,(e3.2.1,l3));cond (decide (c=c)&&(true&&true)) (rec c t21 t22 (IntKind.i64.wrap (E4+(1:Int))) Am AB l4 Aq) none) none) none) (k1 Am AB AG Aq)
def Um(m:Nat){β:Type}(k1:Agx β):qW β:=oB (λr=>ZI r k1) none m
theorem Agz{β:Type}(i:Nat)(k1):Um (β:=β) (i+1) k1=ZI (Um i k1) k1:=rfl
def qX{β:Type}:=hid (Um (β:=β) fuel)
noncomputable def Avd:Pb:=⟨122,Agy,λ_=>qX,HY mixed (X:=⟨look tab,gam ZH,false,false,false,false,Dv,none,0,[]⟩) (p:=Agy) BC ZH rfl [] (g:=λi _=>Um i) (by kernel_rfl) rfl (by kernel_rfl) (λ_ _=>rfl) λ_ _ _ _=>by kernel_rfl⟩
def Un:Avc:=hid λl Am AB AG Aq k=>cond (decide ((List.length AG:Int)=(0:Int))) (k 9 Am AB AG Aq) (let i_:=(IntKind.i64.wrap ((List.length AG:Int)-(1:Int)));cond (decide (0<=i_)&&decide (i_<(List.length AG:Int))) (cond (decide (0<=(1:Int))&&(decide ((1:Int)<=(List.length l:Int))&&decide ((List.length l:Int)<=(List.length l:Int)))) (qX (λBn Eu Bk AV=>k 0 Bn Eu Bk AV) (Int.toNat i_) (List.drop (Int.toNat 1) (List.take (Int.toNat (List.length l:Int)) l)) (List.length (List.drop (Int.toNat 1) (List.take (Int.toNat (List.length l:Int)) l)):Int) 0 Am AB AG Aq) none) none)
theorem Ave:SpecOkB Tryz.prog 82 (sg [AA,DS] El [Ab] El Un):=FG mixed (X:=⟨look tab,gam ZH,false,false,false,false,Dv,none,0,[]⟩) BC ZH rfl [Avd] [.tmp 4] Tryz.func82 (by kernel_rfl) λ_ _=>by kernel_rfl
noncomputable def Avf:En:=.hand Ave rfl (by kernel_rfl)
abbrev Avg:={β:Type}->CN->(CN->Bool->Option β)->Option β
noncomputable def AgA:List En:=[AtF]
abbrev AgB(β:Type):=CN->CN->Option β
abbrev qY(β:Type):=CN->CN->Int->Int->E6->Option β
noncomputable def AgC:Pc:=⟨55,0,AL 122 (Ay Tryz.f90),⟨0,[0,4,13,14,15],[DS,DS,CH,Ab,Ab],[.row 9 .str]⟩,[(.exit 0,⟨0,[0,4],[DS,DS],[]⟩)]⟩
def AgD{β:Type}(rec:qY β)(k1:AgB β):qY β:=λl rest C9 Bc BI=>cond (decide (Bc<C9)) (cond (decide (0<=Bc)&&decide (Bc<(List.length BI:Int))) (let s:=(List.getD BI (Int.toNat Bc) ([]:List UInt8));cond (decide ((2:Int)<=(List.length rest:Int))) (cond (decide (0<=(0:Int))&&decide ((0:Int)<(List.length rest:Int))) (let e:=List.getD rest (Int.toNat 0) (0,(([]:List UInt8),0));pI e s (λDG=>cond DG (cond (decide (0<=(1:Int))&&decide ((1:Int)<(List.length rest:Int))) (let e2:=List.getD rest (Int.toNat 1) (0,(([]:List UInt8),0));cond (decide (e2.1=(1:Int))) (cond (decide (0<=(2:Int))&&(decide ((2:Int)<=(List.length rest:Int))&&decide ((List.length rest:Int)<=(List.length rest:Int)))) (let rest2:=(List.drop (Int.toNat 2) (List.take (Int.toNat (List.length rest:Int)) rest));rec l rest2 C9 (IntKind.i64.wrap (Bc+(1:Int))) BI) none) (rec l rest C9 (IntKind.i64.wrap (Bc+(1:Int))) BI)) none) (rec l rest C9 (IntKind.i64.wrap (Bc+(1:Int))) BI))) none) (rec l rest C9 (IntKind.i64.wrap (Bc+(1:Int))) BI)) none) (k1 l rest)
def ZJ(m:Nat){β:Type}(k1:AgB β):qY β:=JB (λr=>AgD r k1) none m
theorem AJI{β:Type}(i:Nat)(k1):ZJ (β:=β) (i+1) k1=AgD (ZJ i k1) k1:=rfl
def AgE{β:Type}:=hid (ZJ (β:=β) fuel)
noncomputable def Avh:Pb:=⟨122,AgC,λ_=>AgE,pl (p:=AgC) AgA [] (g:=λi _=>ZJ i)⟩
def AgF:Avg:=hid λl k=>cond (decide ((List.length l:Int)<(3:Int))) (k l false) (cond (decide (0<=(3:Int))&&(decide ((3:Int)<=(List.length l:Int))&&decide ((List.length l:Int)<=(List.length l:Int)))) (let rest:=(List.drop (Int.toNat 3) (List.take (Int.toNat (List.length l:Int)) l));let l2:=([([119,101,101,107]:List UInt8),([114,101,115,116]:List UInt8)]:List AJ);AgE (λl3 rest2=>cond (decide ((0:Int)<(List.length rest2:Int))) (cond (decide (0<=(0:Int))&&decide ((0:Int)<(List.length rest2:Int))) (let e:=List.getD rest2 (Int.toNat 0) (0,(([]:List UInt8),0));pI e ([99,111,110,115,101,110,116]:List UInt8) (λDG=>cond DG (cond (decide (0<=(1:Int))&&(decide ((1:Int)<=(List.length rest2:Int))&&decide ((List.length rest2:Int)<=(List.length rest2:Int)))) (let rest3:=(List.drop (Int.toNat 1) (List.take (Int.toNat (List.length rest2:Int)) rest2));cond (decide (0<=(0:Int))&&(decide ((0:Int)<=(3:Int))&&decide ((3:Int)<=(List.length l3:Int)))) (let t:=(List.drop (Int.toNat 0) (List.take (Int.toNat 3) l3));let t2:=(decide ((List.length rest3:Int)=(0:Int)));k t t2) none) none) (cond (decide (0<=(0:Int))&&(decide ((0:Int)<=(3:Int))&&decide ((3:Int)<=(List.length l3:Int)))) (let t:=(List.drop (Int.toNat 0) (List.take (Int.toNat 3) l3));let t2:=(decide ((List.length rest2:Int)=(0:Int)));k t t2) none))) none) (cond (decide (0<=(0:Int))&&(decide ((0:Int)<=(3:Int))&&decide ((3:Int)<=(List.length l3:Int)))) (let t:=(List.drop (Int.toNat 0) (List.take (Int.toNat 3) l3));let t2:=(decide ((List.length rest2:Int)=(0:Int)));k t t2) none)) l rest (List.length l2:Int) 0 l2) none)
noncomputable def Avi:En:=⟨90,.spec (sg [DS] [] [DS,AS] [] AgF),pf AgA [Avh] [.tmp 2,.tmp 3] Tryz.func90⟩
abbrev Avj:={β:Type}->AJ->(Bool->Option β)->Option β
noncomputable def AgG:List En:=[AfY,AfX]
abbrev AgH(β:Type):=Bool->Option β
abbrev AgI(β:Type):=Unit->Option β
abbrev qZ(β:Type):=AJ->Int->Int->Option β
noncomputable def AgJ:Pc:=⟨43,0,AL 58 (Ay Tryz.f111),⟨0,[0,19,20],[BR,Ab,Ab],[]⟩,[(.ret,⟨0,[2],[AS],[]⟩),(.exit 0,⟨0,[],[],[]⟩)]⟩
def ZK{β:Type}(rec:qZ β)(k1:AgH β)(k2:AgI β):qZ β:=λs X7 t20=>cond (decide (t20<X7)) (cond (decide (0<=t20)&&decide (t20<(List.length s:Int))) (let c:=((List.getD s (Int.toNat t20) 0).toNat:Int);Nk c (λrsmall=>cond (!rsmall) (OH c (λrdigit=>cond (!rdigit) (cond (!decide (c=95)) (cond (!decide (c=45)) (k1 false) (rec s X7 (IntKind.i64.wrap (t20+(1:Int))))) (rec s X7 (IntKind.i64.wrap (t20+(1:Int))))) (rec s X7 (IntKind.i64.wrap (t20+(1:Int)))))) (rec s X7 (IntKind.i64.wrap (t20+(1:Int)))))) none) (k2 ())
def Uo(m:Nat){β:Type}(k1:AgH β)(k2:AgI β):qZ β:=G8 (λr=>ZK r k1 k2) none m
theorem AgK{β:Type}(i:Nat)(k1 k2):Uo (β:=β) (i+1) k1 k2=ZK (Uo i k1 k2) k1 k2:=rfl
def ZL{β:Type}:=hid (Uo (β:=β) fuel)
noncomputable def Avk:Pb:=⟨58,AgJ,λ_=>ZL,pl (p:=AgJ) AgG [] (g:=λi _=>Uo i)⟩
def La:Avj:=hid λs k=>cond (decide (s=([]:List UInt8))) (k false) (cond (decide ((24:Int)<(List.length s:Int))) (k false) (cond (decide (0<=(0:Int))&&decide ((0:Int)<(List.length s:Int))) (Nk ((List.getD s (Int.toNat 0) 0).toNat:Int) (λrsmall=>cond (!rsmall) (k false) (ZL (λt2=>k t2) (λ_=>k true) s (List.length s:Int) 0))) none))
noncomputable def rA:En:=⟨111,.spec (sg [BR] [] [AS] [] La),pf AgG [Avk] [.tmp 2] Tryz.func111⟩
abbrev Avl:={β:Type}->Int->(Bool->Option β)->Option β
def Up:Avl:=hid λn k=>LY n 0 604800 (λD4=>cond D4 (let t:=(decide ((Int.tmod n 3600)=0));k t) (k false))
noncomputable def Avm:En:=⟨114,.spec (sg [Ab] [] [AS] [] Up),pf [pN] [] [.tmp 2] Tryz.func114⟩
abbrev Avn:={β:Type}->AJ->(Int->Bool->Option β)->Option β
def ZM:Avn:=hid λword k=>Zv ([106,97,110,32,102,101,98,32,109,97,114,32,97,112,114,32,109,97,121,32,106,117,110,32,106,117,108,32,97,117,103,32,115,101,112,32,111,99,116,32,110,111,118,32,100,101,99]:List UInt8) word (λGv X4=>k Gv X4)
noncomputable def AgL:En:=⟨124,.spec (sg [BR] [] [Ab,AS] [] ZM),pf [pP] [] [.tmp 2,.tmp 3] Tryz.func124⟩
abbrev Avo:={β:Type}->AJ->(Int->Bool->Option β)->Option β
def ZN:Avo:=hid λword k=>Zv ([102,105,114,115,116,32,115,101,99,111,110,100,32,116,104,105,114,100,32,102,111,117,114,116,104,32,108,97,115,116]:List UInt8) word (λGv X4=>k Gv X4)
noncomputable def AgM:En:=⟨125,.spec (sg [BR] [] [Ab,AS] [] ZN),pf [pP] [] [.tmp 2,.tmp 3] Tryz.func125⟩
abbrev Avp:={β:Type}->AJ->(Int->Bool->Option β)->Option β
def QV:Avp:=hid λword k=>
 Zv ([109,111,110,32,116,117,101,32,119,101,100,32,116,104,117,32,102,114,105,32,115,97,116,32,115,117,110]:List UInt8) word (λGv X4=>
 let t:=(if(IntKind.i64.wrap (Gv-1))>0 then(IntKind.i64.wrap (Gv-1))else 0);
 k t X4)
noncomputable def rB:En:=⟨126,.spec (sg [BR] [] [Ab,AS] [] QV),pf [pP] [] [.tmp 2,.tmp 3] Tryz.func126⟩
abbrev Avq:={β:Type}->CN->(BJ->Int->Option β)->Option β
def Uq:Avq:=hid λl k=>cond (decide (0<=(1:Int))&&decide ((1:Int)<(List.length l:Int))) (let e:=List.getD l (Int.toNat 1) (0,(([]:List UInt8),0));QV e.2.1 (λPT AbK=>cond (decide (0<=(3:Int))&&decide ((3:Int)<(List.length l:Int))) (let e2:=List.getD l (Int.toNat 3) (0,(([]:List UInt8),0));QV e2.2.1 (λAJt AJu=>cond (!AbK) (k (0,0) 2) (cond (!AJu) (k (0,0) 2) (cond (decide (0<=(2:Int))&&decide ((2:Int)<(List.length l:Int))) (let e3:=List.getD l (Int.toNat 2) (0,(([]:List UInt8),0));cond (decide (0<=(4:Int))&&decide ((4:Int)<(List.length l:Int))) (let e4:=List.getD l (Int.toNat 4) (0,(([]:List UInt8),0));k ((IntKind.i64.wrap ((IntKind.i64.wrap (PT*86400))+e3.2.2)),(IntKind.i64.wrap ((IntKind.i64.wrap (AJt*(86400:Int)))+e4.2.2))) 0) none) none)))) none)) none
noncomputable def ZO:En:=⟨131,.spec (sg [DS] [] [(true,[.data (.prod (.int .i64) (.int .i64))]),Ab] [] Uq),pf [rB] [] [.cell 2 157,.tmp 3] Tryz.func131⟩
abbrev Avr:={β:Type}->(Int->Option β)->Option β
def Ur:Avr:=hid λk=>TZ 2241 (λryear=>let t:=(IntKind.i64.wrap (ryear-1));k t)
noncomputable def rC:En:=⟨152,.spec (sg [] [] [Ab] [] Ur),pf [Ag6] [] [.tmp 0] Tryz.func152⟩
abbrev Avs:={β:Type}->As->AU->(Int->Option β)->Option β
noncomputable def Us:List En:=[rC,AfW,TU]
abbrev AgN(β:Type):=Int->Option β
abbrev AgO(β:Type):=As->AU->Option β
abbrev rD(β:Type):=Int->As->AU->Option β
noncomputable def AgP:Pc:=⟨102,0,AL 58 (Ay Tryz.f153),⟨0,[2,3,5],[AA,Ck,Ab],[Cj,LU]⟩,[(.ret,⟨0,[4],[Ab],[]⟩),(.exit 1,⟨0,[2,3],[AA,Ck],[Cj,LU]⟩)]⟩
abbrev Avt(β:Type):=Int->Option β
abbrev Avu(β:Type):=Unit->Option β
abbrev Avv(β:Type):=Bool->AU->Option β
noncomputable def AgQ:Pc:=⟨102,0,AL 1951 (Ay Tryz.f153),⟨0,[3,79],[AA,AS],[LU]⟩,[(.ret,⟨0,[4],[Ab],[]⟩),(.normal,⟨0,[],[],[]⟩)]⟩
abbrev Avw(β:Type):=Int->Option β
abbrev Avx(β:Type):=As->AU->Option β
noncomputable def AgR:Pc:=⟨102,0,AL 7 (Ay Tryz.f153),⟨0,[2,3],[AA,Ck],[Cj,LU]⟩,[(.ret,⟨0,[4],[Ab],[]⟩)]⟩
abbrev Avy(β:Type):=Int->Option β
abbrev Avz(β:Type):=As->AU->Option β
abbrev AvA(β:Type):=Bool->As->AU->Option β
noncomputable def AgS:Pc:=⟨102,0,AL 103 (Ay Tryz.f153),⟨0,[2,3,15],[AA,Ck,AS],[Cj,LU]⟩,[(.ret,⟨0,[4],[Ab],[]⟩),(.normal,⟨0,[2,3],[AA,Ck],[Cj,LU]⟩)]⟩
def ZP{β:Type}(rec:rD β)(k1:AgN β)(k2:AgO β):rD β:=λi_ c l=>cond (decide (i_<(List.length l.2.2.2.2.2.1:Int))) (cond (decide (0<=i_)&&decide (i_<(List.length l.2.2.2.2.2.1:Int))) (let e:=List.getD l.2.2.2.2.2.1 (Int.toNat i_) 0;Gq e 0 (IntKind.i64.wrap ((List.length c.2.1:Int)-(1:Int))) (λD4=>cond (!D4) (k1 3) (let Bz:=(IntKind.i64.wrap (i_+1));rec Bz c l))) none) (k2 c l)
def Ut(m:Nat){β:Type}(k1:AgN β)(k2:AgO β):rD β:=G8 (λr=>ZP r k1 k2) none m
theorem AgT{β:Type}(i:Nat)(k1 k2):Ut (β:=β) (i+1) k1 k2=ZP (Ut i k1 k2) k1 k2:=rfl
def rE{β:Type}:=hid (Ut (β:=β) fuel)
noncomputable def AvB:Pb:=⟨58,AgP,λ_=>rE,pl (p:=AgP) Us [] (g:=λi _=>Ut i)⟩
def rF{β:Type}(k1:Avt β)(k2:Avu β):Avv β:=λAJC l=>cond AJC (k1 3) (cond (decide (l.2.2.2.2.2.2.2.2=(0:Int))) (let t:=(!decide (l.2.2.2.2.2.2.2.1=(0:Int)));cond t (k1 1) (k2 ())) (k2 ()))
def Uu{β:Type}:=hid (rF (β:=β))
noncomputable def AvC:Pb:=⟨1951,AgQ,λ_=>Uu,pe (p:=AgQ) Us [] 1951 (g:=λ_=>rF)⟩
def rG{β:Type}(k1:Avw β):Avx β:=λc l=>rE (λt4=>k1 t4) (λc2 l2=>TW l2.2.2.2.2.2.2.1 (λFR=>let t:=(!decide (FR=0));cond t (k1 8) (Gq l2.2.2.2.2.2.2.2.2 0 2 (λD4=>cond (!D4) (k1 1) (cond (!decide (l2.2.2.2.2.2.2.2.2=(0:Int))) (Gq l2.2.2.2.2.2.2.2.1 0 (IntKind.i64.wrap ((List.length c2.2.2.1:Int)-(1:Int))) (λJu=>Uu (λt4=>k1 t4) (λ_=>k1 0) (!Ju) l2)) (Uu (λt4=>k1 t4) (λ_=>k1 0) false l2)))))) 0 c l
def OM{β:Type}:=hid (rG (β:=β))
noncomputable def AvD:Pb:=⟨7,AgR,λ_=>OM,pe (p:=AgR) Us [AvB,AvC] 7 (g:=λ_=>rG)⟩
def rH{β:Type}(k1:Avy β)(k2:Avz β):AvA β:=λBc c l=>cond Bc (k1 1) (let t:=(decide ((List.length l.2.2.2.2.2.1:Int)=(0:Int)));cond t (k1 7) (let t2:=(decide ((12:Int)<(List.length l.2.2.2.2.2.1:Int)));cond t2 (k1 5) (k2 c l)))
def QW{β:Type}:=hid (rH (β:=β))
noncomputable def AvE:Pb:=⟨103,AgS,λ_=>QW,pe (p:=AgS) Us [] 103 (g:=λ_=>rH)⟩
def ZQ:Avs:=hid λc l k=>Gq l.2.1 0 (IntKind.i64.wrap ((List.length c.1:Int)-(1:Int))) (λD4=>cond (!D4) (k 3) (Ur (λXx=>Gq l.2.2.1.1 1 Xx (λJu=>cond (!Ju) (QW (λt4=>k t4) (λc2 l2=>OM (λt4=>k t4) c2 l2) true c l) (Gq l.2.2.1.2 0 86399 (λJv=>cond (!Jv) (QW (λt4=>k t4) (λc2 l2=>OM (λt4=>k t4) c2 l2) true c l) (Gq l.2.2.2.1 0 2 (λX2=>cond (!X2) (QW (λt4=>k t4) (λc2 l2=>OM (λt4=>k t4) c2 l2) true c l) (Gq l.2.2.2.2.1 1 400 (λX3=>QW (λt4=>k t4) (λc2 l2=>OM (λt4=>k t4) c2 l2) (!X3) c l))))))))))
noncomputable def AvF:En:=⟨153,.spec (sg [ED,Nh] [] [Ab] [] ZQ),pf Us [AvD,AvE] [.tmp 4] Tryz.func153⟩
abbrev AvG:={β:Type}->As->BA->(Int->Option β)->Option β
noncomputable def Uv:List En:=[rC,TU]
abbrev AvH(β:Type):=Int->Option β
abbrev AvI(β:Type):=Unit->Option β
abbrev AvJ(β:Type):=Bool->BA->Option β
noncomputable def AgU:Pc:=⟨86,0,AL 14847 (Ay Tryz.f154),⟨0,[3,64],[AA,AS],[HZ]⟩,[(.ret,⟨0,[4],[Ab],[]⟩),(.normal,⟨0,[],[],[]⟩)]⟩
abbrev AvK(β:Type):=Int->Option β
abbrev AvL(β:Type):=Unit->Option β
abbrev AvM(β:Type):=Bool->BA->Option β
noncomputable def AgV:Pc:=⟨86,0,AL 3711 (Ay Tryz.f154),⟨0,[3,53],[AA,AS],[HZ]⟩,[(.ret,⟨0,[4],[Ab],[]⟩),(.normal,⟨0,[],[],[]⟩)]⟩
abbrev AvN(β:Type):=Int->Option β
abbrev AvO(β:Type):=Unit->Option β
abbrev AvP(β:Type):=Bool->BA->Option β
noncomputable def AgW:Pc:=⟨86,0,AL 927 (Ay Tryz.f154),⟨0,[3,44],[AA,AS],[HZ]⟩,[(.ret,⟨0,[4],[Ab],[]⟩),(.normal,⟨0,[],[],[]⟩)]⟩
abbrev AvQ(β:Type):=Int->Option β
abbrev AvR(β:Type):=Unit->Option β
abbrev AvS(β:Type):=Bool->BA->Option β
noncomputable def AgX:Pc:=⟨86,0,AL 231 (Ay Tryz.f154),⟨0,[3,14],[AA,AS],[HZ]⟩,[(.ret,⟨0,[4],[Ab],[]⟩),(.normal,⟨0,[],[],[]⟩)]⟩
def rI{β:Type}(k1:AvH β)(k2:AvI β):AvJ β:=λFC x=>cond FC (k1 1) (let t:=(decide (x.2.2.2.2<=x.2.2.2.1));cond t (k1 6) (k2 ()))
def QX{β:Type}:=hid (rI (β:=β))
noncomputable def AvT:Pb:=⟨14847,AgU,λ_=>QX,pe (p:=AgU) Uv [] 14847 (g:=λ_=>rI)⟩
def rJ{β:Type}(k1:AvK β)(k2:AvL β):AvM β:=λt53 x=>cond t53 (k1 4) (cond (decide (x.2.2.2.1<(0:Int))) (QX (λt4=>k1 t4) (λ_=>k2 ()) true x) (cond (decide (x.2.2.2.2<(0:Int))) (QX (λt4=>k1 t4) (λ_=>k2 ()) true x) (Ur (λXx=>let t:=(decide (Xx<(IntKind.i64.wrap (Int.tdiv x.2.2.2.2 86400))));QX (λt4=>k1 t4) (λ_=>k2 ()) t x))))
def Uw{β:Type}:=hid (rJ (β:=β))
noncomputable def AvU:Pb:=⟨3711,AgV,λ_=>Uw,pe (p:=AgV) Uv [AvT] 3711 (g:=λ_=>rJ)⟩
def rK{β:Type}(k1:AvN β)(k2:AvO β):AvP β:=λAJy x=>cond AJy (k1 1) (cond (decide (x.1=(2:Int))) (let t:=(decide (x.2.1=x.2.2.1));Uw (λt4=>k1 t4) (λ_=>k2 ()) t x) (Uw (λt4=>k1 t4) (λ_=>k2 ()) false x))
def Ux{β:Type}:=hid (rK (β:=β))
noncomputable def AvV:Pb:=⟨927,AgW,λ_=>Ux,pe (p:=AgW) Uv [AvU] 927 (g:=λ_=>rK)⟩
def rL{β:Type}(k1:AvQ β)(k2:AvR β):AvS β:=λC9 x=>cond C9 (k1 3) (cond (!decide (x.1=(2:Int))) (let t:=(!decide (x.2.2.1=(0:Int)));Ux (λt4=>k1 t4) (λ_=>k2 ()) t x) (Ux (λt4=>k1 t4) (λ_=>k2 ()) false x))
def Kh{β:Type}:=hid (rL (β:=β))
noncomputable def AvW:Pb:=⟨231,AgX,λ_=>Kh,pe (p:=AgX) Uv [AvV] 231 (g:=λ_=>rL)⟩
def ZR:AvG:=hid λc x k=>Gq x.1 0 2 (λD4=>cond (!D4) (k 1) (Gq x.2.1 0 (IntKind.i64.wrap ((List.length c.2.1:Int)-(1:Int))) (λJu=>cond (!Ju) (cond (!decide (x.1=(1:Int))) (Kh (λt4=>k t4) (λ_=>k 0) true x) (cond (!decide (x.2.1=(-1:Int))) (Kh (λt4=>k t4) (λ_=>k 0) true x) (cond (decide (x.1=(2:Int))) (Gq x.2.2.1 0 (IntKind.i64.wrap ((List.length c.2.1:Int)-(1:Int))) (λJv=>Kh (λt4=>k t4) (λ_=>k 0) (!Jv) x)) (Kh (λt4=>k t4) (λ_=>k 0) false x)))) (cond (decide (x.1=(2:Int))) (Gq x.2.2.1 0 (IntKind.i64.wrap ((List.length c.2.1:Int)-(1:Int))) (λJv=>Kh (λt4=>k t4) (λ_=>k 0) (!Jv) x)) (Kh (λt4=>k t4) (λ_=>k 0) false x)))))
noncomputable def AvX:En:=⟨154,.spec (sg [ED,Tt] [] [Ab] [] ZR),pf Uv [AvW] [.tmp 4] Tryz.func154⟩
abbrev AvY:={β:Type}->AJ->(Bool->Option β)->Option β
noncomputable def AgY:List En:=[Aub]
abbrev AgZ(β:Type):=Bool->Option β
abbrev Ah0(β:Type):=Unit->Option β
abbrev rM(β:Type):=AJ->Int->Option β
noncomputable def Ah1:Pc:=⟨57,0,AL 58 (Ay Tryz.f181),⟨0,[0,3],[BR,Ab],[]⟩,[(.ret,⟨0,[2],[AS],[]⟩),(.exit 0,⟨0,[],[],[]⟩)]⟩
def ZS{β:Type}(rec:rM β)(k1:AgZ β)(k2:Ah0 β):rM β:=λs i_=>cond (decide (i_<(List.length s:Int))) (cond (decide (0<=i_)&&decide (i_<(List.length s:Int))) (cond (decide (((List.getD s (Int.toNat i_) 0).toNat:Int)<(97:Int))) (cond (decide (0<=i_)&&decide (i_<(List.length s:Int))) (QS ((List.getD s (Int.toNat i_) 0).toNat:Int) (λrdigit=>cond (!rdigit) (cond (decide (0<=i_)&&decide (i_<(List.length s:Int))) (cond (!decide (((List.getD s (Int.toNat i_) 0).toNat:Int)=(95:Int))) (cond (decide (0<=i_)&&decide (i_<(List.length s:Int))) (cond (!decide (((List.getD s (Int.toNat i_) 0).toNat:Int)=(45:Int))) (k1 false) (let Bz:=(IntKind.i64.wrap (i_+1));rec s Bz)) none) (let Bz:=(IntKind.i64.wrap (i_+1));rec s Bz)) none) (let Bz:=(IntKind.i64.wrap (i_+1));rec s Bz))) none) (cond (decide (0<=i_)&&decide (i_<(List.length s:Int))) (cond (decide ((122:Int)<((List.getD s (Int.toNat i_) 0).toNat:Int))) (cond (decide (0<=i_)&&decide (i_<(List.length s:Int))) (QS ((List.getD s (Int.toNat i_) 0).toNat:Int) (λrdigit=>cond (!rdigit) (cond (decide (0<=i_)&&decide (i_<(List.length s:Int))) (cond (!decide (((List.getD s (Int.toNat i_) 0).toNat:Int)=(95:Int))) (cond (decide (0<=i_)&&decide (i_<(List.length s:Int))) (cond (!decide (((List.getD s (Int.toNat i_) 0).toNat:Int)=(45:Int))) (k1 false) (let Bz:=(IntKind.i64.wrap (i_+1));rec s Bz)) none) (let Bz:=(IntKind.i64.wrap (i_+1));rec s Bz)) none) (let Bz:=(IntKind.i64.wrap (i_+1));rec s Bz))) none) (let Bz:=(IntKind.i64.wrap (i_+1));rec s Bz)) none)) none) (k2 ())
def Uy(m:Nat){β:Type}(k1:AgZ β)(k2:Ah0 β):rM β:=YY (λr=>ZS r k1 k2) none m
theorem Ah2{β:Type}(i:Nat)(k1 k2):Uy (β:=β) (i+1) k1 k2=ZS (Uy i k1 k2) k1 k2:=rfl
def rN{β:Type}:=hid (Uy (β:=β) fuel)
noncomputable def AvZ:Pb:=⟨58,Ah1,λ_=>rN,pl (p:=Ah1) AgY [] (g:=λi _=>Uy i)⟩
def ZT:AvY:=hid λs k=>cond (decide ((List.length s:Int)<(1:Int))) (k false) (cond (decide ((24:Int)<(List.length s:Int))) (k false) (cond (decide (0<=(0:Int))&&decide ((0:Int)<(List.length s:Int))) (cond (decide (((List.getD s (Int.toNat 0) 0).toNat:Int)<(97:Int))) (k false) (cond (decide (0<=(0:Int))&&decide ((0:Int)<(List.length s:Int))) (cond (decide ((122:Int)<((List.getD s (Int.toNat 0) 0).toNat:Int))) (k false) (rN (λt2=>k t2) (λ_=>k true) s 0)) none)) none))
noncomputable def Aw0:En:=⟨181,.spec (sg [BR] [] [AS] [] ZT),pf AgY [AvZ] [.tmp 2] Tryz.func181⟩
abbrev Aw1:={β:Type}->AJ->(Int->Bool->Option β)->Option β
noncomputable def Ah3:List En:=[AfY,Auj]
abbrev rO(β:Type):=Int->Bool->Option β
abbrev rP(β:Type):=AJ->Option β
abbrev rQ(β:Type):=AJ->Int->Int->Option β
noncomputable def Ah4:Pc:=⟨31,0,AL 26 (Ay Tryz.f198),⟨0,[0,8,9],[BR,Ab,Ab],[]⟩,[(.ret,⟨0,[2,3],[Ab,AS],[]⟩),(.exit 0,⟨0,[0],[BR],[]⟩)]⟩
def ZU{β:Type}(rec:rQ β)(k1:rO β)(k2:rP β):rQ β:=λs t8 t9=>cond (decide (t9<t8)) (cond (decide (0<=t9)&&decide (t9<(List.length s:Int))) (OH ((List.getD s (Int.toNat t9) 0).toNat:Int) (λrdigit=>cond (!rdigit) (k1 0 false) (rec s t8 (IntKind.i64.wrap (t9+(1:Int)))))) none) (k2 s)
def Uz(m:Nat){β:Type}(k1:rO β)(k2:rP β):rQ β:=G8 (λr=>ZU r k1 k2) none m
theorem Ah5{β:Type}(i:Nat)(k1 k2):Uz (β:=β) (i+1) k1 k2=ZU (Uz i k1 k2) k1 k2:=rfl
def rR{β:Type}:=hid (Uz (β:=β) fuel)
noncomputable def Aw2:Pb:=⟨26,Ah4,λ_=>rR,pl (p:=Ah4) Ah3 [] (g:=λi _=>Uz i)⟩
def QY:Aw1:=hid λs k=>rR (λt2 t3=>k t2 t3) (λs2=>pV s2 (λAoW AIU=>cond AIU (let t:=(decide ((List.length s2:Int)<=(9:Int)));k AoW t) (k AoW false))) s (List.length s:Int) 0
noncomputable def rS:En:=⟨198,.spec (sg [BR] [] [Ab,AS] [] QY),pf Ah3 [Aw2] [.tmp 2,.tmp 3] Tryz.func198⟩
abbrev Aw3:={β:Type}->Int->(Int->Option β)->Option β
def Nm:Aw3:=hid λEe k=>let y:=(IntKind.i64.wrap (Ee-1));OI y 4 (λrfloor=>OI y 100 (λrfloor2=>OI y 400 (λrfloor3=>let t:=(IntKind.i64.wrap ((IntKind.i64.wrap ((IntKind.i64.wrap ((IntKind.i64.wrap ((IntKind.i64.wrap (365*(IntKind.i64.wrap (Ee-1970))))+rfloor))-rfloor2))+rfloor3))-477));k t)))
noncomputable def rT:En:=⟨201,.spec (sg [Ab] [] [Ab] [] Nm),pf [Agc] [] [.tmp 2] Tryz.func201⟩
abbrev Aw4:={β:Type}->Int->(Int->Option β)->Option β
noncomputable def Ah6:List En:=[rT,Agc]
abbrev rU(β:Type):=Int->Option β
abbrev rV(β:Type):=Int->Int->Option β
noncomputable def Ah7:Pc:=⟨15,0,AL 28 (Ay Tryz.f202),⟨0,[0,3],[Ab,Ab],[]⟩,[(.exit 0,⟨0,[3],[Ab],[]⟩)]⟩
def U0{β:Type}(rec:rV β)(k1:rU β):rV β:=λday y=>Nm (IntKind.i64.wrap (y+1)) (λrcount=>cond (decide (rcount<=day)) (let y2:=(IntKind.i64.wrap (y+1));rec day y2) (k1 y))
def U1(m:Nat){β:Type}(k1:rU β):rV β:=YY (λr=>U0 r k1) none m
theorem rW{β:Type}(i:Nat)(k1):U1 (β:=β) (i+1) k1=U0 (U1 i k1) k1:=rfl
def rX{β:Type}:=hid (U1 (β:=β) fuel)
noncomputable def Aw5:Pb:=⟨28,Ah7,λ_=>rX,pl (p:=Ah7) Ah6 [] (g:=λi _=>U1 i)⟩
def ZV:Aw4:=hid λday k=>OI day 366 (λrfloor=>let y:=(IntKind.i64.wrap (1970+rfloor));rX (λy2=>k y2) day y)
noncomputable def Aw6:En:=⟨202,.spec (sg [Ab] [] [Ab] [] ZV),pf Ah6 [Aw5] [.tmp 2] Tryz.func202⟩
abbrev Ah8:={β:Type}->Int->Int->(Int->Option β)->Option β
def EU:Ah8:=λEe Ch k=>cond (decide (Ch<1)) (k 0) (cond (decide ((12:Int)<Ch)) (k 0) (cond (decide (Ch=2)) (Zz Ee (λAbF=>cond AbF (k 29) (cond (decide ((IntKind.i64.wrap (Ch-1))=0)) (k 31) (cond (decide ((IntKind.i64.wrap (Ch-1))=1)) (k 28) (cond (decide ((IntKind.i64.wrap (Ch-1))=2)) (k 31) (cond (decide ((IntKind.i64.wrap (Ch-1))=3)) (k 30) (cond (decide ((IntKind.i64.wrap (Ch-1))=4)) (k 31) (cond (decide ((IntKind.i64.wrap (Ch-1))=5)) (k 30) (cond (decide ((IntKind.i64.wrap (Ch-1))=6)) (k 31) (cond (decide ((IntKind.i64.wrap (Ch-1))=7)) (k 31) (cond (decide ((IntKind.i64.wrap (Ch-1))=8)) (k 30) (cond (decide ((IntKind.i64.wrap (Ch-1))=9)) (k 31) (cond (decide ((IntKind.i64.wrap (Ch-1))=10)) (k 30) (cond (decide ((IntKind.i64.wrap (Ch-1))=11)) (k 31) (none))))))))))))))) (cond (decide ((IntKind.i64.wrap (Ch-1))=0)) (k 31) (cond (decide ((IntKind.i64.wrap (Ch-1))=1)) (k 28) (cond (decide ((IntKind.i64.wrap (Ch-1))=2)) (k 31) (cond (decide ((IntKind.i64.wrap (Ch-1))=3)) (k 30) (cond (decide ((IntKind.i64.wrap (Ch-1))=4)) (k 31) (cond (decide ((IntKind.i64.wrap (Ch-1))=5)) (k 30) (cond (decide ((IntKind.i64.wrap (Ch-1))=6)) (k 31) (cond (decide ((IntKind.i64.wrap (Ch-1))=7)) (k 31) (cond (decide ((IntKind.i64.wrap (Ch-1))=8)) (k 30) (cond (decide ((IntKind.i64.wrap (Ch-1))=9)) (k 31) (cond (decide ((IntKind.i64.wrap (Ch-1))=10)) (k 30) (cond (decide ((IntKind.i64.wrap (Ch-1))=11)) (k 31) (none)))))))))))))))
def DM:Ah8:=hid EU
noncomputable def ZW:En:=⟨203,.spec (sg [Ab,Ab] [] [Ab] [] DM),pf [Auo] [] [.tmp 4] Tryz.func203⟩
abbrev Aw7:={β:Type}->Int->Int->(AJ->Option β)->Option β
def LZ:Aw7:=hid λx n k=>
 Ua x (λPQ=>
 pW ([48]:List UInt8) (if(IntKind.i64.wrap (n-(List.length PQ:Int)))>0 then(IntKind.i64.wrap (n-(List.length PQ:Int)))else 0) (λAp1=>
 cond (decide (List.length Ap1+List.length PQ<=9223372036854775807))
 (k (Ap1++PQ))
 none))
noncomputable def Ah9:En:=⟨215,.spec (sg [Ab,Ab] [] [BR] [] LZ),pf [Ag8,Aut] [] [.tmp 4] Tryz.func215⟩
abbrev Aw8:={β:Type}->AJ->(Int->Bool->Option β)->Option β
def QZ:Aw8:=hid λs k=>QY s (λFy PU=>cond PU (let t:=(decide ((List.length s:Int)=(2:Int)));k Fy t) (k Fy false))
noncomputable def Aha:En:=⟨224,.spec (sg [BR] [] [Ab,AS] [] QZ),pf [rS] [] [.tmp 2,.tmp 3] Tryz.func224⟩
abbrev Aw9:={β:Type}->Iu->(Bool->Option β)->Option β
def ON:Aw9:=hid λd k=>cond (decide ((1970:Int)<=d.1)) (cond (decide (d.1<=(2240:Int))) (cond (decide ((1:Int)<=d.2.2)) (DM d.1 d.2.1 (λJt=>k (decide (d.2.2<=Jt)))) (k false)) (k false)) (k false)
noncomputable def Ahb:En:=⟨238,.spec (sg [QJ] [] [AS] [] ON),pf [ZW] [] [.tmp 2] Tryz.func238⟩
abbrev Awa:={β:Type}->Iu->(Int->Option β)->Option β
noncomputable def Ahc:List En:=[ZW,rT]
abbrev rY(β:Type):=Int->Option β
abbrev rZ(β:Type):=Int->Int->Iu->Option β
noncomputable def Ahd:Pc:=⟨25,0,AL 58 (Ay Tryz.f239),⟨0,[1,3,4],[AA,Ab,Ab],[O4]⟩,[(.exit 0,⟨0,[3],[Ab],[]⟩)]⟩
def ZX{β:Type}(rec:rZ β)(k1:rY β):rZ β:=λn m d=>cond (decide (m<d.2.1)) (DM d.1 m (λJt=>let n2:=(IntKind.i64.wrap (n+Jt));let m2:=(IntKind.i64.wrap (m+1));rec n2 m2 d)) (k1 n)
def U2(m:Nat){β:Type}(k1:rY β):rZ β:=G8 (λr=>ZX r k1) none m
theorem Ahe{β:Type}(i:Nat)(k1):U2 (β:=β) (i+1) k1=ZX (U2 i k1) k1:=rfl
def ZY{β:Type}:=hid (U2 (β:=β) fuel)
noncomputable def Awb:Pb:=⟨58,Ahd,λ_=>ZY,pl (p:=Ahd) Ahc [] (g:=λi _=>U2 i)⟩
def OO:Awa:=hid λd k=>Nm d.1 (λrcount=>let n:=(IntKind.i64.wrap ((IntKind.i64.wrap (rcount+d.2.2))-1));ZY (λn2=>k n2) n 1 d)
noncomputable def Ahf:En:=⟨239,.spec (sg [QJ] [] [Ab] [] OO),pf Ahc [Awb] [.tmp 2] Tryz.func239⟩
abbrev Awc:={β:Type}->Int->Int->(Int->Option β)->Option β
noncomputable def s5:List En:=[Auz]
abbrev Awd(β:Type):=Int->Option β
abbrev Awe(β:Type):=Unit->Option β
abbrev Awf(β:Type):=Int->Int->Bool->Option β
noncomputable def Ahg:Pc:=⟨23,0,AL 215 (Ay Tryz.f246),⟨0,[0,5,14],[Ab,Ab,AS],[]⟩,[(.ret,⟨0,[4],[Ab],[]⟩),(.normal,⟨0,[],[],[]⟩)]⟩
abbrev Awg(β:Type):=Int->Option β
abbrev Awh(β:Type):=Unit->Option β
abbrev Awi(β:Type):=Int->Int->Bool->Option β
noncomputable def Ahh:Pc:=⟨23,0,AL 53 (Ay Tryz.f246),⟨0,[0,5,6],[Ab,Ab,AS],[]⟩,[(.ret,⟨0,[4],[Ab],[]⟩),(.normal,⟨0,[],[],[]⟩)]⟩
def Ahi{β:Type}(k1:Awd β)(k2:Awe β):Awf β:=λEe t5 C9=>cond C9 (k1 30) (let t:=(decide (t5=(2:Int)));cond t (Ub Ee (λAbF=>cond AbF (k1 29) (k1 28))) (k2 ()))
def U3{β:Type}:=hid (Ahi (β:=β))
noncomputable def Awj:Pb:=⟨215,Ahg,λ_=>U3,pe (p:=Ahg) s5 [] 215 (g:=λ_=>Ahi)⟩
def Ahj{β:Type}(k1:Awg β)(k2:Awh β):Awi β:=λEe t5 t6=>cond t6 (k1 31) (let t:=(decide (t5=(4:Int)));cond t (U3 (λt4=>k1 t4) (λ_=>k2 ()) Ee t5 t) (let t2:=(decide (t5=(6:Int)));cond t2 (U3 (λt4=>k1 t4) (λ_=>k2 ()) Ee t5 t2) (let t3:=(decide (t5=(9:Int)));cond t3 (U3 (λt4=>k1 t4) (λ_=>k2 ()) Ee t5 t3) (let t4:=(decide (t5=(11:Int)));U3 (λME=>k1 ME) (λ_=>k2 ()) Ee t5 t4))))
def Nn{β:Type}:=hid (Ahj (β:=β))
noncomputable def Awk:Pb:=⟨53,Ahh,λ_=>Nn,pe (p:=Ahh) s5 [Awj] 53 (g:=λ_=>Ahj)⟩
def Hm:Awc:=hid λEe Ch k=>let t:=(decide (Ch=1));cond t (Nn (λt4=>k t4) (λ_=>k 0) Ee Ch t) (let t2:=(decide (Ch=3));cond t2 (Nn (λt4=>k t4) (λ_=>k 0) Ee Ch t2) (let t3:=(decide (Ch=5));cond t3 (Nn (λt4=>k t4) (λ_=>k 0) Ee Ch t3) (let t4:=(decide (Ch=7));cond t4 (Nn (λME=>k ME) (λ_=>k 0) Ee Ch t4) (let t5:=(decide (Ch=8));cond t5 (Nn (λME=>k ME) (λ_=>k 0) Ee Ch t5) (let t6:=(decide (Ch=10));cond t6 (Nn (λME=>k ME) (λ_=>k 0) Ee Ch t6) (let t7:=(decide (Ch=12));Nn (λME=>k ME) (λ_=>k 0) Ee Ch t7))))))
noncomputable def s6:En:=⟨246,.spec (sg [Ab,Ab] [] [Ab] [] Hm),pf s5 [Awk] [.tmp 4] Tryz.func246⟩
abbrev Awl:={β:Type}->Iu->(Bool->Option β)->Option β
def s7:Awl:=hid λd k=>cond (decide ((1970:Int)<=d.1)) (cond (decide (d.1<=(2240:Int))) (cond (decide ((1:Int)<=d.2.1)) (cond (decide (d.2.1<=(12:Int))) (cond (decide ((1:Int)<=d.2.2)) (Hm d.1 d.2.1 (λJt=>k (decide (d.2.2<=Jt)))) (k false)) (k false)) (k false)) (k false)) (k false)
noncomputable def Awm:En:=⟨260,.spec (sg [QJ] [] [AS] [] s7),pf [s6] [] [.tmp 2] Tryz.func260⟩
end
end Go.Lift
