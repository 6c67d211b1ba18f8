/- Part9: Fn0, Fn1, LBase. -/
import Derived.Test.YthcfejpkighedaaGreatDoorProg
import Derived.Test.YthcfejpkighedaaGreatDoorPart8
set_option linter.unusedVariables false
set_option linter.unusedSectionVars false
set_option linter.unusedSimpArgs false
namespace Go.Lift
open Go.Proofs
noncomputable section
variable [Sl]
set_option maxRecDepth 100000
set_option linter.unusedVariables false
abbrev zq0 := (List UInt8 × (Int × List Int))
abbrev zq1 : Ty := (.prod .str (.prod (.int .i64) (.slice (.int .i64))))
abbrev zq2 := (List UInt8 × (Int × ((Int × Int) × (Int × (Int × (List Int × (List (Int × Int) × (Int × Int))))))))
abbrev zq3 : Ty := (.prod .str (.prod (.int .i64) (.prod (.prod (.int .i64) (.int .i64)) (.prod (.int .i64) (.prod (.int .i64) (.prod (.slice (.int .i64)) (.prod (.slice (.prod (.int .i64) (.int .i64))) (.prod (.int .i64) (.int .i64)))))))))
abbrev zq4 := (List UInt8 × (List zq2 × List (Int × (Int × (Int × (Int × Int))))))
abbrev zq5 : Ty := (.prod .str (.prod (.slice zq3) (.slice (.prod (.int .i64) (.prod (.int .i64) (.prod (.int .i64) (.prod (.int .i64) (.int .i64))))))))
abbrev zq6 := (Int × (List UInt8 × Int))
abbrev zq7 : Ty := (.prod (.int .i64) (.prod .str (.int .i64)))
abbrev zq8 := (Int × (Int × (Int × (Int × (Int × (Int × Int))))))
abbrev zq9 : Ty := (.prod (.int .i64) (.prod (.int .i64) (.prod (.int .i64) (.prod (.int .i64) (.prod (.int .i64) (.prod (.int .i64) (.int .i64)))))))
abbrev zqa := (List UInt8 × (Int × List zq8))
abbrev zqb : Ty := (.prod .str (.prod (.int .i64) (.slice zq9)))
abbrev zqc := (List UInt8 × (List Int × Bool))
abbrev zqd : Ty := (.prod .str (.prod (.slice (.int .i64)) .bool))
abbrev zqe := (List UInt8 × (Int × (List (Int × Int) × (Int × (Int × Bool)))))
abbrev zqf : Ty := (.prod .str (.prod (.int .i64) (.prod (.slice (.prod (.int .i64) (.int .i64))) (.prod (.int .i64) (.prod (.int .i64) .bool)))))
abbrev zqg := (List zqa × (List zqe × (List zq0 × List zq4)))
abbrev zqh : Ty := (.prod (.slice zqb) (.prod (.slice zqf) (.prod (.slice zq1) (.slice zq5))))
abbrev zqi : zq6 := ((0 : Int), (([] : List UInt8), (0 : Int)))
abbrev zqj : zqc := (([] : List UInt8), (([] : List Int), false))
abbrev zqk : zq0 := (([] : List UInt8), ((0 : Int), ([] : List Int)))
abbrev zql : zqa := (([] : List UInt8), ((0 : Int), ([] : List zq8)))
abbrev zqm : zq8 := ((0 : Int), ((0 : Int), ((0 : Int), ((0 : Int), ((0 : Int), ((0 : Int), (0 : Int)))))))
abbrev zqn : zqe := (([] : List UInt8), ((0 : Int), (([] : List (Int × Int)), ((0 : Int), ((0 : Int), false)))))
abbrev zqo : zq4 := (([] : List UInt8), (([] : List zq2), ([] : List (Int × (Int × (Int × (Int × Int)))))))
abbrev zqp : zqg := (([] : List zqa), (([] : List zqe), (([] : List zq0), ([] : List zq4))))
abbrev zqq : zq2 := (([] : List UInt8), ((0 : Int), (((0 : Int), (0 : Int)), ((0 : Int), ((0 : Int), (([] : List Int), (([] : List (Int × Int)), ((0 : Int), (0 : Int)))))))))
abbrev t1y := List zq0
abbrev t2y := List zq4
abbrev t3y := List zqe
abbrev t4y := List zqa
abbrev t5y := List UInt8
abbrev t6y := Int × Int
abbrev t0y := Int × (Int × (Int × t6y))
abbrev t7y := List Int × Int
abbrev t8y := List zq6
abbrev t9y := Int × List zq6
abbrev t10y := List t6y
abbrev t11y := List UInt8 × Bool
abbrev t12y := List Int
abbrev t13y := List zq8
abbrev o15y : OT := .p (.d .str) (.p (.d (.int .i64)) (.p (.r 129 (.d (.prod (.int .i64) (.int .i64)))) (.d (.prod (.int .i64) (.prod (.int .i64) .bool)))))
abbrev o16y : OT := .p (.d .str) (.p (.d (.int .i64)) (.p (.d (.prod (.int .i64) (.int .i64))) (.p (.d (.int .i64)) (.p (.d (.int .i64)) (.p (.r 3 (.d (.int .i64))) (.p (.r 129 (.d (.prod (.int .i64) (.int .i64)))) (.d (.prod (.int .i64) (.int .i64)))))))))
abbrev o14y : OT := .p (.d .str) (.p (.r 40 o16y) (.r 46 (.d (.prod (.int .i64) (.prod (.int .i64) (.prod (.int .i64) (.prod (.int .i64) (.int .i64))))))))
abbrev o17y : OT := .p (.d .str) (.p (.d (.int .i64)) (.r 101 (.d zq9)))
abbrev o18y : OT := .p (.d .str) (.p (.d (.int .i64)) (.r 3 (.d (.int .i64))))
abbrev v19y : Bool × List CT := (false, [.data (.int .i64)])
abbrev b20y : BT := .cells 84 [.data (.prod (.slice (.int .i64)) (.int .i64))]
abbrev b21y : BT := .cells 122 [.trowh 1, .trowh 2, .trowh 3, .trowh 4]
abbrev b22y : BT := .cells 46 [.data (.prod (.int .i64) (.prod (.int .i64) (.prod (.int .i64) (.prod (.int .i64) (.int .i64)))))]
abbrev v23y : Bool × List CT := (false, [.ptr 0 0])
abbrev v24y : Bool × List CT := (false, [.data .bool])
abbrev b25y : BT := .cells 27 [.data zqh]
abbrev v26y : Bool × List CT := (false, [.data (.slice zq7)])
abbrev v27y : Bool × List CT := (false, [.data .str])
abbrev b28y : BT := .cells 40 [.data .str, .data (.int .i64), .data (.int .i64), .data (.int .i64), .data (.int .i64), .data (.int .i64), .rowh 6, .rowh 7, .data (.int .i64), .data (.int .i64)]
abbrev b29y : BT := .cells 40 [.data .str, .data (.int .i64), .data (.int .i64), .data (.int .i64), .data (.int .i64), .data (.int .i64), .rowh 4, .rowh 5, .data (.int .i64), .data (.int .i64)]
abbrev v30y : Bool × List CT := (false, [.ptr 1 0])
abbrev b31y : BT := .cells 9 [.data .str]
abbrev b32y : BT := .cells 27 [.data (.slice zqb), .data (.slice zqf), .data (.slice zq1), .junk]
abbrev v33y : Bool × List CT := (false, [.ptr 2 0])
abbrev v34y : Bool × List CT := (false, [.rowh 0])
abbrev b35y : BT := .cells 27 [.rowh 3, .rowh 4, .rowh 5, .rowh 6]
abbrev v36y : Bool × List CT := (false, [.data (.slice (.int .i64))])
abbrev v37y : Bool × List CT := (false, [.data (.slice (.prod (.int .i64) (.int .i64)))])
abbrev b38y : BT := .cells 27 [.data (.slice zqb), .data (.slice zqf), .data (.slice zq1), .rowh 8]
abbrev b39y : BT := .cells 146 [.data (.prod (.int .i64) (.prod (.int .i64) (.int .i64)))]
abbrev b40y : BT := .cells 27 [.rowh 7, .rowh 8, .rowh 9, .rowh 10]
abbrev b41y : BT := .cells 27 [.rowh 4, .rowh 5, .rowh 6, .rowh 7]
abbrev v42y : Bool × List CT := (true, [.data zqh])
abbrev v43y : Bool × List CT := (false, [.data (.slice zq9)])
abbrev v44y : Bool × List CT := (true, [.data (.prod (.int .i64) (.prod (.int .i64) (.int .i64)))])
abbrev v45y : Bool × List CT := (false, [.data (.slice (.prod (.int .i64) (.slice zq7)))])
abbrev b46y : BT := .cells 40 [.data .str, .data (.int .i64), .data (.int .i64), .data (.int .i64), .data (.int .i64), .data (.int .i64), .rowh 2, .rowh 3, .data (.int .i64), .data (.int .i64)]
abbrev v47y : Bool × List CT := (false, [.ptr 3 0])
abbrev v48y : Bool × List CT := (false, [.data (.slice zqf)])
abbrev v49y : Bool × List CT := (true, [.data zqb])
abbrev b50y : BT := .cells 44 [.data .str, .rowh 9, .rowh 10]
abbrev v51y : Bool × List CT := (false, [.data (.slice zq5)])
abbrev v52y : Bool × List CT := (false, [.data (.slice zq1)])
abbrev v53y : Bool × List CT := (false, [.rowh 1])
abbrev v54y : Bool × List CT := (true, [.data (.prod (.int .i64) (.prod (.int .i64) (.prod (.int .i64) (.prod (.int .i64) (.int .i64)))))])
abbrev b55y : BT := .cells 27 [.data (.slice zqb), .data (.slice zqf), .data (.slice zq1), .rowh 7]
abbrev v56y : Bool × List CT := (true, [.data (.slice zqb), .data (.slice zqf), .data (.slice zq1), .junk])
abbrev b57y : BT := .cells 35 [.data .str, .data (.int .i64), .rowh 6, .data (.int .i64), .data (.int .i64), .data .bool]
abbrev v58y : Bool × List CT := (false, [.data (.slice zqb)])
abbrev b59y : BT := .cells 32 [.data zqb]
abbrev b60y : BT := .cells 27 [.rowh 8, .rowh 9, .rowh 10, .rowh 11]
abbrev v61y : Bool × List CT := (true, [.data zq5])
abbrev v62y : Bool × List CT := (true, [.data zq1])
abbrev l63y : List BT := [b21y, .tree 32 o17y, .tree 35 o15y, .tree 71 o18y, .tree 44 o14y]
abbrev l64y : List BT := [b20y, b35y, b40y, .row 32 zqb, .row 35 zqf, .row 71 zq1, .row 44 zq5, .row 32 zqb, .row 35 zqf, .row 71 zq1, .row 44 zq5]
abbrev l65y : List BT := [b20y, b41y, b38y, b50y, .row 32 zqb, .row 35 zqf, .row 71 zq1, .row 44 zq5, .row 44 zq5, .row 40 zq3, .row 46 (.prod (.int .i64) (.prod (.int .i64) (.prod (.int .i64) (.prod (.int .i64) (.int .i64)))))]
abbrev l66y : List BT := [b20y, b32y, b29y, b28y, .row 3 (.int .i64), .row 129 (.prod (.int .i64) (.int .i64)), .row 3 (.int .i64), .row 129 (.prod (.int .i64) (.int .i64))]
abbrev l67y : List BT := [b20y, b41y, b60y, .cells 71 [.data .str, .data (.int .i64), .rowh 12], .row 32 zqb, .row 35 zqf, .row 71 zq1, .row 44 zq5, .row 32 zqb, .row 35 zqf, .row 71 zq1, .row 44 zq5, .row 3 (.int .i64)]
abbrev l68y : List BT := [b21y, .tree 32 o17y, .tree 35 o15y, .tree 71 o18y, .tree 44 o14y, b22y, .row 3 (.int .i64)]
abbrev l69y : List BT := [.row 165 (.prod (.int .i64) (.int .i64))]
abbrev l70y : List BT := [.row 119 (.prod (.int .i64) (.slice zq7))]
abbrev l71y : List BT := [b20y, b35y, b55y, .row 32 zqb, .row 35 zqf, .row 71 zq1, .row 44 zq5, .row 44 zq5]
abbrev l72y : List BT := [b21y, .tree 32 o17y, .tree 35 o15y, .tree 71 o18y, .tree 44 o14y, b57y, .row 129 (.prod (.int .i64) (.int .i64))]
abbrev l73y : List BT := [b25y, .map 66 .str .bool false]
abbrev l74y : List BT := [.cells 27 [.trowh 1, .trowh 2, .trowh 3, .trowh 4], .tree 32 o17y, .tree 35 o15y, .tree 71 o18y, .tree 44 o14y]
abbrev l75y : List BT := [.cells 72 [.fn 158 []], b31y]
abbrev l76y : List BT := [.cells 64 [.fn 155 []], b31y]
abbrev l77y : List BT := [.cells 97 [.fn 45 []], b31y]
abbrev l78y : List BT := [.cells 76 [.fn 47 []], b31y]
abbrev l79y : List BT := [b20y, .row 129 (.prod (.int .i64) (.int .i64))]
abbrev l80y : List BT := [b21y, .tree 32 o17y, .tree 35 o15y, .tree 71 o18y, .tree 44 o14y, .row 3 (.int .i64)]
abbrev l81y : List BT := [.row 167 (.prod (.int .i64) (.int .i64)), .row 165 (.prod (.int .i64) (.int .i64))]
abbrev l82y : List BT := [.row 167 (.prod (.int .i64) (.int .i64))]
abbrev q83y : List (TypeId × OT) := [(32, o17y), (35, o15y), (40, o16y), (44, o14y), (71, o18y)]
def tab : List (Nat × TI) := [
 (3, ⟨false, 1, 8, [.int .i64 (0 : Int)], [], none, none, (some (.int .i64)), (some .i64), false, false, none, none, false⟩),
 (4, ⟨false, 1, 1, [.bool false], [], none, none, (some .bool), none, true, false, none, none, false⟩),
 (5, ⟨false, 1, 1, [.int .u8 (0 : Int)], [], none, none, (some (.int .u8)), (some .u8), false, false, none, none, false⟩),
 (9, ⟨false, 1, 16, [.str ([] : List UInt8)], [], none, none, (some .str), none, false, true, none, none, false⟩),
 (22, ⟨false, 1, 24, [.nils], [], (some 32), none, (some (.slice zqb)), none, false, false, none, none, false⟩),
 (23, ⟨false, 1, 24, [.nils], [], (some 35), none, (some (.slice zqf)), none, false, false, none, none, false⟩),
 (24, ⟨false, 1, 24, [.nils], [], (some 71), none, (some (.slice zq1)), none, false, false, none, none, false⟩),
 (25, ⟨false, 1, 24, [.nils], [], (some 44), none, (some (.slice zq5)), none, false, false, none, none, false⟩),
 (27, ⟨true, 4, 96, [.nils, .nils, .nils, .nils], [(0, 1, false), (1, 1, false), (2, 1, false), (3, 1, false)], none, none, (some zqh), none, false, false, none, none, false⟩),
 (30, ⟨false, 1, 24, [.nils], [], (some 101), none, (some (.slice zq9)), none, false, false, none, none, false⟩),
 (32, ⟨true, 3, 48, [.str ([] : List UInt8), .int .i64 (0 : Int), .nils], [(0, 1, false), (1, 1, false), (2, 1, false)], none, none, (some zqb), none, false, false, none, none, false⟩),
 (33, ⟨false, 1, 24, [.nils], [], (some 129), none, (some (.slice (.prod (.int .i64) (.int .i64)))), none, false, false, none, none, false⟩),
 (35, ⟨true, 6, 72, [.str ([] : List UInt8), .int .i64 (0 : Int), .nils, .int .i64 (0 : Int), .int .i64 (0 : Int), .bool false], [(0, 1, false), (1, 1, false), (2, 1, false), (3, 1, false), (4, 1, false), (5, 1, false)], none, none, (some zqf), none, false, false, none, none, false⟩),
 (37, ⟨true, 2, 16, [.int .i64 (0 : Int), .int .i64 (0 : Int)], [(0, 1, false), (1, 1, false)], none, none, (some (.prod (.int .i64) (.int .i64))), none, false, false, (some [.i, .i]), none, false⟩),
 (38, ⟨false, 1, 24, [.nils], [], (some 3), none, (some (.slice (.int .i64))), none, false, false, none, none, false⟩),
 (40, ⟨true, 10, 120, [.str ([] : List UInt8), .int .i64 (0 : Int), .int .i64 (0 : Int), .int .i64 (0 : Int), .int .i64 (0 : Int), .int .i64 (0 : Int), .nils, .nils, .int .i64 (0 : Int), .int .i64 (0 : Int)], [(0, 1, false), (1, 1, false), (2, 2, true), (4, 1, false), (5, 1, false), (6, 1, false), (7, 1, false), (8, 1, false), (9, 1, false)], none, none, (some zq3), none, false, false, none, none, false⟩),
 (41, ⟨false, 1, 24, [.nils], [], (some 40), none, (some (.slice zq3)), none, false, false, none, none, false⟩),
 (42, ⟨false, 1, 24, [.nils], [], (some 46), none, (some (.slice (.prod (.int .i64) (.prod (.int .i64) (.prod (.int .i64) (.prod (.int .i64) (.int .i64))))))), none, false, false, none, none, false⟩),
 (44, ⟨true, 3, 64, [.str ([] : List UInt8), .nils, .nils], [(0, 1, false), (1, 1, false), (2, 1, false)], none, none, (some zq5), none, false, false, none, none, false⟩),
 (46, ⟨true, 5, 40, [.int .i64 (0 : Int), .int .i64 (0 : Int), .int .i64 (0 : Int), .int .i64 (0 : Int), .int .i64 (0 : Int)], [(0, 1, false), (1, 1, false), (2, 1, false), (3, 1, false), (4, 1, false)], none, none, (some (.prod (.int .i64) (.prod (.int .i64) (.prod (.int .i64) (.prod (.int .i64) (.int .i64)))))), none, false, false, (some [.i, .i, .i, .i, .i]), none, false⟩),
 (64, ⟨false, 1, 8, [.nilfn], [], none, none, none, none, false, false, none, none, false⟩),
 (66, ⟨false, 1, 8, [.junk], [], none, none, none, none, false, false, none, (some (9, 4)), false⟩),
 (71, ⟨true, 3, 48, [.str ([] : List UInt8), .int .i64 (0 : Int), .nils], [(0, 1, false), (1, 1, false), (2, 1, false)], none, none, (some zq1), none, false, false, none, none, false⟩),
 (72, ⟨false, 1, 8, [.nilfn], [], none, none, none, none, false, false, none, none, false⟩),
 (76, ⟨false, 1, 8, [.nilfn], [], none, none, none, none, false, false, none, none, false⟩),
 (81, ⟨false, 1, 24, [.nils], [], (some 9), none, (some (.slice .str)), none, false, false, none, none, false⟩),
 (84, ⟨true, 2, 32, [.nils, .int .i64 (0 : Int)], [(0, 1, false), (1, 1, false)], none, none, (some (.prod (.slice (.int .i64)) (.int .i64))), none, false, false, none, none, false⟩),
 (85, ⟨false, 1, 24, [.nils], [], (some 119), none, (some (.slice (.prod (.int .i64) (.slice zq7)))), none, false, false, none, none, false⟩),
 (97, ⟨false, 1, 8, [.nilfn], [], none, none, none, none, false, false, none, none, false⟩),
 (101, ⟨true, 7, 56, [.int .i64 (0 : Int), .int .i64 (0 : Int), .int .i64 (0 : Int), .int .i64 (0 : Int), .int .i64 (0 : Int), .int .i64 (0 : Int), .int .i64 (0 : Int)], [(0, 1, false), (1, 1, false), (2, 1, false), (3, 1, false), (4, 1, false), (5, 1, false), (6, 1, false)], none, none, (some zq9), none, false, false, (some [.i, .i, .i, .i, .i, .i, .i]), none, false⟩),
 (114, ⟨false, 1, 24, [.nils], [], (some 127), none, (some (.slice zq7)), none, false, false, none, none, false⟩),
 (119, ⟨true, 2, 32, [.int .i64 (0 : Int), .nils], [(0, 1, false), (1, 1, false)], none, none, (some (.prod (.int .i64) (.slice zq7))), none, false, false, none, none, false⟩),
 (122, ⟨true, 4, 96, [.nils, .nils, .nils, .nils], [(0, 4, true)], none, none, (some zqh), none, false, false, none, none, false⟩),
 (123, ⟨false, 1, 8, [.junk], [], none, none, none, none, false, false, none, (some (9, 125)), false⟩),
 (125, ⟨false, 1, 8, [.nilfn], [], none, none, none, none, false, false, none, none, false⟩),
 (127, ⟨true, 3, 32, [.int .i64 (0 : Int), .str ([] : List UInt8), .int .i64 (0 : Int)], [(0, 1, false), (1, 1, false), (2, 1, false)], none, none, (some zq7), none, false, false, (some [.i, .s, .i]), none, false⟩),
 (129, ⟨true, 2, 16, [.int .i64 (0 : Int), .int .i64 (0 : Int)], [(0, 1, false), (1, 1, false)], none, none, (some (.prod (.int .i64) (.int .i64))), none, false, false, (some [.i, .i]), none, false⟩),
 (139, ⟨false, 1, 24, [.nils], [], (some 167), none, (some (.slice (.prod (.int .i64) (.int .i64)))), none, false, false, none, none, false⟩),
 (146, ⟨true, 3, 24, [.int .i64 (0 : Int), .int .i64 (0 : Int), .int .i64 (0 : Int)], [(0, 1, false), (1, 1, false), (2, 1, false)], none, none, (some (.prod (.int .i64) (.prod (.int .i64) (.int .i64)))), none, false, false, (some [.i, .i, .i]), none, false⟩),
 (156, ⟨true, 3, 48, [.str ([] : List UInt8), .nils, .bool false], [(0, 1, false), (1, 1, false), (2, 1, false)], none, none, (some zqd), none, false, false, none, none, false⟩),
 (161, ⟨false, 1, 24, [.nils], [], (some 165), none, (some (.slice (.prod (.int .i64) (.int .i64)))), none, false, false, none, none, false⟩),
 (165, ⟨true, 2, 16, [.int .i64 (0 : Int), .int .i64 (0 : Int)], [(0, 1, false), (1, 1, false)], none, none, (some (.prod (.int .i64) (.int .i64))), none, false, false, (some [.i, .i]), none, false⟩),
 (167, ⟨true, 2, 16, [.int .i64 (0 : Int), .int .i64 (0 : Int)], [(0, 1, false), (1, 1, false)], none, none, (some (.prod (.int .i64) (.int .i64))), none, false, false, (some [.i, .i]), none, false⟩),
 (176, ⟨false, 1, 24, [.nils], [], (some 156), none, (some (.slice zqd)), none, false, false, none, none, false⟩),
 (181, ⟨false, 1, 8, [.nilp], [], none, none, none, none, false, false, none, none, true⟩),
 (187, ⟨false, 1, 8, [.nilp], [], none, none, none, none, false, false, none, none, true⟩),
 (190, ⟨false, 1, 8, [.nilp], [], none, none, none, none, false, false, none, none, true⟩),
 (194, ⟨false, 1, 8, [.nilp], [], none, none, none, none, false, false, none, none, true⟩),
 (197, ⟨false, 1, 8, [.nilp], [], none, none, none, none, false, false, none, none, true⟩),
 (205, ⟨true, 12, 96, [.int .i64 (0 : Int), .int .i64 (0 : Int), .int .i64 (0 : Int), .int .i64 (0 : Int), .int .i64 (0 : Int), .int .i64 (0 : Int), .int .i64 (0 : Int), .int .i64 (0 : Int), .int .i64 (0 : Int), .int .i64 (0 : Int), .int .i64 (0 : Int), .int .i64 (0 : Int)], [], (some 3), (some 12), (some (.prod (.int .i64) (.prod (.int .i64) (.prod (.int .i64) (.prod (.int .i64) (.prod (.int .i64) zq9)))))), none, false, false, (some [.i, .i, .i, .i, .i, .i, .i, .i, .i, .i, .i, .i]), none, false⟩),
 (238, ⟨false, 1, 16, [.err true], [], none, none, (some .err), none, false, false, none, none, false⟩)]
theorem Qd : TOk Tryz.prog (look tab) := Qlu (by kernel_rfl)
theorem mixed : Tryz.prog.follows .mixedOrders = true := by kernel_rfl
abbrev OK (p : Pc) (G : p.G) : Prop := p.Ok Tryz.prog G
abbrev GO (X : Ctx) : Prop := ΓOk Tryz.prog X.Γ
@[reducible] def cx (l : List (Nat × Fun)) : Ctx := ⟨look tab, Q1b l, false, false, false, false, [], none, 0, []⟩
@[reducible] def lp2 {A0 A1 B : Type} (f : (A0 → A1 → B) → A0 → A1 → B) (z : B) : Nat → A0 → A1 → B
 | 0 => fun _ _ => z
 | i + 1 => f (lp2 f z i)
@[reducible] def lp3 {A0 A1 A2 B : Type} (f : (A0 → A1 → A2 → B) → A0 → A1 → A2 → B) (z : B) : Nat → A0 → A1 → A2 → B
 | 0 => fun _ _ _ => z
 | i + 1 => f (lp3 f z i)
@[reducible] def lp4 {A0 A1 A2 A3 B : Type} (f : (A0 → A1 → A2 → A3 → B) → A0 → A1 → A2 → A3 → B) (z : B) : Nat → A0 → A1 → A2 → A3 → B
 | 0 => fun _ _ _ _ => z
 | i + 1 => f (lp4 f z i)
@[reducible] def lp5 {A0 A1 A2 A3 A4 B : Type} (f : (A0 → A1 → A2 → A3 → A4 → B) → A0 → A1 → A2 → A3 → A4 → B) (z : B) : Nat → A0 → A1 → A2 → A3 → A4 → B
 | 0 => fun _ _ _ _ _ => z
 | i + 1 => f (lp5 f z i)
@[reducible] def lp6 {A0 A1 A2 A3 A4 A5 B : Type} (f : (A0 → A1 → A2 → A3 → A4 → A5 → B) → A0 → A1 → A2 → A3 → A4 → A5 → B) (z : B) : Nat → A0 → A1 → A2 → A3 → A4 → A5 → B
 | 0 => fun _ _ _ _ _ _ => z
 | i + 1 => f (lp6 f z i)
@[reducible] def lp7 {A0 A1 A2 A3 A4 A5 A6 B : Type} (f : (A0 → A1 → A2 → A3 → A4 → A5 → A6 → B) → A0 → A1 → A2 → A3 → A4 → A5 → A6 → B) (z : B) : Nat → A0 → A1 → A2 → A3 → A4 → A5 → A6 → B
 | 0 => fun _ _ _ _ _ _ _ => z
 | i + 1 => f (lp7 f z i)
@[reducible] def lp8 {A0 A1 A2 A3 A4 A5 A6 A7 B : Type} (f : (A0 → A1 → A2 → A3 → A4 → A5 → A6 → A7 → B) → A0 → A1 → A2 → A3 → A4 → A5 → A6 → A7 → B) (z : B) : Nat → A0 → A1 → A2 → A3 → A4 → A5 → A6 → A7 → B
 | 0 => fun _ _ _ _ _ _ _ _ => z
 | i + 1 => f (lp8 f z i)
@[reducible] def lp9 {A0 A1 A2 A3 A4 A5 A6 A7 A8 B : Type} (f : (A0 → A1 → A2 → A3 → A4 → A5 → A6 → A7 → A8 → B) → A0 → A1 → A2 → A3 → A4 → A5 → A6 → A7 → A8 → B) (z : B) : Nat → A0 → A1 → A2 → A3 → A4 → A5 → A6 → A7 → A8 → B
 | 0 => fun _ _ _ _ _ _ _ _ _ => z
 | i + 1 => f (lp9 f z i)
@[reducible] def lp10 {A0 A1 A2 A3 A4 A5 A6 A7 A8 A9 B : Type} (f : (A0 → A1 → A2 → A3 → A4 → A5 → A6 → A7 → A8 → A9 → B) → A0 → A1 → A2 → A3 → A4 → A5 → A6 → A7 → A8 → A9 → B) (z : B) : Nat → A0 → A1 → A2 → A3 → A4 → A5 → A6 → A7 → A8 → A9 → B
 | 0 => fun _ _ _ _ _ _ _ _ _ _ => z
 | i + 1 => f (lp10 f z i)
@[reducible] def lp11 {A0 A1 A2 A3 A4 A5 A6 A7 A8 A9 A10 B : Type} (f : (A0 → A1 → A2 → A3 → A4 → A5 → A6 → A7 → A8 → A9 → A10 → B) → A0 → A1 → A2 → A3 → A4 → A5 → A6 → A7 → A8 → A9 → A10 → B) (z : B) : Nat → A0 → A1 → A2 → A3 → A4 → A5 → A6 → A7 → A8 → A9 → A10 → B
 | 0 => fun _ _ _ _ _ _ _ _ _ _ _ => z
 | i + 1 => f (lp11 f z i)
@[reducible] def lp13 {A0 A1 A2 A3 A4 A5 A6 A7 A8 A9 A10 A11 A12 B : Type} (f : (A0 → A1 → A2 → A3 → A4 → A5 → A6 → A7 → A8 → A9 → A10 → A11 → A12 → B) → A0 → A1 → A2 → A3 → A4 → A5 → A6 → A7 → A8 → A9 → A10 → A11 → A12 → B) (z : B) : Nat → A0 → A1 → A2 → A3 → A4 → A5 → A6 → A7 → A8 → A9 → A10 → A11 → A12 → B
 | 0 => fun _ _ _ _ _ _ _ _ _ _ _ _ _ => z
 | i + 1 => f (lp13 f z i)
@[reducible] def lp14 {A0 A1 A2 A3 A4 A5 A6 A7 A8 A9 A10 A11 A12 A13 B : Type} (f : (A0 → A1 → A2 → A3 → A4 → A5 → A6 → A7 → A8 → A9 → A10 → A11 → A12 → A13 → B) → A0 → A1 → A2 → A3 → A4 → A5 → A6 → A7 → A8 → A9 → A10 → A11 → A12 → A13 → B) (z : B) : Nat → A0 → A1 → A2 → A3 → A4 → A5 → A6 → A7 → A8 → A9 → A10 → A11 → A12 → A13 → B
 | 0 => fun _ _ _ _ _ _ _ _ _ _ _ _ _ _ => z
 | i + 1 => f (lp14 f z i)
@[reducible] def lp15 {A0 A1 A2 A3 A4 A5 A6 A7 A8 A9 A10 A11 A12 A13 A14 B : Type} (f : (A0 → A1 → A2 → A3 → A4 → A5 → A6 → A7 → A8 → A9 → A10 → A11 → A12 → A13 → A14 → B) → A0 → A1 → A2 → A3 → A4 → A5 → A6 → A7 → A8 → A9 → A10 → A11 → A12 → A13 → A14 → B) (z : B) : Nat → A0 → A1 → A2 → A3 → A4 → A5 → A6 → A7 → A8 → A9 → A10 → A11 → A12 → A13 → A14 → B
 | 0 => fun _ _ _ _ _ _ _ _ _ _ _ _ _ _ _ => z
 | i + 1 => f (lp15 f z i)
@[reducible] def lp16 {A0 A1 A2 A3 A4 A5 A6 A7 A8 A9 A10 A11 A12 A13 A14 A15 B : Type} (f : (A0 → A1 → A2 → A3 → A4 → A5 → A6 → A7 → A8 → A9 → A10 → A11 → A12 → A13 → A14 → A15 → B) → A0 → A1 → A2 → A3 → A4 → A5 → A6 → A7 → A8 → A9 → A10 → A11 → A12 → A13 → A14 → A15 → B) (z : B) : Nat → A0 → A1 → A2 → A3 → A4 → A5 → A6 → A7 → A8 → A9 → A10 → A11 → A12 → A13 → A14 → A15 → B
 | 0 => fun _ _ _ _ _ _ _ _ _ _ _ _ _ _ _ _ => z
 | i + 1 => f (lp16 f z i)
@[reducible] def lp25 {A0 A1 A2 A3 A4 A5 A6 A7 A8 A9 A10 A11 A12 A13 A14 A15 A16 A17 A18 A19 A20 A21 A22 A23 A24 B : Type} (f : (A0 → A1 → A2 → A3 → A4 → A5 → A6 → A7 → A8 → A9 → A10 → A11 → A12 → A13 → A14 → A15 → A16 → A17 → A18 → A19 → A20 → A21 → A22 → A23 → A24 → B) → A0 → A1 → A2 → A3 → A4 → A5 → A6 → A7 → A8 → A9 → A10 → A11 → A12 → A13 → A14 → A15 → A16 → A17 → A18 → A19 → A20 → A21 → A22 → A23 → A24 → B) (z : B) : Nat → A0 → A1 → A2 → A3 → A4 → A5 → A6 → A7 → A8 → A9 → A10 → A11 → A12 → A13 → A14 → A15 → A16 → A17 → A18 → A19 → A20 → A21 → A22 → A23 → A24 → B
 | 0 => fun _ _ _ _ _ _ _ _ _ _ _ _ _ _ _ _ _ _ _ _ _ _ _ _ _ => z
 | i + 1 => f (lp25 f z i)
abbrev En := Ent Tryz.prog
abbrev Pb := PB Tryz.prog
@[reducible] noncomputable def ctx (es : List En) : Ctx := ⟨look tab, gam es, false, false, false, false, [], none, 0, []⟩
theorem pf (es : List En) (cs : List Pb) {ps rs : List (Bool × List CT)} {is os : List BT} {f : FuncId} {fn : Func} (vs : List RS) {s : (β : Type) → VF (KF (Option β) rs os → Option β) ps is} (hf : Tryz.prog.funcs[f]? = some fn)
  (hc : ((fn.name == "runtime.NumGoroutine"), fn.body, fn.results.toList, (Nat.beq vs.length rs.length && (ST.tidy rs && Nat.ble ps.length fn.ntmps)), cs.map (fun b => (find b.q 1 (Q3 fn), b.p.v.m, b.p.n, b.p.m))) = (false, some (Q3 fn), vs.map RS.toVar, true, cs.map (fun b => ([b.p.c], is.length, fn.ntmps, is.length))))
  (h : ∀ {β : Type} (x : ST.dens ps × BT.dens is) (k : ST.dens rs × BT.dens os → Option β), exec (ctx es) fn.ntmps (cuts cs) 1 (Q3 fn) ((vIn (sgE ps is rs os s)).mk' x) (retK (ctx es).T (sgE ps is rs os s) vs k) = vapp ps is (s β) x (klam rs os k)) :
  SpecOk Tryz.prog f (sgE ps is rs os fun β => hid (s β)) := Q9e mixed (X := ctx es) Qd es rfl cs vs hf hc h
theorem pfB (es : List En) (cs : List Pb) {ps rs : List (Bool × List CT)} {is os : List BT} {f : FuncId} {fn : Func} (vs : List RS) {s : (β : Type) → VF (KF (Option β) rs os → Option β) ps is} (hf : Tryz.prog.funcs[f]? = some fn)
  (hc : ((fn.name == "runtime.NumGoroutine"), fn.body, fn.results.toList, (Nat.beq vs.length rs.length && (ST.tidy rs && Nat.ble ps.length fn.ntmps)), cs.map (fun b => (find b.q 1 (Q3 fn), b.p.v.m, b.p.n, b.p.m))) = (false, some (Q3 fn), vs.map RS.toVar, true, cs.map (fun b => ([b.p.c], is.length, fn.ntmps, is.length))))
  (h : ∀ {β : Type} (x : ST.dens ps × BT.dens is) (k : ST.dens rs × BT.dens os → Option β), exec (ctx es) fn.ntmps (cuts cs) 1 (Q3 fn) ((vIn (sgE ps is rs os s)).mk' x) (retK (ctx es).T (sgE ps is rs os s) vs k) = vapp ps is (s β) x (klam rs os k)) :
  SpecOkB Tryz.prog f (sgE ps is rs os fun β => hid (s β)) := Q1r mixed (X := ctx es) Qd es rfl cs vs hf hc h
theorem pl {p : Pc} (es : List En) (cs : List Pb) {g : Nat → (β : Type) → p.T β} (hc : ((p.o.all fun x => Nat.beq x.2.m p.m), cs.map (fun b => (find b.q 1 (Qy p.c), b.p.v.m, b.p.n, b.p.m))) = (true, cs.map (fun b => ([b.p.c], p.m, p.n, p.m)))) (hv : p.v.m = p.m) (hl : p.c = .loop (Qy p.c))
  (h0 : ∀ {β : Type} (d : p.v.den) (ks : Outs.K β p.o), p.un (g 0) d ks = none)
  (h : ∀ (i : Nat) {β : Type} (d : p.v.den) (ks : Outs.K β p.o), exec (ctx es) p.n (cuts cs) 1 (Qy p.c) (p.v.mk' d) (Qc7 p.v (fun d' => p.un (g i) d' ks) p.o ks) = p.un (g (i + 1)) d ks) : p.Ok Tryz.prog (p.un fun β => hid (g fuel β)) := Q88 mixed (X := ctx es) Qd es rfl cs hc hv hl h0 h
theorem pe {p : Pc} (es : List En) (cs : List Pb) (q : Nat) {g : (β : Type) → p.T β} (hc : ((p.o.all fun x => Nat.beq x.2.m p.m), cs.map (fun b => (find b.q q p.c, b.p.v.m, b.p.n, b.p.m))) = (true, cs.map (fun b => ([b.p.c], p.m, p.n, p.m))))
  (h : ∀ {β : Type} (d : p.v.den) (ks : Outs.K β p.o), exec (ctx es) p.n (cuts cs) q p.c (p.v.mk' d) (outK p.o ks) = p.un g d ks) : p.Ok Tryz.prog (p.un fun β => hid (g β)) := Qi9 mixed (X := ctx es) Qd es rfl cs q hc h
abbrev zqr := {β : Type} → t12y → (Bool → Option β) → Option β
def zqs : zqr := fun l k =>
 let t := (decide ((List.length l : Int) ≤ (500 : Int)));
 k t
def zqt : zqr := hid zqs
noncomputable def zqu : En := ⟨10, .spec (sg [v36y] [] [v24y] [] zqt), pf [] [] [.tmp 2] Tryz.func10 (by kernel_rfl) fun _ _ => by kernel_rfl⟩
abbrev zqv := {β : Type} → t12y → (t7y → Option β) → Option β
def zqw : zqv := fun l k =>
 k (l, (0 : Int))
def zqx : zqv := hid zqw
noncomputable def zqy : En := ⟨12, .spec (sg [v36y] [] [v23y] [b20y] zqx), pf [] [] [.tmp 2] Tryz.func12 (by kernel_rfl) fun _ _ => by kernel_rfl⟩
abbrev zqz := {β : Type} → zqa → (t5y → Option β) → Option β
def zq10 : zqz := fun z k =>
 k z.1
def zq11 : zqz := hid zq10
noncomputable def zq12 : En := ⟨19, .spec (sg [v49y] [] [v27y] [] zq11), pf [] [] [.tmp 2] Tryz.func19 (by kernel_rfl) fun _ _ => by kernel_rfl⟩
abbrev zq13 := {β : Type} → zq0 → (t5y → Option β) → Option β
def zq14 : zq13 := fun x k =>
 k x.1
def zq15 : zq13 := hid zq14
noncomputable def zq16 : En := ⟨24, .spec (sg [v62y] [] [v27y] [] zq15), pf [] [] [.tmp 2] Tryz.func24 (by kernel_rfl) fun _ _ => by kernel_rfl⟩
abbrev zq17 := {β : Type} → zq4 → (t5y → Option β) → Option β
def zq18 : zq17 := fun s k =>
 k s.1
def zq19 : zq17 := hid zq18
noncomputable def zq1a : En := ⟨28, .spec (sg [v61y] [] [v27y] [] zq19), pf [] [] [.tmp 2] Tryz.func28 (by kernel_rfl) fun _ _ => by kernel_rfl⟩
abbrev zq1b := {β : Type} → (t5y → Option β) → Option β
def zq1c : zq1b := fun k =>
 let t := ([122, 111, 110, 101, 32, 122, 32, 43, 48, 48, 58, 48, 48, 10, 112, 101, 114, 115, 111, 110, 32, 97, 32, 122, 10, 115, 99, 104, 101, 100, 117, 108, 101, 32, 115, 10, 108, 97, 121, 101, 114, 32, 108, 32, 122, 32, 50, 48, 50, 54, 45, 48, 49, 45, 48, 53, 32, 48, 57, 58, 48, 48, 32, 49, 32, 119, 101, 101, 107, 115, 10, 109, 101, 109, 98, 101, 114, 32, 97, 10] : List UInt8);
 k t
def zq1d : zq1b := hid zq1c
noncomputable def zq1e : En := ⟨31, .spec (sg [] [] [v27y] [] zq1d), pf [] [] [.tmp 0] Tryz.func31 (by kernel_rfl) fun _ _ => by kernel_rfl⟩
theorem zq1f : SpecOk Tryz.prog 31 (sg [] [] [v27y] [] zq1d) := zq1e.ok
abbrev zq1g := {β : Type} → Int → t7y → (Int → t7y → Option β) → Option β
def zq1h : zq1g := fun n d k =>
 cond (decide ((List.length d.1 : Int) ≤ d.2))
 (k (0 : Int) d)
 (cond (decide (n < (1 : Int)))
 (k (0 : Int) d)
 (cond (decide (0 ≤ d.2) && decide (d.2 < (List.length d.1 : Int)))
 (let e := List.getD d.1 (Int.toNat d.2) (0 : Int);
 cond (!decide (n = 0))
 (cond (decide ((Int.tmod e n) < (0 : Int)))
 (let x := (IntKind.i64.wrap ((Int.tmod e n) + n));
 k x (d.1, (IntKind.i64.wrap (d.2 + (1 : Int)))))
 (k (Int.tmod e n) (d.1, (IntKind.i64.wrap (d.2 + (1 : Int))))))
 none)
 none))
def zq1i : zq1g := hid zq1h
noncomputable def zq1j : En := ⟨32, .spec (sg [v23y, v19y] [b20y] [v19y] [b20y] zq1i), pf [] [] [.tmp 4] Tryz.func32 (by kernel_rfl) fun _ _ => by kernel_rfl⟩
abbrev zq1k := {β : Type} → ((List t5y) → Option β) → Option β
def zq1l : zq1k := fun k =>
 let l := ([([97, 100, 97] : List UInt8), ([98, 111, 98] : List UInt8), ([99, 108, 101, 111] : List UInt8), ([100, 97, 110] : List UInt8), ([101, 118, 101] : List UInt8), ([102, 97, 121] : List UInt8), ([103, 117, 115] : List UInt8), ([104, 97, 108] : List UInt8)] : List t5y);
 k l
def zq1m : zq1k := hid zq1l
noncomputable def zq1n : En := ⟨42, .spec (sg [] [] [v34y] [.row 9 .str] zq1m), pf [] [] [.tmp 0] Tryz.func42 (by kernel_rfl) fun _ _ => by kernel_rfl⟩
abbrev zq1o := {β : Type} → zqe → (t5y → Option β) → Option β
def zq1p : zq1o := fun p_ k =>
 k p_.1
def zq1q : zq1o := hid zq1p
noncomputable def zq1r : En := ⟨45, .spec (sg [(true, [.data zqf])] [] [v27y] [] zq1q), pf [] [] [.tmp 2] Tryz.func45 (by kernel_rfl) fun _ _ => by kernel_rfl⟩
noncomputable def zq1s : En := .inl mixed (X := ⟨look tab, gam [zq1r], false, false, false, false, [], none, 0, []⟩) (rs := [.tmp 4]) Qd [zq1r] rfl 4 Tryz.func74 (by kernel_rfl)
abbrev zq1t := {β : Type} → t3y → t5y → (Int → t5y → Option β) → Option β
noncomputable def zq1u : List En := [zq1s]
abbrev zq1v (β : Type) := Int → t5y → Option β
abbrev zq1w (β : Type) := t5y → Option β
abbrev zq1x (β : Type) := t3y → Int → Int → t5y → Option β
noncomputable def zq1y : Pc := ⟨19, 2, Q4 26 (Q3 Tryz.f73), ⟨2, [0, 1, 7, 8], [v48y, (false, [.fn 74 [0, 1]]), v19y, v19y], l77y⟩, [(.ret, ⟨2, [4], [v19y], l77y⟩), (.exit 0, ⟨2, [], [], l77y⟩)]⟩
def zq1z {β : Type} (rec : zq1x β) (k1 : zq1v β) (k2 : zq1w β) : zq1x β := fun s t7 t8 b1_ =>
 cond (decide (t8 < t7))
 (cond (decide (0 ≤ t8) && decide (t8 < (List.length s : Int)))
 (let e := List.getD s (Int.toNat t8) (([] : List UInt8), ((0 : Int), (([] : List t6y), ((0 : Int), ((0 : Int), false)))));
 zq1q e (fun rPerson1 =>
 let t := (decide (rPerson1 = b1_));
 cond t
 (k1 t8 b1_)
 (rec s t7 (IntKind.i64.wrap (t8 + (1 : Int))) b1_)))
 none)
 (k2 b1_)
def zq20 (m : Nat) {β : Type} (k1 : zq1v β) (k2 : zq1w β) : zq1x β := lp4 (fun r => zq1z r k1 k2) none m
theorem zq21 {β : Type} (i : Nat) (k1 k2) : zq20 (β := β) (i + 1) k1 k2 = zq1z (zq20 i k1 k2) k1 k2 := rfl
def zq22 {β : Type} := hid (zq20 (β := β) fuel)
noncomputable def zq23 : Pb := ⟨26, zq1y, fun _ => zq22, pl (p := zq1y) zq1u [] (g := fun i _ => zq20 i) (by kernel_rfl) rfl (by kernel_rfl) (fun _ _ => rfl) fun _ _ _ _ => by kernel_rfl⟩
def zq24 : zq1t := fun s b1_ k =>
 zq22 (fun t4 b1_2 =>
 k t4 b1_2) (fun b1_2 =>
 k (-1 : Int) b1_2) s (List.length s : Int) (0 : Int) b1_
def zq25 : zq1t := hid zq24
noncomputable def zq26 : En := ⟨73, .spec (sg [v48y, (false, [.fn 74 [0, 1]])] l77y [v19y] l77y zq25), pf zq1u [zq23] [.tmp 4] Tryz.func73 (by kernel_rfl) fun _ _ => by kernel_rfl⟩
noncomputable def zq27 : En := .inl mixed (X := ⟨look tab, gam [zq26], false, false, false, false, [], none, 0, []⟩) (rs := [.tmp 6, .tmp 7]) Qd [zq26] rfl 4 Tryz.func44 (by kernel_rfl)
abbrev zq28 := {β : Type} → zq4 → (t5y → Option β) → Option β
def zq29 : zq28 := fun s k =>
 k s.1
def zq2a : zq28 := hid zq29
noncomputable def zq2b : En := ⟨47, .spec (sg [v61y] [] [v27y] [] zq2a), pf [] [] [.tmp 2] Tryz.func47 (by kernel_rfl) fun _ _ => by kernel_rfl⟩
noncomputable def zq2c : En := .inl mixed (X := ⟨look tab, gam [zq2b], false, false, false, false, [], none, 0, []⟩) (rs := [.tmp 4]) Qd [zq2b] rfl 4 Tryz.func76 (by kernel_rfl)
abbrev zq2d := {β : Type} → t2y → t5y → (Int → t5y → Option β) → Option β
noncomputable def zq2e : List En := [zq2c]
abbrev zq2f (β : Type) := Int → t5y → Option β
abbrev zq2g (β : Type) := t5y → Option β
abbrev zq2h (β : Type) := t2y → Int → Int → t5y → Option β
noncomputable def zq2i : Pc := ⟨19, 2, Q4 26 (Q3 Tryz.f75), ⟨2, [0, 1, 7, 8], [v51y, (false, [.fn 76 [0, 1]]), v19y, v19y], l78y⟩, [(.ret, ⟨2, [4], [v19y], l78y⟩), (.exit 0, ⟨2, [], [], l78y⟩)]⟩
def zq2j {β : Type} (rec : zq2h β) (k1 : zq2f β) (k2 : zq2g β) : zq2h β := fun s t7 t8 b1_ =>
 cond (decide (t8 < t7))
 (cond (decide (0 ≤ t8) && decide (t8 < (List.length s : Int)))
 (let e := List.getD s (Int.toNat t8) (([] : List UInt8), (([] : List zq2), ([] : List t0y)));
 zq2a e (fun rSchedule1 =>
 let t := (decide (rSchedule1 = b1_));
 cond t
 (k1 t8 b1_)
 (rec s t7 (IntKind.i64.wrap (t8 + (1 : Int))) b1_)))
 none)
 (k2 b1_)
def zq2k (m : Nat) {β : Type} (k1 : zq2f β) (k2 : zq2g β) : zq2h β := lp4 (fun r => zq2j r k1 k2) none m
theorem zq2l {β : Type} (i : Nat) (k1 k2) : zq2k (β := β) (i + 1) k1 k2 = zq2j (zq2k i k1 k2) k1 k2 := rfl
def zq2m {β : Type} := hid (zq2k (β := β) fuel)
noncomputable def zq2n : Pb := ⟨26, zq2i, fun _ => zq2m, pl (p := zq2i) zq2e [] (g := fun i _ => zq2k i) (by kernel_rfl) rfl (by kernel_rfl) (fun _ _ => rfl) fun _ _ _ _ => by kernel_rfl⟩
def zq2o : zq2d := fun s b1_ k =>
 zq2m (fun t4 b1_2 =>
 k t4 b1_2) (fun b1_2 =>
 k (-1 : Int) b1_2) s (List.length s : Int) (0 : Int) b1_
def zq2p : zq2d := hid zq2o
noncomputable def zq2q : En := ⟨75, .spec (sg [v51y, (false, [.fn 76 [0, 1]])] l78y [v19y] l78y zq2p), pf zq2e [zq2n] [.tmp 4] Tryz.func75 (by kernel_rfl) fun _ _ => by kernel_rfl⟩
noncomputable def zq2r : En := .inl mixed (X := ⟨look tab, gam [zq2q], false, false, false, false, [], none, 0, []⟩) (rs := [.tmp 6, .tmp 7]) Qd [zq2q] rfl 4 Tryz.func46 (by kernel_rfl)
abbrev zq2s := {β : Type} → zq8 → (Bool → Option β) → Option β
def zq2t : zq2s := fun r_ k =>
 let t := (!decide ((Int.tmod r_.2.2.2.2.2.2 (60 : Int)) = (0 : Int)));
 k t
def zq2u : zq2s := hid zq2t
noncomputable def zq2v : En := ⟨50, .spec (sg [(true, [.data zq9])] [] [v24y] [] zq2u), pf [] [] [.tmp 2] Tryz.func50 (by kernel_rfl) fun _ _ => by kernel_rfl⟩
abbrev zq2w := {β : Type} → Int → Int → (Bool → Option β) → Option β
def zq2x : zq2w := fun i_ n k =>
 cond (decide ((0 : Int) ≤ i_))
 (k (decide (i_ < n)))
 (k false)
def zq2y : zq2w := hid zq2x
noncomputable def zq2z : En := ⟨52, .spec (sg [v19y, v19y] [] [v24y] [] zq2y), pf [] [] [.tmp 4] Tryz.func52 (by kernel_rfl) fun _ _ => by kernel_rfl⟩
abbrev zq30 := {β : Type} → t10y → (Int → Option β) → Option β
abbrev zq31 (β : Type) := Int → Option β
abbrev zq32 (β : Type) := Unit → Option β
abbrev zq33 (β : Type) := t10y → t10y → Int → Int → Option β
noncomputable def zq34 : Pc := ⟨46, 0, Q4 58 (Q3 Tryz.f53), ⟨0, [0, 8, 9, 10], [v37y, v37y, v19y, v19y], []⟩, [(.ret, ⟨0, [2], [v19y], []⟩), (.exit 0, ⟨0, [], [], []⟩)]⟩
abbrev zq35 (β : Type) := Int → Option β
abbrev zq36 (β : Type) := t10y → t10y → Int → Int → Option β
abbrev zq37 (β : Type) := t10y → Int → t10y → Int → Int → Bool → t6y → Option β
noncomputable def zq38 : Pc := ⟨46, 0, Q4 229 (Qy zq34.c), ⟨0, [0, 3, 4, 8, 9, 10, 15], [v37y, v19y, v23y, v37y, v19y, v19y, v24y], [.cells 129 [.data (.prod (.int .i64) (.int .i64))]]⟩, [(.ret, ⟨0, [2], [v19y], []⟩), (.normal, ⟨0, [0, 8, 9, 10], [v37y, v37y, v19y, v19y], []⟩)]⟩
def zq39 {β : Type} (k1 : zq35 β) (k2 : zq36 β) : zq37 β := fun l i_ t8 t9 t10 t15 w =>
 cond t15
 (k1 (1 : Int))
 (cond (decide ((0 : Int) < i_))
 (cond (decide (0 ≤ (IntKind.i64.wrap (i_ - (1 : Int)))) && decide ((IntKind.i64.wrap (i_ - (1 : Int))) < (List.length l : Int)))
 (let e := List.getD l (Int.toNat (IntKind.i64.wrap (i_ - (1 : Int)))) ((0 : Int), (0 : Int));
 cond (decide (w.1 < e.2))
 (k1 (6 : Int))
 (k2 l t8 t9 t10))
 none)
 (k2 l t8 t9 t10))
def zq3a {β : Type} := hid (zq39 (β := β))
noncomputable def zq3b : Pb := ⟨229, zq38, fun _ => zq3a, pe (p := zq38) [] [] 229 (g := fun _ => zq39) (by kernel_rfl) fun _ _ => by kernel_rfl⟩
def zq3c {β : Type} (rec : zq33 β) (k1 : zq31 β) (k2 : zq32 β) : zq33 β := fun l t8 t9 t10 =>
 cond (decide (t10 < t9))
 (cond (decide (0 ≤ t10) && decide (t10 < (List.length t8 : Int)))
 (let e := List.getD t8 (Int.toNat t10) ((0 : Int), (0 : Int));
 cond (decide (e.1 < (0 : Int)))
 (zq3a (fun t2 =>
 k1 t2) (fun l2 t82 t92 t102 =>
 rec l2 t82 t92 (IntKind.i64.wrap (t102 + (1 : Int)))) l t10 t8 t9 t10 true e)
 (cond (decide (e.2 ≤ e.1))
 (zq3a (fun t2 =>
 k1 t2) (fun l2 t82 t92 t102 =>
 rec l2 t82 t92 (IntKind.i64.wrap (t102 + (1 : Int)))) l t10 t8 t9 t10 true e)
 (let t := (decide ((604800 : Int) < e.2));
 zq3a (fun t2 =>
 k1 t2) (fun l2 t82 t92 t102 =>
 rec l2 t82 t92 (IntKind.i64.wrap (t102 + (1 : Int)))) l t10 t8 t9 t10 t e)))
 none)
 (k2 ())
def zq3d (m : Nat) {β : Type} (k1 : zq31 β) (k2 : zq32 β) : zq33 β := lp4 (fun r => zq3c r k1 k2) none m
theorem zq3e {β : Type} (i : Nat) (k1 k2) : zq3d (β := β) (i + 1) k1 k2 = zq3c (zq3d i k1 k2) k1 k2 := rfl
def zq3f {β : Type} := hid (zq3d (β := β) fuel)
noncomputable def zq3g : Pb := ⟨58, zq34, fun _ => zq3f, pl (p := zq34) [] [zq3b] (g := fun i _ => zq3d i) (by kernel_rfl) rfl (by kernel_rfl) (fun _ _ => rfl) fun _ _ _ _ => by kernel_rfl⟩
def zq3h : zq30 := fun l k =>
 cond (decide ((14 : Int) < (List.length l : Int)))
 (k (5 : Int))
 (zq3f (fun t2 =>
 k t2) (fun _ =>
 k (0 : Int)) l l (List.length l : Int) (0 : Int))
def zq3i : zq30 := hid zq3h
noncomputable def zq3j : En := ⟨53, .spec (sg [v37y] [] [v19y] [] zq3i), pf [] [zq3g] [.tmp 2] Tryz.func53 (by kernel_rfl) fun _ _ => by kernel_rfl⟩
abbrev zq3k := {β : Type} → zq2 → (t5y → Option β) → Option β
def zq3l : zq3k := fun l k =>
 k l.1
def zq3m : zq3k := hid zq3l
noncomputable def zq3n : En := ⟨59, .spec (sg [(true, [.data zq3])] [] [v27y] [] zq3m), pf [] [] [.tmp 2] Tryz.func59 (by kernel_rfl) fun _ _ => by kernel_rfl⟩
def zq3o : Shelf.Ren :=
   {
   f := fun x =>
    match x with
    | 146 => 63
    | 221 => 85
    | 268 => 108
    | 138 => 109
    | 143 => 110
    | 195 => 142
    | 197 => 143
    | 218 => 144
    | 219 => 145
    | 260 => 163
    | 217 => 164
    | 225 => 165
    | 224 => 166
    | 267 => 167
    | 266 => 179
    | 314 => 180
    | n => n,
   t := fun x =>
    match x with
    | 9 => 9
    | 31 => 81
    | 3 => 3
    | 4 => 4
    | 0 => 0
    | 105 => 207
    | 21 => 21
    | 5 => 5
    | 46 => 224
    | 119 => 171
    | 139 => 249
    | 138 => 248
    | 146 => 250
    | 51 => 213
    | n => n,
   g := fun x =>
    match x with
    | 1 => 2
    | 3 => 3
    | 4 => 4
    | n => n }
theorem zq3p : Go.Proofs.Lays.n146 Tryz.prog zq3o :=
 {
  mixed := by kernel_rfl,
  f138 := Eq.trans Tryz.func109 (congrArg some (by kernel_rfl)),
  f143 := Eq.trans Tryz.func110 (congrArg some (by kernel_rfl)),
  f146 := Eq.trans Tryz.func63 (congrArg some (by kernel_rfl)),
  f195 := Eq.trans Tryz.func142 (congrArg some (by kernel_rfl)),
  f197 := Eq.trans Tryz.func143 (congrArg some (by kernel_rfl)),
  f217 := Eq.trans Tryz.func164 (congrArg some (by kernel_rfl)),
  f218 := Eq.trans Tryz.func144 (congrArg some (by kernel_rfl)),
  f219 := Eq.trans Tryz.func145 (congrArg some (by kernel_rfl)),
  f221 := Eq.trans Tryz.func85 (congrArg some (by kernel_rfl)),
  f224 := Eq.trans Tryz.func166 (congrArg some (by kernel_rfl)),
  f225 := Eq.trans Tryz.func165 (congrArg some (by kernel_rfl)),
  f260 := Eq.trans Tryz.func163 (congrArg some (by kernel_rfl)),
  f266 := Eq.trans Tryz.func179 (congrArg some (by kernel_rfl)),
  f267 := Eq.trans Tryz.func167 (congrArg some (by kernel_rfl)),
  f268 := Eq.trans Tryz.func108 (congrArg some (by kernel_rfl)),
  f314 := Eq.trans Tryz.func180 (congrArg some (by kernel_rfl)),
  t0 := Tryz.underlying0,
  a0 := Tryz.isAgg0,
  z0 := Tryz.sizeOf0,
  v0 := Tryz.zeroValue0,
  t3 := Tryz.underlying3,
  a3 := Tryz.isAgg3,
  z3 := Tryz.sizeOf3,
  v3 := Tryz.zeroValue3,
  t4 := Tryz.underlying4,
  a4 := Tryz.isAgg4,
  z4 := Tryz.sizeOf4,
  v4 := Tryz.zeroValue4,
  t5 := Tryz.underlying5,
  a5 := Tryz.isAgg5,
  z5 := Tryz.sizeOf5,
  v5 := Tryz.zeroValue5,
  t9 := Tryz.underlying9,
  a9 := Tryz.isAgg9,
  z9 := Tryz.sizeOf9,
  v9 := Tryz.zeroValue9,
  t21 := Tryz.underlying21,
  a21 := Tryz.isAgg21,
  z21 := Tryz.sizeOf21,
  v21 := Tryz.zeroValue21,
  t31 := Tryz.underlying81,
  a31 := Tryz.isAgg81,
  z31 := Tryz.sizeOf81,
  v31 := Tryz.zeroValue81,
  t46 := Tryz.underlying224,
  a46 := Tryz.isAgg224,
  z46 := Tryz.sizeOf224,
  v46 := Tryz.zeroValue224,
  t51 := Tryz.underlying213,
  a51 := Tryz.isAgg213,
  z51 := Tryz.sizeOf213,
  v51 := Tryz.zeroValue213,
  t105 := Tryz.underlying207,
  a105 := Tryz.isAgg207,
  z105 := Tryz.sizeOf207,
  v105 := Tryz.zeroValue207,
  t119 := Tryz.underlying171,
  a119 := Tryz.isAgg171,
  z119 := Tryz.sizeOf171,
  t138 := Tryz.underlying248,
  a138 := Tryz.isAgg248,
  z138 := Tryz.sizeOf248,
  v138 := Tryz.zeroValue248,
  t139 := Tryz.underlying249,
  a139 := Tryz.isAgg249,
  z139 := Tryz.sizeOf249,
  v139 := Tryz.zeroValue249,
  t146 := Tryz.underlying250,
  a146 := Tryz.isAgg250,
  z146 := Tryz.sizeOf250,
  v146 := Tryz.zeroValue250,
  g1 := by kernel_rfl,
  g3 := by kernel_rfl,
  g4 := by kernel_rfl }
abbrev zq3q := Qch
def zq3r (c : zq3q) : Spec := Qhj 9 c
def zq3s : zq3q := fun x y k => Qfy x y k
theorem zq3t : SpecOk Tryz.prog 63 (zq3r zq3s) :=
 Qj8 zq3p rfl rfl (by kernel_rfl) (of_decide_eq_true (by kernel_rfl)) (fun w0 h0 => Go.Proofs.cell_of_shapedOpen_int (P := Tryz.prog) (g := 2) (t := 3) (zero := #[.int .i64 0]) h0 (of_decide_eq_true (by kernel_rfl)) (by kernel_rfl) rfl (by kernel_rfl) (by kernel_rfl) Tryz.underlying3) ⟨_, Tryz.func63, by kernel_rfl, by kernel_rfl⟩
noncomputable def zq3u : En := .of zq3t
noncomputable def zq3v : En := .inl mixed (X := ⟨look tab, gam ([] : List En), false, false, false, false, q83y, none, 0, []⟩) (rs := [.tmp 2]) Qd ([] : List En) rfl 4 Tryz.func66 (by kernel_rfl)
abbrev zq3w := {β : Type} → Int → t7y → (Bool → t7y → Option β) → Option β
def zq3x : zq3w := fun n d k =>
 zq1i n d (fun rNext mrNext =>
 let t := (decide (rNext = (IntKind.i64.wrap (n - (1 : Int)))));
 k t mrNext)
def zq3y : zq3w := hid zq3x
noncomputable def zq3z : En := ⟨69, .spec (sg [v23y, v19y] [b20y] [v24y] [b20y] zq3y), pf [zq1j] [] [.tmp 4] Tryz.func69 (by kernel_rfl) fun _ _ => by kernel_rfl⟩
abbrev zq40 := {β : Type} → t12y → t7y → (Int → t7y → Option β) → Option β
def zq41 : zq40 := fun l d k =>
 zq1i (List.length l : Int) d (fun rNext mrNext =>
 cond (decide (0 ≤ rNext) && decide (rNext < (List.length l : Int)))
 (let e := List.getD l (Int.toNat rNext) (0 : Int);
 k e mrNext)
 none)
def zq42 : zq40 := hid zq41
noncomputable def zq43 : En := ⟨71, .spec (sg [v23y, v36y] [b20y] [v19y] [b20y] zq42), pf [zq1j] [] [.tmp 4] Tryz.func71 (by kernel_rfl) fun _ _ => by kernel_rfl⟩
abbrev zq44 := {β : Type} → t7y → (Int → t7y → Option β) → Option β
def zq45 : zq44 := fun d k =>
 zq1i (576 : Int) d (fun rNext mrNext =>
 let t := (IntKind.i64.wrap ((1767139200 : Int) + (IntKind.i64.wrap ((3600 : Int) * rNext))));
 zq3y (3 : Int) mrNext (fun rBool mrBool =>
 cond rBool
 (let l := ([(-1 : Int), (1 : Int), (1800 : Int), (3599 : Int)] : List Int);
 zq42 l mrBool (fun rPick mrPick =>
 let t2 := (IntKind.i64.wrap (t + rPick));
 k t2 mrPick))
 (k t mrBool)))
def zq46 : zq44 := hid zq45
noncomputable def zq47 : En := ⟨72, .spec (sg [v23y] [b20y] [v19y] [b20y] zq46), pf [zq3z, zq1j, zq43] [] [.tmp 2] Tryz.func72 (by kernel_rfl) fun _ _ => by kernel_rfl⟩
abbrev zq48 := {β : Type} → Int → (Bool → Option β) → Option β
def zq49 : zq48 := fun c k =>
 cond (decide ((97 : Int) ≤ c))
 (let t := (decide (c ≤ (122 : Int)));
 k t)
 (k false)
def zq4a : zq48 := hid zq49
noncomputable def zq4b : En := ⟨79, .spec (sg [(false, [.data (.int .u8)])] [] [v24y] [] zq4a), pf [] [] [.tmp 2] Tryz.func79 (by kernel_rfl) fun _ _ => by kernel_rfl⟩
abbrev zq4c := {β : Type} → Int → (Bool → Option β) → Option β
def zq4d : zq4c := fun c k =>
 cond (decide ((48 : Int) ≤ c))
 (let t := (decide (c ≤ (57 : Int)));
 k t)
 (k false)
def zq4e : zq4c := hid zq4d
noncomputable def zq4f : En := ⟨80, .spec (sg [(false, [.data (.int .u8)])] [] [v24y] [] zq4e), pf [] [] [.tmp 2] Tryz.func80 (by kernel_rfl) fun _ _ => by kernel_rfl⟩
abbrev zq4g := {β : Type} → Int → Int → Int → (Bool → Option β) → Option β
def zq4h : zq4g := fun n lo hi k =>
 cond (decide (lo ≤ n))
 (k (decide (n ≤ hi)))
 (k false)
def zq4i : zq4g := hid zq4h
noncomputable def zq4j : En := ⟨81, .spec (sg [v19y, v19y, v19y] [] [v24y] [] zq4i), pf [] [] [.tmp 6] Tryz.func81 (by kernel_rfl) fun _ _ => by kernel_rfl⟩
abbrev zq4k := {β : Type} → Int → zqg → (Bool → zqg → Option β) → Option β
def zq4l : zq4k := fun m t1 k =>
 zq2y m (List.length t1.2.1 : Int) (fun rindex =>
 k (!rindex) t1)
def zq4m : zq4k := hid zq4l
noncomputable def zq4n : En := ⟨84, .spec (sg [v19y, v23y] [b25y] [v24y] [b25y] zq4m), pf [zq2z] [] [.tmp 3] Tryz.func84 (by kernel_rfl) fun _ _ => by kernel_rfl⟩
def zq4o : Shelf.Ren :=
   {
   f := fun x =>
    match x with
    | 145 => 86
    | 220 => 111
    | 219 => 145
    | 217 => 164
    | 225 => 165
    | 224 => 166
    | 267 => 167
    | 266 => 179
    | 314 => 180
    | n => n,
   t := fun x =>
    match x with
    | 9 => 9
    | 4 => 4
    | 59 => 150
    | 3 => 3
    | 5 => 5
    | 46 => 224
    | 146 => 250
    | 51 => 213
    | n => n,
   g := fun x =>
    match x with
    | 1 => 2
    | n => n }
theorem zq4p : Go.Proofs.Lays.n145 Tryz.prog zq4o :=
 {
  mixed := by kernel_rfl,
  f145 := Eq.trans Tryz.func86 (congrArg some (by kernel_rfl)),
  f217 := Eq.trans Tryz.func164 (congrArg some (by kernel_rfl)),
  f219 := Eq.trans Tryz.func145 (congrArg some (by kernel_rfl)),
  f220 := Eq.trans Tryz.func111 (congrArg some (by kernel_rfl)),
  f224 := Eq.trans Tryz.func166 (congrArg some (by kernel_rfl)),
  f225 := Eq.trans Tryz.func165 (congrArg some (by kernel_rfl)),
  f266 := Eq.trans Tryz.func179 (congrArg some (by kernel_rfl)),
  f267 := Eq.trans Tryz.func167 (congrArg some (by kernel_rfl)),
  f314 := Eq.trans Tryz.func180 (congrArg some (by kernel_rfl)),
  t3 := Tryz.underlying3,
  a3 := Tryz.isAgg3,
  z3 := Tryz.sizeOf3,
  v3 := Tryz.zeroValue3,
  t4 := Tryz.underlying4,
  a4 := Tryz.isAgg4,
  z4 := Tryz.sizeOf4,
  v4 := Tryz.zeroValue4,
  t5 := Tryz.underlying5,
  a5 := Tryz.isAgg5,
  z5 := Tryz.sizeOf5,
  v5 := Tryz.zeroValue5,
  t9 := Tryz.underlying9,
  a9 := Tryz.isAgg9,
  z9 := Tryz.sizeOf9,
  v9 := Tryz.zeroValue9,
  t46 := Tryz.underlying224,
  a46 := Tryz.isAgg224,
  z46 := Tryz.sizeOf224,
  v46 := Tryz.zeroValue224,
  t51 := Tryz.underlying213,
  a51 := Tryz.isAgg213,
  z51 := Tryz.sizeOf213,
  v51 := Tryz.zeroValue213,
  t59 := Tryz.underlying150,
  a59 := Tryz.isAgg150,
  z59 := Tryz.sizeOf150,
  v59 := Tryz.zeroValue150,
  t146 := Tryz.underlying250,
  a146 := Tryz.isAgg250,
  z146 := Tryz.sizeOf250,
  v146 := Tryz.zeroValue250,
  g1 := by kernel_rfl }
abbrev zq4q := cutT
def zq4r (c : zq4q) : Spec := cutS c
def zq4s : zq4q := fun x y k => cutF x y k
theorem zq4t : SpecOk Tryz.prog 86 (zq4r zq4s) :=
 Qlx zq4p rfl (of_decide_eq_true (by kernel_rfl)) (fun w0 h0 => Go.Proofs.cell_of_shapedOpen_int (P := Tryz.prog) (g := 2) (t := 3) (zero := #[.int .i64 0]) h0 (of_decide_eq_true (by kernel_rfl)) (by kernel_rfl) rfl (by kernel_rfl) (by kernel_rfl) Tryz.underlying3) ⟨_, Tryz.func86, by kernel_rfl, by kernel_rfl⟩
noncomputable def zq4u : En := .of zq4t
def zq4v : Shelf.Ren :=
   {
   f := fun x =>
    match x with
    | 157 => 87
    | 229 => 112
    | 199 => 113
    | 261 => 146
    | 311 => 168
    | 312 => 169
    | n => n,
   t := fun x =>
    match x with
    | 9 => 9
    | 31 => 81
    | 3 => 3
    | 5 => 5
    | 4 => 4
    | 119 => 171
    | 0 => 0
    | 40 => 173
    | 152 => 210
    | 21 => 21
    | 154 => 212
    | 51 => 213
    | 141 => 215
    | 196 => 228
    | 193 => 225
    | 198 => 231
    | 49 => 229
    | 194 => 226
    | 201 => 234
    | 226 => 252
    | 46 => 224
    | 227 => 253
    | n => n,
   g := fun x =>
    match x with
    | 0 => 0
    | 6 => 1
    | n => n }
theorem zq4w : Go.Proofs.Lays.n157 Tryz.prog zq4v :=
 {
  mixed := by kernel_rfl,
  f157 := Eq.trans Tryz.func87 (congrArg some (by kernel_rfl)),
  f199 := Eq.trans Tryz.func113 (congrArg some (by kernel_rfl)),
  f229 := Eq.trans Tryz.func112 (congrArg some (by kernel_rfl)),
  f261 := Eq.trans Tryz.func146 (congrArg some (by kernel_rfl)),
  f311 := Eq.trans Tryz.func168 (congrArg some (by kernel_rfl)),
  f312 := Eq.trans Tryz.func169 (congrArg some (by kernel_rfl)),
  t0 := Tryz.underlying0,
  a0 := Tryz.isAgg0,
  z0 := Tryz.sizeOf0,
  v0 := Tryz.zeroValue0,
  t3 := Tryz.underlying3,
  a3 := Tryz.isAgg3,
  z3 := Tryz.sizeOf3,
  v3 := Tryz.zeroValue3,
  t4 := Tryz.underlying4,
  a4 := Tryz.isAgg4,
  z4 := Tryz.sizeOf4,
  v4 := Tryz.zeroValue4,
  t5 := Tryz.underlying5,
  a5 := Tryz.isAgg5,
  z5 := Tryz.sizeOf5,
  v5 := Tryz.zeroValue5,
  t9 := Tryz.underlying9,
  a9 := Tryz.isAgg9,
  z9 := Tryz.sizeOf9,
  v9 := Tryz.zeroValue9,
  t21 := Tryz.underlying21,
  a21 := Tryz.isAgg21,
  z21 := Tryz.sizeOf21,
  v21 := Tryz.zeroValue21,
  t31 := Tryz.underlying81,
  a31 := Tryz.isAgg81,
  z31 := Tryz.sizeOf81,
  v31 := Tryz.zeroValue81,
  t40 := Tryz.underlying173,
  a40 := Tryz.isAgg173,
  z40 := Tryz.sizeOf173,
  v40 := Tryz.zeroValue173,
  t46 := Tryz.underlying224,
  a46 := Tryz.isAgg224,
  z46 := Tryz.sizeOf224,
  v46 := Tryz.zeroValue224,
  t49 := Tryz.underlying229,
  a49 := Tryz.isAgg229,
  z49 := Tryz.sizeOf229,
  v49 := Tryz.zeroValue229,
  t51 := Tryz.underlying213,
  a51 := Tryz.isAgg213,
  z51 := Tryz.sizeOf213,
  v51 := Tryz.zeroValue213,
  t119 := Tryz.underlying171,
  a119 := Tryz.isAgg171,
  z119 := Tryz.sizeOf171,
  t141 := Tryz.underlying215,
  a141 := Tryz.isAgg215,
  z141 := Tryz.sizeOf215,
  v141 := Tryz.zeroValue215,
  t152 := Tryz.underlying210,
  a152 := Tryz.isAgg210,
  z152 := Tryz.sizeOf210,
  v152 := Tryz.zeroValue210,
  t154 := Tryz.underlying212,
  a154 := Tryz.isAgg212,
  z154 := Tryz.sizeOf212,
  v154 := Tryz.zeroValue212,
  t193 := Tryz.underlying225,
  a193 := Tryz.isAgg225,
  z193 := Tryz.sizeOf225,
  v193 := Tryz.zeroValue225,
  t194 := Tryz.underlying226,
  a194 := Tryz.isAgg226,
  z194 := Tryz.sizeOf226,
  v194 := Tryz.zeroValue226,
  t196 := Tryz.underlying228,
  a196 := Tryz.isAgg228,
  z196 := Tryz.sizeOf228,
  v196 := Tryz.zeroValue228,
  t198 := Tryz.underlying231,
  a198 := Tryz.isAgg231,
  z198 := Tryz.sizeOf231,
  v198 := Tryz.zeroValue231,
  t201 := Tryz.underlying234,
  a201 := Tryz.isAgg234,
  z201 := Tryz.sizeOf234,
  v201 := Tryz.zeroValue234,
  t226 := Tryz.underlying252,
  a226 := Tryz.isAgg252,
  z226 := Tryz.sizeOf252,
  v226 := Tryz.zeroValue252,
  t227 := Tryz.underlying253,
  a227 := Tryz.isAgg253,
  z227 := Tryz.sizeOf253,
  v227 := Tryz.zeroValue253,
  g0 := by kernel_rfl,
  g6 := by kernel_rfl }
abbrev zq4x := Qdd
def zq4y (c : zq4x) : Spec := Qfz 9 c
def zq4z : zq4x := fun x k => Qde x k
theorem zq50 : SpecOk Tryz.prog 87 (zq4y zq4z) :=
 Qj9 zq4w rfl rfl (by kernel_rfl) (by kernel_rfl) (by kernel_rfl) (by kernel_rfl) ⟨_, Tryz.func87, by kernel_rfl, by kernel_rfl⟩
noncomputable def zq51 : En := .of zq50
abbrev zq52 := {β : Type} → t8y → t4y → t3y → t1y → t2y → (Int → t4y → t3y → t1y → t2y → Option β) → Option β
def zq53 : zq52 := fun l b1_ b2_ b3_ b4_ k =>
 cond (decide (0 ≤ (1 : Int)) && decide ((1 : Int) < (List.length l : Int)))
 (let e := List.getD l (Int.toNat (1 : Int)) ((0 : Int), (([] : List UInt8), (0 : Int)));
 cond (decide (0 ≤ (2 : Int)) && decide ((2 : Int) < (List.length l : Int)))
 (let e2 := List.getD l (Int.toNat (2 : Int)) ((0 : Int), (([] : List UInt8), (0 : Int)));
 let l2 := ([(e.2.1, (e2.2.2, ([] : List zq8)))] : List zqa);
 cond (true && decide ((List.length b1_ + List.length l2) * 48 ≤ Q8))
 (let l3 := (b1_ ++ l2);
 k (0 : Int) l3 b2_ b3_ b4_)
 none)
 none)
 none
def zq54 : zq52 := hid zq53
theorem zq55 : SpecOkB Tryz.prog 91 (sg [v23y, v26y] l63y [v19y] l63y zq54) := Q1r mixed (X := ⟨look tab, gam ([] : List En), false, false, false, false, q83y, none, 0, []⟩) Qd [] rfl [] [.tmp 4] Tryz.func91 (by kernel_rfl) fun _ _ => by kernel_rfl
noncomputable def zq56 : En := .hand zq55 rfl (by kernel_rfl)
abbrev zq57 := {β : Type} → t8y → t4y → t3y → t1y → t2y → (Int → t4y → t3y → t1y → t2y → Option β) → Option β
def zq58 : zq57 := fun l b1_ b2_ b3_ b4_ k =>
 cond (decide (0 ≤ (1 : Int)) && decide ((1 : Int) < (List.length l : Int)))
 (let e := List.getD l (Int.toNat (1 : Int)) ((0 : Int), (([] : List UInt8), (0 : Int)));
 let l2 := ([(e.2.1, (([] : List zq2), ([] : List t0y)))] : List zq4);
 cond (true && decide ((List.length b4_ + List.length l2) * 64 ≤ Q8))
 (let l3 := (b4_ ++ l2);
 k (0 : Int) b1_ b2_ b3_ l3)
 none)
 none
def zq59 : zq57 := hid zq58
theorem zq5a : SpecOkB Tryz.prog 97 (sg [v23y, v26y] l63y [v19y] l63y zq59) := Q1r mixed (X := ⟨look tab, gam ([] : List En), false, false, false, false, q83y, none, 0, []⟩) Qd [] rfl [] [.tmp 4] Tryz.func97 (by kernel_rfl) fun _ _ => by kernel_rfl
noncomputable def zq5b : En := .hand zq5a rfl (by kernel_rfl)
abbrev zq5c := {β : Type} → Int → Int → Int → (Bool → Option β) → Option β
def zq5d : zq5c := fun n lo hi k =>
 cond (decide (lo ≤ n))
 (k (decide (n ≤ hi)))
 (k false)
def Q27 : zq5c := hid zq5d
noncomputable def zq5e : En := ⟨104, .spec (sg [v19y, v19y, v19y] [] [v24y] [] Q27), pf [] [] [.tmp 6] Tryz.func104 (by kernel_rfl) fun _ _ => by kernel_rfl⟩
abbrev zq5f := {β : Type} → zqc → t5y → (Bool → t5y → Option β) → Option β
def zq5g : zq5f := fun f t1 k =>
 k (decide (f.1 = t1)) t1
def zq5h : zq5f := hid zq5g
noncomputable def zq5i : En := ⟨116, .spec (sg [(true, [.data zqd]), v23y] [b31y] [v24y] [b31y] zq5h), pf [] [] [.tmp 3] Tryz.func116 (by kernel_rfl) fun _ _ => by kernel_rfl⟩
abbrev zq5j := {β : Type} → zq6 → t5y → (Bool → Option β) → Option β
def zq5k : zq5j := fun t s k =>
 cond (decide (t.1 = (0 : Int)))
 (k (decide (t.2.1 = s)))
 (k false)
def zq5l : zq5j := hid zq5k
noncomputable def zq5m : En := ⟨117, .spec (sg [(true, [.data zq7]), v27y] [] [v24y] [] zq5l), pf [] [] [.tmp 4] Tryz.func117 (by kernel_rfl) fun _ _ => by kernel_rfl⟩
noncomputable def zq5n : En := .inl mixed (X := ⟨look tab, gam ([] : List En), false, false, false, false, q83y, none, 0, []⟩) (rs := [.tmp 2]) Qd ([] : List En) rfl 4 Tryz.func121 (by kernel_rfl)
noncomputable def zq5o : En := .inl mixed (X := ⟨look tab, gam ([] : List En), false, false, false, false, q83y, none, 0, []⟩) (rs := [.tmp 2]) Qd ([] : List En) rfl 4 Tryz.func122 (by kernel_rfl)
abbrev zq5p := {β : Type} → zqa → (t5y → Option β) → Option β
def zq5q : zq5p := fun z k =>
 k z.1
def zq5r : zq5p := hid zq5q
noncomputable def zq5s : En := ⟨155, .spec (sg [v49y] [] [v27y] [] zq5r), Q9e mixed (X := ⟨look tab, gam ([] : List En), false, false, false, false, q83y, none, 0, []⟩) Qd [] rfl [] [.tmp 2] Tryz.func155 (by kernel_rfl) fun _ _ => by kernel_rfl⟩
noncomputable def zq5t : En := .inl mixed (X := ⟨look tab, gam [zq5s], false, false, false, false, [], none, 0, []⟩) (rs := [.tmp 4]) Qd [zq5s] rfl 4 Tryz.func174 (by kernel_rfl)
abbrev zq5u := {β : Type} → t4y → t5y → (Int → t5y → Option β) → Option β
noncomputable def zq5v : List En := [zq5t]
abbrev zq5w (β : Type) := Int → t5y → Option β
abbrev zq5x (β : Type) := t5y → Option β
abbrev zq5y (β : Type) := t4y → Int → Int → t5y → Option β
noncomputable def zq5z : Pc := ⟨19, 2, Q4 26 (Q3 Tryz.f173), ⟨2, [0, 1, 7, 8], [v58y, (false, [.fn 174 [0, 1]]), v19y, v19y], l76y⟩, [(.ret, ⟨2, [4], [v19y], l76y⟩), (.exit 0, ⟨2, [], [], l76y⟩)]⟩
def zq60 {β : Type} (rec : zq5y β) (k1 : zq5w β) (k2 : zq5x β) : zq5y β := fun s t7 t8 b1_ =>
 cond (decide (t8 < t7))
 (cond (decide (0 ≤ t8) && decide (t8 < (List.length s : Int)))
 (let e := List.getD s (Int.toNat t8) (([] : List UInt8), ((0 : Int), ([] : List zq8)));
 zq5r e (fun rzone1 =>
 cond (decide (rzone1 = b1_))
 (k1 t8 b1_)
 (rec s t7 (IntKind.i64.wrap (t8 + (1 : Int))) b1_)))
 none)
 (k2 b1_)
def zq61 (m : Nat) {β : Type} (k1 : zq5w β) (k2 : zq5x β) : zq5y β := lp4 (fun r => zq60 r k1 k2) none m
theorem zq62 {β : Type} (i : Nat) (k1 k2) : zq61 (β := β) (i + 1) k1 k2 = zq60 (zq61 i k1 k2) k1 k2 := rfl
def zq63 {β : Type} := hid (zq61 (β := β) fuel)
noncomputable def zq64 : Pb := ⟨26, zq5z, fun _ => zq63, pl (p := zq5z) zq5v [] (g := fun i _ => zq61 i) (by kernel_rfl) rfl (by kernel_rfl) (fun _ _ => rfl) fun _ _ _ _ => by kernel_rfl⟩
def zq65 : zq5u := fun s b1_ k =>
 zq63 (fun t4 b1_2 =>
 k t4 b1_2) (fun b1_2 =>
 k (-1 : Int) b1_2) s (List.length s : Int) (0 : Int) b1_
def zq66 : zq5u := hid zq65
noncomputable def zq67 : En := ⟨173, .spec (sg [v58y, (false, [.fn 174 [0, 1]])] l76y [v19y] l76y zq66), pf zq5v [zq64] [.tmp 4] Tryz.func173 (by kernel_rfl) fun _ _ => by kernel_rfl⟩
noncomputable def zq68 : En := .inl mixed (X := ⟨look tab, gam [zq67], false, false, false, false, [], none, 0, []⟩) (rs := [.tmp 6, .tmp 7]) Qd [zq67] rfl 4 Tryz.func154 (by kernel_rfl)
noncomputable def zq69 : En := .inl mixed (X := ⟨look tab, gam [zq68], false, false, false, false, q83y, none, 0, []⟩) (rs := [.tmp 4, .tmp 5]) Qd [zq68] rfl 4 Tryz.func123 (by kernel_rfl)
abbrev zq6a := {β : Type} → Bool → (Int → Option β) → Option β
def zq6b : zq6a := fun ok k =>
 cond (!ok)
 (k (3 : Int))
 (k (0 : Int))
def zq6c : zq6a := hid zq6b
noncomputable def zq6d : En := ⟨124, .spec (sg [v24y] [] [v19y] [] zq6c), pf [] [] [.tmp 2] Tryz.func124 (by kernel_rfl) fun _ _ => by kernel_rfl⟩
noncomputable def zq6e : En := .inl mixed (X := ⟨look tab, gam ([] : List En), false, false, false, false, q83y, none, 0, []⟩) (rs := [.tmp 2]) Qd ([] : List En) rfl 4 Tryz.func126 (by kernel_rfl)
noncomputable def zq6f : En := .inl mixed (X := ⟨look tab, gam ([] : List En), false, false, false, false, q83y, none, 0, []⟩) (rs := [.tmp 2]) Qd ([] : List En) rfl 4 Tryz.func127 (by kernel_rfl)
noncomputable def zq6g : En := .inl mixed (X := ⟨look tab, gam ([] : List En), false, false, false, false, q83y, none, 0, []⟩) (rs := [.tmp 2]) Qd ([] : List En) rfl 4 Tryz.func128 (by kernel_rfl)
noncomputable def zq6h : En := .inl mixed (X := ⟨look tab, gam ([] : List En), false, false, false, false, q83y, none, 0, []⟩) (rs := [.tmp 2]) Qd ([] : List En) rfl 4 Tryz.func129 (by kernel_rfl)
abbrev zq6i := {β : Type} → (List t5y) → t5y → (Int → Option β) → Option β
abbrev zq6j (β : Type) := Int → Option β
abbrev zq6k (β : Type) := Unit → Option β
abbrev zq6l (β : Type) := (List t5y) → t5y → Int → Int → Option β
noncomputable def zq6m : Pc := ⟨19, 0, Q4 26 (Q3 Tryz.f130), ⟨0, [0, 1, 7, 8], [(false, [.data (.slice .str)]), v27y, v19y, v19y], []⟩, [(.ret, ⟨0, [4], [v19y], []⟩), (.exit 0, ⟨0, [], [], []⟩)]⟩
def zq6n {β : Type} (rec : zq6l β) (k1 : zq6j β) (k2 : zq6k β) : zq6l β := fun s v t7 t8 =>
 cond (decide (t8 < t7))
 (cond (decide (0 ≤ t8) && decide (t8 < (List.length s : Int)))
 (let e := List.getD s (Int.toNat t8) ([] : List UInt8);
 cond (decide (v = e))
 (k1 t8)
 (rec s v t7 (IntKind.i64.wrap (t8 + (1 : Int)))))
 none)
 (k2 ())
def zq6o (m : Nat) {β : Type} (k1 : zq6j β) (k2 : zq6k β) : zq6l β := lp4 (fun r => zq6n r k1 k2) none m
theorem zq6p {β : Type} (i : Nat) (k1 k2) : zq6o (β := β) (i + 1) k1 k2 = zq6n (zq6o i k1 k2) k1 k2 := rfl
def zq6q {β : Type} := hid (zq6o (β := β) fuel)
noncomputable def zq6r : Pb := ⟨26, zq6m, fun _ => zq6q, pl (p := zq6m) [] [] (g := fun i _ => zq6o i) (by kernel_rfl) rfl (by kernel_rfl) (fun _ _ => rfl) fun _ _ _ _ => by kernel_rfl⟩
def zq6s : zq6i := fun s v k =>
 zq6q (fun t4 =>
 k t4) (fun _ =>
 k (-1 : Int)) s v (List.length s : Int) (0 : Int)
def zq6t : zq6i := hid zq6s
noncomputable def zq6u : En := ⟨130, .spec (sg [(false, [.data (.slice .str)]), v27y] [] [v19y] [] zq6t), pf [] [zq6r] [.tmp 4] Tryz.func130 (by kernel_rfl) fun _ _ => by kernel_rfl⟩
noncomputable def zq6v : En := .inl mixed (X := ⟨look tab, gam ([] : List En), false, false, false, false, q83y, none, 0, []⟩) (rs := [.tmp 2]) Qd ([] : List En) rfl 4 Tryz.func131 (by kernel_rfl)
noncomputable def zq6w : En := .inl mixed (X := ⟨look tab, gam ([] : List En), false, false, false, false, q83y, none, 0, []⟩) (rs := [.tmp 2]) Qd ([] : List En) rfl 4 Tryz.func132 (by kernel_rfl)
noncomputable def zq6x : En := .inl mixed (X := ⟨look tab, gam ([] : List En), false, false, false, false, q83y, none, 0, []⟩) (rs := [.tmp 2]) Qd ([] : List En) rfl 4 Tryz.func156 (by kernel_rfl)
noncomputable def zq6y : En := .inl mixed (X := ⟨look tab, gam [zq6x, zq6v], false, false, false, false, q83y, none, 0, []⟩) (rs := [.tmp 2]) Qd [zq6x, zq6v] rfl 4 Tryz.func133 (by kernel_rfl)
noncomputable def zq6z : En := .inl mixed (X := ⟨look tab, gam ([] : List En), false, false, false, false, q83y, none, 0, []⟩) (rs := [.tmp 2]) Qd ([] : List En) rfl 4 Tryz.func134 (by kernel_rfl)
abbrev zq70 := {β : Type} → zq0 → (t5y → Option β) → Option β
def zq71 : zq70 := fun c k =>
 k c.1
def zq72 : zq70 := hid zq71
noncomputable def zq73 : En := ⟨158, .spec (sg [v62y] [] [v27y] [] zq72), Q9e mixed (X := ⟨look tab, gam ([] : List En), false, false, false, false, q83y, none, 0, []⟩) Qd [] rfl [] [.tmp 2] Tryz.func158 (by kernel_rfl) fun _ _ => by kernel_rfl⟩
noncomputable def zq74 : En := .inl mixed (X := ⟨look tab, gam [zq73], false, false, false, false, [], none, 0, []⟩) (rs := [.tmp 4]) Qd [zq73] rfl 4 Tryz.func176 (by kernel_rfl)
abbrev zq75 := {β : Type} → t1y → t5y → (Int → t5y → Option β) → Option β
noncomputable def zq76 : List En := [zq74]
abbrev zq77 (β : Type) := Int → t5y → Option β
abbrev zq78 (β : Type) := t5y → Option β
abbrev zq79 (β : Type) := t1y → Int → Int → t5y → Option β
noncomputable def zq7a : Pc := ⟨19, 2, Q4 26 (Q3 Tryz.f175), ⟨2, [0, 1, 7, 8], [v52y, (false, [.fn 176 [0, 1]]), v19y, v19y], l75y⟩, [(.ret, ⟨2, [4], [v19y], l75y⟩), (.exit 0, ⟨2, [], [], l75y⟩)]⟩
def zq7b {β : Type} (rec : zq79 β) (k1 : zq77 β) (k2 : zq78 β) : zq79 β := fun s t7 t8 b1_ =>
 cond (decide (t8 < t7))
 (cond (decide (0 ≤ t8) && decide (t8 < (List.length s : Int)))
 (let e := List.getD s (Int.toNat t8) (([] : List UInt8), ((0 : Int), ([] : List Int)));
 zq72 e (fun rcalendar1 =>
 let t := (decide (rcalendar1 = b1_));
 cond t
 (k1 t8 b1_)
 (rec s t7 (IntKind.i64.wrap (t8 + (1 : Int))) b1_)))
 none)
 (k2 b1_)
def zq7c (m : Nat) {β : Type} (k1 : zq77 β) (k2 : zq78 β) : zq79 β := lp4 (fun r => zq7b r k1 k2) none m
theorem zq7d {β : Type} (i : Nat) (k1 k2) : zq7c (β := β) (i + 1) k1 k2 = zq7b (zq7c i k1 k2) k1 k2 := rfl
def zq7e {β : Type} := hid (zq7c (β := β) fuel)
noncomputable def zq7f : Pb := ⟨26, zq7a, fun _ => zq7e, pl (p := zq7a) zq76 [] (g := fun i _ => zq7c i) (by kernel_rfl) rfl (by kernel_rfl) (fun _ _ => rfl) fun _ _ _ _ => by kernel_rfl⟩
def zq7g : zq75 := fun s b1_ k =>
 zq7e (fun t4 b1_2 =>
 k t4 b1_2) (fun b1_2 =>
 k (-1 : Int) b1_2) s (List.length s : Int) (0 : Int) b1_
def zq7h : zq75 := hid zq7g
noncomputable def zq7i : En := ⟨175, .spec (sg [v52y, (false, [.fn 176 [0, 1]])] l75y [v19y] l75y zq7h), pf zq76 [zq7f] [.tmp 4] Tryz.func175 (by kernel_rfl) fun _ _ => by kernel_rfl⟩
noncomputable def zq7j : En := .inl mixed (X := ⟨look tab, gam [zq7i], false, false, false, false, [], none, 0, []⟩) (rs := [.tmp 6, .tmp 7]) Qd [zq7i] rfl 4 Tryz.func157 (by kernel_rfl)
noncomputable def zq7k : En := .inl mixed (X := ⟨look tab, gam [zq7j], false, false, false, false, q83y, none, 0, []⟩) (rs := [.tmp 4, .tmp 5]) Qd [zq7j] rfl 4 Tryz.func135 (by kernel_rfl)
abbrev zq7l := {β : Type} → zq8 → (Int → Option β) → Option β
def zq7m : zq7l := fun r_ k =>
 Q27 r_.1 (1970 : Int) (2240 : Int) (fun rin =>
 cond (!rin)
 (k (1 : Int))
 (Q27 r_.2.1 r_.1 (2240 : Int) (fun rin2 =>
 cond (!rin2)
 (k (1 : Int))
 (Q27 r_.2.2.1 (1 : Int) (12 : Int) (fun rin3 =>
 cond (!rin3)
 (k (1 : Int))
 (Q27 r_.2.2.2.1 (1 : Int) (5 : Int) (fun rin4 =>
 cond (!rin4)
 (k (1 : Int))
 (Q27 r_.2.2.2.2.1 (0 : Int) (6 : Int) (fun rin5 =>
 cond (!rin5)
 (k (1 : Int))
 (Q27 r_.2.2.2.2.2.1 (0 : Int) (86399 : Int) (fun rin6 =>
 cond (!rin6)
 (k (1 : Int))
 (Q27 r_.2.2.2.2.2.2 (-64800 : Int) (64800 : Int) (fun rin7 =>
 cond (!rin7)
 (k (1 : Int))
 (k (0 : Int)))))))))))))))
def zq7n : zq7l := hid zq7m
noncomputable def zq7o : En := ⟨136, .spec (sg [(true, [.data zq9])] [] [v19y] [] zq7n), pf [zq5e] [] [.tmp 2] Tryz.func136 (by kernel_rfl) fun _ _ => by kernel_rfl⟩
abbrev zq7p := {β : Type} → Int → Int → (Int → Option β) → Option β
def zq7q : zq7p := fun a b k =>
 cond (!decide (b = 0))
 (let q := (IntKind.i64.wrap (Int.tdiv a b));
 cond (!decide (b = 0))
 (cond (decide ((Int.tmod a b) < (0 : Int)))
 (let q2 := (IntKind.i64.wrap (q - (1 : Int)));
 k q2)
 (k q))
 none)
 none
def zq7r : zq7p := hid zq7q
noncomputable def zq7s : En := ⟨140, .spec (sg [v19y, v19y] [] [v19y] [] zq7r), pf [] [] [.tmp 4] Tryz.func140 (by kernel_rfl) fun _ _ => by kernel_rfl⟩
abbrev zq7t := {β : Type} → Int → (Bool → Option β) → Option β
def zq7u : zq7t := fun year k =>
 cond (decide ((Int.tmod year (4 : Int)) = (0 : Int)))
 (cond (!decide ((Int.tmod year (100 : Int)) = (0 : Int)))
 (k true)
 (let t := (decide ((Int.tmod year (400 : Int)) = (0 : Int)));
 k t))
 (k false)
def zq7v : zq7t := hid zq7u
noncomputable def zq7w : En := ⟨141, .spec (sg [v19y] [] [v24y] [] zq7v), pf [] [] [.tmp 2] Tryz.func141 (by kernel_rfl) fun _ _ => by kernel_rfl⟩
def zq7x : Shelf.Ren :=
   {
   f := fun x =>
    match x with
    | 144 => 148
    | 143 => 110
    | 219 => 145
    | 217 => 164
    | 225 => 165
    | 224 => 166
    | 267 => 167
    | 266 => 179
    | 314 => 180
    | n => n,
   t := fun x =>
    match x with
    | 9 => 9
    | 4 => 4
    | 3 => 3
    | 5 => 5
    | 46 => 224
    | 146 => 250
    | 51 => 213
    | n => n,
   g := fun x =>
    match x with
    | 1 => 2
    | n => n }
theorem zq7y : Go.Proofs.Lays.n144 Tryz.prog zq7x :=
 {
  mixed := by kernel_rfl,
  f143 := Eq.trans Tryz.func110 (congrArg some (by kernel_rfl)),
  f144 := Eq.trans Tryz.func148 (congrArg some (by kernel_rfl)),
  f217 := Eq.trans Tryz.func164 (congrArg some (by kernel_rfl)),
  f219 := Eq.trans Tryz.func145 (congrArg some (by kernel_rfl)),
  f224 := Eq.trans Tryz.func166 (congrArg some (by kernel_rfl)),
  f225 := Eq.trans Tryz.func165 (congrArg some (by kernel_rfl)),
  f266 := Eq.trans Tryz.func179 (congrArg some (by kernel_rfl)),
  f267 := Eq.trans Tryz.func167 (congrArg some (by kernel_rfl)),
  f314 := Eq.trans Tryz.func180 (congrArg some (by kernel_rfl)),
  t3 := Tryz.underlying3,
  a3 := Tryz.isAgg3,
  z3 := Tryz.sizeOf3,
  v3 := Tryz.zeroValue3,
  t4 := Tryz.underlying4,
  a4 := Tryz.isAgg4,
  z4 := Tryz.sizeOf4,
  v4 := Tryz.zeroValue4,
  t5 := Tryz.underlying5,
  a5 := Tryz.isAgg5,
  z5 := Tryz.sizeOf5,
  v5 := Tryz.zeroValue5,
  t9 := Tryz.underlying9,
  a9 := Tryz.isAgg9,
  z9 := Tryz.sizeOf9,
  v9 := Tryz.zeroValue9,
  t46 := Tryz.underlying224,
  a46 := Tryz.isAgg224,
  z46 := Tryz.sizeOf224,
  v46 := Tryz.zeroValue224,
  t51 := Tryz.underlying213,
  a51 := Tryz.isAgg213,
  z51 := Tryz.sizeOf213,
  v51 := Tryz.zeroValue213,
  t146 := Tryz.underlying250,
  a146 := Tryz.isAgg250,
  z146 := Tryz.sizeOf250,
  v146 := Tryz.zeroValue250,
  g1 := by kernel_rfl }
abbrev zq7z := Q9f
def zq80 (c : zq7z) : Spec := Qe1 c
def zq81 : zq7z := fun x y k => Q9g x y k
theorem zq82 : SpecOk Tryz.prog 148 (zq80 zq81) :=
 Qh0 zq7y rfl (of_decide_eq_true (by kernel_rfl)) (fun w0 h0 => Go.Proofs.cell_of_shapedOpen_int (P := Tryz.prog) (g := 2) (t := 3) (zero := #[.int .i64 0]) h0 (of_decide_eq_true (by kernel_rfl)) (by kernel_rfl) rfl (by kernel_rfl) (by kernel_rfl) Tryz.underlying3) ⟨_, Tryz.func148, by kernel_rfl, by kernel_rfl⟩
noncomputable def zq83 : En := .of zq82
abbrev zq84 := {β : Type} → t5y → t5y → (Int → Bool → Option β) → Option β
def zq85 : zq84 := fun words word k =>
 zq4z words (fun lrFields =>
 zq6t lrFields word (fun rIndexstringstring =>
 let t := (IntKind.i64.wrap (rIndexstringstring + (1 : Int)));
 let t2 := (decide ((0 : Int) ≤ rIndexstringstring));
 k t t2))
def zq86 : zq84 := hid zq85
noncomputable def zq87 : En := ⟨153, .spec (sg [v27y, v27y] [] [v19y, v24y] [] zq86), pf [zq6u, zq51] [] [.tmp 4, .tmp 5] Tryz.func153 (by kernel_rfl) fun _ _ => by kernel_rfl⟩
abbrev zq88 := {β : Type} → Int → (Int → Option β) → Option β
def zq89 : zq88 := fun day k =>
 let t := (Int.tmod (IntKind.i64.wrap ((Int.tmod day (7 : Int)) + (10 : Int))) (7 : Int));
 k t
def zq8a : zq88 := hid zq89
noncomputable def zq8b : En := ⟨161, .spec (sg [v19y] [] [v19y] [] zq8a), pf [] [] [.tmp 2] Tryz.func161 (by kernel_rfl) fun _ _ => by kernel_rfl⟩
def zq8c : Shelf.Ren :=
   {
   f := fun x =>
    match x with
    | 172 => 172
    | 244 => 181
    | 245 => 182
    | 247 => 184
    | 279 => 185
    | 280 => 186
    | 281 => 187
    | 282 => 188
    | 287 => 190
    | 316 => 191
    | 171 => 193
    | 205 => 192
    | 321 => 194
    | 322 => 195
    | 243 => 196
    | 246 => 197
    | 283 => 198
    | 284 => 199
    | 285 => 200
    | 286 => 201
    | 129 => 203
    | 317 => 202
    | 318 => 204
    | 319 => 205
    | 320 => 206
    | 337 => 207
    | 338 => 208
    | n => n,
   t := fun x =>
    match x with
    | 9 => 9
    | 3 => 3
    | 75 => 238
    | 76 => 239
    | 4 => 4
    | 5 => 5
    | 167 => 255
    | 37 => 28
    | 0 => 0
    | 85 => 256
    | 2 => 2
    | 168 => 258
    | 53 => 261
    | 175 => 262
    | 46 => 224
    | 210 => 266
    | 127 => 269
    | 145 => 272
    | 143 => 270
    | 21 => 21
    | 171 => 274
    | 173 => 277
    | 212 => 280
    | 51 => 213
    | 20 => 20
    | 213 => 281
    | 232 => 284
    | 233 => 285
    | 80 => 79
    | n => n,
   g := fun x =>
    match x with
    | 15 => 5
    | 16 => 6
    | 17 => 7
    | 18 => 8
    | 19 => 9
    | n => n }
theorem zq8d : Go.Proofs.LaysC.n172 Tryz.prog zq8c :=
 {
  mixed := by kernel_rfl,
  f129 := Eq.trans Tryz.func203 (congrArg some (by kernel_rfl)),
  f171 := Eq.trans Tryz.func193 (congrArg some (by kernel_rfl)),
  f172 := Eq.trans Tryz.func172 (congrArg some (by kernel_rfl)),
  f205 := Eq.trans Tryz.func192 (congrArg some (by kernel_rfl)),
  f243 := Eq.trans Tryz.func196 (congrArg some (by kernel_rfl)),
  f244 := Eq.trans Tryz.func181 (congrArg some (by kernel_rfl)),
  f245 := Eq.trans Tryz.func182 (congrArg some (by kernel_rfl)),
  f246 := Eq.trans Tryz.func197 (congrArg some (by kernel_rfl)),
  f247 := Eq.trans Tryz.func184 (congrArg some (by kernel_rfl)),
  f279 := Eq.trans Tryz.func185 (congrArg some (by kernel_rfl)),
  f280 := Eq.trans Tryz.func186 (congrArg some (by kernel_rfl)),
  f281 := Eq.trans Tryz.func187 (congrArg some (by kernel_rfl)),
  f282 := Eq.trans Tryz.func188 (congrArg some (by kernel_rfl)),
  f283 := Eq.trans Tryz.func198 (congrArg some (by kernel_rfl)),
  f284 := Eq.trans Tryz.func199 (congrArg some (by kernel_rfl)),
  f285 := Eq.trans Tryz.func200 (congrArg some (by kernel_rfl)),
  f286 := Eq.trans Tryz.func201 (congrArg some (by kernel_rfl)),
  f287 := Eq.trans Tryz.func190 (congrArg some (by kernel_rfl)),
  f316 := Eq.trans Tryz.func191 (congrArg some (by kernel_rfl)),
  f317 := Eq.trans Tryz.func202 (congrArg some (by kernel_rfl)),
  f318 := Eq.trans Tryz.func204 (congrArg some (by kernel_rfl)),
  f319 := Eq.trans Tryz.func205 (congrArg some (by kernel_rfl)),
  f320 := Eq.trans Tryz.func206 (congrArg some (by kernel_rfl)),
  f321 := Eq.trans Tryz.func194 (congrArg some (by kernel_rfl)),
  f322 := Eq.trans Tryz.func195 (congrArg some (by kernel_rfl)),
  f337 := Eq.trans Tryz.func207 (congrArg some (by kernel_rfl)),
  f338 := Eq.trans Tryz.func208 (congrArg some (by kernel_rfl)),
  t0 := Tryz.underlying0,
  a0 := Tryz.isAgg0,
  z0 := Tryz.sizeOf0,
  v0 := Tryz.zeroValue0,
  t2 := Tryz.underlying2,
  a2 := Tryz.isAgg2,
  z2 := Tryz.sizeOf2,
  v2 := Tryz.zeroValue2,
  t3 := Tryz.underlying3,
  a3 := Tryz.isAgg3,
  z3 := Tryz.sizeOf3,
  v3 := Tryz.zeroValue3,
  t4 := Tryz.underlying4,
  a4 := Tryz.isAgg4,
  z4 := Tryz.sizeOf4,
  v4 := Tryz.zeroValue4,
  t5 := Tryz.underlying5,
  a5 := Tryz.isAgg5,
  z5 := Tryz.sizeOf5,
  v5 := Tryz.zeroValue5,
  t9 := Tryz.underlying9,
  a9 := Tryz.isAgg9,
  z9 := Tryz.sizeOf9,
  v9 := Tryz.zeroValue9,
  t20 := Tryz.underlying20,
  a20 := Tryz.isAgg20,
  z20 := Tryz.sizeOf20,
  v20 := Tryz.zeroValue20,
  t21 := Tryz.underlying21,
  a21 := Tryz.isAgg21,
  z21 := Tryz.sizeOf21,
  v21 := Tryz.zeroValue21,
  t37 := Tryz.underlying28,
  a37 := Tryz.isAgg28,
  z37 := Tryz.sizeOf28,
  v37 := Tryz.zeroValue28,
  t46 := Tryz.underlying224,
  a46 := Tryz.isAgg224,
  z46 := Tryz.sizeOf224,
  v46 := Tryz.zeroValue224,
  t51 := Tryz.underlying213,
  a51 := Tryz.isAgg213,
  z51 := Tryz.sizeOf213,
  v51 := Tryz.zeroValue213,
  t53 := Tryz.underlying261,
  a53 := Tryz.isAgg261,
  z53 := Tryz.sizeOf261,
  v53 := Tryz.zeroValue261,
  t75 := Tryz.underlying238,
  a75 := Tryz.isAgg238,
  z75 := Tryz.sizeOf238,
  v75 := Tryz.zeroValue238,
  t76 := Tryz.underlying239,
  a76 := Tryz.isAgg239,
  z76 := Tryz.sizeOf239,
  v76 := Tryz.zeroValue239,
  t85 := Tryz.underlying256,
  a85 := Tryz.isAgg256,
  z85 := Tryz.sizeOf256,
  v85 := Tryz.zeroValue256,
  t127 := Tryz.underlying269,
  a127 := Tryz.isAgg269,
  z127 := Tryz.sizeOf269,
  v127 := Tryz.zeroValue269,
  t143 := Tryz.underlying270,
  a143 := Tryz.isAgg270,
  z143 := Tryz.sizeOf270,
  v143 := Tryz.zeroValue270,
  t145 := Tryz.underlying272,
  a145 := Tryz.isAgg272,
  z145 := Tryz.sizeOf272,
  v145 := Tryz.zeroValue272,
  t167 := Tryz.underlying255,
  a167 := Tryz.isAgg255,
  z167 := Tryz.sizeOf255,
  v167 := Tryz.zeroValue255,
  t168 := Tryz.underlying258,
  a168 := Tryz.isAgg258,
  z168 := Tryz.sizeOf258,
  v168 := Tryz.zeroValue258,
  t171 := Tryz.underlying274,
  a171 := Tryz.isAgg274,
  z171 := Tryz.sizeOf274,
  v171 := Tryz.zeroValue274,
  t173 := Tryz.underlying277,
  a173 := Tryz.isAgg277,
  z173 := Tryz.sizeOf277,
  v173 := Tryz.zeroValue277,
  t175 := Tryz.underlying262,
  a175 := Tryz.isAgg262,
  z175 := Tryz.sizeOf262,
  v175 := Tryz.zeroValue262,
  t210 := Tryz.underlying266,
  a210 := Tryz.isAgg266,
  z210 := Tryz.sizeOf266,
  v210 := Tryz.zeroValue266,
  t212 := Tryz.underlying280,
  a212 := Tryz.isAgg280,
  z212 := Tryz.sizeOf280,
  v212 := Tryz.zeroValue280,
  t213 := Tryz.underlying281,
  a213 := Tryz.isAgg281,
  z213 := Tryz.sizeOf281,
  t232 := Tryz.underlying284,
  a232 := Tryz.isAgg284,
  z232 := Tryz.sizeOf284,
  v232 := Tryz.zeroValue284,
  t233 := Tryz.underlying285,
  a233 := Tryz.isAgg285,
  z233 := Tryz.sizeOf285,
  v233 := Tryz.zeroValue285,
  g15 := by kernel_rfl,
  g16 := by kernel_rfl,
  g17 := by kernel_rfl,
  g18 := by kernel_rfl,
  g19 := by kernel_rfl,
  t80 := Tryz.underlying79,
  a80 := Tryz.isAgg79,
  z80 := Tryz.sizeOf79,
  v80 := Tryz.zeroValue79,
  i0 := by kernel_rfl,
  i2 := by kernel_rfl,
  i3 := by kernel_rfl,
  i4 := by kernel_rfl,
  i5 := by kernel_rfl,
  i9 := by kernel_rfl,
  i20 := by kernel_rfl,
  i21 := by kernel_rfl,
  i37 := by kernel_rfl,
  i46 := by kernel_rfl,
  i51 := by kernel_rfl,
  i53 := by kernel_rfl,
  i75 := by kernel_rfl,
  i76 := by kernel_rfl,
  i80 := by kernel_rfl,
  i85 := by kernel_rfl,
  i127 := by kernel_rfl,
  i143 := by kernel_rfl,
  i145 := by kernel_rfl,
  i167 := by kernel_rfl,
  i168 := by kernel_rfl,
  i171 := by kernel_rfl,
  i173 := by kernel_rfl,
  i175 := by kernel_rfl,
  i210 := by kernel_rfl,
  i212 := by kernel_rfl,
  i232 := by kernel_rfl,
  i233 := by kernel_rfl,
  m15 := by kernel_rfl,
  m16 := by kernel_rfl,
  m17 := by kernel_rfl,
  m18 := by kernel_rfl,
  m19 := by kernel_rfl,
  c0 := by kernel_rfl,
  c2 := by kernel_rfl,
  c3 := by kernel_rfl,
  c4 := by kernel_rfl,
  c5 := by kernel_rfl,
  c9 := by kernel_rfl,
  c20 := by kernel_rfl,
  c21 := by kernel_rfl,
  c37 := by kernel_rfl,
  c46 := by kernel_rfl,
  c51 := by kernel_rfl,
  c53 := by kernel_rfl,
  c75 := by kernel_rfl,
  c76 := by kernel_rfl,
  c80 := by kernel_rfl,
  c85 := by kernel_rfl,
  c127 := by kernel_rfl,
  c143 := by kernel_rfl,
  c145 := by kernel_rfl,
  c167 := by kernel_rfl,
  c168 := by kernel_rfl,
  c171 := by kernel_rfl,
  c173 := by kernel_rfl,
  c175 := by kernel_rfl,
  c210 := by kernel_rfl,
  c212 := by kernel_rfl,
  c213 := by kernel_rfl,
  c232 := by kernel_rfl,
  c233 := by kernel_rfl }
abbrev zq8e := Qia
def zq8f (c : zq8e) : Spec := Qkt c
def zq8g : zq8e := fun x k => Qib x k
theorem zq8h : SpecOk Tryz.prog 172 (zq8f zq8g) :=
 Ql2 zq8d rfl (by kernel_rfl) (by kernel_rfl) ⟨_, Tryz.func172, by kernel_rfl, by kernel_rfl⟩
noncomputable def zq8i : En := .of zq8h
abbrev zq8j := {β : Type} → t4y → t3y → t1y → t7y → (t0y → t7y → Option β) → Option β
noncomputable def zq8k : List En := [zq3z, zq47, zq1j, zq43]
abbrev zq8l (β : Type) := t7y → t0y → Option β
abbrev zq8m (β : Type) := t7y → t0y → t0y → Option β
noncomputable def zq8n : Pc := ⟨52, 1, Q4 63 (Q3 Tryz.f43), ⟨1, [0, 4, 6], [v23y, v30y, v33y], [b20y, b22y, b22y]⟩, [(.ret, ⟨1, [4], [v30y], [b20y, b22y]⟩)]⟩
def zq8o {β : Type} (k1 : zq8l β) : zq8m β := fun d t4 x =>
 cond (decide (x.1 = (1 : Int)))
 (zq3y (4 : Int) d (fun rBool mrBool =>
 cond rBool
 (k1 mrBool (x.1, ((-1 : Int), x.2.2)))
 (k1 mrBool x)))
 (k1 d x)
def zq8p {β : Type} := hid (zq8o (β := β))
noncomputable def zq8q : Pb := ⟨63, zq8n, fun _ => zq8p, pe (p := zq8n) zq8k [] 63 (g := fun _ => zq8o) (by kernel_rfl) fun _ _ => by kernel_rfl⟩
def zq8r : zq8j := fun c c2 c3 d k =>
 zq1i (3 : Int) d (fun rNext mrNext =>
 zq1i (List.length c2 : Int) mrNext (fun rNext2 mrNext2 =>
 zq46 mrNext2 (fun rInstant mrInstant =>
 let l := ([(3600 : Int), (86400 : Int), (7 : Int), (259200 : Int), (40000 : Int)] : List Int);
 zq42 l mrInstant (fun rPick mrPick =>
 cond (decide (rNext = (2 : Int)))
 (cond (decide ((List.length c2 : Int) < (2 : Int)))
 (k ((0 : Int), (rNext2, ((0 : Int), (rInstant, (IntKind.i64.wrap (rInstant + rPick)))))) mrPick)
 (zq1i (IntKind.i64.wrap ((List.length c2 : Int) - (1 : Int))) mrPick (fun rNext3 mrNext3 =>
 cond (!decide ((List.length c2 : Int) = 0))
 (zq8p (fun b0_ t4 =>
 k t4 b0_) mrNext3 ((0 : Int), ((0 : Int), ((0 : Int), ((0 : Int), (0 : Int))))) (rNext, (rNext2, ((Int.tmod (IntKind.i64.wrap ((IntKind.i64.wrap (rNext2 + (1 : Int))) + rNext3)) (List.length c2 : Int)), (rInstant, (IntKind.i64.wrap (rInstant + rPick)))))))
 none)))
 (zq8p (fun b0_ t4 =>
 k t4 b0_) mrPick ((0 : Int), ((0 : Int), ((0 : Int), ((0 : Int), (0 : Int))))) (rNext, (rNext2, ((0 : Int), (rInstant, (IntKind.i64.wrap (rInstant + rPick)))))))))))
def zq8s : zq8j := hid zq8r
noncomputable def zq8t : En := ⟨43, .spec (sg [v23y, v56y] [b20y] [v54y] [b20y] zq8s), pf zq8k [zq8q] [.cell 4 46] Tryz.func43 (by kernel_rfl) fun _ _ => by kernel_rfl⟩
abbrev zq8u := {β : Type} → t5y → (Bool → Option β) → Option β
noncomputable def zq8v : List En := [zq4f, zq4b]
abbrev zq8w (β : Type) := Bool → Option β
abbrev zq8x (β : Type) := Unit → Option β
abbrev zq8y (β : Type) := t5y → Int → Int → Option β
noncomputable def zq8z : Pc := ⟨43, 0, Q4 58 (Q3 Tryz.f51), ⟨0, [0, 19, 20], [v27y, v19y, v19y], []⟩, [(.ret, ⟨0, [2], [v24y], []⟩), (.exit 0, ⟨0, [], [], []⟩)]⟩
def zq90 {β : Type} (rec : zq8y β) (k1 : zq8w β) (k2 : zq8x β) : zq8y β := fun s t19 t20 =>
 cond (decide (t20 < t19))
 (cond (decide (0 ≤ t20) && decide (t20 < (List.length s : Int)))
 (let c := ((List.getD s (Int.toNat t20) 0).toNat : Int);
 zq4a c (fun rsmall =>
 cond (!rsmall)
 (zq4e c (fun rdigit =>
 cond (!rdigit)
 (cond (!decide (c = (95 : Int)))
 (cond (!decide (c = (45 : Int)))
 (k1 false)
 (rec s t19 (IntKind.i64.wrap (t20 + (1 : Int)))))
 (rec s t19 (IntKind.i64.wrap (t20 + (1 : Int)))))
 (rec s t19 (IntKind.i64.wrap (t20 + (1 : Int))))))
 (rec s t19 (IntKind.i64.wrap (t20 + (1 : Int))))))
 none)
 (k2 ())
def zq91 (m : Nat) {β : Type} (k1 : zq8w β) (k2 : zq8x β) : zq8y β := lp3 (fun r => zq90 r k1 k2) none m
theorem zq92 {β : Type} (i : Nat) (k1 k2) : zq91 (β := β) (i + 1) k1 k2 = zq90 (zq91 i k1 k2) k1 k2 := rfl
def zq93 {β : Type} := hid (zq91 (β := β) fuel)
noncomputable def zq94 : Pb := ⟨58, zq8z, fun _ => zq93, pl (p := zq8z) zq8v [] (g := fun i _ => zq91 i) (by kernel_rfl) rfl (by kernel_rfl) (fun _ _ => rfl) fun _ _ _ _ => by kernel_rfl⟩
def zq95 : zq8u := fun s k =>
 cond (decide (s = ([] : List UInt8)))
 (k false)
 (cond (decide ((24 : Int) < (List.length s : Int)))
 (k false)
 (cond (decide (0 ≤ (0 : Int)) && decide ((0 : Int) < (List.length s : Int)))
 (zq4a ((List.getD s (Int.toNat (0 : Int)) 0).toNat : Int) (fun rsmall =>
 cond (!rsmall)
 (k false)
 (zq93 (fun t2 =>
 k t2) (fun _ =>
 k true) s (List.length s : Int) (0 : Int))))
 none))
def zq96 : zq8u := hid zq95
noncomputable def zq97 : En := ⟨51, .spec (sg [v27y] [] [v24y] [] zq96), pf zq8v [zq94] [.tmp 2] Tryz.func51 (by kernel_rfl) fun _ _ => by kernel_rfl⟩
abbrev zq98 := {β : Type} → Int → (Bool → Option β) → Option β
def zq99 : zq98 := fun n k =>
 zq4i n (0 : Int) (604800 : Int) (fun rin =>
 cond rin
 (let t := (decide ((Int.tmod n (3600 : Int)) = (0 : Int)));
 k t)
 (k false))
def zq9a : zq98 := hid zq99
noncomputable def zq9b : En := ⟨54, .spec (sg [v19y] [] [v24y] [] zq9a), pf [zq4j] [] [.tmp 2] Tryz.func54 (by kernel_rfl) fun _ _ => by kernel_rfl⟩
abbrev zq9c := {β : Type} → t5y → t7y → (zqa → t7y → Option β) → Option β
noncomputable def zq9d : List En := [zq1j, zq43]
abbrev zq9e (β : Type) := t7y → zqa → t5y → Int → t13y → Option β
abbrev zq9f (β : Type) := Int → t7y → zqa → zqa → Option β
noncomputable def zq9g : Pc := ⟨98, 1, Q4 31483 (Q3 Tryz.f68), ⟨1, [0, 4, 5, 7], [v23y, v30y, v33y, v19y], [b20y, b59y, b59y]⟩, [(.normal, ⟨1, [4, 5], [v30y, v33y], [b20y, b59y, .cells 32 [.data .str, .data (.int .i64), .rowh 3], .row 101 zq9]⟩)]⟩
def zq9h {β : Type} (k1 : zq9e β) : zq9f β := fun x d t4 z =>
 zq1i (7 : Int) d (fun rNext mrNext =>
 zq1i (48 : Int) mrNext (fun rNext2 mrNext2 =>
 let l := ([((2026 : Int), ((2026 : Int), ((1 : Int), ((2 : Int), (rNext, ((IntKind.i64.wrap ((1800 : Int) * rNext2)), x))))))] : List zq8);
 k1 mrNext2 t4 z.1 z.2.1 l))
def zq9i {β : Type} := hid (zq9h (β := β))
noncomputable def zq9j : Pb := ⟨31483, zq9g, fun _ => zq9i, pe (p := zq9g) zq9d [] 31483 (g := fun _ => zq9h) (by kernel_rfl) fun _ _ => by kernel_rfl⟩
def zq9k : zq9c := fun name d k =>
 let l := ([(0 : Int), (4 : Int), (-20 : Int), (22 : Int), (48 : Int), (-47 : Int)] : List Int);
 zq42 l d (fun rPick mrPick =>
 zq1i (2 : Int) mrPick (fun rNext mrNext =>
 zq1i (3 : Int) mrNext (fun rNext2 mrNext2 =>
 zq1i (2 : Int) mrNext2 (fun rNext3 mrNext3 =>
 let last := (IntKind.i64.wrap ((2025 : Int) + rNext3));
 zq1i (4 : Int) mrNext3 (fun rNext4 mrNext4 =>
 let t := (decide (rNext4 = (1 : Int)));
 cond t
 (let l2 := ([((2025 : Int), (last, ((3 : Int), ((5 : Int), ((6 : Int), ((7200 : Int), (IntKind.i64.wrap ((IntKind.i64.wrap ((900 : Int) * (IntKind.i64.wrap (rPick + (IntKind.i64.wrap (rNext * rNext2)))))) + (3600 : Int))))))))), ((2025 : Int), (last, ((10 : Int), ((5 : Int), ((6 : Int), ((10800 : Int), (IntKind.i64.wrap ((900 : Int) * (IntKind.i64.wrap (rPick + (IntKind.i64.wrap (rNext * rNext2))))))))))))] : List zq8);
 k (name, ((IntKind.i64.wrap ((900 : Int) * (IntKind.i64.wrap (rPick + (IntKind.i64.wrap (rNext * rNext2)))))), l2)) mrNext4)
 (let t2 := (decide (rNext4 = (2 : Int)));
 cond t2
 (zq1i (4 : Int) mrNext4 (fun rNext5 mrNext5 =>
 zq1i (7 : Int) mrNext5 (fun rNext6 mrNext6 =>
 zq1i (24 : Int) mrNext6 (fun rNext7 mrNext7 =>
 zq1i (8 : Int) mrNext7 (fun rNext8 mrNext8 =>
 zq1i (2 : Int) mrNext8 (fun rNext9 mrNext9 =>
 let l2 := ([(2 : Int), (3 : Int), (5 : Int)] : List Int);
 zq42 l2 mrNext9 (fun rPick2 mrPick2 =>
 zq1i (7 : Int) mrPick2 (fun rNext10 mrNext10 =>
 zq1i (24 : Int) mrNext10 (fun rNext11 mrNext11 =>
 let l3 := ([((2025 : Int), (last, ((1 : Int), ((IntKind.i64.wrap ((1 : Int) + rNext5)), (rNext6, ((IntKind.i64.wrap ((3600 : Int) * rNext7)), (IntKind.i64.wrap ((IntKind.i64.wrap ((900 : Int) * (IntKind.i64.wrap (rPick + (IntKind.i64.wrap (rNext * rNext2)))))) + (IntKind.i64.wrap ((1800 : Int) * (IntKind.i64.wrap ((1 : Int) + rNext8)))))))))))), ((2025 : Int), (last, ((IntKind.i64.wrap ((2 : Int) + rNext9)), (rPick2, (rNext10, ((IntKind.i64.wrap ((3600 : Int) * rNext11)), (IntKind.i64.wrap ((900 : Int) * (IntKind.i64.wrap (rPick + (IntKind.i64.wrap (rNext * rNext2))))))))))))] : List zq8);
 k (name, ((IntKind.i64.wrap ((900 : Int) * (IntKind.i64.wrap (rPick + (IntKind.i64.wrap (rNext * rNext2)))))), l3)) mrNext11)))))))))
 (let t3 := (decide (rNext4 = (3 : Int)));
 cond t3
 (let l2 := ([(3600 : Int), (-3600 : Int), (82800 : Int), (-82800 : Int), (43200 : Int)] : List Int);
 zq42 l2 mrNext4 (fun rPick2 mrPick2 =>
 let x := (IntKind.i64.wrap ((IntKind.i64.wrap ((900 : Int) * (IntKind.i64.wrap (rPick + (IntKind.i64.wrap (rNext * rNext2)))))) + rPick2));
 cond (decide ((64800 : Int) < x))
 (zq9i (fun b0_ t4 z z2 b3_ =>
 k (z, (z2, b3_)) b0_) (0 : Int) mrPick2 zql (name, ((IntKind.i64.wrap ((900 : Int) * (IntKind.i64.wrap (rPick + (IntKind.i64.wrap (rNext * rNext2)))))), ([] : List zq8))))
 (cond (decide (x < (-64800 : Int)))
 (zq9i (fun b0_ t4 z z2 b3_ =>
 k (z, (z2, b3_)) b0_) (0 : Int) mrPick2 zql (name, ((IntKind.i64.wrap ((900 : Int) * (IntKind.i64.wrap (rPick + (IntKind.i64.wrap (rNext * rNext2)))))), ([] : List zq8))))
 (zq9i (fun b0_ t4 z z2 b3_ =>
 k (z, (z2, b3_)) b0_) x mrPick2 zql (name, ((IntKind.i64.wrap ((900 : Int) * (IntKind.i64.wrap (rPick + (IntKind.i64.wrap (rNext * rNext2)))))), ([] : List zq8)))))))
 (k (name, ((IntKind.i64.wrap ((900 : Int) * (IntKind.i64.wrap (rPick + (IntKind.i64.wrap (rNext * rNext2)))))), ([] : List zq8))) mrNext4))))))))
def zq9l : zq9c := hid zq9k
noncomputable def zq9m : En := ⟨68, .spec (sg [v23y, v27y] [b20y] [v49y] [b20y] zq9l), pf zq9d [zq9j] [.cell 4 32] Tryz.func68 (by kernel_rfl) fun _ _ => by kernel_rfl⟩
abbrev zq9n := {β : Type} → t7y → (t7y → t10y → Option β) → Option β
noncomputable def zq9o : List En := [zq1j, zq43]
abbrev zq9p (β : Type) := t7y → t10y → Option β
abbrev zq9q (β : Type) := Int → Int → t7y → t10y → Option β
noncomputable def zq9r : Pc := ⟨38, 1, Q4 122 (Q3 Tryz.f70), ⟨1, [0, 3, 4, 5], [v23y, v53y, v19y, v19y], l79y⟩, [(.exit 0, ⟨1, [3], [v53y], l79y⟩)]⟩
def zq9s {β : Type} (rec : zq9q β) (k1 : zq9p β) : zq9q β := fun at_ i_ d out =>
 cond (decide ((0 : Int) < i_))
 (zq1i (30 : Int) d (fun rNext mrNext =>
 zq1i (2 : Int) mrNext (fun rNext2 mrNext2 =>
 let from_ := (IntKind.i64.wrap ((IntKind.i64.wrap (at_ + (IntKind.i64.wrap ((3600 : Int) * rNext)))) + (IntKind.i64.wrap ((60 : Int) * rNext2))));
 let l := ([(3600 : Int), (28800 : Int), (43200 : Int), (86400 : Int), (61 : Int), (1 : Int)] : List Int);
 zq42 l mrNext2 (fun rPick mrPick =>
 let to_ := (IntKind.i64.wrap (from_ + rPick));
 cond (decide ((604800 : Int) < to_))
 (k1 mrPick out)
 (let l2 := ([(from_, to_)] : List t6y);
 cond (decide ((List.length out + List.length l2) * 16 ≤ Q8))
 (let l3 := (out ++ l2);
 let i_2 := (IntKind.i64.wrap (i_ - (1 : Int)));
 rec to_ i_2 mrPick l3)
 none)))))
 (k1 d out)
def zq9t (m : Nat) {β : Type} (k1 : zq9p β) : zq9q β := lp4 (fun r => zq9s r k1) none m
theorem zq9u {β : Type} (i : Nat) (k1) : zq9t (β := β) (i + 1) k1 = zq9s (zq9t i k1) k1 := rfl
def zq9v {β : Type} := hid (zq9t (β := β) fuel)
noncomputable def zq9w : Pb := ⟨122, zq9r, fun _ => zq9v, pl (p := zq9r) zq9o [] (g := fun i _ => zq9t i) (by kernel_rfl) rfl (by kernel_rfl) (fun _ _ => rfl) fun _ _ _ _ => by kernel_rfl⟩
def zq9x : zq9n := fun d k =>
 zq1i (4 : Int) d (fun rNext mrNext =>
 zq9v (fun b0_ out =>
 k b0_ out) (0 : Int) rNext mrNext ([] : List t6y))
def zq9y : zq9n := hid zq9x
noncomputable def zq9z : En := ⟨70, .spec (sg [v23y] [b20y] [v53y] l79y zq9y), pf zq9o [zq9w] [.tmp 2] Tryz.func70 (by kernel_rfl) fun _ _ => by kernel_rfl⟩
abbrev zqa0 := {β : Type} → t8y → (t8y → Bool → Option β) → Option β
noncomputable def zqa1 : List En := [zq5m]
abbrev zqa2 (β : Type) := t8y → t8y → Option β
abbrev zqa3 (β : Type) := t8y → t8y → Int → Int → (List t5y) → Option β
noncomputable def zqa4 : Pc := ⟨55, 0, Q4 122 (Q3 Tryz.f90), ⟨0, [0, 4, 13, 14, 15], [v26y, v26y, v34y, v19y, v19y], [.row 9 .str]⟩, [(.exit 0, ⟨0, [0, 4], [v26y, v26y], []⟩)]⟩
def zqa5 {β : Type} (rec : zqa3 β) (k1 : zqa2 β) : zqa3 β := fun l rest t14 t15 t13 =>
 cond (decide (t15 < t14))
 (cond (decide (0 ≤ t15) && decide (t15 < (List.length t13 : Int)))
 (let s := (List.getD t13 (Int.toNat t15) ([] : List UInt8));
 cond (decide ((2 : Int) ≤ (List.length rest : Int)))
 (cond (decide (0 ≤ (0 : Int)) && decide ((0 : Int) < (List.length rest : Int)))
 (let e := List.getD rest (Int.toNat (0 : Int)) ((0 : Int), (([] : List UInt8), (0 : Int)));
 zq5l e s (fun rword =>
 cond rword
 (cond (decide (0 ≤ (1 : Int)) && decide ((1 : Int) < (List.length rest : Int)))
 (let e2 := List.getD rest (Int.toNat (1 : Int)) ((0 : Int), (([] : List UInt8), (0 : Int)));
 cond (decide (e2.1 = (1 : Int)))
 (cond (decide (0 ≤ (2 : Int)) && (decide ((2 : Int) ≤ (List.length rest : Int)) && decide ((List.length rest : Int) ≤ (List.length rest : Int))))
 (let rest2 := (List.drop (Int.toNat (2 : Int)) (List.take (Int.toNat (List.length rest : Int)) rest));
 rec l rest2 t14 (IntKind.i64.wrap (t15 + (1 : Int))) t13)
 none)
 (rec l rest t14 (IntKind.i64.wrap (t15 + (1 : Int))) t13))
 none)
 (rec l rest t14 (IntKind.i64.wrap (t15 + (1 : Int))) t13)))
 none)
 (rec l rest t14 (IntKind.i64.wrap (t15 + (1 : Int))) t13))
 none)
 (k1 l rest)
def zqa6 (m : Nat) {β : Type} (k1 : zqa2 β) : zqa3 β := lp5 (fun r => zqa5 r k1) none m
theorem zqa7 {β : Type} (i : Nat) (k1) : zqa6 (β := β) (i + 1) k1 = zqa5 (zqa6 i k1) k1 := rfl
def zqa8 {β : Type} := hid (zqa6 (β := β) fuel)
noncomputable def zqa9 : Pb := ⟨122, zqa4, fun _ => zqa8, pl (p := zqa4) zqa1 [] (g := fun i _ => zqa6 i) (by kernel_rfl) rfl (by kernel_rfl) (fun _ _ => rfl) fun _ _ _ _ => by kernel_rfl⟩
def zqaa : zqa0 := fun l k =>
 cond (decide ((List.length l : Int) < (3 : Int)))
 (k l false)
 (cond (decide (0 ≤ (3 : Int)) && (decide ((3 : Int) ≤ (List.length l : Int)) && decide ((List.length l : Int) ≤ (List.length l : Int))))
 (let rest := (List.drop (Int.toNat (3 : Int)) (List.take (Int.toNat (List.length l : Int)) l));
 let l2 := ([([119, 101, 101, 107] : List UInt8), ([114, 101, 115, 116] : List UInt8)] : List t5y);
 zqa8 (fun l3 rest2 =>
 cond (decide ((0 : Int) < (List.length rest2 : Int)))
 (cond (decide (0 ≤ (0 : Int)) && decide ((0 : Int) < (List.length rest2 : Int)))
 (let e := List.getD rest2 (Int.toNat (0 : Int)) ((0 : Int), (([] : List UInt8), (0 : Int)));
 zq5l e ([99, 111, 110, 115, 101, 110, 116] : List UInt8) (fun rword =>
 cond rword
 (cond (decide (0 ≤ (1 : Int)) && (decide ((1 : Int) ≤ (List.length rest2 : Int)) && decide ((List.length rest2 : Int) ≤ (List.length rest2 : Int))))
 (let rest3 := (List.drop (Int.toNat (1 : Int)) (List.take (Int.toNat (List.length rest2 : Int)) rest2));
 cond (decide (0 ≤ (0 : Int)) && (decide ((0 : Int) ≤ (3 : Int)) && decide ((3 : Int) ≤ (List.length l3 : Int))))
 (let t := (List.drop (Int.toNat (0 : Int)) (List.take (Int.toNat (3 : Int)) l3));
 let t2 := (decide ((List.length rest3 : Int) = (0 : Int)));
 k t t2)
 none)
 none)
 (cond (decide (0 ≤ (0 : Int)) && (decide ((0 : Int) ≤ (3 : Int)) && decide ((3 : Int) ≤ (List.length l3 : Int))))
 (let t := (List.drop (Int.toNat (0 : Int)) (List.take (Int.toNat (3 : Int)) l3));
 let t2 := (decide ((List.length rest2 : Int) = (0 : Int)));
 k t t2)
 none)))
 none)
 (cond (decide (0 ≤ (0 : Int)) && (decide ((0 : Int) ≤ (3 : Int)) && decide ((3 : Int) ≤ (List.length l3 : Int))))
 (let t := (List.drop (Int.toNat (0 : Int)) (List.take (Int.toNat (3 : Int)) l3));
 let t2 := (decide ((List.length rest2 : Int) = (0 : Int)));
 k t t2)
 none)) l rest (List.length l2 : Int) (0 : Int) l2)
 none)
def zqab : zqa0 := hid zqaa
noncomputable def zqac : En := ⟨90, .spec (sg [v26y] [] [v26y, v24y] [] zqab), pf zqa1 [zqa9] [.tmp 2, .tmp 3] Tryz.func90 (by kernel_rfl) fun _ _ => by kernel_rfl⟩
abbrev zqad := {β : Type} → t8y → t4y → t3y → t1y → t2y → (Int → t4y → t3y → t1y → t2y → Option β) → Option β
noncomputable def zqae : List En := [zq6g, zq6h]
abbrev zqaf (β : Type) := t4y → t3y → t1y → t2y → Option β
abbrev zqag (β : Type) := Nat → t8y → Int → Int → t4y → t3y → t1y → t2y → Option β
noncomputable def zqah : Pc := ⟨39, 5, Q4 122 (Q3 Tryz.f96), ⟨5, [5, 21, 22, 23], [(false, [.tptrh 3 [] 0]), v26y, v19y, v19y], l63y⟩, [(.exit 0, ⟨5, [], [], l63y⟩)]⟩
def zqai {β : Type} (rec : zqag β) (k1 : zqaf β) : zqag β := fun c t21 t22 t23 b1_ b2_ b3_ b4_ =>
 cond (decide (t23 < t22))
 (cond (decide (0 ≤ t23) && decide (t23 < (List.length t21 : Int)))
 (let e := List.getD t21 (Int.toNat t23) ((0 : Int), (([] : List UInt8), (0 : Int)));
 let e2 := List.getD b3_ c zqk;
 let l := ([e.2.2] : List Int);
 let l2 := ((List.getD b3_ c zqk).2).2;
 cond (true && decide ((List.length l2 + List.length l) * 8 ≤ Q8))
 (let l3 := (l2 ++ l);
 let e3 := List.getD b3_ c zqk;
 let l4 := List.set b3_ c (e3.1, (e3.2.1, l3));
 cond (decide (c = c) && (true && true))
 (rec c t21 t22 (IntKind.i64.wrap (t23 + (1 : Int))) b1_ b2_ l4 b4_)
 none)
 none)
 none)
 (k1 b1_ b2_ b3_ b4_)
def zqaj (m : Nat) {β : Type} (k1 : zqaf β) : zqag β := lp8 (fun r => zqai r k1) none m
theorem zqak {β : Type} (i : Nat) (k1) : zqaj (β := β) (i + 1) k1 = zqai (zqaj i k1) k1 := rfl
def zqal {β : Type} := hid (zqaj (β := β) fuel)
noncomputable def zqam : Pb := ⟨122, zqah, fun _ => zqal, Q88 mixed (X := ⟨look tab, gam zqae, false, false, false, false, q83y, none, 0, []⟩) (p := zqah) Qd zqae rfl [] (g := fun i _ => zqaj i) (by kernel_rfl) rfl (by kernel_rfl) (fun _ _ => rfl) fun _ _ _ _ => by kernel_rfl⟩
def zqan : zqad := fun l b1_ b2_ b3_ b4_ k =>
 cond (decide ((List.length b3_ : Int) = (0 : Int)))
 (k (9 : Int) b1_ b2_ b3_ b4_)
 (let i_ := (IntKind.i64.wrap ((List.length b3_ : Int) - (1 : Int)));
 cond (decide (0 ≤ i_) && decide (i_ < (List.length b3_ : Int)))
 (cond (decide (0 ≤ (1 : Int)) && (decide ((1 : Int) ≤ (List.length l : Int)) && decide ((List.length l : Int) ≤ (List.length l : Int))))
 (zqal (fun b1_2 b2_2 b3_2 b4_2 =>
 k (0 : Int) b1_2 b2_2 b3_2 b4_2) (Int.toNat i_) (List.drop (Int.toNat (1 : Int)) (List.take (Int.toNat (List.length l : Int)) l)) (List.length (List.drop (Int.toNat (1 : Int)) (List.take (Int.toNat (List.length l : Int)) l)) : Int) (0 : Int) b1_ b2_ b3_ b4_)
 none)
 none)
def zqao : zqad := hid zqan
theorem zqap : SpecOkB Tryz.prog 96 (sg [v23y, v26y] l63y [v19y] l63y zqao) := Q1r mixed (X := ⟨look tab, gam zqae, false, false, false, false, q83y, none, 0, []⟩) Qd zqae rfl [zqam] [.tmp 4] Tryz.func96 (by kernel_rfl) fun _ _ => by kernel_rfl
noncomputable def zqaq : En := .hand zqap rfl (by kernel_rfl)
abbrev zqar := {β : Type} → Int → (Int → Option β) → Option β
def zqas : zqar := fun year k =>
 let y := (IntKind.i64.wrap (year - (1 : Int)));
 zq7r y (4 : Int) (fun rfloor =>
 zq7r y (100 : Int) (fun rfloor2 =>
 zq7r y (400 : Int) (fun rfloor3 =>
 let t := (IntKind.i64.wrap ((IntKind.i64.wrap ((IntKind.i64.wrap ((IntKind.i64.wrap ((IntKind.i64.wrap ((365 : Int) * (IntKind.i64.wrap (year - (1970 : Int))))) + rfloor)) - rfloor2)) + rfloor3)) - (477 : Int)));
 k t)))
def zqat : zqar := hid zqas
noncomputable def zqau : En := ⟨105, .spec (sg [v19y] [] [v19y] [] zqat), pf [zq7s] [] [.tmp 2] Tryz.func105 (by kernel_rfl) fun _ _ => by kernel_rfl⟩
abbrev zqav := {β : Type} → Int → (Int → Option β) → Option β
noncomputable def zqaw : List En := [zqau, zq7s]
abbrev zqax (β : Type) := Int → Option β
abbrev zqay (β : Type) := Int → Int → Option β
noncomputable def zqaz : Pc := ⟨15, 0, Q4 28 (Q3 Tryz.f106), ⟨0, [0, 3], [v19y, v19y], []⟩, [(.exit 0, ⟨0, [3], [v19y], []⟩)]⟩
def zqb0 {β : Type} (rec : zqay β) (k1 : zqax β) : zqay β := fun day y =>
 zqat (IntKind.i64.wrap (y + (1 : Int))) (fun rcount =>
 cond (decide (rcount ≤ day))
 (let y2 := (IntKind.i64.wrap (y + (1 : Int)));
 rec day y2)
 (k1 y))
def zqb1 (m : Nat) {β : Type} (k1 : zqax β) : zqay β := lp2 (fun r => zqb0 r k1) none m
theorem zqb2 {β : Type} (i : Nat) (k1) : zqb1 (β := β) (i + 1) k1 = zqb0 (zqb1 i k1) k1 := rfl
def zqb3 {β : Type} := hid (zqb1 (β := β) fuel)
noncomputable def zqb4 : Pb := ⟨28, zqaz, fun _ => zqb3, pl (p := zqaz) zqaw [] (g := fun i _ => zqb1 i) (by kernel_rfl) rfl (by kernel_rfl) (fun _ _ => rfl) fun _ _ _ _ => by kernel_rfl⟩
def zqb5 : zqav := fun day k =>
 zq7r day (366 : Int) (fun rfloor =>
 let y := (IntKind.i64.wrap ((1970 : Int) + rfloor));
 zqb3 (fun y2 =>
 k y2) day y)
def zqb6 : zqav := hid zqb5
noncomputable def zqb7 : En := ⟨106, .spec (sg [v19y] [] [v19y] [] zqb6), pf zqaw [zqb4] [.tmp 2] Tryz.func106 (by kernel_rfl) fun _ _ => by kernel_rfl⟩
abbrev zqb8 := {β : Type} → Int → Int → (Int → Option β) → Option β
def zqb9 : zqb8 := fun year month k =>
 cond (decide (month < (1 : Int)))
 (k (0 : Int))
 (cond (decide ((12 : Int) < month))
 (k (0 : Int))
 (cond (decide (month = (2 : Int)))
 (zq7v year (fun rLeap =>
 cond rLeap
 (k (29 : Int))
 (cond (decide ((IntKind.i64.wrap (month - (1 : Int))) = (0 : Int)))
 (k (31 : Int))
 (cond (decide ((IntKind.i64.wrap (month - (1 : Int))) = (1 : Int)))
 (k (28 : Int))
 (cond (decide ((IntKind.i64.wrap (month - (1 : Int))) = (2 : Int)))
 (k (31 : Int))
 (cond (decide ((IntKind.i64.wrap (month - (1 : Int))) = (3 : Int)))
 (k (30 : Int))
 (cond (decide ((IntKind.i64.wrap (month - (1 : Int))) = (4 : Int)))
 (k (31 : Int))
 (cond (decide ((IntKind.i64.wrap (month - (1 : Int))) = (5 : Int)))
 (k (30 : Int))
 (cond (decide ((IntKind.i64.wrap (month - (1 : Int))) = (6 : Int)))
 (k (31 : Int))
 (cond (decide ((IntKind.i64.wrap (month - (1 : Int))) = (7 : Int)))
 (k (31 : Int))
 (cond (decide ((IntKind.i64.wrap (month - (1 : Int))) = (8 : Int)))
 (k (30 : Int))
 (cond (decide ((IntKind.i64.wrap (month - (1 : Int))) = (9 : Int)))
 (k (31 : Int))
 (cond (decide ((IntKind.i64.wrap (month - (1 : Int))) = (10 : Int)))
 (k (30 : Int))
 (cond (decide ((IntKind.i64.wrap (month - (1 : Int))) = (11 : Int)))
 (k (31 : Int))
 (none)))))))))))))))
 (cond (decide ((IntKind.i64.wrap (month - (1 : Int))) = (0 : Int)))
 (k (31 : Int))
 (cond (decide ((IntKind.i64.wrap (month - (1 : Int))) = (1 : Int)))
 (k (28 : Int))
 (cond (decide ((IntKind.i64.wrap (month - (1 : Int))) = (2 : Int)))
 (k (31 : Int))
 (cond (decide ((IntKind.i64.wrap (month - (1 : Int))) = (3 : Int)))
 (k (30 : Int))
 (cond (decide ((IntKind.i64.wrap (month - (1 : Int))) = (4 : Int)))
 (k (31 : Int))
 (cond (decide ((IntKind.i64.wrap (month - (1 : Int))) = (5 : Int)))
 (k (30 : Int))
 (cond (decide ((IntKind.i64.wrap (month - (1 : Int))) = (6 : Int)))
 (k (31 : Int))
 (cond (decide ((IntKind.i64.wrap (month - (1 : Int))) = (7 : Int)))
 (k (31 : Int))
 (cond (decide ((IntKind.i64.wrap (month - (1 : Int))) = (8 : Int)))
 (k (30 : Int))
 (cond (decide ((IntKind.i64.wrap (month - (1 : Int))) = (9 : Int)))
 (k (31 : Int))
 (cond (decide ((IntKind.i64.wrap (month - (1 : Int))) = (10 : Int)))
 (k (30 : Int))
 (cond (decide ((IntKind.i64.wrap (month - (1 : Int))) = (11 : Int)))
 (k (31 : Int))
 (none)))))))))))))))
def zqba : zqb8 := hid zqb9
noncomputable def zqbb : En := ⟨107, .spec (sg [v19y, v19y] [] [v19y] [] zqba), pf [zq7w] [] [.tmp 4] Tryz.func107 (by kernel_rfl) fun _ _ => by kernel_rfl⟩
abbrev zqbc := {β : Type} → t5y → (Int → Bool → Option β) → Option β
def zqbd : zqbc := fun word k =>
 zq86 ([106, 97, 110, 32, 102, 101, 98, 32, 109, 97, 114, 32, 97, 112, 114, 32, 109, 97, 121, 32, 106, 117, 110, 32, 106, 117, 108, 32, 97, 117, 103, 32, 115, 101, 112, 32, 111, 99, 116, 32, 110, 111, 118, 32, 100, 101, 99] : List UInt8) word (fun rindex rindex2 =>
 k rindex rindex2)
def zqbe : zqbc := hid zqbd
noncomputable def zqbf : En := ⟨118, .spec (sg [v27y] [] [v19y, v24y] [] zqbe), pf [zq87] [] [.tmp 2, .tmp 3] Tryz.func118 (by kernel_rfl) fun _ _ => by kernel_rfl⟩
abbrev zqbg := {β : Type} → t5y → (Int → Bool → Option β) → Option β
def zqbh : zqbg := fun word k =>
 zq86 ([102, 105, 114, 115, 116, 32, 115, 101, 99, 111, 110, 100, 32, 116, 104, 105, 114, 100, 32, 102, 111, 117, 114, 116, 104, 32, 108, 97, 115, 116] : List UInt8) word (fun rindex rindex2 =>
 k rindex rindex2)
def zqbi : zqbg := hid zqbh
noncomputable def zqbj : En := ⟨119, .spec (sg [v27y] [] [v19y, v24y] [] zqbi), pf [zq87] [] [.tmp 2, .tmp 3] Tryz.func119 (by kernel_rfl) fun _ _ => by kernel_rfl⟩
abbrev zqbk := {β : Type} → t5y → (Int → Bool → Option β) → Option β
def zqbl : zqbk := fun word k =>
 zq86 ([109, 111, 110, 32, 116, 117, 101, 32, 119, 101, 100, 32, 116, 104, 117, 32, 102, 114, 105, 32, 115, 97, 116, 32, 115, 117, 110] : List UInt8) word (fun rindex rindex2 =>
 let t := (if (IntKind.i64.wrap (rindex - (1 : Int))) > (0 : Int) then (IntKind.i64.wrap (rindex - (1 : Int))) else (0 : Int));
 k t rindex2)
def zqbm : zqbk := hid zqbl
noncomputable def zqbn : En := ⟨120, .spec (sg [v27y] [] [v19y, v24y] [] zqbm), pf [zq87] [] [.tmp 2, .tmp 3] Tryz.func120 (by kernel_rfl) fun _ _ => by kernel_rfl⟩
abbrev zqbo := {β : Type} → t8y → (t6y → Int → Option β) → Option β
def zqbp : zqbo := fun l k =>
 cond (decide (0 ≤ (1 : Int)) && decide ((1 : Int) < (List.length l : Int)))
 (let e := List.getD l (Int.toNat (1 : Int)) ((0 : Int), (([] : List UInt8), (0 : Int)));
 zqbm e.2.1 (fun rWeekday rWeekday2 =>
 cond (decide (0 ≤ (3 : Int)) && decide ((3 : Int) < (List.length l : Int)))
 (let e2 := List.getD l (Int.toNat (3 : Int)) ((0 : Int), (([] : List UInt8), (0 : Int)));
 zqbm e2.2.1 (fun rWeekday3 rWeekday4 =>
 cond (!rWeekday2)
 (k ((0 : Int), (0 : Int)) (2 : Int))
 (cond (!rWeekday4)
 (k ((0 : Int), (0 : Int)) (2 : Int))
 (cond (decide (0 ≤ (2 : Int)) && decide ((2 : Int) < (List.length l : Int)))
 (let e3 := List.getD l (Int.toNat (2 : Int)) ((0 : Int), (([] : List UInt8), (0 : Int)));
 cond (decide (0 ≤ (4 : Int)) && decide ((4 : Int) < (List.length l : Int)))
 (let e4 := List.getD l (Int.toNat (4 : Int)) ((0 : Int), (([] : List UInt8), (0 : Int)));
 k ((IntKind.i64.wrap ((IntKind.i64.wrap (rWeekday * (86400 : Int))) + e3.2.2)), (IntKind.i64.wrap ((IntKind.i64.wrap (rWeekday3 * (86400 : Int))) + e4.2.2))) (0 : Int))
 none)
 none))))
 none))
 none
def zqbq : zqbo := hid zqbp
noncomputable def zqbr : En := ⟨125, .spec (sg [v26y] [] [(true, [.data (.prod (.int .i64) (.int .i64))]), v19y] [] zqbq), pf [zqbn] [] [.cell 2 129, .tmp 3] Tryz.func125 (by kernel_rfl) fun _ _ => by kernel_rfl⟩
abbrev zqbs := {β : Type} → t5y → (Int → Bool → Option β) → Option β
noncomputable def zqbt : List En := [zq4f, zq8i]
abbrev zqbu (β : Type) := Int → Bool → Option β
abbrev zqbv (β : Type) := t5y → Option β
abbrev zqbw (β : Type) := t5y → Int → Int → Option β
noncomputable def zqbx : Pc := ⟨31, 0, Q4 26 (Q3 Tryz.f152), ⟨0, [0, 8, 9], [v27y, v19y, v19y], []⟩, [(.ret, ⟨0, [2, 3], [v19y, v24y], []⟩), (.exit 0, ⟨0, [0], [v27y], []⟩)]⟩
def zqby {β : Type} (rec : zqbw β) (k1 : zqbu β) (k2 : zqbv β) : zqbw β := fun s t8 t9 =>
 cond (decide (t9 < t8))
 (cond (decide (0 ≤ t9) && decide (t9 < (List.length s : Int)))
 (zq4e ((List.getD s (Int.toNat t9) 0).toNat : Int) (fun rdigit =>
 cond (!rdigit)
 (k1 (0 : Int) false)
 (rec s t8 (IntKind.i64.wrap (t9 + (1 : Int))))))
 none)
 (k2 s)
def zqbz (m : Nat) {β : Type} (k1 : zqbu β) (k2 : zqbv β) : zqbw β := lp3 (fun r => zqby r k1 k2) none m
theorem zqc0 {β : Type} (i : Nat) (k1 k2) : zqbz (β := β) (i + 1) k1 k2 = zqby (zqbz i k1 k2) k1 k2 := rfl
def zqc1 {β : Type} := hid (zqbz (β := β) fuel)
noncomputable def zqc2 : Pb := ⟨26, zqbx, fun _ => zqc1, pl (p := zqbx) zqbt [] (g := fun i _ => zqbz i) (by kernel_rfl) rfl (by kernel_rfl) (fun _ _ => rfl) fun _ _ _ _ => by kernel_rfl⟩
def zqc3 : zqbs := fun s k =>
 zqc1 (fun t2 t3 =>
 k t2 t3) (fun s2 =>
 zq8g s2 (fun rAtoi rAtoi2 =>
 cond rAtoi2
 (let t := (decide ((List.length s2 : Int) ≤ (9 : Int)));
 k rAtoi t)
 (k rAtoi false))) s (List.length s : Int) (0 : Int)
def zqc4 : zqbs := hid zqc3
noncomputable def zqc5 : En := ⟨152, .spec (sg [v27y] [] [v19y, v24y] [] zqc4), pf zqbt [zqc2] [.tmp 2, .tmp 3] Tryz.func152 (by kernel_rfl) fun _ _ => by kernel_rfl⟩
abbrev zqc6 := {β : Type} → (Int × t6y) → (Bool → Option β) → Option β
def zqc7 : zqc6 := fun d k =>
 cond (decide ((1970 : Int) ≤ d.1))
 (cond (decide (d.1 ≤ (2240 : Int)))
 (cond (decide ((1 : Int) ≤ d.2.2))
 (zqba d.1 d.2.1 (fun rDays =>
 k (decide (d.2.2 ≤ rDays))))
 (k false))
 (k false))
 (k false)
def zqc8 : zqc6 := hid zqc7
noncomputable def zqc9 : En := ⟨159, .spec (sg [v44y] [] [v24y] [] zqc8), pf [zqbb] [] [.tmp 2] Tryz.func159 (by kernel_rfl) fun _ _ => by kernel_rfl⟩
abbrev zqca := {β : Type} → (Int × t6y) → (Int → Option β) → Option β
noncomputable def zqcb : List En := [zqbb, zqau]
abbrev zqcc (β : Type) := Int → Option β
abbrev zqcd (β : Type) := Int → Int → (Int × t6y) → Option β
noncomputable def zqce : Pc := ⟨25, 0, Q4 58 (Q3 Tryz.f160), ⟨0, [1, 3, 4], [v23y, v19y, v19y], [b39y]⟩, [(.exit 0, ⟨0, [3], [v19y], []⟩)]⟩
def zqcf {β : Type} (rec : zqcd β) (k1 : zqcc β) : zqcd β := fun n m d =>
 cond (decide (m < d.2.1))
 (zqba d.1 m (fun rDays =>
 let n2 := (IntKind.i64.wrap (n + rDays));
 let m2 := (IntKind.i64.wrap (m + (1 : Int)));
 rec n2 m2 d))
 (k1 n)
def zqcg (m : Nat) {β : Type} (k1 : zqcc β) : zqcd β := lp3 (fun r => zqcf r k1) none m
theorem zqch {β : Type} (i : Nat) (k1) : zqcg (β := β) (i + 1) k1 = zqcf (zqcg i k1) k1 := rfl
def zqci {β : Type} := hid (zqcg (β := β) fuel)
noncomputable def zqcj : Pb := ⟨58, zqce, fun _ => zqci, pl (p := zqce) zqcb [] (g := fun i _ => zqcg i) (by kernel_rfl) rfl (by kernel_rfl) (fun _ _ => rfl) fun _ _ _ _ => by kernel_rfl⟩
def zqck : zqca := fun d k =>
 zqat d.1 (fun rcount =>
 let n := (IntKind.i64.wrap ((IntKind.i64.wrap (rcount + d.2.2)) - (1 : Int)));
 zqci (fun n2 =>
 k n2) n (1 : Int) d)
def zqcl : zqca := hid zqck
noncomputable def zqcm : En := ⟨160, .spec (sg [v44y] [] [v19y] [] zqcl), pf zqcb [zqcj] [.tmp 2] Tryz.func160 (by kernel_rfl) fun _ _ => by kernel_rfl⟩
abbrev zqcn := {β : Type} → t5y → (Int → Bool → Option β) → Option β
def zqco : zqcn := fun s k =>
 zqc4 s (fun rnumber rnumber2 =>
 cond rnumber2
 (let t := (decide ((List.length s : Int) = (2 : Int)));
 k rnumber t)
 (k rnumber false))
def zqcp : zqcn := hid zqco
noncomputable def zqcq : En := ⟨170, .spec (sg [v27y] [] [v19y, v24y] [] zqcp), pf [zqc5] [] [.tmp 2, .tmp 3] Tryz.func170 (by kernel_rfl) fun _ _ => by kernel_rfl⟩
abbrev zqcr := {β : Type} → (Int × t6y) → (Int → Int → Option β) → Option β
def zqcs : zqcr := fun d k =>
 zqc8 d (fun rValid =>
 cond (!rValid)
 (k (0 : Int) (1 : Int))
 (zqcl d (fun rnumber =>
 k rnumber (0 : Int))))
def zqct : zqcr := hid zqcs
noncomputable def zqcu : En := ⟨171, .spec (sg [v44y] [] [v19y, v19y] [] zqct), pf [zqc9, zqcm] [] [.tmp 2, .tmp 3] Tryz.func171 (by kernel_rfl) fun _ _ => by kernel_rfl⟩
abbrev zqcv := {β : Type} → (List zqc) → t5y → (Int → t5y → Option β) → Option β
noncomputable def zqcw : List En := [zq5i]
abbrev zqcx (β : Type) := Int → t5y → Option β
abbrev zqcy (β : Type) := t5y → Option β
abbrev zqcz (β : Type) := (List zqc) → Int → Int → t5y → Option β
noncomputable def zqd0 : Pc := ⟨19, 1, Q4 26 (Q3 Tryz.f115), ⟨1, [0, 1, 7, 8], [(false, [.data (.slice zqd)]), (false, [.fn 116 [0]]), v19y, v19y], [b31y]⟩, [(.ret, ⟨1, [4], [v19y], [b31y]⟩), (.exit 0, ⟨1, [], [], [b31y]⟩)]⟩
def zqd1 {β : Type} (rec : zqcz β) (k1 : zqcx β) (k2 : zqcy β) : zqcz β := fun s t7 t8 b0_ =>
 cond (decide (t8 < t7))
 (cond (decide (0 ≤ t8) && decide (t8 < (List.length s : Int)))
 (let e := List.getD s (Int.toNat t8) (([] : List UInt8), (([] : List Int), false));
 zq5h e b0_ (fun rforms1 mrforms1 =>
 cond rforms1
 (k1 t8 mrforms1)
 (rec s t7 (IntKind.i64.wrap (t8 + (1 : Int))) mrforms1)))
 none)
 (k2 b0_)
def zqd2 (m : Nat) {β : Type} (k1 : zqcx β) (k2 : zqcy β) : zqcz β := lp4 (fun r => zqd1 r k1 k2) none m
theorem zqd3 {β : Type} (i : Nat) (k1 k2) : zqd2 (β := β) (i + 1) k1 k2 = zqd1 (zqd2 i k1 k2) k1 k2 := rfl
def zqd4 {β : Type} := hid (zqd2 (β := β) fuel)
noncomputable def zqd5 : Pb := ⟨26, zqd0, fun _ => zqd4, pl (p := zqd0) zqcw [] (g := fun i _ => zqd2 i) (by kernel_rfl) rfl (by kernel_rfl) (fun _ _ => rfl) fun _ _ _ _ => by kernel_rfl⟩
def zqd6 : zqcv := fun s b0_ k =>
 zqd4 (fun t4 b0_2 =>
 k t4 b0_2) (fun b0_2 =>
 k (-1 : Int) b0_2) s (List.length s : Int) (0 : Int) b0_
def zqd7 : zqcv := hid zqd6
noncomputable def zqd8 : En := ⟨115, .spec (sg [(false, [.data (.slice zqd)]), (false, [.fn 116 [0]])] [b31y] [v19y] [b31y] zqd7), pf zqcw [zqd5] [.tmp 4] Tryz.func115 (by kernel_rfl) fun _ _ => by kernel_rfl⟩
abbrev zqd9 := {β : Type} → t5y → (List t11y) → (Int → (List t11y) → Option β) → Option β
def zqda : zqd9 := fun s seen k =>
 zq96 s (fun rName =>
 cond (!rName)
 (k (2 : Int) seen)
 (let g := (mGet .str seen s false);
 cond g
 (k (4 : Int) seen)
 (let m_ := (mPut .str seen s true);
 k (0 : Int) m_)))
def zqdb : zqd9 := hid zqda
theorem zqdc : SpecOkB Tryz.prog 21 (sg [v27y, (false, [.maph 0])] [.map 66 .str .bool false] [v19y] [.map 66 .str .bool false] zqdb) := pfB [zq97] [] [.tmp 4] Tryz.func21 (by kernel_rfl) fun _ _ => by kernel_rfl
noncomputable def zqdd : En := .hand zqdc rfl (by kernel_rfl)
abbrev zqde := {β : Type} → zqg → zqe → (Int → Option β) → Option β
def zqdf : zqde := fun c p_ k =>
 zq2y p_.2.1 (List.length c.1 : Int) (fun rindex =>
 cond (!rindex)
 (k (3 : Int))
 (zq3i p_.2.2.1 (fun rCheck =>
 let t := (!decide (rCheck = (0 : Int)));
 cond t
 (k (8 : Int))
 (zq9a p_.2.2.2.1 (fun rhours =>
 cond (!rhours)
 (k (1 : Int))
 (zq9a p_.2.2.2.2.1 (fun rhours2 =>
 cond (!rhours2)
 (k (1 : Int))
 (k (0 : Int)))))))))
def zqdg : zqde := hid zqdf
noncomputable def zqdh : En := ⟨22, .spec (sg [v42y, (true, [.data zqf])] [] [v19y] [] zqdg), pf [zq9b, zq2z, zq3j] [] [.tmp 4] Tryz.func22 (by kernel_rfl) fun _ _ => by kernel_rfl⟩
abbrev zqdi := {β : Type} → t7y → (t4y → t3y → t1y → t7y → t2y → Option β) → Option β
noncomputable def zqdj : List En := [zq3z, zq1j, zq43, zq9z, zq9m, zq1n]
abbrev zqdk (β : Type) := t7y → t4y → t3y → t1y → t2y → t4y → t3y → t1y → t2y → Option β
abbrev zqdl (β : Type) := Int → t7y → t4y → t3y → t1y → t2y → t4y → t3y → t1y → t2y → Option β
noncomputable def zqdm : Pc := ⟨109, 1, Q4 58 (Q3 Tryz.f40), ⟨1, [0, 2, 3, 4], [v23y, v30y, v33y, v19y], l64y⟩, [(.exit 0, ⟨1, [0, 2, 3], [v23y, v30y, v33y], l64y⟩)]⟩
abbrev zqdn (β : Type) := t7y → t4y → t3y → t1y → t2y → t4y → t3y → t1y → t2y → Option β
abbrev zqdo (β : Type) := Int → t7y → t4y → t3y → t1y → t2y → t4y → t3y → t1y → t2y → Option β
noncomputable def zqdp : Pc := ⟨109, 1, Q4 122 (Q3 Tryz.f40), ⟨1, [0, 2, 3, 5], [v23y, v30y, v33y, v19y], l64y⟩, [(.exit 2, ⟨1, [0, 2, 3], [v23y, v30y, v33y], l64y⟩)]⟩
abbrev zqdq (β : Type) := t7y → t4y → t3y → t1y → t2y → t4y → t3y → t1y → t2y → Option β
abbrev zqdr (β : Type) := Int → t7y → t4y → t3y → t1y → t2y → t4y → t3y → t1y → t2y → Option β
noncomputable def zqds : Pc := ⟨109, 1, Q4 250 (Q3 Tryz.f40), ⟨1, [0, 2, 3, 7], [v23y, v30y, v33y, v19y], l64y⟩, [(.exit 4, ⟨1, [2, 3], [v30y, v33y], l64y⟩)]⟩
abbrev zqdt (β : Type) := Int → t7y → t4y → t3y → t1y → t2y → t4y → t3y → t1y → t2y → Option β
abbrev zqdu (β : Type) := Int → t7y → t5y → Int → Int → Int → Bool → t4y → t3y → t1y → t2y → t4y → t3y → t1y → t2y → t10y → Option β
noncomputable def zqdv : Pc := ⟨109, 1, Q4 51 (Qy zqdp.c), ⟨1, [0, 2, 3, 5, 6], [v23y, v30y, v33y, v19y, v47y], [b20y, b41y, b60y, .cells 35 [.data .str, .data (.int .i64), .rowh 12, .data (.int .i64), .data (.int .i64), .data .bool], .row 32 zqb, .row 35 zqf, .row 71 zq1, .row 44 zq5, .row 32 zqb, .row 35 zqf, .row 71 zq1, .row 44 zq5, .row 129 (.prod (.int .i64) (.int .i64))]⟩, [(.normal, ⟨1, [0, 2, 3, 5], [v23y, v30y, v33y, v19y], l64y⟩)]⟩
abbrev zqdw (β : Type) := Int → t7y → t5y → Int → t4y → t3y → t1y → t2y → t4y → t3y → t1y → t2y → t12y → Option β
abbrev zqdx (β : Type) := Int → Int → Int → t7y → t5y → Int → t4y → t3y → t1y → t2y → t4y → t3y → t1y → t2y → t12y → Option β
noncomputable def zqdy : Pc := ⟨109, 1, Q4 202 (Qy zqds.c), ⟨1, [0, 2, 3, 7, 8, 9, 10], [v23y, v30y, v33y, v19y, v47y, v19y, v19y], l67y⟩, [(.exit 6, ⟨1, [0, 2, 3, 7, 8], [v23y, v30y, v33y, v19y, v47y], l67y⟩)]⟩
def zqdz {β : Type} (rec : zqdl β) (k1 : zqdk β) : zqdl β := fun i_ d b3_ b4_ b5_ b6_ b7_ b8_ b9_ b10_ =>
 cond (decide ((0 : Int) < i_))
 (let l := ([([104, 101, 114, 101] : List UInt8), ([116, 104, 101, 114, 101] : List UInt8)] : List t5y);
 cond (decide (0 ≤ (List.length b7_ : Int)) && decide ((List.length b7_ : Int) < (List.length l : Int)))
 (zq9l (List.getD l (Int.toNat (List.length b7_ : Int)) ([] : List UInt8)) d (fun rZone mrZone =>
 let l2 := ([rZone] : List zqa);
 cond (decide ((List.length b7_ + List.length l2) * 48 ≤ Q8))
 (let l3 := (b7_ ++ l2);
 let i_2 := (IntKind.i64.wrap (i_ - (1 : Int)));
 rec i_2 mrZone b3_ b4_ b5_ b6_ l3 b8_ b9_ b10_)
 none))
 none)
 (k1 d b3_ b4_ b5_ b6_ b7_ b8_ b9_ b10_)
def zqe0 (m : Nat) {β : Type} (k1 : zqdk β) : zqdl β := lp10 (fun r => zqdz r k1) none m
theorem zqe1 {β : Type} (i : Nat) (k1) : zqe0 (β := β) (i + 1) k1 = zqdz (zqe0 i k1) k1 := rfl
def zqe2 {β : Type} := hid (zqe0 (β := β) fuel)
noncomputable def zqe3 : Pb := ⟨58, zqdm, fun _ => zqe2, pl (p := zqdm) zqdj [] (g := fun i _ => zqe0 i) (by kernel_rfl) rfl (by kernel_rfl) (fun _ _ => rfl) fun _ _ _ _ => by kernel_rfl⟩
def zqe4 {β : Type} (k1 : zqdt β) : zqdu β := fun i_ d p_ p_2 p_3 p_4 p_5 b4_ b5_ b6_ b7_ b8_ b9_ b10_ b11_ b12_ =>
 let l := ([(0 : Int), (40 : Int), (100 : Int), (12 : Int)] : List Int);
 zq42 l d (fun rPick mrPick =>
 let l2 := ([(0 : Int), (11 : Int), (24 : Int), (1 : Int)] : List Int);
 zq42 l2 mrPick (fun rPick2 mrPick2 =>
 let l3 := ([(p_, (p_2, (b12_, ((IntKind.i64.wrap ((3600 : Int) * rPick)), ((IntKind.i64.wrap ((3600 : Int) * rPick2)), p_5)))))] : List zqe);
 cond (decide ((List.length b9_ + List.length l3) * 72 ≤ Q8))
 (let l4 := (b9_ ++ l3);
 k1 i_ mrPick2 b4_ b5_ b6_ b7_ b8_ l4 b10_ b11_)
 none))
def zqe5 {β : Type} := hid (zqe4 (β := β))
noncomputable def zqe6 : Pb := ⟨51, zqdv, fun _ => zqe5, pe (p := zqdv) zqdj [] 51 (g := fun _ => zqe4) (by kernel_rfl) fun _ _ => by kernel_rfl⟩
def zqe7 {β : Type} (rec : zqdo β) (k1 : zqdn β) : zqdo β := fun i_ d b3_ b4_ b5_ b6_ b7_ b8_ b9_ b10_ =>
 cond (decide ((0 : Int) < i_))
 (zq1m  (fun lrnames =>
 cond (decide (0 ≤ (List.length b8_ : Int)) && decide ((List.length b8_ : Int) < (List.length lrnames : Int)))
 (zq1i (List.length b7_ : Int) d (fun rNext mrNext =>
 zq3y (3 : Int) mrNext (fun rBool mrBool =>
 zq3y (2 : Int) mrBool (fun rBool2 mrBool2 =>
 cond rBool2
 (zq9y mrBool2 (fun mrWindows lrWindows =>
 zqe5 (fun i_2 d2 b3_2 b4_2 b5_2 b6_2 b7_2 b8_2 b9_2 b10_2 =>
 let i_3 := (IntKind.i64.wrap (i_2 - (1 : Int)));
 rec i_3 d2 b3_2 b4_2 b5_2 b6_2 b7_2 b8_2 b9_2 b10_2) i_ mrWindows (List.getD lrnames (Int.toNat (List.length b8_ : Int)) ([] : List UInt8)) rNext (0 : Int) (0 : Int) rBool b3_ b4_ b5_ b6_ b7_ b8_ b9_ b10_ lrWindows))
 (zqe5 (fun i_2 d2 b3_2 b4_2 b5_2 b6_2 b7_2 b8_2 b9_2 b10_2 =>
 let i_3 := (IntKind.i64.wrap (i_2 - (1 : Int)));
 rec i_3 d2 b3_2 b4_2 b5_2 b6_2 b7_2 b8_2 b9_2 b10_2) i_ mrBool2 (List.getD lrnames (Int.toNat (List.length b8_ : Int)) ([] : List UInt8)) rNext (0 : Int) (0 : Int) rBool b3_ b4_ b5_ b6_ b7_ b8_ b9_ b10_ ([] : List t6y))))))
 none))
 (k1 d b3_ b4_ b5_ b6_ b7_ b8_ b9_ b10_)
def zqe8 (m : Nat) {β : Type} (k1 : zqdn β) : zqdo β := lp10 (fun r => zqe7 r k1) none m
theorem zqe9 {β : Type} (i : Nat) (k1) : zqe8 (β := β) (i + 1) k1 = zqe7 (zqe8 i k1) k1 := rfl
def zqea {β : Type} := hid (zqe8 (β := β) fuel)
noncomputable def zqeb : Pb := ⟨122, zqdp, fun _ => zqea, pl (p := zqdp) zqdj [zqe6] (g := fun i _ => zqe8 i) (by kernel_rfl) rfl (by kernel_rfl) (fun _ _ => rfl) fun _ _ _ _ => by kernel_rfl⟩
def zqec {β : Type} (rec : zqdx β) (k1 : zqdw β) : zqdx β := fun i_ k_ day d x x2 b4_ b5_ b6_ b7_ b8_ b9_ b10_ b11_ b12_ =>
 cond (decide ((0 : Int) < k_))
 (zq1i (6 : Int) d (fun rNext mrNext =>
 let day2 := (IntKind.i64.wrap (day + (IntKind.i64.wrap ((1 : Int) + rNext))));
 let l := ([day2] : List Int);
 cond (decide ((List.length b12_ + List.length l) * 8 ≤ Q8))
 (let l2 := (b12_ ++ l);
 let k_2 := (IntKind.i64.wrap (k_ - (1 : Int)));
 rec i_ k_2 day2 mrNext x x2 b4_ b5_ b6_ b7_ b8_ b9_ b10_ b11_ l2)
 none))
 (k1 i_ d x x2 b4_ b5_ b6_ b7_ b8_ b9_ b10_ b11_ b12_)
def zqed (m : Nat) {β : Type} (k1 : zqdw β) : zqdx β := lp15 (fun r => zqec r k1) none m
theorem zqee {β : Type} (i : Nat) (k1) : zqed (β := β) (i + 1) k1 = zqec (zqed i k1) k1 := rfl
def zqef {β : Type} := hid (zqed (β := β) fuel)
noncomputable def zqeg : Pb := ⟨202, zqdy, fun _ => zqef, pl (p := zqdy) zqdj [] (g := fun i _ => zqed i) (by kernel_rfl) rfl (by kernel_rfl) (fun _ _ => rfl) fun _ _ _ _ => by kernel_rfl⟩
def zqeh {β : Type} (rec : zqdr β) (k1 : zqdq β) : zqdr β := fun i_ d b3_ b4_ b5_ b6_ b7_ b8_ b9_ b10_ =>
 cond (decide ((0 : Int) < i_))
 (zq1i (List.length b7_ : Int) d (fun rNext mrNext =>
 zq1i (4 : Int) mrNext (fun rNext2 mrNext2 =>
 zqef (fun i_2 d2 x x2 b4_2 b5_2 b6_2 b7_2 b8_2 b9_2 b10_2 b11_ b12_ =>
 let l := ([(x, (x2, b12_))] : List zq0);
 cond (decide ((List.length b10_2 + List.length l) * 48 ≤ Q8))
 (let l2 := (b10_2 ++ l);
 let i_3 := (IntKind.i64.wrap (i_2 - (1 : Int)));
 rec i_3 d2 b4_2 b5_2 b6_2 b7_2 b8_2 b9_2 l2 b11_)
 none) i_ rNext2 (20454 : Int) mrNext2 ([100, 97, 121, 115] : List UInt8) rNext b3_ b4_ b5_ b6_ b7_ b8_ b9_ b10_ ([] : List Int))))
 (k1 d b3_ b4_ b5_ b6_ b7_ b8_ b9_ b10_)
def zqei (m : Nat) {β : Type} (k1 : zqdq β) : zqdr β := lp10 (fun r => zqeh r k1) none m
theorem zqej {β : Type} (i : Nat) (k1) : zqei (β := β) (i + 1) k1 = zqeh (zqei i k1) k1 := rfl
def zqek {β : Type} := hid (zqei (β := β) fuel)
noncomputable def zqel : Pb := ⟨250, zqds, fun _ => zqek, pl (p := zqds) zqdj [zqeg] (g := fun i _ => zqei i) (by kernel_rfl) rfl (by kernel_rfl) (fun _ _ => rfl) fun _ _ _ _ => by kernel_rfl⟩
def zqem : zqdi := fun d k =>
 zq1i (2 : Int) d (fun rNext mrNext =>
 let i_ := (IntKind.i64.wrap ((1 : Int) + rNext));
 zqe2 (fun d2 b3_ b4_ b5_ b6_ b7_ b8_ b9_ b10_ =>
 zq1i (4 : Int) d2 (fun rNext2 mrNext2 =>
 let i_2 := (IntKind.i64.wrap ((1 : Int) + rNext2));
 zqea (fun d3 b3_2 b4_2 b5_2 b6_2 b7_2 b8_2 b9_2 b10_2 =>
 zq1i (2 : Int) d3 (fun rNext3 mrNext3 =>
 zqek (fun b0_ b3_3 b4_3 b5_3 b6_3 b7_3 b8_3 b9_3 b10_3 =>
 k b7_3 b8_3 b9_3 b0_ b10_3) rNext3 mrNext3 b3_2 b4_2 b5_2 b6_2 b7_2 b8_2 b9_2 b10_2)) i_2 mrNext2 b3_ b4_ b5_ b6_ b7_ b8_ b9_ b10_)) i_ mrNext ([] : List zqa) ([] : List zqe) ([] : List zq0) ([] : List zq4) ([] : List zqa) ([] : List zqe) ([] : List zq0) ([] : List zq4))
def zqen : zqdi := hid zqem
noncomputable def zqeo : En := ⟨40, .spec (sg [v23y] [b20y] [(true, [.data (.slice zqb), .data (.slice zqf), .data (.slice zq1), .rowh 1])] [b20y, .row 44 zq5] zqen), pf zqdj [zqe3, zqeb, zqel] [.cell 2 27] Tryz.func40 (by kernel_rfl) fun _ _ => by kernel_rfl⟩
abbrev zqep := {β : Type} → t4y → t3y → t1y → t5y → t7y → (zq2 → t7y → Option β) → Option β
noncomputable def zqeq : List En := [zq3z, zq1j, zq43, zq9z]
abbrev zqer (β : Type) := t7y → t5y → Int → Int → Int → Int → Int → Int → Int → t5y → Int → Int → Int → Int → Int → Int → Int → t12y → t10y → t12y → t10y → Option β
abbrev zqes (β : Type) := Bool → t7y → t4y → t3y → t1y → t5y → Int → Int → Int → Int → Int → Int → Int → t5y → Int → Int → Int → Int → Int → Int → Int → t12y → t10y → t12y → t10y → Option β
noncomputable def zqet : Pc := ⟨77, 1, Q4 253 (Q3 Tryz.f41), ⟨1, [0, 4, 6, 7, 65], [v23y, v30y, v33y, v47y, v24y], l66y⟩, [(.normal, ⟨1, [6, 7], [v30y, v33y], [b20y, .cells 40 [.data .str, .data (.int .i64), .data (.int .i64), .data (.int .i64), .data (.int .i64), .data (.int .i64), .rowh 3, .rowh 4, .data (.int .i64), .data (.int .i64)], .cells 40 [.data .str, .data (.int .i64), .data (.int .i64), .data (.int .i64), .data (.int .i64), .data (.int .i64), .rowh 5, .rowh 6, .data (.int .i64), .data (.int .i64)], .row 3 (.int .i64), .row 129 (.prod (.int .i64) (.int .i64)), .row 3 (.int .i64), .row 129 (.prod (.int .i64) (.int .i64))]⟩)]⟩
abbrev zqeu (β : Type) := t7y → t5y → Int → Int → Int → Int → Int → Int → Int → t12y → t10y → Option β
abbrev zqev (β : Type) := t7y → t4y → t3y → t1y → t5y → Int → Int → Int → Int → Int → Int → Int → t5y → Int → Int → Int → Int → Int → Int → Int → t12y → t10y → t12y → t10y → Option β
noncomputable def zqew : Pc := ⟨77, 1, Q4 63 (Q3 Tryz.f41), ⟨1, [0, 4, 6, 7], [v23y, v30y, v33y, v47y], l66y⟩, [(.ret, ⟨1, [6], [v30y], [b20y, b46y, .row 3 (.int .i64), .row 129 (.prod (.int .i64) (.int .i64))]⟩)]⟩
abbrev zqex (β : Type) := t7y → t4y → t3y → t1y → t5y → Int → Int → Int → Int → Int → Int → Int → t5y → Int → Int → Int → Int → Int → Int → Int → t12y → t10y → t12y → t10y → Option β
abbrev zqey (β : Type) := Int → t7y → t4y → t3y → t1y → t5y → Int → Int → Int → Int → Int → Int → Int → t5y → Int → Int → Int → Int → Int → Int → Int → t12y → t10y → t12y → t10y → Option β
noncomputable def zqez : Pc := ⟨77, 1, Q4 122 (Q3 Tryz.f41), ⟨1, [0, 4, 6, 7, 8], [v23y, v30y, v33y, v47y, v19y], l66y⟩, [(.exit 0, ⟨1, [0, 4, 6, 7], [v23y, v30y, v33y, v47y], l66y⟩)]⟩
abbrev zqf0 (β : Type) := t7y → t5y → Int → Int → Int → Int → Int → Int → Int → t12y → t10y → Option β
abbrev zqf1 (β : Type) := t7y → t4y → t3y → t1y → t5y → Int → Int → Int → Int → Int → Int → Int → t5y → Int → Int → Int → Int → Int → Int → Int → t12y → t10y → t12y → t10y → Option β
noncomputable def zqf2 : Pc := ⟨77, 1, Q4 15 (Q3 Tryz.f41), ⟨1, [0, 4, 6, 7], [v23y, v30y, v33y, v47y], l66y⟩, [(.ret, ⟨1, [6], [v30y], [b20y, b46y, .row 3 (.int .i64), .row 129 (.prod (.int .i64) (.int .i64))]⟩)]⟩
def zqf3 {β : Type} (k1 : zqer β) : zqes β := fun t65 d c c2 c3 t6 t62 t63 t64 t66 t67 t68 t69 l l2 l3 l4 l5 l6 l7 l8 b4_ b5_ b6_ b7_ =>
 cond t65
 (zq1i (List.length c3 : Int) d (fun rNext mrNext =>
 zq1i (2 : Int) mrNext (fun rNext2 mrNext2 =>
 k1 mrNext2 t6 t62 t63 t64 t66 t67 t68 t69 l l2 l3 l4 l5 l6 rNext (IntKind.i64.wrap ((1 : Int) + rNext2)) b4_ b5_ b6_ b7_)))
 (k1 d t6 t62 t63 t64 t66 t67 t68 t69 l l2 l3 l4 l5 l6 l7 l8 b4_ b5_ b6_ b7_)
def zqf4 {β : Type} := hid (zqf3 (β := β))
noncomputable def zqf5 : Pb := ⟨253, zqet, fun _ => zqf4, pe (p := zqet) zqeq [] 253 (g := fun _ => zqf3) (by kernel_rfl) fun _ _ => by kernel_rfl⟩
def zqf6 {β : Type} (k1 : zqeu β) : zqev β := fun d c c2 c3 t6 t62 t63 t64 t65 t66 t67 t68 l l2 l3 l4 l5 l6 l7 l8 b4_ b5_ b6_ b7_ =>
 zq3y (4 : Int) d (fun rBool mrBool =>
 cond rBool
 (zqf4 (fun b0_ t69 t610 t611 t612 t613 t614 t615 t616 l9 l10 l11 l12 l13 l14 l15 l16 b3_ b4_2 b5_2 b6_2 =>
 k1 b0_ l9 l10 l11 l12 l13 l14 l15 l16 b5_2 b6_2) (decide ((0 : Int) < (List.length c3 : Int))) mrBool c c2 c3 t6 t62 t63 t64 t65 t66 t67 t68 l l2 l3 l4 l5 l6 l7 l8 b4_ b5_ b6_ b7_)
 (zqf4 (fun b0_ t69 t610 t611 t612 t613 t614 t615 t616 l9 l10 l11 l12 l13 l14 l15 l16 b3_ b4_2 b5_2 b6_2 =>
 k1 b0_ l9 l10 l11 l12 l13 l14 l15 l16 b5_2 b6_2) false mrBool c c2 c3 t6 t62 t63 t64 t65 t66 t67 t68 l l2 l3 l4 l5 l6 l7 l8 b4_ b5_ b6_ b7_))
def zqf7 {β : Type} := hid (zqf6 (β := β))
noncomputable def zqf8 : Pb := ⟨63, zqew, fun _ => zqf7, pe (p := zqew) zqeq [zqf5] 63 (g := fun _ => zqf6) (by kernel_rfl) fun _ _ => by kernel_rfl⟩
def zqf9 {β : Type} (rec : zqey β) (k1 : zqex β) : zqey β := fun i_ d c c2 c3 t6 t62 t63 t64 t65 t66 t67 t68 l l2 l3 l4 l5 l6 l7 l8 b4_ b5_ b6_ b7_ =>
 cond (decide ((0 : Int) < i_))
 (zq1i (List.length c2 : Int) d (fun rNext mrNext =>
 let l9 := ([rNext] : List Int);
 cond (decide ((List.length b6_ + List.length l9) * 8 ≤ Q8))
 (let l10 := (b6_ ++ l9);
 let i_2 := (IntKind.i64.wrap (i_ - (1 : Int)));
 rec i_2 mrNext c c2 c3 t6 t62 t63 t64 t65 t66 t67 t68 l l2 l3 l4 l5 l6 l7 l8 b4_ b5_ l10 b7_)
 none))
 (k1 d c c2 c3 t6 t62 t63 t64 t65 t66 t67 t68 l l2 l3 l4 l5 l6 l7 l8 b4_ b5_ b6_ b7_)
def zqfa (m : Nat) {β : Type} (k1 : zqex β) : zqey β := lp25 (fun r => zqf9 r k1) none m
theorem zqfb {β : Type} (i : Nat) (k1) : zqfa (β := β) (i + 1) k1 = zqf9 (zqfa i k1) k1 := rfl
def zqfc {β : Type} := hid (zqfa (β := β) fuel)
noncomputable def zqfd : Pb := ⟨122, zqez, fun _ => zqfc, pl (p := zqez) zqeq [] (g := fun i _ => zqfa i) (by kernel_rfl) rfl (by kernel_rfl) (fun _ _ => rfl) fun _ _ _ _ => by kernel_rfl⟩
def zqfe {β : Type} (k1 : zqf0 β) : zqf1 β := fun d c c2 c3 t6 t62 t63 t64 t65 t66 t67 t68 l l2 l3 l4 l5 l6 l7 l8 b4_ b5_ b6_ b7_ =>
 zq1i (3 : Int) d (fun rNext mrNext =>
 let i_ := (IntKind.i64.wrap ((1 : Int) + rNext));
 zqfc (fun d2 c4 c5 c6 t69 t610 t611 t612 t613 t614 t615 t616 l9 l10 l11 l12 l13 l14 l15 l16 b4_2 b5_2 b6_2 b7_2 =>
 zq3y (2 : Int) d2 (fun rBool mrBool =>
 cond rBool
 (zq9y mrBool (fun mrWindows lrWindows =>
 zqf7 (fun b0_ t617 t618 t619 t620 t621 t622 t623 t624 b2_ b3_ =>
 k1 b0_ t617 t618 t619 t620 t621 t622 t623 t624 b2_ b3_) mrWindows c4 c5 c6 t69 t610 t611 t612 t613 t614 t615 t616 l9 l10 l11 l12 l13 l14 l15 l16 b4_2 b5_2 b6_2 lrWindows))
 (zqf7 (fun b0_ t617 t618 t619 t620 t621 t622 t623 t624 b2_ b3_ =>
 k1 b0_ t617 t618 t619 t620 t621 t622 t623 t624 b2_ b3_) mrBool c4 c5 c6 t69 t610 t611 t612 t613 t614 t615 t616 l9 l10 l11 l12 l13 l14 l15 l16 b4_2 b5_2 b6_2 b7_2))) i_ mrNext c c2 c3 t6 t62 t63 t64 t65 t66 t67 t68 l l2 l3 l4 l5 l6 l7 l8 b4_ b5_ b6_ b7_)
def zqff {β : Type} := hid (zqfe (β := β))
noncomputable def zqfg : Pb := ⟨15, zqf2, fun _ => zqff, pe (p := zqf2) zqeq [zqf8, zqfd] 15 (g := fun _ => zqfe) (by kernel_rfl) fun _ _ => by kernel_rfl⟩
def zqfh : zqep := fun c c2 c3 name d k =>
 zq1i (List.length c : Int) d (fun rNext mrNext =>
 zq1i (6 : Int) mrNext (fun rNext2 mrNext2 =>
 let l := ([(0 : Int), (32400 : Int), (7200 : Int), (9000 : Int), (79200 : Int), (1 : Int)] : List Int);
 zq42 l mrNext2 (fun rPick mrPick =>
 zq1i (3 : Int) mrPick (fun rNext3 mrNext3 =>
 zq1i (2 : Int) mrNext3 (fun rNext4 mrNext4 =>
 cond (decide (rNext3 = (0 : Int)))
 (let l2 := ([(6 : Int), (8 : Int), (12 : Int), (24 : Int), (23 : Int), (49 : Int)] : List Int);
 zq42 l2 mrNext4 (fun rPick2 mrPick2 =>
 zqff (fun b0_ t6 t62 t63 t64 t65 t66 t67 t68 b2_ b3_ =>
 k (t6, (t62, ((t63, t64), (t65, (t66, (b2_, (b3_, (t67, t68)))))))) b0_) mrPick2 c c2 c3 ([] : List UInt8) (0 : Int) (0 : Int) (0 : Int) (0 : Int) (0 : Int) (0 : Int) (0 : Int) name rNext (IntKind.i64.wrap ((IntKind.i64.wrap ((20454 : Int) + rNext2)) - (2 : Int))) rPick rNext3 rPick2 (0 : Int) (0 : Int) ([] : List Int) ([] : List t6y) ([] : List Int) ([] : List t6y)))
 (zqff (fun b0_ t6 t62 t63 t64 t65 t66 t67 t68 b2_ b3_ =>
 k (t6, (t62, ((t63, t64), (t65, (t66, (b2_, (b3_, (t67, t68)))))))) b0_) mrNext4 c c2 c3 ([] : List UInt8) (0 : Int) (0 : Int) (0 : Int) (0 : Int) (0 : Int) (0 : Int) (0 : Int) name rNext (IntKind.i64.wrap ((IntKind.i64.wrap ((20454 : Int) + rNext2)) - (2 : Int))) rPick rNext3 (IntKind.i64.wrap ((1 : Int) + rNext4)) (0 : Int) (0 : Int) ([] : List Int) ([] : List t6y) ([] : List Int) ([] : List t6y)))))))
def zqfi : zqep := hid zqfh
noncomputable def zqfj : En := ⟨41, .spec (sg [v23y, v56y, v27y] [b20y] [(true, [.data zq3])] [b20y] zqfi), pf zqeq [zqfg] [.cell 6 40] Tryz.func41 (by kernel_rfl) fun _ _ => by kernel_rfl⟩
abbrev zqfk := {β : Type} → Int → ((Int × t6y) → Int → Option β) → Option β
noncomputable def zqfl : List En := [zqbb, zqau, zqb7]
abbrev zqfm (β : Type) := Int → (Int × t6y) → (Int × t6y) → Option β
abbrev zqfn (β : Type) := Int → (Int × t6y) → (Int × t6y) → Option β
noncomputable def zqfo : Pc := ⟨45, 0, Q4 124 (Q3 Tryz.f83), ⟨0, [2, 4, 5], [v23y, v30y, v19y], [b39y, b39y]⟩, [(.exit 0, ⟨0, [2, 4, 5], [v23y, v30y, v19y], [b39y, b39y]⟩)]⟩
def zqfp {β : Type} (rec : zqfn β) (k1 : zqfm β) : zqfn β := fun rest t2 d =>
 zqba d.1 d.2.1 (fun rDays =>
 cond (decide (rDays ≤ rest))
 (zqba d.1 d.2.1 (fun rDays2 =>
 let rest2 := (IntKind.i64.wrap (rest - rDays2));
 rec rest2 t2 (d.1, ((IntKind.i64.wrap (d.2.1 + (1 : Int))), d.2.2))))
 (k1 rest t2 d))
def zqfq (m : Nat) {β : Type} (k1 : zqfm β) : zqfn β := lp3 (fun r => zqfp r k1) none m
theorem zqfr {β : Type} (i : Nat) (k1) : zqfq (β := β) (i + 1) k1 = zqfp (zqfq i k1) k1 := rfl
def zqfs {β : Type} := hid (zqfq (β := β) fuel)
noncomputable def zqft : Pb := ⟨124, zqfo, fun _ => zqfs, pl (p := zqfo) zqfl [] (g := fun i _ => zqfq i) (by kernel_rfl) rfl (by kernel_rfl) (fun _ _ => rfl) fun _ _ _ _ => by kernel_rfl⟩
def zqfu : zqfk := fun day k =>
 zqat (1970 : Int) (fun rcount =>
 cond (decide (day < rcount))
 (k ((0 : Int), ((0 : Int), (0 : Int))) (1 : Int))
 (zqat (2241 : Int) (fun rcount2 =>
 cond (decide (rcount2 ≤ day))
 (k ((0 : Int), ((0 : Int), (0 : Int))) (1 : Int))
 (zqb6 day (fun ryear =>
 zqat ryear (fun rcount3 =>
 let rest := (IntKind.i64.wrap (day - rcount3));
 zqfs (fun rest2 t2 d =>
 k (d.1, (d.2.1, (IntKind.i64.wrap (rest2 + (1 : Int))))) (0 : Int)) rest ((0 : Int), ((0 : Int), (0 : Int))) (ryear, ((1 : Int), (0 : Int)))))))))
def zqfv : zqfk := hid zqfu
noncomputable def zqfw : En := ⟨83, .spec (sg [v19y] [] [v44y, v19y] [] zqfv), pf zqfl [zqft] [.cell 2 146, .tmp 3] Tryz.func83 (by kernel_rfl) fun _ _ => by kernel_rfl⟩
abbrev zqfx := {β : Type} → t5y → (zqc → Bool → Option β) → Option β
def zqfy : zqfx := fun word k =>
 let l := ([(0 : Int), (4 : Int)] : List Int);
 let l2 := ([(1 : Int), (1 : Int), (0 : Int), (0 : Int), (0 : Int), (2 : Int), (4 : Int)] : List Int);
 let l3 := ([(0 : Int), (0 : Int)] : List Int);
 let l4 := ([(0 : Int), (2 : Int), (0 : Int), (2 : Int)] : List Int);
 let l5 := ([(0 : Int), (0 : Int)] : List Int);
 let l6 := ([(3 : Int)] : List Int);
 let l7 := ([(0 : Int)] : List Int);
 let l8 := ([(0 : Int), (0 : Int), (3 : Int), (2 : Int), (1 : Int), (0 : Int)] : List Int);
 let l9 := ([(0 : Int)] : List Int);
 let l10 := ([(0 : Int), (2 : Int), (0 : Int), (2 : Int)] : List Int);
 let l11 := ([(0 : Int)] : List Int);
 let l12 := ([(0 : Int)] : List Int);
 let l13 := ([(0 : Int), (5 : Int), (5 : Int)] : List Int);
 let l14 := ([(0 : Int), (5 : Int), (5 : Int)] : List Int);
 let l15 := ([(0 : Int), (0 : Int), (5 : Int), (5 : Int)] : List Int);
 let l16 := ([(([122, 111, 110, 101] : List UInt8), (l, false)), (([114, 117, 108, 101] : List UInt8), (l2, false)), (([112, 101, 114, 115, 111, 110] : List UInt8), (l3, false)), (([113, 117, 105, 101, 116] : List UInt8), (l4, false)), (([99, 97, 108, 101, 110, 100, 97, 114] : List UInt8), (l5, false)), (([100, 97, 121, 115] : List UInt8), (l6, true)), (([115, 99, 104, 101, 100, 117, 108, 101] : List UInt8), (l7, false)), (([108, 97, 121, 101, 114] : List UInt8), (l8, false)), (([109, 101, 109, 98, 101, 114] : List UInt8), (l9, true)), (([111, 110] : List UInt8), (l10, false)), (([110, 111, 116] : List UInt8), (l11, false)), (([111, 110, 108, 121] : List UInt8), (l12, false)), (([108, 101, 97, 118, 101] : List UInt8), (l13, false)), (([111, 118, 101, 114, 114, 105, 100, 101] : List UInt8), (l14, false)), (([115, 119, 97, 112] : List UInt8), (l15, false))] : List zqc);
 zqd7 l16 word (fun rform mrform =>
 cond (decide (rform < (0 : Int)))
 (k zqj false)
 (cond (decide (0 ≤ rform) && decide (rform < (List.length l16 : Int)))
 (k (List.getD l16 (Int.toNat rform) (([] : List UInt8), (([] : List Int), false))) true)
 none))
def zqfz : zqfx := hid zqfy
noncomputable def zqg0 : En := ⟨89, .spec (sg [v27y] [] [(true, [.data zqd]), v24y] [] zqfz), pf [zqd8] [] [.cell 2 156, .tmp 3] Tryz.func89 (by kernel_rfl) fun _ _ => by kernel_rfl⟩
abbrev zqg1 := {β : Type} → t8y → t4y → t3y → t1y → t2y → (Int → t4y → t3y → t1y → t2y → Option β) → Option β
def zqg2 : zqg1 := fun l b1_ b2_ b3_ b4_ k =>
 cond (decide (0 ≤ (3 : Int)) && decide ((3 : Int) < (List.length l : Int)))
 (let e := List.getD l (Int.toNat (3 : Int)) ((0 : Int), (([] : List UInt8), (0 : Int)));
 zqbe e.2.1 (fun rMonth rMonth2 =>
 cond (decide (0 ≤ (4 : Int)) && decide ((4 : Int) < (List.length l : Int)))
 (let e2 := List.getD l (Int.toNat (4 : Int)) ((0 : Int), (([] : List UInt8), (0 : Int)));
 zqbi e2.2.1 (fun rOrdinal rOrdinal2 =>
 cond (decide (0 ≤ (5 : Int)) && decide ((5 : Int) < (List.length l : Int)))
 (let e3 := List.getD l (Int.toNat (5 : Int)) ((0 : Int), (([] : List UInt8), (0 : Int)));
 zqbm e3.2.1 (fun rWeekday rWeekday2 =>
 cond (!rMonth2)
 (k (2 : Int) b1_ b2_ b3_ b4_)
 (cond (!rOrdinal2)
 (k (2 : Int) b1_ b2_ b3_ b4_)
 (cond (!rWeekday2)
 (k (2 : Int) b1_ b2_ b3_ b4_)
 (cond (decide ((List.length b1_ : Int) = (0 : Int)))
 (k (9 : Int) b1_ b2_ b3_ b4_)
 (let i_ := (IntKind.i64.wrap ((List.length b1_ : Int) - (1 : Int)));
 cond (decide (0 ≤ i_) && decide (i_ < (List.length b1_ : Int)))
 (let e4 := List.getD b1_ (Int.toNat i_) (([] : List UInt8), ((0 : Int), ([] : List zq8)));
 cond (decide (0 ≤ (1 : Int)) && decide ((1 : Int) < (List.length l : Int)))
 (let e5 := List.getD l (Int.toNat (1 : Int)) ((0 : Int), (([] : List UInt8), (0 : Int)));
 cond (decide (0 ≤ (2 : Int)) && decide ((2 : Int) < (List.length l : Int)))
 (let e6 := List.getD l (Int.toNat (2 : Int)) ((0 : Int), (([] : List UInt8), (0 : Int)));
 cond (decide (0 ≤ (6 : Int)) && decide ((6 : Int) < (List.length l : Int)))
 (let e7 := List.getD l (Int.toNat (6 : Int)) ((0 : Int), (([] : List UInt8), (0 : Int)));
 cond (decide (0 ≤ (7 : Int)) && decide ((7 : Int) < (List.length l : Int)))
 (let e8 := List.getD l (Int.toNat (7 : Int)) ((0 : Int), (([] : List UInt8), (0 : Int)));
 let l2 := ([(e5.2.2, (e6.2.2, (rMonth, (rOrdinal, (rWeekday, (e7.2.2, e8.2.2))))))] : List zq8);
 let l3 := ((List.getD b1_ (Int.toNat i_) (([] : List UInt8), ((0 : Int), ([] : List zq8)))).2).2;
 cond (true && decide ((List.length l3 + List.length l2) * 56 ≤ Q8))
 (let l4 := (l3 ++ l2);
 let e9 := List.getD b1_ (Int.toNat i_) (([] : List UInt8), ((0 : Int), ([] : List zq8)));
 let l5 := List.set b1_ (Int.toNat i_) (e9.1, (e9.2.1, l4));
 cond (decide ((Int.toNat i_) = (Int.toNat i_)) && (true && true))
 (k (0 : Int) l5 b2_ b3_ b4_)
 none)
 none)
 none)
 none)
 none)
 none)
 none))))))
 none))
 none))
 none
def zqg3 : zqg1 := hid zqg2
theorem zqg4 : SpecOkB Tryz.prog 92 (sg [v23y, v26y] l63y [v19y] l63y zqg3) := Q1r mixed (X := ⟨look tab, gam [zq5n, zq5o, zqbf, zqbj, zqbn], false, false, false, false, q83y, none, 0, []⟩) Qd [zq5n, zq5o, zqbf, zqbj, zqbn] rfl [] [.tmp 4] Tryz.func92 (by kernel_rfl) fun _ _ => by kernel_rfl
noncomputable def zqg5 : En := .hand zqg4 rfl (by kernel_rfl)
abbrev zqg6 := {β : Type} → t8y → t4y → t3y → t1y → t2y → (Int → t4y → t3y → t1y → t2y → Option β) → Option β
def zqg7 : zqg6 := fun l b1_ b2_ b3_ b4_ k =>
 zqbq l (fun rwindow rwindow2 =>
 cond (decide ((List.length b2_ : Int) = (0 : Int)))
 (cond (decide (rwindow2 = (0 : Int)))
 (k (9 : Int) b1_ b2_ b3_ b4_)
 (cond (!decide (rwindow2 = (0 : Int)))
 (k rwindow2 b1_ b2_ b3_ b4_)
 (none)))
 (let i_ := (IntKind.i64.wrap ((List.length b2_ : Int) - (1 : Int)));
 cond (decide (0 ≤ i_) && decide (i_ < (List.length b2_ : Int)))
 (cond (decide (rwindow2 = (0 : Int)))
 (let e := List.getD b2_ (Int.toNat i_) (([] : List UInt8), ((0 : Int), (([] : List t6y), ((0 : Int), ((0 : Int), false)))));
 let l2 := ([rwindow] : List t6y);
 let l3 := (((List.getD b2_ (Int.toNat i_) (([] : List UInt8), ((0 : Int), (([] : List t6y), ((0 : Int), ((0 : Int), false)))))).2).2).1;
 cond (true && decide ((List.length l3 + List.length l2) * 16 ≤ Q8))
 (let l4 := (l3 ++ l2);
 let e2 := List.getD b2_ (Int.toNat i_) (([] : List UInt8), ((0 : Int), (([] : List t6y), ((0 : Int), ((0 : Int), false)))));
 let l5 := List.set b2_ (Int.toNat i_) (e2.1, (e2.2.1, (l4, e2.2.2.2)));
 cond (decide ((Int.toNat i_) = (Int.toNat i_)) && (true && true))
 (k (0 : Int) b1_ l5 b3_ b4_)
 none)
 none)
 (cond (!decide (rwindow2 = (0 : Int)))
 (k rwindow2 b1_ b2_ b3_ b4_)
 (let e := List.getD b2_ (Int.toNat i_) (([] : List UInt8), ((0 : Int), (([] : List t6y), ((0 : Int), ((0 : Int), false)))));
 let l2 := ([rwindow] : List t6y);
 let l3 := (((List.getD b2_ (Int.toNat i_) (([] : List UInt8), ((0 : Int), (([] : List t6y), ((0 : Int), ((0 : Int), false)))))).2).2).1;
 cond (true && decide ((List.length l3 + List.length l2) * 16 ≤ Q8))
 (let l4 := (l3 ++ l2);
 let e2 := List.getD b2_ (Int.toNat i_) (([] : List UInt8), ((0 : Int), (([] : List t6y), ((0 : Int), ((0 : Int), false)))));
 let l5 := List.set b2_ (Int.toNat i_) (e2.1, (e2.2.1, (l4, e2.2.2.2)));
 cond (decide ((Int.toNat i_) = (Int.toNat i_)) && (true && true))
 (k (0 : Int) b1_ l5 b3_ b4_)
 none)
 none)))
 none))
def zqg8 : zqg6 := hid zqg7
theorem zqg9 : SpecOkB Tryz.prog 94 (sg [v23y, v26y] l63y [v19y] l63y zqg8) := Q1r mixed (X := ⟨look tab, gam [zq6e, zq6f, zqbr], false, false, false, false, q83y, none, 0, []⟩) Qd [zq6e, zq6f, zqbr] rfl [] [.tmp 4] Tryz.func94 (by kernel_rfl) fun _ _ => by kernel_rfl
noncomputable def zqga : En := .hand zqg9 rfl (by kernel_rfl)
abbrev zqgb := {β : Type} → t8y → t4y → t3y → t1y → t2y → (Int → t4y → t3y → t1y → t2y → Option β) → Option β
def zqgc : zqgb := fun l b1_ b2_ b3_ b4_ k =>
 zqbq l (fun rwindow rwindow2 =>
 cond (decide ((List.length b4_ : Int) = (0 : Int)))
 (cond (decide (rwindow2 = (0 : Int)))
 (k (9 : Int) b1_ b2_ b3_ b4_)
 (cond (!decide (rwindow2 = (0 : Int)))
 (k rwindow2 b1_ b2_ b3_ b4_)
 (none)))
 (let i_ := (IntKind.i64.wrap ((List.length b4_ : Int) - (1 : Int)));
 cond (decide (0 ≤ i_) && decide (i_ < (List.length b4_ : Int)))
 (let e := List.getD b4_ (Int.toNat i_) (([] : List UInt8), (([] : List zq2), ([] : List t0y)));
 let l2 := ((List.getD b4_ (Int.toNat i_) (([] : List UInt8), (([] : List zq2), ([] : List t0y)))).2).1;
 cond (decide ((List.length l2 : Int) = (0 : Int)))
 (cond (decide (rwindow2 = (0 : Int)))
 (k (9 : Int) b1_ b2_ b3_ b4_)
 (cond (!decide (rwindow2 = (0 : Int)))
 (k rwindow2 b1_ b2_ b3_ b4_)
 (none)))
 (let l3 := ((List.getD b4_ (Int.toNat i_) (([] : List UInt8), (([] : List zq2), ([] : List t0y)))).2).1;
 let l4 := ((List.getD b4_ (Int.toNat i_) (([] : List UInt8), (([] : List zq2), ([] : List t0y)))).2).1;
 let i_2 := (IntKind.i64.wrap ((List.length l3 : Int) - (1 : Int)));
 cond (decide (0 ≤ i_2) && decide (i_2 < (List.length l4 : Int)))
 (let j := Int.toNat i_2;
 cond (decide (rwindow2 = (0 : Int)))
 (let l5 := ((List.getD b4_ (Int.toNat i_) (([] : List UInt8), (([] : List zq2), ([] : List t0y)))).2).1;
 let e2 := List.getD l5 j zqq;
 let l6 := ([rwindow] : List t6y);
 let l7 := (((((((List.getD (((List.getD b4_ (Int.toNat i_) (([] : List UInt8), (([] : List zq2), ([] : List t0y)))).2).1) j zqq).2).2).2).2).2).2).1;
 cond (true && decide ((List.length l7 + List.length l6) * 16 ≤ Q8))
 (let l8 := (l7 ++ l6);
 let e3 := List.getD b4_ (Int.toNat i_) (([] : List UInt8), (([] : List zq2), ([] : List t0y)));
 let e4 := List.getD e3.2.1 j zqq;
 let l9 := List.set e3.2.1 j (e4.1, (e4.2.1, (e4.2.2.1, (e4.2.2.2.1, (e4.2.2.2.2.1, (e4.2.2.2.2.2.1, (l8, e4.2.2.2.2.2.2.2)))))));
 let l10 := List.set b4_ (Int.toNat i_) (e3.1, (l9, e3.2.2));
 cond (decide ((Int.toNat i_) = (Int.toNat i_)) && (true && (decide (j = j) && (true && true))))
 (k (0 : Int) b1_ b2_ b3_ l10)
 none)
 none)
 (cond (!decide (rwindow2 = (0 : Int)))
 (k rwindow2 b1_ b2_ b3_ b4_)
 (let l5 := ((List.getD b4_ (Int.toNat i_) (([] : List UInt8), (([] : List zq2), ([] : List t0y)))).2).1;
 let e2 := List.getD l5 j zqq;
 let l6 := ([rwindow] : List t6y);
 let l7 := (((((((List.getD (((List.getD b4_ (Int.toNat i_) (([] : List UInt8), (([] : List zq2), ([] : List t0y)))).2).1) j zqq).2).2).2).2).2).2).1;
 cond (true && decide ((List.length l7 + List.length l6) * 16 ≤ Q8))
 (let l8 := (l7 ++ l6);
 let e3 := List.getD b4_ (Int.toNat i_) (([] : List UInt8), (([] : List zq2), ([] : List t0y)));
 let e4 := List.getD e3.2.1 j zqq;
 let l9 := List.set e3.2.1 j (e4.1, (e4.2.1, (e4.2.2.1, (e4.2.2.2.1, (e4.2.2.2.2.1, (e4.2.2.2.2.2.1, (l8, e4.2.2.2.2.2.2.2)))))));
 let l10 := List.set b4_ (Int.toNat i_) (e3.1, (l9, e3.2.2));
 cond (decide ((Int.toNat i_) = (Int.toNat i_)) && (true && (decide (j = j) && (true && true))))
 (k (0 : Int) b1_ b2_ b3_ l10)
 none)
 none)))
 none))
 none))
def zqgd : zqgb := hid zqgc
theorem zqge : SpecOkB Tryz.prog 100 (sg [v23y, v26y] l63y [v19y] l63y zqgd) := Q1r mixed (X := ⟨look tab, gam [zq6y, zq6z, zqbr], false, false, false, false, q83y, none, 0, []⟩) Qd [zq6y, zq6z, zqbr] rfl [] [.tmp 4] Tryz.func100 (by kernel_rfl) fun _ _ => by kernel_rfl
noncomputable def zqgf : En := .hand zqge rfl (by kernel_rfl)
abbrev zqgg := {β : Type} → Int → Int → Int → Int → (Int → Int → Option β) → Option β
def zqgh : zqgg := fun year month week weekday k =>
 zqc8 (year, (month, (1 : Int))) (fun rValid =>
 cond (!rValid)
 (k (0 : Int) (1 : Int))
 (cond (decide (week < (1 : Int)))
 (k (0 : Int) (1 : Int))
 (cond (decide ((5 : Int) < week))
 (k (0 : Int) (1 : Int))
 (cond (decide (weekday < (0 : Int)))
 (k (0 : Int) (1 : Int))
 (cond (decide ((6 : Int) < weekday))
 (k (0 : Int) (1 : Int))
 (zqcl (year, (month, (1 : Int))) (fun rnumber =>
 zq8a rnumber (fun rWeekday =>
 let day := (IntKind.i64.wrap ((IntKind.i64.wrap (rnumber + (Int.tmod (IntKind.i64.wrap ((IntKind.i64.wrap (weekday - rWeekday)) + (7 : Int))) (7 : Int)))) + (IntKind.i64.wrap ((7 : Int) * (IntKind.i64.wrap (week - (1 : Int)))))));
 zqba year month (fun rDays =>
 cond (decide ((IntKind.i64.wrap (rnumber + rDays)) ≤ day))
 (let day2 := (IntKind.i64.wrap (day - (7 : Int)));
 k day2 (0 : Int))
 (k day (0 : Int)))))))))))
def zqgi : zqgg := hid zqgh
noncomputable def zqgj : En := ⟨137, .spec (sg [v19y, v19y, v19y, v19y] [] [v19y, v19y] [] zqgi), pf [zqbb, zqc9, zq8b, zqcm] [] [.tmp 8, .tmp 9] Tryz.func137 (by kernel_rfl) fun _ _ => by kernel_rfl⟩
abbrev zqgk := {β : Type} → t5y → (Int → Bool → Option β) → Option β
def zqgl : zqgk := fun s k =>
 cond (!decide ((List.length s : Int) = (10 : Int)))
 (k (0 : Int) false)
 (cond (decide (0 ≤ (4 : Int)) && decide ((4 : Int) < (List.length s : Int)))
 (cond (!decide (((List.getD s (Int.toNat (4 : Int)) 0).toNat : Int) = (45 : Int)))
 (k (0 : Int) false)
 (cond (decide (0 ≤ (7 : Int)) && decide ((7 : Int) < (List.length s : Int)))
 (cond (!decide (((List.getD s (Int.toNat (7 : Int)) 0).toNat : Int) = (45 : Int)))
 (k (0 : Int) false)
 (cond (decide (0 ≤ (0 : Int)) && (decide ((0 : Int) ≤ (4 : Int)) && decide ((4 : Int) ≤ (List.length s : Int))))
 (zqc4 (List.drop (Int.toNat (0 : Int)) (List.take (Int.toNat (4 : Int)) s)) (fun rnumber rnumber2 =>
 cond (decide (0 ≤ (5 : Int)) && (decide ((5 : Int) ≤ (7 : Int)) && decide ((7 : Int) ≤ (List.length s : Int))))
 (zqcp (List.drop (Int.toNat (5 : Int)) (List.take (Int.toNat (7 : Int)) s)) (fun rtwo rtwo2 =>
 cond (decide (0 ≤ (8 : Int)) && (decide ((8 : Int) ≤ (List.length s : Int)) && decide ((List.length s : Int) ≤ (List.length s : Int))))
 (zqcp (List.drop (Int.toNat (8 : Int)) (List.take (Int.toNat (List.length s : Int)) s)) (fun rtwo3 rtwo4 =>
 zqct (rnumber, (rtwo, rtwo3)) (fun rDay rDay2 =>
 cond rnumber2
 (cond rtwo2
 (cond rtwo4
 (let t := (decide (rDay2 = (0 : Int)));
 k rDay t)
 (k rDay false))
 (k rDay false))
 (k rDay false))))
 none))
 none))
 none))
 none))
 none)
def zqgm : zqgk := hid zqgl
noncomputable def zqgn : En := ⟨150, .spec (sg [v27y] [] [v19y, v24y] [] zqgm), pf [zqcu, zqc5, zqcq] [] [.tmp 2, .tmp 3] Tryz.func150 (by kernel_rfl) fun _ _ => by kernel_rfl⟩
abbrev zqgo := {β : Type} → t5y → (Int → Bool → Option β) → Option β
noncomputable def zqgp : List En := [zqcq, zq3u]
abbrev zqgq (β : Type) := Int → Bool → Option β
abbrev zqgr (β : Type) := Int → Option β
abbrev zqgs (β : Type) := Int → Int → Int → (List t5y) → Option β
noncomputable def zqgt : Pc := ⟨53, 0, Q4 250 (Q3 Tryz.f151), ⟨0, [5, 23, 24, 25], [v19y, v34y, v19y, v19y], [.row 9 .str]⟩, [(.ret, ⟨0, [2, 3], [v19y, v24y], []⟩), (.exit 0, ⟨0, [5], [v19y], []⟩)]⟩
def zqgu {β : Type} (rec : zqgs β) (k1 : zqgq β) (k2 : zqgr β) : zqgs β := fun n t24 t25 t23 =>
 cond (decide (t25 < t24))
 (cond (decide (0 ≤ t25) && decide (t25 < (List.length t23 : Int)))
 (let x := (List.getD t23 (Int.toNat t25) ([] : List UInt8));
 zqcp x (fun rtwo rtwo2 =>
 cond (!rtwo2)
 (k1 (0 : Int) false)
 (cond (decide ((0 : Int) < t25))
 (cond (decide ((59 : Int) < rtwo))
 (k1 (0 : Int) false)
 (let n2 := (IntKind.i64.wrap ((IntKind.i64.wrap ((60 : Int) * n)) + rtwo));
 rec n2 t24 (IntKind.i64.wrap (t25 + (1 : Int))) t23))
 (let n2 := (IntKind.i64.wrap ((IntKind.i64.wrap ((60 : Int) * n)) + rtwo));
 rec n2 t24 (IntKind.i64.wrap (t25 + (1 : Int))) t23))))
 none)
 (k2 n)
def zqgv (m : Nat) {β : Type} (k1 : zqgq β) (k2 : zqgr β) : zqgs β := lp4 (fun r => zqgu r k1 k2) none m
theorem zqgw {β : Type} (i : Nat) (k1 k2) : zqgv (β := β) (i + 1) k1 k2 = zqgu (zqgv i k1 k2) k1 k2 := rfl
def zqgx {β : Type} := hid (zqgv (β := β) fuel)
noncomputable def zqgy : Pb := ⟨250, zqgt, fun _ => zqgx, Q88 mixed (X := ⟨look tab, gam zqgp, false, true, false, false, [], none, 0, []⟩) (p := zqgt) Qd zqgp rfl [] (g := fun i _ => zqgv i) (by kernel_rfl) rfl (by kernel_rfl) (fun _ _ => rfl) fun _ _ _ _ => by kernel_rfl⟩
def zqgz : zqgo := fun s k =>
 zq3s s ([58] : List UInt8) (fun lrSplit =>
 cond (decide ((List.length lrSplit : Int) < (2 : Int)))
 (k (0 : Int) false)
 (cond (decide ((3 : Int) < (List.length lrSplit : Int)))
 (k (0 : Int) false)
 (let l := ([([48, 48] : List UInt8)] : List t5y);
 cond (decide ((List.length lrSplit + List.length l) * 16 ≤ Q8))
 (let l2 := (lrSplit ++ l);
 cond (decide (0 ≤ (3 : Int)) && decide ((3 : Int) ≤ (List.length l2 : Int)))
 (let l3 := (List.take (Int.toNat (3 : Int)) l2);
 zqgx (fun t2 t3 =>
 k t2 t3) (fun n =>
 let t := (decide (n ≤ (86400 : Int)));
 k n t) (0 : Int) (List.length l3 : Int) (0 : Int) l3)
 none)
 none)))
def zqh0 : zqgo := hid zqgz
noncomputable def zqh1 : En := ⟨151, .spec (sg [v27y] [] [v19y, v24y] [] zqh0), Q9e mixed (X := ⟨look tab, gam zqgp, false, true, false, false, [], none, 0, []⟩) Qd zqgp rfl [zqgy] [.tmp 2, .tmp 3] Tryz.func151 (by kernel_rfl) fun _ _ => by kernel_rfl⟩
abbrev zqh2 := {β : Type} → Int → t7y → (zqg → t7y → Option β) → Option β
noncomputable def zqh3 : List En := [zq8t, zqfj, zq1j, zqeo, zq1n]
abbrev zqh4 (β : Type) := t7y → t4y → t3y → t1y → t4y → t3y → t1y → t2y → t2y → Option β
abbrev zqh5 (β : Type) := Int → t7y → t4y → t3y → t1y → t4y → t3y → t1y → t2y → t2y → Option β
noncomputable def zqh6 : Pc := ⟨69, 1, Q4 58 (Q3 Tryz.f15), ⟨1, [0, 4, 5, 6], [v23y, v30y, v33y, v19y], l71y⟩, [(.exit 0, ⟨1, [4, 5], [v30y, v33y], l71y⟩)]⟩
abbrev zqh7 (β : Type) := Int → t7y → t4y → t3y → t1y → t5y → t4y → t3y → t1y → t2y → t2y → (List zq2) → (List t0y) → Option β
abbrev zqh8 (β : Type) := Int → Int → t7y → t4y → t3y → t1y → t5y → t4y → t3y → t1y → t2y → t2y → (List zq2) → (List t0y) → Option β
noncomputable def zqh9 : Pc := ⟨69, 1, Q4 202 (Qy zqh6.c), ⟨1, [0, 4, 5, 6, 7, 8], [v23y, v30y, v33y, v19y, v47y, v19y], l65y⟩, [(.exit 2, ⟨1, [0, 4, 5, 6, 7], [v23y, v30y, v33y, v19y, v47y], l65y⟩)]⟩
abbrev zqha (β : Type) := Int → t7y → t4y → t3y → t1y → t5y → t4y → t3y → t1y → t2y → t2y → (List zq2) → (List t0y) → Option β
abbrev zqhb (β : Type) := Int → Int → t7y → t4y → t3y → t1y → t5y → t4y → t3y → t1y → t2y → t2y → (List zq2) → (List t0y) → Option β
noncomputable def zqhc : Pc := ⟨69, 1, Q4 410 (Qy zqh6.c), ⟨1, [0, 4, 5, 6, 7, 9], [v23y, v30y, v33y, v19y, v47y, v19y], l65y⟩, [(.exit 4, ⟨1, [0, 4, 5, 6, 7], [v23y, v30y, v33y, v19y, v47y], l65y⟩)]⟩
def zqhd {β : Type} (rec : zqh8 β) (k1 : zqh7 β) : zqh8 β := fun i_ k_ d c c2 c3 s b4_ b5_ b6_ b7_ b8_ b9_ b10_ =>
 cond (decide ((0 : Int) < k_))
 (zq1m  (fun lrnames =>
 cond (decide (0 ≤ (List.length b9_ : Int)) && decide ((List.length b9_ : Int) < (List.length lrnames : Int)))
 (zqfi c c2 c3 (List.getD lrnames (Int.toNat (List.length b9_ : Int)) ([] : List UInt8)) d (fun rLayer mrLayer =>
 let l := ([rLayer] : List zq2);
 cond (decide ((List.length b9_ + List.length l) * 120 ≤ Q8))
 (let l2 := (b9_ ++ l);
 let k_2 := (IntKind.i64.wrap (k_ - (1 : Int)));
 rec i_ k_2 mrLayer c c2 c3 s b4_ b5_ b6_ b7_ b8_ l2 b10_)
 none))
 none))
 (k1 i_ d c c2 c3 s b4_ b5_ b6_ b7_ b8_ b9_ b10_)
def zqhe (m : Nat) {β : Type} (k1 : zqh7 β) : zqh8 β := lp14 (fun r => zqhd r k1) none m
theorem zqhf {β : Type} (i : Nat) (k1) : zqhe (β := β) (i + 1) k1 = zqhd (zqhe i k1) k1 := rfl
def zqhg {β : Type} := hid (zqhe (β := β) fuel)
noncomputable def zqhh : Pb := ⟨202, zqh9, fun _ => zqhg, pl (p := zqh9) zqh3 [] (g := fun i _ => zqhe i) (by kernel_rfl) rfl (by kernel_rfl) (fun _ _ => rfl) fun _ _ _ _ => by kernel_rfl⟩
def zqhi {β : Type} (rec : zqhb β) (k1 : zqha β) : zqhb β := fun i_ k_ d c c2 c3 s b4_ b5_ b6_ b7_ b8_ b9_ b10_ =>
 cond (decide ((0 : Int) < k_))
 (zq8s c c2 c3 d (fun rEdit mrEdit =>
 let l := ([rEdit] : List t0y);
 cond (decide ((List.length b10_ + List.length l) * 40 ≤ Q8))
 (let l2 := (b10_ ++ l);
 let k_2 := (IntKind.i64.wrap (k_ - (1 : Int)));
 rec i_ k_2 mrEdit c c2 c3 s b4_ b5_ b6_ b7_ b8_ b9_ l2)
 none))
 (k1 i_ d c c2 c3 s b4_ b5_ b6_ b7_ b8_ b9_ b10_)
def zqhj (m : Nat) {β : Type} (k1 : zqha β) : zqhb β := lp14 (fun r => zqhi r k1) none m
theorem zqhk {β : Type} (i : Nat) (k1) : zqhj (β := β) (i + 1) k1 = zqhi (zqhj i k1) k1 := rfl
def zqhl {β : Type} := hid (zqhj (β := β) fuel)
noncomputable def zqhm : Pb := ⟨410, zqhc, fun _ => zqhl, pl (p := zqhc) zqh3 [] (g := fun i _ => zqhj i) (by kernel_rfl) rfl (by kernel_rfl) (fun _ _ => rfl) fun _ _ _ _ => by kernel_rfl⟩
def zqhn {β : Type} (rec : zqh5 β) (k1 : zqh4 β) : zqh5 β := fun i_ d c c2 c3 b3_ b4_ b5_ b6_ b7_ =>
 cond (decide ((0 : Int) < i_))
 (let l := ([([102, 105, 114, 115, 116] : List UInt8), ([115, 101, 99, 111, 110, 100] : List UInt8), ([116, 104, 105, 114, 100] : List UInt8)] : List t5y);
 cond (decide (0 ≤ (Int.tmod (List.length b7_ : Int) (3 : Int))) && decide ((Int.tmod (List.length b7_ : Int) (3 : Int)) < (List.length l : Int)))
 (zq1i (4 : Int) d (fun rNext mrNext =>
 zqhg (fun i_2 d2 c4 c5 c6 s b4_2 b5_2 b6_2 b7_2 b8_ b9_ b10_ =>
 zq1i (4 : Int) d2 (fun rNext2 mrNext2 =>
 zqhl (fun i_3 d3 c7 c8 c9 s2 b4_3 b5_3 b6_3 b7_3 b8_2 b9_2 b10_2 =>
 let l2 := ([(s2, (b9_2, b10_2))] : List zq4);
 cond (decide ((List.length b8_2 + List.length l2) * 64 ≤ Q8))
 (let l3 := (b8_2 ++ l2);
 let i_4 := (IntKind.i64.wrap (i_3 - (1 : Int)));
 rec i_4 d3 c7 c8 c9 b4_3 b5_3 b6_3 b7_3 l3)
 none) i_2 rNext2 mrNext2 c4 c5 c6 s b4_2 b5_2 b6_2 b7_2 b8_ b9_ b10_)) i_ rNext mrNext c c2 c3 (List.getD l (Int.toNat (Int.tmod (List.length b7_ : Int) (3 : Int))) ([] : List UInt8)) b3_ b4_ b5_ b6_ b7_ ([] : List zq2) ([] : List t0y)))
 none)
 (k1 d c c2 c3 b3_ b4_ b5_ b6_ b7_)
def zqho (m : Nat) {β : Type} (k1 : zqh4 β) : zqh5 β := lp10 (fun r => zqhn r k1) none m
theorem zqhp {β : Type} (i : Nat) (k1) : zqho (β := β) (i + 1) k1 = zqhn (zqho i k1) k1 := rfl
def zqhq {β : Type} := hid (zqho (β := β) fuel)
noncomputable def zqhr : Pb := ⟨58, zqh6, fun _ => zqhq, pl (p := zqh6) zqh3 [zqhh, zqhm] (g := fun i _ => zqho i) (by kernel_rfl) rfl (by kernel_rfl) (fun _ _ => rfl) fun _ _ _ _ => by kernel_rfl⟩
def zqhs : zqh2 := fun n d k =>
 zqen d (fun rStaff rStaff2 rStaff3 mrStaff lrStaff =>
 zq1i n mrStaff (fun rNext mrNext =>
 let i_ := (IntKind.i64.wrap ((1 : Int) + rNext));
 zqhq (fun b0_ c c2 c3 b3_ b4_ b5_ b6_ b7_ =>
 k (c, (c2, (c3, b7_))) b0_) i_ mrNext rStaff rStaff2 rStaff3 ([] : List zqa) ([] : List zqe) ([] : List zq0) ([] : List zq4) lrStaff))
def zqht : zqh2 := hid zqhs
noncomputable def zqhu : En := ⟨15, .spec (sg [v23y, v19y] [b20y] [v42y] [b20y] zqht), pf zqh3 [zqhr] [.cell 4 27] Tryz.func15 (by kernel_rfl) fun _ _ => by kernel_rfl⟩
abbrev zqhv := {β : Type} → zqg → t5y → (Int → Bool → Option β) → Option β
def zqhw : zqhv := fun c name k =>
 zq25 c.2.1 name (fun rPerson mrPerson =>
 let t := (if rPerson > (0 : Int) then rPerson else (0 : Int));
 let t2 := (decide ((0 : Int) ≤ rPerson));
 k t t2)
def zqhx : zqhv := hid zqhw
noncomputable def zqhy : En := ⟨16, .spec (sg [v42y, v27y] [] [v19y, v24y] [] zqhx), pf [zq27] [] [.tmp 4, .tmp 5] Tryz.func16 (by kernel_rfl) fun _ _ => by kernel_rfl⟩
abbrev zqhz := {β : Type} → zqg → t5y → (Int → Bool → Option β) → Option β
def zqi0 : zqhz := fun c name k =>
 zq2p c.2.2.2 name (fun rSchedule mrSchedule =>
 let t := (if rSchedule > (0 : Int) then rSchedule else (0 : Int));
 let t2 := (decide ((0 : Int) ≤ rSchedule));
 k t t2)
def zqi1 : zqhz := hid zqi0
noncomputable def zqi2 : En := ⟨17, .spec (sg [v42y, v27y] [] [v19y, v24y] [] zqi1), pf [zq2r] [] [.tmp 4, .tmp 5] Tryz.func17 (by kernel_rfl) fun _ _ => by kernel_rfl⟩
abbrev zqi3 := {β : Type} → Int → (Bool → Option β) → Option β
def zqi4 : zqi3 := fun n k =>
 zqfv n (fun rDateOf rDateOf2 =>
 let t := (decide (rDateOf2 = (0 : Int)));
 k t)
def zqi5 : zqi3 := hid zqi4
noncomputable def zqi6 : En := ⟨57, .spec (sg [v19y] [] [v24y] [] zqi5), pf [zqfw] [] [.tmp 2] Tryz.func57 (by kernel_rfl) fun _ _ => by kernel_rfl⟩
abbrev zqi7 := {β : Type} → zqg → t0y → (Int → Option β) → Option β
noncomputable def zqi8 : List En := [zqi6, zq4j, zq2z]
abbrev zqi9 (β : Type) := Int → Option β
abbrev zqia (β : Type) := Unit → Option β
abbrev zqib (β : Type) := Bool → t0y → Option β
noncomputable def zqic : Pc := ⟨83, 0, Q4 14847 (Q3 Tryz.f62), ⟨0, [3, 61], [v23y, v24y], [b22y]⟩, [(.ret, ⟨0, [4], [v19y], []⟩), (.normal, ⟨0, [], [], []⟩)]⟩
abbrev zqid (β : Type) := Int → Option β
abbrev zqie (β : Type) := Unit → Option β
abbrev zqif (β : Type) := Bool → t0y → Option β
noncomputable def zqig : Pc := ⟨83, 0, Q4 3711 (Q3 Tryz.f62), ⟨0, [3, 50], [v23y, v24y], [b22y]⟩, [(.ret, ⟨0, [4], [v19y], []⟩), (.normal, ⟨0, [], [], []⟩)]⟩
abbrev zqih (β : Type) := Int → Option β
abbrev zqii (β : Type) := Unit → Option β
abbrev zqij (β : Type) := Bool → t0y → Option β
noncomputable def zqik : Pc := ⟨83, 0, Q4 927 (Q3 Tryz.f62), ⟨0, [3, 41], [v23y, v24y], [b22y]⟩, [(.ret, ⟨0, [4], [v19y], []⟩), (.normal, ⟨0, [], [], []⟩)]⟩
abbrev zqil (β : Type) := Int → Option β
abbrev zqim (β : Type) := Unit → Option β
abbrev zqin (β : Type) := Bool → t0y → Option β
noncomputable def zqio : Pc := ⟨83, 0, Q4 231 (Q3 Tryz.f62), ⟨0, [3, 14], [v23y, v24y], [b22y]⟩, [(.ret, ⟨0, [4], [v19y], []⟩), (.normal, ⟨0, [], [], []⟩)]⟩
abbrev zqip (β : Type) := Bool → t0y → Option β
abbrev zqiq (β : Type) := Int → Bool → t0y → Option β
noncomputable def zqir : Pc := ⟨83, 0, Q4 461 (Q3 Tryz.f62), ⟨0, [3, 5, 14], [v23y, v19y, v24y], [b22y]⟩, [(.normal, ⟨0, [3, 14], [v23y, v24y], [b22y]⟩)]⟩
def zqis {β : Type} (k1 : zqi9 β) (k2 : zqia β) : zqib β := fun t61 x =>
 cond t61
 (k1 (1 : Int))
 (let t := (decide (x.2.2.2.2 ≤ x.2.2.2.1));
 cond t
 (k1 (6 : Int))
 (k2 ()))
def zqit {β : Type} := hid (zqis (β := β))
noncomputable def zqiu : Pb := ⟨14847, zqic, fun _ => zqit, pe (p := zqic) zqi8 [] 14847 (g := fun _ => zqis) (by kernel_rfl) fun _ _ => by kernel_rfl⟩
def zqiv {β : Type} (k1 : zqid β) (k2 : zqie β) : zqif β := fun t50 x =>
 cond t50
 (k1 (4 : Int))
 (cond (decide (x.2.2.2.1 < (0 : Int)))
 (zqit (fun t4 =>
 k1 t4) (fun _ =>
 k2 ()) true x)
 (cond (decide (x.2.2.2.2 < (0 : Int)))
 (zqit (fun t4 =>
 k1 t4) (fun _ =>
 k2 ()) true x)
 (zqi5 (IntKind.i64.wrap (Int.tdiv x.2.2.2.2 (86400 : Int))) (fun rday =>
 zqit (fun t4 =>
 k1 t4) (fun _ =>
 k2 ()) (!rday) x))))
def zqiw {β : Type} := hid (zqiv (β := β))
noncomputable def zqix : Pb := ⟨3711, zqig, fun _ => zqiw, pe (p := zqig) zqi8 [zqiu] 3711 (g := fun _ => zqiv) (by kernel_rfl) fun _ _ => by kernel_rfl⟩
def zqiy {β : Type} (k1 : zqih β) (k2 : zqii β) : zqij β := fun t41 x =>
 cond t41
 (k1 (1 : Int))
 (cond (decide (x.1 = (2 : Int)))
 (let t := (decide (x.2.1 = x.2.2.1));
 zqiw (fun t4 =>
 k1 t4) (fun _ =>
 k2 ()) t x)
 (zqiw (fun t4 =>
 k1 t4) (fun _ =>
 k2 ()) false x))
def zqiz {β : Type} := hid (zqiy (β := β))
noncomputable def zqj0 : Pb := ⟨927, zqik, fun _ => zqiz, pe (p := zqik) zqi8 [zqix] 927 (g := fun _ => zqiy) (by kernel_rfl) fun _ _ => by kernel_rfl⟩
def zqj1 {β : Type} (k1 : zqil β) (k2 : zqim β) : zqin β := fun t14 x =>
 cond t14
 (k1 (3 : Int))
 (cond (!decide (x.1 = (2 : Int)))
 (let t := (!decide (x.2.2.1 = (0 : Int)));
 zqiz (fun t4 =>
 k1 t4) (fun _ =>
 k2 ()) t x)
 (zqiz (fun t4 =>
 k1 t4) (fun _ =>
 k2 ()) false x))
def zqj2 {β : Type} := hid (zqj1 (β := β))
noncomputable def zqj3 : Pb := ⟨231, zqio, fun _ => zqj2, pe (p := zqio) zqi8 [zqj0] 231 (g := fun _ => zqj1) (by kernel_rfl) fun _ _ => by kernel_rfl⟩
def zqj4 {β : Type} (k1 : zqip β) : zqiq β := fun people t14 x =>
 cond t14
 (k1 t14 x)
 (cond (decide (x.1 = (2 : Int)))
 (zq2y x.2.2.1 people (fun rindex =>
 k1 (!rindex) x))
 (k1 false x))
def zqj5 {β : Type} := hid (zqj4 (β := β))
noncomputable def zqj6 : Pb := ⟨461, zqir, fun _ => zqj5, pe (p := zqir) zqi8 [] 461 (g := fun _ => zqj4) (by kernel_rfl) fun _ _ => by kernel_rfl⟩
def zqj7 : zqi7 := fun c x k =>
 zq4i x.1 (0 : Int) (2 : Int) (fun rin =>
 cond (!rin)
 (k (1 : Int))
 (zq2y x.2.1 (List.length c.2.1 : Int) (fun rindex =>
 cond (!rindex)
 (cond (decide (x.1 = (1 : Int)))
 (let t := (!(decide (x.2.1 = (-1 : Int))));
 zqj5 (fun t14 x2 =>
 zqj2 (fun t4 =>
 k t4) (fun _ =>
 k (0 : Int)) t14 x2) (List.length c.2.1 : Int) t x)
 (zqj5 (fun t14 x2 =>
 zqj2 (fun t4 =>
 k t4) (fun _ =>
 k (0 : Int)) t14 x2) (List.length c.2.1 : Int) true x))
 (zqj5 (fun t14 x2 =>
 zqj2 (fun t4 =>
 k t4) (fun _ =>
 k (0 : Int)) t14 x2) (List.length c.2.1 : Int) false x))))
def zqj8 : zqi7 := hid zqj7
noncomputable def zqj9 : En := ⟨62, .spec (sg [v42y, v54y] [] [v19y] [] zqj8), pf zqi8 [zqj3, zqj6] [.tmp 4] Tryz.func62 (by kernel_rfl) fun _ _ => by kernel_rfl⟩
abbrev zqja := {β : Type} → t8y → (Bool → Option β) → Option β
noncomputable def zqjb : List En := [zqg0, zqac]
abbrev zqjc (β : Type) := Bool → Option β
abbrev zqjd (β : Type) := Unit → Option β
abbrev zqje (β : Type) := t8y → Int → Int → zqc → Option β
noncomputable def zqjf : Pc := ⟨80, 0, Q4 1018 (Q3 Tryz.f65), ⟨0, [3, 59, 60, 61], [v23y, v26y, v19y, v19y], [.cells 156 [.data zqd]]⟩, [(.ret, ⟨0, [2], [v24y], []⟩), (.exit 0, ⟨0, [], [], []⟩)]⟩
abbrev zqjg (β : Type) := Bool → Option β
abbrev zqjh (β : Type) := t8y → zqc → Option β
noncomputable def zqji : Pc := ⟨80, 0, Q4 127 (Q3 Tryz.f65), ⟨0, [0, 3], [v26y, v23y], [.cells 156 [.data zqd]]⟩, [(.ret, ⟨0, [2], [v24y], []⟩)]⟩
abbrev zqjj (β : Type) := Bool → Option β
abbrev zqjk (β : Type) := t8y → zqc → Option β
noncomputable def zqjl : Pc := ⟨80, 0, Q4 63 (Q3 Tryz.f65), ⟨0, [0, 3], [v26y, v23y], [.cells 156 [.data zqd]]⟩, [(.ret, ⟨0, [2], [v24y], []⟩)]⟩
def zqjm {β : Type} (rec : zqje β) (k1 : zqjc β) (k2 : zqjd β) : zqje β := fun t59 t60 t61 f =>
 cond (decide (t61 < t60))
 (cond (decide (0 ≤ t61) && decide (t61 < (List.length t59 : Int)))
 (let e := List.getD t59 (Int.toNat t61) ((0 : Int), (([] : List UInt8), (0 : Int)));
 cond (decide (0 ≤ (if (IntKind.i64.wrap ((List.length f.2.1 : Int) - (1 : Int))) < t61 then (IntKind.i64.wrap ((List.length f.2.1 : Int) - (1 : Int))) else t61)) && decide ((if (IntKind.i64.wrap ((List.length f.2.1 : Int) - (1 : Int))) < t61 then (IntKind.i64.wrap ((List.length f.2.1 : Int) - (1 : Int))) else t61) < (List.length f.2.1 : Int)))
 (let e2 := List.getD f.2.1 (Int.toNat (if (IntKind.i64.wrap ((List.length f.2.1 : Int) - (1 : Int))) < t61 then (IntKind.i64.wrap ((List.length f.2.1 : Int) - (1 : Int))) else t61)) (0 : Int);
 cond (!decide (e.1 = e2))
 (k1 false)
 (rec t59 t60 (IntKind.i64.wrap (t61 + (1 : Int))) f))
 none)
 none)
 (k2 ())
def zqjn (m : Nat) {β : Type} (k1 : zqjc β) (k2 : zqjd β) : zqje β := lp4 (fun r => zqjm r k1 k2) none m
theorem zqjo {β : Type} (i : Nat) (k1 k2) : zqjn (β := β) (i + 1) k1 k2 = zqjm (zqjn i k1 k2) k1 k2 := rfl
def zqjp {β : Type} := hid (zqjn (β := β) fuel)
noncomputable def zqjq : Pb := ⟨1018, zqjf, fun _ => zqjp, pl (p := zqjf) zqjb [] (g := fun i _ => zqjn i) (by kernel_rfl) rfl (by kernel_rfl) (fun _ _ => rfl) fun _ _ _ _ => by kernel_rfl⟩
def zqjr {β : Type} (k1 : zqjg β) : zqjh β := fun l f =>
 cond (decide (0 ≤ (1 : Int)) && (decide ((1 : Int) ≤ (List.length l : Int)) && decide ((List.length l : Int) ≤ (List.length l : Int))))
 (zqjp (fun t2 =>
 k1 t2) (fun _ =>
 k1 true) (List.drop (Int.toNat (1 : Int)) (List.take (Int.toNat (List.length l : Int)) l)) (List.length (List.drop (Int.toNat (1 : Int)) (List.take (Int.toNat (List.length l : Int)) l)) : Int) (0 : Int) f)
 none
def zqjs {β : Type} := hid (zqjr (β := β))
noncomputable def zqjt : Pb := ⟨127, zqji, fun _ => zqjs, pe (p := zqji) zqjb [zqjq] 127 (g := fun _ => zqjr) (by kernel_rfl) fun _ _ => by kernel_rfl⟩
def zqju {β : Type} (k1 : zqjj β) : zqjk β := fun l f =>
 cond (decide ((IntKind.i64.wrap ((List.length l : Int) - (1 : Int))) < (List.length f.2.1 : Int)))
 (k1 false)
 (cond (decide ((List.length f.2.1 : Int) < (IntKind.i64.wrap ((List.length l : Int) - (1 : Int)))))
 (cond (!f.2.2)
 (k1 false)
 (zqjs (fun t2 =>
 k1 t2) l f))
 (zqjs (fun t2 =>
 k1 t2) l f))
def zqjv {β : Type} := hid (zqju (β := β))
noncomputable def zqjw : Pb := ⟨63, zqjl, fun _ => zqjv, pe (p := zqjl) zqjb [zqjt] 63 (g := fun _ => zqju) (by kernel_rfl) fun _ _ => by kernel_rfl⟩
def zqjx : zqja := fun l k =>
 cond (decide ((List.length l : Int) = (0 : Int)))
 (k false)
 (cond (decide (0 ≤ (0 : Int)) && decide ((0 : Int) < (List.length l : Int)))
 (let e := List.getD l (Int.toNat (0 : Int)) ((0 : Int), (([] : List UInt8), (0 : Int)));
 cond (!decide (e.1 = (0 : Int)))
 (k false)
 (cond (decide (0 ≤ (0 : Int)) && decide ((0 : Int) < (List.length l : Int)))
 (let e2 := List.getD l (Int.toNat (0 : Int)) ((0 : Int), (([] : List UInt8), (0 : Int)));
 zqfz e2.2.1 (fun rforms rforms2 =>
 cond (!rforms2)
 (k false)
 (cond (decide (rforms.1 = ([112, 101, 114, 115, 111, 110] : List UInt8)))
 (zqab l (fun roptions roptions2 =>
 cond (!roptions2)
 (k false)
 (zqjv (fun t2 =>
 k t2) roptions rforms)))
 (zqjv (fun t2 =>
 k t2) l rforms))))
 none))
 none)
def zqjy : zqja := hid zqjx
noncomputable def zqjz : En := ⟨65, .spec (sg [v26y] [] [v24y] [] zqjy), pf zqjb [zqjw] [.tmp 2] Tryz.func65 (by kernel_rfl) fun _ _ => by kernel_rfl⟩
abbrev zqk0 := {β : Type} → t8y → t4y → t3y → t1y → t2y → (Int → t4y → t3y → t1y → t2y → Option β) → Option β
noncomputable def zqk1 : List En := [zq69, zq6d]
abbrev zqk2 (β : Type) := Bool → t4y → t3y → t1y → t2y → t5y → Int → Int → Int → Bool → t10y → Option β
abbrev zqk3 (β : Type) := t8y → Bool → Int → t4y → t3y → t1y → t2y → t5y → Int → Int → Int → Bool → t10y → Option β
noncomputable def zqk4 : Pc := ⟨76, 5, Q4 122 (Q3 Tryz.f93), ⟨5, [0, 1, 6, 7, 8], [v23y, v26y, v24y, (false, [.ptr 5 0]), v19y], l72y⟩, [(.exit 0, ⟨5, [0, 6, 7], [v23y, v24y, (false, [.ptr 5 0])], l72y⟩)]⟩
def zqk5 {β : Type} (rec : zqk3 β) (k1 : zqk2 β) : zqk3 β := fun l ok i_ b1_ b2_ b3_ b4_ p_ p_2 p_3 p_4 p_5 b6_ =>
 cond (decide (i_ < (List.length l : Int)))
 (cond (decide (0 ≤ i_) && decide (i_ < (List.length l : Int)))
 (let e := List.getD l (Int.toNat i_) ((0 : Int), (([] : List UInt8), (0 : Int)));
 let t := (decide (e.2.1 = ([119, 101, 101, 107] : List UInt8)));
 cond t
 (cond (decide (0 ≤ (IntKind.i64.wrap (i_ + (1 : Int)))) && decide ((IntKind.i64.wrap (i_ + (1 : Int))) < (List.length l : Int)))
 (let e2 := List.getD l (Int.toNat (IntKind.i64.wrap (i_ + (1 : Int)))) ((0 : Int), (([] : List UInt8), (0 : Int)));
 let i_2 := (IntKind.i64.wrap (i_ + (1 : Int)));
 rec l ok i_2 b1_ b2_ b3_ b4_ p_ p_2 (IntKind.i64.wrap ((3600 : Int) * e2.2.2)) p_4 p_5 b6_)
 none)
 (let t2 := (decide (e.2.1 = ([114, 101, 115, 116] : List UInt8)));
 cond t2
 (cond (decide (0 ≤ (IntKind.i64.wrap (i_ + (1 : Int)))) && decide ((IntKind.i64.wrap (i_ + (1 : Int))) < (List.length l : Int)))
 (let e2 := List.getD l (Int.toNat (IntKind.i64.wrap (i_ + (1 : Int)))) ((0 : Int), (([] : List UInt8), (0 : Int)));
 let i_2 := (IntKind.i64.wrap (i_ + (1 : Int)));
 rec l ok i_2 b1_ b2_ b3_ b4_ p_ p_2 p_3 (IntKind.i64.wrap ((3600 : Int) * e2.2.2)) p_5 b6_)
 none)
 (let t3 := (decide (e.2.1 = ([99, 111, 110, 115, 101, 110, 116] : List UInt8)));
 cond t3
 (let i_2 := (IntKind.i64.wrap (i_ + (1 : Int)));
 rec l ok i_2 b1_ b2_ b3_ b4_ p_ p_2 p_3 p_4 true b6_)
 (let i_2 := (IntKind.i64.wrap (i_ + (1 : Int)));
 rec l ok i_2 b1_ b2_ b3_ b4_ p_ p_2 p_3 p_4 p_5 b6_))))
 none)
 (k1 ok b1_ b2_ b3_ b4_ p_ p_2 p_3 p_4 p_5 b6_)
def zqk6 (m : Nat) {β : Type} (k1 : zqk2 β) : zqk3 β := lp13 (fun r => zqk5 r k1) none m
theorem zqk7 {β : Type} (i : Nat) (k1) : zqk6 (β := β) (i + 1) k1 = zqk5 (zqk6 i k1) k1 := rfl
def zqk8 {β : Type} := hid (zqk6 (β := β) fuel)
noncomputable def zqk9 : Pb := ⟨122, zqk4, fun _ => zqk8, Q88 mixed (X := ⟨look tab, gam zqk1, false, false, false, false, q83y, none, 0, []⟩) (p := zqk4) Qd zqk1 rfl [] (g := fun i _ => zqk6 i) (by kernel_rfl) rfl (by kernel_rfl) (fun _ _ => rfl) fun _ _ _ _ => by kernel_rfl⟩
def zqka : zqk0 := fun l b1_ b2_ b3_ b4_ k =>
 cond (decide (0 ≤ (2 : Int)) && decide ((2 : Int) < (List.length l : Int)))
 (let e := List.getD l (Int.toNat (2 : Int)) ((0 : Int), (([] : List UInt8), (0 : Int)));
 zq66 b1_ e.2.1 (fun rZone mrZone =>
 let t := (if rZone > (0 : Int) then rZone else (0 : Int));
 let t2 := (decide ((0 : Int) ≤ rZone));
 cond (decide (0 ≤ (1 : Int)) && decide ((1 : Int) < (List.length l : Int)))
 (let e2 := List.getD l (Int.toNat (1 : Int)) ((0 : Int), (([] : List UInt8), (0 : Int)));
 zqk8 (fun ok b1_2 b2_2 b3_2 b4_2 p_ p_2 p_3 p_4 p_5 b6_ =>
 zq6c ok (fun rfound =>
 cond (!decide (rfound = (0 : Int)))
 (k rfound b1_2 b2_2 b3_2 b4_2)
 (let l2 := ([(p_, (p_2, (b6_, (p_3, (p_4, p_5)))))] : List zqe);
 cond (true && decide ((List.length b2_2 + List.length l2) * 72 ≤ Q8))
 (let l3 := (b2_2 ++ l2);
 k (0 : Int) b1_2 l3 b3_2 b4_2)
 none))) l t2 (3 : Int) b1_ b2_ b3_ b4_ e2.2.1 t (0 : Int) (0 : Int) false ([] : List t6y))
 none))
 none
def zqkb : zqk0 := hid zqka
theorem zqkc : SpecOkB Tryz.prog 93 (sg [v23y, v26y] l63y [v19y] l63y zqkb) := Q1r mixed (X := ⟨look tab, gam zqk1, false, false, false, false, q83y, none, 0, []⟩) Qd zqk1 rfl [zqk9] [.tmp 4] Tryz.func93 (by kernel_rfl) fun _ _ => by kernel_rfl
noncomputable def zqkd : En := .hand zqkc rfl (by kernel_rfl)
end
end Go.Lift
namespace Go.Lift
open Go.Proofs
noncomputable section
variable [Sl]
set_option maxRecDepth 100000
set_option linter.unusedVariables false
abbrev zqke := {β : Type} → t8y → t4y → t3y → t1y → t2y → (Int → t4y → t3y → t1y → t2y → Option β) → Option β
def zqkf : zqke := fun l b1_ b2_ b3_ b4_ k =>
 cond (decide (0 ≤ (2 : Int)) && decide ((2 : Int) < (List.length l : Int)))
 (let e := List.getD l (Int.toNat (2 : Int)) ((0 : Int), (([] : List UInt8), (0 : Int)));
 zq66 b1_ e.2.1 (fun rZone mrZone =>
 let t := (if rZone > (0 : Int) then rZone else (0 : Int));
 let t2 := (decide ((0 : Int) ≤ rZone));
 zq6c t2 (fun rfound =>
 cond (!decide (rfound = (0 : Int)))
 (k rfound b1_ b2_ b3_ b4_)
 (cond (decide (0 ≤ (1 : Int)) && decide ((1 : Int) < (List.length l : Int)))
 (let e2 := List.getD l (Int.toNat (1 : Int)) ((0 : Int), (([] : List UInt8), (0 : Int)));
 let l2 := ([(e2.2.1, (t, ([] : List Int)))] : List zq0);
 cond (true && decide ((List.length b3_ + List.length l2) * 48 ≤ Q8))
 (let l3 := (b3_ ++ l2);
 k (0 : Int) b1_ b2_ l3 b4_)
 none)
 none))))
 none
def zqkg : zqke := hid zqkf
theorem zqkh : SpecOkB Tryz.prog 95 (sg [v23y, v26y] l63y [v19y] l63y zqkg) := Q1r mixed (X := ⟨look tab, gam [zq69, zq6d], false, false, false, false, q83y, none, 0, []⟩) Qd [zq69, zq6d] rfl [] [.tmp 4] Tryz.func95 (by kernel_rfl) fun _ _ => by kernel_rfl
noncomputable def zqki : En := .hand zqkh rfl (by kernel_rfl)
abbrev zqkj := {β : Type} → t8y → t4y → t3y → t1y → t2y → (Int → t4y → t3y → t1y → t2y → Option β) → Option β
def zqkk : zqkj := fun l b1_ b2_ b3_ b4_ k =>
 let l2 := ([([104, 111, 117, 114, 115] : List UInt8), ([100, 97, 121, 115] : List UInt8), ([119, 101, 101, 107, 115] : List UInt8)] : List t5y);
 cond (decide (0 ≤ (6 : Int)) && decide ((6 : Int) < (List.length l : Int)))
 (let e := List.getD l (Int.toNat (6 : Int)) ((0 : Int), (([] : List UInt8), (0 : Int)));
 zq6t l2 e.2.1 (fun rIndexstringstring =>
 cond (decide (rIndexstringstring < (0 : Int)))
 (k (2 : Int) b1_ b2_ b3_ b4_)
 (cond (decide ((List.length b4_ : Int) = (0 : Int)))
 (k (9 : Int) b1_ b2_ b3_ b4_)
 (let i_ := (IntKind.i64.wrap ((List.length b4_ : Int) - (1 : Int)));
 cond (decide (0 ≤ i_) && decide (i_ < (List.length b4_ : Int)))
 (cond (decide (0 ≤ (2 : Int)) && decide ((2 : Int) < (List.length l : Int)))
 (let e2 := List.getD l (Int.toNat (2 : Int)) ((0 : Int), (([] : List UInt8), (0 : Int)));
 zq66 b1_ e2.2.1 (fun rZone mrZone =>
 let t := (if rZone > (0 : Int) then rZone else (0 : Int));
 let t2 := (decide ((0 : Int) ≤ rZone));
 zq6c t2 (fun rfound =>
 cond (!decide (rfound = (0 : Int)))
 (k rfound b1_ b2_ b3_ b4_)
 (let e3 := List.getD b4_ (Int.toNat i_) (([] : List UInt8), (([] : List zq2), ([] : List t0y)));
 cond (decide (0 ≤ (1 : Int)) && decide ((1 : Int) < (List.length l : Int)))
 (let e4 := List.getD l (Int.toNat (1 : Int)) ((0 : Int), (([] : List UInt8), (0 : Int)));
 cond (decide (0 ≤ (3 : Int)) && decide ((3 : Int) < (List.length l : Int)))
 (let e5 := List.getD l (Int.toNat (3 : Int)) ((0 : Int), (([] : List UInt8), (0 : Int)));
 cond (decide (0 ≤ (4 : Int)) && decide ((4 : Int) < (List.length l : Int)))
 (let e6 := List.getD l (Int.toNat (4 : Int)) ((0 : Int), (([] : List UInt8), (0 : Int)));
 cond (decide (0 ≤ (5 : Int)) && decide ((5 : Int) < (List.length l : Int)))
 (let e7 := List.getD l (Int.toNat (5 : Int)) ((0 : Int), (([] : List UInt8), (0 : Int)));
 let l3 := ([(e4.2.1, (t, ((e5.2.2, e6.2.2), (rIndexstringstring, (e7.2.2, (([] : List Int), (([] : List t6y), ((0 : Int), (0 : Int)))))))))] : List zq2);
 let l4 := ((List.getD b4_ (Int.toNat i_) (([] : List UInt8), (([] : List zq2), ([] : List t0y)))).2).1;
 cond (true && decide ((List.length l4 + List.length l3) * 120 ≤ Q8))
 (let l5 := (l4 ++ l3);
 let e8 := List.getD b4_ (Int.toNat i_) (([] : List UInt8), (([] : List zq2), ([] : List t0y)));
 let l6 := List.set b4_ (Int.toNat i_) (e8.1, (l5, e8.2.2));
 cond (decide ((Int.toNat i_) = (Int.toNat i_)) && (true && true))
 (k (0 : Int) b1_ b2_ b3_ l6)
 none)
 none)
 none)
 none)
 none)
 none))))
 none)
 none))))
 none
def zqkl : zqkj := hid zqkk
theorem zqkm : SpecOkB Tryz.prog 98 (sg [v23y, v26y] l63y [v19y] l63y zqkl) := Q1r mixed (X := ⟨look tab, gam [zq69, zq6d, zq6v, zq6w, zq6u], false, false, false, false, q83y, none, 0, []⟩) Qd [zq69, zq6d, zq6v, zq6w, zq6u] rfl [] [.tmp 4] Tryz.func98 (by kernel_rfl) fun _ _ => by kernel_rfl
noncomputable def zqkn : En := .hand zqkm rfl (by kernel_rfl)
abbrev zqko := {β : Type} → t8y → t4y → t3y → t1y → t2y → (Int → t4y → t3y → t1y → t2y → Option β) → Option β
noncomputable def zqkp : List En := [zqhy, zq6y, zq6d, zq6z]
abbrev zqkq (β : Type) := Int → t4y → t3y → t1y → t2y → Option β
abbrev zqkr (β : Type) := (Nat × Nat) → t4y → t3y → t1y → t2y → t12y → Option β
abbrev zqks (β : Type) := (Nat × Nat) → t8y → Int → Int → t4y → t3y → t1y → t2y → t12y → Option β
noncomputable def zqkt : Pc := ⟨56, 5, Q4 250 (Q3 Tryz.f99), ⟨5, [0, 5, 7, 21, 22, 23], [v23y, (false, [.tptrh 4 [1] 0]), (false, [.rowh 5]), v26y, v19y, v19y], l80y⟩, [(.ret, ⟨5, [4], [v19y], l63y⟩), (.exit 0, ⟨5, [5, 7], [(false, [.tptrh 4 [1] 0]), (false, [.rowh 5])], l80y⟩)]⟩
def zqku {β : Type} (rec : zqks β) (k1 : zqkq β) (k2 : zqkr β) : zqks β := fun x t21 t22 t23 b1_ b2_ b3_ b4_ all =>
 cond (decide (t23 < t22))
 (cond (decide (0 ≤ t23) && decide (t23 < (List.length t21 : Int)))
 (let e := List.getD t21 (Int.toNat t23) ((0 : Int), (([] : List UInt8), (0 : Int)));
 zqhx (b1_, (b2_, (b3_, b4_))) e.2.1 (fun rPerson rPerson2 =>
 zq6c rPerson2 (fun rfound =>
 cond (!decide (rfound = (0 : Int)))
 (k1 rfound b1_ b2_ b3_ b4_)
 (let l := ([rPerson] : List Int);
 cond (decide ((List.length all + List.length l) * 8 ≤ Q8))
 (let l2 := (all ++ l);
 rec (x.1, x.2) t21 t22 (IntKind.i64.wrap (t23 + (1 : Int))) b1_ b2_ b3_ b4_ l2)
 none))))
 none)
 (k2 (x.1, x.2) b1_ b2_ b3_ b4_ all)
def zqkv (m : Nat) {β : Type} (k1 : zqkq β) (k2 : zqkr β) : zqks β := lp9 (fun r => zqku r k1 k2) none m
theorem zqkw {β : Type} (i : Nat) (k1 k2) : zqkv (β := β) (i + 1) k1 k2 = zqku (zqkv i k1 k2) k1 k2 := rfl
def zqkx {β : Type} := hid (zqkv (β := β) fuel)
noncomputable def zqky : Pb := ⟨250, zqkt, fun _ => zqkx, Q88 mixed (X := ⟨look tab, gam zqkp, false, false, false, false, q83y, none, 0, []⟩) (p := zqkt) Qd zqkp rfl [] (g := fun i _ => zqkv i) (by kernel_rfl) rfl (by kernel_rfl) (fun _ _ => rfl) fun _ _ _ _ => by kernel_rfl⟩
def zqkz : zqko := fun l b1_ b2_ b3_ b4_ k =>
 cond (decide ((List.length b4_ : Int) = (0 : Int)))
 (k (9 : Int) b1_ b2_ b3_ b4_)
 (let i_ := (IntKind.i64.wrap ((List.length b4_ : Int) - (1 : Int)));
 cond (decide (0 ≤ i_) && decide (i_ < (List.length b4_ : Int)))
 (let e := List.getD b4_ (Int.toNat i_) (([] : List UInt8), (([] : List zq2), ([] : List t0y)));
 let l2 := ((List.getD b4_ (Int.toNat i_) (([] : List UInt8), (([] : List zq2), ([] : List t0y)))).2).1;
 cond (decide ((List.length l2 : Int) = (0 : Int)))
 (k (9 : Int) b1_ b2_ b3_ b4_)
 (let l3 := ((List.getD b4_ (Int.toNat i_) (([] : List UInt8), (([] : List zq2), ([] : List t0y)))).2).1;
 let l4 := ((List.getD b4_ (Int.toNat i_) (([] : List UInt8), (([] : List zq2), ([] : List t0y)))).2).1;
 let i_2 := (IntKind.i64.wrap ((List.length l3 : Int) - (1 : Int)));
 cond (decide (0 ≤ i_2) && decide (i_2 < (List.length l4 : Int)))
 (let j := Int.toNat i_2;
 cond (decide (0 ≤ (1 : Int)) && (decide ((1 : Int) ≤ (List.length l : Int)) && decide ((List.length l : Int) ≤ (List.length l : Int))))
 (zqkx (fun t4 b1_2 b2_2 b3_2 b4_2 =>
 k t4 b1_2 b2_2 b3_2 b4_2) (fun x b1_2 b2_2 b3_2 b4_2 all =>
 let l5 := ((List.getD b4_2 x.1 zqo).2).1;
 let e2 := List.getD l5 x.2 zqq;
 let l6 := ((((((List.getD (((List.getD b4_2 x.1 zqo).2).1) x.2 zqq).2).2).2).2).2).1;
 cond (true && decide ((List.length l6 + List.length all) * 8 ≤ Q8))
 (let l7 := (l6 ++ all);
 let e3 := List.getD b4_2 x.1 zqo;
 let e4 := List.getD e3.2.1 x.2 zqq;
 let l8 := List.set e3.2.1 x.2 (e4.1, (e4.2.1, (e4.2.2.1, (e4.2.2.2.1, (e4.2.2.2.2.1, (l7, e4.2.2.2.2.2.2))))));
 let l9 := List.set b4_2 x.1 (e3.1, (l8, e3.2.2));
 cond (decide (x.1 = x.1) && (true && (decide (x.2 = x.2) && (true && true))))
 (k (0 : Int) b1_2 b2_2 b3_2 l9)
 none)
 none) ((Int.toNat i_), j) (List.drop (Int.toNat (1 : Int)) (List.take (Int.toNat (List.length l : Int)) l)) (List.length (List.drop (Int.toNat (1 : Int)) (List.take (Int.toNat (List.length l : Int)) l)) : Int) (0 : Int) b1_ b2_ b3_ b4_ ([] : List Int))
 none)
 none))
 none)
def zql0 : zqko := hid zqkz
theorem zql1 : SpecOkB Tryz.prog 99 (sg [v23y, v26y] l63y [v19y] l63y zql0) := Q1r mixed (X := ⟨look tab, gam zqkp, false, false, false, false, q83y, none, 0, []⟩) Qd zqkp rfl [zqky] [.tmp 4] Tryz.func99 (by kernel_rfl) fun _ _ => by kernel_rfl
noncomputable def zql2 : En := .hand zql1 rfl (by kernel_rfl)
abbrev zql3 := {β : Type} → t8y → t4y → t3y → t1y → t2y → (Int → t4y → t3y → t1y → t2y → Option β) → Option β
def zql4 : zql3 := fun l b1_ b2_ b3_ b4_ k =>
 cond (decide ((List.length b4_ : Int) = (0 : Int)))
 (k (9 : Int) b1_ b2_ b3_ b4_)
 (let i_ := (IntKind.i64.wrap ((List.length b4_ : Int) - (1 : Int)));
 cond (decide (0 ≤ i_) && decide (i_ < (List.length b4_ : Int)))
 (let e := List.getD b4_ (Int.toNat i_) (([] : List UInt8), (([] : List zq2), ([] : List t0y)));
 let l2 := ((List.getD b4_ (Int.toNat i_) (([] : List UInt8), (([] : List zq2), ([] : List t0y)))).2).1;
 cond (decide ((List.length l2 : Int) = (0 : Int)))
 (k (9 : Int) b1_ b2_ b3_ b4_)
 (let l3 := ((List.getD b4_ (Int.toNat i_) (([] : List UInt8), (([] : List zq2), ([] : List t0y)))).2).1;
 let l4 := ((List.getD b4_ (Int.toNat i_) (([] : List UInt8), (([] : List zq2), ([] : List t0y)))).2).1;
 let i_2 := (IntKind.i64.wrap ((List.length l3 : Int) - (1 : Int)));
 cond (decide (0 ≤ i_2) && decide (i_2 < (List.length l4 : Int)))
 (let j := Int.toNat i_2;
 let l5 := ((List.getD b4_ (Int.toNat i_) (([] : List UInt8), (([] : List zq2), ([] : List t0y)))).2).1;
 let e2 := List.getD l5 j zqq;
 cond (!decide (e2.2.2.2.2.2.2.2.2 = (0 : Int)))
 (k (9 : Int) b1_ b2_ b3_ b4_)
 (cond (decide (0 ≤ (1 : Int)) && decide ((1 : Int) < (List.length l : Int)))
 (let e3 := List.getD l (Int.toNat (1 : Int)) ((0 : Int), (([] : List UInt8), (0 : Int)));
 zq7h b3_ e3.2.1 (fun rCalendar mrCalendar =>
 let t := (if rCalendar > (0 : Int) then rCalendar else (0 : Int));
 let t2 := (decide ((0 : Int) ≤ rCalendar));
 zq6c t2 (fun rfound =>
 cond (!decide (rfound = (0 : Int)))
 (k rfound b1_ b2_ b3_ b4_)
 (let l6 := ((List.getD b4_ (Int.toNat i_) (([] : List UInt8), (([] : List zq2), ([] : List t0y)))).2).1;
 let e4 := List.getD l6 j zqq;
 let l7 := List.set l6 j (e4.1, (e4.2.1, (e4.2.2.1, (e4.2.2.2.1, (e4.2.2.2.2.1, (e4.2.2.2.2.2.1, (e4.2.2.2.2.2.2.1, (t, e4.2.2.2.2.2.2.2.2))))))));
 let e5 := List.getD b4_ (Int.toNat i_) (([] : List UInt8), (([] : List zq2), ([] : List t0y)));
 let l8 := List.set b4_ (Int.toNat i_) (e5.1, (l7, e5.2.2));
 let l9 := ((List.getD l8 (Int.toNat i_) (([] : List UInt8), (([] : List zq2), ([] : List t0y)))).2).1;
 let e6 := List.getD l9 j zqq;
 let l10 := List.set l9 j (e6.1, (e6.2.1, (e6.2.2.1, (e6.2.2.2.1, (e6.2.2.2.2.1, (e6.2.2.2.2.2.1, (e6.2.2.2.2.2.2.1, (e6.2.2.2.2.2.2.2.1, (1 : Int)))))))));
 let e7 := List.getD l8 (Int.toNat i_) (([] : List UInt8), (([] : List zq2), ([] : List t0y)));
 let l11 := List.set l8 (Int.toNat i_) (e7.1, (l10, e7.2.2));
 cond (decide (0 ≤ (0 : Int)) && decide ((0 : Int) < (List.length l : Int)))
 (let e8 := List.getD l (Int.toNat (0 : Int)) ((0 : Int), (([] : List UInt8), (0 : Int)));
 cond (decide (e8.2.1 = ([111, 110, 108, 121] : List UInt8)))
 (let l12 := ((List.getD l11 (Int.toNat i_) (([] : List UInt8), (([] : List zq2), ([] : List t0y)))).2).1;
 let e9 := List.getD l12 j zqq;
 let l13 := List.set l12 j (e9.1, (e9.2.1, (e9.2.2.1, (e9.2.2.2.1, (e9.2.2.2.2.1, (e9.2.2.2.2.2.1, (e9.2.2.2.2.2.2.1, (e9.2.2.2.2.2.2.2.1, (2 : Int)))))))));
 let e10 := List.getD l11 (Int.toNat i_) (([] : List UInt8), (([] : List zq2), ([] : List t0y)));
 let l14 := List.set l11 (Int.toNat i_) (e10.1, (l13, e10.2.2));
 k (0 : Int) b1_ b2_ b3_ l14)
 (k (0 : Int) b1_ b2_ b3_ l11))
 none))))
 none))
 none))
 none)
def zql5 : zql3 := hid zql4
theorem zql6 : SpecOkB Tryz.prog 101 (sg [v23y, v26y] l63y [v19y] l63y zql5) := Q1r mixed (X := ⟨look tab, gam [zq7k, zq6y, zq6d, zq6z], false, false, false, false, q83y, none, 0, []⟩) Qd [zq7k, zq6y, zq6d, zq6z] rfl [] [.tmp 4] Tryz.func101 (by kernel_rfl) fun _ _ => by kernel_rfl
noncomputable def zql7 : En := .hand zql6 rfl (by kernel_rfl)
abbrev zql8 := {β : Type} → t8y → t4y → t3y → t1y → t2y → (Int → t4y → t3y → t1y → t2y → Option β) → Option β
noncomputable def zql9 : List En := [zqhy, zq6d, zq6v, zq6w, zq6u]
abbrev zqla (β : Type) := Int → t4y → t3y → t1y → t2y → Option β
abbrev zqlb (β : Type) := Nat → t4y → t3y → t1y → t2y → t0y → t12y → Option β
abbrev zqlc (β : Type) := Nat → t8y → Int → Int → t4y → t3y → t1y → t2y → t0y → t12y → Option β
noncomputable def zqld : Pc := ⟨106, 5, Q4 2042 (Q3 Tryz.f102), ⟨5, [0, 5, 7, 9, 53, 54, 55], [v23y, (false, [.tptrh 4 [] 0]), (false, [.ptr 5 0]), (false, [.rowh 6]), v26y, v19y, v19y], l68y⟩, [(.ret, ⟨5, [4], [v19y], l63y⟩), (.exit 0, ⟨5, [5, 7, 9], [(false, [.tptrh 4 [] 0]), (false, [.ptr 5 0]), (false, [.rowh 6])], l68y⟩)]⟩
abbrev zqle (β : Type) := Int → t4y → t3y → t1y → t2y → Option β
abbrev zqlf (β : Type) := Nat → t8y → Int → Int → t4y → t3y → t1y → t2y → t0y → t12y → Option β
abbrev zqlg (β : Type) := Nat → Int → Int → Bool → t8y → Int → Int → t4y → t3y → t1y → t2y → t0y → t12y → Option β
noncomputable def zqlh : Pc := ⟨106, 5, Q4 231 (Qy zqld.c), ⟨5, [0, 5, 7, 9, 10, 12, 13, 53, 54, 55], [v23y, (false, [.tptrh 4 [] 0]), (false, [.ptr 5 0]), (false, [.rowh 6]), v19y, v19y, v24y, v26y, v19y, v19y], l68y⟩, [(.ret, ⟨5, [4], [v19y], l63y⟩), (.normal, ⟨5, [0, 5, 7, 9, 53, 54, 55], [v23y, (false, [.tptrh 4 [] 0]), (false, [.ptr 5 0]), (false, [.rowh 6]), v26y, v19y, v19y], l68y⟩)]⟩
def zqli {β : Type} (k1 : zqle β) (k2 : zqlf β) : zqlg β := fun s i_ p_ ok t53 t54 t55 b1_ b2_ b3_ b4_ x people =>
 zq6c ok (fun rfound =>
 cond (!decide (rfound = (0 : Int)))
 (k1 rfound b1_ b2_ b3_ b4_)
 (cond (decide (0 ≤ i_) && decide (i_ < (List.length people : Int)))
 (let l := (List.set people (Int.toNat i_) p_);
 k2 s t53 t54 t55 b1_ b2_ b3_ b4_ x l)
 none))
def zqlj {β : Type} := hid (zqli (β := β))
noncomputable def zqlk : Pb := ⟨231, zqlh, fun _ => zqlj, Qi9 mixed (X := ⟨look tab, gam zql9, false, false, false, false, q83y, none, 0, []⟩) (p := zqlh) Qd zql9 rfl [] 231 (g := fun _ => zqli) (by kernel_rfl) fun _ _ => by kernel_rfl⟩
def zqll {β : Type} (rec : zqlc β) (k1 : zqla β) (k2 : zqlb β) : zqlc β := fun s t53 t54 t55 b1_ b2_ b3_ b4_ x people =>
 cond (decide (t55 < t54))
 (cond (decide (0 ≤ t55) && decide (t55 < (List.length t53 : Int)))
 (let e := List.getD t53 (Int.toNat t55) ((0 : Int), (([] : List UInt8), (0 : Int)));
 zqhx (b1_, (b2_, (b3_, b4_))) e.2.1 (fun rPerson rPerson2 =>
 cond (decide (x.1 = (1 : Int)))
 (cond (decide (e.2.1 = ([110, 111, 98, 111, 100, 121] : List UInt8)))
 (zqlj (fun t4 b1_2 b2_2 b3_2 b4_2 =>
 k1 t4 b1_2 b2_2 b3_2 b4_2) (fun s2 t532 t542 t552 b1_2 b2_2 b3_2 b4_2 x2 people2 =>
 rec s2 t532 t542 (IntKind.i64.wrap (t552 + (1 : Int))) b1_2 b2_2 b3_2 b4_2 x2 people2) s t55 (-1 : Int) true t53 t54 t55 b1_ b2_ b3_ b4_ x people)
 (zqlj (fun t4 b1_2 b2_2 b3_2 b4_2 =>
 k1 t4 b1_2 b2_2 b3_2 b4_2) (fun s2 t532 t542 t552 b1_2 b2_2 b3_2 b4_2 x2 people2 =>
 rec s2 t532 t542 (IntKind.i64.wrap (t552 + (1 : Int))) b1_2 b2_2 b3_2 b4_2 x2 people2) s t55 rPerson rPerson2 t53 t54 t55 b1_ b2_ b3_ b4_ x people))
 (zqlj (fun t4 b1_2 b2_2 b3_2 b4_2 =>
 k1 t4 b1_2 b2_2 b3_2 b4_2) (fun s2 t532 t542 t552 b1_2 b2_2 b3_2 b4_2 x2 people2 =>
 rec s2 t532 t542 (IntKind.i64.wrap (t552 + (1 : Int))) b1_2 b2_2 b3_2 b4_2 x2 people2) s t55 rPerson rPerson2 t53 t54 t55 b1_ b2_ b3_ b4_ x people)))
 none)
 (k2 s b1_ b2_ b3_ b4_ x people)
def zqlm (m : Nat) {β : Type} (k1 : zqla β) (k2 : zqlb β) : zqlc β := lp10 (fun r => zqll r k1 k2) none m
theorem zqln {β : Type} (i : Nat) (k1 k2) : zqlm (β := β) (i + 1) k1 k2 = zqll (zqlm i k1 k2) k1 k2 := rfl
def zqlo {β : Type} := hid (zqlm (β := β) fuel)
noncomputable def zqlp : Pb := ⟨2042, zqld, fun _ => zqlo, Q88 mixed (X := ⟨look tab, gam zql9, false, false, false, false, q83y, none, 0, []⟩) (p := zqld) Qd zql9 rfl [zqlk] (g := fun i _ => zqlm i) (by kernel_rfl) rfl (by kernel_rfl) (fun _ _ => rfl) fun _ _ _ _ => by kernel_rfl⟩
def zqlq : zql8 := fun l b1_ b2_ b3_ b4_ k =>
 cond (decide ((List.length b4_ : Int) = (0 : Int)))
 (k (9 : Int) b1_ b2_ b3_ b4_)
 (let i_ := (IntKind.i64.wrap ((List.length b4_ : Int) - (1 : Int)));
 cond (decide (0 ≤ i_) && decide (i_ < (List.length b4_ : Int)))
 (let l2 := ([([108, 101, 97, 118, 101] : List UInt8), ([111, 118, 101, 114, 114, 105, 100, 101] : List UInt8), ([115, 119, 97, 112] : List UInt8)] : List t5y);
 cond (decide (0 ≤ (0 : Int)) && decide ((0 : Int) < (List.length l : Int)))
 (let e := List.getD l (Int.toNat (0 : Int)) ((0 : Int), (([] : List UInt8), (0 : Int)));
 zq6t l2 e.2.1 (fun rIndexstringstring =>
 cond (decide (0 ≤ (IntKind.i64.wrap ((List.length l : Int) - (2 : Int)))) && decide ((IntKind.i64.wrap ((List.length l : Int) - (2 : Int))) < (List.length l : Int)))
 (let e2 := List.getD l (Int.toNat (IntKind.i64.wrap ((List.length l : Int) - (2 : Int)))) ((0 : Int), (([] : List UInt8), (0 : Int)));
 cond (decide (0 ≤ (IntKind.i64.wrap ((List.length l : Int) - (1 : Int)))) && decide ((IntKind.i64.wrap ((List.length l : Int) - (1 : Int))) < (List.length l : Int)))
 (let e3 := List.getD l (Int.toNat (IntKind.i64.wrap ((List.length l : Int) - (1 : Int)))) ((0 : Int), (([] : List UInt8), (0 : Int)));
 let l3 := ([(0 : Int), (0 : Int)] : List Int);
 cond (decide (0 ≤ (1 : Int)) && (decide ((1 : Int) ≤ (IntKind.i64.wrap ((List.length l : Int) - (2 : Int)))) && decide ((IntKind.i64.wrap ((List.length l : Int) - (2 : Int))) ≤ (List.length l : Int))))
 (zqlo (fun t4 b1_2 b2_2 b3_2 b4_2 =>
 k t4 b1_2 b2_2 b3_2 b4_2) (fun s b1_2 b2_2 b3_2 b4_2 x people =>
 cond (decide (0 ≤ (0 : Int)) && decide ((0 : Int) < (List.length people : Int)))
 (cond (decide (0 ≤ (1 : Int)) && decide ((1 : Int) < (List.length people : Int)))
 (let e4 := List.getD b4_2 s zqo;
 let l4 := ([(x.1, ((List.getD people (Int.toNat (0 : Int)) (0 : Int)), ((List.getD people (Int.toNat (1 : Int)) (0 : Int)), x.2.2.2)))] : List t0y);
 let l5 := ((List.getD b4_2 s zqo).2).2;
 cond (true && decide ((List.length l5 + List.length l4) * 40 ≤ Q8))
 (let l6 := (l5 ++ l4);
 let e5 := List.getD b4_2 s zqo;
 let l7 := List.set b4_2 s (e5.1, (e5.2.1, l6));
 cond (decide (s = s) && (true && true))
 (k (0 : Int) b1_2 b2_2 b3_2 l7)
 none)
 none)
 none)
 none) (Int.toNat i_) (List.drop (Int.toNat (1 : Int)) (List.take (Int.toNat (IntKind.i64.wrap ((List.length l : Int) - (2 : Int)))) l)) (List.length (List.drop (Int.toNat (1 : Int)) (List.take (Int.toNat (IntKind.i64.wrap ((List.length l : Int) - (2 : Int)))) l)) : Int) (0 : Int) b1_ b2_ b3_ b4_ (rIndexstringstring, ((0 : Int), ((0 : Int), (e2.2.2, e3.2.2)))) l3)
 none)
 none)
 none))
 none)
 none)
def zqlr : zql8 := hid zqlq
theorem zqls : SpecOkB Tryz.prog 102 (sg [v23y, v26y] l63y [v19y] l63y zqlr) := Q1r mixed (X := ⟨look tab, gam zql9, false, false, false, false, q83y, none, 0, []⟩) Qd zql9 rfl [zqlp] [.tmp 4] Tryz.func102 (by kernel_rfl) fun _ _ => by kernel_rfl
noncomputable def zqlt : En := .hand zqls rfl (by kernel_rfl)
abbrev zqlu := {β : Type} → t5y → (Int → Bool → Option β) → Option β
noncomputable def zqlv : List En := [zqh1]
abbrev zqlw (β : Type) := Int → Bool → Option β
abbrev zqlx (β : Type) := t5y → Int → Bool → Option β
noncomputable def zqly : Pc := ⟨32, 0, Q4 15 (Q3 Tryz.f147), ⟨0, [0, 4, 5], [v27y, v19y, v24y], []⟩, [(.ret, ⟨0, [2, 3], [v19y, v24y], []⟩)]⟩
def zqlz {β : Type} (k1 : zqlw β) : zqlx β := fun s n ok =>
 cond ok
 (cond (decide ((List.length s : Int) = (6 : Int)))
 (cond (decide ((-64800 : Int) ≤ n))
 (let t := (decide (n ≤ (64800 : Int)));
 k1 n t)
 (k1 n false))
 (k1 n false))
 (k1 n false)
def zqm0 {β : Type} := hid (zqlz (β := β))
noncomputable def zqm1 : Pb := ⟨15, zqly, fun _ => zqm0, pe (p := zqly) zqlv [] 15 (g := fun _ => zqlz) (by kernel_rfl) fun _ _ => by kernel_rfl⟩
def zqm2 : zqlu := fun s k =>
 cond (decide (0 ≤ (1 : Int)) && (decide ((1 : Int) ≤ (List.length s : Int)) && decide ((List.length s : Int) ≤ (List.length s : Int))))
 (zqh0 (List.drop (Int.toNat (1 : Int)) (List.take (Int.toNat (List.length s : Int)) s)) (fun rclock rclock2 =>
 cond (decide (0 ≤ (0 : Int)) && decide ((0 : Int) < (List.length s : Int)))
 (cond (decide (((List.getD s (Int.toNat (0 : Int)) 0).toNat : Int) = (45 : Int)))
 (let n := (IntKind.i64.wrap (0 - rclock));
 zqm0 (fun t2 t3 =>
 k t2 t3) s n rclock2)
 (zqm0 (fun t2 t3 =>
 k t2 t3) s rclock rclock2))
 none))
 none
def zqm3 : zqlu := hid zqm2
noncomputable def zqm4 : En := ⟨147, .spec (sg [v27y] [] [v19y, v24y] [] zqm3), pf zqlv [zqm1] [.tmp 2, .tmp 3] Tryz.func147 (by kernel_rfl) fun _ _ => by kernel_rfl⟩
abbrev zqm5 := {β : Type} → t5y → (Int → Bool → Option β) → Option β
def zqm6 : zqm5 := fun s k =>
 cond (!decide ((List.length s : Int) = (20 : Int)))
 (k (0 : Int) false)
 (cond (decide (0 ≤ (10 : Int)) && decide ((10 : Int) < (List.length s : Int)))
 (cond (!decide (((List.getD s (Int.toNat (10 : Int)) 0).toNat : Int) = (84 : Int)))
 (k (0 : Int) false)
 (cond (decide (0 ≤ (19 : Int)) && decide ((19 : Int) < (List.length s : Int)))
 (cond (!decide (((List.getD s (Int.toNat (19 : Int)) 0).toNat : Int) = (90 : Int)))
 (k (0 : Int) false)
 (cond (decide (0 ≤ (0 : Int)) && (decide ((0 : Int) ≤ (10 : Int)) && decide ((10 : Int) ≤ (List.length s : Int))))
 (zqgm (List.drop (Int.toNat (0 : Int)) (List.take (Int.toNat (10 : Int)) s)) (fun rdate rdate2 =>
 cond (decide (0 ≤ (11 : Int)) && (decide ((11 : Int) ≤ (19 : Int)) && decide ((19 : Int) ≤ (List.length s : Int))))
 (zqh0 (List.drop (Int.toNat (11 : Int)) (List.take (Int.toNat (19 : Int)) s)) (fun rclock rclock2 =>
 cond rdate2
 (cond rclock2
 (let t := (IntKind.i64.wrap ((IntKind.i64.wrap (rdate * (86400 : Int))) + rclock));
 let t2 := (decide (rclock < (86400 : Int)));
 k t t2)
 (let t := (IntKind.i64.wrap ((IntKind.i64.wrap (rdate * (86400 : Int))) + rclock));
 k t false))
 (let t := (IntKind.i64.wrap ((IntKind.i64.wrap (rdate * (86400 : Int))) + rclock));
 k t false)))
 none))
 none))
 none))
 none)
def zqm7 : zqm5 := hid zqm6
noncomputable def zqm8 : En := ⟨149, .spec (sg [v27y] [] [v19y, v24y] [] zqm7), pf [zqh1, zqgn] [] [.tmp 2, .tmp 3] Tryz.func149 (by kernel_rfl) fun _ _ => by kernel_rfl⟩
abbrev zqm9 := {β : Type} → Int → (Bool → Option β) → Option β
def zqma : zqm9 := fun n k =>
 zqi5 n (fun rday =>
 k (!rday))
def zqmb : zqm9 := hid zqma
noncomputable def zqmc : En := ⟨56, .spec (sg [v19y] [] [v24y] [] zqmb), pf [zqi6] [] [.tmp 2] Tryz.func56 (by kernel_rfl) fun _ _ => by kernel_rfl⟩
abbrev zqmd := {β : Type} → t5y → (Int → Int → Bool → Option β) → Option β
noncomputable def zqme : List En := [zq97, zqh1, zqgn, zqm8, zqc5, zqm4, zq4b, zq83]
abbrev zqmf (β : Type) := Int → Int → Bool → Option β
abbrev zqmg (β : Type) := t5y → Option β
noncomputable def zqmh : Pc := ⟨83, 0, Q4 7 (Q3 Tryz.f114), ⟨0, [0], [v27y], []⟩, [(.ret, ⟨0, [2, 3, 4], [v19y, v19y, v24y], []⟩)]⟩
abbrev zqmi (β : Type) := Int → Int → Bool → Option β
abbrev zqmj (β : Type) := t5y → Option β
abbrev zqmk (β : Type) := t5y → Bool → Option β
noncomputable def zqml : Pc := ⟨83, 0, Q4 215 (Q3 Tryz.f114), ⟨0, [0, 23], [v27y, v24y], []⟩, [(.ret, ⟨0, [2, 3, 4], [v19y, v19y, v24y], []⟩), (.normal, ⟨0, [0], [v27y], []⟩)]⟩
def zqmm {β : Type} (k1 : zqmf β) : zqmg β := fun s =>
 zqc4 s (fun rnumber rnumber2 =>
 cond rnumber2
 (cond (decide (0 ≤ (0 : Int)) && decide ((0 : Int) < (List.length s : Int)))
 (cond (!decide (((List.getD s (Int.toNat (0 : Int)) 0).toNat : Int) = (48 : Int)))
 (k1 (1 : Int) rnumber true)
 (let t := (decide (s = ([48] : List UInt8)));
 k1 (1 : Int) rnumber t))
 none)
 (k1 (1 : Int) rnumber false))
def zqmn {β : Type} := hid (zqmm (β := β))
noncomputable def zqmo : Pb := ⟨7, zqmh, fun _ => zqmn, pe (p := zqmh) zqme [] 7 (g := fun _ => zqmm) (by kernel_rfl) fun _ _ => by kernel_rfl⟩
def zqmp {β : Type} (k1 : zqmi β) (k2 : zqmj β) : zqmk β := fun s t23 =>
 cond t23
 (zqm3 s (fun roffset roffset2 =>
 k1 (4 : Int) roffset roffset2))
 (zq81 s ([84] : List UInt8) (fun rContains =>
 cond rContains
 (zqm7 s (fun rinstant rinstant2 =>
 k1 (5 : Int) rinstant rinstant2))
 (zq81 s ([45] : List UInt8) (fun rContains2 =>
 cond rContains2
 (zqgm s (fun rdate rdate2 =>
 k1 (3 : Int) rdate rdate2))
 (zq81 s ([58] : List UInt8) (fun rContains3 =>
 cond rContains3
 (zqh0 s (fun rclock rclock2 =>
 k1 (2 : Int) rclock rclock2))
 (k2 s)))))))
def zqmq {β : Type} := hid (zqmp (β := β))
noncomputable def zqmr : Pb := ⟨215, zqml, fun _ => zqmq, pe (p := zqml) zqme [] 215 (g := fun _ => zqmp) (by kernel_rfl) fun _ _ => by kernel_rfl⟩
def zqms : zqmd := fun s k =>
 cond (decide (0 ≤ (0 : Int)) && decide ((0 : Int) < (List.length s : Int)))
 (let c := ((List.getD s (Int.toNat (0 : Int)) 0).toNat : Int);
 zq4a c (fun rsmall =>
 cond rsmall
 (zq96 s (fun rName =>
 k (0 : Int) (0 : Int) rName))
 (cond (decide (c = (43 : Int)))
 (zqmq (fun t2 t3 t4 =>
 k t2 t3 t4) (fun s2 =>
 zqmn (fun t2 t3 t4 =>
 k t2 t3 t4) s2) s true)
 (let t := (decide (c = (45 : Int)));
 zqmq (fun t2 t3 t4 =>
 k t2 t3 t4) (fun s2 =>
 zqmn (fun t2 t3 t4 =>
 k t2 t3 t4) s2) s t))))
 none
def zqmt : zqmd := hid zqms
noncomputable def zqmu : En := ⟨114, .spec (sg [v27y] [] [v19y, v19y, v24y] [] zqmt), pf zqme [zqmo, zqmr] [.tmp 2, .tmp 3, .tmp 4] Tryz.func114 (by kernel_rfl) fun _ _ => by kernel_rfl⟩
def zqmv : Shelf.Ren :=
   {
   f := fun x =>
    match x with
    | 20 => 177
    | n => n,
   t := fun x =>
    match x with
    | 24 => 165
    | 22 => 161
    | 3 => 3
    | 25 => 204
    | 4 => 4
    | 0 => 0
    | n => n,
   g := fun x => x }
theorem zqmw : Go.Proofs.SlLaysF0.n20 Tryz.prog zqmv :=
 {
  mixed := by kernel_rfl,
  f20 := Exists.intro "slices.insertionSortCmpFunc[pagewatch/zone.occurrence]" ⟨of_decide_eq_true (by kernel_rfl), Eq.trans Tryz.func177 (congrArg some (by kernel_rfl))⟩,
  t0 := Tryz.underlying0,
  a0 := Tryz.isAgg0,
  z0 := Tryz.sizeOf0,
  v0 := Tryz.zeroValue0,
  t3 := Tryz.underlying3,
  a3 := Tryz.isAgg3,
  z3 := Tryz.sizeOf3,
  v3 := Tryz.zeroValue3,
  t4 := Tryz.underlying4,
  a4 := Tryz.isAgg4,
  z4 := Tryz.sizeOf4,
  v4 := Tryz.zeroValue4,
  t22 := Tryz.underlying161,
  a22 := Tryz.isAgg161,
  z22 := Tryz.sizeOf161,
  v22 := Tryz.zeroValue161,
  t25 := Tryz.underlying204,
  a25 := Tryz.isAgg204,
  z25 := Tryz.sizeOf204,
  v25 := Tryz.zeroValue204 }
def zqmx : t6y → Bool := fun x => decide (-4611686018427387904 ≤ x.1) && decide (x.1 < 4611686018427387904)
def zqmy : t6y → t6y → Int := fun x y => x.1 - y.1
def zqmz : List t6y → List t6y := Q1d zqmx ((0, 0) : Int × Int) rfl zqmy
theorem zqn0 (x y : Int × Int) (hx : zqmx x = true) (hy : zqmx y = true) (W : World) : Calls Tryz.prog 139 #[.agg (encT (.prod (.int .i64) (.int .i64)) x).toArray, .agg (encT (.prod (.int .i64) (.int .i64)) y).toArray] W fun e w' => e = .returned (.int .i64 (zqmy x y)) ∧ ∃ q os', w' = Go.Sort.grow (W.drewN q) os' := by
 obtain ⟨a, b⟩ := x
 obtain ⟨c, d⟩ := y
 simp only [zqmx, Bool.and_eq_true, decide_eq_true_eq] at hx hy
 obtain ⟨h1, h2⟩ := hx
 obtain ⟨h3, h4⟩ := hy
 change Calls Tryz.prog 139 #[.agg #[.int .i64 a, .int .i64 b], .agg #[.int .i64 c, .int .i64 d]] W fun e w' => e = .returned (.int .i64 (a - c)) ∧ _
 have hw : Go.RowKit.wrap64 (a - c) = a - c := by unfold Go.RowKit.wrap64; omega
 go_enter Tryz.func139, Tryz.ntmps139
 go_wp2
 go_ret
 exact ⟨rfl, 0, _, by rw [Go.Sort.alloc_eq_grow, Go.Sort.alloc_eq_grow, Go.Sort.grow_grow]; rfl⟩
theorem zqn1 : Go.Sort.SWO (Go.Proofs.ltOf fun (x y : {x : Int × Int // zqmx x = true}) => zqmy x.1 y.1) := by
 constructor
 ·intro x
  refine decide_eq_false ?_
  show ¬ x.1.1 - x.1.1 < 0
  omega
 ·intro x y z h1 h2
  have h1 : x.1.1 - y.1.1 < 0 := of_decide_eq_true h1
  have h2 : y.1.1 - z.1.1 < 0 := of_decide_eq_true h2
  refine decide_eq_true ?_
  show x.1.1 - z.1.1 < 0
  omega
 ·intro x y z h1 h2
  have h1 : ¬ x.1.1 - y.1.1 < 0 := of_decide_eq_false h1
  have h2 : ¬ y.1.1 - z.1.1 < 0 := of_decide_eq_false h2
  refine decide_eq_false ?_
  show ¬ x.1.1 - z.1.1 < 0
  omega
theorem zqn2 (p : Option Addr) (n cap : Nat) (w : World) (Q : World → Prop) (hn : n < 13) (h : Calls Tryz.prog 177 #[.slice p n cap, .int .i64 0, .int .i64 n, .func (.func 139) #[] #[]] w (fun e2 w' => e2 = .returned (.tuple #[]) ∧ Q w')) :
  Calls Tryz.prog 138 #[.slice p n cap, .func (.func 139) #[] #[]] w fun e2 w' => e2 = .returned (.tuple #[]) ∧ Q w' := by
 have h2 : Calls Tryz.prog 162 #[.slice p n cap, .int .i64 n, .func (.func 139) #[] #[]] w fun e2 w' => e2 = .returned (.tuple #[]) ∧ Q w' := by
  go_enter Tryz.func162, Tryz.ntmps162
  go_wp2
  refine wp_loop_rounds 1 ?_
  rw [rounds_succ]
  go_wp2_with (refine h.mono ?_; rintro e w' ⟨rfl, hq⟩)
  refine wp_loop_rounds 1 ?_
  rw [rounds_succ]
  go_wp2
  go_end0
  exact ⟨rfl, hq⟩
 go_enter Tryz.func138, Tryz.ntmps138
 go_wp2_with (refine h2.mono ?_; rintro e w' ⟨rfl, hq⟩)
 go_end0
 exact ⟨rfl, hq⟩
def zqn3 : RowF := ⟨165, (.prod (.int .i64) (.int .i64)), false, fun l => List.all l zqmx && decide (List.length l < 13), zqmz, some 139⟩
theorem zqn4 : RowOk Tryz.prog 138 zqn3 :=
 Qg2 (t := 165) (e := (.prod (.int .i64) (.int .i64))) (good := zqmx) (d0 := ((0, 0) : Int × Int)) (h0 := rfl) (cf := zqmy) (g := 139) rfl (by decide) zqmw rfl Tryz.isAgg165 Tryz.sizeOf165 zqn1 (Go.Proofs.enters_of Tryz.func139 (by kernel_rfl) rfl) zqn0 zqn2 ⟨_, Tryz.func138, by kernel_rfl, by kernel_rfl⟩
noncomputable def zqn5 : En := ⟨_, .rows zqn3, zqn4⟩
abbrev zqn6 := {β : Type} → t5y → (zq6 → Int → Option β) → Option β
def zqn7 : zqn6 := fun word k =>
 cond (decide (word = ([] : List UInt8)))
 (k zqi (2 : Int))
 (zqmt word (fun rform rform2 rform3 =>
 cond (!rform3)
 (k zqi (2 : Int))
 (let t := (decide (rform = (0 : Int)));
 cond t
 (k (rform, (word, (0 : Int))) (0 : Int))
 (k (rform, (([] : List UInt8), rform2)) (0 : Int)))))
def zqn8 : zqn6 := hid zqn7
noncomputable def zqn9 : En := ⟨88, .spec (sg [v27y] [] [(true, [.data zq7]), v19y] [] zqn8), pf [zqmu] [] [.cell 2 127, .tmp 3] Tryz.func88 (by kernel_rfl) fun _ _ => by kernel_rfl⟩
abbrev zqna := {β : Type} → zqa → (Int → t10y → Option β) → Option β
noncomputable def zqnb : List En := [zqgj, zq5e, zq7o, zqn5]
abbrev zqnc (β : Type) := Int → t10y → Option β
abbrev zqnd (β : Type) := Int → zqa → Option β
abbrev zqne (β : Type) := Int → t13y → Int → Int → zqa → Option β
noncomputable def zqnf : Pc := ⟨86, 0, Q4 250 (Q3 Tryz.f103), ⟨0, [1, 4, 23, 24, 25], [v23y, v19y, v43y, v19y, v19y], [b59y]⟩, [(.ret, ⟨0, [2, 3], [v34y, v19y], l69y⟩), (.exit 0, ⟨0, [1, 4], [v23y, v19y], [b59y]⟩)]⟩
abbrev zqng (β : Type) := t10y → Option β
abbrev zqnh (β : Type) := t13y → Int → Int → t10y → Option β
noncomputable def zqni : Pc := ⟨86, 0, Q4 2042 (Q3 Tryz.f103), ⟨0, [8, 46, 47, 48], [v34y, v43y, v19y, v19y], l69y⟩, [(.exit 2, ⟨0, [8], [v34y], l69y⟩)]⟩
abbrev zqnj (β : Type) := t13y → Int → Int → t10y → Option β
abbrev zqnk (β : Type) := Int → t13y → Int → Int → t10y → zq8 → Option β
noncomputable def zqnl : Pc := ⟨86, 0, Q4 230 (Qy zqni.c), ⟨0, [8, 10, 11, 46, 47, 48], [v34y, v30y, v19y, v43y, v19y, v19y], [.row 165 (.prod (.int .i64) (.int .i64)), .cells 101 [.data zq9]]⟩, [(.exit 4, ⟨0, [8, 46, 47, 48], [v34y, v43y, v19y, v19y], l69y⟩)]⟩
def zqnm {β : Type} (rec : zqne β) (k1 : zqnc β) (k2 : zqnd β) : zqne β := fun n t23 t24 t25 z =>
 cond (decide (t25 < t24))
 (cond (decide (0 ≤ t25) && decide (t25 < (List.length t23 : Int)))
 (let e := List.getD t23 (Int.toNat t25) ((0 : Int), ((0 : Int), ((0 : Int), ((0 : Int), ((0 : Int), ((0 : Int), (0 : Int)))))));
 zq7n e (fun rrule =>
 cond (!decide (rrule = (0 : Int)))
 (k1 rrule ([] : List t6y))
 (let n2 := (IntKind.i64.wrap (n + (IntKind.i64.wrap ((IntKind.i64.wrap (e.2.1 - e.1)) + (1 : Int)))));
 rec n2 t23 t24 (IntKind.i64.wrap (t25 + (1 : Int))) z)))
 none)
 (k2 n z)
def zqnn (m : Nat) {β : Type} (k1 : zqnc β) (k2 : zqnd β) : zqne β := lp5 (fun r => zqnm r k1 k2) none m
theorem zqno {β : Type} (i : Nat) (k1 k2) : zqnn (β := β) (i + 1) k1 k2 = zqnm (zqnn i k1 k2) k1 k2 := rfl
def zqnp {β : Type} := hid (zqnn (β := β) fuel)
noncomputable def zqnq : Pb := ⟨250, zqnf, fun _ => zqnp, pl (p := zqnf) zqnb [] (g := fun i _ => zqnn i) (by kernel_rfl) rfl (by kernel_rfl) (fun _ _ => rfl) fun _ _ _ _ => by kernel_rfl⟩
def zqnr {β : Type} (rec : zqnk β) (k1 : zqnj β) : zqnk β := fun y t46 t47 t48 out r_ =>
 cond (decide (y ≤ r_.2.1))
 (zqgi y r_.2.2.1 r_.2.2.2.1 r_.2.2.2.2.1 (fun rNth rNth2 =>
 let l := ([((IntKind.i64.wrap ((IntKind.i64.wrap (rNth * (86400 : Int))) + r_.2.2.2.2.2.1)), r_.2.2.2.2.2.2)] : List t6y);
 cond (decide ((List.length out + List.length l) * 16 ≤ Q8))
 (let l2 := (out ++ l);
 let y2 := (IntKind.i64.wrap (y + (1 : Int)));
 rec y2 t46 t47 t48 l2 r_)
 none))
 (k1 t46 t47 t48 out)
def zqns (m : Nat) {β : Type} (k1 : zqnj β) : zqnk β := lp6 (fun r => zqnr r k1) none m
theorem zqnt {β : Type} (i : Nat) (k1) : zqns (β := β) (i + 1) k1 = zqnr (zqns i k1) k1 := rfl
def zqnu {β : Type} := hid (zqns (β := β) fuel)
noncomputable def zqnv : Pb := ⟨230, zqnl, fun _ => zqnu, pl (p := zqnl) zqnb [] (g := fun i _ => zqns i) (by kernel_rfl) rfl (by kernel_rfl) (fun _ _ => rfl) fun _ _ _ _ => by kernel_rfl⟩
def zqnw {β : Type} (rec : zqnh β) (k1 : zqng β) : zqnh β := fun t46 t47 t48 out =>
 cond (decide (t48 < t47))
 (cond (decide (0 ≤ t48) && decide (t48 < (List.length t46 : Int)))
 (let e := List.getD t46 (Int.toNat t48) ((0 : Int), ((0 : Int), ((0 : Int), ((0 : Int), ((0 : Int), ((0 : Int), (0 : Int)))))));
 zqnu (fun t462 t472 t482 out2 =>
 rec t462 t472 (IntKind.i64.wrap (t482 + (1 : Int))) out2) e.1 t46 t47 t48 out e)
 none)
 (k1 out)
def zqnx (m : Nat) {β : Type} (k1 : zqng β) : zqnh β := lp4 (fun r => zqnw r k1) none m
theorem zqny {β : Type} (i : Nat) (k1) : zqnx (β := β) (i + 1) k1 = zqnw (zqnx i k1) k1 := rfl
def zqnz {β : Type} := hid (zqnx (β := β) fuel)
noncomputable def zqo0 : Pb := ⟨2042, zqni, fun _ => zqnz, pl (p := zqni) zqnb [zqnv] (g := fun i _ => zqnx i) (by kernel_rfl) rfl (by kernel_rfl) (fun _ _ => rfl) fun _ _ _ _ => by kernel_rfl⟩
def zqo1 : zqna := fun z k =>
 Q27 z.2.1 (-64800 : Int) (64800 : Int) (fun rin =>
 cond (!rin)
 (k (1 : Int) ([] : List t6y))
 (cond (decide ((16 : Int) < (List.length z.2.2 : Int)))
 (k (5 : Int) ([] : List t6y))
 (zqnp (fun t3 t2 =>
 k t3 t2) (fun n z2 =>
 cond (decide ((640 : Int) < n))
 (k (5 : Int) ([] : List t6y))
 (zqnz (fun out =>
 cond ((List.all out zqmx) && decide (List.length out < 13))
 (let l := (zqmz out);
 k (0 : Int) l)
 none) z2.2.2 (List.length z2.2.2 : Int) (0 : Int) ([] : List t6y))) (0 : Int) z.2.2 (List.length z.2.2 : Int) (0 : Int) z)))
def zqo2 : zqna := hid zqo1
noncomputable def zqo3 : En := ⟨103, .spec (sg [v49y] [] [v34y, v19y] l69y zqo2), pf zqnb [zqnq, zqo0] [.tmp 2, .tmp 3] Tryz.func103 (by kernel_rfl) fun _ _ => by kernel_rfl⟩
abbrev zqo4 := {β : Type} → t12y → (Int → Option β) → Option β
noncomputable def zqo5 : List En := [zqmc]
abbrev zqo6 (β : Type) := Int → Option β
abbrev zqo7 (β : Type) := Unit → Option β
abbrev zqo8 (β : Type) := t12y → Int → Int → Option β
noncomputable def zqo9 : Pc := ⟨19, 0, Q4 26 (Q3 Tryz.f82), ⟨0, [0, 1, 7, 8], [v36y, (false, [.fn 56 []]), v19y, v19y], []⟩, [(.ret, ⟨0, [4], [v19y], []⟩), (.exit 0, ⟨0, [], [], []⟩)]⟩
def zqoa {β : Type} (rec : zqo8 β) (k1 : zqo6 β) (k2 : zqo7 β) : zqo8 β := fun s t7 t8 =>
 cond (decide (t8 < t7))
 (cond (decide (0 ≤ t8) && decide (t8 < (List.length s : Int)))
 (let e := List.getD s (Int.toNat t8) (0 : Int);
 zqmb e (fun rcheckCalendar1 =>
 cond rcheckCalendar1
 (k1 t8)
 (rec s t7 (IntKind.i64.wrap (t8 + (1 : Int))))))
 none)
 (k2 ())
def zqob (m : Nat) {β : Type} (k1 : zqo6 β) (k2 : zqo7 β) : zqo8 β := lp3 (fun r => zqoa r k1 k2) none m
theorem zqoc {β : Type} (i : Nat) (k1 k2) : zqob (β := β) (i + 1) k1 k2 = zqoa (zqob i k1 k2) k1 k2 := rfl
def zqod {β : Type} := hid (zqob (β := β) fuel)
noncomputable def zqoe : Pb := ⟨26, zqo9, fun _ => zqod, pl (p := zqo9) zqo5 [] (g := fun i _ => zqob i) (by kernel_rfl) rfl (by kernel_rfl) (fun _ _ => rfl) fun _ _ _ _ => by kernel_rfl⟩
def zqof : zqo4 := fun s k =>
 zqod (fun t4 =>
 k t4) (fun _ =>
 k (-1 : Int)) s (List.length s : Int) (0 : Int)
def zqog : zqo4 := hid zqof
noncomputable def zqoh : En := ⟨82, .spec (sg [v36y, (false, [.fn 56 []])] [] [v19y] [] zqog), pf zqo5 [zqoe] [.tmp 4] Tryz.func82 (by kernel_rfl) fun _ _ => by kernel_rfl⟩
abbrev zqoi := {β : Type} → t12y → zqg → (Int → zqg → Option β) → Option β
noncomputable def zqoj : List En := [zq4n]
abbrev zqok (β : Type) := Int → zqg → Option β
abbrev zqol (β : Type) := zqg → Option β
abbrev zqom (β : Type) := t12y → Int → Int → zqg → Option β
noncomputable def zqon : Pc := ⟨19, 1, Q4 26 (Q3 Tryz.f82), ⟨1, [0, 1, 7, 8], [v36y, (false, [.fn 84 [0]]), v19y, v19y], [b25y]⟩, [(.ret, ⟨1, [4], [v19y], [b25y]⟩), (.exit 0, ⟨1, [], [], [b25y]⟩)]⟩
def zqoo {β : Type} (rec : zqom β) (k1 : zqok β) (k2 : zqol β) : zqom β := fun s t7 t8 b0_ =>
 cond (decide (t8 < t7))
 (cond (decide (0 ≤ t8) && decide (t8 < (List.length s : Int)))
 (let e := List.getD s (Int.toNat t8) (0 : Int);
 zq4m e b0_ (fun rcheckLayer1 mrcheckLayer1 =>
 cond rcheckLayer1
 (k1 t8 mrcheckLayer1)
 (rec s t7 (IntKind.i64.wrap (t8 + (1 : Int))) mrcheckLayer1)))
 none)
 (k2 b0_)
def zqop (m : Nat) {β : Type} (k1 : zqok β) (k2 : zqol β) : zqom β := lp4 (fun r => zqoo r k1 k2) none m
theorem zqoq {β : Type} (i : Nat) (k1 k2) : zqop (β := β) (i + 1) k1 k2 = zqoo (zqop i k1 k2) k1 k2 := rfl
def zqor {β : Type} := hid (zqop (β := β) fuel)
noncomputable def zqos : Pb := ⟨26, zqon, fun _ => zqor, pl (p := zqon) zqoj [] (g := fun i _ => zqop i) (by kernel_rfl) rfl (by kernel_rfl) (fun _ _ => rfl) fun _ _ _ _ => by kernel_rfl⟩
def zqot : zqoi := fun s b0_ k =>
 zqor (fun t4 b0_2 =>
 k t4 b0_2) (fun b0_2 =>
 k (-1 : Int) b0_2) s (List.length s : Int) (0 : Int) b0_
def zqou : zqoi := hid zqot
noncomputable def zqov : En := ⟨82, .spec (sg [v36y, (false, [.fn 84 [0]])] [b25y] [v19y] [b25y] zqou), pf zqoj [zqos] [.tmp 4] Tryz.func82 (by kernel_rfl) fun _ _ => by kernel_rfl⟩
abbrev zqow := {β : Type} → t5y → (Int → t8y → Option β) → Option β
noncomputable def zqox : List En := [zqn9, zq4u, zq51]
abbrev zqoy (β : Type) := Int → t8y → Option β
abbrev zqoz (β : Type) := t5y → Option β
abbrev zqp0 (β : Type) := t5y → Int → Int → Option β
noncomputable def zqp1 : Pc := ⟨56, 0, Q4 58 (Q3 Tryz.f64), ⟨0, [0, 14, 15], [v27y, v19y, v19y], []⟩, [(.ret, ⟨0, [2, 3], [v34y, v19y], [.row 127 zq7]⟩), (.exit 0, ⟨0, [0], [v27y], []⟩)]⟩
abbrev zqp2 (β : Type) := Int → t8y → Option β
abbrev zqp3 (β : Type) := t8y → Option β
abbrev zqp4 (β : Type) := Int → Int → t8y → (List t5y) → Option β
noncomputable def zqp5 : Pc := ⟨56, 0, Q4 506 (Q3 Tryz.f64), ⟨0, [5, 36, 37, 38], [v34y, v53y, v19y, v19y], [.row 127 zq7, .row 9 .str]⟩, [(.ret, ⟨0, [2, 3], [v34y, v19y], [.row 127 zq7]⟩), (.exit 2, ⟨0, [5], [v34y], [.row 127 zq7]⟩)]⟩
def zqp6 {β : Type} (rec : zqp0 β) (k1 : zqoy β) (k2 : zqoz β) : zqp0 β := fun text t14 t15 =>
 cond (decide (t15 < t14))
 (cond (decide (0 ≤ t15) && decide (t15 < (List.length text : Int)))
 (cond (decide (((List.getD text (Int.toNat t15) 0).toNat : Int) < (32 : Int)))
 (k1 (2 : Int) ([] : List zq6))
 (cond (decide (0 ≤ t15) && decide (t15 < (List.length text : Int)))
 (cond (decide ((126 : Int) < ((List.getD text (Int.toNat t15) 0).toNat : Int)))
 (k1 (2 : Int) ([] : List zq6))
 (rec text t14 (IntKind.i64.wrap (t15 + (1 : Int)))))
 none))
 none)
 (k2 text)
def zqp7 (m : Nat) {β : Type} (k1 : zqoy β) (k2 : zqoz β) : zqp0 β := lp3 (fun r => zqp6 r k1 k2) none m
theorem zqp8 {β : Type} (i : Nat) (k1 k2) : zqp7 (β := β) (i + 1) k1 k2 = zqp6 (zqp7 i k1 k2) k1 k2 := rfl
def zqp9 {β : Type} := hid (zqp7 (β := β) fuel)
noncomputable def zqpa : Pb := ⟨58, zqp1, fun _ => zqp9, pl (p := zqp1) zqox [] (g := fun i _ => zqp7 i) (by kernel_rfl) rfl (by kernel_rfl) (fun _ _ => rfl) fun _ _ _ _ => by kernel_rfl⟩
def zqpb {β : Type} (rec : zqp4 β) (k1 : zqp2 β) (k2 : zqp3 β) : zqp4 β := fun t37 t38 out t36 =>
 cond (decide (t38 < t37))
 (cond (decide (0 ≤ t38) && decide (t38 < (List.length t36 : Int)))
 (let w := (List.getD t36 (Int.toNat t38) ([] : List UInt8));
 zqn8 w (fun rToken rToken2 =>
 cond (!decide (rToken2 = (0 : Int)))
 (k1 rToken2 ([] : List zq6))
 (let l := ([rToken] : List zq6);
 cond (decide ((List.length out + List.length l) * 32 ≤ Q8))
 (let l2 := (out ++ l);
 rec t37 (IntKind.i64.wrap (t38 + (1 : Int))) l2 t36)
 none)))
 none)
 (k2 out)
def zqpc (m : Nat) {β : Type} (k1 : zqp2 β) (k2 : zqp3 β) : zqp4 β := lp4 (fun r => zqpb r k1 k2) none m
theorem zqpd {β : Type} (i : Nat) (k1 k2) : zqpc (β := β) (i + 1) k1 k2 = zqpb (zqpc i k1 k2) k1 k2 := rfl
def zqpe {β : Type} := hid (zqpc (β := β) fuel)
noncomputable def zqpf : Pb := ⟨506, zqp5, fun _ => zqpe, pl (p := zqp5) zqox [] (g := fun i _ => zqpc i) (by kernel_rfl) rfl (by kernel_rfl) (fun _ _ => rfl) fun _ _ _ _ => by kernel_rfl⟩
def zqpg : zqow := fun text k =>
 cond (decide ((512 : Int) < (List.length text : Int)))
 (k (5 : Int) ([] : List zq6))
 (zqp9 (fun t3 t2 =>
 k t3 t2) (fun text2 =>
 zq4s text2 ([35] : List UInt8) (fun rCut rCut2 rCut3 =>
 zq4z rCut (fun lrFields =>
 zqpe (fun t3 t2 =>
 k t3 t2) (fun out =>
 k (0 : Int) out) (List.length lrFields : Int) (0 : Int) ([] : List zq6) lrFields))) text (List.length text : Int) (0 : Int))
def zqph : zqow := hid zqpg
noncomputable def zqpi : En := ⟨64, .spec (sg [v27y] [] [v34y, v19y] [.row 127 zq7] zqph), pf zqox [zqpa, zqpf] [.tmp 2, .tmp 3] Tryz.func64 (by kernel_rfl) fun _ _ => by kernel_rfl⟩
abbrev zqpj := {β : Type} → zqa → (Int → t10y → Option β) → Option β
noncomputable def zqpk : List En := [zq5e, zqo3]
abbrev zqpl (β : Type) := Int → t10y → Option β
abbrev zqpm (β : Type) := t10y → Option β
abbrev zqpn (β : Type) := Int → Int → Int → t10y → t10y → Option β
noncomputable def zqpo : Pc := ⟨79, 0, Q4 506 (Q3 Tryz.f77), ⟨0, [6, 7, 22, 23, 24], [v34y, v19y, v53y, v19y, v19y], l81y⟩, [(.ret, ⟨0, [2, 3], [v34y, v19y], l82y⟩), (.exit 0, ⟨0, [6], [v34y], l82y⟩)]⟩
abbrev zqpp (β : Type) := Int → Int → Int → t10y → t10y → Option β
abbrev zqpq (β : Type) := Int → Int → Int → t10y → t6y → t10y → Option β
noncomputable def zqpr : Pc := ⟨79, 0, Q4 463 (Qy zqpo.c), ⟨0, [6, 9, 10, 22, 23, 24], [v34y, v30y, v19y, (false, [.rowh 2]), v19y, v19y], [.row 167 (.prod (.int .i64) (.int .i64)), .cells 165 [.data (.prod (.int .i64) (.int .i64))], .row 165 (.prod (.int .i64) (.int .i64))]⟩, [(.normal, ⟨0, [6, 7, 22, 23, 24], [v34y, v19y, v53y, v19y, v19y], l81y⟩)]⟩
def zqps {β : Type} (k1 : zqpp β) : zqpq β := fun at_ t23 t24 out o t22 =>
 let l := ([(at_, o.2)] : List t6y);
 cond (decide ((List.length out + List.length l) * 16 ≤ Q8))
 (let l2 := (out ++ l);
 k1 o.2 t23 t24 l2 t22)
 none
def zqpt {β : Type} := hid (zqps (β := β))
noncomputable def zqpu : Pb := ⟨463, zqpr, fun _ => zqpt, pe (p := zqpr) zqpk [] 463 (g := fun _ => zqps) (by kernel_rfl) fun _ _ => by kernel_rfl⟩
def zqpv {β : Type} (rec : zqpn β) (k1 : zqpl β) (k2 : zqpm β) : zqpn β := fun now t23 t24 out t22 =>
 cond (decide (t24 < t23))
 (cond (decide (0 ≤ t24) && decide (t24 < (List.length t22 : Int)))
 (cond (decide (((List.getD t22 (Int.toNat t24) ((0 : Int), (0 : Int))).2) = now))
 (rec now t23 (IntKind.i64.wrap (t24 + (1 : Int))) out t22)
 (let at_ := (IntKind.i64.wrap (((List.getD t22 (Int.toNat t24) ((0 : Int), (0 : Int))).1) - now));
 let change := (IntKind.i64.wrap (((List.getD t22 (Int.toNat t24) ((0 : Int), (0 : Int))).2) - now));
 cond (decide ((86400 : Int) ≤ change))
 (k1 (6 : Int) ([] : List t6y))
 (cond (decide (change ≤ (-86400 : Int)))
 (k1 (6 : Int) ([] : List t6y))
 (Q27 at_ (0 : Int) (8589934592 : Int) (fun rin =>
 cond (!rin)
 (k1 (6 : Int) ([] : List t6y))
 (cond (decide ((0 : Int) < (List.length out : Int)))
 (cond (decide (0 ≤ (IntKind.i64.wrap ((List.length out : Int) - (1 : Int)))) && decide ((IntKind.i64.wrap ((List.length out : Int) - (1 : Int))) < (List.length out : Int)))
 (cond (decide (at_ < (IntKind.i64.wrap (((List.getD out (Int.toNat (IntKind.i64.wrap ((List.length out : Int) - (1 : Int)))) ((0 : Int), (0 : Int))).1) + (604800 : Int)))))
 (k1 (6 : Int) ([] : List t6y))
 (zqpt (fun now2 t232 t242 out2 t222 =>
 rec now2 t232 (IntKind.i64.wrap (t242 + (1 : Int))) out2 t222) at_ t23 t24 out (List.getD t22 (Int.toNat t24) ((0 : Int), (0 : Int))) t22))
 none)
 (zqpt (fun now2 t232 t242 out2 t222 =>
 rec now2 t232 (IntKind.i64.wrap (t242 + (1 : Int))) out2 t222) at_ t23 t24 out (List.getD t22 (Int.toNat t24) ((0 : Int), (0 : Int))) t22)))))))
 none)
 (k2 out)
def zqpw (m : Nat) {β : Type} (k1 : zqpl β) (k2 : zqpm β) : zqpn β := lp5 (fun r => zqpv r k1 k2) none m
theorem zqpx {β : Type} (i : Nat) (k1 k2) : zqpw (β := β) (i + 1) k1 k2 = zqpv (zqpw i k1 k2) k1 k2 := rfl
def zqpy {β : Type} := hid (zqpw (β := β) fuel)
noncomputable def zqpz : Pb := ⟨506, zqpo, fun _ => zqpy, pl (p := zqpo) zqpk [zqpu] (g := fun i _ => zqpw i) (by kernel_rfl) rfl (by kernel_rfl) (fun _ _ => rfl) fun _ _ _ _ => by kernel_rfl⟩
def zqq0 : zqpj := fun z k =>
 zqo2 z (fun roccurrences lroccurrences =>
 cond (!decide (roccurrences = (0 : Int)))
 (k roccurrences ([] : List t6y))
 (zqpy (fun t3 t2 =>
 k t3 t2) (fun out =>
 k (0 : Int) out) z.2.1 (List.length lroccurrences : Int) (0 : Int) ([] : List t6y) lroccurrences))
def zqq1 : zqpj := hid zqq0
noncomputable def zqq2 : En := ⟨77, .spec (sg [v49y] [] [v34y, v19y] l82y zqq1), pf zqpk [zqpz] [.tmp 2, .tmp 3] Tryz.func77 (by kernel_rfl) fun _ _ => by kernel_rfl⟩
abbrev zqq3 := {β : Type} → t12y → (Bool → Option β) → Option β
def zqq4 : zqq3 := fun s k =>
 zqog s (fun rIndexFuncintint =>
 let t := (decide ((0 : Int) ≤ rIndexFuncintint));
 k t)
def zqq5 : zqq3 := hid zqq4
noncomputable def zqq6 : En := ⟨55, .spec (sg [v36y, (false, [.fn 56 []])] [] [v24y] [] zqq5), pf [zqoh] [] [.tmp 4] Tryz.func55 (by kernel_rfl) fun _ _ => by kernel_rfl⟩
abbrev zqq7 := {β : Type} → t12y → zqg → (Bool → zqg → Option β) → Option β
def zqq8 : zqq7 := fun s b0_ k =>
 zqou s b0_ (fun rIndexFuncintint mrIndexFuncintint =>
 let t := (decide ((0 : Int) ≤ rIndexFuncintint));
 k t mrIndexFuncintint)
def zqq9 : zqq7 := hid zqq8
noncomputable def zqqa : En := ⟨55, .spec (sg [v36y, (false, [.fn 84 [0]])] [b25y] [v24y] [b25y] zqq9), pf [zqov] [] [.tmp 4] Tryz.func55 (by kernel_rfl) fun _ _ => by kernel_rfl⟩
abbrev zqqb := {β : Type} → zqg → zq0 → (Int → Option β) → Option β
noncomputable def zqqc : List En := [zq2z, zqq6]
abbrev zqqd (β : Type) := Int → Option β
abbrev zqqe (β : Type) := Unit → Option β
abbrev zqqf (β : Type) := Int → Int → zq0 → Option β
noncomputable def zqqg : Pc := ⟨46, 0, Q4 58 (Q3 Tryz.f26), ⟨0, [3, 25, 26], [v23y, v19y, v19y], [.cells 71 [.data zq1]]⟩, [(.ret, ⟨0, [4], [v19y], []⟩), (.exit 1, ⟨0, [], [], []⟩)]⟩
def zqqh {β : Type} (rec : zqqf β) (k1 : zqqd β) (k2 : zqqe β) : zqqf β := fun t25 t26 x =>
 cond (decide (t26 < t25))
 (cond (decide ((0 : Int) < t26))
 (cond (decide (0 ≤ t26) && decide (t26 < (List.length x.2.2 : Int)))
 (let e := List.getD x.2.2 (Int.toNat t26) (0 : Int);
 cond (decide (0 ≤ (IntKind.i64.wrap (t26 - (1 : Int)))) && decide ((IntKind.i64.wrap (t26 - (1 : Int))) < (List.length x.2.2 : Int)))
 (let e2 := List.getD x.2.2 (Int.toNat (IntKind.i64.wrap (t26 - (1 : Int)))) (0 : Int);
 cond (decide (e ≤ e2))
 (k1 (6 : Int))
 (rec t25 (IntKind.i64.wrap (t26 + (1 : Int))) x))
 none)
 none)
 (rec t25 (IntKind.i64.wrap (t26 + (1 : Int))) x))
 (k2 ())
def zqqi (m : Nat) {β : Type} (k1 : zqqd β) (k2 : zqqe β) : zqqf β := lp3 (fun r => zqqh r k1 k2) none m
theorem zqqj {β : Type} (i : Nat) (k1 k2) : zqqi (β := β) (i + 1) k1 k2 = zqqh (zqqi i k1 k2) k1 k2 := rfl
def zqqk {β : Type} := hid (zqqi (β := β) fuel)
noncomputable def zqql : Pb := ⟨58, zqqg, fun _ => zqqk, pl (p := zqqg) zqqc [] (g := fun i _ => zqqi i) (by kernel_rfl) rfl (by kernel_rfl) (fun _ _ => rfl) fun _ _ _ _ => by kernel_rfl⟩
def zqqm : zqqb := fun c x k =>
 zq2y x.2.1 (List.length c.1 : Int) (fun rindex =>
 cond (!rindex)
 (k (3 : Int))
 (let t := (decide ((64 : Int) < (List.length x.2.2 : Int)));
 cond t
 (k (5 : Int))
 (zqq5 x.2.2 (fun rContainsFuncintint =>
 cond rContainsFuncintint
 (k (1 : Int))
 (zqqk (fun t4 =>
 k t4) (fun _ =>
 k (0 : Int)) (List.length x.2.2 : Int) (0 : Int) x)))))
def zqqn : zqqb := hid zqqm
noncomputable def zqqo : En := ⟨26, .spec (sg [v42y, v62y] [] [v19y] [] zqqn), pf zqqc [zqql] [.tmp 4] Tryz.func26 (by kernel_rfl) fun _ _ => by kernel_rfl⟩
abbrev zqqp := {β : Type} → t5y → (Int → Int → (List t9y) → Option β) → Option β
noncomputable def zqqq : List En := [zqpi, zq3u, zqjz]
abbrev zqqr (β : Type) := Int → Int → (List t9y) → Option β
abbrev zqqs (β : Type) := (List t9y) → Option β
abbrev zqqt (β : Type) := Int → Int → (List t9y) → (List t5y) → Option β
noncomputable def zqqu : Pc := ⟨54, 0, Q4 58 (Q3 Tryz.f34), ⟨0, [2, 13, 14, 15], [v34y, v53y, v19y, v19y], [.row 119 (.prod (.int .i64) (.slice zq7)), .row 9 .str]⟩, [(.ret, ⟨0, [2, 3, 4], [v34y, v19y, v19y], l70y⟩), (.exit 0, ⟨0, [2], [v34y], l70y⟩)]⟩
abbrev zqqv (β : Type) := Int → Int → (List t9y) → Option β
abbrev zqqw (β : Type) := Int → Int → (List t9y) → (List t5y) → Option β
abbrev zqqx (β : Type) := Int → Int → Int → Int → (List t9y) → t8y → (List t5y) → Option β
noncomputable def zqqy : Pc := ⟨54, 0, Q4 231 (Qy zqqu.c), ⟨0, [2, 5, 7, 8, 13, 14, 15], [v34y, v19y, v53y, v19y, (false, [.rowh 2]), v19y, v19y], [.row 119 (.prod (.int .i64) (.slice zq7)), .row 127 zq7, .row 9 .str]⟩, [(.ret, ⟨0, [2, 3, 4], [v34y, v19y, v19y], l70y⟩), (.normal, ⟨0, [2, 13, 14, 15], [v34y, v53y, v19y, v19y], [.row 119 (.prod (.int .i64) (.slice zq7)), .row 9 .str]⟩)]⟩
def zqqz {β : Type} (k1 : zqqv β) (k2 : zqqw β) : zqqx β := fun i_ e t14 t15 l t t13 =>
 cond (!decide (e = (0 : Int)))
 (let line := (IntKind.i64.wrap (i_ + (1 : Int)));
 k1 line e ([] : List t9y))
 (cond (decide ((0 : Int) < (List.length t : Int)))
 (let l2 := ([((IntKind.i64.wrap (i_ + (1 : Int))), t)] : List t9y);
 cond (decide ((List.length l + List.length l2) * 32 ≤ Q8))
 (let l3 := (l ++ l2);
 k2 t14 t15 l3 t13)
 none)
 (k2 t14 t15 l t13))
def zqr0 {β : Type} := hid (zqqz (β := β))
noncomputable def zqr1 : Pb := ⟨231, zqqy, fun _ => zqr0, pe (p := zqqy) zqqq [] 231 (g := fun _ => zqqz) (by kernel_rfl) fun _ _ => by kernel_rfl⟩
def zqr2 {β : Type} (rec : zqqt β) (k1 : zqqr β) (k2 : zqqs β) : zqqt β := fun t14 t15 l t13 =>
 cond (decide (t15 < t14))
 (cond (decide (0 ≤ t15) && decide (t15 < (List.length t13 : Int)))
 (let s := (List.getD t13 (Int.toNat t15) ([] : List UInt8));
 zqph s (fun rLine lrLine =>
 cond (decide (rLine = (0 : Int)))
 (cond (decide ((0 : Int) < (List.length lrLine : Int)))
 (zqjy lrLine (fun rForm =>
 cond (!rForm)
 (zqr0 (fun line e l2 =>
 k1 line e l2) (fun t142 t152 l2 t132 =>
 rec t142 (IntKind.i64.wrap (t152 + (1 : Int))) l2 t132) t15 (2 : Int) t14 t15 l lrLine t13)
 (zqr0 (fun line e l2 =>
 k1 line e l2) (fun t142 t152 l2 t132 =>
 rec t142 (IntKind.i64.wrap (t152 + (1 : Int))) l2 t132) t15 rLine t14 t15 l lrLine t13)))
 (zqr0 (fun line e l2 =>
 k1 line e l2) (fun t142 t152 l2 t132 =>
 rec t142 (IntKind.i64.wrap (t152 + (1 : Int))) l2 t132) t15 rLine t14 t15 l lrLine t13))
 (zqr0 (fun line e l2 =>
 k1 line e l2) (fun t142 t152 l2 t132 =>
 rec t142 (IntKind.i64.wrap (t152 + (1 : Int))) l2 t132) t15 rLine t14 t15 l lrLine t13)))
 none)
 (k2 l)
def zqr3 (m : Nat) {β : Type} (k1 : zqqr β) (k2 : zqqs β) : zqqt β := lp4 (fun r => zqr2 r k1 k2) none m
theorem zqr4 {β : Type} (i : Nat) (k1 k2) : zqr3 (β := β) (i + 1) k1 k2 = zqr2 (zqr3 i k1 k2) k1 k2 := rfl
def zqr5 {β : Type} := hid (zqr3 (β := β) fuel)
noncomputable def zqr6 : Pb := ⟨58, zqqu, fun _ => zqr5, pl (p := zqqu) zqqq [zqr1] (g := fun i _ => zqr3 i) (by kernel_rfl) rfl (by kernel_rfl) (fun _ _ => rfl) fun _ _ _ _ => by kernel_rfl⟩
def zqr7 : zqqp := fun text k =>
 cond (decide ((65536 : Int) < (List.length text : Int)))
 (k (0 : Int) (5 : Int) ([] : List t9y))
 (zq3s text ([10] : List UInt8) (fun lrSplit =>
 zqr5 (fun line e l =>
 k line e l) (fun l =>
 k (0 : Int) (0 : Int) l) (List.length lrSplit : Int) (0 : Int) ([] : List t9y) lrSplit))
def zqr8 : zqqp := hid zqr7
noncomputable def zqr9 : En := ⟨34, .spec (sg [v27y] [] [v34y, v19y, v19y] l70y zqr8), pf zqqq [zqr6] [.tmp 2, .tmp 3, .tmp 4] Tryz.func34 (by kernel_rfl) fun _ _ => by kernel_rfl⟩
abbrev zqra := {β : Type} → zqa → (Int → Option β) → Option β
def zqrb : zqra := fun z k =>
 zqq1 z (fun rTransitions lrTransitions =>
 k rTransitions)
def zqrc : zqra := hid zqrb
noncomputable def zqrd : En := ⟨48, .spec (sg [v49y] [] [v19y] [] zqrc), pf [zqq2] [] [.tmp 2] Tryz.func48 (by kernel_rfl) fun _ _ => by kernel_rfl⟩
abbrev zqre := {β : Type} → zqg → zq2 → (Int → Option β) → Option β
noncomputable def zqrf : List En := [zqi6, zq4j, zq2z, zqqa, zq3j]
abbrev zqrg (β : Type) := Int → Option β
abbrev zqrh (β : Type) := Unit → Option β
abbrev zqri (β : Type) := Bool → zq2 → Option β
noncomputable def zqrj : Pc := ⟨91, 0, Q4 425983 (Q3 Tryz.f61), ⟨0, [3, 69], [v23y, v24y], [.cells 40 [.data zq3]]⟩, [(.ret, ⟨0, [4], [v19y], []⟩), (.normal, ⟨0, [], [], []⟩)]⟩
abbrev zqrk (β : Type) := Int → Option β
abbrev zqrl (β : Type) := Unit → Option β
abbrev zqrm (β : Type) := Bool → zqg → zq2 → Option β
noncomputable def zqrn : Pc := ⟨91, 0, Q4 103 (Q3 Tryz.f61), ⟨0, [2, 3, 13], [v23y, v30y, v24y], [b25y, .cells 40 [.data zq3]]⟩, [(.ret, ⟨0, [4], [v19y], []⟩), (.normal, ⟨0, [], [], []⟩)]⟩
def zqro {β : Type} (k1 : zqrg β) (k2 : zqrh β) : zqri β := fun t69 l =>
 cond t69
 (k1 (3 : Int))
 (cond (decide (l.2.2.2.2.2.2.2.2 = (0 : Int)))
 (let t := (!decide (l.2.2.2.2.2.2.2.1 = (0 : Int)));
 cond t
 (k1 (1 : Int))
 (k2 ()))
 (k2 ()))
def zqrp {β : Type} := hid (zqro (β := β))
noncomputable def zqrq : Pb := ⟨425983, zqrj, fun _ => zqrp, pe (p := zqrj) zqrf [] 425983 (g := fun _ => zqro) (by kernel_rfl) fun _ _ => by kernel_rfl⟩
def zqrr {β : Type} (k1 : zqrk β) (k2 : zqrl β) : zqrm β := fun t13 c l =>
 cond t13
 (k1 (1 : Int))
 (let t := (decide ((List.length l.2.2.2.2.2.1 : Int) = (0 : Int)));
 cond t
 (k1 (7 : Int))
 (let t2 := (decide ((12 : Int) < (List.length l.2.2.2.2.2.1 : Int)));
 cond t2
 (k1 (5 : Int))
 (zqq9 l.2.2.2.2.2.1 c (fun rContainsFuncintint mrContainsFuncintint =>
 cond rContainsFuncintint
 (k1 (3 : Int))
 (zq3i l.2.2.2.2.2.2.1 (fun rCheck =>
 let t3 := (!decide (rCheck = (0 : Int)));
 cond t3
 (k1 (8 : Int))
 (zq4i l.2.2.2.2.2.2.2.2 (0 : Int) (2 : Int) (fun rin =>
 cond (!rin)
 (k1 (1 : Int))
 (cond (!decide (l.2.2.2.2.2.2.2.2 = (0 : Int)))
 (zq2y l.2.2.2.2.2.2.2.1 (List.length mrContainsFuncintint.2.2.1 : Int) (fun rindex =>
 zqrp (fun t4 =>
 k1 t4) (fun _ =>
 k2 ()) (!rindex) l))
 (zqrp (fun t4 =>
 k1 t4) (fun _ =>
 k2 ()) false l))))))))))
def zqrs {β : Type} := hid (zqrr (β := β))
noncomputable def zqrt : Pb := ⟨103, zqrn, fun _ => zqrs, pe (p := zqrn) zqrf [zqrq] 103 (g := fun _ => zqrr) (by kernel_rfl) fun _ _ => by kernel_rfl⟩
def zqru : zqre := fun c l k =>
 zq2y l.2.1 (List.length c.1 : Int) (fun rindex =>
 cond (!rindex)
 (k (3 : Int))
 (cond (decide (l.2.2.1.1 < (1 : Int)))
 (zqrs (fun t4 =>
 k t4) (fun _ =>
 k (0 : Int)) true c l)
 (zqi5 l.2.2.1.1 (fun rday =>
 cond (!rday)
 (zqrs (fun t4 =>
 k t4) (fun _ =>
 k (0 : Int)) true c l)
 (zq4i l.2.2.1.2 (0 : Int) (86399 : Int) (fun rin =>
 cond (!rin)
 (zqrs (fun t4 =>
 k t4) (fun _ =>
 k (0 : Int)) true c l)
 (zq4i l.2.2.2.1 (0 : Int) (2 : Int) (fun rin2 =>
 cond (!rin2)
 (zqrs (fun t4 =>
 k t4) (fun _ =>
 k (0 : Int)) true c l)
 (zq4i l.2.2.2.2.1 (1 : Int) (400 : Int) (fun rin3 =>
 zqrs (fun t4 =>
 k t4) (fun _ =>
 k (0 : Int)) (!rin3) c l))))))))))
def zqrv : zqre := hid zqru
noncomputable def zqrw : En := ⟨61, .spec (sg [v42y, (true, [.data zq3])] [] [v19y] [] zqrv), pf zqrf [zqrt] [.tmp 4] Tryz.func61 (by kernel_rfl) fun _ _ => by kernel_rfl⟩
abbrev zqrx := {β : Type} → zq0 → zqg → (Int → zqg → Option β) → Option β
def zqry : zqrx := fun x t1 k =>
 zqqn t1 x (fun rcheckCalendar =>
 k rcheckCalendar t1)
def zqrz : zqrx := hid zqry
noncomputable def zqs0 : En := ⟨25, .spec (sg [v62y, v23y] [b25y] [v19y] [b25y] zqrz), pf [zqqo] [] [.tmp 3] Tryz.func25 (by kernel_rfl) fun _ _ => by kernel_rfl⟩
abbrev zqs1 := {β : Type} → zq2 → zqg → (Int → zqg → Option β) → Option β
def zqs2 : zqs1 := fun l t1 k =>
 zqrv t1 l (fun rcheckLayer =>
 k rcheckLayer t1)
def zqs3 : zqs1 := hid zqs2
noncomputable def zqs4 : En := ⟨60, .spec (sg [(true, [.data zq3]), v23y] [b25y] [v19y] [b25y] zqs3), pf [zqrw] [] [.tmp 3] Tryz.func60 (by kernel_rfl) fun _ _ => by kernel_rfl⟩
abbrev zqs5 := {β : Type} → (List zq2) → zqg → (Int → zqg → Option β) → Option β
noncomputable def zqs6 : List En := [zq3n, zqs4, zqdd]
abbrev zqs7 (β : Type) := Int → zqg → Option β
abbrev zqs8 (β : Type) := zqg → Option β
abbrev zqs9 (β : Type) := (List zq2) → Int → Int → zqg → (List t11y) → Option β
noncomputable def zqsa : Pc := ⟨34, 1, Q4 58 (Q3 Tryz.f58), ⟨1, [1, 2, 7, 13, 14, 15], [(false, [.fn 59 []]), (false, [.fn 60 [0]]), (false, [.maph 1]), (false, [.data (.slice zq3)]), v19y, v19y], l73y⟩, [(.ret, ⟨1, [6], [v19y], [b25y]⟩), (.exit 0, ⟨1, [], [], [b25y]⟩)]⟩
def zqsb {β : Type} (rec : zqs9 β) (k1 : zqs7 β) (k2 : zqs8 β) : zqs9 β := fun t13 t14 t15 b0_ seen =>
 cond (decide (t15 < t14))
 (cond (decide (0 ≤ t15) && decide (t15 < (List.length t13 : Int)))
 (let e := List.getD t13 (Int.toNat t15) (([] : List UInt8), ((0 : Int), (((0 : Int), (0 : Int)), ((0 : Int), ((0 : Int), (([] : List Int), (([] : List t6y), ((0 : Int), (0 : Int)))))))));
 zq3m e (fun rcheckSchedule1 =>
 zqdb rcheckSchedule1 seen (fun rname lrname =>
 cond (!decide (rname = (0 : Int)))
 (k1 rname b0_)
 (zqs3 e b0_ (fun rcheckSchedule2 mrcheckSchedule2 =>
 cond (!decide (rcheckSchedule2 = (0 : Int)))
 (k1 rcheckSchedule2 mrcheckSchedule2)
 (rec t13 t14 (IntKind.i64.wrap (t15 + (1 : Int))) mrcheckSchedule2 lrname))))))
 none)
 (k2 b0_)
def zqsc (m : Nat) {β : Type} (k1 : zqs7 β) (k2 : zqs8 β) : zqs9 β := lp5 (fun r => zqsb r k1 k2) none m
theorem zqsd {β : Type} (i : Nat) (k1 k2) : zqsc (β := β) (i + 1) k1 k2 = zqsb (zqsc i k1 k2) k1 k2 := rfl
def zqse {β : Type} := hid (zqsc (β := β) fuel)
noncomputable def zqsf : Pb := ⟨58, zqsa, fun _ => zqse, pl (p := zqsa) zqs6 [] (g := fun i _ => zqsc i) (by kernel_rfl) rfl (by kernel_rfl) (fun _ _ => rfl) fun _ _ _ _ => by kernel_rfl⟩
def zqsg : zqs5 := fun l b0_ k =>
 let m_ := ([] : List t11y);
 zqse (fun t6 b0_2 =>
 k t6 b0_2) (fun b0_2 =>
 k (0 : Int) b0_2) l (List.length l : Int) (0 : Int) b0_ m_
def zqsh : zqs5 := hid zqsg
noncomputable def zqsi : En := ⟨58, .spec (sg [(false, [.data (.slice zq3)]), (false, [.fn 59 []]), (false, [.fn 60 [0]])] [b25y] [v19y] [b25y] zqsh), pf zqs6 [zqsf] [.tmp 6] Tryz.func58 (by kernel_rfl) fun _ _ => by kernel_rfl⟩
abbrev zqsj := {β : Type} → zqg → zq4 → (Int → Option β) → Option β
noncomputable def zqsk : List En := [zqj9, zqsi]
abbrev zqsl (β : Type) := Int → Option β
abbrev zqsm (β : Type) := Unit → Option β
abbrev zqsn (β : Type) := (List t0y) → Int → Int → zqg → Option β
noncomputable def zqso : Pc := ⟨40, 0, Q4 250 (Q3 Tryz.f30), ⟨0, [2, 27, 28, 29], [v23y, (false, [.data (.slice (.prod (.int .i64) (.prod (.int .i64) (.prod (.int .i64) (.prod (.int .i64) (.int .i64))))))]), v19y, v19y], [b25y]⟩, [(.ret, ⟨0, [4], [v19y], []⟩), (.exit 0, ⟨0, [], [], []⟩)]⟩
def zqsp {β : Type} (rec : zqsn β) (k1 : zqsl β) (k2 : zqsm β) : zqsn β := fun t27 t28 t29 c =>
 cond (decide (t29 < t28))
 (cond (decide (0 ≤ t29) && decide (t29 < (List.length t27 : Int)))
 (let e := List.getD t27 (Int.toNat t29) ((0 : Int), ((0 : Int), ((0 : Int), ((0 : Int), (0 : Int)))));
 zqj8 c e (fun rcheckEdit =>
 cond (!decide (rcheckEdit = (0 : Int)))
 (k1 rcheckEdit)
 (rec t27 t28 (IntKind.i64.wrap (t29 + (1 : Int))) c)))
 none)
 (k2 ())
def zqsq (m : Nat) {β : Type} (k1 : zqsl β) (k2 : zqsm β) : zqsn β := lp4 (fun r => zqsp r k1 k2) none m
theorem zqsr {β : Type} (i : Nat) (k1 k2) : zqsq (β := β) (i + 1) k1 k2 = zqsp (zqsq i k1 k2) k1 k2 := rfl
def zqss {β : Type} := hid (zqsq (β := β) fuel)
noncomputable def zqst : Pb := ⟨250, zqso, fun _ => zqss, pl (p := zqso) zqsk [] (g := fun i _ => zqsq i) (by kernel_rfl) rfl (by kernel_rfl) (fun _ _ => rfl) fun _ _ _ _ => by kernel_rfl⟩
def zqsu : zqsj := fun c s k =>
 cond (decide ((6 : Int) < (List.length s.2.1 : Int)))
 (k (5 : Int))
 (cond (decide ((48 : Int) < (List.length s.2.2 : Int)))
 (k (5 : Int))
 (zqsh s.2.1 c (fun rLayer mrLayer =>
 cond (!decide (rLayer = (0 : Int)))
 (k rLayer)
 (zqss (fun t4 =>
 k t4) (fun _ =>
 k (0 : Int)) s.2.2 (List.length s.2.2 : Int) (0 : Int) mrLayer))))
def zqsv : zqsj := hid zqsu
noncomputable def zqsw : En := ⟨30, .spec (sg [v42y, v61y] [] [v19y] [] zqsv), pf zqsk [zqst] [.tmp 4] Tryz.func30 (by kernel_rfl) fun _ _ => by kernel_rfl⟩
abbrev zqsx := {β : Type} → zq4 → zqg → (Int → zqg → Option β) → Option β
def zqsy : zqsx := fun s t1 k =>
 zqsv t1 s (fun rcheckSchedule =>
 k rcheckSchedule t1)
def zqsz : zqsx := hid zqsy
noncomputable def zqt0 : En := ⟨29, .spec (sg [v61y, v23y] [b25y] [v19y] [b25y] zqsz), pf [zqsw] [] [.tmp 3] Tryz.func29 (by kernel_rfl) fun _ _ => by kernel_rfl⟩
abbrev zqt1 := {β : Type} → t13y → (Int → Option β) → Option β
noncomputable def zqt2 : List En := [zq2v]
abbrev zqt3 (β : Type) := Int → Option β
abbrev zqt4 (β : Type) := Unit → Option β
abbrev zqt5 (β : Type) := t13y → Int → Int → Option β
noncomputable def zqt6 : Pc := ⟨19, 0, Q4 26 (Q3 Tryz.f78), ⟨0, [0, 1, 7, 8], [v43y, (false, [.fn 50 []]), v19y, v19y], []⟩, [(.ret, ⟨0, [4], [v19y], []⟩), (.exit 0, ⟨0, [], [], []⟩)]⟩
def zqt7 {β : Type} (rec : zqt5 β) (k1 : zqt3 β) (k2 : zqt4 β) : zqt5 β := fun s t7 t8 =>
 cond (decide (t8 < t7))
 (cond (decide (0 ≤ t8) && decide (t8 < (List.length s : Int)))
 (let e := List.getD s (Int.toNat t8) ((0 : Int), ((0 : Int), ((0 : Int), ((0 : Int), ((0 : Int), ((0 : Int), (0 : Int)))))));
 zq2u e (fun rcheckZone1 =>
 cond rcheckZone1
 (k1 t8)
 (rec s t7 (IntKind.i64.wrap (t8 + (1 : Int))))))
 none)
 (k2 ())
def zqt8 (m : Nat) {β : Type} (k1 : zqt3 β) (k2 : zqt4 β) : zqt5 β := lp3 (fun r => zqt7 r k1 k2) none m
theorem zqt9 {β : Type} (i : Nat) (k1 k2) : zqt8 (β := β) (i + 1) k1 k2 = zqt7 (zqt8 i k1 k2) k1 k2 := rfl
def zqta {β : Type} := hid (zqt8 (β := β) fuel)
noncomputable def zqtb : Pb := ⟨26, zqt6, fun _ => zqta, pl (p := zqt6) zqt2 [] (g := fun i _ => zqt8 i) (by kernel_rfl) rfl (by kernel_rfl) (fun _ _ => rfl) fun _ _ _ _ => by kernel_rfl⟩
def zqtc : zqt1 := fun s k =>
 zqta (fun t4 =>
 k t4) (fun _ =>
 k (-1 : Int)) s (List.length s : Int) (0 : Int)
def zqtd : zqt1 := hid zqtc
noncomputable def zqte : En := ⟨78, .spec (sg [v43y, (false, [.fn 50 []])] [] [v19y] [] zqtd), pf zqt2 [zqtb] [.tmp 4] Tryz.func78 (by kernel_rfl) fun _ _ => by kernel_rfl⟩
abbrev zqtf := {β : Type} → t13y → (Bool → Option β) → Option β
def zqtg : zqtf := fun s k =>
 zqtd s (fun rYearRule =>
 let t := (decide ((0 : Int) ≤ rYearRule));
 k t)
def zqth : zqtf := hid zqtg
noncomputable def zqti : En := ⟨49, .spec (sg [v43y, (false, [.fn 50 []])] [] [v24y] [] zqth), pf [zqte] [] [.tmp 4] Tryz.func49 (by kernel_rfl) fun _ _ => by kernel_rfl⟩
abbrev zqtj := {β : Type} → zqa → (Int → Option β) → Option β
def zqtk : zqtj := fun z k =>
 zqrc z (fun rCheck =>
 cond (!decide (rCheck = (0 : Int)))
 (k (8 : Int))
 (cond (!decide ((Int.tmod z.2.1 (60 : Int)) = (0 : Int)))
 (k (8 : Int))
 (zqth z.2.2 (fun rYearRule =>
 cond rYearRule
 (k (8 : Int))
 (k (0 : Int))))))
def zqtl : zqtj := hid zqtk
noncomputable def zqtm : En := ⟨20, .spec (sg [v49y] [] [v19y] [] zqtl), pf [zqti, zqrd] [] [.tmp 2] Tryz.func20 (by kernel_rfl) fun _ _ => by kernel_rfl⟩
abbrev zqtn := {β : Type} → t4y → (Int → Option β) → Option β
noncomputable def zqto : List En := [zq12, zqtm, zqdd]
abbrev zqtp (β : Type) := Int → Option β
abbrev zqtq (β : Type) := Unit → Option β
abbrev zqtr (β : Type) := t4y → Int → Int → (List t11y) → Option β
noncomputable def zqts : Pc := ⟨34, 0, Q4 58 (Q3 Tryz.f18), ⟨0, [1, 2, 7, 13, 14, 15], [(false, [.fn 19 []]), (false, [.fn 20 []]), (false, [.maph 0]), v58y, v19y, v19y], [.map 66 .str .bool false]⟩, [(.ret, ⟨0, [6], [v19y], []⟩), (.exit 0, ⟨0, [], [], []⟩)]⟩
def zqtt {β : Type} (rec : zqtr β) (k1 : zqtp β) (k2 : zqtq β) : zqtr β := fun t13 t14 t15 seen =>
 cond (decide (t15 < t14))
 (cond (decide (0 ≤ t15) && decide (t15 < (List.length t13 : Int)))
 (let e := List.getD t13 (Int.toNat t15) (([] : List UInt8), ((0 : Int), ([] : List zq8)));
 zq11 e (fun rCheck1 =>
 zqdb rCheck1 seen (fun rname lrname =>
 cond (!decide (rname = (0 : Int)))
 (k1 rname)
 (zqtl e (fun rcheckZone =>
 cond (!decide (rcheckZone = (0 : Int)))
 (k1 rcheckZone)
 (rec t13 t14 (IntKind.i64.wrap (t15 + (1 : Int))) lrname))))))
 none)
 (k2 ())
def zqtu (m : Nat) {β : Type} (k1 : zqtp β) (k2 : zqtq β) : zqtr β := lp4 (fun r => zqtt r k1 k2) none m
theorem zqtv {β : Type} (i : Nat) (k1 k2) : zqtu (β := β) (i + 1) k1 k2 = zqtt (zqtu i k1 k2) k1 k2 := rfl
def zqtw {β : Type} := hid (zqtu (β := β) fuel)
noncomputable def zqtx : Pb := ⟨58, zqts, fun _ => zqtw, pl (p := zqts) zqto [] (g := fun i _ => zqtu i) (by kernel_rfl) rfl (by kernel_rfl) (fun _ _ => rfl) fun _ _ _ _ => by kernel_rfl⟩
def zqty : zqtn := fun l k =>
 let m_ := ([] : List t11y);
 zqtw (fun t6 =>
 k t6) (fun _ =>
 k (0 : Int)) l (List.length l : Int) (0 : Int) m_
def zqtz : zqtn := hid zqty
noncomputable def zqu0 : En := ⟨18, .spec (sg [v58y, (false, [.fn 19 []]), (false, [.fn 20 []])] [] [v19y] [] zqtz), pf zqto [zqtx] [.tmp 6] Tryz.func18 (by kernel_rfl) fun _ _ => by kernel_rfl⟩
abbrev zqu1 := {β : Type} → t1y → zqg → (Int → zqg → Option β) → Option β
noncomputable def zqu2 : List En := [zq16, zqs0, zqdd]
abbrev zqu3 (β : Type) := Int → zqg → Option β
abbrev zqu4 (β : Type) := zqg → Option β
abbrev zqu5 (β : Type) := t1y → Int → Int → zqg → (List t11y) → Option β
noncomputable def zqu6 : Pc := ⟨34, 1, Q4 58 (Q3 Tryz.f23), ⟨1, [1, 2, 7, 13, 14, 15], [(false, [.fn 24 []]), (false, [.fn 25 [0]]), (false, [.maph 1]), v52y, v19y, v19y], l73y⟩, [(.ret, ⟨1, [6], [v19y], [b25y]⟩), (.exit 0, ⟨1, [], [], [b25y]⟩)]⟩
def zqu7 {β : Type} (rec : zqu5 β) (k1 : zqu3 β) (k2 : zqu4 β) : zqu5 β := fun t13 t14 t15 b0_ seen =>
 cond (decide (t15 < t14))
 (cond (decide (0 ≤ t15) && decide (t15 < (List.length t13 : Int)))
 (let e := List.getD t13 (Int.toNat t15) (([] : List UInt8), ((0 : Int), ([] : List Int)));
 zq15 e (fun rCheck2 =>
 zqdb rCheck2 seen (fun rname lrname =>
 cond (!decide (rname = (0 : Int)))
 (k1 rname b0_)
 (zqrz e b0_ (fun rCheck3 mrCheck3 =>
 cond (!decide (rCheck3 = (0 : Int)))
 (k1 rCheck3 mrCheck3)
 (rec t13 t14 (IntKind.i64.wrap (t15 + (1 : Int))) mrCheck3 lrname))))))
 none)
 (k2 b0_)
def zqu8 (m : Nat) {β : Type} (k1 : zqu3 β) (k2 : zqu4 β) : zqu5 β := lp5 (fun r => zqu7 r k1 k2) none m
theorem zqu9 {β : Type} (i : Nat) (k1 k2) : zqu8 (β := β) (i + 1) k1 k2 = zqu7 (zqu8 i k1 k2) k1 k2 := rfl
def zqua {β : Type} := hid (zqu8 (β := β) fuel)
noncomputable def zqub : Pb := ⟨58, zqu6, fun _ => zqua, pl (p := zqu6) zqu2 [] (g := fun i _ => zqu8 i) (by kernel_rfl) rfl (by kernel_rfl) (fun _ _ => rfl) fun _ _ _ _ => by kernel_rfl⟩
def zquc : zqu1 := fun l b0_ k =>
 let m_ := ([] : List t11y);
 zqua (fun t6 b0_2 =>
 k t6 b0_2) (fun b0_2 =>
 k (0 : Int) b0_2) l (List.length l : Int) (0 : Int) b0_ m_
def zqud : zqu1 := hid zquc
noncomputable def zque : En := ⟨23, .spec (sg [v52y, (false, [.fn 24 []]), (false, [.fn 25 [0]])] [b25y] [v19y] [b25y] zqud), pf zqu2 [zqub] [.tmp 6] Tryz.func23 (by kernel_rfl) fun _ _ => by kernel_rfl⟩
abbrev zquf := {β : Type} → t2y → zqg → (Int → zqg → Option β) → Option β
noncomputable def zqug : List En := [zq1a, zqt0, zqdd]
abbrev zquh (β : Type) := Int → zqg → Option β
abbrev zqui (β : Type) := zqg → Option β
abbrev zquj (β : Type) := t2y → Int → Int → zqg → (List t11y) → Option β
noncomputable def zquk : Pc := ⟨34, 1, Q4 58 (Q3 Tryz.f27), ⟨1, [1, 2, 7, 13, 14, 15], [(false, [.fn 28 []]), (false, [.fn 29 [0]]), (false, [.maph 1]), v51y, v19y, v19y], l73y⟩, [(.ret, ⟨1, [6], [v19y], [b25y]⟩), (.exit 0, ⟨1, [], [], [b25y]⟩)]⟩
def zqul {β : Type} (rec : zquj β) (k1 : zquh β) (k2 : zqui β) : zquj β := fun t13 t14 t15 b0_ seen =>
 cond (decide (t15 < t14))
 (cond (decide (0 ≤ t15) && decide (t15 < (List.length t13 : Int)))
 (let e := List.getD t13 (Int.toNat t15) (([] : List UInt8), (([] : List zq2), ([] : List t0y)));
 zq19 e (fun rCheck4 =>
 zqdb rCheck4 seen (fun rname lrname =>
 cond (!decide (rname = (0 : Int)))
 (k1 rname b0_)
 (zqsz e b0_ (fun rCheck5 mrCheck5 =>
 cond (!decide (rCheck5 = (0 : Int)))
 (k1 rCheck5 mrCheck5)
 (rec t13 t14 (IntKind.i64.wrap (t15 + (1 : Int))) mrCheck5 lrname))))))
 none)
 (k2 b0_)
def zqum (m : Nat) {β : Type} (k1 : zquh β) (k2 : zqui β) : zquj β := lp5 (fun r => zqul r k1 k2) none m
theorem zqun {β : Type} (i : Nat) (k1 k2) : zqum (β := β) (i + 1) k1 k2 = zqul (zqum i k1 k2) k1 k2 := rfl
def zquo {β : Type} := hid (zqum (β := β) fuel)
noncomputable def zqup : Pb := ⟨58, zquk, fun _ => zquo, pl (p := zquk) zqug [] (g := fun i _ => zqum i) (by kernel_rfl) rfl (by kernel_rfl) (fun _ _ => rfl) fun _ _ _ _ => by kernel_rfl⟩
def zquq : zquf := fun l b0_ k =>
 let m_ := ([] : List t11y);
 zquo (fun t6 b0_2 =>
 k t6 b0_2) (fun b0_2 =>
 k (0 : Int) b0_2) l (List.length l : Int) (0 : Int) b0_ m_
def zqur : zquf := hid zquq
noncomputable def zqus : En := ⟨27, .spec (sg [v51y, (false, [.fn 28 []]), (false, [.fn 29 [0]])] [b25y] [v19y] [b25y] zqur), pf zqug [zqup] [.tmp 6] Tryz.func27 (by kernel_rfl) fun _ _ => by kernel_rfl⟩
abbrev zqut := {β : Type} → zqg → (Int → Option β) → Option β
noncomputable def zquu : List En := [zqdh, zqdd, zque, zqus, zqu0]
abbrev zquv (β : Type) := Int → Option β
abbrev zquw (β : Type) := zqg → Option β
abbrev zqux (β : Type) := t3y → Int → Int → zqg → (List t11y) → Option β
noncomputable def zquy : Pc := ⟨72, 0, Q4 250 (Q3 Tryz.f7), ⟨0, [1, 4, 39, 40, 41], [v23y, (false, [.maph 1]), v48y, v19y, v19y], l73y⟩, [(.ret, ⟨0, [2], [v19y], []⟩), (.exit 0, ⟨0, [1], [v23y], [b25y]⟩)]⟩
abbrev zquz (β : Type) := Int → Option β
abbrev zqv0 (β : Type) := t3y → Int → Int → zqg → (List t11y) → Option β
abbrev zqv1 (β : Type) := Int → t3y → Int → Int → zqg → (List t11y) → zqe → Option β
noncomputable def zqv2 : Pc := ⟨72, 0, Q4 231 (Qy zquy.c), ⟨0, [1, 4, 6, 7, 39, 40, 41], [v23y, (false, [.maph 1]), v33y, v19y, v48y, v19y, v19y], [b25y, .map 66 .str .bool false, .cells 35 [.data zqf]]⟩, [(.ret, ⟨0, [2], [v19y], []⟩), (.normal, ⟨0, [1, 4, 39, 40, 41], [v23y, (false, [.maph 1]), v48y, v19y, v19y], l73y⟩)]⟩
def zqv3 {β : Type} (k1 : zquz β) (k2 : zqv0 β) : zqv1 β := fun e t39 t40 t41 c seen p_ =>
 cond (decide (e = (0 : Int)))
 (zqdg c p_ (fun rcheckPerson =>
 cond (!decide (rcheckPerson = (0 : Int)))
 (k1 rcheckPerson)
 (k2 t39 t40 t41 c seen)))
 (cond (!decide (e = (0 : Int)))
 (k1 e)
 (k2 t39 t40 t41 c seen))
def zqv4 {β : Type} := hid (zqv3 (β := β))
noncomputable def zqv5 : Pb := ⟨231, zqv2, fun _ => zqv4, pe (p := zqv2) zquu [] 231 (g := fun _ => zqv3) (by kernel_rfl) fun _ _ => by kernel_rfl⟩
def zqv6 {β : Type} (rec : zqux β) (k1 : zquv β) (k2 : zquw β) : zqux β := fun t39 t40 t41 c seen =>
 cond (decide (t41 < t40))
 (cond (decide (0 ≤ t41) && decide (t41 < (List.length t39 : Int)))
 (let e := List.getD t39 (Int.toNat t41) (([] : List UInt8), ((0 : Int), (([] : List t6y), ((0 : Int), ((0 : Int), false)))));
 zqdb e.1 seen (fun rname lrname =>
 cond (decide (e.1 = ([110, 111, 98, 111, 100, 121] : List UInt8)))
 (zqv4 (fun t2 =>
 k1 t2) (fun t392 t402 t412 c2 seen2 =>
 rec t392 t402 (IntKind.i64.wrap (t412 + (1 : Int))) c2 seen2) (2 : Int) t39 t40 t41 c lrname e)
 (zqv4 (fun t2 =>
 k1 t2) (fun t392 t402 t412 c2 seen2 =>
 rec t392 t402 (IntKind.i64.wrap (t412 + (1 : Int))) c2 seen2) rname t39 t40 t41 c lrname e)))
 none)
 (k2 c)
def zqv7 (m : Nat) {β : Type} (k1 : zquv β) (k2 : zquw β) : zqux β := lp5 (fun r => zqv6 r k1 k2) none m
theorem zqv8 {β : Type} (i : Nat) (k1 k2) : zqv7 (β := β) (i + 1) k1 k2 = zqv6 (zqv7 i k1 k2) k1 k2 := rfl
def zqv9 {β : Type} := hid (zqv7 (β := β) fuel)
noncomputable def zqva : Pb := ⟨250, zquy, fun _ => zqv9, pl (p := zquy) zquu [zqv5] (g := fun i _ => zqv7 i) (by kernel_rfl) rfl (by kernel_rfl) (fun _ _ => rfl) fun _ _ _ _ => by kernel_rfl⟩
def zqvb : zqut := fun c k =>
 cond (decide ((16 : Int) < (List.length c.1 : Int)))
 (k (5 : Int))
 (cond (decide ((32 : Int) < (List.length c.2.1 : Int)))
 (k (5 : Int))
 (cond (decide ((8 : Int) < (List.length c.2.2.1 : Int)))
 (k (5 : Int))
 (cond (decide ((12 : Int) < (List.length c.2.2.2 : Int)))
 (k (5 : Int))
 (zqtz c.1 (fun rZone =>
 cond (!decide (rZone = (0 : Int)))
 (k rZone)
 (let m_ := ([] : List t11y);
 zqv9 (fun t2 =>
 k t2) (fun c2 =>
 zqud c2.2.2.1 c2 (fun rCalendar mrCalendar =>
 cond (!decide (rCalendar = (0 : Int)))
 (k rCalendar)
 (zqur mrCalendar.2.2.2 mrCalendar (fun rSchedule mrSchedule =>
 k rSchedule)))) c.2.1 (List.length c.2.1 : Int) (0 : Int) c m_))))))
def zqvc : zqut := hid zqvb
noncomputable def zqvd : En := ⟨7, .spec (sg [v42y] [] [v19y] [] zqvc), pf zquu [zqva] [.tmp 2] Tryz.func7 (by kernel_rfl) fun _ _ => by kernel_rfl⟩
abbrev zqve := {β : Type} → (List t9y) → (zqg → Int → Int → Option β) → Option β
noncomputable def zqvf : List En := [zqvd, zqki, zqaq, zqlt, zqkn, zql2, zql7, zqkd, zqga, zqg5, zq5b, zqgf, zq56, zq3v, zqjz]
abbrev zqvg (β : Type) := Int → Int → t4y → t3y → t1y → t2y → Option β
abbrev zqvh (β : Type) := t4y → t3y → t1y → t2y → t4y → t3y → t1y → t2y → Option β
abbrev zqvi (β : Type) := (List t9y) → Int → Int → t4y → t3y → t1y → t2y → t4y → t3y → t1y → t2y → Option β
noncomputable def zqvj : Pc := ⟨58, 0, Q4 122 (Q3 Tryz.f35), ⟨0, [2, 5, 6, 15, 16, 17], [v23y, v30y, (false, [.maph 2]), v45y, v19y, v19y], [.cells 27 [.trowh 3, .trowh 4, .trowh 5, .trowh 6], .cells 122 [.trowh 7, .trowh 8, .trowh 9, .trowh 10], .fmap 123 [([122, 111, 110, 101], (91, 1)), ([114, 117, 108, 101], (92, 1)), ([112, 101, 114, 115, 111, 110], (93, 1)), ([113, 117, 105, 101, 116], (94, 1)), ([99, 97, 108, 101, 110, 100, 97, 114], (95, 1)), ([100, 97, 121, 115], (96, 1)), ([115, 99, 104, 101, 100, 117, 108, 101], (97, 1)), ([108, 97, 121, 101, 114], (98, 1)), ([109, 101, 109, 98, 101, 114], (99, 1)), ([111, 110], (100, 1)), ([110, 111, 116], (101, 1)), ([111, 110, 108, 121], (101, 1)), ([108, 101, 97, 118, 101], (102, 1)), ([111, 118, 101, 114, 114, 105, 100, 101], (102, 1)), ([115, 119, 97, 112], (102, 1))], .tree 32 o17y, .tree 35 o15y, .tree 71 o18y, .tree 44 o14y, .tree 32 o17y, .tree 35 o15y, .tree 71 o18y, .tree 44 o14y]⟩, [(.ret, ⟨0, [2, 3, 4], [v23y, v19y, v19y], l74y⟩), (.exit 0, ⟨0, [2, 5], [v23y, v30y], [.cells 27 [.trowh 2, .trowh 3, .trowh 4, .trowh 5], .cells 122 [.trowh 6, .trowh 7, .trowh 8, .trowh 9], .tree 32 o17y, .tree 35 o15y, .tree 71 o18y, .tree 44 o14y, .tree 32 o17y, .tree 35 o15y, .tree 71 o18y, .tree 44 o14y]⟩)]⟩
abbrev zqvk (β : Type) := Int → Int → t4y → t3y → t1y → t2y → Option β
abbrev zqvl (β : Type) := (List t9y) → Int → Int → t4y → t3y → t1y → t2y → t4y → t3y → t1y → t2y → Option β
abbrev zqvm (β : Type) := Int → (List t9y) → Int → Int → t9y → t4y → t3y → t1y → t2y → t4y → t3y → t1y → t2y → Option β
noncomputable def zqvn : Pc := ⟨58, 0, Q4 231 (Qy zqvj.c), ⟨0, [2, 5, 6, 8, 9, 15, 16, 17], [v23y, v30y, (false, [.maph 2]), v47y, v19y, v45y, v19y, v19y], [.cells 27 [.trowh 4, .trowh 5, .trowh 6, .trowh 7], .cells 122 [.trowh 8, .trowh 9, .trowh 10, .trowh 11], .fmap 123 [([122, 111, 110, 101], (91, 1)), ([114, 117, 108, 101], (92, 1)), ([112, 101, 114, 115, 111, 110], (93, 1)), ([113, 117, 105, 101, 116], (94, 1)), ([99, 97, 108, 101, 110, 100, 97, 114], (95, 1)), ([100, 97, 121, 115], (96, 1)), ([115, 99, 104, 101, 100, 117, 108, 101], (97, 1)), ([108, 97, 121, 101, 114], (98, 1)), ([109, 101, 109, 98, 101, 114], (99, 1)), ([111, 110], (100, 1)), ([110, 111, 116], (101, 1)), ([111, 110, 108, 121], (101, 1)), ([108, 101, 97, 118, 101], (102, 1)), ([111, 118, 101, 114, 114, 105, 100, 101], (102, 1)), ([115, 119, 97, 112], (102, 1))], .cells 119 [.data (.prod (.int .i64) (.slice zq7))], .tree 32 o17y, .tree 35 o15y, .tree 71 o18y, .tree 44 o14y, .tree 32 o17y, .tree 35 o15y, .tree 71 o18y, .tree 44 o14y]⟩, [(.ret, ⟨0, [2, 3, 4], [v23y, v19y, v19y], l74y⟩), (.normal, ⟨0, [2, 5, 6, 15, 16, 17], [v23y, v30y, (false, [.maph 2]), v45y, v19y, v19y], [.cells 27 [.trowh 3, .trowh 4, .trowh 5, .trowh 6], .cells 122 [.trowh 7, .trowh 8, .trowh 9, .trowh 10], .fmap 123 [([122, 111, 110, 101], (91, 1)), ([114, 117, 108, 101], (92, 1)), ([112, 101, 114, 115, 111, 110], (93, 1)), ([113, 117, 105, 101, 116], (94, 1)), ([99, 97, 108, 101, 110, 100, 97, 114], (95, 1)), ([100, 97, 121, 115], (96, 1)), ([115, 99, 104, 101, 100, 117, 108, 101], (97, 1)), ([108, 97, 121, 101, 114], (98, 1)), ([109, 101, 109, 98, 101, 114], (99, 1)), ([111, 110], (100, 1)), ([110, 111, 116], (101, 1)), ([111, 110, 108, 121], (101, 1)), ([108, 101, 97, 118, 101], (102, 1)), ([111, 118, 101, 114, 114, 105, 100, 101], (102, 1)), ([115, 119, 97, 112], (102, 1))], .tree 32 o17y, .tree 35 o15y, .tree 71 o18y, .tree 44 o14y, .tree 32 o17y, .tree 35 o15y, .tree 71 o18y, .tree 44 o14y]⟩)]⟩
def zqvo {β : Type} (k1 : zqvk β) (k2 : zqvl β) : zqvm β := fun e t15 t16 t17 s b4_ b5_ b6_ b7_ b8_ b9_ b10_ b11_ =>
 cond (!decide (e = (0 : Int)))
 (k1 s.1 e ([] : List zqa) ([] : List zqe) ([] : List zq0) ([] : List zq4))
 (k2 t15 t16 t17 b4_ b5_ b6_ b7_ b8_ b9_ b10_ b11_)
def zqvp {β : Type} := hid (zqvo (β := β))
noncomputable def zqvq : Pb := ⟨231, zqvn, fun _ => zqvp, Qi9 mixed (X := ⟨look tab, gam zqvf, false, false, false, false, q83y, none, 0, []⟩) (p := zqvn) Qd zqvf rfl [] 231 (g := fun _ => zqvo) (by kernel_rfl) fun _ _ => by kernel_rfl⟩
def zqvr {β : Type} (rec : zqvi β) (k1 : zqvg β) (k2 : zqvh β) : zqvi β := fun t15 t16 t17 b3_ b4_ b5_ b6_ b7_ b8_ b9_ b10_ =>
 cond (decide (t17 < t16))
 (cond (decide (0 ≤ t17) && decide (t17 < (List.length t15 : Int)))
 (let e := List.getD t15 (Int.toNat t17) ((0 : Int), ([] : List zq6));
 zqjy e.2 (fun rForm =>
 cond (!rForm)
 (k1 e.1 (2 : Int) ([] : List zqa) ([] : List zqe) ([] : List zq0) ([] : List zq4))
 (cond (decide (0 ≤ (0 : Int)) && decide ((0 : Int) < (List.length e.2 : Int)))
 (let e2 := List.getD e.2 (Int.toNat (0 : Int)) ((0 : Int), (([] : List UInt8), (0 : Int)));
 cond (decide (([122, 111, 110, 101] : List UInt8) = e2.2.1))
 (zq54 e.2 b7_ b8_ b9_ b10_ (fun raddZone lraddZone lraddZone2 lraddZone3 lraddZone4 =>
 zqvp (fun line e3 b1_ b2_ b3_2 b4_2 =>
 k1 line e3 b1_ b2_ b3_2 b4_2) (fun t152 t162 t172 b3_2 b4_2 b5_2 b6_2 b7_2 b8_2 b9_2 b10_2 =>
 rec t152 t162 (IntKind.i64.wrap (t172 + (1 : Int))) b3_2 b4_2 b5_2 b6_2 b7_2 b8_2 b9_2 b10_2) raddZone t15 t16 t17 e b3_ b4_ b5_ b6_ lraddZone lraddZone2 lraddZone3 lraddZone4))
 (cond (decide (([114, 117, 108, 101] : List UInt8) = e2.2.1))
 (zqg3 e.2 b7_ b8_ b9_ b10_ (fun raddRule lraddRule lraddRule2 lraddRule3 lraddRule4 =>
 zqvp (fun line e3 b1_ b2_ b3_2 b4_2 =>
 k1 line e3 b1_ b2_ b3_2 b4_2) (fun t152 t162 t172 b3_2 b4_2 b5_2 b6_2 b7_2 b8_2 b9_2 b10_2 =>
 rec t152 t162 (IntKind.i64.wrap (t172 + (1 : Int))) b3_2 b4_2 b5_2 b6_2 b7_2 b8_2 b9_2 b10_2) raddRule t15 t16 t17 e b3_ b4_ b5_ b6_ lraddRule lraddRule2 lraddRule3 lraddRule4))
 (cond (decide (([112, 101, 114, 115, 111, 110] : List UInt8) = e2.2.1))
 (zqkb e.2 b7_ b8_ b9_ b10_ (fun raddPerson lraddPerson lraddPerson2 lraddPerson3 lraddPerson4 =>
 zqvp (fun line e3 b1_ b2_ b3_2 b4_2 =>
 k1 line e3 b1_ b2_ b3_2 b4_2) (fun t152 t162 t172 b3_2 b4_2 b5_2 b6_2 b7_2 b8_2 b9_2 b10_2 =>
 rec t152 t162 (IntKind.i64.wrap (t172 + (1 : Int))) b3_2 b4_2 b5_2 b6_2 b7_2 b8_2 b9_2 b10_2) raddPerson t15 t16 t17 e b3_ b4_ b5_ b6_ lraddPerson lraddPerson2 lraddPerson3 lraddPerson4))
 (cond (decide (([113, 117, 105, 101, 116] : List UInt8) = e2.2.1))
 (zqg8 e.2 b7_ b8_ b9_ b10_ (fun raddQuiet lraddQuiet lraddQuiet2 lraddQuiet3 lraddQuiet4 =>
 zqvp (fun line e3 b1_ b2_ b3_2 b4_2 =>
 k1 line e3 b1_ b2_ b3_2 b4_2) (fun t152 t162 t172 b3_2 b4_2 b5_2 b6_2 b7_2 b8_2 b9_2 b10_2 =>
 rec t152 t162 (IntKind.i64.wrap (t172 + (1 : Int))) b3_2 b4_2 b5_2 b6_2 b7_2 b8_2 b9_2 b10_2) raddQuiet t15 t16 t17 e b3_ b4_ b5_ b6_ lraddQuiet lraddQuiet2 lraddQuiet3 lraddQuiet4))
 (cond (decide (([99, 97, 108, 101, 110, 100, 97, 114] : List UInt8) = e2.2.1))
 (zqkg e.2 b7_ b8_ b9_ b10_ (fun raddCalendar lraddCalendar lraddCalendar2 lraddCalendar3 lraddCalendar4 =>
 zqvp (fun line e3 b1_ b2_ b3_2 b4_2 =>
 k1 line e3 b1_ b2_ b3_2 b4_2) (fun t152 t162 t172 b3_2 b4_2 b5_2 b6_2 b7_2 b8_2 b9_2 b10_2 =>
 rec t152 t162 (IntKind.i64.wrap (t172 + (1 : Int))) b3_2 b4_2 b5_2 b6_2 b7_2 b8_2 b9_2 b10_2) raddCalendar t15 t16 t17 e b3_ b4_ b5_ b6_ lraddCalendar lraddCalendar2 lraddCalendar3 lraddCalendar4))
 (cond (decide (([100, 97, 121, 115] : List UInt8) = e2.2.1))
 (zqao e.2 b7_ b8_ b9_ b10_ (fun raddDays lraddDays lraddDays2 lraddDays3 lraddDays4 =>
 zqvp (fun line e3 b1_ b2_ b3_2 b4_2 =>
 k1 line e3 b1_ b2_ b3_2 b4_2) (fun t152 t162 t172 b3_2 b4_2 b5_2 b6_2 b7_2 b8_2 b9_2 b10_2 =>
 rec t152 t162 (IntKind.i64.wrap (t172 + (1 : Int))) b3_2 b4_2 b5_2 b6_2 b7_2 b8_2 b9_2 b10_2) raddDays t15 t16 t17 e b3_ b4_ b5_ b6_ lraddDays lraddDays2 lraddDays3 lraddDays4))
 (cond (decide (([115, 99, 104, 101, 100, 117, 108, 101] : List UInt8) = e2.2.1))
 (zq59 e.2 b7_ b8_ b9_ b10_ (fun raddSchedule lraddSchedule lraddSchedule2 lraddSchedule3 lraddSchedule4 =>
 zqvp (fun line e3 b1_ b2_ b3_2 b4_2 =>
 k1 line e3 b1_ b2_ b3_2 b4_2) (fun t152 t162 t172 b3_2 b4_2 b5_2 b6_2 b7_2 b8_2 b9_2 b10_2 =>
 rec t152 t162 (IntKind.i64.wrap (t172 + (1 : Int))) b3_2 b4_2 b5_2 b6_2 b7_2 b8_2 b9_2 b10_2) raddSchedule t15 t16 t17 e b3_ b4_ b5_ b6_ lraddSchedule lraddSchedule2 lraddSchedule3 lraddSchedule4))
 (cond (decide (([108, 97, 121, 101, 114] : List UInt8) = e2.2.1))
 (zqkl e.2 b7_ b8_ b9_ b10_ (fun raddLayer lraddLayer lraddLayer2 lraddLayer3 lraddLayer4 =>
 zqvp (fun line e3 b1_ b2_ b3_2 b4_2 =>
 k1 line e3 b1_ b2_ b3_2 b4_2) (fun t152 t162 t172 b3_2 b4_2 b5_2 b6_2 b7_2 b8_2 b9_2 b10_2 =>
 rec t152 t162 (IntKind.i64.wrap (t172 + (1 : Int))) b3_2 b4_2 b5_2 b6_2 b7_2 b8_2 b9_2 b10_2) raddLayer t15 t16 t17 e b3_ b4_ b5_ b6_ lraddLayer lraddLayer2 lraddLayer3 lraddLayer4))
 (cond (decide (([109, 101, 109, 98, 101, 114] : List UInt8) = e2.2.1))
 (zql0 e.2 b7_ b8_ b9_ b10_ (fun raddMember lraddMember lraddMember2 lraddMember3 lraddMember4 =>
 zqvp (fun line e3 b1_ b2_ b3_2 b4_2 =>
 k1 line e3 b1_ b2_ b3_2 b4_2) (fun t152 t162 t172 b3_2 b4_2 b5_2 b6_2 b7_2 b8_2 b9_2 b10_2 =>
 rec t152 t162 (IntKind.i64.wrap (t172 + (1 : Int))) b3_2 b4_2 b5_2 b6_2 b7_2 b8_2 b9_2 b10_2) raddMember t15 t16 t17 e b3_ b4_ b5_ b6_ lraddMember lraddMember2 lraddMember3 lraddMember4))
 (cond (decide (([111, 110] : List UInt8) = e2.2.1))
 (zqgd e.2 b7_ b8_ b9_ b10_ (fun raddWindow lraddWindow lraddWindow2 lraddWindow3 lraddWindow4 =>
 zqvp (fun line e3 b1_ b2_ b3_2 b4_2 =>
 k1 line e3 b1_ b2_ b3_2 b4_2) (fun t152 t162 t172 b3_2 b4_2 b5_2 b6_2 b7_2 b8_2 b9_2 b10_2 =>
 rec t152 t162 (IntKind.i64.wrap (t172 + (1 : Int))) b3_2 b4_2 b5_2 b6_2 b7_2 b8_2 b9_2 b10_2) raddWindow t15 t16 t17 e b3_ b4_ b5_ b6_ lraddWindow lraddWindow2 lraddWindow3 lraddWindow4))
 (cond (decide (([110, 111, 116] : List UInt8) = e2.2.1))
 (zql5 e.2 b7_ b8_ b9_ b10_ (fun raddMode lraddMode lraddMode2 lraddMode3 lraddMode4 =>
 zqvp (fun line e3 b1_ b2_ b3_2 b4_2 =>
 k1 line e3 b1_ b2_ b3_2 b4_2) (fun t152 t162 t172 b3_2 b4_2 b5_2 b6_2 b7_2 b8_2 b9_2 b10_2 =>
 rec t152 t162 (IntKind.i64.wrap (t172 + (1 : Int))) b3_2 b4_2 b5_2 b6_2 b7_2 b8_2 b9_2 b10_2) raddMode t15 t16 t17 e b3_ b4_ b5_ b6_ lraddMode lraddMode2 lraddMode3 lraddMode4))
 (cond (decide (([111, 110, 108, 121] : List UInt8) = e2.2.1))
 (zql5 e.2 b7_ b8_ b9_ b10_ (fun raddMode lraddMode lraddMode2 lraddMode3 lraddMode4 =>
 zqvp (fun line e3 b1_ b2_ b3_2 b4_2 =>
 k1 line e3 b1_ b2_ b3_2 b4_2) (fun t152 t162 t172 b3_2 b4_2 b5_2 b6_2 b7_2 b8_2 b9_2 b10_2 =>
 rec t152 t162 (IntKind.i64.wrap (t172 + (1 : Int))) b3_2 b4_2 b5_2 b6_2 b7_2 b8_2 b9_2 b10_2) raddMode t15 t16 t17 e b3_ b4_ b5_ b6_ lraddMode lraddMode2 lraddMode3 lraddMode4))
 (cond (decide (([108, 101, 97, 118, 101] : List UInt8) = e2.2.1))
 (zqlr e.2 b7_ b8_ b9_ b10_ (fun raddEdit lraddEdit lraddEdit2 lraddEdit3 lraddEdit4 =>
 zqvp (fun line e3 b1_ b2_ b3_2 b4_2 =>
 k1 line e3 b1_ b2_ b3_2 b4_2) (fun t152 t162 t172 b3_2 b4_2 b5_2 b6_2 b7_2 b8_2 b9_2 b10_2 =>
 rec t152 t162 (IntKind.i64.wrap (t172 + (1 : Int))) b3_2 b4_2 b5_2 b6_2 b7_2 b8_2 b9_2 b10_2) raddEdit t15 t16 t17 e b3_ b4_ b5_ b6_ lraddEdit lraddEdit2 lraddEdit3 lraddEdit4))
 (cond (decide (([111, 118, 101, 114, 114, 105, 100, 101] : List UInt8) = e2.2.1))
 (zqlr e.2 b7_ b8_ b9_ b10_ (fun raddEdit lraddEdit lraddEdit2 lraddEdit3 lraddEdit4 =>
 zqvp (fun line e3 b1_ b2_ b3_2 b4_2 =>
 k1 line e3 b1_ b2_ b3_2 b4_2) (fun t152 t162 t172 b3_2 b4_2 b5_2 b6_2 b7_2 b8_2 b9_2 b10_2 =>
 rec t152 t162 (IntKind.i64.wrap (t172 + (1 : Int))) b3_2 b4_2 b5_2 b6_2 b7_2 b8_2 b9_2 b10_2) raddEdit t15 t16 t17 e b3_ b4_ b5_ b6_ lraddEdit lraddEdit2 lraddEdit3 lraddEdit4))
 (cond (decide (([115, 119, 97, 112] : List UInt8) = e2.2.1))
 (zqlr e.2 b7_ b8_ b9_ b10_ (fun raddEdit lraddEdit lraddEdit2 lraddEdit3 lraddEdit4 =>
 zqvp (fun line e3 b1_ b2_ b3_2 b4_2 =>
 k1 line e3 b1_ b2_ b3_2 b4_2) (fun t152 t162 t172 b3_2 b4_2 b5_2 b6_2 b7_2 b8_2 b9_2 b10_2 =>
 rec t152 t162 (IntKind.i64.wrap (t172 + (1 : Int))) b3_2 b4_2 b5_2 b6_2 b7_2 b8_2 b9_2 b10_2) raddEdit t15 t16 t17 e b3_ b4_ b5_ b6_ lraddEdit lraddEdit2 lraddEdit3 lraddEdit4))
 (none))))))))))))))))
 none)))
 none)
 (k2 b3_ b4_ b5_ b6_ b7_ b8_ b9_ b10_)
def zqvs (m : Nat) {β : Type} (k1 : zqvg β) (k2 : zqvh β) : zqvi β := lp11 (fun r => zqvr r k1 k2) none m
theorem zqvt {β : Type} (i : Nat) (k1 k2) : zqvs (β := β) (i + 1) k1 k2 = zqvr (zqvs i k1 k2) k1 k2 := rfl
def zqvu {β : Type} := hid (zqvs (β := β) fuel)
noncomputable def zqvv : Pb := ⟨122, zqvj, fun _ => zqvu, Q88 mixed (X := ⟨look tab, gam zqvf, false, false, false, false, q83y, none, 0, []⟩) (p := zqvj) Qd zqvf rfl [zqvq] (g := fun i _ => zqvs i) (by kernel_rfl) rfl (by kernel_rfl) (fun _ _ => rfl) fun _ _ _ _ => by kernel_rfl⟩
def zqvw : zqve := fun l k =>
 cond true
 (cond true
 (cond true
 (cond true
 (cond true
 (cond true
 (cond true
 (cond true
 (cond true
 (cond true
 (cond true
 (cond true
 (cond true
 (cond true
 (cond true
 (zqvu (fun line e b1_ b2_ b3_ b4_ =>
 k (b1_, (b2_, (b3_, b4_))) line e) (fun b2_ b3_ b4_ b5_ b6_ b7_ b8_ b9_ =>
 zqvc (b6_, (b7_, (b8_, b9_))) (fun rCheck =>
 cond (!decide (rCheck = (0 : Int)))
 (k zqp (0 : Int) rCheck)
 (k (b6_, (b7_, (b8_, b9_))) (0 : Int) (0 : Int)))) l (List.length l : Int) (0 : Int) ([] : List zqa) ([] : List zqe) ([] : List zq0) ([] : List zq4) ([] : List zqa) ([] : List zqe) ([] : List zq0) ([] : List zq4))
 none)
 none)
 none)
 none)
 none)
 none)
 none)
 none)
 none)
 none)
 none)
 none)
 none)
 none)
 none
def zqvx : zqve := hid zqvw
noncomputable def zqvy : En := ⟨35, .spec (sg [v45y] [] [v42y, v19y, v19y] [] zqvx), Q9e mixed (X := ⟨look tab, gam zqvf, false, false, false, false, q83y, none, 0, []⟩) Qd zqvf rfl [zqvv] [.cell 2 27, .tmp 3, .tmp 4] Tryz.func35 (by kernel_rfl) fun _ _ => by kernel_rfl⟩
abbrev zqvz := {β : Type} → t5y → (zqg → Int → Int → Option β) → Option β
def zqw0 : zqvz := fun text k =>
 zqr8 text (fun rParse rParse2 lrParse =>
 cond (!decide (rParse2 = (0 : Int)))
 (k zqp rParse rParse2)
 (zqvx lrParse (fun rBuild rBuild2 rBuild3 =>
 k rBuild rBuild2 rBuild3)))
def zqw1 : zqvz := hid zqw0
noncomputable def zqw2 : En := ⟨13, .spec (sg [v27y] [] [v42y, v19y, v19y] [] zqw1), pf [zqvy, zqr9] [] [.cell 2 27, .tmp 3, .tmp 4] Tryz.func13 (by kernel_rfl) fun _ _ => by kernel_rfl⟩
abbrev zqw3 := {β : Type} → (Bool → Option β) → Option β
def zqw4 : zqw3 := fun k =>
 zq1d  (fun rtext =>
 zqw1 rtext (fun rLoad rLoad2 rLoad3 =>
 zqw1 ([122, 111, 110, 101, 32, 122, 32, 43, 48, 48, 58, 48, 48, 10, 112, 101, 114, 115, 111, 110, 32, 97, 32, 122, 10, 109, 101, 109, 98, 101, 114, 32, 97, 10] : List UInt8) (fun rLoad4 rLoad5 rLoad6 =>
 zqw1 ([112, 101, 114, 115, 111, 110, 32, 97, 32, 121, 10] : List UInt8) (fun rLoad7 rLoad8 rLoad9 =>
 zqhx rLoad ([97] : List UInt8) (fun rPerson rPerson2 =>
 zqi1 rLoad ([115] : List UInt8) (fun rSchedule rSchedule2 =>
 cond (decide (rLoad3 = (0 : Int)))
 (cond (decide (rLoad2 = (0 : Int)))
 (cond (decide (rLoad6 = (9 : Int)))
 (cond (decide (rLoad5 = (3 : Int)))
 (cond (decide (rLoad9 = (3 : Int)))
 (cond (decide (rLoad8 = (1 : Int)))
 (cond rPerson2
 (cond rSchedule2
 (cond (decide (rPerson = (0 : Int)))
 (cond (decide (rSchedule = (0 : Int)))
 (cond (decide ((List.length rLoad.2.2.2 : Int) = (1 : Int)))
 (cond (decide (0 ≤ (0 : Int)) && decide ((0 : Int) < (List.length rLoad.2.2.2 : Int)))
 (let e := List.getD rLoad.2.2.2 (Int.toNat (0 : Int)) (([] : List UInt8), (([] : List zq2), ([] : List t0y)));
 cond (decide ((List.length e.2.1 : Int) = (1 : Int)))
 (cond (decide (0 ≤ (0 : Int)) && decide ((0 : Int) < (List.length rLoad.2.2.2 : Int)))
 (let e2 := List.getD rLoad.2.2.2 (Int.toNat (0 : Int)) (([] : List UInt8), (([] : List zq2), ([] : List t0y)));
 cond (decide (0 ≤ (0 : Int)) && decide ((0 : Int) < (List.length e2.2.1 : Int)))
 (let e3 := List.getD e2.2.1 (Int.toNat (0 : Int)) (([] : List UInt8), ((0 : Int), (((0 : Int), (0 : Int)), ((0 : Int), ((0 : Int), (([] : List Int), (([] : List t6y), ((0 : Int), (0 : Int)))))))));
 let t := (decide (e3.2.2.2.1 = (2 : Int)));
 k t)
 none)
 none)
 (k false))
 none)
 (k false))
 (k false))
 (k false))
 (k false))
 (k false))
 (k false))
 (k false))
 (k false))
 (k false))
 (k false))
 (k false)))))))
def zqw5 : zqw3 := hid zqw4
noncomputable def zqw6 : En := ⟨9, .spec (sg [] [] [v24y] [] zqw5), pf [zq1e, zqw2, zqhy, zqi2] [] [.tmp 0] Tryz.func9 (by kernel_rfl) fun _ _ => by kernel_rfl⟩
theorem zqw7 : SpecOk Tryz.prog 9 (sg [] [] [v24y] [] zqw5) := zqw6.ok
abbrev zqw8 := {β : Type} → t12y → t5y → (Bool → Option β) → Option β
noncomputable def zqw9 : List En := [zqw6, zqhu, zqu, zqy, zqvd, zqhy, zqi2]
abbrev zqwa (β : Type) := Bool → Option β
abbrev zqwb (β : Type) := t5y → Bool → zqg → Option β
abbrev zqwc (β : Type) := t5y → Bool → Int → Int → zqg → Option β
noncomputable def zqwd : Pc := ⟨103, 0, Q4 506 (Q3 Tryz.f5), ⟨0, [1, 5, 6, 32, 33], [v27y, v23y, v24y, v19y, v19y], [b25y]⟩, [(.ret, ⟨0, [4], [v24y], []⟩), (.exit 0, ⟨0, [1, 5, 6], [v27y, v23y, v24y], [b25y]⟩)]⟩
abbrev zqwe (β : Type) := Bool → Option β
abbrev zqwf (β : Type) := t5y → Bool → zqg → Option β
abbrev zqwg (β : Type) := t5y → Bool → Int → Int → zqg → Option β
noncomputable def zqwh : Pc := ⟨103, 0, Q4 1018 (Q3 Tryz.f5), ⟨0, [1, 5, 6, 68, 69], [v27y, v23y, v24y, v19y, v19y], [b25y]⟩, [(.ret, ⟨0, [4], [v24y], []⟩), (.exit 2, ⟨0, [1, 5, 6], [v27y, v23y, v24y], [b25y]⟩)]⟩
def zqwi {β : Type} (rec : zqwc β) (k1 : zqwa β) (k2 : zqwb β) : zqwc β := fun name there t32 t33 c =>
 cond (decide (t33 < t32))
 (cond (decide (0 ≤ t33) && decide (t33 < (List.length c.2.1 : Int)))
 (let e := List.getD c.2.1 (Int.toNat t33) (([] : List UInt8), ((0 : Int), (([] : List t6y), ((0 : Int), ((0 : Int), false)))));
 zqhx c e.1 (fun rPerson rPerson2 =>
 cond (!rPerson2)
 (k1 false)
 (cond (!decide (rPerson = t33))
 (k1 false)
 (cond there
 (rec name true t32 (IntKind.i64.wrap (t33 + (1 : Int))) c)
 (cond (decide (0 ≤ t33) && decide (t33 < (List.length c.2.1 : Int)))
 (let e2 := List.getD c.2.1 (Int.toNat t33) (([] : List UInt8), ((0 : Int), (([] : List t6y), ((0 : Int), ((0 : Int), false)))));
 rec name (decide (e2.1 = name)) t32 (IntKind.i64.wrap (t33 + (1 : Int))) c)
 none)))))
 none)
 (k2 name there c)
def zqwj (m : Nat) {β : Type} (k1 : zqwa β) (k2 : zqwb β) : zqwc β := lp5 (fun r => zqwi r k1 k2) none m
theorem zqwk {β : Type} (i : Nat) (k1 k2) : zqwj (β := β) (i + 1) k1 k2 = zqwi (zqwj i k1 k2) k1 k2 := rfl
def zqwl {β : Type} := hid (zqwj (β := β) fuel)
noncomputable def zqwm : Pb := ⟨506, zqwd, fun _ => zqwl, pl (p := zqwd) zqw9 [] (g := fun i _ => zqwj i) (by kernel_rfl) rfl (by kernel_rfl) (fun _ _ => rfl) fun _ _ _ _ => by kernel_rfl⟩
def zqwn {β : Type} (rec : zqwg β) (k1 : zqwe β) (k2 : zqwf β) : zqwg β := fun name there t68 t69 c =>
 cond (decide (t69 < t68))
 (cond (decide (0 ≤ t69) && decide (t69 < (List.length c.2.2.2 : Int)))
 (let e := List.getD c.2.2.2 (Int.toNat t69) (([] : List UInt8), (([] : List zq2), ([] : List t0y)));
 zqi1 c e.1 (fun rSchedule rSchedule2 =>
 cond (!rSchedule2)
 (k1 false)
 (cond (!decide (rSchedule = t69))
 (k1 false)
 (rec name there t68 (IntKind.i64.wrap (t69 + (1 : Int))) c))))
 none)
 (k2 name there c)
def zqwo (m : Nat) {β : Type} (k1 : zqwe β) (k2 : zqwf β) : zqwg β := lp5 (fun r => zqwn r k1 k2) none m
theorem zqwp {β : Type} (i : Nat) (k1 k2) : zqwo (β := β) (i + 1) k1 k2 = zqwn (zqwo i k1 k2) k1 k2 := rfl
def zqwq {β : Type} := hid (zqwo (β := β) fuel)
noncomputable def zqwr : Pb := ⟨1018, zqwh, fun _ => zqwq, pl (p := zqwh) zqw9 [] (g := fun i _ => zqwo i) (by kernel_rfl) rfl (by kernel_rfl) (fun _ _ => rfl) fun _ _ _ _ => by kernel_rfl⟩
def zqws : zqw8 := fun t name k =>
 zqt t (fun rLight =>
 cond (!rLight)
 (zqw5  (fun rsane =>
 k rsane))
 (cond (decide ((100 : Int) < (List.length name : Int)))
 (zqw5  (fun rsane =>
 k rsane))
 (zqx t (fun mrRoll =>
 zqht (3 : Int) mrRoll (fun rConfig mrConfig =>
 zqvc rConfig (fun rCheck =>
 cond (!decide (rCheck = (0 : Int)))
 (k false)
 (zqwl (fun t4 =>
 k t4) (fun name2 there c =>
 zqwq (fun t4 =>
 k t4) (fun name3 there2 c2 =>
 zqhx c2 name3 (fun rPerson rPerson2 =>
 cond (rPerson2 == there2)
 (zqw5  (fun rsane =>
 k rsane))
 (k false))) name2 there (List.length c.2.2.2 : Int) (0 : Int) c) name false (List.length rConfig.2.1 : Int) (0 : Int) rConfig)))))))
def zqwt : zqw8 := hid zqws
noncomputable def zqwu : En := ⟨5, .spec (sg [v36y, v27y] [] [v24y] [] zqwt), pf zqw9 [zqwm, zqwr] [.tmp 4] Tryz.func5 (by kernel_rfl) fun _ _ => by kernel_rfl⟩
theorem zqwv : SpecOk Tryz.prog 5 (sg [v36y, v27y] [] [v24y] [] zqwt) := zqwu.ok
end
end Go.Lift
namespace Go.Lift
open Go.RowKit Go.IntWalk
section
variable {β : Type}
theorem Q1c {i n : Int} {a b : Option β} (h : 0 ≤ i ∧ i < n) : cond (decide (0 ≤ i) && decide (i < n)) a b = a := by
 rw [decide_eq_true h.1, decide_eq_true h.2]; rfl
theorem Qg3 {n : Nat} {a b : Option β} (h : n ≤ 140737488355328) : cond (decide (n ≤ Q8)) a b = a := by
 rw [decide_eq_true (p := n ≤ Q8) h]; rfl
theorem Qg {p : Prop} [Decidable p] {a b : Option β} (h : p) : cond (decide p) a b = a := by rw [decide_eq_true h]; rfl
theorem Qf {p : Prop} [Decidable p] {a b : Option β} (h : ¬ p) : cond (decide p) a b = b := by rw [decide_eq_false h]; rfl
theorem Q6b {p : Prop} [Decidable p] {a b : Option β} (h : p) : cond (!decide p) a b = b := by rw [decide_eq_true h]; rfl
theorem Q6c {p : Prop} [Decidable p] {a b : Option β} (h : ¬ p) : cond (!decide p) a b = a := by rw [decide_eq_false h]; rfl
theorem c_f {a b : Option β} : cond false a b = b := rfl
theorem c_kb (k : Bool → Option β) (p q : Bool) : cond p (k q) (k false) = k (p && q) := by cases p <;> rfl
theorem k_eq {γ : Type} {k : γ → Option β} {x y : γ} (h : x = y) : k x = k y := by rw [h]
def walk {α σ ε : Type} (g : Nat → α → σ → ε ⊕ σ) : List α → Nat → σ → ε ⊕ σ
 | [], _, s => .inr s
 | x :: r, j, s =>
  match g j x s with
  | .inl e => .inl e
  | .inr s' => walk g r (j + 1) s'
def sumK {ε σ : Type} (E : ε → Option β) (K : σ → Option β) : ε ⊕ σ → Option β
 | .inl e => E e
 | .inr s => K s
theorem Qe3 {α σ ε : Type} (F : Nat → Int → σ → Option β) (g : Nat → α → σ → ε ⊕ σ) (E : ε → Option β) (K : σ → Option β) (d : α) (xs : List α)
  (h1 : ∀ (m i : Nat) s, i < xs.length → F (m + 1) (i : Int) s = sumK E (fun s' => F m ((i : Int) + 1) s') (g i (xs.getD i d) s))
  (h2 : ∀ (m : Nat) s, F (m + 1) (xs.length : Int) s = K s) :
  ∀ (r : List α) (j fuel : Nat) (s : σ), xs.drop j = r → j + r.length = xs.length → r.length < fuel → F fuel (j : Int) s = sumK E K (walk g r j s)
 | r, j, 0, s, _, _, h => absurd h (Nat.not_lt_zero _)
 | [], j, m + 1, s, hd, hj, _ => by
  simp only [List.length_nil, Nat.add_zero] at hj
  subst hj
  rw [h2]; rfl
 | x :: r, j, m + 1, s, hd, hj, hm => by
  simp only [List.length_cons] at hj hm
  have h3 : j < xs.length := by omega
  have hx : xs.getD j d = x := by
   rw [List.drop_eq_getElem_cons h3] at hd
   injection hd with hd1 hd2
   simp [List.getD, h3, hd1]
  have hr : xs.drop (j + 1) = r := by
   rw [List.drop_eq_getElem_cons h3] at hd
   injection hd with hd1 hd2
  rw [h1 m j s h3, hx, walk]
  cases hg : g j x s with
  | inl e => rfl
  | inr s' =>
   simp only [sumK]
   exact Qe3 F g E K d xs h1 h2 r (j + 1) m s' hr (by omega) (by omega)
theorem Q1e {α σ ε : Type} (F : Nat → Int → σ → Option β) (g : Nat → α → σ → ε ⊕ σ) (E : ε → Option β) (K : σ → Option β) (d : α) (xs : List α) (s : σ) (n : Nat) (hn : xs.length < n)
  (h1 : ∀ (m i : Nat) s, i < xs.length → F (m + 1) (i : Int) s = sumK E (fun s' => F m ((i : Int) + 1) s') (g i (xs.getD i d) s))
  (h2 : ∀ (m : Nat) s, F (m + 1) (xs.length : Int) s = K s) : F n 0 s = sumK E K (walk g xs 0 s) :=
 Qe3 F g E K d xs h1 h2 xs 0 n s rfl (by simp) hn
theorem Q5e {α : Type} (F : Nat → Int → Option β) (p : α → Bool) (E K : Option β) (d : α) (xs : List α) (n : Nat) (hn : xs.length < n)
  (h1 : ∀ (m i : Nat), i < xs.length → F (m + 1) (i : Int) = cond (p (xs.getD i d)) (F m ((i : Int) + 1)) E)
  (h2 : ∀ (m : Nat), F (m + 1) (xs.length : Int) = K) : F n 0 = cond (xs.all p) K E := by
 have h := Q1e (ε := Unit) (fun m i (_ : Unit) => F m i) (fun _ x s => cond (p x) (.inr s) (.inl ())) (fun _ => E) (fun _ => K) d xs () n hn
  (fun m i s hi => by rw [h1 m i hi]; cases p (xs.getD i d) <;> rfl) (fun m s => h2 m)
 rw [h]
 have key : ∀ (l : List α) (j : Nat), sumK (fun _ => E) (fun _ => K) (walk (ε := Unit) (fun _ x (s : Unit) => cond (p x) (.inr s) (.inl ())) l j ()) = cond (l.all p) K E := by
  intro l
  induction l with
  | nil => intro j; rfl
  | cons x l ih =>
   intro j
   simp only [walk, List.all_cons]
   cases p x with
   | true => simpa using ih (j + 1)
   | false => rfl
 exact key xs 0
theorem Qjb {α σ : Type} (F : Nat → Int → σ → Option β) (g : σ → α → σ) (K : σ → Option β) (d : α) (xs : List α) (s : σ) (n : Nat) (hn : xs.length < n)
  (h1 : ∀ (m i : Nat) s, i < xs.length → F (m + 1) (i : Int) s = F m ((i : Int) + 1) (g s (xs.getD i d)))
  (h2 : ∀ (m : Nat) s, F (m + 1) (xs.length : Int) s = K s) : F n 0 s = K (xs.foldl g s) := by
 have h := Q1e (ε := Empty) F (fun _ x s => .inr (g s x)) (fun e => e.elim) K d xs s n hn (fun m i s hi => h1 m i s hi) h2
 rw [h]
 have key : ∀ (l : List α) (j : Nat) (s : σ), sumK (fun e : Empty => e.elim) K (walk (fun _ x s => .inr (g s x)) l j s) = K (l.foldl g s) := by
  intro l
  induction l with
  | nil => intro j s; rfl
  | cons x l ih => intro j s; exact ih (j + 1) (g s x)
 exact key xs 0 s
theorem Q89 {α σ : Type} (I : Nat → σ → Prop) (F : Nat → Int → σ → Option β) (g : σ → α → σ) (K : σ → Option β) (d : α) (xs : List α) (s : σ) (n : Nat) (hn : xs.length < n) (h0 : I 0 s)
  (hI : ∀ (i : Nat) s, i < xs.length → I i s → I (i + 1) (g s (xs.getD i d)))
  (h1 : ∀ (m i : Nat) s, i < xs.length → I i s → F (m + 1) (i : Int) s = F m ((i : Int) + 1) (g s (xs.getD i d)))
  (h2 : ∀ (m : Nat) s, I xs.length s → F (m + 1) (xs.length : Int) s = K s) : F n 0 s = K (xs.foldl g s) := by
 have key : ∀ (r : List α) (j fuel : Nat) (s : σ), xs.drop j = r → j + r.length = xs.length → r.length < fuel → I j s → F fuel (j : Int) s = K (r.foldl g s) := by
  intro r
  induction r with
  | nil =>
   intro j fuel s hd hj hf hs
   obtain ⟨m, rfl⟩ : ∃ m, fuel = m + 1 := ⟨fuel - 1, by omega⟩
   simp only [List.length_nil, Nat.add_zero] at hj
   subst hj
   exact h2 m s hs
  | cons x r ih =>
   intro j fuel s hd hj hf hs
   obtain ⟨m, rfl⟩ : ∃ m, fuel = m + 1 := ⟨fuel - 1, by omega⟩
   simp only [List.length_cons] at hj hf
   have h3 : j < xs.length := by omega
   have hx : xs.getD j d = x := by
    rw [List.drop_eq_getElem_cons h3] at hd
    injection hd with hd1 hd2
    simp [List.getD, h3, hd1]
   have hr : xs.drop (j + 1) = r := by
    rw [List.drop_eq_getElem_cons h3] at hd
    injection hd with hd1 hd2
   rw [h1 m j s h3 hs, hx]
   have := hI j s h3 hs
   rw [hx] at this
   exact ih (j + 1) m (g s x) hr (by omega) (by omega) this
 exact key xs 0 n s rfl (by simp) hn h0
end
end Go.Lift
