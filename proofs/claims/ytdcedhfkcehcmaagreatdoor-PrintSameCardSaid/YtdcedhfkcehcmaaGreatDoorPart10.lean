/- Part10: Fn0, Fn1, LBase, LCivil, LChk, LChk2, LZone, LDice. -/
import Derived.Test.YtdcedhfkcehcmaaGreatDoorProg
import Derived.KernelRfl
import Derived.Test.YtdcedhfkcehcmaaGreatDoorPart9
set_option linter.unusedVariables false
set_option linter.unusedSectionVars false
set_option linter.unusedSimpArgs false
namespace Go.Lift
open Go.Proofs
noncomputable section
variable [Sl]
set_option maxRecDepth 100000
set_option linter.unusedVariables false
abbrev zq0 := (List UInt8 × (Int × List Int))
abbrev zq1 : Ty := (.prod .str (.prod (.int .i64) (.slice (.int .i64))))
abbrev zq2 := (List UInt8 × (Int × ((Int × Int) × (Int × (Int × (List Int × (List (Int × Int) × (Int × Int))))))))
abbrev zq3 : Ty := (.prod .str (.prod (.int .i64) (.prod (.prod (.int .i64) (.int .i64)) (.prod (.int .i64) (.prod (.int .i64) (.prod (.slice (.int .i64)) (.prod (.slice (.prod (.int .i64) (.int .i64))) (.prod (.int .i64) (.int .i64)))))))))
abbrev zq4 := (List UInt8 × (List zq2 × List (Int × (Int × (Int × (Int × Int))))))
abbrev zq5 : Ty := (.prod .str (.prod (.slice zq3) (.slice (.prod (.int .i64) (.prod (.int .i64) (.prod (.int .i64) (.prod (.int .i64) (.int .i64))))))))
abbrev zq6 := (Int × (List UInt8 × Int))
abbrev zq7 : Ty := (.prod (.int .i64) (.prod .str (.int .i64)))
abbrev zq8 := (Int × (Int × (Int × (Int × (Int × (Int × Int))))))
abbrev zq9 : Ty := (.prod (.int .i64) (.prod (.int .i64) (.prod (.int .i64) (.prod (.int .i64) (.prod (.int .i64) (.prod (.int .i64) (.int .i64)))))))
abbrev zqa := (List UInt8 × (Int × List zq8))
abbrev zqb : Ty := (.prod .str (.prod (.int .i64) (.slice zq9)))
abbrev zqc := (List UInt8 × (List Int × Bool))
abbrev zqd : Ty := (.prod .str (.prod (.slice (.int .i64)) .bool))
abbrev zqe := (List UInt8 × (Int × (List (Int × Int) × (Int × (Int × Bool)))))
abbrev zqf : Ty := (.prod .str (.prod (.int .i64) (.prod (.slice (.prod (.int .i64) (.int .i64))) (.prod (.int .i64) (.prod (.int .i64) .bool)))))
abbrev zqg := (List zqa × (List zqe × (List zq0 × List zq4)))
abbrev zqh : Ty := (.prod (.slice zqb) (.prod (.slice zqf) (.prod (.slice zq1) (.slice zq5))))
abbrev zqi := (zqg × List (Int × List zq6))
abbrev zqj : Ty := (.prod zqh (.slice (.prod (.int .i64) (.slice zq7))))
abbrev zqk : zq6 := ((0 : Int), (([] : List UInt8), (0 : Int)))
abbrev zql : zqc := (([] : List UInt8), (([] : List Int), false))
abbrev zqm : zq0 := (([] : List UInt8), ((0 : Int), ([] : List Int)))
abbrev zqn : zqa := (([] : List UInt8), ((0 : Int), ([] : List zq8)))
abbrev zqo : zq8 := ((0 : Int), ((0 : Int), ((0 : Int), ((0 : Int), ((0 : Int), ((0 : Int), (0 : Int)))))))
abbrev zqp : zqe := (([] : List UInt8), ((0 : Int), (([] : List (Int × Int)), ((0 : Int), ((0 : Int), false)))))
abbrev zqq : zq4 := (([] : List UInt8), (([] : List zq2), ([] : List (Int × (Int × (Int × (Int × Int)))))))
abbrev zqr : zqg := (([] : List zqa), (([] : List zqe), (([] : List zq0), ([] : List zq4))))
abbrev zqs : zqi := ((([] : List zqa), (([] : List zqe), (([] : List zq0), ([] : List zq4)))), ([] : List (Int × List zq6)))
abbrev zqt : zq2 := (([] : List UInt8), ((0 : Int), (((0 : Int), (0 : Int)), ((0 : Int), ((0 : Int), (([] : List Int), (([] : List (Int × Int)), ((0 : Int), (0 : Int)))))))))
abbrev t0y := List zq0
abbrev t1y := Int × Int
abbrev t2y := List Int × Int
abbrev t3y := List UInt8
abbrev t4y := List zq4
abbrev t5y := List zqe
abbrev t6y := List zqa
abbrev t7y := Int × (Int × (Int × t1y))
abbrev t8y := Int × List zq6
abbrev t9y := List t1y
abbrev t10y := List zq6
abbrev t11y := List Int
abbrev t12y := zqg × zqg
abbrev t13y := List zq8
abbrev t14y := List zq2
abbrev o15y : OT := .p (.d .str) (.p (.d (.int .i64)) (.p (.d (.prod (.int .i64) (.int .i64))) (.p (.d (.int .i64)) (.p (.d (.int .i64)) (.p (.r 3 (.d (.int .i64))) (.p (.r 73 (.d (.prod (.int .i64) (.int .i64)))) (.d (.prod (.int .i64) (.int .i64)))))))))
abbrev o16y : OT := .p (.d .str) (.p (.r 60 o15y) (.r 64 (.d (.prod (.int .i64) (.prod (.int .i64) (.prod (.int .i64) (.prod (.int .i64) (.int .i64))))))))
abbrev o17y : OT := .p (.d .str) (.p (.d (.int .i64)) (.p (.r 73 (.d (.prod (.int .i64) (.int .i64)))) (.d (.prod (.int .i64) (.prod (.int .i64) .bool)))))
abbrev o18y : OT := .p (.d .str) (.p (.d (.int .i64)) (.r 111 (.d zq9)))
abbrev o19y : OT := .p (.d .str) (.p (.d (.int .i64)) (.r 3 (.d (.int .i64))))
abbrev o20y : OT := .p (.d .str) (.p (.r 60 (.d zq3)) (.r 64 (.d (.prod (.int .i64) (.prod (.int .i64) (.prod (.int .i64) (.prod (.int .i64) (.int .i64))))))))
abbrev o21y : OT := .p (.d (.int .i64)) (.r 101 (.d zq7))
abbrev v22y : Bool × List CT := (false, [.data (.int .i64)])
abbrev b23y : BT := .cells 48 [.data (.prod (.slice (.int .i64)) (.int .i64))]
abbrev b24y : BT := .cells 95 [.data (.slice zqb), .data (.slice zqf), .data (.slice zq1), .data (.slice zq5), .trowh 1]
abbrev v25y : Bool × List CT := (false, [.data .bool])
abbrev v26y : Bool × List CT := (false, [.ptr 0 0])
abbrev b27y : BT := .cells 124 [.trowh 1, .trowh 2, .trowh 3, .trowh 4]
abbrev v28y : Bool × List CT := (false, [.data .str])
abbrev b29y : BT := .cells 28 [.data zqh]
abbrev v30y : Bool × List CT := (false, [.data (.slice zq7)])
abbrev b31y : BT := .cells 60 [.data .str, .data (.int .i64), .data (.int .i64), .data (.int .i64), .data (.int .i64), .data (.int .i64), .rowh 6, .rowh 7, .data (.int .i64), .data (.int .i64)]
abbrev b32y : BT := .cells 60 [.data .str, .data (.int .i64), .data (.int .i64), .data (.int .i64), .data (.int .i64), .data (.int .i64), .rowh 4, .rowh 5, .data (.int .i64), .data (.int .i64)]
abbrev v33y : Bool × List CT := (false, [.ptr 1 0])
abbrev v34y : Bool × List CT := (false, [.data (.slice (.int .i64))])
abbrev v35y : Bool × List CT := (true, [.data zqh])
abbrev v36y : Bool × List CT := (false, [.data (.slice (.prod (.int .i64) (.int .i64)))])
abbrev v37y : Bool × List CT := (false, [.ptr 2 0])
abbrev b38y : BT := .cells 28 [.data (.slice zqb), .data (.slice zqf), .data (.slice zq1), .junk]
abbrev v39y : Bool × List CT := (false, [.rowh 0])
abbrev v40y : Bool × List CT := (false, [.data (.slice (.prod (.int .i64) (.prod (.int .i64) (.prod (.int .i64) (.prod (.int .i64) (.int .i64))))))])
abbrev b41y : BT := .cells 28 [.rowh 3, .rowh 4, .rowh 5, .rowh 6]
abbrev v42y : Bool × List CT := (false, [.data (.slice zq9)])
abbrev b43y : BT := .cells 64 [.data (.prod (.int .i64) (.prod (.int .i64) (.prod (.int .i64) (.prod (.int .i64) (.int .i64)))))]
abbrev v44y : Bool × List CT := (true, [.data (.prod (.int .i64) (.prod (.int .i64) (.int .i64)))])
abbrev b45y : BT := .cells 28 [.data (.slice zqb), .data (.slice zqf), .data (.slice zq1), .rowh 8]
abbrev v46y : Bool × List CT := (true, [.data zq7])
abbrev b47y : BT := .cells 9 [.data .str]
abbrev b48y : BT := .cells 28 [.rowh 7, .rowh 8, .rowh 9, .rowh 10]
abbrev v49y : Bool × List CT := (true, [.data zqb])
abbrev b50y : BT := .cells 28 [.rowh 4, .rowh 5, .rowh 6, .rowh 7]
abbrev v51y : Bool × List CT := (false, [.data (.slice zq1)])
abbrev b52y : BT := .cells 28 [.data (.slice zqb), .data (.slice zqf), .data (.slice zq1), .trowh 3]
abbrev v53y : Bool × List CT := (true, [.data (.prod (.int .i64) (.prod (.int .i64) (.prod (.int .i64) (.prod (.int .i64) (.int .i64)))))])
abbrev v54y : Bool × List CT := (false, [.data (.slice zqb)])
abbrev v55y : Bool × List CT := (false, [.data (.slice (.prod (.int .i64) (.slice zq7)))])
abbrev v56y : Bool × List CT := (true, [.data zq3])
abbrev b57y : BT := .cells 60 [.data .str, .data (.int .i64), .data (.int .i64), .data (.int .i64), .data (.int .i64), .data (.int .i64), .rowh 2, .rowh 3, .data (.int .i64), .data (.int .i64)]
abbrev v58y : Bool × List CT := (false, [.data (.slice zqf)])
abbrev v59y : Bool × List CT := (false, [.ptr 3 0])
abbrev v60y : Bool × List CT := (true, [.data zq5])
abbrev v61y : Bool × List CT := (true, [.data zq1])
abbrev v62y : Bool × List CT := (false, [.data (.slice zq5)])
abbrev b63y : BT := .cells 69 [.data zqb]
abbrev b64y : BT := .cells 55 [.data zq5]
abbrev v65y : Bool × List CT := (false, [.data (.slice zq3)])
abbrev v66y : Bool × List CT := (true, [.data zqf])
abbrev b67y : BT := .cells 55 [.data .str, .rowh 9, .rowh 10]
abbrev v68y : Bool × List CT := (false, [.rowh 1])
abbrev b69y : BT := .cells 28 [.data (.slice zqb), .data (.slice zqf), .data (.slice zq1), .rowh 7]
abbrev v70y : Bool × List CT := (true, [.data (.slice zqb), .data (.slice zqf), .data (.slice zq1), .junk])
abbrev b71y : BT := .cells 28 [.rowh 8, .rowh 9, .rowh 10, .rowh 11]
abbrev b72y : BT := .cells 28 [.rowh 3, .rowh 4, .rowh 5, .trowh 6]
abbrev l73y : List BT := [b27y, .tree 69 o18y, .tree 71 o17y, .tree 75 o19y, .tree 55 o16y]
abbrev l74y : List BT := [b23y, b41y, b48y, .row 69 zqb, .row 71 zqf, .row 75 zq1, .row 55 zq5, .row 69 zqb, .row 71 zqf, .row 75 zq1, .row 55 zq5]
abbrev l75y : List BT := [b23y, b50y, b45y, b67y, .row 69 zqb, .row 71 zqf, .row 75 zq1, .row 55 zq5, .row 55 zq5, .row 60 zq3, .row 64 (.prod (.int .i64) (.prod (.int .i64) (.prod (.int .i64) (.prod (.int .i64) (.int .i64)))))]
abbrev l76y : List BT := [b23y, b38y, b32y, b31y, .row 3 (.int .i64), .row 73 (.prod (.int .i64) (.int .i64)), .row 3 (.int .i64), .row 73 (.prod (.int .i64) (.int .i64))]
abbrev l77y : List BT := [b24y, .tree 121 o21y]
abbrev l78y : List BT := [b23y, b50y, b71y, .cells 75 [.data .str, .data (.int .i64), .rowh 12], .row 69 zqb, .row 71 zqf, .row 75 zq1, .row 55 zq5, .row 69 zqb, .row 71 zqf, .row 75 zq1, .row 55 zq5, .row 3 (.int .i64)]
abbrev l79y : List BT := [.row 255 (.prod (.int .i64) (.int .i64))]
abbrev l80y : List BT := [.row 121 (.prod (.int .i64) (.slice zq7))]
abbrev l81y : List BT := [b23y, b41y, b69y, .row 69 zqb, .row 71 zqf, .row 75 zq1, .row 55 zq5, .row 55 zq5]
abbrev l82y : List BT := [b23y, b29y, b72y, .row 69 zqb, .row 71 zqf, .row 75 zq1, .tree 55 o20y]
abbrev l83y : List BT := [b23y, .row 73 (.prod (.int .i64) (.int .i64))]
abbrev l84y : List BT := [.row 257 (.prod (.int .i64) (.int .i64)), .row 255 (.prod (.int .i64) (.int .i64))]
abbrev l85y : List BT := [.cells 246 [.fn 180 []], b47y]
abbrev l86y : List BT := [.cells 145 [.fn 182 []], b47y]
abbrev l87y : List BT := [.cells 139 [.fn 177 []], b47y]
abbrev l88y : List BT := [.row 257 (.prod (.int .i64) (.int .i64))]
abbrev q89y : List (TypeId × OT) := [(55, o16y), (60, o15y), (69, o18y), (71, o17y), (75, o19y)]
abbrev q90y : List (TypeId × OT) := [(121, o21y)]
def tab : List (Nat × TI) := [
 (3, ⟨false, 1, 8, [.int .i64 (0 : Int)], [], none, none, (some (.int .i64)), (some .i64), false, false, none, none, false⟩),
 (4, ⟨false, 1, 1, [.bool false], [], none, none, (some .bool), none, true, false, none, none, false⟩),
 (5, ⟨false, 1, 1, [.int .u8 (0 : Int)], [], none, none, (some (.int .u8)), (some .u8), false, false, none, none, false⟩),
 (9, ⟨false, 1, 16, [.str ([] : List UInt8)], [], none, none, (some .str), none, false, true, none, none, false⟩),
 (22, ⟨false, 1, 24, [.nils], [], (some 3), none, (some (.slice (.int .i64))), none, false, false, none, none, false⟩),
 (23, ⟨false, 1, 24, [.nils], [], (some 69), none, (some (.slice zqb)), none, false, false, none, none, false⟩),
 (24, ⟨false, 1, 24, [.nils], [], (some 71), none, (some (.slice zqf)), none, false, false, none, none, false⟩),
 (25, ⟨false, 1, 24, [.nils], [], (some 75), none, (some (.slice zq1)), none, false, false, none, none, false⟩),
 (26, ⟨false, 1, 24, [.nils], [], (some 55), none, (some (.slice zq5)), none, false, false, none, none, false⟩),
 (28, ⟨true, 4, 96, [.nils, .nils, .nils, .nils], [(0, 1, false), (1, 1, false), (2, 1, false), (3, 1, false)], none, none, (some zqh), none, false, false, none, none, false⟩),
 (35, ⟨true, 8, 192, [.nils, .nils, .nils, .nils, .nils, .nils, .nils, .nils], [], (some 28), (some 2), (some (.prod zqh zqh)), none, false, false, none, none, false⟩),
 (36, ⟨true, 40, 960, [.nils, .nils, .nils, .nils, .nils, .nils, .nils, .nils, .nils, .nils, .nils, .nils, .nils, .nils, .nils, .nils, .nils, .nils, .nils, .nils, .nils, .nils, .nils, .nils, .nils, .nils, .nils, .nils, .nils, .nils, .nils, .nils, .nils, .nils, .nils, .nils, .nils, .nils, .nils, .nils], [], (some 35), (some 5), (some (.prod (.prod zqh zqh) (.prod (.prod zqh zqh) (.prod (.prod zqh zqh) (.prod (.prod zqh zqh) (.prod zqh zqh)))))), none, false, false, none, none, false⟩),
 (44, ⟨false, 1, 24, [.nils], [], (some 121), none, (some (.slice (.prod (.int .i64) (.slice zq7)))), none, false, false, none, none, false⟩),
 (48, ⟨true, 2, 32, [.nils, .int .i64 (0 : Int)], [(0, 1, false), (1, 1, false)], none, none, (some (.prod (.slice (.int .i64)) (.int .i64))), none, false, false, none, none, false⟩),
 (51, ⟨false, 1, 24, [.nils], [], (some 9), none, (some (.slice .str)), none, false, false, none, none, false⟩),
 (52, ⟨false, 1, 24, [.nils], [], (some 60), none, (some (.slice zq3)), none, false, false, none, none, false⟩),
 (53, ⟨false, 1, 24, [.nils], [], (some 64), none, (some (.slice (.prod (.int .i64) (.prod (.int .i64) (.prod (.int .i64) (.prod (.int .i64) (.int .i64))))))), none, false, false, none, none, false⟩),
 (55, ⟨true, 3, 64, [.str ([] : List UInt8), .nils, .nils], [(0, 1, false), (1, 1, false), (2, 1, false)], none, none, (some zq5), none, false, false, none, none, false⟩),
 (57, ⟨true, 2, 16, [.int .i64 (0 : Int), .int .i64 (0 : Int)], [(0, 1, false), (1, 1, false)], none, none, (some (.prod (.int .i64) (.int .i64))), none, false, false, (some [.i, .i]), none, false⟩),
 (58, ⟨false, 1, 24, [.nils], [], (some 73), none, (some (.slice (.prod (.int .i64) (.int .i64)))), none, false, false, none, none, false⟩),
 (60, ⟨true, 10, 120, [.str ([] : List UInt8), .int .i64 (0 : Int), .int .i64 (0 : Int), .int .i64 (0 : Int), .int .i64 (0 : Int), .int .i64 (0 : Int), .nils, .nils, .int .i64 (0 : Int), .int .i64 (0 : Int)], [(0, 1, false), (1, 1, false), (2, 2, true), (4, 1, false), (5, 1, false), (6, 1, false), (7, 1, false), (8, 1, false), (9, 1, false)], none, none, (some zq3), none, false, false, none, none, false⟩),
 (64, ⟨true, 5, 40, [.int .i64 (0 : Int), .int .i64 (0 : Int), .int .i64 (0 : Int), .int .i64 (0 : Int), .int .i64 (0 : Int)], [(0, 1, false), (1, 1, false), (2, 1, false), (3, 1, false), (4, 1, false)], none, none, (some (.prod (.int .i64) (.prod (.int .i64) (.prod (.int .i64) (.prod (.int .i64) (.int .i64)))))), none, false, false, (some [.i, .i, .i, .i, .i]), none, false⟩),
 (67, ⟨false, 1, 24, [.nils], [], (some 111), none, (some (.slice zq9)), none, false, false, none, none, false⟩),
 (69, ⟨true, 3, 48, [.str ([] : List UInt8), .int .i64 (0 : Int), .nils], [(0, 1, false), (1, 1, false), (2, 1, false)], none, none, (some zqb), none, false, false, none, none, false⟩),
 (71, ⟨true, 6, 72, [.str ([] : List UInt8), .int .i64 (0 : Int), .nils, .int .i64 (0 : Int), .int .i64 (0 : Int), .bool false], [(0, 1, false), (1, 1, false), (2, 1, false), (3, 1, false), (4, 1, false), (5, 1, false)], none, none, (some zqf), none, false, false, none, none, false⟩),
 (73, ⟨true, 2, 16, [.int .i64 (0 : Int), .int .i64 (0 : Int)], [(0, 1, false), (1, 1, false)], none, none, (some (.prod (.int .i64) (.int .i64))), none, false, false, (some [.i, .i]), none, false⟩),
 (75, ⟨true, 3, 48, [.str ([] : List UInt8), .int .i64 (0 : Int), .nils], [(0, 1, false), (1, 1, false), (2, 1, false)], none, none, (some zq1), none, false, false, none, none, false⟩),
 (76, ⟨false, 1, 8, [.nilp], [], none, none, none, none, false, false, none, none, true⟩),
 (77, ⟨false, 1, 8, [.nilp], [], none, none, none, none, false, false, none, none, true⟩),
 (95, ⟨true, 5, 120, [.nils, .nils, .nils, .nils, .nils], [(0, 4, true), (4, 1, false)], none, none, (some zqj), none, false, false, none, none, false⟩),
 (101, ⟨true, 3, 32, [.int .i64 (0 : Int), .str ([] : List UInt8), .int .i64 (0 : Int)], [(0, 1, false), (1, 1, false), (2, 1, false)], none, none, (some zq7), none, false, false, (some [.i, .s, .i]), none, false⟩),
 (111, ⟨true, 7, 56, [.int .i64 (0 : Int), .int .i64 (0 : Int), .int .i64 (0 : Int), .int .i64 (0 : Int), .int .i64 (0 : Int), .int .i64 (0 : Int), .int .i64 (0 : Int)], [(0, 1, false), (1, 1, false), (2, 1, false), (3, 1, false), (4, 1, false), (5, 1, false), (6, 1, false)], none, none, (some zq9), none, false, false, (some [.i, .i, .i, .i, .i, .i, .i]), none, false⟩),
 (116, ⟨false, 1, 24, [.nils], [], (some 101), none, (some (.slice zq7)), none, false, false, none, none, false⟩),
 (121, ⟨true, 2, 32, [.int .i64 (0 : Int), .nils], [(0, 1, false), (1, 1, false)], none, none, (some (.prod (.int .i64) (.slice zq7))), none, false, false, none, none, false⟩),
 (124, ⟨true, 4, 96, [.nils, .nils, .nils, .nils], [(0, 4, true)], none, none, (some zqh), none, false, false, none, none, false⟩),
 (125, ⟨false, 1, 8, [.junk], [], none, none, none, none, false, false, none, (some (9, 127)), false⟩),
 (127, ⟨false, 1, 8, [.nilfn], [], none, none, none, none, false, false, none, none, false⟩),
 (131, ⟨true, 2, 32, [.nilp, .nils], [(0, 1, false), (1, 1, false)], none, none, none, none, false, false, none, none, false⟩),
 (134, ⟨false, 1, 16, [.err true], [], none, none, (some .err), none, false, false, none, none, false⟩),
 (139, ⟨false, 1, 8, [.nilfn], [], none, none, none, none, false, false, none, none, false⟩),
 (141, ⟨false, 1, 8, [.junk], [], none, none, none, none, false, false, none, (some (9, 4)), false⟩),
 (145, ⟨false, 1, 8, [.nilfn], [], none, none, none, none, false, false, none, none, false⟩),
 (165, ⟨true, 3, 48, [.str ([] : List UInt8), .nils, .bool false], [(0, 1, false), (1, 1, false), (2, 1, false)], none, none, (some zqd), none, false, false, none, none, false⟩),
 (191, ⟨false, 1, 24, [.nils], [], (some 165), none, (some (.slice zqd)), none, false, false, none, none, false⟩),
 (197, ⟨false, 1, 8, [.nilp], [], none, none, none, none, false, false, none, none, true⟩),
 (203, ⟨false, 1, 8, [.nilp], [], none, none, none, none, false, false, none, none, true⟩),
 (206, ⟨false, 1, 8, [.nilp], [], none, none, none, none, false, false, none, none, true⟩),
 (220, ⟨false, 1, 24, [.nils], [], (some 257), none, (some (.slice (.prod (.int .i64) (.int .i64)))), none, false, false, none, none, false⟩),
 (228, ⟨true, 3, 24, [.int .i64 (0 : Int), .int .i64 (0 : Int), .int .i64 (0 : Int)], [(0, 1, false), (1, 1, false), (2, 1, false)], none, none, (some (.prod (.int .i64) (.prod (.int .i64) (.int .i64)))), none, false, false, (some [.i, .i, .i]), none, false⟩),
 (246, ⟨false, 1, 8, [.nilfn], [], none, none, none, none, false, false, none, none, false⟩),
 (251, ⟨false, 1, 24, [.nils], [], (some 255), none, (some (.slice (.prod (.int .i64) (.int .i64)))), none, false, false, none, none, false⟩),
 (255, ⟨true, 2, 16, [.int .i64 (0 : Int), .int .i64 (0 : Int)], [(0, 1, false), (1, 1, false)], none, none, (some (.prod (.int .i64) (.int .i64))), none, false, false, (some [.i, .i]), none, false⟩),
 (257, ⟨true, 2, 16, [.int .i64 (0 : Int), .int .i64 (0 : Int)], [(0, 1, false), (1, 1, false)], none, none, (some (.prod (.int .i64) (.int .i64))), none, false, false, (some [.i, .i]), none, false⟩),
 (285, ⟨true, 12, 96, [.int .i64 (0 : Int), .int .i64 (0 : Int), .int .i64 (0 : Int), .int .i64 (0 : Int), .int .i64 (0 : Int), .int .i64 (0 : Int), .int .i64 (0 : Int), .int .i64 (0 : Int), .int .i64 (0 : Int), .int .i64 (0 : Int), .int .i64 (0 : Int), .int .i64 (0 : Int)], [], (some 3), (some 12), (some (.prod (.int .i64) (.prod (.int .i64) (.prod (.int .i64) (.prod (.int .i64) (.prod (.int .i64) zq9)))))), none, false, false, (some [.i, .i, .i, .i, .i, .i, .i, .i, .i, .i, .i, .i]), none, false⟩)]
theorem Q4 : TOk Tryz.prog (look tab) := Qma (by kernel_rfl)
theorem mixed : Tryz.prog.follows .mixedOrders = true := by kernel_rfl
abbrev OK (p : Pc) (G : p.G) : Prop := p.Ok Tryz.prog G
abbrev GO (X : Ctx) : Prop := ΓOk Tryz.prog X.Γ
@[reducible] def cx (l : List (Nat × Fun)) : Ctx := ⟨look tab, Q1g l, false, false, false, false, [], none, 0, []⟩
@[reducible] def lp2 {A0 A1 B : Type} (f : (A0 → A1 → B) → A0 → A1 → B) (z : B) : Nat → A0 → A1 → B
 | 0 => fun _ _ => z
 | i + 1 => f (lp2 f z i)
@[reducible] def lp3 {A0 A1 A2 B : Type} (f : (A0 → A1 → A2 → B) → A0 → A1 → A2 → B) (z : B) : Nat → A0 → A1 → A2 → B
 | 0 => fun _ _ _ => z
 | i + 1 => f (lp3 f z i)
@[reducible] def lp4 {A0 A1 A2 A3 B : Type} (f : (A0 → A1 → A2 → A3 → B) → A0 → A1 → A2 → A3 → B) (z : B) : Nat → A0 → A1 → A2 → A3 → B
 | 0 => fun _ _ _ _ => z
 | i + 1 => f (lp4 f z i)
@[reducible] def lp5 {A0 A1 A2 A3 A4 B : Type} (f : (A0 → A1 → A2 → A3 → A4 → B) → A0 → A1 → A2 → A3 → A4 → B) (z : B) : Nat → A0 → A1 → A2 → A3 → A4 → B
 | 0 => fun _ _ _ _ _ => z
 | i + 1 => f (lp5 f z i)
@[reducible] def lp6 {A0 A1 A2 A3 A4 A5 B : Type} (f : (A0 → A1 → A2 → A3 → A4 → A5 → B) → A0 → A1 → A2 → A3 → A4 → A5 → B) (z : B) : Nat → A0 → A1 → A2 → A3 → A4 → A5 → B
 | 0 => fun _ _ _ _ _ _ => z
 | i + 1 => f (lp6 f z i)
@[reducible] def lp7 {A0 A1 A2 A3 A4 A5 A6 B : Type} (f : (A0 → A1 → A2 → A3 → A4 → A5 → A6 → B) → A0 → A1 → A2 → A3 → A4 → A5 → A6 → B) (z : B) : Nat → A0 → A1 → A2 → A3 → A4 → A5 → A6 → B
 | 0 => fun _ _ _ _ _ _ _ => z
 | i + 1 => f (lp7 f z i)
@[reducible] def lp8 {A0 A1 A2 A3 A4 A5 A6 A7 B : Type} (f : (A0 → A1 → A2 → A3 → A4 → A5 → A6 → A7 → B) → A0 → A1 → A2 → A3 → A4 → A5 → A6 → A7 → B) (z : B) : Nat → A0 → A1 → A2 → A3 → A4 → A5 → A6 → A7 → B
 | 0 => fun _ _ _ _ _ _ _ _ => z
 | i + 1 => f (lp8 f z i)
@[reducible] def lp9 {A0 A1 A2 A3 A4 A5 A6 A7 A8 B : Type} (f : (A0 → A1 → A2 → A3 → A4 → A5 → A6 → A7 → A8 → B) → A0 → A1 → A2 → A3 → A4 → A5 → A6 → A7 → A8 → B) (z : B) : Nat → A0 → A1 → A2 → A3 → A4 → A5 → A6 → A7 → A8 → B
 | 0 => fun _ _ _ _ _ _ _ _ _ => z
 | i + 1 => f (lp9 f z i)
@[reducible] def lp10 {A0 A1 A2 A3 A4 A5 A6 A7 A8 A9 B : Type} (f : (A0 → A1 → A2 → A3 → A4 → A5 → A6 → A7 → A8 → A9 → B) → A0 → A1 → A2 → A3 → A4 → A5 → A6 → A7 → A8 → A9 → B) (z : B) : Nat → A0 → A1 → A2 → A3 → A4 → A5 → A6 → A7 → A8 → A9 → B
 | 0 => fun _ _ _ _ _ _ _ _ _ _ => z
 | i + 1 => f (lp10 f z i)
@[reducible] def lp11 {A0 A1 A2 A3 A4 A5 A6 A7 A8 A9 A10 B : Type} (f : (A0 → A1 → A2 → A3 → A4 → A5 → A6 → A7 → A8 → A9 → A10 → B) → A0 → A1 → A2 → A3 → A4 → A5 → A6 → A7 → A8 → A9 → A10 → B) (z : B) : Nat → A0 → A1 → A2 → A3 → A4 → A5 → A6 → A7 → A8 → A9 → A10 → B
 | 0 => fun _ _ _ _ _ _ _ _ _ _ _ => z
 | i + 1 => f (lp11 f z i)
@[reducible] def lp12 {A0 A1 A2 A3 A4 A5 A6 A7 A8 A9 A10 A11 B : Type} (f : (A0 → A1 → A2 → A3 → A4 → A5 → A6 → A7 → A8 → A9 → A10 → A11 → B) → A0 → A1 → A2 → A3 → A4 → A5 → A6 → A7 → A8 → A9 → A10 → A11 → B) (z : B) : Nat → A0 → A1 → A2 → A3 → A4 → A5 → A6 → A7 → A8 → A9 → A10 → A11 → B
 | 0 => fun _ _ _ _ _ _ _ _ _ _ _ _ => z
 | i + 1 => f (lp12 f z i)
@[reducible] def lp13 {A0 A1 A2 A3 A4 A5 A6 A7 A8 A9 A10 A11 A12 B : Type} (f : (A0 → A1 → A2 → A3 → A4 → A5 → A6 → A7 → A8 → A9 → A10 → A11 → A12 → B) → A0 → A1 → A2 → A3 → A4 → A5 → A6 → A7 → A8 → A9 → A10 → A11 → A12 → B) (z : B) : Nat → A0 → A1 → A2 → A3 → A4 → A5 → A6 → A7 → A8 → A9 → A10 → A11 → A12 → B
 | 0 => fun _ _ _ _ _ _ _ _ _ _ _ _ _ => z
 | i + 1 => f (lp13 f z i)
@[reducible] def lp14 {A0 A1 A2 A3 A4 A5 A6 A7 A8 A9 A10 A11 A12 A13 B : Type} (f : (A0 → A1 → A2 → A3 → A4 → A5 → A6 → A7 → A8 → A9 → A10 → A11 → A12 → A13 → B) → A0 → A1 → A2 → A3 → A4 → A5 → A6 → A7 → A8 → A9 → A10 → A11 → A12 → A13 → B) (z : B) : Nat → A0 → A1 → A2 → A3 → A4 → A5 → A6 → A7 → A8 → A9 → A10 → A11 → A12 → A13 → B
 | 0 => fun _ _ _ _ _ _ _ _ _ _ _ _ _ _ => z
 | i + 1 => f (lp14 f z i)
@[reducible] def lp15 {A0 A1 A2 A3 A4 A5 A6 A7 A8 A9 A10 A11 A12 A13 A14 B : Type} (f : (A0 → A1 → A2 → A3 → A4 → A5 → A6 → A7 → A8 → A9 → A10 → A11 → A12 → A13 → A14 → B) → A0 → A1 → A2 → A3 → A4 → A5 → A6 → A7 → A8 → A9 → A10 → A11 → A12 → A13 → A14 → B) (z : B) : Nat → A0 → A1 → A2 → A3 → A4 → A5 → A6 → A7 → A8 → A9 → A10 → A11 → A12 → A13 → A14 → B
 | 0 => fun _ _ _ _ _ _ _ _ _ _ _ _ _ _ _ => z
 | i + 1 => f (lp15 f z i)
@[reducible] def lp25 {A0 A1 A2 A3 A4 A5 A6 A7 A8 A9 A10 A11 A12 A13 A14 A15 A16 A17 A18 A19 A20 A21 A22 A23 A24 B : Type} (f : (A0 → A1 → A2 → A3 → A4 → A5 → A6 → A7 → A8 → A9 → A10 → A11 → A12 → A13 → A14 → A15 → A16 → A17 → A18 → A19 → A20 → A21 → A22 → A23 → A24 → B) → A0 → A1 → A2 → A3 → A4 → A5 → A6 → A7 → A8 → A9 → A10 → A11 → A12 → A13 → A14 → A15 → A16 → A17 → A18 → A19 → A20 → A21 → A22 → A23 → A24 → B) (z : B) : Nat → A0 → A1 → A2 → A3 → A4 → A5 → A6 → A7 → A8 → A9 → A10 → A11 → A12 → A13 → A14 → A15 → A16 → A17 → A18 → A19 → A20 → A21 → A22 → A23 → A24 → B
 | 0 => fun _ _ _ _ _ _ _ _ _ _ _ _ _ _ _ _ _ _ _ _ _ _ _ _ _ => z
 | i + 1 => f (lp25 f z i)
abbrev En := Ent Tryz.prog
abbrev Pb := PB Tryz.prog
@[reducible] noncomputable def ctx (es : List En) : Ctx := ⟨look tab, gam es, false, false, false, false, [], none, 0, []⟩
theorem pf (es : List En) (cs : List Pb) {ps rs : List (Bool × List CT)} {is os : List BT} {f : FuncId} {fn : Func} (vs : List RS) {s : (β : Type) → VF (KF (Option β) rs os → Option β) ps is} (hf : Tryz.prog.funcs[f]? = some fn)
  (hc : ((fn.name == "runtime.NumGoroutine"), fn.body, fn.results.toList, (Nat.beq vs.length rs.length && (ST.tidy rs && Nat.ble ps.length fn.ntmps)), cs.map (fun b => (find b.q 1 (Q3 fn), b.p.v.m, b.p.n, b.p.m))) = (false, some (Q3 fn), vs.map RS.toVar, true, cs.map (fun b => ([b.p.c], is.length, fn.ntmps, is.length))))
  (h : ∀ {β : Type} (x : ST.dens ps × BT.dens is) (k : ST.dens rs × BT.dens os → Option β), exec (ctx es) fn.ntmps (cuts cs) 1 (Q3 fn) ((vIn (sgE ps is rs os s)).mk' x) (retK (ctx es).T (sgE ps is rs os s) vs k) = vapp ps is (s β) x (klam rs os k)) :
  SpecOk Tryz.prog f (sgE ps is rs os fun β => hid (s β)) := Q9c mixed (X := ctx es) Q4 es rfl cs vs hf hc h
theorem pfB (es : List En) (cs : List Pb) {ps rs : List (Bool × List CT)} {is os : List BT} {f : FuncId} {fn : Func} (vs : List RS) {s : (β : Type) → VF (KF (Option β) rs os → Option β) ps is} (hf : Tryz.prog.funcs[f]? = some fn)
  (hc : ((fn.name == "runtime.NumGoroutine"), fn.body, fn.results.toList, (Nat.beq vs.length rs.length && (ST.tidy rs && Nat.ble ps.length fn.ntmps)), cs.map (fun b => (find b.q 1 (Q3 fn), b.p.v.m, b.p.n, b.p.m))) = (false, some (Q3 fn), vs.map RS.toVar, true, cs.map (fun b => ([b.p.c], is.length, fn.ntmps, is.length))))
  (h : ∀ {β : Type} (x : ST.dens ps × BT.dens is) (k : ST.dens rs × BT.dens os → Option β), exec (ctx es) fn.ntmps (cuts cs) 1 (Q3 fn) ((vIn (sgE ps is rs os s)).mk' x) (retK (ctx es).T (sgE ps is rs os s) vs k) = vapp ps is (s β) x (klam rs os k)) :
  SpecOkB Tryz.prog f (sgE ps is rs os fun β => hid (s β)) := Qho mixed (X := ctx es) Q4 es rfl cs vs hf hc h
theorem pl {p : Pc} (es : List En) (cs : List Pb) {g : Nat → (β : Type) → p.T β} (hc : ((p.o.all fun x => Nat.beq x.2.m p.m), cs.map (fun b => (find b.q 1 (Q1e p.c), b.p.v.m, b.p.n, b.p.m))) = (true, cs.map (fun b => ([b.p.c], p.m, p.n, p.m)))) (hv : p.v.m = p.m) (hl : p.c = .loop (Q1e p.c))
  (h0 : ∀ {β : Type} (d : p.v.den) (ks : Outs.K β p.o), p.un (g 0) d ks = none)
  (h : ∀ (i : Nat) {β : Type} (d : p.v.den) (ks : Outs.K β p.o), exec (ctx es) p.n (cuts cs) 1 (Q1e p.c) (p.v.mk' d) (Qc4 p.v (fun d' => p.un (g i) d' ks) p.o ks) = p.un (g (i + 1)) d ks) : p.Ok Tryz.prog (p.un fun β => hid (g fuel β)) := Qeq mixed (X := ctx es) Q4 es rfl cs hc hv hl h0 h
theorem pe {p : Pc} (es : List En) (cs : List Pb) (q : Nat) {g : (β : Type) → p.T β} (hc : ((p.o.all fun x => Nat.beq x.2.m p.m), cs.map (fun b => (find b.q q p.c, b.p.v.m, b.p.n, b.p.m))) = (true, cs.map (fun b => ([b.p.c], p.m, p.n, p.m))))
  (h : ∀ {β : Type} (d : p.v.den) (ks : Outs.K β p.o), exec (ctx es) p.n (cuts cs) q p.c (p.v.mk' d) (outK p.o ks) = p.un g d ks) : p.Ok Tryz.prog (p.un fun β => hid (g β)) := Qih mixed (X := ctx es) Q4 es rfl cs q hc h
noncomputable def au (es : List En) (ps : List (Bool × List CT)) (is : List BT) (rs : List (Bool × List CT)) (os : List BT) {f : FuncId} {fn : Func} (vs : List RS) (hf : Tryz.prog.funcs[f]? = some fn)
  (hc : ((fn.name == "runtime.NumGoroutine"), fn.body, fn.results.toList, (Nat.beq vs.length rs.length && (ST.tidy rs && Nat.ble ps.length fn.ntmps))) = (false, some (Q3 fn), vs.map RS.toVar, true)) : En :=
 .auto mixed (X := ⟨look tab, gam es, false, false, false, false, [], none, 100000, []⟩) Q4 es rfl ps is rs os vs hf hc
abbrev zqu := {β : Type} → t11y → (Bool → Option β) → Option β
def zqv : zqu := fun l k =>
 let t := (decide ((List.length l : Int) ≤ (500 : Int)));
 k t
def zqw : zqu := hid zqv
noncomputable def zqx : En := ⟨4, .spec (sg [v34y] [] [v25y] [] zqw), pf [] [] [.tmp 2] Tryz.func4 (by kernel_rfl) fun _ _ => by kernel_rfl⟩
abbrev zqy := {β : Type} → t11y → (t2y → Option β) → Option β
def zqz : zqy := fun l k =>
 k (l, (0 : Int))
def zq10 : zqy := hid zqz
noncomputable def zq11 : En := ⟨6, .spec (sg [v34y] [] [v26y] [b23y] zq10), pf [] [] [.tmp 2] Tryz.func6 (by kernel_rfl) fun _ _ => by kernel_rfl⟩
abbrev zq12 := {β : Type} → zqg → (t6y → t5y → t0y → t4y → Option β) → Option β
abbrev zq13 (β : Type) := t6y → t5y → t0y → t4y → t6y → t5y → t0y → t4y → Option β
abbrev zq14 (β : Type) := Int → zqg → t6y → t5y → t0y → t4y → t6y → t5y → t0y → t4y → Option β
noncomputable def zq15 : Pc := ⟨43, 0, Q8 58 (Q3 Tryz.f9), ⟨0, [1, 2, 3, 4], [v26y, v33y, v37y, v22y], [b29y, b72y, .cells 28 [.rowh 7, .rowh 8, .rowh 9, .trowh 10], .row 69 zqb, .row 71 zqf, .row 75 zq1, .tree 55 o20y, .row 69 zqb, .row 71 zqf, .row 75 zq1, .tree 55 o20y]⟩, [(.exit 0, ⟨0, [2, 3], [v26y, v33y], [.cells 28 [.rowh 2, .rowh 3, .rowh 4, .trowh 5], .cells 28 [.rowh 6, .rowh 7, .rowh 8, .trowh 9], .row 69 zqb, .row 71 zqf, .row 75 zq1, .tree 55 o20y, .row 69 zqb, .row 71 zqf, .row 75 zq1, .tree 55 o20y]⟩)]⟩
def zq16 {β : Type} (rec : zq14 β) (k1 : zq13 β) : zq14 β := fun i_ c b3_ b4_ b5_ b6_ b7_ b8_ b9_ b10_ =>
 cond (decide (i_ < (List.length c.2.2.2 : Int)))
 (cond (decide (0 ≤ i_) && decide (i_ < (List.length c.2.2.2 : Int)))
 (let e := List.getD c.2.2.2 (Int.toNat i_) (([] : List UInt8), (([] : List zq2), ([] : List t7y)));
 cond (decide (List.length e.2.1 * 120 ≤ Qa))
 (cond (decide (List.length e.2.2 * 40 ≤ Qa))
 (let l := ([e] : List zq4);
 cond (true && decide ((List.length b10_ + List.length l) * 64 ≤ Qa))
 (let l2 := (b10_ ++ l);
 let i_2 := (IntKind.i64.wrap (i_ + (1 : Int)));
 rec i_2 c b3_ b4_ b5_ b6_ b7_ b8_ b9_ l2)
 none)
 none)
 none)
 none)
 (k1 b3_ b4_ b5_ b6_ b7_ b8_ b9_ b10_)
def zq17 (m : Nat) {β : Type} (k1 : zq13 β) : zq14 β := lp10 (fun r => zq16 r k1) none m
theorem zq18 {β : Type} (i : Nat) (k1) : zq17 (β := β) (i + 1) k1 = zq16 (zq17 i k1) k1 := rfl
def zq19 {β : Type} := hid (zq17 (β := β) fuel)
noncomputable def zq1a : Pb := ⟨58, zq15, fun _ => zq19, Qeq mixed (X := ⟨look tab, gam ([] : List En), false, false, false, false, [(55, o20y)], none, 0, []⟩) (p := zq15) Q4 [] rfl [] (g := fun i _ => zq17 i) (by kernel_rfl) rfl (by kernel_rfl) (fun _ _ => rfl) fun _ _ _ _ => by kernel_rfl⟩
def zq1b : zq12 := fun c k =>
 cond (decide (List.length c.1 * 48 ≤ Qa))
 (cond (decide (List.length c.2.1 * 72 ≤ Qa))
 (cond (decide (List.length c.2.2.1 * 48 ≤ Qa))
 (zq19 (fun b2_ b3_ b4_ b5_ b6_ b7_ b8_ b9_ =>
 k b6_ b7_ b8_ b9_) (0 : Int) c ([] : List zqa) ([] : List zqe) ([] : List zq0) ([] : List zq4) c.1 c.2.1 c.2.2.1 ([] : List zq4))
 none)
 none)
 none
def zq1c : zq12 := hid zq1b
noncomputable def zq1d : En := ⟨9, .spec (sg [v35y] [] [(true, [.rowh 0, .rowh 1, .rowh 2, .trowh 3])] [.row 69 zqb, .row 71 zqf, .row 75 zq1, .tree 55 o20y] zq1c), Q9c mixed (X := ⟨look tab, gam ([] : List En), false, false, false, false, [(55, o20y)], none, 0, []⟩) Q4 [] rfl [zq1a] [.cell 2 28] Tryz.func9 (by kernel_rfl) fun _ _ => by kernel_rfl⟩
abbrev zq1e := {β : Type} → Int → t2y → (Int → t2y → Option β) → Option β
def zq1f : zq1e := fun n d k =>
 cond (decide ((List.length d.1 : Int) ≤ d.2))
 (k (0 : Int) d)
 (cond (decide (n < (1 : Int)))
 (k (0 : Int) d)
 (cond (decide (0 ≤ d.2) && decide (d.2 < (List.length d.1 : Int)))
 (let e := List.getD d.1 (Int.toNat d.2) (0 : Int);
 cond (!decide (n = 0))
 (cond (decide ((Int.tmod e n) < (0 : Int)))
 (let x := (IntKind.i64.wrap ((Int.tmod e n) + n));
 k x (d.1, (IntKind.i64.wrap (d.2 + (1 : Int)))))
 (k (Int.tmod e n) (d.1, (IntKind.i64.wrap (d.2 + (1 : Int))))))
 none)
 none))
def zq1g : zq1e := hid zq1f
noncomputable def zq1h : En := ⟨16, .spec (sg [v26y, v22y] [b23y] [v22y] [b23y] zq1g), pf [] [] [.tmp 4] Tryz.func16 (by kernel_rfl) fun _ _ => by kernel_rfl⟩
abbrev zq1i := {β : Type} → ((List t3y) → Option β) → Option β
def zq1j : zq1i := fun k =>
 let l := ([([97, 100, 97] : List UInt8), ([98, 111, 98] : List UInt8), ([99, 108, 101, 111] : List UInt8), ([100, 97, 110] : List UInt8), ([101, 118, 101] : List UInt8), ([102, 97, 121] : List UInt8), ([103, 117, 115] : List UInt8), ([104, 97, 108] : List UInt8)] : List t3y);
 k l
def zq1k : zq1i := hid zq1j
noncomputable def zq1l : En := ⟨18, .spec (sg [] [] [v39y] [.row 9 .str] zq1k), pf [] [] [.tmp 0] Tryz.func18 (by kernel_rfl) fun _ _ => by kernel_rfl⟩
abbrev zq1m := {β : Type} → t11y → t2y → (Int → t2y → Option β) → Option β
def zq1n : zq1m := fun l d k =>
 zq1g (List.length l : Int) d (fun rNext mrNext =>
 cond (decide (0 ≤ rNext) && decide (rNext < (List.length l : Int)))
 (let e := List.getD l (Int.toNat rNext) (0 : Int);
 k e mrNext)
 none)
def zq1o : zq1m := hid zq1n
noncomputable def zq1p : En := ⟨20, .spec (sg [v26y, v34y] [b23y] [v22y] [b23y] zq1o), pf [zq1h] [] [.tmp 4] Tryz.func20 (by kernel_rfl) fun _ _ => by kernel_rfl⟩
abbrev zq1q := {β : Type} → zqa → zqa → (Bool → Option β) → Option β
abbrev zq1r (β : Type) := Bool → Option β
abbrev zq1s (β : Type) := Unit → Option β
abbrev zq1t (β : Type) := Int → zqa → zqa → Option β
noncomputable def zq1u : Pc := ⟨45, 0, Q8 58 (Q3 Tryz.f29), ⟨0, [2, 3, 5], [v26y, v33y, v22y], [b63y, b63y]⟩, [(.ret, ⟨0, [4], [v25y], []⟩), (.exit 0, ⟨0, [], [], []⟩)]⟩
def zq1v {β : Type} (rec : zq1t β) (k1 : zq1r β) (k2 : zq1s β) : zq1t β := fun i_ a b =>
 cond (decide (i_ < (List.length a.2.2 : Int)))
 (cond (decide (0 ≤ i_) && decide (i_ < (List.length a.2.2 : Int)))
 (let e := List.getD a.2.2 (Int.toNat i_) ((0 : Int), ((0 : Int), ((0 : Int), ((0 : Int), ((0 : Int), ((0 : Int), (0 : Int)))))));
 cond (decide (0 ≤ i_) && decide (i_ < (List.length b.2.2 : Int)))
 (let e2 := List.getD b.2.2 (Int.toNat i_) ((0 : Int), ((0 : Int), ((0 : Int), ((0 : Int), ((0 : Int), ((0 : Int), (0 : Int)))))));
 cond (!(decide (e.1 = e2.1) && (decide (e.2.1 = e2.2.1) && (decide (e.2.2.1 = e2.2.2.1) && (decide (e.2.2.2.1 = e2.2.2.2.1) && (decide (e.2.2.2.2.1 = e2.2.2.2.2.1) && (decide (e.2.2.2.2.2.1 = e2.2.2.2.2.2.1) && (decide (e.2.2.2.2.2.2 = e2.2.2.2.2.2.2) && true))))))))
 (k1 false)
 (let i_2 := (IntKind.i64.wrap (i_ + (1 : Int)));
 rec i_2 a b))
 none)
 none)
 (k2 ())
def zq1w (m : Nat) {β : Type} (k1 : zq1r β) (k2 : zq1s β) : zq1t β := lp3 (fun r => zq1v r k1 k2) none m
theorem zq1x {β : Type} (i : Nat) (k1 k2) : zq1w (β := β) (i + 1) k1 k2 = zq1v (zq1w i k1 k2) k1 k2 := rfl
def zq1y {β : Type} := hid (zq1w (β := β) fuel)
noncomputable def zq1z : Pb := ⟨58, zq1u, fun _ => zq1y, pl (p := zq1u) [] [] (g := fun i _ => zq1w i) (by kernel_rfl) rfl (by kernel_rfl) (fun _ _ => rfl) fun _ _ _ _ => by kernel_rfl⟩
def zq20 : zq1q := fun a b k =>
 cond (!decide (a.1 = b.1))
 (k false)
 (cond (!decide (a.2.1 = b.2.1))
 (k false)
 (cond (!decide ((List.length a.2.2 : Int) = (List.length b.2.2 : Int)))
 (k false)
 (zq1y (fun t4 =>
 k t4) (fun _ =>
 k true) (0 : Int) a b)))
def zq21 : zq1q := hid zq20
noncomputable def zq22 : En := ⟨29, .spec (sg [v49y, v49y] [] [v25y] [] zq21), pf [] [zq1z] [.tmp 4] Tryz.func29 (by kernel_rfl) fun _ _ => by kernel_rfl⟩
abbrev zq23 := {β : Type} → t9y → t9y → (Bool → Option β) → Option β
abbrev zq24 (β : Type) := Bool → Option β
abbrev zq25 (β : Type) := Unit → Option β
abbrev zq26 (β : Type) := t9y → t9y → Int → Option β
noncomputable def zq27 : Pc := ⟨26, 0, Q8 58 (Q3 Tryz.f30), ⟨0, [0, 1, 5], [v36y, v36y, v22y], []⟩, [(.ret, ⟨0, [4], [v25y], []⟩), (.exit 0, ⟨0, [], [], []⟩)]⟩
def zq28 {β : Type} (rec : zq26 β) (k1 : zq24 β) (k2 : zq25 β) : zq26 β := fun a b i_ =>
 cond (decide (i_ < (List.length a : Int)))
 (cond (decide (0 ≤ i_) && decide (i_ < (List.length a : Int)))
 (let e := List.getD a (Int.toNat i_) ((0 : Int), (0 : Int));
 cond (decide (0 ≤ i_) && decide (i_ < (List.length b : Int)))
 (let e2 := List.getD b (Int.toNat i_) ((0 : Int), (0 : Int));
 cond (!(decide (e.1 = e2.1) && (decide (e.2 = e2.2) && true)))
 (k1 false)
 (let i_2 := (IntKind.i64.wrap (i_ + (1 : Int)));
 rec a b i_2))
 none)
 none)
 (k2 ())
def zq29 (m : Nat) {β : Type} (k1 : zq24 β) (k2 : zq25 β) : zq26 β := lp3 (fun r => zq28 r k1 k2) none m
theorem zq2a {β : Type} (i : Nat) (k1 k2) : zq29 (β := β) (i + 1) k1 k2 = zq28 (zq29 i k1 k2) k1 k2 := rfl
def zq2b {β : Type} := hid (zq29 (β := β) fuel)
noncomputable def zq2c : Pb := ⟨58, zq27, fun _ => zq2b, pl (p := zq27) [] [] (g := fun i _ => zq29 i) (by kernel_rfl) rfl (by kernel_rfl) (fun _ _ => rfl) fun _ _ _ _ => by kernel_rfl⟩
def zq2d : zq23 := fun a b k =>
 cond (!decide ((List.length a : Int) = (List.length b : Int)))
 (k false)
 (zq2b (fun t4 =>
 k t4) (fun _ =>
 k true) a b (0 : Int))
def zq2e : zq23 := hid zq2d
noncomputable def zq2f : En := ⟨30, .spec (sg [v36y, v36y] [] [v25y] [] zq2e), pf [] [zq2c] [.tmp 4] Tryz.func30 (by kernel_rfl) fun _ _ => by kernel_rfl⟩
abbrev zq2g := {β : Type} → t11y → t11y → (Bool → Option β) → Option β
abbrev zq2h (β : Type) := Bool → Option β
abbrev zq2i (β : Type) := Unit → Option β
abbrev zq2j (β : Type) := t11y → t11y → Int → Option β
noncomputable def zq2k : Pc := ⟨26, 0, Q8 58 (Q3 Tryz.f31), ⟨0, [0, 1, 5], [v34y, v34y, v22y], []⟩, [(.ret, ⟨0, [4], [v25y], []⟩), (.exit 0, ⟨0, [], [], []⟩)]⟩
def zq2l {β : Type} (rec : zq2j β) (k1 : zq2h β) (k2 : zq2i β) : zq2j β := fun a b i_ =>
 cond (decide (i_ < (List.length a : Int)))
 (cond (decide (0 ≤ i_) && decide (i_ < (List.length a : Int)))
 (let e := List.getD a (Int.toNat i_) (0 : Int);
 cond (decide (0 ≤ i_) && decide (i_ < (List.length b : Int)))
 (let e2 := List.getD b (Int.toNat i_) (0 : Int);
 cond (!decide (e = e2))
 (k1 false)
 (let i_2 := (IntKind.i64.wrap (i_ + (1 : Int)));
 rec a b i_2))
 none)
 none)
 (k2 ())
def zq2m (m : Nat) {β : Type} (k1 : zq2h β) (k2 : zq2i β) : zq2j β := lp3 (fun r => zq2l r k1 k2) none m
theorem zq2n {β : Type} (i : Nat) (k1 k2) : zq2m (β := β) (i + 1) k1 k2 = zq2l (zq2m i k1 k2) k1 k2 := rfl
def zq2o {β : Type} := hid (zq2m (β := β) fuel)
noncomputable def zq2p : Pb := ⟨58, zq2k, fun _ => zq2o, pl (p := zq2k) [] [] (g := fun i _ => zq2m i) (by kernel_rfl) rfl (by kernel_rfl) (fun _ _ => rfl) fun _ _ _ _ => by kernel_rfl⟩
def zq2q : zq2g := fun a b k =>
 cond (!decide ((List.length a : Int) = (List.length b : Int)))
 (k false)
 (zq2o (fun t4 =>
 k t4) (fun _ =>
 k true) a b (0 : Int))
def zq2r : zq2g := hid zq2q
noncomputable def zq2s : En := ⟨31, .spec (sg [v34y, v34y] [] [v25y] [] zq2r), pf [] [zq2p] [.tmp 4] Tryz.func31 (by kernel_rfl) fun _ _ => by kernel_rfl⟩
noncomputable def zq2t : En := .stub 39 ⟨_, Tryz.func39, by kernel_rfl, by kernel_rfl⟩
noncomputable def zq2u : En := au ([] : List En) [v28y] [] [v46y] [] [.cell 2 101] Tryz.func41 (by kernel_rfl)
abbrev zq2v := {β : Type} → t3y → t2y → (zqa → t2y → Option β) → Option β
noncomputable def zq2w : List En := [zq1h, zq1p]
abbrev zq2x (β : Type) := t2y → zqa → t3y → Int → t13y → Option β
abbrev zq2y (β : Type) := Int → t2y → zqa → zqa → Option β
noncomputable def zq2z : Pc := ⟨98, 1, Q8 31483 (Q3 Tryz.f44), ⟨1, [0, 4, 5, 7], [v26y, v33y, v37y, v22y], [b23y, b63y, b63y]⟩, [(.normal, ⟨1, [4, 5], [v33y, v37y], [b23y, b63y, .cells 69 [.data .str, .data (.int .i64), .rowh 3], .row 111 zq9]⟩)]⟩
def zq30 {β : Type} (k1 : zq2x β) : zq2y β := fun x d t4 z =>
 zq1g (7 : Int) d (fun rNext mrNext =>
 zq1g (48 : Int) mrNext (fun rNext2 mrNext2 =>
 let l := ([((2026 : Int), ((2026 : Int), ((1 : Int), ((2 : Int), (rNext, ((IntKind.i64.wrap ((1800 : Int) * rNext2)), x))))))] : List zq8);
 k1 mrNext2 t4 z.1 z.2.1 l))
def zq31 {β : Type} := hid (zq30 (β := β))
noncomputable def zq32 : Pb := ⟨31483, zq2z, fun _ => zq31, pe (p := zq2z) zq2w [] 31483 (g := fun _ => zq30) (by kernel_rfl) fun _ _ => by kernel_rfl⟩
def zq33 : zq2v := fun name d k =>
 let l := ([(0 : Int), (4 : Int), (-20 : Int), (22 : Int), (48 : Int), (-47 : Int)] : List Int);
 zq1o l d (fun rPick mrPick =>
 zq1g (2 : Int) mrPick (fun rNext mrNext =>
 zq1g (3 : Int) mrNext (fun rNext2 mrNext2 =>
 zq1g (2 : Int) mrNext2 (fun rNext3 mrNext3 =>
 let last := (IntKind.i64.wrap ((2025 : Int) + rNext3));
 zq1g (4 : Int) mrNext3 (fun rNext4 mrNext4 =>
 let t := (decide (rNext4 = (1 : Int)));
 cond t
 (let l2 := ([((2025 : Int), (last, ((3 : Int), ((5 : Int), ((6 : Int), ((7200 : Int), (IntKind.i64.wrap ((IntKind.i64.wrap ((900 : Int) * (IntKind.i64.wrap (rPick + (IntKind.i64.wrap (rNext * rNext2)))))) + (3600 : Int))))))))), ((2025 : Int), (last, ((10 : Int), ((5 : Int), ((6 : Int), ((10800 : Int), (IntKind.i64.wrap ((900 : Int) * (IntKind.i64.wrap (rPick + (IntKind.i64.wrap (rNext * rNext2))))))))))))] : List zq8);
 k (name, ((IntKind.i64.wrap ((900 : Int) * (IntKind.i64.wrap (rPick + (IntKind.i64.wrap (rNext * rNext2)))))), l2)) mrNext4)
 (let t2 := (decide (rNext4 = (2 : Int)));
 cond t2
 (zq1g (4 : Int) mrNext4 (fun rNext5 mrNext5 =>
 zq1g (7 : Int) mrNext5 (fun rNext6 mrNext6 =>
 zq1g (24 : Int) mrNext6 (fun rNext7 mrNext7 =>
 zq1g (8 : Int) mrNext7 (fun rNext8 mrNext8 =>
 zq1g (2 : Int) mrNext8 (fun rNext9 mrNext9 =>
 let l2 := ([(2 : Int), (3 : Int), (5 : Int)] : List Int);
 zq1o l2 mrNext9 (fun rPick2 mrPick2 =>
 zq1g (7 : Int) mrPick2 (fun rNext10 mrNext10 =>
 zq1g (24 : Int) mrNext10 (fun rNext11 mrNext11 =>
 let l3 := ([((2025 : Int), (last, ((1 : Int), ((IntKind.i64.wrap ((1 : Int) + rNext5)), (rNext6, ((IntKind.i64.wrap ((3600 : Int) * rNext7)), (IntKind.i64.wrap ((IntKind.i64.wrap ((900 : Int) * (IntKind.i64.wrap (rPick + (IntKind.i64.wrap (rNext * rNext2)))))) + (IntKind.i64.wrap ((1800 : Int) * (IntKind.i64.wrap ((1 : Int) + rNext8)))))))))))), ((2025 : Int), (last, ((IntKind.i64.wrap ((2 : Int) + rNext9)), (rPick2, (rNext10, ((IntKind.i64.wrap ((3600 : Int) * rNext11)), (IntKind.i64.wrap ((900 : Int) * (IntKind.i64.wrap (rPick + (IntKind.i64.wrap (rNext * rNext2))))))))))))] : List zq8);
 k (name, ((IntKind.i64.wrap ((900 : Int) * (IntKind.i64.wrap (rPick + (IntKind.i64.wrap (rNext * rNext2)))))), l3)) mrNext11)))))))))
 (let t3 := (decide (rNext4 = (3 : Int)));
 cond t3
 (let l2 := ([(3600 : Int), (-3600 : Int), (82800 : Int), (-82800 : Int), (43200 : Int)] : List Int);
 zq1o l2 mrNext4 (fun rPick2 mrPick2 =>
 let x := (IntKind.i64.wrap ((IntKind.i64.wrap ((900 : Int) * (IntKind.i64.wrap (rPick + (IntKind.i64.wrap (rNext * rNext2)))))) + rPick2));
 cond (decide ((64800 : Int) < x))
 (zq31 (fun b0_ t4 z z2 b3_ =>
 k (z, (z2, b3_)) b0_) (0 : Int) mrPick2 zqn (name, ((IntKind.i64.wrap ((900 : Int) * (IntKind.i64.wrap (rPick + (IntKind.i64.wrap (rNext * rNext2)))))), ([] : List zq8))))
 (cond (decide (x < (-64800 : Int)))
 (zq31 (fun b0_ t4 z z2 b3_ =>
 k (z, (z2, b3_)) b0_) (0 : Int) mrPick2 zqn (name, ((IntKind.i64.wrap ((900 : Int) * (IntKind.i64.wrap (rPick + (IntKind.i64.wrap (rNext * rNext2)))))), ([] : List zq8))))
 (zq31 (fun b0_ t4 z z2 b3_ =>
 k (z, (z2, b3_)) b0_) x mrPick2 zqn (name, ((IntKind.i64.wrap ((900 : Int) * (IntKind.i64.wrap (rPick + (IntKind.i64.wrap (rNext * rNext2)))))), ([] : List zq8)))))))
 (k (name, ((IntKind.i64.wrap ((900 : Int) * (IntKind.i64.wrap (rPick + (IntKind.i64.wrap (rNext * rNext2)))))), ([] : List zq8))) mrNext4))))))))
def zq34 : zq2v := hid zq33
noncomputable def zq35 : En := ⟨44, .spec (sg [v26y, v28y] [b23y] [v49y] [b23y] zq34), pf zq2w [zq32] [.cell 4 69] Tryz.func44 (by kernel_rfl) fun _ _ => by kernel_rfl⟩
abbrev zq36 := {β : Type} → Int → t2y → (Bool → t2y → Option β) → Option β
def zq37 : zq36 := fun n d k =>
 zq1g n d (fun rNext mrNext =>
 let t := (decide (rNext = (IntKind.i64.wrap (n - (1 : Int)))));
 k t mrNext)
def zq38 : zq36 := hid zq37
noncomputable def zq39 : En := ⟨45, .spec (sg [v26y, v22y] [b23y] [v25y] [b23y] zq38), pf [zq1h] [] [.tmp 4] Tryz.func45 (by kernel_rfl) fun _ _ => by kernel_rfl⟩
abbrev zq3a := {β : Type} → t2y → (t2y → t9y → Option β) → Option β
noncomputable def zq3b : List En := [zq1h, zq1p]
abbrev zq3c (β : Type) := t2y → t9y → Option β
abbrev zq3d (β : Type) := Int → Int → t2y → t9y → Option β
noncomputable def zq3e : Pc := ⟨38, 1, Q8 122 (Q3 Tryz.f46), ⟨1, [0, 3, 4, 5], [v26y, v68y, v22y, v22y], l83y⟩, [(.exit 0, ⟨1, [3], [v68y], l83y⟩)]⟩
def zq3f {β : Type} (rec : zq3d β) (k1 : zq3c β) : zq3d β := fun at_ i_ d out =>
 cond (decide ((0 : Int) < i_))
 (zq1g (30 : Int) d (fun rNext mrNext =>
 zq1g (2 : Int) mrNext (fun rNext2 mrNext2 =>
 let from_ := (IntKind.i64.wrap ((IntKind.i64.wrap (at_ + (IntKind.i64.wrap ((3600 : Int) * rNext)))) + (IntKind.i64.wrap ((60 : Int) * rNext2))));
 let l := ([(3600 : Int), (28800 : Int), (43200 : Int), (86400 : Int), (61 : Int), (1 : Int)] : List Int);
 zq1o l mrNext2 (fun rPick mrPick =>
 let to_ := (IntKind.i64.wrap (from_ + rPick));
 cond (decide ((604800 : Int) < to_))
 (k1 mrPick out)
 (let l2 := ([(from_, to_)] : List t1y);
 cond (decide ((List.length out + List.length l2) * 16 ≤ Qa))
 (let l3 := (out ++ l2);
 let i_2 := (IntKind.i64.wrap (i_ - (1 : Int)));
 rec to_ i_2 mrPick l3)
 none)))))
 (k1 d out)
def zq3g (m : Nat) {β : Type} (k1 : zq3c β) : zq3d β := lp4 (fun r => zq3f r k1) none m
theorem zq3h {β : Type} (i : Nat) (k1) : zq3g (β := β) (i + 1) k1 = zq3f (zq3g i k1) k1 := rfl
def zq3i {β : Type} := hid (zq3g (β := β) fuel)
noncomputable def zq3j : Pb := ⟨122, zq3e, fun _ => zq3i, pl (p := zq3e) zq3b [] (g := fun i _ => zq3g i) (by kernel_rfl) rfl (by kernel_rfl) (fun _ _ => rfl) fun _ _ _ _ => by kernel_rfl⟩
def zq3k : zq3a := fun d k =>
 zq1g (4 : Int) d (fun rNext mrNext =>
 zq3i (fun b0_ out =>
 k b0_ out) (0 : Int) rNext mrNext ([] : List t1y))
def zq3l : zq3a := hid zq3k
noncomputable def zq3m : En := ⟨46, .spec (sg [v26y] [b23y] [v68y] l83y zq3l), pf zq3b [zq3j] [.tmp 2] Tryz.func46 (by kernel_rfl) fun _ _ => by kernel_rfl⟩
abbrev zq3n := {β : Type} → t2y → (Int → t2y → Option β) → Option β
def zq3o : zq3n := fun d k =>
 zq1g (576 : Int) d (fun rNext mrNext =>
 let t := (IntKind.i64.wrap ((1767139200 : Int) + (IntKind.i64.wrap ((3600 : Int) * rNext))));
 zq38 (3 : Int) mrNext (fun rBool mrBool =>
 cond rBool
 (let l := ([(-1 : Int), (1 : Int), (1800 : Int), (3599 : Int)] : List Int);
 zq1o l mrBool (fun rPick mrPick =>
 let t2 := (IntKind.i64.wrap (t + rPick));
 k t2 mrPick))
 (k t mrBool)))
def zq3p : zq3n := hid zq3o
noncomputable def zq3q : En := ⟨47, .spec (sg [v26y] [b23y] [v22y] [b23y] zq3p), pf [zq39, zq1h, zq1p] [] [.tmp 2] Tryz.func47 (by kernel_rfl) fun _ _ => by kernel_rfl⟩
abbrev zq3r := {β : Type} → t13y → t13y → (Bool → Option β) → Option β
abbrev zq3s (β : Type) := Bool → Option β
abbrev zq3t (β : Type) := Unit → Option β
abbrev zq3u (β : Type) := t13y → t13y → Int → Int → Option β
noncomputable def zq3v : Pc := ⟨26, 0, Q8 58 (Q3 Tryz.f48), ⟨0, [0, 1, 12, 13], [v42y, v42y, v22y, v22y], []⟩, [(.ret, ⟨0, [4], [v25y], []⟩), (.exit 0, ⟨0, [], [], []⟩)]⟩
def zq3w {β : Type} (rec : zq3u β) (k1 : zq3s β) (k2 : zq3t β) : zq3u β := fun s1 s2 t12 t13 =>
 cond (decide (t13 < t12))
 (cond (decide (0 ≤ t13) && decide (t13 < (List.length s1 : Int)))
 (let e := List.getD s1 (Int.toNat t13) ((0 : Int), ((0 : Int), ((0 : Int), ((0 : Int), ((0 : Int), ((0 : Int), (0 : Int)))))));
 cond (decide (0 ≤ t13) && decide (t13 < (List.length s2 : Int)))
 (let e2 := List.getD s2 (Int.toNat t13) ((0 : Int), ((0 : Int), ((0 : Int), ((0 : Int), ((0 : Int), ((0 : Int), (0 : Int)))))));
 cond (!(decide (e.1 = e2.1) && (decide (e.2.1 = e2.2.1) && (decide (e.2.2.1 = e2.2.2.1) && (decide (e.2.2.2.1 = e2.2.2.2.1) && (decide (e.2.2.2.2.1 = e2.2.2.2.2.1) && (decide (e.2.2.2.2.2.1 = e2.2.2.2.2.2.1) && (decide (e.2.2.2.2.2.2 = e2.2.2.2.2.2.2) && true))))))))
 (k1 false)
 (rec s1 s2 t12 (IntKind.i64.wrap (t13 + (1 : Int)))))
 none)
 none)
 (k2 ())
def zq3x (m : Nat) {β : Type} (k1 : zq3s β) (k2 : zq3t β) : zq3u β := lp4 (fun r => zq3w r k1 k2) none m
theorem zq3y {β : Type} (i : Nat) (k1 k2) : zq3x (β := β) (i + 1) k1 k2 = zq3w (zq3x i k1 k2) k1 k2 := rfl
def zq3z {β : Type} := hid (zq3x (β := β) fuel)
noncomputable def zq40 : Pb := ⟨58, zq3v, fun _ => zq3z, pl (p := zq3v) [] [] (g := fun i _ => zq3x i) (by kernel_rfl) rfl (by kernel_rfl) (fun _ _ => rfl) fun _ _ _ _ => by kernel_rfl⟩
def zq41 : zq3r := fun s1 s2 k =>
 cond (!decide ((List.length s1 : Int) = (List.length s2 : Int)))
 (k false)
 (zq3z (fun t4 =>
 k t4) (fun _ =>
 k true) s1 s2 (List.length s1 : Int) (0 : Int))
def zq42 : zq3r := hid zq41
noncomputable def zq43 : En := ⟨48, .spec (sg [v42y, v42y] [] [v25y] [] zq42), pf [] [zq40] [.tmp 4] Tryz.func48 (by kernel_rfl) fun _ _ => by kernel_rfl⟩
abbrev zq44 := {β : Type} → t9y → t9y → (Bool → Option β) → Option β
abbrev zq45 (β : Type) := Bool → Option β
abbrev zq46 (β : Type) := Unit → Option β
abbrev zq47 (β : Type) := t9y → t9y → Int → Int → Option β
noncomputable def zq48 : Pc := ⟨26, 0, Q8 58 (Q3 Tryz.f49), ⟨0, [0, 1, 12, 13], [v36y, v36y, v22y, v22y], []⟩, [(.ret, ⟨0, [4], [v25y], []⟩), (.exit 0, ⟨0, [], [], []⟩)]⟩
def zq49 {β : Type} (rec : zq47 β) (k1 : zq45 β) (k2 : zq46 β) : zq47 β := fun s1 s2 t12 t13 =>
 cond (decide (t13 < t12))
 (cond (decide (0 ≤ t13) && decide (t13 < (List.length s1 : Int)))
 (let e := List.getD s1 (Int.toNat t13) ((0 : Int), (0 : Int));
 cond (decide (0 ≤ t13) && decide (t13 < (List.length s2 : Int)))
 (let e2 := List.getD s2 (Int.toNat t13) ((0 : Int), (0 : Int));
 cond (!(decide (e.1 = e2.1) && (decide (e.2 = e2.2) && true)))
 (k1 false)
 (rec s1 s2 t12 (IntKind.i64.wrap (t13 + (1 : Int)))))
 none)
 none)
 (k2 ())
def zq4a (m : Nat) {β : Type} (k1 : zq45 β) (k2 : zq46 β) : zq47 β := lp4 (fun r => zq49 r k1 k2) none m
theorem zq4b {β : Type} (i : Nat) (k1 k2) : zq4a (β := β) (i + 1) k1 k2 = zq49 (zq4a i k1 k2) k1 k2 := rfl
def zq4c {β : Type} := hid (zq4a (β := β) fuel)
noncomputable def zq4d : Pb := ⟨58, zq48, fun _ => zq4c, pl (p := zq48) [] [] (g := fun i _ => zq4a i) (by kernel_rfl) rfl (by kernel_rfl) (fun _ _ => rfl) fun _ _ _ _ => by kernel_rfl⟩
def zq4e : zq44 := fun s1 s2 k =>
 cond (!decide ((List.length s1 : Int) = (List.length s2 : Int)))
 (k false)
 (zq4c (fun t4 =>
 k t4) (fun _ =>
 k true) s1 s2 (List.length s1 : Int) (0 : Int))
def zq4f : zq44 := hid zq4e
noncomputable def zq4g : En := ⟨49, .spec (sg [v36y, v36y] [] [v25y] [] zq4f), pf [] [zq4d] [.tmp 4] Tryz.func49 (by kernel_rfl) fun _ _ => by kernel_rfl⟩
abbrev zq4h := {β : Type} → t11y → t11y → (Bool → Option β) → Option β
abbrev zq4i (β : Type) := Bool → Option β
abbrev zq4j (β : Type) := Unit → Option β
abbrev zq4k (β : Type) := t11y → t11y → Int → Int → Option β
noncomputable def zq4l : Pc := ⟨26, 0, Q8 58 (Q3 Tryz.f50), ⟨0, [0, 1, 12, 13], [v34y, v34y, v22y, v22y], []⟩, [(.ret, ⟨0, [4], [v25y], []⟩), (.exit 0, ⟨0, [], [], []⟩)]⟩
def zq4m {β : Type} (rec : zq4k β) (k1 : zq4i β) (k2 : zq4j β) : zq4k β := fun s1 s2 t12 t13 =>
 cond (decide (t13 < t12))
 (cond (decide (0 ≤ t13) && decide (t13 < (List.length s1 : Int)))
 (let e := List.getD s1 (Int.toNat t13) (0 : Int);
 cond (decide (0 ≤ t13) && decide (t13 < (List.length s2 : Int)))
 (let e2 := List.getD s2 (Int.toNat t13) (0 : Int);
 cond (!decide (e = e2))
 (k1 false)
 (rec s1 s2 t12 (IntKind.i64.wrap (t13 + (1 : Int)))))
 none)
 none)
 (k2 ())
def zq4n (m : Nat) {β : Type} (k1 : zq4i β) (k2 : zq4j β) : zq4k β := lp4 (fun r => zq4m r k1 k2) none m
theorem zq4o {β : Type} (i : Nat) (k1 k2) : zq4n (β := β) (i + 1) k1 k2 = zq4m (zq4n i k1 k2) k1 k2 := rfl
def zq4p {β : Type} := hid (zq4n (β := β) fuel)
noncomputable def zq4q : Pb := ⟨58, zq4l, fun _ => zq4p, pl (p := zq4l) [] [] (g := fun i _ => zq4n i) (by kernel_rfl) rfl (by kernel_rfl) (fun _ _ => rfl) fun _ _ _ _ => by kernel_rfl⟩
def zq4r : zq4h := fun s1 s2 k =>
 cond (!decide ((List.length s1 : Int) = (List.length s2 : Int)))
 (k false)
 (zq4p (fun t4 =>
 k t4) (fun _ =>
 k true) s1 s2 (List.length s1 : Int) (0 : Int))
def zq4s : zq4h := hid zq4r
noncomputable def zq4t : En := ⟨50, .spec (sg [v34y, v34y] [] [v25y] [] zq4s), pf [] [zq4q] [.tmp 4] Tryz.func50 (by kernel_rfl) fun _ _ => by kernel_rfl⟩
abbrev zq4u := {β : Type} → zq2 → zq2 → (Bool → Option β) → Option β
def zq4v : zq4u := fun a b k =>
 cond (decide (a.1 = b.1))
 (cond (decide (a.2.1 = b.2.1))
 (cond (decide (a.2.2.1.1 = b.2.2.1.1) && (decide (a.2.2.1.2 = b.2.2.1.2) && true))
 (cond (decide (a.2.2.2.1 = b.2.2.2.1))
 (cond (decide (a.2.2.2.2.1 = b.2.2.2.2.1))
 (zq4s a.2.2.2.2.2.1 b.2.2.2.2.2.1 (fun rEqualintint =>
 cond rEqualintint
 (zq4f a.2.2.2.2.2.2.1 b.2.2.2.2.2.2.1 (fun rWindow =>
 cond rWindow
 (cond (decide (a.2.2.2.2.2.2.2.1 = b.2.2.2.2.2.2.2.1))
 (let t := (decide (a.2.2.2.2.2.2.2.2 = b.2.2.2.2.2.2.2.2));
 k t)
 (k false))
 (k false)))
 (k false)))
 (k false))
 (k false))
 (k false))
 (k false))
 (k false)
def zq4w : zq4u := hid zq4v
noncomputable def zq4x : En := ⟨52, .spec (sg [v56y, v56y] [] [v25y] [] zq4w), pf [zq4g, zq4t] [] [.tmp 4] Tryz.func52 (by kernel_rfl) fun _ _ => by kernel_rfl⟩
abbrev zq4y := {β : Type} → (List t7y) → (List t7y) → (Bool → Option β) → Option β
abbrev zq4z (β : Type) := Bool → Option β
abbrev zq50 (β : Type) := Unit → Option β
abbrev zq51 (β : Type) := (List t7y) → (List t7y) → Int → Int → Option β
noncomputable def zq52 : Pc := ⟨26, 0, Q8 58 (Q3 Tryz.f53), ⟨0, [0, 1, 12, 13], [v40y, v40y, v22y, v22y], []⟩, [(.ret, ⟨0, [4], [v25y], []⟩), (.exit 0, ⟨0, [], [], []⟩)]⟩
def zq53 {β : Type} (rec : zq51 β) (k1 : zq4z β) (k2 : zq50 β) : zq51 β := fun s1 s2 t12 t13 =>
 cond (decide (t13 < t12))
 (cond (decide (0 ≤ t13) && decide (t13 < (List.length s1 : Int)))
 (let e := List.getD s1 (Int.toNat t13) ((0 : Int), ((0 : Int), ((0 : Int), ((0 : Int), (0 : Int)))));
 cond (decide (0 ≤ t13) && decide (t13 < (List.length s2 : Int)))
 (let e2 := List.getD s2 (Int.toNat t13) ((0 : Int), ((0 : Int), ((0 : Int), ((0 : Int), (0 : Int)))));
 cond (!(decide (e.1 = e2.1) && (decide (e.2.1 = e2.2.1) && (decide (e.2.2.1 = e2.2.2.1) && (decide (e.2.2.2.1 = e2.2.2.2.1) && (decide (e.2.2.2.2 = e2.2.2.2.2) && true))))))
 (k1 false)
 (rec s1 s2 t12 (IntKind.i64.wrap (t13 + (1 : Int)))))
 none)
 none)
 (k2 ())
def zq54 (m : Nat) {β : Type} (k1 : zq4z β) (k2 : zq50 β) : zq51 β := lp4 (fun r => zq53 r k1 k2) none m
theorem zq55 {β : Type} (i : Nat) (k1 k2) : zq54 (β := β) (i + 1) k1 k2 = zq53 (zq54 i k1 k2) k1 k2 := rfl
def zq56 {β : Type} := hid (zq54 (β := β) fuel)
noncomputable def zq57 : Pb := ⟨58, zq52, fun _ => zq56, pl (p := zq52) [] [] (g := fun i _ => zq54 i) (by kernel_rfl) rfl (by kernel_rfl) (fun _ _ => rfl) fun _ _ _ _ => by kernel_rfl⟩
def zq58 : zq4y := fun s1 s2 k =>
 cond (!decide ((List.length s1 : Int) = (List.length s2 : Int)))
 (k false)
 (zq56 (fun t4 =>
 k t4) (fun _ =>
 k true) s1 s2 (List.length s1 : Int) (0 : Int))
def zq59 : zq4y := hid zq58
noncomputable def zq5a : En := ⟨53, .spec (sg [v40y, v40y] [] [v25y] [] zq59), pf [] [zq57] [.tmp 4] Tryz.func53 (by kernel_rfl) fun _ _ => by kernel_rfl⟩
abbrev zq5b := {β : Type} → zq2 → zq2 → (Bool → Option β) → Option β
def zq5c : zq5b := fun a b k =>
 cond (decide (a.1 = b.1))
 (cond (decide (a.2.1 = b.2.1))
 (cond (decide (a.2.2.1.1 = b.2.2.1.1) && (decide (a.2.2.1.2 = b.2.2.1.2) && true))
 (cond (decide (a.2.2.2.1 = b.2.2.2.1))
 (cond (decide (a.2.2.2.2.1 = b.2.2.2.2.1))
 (zq2r a.2.2.2.2.2.1 b.2.2.2.2.2.1 (fun rsameInts =>
 cond rsameInts
 (zq2e a.2.2.2.2.2.2.1 b.2.2.2.2.2.2.1 (fun rsameWindows =>
 cond rsameWindows
 (cond (decide (a.2.2.2.2.2.2.2.1 = b.2.2.2.2.2.2.2.1))
 (let t := (decide (a.2.2.2.2.2.2.2.2 = b.2.2.2.2.2.2.2.2));
 k t)
 (k false))
 (k false)))
 (k false)))
 (k false))
 (k false))
 (k false))
 (k false))
 (k false)
def zq5d : zq5b := hid zq5c
noncomputable def zq5e : En := ⟨54, .spec (sg [v56y, v56y] [] [v25y] [] zq5d), pf [zq2s, zq2f] [] [.tmp 4] Tryz.func54 (by kernel_rfl) fun _ _ => by kernel_rfl⟩
def zq5f : Shelf.Ren :=
   {
   f := fun x =>
    match x with
    | 146 => 55
    | 221 => 87
    | 268 => 124
    | 138 => 125
    | 143 => 126
    | 195 => 164
    | 197 => 165
    | 218 => 166
    | 219 => 167
    | 260 => 192
    | 217 => 193
    | 225 => 194
    | 224 => 195
    | 267 => 196
    | 266 => 217
    | 314 => 218
    | n => n,
   t := fun x =>
    match x with
    | 9 => 9
    | 31 => 51
    | 3 => 3
    | 4 => 4
    | 0 => 0
    | 105 => 232
    | 21 => 21
    | 5 => 5
    | 46 => 259
    | 119 => 186
    | 139 => 288
    | 138 => 287
    | 146 => 289
    | 51 => 238
    | n => n,
   g := fun x =>
    match x with
    | 1 => 2
    | 3 => 3
    | 4 => 4
    | n => n }
theorem zq5g : Go.Proofs.Lays.n146 Tryz.prog zq5f :=
 {
  mixed := by kernel_rfl,
  f138 := Eq.trans Tryz.func125 (congrArg some (by kernel_rfl)),
  f143 := Eq.trans Tryz.func126 (congrArg some (by kernel_rfl)),
  f146 := Eq.trans Tryz.func55 (congrArg some (by kernel_rfl)),
  f195 := Eq.trans Tryz.func164 (congrArg some (by kernel_rfl)),
  f197 := Eq.trans Tryz.func165 (congrArg some (by kernel_rfl)),
  f217 := Eq.trans Tryz.func193 (congrArg some (by kernel_rfl)),
  f218 := Eq.trans Tryz.func166 (congrArg some (by kernel_rfl)),
  f219 := Eq.trans Tryz.func167 (congrArg some (by kernel_rfl)),
  f221 := Eq.trans Tryz.func87 (congrArg some (by kernel_rfl)),
  f224 := Eq.trans Tryz.func195 (congrArg some (by kernel_rfl)),
  f225 := Eq.trans Tryz.func194 (congrArg some (by kernel_rfl)),
  f260 := Eq.trans Tryz.func192 (congrArg some (by kernel_rfl)),
  f266 := Eq.trans Tryz.func217 (congrArg some (by kernel_rfl)),
  f267 := Eq.trans Tryz.func196 (congrArg some (by kernel_rfl)),
  f268 := Eq.trans Tryz.func124 (congrArg some (by kernel_rfl)),
  f314 := Eq.trans Tryz.func218 (congrArg some (by kernel_rfl)),
  t0 := Tryz.underlying0,
  a0 := Tryz.isAgg0,
  z0 := Tryz.sizeOf0,
  v0 := Tryz.zeroValue0,
  t3 := Tryz.underlying3,
  a3 := Tryz.isAgg3,
  z3 := Tryz.sizeOf3,
  v3 := Tryz.zeroValue3,
  t4 := Tryz.underlying4,
  a4 := Tryz.isAgg4,
  z4 := Tryz.sizeOf4,
  v4 := Tryz.zeroValue4,
  t5 := Tryz.underlying5,
  a5 := Tryz.isAgg5,
  z5 := Tryz.sizeOf5,
  v5 := Tryz.zeroValue5,
  t9 := Tryz.underlying9,
  a9 := Tryz.isAgg9,
  z9 := Tryz.sizeOf9,
  v9 := Tryz.zeroValue9,
  t21 := Tryz.underlying21,
  a21 := Tryz.isAgg21,
  z21 := Tryz.sizeOf21,
  v21 := Tryz.zeroValue21,
  t31 := Tryz.underlying51,
  a31 := Tryz.isAgg51,
  z31 := Tryz.sizeOf51,
  v31 := Tryz.zeroValue51,
  t46 := Tryz.underlying259,
  a46 := Tryz.isAgg259,
  z46 := Tryz.sizeOf259,
  v46 := Tryz.zeroValue259,
  t51 := Tryz.underlying238,
  a51 := Tryz.isAgg238,
  z51 := Tryz.sizeOf238,
  v51 := Tryz.zeroValue238,
  t105 := Tryz.underlying232,
  a105 := Tryz.isAgg232,
  z105 := Tryz.sizeOf232,
  v105 := Tryz.zeroValue232,
  t119 := Tryz.underlying186,
  a119 := Tryz.isAgg186,
  z119 := Tryz.sizeOf186,
  t138 := Tryz.underlying287,
  a138 := Tryz.isAgg287,
  z138 := Tryz.sizeOf287,
  v138 := Tryz.zeroValue287,
  t139 := Tryz.underlying288,
  a139 := Tryz.isAgg288,
  z139 := Tryz.sizeOf288,
  v139 := Tryz.zeroValue288,
  t146 := Tryz.underlying289,
  a146 := Tryz.isAgg289,
  z146 := Tryz.sizeOf289,
  v146 := Tryz.zeroValue289,
  g1 := by kernel_rfl,
  g3 := by kernel_rfl,
  g4 := by kernel_rfl }
abbrev zq5h := Qce
def zq5i (c : zq5h) : Spec := Qhq 9 c
def zq5j : zq5h := fun x y k => Qfz x y k
theorem zq5k : SpecOk Tryz.prog 55 (zq5i zq5j) :=
 Qjn zq5g rfl rfl (by kernel_rfl) (of_decide_eq_true (by kernel_rfl)) (fun w0 h0 => Go.Proofs.cell_of_shapedOpen_int (P := Tryz.prog) (g := 2) (t := 3) (zero := #[.int .i64 0]) h0 (of_decide_eq_true (by kernel_rfl)) (by kernel_rfl) rfl (by kernel_rfl) (by kernel_rfl) Tryz.underlying3) ⟨_, Tryz.func55, by kernel_rfl, by kernel_rfl⟩
noncomputable def zq5l : En := .of zq5k
noncomputable def zq5m : En := .inl mixed (X := ⟨look tab, gam ([] : List En), false, false, false, false, q89y, none, 0, []⟩) (rs := [.tmp 2]) Q4 ([] : List En) rfl 1 Tryz.func58 (by kernel_rfl)
def zq5n : Shelf.Ren :=
   {
   f := fun x =>
    match x with
    | 166 => 60
    | 240 => 107
    | 276 => 155
    | n => n,
   t := fun x =>
    match x with
    | 70 => 128
    | 9 => 9
    | 0 => 0
    | 72 => 131
    | 37 => 129
    | 127 => 172
    | 3 => 3
    | 5 => 5
    | 80 => 137
    | 4 => 4
    | 164 => 218
    | 20 => 20
    | 75 => 134
    | n => n,
   g := fun x => x }
theorem zq5o : Go.Proofs.Lays.n166 Tryz.prog zq5n :=
 {
  mixed := by kernel_rfl,
  f166 := Eq.trans Tryz.func60 (congrArg some (by kernel_rfl)),
  f240 := Eq.trans Tryz.func107 (congrArg some (by kernel_rfl)),
  f276 := Eq.trans Tryz.func155 (congrArg some (by kernel_rfl)),
  t0 := Tryz.underlying0,
  a0 := Tryz.isAgg0,
  z0 := Tryz.sizeOf0,
  v0 := Tryz.zeroValue0,
  t3 := Tryz.underlying3,
  a3 := Tryz.isAgg3,
  z3 := Tryz.sizeOf3,
  v3 := Tryz.zeroValue3,
  t4 := Tryz.underlying4,
  a4 := Tryz.isAgg4,
  z4 := Tryz.sizeOf4,
  v4 := Tryz.zeroValue4,
  t9 := Tryz.underlying9,
  a9 := Tryz.isAgg9,
  z9 := Tryz.sizeOf9,
  v9 := Tryz.zeroValue9,
  t20 := Tryz.underlying20,
  a20 := Tryz.isAgg20,
  z20 := Tryz.sizeOf20,
  v20 := Tryz.zeroValue20,
  t37 := Tryz.underlying129,
  a37 := Tryz.isAgg129,
  z37 := Tryz.sizeOf129,
  v37 := Tryz.zeroValue129,
  t70 := Tryz.underlying128,
  a70 := Tryz.isAgg128,
  z70 := Tryz.sizeOf128,
  v70 := Tryz.zeroValue128,
  t72 := Tryz.underlying131,
  a72 := Tryz.isAgg131,
  z72 := Tryz.sizeOf131,
  v72 := Tryz.zeroValue131,
  t75 := Tryz.underlying134,
  a75 := Tryz.isAgg134,
  z75 := Tryz.sizeOf134,
  v75 := Tryz.zeroValue134,
  t164 := Tryz.underlying218,
  a164 := Tryz.isAgg218,
  z164 := Tryz.sizeOf218,
  v164 := Tryz.zeroValue218 }
def zq5p : BldF := ⟨131, 5, 0⟩
theorem zq5q : BldOk Tryz.prog 60 zq5p :=
 Qh4 zq5o { sizeBuilder := by kernel_rfl, liesBuilder := by kernel_rfl, t5 := Tryz.underlying5, a5 := Tryz.isAgg5, z5 := Tryz.sizeOf5, v5 := Tryz.zeroValue5, infoByte := by kernel_rfl, cellsByte := by kernel_rfl, sizeByte := by kernel_rfl, neB5 := by decide } rfl rfl rfl ⟨_, Tryz.func60, by kernel_rfl, by kernel_rfl⟩
noncomputable def zq5r : En := ⟨_, .bld zq5p, zq5q⟩
def zq5s : Shelf.Ren :=
   {
   f := fun x =>
    match x with
    | 170 => 61
    | n => n,
   t := fun x =>
    match x with
    | 70 => 128
    | 3 => 3
    | 0 => 0
    | 72 => 131
    | 37 => 129
    | 5 => 5
    | n => n,
   g := fun x => x }
theorem zq5t : Go.Proofs.Lays.n170 Tryz.prog zq5s :=
 {
  mixed := by kernel_rfl,
  f170 := Eq.trans Tryz.func61 (congrArg some (by kernel_rfl)),
  t0 := Tryz.underlying0,
  a0 := Tryz.isAgg0,
  z0 := Tryz.sizeOf0,
  v0 := Tryz.zeroValue0,
  t3 := Tryz.underlying3,
  a3 := Tryz.isAgg3,
  z3 := Tryz.sizeOf3,
  v3 := Tryz.zeroValue3,
  t37 := Tryz.underlying129,
  a37 := Tryz.isAgg129,
  z37 := Tryz.sizeOf129,
  v37 := Tryz.zeroValue129,
  t70 := Tryz.underlying128,
  a70 := Tryz.isAgg128,
  z70 := Tryz.sizeOf128,
  v70 := Tryz.zeroValue128,
  t72 := Tryz.underlying131,
  a72 := Tryz.isAgg131,
  z72 := Tryz.sizeOf131,
  v72 := Tryz.zeroValue131 }
def zq5u : BldF := ⟨131, 5, 2⟩
theorem zq5v : BldOk Tryz.prog 61 zq5u :=
 Qjr zq5t rfl rfl rfl ⟨_, Tryz.func61, by kernel_rfl, by kernel_rfl⟩
noncomputable def zq5w : En := ⟨_, .bld zq5u, zq5v⟩
def zq5x : Shelf.Ren :=
   {
   f := fun x =>
    match x with
    | 169 => 62
    | n => n,
   t := fun x =>
    match x with
    | 70 => 128
    | 9 => 9
    | 0 => 0
    | 72 => 131
    | 37 => 129
    | 127 => 172
    | 3 => 3
    | 5 => 5
    | n => n,
   g := fun x => x }
theorem zq5y : Go.Proofs.Lays.n169 Tryz.prog zq5x :=
 {
  mixed := by kernel_rfl,
  f169 := Eq.trans Tryz.func62 (congrArg some (by kernel_rfl)),
  t0 := Tryz.underlying0,
  a0 := Tryz.isAgg0,
  z0 := Tryz.sizeOf0,
  v0 := Tryz.zeroValue0,
  t3 := Tryz.underlying3,
  a3 := Tryz.isAgg3,
  z3 := Tryz.sizeOf3,
  v3 := Tryz.zeroValue3,
  t9 := Tryz.underlying9,
  a9 := Tryz.isAgg9,
  z9 := Tryz.sizeOf9,
  v9 := Tryz.zeroValue9,
  t37 := Tryz.underlying129,
  a37 := Tryz.isAgg129,
  z37 := Tryz.sizeOf129,
  v37 := Tryz.zeroValue129,
  t70 := Tryz.underlying128,
  a70 := Tryz.isAgg128,
  z70 := Tryz.sizeOf128,
  v70 := Tryz.zeroValue128,
  t72 := Tryz.underlying131,
  a72 := Tryz.isAgg131,
  z72 := Tryz.sizeOf131,
  v72 := Tryz.zeroValue131,
  t127 := Tryz.underlying172,
  a127 := Tryz.isAgg172,
  z127 := Tryz.sizeOf172,
  v127 := Tryz.zeroValue172 }
def zq5z : BldF := ⟨131, 5, 1⟩
theorem zq60 : BldOk Tryz.prog 62 zq5z :=
 Qg3 zq5y { sizeBuilder := by kernel_rfl, liesBuilder := by kernel_rfl, t5 := Tryz.underlying5, a5 := Tryz.isAgg5, z5 := Tryz.sizeOf5, v5 := Tryz.zeroValue5, infoByte := by kernel_rfl, cellsByte := by kernel_rfl, sizeByte := by kernel_rfl, neB5 := by decide } rfl rfl rfl ⟨_, Tryz.func62, by kernel_rfl, by kernel_rfl⟩
noncomputable def zq61 : En := ⟨_, .bld zq5z, zq60⟩
noncomputable def zq62 : En := au ([] : List En) [v49y] [] [v28y] [] [.tmp 2] Tryz.func64 (by kernel_rfl)
noncomputable def zq63 : En := au ([] : List En) [v61y] [] [v28y] [] [.tmp 2] Tryz.func69 (by kernel_rfl)
noncomputable def zq64 : En := au ([] : List En) [v60y] [] [v28y] [] [.tmp 2] Tryz.func73 (by kernel_rfl)
noncomputable def zq65 : En := au ([] : List En) [v22y] [] [v46y] [] [.cell 2 101] Tryz.func76 (by kernel_rfl)
noncomputable def zq66 : En := au ([] : List En) [v22y] [] [v46y] [] [.cell 2 101] Tryz.func77 (by kernel_rfl)
noncomputable def zq67 : En := au [zq2u] [v22y] [] [v46y] [] [.cell 2 101] Tryz.func78 (by kernel_rfl)
noncomputable def zq68 : En := au ([] : List En) [v22y] [] [v46y] [] [.cell 2 101] Tryz.func79 (by kernel_rfl)
noncomputable def zq69 : En := .handf (Qz mixed (X := ⟨look tab, gam [zq2u], false, false, false, false, q90y, none, 100000, []⟩) Q4 [zq2u] rfl (ps := [v26y, v22y]) (is := l77y) (rs := [v46y]) (os := l77y) [.cell 4 101] Tryz.func80 (by kernel_rfl)) rfl (by kernel_rfl)
abbrev zq6a := {β : Type} → Int → t6y → t5y → t0y → t4y → (List t8y) → (zq6 → t6y → t5y → t0y → t4y → (List t8y) → Option β) → Option β
noncomputable def zq6b : zq6a := Q28 ⟨look tab, gam [zq2u], false, false, false, false, q90y, none, 100000, []⟩ Tryz.f85 [v26y, v22y] l77y [v46y] l77y [.cell 4 101]
noncomputable def zq6c : En := .handf (Q1c mixed (X := ⟨look tab, gam [zq2u], false, false, false, false, q90y, none, 100000, []⟩) Q4 [zq2u] rfl (ps := [v26y, v22y]) (is := l77y) (rs := [v46y]) (os := l77y) [.cell 4 101] Tryz.func85 (by kernel_rfl)) rfl (by kernel_rfl)
noncomputable def zq6d : En := .inl mixed (X := ⟨look tab, gam [zq6c], false, false, false, false, [], none, 2, []⟩) (rs := [.tmp 4]) Q4 [zq6c] rfl 2 Tryz.func83 (by kernel_rfl)
noncomputable def zq6e : En := au ([] : List En) [v22y] [] [v46y] [] [.cell 2 101] Tryz.func84 (by kernel_rfl)
noncomputable def zq6f : En := au ([] : List En) [v22y] [] [v46y] [] [.cell 2 101] Tryz.func86 (by kernel_rfl)
def zq6g : Shelf.Ren :=
   {
   f := fun x =>
    match x with
    | 145 => 88
    | 220 => 127
    | 219 => 167
    | 217 => 193
    | 225 => 194
    | 224 => 195
    | 267 => 196
    | 266 => 217
    | 314 => 218
    | n => n,
   t := fun x =>
    match x with
    | 9 => 9
    | 4 => 4
    | 59 => 159
    | 3 => 3
    | 5 => 5
    | 46 => 259
    | 146 => 289
    | 51 => 238
    | n => n,
   g := fun x =>
    match x with
    | 1 => 2
    | n => n }
theorem zq6h : Go.Proofs.Lays.n145 Tryz.prog zq6g :=
 {
  mixed := by kernel_rfl,
  f145 := Eq.trans Tryz.func88 (congrArg some (by kernel_rfl)),
  f217 := Eq.trans Tryz.func193 (congrArg some (by kernel_rfl)),
  f219 := Eq.trans Tryz.func167 (congrArg some (by kernel_rfl)),
  f220 := Eq.trans Tryz.func127 (congrArg some (by kernel_rfl)),
  f224 := Eq.trans Tryz.func195 (congrArg some (by kernel_rfl)),
  f225 := Eq.trans Tryz.func194 (congrArg some (by kernel_rfl)),
  f266 := Eq.trans Tryz.func217 (congrArg some (by kernel_rfl)),
  f267 := Eq.trans Tryz.func196 (congrArg some (by kernel_rfl)),
  f314 := Eq.trans Tryz.func218 (congrArg some (by kernel_rfl)),
  t3 := Tryz.underlying3,
  a3 := Tryz.isAgg3,
  z3 := Tryz.sizeOf3,
  v3 := Tryz.zeroValue3,
  t4 := Tryz.underlying4,
  a4 := Tryz.isAgg4,
  z4 := Tryz.sizeOf4,
  v4 := Tryz.zeroValue4,
  t5 := Tryz.underlying5,
  a5 := Tryz.isAgg5,
  z5 := Tryz.sizeOf5,
  v5 := Tryz.zeroValue5,
  t9 := Tryz.underlying9,
  a9 := Tryz.isAgg9,
  z9 := Tryz.sizeOf9,
  v9 := Tryz.zeroValue9,
  t46 := Tryz.underlying259,
  a46 := Tryz.isAgg259,
  z46 := Tryz.sizeOf259,
  v46 := Tryz.zeroValue259,
  t51 := Tryz.underlying238,
  a51 := Tryz.isAgg238,
  z51 := Tryz.sizeOf238,
  v51 := Tryz.zeroValue238,
  t59 := Tryz.underlying159,
  a59 := Tryz.isAgg159,
  z59 := Tryz.sizeOf159,
  v59 := Tryz.zeroValue159,
  t146 := Tryz.underlying289,
  a146 := Tryz.isAgg289,
  z146 := Tryz.sizeOf289,
  v146 := Tryz.zeroValue289,
  g1 := by kernel_rfl }
abbrev zq6i := cutT
def zq6j (c : zq6i) : Spec := cutS c
def zq6k : zq6i := fun x y k => cutF x y k
theorem zq6l : SpecOk Tryz.prog 88 (zq6j zq6k) :=
 Qmd zq6h rfl (of_decide_eq_true (by kernel_rfl)) (fun w0 h0 => Go.Proofs.cell_of_shapedOpen_int (P := Tryz.prog) (g := 2) (t := 3) (zero := #[.int .i64 0]) h0 (of_decide_eq_true (by kernel_rfl)) (by kernel_rfl) rfl (by kernel_rfl) (by kernel_rfl) Tryz.underlying3) ⟨_, Tryz.func88, by kernel_rfl, by kernel_rfl⟩
noncomputable def zq6m : En := .of zq6l
def zq6n : Shelf.Ren :=
   {
   f := fun x =>
    match x with
    | 157 => 89
    | 229 => 128
    | 199 => 129
    | 261 => 168
    | 311 => 197
    | 312 => 198
    | n => n,
   t := fun x =>
    match x with
    | 9 => 9
    | 31 => 51
    | 3 => 3
    | 5 => 5
    | 4 => 4
    | 119 => 186
    | 0 => 0
    | 40 => 188
    | 152 => 235
    | 21 => 21
    | 154 => 237
    | 51 => 238
    | 141 => 240
    | 196 => 263
    | 193 => 260
    | 198 => 266
    | 49 => 264
    | 194 => 261
    | 201 => 269
    | 226 => 291
    | 46 => 259
    | 227 => 292
    | n => n,
   g := fun x =>
    match x with
    | 0 => 0
    | 6 => 1
    | n => n }
theorem zq6o : Go.Proofs.Lays.n157 Tryz.prog zq6n :=
 {
  mixed := by kernel_rfl,
  f157 := Eq.trans Tryz.func89 (congrArg some (by kernel_rfl)),
  f199 := Eq.trans Tryz.func129 (congrArg some (by kernel_rfl)),
  f229 := Eq.trans Tryz.func128 (congrArg some (by kernel_rfl)),
  f261 := Eq.trans Tryz.func168 (congrArg some (by kernel_rfl)),
  f311 := Eq.trans Tryz.func197 (congrArg some (by kernel_rfl)),
  f312 := Eq.trans Tryz.func198 (congrArg some (by kernel_rfl)),
  t0 := Tryz.underlying0,
  a0 := Tryz.isAgg0,
  z0 := Tryz.sizeOf0,
  v0 := Tryz.zeroValue0,
  t3 := Tryz.underlying3,
  a3 := Tryz.isAgg3,
  z3 := Tryz.sizeOf3,
  v3 := Tryz.zeroValue3,
  t4 := Tryz.underlying4,
  a4 := Tryz.isAgg4,
  z4 := Tryz.sizeOf4,
  v4 := Tryz.zeroValue4,
  t5 := Tryz.underlying5,
  a5 := Tryz.isAgg5,
  z5 := Tryz.sizeOf5,
  v5 := Tryz.zeroValue5,
  t9 := Tryz.underlying9,
  a9 := Tryz.isAgg9,
  z9 := Tryz.sizeOf9,
  v9 := Tryz.zeroValue9,
  t21 := Tryz.underlying21,
  a21 := Tryz.isAgg21,
  z21 := Tryz.sizeOf21,
  v21 := Tryz.zeroValue21,
  t31 := Tryz.underlying51,
  a31 := Tryz.isAgg51,
  z31 := Tryz.sizeOf51,
  v31 := Tryz.zeroValue51,
  t40 := Tryz.underlying188,
  a40 := Tryz.isAgg188,
  z40 := Tryz.sizeOf188,
  v40 := Tryz.zeroValue188,
  t46 := Tryz.underlying259,
  a46 := Tryz.isAgg259,
  z46 := Tryz.sizeOf259,
  v46 := Tryz.zeroValue259,
  t49 := Tryz.underlying264,
  a49 := Tryz.isAgg264,
  z49 := Tryz.sizeOf264,
  v49 := Tryz.zeroValue264,
  t51 := Tryz.underlying238,
  a51 := Tryz.isAgg238,
  z51 := Tryz.sizeOf238,
  v51 := Tryz.zeroValue238,
  t119 := Tryz.underlying186,
  a119 := Tryz.isAgg186,
  z119 := Tryz.sizeOf186,
  t141 := Tryz.underlying240,
  a141 := Tryz.isAgg240,
  z141 := Tryz.sizeOf240,
  v141 := Tryz.zeroValue240,
  t152 := Tryz.underlying235,
  a152 := Tryz.isAgg235,
  z152 := Tryz.sizeOf235,
  v152 := Tryz.zeroValue235,
  t154 := Tryz.underlying237,
  a154 := Tryz.isAgg237,
  z154 := Tryz.sizeOf237,
  v154 := Tryz.zeroValue237,
  t193 := Tryz.underlying260,
  a193 := Tryz.isAgg260,
  z193 := Tryz.sizeOf260,
  v193 := Tryz.zeroValue260,
  t194 := Tryz.underlying261,
  a194 := Tryz.isAgg261,
  z194 := Tryz.sizeOf261,
  v194 := Tryz.zeroValue261,
  t196 := Tryz.underlying263,
  a196 := Tryz.isAgg263,
  z196 := Tryz.sizeOf263,
  v196 := Tryz.zeroValue263,
  t198 := Tryz.underlying266,
  a198 := Tryz.isAgg266,
  z198 := Tryz.sizeOf266,
  v198 := Tryz.zeroValue266,
  t201 := Tryz.underlying269,
  a201 := Tryz.isAgg269,
  z201 := Tryz.sizeOf269,
  v201 := Tryz.zeroValue269,
  t226 := Tryz.underlying291,
  a226 := Tryz.isAgg291,
  z226 := Tryz.sizeOf291,
  v226 := Tryz.zeroValue291,
  t227 := Tryz.underlying292,
  a227 := Tryz.isAgg292,
  z227 := Tryz.sizeOf292,
  v227 := Tryz.zeroValue292,
  g0 := by kernel_rfl,
  g6 := by kernel_rfl }
abbrev zq6p := Qd9
def zq6q (c : zq6p) : Spec := Qg0 9 c
def zq6r : zq6p := fun x k => Qda x k
theorem zq6s : SpecOk Tryz.prog 89 (zq6q zq6r) :=
 Qjp zq6o rfl rfl (by kernel_rfl) (by kernel_rfl) (by kernel_rfl) (by kernel_rfl) ⟨_, Tryz.func89, by kernel_rfl, by kernel_rfl⟩
noncomputable def zq6t : En := .of zq6s
noncomputable def zq6u : En := .hand (Qz mixed (X := ⟨look tab, gam ([] : List En), false, false, false, false, q89y, none, 100000, []⟩) Q4 ([] : List En) rfl (ps := [v26y, v30y]) (is := l73y) (rs := [v22y]) (os := l73y) [.tmp 4] Tryz.func93 (by kernel_rfl)) rfl (by kernel_rfl)
noncomputable def zq6v : En := .hand (Qz mixed (X := ⟨look tab, gam ([] : List En), false, false, false, false, q89y, none, 100000, []⟩) Q4 ([] : List En) rfl (ps := [v26y, v30y]) (is := l73y) (rs := [v22y]) (os := l73y) [.tmp 4] Tryz.func99 (by kernel_rfl)) rfl (by kernel_rfl)
def zq6w : Shelf.Ren :=
   {
   f := fun x =>
    match x with
    | 156 => 106
    | 165 => 154
    | 166 => 60
    | 169 => 62
    | 240 => 107
    | 241 => 186
    | 276 => 155
    | 277 => 210
    | n => n,
   t := fun x =>
    match x with
    | 31 => 51
    | 9 => 9
    | 3 => 3
    | 4 => 4
    | 0 => 0
    | 20 => 20
    | 72 => 131
    | 76 => 135
    | 70 => 128
    | 37 => 129
    | 75 => 134
    | 127 => 172
    | 164 => 218
    | 5 => 5
    | 80 => 137
    | n => n,
   g := fun x => x }
theorem zq6x : Go.Proofs.Lays.n156 Tryz.prog zq6w :=
 {
  mixed := by kernel_rfl,
  f156 := Eq.trans Tryz.func106 (congrArg some (by kernel_rfl)),
  f165 := Eq.trans Tryz.func154 (congrArg some (by kernel_rfl)),
  f166 := Eq.trans Tryz.func60 (congrArg some (by kernel_rfl)),
  f169 := Eq.trans Tryz.func62 (congrArg some (by kernel_rfl)),
  f240 := Eq.trans Tryz.func107 (congrArg some (by kernel_rfl)),
  f241 := Eq.trans Tryz.func186 (congrArg some (by kernel_rfl)),
  f276 := Eq.trans Tryz.func155 (congrArg some (by kernel_rfl)),
  f277 := Eq.trans Tryz.func210 (congrArg some (by kernel_rfl)),
  t0 := Tryz.underlying0,
  a0 := Tryz.isAgg0,
  z0 := Tryz.sizeOf0,
  v0 := Tryz.zeroValue0,
  t3 := Tryz.underlying3,
  a3 := Tryz.isAgg3,
  z3 := Tryz.sizeOf3,
  v3 := Tryz.zeroValue3,
  t4 := Tryz.underlying4,
  a4 := Tryz.isAgg4,
  z4 := Tryz.sizeOf4,
  v4 := Tryz.zeroValue4,
  t9 := Tryz.underlying9,
  a9 := Tryz.isAgg9,
  z9 := Tryz.sizeOf9,
  v9 := Tryz.zeroValue9,
  t20 := Tryz.underlying20,
  a20 := Tryz.isAgg20,
  z20 := Tryz.sizeOf20,
  v20 := Tryz.zeroValue20,
  t31 := Tryz.underlying51,
  a31 := Tryz.isAgg51,
  z31 := Tryz.sizeOf51,
  v31 := Tryz.zeroValue51,
  t37 := Tryz.underlying129,
  a37 := Tryz.isAgg129,
  z37 := Tryz.sizeOf129,
  v37 := Tryz.zeroValue129,
  t70 := Tryz.underlying128,
  a70 := Tryz.isAgg128,
  z70 := Tryz.sizeOf128,
  v70 := Tryz.zeroValue128,
  t72 := Tryz.underlying131,
  a72 := Tryz.isAgg131,
  z72 := Tryz.sizeOf131,
  v72 := Tryz.zeroValue131,
  t75 := Tryz.underlying134,
  a75 := Tryz.isAgg134,
  z75 := Tryz.sizeOf134,
  v75 := Tryz.zeroValue134,
  t76 := Tryz.underlying135,
  a76 := Tryz.isAgg135,
  z76 := Tryz.sizeOf135,
  v76 := Tryz.zeroValue135,
  t127 := Tryz.underlying172,
  a127 := Tryz.isAgg172,
  z127 := Tryz.sizeOf172,
  v127 := Tryz.zeroValue172,
  t164 := Tryz.underlying218,
  a164 := Tryz.isAgg218,
  z164 := Tryz.sizeOf218,
  v164 := Tryz.zeroValue218 }
def zq6y : BldF := ⟨9, 0, 3⟩
theorem zq6z : BldOk Tryz.prog 106 zq6y :=
 Qlj zq6x { sizeBuilder := by kernel_rfl, liesBuilder := by kernel_rfl, t5 := Tryz.underlying5, a5 := Tryz.isAgg5, z5 := Tryz.sizeOf5, v5 := Tryz.zeroValue5, infoByte := by kernel_rfl, cellsByte := by kernel_rfl, sizeByte := by kernel_rfl, neB5 := by decide } rfl ⟨_, Tryz.func106, by kernel_rfl, by kernel_rfl⟩
noncomputable def zq70 : En := ⟨_, .bld zq6y, zq6z⟩
noncomputable def zq71 : En := au ([] : List En) [(true, [.data zq9])] [] [v25y] [] [.tmp 2] Tryz.func110 (by kernel_rfl)
noncomputable def zq72 : En := au ([] : List En) [v22y, v22y] [] [v25y] [] [.tmp 4] Tryz.func112 (by kernel_rfl)
noncomputable def zq73 : En := au ([] : List En) [v36y] [] [v22y] [] [.tmp 2] Tryz.func113 (by kernel_rfl)
noncomputable def zq74 : En := au ([] : List En) [v56y] [] [v28y] [] [.tmp 2] Tryz.func119 (by kernel_rfl)
abbrev zq75 := {β : Type} → zqc → t3y → (Bool → t3y → Option β) → Option β
def zq76 : zq75 := fun f t1 k =>
 k (decide (f.1 = t1)) t1
def zq77 : zq75 := hid zq76
noncomputable def zq78 : En := ⟨132, .spec (sg [(true, [.data zqd]), v26y] [b47y] [v25y] [b47y] zq77), pf [] [] [.tmp 3] Tryz.func132 (by kernel_rfl) fun _ _ => by kernel_rfl⟩
abbrev zq79 := {β : Type} → zq6 → t3y → (Bool → Option β) → Option β
def zq7a : zq79 := fun t s k =>
 cond (decide (t.1 = (0 : Int)))
 (k (decide (t.2.1 = s)))
 (k false)
def zq7b : zq79 := hid zq7a
noncomputable def zq7c : En := ⟨133, .spec (sg [v46y, v28y] [] [v25y] [] zq7b), pf [] [] [.tmp 4] Tryz.func133 (by kernel_rfl) fun _ _ => by kernel_rfl⟩
noncomputable def zq7d : En := .inl mixed (X := ⟨look tab, gam ([] : List En), false, false, false, false, q89y, none, 0, []⟩) (rs := [.tmp 2]) Q4 ([] : List En) rfl 0 Tryz.func137 (by kernel_rfl)
noncomputable def zq7e : En := .inl mixed (X := ⟨look tab, gam ([] : List En), false, false, false, false, q89y, none, 0, []⟩) (rs := [.tmp 2]) Q4 ([] : List En) rfl 0 Tryz.func138 (by kernel_rfl)
abbrev zq7f := {β : Type} → zqa → (t3y → Option β) → Option β
noncomputable def zq7g : zq7f := Q28 ⟨look tab, gam ([] : List En), false, false, false, false, q89y, none, 100000, []⟩ Tryz.f177 [v49y] [] [v28y] [] [.tmp 2]
noncomputable def zq7h : En := ⟨177, .spec (sg [v49y] [] [v28y] [] zq7g), (Q1c mixed (X := ⟨look tab, gam ([] : List En), false, false, false, false, q89y, none, 100000, []⟩) Q4 ([] : List En) rfl [.tmp 2] Tryz.func177 (by kernel_rfl)).spec⟩
noncomputable def zq7i : En := .inl mixed (X := ⟨look tab, gam [zq7h], false, false, false, false, [], none, 0, []⟩) (rs := [.tmp 4]) Q4 [zq7h] rfl 1 Tryz.func203 (by kernel_rfl)
abbrev zq7j := {β : Type} → t6y → t3y → (Int → t3y → Option β) → Option β
noncomputable def zq7k : zq7j := Q28 ⟨look tab, gam [zq7i], false, false, false, false, [], none, 100000, []⟩ Tryz.f202 [v54y, (false, [.fn 203 [0, 1]])] l87y [v22y] l87y [.tmp 4]
noncomputable def zq7l : En := ⟨202, .spec (sg [v54y, (false, [.fn 203 [0, 1]])] l87y [v22y] l87y zq7k), (Q1c mixed (X := ⟨look tab, gam [zq7i], false, false, false, false, [], none, 100000, []⟩) Q4 [zq7i] rfl [.tmp 4] Tryz.func202 (by kernel_rfl)).spec⟩
noncomputable def zq7m : En := .inl mixed (X := ⟨look tab, gam [zq7l], false, false, false, false, [], none, 0, []⟩) (rs := [.tmp 6, .tmp 7]) Q4 [zq7l] rfl 2 Tryz.func176 (by kernel_rfl)
noncomputable def zq7n : En := .inl mixed (X := ⟨look tab, gam [zq7m], false, false, false, false, q89y, none, 0, []⟩) (rs := [.tmp 4, .tmp 5]) Q4 [zq7m] rfl 2 Tryz.func139 (by kernel_rfl)
noncomputable def zq7o : En := au ([] : List En) [v25y] [] [v22y] [] [.tmp 2] Tryz.func140 (by kernel_rfl)
noncomputable def zq7p : En := .inl mixed (X := ⟨look tab, gam ([] : List En), false, false, false, false, q89y, none, 0, []⟩) (rs := [.tmp 2]) Q4 ([] : List En) rfl 0 Tryz.func142 (by kernel_rfl)
noncomputable def zq7q : En := .inl mixed (X := ⟨look tab, gam ([] : List En), false, false, false, false, q89y, none, 0, []⟩) (rs := [.tmp 2]) Q4 ([] : List En) rfl 0 Tryz.func143 (by kernel_rfl)
noncomputable def zq7r : En := .inl mixed (X := ⟨look tab, gam ([] : List En), false, false, false, false, q89y, none, 0, []⟩) (rs := [.tmp 2]) Q4 ([] : List En) rfl 0 Tryz.func144 (by kernel_rfl)
noncomputable def zq7s : En := .inl mixed (X := ⟨look tab, gam ([] : List En), false, false, false, false, q89y, none, 0, []⟩) (rs := [.tmp 2]) Q4 ([] : List En) rfl 0 Tryz.func145 (by kernel_rfl)
abbrev zq7t := {β : Type} → (List t3y) → t3y → (Int → Option β) → Option β
noncomputable def zq7u : zq7t := Q28 ⟨look tab, gam ([] : List En), false, false, false, false, [], none, 100000, []⟩ Tryz.f146 [(false, [.data (.slice .str)]), v28y] [] [v22y] [] [.tmp 4]
noncomputable def zq7v : En := ⟨146, .spec (sg [(false, [.data (.slice .str)]), v28y] [] [v22y] [] zq7u), (Q1c mixed (X := ⟨look tab, gam ([] : List En), false, false, false, false, [], none, 100000, []⟩) Q4 ([] : List En) rfl [.tmp 4] Tryz.func146 (by kernel_rfl)).spec⟩
noncomputable def zq7w : En := .inl mixed (X := ⟨look tab, gam ([] : List En), false, false, false, false, q89y, none, 0, []⟩) (rs := [.tmp 2]) Q4 ([] : List En) rfl 0 Tryz.func147 (by kernel_rfl)
noncomputable def zq7x : En := .inl mixed (X := ⟨look tab, gam ([] : List En), false, false, false, false, q89y, none, 0, []⟩) (rs := [.tmp 2]) Q4 ([] : List En) rfl 0 Tryz.func148 (by kernel_rfl)
noncomputable def zq7y : En := .inl mixed (X := ⟨look tab, gam ([] : List En), false, false, false, false, q89y, none, 0, []⟩) (rs := [.tmp 2]) Q4 ([] : List En) rfl 0 Tryz.func178 (by kernel_rfl)
noncomputable def zq7z : En := .inl mixed (X := ⟨look tab, gam [zq7y, zq7w], false, false, false, false, q89y, none, 0, []⟩) (rs := [.tmp 2]) Q4 [zq7y, zq7w] rfl 0 Tryz.func149 (by kernel_rfl)
noncomputable def zq80 : En := .inl mixed (X := ⟨look tab, gam ([] : List En), false, false, false, false, q89y, none, 0, []⟩) (rs := [.tmp 2]) Q4 ([] : List En) rfl 0 Tryz.func150 (by kernel_rfl)
abbrev zq81 := {β : Type} → zq0 → (t3y → Option β) → Option β
noncomputable def zq82 : zq81 := Q28 ⟨look tab, gam ([] : List En), false, false, false, false, q89y, none, 100000, []⟩ Tryz.f182 [v61y] [] [v28y] [] [.tmp 2]
noncomputable def zq83 : En := ⟨182, .spec (sg [v61y] [] [v28y] [] zq82), (Q1c mixed (X := ⟨look tab, gam ([] : List En), false, false, false, false, q89y, none, 100000, []⟩) Q4 ([] : List En) rfl [.tmp 2] Tryz.func182 (by kernel_rfl)).spec⟩
noncomputable def zq84 : En := .inl mixed (X := ⟨look tab, gam [zq83], false, false, false, false, [], none, 0, []⟩) (rs := [.tmp 4]) Q4 [zq83] rfl 1 Tryz.func207 (by kernel_rfl)
abbrev zq85 := {β : Type} → t0y → t3y → (Int → t3y → Option β) → Option β
noncomputable def zq86 : zq85 := Q28 ⟨look tab, gam [zq84], false, false, false, false, [], none, 100000, []⟩ Tryz.f206 [v51y, (false, [.fn 207 [0, 1]])] l86y [v22y] l86y [.tmp 4]
noncomputable def zq87 : En := ⟨206, .spec (sg [v51y, (false, [.fn 207 [0, 1]])] l86y [v22y] l86y zq86), (Q1c mixed (X := ⟨look tab, gam [zq84], false, false, false, false, [], none, 100000, []⟩) Q4 [zq84] rfl [.tmp 4] Tryz.func206 (by kernel_rfl)).spec⟩
noncomputable def zq88 : En := .inl mixed (X := ⟨look tab, gam [zq87], false, false, false, false, [], none, 0, []⟩) (rs := [.tmp 6, .tmp 7]) Q4 [zq87] rfl 2 Tryz.func181 (by kernel_rfl)
noncomputable def zq89 : En := .inl mixed (X := ⟨look tab, gam [zq88], false, false, false, false, q89y, none, 0, []⟩) (rs := [.tmp 4, .tmp 5]) Q4 [zq88] rfl 2 Tryz.func152 (by kernel_rfl)
abbrev zq8a := {β : Type} → Int → (Bool → Option β) → Option β
def zq8b : zq8a := fun c k =>
 cond (decide ((97 : Int) ≤ c))
 (let t := (decide (c ≤ (122 : Int)));
 k t)
 (k false)
def zq8c : zq8a := hid zq8b
noncomputable def zq8d : En := ⟨158, .spec (sg [(false, [.data (.int .u8)])] [] [v25y] [] zq8c), pf [] [] [.tmp 2] Tryz.func158 (by kernel_rfl) fun _ _ => by kernel_rfl⟩
abbrev zq8e := {β : Type} → Int → (Bool → Option β) → Option β
def zq8f : zq8e := fun c k =>
 cond (decide ((48 : Int) ≤ c))
 (let t := (decide (c ≤ (57 : Int)));
 k t)
 (k false)
def zq8g : zq8e := hid zq8f
noncomputable def zq8h : En := ⟨159, .spec (sg [(false, [.data (.int .u8)])] [] [v25y] [] zq8g), pf [] [] [.tmp 2] Tryz.func159 (by kernel_rfl) fun _ _ => by kernel_rfl⟩
noncomputable def zq8i : En := au ([] : List En) [v22y, v22y, v22y] [] [v25y] [] [.tmp 6] Tryz.func160 (by kernel_rfl)
noncomputable def zq8j : En := au [zq72] [v22y, v26y] [b29y] [v25y] [b29y] [.tmp 3] Tryz.func163 (by kernel_rfl)
def zq8k : Shelf.Ren :=
   {
   f := fun x =>
    match x with
    | 144 => 170
    | 143 => 126
    | 219 => 167
    | 217 => 193
    | 225 => 194
    | 224 => 195
    | 267 => 196
    | 266 => 217
    | 314 => 218
    | n => n,
   t := fun x =>
    match x with
    | 9 => 9
    | 4 => 4
    | 3 => 3
    | 5 => 5
    | 46 => 259
    | 146 => 289
    | 51 => 238
    | n => n,
   g := fun x =>
    match x with
    | 1 => 2
    | n => n }
theorem zq8l : Go.Proofs.Lays.n144 Tryz.prog zq8k :=
 {
  mixed := by kernel_rfl,
  f143 := Eq.trans Tryz.func126 (congrArg some (by kernel_rfl)),
  f144 := Eq.trans Tryz.func170 (congrArg some (by kernel_rfl)),
  f217 := Eq.trans Tryz.func193 (congrArg some (by kernel_rfl)),
  f219 := Eq.trans Tryz.func167 (congrArg some (by kernel_rfl)),
  f224 := Eq.trans Tryz.func195 (congrArg some (by kernel_rfl)),
  f225 := Eq.trans Tryz.func194 (congrArg some (by kernel_rfl)),
  f266 := Eq.trans Tryz.func217 (congrArg some (by kernel_rfl)),
  f267 := Eq.trans Tryz.func196 (congrArg some (by kernel_rfl)),
  f314 := Eq.trans Tryz.func218 (congrArg some (by kernel_rfl)),
  t3 := Tryz.underlying3,
  a3 := Tryz.isAgg3,
  z3 := Tryz.sizeOf3,
  v3 := Tryz.zeroValue3,
  t4 := Tryz.underlying4,
  a4 := Tryz.isAgg4,
  z4 := Tryz.sizeOf4,
  v4 := Tryz.zeroValue4,
  t5 := Tryz.underlying5,
  a5 := Tryz.isAgg5,
  z5 := Tryz.sizeOf5,
  v5 := Tryz.zeroValue5,
  t9 := Tryz.underlying9,
  a9 := Tryz.isAgg9,
  z9 := Tryz.sizeOf9,
  v9 := Tryz.zeroValue9,
  t46 := Tryz.underlying259,
  a46 := Tryz.isAgg259,
  z46 := Tryz.sizeOf259,
  v46 := Tryz.zeroValue259,
  t51 := Tryz.underlying238,
  a51 := Tryz.isAgg238,
  z51 := Tryz.sizeOf238,
  v51 := Tryz.zeroValue238,
  t146 := Tryz.underlying289,
  a146 := Tryz.isAgg289,
  z146 := Tryz.sizeOf289,
  v146 := Tryz.zeroValue289,
  g1 := by kernel_rfl }
abbrev zq8m := Q9d
def zq8n (c : zq8m) : Spec := Qe1 c
def zq8o : zq8m := fun x y k => Q9e x y k
theorem zq8p : SpecOk Tryz.prog 170 (zq8n zq8o) :=
 Qh1 zq8l rfl (of_decide_eq_true (by kernel_rfl)) (fun w0 h0 => Go.Proofs.cell_of_shapedOpen_int (P := Tryz.prog) (g := 2) (t := 3) (zero := #[.int .i64 0]) h0 (of_decide_eq_true (by kernel_rfl)) (by kernel_rfl) rfl (by kernel_rfl) (by kernel_rfl) Tryz.underlying3) ⟨_, Tryz.func170, by kernel_rfl, by kernel_rfl⟩
noncomputable def zq8q : En := .of zq8p
abbrev zq8r := {β : Type} → t3y → t3y → (Int → Bool → Option β) → Option β
def zq8s : zq8r := fun words word k =>
 zq6r words (fun lrFields =>
 zq7u lrFields word (fun rIndexstringstring =>
 let t := (IntKind.i64.wrap (rIndexstringstring + (1 : Int)));
 let t2 := (decide ((0 : Int) ≤ rIndexstringstring));
 k t t2))
def zq8t : zq8r := hid zq8s
noncomputable def zq8u : En := ⟨175, .spec (sg [v28y, v28y] [] [v22y, v25y] [] zq8t), pf [zq7v, zq6t] [] [.tmp 4, .tmp 5] Tryz.func175 (by kernel_rfl) fun _ _ => by kernel_rfl⟩
abbrev zq8v := {β : Type} → zqe → (t3y → Option β) → Option β
noncomputable def zq8w : zq8v := Q28 ⟨look tab, gam ([] : List En), false, false, false, false, [], none, 100000, []⟩ Tryz.f180 [v66y] [] [v28y] [] [.tmp 2]
noncomputable def zq8x : En := ⟨180, .spec (sg [v66y] [] [v28y] [] zq8w), (Q1c mixed (X := ⟨look tab, gam ([] : List En), false, false, false, false, [], none, 100000, []⟩) Q4 ([] : List En) rfl [.tmp 2] Tryz.func180 (by kernel_rfl)).spec⟩
noncomputable def zq8y : En := .inl mixed (X := ⟨look tab, gam [zq8x], false, false, false, false, [], none, 0, []⟩) (rs := [.tmp 4]) Q4 [zq8x] rfl 1 Tryz.func205 (by kernel_rfl)
abbrev zq8z := {β : Type} → t5y → t3y → (Int → t3y → Option β) → Option β
noncomputable def zq90 : zq8z := Q28 ⟨look tab, gam [zq8y], false, false, false, false, [], none, 100000, []⟩ Tryz.f204 [v58y, (false, [.fn 205 [0, 1]])] l85y [v22y] l85y [.tmp 4]
noncomputable def zq91 : En := ⟨204, .spec (sg [v58y, (false, [.fn 205 [0, 1]])] l85y [v22y] l85y zq90), (Q1c mixed (X := ⟨look tab, gam [zq8y], false, false, false, false, [], none, 100000, []⟩) Q4 [zq8y] rfl [.tmp 4] Tryz.func204 (by kernel_rfl)).spec⟩
noncomputable def zq92 : En := .inl mixed (X := ⟨look tab, gam [zq91], false, false, false, false, [], none, 0, []⟩) (rs := [.tmp 6, .tmp 7]) Q4 [zq91] rfl 2 Tryz.func179 (by kernel_rfl)
def zq93 : Shelf.Ren :=
   {
   f := fun x =>
    match x with
    | 171 => 183
    | 243 => 208
    | 246 => 223
    | 283 => 232
    | 284 => 233
    | 285 => 234
    | 286 => 235
    | 129 => 244
    | 317 => 243
    | 318 => 245
    | 319 => 246
    | 320 => 247
    | 337 => 254
    | 338 => 255
    | n => n,
   t := fun x =>
    match x with
    | 3 => 3
    | 9 => 9
    | 2 => 2
    | 4 => 4
    | 171 => 305
    | 0 => 0
    | 53 => 306
    | 37 => 129
    | 5 => 5
    | 173 => 309
    | 212 => 322
    | 51 => 238
    | 20 => 20
    | 213 => 323
    | 46 => 259
    | 232 => 333
    | 233 => 334
    | n => n,
   g := fun x =>
    match x with
    | 17 => 7
    | 18 => 8
    | 19 => 9
    | n => n }
theorem zq94 : Go.Proofs.LaysM.n171 Tryz.prog zq93 :=
 {
  mixed := by kernel_rfl,
  f129 := Eq.trans Tryz.func244 (congrArg some (by kernel_rfl)),
  f171 := Eq.trans Tryz.func183 (congrArg some (by kernel_rfl)),
  f243 := Eq.trans Tryz.func208 (congrArg some (by kernel_rfl)),
  f246 := Eq.trans Tryz.func223 (congrArg some (by kernel_rfl)),
  f283 := Eq.trans Tryz.func232 (congrArg some (by kernel_rfl)),
  f284 := Eq.trans Tryz.func233 (congrArg some (by kernel_rfl)),
  f285 := Eq.trans Tryz.func234 (congrArg some (by kernel_rfl)),
  f286 := Eq.trans Tryz.func235 (congrArg some (by kernel_rfl)),
  f317 := Eq.trans Tryz.func243 (congrArg some (by kernel_rfl)),
  f318 := Eq.trans Tryz.func245 (congrArg some (by kernel_rfl)),
  f319 := Eq.trans Tryz.func246 (congrArg some (by kernel_rfl)),
  f320 := Eq.trans Tryz.func247 (congrArg some (by kernel_rfl)),
  f337 := Eq.trans Tryz.func254 (congrArg some (by kernel_rfl)),
  f338 := Eq.trans Tryz.func255 (congrArg some (by kernel_rfl)),
  t0 := Tryz.underlying0,
  a0 := Tryz.isAgg0,
  z0 := Tryz.sizeOf0,
  v0 := Tryz.zeroValue0,
  t2 := Tryz.underlying2,
  a2 := Tryz.isAgg2,
  z2 := Tryz.sizeOf2,
  v2 := Tryz.zeroValue2,
  t3 := Tryz.underlying3,
  a3 := Tryz.isAgg3,
  z3 := Tryz.sizeOf3,
  v3 := Tryz.zeroValue3,
  t4 := Tryz.underlying4,
  a4 := Tryz.isAgg4,
  z4 := Tryz.sizeOf4,
  v4 := Tryz.zeroValue4,
  t5 := Tryz.underlying5,
  a5 := Tryz.isAgg5,
  z5 := Tryz.sizeOf5,
  v5 := Tryz.zeroValue5,
  t9 := Tryz.underlying9,
  a9 := Tryz.isAgg9,
  z9 := Tryz.sizeOf9,
  v9 := Tryz.zeroValue9,
  t20 := Tryz.underlying20,
  a20 := Tryz.isAgg20,
  z20 := Tryz.sizeOf20,
  v20 := Tryz.zeroValue20,
  t37 := Tryz.underlying129,
  a37 := Tryz.isAgg129,
  z37 := Tryz.sizeOf129,
  v37 := Tryz.zeroValue129,
  t46 := Tryz.underlying259,
  a46 := Tryz.isAgg259,
  z46 := Tryz.sizeOf259,
  v46 := Tryz.zeroValue259,
  t51 := Tryz.underlying238,
  a51 := Tryz.isAgg238,
  z51 := Tryz.sizeOf238,
  v51 := Tryz.zeroValue238,
  t53 := Tryz.underlying306,
  a53 := Tryz.isAgg306,
  z53 := Tryz.sizeOf306,
  v53 := Tryz.zeroValue306,
  t171 := Tryz.underlying305,
  a171 := Tryz.isAgg305,
  z171 := Tryz.sizeOf305,
  v171 := Tryz.zeroValue305,
  t173 := Tryz.underlying309,
  a173 := Tryz.isAgg309,
  z173 := Tryz.sizeOf309,
  v173 := Tryz.zeroValue309,
  t212 := Tryz.underlying322,
  a212 := Tryz.isAgg322,
  z212 := Tryz.sizeOf322,
  v212 := Tryz.zeroValue322,
  t213 := Tryz.underlying323,
  a213 := Tryz.isAgg323,
  z213 := Tryz.sizeOf323,
  t232 := Tryz.underlying333,
  a232 := Tryz.isAgg333,
  z232 := Tryz.sizeOf333,
  v232 := Tryz.zeroValue333,
  t233 := Tryz.underlying334,
  a233 := Tryz.isAgg334,
  z233 := Tryz.sizeOf334,
  v233 := Tryz.zeroValue334,
  g17 := by kernel_rfl,
  g18 := by kernel_rfl,
  g19 := by kernel_rfl,
  i0 := by kernel_rfl,
  i2 := by kernel_rfl,
  i3 := by kernel_rfl,
  i4 := by kernel_rfl,
  i5 := by kernel_rfl,
  i9 := by kernel_rfl,
  i20 := by kernel_rfl,
  i37 := by kernel_rfl,
  i46 := by kernel_rfl,
  i51 := by kernel_rfl,
  i53 := by kernel_rfl,
  i171 := by kernel_rfl,
  i173 := by kernel_rfl,
  i212 := by kernel_rfl,
  i232 := by kernel_rfl,
  i233 := by kernel_rfl,
  m17 := by kernel_rfl,
  m18 := by kernel_rfl,
  m19 := by kernel_rfl }
abbrev zq95 := Qii
def zq96 (c : zq95) : Spec := Ql7 c
def zq97 : zq95 := fun x k => Qij x k
theorem zq98 : SpecOk Tryz.prog 183 (zq96 zq97) :=
 Qlh zq94 rfl (g := 7) (by kernel_rfl) ⟨_, Tryz.func183, by kernel_rfl, by kernel_rfl⟩
noncomputable def zq99 : En := .of zq98
abbrev zq9a := {β : Type} → Int → Int → Int → (Bool → Option β) → Option β
noncomputable def Qdf : zq9a := Q28 ⟨look tab, gam ([] : List En), false, false, false, false, [], none, 100000, []⟩ Tryz.f188 [v22y, v22y, v22y] [] [v25y] [] [.tmp 6]
noncomputable def zq9b : En := ⟨188, .spec (sg [v22y, v22y, v22y] [] [v25y] [] Qdf), (Q1c mixed (X := ⟨look tab, gam ([] : List En), false, false, false, false, [], none, 100000, []⟩) Q4 ([] : List En) rfl [.tmp 6] Tryz.func188 (by kernel_rfl)).spec⟩
def zq9c : Shelf.Ren :=
   {
   f := fun x =>
    match x with
    | 172 => 201
    | 244 => 221
    | 245 => 222
    | 247 => 227
    | 279 => 228
    | 280 => 229
    | 281 => 230
    | 282 => 231
    | 287 => 240
    | 316 => 241
    | 171 => 183
    | 205 => 242
    | 321 => 252
    | 322 => 253
    | 243 => 208
    | 246 => 223
    | 283 => 232
    | 284 => 233
    | 285 => 234
    | 286 => 235
    | 129 => 244
    | 317 => 243
    | 318 => 245
    | 319 => 246
    | 320 => 247
    | 337 => 254
    | 338 => 255
    | n => n,
   t := fun x =>
    match x with
    | 9 => 9
    | 3 => 3
    | 75 => 134
    | 76 => 135
    | 4 => 4
    | 5 => 5
    | 167 => 299
    | 37 => 129
    | 0 => 0
    | 85 => 300
    | 2 => 2
    | 168 => 302
    | 53 => 306
    | 175 => 315
    | 46 => 259
    | 210 => 319
    | 127 => 172
    | 145 => 331
    | 143 => 329
    | 21 => 21
    | 171 => 305
    | 173 => 309
    | 212 => 322
    | 51 => 238
    | 20 => 20
    | 213 => 323
    | 232 => 333
    | 233 => 334
    | 80 => 137
    | n => n,
   g := fun x =>
    match x with
    | 15 => 5
    | 16 => 6
    | 17 => 7
    | 18 => 8
    | 19 => 9
    | n => n }
theorem zq9d : Go.Proofs.LaysC.n172 Tryz.prog zq9c :=
 {
  mixed := by kernel_rfl,
  f129 := Eq.trans Tryz.func244 (congrArg some (by kernel_rfl)),
  f171 := Eq.trans Tryz.func183 (congrArg some (by kernel_rfl)),
  f172 := Eq.trans Tryz.func201 (congrArg some (by kernel_rfl)),
  f205 := Eq.trans Tryz.func242 (congrArg some (by kernel_rfl)),
  f243 := Eq.trans Tryz.func208 (congrArg some (by kernel_rfl)),
  f244 := Eq.trans Tryz.func221 (congrArg some (by kernel_rfl)),
  f245 := Eq.trans Tryz.func222 (congrArg some (by kernel_rfl)),
  f246 := Eq.trans Tryz.func223 (congrArg some (by kernel_rfl)),
  f247 := Eq.trans Tryz.func227 (congrArg some (by kernel_rfl)),
  f279 := Eq.trans Tryz.func228 (congrArg some (by kernel_rfl)),
  f280 := Eq.trans Tryz.func229 (congrArg some (by kernel_rfl)),
  f281 := Eq.trans Tryz.func230 (congrArg some (by kernel_rfl)),
  f282 := Eq.trans Tryz.func231 (congrArg some (by kernel_rfl)),
  f283 := Eq.trans Tryz.func232 (congrArg some (by kernel_rfl)),
  f284 := Eq.trans Tryz.func233 (congrArg some (by kernel_rfl)),
  f285 := Eq.trans Tryz.func234 (congrArg some (by kernel_rfl)),
  f286 := Eq.trans Tryz.func235 (congrArg some (by kernel_rfl)),
  f287 := Eq.trans Tryz.func240 (congrArg some (by kernel_rfl)),
  f316 := Eq.trans Tryz.func241 (congrArg some (by kernel_rfl)),
  f317 := Eq.trans Tryz.func243 (congrArg some (by kernel_rfl)),
  f318 := Eq.trans Tryz.func245 (congrArg some (by kernel_rfl)),
  f319 := Eq.trans Tryz.func246 (congrArg some (by kernel_rfl)),
  f320 := Eq.trans Tryz.func247 (congrArg some (by kernel_rfl)),
  f321 := Eq.trans Tryz.func252 (congrArg some (by kernel_rfl)),
  f322 := Eq.trans Tryz.func253 (congrArg some (by kernel_rfl)),
  f337 := Eq.trans Tryz.func254 (congrArg some (by kernel_rfl)),
  f338 := Eq.trans Tryz.func255 (congrArg some (by kernel_rfl)),
  t0 := Tryz.underlying0,
  a0 := Tryz.isAgg0,
  z0 := Tryz.sizeOf0,
  v0 := Tryz.zeroValue0,
  t2 := Tryz.underlying2,
  a2 := Tryz.isAgg2,
  z2 := Tryz.sizeOf2,
  v2 := Tryz.zeroValue2,
  t3 := Tryz.underlying3,
  a3 := Tryz.isAgg3,
  z3 := Tryz.sizeOf3,
  v3 := Tryz.zeroValue3,
  t4 := Tryz.underlying4,
  a4 := Tryz.isAgg4,
  z4 := Tryz.sizeOf4,
  v4 := Tryz.zeroValue4,
  t5 := Tryz.underlying5,
  a5 := Tryz.isAgg5,
  z5 := Tryz.sizeOf5,
  v5 := Tryz.zeroValue5,
  t9 := Tryz.underlying9,
  a9 := Tryz.isAgg9,
  z9 := Tryz.sizeOf9,
  v9 := Tryz.zeroValue9,
  t20 := Tryz.underlying20,
  a20 := Tryz.isAgg20,
  z20 := Tryz.sizeOf20,
  v20 := Tryz.zeroValue20,
  t21 := Tryz.underlying21,
  a21 := Tryz.isAgg21,
  z21 := Tryz.sizeOf21,
  v21 := Tryz.zeroValue21,
  t37 := Tryz.underlying129,
  a37 := Tryz.isAgg129,
  z37 := Tryz.sizeOf129,
  v37 := Tryz.zeroValue129,
  t46 := Tryz.underlying259,
  a46 := Tryz.isAgg259,
  z46 := Tryz.sizeOf259,
  v46 := Tryz.zeroValue259,
  t51 := Tryz.underlying238,
  a51 := Tryz.isAgg238,
  z51 := Tryz.sizeOf238,
  v51 := Tryz.zeroValue238,
  t53 := Tryz.underlying306,
  a53 := Tryz.isAgg306,
  z53 := Tryz.sizeOf306,
  v53 := Tryz.zeroValue306,
  t75 := Tryz.underlying134,
  a75 := Tryz.isAgg134,
  z75 := Tryz.sizeOf134,
  v75 := Tryz.zeroValue134,
  t76 := Tryz.underlying135,
  a76 := Tryz.isAgg135,
  z76 := Tryz.sizeOf135,
  v76 := Tryz.zeroValue135,
  t85 := Tryz.underlying300,
  a85 := Tryz.isAgg300,
  z85 := Tryz.sizeOf300,
  v85 := Tryz.zeroValue300,
  t127 := Tryz.underlying172,
  a127 := Tryz.isAgg172,
  z127 := Tryz.sizeOf172,
  v127 := Tryz.zeroValue172,
  t143 := Tryz.underlying329,
  a143 := Tryz.isAgg329,
  z143 := Tryz.sizeOf329,
  v143 := Tryz.zeroValue329,
  t145 := Tryz.underlying331,
  a145 := Tryz.isAgg331,
  z145 := Tryz.sizeOf331,
  v145 := Tryz.zeroValue331,
  t167 := Tryz.underlying299,
  a167 := Tryz.isAgg299,
  z167 := Tryz.sizeOf299,
  v167 := Tryz.zeroValue299,
  t168 := Tryz.underlying302,
  a168 := Tryz.isAgg302,
  z168 := Tryz.sizeOf302,
  v168 := Tryz.zeroValue302,
  t171 := Tryz.underlying305,
  a171 := Tryz.isAgg305,
  z171 := Tryz.sizeOf305,
  v171 := Tryz.zeroValue305,
  t173 := Tryz.underlying309,
  a173 := Tryz.isAgg309,
  z173 := Tryz.sizeOf309,
  v173 := Tryz.zeroValue309,
  t175 := Tryz.underlying315,
  a175 := Tryz.isAgg315,
  z175 := Tryz.sizeOf315,
  v175 := Tryz.zeroValue315,
  t210 := Tryz.underlying319,
  a210 := Tryz.isAgg319,
  z210 := Tryz.sizeOf319,
  v210 := Tryz.zeroValue319,
  t212 := Tryz.underlying322,
  a212 := Tryz.isAgg322,
  z212 := Tryz.sizeOf322,
  v212 := Tryz.zeroValue322,
  t213 := Tryz.underlying323,
  a213 := Tryz.isAgg323,
  z213 := Tryz.sizeOf323,
  t232 := Tryz.underlying333,
  a232 := Tryz.isAgg333,
  z232 := Tryz.sizeOf333,
  v232 := Tryz.zeroValue333,
  t233 := Tryz.underlying334,
  a233 := Tryz.isAgg334,
  z233 := Tryz.sizeOf334,
  v233 := Tryz.zeroValue334,
  g15 := by kernel_rfl,
  g16 := by kernel_rfl,
  g17 := by kernel_rfl,
  g18 := by kernel_rfl,
  g19 := by kernel_rfl,
  t80 := Tryz.underlying137,
  a80 := Tryz.isAgg137,
  z80 := Tryz.sizeOf137,
  v80 := Tryz.zeroValue137,
  i0 := by kernel_rfl,
  i2 := by kernel_rfl,
  i3 := by kernel_rfl,
  i4 := by kernel_rfl,
  i5 := by kernel_rfl,
  i9 := by kernel_rfl,
  i20 := by kernel_rfl,
  i21 := by kernel_rfl,
  i37 := by kernel_rfl,
  i46 := by kernel_rfl,
  i51 := by kernel_rfl,
  i53 := by kernel_rfl,
  i75 := by kernel_rfl,
  i76 := by kernel_rfl,
  i80 := by kernel_rfl,
  i85 := by kernel_rfl,
  i127 := by kernel_rfl,
  i143 := by kernel_rfl,
  i145 := by kernel_rfl,
  i167 := by kernel_rfl,
  i168 := by kernel_rfl,
  i171 := by kernel_rfl,
  i173 := by kernel_rfl,
  i175 := by kernel_rfl,
  i210 := by kernel_rfl,
  i212 := by kernel_rfl,
  i232 := by kernel_rfl,
  i233 := by kernel_rfl,
  m15 := by kernel_rfl,
  m16 := by kernel_rfl,
  m17 := by kernel_rfl,
  m18 := by kernel_rfl,
  m19 := by kernel_rfl,
  c0 := by kernel_rfl,
  c2 := by kernel_rfl,
  c3 := by kernel_rfl,
  c4 := by kernel_rfl,
  c5 := by kernel_rfl,
  c9 := by kernel_rfl,
  c20 := by kernel_rfl,
  c21 := by kernel_rfl,
  c37 := by kernel_rfl,
  c46 := by kernel_rfl,
  c51 := by kernel_rfl,
  c53 := by kernel_rfl,
  c75 := by kernel_rfl,
  c76 := by kernel_rfl,
  c80 := by kernel_rfl,
  c85 := by kernel_rfl,
  c127 := by kernel_rfl,
  c143 := by kernel_rfl,
  c145 := by kernel_rfl,
  c167 := by kernel_rfl,
  c168 := by kernel_rfl,
  c171 := by kernel_rfl,
  c173 := by kernel_rfl,
  c175 := by kernel_rfl,
  c210 := by kernel_rfl,
  c212 := by kernel_rfl,
  c213 := by kernel_rfl,
  c232 := by kernel_rfl,
  c233 := by kernel_rfl }
abbrev zq9e := Qil
def zq9f (c : zq9e) : Spec := Ql8 c
def zq9g : zq9e := fun x k => Qim x k
theorem zq9h : SpecOk Tryz.prog 201 (zq9f zq9g) :=
 Qli zq9d rfl (by kernel_rfl) (by kernel_rfl) ⟨_, Tryz.func201, by kernel_rfl, by kernel_rfl⟩
noncomputable def zq9i : En := .of zq9h
abbrev zq9j := {β : Type} → zq8 → (Int → Option β) → Option β
noncomputable def zq9k : zq9j := Q28 ⟨look tab, gam [zq9b], false, false, false, false, [], none, 100000, []⟩ Tryz.f211 [(true, [.data zq9])] [] [v22y] [] [.tmp 2]
noncomputable def zq9l : En := ⟨211, .spec (sg [(true, [.data zq9])] [] [v22y] [] zq9k), (Q1c mixed (X := ⟨look tab, gam [zq9b], false, false, false, false, [], none, 100000, []⟩) Q4 [zq9b] rfl [.tmp 2] Tryz.func211 (by kernel_rfl)).spec⟩
noncomputable def zq9m : En := au ([] : List En) [v22y, v22y] [] [v22y] [] [.tmp 4] Tryz.func215 (by kernel_rfl)
noncomputable def zq9n : En := au ([] : List En) [v22y] [] [v25y] [] [.tmp 2] Tryz.func216 (by kernel_rfl)
def zq9o : Shelf.Ren :=
   {
   f := fun x =>
    match x with
    | 105 => 224
    | 212 => 236
    | 99 => 237
    | 165 => 154
    | 166 => 60
    | 170 => 61
    | 169 => 62
    | 263 => 248
    | 264 => 249
    | 206 => 250
    | 240 => 107
    | 241 => 186
    | 276 => 155
    | 277 => 210
    | n => n,
   t := fun x =>
    match x with
    | 9 => 9
    | 3 => 3
    | 4 => 4
    | 20 => 20
    | 0 => 0
    | 46 => 259
    | 109 => 311
    | 5 => 5
    | 72 => 131
    | 76 => 135
    | 51 => 238
    | 146 => 289
    | 53 => 306
    | 148 => 326
    | 70 => 128
    | 37 => 129
    | 75 => 134
    | 127 => 172
    | 164 => 218
    | 80 => 137
    | n => n,
   g := fun x => x }
theorem zq9p : Go.Proofs.Lays.n105 Tryz.prog zq9o :=
 {
  mixed := by kernel_rfl,
  f99 := Eq.trans Tryz.func237 (congrArg some (by kernel_rfl)),
  f105 := Eq.trans Tryz.func224 (congrArg some (by kernel_rfl)),
  f165 := Eq.trans Tryz.func154 (congrArg some (by kernel_rfl)),
  f166 := Eq.trans Tryz.func60 (congrArg some (by kernel_rfl)),
  f169 := Eq.trans Tryz.func62 (congrArg some (by kernel_rfl)),
  f170 := Eq.trans Tryz.func61 (congrArg some (by kernel_rfl)),
  f206 := Eq.trans Tryz.func250 (congrArg some (by kernel_rfl)),
  f212 := Eq.trans Tryz.func236 (congrArg some (by kernel_rfl)),
  f240 := Eq.trans Tryz.func107 (congrArg some (by kernel_rfl)),
  f241 := Eq.trans Tryz.func186 (congrArg some (by kernel_rfl)),
  f263 := Eq.trans Tryz.func248 (congrArg some (by kernel_rfl)),
  f264 := Eq.trans Tryz.func249 (congrArg some (by kernel_rfl)),
  f276 := Eq.trans Tryz.func155 (congrArg some (by kernel_rfl)),
  f277 := Eq.trans Tryz.func210 (congrArg some (by kernel_rfl)),
  t0 := Tryz.underlying0,
  a0 := Tryz.isAgg0,
  z0 := Tryz.sizeOf0,
  v0 := Tryz.zeroValue0,
  t3 := Tryz.underlying3,
  a3 := Tryz.isAgg3,
  z3 := Tryz.sizeOf3,
  v3 := Tryz.zeroValue3,
  t4 := Tryz.underlying4,
  a4 := Tryz.isAgg4,
  z4 := Tryz.sizeOf4,
  v4 := Tryz.zeroValue4,
  t5 := Tryz.underlying5,
  a5 := Tryz.isAgg5,
  z5 := Tryz.sizeOf5,
  v5 := Tryz.zeroValue5,
  t9 := Tryz.underlying9,
  a9 := Tryz.isAgg9,
  z9 := Tryz.sizeOf9,
  v9 := Tryz.zeroValue9,
  t20 := Tryz.underlying20,
  a20 := Tryz.isAgg20,
  z20 := Tryz.sizeOf20,
  v20 := Tryz.zeroValue20,
  t37 := Tryz.underlying129,
  a37 := Tryz.isAgg129,
  z37 := Tryz.sizeOf129,
  v37 := Tryz.zeroValue129,
  t46 := Tryz.underlying259,
  a46 := Tryz.isAgg259,
  z46 := Tryz.sizeOf259,
  v46 := Tryz.zeroValue259,
  t51 := Tryz.underlying238,
  a51 := Tryz.isAgg238,
  z51 := Tryz.sizeOf238,
  v51 := Tryz.zeroValue238,
  t53 := Tryz.underlying306,
  a53 := Tryz.isAgg306,
  z53 := Tryz.sizeOf306,
  v53 := Tryz.zeroValue306,
  t70 := Tryz.underlying128,
  a70 := Tryz.isAgg128,
  z70 := Tryz.sizeOf128,
  v70 := Tryz.zeroValue128,
  t72 := Tryz.underlying131,
  a72 := Tryz.isAgg131,
  z72 := Tryz.sizeOf131,
  v72 := Tryz.zeroValue131,
  t75 := Tryz.underlying134,
  a75 := Tryz.isAgg134,
  z75 := Tryz.sizeOf134,
  v75 := Tryz.zeroValue134,
  t76 := Tryz.underlying135,
  a76 := Tryz.isAgg135,
  z76 := Tryz.sizeOf135,
  v76 := Tryz.zeroValue135,
  t109 := Tryz.underlying311,
  a109 := Tryz.isAgg311,
  z109 := Tryz.sizeOf311,
  v109 := Tryz.zeroValue311,
  t127 := Tryz.underlying172,
  a127 := Tryz.isAgg172,
  z127 := Tryz.sizeOf172,
  v127 := Tryz.zeroValue172,
  t146 := Tryz.underlying289,
  a146 := Tryz.isAgg289,
  z146 := Tryz.sizeOf289,
  v146 := Tryz.zeroValue289,
  t148 := Tryz.underlying326,
  a148 := Tryz.isAgg326,
  z148 := Tryz.sizeOf326,
  v148 := Tryz.zeroValue326,
  t164 := Tryz.underlying218,
  a164 := Tryz.isAgg218,
  z164 := Tryz.sizeOf218,
  v164 := Tryz.zeroValue218 }
abbrev zq9q := Qd7
def zq9r (c : zq9q) : Spec := Qhr c
def zq9s : zq9q := fun x y k => Qd8 x y k
theorem zq9t : SpecOk Tryz.prog 224 (zq9r zq9s) :=
 Qjo zq9p { sizeBuilder := by kernel_rfl, liesBuilder := by kernel_rfl, t5 := Tryz.underlying5, a5 := Tryz.isAgg5, z5 := Tryz.sizeOf5, v5 := Tryz.zeroValue5, infoByte := by kernel_rfl, cellsByte := by kernel_rfl, sizeByte := by kernel_rfl, neB5 := by decide } rfl ⟨_, Tryz.func224, by kernel_rfl, by kernel_rfl⟩
noncomputable def zq9u : En := .of zq9t
noncomputable def zq9v : En := au ([] : List En) [v22y] [] [v22y] [] [.tmp 2] Tryz.func225 (by kernel_rfl)
abbrev zq9w := {β : Type} → t2y → (t6y → t5y → t0y → t2y → t4y → Option β) → Option β
noncomputable def zq9x : List En := [zq39, zq1h, zq1p, zq3m, zq35, zq1l]
abbrev zq9y (β : Type) := t2y → t6y → t5y → t0y → t4y → t6y → t5y → t0y → t4y → Option β
abbrev zq9z (β : Type) := Int → t2y → t6y → t5y → t0y → t4y → t6y → t5y → t0y → t4y → Option β
noncomputable def zqa0 : Pc := ⟨109, 1, Q8 58 (Q3 Tryz.f15), ⟨1, [0, 2, 3, 4], [v26y, v33y, v37y, v22y], l74y⟩, [(.exit 0, ⟨1, [0, 2, 3], [v26y, v33y, v37y], l74y⟩)]⟩
abbrev zqa1 (β : Type) := t2y → t6y → t5y → t0y → t4y → t6y → t5y → t0y → t4y → Option β
abbrev zqa2 (β : Type) := Int → t2y → t6y → t5y → t0y → t4y → t6y → t5y → t0y → t4y → Option β
noncomputable def zqa3 : Pc := ⟨109, 1, Q8 122 (Q3 Tryz.f15), ⟨1, [0, 2, 3, 5], [v26y, v33y, v37y, v22y], l74y⟩, [(.exit 2, ⟨1, [0, 2, 3], [v26y, v33y, v37y], l74y⟩)]⟩
abbrev zqa4 (β : Type) := t2y → t6y → t5y → t0y → t4y → t6y → t5y → t0y → t4y → Option β
abbrev zqa5 (β : Type) := Int → t2y → t6y → t5y → t0y → t4y → t6y → t5y → t0y → t4y → Option β
noncomputable def zqa6 : Pc := ⟨109, 1, Q8 250 (Q3 Tryz.f15), ⟨1, [0, 2, 3, 7], [v26y, v33y, v37y, v22y], l74y⟩, [(.exit 4, ⟨1, [2, 3], [v33y, v37y], l74y⟩)]⟩
abbrev zqa7 (β : Type) := Int → t2y → t6y → t5y → t0y → t4y → t6y → t5y → t0y → t4y → Option β
abbrev zqa8 (β : Type) := Int → t2y → t3y → Int → Int → Int → Bool → t6y → t5y → t0y → t4y → t6y → t5y → t0y → t4y → t9y → Option β
noncomputable def zqa9 : Pc := ⟨109, 1, Q8 51 (Q1e zqa3.c), ⟨1, [0, 2, 3, 5, 6], [v26y, v33y, v37y, v22y, v59y], [b23y, b50y, b71y, .cells 71 [.data .str, .data (.int .i64), .rowh 12, .data (.int .i64), .data (.int .i64), .data .bool], .row 69 zqb, .row 71 zqf, .row 75 zq1, .row 55 zq5, .row 69 zqb, .row 71 zqf, .row 75 zq1, .row 55 zq5, .row 73 (.prod (.int .i64) (.int .i64))]⟩, [(.normal, ⟨1, [0, 2, 3, 5], [v26y, v33y, v37y, v22y], l74y⟩)]⟩
abbrev zqaa (β : Type) := Int → t2y → t3y → Int → t6y → t5y → t0y → t4y → t6y → t5y → t0y → t4y → t11y → Option β
abbrev zqab (β : Type) := Int → Int → Int → t2y → t3y → Int → t6y → t5y → t0y → t4y → t6y → t5y → t0y → t4y → t11y → Option β
noncomputable def zqac : Pc := ⟨109, 1, Q8 202 (Q1e zqa6.c), ⟨1, [0, 2, 3, 7, 8, 9, 10], [v26y, v33y, v37y, v22y, v59y, v22y, v22y], l78y⟩, [(.exit 6, ⟨1, [0, 2, 3, 7, 8], [v26y, v33y, v37y, v22y, v59y], l78y⟩)]⟩
def zqad {β : Type} (rec : zq9z β) (k1 : zq9y β) : zq9z β := fun i_ d b3_ b4_ b5_ b6_ b7_ b8_ b9_ b10_ =>
 cond (decide ((0 : Int) < i_))
 (let l := ([([104, 101, 114, 101] : List UInt8), ([116, 104, 101, 114, 101] : List UInt8)] : List t3y);
 cond (decide (0 ≤ (List.length b7_ : Int)) && decide ((List.length b7_ : Int) < (List.length l : Int)))
 (zq34 (List.getD l (Int.toNat (List.length b7_ : Int)) ([] : List UInt8)) d (fun rZone mrZone =>
 let l2 := ([rZone] : List zqa);
 cond (decide ((List.length b7_ + List.length l2) * 48 ≤ Qa))
 (let l3 := (b7_ ++ l2);
 let i_2 := (IntKind.i64.wrap (i_ - (1 : Int)));
 rec i_2 mrZone b3_ b4_ b5_ b6_ l3 b8_ b9_ b10_)
 none))
 none)
 (k1 d b3_ b4_ b5_ b6_ b7_ b8_ b9_ b10_)
def zqae (m : Nat) {β : Type} (k1 : zq9y β) : zq9z β := lp10 (fun r => zqad r k1) none m
theorem zqaf {β : Type} (i : Nat) (k1) : zqae (β := β) (i + 1) k1 = zqad (zqae i k1) k1 := rfl
def zqag {β : Type} := hid (zqae (β := β) fuel)
noncomputable def zqah : Pb := ⟨58, zqa0, fun _ => zqag, pl (p := zqa0) zq9x [] (g := fun i _ => zqae i) (by kernel_rfl) rfl (by kernel_rfl) (fun _ _ => rfl) fun _ _ _ _ => by kernel_rfl⟩
def zqai {β : Type} (k1 : zqa7 β) : zqa8 β := fun i_ d p_ p_2 p_3 p_4 p_5 b4_ b5_ b6_ b7_ b8_ b9_ b10_ b11_ b12_ =>
 let l := ([(0 : Int), (40 : Int), (100 : Int), (12 : Int)] : List Int);
 zq1o l d (fun rPick mrPick =>
 let l2 := ([(0 : Int), (11 : Int), (24 : Int), (1 : Int)] : List Int);
 zq1o l2 mrPick (fun rPick2 mrPick2 =>
 let l3 := ([(p_, (p_2, (b12_, ((IntKind.i64.wrap ((3600 : Int) * rPick)), ((IntKind.i64.wrap ((3600 : Int) * rPick2)), p_5)))))] : List zqe);
 cond (decide ((List.length b9_ + List.length l3) * 72 ≤ Qa))
 (let l4 := (b9_ ++ l3);
 k1 i_ mrPick2 b4_ b5_ b6_ b7_ b8_ l4 b10_ b11_)
 none))
def zqaj {β : Type} := hid (zqai (β := β))
noncomputable def zqak : Pb := ⟨51, zqa9, fun _ => zqaj, pe (p := zqa9) zq9x [] 51 (g := fun _ => zqai) (by kernel_rfl) fun _ _ => by kernel_rfl⟩
def zqal {β : Type} (rec : zqa2 β) (k1 : zqa1 β) : zqa2 β := fun i_ d b3_ b4_ b5_ b6_ b7_ b8_ b9_ b10_ =>
 cond (decide ((0 : Int) < i_))
 (zq1k  (fun lrnames =>
 cond (decide (0 ≤ (List.length b8_ : Int)) && decide ((List.length b8_ : Int) < (List.length lrnames : Int)))
 (zq1g (List.length b7_ : Int) d (fun rNext mrNext =>
 zq38 (3 : Int) mrNext (fun rBool mrBool =>
 zq38 (2 : Int) mrBool (fun rBool2 mrBool2 =>
 cond rBool2
 (zq3l mrBool2 (fun mrWindows lrWindows =>
 zqaj (fun i_2 d2 b3_2 b4_2 b5_2 b6_2 b7_2 b8_2 b9_2 b10_2 =>
 let i_3 := (IntKind.i64.wrap (i_2 - (1 : Int)));
 rec i_3 d2 b3_2 b4_2 b5_2 b6_2 b7_2 b8_2 b9_2 b10_2) i_ mrWindows (List.getD lrnames (Int.toNat (List.length b8_ : Int)) ([] : List UInt8)) rNext (0 : Int) (0 : Int) rBool b3_ b4_ b5_ b6_ b7_ b8_ b9_ b10_ lrWindows))
 (zqaj (fun i_2 d2 b3_2 b4_2 b5_2 b6_2 b7_2 b8_2 b9_2 b10_2 =>
 let i_3 := (IntKind.i64.wrap (i_2 - (1 : Int)));
 rec i_3 d2 b3_2 b4_2 b5_2 b6_2 b7_2 b8_2 b9_2 b10_2) i_ mrBool2 (List.getD lrnames (Int.toNat (List.length b8_ : Int)) ([] : List UInt8)) rNext (0 : Int) (0 : Int) rBool b3_ b4_ b5_ b6_ b7_ b8_ b9_ b10_ ([] : List t1y))))))
 none))
 (k1 d b3_ b4_ b5_ b6_ b7_ b8_ b9_ b10_)
def zqam (m : Nat) {β : Type} (k1 : zqa1 β) : zqa2 β := lp10 (fun r => zqal r k1) none m
theorem zqan {β : Type} (i : Nat) (k1) : zqam (β := β) (i + 1) k1 = zqal (zqam i k1) k1 := rfl
def zqao {β : Type} := hid (zqam (β := β) fuel)
noncomputable def zqap : Pb := ⟨122, zqa3, fun _ => zqao, pl (p := zqa3) zq9x [zqak] (g := fun i _ => zqam i) (by kernel_rfl) rfl (by kernel_rfl) (fun _ _ => rfl) fun _ _ _ _ => by kernel_rfl⟩
def zqaq {β : Type} (rec : zqab β) (k1 : zqaa β) : zqab β := fun i_ k_ day d x x2 b4_ b5_ b6_ b7_ b8_ b9_ b10_ b11_ b12_ =>
 cond (decide ((0 : Int) < k_))
 (zq1g (6 : Int) d (fun rNext mrNext =>
 let day2 := (IntKind.i64.wrap (day + (IntKind.i64.wrap ((1 : Int) + rNext))));
 let l := ([day2] : List Int);
 cond (decide ((List.length b12_ + List.length l) * 8 ≤ Qa))
 (let l2 := (b12_ ++ l);
 let k_2 := (IntKind.i64.wrap (k_ - (1 : Int)));
 rec i_ k_2 day2 mrNext x x2 b4_ b5_ b6_ b7_ b8_ b9_ b10_ b11_ l2)
 none))
 (k1 i_ d x x2 b4_ b5_ b6_ b7_ b8_ b9_ b10_ b11_ b12_)
def zqar (m : Nat) {β : Type} (k1 : zqaa β) : zqab β := lp15 (fun r => zqaq r k1) none m
theorem zqas {β : Type} (i : Nat) (k1) : zqar (β := β) (i + 1) k1 = zqaq (zqar i k1) k1 := rfl
def zqat {β : Type} := hid (zqar (β := β) fuel)
noncomputable def zqau : Pb := ⟨202, zqac, fun _ => zqat, pl (p := zqac) zq9x [] (g := fun i _ => zqar i) (by kernel_rfl) rfl (by kernel_rfl) (fun _ _ => rfl) fun _ _ _ _ => by kernel_rfl⟩
def zqav {β : Type} (rec : zqa5 β) (k1 : zqa4 β) : zqa5 β := fun i_ d b3_ b4_ b5_ b6_ b7_ b8_ b9_ b10_ =>
 cond (decide ((0 : Int) < i_))
 (zq1g (List.length b7_ : Int) d (fun rNext mrNext =>
 zq1g (4 : Int) mrNext (fun rNext2 mrNext2 =>
 zqat (fun i_2 d2 x x2 b4_2 b5_2 b6_2 b7_2 b8_2 b9_2 b10_2 b11_ b12_ =>
 let l := ([(x, (x2, b12_))] : List zq0);
 cond (decide ((List.length b10_2 + List.length l) * 48 ≤ Qa))
 (let l2 := (b10_2 ++ l);
 let i_3 := (IntKind.i64.wrap (i_2 - (1 : Int)));
 rec i_3 d2 b4_2 b5_2 b6_2 b7_2 b8_2 b9_2 l2 b11_)
 none) i_ rNext2 (20454 : Int) mrNext2 ([100, 97, 121, 115] : List UInt8) rNext b3_ b4_ b5_ b6_ b7_ b8_ b9_ b10_ ([] : List Int))))
 (k1 d b3_ b4_ b5_ b6_ b7_ b8_ b9_ b10_)
def zqaw (m : Nat) {β : Type} (k1 : zqa4 β) : zqa5 β := lp10 (fun r => zqav r k1) none m
theorem zqax {β : Type} (i : Nat) (k1) : zqaw (β := β) (i + 1) k1 = zqav (zqaw i k1) k1 := rfl
def zqay {β : Type} := hid (zqaw (β := β) fuel)
noncomputable def zqaz : Pb := ⟨250, zqa6, fun _ => zqay, pl (p := zqa6) zq9x [zqau] (g := fun i _ => zqaw i) (by kernel_rfl) rfl (by kernel_rfl) (fun _ _ => rfl) fun _ _ _ _ => by kernel_rfl⟩
def zqb0 : zq9w := fun d k =>
 zq1g (2 : Int) d (fun rNext mrNext =>
 let i_ := (IntKind.i64.wrap ((1 : Int) + rNext));
 zqag (fun d2 b3_ b4_ b5_ b6_ b7_ b8_ b9_ b10_ =>
 zq1g (4 : Int) d2 (fun rNext2 mrNext2 =>
 let i_2 := (IntKind.i64.wrap ((1 : Int) + rNext2));
 zqao (fun d3 b3_2 b4_2 b5_2 b6_2 b7_2 b8_2 b9_2 b10_2 =>
 zq1g (2 : Int) d3 (fun rNext3 mrNext3 =>
 zqay (fun b0_ b3_3 b4_3 b5_3 b6_3 b7_3 b8_3 b9_3 b10_3 =>
 k b7_3 b8_3 b9_3 b0_ b10_3) rNext3 mrNext3 b3_2 b4_2 b5_2 b6_2 b7_2 b8_2 b9_2 b10_2)) i_2 mrNext2 b3_ b4_ b5_ b6_ b7_ b8_ b9_ b10_)) i_ mrNext ([] : List zqa) ([] : List zqe) ([] : List zq0) ([] : List zq4) ([] : List zqa) ([] : List zqe) ([] : List zq0) ([] : List zq4))
def zqb1 : zq9w := hid zqb0
noncomputable def zqb2 : En := ⟨15, .spec (sg [v26y] [b23y] [(true, [.data (.slice zqb), .data (.slice zqf), .data (.slice zq1), .rowh 1])] [b23y, .row 55 zq5] zqb1), pf zq9x [zqah, zqap, zqaz] [.cell 2 28] Tryz.func15 (by kernel_rfl) fun _ _ => by kernel_rfl⟩
abbrev zqb3 := {β : Type} → t6y → t5y → t0y → t3y → t2y → (zq2 → t2y → Option β) → Option β
noncomputable def zqb4 : List En := [zq39, zq1h, zq1p, zq3m]
abbrev zqb5 (β : Type) := t2y → t3y → Int → Int → Int → Int → Int → Int → Int → t3y → Int → Int → Int → Int → Int → Int → Int → t11y → t9y → t11y → t9y → Option β
abbrev zqb6 (β : Type) := Bool → t2y → t6y → t5y → t0y → t3y → Int → Int → Int → Int → Int → Int → Int → t3y → Int → Int → Int → Int → Int → Int → Int → t11y → t9y → t11y → t9y → Option β
noncomputable def zqb7 : Pc := ⟨77, 1, Q8 253 (Q3 Tryz.f17), ⟨1, [0, 4, 6, 7, 65], [v26y, v33y, v37y, v59y, v25y], l76y⟩, [(.normal, ⟨1, [6, 7], [v33y, v37y], [b23y, .cells 60 [.data .str, .data (.int .i64), .data (.int .i64), .data (.int .i64), .data (.int .i64), .data (.int .i64), .rowh 3, .rowh 4, .data (.int .i64), .data (.int .i64)], .cells 60 [.data .str, .data (.int .i64), .data (.int .i64), .data (.int .i64), .data (.int .i64), .data (.int .i64), .rowh 5, .rowh 6, .data (.int .i64), .data (.int .i64)], .row 3 (.int .i64), .row 73 (.prod (.int .i64) (.int .i64)), .row 3 (.int .i64), .row 73 (.prod (.int .i64) (.int .i64))]⟩)]⟩
abbrev zqb8 (β : Type) := t2y → t3y → Int → Int → Int → Int → Int → Int → Int → t11y → t9y → Option β
abbrev zqb9 (β : Type) := t2y → t6y → t5y → t0y → t3y → Int → Int → Int → Int → Int → Int → Int → t3y → Int → Int → Int → Int → Int → Int → Int → t11y → t9y → t11y → t9y → Option β
noncomputable def zqba : Pc := ⟨77, 1, Q8 63 (Q3 Tryz.f17), ⟨1, [0, 4, 6, 7], [v26y, v33y, v37y, v59y], l76y⟩, [(.ret, ⟨1, [6], [v33y], [b23y, b57y, .row 3 (.int .i64), .row 73 (.prod (.int .i64) (.int .i64))]⟩)]⟩
abbrev zqbb (β : Type) := t2y → t6y → t5y → t0y → t3y → Int → Int → Int → Int → Int → Int → Int → t3y → Int → Int → Int → Int → Int → Int → Int → t11y → t9y → t11y → t9y → Option β
abbrev zqbc (β : Type) := Int → t2y → t6y → t5y → t0y → t3y → Int → Int → Int → Int → Int → Int → Int → t3y → Int → Int → Int → Int → Int → Int → Int → t11y → t9y → t11y → t9y → Option β
noncomputable def zqbd : Pc := ⟨77, 1, Q8 122 (Q3 Tryz.f17), ⟨1, [0, 4, 6, 7, 8], [v26y, v33y, v37y, v59y, v22y], l76y⟩, [(.exit 0, ⟨1, [0, 4, 6, 7], [v26y, v33y, v37y, v59y], l76y⟩)]⟩
abbrev zqbe (β : Type) := t2y → t3y → Int → Int → Int → Int → Int → Int → Int → t11y → t9y → Option β
abbrev zqbf (β : Type) := t2y → t6y → t5y → t0y → t3y → Int → Int → Int → Int → Int → Int → Int → t3y → Int → Int → Int → Int → Int → Int → Int → t11y → t9y → t11y → t9y → Option β
noncomputable def zqbg : Pc := ⟨77, 1, Q8 15 (Q3 Tryz.f17), ⟨1, [0, 4, 6, 7], [v26y, v33y, v37y, v59y], l76y⟩, [(.ret, ⟨1, [6], [v33y], [b23y, b57y, .row 3 (.int .i64), .row 73 (.prod (.int .i64) (.int .i64))]⟩)]⟩
def zqbh {β : Type} (k1 : zqb5 β) : zqb6 β := fun t65 d c c2 c3 t6 t62 t63 t64 t66 t67 t68 t69 l l2 l3 l4 l5 l6 l7 l8 b4_ b5_ b6_ b7_ =>
 cond t65
 (zq1g (List.length c3 : Int) d (fun rNext mrNext =>
 zq1g (2 : Int) mrNext (fun rNext2 mrNext2 =>
 k1 mrNext2 t6 t62 t63 t64 t66 t67 t68 t69 l l2 l3 l4 l5 l6 rNext (IntKind.i64.wrap ((1 : Int) + rNext2)) b4_ b5_ b6_ b7_)))
 (k1 d t6 t62 t63 t64 t66 t67 t68 t69 l l2 l3 l4 l5 l6 l7 l8 b4_ b5_ b6_ b7_)
def zqbi {β : Type} := hid (zqbh (β := β))
noncomputable def zqbj : Pb := ⟨253, zqb7, fun _ => zqbi, pe (p := zqb7) zqb4 [] 253 (g := fun _ => zqbh) (by kernel_rfl) fun _ _ => by kernel_rfl⟩
def zqbk {β : Type} (k1 : zqb8 β) : zqb9 β := fun d c c2 c3 t6 t62 t63 t64 t65 t66 t67 t68 l l2 l3 l4 l5 l6 l7 l8 b4_ b5_ b6_ b7_ =>
 zq38 (4 : Int) d (fun rBool mrBool =>
 cond rBool
 (zqbi (fun b0_ t69 t610 t611 t612 t613 t614 t615 t616 l9 l10 l11 l12 l13 l14 l15 l16 b3_ b4_2 b5_2 b6_2 =>
 k1 b0_ l9 l10 l11 l12 l13 l14 l15 l16 b5_2 b6_2) (decide ((0 : Int) < (List.length c3 : Int))) mrBool c c2 c3 t6 t62 t63 t64 t65 t66 t67 t68 l l2 l3 l4 l5 l6 l7 l8 b4_ b5_ b6_ b7_)
 (zqbi (fun b0_ t69 t610 t611 t612 t613 t614 t615 t616 l9 l10 l11 l12 l13 l14 l15 l16 b3_ b4_2 b5_2 b6_2 =>
 k1 b0_ l9 l10 l11 l12 l13 l14 l15 l16 b5_2 b6_2) false mrBool c c2 c3 t6 t62 t63 t64 t65 t66 t67 t68 l l2 l3 l4 l5 l6 l7 l8 b4_ b5_ b6_ b7_))
def zqbl {β : Type} := hid (zqbk (β := β))
noncomputable def zqbm : Pb := ⟨63, zqba, fun _ => zqbl, pe (p := zqba) zqb4 [zqbj] 63 (g := fun _ => zqbk) (by kernel_rfl) fun _ _ => by kernel_rfl⟩
def zqbn {β : Type} (rec : zqbc β) (k1 : zqbb β) : zqbc β := fun i_ d c c2 c3 t6 t62 t63 t64 t65 t66 t67 t68 l l2 l3 l4 l5 l6 l7 l8 b4_ b5_ b6_ b7_ =>
 cond (decide ((0 : Int) < i_))
 (zq1g (List.length c2 : Int) d (fun rNext mrNext =>
 let l9 := ([rNext] : List Int);
 cond (decide ((List.length b6_ + List.length l9) * 8 ≤ Qa))
 (let l10 := (b6_ ++ l9);
 let i_2 := (IntKind.i64.wrap (i_ - (1 : Int)));
 rec i_2 mrNext c c2 c3 t6 t62 t63 t64 t65 t66 t67 t68 l l2 l3 l4 l5 l6 l7 l8 b4_ b5_ l10 b7_)
 none))
 (k1 d c c2 c3 t6 t62 t63 t64 t65 t66 t67 t68 l l2 l3 l4 l5 l6 l7 l8 b4_ b5_ b6_ b7_)
def zqbo (m : Nat) {β : Type} (k1 : zqbb β) : zqbc β := lp25 (fun r => zqbn r k1) none m
theorem zqbp {β : Type} (i : Nat) (k1) : zqbo (β := β) (i + 1) k1 = zqbn (zqbo i k1) k1 := rfl
def zqbq {β : Type} := hid (zqbo (β := β) fuel)
noncomputable def zqbr : Pb := ⟨122, zqbd, fun _ => zqbq, pl (p := zqbd) zqb4 [] (g := fun i _ => zqbo i) (by kernel_rfl) rfl (by kernel_rfl) (fun _ _ => rfl) fun _ _ _ _ => by kernel_rfl⟩
def zqbs {β : Type} (k1 : zqbe β) : zqbf β := fun d c c2 c3 t6 t62 t63 t64 t65 t66 t67 t68 l l2 l3 l4 l5 l6 l7 l8 b4_ b5_ b6_ b7_ =>
 zq1g (3 : Int) d (fun rNext mrNext =>
 let i_ := (IntKind.i64.wrap ((1 : Int) + rNext));
 zqbq (fun d2 c4 c5 c6 t69 t610 t611 t612 t613 t614 t615 t616 l9 l10 l11 l12 l13 l14 l15 l16 b4_2 b5_2 b6_2 b7_2 =>
 zq38 (2 : Int) d2 (fun rBool mrBool =>
 cond rBool
 (zq3l mrBool (fun mrWindows lrWindows =>
 zqbl (fun b0_ t617 t618 t619 t620 t621 t622 t623 t624 b2_ b3_ =>
 k1 b0_ t617 t618 t619 t620 t621 t622 t623 t624 b2_ b3_) mrWindows c4 c5 c6 t69 t610 t611 t612 t613 t614 t615 t616 l9 l10 l11 l12 l13 l14 l15 l16 b4_2 b5_2 b6_2 lrWindows))
 (zqbl (fun b0_ t617 t618 t619 t620 t621 t622 t623 t624 b2_ b3_ =>
 k1 b0_ t617 t618 t619 t620 t621 t622 t623 t624 b2_ b3_) mrBool c4 c5 c6 t69 t610 t611 t612 t613 t614 t615 t616 l9 l10 l11 l12 l13 l14 l15 l16 b4_2 b5_2 b6_2 b7_2))) i_ mrNext c c2 c3 t6 t62 t63 t64 t65 t66 t67 t68 l l2 l3 l4 l5 l6 l7 l8 b4_ b5_ b6_ b7_)
def zqbt {β : Type} := hid (zqbs (β := β))
noncomputable def zqbu : Pb := ⟨15, zqbg, fun _ => zqbt, pe (p := zqbg) zqb4 [zqbm, zqbr] 15 (g := fun _ => zqbs) (by kernel_rfl) fun _ _ => by kernel_rfl⟩
def zqbv : zqb3 := fun c c2 c3 name d k =>
 zq1g (List.length c : Int) d (fun rNext mrNext =>
 zq1g (6 : Int) mrNext (fun rNext2 mrNext2 =>
 let l := ([(0 : Int), (32400 : Int), (7200 : Int), (9000 : Int), (79200 : Int), (1 : Int)] : List Int);
 zq1o l mrNext2 (fun rPick mrPick =>
 zq1g (3 : Int) mrPick (fun rNext3 mrNext3 =>
 zq1g (2 : Int) mrNext3 (fun rNext4 mrNext4 =>
 cond (decide (rNext3 = (0 : Int)))
 (let l2 := ([(6 : Int), (8 : Int), (12 : Int), (24 : Int), (23 : Int), (49 : Int)] : List Int);
 zq1o l2 mrNext4 (fun rPick2 mrPick2 =>
 zqbt (fun b0_ t6 t62 t63 t64 t65 t66 t67 t68 b2_ b3_ =>
 k (t6, (t62, ((t63, t64), (t65, (t66, (b2_, (b3_, (t67, t68)))))))) b0_) mrPick2 c c2 c3 ([] : List UInt8) (0 : Int) (0 : Int) (0 : Int) (0 : Int) (0 : Int) (0 : Int) (0 : Int) name rNext (IntKind.i64.wrap ((IntKind.i64.wrap ((20454 : Int) + rNext2)) - (2 : Int))) rPick rNext3 rPick2 (0 : Int) (0 : Int) ([] : List Int) ([] : List t1y) ([] : List Int) ([] : List t1y)))
 (zqbt (fun b0_ t6 t62 t63 t64 t65 t66 t67 t68 b2_ b3_ =>
 k (t6, (t62, ((t63, t64), (t65, (t66, (b2_, (b3_, (t67, t68)))))))) b0_) mrNext4 c c2 c3 ([] : List UInt8) (0 : Int) (0 : Int) (0 : Int) (0 : Int) (0 : Int) (0 : Int) (0 : Int) name rNext (IntKind.i64.wrap ((IntKind.i64.wrap ((20454 : Int) + rNext2)) - (2 : Int))) rPick rNext3 (IntKind.i64.wrap ((1 : Int) + rNext4)) (0 : Int) (0 : Int) ([] : List Int) ([] : List t1y) ([] : List Int) ([] : List t1y)))))))
def zqbw : zqb3 := hid zqbv
noncomputable def zqbx : En := ⟨17, .spec (sg [v26y, v70y, v28y] [b23y] [v56y] [b23y] zqbw), pf zqb4 [zqbu] [.cell 6 60] Tryz.func17 (by kernel_rfl) fun _ _ => by kernel_rfl⟩
abbrev zqby := {β : Type} → t6y → t5y → t0y → t2y → (t7y → t2y → Option β) → Option β
noncomputable def zqbz : List En := [zq39, zq3q, zq1h, zq1p]
abbrev zqc0 (β : Type) := t2y → t7y → Option β
abbrev zqc1 (β : Type) := t2y → t7y → t7y → Option β
noncomputable def zqc2 : Pc := ⟨52, 1, Q8 63 (Q3 Tryz.f19), ⟨1, [0, 4, 6], [v26y, v33y, v37y], [b23y, b43y, b43y]⟩, [(.ret, ⟨1, [4], [v33y], [b23y, b43y]⟩)]⟩
def zqc3 {β : Type} (k1 : zqc0 β) : zqc1 β := fun d t4 x =>
 cond (decide (x.1 = (1 : Int)))
 (zq38 (4 : Int) d (fun rBool mrBool =>
 cond rBool
 (k1 mrBool (x.1, ((-1 : Int), x.2.2)))
 (k1 mrBool x)))
 (k1 d x)
def zqc4 {β : Type} := hid (zqc3 (β := β))
noncomputable def zqc5 : Pb := ⟨63, zqc2, fun _ => zqc4, pe (p := zqc2) zqbz [] 63 (g := fun _ => zqc3) (by kernel_rfl) fun _ _ => by kernel_rfl⟩
def zqc6 : zqby := fun c c2 c3 d k =>
 zq1g (3 : Int) d (fun rNext mrNext =>
 zq1g (List.length c2 : Int) mrNext (fun rNext2 mrNext2 =>
 zq3p mrNext2 (fun rInstant mrInstant =>
 let l := ([(3600 : Int), (86400 : Int), (7 : Int), (259200 : Int), (40000 : Int)] : List Int);
 zq1o l mrInstant (fun rPick mrPick =>
 cond (decide (rNext = (2 : Int)))
 (cond (decide ((List.length c2 : Int) < (2 : Int)))
 (k ((0 : Int), (rNext2, ((0 : Int), (rInstant, (IntKind.i64.wrap (rInstant + rPick)))))) mrPick)
 (zq1g (IntKind.i64.wrap ((List.length c2 : Int) - (1 : Int))) mrPick (fun rNext3 mrNext3 =>
 cond (!decide ((List.length c2 : Int) = 0))
 (zqc4 (fun b0_ t4 =>
 k t4 b0_) mrNext3 ((0 : Int), ((0 : Int), ((0 : Int), ((0 : Int), (0 : Int))))) (rNext, (rNext2, ((Int.tmod (IntKind.i64.wrap ((IntKind.i64.wrap (rNext2 + (1 : Int))) + rNext3)) (List.length c2 : Int)), (rInstant, (IntKind.i64.wrap (rInstant + rPick)))))))
 none)))
 (zqc4 (fun b0_ t4 =>
 k t4 b0_) mrPick ((0 : Int), ((0 : Int), ((0 : Int), ((0 : Int), (0 : Int))))) (rNext, (rNext2, ((0 : Int), (rInstant, (IntKind.i64.wrap (rInstant + rPick)))))))))))
def zqc7 : zqby := hid zqc6
noncomputable def zqc8 : En := ⟨19, .spec (sg [v26y, v70y] [b23y] [v53y] [b23y] zqc7), pf zqbz [zqc5] [.cell 4 64] Tryz.func19 (by kernel_rfl) fun _ _ => by kernel_rfl⟩
abbrev zqc9 := {β : Type} → zqa → zqa → (Bool → Option β) → Option β
def zqca : zqc9 := fun a b k =>
 cond (decide (a.1 = b.1))
 (cond (decide (a.2.1 = b.2.1))
 (zq42 a.2.2 b.2.2 (fun rYearRule =>
 k rYearRule))
 (k false))
 (k false)
def zqcb : zqc9 := hid zqca
noncomputable def zqcc : En := ⟨22, .spec (sg [v49y, v49y] [] [v25y] [] zqcb), pf [zq43] [] [.tmp 4] Tryz.func22 (by kernel_rfl) fun _ _ => by kernel_rfl⟩
abbrev zqcd := {β : Type} → zqe → zqe → (Bool → Option β) → Option β
def zqce : zqcd := fun a b k =>
 cond (decide (a.1 = b.1))
 (cond (decide (a.2.1 = b.2.1))
 (zq4f a.2.2.1 b.2.2.1 (fun rWindow =>
 cond rWindow
 (cond (decide (a.2.2.2.1 = b.2.2.2.1))
 (cond (decide (a.2.2.2.2.1 = b.2.2.2.2.1))
 (let t := (a.2.2.2.2.2 == b.2.2.2.2.2);
 k t)
 (k false))
 (k false))
 (k false)))
 (k false))
 (k false)
def zqcf : zqcd := hid zqce
noncomputable def zqcg : En := ⟨24, .spec (sg [v66y, v66y] [] [v25y] [] zqcf), pf [zq4g] [] [.tmp 4] Tryz.func24 (by kernel_rfl) fun _ _ => by kernel_rfl⟩
abbrev zqch := {β : Type} → zq0 → zq0 → (Bool → Option β) → Option β
def zqci : zqch := fun a b k =>
 cond (decide (a.1 = b.1))
 (cond (decide (a.2.1 = b.2.1))
 (zq4s a.2.2 b.2.2 (fun rEqualintint =>
 k rEqualintint))
 (k false))
 (k false)
def zqcj : zqch := hid zqci
noncomputable def zqck : En := ⟨26, .spec (sg [v61y, v61y] [] [v25y] [] zqcj), pf [zq4t] [] [.tmp 4] Tryz.func26 (by kernel_rfl) fun _ _ => by kernel_rfl⟩
abbrev zqcl := {β : Type} → zq4 → zq4 → (Bool → Option β) → Option β
noncomputable def zqcm : List En := [zq5e]
abbrev zqcn (β : Type) := Bool → Option β
abbrev zqco (β : Type) := zq4 → zq4 → Option β
abbrev zqcp (β : Type) := Int → zq4 → zq4 → Option β
noncomputable def zqcq : Pc := ⟨67, 0, Q8 58 (Q3 Tryz.f32), ⟨0, [2, 3, 5], [v26y, v33y, v22y], [b64y, b64y]⟩, [(.ret, ⟨0, [4], [v25y], []⟩), (.exit 0, ⟨0, [2, 3], [v26y, v33y], [b64y, b64y]⟩)]⟩
abbrev zqcr (β : Type) := Bool → Option β
abbrev zqcs (β : Type) := Unit → Option β
abbrev zqct (β : Type) := Int → zq4 → zq4 → Option β
noncomputable def zqcu : Pc := ⟨67, 0, Q8 122 (Q3 Tryz.f32), ⟨0, [2, 3, 6], [v26y, v33y, v22y], [b64y, b64y]⟩, [(.ret, ⟨0, [4], [v25y], []⟩), (.exit 2, ⟨0, [], [], []⟩)]⟩
def zqcv {β : Type} (rec : zqcp β) (k1 : zqcn β) (k2 : zqco β) : zqcp β := fun i_ a b =>
 cond (decide (i_ < (List.length a.2.1 : Int)))
 (cond (decide (0 ≤ i_) && decide (i_ < (List.length a.2.1 : Int)))
 (let e := List.getD a.2.1 (Int.toNat i_) (([] : List UInt8), ((0 : Int), (((0 : Int), (0 : Int)), ((0 : Int), ((0 : Int), (([] : List Int), (([] : List t1y), ((0 : Int), (0 : Int)))))))));
 cond (decide (0 ≤ i_) && decide (i_ < (List.length b.2.1 : Int)))
 (let e2 := List.getD b.2.1 (Int.toNat i_) (([] : List UInt8), ((0 : Int), (((0 : Int), (0 : Int)), ((0 : Int), ((0 : Int), (([] : List Int), (([] : List t1y), ((0 : Int), (0 : Int)))))))));
 zq5d e e2 (fun rsameLayer =>
 cond (!rsameLayer)
 (k1 false)
 (let i_2 := (IntKind.i64.wrap (i_ + (1 : Int)));
 rec i_2 a b)))
 none)
 none)
 (k2 a b)
def zqcw (m : Nat) {β : Type} (k1 : zqcn β) (k2 : zqco β) : zqcp β := lp3 (fun r => zqcv r k1 k2) none m
theorem zqcx {β : Type} (i : Nat) (k1 k2) : zqcw (β := β) (i + 1) k1 k2 = zqcv (zqcw i k1 k2) k1 k2 := rfl
def zqcy {β : Type} := hid (zqcw (β := β) fuel)
noncomputable def zqcz : Pb := ⟨58, zqcq, fun _ => zqcy, pl (p := zqcq) zqcm [] (g := fun i _ => zqcw i) (by kernel_rfl) rfl (by kernel_rfl) (fun _ _ => rfl) fun _ _ _ _ => by kernel_rfl⟩
def zqd0 {β : Type} (rec : zqct β) (k1 : zqcr β) (k2 : zqcs β) : zqct β := fun i_ a b =>
 cond (decide (i_ < (List.length a.2.2 : Int)))
 (cond (decide (0 ≤ i_) && decide (i_ < (List.length a.2.2 : Int)))
 (let e := List.getD a.2.2 (Int.toNat i_) ((0 : Int), ((0 : Int), ((0 : Int), ((0 : Int), (0 : Int)))));
 cond (decide (0 ≤ i_) && decide (i_ < (List.length b.2.2 : Int)))
 (let e2 := List.getD b.2.2 (Int.toNat i_) ((0 : Int), ((0 : Int), ((0 : Int), ((0 : Int), (0 : Int)))));
 cond (!(decide (e.1 = e2.1) && (decide (e.2.1 = e2.2.1) && (decide (e.2.2.1 = e2.2.2.1) && (decide (e.2.2.2.1 = e2.2.2.2.1) && (decide (e.2.2.2.2 = e2.2.2.2.2) && true))))))
 (k1 false)
 (let i_2 := (IntKind.i64.wrap (i_ + (1 : Int)));
 rec i_2 a b))
 none)
 none)
 (k2 ())
def zqd1 (m : Nat) {β : Type} (k1 : zqcr β) (k2 : zqcs β) : zqct β := lp3 (fun r => zqd0 r k1 k2) none m
theorem zqd2 {β : Type} (i : Nat) (k1 k2) : zqd1 (β := β) (i + 1) k1 k2 = zqd0 (zqd1 i k1 k2) k1 k2 := rfl
def zqd3 {β : Type} := hid (zqd1 (β := β) fuel)
noncomputable def zqd4 : Pb := ⟨122, zqcu, fun _ => zqd3, pl (p := zqcu) zqcm [] (g := fun i _ => zqd1 i) (by kernel_rfl) rfl (by kernel_rfl) (fun _ _ => rfl) fun _ _ _ _ => by kernel_rfl⟩
def zqd5 : zqcl := fun a b k =>
 cond (!decide (a.1 = b.1))
 (k false)
 (cond (!decide ((List.length a.2.1 : Int) = (List.length b.2.1 : Int)))
 (k false)
 (cond (!decide ((List.length a.2.2 : Int) = (List.length b.2.2 : Int)))
 (k false)
 (zqcy (fun t4 =>
 k t4) (fun a2 b2 =>
 zqd3 (fun t4 =>
 k t4) (fun _ =>
 k true) (0 : Int) a2 b2) (0 : Int) a b)))
def zqd6 : zqcl := hid zqd5
noncomputable def zqd7 : En := ⟨32, .spec (sg [v60y, v60y] [] [v25y] [] zqd6), pf zqcm [zqcz, zqd4] [.tmp 4] Tryz.func32 (by kernel_rfl) fun _ _ => by kernel_rfl⟩
noncomputable def zqd8 : En := .handf (Qz mixed (X := ⟨look tab, gam [zq2u], false, false, false, false, q90y, none, 100000, []⟩) Q4 [zq2u] rfl (ps := [v26y, v28y, v30y]) (is := l77y) (rs := []) (os := l77y) [] Tryz.func40 (by kernel_rfl)) rfl (by kernel_rfl)
noncomputable def zqd9 : En := .handf (Qz mixed (X := ⟨look tab, gam [zq6f, zqd8, zq6c], false, false, false, false, q90y, none, 100000, []⟩) Q4 [zq6f, zqd8, zq6c] rfl (ps := [v26y, v53y]) (is := l77y) (rs := []) (os := l77y) [] Tryz.func43 (by kernel_rfl)) rfl (by kernel_rfl)
noncomputable def zqda : En := .handf (Qz mixed (X := ⟨look tab, gam [zq68, zq67, zqd8], false, false, false, false, q90y, none, 100000, []⟩) Q4 [zq68, zq67, zqd8] rfl (ps := [v26y, v28y, v36y]) (is := l77y) (rs := []) (os := l77y) [] Tryz.func81 (by kernel_rfl)) rfl (by kernel_rfl)
abbrev zqdb := {β : Type} → t10y → (t10y → Bool → Option β) → Option β
noncomputable def zqdc : List En := [zq7c]
abbrev zqdd (β : Type) := t10y → t10y → Option β
abbrev zqde (β : Type) := t10y → t10y → Int → Int → (List t3y) → Option β
noncomputable def zqdf : Pc := ⟨55, 0, Q8 122 (Q3 Tryz.f92), ⟨0, [0, 4, 13, 14, 15], [v30y, v30y, v39y, v22y, v22y], [.row 9 .str]⟩, [(.exit 0, ⟨0, [0, 4], [v30y, v30y], []⟩)]⟩
def zqdg {β : Type} (rec : zqde β) (k1 : zqdd β) : zqde β := fun l rest t14 t15 t13 =>
 cond (decide (t15 < t14))
 (cond (decide (0 ≤ t15) && decide (t15 < (List.length t13 : Int)))
 (let s := (List.getD t13 (Int.toNat t15) ([] : List UInt8));
 cond (decide ((2 : Int) ≤ (List.length rest : Int)))
 (cond (decide (0 ≤ (0 : Int)) && decide ((0 : Int) < (List.length rest : Int)))
 (let e := List.getD rest (Int.toNat (0 : Int)) ((0 : Int), (([] : List UInt8), (0 : Int)));
 zq7b e s (fun rword =>
 cond rword
 (cond (decide (0 ≤ (1 : Int)) && decide ((1 : Int) < (List.length rest : Int)))
 (let e2 := List.getD rest (Int.toNat (1 : Int)) ((0 : Int), (([] : List UInt8), (0 : Int)));
 cond (decide (e2.1 = (1 : Int)))
 (cond (decide (0 ≤ (2 : Int)) && (decide ((2 : Int) ≤ (List.length rest : Int)) && decide ((List.length rest : Int) ≤ (List.length rest : Int))))
 (let rest2 := (List.drop (Int.toNat (2 : Int)) (List.take (Int.toNat (List.length rest : Int)) rest));
 rec l rest2 t14 (IntKind.i64.wrap (t15 + (1 : Int))) t13)
 none)
 (rec l rest t14 (IntKind.i64.wrap (t15 + (1 : Int))) t13))
 none)
 (rec l rest t14 (IntKind.i64.wrap (t15 + (1 : Int))) t13)))
 none)
 (rec l rest t14 (IntKind.i64.wrap (t15 + (1 : Int))) t13))
 none)
 (k1 l rest)
def zqdh (m : Nat) {β : Type} (k1 : zqdd β) : zqde β := lp5 (fun r => zqdg r k1) none m
theorem zqdi {β : Type} (i : Nat) (k1) : zqdh (β := β) (i + 1) k1 = zqdg (zqdh i k1) k1 := rfl
def zqdj {β : Type} := hid (zqdh (β := β) fuel)
noncomputable def zqdk : Pb := ⟨122, zqdf, fun _ => zqdj, pl (p := zqdf) zqdc [] (g := fun i _ => zqdh i) (by kernel_rfl) rfl (by kernel_rfl) (fun _ _ => rfl) fun _ _ _ _ => by kernel_rfl⟩
def zqdl : zqdb := fun l k =>
 cond (decide ((List.length l : Int) < (3 : Int)))
 (k l false)
 (cond (decide (0 ≤ (3 : Int)) && (decide ((3 : Int) ≤ (List.length l : Int)) && decide ((List.length l : Int) ≤ (List.length l : Int))))
 (let rest := (List.drop (Int.toNat (3 : Int)) (List.take (Int.toNat (List.length l : Int)) l));
 let l2 := ([([119, 101, 101, 107] : List UInt8), ([114, 101, 115, 116] : List UInt8)] : List t3y);
 zqdj (fun l3 rest2 =>
 cond (decide ((0 : Int) < (List.length rest2 : Int)))
 (cond (decide (0 ≤ (0 : Int)) && decide ((0 : Int) < (List.length rest2 : Int)))
 (let e := List.getD rest2 (Int.toNat (0 : Int)) ((0 : Int), (([] : List UInt8), (0 : Int)));
 zq7b e ([99, 111, 110, 115, 101, 110, 116] : List UInt8) (fun rword =>
 cond rword
 (cond (decide (0 ≤ (1 : Int)) && (decide ((1 : Int) ≤ (List.length rest2 : Int)) && decide ((List.length rest2 : Int) ≤ (List.length rest2 : Int))))
 (let rest3 := (List.drop (Int.toNat (1 : Int)) (List.take (Int.toNat (List.length rest2 : Int)) rest2));
 cond (decide (0 ≤ (0 : Int)) && (decide ((0 : Int) ≤ (3 : Int)) && decide ((3 : Int) ≤ (List.length l3 : Int))))
 (let t := (List.drop (Int.toNat (0 : Int)) (List.take (Int.toNat (3 : Int)) l3));
 let t2 := (decide ((List.length rest3 : Int) = (0 : Int)));
 k t t2)
 none)
 none)
 (cond (decide (0 ≤ (0 : Int)) && (decide ((0 : Int) ≤ (3 : Int)) && decide ((3 : Int) ≤ (List.length l3 : Int))))
 (let t := (List.drop (Int.toNat (0 : Int)) (List.take (Int.toNat (3 : Int)) l3));
 let t2 := (decide ((List.length rest2 : Int) = (0 : Int)));
 k t t2)
 none)))
 none)
 (cond (decide (0 ≤ (0 : Int)) && (decide ((0 : Int) ≤ (3 : Int)) && decide ((3 : Int) ≤ (List.length l3 : Int))))
 (let t := (List.drop (Int.toNat (0 : Int)) (List.take (Int.toNat (3 : Int)) l3));
 let t2 := (decide ((List.length rest2 : Int) = (0 : Int)));
 k t t2)
 none)) l rest (List.length l2 : Int) (0 : Int) l2)
 none)
def zqdm : zqdb := hid zqdl
noncomputable def zqdn : En := ⟨92, .spec (sg [v30y] [] [v30y, v25y] [] zqdm), pf zqdc [zqdk] [.tmp 2, .tmp 3] Tryz.func92 (by kernel_rfl) fun _ _ => by kernel_rfl⟩
noncomputable def zqdo : En := .hand (Qz mixed (X := ⟨look tab, gam [zq7r, zq7s], false, false, false, false, q89y, none, 100000, []⟩) Q4 [zq7r, zq7s] rfl (ps := [v26y, v30y]) (is := l73y) (rs := [v22y]) (os := l73y) [.tmp 4] Tryz.func98 (by kernel_rfl)) rfl (by kernel_rfl)
abbrev zqdp := {β : Type} → t3y → (Bool → Option β) → Option β
noncomputable def zqdq : List En := [zq8h, zq8d]
abbrev zqdr (β : Type) := Bool → Option β
abbrev zqds (β : Type) := Unit → Option β
abbrev zqdt (β : Type) := t3y → Int → Int → Option β
noncomputable def zqdu : Pc := ⟨43, 0, Q8 58 (Q3 Tryz.f111), ⟨0, [0, 19, 20], [v28y, v22y, v22y], []⟩, [(.ret, ⟨0, [2], [v25y], []⟩), (.exit 0, ⟨0, [], [], []⟩)]⟩
def zqdv {β : Type} (rec : zqdt β) (k1 : zqdr β) (k2 : zqds β) : zqdt β := fun s t19 t20 =>
 cond (decide (t20 < t19))
 (cond (decide (0 ≤ t20) && decide (t20 < (List.length s : Int)))
 (let c := ((List.getD s (Int.toNat t20) 0).toNat : Int);
 zq8c c (fun rsmall =>
 cond (!rsmall)
 (zq8g c (fun rdigit =>
 cond (!rdigit)
 (cond (!decide (c = (95 : Int)))
 (cond (!decide (c = (45 : Int)))
 (k1 false)
 (rec s t19 (IntKind.i64.wrap (t20 + (1 : Int)))))
 (rec s t19 (IntKind.i64.wrap (t20 + (1 : Int)))))
 (rec s t19 (IntKind.i64.wrap (t20 + (1 : Int))))))
 (rec s t19 (IntKind.i64.wrap (t20 + (1 : Int))))))
 none)
 (k2 ())
def zqdw (m : Nat) {β : Type} (k1 : zqdr β) (k2 : zqds β) : zqdt β := lp3 (fun r => zqdv r k1 k2) none m
theorem zqdx {β : Type} (i : Nat) (k1 k2) : zqdw (β := β) (i + 1) k1 k2 = zqdv (zqdw i k1 k2) k1 k2 := rfl
def zqdy {β : Type} := hid (zqdw (β := β) fuel)
noncomputable def zqdz : Pb := ⟨58, zqdu, fun _ => zqdy, pl (p := zqdu) zqdq [] (g := fun i _ => zqdw i) (by kernel_rfl) rfl (by kernel_rfl) (fun _ _ => rfl) fun _ _ _ _ => by kernel_rfl⟩
def zqe0 : zqdp := fun s k =>
 cond (decide (s = ([] : List UInt8)))
 (k false)
 (cond (decide ((24 : Int) < (List.length s : Int)))
 (k false)
 (cond (decide (0 ≤ (0 : Int)) && decide ((0 : Int) < (List.length s : Int)))
 (zq8c ((List.getD s (Int.toNat (0 : Int)) 0).toNat : Int) (fun rsmall =>
 cond (!rsmall)
 (k false)
 (zqdy (fun t2 =>
 k t2) (fun _ =>
 k true) s (List.length s : Int) (0 : Int))))
 none))
def zqe1 : zqdp := hid zqe0
noncomputable def zqe2 : En := ⟨111, .spec (sg [v28y] [] [v25y] [] zqe1), pf zqdq [zqdz] [.tmp 2] Tryz.func111 (by kernel_rfl) fun _ _ => by kernel_rfl⟩
noncomputable def zqe3 : En := au [zq8i] [v22y] [] [v25y] [] [.tmp 2] Tryz.func114 (by kernel_rfl)
abbrev zqe4 := {β : Type} → t3y → (Int → Bool → Option β) → Option β
def zqe5 : zqe4 := fun word k =>
 zq8t ([106, 97, 110, 32, 102, 101, 98, 32, 109, 97, 114, 32, 97, 112, 114, 32, 109, 97, 121, 32, 106, 117, 110, 32, 106, 117, 108, 32, 97, 117, 103, 32, 115, 101, 112, 32, 111, 99, 116, 32, 110, 111, 118, 32, 100, 101, 99] : List UInt8) word (fun rindex rindex2 =>
 k rindex rindex2)
def zqe6 : zqe4 := hid zqe5
noncomputable def zqe7 : En := ⟨134, .spec (sg [v28y] [] [v22y, v25y] [] zqe6), pf [zq8u] [] [.tmp 2, .tmp 3] Tryz.func134 (by kernel_rfl) fun _ _ => by kernel_rfl⟩
abbrev zqe8 := {β : Type} → t3y → (Int → Bool → Option β) → Option β
def zqe9 : zqe8 := fun word k =>
 zq8t ([102, 105, 114, 115, 116, 32, 115, 101, 99, 111, 110, 100, 32, 116, 104, 105, 114, 100, 32, 102, 111, 117, 114, 116, 104, 32, 108, 97, 115, 116] : List UInt8) word (fun rindex rindex2 =>
 k rindex rindex2)
def zqea : zqe8 := hid zqe9
noncomputable def zqeb : En := ⟨135, .spec (sg [v28y] [] [v22y, v25y] [] zqea), pf [zq8u] [] [.tmp 2, .tmp 3] Tryz.func135 (by kernel_rfl) fun _ _ => by kernel_rfl⟩
abbrev zqec := {β : Type} → t3y → (Int → Bool → Option β) → Option β
def zqed : zqec := fun word k =>
 zq8t ([109, 111, 110, 32, 116, 117, 101, 32, 119, 101, 100, 32, 116, 104, 117, 32, 102, 114, 105, 32, 115, 97, 116, 32, 115, 117, 110] : List UInt8) word (fun rindex rindex2 =>
 let t := (if (IntKind.i64.wrap (rindex - (1 : Int))) > (0 : Int) then (IntKind.i64.wrap (rindex - (1 : Int))) else (0 : Int));
 k t rindex2)
def zqee : zqec := hid zqed
noncomputable def zqef : En := ⟨136, .spec (sg [v28y] [] [v22y, v25y] [] zqee), pf [zq8u] [] [.tmp 2, .tmp 3] Tryz.func136 (by kernel_rfl) fun _ _ => by kernel_rfl⟩
noncomputable def zqeg : En := au [zqef] [v30y] [] [(true, [.data (.prod (.int .i64) (.int .i64))]), v22y] [] [.cell 2 73, .tmp 3] Tryz.func141 (by kernel_rfl)
abbrev zqeh := {β : Type} → t3y → (Int → Bool → Option β) → Option β
noncomputable def zqei : List En := [zq8h, zq9i]
abbrev zqej (β : Type) := Int → Bool → Option β
abbrev zqek (β : Type) := t3y → Option β
abbrev zqel (β : Type) := t3y → Int → Int → Option β
noncomputable def zqem : Pc := ⟨31, 0, Q8 26 (Q3 Tryz.f174), ⟨0, [0, 8, 9], [v28y, v22y, v22y], []⟩, [(.ret, ⟨0, [2, 3], [v22y, v25y], []⟩), (.exit 0, ⟨0, [0], [v28y], []⟩)]⟩
def zqen {β : Type} (rec : zqel β) (k1 : zqej β) (k2 : zqek β) : zqel β := fun s t8 t9 =>
 cond (decide (t9 < t8))
 (cond (decide (0 ≤ t9) && decide (t9 < (List.length s : Int)))
 (zq8g ((List.getD s (Int.toNat t9) 0).toNat : Int) (fun rdigit =>
 cond (!rdigit)
 (k1 (0 : Int) false)
 (rec s t8 (IntKind.i64.wrap (t9 + (1 : Int))))))
 none)
 (k2 s)
def zqeo (m : Nat) {β : Type} (k1 : zqej β) (k2 : zqek β) : zqel β := lp3 (fun r => zqen r k1 k2) none m
theorem zqep {β : Type} (i : Nat) (k1 k2) : zqeo (β := β) (i + 1) k1 k2 = zqen (zqeo i k1 k2) k1 k2 := rfl
def zqeq {β : Type} := hid (zqeo (β := β) fuel)
noncomputable def zqer : Pb := ⟨26, zqem, fun _ => zqeq, pl (p := zqem) zqei [] (g := fun i _ => zqeo i) (by kernel_rfl) rfl (by kernel_rfl) (fun _ _ => rfl) fun _ _ _ _ => by kernel_rfl⟩
def zqes : zqeh := fun s k =>
 zqeq (fun t2 t3 =>
 k t2 t3) (fun s2 =>
 zq9g s2 (fun rAtoi rAtoi2 =>
 cond rAtoi2
 (let t := (decide ((List.length s2 : Int) ≤ (9 : Int)));
 k rAtoi t)
 (k rAtoi false))) s (List.length s : Int) (0 : Int)
def zqet : zqeh := hid zqes
noncomputable def zqeu : En := ⟨174, .spec (sg [v28y] [] [v22y, v25y] [] zqet), pf zqei [zqer] [.tmp 2, .tmp 3] Tryz.func174 (by kernel_rfl) fun _ _ => by kernel_rfl⟩
noncomputable def zqev : En := au [zq9m] [v22y] [] [v22y] [] [.tmp 2] Tryz.func189 (by kernel_rfl)
noncomputable def zqew : En := au [zqev, zq9m] [v22y] [] [v22y] [] [.tmp 2] Tryz.func190 (by kernel_rfl)
noncomputable def zqex : En := au [zq9n] [v22y, v22y] [] [v22y] [] [.tmp 4] Tryz.func191 (by kernel_rfl)
abbrev zqey := {β : Type} → t3y → (Int → Bool → Option β) → Option β
def zqez : zqey := fun s k =>
 zqet s (fun rnumber rnumber2 =>
 cond rnumber2
 (let t := (decide ((List.length s : Int) = (2 : Int)));
 k rnumber t)
 (k rnumber false))
def zqf0 : zqey := hid zqez
noncomputable def zqf1 : En := ⟨199, .spec (sg [v28y] [] [v22y, v25y] [] zqf0), pf [zqeu] [] [.tmp 2, .tmp 3] Tryz.func199 (by kernel_rfl) fun _ _ => by kernel_rfl⟩
abbrev zqf2 := {β : Type} → Int → Int → (t3y → Option β) → Option β
def zqf3 : zqf2 := fun x n k =>
 zq97 x (fun rItoa =>
 zq9s ([48] : List UInt8) (if (IntKind.i64.wrap (n - (List.length rItoa : Int))) > (0 : Int) then (IntKind.i64.wrap (n - (List.length rItoa : Int))) else (0 : Int)) (fun rRepeat =>
 cond (decide (List.length rRepeat + List.length rItoa ≤ 9223372036854775807))
 (k (rRepeat ++ rItoa))
 none))
def zqf4 : zqf2 := hid zqf3
noncomputable def zqf5 : En := ⟨209, .spec (sg [v22y, v22y] [] [v28y] [] zqf4), pf [zq99, zq9u] [] [.tmp 4] Tryz.func209 (by kernel_rfl) fun _ _ => by kernel_rfl⟩
noncomputable def zqf6 : En := au [zqex] [v44y] [] [v25y] [] [.tmp 2] Tryz.func219 (by kernel_rfl)
noncomputable def zqf7 : En := au [zqex, zqev] [v44y] [] [v22y] [] [.tmp 2] Tryz.func220 (by kernel_rfl)
abbrev zqf8 := {β : Type} → t6y → t6y → (Bool → Option β) → Option β
noncomputable def zqf9 : List En := [zqcc]
abbrev zqfa (β : Type) := Bool → Option β
abbrev zqfb (β : Type) := Unit → Option β
abbrev zqfc (β : Type) := t6y → t6y → Int → Int → Option β
noncomputable def zqfd : Pc := ⟨32, 0, Q8 58 (Q3 Tryz.f21), ⟨0, [1, 2, 15, 16, 17], [v54y, (false, [.fn 22 []]), v54y, v22y, v22y], []⟩, [(.ret, ⟨0, [6], [v25y], []⟩), (.exit 0, ⟨0, [], [], []⟩)]⟩
def zqfe {β : Type} (rec : zqfc β) (k1 : zqfa β) (k2 : zqfb β) : zqfc β := fun s2 t15 t16 t17 =>
 cond (decide (t17 < t16))
 (cond (decide (0 ≤ t17) && decide (t17 < (List.length t15 : Int)))
 (let e := List.getD t15 (Int.toNat t17) (([] : List UInt8), ((0 : Int), ([] : List zq8)));
 cond (decide (0 ≤ t17) && decide (t17 < (List.length s2 : Int)))
 (let e2 := List.getD s2 (Int.toNat t17) (([] : List UInt8), ((0 : Int), ([] : List zq8)));
 zqcb e e2 (fun rsameZone =>
 cond (!rsameZone)
 (k1 false)
 (rec s2 t15 t16 (IntKind.i64.wrap (t17 + (1 : Int))))))
 none)
 none)
 (k2 ())
def zqff (m : Nat) {β : Type} (k1 : zqfa β) (k2 : zqfb β) : zqfc β := lp4 (fun r => zqfe r k1 k2) none m
theorem zqfg {β : Type} (i : Nat) (k1 k2) : zqff (β := β) (i + 1) k1 k2 = zqfe (zqff i k1 k2) k1 k2 := rfl
def zqfh {β : Type} := hid (zqff (β := β) fuel)
noncomputable def zqfi : Pb := ⟨58, zqfd, fun _ => zqfh, pl (p := zqfd) zqf9 [] (g := fun i _ => zqff i) (by kernel_rfl) rfl (by kernel_rfl) (fun _ _ => rfl) fun _ _ _ _ => by kernel_rfl⟩
def zqfj : zqf8 := fun s1 s2 k =>
 cond (!decide ((List.length s1 : Int) = (List.length s2 : Int)))
 (k false)
 (zqfh (fun t6 =>
 k t6) (fun _ =>
 k true) s2 s1 (List.length s1 : Int) (0 : Int))
def zqfk : zqf8 := hid zqfj
noncomputable def zqfl : En := ⟨21, .spec (sg [v54y, v54y, (false, [.fn 22 []])] [] [v25y] [] zqfk), pf zqf9 [zqfi] [.tmp 6] Tryz.func21 (by kernel_rfl) fun _ _ => by kernel_rfl⟩
abbrev zqfm := {β : Type} → t14y → t14y → (Bool → Option β) → Option β
noncomputable def zqfn : List En := [zq4x]
abbrev zqfo (β : Type) := Bool → Option β
abbrev zqfp (β : Type) := Unit → Option β
abbrev zqfq (β : Type) := t14y → t14y → Int → Int → Option β
noncomputable def zqfr : Pc := ⟨32, 0, Q8 58 (Q3 Tryz.f51), ⟨0, [1, 2, 15, 16, 17], [v65y, (false, [.fn 52 []]), v65y, v22y, v22y], []⟩, [(.ret, ⟨0, [6], [v25y], []⟩), (.exit 0, ⟨0, [], [], []⟩)]⟩
def zqfs {β : Type} (rec : zqfq β) (k1 : zqfo β) (k2 : zqfp β) : zqfq β := fun s2 t15 t16 t17 =>
 cond (decide (t17 < t16))
 (cond (decide (0 ≤ t17) && decide (t17 < (List.length t15 : Int)))
 (let e := List.getD t15 (Int.toNat t17) (([] : List UInt8), ((0 : Int), (((0 : Int), (0 : Int)), ((0 : Int), ((0 : Int), (([] : List Int), (([] : List t1y), ((0 : Int), (0 : Int)))))))));
 cond (decide (0 ≤ t17) && decide (t17 < (List.length s2 : Int)))
 (let e2 := List.getD s2 (Int.toNat t17) (([] : List UInt8), ((0 : Int), (((0 : Int), (0 : Int)), ((0 : Int), ((0 : Int), (([] : List Int), (([] : List t1y), ((0 : Int), (0 : Int)))))))));
 zq4w e e2 (fun rsameLayer =>
 cond (!rsameLayer)
 (k1 false)
 (rec s2 t15 t16 (IntKind.i64.wrap (t17 + (1 : Int))))))
 none)
 none)
 (k2 ())
def zqft (m : Nat) {β : Type} (k1 : zqfo β) (k2 : zqfp β) : zqfq β := lp4 (fun r => zqfs r k1 k2) none m
theorem zqfu {β : Type} (i : Nat) (k1 k2) : zqft (β := β) (i + 1) k1 k2 = zqfs (zqft i k1 k2) k1 k2 := rfl
def zqfv {β : Type} := hid (zqft (β := β) fuel)
noncomputable def zqfw : Pb := ⟨58, zqfr, fun _ => zqfv, pl (p := zqfr) zqfn [] (g := fun i _ => zqft i) (by kernel_rfl) rfl (by kernel_rfl) (fun _ _ => rfl) fun _ _ _ _ => by kernel_rfl⟩
def zqfx : zqfm := fun s1 s2 k =>
 cond (!decide ((List.length s1 : Int) = (List.length s2 : Int)))
 (k false)
 (zqfv (fun t6 =>
 k t6) (fun _ =>
 k true) s2 s1 (List.length s1 : Int) (0 : Int))
def zqfy : zqfm := hid zqfx
noncomputable def zqfz : En := ⟨51, .spec (sg [v65y, v65y, (false, [.fn 52 []])] [] [v25y] [] zqfy), pf zqfn [zqfw] [.tmp 6] Tryz.func51 (by kernel_rfl) fun _ _ => by kernel_rfl⟩
abbrev zqg0 := {β : Type} → (List zqc) → t3y → (Int → t3y → Option β) → Option β
noncomputable def zqg1 : zqg0 := Q28 ⟨look tab, gam [zq78], false, false, false, false, [], none, 100000, []⟩ Tryz.f131 [(false, [.data (.slice zqd)]), (false, [.fn 132 [0]])] [b47y] [v22y] [b47y] [.tmp 4]
noncomputable def zqg2 : En := ⟨131, .spec (sg [(false, [.data (.slice zqd)]), (false, [.fn 132 [0]])] [b47y] [v22y] [b47y] zqg1), (Q1c mixed (X := ⟨look tab, gam [zq78], false, false, false, false, [], none, 100000, []⟩) Q4 [zq78] rfl [.tmp 4] Tryz.func131 (by kernel_rfl)).spec⟩
abbrev zqg3 := {β : Type} → Int → t2y → (zqg → t2y → Option β) → Option β
noncomputable def zqg4 : List En := [zqc8, zqbx, zq1h, zqb2, zq1l]
abbrev zqg5 (β : Type) := t2y → t6y → t5y → t0y → t6y → t5y → t0y → t4y → t4y → Option β
abbrev zqg6 (β : Type) := Int → t2y → t6y → t5y → t0y → t6y → t5y → t0y → t4y → t4y → Option β
noncomputable def zqg7 : Pc := ⟨69, 1, Q8 58 (Q3 Tryz.f7), ⟨1, [0, 4, 5, 6], [v26y, v33y, v37y, v22y], l81y⟩, [(.exit 0, ⟨1, [4, 5], [v33y, v37y], l81y⟩)]⟩
abbrev zqg8 (β : Type) := Int → t2y → t6y → t5y → t0y → t3y → t6y → t5y → t0y → t4y → t4y → t14y → (List t7y) → Option β
abbrev zqg9 (β : Type) := Int → Int → t2y → t6y → t5y → t0y → t3y → t6y → t5y → t0y → t4y → t4y → t14y → (List t7y) → Option β
noncomputable def zqga : Pc := ⟨69, 1, Q8 202 (Q1e zqg7.c), ⟨1, [0, 4, 5, 6, 7, 8], [v26y, v33y, v37y, v22y, v59y, v22y], l75y⟩, [(.exit 2, ⟨1, [0, 4, 5, 6, 7], [v26y, v33y, v37y, v22y, v59y], l75y⟩)]⟩
abbrev zqgb (β : Type) := Int → t2y → t6y → t5y → t0y → t3y → t6y → t5y → t0y → t4y → t4y → t14y → (List t7y) → Option β
abbrev zqgc (β : Type) := Int → Int → t2y → t6y → t5y → t0y → t3y → t6y → t5y → t0y → t4y → t4y → t14y → (List t7y) → Option β
noncomputable def zqgd : Pc := ⟨69, 1, Q8 410 (Q1e zqg7.c), ⟨1, [0, 4, 5, 6, 7, 9], [v26y, v33y, v37y, v22y, v59y, v22y], l75y⟩, [(.exit 4, ⟨1, [0, 4, 5, 6, 7], [v26y, v33y, v37y, v22y, v59y], l75y⟩)]⟩
def zqge {β : Type} (rec : zqg9 β) (k1 : zqg8 β) : zqg9 β := fun i_ k_ d c c2 c3 s b4_ b5_ b6_ b7_ b8_ b9_ b10_ =>
 cond (decide ((0 : Int) < k_))
 (zq1k  (fun lrnames =>
 cond (decide (0 ≤ (List.length b9_ : Int)) && decide ((List.length b9_ : Int) < (List.length lrnames : Int)))
 (zqbw c c2 c3 (List.getD lrnames (Int.toNat (List.length b9_ : Int)) ([] : List UInt8)) d (fun rLayer mrLayer =>
 let l := ([rLayer] : List zq2);
 cond (decide ((List.length b9_ + List.length l) * 120 ≤ Qa))
 (let l2 := (b9_ ++ l);
 let k_2 := (IntKind.i64.wrap (k_ - (1 : Int)));
 rec i_ k_2 mrLayer c c2 c3 s b4_ b5_ b6_ b7_ b8_ l2 b10_)
 none))
 none))
 (k1 i_ d c c2 c3 s b4_ b5_ b6_ b7_ b8_ b9_ b10_)
def zqgf (m : Nat) {β : Type} (k1 : zqg8 β) : zqg9 β := lp14 (fun r => zqge r k1) none m
theorem zqgg {β : Type} (i : Nat) (k1) : zqgf (β := β) (i + 1) k1 = zqge (zqgf i k1) k1 := rfl
def zqgh {β : Type} := hid (zqgf (β := β) fuel)
noncomputable def zqgi : Pb := ⟨202, zqga, fun _ => zqgh, pl (p := zqga) zqg4 [] (g := fun i _ => zqgf i) (by kernel_rfl) rfl (by kernel_rfl) (fun _ _ => rfl) fun _ _ _ _ => by kernel_rfl⟩
def zqgj {β : Type} (rec : zqgc β) (k1 : zqgb β) : zqgc β := fun i_ k_ d c c2 c3 s b4_ b5_ b6_ b7_ b8_ b9_ b10_ =>
 cond (decide ((0 : Int) < k_))
 (zqc7 c c2 c3 d (fun rEdit mrEdit =>
 let l := ([rEdit] : List t7y);
 cond (decide ((List.length b10_ + List.length l) * 40 ≤ Qa))
 (let l2 := (b10_ ++ l);
 let k_2 := (IntKind.i64.wrap (k_ - (1 : Int)));
 rec i_ k_2 mrEdit c c2 c3 s b4_ b5_ b6_ b7_ b8_ b9_ l2)
 none))
 (k1 i_ d c c2 c3 s b4_ b5_ b6_ b7_ b8_ b9_ b10_)
def zqgk (m : Nat) {β : Type} (k1 : zqgb β) : zqgc β := lp14 (fun r => zqgj r k1) none m
theorem zqgl {β : Type} (i : Nat) (k1) : zqgk (β := β) (i + 1) k1 = zqgj (zqgk i k1) k1 := rfl
def zqgm {β : Type} := hid (zqgk (β := β) fuel)
noncomputable def zqgn : Pb := ⟨410, zqgd, fun _ => zqgm, pl (p := zqgd) zqg4 [] (g := fun i _ => zqgk i) (by kernel_rfl) rfl (by kernel_rfl) (fun _ _ => rfl) fun _ _ _ _ => by kernel_rfl⟩
def zqgo {β : Type} (rec : zqg6 β) (k1 : zqg5 β) : zqg6 β := fun i_ d c c2 c3 b3_ b4_ b5_ b6_ b7_ =>
 cond (decide ((0 : Int) < i_))
 (let l := ([([102, 105, 114, 115, 116] : List UInt8), ([115, 101, 99, 111, 110, 100] : List UInt8), ([116, 104, 105, 114, 100] : List UInt8)] : List t3y);
 cond (decide (0 ≤ (Int.tmod (List.length b7_ : Int) (3 : Int))) && decide ((Int.tmod (List.length b7_ : Int) (3 : Int)) < (List.length l : Int)))
 (zq1g (4 : Int) d (fun rNext mrNext =>
 zqgh (fun i_2 d2 c4 c5 c6 s b4_2 b5_2 b6_2 b7_2 b8_ b9_ b10_ =>
 zq1g (4 : Int) d2 (fun rNext2 mrNext2 =>
 zqgm (fun i_3 d3 c7 c8 c9 s2 b4_3 b5_3 b6_3 b7_3 b8_2 b9_2 b10_2 =>
 let l2 := ([(s2, (b9_2, b10_2))] : List zq4);
 cond (decide ((List.length b8_2 + List.length l2) * 64 ≤ Qa))
 (let l3 := (b8_2 ++ l2);
 let i_4 := (IntKind.i64.wrap (i_3 - (1 : Int)));
 rec i_4 d3 c7 c8 c9 b4_3 b5_3 b6_3 b7_3 l3)
 none) i_2 rNext2 mrNext2 c4 c5 c6 s b4_2 b5_2 b6_2 b7_2 b8_ b9_ b10_)) i_ rNext mrNext c c2 c3 (List.getD l (Int.toNat (Int.tmod (List.length b7_ : Int) (3 : Int))) ([] : List UInt8)) b3_ b4_ b5_ b6_ b7_ ([] : List zq2) ([] : List t7y)))
 none)
 (k1 d c c2 c3 b3_ b4_ b5_ b6_ b7_)
def zqgp (m : Nat) {β : Type} (k1 : zqg5 β) : zqg6 β := lp10 (fun r => zqgo r k1) none m
theorem zqgq {β : Type} (i : Nat) (k1) : zqgp (β := β) (i + 1) k1 = zqgo (zqgp i k1) k1 := rfl
def zqgr {β : Type} := hid (zqgp (β := β) fuel)
noncomputable def zqgs : Pb := ⟨58, zqg7, fun _ => zqgr, pl (p := zqg7) zqg4 [zqgi, zqgn] (g := fun i _ => zqgp i) (by kernel_rfl) rfl (by kernel_rfl) (fun _ _ => rfl) fun _ _ _ _ => by kernel_rfl⟩
def zqgt : zqg3 := fun n d k =>
 zqb1 d (fun rStaff rStaff2 rStaff3 mrStaff lrStaff =>
 zq1g n mrStaff (fun rNext mrNext =>
 let i_ := (IntKind.i64.wrap ((1 : Int) + rNext));
 zqgr (fun b0_ c c2 c3 b3_ b4_ b5_ b6_ b7_ =>
 k (c, (c2, (c3, b7_))) b0_) i_ mrNext rStaff rStaff2 rStaff3 ([] : List zqa) ([] : List zqe) ([] : List zq0) ([] : List zq4) lrStaff))
def zqgu : zqg3 := hid zqgt
noncomputable def zqgv : En := ⟨7, .spec (sg [v26y, v22y] [b23y] [v35y] [b23y] zqgu), pf zqg4 [zqgs] [.cell 4 28] Tryz.func7 (by kernel_rfl) fun _ _ => by kernel_rfl⟩
abbrev zqgw := {β : Type} → zqg → t2y → (zqg → t2y → Option β) → Option β
noncomputable def zqgx : List En := [zq1d, zqc8, zq1h, zq1p]
abbrev zqgy (β : Type) := t2y → zqg → t6y → t5y → t0y → t4y → Option β
abbrev zqgz (β : Type) := Nat → t2y → zqg → t6y → t5y → t0y → t4y → t7y → Option β
noncomputable def zqh0 : Pc := ⟨289, 1, Q8 30932991 (Q3 Tryz.f8), ⟨1, [4, 5, 8, 9], [v33y, v37y, (false, [.tptrh 3 [] 0]), (false, [.ptr 4 0])], [b23y, b29y, b52y, .tree 55 o20y, b43y]⟩, [(.normal, ⟨1, [4, 5], [v33y, v37y], [b23y, b29y, b52y, .tree 55 o20y]⟩)]⟩
abbrev zqh1 (β : Type) := t2y → zqg → t6y → t5y → t0y → t4y → Option β
abbrev zqh2 (β : Type) := t2y → zqg → t6y → t5y → t0y → t4y → Option β
abbrev zqh3 (β : Type) := Bool → t2y → zqg → t6y → t5y → t0y → t4y → Option β
noncomputable def zqh4 : Pc := ⟨289, 1, Q8 1933311 (Q3 Tryz.f8), ⟨1, [0, 4, 5, 188], [v26y, v33y, v37y, v25y], l82y⟩, [(.exit 0, ⟨1, [4, 5], [v33y, v37y], l82y⟩), (.normal, ⟨1, [4, 5], [v33y, v37y], [b23y, b29y, b52y, .tree 55 o20y]⟩)]⟩
def zqh5 {β : Type} (k1 : zqgy β) : zqgz β := fun s b0_ t4 out out2 out3 b3_ x =>
 let e := List.getD b3_ s zqq;
 let l := ([x] : List t7y);
 let l2 := ((List.getD b3_ s zqq).2).2;
 cond (true && decide ((List.length l2 + List.length l) * 40 ≤ Qa))
 (let l3 := (l2 ++ l);
 let e2 := List.getD b3_ s zqq;
 let l4 := List.set b3_ s (e2.1, (e2.2.1, l3));
 cond (decide (s = s) && (true && true))
 (k1 b0_ t4 out out2 out3 l4)
 none)
 none
def zqh6 {β : Type} := hid (zqh5 (β := β))
noncomputable def zqh7 : Pb := ⟨30932991, zqh0, fun _ => zqh6, Qih mixed (X := ⟨look tab, gam zqgx, false, false, false, false, [(55, o20y)], none, 0, [(28, [0, 1, 2])]⟩) (p := zqh0) Q4 zqgx rfl [] 30932991 (g := fun _ => zqh5) (by kernel_rfl) fun _ _ => by kernel_rfl⟩
def zqh8 {β : Type} (k1 : zqh1 β) (k2 : zqh2 β) : zqh3 β := fun t188 d t4 b3_ b4_ b5_ b6_ =>
 cond t188
 (zq1g (List.length b6_ : Int) d (fun rNext mrNext =>
 cond (decide (0 ≤ rNext) && decide (rNext < (List.length b6_ : Int)))
 (let j := Int.toNat rNext;
 let e := List.getD b6_ j zqq;
 let l := ((List.getD b6_ j zqq).2).1;
 cond (decide ((List.length l : Int) = (0 : Int)))
 (k1 mrNext t4 b3_ b4_ b5_ b6_)
 (let e2 := List.getD b6_ j zqq;
 let e3 := List.getD b6_ j zqq;
 let l2 := ((List.getD b6_ j zqq).2).1;
 zq1g (List.length l2 : Int) mrNext (fun rNext2 mrNext2 =>
 let l3 := ((List.getD b6_ j zqq).2).1;
 cond (decide (0 ≤ rNext2) && decide (rNext2 < (List.length l3 : Int)))
 (let j2 := Int.toNat rNext2;
 zq1g (8 : Int) mrNext2 (fun rNext3 mrNext3 =>
 let t := (decide (rNext3 = (0 : Int)));
 cond t
 (let l4 := ([(0 : Int), (1 : Int), (400 : Int), (401 : Int)] : List Int);
 zq1o l4 mrNext3 (fun rPick mrPick =>
 let l5 := ((List.getD b6_ j zqq).2).1;
 let e4 := List.getD l5 j2 zqt;
 let l6 := List.set l5 j2 (e4.1, (e4.2.1, (e4.2.2.1, (e4.2.2.2.1, (rPick, e4.2.2.2.2.2)))));
 let e5 := List.getD b6_ j zqq;
 let l7 := List.set b6_ j (e5.1, (l6, e5.2.2));
 k2 mrPick t4 b3_ b4_ b5_ l7))
 (let t2 := (decide (rNext3 = (1 : Int)));
 cond t2
 (let l4 := ([(0 : Int), (1 : Int), (-5 : Int), (98979 : Int), (98981 : Int)] : List Int);
 zq1o l4 mrNext3 (fun rPick mrPick =>
 let l5 := ((List.getD b6_ j zqq).2).1;
 let e4 := List.getD l5 j2 zqt;
 let l6 := List.set l5 j2 (e4.1, (e4.2.1, ((rPick, e4.2.2.1.2), e4.2.2.2)));
 let e5 := List.getD b6_ j zqq;
 let l7 := List.set b6_ j (e5.1, (l6, e5.2.2));
 k2 mrPick t4 b3_ b4_ b5_ l7))
 (let t3 := (decide (rNext3 = (2 : Int)));
 cond t3
 (let l4 := ((List.getD b6_ j zqq).2).1;
 let e4 := List.getD l4 j2 zqt;
 let l5 := List.set l4 j2 (e4.1, (e4.2.1, (e4.2.2.1, (e4.2.2.2.1, (e4.2.2.2.2.1, (([] : List Int), e4.2.2.2.2.2.2))))));
 let e5 := List.getD b6_ j zqq;
 let l6 := List.set b6_ j (e5.1, (l5, e5.2.2));
 k2 mrNext3 t4 b3_ b4_ b5_ l6)
 (let t5 := (decide (rNext3 = (3 : Int)));
 cond t5
 (let l4 := ([(0 : Int), (-1 : Int), (List.length b4_ : Int)] : List Int);
 zq1o l4 mrNext3 (fun rPick mrPick =>
 let l5 := ([rPick] : List Int);
 let l6 := ((List.getD b6_ j zqq).2).1;
 let e4 := List.getD l6 j2 zqt;
 let l7 := List.set l6 j2 (e4.1, (e4.2.1, (e4.2.2.1, (e4.2.2.2.1, (e4.2.2.2.2.1, (l5, e4.2.2.2.2.2.2))))));
 let e5 := List.getD b6_ j zqq;
 let l8 := List.set b6_ j (e5.1, (l7, e5.2.2));
 k2 mrPick t4 b3_ b4_ b5_ l8))
 (let t6 := (decide (rNext3 = (4 : Int)));
 cond t6
 (let l4 := ([(-1 : Int), (3 : Int)] : List Int);
 zq1o l4 mrNext3 (fun rPick mrPick =>
 let l5 := ((List.getD b6_ j zqq).2).1;
 let e4 := List.getD l5 j2 zqt;
 let l6 := List.set l5 j2 (e4.1, (e4.2.1, (e4.2.2.1, (rPick, e4.2.2.2.2))));
 let e5 := List.getD b6_ j zqq;
 let l7 := List.set b6_ j (e5.1, (l6, e5.2.2));
 k2 mrPick t4 b3_ b4_ b5_ l7))
 (let t7 := (decide (rNext3 = (5 : Int)));
 cond t7
 (let l4 := ([(0 : Int), (1 : Int), (2 : Int), (3 : Int)] : List Int);
 zq1o l4 mrNext3 (fun rPick mrPick =>
 let l5 := ((List.getD b6_ j zqq).2).1;
 let e4 := List.getD l5 j2 zqt;
 let l6 := List.set l5 j2 (e4.1, (e4.2.1, (e4.2.2.1, (e4.2.2.2.1, (e4.2.2.2.2.1, (e4.2.2.2.2.2.1, (e4.2.2.2.2.2.2.1, (e4.2.2.2.2.2.2.2.1, rPick))))))));
 let e5 := List.getD b6_ j zqq;
 let l7 := List.set b6_ j (e5.1, (l6, e5.2.2));
 k2 mrPick t4 b3_ b4_ b5_ l7))
 (let t8 := (decide (rNext3 = (6 : Int)));
 cond t8
 (let l4 := ([(0 : Int), (1 : Int), (-1 : Int)] : List Int);
 zq1o l4 mrNext3 (fun rPick mrPick =>
 let l5 := ((List.getD b6_ j zqq).2).1;
 let e4 := List.getD l5 j2 zqt;
 let l6 := List.set l5 j2 (e4.1, (e4.2.1, (e4.2.2.1, (e4.2.2.2.1, (e4.2.2.2.2.1, (e4.2.2.2.2.2.1, (e4.2.2.2.2.2.2.1, (rPick, e4.2.2.2.2.2.2.2.2))))))));
 let e5 := List.getD b6_ j zqq;
 let l7 := List.set b6_ j (e5.1, (l6, e5.2.2));
 k2 mrPick t4 b3_ b4_ b5_ l7))
 (let t9 := (decide (rNext3 = (7 : Int)));
 cond t9
 (let l4 := ([([97, 100, 97] : List UInt8), ([98, 111, 98] : List UInt8), ([120, 32, 121] : List UInt8)] : List t3y);
 zq1g (3 : Int) mrNext3 (fun rNext4 mrNext4 =>
 cond (decide (0 ≤ rNext4) && decide (rNext4 < (List.length l4 : Int)))
 (let l5 := ((List.getD b6_ j zqq).2).1;
 let e4 := List.getD l5 j2 zqt;
 let l6 := List.set l5 j2 ((List.getD l4 (Int.toNat rNext4) ([] : List UInt8)), e4.2);
 let e5 := List.getD b6_ j zqq;
 let l7 := List.set b6_ j (e5.1, (l6, e5.2.2));
 k2 mrNext4 t4 b3_ b4_ b5_ l7)
 none))
 (k2 mrNext3 t4 b3_ b4_ b5_ b6_))))))))))
 none)))
 none))
 (zq1g (List.length b6_ : Int) d (fun rNext mrNext =>
 cond (decide (0 ≤ rNext) && decide (rNext < (List.length b6_ : Int)))
 (let j := Int.toNat rNext;
 zqc7 b3_ b4_ b5_ mrNext (fun rEdit mrEdit =>
 zq1g (5 : Int) mrEdit (fun rNext2 mrNext2 =>
 let t := (decide (rNext2 = (0 : Int)));
 cond t
 (zqh6 (fun b0_ t42 out out2 out3 b3_2 =>
 k2 b0_ t42 out out2 out3 b3_2) j mrNext2 t4 b3_ b4_ b5_ b6_ (rEdit.1, (rEdit.2.1, (rEdit.2.2.1, (rEdit.2.2.2.1, rEdit.2.2.2.1)))))
 (let t2 := (decide (rNext2 = (1 : Int)));
 cond t2
 (let l := ([(-1 : Int), (-2 : Int), (List.length b4_ : Int)] : List Int);
 zq1o l mrNext2 (fun rPick mrPick =>
 zqh6 (fun b0_ t42 out out2 out3 b3_2 =>
 k2 b0_ t42 out out2 out3 b3_2) j mrPick t4 b3_ b4_ b5_ b6_ (rEdit.1, (rPick, rEdit.2.2))))
 (let t3 := (decide (rNext2 = (2 : Int)));
 cond t3
 (let l := ([(0 : Int), (1 : Int), rEdit.2.1] : List Int);
 zq1o l mrNext2 (fun rPick mrPick =>
 zqh6 (fun b0_ t42 out out2 out3 b3_2 =>
 k2 b0_ t42 out out2 out3 b3_2) j mrPick t4 b3_ b4_ b5_ b6_ (rEdit.1, (rEdit.2.1, (rPick, rEdit.2.2.2)))))
 (let t5 := (decide (rNext2 = (3 : Int)));
 cond t5
 (let l := ([(0 : Int), (-1 : Int)] : List Int);
 zq1o l mrNext2 (fun rPick mrPick =>
 let l2 := ([(8551872000 : Int), (8551958399 : Int), (8551958400 : Int), (8589934592 : Int)] : List Int);
 zq1o l2 mrPick (fun rPick2 mrPick2 =>
 zqh6 (fun b0_ t42 out out2 out3 b3_2 =>
 k2 b0_ t42 out out2 out3 b3_2) j mrPick2 t4 b3_ b4_ b5_ b6_ (rEdit.1, (rEdit.2.1, (rEdit.2.2.1, (rPick, rPick2)))))))
 (let t6 := (decide (rNext2 = (4 : Int)));
 cond t6
 (let l := ([(-1 : Int), (3 : Int)] : List Int);
 zq1o l mrNext2 (fun rPick mrPick =>
 zqh6 (fun b0_ t42 out out2 out3 b3_2 =>
 k2 b0_ t42 out out2 out3 b3_2) j mrPick t4 b3_ b4_ b5_ b6_ (rPick, rEdit.2)))
 (zqh6 (fun b0_ t42 out out2 out3 b3_2 =>
 k2 b0_ t42 out out2 out3 b3_2) j mrNext2 t4 b3_ b4_ b5_ b6_ rEdit))))))))
 none))
def zqh9 {β : Type} := hid (zqh8 (β := β))
noncomputable def zqha : Pb := ⟨1933311, zqh4, fun _ => zqh9, Qih mixed (X := ⟨look tab, gam zqgx, false, false, false, false, [(55, o20y)], none, 0, [(28, [0, 1, 2])]⟩) (p := zqh4) Q4 zqgx rfl [zqh7] 1933311 (g := fun _ => zqh8) (by kernel_rfl) fun _ _ => by kernel_rfl⟩
def zqhb : zqgw := fun c d k =>
 zq1c c (fun lrCopy lrCopy2 lrCopy3 lrCopy4 =>
 zq1g (12 : Int) d (fun rNext mrNext =>
 let t := (decide (rNext = (0 : Int)));
 cond t
 (zq1g (List.length lrCopy : Int) mrNext (fun rNext2 mrNext2 =>
 let l := ([(30 : Int), (64800 : Int), (64860 : Int), (-64800 : Int), (-64801 : Int)] : List Int);
 zq1o l mrNext2 (fun rPick mrPick =>
 cond (decide (0 ≤ rNext2) && decide (rNext2 < (List.length lrCopy : Int)))
 (let l2 := (List.set lrCopy (Int.toNat rNext2) ((List.getD lrCopy (Int.toNat rNext2) (([] : List UInt8), ((0 : Int), ([] : List zq8)))).1, (rPick, ((List.getD lrCopy (Int.toNat rNext2) (([] : List UInt8), ((0 : Int), ([] : List zq8)))).2).2)));
 k (l2, (lrCopy2, (lrCopy3, lrCopy4))) mrPick)
 none)))
 (let t2 := (decide (rNext = (1 : Int)));
 cond t2
 (zq1g (List.length lrCopy2 : Int) mrNext (fun rNext2 mrNext2 =>
 let l := ([(-1 : Int), (List.length lrCopy : Int)] : List Int);
 zq1o l mrNext2 (fun rPick mrPick =>
 cond (decide (0 ≤ rNext2) && decide (rNext2 < (List.length lrCopy2 : Int)))
 (let l2 := (List.set lrCopy2 (Int.toNat rNext2) ((List.getD lrCopy2 (Int.toNat rNext2) (([] : List UInt8), ((0 : Int), (([] : List t1y), ((0 : Int), ((0 : Int), false)))))).1, (rPick, (((List.getD lrCopy2 (Int.toNat rNext2) (([] : List UInt8), ((0 : Int), (([] : List t1y), ((0 : Int), ((0 : Int), false)))))).2).2))));
 k (lrCopy, (l2, (lrCopy3, lrCopy4))) mrPick)
 none)))
 (let t3 := (decide (rNext = (2 : Int)));
 cond t3
 (zq1g (List.length lrCopy2 : Int) mrNext (fun rNext2 mrNext2 =>
 let l := ([([110, 111, 98, 111, 100, 121] : List UInt8), ([] : List UInt8), ([65, 100, 97] : List UInt8), ([97, 100, 97] : List UInt8), ([97, 45, 49, 95, 98] : List UInt8)] : List t3y);
 zq1g (5 : Int) mrNext2 (fun rNext3 mrNext3 =>
 cond (decide (0 ≤ rNext3) && decide (rNext3 < (List.length l : Int)))
 (cond (decide (0 ≤ rNext2) && decide (rNext2 < (List.length lrCopy2 : Int)))
 (let l2 := (List.set lrCopy2 (Int.toNat rNext2) ((List.getD l (Int.toNat rNext3) ([] : List UInt8)), ((List.getD lrCopy2 (Int.toNat rNext2) (([] : List UInt8), ((0 : Int), (([] : List t1y), ((0 : Int), ((0 : Int), false)))))).2)));
 k (lrCopy, (l2, (lrCopy3, lrCopy4))) mrNext3)
 none)
 none)))
 (let t4 := (decide (rNext = (3 : Int)));
 cond t4
 (zq1g (List.length lrCopy2 : Int) mrNext (fun rNext2 mrNext2 =>
 let l := ([(1 : Int), (-3600 : Int), (604800 : Int), (608400 : Int)] : List Int);
 zq1o l mrNext2 (fun rPick mrPick =>
 cond (decide (0 ≤ rNext2) && decide (rNext2 < (List.length lrCopy2 : Int)))
 (let l2 := (List.set lrCopy2 (Int.toNat rNext2) ((List.getD lrCopy2 (Int.toNat rNext2) (([] : List UInt8), ((0 : Int), (([] : List t1y), ((0 : Int), ((0 : Int), false)))))).1, (((List.getD lrCopy2 (Int.toNat rNext2) (([] : List UInt8), ((0 : Int), (([] : List t1y), ((0 : Int), ((0 : Int), false)))))).2).1, ((((List.getD lrCopy2 (Int.toNat rNext2) (([] : List UInt8), ((0 : Int), (([] : List t1y), ((0 : Int), ((0 : Int), false)))))).2).2).1, (((((List.getD lrCopy2 (Int.toNat rNext2) (([] : List UInt8), ((0 : Int), (([] : List t1y), ((0 : Int), ((0 : Int), false)))))).2).2).2).1, (rPick, (((((List.getD lrCopy2 (Int.toNat rNext2) (([] : List UInt8), ((0 : Int), (([] : List t1y), ((0 : Int), ((0 : Int), false)))))).2).2).2).2).2))))));
 k (lrCopy, (l2, (lrCopy3, lrCopy4))) mrPick)
 none)))
 (let t5 := (decide (rNext = (4 : Int)));
 cond t5
 (zq1g (List.length lrCopy2 : Int) mrNext (fun rNext2 mrNext2 =>
 let l := ([(0 : Int), (-1 : Int), (5 : Int)] : List Int);
 zq1o l mrNext2 (fun rPick mrPick =>
 let l2 := ([(5 : Int), (604800 : Int), (604801 : Int)] : List Int);
 zq1o l2 mrPick (fun rPick2 mrPick2 =>
 let l3 := ([(rPick, rPick2)] : List t1y);
 cond (decide (0 ≤ rNext2) && decide (rNext2 < (List.length lrCopy2 : Int)))
 (let l4 := (List.set lrCopy2 (Int.toNat rNext2) ((List.getD lrCopy2 (Int.toNat rNext2) (([] : List UInt8), ((0 : Int), (([] : List t1y), ((0 : Int), ((0 : Int), false)))))).1, (((List.getD lrCopy2 (Int.toNat rNext2) (([] : List UInt8), ((0 : Int), (([] : List t1y), ((0 : Int), ((0 : Int), false)))))).2).1, (l3, ((((List.getD lrCopy2 (Int.toNat rNext2) (([] : List UInt8), ((0 : Int), (([] : List t1y), ((0 : Int), ((0 : Int), false)))))).2).2).2)))));
 k (lrCopy, (l4, (lrCopy3, lrCopy4))) mrPick2)
 none))))
 (let t6 := (decide (rNext = (5 : Int)));
 cond t6
 (let l := ([([100, 97, 121, 115] : List UInt8), ([111, 116, 104, 101, 114] : List UInt8)] : List t3y);
 zq1g (2 : Int) mrNext (fun rNext2 mrNext2 =>
 cond (decide (0 ≤ rNext2) && decide (rNext2 < (List.length l : Int)))
 (let l2 := ([(5 : Int), (-1 : Int)] : List Int);
 zq1o l2 mrNext2 (fun rPick mrPick =>
 let l3 := ([(5 : Int), (6 : Int), (100000 : Int)] : List Int);
 zq1o l3 mrPick (fun rPick2 mrPick2 =>
 let l4 := ([rPick, rPick2] : List Int);
 let l5 := ([((List.getD l (Int.toNat rNext2) ([] : List UInt8)), ((0 : Int), l4))] : List zq0);
 cond (decide ((List.length lrCopy3 + List.length l5) * 48 ≤ Qa))
 (let l6 := (lrCopy3 ++ l5);
 k (lrCopy, (lrCopy2, (l6, lrCopy4))) mrPick2)
 none)))
 none))
 (let t7 := (decide (rNext = (6 : Int)));
 cond t7
 (let l := ([([102, 105, 114, 115, 116] : List UInt8), ([102, 111, 117, 114, 116, 104] : List UInt8)] : List t3y);
 zq1g (2 : Int) mrNext (fun rNext2 mrNext2 =>
 cond (decide (0 ≤ rNext2) && decide (rNext2 < (List.length l : Int)))
 (let l2 := ([((List.getD l (Int.toNat rNext2) ([] : List UInt8)), (([] : List zq2), ([] : List t7y)))] : List zq4);
 cond (true && decide ((List.length lrCopy4 + List.length l2) * 64 ≤ Qa))
 (let l3 := (lrCopy4 ++ l2);
 k (lrCopy, (lrCopy2, (lrCopy3, l3))) mrNext2)
 none)
 none))
 (let t8 := (decide (rNext = (7 : Int)));
 cond t8
 (zqh9 (fun b0_ t42 b3_ b4_ b5_ b6_ =>
 k (b3_, (b4_, (b5_, b6_))) b0_) (fun b0_ t42 out out2 out3 b3_ =>
 k (out, (out2, (out3, b3_))) b0_) t8 mrNext zqr lrCopy lrCopy2 lrCopy3 lrCopy4)
 (let t9 := (decide (rNext = (8 : Int)));
 cond t9
 (zqh9 (fun b0_ t42 b3_ b4_ b5_ b6_ =>
 k (b3_, (b4_, (b5_, b6_))) b0_) (fun b0_ t42 out out2 out3 b3_ =>
 k (out, (out2, (out3, b3_))) b0_) t9 mrNext zqr lrCopy lrCopy2 lrCopy3 lrCopy4)
 (let t10 := (decide (rNext = (9 : Int)));
 zqh9 (fun b0_ t42 b3_ b4_ b5_ b6_ =>
 k (b3_, (b4_, (b5_, b6_))) b0_) (fun b0_ t42 out out2 out3 b3_ =>
 k (out, (out2, (out3, b3_))) b0_) t10 mrNext zqr lrCopy lrCopy2 lrCopy3 lrCopy4)))))))))))
def zqhc : zqgw := hid zqhb
noncomputable def zqhd : En := ⟨8, .spec (sg [v26y, v35y] [b23y] [v35y] [b23y] zqhc), Q9c mixed (X := ⟨look tab, gam zqgx, false, false, false, false, [(55, o20y)], none, 0, [(28, [0, 1, 2])]⟩) Q4 zqgx rfl [zqha] [.cell 4 28] Tryz.func8 (by kernel_rfl) fun _ _ => by kernel_rfl⟩
abbrev zqhe := {β : Type} → zqg → zqg → (Bool → Option β) → Option β
noncomputable def zqhf : List En := [zq2s, zqd7, zq2f, zq22]
abbrev zqhg (β : Type) := Bool → Option β
abbrev zqhh (β : Type) := zqg → zqg → Option β
abbrev zqhi (β : Type) := Int → zqg → zqg → Option β
noncomputable def zqhj : Pc := ⟨180, 0, Q8 58 (Q3 Tryz.f11), ⟨0, [2, 3, 5], [v26y, v33y, v22y], [b29y, b29y]⟩, [(.ret, ⟨0, [4], [v25y], []⟩), (.exit 0, ⟨0, [2, 3], [v26y, v33y], [b29y, b29y]⟩)]⟩
abbrev zqhk (β : Type) := Bool → Option β
abbrev zqhl (β : Type) := zqg → zqg → Option β
abbrev zqhm (β : Type) := Int → zqg → zqg → Option β
noncomputable def zqhn : Pc := ⟨180, 0, Q8 122 (Q3 Tryz.f11), ⟨0, [2, 3, 6], [v26y, v33y, v22y], [b29y, b29y]⟩, [(.ret, ⟨0, [4], [v25y], []⟩), (.exit 2, ⟨0, [2, 3], [v26y, v33y], [b29y, b29y]⟩)]⟩
abbrev zqho (β : Type) := Bool → Option β
abbrev zqhp (β : Type) := zqg → zqg → Option β
abbrev zqhq (β : Type) := Int → zqg → zqg → Option β
noncomputable def zqhr : Pc := ⟨180, 0, Q8 250 (Q3 Tryz.f11), ⟨0, [2, 3, 9], [v26y, v33y, v22y], [b29y, b29y]⟩, [(.ret, ⟨0, [4], [v25y], []⟩), (.exit 4, ⟨0, [2, 3], [v26y, v33y], [b29y, b29y]⟩)]⟩
abbrev zqhs (β : Type) := Bool → Option β
abbrev zqht (β : Type) := Unit → Option β
abbrev zqhu (β : Type) := Int → zqg → zqg → Option β
noncomputable def zqhv : Pc := ⟨180, 0, Q8 506 (Q3 Tryz.f11), ⟨0, [2, 3, 12], [v26y, v33y, v22y], [b29y, b29y]⟩, [(.ret, ⟨0, [4], [v25y], []⟩), (.exit 6, ⟨0, [], [], []⟩)]⟩
def zqhw {β : Type} (rec : zqhi β) (k1 : zqhg β) (k2 : zqhh β) : zqhi β := fun i_ a b =>
 cond (decide (i_ < (List.length a.1 : Int)))
 (cond (decide (0 ≤ i_) && decide (i_ < (List.length a.1 : Int)))
 (let e := List.getD a.1 (Int.toNat i_) (([] : List UInt8), ((0 : Int), ([] : List zq8)));
 cond (decide (0 ≤ i_) && decide (i_ < (List.length b.1 : Int)))
 (let e2 := List.getD b.1 (Int.toNat i_) (([] : List UInt8), ((0 : Int), ([] : List zq8)));
 zq21 e e2 (fun rsameZone =>
 cond (!rsameZone)
 (k1 false)
 (let i_2 := (IntKind.i64.wrap (i_ + (1 : Int)));
 rec i_2 a b)))
 none)
 none)
 (k2 a b)
def zqhx (m : Nat) {β : Type} (k1 : zqhg β) (k2 : zqhh β) : zqhi β := lp3 (fun r => zqhw r k1 k2) none m
theorem zqhy {β : Type} (i : Nat) (k1 k2) : zqhx (β := β) (i + 1) k1 k2 = zqhw (zqhx i k1 k2) k1 k2 := rfl
def zqhz {β : Type} := hid (zqhx (β := β) fuel)
noncomputable def zqi0 : Pb := ⟨58, zqhj, fun _ => zqhz, pl (p := zqhj) zqhf [] (g := fun i _ => zqhx i) (by kernel_rfl) rfl (by kernel_rfl) (fun _ _ => rfl) fun _ _ _ _ => by kernel_rfl⟩
def zqi1 {β : Type} (rec : zqhm β) (k1 : zqhk β) (k2 : zqhl β) : zqhm β := fun i_ a b =>
 cond (decide (i_ < (List.length a.2.1 : Int)))
 (cond (decide (0 ≤ i_) && decide (i_ < (List.length a.2.1 : Int)))
 (let e := List.getD a.2.1 (Int.toNat i_) (([] : List UInt8), ((0 : Int), (([] : List t1y), ((0 : Int), ((0 : Int), false)))));
 cond (decide (0 ≤ i_) && decide (i_ < (List.length b.2.1 : Int)))
 (let e2 := List.getD b.2.1 (Int.toNat i_) (([] : List UInt8), ((0 : Int), (([] : List t1y), ((0 : Int), ((0 : Int), false)))));
 cond (!decide (e.1 = e2.1))
 (k1 false)
 (cond (!decide (e.2.1 = e2.2.1))
 (k1 false)
 (zq2e e.2.2.1 e2.2.2.1 (fun rsameWindows =>
 cond (!rsameWindows)
 (k1 false)
 (cond (!decide (e.2.2.2.1 = e2.2.2.2.1))
 (k1 false)
 (cond (!decide (e.2.2.2.2.1 = e2.2.2.2.2.1))
 (k1 false)
 (cond (!(e.2.2.2.2.2 == e2.2.2.2.2.2))
 (k1 false)
 (let i_2 := (IntKind.i64.wrap (i_ + (1 : Int)));
 rec i_2 a b))))))))
 none)
 none)
 (k2 a b)
def zqi2 (m : Nat) {β : Type} (k1 : zqhk β) (k2 : zqhl β) : zqhm β := lp3 (fun r => zqi1 r k1 k2) none m
theorem zqi3 {β : Type} (i : Nat) (k1 k2) : zqi2 (β := β) (i + 1) k1 k2 = zqi1 (zqi2 i k1 k2) k1 k2 := rfl
def zqi4 {β : Type} := hid (zqi2 (β := β) fuel)
noncomputable def zqi5 : Pb := ⟨122, zqhn, fun _ => zqi4, pl (p := zqhn) zqhf [] (g := fun i _ => zqi2 i) (by kernel_rfl) rfl (by kernel_rfl) (fun _ _ => rfl) fun _ _ _ _ => by kernel_rfl⟩
def zqi6 {β : Type} (rec : zqhq β) (k1 : zqho β) (k2 : zqhp β) : zqhq β := fun i_ a b =>
 cond (decide (i_ < (List.length a.2.2.1 : Int)))
 (cond (decide (0 ≤ i_) && decide (i_ < (List.length a.2.2.1 : Int)))
 (let e := List.getD a.2.2.1 (Int.toNat i_) (([] : List UInt8), ((0 : Int), ([] : List Int)));
 cond (decide (0 ≤ i_) && decide (i_ < (List.length b.2.2.1 : Int)))
 (let e2 := List.getD b.2.2.1 (Int.toNat i_) (([] : List UInt8), ((0 : Int), ([] : List Int)));
 cond (!decide (e.1 = e2.1))
 (k1 false)
 (cond (!decide (e.2.1 = e2.2.1))
 (k1 false)
 (zq2r e.2.2 e2.2.2 (fun rsameInts =>
 cond (!rsameInts)
 (k1 false)
 (let i_2 := (IntKind.i64.wrap (i_ + (1 : Int)));
 rec i_2 a b)))))
 none)
 none)
 (k2 a b)
def zqi7 (m : Nat) {β : Type} (k1 : zqho β) (k2 : zqhp β) : zqhq β := lp3 (fun r => zqi6 r k1 k2) none m
theorem zqi8 {β : Type} (i : Nat) (k1 k2) : zqi7 (β := β) (i + 1) k1 k2 = zqi6 (zqi7 i k1 k2) k1 k2 := rfl
def zqi9 {β : Type} := hid (zqi7 (β := β) fuel)
noncomputable def zqia : Pb := ⟨250, zqhr, fun _ => zqi9, pl (p := zqhr) zqhf [] (g := fun i _ => zqi7 i) (by kernel_rfl) rfl (by kernel_rfl) (fun _ _ => rfl) fun _ _ _ _ => by kernel_rfl⟩
def zqib {β : Type} (rec : zqhu β) (k1 : zqhs β) (k2 : zqht β) : zqhu β := fun i_ a b =>
 cond (decide (i_ < (List.length a.2.2.2 : Int)))
 (cond (decide (0 ≤ i_) && decide (i_ < (List.length a.2.2.2 : Int)))
 (let e := List.getD a.2.2.2 (Int.toNat i_) (([] : List UInt8), (([] : List zq2), ([] : List t7y)));
 cond (decide (0 ≤ i_) && decide (i_ < (List.length b.2.2.2 : Int)))
 (let e2 := List.getD b.2.2.2 (Int.toNat i_) (([] : List UInt8), (([] : List zq2), ([] : List t7y)));
 zqd6 e e2 (fun rsameSchedule =>
 cond (!rsameSchedule)
 (k1 false)
 (let i_2 := (IntKind.i64.wrap (i_ + (1 : Int)));
 rec i_2 a b)))
 none)
 none)
 (k2 ())
def zqic (m : Nat) {β : Type} (k1 : zqhs β) (k2 : zqht β) : zqhu β := lp3 (fun r => zqib r k1 k2) none m
theorem zqid {β : Type} (i : Nat) (k1 k2) : zqic (β := β) (i + 1) k1 k2 = zqib (zqic i k1 k2) k1 k2 := rfl
def zqie {β : Type} := hid (zqic (β := β) fuel)
noncomputable def zqif : Pb := ⟨506, zqhv, fun _ => zqie, pl (p := zqhv) zqhf [] (g := fun i _ => zqic i) (by kernel_rfl) rfl (by kernel_rfl) (fun _ _ => rfl) fun _ _ _ _ => by kernel_rfl⟩
def zqig : zqhe := fun a b k =>
 cond (!decide ((List.length a.1 : Int) = (List.length b.1 : Int)))
 (k false)
 (cond (!decide ((List.length a.2.1 : Int) = (List.length b.2.1 : Int)))
 (k false)
 (cond (!decide ((List.length a.2.2.1 : Int) = (List.length b.2.2.1 : Int)))
 (k false)
 (cond (!decide ((List.length a.2.2.2 : Int) = (List.length b.2.2.2 : Int)))
 (k false)
 (zqhz (fun t4 =>
 k t4) (fun a2 b2 =>
 zqi4 (fun t4 =>
 k t4) (fun a3 b3 =>
 zqi9 (fun t4 =>
 k t4) (fun a4 b4 =>
 zqie (fun t4 =>
 k t4) (fun _ =>
 k true) (0 : Int) a4 b4) (0 : Int) a3 b3) (0 : Int) a2 b2) (0 : Int) a b))))
def zqih : zqhe := hid zqig
noncomputable def zqii : En := ⟨11, .spec (sg [v35y, v35y] [] [v25y] [] zqih), pf zqhf [zqi0, zqi5, zqia, zqif] [.tmp 4] Tryz.func11 (by kernel_rfl) fun _ _ => by kernel_rfl⟩
abbrev zqij := {β : Type} → zq4 → zq4 → (Bool → Option β) → Option β
def zqik : zqij := fun a b k =>
 cond (decide (a.1 = b.1))
 (zqfy a.2.1 b.2.1 (fun rLayer =>
 cond rLayer
 (zq59 a.2.2 b.2.2 (fun rEdit =>
 k rEdit))
 (k false)))
 (k false)
def zqil : zqij := hid zqik
noncomputable def zqim : En := ⟨28, .spec (sg [v60y, v60y] [] [v25y] [] zqil), pf [zqfz, zq5a] [] [.tmp 4] Tryz.func28 (by kernel_rfl) fun _ _ => by kernel_rfl⟩
noncomputable def zqin : En := .handf (Qz mixed (X := ⟨look tab, gam [zq68, zq66, zq65, zq67, zq2u, zqd8], false, false, false, false, q90y, none, 100000, []⟩) Q4 [zq68, zq66, zq65, zq67, zq2u, zqd8] rfl (ps := [v26y, v49y]) (is := l77y) (rs := []) (os := l77y) [] Tryz.func37 (by kernel_rfl)) rfl (by kernel_rfl)
noncomputable def zqio : En := .handf (Qz mixed (X := ⟨look tab, gam [zq66, zq2u, zqd8, zqda, zq69], false, false, false, false, q90y, none, 100000, []⟩) Q4 [zq66, zq2u, zqd8, zqda, zq69] rfl (ps := [v26y, v66y]) (is := l77y) (rs := []) (os := l77y) [] Tryz.func38 (by kernel_rfl)) rfl (by kernel_rfl)
noncomputable def zqip : En := .handf (Qz mixed (X := ⟨look tab, gam [zq68, zq6e, zq6d, zq66, zq2u, zqd8, zqda, zq69], false, false, false, false, q90y, none, 100000, []⟩) Q4 [zq68, zq6e, zq6d, zq66, zq2u, zqd8, zqda, zq69] rfl (ps := [v26y, v56y]) (is := l77y) (rs := []) (os := l77y) [] Tryz.func42 (by kernel_rfl)) rfl (by kernel_rfl)
end
end Go.Lift
namespace Go.Lift
open Go.Proofs
noncomputable section
variable [Sl]
set_option maxRecDepth 100000
set_option linter.unusedVariables false
noncomputable def zqiq : En := .hand (Qz mixed (X := ⟨look tab, gam [zqe2], false, false, false, false, [], none, 100000, []⟩) Q4 [zqe2] rfl (ps := [v28y, (false, [.maph 0])]) (is := [.map 141 .str .bool false]) (rs := [v22y]) (os := [.map 141 .str .bool false]) [.tmp 4] Tryz.func66 (by kernel_rfl)) rfl (by kernel_rfl)
noncomputable def zqir : En := au [zqe3, zq72, zq73] [v35y, v66y] [] [v22y] [] [.tmp 4] Tryz.func67 (by kernel_rfl)
abbrev zqis := {β : Type} → t3y → (zqc → Bool → Option β) → Option β
def zqit : zqis := fun word k =>
 let l := ([(0 : Int), (4 : Int)] : List Int);
 let l2 := ([(1 : Int), (1 : Int), (0 : Int), (0 : Int), (0 : Int), (2 : Int), (4 : Int)] : List Int);
 let l3 := ([(0 : Int), (0 : Int)] : List Int);
 let l4 := ([(0 : Int), (2 : Int), (0 : Int), (2 : Int)] : List Int);
 let l5 := ([(0 : Int), (0 : Int)] : List Int);
 let l6 := ([(3 : Int)] : List Int);
 let l7 := ([(0 : Int)] : List Int);
 let l8 := ([(0 : Int), (0 : Int), (3 : Int), (2 : Int), (1 : Int), (0 : Int)] : List Int);
 let l9 := ([(0 : Int)] : List Int);
 let l10 := ([(0 : Int), (2 : Int), (0 : Int), (2 : Int)] : List Int);
 let l11 := ([(0 : Int)] : List Int);
 let l12 := ([(0 : Int)] : List Int);
 let l13 := ([(0 : Int), (5 : Int), (5 : Int)] : List Int);
 let l14 := ([(0 : Int), (5 : Int), (5 : Int)] : List Int);
 let l15 := ([(0 : Int), (0 : Int), (5 : Int), (5 : Int)] : List Int);
 let l16 := ([(([122, 111, 110, 101] : List UInt8), (l, false)), (([114, 117, 108, 101] : List UInt8), (l2, false)), (([112, 101, 114, 115, 111, 110] : List UInt8), (l3, false)), (([113, 117, 105, 101, 116] : List UInt8), (l4, false)), (([99, 97, 108, 101, 110, 100, 97, 114] : List UInt8), (l5, false)), (([100, 97, 121, 115] : List UInt8), (l6, true)), (([115, 99, 104, 101, 100, 117, 108, 101] : List UInt8), (l7, false)), (([108, 97, 121, 101, 114] : List UInt8), (l8, false)), (([109, 101, 109, 98, 101, 114] : List UInt8), (l9, true)), (([111, 110] : List UInt8), (l10, false)), (([110, 111, 116] : List UInt8), (l11, false)), (([111, 110, 108, 121] : List UInt8), (l12, false)), (([108, 101, 97, 118, 101] : List UInt8), (l13, false)), (([111, 118, 101, 114, 114, 105, 100, 101] : List UInt8), (l14, false)), (([115, 119, 97, 112] : List UInt8), (l15, false))] : List zqc);
 zqg1 l16 word (fun rform mrform =>
 cond (decide (rform < (0 : Int)))
 (k zql false)
 (cond (decide (0 ≤ rform) && decide (rform < (List.length l16 : Int)))
 (k (List.getD l16 (Int.toNat rform) (([] : List UInt8), (([] : List Int), false))) true)
 none))
def zqiu : zqis := hid zqit
noncomputable def zqiv : En := ⟨91, .spec (sg [v28y] [] [(true, [.data zqd]), v25y] [] zqiu), pf [zqg2] [] [.cell 2 165, .tmp 3] Tryz.func91 (by kernel_rfl) fun _ _ => by kernel_rfl⟩
noncomputable def zqiw : En := .hand (Qz mixed (X := ⟨look tab, gam [zq7d, zq7e, zqe7, zqeb, zqef], false, false, false, false, q89y, none, 100000, []⟩) Q4 [zq7d, zq7e, zqe7, zqeb, zqef] rfl (ps := [v26y, v30y]) (is := l73y) (rs := [v22y]) (os := l73y) [.tmp 4] Tryz.func94 (by kernel_rfl)) rfl (by kernel_rfl)
noncomputable def zqix : En := .hand (Qz mixed (X := ⟨look tab, gam [zq7p, zq7q, zqeg], false, false, false, false, q89y, none, 100000, []⟩) Q4 [zq7p, zq7q, zqeg] rfl (ps := [v26y, v30y]) (is := l73y) (rs := [v22y]) (os := l73y) [.tmp 4] Tryz.func96 (by kernel_rfl)) rfl (by kernel_rfl)
noncomputable def zqiy : En := .hand (Qz mixed (X := ⟨look tab, gam [zq7z, zq80, zqeg], false, false, false, false, q89y, none, 100000, []⟩) Q4 [zq7z, zq80, zqeg] rfl (ps := [v26y, v30y]) (is := l73y) (rs := [v22y]) (os := l73y) [.tmp 4] Tryz.func102 (by kernel_rfl)) rfl (by kernel_rfl)
abbrev zqiz := {β : Type} → Int → ((Int × t1y) → Int → Option β) → Option β
noncomputable def zqj0 : zqiz := Q28 ⟨look tab, gam [zqex, zqev, zqew], false, false, false, false, [], none, 100000, []⟩ Tryz.f162 [v22y] [] [v44y, v22y] [] [.cell 2 228, .tmp 3]
noncomputable def zqj1 : En := ⟨162, .spec (sg [v22y] [] [v44y, v22y] [] zqj0), (Q1c mixed (X := ⟨look tab, gam [zqex, zqev, zqew], false, false, false, false, [], none, 100000, []⟩) Q4 [zqex, zqev, zqew] rfl [.cell 2 228, .tmp 3] Tryz.func162 (by kernel_rfl)).spec⟩
abbrev zqj2 := {β : Type} → t3y → (Int → Bool → Option β) → Option β
noncomputable def zqj3 : List En := [zqf1, zq5l]
abbrev zqj4 (β : Type) := Int → Bool → Option β
abbrev zqj5 (β : Type) := Int → Option β
abbrev zqj6 (β : Type) := Int → Int → Int → (List t3y) → Option β
noncomputable def zqj7 : Pc := ⟨53, 0, Q8 250 (Q3 Tryz.f173), ⟨0, [5, 23, 24, 25], [v22y, v39y, v22y, v22y], [.row 9 .str]⟩, [(.ret, ⟨0, [2, 3], [v22y, v25y], []⟩), (.exit 0, ⟨0, [5], [v22y], []⟩)]⟩
def zqj8 {β : Type} (rec : zqj6 β) (k1 : zqj4 β) (k2 : zqj5 β) : zqj6 β := fun n t24 t25 t23 =>
 cond (decide (t25 < t24))
 (cond (decide (0 ≤ t25) && decide (t25 < (List.length t23 : Int)))
 (let x := (List.getD t23 (Int.toNat t25) ([] : List UInt8));
 zqf0 x (fun rtwo rtwo2 =>
 cond (!rtwo2)
 (k1 (0 : Int) false)
 (cond (decide ((0 : Int) < t25))
 (cond (decide ((59 : Int) < rtwo))
 (k1 (0 : Int) false)
 (let n2 := (IntKind.i64.wrap ((IntKind.i64.wrap ((60 : Int) * n)) + rtwo));
 rec n2 t24 (IntKind.i64.wrap (t25 + (1 : Int))) t23))
 (let n2 := (IntKind.i64.wrap ((IntKind.i64.wrap ((60 : Int) * n)) + rtwo));
 rec n2 t24 (IntKind.i64.wrap (t25 + (1 : Int))) t23))))
 none)
 (k2 n)
def zqj9 (m : Nat) {β : Type} (k1 : zqj4 β) (k2 : zqj5 β) : zqj6 β := lp4 (fun r => zqj8 r k1 k2) none m
theorem zqja {β : Type} (i : Nat) (k1 k2) : zqj9 (β := β) (i + 1) k1 k2 = zqj8 (zqj9 i k1 k2) k1 k2 := rfl
def zqjb {β : Type} := hid (zqj9 (β := β) fuel)
noncomputable def zqjc : Pb := ⟨250, zqj7, fun _ => zqjb, Qeq mixed (X := ⟨look tab, gam zqj3, false, true, false, false, [], none, 0, []⟩) (p := zqj7) Q4 zqj3 rfl [] (g := fun i _ => zqj9 i) (by kernel_rfl) rfl (by kernel_rfl) (fun _ _ => rfl) fun _ _ _ _ => by kernel_rfl⟩
def zqjd : zqj2 := fun s k =>
 zq5j s ([58] : List UInt8) (fun lrSplit =>
 cond (decide ((List.length lrSplit : Int) < (2 : Int)))
 (k (0 : Int) false)
 (cond (decide ((3 : Int) < (List.length lrSplit : Int)))
 (k (0 : Int) false)
 (let l := ([([48, 48] : List UInt8)] : List t3y);
 cond (decide ((List.length lrSplit + List.length l) * 16 ≤ Qa))
 (let l2 := (lrSplit ++ l);
 cond (decide (0 ≤ (3 : Int)) && decide ((3 : Int) ≤ (List.length l2 : Int)))
 (let l3 := (List.take (Int.toNat (3 : Int)) l2);
 zqjb (fun t2 t3 =>
 k t2 t3) (fun n =>
 let t := (decide (n ≤ (86400 : Int)));
 k n t) (0 : Int) (List.length l3 : Int) (0 : Int) l3)
 none)
 none)))
def zqje : zqj2 := hid zqjd
noncomputable def zqjf : En := ⟨173, .spec (sg [v28y] [] [v22y, v25y] [] zqje), Q9c mixed (X := ⟨look tab, gam zqj3, false, true, false, false, [], none, 0, []⟩) Q4 zqj3 rfl [zqjc] [.tmp 2, .tmp 3] Tryz.func173 (by kernel_rfl) fun _ _ => by kernel_rfl⟩
abbrev zqjg := {β : Type} → Int → Bool → (t3y → Option β) → Option β
def zqjh : zqjg := fun n seconds k =>
 zqf4 (IntKind.i64.wrap (Int.tdiv n (3600 : Int))) (2 : Int) (fun rdigits =>
 cond (decide (List.length rdigits + List.length ([58] : List UInt8) ≤ 9223372036854775807))
 (zqf4 (Int.tmod (IntKind.i64.wrap (Int.tdiv n (60 : Int))) (60 : Int)) (2 : Int) (fun rdigits2 =>
 cond (decide (List.length (rdigits ++ ([58] : List UInt8)) + List.length rdigits2 ≤ 9223372036854775807))
 (let s := ((rdigits ++ ([58] : List UInt8)) ++ rdigits2);
 cond seconds
 (zqf4 (Int.tmod n (60 : Int)) (2 : Int) (fun rdigits3 =>
 cond (decide (List.length ([58] : List UInt8) + List.length rdigits3 ≤ 9223372036854775807))
 (cond (decide (List.length s + List.length (([58] : List UInt8) ++ rdigits3) ≤ 9223372036854775807))
 (let s2 := (s ++ (([58] : List UInt8) ++ rdigits3));
 k s2)
 none)
 none))
 (k s))
 none))
 none)
def zqji : zqjg := hid zqjh
noncomputable def zqjj : En := ⟨184, .spec (sg [v22y, v25y] [] [v28y] [] zqji), pf [zqf5] [] [.tmp 4] Tryz.func184 (by kernel_rfl) fun _ _ => by kernel_rfl⟩
abbrev zqjk := {β : Type} → Int → (t3y → Bool → Option β) → Option β
def zqjl : zqjk := fun day k =>
 zqj0 day (fun rDateOf rDateOf2 =>
 zqf4 rDateOf.1 (4 : Int) (fun rdigits =>
 cond (decide (List.length rdigits + List.length ([45] : List UInt8) ≤ 9223372036854775807))
 (zqf4 rDateOf.2.1 (2 : Int) (fun rdigits2 =>
 cond (decide (List.length (rdigits ++ ([45] : List UInt8)) + List.length rdigits2 ≤ 9223372036854775807))
 (cond (decide (List.length ((rdigits ++ ([45] : List UInt8)) ++ rdigits2) + List.length ([45] : List UInt8) ≤ 9223372036854775807))
 (zqf4 rDateOf.2.2 (2 : Int) (fun rdigits3 =>
 cond (decide (List.length (((rdigits ++ ([45] : List UInt8)) ++ rdigits2) ++ ([45] : List UInt8)) + List.length rdigits3 ≤ 9223372036854775807))
 (let t := ((((rdigits ++ ([45] : List UInt8)) ++ rdigits2) ++ ([45] : List UInt8)) ++ rdigits3);
 let t2 := (decide (rDateOf2 = (0 : Int)));
 k t t2)
 none))
 none)
 none))
 none))
def zqjm : zqjk := hid zqjl
noncomputable def zqjn : En := ⟨185, .spec (sg [v22y] [] [v28y, v25y] [] zqjm), pf [zqj1, zqf5] [] [.tmp 2, .tmp 3] Tryz.func185 (by kernel_rfl) fun _ _ => by kernel_rfl⟩
abbrev zqjo := {β : Type} → (Int × t1y) → (Int → Int → Option β) → Option β
noncomputable def zqjp : zqjo := Q28 ⟨look tab, gam [zqf6, zqf7], false, false, false, false, [], none, 100000, []⟩ Tryz.f200 [v44y] [] [v22y, v22y] [] [.tmp 2, .tmp 3]
noncomputable def zqjq : En := ⟨200, .spec (sg [v44y] [] [v22y, v22y] [] zqjp), (Q1c mixed (X := ⟨look tab, gam [zqf6, zqf7], false, false, false, false, [], none, 100000, []⟩) Q4 [zqf6, zqf7] rfl [.tmp 2, .tmp 3] Tryz.func200 (by kernel_rfl)).spec⟩
abbrev zqjr := {β : Type} → Int → Int → Int → Int → (Int → Int → Option β) → Option β
noncomputable def zqjs : zqjr := Q28 ⟨look tab, gam [zqex, zqf6, zq9v, zqf7], false, false, false, false, [], none, 100000, []⟩ Tryz.f212 [v22y, v22y, v22y, v22y] [] [v22y, v22y] [] [.tmp 8, .tmp 9]
noncomputable def zqjt : En := ⟨212, .spec (sg [v22y, v22y, v22y, v22y] [] [v22y, v22y] [] zqjs), (Q1c mixed (X := ⟨look tab, gam [zqex, zqf6, zq9v, zqf7], false, false, false, false, [], none, 100000, []⟩) Q4 [zqex, zqf6, zq9v, zqf7] rfl [.tmp 8, .tmp 9] Tryz.func212 (by kernel_rfl)).spec⟩
abbrev zqju := {β : Type} → t10y → (Bool → Option β) → Option β
noncomputable def zqjv : List En := [zqiv, zqdn]
abbrev zqjw (β : Type) := Bool → Option β
abbrev zqjx (β : Type) := Unit → Option β
abbrev zqjy (β : Type) := t10y → Int → Int → zqc → Option β
noncomputable def zqjz : Pc := ⟨80, 0, Q8 1018 (Q3 Tryz.f57), ⟨0, [3, 59, 60, 61], [v26y, v30y, v22y, v22y], [.cells 165 [.data zqd]]⟩, [(.ret, ⟨0, [2], [v25y], []⟩), (.exit 0, ⟨0, [], [], []⟩)]⟩
abbrev zqk0 (β : Type) := Bool → Option β
abbrev zqk1 (β : Type) := t10y → zqc → Option β
noncomputable def zqk2 : Pc := ⟨80, 0, Q8 127 (Q3 Tryz.f57), ⟨0, [0, 3], [v30y, v26y], [.cells 165 [.data zqd]]⟩, [(.ret, ⟨0, [2], [v25y], []⟩)]⟩
abbrev zqk3 (β : Type) := Bool → Option β
abbrev zqk4 (β : Type) := t10y → zqc → Option β
noncomputable def zqk5 : Pc := ⟨80, 0, Q8 63 (Q3 Tryz.f57), ⟨0, [0, 3], [v30y, v26y], [.cells 165 [.data zqd]]⟩, [(.ret, ⟨0, [2], [v25y], []⟩)]⟩
def zqk6 {β : Type} (rec : zqjy β) (k1 : zqjw β) (k2 : zqjx β) : zqjy β := fun t59 t60 t61 f =>
 cond (decide (t61 < t60))
 (cond (decide (0 ≤ t61) && decide (t61 < (List.length t59 : Int)))
 (let e := List.getD t59 (Int.toNat t61) ((0 : Int), (([] : List UInt8), (0 : Int)));
 cond (decide (0 ≤ (if (IntKind.i64.wrap ((List.length f.2.1 : Int) - (1 : Int))) < t61 then (IntKind.i64.wrap ((List.length f.2.1 : Int) - (1 : Int))) else t61)) && decide ((if (IntKind.i64.wrap ((List.length f.2.1 : Int) - (1 : Int))) < t61 then (IntKind.i64.wrap ((List.length f.2.1 : Int) - (1 : Int))) else t61) < (List.length f.2.1 : Int)))
 (let e2 := List.getD f.2.1 (Int.toNat (if (IntKind.i64.wrap ((List.length f.2.1 : Int) - (1 : Int))) < t61 then (IntKind.i64.wrap ((List.length f.2.1 : Int) - (1 : Int))) else t61)) (0 : Int);
 cond (!decide (e.1 = e2))
 (k1 false)
 (rec t59 t60 (IntKind.i64.wrap (t61 + (1 : Int))) f))
 none)
 none)
 (k2 ())
def zqk7 (m : Nat) {β : Type} (k1 : zqjw β) (k2 : zqjx β) : zqjy β := lp4 (fun r => zqk6 r k1 k2) none m
theorem zqk8 {β : Type} (i : Nat) (k1 k2) : zqk7 (β := β) (i + 1) k1 k2 = zqk6 (zqk7 i k1 k2) k1 k2 := rfl
def zqk9 {β : Type} := hid (zqk7 (β := β) fuel)
noncomputable def zqka : Pb := ⟨1018, zqjz, fun _ => zqk9, pl (p := zqjz) zqjv [] (g := fun i _ => zqk7 i) (by kernel_rfl) rfl (by kernel_rfl) (fun _ _ => rfl) fun _ _ _ _ => by kernel_rfl⟩
def zqkb {β : Type} (k1 : zqk0 β) : zqk1 β := fun l f =>
 cond (decide (0 ≤ (1 : Int)) && (decide ((1 : Int) ≤ (List.length l : Int)) && decide ((List.length l : Int) ≤ (List.length l : Int))))
 (zqk9 (fun t2 =>
 k1 t2) (fun _ =>
 k1 true) (List.drop (Int.toNat (1 : Int)) (List.take (Int.toNat (List.length l : Int)) l)) (List.length (List.drop (Int.toNat (1 : Int)) (List.take (Int.toNat (List.length l : Int)) l)) : Int) (0 : Int) f)
 none
def zqkc {β : Type} := hid (zqkb (β := β))
noncomputable def zqkd : Pb := ⟨127, zqk2, fun _ => zqkc, pe (p := zqk2) zqjv [zqka] 127 (g := fun _ => zqkb) (by kernel_rfl) fun _ _ => by kernel_rfl⟩
def zqke {β : Type} (k1 : zqk3 β) : zqk4 β := fun l f =>
 cond (decide ((IntKind.i64.wrap ((List.length l : Int) - (1 : Int))) < (List.length f.2.1 : Int)))
 (k1 false)
 (cond (decide ((List.length f.2.1 : Int) < (IntKind.i64.wrap ((List.length l : Int) - (1 : Int)))))
 (cond (!f.2.2)
 (k1 false)
 (zqkc (fun t2 =>
 k1 t2) l f))
 (zqkc (fun t2 =>
 k1 t2) l f))
def zqkf {β : Type} := hid (zqke (β := β))
noncomputable def zqkg : Pb := ⟨63, zqk5, fun _ => zqkf, pe (p := zqk5) zqjv [zqkd] 63 (g := fun _ => zqke) (by kernel_rfl) fun _ _ => by kernel_rfl⟩
def zqkh : zqju := fun l k =>
 cond (decide ((List.length l : Int) = (0 : Int)))
 (k false)
 (cond (decide (0 ≤ (0 : Int)) && decide ((0 : Int) < (List.length l : Int)))
 (let e := List.getD l (Int.toNat (0 : Int)) ((0 : Int), (([] : List UInt8), (0 : Int)));
 cond (!decide (e.1 = (0 : Int)))
 (k false)
 (cond (decide (0 ≤ (0 : Int)) && decide ((0 : Int) < (List.length l : Int)))
 (let e2 := List.getD l (Int.toNat (0 : Int)) ((0 : Int), (([] : List UInt8), (0 : Int)));
 zqiu e2.2.1 (fun rforms rforms2 =>
 cond (!rforms2)
 (k false)
 (cond (decide (rforms.1 = ([112, 101, 114, 115, 111, 110] : List UInt8)))
 (zqdm l (fun roptions roptions2 =>
 cond (!roptions2)
 (k false)
 (zqkf (fun t2 =>
 k t2) roptions rforms)))
 (zqkf (fun t2 =>
 k t2) l rforms))))
 none))
 none)
def zqki : zqju := hid zqkh
noncomputable def zqkj : En := ⟨57, .spec (sg [v30y] [] [v25y] [] zqki), pf zqjv [zqkg] [.tmp 2] Tryz.func57 (by kernel_rfl) fun _ _ => by kernel_rfl⟩
noncomputable def zqkk : En := .hand (Qz mixed (X := ⟨look tab, gam [zq7n, zq7o], false, false, false, false, q89y, none, 100000, []⟩) Q4 [zq7n, zq7o] rfl (ps := [v26y, v30y]) (is := l73y) (rs := [v22y]) (os := l73y) [.tmp 4] Tryz.func97 (by kernel_rfl)) rfl (by kernel_rfl)
noncomputable def zqkl : En := .hand (Qz mixed (X := ⟨look tab, gam [zq7n, zq7o, zq7w, zq7x, zq7v], false, false, false, false, q89y, none, 100000, []⟩) Q4 [zq7n, zq7o, zq7w, zq7x, zq7v] rfl (ps := [v26y, v30y]) (is := l73y) (rs := [v22y]) (os := l73y) [.tmp 4] Tryz.func100 (by kernel_rfl)) rfl (by kernel_rfl)
noncomputable def zqkm : En := au [zqj1] [v22y] [] [v25y] [] [.tmp 2] Tryz.func117 (by kernel_rfl)
noncomputable def zqkn : En := au [zqkm, zq8i, zq72] [v35y, v53y] [] [v22y] [] [.tmp 4] Tryz.func122 (by kernel_rfl)
noncomputable def zqko : En := au [zq92] [v35y, v28y] [] [v22y, v25y] [] [.tmp 4, .tmp 5] Tryz.func151 (by kernel_rfl)
abbrev zqkp := {β : Type} → zq6 → (t3y → Bool → Option β) → Option β
noncomputable def zqkq : List En := [zqjn, zqjj, zq99]
abbrev zqkr (β : Type) := t3y → Bool → Option β
abbrev zqks (β : Type) := Bool → zq6 → Option β
noncomputable def zqkt : Pc := ⟨95, 0, Q8 861 (Q3 Tryz.f153), ⟨0, [1, 4], [v26y, v25y], [.cells 101 [.data zq7]]⟩, [(.ret, ⟨0, [2, 3], [v28y, v25y], []⟩)]⟩
abbrev zqku (β : Type) := t3y → Bool → Option β
abbrev zqkv (β : Type) := Int → t3y → Option β
noncomputable def zqkw : Pc := ⟨95, 0, Q8 27643 (Q3 Tryz.f153), ⟨0, [5, 6], [v22y, v28y], []⟩, [(.ret, ⟨0, [2, 3], [v28y, v25y], []⟩)]⟩
def zqkx {β : Type} (k1 : zqkr β) : zqks β := fun ok t =>
 zqji t.2.2 (!decide ((Int.tmod t.2.2 (60 : Int)) = (0 : Int))) (fun rhours =>
 k1 rhours ok)
def zqky {β : Type} := hid (zqkx (β := β))
noncomputable def zqkz : Pb := ⟨861, zqkt, fun _ => zqky, pe (p := zqkt) zqkq [] 861 (g := fun _ => zqkx) (by kernel_rfl) fun _ _ => by kernel_rfl⟩
def zql0 {β : Type} (k1 : zqku β) : zqkv β := fun n sign =>
 zqji n false (fun rhours =>
 cond (decide (List.length sign + List.length rhours ≤ 9223372036854775807))
 (cond (decide ((0 : Int) ≤ n))
 (cond (decide (n ≤ (64800 : Int)))
 (let t := (decide ((Int.tmod n (60 : Int)) = (0 : Int)));
 k1 (sign ++ rhours) t)
 (k1 (sign ++ rhours) false))
 (k1 (sign ++ rhours) false))
 none)
def zql1 {β : Type} := hid (zql0 (β := β))
noncomputable def zql2 : Pb := ⟨27643, zqkw, fun _ => zql1, pe (p := zqkw) zqkq [] 27643 (g := fun _ => zql0) (by kernel_rfl) fun _ _ => by kernel_rfl⟩
def zql3 : zqkp := fun t k =>
 let t2 := (decide (t.1 = (1 : Int)));
 cond t2
 (zq97 t.2.2 (fun rItoa =>
 cond (decide ((0 : Int) ≤ t.2.2))
 (let t3 := (decide (t.2.2 ≤ (999999999 : Int)));
 k rItoa t3)
 (k rItoa false)))
 (let t3 := (decide (t.1 = (2 : Int)));
 cond t3
 (cond (decide ((0 : Int) ≤ t.2.2))
 (let ok := (decide (t.2.2 ≤ (86400 : Int)));
 zqky (fun t22 t32 =>
 k t22 t32) ok t)
 (zqky (fun t22 t32 =>
 k t22 t32) false t))
 (let t4 := (decide (t.1 = (3 : Int)));
 cond t4
 (zqjm t.2.2 (fun rdated rdated2 =>
 k rdated rdated2))
 (let t5 := (decide (t.1 = (4 : Int)));
 cond t5
 (cond (decide (t.2.2 < (0 : Int)))
 (let n := (IntKind.i64.wrap (0 - t.2.2));
 zql1 (fun t22 t32 =>
 k t22 t32) n ([45] : List UInt8))
 (zql1 (fun t22 t32 =>
 k t22 t32) t.2.2 ([43] : List UInt8)))
 (let t6 := (decide (t.1 = (5 : Int)));
 cond t6
 (zqjm (IntKind.i64.wrap (Int.tdiv t.2.2 (86400 : Int))) (fun rdated rdated2 =>
 cond (decide (List.length rdated + List.length ([84] : List UInt8) ≤ 9223372036854775807))
 (zqji (Int.tmod t.2.2 (86400 : Int)) true (fun rhours =>
 cond (decide (List.length (rdated ++ ([84] : List UInt8)) + List.length rhours ≤ 9223372036854775807))
 (cond (decide (List.length ((rdated ++ ([84] : List UInt8)) ++ rhours) + List.length ([90] : List UInt8) ≤ 9223372036854775807))
 (cond rdated2
 (let t7 := (((rdated ++ ([84] : List UInt8)) ++ rhours) ++ ([90] : List UInt8));
 let t8 := (decide ((0 : Int) ≤ t.2.2));
 k t7 t8)
 (let t7 := (((rdated ++ ([84] : List UInt8)) ++ rhours) ++ ([90] : List UInt8));
 k t7 false))
 none)
 none))
 none))
 (k ([] : List UInt8) false)))))
def zql4 : zqkp := hid zql3
noncomputable def zql5 : En := ⟨153, .spec (sg [v46y] [] [v28y, v25y] [] zql4), pf zqkq [zqkz, zql2] [.tmp 2, .tmp 3] Tryz.func153 (by kernel_rfl) fun _ _ => by kernel_rfl⟩
abbrev zql6 := {β : Type} → t3y → (Int → Bool → Option β) → Option β
noncomputable def zql7 : List En := [zqjf]
abbrev zql8 (β : Type) := Int → Bool → Option β
abbrev zql9 (β : Type) := t3y → Int → Bool → Option β
noncomputable def zqla : Pc := ⟨32, 0, Q8 15 (Q3 Tryz.f169), ⟨0, [0, 4, 5], [v28y, v22y, v25y], []⟩, [(.ret, ⟨0, [2, 3], [v22y, v25y], []⟩)]⟩
def zqlb {β : Type} (k1 : zql8 β) : zql9 β := fun s n ok =>
 cond ok
 (cond (decide ((List.length s : Int) = (6 : Int)))
 (cond (decide ((-64800 : Int) ≤ n))
 (let t := (decide (n ≤ (64800 : Int)));
 k1 n t)
 (k1 n false))
 (k1 n false))
 (k1 n false)
def zqlc {β : Type} := hid (zqlb (β := β))
noncomputable def zqld : Pb := ⟨15, zqla, fun _ => zqlc, pe (p := zqla) zql7 [] 15 (g := fun _ => zqlb) (by kernel_rfl) fun _ _ => by kernel_rfl⟩
def zqle : zql6 := fun s k =>
 cond (decide (0 ≤ (1 : Int)) && (decide ((1 : Int) ≤ (List.length s : Int)) && decide ((List.length s : Int) ≤ (List.length s : Int))))
 (zqje (List.drop (Int.toNat (1 : Int)) (List.take (Int.toNat (List.length s : Int)) s)) (fun rclock rclock2 =>
 cond (decide (0 ≤ (0 : Int)) && decide ((0 : Int) < (List.length s : Int)))
 (cond (decide (((List.getD s (Int.toNat (0 : Int)) 0).toNat : Int) = (45 : Int)))
 (let n := (IntKind.i64.wrap (0 - rclock));
 zqlc (fun t2 t3 =>
 k t2 t3) s n rclock2)
 (zqlc (fun t2 t3 =>
 k t2 t3) s rclock rclock2))
 none))
 none
def zqlf : zql6 := hid zqle
noncomputable def zqlg : En := ⟨169, .spec (sg [v28y] [] [v22y, v25y] [] zqlf), pf zql7 [zqld] [.tmp 2, .tmp 3] Tryz.func169 (by kernel_rfl) fun _ _ => by kernel_rfl⟩
abbrev zqlh := {β : Type} → t3y → (Int → Bool → Option β) → Option β
def zqli : zqlh := fun s k =>
 cond (!decide ((List.length s : Int) = (10 : Int)))
 (k (0 : Int) false)
 (cond (decide (0 ≤ (4 : Int)) && decide ((4 : Int) < (List.length s : Int)))
 (cond (!decide (((List.getD s (Int.toNat (4 : Int)) 0).toNat : Int) = (45 : Int)))
 (k (0 : Int) false)
 (cond (decide (0 ≤ (7 : Int)) && decide ((7 : Int) < (List.length s : Int)))
 (cond (!decide (((List.getD s (Int.toNat (7 : Int)) 0).toNat : Int) = (45 : Int)))
 (k (0 : Int) false)
 (cond (decide (0 ≤ (0 : Int)) && (decide ((0 : Int) ≤ (4 : Int)) && decide ((4 : Int) ≤ (List.length s : Int))))
 (zqet (List.drop (Int.toNat (0 : Int)) (List.take (Int.toNat (4 : Int)) s)) (fun rnumber rnumber2 =>
 cond (decide (0 ≤ (5 : Int)) && (decide ((5 : Int) ≤ (7 : Int)) && decide ((7 : Int) ≤ (List.length s : Int))))
 (zqf0 (List.drop (Int.toNat (5 : Int)) (List.take (Int.toNat (7 : Int)) s)) (fun rtwo rtwo2 =>
 cond (decide (0 ≤ (8 : Int)) && (decide ((8 : Int) ≤ (List.length s : Int)) && decide ((List.length s : Int) ≤ (List.length s : Int))))
 (zqf0 (List.drop (Int.toNat (8 : Int)) (List.take (Int.toNat (List.length s : Int)) s)) (fun rtwo3 rtwo4 =>
 zqjp (rnumber, (rtwo, rtwo3)) (fun rDay rDay2 =>
 cond rnumber2
 (cond rtwo2
 (cond rtwo4
 (let t := (decide (rDay2 = (0 : Int)));
 k rDay t)
 (k rDay false))
 (k rDay false))
 (k rDay false))))
 none))
 none))
 none))
 none))
 none)
def zqlj : zqlh := hid zqli
noncomputable def zqlk : En := ⟨172, .spec (sg [v28y] [] [v22y, v25y] [] zqlj), pf [zqjq, zqeu, zqf1] [] [.tmp 2, .tmp 3] Tryz.func172 (by kernel_rfl) fun _ _ => by kernel_rfl⟩
abbrev zqll := {β : Type} → t5y → t5y → (Bool → Option β) → Option β
noncomputable def zqlm : List En := [zqcg]
abbrev zqln (β : Type) := Bool → Option β
abbrev zqlo (β : Type) := Unit → Option β
abbrev zqlp (β : Type) := t5y → t5y → Int → Int → Option β
noncomputable def zqlq : Pc := ⟨32, 0, Q8 58 (Q3 Tryz.f23), ⟨0, [1, 2, 15, 16, 17], [v58y, (false, [.fn 24 []]), v58y, v22y, v22y], []⟩, [(.ret, ⟨0, [6], [v25y], []⟩), (.exit 0, ⟨0, [], [], []⟩)]⟩
def zqlr {β : Type} (rec : zqlp β) (k1 : zqln β) (k2 : zqlo β) : zqlp β := fun s2 t15 t16 t17 =>
 cond (decide (t17 < t16))
 (cond (decide (0 ≤ t17) && decide (t17 < (List.length t15 : Int)))
 (let e := List.getD t15 (Int.toNat t17) (([] : List UInt8), ((0 : Int), (([] : List t1y), ((0 : Int), ((0 : Int), false)))));
 cond (decide (0 ≤ t17) && decide (t17 < (List.length s2 : Int)))
 (let e2 := List.getD s2 (Int.toNat t17) (([] : List UInt8), ((0 : Int), (([] : List t1y), ((0 : Int), ((0 : Int), false)))));
 zqcf e e2 (fun rsamePerson =>
 cond (!rsamePerson)
 (k1 false)
 (rec s2 t15 t16 (IntKind.i64.wrap (t17 + (1 : Int))))))
 none)
 none)
 (k2 ())
def zqls (m : Nat) {β : Type} (k1 : zqln β) (k2 : zqlo β) : zqlp β := lp4 (fun r => zqlr r k1 k2) none m
theorem zqlt {β : Type} (i : Nat) (k1 k2) : zqls (β := β) (i + 1) k1 k2 = zqlr (zqls i k1 k2) k1 k2 := rfl
def zqlu {β : Type} := hid (zqls (β := β) fuel)
noncomputable def zqlv : Pb := ⟨58, zqlq, fun _ => zqlu, pl (p := zqlq) zqlm [] (g := fun i _ => zqls i) (by kernel_rfl) rfl (by kernel_rfl) (fun _ _ => rfl) fun _ _ _ _ => by kernel_rfl⟩
def zqlw : zqll := fun s1 s2 k =>
 cond (!decide ((List.length s1 : Int) = (List.length s2 : Int)))
 (k false)
 (zqlu (fun t6 =>
 k t6) (fun _ =>
 k true) s2 s1 (List.length s1 : Int) (0 : Int))
def zqlx : zqll := hid zqlw
noncomputable def zqly : En := ⟨23, .spec (sg [v58y, v58y, (false, [.fn 24 []])] [] [v25y] [] zqlx), pf zqlm [zqlv] [.tmp 6] Tryz.func23 (by kernel_rfl) fun _ _ => by kernel_rfl⟩
noncomputable def zqlz : En := .hand (Qz mixed (X := ⟨look tab, gam [zq7n, zq7o], false, false, false, false, q89y, none, 100000, []⟩) Q4 [zq7n, zq7o] rfl (ps := [v26y, v30y]) (is := l73y) (rs := [v22y]) (os := l73y) [.tmp 4] Tryz.func95 (by kernel_rfl)) rfl (by kernel_rfl)
noncomputable def zqm0 : En := .hand (Qz mixed (X := ⟨look tab, gam [zqko, zq7z, zq7o, zq80], false, false, false, false, q89y, none, 100000, []⟩) Q4 [zqko, zq7z, zq7o, zq80] rfl (ps := [v26y, v30y]) (is := l73y) (rs := [v22y]) (os := l73y) [.tmp 4] Tryz.func101 (by kernel_rfl)) rfl (by kernel_rfl)
noncomputable def zqm1 : En := .hand (Qz mixed (X := ⟨look tab, gam [zq89, zq7z, zq7o, zq80], false, false, false, false, q89y, none, 100000, []⟩) Q4 [zq89, zq7z, zq7o, zq80] rfl (ps := [v26y, v30y]) (is := l73y) (rs := [v22y]) (os := l73y) [.tmp 4] Tryz.func103 (by kernel_rfl)) rfl (by kernel_rfl)
noncomputable def zqm2 : En := .hand (Qz mixed (X := ⟨look tab, gam [zqko, zq7o, zq7w, zq7x, zq7v], false, false, false, false, q89y, none, 100000, []⟩) Q4 [zqko, zq7o, zq7w, zq7x, zq7v] rfl (ps := [v26y, v30y]) (is := l73y) (rs := [v22y]) (os := l73y) [.tmp 4] Tryz.func104 (by kernel_rfl)) rfl (by kernel_rfl)
abbrev zqm3 := {β : Type} → zq6 → (t3y → Int → Option β) → Option β
def zqm4 : zqm3 := fun t k =>
 cond (decide (t.1 = (0 : Int)))
 (zqe1 t.2.1 (fun rName =>
 cond (!rName)
 (k ([] : List UInt8) (8 : Int))
 (cond (!decide (t.2.2 = (0 : Int)))
 (k ([] : List UInt8) (8 : Int))
 (k t.2.1 (0 : Int)))))
 (zql4 t (fun rtext rtext2 =>
 cond (!rtext2)
 (k ([] : List UInt8) (8 : Int))
 (cond (!decide (t.2.1 = ([] : List UInt8)))
 (k ([] : List UInt8) (8 : Int))
 (k rtext (0 : Int)))))
def zqm5 : zqm3 := hid zqm4
noncomputable def zqm6 : En := ⟨105, .spec (sg [v46y] [] [v28y, v22y] [] zqm5), pf [zqe2, zql5] [] [.tmp 2, .tmp 3] Tryz.func105 (by kernel_rfl) fun _ _ => by kernel_rfl⟩
noncomputable def zqm7 : En := au [zqkm] [v22y] [] [v25y] [] [.tmp 2] Tryz.func116 (by kernel_rfl)
abbrev zqm8 := {β : Type} → t3y → (Int → Bool → Option β) → Option β
def zqm9 : zqm8 := fun s k =>
 cond (!decide ((List.length s : Int) = (20 : Int)))
 (k (0 : Int) false)
 (cond (decide (0 ≤ (10 : Int)) && decide ((10 : Int) < (List.length s : Int)))
 (cond (!decide (((List.getD s (Int.toNat (10 : Int)) 0).toNat : Int) = (84 : Int)))
 (k (0 : Int) false)
 (cond (decide (0 ≤ (19 : Int)) && decide ((19 : Int) < (List.length s : Int)))
 (cond (!decide (((List.getD s (Int.toNat (19 : Int)) 0).toNat : Int) = (90 : Int)))
 (k (0 : Int) false)
 (cond (decide (0 ≤ (0 : Int)) && (decide ((0 : Int) ≤ (10 : Int)) && decide ((10 : Int) ≤ (List.length s : Int))))
 (zqlj (List.drop (Int.toNat (0 : Int)) (List.take (Int.toNat (10 : Int)) s)) (fun rdate rdate2 =>
 cond (decide (0 ≤ (11 : Int)) && (decide ((11 : Int) ≤ (19 : Int)) && decide ((19 : Int) ≤ (List.length s : Int))))
 (zqje (List.drop (Int.toNat (11 : Int)) (List.take (Int.toNat (19 : Int)) s)) (fun rclock rclock2 =>
 cond rdate2
 (cond rclock2
 (let t := (IntKind.i64.wrap ((IntKind.i64.wrap (rdate * (86400 : Int))) + rclock));
 let t2 := (decide (rclock < (86400 : Int)));
 k t t2)
 (let t := (IntKind.i64.wrap ((IntKind.i64.wrap (rdate * (86400 : Int))) + rclock));
 k t false))
 (let t := (IntKind.i64.wrap ((IntKind.i64.wrap (rdate * (86400 : Int))) + rclock));
 k t false)))
 none))
 none))
 none))
 none)
def zqma : zqm8 := hid zqm9
noncomputable def zqmb : En := ⟨171, .spec (sg [v28y] [] [v22y, v25y] [] zqma), pf [zqjf, zqlk] [] [.tmp 2, .tmp 3] Tryz.func171 (by kernel_rfl) fun _ _ => by kernel_rfl⟩
def zqmc : Shelf.Ren :=
   {
   f := fun x =>
    match x with
    | 20 => 238
    | n => n,
   t := fun x =>
    match x with
    | 24 => 255
    | 22 => 251
    | 3 => 3
    | 25 => 284
    | 4 => 4
    | 0 => 0
    | n => n,
   g := fun x => x }
theorem zqmd : Go.Proofs.SlLaysF0.n20 Tryz.prog zqmc :=
 {
  mixed := by kernel_rfl,
  f20 := Exists.intro "slices.insertionSortCmpFunc[pagewatch/zone.occurrence]" ⟨of_decide_eq_true (by kernel_rfl), Eq.trans Tryz.func238 (congrArg some (by kernel_rfl))⟩,
  t0 := Tryz.underlying0,
  a0 := Tryz.isAgg0,
  z0 := Tryz.sizeOf0,
  v0 := Tryz.zeroValue0,
  t3 := Tryz.underlying3,
  a3 := Tryz.isAgg3,
  z3 := Tryz.sizeOf3,
  v3 := Tryz.zeroValue3,
  t4 := Tryz.underlying4,
  a4 := Tryz.isAgg4,
  z4 := Tryz.sizeOf4,
  v4 := Tryz.zeroValue4,
  t22 := Tryz.underlying251,
  a22 := Tryz.isAgg251,
  z22 := Tryz.sizeOf251,
  v22 := Tryz.zeroValue251,
  t25 := Tryz.underlying284,
  a25 := Tryz.isAgg284,
  z25 := Tryz.sizeOf284,
  v25 := Tryz.zeroValue284 }
def zqme : t1y → Bool := fun x => decide (-4611686018427387904 ≤ x.1) && decide (x.1 < 4611686018427387904)
def zqmf : t1y → t1y → Int := fun x y => x.1 - y.1
def zqmg : List t1y → List t1y := Q1h zqme ((0, 0) : Int × Int) rfl zqmf
theorem zqmh (x y : Int × Int) (hx : zqme x = true) (hy : zqme y = true) (W : World) : Calls Tryz.prog 214 #[.agg (encT (.prod (.int .i64) (.int .i64)) x).toArray, .agg (encT (.prod (.int .i64) (.int .i64)) y).toArray] W fun e w' => e = .returned (.int .i64 (zqmf x y)) ∧ ∃ q os', w' = Go.Sort.grow (W.drewN q) os' := by
 obtain ⟨a, b⟩ := x
 obtain ⟨c, d⟩ := y
 simp only [zqme, Bool.and_eq_true, decide_eq_true_eq] at hx hy
 obtain ⟨h1, h2⟩ := hx
 obtain ⟨h3, h4⟩ := hy
 change Calls Tryz.prog 214 #[.agg #[.int .i64 a, .int .i64 b], .agg #[.int .i64 c, .int .i64 d]] W fun e w' => e = .returned (.int .i64 (a - c)) ∧ _
 have hw : Go.RowKit.wrap64 (a - c) = a - c := by unfold Go.RowKit.wrap64; omega
 go_enter Tryz.func214, Tryz.ntmps214
 go_wp2
 go_ret
 exact ⟨rfl, 0, _, by rw [Go.Sort.alloc_eq_grow, Go.Sort.alloc_eq_grow, Go.Sort.grow_grow]; rfl⟩
theorem zqmi : Go.Sort.SWO (Go.Proofs.ltOf fun (x y : {x : Int × Int // zqme x = true}) => zqmf x.1 y.1) := by
 constructor
 ·intro x
  refine decide_eq_false ?_
  show ¬ x.1.1 - x.1.1 < 0
  omega
 ·intro x y z h1 h2
  have h1 : x.1.1 - y.1.1 < 0 := of_decide_eq_true h1
  have h2 : y.1.1 - z.1.1 < 0 := of_decide_eq_true h2
  refine decide_eq_true ?_
  show x.1.1 - z.1.1 < 0
  omega
 ·intro x y z h1 h2
  have h1 : ¬ x.1.1 - y.1.1 < 0 := of_decide_eq_false h1
  have h2 : ¬ y.1.1 - z.1.1 < 0 := of_decide_eq_false h2
  refine decide_eq_false ?_
  show ¬ x.1.1 - z.1.1 < 0
  omega
theorem zqmj (p : Option Addr) (n cap : Nat) (w : World) (Q : World → Prop) (hn : n < 13) (h : Calls Tryz.prog 238 #[.slice p n cap, .int .i64 0, .int .i64 n, .func (.func 214) #[] #[]] w (fun e2 w' => e2 = .returned (.tuple #[]) ∧ Q w')) :
  Calls Tryz.prog 213 #[.slice p n cap, .func (.func 214) #[] #[]] w fun e2 w' => e2 = .returned (.tuple #[]) ∧ Q w' := by
 have h2 : Calls Tryz.prog 226 #[.slice p n cap, .int .i64 n, .func (.func 214) #[] #[]] w fun e2 w' => e2 = .returned (.tuple #[]) ∧ Q w' := by
  go_enter Tryz.func226, Tryz.ntmps226
  go_wp2
  refine wp_loop_rounds 1 ?_
  rw [rounds_succ]
  go_wp2_with (refine h.mono ?_; rintro e w' ⟨rfl, hq⟩)
  refine wp_loop_rounds 1 ?_
  rw [rounds_succ]
  go_wp2
  go_end0
  exact ⟨rfl, hq⟩
 go_enter Tryz.func213, Tryz.ntmps213
 go_wp2_with (refine h2.mono ?_; rintro e w' ⟨rfl, hq⟩)
 go_end0
 exact ⟨rfl, hq⟩
def zqmk : RowF := ⟨255, (.prod (.int .i64) (.int .i64)), false, fun l => List.all l zqme && decide (List.length l < 13), zqmg, some 214⟩
theorem zqml : RowOk Tryz.prog 213 zqmk :=
 Qg6 (t := 255) (e := (.prod (.int .i64) (.int .i64))) (good := zqme) (d0 := ((0, 0) : Int × Int)) (h0 := rfl) (cf := zqmf) (g := 214) rfl (by decide) zqmd rfl Tryz.isAgg255 Tryz.sizeOf255 zqmi (Go.Proofs.enters_of Tryz.func214 (by kernel_rfl) rfl) zqmh zqmj ⟨_, Tryz.func213, by kernel_rfl, by kernel_rfl⟩
noncomputable def zqmm : En := ⟨_, .rows zqmk, zqml⟩
abbrev zqmn := {β : Type} → t8y → (t3y → Int → Option β) → Option β
noncomputable def zqmo : List En := [zqm6, zqkj, zq70]
abbrev zqmp (β : Type) := t3y → Int → Option β
abbrev zqmq (β : Type) := (List t3y) → Option β
abbrev zqmr (β : Type) := t10y → Int → Int → (List t3y) → Option β
noncomputable def zqms : Pc := ⟨39, 0, Q8 122 (Q3 Tryz.f59), ⟨0, [4, 15, 16, 17], [v39y, v30y, v22y, v22y], [.row 9 .str]⟩, [(.ret, ⟨0, [2, 3], [v28y, v22y], []⟩), (.exit 0, ⟨0, [4], [v39y], [.row 9 .str]⟩)]⟩
def zqmt {β : Type} (rec : zqmr β) (k1 : zqmp β) (k2 : zqmq β) : zqmr β := fun t15 t16 t17 words =>
 cond (decide (t17 < t16))
 (cond (decide (0 ≤ t17) && decide (t17 < (List.length t15 : Int)))
 (let e := List.getD t15 (Int.toNat t17) ((0 : Int), (([] : List UInt8), (0 : Int)));
 zqm5 e (fun rText rText2 =>
 cond (!decide (rText2 = (0 : Int)))
 (k1 ([] : List UInt8) (8 : Int))
 (let l := ([rText] : List t3y);
 cond (decide ((List.length words + List.length l) * 16 ≤ Qa))
 (let l2 := (words ++ l);
 rec t15 t16 (IntKind.i64.wrap (t17 + (1 : Int))) l2)
 none)))
 none)
 (k2 words)
def zqmu (m : Nat) {β : Type} (k1 : zqmp β) (k2 : zqmq β) : zqmr β := lp4 (fun r => zqmt r k1 k2) none m
theorem zqmv {β : Type} (i : Nat) (k1 k2) : zqmu (β := β) (i + 1) k1 k2 = zqmt (zqmu i k1 k2) k1 k2 := rfl
def zqmw {β : Type} := hid (zqmu (β := β) fuel)
noncomputable def zqmx : Pb := ⟨122, zqms, fun _ => zqmw, pl (p := zqms) zqmo [] (g := fun i _ => zqmu i) (by kernel_rfl) rfl (by kernel_rfl) (fun _ _ => rfl) fun _ _ _ _ => by kernel_rfl⟩
def zqmy : zqmn := fun s k =>
 zqki s.2 (fun rForm =>
 cond (!rForm)
 (k ([] : List UInt8) (8 : Int))
 (zqmw (fun t2 t3 =>
 k t2 t3) (fun words =>
 cond (decide (List.length words ≤ 140737488355328) && decide (List.length (Lib.join words ([32] : List UInt8)) ≤ 140737488355328))
 (let out := (Lib.join words ([32] : List UInt8));
 cond (decide ((512 : Int) < (List.length out : Int)))
 (k ([] : List UInt8) (5 : Int))
 (k out (0 : Int)))
 none) s.2 (List.length s.2 : Int) (0 : Int) ([] : List t3y)))
def zqmz : zqmn := hid zqmy
noncomputable def zqn0 : En := ⟨59, .spec (sg [(true, [.data (.prod (.int .i64) (.slice zq7))])] [] [v28y, v22y] [] zqmz), pf zqmo [zqmx] [.tmp 2, .tmp 3] Tryz.func59 (by kernel_rfl) fun _ _ => by kernel_rfl⟩
abbrev zqn1 := {β : Type} → t3y → (Int → Int → Bool → Option β) → Option β
noncomputable def zqn2 : List En := [zqe2, zqjf, zqlk, zqmb, zqeu, zqlg, zq8d, zq8q]
abbrev zqn3 (β : Type) := Int → Int → Bool → Option β
abbrev zqn4 (β : Type) := t3y → Option β
noncomputable def zqn5 : Pc := ⟨83, 0, Q8 7 (Q3 Tryz.f130), ⟨0, [0], [v28y], []⟩, [(.ret, ⟨0, [2, 3, 4], [v22y, v22y, v25y], []⟩)]⟩
abbrev zqn6 (β : Type) := Int → Int → Bool → Option β
abbrev zqn7 (β : Type) := t3y → Option β
abbrev zqn8 (β : Type) := t3y → Bool → Option β
noncomputable def zqn9 : Pc := ⟨83, 0, Q8 215 (Q3 Tryz.f130), ⟨0, [0, 23], [v28y, v25y], []⟩, [(.ret, ⟨0, [2, 3, 4], [v22y, v22y, v25y], []⟩), (.normal, ⟨0, [0], [v28y], []⟩)]⟩
def zqna {β : Type} (k1 : zqn3 β) : zqn4 β := fun s =>
 zqet s (fun rnumber rnumber2 =>
 cond rnumber2
 (cond (decide (0 ≤ (0 : Int)) && decide ((0 : Int) < (List.length s : Int)))
 (cond (!decide (((List.getD s (Int.toNat (0 : Int)) 0).toNat : Int) = (48 : Int)))
 (k1 (1 : Int) rnumber true)
 (let t := (decide (s = ([48] : List UInt8)));
 k1 (1 : Int) rnumber t))
 none)
 (k1 (1 : Int) rnumber false))
def zqnb {β : Type} := hid (zqna (β := β))
noncomputable def zqnc : Pb := ⟨7, zqn5, fun _ => zqnb, pe (p := zqn5) zqn2 [] 7 (g := fun _ => zqna) (by kernel_rfl) fun _ _ => by kernel_rfl⟩
def zqnd {β : Type} (k1 : zqn6 β) (k2 : zqn7 β) : zqn8 β := fun s t23 =>
 cond t23
 (zqlf s (fun roffset roffset2 =>
 k1 (4 : Int) roffset roffset2))
 (zq8o s ([84] : List UInt8) (fun rContains =>
 cond rContains
 (zqma s (fun rinstant rinstant2 =>
 k1 (5 : Int) rinstant rinstant2))
 (zq8o s ([45] : List UInt8) (fun rContains2 =>
 cond rContains2
 (zqlj s (fun rdate rdate2 =>
 k1 (3 : Int) rdate rdate2))
 (zq8o s ([58] : List UInt8) (fun rContains3 =>
 cond rContains3
 (zqje s (fun rclock rclock2 =>
 k1 (2 : Int) rclock rclock2))
 (k2 s)))))))
def zqne {β : Type} := hid (zqnd (β := β))
noncomputable def zqnf : Pb := ⟨215, zqn9, fun _ => zqne, pe (p := zqn9) zqn2 [] 215 (g := fun _ => zqnd) (by kernel_rfl) fun _ _ => by kernel_rfl⟩
def zqng : zqn1 := fun s k =>
 cond (decide (0 ≤ (0 : Int)) && decide ((0 : Int) < (List.length s : Int)))
 (let c := ((List.getD s (Int.toNat (0 : Int)) 0).toNat : Int);
 zq8c c (fun rsmall =>
 cond rsmall
 (zqe1 s (fun rName =>
 k (0 : Int) (0 : Int) rName))
 (cond (decide (c = (43 : Int)))
 (zqne (fun t2 t3 t4 =>
 k t2 t3 t4) (fun s2 =>
 zqnb (fun t2 t3 t4 =>
 k t2 t3 t4) s2) s true)
 (let t := (decide (c = (45 : Int)));
 zqne (fun t2 t3 t4 =>
 k t2 t3 t4) (fun s2 =>
 zqnb (fun t2 t3 t4 =>
 k t2 t3 t4) s2) s t))))
 none
def zqnh : zqn1 := hid zqng
noncomputable def zqni : En := ⟨130, .spec (sg [v28y] [] [v22y, v22y, v25y] [] zqnh), pf zqn2 [zqnc, zqnf] [.tmp 2, .tmp 3, .tmp 4] Tryz.func130 (by kernel_rfl) fun _ _ => by kernel_rfl⟩
abbrev zqnj := {β : Type} → zqa → (Int → t9y → Option β) → Option β
noncomputable def zqnk : List En := [zqjt, zq9b, zq9l, zqmm]
abbrev zqnl (β : Type) := Int → t9y → Option β
abbrev zqnm (β : Type) := Int → zqa → Option β
abbrev zqnn (β : Type) := Int → t13y → Int → Int → zqa → Option β
noncomputable def zqno : Pc := ⟨86, 0, Q8 250 (Q3 Tryz.f187), ⟨0, [1, 4, 23, 24, 25], [v26y, v22y, v42y, v22y, v22y], [b63y]⟩, [(.ret, ⟨0, [2, 3], [v39y, v22y], l79y⟩), (.exit 0, ⟨0, [1, 4], [v26y, v22y], [b63y]⟩)]⟩
abbrev zqnp (β : Type) := t9y → Option β
abbrev zqnq (β : Type) := t13y → Int → Int → t9y → Option β
noncomputable def zqnr : Pc := ⟨86, 0, Q8 2042 (Q3 Tryz.f187), ⟨0, [8, 46, 47, 48], [v39y, v42y, v22y, v22y], l79y⟩, [(.exit 2, ⟨0, [8], [v39y], l79y⟩)]⟩
abbrev zqns (β : Type) := t13y → Int → Int → t9y → Option β
abbrev zqnt (β : Type) := Int → t13y → Int → Int → t9y → zq8 → Option β
noncomputable def zqnu : Pc := ⟨86, 0, Q8 230 (Q1e zqnr.c), ⟨0, [8, 10, 11, 46, 47, 48], [v39y, v33y, v22y, v42y, v22y, v22y], [.row 255 (.prod (.int .i64) (.int .i64)), .cells 111 [.data zq9]]⟩, [(.exit 4, ⟨0, [8, 46, 47, 48], [v39y, v42y, v22y, v22y], l79y⟩)]⟩
def zqnv {β : Type} (rec : zqnn β) (k1 : zqnl β) (k2 : zqnm β) : zqnn β := fun n t23 t24 t25 z =>
 cond (decide (t25 < t24))
 (cond (decide (0 ≤ t25) && decide (t25 < (List.length t23 : Int)))
 (let e := List.getD t23 (Int.toNat t25) ((0 : Int), ((0 : Int), ((0 : Int), ((0 : Int), ((0 : Int), ((0 : Int), (0 : Int)))))));
 zq9k e (fun rrule =>
 cond (!decide (rrule = (0 : Int)))
 (k1 rrule ([] : List t1y))
 (let n2 := (IntKind.i64.wrap (n + (IntKind.i64.wrap ((IntKind.i64.wrap (e.2.1 - e.1)) + (1 : Int)))));
 rec n2 t23 t24 (IntKind.i64.wrap (t25 + (1 : Int))) z)))
 none)
 (k2 n z)
def zqnw (m : Nat) {β : Type} (k1 : zqnl β) (k2 : zqnm β) : zqnn β := lp5 (fun r => zqnv r k1 k2) none m
theorem zqnx {β : Type} (i : Nat) (k1 k2) : zqnw (β := β) (i + 1) k1 k2 = zqnv (zqnw i k1 k2) k1 k2 := rfl
def zqny {β : Type} := hid (zqnw (β := β) fuel)
noncomputable def zqnz : Pb := ⟨250, zqno, fun _ => zqny, pl (p := zqno) zqnk [] (g := fun i _ => zqnw i) (by kernel_rfl) rfl (by kernel_rfl) (fun _ _ => rfl) fun _ _ _ _ => by kernel_rfl⟩
def zqo0 {β : Type} (rec : zqnt β) (k1 : zqns β) : zqnt β := fun y t46 t47 t48 out r_ =>
 cond (decide (y ≤ r_.2.1))
 (zqjs y r_.2.2.1 r_.2.2.2.1 r_.2.2.2.2.1 (fun rNth rNth2 =>
 let l := ([((IntKind.i64.wrap ((IntKind.i64.wrap (rNth * (86400 : Int))) + r_.2.2.2.2.2.1)), r_.2.2.2.2.2.2)] : List t1y);
 cond (decide ((List.length out + List.length l) * 16 ≤ Qa))
 (let l2 := (out ++ l);
 let y2 := (IntKind.i64.wrap (y + (1 : Int)));
 rec y2 t46 t47 t48 l2 r_)
 none))
 (k1 t46 t47 t48 out)
def zqo1 (m : Nat) {β : Type} (k1 : zqns β) : zqnt β := lp6 (fun r => zqo0 r k1) none m
theorem zqo2 {β : Type} (i : Nat) (k1) : zqo1 (β := β) (i + 1) k1 = zqo0 (zqo1 i k1) k1 := rfl
def zqo3 {β : Type} := hid (zqo1 (β := β) fuel)
noncomputable def zqo4 : Pb := ⟨230, zqnu, fun _ => zqo3, pl (p := zqnu) zqnk [] (g := fun i _ => zqo1 i) (by kernel_rfl) rfl (by kernel_rfl) (fun _ _ => rfl) fun _ _ _ _ => by kernel_rfl⟩
def zqo5 {β : Type} (rec : zqnq β) (k1 : zqnp β) : zqnq β := fun t46 t47 t48 out =>
 cond (decide (t48 < t47))
 (cond (decide (0 ≤ t48) && decide (t48 < (List.length t46 : Int)))
 (let e := List.getD t46 (Int.toNat t48) ((0 : Int), ((0 : Int), ((0 : Int), ((0 : Int), ((0 : Int), ((0 : Int), (0 : Int)))))));
 zqo3 (fun t462 t472 t482 out2 =>
 rec t462 t472 (IntKind.i64.wrap (t482 + (1 : Int))) out2) e.1 t46 t47 t48 out e)
 none)
 (k1 out)
def zqo6 (m : Nat) {β : Type} (k1 : zqnp β) : zqnq β := lp4 (fun r => zqo5 r k1) none m
theorem zqo7 {β : Type} (i : Nat) (k1) : zqo6 (β := β) (i + 1) k1 = zqo5 (zqo6 i k1) k1 := rfl
def zqo8 {β : Type} := hid (zqo6 (β := β) fuel)
noncomputable def zqo9 : Pb := ⟨2042, zqnr, fun _ => zqo8, pl (p := zqnr) zqnk [zqo4] (g := fun i _ => zqo6 i) (by kernel_rfl) rfl (by kernel_rfl) (fun _ _ => rfl) fun _ _ _ _ => by kernel_rfl⟩
def zqoa : zqnj := fun z k =>
 Qdf z.2.1 (-64800 : Int) (64800 : Int) (fun rin =>
 cond (!rin)
 (k (1 : Int) ([] : List t1y))
 (cond (decide ((16 : Int) < (List.length z.2.2 : Int)))
 (k (5 : Int) ([] : List t1y))
 (zqny (fun t3 t2 =>
 k t3 t2) (fun n z2 =>
 cond (decide ((640 : Int) < n))
 (k (5 : Int) ([] : List t1y))
 (zqo8 (fun out =>
 cond ((List.all out zqme) && decide (List.length out < 13))
 (let l := (zqmg out);
 k (0 : Int) l)
 none) z2.2.2 (List.length z2.2.2 : Int) (0 : Int) ([] : List t1y))) (0 : Int) z.2.2 (List.length z.2.2 : Int) (0 : Int) z)))
def zqob : zqnj := hid zqoa
noncomputable def zqoc : En := ⟨187, .spec (sg [v49y] [] [v39y, v22y] l79y zqob), pf zqnk [zqnz, zqo9] [.tmp 2, .tmp 3] Tryz.func187 (by kernel_rfl) fun _ _ => by kernel_rfl⟩
abbrev zqod := {β : Type} → t0y → t0y → (Bool → Option β) → Option β
noncomputable def zqoe : List En := [zqck]
abbrev zqof (β : Type) := Bool → Option β
abbrev zqog (β : Type) := Unit → Option β
abbrev zqoh (β : Type) := t0y → t0y → Int → Int → Option β
noncomputable def zqoi : Pc := ⟨32, 0, Q8 58 (Q3 Tryz.f25), ⟨0, [1, 2, 15, 16, 17], [v51y, (false, [.fn 26 []]), v51y, v22y, v22y], []⟩, [(.ret, ⟨0, [6], [v25y], []⟩), (.exit 0, ⟨0, [], [], []⟩)]⟩
def zqoj {β : Type} (rec : zqoh β) (k1 : zqof β) (k2 : zqog β) : zqoh β := fun s2 t15 t16 t17 =>
 cond (decide (t17 < t16))
 (cond (decide (0 ≤ t17) && decide (t17 < (List.length t15 : Int)))
 (let e := List.getD t15 (Int.toNat t17) (([] : List UInt8), ((0 : Int), ([] : List Int)));
 cond (decide (0 ≤ t17) && decide (t17 < (List.length s2 : Int)))
 (let e2 := List.getD s2 (Int.toNat t17) (([] : List UInt8), ((0 : Int), ([] : List Int)));
 zqcj e e2 (fun rsameCalendar =>
 cond (!rsameCalendar)
 (k1 false)
 (rec s2 t15 t16 (IntKind.i64.wrap (t17 + (1 : Int))))))
 none)
 none)
 (k2 ())
def zqok (m : Nat) {β : Type} (k1 : zqof β) (k2 : zqog β) : zqoh β := lp4 (fun r => zqoj r k1 k2) none m
theorem zqol {β : Type} (i : Nat) (k1 k2) : zqok (β := β) (i + 1) k1 k2 = zqoj (zqok i k1 k2) k1 k2 := rfl
def zqom {β : Type} := hid (zqok (β := β) fuel)
noncomputable def zqon : Pb := ⟨58, zqoi, fun _ => zqom, pl (p := zqoi) zqoe [] (g := fun i _ => zqok i) (by kernel_rfl) rfl (by kernel_rfl) (fun _ _ => rfl) fun _ _ _ _ => by kernel_rfl⟩
def zqoo : zqod := fun s1 s2 k =>
 cond (!decide ((List.length s1 : Int) = (List.length s2 : Int)))
 (k false)
 (zqom (fun t6 =>
 k t6) (fun _ =>
 k true) s2 s1 (List.length s1 : Int) (0 : Int))
def zqop : zqod := hid zqoo
noncomputable def zqoq : En := ⟨25, .spec (sg [v51y, v51y, (false, [.fn 26 []])] [] [v25y] [] zqop), pf zqoe [zqon] [.tmp 6] Tryz.func25 (by kernel_rfl) fun _ _ => by kernel_rfl⟩
noncomputable def zqor : En := au [zqm7] [v34y, (false, [.fn 116 []])] [] [v22y] [] [.tmp 4] Tryz.func161 (by kernel_rfl)
noncomputable def zqos : En := au [zq8j] [v34y, (false, [.fn 163 [0]])] [b29y] [v22y] [b29y] [.tmp 4] Tryz.func161 (by kernel_rfl)
abbrev zqot := {β : Type} → (List t8y) → (t3y → Int → Option β) → Option β
noncomputable def zqou : List En := [zqn0, zq5w, zq61, zq5r]
abbrev zqov (β : Type) := t3y → Int → Option β
abbrev zqow (β : Type) := t11y → Option β
abbrev zqox (β : Type) := (List t8y) → Int → Int → t11y → Option β
noncomputable def zqoy : Pc := ⟨30, 0, Q8 58 (Q3 Tryz.f35), ⟨0, [4, 9, 10, 11], [v26y, v55y, v22y, v22y], [.cells 131 [.bself 0, .rowh 1], .row 5 (.int .u8)]⟩, [(.ret, ⟨0, [2, 3], [v28y, v22y], []⟩), (.exit 0, ⟨0, [4], [v26y], [.cells 131 [.bself 0, .rowh 1], .row 5 (.int .u8)]⟩)]⟩
def zqoz {β : Type} (rec : zqox β) (k1 : zqov β) (k2 : zqow β) : zqox β := fun t9 t10 t11 b1_ =>
 cond (decide (t11 < t10))
 (cond (decide (0 ≤ t11) && decide (t11 < (List.length t9 : Int)))
 (let e := List.getD t9 (Int.toNat t11) ((0 : Int), ([] : List zq6));
 zqmz e (fun rwritten rwritten2 =>
 cond (!decide (rwritten2 = (0 : Int)))
 (k1 ([] : List UInt8) rwritten2)
 (cond (decide (List.length rwritten + List.length ([10] : List UInt8) ≤ 9223372036854775807))
 (cond (decide (List.length b1_ + List.length (rwritten ++ ([10] : List UInt8)) ≤ 140737488355328))
 (let l := (b1_ ++ Q12 (rwritten ++ ([10] : List UInt8)));
 rec t9 t10 (IntKind.i64.wrap (t11 + (1 : Int))) l)
 none)
 none)))
 none)
 (k2 b1_)
def zqp0 (m : Nat) {β : Type} (k1 : zqov β) (k2 : zqow β) : zqox β := lp4 (fun r => zqoz r k1 k2) none m
theorem zqp1 {β : Type} (i : Nat) (k1 k2) : zqp0 (β := β) (i + 1) k1 k2 = zqoz (zqp0 i k1 k2) k1 k2 := rfl
def zqp2 {β : Type} := hid (zqp0 (β := β) fuel)
noncomputable def zqp3 : Pb := ⟨58, zqoy, fun _ => zqp2, pl (p := zqoy) zqou [] (g := fun i _ => zqp0 i) (by kernel_rfl) rfl (by kernel_rfl) (fun _ _ => rfl) fun _ _ _ _ => by kernel_rfl⟩
def zqp4 : zqot := fun l k =>
 zqp2 (fun t2 t3 =>
 k t2 t3) (fun b1_ =>
 cond (decide ((65536 : Int) < (List.length b1_ : Int)))
 (k ([] : List UInt8) (5 : Int))
 (cond (Q71 b1_)
 (k (Q3u b1_) (0 : Int))
 none)) l (List.length l : Int) (0 : Int) ([] : List Int)
def zqp5 : zqot := hid zqp4
noncomputable def zqp6 : En := ⟨35, .spec (sg [v55y] [] [v28y, v22y] [] zqp5), pf zqou [zqp3] [.tmp 2, .tmp 3] Tryz.func35 (by kernel_rfl) fun _ _ => by kernel_rfl⟩
abbrev zqp7 := {β : Type} → t3y → (zq6 → Int → Option β) → Option β
def zqp8 : zqp7 := fun word k =>
 cond (decide (word = ([] : List UInt8)))
 (k zqk (2 : Int))
 (zqnh word (fun rform rform2 rform3 =>
 cond (!rform3)
 (k zqk (2 : Int))
 (let t := (decide (rform = (0 : Int)));
 cond t
 (k (rform, (word, (0 : Int))) (0 : Int))
 (k (rform, (([] : List UInt8), rform2)) (0 : Int)))))
def zqp9 : zqp7 := hid zqp8
noncomputable def zqpa : En := ⟨90, .spec (sg [v28y] [] [v46y, v22y] [] zqp9), pf [zqni] [] [.cell 2 101, .tmp 3] Tryz.func90 (by kernel_rfl) fun _ _ => by kernel_rfl⟩
abbrev zqpb := {β : Type} → zqa → (Int → t9y → Option β) → Option β
noncomputable def zqpc : List En := [zq9b, zqoc]
abbrev zqpd (β : Type) := Int → t9y → Option β
abbrev zqpe (β : Type) := t9y → Option β
abbrev zqpf (β : Type) := Int → Int → Int → t9y → t9y → Option β
noncomputable def zqpg : Pc := ⟨79, 0, Q8 506 (Q3 Tryz.f156), ⟨0, [6, 7, 22, 23, 24], [v39y, v22y, v68y, v22y, v22y], l84y⟩, [(.ret, ⟨0, [2, 3], [v39y, v22y], l88y⟩), (.exit 0, ⟨0, [6], [v39y], l88y⟩)]⟩
abbrev zqph (β : Type) := Int → Int → Int → t9y → t9y → Option β
abbrev zqpi (β : Type) := Int → Int → Int → t9y → t1y → t9y → Option β
noncomputable def zqpj : Pc := ⟨79, 0, Q8 463 (Q1e zqpg.c), ⟨0, [6, 9, 10, 22, 23, 24], [v39y, v33y, v22y, (false, [.rowh 2]), v22y, v22y], [.row 257 (.prod (.int .i64) (.int .i64)), .cells 255 [.data (.prod (.int .i64) (.int .i64))], .row 255 (.prod (.int .i64) (.int .i64))]⟩, [(.normal, ⟨0, [6, 7, 22, 23, 24], [v39y, v22y, v68y, v22y, v22y], l84y⟩)]⟩
def zqpk {β : Type} (k1 : zqph β) : zqpi β := fun at_ t23 t24 out o t22 =>
 let l := ([(at_, o.2)] : List t1y);
 cond (decide ((List.length out + List.length l) * 16 ≤ Qa))
 (let l2 := (out ++ l);
 k1 o.2 t23 t24 l2 t22)
 none
def zqpl {β : Type} := hid (zqpk (β := β))
noncomputable def zqpm : Pb := ⟨463, zqpj, fun _ => zqpl, pe (p := zqpj) zqpc [] 463 (g := fun _ => zqpk) (by kernel_rfl) fun _ _ => by kernel_rfl⟩
def zqpn {β : Type} (rec : zqpf β) (k1 : zqpd β) (k2 : zqpe β) : zqpf β := fun now t23 t24 out t22 =>
 cond (decide (t24 < t23))
 (cond (decide (0 ≤ t24) && decide (t24 < (List.length t22 : Int)))
 (cond (decide (((List.getD t22 (Int.toNat t24) ((0 : Int), (0 : Int))).2) = now))
 (rec now t23 (IntKind.i64.wrap (t24 + (1 : Int))) out t22)
 (let at_ := (IntKind.i64.wrap (((List.getD t22 (Int.toNat t24) ((0 : Int), (0 : Int))).1) - now));
 let change := (IntKind.i64.wrap (((List.getD t22 (Int.toNat t24) ((0 : Int), (0 : Int))).2) - now));
 cond (decide ((86400 : Int) ≤ change))
 (k1 (6 : Int) ([] : List t1y))
 (cond (decide (change ≤ (-86400 : Int)))
 (k1 (6 : Int) ([] : List t1y))
 (Qdf at_ (0 : Int) (8589934592 : Int) (fun rin =>
 cond (!rin)
 (k1 (6 : Int) ([] : List t1y))
 (cond (decide ((0 : Int) < (List.length out : Int)))
 (cond (decide (0 ≤ (IntKind.i64.wrap ((List.length out : Int) - (1 : Int)))) && decide ((IntKind.i64.wrap ((List.length out : Int) - (1 : Int))) < (List.length out : Int)))
 (cond (decide (at_ < (IntKind.i64.wrap (((List.getD out (Int.toNat (IntKind.i64.wrap ((List.length out : Int) - (1 : Int)))) ((0 : Int), (0 : Int))).1) + (604800 : Int)))))
 (k1 (6 : Int) ([] : List t1y))
 (zqpl (fun now2 t232 t242 out2 t222 =>
 rec now2 t232 (IntKind.i64.wrap (t242 + (1 : Int))) out2 t222) at_ t23 t24 out (List.getD t22 (Int.toNat t24) ((0 : Int), (0 : Int))) t22))
 none)
 (zqpl (fun now2 t232 t242 out2 t222 =>
 rec now2 t232 (IntKind.i64.wrap (t242 + (1 : Int))) out2 t222) at_ t23 t24 out (List.getD t22 (Int.toNat t24) ((0 : Int), (0 : Int))) t22)))))))
 none)
 (k2 out)
def zqpo (m : Nat) {β : Type} (k1 : zqpd β) (k2 : zqpe β) : zqpf β := lp5 (fun r => zqpn r k1 k2) none m
theorem zqpp {β : Type} (i : Nat) (k1 k2) : zqpo (β := β) (i + 1) k1 k2 = zqpn (zqpo i k1 k2) k1 k2 := rfl
def zqpq {β : Type} := hid (zqpo (β := β) fuel)
noncomputable def zqpr : Pb := ⟨506, zqpg, fun _ => zqpq, pl (p := zqpg) zqpc [zqpm] (g := fun i _ => zqpo i) (by kernel_rfl) rfl (by kernel_rfl) (fun _ _ => rfl) fun _ _ _ _ => by kernel_rfl⟩
def zqps : zqpb := fun z k =>
 zqob z (fun roccurrences lroccurrences =>
 cond (!decide (roccurrences = (0 : Int)))
 (k roccurrences ([] : List t1y))
 (zqpq (fun t3 t2 =>
 k t3 t2) (fun out =>
 k (0 : Int) out) z.2.1 (List.length lroccurrences : Int) (0 : Int) ([] : List t1y) lroccurrences))
def zqpt : zqpb := hid zqps
noncomputable def zqpu : En := ⟨156, .spec (sg [v49y] [] [v39y, v22y] l88y zqpt), pf zqpc [zqpr] [.tmp 2, .tmp 3] Tryz.func156 (by kernel_rfl) fun _ _ => by kernel_rfl⟩
noncomputable def zqpv : En := au [zqor] [v34y, (false, [.fn 116 []])] [] [v25y] [] [.tmp 4] Tryz.func115 (by kernel_rfl)
noncomputable def zqpw : En := au [zqos] [v34y, (false, [.fn 163 [0]])] [b29y] [v25y] [b29y] [.tmp 4] Tryz.func115 (by kernel_rfl)
abbrev zqpx := {β : Type} → t3y → (Int → t10y → Option β) → Option β
noncomputable def zqpy : List En := [zqpa, zq6m, zq6t]
abbrev zqpz (β : Type) := Int → t10y → Option β
abbrev zqq0 (β : Type) := t3y → Option β
abbrev zqq1 (β : Type) := t3y → Int → Int → Option β
noncomputable def zqq2 : Pc := ⟨56, 0, Q8 58 (Q3 Tryz.f56), ⟨0, [0, 14, 15], [v28y, v22y, v22y], []⟩, [(.ret, ⟨0, [2, 3], [v39y, v22y], [.row 101 zq7]⟩), (.exit 0, ⟨0, [0], [v28y], []⟩)]⟩
abbrev zqq3 (β : Type) := Int → t10y → Option β
abbrev zqq4 (β : Type) := t10y → Option β
abbrev zqq5 (β : Type) := Int → Int → t10y → (List t3y) → Option β
noncomputable def zqq6 : Pc := ⟨56, 0, Q8 506 (Q3 Tryz.f56), ⟨0, [5, 36, 37, 38], [v39y, v68y, v22y, v22y], [.row 101 zq7, .row 9 .str]⟩, [(.ret, ⟨0, [2, 3], [v39y, v22y], [.row 101 zq7]⟩), (.exit 2, ⟨0, [5], [v39y], [.row 101 zq7]⟩)]⟩
def zqq7 {β : Type} (rec : zqq1 β) (k1 : zqpz β) (k2 : zqq0 β) : zqq1 β := fun text t14 t15 =>
 cond (decide (t15 < t14))
 (cond (decide (0 ≤ t15) && decide (t15 < (List.length text : Int)))
 (cond (decide (((List.getD text (Int.toNat t15) 0).toNat : Int) < (32 : Int)))
 (k1 (2 : Int) ([] : List zq6))
 (cond (decide (0 ≤ t15) && decide (t15 < (List.length text : Int)))
 (cond (decide ((126 : Int) < ((List.getD text (Int.toNat t15) 0).toNat : Int)))
 (k1 (2 : Int) ([] : List zq6))
 (rec text t14 (IntKind.i64.wrap (t15 + (1 : Int)))))
 none))
 none)
 (k2 text)
def zqq8 (m : Nat) {β : Type} (k1 : zqpz β) (k2 : zqq0 β) : zqq1 β := lp3 (fun r => zqq7 r k1 k2) none m
theorem zqq9 {β : Type} (i : Nat) (k1 k2) : zqq8 (β := β) (i + 1) k1 k2 = zqq7 (zqq8 i k1 k2) k1 k2 := rfl
def zqqa {β : Type} := hid (zqq8 (β := β) fuel)
noncomputable def zqqb : Pb := ⟨58, zqq2, fun _ => zqqa, pl (p := zqq2) zqpy [] (g := fun i _ => zqq8 i) (by kernel_rfl) rfl (by kernel_rfl) (fun _ _ => rfl) fun _ _ _ _ => by kernel_rfl⟩
def zqqc {β : Type} (rec : zqq5 β) (k1 : zqq3 β) (k2 : zqq4 β) : zqq5 β := fun t37 t38 out t36 =>
 cond (decide (t38 < t37))
 (cond (decide (0 ≤ t38) && decide (t38 < (List.length t36 : Int)))
 (let w := (List.getD t36 (Int.toNat t38) ([] : List UInt8));
 zqp9 w (fun rToken rToken2 =>
 cond (!decide (rToken2 = (0 : Int)))
 (k1 rToken2 ([] : List zq6))
 (let l := ([rToken] : List zq6);
 cond (decide ((List.length out + List.length l) * 32 ≤ Qa))
 (let l2 := (out ++ l);
 rec t37 (IntKind.i64.wrap (t38 + (1 : Int))) l2 t36)
 none)))
 none)
 (k2 out)
def zqqd (m : Nat) {β : Type} (k1 : zqq3 β) (k2 : zqq4 β) : zqq5 β := lp4 (fun r => zqqc r k1 k2) none m
theorem zqqe {β : Type} (i : Nat) (k1 k2) : zqqd (β := β) (i + 1) k1 k2 = zqqc (zqqd i k1 k2) k1 k2 := rfl
def zqqf {β : Type} := hid (zqqd (β := β) fuel)
noncomputable def zqqg : Pb := ⟨506, zqq6, fun _ => zqqf, pl (p := zqq6) zqpy [] (g := fun i _ => zqqd i) (by kernel_rfl) rfl (by kernel_rfl) (fun _ _ => rfl) fun _ _ _ _ => by kernel_rfl⟩
def zqqh : zqpx := fun text k =>
 cond (decide ((512 : Int) < (List.length text : Int)))
 (k (5 : Int) ([] : List zq6))
 (zqqa (fun t3 t2 =>
 k t3 t2) (fun text2 =>
 zq6k text2 ([35] : List UInt8) (fun rCut rCut2 rCut3 =>
 zq6r rCut (fun lrFields =>
 zqqf (fun t3 t2 =>
 k t3 t2) (fun out =>
 k (0 : Int) out) (List.length lrFields : Int) (0 : Int) ([] : List zq6) lrFields))) text (List.length text : Int) (0 : Int))
def zqqi : zqpx := hid zqqh
noncomputable def zqqj : En := ⟨56, .spec (sg [v28y] [] [v39y, v22y] [.row 101 zq7] zqqi), pf zqpy [zqqb, zqqg] [.tmp 2, .tmp 3] Tryz.func56 (by kernel_rfl) fun _ _ => by kernel_rfl⟩
noncomputable def zqqk : En := au [zq72, zqpv] [v35y, v61y] [] [v22y] [] [.tmp 4] Tryz.func71 (by kernel_rfl)
noncomputable def zqql : En := au [zqpu] [v49y] [] [v22y] [] [.tmp 2] Tryz.func108 (by kernel_rfl)
noncomputable def zqqm : En := au [zqkm, zq8i, zq72, zqpw, zq73] [v35y, v56y] [] [v22y] [] [.tmp 4] Tryz.func121 (by kernel_rfl)
abbrev zqqn := {β : Type} → t4y → t4y → (Bool → Option β) → Option β
noncomputable def zqqo : List En := [zqim]
abbrev zqqp (β : Type) := Bool → Option β
abbrev zqqq (β : Type) := Unit → Option β
abbrev zqqr (β : Type) := t4y → t4y → Int → Int → Option β
noncomputable def zqqs : Pc := ⟨32, 0, Q8 58 (Q3 Tryz.f27), ⟨0, [1, 2, 15, 16, 17], [v62y, (false, [.fn 28 []]), v62y, v22y, v22y], []⟩, [(.ret, ⟨0, [6], [v25y], []⟩), (.exit 0, ⟨0, [], [], []⟩)]⟩
def zqqt {β : Type} (rec : zqqr β) (k1 : zqqp β) (k2 : zqqq β) : zqqr β := fun s2 t15 t16 t17 =>
 cond (decide (t17 < t16))
 (cond (decide (0 ≤ t17) && decide (t17 < (List.length t15 : Int)))
 (let e := List.getD t15 (Int.toNat t17) (([] : List UInt8), (([] : List zq2), ([] : List t7y)));
 cond (decide (0 ≤ t17) && decide (t17 < (List.length s2 : Int)))
 (let e2 := List.getD s2 (Int.toNat t17) (([] : List UInt8), (([] : List zq2), ([] : List t7y)));
 zqil e e2 (fun rsameSchedule =>
 cond (!rsameSchedule)
 (k1 false)
 (rec s2 t15 t16 (IntKind.i64.wrap (t17 + (1 : Int))))))
 none)
 none)
 (k2 ())
def zqqu (m : Nat) {β : Type} (k1 : zqqp β) (k2 : zqqq β) : zqqr β := lp4 (fun r => zqqt r k1 k2) none m
theorem zqqv {β : Type} (i : Nat) (k1 k2) : zqqu (β := β) (i + 1) k1 k2 = zqqt (zqqu i k1 k2) k1 k2 := rfl
def zqqw {β : Type} := hid (zqqu (β := β) fuel)
noncomputable def zqqx : Pb := ⟨58, zqqs, fun _ => zqqw, pl (p := zqqs) zqqo [] (g := fun i _ => zqqu i) (by kernel_rfl) rfl (by kernel_rfl) (fun _ _ => rfl) fun _ _ _ _ => by kernel_rfl⟩
def zqqy : zqqn := fun s1 s2 k =>
 cond (!decide ((List.length s1 : Int) = (List.length s2 : Int)))
 (k false)
 (zqqw (fun t6 =>
 k t6) (fun _ =>
 k true) s2 s1 (List.length s1 : Int) (0 : Int))
def zqqz : zqqn := hid zqqy
noncomputable def zqr0 : En := ⟨27, .spec (sg [v62y, v62y, (false, [.fn 28 []])] [] [v25y] [] zqqz), pf zqqo [zqqx] [.tmp 6] Tryz.func27 (by kernel_rfl) fun _ _ => by kernel_rfl⟩
abbrev zqr1 := {β : Type} → zqg → zqg → (Bool → Option β) → Option β
def zqr2 : zqr1 := fun a b k =>
 zqfk a.1 b.1 (fun rZone =>
 cond rZone
 (zqlx a.2.1 b.2.1 (fun rPerson =>
 cond rPerson
 (zqop a.2.2.1 b.2.2.1 (fun rCalendar =>
 cond rCalendar
 (zqqz a.2.2.2 b.2.2.2 (fun rSchedule =>
 k rSchedule))
 (k false)))
 (k false)))
 (k false))
def zqr3 : zqr1 := hid zqr2
noncomputable def zqr4 : En := ⟨10, .spec (sg [v35y, v35y] [] [v25y] [] zqr3), pf [zqoq, zqly, zqr0, zqfl] [] [.tmp 4] Tryz.func10 (by kernel_rfl) fun _ _ => by kernel_rfl⟩
abbrev zqr5 := {β : Type} → t3y → (Int → Int → (List t8y) → Option β) → Option β
noncomputable def zqr6 : List En := [zqqj, zq5l, zqkj]
abbrev zqr7 (β : Type) := Int → Int → (List t8y) → Option β
abbrev zqr8 (β : Type) := (List t8y) → Option β
abbrev zqr9 (β : Type) := Int → Int → (List t8y) → (List t3y) → Option β
noncomputable def zqra : Pc := ⟨54, 0, Q8 58 (Q3 Tryz.f33), ⟨0, [2, 13, 14, 15], [v39y, v68y, v22y, v22y], [.row 121 (.prod (.int .i64) (.slice zq7)), .row 9 .str]⟩, [(.ret, ⟨0, [2, 3, 4], [v39y, v22y, v22y], l80y⟩), (.exit 0, ⟨0, [2], [v39y], l80y⟩)]⟩
abbrev zqrb (β : Type) := Int → Int → (List t8y) → Option β
abbrev zqrc (β : Type) := Int → Int → (List t8y) → (List t3y) → Option β
abbrev zqrd (β : Type) := Int → Int → Int → Int → (List t8y) → t10y → (List t3y) → Option β
noncomputable def zqre : Pc := ⟨54, 0, Q8 231 (Q1e zqra.c), ⟨0, [2, 5, 7, 8, 13, 14, 15], [v39y, v22y, v68y, v22y, (false, [.rowh 2]), v22y, v22y], [.row 121 (.prod (.int .i64) (.slice zq7)), .row 101 zq7, .row 9 .str]⟩, [(.ret, ⟨0, [2, 3, 4], [v39y, v22y, v22y], l80y⟩), (.normal, ⟨0, [2, 13, 14, 15], [v39y, v68y, v22y, v22y], [.row 121 (.prod (.int .i64) (.slice zq7)), .row 9 .str]⟩)]⟩
def zqrf {β : Type} (k1 : zqrb β) (k2 : zqrc β) : zqrd β := fun i_ e t14 t15 l t t13 =>
 cond (!decide (e = (0 : Int)))
 (let line := (IntKind.i64.wrap (i_ + (1 : Int)));
 k1 line e ([] : List t8y))
 (cond (decide ((0 : Int) < (List.length t : Int)))
 (let l2 := ([((IntKind.i64.wrap (i_ + (1 : Int))), t)] : List t8y);
 cond (decide ((List.length l + List.length l2) * 32 ≤ Qa))
 (let l3 := (l ++ l2);
 k2 t14 t15 l3 t13)
 none)
 (k2 t14 t15 l t13))
def zqrg {β : Type} := hid (zqrf (β := β))
noncomputable def zqrh : Pb := ⟨231, zqre, fun _ => zqrg, pe (p := zqre) zqr6 [] 231 (g := fun _ => zqrf) (by kernel_rfl) fun _ _ => by kernel_rfl⟩
def zqri {β : Type} (rec : zqr9 β) (k1 : zqr7 β) (k2 : zqr8 β) : zqr9 β := fun t14 t15 l t13 =>
 cond (decide (t15 < t14))
 (cond (decide (0 ≤ t15) && decide (t15 < (List.length t13 : Int)))
 (let s := (List.getD t13 (Int.toNat t15) ([] : List UInt8));
 zqqi s (fun rLine lrLine =>
 cond (decide (rLine = (0 : Int)))
 (cond (decide ((0 : Int) < (List.length lrLine : Int)))
 (zqki lrLine (fun rForm =>
 cond (!rForm)
 (zqrg (fun line e l2 =>
 k1 line e l2) (fun t142 t152 l2 t132 =>
 rec t142 (IntKind.i64.wrap (t152 + (1 : Int))) l2 t132) t15 (2 : Int) t14 t15 l lrLine t13)
 (zqrg (fun line e l2 =>
 k1 line e l2) (fun t142 t152 l2 t132 =>
 rec t142 (IntKind.i64.wrap (t152 + (1 : Int))) l2 t132) t15 rLine t14 t15 l lrLine t13)))
 (zqrg (fun line e l2 =>
 k1 line e l2) (fun t142 t152 l2 t132 =>
 rec t142 (IntKind.i64.wrap (t152 + (1 : Int))) l2 t132) t15 rLine t14 t15 l lrLine t13))
 (zqrg (fun line e l2 =>
 k1 line e l2) (fun t142 t152 l2 t132 =>
 rec t142 (IntKind.i64.wrap (t152 + (1 : Int))) l2 t132) t15 rLine t14 t15 l lrLine t13)))
 none)
 (k2 l)
def zqrj (m : Nat) {β : Type} (k1 : zqr7 β) (k2 : zqr8 β) : zqr9 β := lp4 (fun r => zqri r k1 k2) none m
theorem zqrk {β : Type} (i : Nat) (k1 k2) : zqrj (β := β) (i + 1) k1 k2 = zqri (zqrj i k1 k2) k1 k2 := rfl
def zqrl {β : Type} := hid (zqrj (β := β) fuel)
noncomputable def zqrm : Pb := ⟨58, zqra, fun _ => zqrl, pl (p := zqra) zqr6 [zqrh] (g := fun i _ => zqrj i) (by kernel_rfl) rfl (by kernel_rfl) (fun _ _ => rfl) fun _ _ _ _ => by kernel_rfl⟩
def zqrn : zqr5 := fun text k =>
 cond (decide ((65536 : Int) < (List.length text : Int)))
 (k (0 : Int) (5 : Int) ([] : List t8y))
 (zq5j text ([10] : List UInt8) (fun lrSplit =>
 zqrl (fun line e l =>
 k line e l) (fun l =>
 k (0 : Int) (0 : Int) l) (List.length lrSplit : Int) (0 : Int) ([] : List t8y) lrSplit))
def zqro : zqr5 := hid zqrn
noncomputable def zqrp : En := ⟨33, .spec (sg [v28y] [] [v39y, v22y, v22y] l80y zqro), pf zqr6 [zqrm] [.tmp 2, .tmp 3, .tmp 4] Tryz.func33 (by kernel_rfl) fun _ _ => by kernel_rfl⟩
noncomputable def zqrq : En := au [zqqk] [v61y, v26y] [b29y] [v22y] [b29y] [.tmp 3] Tryz.func70 (by kernel_rfl)
noncomputable def zqrr : En := au [zqqm] [v56y, v26y] [b29y] [v22y] [b29y] [.tmp 3] Tryz.func120 (by kernel_rfl)
noncomputable def zqrs : En := au [zq74, zqrr, zqiq] [v65y, (false, [.fn 119 []]), (false, [.fn 120 [0]])] [b29y] [v22y] [b29y] [.tmp 6] Tryz.func118 (by kernel_rfl)
noncomputable def zqrt : En := au [zqkn, zqrs] [v35y, v60y] [] [v22y] [] [.tmp 4] Tryz.func75 (by kernel_rfl)
noncomputable def zqru : En := au [zqrt] [v60y, v26y] [b29y] [v22y] [b29y] [.tmp 3] Tryz.func74 (by kernel_rfl)
noncomputable def zqrv : En := au [zq71] [v42y, (false, [.fn 110 []])] [] [v22y] [] [.tmp 4] Tryz.func157 (by kernel_rfl)
noncomputable def zqrw : En := au [zqrv] [v42y, (false, [.fn 110 []])] [] [v25y] [] [.tmp 4] Tryz.func109 (by kernel_rfl)
noncomputable def zqrx : En := au [zqrw, zqql] [v49y] [] [v22y] [] [.tmp 2] Tryz.func65 (by kernel_rfl)
noncomputable def zqry : En := au [zq62, zqrx, zqiq] [v54y, (false, [.fn 64 []]), (false, [.fn 65 []])] [] [v22y] [] [.tmp 6] Tryz.func63 (by kernel_rfl)
noncomputable def zqrz : En := au [zq63, zqrq, zqiq] [v51y, (false, [.fn 69 []]), (false, [.fn 70 [0]])] [b29y] [v22y] [b29y] [.tmp 6] Tryz.func68 (by kernel_rfl)
noncomputable def zqs0 : En := au [zq64, zqru, zqiq] [v62y, (false, [.fn 73 []]), (false, [.fn 74 [0]])] [b29y] [v22y] [b29y] [.tmp 6] Tryz.func72 (by kernel_rfl)
noncomputable def zqs1 : En := au [zqir, zqiq, zqrz, zqs0, zqry] [v35y] [] [v22y] [] [.tmp 2] Tryz.func36 (by kernel_rfl)
noncomputable def zqs2 : En := .auto mixed (X := ⟨look tab, gam [zq2u, zqd8, zq2t, zqd9, zqip, zqio, zqin, zqs1], false, false, false, false, q90y, none, 100000, []⟩) Q4 [zq2u, zqd8, zq2t, zqd9, zqip, zqio, zqin, zqs1] rfl [v35y] [] [v55y, v22y] [] [.tmp 2, .tmp 3] Tryz.func14 (by kernel_rfl)
noncomputable def zqs3 : En := .auto mixed (X := ⟨look tab, gam [zqs1, zqkk, zqdo, zqm2, zqkl, zqm0, zqm1, zqlz, zqix, zqiw, zq6v, zqiy, zq6u, zq5m, zqkj], false, false, false, false, q89y, none, 100000, []⟩) Q4 [zqs1, zqkk, zqdo, zqm2, zqkl, zqm0, zqm1, zqlz, zqix, zqiw, zq6v, zqiy, zq6u, zq5m, zqkj] rfl [v55y] [] [v35y, v22y, v22y] [] [.cell 2 28, .tmp 3, .tmp 4] Tryz.func34 (by kernel_rfl)
noncomputable def zqs4 : En := au [zqs3, zqrp] [v28y] [] [v35y, v22y, v22y] [] [.cell 2 28, .tmp 3, .tmp 4] Tryz.func12 (by kernel_rfl)
noncomputable def zqs5 : En := au [zqs2, zqp6] [v35y] [] [v28y, v22y] [] [.tmp 2, .tmp 3] Tryz.func13 (by kernel_rfl)
abbrev zqs6 := {β : Type} → (Bool → Option β) → Option β
noncomputable def zqs7 : zqs6 := Q28 ⟨look tab, gam [zqr4, zqs2, zqs5, zqs4], false, false, false, false, [], none, 100000, []⟩ Tryz.f5 [] [] [v25y] [] [.tmp 0]
noncomputable def zqs8 : En := ⟨5, .spec (sg [] [] [v25y] [] zqs7), (Q1c mixed (X := ⟨look tab, gam [zqr4, zqs2, zqs5, zqs4], false, false, false, false, [], none, 100000, []⟩) Q4 [zqr4, zqs2, zqs5, zqs4] rfl [.tmp 0] Tryz.func5 (by kernel_rfl)).spec⟩
abbrev zqs9 := {β : Type} → t11y → zqg → zqg → (Bool → Option β) → Option β
noncomputable def zqsa : List En := [zqs8, zq1d, zqgv, zqhd, zqx, zq11, zqr4, zqii]
abbrev zqsb (β : Type) := Bool → Option β
abbrev zqsc (β : Type) := Unit → Option β
abbrev zqsd (β : Type) := (t12y × (t12y × (t12y × (t12y × t12y)))) → Int → Option β
noncomputable def zqse : Pc := ⟨56, 0, Q8 506 (Q3 Tryz.f3), ⟨0, [39, 40], [(true, [.data (.prod (.prod zqh zqh) (.prod (.prod zqh zqh) (.prod (.prod zqh zqh) (.prod (.prod zqh zqh) (.prod zqh zqh)))))]), v22y], []⟩, [(.ret, ⟨0, [6], [v25y], []⟩), (.exit 0, ⟨0, [], [], []⟩)]⟩
def zqsf {β : Type} (rec : zqsd β) (k1 : zqsb β) (k2 : zqsc β) : zqsd β := fun t39 t40 =>
 cond (decide (t40 < (5 : Int)))
 (cond (decide (0 ≤ t40) && decide (t40 < (List.length ([t39.1, t39.2.1, t39.2.2.1, t39.2.2.2.1, t39.2.2.2.2] : List t12y) : Int)))
 (let e := List.getD ([t39.1, t39.2.1, t39.2.2.1, t39.2.2.2.1, t39.2.2.2.2] : List t12y) (Int.toNat t40) (zqr, zqr);
 zqr3 e.1 e.2 (fun rSame =>
 zqih e.1 e.2 (fun rSame2 =>
 cond (!(rSame == rSame2))
 (k1 false)
 (rec t39 (IntKind.i64.wrap (t40 + (1 : Int)))))))
 none)
 (k2 ())
def zqsg (m : Nat) {β : Type} (k1 : zqsb β) (k2 : zqsc β) : zqsd β := lp2 (fun r => zqsf r k1 k2) none m
theorem zqsh {β : Type} (i : Nat) (k1 k2) : zqsg (β := β) (i + 1) k1 k2 = zqsf (zqsg i k1 k2) k1 k2 := rfl
def zqsi {β : Type} := hid (zqsg (β := β) fuel)
noncomputable def zqsj : Pb := ⟨506, zqse, fun _ => zqsi, Qeq mixed (X := ⟨look tab, gam zqsa, false, false, true, false, [], none, 0, []⟩) (p := zqse) Q4 zqsa rfl [] (g := fun i _ => zqsg i) (by kernel_rfl) rfl (by kernel_rfl) (fun _ _ => rfl) fun _ _ _ _ => by kernel_rfl⟩
def zqsk : zqs9 := fun t raw other k =>
 zqw t (fun rLight =>
 cond (!rLight)
 (zqs7  (fun rsane =>
 k rsane))
 (zq10 t (fun mrRoll =>
 zqgu (2 : Int) mrRoll (fun rConfig mrConfig =>
 zqhc rConfig mrConfig (fun rOdd mrOdd =>
 zq1c rConfig (fun lrCopy lrCopy2 lrCopy3 lrCopy4 =>
 zqsi (fun t6 =>
 k t6) (fun _ =>
 zqs7  (fun rsane =>
 k rsane)) ((rConfig, rOdd), ((rOdd, rConfig), ((rConfig, (lrCopy, (lrCopy2, (lrCopy3, lrCopy4)))), ((raw, other), (raw, raw))))) (0 : Int)))))))
def zqsl : zqs9 := hid zqsk
noncomputable def zqsm : En := ⟨3, .spec (sg [v34y, v35y, v35y] [] [v25y] [] zqsl), Q9c mixed (X := ⟨look tab, gam zqsa, false, false, true, false, [], none, 0, []⟩) Q4 zqsa rfl [zqsj] [.tmp 6] Tryz.func3 (by kernel_rfl) fun _ _ => by kernel_rfl⟩
theorem zqsn : SpecOk Tryz.prog 3 (sg [v34y, v35y, v35y] [] [v25y] [] zqsl) := zqsm.ok
end
end Go.Lift
namespace Go.Lift
open Go.RowKit Go.IntWalk
section
variable {β : Type}
theorem Qo {i n : Int} {a b : Option β} (h : 0 ≤ i ∧ i < n) : cond (decide (0 ≤ i) && decide (i < n)) a b = a := by
 rw [decide_eq_true h.1, decide_eq_true h.2]; rfl
theorem Q4g {n : Nat} {a b : Option β} (h : n ≤ 140737488355328) : cond (decide (n ≤ Qa)) a b = a := by
 rw [decide_eq_true (p := n ≤ Qa) h]; rfl
theorem Q1k {p : Prop} [Decidable p] {a b : Option β} (h : p) : cond (decide p) a b = a := by rw [decide_eq_true h]; rfl
theorem Q1o {p : Prop} [Decidable p] {a b : Option β} (h : ¬ p) : cond (decide p) a b = b := by rw [decide_eq_false h]; rfl
theorem Q2z {p : Prop} [Decidable p] {a b : Option β} (h : p) : cond (!decide p) a b = b := by rw [decide_eq_true h]; rfl
theorem Q2j {p : Prop} [Decidable p] {a b : Option β} (h : ¬ p) : cond (!decide p) a b = a := by rw [decide_eq_false h]; rfl
theorem k_eq {γ : Type} {k : γ → Option β} {x y : γ} (h : x = y) : k x = k y := by rw [h]
def walk {α σ ε : Type} (g : Nat → α → σ → ε ⊕ σ) : List α → Nat → σ → ε ⊕ σ
 | [], _, s => .inr s
 | x :: r, j, s =>
  match g j x s with
  | .inl e => .inl e
  | .inr s' => walk g r (j + 1) s'
def sumK {ε σ : Type} (E : ε → Option β) (K : σ → Option β) : ε ⊕ σ → Option β
 | .inl e => E e
 | .inr s => K s
theorem Qe3 {α σ ε : Type} (F : Nat → Int → σ → Option β) (g : Nat → α → σ → ε ⊕ σ) (E : ε → Option β) (K : σ → Option β) (d : α) (xs : List α)
  (h1 : ∀ (m i : Nat) s, i < xs.length → F (m + 1) (i : Int) s = sumK E (fun s' => F m ((i : Int) + 1) s') (g i (xs.getD i d) s))
  (h2 : ∀ (m : Nat) s, F (m + 1) (xs.length : Int) s = K s) :
  ∀ (r : List α) (j fuel : Nat) (s : σ), xs.drop j = r → j + r.length = xs.length → r.length < fuel → F fuel (j : Int) s = sumK E K (walk g r j s)
 | r, j, 0, s, _, _, h => absurd h (Nat.not_lt_zero _)
 | [], j, m + 1, s, hd, hj, _ => by
  simp only [List.length_nil, Nat.add_zero] at hj
  subst hj
  rw [h2]; rfl
 | x :: r, j, m + 1, s, hd, hj, hm => by
  simp only [List.length_cons] at hj hm
  have h3 : j < xs.length := by omega
  have hx : xs.getD j d = x := by
   rw [List.drop_eq_getElem_cons h3] at hd
   injection hd with hd1 hd2
   simp [List.getD, h3, hd1]
  have hr : xs.drop (j + 1) = r := by
   rw [List.drop_eq_getElem_cons h3] at hd
   injection hd with hd1 hd2
  rw [h1 m j s h3, hx, walk]
  cases hg : g j x s with
  | inl e => rfl
  | inr s' =>
   simp only [sumK]
   exact Qe3 F g E K d xs h1 h2 r (j + 1) m s' hr (by omega) (by omega)
theorem Qci {α σ ε : Type} (F : Nat → Int → σ → Option β) (g : Nat → α → σ → ε ⊕ σ) (E : ε → Option β) (K : σ → Option β) (d : α) (xs : List α) (s : σ) (n : Nat) (hn : xs.length < n)
  (h1 : ∀ (m i : Nat) s, i < xs.length → F (m + 1) (i : Int) s = sumK E (fun s' => F m ((i : Int) + 1) s') (g i (xs.getD i d) s))
  (h2 : ∀ (m : Nat) s, F (m + 1) (xs.length : Int) s = K s) : F n 0 s = sumK E K (walk g xs 0 s) :=
 Qe3 F g E K d xs h1 h2 xs 0 n s rfl (by simp) hn
theorem Qin {α : Type} (F : Nat → Int → Option β) (p : α → Bool) (E K : Option β) (d : α) (xs : List α) (n : Nat) (hn : xs.length < n)
  (h1 : ∀ (m i : Nat), i < xs.length → F (m + 1) (i : Int) = cond (p (xs.getD i d)) (F m ((i : Int) + 1)) E)
  (h2 : ∀ (m : Nat), F (m + 1) (xs.length : Int) = K) : F n 0 = cond (xs.all p) K E := by
 have h := Qci (ε := Unit) (fun m i (_ : Unit) => F m i) (fun _ x s => cond (p x) (.inr s) (.inl ())) (fun _ => E) (fun _ => K) d xs () n hn
  (fun m i s hi => by rw [h1 m i hi]; cases p (xs.getD i d) <;> rfl) (fun m s => h2 m)
 rw [h]
 have key : ∀ (l : List α) (j : Nat), sumK (fun _ => E) (fun _ => K) (walk (ε := Unit) (fun _ x (s : Unit) => cond (p x) (.inr s) (.inl ())) l j ()) = cond (l.all p) K E := by
  intro l
  induction l with
  | nil => intro j; rfl
  | cons x l ih =>
   intro j
   simp only [walk, List.all_cons]
   cases p x with
   | true => simpa using ih (j + 1)
   | false => rfl
 exact key xs 0
theorem Qjt {α σ : Type} (F : Nat → Int → σ → Option β) (g : σ → α → σ) (K : σ → Option β) (d : α) (xs : List α) (s : σ) (n : Nat) (hn : xs.length < n)
  (h1 : ∀ (m i : Nat) s, i < xs.length → F (m + 1) (i : Int) s = F m ((i : Int) + 1) (g s (xs.getD i d)))
  (h2 : ∀ (m : Nat) s, F (m + 1) (xs.length : Int) s = K s) : F n 0 s = K (xs.foldl g s) := by
 have h := Qci (ε := Empty) F (fun _ x s => .inr (g s x)) (fun e => e.elim) K d xs s n hn (fun m i s hi => h1 m i s hi) h2
 rw [h]
 have key : ∀ (l : List α) (j : Nat) (s : σ), sumK (fun e : Empty => e.elim) K (walk (fun _ x s => .inr (g s x)) l j s) = K (l.foldl g s) := by
  intro l
  induction l with
  | nil => intro j s; rfl
  | cons x l ih => intro j s; exact ih (j + 1) (g s x)
 exact key xs 0 s
theorem Qio {α σ : Type} (I : Nat → σ → Prop) (F : Nat → Int → σ → Option β) (g : σ → α → σ) (K : σ → Option β) (d : α) (xs : List α) (s : σ) (n : Nat) (hn : xs.length < n) (h0 : I 0 s)
  (hI : ∀ (i : Nat) s, i < xs.length → I i s → I (i + 1) (g s (xs.getD i d)))
  (h1 : ∀ (m i : Nat) s, i < xs.length → I i s → F (m + 1) (i : Int) s = F m ((i : Int) + 1) (g s (xs.getD i d)))
  (h2 : ∀ (m : Nat) s, I xs.length s → F (m + 1) (xs.length : Int) s = K s) : F n 0 s = K (xs.foldl g s) := by
 have key : ∀ (r : List α) (j fuel : Nat) (s : σ), xs.drop j = r → j + r.length = xs.length → r.length < fuel → I j s → F fuel (j : Int) s = K (r.foldl g s) := by
  intro r
  induction r with
  | nil =>
   intro j fuel s hd hj hf hs
   obtain ⟨m, rfl⟩ : ∃ m, fuel = m + 1 := ⟨fuel - 1, by omega⟩
   simp only [List.length_nil, Nat.add_zero] at hj
   subst hj
   exact h2 m s hs
  | cons x r ih =>
   intro j fuel s hd hj hf hs
   obtain ⟨m, rfl⟩ : ∃ m, fuel = m + 1 := ⟨fuel - 1, by omega⟩
   simp only [List.length_cons] at hj hf
   have h3 : j < xs.length := by omega
   have hx : xs.getD j d = x := by
    rw [List.drop_eq_getElem_cons h3] at hd
    injection hd with hd1 hd2
    simp [List.getD, h3, hd1]
   have hr : xs.drop (j + 1) = r := by
    rw [List.drop_eq_getElem_cons h3] at hd
    injection hd with hd1 hd2
   rw [h1 m j s h3 hs, hx]
   have := hI j s h3 hs
   rw [hx] at this
   exact ih (j + 1) m (g s x) hr (by omega) (by omega) this
 exact key xs 0 n s rfl (by simp) hn h0
end
end Go.Lift
namespace Go.Lift
open Go.RowKit Go.IntWalk
noncomputable section
variable [Sl]
set_option linter.unusedSectionVars false
set_option linter.unusedVariables false
set_option linter.unusedSimpArgs false
set_option maxRecDepth 10000
abbrev Q86 (y : Int) : Prop := y % 4 = 0 ∧ (y % 100 ≠ 0 ∨ y % 400 = 0)
def Q4h (lp : Prop) [Decidable lp] (m : Int) : Int :=
 if m < 1 then 0 else if 12 < m then 0 else if m = 2 then (if lp then 29 else 28) else if m = 4 ∨ m = 6 ∨ m = 9 ∨ m = 11 then 30 else 31
def cntN (y : Int) : Int := 365 * (y - 1970) + (y - 1) / 4 - (y - 1) / 100 + (y - 1) / 400 - 477
def sumM (lp : Prop) [Decidable lp] : Nat → Int
 | 0 => 0
 | n + 1 => sumM lp n + Q4h lp ((n : Int) + 1)
section
variable {β : Type}
theorem Qlk (lp : Prop) [Decidable lp] (m : Int) : 0 ≤ Q4h lp m ∧ Q4h lp m ≤ 31 := by
 unfold Q4h
 repeat' split
 all_goals omega
theorem Qme (lp : Prop) [Decidable lp] (n : Nat) : 0 ≤ sumM lp n ∧ sumM lp n ≤ 31 * (n : Int) := by
 induction n with
 | zero => exact ⟨Int.le_refl _, Int.le_refl _⟩
 | succ n ih =>
  have := Qlk lp ((n : Int) + 1)
  show 0 ≤ sumM lp n + Q4h lp ((n : Int) + 1) ∧ sumM lp n + Q4h lp ((n : Int) + 1) ≤ 31 * ((n + 1 : Nat) : Int)
  omega
end
end
end Go.Lift
namespace Go.Lift
open Go.RowKit Go.IntWalk
noncomputable section
variable [Sl]
set_option linter.unusedSectionVars false
set_option linter.unusedVariables false
set_option linter.unusedSimpArgs false
set_option maxRecDepth 10000
section
variable {β : Type}
abbrev inI (n lo hi : Int) : Bool := decide (lo ≤ n) && decide (n ≤ hi)
abbrev ixI (i n : Int) : Bool := decide ((0 : Int) ≤ i) && decide (i < n)
def dayI (n : Int) : Bool := decide (0 ≤ n) && decide (n < 98981)
def Qcj (n : Int) : Bool := inI n 0 604800 && decide (Int.tmod n 3600 = 0)
def Qju (c : Int) : Bool := inI c 97 122
def Qmf (c : Int) : Bool := inI c 48 57
def Qmw (c : UInt8) : Bool := Qju c.toNat || (Qmf c.toNat || (decide ((c.toNat : Int) = 95) || decide ((c.toNat : Int) = 45)))
def Qip (s : List UInt8) : Bool := (!decide (s = [])) && (!decide (24 < (s.length : Int)) && (Qju (s.getD 0 0).toNat && s.all Qmw))
def Qck (s : List UInt8) (l : List (List UInt8)) : Int := cond (Qip s) (cond (decide (s ∈ l)) 4 0) 2
def errV {σ : Type} : Int ⊕ σ → Int
 | .inl e => e
 | .inr _ => 0
def Ql9 (l : List (Int × Int)) (i : Nat) (w : Int × Int) (_ : Unit) : Int ⊕ Unit :=
 cond (decide (w.1 < 0) || (decide (w.2 ≤ w.1) || decide ((604800 : Int) < w.2))) (.inl 1) (cond (decide (0 < (i : Int)) && decide (w.1 < (l.getD (i - 1) (0, 0)).2)) (.inl 6) (.inr ()))
def Q35 (l : List (Int × Int)) : Int := cond (decide (14 < (l.length : Int))) 5 (errV (walk (Ql9 l) l 0 ()))
end
end
end Go.Lift
namespace Go.Lift
open Go.RowKit Go.IntWalk
noncomputable section
variable [Sl]
set_option linter.unusedSectionVars false
set_option linter.unusedVariables false
set_option linter.unusedSimpArgs false
set_option maxRecDepth 10000
section
variable {β : Type}
def Qa5 (nz : Int) (p : zqe) : Int := cond (!ixI p.2.1 nz) 3 (cond (!decide (Q35 p.2.2.1 = 0)) 8 (cond (!Qcj p.2.2.2.1) 1 (cond (!Qcj p.2.2.2.2.1) 1 0)))
abbrev Ed := Int × (Int × (Int × (Int × Int)))
def e1V (b : Bool) (x : Ed) : Int := cond b 1 (cond (decide (x.2.2.2.2 ≤ x.2.2.2.1)) 6 0)
def e2V (b : Bool) (x : Ed) : Int := cond b 4 (e1V (decide (x.2.2.2.1 < 0) || (decide (x.2.2.2.2 < 0) || !dayI (IntKind.i64.wrap (Int.tdiv x.2.2.2.2 86400)))) x)
def e3V (b : Bool) (x : Ed) : Int := cond b 1 (e2V (decide (x.1 = 2) && decide (x.2.1 = x.2.2.1)) x)
def e4V (b : Bool) (x : Ed) : Int := cond b 3 (e3V ((!decide (x.1 = 2)) && !decide (x.2.2.1 = 0)) x)
def Q36 (np : Int) (x : Ed) : Int :=
 cond (!inI x.1 0 2) 1 (e4V (((!ixI x.2.1 np) && !(decide (x.1 = 1) && decide (x.2.1 = -1))) || (decide (x.1 = 2) && !ixI x.2.2.1 np)) x)
def l1V (b : Bool) (l : zq2) : Int := cond b 3 (cond (decide (l.2.2.2.2.2.2.2.2 = 0)) (cond (!decide (l.2.2.2.2.2.2.2.1 = 0)) 1 0) 0)
def l2V (np nc : Int) (b : Bool) (l : zq2) : Int :=
 cond b 1 (cond (decide ((l.2.2.2.2.2.1.length : Int) = 0)) 7 (cond (decide (12 < (l.2.2.2.2.2.1.length : Int))) 5 (cond (!l.2.2.2.2.2.1.all fun m => ixI m np) 3
  (cond (!decide (Q35 l.2.2.2.2.2.2.1 = 0)) 8 (cond (!inI l.2.2.2.2.2.2.2.2 0 2) 1 (l1V ((!decide (l.2.2.2.2.2.2.2.2 = 0)) && !ixI l.2.2.2.2.2.2.2.1 nc) l))))))
def Q4i (nz np nc : Int) (l : zq2) : Int :=
 cond (!ixI l.2.1 nz) 3 (l2V np nc (decide (l.2.2.1.1 < 1) || ((!dayI l.2.2.1.1) || ((!inI l.2.2.1.2 0 86399) || ((!inI l.2.2.2.1 0 2) || !inI l.2.2.2.2.1 1 400)))) l)
def ascG (l : List Int) (i : Nat) (d : Int) (_ : Unit) : Int ⊕ Unit := cond (decide (0 < (i : Int)) && decide (d ≤ l.getD (i - 1) 0)) (.inl 6) (.inr ())
def calV (nz : Int) (x : zq0) : Int :=
 cond (!ixI x.2.1 nz) 3 (cond (decide (64 < (x.2.2.length : Int))) 5 (cond (!x.2.2.all dayI) 1 (errV (walk (ascG x.2.2) x.2.2 0 ()))))
def Q67 {α : Type} (of : α → List UInt8) (chk : α → Int) (_ : Nat) (x : α) (l : List (List UInt8)) : Int ⊕ List (List UInt8) :=
 cond (decide (Qck (of x) l = 0)) (cond (decide (chk x = 0)) (.inr (l ++ [of x])) (.inl (chk x))) (.inl (Qck (of x) l))
def Q9j {α : Type} (of : α → List UInt8) (chk : α → Int) (xs : List α) : Int := errV (walk (Q67 of chk) xs 0 [])
theorem Q1z {α : Type} {xs : List α} {i : Nat} {d : α} (h : i < xs.length) : xs.getD i d ∈ xs := by
 rw [List.getD_eq_getElem?_getD, List.getElem?_eq_getElem h]
 exact List.getElem_mem h
def Qiq (np : Int) (_ : Nat) (x : Ed) (_ : Unit) : Int ⊕ Unit := cond (decide (Q36 np x = 0)) (.inr ()) (.inl (Q36 np x))
def Q7h (nz np nc : Int) (x : zq4) : Int :=
 cond (decide (6 < (x.2.1.length : Int))) 5 (cond (decide (48 < (x.2.2.length : Int))) 5
  (cond (decide (Q9j (·.1) (Q4i nz np nc) x.2.1 = 0)) (errV (walk (Qiq np) x.2.2 0 ())) (Q9j (·.1) (Q4i nz np nc) x.2.1)))
end
end
end Go.Lift
namespace Go.Lift
open Go.RowKit Go.IntWalk
noncomputable section
variable [Sl]
set_option linter.unusedSectionVars false
set_option linter.unusedVariables false
set_option linter.unusedSimpArgs false
set_option maxRecDepth 10000
section
variable {β : Type}
def Q1d (y m : Int) : Int := cntN y + sumM (Q86 y) (m - 1).toNat
theorem Qll (lp : Prop) [Decidable lp] {m : Int} (hm : 1 ≤ m ∧ m ≤ 12) : 28 ≤ Q4h lp m ∧ Q4h lp m ≤ 31 := by
 unfold Q4h
 rw [if_neg (by omega), if_neg (by omega)]
 by_cases h2 : m = 2
 ·rw [if_pos h2]
  by_cases h3 : lp
  ·rw [if_pos h3]; omega
  ·rw [if_neg h3]; omega
 ·rw [if_neg h2]
  by_cases h4 : m = 4 ∨ m = 6 ∨ m = 9 ∨ m = 11
  ·rw [if_pos h4]; omega
  ·rw [if_neg h4]; omega
def nthD (y m w wd : Int) : Int :=
 let n := Q1d y m
 let d := n + (wd - (n + 3) % 7 + 7) % 7 + 7 * (w - 1)
 if n + Q4h (Q86 y) m ≤ d then d - 7 else d
theorem Qki {y m : Int} (hy : 1970 ≤ y ∧ y ≤ 2240) (hm : 1 ≤ m ∧ m ≤ 12) : 0 ≤ Q1d y m ∧ Q1d y m ≤ 200000 := by
 have hb := Qme (Q86 y) (m - 1).toNat
 have hb2 : sumM (Q86 y) (m - 1).toNat ≤ sumM (Q86 y) (m - 1).toNat := Int.le_refl _
 have h0 : 0 ≤ cntN y ∧ cntN y ≤ 99000 := by unfold cntN; omega
 unfold Q1d
 omega
theorem Q3r {y m w wd : Int} (hm : 1 ≤ m ∧ m ≤ 12) (hw : 1 ≤ w ∧ w ≤ 5) : Q1d y m + 7 * (w - 1) - 7 ≤ nthD y m w wd ∧ nthD y m w wd ≤ Q1d y m + 7 * w - 1 ∧ (w ≤ 4 → Q1d y m + 7 * (w - 1) ≤ nthD y m w wd) ∧ nthD y m w wd ≤ Q1d y m + 30 := by
 have hl := Qll (Q86 y) hm
 unfold nthD
 simp only
 by_cases h : Q1d y m + Q4h (Q86 y) m ≤ Q1d y m + (wd - (Q1d y m + 3) % 7 + 7) % 7 + 7 * (w - 1)
 ·rw [if_pos h]; omega
 ·rw [if_neg h]; omega
structure RuleOk (r : zq8) : Prop where
 f : 1970 ≤ r.1 ∧ r.1 ≤ 2240
 t : r.1 ≤ r.2.1 ∧ r.2.1 ≤ 2240
 m : 1 ≤ r.2.2.1 ∧ r.2.2.1 ≤ 12
 w : 1 ≤ r.2.2.2.1 ∧ r.2.2.2.1 ≤ 5
 d : 0 ≤ r.2.2.2.2.1 ∧ r.2.2.2.2.1 ≤ 6
 s : 0 ≤ r.2.2.2.2.2.1 ∧ r.2.2.2.2.2.1 ≤ 86399
 o : -64800 ≤ r.2.2.2.2.2.2 ∧ r.2.2.2.2.2.2 ≤ 64800
theorem Qa6 {n lo hi : Int} (h : lo ≤ n ∧ n ≤ hi) : inI n lo hi = true := by
 unfold inI
 rw [decide_eq_true h.1, decide_eq_true h.2]; rfl
def occY (r : zq8) (y : Int) : Int × Int := (nthD y r.2.2.1 r.2.2.2.1 r.2.2.2.2.1 * 86400 + r.2.2.2.2.2.1, r.2.2.2.2.2.2)
def occL (r : zq8) : List (Int × Int) := (List.range (r.2.1 - r.1 + 1).toNat).map fun i => occY r (r.1 + (i : Nat))
theorem Qmg {r : zq8} (h : RuleOk r) {y : Int} (hy : r.1 ≤ y ∧ y ≤ r.2.1) : -10 ≤ nthD y r.2.2.1 r.2.2.2.1 r.2.2.2.2.1 ∧ nthD y r.2.2.1 r.2.2.2.1 r.2.2.2.2.1 ≤ 300000 := by
 have h1 := h.f
 have h2 := h.t
 have hb := Q3r (y := y) (wd := r.2.2.2.2.1) h.m h.w
 have hn := Qki (y := y) (m := r.2.2.1) (by omega) h.m
 have := h.w
 omega
def Q1p (l : List zq8) : List (Int × Int) := l.flatMap occL
def occS (z : zqa) : List (Int × Int) := zqmg (Q1p z.2.2)
structure ZoneOk (z : zqa) : Prop where
 o : -64800 ≤ z.2.1 ∧ z.2.1 ≤ 64800
 r : ∀ r ∈ z.2.2, RuleOk r
 n : (Q1p z.2.2).length ≤ 12
 l : z.2.2.length ≤ 12
theorem Qlm {z : zqa} (h : ZoneOk z) {x : Int × Int} (hx : x ∈ Q1p z.2.2) : (-1000000 ≤ x.1 ∧ x.1 ≤ 30000000000) ∧ (-64800 ≤ x.2 ∧ x.2 ≤ 64800) := by
 obtain ⟨r, hr, hx⟩ := List.mem_flatMap.1 hx
 obtain ⟨i, hi, rfl⟩ := List.mem_map.1 hx
 have hi : i < (r.2.1 - r.1 + 1).toNat := by simpa using hi
 have hb := Qmg (h.r r hr) (y := r.1 + (i : Nat)) (by omega)
 have hs := (h.r r hr).s
 have ho := (h.r r hr).o
 refine ⟨?_, ho⟩
 show -1000000 ≤ nthD _ _ _ _ * 86400 + r.2.2.2.2.2.1 ∧ nthD _ _ _ _ * 86400 + r.2.2.2.2.2.1 ≤ 30000000000
 omega
theorem Qjv {α : Type} {l : List α} {i : Nat} (d : α) (h : i < l.length) : l.take (i + 1) = l.take i ++ [l.getD i d] := by
 rw [List.take_add_one]
 simp [List.getD, h]
abbrev TrS := Int × List (Int × Int)
def Q3d (_ : Nat) (o : Int × Int) (s : TrS) : Int ⊕ TrS :=
 cond (decide (o.2 = s.1)) (.inr s)
  (cond (decide (86400 ≤ o.2 - s.1) || (decide (o.2 - s.1 ≤ -86400) || ((!inI (o.1 - s.1) 0 8589934592) || (decide (0 < (s.2.length : Int)) && decide (o.1 - s.1 < (s.2.getD (s.2.length - 1) (0, 0)).1 + 604800)))))
   (.inl 6) (.inr (o.2, s.2 ++ [(o.1 - s.1, o.2)])))
theorem Qjw {z : zqa} (h : ZoneOk z) : (occS z).Perm (Q1p z.2.2) ∧ ∀ i j, i < j → j < (Q1p z.2.2).length → ¬ ((occS z).getD j (0, 0)).1 - ((occS z).getD i (0, 0)).1 < 0 := by
 refine Q9i zqmi fun x hx => ?_
 have := (Qlm h hx).1
 unfold zqme
 rw [decide_eq_true (by omega), decide_eq_true (by omega)]; rfl
def Q68 (z : zqa) : Int ⊕ TrS := walk Q3d (occS z) 0 (z.2.1, [])
def Q87 (z : zqa) : Int :=
 cond (!decide (errV (Q68 z) = 0)) 8 (cond (!decide (Int.tmod z.2.1 60 = 0)) 8 (cond (!z.2.2.all fun r => decide (Int.tmod r.2.2.2.2.2.2 60 = 0)) 8 0))
end
end
end Go.Lift
namespace Go.Lift
open Go.RowKit Go.IntWalk
noncomputable section
variable [Sl]
set_option linter.unusedSectionVars false
set_option linter.unusedVariables false
set_option linter.unusedSimpArgs false
abbrev Dice := List Int × Int
def Qc (d : Dice) : Prop := 0 ≤ d.2 ∧ d.2 ≤ d.1.length ∧ d.1.length ≤ 500
theorem Qkj {β : Type} (l : List Int) (k : Bool → Option β) : zqw l k = k (decide ((l.length : Int) ≤ 500)) := by
 simp only [zqw, Q2, zqv]
theorem Qln {β : Type} (l : List Int) (k : Dice → Option β) : zq10 l k = k (l, 0) := by
 simp only [zq10, Q2, zqz]
theorem Qlo {l : List Int} (h : (l.length : Int) ≤ 500) : Qc (l, 0) := ⟨by simp, by simp, by show l.length ≤ 500; omega⟩
theorem Qlp {n : Int} {d : Dice} (hd : Qc d) (hn : 1 ≤ n ∧ n ≤ 4611686018427387904) :
  ∃ x d', 0 ≤ x ∧ x < n ∧ Qc d' ∧ ∀ {β : Type} (k : Int → Dice → Option β), zq1g n d k = k x d' := by
 obtain ⟨h1, h2, h3⟩ := hd
 by_cases ha : (d.1.length : Int) ≤ d.2
 ·exact ⟨0, d, by omega, by omega, ⟨h1, h2, h3⟩, fun k => by simp (disch := omega) only [zq1g, Q2, zq1f, Q1k]⟩
 ·generalize hv : List.getD d.1 (Int.toNat d.2) (0 : Int) = v
  have hm1 := Int.tmod_lt_of_pos v (show 0 < n by omega)
  have hm2 : -n < Int.tmod v n := by
   have h5 := Int.tmod_lt_of_pos (-v) (show 0 < n by omega)
   rw [Int.neg_tmod] at h5
   omega
  have hd' : Qc (d.1, d.2 + 1) := ⟨by show (0 : Int) ≤ d.2 + 1; omega, by show d.2 + 1 ≤ (d.1.length : Int); omega, h3⟩
  by_cases hc : Int.tmod v n < 0
  ·refine ⟨Int.tmod v n + n, (d.1, d.2 + 1), by omega, by omega, hd', fun k => ?_⟩
   simp (disch := omega) only [zq1g, Q2, zq1f, hv, Q1k, Q1o, Qo, Q2j, i64_in]
  ·refine ⟨Int.tmod v n, (d.1, d.2 + 1), by omega, by omega, hd', fun k => ?_⟩
   simp (disch := omega) only [zq1g, Q2, zq1f, hv, Q1k, Q1o, Qo, Q2j, i64_in]
end
end Go.Lift
