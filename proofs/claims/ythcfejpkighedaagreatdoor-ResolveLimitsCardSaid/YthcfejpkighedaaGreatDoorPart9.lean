/- Part9: Fn0, Fn1, LBase, LCivil, LChk. -/
import Derived.Test.YthcfejpkighedaaGreatDoorProg
import Derived.KernelRfl
import Derived.Test.YthcfejpkighedaaGreatDoorPart8
set_option linter.unusedVariables false
set_option linter.unusedSectionVars false
set_option linter.unusedSimpArgs false
namespace Go.Lift
open Go.Proofs
noncomputable section
variable [Sl]
set_option maxRecDepth 100000
set_option linter.unusedVariables false
abbrev zq0 := (List UInt8 × (Int × List Int))
abbrev zq1 : Ty := (.prod .str (.prod (.int .i64) (.slice (.int .i64))))
abbrev zq2 := (List UInt8 × (Int × ((Int × Int) × (Int × (Int × (List Int × (List (Int × Int) × (Int × Int))))))))
abbrev zq3 : Ty := (.prod .str (.prod (.int .i64) (.prod (.prod (.int .i64) (.int .i64)) (.prod (.int .i64) (.prod (.int .i64) (.prod (.slice (.int .i64)) (.prod (.slice (.prod (.int .i64) (.int .i64))) (.prod (.int .i64) (.int .i64)))))))))
abbrev zq4 := (List UInt8 × (List zq2 × List (Int × (Int × (Int × (Int × Int))))))
abbrev zq5 : Ty := (.prod .str (.prod (.slice zq3) (.slice (.prod (.int .i64) (.prod (.int .i64) (.prod (.int .i64) (.prod (.int .i64) (.int .i64))))))))
abbrev zq6 := (Int × (List UInt8 × Int))
abbrev zq7 : Ty := (.prod (.int .i64) (.prod .str (.int .i64)))
abbrev zq8 := (Int × (Int × (Int × (Int × (Int × (Int × Int))))))
abbrev zq9 : Ty := (.prod (.int .i64) (.prod (.int .i64) (.prod (.int .i64) (.prod (.int .i64) (.prod (.int .i64) (.prod (.int .i64) (.int .i64)))))))
abbrev zqa := (List UInt8 × (Int × List zq8))
abbrev zqb : Ty := (.prod .str (.prod (.int .i64) (.slice zq9)))
abbrev zqc := (List UInt8 × (List Int × Bool))
abbrev zqd : Ty := (.prod .str (.prod (.slice (.int .i64)) .bool))
abbrev zqe := (List UInt8 × (Int × (List (Int × Int) × (Int × (Int × Bool)))))
abbrev zqf : Ty := (.prod .str (.prod (.int .i64) (.prod (.slice (.prod (.int .i64) (.int .i64))) (.prod (.int .i64) (.prod (.int .i64) .bool)))))
abbrev zqg := (List zqa × (List zqe × (List zq0 × List zq4)))
abbrev zqh : Ty := (.prod (.slice zqb) (.prod (.slice zqf) (.prod (.slice zq1) (.slice zq5))))
abbrev zqi : zq6 := ((0 : Int), (([] : List UInt8), (0 : Int)))
abbrev zqj : zqc := (([] : List UInt8), (([] : List Int), false))
abbrev zqk : zq0 := (([] : List UInt8), ((0 : Int), ([] : List Int)))
abbrev zql : zqa := (([] : List UInt8), ((0 : Int), ([] : List zq8)))
abbrev zqm : zq8 := ((0 : Int), ((0 : Int), ((0 : Int), ((0 : Int), ((0 : Int), ((0 : Int), (0 : Int)))))))
abbrev zqn : zqe := (([] : List UInt8), ((0 : Int), (([] : List (Int × Int)), ((0 : Int), ((0 : Int), false)))))
abbrev zqo : zq4 := (([] : List UInt8), (([] : List zq2), ([] : List (Int × (Int × (Int × (Int × Int)))))))
abbrev zqp : zqg := (([] : List zqa), (([] : List zqe), (([] : List zq0), ([] : List zq4))))
abbrev zqq : zq2 := (([] : List UInt8), ((0 : Int), (((0 : Int), (0 : Int)), ((0 : Int), ((0 : Int), (([] : List Int), (([] : List (Int × Int)), ((0 : Int), (0 : Int)))))))))
abbrev t1y := List zq4
abbrev t2y := List zq0
abbrev t3y := List zqe
abbrev t4y := List zqa
abbrev t5y := List UInt8
abbrev t6y := Int × Int
abbrev t0y := Int × (Int × (Int × t6y))
abbrev t7y := List zq6
abbrev t8y := Int × List zq6
abbrev t9y := List UInt8 × Bool
abbrev t10y := List t6y
abbrev t11y := List zq8
abbrev o13y : OT := .p (.d .str) (.p (.d (.int .i64)) (.p (.r 129 (.d (.prod (.int .i64) (.int .i64)))) (.d (.prod (.int .i64) (.prod (.int .i64) .bool)))))
abbrev o14y : OT := .p (.d .str) (.p (.d (.int .i64)) (.p (.d (.prod (.int .i64) (.int .i64))) (.p (.d (.int .i64)) (.p (.d (.int .i64)) (.p (.r 3 (.d (.int .i64))) (.p (.r 129 (.d (.prod (.int .i64) (.int .i64)))) (.d (.prod (.int .i64) (.int .i64)))))))))
abbrev o12y : OT := .p (.d .str) (.p (.r 40 o14y) (.r 46 (.d (.prod (.int .i64) (.prod (.int .i64) (.prod (.int .i64) (.prod (.int .i64) (.int .i64))))))))
abbrev o15y : OT := .p (.d .str) (.p (.d (.int .i64)) (.r 101 (.d zq9)))
abbrev o16y : OT := .p (.d .str) (.p (.d (.int .i64)) (.r 3 (.d (.int .i64))))
abbrev o17y : OT := .p (.d .str) (.p (.r 40 (.d zq3)) (.r 46 (.d (.prod (.int .i64) (.prod (.int .i64) (.prod (.int .i64) (.prod (.int .i64) (.int .i64))))))))
abbrev v18y : Bool × List CT := (false, [.data (.int .i64)])
abbrev b19y : BT := .cells 122 [.trowh 1, .trowh 2, .trowh 3, .trowh 4]
abbrev v20y : Bool × List CT := (false, [.data .bool])
abbrev b21y : BT := .cells 46 [.data (.prod (.int .i64) (.prod (.int .i64) (.prod (.int .i64) (.prod (.int .i64) (.int .i64)))))]
abbrev b22y : BT := .cells 27 [.data zqh]
abbrev v23y : Bool × List CT := (false, [.data (.slice zq7)])
abbrev v24y : Bool × List CT := (false, [.ptr 0 0])
abbrev v25y : Bool × List CT := (false, [.data .str])
abbrev b26y : BT := .cells 9 [.data .str]
abbrev v27y : Bool × List CT := (false, [.rowh 0])
abbrev v28y : Bool × List CT := (false, [.data (.slice (.prod (.int .i64) (.int .i64)))])
abbrev b29y : BT := .cells 146 [.data (.prod (.int .i64) (.prod (.int .i64) (.int .i64)))]
abbrev v30y : Bool × List CT := (false, [.ptr 1 0])
abbrev v31y : Bool × List CT := (true, [.data zqh])
abbrev v32y : Bool × List CT := (false, [.data (.slice zq9)])
abbrev v33y : Bool × List CT := (true, [.data (.prod (.int .i64) (.prod (.int .i64) (.int .i64)))])
abbrev v34y : Bool × List CT := (false, [.data (.slice (.prod (.int .i64) (.slice zq7)))])
abbrev b35y : BT := .cells 40 [.data zq3]
abbrev b36y : BT := .cells 40 [.data .str, .data (.int .i64), .data (.int .i64), .data (.int .i64), .data (.int .i64), .data (.int .i64), .rowh 6, .rowh 7, .data (.int .i64), .data (.int .i64)]
abbrev b37y : BT := .cells 27 [.rowh 3, .rowh 4, .rowh 5, .rowh 6]
abbrev v38y : Bool × List CT := (false, [.data (.slice (.int .i64))])
abbrev v39y : Bool × List CT := (false, [.data (.slice zqf)])
abbrev v40y : Bool × List CT := (false, [.data (.int .u8)])
abbrev b41y : BT := .cells 44 [.data .str, .rowh 7, .rowh 8]
abbrev v42y : Bool × List CT := (true, [.data zqb])
abbrev v43y : Bool × List CT := (false, [.data (.slice zq5)])
abbrev v44y : Bool × List CT := (false, [.data (.slice zq1)])
abbrev b45y : BT := .cells 35 [.data .str, .data (.int .i64), .rowh 6, .data (.int .i64), .data (.int .i64), .data .bool]
abbrev v46y : Bool × List CT := (false, [.data (.slice zqb)])
abbrev v47y : Bool × List CT := (false, [.ptr 2 0])
abbrev b48y : BT := .cells 27 [.rowh 2, .rowh 3, .rowh 4, .rowh 5]
abbrev v49y : Bool × List CT := (true, [.data zq5])
abbrev v50y : Bool × List CT := (true, [.data zq1])
abbrev l51y : List BT := [b19y, .tree 32 o15y, .tree 35 o13y, .tree 71 o16y, .tree 44 o12y]
abbrev l52y : List BT := [b37y, b35y, b41y, .row 32 zqb, .row 35 zqf, .row 71 zq1, .row 44 zq5, .row 40 zq3, .row 46 (.prod (.int .i64) (.prod (.int .i64) (.prod (.int .i64) (.prod (.int .i64) (.int .i64)))))]
abbrev l53y : List BT := [b19y, .tree 32 o15y, .tree 35 o13y, .tree 71 o16y, .tree 44 o12y, b21y, .row 3 (.int .i64)]
abbrev l54y : List BT := [b48y, b36y, .row 32 zqb, .row 35 zqf, .row 71 zq1, .row 44 zq5, .row 3 (.int .i64), .row 129 (.prod (.int .i64) (.int .i64))]
abbrev l55y : List BT := [.row 165 (.prod (.int .i64) (.int .i64))]
abbrev l56y : List BT := [.row 119 (.prod (.int .i64) (.slice zq7))]
abbrev l57y : List BT := [.cells 27 [.rowh 1, .rowh 2, .rowh 3, .rowh 4], .row 32 zqb, .row 35 zqf, .row 71 zq1, .row 44 zq5]
abbrev l58y : List BT := [b19y, .tree 32 o15y, .tree 35 o13y, .tree 71 o16y, .tree 44 o12y, b45y, .row 129 (.prod (.int .i64) (.int .i64))]
abbrev l59y : List BT := [b22y, .map 66 .str .bool false]
abbrev l60y : List BT := [.cells 27 [.trowh 1, .trowh 2, .trowh 3, .trowh 4], .tree 32 o15y, .tree 35 o13y, .tree 71 o16y, .tree 44 o12y]
abbrev l61y : List BT := [.cells 72 [.fn 158 []], b26y]
abbrev l62y : List BT := [.cells 64 [.fn 155 []], b26y]
abbrev l63y : List BT := [.cells 97 [.fn 45 []], b26y]
abbrev l64y : List BT := [.cells 76 [.fn 47 []], b26y]
abbrev l65y : List BT := [b19y, .tree 32 o15y, .tree 35 o13y, .tree 71 o16y, .tree 44 o12y, .row 3 (.int .i64)]
abbrev l66y : List BT := [.row 167 (.prod (.int .i64) (.int .i64)), .row 165 (.prod (.int .i64) (.int .i64))]
abbrev l67y : List BT := [.row 167 (.prod (.int .i64) (.int .i64))]
abbrev q68y : List (TypeId × OT) := [(32, o15y), (35, o13y), (40, o14y), (44, o12y), (71, o16y)]
def tab : List (Nat × TI) := [
 (3, ⟨false, 1, 8, [.int .i64 (0 : Int)], [], none, none, (some (.int .i64)), (some .i64), false, false, none, none, false⟩),
 (4, ⟨false, 1, 1, [.bool false], [], none, none, (some .bool), none, true, false, none, none, false⟩),
 (5, ⟨false, 1, 1, [.int .u8 (0 : Int)], [], none, none, (some (.int .u8)), (some .u8), false, false, none, none, false⟩),
 (9, ⟨false, 1, 16, [.str ([] : List UInt8)], [], none, none, (some .str), none, false, true, none, none, false⟩),
 (22, ⟨false, 1, 24, [.nils], [], (some 32), none, (some (.slice zqb)), none, false, false, none, none, false⟩),
 (23, ⟨false, 1, 24, [.nils], [], (some 35), none, (some (.slice zqf)), none, false, false, none, none, false⟩),
 (24, ⟨false, 1, 24, [.nils], [], (some 71), none, (some (.slice zq1)), none, false, false, none, none, false⟩),
 (25, ⟨false, 1, 24, [.nils], [], (some 44), none, (some (.slice zq5)), none, false, false, none, none, false⟩),
 (27, ⟨true, 4, 96, [.nils, .nils, .nils, .nils], [(0, 1, false), (1, 1, false), (2, 1, false), (3, 1, false)], none, none, (some zqh), none, false, false, none, none, false⟩),
 (28, ⟨false, 1, 24, [.nils], [], (some 5), none, (some (.slice (.int .u8))), none, false, false, none, none, false⟩),
 (30, ⟨false, 1, 24, [.nils], [], (some 101), none, (some (.slice zq9)), none, false, false, none, none, false⟩),
 (32, ⟨true, 3, 48, [.str ([] : List UInt8), .int .i64 (0 : Int), .nils], [(0, 1, false), (1, 1, false), (2, 1, false)], none, none, (some zqb), none, false, false, none, none, false⟩),
 (33, ⟨false, 1, 24, [.nils], [], (some 129), none, (some (.slice (.prod (.int .i64) (.int .i64)))), none, false, false, none, none, false⟩),
 (35, ⟨true, 6, 72, [.str ([] : List UInt8), .int .i64 (0 : Int), .nils, .int .i64 (0 : Int), .int .i64 (0 : Int), .bool false], [(0, 1, false), (1, 1, false), (2, 1, false), (3, 1, false), (4, 1, false), (5, 1, false)], none, none, (some zqf), none, false, false, none, none, false⟩),
 (37, ⟨true, 2, 16, [.int .i64 (0 : Int), .int .i64 (0 : Int)], [(0, 1, false), (1, 1, false)], none, none, (some (.prod (.int .i64) (.int .i64))), none, false, false, (some [.i, .i]), none, false⟩),
 (38, ⟨false, 1, 24, [.nils], [], (some 3), none, (some (.slice (.int .i64))), none, false, false, none, none, false⟩),
 (40, ⟨true, 10, 120, [.str ([] : List UInt8), .int .i64 (0 : Int), .int .i64 (0 : Int), .int .i64 (0 : Int), .int .i64 (0 : Int), .int .i64 (0 : Int), .nils, .nils, .int .i64 (0 : Int), .int .i64 (0 : Int)], [(0, 1, false), (1, 1, false), (2, 2, true), (4, 1, false), (5, 1, false), (6, 1, false), (7, 1, false), (8, 1, false), (9, 1, false)], none, none, (some zq3), none, false, false, none, none, false⟩),
 (41, ⟨false, 1, 24, [.nils], [], (some 40), none, (some (.slice zq3)), none, false, false, none, none, false⟩),
 (42, ⟨false, 1, 24, [.nils], [], (some 46), none, (some (.slice (.prod (.int .i64) (.prod (.int .i64) (.prod (.int .i64) (.prod (.int .i64) (.int .i64))))))), none, false, false, none, none, false⟩),
 (44, ⟨true, 3, 64, [.str ([] : List UInt8), .nils, .nils], [(0, 1, false), (1, 1, false), (2, 1, false)], none, none, (some zq5), none, false, false, none, none, false⟩),
 (46, ⟨true, 5, 40, [.int .i64 (0 : Int), .int .i64 (0 : Int), .int .i64 (0 : Int), .int .i64 (0 : Int), .int .i64 (0 : Int)], [(0, 1, false), (1, 1, false), (2, 1, false), (3, 1, false), (4, 1, false)], none, none, (some (.prod (.int .i64) (.prod (.int .i64) (.prod (.int .i64) (.prod (.int .i64) (.int .i64)))))), none, false, false, (some [.i, .i, .i, .i, .i]), none, false⟩),
 (64, ⟨false, 1, 8, [.nilfn], [], none, none, none, none, false, false, none, none, false⟩),
 (66, ⟨false, 1, 8, [.junk], [], none, none, none, none, false, false, none, (some (9, 4)), false⟩),
 (71, ⟨true, 3, 48, [.str ([] : List UInt8), .int .i64 (0 : Int), .nils], [(0, 1, false), (1, 1, false), (2, 1, false)], none, none, (some zq1), none, false, false, none, none, false⟩),
 (72, ⟨false, 1, 8, [.nilfn], [], none, none, none, none, false, false, none, none, false⟩),
 (76, ⟨false, 1, 8, [.nilfn], [], none, none, none, none, false, false, none, none, false⟩),
 (81, ⟨false, 1, 24, [.nils], [], (some 9), none, (some (.slice .str)), none, false, false, none, none, false⟩),
 (85, ⟨false, 1, 24, [.nils], [], (some 119), none, (some (.slice (.prod (.int .i64) (.slice zq7)))), none, false, false, none, none, false⟩),
 (97, ⟨false, 1, 8, [.nilfn], [], none, none, none, none, false, false, none, none, false⟩),
 (101, ⟨true, 7, 56, [.int .i64 (0 : Int), .int .i64 (0 : Int), .int .i64 (0 : Int), .int .i64 (0 : Int), .int .i64 (0 : Int), .int .i64 (0 : Int), .int .i64 (0 : Int)], [(0, 1, false), (1, 1, false), (2, 1, false), (3, 1, false), (4, 1, false), (5, 1, false), (6, 1, false)], none, none, (some zq9), none, false, false, (some [.i, .i, .i, .i, .i, .i, .i]), none, false⟩),
 (114, ⟨false, 1, 24, [.nils], [], (some 127), none, (some (.slice zq7)), none, false, false, none, none, false⟩),
 (119, ⟨true, 2, 32, [.int .i64 (0 : Int), .nils], [(0, 1, false), (1, 1, false)], none, none, (some (.prod (.int .i64) (.slice zq7))), none, false, false, none, none, false⟩),
 (122, ⟨true, 4, 96, [.nils, .nils, .nils, .nils], [(0, 4, true)], none, none, (some zqh), none, false, false, none, none, false⟩),
 (123, ⟨false, 1, 8, [.junk], [], none, none, none, none, false, false, none, (some (9, 125)), false⟩),
 (125, ⟨false, 1, 8, [.nilfn], [], none, none, none, none, false, false, none, none, false⟩),
 (127, ⟨true, 3, 32, [.int .i64 (0 : Int), .str ([] : List UInt8), .int .i64 (0 : Int)], [(0, 1, false), (1, 1, false), (2, 1, false)], none, none, (some zq7), none, false, false, (some [.i, .s, .i]), none, false⟩),
 (129, ⟨true, 2, 16, [.int .i64 (0 : Int), .int .i64 (0 : Int)], [(0, 1, false), (1, 1, false)], none, none, (some (.prod (.int .i64) (.int .i64))), none, false, false, (some [.i, .i]), none, false⟩),
 (139, ⟨false, 1, 24, [.nils], [], (some 167), none, (some (.slice (.prod (.int .i64) (.int .i64)))), none, false, false, none, none, false⟩),
 (146, ⟨true, 3, 24, [.int .i64 (0 : Int), .int .i64 (0 : Int), .int .i64 (0 : Int)], [(0, 1, false), (1, 1, false), (2, 1, false)], none, none, (some (.prod (.int .i64) (.prod (.int .i64) (.int .i64)))), none, false, false, (some [.i, .i, .i]), none, false⟩),
 (156, ⟨true, 3, 48, [.str ([] : List UInt8), .nils, .bool false], [(0, 1, false), (1, 1, false), (2, 1, false)], none, none, (some zqd), none, false, false, none, none, false⟩),
 (161, ⟨false, 1, 24, [.nils], [], (some 165), none, (some (.slice (.prod (.int .i64) (.int .i64)))), none, false, false, none, none, false⟩),
 (165, ⟨true, 2, 16, [.int .i64 (0 : Int), .int .i64 (0 : Int)], [(0, 1, false), (1, 1, false)], none, none, (some (.prod (.int .i64) (.int .i64))), none, false, false, (some [.i, .i]), none, false⟩),
 (167, ⟨true, 2, 16, [.int .i64 (0 : Int), .int .i64 (0 : Int)], [(0, 1, false), (1, 1, false)], none, none, (some (.prod (.int .i64) (.int .i64))), none, false, false, (some [.i, .i]), none, false⟩),
 (176, ⟨false, 1, 24, [.nils], [], (some 156), none, (some (.slice zqd)), none, false, false, none, none, false⟩),
 (181, ⟨false, 1, 8, [.nilp], [], none, none, none, none, false, false, none, none, true⟩),
 (187, ⟨false, 1, 8, [.nilp], [], none, none, none, none, false, false, none, none, true⟩),
 (190, ⟨false, 1, 8, [.nilp], [], none, none, none, none, false, false, none, none, true⟩),
 (194, ⟨false, 1, 8, [.nilp], [], none, none, none, none, false, false, none, none, true⟩),
 (197, ⟨false, 1, 8, [.nilp], [], none, none, none, none, false, false, none, none, true⟩),
 (205, ⟨true, 12, 96, [.int .i64 (0 : Int), .int .i64 (0 : Int), .int .i64 (0 : Int), .int .i64 (0 : Int), .int .i64 (0 : Int), .int .i64 (0 : Int), .int .i64 (0 : Int), .int .i64 (0 : Int), .int .i64 (0 : Int), .int .i64 (0 : Int), .int .i64 (0 : Int), .int .i64 (0 : Int)], [], (some 3), (some 12), (some (.prod (.int .i64) (.prod (.int .i64) (.prod (.int .i64) (.prod (.int .i64) (.prod (.int .i64) zq9)))))), none, false, false, (some [.i, .i, .i, .i, .i, .i, .i, .i, .i, .i, .i, .i]), none, false⟩),
 (238, ⟨false, 1, 16, [.err true], [], none, none, (some .err), none, false, false, none, none, false⟩)]
theorem Qa : TOk Tryz.prog (look tab) := Qjl (by kernel_rfl)
theorem mixed : Tryz.prog.follows .mixedOrders = true := by kernel_rfl
abbrev OK (p : Pc) (G : p.G) : Prop := p.Ok Tryz.prog G
abbrev GO (X : Ctx) : Prop := ΓOk Tryz.prog X.Γ
@[reducible] def cx (l : List (Nat × Fun)) : Ctx := ⟨look tab, Q18 l, false, false, false, false, [], none, 0, []⟩
@[reducible] def lp2 {A0 A1 B : Type} (f : (A0 → A1 → B) → A0 → A1 → B) (z : B) : Nat → A0 → A1 → B
 | 0 => fun _ _ => z
 | i + 1 => f (lp2 f z i)
@[reducible] def lp3 {A0 A1 A2 B : Type} (f : (A0 → A1 → A2 → B) → A0 → A1 → A2 → B) (z : B) : Nat → A0 → A1 → A2 → B
 | 0 => fun _ _ _ => z
 | i + 1 => f (lp3 f z i)
@[reducible] def lp4 {A0 A1 A2 A3 B : Type} (f : (A0 → A1 → A2 → A3 → B) → A0 → A1 → A2 → A3 → B) (z : B) : Nat → A0 → A1 → A2 → A3 → B
 | 0 => fun _ _ _ _ => z
 | i + 1 => f (lp4 f z i)
@[reducible] def lp5 {A0 A1 A2 A3 A4 B : Type} (f : (A0 → A1 → A2 → A3 → A4 → B) → A0 → A1 → A2 → A3 → A4 → B) (z : B) : Nat → A0 → A1 → A2 → A3 → A4 → B
 | 0 => fun _ _ _ _ _ => z
 | i + 1 => f (lp5 f z i)
@[reducible] def lp6 {A0 A1 A2 A3 A4 A5 B : Type} (f : (A0 → A1 → A2 → A3 → A4 → A5 → B) → A0 → A1 → A2 → A3 → A4 → A5 → B) (z : B) : Nat → A0 → A1 → A2 → A3 → A4 → A5 → B
 | 0 => fun _ _ _ _ _ _ => z
 | i + 1 => f (lp6 f z i)
@[reducible] def lp7 {A0 A1 A2 A3 A4 A5 A6 B : Type} (f : (A0 → A1 → A2 → A3 → A4 → A5 → A6 → B) → A0 → A1 → A2 → A3 → A4 → A5 → A6 → B) (z : B) : Nat → A0 → A1 → A2 → A3 → A4 → A5 → A6 → B
 | 0 => fun _ _ _ _ _ _ _ => z
 | i + 1 => f (lp7 f z i)
@[reducible] def lp8 {A0 A1 A2 A3 A4 A5 A6 A7 B : Type} (f : (A0 → A1 → A2 → A3 → A4 → A5 → A6 → A7 → B) → A0 → A1 → A2 → A3 → A4 → A5 → A6 → A7 → B) (z : B) : Nat → A0 → A1 → A2 → A3 → A4 → A5 → A6 → A7 → B
 | 0 => fun _ _ _ _ _ _ _ _ => z
 | i + 1 => f (lp8 f z i)
@[reducible] def lp9 {A0 A1 A2 A3 A4 A5 A6 A7 A8 B : Type} (f : (A0 → A1 → A2 → A3 → A4 → A5 → A6 → A7 → A8 → B) → A0 → A1 → A2 → A3 → A4 → A5 → A6 → A7 → A8 → B) (z : B) : Nat → A0 → A1 → A2 → A3 → A4 → A5 → A6 → A7 → A8 → B
 | 0 => fun _ _ _ _ _ _ _ _ _ => z
 | i + 1 => f (lp9 f z i)
@[reducible] def lp10 {A0 A1 A2 A3 A4 A5 A6 A7 A8 A9 B : Type} (f : (A0 → A1 → A2 → A3 → A4 → A5 → A6 → A7 → A8 → A9 → B) → A0 → A1 → A2 → A3 → A4 → A5 → A6 → A7 → A8 → A9 → B) (z : B) : Nat → A0 → A1 → A2 → A3 → A4 → A5 → A6 → A7 → A8 → A9 → B
 | 0 => fun _ _ _ _ _ _ _ _ _ _ => z
 | i + 1 => f (lp10 f z i)
@[reducible] def lp11 {A0 A1 A2 A3 A4 A5 A6 A7 A8 A9 A10 B : Type} (f : (A0 → A1 → A2 → A3 → A4 → A5 → A6 → A7 → A8 → A9 → A10 → B) → A0 → A1 → A2 → A3 → A4 → A5 → A6 → A7 → A8 → A9 → A10 → B) (z : B) : Nat → A0 → A1 → A2 → A3 → A4 → A5 → A6 → A7 → A8 → A9 → A10 → B
 | 0 => fun _ _ _ _ _ _ _ _ _ _ _ => z
 | i + 1 => f (lp11 f z i)
@[reducible] def lp13 {A0 A1 A2 A3 A4 A5 A6 A7 A8 A9 A10 A11 A12 B : Type} (f : (A0 → A1 → A2 → A3 → A4 → A5 → A6 → A7 → A8 → A9 → A10 → A11 → A12 → B) → A0 → A1 → A2 → A3 → A4 → A5 → A6 → A7 → A8 → A9 → A10 → A11 → A12 → B) (z : B) : Nat → A0 → A1 → A2 → A3 → A4 → A5 → A6 → A7 → A8 → A9 → A10 → A11 → A12 → B
 | 0 => fun _ _ _ _ _ _ _ _ _ _ _ _ _ => z
 | i + 1 => f (lp13 f z i)
@[reducible] def lp14 {A0 A1 A2 A3 A4 A5 A6 A7 A8 A9 A10 A11 A12 A13 B : Type} (f : (A0 → A1 → A2 → A3 → A4 → A5 → A6 → A7 → A8 → A9 → A10 → A11 → A12 → A13 → B) → A0 → A1 → A2 → A3 → A4 → A5 → A6 → A7 → A8 → A9 → A10 → A11 → A12 → A13 → B) (z : B) : Nat → A0 → A1 → A2 → A3 → A4 → A5 → A6 → A7 → A8 → A9 → A10 → A11 → A12 → A13 → B
 | 0 => fun _ _ _ _ _ _ _ _ _ _ _ _ _ _ => z
 | i + 1 => f (lp14 f z i)
@[reducible] def lp15 {A0 A1 A2 A3 A4 A5 A6 A7 A8 A9 A10 A11 A12 A13 A14 B : Type} (f : (A0 → A1 → A2 → A3 → A4 → A5 → A6 → A7 → A8 → A9 → A10 → A11 → A12 → A13 → A14 → B) → A0 → A1 → A2 → A3 → A4 → A5 → A6 → A7 → A8 → A9 → A10 → A11 → A12 → A13 → A14 → B) (z : B) : Nat → A0 → A1 → A2 → A3 → A4 → A5 → A6 → A7 → A8 → A9 → A10 → A11 → A12 → A13 → A14 → B
 | 0 => fun _ _ _ _ _ _ _ _ _ _ _ _ _ _ _ => z
 | i + 1 => f (lp15 f z i)
@[reducible] def lp16 {A0 A1 A2 A3 A4 A5 A6 A7 A8 A9 A10 A11 A12 A13 A14 A15 B : Type} (f : (A0 → A1 → A2 → A3 → A4 → A5 → A6 → A7 → A8 → A9 → A10 → A11 → A12 → A13 → A14 → A15 → B) → A0 → A1 → A2 → A3 → A4 → A5 → A6 → A7 → A8 → A9 → A10 → A11 → A12 → A13 → A14 → A15 → B) (z : B) : Nat → A0 → A1 → A2 → A3 → A4 → A5 → A6 → A7 → A8 → A9 → A10 → A11 → A12 → A13 → A14 → A15 → B
 | 0 => fun _ _ _ _ _ _ _ _ _ _ _ _ _ _ _ _ => z
 | i + 1 => f (lp16 f z i)
@[reducible] def lp25 {A0 A1 A2 A3 A4 A5 A6 A7 A8 A9 A10 A11 A12 A13 A14 A15 A16 A17 A18 A19 A20 A21 A22 A23 A24 B : Type} (f : (A0 → A1 → A2 → A3 → A4 → A5 → A6 → A7 → A8 → A9 → A10 → A11 → A12 → A13 → A14 → A15 → A16 → A17 → A18 → A19 → A20 → A21 → A22 → A23 → A24 → B) → A0 → A1 → A2 → A3 → A4 → A5 → A6 → A7 → A8 → A9 → A10 → A11 → A12 → A13 → A14 → A15 → A16 → A17 → A18 → A19 → A20 → A21 → A22 → A23 → A24 → B) (z : B) : Nat → A0 → A1 → A2 → A3 → A4 → A5 → A6 → A7 → A8 → A9 → A10 → A11 → A12 → A13 → A14 → A15 → A16 → A17 → A18 → A19 → A20 → A21 → A22 → A23 → A24 → B
 | 0 => fun _ _ _ _ _ _ _ _ _ _ _ _ _ _ _ _ _ _ _ _ _ _ _ _ _ => z
 | i + 1 => f (lp25 f z i)
abbrev En := Ent Tryz.prog
abbrev Pb := PB Tryz.prog
@[reducible] noncomputable def ctx (es : List En) : Ctx := ⟨look tab, gam es, false, false, false, false, [], none, 0, []⟩
theorem pf (es : List En) (cs : List Pb) {ps rs : List (Bool × List CT)} {is os : List BT} {f : FuncId} {fn : Func} (vs : List RS) {s : (β : Type) → VF (KF (Option β) rs os → Option β) ps is} (hf : Tryz.prog.funcs[f]? = some fn)
  (hc : ((fn.name == "runtime.NumGoroutine"), fn.body, fn.results.toList, (Nat.beq vs.length rs.length && (ST.tidy rs && Nat.ble ps.length fn.ntmps)), cs.map (fun b => (find b.q 1 (Q3 fn), b.p.v.m, b.p.n, b.p.m))) = (false, some (Q3 fn), vs.map RS.toVar, true, cs.map (fun b => ([b.p.c], is.length, fn.ntmps, is.length))))
  (h : ∀ {β : Type} (x : ST.dens ps × BT.dens is) (k : ST.dens rs × BT.dens os → Option β), exec (ctx es) fn.ntmps (cuts cs) 1 (Q3 fn) ((vIn (sgE ps is rs os s)).mk' x) (retK (ctx es).T (sgE ps is rs os s) vs k) = vapp ps is (s β) x (klam rs os k)) :
  SpecOk Tryz.prog f (sgE ps is rs os fun β => hid (s β)) := Q61 mixed (X := ctx es) Qa es rfl cs vs hf hc h
theorem pfB (es : List En) (cs : List Pb) {ps rs : List (Bool × List CT)} {is os : List BT} {f : FuncId} {fn : Func} (vs : List RS) {s : (β : Type) → VF (KF (Option β) rs os → Option β) ps is} (hf : Tryz.prog.funcs[f]? = some fn)
  (hc : ((fn.name == "runtime.NumGoroutine"), fn.body, fn.results.toList, (Nat.beq vs.length rs.length && (ST.tidy rs && Nat.ble ps.length fn.ntmps)), cs.map (fun b => (find b.q 1 (Q3 fn), b.p.v.m, b.p.n, b.p.m))) = (false, some (Q3 fn), vs.map RS.toVar, true, cs.map (fun b => ([b.p.c], is.length, fn.ntmps, is.length))))
  (h : ∀ {β : Type} (x : ST.dens ps × BT.dens is) (k : ST.dens rs × BT.dens os → Option β), exec (ctx es) fn.ntmps (cuts cs) 1 (Q3 fn) ((vIn (sgE ps is rs os s)).mk' x) (retK (ctx es).T (sgE ps is rs os s) vs k) = vapp ps is (s β) x (klam rs os k)) :
  SpecOkB Tryz.prog f (sgE ps is rs os fun β => hid (s β)) := Q1o mixed (X := ctx es) Qa es rfl cs vs hf hc h
theorem pl {p : Pc} (es : List En) (cs : List Pb) {g : Nat → (β : Type) → p.T β} (hc : ((p.o.all fun x => Nat.beq x.2.m p.m), cs.map (fun b => (find b.q 1 (Q16 p.c), b.p.v.m, b.p.n, b.p.m))) = (true, cs.map (fun b => ([b.p.c], p.m, p.n, p.m)))) (hv : p.v.m = p.m) (hl : p.c = .loop (Q16 p.c))
  (h0 : ∀ {β : Type} (d : p.v.den) (ks : Outs.K β p.o), p.un (g 0) d ks = none)
  (h : ∀ (i : Nat) {β : Type} (d : p.v.den) (ks : Outs.K β p.o), exec (ctx es) p.n (cuts cs) 1 (Q16 p.c) (p.v.mk' d) (Qbh p.v (fun d' => p.un (g i) d' ks) p.o ks) = p.un (g (i + 1)) d ks) : p.Ok Tryz.prog (p.un fun β => hid (g fuel β)) := Q3f mixed (X := ctx es) Qa es rfl cs hc hv hl h0 h
theorem pe {p : Pc} (es : List En) (cs : List Pb) (q : Nat) {g : (β : Type) → p.T β} (hc : ((p.o.all fun x => Nat.beq x.2.m p.m), cs.map (fun b => (find b.q q p.c, b.p.v.m, b.p.n, b.p.m))) = (true, cs.map (fun b => ([b.p.c], p.m, p.n, p.m))))
  (h : ∀ {β : Type} (d : p.v.den) (ks : Outs.K β p.o), exec (ctx es) p.n (cuts cs) q p.c (p.v.mk' d) (outK p.o ks) = p.un g d ks) : p.Ok Tryz.prog (p.un fun β => hid (g β)) := Qgy mixed (X := ctx es) Qa es rfl cs q hc h
abbrev zqr := {β : Type} → Int → (t5y → Option β) → Option β
def zqs : zqr := fun i_ k =>
 let l := ([(IntKind.u8.wrap (IntKind.i64.wrap ((97 : Int) + (IntKind.i64.wrap (Int.tdiv i_ (20 : Int)))))), (IntKind.u8.wrap (IntKind.i64.wrap ((97 : Int) + (Int.tmod i_ (20 : Int)))))] : List Int);
 cond (decide (List.length ([110] : List UInt8) + List.length (Q4e l) ≤ 9223372036854775807))
 (let t := (([110] : List UInt8) ++ (Q4e l));
 k t)
 none
def zqt : zqr := hid zqs
noncomputable def zqu : En := ⟨6, .spec (sg [v18y] [] [v25y] [] zqt), pf [] [] [.tmp 2] Tryz.func6 (by kernel_rfl) fun _ _ => by kernel_rfl⟩
theorem zqv : SpecOk Tryz.prog 6 (sg [v18y] [] [v25y] [] zqt) := zqu.ok
abbrev zqw := {β : Type} → zqg → (t4y → t3y → t2y → t1y → Option β) → Option β
abbrev zqx (β : Type) := t4y → t3y → t2y → t1y → t4y → t3y → t2y → t1y → Option β
abbrev zqy (β : Type) := Int → zqg → t4y → t3y → t2y → t1y → t4y → t3y → t2y → t1y → Option β
noncomputable def zqz : Pc := ⟨43, 0, Q8 58 (Q3 Tryz.f8), ⟨0, [1, 2, 3, 4], [v24y, v30y, v47y, v18y], [b22y, .cells 27 [.rowh 3, .rowh 4, .rowh 5, .trowh 6], .cells 27 [.rowh 7, .rowh 8, .rowh 9, .trowh 10], .row 32 zqb, .row 35 zqf, .row 71 zq1, .tree 44 o17y, .row 32 zqb, .row 35 zqf, .row 71 zq1, .tree 44 o17y]⟩, [(.exit 0, ⟨0, [2, 3], [v24y, v30y], [.cells 27 [.rowh 2, .rowh 3, .rowh 4, .trowh 5], .cells 27 [.rowh 6, .rowh 7, .rowh 8, .trowh 9], .row 32 zqb, .row 35 zqf, .row 71 zq1, .tree 44 o17y, .row 32 zqb, .row 35 zqf, .row 71 zq1, .tree 44 o17y]⟩)]⟩
def zq10 {β : Type} (rec : zqy β) (k1 : zqx β) : zqy β := fun i_ c b3_ b4_ b5_ b6_ b7_ b8_ b9_ b10_ =>
 cond (decide (i_ < (List.length c.2.2.2 : Int)))
 (cond (decide (0 ≤ i_) && decide (i_ < (List.length c.2.2.2 : Int)))
 (let e := List.getD c.2.2.2 (Int.toNat i_) (([] : List UInt8), (([] : List zq2), ([] : List t0y)));
 cond (decide (List.length e.2.1 * 120 ≤ Q4))
 (cond (decide (List.length e.2.2 * 40 ≤ Q4))
 (let l := ([e] : List zq4);
 cond (true && decide ((List.length b10_ + List.length l) * 64 ≤ Q4))
 (let l2 := (b10_ ++ l);
 let i_2 := (IntKind.i64.wrap (i_ + (1 : Int)));
 rec i_2 c b3_ b4_ b5_ b6_ b7_ b8_ b9_ l2)
 none)
 none)
 none)
 none)
 (k1 b3_ b4_ b5_ b6_ b7_ b8_ b9_ b10_)
def zq11 (m : Nat) {β : Type} (k1 : zqx β) : zqy β := lp10 (fun r => zq10 r k1) none m
theorem zq12 {β : Type} (i : Nat) (k1) : zq11 (β := β) (i + 1) k1 = zq10 (zq11 i k1) k1 := rfl
def zq13 {β : Type} := hid (zq11 (β := β) fuel)
noncomputable def zq14 : Pb := ⟨58, zqz, fun _ => zq13, Q3f mixed (X := ⟨look tab, gam ([] : List En), false, false, false, false, [(44, o17y)], none, 0, []⟩) (p := zqz) Qa [] rfl [] (g := fun i _ => zq11 i) (by kernel_rfl) rfl (by kernel_rfl) (fun _ _ => rfl) fun _ _ _ _ => by kernel_rfl⟩
def zq15 : zqw := fun c k =>
 cond (decide (List.length c.1 * 48 ≤ Q4))
 (cond (decide (List.length c.2.1 * 72 ≤ Q4))
 (cond (decide (List.length c.2.2.1 * 48 ≤ Q4))
 (zq13 (fun b2_ b3_ b4_ b5_ b6_ b7_ b8_ b9_ =>
 k b6_ b7_ b8_ b9_) (0 : Int) c ([] : List zqa) ([] : List zqe) ([] : List zq0) ([] : List zq4) c.1 c.2.1 c.2.2.1 ([] : List zq4))
 none)
 none)
 none
def zq16 : zqw := hid zq15
noncomputable def zq17 : En := ⟨8, .spec (sg [v31y] [] [(true, [.rowh 0, .rowh 1, .rowh 2, .trowh 3])] [.row 32 zqb, .row 35 zqf, .row 71 zq1, .tree 44 o17y] zq16), Q61 mixed (X := ⟨look tab, gam ([] : List En), false, false, false, false, [(44, o17y)], none, 0, []⟩) Qa [] rfl [zq14] [.cell 2 27] Tryz.func8 (by kernel_rfl) fun _ _ => by kernel_rfl⟩
abbrev zq18 := {β : Type} → zqa → (t5y → Option β) → Option β
def zq19 : zq18 := fun z k =>
 k z.1
def zq1a : zq18 := hid zq19
noncomputable def zq1b : En := ⟨19, .spec (sg [v42y] [] [v25y] [] zq1a), pf [] [] [.tmp 2] Tryz.func19 (by kernel_rfl) fun _ _ => by kernel_rfl⟩
abbrev zq1c := {β : Type} → zq0 → (t5y → Option β) → Option β
def zq1d : zq1c := fun x k =>
 k x.1
def zq1e : zq1c := hid zq1d
noncomputable def zq1f : En := ⟨24, .spec (sg [v50y] [] [v25y] [] zq1e), pf [] [] [.tmp 2] Tryz.func24 (by kernel_rfl) fun _ _ => by kernel_rfl⟩
abbrev zq1g := {β : Type} → zq4 → (t5y → Option β) → Option β
def zq1h : zq1g := fun s k =>
 k s.1
def zq1i : zq1g := hid zq1h
noncomputable def zq1j : En := ⟨28, .spec (sg [v49y] [] [v25y] [] zq1i), pf [] [] [.tmp 2] Tryz.func28 (by kernel_rfl) fun _ _ => by kernel_rfl⟩
abbrev zq1k := {β : Type} → (t5y → Option β) → Option β
def zq1l : zq1k := fun k =>
 let t := ([122, 111, 110, 101, 32, 122, 32, 43, 48, 48, 58, 48, 48, 10, 112, 101, 114, 115, 111, 110, 32, 97, 32, 122, 10, 115, 99, 104, 101, 100, 117, 108, 101, 32, 115, 10, 108, 97, 121, 101, 114, 32, 108, 32, 122, 32, 50, 48, 50, 54, 45, 48, 49, 45, 48, 53, 32, 48, 57, 58, 48, 48, 32, 49, 32, 119, 101, 101, 107, 115, 10, 109, 101, 109, 98, 101, 114, 32, 97, 10] : List UInt8);
 k t
def zq1m : zq1k := hid zq1l
noncomputable def zq1n : En := ⟨31, .spec (sg [] [] [v25y] [] zq1m), pf [] [] [.tmp 0] Tryz.func31 (by kernel_rfl) fun _ _ => by kernel_rfl⟩
theorem zq1o : SpecOk Tryz.prog 31 (sg [] [] [v25y] [] zq1m) := zq1n.ok
abbrev zq1p := {β : Type} → zqe → (t5y → Option β) → Option β
def zq1q : zq1p := fun p_ k =>
 k p_.1
def zq1r : zq1p := hid zq1q
noncomputable def zq1s : En := ⟨45, .spec (sg [(true, [.data zqf])] [] [v25y] [] zq1r), pf [] [] [.tmp 2] Tryz.func45 (by kernel_rfl) fun _ _ => by kernel_rfl⟩
noncomputable def zq1t : En := .inl mixed (X := ⟨look tab, gam [zq1s], false, false, false, false, [], none, 0, []⟩) (rs := [.tmp 4]) Qa [zq1s] rfl 4 Tryz.func74 (by kernel_rfl)
abbrev zq1u := {β : Type} → t3y → t5y → (Int → t5y → Option β) → Option β
noncomputable def zq1v : List En := [zq1t]
abbrev zq1w (β : Type) := Int → t5y → Option β
abbrev zq1x (β : Type) := t5y → Option β
abbrev zq1y (β : Type) := t3y → Int → Int → t5y → Option β
noncomputable def zq1z : Pc := ⟨19, 2, Q8 26 (Q3 Tryz.f73), ⟨2, [0, 1, 7, 8], [v39y, (false, [.fn 74 [0, 1]]), v18y, v18y], l63y⟩, [(.ret, ⟨2, [4], [v18y], l63y⟩), (.exit 0, ⟨2, [], [], l63y⟩)]⟩
def zq20 {β : Type} (rec : zq1y β) (k1 : zq1w β) (k2 : zq1x β) : zq1y β := fun s t7 t8 b1_ =>
 cond (decide (t8 < t7))
 (cond (decide (0 ≤ t8) && decide (t8 < (List.length s : Int)))
 (let e := List.getD s (Int.toNat t8) (([] : List UInt8), ((0 : Int), (([] : List t6y), ((0 : Int), ((0 : Int), false)))));
 zq1r e (fun rPerson1 =>
 let t := (decide (rPerson1 = b1_));
 cond t
 (k1 t8 b1_)
 (rec s t7 (IntKind.i64.wrap (t8 + (1 : Int))) b1_)))
 none)
 (k2 b1_)
def zq21 (m : Nat) {β : Type} (k1 : zq1w β) (k2 : zq1x β) : zq1y β := lp4 (fun r => zq20 r k1 k2) none m
theorem zq22 {β : Type} (i : Nat) (k1 k2) : zq21 (β := β) (i + 1) k1 k2 = zq20 (zq21 i k1 k2) k1 k2 := rfl
def zq23 {β : Type} := hid (zq21 (β := β) fuel)
noncomputable def zq24 : Pb := ⟨26, zq1z, fun _ => zq23, pl (p := zq1z) zq1v [] (g := fun i _ => zq21 i) (by kernel_rfl) rfl (by kernel_rfl) (fun _ _ => rfl) fun _ _ _ _ => by kernel_rfl⟩
def zq25 : zq1u := fun s b1_ k =>
 zq23 (fun t4 b1_2 =>
 k t4 b1_2) (fun b1_2 =>
 k (-1 : Int) b1_2) s (List.length s : Int) (0 : Int) b1_
def zq26 : zq1u := hid zq25
noncomputable def zq27 : En := ⟨73, .spec (sg [v39y, (false, [.fn 74 [0, 1]])] l63y [v18y] l63y zq26), pf zq1v [zq24] [.tmp 4] Tryz.func73 (by kernel_rfl) fun _ _ => by kernel_rfl⟩
noncomputable def zq28 : En := .inl mixed (X := ⟨look tab, gam [zq27], false, false, false, false, [], none, 0, []⟩) (rs := [.tmp 6, .tmp 7]) Qa [zq27] rfl 4 Tryz.func44 (by kernel_rfl)
abbrev zq29 := {β : Type} → zq4 → (t5y → Option β) → Option β
def zq2a : zq29 := fun s k =>
 k s.1
def zq2b : zq29 := hid zq2a
noncomputable def zq2c : En := ⟨47, .spec (sg [v49y] [] [v25y] [] zq2b), pf [] [] [.tmp 2] Tryz.func47 (by kernel_rfl) fun _ _ => by kernel_rfl⟩
noncomputable def zq2d : En := .inl mixed (X := ⟨look tab, gam [zq2c], false, false, false, false, [], none, 0, []⟩) (rs := [.tmp 4]) Qa [zq2c] rfl 4 Tryz.func76 (by kernel_rfl)
abbrev zq2e := {β : Type} → t1y → t5y → (Int → t5y → Option β) → Option β
noncomputable def zq2f : List En := [zq2d]
abbrev zq2g (β : Type) := Int → t5y → Option β
abbrev zq2h (β : Type) := t5y → Option β
abbrev zq2i (β : Type) := t1y → Int → Int → t5y → Option β
noncomputable def zq2j : Pc := ⟨19, 2, Q8 26 (Q3 Tryz.f75), ⟨2, [0, 1, 7, 8], [v43y, (false, [.fn 76 [0, 1]]), v18y, v18y], l64y⟩, [(.ret, ⟨2, [4], [v18y], l64y⟩), (.exit 0, ⟨2, [], [], l64y⟩)]⟩
def zq2k {β : Type} (rec : zq2i β) (k1 : zq2g β) (k2 : zq2h β) : zq2i β := fun s t7 t8 b1_ =>
 cond (decide (t8 < t7))
 (cond (decide (0 ≤ t8) && decide (t8 < (List.length s : Int)))
 (let e := List.getD s (Int.toNat t8) (([] : List UInt8), (([] : List zq2), ([] : List t0y)));
 zq2b e (fun rSchedule1 =>
 let t := (decide (rSchedule1 = b1_));
 cond t
 (k1 t8 b1_)
 (rec s t7 (IntKind.i64.wrap (t8 + (1 : Int))) b1_)))
 none)
 (k2 b1_)
def zq2l (m : Nat) {β : Type} (k1 : zq2g β) (k2 : zq2h β) : zq2i β := lp4 (fun r => zq2k r k1 k2) none m
theorem zq2m {β : Type} (i : Nat) (k1 k2) : zq2l (β := β) (i + 1) k1 k2 = zq2k (zq2l i k1 k2) k1 k2 := rfl
def zq2n {β : Type} := hid (zq2l (β := β) fuel)
noncomputable def zq2o : Pb := ⟨26, zq2j, fun _ => zq2n, pl (p := zq2j) zq2f [] (g := fun i _ => zq2l i) (by kernel_rfl) rfl (by kernel_rfl) (fun _ _ => rfl) fun _ _ _ _ => by kernel_rfl⟩
def zq2p : zq2e := fun s b1_ k =>
 zq2n (fun t4 b1_2 =>
 k t4 b1_2) (fun b1_2 =>
 k (-1 : Int) b1_2) s (List.length s : Int) (0 : Int) b1_
def zq2q : zq2e := hid zq2p
noncomputable def zq2r : En := ⟨75, .spec (sg [v43y, (false, [.fn 76 [0, 1]])] l64y [v18y] l64y zq2q), pf zq2f [zq2o] [.tmp 4] Tryz.func75 (by kernel_rfl) fun _ _ => by kernel_rfl⟩
noncomputable def zq2s : En := .inl mixed (X := ⟨look tab, gam [zq2r], false, false, false, false, [], none, 0, []⟩) (rs := [.tmp 6, .tmp 7]) Qa [zq2r] rfl 4 Tryz.func46 (by kernel_rfl)
abbrev zq2t := {β : Type} → zq8 → (Bool → Option β) → Option β
def zq2u : zq2t := fun r_ k =>
 let t := (!decide ((Int.tmod r_.2.2.2.2.2.2 (60 : Int)) = (0 : Int)));
 k t
def zq2v : zq2t := hid zq2u
noncomputable def zq2w : En := ⟨50, .spec (sg [(true, [.data zq9])] [] [v20y] [] zq2v), pf [] [] [.tmp 2] Tryz.func50 (by kernel_rfl) fun _ _ => by kernel_rfl⟩
abbrev zq2x := {β : Type} → Int → Int → (Bool → Option β) → Option β
def zq2y : zq2x := fun i_ n k =>
 cond (decide ((0 : Int) ≤ i_))
 (k (decide (i_ < n)))
 (k false)
def zq2z : zq2x := hid zq2y
noncomputable def zq30 : En := ⟨52, .spec (sg [v18y, v18y] [] [v20y] [] zq2z), pf [] [] [.tmp 4] Tryz.func52 (by kernel_rfl) fun _ _ => by kernel_rfl⟩
abbrev zq31 := {β : Type} → t10y → (Int → Option β) → Option β
abbrev zq32 (β : Type) := Int → Option β
abbrev zq33 (β : Type) := Unit → Option β
abbrev zq34 (β : Type) := t10y → t10y → Int → Int → Option β
noncomputable def zq35 : Pc := ⟨46, 0, Q8 58 (Q3 Tryz.f53), ⟨0, [0, 8, 9, 10], [v28y, v28y, v18y, v18y], []⟩, [(.ret, ⟨0, [2], [v18y], []⟩), (.exit 0, ⟨0, [], [], []⟩)]⟩
abbrev zq36 (β : Type) := Int → Option β
abbrev zq37 (β : Type) := t10y → t10y → Int → Int → Option β
abbrev zq38 (β : Type) := t10y → Int → t10y → Int → Int → Bool → t6y → Option β
noncomputable def zq39 : Pc := ⟨46, 0, Q8 229 (Q16 zq35.c), ⟨0, [0, 3, 4, 8, 9, 10, 15], [v28y, v18y, v24y, v28y, v18y, v18y, v20y], [.cells 129 [.data (.prod (.int .i64) (.int .i64))]]⟩, [(.ret, ⟨0, [2], [v18y], []⟩), (.normal, ⟨0, [0, 8, 9, 10], [v28y, v28y, v18y, v18y], []⟩)]⟩
def zq3a {β : Type} (k1 : zq36 β) (k2 : zq37 β) : zq38 β := fun l i_ t8 t9 t10 t15 w =>
 cond t15
 (k1 (1 : Int))
 (cond (decide ((0 : Int) < i_))
 (cond (decide (0 ≤ (IntKind.i64.wrap (i_ - (1 : Int)))) && decide ((IntKind.i64.wrap (i_ - (1 : Int))) < (List.length l : Int)))
 (let e := List.getD l (Int.toNat (IntKind.i64.wrap (i_ - (1 : Int)))) ((0 : Int), (0 : Int));
 cond (decide (w.1 < e.2))
 (k1 (6 : Int))
 (k2 l t8 t9 t10))
 none)
 (k2 l t8 t9 t10))
def zq3b {β : Type} := hid (zq3a (β := β))
noncomputable def zq3c : Pb := ⟨229, zq39, fun _ => zq3b, pe (p := zq39) [] [] 229 (g := fun _ => zq3a) (by kernel_rfl) fun _ _ => by kernel_rfl⟩
def zq3d {β : Type} (rec : zq34 β) (k1 : zq32 β) (k2 : zq33 β) : zq34 β := fun l t8 t9 t10 =>
 cond (decide (t10 < t9))
 (cond (decide (0 ≤ t10) && decide (t10 < (List.length t8 : Int)))
 (let e := List.getD t8 (Int.toNat t10) ((0 : Int), (0 : Int));
 cond (decide (e.1 < (0 : Int)))
 (zq3b (fun t2 =>
 k1 t2) (fun l2 t82 t92 t102 =>
 rec l2 t82 t92 (IntKind.i64.wrap (t102 + (1 : Int)))) l t10 t8 t9 t10 true e)
 (cond (decide (e.2 ≤ e.1))
 (zq3b (fun t2 =>
 k1 t2) (fun l2 t82 t92 t102 =>
 rec l2 t82 t92 (IntKind.i64.wrap (t102 + (1 : Int)))) l t10 t8 t9 t10 true e)
 (let t := (decide ((604800 : Int) < e.2));
 zq3b (fun t2 =>
 k1 t2) (fun l2 t82 t92 t102 =>
 rec l2 t82 t92 (IntKind.i64.wrap (t102 + (1 : Int)))) l t10 t8 t9 t10 t e)))
 none)
 (k2 ())
def zq3e (m : Nat) {β : Type} (k1 : zq32 β) (k2 : zq33 β) : zq34 β := lp4 (fun r => zq3d r k1 k2) none m
theorem zq3f {β : Type} (i : Nat) (k1 k2) : zq3e (β := β) (i + 1) k1 k2 = zq3d (zq3e i k1 k2) k1 k2 := rfl
def zq3g {β : Type} := hid (zq3e (β := β) fuel)
noncomputable def zq3h : Pb := ⟨58, zq35, fun _ => zq3g, pl (p := zq35) [] [zq3c] (g := fun i _ => zq3e i) (by kernel_rfl) rfl (by kernel_rfl) (fun _ _ => rfl) fun _ _ _ _ => by kernel_rfl⟩
def zq3i : zq31 := fun l k =>
 cond (decide ((14 : Int) < (List.length l : Int)))
 (k (5 : Int))
 (zq3g (fun t2 =>
 k t2) (fun _ =>
 k (0 : Int)) l l (List.length l : Int) (0 : Int))
def zq3j : zq31 := hid zq3i
noncomputable def zq3k : En := ⟨53, .spec (sg [v28y] [] [v18y] [] zq3j), pf [] [zq3h] [.tmp 2] Tryz.func53 (by kernel_rfl) fun _ _ => by kernel_rfl⟩
abbrev zq3l := {β : Type} → zq2 → (t5y → Option β) → Option β
def zq3m : zq3l := fun l k =>
 k l.1
def zq3n : zq3l := hid zq3m
noncomputable def zq3o : En := ⟨59, .spec (sg [(true, [.data zq3])] [] [v25y] [] zq3n), pf [] [] [.tmp 2] Tryz.func59 (by kernel_rfl) fun _ _ => by kernel_rfl⟩
def zq3p : Shelf.Ren :=
   {
   f := fun x =>
    match x with
    | 146 => 63
    | 221 => 85
    | 268 => 108
    | 138 => 109
    | 143 => 110
    | 195 => 142
    | 197 => 143
    | 218 => 144
    | 219 => 145
    | 260 => 163
    | 217 => 164
    | 225 => 165
    | 224 => 166
    | 267 => 167
    | 266 => 179
    | 314 => 180
    | n => n,
   t := fun x =>
    match x with
    | 9 => 9
    | 31 => 81
    | 3 => 3
    | 4 => 4
    | 0 => 0
    | 105 => 207
    | 21 => 21
    | 5 => 5
    | 46 => 224
    | 119 => 171
    | 139 => 249
    | 138 => 248
    | 146 => 250
    | 51 => 213
    | n => n,
   g := fun x =>
    match x with
    | 1 => 2
    | 3 => 3
    | 4 => 4
    | n => n }
theorem zq3q : Go.Proofs.Lays.n146 Tryz.prog zq3p :=
 {
  mixed := by kernel_rfl,
  f138 := Eq.trans Tryz.func109 (congrArg some (by kernel_rfl)),
  f143 := Eq.trans Tryz.func110 (congrArg some (by kernel_rfl)),
  f146 := Eq.trans Tryz.func63 (congrArg some (by kernel_rfl)),
  f195 := Eq.trans Tryz.func142 (congrArg some (by kernel_rfl)),
  f197 := Eq.trans Tryz.func143 (congrArg some (by kernel_rfl)),
  f217 := Eq.trans Tryz.func164 (congrArg some (by kernel_rfl)),
  f218 := Eq.trans Tryz.func144 (congrArg some (by kernel_rfl)),
  f219 := Eq.trans Tryz.func145 (congrArg some (by kernel_rfl)),
  f221 := Eq.trans Tryz.func85 (congrArg some (by kernel_rfl)),
  f224 := Eq.trans Tryz.func166 (congrArg some (by kernel_rfl)),
  f225 := Eq.trans Tryz.func165 (congrArg some (by kernel_rfl)),
  f260 := Eq.trans Tryz.func163 (congrArg some (by kernel_rfl)),
  f266 := Eq.trans Tryz.func179 (congrArg some (by kernel_rfl)),
  f267 := Eq.trans Tryz.func167 (congrArg some (by kernel_rfl)),
  f268 := Eq.trans Tryz.func108 (congrArg some (by kernel_rfl)),
  f314 := Eq.trans Tryz.func180 (congrArg some (by kernel_rfl)),
  t0 := Tryz.underlying0,
  a0 := Tryz.isAgg0,
  z0 := Tryz.sizeOf0,
  v0 := Tryz.zeroValue0,
  t3 := Tryz.underlying3,
  a3 := Tryz.isAgg3,
  z3 := Tryz.sizeOf3,
  v3 := Tryz.zeroValue3,
  t4 := Tryz.underlying4,
  a4 := Tryz.isAgg4,
  z4 := Tryz.sizeOf4,
  v4 := Tryz.zeroValue4,
  t5 := Tryz.underlying5,
  a5 := Tryz.isAgg5,
  z5 := Tryz.sizeOf5,
  v5 := Tryz.zeroValue5,
  t9 := Tryz.underlying9,
  a9 := Tryz.isAgg9,
  z9 := Tryz.sizeOf9,
  v9 := Tryz.zeroValue9,
  t21 := Tryz.underlying21,
  a21 := Tryz.isAgg21,
  z21 := Tryz.sizeOf21,
  v21 := Tryz.zeroValue21,
  t31 := Tryz.underlying81,
  a31 := Tryz.isAgg81,
  z31 := Tryz.sizeOf81,
  v31 := Tryz.zeroValue81,
  t46 := Tryz.underlying224,
  a46 := Tryz.isAgg224,
  z46 := Tryz.sizeOf224,
  v46 := Tryz.zeroValue224,
  t51 := Tryz.underlying213,
  a51 := Tryz.isAgg213,
  z51 := Tryz.sizeOf213,
  v51 := Tryz.zeroValue213,
  t105 := Tryz.underlying207,
  a105 := Tryz.isAgg207,
  z105 := Tryz.sizeOf207,
  v105 := Tryz.zeroValue207,
  t119 := Tryz.underlying171,
  a119 := Tryz.isAgg171,
  z119 := Tryz.sizeOf171,
  t138 := Tryz.underlying248,
  a138 := Tryz.isAgg248,
  z138 := Tryz.sizeOf248,
  v138 := Tryz.zeroValue248,
  t139 := Tryz.underlying249,
  a139 := Tryz.isAgg249,
  z139 := Tryz.sizeOf249,
  v139 := Tryz.zeroValue249,
  t146 := Tryz.underlying250,
  a146 := Tryz.isAgg250,
  z146 := Tryz.sizeOf250,
  v146 := Tryz.zeroValue250,
  g1 := by kernel_rfl,
  g3 := by kernel_rfl,
  g4 := by kernel_rfl }
abbrev zq3r := Qbr
def zq3s (c : zq3r) : Spec := Qgb 9 c
def zq3t : zq3r := fun x y k => Qev x y k
theorem zq3u : SpecOk Tryz.prog 63 (zq3s zq3t) :=
 Qhy zq3q rfl rfl (by kernel_rfl) (of_decide_eq_true (by kernel_rfl)) (fun w0 h0 => Go.Proofs.cell_of_shapedOpen_int (P := Tryz.prog) (g := 2) (t := 3) (zero := #[.int .i64 0]) h0 (of_decide_eq_true (by kernel_rfl)) (by kernel_rfl) rfl (by kernel_rfl) (by kernel_rfl) Tryz.underlying3) ⟨_, Tryz.func63, by kernel_rfl, by kernel_rfl⟩
noncomputable def zq3v : En := .of zq3u
noncomputable def zq3w : En := .inl mixed (X := ⟨look tab, gam ([] : List En), false, false, false, false, q68y, none, 0, []⟩) (rs := [.tmp 2]) Qa ([] : List En) rfl 4 Tryz.func66 (by kernel_rfl)
abbrev zq3x := {β : Type} → Int → (Bool → Option β) → Option β
def zq3y : zq3x := fun c k =>
 cond (decide ((97 : Int) ≤ c))
 (let t := (decide (c ≤ (122 : Int)));
 k t)
 (k false)
def zq3z : zq3x := hid zq3y
noncomputable def zq40 : En := ⟨79, .spec (sg [v40y] [] [v20y] [] zq3z), pf [] [] [.tmp 2] Tryz.func79 (by kernel_rfl) fun _ _ => by kernel_rfl⟩
abbrev zq41 := {β : Type} → Int → (Bool → Option β) → Option β
def zq42 : zq41 := fun c k =>
 cond (decide ((48 : Int) ≤ c))
 (let t := (decide (c ≤ (57 : Int)));
 k t)
 (k false)
def zq43 : zq41 := hid zq42
noncomputable def zq44 : En := ⟨80, .spec (sg [v40y] [] [v20y] [] zq43), pf [] [] [.tmp 2] Tryz.func80 (by kernel_rfl) fun _ _ => by kernel_rfl⟩
abbrev zq45 := {β : Type} → Int → Int → Int → (Bool → Option β) → Option β
def zq46 : zq45 := fun n lo hi k =>
 cond (decide (lo ≤ n))
 (k (decide (n ≤ hi)))
 (k false)
def zq47 : zq45 := hid zq46
noncomputable def zq48 : En := ⟨81, .spec (sg [v18y, v18y, v18y] [] [v20y] [] zq47), pf [] [] [.tmp 6] Tryz.func81 (by kernel_rfl) fun _ _ => by kernel_rfl⟩
abbrev zq49 := {β : Type} → Int → zqg → (Bool → zqg → Option β) → Option β
def zq4a : zq49 := fun m t1 k =>
 zq2z m (List.length t1.2.1 : Int) (fun rindex =>
 k (!rindex) t1)
def zq4b : zq49 := hid zq4a
noncomputable def zq4c : En := ⟨84, .spec (sg [v18y, v24y] [b22y] [v20y] [b22y] zq4b), pf [zq30] [] [.tmp 3] Tryz.func84 (by kernel_rfl) fun _ _ => by kernel_rfl⟩
def zq4d : Shelf.Ren :=
   {
   f := fun x =>
    match x with
    | 145 => 86
    | 220 => 111
    | 219 => 145
    | 217 => 164
    | 225 => 165
    | 224 => 166
    | 267 => 167
    | 266 => 179
    | 314 => 180
    | n => n,
   t := fun x =>
    match x with
    | 9 => 9
    | 4 => 4
    | 59 => 150
    | 3 => 3
    | 5 => 5
    | 46 => 224
    | 146 => 250
    | 51 => 213
    | n => n,
   g := fun x =>
    match x with
    | 1 => 2
    | n => n }
theorem zq4e : Go.Proofs.Lays.n145 Tryz.prog zq4d :=
 {
  mixed := by kernel_rfl,
  f145 := Eq.trans Tryz.func86 (congrArg some (by kernel_rfl)),
  f217 := Eq.trans Tryz.func164 (congrArg some (by kernel_rfl)),
  f219 := Eq.trans Tryz.func145 (congrArg some (by kernel_rfl)),
  f220 := Eq.trans Tryz.func111 (congrArg some (by kernel_rfl)),
  f224 := Eq.trans Tryz.func166 (congrArg some (by kernel_rfl)),
  f225 := Eq.trans Tryz.func165 (congrArg some (by kernel_rfl)),
  f266 := Eq.trans Tryz.func179 (congrArg some (by kernel_rfl)),
  f267 := Eq.trans Tryz.func167 (congrArg some (by kernel_rfl)),
  f314 := Eq.trans Tryz.func180 (congrArg some (by kernel_rfl)),
  t3 := Tryz.underlying3,
  a3 := Tryz.isAgg3,
  z3 := Tryz.sizeOf3,
  v3 := Tryz.zeroValue3,
  t4 := Tryz.underlying4,
  a4 := Tryz.isAgg4,
  z4 := Tryz.sizeOf4,
  v4 := Tryz.zeroValue4,
  t5 := Tryz.underlying5,
  a5 := Tryz.isAgg5,
  z5 := Tryz.sizeOf5,
  v5 := Tryz.zeroValue5,
  t9 := Tryz.underlying9,
  a9 := Tryz.isAgg9,
  z9 := Tryz.sizeOf9,
  v9 := Tryz.zeroValue9,
  t46 := Tryz.underlying224,
  a46 := Tryz.isAgg224,
  z46 := Tryz.sizeOf224,
  v46 := Tryz.zeroValue224,
  t51 := Tryz.underlying213,
  a51 := Tryz.isAgg213,
  z51 := Tryz.sizeOf213,
  v51 := Tryz.zeroValue213,
  t59 := Tryz.underlying150,
  a59 := Tryz.isAgg150,
  z59 := Tryz.sizeOf150,
  v59 := Tryz.zeroValue150,
  t146 := Tryz.underlying250,
  a146 := Tryz.isAgg250,
  z146 := Tryz.sizeOf250,
  v146 := Tryz.zeroValue250,
  g1 := by kernel_rfl }
abbrev zq4f := cutT
def zq4g (c : zq4f) : Spec := cutS c
def zq4h : zq4f := fun x y k => cutF x y k
theorem zq4i : SpecOk Tryz.prog 86 (zq4g zq4h) :=
 Qjo zq4e rfl (of_decide_eq_true (by kernel_rfl)) (fun w0 h0 => Go.Proofs.cell_of_shapedOpen_int (P := Tryz.prog) (g := 2) (t := 3) (zero := #[.int .i64 0]) h0 (of_decide_eq_true (by kernel_rfl)) (by kernel_rfl) rfl (by kernel_rfl) (by kernel_rfl) Tryz.underlying3) ⟨_, Tryz.func86, by kernel_rfl, by kernel_rfl⟩
noncomputable def zq4j : En := .of zq4i
def zq4k : Shelf.Ren :=
   {
   f := fun x =>
    match x with
    | 157 => 87
    | 229 => 112
    | 199 => 113
    | 261 => 146
    | 311 => 168
    | 312 => 169
    | n => n,
   t := fun x =>
    match x with
    | 9 => 9
    | 31 => 81
    | 3 => 3
    | 5 => 5
    | 4 => 4
    | 119 => 171
    | 0 => 0
    | 40 => 173
    | 152 => 210
    | 21 => 21
    | 154 => 212
    | 51 => 213
    | 141 => 215
    | 196 => 228
    | 193 => 225
    | 198 => 231
    | 49 => 229
    | 194 => 226
    | 201 => 234
    | 226 => 252
    | 46 => 224
    | 227 => 253
    | n => n,
   g := fun x =>
    match x with
    | 0 => 0
    | 6 => 1
    | n => n }
theorem zq4l : Go.Proofs.Lays.n157 Tryz.prog zq4k :=
 {
  mixed := by kernel_rfl,
  f157 := Eq.trans Tryz.func87 (congrArg some (by kernel_rfl)),
  f199 := Eq.trans Tryz.func113 (congrArg some (by kernel_rfl)),
  f229 := Eq.trans Tryz.func112 (congrArg some (by kernel_rfl)),
  f261 := Eq.trans Tryz.func146 (congrArg some (by kernel_rfl)),
  f311 := Eq.trans Tryz.func168 (congrArg some (by kernel_rfl)),
  f312 := Eq.trans Tryz.func169 (congrArg some (by kernel_rfl)),
  t0 := Tryz.underlying0,
  a0 := Tryz.isAgg0,
  z0 := Tryz.sizeOf0,
  v0 := Tryz.zeroValue0,
  t3 := Tryz.underlying3,
  a3 := Tryz.isAgg3,
  z3 := Tryz.sizeOf3,
  v3 := Tryz.zeroValue3,
  t4 := Tryz.underlying4,
  a4 := Tryz.isAgg4,
  z4 := Tryz.sizeOf4,
  v4 := Tryz.zeroValue4,
  t5 := Tryz.underlying5,
  a5 := Tryz.isAgg5,
  z5 := Tryz.sizeOf5,
  v5 := Tryz.zeroValue5,
  t9 := Tryz.underlying9,
  a9 := Tryz.isAgg9,
  z9 := Tryz.sizeOf9,
  v9 := Tryz.zeroValue9,
  t21 := Tryz.underlying21,
  a21 := Tryz.isAgg21,
  z21 := Tryz.sizeOf21,
  v21 := Tryz.zeroValue21,
  t31 := Tryz.underlying81,
  a31 := Tryz.isAgg81,
  z31 := Tryz.sizeOf81,
  v31 := Tryz.zeroValue81,
  t40 := Tryz.underlying173,
  a40 := Tryz.isAgg173,
  z40 := Tryz.sizeOf173,
  v40 := Tryz.zeroValue173,
  t46 := Tryz.underlying224,
  a46 := Tryz.isAgg224,
  z46 := Tryz.sizeOf224,
  v46 := Tryz.zeroValue224,
  t49 := Tryz.underlying229,
  a49 := Tryz.isAgg229,
  z49 := Tryz.sizeOf229,
  v49 := Tryz.zeroValue229,
  t51 := Tryz.underlying213,
  a51 := Tryz.isAgg213,
  z51 := Tryz.sizeOf213,
  v51 := Tryz.zeroValue213,
  t119 := Tryz.underlying171,
  a119 := Tryz.isAgg171,
  z119 := Tryz.sizeOf171,
  t141 := Tryz.underlying215,
  a141 := Tryz.isAgg215,
  z141 := Tryz.sizeOf215,
  v141 := Tryz.zeroValue215,
  t152 := Tryz.underlying210,
  a152 := Tryz.isAgg210,
  z152 := Tryz.sizeOf210,
  v152 := Tryz.zeroValue210,
  t154 := Tryz.underlying212,
  a154 := Tryz.isAgg212,
  z154 := Tryz.sizeOf212,
  v154 := Tryz.zeroValue212,
  t193 := Tryz.underlying225,
  a193 := Tryz.isAgg225,
  z193 := Tryz.sizeOf225,
  v193 := Tryz.zeroValue225,
  t194 := Tryz.underlying226,
  a194 := Tryz.isAgg226,
  z194 := Tryz.sizeOf226,
  v194 := Tryz.zeroValue226,
  t196 := Tryz.underlying228,
  a196 := Tryz.isAgg228,
  z196 := Tryz.sizeOf228,
  v196 := Tryz.zeroValue228,
  t198 := Tryz.underlying231,
  a198 := Tryz.isAgg231,
  z198 := Tryz.sizeOf231,
  v198 := Tryz.zeroValue231,
  t201 := Tryz.underlying234,
  a201 := Tryz.isAgg234,
  z201 := Tryz.sizeOf234,
  v201 := Tryz.zeroValue234,
  t226 := Tryz.underlying252,
  a226 := Tryz.isAgg252,
  z226 := Tryz.sizeOf252,
  v226 := Tryz.zeroValue252,
  t227 := Tryz.underlying253,
  a227 := Tryz.isAgg253,
  z227 := Tryz.sizeOf253,
  v227 := Tryz.zeroValue253,
  g0 := by kernel_rfl,
  g6 := by kernel_rfl }
abbrev zq4m := Qcj
def zq4n (c : zq4m) : Spec := Qew 9 c
def zq4o : zq4m := fun x k => Qck x k
theorem zq4p : SpecOk Tryz.prog 87 (zq4n zq4o) :=
 Qhz zq4l rfl rfl (by kernel_rfl) (by kernel_rfl) (by kernel_rfl) (by kernel_rfl) ⟨_, Tryz.func87, by kernel_rfl, by kernel_rfl⟩
noncomputable def zq4q : En := .of zq4p
abbrev zq4r := {β : Type} → t7y → t4y → t3y → t2y → t1y → (Int → t4y → t3y → t2y → t1y → Option β) → Option β
def zq4s : zq4r := fun l b1_ b2_ b3_ b4_ k =>
 cond (decide (0 ≤ (1 : Int)) && decide ((1 : Int) < (List.length l : Int)))
 (let e := List.getD l (Int.toNat (1 : Int)) ((0 : Int), (([] : List UInt8), (0 : Int)));
 cond (decide (0 ≤ (2 : Int)) && decide ((2 : Int) < (List.length l : Int)))
 (let e2 := List.getD l (Int.toNat (2 : Int)) ((0 : Int), (([] : List UInt8), (0 : Int)));
 let l2 := ([(e.2.1, (e2.2.2, ([] : List zq8)))] : List zqa);
 cond (true && decide ((List.length b1_ + List.length l2) * 48 ≤ Q4))
 (let l3 := (b1_ ++ l2);
 k (0 : Int) l3 b2_ b3_ b4_)
 none)
 none)
 none
def zq4t : zq4r := hid zq4s
theorem zq4u : SpecOkB Tryz.prog 91 (sg [v24y, v23y] l51y [v18y] l51y zq4t) := Q1o mixed (X := ⟨look tab, gam ([] : List En), false, false, false, false, q68y, none, 0, []⟩) Qa [] rfl [] [.tmp 4] Tryz.func91 (by kernel_rfl) fun _ _ => by kernel_rfl
noncomputable def zq4v : En := .hand zq4u rfl (by kernel_rfl)
abbrev zq4w := {β : Type} → t7y → t4y → t3y → t2y → t1y → (Int → t4y → t3y → t2y → t1y → Option β) → Option β
def zq4x : zq4w := fun l b1_ b2_ b3_ b4_ k =>
 cond (decide (0 ≤ (1 : Int)) && decide ((1 : Int) < (List.length l : Int)))
 (let e := List.getD l (Int.toNat (1 : Int)) ((0 : Int), (([] : List UInt8), (0 : Int)));
 let l2 := ([(e.2.1, (([] : List zq2), ([] : List t0y)))] : List zq4);
 cond (true && decide ((List.length b4_ + List.length l2) * 64 ≤ Q4))
 (let l3 := (b4_ ++ l2);
 k (0 : Int) b1_ b2_ b3_ l3)
 none)
 none
def zq4y : zq4w := hid zq4x
theorem zq4z : SpecOkB Tryz.prog 97 (sg [v24y, v23y] l51y [v18y] l51y zq4y) := Q1o mixed (X := ⟨look tab, gam ([] : List En), false, false, false, false, q68y, none, 0, []⟩) Qa [] rfl [] [.tmp 4] Tryz.func97 (by kernel_rfl) fun _ _ => by kernel_rfl
noncomputable def zq50 : En := .hand zq4z rfl (by kernel_rfl)
abbrev zq51 := {β : Type} → Int → Int → Int → (Bool → Option β) → Option β
def zq52 : zq51 := fun n lo hi k =>
 cond (decide (lo ≤ n))
 (k (decide (n ≤ hi)))
 (k false)
def Q2v : zq51 := hid zq52
noncomputable def zq53 : En := ⟨104, .spec (sg [v18y, v18y, v18y] [] [v20y] [] Q2v), pf [] [] [.tmp 6] Tryz.func104 (by kernel_rfl) fun _ _ => by kernel_rfl⟩
abbrev zq54 := {β : Type} → zqc → t5y → (Bool → t5y → Option β) → Option β
def zq55 : zq54 := fun f t1 k =>
 k (decide (f.1 = t1)) t1
def zq56 : zq54 := hid zq55
noncomputable def zq57 : En := ⟨116, .spec (sg [(true, [.data zqd]), v24y] [b26y] [v20y] [b26y] zq56), pf [] [] [.tmp 3] Tryz.func116 (by kernel_rfl) fun _ _ => by kernel_rfl⟩
abbrev zq58 := {β : Type} → zq6 → t5y → (Bool → Option β) → Option β
def zq59 : zq58 := fun t s k =>
 cond (decide (t.1 = (0 : Int)))
 (k (decide (t.2.1 = s)))
 (k false)
def zq5a : zq58 := hid zq59
noncomputable def zq5b : En := ⟨117, .spec (sg [(true, [.data zq7]), v25y] [] [v20y] [] zq5a), pf [] [] [.tmp 4] Tryz.func117 (by kernel_rfl) fun _ _ => by kernel_rfl⟩
noncomputable def zq5c : En := .inl mixed (X := ⟨look tab, gam ([] : List En), false, false, false, false, q68y, none, 0, []⟩) (rs := [.tmp 2]) Qa ([] : List En) rfl 4 Tryz.func121 (by kernel_rfl)
noncomputable def zq5d : En := .inl mixed (X := ⟨look tab, gam ([] : List En), false, false, false, false, q68y, none, 0, []⟩) (rs := [.tmp 2]) Qa ([] : List En) rfl 4 Tryz.func122 (by kernel_rfl)
abbrev zq5e := {β : Type} → zqa → (t5y → Option β) → Option β
def zq5f : zq5e := fun z k =>
 k z.1
def zq5g : zq5e := hid zq5f
noncomputable def zq5h : En := ⟨155, .spec (sg [v42y] [] [v25y] [] zq5g), Q61 mixed (X := ⟨look tab, gam ([] : List En), false, false, false, false, q68y, none, 0, []⟩) Qa [] rfl [] [.tmp 2] Tryz.func155 (by kernel_rfl) fun _ _ => by kernel_rfl⟩
noncomputable def zq5i : En := .inl mixed (X := ⟨look tab, gam [zq5h], false, false, false, false, [], none, 0, []⟩) (rs := [.tmp 4]) Qa [zq5h] rfl 4 Tryz.func174 (by kernel_rfl)
abbrev zq5j := {β : Type} → t4y → t5y → (Int → t5y → Option β) → Option β
noncomputable def zq5k : List En := [zq5i]
abbrev zq5l (β : Type) := Int → t5y → Option β
abbrev zq5m (β : Type) := t5y → Option β
abbrev zq5n (β : Type) := t4y → Int → Int → t5y → Option β
noncomputable def zq5o : Pc := ⟨19, 2, Q8 26 (Q3 Tryz.f173), ⟨2, [0, 1, 7, 8], [v46y, (false, [.fn 174 [0, 1]]), v18y, v18y], l62y⟩, [(.ret, ⟨2, [4], [v18y], l62y⟩), (.exit 0, ⟨2, [], [], l62y⟩)]⟩
def zq5p {β : Type} (rec : zq5n β) (k1 : zq5l β) (k2 : zq5m β) : zq5n β := fun s t7 t8 b1_ =>
 cond (decide (t8 < t7))
 (cond (decide (0 ≤ t8) && decide (t8 < (List.length s : Int)))
 (let e := List.getD s (Int.toNat t8) (([] : List UInt8), ((0 : Int), ([] : List zq8)));
 zq5g e (fun rzone1 =>
 cond (decide (rzone1 = b1_))
 (k1 t8 b1_)
 (rec s t7 (IntKind.i64.wrap (t8 + (1 : Int))) b1_)))
 none)
 (k2 b1_)
def zq5q (m : Nat) {β : Type} (k1 : zq5l β) (k2 : zq5m β) : zq5n β := lp4 (fun r => zq5p r k1 k2) none m
theorem zq5r {β : Type} (i : Nat) (k1 k2) : zq5q (β := β) (i + 1) k1 k2 = zq5p (zq5q i k1 k2) k1 k2 := rfl
def zq5s {β : Type} := hid (zq5q (β := β) fuel)
noncomputable def zq5t : Pb := ⟨26, zq5o, fun _ => zq5s, pl (p := zq5o) zq5k [] (g := fun i _ => zq5q i) (by kernel_rfl) rfl (by kernel_rfl) (fun _ _ => rfl) fun _ _ _ _ => by kernel_rfl⟩
def zq5u : zq5j := fun s b1_ k =>
 zq5s (fun t4 b1_2 =>
 k t4 b1_2) (fun b1_2 =>
 k (-1 : Int) b1_2) s (List.length s : Int) (0 : Int) b1_
def zq5v : zq5j := hid zq5u
noncomputable def zq5w : En := ⟨173, .spec (sg [v46y, (false, [.fn 174 [0, 1]])] l62y [v18y] l62y zq5v), pf zq5k [zq5t] [.tmp 4] Tryz.func173 (by kernel_rfl) fun _ _ => by kernel_rfl⟩
noncomputable def zq5x : En := .inl mixed (X := ⟨look tab, gam [zq5w], false, false, false, false, [], none, 0, []⟩) (rs := [.tmp 6, .tmp 7]) Qa [zq5w] rfl 4 Tryz.func154 (by kernel_rfl)
noncomputable def zq5y : En := .inl mixed (X := ⟨look tab, gam [zq5x], false, false, false, false, q68y, none, 0, []⟩) (rs := [.tmp 4, .tmp 5]) Qa [zq5x] rfl 4 Tryz.func123 (by kernel_rfl)
abbrev zq5z := {β : Type} → Bool → (Int → Option β) → Option β
def zq60 : zq5z := fun ok k =>
 cond (!ok)
 (k (3 : Int))
 (k (0 : Int))
def zq61 : zq5z := hid zq60
noncomputable def zq62 : En := ⟨124, .spec (sg [v20y] [] [v18y] [] zq61), pf [] [] [.tmp 2] Tryz.func124 (by kernel_rfl) fun _ _ => by kernel_rfl⟩
noncomputable def zq63 : En := .inl mixed (X := ⟨look tab, gam ([] : List En), false, false, false, false, q68y, none, 0, []⟩) (rs := [.tmp 2]) Qa ([] : List En) rfl 4 Tryz.func126 (by kernel_rfl)
noncomputable def zq64 : En := .inl mixed (X := ⟨look tab, gam ([] : List En), false, false, false, false, q68y, none, 0, []⟩) (rs := [.tmp 2]) Qa ([] : List En) rfl 4 Tryz.func127 (by kernel_rfl)
noncomputable def zq65 : En := .inl mixed (X := ⟨look tab, gam ([] : List En), false, false, false, false, q68y, none, 0, []⟩) (rs := [.tmp 2]) Qa ([] : List En) rfl 4 Tryz.func128 (by kernel_rfl)
noncomputable def zq66 : En := .inl mixed (X := ⟨look tab, gam ([] : List En), false, false, false, false, q68y, none, 0, []⟩) (rs := [.tmp 2]) Qa ([] : List En) rfl 4 Tryz.func129 (by kernel_rfl)
abbrev zq67 := {β : Type} → (List t5y) → t5y → (Int → Option β) → Option β
abbrev zq68 (β : Type) := Int → Option β
abbrev zq69 (β : Type) := Unit → Option β
abbrev zq6a (β : Type) := (List t5y) → t5y → Int → Int → Option β
noncomputable def zq6b : Pc := ⟨19, 0, Q8 26 (Q3 Tryz.f130), ⟨0, [0, 1, 7, 8], [(false, [.data (.slice .str)]), v25y, v18y, v18y], []⟩, [(.ret, ⟨0, [4], [v18y], []⟩), (.exit 0, ⟨0, [], [], []⟩)]⟩
def zq6c {β : Type} (rec : zq6a β) (k1 : zq68 β) (k2 : zq69 β) : zq6a β := fun s v t7 t8 =>
 cond (decide (t8 < t7))
 (cond (decide (0 ≤ t8) && decide (t8 < (List.length s : Int)))
 (let e := List.getD s (Int.toNat t8) ([] : List UInt8);
 cond (decide (v = e))
 (k1 t8)
 (rec s v t7 (IntKind.i64.wrap (t8 + (1 : Int)))))
 none)
 (k2 ())
def zq6d (m : Nat) {β : Type} (k1 : zq68 β) (k2 : zq69 β) : zq6a β := lp4 (fun r => zq6c r k1 k2) none m
theorem zq6e {β : Type} (i : Nat) (k1 k2) : zq6d (β := β) (i + 1) k1 k2 = zq6c (zq6d i k1 k2) k1 k2 := rfl
def zq6f {β : Type} := hid (zq6d (β := β) fuel)
noncomputable def zq6g : Pb := ⟨26, zq6b, fun _ => zq6f, pl (p := zq6b) [] [] (g := fun i _ => zq6d i) (by kernel_rfl) rfl (by kernel_rfl) (fun _ _ => rfl) fun _ _ _ _ => by kernel_rfl⟩
def zq6h : zq67 := fun s v k =>
 zq6f (fun t4 =>
 k t4) (fun _ =>
 k (-1 : Int)) s v (List.length s : Int) (0 : Int)
def zq6i : zq67 := hid zq6h
noncomputable def zq6j : En := ⟨130, .spec (sg [(false, [.data (.slice .str)]), v25y] [] [v18y] [] zq6i), pf [] [zq6g] [.tmp 4] Tryz.func130 (by kernel_rfl) fun _ _ => by kernel_rfl⟩
noncomputable def zq6k : En := .inl mixed (X := ⟨look tab, gam ([] : List En), false, false, false, false, q68y, none, 0, []⟩) (rs := [.tmp 2]) Qa ([] : List En) rfl 4 Tryz.func131 (by kernel_rfl)
noncomputable def zq6l : En := .inl mixed (X := ⟨look tab, gam ([] : List En), false, false, false, false, q68y, none, 0, []⟩) (rs := [.tmp 2]) Qa ([] : List En) rfl 4 Tryz.func132 (by kernel_rfl)
noncomputable def zq6m : En := .inl mixed (X := ⟨look tab, gam ([] : List En), false, false, false, false, q68y, none, 0, []⟩) (rs := [.tmp 2]) Qa ([] : List En) rfl 4 Tryz.func156 (by kernel_rfl)
noncomputable def zq6n : En := .inl mixed (X := ⟨look tab, gam [zq6m, zq6k], false, false, false, false, q68y, none, 0, []⟩) (rs := [.tmp 2]) Qa [zq6m, zq6k] rfl 4 Tryz.func133 (by kernel_rfl)
noncomputable def zq6o : En := .inl mixed (X := ⟨look tab, gam ([] : List En), false, false, false, false, q68y, none, 0, []⟩) (rs := [.tmp 2]) Qa ([] : List En) rfl 4 Tryz.func134 (by kernel_rfl)
abbrev zq6p := {β : Type} → zq0 → (t5y → Option β) → Option β
def zq6q : zq6p := fun c k =>
 k c.1
def zq6r : zq6p := hid zq6q
noncomputable def zq6s : En := ⟨158, .spec (sg [v50y] [] [v25y] [] zq6r), Q61 mixed (X := ⟨look tab, gam ([] : List En), false, false, false, false, q68y, none, 0, []⟩) Qa [] rfl [] [.tmp 2] Tryz.func158 (by kernel_rfl) fun _ _ => by kernel_rfl⟩
noncomputable def zq6t : En := .inl mixed (X := ⟨look tab, gam [zq6s], false, false, false, false, [], none, 0, []⟩) (rs := [.tmp 4]) Qa [zq6s] rfl 4 Tryz.func176 (by kernel_rfl)
abbrev zq6u := {β : Type} → t2y → t5y → (Int → t5y → Option β) → Option β
noncomputable def zq6v : List En := [zq6t]
abbrev zq6w (β : Type) := Int → t5y → Option β
abbrev zq6x (β : Type) := t5y → Option β
abbrev zq6y (β : Type) := t2y → Int → Int → t5y → Option β
noncomputable def zq6z : Pc := ⟨19, 2, Q8 26 (Q3 Tryz.f175), ⟨2, [0, 1, 7, 8], [v44y, (false, [.fn 176 [0, 1]]), v18y, v18y], l61y⟩, [(.ret, ⟨2, [4], [v18y], l61y⟩), (.exit 0, ⟨2, [], [], l61y⟩)]⟩
def zq70 {β : Type} (rec : zq6y β) (k1 : zq6w β) (k2 : zq6x β) : zq6y β := fun s t7 t8 b1_ =>
 cond (decide (t8 < t7))
 (cond (decide (0 ≤ t8) && decide (t8 < (List.length s : Int)))
 (let e := List.getD s (Int.toNat t8) (([] : List UInt8), ((0 : Int), ([] : List Int)));
 zq6r e (fun rcalendar1 =>
 let t := (decide (rcalendar1 = b1_));
 cond t
 (k1 t8 b1_)
 (rec s t7 (IntKind.i64.wrap (t8 + (1 : Int))) b1_)))
 none)
 (k2 b1_)
def zq71 (m : Nat) {β : Type} (k1 : zq6w β) (k2 : zq6x β) : zq6y β := lp4 (fun r => zq70 r k1 k2) none m
theorem zq72 {β : Type} (i : Nat) (k1 k2) : zq71 (β := β) (i + 1) k1 k2 = zq70 (zq71 i k1 k2) k1 k2 := rfl
def zq73 {β : Type} := hid (zq71 (β := β) fuel)
noncomputable def zq74 : Pb := ⟨26, zq6z, fun _ => zq73, pl (p := zq6z) zq6v [] (g := fun i _ => zq71 i) (by kernel_rfl) rfl (by kernel_rfl) (fun _ _ => rfl) fun _ _ _ _ => by kernel_rfl⟩
def zq75 : zq6u := fun s b1_ k =>
 zq73 (fun t4 b1_2 =>
 k t4 b1_2) (fun b1_2 =>
 k (-1 : Int) b1_2) s (List.length s : Int) (0 : Int) b1_
def zq76 : zq6u := hid zq75
noncomputable def zq77 : En := ⟨175, .spec (sg [v44y, (false, [.fn 176 [0, 1]])] l61y [v18y] l61y zq76), pf zq6v [zq74] [.tmp 4] Tryz.func175 (by kernel_rfl) fun _ _ => by kernel_rfl⟩
noncomputable def zq78 : En := .inl mixed (X := ⟨look tab, gam [zq77], false, false, false, false, [], none, 0, []⟩) (rs := [.tmp 6, .tmp 7]) Qa [zq77] rfl 4 Tryz.func157 (by kernel_rfl)
noncomputable def zq79 : En := .inl mixed (X := ⟨look tab, gam [zq78], false, false, false, false, q68y, none, 0, []⟩) (rs := [.tmp 4, .tmp 5]) Qa [zq78] rfl 4 Tryz.func135 (by kernel_rfl)
abbrev zq7a := {β : Type} → zq8 → (Int → Option β) → Option β
def zq7b : zq7a := fun r_ k =>
 Q2v r_.1 (1970 : Int) (2240 : Int) (fun rin =>
 cond (!rin)
 (k (1 : Int))
 (Q2v r_.2.1 r_.1 (2240 : Int) (fun rin2 =>
 cond (!rin2)
 (k (1 : Int))
 (Q2v r_.2.2.1 (1 : Int) (12 : Int) (fun rin3 =>
 cond (!rin3)
 (k (1 : Int))
 (Q2v r_.2.2.2.1 (1 : Int) (5 : Int) (fun rin4 =>
 cond (!rin4)
 (k (1 : Int))
 (Q2v r_.2.2.2.2.1 (0 : Int) (6 : Int) (fun rin5 =>
 cond (!rin5)
 (k (1 : Int))
 (Q2v r_.2.2.2.2.2.1 (0 : Int) (86399 : Int) (fun rin6 =>
 cond (!rin6)
 (k (1 : Int))
 (Q2v r_.2.2.2.2.2.2 (-64800 : Int) (64800 : Int) (fun rin7 =>
 cond (!rin7)
 (k (1 : Int))
 (k (0 : Int)))))))))))))))
def zq7c : zq7a := hid zq7b
noncomputable def zq7d : En := ⟨136, .spec (sg [(true, [.data zq9])] [] [v18y] [] zq7c), pf [zq53] [] [.tmp 2] Tryz.func136 (by kernel_rfl) fun _ _ => by kernel_rfl⟩
abbrev zq7e := {β : Type} → Int → Int → (Int → Option β) → Option β
def zq7f : zq7e := fun a b k =>
 cond (!decide (b = 0))
 (let q := (IntKind.i64.wrap (Int.tdiv a b));
 cond (!decide (b = 0))
 (cond (decide ((Int.tmod a b) < (0 : Int)))
 (let q2 := (IntKind.i64.wrap (q - (1 : Int)));
 k q2)
 (k q))
 none)
 none
def zq7g : zq7e := hid zq7f
noncomputable def zq7h : En := ⟨140, .spec (sg [v18y, v18y] [] [v18y] [] zq7g), pf [] [] [.tmp 4] Tryz.func140 (by kernel_rfl) fun _ _ => by kernel_rfl⟩
abbrev zq7i := {β : Type} → Int → (Bool → Option β) → Option β
def zq7j : zq7i := fun year k =>
 cond (decide ((Int.tmod year (4 : Int)) = (0 : Int)))
 (cond (!decide ((Int.tmod year (100 : Int)) = (0 : Int)))
 (k true)
 (let t := (decide ((Int.tmod year (400 : Int)) = (0 : Int)));
 k t))
 (k false)
def zq7k : zq7i := hid zq7j
noncomputable def zq7l : En := ⟨141, .spec (sg [v18y] [] [v20y] [] zq7k), pf [] [] [.tmp 2] Tryz.func141 (by kernel_rfl) fun _ _ => by kernel_rfl⟩
def zq7m : Shelf.Ren :=
   {
   f := fun x =>
    match x with
    | 144 => 148
    | 143 => 110
    | 219 => 145
    | 217 => 164
    | 225 => 165
    | 224 => 166
    | 267 => 167
    | 266 => 179
    | 314 => 180
    | n => n,
   t := fun x =>
    match x with
    | 9 => 9
    | 4 => 4
    | 3 => 3
    | 5 => 5
    | 46 => 224
    | 146 => 250
    | 51 => 213
    | n => n,
   g := fun x =>
    match x with
    | 1 => 2
    | n => n }
theorem zq7n : Go.Proofs.Lays.n144 Tryz.prog zq7m :=
 {
  mixed := by kernel_rfl,
  f143 := Eq.trans Tryz.func110 (congrArg some (by kernel_rfl)),
  f144 := Eq.trans Tryz.func148 (congrArg some (by kernel_rfl)),
  f217 := Eq.trans Tryz.func164 (congrArg some (by kernel_rfl)),
  f219 := Eq.trans Tryz.func145 (congrArg some (by kernel_rfl)),
  f224 := Eq.trans Tryz.func166 (congrArg some (by kernel_rfl)),
  f225 := Eq.trans Tryz.func165 (congrArg some (by kernel_rfl)),
  f266 := Eq.trans Tryz.func179 (congrArg some (by kernel_rfl)),
  f267 := Eq.trans Tryz.func167 (congrArg some (by kernel_rfl)),
  f314 := Eq.trans Tryz.func180 (congrArg some (by kernel_rfl)),
  t3 := Tryz.underlying3,
  a3 := Tryz.isAgg3,
  z3 := Tryz.sizeOf3,
  v3 := Tryz.zeroValue3,
  t4 := Tryz.underlying4,
  a4 := Tryz.isAgg4,
  z4 := Tryz.sizeOf4,
  v4 := Tryz.zeroValue4,
  t5 := Tryz.underlying5,
  a5 := Tryz.isAgg5,
  z5 := Tryz.sizeOf5,
  v5 := Tryz.zeroValue5,
  t9 := Tryz.underlying9,
  a9 := Tryz.isAgg9,
  z9 := Tryz.sizeOf9,
  v9 := Tryz.zeroValue9,
  t46 := Tryz.underlying224,
  a46 := Tryz.isAgg224,
  z46 := Tryz.sizeOf224,
  v46 := Tryz.zeroValue224,
  t51 := Tryz.underlying213,
  a51 := Tryz.isAgg213,
  z51 := Tryz.sizeOf213,
  v51 := Tryz.zeroValue213,
  t146 := Tryz.underlying250,
  a146 := Tryz.isAgg250,
  z146 := Tryz.sizeOf250,
  v146 := Tryz.zeroValue250,
  g1 := by kernel_rfl }
abbrev zq7o := Q8y
def zq7p (c : zq7o) : Spec := Qd5 c
def zq7q : zq7o := fun x y k => Q8z x y k
theorem zq7r : SpecOk Tryz.prog 148 (zq7p zq7q) :=
 Qfs zq7n rfl (of_decide_eq_true (by kernel_rfl)) (fun w0 h0 => Go.Proofs.cell_of_shapedOpen_int (P := Tryz.prog) (g := 2) (t := 3) (zero := #[.int .i64 0]) h0 (of_decide_eq_true (by kernel_rfl)) (by kernel_rfl) rfl (by kernel_rfl) (by kernel_rfl) Tryz.underlying3) ⟨_, Tryz.func148, by kernel_rfl, by kernel_rfl⟩
noncomputable def zq7s : En := .of zq7r
abbrev zq7t := {β : Type} → t5y → t5y → (Int → Bool → Option β) → Option β
def zq7u : zq7t := fun words word k =>
 zq4o words (fun lrFields =>
 zq6i lrFields word (fun rIndexstringstring =>
 let t := (IntKind.i64.wrap (rIndexstringstring + (1 : Int)));
 let t2 := (decide ((0 : Int) ≤ rIndexstringstring));
 k t t2))
def zq7v : zq7t := hid zq7u
noncomputable def zq7w : En := ⟨153, .spec (sg [v25y, v25y] [] [v18y, v20y] [] zq7v), pf [zq6j, zq4q] [] [.tmp 4, .tmp 5] Tryz.func153 (by kernel_rfl) fun _ _ => by kernel_rfl⟩
abbrev zq7x := {β : Type} → Int → (Int → Option β) → Option β
def zq7y : zq7x := fun day k =>
 let t := (Int.tmod (IntKind.i64.wrap ((Int.tmod day (7 : Int)) + (10 : Int))) (7 : Int));
 k t
def zq7z : zq7x := hid zq7y
noncomputable def zq80 : En := ⟨161, .spec (sg [v18y] [] [v18y] [] zq7z), pf [] [] [.tmp 2] Tryz.func161 (by kernel_rfl) fun _ _ => by kernel_rfl⟩
def zq81 : Shelf.Ren :=
   {
   f := fun x =>
    match x with
    | 172 => 172
    | 244 => 181
    | 245 => 182
    | 247 => 184
    | 279 => 185
    | 280 => 186
    | 281 => 187
    | 282 => 188
    | 287 => 190
    | 316 => 191
    | 171 => 193
    | 205 => 192
    | 321 => 194
    | 322 => 195
    | 243 => 196
    | 246 => 197
    | 283 => 198
    | 284 => 199
    | 285 => 200
    | 286 => 201
    | 129 => 203
    | 317 => 202
    | 318 => 204
    | 319 => 205
    | 320 => 206
    | 337 => 207
    | 338 => 208
    | n => n,
   t := fun x =>
    match x with
    | 9 => 9
    | 3 => 3
    | 75 => 238
    | 76 => 239
    | 4 => 4
    | 5 => 5
    | 167 => 255
    | 37 => 28
    | 0 => 0
    | 85 => 256
    | 2 => 2
    | 168 => 258
    | 53 => 261
    | 175 => 262
    | 46 => 224
    | 210 => 266
    | 127 => 269
    | 145 => 272
    | 143 => 270
    | 21 => 21
    | 171 => 274
    | 173 => 277
    | 212 => 280
    | 51 => 213
    | 20 => 20
    | 213 => 281
    | 232 => 284
    | 233 => 285
    | 80 => 79
    | n => n,
   g := fun x =>
    match x with
    | 15 => 5
    | 16 => 6
    | 17 => 7
    | 18 => 8
    | 19 => 9
    | n => n }
theorem zq82 : Go.Proofs.LaysC.n172 Tryz.prog zq81 :=
 {
  mixed := by kernel_rfl,
  f129 := Eq.trans Tryz.func203 (congrArg some (by kernel_rfl)),
  f171 := Eq.trans Tryz.func193 (congrArg some (by kernel_rfl)),
  f172 := Eq.trans Tryz.func172 (congrArg some (by kernel_rfl)),
  f205 := Eq.trans Tryz.func192 (congrArg some (by kernel_rfl)),
  f243 := Eq.trans Tryz.func196 (congrArg some (by kernel_rfl)),
  f244 := Eq.trans Tryz.func181 (congrArg some (by kernel_rfl)),
  f245 := Eq.trans Tryz.func182 (congrArg some (by kernel_rfl)),
  f246 := Eq.trans Tryz.func197 (congrArg some (by kernel_rfl)),
  f247 := Eq.trans Tryz.func184 (congrArg some (by kernel_rfl)),
  f279 := Eq.trans Tryz.func185 (congrArg some (by kernel_rfl)),
  f280 := Eq.trans Tryz.func186 (congrArg some (by kernel_rfl)),
  f281 := Eq.trans Tryz.func187 (congrArg some (by kernel_rfl)),
  f282 := Eq.trans Tryz.func188 (congrArg some (by kernel_rfl)),
  f283 := Eq.trans Tryz.func198 (congrArg some (by kernel_rfl)),
  f284 := Eq.trans Tryz.func199 (congrArg some (by kernel_rfl)),
  f285 := Eq.trans Tryz.func200 (congrArg some (by kernel_rfl)),
  f286 := Eq.trans Tryz.func201 (congrArg some (by kernel_rfl)),
  f287 := Eq.trans Tryz.func190 (congrArg some (by kernel_rfl)),
  f316 := Eq.trans Tryz.func191 (congrArg some (by kernel_rfl)),
  f317 := Eq.trans Tryz.func202 (congrArg some (by kernel_rfl)),
  f318 := Eq.trans Tryz.func204 (congrArg some (by kernel_rfl)),
  f319 := Eq.trans Tryz.func205 (congrArg some (by kernel_rfl)),
  f320 := Eq.trans Tryz.func206 (congrArg some (by kernel_rfl)),
  f321 := Eq.trans Tryz.func194 (congrArg some (by kernel_rfl)),
  f322 := Eq.trans Tryz.func195 (congrArg some (by kernel_rfl)),
  f337 := Eq.trans Tryz.func207 (congrArg some (by kernel_rfl)),
  f338 := Eq.trans Tryz.func208 (congrArg some (by kernel_rfl)),
  t0 := Tryz.underlying0,
  a0 := Tryz.isAgg0,
  z0 := Tryz.sizeOf0,
  v0 := Tryz.zeroValue0,
  t2 := Tryz.underlying2,
  a2 := Tryz.isAgg2,
  z2 := Tryz.sizeOf2,
  v2 := Tryz.zeroValue2,
  t3 := Tryz.underlying3,
  a3 := Tryz.isAgg3,
  z3 := Tryz.sizeOf3,
  v3 := Tryz.zeroValue3,
  t4 := Tryz.underlying4,
  a4 := Tryz.isAgg4,
  z4 := Tryz.sizeOf4,
  v4 := Tryz.zeroValue4,
  t5 := Tryz.underlying5,
  a5 := Tryz.isAgg5,
  z5 := Tryz.sizeOf5,
  v5 := Tryz.zeroValue5,
  t9 := Tryz.underlying9,
  a9 := Tryz.isAgg9,
  z9 := Tryz.sizeOf9,
  v9 := Tryz.zeroValue9,
  t20 := Tryz.underlying20,
  a20 := Tryz.isAgg20,
  z20 := Tryz.sizeOf20,
  v20 := Tryz.zeroValue20,
  t21 := Tryz.underlying21,
  a21 := Tryz.isAgg21,
  z21 := Tryz.sizeOf21,
  v21 := Tryz.zeroValue21,
  t37 := Tryz.underlying28,
  a37 := Tryz.isAgg28,
  z37 := Tryz.sizeOf28,
  v37 := Tryz.zeroValue28,
  t46 := Tryz.underlying224,
  a46 := Tryz.isAgg224,
  z46 := Tryz.sizeOf224,
  v46 := Tryz.zeroValue224,
  t51 := Tryz.underlying213,
  a51 := Tryz.isAgg213,
  z51 := Tryz.sizeOf213,
  v51 := Tryz.zeroValue213,
  t53 := Tryz.underlying261,
  a53 := Tryz.isAgg261,
  z53 := Tryz.sizeOf261,
  v53 := Tryz.zeroValue261,
  t75 := Tryz.underlying238,
  a75 := Tryz.isAgg238,
  z75 := Tryz.sizeOf238,
  v75 := Tryz.zeroValue238,
  t76 := Tryz.underlying239,
  a76 := Tryz.isAgg239,
  z76 := Tryz.sizeOf239,
  v76 := Tryz.zeroValue239,
  t85 := Tryz.underlying256,
  a85 := Tryz.isAgg256,
  z85 := Tryz.sizeOf256,
  v85 := Tryz.zeroValue256,
  t127 := Tryz.underlying269,
  a127 := Tryz.isAgg269,
  z127 := Tryz.sizeOf269,
  v127 := Tryz.zeroValue269,
  t143 := Tryz.underlying270,
  a143 := Tryz.isAgg270,
  z143 := Tryz.sizeOf270,
  v143 := Tryz.zeroValue270,
  t145 := Tryz.underlying272,
  a145 := Tryz.isAgg272,
  z145 := Tryz.sizeOf272,
  v145 := Tryz.zeroValue272,
  t167 := Tryz.underlying255,
  a167 := Tryz.isAgg255,
  z167 := Tryz.sizeOf255,
  v167 := Tryz.zeroValue255,
  t168 := Tryz.underlying258,
  a168 := Tryz.isAgg258,
  z168 := Tryz.sizeOf258,
  v168 := Tryz.zeroValue258,
  t171 := Tryz.underlying274,
  a171 := Tryz.isAgg274,
  z171 := Tryz.sizeOf274,
  v171 := Tryz.zeroValue274,
  t173 := Tryz.underlying277,
  a173 := Tryz.isAgg277,
  z173 := Tryz.sizeOf277,
  v173 := Tryz.zeroValue277,
  t175 := Tryz.underlying262,
  a175 := Tryz.isAgg262,
  z175 := Tryz.sizeOf262,
  v175 := Tryz.zeroValue262,
  t210 := Tryz.underlying266,
  a210 := Tryz.isAgg266,
  z210 := Tryz.sizeOf266,
  v210 := Tryz.zeroValue266,
  t212 := Tryz.underlying280,
  a212 := Tryz.isAgg280,
  z212 := Tryz.sizeOf280,
  v212 := Tryz.zeroValue280,
  t213 := Tryz.underlying281,
  a213 := Tryz.isAgg281,
  z213 := Tryz.sizeOf281,
  t232 := Tryz.underlying284,
  a232 := Tryz.isAgg284,
  z232 := Tryz.sizeOf284,
  v232 := Tryz.zeroValue284,
  t233 := Tryz.underlying285,
  a233 := Tryz.isAgg285,
  z233 := Tryz.sizeOf285,
  v233 := Tryz.zeroValue285,
  g15 := by kernel_rfl,
  g16 := by kernel_rfl,
  g17 := by kernel_rfl,
  g18 := by kernel_rfl,
  g19 := by kernel_rfl,
  t80 := Tryz.underlying79,
  a80 := Tryz.isAgg79,
  z80 := Tryz.sizeOf79,
  v80 := Tryz.zeroValue79,
  i0 := by kernel_rfl,
  i2 := by kernel_rfl,
  i3 := by kernel_rfl,
  i4 := by kernel_rfl,
  i5 := by kernel_rfl,
  i9 := by kernel_rfl,
  i20 := by kernel_rfl,
  i21 := by kernel_rfl,
  i37 := by kernel_rfl,
  i46 := by kernel_rfl,
  i51 := by kernel_rfl,
  i53 := by kernel_rfl,
  i75 := by kernel_rfl,
  i76 := by kernel_rfl,
  i80 := by kernel_rfl,
  i85 := by kernel_rfl,
  i127 := by kernel_rfl,
  i143 := by kernel_rfl,
  i145 := by kernel_rfl,
  i167 := by kernel_rfl,
  i168 := by kernel_rfl,
  i171 := by kernel_rfl,
  i173 := by kernel_rfl,
  i175 := by kernel_rfl,
  i210 := by kernel_rfl,
  i212 := by kernel_rfl,
  i232 := by kernel_rfl,
  i233 := by kernel_rfl,
  m15 := by kernel_rfl,
  m16 := by kernel_rfl,
  m17 := by kernel_rfl,
  m18 := by kernel_rfl,
  m19 := by kernel_rfl,
  c0 := by kernel_rfl,
  c2 := by kernel_rfl,
  c3 := by kernel_rfl,
  c4 := by kernel_rfl,
  c5 := by kernel_rfl,
  c9 := by kernel_rfl,
  c20 := by kernel_rfl,
  c21 := by kernel_rfl,
  c37 := by kernel_rfl,
  c46 := by kernel_rfl,
  c51 := by kernel_rfl,
  c53 := by kernel_rfl,
  c75 := by kernel_rfl,
  c76 := by kernel_rfl,
  c80 := by kernel_rfl,
  c85 := by kernel_rfl,
  c127 := by kernel_rfl,
  c143 := by kernel_rfl,
  c145 := by kernel_rfl,
  c167 := by kernel_rfl,
  c168 := by kernel_rfl,
  c171 := by kernel_rfl,
  c173 := by kernel_rfl,
  c175 := by kernel_rfl,
  c210 := by kernel_rfl,
  c212 := by kernel_rfl,
  c213 := by kernel_rfl,
  c232 := by kernel_rfl,
  c233 := by kernel_rfl }
abbrev zq83 := Qgz
def zq84 (c : zq83) : Spec := Qix c
def zq85 : zq83 := fun x k => Qh0 x k
theorem zq86 : SpecOk Tryz.prog 172 (zq84 zq85) :=
 Qj6 zq82 rfl (by kernel_rfl) (by kernel_rfl) ⟨_, Tryz.func172, by kernel_rfl, by kernel_rfl⟩
noncomputable def zq87 : En := .of zq86
abbrev zq88 := {β : Type} → t5y → (Bool → Option β) → Option β
noncomputable def zq89 : List En := [zq44, zq40]
abbrev zq8a (β : Type) := Bool → Option β
abbrev zq8b (β : Type) := Unit → Option β
abbrev zq8c (β : Type) := t5y → Int → Int → Option β
noncomputable def zq8d : Pc := ⟨43, 0, Q8 58 (Q3 Tryz.f51), ⟨0, [0, 19, 20], [v25y, v18y, v18y], []⟩, [(.ret, ⟨0, [2], [v20y], []⟩), (.exit 0, ⟨0, [], [], []⟩)]⟩
def zq8e {β : Type} (rec : zq8c β) (k1 : zq8a β) (k2 : zq8b β) : zq8c β := fun s t19 t20 =>
 cond (decide (t20 < t19))
 (cond (decide (0 ≤ t20) && decide (t20 < (List.length s : Int)))
 (let c := ((List.getD s (Int.toNat t20) 0).toNat : Int);
 zq3z c (fun rsmall =>
 cond (!rsmall)
 (zq43 c (fun rdigit =>
 cond (!rdigit)
 (cond (!decide (c = (95 : Int)))
 (cond (!decide (c = (45 : Int)))
 (k1 false)
 (rec s t19 (IntKind.i64.wrap (t20 + (1 : Int)))))
 (rec s t19 (IntKind.i64.wrap (t20 + (1 : Int)))))
 (rec s t19 (IntKind.i64.wrap (t20 + (1 : Int))))))
 (rec s t19 (IntKind.i64.wrap (t20 + (1 : Int))))))
 none)
 (k2 ())
def zq8f (m : Nat) {β : Type} (k1 : zq8a β) (k2 : zq8b β) : zq8c β := lp3 (fun r => zq8e r k1 k2) none m
theorem zq8g {β : Type} (i : Nat) (k1 k2) : zq8f (β := β) (i + 1) k1 k2 = zq8e (zq8f i k1 k2) k1 k2 := rfl
def zq8h {β : Type} := hid (zq8f (β := β) fuel)
noncomputable def zq8i : Pb := ⟨58, zq8d, fun _ => zq8h, pl (p := zq8d) zq89 [] (g := fun i _ => zq8f i) (by kernel_rfl) rfl (by kernel_rfl) (fun _ _ => rfl) fun _ _ _ _ => by kernel_rfl⟩
def zq8j : zq88 := fun s k =>
 cond (decide (s = ([] : List UInt8)))
 (k false)
 (cond (decide ((24 : Int) < (List.length s : Int)))
 (k false)
 (cond (decide (0 ≤ (0 : Int)) && decide ((0 : Int) < (List.length s : Int)))
 (zq3z ((List.getD s (Int.toNat (0 : Int)) 0).toNat : Int) (fun rsmall =>
 cond (!rsmall)
 (k false)
 (zq8h (fun t2 =>
 k t2) (fun _ =>
 k true) s (List.length s : Int) (0 : Int))))
 none))
def zq8k : zq88 := hid zq8j
noncomputable def zq8l : En := ⟨51, .spec (sg [v25y] [] [v20y] [] zq8k), pf zq89 [zq8i] [.tmp 2] Tryz.func51 (by kernel_rfl) fun _ _ => by kernel_rfl⟩
abbrev zq8m := {β : Type} → Int → (Bool → Option β) → Option β
def zq8n : zq8m := fun n k =>
 zq47 n (0 : Int) (604800 : Int) (fun rin =>
 cond rin
 (let t := (decide ((Int.tmod n (3600 : Int)) = (0 : Int)));
 k t)
 (k false))
def zq8o : zq8m := hid zq8n
noncomputable def zq8p : En := ⟨54, .spec (sg [v18y] [] [v20y] [] zq8o), pf [zq48] [] [.tmp 2] Tryz.func54 (by kernel_rfl) fun _ _ => by kernel_rfl⟩
abbrev zq8q := {β : Type} → t7y → (t7y → Bool → Option β) → Option β
noncomputable def zq8r : List En := [zq5b]
abbrev zq8s (β : Type) := t7y → t7y → Option β
abbrev zq8t (β : Type) := t7y → t7y → Int → Int → (List t5y) → Option β
noncomputable def zq8u : Pc := ⟨55, 0, Q8 122 (Q3 Tryz.f90), ⟨0, [0, 4, 13, 14, 15], [v23y, v23y, v27y, v18y, v18y], [.row 9 .str]⟩, [(.exit 0, ⟨0, [0, 4], [v23y, v23y], []⟩)]⟩
def zq8v {β : Type} (rec : zq8t β) (k1 : zq8s β) : zq8t β := fun l rest t14 t15 t13 =>
 cond (decide (t15 < t14))
 (cond (decide (0 ≤ t15) && decide (t15 < (List.length t13 : Int)))
 (let s := (List.getD t13 (Int.toNat t15) ([] : List UInt8));
 cond (decide ((2 : Int) ≤ (List.length rest : Int)))
 (cond (decide (0 ≤ (0 : Int)) && decide ((0 : Int) < (List.length rest : Int)))
 (let e := List.getD rest (Int.toNat (0 : Int)) ((0 : Int), (([] : List UInt8), (0 : Int)));
 zq5a e s (fun rword =>
 cond rword
 (cond (decide (0 ≤ (1 : Int)) && decide ((1 : Int) < (List.length rest : Int)))
 (let e2 := List.getD rest (Int.toNat (1 : Int)) ((0 : Int), (([] : List UInt8), (0 : Int)));
 cond (decide (e2.1 = (1 : Int)))
 (cond (decide (0 ≤ (2 : Int)) && (decide ((2 : Int) ≤ (List.length rest : Int)) && decide ((List.length rest : Int) ≤ (List.length rest : Int))))
 (let rest2 := (List.drop (Int.toNat (2 : Int)) (List.take (Int.toNat (List.length rest : Int)) rest));
 rec l rest2 t14 (IntKind.i64.wrap (t15 + (1 : Int))) t13)
 none)
 (rec l rest t14 (IntKind.i64.wrap (t15 + (1 : Int))) t13))
 none)
 (rec l rest t14 (IntKind.i64.wrap (t15 + (1 : Int))) t13)))
 none)
 (rec l rest t14 (IntKind.i64.wrap (t15 + (1 : Int))) t13))
 none)
 (k1 l rest)
def zq8w (m : Nat) {β : Type} (k1 : zq8s β) : zq8t β := lp5 (fun r => zq8v r k1) none m
theorem zq8x {β : Type} (i : Nat) (k1) : zq8w (β := β) (i + 1) k1 = zq8v (zq8w i k1) k1 := rfl
def zq8y {β : Type} := hid (zq8w (β := β) fuel)
noncomputable def zq8z : Pb := ⟨122, zq8u, fun _ => zq8y, pl (p := zq8u) zq8r [] (g := fun i _ => zq8w i) (by kernel_rfl) rfl (by kernel_rfl) (fun _ _ => rfl) fun _ _ _ _ => by kernel_rfl⟩
def zq90 : zq8q := fun l k =>
 cond (decide ((List.length l : Int) < (3 : Int)))
 (k l false)
 (cond (decide (0 ≤ (3 : Int)) && (decide ((3 : Int) ≤ (List.length l : Int)) && decide ((List.length l : Int) ≤ (List.length l : Int))))
 (let rest := (List.drop (Int.toNat (3 : Int)) (List.take (Int.toNat (List.length l : Int)) l));
 let l2 := ([([119, 101, 101, 107] : List UInt8), ([114, 101, 115, 116] : List UInt8)] : List t5y);
 zq8y (fun l3 rest2 =>
 cond (decide ((0 : Int) < (List.length rest2 : Int)))
 (cond (decide (0 ≤ (0 : Int)) && decide ((0 : Int) < (List.length rest2 : Int)))
 (let e := List.getD rest2 (Int.toNat (0 : Int)) ((0 : Int), (([] : List UInt8), (0 : Int)));
 zq5a e ([99, 111, 110, 115, 101, 110, 116] : List UInt8) (fun rword =>
 cond rword
 (cond (decide (0 ≤ (1 : Int)) && (decide ((1 : Int) ≤ (List.length rest2 : Int)) && decide ((List.length rest2 : Int) ≤ (List.length rest2 : Int))))
 (let rest3 := (List.drop (Int.toNat (1 : Int)) (List.take (Int.toNat (List.length rest2 : Int)) rest2));
 cond (decide (0 ≤ (0 : Int)) && (decide ((0 : Int) ≤ (3 : Int)) && decide ((3 : Int) ≤ (List.length l3 : Int))))
 (let t := (List.drop (Int.toNat (0 : Int)) (List.take (Int.toNat (3 : Int)) l3));
 let t2 := (decide ((List.length rest3 : Int) = (0 : Int)));
 k t t2)
 none)
 none)
 (cond (decide (0 ≤ (0 : Int)) && (decide ((0 : Int) ≤ (3 : Int)) && decide ((3 : Int) ≤ (List.length l3 : Int))))
 (let t := (List.drop (Int.toNat (0 : Int)) (List.take (Int.toNat (3 : Int)) l3));
 let t2 := (decide ((List.length rest2 : Int) = (0 : Int)));
 k t t2)
 none)))
 none)
 (cond (decide (0 ≤ (0 : Int)) && (decide ((0 : Int) ≤ (3 : Int)) && decide ((3 : Int) ≤ (List.length l3 : Int))))
 (let t := (List.drop (Int.toNat (0 : Int)) (List.take (Int.toNat (3 : Int)) l3));
 let t2 := (decide ((List.length rest2 : Int) = (0 : Int)));
 k t t2)
 none)) l rest (List.length l2 : Int) (0 : Int) l2)
 none)
def zq91 : zq8q := hid zq90
noncomputable def zq92 : En := ⟨90, .spec (sg [v23y] [] [v23y, v20y] [] zq91), pf zq8r [zq8z] [.tmp 2, .tmp 3] Tryz.func90 (by kernel_rfl) fun _ _ => by kernel_rfl⟩
abbrev zq93 := {β : Type} → t7y → t4y → t3y → t2y → t1y → (Int → t4y → t3y → t2y → t1y → Option β) → Option β
noncomputable def zq94 : List En := [zq65, zq66]
abbrev zq95 (β : Type) := t4y → t3y → t2y → t1y → Option β
abbrev zq96 (β : Type) := Nat → t7y → Int → Int → t4y → t3y → t2y → t1y → Option β
noncomputable def zq97 : Pc := ⟨39, 5, Q8 122 (Q3 Tryz.f96), ⟨5, [5, 21, 22, 23], [(false, [.tptrh 3 [] 0]), v23y, v18y, v18y], l51y⟩, [(.exit 0, ⟨5, [], [], l51y⟩)]⟩
def zq98 {β : Type} (rec : zq96 β) (k1 : zq95 β) : zq96 β := fun c t21 t22 t23 b1_ b2_ b3_ b4_ =>
 cond (decide (t23 < t22))
 (cond (decide (0 ≤ t23) && decide (t23 < (List.length t21 : Int)))
 (let e := List.getD t21 (Int.toNat t23) ((0 : Int), (([] : List UInt8), (0 : Int)));
 let e2 := List.getD b3_ c zqk;
 let l := ([e.2.2] : List Int);
 let l2 := ((List.getD b3_ c zqk).2).2;
 cond (true && decide ((List.length l2 + List.length l) * 8 ≤ Q4))
 (let l3 := (l2 ++ l);
 let e3 := List.getD b3_ c zqk;
 let l4 := List.set b3_ c (e3.1, (e3.2.1, l3));
 cond (decide (c = c) && (true && true))
 (rec c t21 t22 (IntKind.i64.wrap (t23 + (1 : Int))) b1_ b2_ l4 b4_)
 none)
 none)
 none)
 (k1 b1_ b2_ b3_ b4_)
def zq99 (m : Nat) {β : Type} (k1 : zq95 β) : zq96 β := lp8 (fun r => zq98 r k1) none m
theorem zq9a {β : Type} (i : Nat) (k1) : zq99 (β := β) (i + 1) k1 = zq98 (zq99 i k1) k1 := rfl
def zq9b {β : Type} := hid (zq99 (β := β) fuel)
noncomputable def zq9c : Pb := ⟨122, zq97, fun _ => zq9b, Q3f mixed (X := ⟨look tab, gam zq94, false, false, false, false, q68y, none, 0, []⟩) (p := zq97) Qa zq94 rfl [] (g := fun i _ => zq99 i) (by kernel_rfl) rfl (by kernel_rfl) (fun _ _ => rfl) fun _ _ _ _ => by kernel_rfl⟩
def zq9d : zq93 := fun l b1_ b2_ b3_ b4_ k =>
 cond (decide ((List.length b3_ : Int) = (0 : Int)))
 (k (9 : Int) b1_ b2_ b3_ b4_)
 (let i_ := (IntKind.i64.wrap ((List.length b3_ : Int) - (1 : Int)));
 cond (decide (0 ≤ i_) && decide (i_ < (List.length b3_ : Int)))
 (cond (decide (0 ≤ (1 : Int)) && (decide ((1 : Int) ≤ (List.length l : Int)) && decide ((List.length l : Int) ≤ (List.length l : Int))))
 (zq9b (fun b1_2 b2_2 b3_2 b4_2 =>
 k (0 : Int) b1_2 b2_2 b3_2 b4_2) (Int.toNat i_) (List.drop (Int.toNat (1 : Int)) (List.take (Int.toNat (List.length l : Int)) l)) (List.length (List.drop (Int.toNat (1 : Int)) (List.take (Int.toNat (List.length l : Int)) l)) : Int) (0 : Int) b1_ b2_ b3_ b4_)
 none)
 none)
def zq9e : zq93 := hid zq9d
theorem zq9f : SpecOkB Tryz.prog 96 (sg [v24y, v23y] l51y [v18y] l51y zq9e) := Q1o mixed (X := ⟨look tab, gam zq94, false, false, false, false, q68y, none, 0, []⟩) Qa zq94 rfl [zq9c] [.tmp 4] Tryz.func96 (by kernel_rfl) fun _ _ => by kernel_rfl
noncomputable def zq9g : En := .hand zq9f rfl (by kernel_rfl)
abbrev zq9h := {β : Type} → Int → (Int → Option β) → Option β
def zq9i : zq9h := fun year k =>
 let y := (IntKind.i64.wrap (year - (1 : Int)));
 zq7g y (4 : Int) (fun rfloor =>
 zq7g y (100 : Int) (fun rfloor2 =>
 zq7g y (400 : Int) (fun rfloor3 =>
 let t := (IntKind.i64.wrap ((IntKind.i64.wrap ((IntKind.i64.wrap ((IntKind.i64.wrap ((IntKind.i64.wrap ((365 : Int) * (IntKind.i64.wrap (year - (1970 : Int))))) + rfloor)) - rfloor2)) + rfloor3)) - (477 : Int)));
 k t)))
def zq9j : zq9h := hid zq9i
noncomputable def zq9k : En := ⟨105, .spec (sg [v18y] [] [v18y] [] zq9j), pf [zq7h] [] [.tmp 2] Tryz.func105 (by kernel_rfl) fun _ _ => by kernel_rfl⟩
abbrev zq9l := {β : Type} → Int → (Int → Option β) → Option β
noncomputable def zq9m : List En := [zq9k, zq7h]
abbrev zq9n (β : Type) := Int → Option β
abbrev zq9o (β : Type) := Int → Int → Option β
noncomputable def zq9p : Pc := ⟨15, 0, Q8 28 (Q3 Tryz.f106), ⟨0, [0, 3], [v18y, v18y], []⟩, [(.exit 0, ⟨0, [3], [v18y], []⟩)]⟩
def zq9q {β : Type} (rec : zq9o β) (k1 : zq9n β) : zq9o β := fun day y =>
 zq9j (IntKind.i64.wrap (y + (1 : Int))) (fun rcount =>
 cond (decide (rcount ≤ day))
 (let y2 := (IntKind.i64.wrap (y + (1 : Int)));
 rec day y2)
 (k1 y))
def zq9r (m : Nat) {β : Type} (k1 : zq9n β) : zq9o β := lp2 (fun r => zq9q r k1) none m
theorem zq9s {β : Type} (i : Nat) (k1) : zq9r (β := β) (i + 1) k1 = zq9q (zq9r i k1) k1 := rfl
def zq9t {β : Type} := hid (zq9r (β := β) fuel)
noncomputable def zq9u : Pb := ⟨28, zq9p, fun _ => zq9t, pl (p := zq9p) zq9m [] (g := fun i _ => zq9r i) (by kernel_rfl) rfl (by kernel_rfl) (fun _ _ => rfl) fun _ _ _ _ => by kernel_rfl⟩
def zq9v : zq9l := fun day k =>
 zq7g day (366 : Int) (fun rfloor =>
 let y := (IntKind.i64.wrap ((1970 : Int) + rfloor));
 zq9t (fun y2 =>
 k y2) day y)
def zq9w : zq9l := hid zq9v
noncomputable def zq9x : En := ⟨106, .spec (sg [v18y] [] [v18y] [] zq9w), pf zq9m [zq9u] [.tmp 2] Tryz.func106 (by kernel_rfl) fun _ _ => by kernel_rfl⟩
abbrev zq9y := {β : Type} → Int → Int → (Int → Option β) → Option β
def zq9z : zq9y := fun year month k =>
 cond (decide (month < (1 : Int)))
 (k (0 : Int))
 (cond (decide ((12 : Int) < month))
 (k (0 : Int))
 (cond (decide (month = (2 : Int)))
 (zq7k year (fun rLeap =>
 cond rLeap
 (k (29 : Int))
 (cond (decide ((IntKind.i64.wrap (month - (1 : Int))) = (0 : Int)))
 (k (31 : Int))
 (cond (decide ((IntKind.i64.wrap (month - (1 : Int))) = (1 : Int)))
 (k (28 : Int))
 (cond (decide ((IntKind.i64.wrap (month - (1 : Int))) = (2 : Int)))
 (k (31 : Int))
 (cond (decide ((IntKind.i64.wrap (month - (1 : Int))) = (3 : Int)))
 (k (30 : Int))
 (cond (decide ((IntKind.i64.wrap (month - (1 : Int))) = (4 : Int)))
 (k (31 : Int))
 (cond (decide ((IntKind.i64.wrap (month - (1 : Int))) = (5 : Int)))
 (k (30 : Int))
 (cond (decide ((IntKind.i64.wrap (month - (1 : Int))) = (6 : Int)))
 (k (31 : Int))
 (cond (decide ((IntKind.i64.wrap (month - (1 : Int))) = (7 : Int)))
 (k (31 : Int))
 (cond (decide ((IntKind.i64.wrap (month - (1 : Int))) = (8 : Int)))
 (k (30 : Int))
 (cond (decide ((IntKind.i64.wrap (month - (1 : Int))) = (9 : Int)))
 (k (31 : Int))
 (cond (decide ((IntKind.i64.wrap (month - (1 : Int))) = (10 : Int)))
 (k (30 : Int))
 (cond (decide ((IntKind.i64.wrap (month - (1 : Int))) = (11 : Int)))
 (k (31 : Int))
 (none)))))))))))))))
 (cond (decide ((IntKind.i64.wrap (month - (1 : Int))) = (0 : Int)))
 (k (31 : Int))
 (cond (decide ((IntKind.i64.wrap (month - (1 : Int))) = (1 : Int)))
 (k (28 : Int))
 (cond (decide ((IntKind.i64.wrap (month - (1 : Int))) = (2 : Int)))
 (k (31 : Int))
 (cond (decide ((IntKind.i64.wrap (month - (1 : Int))) = (3 : Int)))
 (k (30 : Int))
 (cond (decide ((IntKind.i64.wrap (month - (1 : Int))) = (4 : Int)))
 (k (31 : Int))
 (cond (decide ((IntKind.i64.wrap (month - (1 : Int))) = (5 : Int)))
 (k (30 : Int))
 (cond (decide ((IntKind.i64.wrap (month - (1 : Int))) = (6 : Int)))
 (k (31 : Int))
 (cond (decide ((IntKind.i64.wrap (month - (1 : Int))) = (7 : Int)))
 (k (31 : Int))
 (cond (decide ((IntKind.i64.wrap (month - (1 : Int))) = (8 : Int)))
 (k (30 : Int))
 (cond (decide ((IntKind.i64.wrap (month - (1 : Int))) = (9 : Int)))
 (k (31 : Int))
 (cond (decide ((IntKind.i64.wrap (month - (1 : Int))) = (10 : Int)))
 (k (30 : Int))
 (cond (decide ((IntKind.i64.wrap (month - (1 : Int))) = (11 : Int)))
 (k (31 : Int))
 (none)))))))))))))))
def zqa0 : zq9y := hid zq9z
noncomputable def zqa1 : En := ⟨107, .spec (sg [v18y, v18y] [] [v18y] [] zqa0), pf [zq7l] [] [.tmp 4] Tryz.func107 (by kernel_rfl) fun _ _ => by kernel_rfl⟩
abbrev zqa2 := {β : Type} → t5y → (Int → Bool → Option β) → Option β
def zqa3 : zqa2 := fun word k =>
 zq7v ([106, 97, 110, 32, 102, 101, 98, 32, 109, 97, 114, 32, 97, 112, 114, 32, 109, 97, 121, 32, 106, 117, 110, 32, 106, 117, 108, 32, 97, 117, 103, 32, 115, 101, 112, 32, 111, 99, 116, 32, 110, 111, 118, 32, 100, 101, 99] : List UInt8) word (fun rindex rindex2 =>
 k rindex rindex2)
def zqa4 : zqa2 := hid zqa3
noncomputable def zqa5 : En := ⟨118, .spec (sg [v25y] [] [v18y, v20y] [] zqa4), pf [zq7w] [] [.tmp 2, .tmp 3] Tryz.func118 (by kernel_rfl) fun _ _ => by kernel_rfl⟩
abbrev zqa6 := {β : Type} → t5y → (Int → Bool → Option β) → Option β
def zqa7 : zqa6 := fun word k =>
 zq7v ([102, 105, 114, 115, 116, 32, 115, 101, 99, 111, 110, 100, 32, 116, 104, 105, 114, 100, 32, 102, 111, 117, 114, 116, 104, 32, 108, 97, 115, 116] : List UInt8) word (fun rindex rindex2 =>
 k rindex rindex2)
def zqa8 : zqa6 := hid zqa7
noncomputable def zqa9 : En := ⟨119, .spec (sg [v25y] [] [v18y, v20y] [] zqa8), pf [zq7w] [] [.tmp 2, .tmp 3] Tryz.func119 (by kernel_rfl) fun _ _ => by kernel_rfl⟩
abbrev zqaa := {β : Type} → t5y → (Int → Bool → Option β) → Option β
def zqab : zqaa := fun word k =>
 zq7v ([109, 111, 110, 32, 116, 117, 101, 32, 119, 101, 100, 32, 116, 104, 117, 32, 102, 114, 105, 32, 115, 97, 116, 32, 115, 117, 110] : List UInt8) word (fun rindex rindex2 =>
 let t := (if (IntKind.i64.wrap (rindex - (1 : Int))) > (0 : Int) then (IntKind.i64.wrap (rindex - (1 : Int))) else (0 : Int));
 k t rindex2)
def zqac : zqaa := hid zqab
noncomputable def zqad : En := ⟨120, .spec (sg [v25y] [] [v18y, v20y] [] zqac), pf [zq7w] [] [.tmp 2, .tmp 3] Tryz.func120 (by kernel_rfl) fun _ _ => by kernel_rfl⟩
abbrev zqae := {β : Type} → t7y → (t6y → Int → Option β) → Option β
def zqaf : zqae := fun l k =>
 cond (decide (0 ≤ (1 : Int)) && decide ((1 : Int) < (List.length l : Int)))
 (let e := List.getD l (Int.toNat (1 : Int)) ((0 : Int), (([] : List UInt8), (0 : Int)));
 zqac e.2.1 (fun rWeekday rWeekday2 =>
 cond (decide (0 ≤ (3 : Int)) && decide ((3 : Int) < (List.length l : Int)))
 (let e2 := List.getD l (Int.toNat (3 : Int)) ((0 : Int), (([] : List UInt8), (0 : Int)));
 zqac e2.2.1 (fun rWeekday3 rWeekday4 =>
 cond (!rWeekday2)
 (k ((0 : Int), (0 : Int)) (2 : Int))
 (cond (!rWeekday4)
 (k ((0 : Int), (0 : Int)) (2 : Int))
 (cond (decide (0 ≤ (2 : Int)) && decide ((2 : Int) < (List.length l : Int)))
 (let e3 := List.getD l (Int.toNat (2 : Int)) ((0 : Int), (([] : List UInt8), (0 : Int)));
 cond (decide (0 ≤ (4 : Int)) && decide ((4 : Int) < (List.length l : Int)))
 (let e4 := List.getD l (Int.toNat (4 : Int)) ((0 : Int), (([] : List UInt8), (0 : Int)));
 k ((IntKind.i64.wrap ((IntKind.i64.wrap (rWeekday * (86400 : Int))) + e3.2.2)), (IntKind.i64.wrap ((IntKind.i64.wrap (rWeekday3 * (86400 : Int))) + e4.2.2))) (0 : Int))
 none)
 none))))
 none))
 none
def zqag : zqae := hid zqaf
noncomputable def zqah : En := ⟨125, .spec (sg [v23y] [] [(true, [.data (.prod (.int .i64) (.int .i64))]), v18y] [] zqag), pf [zqad] [] [.cell 2 129, .tmp 3] Tryz.func125 (by kernel_rfl) fun _ _ => by kernel_rfl⟩
abbrev zqai := {β : Type} → t5y → (Int → Bool → Option β) → Option β
noncomputable def zqaj : List En := [zq44, zq87]
abbrev zqak (β : Type) := Int → Bool → Option β
abbrev zqal (β : Type) := t5y → Option β
abbrev zqam (β : Type) := t5y → Int → Int → Option β
noncomputable def zqan : Pc := ⟨31, 0, Q8 26 (Q3 Tryz.f152), ⟨0, [0, 8, 9], [v25y, v18y, v18y], []⟩, [(.ret, ⟨0, [2, 3], [v18y, v20y], []⟩), (.exit 0, ⟨0, [0], [v25y], []⟩)]⟩
def zqao {β : Type} (rec : zqam β) (k1 : zqak β) (k2 : zqal β) : zqam β := fun s t8 t9 =>
 cond (decide (t9 < t8))
 (cond (decide (0 ≤ t9) && decide (t9 < (List.length s : Int)))
 (zq43 ((List.getD s (Int.toNat t9) 0).toNat : Int) (fun rdigit =>
 cond (!rdigit)
 (k1 (0 : Int) false)
 (rec s t8 (IntKind.i64.wrap (t9 + (1 : Int))))))
 none)
 (k2 s)
def zqap (m : Nat) {β : Type} (k1 : zqak β) (k2 : zqal β) : zqam β := lp3 (fun r => zqao r k1 k2) none m
theorem zqaq {β : Type} (i : Nat) (k1 k2) : zqap (β := β) (i + 1) k1 k2 = zqao (zqap i k1 k2) k1 k2 := rfl
def zqar {β : Type} := hid (zqap (β := β) fuel)
noncomputable def zqas : Pb := ⟨26, zqan, fun _ => zqar, pl (p := zqan) zqaj [] (g := fun i _ => zqap i) (by kernel_rfl) rfl (by kernel_rfl) (fun _ _ => rfl) fun _ _ _ _ => by kernel_rfl⟩
def zqat : zqai := fun s k =>
 zqar (fun t2 t3 =>
 k t2 t3) (fun s2 =>
 zq85 s2 (fun rAtoi rAtoi2 =>
 cond rAtoi2
 (let t := (decide ((List.length s2 : Int) ≤ (9 : Int)));
 k rAtoi t)
 (k rAtoi false))) s (List.length s : Int) (0 : Int)
def zqau : zqai := hid zqat
noncomputable def zqav : En := ⟨152, .spec (sg [v25y] [] [v18y, v20y] [] zqau), pf zqaj [zqas] [.tmp 2, .tmp 3] Tryz.func152 (by kernel_rfl) fun _ _ => by kernel_rfl⟩
abbrev zqaw := {β : Type} → (Int × t6y) → (Bool → Option β) → Option β
def zqax : zqaw := fun d k =>
 cond (decide ((1970 : Int) ≤ d.1))
 (cond (decide (d.1 ≤ (2240 : Int)))
 (cond (decide ((1 : Int) ≤ d.2.2))
 (zqa0 d.1 d.2.1 (fun rDays =>
 k (decide (d.2.2 ≤ rDays))))
 (k false))
 (k false))
 (k false)
def zqay : zqaw := hid zqax
noncomputable def zqaz : En := ⟨159, .spec (sg [v33y] [] [v20y] [] zqay), pf [zqa1] [] [.tmp 2] Tryz.func159 (by kernel_rfl) fun _ _ => by kernel_rfl⟩
abbrev zqb0 := {β : Type} → (Int × t6y) → (Int → Option β) → Option β
noncomputable def zqb1 : List En := [zqa1, zq9k]
abbrev zqb2 (β : Type) := Int → Option β
abbrev zqb3 (β : Type) := Int → Int → (Int × t6y) → Option β
noncomputable def zqb4 : Pc := ⟨25, 0, Q8 58 (Q3 Tryz.f160), ⟨0, [1, 3, 4], [v24y, v18y, v18y], [b29y]⟩, [(.exit 0, ⟨0, [3], [v18y], []⟩)]⟩
def zqb5 {β : Type} (rec : zqb3 β) (k1 : zqb2 β) : zqb3 β := fun n m d =>
 cond (decide (m < d.2.1))
 (zqa0 d.1 m (fun rDays =>
 let n2 := (IntKind.i64.wrap (n + rDays));
 let m2 := (IntKind.i64.wrap (m + (1 : Int)));
 rec n2 m2 d))
 (k1 n)
def zqb6 (m : Nat) {β : Type} (k1 : zqb2 β) : zqb3 β := lp3 (fun r => zqb5 r k1) none m
theorem zqb7 {β : Type} (i : Nat) (k1) : zqb6 (β := β) (i + 1) k1 = zqb5 (zqb6 i k1) k1 := rfl
def zqb8 {β : Type} := hid (zqb6 (β := β) fuel)
noncomputable def zqb9 : Pb := ⟨58, zqb4, fun _ => zqb8, pl (p := zqb4) zqb1 [] (g := fun i _ => zqb6 i) (by kernel_rfl) rfl (by kernel_rfl) (fun _ _ => rfl) fun _ _ _ _ => by kernel_rfl⟩
def zqba : zqb0 := fun d k =>
 zq9j d.1 (fun rcount =>
 let n := (IntKind.i64.wrap ((IntKind.i64.wrap (rcount + d.2.2)) - (1 : Int)));
 zqb8 (fun n2 =>
 k n2) n (1 : Int) d)
def zqbb : zqb0 := hid zqba
noncomputable def zqbc : En := ⟨160, .spec (sg [v33y] [] [v18y] [] zqbb), pf zqb1 [zqb9] [.tmp 2] Tryz.func160 (by kernel_rfl) fun _ _ => by kernel_rfl⟩
abbrev zqbd := {β : Type} → t5y → (Int → Bool → Option β) → Option β
def zqbe : zqbd := fun s k =>
 zqau s (fun rnumber rnumber2 =>
 cond rnumber2
 (let t := (decide ((List.length s : Int) = (2 : Int)));
 k rnumber t)
 (k rnumber false))
def zqbf : zqbd := hid zqbe
noncomputable def zqbg : En := ⟨170, .spec (sg [v25y] [] [v18y, v20y] [] zqbf), pf [zqav] [] [.tmp 2, .tmp 3] Tryz.func170 (by kernel_rfl) fun _ _ => by kernel_rfl⟩
abbrev zqbh := {β : Type} → (Int × t6y) → (Int → Int → Option β) → Option β
def zqbi : zqbh := fun d k =>
 zqay d (fun rValid =>
 cond (!rValid)
 (k (0 : Int) (1 : Int))
 (zqbb d (fun rnumber =>
 k rnumber (0 : Int))))
def zqbj : zqbh := hid zqbi
noncomputable def zqbk : En := ⟨171, .spec (sg [v33y] [] [v18y, v18y] [] zqbj), pf [zqaz, zqbc] [] [.tmp 2, .tmp 3] Tryz.func171 (by kernel_rfl) fun _ _ => by kernel_rfl⟩
abbrev zqbl := {β : Type} → (List zqc) → t5y → (Int → t5y → Option β) → Option β
noncomputable def zqbm : List En := [zq57]
abbrev zqbn (β : Type) := Int → t5y → Option β
abbrev zqbo (β : Type) := t5y → Option β
abbrev zqbp (β : Type) := (List zqc) → Int → Int → t5y → Option β
noncomputable def zqbq : Pc := ⟨19, 1, Q8 26 (Q3 Tryz.f115), ⟨1, [0, 1, 7, 8], [(false, [.data (.slice zqd)]), (false, [.fn 116 [0]]), v18y, v18y], [b26y]⟩, [(.ret, ⟨1, [4], [v18y], [b26y]⟩), (.exit 0, ⟨1, [], [], [b26y]⟩)]⟩
def zqbr {β : Type} (rec : zqbp β) (k1 : zqbn β) (k2 : zqbo β) : zqbp β := fun s t7 t8 b0_ =>
 cond (decide (t8 < t7))
 (cond (decide (0 ≤ t8) && decide (t8 < (List.length s : Int)))
 (let e := List.getD s (Int.toNat t8) (([] : List UInt8), (([] : List Int), false));
 zq56 e b0_ (fun rforms1 mrforms1 =>
 cond rforms1
 (k1 t8 mrforms1)
 (rec s t7 (IntKind.i64.wrap (t8 + (1 : Int))) mrforms1)))
 none)
 (k2 b0_)
def zqbs (m : Nat) {β : Type} (k1 : zqbn β) (k2 : zqbo β) : zqbp β := lp4 (fun r => zqbr r k1 k2) none m
theorem zqbt {β : Type} (i : Nat) (k1 k2) : zqbs (β := β) (i + 1) k1 k2 = zqbr (zqbs i k1 k2) k1 k2 := rfl
def zqbu {β : Type} := hid (zqbs (β := β) fuel)
noncomputable def zqbv : Pb := ⟨26, zqbq, fun _ => zqbu, pl (p := zqbq) zqbm [] (g := fun i _ => zqbs i) (by kernel_rfl) rfl (by kernel_rfl) (fun _ _ => rfl) fun _ _ _ _ => by kernel_rfl⟩
def zqbw : zqbl := fun s b0_ k =>
 zqbu (fun t4 b0_2 =>
 k t4 b0_2) (fun b0_2 =>
 k (-1 : Int) b0_2) s (List.length s : Int) (0 : Int) b0_
def zqbx : zqbl := hid zqbw
noncomputable def zqby : En := ⟨115, .spec (sg [(false, [.data (.slice zqd)]), (false, [.fn 116 [0]])] [b26y] [v18y] [b26y] zqbx), pf zqbm [zqbv] [.tmp 4] Tryz.func115 (by kernel_rfl) fun _ _ => by kernel_rfl⟩
abbrev zqbz := {β : Type} → t5y → (List t9y) → (Int → (List t9y) → Option β) → Option β
def zqc0 : zqbz := fun s seen k =>
 zq8k s (fun rName =>
 cond (!rName)
 (k (2 : Int) seen)
 (let g := (mGet .str seen s false);
 cond g
 (k (4 : Int) seen)
 (let m_ := (mPut .str seen s true);
 k (0 : Int) m_)))
def zqc1 : zqbz := hid zqc0
theorem zqc2 : SpecOkB Tryz.prog 21 (sg [v25y, (false, [.maph 0])] [.map 66 .str .bool false] [v18y] [.map 66 .str .bool false] zqc1) := pfB [zq8l] [] [.tmp 4] Tryz.func21 (by kernel_rfl) fun _ _ => by kernel_rfl
noncomputable def zqc3 : En := .hand zqc2 rfl (by kernel_rfl)
abbrev zqc4 := {β : Type} → zqg → zqe → (Int → Option β) → Option β
def zqc5 : zqc4 := fun c p_ k =>
 zq2z p_.2.1 (List.length c.1 : Int) (fun rindex =>
 cond (!rindex)
 (k (3 : Int))
 (zq3j p_.2.2.1 (fun rCheck =>
 let t := (!decide (rCheck = (0 : Int)));
 cond t
 (k (8 : Int))
 (zq8o p_.2.2.2.1 (fun rhours =>
 cond (!rhours)
 (k (1 : Int))
 (zq8o p_.2.2.2.2.1 (fun rhours2 =>
 cond (!rhours2)
 (k (1 : Int))
 (k (0 : Int)))))))))
def zqc6 : zqc4 := hid zqc5
noncomputable def zqc7 : En := ⟨22, .spec (sg [v31y, (true, [.data zqf])] [] [v18y] [] zqc6), pf [zq8p, zq30, zq3k] [] [.tmp 4] Tryz.func22 (by kernel_rfl) fun _ _ => by kernel_rfl⟩
abbrev zqc8 := {β : Type} → Int → ((Int × t6y) → Int → Option β) → Option β
noncomputable def zqc9 : List En := [zqa1, zq9k, zq9x]
abbrev zqca (β : Type) := Int → (Int × t6y) → (Int × t6y) → Option β
abbrev zqcb (β : Type) := Int → (Int × t6y) → (Int × t6y) → Option β
noncomputable def zqcc : Pc := ⟨45, 0, Q8 124 (Q3 Tryz.f83), ⟨0, [2, 4, 5], [v24y, v30y, v18y], [b29y, b29y]⟩, [(.exit 0, ⟨0, [2, 4, 5], [v24y, v30y, v18y], [b29y, b29y]⟩)]⟩
def zqcd {β : Type} (rec : zqcb β) (k1 : zqca β) : zqcb β := fun rest t2 d =>
 zqa0 d.1 d.2.1 (fun rDays =>
 cond (decide (rDays ≤ rest))
 (zqa0 d.1 d.2.1 (fun rDays2 =>
 let rest2 := (IntKind.i64.wrap (rest - rDays2));
 rec rest2 t2 (d.1, ((IntKind.i64.wrap (d.2.1 + (1 : Int))), d.2.2))))
 (k1 rest t2 d))
def zqce (m : Nat) {β : Type} (k1 : zqca β) : zqcb β := lp3 (fun r => zqcd r k1) none m
theorem zqcf {β : Type} (i : Nat) (k1) : zqce (β := β) (i + 1) k1 = zqcd (zqce i k1) k1 := rfl
def zqcg {β : Type} := hid (zqce (β := β) fuel)
noncomputable def zqch : Pb := ⟨124, zqcc, fun _ => zqcg, pl (p := zqcc) zqc9 [] (g := fun i _ => zqce i) (by kernel_rfl) rfl (by kernel_rfl) (fun _ _ => rfl) fun _ _ _ _ => by kernel_rfl⟩
def zqci : zqc8 := fun day k =>
 zq9j (1970 : Int) (fun rcount =>
 cond (decide (day < rcount))
 (k ((0 : Int), ((0 : Int), (0 : Int))) (1 : Int))
 (zq9j (2241 : Int) (fun rcount2 =>
 cond (decide (rcount2 ≤ day))
 (k ((0 : Int), ((0 : Int), (0 : Int))) (1 : Int))
 (zq9w day (fun ryear =>
 zq9j ryear (fun rcount3 =>
 let rest := (IntKind.i64.wrap (day - rcount3));
 zqcg (fun rest2 t2 d =>
 k (d.1, (d.2.1, (IntKind.i64.wrap (rest2 + (1 : Int))))) (0 : Int)) rest ((0 : Int), ((0 : Int), (0 : Int))) (ryear, ((1 : Int), (0 : Int)))))))))
def zqcj : zqc8 := hid zqci
noncomputable def zqck : En := ⟨83, .spec (sg [v18y] [] [v33y, v18y] [] zqcj), pf zqc9 [zqch] [.cell 2 146, .tmp 3] Tryz.func83 (by kernel_rfl) fun _ _ => by kernel_rfl⟩
abbrev zqcl := {β : Type} → t5y → (zqc → Bool → Option β) → Option β
def zqcm : zqcl := fun word k =>
 let l := ([(0 : Int), (4 : Int)] : List Int);
 let l2 := ([(1 : Int), (1 : Int), (0 : Int), (0 : Int), (0 : Int), (2 : Int), (4 : Int)] : List Int);
 let l3 := ([(0 : Int), (0 : Int)] : List Int);
 let l4 := ([(0 : Int), (2 : Int), (0 : Int), (2 : Int)] : List Int);
 let l5 := ([(0 : Int), (0 : Int)] : List Int);
 let l6 := ([(3 : Int)] : List Int);
 let l7 := ([(0 : Int)] : List Int);
 let l8 := ([(0 : Int), (0 : Int), (3 : Int), (2 : Int), (1 : Int), (0 : Int)] : List Int);
 let l9 := ([(0 : Int)] : List Int);
 let l10 := ([(0 : Int), (2 : Int), (0 : Int), (2 : Int)] : List Int);
 let l11 := ([(0 : Int)] : List Int);
 let l12 := ([(0 : Int)] : List Int);
 let l13 := ([(0 : Int), (5 : Int), (5 : Int)] : List Int);
 let l14 := ([(0 : Int), (5 : Int), (5 : Int)] : List Int);
 let l15 := ([(0 : Int), (0 : Int), (5 : Int), (5 : Int)] : List Int);
 let l16 := ([(([122, 111, 110, 101] : List UInt8), (l, false)), (([114, 117, 108, 101] : List UInt8), (l2, false)), (([112, 101, 114, 115, 111, 110] : List UInt8), (l3, false)), (([113, 117, 105, 101, 116] : List UInt8), (l4, false)), (([99, 97, 108, 101, 110, 100, 97, 114] : List UInt8), (l5, false)), (([100, 97, 121, 115] : List UInt8), (l6, true)), (([115, 99, 104, 101, 100, 117, 108, 101] : List UInt8), (l7, false)), (([108, 97, 121, 101, 114] : List UInt8), (l8, false)), (([109, 101, 109, 98, 101, 114] : List UInt8), (l9, true)), (([111, 110] : List UInt8), (l10, false)), (([110, 111, 116] : List UInt8), (l11, false)), (([111, 110, 108, 121] : List UInt8), (l12, false)), (([108, 101, 97, 118, 101] : List UInt8), (l13, false)), (([111, 118, 101, 114, 114, 105, 100, 101] : List UInt8), (l14, false)), (([115, 119, 97, 112] : List UInt8), (l15, false))] : List zqc);
 zqbx l16 word (fun rform mrform =>
 cond (decide (rform < (0 : Int)))
 (k zqj false)
 (cond (decide (0 ≤ rform) && decide (rform < (List.length l16 : Int)))
 (k (List.getD l16 (Int.toNat rform) (([] : List UInt8), (([] : List Int), false))) true)
 none))
def zqcn : zqcl := hid zqcm
noncomputable def zqco : En := ⟨89, .spec (sg [v25y] [] [(true, [.data zqd]), v20y] [] zqcn), pf [zqby] [] [.cell 2 156, .tmp 3] Tryz.func89 (by kernel_rfl) fun _ _ => by kernel_rfl⟩
abbrev zqcp := {β : Type} → t7y → t4y → t3y → t2y → t1y → (Int → t4y → t3y → t2y → t1y → Option β) → Option β
def zqcq : zqcp := fun l b1_ b2_ b3_ b4_ k =>
 cond (decide (0 ≤ (3 : Int)) && decide ((3 : Int) < (List.length l : Int)))
 (let e := List.getD l (Int.toNat (3 : Int)) ((0 : Int), (([] : List UInt8), (0 : Int)));
 zqa4 e.2.1 (fun rMonth rMonth2 =>
 cond (decide (0 ≤ (4 : Int)) && decide ((4 : Int) < (List.length l : Int)))
 (let e2 := List.getD l (Int.toNat (4 : Int)) ((0 : Int), (([] : List UInt8), (0 : Int)));
 zqa8 e2.2.1 (fun rOrdinal rOrdinal2 =>
 cond (decide (0 ≤ (5 : Int)) && decide ((5 : Int) < (List.length l : Int)))
 (let e3 := List.getD l (Int.toNat (5 : Int)) ((0 : Int), (([] : List UInt8), (0 : Int)));
 zqac e3.2.1 (fun rWeekday rWeekday2 =>
 cond (!rMonth2)
 (k (2 : Int) b1_ b2_ b3_ b4_)
 (cond (!rOrdinal2)
 (k (2 : Int) b1_ b2_ b3_ b4_)
 (cond (!rWeekday2)
 (k (2 : Int) b1_ b2_ b3_ b4_)
 (cond (decide ((List.length b1_ : Int) = (0 : Int)))
 (k (9 : Int) b1_ b2_ b3_ b4_)
 (let i_ := (IntKind.i64.wrap ((List.length b1_ : Int) - (1 : Int)));
 cond (decide (0 ≤ i_) && decide (i_ < (List.length b1_ : Int)))
 (let e4 := List.getD b1_ (Int.toNat i_) (([] : List UInt8), ((0 : Int), ([] : List zq8)));
 cond (decide (0 ≤ (1 : Int)) && decide ((1 : Int) < (List.length l : Int)))
 (let e5 := List.getD l (Int.toNat (1 : Int)) ((0 : Int), (([] : List UInt8), (0 : Int)));
 cond (decide (0 ≤ (2 : Int)) && decide ((2 : Int) < (List.length l : Int)))
 (let e6 := List.getD l (Int.toNat (2 : Int)) ((0 : Int), (([] : List UInt8), (0 : Int)));
 cond (decide (0 ≤ (6 : Int)) && decide ((6 : Int) < (List.length l : Int)))
 (let e7 := List.getD l (Int.toNat (6 : Int)) ((0 : Int), (([] : List UInt8), (0 : Int)));
 cond (decide (0 ≤ (7 : Int)) && decide ((7 : Int) < (List.length l : Int)))
 (let e8 := List.getD l (Int.toNat (7 : Int)) ((0 : Int), (([] : List UInt8), (0 : Int)));
 let l2 := ([(e5.2.2, (e6.2.2, (rMonth, (rOrdinal, (rWeekday, (e7.2.2, e8.2.2))))))] : List zq8);
 let l3 := ((List.getD b1_ (Int.toNat i_) (([] : List UInt8), ((0 : Int), ([] : List zq8)))).2).2;
 cond (true && decide ((List.length l3 + List.length l2) * 56 ≤ Q4))
 (let l4 := (l3 ++ l2);
 let e9 := List.getD b1_ (Int.toNat i_) (([] : List UInt8), ((0 : Int), ([] : List zq8)));
 let l5 := List.set b1_ (Int.toNat i_) (e9.1, (e9.2.1, l4));
 cond (decide ((Int.toNat i_) = (Int.toNat i_)) && (true && true))
 (k (0 : Int) l5 b2_ b3_ b4_)
 none)
 none)
 none)
 none)
 none)
 none)
 none))))))
 none))
 none))
 none
def zqcr : zqcp := hid zqcq
theorem zqcs : SpecOkB Tryz.prog 92 (sg [v24y, v23y] l51y [v18y] l51y zqcr) := Q1o mixed (X := ⟨look tab, gam [zq5c, zq5d, zqa5, zqa9, zqad], false, false, false, false, q68y, none, 0, []⟩) Qa [zq5c, zq5d, zqa5, zqa9, zqad] rfl [] [.tmp 4] Tryz.func92 (by kernel_rfl) fun _ _ => by kernel_rfl
noncomputable def zqct : En := .hand zqcs rfl (by kernel_rfl)
abbrev zqcu := {β : Type} → t7y → t4y → t3y → t2y → t1y → (Int → t4y → t3y → t2y → t1y → Option β) → Option β
def zqcv : zqcu := fun l b1_ b2_ b3_ b4_ k =>
 zqag l (fun rwindow rwindow2 =>
 cond (decide ((List.length b2_ : Int) = (0 : Int)))
 (cond (decide (rwindow2 = (0 : Int)))
 (k (9 : Int) b1_ b2_ b3_ b4_)
 (cond (!decide (rwindow2 = (0 : Int)))
 (k rwindow2 b1_ b2_ b3_ b4_)
 (none)))
 (let i_ := (IntKind.i64.wrap ((List.length b2_ : Int) - (1 : Int)));
 cond (decide (0 ≤ i_) && decide (i_ < (List.length b2_ : Int)))
 (cond (decide (rwindow2 = (0 : Int)))
 (let e := List.getD b2_ (Int.toNat i_) (([] : List UInt8), ((0 : Int), (([] : List t6y), ((0 : Int), ((0 : Int), false)))));
 let l2 := ([rwindow] : List t6y);
 let l3 := (((List.getD b2_ (Int.toNat i_) (([] : List UInt8), ((0 : Int), (([] : List t6y), ((0 : Int), ((0 : Int), false)))))).2).2).1;
 cond (true && decide ((List.length l3 + List.length l2) * 16 ≤ Q4))
 (let l4 := (l3 ++ l2);
 let e2 := List.getD b2_ (Int.toNat i_) (([] : List UInt8), ((0 : Int), (([] : List t6y), ((0 : Int), ((0 : Int), false)))));
 let l5 := List.set b2_ (Int.toNat i_) (e2.1, (e2.2.1, (l4, e2.2.2.2)));
 cond (decide ((Int.toNat i_) = (Int.toNat i_)) && (true && true))
 (k (0 : Int) b1_ l5 b3_ b4_)
 none)
 none)
 (cond (!decide (rwindow2 = (0 : Int)))
 (k rwindow2 b1_ b2_ b3_ b4_)
 (let e := List.getD b2_ (Int.toNat i_) (([] : List UInt8), ((0 : Int), (([] : List t6y), ((0 : Int), ((0 : Int), false)))));
 let l2 := ([rwindow] : List t6y);
 let l3 := (((List.getD b2_ (Int.toNat i_) (([] : List UInt8), ((0 : Int), (([] : List t6y), ((0 : Int), ((0 : Int), false)))))).2).2).1;
 cond (true && decide ((List.length l3 + List.length l2) * 16 ≤ Q4))
 (let l4 := (l3 ++ l2);
 let e2 := List.getD b2_ (Int.toNat i_) (([] : List UInt8), ((0 : Int), (([] : List t6y), ((0 : Int), ((0 : Int), false)))));
 let l5 := List.set b2_ (Int.toNat i_) (e2.1, (e2.2.1, (l4, e2.2.2.2)));
 cond (decide ((Int.toNat i_) = (Int.toNat i_)) && (true && true))
 (k (0 : Int) b1_ l5 b3_ b4_)
 none)
 none)))
 none))
def zqcw : zqcu := hid zqcv
theorem zqcx : SpecOkB Tryz.prog 94 (sg [v24y, v23y] l51y [v18y] l51y zqcw) := Q1o mixed (X := ⟨look tab, gam [zq63, zq64, zqah], false, false, false, false, q68y, none, 0, []⟩) Qa [zq63, zq64, zqah] rfl [] [.tmp 4] Tryz.func94 (by kernel_rfl) fun _ _ => by kernel_rfl
noncomputable def zqcy : En := .hand zqcx rfl (by kernel_rfl)
abbrev zqcz := {β : Type} → t7y → t4y → t3y → t2y → t1y → (Int → t4y → t3y → t2y → t1y → Option β) → Option β
def zqd0 : zqcz := fun l b1_ b2_ b3_ b4_ k =>
 zqag l (fun rwindow rwindow2 =>
 cond (decide ((List.length b4_ : Int) = (0 : Int)))
 (cond (decide (rwindow2 = (0 : Int)))
 (k (9 : Int) b1_ b2_ b3_ b4_)
 (cond (!decide (rwindow2 = (0 : Int)))
 (k rwindow2 b1_ b2_ b3_ b4_)
 (none)))
 (let i_ := (IntKind.i64.wrap ((List.length b4_ : Int) - (1 : Int)));
 cond (decide (0 ≤ i_) && decide (i_ < (List.length b4_ : Int)))
 (let e := List.getD b4_ (Int.toNat i_) (([] : List UInt8), (([] : List zq2), ([] : List t0y)));
 let l2 := ((List.getD b4_ (Int.toNat i_) (([] : List UInt8), (([] : List zq2), ([] : List t0y)))).2).1;
 cond (decide ((List.length l2 : Int) = (0 : Int)))
 (cond (decide (rwindow2 = (0 : Int)))
 (k (9 : Int) b1_ b2_ b3_ b4_)
 (cond (!decide (rwindow2 = (0 : Int)))
 (k rwindow2 b1_ b2_ b3_ b4_)
 (none)))
 (let l3 := ((List.getD b4_ (Int.toNat i_) (([] : List UInt8), (([] : List zq2), ([] : List t0y)))).2).1;
 let l4 := ((List.getD b4_ (Int.toNat i_) (([] : List UInt8), (([] : List zq2), ([] : List t0y)))).2).1;
 let i_2 := (IntKind.i64.wrap ((List.length l3 : Int) - (1 : Int)));
 cond (decide (0 ≤ i_2) && decide (i_2 < (List.length l4 : Int)))
 (let j := Int.toNat i_2;
 cond (decide (rwindow2 = (0 : Int)))
 (let l5 := ((List.getD b4_ (Int.toNat i_) (([] : List UInt8), (([] : List zq2), ([] : List t0y)))).2).1;
 let e2 := List.getD l5 j zqq;
 let l6 := ([rwindow] : List t6y);
 let l7 := (((((((List.getD (((List.getD b4_ (Int.toNat i_) (([] : List UInt8), (([] : List zq2), ([] : List t0y)))).2).1) j zqq).2).2).2).2).2).2).1;
 cond (true && decide ((List.length l7 + List.length l6) * 16 ≤ Q4))
 (let l8 := (l7 ++ l6);
 let e3 := List.getD b4_ (Int.toNat i_) (([] : List UInt8), (([] : List zq2), ([] : List t0y)));
 let e4 := List.getD e3.2.1 j zqq;
 let l9 := List.set e3.2.1 j (e4.1, (e4.2.1, (e4.2.2.1, (e4.2.2.2.1, (e4.2.2.2.2.1, (e4.2.2.2.2.2.1, (l8, e4.2.2.2.2.2.2.2)))))));
 let l10 := List.set b4_ (Int.toNat i_) (e3.1, (l9, e3.2.2));
 cond (decide ((Int.toNat i_) = (Int.toNat i_)) && (true && (decide (j = j) && (true && true))))
 (k (0 : Int) b1_ b2_ b3_ l10)
 none)
 none)
 (cond (!decide (rwindow2 = (0 : Int)))
 (k rwindow2 b1_ b2_ b3_ b4_)
 (let l5 := ((List.getD b4_ (Int.toNat i_) (([] : List UInt8), (([] : List zq2), ([] : List t0y)))).2).1;
 let e2 := List.getD l5 j zqq;
 let l6 := ([rwindow] : List t6y);
 let l7 := (((((((List.getD (((List.getD b4_ (Int.toNat i_) (([] : List UInt8), (([] : List zq2), ([] : List t0y)))).2).1) j zqq).2).2).2).2).2).2).1;
 cond (true && decide ((List.length l7 + List.length l6) * 16 ≤ Q4))
 (let l8 := (l7 ++ l6);
 let e3 := List.getD b4_ (Int.toNat i_) (([] : List UInt8), (([] : List zq2), ([] : List t0y)));
 let e4 := List.getD e3.2.1 j zqq;
 let l9 := List.set e3.2.1 j (e4.1, (e4.2.1, (e4.2.2.1, (e4.2.2.2.1, (e4.2.2.2.2.1, (e4.2.2.2.2.2.1, (l8, e4.2.2.2.2.2.2.2)))))));
 let l10 := List.set b4_ (Int.toNat i_) (e3.1, (l9, e3.2.2));
 cond (decide ((Int.toNat i_) = (Int.toNat i_)) && (true && (decide (j = j) && (true && true))))
 (k (0 : Int) b1_ b2_ b3_ l10)
 none)
 none)))
 none))
 none))
def zqd1 : zqcz := hid zqd0
theorem zqd2 : SpecOkB Tryz.prog 100 (sg [v24y, v23y] l51y [v18y] l51y zqd1) := Q1o mixed (X := ⟨look tab, gam [zq6n, zq6o, zqah], false, false, false, false, q68y, none, 0, []⟩) Qa [zq6n, zq6o, zqah] rfl [] [.tmp 4] Tryz.func100 (by kernel_rfl) fun _ _ => by kernel_rfl
noncomputable def zqd3 : En := .hand zqd2 rfl (by kernel_rfl)
abbrev zqd4 := {β : Type} → Int → Int → Int → Int → (Int → Int → Option β) → Option β
def zqd5 : zqd4 := fun year month week weekday k =>
 zqay (year, (month, (1 : Int))) (fun rValid =>
 cond (!rValid)
 (k (0 : Int) (1 : Int))
 (cond (decide (week < (1 : Int)))
 (k (0 : Int) (1 : Int))
 (cond (decide ((5 : Int) < week))
 (k (0 : Int) (1 : Int))
 (cond (decide (weekday < (0 : Int)))
 (k (0 : Int) (1 : Int))
 (cond (decide ((6 : Int) < weekday))
 (k (0 : Int) (1 : Int))
 (zqbb (year, (month, (1 : Int))) (fun rnumber =>
 zq7z rnumber (fun rWeekday =>
 let day := (IntKind.i64.wrap ((IntKind.i64.wrap (rnumber + (Int.tmod (IntKind.i64.wrap ((IntKind.i64.wrap (weekday - rWeekday)) + (7 : Int))) (7 : Int)))) + (IntKind.i64.wrap ((7 : Int) * (IntKind.i64.wrap (week - (1 : Int)))))));
 zqa0 year month (fun rDays =>
 cond (decide ((IntKind.i64.wrap (rnumber + rDays)) ≤ day))
 (let day2 := (IntKind.i64.wrap (day - (7 : Int)));
 k day2 (0 : Int))
 (k day (0 : Int)))))))))))
def zqd6 : zqd4 := hid zqd5
noncomputable def zqd7 : En := ⟨137, .spec (sg [v18y, v18y, v18y, v18y] [] [v18y, v18y] [] zqd6), pf [zqa1, zqaz, zq80, zqbc] [] [.tmp 8, .tmp 9] Tryz.func137 (by kernel_rfl) fun _ _ => by kernel_rfl⟩
abbrev zqd8 := {β : Type} → t5y → (Int → Bool → Option β) → Option β
def zqd9 : zqd8 := fun s k =>
 cond (!decide ((List.length s : Int) = (10 : Int)))
 (k (0 : Int) false)
 (cond (decide (0 ≤ (4 : Int)) && decide ((4 : Int) < (List.length s : Int)))
 (cond (!decide (((List.getD s (Int.toNat (4 : Int)) 0).toNat : Int) = (45 : Int)))
 (k (0 : Int) false)
 (cond (decide (0 ≤ (7 : Int)) && decide ((7 : Int) < (List.length s : Int)))
 (cond (!decide (((List.getD s (Int.toNat (7 : Int)) 0).toNat : Int) = (45 : Int)))
 (k (0 : Int) false)
 (cond (decide (0 ≤ (0 : Int)) && (decide ((0 : Int) ≤ (4 : Int)) && decide ((4 : Int) ≤ (List.length s : Int))))
 (zqau (List.drop (Int.toNat (0 : Int)) (List.take (Int.toNat (4 : Int)) s)) (fun rnumber rnumber2 =>
 cond (decide (0 ≤ (5 : Int)) && (decide ((5 : Int) ≤ (7 : Int)) && decide ((7 : Int) ≤ (List.length s : Int))))
 (zqbf (List.drop (Int.toNat (5 : Int)) (List.take (Int.toNat (7 : Int)) s)) (fun rtwo rtwo2 =>
 cond (decide (0 ≤ (8 : Int)) && (decide ((8 : Int) ≤ (List.length s : Int)) && decide ((List.length s : Int) ≤ (List.length s : Int))))
 (zqbf (List.drop (Int.toNat (8 : Int)) (List.take (Int.toNat (List.length s : Int)) s)) (fun rtwo3 rtwo4 =>
 zqbj (rnumber, (rtwo, rtwo3)) (fun rDay rDay2 =>
 cond rnumber2
 (cond rtwo2
 (cond rtwo4
 (let t := (decide (rDay2 = (0 : Int)));
 k rDay t)
 (k rDay false))
 (k rDay false))
 (k rDay false))))
 none))
 none))
 none))
 none))
 none)
def zqda : zqd8 := hid zqd9
noncomputable def zqdb : En := ⟨150, .spec (sg [v25y] [] [v18y, v20y] [] zqda), pf [zqbk, zqav, zqbg] [] [.tmp 2, .tmp 3] Tryz.func150 (by kernel_rfl) fun _ _ => by kernel_rfl⟩
abbrev zqdc := {β : Type} → t5y → (Int → Bool → Option β) → Option β
noncomputable def zqdd : List En := [zqbg, zq3v]
abbrev zqde (β : Type) := Int → Bool → Option β
abbrev zqdf (β : Type) := Int → Option β
abbrev zqdg (β : Type) := Int → Int → Int → (List t5y) → Option β
noncomputable def zqdh : Pc := ⟨53, 0, Q8 250 (Q3 Tryz.f151), ⟨0, [5, 23, 24, 25], [v18y, v27y, v18y, v18y], [.row 9 .str]⟩, [(.ret, ⟨0, [2, 3], [v18y, v20y], []⟩), (.exit 0, ⟨0, [5], [v18y], []⟩)]⟩
def zqdi {β : Type} (rec : zqdg β) (k1 : zqde β) (k2 : zqdf β) : zqdg β := fun n t24 t25 t23 =>
 cond (decide (t25 < t24))
 (cond (decide (0 ≤ t25) && decide (t25 < (List.length t23 : Int)))
 (let x := (List.getD t23 (Int.toNat t25) ([] : List UInt8));
 zqbf x (fun rtwo rtwo2 =>
 cond (!rtwo2)
 (k1 (0 : Int) false)
 (cond (decide ((0 : Int) < t25))
 (cond (decide ((59 : Int) < rtwo))
 (k1 (0 : Int) false)
 (let n2 := (IntKind.i64.wrap ((IntKind.i64.wrap ((60 : Int) * n)) + rtwo));
 rec n2 t24 (IntKind.i64.wrap (t25 + (1 : Int))) t23))
 (let n2 := (IntKind.i64.wrap ((IntKind.i64.wrap ((60 : Int) * n)) + rtwo));
 rec n2 t24 (IntKind.i64.wrap (t25 + (1 : Int))) t23))))
 none)
 (k2 n)
def zqdj (m : Nat) {β : Type} (k1 : zqde β) (k2 : zqdf β) : zqdg β := lp4 (fun r => zqdi r k1 k2) none m
theorem zqdk {β : Type} (i : Nat) (k1 k2) : zqdj (β := β) (i + 1) k1 k2 = zqdi (zqdj i k1 k2) k1 k2 := rfl
def zqdl {β : Type} := hid (zqdj (β := β) fuel)
noncomputable def zqdm : Pb := ⟨250, zqdh, fun _ => zqdl, Q3f mixed (X := ⟨look tab, gam zqdd, false, true, false, false, [], none, 0, []⟩) (p := zqdh) Qa zqdd rfl [] (g := fun i _ => zqdj i) (by kernel_rfl) rfl (by kernel_rfl) (fun _ _ => rfl) fun _ _ _ _ => by kernel_rfl⟩
def zqdn : zqdc := fun s k =>
 zq3t s ([58] : List UInt8) (fun lrSplit =>
 cond (decide ((List.length lrSplit : Int) < (2 : Int)))
 (k (0 : Int) false)
 (cond (decide ((3 : Int) < (List.length lrSplit : Int)))
 (k (0 : Int) false)
 (let l := ([([48, 48] : List UInt8)] : List t5y);
 cond (decide ((List.length lrSplit + List.length l) * 16 ≤ Q4))
 (let l2 := (lrSplit ++ l);
 cond (decide (0 ≤ (3 : Int)) && decide ((3 : Int) ≤ (List.length l2 : Int)))
 (let l3 := (List.take (Int.toNat (3 : Int)) l2);
 zqdl (fun t2 t3 =>
 k t2 t3) (fun n =>
 let t := (decide (n ≤ (86400 : Int)));
 k n t) (0 : Int) (List.length l3 : Int) (0 : Int) l3)
 none)
 none)))
def zqdo : zqdc := hid zqdn
noncomputable def zqdp : En := ⟨151, .spec (sg [v25y] [] [v18y, v20y] [] zqdo), Q61 mixed (X := ⟨look tab, gam zqdd, false, true, false, false, [], none, 0, []⟩) Qa zqdd rfl [zqdm] [.tmp 2, .tmp 3] Tryz.func151 (by kernel_rfl) fun _ _ => by kernel_rfl⟩
abbrev zqdq := {β : Type} → zqg → t5y → (Int → Bool → Option β) → Option β
def zqdr : zqdq := fun c name k =>
 zq26 c.2.1 name (fun rPerson mrPerson =>
 let t := (if rPerson > (0 : Int) then rPerson else (0 : Int));
 let t2 := (decide ((0 : Int) ≤ rPerson));
 k t t2)
def zqds : zqdq := hid zqdr
noncomputable def zqdt : En := ⟨16, .spec (sg [v31y, v25y] [] [v18y, v20y] [] zqds), pf [zq28] [] [.tmp 4, .tmp 5] Tryz.func16 (by kernel_rfl) fun _ _ => by kernel_rfl⟩
abbrev zqdu := {β : Type} → zqg → t5y → (Int → Bool → Option β) → Option β
def zqdv : zqdu := fun c name k =>
 zq2q c.2.2.2 name (fun rSchedule mrSchedule =>
 let t := (if rSchedule > (0 : Int) then rSchedule else (0 : Int));
 let t2 := (decide ((0 : Int) ≤ rSchedule));
 k t t2)
def zqdw : zqdu := hid zqdv
noncomputable def zqdx : En := ⟨17, .spec (sg [v31y, v25y] [] [v18y, v20y] [] zqdw), pf [zq2s] [] [.tmp 4, .tmp 5] Tryz.func17 (by kernel_rfl) fun _ _ => by kernel_rfl⟩
abbrev zqdy := {β : Type} → Int → (Bool → Option β) → Option β
def zqdz : zqdy := fun n k =>
 zqcj n (fun rDateOf rDateOf2 =>
 let t := (decide (rDateOf2 = (0 : Int)));
 k t)
def zqe0 : zqdy := hid zqdz
noncomputable def zqe1 : En := ⟨57, .spec (sg [v18y] [] [v20y] [] zqe0), pf [zqck] [] [.tmp 2] Tryz.func57 (by kernel_rfl) fun _ _ => by kernel_rfl⟩
abbrev zqe2 := {β : Type} → zqg → t0y → (Int → Option β) → Option β
noncomputable def zqe3 : List En := [zqe1, zq48, zq30]
abbrev zqe4 (β : Type) := Int → Option β
abbrev zqe5 (β : Type) := Unit → Option β
abbrev zqe6 (β : Type) := Bool → t0y → Option β
noncomputable def zqe7 : Pc := ⟨83, 0, Q8 14847 (Q3 Tryz.f62), ⟨0, [3, 61], [v24y, v20y], [b21y]⟩, [(.ret, ⟨0, [4], [v18y], []⟩), (.normal, ⟨0, [], [], []⟩)]⟩
abbrev zqe8 (β : Type) := Int → Option β
abbrev zqe9 (β : Type) := Unit → Option β
abbrev zqea (β : Type) := Bool → t0y → Option β
noncomputable def zqeb : Pc := ⟨83, 0, Q8 3711 (Q3 Tryz.f62), ⟨0, [3, 50], [v24y, v20y], [b21y]⟩, [(.ret, ⟨0, [4], [v18y], []⟩), (.normal, ⟨0, [], [], []⟩)]⟩
abbrev zqec (β : Type) := Int → Option β
abbrev zqed (β : Type) := Unit → Option β
abbrev zqee (β : Type) := Bool → t0y → Option β
noncomputable def zqef : Pc := ⟨83, 0, Q8 927 (Q3 Tryz.f62), ⟨0, [3, 41], [v24y, v20y], [b21y]⟩, [(.ret, ⟨0, [4], [v18y], []⟩), (.normal, ⟨0, [], [], []⟩)]⟩
abbrev zqeg (β : Type) := Int → Option β
abbrev zqeh (β : Type) := Unit → Option β
abbrev zqei (β : Type) := Bool → t0y → Option β
noncomputable def zqej : Pc := ⟨83, 0, Q8 231 (Q3 Tryz.f62), ⟨0, [3, 14], [v24y, v20y], [b21y]⟩, [(.ret, ⟨0, [4], [v18y], []⟩), (.normal, ⟨0, [], [], []⟩)]⟩
abbrev zqek (β : Type) := Bool → t0y → Option β
abbrev zqel (β : Type) := Int → Bool → t0y → Option β
noncomputable def zqem : Pc := ⟨83, 0, Q8 461 (Q3 Tryz.f62), ⟨0, [3, 5, 14], [v24y, v18y, v20y], [b21y]⟩, [(.normal, ⟨0, [3, 14], [v24y, v20y], [b21y]⟩)]⟩
def zqen {β : Type} (k1 : zqe4 β) (k2 : zqe5 β) : zqe6 β := fun t61 x =>
 cond t61
 (k1 (1 : Int))
 (let t := (decide (x.2.2.2.2 ≤ x.2.2.2.1));
 cond t
 (k1 (6 : Int))
 (k2 ()))
def zqeo {β : Type} := hid (zqen (β := β))
noncomputable def zqep : Pb := ⟨14847, zqe7, fun _ => zqeo, pe (p := zqe7) zqe3 [] 14847 (g := fun _ => zqen) (by kernel_rfl) fun _ _ => by kernel_rfl⟩
def zqeq {β : Type} (k1 : zqe8 β) (k2 : zqe9 β) : zqea β := fun t50 x =>
 cond t50
 (k1 (4 : Int))
 (cond (decide (x.2.2.2.1 < (0 : Int)))
 (zqeo (fun t4 =>
 k1 t4) (fun _ =>
 k2 ()) true x)
 (cond (decide (x.2.2.2.2 < (0 : Int)))
 (zqeo (fun t4 =>
 k1 t4) (fun _ =>
 k2 ()) true x)
 (zqe0 (IntKind.i64.wrap (Int.tdiv x.2.2.2.2 (86400 : Int))) (fun rday =>
 zqeo (fun t4 =>
 k1 t4) (fun _ =>
 k2 ()) (!rday) x))))
def zqer {β : Type} := hid (zqeq (β := β))
noncomputable def zqes : Pb := ⟨3711, zqeb, fun _ => zqer, pe (p := zqeb) zqe3 [zqep] 3711 (g := fun _ => zqeq) (by kernel_rfl) fun _ _ => by kernel_rfl⟩
def zqet {β : Type} (k1 : zqec β) (k2 : zqed β) : zqee β := fun t41 x =>
 cond t41
 (k1 (1 : Int))
 (cond (decide (x.1 = (2 : Int)))
 (let t := (decide (x.2.1 = x.2.2.1));
 zqer (fun t4 =>
 k1 t4) (fun _ =>
 k2 ()) t x)
 (zqer (fun t4 =>
 k1 t4) (fun _ =>
 k2 ()) false x))
def zqeu {β : Type} := hid (zqet (β := β))
noncomputable def zqev : Pb := ⟨927, zqef, fun _ => zqeu, pe (p := zqef) zqe3 [zqes] 927 (g := fun _ => zqet) (by kernel_rfl) fun _ _ => by kernel_rfl⟩
def zqew {β : Type} (k1 : zqeg β) (k2 : zqeh β) : zqei β := fun t14 x =>
 cond t14
 (k1 (3 : Int))
 (cond (!decide (x.1 = (2 : Int)))
 (let t := (!decide (x.2.2.1 = (0 : Int)));
 zqeu (fun t4 =>
 k1 t4) (fun _ =>
 k2 ()) t x)
 (zqeu (fun t4 =>
 k1 t4) (fun _ =>
 k2 ()) false x))
def zqex {β : Type} := hid (zqew (β := β))
noncomputable def zqey : Pb := ⟨231, zqej, fun _ => zqex, pe (p := zqej) zqe3 [zqev] 231 (g := fun _ => zqew) (by kernel_rfl) fun _ _ => by kernel_rfl⟩
def zqez {β : Type} (k1 : zqek β) : zqel β := fun people t14 x =>
 cond t14
 (k1 t14 x)
 (cond (decide (x.1 = (2 : Int)))
 (zq2z x.2.2.1 people (fun rindex =>
 k1 (!rindex) x))
 (k1 false x))
def zqf0 {β : Type} := hid (zqez (β := β))
noncomputable def zqf1 : Pb := ⟨461, zqem, fun _ => zqf0, pe (p := zqem) zqe3 [] 461 (g := fun _ => zqez) (by kernel_rfl) fun _ _ => by kernel_rfl⟩
def zqf2 : zqe2 := fun c x k =>
 zq47 x.1 (0 : Int) (2 : Int) (fun rin =>
 cond (!rin)
 (k (1 : Int))
 (zq2z x.2.1 (List.length c.2.1 : Int) (fun rindex =>
 cond (!rindex)
 (cond (decide (x.1 = (1 : Int)))
 (let t := (!(decide (x.2.1 = (-1 : Int))));
 zqf0 (fun t14 x2 =>
 zqex (fun t4 =>
 k t4) (fun _ =>
 k (0 : Int)) t14 x2) (List.length c.2.1 : Int) t x)
 (zqf0 (fun t14 x2 =>
 zqex (fun t4 =>
 k t4) (fun _ =>
 k (0 : Int)) t14 x2) (List.length c.2.1 : Int) true x))
 (zqf0 (fun t14 x2 =>
 zqex (fun t4 =>
 k t4) (fun _ =>
 k (0 : Int)) t14 x2) (List.length c.2.1 : Int) false x))))
def zqf3 : zqe2 := hid zqf2
noncomputable def zqf4 : En := ⟨62, .spec (sg [v31y, (true, [.data (.prod (.int .i64) (.prod (.int .i64) (.prod (.int .i64) (.prod (.int .i64) (.int .i64)))))])] [] [v18y] [] zqf3), pf zqe3 [zqey, zqf1] [.tmp 4] Tryz.func62 (by kernel_rfl) fun _ _ => by kernel_rfl⟩
abbrev zqf5 := {β : Type} → t7y → (Bool → Option β) → Option β
noncomputable def zqf6 : List En := [zqco, zq92]
abbrev zqf7 (β : Type) := Bool → Option β
abbrev zqf8 (β : Type) := Unit → Option β
abbrev zqf9 (β : Type) := t7y → Int → Int → zqc → Option β
noncomputable def zqfa : Pc := ⟨80, 0, Q8 1018 (Q3 Tryz.f65), ⟨0, [3, 59, 60, 61], [v24y, v23y, v18y, v18y], [.cells 156 [.data zqd]]⟩, [(.ret, ⟨0, [2], [v20y], []⟩), (.exit 0, ⟨0, [], [], []⟩)]⟩
abbrev zqfb (β : Type) := Bool → Option β
abbrev zqfc (β : Type) := t7y → zqc → Option β
noncomputable def zqfd : Pc := ⟨80, 0, Q8 127 (Q3 Tryz.f65), ⟨0, [0, 3], [v23y, v24y], [.cells 156 [.data zqd]]⟩, [(.ret, ⟨0, [2], [v20y], []⟩)]⟩
abbrev zqfe (β : Type) := Bool → Option β
abbrev zqff (β : Type) := t7y → zqc → Option β
noncomputable def zqfg : Pc := ⟨80, 0, Q8 63 (Q3 Tryz.f65), ⟨0, [0, 3], [v23y, v24y], [.cells 156 [.data zqd]]⟩, [(.ret, ⟨0, [2], [v20y], []⟩)]⟩
def zqfh {β : Type} (rec : zqf9 β) (k1 : zqf7 β) (k2 : zqf8 β) : zqf9 β := fun t59 t60 t61 f =>
 cond (decide (t61 < t60))
 (cond (decide (0 ≤ t61) && decide (t61 < (List.length t59 : Int)))
 (let e := List.getD t59 (Int.toNat t61) ((0 : Int), (([] : List UInt8), (0 : Int)));
 cond (decide (0 ≤ (if (IntKind.i64.wrap ((List.length f.2.1 : Int) - (1 : Int))) < t61 then (IntKind.i64.wrap ((List.length f.2.1 : Int) - (1 : Int))) else t61)) && decide ((if (IntKind.i64.wrap ((List.length f.2.1 : Int) - (1 : Int))) < t61 then (IntKind.i64.wrap ((List.length f.2.1 : Int) - (1 : Int))) else t61) < (List.length f.2.1 : Int)))
 (let e2 := List.getD f.2.1 (Int.toNat (if (IntKind.i64.wrap ((List.length f.2.1 : Int) - (1 : Int))) < t61 then (IntKind.i64.wrap ((List.length f.2.1 : Int) - (1 : Int))) else t61)) (0 : Int);
 cond (!decide (e.1 = e2))
 (k1 false)
 (rec t59 t60 (IntKind.i64.wrap (t61 + (1 : Int))) f))
 none)
 none)
 (k2 ())
def zqfi (m : Nat) {β : Type} (k1 : zqf7 β) (k2 : zqf8 β) : zqf9 β := lp4 (fun r => zqfh r k1 k2) none m
theorem zqfj {β : Type} (i : Nat) (k1 k2) : zqfi (β := β) (i + 1) k1 k2 = zqfh (zqfi i k1 k2) k1 k2 := rfl
def zqfk {β : Type} := hid (zqfi (β := β) fuel)
noncomputable def zqfl : Pb := ⟨1018, zqfa, fun _ => zqfk, pl (p := zqfa) zqf6 [] (g := fun i _ => zqfi i) (by kernel_rfl) rfl (by kernel_rfl) (fun _ _ => rfl) fun _ _ _ _ => by kernel_rfl⟩
def zqfm {β : Type} (k1 : zqfb β) : zqfc β := fun l f =>
 cond (decide (0 ≤ (1 : Int)) && (decide ((1 : Int) ≤ (List.length l : Int)) && decide ((List.length l : Int) ≤ (List.length l : Int))))
 (zqfk (fun t2 =>
 k1 t2) (fun _ =>
 k1 true) (List.drop (Int.toNat (1 : Int)) (List.take (Int.toNat (List.length l : Int)) l)) (List.length (List.drop (Int.toNat (1 : Int)) (List.take (Int.toNat (List.length l : Int)) l)) : Int) (0 : Int) f)
 none
def zqfn {β : Type} := hid (zqfm (β := β))
noncomputable def zqfo : Pb := ⟨127, zqfd, fun _ => zqfn, pe (p := zqfd) zqf6 [zqfl] 127 (g := fun _ => zqfm) (by kernel_rfl) fun _ _ => by kernel_rfl⟩
def zqfp {β : Type} (k1 : zqfe β) : zqff β := fun l f =>
 cond (decide ((IntKind.i64.wrap ((List.length l : Int) - (1 : Int))) < (List.length f.2.1 : Int)))
 (k1 false)
 (cond (decide ((List.length f.2.1 : Int) < (IntKind.i64.wrap ((List.length l : Int) - (1 : Int)))))
 (cond (!f.2.2)
 (k1 false)
 (zqfn (fun t2 =>
 k1 t2) l f))
 (zqfn (fun t2 =>
 k1 t2) l f))
def zqfq {β : Type} := hid (zqfp (β := β))
noncomputable def zqfr : Pb := ⟨63, zqfg, fun _ => zqfq, pe (p := zqfg) zqf6 [zqfo] 63 (g := fun _ => zqfp) (by kernel_rfl) fun _ _ => by kernel_rfl⟩
def zqfs : zqf5 := fun l k =>
 cond (decide ((List.length l : Int) = (0 : Int)))
 (k false)
 (cond (decide (0 ≤ (0 : Int)) && decide ((0 : Int) < (List.length l : Int)))
 (let e := List.getD l (Int.toNat (0 : Int)) ((0 : Int), (([] : List UInt8), (0 : Int)));
 cond (!decide (e.1 = (0 : Int)))
 (k false)
 (cond (decide (0 ≤ (0 : Int)) && decide ((0 : Int) < (List.length l : Int)))
 (let e2 := List.getD l (Int.toNat (0 : Int)) ((0 : Int), (([] : List UInt8), (0 : Int)));
 zqcn e2.2.1 (fun rforms rforms2 =>
 cond (!rforms2)
 (k false)
 (cond (decide (rforms.1 = ([112, 101, 114, 115, 111, 110] : List UInt8)))
 (zq91 l (fun roptions roptions2 =>
 cond (!roptions2)
 (k false)
 (zqfq (fun t2 =>
 k t2) roptions rforms)))
 (zqfq (fun t2 =>
 k t2) l rforms))))
 none))
 none)
def zqft : zqf5 := hid zqfs
noncomputable def zqfu : En := ⟨65, .spec (sg [v23y] [] [v20y] [] zqft), pf zqf6 [zqfr] [.tmp 2] Tryz.func65 (by kernel_rfl) fun _ _ => by kernel_rfl⟩
abbrev zqfv := {β : Type} → t7y → t4y → t3y → t2y → t1y → (Int → t4y → t3y → t2y → t1y → Option β) → Option β
noncomputable def zqfw : List En := [zq5y, zq62]
abbrev zqfx (β : Type) := Bool → t4y → t3y → t2y → t1y → t5y → Int → Int → Int → Bool → t10y → Option β
abbrev zqfy (β : Type) := t7y → Bool → Int → t4y → t3y → t2y → t1y → t5y → Int → Int → Int → Bool → t10y → Option β
noncomputable def zqfz : Pc := ⟨76, 5, Q8 122 (Q3 Tryz.f93), ⟨5, [0, 1, 6, 7, 8], [v24y, v23y, v20y, (false, [.ptr 5 0]), v18y], l58y⟩, [(.exit 0, ⟨5, [0, 6, 7], [v24y, v20y, (false, [.ptr 5 0])], l58y⟩)]⟩
def zqg0 {β : Type} (rec : zqfy β) (k1 : zqfx β) : zqfy β := fun l ok i_ b1_ b2_ b3_ b4_ p_ p_2 p_3 p_4 p_5 b6_ =>
 cond (decide (i_ < (List.length l : Int)))
 (cond (decide (0 ≤ i_) && decide (i_ < (List.length l : Int)))
 (let e := List.getD l (Int.toNat i_) ((0 : Int), (([] : List UInt8), (0 : Int)));
 let t := (decide (e.2.1 = ([119, 101, 101, 107] : List UInt8)));
 cond t
 (cond (decide (0 ≤ (IntKind.i64.wrap (i_ + (1 : Int)))) && decide ((IntKind.i64.wrap (i_ + (1 : Int))) < (List.length l : Int)))
 (let e2 := List.getD l (Int.toNat (IntKind.i64.wrap (i_ + (1 : Int)))) ((0 : Int), (([] : List UInt8), (0 : Int)));
 let i_2 := (IntKind.i64.wrap (i_ + (1 : Int)));
 rec l ok i_2 b1_ b2_ b3_ b4_ p_ p_2 (IntKind.i64.wrap ((3600 : Int) * e2.2.2)) p_4 p_5 b6_)
 none)
 (let t2 := (decide (e.2.1 = ([114, 101, 115, 116] : List UInt8)));
 cond t2
 (cond (decide (0 ≤ (IntKind.i64.wrap (i_ + (1 : Int)))) && decide ((IntKind.i64.wrap (i_ + (1 : Int))) < (List.length l : Int)))
 (let e2 := List.getD l (Int.toNat (IntKind.i64.wrap (i_ + (1 : Int)))) ((0 : Int), (([] : List UInt8), (0 : Int)));
 let i_2 := (IntKind.i64.wrap (i_ + (1 : Int)));
 rec l ok i_2 b1_ b2_ b3_ b4_ p_ p_2 p_3 (IntKind.i64.wrap ((3600 : Int) * e2.2.2)) p_5 b6_)
 none)
 (let t3 := (decide (e.2.1 = ([99, 111, 110, 115, 101, 110, 116] : List UInt8)));
 cond t3
 (let i_2 := (IntKind.i64.wrap (i_ + (1 : Int)));
 rec l ok i_2 b1_ b2_ b3_ b4_ p_ p_2 p_3 p_4 true b6_)
 (let i_2 := (IntKind.i64.wrap (i_ + (1 : Int)));
 rec l ok i_2 b1_ b2_ b3_ b4_ p_ p_2 p_3 p_4 p_5 b6_))))
 none)
 (k1 ok b1_ b2_ b3_ b4_ p_ p_2 p_3 p_4 p_5 b6_)
def zqg1 (m : Nat) {β : Type} (k1 : zqfx β) : zqfy β := lp13 (fun r => zqg0 r k1) none m
theorem zqg2 {β : Type} (i : Nat) (k1) : zqg1 (β := β) (i + 1) k1 = zqg0 (zqg1 i k1) k1 := rfl
def zqg3 {β : Type} := hid (zqg1 (β := β) fuel)
noncomputable def zqg4 : Pb := ⟨122, zqfz, fun _ => zqg3, Q3f mixed (X := ⟨look tab, gam zqfw, false, false, false, false, q68y, none, 0, []⟩) (p := zqfz) Qa zqfw rfl [] (g := fun i _ => zqg1 i) (by kernel_rfl) rfl (by kernel_rfl) (fun _ _ => rfl) fun _ _ _ _ => by kernel_rfl⟩
def zqg5 : zqfv := fun l b1_ b2_ b3_ b4_ k =>
 cond (decide (0 ≤ (2 : Int)) && decide ((2 : Int) < (List.length l : Int)))
 (let e := List.getD l (Int.toNat (2 : Int)) ((0 : Int), (([] : List UInt8), (0 : Int)));
 zq5v b1_ e.2.1 (fun rZone mrZone =>
 let t := (if rZone > (0 : Int) then rZone else (0 : Int));
 let t2 := (decide ((0 : Int) ≤ rZone));
 cond (decide (0 ≤ (1 : Int)) && decide ((1 : Int) < (List.length l : Int)))
 (let e2 := List.getD l (Int.toNat (1 : Int)) ((0 : Int), (([] : List UInt8), (0 : Int)));
 zqg3 (fun ok b1_2 b2_2 b3_2 b4_2 p_ p_2 p_3 p_4 p_5 b6_ =>
 zq61 ok (fun rfound =>
 cond (!decide (rfound = (0 : Int)))
 (k rfound b1_2 b2_2 b3_2 b4_2)
 (let l2 := ([(p_, (p_2, (b6_, (p_3, (p_4, p_5)))))] : List zqe);
 cond (true && decide ((List.length b2_2 + List.length l2) * 72 ≤ Q4))
 (let l3 := (b2_2 ++ l2);
 k (0 : Int) b1_2 l3 b3_2 b4_2)
 none))) l t2 (3 : Int) b1_ b2_ b3_ b4_ e2.2.1 t (0 : Int) (0 : Int) false ([] : List t6y))
 none))
 none
def zqg6 : zqfv := hid zqg5
theorem zqg7 : SpecOkB Tryz.prog 93 (sg [v24y, v23y] l51y [v18y] l51y zqg6) := Q1o mixed (X := ⟨look tab, gam zqfw, false, false, false, false, q68y, none, 0, []⟩) Qa zqfw rfl [zqg4] [.tmp 4] Tryz.func93 (by kernel_rfl) fun _ _ => by kernel_rfl
noncomputable def zqg8 : En := .hand zqg7 rfl (by kernel_rfl)
abbrev zqg9 := {β : Type} → t7y → t4y → t3y → t2y → t1y → (Int → t4y → t3y → t2y → t1y → Option β) → Option β
def zqga : zqg9 := fun l b1_ b2_ b3_ b4_ k =>
 cond (decide (0 ≤ (2 : Int)) && decide ((2 : Int) < (List.length l : Int)))
 (let e := List.getD l (Int.toNat (2 : Int)) ((0 : Int), (([] : List UInt8), (0 : Int)));
 zq5v b1_ e.2.1 (fun rZone mrZone =>
 let t := (if rZone > (0 : Int) then rZone else (0 : Int));
 let t2 := (decide ((0 : Int) ≤ rZone));
 zq61 t2 (fun rfound =>
 cond (!decide (rfound = (0 : Int)))
 (k rfound b1_ b2_ b3_ b4_)
 (cond (decide (0 ≤ (1 : Int)) && decide ((1 : Int) < (List.length l : Int)))
 (let e2 := List.getD l (Int.toNat (1 : Int)) ((0 : Int), (([] : List UInt8), (0 : Int)));
 let l2 := ([(e2.2.1, (t, ([] : List Int)))] : List zq0);
 cond (true && decide ((List.length b3_ + List.length l2) * 48 ≤ Q4))
 (let l3 := (b3_ ++ l2);
 k (0 : Int) b1_ b2_ l3 b4_)
 none)
 none))))
 none
def zqgb : zqg9 := hid zqga
theorem zqgc : SpecOkB Tryz.prog 95 (sg [v24y, v23y] l51y [v18y] l51y zqgb) := Q1o mixed (X := ⟨look tab, gam [zq5y, zq62], false, false, false, false, q68y, none, 0, []⟩) Qa [zq5y, zq62] rfl [] [.tmp 4] Tryz.func95 (by kernel_rfl) fun _ _ => by kernel_rfl
noncomputable def zqgd : En := .hand zqgc rfl (by kernel_rfl)
abbrev zqge := {β : Type} → t7y → t4y → t3y → t2y → t1y → (Int → t4y → t3y → t2y → t1y → Option β) → Option β
def zqgf : zqge := fun l b1_ b2_ b3_ b4_ k =>
 let l2 := ([([104, 111, 117, 114, 115] : List UInt8), ([100, 97, 121, 115] : List UInt8), ([119, 101, 101, 107, 115] : List UInt8)] : List t5y);
 cond (decide (0 ≤ (6 : Int)) && decide ((6 : Int) < (List.length l : Int)))
 (let e := List.getD l (Int.toNat (6 : Int)) ((0 : Int), (([] : List UInt8), (0 : Int)));
 zq6i l2 e.2.1 (fun rIndexstringstring =>
 cond (decide (rIndexstringstring < (0 : Int)))
 (k (2 : Int) b1_ b2_ b3_ b4_)
 (cond (decide ((List.length b4_ : Int) = (0 : Int)))
 (k (9 : Int) b1_ b2_ b3_ b4_)
 (let i_ := (IntKind.i64.wrap ((List.length b4_ : Int) - (1 : Int)));
 cond (decide (0 ≤ i_) && decide (i_ < (List.length b4_ : Int)))
 (cond (decide (0 ≤ (2 : Int)) && decide ((2 : Int) < (List.length l : Int)))
 (let e2 := List.getD l (Int.toNat (2 : Int)) ((0 : Int), (([] : List UInt8), (0 : Int)));
 zq5v b1_ e2.2.1 (fun rZone mrZone =>
 let t := (if rZone > (0 : Int) then rZone else (0 : Int));
 let t2 := (decide ((0 : Int) ≤ rZone));
 zq61 t2 (fun rfound =>
 cond (!decide (rfound = (0 : Int)))
 (k rfound b1_ b2_ b3_ b4_)
 (let e3 := List.getD b4_ (Int.toNat i_) (([] : List UInt8), (([] : List zq2), ([] : List t0y)));
 cond (decide (0 ≤ (1 : Int)) && decide ((1 : Int) < (List.length l : Int)))
 (let e4 := List.getD l (Int.toNat (1 : Int)) ((0 : Int), (([] : List UInt8), (0 : Int)));
 cond (decide (0 ≤ (3 : Int)) && decide ((3 : Int) < (List.length l : Int)))
 (let e5 := List.getD l (Int.toNat (3 : Int)) ((0 : Int), (([] : List UInt8), (0 : Int)));
 cond (decide (0 ≤ (4 : Int)) && decide ((4 : Int) < (List.length l : Int)))
 (let e6 := List.getD l (Int.toNat (4 : Int)) ((0 : Int), (([] : List UInt8), (0 : Int)));
 cond (decide (0 ≤ (5 : Int)) && decide ((5 : Int) < (List.length l : Int)))
 (let e7 := List.getD l (Int.toNat (5 : Int)) ((0 : Int), (([] : List UInt8), (0 : Int)));
 let l3 := ([(e4.2.1, (t, ((e5.2.2, e6.2.2), (rIndexstringstring, (e7.2.2, (([] : List Int), (([] : List t6y), ((0 : Int), (0 : Int)))))))))] : List zq2);
 let l4 := ((List.getD b4_ (Int.toNat i_) (([] : List UInt8), (([] : List zq2), ([] : List t0y)))).2).1;
 cond (true && decide ((List.length l4 + List.length l3) * 120 ≤ Q4))
 (let l5 := (l4 ++ l3);
 let e8 := List.getD b4_ (Int.toNat i_) (([] : List UInt8), (([] : List zq2), ([] : List t0y)));
 let l6 := List.set b4_ (Int.toNat i_) (e8.1, (l5, e8.2.2));
 cond (decide ((Int.toNat i_) = (Int.toNat i_)) && (true && true))
 (k (0 : Int) b1_ b2_ b3_ l6)
 none)
 none)
 none)
 none)
 none)
 none))))
 none)
 none))))
 none
def zqgg : zqge := hid zqgf
theorem zqgh : SpecOkB Tryz.prog 98 (sg [v24y, v23y] l51y [v18y] l51y zqgg) := Q1o mixed (X := ⟨look tab, gam [zq5y, zq62, zq6k, zq6l, zq6j], false, false, false, false, q68y, none, 0, []⟩) Qa [zq5y, zq62, zq6k, zq6l, zq6j] rfl [] [.tmp 4] Tryz.func98 (by kernel_rfl) fun _ _ => by kernel_rfl
noncomputable def zqgi : En := .hand zqgh rfl (by kernel_rfl)
abbrev zqgj := {β : Type} → t7y → t4y → t3y → t2y → t1y → (Int → t4y → t3y → t2y → t1y → Option β) → Option β
noncomputable def zqgk : List En := [zqdt, zq6n, zq62, zq6o]
abbrev zqgl (β : Type) := Int → t4y → t3y → t2y → t1y → Option β
abbrev zqgm (β : Type) := (Nat × Nat) → t4y → t3y → t2y → t1y → (List Int) → Option β
abbrev zqgn (β : Type) := (Nat × Nat) → t7y → Int → Int → t4y → t3y → t2y → t1y → (List Int) → Option β
noncomputable def zqgo : Pc := ⟨56, 5, Q8 250 (Q3 Tryz.f99), ⟨5, [0, 5, 7, 21, 22, 23], [v24y, (false, [.tptrh 4 [1] 0]), (false, [.rowh 5]), v23y, v18y, v18y], l65y⟩, [(.ret, ⟨5, [4], [v18y], l51y⟩), (.exit 0, ⟨5, [5, 7], [(false, [.tptrh 4 [1] 0]), (false, [.rowh 5])], l65y⟩)]⟩
def zqgp {β : Type} (rec : zqgn β) (k1 : zqgl β) (k2 : zqgm β) : zqgn β := fun x t21 t22 t23 b1_ b2_ b3_ b4_ all =>
 cond (decide (t23 < t22))
 (cond (decide (0 ≤ t23) && decide (t23 < (List.length t21 : Int)))
 (let e := List.getD t21 (Int.toNat t23) ((0 : Int), (([] : List UInt8), (0 : Int)));
 zqds (b1_, (b2_, (b3_, b4_))) e.2.1 (fun rPerson rPerson2 =>
 zq61 rPerson2 (fun rfound =>
 cond (!decide (rfound = (0 : Int)))
 (k1 rfound b1_ b2_ b3_ b4_)
 (let l := ([rPerson] : List Int);
 cond (decide ((List.length all + List.length l) * 8 ≤ Q4))
 (let l2 := (all ++ l);
 rec (x.1, x.2) t21 t22 (IntKind.i64.wrap (t23 + (1 : Int))) b1_ b2_ b3_ b4_ l2)
 none))))
 none)
 (k2 (x.1, x.2) b1_ b2_ b3_ b4_ all)
def zqgq (m : Nat) {β : Type} (k1 : zqgl β) (k2 : zqgm β) : zqgn β := lp9 (fun r => zqgp r k1 k2) none m
theorem zqgr {β : Type} (i : Nat) (k1 k2) : zqgq (β := β) (i + 1) k1 k2 = zqgp (zqgq i k1 k2) k1 k2 := rfl
def zqgs {β : Type} := hid (zqgq (β := β) fuel)
noncomputable def zqgt : Pb := ⟨250, zqgo, fun _ => zqgs, Q3f mixed (X := ⟨look tab, gam zqgk, false, false, false, false, q68y, none, 0, []⟩) (p := zqgo) Qa zqgk rfl [] (g := fun i _ => zqgq i) (by kernel_rfl) rfl (by kernel_rfl) (fun _ _ => rfl) fun _ _ _ _ => by kernel_rfl⟩
def zqgu : zqgj := fun l b1_ b2_ b3_ b4_ k =>
 cond (decide ((List.length b4_ : Int) = (0 : Int)))
 (k (9 : Int) b1_ b2_ b3_ b4_)
 (let i_ := (IntKind.i64.wrap ((List.length b4_ : Int) - (1 : Int)));
 cond (decide (0 ≤ i_) && decide (i_ < (List.length b4_ : Int)))
 (let e := List.getD b4_ (Int.toNat i_) (([] : List UInt8), (([] : List zq2), ([] : List t0y)));
 let l2 := ((List.getD b4_ (Int.toNat i_) (([] : List UInt8), (([] : List zq2), ([] : List t0y)))).2).1;
 cond (decide ((List.length l2 : Int) = (0 : Int)))
 (k (9 : Int) b1_ b2_ b3_ b4_)
 (let l3 := ((List.getD b4_ (Int.toNat i_) (([] : List UInt8), (([] : List zq2), ([] : List t0y)))).2).1;
 let l4 := ((List.getD b4_ (Int.toNat i_) (([] : List UInt8), (([] : List zq2), ([] : List t0y)))).2).1;
 let i_2 := (IntKind.i64.wrap ((List.length l3 : Int) - (1 : Int)));
 cond (decide (0 ≤ i_2) && decide (i_2 < (List.length l4 : Int)))
 (let j := Int.toNat i_2;
 cond (decide (0 ≤ (1 : Int)) && (decide ((1 : Int) ≤ (List.length l : Int)) && decide ((List.length l : Int) ≤ (List.length l : Int))))
 (zqgs (fun t4 b1_2 b2_2 b3_2 b4_2 =>
 k t4 b1_2 b2_2 b3_2 b4_2) (fun x b1_2 b2_2 b3_2 b4_2 all =>
 let l5 := ((List.getD b4_2 x.1 zqo).2).1;
 let e2 := List.getD l5 x.2 zqq;
 let l6 := ((((((List.getD (((List.getD b4_2 x.1 zqo).2).1) x.2 zqq).2).2).2).2).2).1;
 cond (true && decide ((List.length l6 + List.length all) * 8 ≤ Q4))
 (let l7 := (l6 ++ all);
 let e3 := List.getD b4_2 x.1 zqo;
 let e4 := List.getD e3.2.1 x.2 zqq;
 let l8 := List.set e3.2.1 x.2 (e4.1, (e4.2.1, (e4.2.2.1, (e4.2.2.2.1, (e4.2.2.2.2.1, (l7, e4.2.2.2.2.2.2))))));
 let l9 := List.set b4_2 x.1 (e3.1, (l8, e3.2.2));
 cond (decide (x.1 = x.1) && (true && (decide (x.2 = x.2) && (true && true))))
 (k (0 : Int) b1_2 b2_2 b3_2 l9)
 none)
 none) ((Int.toNat i_), j) (List.drop (Int.toNat (1 : Int)) (List.take (Int.toNat (List.length l : Int)) l)) (List.length (List.drop (Int.toNat (1 : Int)) (List.take (Int.toNat (List.length l : Int)) l)) : Int) (0 : Int) b1_ b2_ b3_ b4_ ([] : List Int))
 none)
 none))
 none)
def zqgv : zqgj := hid zqgu
theorem zqgw : SpecOkB Tryz.prog 99 (sg [v24y, v23y] l51y [v18y] l51y zqgv) := Q1o mixed (X := ⟨look tab, gam zqgk, false, false, false, false, q68y, none, 0, []⟩) Qa zqgk rfl [zqgt] [.tmp 4] Tryz.func99 (by kernel_rfl) fun _ _ => by kernel_rfl
noncomputable def zqgx : En := .hand zqgw rfl (by kernel_rfl)
abbrev zqgy := {β : Type} → t7y → t4y → t3y → t2y → t1y → (Int → t4y → t3y → t2y → t1y → Option β) → Option β
def zqgz : zqgy := fun l b1_ b2_ b3_ b4_ k =>
 cond (decide ((List.length b4_ : Int) = (0 : Int)))
 (k (9 : Int) b1_ b2_ b3_ b4_)
 (let i_ := (IntKind.i64.wrap ((List.length b4_ : Int) - (1 : Int)));
 cond (decide (0 ≤ i_) && decide (i_ < (List.length b4_ : Int)))
 (let e := List.getD b4_ (Int.toNat i_) (([] : List UInt8), (([] : List zq2), ([] : List t0y)));
 let l2 := ((List.getD b4_ (Int.toNat i_) (([] : List UInt8), (([] : List zq2), ([] : List t0y)))).2).1;
 cond (decide ((List.length l2 : Int) = (0 : Int)))
 (k (9 : Int) b1_ b2_ b3_ b4_)
 (let l3 := ((List.getD b4_ (Int.toNat i_) (([] : List UInt8), (([] : List zq2), ([] : List t0y)))).2).1;
 let l4 := ((List.getD b4_ (Int.toNat i_) (([] : List UInt8), (([] : List zq2), ([] : List t0y)))).2).1;
 let i_2 := (IntKind.i64.wrap ((List.length l3 : Int) - (1 : Int)));
 cond (decide (0 ≤ i_2) && decide (i_2 < (List.length l4 : Int)))
 (let j := Int.toNat i_2;
 let l5 := ((List.getD b4_ (Int.toNat i_) (([] : List UInt8), (([] : List zq2), ([] : List t0y)))).2).1;
 let e2 := List.getD l5 j zqq;
 cond (!decide (e2.2.2.2.2.2.2.2.2 = (0 : Int)))
 (k (9 : Int) b1_ b2_ b3_ b4_)
 (cond (decide (0 ≤ (1 : Int)) && decide ((1 : Int) < (List.length l : Int)))
 (let e3 := List.getD l (Int.toNat (1 : Int)) ((0 : Int), (([] : List UInt8), (0 : Int)));
 zq76 b3_ e3.2.1 (fun rCalendar mrCalendar =>
 let t := (if rCalendar > (0 : Int) then rCalendar else (0 : Int));
 let t2 := (decide ((0 : Int) ≤ rCalendar));
 zq61 t2 (fun rfound =>
 cond (!decide (rfound = (0 : Int)))
 (k rfound b1_ b2_ b3_ b4_)
 (let l6 := ((List.getD b4_ (Int.toNat i_) (([] : List UInt8), (([] : List zq2), ([] : List t0y)))).2).1;
 let e4 := List.getD l6 j zqq;
 let l7 := List.set l6 j (e4.1, (e4.2.1, (e4.2.2.1, (e4.2.2.2.1, (e4.2.2.2.2.1, (e4.2.2.2.2.2.1, (e4.2.2.2.2.2.2.1, (t, e4.2.2.2.2.2.2.2.2))))))));
 let e5 := List.getD b4_ (Int.toNat i_) (([] : List UInt8), (([] : List zq2), ([] : List t0y)));
 let l8 := List.set b4_ (Int.toNat i_) (e5.1, (l7, e5.2.2));
 let l9 := ((List.getD l8 (Int.toNat i_) (([] : List UInt8), (([] : List zq2), ([] : List t0y)))).2).1;
 let e6 := List.getD l9 j zqq;
 let l10 := List.set l9 j (e6.1, (e6.2.1, (e6.2.2.1, (e6.2.2.2.1, (e6.2.2.2.2.1, (e6.2.2.2.2.2.1, (e6.2.2.2.2.2.2.1, (e6.2.2.2.2.2.2.2.1, (1 : Int)))))))));
 let e7 := List.getD l8 (Int.toNat i_) (([] : List UInt8), (([] : List zq2), ([] : List t0y)));
 let l11 := List.set l8 (Int.toNat i_) (e7.1, (l10, e7.2.2));
 cond (decide (0 ≤ (0 : Int)) && decide ((0 : Int) < (List.length l : Int)))
 (let e8 := List.getD l (Int.toNat (0 : Int)) ((0 : Int), (([] : List UInt8), (0 : Int)));
 cond (decide (e8.2.1 = ([111, 110, 108, 121] : List UInt8)))
 (let l12 := ((List.getD l11 (Int.toNat i_) (([] : List UInt8), (([] : List zq2), ([] : List t0y)))).2).1;
 let e9 := List.getD l12 j zqq;
 let l13 := List.set l12 j (e9.1, (e9.2.1, (e9.2.2.1, (e9.2.2.2.1, (e9.2.2.2.2.1, (e9.2.2.2.2.2.1, (e9.2.2.2.2.2.2.1, (e9.2.2.2.2.2.2.2.1, (2 : Int)))))))));
 let e10 := List.getD l11 (Int.toNat i_) (([] : List UInt8), (([] : List zq2), ([] : List t0y)));
 let l14 := List.set l11 (Int.toNat i_) (e10.1, (l13, e10.2.2));
 k (0 : Int) b1_ b2_ b3_ l14)
 (k (0 : Int) b1_ b2_ b3_ l11))
 none))))
 none))
 none))
 none)
def zqh0 : zqgy := hid zqgz
theorem zqh1 : SpecOkB Tryz.prog 101 (sg [v24y, v23y] l51y [v18y] l51y zqh0) := Q1o mixed (X := ⟨look tab, gam [zq79, zq6n, zq62, zq6o], false, false, false, false, q68y, none, 0, []⟩) Qa [zq79, zq6n, zq62, zq6o] rfl [] [.tmp 4] Tryz.func101 (by kernel_rfl) fun _ _ => by kernel_rfl
noncomputable def zqh2 : En := .hand zqh1 rfl (by kernel_rfl)
abbrev zqh3 := {β : Type} → t7y → t4y → t3y → t2y → t1y → (Int → t4y → t3y → t2y → t1y → Option β) → Option β
noncomputable def zqh4 : List En := [zqdt, zq62, zq6k, zq6l, zq6j]
abbrev zqh5 (β : Type) := Int → t4y → t3y → t2y → t1y → Option β
abbrev zqh6 (β : Type) := Nat → t4y → t3y → t2y → t1y → t0y → (List Int) → Option β
abbrev zqh7 (β : Type) := Nat → t7y → Int → Int → t4y → t3y → t2y → t1y → t0y → (List Int) → Option β
noncomputable def zqh8 : Pc := ⟨106, 5, Q8 2042 (Q3 Tryz.f102), ⟨5, [0, 5, 7, 9, 53, 54, 55], [v24y, (false, [.tptrh 4 [] 0]), (false, [.ptr 5 0]), (false, [.rowh 6]), v23y, v18y, v18y], l53y⟩, [(.ret, ⟨5, [4], [v18y], l51y⟩), (.exit 0, ⟨5, [5, 7, 9], [(false, [.tptrh 4 [] 0]), (false, [.ptr 5 0]), (false, [.rowh 6])], l53y⟩)]⟩
abbrev zqh9 (β : Type) := Int → t4y → t3y → t2y → t1y → Option β
abbrev zqha (β : Type) := Nat → t7y → Int → Int → t4y → t3y → t2y → t1y → t0y → (List Int) → Option β
abbrev zqhb (β : Type) := Nat → Int → Int → Bool → t7y → Int → Int → t4y → t3y → t2y → t1y → t0y → (List Int) → Option β
noncomputable def zqhc : Pc := ⟨106, 5, Q8 231 (Q16 zqh8.c), ⟨5, [0, 5, 7, 9, 10, 12, 13, 53, 54, 55], [v24y, (false, [.tptrh 4 [] 0]), (false, [.ptr 5 0]), (false, [.rowh 6]), v18y, v18y, v20y, v23y, v18y, v18y], l53y⟩, [(.ret, ⟨5, [4], [v18y], l51y⟩), (.normal, ⟨5, [0, 5, 7, 9, 53, 54, 55], [v24y, (false, [.tptrh 4 [] 0]), (false, [.ptr 5 0]), (false, [.rowh 6]), v23y, v18y, v18y], l53y⟩)]⟩
def zqhd {β : Type} (k1 : zqh9 β) (k2 : zqha β) : zqhb β := fun s i_ p_ ok t53 t54 t55 b1_ b2_ b3_ b4_ x people =>
 zq61 ok (fun rfound =>
 cond (!decide (rfound = (0 : Int)))
 (k1 rfound b1_ b2_ b3_ b4_)
 (cond (decide (0 ≤ i_) && decide (i_ < (List.length people : Int)))
 (let l := (List.set people (Int.toNat i_) p_);
 k2 s t53 t54 t55 b1_ b2_ b3_ b4_ x l)
 none))
def zqhe {β : Type} := hid (zqhd (β := β))
noncomputable def zqhf : Pb := ⟨231, zqhc, fun _ => zqhe, Qgy mixed (X := ⟨look tab, gam zqh4, false, false, false, false, q68y, none, 0, []⟩) (p := zqhc) Qa zqh4 rfl [] 231 (g := fun _ => zqhd) (by kernel_rfl) fun _ _ => by kernel_rfl⟩
def zqhg {β : Type} (rec : zqh7 β) (k1 : zqh5 β) (k2 : zqh6 β) : zqh7 β := fun s t53 t54 t55 b1_ b2_ b3_ b4_ x people =>
 cond (decide (t55 < t54))
 (cond (decide (0 ≤ t55) && decide (t55 < (List.length t53 : Int)))
 (let e := List.getD t53 (Int.toNat t55) ((0 : Int), (([] : List UInt8), (0 : Int)));
 zqds (b1_, (b2_, (b3_, b4_))) e.2.1 (fun rPerson rPerson2 =>
 cond (decide (x.1 = (1 : Int)))
 (cond (decide (e.2.1 = ([110, 111, 98, 111, 100, 121] : List UInt8)))
 (zqhe (fun t4 b1_2 b2_2 b3_2 b4_2 =>
 k1 t4 b1_2 b2_2 b3_2 b4_2) (fun s2 t532 t542 t552 b1_2 b2_2 b3_2 b4_2 x2 people2 =>
 rec s2 t532 t542 (IntKind.i64.wrap (t552 + (1 : Int))) b1_2 b2_2 b3_2 b4_2 x2 people2) s t55 (-1 : Int) true t53 t54 t55 b1_ b2_ b3_ b4_ x people)
 (zqhe (fun t4 b1_2 b2_2 b3_2 b4_2 =>
 k1 t4 b1_2 b2_2 b3_2 b4_2) (fun s2 t532 t542 t552 b1_2 b2_2 b3_2 b4_2 x2 people2 =>
 rec s2 t532 t542 (IntKind.i64.wrap (t552 + (1 : Int))) b1_2 b2_2 b3_2 b4_2 x2 people2) s t55 rPerson rPerson2 t53 t54 t55 b1_ b2_ b3_ b4_ x people))
 (zqhe (fun t4 b1_2 b2_2 b3_2 b4_2 =>
 k1 t4 b1_2 b2_2 b3_2 b4_2) (fun s2 t532 t542 t552 b1_2 b2_2 b3_2 b4_2 x2 people2 =>
 rec s2 t532 t542 (IntKind.i64.wrap (t552 + (1 : Int))) b1_2 b2_2 b3_2 b4_2 x2 people2) s t55 rPerson rPerson2 t53 t54 t55 b1_ b2_ b3_ b4_ x people)))
 none)
 (k2 s b1_ b2_ b3_ b4_ x people)
def zqhh (m : Nat) {β : Type} (k1 : zqh5 β) (k2 : zqh6 β) : zqh7 β := lp10 (fun r => zqhg r k1 k2) none m
theorem zqhi {β : Type} (i : Nat) (k1 k2) : zqhh (β := β) (i + 1) k1 k2 = zqhg (zqhh i k1 k2) k1 k2 := rfl
def zqhj {β : Type} := hid (zqhh (β := β) fuel)
noncomputable def zqhk : Pb := ⟨2042, zqh8, fun _ => zqhj, Q3f mixed (X := ⟨look tab, gam zqh4, false, false, false, false, q68y, none, 0, []⟩) (p := zqh8) Qa zqh4 rfl [zqhf] (g := fun i _ => zqhh i) (by kernel_rfl) rfl (by kernel_rfl) (fun _ _ => rfl) fun _ _ _ _ => by kernel_rfl⟩
def zqhl : zqh3 := fun l b1_ b2_ b3_ b4_ k =>
 cond (decide ((List.length b4_ : Int) = (0 : Int)))
 (k (9 : Int) b1_ b2_ b3_ b4_)
 (let i_ := (IntKind.i64.wrap ((List.length b4_ : Int) - (1 : Int)));
 cond (decide (0 ≤ i_) && decide (i_ < (List.length b4_ : Int)))
 (let l2 := ([([108, 101, 97, 118, 101] : List UInt8), ([111, 118, 101, 114, 114, 105, 100, 101] : List UInt8), ([115, 119, 97, 112] : List UInt8)] : List t5y);
 cond (decide (0 ≤ (0 : Int)) && decide ((0 : Int) < (List.length l : Int)))
 (let e := List.getD l (Int.toNat (0 : Int)) ((0 : Int), (([] : List UInt8), (0 : Int)));
 zq6i l2 e.2.1 (fun rIndexstringstring =>
 cond (decide (0 ≤ (IntKind.i64.wrap ((List.length l : Int) - (2 : Int)))) && decide ((IntKind.i64.wrap ((List.length l : Int) - (2 : Int))) < (List.length l : Int)))
 (let e2 := List.getD l (Int.toNat (IntKind.i64.wrap ((List.length l : Int) - (2 : Int)))) ((0 : Int), (([] : List UInt8), (0 : Int)));
 cond (decide (0 ≤ (IntKind.i64.wrap ((List.length l : Int) - (1 : Int)))) && decide ((IntKind.i64.wrap ((List.length l : Int) - (1 : Int))) < (List.length l : Int)))
 (let e3 := List.getD l (Int.toNat (IntKind.i64.wrap ((List.length l : Int) - (1 : Int)))) ((0 : Int), (([] : List UInt8), (0 : Int)));
 let l3 := ([(0 : Int), (0 : Int)] : List Int);
 cond (decide (0 ≤ (1 : Int)) && (decide ((1 : Int) ≤ (IntKind.i64.wrap ((List.length l : Int) - (2 : Int)))) && decide ((IntKind.i64.wrap ((List.length l : Int) - (2 : Int))) ≤ (List.length l : Int))))
 (zqhj (fun t4 b1_2 b2_2 b3_2 b4_2 =>
 k t4 b1_2 b2_2 b3_2 b4_2) (fun s b1_2 b2_2 b3_2 b4_2 x people =>
 cond (decide (0 ≤ (0 : Int)) && decide ((0 : Int) < (List.length people : Int)))
 (cond (decide (0 ≤ (1 : Int)) && decide ((1 : Int) < (List.length people : Int)))
 (let e4 := List.getD b4_2 s zqo;
 let l4 := ([(x.1, ((List.getD people (Int.toNat (0 : Int)) (0 : Int)), ((List.getD people (Int.toNat (1 : Int)) (0 : Int)), x.2.2.2)))] : List t0y);
 let l5 := ((List.getD b4_2 s zqo).2).2;
 cond (true && decide ((List.length l5 + List.length l4) * 40 ≤ Q4))
 (let l6 := (l5 ++ l4);
 let e5 := List.getD b4_2 s zqo;
 let l7 := List.set b4_2 s (e5.1, (e5.2.1, l6));
 cond (decide (s = s) && (true && true))
 (k (0 : Int) b1_2 b2_2 b3_2 l7)
 none)
 none)
 none)
 none) (Int.toNat i_) (List.drop (Int.toNat (1 : Int)) (List.take (Int.toNat (IntKind.i64.wrap ((List.length l : Int) - (2 : Int)))) l)) (List.length (List.drop (Int.toNat (1 : Int)) (List.take (Int.toNat (IntKind.i64.wrap ((List.length l : Int) - (2 : Int)))) l)) : Int) (0 : Int) b1_ b2_ b3_ b4_ (rIndexstringstring, ((0 : Int), ((0 : Int), (e2.2.2, e3.2.2)))) l3)
 none)
 none)
 none))
 none)
 none)
def zqhm : zqh3 := hid zqhl
theorem zqhn : SpecOkB Tryz.prog 102 (sg [v24y, v23y] l51y [v18y] l51y zqhm) := Q1o mixed (X := ⟨look tab, gam zqh4, false, false, false, false, q68y, none, 0, []⟩) Qa zqh4 rfl [zqhk] [.tmp 4] Tryz.func102 (by kernel_rfl) fun _ _ => by kernel_rfl
noncomputable def zqho : En := .hand zqhn rfl (by kernel_rfl)
abbrev zqhp := {β : Type} → t5y → (Int → Bool → Option β) → Option β
noncomputable def zqhq : List En := [zqdp]
abbrev zqhr (β : Type) := Int → Bool → Option β
abbrev zqhs (β : Type) := t5y → Int → Bool → Option β
noncomputable def zqht : Pc := ⟨32, 0, Q8 15 (Q3 Tryz.f147), ⟨0, [0, 4, 5], [v25y, v18y, v20y], []⟩, [(.ret, ⟨0, [2, 3], [v18y, v20y], []⟩)]⟩
def zqhu {β : Type} (k1 : zqhr β) : zqhs β := fun s n ok =>
 cond ok
 (cond (decide ((List.length s : Int) = (6 : Int)))
 (cond (decide ((-64800 : Int) ≤ n))
 (let t := (decide (n ≤ (64800 : Int)));
 k1 n t)
 (k1 n false))
 (k1 n false))
 (k1 n false)
def zqhv {β : Type} := hid (zqhu (β := β))
noncomputable def zqhw : Pb := ⟨15, zqht, fun _ => zqhv, pe (p := zqht) zqhq [] 15 (g := fun _ => zqhu) (by kernel_rfl) fun _ _ => by kernel_rfl⟩
def zqhx : zqhp := fun s k =>
 cond (decide (0 ≤ (1 : Int)) && (decide ((1 : Int) ≤ (List.length s : Int)) && decide ((List.length s : Int) ≤ (List.length s : Int))))
 (zqdo (List.drop (Int.toNat (1 : Int)) (List.take (Int.toNat (List.length s : Int)) s)) (fun rclock rclock2 =>
 cond (decide (0 ≤ (0 : Int)) && decide ((0 : Int) < (List.length s : Int)))
 (cond (decide (((List.getD s (Int.toNat (0 : Int)) 0).toNat : Int) = (45 : Int)))
 (let n := (IntKind.i64.wrap (0 - rclock));
 zqhv (fun t2 t3 =>
 k t2 t3) s n rclock2)
 (zqhv (fun t2 t3 =>
 k t2 t3) s rclock rclock2))
 none))
 none
def zqhy : zqhp := hid zqhx
noncomputable def zqhz : En := ⟨147, .spec (sg [v25y] [] [v18y, v20y] [] zqhy), pf zqhq [zqhw] [.tmp 2, .tmp 3] Tryz.func147 (by kernel_rfl) fun _ _ => by kernel_rfl⟩
abbrev zqi0 := {β : Type} → t5y → (Int → Bool → Option β) → Option β
def zqi1 : zqi0 := fun s k =>
 cond (!decide ((List.length s : Int) = (20 : Int)))
 (k (0 : Int) false)
 (cond (decide (0 ≤ (10 : Int)) && decide ((10 : Int) < (List.length s : Int)))
 (cond (!decide (((List.getD s (Int.toNat (10 : Int)) 0).toNat : Int) = (84 : Int)))
 (k (0 : Int) false)
 (cond (decide (0 ≤ (19 : Int)) && decide ((19 : Int) < (List.length s : Int)))
 (cond (!decide (((List.getD s (Int.toNat (19 : Int)) 0).toNat : Int) = (90 : Int)))
 (k (0 : Int) false)
 (cond (decide (0 ≤ (0 : Int)) && (decide ((0 : Int) ≤ (10 : Int)) && decide ((10 : Int) ≤ (List.length s : Int))))
 (zqda (List.drop (Int.toNat (0 : Int)) (List.take (Int.toNat (10 : Int)) s)) (fun rdate rdate2 =>
 cond (decide (0 ≤ (11 : Int)) && (decide ((11 : Int) ≤ (19 : Int)) && decide ((19 : Int) ≤ (List.length s : Int))))
 (zqdo (List.drop (Int.toNat (11 : Int)) (List.take (Int.toNat (19 : Int)) s)) (fun rclock rclock2 =>
 cond rdate2
 (cond rclock2
 (let t := (IntKind.i64.wrap ((IntKind.i64.wrap (rdate * (86400 : Int))) + rclock));
 let t2 := (decide (rclock < (86400 : Int)));
 k t t2)
 (let t := (IntKind.i64.wrap ((IntKind.i64.wrap (rdate * (86400 : Int))) + rclock));
 k t false))
 (let t := (IntKind.i64.wrap ((IntKind.i64.wrap (rdate * (86400 : Int))) + rclock));
 k t false)))
 none))
 none))
 none))
 none)
def zqi2 : zqi0 := hid zqi1
noncomputable def zqi3 : En := ⟨149, .spec (sg [v25y] [] [v18y, v20y] [] zqi2), pf [zqdp, zqdb] [] [.tmp 2, .tmp 3] Tryz.func149 (by kernel_rfl) fun _ _ => by kernel_rfl⟩
abbrev zqi4 := {β : Type} → Int → (Bool → Option β) → Option β
def zqi5 : zqi4 := fun n k =>
 zqe0 n (fun rday =>
 k (!rday))
def zqi6 : zqi4 := hid zqi5
noncomputable def zqi7 : En := ⟨56, .spec (sg [v18y] [] [v20y] [] zqi6), pf [zqe1] [] [.tmp 2] Tryz.func56 (by kernel_rfl) fun _ _ => by kernel_rfl⟩
abbrev zqi8 := {β : Type} → t5y → (Int → Int → Bool → Option β) → Option β
noncomputable def zqi9 : List En := [zq8l, zqdp, zqdb, zqi3, zqav, zqhz, zq40, zq7s]
abbrev zqia (β : Type) := Int → Int → Bool → Option β
abbrev zqib (β : Type) := t5y → Option β
noncomputable def zqic : Pc := ⟨83, 0, Q8 7 (Q3 Tryz.f114), ⟨0, [0], [v25y], []⟩, [(.ret, ⟨0, [2, 3, 4], [v18y, v18y, v20y], []⟩)]⟩
abbrev zqid (β : Type) := Int → Int → Bool → Option β
abbrev zqie (β : Type) := t5y → Option β
abbrev zqif (β : Type) := t5y → Bool → Option β
noncomputable def zqig : Pc := ⟨83, 0, Q8 215 (Q3 Tryz.f114), ⟨0, [0, 23], [v25y, v20y], []⟩, [(.ret, ⟨0, [2, 3, 4], [v18y, v18y, v20y], []⟩), (.normal, ⟨0, [0], [v25y], []⟩)]⟩
def zqih {β : Type} (k1 : zqia β) : zqib β := fun s =>
 zqau s (fun rnumber rnumber2 =>
 cond rnumber2
 (cond (decide (0 ≤ (0 : Int)) && decide ((0 : Int) < (List.length s : Int)))
 (cond (!decide (((List.getD s (Int.toNat (0 : Int)) 0).toNat : Int) = (48 : Int)))
 (k1 (1 : Int) rnumber true)
 (let t := (decide (s = ([48] : List UInt8)));
 k1 (1 : Int) rnumber t))
 none)
 (k1 (1 : Int) rnumber false))
def zqii {β : Type} := hid (zqih (β := β))
noncomputable def zqij : Pb := ⟨7, zqic, fun _ => zqii, pe (p := zqic) zqi9 [] 7 (g := fun _ => zqih) (by kernel_rfl) fun _ _ => by kernel_rfl⟩
def zqik {β : Type} (k1 : zqid β) (k2 : zqie β) : zqif β := fun s t23 =>
 cond t23
 (zqhy s (fun roffset roffset2 =>
 k1 (4 : Int) roffset roffset2))
 (zq7q s ([84] : List UInt8) (fun rContains =>
 cond rContains
 (zqi2 s (fun rinstant rinstant2 =>
 k1 (5 : Int) rinstant rinstant2))
 (zq7q s ([45] : List UInt8) (fun rContains2 =>
 cond rContains2
 (zqda s (fun rdate rdate2 =>
 k1 (3 : Int) rdate rdate2))
 (zq7q s ([58] : List UInt8) (fun rContains3 =>
 cond rContains3
 (zqdo s (fun rclock rclock2 =>
 k1 (2 : Int) rclock rclock2))
 (k2 s)))))))
def zqil {β : Type} := hid (zqik (β := β))
noncomputable def zqim : Pb := ⟨215, zqig, fun _ => zqil, pe (p := zqig) zqi9 [] 215 (g := fun _ => zqik) (by kernel_rfl) fun _ _ => by kernel_rfl⟩
def zqin : zqi8 := fun s k =>
 cond (decide (0 ≤ (0 : Int)) && decide ((0 : Int) < (List.length s : Int)))
 (let c := ((List.getD s (Int.toNat (0 : Int)) 0).toNat : Int);
 zq3z c (fun rsmall =>
 cond rsmall
 (zq8k s (fun rName =>
 k (0 : Int) (0 : Int) rName))
 (cond (decide (c = (43 : Int)))
 (zqil (fun t2 t3 t4 =>
 k t2 t3 t4) (fun s2 =>
 zqii (fun t2 t3 t4 =>
 k t2 t3 t4) s2) s true)
 (let t := (decide (c = (45 : Int)));
 zqil (fun t2 t3 t4 =>
 k t2 t3 t4) (fun s2 =>
 zqii (fun t2 t3 t4 =>
 k t2 t3 t4) s2) s t))))
 none
def zqio : zqi8 := hid zqin
noncomputable def zqip : En := ⟨114, .spec (sg [v25y] [] [v18y, v18y, v20y] [] zqio), pf zqi9 [zqij, zqim] [.tmp 2, .tmp 3, .tmp 4] Tryz.func114 (by kernel_rfl) fun _ _ => by kernel_rfl⟩
end
end Go.Lift
namespace Go.Lift
open Go.Proofs
noncomputable section
variable [Sl]
set_option maxRecDepth 100000
set_option linter.unusedVariables false
def zqiq : Shelf.Ren :=
   {
   f := fun x =>
    match x with
    | 20 => 177
    | n => n,
   t := fun x =>
    match x with
    | 24 => 165
    | 22 => 161
    | 3 => 3
    | 25 => 204
    | 4 => 4
    | 0 => 0
    | n => n,
   g := fun x => x }
theorem zqir : Go.Proofs.SlLaysF0.n20 Tryz.prog zqiq :=
 {
  mixed := by kernel_rfl,
  f20 := Exists.intro "slices.insertionSortCmpFunc[pagewatch/zone.occurrence]" ⟨of_decide_eq_true (by kernel_rfl), Eq.trans Tryz.func177 (congrArg some (by kernel_rfl))⟩,
  t0 := Tryz.underlying0,
  a0 := Tryz.isAgg0,
  z0 := Tryz.sizeOf0,
  v0 := Tryz.zeroValue0,
  t3 := Tryz.underlying3,
  a3 := Tryz.isAgg3,
  z3 := Tryz.sizeOf3,
  v3 := Tryz.zeroValue3,
  t4 := Tryz.underlying4,
  a4 := Tryz.isAgg4,
  z4 := Tryz.sizeOf4,
  v4 := Tryz.zeroValue4,
  t22 := Tryz.underlying161,
  a22 := Tryz.isAgg161,
  z22 := Tryz.sizeOf161,
  v22 := Tryz.zeroValue161,
  t25 := Tryz.underlying204,
  a25 := Tryz.isAgg204,
  z25 := Tryz.sizeOf204,
  v25 := Tryz.zeroValue204 }
def zqis : t6y → Bool := fun x => decide (-4611686018427387904 ≤ x.1) && decide (x.1 < 4611686018427387904)
def zqit : t6y → t6y → Int := fun x y => x.1 - y.1
def zqiu : List t6y → List t6y := Q19 zqis ((0, 0) : Int × Int) rfl zqit
theorem zqiv (x y : Int × Int) (hx : zqis x = true) (hy : zqis y = true) (W : World) : Calls Tryz.prog 139 #[.agg (encT (.prod (.int .i64) (.int .i64)) x).toArray, .agg (encT (.prod (.int .i64) (.int .i64)) y).toArray] W fun e w' => e = .returned (.int .i64 (zqit x y)) ∧ ∃ q os', w' = Go.Sort.grow (W.drewN q) os' := by
 obtain ⟨a, b⟩ := x
 obtain ⟨c, d⟩ := y
 simp only [zqis, Bool.and_eq_true, decide_eq_true_eq] at hx hy
 obtain ⟨h1, h2⟩ := hx
 obtain ⟨h3, h4⟩ := hy
 change Calls Tryz.prog 139 #[.agg #[.int .i64 a, .int .i64 b], .agg #[.int .i64 c, .int .i64 d]] W fun e w' => e = .returned (.int .i64 (a - c)) ∧ _
 have hw : Go.RowKit.wrap64 (a - c) = a - c := by unfold Go.RowKit.wrap64; omega
 go_enter Tryz.func139, Tryz.ntmps139
 go_wp2
 go_ret
 exact ⟨rfl, 0, _, by rw [Go.Sort.alloc_eq_grow, Go.Sort.alloc_eq_grow, Go.Sort.grow_grow]; rfl⟩
theorem zqiw : Go.Sort.SWO (Go.Proofs.ltOf fun (x y : {x : Int × Int // zqis x = true}) => zqit x.1 y.1) := by
 constructor
 ·intro x
  refine decide_eq_false ?_
  show ¬ x.1.1 - x.1.1 < 0
  omega
 ·intro x y z h1 h2
  have h1 : x.1.1 - y.1.1 < 0 := of_decide_eq_true h1
  have h2 : y.1.1 - z.1.1 < 0 := of_decide_eq_true h2
  refine decide_eq_true ?_
  show x.1.1 - z.1.1 < 0
  omega
 ·intro x y z h1 h2
  have h1 : ¬ x.1.1 - y.1.1 < 0 := of_decide_eq_false h1
  have h2 : ¬ y.1.1 - z.1.1 < 0 := of_decide_eq_false h2
  refine decide_eq_false ?_
  show ¬ x.1.1 - z.1.1 < 0
  omega
theorem zqix (p : Option Addr) (n cap : Nat) (w : World) (Q : World → Prop) (hn : n < 13) (h : Calls Tryz.prog 177 #[.slice p n cap, .int .i64 0, .int .i64 n, .func (.func 139) #[] #[]] w (fun e2 w' => e2 = .returned (.tuple #[]) ∧ Q w')) :
  Calls Tryz.prog 138 #[.slice p n cap, .func (.func 139) #[] #[]] w fun e2 w' => e2 = .returned (.tuple #[]) ∧ Q w' := by
 have h2 : Calls Tryz.prog 162 #[.slice p n cap, .int .i64 n, .func (.func 139) #[] #[]] w fun e2 w' => e2 = .returned (.tuple #[]) ∧ Q w' := by
  go_enter Tryz.func162, Tryz.ntmps162
  go_wp2
  refine wp_loop_rounds 1 ?_
  rw [rounds_succ]
  go_wp2_with (refine h.mono ?_; rintro e w' ⟨rfl, hq⟩)
  refine wp_loop_rounds 1 ?_
  rw [rounds_succ]
  go_wp2
  go_end0
  exact ⟨rfl, hq⟩
 go_enter Tryz.func138, Tryz.ntmps138
 go_wp2_with (refine h2.mono ?_; rintro e w' ⟨rfl, hq⟩)
 go_end0
 exact ⟨rfl, hq⟩
def zqiy : RowF := ⟨165, (.prod (.int .i64) (.int .i64)), false, fun l => List.all l zqis && decide (List.length l < 13), zqiu, some 139⟩
theorem zqiz : RowOk Tryz.prog 138 zqiy :=
 Qf0 (t := 165) (e := (.prod (.int .i64) (.int .i64))) (good := zqis) (d0 := ((0, 0) : Int × Int)) (h0 := rfl) (cf := zqit) (g := 139) rfl (by decide) zqir rfl Tryz.isAgg165 Tryz.sizeOf165 zqiw (Go.Proofs.enters_of Tryz.func139 (by kernel_rfl) rfl) zqiv zqix ⟨_, Tryz.func138, by kernel_rfl, by kernel_rfl⟩
noncomputable def zqj0 : En := ⟨_, .rows zqiy, zqiz⟩
abbrev zqj1 := {β : Type} → t5y → (zq6 → Int → Option β) → Option β
def zqj2 : zqj1 := fun word k =>
 cond (decide (word = ([] : List UInt8)))
 (k zqi (2 : Int))
 (zqio word (fun rform rform2 rform3 =>
 cond (!rform3)
 (k zqi (2 : Int))
 (let t := (decide (rform = (0 : Int)));
 cond t
 (k (rform, (word, (0 : Int))) (0 : Int))
 (k (rform, (([] : List UInt8), rform2)) (0 : Int)))))
def zqj3 : zqj1 := hid zqj2
noncomputable def zqj4 : En := ⟨88, .spec (sg [v25y] [] [(true, [.data zq7]), v18y] [] zqj3), pf [zqip] [] [.cell 2 127, .tmp 3] Tryz.func88 (by kernel_rfl) fun _ _ => by kernel_rfl⟩
abbrev zqj5 := {β : Type} → zqa → (Int → t10y → Option β) → Option β
noncomputable def zqj6 : List En := [zqd7, zq53, zq7d, zqj0]
abbrev zqj7 (β : Type) := Int → t10y → Option β
abbrev zqj8 (β : Type) := Int → zqa → Option β
abbrev zqj9 (β : Type) := Int → t11y → Int → Int → zqa → Option β
noncomputable def zqja : Pc := ⟨86, 0, Q8 250 (Q3 Tryz.f103), ⟨0, [1, 4, 23, 24, 25], [v24y, v18y, v32y, v18y, v18y], [.cells 32 [.data zqb]]⟩, [(.ret, ⟨0, [2, 3], [v27y, v18y], l55y⟩), (.exit 0, ⟨0, [1, 4], [v24y, v18y], [.cells 32 [.data zqb]]⟩)]⟩
abbrev zqjb (β : Type) := t10y → Option β
abbrev zqjc (β : Type) := t11y → Int → Int → t10y → Option β
noncomputable def zqjd : Pc := ⟨86, 0, Q8 2042 (Q3 Tryz.f103), ⟨0, [8, 46, 47, 48], [v27y, v32y, v18y, v18y], l55y⟩, [(.exit 2, ⟨0, [8], [v27y], l55y⟩)]⟩
abbrev zqje (β : Type) := t11y → Int → Int → t10y → Option β
abbrev zqjf (β : Type) := Int → t11y → Int → Int → t10y → zq8 → Option β
noncomputable def zqjg : Pc := ⟨86, 0, Q8 230 (Q16 zqjd.c), ⟨0, [8, 10, 11, 46, 47, 48], [v27y, v30y, v18y, v32y, v18y, v18y], [.row 165 (.prod (.int .i64) (.int .i64)), .cells 101 [.data zq9]]⟩, [(.exit 4, ⟨0, [8, 46, 47, 48], [v27y, v32y, v18y, v18y], l55y⟩)]⟩
def zqjh {β : Type} (rec : zqj9 β) (k1 : zqj7 β) (k2 : zqj8 β) : zqj9 β := fun n t23 t24 t25 z =>
 cond (decide (t25 < t24))
 (cond (decide (0 ≤ t25) && decide (t25 < (List.length t23 : Int)))
 (let e := List.getD t23 (Int.toNat t25) ((0 : Int), ((0 : Int), ((0 : Int), ((0 : Int), ((0 : Int), ((0 : Int), (0 : Int)))))));
 zq7c e (fun rrule =>
 cond (!decide (rrule = (0 : Int)))
 (k1 rrule ([] : List t6y))
 (let n2 := (IntKind.i64.wrap (n + (IntKind.i64.wrap ((IntKind.i64.wrap (e.2.1 - e.1)) + (1 : Int)))));
 rec n2 t23 t24 (IntKind.i64.wrap (t25 + (1 : Int))) z)))
 none)
 (k2 n z)
def zqji (m : Nat) {β : Type} (k1 : zqj7 β) (k2 : zqj8 β) : zqj9 β := lp5 (fun r => zqjh r k1 k2) none m
theorem zqjj {β : Type} (i : Nat) (k1 k2) : zqji (β := β) (i + 1) k1 k2 = zqjh (zqji i k1 k2) k1 k2 := rfl
def zqjk {β : Type} := hid (zqji (β := β) fuel)
noncomputable def zqjl : Pb := ⟨250, zqja, fun _ => zqjk, pl (p := zqja) zqj6 [] (g := fun i _ => zqji i) (by kernel_rfl) rfl (by kernel_rfl) (fun _ _ => rfl) fun _ _ _ _ => by kernel_rfl⟩
def zqjm {β : Type} (rec : zqjf β) (k1 : zqje β) : zqjf β := fun y t46 t47 t48 out r_ =>
 cond (decide (y ≤ r_.2.1))
 (zqd6 y r_.2.2.1 r_.2.2.2.1 r_.2.2.2.2.1 (fun rNth rNth2 =>
 let l := ([((IntKind.i64.wrap ((IntKind.i64.wrap (rNth * (86400 : Int))) + r_.2.2.2.2.2.1)), r_.2.2.2.2.2.2)] : List t6y);
 cond (decide ((List.length out + List.length l) * 16 ≤ Q4))
 (let l2 := (out ++ l);
 let y2 := (IntKind.i64.wrap (y + (1 : Int)));
 rec y2 t46 t47 t48 l2 r_)
 none))
 (k1 t46 t47 t48 out)
def zqjn (m : Nat) {β : Type} (k1 : zqje β) : zqjf β := lp6 (fun r => zqjm r k1) none m
theorem zqjo {β : Type} (i : Nat) (k1) : zqjn (β := β) (i + 1) k1 = zqjm (zqjn i k1) k1 := rfl
def zqjp {β : Type} := hid (zqjn (β := β) fuel)
noncomputable def zqjq : Pb := ⟨230, zqjg, fun _ => zqjp, pl (p := zqjg) zqj6 [] (g := fun i _ => zqjn i) (by kernel_rfl) rfl (by kernel_rfl) (fun _ _ => rfl) fun _ _ _ _ => by kernel_rfl⟩
def zqjr {β : Type} (rec : zqjc β) (k1 : zqjb β) : zqjc β := fun t46 t47 t48 out =>
 cond (decide (t48 < t47))
 (cond (decide (0 ≤ t48) && decide (t48 < (List.length t46 : Int)))
 (let e := List.getD t46 (Int.toNat t48) ((0 : Int), ((0 : Int), ((0 : Int), ((0 : Int), ((0 : Int), ((0 : Int), (0 : Int)))))));
 zqjp (fun t462 t472 t482 out2 =>
 rec t462 t472 (IntKind.i64.wrap (t482 + (1 : Int))) out2) e.1 t46 t47 t48 out e)
 none)
 (k1 out)
def zqjs (m : Nat) {β : Type} (k1 : zqjb β) : zqjc β := lp4 (fun r => zqjr r k1) none m
theorem zqjt {β : Type} (i : Nat) (k1) : zqjs (β := β) (i + 1) k1 = zqjr (zqjs i k1) k1 := rfl
def zqju {β : Type} := hid (zqjs (β := β) fuel)
noncomputable def zqjv : Pb := ⟨2042, zqjd, fun _ => zqju, pl (p := zqjd) zqj6 [zqjq] (g := fun i _ => zqjs i) (by kernel_rfl) rfl (by kernel_rfl) (fun _ _ => rfl) fun _ _ _ _ => by kernel_rfl⟩
def zqjw : zqj5 := fun z k =>
 Q2v z.2.1 (-64800 : Int) (64800 : Int) (fun rin =>
 cond (!rin)
 (k (1 : Int) ([] : List t6y))
 (cond (decide ((16 : Int) < (List.length z.2.2 : Int)))
 (k (5 : Int) ([] : List t6y))
 (zqjk (fun t3 t2 =>
 k t3 t2) (fun n z2 =>
 cond (decide ((640 : Int) < n))
 (k (5 : Int) ([] : List t6y))
 (zqju (fun out =>
 cond ((List.all out zqis) && decide (List.length out < 13))
 (let l := (zqiu out);
 k (0 : Int) l)
 none) z2.2.2 (List.length z2.2.2 : Int) (0 : Int) ([] : List t6y))) (0 : Int) z.2.2 (List.length z.2.2 : Int) (0 : Int) z)))
def zqjx : zqj5 := hid zqjw
noncomputable def zqjy : En := ⟨103, .spec (sg [v42y] [] [v27y, v18y] l55y zqjx), pf zqj6 [zqjl, zqjv] [.tmp 2, .tmp 3] Tryz.func103 (by kernel_rfl) fun _ _ => by kernel_rfl⟩
abbrev zqjz := {β : Type} → (List Int) → (Int → Option β) → Option β
noncomputable def zqk0 : List En := [zqi7]
abbrev zqk1 (β : Type) := Int → Option β
abbrev zqk2 (β : Type) := Unit → Option β
abbrev zqk3 (β : Type) := (List Int) → Int → Int → Option β
noncomputable def zqk4 : Pc := ⟨19, 0, Q8 26 (Q3 Tryz.f82), ⟨0, [0, 1, 7, 8], [v38y, (false, [.fn 56 []]), v18y, v18y], []⟩, [(.ret, ⟨0, [4], [v18y], []⟩), (.exit 0, ⟨0, [], [], []⟩)]⟩
def zqk5 {β : Type} (rec : zqk3 β) (k1 : zqk1 β) (k2 : zqk2 β) : zqk3 β := fun s t7 t8 =>
 cond (decide (t8 < t7))
 (cond (decide (0 ≤ t8) && decide (t8 < (List.length s : Int)))
 (let e := List.getD s (Int.toNat t8) (0 : Int);
 zqi6 e (fun rcheckCalendar1 =>
 cond rcheckCalendar1
 (k1 t8)
 (rec s t7 (IntKind.i64.wrap (t8 + (1 : Int))))))
 none)
 (k2 ())
def zqk6 (m : Nat) {β : Type} (k1 : zqk1 β) (k2 : zqk2 β) : zqk3 β := lp3 (fun r => zqk5 r k1 k2) none m
theorem zqk7 {β : Type} (i : Nat) (k1 k2) : zqk6 (β := β) (i + 1) k1 k2 = zqk5 (zqk6 i k1 k2) k1 k2 := rfl
def zqk8 {β : Type} := hid (zqk6 (β := β) fuel)
noncomputable def zqk9 : Pb := ⟨26, zqk4, fun _ => zqk8, pl (p := zqk4) zqk0 [] (g := fun i _ => zqk6 i) (by kernel_rfl) rfl (by kernel_rfl) (fun _ _ => rfl) fun _ _ _ _ => by kernel_rfl⟩
def zqka : zqjz := fun s k =>
 zqk8 (fun t4 =>
 k t4) (fun _ =>
 k (-1 : Int)) s (List.length s : Int) (0 : Int)
def zqkb : zqjz := hid zqka
noncomputable def zqkc : En := ⟨82, .spec (sg [v38y, (false, [.fn 56 []])] [] [v18y] [] zqkb), pf zqk0 [zqk9] [.tmp 4] Tryz.func82 (by kernel_rfl) fun _ _ => by kernel_rfl⟩
abbrev zqkd := {β : Type} → (List Int) → zqg → (Int → zqg → Option β) → Option β
noncomputable def zqke : List En := [zq4c]
abbrev zqkf (β : Type) := Int → zqg → Option β
abbrev zqkg (β : Type) := zqg → Option β
abbrev zqkh (β : Type) := (List Int) → Int → Int → zqg → Option β
noncomputable def zqki : Pc := ⟨19, 1, Q8 26 (Q3 Tryz.f82), ⟨1, [0, 1, 7, 8], [v38y, (false, [.fn 84 [0]]), v18y, v18y], [b22y]⟩, [(.ret, ⟨1, [4], [v18y], [b22y]⟩), (.exit 0, ⟨1, [], [], [b22y]⟩)]⟩
def zqkj {β : Type} (rec : zqkh β) (k1 : zqkf β) (k2 : zqkg β) : zqkh β := fun s t7 t8 b0_ =>
 cond (decide (t8 < t7))
 (cond (decide (0 ≤ t8) && decide (t8 < (List.length s : Int)))
 (let e := List.getD s (Int.toNat t8) (0 : Int);
 zq4b e b0_ (fun rcheckLayer1 mrcheckLayer1 =>
 cond rcheckLayer1
 (k1 t8 mrcheckLayer1)
 (rec s t7 (IntKind.i64.wrap (t8 + (1 : Int))) mrcheckLayer1)))
 none)
 (k2 b0_)
def zqkk (m : Nat) {β : Type} (k1 : zqkf β) (k2 : zqkg β) : zqkh β := lp4 (fun r => zqkj r k1 k2) none m
theorem zqkl {β : Type} (i : Nat) (k1 k2) : zqkk (β := β) (i + 1) k1 k2 = zqkj (zqkk i k1 k2) k1 k2 := rfl
def zqkm {β : Type} := hid (zqkk (β := β) fuel)
noncomputable def zqkn : Pb := ⟨26, zqki, fun _ => zqkm, pl (p := zqki) zqke [] (g := fun i _ => zqkk i) (by kernel_rfl) rfl (by kernel_rfl) (fun _ _ => rfl) fun _ _ _ _ => by kernel_rfl⟩
def zqko : zqkd := fun s b0_ k =>
 zqkm (fun t4 b0_2 =>
 k t4 b0_2) (fun b0_2 =>
 k (-1 : Int) b0_2) s (List.length s : Int) (0 : Int) b0_
def zqkp : zqkd := hid zqko
noncomputable def zqkq : En := ⟨82, .spec (sg [v38y, (false, [.fn 84 [0]])] [b22y] [v18y] [b22y] zqkp), pf zqke [zqkn] [.tmp 4] Tryz.func82 (by kernel_rfl) fun _ _ => by kernel_rfl⟩
abbrev zqkr := {β : Type} → t5y → (Int → t7y → Option β) → Option β
noncomputable def zqks : List En := [zqj4, zq4j, zq4q]
abbrev zqkt (β : Type) := Int → t7y → Option β
abbrev zqku (β : Type) := t5y → Option β
abbrev zqkv (β : Type) := t5y → Int → Int → Option β
noncomputable def zqkw : Pc := ⟨56, 0, Q8 58 (Q3 Tryz.f64), ⟨0, [0, 14, 15], [v25y, v18y, v18y], []⟩, [(.ret, ⟨0, [2, 3], [v27y, v18y], [.row 127 zq7]⟩), (.exit 0, ⟨0, [0], [v25y], []⟩)]⟩
abbrev zqkx (β : Type) := Int → t7y → Option β
abbrev zqky (β : Type) := t7y → Option β
abbrev zqkz (β : Type) := Int → Int → t7y → (List t5y) → Option β
noncomputable def zql0 : Pc := ⟨56, 0, Q8 506 (Q3 Tryz.f64), ⟨0, [5, 36, 37, 38], [v27y, (false, [.rowh 1]), v18y, v18y], [.row 127 zq7, .row 9 .str]⟩, [(.ret, ⟨0, [2, 3], [v27y, v18y], [.row 127 zq7]⟩), (.exit 2, ⟨0, [5], [v27y], [.row 127 zq7]⟩)]⟩
def zql1 {β : Type} (rec : zqkv β) (k1 : zqkt β) (k2 : zqku β) : zqkv β := fun text t14 t15 =>
 cond (decide (t15 < t14))
 (cond (decide (0 ≤ t15) && decide (t15 < (List.length text : Int)))
 (cond (decide (((List.getD text (Int.toNat t15) 0).toNat : Int) < (32 : Int)))
 (k1 (2 : Int) ([] : List zq6))
 (cond (decide (0 ≤ t15) && decide (t15 < (List.length text : Int)))
 (cond (decide ((126 : Int) < ((List.getD text (Int.toNat t15) 0).toNat : Int)))
 (k1 (2 : Int) ([] : List zq6))
 (rec text t14 (IntKind.i64.wrap (t15 + (1 : Int)))))
 none))
 none)
 (k2 text)
def zql2 (m : Nat) {β : Type} (k1 : zqkt β) (k2 : zqku β) : zqkv β := lp3 (fun r => zql1 r k1 k2) none m
theorem zql3 {β : Type} (i : Nat) (k1 k2) : zql2 (β := β) (i + 1) k1 k2 = zql1 (zql2 i k1 k2) k1 k2 := rfl
def zql4 {β : Type} := hid (zql2 (β := β) fuel)
noncomputable def zql5 : Pb := ⟨58, zqkw, fun _ => zql4, pl (p := zqkw) zqks [] (g := fun i _ => zql2 i) (by kernel_rfl) rfl (by kernel_rfl) (fun _ _ => rfl) fun _ _ _ _ => by kernel_rfl⟩
def zql6 {β : Type} (rec : zqkz β) (k1 : zqkx β) (k2 : zqky β) : zqkz β := fun t37 t38 out t36 =>
 cond (decide (t38 < t37))
 (cond (decide (0 ≤ t38) && decide (t38 < (List.length t36 : Int)))
 (let w := (List.getD t36 (Int.toNat t38) ([] : List UInt8));
 zqj3 w (fun rToken rToken2 =>
 cond (!decide (rToken2 = (0 : Int)))
 (k1 rToken2 ([] : List zq6))
 (let l := ([rToken] : List zq6);
 cond (decide ((List.length out + List.length l) * 32 ≤ Q4))
 (let l2 := (out ++ l);
 rec t37 (IntKind.i64.wrap (t38 + (1 : Int))) l2 t36)
 none)))
 none)
 (k2 out)
def zql7 (m : Nat) {β : Type} (k1 : zqkx β) (k2 : zqky β) : zqkz β := lp4 (fun r => zql6 r k1 k2) none m
theorem zql8 {β : Type} (i : Nat) (k1 k2) : zql7 (β := β) (i + 1) k1 k2 = zql6 (zql7 i k1 k2) k1 k2 := rfl
def zql9 {β : Type} := hid (zql7 (β := β) fuel)
noncomputable def zqla : Pb := ⟨506, zql0, fun _ => zql9, pl (p := zql0) zqks [] (g := fun i _ => zql7 i) (by kernel_rfl) rfl (by kernel_rfl) (fun _ _ => rfl) fun _ _ _ _ => by kernel_rfl⟩
def zqlb : zqkr := fun text k =>
 cond (decide ((512 : Int) < (List.length text : Int)))
 (k (5 : Int) ([] : List zq6))
 (zql4 (fun t3 t2 =>
 k t3 t2) (fun text2 =>
 zq4h text2 ([35] : List UInt8) (fun rCut rCut2 rCut3 =>
 zq4o rCut (fun lrFields =>
 zql9 (fun t3 t2 =>
 k t3 t2) (fun out =>
 k (0 : Int) out) (List.length lrFields : Int) (0 : Int) ([] : List zq6) lrFields))) text (List.length text : Int) (0 : Int))
def zqlc : zqkr := hid zqlb
noncomputable def zqld : En := ⟨64, .spec (sg [v25y] [] [v27y, v18y] [.row 127 zq7] zqlc), pf zqks [zql5, zqla] [.tmp 2, .tmp 3] Tryz.func64 (by kernel_rfl) fun _ _ => by kernel_rfl⟩
abbrev zqle := {β : Type} → zqa → (Int → t10y → Option β) → Option β
noncomputable def zqlf : List En := [zq53, zqjy]
abbrev zqlg (β : Type) := Int → t10y → Option β
abbrev zqlh (β : Type) := t10y → Option β
abbrev zqli (β : Type) := Int → Int → Int → t10y → t10y → Option β
noncomputable def zqlj : Pc := ⟨79, 0, Q8 506 (Q3 Tryz.f77), ⟨0, [6, 7, 22, 23, 24], [v27y, v18y, (false, [.rowh 1]), v18y, v18y], l66y⟩, [(.ret, ⟨0, [2, 3], [v27y, v18y], l67y⟩), (.exit 0, ⟨0, [6], [v27y], l67y⟩)]⟩
abbrev zqlk (β : Type) := Int → Int → Int → t10y → t10y → Option β
abbrev zqll (β : Type) := Int → Int → Int → t10y → t6y → t10y → Option β
noncomputable def zqlm : Pc := ⟨79, 0, Q8 463 (Q16 zqlj.c), ⟨0, [6, 9, 10, 22, 23, 24], [v27y, v30y, v18y, (false, [.rowh 2]), v18y, v18y], [.row 167 (.prod (.int .i64) (.int .i64)), .cells 165 [.data (.prod (.int .i64) (.int .i64))], .row 165 (.prod (.int .i64) (.int .i64))]⟩, [(.normal, ⟨0, [6, 7, 22, 23, 24], [v27y, v18y, (false, [.rowh 1]), v18y, v18y], l66y⟩)]⟩
def zqln {β : Type} (k1 : zqlk β) : zqll β := fun at_ t23 t24 out o t22 =>
 let l := ([(at_, o.2)] : List t6y);
 cond (decide ((List.length out + List.length l) * 16 ≤ Q4))
 (let l2 := (out ++ l);
 k1 o.2 t23 t24 l2 t22)
 none
def zqlo {β : Type} := hid (zqln (β := β))
noncomputable def zqlp : Pb := ⟨463, zqlm, fun _ => zqlo, pe (p := zqlm) zqlf [] 463 (g := fun _ => zqln) (by kernel_rfl) fun _ _ => by kernel_rfl⟩
def zqlq {β : Type} (rec : zqli β) (k1 : zqlg β) (k2 : zqlh β) : zqli β := fun now t23 t24 out t22 =>
 cond (decide (t24 < t23))
 (cond (decide (0 ≤ t24) && decide (t24 < (List.length t22 : Int)))
 (cond (decide (((List.getD t22 (Int.toNat t24) ((0 : Int), (0 : Int))).2) = now))
 (rec now t23 (IntKind.i64.wrap (t24 + (1 : Int))) out t22)
 (let at_ := (IntKind.i64.wrap (((List.getD t22 (Int.toNat t24) ((0 : Int), (0 : Int))).1) - now));
 let change := (IntKind.i64.wrap (((List.getD t22 (Int.toNat t24) ((0 : Int), (0 : Int))).2) - now));
 cond (decide ((86400 : Int) ≤ change))
 (k1 (6 : Int) ([] : List t6y))
 (cond (decide (change ≤ (-86400 : Int)))
 (k1 (6 : Int) ([] : List t6y))
 (Q2v at_ (0 : Int) (8589934592 : Int) (fun rin =>
 cond (!rin)
 (k1 (6 : Int) ([] : List t6y))
 (cond (decide ((0 : Int) < (List.length out : Int)))
 (cond (decide (0 ≤ (IntKind.i64.wrap ((List.length out : Int) - (1 : Int)))) && decide ((IntKind.i64.wrap ((List.length out : Int) - (1 : Int))) < (List.length out : Int)))
 (cond (decide (at_ < (IntKind.i64.wrap (((List.getD out (Int.toNat (IntKind.i64.wrap ((List.length out : Int) - (1 : Int)))) ((0 : Int), (0 : Int))).1) + (604800 : Int)))))
 (k1 (6 : Int) ([] : List t6y))
 (zqlo (fun now2 t232 t242 out2 t222 =>
 rec now2 t232 (IntKind.i64.wrap (t242 + (1 : Int))) out2 t222) at_ t23 t24 out (List.getD t22 (Int.toNat t24) ((0 : Int), (0 : Int))) t22))
 none)
 (zqlo (fun now2 t232 t242 out2 t222 =>
 rec now2 t232 (IntKind.i64.wrap (t242 + (1 : Int))) out2 t222) at_ t23 t24 out (List.getD t22 (Int.toNat t24) ((0 : Int), (0 : Int))) t22)))))))
 none)
 (k2 out)
def zqlr (m : Nat) {β : Type} (k1 : zqlg β) (k2 : zqlh β) : zqli β := lp5 (fun r => zqlq r k1 k2) none m
theorem zqls {β : Type} (i : Nat) (k1 k2) : zqlr (β := β) (i + 1) k1 k2 = zqlq (zqlr i k1 k2) k1 k2 := rfl
def zqlt {β : Type} := hid (zqlr (β := β) fuel)
noncomputable def zqlu : Pb := ⟨506, zqlj, fun _ => zqlt, pl (p := zqlj) zqlf [zqlp] (g := fun i _ => zqlr i) (by kernel_rfl) rfl (by kernel_rfl) (fun _ _ => rfl) fun _ _ _ _ => by kernel_rfl⟩
def zqlv : zqle := fun z k =>
 zqjx z (fun roccurrences lroccurrences =>
 cond (!decide (roccurrences = (0 : Int)))
 (k roccurrences ([] : List t6y))
 (zqlt (fun t3 t2 =>
 k t3 t2) (fun out =>
 k (0 : Int) out) z.2.1 (List.length lroccurrences : Int) (0 : Int) ([] : List t6y) lroccurrences))
def zqlw : zqle := hid zqlv
noncomputable def zqlx : En := ⟨77, .spec (sg [v42y] [] [v27y, v18y] l67y zqlw), pf zqlf [zqlu] [.tmp 2, .tmp 3] Tryz.func77 (by kernel_rfl) fun _ _ => by kernel_rfl⟩
abbrev zqly := {β : Type} → (List Int) → (Bool → Option β) → Option β
def zqlz : zqly := fun s k =>
 zqkb s (fun rIndexFuncintint =>
 let t := (decide ((0 : Int) ≤ rIndexFuncintint));
 k t)
def zqm0 : zqly := hid zqlz
noncomputable def zqm1 : En := ⟨55, .spec (sg [v38y, (false, [.fn 56 []])] [] [v20y] [] zqm0), pf [zqkc] [] [.tmp 4] Tryz.func55 (by kernel_rfl) fun _ _ => by kernel_rfl⟩
abbrev zqm2 := {β : Type} → (List Int) → zqg → (Bool → zqg → Option β) → Option β
def zqm3 : zqm2 := fun s b0_ k =>
 zqkp s b0_ (fun rIndexFuncintint mrIndexFuncintint =>
 let t := (decide ((0 : Int) ≤ rIndexFuncintint));
 k t mrIndexFuncintint)
def zqm4 : zqm2 := hid zqm3
noncomputable def zqm5 : En := ⟨55, .spec (sg [v38y, (false, [.fn 84 [0]])] [b22y] [v20y] [b22y] zqm4), pf [zqkq] [] [.tmp 4] Tryz.func55 (by kernel_rfl) fun _ _ => by kernel_rfl⟩
abbrev zqm6 := {β : Type} → zqg → zq0 → (Int → Option β) → Option β
noncomputable def zqm7 : List En := [zq30, zqm1]
abbrev zqm8 (β : Type) := Int → Option β
abbrev zqm9 (β : Type) := Unit → Option β
abbrev zqma (β : Type) := Int → Int → zq0 → Option β
noncomputable def zqmb : Pc := ⟨46, 0, Q8 58 (Q3 Tryz.f26), ⟨0, [3, 25, 26], [v24y, v18y, v18y], [.cells 71 [.data zq1]]⟩, [(.ret, ⟨0, [4], [v18y], []⟩), (.exit 1, ⟨0, [], [], []⟩)]⟩
def zqmc {β : Type} (rec : zqma β) (k1 : zqm8 β) (k2 : zqm9 β) : zqma β := fun t25 t26 x =>
 cond (decide (t26 < t25))
 (cond (decide ((0 : Int) < t26))
 (cond (decide (0 ≤ t26) && decide (t26 < (List.length x.2.2 : Int)))
 (let e := List.getD x.2.2 (Int.toNat t26) (0 : Int);
 cond (decide (0 ≤ (IntKind.i64.wrap (t26 - (1 : Int)))) && decide ((IntKind.i64.wrap (t26 - (1 : Int))) < (List.length x.2.2 : Int)))
 (let e2 := List.getD x.2.2 (Int.toNat (IntKind.i64.wrap (t26 - (1 : Int)))) (0 : Int);
 cond (decide (e ≤ e2))
 (k1 (6 : Int))
 (rec t25 (IntKind.i64.wrap (t26 + (1 : Int))) x))
 none)
 none)
 (rec t25 (IntKind.i64.wrap (t26 + (1 : Int))) x))
 (k2 ())
def zqmd (m : Nat) {β : Type} (k1 : zqm8 β) (k2 : zqm9 β) : zqma β := lp3 (fun r => zqmc r k1 k2) none m
theorem zqme {β : Type} (i : Nat) (k1 k2) : zqmd (β := β) (i + 1) k1 k2 = zqmc (zqmd i k1 k2) k1 k2 := rfl
def zqmf {β : Type} := hid (zqmd (β := β) fuel)
noncomputable def zqmg : Pb := ⟨58, zqmb, fun _ => zqmf, pl (p := zqmb) zqm7 [] (g := fun i _ => zqmd i) (by kernel_rfl) rfl (by kernel_rfl) (fun _ _ => rfl) fun _ _ _ _ => by kernel_rfl⟩
def zqmh : zqm6 := fun c x k =>
 zq2z x.2.1 (List.length c.1 : Int) (fun rindex =>
 cond (!rindex)
 (k (3 : Int))
 (let t := (decide ((64 : Int) < (List.length x.2.2 : Int)));
 cond t
 (k (5 : Int))
 (zqm0 x.2.2 (fun rContainsFuncintint =>
 cond rContainsFuncintint
 (k (1 : Int))
 (zqmf (fun t4 =>
 k t4) (fun _ =>
 k (0 : Int)) (List.length x.2.2 : Int) (0 : Int) x)))))
def zqmi : zqm6 := hid zqmh
noncomputable def zqmj : En := ⟨26, .spec (sg [v31y, v50y] [] [v18y] [] zqmi), pf zqm7 [zqmg] [.tmp 4] Tryz.func26 (by kernel_rfl) fun _ _ => by kernel_rfl⟩
abbrev zqmk := {β : Type} → t5y → (Int → Int → (List t8y) → Option β) → Option β
noncomputable def zqml : List En := [zqld, zq3v, zqfu]
abbrev zqmm (β : Type) := Int → Int → (List t8y) → Option β
abbrev zqmn (β : Type) := (List t8y) → Option β
abbrev zqmo (β : Type) := Int → Int → (List t8y) → (List t5y) → Option β
noncomputable def zqmp : Pc := ⟨54, 0, Q8 58 (Q3 Tryz.f34), ⟨0, [2, 13, 14, 15], [v27y, (false, [.rowh 1]), v18y, v18y], [.row 119 (.prod (.int .i64) (.slice zq7)), .row 9 .str]⟩, [(.ret, ⟨0, [2, 3, 4], [v27y, v18y, v18y], l56y⟩), (.exit 0, ⟨0, [2], [v27y], l56y⟩)]⟩
abbrev zqmq (β : Type) := Int → Int → (List t8y) → Option β
abbrev zqmr (β : Type) := Int → Int → (List t8y) → (List t5y) → Option β
abbrev zqms (β : Type) := Int → Int → Int → Int → (List t8y) → t7y → (List t5y) → Option β
noncomputable def zqmt : Pc := ⟨54, 0, Q8 231 (Q16 zqmp.c), ⟨0, [2, 5, 7, 8, 13, 14, 15], [v27y, v18y, (false, [.rowh 1]), v18y, (false, [.rowh 2]), v18y, v18y], [.row 119 (.prod (.int .i64) (.slice zq7)), .row 127 zq7, .row 9 .str]⟩, [(.ret, ⟨0, [2, 3, 4], [v27y, v18y, v18y], l56y⟩), (.normal, ⟨0, [2, 13, 14, 15], [v27y, (false, [.rowh 1]), v18y, v18y], [.row 119 (.prod (.int .i64) (.slice zq7)), .row 9 .str]⟩)]⟩
def zqmu {β : Type} (k1 : zqmq β) (k2 : zqmr β) : zqms β := fun i_ e t14 t15 l t t13 =>
 cond (!decide (e = (0 : Int)))
 (let line := (IntKind.i64.wrap (i_ + (1 : Int)));
 k1 line e ([] : List t8y))
 (cond (decide ((0 : Int) < (List.length t : Int)))
 (let l2 := ([((IntKind.i64.wrap (i_ + (1 : Int))), t)] : List t8y);
 cond (decide ((List.length l + List.length l2) * 32 ≤ Q4))
 (let l3 := (l ++ l2);
 k2 t14 t15 l3 t13)
 none)
 (k2 t14 t15 l t13))
def zqmv {β : Type} := hid (zqmu (β := β))
noncomputable def zqmw : Pb := ⟨231, zqmt, fun _ => zqmv, pe (p := zqmt) zqml [] 231 (g := fun _ => zqmu) (by kernel_rfl) fun _ _ => by kernel_rfl⟩
def zqmx {β : Type} (rec : zqmo β) (k1 : zqmm β) (k2 : zqmn β) : zqmo β := fun t14 t15 l t13 =>
 cond (decide (t15 < t14))
 (cond (decide (0 ≤ t15) && decide (t15 < (List.length t13 : Int)))
 (let s := (List.getD t13 (Int.toNat t15) ([] : List UInt8));
 zqlc s (fun rLine lrLine =>
 cond (decide (rLine = (0 : Int)))
 (cond (decide ((0 : Int) < (List.length lrLine : Int)))
 (zqft lrLine (fun rForm =>
 cond (!rForm)
 (zqmv (fun line e l2 =>
 k1 line e l2) (fun t142 t152 l2 t132 =>
 rec t142 (IntKind.i64.wrap (t152 + (1 : Int))) l2 t132) t15 (2 : Int) t14 t15 l lrLine t13)
 (zqmv (fun line e l2 =>
 k1 line e l2) (fun t142 t152 l2 t132 =>
 rec t142 (IntKind.i64.wrap (t152 + (1 : Int))) l2 t132) t15 rLine t14 t15 l lrLine t13)))
 (zqmv (fun line e l2 =>
 k1 line e l2) (fun t142 t152 l2 t132 =>
 rec t142 (IntKind.i64.wrap (t152 + (1 : Int))) l2 t132) t15 rLine t14 t15 l lrLine t13))
 (zqmv (fun line e l2 =>
 k1 line e l2) (fun t142 t152 l2 t132 =>
 rec t142 (IntKind.i64.wrap (t152 + (1 : Int))) l2 t132) t15 rLine t14 t15 l lrLine t13)))
 none)
 (k2 l)
def zqmy (m : Nat) {β : Type} (k1 : zqmm β) (k2 : zqmn β) : zqmo β := lp4 (fun r => zqmx r k1 k2) none m
theorem zqmz {β : Type} (i : Nat) (k1 k2) : zqmy (β := β) (i + 1) k1 k2 = zqmx (zqmy i k1 k2) k1 k2 := rfl
def zqn0 {β : Type} := hid (zqmy (β := β) fuel)
noncomputable def zqn1 : Pb := ⟨58, zqmp, fun _ => zqn0, pl (p := zqmp) zqml [zqmw] (g := fun i _ => zqmy i) (by kernel_rfl) rfl (by kernel_rfl) (fun _ _ => rfl) fun _ _ _ _ => by kernel_rfl⟩
def zqn2 : zqmk := fun text k =>
 cond (decide ((65536 : Int) < (List.length text : Int)))
 (k (0 : Int) (5 : Int) ([] : List t8y))
 (zq3t text ([10] : List UInt8) (fun lrSplit =>
 zqn0 (fun line e l =>
 k line e l) (fun l =>
 k (0 : Int) (0 : Int) l) (List.length lrSplit : Int) (0 : Int) ([] : List t8y) lrSplit))
def zqn3 : zqmk := hid zqn2
noncomputable def zqn4 : En := ⟨34, .spec (sg [v25y] [] [v27y, v18y, v18y] l56y zqn3), pf zqml [zqn1] [.tmp 2, .tmp 3, .tmp 4] Tryz.func34 (by kernel_rfl) fun _ _ => by kernel_rfl⟩
abbrev zqn5 := {β : Type} → zqa → (Int → Option β) → Option β
def zqn6 : zqn5 := fun z k =>
 zqlw z (fun rTransitions lrTransitions =>
 k rTransitions)
def zqn7 : zqn5 := hid zqn6
noncomputable def zqn8 : En := ⟨48, .spec (sg [v42y] [] [v18y] [] zqn7), pf [zqlx] [] [.tmp 2] Tryz.func48 (by kernel_rfl) fun _ _ => by kernel_rfl⟩
abbrev zqn9 := {β : Type} → zqg → zq2 → (Int → Option β) → Option β
noncomputable def zqna : List En := [zqe1, zq48, zq30, zqm5, zq3k]
abbrev zqnb (β : Type) := Int → Option β
abbrev zqnc (β : Type) := Unit → Option β
abbrev zqnd (β : Type) := Bool → zq2 → Option β
noncomputable def zqne : Pc := ⟨91, 0, Q8 425983 (Q3 Tryz.f61), ⟨0, [3, 69], [v24y, v20y], [b35y]⟩, [(.ret, ⟨0, [4], [v18y], []⟩), (.normal, ⟨0, [], [], []⟩)]⟩
abbrev zqnf (β : Type) := Int → Option β
abbrev zqng (β : Type) := Unit → Option β
abbrev zqnh (β : Type) := Bool → zqg → zq2 → Option β
noncomputable def zqni : Pc := ⟨91, 0, Q8 103 (Q3 Tryz.f61), ⟨0, [2, 3, 13], [v24y, v30y, v20y], [b22y, b35y]⟩, [(.ret, ⟨0, [4], [v18y], []⟩), (.normal, ⟨0, [], [], []⟩)]⟩
def zqnj {β : Type} (k1 : zqnb β) (k2 : zqnc β) : zqnd β := fun t69 l =>
 cond t69
 (k1 (3 : Int))
 (cond (decide (l.2.2.2.2.2.2.2.2 = (0 : Int)))
 (let t := (!decide (l.2.2.2.2.2.2.2.1 = (0 : Int)));
 cond t
 (k1 (1 : Int))
 (k2 ()))
 (k2 ()))
def zqnk {β : Type} := hid (zqnj (β := β))
noncomputable def zqnl : Pb := ⟨425983, zqne, fun _ => zqnk, pe (p := zqne) zqna [] 425983 (g := fun _ => zqnj) (by kernel_rfl) fun _ _ => by kernel_rfl⟩
def zqnm {β : Type} (k1 : zqnf β) (k2 : zqng β) : zqnh β := fun t13 c l =>
 cond t13
 (k1 (1 : Int))
 (let t := (decide ((List.length l.2.2.2.2.2.1 : Int) = (0 : Int)));
 cond t
 (k1 (7 : Int))
 (let t2 := (decide ((12 : Int) < (List.length l.2.2.2.2.2.1 : Int)));
 cond t2
 (k1 (5 : Int))
 (zqm4 l.2.2.2.2.2.1 c (fun rContainsFuncintint mrContainsFuncintint =>
 cond rContainsFuncintint
 (k1 (3 : Int))
 (zq3j l.2.2.2.2.2.2.1 (fun rCheck =>
 let t3 := (!decide (rCheck = (0 : Int)));
 cond t3
 (k1 (8 : Int))
 (zq47 l.2.2.2.2.2.2.2.2 (0 : Int) (2 : Int) (fun rin =>
 cond (!rin)
 (k1 (1 : Int))
 (cond (!decide (l.2.2.2.2.2.2.2.2 = (0 : Int)))
 (zq2z l.2.2.2.2.2.2.2.1 (List.length mrContainsFuncintint.2.2.1 : Int) (fun rindex =>
 zqnk (fun t4 =>
 k1 t4) (fun _ =>
 k2 ()) (!rindex) l))
 (zqnk (fun t4 =>
 k1 t4) (fun _ =>
 k2 ()) false l))))))))))
def zqnn {β : Type} := hid (zqnm (β := β))
noncomputable def zqno : Pb := ⟨103, zqni, fun _ => zqnn, pe (p := zqni) zqna [zqnl] 103 (g := fun _ => zqnm) (by kernel_rfl) fun _ _ => by kernel_rfl⟩
def zqnp : zqn9 := fun c l k =>
 zq2z l.2.1 (List.length c.1 : Int) (fun rindex =>
 cond (!rindex)
 (k (3 : Int))
 (cond (decide (l.2.2.1.1 < (1 : Int)))
 (zqnn (fun t4 =>
 k t4) (fun _ =>
 k (0 : Int)) true c l)
 (zqe0 l.2.2.1.1 (fun rday =>
 cond (!rday)
 (zqnn (fun t4 =>
 k t4) (fun _ =>
 k (0 : Int)) true c l)
 (zq47 l.2.2.1.2 (0 : Int) (86399 : Int) (fun rin =>
 cond (!rin)
 (zqnn (fun t4 =>
 k t4) (fun _ =>
 k (0 : Int)) true c l)
 (zq47 l.2.2.2.1 (0 : Int) (2 : Int) (fun rin2 =>
 cond (!rin2)
 (zqnn (fun t4 =>
 k t4) (fun _ =>
 k (0 : Int)) true c l)
 (zq47 l.2.2.2.2.1 (1 : Int) (400 : Int) (fun rin3 =>
 zqnn (fun t4 =>
 k t4) (fun _ =>
 k (0 : Int)) (!rin3) c l))))))))))
def zqnq : zqn9 := hid zqnp
noncomputable def zqnr : En := ⟨61, .spec (sg [v31y, (true, [.data zq3])] [] [v18y] [] zqnq), pf zqna [zqno] [.tmp 4] Tryz.func61 (by kernel_rfl) fun _ _ => by kernel_rfl⟩
abbrev zqns := {β : Type} → zq0 → zqg → (Int → zqg → Option β) → Option β
def zqnt : zqns := fun x t1 k =>
 zqmi t1 x (fun rcheckCalendar =>
 k rcheckCalendar t1)
def zqnu : zqns := hid zqnt
noncomputable def zqnv : En := ⟨25, .spec (sg [v50y, v24y] [b22y] [v18y] [b22y] zqnu), pf [zqmj] [] [.tmp 3] Tryz.func25 (by kernel_rfl) fun _ _ => by kernel_rfl⟩
abbrev zqnw := {β : Type} → zq2 → zqg → (Int → zqg → Option β) → Option β
def zqnx : zqnw := fun l t1 k =>
 zqnq t1 l (fun rcheckLayer =>
 k rcheckLayer t1)
def zqny : zqnw := hid zqnx
noncomputable def zqnz : En := ⟨60, .spec (sg [(true, [.data zq3]), v24y] [b22y] [v18y] [b22y] zqny), pf [zqnr] [] [.tmp 3] Tryz.func60 (by kernel_rfl) fun _ _ => by kernel_rfl⟩
abbrev zqo0 := {β : Type} → (List zq2) → zqg → (Int → zqg → Option β) → Option β
noncomputable def zqo1 : List En := [zq3o, zqnz, zqc3]
abbrev zqo2 (β : Type) := Int → zqg → Option β
abbrev zqo3 (β : Type) := zqg → Option β
abbrev zqo4 (β : Type) := (List zq2) → Int → Int → zqg → (List t9y) → Option β
noncomputable def zqo5 : Pc := ⟨34, 1, Q8 58 (Q3 Tryz.f58), ⟨1, [1, 2, 7, 13, 14, 15], [(false, [.fn 59 []]), (false, [.fn 60 [0]]), (false, [.maph 1]), (false, [.data (.slice zq3)]), v18y, v18y], l59y⟩, [(.ret, ⟨1, [6], [v18y], [b22y]⟩), (.exit 0, ⟨1, [], [], [b22y]⟩)]⟩
def zqo6 {β : Type} (rec : zqo4 β) (k1 : zqo2 β) (k2 : zqo3 β) : zqo4 β := fun t13 t14 t15 b0_ seen =>
 cond (decide (t15 < t14))
 (cond (decide (0 ≤ t15) && decide (t15 < (List.length t13 : Int)))
 (let e := List.getD t13 (Int.toNat t15) (([] : List UInt8), ((0 : Int), (((0 : Int), (0 : Int)), ((0 : Int), ((0 : Int), (([] : List Int), (([] : List t6y), ((0 : Int), (0 : Int)))))))));
 zq3n e (fun rcheckSchedule1 =>
 zqc1 rcheckSchedule1 seen (fun rname lrname =>
 cond (!decide (rname = (0 : Int)))
 (k1 rname b0_)
 (zqny e b0_ (fun rcheckSchedule2 mrcheckSchedule2 =>
 cond (!decide (rcheckSchedule2 = (0 : Int)))
 (k1 rcheckSchedule2 mrcheckSchedule2)
 (rec t13 t14 (IntKind.i64.wrap (t15 + (1 : Int))) mrcheckSchedule2 lrname))))))
 none)
 (k2 b0_)
def zqo7 (m : Nat) {β : Type} (k1 : zqo2 β) (k2 : zqo3 β) : zqo4 β := lp5 (fun r => zqo6 r k1 k2) none m
theorem zqo8 {β : Type} (i : Nat) (k1 k2) : zqo7 (β := β) (i + 1) k1 k2 = zqo6 (zqo7 i k1 k2) k1 k2 := rfl
def zqo9 {β : Type} := hid (zqo7 (β := β) fuel)
noncomputable def zqoa : Pb := ⟨58, zqo5, fun _ => zqo9, pl (p := zqo5) zqo1 [] (g := fun i _ => zqo7 i) (by kernel_rfl) rfl (by kernel_rfl) (fun _ _ => rfl) fun _ _ _ _ => by kernel_rfl⟩
def zqob : zqo0 := fun l b0_ k =>
 let m_ := ([] : List t9y);
 zqo9 (fun t6 b0_2 =>
 k t6 b0_2) (fun b0_2 =>
 k (0 : Int) b0_2) l (List.length l : Int) (0 : Int) b0_ m_
def zqoc : zqo0 := hid zqob
noncomputable def zqod : En := ⟨58, .spec (sg [(false, [.data (.slice zq3)]), (false, [.fn 59 []]), (false, [.fn 60 [0]])] [b22y] [v18y] [b22y] zqoc), pf zqo1 [zqoa] [.tmp 6] Tryz.func58 (by kernel_rfl) fun _ _ => by kernel_rfl⟩
abbrev zqoe := {β : Type} → zqg → zq4 → (Int → Option β) → Option β
noncomputable def zqof : List En := [zqf4, zqod]
abbrev zqog (β : Type) := Int → Option β
abbrev zqoh (β : Type) := Unit → Option β
abbrev zqoi (β : Type) := (List t0y) → Int → Int → zqg → Option β
noncomputable def zqoj : Pc := ⟨40, 0, Q8 250 (Q3 Tryz.f30), ⟨0, [2, 27, 28, 29], [v24y, (false, [.data (.slice (.prod (.int .i64) (.prod (.int .i64) (.prod (.int .i64) (.prod (.int .i64) (.int .i64))))))]), v18y, v18y], [b22y]⟩, [(.ret, ⟨0, [4], [v18y], []⟩), (.exit 0, ⟨0, [], [], []⟩)]⟩
def zqok {β : Type} (rec : zqoi β) (k1 : zqog β) (k2 : zqoh β) : zqoi β := fun t27 t28 t29 c =>
 cond (decide (t29 < t28))
 (cond (decide (0 ≤ t29) && decide (t29 < (List.length t27 : Int)))
 (let e := List.getD t27 (Int.toNat t29) ((0 : Int), ((0 : Int), ((0 : Int), ((0 : Int), (0 : Int)))));
 zqf3 c e (fun rcheckEdit =>
 cond (!decide (rcheckEdit = (0 : Int)))
 (k1 rcheckEdit)
 (rec t27 t28 (IntKind.i64.wrap (t29 + (1 : Int))) c)))
 none)
 (k2 ())
def zqol (m : Nat) {β : Type} (k1 : zqog β) (k2 : zqoh β) : zqoi β := lp4 (fun r => zqok r k1 k2) none m
theorem zqom {β : Type} (i : Nat) (k1 k2) : zqol (β := β) (i + 1) k1 k2 = zqok (zqol i k1 k2) k1 k2 := rfl
def zqon {β : Type} := hid (zqol (β := β) fuel)
noncomputable def zqoo : Pb := ⟨250, zqoj, fun _ => zqon, pl (p := zqoj) zqof [] (g := fun i _ => zqol i) (by kernel_rfl) rfl (by kernel_rfl) (fun _ _ => rfl) fun _ _ _ _ => by kernel_rfl⟩
def zqop : zqoe := fun c s k =>
 cond (decide ((6 : Int) < (List.length s.2.1 : Int)))
 (k (5 : Int))
 (cond (decide ((48 : Int) < (List.length s.2.2 : Int)))
 (k (5 : Int))
 (zqoc s.2.1 c (fun rLayer mrLayer =>
 cond (!decide (rLayer = (0 : Int)))
 (k rLayer)
 (zqon (fun t4 =>
 k t4) (fun _ =>
 k (0 : Int)) s.2.2 (List.length s.2.2 : Int) (0 : Int) mrLayer))))
def zqoq : zqoe := hid zqop
noncomputable def zqor : En := ⟨30, .spec (sg [v31y, v49y] [] [v18y] [] zqoq), pf zqof [zqoo] [.tmp 4] Tryz.func30 (by kernel_rfl) fun _ _ => by kernel_rfl⟩
abbrev zqos := {β : Type} → zq4 → zqg → (Int → zqg → Option β) → Option β
def zqot : zqos := fun s t1 k =>
 zqoq t1 s (fun rcheckSchedule =>
 k rcheckSchedule t1)
def zqou : zqos := hid zqot
noncomputable def zqov : En := ⟨29, .spec (sg [v49y, v24y] [b22y] [v18y] [b22y] zqou), pf [zqor] [] [.tmp 3] Tryz.func29 (by kernel_rfl) fun _ _ => by kernel_rfl⟩
abbrev zqow := {β : Type} → t11y → (Int → Option β) → Option β
noncomputable def zqox : List En := [zq2w]
abbrev zqoy (β : Type) := Int → Option β
abbrev zqoz (β : Type) := Unit → Option β
abbrev zqp0 (β : Type) := t11y → Int → Int → Option β
noncomputable def zqp1 : Pc := ⟨19, 0, Q8 26 (Q3 Tryz.f78), ⟨0, [0, 1, 7, 8], [v32y, (false, [.fn 50 []]), v18y, v18y], []⟩, [(.ret, ⟨0, [4], [v18y], []⟩), (.exit 0, ⟨0, [], [], []⟩)]⟩
def zqp2 {β : Type} (rec : zqp0 β) (k1 : zqoy β) (k2 : zqoz β) : zqp0 β := fun s t7 t8 =>
 cond (decide (t8 < t7))
 (cond (decide (0 ≤ t8) && decide (t8 < (List.length s : Int)))
 (let e := List.getD s (Int.toNat t8) ((0 : Int), ((0 : Int), ((0 : Int), ((0 : Int), ((0 : Int), ((0 : Int), (0 : Int)))))));
 zq2v e (fun rcheckZone1 =>
 cond rcheckZone1
 (k1 t8)
 (rec s t7 (IntKind.i64.wrap (t8 + (1 : Int))))))
 none)
 (k2 ())
def zqp3 (m : Nat) {β : Type} (k1 : zqoy β) (k2 : zqoz β) : zqp0 β := lp3 (fun r => zqp2 r k1 k2) none m
theorem zqp4 {β : Type} (i : Nat) (k1 k2) : zqp3 (β := β) (i + 1) k1 k2 = zqp2 (zqp3 i k1 k2) k1 k2 := rfl
def zqp5 {β : Type} := hid (zqp3 (β := β) fuel)
noncomputable def zqp6 : Pb := ⟨26, zqp1, fun _ => zqp5, pl (p := zqp1) zqox [] (g := fun i _ => zqp3 i) (by kernel_rfl) rfl (by kernel_rfl) (fun _ _ => rfl) fun _ _ _ _ => by kernel_rfl⟩
def zqp7 : zqow := fun s k =>
 zqp5 (fun t4 =>
 k t4) (fun _ =>
 k (-1 : Int)) s (List.length s : Int) (0 : Int)
def zqp8 : zqow := hid zqp7
noncomputable def zqp9 : En := ⟨78, .spec (sg [v32y, (false, [.fn 50 []])] [] [v18y] [] zqp8), pf zqox [zqp6] [.tmp 4] Tryz.func78 (by kernel_rfl) fun _ _ => by kernel_rfl⟩
abbrev zqpa := {β : Type} → t11y → (Bool → Option β) → Option β
def zqpb : zqpa := fun s k =>
 zqp8 s (fun rYearRule =>
 let t := (decide ((0 : Int) ≤ rYearRule));
 k t)
def zqpc : zqpa := hid zqpb
noncomputable def zqpd : En := ⟨49, .spec (sg [v32y, (false, [.fn 50 []])] [] [v20y] [] zqpc), pf [zqp9] [] [.tmp 4] Tryz.func49 (by kernel_rfl) fun _ _ => by kernel_rfl⟩
abbrev zqpe := {β : Type} → zqa → (Int → Option β) → Option β
def zqpf : zqpe := fun z k =>
 zqn7 z (fun rCheck =>
 cond (!decide (rCheck = (0 : Int)))
 (k (8 : Int))
 (cond (!decide ((Int.tmod z.2.1 (60 : Int)) = (0 : Int)))
 (k (8 : Int))
 (zqpc z.2.2 (fun rYearRule =>
 cond rYearRule
 (k (8 : Int))
 (k (0 : Int))))))
def zqpg : zqpe := hid zqpf
noncomputable def zqph : En := ⟨20, .spec (sg [v42y] [] [v18y] [] zqpg), pf [zqpd, zqn8] [] [.tmp 2] Tryz.func20 (by kernel_rfl) fun _ _ => by kernel_rfl⟩
abbrev zqpi := {β : Type} → t4y → (Int → Option β) → Option β
noncomputable def zqpj : List En := [zq1b, zqph, zqc3]
abbrev zqpk (β : Type) := Int → Option β
abbrev zqpl (β : Type) := Unit → Option β
abbrev zqpm (β : Type) := t4y → Int → Int → (List t9y) → Option β
noncomputable def zqpn : Pc := ⟨34, 0, Q8 58 (Q3 Tryz.f18), ⟨0, [1, 2, 7, 13, 14, 15], [(false, [.fn 19 []]), (false, [.fn 20 []]), (false, [.maph 0]), v46y, v18y, v18y], [.map 66 .str .bool false]⟩, [(.ret, ⟨0, [6], [v18y], []⟩), (.exit 0, ⟨0, [], [], []⟩)]⟩
def zqpo {β : Type} (rec : zqpm β) (k1 : zqpk β) (k2 : zqpl β) : zqpm β := fun t13 t14 t15 seen =>
 cond (decide (t15 < t14))
 (cond (decide (0 ≤ t15) && decide (t15 < (List.length t13 : Int)))
 (let e := List.getD t13 (Int.toNat t15) (([] : List UInt8), ((0 : Int), ([] : List zq8)));
 zq1a e (fun rCheck1 =>
 zqc1 rCheck1 seen (fun rname lrname =>
 cond (!decide (rname = (0 : Int)))
 (k1 rname)
 (zqpg e (fun rcheckZone =>
 cond (!decide (rcheckZone = (0 : Int)))
 (k1 rcheckZone)
 (rec t13 t14 (IntKind.i64.wrap (t15 + (1 : Int))) lrname))))))
 none)
 (k2 ())
def zqpp (m : Nat) {β : Type} (k1 : zqpk β) (k2 : zqpl β) : zqpm β := lp4 (fun r => zqpo r k1 k2) none m
theorem zqpq {β : Type} (i : Nat) (k1 k2) : zqpp (β := β) (i + 1) k1 k2 = zqpo (zqpp i k1 k2) k1 k2 := rfl
def zqpr {β : Type} := hid (zqpp (β := β) fuel)
noncomputable def zqps : Pb := ⟨58, zqpn, fun _ => zqpr, pl (p := zqpn) zqpj [] (g := fun i _ => zqpp i) (by kernel_rfl) rfl (by kernel_rfl) (fun _ _ => rfl) fun _ _ _ _ => by kernel_rfl⟩
def zqpt : zqpi := fun l k =>
 let m_ := ([] : List t9y);
 zqpr (fun t6 =>
 k t6) (fun _ =>
 k (0 : Int)) l (List.length l : Int) (0 : Int) m_
def zqpu : zqpi := hid zqpt
noncomputable def zqpv : En := ⟨18, .spec (sg [v46y, (false, [.fn 19 []]), (false, [.fn 20 []])] [] [v18y] [] zqpu), pf zqpj [zqps] [.tmp 6] Tryz.func18 (by kernel_rfl) fun _ _ => by kernel_rfl⟩
abbrev zqpw := {β : Type} → t2y → zqg → (Int → zqg → Option β) → Option β
noncomputable def zqpx : List En := [zq1f, zqnv, zqc3]
abbrev zqpy (β : Type) := Int → zqg → Option β
abbrev zqpz (β : Type) := zqg → Option β
abbrev zqq0 (β : Type) := t2y → Int → Int → zqg → (List t9y) → Option β
noncomputable def zqq1 : Pc := ⟨34, 1, Q8 58 (Q3 Tryz.f23), ⟨1, [1, 2, 7, 13, 14, 15], [(false, [.fn 24 []]), (false, [.fn 25 [0]]), (false, [.maph 1]), v44y, v18y, v18y], l59y⟩, [(.ret, ⟨1, [6], [v18y], [b22y]⟩), (.exit 0, ⟨1, [], [], [b22y]⟩)]⟩
def zqq2 {β : Type} (rec : zqq0 β) (k1 : zqpy β) (k2 : zqpz β) : zqq0 β := fun t13 t14 t15 b0_ seen =>
 cond (decide (t15 < t14))
 (cond (decide (0 ≤ t15) && decide (t15 < (List.length t13 : Int)))
 (let e := List.getD t13 (Int.toNat t15) (([] : List UInt8), ((0 : Int), ([] : List Int)));
 zq1e e (fun rCheck2 =>
 zqc1 rCheck2 seen (fun rname lrname =>
 cond (!decide (rname = (0 : Int)))
 (k1 rname b0_)
 (zqnu e b0_ (fun rCheck3 mrCheck3 =>
 cond (!decide (rCheck3 = (0 : Int)))
 (k1 rCheck3 mrCheck3)
 (rec t13 t14 (IntKind.i64.wrap (t15 + (1 : Int))) mrCheck3 lrname))))))
 none)
 (k2 b0_)
def zqq3 (m : Nat) {β : Type} (k1 : zqpy β) (k2 : zqpz β) : zqq0 β := lp5 (fun r => zqq2 r k1 k2) none m
theorem zqq4 {β : Type} (i : Nat) (k1 k2) : zqq3 (β := β) (i + 1) k1 k2 = zqq2 (zqq3 i k1 k2) k1 k2 := rfl
def zqq5 {β : Type} := hid (zqq3 (β := β) fuel)
noncomputable def zqq6 : Pb := ⟨58, zqq1, fun _ => zqq5, pl (p := zqq1) zqpx [] (g := fun i _ => zqq3 i) (by kernel_rfl) rfl (by kernel_rfl) (fun _ _ => rfl) fun _ _ _ _ => by kernel_rfl⟩
def zqq7 : zqpw := fun l b0_ k =>
 let m_ := ([] : List t9y);
 zqq5 (fun t6 b0_2 =>
 k t6 b0_2) (fun b0_2 =>
 k (0 : Int) b0_2) l (List.length l : Int) (0 : Int) b0_ m_
def zqq8 : zqpw := hid zqq7
noncomputable def zqq9 : En := ⟨23, .spec (sg [v44y, (false, [.fn 24 []]), (false, [.fn 25 [0]])] [b22y] [v18y] [b22y] zqq8), pf zqpx [zqq6] [.tmp 6] Tryz.func23 (by kernel_rfl) fun _ _ => by kernel_rfl⟩
abbrev zqqa := {β : Type} → t1y → zqg → (Int → zqg → Option β) → Option β
noncomputable def zqqb : List En := [zq1j, zqov, zqc3]
abbrev zqqc (β : Type) := Int → zqg → Option β
abbrev zqqd (β : Type) := zqg → Option β
abbrev zqqe (β : Type) := t1y → Int → Int → zqg → (List t9y) → Option β
noncomputable def zqqf : Pc := ⟨34, 1, Q8 58 (Q3 Tryz.f27), ⟨1, [1, 2, 7, 13, 14, 15], [(false, [.fn 28 []]), (false, [.fn 29 [0]]), (false, [.maph 1]), v43y, v18y, v18y], l59y⟩, [(.ret, ⟨1, [6], [v18y], [b22y]⟩), (.exit 0, ⟨1, [], [], [b22y]⟩)]⟩
def zqqg {β : Type} (rec : zqqe β) (k1 : zqqc β) (k2 : zqqd β) : zqqe β := fun t13 t14 t15 b0_ seen =>
 cond (decide (t15 < t14))
 (cond (decide (0 ≤ t15) && decide (t15 < (List.length t13 : Int)))
 (let e := List.getD t13 (Int.toNat t15) (([] : List UInt8), (([] : List zq2), ([] : List t0y)));
 zq1i e (fun rCheck4 =>
 zqc1 rCheck4 seen (fun rname lrname =>
 cond (!decide (rname = (0 : Int)))
 (k1 rname b0_)
 (zqou e b0_ (fun rCheck5 mrCheck5 =>
 cond (!decide (rCheck5 = (0 : Int)))
 (k1 rCheck5 mrCheck5)
 (rec t13 t14 (IntKind.i64.wrap (t15 + (1 : Int))) mrCheck5 lrname))))))
 none)
 (k2 b0_)
def zqqh (m : Nat) {β : Type} (k1 : zqqc β) (k2 : zqqd β) : zqqe β := lp5 (fun r => zqqg r k1 k2) none m
theorem zqqi {β : Type} (i : Nat) (k1 k2) : zqqh (β := β) (i + 1) k1 k2 = zqqg (zqqh i k1 k2) k1 k2 := rfl
def zqqj {β : Type} := hid (zqqh (β := β) fuel)
noncomputable def zqqk : Pb := ⟨58, zqqf, fun _ => zqqj, pl (p := zqqf) zqqb [] (g := fun i _ => zqqh i) (by kernel_rfl) rfl (by kernel_rfl) (fun _ _ => rfl) fun _ _ _ _ => by kernel_rfl⟩
def zqql : zqqa := fun l b0_ k =>
 let m_ := ([] : List t9y);
 zqqj (fun t6 b0_2 =>
 k t6 b0_2) (fun b0_2 =>
 k (0 : Int) b0_2) l (List.length l : Int) (0 : Int) b0_ m_
def zqqm : zqqa := hid zqql
noncomputable def zqqn : En := ⟨27, .spec (sg [v43y, (false, [.fn 28 []]), (false, [.fn 29 [0]])] [b22y] [v18y] [b22y] zqqm), pf zqqb [zqqk] [.tmp 6] Tryz.func27 (by kernel_rfl) fun _ _ => by kernel_rfl⟩
abbrev zqqo := {β : Type} → zqg → (Int → Option β) → Option β
noncomputable def zqqp : List En := [zqc7, zqc3, zqq9, zqqn, zqpv]
abbrev zqqq (β : Type) := Int → Option β
abbrev zqqr (β : Type) := zqg → Option β
abbrev zqqs (β : Type) := t3y → Int → Int → zqg → (List t9y) → Option β
noncomputable def zqqt : Pc := ⟨72, 0, Q8 250 (Q3 Tryz.f7), ⟨0, [1, 4, 39, 40, 41], [v24y, (false, [.maph 1]), v39y, v18y, v18y], l59y⟩, [(.ret, ⟨0, [2], [v18y], []⟩), (.exit 0, ⟨0, [1], [v24y], [b22y]⟩)]⟩
abbrev zqqu (β : Type) := Int → Option β
abbrev zqqv (β : Type) := t3y → Int → Int → zqg → (List t9y) → Option β
abbrev zqqw (β : Type) := Int → t3y → Int → Int → zqg → (List t9y) → zqe → Option β
noncomputable def zqqx : Pc := ⟨72, 0, Q8 231 (Q16 zqqt.c), ⟨0, [1, 4, 6, 7, 39, 40, 41], [v24y, (false, [.maph 1]), v47y, v18y, v39y, v18y, v18y], [b22y, .map 66 .str .bool false, .cells 35 [.data zqf]]⟩, [(.ret, ⟨0, [2], [v18y], []⟩), (.normal, ⟨0, [1, 4, 39, 40, 41], [v24y, (false, [.maph 1]), v39y, v18y, v18y], l59y⟩)]⟩
def zqqy {β : Type} (k1 : zqqu β) (k2 : zqqv β) : zqqw β := fun e t39 t40 t41 c seen p_ =>
 cond (decide (e = (0 : Int)))
 (zqc6 c p_ (fun rcheckPerson =>
 cond (!decide (rcheckPerson = (0 : Int)))
 (k1 rcheckPerson)
 (k2 t39 t40 t41 c seen)))
 (cond (!decide (e = (0 : Int)))
 (k1 e)
 (k2 t39 t40 t41 c seen))
def zqqz {β : Type} := hid (zqqy (β := β))
noncomputable def zqr0 : Pb := ⟨231, zqqx, fun _ => zqqz, pe (p := zqqx) zqqp [] 231 (g := fun _ => zqqy) (by kernel_rfl) fun _ _ => by kernel_rfl⟩
def zqr1 {β : Type} (rec : zqqs β) (k1 : zqqq β) (k2 : zqqr β) : zqqs β := fun t39 t40 t41 c seen =>
 cond (decide (t41 < t40))
 (cond (decide (0 ≤ t41) && decide (t41 < (List.length t39 : Int)))
 (let e := List.getD t39 (Int.toNat t41) (([] : List UInt8), ((0 : Int), (([] : List t6y), ((0 : Int), ((0 : Int), false)))));
 zqc1 e.1 seen (fun rname lrname =>
 cond (decide (e.1 = ([110, 111, 98, 111, 100, 121] : List UInt8)))
 (zqqz (fun t2 =>
 k1 t2) (fun t392 t402 t412 c2 seen2 =>
 rec t392 t402 (IntKind.i64.wrap (t412 + (1 : Int))) c2 seen2) (2 : Int) t39 t40 t41 c lrname e)
 (zqqz (fun t2 =>
 k1 t2) (fun t392 t402 t412 c2 seen2 =>
 rec t392 t402 (IntKind.i64.wrap (t412 + (1 : Int))) c2 seen2) rname t39 t40 t41 c lrname e)))
 none)
 (k2 c)
def zqr2 (m : Nat) {β : Type} (k1 : zqqq β) (k2 : zqqr β) : zqqs β := lp5 (fun r => zqr1 r k1 k2) none m
theorem zqr3 {β : Type} (i : Nat) (k1 k2) : zqr2 (β := β) (i + 1) k1 k2 = zqr1 (zqr2 i k1 k2) k1 k2 := rfl
def zqr4 {β : Type} := hid (zqr2 (β := β) fuel)
noncomputable def zqr5 : Pb := ⟨250, zqqt, fun _ => zqr4, pl (p := zqqt) zqqp [zqr0] (g := fun i _ => zqr2 i) (by kernel_rfl) rfl (by kernel_rfl) (fun _ _ => rfl) fun _ _ _ _ => by kernel_rfl⟩
def zqr6 : zqqo := fun c k =>
 cond (decide ((16 : Int) < (List.length c.1 : Int)))
 (k (5 : Int))
 (cond (decide ((32 : Int) < (List.length c.2.1 : Int)))
 (k (5 : Int))
 (cond (decide ((8 : Int) < (List.length c.2.2.1 : Int)))
 (k (5 : Int))
 (cond (decide ((12 : Int) < (List.length c.2.2.2 : Int)))
 (k (5 : Int))
 (zqpu c.1 (fun rZone =>
 cond (!decide (rZone = (0 : Int)))
 (k rZone)
 (let m_ := ([] : List t9y);
 zqr4 (fun t2 =>
 k t2) (fun c2 =>
 zqq8 c2.2.2.1 c2 (fun rCalendar mrCalendar =>
 cond (!decide (rCalendar = (0 : Int)))
 (k rCalendar)
 (zqqm mrCalendar.2.2.2 mrCalendar (fun rSchedule mrSchedule =>
 k rSchedule)))) c.2.1 (List.length c.2.1 : Int) (0 : Int) c m_))))))
def zqr7 : zqqo := hid zqr6
noncomputable def zqr8 : En := ⟨7, .spec (sg [v31y] [] [v18y] [] zqr7), pf zqqp [zqr5] [.tmp 2] Tryz.func7 (by kernel_rfl) fun _ _ => by kernel_rfl⟩
abbrev zqr9 := {β : Type} → (List t8y) → (zqg → Int → Int → Option β) → Option β
noncomputable def zqra : List En := [zqr8, zqgd, zq9g, zqho, zqgi, zqgx, zqh2, zqg8, zqcy, zqct, zq50, zqd3, zq4v, zq3w, zqfu]
abbrev zqrb (β : Type) := Int → Int → t4y → t3y → t2y → t1y → Option β
abbrev zqrc (β : Type) := t4y → t3y → t2y → t1y → t4y → t3y → t2y → t1y → Option β
abbrev zqrd (β : Type) := (List t8y) → Int → Int → t4y → t3y → t2y → t1y → t4y → t3y → t2y → t1y → Option β
noncomputable def zqre : Pc := ⟨58, 0, Q8 122 (Q3 Tryz.f35), ⟨0, [2, 5, 6, 15, 16, 17], [v24y, v30y, (false, [.maph 2]), v34y, v18y, v18y], [.cells 27 [.trowh 3, .trowh 4, .trowh 5, .trowh 6], .cells 122 [.trowh 7, .trowh 8, .trowh 9, .trowh 10], .fmap 123 [([122, 111, 110, 101], (91, 1)), ([114, 117, 108, 101], (92, 1)), ([112, 101, 114, 115, 111, 110], (93, 1)), ([113, 117, 105, 101, 116], (94, 1)), ([99, 97, 108, 101, 110, 100, 97, 114], (95, 1)), ([100, 97, 121, 115], (96, 1)), ([115, 99, 104, 101, 100, 117, 108, 101], (97, 1)), ([108, 97, 121, 101, 114], (98, 1)), ([109, 101, 109, 98, 101, 114], (99, 1)), ([111, 110], (100, 1)), ([110, 111, 116], (101, 1)), ([111, 110, 108, 121], (101, 1)), ([108, 101, 97, 118, 101], (102, 1)), ([111, 118, 101, 114, 114, 105, 100, 101], (102, 1)), ([115, 119, 97, 112], (102, 1))], .tree 32 o15y, .tree 35 o13y, .tree 71 o16y, .tree 44 o12y, .tree 32 o15y, .tree 35 o13y, .tree 71 o16y, .tree 44 o12y]⟩, [(.ret, ⟨0, [2, 3, 4], [v24y, v18y, v18y], l60y⟩), (.exit 0, ⟨0, [2, 5], [v24y, v30y], [.cells 27 [.trowh 2, .trowh 3, .trowh 4, .trowh 5], .cells 122 [.trowh 6, .trowh 7, .trowh 8, .trowh 9], .tree 32 o15y, .tree 35 o13y, .tree 71 o16y, .tree 44 o12y, .tree 32 o15y, .tree 35 o13y, .tree 71 o16y, .tree 44 o12y]⟩)]⟩
abbrev zqrf (β : Type) := Int → Int → t4y → t3y → t2y → t1y → Option β
abbrev zqrg (β : Type) := (List t8y) → Int → Int → t4y → t3y → t2y → t1y → t4y → t3y → t2y → t1y → Option β
abbrev zqrh (β : Type) := Int → (List t8y) → Int → Int → t8y → t4y → t3y → t2y → t1y → t4y → t3y → t2y → t1y → Option β
noncomputable def zqri : Pc := ⟨58, 0, Q8 231 (Q16 zqre.c), ⟨0, [2, 5, 6, 8, 9, 15, 16, 17], [v24y, v30y, (false, [.maph 2]), (false, [.ptr 3 0]), v18y, v34y, v18y, v18y], [.cells 27 [.trowh 4, .trowh 5, .trowh 6, .trowh 7], .cells 122 [.trowh 8, .trowh 9, .trowh 10, .trowh 11], .fmap 123 [([122, 111, 110, 101], (91, 1)), ([114, 117, 108, 101], (92, 1)), ([112, 101, 114, 115, 111, 110], (93, 1)), ([113, 117, 105, 101, 116], (94, 1)), ([99, 97, 108, 101, 110, 100, 97, 114], (95, 1)), ([100, 97, 121, 115], (96, 1)), ([115, 99, 104, 101, 100, 117, 108, 101], (97, 1)), ([108, 97, 121, 101, 114], (98, 1)), ([109, 101, 109, 98, 101, 114], (99, 1)), ([111, 110], (100, 1)), ([110, 111, 116], (101, 1)), ([111, 110, 108, 121], (101, 1)), ([108, 101, 97, 118, 101], (102, 1)), ([111, 118, 101, 114, 114, 105, 100, 101], (102, 1)), ([115, 119, 97, 112], (102, 1))], .cells 119 [.data (.prod (.int .i64) (.slice zq7))], .tree 32 o15y, .tree 35 o13y, .tree 71 o16y, .tree 44 o12y, .tree 32 o15y, .tree 35 o13y, .tree 71 o16y, .tree 44 o12y]⟩, [(.ret, ⟨0, [2, 3, 4], [v24y, v18y, v18y], l60y⟩), (.normal, ⟨0, [2, 5, 6, 15, 16, 17], [v24y, v30y, (false, [.maph 2]), v34y, v18y, v18y], [.cells 27 [.trowh 3, .trowh 4, .trowh 5, .trowh 6], .cells 122 [.trowh 7, .trowh 8, .trowh 9, .trowh 10], .fmap 123 [([122, 111, 110, 101], (91, 1)), ([114, 117, 108, 101], (92, 1)), ([112, 101, 114, 115, 111, 110], (93, 1)), ([113, 117, 105, 101, 116], (94, 1)), ([99, 97, 108, 101, 110, 100, 97, 114], (95, 1)), ([100, 97, 121, 115], (96, 1)), ([115, 99, 104, 101, 100, 117, 108, 101], (97, 1)), ([108, 97, 121, 101, 114], (98, 1)), ([109, 101, 109, 98, 101, 114], (99, 1)), ([111, 110], (100, 1)), ([110, 111, 116], (101, 1)), ([111, 110, 108, 121], (101, 1)), ([108, 101, 97, 118, 101], (102, 1)), ([111, 118, 101, 114, 114, 105, 100, 101], (102, 1)), ([115, 119, 97, 112], (102, 1))], .tree 32 o15y, .tree 35 o13y, .tree 71 o16y, .tree 44 o12y, .tree 32 o15y, .tree 35 o13y, .tree 71 o16y, .tree 44 o12y]⟩)]⟩
def zqrj {β : Type} (k1 : zqrf β) (k2 : zqrg β) : zqrh β := fun e t15 t16 t17 s b4_ b5_ b6_ b7_ b8_ b9_ b10_ b11_ =>
 cond (!decide (e = (0 : Int)))
 (k1 s.1 e ([] : List zqa) ([] : List zqe) ([] : List zq0) ([] : List zq4))
 (k2 t15 t16 t17 b4_ b5_ b6_ b7_ b8_ b9_ b10_ b11_)
def zqrk {β : Type} := hid (zqrj (β := β))
noncomputable def zqrl : Pb := ⟨231, zqri, fun _ => zqrk, Qgy mixed (X := ⟨look tab, gam zqra, false, false, false, false, q68y, none, 0, []⟩) (p := zqri) Qa zqra rfl [] 231 (g := fun _ => zqrj) (by kernel_rfl) fun _ _ => by kernel_rfl⟩
def zqrm {β : Type} (rec : zqrd β) (k1 : zqrb β) (k2 : zqrc β) : zqrd β := fun t15 t16 t17 b3_ b4_ b5_ b6_ b7_ b8_ b9_ b10_ =>
 cond (decide (t17 < t16))
 (cond (decide (0 ≤ t17) && decide (t17 < (List.length t15 : Int)))
 (let e := List.getD t15 (Int.toNat t17) ((0 : Int), ([] : List zq6));
 zqft e.2 (fun rForm =>
 cond (!rForm)
 (k1 e.1 (2 : Int) ([] : List zqa) ([] : List zqe) ([] : List zq0) ([] : List zq4))
 (cond (decide (0 ≤ (0 : Int)) && decide ((0 : Int) < (List.length e.2 : Int)))
 (let e2 := List.getD e.2 (Int.toNat (0 : Int)) ((0 : Int), (([] : List UInt8), (0 : Int)));
 cond (decide (([122, 111, 110, 101] : List UInt8) = e2.2.1))
 (zq4t e.2 b7_ b8_ b9_ b10_ (fun raddZone lraddZone lraddZone2 lraddZone3 lraddZone4 =>
 zqrk (fun line e3 b1_ b2_ b3_2 b4_2 =>
 k1 line e3 b1_ b2_ b3_2 b4_2) (fun t152 t162 t172 b3_2 b4_2 b5_2 b6_2 b7_2 b8_2 b9_2 b10_2 =>
 rec t152 t162 (IntKind.i64.wrap (t172 + (1 : Int))) b3_2 b4_2 b5_2 b6_2 b7_2 b8_2 b9_2 b10_2) raddZone t15 t16 t17 e b3_ b4_ b5_ b6_ lraddZone lraddZone2 lraddZone3 lraddZone4))
 (cond (decide (([114, 117, 108, 101] : List UInt8) = e2.2.1))
 (zqcr e.2 b7_ b8_ b9_ b10_ (fun raddRule lraddRule lraddRule2 lraddRule3 lraddRule4 =>
 zqrk (fun line e3 b1_ b2_ b3_2 b4_2 =>
 k1 line e3 b1_ b2_ b3_2 b4_2) (fun t152 t162 t172 b3_2 b4_2 b5_2 b6_2 b7_2 b8_2 b9_2 b10_2 =>
 rec t152 t162 (IntKind.i64.wrap (t172 + (1 : Int))) b3_2 b4_2 b5_2 b6_2 b7_2 b8_2 b9_2 b10_2) raddRule t15 t16 t17 e b3_ b4_ b5_ b6_ lraddRule lraddRule2 lraddRule3 lraddRule4))
 (cond (decide (([112, 101, 114, 115, 111, 110] : List UInt8) = e2.2.1))
 (zqg6 e.2 b7_ b8_ b9_ b10_ (fun raddPerson lraddPerson lraddPerson2 lraddPerson3 lraddPerson4 =>
 zqrk (fun line e3 b1_ b2_ b3_2 b4_2 =>
 k1 line e3 b1_ b2_ b3_2 b4_2) (fun t152 t162 t172 b3_2 b4_2 b5_2 b6_2 b7_2 b8_2 b9_2 b10_2 =>
 rec t152 t162 (IntKind.i64.wrap (t172 + (1 : Int))) b3_2 b4_2 b5_2 b6_2 b7_2 b8_2 b9_2 b10_2) raddPerson t15 t16 t17 e b3_ b4_ b5_ b6_ lraddPerson lraddPerson2 lraddPerson3 lraddPerson4))
 (cond (decide (([113, 117, 105, 101, 116] : List UInt8) = e2.2.1))
 (zqcw e.2 b7_ b8_ b9_ b10_ (fun raddQuiet lraddQuiet lraddQuiet2 lraddQuiet3 lraddQuiet4 =>
 zqrk (fun line e3 b1_ b2_ b3_2 b4_2 =>
 k1 line e3 b1_ b2_ b3_2 b4_2) (fun t152 t162 t172 b3_2 b4_2 b5_2 b6_2 b7_2 b8_2 b9_2 b10_2 =>
 rec t152 t162 (IntKind.i64.wrap (t172 + (1 : Int))) b3_2 b4_2 b5_2 b6_2 b7_2 b8_2 b9_2 b10_2) raddQuiet t15 t16 t17 e b3_ b4_ b5_ b6_ lraddQuiet lraddQuiet2 lraddQuiet3 lraddQuiet4))
 (cond (decide (([99, 97, 108, 101, 110, 100, 97, 114] : List UInt8) = e2.2.1))
 (zqgb e.2 b7_ b8_ b9_ b10_ (fun raddCalendar lraddCalendar lraddCalendar2 lraddCalendar3 lraddCalendar4 =>
 zqrk (fun line e3 b1_ b2_ b3_2 b4_2 =>
 k1 line e3 b1_ b2_ b3_2 b4_2) (fun t152 t162 t172 b3_2 b4_2 b5_2 b6_2 b7_2 b8_2 b9_2 b10_2 =>
 rec t152 t162 (IntKind.i64.wrap (t172 + (1 : Int))) b3_2 b4_2 b5_2 b6_2 b7_2 b8_2 b9_2 b10_2) raddCalendar t15 t16 t17 e b3_ b4_ b5_ b6_ lraddCalendar lraddCalendar2 lraddCalendar3 lraddCalendar4))
 (cond (decide (([100, 97, 121, 115] : List UInt8) = e2.2.1))
 (zq9e e.2 b7_ b8_ b9_ b10_ (fun raddDays lraddDays lraddDays2 lraddDays3 lraddDays4 =>
 zqrk (fun line e3 b1_ b2_ b3_2 b4_2 =>
 k1 line e3 b1_ b2_ b3_2 b4_2) (fun t152 t162 t172 b3_2 b4_2 b5_2 b6_2 b7_2 b8_2 b9_2 b10_2 =>
 rec t152 t162 (IntKind.i64.wrap (t172 + (1 : Int))) b3_2 b4_2 b5_2 b6_2 b7_2 b8_2 b9_2 b10_2) raddDays t15 t16 t17 e b3_ b4_ b5_ b6_ lraddDays lraddDays2 lraddDays3 lraddDays4))
 (cond (decide (([115, 99, 104, 101, 100, 117, 108, 101] : List UInt8) = e2.2.1))
 (zq4y e.2 b7_ b8_ b9_ b10_ (fun raddSchedule lraddSchedule lraddSchedule2 lraddSchedule3 lraddSchedule4 =>
 zqrk (fun line e3 b1_ b2_ b3_2 b4_2 =>
 k1 line e3 b1_ b2_ b3_2 b4_2) (fun t152 t162 t172 b3_2 b4_2 b5_2 b6_2 b7_2 b8_2 b9_2 b10_2 =>
 rec t152 t162 (IntKind.i64.wrap (t172 + (1 : Int))) b3_2 b4_2 b5_2 b6_2 b7_2 b8_2 b9_2 b10_2) raddSchedule t15 t16 t17 e b3_ b4_ b5_ b6_ lraddSchedule lraddSchedule2 lraddSchedule3 lraddSchedule4))
 (cond (decide (([108, 97, 121, 101, 114] : List UInt8) = e2.2.1))
 (zqgg e.2 b7_ b8_ b9_ b10_ (fun raddLayer lraddLayer lraddLayer2 lraddLayer3 lraddLayer4 =>
 zqrk (fun line e3 b1_ b2_ b3_2 b4_2 =>
 k1 line e3 b1_ b2_ b3_2 b4_2) (fun t152 t162 t172 b3_2 b4_2 b5_2 b6_2 b7_2 b8_2 b9_2 b10_2 =>
 rec t152 t162 (IntKind.i64.wrap (t172 + (1 : Int))) b3_2 b4_2 b5_2 b6_2 b7_2 b8_2 b9_2 b10_2) raddLayer t15 t16 t17 e b3_ b4_ b5_ b6_ lraddLayer lraddLayer2 lraddLayer3 lraddLayer4))
 (cond (decide (([109, 101, 109, 98, 101, 114] : List UInt8) = e2.2.1))
 (zqgv e.2 b7_ b8_ b9_ b10_ (fun raddMember lraddMember lraddMember2 lraddMember3 lraddMember4 =>
 zqrk (fun line e3 b1_ b2_ b3_2 b4_2 =>
 k1 line e3 b1_ b2_ b3_2 b4_2) (fun t152 t162 t172 b3_2 b4_2 b5_2 b6_2 b7_2 b8_2 b9_2 b10_2 =>
 rec t152 t162 (IntKind.i64.wrap (t172 + (1 : Int))) b3_2 b4_2 b5_2 b6_2 b7_2 b8_2 b9_2 b10_2) raddMember t15 t16 t17 e b3_ b4_ b5_ b6_ lraddMember lraddMember2 lraddMember3 lraddMember4))
 (cond (decide (([111, 110] : List UInt8) = e2.2.1))
 (zqd1 e.2 b7_ b8_ b9_ b10_ (fun raddWindow lraddWindow lraddWindow2 lraddWindow3 lraddWindow4 =>
 zqrk (fun line e3 b1_ b2_ b3_2 b4_2 =>
 k1 line e3 b1_ b2_ b3_2 b4_2) (fun t152 t162 t172 b3_2 b4_2 b5_2 b6_2 b7_2 b8_2 b9_2 b10_2 =>
 rec t152 t162 (IntKind.i64.wrap (t172 + (1 : Int))) b3_2 b4_2 b5_2 b6_2 b7_2 b8_2 b9_2 b10_2) raddWindow t15 t16 t17 e b3_ b4_ b5_ b6_ lraddWindow lraddWindow2 lraddWindow3 lraddWindow4))
 (cond (decide (([110, 111, 116] : List UInt8) = e2.2.1))
 (zqh0 e.2 b7_ b8_ b9_ b10_ (fun raddMode lraddMode lraddMode2 lraddMode3 lraddMode4 =>
 zqrk (fun line e3 b1_ b2_ b3_2 b4_2 =>
 k1 line e3 b1_ b2_ b3_2 b4_2) (fun t152 t162 t172 b3_2 b4_2 b5_2 b6_2 b7_2 b8_2 b9_2 b10_2 =>
 rec t152 t162 (IntKind.i64.wrap (t172 + (1 : Int))) b3_2 b4_2 b5_2 b6_2 b7_2 b8_2 b9_2 b10_2) raddMode t15 t16 t17 e b3_ b4_ b5_ b6_ lraddMode lraddMode2 lraddMode3 lraddMode4))
 (cond (decide (([111, 110, 108, 121] : List UInt8) = e2.2.1))
 (zqh0 e.2 b7_ b8_ b9_ b10_ (fun raddMode lraddMode lraddMode2 lraddMode3 lraddMode4 =>
 zqrk (fun line e3 b1_ b2_ b3_2 b4_2 =>
 k1 line e3 b1_ b2_ b3_2 b4_2) (fun t152 t162 t172 b3_2 b4_2 b5_2 b6_2 b7_2 b8_2 b9_2 b10_2 =>
 rec t152 t162 (IntKind.i64.wrap (t172 + (1 : Int))) b3_2 b4_2 b5_2 b6_2 b7_2 b8_2 b9_2 b10_2) raddMode t15 t16 t17 e b3_ b4_ b5_ b6_ lraddMode lraddMode2 lraddMode3 lraddMode4))
 (cond (decide (([108, 101, 97, 118, 101] : List UInt8) = e2.2.1))
 (zqhm e.2 b7_ b8_ b9_ b10_ (fun raddEdit lraddEdit lraddEdit2 lraddEdit3 lraddEdit4 =>
 zqrk (fun line e3 b1_ b2_ b3_2 b4_2 =>
 k1 line e3 b1_ b2_ b3_2 b4_2) (fun t152 t162 t172 b3_2 b4_2 b5_2 b6_2 b7_2 b8_2 b9_2 b10_2 =>
 rec t152 t162 (IntKind.i64.wrap (t172 + (1 : Int))) b3_2 b4_2 b5_2 b6_2 b7_2 b8_2 b9_2 b10_2) raddEdit t15 t16 t17 e b3_ b4_ b5_ b6_ lraddEdit lraddEdit2 lraddEdit3 lraddEdit4))
 (cond (decide (([111, 118, 101, 114, 114, 105, 100, 101] : List UInt8) = e2.2.1))
 (zqhm e.2 b7_ b8_ b9_ b10_ (fun raddEdit lraddEdit lraddEdit2 lraddEdit3 lraddEdit4 =>
 zqrk (fun line e3 b1_ b2_ b3_2 b4_2 =>
 k1 line e3 b1_ b2_ b3_2 b4_2) (fun t152 t162 t172 b3_2 b4_2 b5_2 b6_2 b7_2 b8_2 b9_2 b10_2 =>
 rec t152 t162 (IntKind.i64.wrap (t172 + (1 : Int))) b3_2 b4_2 b5_2 b6_2 b7_2 b8_2 b9_2 b10_2) raddEdit t15 t16 t17 e b3_ b4_ b5_ b6_ lraddEdit lraddEdit2 lraddEdit3 lraddEdit4))
 (cond (decide (([115, 119, 97, 112] : List UInt8) = e2.2.1))
 (zqhm e.2 b7_ b8_ b9_ b10_ (fun raddEdit lraddEdit lraddEdit2 lraddEdit3 lraddEdit4 =>
 zqrk (fun line e3 b1_ b2_ b3_2 b4_2 =>
 k1 line e3 b1_ b2_ b3_2 b4_2) (fun t152 t162 t172 b3_2 b4_2 b5_2 b6_2 b7_2 b8_2 b9_2 b10_2 =>
 rec t152 t162 (IntKind.i64.wrap (t172 + (1 : Int))) b3_2 b4_2 b5_2 b6_2 b7_2 b8_2 b9_2 b10_2) raddEdit t15 t16 t17 e b3_ b4_ b5_ b6_ lraddEdit lraddEdit2 lraddEdit3 lraddEdit4))
 (none))))))))))))))))
 none)))
 none)
 (k2 b3_ b4_ b5_ b6_ b7_ b8_ b9_ b10_)
def zqrn (m : Nat) {β : Type} (k1 : zqrb β) (k2 : zqrc β) : zqrd β := lp11 (fun r => zqrm r k1 k2) none m
theorem zqro {β : Type} (i : Nat) (k1 k2) : zqrn (β := β) (i + 1) k1 k2 = zqrm (zqrn i k1 k2) k1 k2 := rfl
def zqrp {β : Type} := hid (zqrn (β := β) fuel)
noncomputable def zqrq : Pb := ⟨122, zqre, fun _ => zqrp, Q3f mixed (X := ⟨look tab, gam zqra, false, false, false, false, q68y, none, 0, []⟩) (p := zqre) Qa zqra rfl [zqrl] (g := fun i _ => zqrn i) (by kernel_rfl) rfl (by kernel_rfl) (fun _ _ => rfl) fun _ _ _ _ => by kernel_rfl⟩
def zqrr : zqr9 := fun l k =>
 cond true
 (cond true
 (cond true
 (cond true
 (cond true
 (cond true
 (cond true
 (cond true
 (cond true
 (cond true
 (cond true
 (cond true
 (cond true
 (cond true
 (cond true
 (zqrp (fun line e b1_ b2_ b3_ b4_ =>
 k (b1_, (b2_, (b3_, b4_))) line e) (fun b2_ b3_ b4_ b5_ b6_ b7_ b8_ b9_ =>
 zqr7 (b6_, (b7_, (b8_, b9_))) (fun rCheck =>
 cond (!decide (rCheck = (0 : Int)))
 (k zqp (0 : Int) rCheck)
 (k (b6_, (b7_, (b8_, b9_))) (0 : Int) (0 : Int)))) l (List.length l : Int) (0 : Int) ([] : List zqa) ([] : List zqe) ([] : List zq0) ([] : List zq4) ([] : List zqa) ([] : List zqe) ([] : List zq0) ([] : List zq4))
 none)
 none)
 none)
 none)
 none)
 none)
 none)
 none)
 none)
 none)
 none)
 none)
 none)
 none)
 none
def zqrs : zqr9 := hid zqrr
noncomputable def zqrt : En := ⟨35, .spec (sg [v34y] [] [v31y, v18y, v18y] [] zqrs), Q61 mixed (X := ⟨look tab, gam zqra, false, false, false, false, q68y, none, 0, []⟩) Qa zqra rfl [zqrq] [.cell 2 27, .tmp 3, .tmp 4] Tryz.func35 (by kernel_rfl) fun _ _ => by kernel_rfl⟩
abbrev zqru := {β : Type} → t5y → (zqg → Int → Int → Option β) → Option β
def zqrv : zqru := fun text k =>
 zqn3 text (fun rParse rParse2 lrParse =>
 cond (!decide (rParse2 = (0 : Int)))
 (k zqp rParse rParse2)
 (zqrs lrParse (fun rBuild rBuild2 rBuild3 =>
 k rBuild rBuild2 rBuild3)))
def zqrw : zqru := hid zqrv
noncomputable def zqrx : En := ⟨13, .spec (sg [v25y] [] [v31y, v18y, v18y] [] zqrw), pf [zqrt, zqn4] [] [.cell 2 27, .tmp 3, .tmp 4] Tryz.func13 (by kernel_rfl) fun _ _ => by kernel_rfl⟩
abbrev zqry := {β : Type} → (Bool → Option β) → Option β
def zqrz : zqry := fun k =>
 zq1m  (fun rtext =>
 zqrw rtext (fun rLoad rLoad2 rLoad3 =>
 zqrw ([122, 111, 110, 101, 32, 122, 32, 43, 48, 48, 58, 48, 48, 10, 112, 101, 114, 115, 111, 110, 32, 97, 32, 122, 10, 109, 101, 109, 98, 101, 114, 32, 97, 10] : List UInt8) (fun rLoad4 rLoad5 rLoad6 =>
 zqrw ([112, 101, 114, 115, 111, 110, 32, 97, 32, 121, 10] : List UInt8) (fun rLoad7 rLoad8 rLoad9 =>
 zqds rLoad ([97] : List UInt8) (fun rPerson rPerson2 =>
 zqdw rLoad ([115] : List UInt8) (fun rSchedule rSchedule2 =>
 cond (decide (rLoad3 = (0 : Int)))
 (cond (decide (rLoad2 = (0 : Int)))
 (cond (decide (rLoad6 = (9 : Int)))
 (cond (decide (rLoad5 = (3 : Int)))
 (cond (decide (rLoad9 = (3 : Int)))
 (cond (decide (rLoad8 = (1 : Int)))
 (cond rPerson2
 (cond rSchedule2
 (cond (decide (rPerson = (0 : Int)))
 (cond (decide (rSchedule = (0 : Int)))
 (cond (decide ((List.length rLoad.2.2.2 : Int) = (1 : Int)))
 (cond (decide (0 ≤ (0 : Int)) && decide ((0 : Int) < (List.length rLoad.2.2.2 : Int)))
 (let e := List.getD rLoad.2.2.2 (Int.toNat (0 : Int)) (([] : List UInt8), (([] : List zq2), ([] : List t0y)));
 cond (decide ((List.length e.2.1 : Int) = (1 : Int)))
 (cond (decide (0 ≤ (0 : Int)) && decide ((0 : Int) < (List.length rLoad.2.2.2 : Int)))
 (let e2 := List.getD rLoad.2.2.2 (Int.toNat (0 : Int)) (([] : List UInt8), (([] : List zq2), ([] : List t0y)));
 cond (decide (0 ≤ (0 : Int)) && decide ((0 : Int) < (List.length e2.2.1 : Int)))
 (let e3 := List.getD e2.2.1 (Int.toNat (0 : Int)) (([] : List UInt8), ((0 : Int), (((0 : Int), (0 : Int)), ((0 : Int), ((0 : Int), (([] : List Int), (([] : List t6y), ((0 : Int), (0 : Int)))))))));
 let t := (decide (e3.2.2.2.1 = (2 : Int)));
 k t)
 none)
 none)
 (k false))
 none)
 (k false))
 (k false))
 (k false))
 (k false))
 (k false))
 (k false))
 (k false))
 (k false))
 (k false))
 (k false))
 (k false)))))))
def zqs0 : zqry := hid zqrz
noncomputable def zqs1 : En := ⟨9, .spec (sg [] [] [v20y] [] zqs0), pf [zq1n, zqrx, zqdt, zqdx] [] [.tmp 0] Tryz.func9 (by kernel_rfl) fun _ _ => by kernel_rfl⟩
theorem zqs2 : SpecOk Tryz.prog 9 (sg [] [] [v20y] [] zqs0) := zqs1.ok
abbrev zqs3 := {β : Type} → Int → (Bool → Option β) → Option β
noncomputable def zqs4 : List En := [zqu, zqs1, zq17, zqr8]
abbrev zqs5 (β : Type) := Int → t4y → t3y → t2y → t1y → Option β
abbrev zqs6 (β : Type) := Int → Int → t4y → t3y → t2y → t1y → Option β
noncomputable def zqs7 : Pc := ⟨195, 0, Q8 250 (Q3 Tryz.f3), ⟨0, [0, 3, 4, 5], [v40y, v24y, (false, [.fn 6 []]), v18y], l57y⟩, [(.exit 0, ⟨0, [0, 3, 4], [v40y, v24y, (false, [.fn 6 []])], l57y⟩)]⟩
abbrev zqs8 (β : Type) := t5y → Int → Int → Int → Int → Int → Int → Int → t4y → t3y → t2y → t1y → (List Int) → t10y → Option β
abbrev zqs9 (β : Type) := Int → Int → t5y → Int → Int → Int → Int → Int → Int → Int → t4y → t3y → t2y → t1y → (List Int) → t10y → Option β
noncomputable def zqsa : Pc := ⟨195, 0, Q8 1018 (Q3 Tryz.f3), ⟨0, [0, 3, 4, 6, 7], [v40y, v24y, (false, [.fn 6 []]), v30y, v18y], l54y⟩, [(.exit 2, ⟨0, [3, 4, 6], [v24y, (false, [.fn 6 []]), v30y], l54y⟩)]⟩
abbrev zqsb (β : Type) := zq2 → t5y → t4y → t3y → t2y → t1y → (List zq2) → (List t0y) → Option β
abbrev zqsc (β : Type) := Int → zq2 → t5y → t4y → t3y → t2y → t1y → (List zq2) → (List t0y) → Option β
noncomputable def zqsd : Pc := ⟨195, 0, Q8 4090 (Q3 Tryz.f3), ⟨0, [3, 4, 6, 8, 9], [v24y, (false, [.fn 6 []]), v30y, v47y, v18y], l52y⟩, [(.exit 4, ⟨0, [3, 4, 6, 8], [v24y, (false, [.fn 6 []]), v30y, v47y], l52y⟩)]⟩
abbrev zqse (β : Type) := zq2 → t5y → t4y → t3y → t2y → t1y → (List zq2) → (List t0y) → Option β
abbrev zqsf (β : Type) := Int → zq2 → t5y → t4y → t3y → t2y → t1y → (List zq2) → (List t0y) → Option β
noncomputable def zqsg : Pc := ⟨195, 0, Q8 8186 (Q3 Tryz.f3), ⟨0, [3, 4, 6, 8, 10], [v24y, (false, [.fn 6 []]), v30y, v47y, v18y], l52y⟩, [(.exit 6, ⟨0, [3, 4, 6, 8], [v24y, (false, [.fn 6 []]), v30y, v47y], l52y⟩)]⟩
abbrev zqsh (β : Type) := zq2 → t4y → t3y → t2y → t1y → Option β
abbrev zqsi (β : Type) := Int → zq2 → zq4 → t4y → t3y → t2y → t1y → Option β
noncomputable def zqsj : Pc := ⟨195, 0, Q8 16378 (Q3 Tryz.f3), ⟨0, [3, 4, 6, 8, 11], [v24y, (false, [.fn 6 []]), v30y, v47y, v18y], [b37y, b35y, .cells 44 [.data zq5], .row 32 zqb, .row 35 zqf, .row 71 zq1, .row 44 zq5]⟩, [(.exit 8, ⟨0, [3, 6], [v24y, v30y], [b48y, b35y, .row 32 zqb, .row 35 zqf, .row 71 zq1, .row 44 zq5]⟩)]⟩
def zqsk {β : Type} (rec : zqs6 β) (k1 : zqs5 β) : zqs6 β := fun n i_ b1_ b2_ b3_ b4_ =>
 cond (decide (i_ < (32 : Int)))
 (zqt i_ (fun rResolveLimits1 =>
 let l := ([(rResolveLimits1, ((0 : Int), (([] : List t6y), ((0 : Int), ((0 : Int), false)))))] : List zqe);
 cond (decide ((List.length b2_ + List.length l) * 72 ≤ Q4))
 (let l2 := (b2_ ++ l);
 let i_2 := (IntKind.i64.wrap (i_ + (1 : Int)));
 rec n i_2 b1_ l2 b3_ b4_)
 none))
 (k1 n b1_ b2_ b3_ b4_)
def zqsl (m : Nat) {β : Type} (k1 : zqs5 β) : zqs6 β := lp6 (fun r => zqsk r k1) none m
theorem zqsm {β : Type} (i : Nat) (k1) : zqsl (β := β) (i + 1) k1 = zqsk (zqsl i k1) k1 := rfl
def zqsn {β : Type} := hid (zqsl (β := β) fuel)
noncomputable def zqso : Pb := ⟨250, zqs7, fun _ => zqsn, Q3f mixed (X := ⟨look tab, gam zqs4, false, false, false, false, [(44, o17y)], none, 0, [(27, [0, 1, 2, 3]), (40, [0, 1, 2, 3, 4, 5, 6, 7, 8, 9]), (44, [0, 1, 2])]⟩) (p := zqs7) Qa zqs4 rfl [] (g := fun i _ => zqsl i) (by kernel_rfl) rfl (by kernel_rfl) (fun _ _ => rfl) fun _ _ _ _ => by kernel_rfl⟩
def zqsp {β : Type} (rec : zqs9 β) (k1 : zqs8 β) : zqs9 β := fun n i_ l l2 l3 l4 l5 l6 l7 l8 b2_ b3_ b4_ b5_ b6_ b7_ =>
 cond (decide (i_ < (12 : Int)))
 (let l9 := ([(Int.tmod (IntKind.i64.wrap n) (32 : Int))] : List Int);
 cond (decide ((List.length b6_ + List.length l9) * 8 ≤ Q4))
 (let l10 := (b6_ ++ l9);
 let i_2 := (IntKind.i64.wrap (i_ + (1 : Int)));
 rec n i_2 l l2 l3 l4 l5 l6 l7 l8 b2_ b3_ b4_ b5_ l10 b7_)
 none)
 (k1 l l2 l3 l4 l5 l6 l7 l8 b2_ b3_ b4_ b5_ b6_ b7_)
def zqsq (m : Nat) {β : Type} (k1 : zqs8 β) : zqs9 β := lp16 (fun r => zqsp r k1) none m
theorem zqsr {β : Type} (i : Nat) (k1) : zqsq (β := β) (i + 1) k1 = zqsp (zqsq i k1) k1 := rfl
def zqss {β : Type} := hid (zqsq (β := β) fuel)
noncomputable def zqst : Pb := ⟨1018, zqsa, fun _ => zqss, Q3f mixed (X := ⟨look tab, gam zqs4, false, false, false, false, [(44, o17y)], none, 0, [(27, [0, 1, 2, 3]), (40, [0, 1, 2, 3, 4, 5, 6, 7, 8, 9]), (44, [0, 1, 2])]⟩) (p := zqsa) Qa zqs4 rfl [] (g := fun i _ => zqsq i) (by kernel_rfl) rfl (by kernel_rfl) (fun _ _ => rfl) fun _ _ _ _ => by kernel_rfl⟩
def zqsu {β : Type} (rec : zqsc β) (k1 : zqsb β) : zqsc β := fun i_ l s b3_ b4_ b5_ b6_ b7_ b8_ =>
 cond (decide (i_ < (6 : Int)))
 (zqt i_ (fun rResolveLimits1 =>
 let l2 := ([(rResolveLimits1, l.2)] : List zq2);
 cond (decide ((List.length b7_ + List.length l2) * 120 ≤ Q4))
 (let l3 := (b7_ ++ l2);
 let i_2 := (IntKind.i64.wrap (i_ + (1 : Int)));
 rec i_2 (rResolveLimits1, l.2) s b3_ b4_ b5_ b6_ l3 b8_)
 none))
 (k1 l s b3_ b4_ b5_ b6_ b7_ b8_)
def zqsv (m : Nat) {β : Type} (k1 : zqsb β) : zqsc β := lp9 (fun r => zqsu r k1) none m
theorem zqsw {β : Type} (i : Nat) (k1) : zqsv (β := β) (i + 1) k1 = zqsu (zqsv i k1) k1 := rfl
def zqsx {β : Type} := hid (zqsv (β := β) fuel)
noncomputable def zqsy : Pb := ⟨4090, zqsd, fun _ => zqsx, Q3f mixed (X := ⟨look tab, gam zqs4, false, false, false, false, [(44, o17y)], none, 0, [(27, [0, 1, 2, 3]), (40, [0, 1, 2, 3, 4, 5, 6, 7, 8, 9]), (44, [0, 1, 2])]⟩) (p := zqsd) Qa zqs4 rfl [] (g := fun i _ => zqsv i) (by kernel_rfl) rfl (by kernel_rfl) (fun _ _ => rfl) fun _ _ _ _ => by kernel_rfl⟩
def zqsz {β : Type} (rec : zqsf β) (k1 : zqse β) : zqsf β := fun i_ l s b3_ b4_ b5_ b6_ b7_ b8_ =>
 cond (decide (i_ < (48 : Int)))
 (let l2 := ([((0 : Int), ((0 : Int), ((0 : Int), (i_, (IntKind.i64.wrap (i_ + (1 : Int)))))))] : List t0y);
 cond (decide ((List.length b8_ + List.length l2) * 40 ≤ Q4))
 (let l3 := (b8_ ++ l2);
 let i_2 := (IntKind.i64.wrap (i_ + (1 : Int)));
 rec i_2 l s b3_ b4_ b5_ b6_ b7_ l3)
 none)
 (k1 l s b3_ b4_ b5_ b6_ b7_ b8_)
def zqt0 (m : Nat) {β : Type} (k1 : zqse β) : zqsf β := lp9 (fun r => zqsz r k1) none m
theorem zqt1 {β : Type} (i : Nat) (k1) : zqt0 (β := β) (i + 1) k1 = zqsz (zqt0 i k1) k1 := rfl
def zqt2 {β : Type} := hid (zqt0 (β := β) fuel)
noncomputable def zqt3 : Pb := ⟨8186, zqsg, fun _ => zqt2, Q3f mixed (X := ⟨look tab, gam zqs4, false, false, false, false, [(44, o17y)], none, 0, [(27, [0, 1, 2, 3]), (40, [0, 1, 2, 3, 4, 5, 6, 7, 8, 9]), (44, [0, 1, 2])]⟩) (p := zqsg) Qa zqs4 rfl [] (g := fun i _ => zqt0 i) (by kernel_rfl) rfl (by kernel_rfl) (fun _ _ => rfl) fun _ _ _ _ => by kernel_rfl⟩
def zqt4 {β : Type} (rec : zqsi β) (k1 : zqsh β) : zqsi β := fun i_ l s b3_ b4_ b5_ b6_ =>
 cond (decide (i_ < (12 : Int)))
 (zqt i_ (fun rResolveLimits1 =>
 let l2 := ([(rResolveLimits1, s.2)] : List zq4);
 cond (decide ((List.length b6_ + List.length l2) * 64 ≤ Q4))
 (let l3 := (b6_ ++ l2);
 let i_2 := (IntKind.i64.wrap (i_ + (1 : Int)));
 rec i_2 l (rResolveLimits1, s.2) b3_ b4_ b5_ l3)
 none))
 (k1 l b3_ b4_ b5_ b6_)
def zqt5 (m : Nat) {β : Type} (k1 : zqsh β) : zqsi β := lp7 (fun r => zqt4 r k1) none m
theorem zqt6 {β : Type} (i : Nat) (k1) : zqt5 (β := β) (i + 1) k1 = zqt4 (zqt5 i k1) k1 := rfl
def zqt7 {β : Type} := hid (zqt5 (β := β) fuel)
noncomputable def zqt8 : Pb := ⟨16378, zqsj, fun _ => zqt7, Q3f mixed (X := ⟨look tab, gam zqs4, false, false, false, false, [(44, o17y)], none, 0, [(27, [0, 1, 2, 3]), (40, [0, 1, 2, 3, 4, 5, 6, 7, 8, 9]), (44, [0, 1, 2])]⟩) (p := zqsj) Qa zqs4 rfl [] (g := fun i _ => zqt5 i) (by kernel_rfl) rfl (by kernel_rfl) (fun _ _ => rfl) fun _ _ _ _ => by kernel_rfl⟩
def zqt9 : zqs3 := fun n k =>
 let l := ([(([122] : List UInt8), ((0 : Int), ([] : List zq8)))] : List zqa);
 zqsn (fun n2 b1_ b2_ b3_ b4_ =>
 zqss (fun l2 l3 l4 l5 l6 l7 l8 l9 b2_2 b3_2 b4_2 b5_ b6_ b7_ =>
 zqsx (fun l10 s b3_3 b4_3 b5_2 b6_2 b7_2 b8_ =>
 zqt2 (fun l11 s2 b3_4 b4_4 b5_3 b6_3 b7_3 b8_2 =>
 zqt7 (fun l12 b2_3 b3_5 b4_5 b5_4 =>
 zqr7 (b2_3, (b3_5, (b4_5, b5_4))) (fun rCheck =>
 cond (!decide (rCheck = (0 : Int)))
 (k false)
 (zq16 (b2_3, (b3_5, (b4_5, b5_4))) (fun lrCopy lrCopy2 lrCopy3 lrCopy4 =>
 let l13 := ([(([109, 111, 114, 101] : List UInt8), ((0 : Int), (([] : List t6y), ((0 : Int), ((0 : Int), false)))))] : List zqe);
 cond (decide ((List.length lrCopy2 + List.length l13) * 72 ≤ Q4))
 (let l14 := (lrCopy2 ++ l13);
 zq16 (b2_3, (b3_5, (b4_5, b5_4))) (fun lrCopy5 lrCopy6 lrCopy7 lrCopy8 =>
 let l15 := ([(([109, 111, 114, 101] : List UInt8), (([] : List zq2), ([] : List t0y)))] : List zq4);
 cond (true && decide ((List.length lrCopy8 + List.length l15) * 64 ≤ Q4))
 (let l16 := (lrCopy8 ++ l15);
 zq16 (b2_3, (b3_5, (b4_5, b5_4))) (fun lrCopy9 lrCopy10 lrCopy11 lrCopy12 =>
 cond (decide (0 ≤ (0 : Int)) && decide ((0 : Int) < (List.length lrCopy12 : Int)))
 (let j := Int.toNat (0 : Int);
 let e := List.getD lrCopy12 j zqo;
 let l17 := ([((0 : Int), ((0 : Int), ((0 : Int), ((0 : Int), (1 : Int)))))] : List t0y);
 let l18 := ((List.getD lrCopy12 j zqo).2).2;
 cond (true && decide ((List.length l18 + List.length l17) * 40 ≤ Q4))
 (let l19 := (l18 ++ l17);
 cond (decide (0 ≤ (0 : Int)) && decide ((0 : Int) < (List.length lrCopy12 : Int)))
 (let j2 := Int.toNat (0 : Int);
 let e2 := List.getD lrCopy12 j zqo;
 let l20 := List.set lrCopy12 j (e2.1, (e2.2.1, l19));
 cond (decide (j = j2) && (true && true))
 (zq16 (b2_3, (b3_5, (b4_5, b5_4))) (fun lrCopy13 lrCopy14 lrCopy15 lrCopy16 =>
 cond (decide (0 ≤ (0 : Int)) && decide ((0 : Int) < (List.length lrCopy16 : Int)))
 (let j3 := Int.toNat (0 : Int);
 let e3 := List.getD lrCopy16 j3 zqo;
 let l21 := ([l12] : List zq2);
 let l22 := ((List.getD lrCopy16 j3 zqo).2).1;
 cond (true && decide ((List.length l22 + List.length l21) * 120 ≤ Q4))
 (let l23 := (l22 ++ l21);
 cond (decide (0 ≤ (0 : Int)) && decide ((0 : Int) < (List.length lrCopy16 : Int)))
 (let j4 := Int.toNat (0 : Int);
 let e4 := List.getD lrCopy16 j3 zqo;
 let l24 := List.set lrCopy16 j3 (e4.1, (l23, e4.2.2));
 cond (decide (j3 = j4) && (true && true))
 (zq16 (b2_3, (b3_5, (b4_5, b5_4))) (fun lrCopy17 lrCopy18 lrCopy19 lrCopy20 =>
 cond (decide (0 ≤ (1 : Int)) && decide ((1 : Int) < (List.length lrCopy20 : Int)))
 (let j5 := Int.toNat (1 : Int);
 let e5 := List.getD lrCopy20 j5 zqo;
 cond (decide (List.length l12.2.2.2.2.2.1 * 8 ≤ Q4))
 (let l25 := ([(0 : Int)] : List Int);
 cond (decide ((List.length l12.2.2.2.2.2.1 + List.length l25) * 8 ≤ Q4))
 (let l26 := (l12.2.2.2.2.2.1 ++ l25);
 let l27 := ((List.getD lrCopy20 j5 zqo).2).1;
 cond (decide (0 ≤ (2 : Int)) && decide ((2 : Int) < (List.length l27 : Int)))
 (let j6 := Int.toNat (2 : Int);
 let l28 := ((List.getD lrCopy20 j5 zqo).2).1;
 let e6 := List.getD l28 j6 zqq;
 let l29 := List.set l28 j6 (e6.1, (e6.2.1, (e6.2.2.1, (e6.2.2.2.1, (e6.2.2.2.2.1, (l26, e6.2.2.2.2.2.2))))));
 let e7 := List.getD lrCopy20 j5 zqo;
 let l30 := List.set lrCopy20 j5 (e7.1, (l29, e7.2.2));
 zq16 (b2_3, (b3_5, (b4_5, b5_4))) (fun lrCopy21 lrCopy22 lrCopy23 lrCopy24 =>
 cond (decide (0 ≤ (1 : Int)) && decide ((1 : Int) < (List.length lrCopy24 : Int)))
 (let j7 := Int.toNat (1 : Int);
 let e8 := List.getD lrCopy24 j7 zqo;
 let l31 := ((List.getD lrCopy24 j7 zqo).2).1;
 cond (decide (0 ≤ (2 : Int)) && decide ((2 : Int) < (List.length l31 : Int)))
 (let j8 := Int.toNat (2 : Int);
 let l32 := ((List.getD lrCopy24 j7 zqo).2).1;
 let e9 := List.getD l32 j8 zqq;
 let l33 := ((List.getD lrCopy24 j7 zqo).2).1;
 cond (decide (0 ≤ (2 : Int)) && decide ((2 : Int) < (List.length l33 : Int)))
 (let j9 := Int.toNat (2 : Int);
 let l34 := ((List.getD lrCopy24 j7 zqo).2).1;
 let e10 := List.getD l34 j9 zqq;
 let l35 := List.set l34 j9 (e10.1, (e10.2.1, (e10.2.2.1, (e10.2.2.2.1, ((IntKind.i64.wrap (e9.2.2.2.2.1 + (1 : Int))), e10.2.2.2.2.2)))));
 let e11 := List.getD lrCopy24 j7 zqo;
 let l36 := List.set lrCopy24 j7 (e11.1, (l35, e11.2.2));
 zqr7 (lrCopy, (l14, (lrCopy3, lrCopy4))) (fun rCheck2 =>
 cond (decide (rCheck2 = (5 : Int)))
 (zqr7 (lrCopy5, (lrCopy6, (lrCopy7, l16))) (fun rCheck3 =>
 cond (decide (rCheck3 = (5 : Int)))
 (zqr7 (lrCopy9, (lrCopy10, (lrCopy11, l20))) (fun rCheck4 =>
 cond (decide (rCheck4 = (5 : Int)))
 (zqr7 (lrCopy13, (lrCopy14, (lrCopy15, l24))) (fun rCheck5 =>
 cond (decide (rCheck5 = (5 : Int)))
 (zqr7 (lrCopy17, (lrCopy18, (lrCopy19, l30))) (fun rCheck6 =>
 cond (decide (rCheck6 = (5 : Int)))
 (zqr7 (lrCopy21, (lrCopy22, (lrCopy23, l36))) (fun rCheck7 =>
 cond (decide (rCheck7 = (1 : Int)))
 (zqs0  (fun rsane =>
 k rsane))
 (k false)))
 (k false)))
 (k false)))
 (k false)))
 (k false)))
 (k false)))
 none)
 none)
 none))
 none)
 none)
 none)
 none))
 none)
 none)
 none)
 none))
 none)
 none)
 none)
 none))
 none))
 none)))) (0 : Int) l11 (s2, (b7_3, b8_2)) b3_4 b4_4 b5_3 b6_3) (0 : Int) l10 s b3_3 b4_3 b5_2 b6_2 b7_2 b8_) (0 : Int) (l2, (l3, ((l4, l5), (l6, (l7, (b6_, (b7_, (l8, l9)))))))) ([115] : List UInt8) b2_2 b3_2 b4_2 b5_ ([] : List zq2) ([] : List t0y)) n2 (0 : Int) ([] : List UInt8) (0 : Int) (1 : Int) (0 : Int) (0 : Int) (400 : Int) (0 : Int) (0 : Int) b1_ b2_ b3_ b4_ ([] : List Int) ([] : List t6y)) n (0 : Int) l ([] : List zqe) ([] : List zq0) ([] : List zq4)
def zqta : zqs3 := hid zqt9
noncomputable def zqtb : En := ⟨3, .spec (sg [v40y] [] [v20y] [] zqta), Q61 mixed (X := ⟨look tab, gam zqs4, false, false, false, false, [(44, o17y)], none, 0, [(27, [0, 1, 2, 3]), (40, [0, 1, 2, 3, 4, 5, 6, 7, 8, 9]), (44, [0, 1, 2])]⟩) Qa zqs4 rfl [zqso, zqst, zqsy, zqt3, zqt8] [.tmp 2] Tryz.func3 (by kernel_rfl) fun _ _ => by kernel_rfl⟩
theorem zqtc : SpecOk Tryz.prog 3 (sg [v40y] [] [v20y] [] zqta) := zqtb.ok
end
end Go.Lift
namespace Go.Lift
open Go.RowKit Go.IntWalk
section
variable {β : Type}
theorem Q2m {i n : Int} {a b : Option β} (h : 0 ≤ i ∧ i < n) : cond (decide (0 ≤ i) && decide (i < n)) a b = a := by
 rw [decide_eq_true h.1, decide_eq_true h.2]; rfl
theorem Q36 {n : Nat} {a b : Option β} (h : n ≤ 140737488355328) : cond (decide (n ≤ Q4)) a b = a := by
 rw [decide_eq_true (p := n ≤ Q4) h]; rfl
theorem Qf {p : Prop} [Decidable p] {a b : Option β} (h : p) : cond (decide p) a b = a := by rw [decide_eq_true h]; rfl
theorem Qk {p : Prop} [Decidable p] {a b : Option β} (h : ¬ p) : cond (decide p) a b = b := by rw [decide_eq_false h]; rfl
theorem Qi1 {p : Prop} [Decidable p] {a b : Option β} (h : p) : cond (!decide p) a b = b := by rw [decide_eq_true h]; rfl
theorem Qbv {p : Prop} [Decidable p] {a b : Option β} (h : ¬ p) : cond (!decide p) a b = a := by rw [decide_eq_false h]; rfl
theorem c_kb (k : Bool → Option β) (p q : Bool) : cond p (k q) (k false) = k (p && q) := by cases p <;> rfl
theorem k_eq {γ : Type} {k : γ → Option β} {x y : γ} (h : x = y) : k x = k y := by rw [h]
def walk {α σ ε : Type} (g : Nat → α → σ → ε ⊕ σ) : List α → Nat → σ → ε ⊕ σ
 | [], _, s => .inr s
 | x :: r, j, s =>
  match g j x s with
  | .inl e => .inl e
  | .inr s' => walk g r (j + 1) s'
def sumK {ε σ : Type} (E : ε → Option β) (K : σ → Option β) : ε ⊕ σ → Option β
 | .inl e => E e
 | .inr s => K s
theorem Qd7 {α σ ε : Type} (F : Nat → Int → σ → Option β) (g : Nat → α → σ → ε ⊕ σ) (E : ε → Option β) (K : σ → Option β) (d : α) (xs : List α)
  (h1 : ∀ (m i : Nat) s, i < xs.length → F (m + 1) (i : Int) s = sumK E (fun s' => F m ((i : Int) + 1) s') (g i (xs.getD i d) s))
  (h2 : ∀ (m : Nat) s, F (m + 1) (xs.length : Int) s = K s) :
  ∀ (r : List α) (j fuel : Nat) (s : σ), xs.drop j = r → j + r.length = xs.length → r.length < fuel → F fuel (j : Int) s = sumK E K (walk g r j s)
 | r, j, 0, s, _, _, h => absurd h (Nat.not_lt_zero _)
 | [], j, m + 1, s, hd, hj, _ => by
  simp only [List.length_nil, Nat.add_zero] at hj
  subst hj
  rw [h2]; rfl
 | x :: r, j, m + 1, s, hd, hj, hm => by
  simp only [List.length_cons] at hj hm
  have h3 : j < xs.length := by omega
  have hx : xs.getD j d = x := by
   rw [List.drop_eq_getElem_cons h3] at hd
   injection hd with hd1 hd2
   simp [List.getD, h3, hd1]
  have hr : xs.drop (j + 1) = r := by
   rw [List.drop_eq_getElem_cons h3] at hd
   injection hd with hd1 hd2
  rw [h1 m j s h3, hx, walk]
  cases hg : g j x s with
  | inl e => rfl
  | inr s' =>
   simp only [sumK]
   exact Qd7 F g E K d xs h1 h2 r (j + 1) m s' hr (by omega) (by omega)
theorem Q1w {α σ ε : Type} (F : Nat → Int → σ → Option β) (g : Nat → α → σ → ε ⊕ σ) (E : ε → Option β) (K : σ → Option β) (d : α) (xs : List α) (s : σ) (n : Nat) (hn : xs.length < n)
  (h1 : ∀ (m i : Nat) s, i < xs.length → F (m + 1) (i : Int) s = sumK E (fun s' => F m ((i : Int) + 1) s') (g i (xs.getD i d) s))
  (h2 : ∀ (m : Nat) s, F (m + 1) (xs.length : Int) s = K s) : F n 0 s = sumK E K (walk g xs 0 s) :=
 Qd7 F g E K d xs h1 h2 xs 0 n s rfl (by simp) hn
theorem Q7u {α : Type} (F : Nat → Int → Option β) (p : α → Bool) (E K : Option β) (d : α) (xs : List α) (n : Nat) (hn : xs.length < n)
  (h1 : ∀ (m i : Nat), i < xs.length → F (m + 1) (i : Int) = cond (p (xs.getD i d)) (F m ((i : Int) + 1)) E)
  (h2 : ∀ (m : Nat), F (m + 1) (xs.length : Int) = K) : F n 0 = cond (xs.all p) K E := by
 have h := Q1w (ε := Unit) (fun m i (_ : Unit) => F m i) (fun _ x s => cond (p x) (.inr s) (.inl ())) (fun _ => E) (fun _ => K) d xs () n hn
  (fun m i s hi => by rw [h1 m i hi]; cases p (xs.getD i d) <;> rfl) (fun m s => h2 m)
 rw [h]
 have key : ∀ (l : List α) (j : Nat), sumK (fun _ => E) (fun _ => K) (walk (ε := Unit) (fun _ x (s : Unit) => cond (p x) (.inr s) (.inl ())) l j ()) = cond (l.all p) K E := by
  intro l
  induction l with
  | nil => intro j; rfl
  | cons x l ih =>
   intro j
   simp only [walk, List.all_cons]
   cases p x with
   | true => simpa using ih (j + 1)
   | false => rfl
 exact key xs 0
theorem Q3g {α σ : Type} (I : Nat → σ → Prop) (F : Nat → Int → σ → Option β) (g : σ → α → σ) (K : σ → Option β) (d : α) (xs : List α) (s : σ) (n : Nat) (hn : xs.length < n) (h0 : I 0 s)
  (hI : ∀ (i : Nat) s, i < xs.length → I i s → I (i + 1) (g s (xs.getD i d)))
  (h1 : ∀ (m i : Nat) s, i < xs.length → I i s → F (m + 1) (i : Int) s = F m ((i : Int) + 1) (g s (xs.getD i d)))
  (h2 : ∀ (m : Nat) s, I xs.length s → F (m + 1) (xs.length : Int) s = K s) : F n 0 s = K (xs.foldl g s) := by
 have key : ∀ (r : List α) (j fuel : Nat) (s : σ), xs.drop j = r → j + r.length = xs.length → r.length < fuel → I j s → F fuel (j : Int) s = K (r.foldl g s) := by
  intro r
  induction r with
  | nil =>
   intro j fuel s hd hj hf hs
   obtain ⟨m, rfl⟩ : ∃ m, fuel = m + 1 := ⟨fuel - 1, by omega⟩
   simp only [List.length_nil, Nat.add_zero] at hj
   subst hj
   exact h2 m s hs
  | cons x r ih =>
   intro j fuel s hd hj hf hs
   obtain ⟨m, rfl⟩ : ∃ m, fuel = m + 1 := ⟨fuel - 1, by omega⟩
   simp only [List.length_cons] at hj hf
   have h3 : j < xs.length := by omega
   have hx : xs.getD j d = x := by
    rw [List.drop_eq_getElem_cons h3] at hd
    injection hd with hd1 hd2
    simp [List.getD, h3, hd1]
   have hr : xs.drop (j + 1) = r := by
    rw [List.drop_eq_getElem_cons h3] at hd
    injection hd with hd1 hd2
   rw [h1 m j s h3 hs, hx]
   have := hI j s h3 hs
   rw [hx] at this
   exact ih (j + 1) m (g s x) hr (by omega) (by omega) this
 exact key xs 0 n s rfl (by simp) hn h0
end
end Go.Lift
namespace Go.Lift
open Go.RowKit Go.IntWalk
noncomputable section
variable [Sl]
set_option linter.unusedSectionVars false
set_option linter.unusedVariables false
set_option linter.unusedSimpArgs false
set_option maxRecDepth 10000
abbrev Qh (y : Int) : Prop := y % 4 = 0 ∧ (y % 100 ≠ 0 ∨ y % 400 = 0)
def Qs (lp : Prop) [Decidable lp] (m : Int) : Int :=
 if m < 1 then 0 else if 12 < m then 0 else if m = 2 then (if lp then 29 else 28) else if m = 4 ∨ m = 6 ∨ m = 9 ∨ m = 11 then 30 else 31
def cntN (y : Int) : Int := 365 * (y - 1970) + (y - 1) / 4 - (y - 1) / 100 + (y - 1) / 400 - 477
def sumM (lp : Prop) [Decidable lp] : Nat → Int
 | 0 => 0
 | n + 1 => sumM lp n + Qs lp ((n : Int) + 1)
section
variable {β : Type}
theorem Qie {y : Int} (hy : 0 ≤ y) (k : Bool → Option β) : zq7k y k = k (decide (Qh y)) := by
 have e1 : Int.tmod y 4 = y % 4 := Int.tmod_eq_emod_of_nonneg hy
 have e2 : Int.tmod y 100 = y % 100 := Int.tmod_eq_emod_of_nonneg hy
 have e3 : Int.tmod y 400 = y % 400 := Int.tmod_eq_emod_of_nonneg hy
 unfold zq7k
 rw [Q2]
 unfold zq7j
 rw [e1, e2, e3]
 by_cases h1 : y % 4 = 0
 ·refine (Qf h1).trans ?_
  by_cases h2 : y % 100 = 0
  ·refine (Qi1 h2).trans ?_
   exact k_eq (decide_eq_decide.2 ⟨fun h => ⟨h1, .inr h⟩, fun h => by rcases h.2 with h | h; exact absurd h2 h; exact h⟩)
  ·refine (Qbv h2).trans ?_
   exact k_eq (decide_eq_true (p := Qh y) ⟨h1, .inl h2⟩).symm
 ·refine (Qk h1).trans ?_
  exact k_eq (decide_eq_false (p := Qh y) fun h => h1 h.1).symm
theorem Q62 {y : Int} (hy : 0 ≤ y) (m : Int) (k : Int → Option β) : zqa0 y m k = k (Qs (Qh y) m) := by
 by_cases h1 : m < 1
 ·unfold zqa0
  rw [Q2]
  unfold zq9z
  refine (Qf h1).trans (k_eq ?_)
  unfold Qs
  rw [if_pos h1]
 ·by_cases h2 : 12 < m
  ·unfold zqa0
   rw [Q2]
   unfold zq9z
   refine (Qk h1).trans ((Qf h2).trans (k_eq ?_))
   unfold Qs
   rw [if_neg h1, if_pos h2]
  ·have hm : m = 1 ∨ m = 2 ∨ m = 3 ∨ m = 4 ∨ m = 5 ∨ m = 6 ∨ m = 7 ∨ m = 8 ∨ m = 9 ∨ m = 10 ∨ m = 11 ∨ m = 12 := by omega
   rcases hm with rfl | rfl | rfl | rfl | rfl | rfl | rfl | rfl | rfl | rfl | rfl | rfl
   ·exact (show zqa0 y 1 k = zq9z y 1 k by unfold zqa0; rw [Q2]).trans (show zq9z y 1 k = k (Qs (Qh y) 1) by kernel_rfl)
   ·unfold zqa0
    rw [Q2]
    unfold zq9z
    refine (Qk h1).trans ((Qk h2).trans ((Qf rfl).trans ?_))
    refine (Qie hy _).trans ?_
    unfold Qs
    rw [if_neg h1, if_neg h2, if_pos rfl]
    by_cases h : Qh y
    ·rw [decide_eq_true h, if_pos h]
     rfl
    ·rw [decide_eq_false h, if_neg h]
     rfl
   ·exact (show zqa0 y 3 k = zq9z y 3 k by unfold zqa0; rw [Q2]).trans (show zq9z y 3 k = k (Qs (Qh y) 3) by kernel_rfl)
   ·exact (show zqa0 y 4 k = zq9z y 4 k by unfold zqa0; rw [Q2]).trans (show zq9z y 4 k = k (Qs (Qh y) 4) by kernel_rfl)
   ·exact (show zqa0 y 5 k = zq9z y 5 k by unfold zqa0; rw [Q2]).trans (show zq9z y 5 k = k (Qs (Qh y) 5) by kernel_rfl)
   ·exact (show zqa0 y 6 k = zq9z y 6 k by unfold zqa0; rw [Q2]).trans (show zq9z y 6 k = k (Qs (Qh y) 6) by kernel_rfl)
   ·exact (show zqa0 y 7 k = zq9z y 7 k by unfold zqa0; rw [Q2]).trans (show zq9z y 7 k = k (Qs (Qh y) 7) by kernel_rfl)
   ·exact (show zqa0 y 8 k = zq9z y 8 k by unfold zqa0; rw [Q2]).trans (show zq9z y 8 k = k (Qs (Qh y) 8) by kernel_rfl)
   ·exact (show zqa0 y 9 k = zq9z y 9 k by unfold zqa0; rw [Q2]).trans (show zq9z y 9 k = k (Qs (Qh y) 9) by kernel_rfl)
   ·exact (show zqa0 y 10 k = zq9z y 10 k by unfold zqa0; rw [Q2]).trans (show zq9z y 10 k = k (Qs (Qh y) 10) by kernel_rfl)
   ·exact (show zqa0 y 11 k = zq9z y 11 k by unfold zqa0; rw [Q2]).trans (show zq9z y 11 k = k (Qs (Qh y) 11) by kernel_rfl)
   ·exact (show zqa0 y 12 k = zq9z y 12 k by unfold zqa0; rw [Q2]).trans (show zq9z y 12 k = k (Qs (Qh y) 12) by kernel_rfl)
theorem Q6h {a b : Int} (ha : 0 ≤ a ∧ a ≤ 1000000000) (hb : 0 < b ∧ b ≤ 1000000000) (k : Int → Option β) : zq7g a b k = k (a / b) := by
 have e1 : Int.tdiv a b = a / b := Int.tdiv_eq_ediv_of_nonneg ha.1
 have e2 : Int.tmod a b = a % b := Int.tmod_eq_emod_of_nonneg ha.1
 have e3 := Int.emod_nonneg a (show b ≠ 0 by omega)
 have e4 := Int.ediv_nonneg ha.1 (show 0 ≤ b by omega)
 have e5 := Int.ediv_le_self b ha.1
 unfold zq7g
 rw [Q2]
 unfold zq7f
 refine (Qbv (by omega)).trans ?_
 refine (Qbv (by omega)).trans ?_
 refine (Qk (by omega)).trans ?_
 rw [e1, i64_in _ (by omega)]
theorem Q29 {y : Int} (hy : 1 ≤ y ∧ y ≤ 1000000) (k : Int → Option β) : zq9j y k = k (cntN y) := by
 unfold zq9j
 rw [Q2]
 unfold zq9i
 simp only
 rw [i64_in (y - 1) (by omega)]
 refine (Q6h (by omega) (by omega) _).trans ?_
 refine (Q6h (by omega) (by omega) _).trans ?_
 refine (Q6h (by omega) (by omega) _).trans ?_
 rw [i64_in (y - 1970) (by omega), i64_in (365 * (y - 1970)) (by omega), i64_in (365 * (y - 1970) + (y - 1) / 4) (by omega), i64_in (365 * (y - 1970) + (y - 1) / 4 - (y - 1) / 100) (by omega),
  i64_in (365 * (y - 1970) + (y - 1) / 4 - (y - 1) / 100 + (y - 1) / 400) (by omega), i64_in (365 * (y - 1970) + (y - 1) / 4 - (y - 1) / 100 + (y - 1) / 400 - 477) (by omega)]
 rfl
theorem Qif {y : Int} (hy : 1 ≤ y) : cntN (y + 1) = cntN y + (if Qh y then 366 else 365) := by
 unfold cntN
 split <;> omega
theorem Qig {day : Int} (h : 0 ≤ day ∧ day < 98981) : ∃ y, (1970 ≤ y ∧ y ≤ 2240) ∧ cntN y ≤ day ∧ day < cntN (y + 1) ∧ ∀ {β : Type} (k : Int → Option β), zq9w day k = k y := by
 have last : cntN 2241 = 98981 := by decide
 have key : ∀ (n m : Nat) (y : Int), y + n = 2240 → n < m → 1970 ≤ y → cntN y ≤ day → ∃ y', (1970 ≤ y' ∧ y' ≤ 2240) ∧ cntN y' ≤ day ∧ day < cntN (y' + 1) ∧
   ∀ {β : Type} (k1 : zq9n β), zq9r m k1 day y = k1 y' := by
  intro n
  induction n with
  | zero =>
   intro m y hy hm h0 hc
   obtain ⟨m, rfl⟩ : ∃ m', m = m' + 1 := ⟨m - 1, by omega⟩
   have hy : y = 2240 := by omega
   subst hy
   refine ⟨2240, by omega, hc, by rw [show (2240 : Int) + 1 = 2241 from rfl, last]; omega, fun k1 => ?_⟩
   simp only [zq9s, zq9q]
   rw [show IntKind.i64.wrap ((2240 : Int) + 1) = 2241 by decide]
   refine (Q29 (by omega) _).trans ?_
   exact Qk (by rw [last]; omega)
  | succ n ih =>
   intro m y hy hm h0 hc
   obtain ⟨m, rfl⟩ : ∃ m', m = m' + 1 := ⟨m - 1, by omega⟩
   by_cases hn : cntN (y + 1) ≤ day
   ·obtain ⟨y', h1, h2, h3, h4⟩ := ih m (y + 1) (by omega) (by omega) (by omega) hn
    refine ⟨y', h1, h2, h3, fun k1 => ?_⟩
    simp only [zq9s, zq9q]
    rw [i64_in (y + 1) (by omega)]
    refine (Q29 (by omega) _).trans ?_
    refine (Qf hn).trans ?_
    exact h4 k1
   ·refine ⟨y, by omega, hc, by omega, fun k1 => ?_⟩
    simp only [zq9s, zq9q]
    rw [i64_in (y + 1) (by omega)]
    refine (Q29 (by omega) _).trans ?_
    exact Qk hn
 have hq : ∀ q : Fin 271, cntN (1970 + (q.val : Int)) ≤ 366 * (q.val : Int) := by decide +kernel
 have h0 : cntN (1970 + day / 366) ≤ day := by
  have := hq ⟨(day / 366).toNat, by omega⟩
  simp only at this
  rw [show (((day / 366).toNat : Nat) : Int) = day / 366 by omega] at this
  omega
 obtain ⟨y', h1, h2, h3, h4⟩ := key (2240 - (1970 + day / 366)).toNat fuel (1970 + day / 366) (by omega) (Q11 (by omega)) (by omega) h0
 refine ⟨y', h1, h2, h3, fun k => ?_⟩
 unfold zq9w
 rw [Q2]
 unfold zq9v
 refine (Q6h (by omega) (by omega) _).trans ?_
 simp only
 rw [i64_in (1970 + day / 366) (by omega)]
 unfold zq9t
 rw [Q2]
 exact h4 _
theorem Q9n (lp : Prop) [Decidable lp] (m : Int) : 0 ≤ Qs lp m ∧ Qs lp m ≤ 31 := by
 unfold Qs
 repeat' split
 all_goals omega
theorem Qf1 (lp : Prop) [Decidable lp] (n : Nat) : 0 ≤ sumM lp n ∧ sumM lp n ≤ 31 * (n : Int) := by
 induction n with
 | zero => exact ⟨Int.le_refl _, Int.le_refl _⟩
 | succ n ih =>
  have := Q9n lp ((n : Int) + 1)
  show 0 ≤ sumM lp n + Qs lp ((n : Int) + 1) ∧ sumM lp n + Qs lp ((n : Int) + 1) ≤ 31 * ((n + 1 : Nat) : Int)
  omega
theorem Qj8 (lp : Prop) [Decidable lp] : sumM lp 12 = if lp then 366 else 365 := by
 by_cases h : lp
 ·simp [sumM, Qs, h]
 ·simp [sumM, Qs, h]
theorem Qh1 {y : Int} (hy : 0 ≤ y) (a : Int × (Int × Int)) (d3 : Int) : ∀ (j f n : Nat) (r : Int), n + j = 12 → j < f → 0 ≤ r → r < sumM (Qh y) 12 - sumM (Qh y) n →
  ∃ (n' : Nat) (r' : Int), n' < 12 ∧ 0 ≤ r' ∧ r' < Qs (Qh y) ((n' : Int) + 1) ∧ sumM (Qh y) n' + r' = sumM (Qh y) n + r ∧
   ∀ {β : Type} (k1 : zqca β), zqce f k1 r a (y, ((n : Int) + 1, d3)) = k1 r' a (y, ((n' : Int) + 1, d3)) := by
 intro j
 induction j with
 | zero =>
  intro f n r hn hf h0 h1
  obtain rfl : n = 12 := by omega
  omega
 | succ j ih =>
  intro f n r hn hf h0 h1
  obtain ⟨f, rfl⟩ : ∃ f', f = f' + 1 := ⟨f - 1, by omega⟩
  have hd := Q9n (Qh y) ((n : Int) + 1)
  have hb := Qf1 (Qh y) n
  have h12 := Qf1 (Qh y) 12
  by_cases hr : Qs (Qh y) ((n : Int) + 1) ≤ r
  ·have hs : sumM (Qh y) (n + 1) = sumM (Qh y) n + Qs (Qh y) ((n : Int) + 1) := rfl
   obtain ⟨n', r', g1, g2, g3, g4, g5⟩ := ih f (n + 1) (r - Qs (Qh y) ((n : Int) + 1)) (by omega) (by omega) (by omega) (by omega)
   refine ⟨n', r', g1, g2, g3, by omega, fun k1 => ?_⟩
   simp only [zqcf, zqcd]
   refine (Q62 hy _ _).trans ?_
   refine (Qf hr).trans ?_
   refine (Q62 hy _ _).trans ?_
   rw [i64_in (r - Qs (Qh y) ((n : Int) + 1)) (by omega), i64_in ((n : Int) + 1 + 1) (by omega)]
   have := g5 k1
   rwa [show ((n + 1 : Nat) : Int) = (n : Int) + 1 by omega] at this
  ·refine ⟨n, r, by omega, h0, by omega, rfl, fun k1 => ?_⟩
   simp only [zqcf, zqcd]
   refine (Q62 hy _ _).trans ?_
   exact Qk hr
theorem Qh2 {y : Int} (hy : 0 ≤ y) (M d3 : Int) : ∀ (j f n : Nat) (s : Int), (n : Int) + 1 + j = M → M ≤ 12 → j < f → 0 ≤ s + 1000 → s + 31 * (j : Int) ≤ 1000000 →
  ∀ {β : Type} (k1 : zqb2 β), zqb6 f k1 s ((n : Int) + 1) (y, (M, d3)) = k1 (s + (sumM (Qh y) (n + j) - sumM (Qh y) n)) := by
 intro j
 induction j with
 | zero =>
  intro f n s hn hM hf h0 h1 β k1
  obtain ⟨f, rfl⟩ : ∃ f', f = f' + 1 := ⟨f - 1, by omega⟩
  simp only [zqb7, zqb5]
  refine (Qk (by omega)).trans ?_
  exact k_eq (by show s = s + (sumM (Qh y) n - sumM (Qh y) n); omega)
 | succ j ih =>
  intro f n s hn hM hf h0 h1 β k1
  obtain ⟨f, rfl⟩ : ∃ f', f = f' + 1 := ⟨f - 1, by omega⟩
  have hd := Q9n (Qh y) ((n : Int) + 1)
  simp only [zqb7, zqb5]
  refine (Qf (by omega)).trans ?_
  refine (Q62 hy _ _).trans ?_
  rw [i64_in (s + Qs (Qh y) ((n : Int) + 1)) (by omega), i64_in ((n : Int) + 1 + 1) (by omega)]
  have := ih f (n + 1) (s + Qs (Qh y) ((n : Int) + 1)) (by omega) hM (by omega) (by omega) (by omega) k1
  rw [show ((n + 1 : Nat) : Int) = (n : Int) + 1 by omega] at this
  refine this.trans (k_eq ?_)
  have hs : sumM (Qh y) (n + 1) = sumM (Qh y) n + Qs (Qh y) ((n : Int) + 1) := rfl
  rw [show n + 1 + j = n + (j + 1) by omega]
  omega
structure DateIs (day y m d : Int) : Prop where
 yr : 1970 ≤ y ∧ y ≤ 2240
 mo : 1 ≤ m ∧ m ≤ 12
 dd : 1 ≤ d ∧ d ≤ 31
 of : ∀ {β : Type} (k : Int × Int × Int → Int → Option β), zqcj day k = k (y, m, d) 0
 day : ∀ {β : Type} (k : Int → Int → Option β), zqbj (y, m, d) k = k day 0
theorem Qj9 {day : Int} (h : 0 ≤ day ∧ day < 98981) : ∃ y m d, DateIs day y m d := by
 obtain ⟨y, hy, h1, h2, h3⟩ := Qig h
 have hn := Qif (y := y) (by omega)
 rw [← Qj8] at hn
 have hc : cntN 1970 = 0 := by decide
 have hc2 : cntN 2241 = 98981 := by decide
 have hb12 := Qf1 (Qh y) 12
 have h0 : 0 ≤ cntN y := by
  unfold cntN
  omega
 obtain ⟨n', r', g1, g2, g3, g4, g5⟩ := Qh1 (y := y) (by omega) (0, (0, 0)) 0 12 fuel 0 (day - cntN y) rfl (Q11 (by omega)) (by omega) (by show day - cntN y < sumM (Qh y) 12 - 0; omega)
 have hd := Q9n (Qh y) ((n' : Int) + 1)
 have hs0 : sumM (Qh y) 0 = 0 := rfl
 refine ⟨y, (n' : Int) + 1, r' + 1, hy, by omega, by omega, fun k => ?_, fun k => ?_⟩
 ·unfold zqcj
  rw [Q2]
  unfold zqci
  refine (Q29 (by omega) _).trans ?_
  refine (Qk (by rw [hc]; omega)).trans ?_
  refine (Q29 (by omega) _).trans ?_
  refine (Qk (by rw [hc2]; omega)).trans ?_
  refine (h3 _).trans ?_
  refine (Q29 (by omega) _).trans ?_
  simp only
  rw [i64_in (day - cntN y) (by omega)]
  unfold zqcg
  rw [Q2]
  refine (g5 _).trans ?_
  rw [i64_in (r' + 1) (by omega)]
 ·unfold zqbj
  rw [Q2]
  unfold zqbi
  have hv : ∀ {β : Type} (k : Bool → Option β), zqay (y, (n' : Int) + 1, r' + 1) k = k true := by
   intro β k
   unfold zqay
   rw [Q2]
   unfold zqax
   refine (Qf hy.1).trans ?_
   refine (Qf hy.2).trans ?_
   refine (Qf (by show (1 : Int) ≤ r' + 1; omega)).trans ?_
   refine (Q62 (by show 0 ≤ y; omega) _ _).trans ?_
   exact k_eq (decide_eq_true (by show r' + 1 ≤ Qs (Qh y) ((n' : Int) + 1); omega))
  refine (hv _).trans ?_
  show zqbb (y, (n' : Int) + 1, r' + 1) _ = _
  unfold zqbb
  rw [Q2]
  unfold zqba
  refine (Q29 (y := y) (by omega) _).trans ?_
  simp only
  rw [i64_in (cntN y + (r' + 1)) (by omega), i64_in (cntN y + (r' + 1) - 1) (by omega)]
  unfold zqb8
  rw [Q2]
  refine (Qh2 (y := y) (by omega) ((n' : Int) + 1) (r' + 1) n' fuel 0 (cntN y + (r' + 1) - 1) (by omega) (by omega) (Q11 (by omega)) (by omega) (by omega) _).trans ?_
  rw [Nat.zero_add, hs0]
  have e : cntN y + (r' + 1) - 1 + (sumM (Qh y) n' - 0) = day := by omega
  rw [e]
theorem Qih {day : Int} (h : day < 0 ∨ 98981 ≤ day) (k : Int × Int × Int → Int → Option β) : zqcj day k = k (0, 0, 0) 1 := by
 have hc : cntN 1970 = 0 := by decide
 have hc2 : cntN 2241 = 98981 := by decide
 unfold zqcj
 rw [Q2]
 unfold zqci
 refine (Q29 (by omega) _).trans ?_
 by_cases h0 : day < 0
 ·exact Qf (by rw [hc]; omega)
 ·refine (Qk (by rw [hc]; omega)).trans ?_
  refine (Q29 (by omega) _).trans ?_
  exact Qf (by rw [hc2]; omega)
end
end
end Go.Lift
namespace Go.Lift
open Go.RowKit Go.IntWalk
noncomputable section
variable [Sl]
set_option linter.unusedSectionVars false
set_option linter.unusedVariables false
set_option linter.unusedSimpArgs false
set_option maxRecDepth 10000
section
variable {β : Type}
abbrev inI (n lo hi : Int) : Bool := decide (lo ≤ n) && decide (n ≤ hi)
abbrev ixI (i n : Int) : Bool := decide ((0 : Int) ≤ i) && decide (i < n)
theorem r_in (n lo hi : Int) (k : Bool → Option β) : zq47 n lo hi k = k (inI n lo hi) := by
 unfold zq47
 rw [Q2]
 unfold zq46
 exact c_kb k _ _
theorem r_ix (i n : Int) (k : Bool → Option β) : zq2z i n k = k (ixI i n) := by
 unfold zq2z
 rw [Q2]
 unfold zq2y
 exact c_kb k _ _
def dayI (n : Int) : Bool := decide (0 ≤ n) && decide (n < 98981)
theorem Qh3 (n : Int) (k : Bool → Option β) : zqe0 n k = k (dayI n) := by
 unfold zqe0
 rw [Q2]
 unfold zqdz dayI
 by_cases h : 0 ≤ n ∧ n < 98981
 ·obtain ⟨y, m, d, hd⟩ := Qj9 h
  refine (hd.of _).trans (k_eq ?_)
  rw [decide_eq_true h.1, decide_eq_true h.2]
  rfl
 ·refine (Qih (by omega) _).trans (k_eq ?_)
  by_cases h0 : 0 ≤ n
  ·rw [decide_eq_true h0, decide_eq_false (by omega : ¬ n < 98981)]; rfl
  ·rw [decide_eq_false h0]; rfl
def Q91 (n : Int) : Bool := inI n 0 604800 && decide (Int.tmod n 3600 = 0)
theorem Qgc (n : Int) (k : Bool → Option β) : zq8o n k = k (Q91 n) := by
 unfold zq8o
 rw [Q2]
 unfold zq8n
 refine (r_in _ _ _ _).trans ?_
 exact c_kb k _ _
def Q7b (c : Int) : Bool := inI c 97 122
def Qf2 (c : Int) : Bool := inI c 48 57
def Q9o (c : UInt8) : Bool := Q7b c.toNat || (Qf2 c.toNat || (decide ((c.toNat : Int) = 95) || decide ((c.toNat : Int) = 45)))
def Q7v (s : List UInt8) : Bool := (!decide (s = [])) && (!decide (24 < (s.length : Int)) && (Q7b (s.getD 0 0).toNat && s.all Q9o))
theorem Qgd (c : Int) (k : Bool → Option β) : zq3z c k = k (Q7b c) := by
 unfold zq3z
 rw [Q2]
 unfold zq3y
 exact c_kb k _ _
theorem Qja (c : Int) (k : Bool → Option β) : zq43 c k = k (Qf2 c) := by
 unfold zq43
 rw [Q2]
 unfold zq42
 exact c_kb k _ _
theorem Qjp (s : List UInt8) (k : Bool → Option β) : zq8k s k = k (Q7v s) := by
 unfold zq8k
 rw [Q2]
 unfold zq8j Q7v
 by_cases h1 : s = []
 ·refine (Qf h1).trans ?_
  rw [decide_eq_true h1]; rfl
 ·refine (Qk h1).trans ?_
  rw [decide_eq_false h1]
  by_cases h2 : 24 < (s.length : Int)
  ·refine (Qf h2).trans ?_
   rw [decide_eq_true h2]; rfl
  ·refine (Qk h2).trans ?_
   rw [decide_eq_false h2]
   have h3 : 0 < s.length := by cases s with
    | nil => exact absurd rfl h1
    | cons _ _ => simp
   refine (Q2m (by omega)).trans ?_
   refine (Qgd _ _).trans ?_
   show _ = k (Q7b (s.getD 0 0).toNat && s.all Q9o)
   rw [show Int.toNat (0 : Int) = 0 from rfl]
   cases Q7b (s.getD 0 0).toNat with
   | false => rfl
   | true =>
    show zq8h (fun t2 => k t2) (fun _ => k true) s (s.length : Int) 0 = k (s.all Q9o)
    unfold zq8h
    rw [Q2]
    refine (Q7u (fun m i => zq8f m (fun t2 => k t2) (fun _ => k true) s (s.length : Int) i) Q9o (k false) (k true) 0 s fuel (Q11 (by omega)) (fun m i hi => ?_) (fun m => ?_)).trans ?_
    ·simp only [zq8g, zq8e]
     refine (Qf (by omega)).trans ?_
     refine (Q2m (by omega)).trans ?_
     refine (Qgd _ _).trans ?_
     rw [Int.toNat_natCast, i64_in ((i : Int) + 1) (by omega)]
     unfold Q9o
     cases Q7b (s.getD i 0).toNat with
     | true => rfl
     | false =>
      refine (Qja _ _).trans ?_
      cases Qf2 (s.getD i 0).toNat with
      | true => rfl
      | false =>
       show cond (!decide (((s.getD i 0).toNat : Int) = 95)) (cond (!decide (((s.getD i 0).toNat : Int) = 45)) _ _) _ = cond (decide (((s.getD i 0).toNat : Int) = 95) || decide (((s.getD i 0).toNat : Int) = 45)) _ _
       cases decide (((s.getD i 0).toNat : Int) = 95) <;> cases decide (((s.getD i 0).toNat : Int) = 45) <;> rfl
    ·simp only [zq8g, zq8e]
     exact Qk (by omega)
    ·cases s.all Q9o <;> rfl
def sn (l : List (List UInt8)) : List (List UInt8 × Bool) := l.map fun s => (s, true)
theorem Qjq (l : List (List UInt8)) (s : List UInt8) : mGet .str (sn l) s false = decide (s ∈ l) := by
 induction l with
 | nil => rfl
 | cons x l ih =>
  show (bif decide (x = s) then true else mGet .str (sn l) s false) = _
  by_cases h : x = s
  ·subst h
   simp
  ·rw [decide_eq_false h, ih]
   show decide (s ∈ l) = decide (s ∈ x :: l)
   have : s ∈ x :: l ↔ s ∈ l := by
    rw [List.mem_cons]
    exact ⟨fun g => g.resolve_left fun e => h e.symm, .inr⟩
   exact (decide_eq_decide.2 this).symm
theorem Qjr {l : List (List UInt8)} {s : List UInt8} (h : s ∉ l) : mPut .str (sn l) s true = sn (l ++ [s]) := by
 induction l with
 | nil => rfl
 | cons x l ih =>
  have hx : x ≠ s := fun e => h (by rw [e]; exact List.mem_cons_self ..)
  have hl : s ∉ l := fun e => h (List.mem_cons_of_mem _ e)
  show (bif decide (x = s) then (s, true) :: sn l else (x, true) :: mPut .str (sn l) s true) = _
  rw [decide_eq_false hx, ih hl]
  rfl
def Q1p (s : List UInt8) (l : List (List UInt8)) : Int := cond (Q7v s) (cond (decide (s ∈ l)) 4 0) 2
theorem Q92 (s : List UInt8) (l : List (List UInt8)) (k : Int → List (List UInt8 × Bool) → Option β) : zqc1 s (sn l) k = k (Q1p s l) (sn (cond (decide (Q1p s l = 0)) (l ++ [s]) l)) := by
 unfold zqc1
 rw [Q2]
 unfold zqc0 Q1p
 refine (Qjp _ _).trans ?_
 cases Q7v s with
 | false => rfl
 | true =>
  show (let g : Bool := mGet .str (sn l) s false; cond g _ _) = _
  simp only [Qjq]
  by_cases h : s ∈ l
  ·rw [decide_eq_true h]; rfl
  ·rw [decide_eq_false h]
   show k 0 (mPut .str (sn l) s true) = _
   rw [Qjr h]
   rfl
def errV {σ : Type} : Int ⊕ σ → Int
 | .inl e => e
 | .inr _ => 0
theorem Q3o {σ : Type} (k : Int → Option β) (r : Int ⊕ σ) : sumK (fun e => k e) (fun _ => k 0) r = k (errV r) := by cases r <;> rfl
def Qh4 (l : List (Int × Int)) (i : Nat) (w : Int × Int) (_ : Unit) : Int ⊕ Unit :=
 cond (decide (w.1 < 0) || (decide (w.2 ≤ w.1) || decide ((604800 : Int) < w.2))) (.inl 1) (cond (decide (0 < (i : Int)) && decide (w.1 < (l.getD (i - 1) (0, 0)).2)) (.inl 6) (.inr ()))
def Q4k (l : List (Int × Int)) : Int := cond (decide (14 < (l.length : Int))) 5 (errV (walk (Qh4 l) l 0 ()))
theorem Qi2 (l : List (Int × Int)) (k : Int → Option β) : zq3j l k = k (Q4k l) := by
 unfold zq3j
 rw [Q2]
 unfold zq3i Q4k
 by_cases h : 14 < (l.length : Int)
 ·refine (Qf h).trans ?_
  rw [decide_eq_true h]; rfl
 ·refine (Qk h).trans ?_
  rw [decide_eq_false h]
  unfold zq3g
  rw [Q2]
  refine (Q1w (fun m i (_ : Unit) => zq3e m (fun t => k t) (fun _ => k 0) l l (l.length : Int) i) (Qh4 l) (fun e => k e) (fun _ => k 0) (0, 0) l () fuel (Q11 (by omega)) (fun m i _ hi => ?_) (fun m _ => ?_)).trans (Q3o k _)
  ·simp only [zq3f, zq3d]
   refine (Qf (by omega)).trans ?_
   refine (Q2m (by omega)).trans ?_
   rw [Int.toNat_natCast]
   generalize hw : l.getD i (0, 0) = w
   have hp : ∀ t : Bool, zq3b (fun t => k t) (fun l2 t82 t92 t102 => zq3e m (fun t => k t) (fun _ => k 0) l2 t82 t92 (IntKind.i64.wrap (t102 + 1))) l (i : Int) l (l.length : Int) (i : Int) t w =
     sumK (fun e => k e) (fun _ => zq3e m (fun t => k t) (fun _ => k 0) l l (l.length : Int) ((i : Int) + 1)) (cond t (.inl 1) (cond (decide (0 < (i : Int)) && decide (w.1 < (l.getD (i - 1) (0, 0)).2)) (.inl 6) (.inr ()) : Int ⊕ Unit)) := by
    intro t
    unfold zq3b
    rw [Q2]
    unfold zq3a
    cases t with
    | true => rfl
    | false =>
     show cond (decide ((0 : Int) < i)) _ _ = _
     by_cases h0 : (0 : Int) < i
     ·refine (Qf h0).trans ?_
      rw [i64_in ((i : Int) - 1) (by omega)]
      refine (Q2m (by omega)).trans ?_
      simp only
      rw [show ((i : Int) - 1).toNat = i - 1 by omega, decide_eq_true h0, i64_in ((i : Int) + 1) (by omega)]
      cases decide (w.1 < (l.getD (i - 1) (0, 0)).2) <;> rfl
     ·refine (Qk h0).trans ?_
      simp only
      rw [decide_eq_false h0, i64_in ((i : Int) + 1) (by omega)]
      rfl
   simp only [hp]
   unfold Qh4
   cases decide (w.1 < 0) <;> cases decide (w.2 ≤ w.1) <;> rfl
  ·simp only [zq3f, zq3d]
   exact Qk (by omega)
end
end
end Go.Lift
