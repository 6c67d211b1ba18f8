/- Part9: Fn0, Fn1, LBase, LSnd0, LStr. -/
import Derived.Test.YthcfejpkighedaaGreatDoorProg
import Derived.Test.YthcfejpkighedaaGreatDoorPart8
set_option linter.unusedVariables false
set_option linter.unusedSectionVars false
set_option linter.unusedSimpArgs false
namespace Go.Lift
open Go.Proofs
noncomputable section
variable [Sl]
set_option maxRecDepth 100000
set_option linter.unusedVariables false
abbrev zq0 := (List UInt8 × (Int × List Int))
abbrev zq1 : Ty := (.prod .str (.prod (.int .i64) (.slice (.int .i64))))
abbrev zq2 := (List UInt8 × (Int × ((Int × Int) × (Int × (Int × (List Int × (List (Int × Int) × (Int × Int))))))))
abbrev zq3 : Ty := (.prod .str (.prod (.int .i64) (.prod (.prod (.int .i64) (.int .i64)) (.prod (.int .i64) (.prod (.int .i64) (.prod (.slice (.int .i64)) (.prod (.slice (.prod (.int .i64) (.int .i64))) (.prod (.int .i64) (.int .i64)))))))))
abbrev zq4 := (List UInt8 × (List zq2 × List (Int × (Int × (Int × (Int × Int))))))
abbrev zq5 : Ty := (.prod .str (.prod (.slice zq3) (.slice (.prod (.int .i64) (.prod (.int .i64) (.prod (.int .i64) (.prod (.int .i64) (.int .i64))))))))
abbrev zq6 := (Int × (List UInt8 × Int))
abbrev zq7 : Ty := (.prod (.int .i64) (.prod .str (.int .i64)))
abbrev zq8 := (Int × (Int × (Int × (Int × (Int × (Int × Int))))))
abbrev zq9 : Ty := (.prod (.int .i64) (.prod (.int .i64) (.prod (.int .i64) (.prod (.int .i64) (.prod (.int .i64) (.prod (.int .i64) (.int .i64)))))))
abbrev zqa := (List UInt8 × (Int × List zq8))
abbrev zqb : Ty := (.prod .str (.prod (.int .i64) (.slice zq9)))
abbrev zqc := (List UInt8 × (List Int × Bool))
abbrev zqd : Ty := (.prod .str (.prod (.slice (.int .i64)) .bool))
abbrev zqe := (List UInt8 × (Int × (List (Int × Int) × (Int × (Int × Bool)))))
abbrev zqf : Ty := (.prod .str (.prod (.int .i64) (.prod (.slice (.prod (.int .i64) (.int .i64))) (.prod (.int .i64) (.prod (.int .i64) .bool)))))
abbrev zqg := (List zqa × (List zqe × (List zq0 × List zq4)))
abbrev zqh : Ty := (.prod (.slice zqb) (.prod (.slice zqf) (.prod (.slice zq1) (.slice zq5))))
abbrev zqi : zq6 := ((0 : Int), (([] : List UInt8), (0 : Int)))
abbrev zqj : zqc := (([] : List UInt8), (([] : List Int), false))
abbrev zqk : zq0 := (([] : List UInt8), ((0 : Int), ([] : List Int)))
abbrev zql : zqa := (([] : List UInt8), ((0 : Int), ([] : List zq8)))
abbrev zqm : zq8 := ((0 : Int), ((0 : Int), ((0 : Int), ((0 : Int), ((0 : Int), ((0 : Int), (0 : Int)))))))
abbrev zqn : zqe := (([] : List UInt8), ((0 : Int), (([] : List (Int × Int)), ((0 : Int), ((0 : Int), false)))))
abbrev zqo : zq4 := (([] : List UInt8), (([] : List zq2), ([] : List (Int × (Int × (Int × (Int × Int)))))))
abbrev zqp : zqg := (([] : List zqa), (([] : List zqe), (([] : List zq0), ([] : List zq4))))
abbrev zqq : zq2 := (([] : List UInt8), ((0 : Int), (((0 : Int), (0 : Int)), ((0 : Int), ((0 : Int), (([] : List Int), (([] : List (Int × Int)), ((0 : Int), (0 : Int)))))))))
abbrev t1y := List zq4
abbrev t2y := List zq0
abbrev t3y := List UInt8
abbrev t4y := List zqe
abbrev t5y := Int × Int
abbrev t0y := Int × (Int × (Int × t5y))
abbrev t6y := List zqa
abbrev t7y := List zq6
abbrev t8y := Int × List zq6
abbrev t9y := List UInt8 × Bool
abbrev t10y := List t5y
abbrev t11y := List Int × Int
abbrev t12y := List Int
abbrev t13y := List zq8
abbrev o15y : OT := .p (.d .str) (.p (.d (.int .i64)) (.p (.r 129 (.d (.prod (.int .i64) (.int .i64)))) (.d (.prod (.int .i64) (.prod (.int .i64) .bool)))))
abbrev o16y : OT := .p (.d .str) (.p (.d (.int .i64)) (.p (.d (.prod (.int .i64) (.int .i64))) (.p (.d (.int .i64)) (.p (.d (.int .i64)) (.p (.r 3 (.d (.int .i64))) (.p (.r 129 (.d (.prod (.int .i64) (.int .i64)))) (.d (.prod (.int .i64) (.int .i64)))))))))
abbrev o14y : OT := .p (.d .str) (.p (.r 40 o16y) (.r 46 (.d (.prod (.int .i64) (.prod (.int .i64) (.prod (.int .i64) (.prod (.int .i64) (.int .i64))))))))
abbrev o17y : OT := .p (.d .str) (.p (.d (.int .i64)) (.r 101 (.d zq9)))
abbrev o18y : OT := .p (.d .str) (.p (.d (.int .i64)) (.r 3 (.d (.int .i64))))
abbrev v19y : Bool × List CT := (false, [.data (.int .i64)])
abbrev b20y : BT := .cells 122 [.trowh 1, .trowh 2, .trowh 3, .trowh 4]
abbrev v21y : Bool × List CT := (false, [.data .bool])
abbrev b22y : BT := .cells 27 [.data zqh]
abbrev v23y : Bool × List CT := (false, [.ptr 0 0])
abbrev b24y : BT := .cells 46 [.data (.prod (.int .i64) (.prod (.int .i64) (.prod (.int .i64) (.prod (.int .i64) (.int .i64)))))]
abbrev v25y : Bool × List CT := (false, [.data (.slice zq7)])
abbrev v26y : Bool × List CT := (false, [.data .str])
abbrev b27y : BT := .cells 84 [.data (.prod (.slice (.int .i64)) (.int .i64))]
abbrev v28y : Bool × List CT := (false, [.data (.slice (.prod (.int .i64) (.int .i64)))])
abbrev b29y : BT := .cells 9 [.data .str]
abbrev v30y : Bool × List CT := (false, [.data (.slice (.int .i64))])
abbrev v31y : Bool × List CT := (false, [.rowh 0])
abbrev v32y : Bool × List CT := (false, [.ptr 1 0])
abbrev b33y : BT := .cells 146 [.data (.prod (.int .i64) (.prod (.int .i64) (.int .i64)))]
abbrev v34y : Bool × List CT := (true, [.data zqh])
abbrev v35y : Bool × List CT := (false, [.data (.slice zq9)])
abbrev v36y : Bool × List CT := (true, [.data (.prod (.int .i64) (.prod (.int .i64) (.int .i64)))])
abbrev v37y : Bool × List CT := (false, [.data (.slice (.prod (.int .i64) (.slice zq7)))])
abbrev v38y : Bool × List CT := (true, [.data zqb])
abbrev b39y : BT := .cells 44 [.data zq5]
abbrev v40y : Bool × List CT := (false, [.data (.slice zqf)])
abbrev v41y : Bool × List CT := (true, [.data zq5])
abbrev v42y : Bool × List CT := (false, [.data (.slice zq5)])
abbrev v43y : Bool × List CT := (false, [.data (.slice zq1)])
abbrev b44y : BT := .cells 35 [.data .str, .data (.int .i64), .rowh 6, .data (.int .i64), .data (.int .i64), .data .bool]
abbrev v45y : Bool × List CT := (false, [.data (.slice zqb)])
abbrev v46y : Bool × List CT := (true, [.data zq3])
abbrev v47y : Bool × List CT := (false, [.rowh 1])
abbrev v48y : Bool × List CT := (true, [.data zq1])
abbrev l49y : List BT := [b20y, .tree 32 o17y, .tree 35 o15y, .tree 71 o18y, .tree 44 o14y]
abbrev l50y : List BT := [b20y, .tree 32 o17y, .tree 35 o15y, .tree 71 o18y, .tree 44 o14y, b24y, .row 3 (.int .i64)]
abbrev l51y : List BT := [.row 165 (.prod (.int .i64) (.int .i64))]
abbrev l52y : List BT := [.row 119 (.prod (.int .i64) (.slice zq7))]
abbrev l53y : List BT := [b20y, .tree 32 o17y, .tree 35 o15y, .tree 71 o18y, .tree 44 o14y, b44y, .row 129 (.prod (.int .i64) (.int .i64))]
abbrev l54y : List BT := [b22y, .map 66 .str .bool false]
abbrev l55y : List BT := [.cells 27 [.trowh 1, .trowh 2, .trowh 3, .trowh 4], .tree 32 o17y, .tree 35 o15y, .tree 71 o18y, .tree 44 o14y]
abbrev l56y : List BT := [.cells 72 [.fn 158 []], b29y]
abbrev l57y : List BT := [.cells 64 [.fn 155 []], b29y]
abbrev l58y : List BT := [.cells 97 [.fn 45 []], b29y]
abbrev l59y : List BT := [.cells 76 [.fn 47 []], b29y]
abbrev l60y : List BT := [b20y, .tree 32 o17y, .tree 35 o15y, .tree 71 o18y, .tree 44 o14y, .row 3 (.int .i64)]
abbrev l61y : List BT := [.row 167 (.prod (.int .i64) (.int .i64)), .row 165 (.prod (.int .i64) (.int .i64))]
abbrev l62y : List BT := [.row 167 (.prod (.int .i64) (.int .i64))]
abbrev q63y : List (TypeId × OT) := [(32, o17y), (35, o15y), (40, o16y), (44, o14y), (71, o18y)]
def tab : List (Nat × TI) := [
 (3, ⟨false, 1, 8, [.int .i64 (0 : Int)], [], none, none, (some (.int .i64)), (some .i64), false, false, none, none, false⟩),
 (4, ⟨false, 1, 1, [.bool false], [], none, none, (some .bool), none, true, false, none, none, false⟩),
 (5, ⟨false, 1, 1, [.int .u8 (0 : Int)], [], none, none, (some (.int .u8)), (some .u8), false, false, none, none, false⟩),
 (9, ⟨false, 1, 16, [.str ([] : List UInt8)], [], none, none, (some .str), none, false, true, none, none, false⟩),
 (22, ⟨false, 1, 24, [.nils], [], (some 32), none, (some (.slice zqb)), none, false, false, none, none, false⟩),
 (23, ⟨false, 1, 24, [.nils], [], (some 35), none, (some (.slice zqf)), none, false, false, none, none, false⟩),
 (24, ⟨false, 1, 24, [.nils], [], (some 71), none, (some (.slice zq1)), none, false, false, none, none, false⟩),
 (25, ⟨false, 1, 24, [.nils], [], (some 44), none, (some (.slice zq5)), none, false, false, none, none, false⟩),
 (27, ⟨true, 4, 96, [.nils, .nils, .nils, .nils], [(0, 1, false), (1, 1, false), (2, 1, false), (3, 1, false)], none, none, (some zqh), none, false, false, none, none, false⟩),
 (30, ⟨false, 1, 24, [.nils], [], (some 101), none, (some (.slice zq9)), none, false, false, none, none, false⟩),
 (32, ⟨true, 3, 48, [.str ([] : List UInt8), .int .i64 (0 : Int), .nils], [(0, 1, false), (1, 1, false), (2, 1, false)], none, none, (some zqb), none, false, false, none, none, false⟩),
 (33, ⟨false, 1, 24, [.nils], [], (some 129), none, (some (.slice (.prod (.int .i64) (.int .i64)))), none, false, false, none, none, false⟩),
 (35, ⟨true, 6, 72, [.str ([] : List UInt8), .int .i64 (0 : Int), .nils, .int .i64 (0 : Int), .int .i64 (0 : Int), .bool false], [(0, 1, false), (1, 1, false), (2, 1, false), (3, 1, false), (4, 1, false), (5, 1, false)], none, none, (some zqf), none, false, false, none, none, false⟩),
 (37, ⟨true, 2, 16, [.int .i64 (0 : Int), .int .i64 (0 : Int)], [(0, 1, false), (1, 1, false)], none, none, (some (.prod (.int .i64) (.int .i64))), none, false, false, (some [.i, .i]), none, false⟩),
 (38, ⟨false, 1, 24, [.nils], [], (some 3), none, (some (.slice (.int .i64))), none, false, false, none, none, false⟩),
 (40, ⟨true, 10, 120, [.str ([] : List UInt8), .int .i64 (0 : Int), .int .i64 (0 : Int), .int .i64 (0 : Int), .int .i64 (0 : Int), .int .i64 (0 : Int), .nils, .nils, .int .i64 (0 : Int), .int .i64 (0 : Int)], [(0, 1, false), (1, 1, false), (2, 2, true), (4, 1, false), (5, 1, false), (6, 1, false), (7, 1, false), (8, 1, false), (9, 1, false)], none, none, (some zq3), none, false, false, none, none, false⟩),
 (41, ⟨false, 1, 24, [.nils], [], (some 40), none, (some (.slice zq3)), none, false, false, none, none, false⟩),
 (42, ⟨false, 1, 24, [.nils], [], (some 46), none, (some (.slice (.prod (.int .i64) (.prod (.int .i64) (.prod (.int .i64) (.prod (.int .i64) (.int .i64))))))), none, false, false, none, none, false⟩),
 (44, ⟨true, 3, 64, [.str ([] : List UInt8), .nils, .nils], [(0, 1, false), (1, 1, false), (2, 1, false)], none, none, (some zq5), none, false, false, none, none, false⟩),
 (46, ⟨true, 5, 40, [.int .i64 (0 : Int), .int .i64 (0 : Int), .int .i64 (0 : Int), .int .i64 (0 : Int), .int .i64 (0 : Int)], [(0, 1, false), (1, 1, false), (2, 1, false), (3, 1, false), (4, 1, false)], none, none, (some (.prod (.int .i64) (.prod (.int .i64) (.prod (.int .i64) (.prod (.int .i64) (.int .i64)))))), none, false, false, (some [.i, .i, .i, .i, .i]), none, false⟩),
 (64, ⟨false, 1, 8, [.nilfn], [], none, none, none, none, false, false, none, none, false⟩),
 (66, ⟨false, 1, 8, [.junk], [], none, none, none, none, false, false, none, (some (9, 4)), false⟩),
 (71, ⟨true, 3, 48, [.str ([] : List UInt8), .int .i64 (0 : Int), .nils], [(0, 1, false), (1, 1, false), (2, 1, false)], none, none, (some zq1), none, false, false, none, none, false⟩),
 (72, ⟨false, 1, 8, [.nilfn], [], none, none, none, none, false, false, none, none, false⟩),
 (76, ⟨false, 1, 8, [.nilfn], [], none, none, none, none, false, false, none, none, false⟩),
 (81, ⟨false, 1, 24, [.nils], [], (some 9), none, (some (.slice .str)), none, false, false, none, none, false⟩),
 (84, ⟨true, 2, 32, [.nils, .int .i64 (0 : Int)], [(0, 1, false), (1, 1, false)], none, none, (some (.prod (.slice (.int .i64)) (.int .i64))), none, false, false, none, none, false⟩),
 (85, ⟨false, 1, 24, [.nils], [], (some 119), none, (some (.slice (.prod (.int .i64) (.slice zq7)))), none, false, false, none, none, false⟩),
 (97, ⟨false, 1, 8, [.nilfn], [], none, none, none, none, false, false, none, none, false⟩),
 (101, ⟨true, 7, 56, [.int .i64 (0 : Int), .int .i64 (0 : Int), .int .i64 (0 : Int), .int .i64 (0 : Int), .int .i64 (0 : Int), .int .i64 (0 : Int), .int .i64 (0 : Int)], [(0, 1, false), (1, 1, false), (2, 1, false), (3, 1, false), (4, 1, false), (5, 1, false), (6, 1, false)], none, none, (some zq9), none, false, false, (some [.i, .i, .i, .i, .i, .i, .i]), none, false⟩),
 (114, ⟨false, 1, 24, [.nils], [], (some 127), none, (some (.slice zq7)), none, false, false, none, none, false⟩),
 (119, ⟨true, 2, 32, [.int .i64 (0 : Int), .nils], [(0, 1, false), (1, 1, false)], none, none, (some (.prod (.int .i64) (.slice zq7))), none, false, false, none, none, false⟩),
 (122, ⟨true, 4, 96, [.nils, .nils, .nils, .nils], [(0, 4, true)], none, none, (some zqh), none, false, false, none, none, false⟩),
 (123, ⟨false, 1, 8, [.junk], [], none, none, none, none, false, false, none, (some (9, 125)), false⟩),
 (125, ⟨false, 1, 8, [.nilfn], [], none, none, none, none, false, false, none, none, false⟩),
 (127, ⟨true, 3, 32, [.int .i64 (0 : Int), .str ([] : List UInt8), .int .i64 (0 : Int)], [(0, 1, false), (1, 1, false), (2, 1, false)], none, none, (some zq7), none, false, false, (some [.i, .s, .i]), none, false⟩),
 (129, ⟨true, 2, 16, [.int .i64 (0 : Int), .int .i64 (0 : Int)], [(0, 1, false), (1, 1, false)], none, none, (some (.prod (.int .i64) (.int .i64))), none, false, false, (some [.i, .i]), none, false⟩),
 (139, ⟨false, 1, 24, [.nils], [], (some 167), none, (some (.slice (.prod (.int .i64) (.int .i64)))), none, false, false, none, none, false⟩),
 (146, ⟨true, 3, 24, [.int .i64 (0 : Int), .int .i64 (0 : Int), .int .i64 (0 : Int)], [(0, 1, false), (1, 1, false), (2, 1, false)], none, none, (some (.prod (.int .i64) (.prod (.int .i64) (.int .i64)))), none, false, false, (some [.i, .i, .i]), none, false⟩),
 (156, ⟨true, 3, 48, [.str ([] : List UInt8), .nils, .bool false], [(0, 1, false), (1, 1, false), (2, 1, false)], none, none, (some zqd), none, false, false, none, none, false⟩),
 (161, ⟨false, 1, 24, [.nils], [], (some 165), none, (some (.slice (.prod (.int .i64) (.int .i64)))), none, false, false, none, none, false⟩),
 (165, ⟨true, 2, 16, [.int .i64 (0 : Int), .int .i64 (0 : Int)], [(0, 1, false), (1, 1, false)], none, none, (some (.prod (.int .i64) (.int .i64))), none, false, false, (some [.i, .i]), none, false⟩),
 (167, ⟨true, 2, 16, [.int .i64 (0 : Int), .int .i64 (0 : Int)], [(0, 1, false), (1, 1, false)], none, none, (some (.prod (.int .i64) (.int .i64))), none, false, false, (some [.i, .i]), none, false⟩),
 (176, ⟨false, 1, 24, [.nils], [], (some 156), none, (some (.slice zqd)), none, false, false, none, none, false⟩),
 (181, ⟨false, 1, 8, [.nilp], [], none, none, none, none, false, false, none, none, true⟩),
 (187, ⟨false, 1, 8, [.nilp], [], none, none, none, none, false, false, none, none, true⟩),
 (190, ⟨false, 1, 8, [.nilp], [], none, none, none, none, false, false, none, none, true⟩),
 (194, ⟨false, 1, 8, [.nilp], [], none, none, none, none, false, false, none, none, true⟩),
 (197, ⟨false, 1, 8, [.nilp], [], none, none, none, none, false, false, none, none, true⟩),
 (205, ⟨true, 12, 96, [.int .i64 (0 : Int), .int .i64 (0 : Int), .int .i64 (0 : Int), .int .i64 (0 : Int), .int .i64 (0 : Int), .int .i64 (0 : Int), .int .i64 (0 : Int), .int .i64 (0 : Int), .int .i64 (0 : Int), .int .i64 (0 : Int), .int .i64 (0 : Int), .int .i64 (0 : Int)], [], (some 3), (some 12), (some (.prod (.int .i64) (.prod (.int .i64) (.prod (.int .i64) (.prod (.int .i64) (.prod (.int .i64) zq9)))))), none, false, false, (some [.i, .i, .i, .i, .i, .i, .i, .i, .i, .i, .i, .i]), none, false⟩),
 (238, ⟨false, 1, 16, [.err true], [], none, none, (some .err), none, false, false, none, none, false⟩)]
theorem Qe : TOk Tryz.prog (look tab) := Qma (by kernel_rfl)
theorem mixed : Tryz.prog.follows .mixedOrders = true := by kernel_rfl
abbrev OK (p : Pc) (G : p.G) : Prop := p.Ok Tryz.prog G
abbrev GO (X : Ctx) : Prop := ΓOk Tryz.prog X.Γ
@[reducible] def cx (l : List (Nat × Fun)) : Ctx := ⟨look tab, Q1d l, false, false, false, false, [], none, 0, []⟩
@[reducible] def lp2 {A0 A1 B : Type} (f : (A0 → A1 → B) → A0 → A1 → B) (z : B) : Nat → A0 → A1 → B
 | 0 => fun _ _ => z
 | i + 1 => f (lp2 f z i)
@[reducible] def lp3 {A0 A1 A2 B : Type} (f : (A0 → A1 → A2 → B) → A0 → A1 → A2 → B) (z : B) : Nat → A0 → A1 → A2 → B
 | 0 => fun _ _ _ => z
 | i + 1 => f (lp3 f z i)
@[reducible] def lp4 {A0 A1 A2 A3 B : Type} (f : (A0 → A1 → A2 → A3 → B) → A0 → A1 → A2 → A3 → B) (z : B) : Nat → A0 → A1 → A2 → A3 → B
 | 0 => fun _ _ _ _ => z
 | i + 1 => f (lp4 f z i)
@[reducible] def lp5 {A0 A1 A2 A3 A4 B : Type} (f : (A0 → A1 → A2 → A3 → A4 → B) → A0 → A1 → A2 → A3 → A4 → B) (z : B) : Nat → A0 → A1 → A2 → A3 → A4 → B
 | 0 => fun _ _ _ _ _ => z
 | i + 1 => f (lp5 f z i)
@[reducible] def lp6 {A0 A1 A2 A3 A4 A5 B : Type} (f : (A0 → A1 → A2 → A3 → A4 → A5 → B) → A0 → A1 → A2 → A3 → A4 → A5 → B) (z : B) : Nat → A0 → A1 → A2 → A3 → A4 → A5 → B
 | 0 => fun _ _ _ _ _ _ => z
 | i + 1 => f (lp6 f z i)
@[reducible] def lp7 {A0 A1 A2 A3 A4 A5 A6 B : Type} (f : (A0 → A1 → A2 → A3 → A4 → A5 → A6 → B) → A0 → A1 → A2 → A3 → A4 → A5 → A6 → B) (z : B) : Nat → A0 → A1 → A2 → A3 → A4 → A5 → A6 → B
 | 0 => fun _ _ _ _ _ _ _ => z
 | i + 1 => f (lp7 f z i)
@[reducible] def lp8 {A0 A1 A2 A3 A4 A5 A6 A7 B : Type} (f : (A0 → A1 → A2 → A3 → A4 → A5 → A6 → A7 → B) → A0 → A1 → A2 → A3 → A4 → A5 → A6 → A7 → B) (z : B) : Nat → A0 → A1 → A2 → A3 → A4 → A5 → A6 → A7 → B
 | 0 => fun _ _ _ _ _ _ _ _ => z
 | i + 1 => f (lp8 f z i)
@[reducible] def lp9 {A0 A1 A2 A3 A4 A5 A6 A7 A8 B : Type} (f : (A0 → A1 → A2 → A3 → A4 → A5 → A6 → A7 → A8 → B) → A0 → A1 → A2 → A3 → A4 → A5 → A6 → A7 → A8 → B) (z : B) : Nat → A0 → A1 → A2 → A3 → A4 → A5 → A6 → A7 → A8 → B
 | 0 => fun _ _ _ _ _ _ _ _ _ => z
 | i + 1 => f (lp9 f z i)
@[reducible] def lp10 {A0 A1 A2 A3 A4 A5 A6 A7 A8 A9 B : Type} (f : (A0 → A1 → A2 → A3 → A4 → A5 → A6 → A7 → A8 → A9 → B) → A0 → A1 → A2 → A3 → A4 → A5 → A6 → A7 → A8 → A9 → B) (z : B) : Nat → A0 → A1 → A2 → A3 → A4 → A5 → A6 → A7 → A8 → A9 → B
 | 0 => fun _ _ _ _ _ _ _ _ _ _ => z
 | i + 1 => f (lp10 f z i)
@[reducible] def lp11 {A0 A1 A2 A3 A4 A5 A6 A7 A8 A9 A10 B : Type} (f : (A0 → A1 → A2 → A3 → A4 → A5 → A6 → A7 → A8 → A9 → A10 → B) → A0 → A1 → A2 → A3 → A4 → A5 → A6 → A7 → A8 → A9 → A10 → B) (z : B) : Nat → A0 → A1 → A2 → A3 → A4 → A5 → A6 → A7 → A8 → A9 → A10 → B
 | 0 => fun _ _ _ _ _ _ _ _ _ _ _ => z
 | i + 1 => f (lp11 f z i)
@[reducible] def lp13 {A0 A1 A2 A3 A4 A5 A6 A7 A8 A9 A10 A11 A12 B : Type} (f : (A0 → A1 → A2 → A3 → A4 → A5 → A6 → A7 → A8 → A9 → A10 → A11 → A12 → B) → A0 → A1 → A2 → A3 → A4 → A5 → A6 → A7 → A8 → A9 → A10 → A11 → A12 → B) (z : B) : Nat → A0 → A1 → A2 → A3 → A4 → A5 → A6 → A7 → A8 → A9 → A10 → A11 → A12 → B
 | 0 => fun _ _ _ _ _ _ _ _ _ _ _ _ _ => z
 | i + 1 => f (lp13 f z i)
@[reducible] def lp14 {A0 A1 A2 A3 A4 A5 A6 A7 A8 A9 A10 A11 A12 A13 B : Type} (f : (A0 → A1 → A2 → A3 → A4 → A5 → A6 → A7 → A8 → A9 → A10 → A11 → A12 → A13 → B) → A0 → A1 → A2 → A3 → A4 → A5 → A6 → A7 → A8 → A9 → A10 → A11 → A12 → A13 → B) (z : B) : Nat → A0 → A1 → A2 → A3 → A4 → A5 → A6 → A7 → A8 → A9 → A10 → A11 → A12 → A13 → B
 | 0 => fun _ _ _ _ _ _ _ _ _ _ _ _ _ _ => z
 | i + 1 => f (lp14 f z i)
@[reducible] def lp15 {A0 A1 A2 A3 A4 A5 A6 A7 A8 A9 A10 A11 A12 A13 A14 B : Type} (f : (A0 → A1 → A2 → A3 → A4 → A5 → A6 → A7 → A8 → A9 → A10 → A11 → A12 → A13 → A14 → B) → A0 → A1 → A2 → A3 → A4 → A5 → A6 → A7 → A8 → A9 → A10 → A11 → A12 → A13 → A14 → B) (z : B) : Nat → A0 → A1 → A2 → A3 → A4 → A5 → A6 → A7 → A8 → A9 → A10 → A11 → A12 → A13 → A14 → B
 | 0 => fun _ _ _ _ _ _ _ _ _ _ _ _ _ _ _ => z
 | i + 1 => f (lp15 f z i)
@[reducible] def lp16 {A0 A1 A2 A3 A4 A5 A6 A7 A8 A9 A10 A11 A12 A13 A14 A15 B : Type} (f : (A0 → A1 → A2 → A3 → A4 → A5 → A6 → A7 → A8 → A9 → A10 → A11 → A12 → A13 → A14 → A15 → B) → A0 → A1 → A2 → A3 → A4 → A5 → A6 → A7 → A8 → A9 → A10 → A11 → A12 → A13 → A14 → A15 → B) (z : B) : Nat → A0 → A1 → A2 → A3 → A4 → A5 → A6 → A7 → A8 → A9 → A10 → A11 → A12 → A13 → A14 → A15 → B
 | 0 => fun _ _ _ _ _ _ _ _ _ _ _ _ _ _ _ _ => z
 | i + 1 => f (lp16 f z i)
@[reducible] def lp25 {A0 A1 A2 A3 A4 A5 A6 A7 A8 A9 A10 A11 A12 A13 A14 A15 A16 A17 A18 A19 A20 A21 A22 A23 A24 B : Type} (f : (A0 → A1 → A2 → A3 → A4 → A5 → A6 → A7 → A8 → A9 → A10 → A11 → A12 → A13 → A14 → A15 → A16 → A17 → A18 → A19 → A20 → A21 → A22 → A23 → A24 → B) → A0 → A1 → A2 → A3 → A4 → A5 → A6 → A7 → A8 → A9 → A10 → A11 → A12 → A13 → A14 → A15 → A16 → A17 → A18 → A19 → A20 → A21 → A22 → A23 → A24 → B) (z : B) : Nat → A0 → A1 → A2 → A3 → A4 → A5 → A6 → A7 → A8 → A9 → A10 → A11 → A12 → A13 → A14 → A15 → A16 → A17 → A18 → A19 → A20 → A21 → A22 → A23 → A24 → B
 | 0 => fun _ _ _ _ _ _ _ _ _ _ _ _ _ _ _ _ _ _ _ _ _ _ _ _ _ => z
 | i + 1 => f (lp25 f z i)
abbrev En := Ent Tryz.prog
abbrev Pb := PB Tryz.prog
@[reducible] noncomputable def ctx (es : List En) : Ctx := ⟨look tab, gam es, false, false, false, false, [], none, 0, []⟩
theorem pf (es : List En) (cs : List Pb) {ps rs : List (Bool × List CT)} {is os : List BT} {f : FuncId} {fn : Func} (vs : List RS) {s : (β : Type) → VF (KF (Option β) rs os → Option β) ps is} (hf : Tryz.prog.funcs[f]? = some fn)
  (hc : ((fn.name == "runtime.NumGoroutine"), fn.body, fn.results.toList, (Nat.beq vs.length rs.length && (ST.tidy rs && Nat.ble ps.length fn.ntmps)), cs.map (fun b => (find b.q 1 (Q5 fn), b.p.v.m, b.p.n, b.p.m))) = (false, some (Q5 fn), vs.map RS.toVar, true, cs.map (fun b => ([b.p.c], is.length, fn.ntmps, is.length))))
  (h : ∀ {β : Type} (x : ST.dens ps × BT.dens is) (k : ST.dens rs × BT.dens os → Option β), exec (ctx es) fn.ntmps (cuts cs) 1 (Q5 fn) ((vIn (sgE ps is rs os s)).mk' x) (retK (ctx es).T (sgE ps is rs os s) vs k) = vapp ps is (s β) x (klam rs os k)) :
  SpecOk Tryz.prog f (sgE ps is rs os fun β => hid (s β)) := Q9f mixed (X := ctx es) Qe es rfl cs vs hf hc h
theorem pfB (es : List En) (cs : List Pb) {ps rs : List (Bool × List CT)} {is os : List BT} {f : FuncId} {fn : Func} (vs : List RS) {s : (β : Type) → VF (KF (Option β) rs os → Option β) ps is} (hf : Tryz.prog.funcs[f]? = some fn)
  (hc : ((fn.name == "runtime.NumGoroutine"), fn.body, fn.results.toList, (Nat.beq vs.length rs.length && (ST.tidy rs && Nat.ble ps.length fn.ntmps)), cs.map (fun b => (find b.q 1 (Q5 fn), b.p.v.m, b.p.n, b.p.m))) = (false, some (Q5 fn), vs.map RS.toVar, true, cs.map (fun b => ([b.p.c], is.length, fn.ntmps, is.length))))
  (h : ∀ {β : Type} (x : ST.dens ps × BT.dens is) (k : ST.dens rs × BT.dens os → Option β), exec (ctx es) fn.ntmps (cuts cs) 1 (Q5 fn) ((vIn (sgE ps is rs os s)).mk' x) (retK (ctx es).T (sgE ps is rs os s) vs k) = vapp ps is (s β) x (klam rs os k)) :
  SpecOkB Tryz.prog f (sgE ps is rs os fun β => hid (s β)) := Q1v mixed (X := ctx es) Qe es rfl cs vs hf hc h
theorem pl {p : Pc} (es : List En) (cs : List Pb) {g : Nat → (β : Type) → p.T β} (hc : ((p.o.all fun x => Nat.beq x.2.m p.m), cs.map (fun b => (find b.q 1 (Q1b p.c), b.p.v.m, b.p.n, b.p.m))) = (true, cs.map (fun b => ([b.p.c], p.m, p.n, p.m)))) (hv : p.v.m = p.m) (hl : p.c = .loop (Q1b p.c))
  (h0 : ∀ {β : Type} (d : p.v.den) (ks : Outs.K β p.o), p.un (g 0) d ks = none)
  (h : ∀ (i : Nat) {β : Type} (d : p.v.den) (ks : Outs.K β p.o), exec (ctx es) p.n (cuts cs) 1 (Q1b p.c) (p.v.mk' d) (Qc8 p.v (fun d' => p.un (g i) d' ks) p.o ks) = p.un (g (i + 1)) d ks) : p.Ok Tryz.prog (p.un fun β => hid (g fuel β)) := Q8d mixed (X := ctx es) Qe es rfl cs hc hv hl h0 h
theorem pe {p : Pc} (es : List En) (cs : List Pb) (q : Nat) {g : (β : Type) → p.T β} (hc : ((p.o.all fun x => Nat.beq x.2.m p.m), cs.map (fun b => (find b.q q p.c, b.p.v.m, b.p.n, b.p.m))) = (true, cs.map (fun b => ([b.p.c], p.m, p.n, p.m))))
  (h : ∀ {β : Type} (d : p.v.den) (ks : Outs.K β p.o), exec (ctx es) p.n (cuts cs) q p.c (p.v.mk' d) (outK p.o ks) = p.un g d ks) : p.Ok Tryz.prog (p.un fun β => hid (g β)) := Qih mixed (X := ctx es) Qe es rfl cs q hc h
abbrev zqr := {β : Type} → t12y → (Bool → Option β) → Option β
def zqs : zqr := fun l k =>
 let t := (decide ((List.length l : Int) ≤ (500 : Int)));
 k t
def zqt : zqr := hid zqs
noncomputable def zqu : En := ⟨10, .spec (sg [v30y] [] [v21y] [] zqt), pf [] [] [.tmp 2] Tryz.func10 (by kernel_rfl) fun _ _ => by kernel_rfl⟩
abbrev zqv := {β : Type} → t12y → (t11y → Option β) → Option β
def zqw : zqv := fun l k =>
 k (l, (0 : Int))
def zqx : zqv := hid zqw
noncomputable def zqy : En := ⟨12, .spec (sg [v30y] [] [v23y] [b27y] zqx), pf [] [] [.tmp 2] Tryz.func12 (by kernel_rfl) fun _ _ => by kernel_rfl⟩
abbrev zqz := {β : Type} → zqa → (t3y → Option β) → Option β
def zq10 : zqz := fun z k =>
 k z.1
def zq11 : zqz := hid zq10
noncomputable def zq12 : En := ⟨19, .spec (sg [v38y] [] [v26y] [] zq11), pf [] [] [.tmp 2] Tryz.func19 (by kernel_rfl) fun _ _ => by kernel_rfl⟩
abbrev zq13 := {β : Type} → zq0 → (t3y → Option β) → Option β
def zq14 : zq13 := fun x k =>
 k x.1
def zq15 : zq13 := hid zq14
noncomputable def zq16 : En := ⟨24, .spec (sg [v48y] [] [v26y] [] zq15), pf [] [] [.tmp 2] Tryz.func24 (by kernel_rfl) fun _ _ => by kernel_rfl⟩
abbrev zq17 := {β : Type} → zq4 → (t3y → Option β) → Option β
def zq18 : zq17 := fun s k =>
 k s.1
def zq19 : zq17 := hid zq18
noncomputable def zq1a : En := ⟨28, .spec (sg [v41y] [] [v26y] [] zq19), pf [] [] [.tmp 2] Tryz.func28 (by kernel_rfl) fun _ _ => by kernel_rfl⟩
abbrev zq1b := {β : Type} → (t3y → Option β) → Option β
def zq1c : zq1b := fun k =>
 let t := ([122, 111, 110, 101, 32, 122, 32, 43, 48, 48, 58, 48, 48, 10, 112, 101, 114, 115, 111, 110, 32, 97, 32, 122, 10, 115, 99, 104, 101, 100, 117, 108, 101, 32, 115, 10, 108, 97, 121, 101, 114, 32, 108, 32, 122, 32, 50, 48, 50, 54, 45, 48, 49, 45, 48, 53, 32, 48, 57, 58, 48, 48, 32, 49, 32, 119, 101, 101, 107, 115, 10, 109, 101, 109, 98, 101, 114, 32, 97, 10] : List UInt8);
 k t
def zq1d : zq1b := hid zq1c
noncomputable def zq1e : En := ⟨31, .spec (sg [] [] [v26y] [] zq1d), pf [] [] [.tmp 0] Tryz.func31 (by kernel_rfl) fun _ _ => by kernel_rfl⟩
theorem zq1f : SpecOk Tryz.prog 31 (sg [] [] [v26y] [] zq1d) := zq1e.ok
abbrev zq1g := {β : Type} → Int → t11y → (Int → t11y → Option β) → Option β
def zq1h : zq1g := fun n d k =>
 cond (decide ((List.length d.1 : Int) ≤ d.2))
 (k (0 : Int) d)
 (cond (decide (n < (1 : Int)))
 (k (0 : Int) d)
 (cond (decide (0 ≤ d.2) && decide (d.2 < (List.length d.1 : Int)))
 (let e := List.getD d.1 (Int.toNat d.2) (0 : Int);
 cond (!decide (n = 0))
 (cond (decide ((Int.tmod e n) < (0 : Int)))
 (let x := (IntKind.i64.wrap ((Int.tmod e n) + n));
 k x (d.1, (IntKind.i64.wrap (d.2 + (1 : Int)))))
 (k (Int.tmod e n) (d.1, (IntKind.i64.wrap (d.2 + (1 : Int))))))
 none)
 none))
def zq1i : zq1g := hid zq1h
noncomputable def zq1j : En := ⟨32, .spec (sg [v23y, v19y] [b27y] [v19y] [b27y] zq1i), pf [] [] [.tmp 4] Tryz.func32 (by kernel_rfl) fun _ _ => by kernel_rfl⟩
abbrev zq1k := {β : Type} → ((List t3y) → Option β) → Option β
def zq1l : zq1k := fun k =>
 let l := ([([122, 111, 110, 101, 32, 104, 101, 114, 101, 32, 43, 48, 49, 58, 48, 48] : List UInt8), ([122, 111, 110, 101, 32, 116, 104, 101, 114, 101, 32, 45, 48, 53, 58, 48, 48] : List UInt8), ([114, 117, 108, 101, 32, 50, 48, 50, 54, 32, 50, 48, 50, 55, 32, 109, 97, 114, 32, 108, 97, 115, 116, 32, 115, 117, 110, 32, 48, 50, 58, 48, 48, 32, 43, 48, 50, 58, 48, 48] : List UInt8), ([114, 117, 108, 101, 32, 50, 48, 50, 54, 32, 50, 48, 50, 55, 32, 111, 99, 116, 32, 108, 97, 115, 116, 32, 115, 117, 110, 32, 48, 51, 58, 48, 48, 32, 43, 48, 49, 58, 48, 48] : List UInt8), ([114, 117, 108, 101, 32, 50, 48, 50, 54, 32, 50, 48, 50, 54, 32, 102, 101, 98, 32, 116, 104, 105, 114, 100, 32, 115, 117, 110, 32, 48, 51, 58, 48, 48, 32, 43, 48, 49, 58, 48, 48] : List UInt8), ([114, 117, 108, 101, 32, 50, 48, 50, 54, 32, 50, 48, 50, 54, 32, 102, 111, 111, 32, 108, 97, 115, 116, 32, 115, 117, 110, 32, 48, 51, 58, 48, 48, 32, 43, 48, 49, 58, 48, 48] : List UInt8), ([112, 101, 114, 115, 111, 110, 32, 97, 100, 97, 32, 104, 101, 114, 101] : List UInt8), ([112, 101, 114, 115, 111, 110, 32, 98, 111, 98, 32, 104, 101, 114, 101, 32, 119, 101, 101, 107, 32, 52, 48, 32, 114, 101, 115, 116, 32, 49, 49, 32, 99, 111, 110, 115, 101, 110, 116] : List UInt8), ([112, 101, 114, 115, 111, 110, 32, 99, 108, 101, 111, 32, 110, 111, 119, 104, 101, 114, 101] : List UInt8), ([112, 101, 114, 115, 111, 110, 32, 110, 111, 98, 111, 100, 121, 32, 104, 101, 114, 101] : List UInt8), ([112, 101, 114, 115, 111, 110, 32, 97, 100, 97, 32, 116, 104, 101, 114, 101, 32, 119, 101, 101, 107, 32, 50, 48, 48] : List UInt8), ([113, 117, 105, 101, 116, 32, 109, 111, 110, 32, 50, 50, 58, 48, 48, 32, 109, 111, 110, 32, 50, 52, 58, 48, 48] : List UInt8), ([113, 117, 105, 101, 116, 32, 116, 117, 101, 32, 48, 48, 58, 48, 48, 32, 109, 111, 110, 32, 50, 50, 58, 48, 48] : List UInt8), ([113, 117, 105, 101, 116, 32, 116, 111, 100, 97, 121, 32, 48, 48, 58, 48, 48, 32, 109, 111, 110, 32, 50, 50, 58, 48, 48] : List UInt8), ([99, 97, 108, 101, 110, 100, 97, 114, 32, 100, 97, 121, 115, 32, 104, 101, 114, 101] : List UInt8), ([100, 97, 121, 115, 32, 50, 48, 50, 54, 45, 48, 49, 45, 48, 55, 32, 50, 48, 50, 54, 45, 48, 49, 45, 48, 57] : List UInt8), ([100, 97, 121, 115, 32, 50, 48, 50, 54, 45, 48, 49, 45, 48, 49] : List UInt8), ([115, 99, 104, 101, 100, 117, 108, 101, 32, 102, 105, 114, 115, 116] : List UInt8), ([115, 99, 104, 101, 100, 117, 108, 101, 32, 115, 101, 99, 111, 110, 100] : List UInt8), ([108, 97, 121, 101, 114, 32, 108, 111, 119, 32, 104, 101, 114, 101, 32, 50, 48, 50, 54, 45, 48, 49, 45, 48, 53, 32, 48, 57, 58, 48, 48, 32, 49, 32, 100, 97, 121, 115] : List UInt8), ([108, 97, 121, 101, 114, 32, 116, 111, 112, 32, 104, 101, 114, 101, 32, 50, 48, 50, 54, 45, 48, 49, 45, 48, 52, 32, 48, 48, 58, 48, 48, 32, 52, 48, 49, 32, 104, 111, 117, 114, 115] : List UInt8), ([108, 97, 121, 101, 114, 32, 116, 111, 112, 32, 104, 101, 114, 101, 32, 50, 48, 50, 54, 45, 48, 49, 45, 48, 52, 32, 50, 52, 58, 48, 48, 32, 52, 32, 104, 111, 117, 114, 115] : List UInt8), ([108, 97, 121, 101, 114, 32, 116, 111, 112, 32, 104, 101, 114, 101, 32, 50, 48, 50, 54, 45, 48, 49, 45, 48, 52, 32, 50, 51, 58, 48, 48, 32, 52, 32, 109, 111, 110, 116, 104, 115] : List UInt8), ([109, 101, 109, 98, 101, 114, 32, 97, 100, 97, 32, 98, 111, 98] : List UInt8), ([109, 101, 109, 98, 101, 114, 32, 98, 111, 98] : List UInt8), ([109, 101, 109, 98, 101, 114, 32, 122, 101, 100] : List UInt8), ([111, 110, 32, 109, 111, 110, 32, 48, 57, 58, 48, 48, 32, 109, 111, 110, 32, 49, 55, 58, 48, 48] : List UInt8), ([111, 110, 32, 116, 117, 101, 32, 48, 57, 58, 48, 48, 32, 115, 117, 110, 32, 50, 52, 58, 48, 48] : List UInt8), ([110, 111, 116, 32, 100, 97, 121, 115] : List UInt8), ([111, 110, 108, 121, 32, 100, 97, 121, 115] : List UInt8), ([111, 110, 108, 121, 32, 111, 116, 104, 101, 114] : List UInt8), ([108, 101, 97, 118, 101, 32, 97, 100, 97, 32, 50, 48, 50, 54, 45, 48, 49, 45, 48, 54, 84, 48, 48, 58, 48, 48, 58, 48, 48, 90, 32, 50, 48, 50, 54, 45, 48, 49, 45, 48, 55, 84, 48, 48, 58, 48, 48, 58, 48, 48, 90] : List UInt8), ([111, 118, 101, 114, 114, 105, 100, 101, 32, 110, 111, 98, 111, 100, 121, 32, 50, 48, 50, 54, 45, 48, 49, 45, 48, 54, 84, 48, 48, 58, 48, 48, 58, 48, 48, 90, 32, 50, 48, 50, 54, 45, 48, 49, 45, 48, 55, 84, 48, 48, 58, 48, 48, 58, 48, 48, 90] : List UInt8), ([111, 118, 101, 114, 114, 105, 100, 101, 32, 98, 111, 98, 32, 50, 48, 50, 54, 45, 48, 49, 45, 48, 56, 84, 48, 48, 58, 48, 48, 58, 48, 48, 90, 32, 50, 48, 50, 54, 45, 48, 49, 45, 48, 55, 84, 48, 48, 58, 48, 48, 58, 48, 48, 90] : List UInt8), ([115, 119, 97, 112, 32, 97, 100, 97, 32, 98, 111, 98, 32, 50, 48, 50, 54, 45, 48, 49, 45, 48, 54, 84, 48, 48, 58, 48, 48, 58, 48, 48, 90, 32, 50, 48, 50, 54, 45, 48, 49, 45, 48, 55, 84, 48, 48, 58, 48, 48, 58, 48, 48, 90] : List UInt8), ([115, 119, 97, 112, 32, 97, 100, 97, 32, 97, 100, 97, 32, 50, 48, 50, 54, 45, 48, 49, 45, 48, 54, 84, 48, 48, 58, 48, 48, 58, 48, 48, 90, 32, 50, 48, 50, 54, 45, 48, 49, 45, 48, 55, 84, 48, 48, 58, 48, 48, 58, 48, 48, 90] : List UInt8)] : List t3y);
 k l
def zq1m : zq1k := hid zq1l
noncomputable def zq1n : En := ⟨33, .spec (sg [] [] [v31y] [.row 9 .str] zq1m), pf [] [] [.tmp 0] Tryz.func33 (by kernel_rfl) fun _ _ => by kernel_rfl⟩
theorem zq1o : SpecOk Tryz.prog 33 (sg [] [] [v31y] [.row 9 .str] zq1m) := zq1n.ok
abbrev zq1p := {β : Type} → zqa → zqa → (Bool → Option β) → Option β
abbrev zq1q (β : Type) := Bool → Option β
abbrev zq1r (β : Type) := Unit → Option β
abbrev zq1s (β : Type) := Int → zqa → zqa → Option β
noncomputable def zq1t : Pc := ⟨45, 0, Q7 58 (Q5 Tryz.f36), ⟨0, [2, 3, 5], [v23y, v32y, v19y], [.cells 32 [.data zqb], .cells 32 [.data zqb]]⟩, [(.ret, ⟨0, [4], [v21y], []⟩), (.exit 0, ⟨0, [], [], []⟩)]⟩
def zq1u {β : Type} (rec : zq1s β) (k1 : zq1q β) (k2 : zq1r β) : zq1s β := fun i_ a b =>
 cond (decide (i_ < (List.length a.2.2 : Int)))
 (cond (decide (0 ≤ i_) && decide (i_ < (List.length a.2.2 : Int)))
 (let e := List.getD a.2.2 (Int.toNat i_) ((0 : Int), ((0 : Int), ((0 : Int), ((0 : Int), ((0 : Int), ((0 : Int), (0 : Int)))))));
 cond (decide (0 ≤ i_) && decide (i_ < (List.length b.2.2 : Int)))
 (let e2 := List.getD b.2.2 (Int.toNat i_) ((0 : Int), ((0 : Int), ((0 : Int), ((0 : Int), ((0 : Int), ((0 : Int), (0 : Int)))))));
 cond (!(decide (e.1 = e2.1) && (decide (e.2.1 = e2.2.1) && (decide (e.2.2.1 = e2.2.2.1) && (decide (e.2.2.2.1 = e2.2.2.2.1) && (decide (e.2.2.2.2.1 = e2.2.2.2.2.1) && (decide (e.2.2.2.2.2.1 = e2.2.2.2.2.2.1) && (decide (e.2.2.2.2.2.2 = e2.2.2.2.2.2.2) && true))))))))
 (k1 false)
 (let i_2 := (IntKind.i64.wrap (i_ + (1 : Int)));
 rec i_2 a b))
 none)
 none)
 (k2 ())
def zq1v (m : Nat) {β : Type} (k1 : zq1q β) (k2 : zq1r β) : zq1s β := lp3 (fun r => zq1u r k1 k2) none m
theorem zq1w {β : Type} (i : Nat) (k1 k2) : zq1v (β := β) (i + 1) k1 k2 = zq1u (zq1v i k1 k2) k1 k2 := rfl
def zq1x {β : Type} := hid (zq1v (β := β) fuel)
noncomputable def zq1y : Pb := ⟨58, zq1t, fun _ => zq1x, pl (p := zq1t) [] [] (g := fun i _ => zq1v i) (by kernel_rfl) rfl (by kernel_rfl) (fun _ _ => rfl) fun _ _ _ _ => by kernel_rfl⟩
def zq1z : zq1p := fun a b k =>
 cond (!decide (a.1 = b.1))
 (k false)
 (cond (!decide (a.2.1 = b.2.1))
 (k false)
 (cond (!decide ((List.length a.2.2 : Int) = (List.length b.2.2 : Int)))
 (k false)
 (zq1x (fun t4 =>
 k t4) (fun _ =>
 k true) (0 : Int) a b)))
def zq20 : zq1p := hid zq1z
noncomputable def zq21 : En := ⟨36, .spec (sg [v38y, v38y] [] [v21y] [] zq20), pf [] [zq1y] [.tmp 4] Tryz.func36 (by kernel_rfl) fun _ _ => by kernel_rfl⟩
abbrev zq22 := {β : Type} → t10y → t10y → (Bool → Option β) → Option β
abbrev zq23 (β : Type) := Bool → Option β
abbrev zq24 (β : Type) := Unit → Option β
abbrev zq25 (β : Type) := t10y → t10y → Int → Option β
noncomputable def zq26 : Pc := ⟨26, 0, Q7 58 (Q5 Tryz.f37), ⟨0, [0, 1, 5], [v28y, v28y, v19y], []⟩, [(.ret, ⟨0, [4], [v21y], []⟩), (.exit 0, ⟨0, [], [], []⟩)]⟩
def zq27 {β : Type} (rec : zq25 β) (k1 : zq23 β) (k2 : zq24 β) : zq25 β := fun a b i_ =>
 cond (decide (i_ < (List.length a : Int)))
 (cond (decide (0 ≤ i_) && decide (i_ < (List.length a : Int)))
 (let e := List.getD a (Int.toNat i_) ((0 : Int), (0 : Int));
 cond (decide (0 ≤ i_) && decide (i_ < (List.length b : Int)))
 (let e2 := List.getD b (Int.toNat i_) ((0 : Int), (0 : Int));
 cond (!(decide (e.1 = e2.1) && (decide (e.2 = e2.2) && true)))
 (k1 false)
 (let i_2 := (IntKind.i64.wrap (i_ + (1 : Int)));
 rec a b i_2))
 none)
 none)
 (k2 ())
def zq28 (m : Nat) {β : Type} (k1 : zq23 β) (k2 : zq24 β) : zq25 β := lp3 (fun r => zq27 r k1 k2) none m
theorem zq29 {β : Type} (i : Nat) (k1 k2) : zq28 (β := β) (i + 1) k1 k2 = zq27 (zq28 i k1 k2) k1 k2 := rfl
def zq2a {β : Type} := hid (zq28 (β := β) fuel)
noncomputable def zq2b : Pb := ⟨58, zq26, fun _ => zq2a, pl (p := zq26) [] [] (g := fun i _ => zq28 i) (by kernel_rfl) rfl (by kernel_rfl) (fun _ _ => rfl) fun _ _ _ _ => by kernel_rfl⟩
def zq2c : zq22 := fun a b k =>
 cond (!decide ((List.length a : Int) = (List.length b : Int)))
 (k false)
 (zq2a (fun t4 =>
 k t4) (fun _ =>
 k true) a b (0 : Int))
def zq2d : zq22 := hid zq2c
noncomputable def zq2e : En := ⟨37, .spec (sg [v28y, v28y] [] [v21y] [] zq2d), pf [] [zq2b] [.tmp 4] Tryz.func37 (by kernel_rfl) fun _ _ => by kernel_rfl⟩
abbrev zq2f := {β : Type} → t12y → t12y → (Bool → Option β) → Option β
abbrev zq2g (β : Type) := Bool → Option β
abbrev zq2h (β : Type) := Unit → Option β
abbrev zq2i (β : Type) := t12y → t12y → Int → Option β
noncomputable def zq2j : Pc := ⟨26, 0, Q7 58 (Q5 Tryz.f38), ⟨0, [0, 1, 5], [v30y, v30y, v19y], []⟩, [(.ret, ⟨0, [4], [v21y], []⟩), (.exit 0, ⟨0, [], [], []⟩)]⟩
def zq2k {β : Type} (rec : zq2i β) (k1 : zq2g β) (k2 : zq2h β) : zq2i β := fun a b i_ =>
 cond (decide (i_ < (List.length a : Int)))
 (cond (decide (0 ≤ i_) && decide (i_ < (List.length a : Int)))
 (let e := List.getD a (Int.toNat i_) (0 : Int);
 cond (decide (0 ≤ i_) && decide (i_ < (List.length b : Int)))
 (let e2 := List.getD b (Int.toNat i_) (0 : Int);
 cond (!decide (e = e2))
 (k1 false)
 (let i_2 := (IntKind.i64.wrap (i_ + (1 : Int)));
 rec a b i_2))
 none)
 none)
 (k2 ())
def zq2l (m : Nat) {β : Type} (k1 : zq2g β) (k2 : zq2h β) : zq2i β := lp3 (fun r => zq2k r k1 k2) none m
theorem zq2m {β : Type} (i : Nat) (k1 k2) : zq2l (β := β) (i + 1) k1 k2 = zq2k (zq2l i k1 k2) k1 k2 := rfl
def zq2n {β : Type} := hid (zq2l (β := β) fuel)
noncomputable def zq2o : Pb := ⟨58, zq2j, fun _ => zq2n, pl (p := zq2j) [] [] (g := fun i _ => zq2l i) (by kernel_rfl) rfl (by kernel_rfl) (fun _ _ => rfl) fun _ _ _ _ => by kernel_rfl⟩
def zq2p : zq2f := fun a b k =>
 cond (!decide ((List.length a : Int) = (List.length b : Int)))
 (k false)
 (zq2n (fun t4 =>
 k t4) (fun _ =>
 k true) a b (0 : Int))
def zq2q : zq2f := hid zq2p
noncomputable def zq2r : En := ⟨38, .spec (sg [v30y, v30y] [] [v21y] [] zq2q), pf [] [zq2o] [.tmp 4] Tryz.func38 (by kernel_rfl) fun _ _ => by kernel_rfl⟩
abbrev zq2s := {β : Type} → zqe → (t3y → Option β) → Option β
def zq2t : zq2s := fun p_ k =>
 k p_.1
def zq2u : zq2s := hid zq2t
noncomputable def zq2v : En := ⟨45, .spec (sg [(true, [.data zqf])] [] [v26y] [] zq2u), pf [] [] [.tmp 2] Tryz.func45 (by kernel_rfl) fun _ _ => by kernel_rfl⟩
noncomputable def zq2w : En := .inl mixed (X := ⟨look tab, gam [zq2v], false, false, false, false, [], none, 0, []⟩) (rs := [.tmp 4]) Qe [zq2v] rfl 4 Tryz.func74 (by kernel_rfl)
abbrev zq2x := {β : Type} → t4y → t3y → (Int → t3y → Option β) → Option β
noncomputable def zq2y : List En := [zq2w]
abbrev zq2z (β : Type) := Int → t3y → Option β
abbrev zq30 (β : Type) := t3y → Option β
abbrev zq31 (β : Type) := t4y → Int → Int → t3y → Option β
noncomputable def zq32 : Pc := ⟨19, 2, Q7 26 (Q5 Tryz.f73), ⟨2, [0, 1, 7, 8], [v40y, (false, [.fn 74 [0, 1]]), v19y, v19y], l58y⟩, [(.ret, ⟨2, [4], [v19y], l58y⟩), (.exit 0, ⟨2, [], [], l58y⟩)]⟩
def zq33 {β : Type} (rec : zq31 β) (k1 : zq2z β) (k2 : zq30 β) : zq31 β := fun s t7 t8 b1_ =>
 cond (decide (t8 < t7))
 (cond (decide (0 ≤ t8) && decide (t8 < (List.length s : Int)))
 (let e := List.getD s (Int.toNat t8) (([] : List UInt8), ((0 : Int), (([] : List t5y), ((0 : Int), ((0 : Int), false)))));
 zq2u e (fun rPerson1 =>
 let t := (decide (rPerson1 = b1_));
 cond t
 (k1 t8 b1_)
 (rec s t7 (IntKind.i64.wrap (t8 + (1 : Int))) b1_)))
 none)
 (k2 b1_)
def zq34 (m : Nat) {β : Type} (k1 : zq2z β) (k2 : zq30 β) : zq31 β := lp4 (fun r => zq33 r k1 k2) none m
theorem zq35 {β : Type} (i : Nat) (k1 k2) : zq34 (β := β) (i + 1) k1 k2 = zq33 (zq34 i k1 k2) k1 k2 := rfl
def zq36 {β : Type} := hid (zq34 (β := β) fuel)
noncomputable def zq37 : Pb := ⟨26, zq32, fun _ => zq36, pl (p := zq32) zq2y [] (g := fun i _ => zq34 i) (by kernel_rfl) rfl (by kernel_rfl) (fun _ _ => rfl) fun _ _ _ _ => by kernel_rfl⟩
def zq38 : zq2x := fun s b1_ k =>
 zq36 (fun t4 b1_2 =>
 k t4 b1_2) (fun b1_2 =>
 k (-1 : Int) b1_2) s (List.length s : Int) (0 : Int) b1_
def zq39 : zq2x := hid zq38
noncomputable def zq3a : En := ⟨73, .spec (sg [v40y, (false, [.fn 74 [0, 1]])] l58y [v19y] l58y zq39), pf zq2y [zq37] [.tmp 4] Tryz.func73 (by kernel_rfl) fun _ _ => by kernel_rfl⟩
noncomputable def zq3b : En := .inl mixed (X := ⟨look tab, gam [zq3a], false, false, false, false, [], none, 0, []⟩) (rs := [.tmp 6, .tmp 7]) Qe [zq3a] rfl 4 Tryz.func44 (by kernel_rfl)
abbrev zq3c := {β : Type} → zq4 → (t3y → Option β) → Option β
def zq3d : zq3c := fun s k =>
 k s.1
def zq3e : zq3c := hid zq3d
noncomputable def zq3f : En := ⟨47, .spec (sg [v41y] [] [v26y] [] zq3e), pf [] [] [.tmp 2] Tryz.func47 (by kernel_rfl) fun _ _ => by kernel_rfl⟩
noncomputable def zq3g : En := .inl mixed (X := ⟨look tab, gam [zq3f], false, false, false, false, [], none, 0, []⟩) (rs := [.tmp 4]) Qe [zq3f] rfl 4 Tryz.func76 (by kernel_rfl)
abbrev zq3h := {β : Type} → t1y → t3y → (Int → t3y → Option β) → Option β
noncomputable def zq3i : List En := [zq3g]
abbrev zq3j (β : Type) := Int → t3y → Option β
abbrev zq3k (β : Type) := t3y → Option β
abbrev zq3l (β : Type) := t1y → Int → Int → t3y → Option β
noncomputable def zq3m : Pc := ⟨19, 2, Q7 26 (Q5 Tryz.f75), ⟨2, [0, 1, 7, 8], [v42y, (false, [.fn 76 [0, 1]]), v19y, v19y], l59y⟩, [(.ret, ⟨2, [4], [v19y], l59y⟩), (.exit 0, ⟨2, [], [], l59y⟩)]⟩
def zq3n {β : Type} (rec : zq3l β) (k1 : zq3j β) (k2 : zq3k β) : zq3l β := fun s t7 t8 b1_ =>
 cond (decide (t8 < t7))
 (cond (decide (0 ≤ t8) && decide (t8 < (List.length s : Int)))
 (let e := List.getD s (Int.toNat t8) (([] : List UInt8), (([] : List zq2), ([] : List t0y)));
 zq3e e (fun rSchedule1 =>
 let t := (decide (rSchedule1 = b1_));
 cond t
 (k1 t8 b1_)
 (rec s t7 (IntKind.i64.wrap (t8 + (1 : Int))) b1_)))
 none)
 (k2 b1_)
def zq3o (m : Nat) {β : Type} (k1 : zq3j β) (k2 : zq3k β) : zq3l β := lp4 (fun r => zq3n r k1 k2) none m
theorem zq3p {β : Type} (i : Nat) (k1 k2) : zq3o (β := β) (i + 1) k1 k2 = zq3n (zq3o i k1 k2) k1 k2 := rfl
def zq3q {β : Type} := hid (zq3o (β := β) fuel)
noncomputable def zq3r : Pb := ⟨26, zq3m, fun _ => zq3q, pl (p := zq3m) zq3i [] (g := fun i _ => zq3o i) (by kernel_rfl) rfl (by kernel_rfl) (fun _ _ => rfl) fun _ _ _ _ => by kernel_rfl⟩
def zq3s : zq3h := fun s b1_ k =>
 zq3q (fun t4 b1_2 =>
 k t4 b1_2) (fun b1_2 =>
 k (-1 : Int) b1_2) s (List.length s : Int) (0 : Int) b1_
def zq3t : zq3h := hid zq3s
noncomputable def zq3u : En := ⟨75, .spec (sg [v42y, (false, [.fn 76 [0, 1]])] l59y [v19y] l59y zq3t), pf zq3i [zq3r] [.tmp 4] Tryz.func75 (by kernel_rfl) fun _ _ => by kernel_rfl⟩
noncomputable def zq3v : En := .inl mixed (X := ⟨look tab, gam [zq3u], false, false, false, false, [], none, 0, []⟩) (rs := [.tmp 6, .tmp 7]) Qe [zq3u] rfl 4 Tryz.func46 (by kernel_rfl)
abbrev zq3w := {β : Type} → zq8 → (Bool → Option β) → Option β
def zq3x : zq3w := fun r_ k =>
 let t := (!decide ((Int.tmod r_.2.2.2.2.2.2 (60 : Int)) = (0 : Int)));
 k t
def zq3y : zq3w := hid zq3x
noncomputable def zq3z : En := ⟨50, .spec (sg [(true, [.data zq9])] [] [v21y] [] zq3y), pf [] [] [.tmp 2] Tryz.func50 (by kernel_rfl) fun _ _ => by kernel_rfl⟩
abbrev zq40 := {β : Type} → Int → Int → (Bool → Option β) → Option β
def zq41 : zq40 := fun i_ n k =>
 cond (decide ((0 : Int) ≤ i_))
 (k (decide (i_ < n)))
 (k false)
def zq42 : zq40 := hid zq41
noncomputable def zq43 : En := ⟨52, .spec (sg [v19y, v19y] [] [v21y] [] zq42), pf [] [] [.tmp 4] Tryz.func52 (by kernel_rfl) fun _ _ => by kernel_rfl⟩
abbrev zq44 := {β : Type} → t10y → (Int → Option β) → Option β
abbrev zq45 (β : Type) := Int → Option β
abbrev zq46 (β : Type) := Unit → Option β
abbrev zq47 (β : Type) := t10y → t10y → Int → Int → Option β
noncomputable def zq48 : Pc := ⟨46, 0, Q7 58 (Q5 Tryz.f53), ⟨0, [0, 8, 9, 10], [v28y, v28y, v19y, v19y], []⟩, [(.ret, ⟨0, [2], [v19y], []⟩), (.exit 0, ⟨0, [], [], []⟩)]⟩
abbrev zq49 (β : Type) := Int → Option β
abbrev zq4a (β : Type) := t10y → t10y → Int → Int → Option β
abbrev zq4b (β : Type) := t10y → Int → t10y → Int → Int → Bool → t5y → Option β
noncomputable def zq4c : Pc := ⟨46, 0, Q7 229 (Q1b zq48.c), ⟨0, [0, 3, 4, 8, 9, 10, 15], [v28y, v19y, v23y, v28y, v19y, v19y, v21y], [.cells 129 [.data (.prod (.int .i64) (.int .i64))]]⟩, [(.ret, ⟨0, [2], [v19y], []⟩), (.normal, ⟨0, [0, 8, 9, 10], [v28y, v28y, v19y, v19y], []⟩)]⟩
def zq4d {β : Type} (k1 : zq49 β) (k2 : zq4a β) : zq4b β := fun l i_ t8 t9 t10 t15 w =>
 cond t15
 (k1 (1 : Int))
 (cond (decide ((0 : Int) < i_))
 (cond (decide (0 ≤ (IntKind.i64.wrap (i_ - (1 : Int)))) && decide ((IntKind.i64.wrap (i_ - (1 : Int))) < (List.length l : Int)))
 (let e := List.getD l (Int.toNat (IntKind.i64.wrap (i_ - (1 : Int)))) ((0 : Int), (0 : Int));
 cond (decide (w.1 < e.2))
 (k1 (6 : Int))
 (k2 l t8 t9 t10))
 none)
 (k2 l t8 t9 t10))
def zq4e {β : Type} := hid (zq4d (β := β))
noncomputable def zq4f : Pb := ⟨229, zq4c, fun _ => zq4e, pe (p := zq4c) [] [] 229 (g := fun _ => zq4d) (by kernel_rfl) fun _ _ => by kernel_rfl⟩
def zq4g {β : Type} (rec : zq47 β) (k1 : zq45 β) (k2 : zq46 β) : zq47 β := fun l t8 t9 t10 =>
 cond (decide (t10 < t9))
 (cond (decide (0 ≤ t10) && decide (t10 < (List.length t8 : Int)))
 (let e := List.getD t8 (Int.toNat t10) ((0 : Int), (0 : Int));
 cond (decide (e.1 < (0 : Int)))
 (zq4e (fun t2 =>
 k1 t2) (fun l2 t82 t92 t102 =>
 rec l2 t82 t92 (IntKind.i64.wrap (t102 + (1 : Int)))) l t10 t8 t9 t10 true e)
 (cond (decide (e.2 ≤ e.1))
 (zq4e (fun t2 =>
 k1 t2) (fun l2 t82 t92 t102 =>
 rec l2 t82 t92 (IntKind.i64.wrap (t102 + (1 : Int)))) l t10 t8 t9 t10 true e)
 (let t := (decide ((604800 : Int) < e.2));
 zq4e (fun t2 =>
 k1 t2) (fun l2 t82 t92 t102 =>
 rec l2 t82 t92 (IntKind.i64.wrap (t102 + (1 : Int)))) l t10 t8 t9 t10 t e)))
 none)
 (k2 ())
def zq4h (m : Nat) {β : Type} (k1 : zq45 β) (k2 : zq46 β) : zq47 β := lp4 (fun r => zq4g r k1 k2) none m
theorem zq4i {β : Type} (i : Nat) (k1 k2) : zq4h (β := β) (i + 1) k1 k2 = zq4g (zq4h i k1 k2) k1 k2 := rfl
def zq4j {β : Type} := hid (zq4h (β := β) fuel)
noncomputable def zq4k : Pb := ⟨58, zq48, fun _ => zq4j, pl (p := zq48) [] [zq4f] (g := fun i _ => zq4h i) (by kernel_rfl) rfl (by kernel_rfl) (fun _ _ => rfl) fun _ _ _ _ => by kernel_rfl⟩
def zq4l : zq44 := fun l k =>
 cond (decide ((14 : Int) < (List.length l : Int)))
 (k (5 : Int))
 (zq4j (fun t2 =>
 k t2) (fun _ =>
 k (0 : Int)) l l (List.length l : Int) (0 : Int))
def zq4m : zq44 := hid zq4l
noncomputable def zq4n : En := ⟨53, .spec (sg [v28y] [] [v19y] [] zq4m), pf [] [zq4k] [.tmp 2] Tryz.func53 (by kernel_rfl) fun _ _ => by kernel_rfl⟩
abbrev zq4o := {β : Type} → zq2 → (t3y → Option β) → Option β
def zq4p : zq4o := fun l k =>
 k l.1
def zq4q : zq4o := hid zq4p
noncomputable def zq4r : En := ⟨59, .spec (sg [v46y] [] [v26y] [] zq4q), pf [] [] [.tmp 2] Tryz.func59 (by kernel_rfl) fun _ _ => by kernel_rfl⟩
def zq4s : Shelf.Ren :=
   {
   f := fun x =>
    match x with
    | 146 => 63
    | 221 => 85
    | 268 => 108
    | 138 => 109
    | 143 => 110
    | 195 => 142
    | 197 => 143
    | 218 => 144
    | 219 => 145
    | 260 => 163
    | 217 => 164
    | 225 => 165
    | 224 => 166
    | 267 => 167
    | 266 => 179
    | 314 => 180
    | n => n,
   t := fun x =>
    match x with
    | 9 => 9
    | 31 => 81
    | 3 => 3
    | 4 => 4
    | 0 => 0
    | 105 => 207
    | 21 => 21
    | 5 => 5
    | 46 => 224
    | 119 => 171
    | 139 => 249
    | 138 => 248
    | 146 => 250
    | 51 => 213
    | n => n,
   g := fun x =>
    match x with
    | 1 => 2
    | 3 => 3
    | 4 => 4
    | n => n }
theorem zq4t : Go.Proofs.Lays.n146 Tryz.prog zq4s :=
 {
  mixed := by kernel_rfl,
  f138 := Eq.trans Tryz.func109 (congrArg some (by kernel_rfl)),
  f143 := Eq.trans Tryz.func110 (congrArg some (by kernel_rfl)),
  f146 := Eq.trans Tryz.func63 (congrArg some (by kernel_rfl)),
  f195 := Eq.trans Tryz.func142 (congrArg some (by kernel_rfl)),
  f197 := Eq.trans Tryz.func143 (congrArg some (by kernel_rfl)),
  f217 := Eq.trans Tryz.func164 (congrArg some (by kernel_rfl)),
  f218 := Eq.trans Tryz.func144 (congrArg some (by kernel_rfl)),
  f219 := Eq.trans Tryz.func145 (congrArg some (by kernel_rfl)),
  f221 := Eq.trans Tryz.func85 (congrArg some (by kernel_rfl)),
  f224 := Eq.trans Tryz.func166 (congrArg some (by kernel_rfl)),
  f225 := Eq.trans Tryz.func165 (congrArg some (by kernel_rfl)),
  f260 := Eq.trans Tryz.func163 (congrArg some (by kernel_rfl)),
  f266 := Eq.trans Tryz.func179 (congrArg some (by kernel_rfl)),
  f267 := Eq.trans Tryz.func167 (congrArg some (by kernel_rfl)),
  f268 := Eq.trans Tryz.func108 (congrArg some (by kernel_rfl)),
  f314 := Eq.trans Tryz.func180 (congrArg some (by kernel_rfl)),
  t0 := Tryz.underlying0,
  a0 := Tryz.isAgg0,
  z0 := Tryz.sizeOf0,
  v0 := Tryz.zeroValue0,
  t3 := Tryz.underlying3,
  a3 := Tryz.isAgg3,
  z3 := Tryz.sizeOf3,
  v3 := Tryz.zeroValue3,
  t4 := Tryz.underlying4,
  a4 := Tryz.isAgg4,
  z4 := Tryz.sizeOf4,
  v4 := Tryz.zeroValue4,
  t5 := Tryz.underlying5,
  a5 := Tryz.isAgg5,
  z5 := Tryz.sizeOf5,
  v5 := Tryz.zeroValue5,
  t9 := Tryz.underlying9,
  a9 := Tryz.isAgg9,
  z9 := Tryz.sizeOf9,
  v9 := Tryz.zeroValue9,
  t21 := Tryz.underlying21,
  a21 := Tryz.isAgg21,
  z21 := Tryz.sizeOf21,
  v21 := Tryz.zeroValue21,
  t31 := Tryz.underlying81,
  a31 := Tryz.isAgg81,
  z31 := Tryz.sizeOf81,
  v31 := Tryz.zeroValue81,
  t46 := Tryz.underlying224,
  a46 := Tryz.isAgg224,
  z46 := Tryz.sizeOf224,
  v46 := Tryz.zeroValue224,
  t51 := Tryz.underlying213,
  a51 := Tryz.isAgg213,
  z51 := Tryz.sizeOf213,
  v51 := Tryz.zeroValue213,
  t105 := Tryz.underlying207,
  a105 := Tryz.isAgg207,
  z105 := Tryz.sizeOf207,
  v105 := Tryz.zeroValue207,
  t119 := Tryz.underlying171,
  a119 := Tryz.isAgg171,
  z119 := Tryz.sizeOf171,
  t138 := Tryz.underlying248,
  a138 := Tryz.isAgg248,
  z138 := Tryz.sizeOf248,
  v138 := Tryz.zeroValue248,
  t139 := Tryz.underlying249,
  a139 := Tryz.isAgg249,
  z139 := Tryz.sizeOf249,
  v139 := Tryz.zeroValue249,
  t146 := Tryz.underlying250,
  a146 := Tryz.isAgg250,
  z146 := Tryz.sizeOf250,
  v146 := Tryz.zeroValue250,
  g1 := by kernel_rfl,
  g3 := by kernel_rfl,
  g4 := by kernel_rfl }
abbrev zq4u := Qci
def zq4v (c : zq4u) : Spec := Qhr 9 c
def zq4w : zq4u := fun x y k => Qcj x y k
theorem zq4x : SpecOk Tryz.prog 63 (zq4v zq4w) :=
 Qjo zq4t rfl rfl (by kernel_rfl) (of_decide_eq_true (by kernel_rfl)) (fun w0 h0 => Go.Proofs.cell_of_shapedOpen_int (P := Tryz.prog) (g := 2) (t := 3) (zero := #[.int .i64 0]) h0 (of_decide_eq_true (by kernel_rfl)) (by kernel_rfl) rfl (by kernel_rfl) (by kernel_rfl) Tryz.underlying3) ⟨_, Tryz.func63, by kernel_rfl, by kernel_rfl⟩
noncomputable def zq4y : En := .of zq4x
noncomputable def zq4z : En := .inl mixed (X := ⟨look tab, gam ([] : List En), false, false, false, false, q63y, none, 0, []⟩) (rs := [.tmp 2]) Qe ([] : List En) rfl 4 Tryz.func66 (by kernel_rfl)
abbrev zq50 := {β : Type} → zq2 → zq2 → (Bool → Option β) → Option β
def zq51 : zq50 := fun a b k =>
 cond (decide (a.1 = b.1))
 (cond (decide (a.2.1 = b.2.1))
 (cond (decide (a.2.2.1.1 = b.2.2.1.1) && (decide (a.2.2.1.2 = b.2.2.1.2) && true))
 (cond (decide (a.2.2.2.1 = b.2.2.2.1))
 (cond (decide (a.2.2.2.2.1 = b.2.2.2.2.1))
 (zq2q a.2.2.2.2.2.1 b.2.2.2.2.2.1 (fun rsameInts =>
 cond rsameInts
 (zq2d a.2.2.2.2.2.2.1 b.2.2.2.2.2.2.1 (fun rsameWindows =>
 cond rsameWindows
 (cond (decide (a.2.2.2.2.2.2.2.1 = b.2.2.2.2.2.2.2.1))
 (let t := (decide (a.2.2.2.2.2.2.2.2 = b.2.2.2.2.2.2.2.2));
 k t)
 (k false))
 (k false)))
 (k false)))
 (k false))
 (k false))
 (k false))
 (k false))
 (k false)
def zq52 : zq50 := hid zq51
noncomputable def zq53 : En := ⟨67, .spec (sg [v46y, v46y] [] [v21y] [] zq52), pf [zq2r, zq2e] [] [.tmp 4] Tryz.func67 (by kernel_rfl) fun _ _ => by kernel_rfl⟩
abbrev zq54 := {β : Type} → Int → (Bool → Option β) → Option β
def zq55 : zq54 := fun c k =>
 cond (decide ((97 : Int) ≤ c))
 (let t := (decide (c ≤ (122 : Int)));
 k t)
 (k false)
def zq56 : zq54 := hid zq55
noncomputable def zq57 : En := ⟨79, .spec (sg [(false, [.data (.int .u8)])] [] [v21y] [] zq56), pf [] [] [.tmp 2] Tryz.func79 (by kernel_rfl) fun _ _ => by kernel_rfl⟩
abbrev zq58 := {β : Type} → Int → (Bool → Option β) → Option β
def zq59 : zq58 := fun c k =>
 cond (decide ((48 : Int) ≤ c))
 (let t := (decide (c ≤ (57 : Int)));
 k t)
 (k false)
def zq5a : zq58 := hid zq59
noncomputable def zq5b : En := ⟨80, .spec (sg [(false, [.data (.int .u8)])] [] [v21y] [] zq5a), pf [] [] [.tmp 2] Tryz.func80 (by kernel_rfl) fun _ _ => by kernel_rfl⟩
abbrev zq5c := {β : Type} → Int → Int → Int → (Bool → Option β) → Option β
def zq5d : zq5c := fun n lo hi k =>
 cond (decide (lo ≤ n))
 (k (decide (n ≤ hi)))
 (k false)
def zq5e : zq5c := hid zq5d
noncomputable def zq5f : En := ⟨81, .spec (sg [v19y, v19y, v19y] [] [v21y] [] zq5e), pf [] [] [.tmp 6] Tryz.func81 (by kernel_rfl) fun _ _ => by kernel_rfl⟩
abbrev zq5g := {β : Type} → Int → zqg → (Bool → zqg → Option β) → Option β
def zq5h : zq5g := fun m t1 k =>
 zq42 m (List.length t1.2.1 : Int) (fun rindex =>
 k (!rindex) t1)
def zq5i : zq5g := hid zq5h
noncomputable def zq5j : En := ⟨84, .spec (sg [v19y, v23y] [b22y] [v21y] [b22y] zq5i), pf [zq43] [] [.tmp 3] Tryz.func84 (by kernel_rfl) fun _ _ => by kernel_rfl⟩
def zq5k : Shelf.Ren :=
   {
   f := fun x =>
    match x with
    | 145 => 86
    | 220 => 111
    | 219 => 145
    | 217 => 164
    | 225 => 165
    | 224 => 166
    | 267 => 167
    | 266 => 179
    | 314 => 180
    | n => n,
   t := fun x =>
    match x with
    | 9 => 9
    | 4 => 4
    | 59 => 150
    | 3 => 3
    | 5 => 5
    | 46 => 224
    | 146 => 250
    | 51 => 213
    | n => n,
   g := fun x =>
    match x with
    | 1 => 2
    | n => n }
theorem zq5l : Go.Proofs.Lays.n145 Tryz.prog zq5k :=
 {
  mixed := by kernel_rfl,
  f145 := Eq.trans Tryz.func86 (congrArg some (by kernel_rfl)),
  f217 := Eq.trans Tryz.func164 (congrArg some (by kernel_rfl)),
  f219 := Eq.trans Tryz.func145 (congrArg some (by kernel_rfl)),
  f220 := Eq.trans Tryz.func111 (congrArg some (by kernel_rfl)),
  f224 := Eq.trans Tryz.func166 (congrArg some (by kernel_rfl)),
  f225 := Eq.trans Tryz.func165 (congrArg some (by kernel_rfl)),
  f266 := Eq.trans Tryz.func179 (congrArg some (by kernel_rfl)),
  f267 := Eq.trans Tryz.func167 (congrArg some (by kernel_rfl)),
  f314 := Eq.trans Tryz.func180 (congrArg some (by kernel_rfl)),
  t3 := Tryz.underlying3,
  a3 := Tryz.isAgg3,
  z3 := Tryz.sizeOf3,
  v3 := Tryz.zeroValue3,
  t4 := Tryz.underlying4,
  a4 := Tryz.isAgg4,
  z4 := Tryz.sizeOf4,
  v4 := Tryz.zeroValue4,
  t5 := Tryz.underlying5,
  a5 := Tryz.isAgg5,
  z5 := Tryz.sizeOf5,
  v5 := Tryz.zeroValue5,
  t9 := Tryz.underlying9,
  a9 := Tryz.isAgg9,
  z9 := Tryz.sizeOf9,
  v9 := Tryz.zeroValue9,
  t46 := Tryz.underlying224,
  a46 := Tryz.isAgg224,
  z46 := Tryz.sizeOf224,
  v46 := Tryz.zeroValue224,
  t51 := Tryz.underlying213,
  a51 := Tryz.isAgg213,
  z51 := Tryz.sizeOf213,
  v51 := Tryz.zeroValue213,
  t59 := Tryz.underlying150,
  a59 := Tryz.isAgg150,
  z59 := Tryz.sizeOf150,
  v59 := Tryz.zeroValue150,
  t146 := Tryz.underlying250,
  a146 := Tryz.isAgg250,
  z146 := Tryz.sizeOf250,
  v146 := Tryz.zeroValue250,
  g1 := by kernel_rfl }
abbrev zq5m := cutT
def zq5n (c : zq5m) : Spec := cutS c
def zq5o : zq5m := fun x y k => cutF x y k
theorem zq5p : SpecOk Tryz.prog 86 (zq5n zq5o) :=
 Qmd zq5l rfl (of_decide_eq_true (by kernel_rfl)) (fun w0 h0 => Go.Proofs.cell_of_shapedOpen_int (P := Tryz.prog) (g := 2) (t := 3) (zero := #[.int .i64 0]) h0 (of_decide_eq_true (by kernel_rfl)) (by kernel_rfl) rfl (by kernel_rfl) (by kernel_rfl) Tryz.underlying3) ⟨_, Tryz.func86, by kernel_rfl, by kernel_rfl⟩
noncomputable def zq5q : En := .of zq5p
def zq5r : Shelf.Ren :=
   {
   f := fun x =>
    match x with
    | 157 => 87
    | 229 => 112
    | 199 => 113
    | 261 => 146
    | 311 => 168
    | 312 => 169
    | n => n,
   t := fun x =>
    match x with
    | 9 => 9
    | 31 => 81
    | 3 => 3
    | 5 => 5
    | 4 => 4
    | 119 => 171
    | 0 => 0
    | 40 => 173
    | 152 => 210
    | 21 => 21
    | 154 => 212
    | 51 => 213
    | 141 => 215
    | 196 => 228
    | 193 => 225
    | 198 => 231
    | 49 => 229
    | 194 => 226
    | 201 => 234
    | 226 => 252
    | 46 => 224
    | 227 => 253
    | n => n,
   g := fun x =>
    match x with
    | 0 => 0
    | 6 => 1
    | n => n }
theorem zq5s : Go.Proofs.Lays.n157 Tryz.prog zq5r :=
 {
  mixed := by kernel_rfl,
  f157 := Eq.trans Tryz.func87 (congrArg some (by kernel_rfl)),
  f199 := Eq.trans Tryz.func113 (congrArg some (by kernel_rfl)),
  f229 := Eq.trans Tryz.func112 (congrArg some (by kernel_rfl)),
  f261 := Eq.trans Tryz.func146 (congrArg some (by kernel_rfl)),
  f311 := Eq.trans Tryz.func168 (congrArg some (by kernel_rfl)),
  f312 := Eq.trans Tryz.func169 (congrArg some (by kernel_rfl)),
  t0 := Tryz.underlying0,
  a0 := Tryz.isAgg0,
  z0 := Tryz.sizeOf0,
  v0 := Tryz.zeroValue0,
  t3 := Tryz.underlying3,
  a3 := Tryz.isAgg3,
  z3 := Tryz.sizeOf3,
  v3 := Tryz.zeroValue3,
  t4 := Tryz.underlying4,
  a4 := Tryz.isAgg4,
  z4 := Tryz.sizeOf4,
  v4 := Tryz.zeroValue4,
  t5 := Tryz.underlying5,
  a5 := Tryz.isAgg5,
  z5 := Tryz.sizeOf5,
  v5 := Tryz.zeroValue5,
  t9 := Tryz.underlying9,
  a9 := Tryz.isAgg9,
  z9 := Tryz.sizeOf9,
  v9 := Tryz.zeroValue9,
  t21 := Tryz.underlying21,
  a21 := Tryz.isAgg21,
  z21 := Tryz.sizeOf21,
  v21 := Tryz.zeroValue21,
  t31 := Tryz.underlying81,
  a31 := Tryz.isAgg81,
  z31 := Tryz.sizeOf81,
  v31 := Tryz.zeroValue81,
  t40 := Tryz.underlying173,
  a40 := Tryz.isAgg173,
  z40 := Tryz.sizeOf173,
  v40 := Tryz.zeroValue173,
  t46 := Tryz.underlying224,
  a46 := Tryz.isAgg224,
  z46 := Tryz.sizeOf224,
  v46 := Tryz.zeroValue224,
  t49 := Tryz.underlying229,
  a49 := Tryz.isAgg229,
  z49 := Tryz.sizeOf229,
  v49 := Tryz.zeroValue229,
  t51 := Tryz.underlying213,
  a51 := Tryz.isAgg213,
  z51 := Tryz.sizeOf213,
  v51 := Tryz.zeroValue213,
  t119 := Tryz.underlying171,
  a119 := Tryz.isAgg171,
  z119 := Tryz.sizeOf171,
  t141 := Tryz.underlying215,
  a141 := Tryz.isAgg215,
  z141 := Tryz.sizeOf215,
  v141 := Tryz.zeroValue215,
  t152 := Tryz.underlying210,
  a152 := Tryz.isAgg210,
  z152 := Tryz.sizeOf210,
  v152 := Tryz.zeroValue210,
  t154 := Tryz.underlying212,
  a154 := Tryz.isAgg212,
  z154 := Tryz.sizeOf212,
  v154 := Tryz.zeroValue212,
  t193 := Tryz.underlying225,
  a193 := Tryz.isAgg225,
  z193 := Tryz.sizeOf225,
  v193 := Tryz.zeroValue225,
  t194 := Tryz.underlying226,
  a194 := Tryz.isAgg226,
  z194 := Tryz.sizeOf226,
  v194 := Tryz.zeroValue226,
  t196 := Tryz.underlying228,
  a196 := Tryz.isAgg228,
  z196 := Tryz.sizeOf228,
  v196 := Tryz.zeroValue228,
  t198 := Tryz.underlying231,
  a198 := Tryz.isAgg231,
  z198 := Tryz.sizeOf231,
  v198 := Tryz.zeroValue231,
  t201 := Tryz.underlying234,
  a201 := Tryz.isAgg234,
  z201 := Tryz.sizeOf234,
  v201 := Tryz.zeroValue234,
  t226 := Tryz.underlying252,
  a226 := Tryz.isAgg252,
  z226 := Tryz.sizeOf252,
  v226 := Tryz.zeroValue252,
  t227 := Tryz.underlying253,
  a227 := Tryz.isAgg253,
  z227 := Tryz.sizeOf253,
  v227 := Tryz.zeroValue253,
  g0 := by kernel_rfl,
  g6 := by kernel_rfl }
abbrev zq5t := Qdj
def zq5u (c : zq5t) : Spec := Qg8 9 c
def zq5v : zq5t := fun x k => Qdk x k
theorem zq5w : SpecOk Tryz.prog 87 (zq5u zq5v) :=
 Qjp zq5s rfl rfl (by kernel_rfl) (by kernel_rfl) (by kernel_rfl) (by kernel_rfl) ⟨_, Tryz.func87, by kernel_rfl, by kernel_rfl⟩
noncomputable def zq5x : En := .of zq5w
abbrev zq5y := {β : Type} → t7y → t6y → t4y → t2y → t1y → (Int → t6y → t4y → t2y → t1y → Option β) → Option β
def zq5z : zq5y := fun l b1_ b2_ b3_ b4_ k =>
 cond (decide (0 ≤ (1 : Int)) && decide ((1 : Int) < (List.length l : Int)))
 (let e := List.getD l (Int.toNat (1 : Int)) ((0 : Int), (([] : List UInt8), (0 : Int)));
 cond (decide (0 ≤ (2 : Int)) && decide ((2 : Int) < (List.length l : Int)))
 (let e2 := List.getD l (Int.toNat (2 : Int)) ((0 : Int), (([] : List UInt8), (0 : Int)));
 let l2 := ([(e.2.1, (e2.2.2, ([] : List zq8)))] : List zqa);
 cond (true && decide ((List.length b1_ + List.length l2) * 48 ≤ Qc))
 (let l3 := (b1_ ++ l2);
 k (0 : Int) l3 b2_ b3_ b4_)
 none)
 none)
 none
def zq60 : zq5y := hid zq5z
theorem zq61 : SpecOkB Tryz.prog 91 (sg [v23y, v25y] l49y [v19y] l49y zq60) := Q1v mixed (X := ⟨look tab, gam ([] : List En), false, false, false, false, q63y, none, 0, []⟩) Qe [] rfl [] [.tmp 4] Tryz.func91 (by kernel_rfl) fun _ _ => by kernel_rfl
noncomputable def zq62 : En := .hand zq61 rfl (by kernel_rfl)
abbrev zq63 := {β : Type} → t7y → t6y → t4y → t2y → t1y → (Int → t6y → t4y → t2y → t1y → Option β) → Option β
def zq64 : zq63 := fun l b1_ b2_ b3_ b4_ k =>
 cond (decide (0 ≤ (1 : Int)) && decide ((1 : Int) < (List.length l : Int)))
 (let e := List.getD l (Int.toNat (1 : Int)) ((0 : Int), (([] : List UInt8), (0 : Int)));
 let l2 := ([(e.2.1, (([] : List zq2), ([] : List t0y)))] : List zq4);
 cond (true && decide ((List.length b4_ + List.length l2) * 64 ≤ Qc))
 (let l3 := (b4_ ++ l2);
 k (0 : Int) b1_ b2_ b3_ l3)
 none)
 none
def zq65 : zq63 := hid zq64
theorem zq66 : SpecOkB Tryz.prog 97 (sg [v23y, v25y] l49y [v19y] l49y zq65) := Q1v mixed (X := ⟨look tab, gam ([] : List En), false, false, false, false, q63y, none, 0, []⟩) Qe [] rfl [] [.tmp 4] Tryz.func97 (by kernel_rfl) fun _ _ => by kernel_rfl
noncomputable def zq67 : En := .hand zq66 rfl (by kernel_rfl)
abbrev zq68 := {β : Type} → Int → Int → Int → (Bool → Option β) → Option β
def zq69 : zq68 := fun n lo hi k =>
 cond (decide (lo ≤ n))
 (k (decide (n ≤ hi)))
 (k false)
def Q2b : zq68 := hid zq69
noncomputable def zq6a : En := ⟨104, .spec (sg [v19y, v19y, v19y] [] [v21y] [] Q2b), pf [] [] [.tmp 6] Tryz.func104 (by kernel_rfl) fun _ _ => by kernel_rfl⟩
abbrev zq6b := {β : Type} → zqc → t3y → (Bool → t3y → Option β) → Option β
def zq6c : zq6b := fun f t1 k =>
 k (decide (f.1 = t1)) t1
def zq6d : zq6b := hid zq6c
noncomputable def zq6e : En := ⟨116, .spec (sg [(true, [.data zqd]), v23y] [b29y] [v21y] [b29y] zq6d), pf [] [] [.tmp 3] Tryz.func116 (by kernel_rfl) fun _ _ => by kernel_rfl⟩
abbrev zq6f := {β : Type} → zq6 → t3y → (Bool → Option β) → Option β
def zq6g : zq6f := fun t s k =>
 cond (decide (t.1 = (0 : Int)))
 (k (decide (t.2.1 = s)))
 (k false)
def zq6h : zq6f := hid zq6g
noncomputable def zq6i : En := ⟨117, .spec (sg [(true, [.data zq7]), v26y] [] [v21y] [] zq6h), pf [] [] [.tmp 4] Tryz.func117 (by kernel_rfl) fun _ _ => by kernel_rfl⟩
noncomputable def zq6j : En := .inl mixed (X := ⟨look tab, gam ([] : List En), false, false, false, false, q63y, none, 0, []⟩) (rs := [.tmp 2]) Qe ([] : List En) rfl 4 Tryz.func121 (by kernel_rfl)
noncomputable def zq6k : En := .inl mixed (X := ⟨look tab, gam ([] : List En), false, false, false, false, q63y, none, 0, []⟩) (rs := [.tmp 2]) Qe ([] : List En) rfl 4 Tryz.func122 (by kernel_rfl)
abbrev zq6l := {β : Type} → zqa → (t3y → Option β) → Option β
def zq6m : zq6l := fun z k =>
 k z.1
def zq6n : zq6l := hid zq6m
noncomputable def zq6o : En := ⟨155, .spec (sg [v38y] [] [v26y] [] zq6n), Q9f mixed (X := ⟨look tab, gam ([] : List En), false, false, false, false, q63y, none, 0, []⟩) Qe [] rfl [] [.tmp 2] Tryz.func155 (by kernel_rfl) fun _ _ => by kernel_rfl⟩
noncomputable def zq6p : En := .inl mixed (X := ⟨look tab, gam [zq6o], false, false, false, false, [], none, 0, []⟩) (rs := [.tmp 4]) Qe [zq6o] rfl 4 Tryz.func174 (by kernel_rfl)
abbrev zq6q := {β : Type} → t6y → t3y → (Int → t3y → Option β) → Option β
noncomputable def zq6r : List En := [zq6p]
abbrev zq6s (β : Type) := Int → t3y → Option β
abbrev zq6t (β : Type) := t3y → Option β
abbrev zq6u (β : Type) := t6y → Int → Int → t3y → Option β
noncomputable def zq6v : Pc := ⟨19, 2, Q7 26 (Q5 Tryz.f173), ⟨2, [0, 1, 7, 8], [v45y, (false, [.fn 174 [0, 1]]), v19y, v19y], l57y⟩, [(.ret, ⟨2, [4], [v19y], l57y⟩), (.exit 0, ⟨2, [], [], l57y⟩)]⟩
def zq6w {β : Type} (rec : zq6u β) (k1 : zq6s β) (k2 : zq6t β) : zq6u β := fun s t7 t8 b1_ =>
 cond (decide (t8 < t7))
 (cond (decide (0 ≤ t8) && decide (t8 < (List.length s : Int)))
 (let e := List.getD s (Int.toNat t8) (([] : List UInt8), ((0 : Int), ([] : List zq8)));
 zq6n e (fun rzone1 =>
 cond (decide (rzone1 = b1_))
 (k1 t8 b1_)
 (rec s t7 (IntKind.i64.wrap (t8 + (1 : Int))) b1_)))
 none)
 (k2 b1_)
def zq6x (m : Nat) {β : Type} (k1 : zq6s β) (k2 : zq6t β) : zq6u β := lp4 (fun r => zq6w r k1 k2) none m
theorem zq6y {β : Type} (i : Nat) (k1 k2) : zq6x (β := β) (i + 1) k1 k2 = zq6w (zq6x i k1 k2) k1 k2 := rfl
def zq6z {β : Type} := hid (zq6x (β := β) fuel)
noncomputable def zq70 : Pb := ⟨26, zq6v, fun _ => zq6z, pl (p := zq6v) zq6r [] (g := fun i _ => zq6x i) (by kernel_rfl) rfl (by kernel_rfl) (fun _ _ => rfl) fun _ _ _ _ => by kernel_rfl⟩
def zq71 : zq6q := fun s b1_ k =>
 zq6z (fun t4 b1_2 =>
 k t4 b1_2) (fun b1_2 =>
 k (-1 : Int) b1_2) s (List.length s : Int) (0 : Int) b1_
def zq72 : zq6q := hid zq71
noncomputable def zq73 : En := ⟨173, .spec (sg [v45y, (false, [.fn 174 [0, 1]])] l57y [v19y] l57y zq72), pf zq6r [zq70] [.tmp 4] Tryz.func173 (by kernel_rfl) fun _ _ => by kernel_rfl⟩
noncomputable def zq74 : En := .inl mixed (X := ⟨look tab, gam [zq73], false, false, false, false, [], none, 0, []⟩) (rs := [.tmp 6, .tmp 7]) Qe [zq73] rfl 4 Tryz.func154 (by kernel_rfl)
noncomputable def zq75 : En := .inl mixed (X := ⟨look tab, gam [zq74], false, false, false, false, q63y, none, 0, []⟩) (rs := [.tmp 4, .tmp 5]) Qe [zq74] rfl 4 Tryz.func123 (by kernel_rfl)
abbrev zq76 := {β : Type} → Bool → (Int → Option β) → Option β
def zq77 : zq76 := fun ok k =>
 cond (!ok)
 (k (3 : Int))
 (k (0 : Int))
def zq78 : zq76 := hid zq77
noncomputable def zq79 : En := ⟨124, .spec (sg [v21y] [] [v19y] [] zq78), pf [] [] [.tmp 2] Tryz.func124 (by kernel_rfl) fun _ _ => by kernel_rfl⟩
noncomputable def zq7a : En := .inl mixed (X := ⟨look tab, gam ([] : List En), false, false, false, false, q63y, none, 0, []⟩) (rs := [.tmp 2]) Qe ([] : List En) rfl 4 Tryz.func126 (by kernel_rfl)
noncomputable def zq7b : En := .inl mixed (X := ⟨look tab, gam ([] : List En), false, false, false, false, q63y, none, 0, []⟩) (rs := [.tmp 2]) Qe ([] : List En) rfl 4 Tryz.func127 (by kernel_rfl)
noncomputable def zq7c : En := .inl mixed (X := ⟨look tab, gam ([] : List En), false, false, false, false, q63y, none, 0, []⟩) (rs := [.tmp 2]) Qe ([] : List En) rfl 4 Tryz.func128 (by kernel_rfl)
noncomputable def zq7d : En := .inl mixed (X := ⟨look tab, gam ([] : List En), false, false, false, false, q63y, none, 0, []⟩) (rs := [.tmp 2]) Qe ([] : List En) rfl 4 Tryz.func129 (by kernel_rfl)
abbrev zq7e := {β : Type} → (List t3y) → t3y → (Int → Option β) → Option β
abbrev zq7f (β : Type) := Int → Option β
abbrev zq7g (β : Type) := Unit → Option β
abbrev zq7h (β : Type) := (List t3y) → t3y → Int → Int → Option β
noncomputable def zq7i : Pc := ⟨19, 0, Q7 26 (Q5 Tryz.f130), ⟨0, [0, 1, 7, 8], [(false, [.data (.slice .str)]), v26y, v19y, v19y], []⟩, [(.ret, ⟨0, [4], [v19y], []⟩), (.exit 0, ⟨0, [], [], []⟩)]⟩
def zq7j {β : Type} (rec : zq7h β) (k1 : zq7f β) (k2 : zq7g β) : zq7h β := fun s v t7 t8 =>
 cond (decide (t8 < t7))
 (cond (decide (0 ≤ t8) && decide (t8 < (List.length s : Int)))
 (let e := List.getD s (Int.toNat t8) ([] : List UInt8);
 cond (decide (v = e))
 (k1 t8)
 (rec s v t7 (IntKind.i64.wrap (t8 + (1 : Int)))))
 none)
 (k2 ())
def zq7k (m : Nat) {β : Type} (k1 : zq7f β) (k2 : zq7g β) : zq7h β := lp4 (fun r => zq7j r k1 k2) none m
theorem zq7l {β : Type} (i : Nat) (k1 k2) : zq7k (β := β) (i + 1) k1 k2 = zq7j (zq7k i k1 k2) k1 k2 := rfl
def zq7m {β : Type} := hid (zq7k (β := β) fuel)
noncomputable def zq7n : Pb := ⟨26, zq7i, fun _ => zq7m, pl (p := zq7i) [] [] (g := fun i _ => zq7k i) (by kernel_rfl) rfl (by kernel_rfl) (fun _ _ => rfl) fun _ _ _ _ => by kernel_rfl⟩
def zq7o : zq7e := fun s v k =>
 zq7m (fun t4 =>
 k t4) (fun _ =>
 k (-1 : Int)) s v (List.length s : Int) (0 : Int)
def zq7p : zq7e := hid zq7o
noncomputable def zq7q : En := ⟨130, .spec (sg [(false, [.data (.slice .str)]), v26y] [] [v19y] [] zq7p), pf [] [zq7n] [.tmp 4] Tryz.func130 (by kernel_rfl) fun _ _ => by kernel_rfl⟩
noncomputable def zq7r : En := .inl mixed (X := ⟨look tab, gam ([] : List En), false, false, false, false, q63y, none, 0, []⟩) (rs := [.tmp 2]) Qe ([] : List En) rfl 4 Tryz.func131 (by kernel_rfl)
noncomputable def zq7s : En := .inl mixed (X := ⟨look tab, gam ([] : List En), false, false, false, false, q63y, none, 0, []⟩) (rs := [.tmp 2]) Qe ([] : List En) rfl 4 Tryz.func132 (by kernel_rfl)
noncomputable def zq7t : En := .inl mixed (X := ⟨look tab, gam ([] : List En), false, false, false, false, q63y, none, 0, []⟩) (rs := [.tmp 2]) Qe ([] : List En) rfl 4 Tryz.func156 (by kernel_rfl)
noncomputable def zq7u : En := .inl mixed (X := ⟨look tab, gam [zq7t, zq7r], false, false, false, false, q63y, none, 0, []⟩) (rs := [.tmp 2]) Qe [zq7t, zq7r] rfl 4 Tryz.func133 (by kernel_rfl)
noncomputable def zq7v : En := .inl mixed (X := ⟨look tab, gam ([] : List En), false, false, false, false, q63y, none, 0, []⟩) (rs := [.tmp 2]) Qe ([] : List En) rfl 4 Tryz.func134 (by kernel_rfl)
abbrev zq7w := {β : Type} → zq0 → (t3y → Option β) → Option β
def zq7x : zq7w := fun c k =>
 k c.1
def zq7y : zq7w := hid zq7x
noncomputable def zq7z : En := ⟨158, .spec (sg [v48y] [] [v26y] [] zq7y), Q9f mixed (X := ⟨look tab, gam ([] : List En), false, false, false, false, q63y, none, 0, []⟩) Qe [] rfl [] [.tmp 2] Tryz.func158 (by kernel_rfl) fun _ _ => by kernel_rfl⟩
noncomputable def zq80 : En := .inl mixed (X := ⟨look tab, gam [zq7z], false, false, false, false, [], none, 0, []⟩) (rs := [.tmp 4]) Qe [zq7z] rfl 4 Tryz.func176 (by kernel_rfl)
abbrev zq81 := {β : Type} → t2y → t3y → (Int → t3y → Option β) → Option β
noncomputable def zq82 : List En := [zq80]
abbrev zq83 (β : Type) := Int → t3y → Option β
abbrev zq84 (β : Type) := t3y → Option β
abbrev zq85 (β : Type) := t2y → Int → Int → t3y → Option β
noncomputable def zq86 : Pc := ⟨19, 2, Q7 26 (Q5 Tryz.f175), ⟨2, [0, 1, 7, 8], [v43y, (false, [.fn 176 [0, 1]]), v19y, v19y], l56y⟩, [(.ret, ⟨2, [4], [v19y], l56y⟩), (.exit 0, ⟨2, [], [], l56y⟩)]⟩
def zq87 {β : Type} (rec : zq85 β) (k1 : zq83 β) (k2 : zq84 β) : zq85 β := fun s t7 t8 b1_ =>
 cond (decide (t8 < t7))
 (cond (decide (0 ≤ t8) && decide (t8 < (List.length s : Int)))
 (let e := List.getD s (Int.toNat t8) (([] : List UInt8), ((0 : Int), ([] : List Int)));
 zq7y e (fun rcalendar1 =>
 let t := (decide (rcalendar1 = b1_));
 cond t
 (k1 t8 b1_)
 (rec s t7 (IntKind.i64.wrap (t8 + (1 : Int))) b1_)))
 none)
 (k2 b1_)
def zq88 (m : Nat) {β : Type} (k1 : zq83 β) (k2 : zq84 β) : zq85 β := lp4 (fun r => zq87 r k1 k2) none m
theorem zq89 {β : Type} (i : Nat) (k1 k2) : zq88 (β := β) (i + 1) k1 k2 = zq87 (zq88 i k1 k2) k1 k2 := rfl
def zq8a {β : Type} := hid (zq88 (β := β) fuel)
noncomputable def zq8b : Pb := ⟨26, zq86, fun _ => zq8a, pl (p := zq86) zq82 [] (g := fun i _ => zq88 i) (by kernel_rfl) rfl (by kernel_rfl) (fun _ _ => rfl) fun _ _ _ _ => by kernel_rfl⟩
def zq8c : zq81 := fun s b1_ k =>
 zq8a (fun t4 b1_2 =>
 k t4 b1_2) (fun b1_2 =>
 k (-1 : Int) b1_2) s (List.length s : Int) (0 : Int) b1_
def zq8d : zq81 := hid zq8c
noncomputable def zq8e : En := ⟨175, .spec (sg [v43y, (false, [.fn 176 [0, 1]])] l56y [v19y] l56y zq8d), pf zq82 [zq8b] [.tmp 4] Tryz.func175 (by kernel_rfl) fun _ _ => by kernel_rfl⟩
noncomputable def zq8f : En := .inl mixed (X := ⟨look tab, gam [zq8e], false, false, false, false, [], none, 0, []⟩) (rs := [.tmp 6, .tmp 7]) Qe [zq8e] rfl 4 Tryz.func157 (by kernel_rfl)
noncomputable def zq8g : En := .inl mixed (X := ⟨look tab, gam [zq8f], false, false, false, false, q63y, none, 0, []⟩) (rs := [.tmp 4, .tmp 5]) Qe [zq8f] rfl 4 Tryz.func135 (by kernel_rfl)
abbrev zq8h := {β : Type} → zq8 → (Int → Option β) → Option β
def zq8i : zq8h := fun r_ k =>
 Q2b r_.1 (1970 : Int) (2240 : Int) (fun rin =>
 cond (!rin)
 (k (1 : Int))
 (Q2b r_.2.1 r_.1 (2240 : Int) (fun rin2 =>
 cond (!rin2)
 (k (1 : Int))
 (Q2b r_.2.2.1 (1 : Int) (12 : Int) (fun rin3 =>
 cond (!rin3)
 (k (1 : Int))
 (Q2b r_.2.2.2.1 (1 : Int) (5 : Int) (fun rin4 =>
 cond (!rin4)
 (k (1 : Int))
 (Q2b r_.2.2.2.2.1 (0 : Int) (6 : Int) (fun rin5 =>
 cond (!rin5)
 (k (1 : Int))
 (Q2b r_.2.2.2.2.2.1 (0 : Int) (86399 : Int) (fun rin6 =>
 cond (!rin6)
 (k (1 : Int))
 (Q2b r_.2.2.2.2.2.2 (-64800 : Int) (64800 : Int) (fun rin7 =>
 cond (!rin7)
 (k (1 : Int))
 (k (0 : Int)))))))))))))))
def zq8j : zq8h := hid zq8i
noncomputable def zq8k : En := ⟨136, .spec (sg [(true, [.data zq9])] [] [v19y] [] zq8j), pf [zq6a] [] [.tmp 2] Tryz.func136 (by kernel_rfl) fun _ _ => by kernel_rfl⟩
abbrev zq8l := {β : Type} → Int → Int → (Int → Option β) → Option β
def zq8m : zq8l := fun a b k =>
 cond (!decide (b = 0))
 (let q := (IntKind.i64.wrap (Int.tdiv a b));
 cond (!decide (b = 0))
 (cond (decide ((Int.tmod a b) < (0 : Int)))
 (let q2 := (IntKind.i64.wrap (q - (1 : Int)));
 k q2)
 (k q))
 none)
 none
def zq8n : zq8l := hid zq8m
noncomputable def zq8o : En := ⟨140, .spec (sg [v19y, v19y] [] [v19y] [] zq8n), pf [] [] [.tmp 4] Tryz.func140 (by kernel_rfl) fun _ _ => by kernel_rfl⟩
abbrev zq8p := {β : Type} → Int → (Bool → Option β) → Option β
def zq8q : zq8p := fun year k =>
 cond (decide ((Int.tmod year (4 : Int)) = (0 : Int)))
 (cond (!decide ((Int.tmod year (100 : Int)) = (0 : Int)))
 (k true)
 (let t := (decide ((Int.tmod year (400 : Int)) = (0 : Int)));
 k t))
 (k false)
def zq8r : zq8p := hid zq8q
noncomputable def zq8s : En := ⟨141, .spec (sg [v19y] [] [v21y] [] zq8r), pf [] [] [.tmp 2] Tryz.func141 (by kernel_rfl) fun _ _ => by kernel_rfl⟩
def zq8t : Shelf.Ren :=
   {
   f := fun x =>
    match x with
    | 144 => 148
    | 143 => 110
    | 219 => 145
    | 217 => 164
    | 225 => 165
    | 224 => 166
    | 267 => 167
    | 266 => 179
    | 314 => 180
    | n => n,
   t := fun x =>
    match x with
    | 9 => 9
    | 4 => 4
    | 3 => 3
    | 5 => 5
    | 46 => 224
    | 146 => 250
    | 51 => 213
    | n => n,
   g := fun x =>
    match x with
    | 1 => 2
    | n => n }
theorem zq8u : Go.Proofs.Lays.n144 Tryz.prog zq8t :=
 {
  mixed := by kernel_rfl,
  f143 := Eq.trans Tryz.func110 (congrArg some (by kernel_rfl)),
  f144 := Eq.trans Tryz.func148 (congrArg some (by kernel_rfl)),
  f217 := Eq.trans Tryz.func164 (congrArg some (by kernel_rfl)),
  f219 := Eq.trans Tryz.func145 (congrArg some (by kernel_rfl)),
  f224 := Eq.trans Tryz.func166 (congrArg some (by kernel_rfl)),
  f225 := Eq.trans Tryz.func165 (congrArg some (by kernel_rfl)),
  f266 := Eq.trans Tryz.func179 (congrArg some (by kernel_rfl)),
  f267 := Eq.trans Tryz.func167 (congrArg some (by kernel_rfl)),
  f314 := Eq.trans Tryz.func180 (congrArg some (by kernel_rfl)),
  t3 := Tryz.underlying3,
  a3 := Tryz.isAgg3,
  z3 := Tryz.sizeOf3,
  v3 := Tryz.zeroValue3,
  t4 := Tryz.underlying4,
  a4 := Tryz.isAgg4,
  z4 := Tryz.sizeOf4,
  v4 := Tryz.zeroValue4,
  t5 := Tryz.underlying5,
  a5 := Tryz.isAgg5,
  z5 := Tryz.sizeOf5,
  v5 := Tryz.zeroValue5,
  t9 := Tryz.underlying9,
  a9 := Tryz.isAgg9,
  z9 := Tryz.sizeOf9,
  v9 := Tryz.zeroValue9,
  t46 := Tryz.underlying224,
  a46 := Tryz.isAgg224,
  z46 := Tryz.sizeOf224,
  v46 := Tryz.zeroValue224,
  t51 := Tryz.underlying213,
  a51 := Tryz.isAgg213,
  z51 := Tryz.sizeOf213,
  v51 := Tryz.zeroValue213,
  t146 := Tryz.underlying250,
  a146 := Tryz.isAgg250,
  z146 := Tryz.sizeOf250,
  v146 := Tryz.zeroValue250,
  g1 := by kernel_rfl }
abbrev zq8v := Q9g
def zq8w (c : zq8v) : Spec := Qe9 c
def zq8x : zq8v := fun x y k => Q9h x y k
theorem zq8y : SpecOk Tryz.prog 148 (zq8w zq8x) :=
 Qh3 zq8u rfl (of_decide_eq_true (by kernel_rfl)) (fun w0 h0 => Go.Proofs.cell_of_shapedOpen_int (P := Tryz.prog) (g := 2) (t := 3) (zero := #[.int .i64 0]) h0 (of_decide_eq_true (by kernel_rfl)) (by kernel_rfl) rfl (by kernel_rfl) (by kernel_rfl) Tryz.underlying3) ⟨_, Tryz.func148, by kernel_rfl, by kernel_rfl⟩
noncomputable def zq8z : En := .of zq8y
abbrev zq90 := {β : Type} → t3y → t3y → (Int → Bool → Option β) → Option β
def zq91 : zq90 := fun words word k =>
 zq5v words (fun lrFields =>
 zq7p lrFields word (fun rIndexstringstring =>
 let t := (IntKind.i64.wrap (rIndexstringstring + (1 : Int)));
 let t2 := (decide ((0 : Int) ≤ rIndexstringstring));
 k t t2))
def zq92 : zq90 := hid zq91
noncomputable def zq93 : En := ⟨153, .spec (sg [v26y, v26y] [] [v19y, v21y] [] zq92), pf [zq7q, zq5x] [] [.tmp 4, .tmp 5] Tryz.func153 (by kernel_rfl) fun _ _ => by kernel_rfl⟩
abbrev zq94 := {β : Type} → Int → (Int → Option β) → Option β
def zq95 : zq94 := fun day k =>
 let t := (Int.tmod (IntKind.i64.wrap ((Int.tmod day (7 : Int)) + (10 : Int))) (7 : Int));
 k t
def zq96 : zq94 := hid zq95
noncomputable def zq97 : En := ⟨161, .spec (sg [v19y] [] [v19y] [] zq96), pf [] [] [.tmp 2] Tryz.func161 (by kernel_rfl) fun _ _ => by kernel_rfl⟩
def zq98 : Shelf.Ren :=
   {
   f := fun x =>
    match x with
    | 172 => 172
    | 244 => 181
    | 245 => 182
    | 247 => 184
    | 279 => 185
    | 280 => 186
    | 281 => 187
    | 282 => 188
    | 287 => 190
    | 316 => 191
    | 171 => 193
    | 205 => 192
    | 321 => 194
    | 322 => 195
    | 243 => 196
    | 246 => 197
    | 283 => 198
    | 284 => 199
    | 285 => 200
    | 286 => 201
    | 129 => 203
    | 317 => 202
    | 318 => 204
    | 319 => 205
    | 320 => 206
    | 337 => 207
    | 338 => 208
    | n => n,
   t := fun x =>
    match x with
    | 9 => 9
    | 3 => 3
    | 75 => 238
    | 76 => 239
    | 4 => 4
    | 5 => 5
    | 167 => 255
    | 37 => 28
    | 0 => 0
    | 85 => 256
    | 2 => 2
    | 168 => 258
    | 53 => 261
    | 175 => 262
    | 46 => 224
    | 210 => 266
    | 127 => 269
    | 145 => 272
    | 143 => 270
    | 21 => 21
    | 171 => 274
    | 173 => 277
    | 212 => 280
    | 51 => 213
    | 20 => 20
    | 213 => 281
    | 232 => 284
    | 233 => 285
    | 80 => 79
    | n => n,
   g := fun x =>
    match x with
    | 15 => 5
    | 16 => 6
    | 17 => 7
    | 18 => 8
    | 19 => 9
    | n => n }
theorem zq99 : Go.Proofs.LaysC.n172 Tryz.prog zq98 :=
 {
  mixed := by kernel_rfl,
  f129 := Eq.trans Tryz.func203 (congrArg some (by kernel_rfl)),
  f171 := Eq.trans Tryz.func193 (congrArg some (by kernel_rfl)),
  f172 := Eq.trans Tryz.func172 (congrArg some (by kernel_rfl)),
  f205 := Eq.trans Tryz.func192 (congrArg some (by kernel_rfl)),
  f243 := Eq.trans Tryz.func196 (congrArg some (by kernel_rfl)),
  f244 := Eq.trans Tryz.func181 (congrArg some (by kernel_rfl)),
  f245 := Eq.trans Tryz.func182 (congrArg some (by kernel_rfl)),
  f246 := Eq.trans Tryz.func197 (congrArg some (by kernel_rfl)),
  f247 := Eq.trans Tryz.func184 (congrArg some (by kernel_rfl)),
  f279 := Eq.trans Tryz.func185 (congrArg some (by kernel_rfl)),
  f280 := Eq.trans Tryz.func186 (congrArg some (by kernel_rfl)),
  f281 := Eq.trans Tryz.func187 (congrArg some (by kernel_rfl)),
  f282 := Eq.trans Tryz.func188 (congrArg some (by kernel_rfl)),
  f283 := Eq.trans Tryz.func198 (congrArg some (by kernel_rfl)),
  f284 := Eq.trans Tryz.func199 (congrArg some (by kernel_rfl)),
  f285 := Eq.trans Tryz.func200 (congrArg some (by kernel_rfl)),
  f286 := Eq.trans Tryz.func201 (congrArg some (by kernel_rfl)),
  f287 := Eq.trans Tryz.func190 (congrArg some (by kernel_rfl)),
  f316 := Eq.trans Tryz.func191 (congrArg some (by kernel_rfl)),
  f317 := Eq.trans Tryz.func202 (congrArg some (by kernel_rfl)),
  f318 := Eq.trans Tryz.func204 (congrArg some (by kernel_rfl)),
  f319 := Eq.trans Tryz.func205 (congrArg some (by kernel_rfl)),
  f320 := Eq.trans Tryz.func206 (congrArg some (by kernel_rfl)),
  f321 := Eq.trans Tryz.func194 (congrArg some (by kernel_rfl)),
  f322 := Eq.trans Tryz.func195 (congrArg some (by kernel_rfl)),
  f337 := Eq.trans Tryz.func207 (congrArg some (by kernel_rfl)),
  f338 := Eq.trans Tryz.func208 (congrArg some (by kernel_rfl)),
  t0 := Tryz.underlying0,
  a0 := Tryz.isAgg0,
  z0 := Tryz.sizeOf0,
  v0 := Tryz.zeroValue0,
  t2 := Tryz.underlying2,
  a2 := Tryz.isAgg2,
  z2 := Tryz.sizeOf2,
  v2 := Tryz.zeroValue2,
  t3 := Tryz.underlying3,
  a3 := Tryz.isAgg3,
  z3 := Tryz.sizeOf3,
  v3 := Tryz.zeroValue3,
  t4 := Tryz.underlying4,
  a4 := Tryz.isAgg4,
  z4 := Tryz.sizeOf4,
  v4 := Tryz.zeroValue4,
  t5 := Tryz.underlying5,
  a5 := Tryz.isAgg5,
  z5 := Tryz.sizeOf5,
  v5 := Tryz.zeroValue5,
  t9 := Tryz.underlying9,
  a9 := Tryz.isAgg9,
  z9 := Tryz.sizeOf9,
  v9 := Tryz.zeroValue9,
  t20 := Tryz.underlying20,
  a20 := Tryz.isAgg20,
  z20 := Tryz.sizeOf20,
  v20 := Tryz.zeroValue20,
  t21 := Tryz.underlying21,
  a21 := Tryz.isAgg21,
  z21 := Tryz.sizeOf21,
  v21 := Tryz.zeroValue21,
  t37 := Tryz.underlying28,
  a37 := Tryz.isAgg28,
  z37 := Tryz.sizeOf28,
  v37 := Tryz.zeroValue28,
  t46 := Tryz.underlying224,
  a46 := Tryz.isAgg224,
  z46 := Tryz.sizeOf224,
  v46 := Tryz.zeroValue224,
  t51 := Tryz.underlying213,
  a51 := Tryz.isAgg213,
  z51 := Tryz.sizeOf213,
  v51 := Tryz.zeroValue213,
  t53 := Tryz.underlying261,
  a53 := Tryz.isAgg261,
  z53 := Tryz.sizeOf261,
  v53 := Tryz.zeroValue261,
  t75 := Tryz.underlying238,
  a75 := Tryz.isAgg238,
  z75 := Tryz.sizeOf238,
  v75 := Tryz.zeroValue238,
  t76 := Tryz.underlying239,
  a76 := Tryz.isAgg239,
  z76 := Tryz.sizeOf239,
  v76 := Tryz.zeroValue239,
  t85 := Tryz.underlying256,
  a85 := Tryz.isAgg256,
  z85 := Tryz.sizeOf256,
  v85 := Tryz.zeroValue256,
  t127 := Tryz.underlying269,
  a127 := Tryz.isAgg269,
  z127 := Tryz.sizeOf269,
  v127 := Tryz.zeroValue269,
  t143 := Tryz.underlying270,
  a143 := Tryz.isAgg270,
  z143 := Tryz.sizeOf270,
  v143 := Tryz.zeroValue270,
  t145 := Tryz.underlying272,
  a145 := Tryz.isAgg272,
  z145 := Tryz.sizeOf272,
  v145 := Tryz.zeroValue272,
  t167 := Tryz.underlying255,
  a167 := Tryz.isAgg255,
  z167 := Tryz.sizeOf255,
  v167 := Tryz.zeroValue255,
  t168 := Tryz.underlying258,
  a168 := Tryz.isAgg258,
  z168 := Tryz.sizeOf258,
  v168 := Tryz.zeroValue258,
  t171 := Tryz.underlying274,
  a171 := Tryz.isAgg274,
  z171 := Tryz.sizeOf274,
  v171 := Tryz.zeroValue274,
  t173 := Tryz.underlying277,
  a173 := Tryz.isAgg277,
  z173 := Tryz.sizeOf277,
  v173 := Tryz.zeroValue277,
  t175 := Tryz.underlying262,
  a175 := Tryz.isAgg262,
  z175 := Tryz.sizeOf262,
  v175 := Tryz.zeroValue262,
  t210 := Tryz.underlying266,
  a210 := Tryz.isAgg266,
  z210 := Tryz.sizeOf266,
  v210 := Tryz.zeroValue266,
  t212 := Tryz.underlying280,
  a212 := Tryz.isAgg280,
  z212 := Tryz.sizeOf280,
  v212 := Tryz.zeroValue280,
  t213 := Tryz.underlying281,
  a213 := Tryz.isAgg281,
  z213 := Tryz.sizeOf281,
  t232 := Tryz.underlying284,
  a232 := Tryz.isAgg284,
  z232 := Tryz.sizeOf284,
  v232 := Tryz.zeroValue284,
  t233 := Tryz.underlying285,
  a233 := Tryz.isAgg285,
  z233 := Tryz.sizeOf285,
  v233 := Tryz.zeroValue285,
  g15 := by kernel_rfl,
  g16 := by kernel_rfl,
  g17 := by kernel_rfl,
  g18 := by kernel_rfl,
  g19 := by kernel_rfl,
  t80 := Tryz.underlying79,
  a80 := Tryz.isAgg79,
  z80 := Tryz.sizeOf79,
  v80 := Tryz.zeroValue79,
  i0 := by kernel_rfl,
  i2 := by kernel_rfl,
  i3 := by kernel_rfl,
  i4 := by kernel_rfl,
  i5 := by kernel_rfl,
  i9 := by kernel_rfl,
  i20 := by kernel_rfl,
  i21 := by kernel_rfl,
  i37 := by kernel_rfl,
  i46 := by kernel_rfl,
  i51 := by kernel_rfl,
  i53 := by kernel_rfl,
  i75 := by kernel_rfl,
  i76 := by kernel_rfl,
  i80 := by kernel_rfl,
  i85 := by kernel_rfl,
  i127 := by kernel_rfl,
  i143 := by kernel_rfl,
  i145 := by kernel_rfl,
  i167 := by kernel_rfl,
  i168 := by kernel_rfl,
  i171 := by kernel_rfl,
  i173 := by kernel_rfl,
  i175 := by kernel_rfl,
  i210 := by kernel_rfl,
  i212 := by kernel_rfl,
  i232 := by kernel_rfl,
  i233 := by kernel_rfl,
  m15 := by kernel_rfl,
  m16 := by kernel_rfl,
  m17 := by kernel_rfl,
  m18 := by kernel_rfl,
  m19 := by kernel_rfl,
  c0 := by kernel_rfl,
  c2 := by kernel_rfl,
  c3 := by kernel_rfl,
  c4 := by kernel_rfl,
  c5 := by kernel_rfl,
  c9 := by kernel_rfl,
  c20 := by kernel_rfl,
  c21 := by kernel_rfl,
  c37 := by kernel_rfl,
  c46 := by kernel_rfl,
  c51 := by kernel_rfl,
  c53 := by kernel_rfl,
  c75 := by kernel_rfl,
  c76 := by kernel_rfl,
  c80 := by kernel_rfl,
  c85 := by kernel_rfl,
  c127 := by kernel_rfl,
  c143 := by kernel_rfl,
  c145 := by kernel_rfl,
  c167 := by kernel_rfl,
  c168 := by kernel_rfl,
  c171 := by kernel_rfl,
  c173 := by kernel_rfl,
  c175 := by kernel_rfl,
  c210 := by kernel_rfl,
  c212 := by kernel_rfl,
  c213 := by kernel_rfl,
  c232 := by kernel_rfl,
  c233 := by kernel_rfl }
abbrev zq9a := Qil
def zq9b (c : zq9a) : Spec := Qlb c
def zq9c : zq9a := fun x k => Qim x k
theorem zq9d : SpecOk Tryz.prog 172 (zq9b zq9c) :=
 Qln zq99 rfl (by kernel_rfl) (by kernel_rfl) ⟨_, Tryz.func172, by kernel_rfl, by kernel_rfl⟩
noncomputable def zq9e : En := .of zq9d
def zq9f : Shelf.Ren :=
   {
   f := fun x =>
    match x with
    | 171 => 193
    | 243 => 196
    | 246 => 197
    | 283 => 198
    | 284 => 199
    | 285 => 200
    | 286 => 201
    | 129 => 203
    | 317 => 202
    | 318 => 204
    | 319 => 205
    | 320 => 206
    | 337 => 207
    | 338 => 208
    | n => n,
   t := fun x =>
    match x with
    | 3 => 3
    | 9 => 9
    | 2 => 2
    | 4 => 4
    | 171 => 274
    | 0 => 0
    | 53 => 261
    | 37 => 28
    | 5 => 5
    | 173 => 277
    | 212 => 280
    | 51 => 213
    | 20 => 20
    | 213 => 281
    | 46 => 224
    | 232 => 284
    | 233 => 285
    | n => n,
   g := fun x =>
    match x with
    | 17 => 7
    | 18 => 8
    | 19 => 9
    | n => n }
theorem zq9g : Go.Proofs.LaysM.n171 Tryz.prog zq9f :=
 {
  mixed := by kernel_rfl,
  f129 := Eq.trans Tryz.func203 (congrArg some (by kernel_rfl)),
  f171 := Eq.trans Tryz.func193 (congrArg some (by kernel_rfl)),
  f243 := Eq.trans Tryz.func196 (congrArg some (by kernel_rfl)),
  f246 := Eq.trans Tryz.func197 (congrArg some (by kernel_rfl)),
  f283 := Eq.trans Tryz.func198 (congrArg some (by kernel_rfl)),
  f284 := Eq.trans Tryz.func199 (congrArg some (by kernel_rfl)),
  f285 := Eq.trans Tryz.func200 (congrArg some (by kernel_rfl)),
  f286 := Eq.trans Tryz.func201 (congrArg some (by kernel_rfl)),
  f317 := Eq.trans Tryz.func202 (congrArg some (by kernel_rfl)),
  f318 := Eq.trans Tryz.func204 (congrArg some (by kernel_rfl)),
  f319 := Eq.trans Tryz.func205 (congrArg some (by kernel_rfl)),
  f320 := Eq.trans Tryz.func206 (congrArg some (by kernel_rfl)),
  f337 := Eq.trans Tryz.func207 (congrArg some (by kernel_rfl)),
  f338 := Eq.trans Tryz.func208 (congrArg some (by kernel_rfl)),
  t0 := Tryz.underlying0,
  a0 := Tryz.isAgg0,
  z0 := Tryz.sizeOf0,
  v0 := Tryz.zeroValue0,
  t2 := Tryz.underlying2,
  a2 := Tryz.isAgg2,
  z2 := Tryz.sizeOf2,
  v2 := Tryz.zeroValue2,
  t3 := Tryz.underlying3,
  a3 := Tryz.isAgg3,
  z3 := Tryz.sizeOf3,
  v3 := Tryz.zeroValue3,
  t4 := Tryz.underlying4,
  a4 := Tryz.isAgg4,
  z4 := Tryz.sizeOf4,
  v4 := Tryz.zeroValue4,
  t5 := Tryz.underlying5,
  a5 := Tryz.isAgg5,
  z5 := Tryz.sizeOf5,
  v5 := Tryz.zeroValue5,
  t9 := Tryz.underlying9,
  a9 := Tryz.isAgg9,
  z9 := Tryz.sizeOf9,
  v9 := Tryz.zeroValue9,
  t20 := Tryz.underlying20,
  a20 := Tryz.isAgg20,
  z20 := Tryz.sizeOf20,
  v20 := Tryz.zeroValue20,
  t37 := Tryz.underlying28,
  a37 := Tryz.isAgg28,
  z37 := Tryz.sizeOf28,
  v37 := Tryz.zeroValue28,
  t46 := Tryz.underlying224,
  a46 := Tryz.isAgg224,
  z46 := Tryz.sizeOf224,
  v46 := Tryz.zeroValue224,
  t51 := Tryz.underlying213,
  a51 := Tryz.isAgg213,
  z51 := Tryz.sizeOf213,
  v51 := Tryz.zeroValue213,
  t53 := Tryz.underlying261,
  a53 := Tryz.isAgg261,
  z53 := Tryz.sizeOf261,
  v53 := Tryz.zeroValue261,
  t171 := Tryz.underlying274,
  a171 := Tryz.isAgg274,
  z171 := Tryz.sizeOf274,
  v171 := Tryz.zeroValue274,
  t173 := Tryz.underlying277,
  a173 := Tryz.isAgg277,
  z173 := Tryz.sizeOf277,
  v173 := Tryz.zeroValue277,
  t212 := Tryz.underlying280,
  a212 := Tryz.isAgg280,
  z212 := Tryz.sizeOf280,
  v212 := Tryz.zeroValue280,
  t213 := Tryz.underlying281,
  a213 := Tryz.isAgg281,
  z213 := Tryz.sizeOf281,
  t232 := Tryz.underlying284,
  a232 := Tryz.isAgg284,
  z232 := Tryz.sizeOf284,
  v232 := Tryz.zeroValue284,
  t233 := Tryz.underlying285,
  a233 := Tryz.isAgg285,
  z233 := Tryz.sizeOf285,
  v233 := Tryz.zeroValue285,
  g17 := by kernel_rfl,
  g18 := by kernel_rfl,
  g19 := by kernel_rfl,
  i0 := by kernel_rfl,
  i2 := by kernel_rfl,
  i3 := by kernel_rfl,
  i4 := by kernel_rfl,
  i5 := by kernel_rfl,
  i9 := by kernel_rfl,
  i20 := by kernel_rfl,
  i37 := by kernel_rfl,
  i46 := by kernel_rfl,
  i51 := by kernel_rfl,
  i53 := by kernel_rfl,
  i171 := by kernel_rfl,
  i173 := by kernel_rfl,
  i212 := by kernel_rfl,
  i232 := by kernel_rfl,
  i233 := by kernel_rfl,
  m17 := by kernel_rfl,
  m18 := by kernel_rfl,
  m19 := by kernel_rfl }
abbrev zq9h := Qii
def zq9i (c : zq9h) : Spec := Qla c
def zq9j : zq9h := fun x k => Qij x k
theorem zq9k : SpecOk Tryz.prog 193 (zq9i zq9j) :=
 Qlm zq9g rfl (g := 7) (by kernel_rfl) ⟨_, Tryz.func193, by kernel_rfl, by kernel_rfl⟩
noncomputable def zq9l : En := .of zq9k
abbrev zq9m := {β : Type} → t11y → (t3y → t11y → Option β) → Option β
noncomputable def zq9n : List En := [zq1n, zq1j]
abbrev zq9o (β : Type) := t3y → t11y → Option β
abbrev zq9p (β : Type) := t3y → Int → t11y → (List t3y) → Option β
noncomputable def zq9q : Pc := ⟨32, 1, Q7 250 (Q5 Tryz.f11), ⟨1, [0, 3, 4, 5], [v23y, v26y, v47y, v19y], [b27y, .row 9 .str]⟩, [(.exit 0, ⟨1, [3], [v26y], [b27y]⟩)]⟩
abbrev zq9r (β : Type) := t3y → t11y → Option β
abbrev zq9s (β : Type) := t3y → t11y → Option β
noncomputable def zq9t : Pc := ⟨32, 1, Q7 15 (Q5 Tryz.f11), ⟨1, [0, 3], [v23y, v26y], [b27y]⟩, [(.ret, ⟨1, [2], [v26y], [b27y]⟩)]⟩
def zq9u {β : Type} (rec : zq9p β) (k1 : zq9o β) : zq9p β := fun out i_ d l =>
 cond (decide ((0 : Int) < i_))
 (zq1i (List.length l : Int) d (fun rNext mrNext =>
 cond (decide (0 ≤ rNext) && decide (rNext < (List.length l : Int)))
 (cond (decide (List.length (List.getD l (Int.toNat rNext) ([] : List UInt8)) + List.length ([10] : List UInt8) ≤ 9223372036854775807))
 (cond (decide (List.length out + List.length ((List.getD l (Int.toNat rNext) ([] : List UInt8)) ++ ([10] : List UInt8)) ≤ 9223372036854775807))
 (let out2 := (out ++ ((List.getD l (Int.toNat rNext) ([] : List UInt8)) ++ ([10] : List UInt8)));
 let i_2 := (IntKind.i64.wrap (i_ - (1 : Int)));
 rec out2 i_2 mrNext l)
 none)
 none)
 none))
 (k1 out d)
def zq9v (m : Nat) {β : Type} (k1 : zq9o β) : zq9p β := lp4 (fun r => zq9u r k1) none m
theorem zq9w {β : Type} (i : Nat) (k1) : zq9v (β := β) (i + 1) k1 = zq9u (zq9v i k1) k1 := rfl
def zq9x {β : Type} := hid (zq9v (β := β) fuel)
noncomputable def zq9y : Pb := ⟨250, zq9q, fun _ => zq9x, pl (p := zq9q) zq9n [] (g := fun i _ => zq9v i) (by kernel_rfl) rfl (by kernel_rfl) (fun _ _ => rfl) fun _ _ _ _ => by kernel_rfl⟩
def zq9z {β : Type} (k1 : zq9r β) : zq9s β := fun out d =>
 zq1m  (fun lrlines =>
 zq1i (5 : Int) d (fun rNext mrNext =>
 zq9x (fun out2 b0_ =>
 k1 out2 b0_) out rNext mrNext lrlines))
def zqa0 {β : Type} := hid (zq9z (β := β))
noncomputable def zqa1 : Pb := ⟨15, zq9t, fun _ => zqa0, pe (p := zq9t) zq9n [zq9y] 15 (g := fun _ => zq9z) (by kernel_rfl) fun _ _ => by kernel_rfl⟩
def zqa2 : zq9m := fun d k =>
 zq1i (6 : Int) d (fun rNext mrNext =>
 cond (decide ((0 : Int) < rNext))
 (let out := ([122, 111, 110, 101, 32, 104, 101, 114, 101, 32, 43, 48, 49, 58, 48, 48, 10, 112, 101, 114, 115, 111, 110, 32, 97, 100, 97, 32, 104, 101, 114, 101, 10, 112, 101, 114, 115, 111, 110, 32, 98, 111, 98, 32, 104, 101, 114, 101, 10] : List UInt8);
 zq1i (3 : Int) mrNext (fun rNext2 mrNext2 =>
 cond (decide ((0 : Int) < rNext2))
 (cond (decide (List.length out + List.length ([99, 97, 108, 101, 110, 100, 97, 114, 32, 100, 97, 121, 115, 32, 104, 101, 114, 101, 10, 115, 99, 104, 101, 100, 117, 108, 101, 32, 109, 97, 105, 110, 10, 108, 97, 121, 101, 114, 32, 98, 97, 115, 101, 32, 104, 101, 114, 101, 32, 50, 48, 50, 54, 45, 48, 49, 45, 48, 53, 32, 48, 56, 58, 48, 48, 32, 49, 32, 119, 101, 101, 107, 115, 10, 109, 101, 109, 98, 101, 114, 32, 97, 100, 97, 32, 98, 111, 98, 10] : List UInt8) ≤ 9223372036854775807))
 (let out2 := (out ++ ([99, 97, 108, 101, 110, 100, 97, 114, 32, 100, 97, 121, 115, 32, 104, 101, 114, 101, 10, 115, 99, 104, 101, 100, 117, 108, 101, 32, 109, 97, 105, 110, 10, 108, 97, 121, 101, 114, 32, 98, 97, 115, 101, 32, 104, 101, 114, 101, 32, 50, 48, 50, 54, 45, 48, 49, 45, 48, 53, 32, 48, 56, 58, 48, 48, 32, 49, 32, 119, 101, 101, 107, 115, 10, 109, 101, 109, 98, 101, 114, 32, 97, 100, 97, 32, 98, 111, 98, 10] : List UInt8));
 zqa0 (fun t2 b0_ =>
 k t2 b0_) out2 mrNext2)
 none)
 (zqa0 (fun t2 b0_ =>
 k t2 b0_) out mrNext2)))
 (zqa0 (fun t2 b0_ =>
 k t2 b0_) ([] : List UInt8) mrNext))
def zqa3 : zq9m := hid zqa2
noncomputable def zqa4 : En := ⟨11, .spec (sg [v23y] [b27y] [v26y] [b27y] zqa3), pf zq9n [zqa1] [.tmp 2] Tryz.func11 (by kernel_rfl) fun _ _ => by kernel_rfl⟩
theorem zqa5 : SpecOk Tryz.prog 11 (sg [v23y] [b27y] [v26y] [b27y] zqa3) := zqa4.ok
abbrev zqa6 := {β : Type} → zq4 → zq4 → (Bool → Option β) → Option β
noncomputable def zqa7 : List En := [zq53]
abbrev zqa8 (β : Type) := Bool → Option β
abbrev zqa9 (β : Type) := zq4 → zq4 → Option β
abbrev zqaa (β : Type) := Int → zq4 → zq4 → Option β
noncomputable def zqab : Pc := ⟨67, 0, Q7 58 (Q5 Tryz.f39), ⟨0, [2, 3, 5], [v23y, v32y, v19y], [b39y, b39y]⟩, [(.ret, ⟨0, [4], [v21y], []⟩), (.exit 0, ⟨0, [2, 3], [v23y, v32y], [b39y, b39y]⟩)]⟩
abbrev zqac (β : Type) := Bool → Option β
abbrev zqad (β : Type) := Unit → Option β
abbrev zqae (β : Type) := Int → zq4 → zq4 → Option β
noncomputable def zqaf : Pc := ⟨67, 0, Q7 122 (Q5 Tryz.f39), ⟨0, [2, 3, 6], [v23y, v32y, v19y], [b39y, b39y]⟩, [(.ret, ⟨0, [4], [v21y], []⟩), (.exit 2, ⟨0, [], [], []⟩)]⟩
def zqag {β : Type} (rec : zqaa β) (k1 : zqa8 β) (k2 : zqa9 β) : zqaa β := fun i_ a b =>
 cond (decide (i_ < (List.length a.2.1 : Int)))
 (cond (decide (0 ≤ i_) && decide (i_ < (List.length a.2.1 : Int)))
 (let e := List.getD a.2.1 (Int.toNat i_) (([] : List UInt8), ((0 : Int), (((0 : Int), (0 : Int)), ((0 : Int), ((0 : Int), (([] : List Int), (([] : List t5y), ((0 : Int), (0 : Int)))))))));
 cond (decide (0 ≤ i_) && decide (i_ < (List.length b.2.1 : Int)))
 (let e2 := List.getD b.2.1 (Int.toNat i_) (([] : List UInt8), ((0 : Int), (((0 : Int), (0 : Int)), ((0 : Int), ((0 : Int), (([] : List Int), (([] : List t5y), ((0 : Int), (0 : Int)))))))));
 zq52 e e2 (fun rsameLayer =>
 cond (!rsameLayer)
 (k1 false)
 (let i_2 := (IntKind.i64.wrap (i_ + (1 : Int)));
 rec i_2 a b)))
 none)
 none)
 (k2 a b)
def zqah (m : Nat) {β : Type} (k1 : zqa8 β) (k2 : zqa9 β) : zqaa β := lp3 (fun r => zqag r k1 k2) none m
theorem zqai {β : Type} (i : Nat) (k1 k2) : zqah (β := β) (i + 1) k1 k2 = zqag (zqah i k1 k2) k1 k2 := rfl
def zqaj {β : Type} := hid (zqah (β := β) fuel)
noncomputable def zqak : Pb := ⟨58, zqab, fun _ => zqaj, pl (p := zqab) zqa7 [] (g := fun i _ => zqah i) (by kernel_rfl) rfl (by kernel_rfl) (fun _ _ => rfl) fun _ _ _ _ => by kernel_rfl⟩
def zqal {β : Type} (rec : zqae β) (k1 : zqac β) (k2 : zqad β) : zqae β := fun i_ a b =>
 cond (decide (i_ < (List.length a.2.2 : Int)))
 (cond (decide (0 ≤ i_) && decide (i_ < (List.length a.2.2 : Int)))
 (let e := List.getD a.2.2 (Int.toNat i_) ((0 : Int), ((0 : Int), ((0 : Int), ((0 : Int), (0 : Int)))));
 cond (decide (0 ≤ i_) && decide (i_ < (List.length b.2.2 : Int)))
 (let e2 := List.getD b.2.2 (Int.toNat i_) ((0 : Int), ((0 : Int), ((0 : Int), ((0 : Int), (0 : Int)))));
 cond (!(decide (e.1 = e2.1) && (decide (e.2.1 = e2.2.1) && (decide (e.2.2.1 = e2.2.2.1) && (decide (e.2.2.2.1 = e2.2.2.2.1) && (decide (e.2.2.2.2 = e2.2.2.2.2) && true))))))
 (k1 false)
 (let i_2 := (IntKind.i64.wrap (i_ + (1 : Int)));
 rec i_2 a b))
 none)
 none)
 (k2 ())
def zqam (m : Nat) {β : Type} (k1 : zqac β) (k2 : zqad β) : zqae β := lp3 (fun r => zqal r k1 k2) none m
theorem zqan {β : Type} (i : Nat) (k1 k2) : zqam (β := β) (i + 1) k1 k2 = zqal (zqam i k1 k2) k1 k2 := rfl
def zqao {β : Type} := hid (zqam (β := β) fuel)
noncomputable def zqap : Pb := ⟨122, zqaf, fun _ => zqao, pl (p := zqaf) zqa7 [] (g := fun i _ => zqam i) (by kernel_rfl) rfl (by kernel_rfl) (fun _ _ => rfl) fun _ _ _ _ => by kernel_rfl⟩
def zqaq : zqa6 := fun a b k =>
 cond (!decide (a.1 = b.1))
 (k false)
 (cond (!decide ((List.length a.2.1 : Int) = (List.length b.2.1 : Int)))
 (k false)
 (cond (!decide ((List.length a.2.2 : Int) = (List.length b.2.2 : Int)))
 (k false)
 (zqaj (fun t4 =>
 k t4) (fun a2 b2 =>
 zqao (fun t4 =>
 k t4) (fun _ =>
 k true) (0 : Int) a2 b2) (0 : Int) a b)))
def zqar : zqa6 := hid zqaq
noncomputable def zqas : En := ⟨39, .spec (sg [v41y, v41y] [] [v21y] [] zqar), pf zqa7 [zqak, zqap] [.tmp 4] Tryz.func39 (by kernel_rfl) fun _ _ => by kernel_rfl⟩
abbrev zqat := {β : Type} → t3y → (Bool → Option β) → Option β
noncomputable def zqau : List En := [zq5b, zq57]
abbrev zqav (β : Type) := Bool → Option β
abbrev zqaw (β : Type) := Unit → Option β
abbrev zqax (β : Type) := t3y → Int → Int → Option β
noncomputable def zqay : Pc := ⟨43, 0, Q7 58 (Q5 Tryz.f51), ⟨0, [0, 19, 20], [v26y, v19y, v19y], []⟩, [(.ret, ⟨0, [2], [v21y], []⟩), (.exit 0, ⟨0, [], [], []⟩)]⟩
def zqaz {β : Type} (rec : zqax β) (k1 : zqav β) (k2 : zqaw β) : zqax β := fun s t19 t20 =>
 cond (decide (t20 < t19))
 (cond (decide (0 ≤ t20) && decide (t20 < (List.length s : Int)))
 (let c := ((List.getD s (Int.toNat t20) 0).toNat : Int);
 zq56 c (fun rsmall =>
 cond (!rsmall)
 (zq5a c (fun rdigit =>
 cond (!rdigit)
 (cond (!decide (c = (95 : Int)))
 (cond (!decide (c = (45 : Int)))
 (k1 false)
 (rec s t19 (IntKind.i64.wrap (t20 + (1 : Int)))))
 (rec s t19 (IntKind.i64.wrap (t20 + (1 : Int)))))
 (rec s t19 (IntKind.i64.wrap (t20 + (1 : Int))))))
 (rec s t19 (IntKind.i64.wrap (t20 + (1 : Int))))))
 none)
 (k2 ())
def zqb0 (m : Nat) {β : Type} (k1 : zqav β) (k2 : zqaw β) : zqax β := lp3 (fun r => zqaz r k1 k2) none m
theorem zqb1 {β : Type} (i : Nat) (k1 k2) : zqb0 (β := β) (i + 1) k1 k2 = zqaz (zqb0 i k1 k2) k1 k2 := rfl
def zqb2 {β : Type} := hid (zqb0 (β := β) fuel)
noncomputable def zqb3 : Pb := ⟨58, zqay, fun _ => zqb2, pl (p := zqay) zqau [] (g := fun i _ => zqb0 i) (by kernel_rfl) rfl (by kernel_rfl) (fun _ _ => rfl) fun _ _ _ _ => by kernel_rfl⟩
def zqb4 : zqat := fun s k =>
 cond (decide (s = ([] : List UInt8)))
 (k false)
 (cond (decide ((24 : Int) < (List.length s : Int)))
 (k false)
 (cond (decide (0 ≤ (0 : Int)) && decide ((0 : Int) < (List.length s : Int)))
 (zq56 ((List.getD s (Int.toNat (0 : Int)) 0).toNat : Int) (fun rsmall =>
 cond (!rsmall)
 (k false)
 (zqb2 (fun t2 =>
 k t2) (fun _ =>
 k true) s (List.length s : Int) (0 : Int))))
 none))
def zqb5 : zqat := hid zqb4
noncomputable def zqb6 : En := ⟨51, .spec (sg [v26y] [] [v21y] [] zqb5), pf zqau [zqb3] [.tmp 2] Tryz.func51 (by kernel_rfl) fun _ _ => by kernel_rfl⟩
abbrev zqb7 := {β : Type} → Int → (Bool → Option β) → Option β
def zqb8 : zqb7 := fun n k =>
 zq5e n (0 : Int) (604800 : Int) (fun rin =>
 cond rin
 (let t := (decide ((Int.tmod n (3600 : Int)) = (0 : Int)));
 k t)
 (k false))
def zqb9 : zqb7 := hid zqb8
noncomputable def zqba : En := ⟨54, .spec (sg [v19y] [] [v21y] [] zqb9), pf [zq5f] [] [.tmp 2] Tryz.func54 (by kernel_rfl) fun _ _ => by kernel_rfl⟩
abbrev zqbb := {β : Type} → t7y → (t7y → Bool → Option β) → Option β
noncomputable def zqbc : List En := [zq6i]
abbrev zqbd (β : Type) := t7y → t7y → Option β
abbrev zqbe (β : Type) := t7y → t7y → Int → Int → (List t3y) → Option β
noncomputable def zqbf : Pc := ⟨55, 0, Q7 122 (Q5 Tryz.f90), ⟨0, [0, 4, 13, 14, 15], [v25y, v25y, v31y, v19y, v19y], [.row 9 .str]⟩, [(.exit 0, ⟨0, [0, 4], [v25y, v25y], []⟩)]⟩
def zqbg {β : Type} (rec : zqbe β) (k1 : zqbd β) : zqbe β := fun l rest t14 t15 t13 =>
 cond (decide (t15 < t14))
 (cond (decide (0 ≤ t15) && decide (t15 < (List.length t13 : Int)))
 (let s := (List.getD t13 (Int.toNat t15) ([] : List UInt8));
 cond (decide ((2 : Int) ≤ (List.length rest : Int)))
 (cond (decide (0 ≤ (0 : Int)) && decide ((0 : Int) < (List.length rest : Int)))
 (let e := List.getD rest (Int.toNat (0 : Int)) ((0 : Int), (([] : List UInt8), (0 : Int)));
 zq6h e s (fun rword =>
 cond rword
 (cond (decide (0 ≤ (1 : Int)) && decide ((1 : Int) < (List.length rest : Int)))
 (let e2 := List.getD rest (Int.toNat (1 : Int)) ((0 : Int), (([] : List UInt8), (0 : Int)));
 cond (decide (e2.1 = (1 : Int)))
 (cond (decide (0 ≤ (2 : Int)) && (decide ((2 : Int) ≤ (List.length rest : Int)) && decide ((List.length rest : Int) ≤ (List.length rest : Int))))
 (let rest2 := (List.drop (Int.toNat (2 : Int)) (List.take (Int.toNat (List.length rest : Int)) rest));
 rec l rest2 t14 (IntKind.i64.wrap (t15 + (1 : Int))) t13)
 none)
 (rec l rest t14 (IntKind.i64.wrap (t15 + (1 : Int))) t13))
 none)
 (rec l rest t14 (IntKind.i64.wrap (t15 + (1 : Int))) t13)))
 none)
 (rec l rest t14 (IntKind.i64.wrap (t15 + (1 : Int))) t13))
 none)
 (k1 l rest)
def zqbh (m : Nat) {β : Type} (k1 : zqbd β) : zqbe β := lp5 (fun r => zqbg r k1) none m
theorem zqbi {β : Type} (i : Nat) (k1) : zqbh (β := β) (i + 1) k1 = zqbg (zqbh i k1) k1 := rfl
def zqbj {β : Type} := hid (zqbh (β := β) fuel)
noncomputable def zqbk : Pb := ⟨122, zqbf, fun _ => zqbj, pl (p := zqbf) zqbc [] (g := fun i _ => zqbh i) (by kernel_rfl) rfl (by kernel_rfl) (fun _ _ => rfl) fun _ _ _ _ => by kernel_rfl⟩
def zqbl : zqbb := fun l k =>
 cond (decide ((List.length l : Int) < (3 : Int)))
 (k l false)
 (cond (decide (0 ≤ (3 : Int)) && (decide ((3 : Int) ≤ (List.length l : Int)) && decide ((List.length l : Int) ≤ (List.length l : Int))))
 (let rest := (List.drop (Int.toNat (3 : Int)) (List.take (Int.toNat (List.length l : Int)) l));
 let l2 := ([([119, 101, 101, 107] : List UInt8), ([114, 101, 115, 116] : List UInt8)] : List t3y);
 zqbj (fun l3 rest2 =>
 cond (decide ((0 : Int) < (List.length rest2 : Int)))
 (cond (decide (0 ≤ (0 : Int)) && decide ((0 : Int) < (List.length rest2 : Int)))
 (let e := List.getD rest2 (Int.toNat (0 : Int)) ((0 : Int), (([] : List UInt8), (0 : Int)));
 zq6h e ([99, 111, 110, 115, 101, 110, 116] : List UInt8) (fun rword =>
 cond rword
 (cond (decide (0 ≤ (1 : Int)) && (decide ((1 : Int) ≤ (List.length rest2 : Int)) && decide ((List.length rest2 : Int) ≤ (List.length rest2 : Int))))
 (let rest3 := (List.drop (Int.toNat (1 : Int)) (List.take (Int.toNat (List.length rest2 : Int)) rest2));
 cond (decide (0 ≤ (0 : Int)) && (decide ((0 : Int) ≤ (3 : Int)) && decide ((3 : Int) ≤ (List.length l3 : Int))))
 (let t := (List.drop (Int.toNat (0 : Int)) (List.take (Int.toNat (3 : Int)) l3));
 let t2 := (decide ((List.length rest3 : Int) = (0 : Int)));
 k t t2)
 none)
 none)
 (cond (decide (0 ≤ (0 : Int)) && (decide ((0 : Int) ≤ (3 : Int)) && decide ((3 : Int) ≤ (List.length l3 : Int))))
 (let t := (List.drop (Int.toNat (0 : Int)) (List.take (Int.toNat (3 : Int)) l3));
 let t2 := (decide ((List.length rest2 : Int) = (0 : Int)));
 k t t2)
 none)))
 none)
 (cond (decide (0 ≤ (0 : Int)) && (decide ((0 : Int) ≤ (3 : Int)) && decide ((3 : Int) ≤ (List.length l3 : Int))))
 (let t := (List.drop (Int.toNat (0 : Int)) (List.take (Int.toNat (3 : Int)) l3));
 let t2 := (decide ((List.length rest2 : Int) = (0 : Int)));
 k t t2)
 none)) l rest (List.length l2 : Int) (0 : Int) l2)
 none)
def zqbm : zqbb := hid zqbl
noncomputable def zqbn : En := ⟨90, .spec (sg [v25y] [] [v25y, v21y] [] zqbm), pf zqbc [zqbk] [.tmp 2, .tmp 3] Tryz.func90 (by kernel_rfl) fun _ _ => by kernel_rfl⟩
abbrev zqbo := {β : Type} → t7y → t6y → t4y → t2y → t1y → (Int → t6y → t4y → t2y → t1y → Option β) → Option β
noncomputable def zqbp : List En := [zq7c, zq7d]
abbrev zqbq (β : Type) := t6y → t4y → t2y → t1y → Option β
abbrev zqbr (β : Type) := Nat → t7y → Int → Int → t6y → t4y → t2y → t1y → Option β
noncomputable def zqbs : Pc := ⟨39, 5, Q7 122 (Q5 Tryz.f96), ⟨5, [5, 21, 22, 23], [(false, [.tptrh 3 [] 0]), v25y, v19y, v19y], l49y⟩, [(.exit 0, ⟨5, [], [], l49y⟩)]⟩
def zqbt {β : Type} (rec : zqbr β) (k1 : zqbq β) : zqbr β := fun c t21 t22 t23 b1_ b2_ b3_ b4_ =>
 cond (decide (t23 < t22))
 (cond (decide (0 ≤ t23) && decide (t23 < (List.length t21 : Int)))
 (let e := List.getD t21 (Int.toNat t23) ((0 : Int), (([] : List UInt8), (0 : Int)));
 let e2 := List.getD b3_ c zqk;
 let l := ([e.2.2] : List Int);
 let l2 := ((List.getD b3_ c zqk).2).2;
 cond (true && decide ((List.length l2 + List.length l) * 8 ≤ Qc))
 (let l3 := (l2 ++ l);
 let e3 := List.getD b3_ c zqk;
 let l4 := List.set b3_ c (e3.1, (e3.2.1, l3));
 cond (decide (c = c) && (true && true))
 (rec c t21 t22 (IntKind.i64.wrap (t23 + (1 : Int))) b1_ b2_ l4 b4_)
 none)
 none)
 none)
 (k1 b1_ b2_ b3_ b4_)
def zqbu (m : Nat) {β : Type} (k1 : zqbq β) : zqbr β := lp8 (fun r => zqbt r k1) none m
theorem zqbv {β : Type} (i : Nat) (k1) : zqbu (β := β) (i + 1) k1 = zqbt (zqbu i k1) k1 := rfl
def zqbw {β : Type} := hid (zqbu (β := β) fuel)
noncomputable def zqbx : Pb := ⟨122, zqbs, fun _ => zqbw, Q8d mixed (X := ⟨look tab, gam zqbp, false, false, false, false, q63y, none, 0, []⟩) (p := zqbs) Qe zqbp rfl [] (g := fun i _ => zqbu i) (by kernel_rfl) rfl (by kernel_rfl) (fun _ _ => rfl) fun _ _ _ _ => by kernel_rfl⟩
def zqby : zqbo := fun l b1_ b2_ b3_ b4_ k =>
 cond (decide ((List.length b3_ : Int) = (0 : Int)))
 (k (9 : Int) b1_ b2_ b3_ b4_)
 (let i_ := (IntKind.i64.wrap ((List.length b3_ : Int) - (1 : Int)));
 cond (decide (0 ≤ i_) && decide (i_ < (List.length b3_ : Int)))
 (cond (decide (0 ≤ (1 : Int)) && (decide ((1 : Int) ≤ (List.length l : Int)) && decide ((List.length l : Int) ≤ (List.length l : Int))))
 (zqbw (fun b1_2 b2_2 b3_2 b4_2 =>
 k (0 : Int) b1_2 b2_2 b3_2 b4_2) (Int.toNat i_) (List.drop (Int.toNat (1 : Int)) (List.take (Int.toNat (List.length l : Int)) l)) (List.length (List.drop (Int.toNat (1 : Int)) (List.take (Int.toNat (List.length l : Int)) l)) : Int) (0 : Int) b1_ b2_ b3_ b4_)
 none)
 none)
def zqbz : zqbo := hid zqby
theorem zqc0 : SpecOkB Tryz.prog 96 (sg [v23y, v25y] l49y [v19y] l49y zqbz) := Q1v mixed (X := ⟨look tab, gam zqbp, false, false, false, false, q63y, none, 0, []⟩) Qe zqbp rfl [zqbx] [.tmp 4] Tryz.func96 (by kernel_rfl) fun _ _ => by kernel_rfl
noncomputable def zqc1 : En := .hand zqc0 rfl (by kernel_rfl)
abbrev zqc2 := {β : Type} → Int → (Int → Option β) → Option β
def zqc3 : zqc2 := fun year k =>
 let y := (IntKind.i64.wrap (year - (1 : Int)));
 zq8n y (4 : Int) (fun rfloor =>
 zq8n y (100 : Int) (fun rfloor2 =>
 zq8n y (400 : Int) (fun rfloor3 =>
 let t := (IntKind.i64.wrap ((IntKind.i64.wrap ((IntKind.i64.wrap ((IntKind.i64.wrap ((IntKind.i64.wrap ((365 : Int) * (IntKind.i64.wrap (year - (1970 : Int))))) + rfloor)) - rfloor2)) + rfloor3)) - (477 : Int)));
 k t)))
def zqc4 : zqc2 := hid zqc3
noncomputable def zqc5 : En := ⟨105, .spec (sg [v19y] [] [v19y] [] zqc4), pf [zq8o] [] [.tmp 2] Tryz.func105 (by kernel_rfl) fun _ _ => by kernel_rfl⟩
abbrev zqc6 := {β : Type} → Int → (Int → Option β) → Option β
noncomputable def zqc7 : List En := [zqc5, zq8o]
abbrev zqc8 (β : Type) := Int → Option β
abbrev zqc9 (β : Type) := Int → Int → Option β
noncomputable def zqca : Pc := ⟨15, 0, Q7 28 (Q5 Tryz.f106), ⟨0, [0, 3], [v19y, v19y], []⟩, [(.exit 0, ⟨0, [3], [v19y], []⟩)]⟩
def zqcb {β : Type} (rec : zqc9 β) (k1 : zqc8 β) : zqc9 β := fun day y =>
 zqc4 (IntKind.i64.wrap (y + (1 : Int))) (fun rcount =>
 cond (decide (rcount ≤ day))
 (let y2 := (IntKind.i64.wrap (y + (1 : Int)));
 rec day y2)
 (k1 y))
def zqcc (m : Nat) {β : Type} (k1 : zqc8 β) : zqc9 β := lp2 (fun r => zqcb r k1) none m
theorem zqcd {β : Type} (i : Nat) (k1) : zqcc (β := β) (i + 1) k1 = zqcb (zqcc i k1) k1 := rfl
def zqce {β : Type} := hid (zqcc (β := β) fuel)
noncomputable def zqcf : Pb := ⟨28, zqca, fun _ => zqce, pl (p := zqca) zqc7 [] (g := fun i _ => zqcc i) (by kernel_rfl) rfl (by kernel_rfl) (fun _ _ => rfl) fun _ _ _ _ => by kernel_rfl⟩
def zqcg : zqc6 := fun day k =>
 zq8n day (366 : Int) (fun rfloor =>
 let y := (IntKind.i64.wrap ((1970 : Int) + rfloor));
 zqce (fun y2 =>
 k y2) day y)
def zqch : zqc6 := hid zqcg
noncomputable def zqci : En := ⟨106, .spec (sg [v19y] [] [v19y] [] zqch), pf zqc7 [zqcf] [.tmp 2] Tryz.func106 (by kernel_rfl) fun _ _ => by kernel_rfl⟩
abbrev zqcj := {β : Type} → Int → Int → (Int → Option β) → Option β
def zqck : zqcj := fun year month k =>
 cond (decide (month < (1 : Int)))
 (k (0 : Int))
 (cond (decide ((12 : Int) < month))
 (k (0 : Int))
 (cond (decide (month = (2 : Int)))
 (zq8r year (fun rLeap =>
 cond rLeap
 (k (29 : Int))
 (cond (decide ((IntKind.i64.wrap (month - (1 : Int))) = (0 : Int)))
 (k (31 : Int))
 (cond (decide ((IntKind.i64.wrap (month - (1 : Int))) = (1 : Int)))
 (k (28 : Int))
 (cond (decide ((IntKind.i64.wrap (month - (1 : Int))) = (2 : Int)))
 (k (31 : Int))
 (cond (decide ((IntKind.i64.wrap (month - (1 : Int))) = (3 : Int)))
 (k (30 : Int))
 (cond (decide ((IntKind.i64.wrap (month - (1 : Int))) = (4 : Int)))
 (k (31 : Int))
 (cond (decide ((IntKind.i64.wrap (month - (1 : Int))) = (5 : Int)))
 (k (30 : Int))
 (cond (decide ((IntKind.i64.wrap (month - (1 : Int))) = (6 : Int)))
 (k (31 : Int))
 (cond (decide ((IntKind.i64.wrap (month - (1 : Int))) = (7 : Int)))
 (k (31 : Int))
 (cond (decide ((IntKind.i64.wrap (month - (1 : Int))) = (8 : Int)))
 (k (30 : Int))
 (cond (decide ((IntKind.i64.wrap (month - (1 : Int))) = (9 : Int)))
 (k (31 : Int))
 (cond (decide ((IntKind.i64.wrap (month - (1 : Int))) = (10 : Int)))
 (k (30 : Int))
 (cond (decide ((IntKind.i64.wrap (month - (1 : Int))) = (11 : Int)))
 (k (31 : Int))
 (none)))))))))))))))
 (cond (decide ((IntKind.i64.wrap (month - (1 : Int))) = (0 : Int)))
 (k (31 : Int))
 (cond (decide ((IntKind.i64.wrap (month - (1 : Int))) = (1 : Int)))
 (k (28 : Int))
 (cond (decide ((IntKind.i64.wrap (month - (1 : Int))) = (2 : Int)))
 (k (31 : Int))
 (cond (decide ((IntKind.i64.wrap (month - (1 : Int))) = (3 : Int)))
 (k (30 : Int))
 (cond (decide ((IntKind.i64.wrap (month - (1 : Int))) = (4 : Int)))
 (k (31 : Int))
 (cond (decide ((IntKind.i64.wrap (month - (1 : Int))) = (5 : Int)))
 (k (30 : Int))
 (cond (decide ((IntKind.i64.wrap (month - (1 : Int))) = (6 : Int)))
 (k (31 : Int))
 (cond (decide ((IntKind.i64.wrap (month - (1 : Int))) = (7 : Int)))
 (k (31 : Int))
 (cond (decide ((IntKind.i64.wrap (month - (1 : Int))) = (8 : Int)))
 (k (30 : Int))
 (cond (decide ((IntKind.i64.wrap (month - (1 : Int))) = (9 : Int)))
 (k (31 : Int))
 (cond (decide ((IntKind.i64.wrap (month - (1 : Int))) = (10 : Int)))
 (k (30 : Int))
 (cond (decide ((IntKind.i64.wrap (month - (1 : Int))) = (11 : Int)))
 (k (31 : Int))
 (none)))))))))))))))
def zqcl : zqcj := hid zqck
noncomputable def zqcm : En := ⟨107, .spec (sg [v19y, v19y] [] [v19y] [] zqcl), pf [zq8s] [] [.tmp 4] Tryz.func107 (by kernel_rfl) fun _ _ => by kernel_rfl⟩
abbrev zqcn := {β : Type} → t3y → (Int → Bool → Option β) → Option β
def zqco : zqcn := fun word k =>
 zq92 ([106, 97, 110, 32, 102, 101, 98, 32, 109, 97, 114, 32, 97, 112, 114, 32, 109, 97, 121, 32, 106, 117, 110, 32, 106, 117, 108, 32, 97, 117, 103, 32, 115, 101, 112, 32, 111, 99, 116, 32, 110, 111, 118, 32, 100, 101, 99] : List UInt8) word (fun rindex rindex2 =>
 k rindex rindex2)
def zqcp : zqcn := hid zqco
noncomputable def zqcq : En := ⟨118, .spec (sg [v26y] [] [v19y, v21y] [] zqcp), pf [zq93] [] [.tmp 2, .tmp 3] Tryz.func118 (by kernel_rfl) fun _ _ => by kernel_rfl⟩
abbrev zqcr := {β : Type} → t3y → (Int → Bool → Option β) → Option β
def zqcs : zqcr := fun word k =>
 zq92 ([102, 105, 114, 115, 116, 32, 115, 101, 99, 111, 110, 100, 32, 116, 104, 105, 114, 100, 32, 102, 111, 117, 114, 116, 104, 32, 108, 97, 115, 116] : List UInt8) word (fun rindex rindex2 =>
 k rindex rindex2)
def zqct : zqcr := hid zqcs
noncomputable def zqcu : En := ⟨119, .spec (sg [v26y] [] [v19y, v21y] [] zqct), pf [zq93] [] [.tmp 2, .tmp 3] Tryz.func119 (by kernel_rfl) fun _ _ => by kernel_rfl⟩
abbrev zqcv := {β : Type} → t3y → (Int → Bool → Option β) → Option β
def zqcw : zqcv := fun word k =>
 zq92 ([109, 111, 110, 32, 116, 117, 101, 32, 119, 101, 100, 32, 116, 104, 117, 32, 102, 114, 105, 32, 115, 97, 116, 32, 115, 117, 110] : List UInt8) word (fun rindex rindex2 =>
 let t := (if (IntKind.i64.wrap (rindex - (1 : Int))) > (0 : Int) then (IntKind.i64.wrap (rindex - (1 : Int))) else (0 : Int));
 k t rindex2)
def zqcx : zqcv := hid zqcw
noncomputable def zqcy : En := ⟨120, .spec (sg [v26y] [] [v19y, v21y] [] zqcx), pf [zq93] [] [.tmp 2, .tmp 3] Tryz.func120 (by kernel_rfl) fun _ _ => by kernel_rfl⟩
abbrev zqcz := {β : Type} → t7y → (t5y → Int → Option β) → Option β
def zqd0 : zqcz := fun l k =>
 cond (decide (0 ≤ (1 : Int)) && decide ((1 : Int) < (List.length l : Int)))
 (let e := List.getD l (Int.toNat (1 : Int)) ((0 : Int), (([] : List UInt8), (0 : Int)));
 zqcx e.2.1 (fun rWeekday rWeekday2 =>
 cond (decide (0 ≤ (3 : Int)) && decide ((3 : Int) < (List.length l : Int)))
 (let e2 := List.getD l (Int.toNat (3 : Int)) ((0 : Int), (([] : List UInt8), (0 : Int)));
 zqcx e2.2.1 (fun rWeekday3 rWeekday4 =>
 cond (!rWeekday2)
 (k ((0 : Int), (0 : Int)) (2 : Int))
 (cond (!rWeekday4)
 (k ((0 : Int), (0 : Int)) (2 : Int))
 (cond (decide (0 ≤ (2 : Int)) && decide ((2 : Int) < (List.length l : Int)))
 (let e3 := List.getD l (Int.toNat (2 : Int)) ((0 : Int), (([] : List UInt8), (0 : Int)));
 cond (decide (0 ≤ (4 : Int)) && decide ((4 : Int) < (List.length l : Int)))
 (let e4 := List.getD l (Int.toNat (4 : Int)) ((0 : Int), (([] : List UInt8), (0 : Int)));
 k ((IntKind.i64.wrap ((IntKind.i64.wrap (rWeekday * (86400 : Int))) + e3.2.2)), (IntKind.i64.wrap ((IntKind.i64.wrap (rWeekday3 * (86400 : Int))) + e4.2.2))) (0 : Int))
 none)
 none))))
 none))
 none
def zqd1 : zqcz := hid zqd0
noncomputable def zqd2 : En := ⟨125, .spec (sg [v25y] [] [(true, [.data (.prod (.int .i64) (.int .i64))]), v19y] [] zqd1), pf [zqcy] [] [.cell 2 129, .tmp 3] Tryz.func125 (by kernel_rfl) fun _ _ => by kernel_rfl⟩
abbrev zqd3 := {β : Type} → t3y → (Int → Bool → Option β) → Option β
noncomputable def zqd4 : List En := [zq5b, zq9e]
abbrev zqd5 (β : Type) := Int → Bool → Option β
abbrev zqd6 (β : Type) := t3y → Option β
abbrev zqd7 (β : Type) := t3y → Int → Int → Option β
noncomputable def zqd8 : Pc := ⟨31, 0, Q7 26 (Q5 Tryz.f152), ⟨0, [0, 8, 9], [v26y, v19y, v19y], []⟩, [(.ret, ⟨0, [2, 3], [v19y, v21y], []⟩), (.exit 0, ⟨0, [0], [v26y], []⟩)]⟩
def zqd9 {β : Type} (rec : zqd7 β) (k1 : zqd5 β) (k2 : zqd6 β) : zqd7 β := fun s t8 t9 =>
 cond (decide (t9 < t8))
 (cond (decide (0 ≤ t9) && decide (t9 < (List.length s : Int)))
 (zq5a ((List.getD s (Int.toNat t9) 0).toNat : Int) (fun rdigit =>
 cond (!rdigit)
 (k1 (0 : Int) false)
 (rec s t8 (IntKind.i64.wrap (t9 + (1 : Int))))))
 none)
 (k2 s)
def zqda (m : Nat) {β : Type} (k1 : zqd5 β) (k2 : zqd6 β) : zqd7 β := lp3 (fun r => zqd9 r k1 k2) none m
theorem zqdb {β : Type} (i : Nat) (k1 k2) : zqda (β := β) (i + 1) k1 k2 = zqd9 (zqda i k1 k2) k1 k2 := rfl
def zqdc {β : Type} := hid (zqda (β := β) fuel)
noncomputable def zqdd : Pb := ⟨26, zqd8, fun _ => zqdc, pl (p := zqd8) zqd4 [] (g := fun i _ => zqda i) (by kernel_rfl) rfl (by kernel_rfl) (fun _ _ => rfl) fun _ _ _ _ => by kernel_rfl⟩
def zqde : zqd3 := fun s k =>
 zqdc (fun t2 t3 =>
 k t2 t3) (fun s2 =>
 zq9c s2 (fun rAtoi rAtoi2 =>
 cond rAtoi2
 (let t := (decide ((List.length s2 : Int) ≤ (9 : Int)));
 k rAtoi t)
 (k rAtoi false))) s (List.length s : Int) (0 : Int)
def zqdf : zqd3 := hid zqde
noncomputable def zqdg : En := ⟨152, .spec (sg [v26y] [] [v19y, v21y] [] zqdf), pf zqd4 [zqdd] [.tmp 2, .tmp 3] Tryz.func152 (by kernel_rfl) fun _ _ => by kernel_rfl⟩
abbrev zqdh := {β : Type} → (Int × t5y) → (Bool → Option β) → Option β
def zqdi : zqdh := fun d k =>
 cond (decide ((1970 : Int) ≤ d.1))
 (cond (decide (d.1 ≤ (2240 : Int)))
 (cond (decide ((1 : Int) ≤ d.2.2))
 (zqcl d.1 d.2.1 (fun rDays =>
 k (decide (d.2.2 ≤ rDays))))
 (k false))
 (k false))
 (k false)
def zqdj : zqdh := hid zqdi
noncomputable def zqdk : En := ⟨159, .spec (sg [v36y] [] [v21y] [] zqdj), pf [zqcm] [] [.tmp 2] Tryz.func159 (by kernel_rfl) fun _ _ => by kernel_rfl⟩
abbrev zqdl := {β : Type} → (Int × t5y) → (Int → Option β) → Option β
noncomputable def zqdm : List En := [zqcm, zqc5]
abbrev zqdn (β : Type) := Int → Option β
abbrev zqdo (β : Type) := Int → Int → (Int × t5y) → Option β
noncomputable def zqdp : Pc := ⟨25, 0, Q7 58 (Q5 Tryz.f160), ⟨0, [1, 3, 4], [v23y, v19y, v19y], [b33y]⟩, [(.exit 0, ⟨0, [3], [v19y], []⟩)]⟩
def zqdq {β : Type} (rec : zqdo β) (k1 : zqdn β) : zqdo β := fun n m d =>
 cond (decide (m < d.2.1))
 (zqcl d.1 m (fun rDays =>
 let n2 := (IntKind.i64.wrap (n + rDays));
 let m2 := (IntKind.i64.wrap (m + (1 : Int)));
 rec n2 m2 d))
 (k1 n)
def zqdr (m : Nat) {β : Type} (k1 : zqdn β) : zqdo β := lp3 (fun r => zqdq r k1) none m
theorem zqds {β : Type} (i : Nat) (k1) : zqdr (β := β) (i + 1) k1 = zqdq (zqdr i k1) k1 := rfl
def zqdt {β : Type} := hid (zqdr (β := β) fuel)
noncomputable def zqdu : Pb := ⟨58, zqdp, fun _ => zqdt, pl (p := zqdp) zqdm [] (g := fun i _ => zqdr i) (by kernel_rfl) rfl (by kernel_rfl) (fun _ _ => rfl) fun _ _ _ _ => by kernel_rfl⟩
def zqdv : zqdl := fun d k =>
 zqc4 d.1 (fun rcount =>
 let n := (IntKind.i64.wrap ((IntKind.i64.wrap (rcount + d.2.2)) - (1 : Int)));
 zqdt (fun n2 =>
 k n2) n (1 : Int) d)
def zqdw : zqdl := hid zqdv
noncomputable def zqdx : En := ⟨160, .spec (sg [v36y] [] [v19y] [] zqdw), pf zqdm [zqdu] [.tmp 2] Tryz.func160 (by kernel_rfl) fun _ _ => by kernel_rfl⟩
abbrev zqdy := {β : Type} → t3y → (Int → Bool → Option β) → Option β
def zqdz : zqdy := fun s k =>
 zqdf s (fun rnumber rnumber2 =>
 cond rnumber2
 (let t := (decide ((List.length s : Int) = (2 : Int)));
 k rnumber t)
 (k rnumber false))
def zqe0 : zqdy := hid zqdz
noncomputable def zqe1 : En := ⟨170, .spec (sg [v26y] [] [v19y, v21y] [] zqe0), pf [zqdg] [] [.tmp 2, .tmp 3] Tryz.func170 (by kernel_rfl) fun _ _ => by kernel_rfl⟩
abbrev zqe2 := {β : Type} → (Int × t5y) → (Int → Int → Option β) → Option β
def zqe3 : zqe2 := fun d k =>
 zqdj d (fun rValid =>
 cond (!rValid)
 (k (0 : Int) (1 : Int))
 (zqdw d (fun rnumber =>
 k rnumber (0 : Int))))
def zqe4 : zqe2 := hid zqe3
noncomputable def zqe5 : En := ⟨171, .spec (sg [v36y] [] [v19y, v19y] [] zqe4), pf [zqdk, zqdx] [] [.tmp 2, .tmp 3] Tryz.func171 (by kernel_rfl) fun _ _ => by kernel_rfl⟩
abbrev zqe6 := {β : Type} → (List zqc) → t3y → (Int → t3y → Option β) → Option β
noncomputable def zqe7 : List En := [zq6e]
abbrev zqe8 (β : Type) := Int → t3y → Option β
abbrev zqe9 (β : Type) := t3y → Option β
abbrev zqea (β : Type) := (List zqc) → Int → Int → t3y → Option β
noncomputable def zqeb : Pc := ⟨19, 1, Q7 26 (Q5 Tryz.f115), ⟨1, [0, 1, 7, 8], [(false, [.data (.slice zqd)]), (false, [.fn 116 [0]]), v19y, v19y], [b29y]⟩, [(.ret, ⟨1, [4], [v19y], [b29y]⟩), (.exit 0, ⟨1, [], [], [b29y]⟩)]⟩
def zqec {β : Type} (rec : zqea β) (k1 : zqe8 β) (k2 : zqe9 β) : zqea β := fun s t7 t8 b0_ =>
 cond (decide (t8 < t7))
 (cond (decide (0 ≤ t8) && decide (t8 < (List.length s : Int)))
 (let e := List.getD s (Int.toNat t8) (([] : List UInt8), (([] : List Int), false));
 zq6d e b0_ (fun rforms1 mrforms1 =>
 cond rforms1
 (k1 t8 mrforms1)
 (rec s t7 (IntKind.i64.wrap (t8 + (1 : Int))) mrforms1)))
 none)
 (k2 b0_)
def zqed (m : Nat) {β : Type} (k1 : zqe8 β) (k2 : zqe9 β) : zqea β := lp4 (fun r => zqec r k1 k2) none m
theorem zqee {β : Type} (i : Nat) (k1 k2) : zqed (β := β) (i + 1) k1 k2 = zqec (zqed i k1 k2) k1 k2 := rfl
def zqef {β : Type} := hid (zqed (β := β) fuel)
noncomputable def zqeg : Pb := ⟨26, zqeb, fun _ => zqef, pl (p := zqeb) zqe7 [] (g := fun i _ => zqed i) (by kernel_rfl) rfl (by kernel_rfl) (fun _ _ => rfl) fun _ _ _ _ => by kernel_rfl⟩
def zqeh : zqe6 := fun s b0_ k =>
 zqef (fun t4 b0_2 =>
 k t4 b0_2) (fun b0_2 =>
 k (-1 : Int) b0_2) s (List.length s : Int) (0 : Int) b0_
def zqei : zqe6 := hid zqeh
noncomputable def zqej : En := ⟨115, .spec (sg [(false, [.data (.slice zqd)]), (false, [.fn 116 [0]])] [b29y] [v19y] [b29y] zqei), pf zqe7 [zqeg] [.tmp 4] Tryz.func115 (by kernel_rfl) fun _ _ => by kernel_rfl⟩
abbrev zqek := {β : Type} → zqg → zqg → (Bool → Option β) → Option β
noncomputable def zqel : List En := [zq2r, zqas, zq2e, zq21]
abbrev zqem (β : Type) := Bool → Option β
abbrev zqen (β : Type) := zqg → zqg → Option β
abbrev zqeo (β : Type) := Int → zqg → zqg → Option β
noncomputable def zqep : Pc := ⟨180, 0, Q7 58 (Q5 Tryz.f14), ⟨0, [2, 3, 5], [v23y, v32y, v19y], [b22y, b22y]⟩, [(.ret, ⟨0, [4], [v21y], []⟩), (.exit 0, ⟨0, [2, 3], [v23y, v32y], [b22y, b22y]⟩)]⟩
abbrev zqeq (β : Type) := Bool → Option β
abbrev zqer (β : Type) := zqg → zqg → Option β
abbrev zqes (β : Type) := Int → zqg → zqg → Option β
noncomputable def zqet : Pc := ⟨180, 0, Q7 122 (Q5 Tryz.f14), ⟨0, [2, 3, 6], [v23y, v32y, v19y], [b22y, b22y]⟩, [(.ret, ⟨0, [4], [v21y], []⟩), (.exit 2, ⟨0, [2, 3], [v23y, v32y], [b22y, b22y]⟩)]⟩
abbrev zqeu (β : Type) := Bool → Option β
abbrev zqev (β : Type) := zqg → zqg → Option β
abbrev zqew (β : Type) := Int → zqg → zqg → Option β
noncomputable def zqex : Pc := ⟨180, 0, Q7 250 (Q5 Tryz.f14), ⟨0, [2, 3, 9], [v23y, v32y, v19y], [b22y, b22y]⟩, [(.ret, ⟨0, [4], [v21y], []⟩), (.exit 4, ⟨0, [2, 3], [v23y, v32y], [b22y, b22y]⟩)]⟩
abbrev zqey (β : Type) := Bool → Option β
abbrev zqez (β : Type) := Unit → Option β
abbrev zqf0 (β : Type) := Int → zqg → zqg → Option β
noncomputable def zqf1 : Pc := ⟨180, 0, Q7 506 (Q5 Tryz.f14), ⟨0, [2, 3, 12], [v23y, v32y, v19y], [b22y, b22y]⟩, [(.ret, ⟨0, [4], [v21y], []⟩), (.exit 6, ⟨0, [], [], []⟩)]⟩
def zqf2 {β : Type} (rec : zqeo β) (k1 : zqem β) (k2 : zqen β) : zqeo β := fun i_ a b =>
 cond (decide (i_ < (List.length a.1 : Int)))
 (cond (decide (0 ≤ i_) && decide (i_ < (List.length a.1 : Int)))
 (let e := List.getD a.1 (Int.toNat i_) (([] : List UInt8), ((0 : Int), ([] : List zq8)));
 cond (decide (0 ≤ i_) && decide (i_ < (List.length b.1 : Int)))
 (let e2 := List.getD b.1 (Int.toNat i_) (([] : List UInt8), ((0 : Int), ([] : List zq8)));
 zq20 e e2 (fun rsameZone =>
 cond (!rsameZone)
 (k1 false)
 (let i_2 := (IntKind.i64.wrap (i_ + (1 : Int)));
 rec i_2 a b)))
 none)
 none)
 (k2 a b)
def zqf3 (m : Nat) {β : Type} (k1 : zqem β) (k2 : zqen β) : zqeo β := lp3 (fun r => zqf2 r k1 k2) none m
theorem zqf4 {β : Type} (i : Nat) (k1 k2) : zqf3 (β := β) (i + 1) k1 k2 = zqf2 (zqf3 i k1 k2) k1 k2 := rfl
def zqf5 {β : Type} := hid (zqf3 (β := β) fuel)
noncomputable def zqf6 : Pb := ⟨58, zqep, fun _ => zqf5, pl (p := zqep) zqel [] (g := fun i _ => zqf3 i) (by kernel_rfl) rfl (by kernel_rfl) (fun _ _ => rfl) fun _ _ _ _ => by kernel_rfl⟩
def zqf7 {β : Type} (rec : zqes β) (k1 : zqeq β) (k2 : zqer β) : zqes β := fun i_ a b =>
 cond (decide (i_ < (List.length a.2.1 : Int)))
 (cond (decide (0 ≤ i_) && decide (i_ < (List.length a.2.1 : Int)))
 (let e := List.getD a.2.1 (Int.toNat i_) (([] : List UInt8), ((0 : Int), (([] : List t5y), ((0 : Int), ((0 : Int), false)))));
 cond (decide (0 ≤ i_) && decide (i_ < (List.length b.2.1 : Int)))
 (let e2 := List.getD b.2.1 (Int.toNat i_) (([] : List UInt8), ((0 : Int), (([] : List t5y), ((0 : Int), ((0 : Int), false)))));
 cond (!decide (e.1 = e2.1))
 (k1 false)
 (cond (!decide (e.2.1 = e2.2.1))
 (k1 false)
 (zq2d e.2.2.1 e2.2.2.1 (fun rsameWindows =>
 cond (!rsameWindows)
 (k1 false)
 (cond (!decide (e.2.2.2.1 = e2.2.2.2.1))
 (k1 false)
 (cond (!decide (e.2.2.2.2.1 = e2.2.2.2.2.1))
 (k1 false)
 (cond (!(e.2.2.2.2.2 == e2.2.2.2.2.2))
 (k1 false)
 (let i_2 := (IntKind.i64.wrap (i_ + (1 : Int)));
 rec i_2 a b))))))))
 none)
 none)
 (k2 a b)
def zqf8 (m : Nat) {β : Type} (k1 : zqeq β) (k2 : zqer β) : zqes β := lp3 (fun r => zqf7 r k1 k2) none m
theorem zqf9 {β : Type} (i : Nat) (k1 k2) : zqf8 (β := β) (i + 1) k1 k2 = zqf7 (zqf8 i k1 k2) k1 k2 := rfl
def zqfa {β : Type} := hid (zqf8 (β := β) fuel)
noncomputable def zqfb : Pb := ⟨122, zqet, fun _ => zqfa, pl (p := zqet) zqel [] (g := fun i _ => zqf8 i) (by kernel_rfl) rfl (by kernel_rfl) (fun _ _ => rfl) fun _ _ _ _ => by kernel_rfl⟩
def zqfc {β : Type} (rec : zqew β) (k1 : zqeu β) (k2 : zqev β) : zqew β := fun i_ a b =>
 cond (decide (i_ < (List.length a.2.2.1 : Int)))
 (cond (decide (0 ≤ i_) && decide (i_ < (List.length a.2.2.1 : Int)))
 (let e := List.getD a.2.2.1 (Int.toNat i_) (([] : List UInt8), ((0 : Int), ([] : List Int)));
 cond (decide (0 ≤ i_) && decide (i_ < (List.length b.2.2.1 : Int)))
 (let e2 := List.getD b.2.2.1 (Int.toNat i_) (([] : List UInt8), ((0 : Int), ([] : List Int)));
 cond (!decide (e.1 = e2.1))
 (k1 false)
 (cond (!decide (e.2.1 = e2.2.1))
 (k1 false)
 (zq2q e.2.2 e2.2.2 (fun rsameInts =>
 cond (!rsameInts)
 (k1 false)
 (let i_2 := (IntKind.i64.wrap (i_ + (1 : Int)));
 rec i_2 a b)))))
 none)
 none)
 (k2 a b)
def zqfd (m : Nat) {β : Type} (k1 : zqeu β) (k2 : zqev β) : zqew β := lp3 (fun r => zqfc r k1 k2) none m
theorem zqfe {β : Type} (i : Nat) (k1 k2) : zqfd (β := β) (i + 1) k1 k2 = zqfc (zqfd i k1 k2) k1 k2 := rfl
def zqff {β : Type} := hid (zqfd (β := β) fuel)
noncomputable def zqfg : Pb := ⟨250, zqex, fun _ => zqff, pl (p := zqex) zqel [] (g := fun i _ => zqfd i) (by kernel_rfl) rfl (by kernel_rfl) (fun _ _ => rfl) fun _ _ _ _ => by kernel_rfl⟩
def zqfh {β : Type} (rec : zqf0 β) (k1 : zqey β) (k2 : zqez β) : zqf0 β := fun i_ a b =>
 cond (decide (i_ < (List.length a.2.2.2 : Int)))
 (cond (decide (0 ≤ i_) && decide (i_ < (List.length a.2.2.2 : Int)))
 (let e := List.getD a.2.2.2 (Int.toNat i_) (([] : List UInt8), (([] : List zq2), ([] : List t0y)));
 cond (decide (0 ≤ i_) && decide (i_ < (List.length b.2.2.2 : Int)))
 (let e2 := List.getD b.2.2.2 (Int.toNat i_) (([] : List UInt8), (([] : List zq2), ([] : List t0y)));
 zqar e e2 (fun rsameSchedule =>
 cond (!rsameSchedule)
 (k1 false)
 (let i_2 := (IntKind.i64.wrap (i_ + (1 : Int)));
 rec i_2 a b)))
 none)
 none)
 (k2 ())
def zqfi (m : Nat) {β : Type} (k1 : zqey β) (k2 : zqez β) : zqf0 β := lp3 (fun r => zqfh r k1 k2) none m
theorem zqfj {β : Type} (i : Nat) (k1 k2) : zqfi (β := β) (i + 1) k1 k2 = zqfh (zqfi i k1 k2) k1 k2 := rfl
def zqfk {β : Type} := hid (zqfi (β := β) fuel)
noncomputable def zqfl : Pb := ⟨506, zqf1, fun _ => zqfk, pl (p := zqf1) zqel [] (g := fun i _ => zqfi i) (by kernel_rfl) rfl (by kernel_rfl) (fun _ _ => rfl) fun _ _ _ _ => by kernel_rfl⟩
def zqfm : zqek := fun a b k =>
 cond (!decide ((List.length a.1 : Int) = (List.length b.1 : Int)))
 (k false)
 (cond (!decide ((List.length a.2.1 : Int) = (List.length b.2.1 : Int)))
 (k false)
 (cond (!decide ((List.length a.2.2.1 : Int) = (List.length b.2.2.1 : Int)))
 (k false)
 (cond (!decide ((List.length a.2.2.2 : Int) = (List.length b.2.2.2 : Int)))
 (k false)
 (zqf5 (fun t4 =>
 k t4) (fun a2 b2 =>
 zqfa (fun t4 =>
 k t4) (fun a3 b3 =>
 zqff (fun t4 =>
 k t4) (fun a4 b4 =>
 zqfk (fun t4 =>
 k t4) (fun _ =>
 k true) (0 : Int) a4 b4) (0 : Int) a3 b3) (0 : Int) a2 b2) (0 : Int) a b))))
def zqfn : zqek := hid zqfm
noncomputable def zqfo : En := ⟨14, .spec (sg [v34y, v34y] [] [v21y] [] zqfn), pf zqel [zqf6, zqfb, zqfg, zqfl] [.tmp 4] Tryz.func14 (by kernel_rfl) fun _ _ => by kernel_rfl⟩
abbrev zqfp := {β : Type} → t3y → (List t9y) → (Int → (List t9y) → Option β) → Option β
def zqfq : zqfp := fun s seen k =>
 zqb5 s (fun rName =>
 cond (!rName)
 (k (2 : Int) seen)
 (let g := (mGet .str seen s false);
 cond g
 (k (4 : Int) seen)
 (let m_ := (mPut .str seen s true);
 k (0 : Int) m_)))
def zqfr : zqfp := hid zqfq
theorem zqfs : SpecOkB Tryz.prog 21 (sg [v26y, (false, [.maph 0])] [.map 66 .str .bool false] [v19y] [.map 66 .str .bool false] zqfr) := pfB [zqb6] [] [.tmp 4] Tryz.func21 (by kernel_rfl) fun _ _ => by kernel_rfl
noncomputable def zqft : En := .hand zqfs rfl (by kernel_rfl)
abbrev zqfu := {β : Type} → zqg → zqe → (Int → Option β) → Option β
def zqfv : zqfu := fun c p_ k =>
 zq42 p_.2.1 (List.length c.1 : Int) (fun rindex =>
 cond (!rindex)
 (k (3 : Int))
 (zq4m p_.2.2.1 (fun rCheck =>
 let t := (!decide (rCheck = (0 : Int)));
 cond t
 (k (8 : Int))
 (zqb9 p_.2.2.2.1 (fun rhours =>
 cond (!rhours)
 (k (1 : Int))
 (zqb9 p_.2.2.2.2.1 (fun rhours2 =>
 cond (!rhours2)
 (k (1 : Int))
 (k (0 : Int)))))))))
def zqfw : zqfu := hid zqfv
noncomputable def zqfx : En := ⟨22, .spec (sg [v34y, (true, [.data zqf])] [] [v19y] [] zqfw), pf [zqba, zq43, zq4n] [] [.tmp 4] Tryz.func22 (by kernel_rfl) fun _ _ => by kernel_rfl⟩
abbrev zqfy := {β : Type} → Int → ((Int × t5y) → Int → Option β) → Option β
noncomputable def zqfz : List En := [zqcm, zqc5, zqci]
abbrev zqg0 (β : Type) := Int → (Int × t5y) → (Int × t5y) → Option β
abbrev zqg1 (β : Type) := Int → (Int × t5y) → (Int × t5y) → Option β
noncomputable def zqg2 : Pc := ⟨45, 0, Q7 124 (Q5 Tryz.f83), ⟨0, [2, 4, 5], [v23y, v32y, v19y], [b33y, b33y]⟩, [(.exit 0, ⟨0, [2, 4, 5], [v23y, v32y, v19y], [b33y, b33y]⟩)]⟩
def zqg3 {β : Type} (rec : zqg1 β) (k1 : zqg0 β) : zqg1 β := fun rest t2 d =>
 zqcl d.1 d.2.1 (fun rDays =>
 cond (decide (rDays ≤ rest))
 (zqcl d.1 d.2.1 (fun rDays2 =>
 let rest2 := (IntKind.i64.wrap (rest - rDays2));
 rec rest2 t2 (d.1, ((IntKind.i64.wrap (d.2.1 + (1 : Int))), d.2.2))))
 (k1 rest t2 d))
def zqg4 (m : Nat) {β : Type} (k1 : zqg0 β) : zqg1 β := lp3 (fun r => zqg3 r k1) none m
theorem zqg5 {β : Type} (i : Nat) (k1) : zqg4 (β := β) (i + 1) k1 = zqg3 (zqg4 i k1) k1 := rfl
def zqg6 {β : Type} := hid (zqg4 (β := β) fuel)
noncomputable def zqg7 : Pb := ⟨124, zqg2, fun _ => zqg6, pl (p := zqg2) zqfz [] (g := fun i _ => zqg4 i) (by kernel_rfl) rfl (by kernel_rfl) (fun _ _ => rfl) fun _ _ _ _ => by kernel_rfl⟩
def zqg8 : zqfy := fun day k =>
 zqc4 (1970 : Int) (fun rcount =>
 cond (decide (day < rcount))
 (k ((0 : Int), ((0 : Int), (0 : Int))) (1 : Int))
 (zqc4 (2241 : Int) (fun rcount2 =>
 cond (decide (rcount2 ≤ day))
 (k ((0 : Int), ((0 : Int), (0 : Int))) (1 : Int))
 (zqch day (fun ryear =>
 zqc4 ryear (fun rcount3 =>
 let rest := (IntKind.i64.wrap (day - rcount3));
 zqg6 (fun rest2 t2 d =>
 k (d.1, (d.2.1, (IntKind.i64.wrap (rest2 + (1 : Int))))) (0 : Int)) rest ((0 : Int), ((0 : Int), (0 : Int))) (ryear, ((1 : Int), (0 : Int)))))))))
def zqg9 : zqfy := hid zqg8
noncomputable def zqga : En := ⟨83, .spec (sg [v19y] [] [v36y, v19y] [] zqg9), pf zqfz [zqg7] [.cell 2 146, .tmp 3] Tryz.func83 (by kernel_rfl) fun _ _ => by kernel_rfl⟩
abbrev zqgb := {β : Type} → t3y → (zqc → Bool → Option β) → Option β
def zqgc : zqgb := fun word k =>
 let l := ([(0 : Int), (4 : Int)] : List Int);
 let l2 := ([(1 : Int), (1 : Int), (0 : Int), (0 : Int), (0 : Int), (2 : Int), (4 : Int)] : List Int);
 let l3 := ([(0 : Int), (0 : Int)] : List Int);
 let l4 := ([(0 : Int), (2 : Int), (0 : Int), (2 : Int)] : List Int);
 let l5 := ([(0 : Int), (0 : Int)] : List Int);
 let l6 := ([(3 : Int)] : List Int);
 let l7 := ([(0 : Int)] : List Int);
 let l8 := ([(0 : Int), (0 : Int), (3 : Int), (2 : Int), (1 : Int), (0 : Int)] : List Int);
 let l9 := ([(0 : Int)] : List Int);
 let l10 := ([(0 : Int), (2 : Int), (0 : Int), (2 : Int)] : List Int);
 let l11 := ([(0 : Int)] : List Int);
 let l12 := ([(0 : Int)] : List Int);
 let l13 := ([(0 : Int), (5 : Int), (5 : Int)] : List Int);
 let l14 := ([(0 : Int), (5 : Int), (5 : Int)] : List Int);
 let l15 := ([(0 : Int), (0 : Int), (5 : Int), (5 : Int)] : List Int);
 let l16 := ([(([122, 111, 110, 101] : List UInt8), (l, false)), (([114, 117, 108, 101] : List UInt8), (l2, false)), (([112, 101, 114, 115, 111, 110] : List UInt8), (l3, false)), (([113, 117, 105, 101, 116] : List UInt8), (l4, false)), (([99, 97, 108, 101, 110, 100, 97, 114] : List UInt8), (l5, false)), (([100, 97, 121, 115] : List UInt8), (l6, true)), (([115, 99, 104, 101, 100, 117, 108, 101] : List UInt8), (l7, false)), (([108, 97, 121, 101, 114] : List UInt8), (l8, false)), (([109, 101, 109, 98, 101, 114] : List UInt8), (l9, true)), (([111, 110] : List UInt8), (l10, false)), (([110, 111, 116] : List UInt8), (l11, false)), (([111, 110, 108, 121] : List UInt8), (l12, false)), (([108, 101, 97, 118, 101] : List UInt8), (l13, false)), (([111, 118, 101, 114, 114, 105, 100, 101] : List UInt8), (l14, false)), (([115, 119, 97, 112] : List UInt8), (l15, false))] : List zqc);
 zqei l16 word (fun rform mrform =>
 cond (decide (rform < (0 : Int)))
 (k zqj false)
 (cond (decide (0 ≤ rform) && decide (rform < (List.length l16 : Int)))
 (k (List.getD l16 (Int.toNat rform) (([] : List UInt8), (([] : List Int), false))) true)
 none))
def zqgd : zqgb := hid zqgc
noncomputable def zqge : En := ⟨89, .spec (sg [v26y] [] [(true, [.data zqd]), v21y] [] zqgd), pf [zqej] [] [.cell 2 156, .tmp 3] Tryz.func89 (by kernel_rfl) fun _ _ => by kernel_rfl⟩
abbrev zqgf := {β : Type} → t7y → t6y → t4y → t2y → t1y → (Int → t6y → t4y → t2y → t1y → Option β) → Option β
def zqgg : zqgf := fun l b1_ b2_ b3_ b4_ k =>
 cond (decide (0 ≤ (3 : Int)) && decide ((3 : Int) < (List.length l : Int)))
 (let e := List.getD l (Int.toNat (3 : Int)) ((0 : Int), (([] : List UInt8), (0 : Int)));
 zqcp e.2.1 (fun rMonth rMonth2 =>
 cond (decide (0 ≤ (4 : Int)) && decide ((4 : Int) < (List.length l : Int)))
 (let e2 := List.getD l (Int.toNat (4 : Int)) ((0 : Int), (([] : List UInt8), (0 : Int)));
 zqct e2.2.1 (fun rOrdinal rOrdinal2 =>
 cond (decide (0 ≤ (5 : Int)) && decide ((5 : Int) < (List.length l : Int)))
 (let e3 := List.getD l (Int.toNat (5 : Int)) ((0 : Int), (([] : List UInt8), (0 : Int)));
 zqcx e3.2.1 (fun rWeekday rWeekday2 =>
 cond (!rMonth2)
 (k (2 : Int) b1_ b2_ b3_ b4_)
 (cond (!rOrdinal2)
 (k (2 : Int) b1_ b2_ b3_ b4_)
 (cond (!rWeekday2)
 (k (2 : Int) b1_ b2_ b3_ b4_)
 (cond (decide ((List.length b1_ : Int) = (0 : Int)))
 (k (9 : Int) b1_ b2_ b3_ b4_)
 (let i_ := (IntKind.i64.wrap ((List.length b1_ : Int) - (1 : Int)));
 cond (decide (0 ≤ i_) && decide (i_ < (List.length b1_ : Int)))
 (let e4 := List.getD b1_ (Int.toNat i_) (([] : List UInt8), ((0 : Int), ([] : List zq8)));
 cond (decide (0 ≤ (1 : Int)) && decide ((1 : Int) < (List.length l : Int)))
 (let e5 := List.getD l (Int.toNat (1 : Int)) ((0 : Int), (([] : List UInt8), (0 : Int)));
 cond (decide (0 ≤ (2 : Int)) && decide ((2 : Int) < (List.length l : Int)))
 (let e6 := List.getD l (Int.toNat (2 : Int)) ((0 : Int), (([] : List UInt8), (0 : Int)));
 cond (decide (0 ≤ (6 : Int)) && decide ((6 : Int) < (List.length l : Int)))
 (let e7 := List.getD l (Int.toNat (6 : Int)) ((0 : Int), (([] : List UInt8), (0 : Int)));
 cond (decide (0 ≤ (7 : Int)) && decide ((7 : Int) < (List.length l : Int)))
 (let e8 := List.getD l (Int.toNat (7 : Int)) ((0 : Int), (([] : List UInt8), (0 : Int)));
 let l2 := ([(e5.2.2, (e6.2.2, (rMonth, (rOrdinal, (rWeekday, (e7.2.2, e8.2.2))))))] : List zq8);
 let l3 := ((List.getD b1_ (Int.toNat i_) (([] : List UInt8), ((0 : Int), ([] : List zq8)))).2).2;
 cond (true && decide ((List.length l3 + List.length l2) * 56 ≤ Qc))
 (let l4 := (l3 ++ l2);
 let e9 := List.getD b1_ (Int.toNat i_) (([] : List UInt8), ((0 : Int), ([] : List zq8)));
 let l5 := List.set b1_ (Int.toNat i_) (e9.1, (e9.2.1, l4));
 cond (decide ((Int.toNat i_) = (Int.toNat i_)) && (true && true))
 (k (0 : Int) l5 b2_ b3_ b4_)
 none)
 none)
 none)
 none)
 none)
 none)
 none))))))
 none))
 none))
 none
def zqgh : zqgf := hid zqgg
theorem zqgi : SpecOkB Tryz.prog 92 (sg [v23y, v25y] l49y [v19y] l49y zqgh) := Q1v mixed (X := ⟨look tab, gam [zq6j, zq6k, zqcq, zqcu, zqcy], false, false, false, false, q63y, none, 0, []⟩) Qe [zq6j, zq6k, zqcq, zqcu, zqcy] rfl [] [.tmp 4] Tryz.func92 (by kernel_rfl) fun _ _ => by kernel_rfl
noncomputable def zqgj : En := .hand zqgi rfl (by kernel_rfl)
abbrev zqgk := {β : Type} → t7y → t6y → t4y → t2y → t1y → (Int → t6y → t4y → t2y → t1y → Option β) → Option β
def zqgl : zqgk := fun l b1_ b2_ b3_ b4_ k =>
 zqd1 l (fun rwindow rwindow2 =>
 cond (decide ((List.length b2_ : Int) = (0 : Int)))
 (cond (decide (rwindow2 = (0 : Int)))
 (k (9 : Int) b1_ b2_ b3_ b4_)
 (cond (!decide (rwindow2 = (0 : Int)))
 (k rwindow2 b1_ b2_ b3_ b4_)
 (none)))
 (let i_ := (IntKind.i64.wrap ((List.length b2_ : Int) - (1 : Int)));
 cond (decide (0 ≤ i_) && decide (i_ < (List.length b2_ : Int)))
 (cond (decide (rwindow2 = (0 : Int)))
 (let e := List.getD b2_ (Int.toNat i_) (([] : List UInt8), ((0 : Int), (([] : List t5y), ((0 : Int), ((0 : Int), false)))));
 let l2 := ([rwindow] : List t5y);
 let l3 := (((List.getD b2_ (Int.toNat i_) (([] : List UInt8), ((0 : Int), (([] : List t5y), ((0 : Int), ((0 : Int), false)))))).2).2).1;
 cond (true && decide ((List.length l3 + List.length l2) * 16 ≤ Qc))
 (let l4 := (l3 ++ l2);
 let e2 := List.getD b2_ (Int.toNat i_) (([] : List UInt8), ((0 : Int), (([] : List t5y), ((0 : Int), ((0 : Int), false)))));
 let l5 := List.set b2_ (Int.toNat i_) (e2.1, (e2.2.1, (l4, e2.2.2.2)));
 cond (decide ((Int.toNat i_) = (Int.toNat i_)) && (true && true))
 (k (0 : Int) b1_ l5 b3_ b4_)
 none)
 none)
 (cond (!decide (rwindow2 = (0 : Int)))
 (k rwindow2 b1_ b2_ b3_ b4_)
 (let e := List.getD b2_ (Int.toNat i_) (([] : List UInt8), ((0 : Int), (([] : List t5y), ((0 : Int), ((0 : Int), false)))));
 let l2 := ([rwindow] : List t5y);
 let l3 := (((List.getD b2_ (Int.toNat i_) (([] : List UInt8), ((0 : Int), (([] : List t5y), ((0 : Int), ((0 : Int), false)))))).2).2).1;
 cond (true && decide ((List.length l3 + List.length l2) * 16 ≤ Qc))
 (let l4 := (l3 ++ l2);
 let e2 := List.getD b2_ (Int.toNat i_) (([] : List UInt8), ((0 : Int), (([] : List t5y), ((0 : Int), ((0 : Int), false)))));
 let l5 := List.set b2_ (Int.toNat i_) (e2.1, (e2.2.1, (l4, e2.2.2.2)));
 cond (decide ((Int.toNat i_) = (Int.toNat i_)) && (true && true))
 (k (0 : Int) b1_ l5 b3_ b4_)
 none)
 none)))
 none))
def zqgm : zqgk := hid zqgl
theorem zqgn : SpecOkB Tryz.prog 94 (sg [v23y, v25y] l49y [v19y] l49y zqgm) := Q1v mixed (X := ⟨look tab, gam [zq7a, zq7b, zqd2], false, false, false, false, q63y, none, 0, []⟩) Qe [zq7a, zq7b, zqd2] rfl [] [.tmp 4] Tryz.func94 (by kernel_rfl) fun _ _ => by kernel_rfl
noncomputable def zqgo : En := .hand zqgn rfl (by kernel_rfl)
abbrev zqgp := {β : Type} → t7y → t6y → t4y → t2y → t1y → (Int → t6y → t4y → t2y → t1y → Option β) → Option β
def zqgq : zqgp := fun l b1_ b2_ b3_ b4_ k =>
 zqd1 l (fun rwindow rwindow2 =>
 cond (decide ((List.length b4_ : Int) = (0 : Int)))
 (cond (decide (rwindow2 = (0 : Int)))
 (k (9 : Int) b1_ b2_ b3_ b4_)
 (cond (!decide (rwindow2 = (0 : Int)))
 (k rwindow2 b1_ b2_ b3_ b4_)
 (none)))
 (let i_ := (IntKind.i64.wrap ((List.length b4_ : Int) - (1 : Int)));
 cond (decide (0 ≤ i_) && decide (i_ < (List.length b4_ : Int)))
 (let e := List.getD b4_ (Int.toNat i_) (([] : List UInt8), (([] : List zq2), ([] : List t0y)));
 let l2 := ((List.getD b4_ (Int.toNat i_) (([] : List UInt8), (([] : List zq2), ([] : List t0y)))).2).1;
 cond (decide ((List.length l2 : Int) = (0 : Int)))
 (cond (decide (rwindow2 = (0 : Int)))
 (k (9 : Int) b1_ b2_ b3_ b4_)
 (cond (!decide (rwindow2 = (0 : Int)))
 (k rwindow2 b1_ b2_ b3_ b4_)
 (none)))
 (let l3 := ((List.getD b4_ (Int.toNat i_) (([] : List UInt8), (([] : List zq2), ([] : List t0y)))).2).1;
 let l4 := ((List.getD b4_ (Int.toNat i_) (([] : List UInt8), (([] : List zq2), ([] : List t0y)))).2).1;
 let i_2 := (IntKind.i64.wrap ((List.length l3 : Int) - (1 : Int)));
 cond (decide (0 ≤ i_2) && decide (i_2 < (List.length l4 : Int)))
 (let j := Int.toNat i_2;
 cond (decide (rwindow2 = (0 : Int)))
 (let l5 := ((List.getD b4_ (Int.toNat i_) (([] : List UInt8), (([] : List zq2), ([] : List t0y)))).2).1;
 let e2 := List.getD l5 j zqq;
 let l6 := ([rwindow] : List t5y);
 let l7 := (((((((List.getD (((List.getD b4_ (Int.toNat i_) (([] : List UInt8), (([] : List zq2), ([] : List t0y)))).2).1) j zqq).2).2).2).2).2).2).1;
 cond (true && decide ((List.length l7 + List.length l6) * 16 ≤ Qc))
 (let l8 := (l7 ++ l6);
 let e3 := List.getD b4_ (Int.toNat i_) (([] : List UInt8), (([] : List zq2), ([] : List t0y)));
 let e4 := List.getD e3.2.1 j zqq;
 let l9 := List.set e3.2.1 j (e4.1, (e4.2.1, (e4.2.2.1, (e4.2.2.2.1, (e4.2.2.2.2.1, (e4.2.2.2.2.2.1, (l8, e4.2.2.2.2.2.2.2)))))));
 let l10 := List.set b4_ (Int.toNat i_) (e3.1, (l9, e3.2.2));
 cond (decide ((Int.toNat i_) = (Int.toNat i_)) && (true && (decide (j = j) && (true && true))))
 (k (0 : Int) b1_ b2_ b3_ l10)
 none)
 none)
 (cond (!decide (rwindow2 = (0 : Int)))
 (k rwindow2 b1_ b2_ b3_ b4_)
 (let l5 := ((List.getD b4_ (Int.toNat i_) (([] : List UInt8), (([] : List zq2), ([] : List t0y)))).2).1;
 let e2 := List.getD l5 j zqq;
 let l6 := ([rwindow] : List t5y);
 let l7 := (((((((List.getD (((List.getD b4_ (Int.toNat i_) (([] : List UInt8), (([] : List zq2), ([] : List t0y)))).2).1) j zqq).2).2).2).2).2).2).1;
 cond (true && decide ((List.length l7 + List.length l6) * 16 ≤ Qc))
 (let l8 := (l7 ++ l6);
 let e3 := List.getD b4_ (Int.toNat i_) (([] : List UInt8), (([] : List zq2), ([] : List t0y)));
 let e4 := List.getD e3.2.1 j zqq;
 let l9 := List.set e3.2.1 j (e4.1, (e4.2.1, (e4.2.2.1, (e4.2.2.2.1, (e4.2.2.2.2.1, (e4.2.2.2.2.2.1, (l8, e4.2.2.2.2.2.2.2)))))));
 let l10 := List.set b4_ (Int.toNat i_) (e3.1, (l9, e3.2.2));
 cond (decide ((Int.toNat i_) = (Int.toNat i_)) && (true && (decide (j = j) && (true && true))))
 (k (0 : Int) b1_ b2_ b3_ l10)
 none)
 none)))
 none))
 none))
def zqgr : zqgp := hid zqgq
theorem zqgs : SpecOkB Tryz.prog 100 (sg [v23y, v25y] l49y [v19y] l49y zqgr) := Q1v mixed (X := ⟨look tab, gam [zq7u, zq7v, zqd2], false, false, false, false, q63y, none, 0, []⟩) Qe [zq7u, zq7v, zqd2] rfl [] [.tmp 4] Tryz.func100 (by kernel_rfl) fun _ _ => by kernel_rfl
noncomputable def zqgt : En := .hand zqgs rfl (by kernel_rfl)
abbrev zqgu := {β : Type} → Int → Int → Int → Int → (Int → Int → Option β) → Option β
def zqgv : zqgu := fun year month week weekday k =>
 zqdj (year, (month, (1 : Int))) (fun rValid =>
 cond (!rValid)
 (k (0 : Int) (1 : Int))
 (cond (decide (week < (1 : Int)))
 (k (0 : Int) (1 : Int))
 (cond (decide ((5 : Int) < week))
 (k (0 : Int) (1 : Int))
 (cond (decide (weekday < (0 : Int)))
 (k (0 : Int) (1 : Int))
 (cond (decide ((6 : Int) < weekday))
 (k (0 : Int) (1 : Int))
 (zqdw (year, (month, (1 : Int))) (fun rnumber =>
 zq96 rnumber (fun rWeekday =>
 let day := (IntKind.i64.wrap ((IntKind.i64.wrap (rnumber + (Int.tmod (IntKind.i64.wrap ((IntKind.i64.wrap (weekday - rWeekday)) + (7 : Int))) (7 : Int)))) + (IntKind.i64.wrap ((7 : Int) * (IntKind.i64.wrap (week - (1 : Int)))))));
 zqcl year month (fun rDays =>
 cond (decide ((IntKind.i64.wrap (rnumber + rDays)) ≤ day))
 (let day2 := (IntKind.i64.wrap (day - (7 : Int)));
 k day2 (0 : Int))
 (k day (0 : Int)))))))))))
def zqgw : zqgu := hid zqgv
noncomputable def zqgx : En := ⟨137, .spec (sg [v19y, v19y, v19y, v19y] [] [v19y, v19y] [] zqgw), pf [zqcm, zqdk, zq97, zqdx] [] [.tmp 8, .tmp 9] Tryz.func137 (by kernel_rfl) fun _ _ => by kernel_rfl⟩
abbrev zqgy := {β : Type} → t3y → (Int → Bool → Option β) → Option β
def zqgz : zqgy := fun s k =>
 cond (!decide ((List.length s : Int) = (10 : Int)))
 (k (0 : Int) false)
 (cond (decide (0 ≤ (4 : Int)) && decide ((4 : Int) < (List.length s : Int)))
 (cond (!decide (((List.getD s (Int.toNat (4 : Int)) 0).toNat : Int) = (45 : Int)))
 (k (0 : Int) false)
 (cond (decide (0 ≤ (7 : Int)) && decide ((7 : Int) < (List.length s : Int)))
 (cond (!decide (((List.getD s (Int.toNat (7 : Int)) 0).toNat : Int) = (45 : Int)))
 (k (0 : Int) false)
 (cond (decide (0 ≤ (0 : Int)) && (decide ((0 : Int) ≤ (4 : Int)) && decide ((4 : Int) ≤ (List.length s : Int))))
 (zqdf (List.drop (Int.toNat (0 : Int)) (List.take (Int.toNat (4 : Int)) s)) (fun rnumber rnumber2 =>
 cond (decide (0 ≤ (5 : Int)) && (decide ((5 : Int) ≤ (7 : Int)) && decide ((7 : Int) ≤ (List.length s : Int))))
 (zqe0 (List.drop (Int.toNat (5 : Int)) (List.take (Int.toNat (7 : Int)) s)) (fun rtwo rtwo2 =>
 cond (decide (0 ≤ (8 : Int)) && (decide ((8 : Int) ≤ (List.length s : Int)) && decide ((List.length s : Int) ≤ (List.length s : Int))))
 (zqe0 (List.drop (Int.toNat (8 : Int)) (List.take (Int.toNat (List.length s : Int)) s)) (fun rtwo3 rtwo4 =>
 zqe4 (rnumber, (rtwo, rtwo3)) (fun rDay rDay2 =>
 cond rnumber2
 (cond rtwo2
 (cond rtwo4
 (let t := (decide (rDay2 = (0 : Int)));
 k rDay t)
 (k rDay false))
 (k rDay false))
 (k rDay false))))
 none))
 none))
 none))
 none))
 none)
def zqh0 : zqgy := hid zqgz
noncomputable def zqh1 : En := ⟨150, .spec (sg [v26y] [] [v19y, v21y] [] zqh0), pf [zqe5, zqdg, zqe1] [] [.tmp 2, .tmp 3] Tryz.func150 (by kernel_rfl) fun _ _ => by kernel_rfl⟩
abbrev zqh2 := {β : Type} → t3y → (Int → Bool → Option β) → Option β
noncomputable def zqh3 : List En := [zqe1, zq4y]
abbrev zqh4 (β : Type) := Int → Bool → Option β
abbrev zqh5 (β : Type) := Int → Option β
abbrev zqh6 (β : Type) := Int → Int → Int → (List t3y) → Option β
noncomputable def zqh7 : Pc := ⟨53, 0, Q7 250 (Q5 Tryz.f151), ⟨0, [5, 23, 24, 25], [v19y, v31y, v19y, v19y], [.row 9 .str]⟩, [(.ret, ⟨0, [2, 3], [v19y, v21y], []⟩), (.exit 0, ⟨0, [5], [v19y], []⟩)]⟩
def zqh8 {β : Type} (rec : zqh6 β) (k1 : zqh4 β) (k2 : zqh5 β) : zqh6 β := fun n t24 t25 t23 =>
 cond (decide (t25 < t24))
 (cond (decide (0 ≤ t25) && decide (t25 < (List.length t23 : Int)))
 (let x := (List.getD t23 (Int.toNat t25) ([] : List UInt8));
 zqe0 x (fun rtwo rtwo2 =>
 cond (!rtwo2)
 (k1 (0 : Int) false)
 (cond (decide ((0 : Int) < t25))
 (cond (decide ((59 : Int) < rtwo))
 (k1 (0 : Int) false)
 (let n2 := (IntKind.i64.wrap ((IntKind.i64.wrap ((60 : Int) * n)) + rtwo));
 rec n2 t24 (IntKind.i64.wrap (t25 + (1 : Int))) t23))
 (let n2 := (IntKind.i64.wrap ((IntKind.i64.wrap ((60 : Int) * n)) + rtwo));
 rec n2 t24 (IntKind.i64.wrap (t25 + (1 : Int))) t23))))
 none)
 (k2 n)
def zqh9 (m : Nat) {β : Type} (k1 : zqh4 β) (k2 : zqh5 β) : zqh6 β := lp4 (fun r => zqh8 r k1 k2) none m
theorem zqha {β : Type} (i : Nat) (k1 k2) : zqh9 (β := β) (i + 1) k1 k2 = zqh8 (zqh9 i k1 k2) k1 k2 := rfl
def zqhb {β : Type} := hid (zqh9 (β := β) fuel)
noncomputable def zqhc : Pb := ⟨250, zqh7, fun _ => zqhb, Q8d mixed (X := ⟨look tab, gam zqh3, false, true, false, false, [], none, 0, []⟩) (p := zqh7) Qe zqh3 rfl [] (g := fun i _ => zqh9 i) (by kernel_rfl) rfl (by kernel_rfl) (fun _ _ => rfl) fun _ _ _ _ => by kernel_rfl⟩
def zqhd : zqh2 := fun s k =>
 zq4w s ([58] : List UInt8) (fun lrSplit =>
 cond (decide ((List.length lrSplit : Int) < (2 : Int)))
 (k (0 : Int) false)
 (cond (decide ((3 : Int) < (List.length lrSplit : Int)))
 (k (0 : Int) false)
 (let l := ([([48, 48] : List UInt8)] : List t3y);
 cond (decide ((List.length lrSplit + List.length l) * 16 ≤ Qc))
 (let l2 := (lrSplit ++ l);
 cond (decide (0 ≤ (3 : Int)) && decide ((3 : Int) ≤ (List.length l2 : Int)))
 (let l3 := (List.take (Int.toNat (3 : Int)) l2);
 zqhb (fun t2 t3 =>
 k t2 t3) (fun n =>
 let t := (decide (n ≤ (86400 : Int)));
 k n t) (0 : Int) (List.length l3 : Int) (0 : Int) l3)
 none)
 none)))
def zqhe : zqh2 := hid zqhd
noncomputable def zqhf : En := ⟨151, .spec (sg [v26y] [] [v19y, v21y] [] zqhe), Q9f mixed (X := ⟨look tab, gam zqh3, false, true, false, false, [], none, 0, []⟩) Qe zqh3 rfl [zqhc] [.tmp 2, .tmp 3] Tryz.func151 (by kernel_rfl) fun _ _ => by kernel_rfl⟩
abbrev zqhg := {β : Type} → zqg → t3y → (Int → Bool → Option β) → Option β
def zqhh : zqhg := fun c name k =>
 zq39 c.2.1 name (fun rPerson mrPerson =>
 let t := (if rPerson > (0 : Int) then rPerson else (0 : Int));
 let t2 := (decide ((0 : Int) ≤ rPerson));
 k t t2)
def zqhi : zqhg := hid zqhh
noncomputable def zqhj : En := ⟨16, .spec (sg [v34y, v26y] [] [v19y, v21y] [] zqhi), pf [zq3b] [] [.tmp 4, .tmp 5] Tryz.func16 (by kernel_rfl) fun _ _ => by kernel_rfl⟩
abbrev zqhk := {β : Type} → zqg → t3y → (Int → Bool → Option β) → Option β
def zqhl : zqhk := fun c name k =>
 zq3t c.2.2.2 name (fun rSchedule mrSchedule =>
 let t := (if rSchedule > (0 : Int) then rSchedule else (0 : Int));
 let t2 := (decide ((0 : Int) ≤ rSchedule));
 k t t2)
def zqhm : zqhk := hid zqhl
noncomputable def zqhn : En := ⟨17, .spec (sg [v34y, v26y] [] [v19y, v21y] [] zqhm), pf [zq3v] [] [.tmp 4, .tmp 5] Tryz.func17 (by kernel_rfl) fun _ _ => by kernel_rfl⟩
abbrev zqho := {β : Type} → Int → (Bool → Option β) → Option β
def zqhp : zqho := fun n k =>
 zqg9 n (fun rDateOf rDateOf2 =>
 let t := (decide (rDateOf2 = (0 : Int)));
 k t)
def zqhq : zqho := hid zqhp
noncomputable def zqhr : En := ⟨57, .spec (sg [v19y] [] [v21y] [] zqhq), pf [zqga] [] [.tmp 2] Tryz.func57 (by kernel_rfl) fun _ _ => by kernel_rfl⟩
abbrev zqhs := {β : Type} → zqg → t0y → (Int → Option β) → Option β
noncomputable def zqht : List En := [zqhr, zq5f, zq43]
abbrev zqhu (β : Type) := Int → Option β
abbrev zqhv (β : Type) := Unit → Option β
abbrev zqhw (β : Type) := Bool → t0y → Option β
noncomputable def zqhx : Pc := ⟨83, 0, Q7 14847 (Q5 Tryz.f62), ⟨0, [3, 61], [v23y, v21y], [b24y]⟩, [(.ret, ⟨0, [4], [v19y], []⟩), (.normal, ⟨0, [], [], []⟩)]⟩
abbrev zqhy (β : Type) := Int → Option β
abbrev zqhz (β : Type) := Unit → Option β
abbrev zqi0 (β : Type) := Bool → t0y → Option β
noncomputable def zqi1 : Pc := ⟨83, 0, Q7 3711 (Q5 Tryz.f62), ⟨0, [3, 50], [v23y, v21y], [b24y]⟩, [(.ret, ⟨0, [4], [v19y], []⟩), (.normal, ⟨0, [], [], []⟩)]⟩
abbrev zqi2 (β : Type) := Int → Option β
abbrev zqi3 (β : Type) := Unit → Option β
abbrev zqi4 (β : Type) := Bool → t0y → Option β
noncomputable def zqi5 : Pc := ⟨83, 0, Q7 927 (Q5 Tryz.f62), ⟨0, [3, 41], [v23y, v21y], [b24y]⟩, [(.ret, ⟨0, [4], [v19y], []⟩), (.normal, ⟨0, [], [], []⟩)]⟩
abbrev zqi6 (β : Type) := Int → Option β
abbrev zqi7 (β : Type) := Unit → Option β
abbrev zqi8 (β : Type) := Bool → t0y → Option β
noncomputable def zqi9 : Pc := ⟨83, 0, Q7 231 (Q5 Tryz.f62), ⟨0, [3, 14], [v23y, v21y], [b24y]⟩, [(.ret, ⟨0, [4], [v19y], []⟩), (.normal, ⟨0, [], [], []⟩)]⟩
abbrev zqia (β : Type) := Bool → t0y → Option β
abbrev zqib (β : Type) := Int → Bool → t0y → Option β
noncomputable def zqic : Pc := ⟨83, 0, Q7 461 (Q5 Tryz.f62), ⟨0, [3, 5, 14], [v23y, v19y, v21y], [b24y]⟩, [(.normal, ⟨0, [3, 14], [v23y, v21y], [b24y]⟩)]⟩
def zqid {β : Type} (k1 : zqhu β) (k2 : zqhv β) : zqhw β := fun t61 x =>
 cond t61
 (k1 (1 : Int))
 (let t := (decide (x.2.2.2.2 ≤ x.2.2.2.1));
 cond t
 (k1 (6 : Int))
 (k2 ()))
def zqie {β : Type} := hid (zqid (β := β))
noncomputable def zqif : Pb := ⟨14847, zqhx, fun _ => zqie, pe (p := zqhx) zqht [] 14847 (g := fun _ => zqid) (by kernel_rfl) fun _ _ => by kernel_rfl⟩
def zqig {β : Type} (k1 : zqhy β) (k2 : zqhz β) : zqi0 β := fun t50 x =>
 cond t50
 (k1 (4 : Int))
 (cond (decide (x.2.2.2.1 < (0 : Int)))
 (zqie (fun t4 =>
 k1 t4) (fun _ =>
 k2 ()) true x)
 (cond (decide (x.2.2.2.2 < (0 : Int)))
 (zqie (fun t4 =>
 k1 t4) (fun _ =>
 k2 ()) true x)
 (zqhq (IntKind.i64.wrap (Int.tdiv x.2.2.2.2 (86400 : Int))) (fun rday =>
 zqie (fun t4 =>
 k1 t4) (fun _ =>
 k2 ()) (!rday) x))))
def zqih {β : Type} := hid (zqig (β := β))
noncomputable def zqii : Pb := ⟨3711, zqi1, fun _ => zqih, pe (p := zqi1) zqht [zqif] 3711 (g := fun _ => zqig) (by kernel_rfl) fun _ _ => by kernel_rfl⟩
def zqij {β : Type} (k1 : zqi2 β) (k2 : zqi3 β) : zqi4 β := fun t41 x =>
 cond t41
 (k1 (1 : Int))
 (cond (decide (x.1 = (2 : Int)))
 (let t := (decide (x.2.1 = x.2.2.1));
 zqih (fun t4 =>
 k1 t4) (fun _ =>
 k2 ()) t x)
 (zqih (fun t4 =>
 k1 t4) (fun _ =>
 k2 ()) false x))
def zqik {β : Type} := hid (zqij (β := β))
noncomputable def zqil : Pb := ⟨927, zqi5, fun _ => zqik, pe (p := zqi5) zqht [zqii] 927 (g := fun _ => zqij) (by kernel_rfl) fun _ _ => by kernel_rfl⟩
def zqim {β : Type} (k1 : zqi6 β) (k2 : zqi7 β) : zqi8 β := fun t14 x =>
 cond t14
 (k1 (3 : Int))
 (cond (!decide (x.1 = (2 : Int)))
 (let t := (!decide (x.2.2.1 = (0 : Int)));
 zqik (fun t4 =>
 k1 t4) (fun _ =>
 k2 ()) t x)
 (zqik (fun t4 =>
 k1 t4) (fun _ =>
 k2 ()) false x))
def zqin {β : Type} := hid (zqim (β := β))
noncomputable def zqio : Pb := ⟨231, zqi9, fun _ => zqin, pe (p := zqi9) zqht [zqil] 231 (g := fun _ => zqim) (by kernel_rfl) fun _ _ => by kernel_rfl⟩
def zqip {β : Type} (k1 : zqia β) : zqib β := fun people t14 x =>
 cond t14
 (k1 t14 x)
 (cond (decide (x.1 = (2 : Int)))
 (zq42 x.2.2.1 people (fun rindex =>
 k1 (!rindex) x))
 (k1 false x))
def zqiq {β : Type} := hid (zqip (β := β))
noncomputable def zqir : Pb := ⟨461, zqic, fun _ => zqiq, pe (p := zqic) zqht [] 461 (g := fun _ => zqip) (by kernel_rfl) fun _ _ => by kernel_rfl⟩
def zqis : zqhs := fun c x k =>
 zq5e x.1 (0 : Int) (2 : Int) (fun rin =>
 cond (!rin)
 (k (1 : Int))
 (zq42 x.2.1 (List.length c.2.1 : Int) (fun rindex =>
 cond (!rindex)
 (cond (decide (x.1 = (1 : Int)))
 (let t := (!(decide (x.2.1 = (-1 : Int))));
 zqiq (fun t14 x2 =>
 zqin (fun t4 =>
 k t4) (fun _ =>
 k (0 : Int)) t14 x2) (List.length c.2.1 : Int) t x)
 (zqiq (fun t14 x2 =>
 zqin (fun t4 =>
 k t4) (fun _ =>
 k (0 : Int)) t14 x2) (List.length c.2.1 : Int) true x))
 (zqiq (fun t14 x2 =>
 zqin (fun t4 =>
 k t4) (fun _ =>
 k (0 : Int)) t14 x2) (List.length c.2.1 : Int) false x))))
def zqit : zqhs := hid zqis
noncomputable def zqiu : En := ⟨62, .spec (sg [v34y, (true, [.data (.prod (.int .i64) (.prod (.int .i64) (.prod (.int .i64) (.prod (.int .i64) (.int .i64)))))])] [] [v19y] [] zqit), pf zqht [zqio, zqir] [.tmp 4] Tryz.func62 (by kernel_rfl) fun _ _ => by kernel_rfl⟩
abbrev zqiv := {β : Type} → t7y → (Bool → Option β) → Option β
noncomputable def zqiw : List En := [zqge, zqbn]
abbrev zqix (β : Type) := Bool → Option β
abbrev zqiy (β : Type) := Unit → Option β
abbrev zqiz (β : Type) := t7y → Int → Int → zqc → Option β
noncomputable def zqj0 : Pc := ⟨80, 0, Q7 1018 (Q5 Tryz.f65), ⟨0, [3, 59, 60, 61], [v23y, v25y, v19y, v19y], [.cells 156 [.data zqd]]⟩, [(.ret, ⟨0, [2], [v21y], []⟩), (.exit 0, ⟨0, [], [], []⟩)]⟩
abbrev zqj1 (β : Type) := Bool → Option β
abbrev zqj2 (β : Type) := t7y → zqc → Option β
noncomputable def zqj3 : Pc := ⟨80, 0, Q7 127 (Q5 Tryz.f65), ⟨0, [0, 3], [v25y, v23y], [.cells 156 [.data zqd]]⟩, [(.ret, ⟨0, [2], [v21y], []⟩)]⟩
abbrev zqj4 (β : Type) := Bool → Option β
abbrev zqj5 (β : Type) := t7y → zqc → Option β
noncomputable def zqj6 : Pc := ⟨80, 0, Q7 63 (Q5 Tryz.f65), ⟨0, [0, 3], [v25y, v23y], [.cells 156 [.data zqd]]⟩, [(.ret, ⟨0, [2], [v21y], []⟩)]⟩
def zqj7 {β : Type} (rec : zqiz β) (k1 : zqix β) (k2 : zqiy β) : zqiz β := fun t59 t60 t61 f =>
 cond (decide (t61 < t60))
 (cond (decide (0 ≤ t61) && decide (t61 < (List.length t59 : Int)))
 (let e := List.getD t59 (Int.toNat t61) ((0 : Int), (([] : List UInt8), (0 : Int)));
 cond (decide (0 ≤ (if (IntKind.i64.wrap ((List.length f.2.1 : Int) - (1 : Int))) < t61 then (IntKind.i64.wrap ((List.length f.2.1 : Int) - (1 : Int))) else t61)) && decide ((if (IntKind.i64.wrap ((List.length f.2.1 : Int) - (1 : Int))) < t61 then (IntKind.i64.wrap ((List.length f.2.1 : Int) - (1 : Int))) else t61) < (List.length f.2.1 : Int)))
 (let e2 := List.getD f.2.1 (Int.toNat (if (IntKind.i64.wrap ((List.length f.2.1 : Int) - (1 : Int))) < t61 then (IntKind.i64.wrap ((List.length f.2.1 : Int) - (1 : Int))) else t61)) (0 : Int);
 cond (!decide (e.1 = e2))
 (k1 false)
 (rec t59 t60 (IntKind.i64.wrap (t61 + (1 : Int))) f))
 none)
 none)
 (k2 ())
def zqj8 (m : Nat) {β : Type} (k1 : zqix β) (k2 : zqiy β) : zqiz β := lp4 (fun r => zqj7 r k1 k2) none m
theorem zqj9 {β : Type} (i : Nat) (k1 k2) : zqj8 (β := β) (i + 1) k1 k2 = zqj7 (zqj8 i k1 k2) k1 k2 := rfl
def zqja {β : Type} := hid (zqj8 (β := β) fuel)
noncomputable def zqjb : Pb := ⟨1018, zqj0, fun _ => zqja, pl (p := zqj0) zqiw [] (g := fun i _ => zqj8 i) (by kernel_rfl) rfl (by kernel_rfl) (fun _ _ => rfl) fun _ _ _ _ => by kernel_rfl⟩
def zqjc {β : Type} (k1 : zqj1 β) : zqj2 β := fun l f =>
 cond (decide (0 ≤ (1 : Int)) && (decide ((1 : Int) ≤ (List.length l : Int)) && decide ((List.length l : Int) ≤ (List.length l : Int))))
 (zqja (fun t2 =>
 k1 t2) (fun _ =>
 k1 true) (List.drop (Int.toNat (1 : Int)) (List.take (Int.toNat (List.length l : Int)) l)) (List.length (List.drop (Int.toNat (1 : Int)) (List.take (Int.toNat (List.length l : Int)) l)) : Int) (0 : Int) f)
 none
def zqjd {β : Type} := hid (zqjc (β := β))
noncomputable def zqje : Pb := ⟨127, zqj3, fun _ => zqjd, pe (p := zqj3) zqiw [zqjb] 127 (g := fun _ => zqjc) (by kernel_rfl) fun _ _ => by kernel_rfl⟩
def zqjf {β : Type} (k1 : zqj4 β) : zqj5 β := fun l f =>
 cond (decide ((IntKind.i64.wrap ((List.length l : Int) - (1 : Int))) < (List.length f.2.1 : Int)))
 (k1 false)
 (cond (decide ((List.length f.2.1 : Int) < (IntKind.i64.wrap ((List.length l : Int) - (1 : Int)))))
 (cond (!f.2.2)
 (k1 false)
 (zqjd (fun t2 =>
 k1 t2) l f))
 (zqjd (fun t2 =>
 k1 t2) l f))
def zqjg {β : Type} := hid (zqjf (β := β))
noncomputable def zqjh : Pb := ⟨63, zqj6, fun _ => zqjg, pe (p := zqj6) zqiw [zqje] 63 (g := fun _ => zqjf) (by kernel_rfl) fun _ _ => by kernel_rfl⟩
def zqji : zqiv := fun l k =>
 cond (decide ((List.length l : Int) = (0 : Int)))
 (k false)
 (cond (decide (0 ≤ (0 : Int)) && decide ((0 : Int) < (List.length l : Int)))
 (let e := List.getD l (Int.toNat (0 : Int)) ((0 : Int), (([] : List UInt8), (0 : Int)));
 cond (!decide (e.1 = (0 : Int)))
 (k false)
 (cond (decide (0 ≤ (0 : Int)) && decide ((0 : Int) < (List.length l : Int)))
 (let e2 := List.getD l (Int.toNat (0 : Int)) ((0 : Int), (([] : List UInt8), (0 : Int)));
 zqgd e2.2.1 (fun rforms rforms2 =>
 cond (!rforms2)
 (k false)
 (cond (decide (rforms.1 = ([112, 101, 114, 115, 111, 110] : List UInt8)))
 (zqbm l (fun roptions roptions2 =>
 cond (!roptions2)
 (k false)
 (zqjg (fun t2 =>
 k t2) roptions rforms)))
 (zqjg (fun t2 =>
 k t2) l rforms))))
 none))
 none)
def zqjj : zqiv := hid zqji
noncomputable def zqjk : En := ⟨65, .spec (sg [v25y] [] [v21y] [] zqjj), pf zqiw [zqjh] [.tmp 2] Tryz.func65 (by kernel_rfl) fun _ _ => by kernel_rfl⟩
abbrev zqjl := {β : Type} → t7y → t6y → t4y → t2y → t1y → (Int → t6y → t4y → t2y → t1y → Option β) → Option β
noncomputable def zqjm : List En := [zq75, zq79]
abbrev zqjn (β : Type) := Bool → t6y → t4y → t2y → t1y → t3y → Int → Int → Int → Bool → t10y → Option β
abbrev zqjo (β : Type) := t7y → Bool → Int → t6y → t4y → t2y → t1y → t3y → Int → Int → Int → Bool → t10y → Option β
noncomputable def zqjp : Pc := ⟨76, 5, Q7 122 (Q5 Tryz.f93), ⟨5, [0, 1, 6, 7, 8], [v23y, v25y, v21y, (false, [.ptr 5 0]), v19y], l53y⟩, [(.exit 0, ⟨5, [0, 6, 7], [v23y, v21y, (false, [.ptr 5 0])], l53y⟩)]⟩
def zqjq {β : Type} (rec : zqjo β) (k1 : zqjn β) : zqjo β := fun l ok i_ b1_ b2_ b3_ b4_ p_ p_2 p_3 p_4 p_5 b6_ =>
 cond (decide (i_ < (List.length l : Int)))
 (cond (decide (0 ≤ i_) && decide (i_ < (List.length l : Int)))
 (let e := List.getD l (Int.toNat i_) ((0 : Int), (([] : List UInt8), (0 : Int)));
 let t := (decide (e.2.1 = ([119, 101, 101, 107] : List UInt8)));
 cond t
 (cond (decide (0 ≤ (IntKind.i64.wrap (i_ + (1 : Int)))) && decide ((IntKind.i64.wrap (i_ + (1 : Int))) < (List.length l : Int)))
 (let e2 := List.getD l (Int.toNat (IntKind.i64.wrap (i_ + (1 : Int)))) ((0 : Int), (([] : List UInt8), (0 : Int)));
 let i_2 := (IntKind.i64.wrap (i_ + (1 : Int)));
 rec l ok i_2 b1_ b2_ b3_ b4_ p_ p_2 (IntKind.i64.wrap ((3600 : Int) * e2.2.2)) p_4 p_5 b6_)
 none)
 (let t2 := (decide (e.2.1 = ([114, 101, 115, 116] : List UInt8)));
 cond t2
 (cond (decide (0 ≤ (IntKind.i64.wrap (i_ + (1 : Int)))) && decide ((IntKind.i64.wrap (i_ + (1 : Int))) < (List.length l : Int)))
 (let e2 := List.getD l (Int.toNat (IntKind.i64.wrap (i_ + (1 : Int)))) ((0 : Int), (([] : List UInt8), (0 : Int)));
 let i_2 := (IntKind.i64.wrap (i_ + (1 : Int)));
 rec l ok i_2 b1_ b2_ b3_ b4_ p_ p_2 p_3 (IntKind.i64.wrap ((3600 : Int) * e2.2.2)) p_5 b6_)
 none)
 (let t3 := (decide (e.2.1 = ([99, 111, 110, 115, 101, 110, 116] : List UInt8)));
 cond t3
 (let i_2 := (IntKind.i64.wrap (i_ + (1 : Int)));
 rec l ok i_2 b1_ b2_ b3_ b4_ p_ p_2 p_3 p_4 true b6_)
 (let i_2 := (IntKind.i64.wrap (i_ + (1 : Int)));
 rec l ok i_2 b1_ b2_ b3_ b4_ p_ p_2 p_3 p_4 p_5 b6_))))
 none)
 (k1 ok b1_ b2_ b3_ b4_ p_ p_2 p_3 p_4 p_5 b6_)
def zqjr (m : Nat) {β : Type} (k1 : zqjn β) : zqjo β := lp13 (fun r => zqjq r k1) none m
theorem zqjs {β : Type} (i : Nat) (k1) : zqjr (β := β) (i + 1) k1 = zqjq (zqjr i k1) k1 := rfl
def zqjt {β : Type} := hid (zqjr (β := β) fuel)
noncomputable def zqju : Pb := ⟨122, zqjp, fun _ => zqjt, Q8d mixed (X := ⟨look tab, gam zqjm, false, false, false, false, q63y, none, 0, []⟩) (p := zqjp) Qe zqjm rfl [] (g := fun i _ => zqjr i) (by kernel_rfl) rfl (by kernel_rfl) (fun _ _ => rfl) fun _ _ _ _ => by kernel_rfl⟩
def zqjv : zqjl := fun l b1_ b2_ b3_ b4_ k =>
 cond (decide (0 ≤ (2 : Int)) && decide ((2 : Int) < (List.length l : Int)))
 (let e := List.getD l (Int.toNat (2 : Int)) ((0 : Int), (([] : List UInt8), (0 : Int)));
 zq72 b1_ e.2.1 (fun rZone mrZone =>
 let t := (if rZone > (0 : Int) then rZone else (0 : Int));
 let t2 := (decide ((0 : Int) ≤ rZone));
 cond (decide (0 ≤ (1 : Int)) && decide ((1 : Int) < (List.length l : Int)))
 (let e2 := List.getD l (Int.toNat (1 : Int)) ((0 : Int), (([] : List UInt8), (0 : Int)));
 zqjt (fun ok b1_2 b2_2 b3_2 b4_2 p_ p_2 p_3 p_4 p_5 b6_ =>
 zq78 ok (fun rfound =>
 cond (!decide (rfound = (0 : Int)))
 (k rfound b1_2 b2_2 b3_2 b4_2)
 (let l2 := ([(p_, (p_2, (b6_, (p_3, (p_4, p_5)))))] : List zqe);
 cond (true && decide ((List.length b2_2 + List.length l2) * 72 ≤ Qc))
 (let l3 := (b2_2 ++ l2);
 k (0 : Int) b1_2 l3 b3_2 b4_2)
 none))) l t2 (3 : Int) b1_ b2_ b3_ b4_ e2.2.1 t (0 : Int) (0 : Int) false ([] : List t5y))
 none))
 none
def zqjw : zqjl := hid zqjv
theorem zqjx : SpecOkB Tryz.prog 93 (sg [v23y, v25y] l49y [v19y] l49y zqjw) := Q1v mixed (X := ⟨look tab, gam zqjm, false, false, false, false, q63y, none, 0, []⟩) Qe zqjm rfl [zqju] [.tmp 4] Tryz.func93 (by kernel_rfl) fun _ _ => by kernel_rfl
noncomputable def zqjy : En := .hand zqjx rfl (by kernel_rfl)
abbrev zqjz := {β : Type} → t7y → t6y → t4y → t2y → t1y → (Int → t6y → t4y → t2y → t1y → Option β) → Option β
def zqk0 : zqjz := fun l b1_ b2_ b3_ b4_ k =>
 cond (decide (0 ≤ (2 : Int)) && decide ((2 : Int) < (List.length l : Int)))
 (let e := List.getD l (Int.toNat (2 : Int)) ((0 : Int), (([] : List UInt8), (0 : Int)));
 zq72 b1_ e.2.1 (fun rZone mrZone =>
 let t := (if rZone > (0 : Int) then rZone else (0 : Int));
 let t2 := (decide ((0 : Int) ≤ rZone));
 zq78 t2 (fun rfound =>
 cond (!decide (rfound = (0 : Int)))
 (k rfound b1_ b2_ b3_ b4_)
 (cond (decide (0 ≤ (1 : Int)) && decide ((1 : Int) < (List.length l : Int)))
 (let e2 := List.getD l (Int.toNat (1 : Int)) ((0 : Int), (([] : List UInt8), (0 : Int)));
 let l2 := ([(e2.2.1, (t, ([] : List Int)))] : List zq0);
 cond (true && decide ((List.length b3_ + List.length l2) * 48 ≤ Qc))
 (let l3 := (b3_ ++ l2);
 k (0 : Int) b1_ b2_ l3 b4_)
 none)
 none))))
 none
def zqk1 : zqjz := hid zqk0
theorem zqk2 : SpecOkB Tryz.prog 95 (sg [v23y, v25y] l49y [v19y] l49y zqk1) := Q1v mixed (X := ⟨look tab, gam [zq75, zq79], false, false, false, false, q63y, none, 0, []⟩) Qe [zq75, zq79] rfl [] [.tmp 4] Tryz.func95 (by kernel_rfl) fun _ _ => by kernel_rfl
noncomputable def zqk3 : En := .hand zqk2 rfl (by kernel_rfl)
abbrev zqk4 := {β : Type} → t7y → t6y → t4y → t2y → t1y → (Int → t6y → t4y → t2y → t1y → Option β) → Option β
def zqk5 : zqk4 := fun l b1_ b2_ b3_ b4_ k =>
 let l2 := ([([104, 111, 117, 114, 115] : List UInt8), ([100, 97, 121, 115] : List UInt8), ([119, 101, 101, 107, 115] : List UInt8)] : List t3y);
 cond (decide (0 ≤ (6 : Int)) && decide ((6 : Int) < (List.length l : Int)))
 (let e := List.getD l (Int.toNat (6 : Int)) ((0 : Int), (([] : List UInt8), (0 : Int)));
 zq7p l2 e.2.1 (fun rIndexstringstring =>
 cond (decide (rIndexstringstring < (0 : Int)))
 (k (2 : Int) b1_ b2_ b3_ b4_)
 (cond (decide ((List.length b4_ : Int) = (0 : Int)))
 (k (9 : Int) b1_ b2_ b3_ b4_)
 (let i_ := (IntKind.i64.wrap ((List.length b4_ : Int) - (1 : Int)));
 cond (decide (0 ≤ i_) && decide (i_ < (List.length b4_ : Int)))
 (cond (decide (0 ≤ (2 : Int)) && decide ((2 : Int) < (List.length l : Int)))
 (let e2 := List.getD l (Int.toNat (2 : Int)) ((0 : Int), (([] : List UInt8), (0 : Int)));
 zq72 b1_ e2.2.1 (fun rZone mrZone =>
 let t := (if rZone > (0 : Int) then rZone else (0 : Int));
 let t2 := (decide ((0 : Int) ≤ rZone));
 zq78 t2 (fun rfound =>
 cond (!decide (rfound = (0 : Int)))
 (k rfound b1_ b2_ b3_ b4_)
 (let e3 := List.getD b4_ (Int.toNat i_) (([] : List UInt8), (([] : List zq2), ([] : List t0y)));
 cond (decide (0 ≤ (1 : Int)) && decide ((1 : Int) < (List.length l : Int)))
 (let e4 := List.getD l (Int.toNat (1 : Int)) ((0 : Int), (([] : List UInt8), (0 : Int)));
 cond (decide (0 ≤ (3 : Int)) && decide ((3 : Int) < (List.length l : Int)))
 (let e5 := List.getD l (Int.toNat (3 : Int)) ((0 : Int), (([] : List UInt8), (0 : Int)));
 cond (decide (0 ≤ (4 : Int)) && decide ((4 : Int) < (List.length l : Int)))
 (let e6 := List.getD l (Int.toNat (4 : Int)) ((0 : Int), (([] : List UInt8), (0 : Int)));
 cond (decide (0 ≤ (5 : Int)) && decide ((5 : Int) < (List.length l : Int)))
 (let e7 := List.getD l (Int.toNat (5 : Int)) ((0 : Int), (([] : List UInt8), (0 : Int)));
 let l3 := ([(e4.2.1, (t, ((e5.2.2, e6.2.2), (rIndexstringstring, (e7.2.2, (([] : List Int), (([] : List t5y), ((0 : Int), (0 : Int)))))))))] : List zq2);
 let l4 := ((List.getD b4_ (Int.toNat i_) (([] : List UInt8), (([] : List zq2), ([] : List t0y)))).2).1;
 cond (true && decide ((List.length l4 + List.length l3) * 120 ≤ Qc))
 (let l5 := (l4 ++ l3);
 let e8 := List.getD b4_ (Int.toNat i_) (([] : List UInt8), (([] : List zq2), ([] : List t0y)));
 let l6 := List.set b4_ (Int.toNat i_) (e8.1, (l5, e8.2.2));
 cond (decide ((Int.toNat i_) = (Int.toNat i_)) && (true && true))
 (k (0 : Int) b1_ b2_ b3_ l6)
 none)
 none)
 none)
 none)
 none)
 none))))
 none)
 none))))
 none
def zqk6 : zqk4 := hid zqk5
theorem zqk7 : SpecOkB Tryz.prog 98 (sg [v23y, v25y] l49y [v19y] l49y zqk6) := Q1v mixed (X := ⟨look tab, gam [zq75, zq79, zq7r, zq7s, zq7q], false, false, false, false, q63y, none, 0, []⟩) Qe [zq75, zq79, zq7r, zq7s, zq7q] rfl [] [.tmp 4] Tryz.func98 (by kernel_rfl) fun _ _ => by kernel_rfl
noncomputable def zqk8 : En := .hand zqk7 rfl (by kernel_rfl)
abbrev zqk9 := {β : Type} → t7y → t6y → t4y → t2y → t1y → (Int → t6y → t4y → t2y → t1y → Option β) → Option β
noncomputable def zqka : List En := [zqhj, zq7u, zq79, zq7v]
abbrev zqkb (β : Type) := Int → t6y → t4y → t2y → t1y → Option β
abbrev zqkc (β : Type) := (Nat × Nat) → t6y → t4y → t2y → t1y → t12y → Option β
abbrev zqkd (β : Type) := (Nat × Nat) → t7y → Int → Int → t6y → t4y → t2y → t1y → t12y → Option β
noncomputable def zqke : Pc := ⟨56, 5, Q7 250 (Q5 Tryz.f99), ⟨5, [0, 5, 7, 21, 22, 23], [v23y, (false, [.tptrh 4 [1] 0]), (false, [.rowh 5]), v25y, v19y, v19y], l60y⟩, [(.ret, ⟨5, [4], [v19y], l49y⟩), (.exit 0, ⟨5, [5, 7], [(false, [.tptrh 4 [1] 0]), (false, [.rowh 5])], l60y⟩)]⟩
def zqkf {β : Type} (rec : zqkd β) (k1 : zqkb β) (k2 : zqkc β) : zqkd β := fun x t21 t22 t23 b1_ b2_ b3_ b4_ all =>
 cond (decide (t23 < t22))
 (cond (decide (0 ≤ t23) && decide (t23 < (List.length t21 : Int)))
 (let e := List.getD t21 (Int.toNat t23) ((0 : Int), (([] : List UInt8), (0 : Int)));
 zqhi (b1_, (b2_, (b3_, b4_))) e.2.1 (fun rPerson rPerson2 =>
 zq78 rPerson2 (fun rfound =>
 cond (!decide (rfound = (0 : Int)))
 (k1 rfound b1_ b2_ b3_ b4_)
 (let l := ([rPerson] : List Int);
 cond (decide ((List.length all + List.length l) * 8 ≤ Qc))
 (let l2 := (all ++ l);
 rec (x.1, x.2) t21 t22 (IntKind.i64.wrap (t23 + (1 : Int))) b1_ b2_ b3_ b4_ l2)
 none))))
 none)
 (k2 (x.1, x.2) b1_ b2_ b3_ b4_ all)
def zqkg (m : Nat) {β : Type} (k1 : zqkb β) (k2 : zqkc β) : zqkd β := lp9 (fun r => zqkf r k1 k2) none m
theorem zqkh {β : Type} (i : Nat) (k1 k2) : zqkg (β := β) (i + 1) k1 k2 = zqkf (zqkg i k1 k2) k1 k2 := rfl
def zqki {β : Type} := hid (zqkg (β := β) fuel)
noncomputable def zqkj : Pb := ⟨250, zqke, fun _ => zqki, Q8d mixed (X := ⟨look tab, gam zqka, false, false, false, false, q63y, none, 0, []⟩) (p := zqke) Qe zqka rfl [] (g := fun i _ => zqkg i) (by kernel_rfl) rfl (by kernel_rfl) (fun _ _ => rfl) fun _ _ _ _ => by kernel_rfl⟩
def zqkk : zqk9 := fun l b1_ b2_ b3_ b4_ k =>
 cond (decide ((List.length b4_ : Int) = (0 : Int)))
 (k (9 : Int) b1_ b2_ b3_ b4_)
 (let i_ := (IntKind.i64.wrap ((List.length b4_ : Int) - (1 : Int)));
 cond (decide (0 ≤ i_) && decide (i_ < (List.length b4_ : Int)))
 (let e := List.getD b4_ (Int.toNat i_) (([] : List UInt8), (([] : List zq2), ([] : List t0y)));
 let l2 := ((List.getD b4_ (Int.toNat i_) (([] : List UInt8), (([] : List zq2), ([] : List t0y)))).2).1;
 cond (decide ((List.length l2 : Int) = (0 : Int)))
 (k (9 : Int) b1_ b2_ b3_ b4_)
 (let l3 := ((List.getD b4_ (Int.toNat i_) (([] : List UInt8), (([] : List zq2), ([] : List t0y)))).2).1;
 let l4 := ((List.getD b4_ (Int.toNat i_) (([] : List UInt8), (([] : List zq2), ([] : List t0y)))).2).1;
 let i_2 := (IntKind.i64.wrap ((List.length l3 : Int) - (1 : Int)));
 cond (decide (0 ≤ i_2) && decide (i_2 < (List.length l4 : Int)))
 (let j := Int.toNat i_2;
 cond (decide (0 ≤ (1 : Int)) && (decide ((1 : Int) ≤ (List.length l : Int)) && decide ((List.length l : Int) ≤ (List.length l : Int))))
 (zqki (fun t4 b1_2 b2_2 b3_2 b4_2 =>
 k t4 b1_2 b2_2 b3_2 b4_2) (fun x b1_2 b2_2 b3_2 b4_2 all =>
 let l5 := ((List.getD b4_2 x.1 zqo).2).1;
 let e2 := List.getD l5 x.2 zqq;
 let l6 := ((((((List.getD (((List.getD b4_2 x.1 zqo).2).1) x.2 zqq).2).2).2).2).2).1;
 cond (true && decide ((List.length l6 + List.length all) * 8 ≤ Qc))
 (let l7 := (l6 ++ all);
 let e3 := List.getD b4_2 x.1 zqo;
 let e4 := List.getD e3.2.1 x.2 zqq;
 let l8 := List.set e3.2.1 x.2 (e4.1, (e4.2.1, (e4.2.2.1, (e4.2.2.2.1, (e4.2.2.2.2.1, (l7, e4.2.2.2.2.2.2))))));
 let l9 := List.set b4_2 x.1 (e3.1, (l8, e3.2.2));
 cond (decide (x.1 = x.1) && (true && (decide (x.2 = x.2) && (true && true))))
 (k (0 : Int) b1_2 b2_2 b3_2 l9)
 none)
 none) ((Int.toNat i_), j) (List.drop (Int.toNat (1 : Int)) (List.take (Int.toNat (List.length l : Int)) l)) (List.length (List.drop (Int.toNat (1 : Int)) (List.take (Int.toNat (List.length l : Int)) l)) : Int) (0 : Int) b1_ b2_ b3_ b4_ ([] : List Int))
 none)
 none))
 none)
def zqkl : zqk9 := hid zqkk
theorem zqkm : SpecOkB Tryz.prog 99 (sg [v23y, v25y] l49y [v19y] l49y zqkl) := Q1v mixed (X := ⟨look tab, gam zqka, false, false, false, false, q63y, none, 0, []⟩) Qe zqka rfl [zqkj] [.tmp 4] Tryz.func99 (by kernel_rfl) fun _ _ => by kernel_rfl
noncomputable def zqkn : En := .hand zqkm rfl (by kernel_rfl)
end
end Go.Lift
namespace Go.Lift
open Go.Proofs
noncomputable section
variable [Sl]
set_option maxRecDepth 100000
set_option linter.unusedVariables false
abbrev zqko := {β : Type} → t7y → t6y → t4y → t2y → t1y → (Int → t6y → t4y → t2y → t1y → Option β) → Option β
def zqkp : zqko := fun l b1_ b2_ b3_ b4_ k =>
 cond (decide ((List.length b4_ : Int) = (0 : Int)))
 (k (9 : Int) b1_ b2_ b3_ b4_)
 (let i_ := (IntKind.i64.wrap ((List.length b4_ : Int) - (1 : Int)));
 cond (decide (0 ≤ i_) && decide (i_ < (List.length b4_ : Int)))
 (let e := List.getD b4_ (Int.toNat i_) (([] : List UInt8), (([] : List zq2), ([] : List t0y)));
 let l2 := ((List.getD b4_ (Int.toNat i_) (([] : List UInt8), (([] : List zq2), ([] : List t0y)))).2).1;
 cond (decide ((List.length l2 : Int) = (0 : Int)))
 (k (9 : Int) b1_ b2_ b3_ b4_)
 (let l3 := ((List.getD b4_ (Int.toNat i_) (([] : List UInt8), (([] : List zq2), ([] : List t0y)))).2).1;
 let l4 := ((List.getD b4_ (Int.toNat i_) (([] : List UInt8), (([] : List zq2), ([] : List t0y)))).2).1;
 let i_2 := (IntKind.i64.wrap ((List.length l3 : Int) - (1 : Int)));
 cond (decide (0 ≤ i_2) && decide (i_2 < (List.length l4 : Int)))
 (let j := Int.toNat i_2;
 let l5 := ((List.getD b4_ (Int.toNat i_) (([] : List UInt8), (([] : List zq2), ([] : List t0y)))).2).1;
 let e2 := List.getD l5 j zqq;
 cond (!decide (e2.2.2.2.2.2.2.2.2 = (0 : Int)))
 (k (9 : Int) b1_ b2_ b3_ b4_)
 (cond (decide (0 ≤ (1 : Int)) && decide ((1 : Int) < (List.length l : Int)))
 (let e3 := List.getD l (Int.toNat (1 : Int)) ((0 : Int), (([] : List UInt8), (0 : Int)));
 zq8d b3_ e3.2.1 (fun rCalendar mrCalendar =>
 let t := (if rCalendar > (0 : Int) then rCalendar else (0 : Int));
 let t2 := (decide ((0 : Int) ≤ rCalendar));
 zq78 t2 (fun rfound =>
 cond (!decide (rfound = (0 : Int)))
 (k rfound b1_ b2_ b3_ b4_)
 (let l6 := ((List.getD b4_ (Int.toNat i_) (([] : List UInt8), (([] : List zq2), ([] : List t0y)))).2).1;
 let e4 := List.getD l6 j zqq;
 let l7 := List.set l6 j (e4.1, (e4.2.1, (e4.2.2.1, (e4.2.2.2.1, (e4.2.2.2.2.1, (e4.2.2.2.2.2.1, (e4.2.2.2.2.2.2.1, (t, e4.2.2.2.2.2.2.2.2))))))));
 let e5 := List.getD b4_ (Int.toNat i_) (([] : List UInt8), (([] : List zq2), ([] : List t0y)));
 let l8 := List.set b4_ (Int.toNat i_) (e5.1, (l7, e5.2.2));
 let l9 := ((List.getD l8 (Int.toNat i_) (([] : List UInt8), (([] : List zq2), ([] : List t0y)))).2).1;
 let e6 := List.getD l9 j zqq;
 let l10 := List.set l9 j (e6.1, (e6.2.1, (e6.2.2.1, (e6.2.2.2.1, (e6.2.2.2.2.1, (e6.2.2.2.2.2.1, (e6.2.2.2.2.2.2.1, (e6.2.2.2.2.2.2.2.1, (1 : Int)))))))));
 let e7 := List.getD l8 (Int.toNat i_) (([] : List UInt8), (([] : List zq2), ([] : List t0y)));
 let l11 := List.set l8 (Int.toNat i_) (e7.1, (l10, e7.2.2));
 cond (decide (0 ≤ (0 : Int)) && decide ((0 : Int) < (List.length l : Int)))
 (let e8 := List.getD l (Int.toNat (0 : Int)) ((0 : Int), (([] : List UInt8), (0 : Int)));
 cond (decide (e8.2.1 = ([111, 110, 108, 121] : List UInt8)))
 (let l12 := ((List.getD l11 (Int.toNat i_) (([] : List UInt8), (([] : List zq2), ([] : List t0y)))).2).1;
 let e9 := List.getD l12 j zqq;
 let l13 := List.set l12 j (e9.1, (e9.2.1, (e9.2.2.1, (e9.2.2.2.1, (e9.2.2.2.2.1, (e9.2.2.2.2.2.1, (e9.2.2.2.2.2.2.1, (e9.2.2.2.2.2.2.2.1, (2 : Int)))))))));
 let e10 := List.getD l11 (Int.toNat i_) (([] : List UInt8), (([] : List zq2), ([] : List t0y)));
 let l14 := List.set l11 (Int.toNat i_) (e10.1, (l13, e10.2.2));
 k (0 : Int) b1_ b2_ b3_ l14)
 (k (0 : Int) b1_ b2_ b3_ l11))
 none))))
 none))
 none))
 none)
def zqkq : zqko := hid zqkp
theorem zqkr : SpecOkB Tryz.prog 101 (sg [v23y, v25y] l49y [v19y] l49y zqkq) := Q1v mixed (X := ⟨look tab, gam [zq8g, zq7u, zq79, zq7v], false, false, false, false, q63y, none, 0, []⟩) Qe [zq8g, zq7u, zq79, zq7v] rfl [] [.tmp 4] Tryz.func101 (by kernel_rfl) fun _ _ => by kernel_rfl
noncomputable def zqks : En := .hand zqkr rfl (by kernel_rfl)
abbrev zqkt := {β : Type} → t7y → t6y → t4y → t2y → t1y → (Int → t6y → t4y → t2y → t1y → Option β) → Option β
noncomputable def zqku : List En := [zqhj, zq79, zq7r, zq7s, zq7q]
abbrev zqkv (β : Type) := Int → t6y → t4y → t2y → t1y → Option β
abbrev zqkw (β : Type) := Nat → t6y → t4y → t2y → t1y → t0y → t12y → Option β
abbrev zqkx (β : Type) := Nat → t7y → Int → Int → t6y → t4y → t2y → t1y → t0y → t12y → Option β
noncomputable def zqky : Pc := ⟨106, 5, Q7 2042 (Q5 Tryz.f102), ⟨5, [0, 5, 7, 9, 53, 54, 55], [v23y, (false, [.tptrh 4 [] 0]), (false, [.ptr 5 0]), (false, [.rowh 6]), v25y, v19y, v19y], l50y⟩, [(.ret, ⟨5, [4], [v19y], l49y⟩), (.exit 0, ⟨5, [5, 7, 9], [(false, [.tptrh 4 [] 0]), (false, [.ptr 5 0]), (false, [.rowh 6])], l50y⟩)]⟩
abbrev zqkz (β : Type) := Int → t6y → t4y → t2y → t1y → Option β
abbrev zql0 (β : Type) := Nat → t7y → Int → Int → t6y → t4y → t2y → t1y → t0y → t12y → Option β
abbrev zql1 (β : Type) := Nat → Int → Int → Bool → t7y → Int → Int → t6y → t4y → t2y → t1y → t0y → t12y → Option β
noncomputable def zql2 : Pc := ⟨106, 5, Q7 231 (Q1b zqky.c), ⟨5, [0, 5, 7, 9, 10, 12, 13, 53, 54, 55], [v23y, (false, [.tptrh 4 [] 0]), (false, [.ptr 5 0]), (false, [.rowh 6]), v19y, v19y, v21y, v25y, v19y, v19y], l50y⟩, [(.ret, ⟨5, [4], [v19y], l49y⟩), (.normal, ⟨5, [0, 5, 7, 9, 53, 54, 55], [v23y, (false, [.tptrh 4 [] 0]), (false, [.ptr 5 0]), (false, [.rowh 6]), v25y, v19y, v19y], l50y⟩)]⟩
def zql3 {β : Type} (k1 : zqkz β) (k2 : zql0 β) : zql1 β := fun s i_ p_ ok t53 t54 t55 b1_ b2_ b3_ b4_ x people =>
 zq78 ok (fun rfound =>
 cond (!decide (rfound = (0 : Int)))
 (k1 rfound b1_ b2_ b3_ b4_)
 (cond (decide (0 ≤ i_) && decide (i_ < (List.length people : Int)))
 (let l := (List.set people (Int.toNat i_) p_);
 k2 s t53 t54 t55 b1_ b2_ b3_ b4_ x l)
 none))
def zql4 {β : Type} := hid (zql3 (β := β))
noncomputable def zql5 : Pb := ⟨231, zql2, fun _ => zql4, Qih mixed (X := ⟨look tab, gam zqku, false, false, false, false, q63y, none, 0, []⟩) (p := zql2) Qe zqku rfl [] 231 (g := fun _ => zql3) (by kernel_rfl) fun _ _ => by kernel_rfl⟩
def zql6 {β : Type} (rec : zqkx β) (k1 : zqkv β) (k2 : zqkw β) : zqkx β := fun s t53 t54 t55 b1_ b2_ b3_ b4_ x people =>
 cond (decide (t55 < t54))
 (cond (decide (0 ≤ t55) && decide (t55 < (List.length t53 : Int)))
 (let e := List.getD t53 (Int.toNat t55) ((0 : Int), (([] : List UInt8), (0 : Int)));
 zqhi (b1_, (b2_, (b3_, b4_))) e.2.1 (fun rPerson rPerson2 =>
 cond (decide (x.1 = (1 : Int)))
 (cond (decide (e.2.1 = ([110, 111, 98, 111, 100, 121] : List UInt8)))
 (zql4 (fun t4 b1_2 b2_2 b3_2 b4_2 =>
 k1 t4 b1_2 b2_2 b3_2 b4_2) (fun s2 t532 t542 t552 b1_2 b2_2 b3_2 b4_2 x2 people2 =>
 rec s2 t532 t542 (IntKind.i64.wrap (t552 + (1 : Int))) b1_2 b2_2 b3_2 b4_2 x2 people2) s t55 (-1 : Int) true t53 t54 t55 b1_ b2_ b3_ b4_ x people)
 (zql4 (fun t4 b1_2 b2_2 b3_2 b4_2 =>
 k1 t4 b1_2 b2_2 b3_2 b4_2) (fun s2 t532 t542 t552 b1_2 b2_2 b3_2 b4_2 x2 people2 =>
 rec s2 t532 t542 (IntKind.i64.wrap (t552 + (1 : Int))) b1_2 b2_2 b3_2 b4_2 x2 people2) s t55 rPerson rPerson2 t53 t54 t55 b1_ b2_ b3_ b4_ x people))
 (zql4 (fun t4 b1_2 b2_2 b3_2 b4_2 =>
 k1 t4 b1_2 b2_2 b3_2 b4_2) (fun s2 t532 t542 t552 b1_2 b2_2 b3_2 b4_2 x2 people2 =>
 rec s2 t532 t542 (IntKind.i64.wrap (t552 + (1 : Int))) b1_2 b2_2 b3_2 b4_2 x2 people2) s t55 rPerson rPerson2 t53 t54 t55 b1_ b2_ b3_ b4_ x people)))
 none)
 (k2 s b1_ b2_ b3_ b4_ x people)
def zql7 (m : Nat) {β : Type} (k1 : zqkv β) (k2 : zqkw β) : zqkx β := lp10 (fun r => zql6 r k1 k2) none m
theorem zql8 {β : Type} (i : Nat) (k1 k2) : zql7 (β := β) (i + 1) k1 k2 = zql6 (zql7 i k1 k2) k1 k2 := rfl
def zql9 {β : Type} := hid (zql7 (β := β) fuel)
noncomputable def zqla : Pb := ⟨2042, zqky, fun _ => zql9, Q8d mixed (X := ⟨look tab, gam zqku, false, false, false, false, q63y, none, 0, []⟩) (p := zqky) Qe zqku rfl [zql5] (g := fun i _ => zql7 i) (by kernel_rfl) rfl (by kernel_rfl) (fun _ _ => rfl) fun _ _ _ _ => by kernel_rfl⟩
def zqlb : zqkt := fun l b1_ b2_ b3_ b4_ k =>
 cond (decide ((List.length b4_ : Int) = (0 : Int)))
 (k (9 : Int) b1_ b2_ b3_ b4_)
 (let i_ := (IntKind.i64.wrap ((List.length b4_ : Int) - (1 : Int)));
 cond (decide (0 ≤ i_) && decide (i_ < (List.length b4_ : Int)))
 (let l2 := ([([108, 101, 97, 118, 101] : List UInt8), ([111, 118, 101, 114, 114, 105, 100, 101] : List UInt8), ([115, 119, 97, 112] : List UInt8)] : List t3y);
 cond (decide (0 ≤ (0 : Int)) && decide ((0 : Int) < (List.length l : Int)))
 (let e := List.getD l (Int.toNat (0 : Int)) ((0 : Int), (([] : List UInt8), (0 : Int)));
 zq7p l2 e.2.1 (fun rIndexstringstring =>
 cond (decide (0 ≤ (IntKind.i64.wrap ((List.length l : Int) - (2 : Int)))) && decide ((IntKind.i64.wrap ((List.length l : Int) - (2 : Int))) < (List.length l : Int)))
 (let e2 := List.getD l (Int.toNat (IntKind.i64.wrap ((List.length l : Int) - (2 : Int)))) ((0 : Int), (([] : List UInt8), (0 : Int)));
 cond (decide (0 ≤ (IntKind.i64.wrap ((List.length l : Int) - (1 : Int)))) && decide ((IntKind.i64.wrap ((List.length l : Int) - (1 : Int))) < (List.length l : Int)))
 (let e3 := List.getD l (Int.toNat (IntKind.i64.wrap ((List.length l : Int) - (1 : Int)))) ((0 : Int), (([] : List UInt8), (0 : Int)));
 let l3 := ([(0 : Int), (0 : Int)] : List Int);
 cond (decide (0 ≤ (1 : Int)) && (decide ((1 : Int) ≤ (IntKind.i64.wrap ((List.length l : Int) - (2 : Int)))) && decide ((IntKind.i64.wrap ((List.length l : Int) - (2 : Int))) ≤ (List.length l : Int))))
 (zql9 (fun t4 b1_2 b2_2 b3_2 b4_2 =>
 k t4 b1_2 b2_2 b3_2 b4_2) (fun s b1_2 b2_2 b3_2 b4_2 x people =>
 cond (decide (0 ≤ (0 : Int)) && decide ((0 : Int) < (List.length people : Int)))
 (cond (decide (0 ≤ (1 : Int)) && decide ((1 : Int) < (List.length people : Int)))
 (let e4 := List.getD b4_2 s zqo;
 let l4 := ([(x.1, ((List.getD people (Int.toNat (0 : Int)) (0 : Int)), ((List.getD people (Int.toNat (1 : Int)) (0 : Int)), x.2.2.2)))] : List t0y);
 let l5 := ((List.getD b4_2 s zqo).2).2;
 cond (true && decide ((List.length l5 + List.length l4) * 40 ≤ Qc))
 (let l6 := (l5 ++ l4);
 let e5 := List.getD b4_2 s zqo;
 let l7 := List.set b4_2 s (e5.1, (e5.2.1, l6));
 cond (decide (s = s) && (true && true))
 (k (0 : Int) b1_2 b2_2 b3_2 l7)
 none)
 none)
 none)
 none) (Int.toNat i_) (List.drop (Int.toNat (1 : Int)) (List.take (Int.toNat (IntKind.i64.wrap ((List.length l : Int) - (2 : Int)))) l)) (List.length (List.drop (Int.toNat (1 : Int)) (List.take (Int.toNat (IntKind.i64.wrap ((List.length l : Int) - (2 : Int)))) l)) : Int) (0 : Int) b1_ b2_ b3_ b4_ (rIndexstringstring, ((0 : Int), ((0 : Int), (e2.2.2, e3.2.2)))) l3)
 none)
 none)
 none))
 none)
 none)
def zqlc : zqkt := hid zqlb
theorem zqld : SpecOkB Tryz.prog 102 (sg [v23y, v25y] l49y [v19y] l49y zqlc) := Q1v mixed (X := ⟨look tab, gam zqku, false, false, false, false, q63y, none, 0, []⟩) Qe zqku rfl [zqla] [.tmp 4] Tryz.func102 (by kernel_rfl) fun _ _ => by kernel_rfl
noncomputable def zqle : En := .hand zqld rfl (by kernel_rfl)
abbrev zqlf := {β : Type} → t3y → (Int → Bool → Option β) → Option β
noncomputable def zqlg : List En := [zqhf]
abbrev zqlh (β : Type) := Int → Bool → Option β
abbrev zqli (β : Type) := t3y → Int → Bool → Option β
noncomputable def zqlj : Pc := ⟨32, 0, Q7 15 (Q5 Tryz.f147), ⟨0, [0, 4, 5], [v26y, v19y, v21y], []⟩, [(.ret, ⟨0, [2, 3], [v19y, v21y], []⟩)]⟩
def zqlk {β : Type} (k1 : zqlh β) : zqli β := fun s n ok =>
 cond ok
 (cond (decide ((List.length s : Int) = (6 : Int)))
 (cond (decide ((-64800 : Int) ≤ n))
 (let t := (decide (n ≤ (64800 : Int)));
 k1 n t)
 (k1 n false))
 (k1 n false))
 (k1 n false)
def zqll {β : Type} := hid (zqlk (β := β))
noncomputable def zqlm : Pb := ⟨15, zqlj, fun _ => zqll, pe (p := zqlj) zqlg [] 15 (g := fun _ => zqlk) (by kernel_rfl) fun _ _ => by kernel_rfl⟩
def zqln : zqlf := fun s k =>
 cond (decide (0 ≤ (1 : Int)) && (decide ((1 : Int) ≤ (List.length s : Int)) && decide ((List.length s : Int) ≤ (List.length s : Int))))
 (zqhe (List.drop (Int.toNat (1 : Int)) (List.take (Int.toNat (List.length s : Int)) s)) (fun rclock rclock2 =>
 cond (decide (0 ≤ (0 : Int)) && decide ((0 : Int) < (List.length s : Int)))
 (cond (decide (((List.getD s (Int.toNat (0 : Int)) 0).toNat : Int) = (45 : Int)))
 (let n := (IntKind.i64.wrap (0 - rclock));
 zqll (fun t2 t3 =>
 k t2 t3) s n rclock2)
 (zqll (fun t2 t3 =>
 k t2 t3) s rclock rclock2))
 none))
 none
def zqlo : zqlf := hid zqln
noncomputable def zqlp : En := ⟨147, .spec (sg [v26y] [] [v19y, v21y] [] zqlo), pf zqlg [zqlm] [.tmp 2, .tmp 3] Tryz.func147 (by kernel_rfl) fun _ _ => by kernel_rfl⟩
abbrev zqlq := {β : Type} → t3y → (Int → Bool → Option β) → Option β
def zqlr : zqlq := fun s k =>
 cond (!decide ((List.length s : Int) = (20 : Int)))
 (k (0 : Int) false)
 (cond (decide (0 ≤ (10 : Int)) && decide ((10 : Int) < (List.length s : Int)))
 (cond (!decide (((List.getD s (Int.toNat (10 : Int)) 0).toNat : Int) = (84 : Int)))
 (k (0 : Int) false)
 (cond (decide (0 ≤ (19 : Int)) && decide ((19 : Int) < (List.length s : Int)))
 (cond (!decide (((List.getD s (Int.toNat (19 : Int)) 0).toNat : Int) = (90 : Int)))
 (k (0 : Int) false)
 (cond (decide (0 ≤ (0 : Int)) && (decide ((0 : Int) ≤ (10 : Int)) && decide ((10 : Int) ≤ (List.length s : Int))))
 (zqh0 (List.drop (Int.toNat (0 : Int)) (List.take (Int.toNat (10 : Int)) s)) (fun rdate rdate2 =>
 cond (decide (0 ≤ (11 : Int)) && (decide ((11 : Int) ≤ (19 : Int)) && decide ((19 : Int) ≤ (List.length s : Int))))
 (zqhe (List.drop (Int.toNat (11 : Int)) (List.take (Int.toNat (19 : Int)) s)) (fun rclock rclock2 =>
 cond rdate2
 (cond rclock2
 (let t := (IntKind.i64.wrap ((IntKind.i64.wrap (rdate * (86400 : Int))) + rclock));
 let t2 := (decide (rclock < (86400 : Int)));
 k t t2)
 (let t := (IntKind.i64.wrap ((IntKind.i64.wrap (rdate * (86400 : Int))) + rclock));
 k t false))
 (let t := (IntKind.i64.wrap ((IntKind.i64.wrap (rdate * (86400 : Int))) + rclock));
 k t false)))
 none))
 none))
 none))
 none)
def zqls : zqlq := hid zqlr
noncomputable def zqlt : En := ⟨149, .spec (sg [v26y] [] [v19y, v21y] [] zqls), pf [zqhf, zqh1] [] [.tmp 2, .tmp 3] Tryz.func149 (by kernel_rfl) fun _ _ => by kernel_rfl⟩
abbrev zqlu := {β : Type} → Int → (Bool → Option β) → Option β
def zqlv : zqlu := fun n k =>
 zqhq n (fun rday =>
 k (!rday))
def zqlw : zqlu := hid zqlv
noncomputable def zqlx : En := ⟨56, .spec (sg [v19y] [] [v21y] [] zqlw), pf [zqhr] [] [.tmp 2] Tryz.func56 (by kernel_rfl) fun _ _ => by kernel_rfl⟩
abbrev zqly := {β : Type} → t3y → (Int → Int → Bool → Option β) → Option β
noncomputable def zqlz : List En := [zqb6, zqhf, zqh1, zqlt, zqdg, zqlp, zq57, zq8z]
abbrev zqm0 (β : Type) := Int → Int → Bool → Option β
abbrev zqm1 (β : Type) := t3y → Option β
noncomputable def zqm2 : Pc := ⟨83, 0, Q7 7 (Q5 Tryz.f114), ⟨0, [0], [v26y], []⟩, [(.ret, ⟨0, [2, 3, 4], [v19y, v19y, v21y], []⟩)]⟩
abbrev zqm3 (β : Type) := Int → Int → Bool → Option β
abbrev zqm4 (β : Type) := t3y → Option β
abbrev zqm5 (β : Type) := t3y → Bool → Option β
noncomputable def zqm6 : Pc := ⟨83, 0, Q7 215 (Q5 Tryz.f114), ⟨0, [0, 23], [v26y, v21y], []⟩, [(.ret, ⟨0, [2, 3, 4], [v19y, v19y, v21y], []⟩), (.normal, ⟨0, [0], [v26y], []⟩)]⟩
def zqm7 {β : Type} (k1 : zqm0 β) : zqm1 β := fun s =>
 zqdf s (fun rnumber rnumber2 =>
 cond rnumber2
 (cond (decide (0 ≤ (0 : Int)) && decide ((0 : Int) < (List.length s : Int)))
 (cond (!decide (((List.getD s (Int.toNat (0 : Int)) 0).toNat : Int) = (48 : Int)))
 (k1 (1 : Int) rnumber true)
 (let t := (decide (s = ([48] : List UInt8)));
 k1 (1 : Int) rnumber t))
 none)
 (k1 (1 : Int) rnumber false))
def zqm8 {β : Type} := hid (zqm7 (β := β))
noncomputable def zqm9 : Pb := ⟨7, zqm2, fun _ => zqm8, pe (p := zqm2) zqlz [] 7 (g := fun _ => zqm7) (by kernel_rfl) fun _ _ => by kernel_rfl⟩
def zqma {β : Type} (k1 : zqm3 β) (k2 : zqm4 β) : zqm5 β := fun s t23 =>
 cond t23
 (zqlo s (fun roffset roffset2 =>
 k1 (4 : Int) roffset roffset2))
 (zq8x s ([84] : List UInt8) (fun rContains =>
 cond rContains
 (zqls s (fun rinstant rinstant2 =>
 k1 (5 : Int) rinstant rinstant2))
 (zq8x s ([45] : List UInt8) (fun rContains2 =>
 cond rContains2
 (zqh0 s (fun rdate rdate2 =>
 k1 (3 : Int) rdate rdate2))
 (zq8x s ([58] : List UInt8) (fun rContains3 =>
 cond rContains3
 (zqhe s (fun rclock rclock2 =>
 k1 (2 : Int) rclock rclock2))
 (k2 s)))))))
def zqmb {β : Type} := hid (zqma (β := β))
noncomputable def zqmc : Pb := ⟨215, zqm6, fun _ => zqmb, pe (p := zqm6) zqlz [] 215 (g := fun _ => zqma) (by kernel_rfl) fun _ _ => by kernel_rfl⟩
def zqmd : zqly := fun s k =>
 cond (decide (0 ≤ (0 : Int)) && decide ((0 : Int) < (List.length s : Int)))
 (let c := ((List.getD s (Int.toNat (0 : Int)) 0).toNat : Int);
 zq56 c (fun rsmall =>
 cond rsmall
 (zqb5 s (fun rName =>
 k (0 : Int) (0 : Int) rName))
 (cond (decide (c = (43 : Int)))
 (zqmb (fun t2 t3 t4 =>
 k t2 t3 t4) (fun s2 =>
 zqm8 (fun t2 t3 t4 =>
 k t2 t3 t4) s2) s true)
 (let t := (decide (c = (45 : Int)));
 zqmb (fun t2 t3 t4 =>
 k t2 t3 t4) (fun s2 =>
 zqm8 (fun t2 t3 t4 =>
 k t2 t3 t4) s2) s t))))
 none
def zqme : zqly := hid zqmd
noncomputable def zqmf : En := ⟨114, .spec (sg [v26y] [] [v19y, v19y, v21y] [] zqme), pf zqlz [zqm9, zqmc] [.tmp 2, .tmp 3, .tmp 4] Tryz.func114 (by kernel_rfl) fun _ _ => by kernel_rfl⟩
def zqmg : Shelf.Ren :=
   {
   f := fun x =>
    match x with
    | 20 => 177
    | n => n,
   t := fun x =>
    match x with
    | 24 => 165
    | 22 => 161
    | 3 => 3
    | 25 => 204
    | 4 => 4
    | 0 => 0
    | n => n,
   g := fun x => x }
theorem zqmh : Go.Proofs.SlLaysF0.n20 Tryz.prog zqmg :=
 {
  mixed := by kernel_rfl,
  f20 := Exists.intro "slices.insertionSortCmpFunc[pagewatch/zone.occurrence]" ⟨of_decide_eq_true (by kernel_rfl), Eq.trans Tryz.func177 (congrArg some (by kernel_rfl))⟩,
  t0 := Tryz.underlying0,
  a0 := Tryz.isAgg0,
  z0 := Tryz.sizeOf0,
  v0 := Tryz.zeroValue0,
  t3 := Tryz.underlying3,
  a3 := Tryz.isAgg3,
  z3 := Tryz.sizeOf3,
  v3 := Tryz.zeroValue3,
  t4 := Tryz.underlying4,
  a4 := Tryz.isAgg4,
  z4 := Tryz.sizeOf4,
  v4 := Tryz.zeroValue4,
  t22 := Tryz.underlying161,
  a22 := Tryz.isAgg161,
  z22 := Tryz.sizeOf161,
  v22 := Tryz.zeroValue161,
  t25 := Tryz.underlying204,
  a25 := Tryz.isAgg204,
  z25 := Tryz.sizeOf204,
  v25 := Tryz.zeroValue204 }
def zqmi : t5y → Bool := fun x => decide (-4611686018427387904 ≤ x.1) && decide (x.1 < 4611686018427387904)
def zqmj : t5y → t5y → Int := fun x y => x.1 - y.1
def zqmk : List t5y → List t5y := Q1e zqmi ((0, 0) : Int × Int) rfl zqmj
theorem zqml (x y : Int × Int) (hx : zqmi x = true) (hy : zqmi y = true) (W : World) : Calls Tryz.prog 139 #[.agg (encT (.prod (.int .i64) (.int .i64)) x).toArray, .agg (encT (.prod (.int .i64) (.int .i64)) y).toArray] W fun e w' => e = .returned (.int .i64 (zqmj x y)) ∧ ∃ q os', w' = Go.Sort.grow (W.drewN q) os' := by
 obtain ⟨a, b⟩ := x
 obtain ⟨c, d⟩ := y
 simp only [zqmi, Bool.and_eq_true, decide_eq_true_eq] at hx hy
 obtain ⟨h1, h2⟩ := hx
 obtain ⟨h3, h4⟩ := hy
 change Calls Tryz.prog 139 #[.agg #[.int .i64 a, .int .i64 b], .agg #[.int .i64 c, .int .i64 d]] W fun e w' => e = .returned (.int .i64 (a - c)) ∧ _
 have hw : Go.RowKit.wrap64 (a - c) = a - c := by unfold Go.RowKit.wrap64; omega
 go_enter Tryz.func139, Tryz.ntmps139
 go_wp2
 go_ret
 exact ⟨rfl, 0, _, by rw [Go.Sort.alloc_eq_grow, Go.Sort.alloc_eq_grow, Go.Sort.grow_grow]; rfl⟩
theorem zqmm : Go.Sort.SWO (Go.Proofs.ltOf fun (x y : {x : Int × Int // zqmi x = true}) => zqmj x.1 y.1) := by
 constructor
 ·intro x
  refine decide_eq_false ?_
  show ¬ x.1.1 - x.1.1 < 0
  omega
 ·intro x y z h1 h2
  have h1 : x.1.1 - y.1.1 < 0 := of_decide_eq_true h1
  have h2 : y.1.1 - z.1.1 < 0 := of_decide_eq_true h2
  refine decide_eq_true ?_
  show x.1.1 - z.1.1 < 0
  omega
 ·intro x y z h1 h2
  have h1 : ¬ x.1.1 - y.1.1 < 0 := of_decide_eq_false h1
  have h2 : ¬ y.1.1 - z.1.1 < 0 := of_decide_eq_false h2
  refine decide_eq_false ?_
  show ¬ x.1.1 - z.1.1 < 0
  omega
theorem zqmn (p : Option Addr) (n cap : Nat) (w : World) (Q : World → Prop) (hn : n < 13) (h : Calls Tryz.prog 177 #[.slice p n cap, .int .i64 0, .int .i64 n, .func (.func 139) #[] #[]] w (fun e2 w' => e2 = .returned (.tuple #[]) ∧ Q w')) :
  Calls Tryz.prog 138 #[.slice p n cap, .func (.func 139) #[] #[]] w fun e2 w' => e2 = .returned (.tuple #[]) ∧ Q w' := by
 have h2 : Calls Tryz.prog 162 #[.slice p n cap, .int .i64 n, .func (.func 139) #[] #[]] w fun e2 w' => e2 = .returned (.tuple #[]) ∧ Q w' := by
  go_enter Tryz.func162, Tryz.ntmps162
  go_wp2
  refine wp_loop_rounds 1 ?_
  rw [rounds_succ]
  go_wp2_with (refine h.mono ?_; rintro e w' ⟨rfl, hq⟩)
  refine wp_loop_rounds 1 ?_
  rw [rounds_succ]
  go_wp2
  go_end0
  exact ⟨rfl, hq⟩
 go_enter Tryz.func138, Tryz.ntmps138
 go_wp2_with (refine h2.mono ?_; rintro e w' ⟨rfl, hq⟩)
 go_end0
 exact ⟨rfl, hq⟩
def zqmo : RowF := ⟨165, (.prod (.int .i64) (.int .i64)), false, fun l => List.all l zqmi && decide (List.length l < 13), zqmk, some 139⟩
theorem zqmp : RowOk Tryz.prog 138 zqmo :=
 Qgb (t := 165) (e := (.prod (.int .i64) (.int .i64))) (good := zqmi) (d0 := ((0, 0) : Int × Int)) (h0 := rfl) (cf := zqmj) (g := 139) rfl (by decide) zqmh rfl Tryz.isAgg165 Tryz.sizeOf165 zqmm (Go.Proofs.enters_of Tryz.func139 (by kernel_rfl) rfl) zqml zqmn ⟨_, Tryz.func138, by kernel_rfl, by kernel_rfl⟩
noncomputable def zqmq : En := ⟨_, .rows zqmo, zqmp⟩
abbrev zqmr := {β : Type} → t3y → (zq6 → Int → Option β) → Option β
def zqms : zqmr := fun word k =>
 cond (decide (word = ([] : List UInt8)))
 (k zqi (2 : Int))
 (zqme word (fun rform rform2 rform3 =>
 cond (!rform3)
 (k zqi (2 : Int))
 (let t := (decide (rform = (0 : Int)));
 cond t
 (k (rform, (word, (0 : Int))) (0 : Int))
 (k (rform, (([] : List UInt8), rform2)) (0 : Int)))))
def zqmt : zqmr := hid zqms
noncomputable def zqmu : En := ⟨88, .spec (sg [v26y] [] [(true, [.data zq7]), v19y] [] zqmt), pf [zqmf] [] [.cell 2 127, .tmp 3] Tryz.func88 (by kernel_rfl) fun _ _ => by kernel_rfl⟩
abbrev zqmv := {β : Type} → zqa → (Int → t10y → Option β) → Option β
noncomputable def zqmw : List En := [zqgx, zq6a, zq8k, zqmq]
abbrev zqmx (β : Type) := Int → t10y → Option β
abbrev zqmy (β : Type) := Int → zqa → Option β
abbrev zqmz (β : Type) := Int → t13y → Int → Int → zqa → Option β
noncomputable def zqn0 : Pc := ⟨86, 0, Q7 250 (Q5 Tryz.f103), ⟨0, [1, 4, 23, 24, 25], [v23y, v19y, v35y, v19y, v19y], [.cells 32 [.data zqb]]⟩, [(.ret, ⟨0, [2, 3], [v31y, v19y], l51y⟩), (.exit 0, ⟨0, [1, 4], [v23y, v19y], [.cells 32 [.data zqb]]⟩)]⟩
abbrev zqn1 (β : Type) := t10y → Option β
abbrev zqn2 (β : Type) := t13y → Int → Int → t10y → Option β
noncomputable def zqn3 : Pc := ⟨86, 0, Q7 2042 (Q5 Tryz.f103), ⟨0, [8, 46, 47, 48], [v31y, v35y, v19y, v19y], l51y⟩, [(.exit 2, ⟨0, [8], [v31y], l51y⟩)]⟩
abbrev zqn4 (β : Type) := t13y → Int → Int → t10y → Option β
abbrev zqn5 (β : Type) := Int → t13y → Int → Int → t10y → zq8 → Option β
noncomputable def zqn6 : Pc := ⟨86, 0, Q7 230 (Q1b zqn3.c), ⟨0, [8, 10, 11, 46, 47, 48], [v31y, v32y, v19y, v35y, v19y, v19y], [.row 165 (.prod (.int .i64) (.int .i64)), .cells 101 [.data zq9]]⟩, [(.exit 4, ⟨0, [8, 46, 47, 48], [v31y, v35y, v19y, v19y], l51y⟩)]⟩
def zqn7 {β : Type} (rec : zqmz β) (k1 : zqmx β) (k2 : zqmy β) : zqmz β := fun n t23 t24 t25 z =>
 cond (decide (t25 < t24))
 (cond (decide (0 ≤ t25) && decide (t25 < (List.length t23 : Int)))
 (let e := List.getD t23 (Int.toNat t25) ((0 : Int), ((0 : Int), ((0 : Int), ((0 : Int), ((0 : Int), ((0 : Int), (0 : Int)))))));
 zq8j e (fun rrule =>
 cond (!decide (rrule = (0 : Int)))
 (k1 rrule ([] : List t5y))
 (let n2 := (IntKind.i64.wrap (n + (IntKind.i64.wrap ((IntKind.i64.wrap (e.2.1 - e.1)) + (1 : Int)))));
 rec n2 t23 t24 (IntKind.i64.wrap (t25 + (1 : Int))) z)))
 none)
 (k2 n z)
def zqn8 (m : Nat) {β : Type} (k1 : zqmx β) (k2 : zqmy β) : zqmz β := lp5 (fun r => zqn7 r k1 k2) none m
theorem zqn9 {β : Type} (i : Nat) (k1 k2) : zqn8 (β := β) (i + 1) k1 k2 = zqn7 (zqn8 i k1 k2) k1 k2 := rfl
def zqna {β : Type} := hid (zqn8 (β := β) fuel)
noncomputable def zqnb : Pb := ⟨250, zqn0, fun _ => zqna, pl (p := zqn0) zqmw [] (g := fun i _ => zqn8 i) (by kernel_rfl) rfl (by kernel_rfl) (fun _ _ => rfl) fun _ _ _ _ => by kernel_rfl⟩
def zqnc {β : Type} (rec : zqn5 β) (k1 : zqn4 β) : zqn5 β := fun y t46 t47 t48 out r_ =>
 cond (decide (y ≤ r_.2.1))
 (zqgw y r_.2.2.1 r_.2.2.2.1 r_.2.2.2.2.1 (fun rNth rNth2 =>
 let l := ([((IntKind.i64.wrap ((IntKind.i64.wrap (rNth * (86400 : Int))) + r_.2.2.2.2.2.1)), r_.2.2.2.2.2.2)] : List t5y);
 cond (decide ((List.length out + List.length l) * 16 ≤ Qc))
 (let l2 := (out ++ l);
 let y2 := (IntKind.i64.wrap (y + (1 : Int)));
 rec y2 t46 t47 t48 l2 r_)
 none))
 (k1 t46 t47 t48 out)
def zqnd (m : Nat) {β : Type} (k1 : zqn4 β) : zqn5 β := lp6 (fun r => zqnc r k1) none m
theorem zqne {β : Type} (i : Nat) (k1) : zqnd (β := β) (i + 1) k1 = zqnc (zqnd i k1) k1 := rfl
def zqnf {β : Type} := hid (zqnd (β := β) fuel)
noncomputable def zqng : Pb := ⟨230, zqn6, fun _ => zqnf, pl (p := zqn6) zqmw [] (g := fun i _ => zqnd i) (by kernel_rfl) rfl (by kernel_rfl) (fun _ _ => rfl) fun _ _ _ _ => by kernel_rfl⟩
def zqnh {β : Type} (rec : zqn2 β) (k1 : zqn1 β) : zqn2 β := fun t46 t47 t48 out =>
 cond (decide (t48 < t47))
 (cond (decide (0 ≤ t48) && decide (t48 < (List.length t46 : Int)))
 (let e := List.getD t46 (Int.toNat t48) ((0 : Int), ((0 : Int), ((0 : Int), ((0 : Int), ((0 : Int), ((0 : Int), (0 : Int)))))));
 zqnf (fun t462 t472 t482 out2 =>
 rec t462 t472 (IntKind.i64.wrap (t482 + (1 : Int))) out2) e.1 t46 t47 t48 out e)
 none)
 (k1 out)
def zqni (m : Nat) {β : Type} (k1 : zqn1 β) : zqn2 β := lp4 (fun r => zqnh r k1) none m
theorem zqnj {β : Type} (i : Nat) (k1) : zqni (β := β) (i + 1) k1 = zqnh (zqni i k1) k1 := rfl
def zqnk {β : Type} := hid (zqni (β := β) fuel)
noncomputable def zqnl : Pb := ⟨2042, zqn3, fun _ => zqnk, pl (p := zqn3) zqmw [zqng] (g := fun i _ => zqni i) (by kernel_rfl) rfl (by kernel_rfl) (fun _ _ => rfl) fun _ _ _ _ => by kernel_rfl⟩
def zqnm : zqmv := fun z k =>
 Q2b z.2.1 (-64800 : Int) (64800 : Int) (fun rin =>
 cond (!rin)
 (k (1 : Int) ([] : List t5y))
 (cond (decide ((16 : Int) < (List.length z.2.2 : Int)))
 (k (5 : Int) ([] : List t5y))
 (zqna (fun t3 t2 =>
 k t3 t2) (fun n z2 =>
 cond (decide ((640 : Int) < n))
 (k (5 : Int) ([] : List t5y))
 (zqnk (fun out =>
 cond ((List.all out zqmi) && decide (List.length out < 13))
 (let l := (zqmk out);
 k (0 : Int) l)
 none) z2.2.2 (List.length z2.2.2 : Int) (0 : Int) ([] : List t5y))) (0 : Int) z.2.2 (List.length z.2.2 : Int) (0 : Int) z)))
def zqnn : zqmv := hid zqnm
noncomputable def zqno : En := ⟨103, .spec (sg [v38y] [] [v31y, v19y] l51y zqnn), pf zqmw [zqnb, zqnl] [.tmp 2, .tmp 3] Tryz.func103 (by kernel_rfl) fun _ _ => by kernel_rfl⟩
abbrev zqnp := {β : Type} → t12y → (Int → Option β) → Option β
noncomputable def zqnq : List En := [zqlx]
abbrev zqnr (β : Type) := Int → Option β
abbrev zqns (β : Type) := Unit → Option β
abbrev zqnt (β : Type) := t12y → Int → Int → Option β
noncomputable def zqnu : Pc := ⟨19, 0, Q7 26 (Q5 Tryz.f82), ⟨0, [0, 1, 7, 8], [v30y, (false, [.fn 56 []]), v19y, v19y], []⟩, [(.ret, ⟨0, [4], [v19y], []⟩), (.exit 0, ⟨0, [], [], []⟩)]⟩
def zqnv {β : Type} (rec : zqnt β) (k1 : zqnr β) (k2 : zqns β) : zqnt β := fun s t7 t8 =>
 cond (decide (t8 < t7))
 (cond (decide (0 ≤ t8) && decide (t8 < (List.length s : Int)))
 (let e := List.getD s (Int.toNat t8) (0 : Int);
 zqlw e (fun rcheckCalendar1 =>
 cond rcheckCalendar1
 (k1 t8)
 (rec s t7 (IntKind.i64.wrap (t8 + (1 : Int))))))
 none)
 (k2 ())
def zqnw (m : Nat) {β : Type} (k1 : zqnr β) (k2 : zqns β) : zqnt β := lp3 (fun r => zqnv r k1 k2) none m
theorem zqnx {β : Type} (i : Nat) (k1 k2) : zqnw (β := β) (i + 1) k1 k2 = zqnv (zqnw i k1 k2) k1 k2 := rfl
def zqny {β : Type} := hid (zqnw (β := β) fuel)
noncomputable def zqnz : Pb := ⟨26, zqnu, fun _ => zqny, pl (p := zqnu) zqnq [] (g := fun i _ => zqnw i) (by kernel_rfl) rfl (by kernel_rfl) (fun _ _ => rfl) fun _ _ _ _ => by kernel_rfl⟩
def zqo0 : zqnp := fun s k =>
 zqny (fun t4 =>
 k t4) (fun _ =>
 k (-1 : Int)) s (List.length s : Int) (0 : Int)
def zqo1 : zqnp := hid zqo0
noncomputable def zqo2 : En := ⟨82, .spec (sg [v30y, (false, [.fn 56 []])] [] [v19y] [] zqo1), pf zqnq [zqnz] [.tmp 4] Tryz.func82 (by kernel_rfl) fun _ _ => by kernel_rfl⟩
abbrev zqo3 := {β : Type} → t12y → zqg → (Int → zqg → Option β) → Option β
noncomputable def zqo4 : List En := [zq5j]
abbrev zqo5 (β : Type) := Int → zqg → Option β
abbrev zqo6 (β : Type) := zqg → Option β
abbrev zqo7 (β : Type) := t12y → Int → Int → zqg → Option β
noncomputable def zqo8 : Pc := ⟨19, 1, Q7 26 (Q5 Tryz.f82), ⟨1, [0, 1, 7, 8], [v30y, (false, [.fn 84 [0]]), v19y, v19y], [b22y]⟩, [(.ret, ⟨1, [4], [v19y], [b22y]⟩), (.exit 0, ⟨1, [], [], [b22y]⟩)]⟩
def zqo9 {β : Type} (rec : zqo7 β) (k1 : zqo5 β) (k2 : zqo6 β) : zqo7 β := fun s t7 t8 b0_ =>
 cond (decide (t8 < t7))
 (cond (decide (0 ≤ t8) && decide (t8 < (List.length s : Int)))
 (let e := List.getD s (Int.toNat t8) (0 : Int);
 zq5i e b0_ (fun rcheckLayer1 mrcheckLayer1 =>
 cond rcheckLayer1
 (k1 t8 mrcheckLayer1)
 (rec s t7 (IntKind.i64.wrap (t8 + (1 : Int))) mrcheckLayer1)))
 none)
 (k2 b0_)
def zqoa (m : Nat) {β : Type} (k1 : zqo5 β) (k2 : zqo6 β) : zqo7 β := lp4 (fun r => zqo9 r k1 k2) none m
theorem zqob {β : Type} (i : Nat) (k1 k2) : zqoa (β := β) (i + 1) k1 k2 = zqo9 (zqoa i k1 k2) k1 k2 := rfl
def zqoc {β : Type} := hid (zqoa (β := β) fuel)
noncomputable def zqod : Pb := ⟨26, zqo8, fun _ => zqoc, pl (p := zqo8) zqo4 [] (g := fun i _ => zqoa i) (by kernel_rfl) rfl (by kernel_rfl) (fun _ _ => rfl) fun _ _ _ _ => by kernel_rfl⟩
def zqoe : zqo3 := fun s b0_ k =>
 zqoc (fun t4 b0_2 =>
 k t4 b0_2) (fun b0_2 =>
 k (-1 : Int) b0_2) s (List.length s : Int) (0 : Int) b0_
def zqof : zqo3 := hid zqoe
noncomputable def zqog : En := ⟨82, .spec (sg [v30y, (false, [.fn 84 [0]])] [b22y] [v19y] [b22y] zqof), pf zqo4 [zqod] [.tmp 4] Tryz.func82 (by kernel_rfl) fun _ _ => by kernel_rfl⟩
abbrev zqoh := {β : Type} → t3y → (Int → t7y → Option β) → Option β
noncomputable def zqoi : List En := [zqmu, zq5q, zq5x]
abbrev zqoj (β : Type) := Int → t7y → Option β
abbrev zqok (β : Type) := t3y → Option β
abbrev zqol (β : Type) := t3y → Int → Int → Option β
noncomputable def zqom : Pc := ⟨56, 0, Q7 58 (Q5 Tryz.f64), ⟨0, [0, 14, 15], [v26y, v19y, v19y], []⟩, [(.ret, ⟨0, [2, 3], [v31y, v19y], [.row 127 zq7]⟩), (.exit 0, ⟨0, [0], [v26y], []⟩)]⟩
abbrev zqon (β : Type) := Int → t7y → Option β
abbrev zqoo (β : Type) := t7y → Option β
abbrev zqop (β : Type) := Int → Int → t7y → (List t3y) → Option β
noncomputable def zqoq : Pc := ⟨56, 0, Q7 506 (Q5 Tryz.f64), ⟨0, [5, 36, 37, 38], [v31y, v47y, v19y, v19y], [.row 127 zq7, .row 9 .str]⟩, [(.ret, ⟨0, [2, 3], [v31y, v19y], [.row 127 zq7]⟩), (.exit 2, ⟨0, [5], [v31y], [.row 127 zq7]⟩)]⟩
def zqor {β : Type} (rec : zqol β) (k1 : zqoj β) (k2 : zqok β) : zqol β := fun text t14 t15 =>
 cond (decide (t15 < t14))
 (cond (decide (0 ≤ t15) && decide (t15 < (List.length text : Int)))
 (cond (decide (((List.getD text (Int.toNat t15) 0).toNat : Int) < (32 : Int)))
 (k1 (2 : Int) ([] : List zq6))
 (cond (decide (0 ≤ t15) && decide (t15 < (List.length text : Int)))
 (cond (decide ((126 : Int) < ((List.getD text (Int.toNat t15) 0).toNat : Int)))
 (k1 (2 : Int) ([] : List zq6))
 (rec text t14 (IntKind.i64.wrap (t15 + (1 : Int)))))
 none))
 none)
 (k2 text)
def zqos (m : Nat) {β : Type} (k1 : zqoj β) (k2 : zqok β) : zqol β := lp3 (fun r => zqor r k1 k2) none m
theorem zqot {β : Type} (i : Nat) (k1 k2) : zqos (β := β) (i + 1) k1 k2 = zqor (zqos i k1 k2) k1 k2 := rfl
def zqou {β : Type} := hid (zqos (β := β) fuel)
noncomputable def zqov : Pb := ⟨58, zqom, fun _ => zqou, pl (p := zqom) zqoi [] (g := fun i _ => zqos i) (by kernel_rfl) rfl (by kernel_rfl) (fun _ _ => rfl) fun _ _ _ _ => by kernel_rfl⟩
def zqow {β : Type} (rec : zqop β) (k1 : zqon β) (k2 : zqoo β) : zqop β := fun t37 t38 out t36 =>
 cond (decide (t38 < t37))
 (cond (decide (0 ≤ t38) && decide (t38 < (List.length t36 : Int)))
 (let w := (List.getD t36 (Int.toNat t38) ([] : List UInt8));
 zqmt w (fun rToken rToken2 =>
 cond (!decide (rToken2 = (0 : Int)))
 (k1 rToken2 ([] : List zq6))
 (let l := ([rToken] : List zq6);
 cond (decide ((List.length out + List.length l) * 32 ≤ Qc))
 (let l2 := (out ++ l);
 rec t37 (IntKind.i64.wrap (t38 + (1 : Int))) l2 t36)
 none)))
 none)
 (k2 out)
def zqox (m : Nat) {β : Type} (k1 : zqon β) (k2 : zqoo β) : zqop β := lp4 (fun r => zqow r k1 k2) none m
theorem zqoy {β : Type} (i : Nat) (k1 k2) : zqox (β := β) (i + 1) k1 k2 = zqow (zqox i k1 k2) k1 k2 := rfl
def zqoz {β : Type} := hid (zqox (β := β) fuel)
noncomputable def zqp0 : Pb := ⟨506, zqoq, fun _ => zqoz, pl (p := zqoq) zqoi [] (g := fun i _ => zqox i) (by kernel_rfl) rfl (by kernel_rfl) (fun _ _ => rfl) fun _ _ _ _ => by kernel_rfl⟩
def zqp1 : zqoh := fun text k =>
 cond (decide ((512 : Int) < (List.length text : Int)))
 (k (5 : Int) ([] : List zq6))
 (zqou (fun t3 t2 =>
 k t3 t2) (fun text2 =>
 zq5o text2 ([35] : List UInt8) (fun rCut rCut2 rCut3 =>
 zq5v rCut (fun lrFields =>
 zqoz (fun t3 t2 =>
 k t3 t2) (fun out =>
 k (0 : Int) out) (List.length lrFields : Int) (0 : Int) ([] : List zq6) lrFields))) text (List.length text : Int) (0 : Int))
def zqp2 : zqoh := hid zqp1
noncomputable def zqp3 : En := ⟨64, .spec (sg [v26y] [] [v31y, v19y] [.row 127 zq7] zqp2), pf zqoi [zqov, zqp0] [.tmp 2, .tmp 3] Tryz.func64 (by kernel_rfl) fun _ _ => by kernel_rfl⟩
abbrev zqp4 := {β : Type} → zqa → (Int → t10y → Option β) → Option β
noncomputable def zqp5 : List En := [zq6a, zqno]
abbrev zqp6 (β : Type) := Int → t10y → Option β
abbrev zqp7 (β : Type) := t10y → Option β
abbrev zqp8 (β : Type) := Int → Int → Int → t10y → t10y → Option β
noncomputable def zqp9 : Pc := ⟨79, 0, Q7 506 (Q5 Tryz.f77), ⟨0, [6, 7, 22, 23, 24], [v31y, v19y, v47y, v19y, v19y], l61y⟩, [(.ret, ⟨0, [2, 3], [v31y, v19y], l62y⟩), (.exit 0, ⟨0, [6], [v31y], l62y⟩)]⟩
abbrev zqpa (β : Type) := Int → Int → Int → t10y → t10y → Option β
abbrev zqpb (β : Type) := Int → Int → Int → t10y → t5y → t10y → Option β
noncomputable def zqpc : Pc := ⟨79, 0, Q7 463 (Q1b zqp9.c), ⟨0, [6, 9, 10, 22, 23, 24], [v31y, v32y, v19y, (false, [.rowh 2]), v19y, v19y], [.row 167 (.prod (.int .i64) (.int .i64)), .cells 165 [.data (.prod (.int .i64) (.int .i64))], .row 165 (.prod (.int .i64) (.int .i64))]⟩, [(.normal, ⟨0, [6, 7, 22, 23, 24], [v31y, v19y, v47y, v19y, v19y], l61y⟩)]⟩
def zqpd {β : Type} (k1 : zqpa β) : zqpb β := fun at_ t23 t24 out o t22 =>
 let l := ([(at_, o.2)] : List t5y);
 cond (decide ((List.length out + List.length l) * 16 ≤ Qc))
 (let l2 := (out ++ l);
 k1 o.2 t23 t24 l2 t22)
 none
def zqpe {β : Type} := hid (zqpd (β := β))
noncomputable def zqpf : Pb := ⟨463, zqpc, fun _ => zqpe, pe (p := zqpc) zqp5 [] 463 (g := fun _ => zqpd) (by kernel_rfl) fun _ _ => by kernel_rfl⟩
def zqpg {β : Type} (rec : zqp8 β) (k1 : zqp6 β) (k2 : zqp7 β) : zqp8 β := fun now t23 t24 out t22 =>
 cond (decide (t24 < t23))
 (cond (decide (0 ≤ t24) && decide (t24 < (List.length t22 : Int)))
 (cond (decide (((List.getD t22 (Int.toNat t24) ((0 : Int), (0 : Int))).2) = now))
 (rec now t23 (IntKind.i64.wrap (t24 + (1 : Int))) out t22)
 (let at_ := (IntKind.i64.wrap (((List.getD t22 (Int.toNat t24) ((0 : Int), (0 : Int))).1) - now));
 let change := (IntKind.i64.wrap (((List.getD t22 (Int.toNat t24) ((0 : Int), (0 : Int))).2) - now));
 cond (decide ((86400 : Int) ≤ change))
 (k1 (6 : Int) ([] : List t5y))
 (cond (decide (change ≤ (-86400 : Int)))
 (k1 (6 : Int) ([] : List t5y))
 (Q2b at_ (0 : Int) (8589934592 : Int) (fun rin =>
 cond (!rin)
 (k1 (6 : Int) ([] : List t5y))
 (cond (decide ((0 : Int) < (List.length out : Int)))
 (cond (decide (0 ≤ (IntKind.i64.wrap ((List.length out : Int) - (1 : Int)))) && decide ((IntKind.i64.wrap ((List.length out : Int) - (1 : Int))) < (List.length out : Int)))
 (cond (decide (at_ < (IntKind.i64.wrap (((List.getD out (Int.toNat (IntKind.i64.wrap ((List.length out : Int) - (1 : Int)))) ((0 : Int), (0 : Int))).1) + (604800 : Int)))))
 (k1 (6 : Int) ([] : List t5y))
 (zqpe (fun now2 t232 t242 out2 t222 =>
 rec now2 t232 (IntKind.i64.wrap (t242 + (1 : Int))) out2 t222) at_ t23 t24 out (List.getD t22 (Int.toNat t24) ((0 : Int), (0 : Int))) t22))
 none)
 (zqpe (fun now2 t232 t242 out2 t222 =>
 rec now2 t232 (IntKind.i64.wrap (t242 + (1 : Int))) out2 t222) at_ t23 t24 out (List.getD t22 (Int.toNat t24) ((0 : Int), (0 : Int))) t22)))))))
 none)
 (k2 out)
def zqph (m : Nat) {β : Type} (k1 : zqp6 β) (k2 : zqp7 β) : zqp8 β := lp5 (fun r => zqpg r k1 k2) none m
theorem zqpi {β : Type} (i : Nat) (k1 k2) : zqph (β := β) (i + 1) k1 k2 = zqpg (zqph i k1 k2) k1 k2 := rfl
def zqpj {β : Type} := hid (zqph (β := β) fuel)
noncomputable def zqpk : Pb := ⟨506, zqp9, fun _ => zqpj, pl (p := zqp9) zqp5 [zqpf] (g := fun i _ => zqph i) (by kernel_rfl) rfl (by kernel_rfl) (fun _ _ => rfl) fun _ _ _ _ => by kernel_rfl⟩
def zqpl : zqp4 := fun z k =>
 zqnn z (fun roccurrences lroccurrences =>
 cond (!decide (roccurrences = (0 : Int)))
 (k roccurrences ([] : List t5y))
 (zqpj (fun t3 t2 =>
 k t3 t2) (fun out =>
 k (0 : Int) out) z.2.1 (List.length lroccurrences : Int) (0 : Int) ([] : List t5y) lroccurrences))
def zqpm : zqp4 := hid zqpl
noncomputable def zqpn : En := ⟨77, .spec (sg [v38y] [] [v31y, v19y] l62y zqpm), pf zqp5 [zqpk] [.tmp 2, .tmp 3] Tryz.func77 (by kernel_rfl) fun _ _ => by kernel_rfl⟩
abbrev zqpo := {β : Type} → t12y → (Bool → Option β) → Option β
def zqpp : zqpo := fun s k =>
 zqo1 s (fun rIndexFuncintint =>
 let t := (decide ((0 : Int) ≤ rIndexFuncintint));
 k t)
def zqpq : zqpo := hid zqpp
noncomputable def zqpr : En := ⟨55, .spec (sg [v30y, (false, [.fn 56 []])] [] [v21y] [] zqpq), pf [zqo2] [] [.tmp 4] Tryz.func55 (by kernel_rfl) fun _ _ => by kernel_rfl⟩
abbrev zqps := {β : Type} → t12y → zqg → (Bool → zqg → Option β) → Option β
def zqpt : zqps := fun s b0_ k =>
 zqof s b0_ (fun rIndexFuncintint mrIndexFuncintint =>
 let t := (decide ((0 : Int) ≤ rIndexFuncintint));
 k t mrIndexFuncintint)
def zqpu : zqps := hid zqpt
noncomputable def zqpv : En := ⟨55, .spec (sg [v30y, (false, [.fn 84 [0]])] [b22y] [v21y] [b22y] zqpu), pf [zqog] [] [.tmp 4] Tryz.func55 (by kernel_rfl) fun _ _ => by kernel_rfl⟩
abbrev zqpw := {β : Type} → zqg → zq0 → (Int → Option β) → Option β
noncomputable def zqpx : List En := [zq43, zqpr]
abbrev zqpy (β : Type) := Int → Option β
abbrev zqpz (β : Type) := Unit → Option β
abbrev zqq0 (β : Type) := Int → Int → zq0 → Option β
noncomputable def zqq1 : Pc := ⟨46, 0, Q7 58 (Q5 Tryz.f26), ⟨0, [3, 25, 26], [v23y, v19y, v19y], [.cells 71 [.data zq1]]⟩, [(.ret, ⟨0, [4], [v19y], []⟩), (.exit 1, ⟨0, [], [], []⟩)]⟩
def zqq2 {β : Type} (rec : zqq0 β) (k1 : zqpy β) (k2 : zqpz β) : zqq0 β := fun t25 t26 x =>
 cond (decide (t26 < t25))
 (cond (decide ((0 : Int) < t26))
 (cond (decide (0 ≤ t26) && decide (t26 < (List.length x.2.2 : Int)))
 (let e := List.getD x.2.2 (Int.toNat t26) (0 : Int);
 cond (decide (0 ≤ (IntKind.i64.wrap (t26 - (1 : Int)))) && decide ((IntKind.i64.wrap (t26 - (1 : Int))) < (List.length x.2.2 : Int)))
 (let e2 := List.getD x.2.2 (Int.toNat (IntKind.i64.wrap (t26 - (1 : Int)))) (0 : Int);
 cond (decide (e ≤ e2))
 (k1 (6 : Int))
 (rec t25 (IntKind.i64.wrap (t26 + (1 : Int))) x))
 none)
 none)
 (rec t25 (IntKind.i64.wrap (t26 + (1 : Int))) x))
 (k2 ())
def zqq3 (m : Nat) {β : Type} (k1 : zqpy β) (k2 : zqpz β) : zqq0 β := lp3 (fun r => zqq2 r k1 k2) none m
theorem zqq4 {β : Type} (i : Nat) (k1 k2) : zqq3 (β := β) (i + 1) k1 k2 = zqq2 (zqq3 i k1 k2) k1 k2 := rfl
def zqq5 {β : Type} := hid (zqq3 (β := β) fuel)
noncomputable def zqq6 : Pb := ⟨58, zqq1, fun _ => zqq5, pl (p := zqq1) zqpx [] (g := fun i _ => zqq3 i) (by kernel_rfl) rfl (by kernel_rfl) (fun _ _ => rfl) fun _ _ _ _ => by kernel_rfl⟩
def zqq7 : zqpw := fun c x k =>
 zq42 x.2.1 (List.length c.1 : Int) (fun rindex =>
 cond (!rindex)
 (k (3 : Int))
 (let t := (decide ((64 : Int) < (List.length x.2.2 : Int)));
 cond t
 (k (5 : Int))
 (zqpq x.2.2 (fun rContainsFuncintint =>
 cond rContainsFuncintint
 (k (1 : Int))
 (zqq5 (fun t4 =>
 k t4) (fun _ =>
 k (0 : Int)) (List.length x.2.2 : Int) (0 : Int) x)))))
def zqq8 : zqpw := hid zqq7
noncomputable def zqq9 : En := ⟨26, .spec (sg [v34y, v48y] [] [v19y] [] zqq8), pf zqpx [zqq6] [.tmp 4] Tryz.func26 (by kernel_rfl) fun _ _ => by kernel_rfl⟩
abbrev zqqa := {β : Type} → t3y → (Int → Int → (List t8y) → Option β) → Option β
noncomputable def zqqb : List En := [zqp3, zq4y, zqjk]
abbrev zqqc (β : Type) := Int → Int → (List t8y) → Option β
abbrev zqqd (β : Type) := (List t8y) → Option β
abbrev zqqe (β : Type) := Int → Int → (List t8y) → (List t3y) → Option β
noncomputable def zqqf : Pc := ⟨54, 0, Q7 58 (Q5 Tryz.f34), ⟨0, [2, 13, 14, 15], [v31y, v47y, v19y, v19y], [.row 119 (.prod (.int .i64) (.slice zq7)), .row 9 .str]⟩, [(.ret, ⟨0, [2, 3, 4], [v31y, v19y, v19y], l52y⟩), (.exit 0, ⟨0, [2], [v31y], l52y⟩)]⟩
abbrev zqqg (β : Type) := Int → Int → (List t8y) → Option β
abbrev zqqh (β : Type) := Int → Int → (List t8y) → (List t3y) → Option β
abbrev zqqi (β : Type) := Int → Int → Int → Int → (List t8y) → t7y → (List t3y) → Option β
noncomputable def zqqj : Pc := ⟨54, 0, Q7 231 (Q1b zqqf.c), ⟨0, [2, 5, 7, 8, 13, 14, 15], [v31y, v19y, v47y, v19y, (false, [.rowh 2]), v19y, v19y], [.row 119 (.prod (.int .i64) (.slice zq7)), .row 127 zq7, .row 9 .str]⟩, [(.ret, ⟨0, [2, 3, 4], [v31y, v19y, v19y], l52y⟩), (.normal, ⟨0, [2, 13, 14, 15], [v31y, v47y, v19y, v19y], [.row 119 (.prod (.int .i64) (.slice zq7)), .row 9 .str]⟩)]⟩
def zqqk {β : Type} (k1 : zqqg β) (k2 : zqqh β) : zqqi β := fun i_ e t14 t15 l t t13 =>
 cond (!decide (e = (0 : Int)))
 (let line := (IntKind.i64.wrap (i_ + (1 : Int)));
 k1 line e ([] : List t8y))
 (cond (decide ((0 : Int) < (List.length t : Int)))
 (let l2 := ([((IntKind.i64.wrap (i_ + (1 : Int))), t)] : List t8y);
 cond (decide ((List.length l + List.length l2) * 32 ≤ Qc))
 (let l3 := (l ++ l2);
 k2 t14 t15 l3 t13)
 none)
 (k2 t14 t15 l t13))
def zqql {β : Type} := hid (zqqk (β := β))
noncomputable def zqqm : Pb := ⟨231, zqqj, fun _ => zqql, pe (p := zqqj) zqqb [] 231 (g := fun _ => zqqk) (by kernel_rfl) fun _ _ => by kernel_rfl⟩
def zqqn {β : Type} (rec : zqqe β) (k1 : zqqc β) (k2 : zqqd β) : zqqe β := fun t14 t15 l t13 =>
 cond (decide (t15 < t14))
 (cond (decide (0 ≤ t15) && decide (t15 < (List.length t13 : Int)))
 (let s := (List.getD t13 (Int.toNat t15) ([] : List UInt8));
 zqp2 s (fun rLine lrLine =>
 cond (decide (rLine = (0 : Int)))
 (cond (decide ((0 : Int) < (List.length lrLine : Int)))
 (zqjj lrLine (fun rForm =>
 cond (!rForm)
 (zqql (fun line e l2 =>
 k1 line e l2) (fun t142 t152 l2 t132 =>
 rec t142 (IntKind.i64.wrap (t152 + (1 : Int))) l2 t132) t15 (2 : Int) t14 t15 l lrLine t13)
 (zqql (fun line e l2 =>
 k1 line e l2) (fun t142 t152 l2 t132 =>
 rec t142 (IntKind.i64.wrap (t152 + (1 : Int))) l2 t132) t15 rLine t14 t15 l lrLine t13)))
 (zqql (fun line e l2 =>
 k1 line e l2) (fun t142 t152 l2 t132 =>
 rec t142 (IntKind.i64.wrap (t152 + (1 : Int))) l2 t132) t15 rLine t14 t15 l lrLine t13))
 (zqql (fun line e l2 =>
 k1 line e l2) (fun t142 t152 l2 t132 =>
 rec t142 (IntKind.i64.wrap (t152 + (1 : Int))) l2 t132) t15 rLine t14 t15 l lrLine t13)))
 none)
 (k2 l)
def zqqo (m : Nat) {β : Type} (k1 : zqqc β) (k2 : zqqd β) : zqqe β := lp4 (fun r => zqqn r k1 k2) none m
theorem zqqp {β : Type} (i : Nat) (k1 k2) : zqqo (β := β) (i + 1) k1 k2 = zqqn (zqqo i k1 k2) k1 k2 := rfl
def zqqq {β : Type} := hid (zqqo (β := β) fuel)
noncomputable def zqqr : Pb := ⟨58, zqqf, fun _ => zqqq, pl (p := zqqf) zqqb [zqqm] (g := fun i _ => zqqo i) (by kernel_rfl) rfl (by kernel_rfl) (fun _ _ => rfl) fun _ _ _ _ => by kernel_rfl⟩
def zqqs : zqqa := fun text k =>
 cond (decide ((65536 : Int) < (List.length text : Int)))
 (k (0 : Int) (5 : Int) ([] : List t8y))
 (zq4w text ([10] : List UInt8) (fun lrSplit =>
 zqqq (fun line e l =>
 k line e l) (fun l =>
 k (0 : Int) (0 : Int) l) (List.length lrSplit : Int) (0 : Int) ([] : List t8y) lrSplit))
def zqqt : zqqa := hid zqqs
noncomputable def zqqu : En := ⟨34, .spec (sg [v26y] [] [v31y, v19y, v19y] l52y zqqt), pf zqqb [zqqr] [.tmp 2, .tmp 3, .tmp 4] Tryz.func34 (by kernel_rfl) fun _ _ => by kernel_rfl⟩
abbrev zqqv := {β : Type} → zqa → (Int → Option β) → Option β
def zqqw : zqqv := fun z k =>
 zqpm z (fun rTransitions lrTransitions =>
 k rTransitions)
def zqqx : zqqv := hid zqqw
noncomputable def zqqy : En := ⟨48, .spec (sg [v38y] [] [v19y] [] zqqx), pf [zqpn] [] [.tmp 2] Tryz.func48 (by kernel_rfl) fun _ _ => by kernel_rfl⟩
abbrev zqqz := {β : Type} → zqg → zq2 → (Int → Option β) → Option β
noncomputable def zqr0 : List En := [zqhr, zq5f, zq43, zqpv, zq4n]
abbrev zqr1 (β : Type) := Int → Option β
abbrev zqr2 (β : Type) := Unit → Option β
abbrev zqr3 (β : Type) := Bool → zq2 → Option β
noncomputable def zqr4 : Pc := ⟨91, 0, Q7 425983 (Q5 Tryz.f61), ⟨0, [3, 69], [v23y, v21y], [.cells 40 [.data zq3]]⟩, [(.ret, ⟨0, [4], [v19y], []⟩), (.normal, ⟨0, [], [], []⟩)]⟩
abbrev zqr5 (β : Type) := Int → Option β
abbrev zqr6 (β : Type) := Unit → Option β
abbrev zqr7 (β : Type) := Bool → zqg → zq2 → Option β
noncomputable def zqr8 : Pc := ⟨91, 0, Q7 103 (Q5 Tryz.f61), ⟨0, [2, 3, 13], [v23y, v32y, v21y], [b22y, .cells 40 [.data zq3]]⟩, [(.ret, ⟨0, [4], [v19y], []⟩), (.normal, ⟨0, [], [], []⟩)]⟩
def zqr9 {β : Type} (k1 : zqr1 β) (k2 : zqr2 β) : zqr3 β := fun t69 l =>
 cond t69
 (k1 (3 : Int))
 (cond (decide (l.2.2.2.2.2.2.2.2 = (0 : Int)))
 (let t := (!decide (l.2.2.2.2.2.2.2.1 = (0 : Int)));
 cond t
 (k1 (1 : Int))
 (k2 ()))
 (k2 ()))
def zqra {β : Type} := hid (zqr9 (β := β))
noncomputable def zqrb : Pb := ⟨425983, zqr4, fun _ => zqra, pe (p := zqr4) zqr0 [] 425983 (g := fun _ => zqr9) (by kernel_rfl) fun _ _ => by kernel_rfl⟩
def zqrc {β : Type} (k1 : zqr5 β) (k2 : zqr6 β) : zqr7 β := fun t13 c l =>
 cond t13
 (k1 (1 : Int))
 (let t := (decide ((List.length l.2.2.2.2.2.1 : Int) = (0 : Int)));
 cond t
 (k1 (7 : Int))
 (let t2 := (decide ((12 : Int) < (List.length l.2.2.2.2.2.1 : Int)));
 cond t2
 (k1 (5 : Int))
 (zqpu l.2.2.2.2.2.1 c (fun rContainsFuncintint mrContainsFuncintint =>
 cond rContainsFuncintint
 (k1 (3 : Int))
 (zq4m l.2.2.2.2.2.2.1 (fun rCheck =>
 let t3 := (!decide (rCheck = (0 : Int)));
 cond t3
 (k1 (8 : Int))
 (zq5e l.2.2.2.2.2.2.2.2 (0 : Int) (2 : Int) (fun rin =>
 cond (!rin)
 (k1 (1 : Int))
 (cond (!decide (l.2.2.2.2.2.2.2.2 = (0 : Int)))
 (zq42 l.2.2.2.2.2.2.2.1 (List.length mrContainsFuncintint.2.2.1 : Int) (fun rindex =>
 zqra (fun t4 =>
 k1 t4) (fun _ =>
 k2 ()) (!rindex) l))
 (zqra (fun t4 =>
 k1 t4) (fun _ =>
 k2 ()) false l))))))))))
def zqrd {β : Type} := hid (zqrc (β := β))
noncomputable def zqre : Pb := ⟨103, zqr8, fun _ => zqrd, pe (p := zqr8) zqr0 [zqrb] 103 (g := fun _ => zqrc) (by kernel_rfl) fun _ _ => by kernel_rfl⟩
def zqrf : zqqz := fun c l k =>
 zq42 l.2.1 (List.length c.1 : Int) (fun rindex =>
 cond (!rindex)
 (k (3 : Int))
 (cond (decide (l.2.2.1.1 < (1 : Int)))
 (zqrd (fun t4 =>
 k t4) (fun _ =>
 k (0 : Int)) true c l)
 (zqhq l.2.2.1.1 (fun rday =>
 cond (!rday)
 (zqrd (fun t4 =>
 k t4) (fun _ =>
 k (0 : Int)) true c l)
 (zq5e l.2.2.1.2 (0 : Int) (86399 : Int) (fun rin =>
 cond (!rin)
 (zqrd (fun t4 =>
 k t4) (fun _ =>
 k (0 : Int)) true c l)
 (zq5e l.2.2.2.1 (0 : Int) (2 : Int) (fun rin2 =>
 cond (!rin2)
 (zqrd (fun t4 =>
 k t4) (fun _ =>
 k (0 : Int)) true c l)
 (zq5e l.2.2.2.2.1 (1 : Int) (400 : Int) (fun rin3 =>
 zqrd (fun t4 =>
 k t4) (fun _ =>
 k (0 : Int)) (!rin3) c l))))))))))
def zqrg : zqqz := hid zqrf
noncomputable def zqrh : En := ⟨61, .spec (sg [v34y, v46y] [] [v19y] [] zqrg), pf zqr0 [zqre] [.tmp 4] Tryz.func61 (by kernel_rfl) fun _ _ => by kernel_rfl⟩
abbrev zqri := {β : Type} → zq0 → zqg → (Int → zqg → Option β) → Option β
def zqrj : zqri := fun x t1 k =>
 zqq8 t1 x (fun rcheckCalendar =>
 k rcheckCalendar t1)
def zqrk : zqri := hid zqrj
noncomputable def zqrl : En := ⟨25, .spec (sg [v48y, v23y] [b22y] [v19y] [b22y] zqrk), pf [zqq9] [] [.tmp 3] Tryz.func25 (by kernel_rfl) fun _ _ => by kernel_rfl⟩
abbrev zqrm := {β : Type} → zq2 → zqg → (Int → zqg → Option β) → Option β
def zqrn : zqrm := fun l t1 k =>
 zqrg t1 l (fun rcheckLayer =>
 k rcheckLayer t1)
def zqro : zqrm := hid zqrn
noncomputable def zqrp : En := ⟨60, .spec (sg [v46y, v23y] [b22y] [v19y] [b22y] zqro), pf [zqrh] [] [.tmp 3] Tryz.func60 (by kernel_rfl) fun _ _ => by kernel_rfl⟩
abbrev zqrq := {β : Type} → (List zq2) → zqg → (Int → zqg → Option β) → Option β
noncomputable def zqrr : List En := [zq4r, zqrp, zqft]
abbrev zqrs (β : Type) := Int → zqg → Option β
abbrev zqrt (β : Type) := zqg → Option β
abbrev zqru (β : Type) := (List zq2) → Int → Int → zqg → (List t9y) → Option β
noncomputable def zqrv : Pc := ⟨34, 1, Q7 58 (Q5 Tryz.f58), ⟨1, [1, 2, 7, 13, 14, 15], [(false, [.fn 59 []]), (false, [.fn 60 [0]]), (false, [.maph 1]), (false, [.data (.slice zq3)]), v19y, v19y], l54y⟩, [(.ret, ⟨1, [6], [v19y], [b22y]⟩), (.exit 0, ⟨1, [], [], [b22y]⟩)]⟩
def zqrw {β : Type} (rec : zqru β) (k1 : zqrs β) (k2 : zqrt β) : zqru β := fun t13 t14 t15 b0_ seen =>
 cond (decide (t15 < t14))
 (cond (decide (0 ≤ t15) && decide (t15 < (List.length t13 : Int)))
 (let e := List.getD t13 (Int.toNat t15) (([] : List UInt8), ((0 : Int), (((0 : Int), (0 : Int)), ((0 : Int), ((0 : Int), (([] : List Int), (([] : List t5y), ((0 : Int), (0 : Int)))))))));
 zq4q e (fun rcheckSchedule1 =>
 zqfr rcheckSchedule1 seen (fun rname lrname =>
 cond (!decide (rname = (0 : Int)))
 (k1 rname b0_)
 (zqro e b0_ (fun rcheckSchedule2 mrcheckSchedule2 =>
 cond (!decide (rcheckSchedule2 = (0 : Int)))
 (k1 rcheckSchedule2 mrcheckSchedule2)
 (rec t13 t14 (IntKind.i64.wrap (t15 + (1 : Int))) mrcheckSchedule2 lrname))))))
 none)
 (k2 b0_)
def zqrx (m : Nat) {β : Type} (k1 : zqrs β) (k2 : zqrt β) : zqru β := lp5 (fun r => zqrw r k1 k2) none m
theorem zqry {β : Type} (i : Nat) (k1 k2) : zqrx (β := β) (i + 1) k1 k2 = zqrw (zqrx i k1 k2) k1 k2 := rfl
def zqrz {β : Type} := hid (zqrx (β := β) fuel)
noncomputable def zqs0 : Pb := ⟨58, zqrv, fun _ => zqrz, pl (p := zqrv) zqrr [] (g := fun i _ => zqrx i) (by kernel_rfl) rfl (by kernel_rfl) (fun _ _ => rfl) fun _ _ _ _ => by kernel_rfl⟩
def zqs1 : zqrq := fun l b0_ k =>
 let m_ := ([] : List t9y);
 zqrz (fun t6 b0_2 =>
 k t6 b0_2) (fun b0_2 =>
 k (0 : Int) b0_2) l (List.length l : Int) (0 : Int) b0_ m_
def zqs2 : zqrq := hid zqs1
noncomputable def zqs3 : En := ⟨58, .spec (sg [(false, [.data (.slice zq3)]), (false, [.fn 59 []]), (false, [.fn 60 [0]])] [b22y] [v19y] [b22y] zqs2), pf zqrr [zqs0] [.tmp 6] Tryz.func58 (by kernel_rfl) fun _ _ => by kernel_rfl⟩
abbrev zqs4 := {β : Type} → zqg → zq4 → (Int → Option β) → Option β
noncomputable def zqs5 : List En := [zqiu, zqs3]
abbrev zqs6 (β : Type) := Int → Option β
abbrev zqs7 (β : Type) := Unit → Option β
abbrev zqs8 (β : Type) := (List t0y) → Int → Int → zqg → Option β
noncomputable def zqs9 : Pc := ⟨40, 0, Q7 250 (Q5 Tryz.f30), ⟨0, [2, 27, 28, 29], [v23y, (false, [.data (.slice (.prod (.int .i64) (.prod (.int .i64) (.prod (.int .i64) (.prod (.int .i64) (.int .i64))))))]), v19y, v19y], [b22y]⟩, [(.ret, ⟨0, [4], [v19y], []⟩), (.exit 0, ⟨0, [], [], []⟩)]⟩
def zqsa {β : Type} (rec : zqs8 β) (k1 : zqs6 β) (k2 : zqs7 β) : zqs8 β := fun t27 t28 t29 c =>
 cond (decide (t29 < t28))
 (cond (decide (0 ≤ t29) && decide (t29 < (List.length t27 : Int)))
 (let e := List.getD t27 (Int.toNat t29) ((0 : Int), ((0 : Int), ((0 : Int), ((0 : Int), (0 : Int)))));
 zqit c e (fun rcheckEdit =>
 cond (!decide (rcheckEdit = (0 : Int)))
 (k1 rcheckEdit)
 (rec t27 t28 (IntKind.i64.wrap (t29 + (1 : Int))) c)))
 none)
 (k2 ())
def zqsb (m : Nat) {β : Type} (k1 : zqs6 β) (k2 : zqs7 β) : zqs8 β := lp4 (fun r => zqsa r k1 k2) none m
theorem zqsc {β : Type} (i : Nat) (k1 k2) : zqsb (β := β) (i + 1) k1 k2 = zqsa (zqsb i k1 k2) k1 k2 := rfl
def zqsd {β : Type} := hid (zqsb (β := β) fuel)
noncomputable def zqse : Pb := ⟨250, zqs9, fun _ => zqsd, pl (p := zqs9) zqs5 [] (g := fun i _ => zqsb i) (by kernel_rfl) rfl (by kernel_rfl) (fun _ _ => rfl) fun _ _ _ _ => by kernel_rfl⟩
def zqsf : zqs4 := fun c s k =>
 cond (decide ((6 : Int) < (List.length s.2.1 : Int)))
 (k (5 : Int))
 (cond (decide ((48 : Int) < (List.length s.2.2 : Int)))
 (k (5 : Int))
 (zqs2 s.2.1 c (fun rLayer mrLayer =>
 cond (!decide (rLayer = (0 : Int)))
 (k rLayer)
 (zqsd (fun t4 =>
 k t4) (fun _ =>
 k (0 : Int)) s.2.2 (List.length s.2.2 : Int) (0 : Int) mrLayer))))
def zqsg : zqs4 := hid zqsf
noncomputable def zqsh : En := ⟨30, .spec (sg [v34y, v41y] [] [v19y] [] zqsg), pf zqs5 [zqse] [.tmp 4] Tryz.func30 (by kernel_rfl) fun _ _ => by kernel_rfl⟩
abbrev zqsi := {β : Type} → zq4 → zqg → (Int → zqg → Option β) → Option β
def zqsj : zqsi := fun s t1 k =>
 zqsg t1 s (fun rcheckSchedule =>
 k rcheckSchedule t1)
def zqsk : zqsi := hid zqsj
noncomputable def zqsl : En := ⟨29, .spec (sg [v41y, v23y] [b22y] [v19y] [b22y] zqsk), pf [zqsh] [] [.tmp 3] Tryz.func29 (by kernel_rfl) fun _ _ => by kernel_rfl⟩
abbrev zqsm := {β : Type} → t13y → (Int → Option β) → Option β
noncomputable def zqsn : List En := [zq3z]
abbrev zqso (β : Type) := Int → Option β
abbrev zqsp (β : Type) := Unit → Option β
abbrev zqsq (β : Type) := t13y → Int → Int → Option β
noncomputable def zqsr : Pc := ⟨19, 0, Q7 26 (Q5 Tryz.f78), ⟨0, [0, 1, 7, 8], [v35y, (false, [.fn 50 []]), v19y, v19y], []⟩, [(.ret, ⟨0, [4], [v19y], []⟩), (.exit 0, ⟨0, [], [], []⟩)]⟩
def zqss {β : Type} (rec : zqsq β) (k1 : zqso β) (k2 : zqsp β) : zqsq β := fun s t7 t8 =>
 cond (decide (t8 < t7))
 (cond (decide (0 ≤ t8) && decide (t8 < (List.length s : Int)))
 (let e := List.getD s (Int.toNat t8) ((0 : Int), ((0 : Int), ((0 : Int), ((0 : Int), ((0 : Int), ((0 : Int), (0 : Int)))))));
 zq3y e (fun rcheckZone1 =>
 cond rcheckZone1
 (k1 t8)
 (rec s t7 (IntKind.i64.wrap (t8 + (1 : Int))))))
 none)
 (k2 ())
def zqst (m : Nat) {β : Type} (k1 : zqso β) (k2 : zqsp β) : zqsq β := lp3 (fun r => zqss r k1 k2) none m
theorem zqsu {β : Type} (i : Nat) (k1 k2) : zqst (β := β) (i + 1) k1 k2 = zqss (zqst i k1 k2) k1 k2 := rfl
def zqsv {β : Type} := hid (zqst (β := β) fuel)
noncomputable def zqsw : Pb := ⟨26, zqsr, fun _ => zqsv, pl (p := zqsr) zqsn [] (g := fun i _ => zqst i) (by kernel_rfl) rfl (by kernel_rfl) (fun _ _ => rfl) fun _ _ _ _ => by kernel_rfl⟩
def zqsx : zqsm := fun s k =>
 zqsv (fun t4 =>
 k t4) (fun _ =>
 k (-1 : Int)) s (List.length s : Int) (0 : Int)
def zqsy : zqsm := hid zqsx
noncomputable def zqsz : En := ⟨78, .spec (sg [v35y, (false, [.fn 50 []])] [] [v19y] [] zqsy), pf zqsn [zqsw] [.tmp 4] Tryz.func78 (by kernel_rfl) fun _ _ => by kernel_rfl⟩
abbrev zqt0 := {β : Type} → t13y → (Bool → Option β) → Option β
def zqt1 : zqt0 := fun s k =>
 zqsy s (fun rYearRule =>
 let t := (decide ((0 : Int) ≤ rYearRule));
 k t)
def zqt2 : zqt0 := hid zqt1
noncomputable def zqt3 : En := ⟨49, .spec (sg [v35y, (false, [.fn 50 []])] [] [v21y] [] zqt2), pf [zqsz] [] [.tmp 4] Tryz.func49 (by kernel_rfl) fun _ _ => by kernel_rfl⟩
abbrev zqt4 := {β : Type} → zqa → (Int → Option β) → Option β
def zqt5 : zqt4 := fun z k =>
 zqqx z (fun rCheck =>
 cond (!decide (rCheck = (0 : Int)))
 (k (8 : Int))
 (cond (!decide ((Int.tmod z.2.1 (60 : Int)) = (0 : Int)))
 (k (8 : Int))
 (zqt2 z.2.2 (fun rYearRule =>
 cond rYearRule
 (k (8 : Int))
 (k (0 : Int))))))
def zqt6 : zqt4 := hid zqt5
noncomputable def zqt7 : En := ⟨20, .spec (sg [v38y] [] [v19y] [] zqt6), pf [zqt3, zqqy] [] [.tmp 2] Tryz.func20 (by kernel_rfl) fun _ _ => by kernel_rfl⟩
abbrev zqt8 := {β : Type} → t6y → (Int → Option β) → Option β
noncomputable def zqt9 : List En := [zq12, zqt7, zqft]
abbrev zqta (β : Type) := Int → Option β
abbrev zqtb (β : Type) := Unit → Option β
abbrev zqtc (β : Type) := t6y → Int → Int → (List t9y) → Option β
noncomputable def zqtd : Pc := ⟨34, 0, Q7 58 (Q5 Tryz.f18), ⟨0, [1, 2, 7, 13, 14, 15], [(false, [.fn 19 []]), (false, [.fn 20 []]), (false, [.maph 0]), v45y, v19y, v19y], [.map 66 .str .bool false]⟩, [(.ret, ⟨0, [6], [v19y], []⟩), (.exit 0, ⟨0, [], [], []⟩)]⟩
def zqte {β : Type} (rec : zqtc β) (k1 : zqta β) (k2 : zqtb β) : zqtc β := fun t13 t14 t15 seen =>
 cond (decide (t15 < t14))
 (cond (decide (0 ≤ t15) && decide (t15 < (List.length t13 : Int)))
 (let e := List.getD t13 (Int.toNat t15) (([] : List UInt8), ((0 : Int), ([] : List zq8)));
 zq11 e (fun rCheck1 =>
 zqfr rCheck1 seen (fun rname lrname =>
 cond (!decide (rname = (0 : Int)))
 (k1 rname)
 (zqt6 e (fun rcheckZone =>
 cond (!decide (rcheckZone = (0 : Int)))
 (k1 rcheckZone)
 (rec t13 t14 (IntKind.i64.wrap (t15 + (1 : Int))) lrname))))))
 none)
 (k2 ())
def zqtf (m : Nat) {β : Type} (k1 : zqta β) (k2 : zqtb β) : zqtc β := lp4 (fun r => zqte r k1 k2) none m
theorem zqtg {β : Type} (i : Nat) (k1 k2) : zqtf (β := β) (i + 1) k1 k2 = zqte (zqtf i k1 k2) k1 k2 := rfl
def zqth {β : Type} := hid (zqtf (β := β) fuel)
noncomputable def zqti : Pb := ⟨58, zqtd, fun _ => zqth, pl (p := zqtd) zqt9 [] (g := fun i _ => zqtf i) (by kernel_rfl) rfl (by kernel_rfl) (fun _ _ => rfl) fun _ _ _ _ => by kernel_rfl⟩
def zqtj : zqt8 := fun l k =>
 let m_ := ([] : List t9y);
 zqth (fun t6 =>
 k t6) (fun _ =>
 k (0 : Int)) l (List.length l : Int) (0 : Int) m_
def zqtk : zqt8 := hid zqtj
noncomputable def zqtl : En := ⟨18, .spec (sg [v45y, (false, [.fn 19 []]), (false, [.fn 20 []])] [] [v19y] [] zqtk), pf zqt9 [zqti] [.tmp 6] Tryz.func18 (by kernel_rfl) fun _ _ => by kernel_rfl⟩
abbrev zqtm := {β : Type} → t2y → zqg → (Int → zqg → Option β) → Option β
noncomputable def zqtn : List En := [zq16, zqrl, zqft]
abbrev zqto (β : Type) := Int → zqg → Option β
abbrev zqtp (β : Type) := zqg → Option β
abbrev zqtq (β : Type) := t2y → Int → Int → zqg → (List t9y) → Option β
noncomputable def zqtr : Pc := ⟨34, 1, Q7 58 (Q5 Tryz.f23), ⟨1, [1, 2, 7, 13, 14, 15], [(false, [.fn 24 []]), (false, [.fn 25 [0]]), (false, [.maph 1]), v43y, v19y, v19y], l54y⟩, [(.ret, ⟨1, [6], [v19y], [b22y]⟩), (.exit 0, ⟨1, [], [], [b22y]⟩)]⟩
def zqts {β : Type} (rec : zqtq β) (k1 : zqto β) (k2 : zqtp β) : zqtq β := fun t13 t14 t15 b0_ seen =>
 cond (decide (t15 < t14))
 (cond (decide (0 ≤ t15) && decide (t15 < (List.length t13 : Int)))
 (let e := List.getD t13 (Int.toNat t15) (([] : List UInt8), ((0 : Int), ([] : List Int)));
 zq15 e (fun rCheck2 =>
 zqfr rCheck2 seen (fun rname lrname =>
 cond (!decide (rname = (0 : Int)))
 (k1 rname b0_)
 (zqrk e b0_ (fun rCheck3 mrCheck3 =>
 cond (!decide (rCheck3 = (0 : Int)))
 (k1 rCheck3 mrCheck3)
 (rec t13 t14 (IntKind.i64.wrap (t15 + (1 : Int))) mrCheck3 lrname))))))
 none)
 (k2 b0_)
def zqtt (m : Nat) {β : Type} (k1 : zqto β) (k2 : zqtp β) : zqtq β := lp5 (fun r => zqts r k1 k2) none m
theorem zqtu {β : Type} (i : Nat) (k1 k2) : zqtt (β := β) (i + 1) k1 k2 = zqts (zqtt i k1 k2) k1 k2 := rfl
def zqtv {β : Type} := hid (zqtt (β := β) fuel)
noncomputable def zqtw : Pb := ⟨58, zqtr, fun _ => zqtv, pl (p := zqtr) zqtn [] (g := fun i _ => zqtt i) (by kernel_rfl) rfl (by kernel_rfl) (fun _ _ => rfl) fun _ _ _ _ => by kernel_rfl⟩
def zqtx : zqtm := fun l b0_ k =>
 let m_ := ([] : List t9y);
 zqtv (fun t6 b0_2 =>
 k t6 b0_2) (fun b0_2 =>
 k (0 : Int) b0_2) l (List.length l : Int) (0 : Int) b0_ m_
def zqty : zqtm := hid zqtx
noncomputable def zqtz : En := ⟨23, .spec (sg [v43y, (false, [.fn 24 []]), (false, [.fn 25 [0]])] [b22y] [v19y] [b22y] zqty), pf zqtn [zqtw] [.tmp 6] Tryz.func23 (by kernel_rfl) fun _ _ => by kernel_rfl⟩
abbrev zqu0 := {β : Type} → t1y → zqg → (Int → zqg → Option β) → Option β
noncomputable def zqu1 : List En := [zq1a, zqsl, zqft]
abbrev zqu2 (β : Type) := Int → zqg → Option β
abbrev zqu3 (β : Type) := zqg → Option β
abbrev zqu4 (β : Type) := t1y → Int → Int → zqg → (List t9y) → Option β
noncomputable def zqu5 : Pc := ⟨34, 1, Q7 58 (Q5 Tryz.f27), ⟨1, [1, 2, 7, 13, 14, 15], [(false, [.fn 28 []]), (false, [.fn 29 [0]]), (false, [.maph 1]), v42y, v19y, v19y], l54y⟩, [(.ret, ⟨1, [6], [v19y], [b22y]⟩), (.exit 0, ⟨1, [], [], [b22y]⟩)]⟩
def zqu6 {β : Type} (rec : zqu4 β) (k1 : zqu2 β) (k2 : zqu3 β) : zqu4 β := fun t13 t14 t15 b0_ seen =>
 cond (decide (t15 < t14))
 (cond (decide (0 ≤ t15) && decide (t15 < (List.length t13 : Int)))
 (let e := List.getD t13 (Int.toNat t15) (([] : List UInt8), (([] : List zq2), ([] : List t0y)));
 zq19 e (fun rCheck4 =>
 zqfr rCheck4 seen (fun rname lrname =>
 cond (!decide (rname = (0 : Int)))
 (k1 rname b0_)
 (zqsk e b0_ (fun rCheck5 mrCheck5 =>
 cond (!decide (rCheck5 = (0 : Int)))
 (k1 rCheck5 mrCheck5)
 (rec t13 t14 (IntKind.i64.wrap (t15 + (1 : Int))) mrCheck5 lrname))))))
 none)
 (k2 b0_)
def zqu7 (m : Nat) {β : Type} (k1 : zqu2 β) (k2 : zqu3 β) : zqu4 β := lp5 (fun r => zqu6 r k1 k2) none m
theorem zqu8 {β : Type} (i : Nat) (k1 k2) : zqu7 (β := β) (i + 1) k1 k2 = zqu6 (zqu7 i k1 k2) k1 k2 := rfl
def zqu9 {β : Type} := hid (zqu7 (β := β) fuel)
noncomputable def zqua : Pb := ⟨58, zqu5, fun _ => zqu9, pl (p := zqu5) zqu1 [] (g := fun i _ => zqu7 i) (by kernel_rfl) rfl (by kernel_rfl) (fun _ _ => rfl) fun _ _ _ _ => by kernel_rfl⟩
def zqub : zqu0 := fun l b0_ k =>
 let m_ := ([] : List t9y);
 zqu9 (fun t6 b0_2 =>
 k t6 b0_2) (fun b0_2 =>
 k (0 : Int) b0_2) l (List.length l : Int) (0 : Int) b0_ m_
def zquc : zqu0 := hid zqub
noncomputable def zqud : En := ⟨27, .spec (sg [v42y, (false, [.fn 28 []]), (false, [.fn 29 [0]])] [b22y] [v19y] [b22y] zquc), pf zqu1 [zqua] [.tmp 6] Tryz.func27 (by kernel_rfl) fun _ _ => by kernel_rfl⟩
abbrev zque := {β : Type} → zqg → (Int → Option β) → Option β
noncomputable def zquf : List En := [zqfx, zqft, zqtz, zqud, zqtl]
abbrev zqug (β : Type) := Int → Option β
abbrev zquh (β : Type) := zqg → Option β
abbrev zqui (β : Type) := t4y → Int → Int → zqg → (List t9y) → Option β
noncomputable def zquj : Pc := ⟨72, 0, Q7 250 (Q5 Tryz.f7), ⟨0, [1, 4, 39, 40, 41], [v23y, (false, [.maph 1]), v40y, v19y, v19y], l54y⟩, [(.ret, ⟨0, [2], [v19y], []⟩), (.exit 0, ⟨0, [1], [v23y], [b22y]⟩)]⟩
abbrev zquk (β : Type) := Int → Option β
abbrev zqul (β : Type) := t4y → Int → Int → zqg → (List t9y) → Option β
abbrev zqum (β : Type) := Int → t4y → Int → Int → zqg → (List t9y) → zqe → Option β
noncomputable def zqun : Pc := ⟨72, 0, Q7 231 (Q1b zquj.c), ⟨0, [1, 4, 6, 7, 39, 40, 41], [v23y, (false, [.maph 1]), (false, [.ptr 2 0]), v19y, v40y, v19y, v19y], [b22y, .map 66 .str .bool false, .cells 35 [.data zqf]]⟩, [(.ret, ⟨0, [2], [v19y], []⟩), (.normal, ⟨0, [1, 4, 39, 40, 41], [v23y, (false, [.maph 1]), v40y, v19y, v19y], l54y⟩)]⟩
def zquo {β : Type} (k1 : zquk β) (k2 : zqul β) : zqum β := fun e t39 t40 t41 c seen p_ =>
 cond (decide (e = (0 : Int)))
 (zqfw c p_ (fun rcheckPerson =>
 cond (!decide (rcheckPerson = (0 : Int)))
 (k1 rcheckPerson)
 (k2 t39 t40 t41 c seen)))
 (cond (!decide (e = (0 : Int)))
 (k1 e)
 (k2 t39 t40 t41 c seen))
def zqup {β : Type} := hid (zquo (β := β))
noncomputable def zquq : Pb := ⟨231, zqun, fun _ => zqup, pe (p := zqun) zquf [] 231 (g := fun _ => zquo) (by kernel_rfl) fun _ _ => by kernel_rfl⟩
def zqur {β : Type} (rec : zqui β) (k1 : zqug β) (k2 : zquh β) : zqui β := fun t39 t40 t41 c seen =>
 cond (decide (t41 < t40))
 (cond (decide (0 ≤ t41) && decide (t41 < (List.length t39 : Int)))
 (let e := List.getD t39 (Int.toNat t41) (([] : List UInt8), ((0 : Int), (([] : List t5y), ((0 : Int), ((0 : Int), false)))));
 zqfr e.1 seen (fun rname lrname =>
 cond (decide (e.1 = ([110, 111, 98, 111, 100, 121] : List UInt8)))
 (zqup (fun t2 =>
 k1 t2) (fun t392 t402 t412 c2 seen2 =>
 rec t392 t402 (IntKind.i64.wrap (t412 + (1 : Int))) c2 seen2) (2 : Int) t39 t40 t41 c lrname e)
 (zqup (fun t2 =>
 k1 t2) (fun t392 t402 t412 c2 seen2 =>
 rec t392 t402 (IntKind.i64.wrap (t412 + (1 : Int))) c2 seen2) rname t39 t40 t41 c lrname e)))
 none)
 (k2 c)
def zqus (m : Nat) {β : Type} (k1 : zqug β) (k2 : zquh β) : zqui β := lp5 (fun r => zqur r k1 k2) none m
theorem zqut {β : Type} (i : Nat) (k1 k2) : zqus (β := β) (i + 1) k1 k2 = zqur (zqus i k1 k2) k1 k2 := rfl
def zquu {β : Type} := hid (zqus (β := β) fuel)
noncomputable def zquv : Pb := ⟨250, zquj, fun _ => zquu, pl (p := zquj) zquf [zquq] (g := fun i _ => zqus i) (by kernel_rfl) rfl (by kernel_rfl) (fun _ _ => rfl) fun _ _ _ _ => by kernel_rfl⟩
def zquw : zque := fun c k =>
 cond (decide ((16 : Int) < (List.length c.1 : Int)))
 (k (5 : Int))
 (cond (decide ((32 : Int) < (List.length c.2.1 : Int)))
 (k (5 : Int))
 (cond (decide ((8 : Int) < (List.length c.2.2.1 : Int)))
 (k (5 : Int))
 (cond (decide ((12 : Int) < (List.length c.2.2.2 : Int)))
 (k (5 : Int))
 (zqtk c.1 (fun rZone =>
 cond (!decide (rZone = (0 : Int)))
 (k rZone)
 (let m_ := ([] : List t9y);
 zquu (fun t2 =>
 k t2) (fun c2 =>
 zqty c2.2.2.1 c2 (fun rCalendar mrCalendar =>
 cond (!decide (rCalendar = (0 : Int)))
 (k rCalendar)
 (zquc mrCalendar.2.2.2 mrCalendar (fun rSchedule mrSchedule =>
 k rSchedule)))) c.2.1 (List.length c.2.1 : Int) (0 : Int) c m_))))))
def zqux : zque := hid zquw
noncomputable def zquy : En := ⟨7, .spec (sg [v34y] [] [v19y] [] zqux), pf zquf [zquv] [.tmp 2] Tryz.func7 (by kernel_rfl) fun _ _ => by kernel_rfl⟩
abbrev zquz := {β : Type} → (List t8y) → (zqg → Int → Int → Option β) → Option β
noncomputable def zqv0 : List En := [zquy, zqk3, zqc1, zqle, zqk8, zqkn, zqks, zqjy, zqgo, zqgj, zq67, zqgt, zq62, zq4z, zqjk]
abbrev zqv1 (β : Type) := Int → Int → t6y → t4y → t2y → t1y → Option β
abbrev zqv2 (β : Type) := t6y → t4y → t2y → t1y → t6y → t4y → t2y → t1y → Option β
abbrev zqv3 (β : Type) := (List t8y) → Int → Int → t6y → t4y → t2y → t1y → t6y → t4y → t2y → t1y → Option β
noncomputable def zqv4 : Pc := ⟨58, 0, Q7 122 (Q5 Tryz.f35), ⟨0, [2, 5, 6, 15, 16, 17], [v23y, v32y, (false, [.maph 2]), v37y, v19y, v19y], [.cells 27 [.trowh 3, .trowh 4, .trowh 5, .trowh 6], .cells 122 [.trowh 7, .trowh 8, .trowh 9, .trowh 10], .fmap 123 [([122, 111, 110, 101], (91, 1)), ([114, 117, 108, 101], (92, 1)), ([112, 101, 114, 115, 111, 110], (93, 1)), ([113, 117, 105, 101, 116], (94, 1)), ([99, 97, 108, 101, 110, 100, 97, 114], (95, 1)), ([100, 97, 121, 115], (96, 1)), ([115, 99, 104, 101, 100, 117, 108, 101], (97, 1)), ([108, 97, 121, 101, 114], (98, 1)), ([109, 101, 109, 98, 101, 114], (99, 1)), ([111, 110], (100, 1)), ([110, 111, 116], (101, 1)), ([111, 110, 108, 121], (101, 1)), ([108, 101, 97, 118, 101], (102, 1)), ([111, 118, 101, 114, 114, 105, 100, 101], (102, 1)), ([115, 119, 97, 112], (102, 1))], .tree 32 o17y, .tree 35 o15y, .tree 71 o18y, .tree 44 o14y, .tree 32 o17y, .tree 35 o15y, .tree 71 o18y, .tree 44 o14y]⟩, [(.ret, ⟨0, [2, 3, 4], [v23y, v19y, v19y], l55y⟩), (.exit 0, ⟨0, [2, 5], [v23y, v32y], [.cells 27 [.trowh 2, .trowh 3, .trowh 4, .trowh 5], .cells 122 [.trowh 6, .trowh 7, .trowh 8, .trowh 9], .tree 32 o17y, .tree 35 o15y, .tree 71 o18y, .tree 44 o14y, .tree 32 o17y, .tree 35 o15y, .tree 71 o18y, .tree 44 o14y]⟩)]⟩
abbrev zqv5 (β : Type) := Int → Int → t6y → t4y → t2y → t1y → Option β
abbrev zqv6 (β : Type) := (List t8y) → Int → Int → t6y → t4y → t2y → t1y → t6y → t4y → t2y → t1y → Option β
abbrev zqv7 (β : Type) := Int → (List t8y) → Int → Int → t8y → t6y → t4y → t2y → t1y → t6y → t4y → t2y → t1y → Option β
noncomputable def zqv8 : Pc := ⟨58, 0, Q7 231 (Q1b zqv4.c), ⟨0, [2, 5, 6, 8, 9, 15, 16, 17], [v23y, v32y, (false, [.maph 2]), (false, [.ptr 3 0]), v19y, v37y, v19y, v19y], [.cells 27 [.trowh 4, .trowh 5, .trowh 6, .trowh 7], .cells 122 [.trowh 8, .trowh 9, .trowh 10, .trowh 11], .fmap 123 [([122, 111, 110, 101], (91, 1)), ([114, 117, 108, 101], (92, 1)), ([112, 101, 114, 115, 111, 110], (93, 1)), ([113, 117, 105, 101, 116], (94, 1)), ([99, 97, 108, 101, 110, 100, 97, 114], (95, 1)), ([100, 97, 121, 115], (96, 1)), ([115, 99, 104, 101, 100, 117, 108, 101], (97, 1)), ([108, 97, 121, 101, 114], (98, 1)), ([109, 101, 109, 98, 101, 114], (99, 1)), ([111, 110], (100, 1)), ([110, 111, 116], (101, 1)), ([111, 110, 108, 121], (101, 1)), ([108, 101, 97, 118, 101], (102, 1)), ([111, 118, 101, 114, 114, 105, 100, 101], (102, 1)), ([115, 119, 97, 112], (102, 1))], .cells 119 [.data (.prod (.int .i64) (.slice zq7))], .tree 32 o17y, .tree 35 o15y, .tree 71 o18y, .tree 44 o14y, .tree 32 o17y, .tree 35 o15y, .tree 71 o18y, .tree 44 o14y]⟩, [(.ret, ⟨0, [2, 3, 4], [v23y, v19y, v19y], l55y⟩), (.normal, ⟨0, [2, 5, 6, 15, 16, 17], [v23y, v32y, (false, [.maph 2]), v37y, v19y, v19y], [.cells 27 [.trowh 3, .trowh 4, .trowh 5, .trowh 6], .cells 122 [.trowh 7, .trowh 8, .trowh 9, .trowh 10], .fmap 123 [([122, 111, 110, 101], (91, 1)), ([114, 117, 108, 101], (92, 1)), ([112, 101, 114, 115, 111, 110], (93, 1)), ([113, 117, 105, 101, 116], (94, 1)), ([99, 97, 108, 101, 110, 100, 97, 114], (95, 1)), ([100, 97, 121, 115], (96, 1)), ([115, 99, 104, 101, 100, 117, 108, 101], (97, 1)), ([108, 97, 121, 101, 114], (98, 1)), ([109, 101, 109, 98, 101, 114], (99, 1)), ([111, 110], (100, 1)), ([110, 111, 116], (101, 1)), ([111, 110, 108, 121], (101, 1)), ([108, 101, 97, 118, 101], (102, 1)), ([111, 118, 101, 114, 114, 105, 100, 101], (102, 1)), ([115, 119, 97, 112], (102, 1))], .tree 32 o17y, .tree 35 o15y, .tree 71 o18y, .tree 44 o14y, .tree 32 o17y, .tree 35 o15y, .tree 71 o18y, .tree 44 o14y]⟩)]⟩
def zqv9 {β : Type} (k1 : zqv5 β) (k2 : zqv6 β) : zqv7 β := fun e t15 t16 t17 s b4_ b5_ b6_ b7_ b8_ b9_ b10_ b11_ =>
 cond (!decide (e = (0 : Int)))
 (k1 s.1 e ([] : List zqa) ([] : List zqe) ([] : List zq0) ([] : List zq4))
 (k2 t15 t16 t17 b4_ b5_ b6_ b7_ b8_ b9_ b10_ b11_)
def zqva {β : Type} := hid (zqv9 (β := β))
noncomputable def zqvb : Pb := ⟨231, zqv8, fun _ => zqva, Qih mixed (X := ⟨look tab, gam zqv0, false, false, false, false, q63y, none, 0, []⟩) (p := zqv8) Qe zqv0 rfl [] 231 (g := fun _ => zqv9) (by kernel_rfl) fun _ _ => by kernel_rfl⟩
def zqvc {β : Type} (rec : zqv3 β) (k1 : zqv1 β) (k2 : zqv2 β) : zqv3 β := fun t15 t16 t17 b3_ b4_ b5_ b6_ b7_ b8_ b9_ b10_ =>
 cond (decide (t17 < t16))
 (cond (decide (0 ≤ t17) && decide (t17 < (List.length t15 : Int)))
 (let e := List.getD t15 (Int.toNat t17) ((0 : Int), ([] : List zq6));
 zqjj e.2 (fun rForm =>
 cond (!rForm)
 (k1 e.1 (2 : Int) ([] : List zqa) ([] : List zqe) ([] : List zq0) ([] : List zq4))
 (cond (decide (0 ≤ (0 : Int)) && decide ((0 : Int) < (List.length e.2 : Int)))
 (let e2 := List.getD e.2 (Int.toNat (0 : Int)) ((0 : Int), (([] : List UInt8), (0 : Int)));
 cond (decide (([122, 111, 110, 101] : List UInt8) = e2.2.1))
 (zq60 e.2 b7_ b8_ b9_ b10_ (fun raddZone lraddZone lraddZone2 lraddZone3 lraddZone4 =>
 zqva (fun line e3 b1_ b2_ b3_2 b4_2 =>
 k1 line e3 b1_ b2_ b3_2 b4_2) (fun t152 t162 t172 b3_2 b4_2 b5_2 b6_2 b7_2 b8_2 b9_2 b10_2 =>
 rec t152 t162 (IntKind.i64.wrap (t172 + (1 : Int))) b3_2 b4_2 b5_2 b6_2 b7_2 b8_2 b9_2 b10_2) raddZone t15 t16 t17 e b3_ b4_ b5_ b6_ lraddZone lraddZone2 lraddZone3 lraddZone4))
 (cond (decide (([114, 117, 108, 101] : List UInt8) = e2.2.1))
 (zqgh e.2 b7_ b8_ b9_ b10_ (fun raddRule lraddRule lraddRule2 lraddRule3 lraddRule4 =>
 zqva (fun line e3 b1_ b2_ b3_2 b4_2 =>
 k1 line e3 b1_ b2_ b3_2 b4_2) (fun t152 t162 t172 b3_2 b4_2 b5_2 b6_2 b7_2 b8_2 b9_2 b10_2 =>
 rec t152 t162 (IntKind.i64.wrap (t172 + (1 : Int))) b3_2 b4_2 b5_2 b6_2 b7_2 b8_2 b9_2 b10_2) raddRule t15 t16 t17 e b3_ b4_ b5_ b6_ lraddRule lraddRule2 lraddRule3 lraddRule4))
 (cond (decide (([112, 101, 114, 115, 111, 110] : List UInt8) = e2.2.1))
 (zqjw e.2 b7_ b8_ b9_ b10_ (fun raddPerson lraddPerson lraddPerson2 lraddPerson3 lraddPerson4 =>
 zqva (fun line e3 b1_ b2_ b3_2 b4_2 =>
 k1 line e3 b1_ b2_ b3_2 b4_2) (fun t152 t162 t172 b3_2 b4_2 b5_2 b6_2 b7_2 b8_2 b9_2 b10_2 =>
 rec t152 t162 (IntKind.i64.wrap (t172 + (1 : Int))) b3_2 b4_2 b5_2 b6_2 b7_2 b8_2 b9_2 b10_2) raddPerson t15 t16 t17 e b3_ b4_ b5_ b6_ lraddPerson lraddPerson2 lraddPerson3 lraddPerson4))
 (cond (decide (([113, 117, 105, 101, 116] : List UInt8) = e2.2.1))
 (zqgm e.2 b7_ b8_ b9_ b10_ (fun raddQuiet lraddQuiet lraddQuiet2 lraddQuiet3 lraddQuiet4 =>
 zqva (fun line e3 b1_ b2_ b3_2 b4_2 =>
 k1 line e3 b1_ b2_ b3_2 b4_2) (fun t152 t162 t172 b3_2 b4_2 b5_2 b6_2 b7_2 b8_2 b9_2 b10_2 =>
 rec t152 t162 (IntKind.i64.wrap (t172 + (1 : Int))) b3_2 b4_2 b5_2 b6_2 b7_2 b8_2 b9_2 b10_2) raddQuiet t15 t16 t17 e b3_ b4_ b5_ b6_ lraddQuiet lraddQuiet2 lraddQuiet3 lraddQuiet4))
 (cond (decide (([99, 97, 108, 101, 110, 100, 97, 114] : List UInt8) = e2.2.1))
 (zqk1 e.2 b7_ b8_ b9_ b10_ (fun raddCalendar lraddCalendar lraddCalendar2 lraddCalendar3 lraddCalendar4 =>
 zqva (fun line e3 b1_ b2_ b3_2 b4_2 =>
 k1 line e3 b1_ b2_ b3_2 b4_2) (fun t152 t162 t172 b3_2 b4_2 b5_2 b6_2 b7_2 b8_2 b9_2 b10_2 =>
 rec t152 t162 (IntKind.i64.wrap (t172 + (1 : Int))) b3_2 b4_2 b5_2 b6_2 b7_2 b8_2 b9_2 b10_2) raddCalendar t15 t16 t17 e b3_ b4_ b5_ b6_ lraddCalendar lraddCalendar2 lraddCalendar3 lraddCalendar4))
 (cond (decide (([100, 97, 121, 115] : List UInt8) = e2.2.1))
 (zqbz e.2 b7_ b8_ b9_ b10_ (fun raddDays lraddDays lraddDays2 lraddDays3 lraddDays4 =>
 zqva (fun line e3 b1_ b2_ b3_2 b4_2 =>
 k1 line e3 b1_ b2_ b3_2 b4_2) (fun t152 t162 t172 b3_2 b4_2 b5_2 b6_2 b7_2 b8_2 b9_2 b10_2 =>
 rec t152 t162 (IntKind.i64.wrap (t172 + (1 : Int))) b3_2 b4_2 b5_2 b6_2 b7_2 b8_2 b9_2 b10_2) raddDays t15 t16 t17 e b3_ b4_ b5_ b6_ lraddDays lraddDays2 lraddDays3 lraddDays4))
 (cond (decide (([115, 99, 104, 101, 100, 117, 108, 101] : List UInt8) = e2.2.1))
 (zq65 e.2 b7_ b8_ b9_ b10_ (fun raddSchedule lraddSchedule lraddSchedule2 lraddSchedule3 lraddSchedule4 =>
 zqva (fun line e3 b1_ b2_ b3_2 b4_2 =>
 k1 line e3 b1_ b2_ b3_2 b4_2) (fun t152 t162 t172 b3_2 b4_2 b5_2 b6_2 b7_2 b8_2 b9_2 b10_2 =>
 rec t152 t162 (IntKind.i64.wrap (t172 + (1 : Int))) b3_2 b4_2 b5_2 b6_2 b7_2 b8_2 b9_2 b10_2) raddSchedule t15 t16 t17 e b3_ b4_ b5_ b6_ lraddSchedule lraddSchedule2 lraddSchedule3 lraddSchedule4))
 (cond (decide (([108, 97, 121, 101, 114] : List UInt8) = e2.2.1))
 (zqk6 e.2 b7_ b8_ b9_ b10_ (fun raddLayer lraddLayer lraddLayer2 lraddLayer3 lraddLayer4 =>
 zqva (fun line e3 b1_ b2_ b3_2 b4_2 =>
 k1 line e3 b1_ b2_ b3_2 b4_2) (fun t152 t162 t172 b3_2 b4_2 b5_2 b6_2 b7_2 b8_2 b9_2 b10_2 =>
 rec t152 t162 (IntKind.i64.wrap (t172 + (1 : Int))) b3_2 b4_2 b5_2 b6_2 b7_2 b8_2 b9_2 b10_2) raddLayer t15 t16 t17 e b3_ b4_ b5_ b6_ lraddLayer lraddLayer2 lraddLayer3 lraddLayer4))
 (cond (decide (([109, 101, 109, 98, 101, 114] : List UInt8) = e2.2.1))
 (zqkl e.2 b7_ b8_ b9_ b10_ (fun raddMember lraddMember lraddMember2 lraddMember3 lraddMember4 =>
 zqva (fun line e3 b1_ b2_ b3_2 b4_2 =>
 k1 line e3 b1_ b2_ b3_2 b4_2) (fun t152 t162 t172 b3_2 b4_2 b5_2 b6_2 b7_2 b8_2 b9_2 b10_2 =>
 rec t152 t162 (IntKind.i64.wrap (t172 + (1 : Int))) b3_2 b4_2 b5_2 b6_2 b7_2 b8_2 b9_2 b10_2) raddMember t15 t16 t17 e b3_ b4_ b5_ b6_ lraddMember lraddMember2 lraddMember3 lraddMember4))
 (cond (decide (([111, 110] : List UInt8) = e2.2.1))
 (zqgr e.2 b7_ b8_ b9_ b10_ (fun raddWindow lraddWindow lraddWindow2 lraddWindow3 lraddWindow4 =>
 zqva (fun line e3 b1_ b2_ b3_2 b4_2 =>
 k1 line e3 b1_ b2_ b3_2 b4_2) (fun t152 t162 t172 b3_2 b4_2 b5_2 b6_2 b7_2 b8_2 b9_2 b10_2 =>
 rec t152 t162 (IntKind.i64.wrap (t172 + (1 : Int))) b3_2 b4_2 b5_2 b6_2 b7_2 b8_2 b9_2 b10_2) raddWindow t15 t16 t17 e b3_ b4_ b5_ b6_ lraddWindow lraddWindow2 lraddWindow3 lraddWindow4))
 (cond (decide (([110, 111, 116] : List UInt8) = e2.2.1))
 (zqkq e.2 b7_ b8_ b9_ b10_ (fun raddMode lraddMode lraddMode2 lraddMode3 lraddMode4 =>
 zqva (fun line e3 b1_ b2_ b3_2 b4_2 =>
 k1 line e3 b1_ b2_ b3_2 b4_2) (fun t152 t162 t172 b3_2 b4_2 b5_2 b6_2 b7_2 b8_2 b9_2 b10_2 =>
 rec t152 t162 (IntKind.i64.wrap (t172 + (1 : Int))) b3_2 b4_2 b5_2 b6_2 b7_2 b8_2 b9_2 b10_2) raddMode t15 t16 t17 e b3_ b4_ b5_ b6_ lraddMode lraddMode2 lraddMode3 lraddMode4))
 (cond (decide (([111, 110, 108, 121] : List UInt8) = e2.2.1))
 (zqkq e.2 b7_ b8_ b9_ b10_ (fun raddMode lraddMode lraddMode2 lraddMode3 lraddMode4 =>
 zqva (fun line e3 b1_ b2_ b3_2 b4_2 =>
 k1 line e3 b1_ b2_ b3_2 b4_2) (fun t152 t162 t172 b3_2 b4_2 b5_2 b6_2 b7_2 b8_2 b9_2 b10_2 =>
 rec t152 t162 (IntKind.i64.wrap (t172 + (1 : Int))) b3_2 b4_2 b5_2 b6_2 b7_2 b8_2 b9_2 b10_2) raddMode t15 t16 t17 e b3_ b4_ b5_ b6_ lraddMode lraddMode2 lraddMode3 lraddMode4))
 (cond (decide (([108, 101, 97, 118, 101] : List UInt8) = e2.2.1))
 (zqlc e.2 b7_ b8_ b9_ b10_ (fun raddEdit lraddEdit lraddEdit2 lraddEdit3 lraddEdit4 =>
 zqva (fun line e3 b1_ b2_ b3_2 b4_2 =>
 k1 line e3 b1_ b2_ b3_2 b4_2) (fun t152 t162 t172 b3_2 b4_2 b5_2 b6_2 b7_2 b8_2 b9_2 b10_2 =>
 rec t152 t162 (IntKind.i64.wrap (t172 + (1 : Int))) b3_2 b4_2 b5_2 b6_2 b7_2 b8_2 b9_2 b10_2) raddEdit t15 t16 t17 e b3_ b4_ b5_ b6_ lraddEdit lraddEdit2 lraddEdit3 lraddEdit4))
 (cond (decide (([111, 118, 101, 114, 114, 105, 100, 101] : List UInt8) = e2.2.1))
 (zqlc e.2 b7_ b8_ b9_ b10_ (fun raddEdit lraddEdit lraddEdit2 lraddEdit3 lraddEdit4 =>
 zqva (fun line e3 b1_ b2_ b3_2 b4_2 =>
 k1 line e3 b1_ b2_ b3_2 b4_2) (fun t152 t162 t172 b3_2 b4_2 b5_2 b6_2 b7_2 b8_2 b9_2 b10_2 =>
 rec t152 t162 (IntKind.i64.wrap (t172 + (1 : Int))) b3_2 b4_2 b5_2 b6_2 b7_2 b8_2 b9_2 b10_2) raddEdit t15 t16 t17 e b3_ b4_ b5_ b6_ lraddEdit lraddEdit2 lraddEdit3 lraddEdit4))
 (cond (decide (([115, 119, 97, 112] : List UInt8) = e2.2.1))
 (zqlc e.2 b7_ b8_ b9_ b10_ (fun raddEdit lraddEdit lraddEdit2 lraddEdit3 lraddEdit4 =>
 zqva (fun line e3 b1_ b2_ b3_2 b4_2 =>
 k1 line e3 b1_ b2_ b3_2 b4_2) (fun t152 t162 t172 b3_2 b4_2 b5_2 b6_2 b7_2 b8_2 b9_2 b10_2 =>
 rec t152 t162 (IntKind.i64.wrap (t172 + (1 : Int))) b3_2 b4_2 b5_2 b6_2 b7_2 b8_2 b9_2 b10_2) raddEdit t15 t16 t17 e b3_ b4_ b5_ b6_ lraddEdit lraddEdit2 lraddEdit3 lraddEdit4))
 (none))))))))))))))))
 none)))
 none)
 (k2 b3_ b4_ b5_ b6_ b7_ b8_ b9_ b10_)
def zqvd (m : Nat) {β : Type} (k1 : zqv1 β) (k2 : zqv2 β) : zqv3 β := lp11 (fun r => zqvc r k1 k2) none m
theorem zqve {β : Type} (i : Nat) (k1 k2) : zqvd (β := β) (i + 1) k1 k2 = zqvc (zqvd i k1 k2) k1 k2 := rfl
def zqvf {β : Type} := hid (zqvd (β := β) fuel)
noncomputable def zqvg : Pb := ⟨122, zqv4, fun _ => zqvf, Q8d mixed (X := ⟨look tab, gam zqv0, false, false, false, false, q63y, none, 0, []⟩) (p := zqv4) Qe zqv0 rfl [zqvb] (g := fun i _ => zqvd i) (by kernel_rfl) rfl (by kernel_rfl) (fun _ _ => rfl) fun _ _ _ _ => by kernel_rfl⟩
def zqvh : zquz := fun l k =>
 cond true
 (cond true
 (cond true
 (cond true
 (cond true
 (cond true
 (cond true
 (cond true
 (cond true
 (cond true
 (cond true
 (cond true
 (cond true
 (cond true
 (cond true
 (zqvf (fun line e b1_ b2_ b3_ b4_ =>
 k (b1_, (b2_, (b3_, b4_))) line e) (fun b2_ b3_ b4_ b5_ b6_ b7_ b8_ b9_ =>
 zqux (b6_, (b7_, (b8_, b9_))) (fun rCheck =>
 cond (!decide (rCheck = (0 : Int)))
 (k zqp (0 : Int) rCheck)
 (k (b6_, (b7_, (b8_, b9_))) (0 : Int) (0 : Int)))) l (List.length l : Int) (0 : Int) ([] : List zqa) ([] : List zqe) ([] : List zq0) ([] : List zq4) ([] : List zqa) ([] : List zqe) ([] : List zq0) ([] : List zq4))
 none)
 none)
 none)
 none)
 none)
 none)
 none)
 none)
 none)
 none)
 none)
 none)
 none)
 none)
 none
def zqvi : zquz := hid zqvh
noncomputable def zqvj : En := ⟨35, .spec (sg [v37y] [] [v34y, v19y, v19y] [] zqvi), Q9f mixed (X := ⟨look tab, gam zqv0, false, false, false, false, q63y, none, 0, []⟩) Qe zqv0 rfl [zqvg] [.cell 2 27, .tmp 3, .tmp 4] Tryz.func35 (by kernel_rfl) fun _ _ => by kernel_rfl⟩
abbrev zqvk := {β : Type} → t3y → (zqg → Int → Int → Option β) → Option β
def zqvl : zqvk := fun text k =>
 zqqt text (fun rParse rParse2 lrParse =>
 cond (!decide (rParse2 = (0 : Int)))
 (k zqp rParse rParse2)
 (zqvi lrParse (fun rBuild rBuild2 rBuild3 =>
 k rBuild rBuild2 rBuild3)))
def zqvm : zqvk := hid zqvl
noncomputable def zqvn : En := ⟨13, .spec (sg [v26y] [] [v34y, v19y, v19y] [] zqvm), pf [zqvj, zqqu] [] [.cell 2 27, .tmp 3, .tmp 4] Tryz.func13 (by kernel_rfl) fun _ _ => by kernel_rfl⟩
abbrev zqvo := {β : Type} → (Bool → Option β) → Option β
def zqvp : zqvo := fun k =>
 zq1d  (fun rtext =>
 zqvm rtext (fun rLoad rLoad2 rLoad3 =>
 zqvm ([122, 111, 110, 101, 32, 122, 32, 43, 48, 48, 58, 48, 48, 10, 112, 101, 114, 115, 111, 110, 32, 97, 32, 122, 10, 109, 101, 109, 98, 101, 114, 32, 97, 10] : List UInt8) (fun rLoad4 rLoad5 rLoad6 =>
 zqvm ([112, 101, 114, 115, 111, 110, 32, 97, 32, 121, 10] : List UInt8) (fun rLoad7 rLoad8 rLoad9 =>
 zqhi rLoad ([97] : List UInt8) (fun rPerson rPerson2 =>
 zqhm rLoad ([115] : List UInt8) (fun rSchedule rSchedule2 =>
 cond (decide (rLoad3 = (0 : Int)))
 (cond (decide (rLoad2 = (0 : Int)))
 (cond (decide (rLoad6 = (9 : Int)))
 (cond (decide (rLoad5 = (3 : Int)))
 (cond (decide (rLoad9 = (3 : Int)))
 (cond (decide (rLoad8 = (1 : Int)))
 (cond rPerson2
 (cond rSchedule2
 (cond (decide (rPerson = (0 : Int)))
 (cond (decide (rSchedule = (0 : Int)))
 (cond (decide ((List.length rLoad.2.2.2 : Int) = (1 : Int)))
 (cond (decide (0 ≤ (0 : Int)) && decide ((0 : Int) < (List.length rLoad.2.2.2 : Int)))
 (let e := List.getD rLoad.2.2.2 (Int.toNat (0 : Int)) (([] : List UInt8), (([] : List zq2), ([] : List t0y)));
 cond (decide ((List.length e.2.1 : Int) = (1 : Int)))
 (cond (decide (0 ≤ (0 : Int)) && decide ((0 : Int) < (List.length rLoad.2.2.2 : Int)))
 (let e2 := List.getD rLoad.2.2.2 (Int.toNat (0 : Int)) (([] : List UInt8), (([] : List zq2), ([] : List t0y)));
 cond (decide (0 ≤ (0 : Int)) && decide ((0 : Int) < (List.length e2.2.1 : Int)))
 (let e3 := List.getD e2.2.1 (Int.toNat (0 : Int)) (([] : List UInt8), ((0 : Int), (((0 : Int), (0 : Int)), ((0 : Int), ((0 : Int), (([] : List Int), (([] : List t5y), ((0 : Int), (0 : Int)))))))));
 let t := (decide (e3.2.2.2.1 = (2 : Int)));
 k t)
 none)
 none)
 (k false))
 none)
 (k false))
 (k false))
 (k false))
 (k false))
 (k false))
 (k false))
 (k false))
 (k false))
 (k false))
 (k false))
 (k false)))))))
def zqvq : zqvo := hid zqvp
noncomputable def zqvr : En := ⟨9, .spec (sg [] [] [v21y] [] zqvq), pf [zq1e, zqvn, zqhj, zqhn] [] [.tmp 0] Tryz.func9 (by kernel_rfl) fun _ _ => by kernel_rfl⟩
theorem zqvs : SpecOk Tryz.prog 9 (sg [] [] [v21y] [] zqvq) := zqvr.ok
abbrev zqvt := {β : Type} → t12y → (Bool → Option β) → Option β
noncomputable def zqvu : List En := [zqa4, zqvr, zqu, zqy, zqfo, zquy, zqvn]
abbrev zqvv (β : Type) := t3y → Int → Int → Option β
abbrev zqvw (β : Type) := t3y → Int → Int → Int → Option β
noncomputable def zqvx : Pc := ⟨75, 0, Q7 1020 (Q5 Tryz.f4), ⟨0, [3, 5, 7, 8], [v26y, v19y, v19y, v19y], []⟩, [(.exit 0, ⟨0, [3, 5, 7], [v26y, v19y, v19y], []⟩)]⟩
def zqvy {β : Type} (rec : zqvw β) (k1 : zqvv β) : zqvw β := fun s line at_ n =>
 cond (decide (at_ < (List.length s : Int)))
 (cond (decide (n < line))
 (cond (decide (0 ≤ at_) && decide (at_ < (List.length s : Int)))
 (cond (decide (((List.getD s (Int.toNat at_) 0).toNat : Int) = (10 : Int)))
 (let n2 := (IntKind.i64.wrap (n + (1 : Int)));
 let at_2 := (IntKind.i64.wrap (at_ + (1 : Int)));
 rec s line at_2 n2)
 (let at_2 := (IntKind.i64.wrap (at_ + (1 : Int)));
 rec s line at_2 n))
 none)
 (k1 s line at_))
 (k1 s line at_)
def zqvz (m : Nat) {β : Type} (k1 : zqvv β) : zqvw β := lp4 (fun r => zqvy r k1) none m
theorem zqw0 {β : Type} (i : Nat) (k1) : zqvz (β := β) (i + 1) k1 = zqvy (zqvz i k1) k1 := rfl
def zqw1 {β : Type} := hid (zqvz (β := β) fuel)
noncomputable def zqw2 : Pb := ⟨1020, zqvx, fun _ => zqw1, pl (p := zqvx) zqvu [] (g := fun i _ => zqvz i) (by kernel_rfl) rfl (by kernel_rfl) (fun _ _ => rfl) fun _ _ _ _ => by kernel_rfl⟩
def zqw3 : zqvt := fun t k =>
 zqt t (fun rLight =>
 cond (!rLight)
 (zqvq  (fun rsane =>
 k rsane))
 (zqx t (fun mrRoll =>
 zqa3 mrRoll (fun rdraw mrdraw =>
 zqvm rdraw (fun rLoad rLoad2 rLoad3 =>
 cond (decide (rLoad3 = (0 : Int)))
 (cond (decide (rLoad2 = (0 : Int)))
 (zqux rLoad (fun rCheck =>
 cond (decide (rCheck = (0 : Int)))
 (zqvq  (fun rsane =>
 k rsane))
 (k false)))
 (k false))
 (zqfn rLoad zqp (fun rSame =>
 cond (!rSame)
 (k false)
 (zqw1 (fun s line at_ =>
 cond (decide (0 ≤ (0 : Int)) && (decide ((0 : Int) ≤ at_) && decide (at_ ≤ (List.length s : Int))))
 (zqvm (List.drop (Int.toNat (0 : Int)) (List.take (Int.toNat at_) s)) (fun rLoad4 rLoad5 rLoad6 =>
 cond (decide (line = (0 : Int)))
 (zqvq  (fun rsane =>
 k rsane))
 (cond (decide (rLoad5 = (0 : Int)))
 (zqvq  (fun rsane =>
 k rsane))
 (k false))))
 none) rdraw rLoad2 (0 : Int) (1 : Int)))))))))
def zqw4 : zqvt := hid zqw3
noncomputable def zqw5 : En := ⟨4, .spec (sg [v30y] [] [v21y] [] zqw4), pf zqvu [zqw2] [.tmp 2] Tryz.func4 (by kernel_rfl) fun _ _ => by kernel_rfl⟩
theorem zqw6 : SpecOk Tryz.prog 4 (sg [v30y] [] [v21y] [] zqw4) := zqw5.ok
end
end Go.Lift
namespace Go.Lift
open Go.RowKit Go.IntWalk
section
variable {β : Type}
theorem Qf {i n : Int} {a b : Option β} (h : 0 ≤ i ∧ i < n) : cond (decide (0 ≤ i) && decide (i < n)) a b = a := by
 rw [decide_eq_true h.1, decide_eq_true h.2]; rfl
theorem Q9k {n : Nat} {a b : Option β} (h : n ≤ 140737488355328) : cond (decide (n ≤ Qc)) a b = a := by
 rw [decide_eq_true (p := n ≤ Qc) h]; rfl
theorem Q4 {p : Prop} [Decidable p] {a b : Option β} (h : p) : cond (decide p) a b = a := by rw [decide_eq_true h]; rfl
theorem Q2 {p : Prop} [Decidable p] {a b : Option β} (h : ¬ p) : cond (decide p) a b = b := by rw [decide_eq_false h]; rfl
theorem Q53 {p : Prop} [Decidable p] {a b : Option β} (h : p) : cond (!decide p) a b = b := by rw [decide_eq_true h]; rfl
theorem Q54 {p : Prop} [Decidable p] {a b : Option β} (h : ¬ p) : cond (!decide p) a b = a := by rw [decide_eq_false h]; rfl
theorem c_t {a b : Option β} : cond true a b = a := rfl
theorem c_f {a b : Option β} : cond false a b = b := rfl
theorem c_p2 {p q : Prop} [Decidable p] [Decidable q] {a b : Option β} (hp : p) (hq : q) : cond (decide p && decide q) a b = a := by rw [decide_eq_true hp, decide_eq_true hq]; rfl
theorem c_same {p : Bool} {a : Option β} : cond p a a = a := by cases p <;> rfl
theorem c_kb (k : Bool → Option β) (p q : Bool) : cond p (k q) (k false) = k (p && q) := by cases p <;> rfl
theorem k_eq {γ : Type} {k : γ → Option β} {x y : γ} (h : x = y) : k x = k y := by rw [h]
def walk {α σ ε : Type} (g : Nat → α → σ → ε ⊕ σ) : List α → Nat → σ → ε ⊕ σ
 | [], _, s => .inr s
 | x :: r, j, s =>
  match g j x s with
  | .inl e => .inl e
  | .inr s' => walk g r (j + 1) s'
def sumK {ε σ : Type} (E : ε → Option β) (K : σ → Option β) : ε ⊕ σ → Option β
 | .inl e => E e
 | .inr s => K s
theorem Qeb {α σ ε : Type} (F : Nat → Int → σ → Option β) (g : Nat → α → σ → ε ⊕ σ) (E : ε → Option β) (K : σ → Option β) (d : α) (xs : List α)
  (h1 : ∀ (m i : Nat) s, i < xs.length → F (m + 1) (i : Int) s = sumK E (fun s' => F m ((i : Int) + 1) s') (g i (xs.getD i d) s))
  (h2 : ∀ (m : Nat) s, F (m + 1) (xs.length : Int) s = K s) :
  ∀ (r : List α) (j fuel : Nat) (s : σ), xs.drop j = r → j + r.length = xs.length → r.length < fuel → F fuel (j : Int) s = sumK E K (walk g r j s)
 | r, j, 0, s, _, _, h => absurd h (Nat.not_lt_zero _)
 | [], j, m + 1, s, hd, hj, _ => by
  simp only [List.length_nil, Nat.add_zero] at hj
  subst hj
  rw [h2]; rfl
 | x :: r, j, m + 1, s, hd, hj, hm => by
  simp only [List.length_cons] at hj hm
  have h3 : j < xs.length := by omega
  have hx : xs.getD j d = x := by
   rw [List.drop_eq_getElem_cons h3] at hd
   injection hd with hd1 hd2
   simp [List.getD, h3, hd1]
  have hr : xs.drop (j + 1) = r := by
   rw [List.drop_eq_getElem_cons h3] at hd
   injection hd with hd1 hd2
  rw [h1 m j s h3, hx, walk]
  cases hg : g j x s with
  | inl e => rfl
  | inr s' =>
   simp only [sumK]
   exact Qeb F g E K d xs h1 h2 r (j + 1) m s' hr (by omega) (by omega)
theorem Q1f {α σ ε : Type} (F : Nat → Int → σ → Option β) (g : Nat → α → σ → ε ⊕ σ) (E : ε → Option β) (K : σ → Option β) (d : α) (xs : List α) (s : σ) (n : Nat) (hn : xs.length < n)
  (h1 : ∀ (m i : Nat) s, i < xs.length → F (m + 1) (i : Int) s = sumK E (fun s' => F m ((i : Int) + 1) s') (g i (xs.getD i d) s))
  (h2 : ∀ (m : Nat) s, F (m + 1) (xs.length : Int) s = K s) : F n 0 s = sumK E K (walk g xs 0 s) :=
 Qeb F g E K d xs h1 h2 xs 0 n s rfl (by simp) hn
theorem Q5h {α : Type} (F : Nat → Int → Option β) (p : α → Bool) (E K : Option β) (d : α) (xs : List α) (n : Nat) (hn : xs.length < n)
  (h1 : ∀ (m i : Nat), i < xs.length → F (m + 1) (i : Int) = cond (p (xs.getD i d)) (F m ((i : Int) + 1)) E)
  (h2 : ∀ (m : Nat), F (m + 1) (xs.length : Int) = K) : F n 0 = cond (xs.all p) K E := by
 have h := Q1f (ε := Unit) (fun m i (_ : Unit) => F m i) (fun _ x s => cond (p x) (.inr s) (.inl ())) (fun _ => E) (fun _ => K) d xs () n hn
  (fun m i s hi => by rw [h1 m i hi]; cases p (xs.getD i d) <;> rfl) (fun m s => h2 m)
 rw [h]
 have key : ∀ (l : List α) (j : Nat), sumK (fun _ => E) (fun _ => K) (walk (ε := Unit) (fun _ x (s : Unit) => cond (p x) (.inr s) (.inl ())) l j ()) = cond (l.all p) K E := by
  intro l
  induction l with
  | nil => intro j; rfl
  | cons x l ih =>
   intro j
   simp only [walk, List.all_cons]
   cases p x with
   | true => simpa using ih (j + 1)
   | false => rfl
 exact key xs 0
theorem Qcn {α σ : Type} (I : Nat → σ → Prop) (F : Nat → Int → σ → Option β) (g : σ → α → σ) (K : σ → Option β) (d : α) (xs : List α) (s : σ) (n : Nat) (hn : xs.length < n) (h0 : I 0 s)
  (hI : ∀ (i : Nat) s, i < xs.length → I i s → I (i + 1) (g s (xs.getD i d)))
  (h1 : ∀ (m i : Nat) s, i < xs.length → I i s → F (m + 1) (i : Int) s = F m ((i : Int) + 1) (g s (xs.getD i d)))
  (h2 : ∀ (m : Nat) s, I xs.length s → F (m + 1) (xs.length : Int) s = K s) : F n 0 s = K (xs.foldl g s) := by
 have key : ∀ (r : List α) (j fuel : Nat) (s : σ), xs.drop j = r → j + r.length = xs.length → r.length < fuel → I j s → F fuel (j : Int) s = K (r.foldl g s) := by
  intro r
  induction r with
  | nil =>
   intro j fuel s hd hj hf hs
   obtain ⟨m, rfl⟩ : ∃ m, fuel = m + 1 := ⟨fuel - 1, by omega⟩
   simp only [List.length_nil, Nat.add_zero] at hj
   subst hj
   exact h2 m s hs
  | cons x r ih =>
   intro j fuel s hd hj hf hs
   obtain ⟨m, rfl⟩ : ∃ m, fuel = m + 1 := ⟨fuel - 1, by omega⟩
   simp only [List.length_cons] at hj hf
   have h3 : j < xs.length := by omega
   have hx : xs.getD j d = x := by
    rw [List.drop_eq_getElem_cons h3] at hd
    injection hd with hd1 hd2
    simp [List.getD, h3, hd1]
   have hr : xs.drop (j + 1) = r := by
    rw [List.drop_eq_getElem_cons h3] at hd
    injection hd with hd1 hd2
   rw [h1 m j s h3 hs, hx]
   have := hI j s h3 hs
   rw [hx] at this
   exact ih (j + 1) m (g s x) hr (by omega) (by omega) this
 exact key xs 0 n s rfl (by simp) hn h0
end
end Go.Lift
namespace Go.Lift
noncomputable section
set_option maxRecDepth 100000
abbrev Tok := Int × (List UInt8 × Int)
abbrev Ln := List UInt8 × List Tok
def ln0 : Ln := ([122, 111, 110, 101, 32, 104, 101, 114, 101, 32, 43, 48, 49, 58, 48, 48], [(0, [122, 111, 110, 101], 0), (0, [104, 101, 114, 101], 0), (4, [], 3600)])
def ln1 : Ln := ([122, 111, 110, 101, 32, 116, 104, 101, 114, 101, 32, 45, 48, 53, 58, 48, 48], [(0, [122, 111, 110, 101], 0), (0, [116, 104, 101, 114, 101], 0), (4, [], -18000)])
def ln2 : Ln := ([114, 117, 108, 101, 32, 50, 48, 50, 54, 32, 50, 48, 50, 55, 32, 109, 97, 114, 32, 108, 97, 115, 116, 32, 115, 117, 110, 32, 48, 50, 58, 48, 48, 32, 43, 48, 50, 58, 48, 48], [(0, [114, 117, 108, 101], 0), (1, [], 2026), (1, [], 2027), (0, [109, 97, 114], 0), (0, [108, 97, 115, 116], 0), (0, [115, 117, 110], 0), (2, [], 7200), (4, [], 7200)])
def ln3 : Ln := ([114, 117, 108, 101, 32, 50, 48, 50, 54, 32, 50, 48, 50, 55, 32, 111, 99, 116, 32, 108, 97, 115, 116, 32, 115, 117, 110, 32, 48, 51, 58, 48, 48, 32, 43, 48, 49, 58, 48, 48], [(0, [114, 117, 108, 101], 0), (1, [], 2026), (1, [], 2027), (0, [111, 99, 116], 0), (0, [108, 97, 115, 116], 0), (0, [115, 117, 110], 0), (2, [], 10800), (4, [], 3600)])
def ln4 : Ln := ([114, 117, 108, 101, 32, 50, 48, 50, 54, 32, 50, 48, 50, 54, 32, 102, 101, 98, 32, 116, 104, 105, 114, 100, 32, 115, 117, 110, 32, 48, 51, 58, 48, 48, 32, 43, 48, 49, 58, 48, 48], [(0, [114, 117, 108, 101], 0), (1, [], 2026), (1, [], 2026), (0, [102, 101, 98], 0), (0, [116, 104, 105, 114, 100], 0), (0, [115, 117, 110], 0), (2, [], 10800), (4, [], 3600)])
def ln5 : Ln := ([114, 117, 108, 101, 32, 50, 48, 50, 54, 32, 50, 48, 50, 54, 32, 102, 111, 111, 32, 108, 97, 115, 116, 32, 115, 117, 110, 32, 48, 51, 58, 48, 48, 32, 43, 48, 49, 58, 48, 48], [(0, [114, 117, 108, 101], 0), (1, [], 2026), (1, [], 2026), (0, [102, 111, 111], 0), (0, [108, 97, 115, 116], 0), (0, [115, 117, 110], 0), (2, [], 10800), (4, [], 3600)])
def ln6 : Ln := ([112, 101, 114, 115, 111, 110, 32, 97, 100, 97, 32, 104, 101, 114, 101], [(0, [112, 101, 114, 115, 111, 110], 0), (0, [97, 100, 97], 0), (0, [104, 101, 114, 101], 0)])
def ln7 : Ln := ([112, 101, 114, 115, 111, 110, 32, 98, 111, 98, 32, 104, 101, 114, 101, 32, 119, 101, 101, 107, 32, 52, 48, 32, 114, 101, 115, 116, 32, 49, 49, 32, 99, 111, 110, 115, 101, 110, 116], [(0, [112, 101, 114, 115, 111, 110], 0), (0, [98, 111, 98], 0), (0, [104, 101, 114, 101], 0), (0, [119, 101, 101, 107], 0), (1, [], 40), (0, [114, 101, 115, 116], 0), (1, [], 11), (0, [99, 111, 110, 115, 101, 110, 116], 0)])
def ln8 : Ln := ([112, 101, 114, 115, 111, 110, 32, 99, 108, 101, 111, 32, 110, 111, 119, 104, 101, 114, 101], [(0, [112, 101, 114, 115, 111, 110], 0), (0, [99, 108, 101, 111], 0), (0, [110, 111, 119, 104, 101, 114, 101], 0)])
def ln9 : Ln := ([112, 101, 114, 115, 111, 110, 32, 110, 111, 98, 111, 100, 121, 32, 104, 101, 114, 101], [(0, [112, 101, 114, 115, 111, 110], 0), (0, [110, 111, 98, 111, 100, 121], 0), (0, [104, 101, 114, 101], 0)])
def ln10 : Ln := ([112, 101, 114, 115, 111, 110, 32, 97, 100, 97, 32, 116, 104, 101, 114, 101, 32, 119, 101, 101, 107, 32, 50, 48, 48], [(0, [112, 101, 114, 115, 111, 110], 0), (0, [97, 100, 97], 0), (0, [116, 104, 101, 114, 101], 0), (0, [119, 101, 101, 107], 0), (1, [], 200)])
def ln11 : Ln := ([113, 117, 105, 101, 116, 32, 109, 111, 110, 32, 50, 50, 58, 48, 48, 32, 109, 111, 110, 32, 50, 52, 58, 48, 48], [(0, [113, 117, 105, 101, 116], 0), (0, [109, 111, 110], 0), (2, [], 79200), (0, [109, 111, 110], 0), (2, [], 86400)])
def ln12 : Ln := ([113, 117, 105, 101, 116, 32, 116, 117, 101, 32, 48, 48, 58, 48, 48, 32, 109, 111, 110, 32, 50, 50, 58, 48, 48], [(0, [113, 117, 105, 101, 116], 0), (0, [116, 117, 101], 0), (2, [], 0), (0, [109, 111, 110], 0), (2, [], 79200)])
def ln13 : Ln := ([113, 117, 105, 101, 116, 32, 116, 111, 100, 97, 121, 32, 48, 48, 58, 48, 48, 32, 109, 111, 110, 32, 50, 50, 58, 48, 48], [(0, [113, 117, 105, 101, 116], 0), (0, [116, 111, 100, 97, 121], 0), (2, [], 0), (0, [109, 111, 110], 0), (2, [], 79200)])
def ln14 : Ln := ([99, 97, 108, 101, 110, 100, 97, 114, 32, 100, 97, 121, 115, 32, 104, 101, 114, 101], [(0, [99, 97, 108, 101, 110, 100, 97, 114], 0), (0, [100, 97, 121, 115], 0), (0, [104, 101, 114, 101], 0)])
def ln15 : Ln := ([100, 97, 121, 115, 32, 50, 48, 50, 54, 45, 48, 49, 45, 48, 55, 32, 50, 48, 50, 54, 45, 48, 49, 45, 48, 57], [(0, [100, 97, 121, 115], 0), (3, [], 20460), (3, [], 20462)])
def ln16 : Ln := ([100, 97, 121, 115, 32, 50, 48, 50, 54, 45, 48, 49, 45, 48, 49], [(0, [100, 97, 121, 115], 0), (3, [], 20454)])
def ln17 : Ln := ([115, 99, 104, 101, 100, 117, 108, 101, 32, 102, 105, 114, 115, 116], [(0, [115, 99, 104, 101, 100, 117, 108, 101], 0), (0, [102, 105, 114, 115, 116], 0)])
def ln18 : Ln := ([115, 99, 104, 101, 100, 117, 108, 101, 32, 115, 101, 99, 111, 110, 100], [(0, [115, 99, 104, 101, 100, 117, 108, 101], 0), (0, [115, 101, 99, 111, 110, 100], 0)])
def ln19 : Ln := ([108, 97, 121, 101, 114, 32, 108, 111, 119, 32, 104, 101, 114, 101, 32, 50, 48, 50, 54, 45, 48, 49, 45, 48, 53, 32, 48, 57, 58, 48, 48, 32, 49, 32, 100, 97, 121, 115], [(0, [108, 97, 121, 101, 114], 0), (0, [108, 111, 119], 0), (0, [104, 101, 114, 101], 0), (3, [], 20458), (2, [], 32400), (1, [], 1), (0, [100, 97, 121, 115], 0)])
def ln20 : Ln := ([108, 97, 121, 101, 114, 32, 116, 111, 112, 32, 104, 101, 114, 101, 32, 50, 48, 50, 54, 45, 48, 49, 45, 48, 52, 32, 48, 48, 58, 48, 48, 32, 52, 48, 49, 32, 104, 111, 117, 114, 115], [(0, [108, 97, 121, 101, 114], 0), (0, [116, 111, 112], 0), (0, [104, 101, 114, 101], 0), (3, [], 20457), (2, [], 0), (1, [], 401), (0, [104, 111, 117, 114, 115], 0)])
def ln21 : Ln := ([108, 97, 121, 101, 114, 32, 116, 111, 112, 32, 104, 101, 114, 101, 32, 50, 48, 50, 54, 45, 48, 49, 45, 48, 52, 32, 50, 52, 58, 48, 48, 32, 52, 32, 104, 111, 117, 114, 115], [(0, [108, 97, 121, 101, 114], 0), (0, [116, 111, 112], 0), (0, [104, 101, 114, 101], 0), (3, [], 20457), (2, [], 86400), (1, [], 4), (0, [104, 111, 117, 114, 115], 0)])
def ln22 : Ln := ([108, 97, 121, 101, 114, 32, 116, 111, 112, 32, 104, 101, 114, 101, 32, 50, 48, 50, 54, 45, 48, 49, 45, 48, 52, 32, 50, 51, 58, 48, 48, 32, 52, 32, 109, 111, 110, 116, 104, 115], [(0, [108, 97, 121, 101, 114], 0), (0, [116, 111, 112], 0), (0, [104, 101, 114, 101], 0), (3, [], 20457), (2, [], 82800), (1, [], 4), (0, [109, 111, 110, 116, 104, 115], 0)])
def ln23 : Ln := ([109, 101, 109, 98, 101, 114, 32, 97, 100, 97, 32, 98, 111, 98], [(0, [109, 101, 109, 98, 101, 114], 0), (0, [97, 100, 97], 0), (0, [98, 111, 98], 0)])
def ln24 : Ln := ([109, 101, 109, 98, 101, 114, 32, 98, 111, 98], [(0, [109, 101, 109, 98, 101, 114], 0), (0, [98, 111, 98], 0)])
def ln25 : Ln := ([109, 101, 109, 98, 101, 114, 32, 122, 101, 100], [(0, [109, 101, 109, 98, 101, 114], 0), (0, [122, 101, 100], 0)])
def ln26 : Ln := ([111, 110, 32, 109, 111, 110, 32, 48, 57, 58, 48, 48, 32, 109, 111, 110, 32, 49, 55, 58, 48, 48], [(0, [111, 110], 0), (0, [109, 111, 110], 0), (2, [], 32400), (0, [109, 111, 110], 0), (2, [], 61200)])
def ln27 : Ln := ([111, 110, 32, 116, 117, 101, 32, 48, 57, 58, 48, 48, 32, 115, 117, 110, 32, 50, 52, 58, 48, 48], [(0, [111, 110], 0), (0, [116, 117, 101], 0), (2, [], 32400), (0, [115, 117, 110], 0), (2, [], 86400)])
def ln28 : Ln := ([110, 111, 116, 32, 100, 97, 121, 115], [(0, [110, 111, 116], 0), (0, [100, 97, 121, 115], 0)])
def ln29 : Ln := ([111, 110, 108, 121, 32, 100, 97, 121, 115], [(0, [111, 110, 108, 121], 0), (0, [100, 97, 121, 115], 0)])
def ln30 : Ln := ([111, 110, 108, 121, 32, 111, 116, 104, 101, 114], [(0, [111, 110, 108, 121], 0), (0, [111, 116, 104, 101, 114], 0)])
def ln31 : Ln := ([108, 101, 97, 118, 101, 32, 97, 100, 97, 32, 50, 48, 50, 54, 45, 48, 49, 45, 48, 54, 84, 48, 48, 58, 48, 48, 58, 48, 48, 90, 32, 50, 48, 50, 54, 45, 48, 49, 45, 48, 55, 84, 48, 48, 58, 48, 48, 58, 48, 48, 90], [(0, [108, 101, 97, 118, 101], 0), (0, [97, 100, 97], 0), (5, [], 1767657600), (5, [], 1767744000)])
def ln32 : Ln := ([111, 118, 101, 114, 114, 105, 100, 101, 32, 110, 111, 98, 111, 100, 121, 32, 50, 48, 50, 54, 45, 48, 49, 45, 48, 54, 84, 48, 48, 58, 48, 48, 58, 48, 48, 90, 32, 50, 48, 50, 54, 45, 48, 49, 45, 48, 55, 84, 48, 48, 58, 48, 48, 58, 48, 48, 90], [(0, [111, 118, 101, 114, 114, 105, 100, 101], 0), (0, [110, 111, 98, 111, 100, 121], 0), (5, [], 1767657600), (5, [], 1767744000)])
def ln33 : Ln := ([111, 118, 101, 114, 114, 105, 100, 101, 32, 98, 111, 98, 32, 50, 48, 50, 54, 45, 48, 49, 45, 48, 56, 84, 48, 48, 58, 48, 48, 58, 48, 48, 90, 32, 50, 48, 50, 54, 45, 48, 49, 45, 48, 55, 84, 48, 48, 58, 48, 48, 58, 48, 48, 90], [(0, [111, 118, 101, 114, 114, 105, 100, 101], 0), (0, [98, 111, 98], 0), (5, [], 1767830400), (5, [], 1767744000)])
def ln34 : Ln := ([115, 119, 97, 112, 32, 97, 100, 97, 32, 98, 111, 98, 32, 50, 48, 50, 54, 45, 48, 49, 45, 48, 54, 84, 48, 48, 58, 48, 48, 58, 48, 48, 90, 32, 50, 48, 50, 54, 45, 48, 49, 45, 48, 55, 84, 48, 48, 58, 48, 48, 58, 48, 48, 90], [(0, [115, 119, 97, 112], 0), (0, [97, 100, 97], 0), (0, [98, 111, 98], 0), (5, [], 1767657600), (5, [], 1767744000)])
def ln35 : Ln := ([115, 119, 97, 112, 32, 97, 100, 97, 32, 97, 100, 97, 32, 50, 48, 50, 54, 45, 48, 49, 45, 48, 54, 84, 48, 48, 58, 48, 48, 58, 48, 48, 90, 32, 50, 48, 50, 54, 45, 48, 49, 45, 48, 55, 84, 48, 48, 58, 48, 48, 58, 48, 48, 90], [(0, [115, 119, 97, 112], 0), (0, [97, 100, 97], 0), (0, [97, 100, 97], 0), (5, [], 1767657600), (5, [], 1767744000)])
def ln36 : Ln := ([112, 101, 114, 115, 111, 110, 32, 98, 111, 98, 32, 104, 101, 114, 101], [(0, [112, 101, 114, 115, 111, 110], 0), (0, [98, 111, 98], 0), (0, [104, 101, 114, 101], 0)])
def ln37 : Ln := ([115, 99, 104, 101, 100, 117, 108, 101, 32, 109, 97, 105, 110], [(0, [115, 99, 104, 101, 100, 117, 108, 101], 0), (0, [109, 97, 105, 110], 0)])
def ln38 : Ln := ([108, 97, 121, 101, 114, 32, 98, 97, 115, 101, 32, 104, 101, 114, 101, 32, 50, 48, 50, 54, 45, 48, 49, 45, 48, 53, 32, 48, 56, 58, 48, 48, 32, 49, 32, 119, 101, 101, 107, 115], [(0, [108, 97, 121, 101, 114], 0), (0, [98, 97, 115, 101], 0), (0, [104, 101, 114, 101], 0), (3, [], 20458), (2, [], 28800), (1, [], 1), (0, [119, 101, 101, 107, 115], 0)])
def lnDraw : List Ln := [ln0, ln1, ln2, ln3, ln4, ln5, ln6, ln7, ln8, ln9, ln10, ln11, ln12, ln13, ln14, ln15, ln16, ln17, ln18, ln19, ln20, ln21, ln22, ln23, ln24, ln25, ln26, ln27, ln28, ln29, ln30, ln31, ln32, ln33, ln34, ln35]
def Q9l : List Ln := [ln0, ln6, ln36]
def Qco : List Ln := [ln14, ln37, ln38, ln23]
def Q3u : List Ln := [ln0, ln1, ln2, ln3, ln4, ln5, ln6, ln7, ln8, ln9, ln10, ln11, ln12, ln13, ln14, ln15, ln16, ln17, ln18, ln19, ln20, ln21, ln22, ln23, ln24, ln25, ln26, ln27, ln28, ln29, ln30, ln31, ln32, ln33, ln34, ln35, ln36, ln37, ln38]
end
end Go.Lift
namespace Go.Lift
set_option linter.unusedVariables false
set_option linter.unusedSimpArgs false
section
variable {b : UInt8}
theorem Qlc : ∀ {l : List UInt8}, (∀ c ∈ l, c ≠ b) → Lib.index l [b] = -1
 | [], _ => rfl
 | c :: l, h => by
  have h1 := Qlc (l := l) fun x hx => h x (by simp [hx])
  have h2 := h c (by simp)
  unfold Lib.index
  rw [h1]
  have : List.isPrefixOf [b] (c :: l) = false := by
   simp [List.isPrefixOf]
   exact fun e => h2 e.symm
  rw [this]
  rfl
theorem Qld : ∀ {l : List UInt8} (r : List UInt8), (∀ c ∈ l, c ≠ b) → Lib.index (l ++ b :: r) [b] = (l.length : Int)
 | [], r, _ => by
  show Lib.index (b :: r) [b] = 0
  unfold Lib.index
  simp [List.isPrefixOf]
 | c :: l, r, h => by
  have h1 := Qld (l := l) r fun x hx => h x (by simp [hx])
  have h2 := h c (by simp)
  rw [List.cons_append]
  unfold Lib.index
  rw [h1]
  have : List.isPrefixOf [b] (c :: (l ++ b :: r)) = false := by
   simp [List.isPrefixOf]
   exact fun e => h2 e.symm
  rw [this]
  have h3 : ((l.length : Int) == -1) = false := by rw [beq_eq_false_iff_ne]; omega
  simp [h3]
theorem Qki {l : List UInt8} (h : ∀ c ∈ l, c ≠ b) : Q4i l [b] = [l] := by
 have hi := Qlc h
 unfold Q4i
 rw [Lib.splitB_data]
 show Lib.splitK [b] 0 (Lib.count l [b]) l = [l]
 rw [Lib.count_miss hi]
 rfl
theorem Qkj {l : List UInt8} (r : List UInt8) (h : ∀ c ∈ l, c ≠ b) : Q4i (l ++ b :: r) [b] = l :: Q4i r [b] := by
 have hi := Qld r h
 have hd : (l ++ b :: r).drop (l.length + 1) = r := by
  rw [show l ++ b :: r = (l ++ [b]) ++ r by simp]
  exact List.drop_left' (by simp)
 unfold Q4i
 rw [Lib.splitB_data, Lib.splitB_data]
 show Lib.splitK [b] 0 (Lib.count (l ++ b :: r) [b]) (l ++ b :: r) = l :: Lib.splitK [b] 0 (Lib.count r [b]) r
 rw [Lib.count_hit (i := l.length) (by simp) hi, Nat.add_comm]
 show Lib.splitK [b] 0 (Lib.count ((l ++ b :: r).drop (l.length + 1)) [b] + 1) (l ++ b :: r) = _
 rw [hd]
 rw [Lib.splitK, hi, if_neg (by rw [beq_iff_eq]; omega)]
 show (l ++ b :: r).take (l.length : Int).toNat :: Lib.splitK [b] 0 (Lib.count r [b]) ((l ++ b :: r).drop ((l.length : Int).toNat + 1)) = _
 rw [Int.toNat_natCast, hd, List.take_left]
end
end Go.Lift
