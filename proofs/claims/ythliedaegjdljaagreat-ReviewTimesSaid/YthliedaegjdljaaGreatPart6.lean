/- Part6: Fn0. -/
import Derived.Test.YthliedaegjdljaaGreatProg
import Derived.Test.YthliedaegjdljaaGreatPart5
set_option linter.unusedVariables false
set_option linter.unusedSimpArgs false
namespace Go.Lift
open Go.Proofs
noncomputable section
set_option maxRecDepth 100000
set_option linter.unusedVariables false
abbrev zq0 := (Int × (Bool × List (Int × Int)))
abbrev zq1 : Ty := (.prod (.int .i64) (.prod .bool (.slice (.prod (.int .i64) (.int .i64)))))
abbrev zq2 := (List UInt8 × (List zq0 × Int))
abbrev zq3 : Ty := (.prod .str (.prod (.slice zq1) (.int .i64)))
abbrev zq4 := (List (List UInt8 × List Int) × List zq2)
abbrev zq5 : Ty := (.prod (.slice (.prod .str (.slice (.int .i64)))) (.slice zq3))
abbrev zq6 := (List UInt8 × (Int × List Int))
abbrev zq7 : Ty := (.prod .str (.prod (.int .i64) (.slice (.int .i64))))
abbrev zq8 := (List UInt8 × (Int × ((Int × Int) × (Int × (Int × (List Int × (List (Int × Int) × (Int × Int))))))))
abbrev zq9 : Ty := (.prod .str (.prod (.int .i64) (.prod (.prod (.int .i64) (.int .i64)) (.prod (.int .i64) (.prod (.int .i64) (.prod (.slice (.int .i64)) (.prod (.slice (.prod (.int .i64) (.int .i64))) (.prod (.int .i64) (.int .i64)))))))))
abbrev zqa := (Int × (Int × (Int × (Int × Int))))
abbrev zqb : Ty := (.prod (.int .i64) (.prod (.int .i64) (.prod (.int .i64) (.prod (.int .i64) (.int .i64)))))
abbrev zqc := (List UInt8 × (List zq8 × List zqa))
abbrev zqd : Ty := (.prod .str (.prod (.slice zq9) (.slice zqb)))
abbrev zqe := (List UInt8 × (Int × List (Int × (Int × zqa))))
abbrev zqf : Ty := (.prod .str (.prod (.int .i64) (.slice (.prod (.int .i64) (.prod (.int .i64) zqb)))))
abbrev zqg := (List UInt8 × (Int × (List (Int × Int) × (Int × (Int × Bool)))))
abbrev zqh : Ty := (.prod .str (.prod (.int .i64) (.prod (.slice (.prod (.int .i64) (.int .i64))) (.prod (.int .i64) (.prod (.int .i64) .bool)))))
abbrev zqi := (List zqe × (List zqg × (List zq6 × List zqc)))
abbrev zqj : Ty := (.prod (.slice zqf) (.prod (.slice zqh) (.prod (.slice zq7) (.slice zqd))))
abbrev zqk := (List UInt8 × (Int × (Int × Int)))
abbrev zql : Ty := (.prod .str (.prod (.int .i64) (.prod (.int .i64) (.int .i64))))
abbrev zqm := (Int × (Int × (List UInt8 × List Int)))
abbrev zqn : Ty := (.prod (.int .i64) (.prod (.int .i64) (.prod .str (.slice (.int .i64)))))
abbrev zqo := (Int × ((Int × Int) × ((Int × Int) × ((Int × Int) × (Int × (Int × Int))))))
abbrev zqp : Ty := (.prod (.int .i64) (.prod (.prod (.int .i64) (.int .i64)) (.prod (.prod (.int .i64) (.int .i64)) (.prod (.prod (.int .i64) (.int .i64)) (.prod (.int .i64) (.prod (.int .i64) (.int .i64)))))))
abbrev zqq := (Int × (Int × (Int × (Int × (List UInt8 × ((Int × (Int × Int)) × (List Int × (List zqk × (List zqm × (List Int × (List (Int × (Int × Int)) × Int)))))))))))
abbrev zqr : Ty := (.prod (.int .i64) (.prod (.int .i64) (.prod (.int .i64) (.prod (.int .i64) (.prod .str (.prod (.prod (.int .i64) (.prod (.int .i64) (.int .i64))) (.prod (.slice (.int .i64)) (.prod (.slice zql) (.prod (.slice zqn) (.prod (.slice (.int .i64)) (.prod (.slice (.prod (.int .i64) (.prod (.int .i64) (.int .i64)))) (.int .i64))))))))))))
abbrev zqs := (Int × (Int × (Int × (Int × (Int × (Int × (Int × (Int × (Int × (Int × (Int × (List (Int × (Int × List Int)) × (List Int × List Int)))))))))))))
abbrev zqt : Ty := (.prod (.int .i64) (.prod (.int .i64) (.prod (.int .i64) (.prod (.int .i64) (.prod (.int .i64) (.prod (.int .i64) (.prod (.int .i64) (.prod (.int .i64) (.prod (.int .i64) (.prod (.int .i64) (.prod (.int .i64) (.prod (.slice (.prod (.int .i64) (.prod (.int .i64) (.slice (.int .i64))))) (.prod (.slice (.int .i64)) (.slice (.int .i64)))))))))))))))
abbrev zqu : zq0 := ((0 : Int), (false, ([] : List (Int × Int))))
abbrev zqv : zq6 := (([] : List UInt8), ((0 : Int), ([] : List Int)))
abbrev zqw : zqk := (([] : List UInt8), ((0 : Int), ((0 : Int), (0 : Int))))
abbrev zqx : zq2 := (([] : List UInt8), (([] : List zq0), (0 : Int)))
abbrev zqy : zqa := ((0 : Int), ((0 : Int), ((0 : Int), ((0 : Int), (0 : Int)))))
abbrev zqz : zq4 := (([] : List (List UInt8 × List Int)), ([] : List zq2))
abbrev zq10 : zqm := ((0 : Int), ((0 : Int), (([] : List UInt8), ([] : List Int))))
abbrev zq11 : zqc := (([] : List UInt8), (([] : List zq8), ([] : List zqa)))
abbrev zq12 : zqe := (([] : List UInt8), ((0 : Int), ([] : List (Int × (Int × zqa)))))
abbrev zq13 : zqg := (([] : List UInt8), ((0 : Int), (([] : List (Int × Int)), ((0 : Int), ((0 : Int), false)))))
abbrev zq14 : zqi := (([] : List zqe), (([] : List zqg), (([] : List zq6), ([] : List zqc))))
abbrev zq15 : zqo := ((0 : Int), (((0 : Int), (0 : Int)), (((0 : Int), (0 : Int)), (((0 : Int), (0 : Int)), ((0 : Int), ((0 : Int), (0 : Int)))))))
abbrev zq16 : zq8 := (([] : List UInt8), ((0 : Int), (((0 : Int), (0 : Int)), ((0 : Int), ((0 : Int), (([] : List Int), (([] : List (Int × Int)), ((0 : Int), (0 : Int)))))))))
abbrev zq17 : zqs := ((0 : Int), ((0 : Int), ((0 : Int), ((0 : Int), ((0 : Int), ((0 : Int), ((0 : Int), ((0 : Int), ((0 : Int), ((0 : Int), ((0 : Int), (([] : List (Int × (Int × List Int))), (([] : List Int), ([] : List Int))))))))))))))
abbrev zq18 : zqq := ((0 : Int), ((0 : Int), ((0 : Int), ((0 : Int), (([] : List UInt8), (((0 : Int), ((0 : Int), (0 : Int))), (([] : List Int), (([] : List zqk), (([] : List zqm), (([] : List Int), (([] : List (Int × (Int × Int))), (0 : Int))))))))))))
abbrev t0y := Int × Int
abbrev t1y := List Int × Int
abbrev t2y := Int × (Int × List Int)
abbrev t3y := List UInt8 × List Int
abbrev t4y := List UInt8
abbrev t6y := List Int
abbrev t7y := Int × t0y
abbrev t8y := List t0y
abbrev t9y := List zqc
abbrev t10y := List zq6
abbrev t11y := Int × zqa
abbrev t5y := Int × t11y
abbrev t12y := List zq2
abbrev t13y := List zqg
abbrev t14y := List zqe
abbrev t15y := List zqs
abbrev t16y := List zqm
abbrev t17y := List t7y
abbrev t18y := List t3y
abbrev t19y := List zqk
abbrev t20y := List t4y
abbrev b21y : Bool × List CT := (false, [.data (.int .i64)])
abbrev b22y : BT := .cells 75 [.data (.prod (.slice (.int .i64)) (.int .i64))]
abbrev b23y : Bool × List CT := (false, [.ptr 0 0])
abbrev b24y : BT := .cells 32 [.data zqr]
abbrev b25y : Bool × List CT := (false, [.data .bool])
abbrev b26y : Bool × List CT := (false, [.data (.slice (.prod (.int .i64) (.int .i64)))])
abbrev b27y : Bool × List CT := (false, [.ptr 1 0])
abbrev b28y : BT := .cells 50 [.data zqt]
abbrev b29y : BT := .cells 39 [.data zqj]
abbrev b30y : BT := .cells 56 [.data zqp]
abbrev b31y : Bool × List CT := (false, [.ptr 2 0])
abbrev b32y : Bool × List CT := (false, [.data (.slice (.prod (.int .i64) (.prod (.int .i64) (.int .i64))))])
abbrev b33y : Bool × List CT := (true, [.data zqr])
abbrev b34y : Bool × List CT := (false, [.data (.slice (.int .i64))])
abbrev b35y : Bool × List CT := (true, [.data (.prod (.int .i64) (.int .i64))])
abbrev b36y : Bool × List CT := (true, [.data zqj])
abbrev b37y : BT := .cells 50 [.data (.int .i64), .data (.int .i64), .data (.int .i64), .data (.int .i64), .data (.int .i64), .data (.int .i64), .data (.int .i64), .data (.int .i64), .data (.int .i64), .data (.int .i64), .data (.int .i64), .rowh 5, .rowh 6, .rowh 7]
abbrev b38y : Bool × List CT := (false, [.ptr 3 0])
abbrev b39y : Bool × List CT := (false, [.data (.slice (.prod (.int .i64) (.prod (.int .i64) zqb)))])
abbrev b40y : BT := .cells 121 [.data (.prod (.int .i64) zqb)]
abbrev b41y : BT := .cells 44 [.data zq5]
abbrev b42y : BT := .cells 97 [.data zq9]
abbrev b43y : Bool × List CT := (true, [.data zqt])
abbrev b44y : BT := .cells 95 [.data (.prod (.int .i64) (.int .i64))]
abbrev b45y : Bool × List CT := (false, [.rowh 2])
abbrev b46y : Bool × List CT := (false, [.rowh 0])
abbrev b47y : BT := .cells 62 [.data (.prod (.int .i64) (.prod (.int .i64) (.int .i64)))]
abbrev b48y : Bool × List CT := (true, [.data zqf])
abbrev b49y : Bool × List CT := (false, [.rowh 1])
abbrev b50y : Bool × List CT := (false, [.data .str])
abbrev b51y : BT := .cells 32 [.data (.int .i64), .data (.int .i64), .data (.int .i64), .data (.int .i64), .data .str, .data (.int .i64), .data (.int .i64), .data (.int .i64), .rowh 3, .rowh 4, .data (.slice zqn), .rowh 5, .rowh 6, .data (.int .i64)]
abbrev b52y : BT := .cells 87 [.data zqf]
abbrev b53y : BT := .cells 114 [.data (.prod (.int .i64) (.int .i64))]
abbrev b54y : BT := .cells 32 [.data (.int .i64), .data (.int .i64), .data (.int .i64), .data (.int .i64), .data .str, .data (.int .i64), .data (.int .i64), .data (.int .i64), .rowh 4, .rowh 5, .rowh 6, .rowh 7, .rowh 8, .data (.int .i64)]
abbrev b55y : BT := .cells 39 [.rowh 8, .rowh 9, .rowh 10, .rowh 11]
abbrev b56y : BT := .cells 97 [.data .str, .data (.int .i64), .data (.int .i64), .data (.int .i64), .data (.int .i64), .data (.int .i64), .rowh 12, .rowh 13, .data (.int .i64), .data (.int .i64)]
abbrev b57y : BT := .cells 39 [.rowh 4, .rowh 5, .rowh 6, .rowh 7]
abbrev b58y : Bool × List CT := (false, [.data (.slice zqb)])
abbrev b59y : Bool × List CT := (true, [.data zq5])
abbrev b60y : BT := .cells 54 [.data (.prod (.int .i64) (.int .i64))]
abbrev b61y : Bool × List CT := (true, [.data zq9])
abbrev b62y : Bool × List CT := (true, [.data (.prod (.int .i64) (.prod (.int .i64) (.int .i64)))])
abbrev b63y : Bool × List CT := (true, [.data (.prod (.int .i64) zqb)])
abbrev b64y : BT := .cells 103 [.data zqb]
abbrev b65y : BT := .cells 101 [.data zqd]
abbrev b66y : Bool × List CT := (false, [.ptr 4 0])
abbrev b67y : Bool × List CT := (false, [.data (.slice zqt)])
abbrev b68y : BT := .cells 39 [.rowh 7, .rowh 8, .rowh 9, .rowh 10]
abbrev b69y : BT := .cells 212 [.data zq7]
abbrev b70y : BT := .cells 39 [.rowh 3, .rowh 4, .rowh 5, .rowh 6]
abbrev b71y : Bool × List CT := (false, [.data (.slice (.prod (.int .i64) (.prod (.int .i64) (.slice (.int .i64)))))])
def tab : List (Nat × TI) := [
 (3, ⟨false, 1, 8, [.int .i64 (0 : Int)], [], none, none, (some (.int .i64)), (some .i64), false, false, none, none⟩),
 (4, ⟨false, 1, 1, [.bool false], [], none, none, (some .bool), none, true, false, none, none⟩),
 (5, ⟨false, 1, 1, [.int .u8 (0 : Int)], [], none, none, (some (.int .u8)), (some .u8), false, false, none, none⟩),
 (9, ⟨false, 1, 16, [.str ([] : List UInt8)], [], none, none, (some .str), none, false, true, none, none⟩),
 (22, ⟨false, 1, 24, [.nils], [], (some 3), none, (some (.slice (.int .i64))), none, false, false, none, none⟩),
 (27, ⟨true, 3, 24, [.int .i64 (0 : Int), .int .i64 (0 : Int), .int .i64 (0 : Int)], [], (some 3), (some 3), (some (.prod (.int .i64) (.prod (.int .i64) (.int .i64)))), none, false, false, (some [.i, .i, .i]), none⟩),
 (28, ⟨false, 1, 24, [.nils], [], (some 145), none, (some (.slice zql)), none, false, false, none, none⟩),
 (29, ⟨false, 1, 24, [.nils], [], (some 148), none, (some (.slice zqn)), none, false, false, none, none⟩),
 (30, ⟨false, 1, 24, [.nils], [], (some 62), none, (some (.slice (.prod (.int .i64) (.prod (.int .i64) (.int .i64))))), none, false, false, none, none⟩),
 (32, ⟨true, 14, 200, [.int .i64 (0 : Int), .int .i64 (0 : Int), .int .i64 (0 : Int), .int .i64 (0 : Int), .str ([] : List UInt8), .int .i64 (0 : Int), .int .i64 (0 : Int), .int .i64 (0 : Int), .nils, .nils, .nils, .nils, .nils, .int .i64 (0 : Int)], [(0, 1, false), (1, 1, false), (2, 1, false), (3, 1, false), (4, 1, false), (5, 3, true), (8, 1, false), (9, 1, false), (10, 1, false), (11, 1, false), (12, 1, false), (13, 1, false)], none, none, (some zqr), none, false, false, none, none⟩),
 (34, ⟨false, 1, 24, [.nils], [], (some 87), none, (some (.slice zqf)), none, false, false, none, none⟩),
 (35, ⟨false, 1, 24, [.nils], [], (some 91), none, (some (.slice zqh)), none, false, false, none, none⟩),
 (36, ⟨false, 1, 24, [.nils], [], (some 212), none, (some (.slice zq7)), none, false, false, none, none⟩),
 (37, ⟨false, 1, 24, [.nils], [], (some 101), none, (some (.slice zqd)), none, false, false, none, none⟩),
 (39, ⟨true, 4, 96, [.nils, .nils, .nils, .nils], [(0, 1, false), (1, 1, false), (2, 1, false), (3, 1, false)], none, none, (some zqj), none, false, false, none, none⟩),
 (41, ⟨false, 1, 24, [.nils], [], (some 106), none, (some (.slice (.prod .str (.slice (.int .i64))))), none, false, false, none, none⟩),
 (42, ⟨false, 1, 24, [.nils], [], (some 109), none, (some (.slice zq3)), none, false, false, none, none⟩),
 (44, ⟨true, 2, 48, [.nils, .nils], [(0, 1, false), (1, 1, false)], none, none, (some zq5), none, false, false, none, none⟩),
 (46, ⟨false, 1, 24, [.nils], [], (some 50), none, (some (.slice zqt)), none, false, false, none, none⟩),
 (48, ⟨false, 1, 24, [.nils], [], (some 65), none, (some (.slice (.prod (.int .i64) (.prod (.int .i64) (.slice (.int .i64)))))), none, false, false, none, none⟩),
 (50, ⟨true, 14, 160, [.int .i64 (0 : Int), .int .i64 (0 : Int), .int .i64 (0 : Int), .int .i64 (0 : Int), .int .i64 (0 : Int), .int .i64 (0 : Int), .int .i64 (0 : Int), .int .i64 (0 : Int), .int .i64 (0 : Int), .int .i64 (0 : Int), .int .i64 (0 : Int), .nils, .nils, .nils], [(0, 1, false), (1, 1, false), (2, 1, false), (3, 1, false), (4, 1, false), (5, 1, false), (6, 1, false), (7, 1, false), (8, 1, false), (9, 1, false), (10, 1, false), (11, 1, false), (12, 1, false), (13, 1, false)], none, none, (some zqt), none, false, false, none, none⟩),
 (54, ⟨true, 2, 16, [.int .i64 (0 : Int), .int .i64 (0 : Int)], [(0, 1, false), (1, 1, false)], none, none, (some (.prod (.int .i64) (.int .i64))), none, false, false, (some [.i, .i]), none⟩),
 (56, ⟨true, 10, 80, [.int .i64 (0 : Int), .int .i64 (0 : Int), .int .i64 (0 : Int), .int .i64 (0 : Int), .int .i64 (0 : Int), .int .i64 (0 : Int), .int .i64 (0 : Int), .int .i64 (0 : Int), .int .i64 (0 : Int), .int .i64 (0 : Int)], [(0, 1, false), (1, 2, true), (3, 2, true), (5, 2, true), (7, 1, false), (8, 1, false), (9, 1, false)], none, none, (some zqp), none, false, false, (some [.i, .i, .i, .i, .i, .i, .i, .i, .i, .i]), none⟩),
 (62, ⟨true, 3, 24, [.int .i64 (0 : Int), .int .i64 (0 : Int), .int .i64 (0 : Int)], [(0, 1, false), (1, 1, false), (2, 1, false)], none, none, (some (.prod (.int .i64) (.prod (.int .i64) (.int .i64)))), none, false, false, (some [.i, .i, .i]), none⟩),
 (65, ⟨true, 3, 40, [.int .i64 (0 : Int), .int .i64 (0 : Int), .nils], [(0, 1, false), (1, 1, false), (2, 1, false)], none, none, (some (.prod (.int .i64) (.prod (.int .i64) (.slice (.int .i64))))), none, false, false, none, none⟩),
 (66, ⟨false, 1, 24, [.nils], [], (some 54), none, (some (.slice (.prod (.int .i64) (.int .i64)))), none, false, false, none, none⟩),
 (70, ⟨true, 2, 16, [.int .i64 (0 : Int), .int .i64 (0 : Int)], [(0, 1, false), (1, 1, false)], none, none, (some (.prod (.int .i64) (.int .i64))), none, false, false, (some [.i, .i]), none⟩),
 (75, ⟨true, 2, 32, [.nils, .int .i64 (0 : Int)], [(0, 1, false), (1, 1, false)], none, none, (some (.prod (.slice (.int .i64)) (.int .i64))), none, false, false, none, none⟩),
 (85, ⟨false, 1, 24, [.nils], [], (some 223), none, (some (.slice (.prod (.int .i64) (.prod (.int .i64) zqb)))), none, false, false, none, none⟩),
 (87, ⟨true, 3, 48, [.str ([] : List UInt8), .int .i64 (0 : Int), .nils], [(0, 1, false), (1, 1, false), (2, 1, false)], none, none, (some zqf), none, false, false, none, none⟩),
 (88, ⟨false, 1, 24, [.nils], [], (some 9), none, (some (.slice .str)), none, false, false, none, none⟩),
 (89, ⟨false, 1, 24, [.nils], [], (some 93), none, (some (.slice (.prod (.int .i64) (.int .i64)))), none, false, false, none, none⟩),
 (91, ⟨true, 6, 72, [.str ([] : List UInt8), .int .i64 (0 : Int), .nils, .int .i64 (0 : Int), .int .i64 (0 : Int), .bool false], [(0, 1, false), (1, 1, false), (2, 1, false), (3, 1, false), (4, 1, false), (5, 1, false)], none, none, (some zqh), none, false, false, none, none⟩),
 (93, ⟨true, 2, 16, [.int .i64 (0 : Int), .int .i64 (0 : Int)], [(0, 1, false), (1, 1, false)], none, none, (some (.prod (.int .i64) (.int .i64))), none, false, false, (some [.i, .i]), none⟩),
 (95, ⟨true, 2, 16, [.int .i64 (0 : Int), .int .i64 (0 : Int)], [(0, 1, false), (1, 1, false)], none, none, (some (.prod (.int .i64) (.int .i64))), none, false, false, (some [.i, .i]), none⟩),
 (97, ⟨true, 10, 120, [.str ([] : List UInt8), .int .i64 (0 : Int), .int .i64 (0 : Int), .int .i64 (0 : Int), .int .i64 (0 : Int), .int .i64 (0 : Int), .nils, .nils, .int .i64 (0 : Int), .int .i64 (0 : Int)], [(0, 1, false), (1, 1, false), (2, 2, true), (4, 1, false), (5, 1, false), (6, 1, false), (7, 1, false), (8, 1, false), (9, 1, false)], none, none, (some zq9), none, false, false, none, none⟩),
 (98, ⟨false, 1, 24, [.nils], [], (some 97), none, (some (.slice zq9)), none, false, false, none, none⟩),
 (99, ⟨false, 1, 24, [.nils], [], (some 103), none, (some (.slice zqb)), none, false, false, none, none⟩),
 (101, ⟨true, 3, 64, [.str ([] : List UInt8), .nils, .nils], [(0, 1, false), (1, 1, false), (2, 1, false)], none, none, (some zqd), none, false, false, none, none⟩),
 (103, ⟨true, 5, 40, [.int .i64 (0 : Int), .int .i64 (0 : Int), .int .i64 (0 : Int), .int .i64 (0 : Int), .int .i64 (0 : Int)], [(0, 1, false), (1, 1, false), (2, 1, false), (3, 1, false), (4, 1, false)], none, none, (some zqb), none, false, false, (some [.i, .i, .i, .i, .i]), none⟩),
 (106, ⟨true, 2, 40, [.str ([] : List UInt8), .nils], [(0, 1, false), (1, 1, false)], none, none, (some (.prod .str (.slice (.int .i64)))), none, false, false, none, none⟩),
 (107, ⟨false, 1, 24, [.nils], [], (some 112), none, (some (.slice zq1)), none, false, false, none, none⟩),
 (109, ⟨true, 3, 48, [.str ([] : List UInt8), .nils, .int .i64 (0 : Int)], [(0, 1, false), (1, 1, false), (2, 1, false)], none, none, (some zq3), none, false, false, none, none⟩),
 (110, ⟨false, 1, 24, [.nils], [], (some 114), none, (some (.slice (.prod (.int .i64) (.int .i64)))), none, false, false, none, none⟩),
 (112, ⟨true, 3, 40, [.int .i64 (0 : Int), .bool false, .nils], [(0, 1, false), (1, 1, false), (2, 1, false)], none, none, (some zq1), none, false, false, none, none⟩),
 (114, ⟨true, 2, 16, [.int .i64 (0 : Int), .int .i64 (0 : Int)], [(0, 1, false), (1, 1, false)], none, none, (some (.prod (.int .i64) (.int .i64))), none, false, false, (some [.i, .i]), none⟩),
 (121, ⟨true, 6, 48, [.int .i64 (0 : Int), .int .i64 (0 : Int), .int .i64 (0 : Int), .int .i64 (0 : Int), .int .i64 (0 : Int), .int .i64 (0 : Int)], [(0, 1, false), (1, 1, false), (2, 1, false), (3, 1, false), (4, 1, false), (5, 1, false)], none, none, (some (.prod (.int .i64) zqb)), none, false, false, (some [.i, .i, .i, .i, .i, .i]), none⟩),
 (124, ⟨false, 1, 8, [.junk], [], none, none, none, none, false, false, none, (some (3, 4))⟩),
 (135, ⟨true, 2, 48, [.nils, .nils], [(0, 1, false), (1, 1, false)], none, none, (some (.prod (.slice (.int .i64)) (.slice (.int .i64)))), none, false, false, none, none⟩),
 (137, ⟨true, 2, 48, [.nils, .nils], [(0, 2, true)], none, none, (some (.prod (.slice (.int .i64)) (.slice (.int .i64)))), none, false, false, none, none⟩),
 (145, ⟨true, 4, 40, [.str ([] : List UInt8), .int .i64 (0 : Int), .int .i64 (0 : Int), .int .i64 (0 : Int)], [(0, 1, false), (1, 1, false), (2, 1, false), (3, 1, false)], none, none, (some zql), none, false, false, (some [.s, .i, .i, .i]), none⟩),
 (148, ⟨true, 4, 56, [.int .i64 (0 : Int), .int .i64 (0 : Int), .str ([] : List UInt8), .nils], [(0, 1, false), (1, 1, false), (2, 1, false), (3, 1, false)], none, none, (some zqn), none, false, false, none, none⟩),
 (212, ⟨true, 3, 48, [.str ([] : List UInt8), .int .i64 (0 : Int), .nils], [(0, 1, false), (1, 1, false), (2, 1, false)], none, none, (some zq7), none, false, false, none, none⟩),
 (219, ⟨false, 1, 24, [.nils], [], (some 232), none, (some (.slice (.prod (.int .i64) (.int .i64)))), none, false, false, none, none⟩),
 (223, ⟨true, 7, 56, [.int .i64 (0 : Int), .int .i64 (0 : Int), .int .i64 (0 : Int), .int .i64 (0 : Int), .int .i64 (0 : Int), .int .i64 (0 : Int), .int .i64 (0 : Int)], [(0, 1, false), (1, 1, false), (2, 1, false), (3, 1, false), (4, 1, false), (5, 1, false), (6, 1, false)], none, none, (some (.prod (.int .i64) (.prod (.int .i64) zqb))), none, false, false, (some [.i, .i, .i, .i, .i, .i, .i]), none⟩),
 (228, ⟨false, 1, 24, [.nils], [], (some 231), none, (some (.slice (.prod (.int .i64) (.int .i64)))), none, false, false, none, none⟩),
 (231, ⟨true, 2, 16, [.int .i64 (0 : Int), .int .i64 (0 : Int)], [(0, 1, false), (1, 1, false)], none, none, (some (.prod (.int .i64) (.int .i64))), none, false, false, (some [.i, .i]), none⟩),
 (232, ⟨true, 2, 16, [.int .i64 (0 : Int), .int .i64 (0 : Int)], [(0, 1, false), (1, 1, false)], none, none, (some (.prod (.int .i64) (.int .i64))), none, false, false, (some [.i, .i]), none⟩),
 (239, ⟨true, 3, 24, [.int .i64 (0 : Int), .int .i64 (0 : Int), .int .i64 (0 : Int)], [(0, 1, false), (1, 1, false), (2, 1, false)], none, none, (some (.prod (.int .i64) (.prod (.int .i64) (.int .i64)))), none, false, false, (some [.i, .i, .i]), none⟩)]
theorem tab_ok : TOk Tryz.prog (look tab) := TOk_of (by kernel_rfl)
theorem mixed : Tryz.prog.follows .mixedOrders = true := by kernel_rfl
abbrev OK (p : Pc) (G : p.G) : Prop := p.Ok Tryz.prog G
abbrev GO (X : Ctx) : Prop := ΓOk Tryz.prog X.Γ
@[reducible] def cx (l : List (Nat × Fun)) : Ctx := ⟨look tab, pick1 l, false, false, false, false, []⟩
@[reducible] def lp2 {A0 A1 B : Type} (f : (A0 → A1 → B) → A0 → A1 → B) (z : B) : Nat → A0 → A1 → B
 | 0 => fun _ _ => z
 | i + 1 => f (lp2 f z i)
@[reducible] def lp3 {A0 A1 A2 B : Type} (f : (A0 → A1 → A2 → B) → A0 → A1 → A2 → B) (z : B) : Nat → A0 → A1 → A2 → B
 | 0 => fun _ _ _ => z
 | i + 1 => f (lp3 f z i)
@[reducible] def lp4 {A0 A1 A2 A3 B : Type} (f : (A0 → A1 → A2 → A3 → B) → A0 → A1 → A2 → A3 → B) (z : B) : Nat → A0 → A1 → A2 → A3 → B
 | 0 => fun _ _ _ _ => z
 | i + 1 => f (lp4 f z i)
@[reducible] def lp5 {A0 A1 A2 A3 A4 B : Type} (f : (A0 → A1 → A2 → A3 → A4 → B) → A0 → A1 → A2 → A3 → A4 → B) (z : B) : Nat → A0 → A1 → A2 → A3 → A4 → B
 | 0 => fun _ _ _ _ _ => z
 | i + 1 => f (lp5 f z i)
@[reducible] def lp6 {A0 A1 A2 A3 A4 A5 B : Type} (f : (A0 → A1 → A2 → A3 → A4 → A5 → B) → A0 → A1 → A2 → A3 → A4 → A5 → B) (z : B) : Nat → A0 → A1 → A2 → A3 → A4 → A5 → B
 | 0 => fun _ _ _ _ _ _ => z
 | i + 1 => f (lp6 f z i)
@[reducible] def lp7 {A0 A1 A2 A3 A4 A5 A6 B : Type} (f : (A0 → A1 → A2 → A3 → A4 → A5 → A6 → B) → A0 → A1 → A2 → A3 → A4 → A5 → A6 → B) (z : B) : Nat → A0 → A1 → A2 → A3 → A4 → A5 → A6 → B
 | 0 => fun _ _ _ _ _ _ _ => z
 | i + 1 => f (lp7 f z i)
@[reducible] def lp8 {A0 A1 A2 A3 A4 A5 A6 A7 B : Type} (f : (A0 → A1 → A2 → A3 → A4 → A5 → A6 → A7 → B) → A0 → A1 → A2 → A3 → A4 → A5 → A6 → A7 → B) (z : B) : Nat → A0 → A1 → A2 → A3 → A4 → A5 → A6 → A7 → B
 | 0 => fun _ _ _ _ _ _ _ _ => z
 | i + 1 => f (lp8 f z i)
@[reducible] def lp10 {A0 A1 A2 A3 A4 A5 A6 A7 A8 A9 B : Type} (f : (A0 → A1 → A2 → A3 → A4 → A5 → A6 → A7 → A8 → A9 → B) → A0 → A1 → A2 → A3 → A4 → A5 → A6 → A7 → A8 → A9 → B) (z : B) : Nat → A0 → A1 → A2 → A3 → A4 → A5 → A6 → A7 → A8 → A9 → B
 | 0 => fun _ _ _ _ _ _ _ _ _ _ => z
 | i + 1 => f (lp10 f z i)
@[reducible] def lp11 {A0 A1 A2 A3 A4 A5 A6 A7 A8 A9 A10 B : Type} (f : (A0 → A1 → A2 → A3 → A4 → A5 → A6 → A7 → A8 → A9 → A10 → B) → A0 → A1 → A2 → A3 → A4 → A5 → A6 → A7 → A8 → A9 → A10 → B) (z : B) : Nat → A0 → A1 → A2 → A3 → A4 → A5 → A6 → A7 → A8 → A9 → A10 → B
 | 0 => fun _ _ _ _ _ _ _ _ _ _ _ => z
 | i + 1 => f (lp11 f z i)
@[reducible] def lp12 {A0 A1 A2 A3 A4 A5 A6 A7 A8 A9 A10 A11 B : Type} (f : (A0 → A1 → A2 → A3 → A4 → A5 → A6 → A7 → A8 → A9 → A10 → A11 → B) → A0 → A1 → A2 → A3 → A4 → A5 → A6 → A7 → A8 → A9 → A10 → A11 → B) (z : B) : Nat → A0 → A1 → A2 → A3 → A4 → A5 → A6 → A7 → A8 → A9 → A10 → A11 → B
 | 0 => fun _ _ _ _ _ _ _ _ _ _ _ _ => z
 | i + 1 => f (lp12 f z i)
@[reducible] def lp14 {A0 A1 A2 A3 A4 A5 A6 A7 A8 A9 A10 A11 A12 A13 B : Type} (f : (A0 → A1 → A2 → A3 → A4 → A5 → A6 → A7 → A8 → A9 → A10 → A11 → A12 → A13 → B) → A0 → A1 → A2 → A3 → A4 → A5 → A6 → A7 → A8 → A9 → A10 → A11 → A12 → A13 → B) (z : B) : Nat → A0 → A1 → A2 → A3 → A4 → A5 → A6 → A7 → A8 → A9 → A10 → A11 → A12 → A13 → B
 | 0 => fun _ _ _ _ _ _ _ _ _ _ _ _ _ _ => z
 | i + 1 => f (lp14 f z i)
@[reducible] def lp17 {A0 A1 A2 A3 A4 A5 A6 A7 A8 A9 A10 A11 A12 A13 A14 A15 A16 B : Type} (f : (A0 → A1 → A2 → A3 → A4 → A5 → A6 → A7 → A8 → A9 → A10 → A11 → A12 → A13 → A14 → A15 → A16 → B) → A0 → A1 → A2 → A3 → A4 → A5 → A6 → A7 → A8 → A9 → A10 → A11 → A12 → A13 → A14 → A15 → A16 → B) (z : B) : Nat → A0 → A1 → A2 → A3 → A4 → A5 → A6 → A7 → A8 → A9 → A10 → A11 → A12 → A13 → A14 → A15 → A16 → B
 | 0 => fun _ _ _ _ _ _ _ _ _ _ _ _ _ _ _ _ _ => z
 | i + 1 => f (lp17 f z i)
@[reducible] def lp20 {A0 A1 A2 A3 A4 A5 A6 A7 A8 A9 A10 A11 A12 A13 A14 A15 A16 A17 A18 A19 B : Type} (f : (A0 → A1 → A2 → A3 → A4 → A5 → A6 → A7 → A8 → A9 → A10 → A11 → A12 → A13 → A14 → A15 → A16 → A17 → A18 → A19 → B) → A0 → A1 → A2 → A3 → A4 → A5 → A6 → A7 → A8 → A9 → A10 → A11 → A12 → A13 → A14 → A15 → A16 → A17 → A18 → A19 → B) (z : B) : Nat → A0 → A1 → A2 → A3 → A4 → A5 → A6 → A7 → A8 → A9 → A10 → A11 → A12 → A13 → A14 → A15 → A16 → A17 → A18 → A19 → B
 | 0 => fun _ _ _ _ _ _ _ _ _ _ _ _ _ _ _ _ _ _ _ _ => z
 | i + 1 => f (lp20 f z i)
@[reducible] def lp21 {A0 A1 A2 A3 A4 A5 A6 A7 A8 A9 A10 A11 A12 A13 A14 A15 A16 A17 A18 A19 A20 B : Type} (f : (A0 → A1 → A2 → A3 → A4 → A5 → A6 → A7 → A8 → A9 → A10 → A11 → A12 → A13 → A14 → A15 → A16 → A17 → A18 → A19 → A20 → B) → A0 → A1 → A2 → A3 → A4 → A5 → A6 → A7 → A8 → A9 → A10 → A11 → A12 → A13 → A14 → A15 → A16 → A17 → A18 → A19 → A20 → B) (z : B) : Nat → A0 → A1 → A2 → A3 → A4 → A5 → A6 → A7 → A8 → A9 → A10 → A11 → A12 → A13 → A14 → A15 → A16 → A17 → A18 → A19 → A20 → B
 | 0 => fun _ _ _ _ _ _ _ _ _ _ _ _ _ _ _ _ _ _ _ _ _ => z
 | i + 1 => f (lp21 f z i)
@[reducible] def lp38 {A0 A1 A2 A3 A4 A5 A6 A7 A8 A9 A10 A11 A12 A13 A14 A15 A16 A17 A18 A19 A20 A21 A22 A23 A24 A25 A26 A27 A28 A29 A30 A31 A32 A33 A34 A35 A36 A37 B : Type} (f : (A0 → A1 → A2 → A3 → A4 → A5 → A6 → A7 → A8 → A9 → A10 → A11 → A12 → A13 → A14 → A15 → A16 → A17 → A18 → A19 → A20 → A21 → A22 → A23 → A24 → A25 → A26 → A27 → A28 → A29 → A30 → A31 → A32 → A33 → A34 → A35 → A36 → A37 → B) → A0 → A1 → A2 → A3 → A4 → A5 → A6 → A7 → A8 → A9 → A10 → A11 → A12 → A13 → A14 → A15 → A16 → A17 → A18 → A19 → A20 → A21 → A22 → A23 → A24 → A25 → A26 → A27 → A28 → A29 → A30 → A31 → A32 → A33 → A34 → A35 → A36 → A37 → B) (z : B) : Nat → A0 → A1 → A2 → A3 → A4 → A5 → A6 → A7 → A8 → A9 → A10 → A11 → A12 → A13 → A14 → A15 → A16 → A17 → A18 → A19 → A20 → A21 → A22 → A23 → A24 → A25 → A26 → A27 → A28 → A29 → A30 → A31 → A32 → A33 → A34 → A35 → A36 → A37 → B
 | 0 => fun _ _ _ _ _ _ _ _ _ _ _ _ _ _ _ _ _ _ _ _ _ _ _ _ _ _ _ _ _ _ _ _ _ _ _ _ _ _ => z
 | i + 1 => f (lp38 f z i)
abbrev zq19 := {β : Type} → t6y → (Bool → Option β) → Option β
def zq1a (c : zq19) : Spec :=
 ⟨[b34y], [], [b25y], [], fun x k => c x.1.1.1 (fun r0 => k (((r0, ()), ()), ()))⟩
section
@[reducible] def zq1b : Ctx := cx []
def zq1c : zq19 := fun l k =>
 let t : Bool := (decide ((List.length l : Int) ≤ (500 : Int)));
 k t
theorem zq1d (hΓ : GO zq1b) : SpecOk Tryz.prog 4 (zq1a (zq1c)) :=
 pcS mixed zq1b tab_ok hΓ (pick1 []) [.tmp 2] Tryz.func4 (by kernel_rfl) (by kernel_rfl) (by kernel_rfl) (by kernel_rfl) CutsOk_nil (fun _ _ => by kernel_rfl)
end
theorem zq1eΓ : GO (zq1b) := ΓOk_nil
def zq1f : zq19 := zq1c
theorem zq1g : SpecOk Tryz.prog 4 (zq1a zq1f) := zq1d zq1eΓ
abbrev zq1h := {β : Type} → t6y → (t1y → Option β) → Option β
def zq1i (c : zq1h) : Spec :=
 ⟨[b34y], [], [b23y], [b22y], fun x k => c x.1.1.1 (fun r0 => k (((), ()), ((r0, ()), ())))⟩
section
@[reducible] def zq1j : Ctx := cx []
def zq1k : zq1h := fun l k =>
 k (l, (0 : Int))
theorem zq1l (hΓ : GO zq1j) : SpecOk Tryz.prog 6 (zq1i (zq1k)) :=
 pcS mixed zq1j tab_ok hΓ (pick1 []) [.tmp 2] Tryz.func6 (by kernel_rfl) (by kernel_rfl) (by kernel_rfl) (by kernel_rfl) CutsOk_nil (fun _ _ => by kernel_rfl)
end
theorem zq1mΓ : GO (zq1j) := ΓOk_nil
def zq1n : zq1h := zq1k
theorem zq1o : SpecOk Tryz.prog 6 (zq1i zq1n) := zq1l zq1mΓ
abbrev zq1p := {β : Type} → Int → t1y → (Int → t1y → Option β) → Option β
def zq1q (c : zq1p) : Spec :=
 ⟨[b23y, b21y], [b22y], [b21y], [b22y], fun x k => c x.1.2.1.1 x.2.1.1 (fun r0 r1 => k (((r0, ()), ()), ((r1, ()), ())))⟩
section
@[reducible] def zq1r : Ctx := cx []
def zq1s : zq1p := fun n d k =>
 cond (decide ((List.length d.1 : Int) ≤ d.2))
 (k (0 : Int) d)
 (cond (decide (n < (1 : Int)))
 (k (0 : Int) d)
 (cond (decide (0 ≤ d.2) && decide (d.2 < (List.length d.1 : Int)))
 (let e : Int := List.getD d.1 (Int.toNat d.2) (0 : Int);
 cond (!decide (n = 0))
 (cond (decide ((Int.tmod e n) < (0 : Int)))
 (let x : Int := (IntKind.i64.wrap ((Int.tmod e n) + n));
 k x (d.1, (IntKind.i64.wrap (d.2 + (1 : Int)))))
 (k (Int.tmod e n) (d.1, (IntKind.i64.wrap (d.2 + (1 : Int))))))
 none)
 none))
theorem zq1t (hΓ : GO zq1r) : SpecOk Tryz.prog 10 (zq1q (zq1s)) :=
 pcS mixed zq1r tab_ok hΓ (pick1 []) [.tmp 4] Tryz.func10 (by kernel_rfl) (by kernel_rfl) (by kernel_rfl) (by kernel_rfl) CutsOk_nil (fun _ _ => by kernel_rfl)
end
theorem zq1uΓ : GO (zq1r) := ΓOk_nil
def zq1v : zq1p := zq1s
theorem zq1w : SpecOk Tryz.prog 10 (zq1q zq1v) := zq1t zq1uΓ
abbrev zq1x := {β : Type} → t6y → Int → (Bool → Option β) → Option β
def zq1y (c : zq1x) : Spec :=
 ⟨[b34y, b21y], [], [b25y], [], fun x k => c x.1.1.1 x.1.2.1.1 (fun r0 => k (((r0, ()), ()), ()))⟩
abbrev zq1z (β : Type) := Bool → Option β
abbrev zq20 (β : Type) := Unit → Option β
abbrev zq21 (β : Type) := t6y → Int → Int → Option β
abbrev zq22 := {β : Type} → zq1z β → zq20 β → zq21 β
noncomputable def zq23 : Pc := ⟨18, 0, codeAt 26 (bodyOf Tryz.f14), ⟨0, [0, 1, 5], [b34y, b21y, b21y], []⟩, [(.ret, ⟨0, [4], [b25y], []⟩), (.exit 0, ⟨0, [], [], []⟩)]⟩
@[reducible] def zq24 (p : zq22) : zq23.G := fun d ks => p (fun a0 => ks.1 (((a0, ()), ()), ())) (fun _ => ks.2.1 ((), ())) d.1.1.1 d.1.2.1.1 d.1.2.2.1.1
section
@[reducible] def zq25 : Ctx := cx []
def zq26 {β : Type} (rec : zq21 β) (k1 : zq1z β) (k2 : zq20 β) : zq21 β := fun l x i_ =>
 cond (decide (i_ < (List.length l : Int)))
 (cond (decide (0 ≤ i_) && decide (i_ < (List.length l : Int)))
 (let e : Int := List.getD l (Int.toNat i_) (0 : Int);
 cond (decide (e = x))
 (k1 true)
 (let i_2 : Int := (IntKind.i64.wrap (i_ + (1 : Int)));
 rec l x i_2))
 none)
 (k2 ())
def zq27 {β : Type} (i : Nat) (k1 : zq1z β) (k2 : zq20 β) := lp3 (fun r => zq26 r k1 k2) none i
theorem zq28 (hΓ : GO zq25) (i : Nat) : OK zq23 (zq24 (zq27 i)) :=
 pcL mixed zq25 tab_ok hΓ (G := fun i => @fun β d ks => zq24 (zq27 i) d ks) (pick1 []) (by kernel_rfl) rfl (by kernel_rfl) CutsOk_nil (fun _ _ => rfl) (fun _ _ _ _ => by kernel_rfl) i
def zq29 (p1 : zq22) : zq1x := fun l x k =>
 p1 (fun (t4 : Bool) =>
 k t4) (fun (_ : Unit) =>
 k false) l x (0 : Int)
theorem zq2a (hΓ : GO zq25) (p1 : zq22) (hp1 : OK zq23 (zq24 p1)) : SpecOk Tryz.prog 14 (zq1y (zq29 p1)) :=
 pcS mixed zq25 tab_ok hΓ (pick1 [(26, zq23.cut (zq24 p1))]) [.tmp 4] Tryz.func14 (by kernel_rfl) (by kernel_rfl) (by kernel_rfl) (by kernel_rfl) (CutsOk_cons (by kernel_rfl) rfl hp1 CutsOk_nil) (fun _ _ => by kernel_rfl)
end
theorem zq2bΓ : GO (zq25) := ΓOk_nil
def zq2c (m : Nat) : zq22 := zq27 m
theorem zq2d {β : Type} (i : Nat) (k1 k2) : zq2c (β := β) (i + 1) k1 k2 = zq26 (zq2c i k1 k2) k1 k2 := rfl
def zq2e : zq22 := zq2c fuel
theorem zq2f : OK zq23 (zq24 zq2e) := zq28 zq2bΓ fuel
def zq2g : zq1x := zq29 zq2e
theorem zq2h : SpecOk Tryz.prog 14 (zq1y zq2g) := zq2a zq2bΓ zq2e zq2f
abbrev zq2i := {β : Type} → t6y → t1y → (Int → t1y → Option β) → Option β
def zq2j (c : zq2i) : Spec :=
 ⟨[b23y, b34y], [b22y], [b21y], [b22y], fun x k => c x.1.2.1.1 x.2.1.1 (fun r0 r1 => k (((r0, ()), ()), ((r1, ()), ())))⟩
section
variable (zqxr : zq1p)
@[reducible] def zq2k : Ctx := cx [(10, .spec (zq1q zqxr))]
def zq2l : zq2i := fun l d k =>
 zqxr (List.length l : Int) d (fun (rNext : Int) (mrNext : t1y) =>
 cond (decide (0 ≤ rNext) && decide (rNext < (List.length l : Int)))
 (let e : Int := List.getD l (Int.toNat rNext) (0 : Int);
 k e mrNext)
 none)
theorem zq2m (hΓ : GO (zq2k zqxr)) : SpecOk Tryz.prog 19 (zq2j (zq2l zqxr)) :=
 pcS mixed (zq2k zqxr) tab_ok hΓ (pick1 []) [.tmp 4] Tryz.func19 (by kernel_rfl) (by kernel_rfl) (by kernel_rfl) (by kernel_rfl) CutsOk_nil (fun _ _ => by kernel_rfl)
end
theorem zq2nΓ : GO (zq2k zq1v) := (ΓOk_cons zq1w ΓOk_nil)
def zq2o : zq2i := zq2l zq1v
theorem zq2p : SpecOk Tryz.prog 19 (zq2j zq2o) := zq2m zq1v zq2nΓ
abbrev zq2q := {β : Type} → t1y → (zqa → t1y → Option β) → Option β
def zq2r (c : zq2q) : Spec :=
 ⟨[b23y], [b22y], [(true, [.data zqb])], [b22y], fun x k => c x.2.1.1 (fun r0 r1 => k (((r0, ()), ()), ((r1, ()), ())))⟩
section
variable (zqxr : zq1p) (zqxs : zq2i)
@[reducible] def zq2s : Ctx := cx [(10, .spec (zq1q zqxr)), (19, .spec (zq2j zqxs))]
def zq2t : zq2q := fun d k =>
 let l : List Int := ([(0 : Int), (300 : Int), (1200 : Int), (3600 : Int)] : List Int);
 zqxs l d (fun (rOne : Int) (mrOne : t1y) =>
 let from_ : Int := (IntKind.i64.wrap ((864000 : Int) + rOne));
 zqxr (3 : Int) mrOne (fun (rNext : Int) (mrNext : t1y) =>
 zqxr (4 : Int) mrNext (fun (rNext2 : Int) (mrNext2 : t1y) =>
 let l2 : List Int := ([(300 : Int), (1800 : Int), (7200 : Int)] : List Int);
 zqxs l2 mrNext2 (fun (rOne2 : Int) (mrOne2 : t1y) =>
 let t : Bool := (decide (rNext = (2 : Int)));
 cond t
 (zqxr (3 : Int) mrOne2 (fun (rNext3 : Int) (mrNext3 : t1y) =>
 cond (!decide ((4 : Int) = 0))
 (k (rNext, (rNext2, ((Int.tmod (IntKind.i64.wrap ((IntKind.i64.wrap (rNext2 + (1 : Int))) + rNext3)) (4 : Int)), (from_, (IntKind.i64.wrap (from_ + rOne2)))))) mrNext3)
 none))
 (let t2 : Bool := (decide (rNext = (1 : Int)));
 cond t2
 (zqxr (5 : Int) mrOne2 (fun (rNext3 : Int) (mrNext3 : t1y) =>
 k (rNext, ((IntKind.i64.wrap (rNext3 - (1 : Int))), ((0 : Int), (from_, (IntKind.i64.wrap (from_ + rOne2)))))) mrNext3))
 (k (rNext, (rNext2, ((0 : Int), (from_, (IntKind.i64.wrap (from_ + rOne2)))))) mrOne2))))))
theorem zq2u (hΓ : GO (zq2s zqxr zqxs)) : SpecOk Tryz.prog 27 (zq2r (zq2t zqxr zqxs)) :=
 pcS mixed (zq2s zqxr zqxs) tab_ok hΓ (pick1 []) [.cell 2 103] Tryz.func27 (by kernel_rfl) (by kernel_rfl) (by kernel_rfl) (by kernel_rfl) CutsOk_nil (fun _ _ => by kernel_rfl)
end
theorem zq2vΓ : GO (zq2s zq1v zq2o) := (ΓOk_cons zq1w (ΓOk_cons zq2p ΓOk_nil))
def zq2w : zq2q := zq2t zq1v zq2o
theorem zq2x : SpecOk Tryz.prog 27 (zq2r zq2w) := zq2u zq1v zq2o zq2vΓ
abbrev zq2y := {β : Type} → t18y → t1y → (t0y → t1y → Option β) → Option β
def zq2z (c : zq2y) : Spec :=
 ⟨[b23y, (true, [.data (.slice (.prod .str (.slice (.int .i64)))), .junk])], [b22y], [b35y], [b22y], fun x k => c x.1.2.1.1 x.2.1.1 (fun r0 r1 => k (((r0, ()), ()), ((r1, ()), ())))⟩
abbrev zq30 (β : Type) := t1y → t0y → Option β
abbrev zq31 (β : Type) := Int → t1y → t18y → t0y → Option β
abbrev zq32 := {β : Type} → zq30 β → zq31 β
noncomputable def zq33 : Pc := ⟨29, 1, codeAt 15 (bodyOf Tryz.f28), ⟨1, [0, 3, 4, 5], [b23y, b27y, b31y, b21y], [b22y, .cells 44 [.data (.slice (.prod .str (.slice (.int .i64)))), .junk], b53y]⟩, [(.ret, ⟨1, [4], [b27y], [b22y, b53y]⟩)]⟩
@[reducible] def zq34 (p : zq32) : zq33.G := fun d ks => p (fun a0 a1 => ks.1 (((), ()), ((a0, ()), (a1, ()), ()))) d.1.2.2.2.1.1 d.2.1.1 d.2.2.1.1 d.2.2.2.1.1
section
variable (zqxr : zq1p)
@[reducible] def zq35 : Ctx := cx [(10, .spec (zq1q zqxr))]
def zq36 {β : Type} (k1 : zq30 β) : zq31 β := fun k_ d b t4 =>
 let l : List Int := ([(4 : Int), (2 : Int), (List.length b : Int)] : List Int);
 cond (decide (0 ≤ k_) && decide (k_ < (List.length l : Int)))
 (let n : Int := (List.getD l (Int.toNat k_) (0 : Int));
 zqxr n d (fun (rNext : Int) (mrNext : t1y) =>
 k1 mrNext (k_, rNext)))
 none
def zq37 {β : Type} (k1 : zq30 β) : zq31 β := zq36 zqxr k1
theorem zq38 (hΓ : GO (zq35 zqxr)) : OK zq33 (zq34 (zq37 zqxr)) :=
 pcE mixed (zq35 zqxr) tab_ok hΓ 15 (pick1 []) (by kernel_rfl) CutsOk_nil (fun _ _ => by kernel_rfl)
def zq39 (p1 : zq32) : zq2y := fun b d k =>
 zqxr (3 : Int) d (fun (rNext : Int) (mrNext : t1y) =>
 cond (decide (rNext = (2 : Int)))
 (cond (decide ((List.length b : Int) = (0 : Int)))
 (p1 (fun (b0_ : t1y) (t4 : t0y) =>
 k t4 b0_) (0 : Int) mrNext b ((0 : Int), (0 : Int)))
 (p1 (fun (b0_ : t1y) (t4 : t0y) =>
 k t4 b0_) rNext mrNext b ((0 : Int), (0 : Int))))
 (p1 (fun (b0_ : t1y) (t4 : t0y) =>
 k t4 b0_) rNext mrNext b ((0 : Int), (0 : Int))))
theorem zq3a (hΓ : GO (zq35 zqxr)) (p1 : zq32) (hp1 : OK zq33 (zq34 p1)) : SpecOk Tryz.prog 28 (zq2z (zq39 zqxr p1)) :=
 pcS mixed (zq35 zqxr) tab_ok hΓ (pick1 [(15, zq33.cut (zq34 p1))]) [.cell 4 114] Tryz.func28 (by kernel_rfl) (by kernel_rfl) (by kernel_rfl) (by kernel_rfl) (CutsOk_cons (by kernel_rfl) rfl hp1 CutsOk_nil) (fun _ _ => by kernel_rfl)
end
theorem zq3bΓ : GO (zq35 zq1v) := (ΓOk_cons zq1w ΓOk_nil)
def zq3c : zq32 := zq37 zq1v
theorem zq3d : OK zq33 (zq34 zq3c) := zq38 zq1v zq3bΓ
def zq3e : zq2y := zq39 zq1v zq3c
theorem zq3f : SpecOk Tryz.prog 28 (zq2z zq3e) := zq3a zq1v zq3bΓ zq3c zq3d
abbrev zq3g := {β : Type} → Int → Int → Int → t1y → (t11y → t1y → Option β) → Option β
def zq3h (c : zq3g) : Spec :=
 ⟨[b23y, b21y, b21y, b21y], [b22y], [b63y], [b22y], fun x k => c x.1.2.1.1 x.1.2.2.1.1 x.1.2.2.2.1.1 x.2.1.1 (fun r0 r1 => k (((r0, ()), ()), ((r1, ()), ())))⟩
section
variable (zqxr : zq1p) (zqxs : zq2i)
@[reducible] def zq3i : Ctx := cx [(10, .spec (zq1q zqxr)), (19, .spec (zq2j zqxs))]
def zq3j : zq3g := fun id page at_ d k =>
 zqxr (5 : Int) d (fun (rNext : Int) (mrNext : t1y) =>
 zqxr (5 : Int) mrNext (fun (rNext2 : Int) (mrNext2 : t1y) =>
 let t : Bool := (decide ((IntKind.i64.wrap ((1 : Int) + rNext2)) = (3 : Int)));
 cond t
 (let l : List Int := ([(1 : Int), (60 : Int), (600 : Int), (5000 : Int)] : List Int);
 zqxs l mrNext2 (fun (rOne : Int) (mrOne : t1y) =>
 k (id, (page, ((IntKind.i64.wrap (rNext - (1 : Int))), ((IntKind.i64.wrap ((1 : Int) + rNext2)), (rOne, at_))))) mrOne))
 (let t2 : Bool := (decide ((IntKind.i64.wrap ((1 : Int) + rNext2)) = (4 : Int)));
 cond t2
 (zqxr (4 : Int) mrNext2 (fun (rNext3 : Int) (mrNext3 : t1y) =>
 k (id, (page, ((IntKind.i64.wrap (rNext - (1 : Int))), ((IntKind.i64.wrap ((1 : Int) + rNext2)), (rNext3, at_))))) mrNext3))
 (k (id, (page, ((IntKind.i64.wrap (rNext - (1 : Int))), ((IntKind.i64.wrap ((1 : Int) + rNext2)), ((0 : Int), at_))))) mrNext2))))
theorem zq3k (hΓ : GO (zq3i zqxr zqxs)) : SpecOk Tryz.prog 32 (zq3h (zq3j zqxr zqxs)) :=
 pcS mixed (zq3i zqxr zqxs) tab_ok hΓ (pick1 []) [.cell 8 121] Tryz.func32 (by kernel_rfl) (by kernel_rfl) (by kernel_rfl) (by kernel_rfl) CutsOk_nil (fun _ _ => by kernel_rfl)
end
theorem zq3lΓ : GO (zq3i zq1v zq2o) := (ΓOk_cons zq1w (ΓOk_cons zq2p ΓOk_nil))
def zq3m : zq3g := zq3j zq1v zq2o
theorem zq3n : SpecOk Tryz.prog 32 (zq3h zq3m) := zq3k zq1v zq2o zq3lΓ
abbrev zq3o := {β : Type} → (t0y → Option β) → Option β
def zq3p (c : zq3o) : Spec :=
 ⟨[], [], [b35y], [], fun x k => c  (fun r0 => k (((r0, ()), ()), ()))⟩
section
@[reducible] def zq3q : Ctx := cx []
def zq3r : zq3o := fun k =>
 k ((0 : Int), (-1 : Int))
theorem zq3s (hΓ : GO zq3q) : SpecOk Tryz.prog 34 (zq3p (zq3r)) :=
 pcS mixed zq3q tab_ok hΓ (pick1 []) [.cell 0 54] Tryz.func34 (by kernel_rfl) (by kernel_rfl) (by kernel_rfl) (by kernel_rfl) CutsOk_nil (fun _ _ => by kernel_rfl)
end
theorem zq3tΓ : GO (zq3q) := ΓOk_nil
def zq3u : zq3o := zq3r
theorem zq3v : SpecOk Tryz.prog 34 (zq3p zq3u) := zq3s zq3tΓ
abbrev zq3w := {β : Type} → Int → (t0y → Option β) → Option β
def zq3x (c : zq3w) : Spec :=
 ⟨[b21y], [], [b35y], [], fun x k => c x.1.1.1 (fun r0 => k (((r0, ()), ()), ()))⟩
section
@[reducible] def zq3y : Ctx := cx []
def zq3z : zq3w := fun n k =>
 k (n, n)
theorem zq40 (hΓ : GO zq3y) : SpecOk Tryz.prog 36 (zq3x (zq3z)) :=
 pcS mixed zq3y tab_ok hΓ (pick1 []) [.cell 2 54] Tryz.func36 (by kernel_rfl) (by kernel_rfl) (by kernel_rfl) (by kernel_rfl) CutsOk_nil (fun _ _ => by kernel_rfl)
end
theorem zq41Γ : GO (zq3y) := ΓOk_nil
def zq42 : zq3w := zq3z
theorem zq43 : SpecOk Tryz.prog 36 (zq3x zq42) := zq40 zq41Γ
abbrev zq44 := {β : Type} → Int → Int → Int → (Bool → Option β) → Option β
def zq45 (c : zq44) : Spec :=
 ⟨[b21y, b21y, b21y], [], [b25y], [], fun x k => c x.1.1.1 x.1.2.1.1 x.1.2.2.1.1 (fun r0 => k (((r0, ()), ()), ()))⟩
section
@[reducible] def zq46 : Ctx := cx []
def zq47 : zq44 := fun n lo hi k =>
 cond (decide (lo ≤ n))
 (k (decide (n ≤ hi)))
 (k false)
theorem zq48 (hΓ : GO zq46) : SpecOk Tryz.prog 37 (zq45 (zq47)) :=
 pcS mixed zq46 tab_ok hΓ (pick1 []) [.tmp 6] Tryz.func37 (by kernel_rfl) (by kernel_rfl) (by kernel_rfl) (by kernel_rfl) CutsOk_nil (fun _ _ => by kernel_rfl)
end
theorem zq49Γ : GO (zq46) := ΓOk_nil
def zq4a : zq44 := zq47
theorem zq4b : SpecOk Tryz.prog 37 (zq45 zq4a) := zq48 zq49Γ
abbrev zq4c := {β : Type} → Int → (Bool → Option β) → Option β
def zq4d (c : zq4c) : Spec :=
 ⟨[b21y], [], [b25y], [], fun x k => c x.1.1.1 (fun r0 => k (((r0, ()), ()), ()))⟩
section
variable (zqxt : zq44)
@[reducible] def zq4e : Ctx := cx [(37, .spec (zq45 zqxt))]
def zq4f : zq4c := fun n k =>
 zqxt n (0 : Int) (4 : Int) (fun (rIn : Bool) =>
 k rIn)
theorem zq4g (hΓ : GO (zq4e zqxt)) : SpecOk Tryz.prog 38 (zq4d (zq4f zqxt)) :=
 pcS mixed (zq4e zqxt) tab_ok hΓ (pick1 []) [.tmp 2] Tryz.func38 (by kernel_rfl) (by kernel_rfl) (by kernel_rfl) (by kernel_rfl) CutsOk_nil (fun _ _ => by kernel_rfl)
end
theorem zq4hΓ : GO (zq4e zq4a) := (ΓOk_cons zq4b ΓOk_nil)
def zq4i : zq4c := zq4f zq4a
theorem zq4j : SpecOk Tryz.prog 38 (zq4d zq4i) := zq4g zq4a zq4hΓ
abbrev zq4k := {β : Type} → t4y → (Bool → Option β) → Option β
def zq4l (c : zq4k) : Spec :=
 ⟨[b50y], [], [b25y], [], fun x k => c x.1.1.1 (fun r0 => k (((r0, ()), ()), ()))⟩
abbrev zq4m (β : Type) := Bool → Option β
abbrev zq4n (β : Type) := t4y → Option β
abbrev zq4o (β : Type) := t4y → Int → Option β
abbrev zq4p := {β : Type} → zq4m β → zq4n β → zq4o β
noncomputable def zq4q : Pc := ⟨23, 0, codeAt 26 (bodyOf Tryz.f39), ⟨0, [0, 3], [b50y, b21y], []⟩, [(.ret, ⟨0, [2], [b25y], []⟩), (.exit 0, ⟨0, [0], [b50y], []⟩)]⟩
@[reducible] def zq4r (p : zq4p) : zq4q.G := fun d ks => p (fun a0 => ks.1 (((a0, ()), ()), ())) (fun a0 => ks.2.1 (((a0, ()), ()), ())) d.1.1.1 d.1.2.1.1
section
variable (zqxt : zq44)
@[reducible] def zq4s : Ctx := cx [(37, .spec (zq45 zqxt))]
def zq4t {β : Type} (rec : zq4o β) (k1 : zq4m β) (k2 : zq4n β) : zq4o β := fun s i_ =>
 cond (decide (i_ < (List.length s : Int)))
 (cond (decide (0 ≤ i_) && decide (i_ < (List.length s : Int)))
 (cond (decide (((List.getD s (Int.toNat i_) 0).toNat : Int) < (32 : Int)))
 (k1 false)
 (cond (decide (0 ≤ i_) && decide (i_ < (List.length s : Int)))
 (cond (decide ((126 : Int) < ((List.getD s (Int.toNat i_) 0).toNat : Int)))
 (k1 false)
 (let i_2 : Int := (IntKind.i64.wrap (i_ + (1 : Int)));
 rec s i_2))
 none))
 none)
 (k2 s)
def zq4u {β : Type} (i : Nat) (k1 : zq4m β) (k2 : zq4n β) := lp2 (fun r => zq4t r k1 k2) none i
theorem zq4v (hΓ : GO (zq4s zqxt)) (i : Nat) : OK zq4q (zq4r (zq4u i)) :=
 pcL mixed (zq4s zqxt) tab_ok hΓ (G := fun i => @fun β d ks => zq4r (zq4u i) d ks) (pick1 []) (by kernel_rfl) rfl (by kernel_rfl) CutsOk_nil (fun _ _ => rfl) (fun _ _ _ _ => by kernel_rfl) i
def zq4w (p1 : zq4p) : zq4k := fun s k =>
 p1 (fun (t2 : Bool) =>
 k t2) (fun (s2 : List UInt8) =>
 zqxt (List.length s2 : Int) (1 : Int) (512 : Int) (fun (rIn : Bool) =>
 k rIn)) s (0 : Int)
theorem zq4x (hΓ : GO (zq4s zqxt)) (p1 : zq4p) (hp1 : OK zq4q (zq4r p1)) : SpecOk Tryz.prog 39 (zq4l (zq4w zqxt p1)) :=
 pcS mixed (zq4s zqxt) tab_ok hΓ (pick1 [(26, zq4q.cut (zq4r p1))]) [.tmp 2] Tryz.func39 (by kernel_rfl) (by kernel_rfl) (by kernel_rfl) (by kernel_rfl) (CutsOk_cons (by kernel_rfl) rfl hp1 CutsOk_nil) (fun _ _ => by kernel_rfl)
end
theorem zq4yΓ : GO (zq4s zq4a) := (ΓOk_cons zq4b ΓOk_nil)
def zq4z (m : Nat) : zq4p := zq4u m
theorem zq50 {β : Type} (i : Nat) (k1 k2) : zq4z (β := β) (i + 1) k1 k2 = zq4t (zq4z i k1 k2) k1 k2 := rfl
def zq51 : zq4p := zq4z fuel
theorem zq52 : OK zq4q (zq4r zq51) := zq4v zq4a zq4yΓ fuel
def zq53 : zq4k := zq4w zq4a zq51
theorem zq54 : SpecOk Tryz.prog 39 (zq4l zq53) := zq4x zq4a zq4yΓ zq51 zq52
abbrev zq55 := {β : Type} → Int → Bool → (Bool → Option β) → Option β
def zq56 (c : zq55) : Spec :=
 ⟨[b21y, b25y], [], [b25y], [], fun x k => c x.1.1.1 x.1.2.1.1 (fun r0 => k (((r0, ()), ()), ()))⟩
section
variable (zqxt : zq44)
@[reducible] def zq57 : Ctx := cx [(37, .spec (zq45 zqxt))]
def zq58 : zq55 := fun n nobody k =>
 zqxt n (0 : Int) (31 : Int) (fun (rIn : Bool) =>
 cond rIn
 (k true)
 (cond nobody
 (let t : Bool := (decide (n = (-1 : Int)));
 k t)
 (k false)))
theorem zq59 (hΓ : GO (zq57 zqxt)) : SpecOk Tryz.prog 40 (zq56 (zq58 zqxt)) :=
 pcS mixed (zq57 zqxt) tab_ok hΓ (pick1 []) [.tmp 4] Tryz.func40 (by kernel_rfl) (by kernel_rfl) (by kernel_rfl) (by kernel_rfl) CutsOk_nil (fun _ _ => by kernel_rfl)
end
theorem zq5aΓ : GO (zq57 zq4a) := (ΓOk_cons zq4b ΓOk_nil)
def zq5b : zq55 := zq58 zq4a
theorem zq5c : SpecOk Tryz.prog 40 (zq56 zq5b) := zq59 zq4a zq5aΓ
abbrev zq5d := {β : Type} → t6y → Int → (Bool → Option β) → Option β
def zq5e (c : zq5d) : Spec :=
 ⟨[b34y, b21y], [], [b25y], [], fun x k => c x.1.1.1 x.1.2.1.1 (fun r0 => k (((r0, ()), ()), ()))⟩
abbrev zq5f (β : Type) := Bool → Option β
abbrev zq5g (β : Type) := Unit → Option β
abbrev zq5h (β : Type) := t6y → Int → Int → Option β
abbrev zq5i := {β : Type} → zq5f β → zq5g β → zq5h β
noncomputable def zq5j : Pc := ⟨41, 0, codeAt 26 (bodyOf Tryz.f41), ⟨0, [0, 1, 5], [b34y, b21y, b21y], []⟩, [(.ret, ⟨0, [4], [b25y], []⟩), (.exit 0, ⟨0, [], [], []⟩)]⟩
@[reducible] def zq5k (p : zq5i) : zq5j.G := fun d ks => p (fun a0 => ks.1 (((a0, ()), ()), ())) (fun _ => ks.2.1 ((), ())) d.1.1.1 d.1.2.1.1 d.1.2.2.1.1
section
@[reducible] def zq5l : Ctx := cx []
def zq5m {β : Type} (rec : zq5h β) (k1 : zq5f β) (k2 : zq5g β) : zq5h β := fun l n i_ =>
 cond (decide (i_ < (List.length l : Int)))
 (cond (decide (0 ≤ i_) && decide (i_ < (List.length l : Int)))
 (let e : Int := List.getD l (Int.toNat i_) (0 : Int);
 cond (decide (e < (0 : Int)))
 (k1 false)
 (cond (decide (0 ≤ i_) && decide (i_ < (List.length l : Int)))
 (let e2 : Int := List.getD l (Int.toNat i_) (0 : Int);
 cond (decide (n ≤ e2))
 (k1 false)
 (cond (decide ((0 : Int) < i_))
 (cond (decide (0 ≤ (IntKind.i64.wrap (i_ - (1 : Int)))) && decide ((IntKind.i64.wrap (i_ - (1 : Int))) < (List.length l : Int)))
 (let e3 : Int := List.getD l (Int.toNat (IntKind.i64.wrap (i_ - (1 : Int)))) (0 : Int);
 cond (decide (0 ≤ i_) && decide (i_ < (List.length l : Int)))
 (let e4 : Int := List.getD l (Int.toNat i_) (0 : Int);
 cond (decide (e4 ≤ e3))
 (k1 false)
 (let i_2 : Int := (IntKind.i64.wrap (i_ + (1 : Int)));
 rec l n i_2))
 none)
 none)
 (let i_2 : Int := (IntKind.i64.wrap (i_ + (1 : Int)));
 rec l n i_2)))
 none))
 none)
 (k2 ())
def zq5n {β : Type} (i : Nat) (k1 : zq5f β) (k2 : zq5g β) := lp3 (fun r => zq5m r k1 k2) none i
theorem zq5o (hΓ : GO zq5l) (i : Nat) : OK zq5j (zq5k (zq5n i)) :=
 pcL mixed zq5l tab_ok hΓ (G := fun i => @fun β d ks => zq5k (zq5n i) d ks) (pick1 []) (by kernel_rfl) rfl (by kernel_rfl) CutsOk_nil (fun _ _ => rfl) (fun _ _ _ _ => by kernel_rfl) i
def zq5p (p1 : zq5i) : zq5d := fun l n k =>
 p1 (fun (t4 : Bool) =>
 k t4) (fun (_ : Unit) =>
 k true) l n (0 : Int)
theorem zq5q (hΓ : GO zq5l) (p1 : zq5i) (hp1 : OK zq5j (zq5k p1)) : SpecOk Tryz.prog 41 (zq5e (zq5p p1)) :=
 pcS mixed zq5l tab_ok hΓ (pick1 [(26, zq5j.cut (zq5k p1))]) [.tmp 4] Tryz.func41 (by kernel_rfl) (by kernel_rfl) (by kernel_rfl) (by kernel_rfl) (CutsOk_cons (by kernel_rfl) rfl hp1 CutsOk_nil) (fun _ _ => by kernel_rfl)
end
theorem zq5rΓ : GO (zq5l) := ΓOk_nil
def zq5s (m : Nat) : zq5i := zq5n m
theorem zq5t {β : Type} (i : Nat) (k1 k2) : zq5s (β := β) (i + 1) k1 k2 = zq5m (zq5s i k1 k2) k1 k2 := rfl
def zq5u : zq5i := zq5s fuel
theorem zq5v : OK zq5j (zq5k zq5u) := zq5o zq5rΓ fuel
def zq5w : zq5d := zq5p zq5u
theorem zq5x : SpecOk Tryz.prog 41 (zq5e zq5w) := zq5q zq5rΓ zq5u zq5v
abbrev zq5y := {β : Type} → zqq → (Bool → Option β) → Option β
def zq5z (c : zq5y) : Spec :=
 ⟨[b33y], [], [b25y], [], fun x k => c x.1.1.1 (fun r0 => k (((r0, ()), ()), ()))⟩
abbrev zq60 (β : Type) := Bool → Option β
abbrev zq61 (β : Type) := zqq → Option β
abbrev zq62 (β : Type) := Int → zqq → Option β
abbrev zq63 := {β : Type} → zq60 β → zq61 β → zq62 β
noncomputable def zq64 : Pc := ⟨138, 0, codeAt 26 (bodyOf Tryz.f42), ⟨0, [1, 3], [b23y, b21y], [b24y]⟩, [(.ret, ⟨0, [2], [b25y], []⟩), (.exit 0, ⟨0, [1], [b23y], [b24y]⟩)]⟩
@[reducible] def zq65 (p : zq63) : zq64.G := fun d ks => p (fun a0 => ks.1 (((a0, ()), ()), ())) (fun a0 => ks.2.1 (((), ()), ((a0, ()), ()))) d.1.2.1.1 d.2.1.1
abbrev zq66 (β : Type) := Bool → Option β
abbrev zq67 (β : Type) := zqq → Option β
abbrev zq68 (β : Type) := Int → Int → zqq → Option β
abbrev zq69 := {β : Type} → zq66 β → zq67 β → zq68 β
noncomputable def zq6a : Pc := ⟨138, 0, codeAt 122 (bodyOf Tryz.f42), ⟨0, [1, 5, 6], [b23y, b21y, b21y], [b24y]⟩, [(.ret, ⟨0, [2], [b25y], []⟩), (.exit 2, ⟨0, [1], [b23y], [b24y]⟩)]⟩
@[reducible] def zq6b (p : zq69) : zq6a.G := fun d ks => p (fun a0 => ks.1 (((a0, ()), ()), ())) (fun a0 => ks.2.1 (((), ()), ((a0, ()), ()))) d.1.2.1.1 d.1.2.2.1.1 d.2.1.1
abbrev zq6c (β : Type) := Bool → Option β
abbrev zq6d (β : Type) := Int → zqq → Option β
abbrev zq6e (β : Type) := Int → Int → Int → zqq → Option β
abbrev zq6f := {β : Type} → zq6c β → zq6d β → zq6e β
noncomputable def zq6g : Pc := ⟨138, 0, codeAt 1018 (bodyOf Tryz.f42), ⟨0, [1, 5, 8, 9], [b23y, b21y, b21y, b21y], [b24y]⟩, [(.ret, ⟨0, [2], [b25y], []⟩), (.exit 4, ⟨0, [1, 8], [b23y, b21y], [b24y]⟩)]⟩
@[reducible] def zq6h (p : zq6f) : zq6g.G := fun d ks => p (fun a0 => ks.1 (((a0, ()), ()), ())) (fun a0 a1 => ks.2.1 (((), (a0, ()), ()), ((a1, ()), ()))) d.1.2.1.1 d.1.2.2.1.1 d.1.2.2.2.1.1 d.2.1.1
section
variable (zqxt : zq44) (zqxu : zq5d) (zqxv : zq4k) (zqxw : zq55) (zqxx : zq4c)
@[reducible] def zq6i : Ctx := cx [(37, .spec (zq45 zqxt)), (41, .spec (zq5e zqxu)), (39, .spec (zq4l zqxv)), (40, .spec (zq56 zqxw)), (38, .spec (zq4d zqxx))]
def zq6j {β : Type} (rec : zq62 β) (k1 : zq60 β) (k2 : zq61 β) : zq62 β := fun i_ x =>
 cond (decide (i_ < (List.length x.2.2.2.2.2.2.2.1 : Int)))
 (cond (decide (0 ≤ i_) && decide (i_ < (List.length x.2.2.2.2.2.2.2.1 : Int)))
 (let e : zqk := List.getD x.2.2.2.2.2.2.2.1 (Int.toNat i_) (([] : List UInt8), ((0 : Int), ((0 : Int), (0 : Int))));
 zqxv e.1 (fun (rText : Bool) =>
 cond (!rText)
 (k1 false)
 (zqxw e.2.1 true (fun (rperson : Bool) =>
 cond (!rperson)
 (k1 false)
 (zqxt e.2.2.1 x.2.2.2.1 (8589934592 : Int) (fun (rIn : Bool) =>
 cond (!rIn)
 (k1 false)
 (cond (!decide (e.2.2.2 = (-1 : Int)))
 (zqxt e.2.2.2 e.2.2.1 (8589934592 : Int) (fun (rIn2 : Bool) =>
 cond (!rIn2)
 (k1 false)
 (let i_2 : Int := (IntKind.i64.wrap (i_ + (1 : Int)));
 rec i_2 x)))
 (let i_2 : Int := (IntKind.i64.wrap (i_ + (1 : Int)));
 rec i_2 x))))))))
 none)
 (k2 x)
def zq6k {β : Type} (i : Nat) (k1 : zq60 β) (k2 : zq61 β) := lp2 (fun r => zq6j zqxt zqxv zqxw r k1 k2) none i
theorem zq6l (hΓ : GO (zq6i zqxt zqxu zqxv zqxw zqxx)) (i : Nat) : OK zq64 (zq65 (zq6k zqxt zqxv zqxw i)) :=
 pcL mixed (zq6i zqxt zqxu zqxv zqxw zqxx) tab_ok hΓ (G := fun i => @fun β d ks => zq65 (zq6k zqxt zqxv zqxw i) d ks) (pick1 []) (by kernel_rfl) rfl (by kernel_rfl) CutsOk_nil (fun _ _ => rfl) (fun _ _ _ _ => by kernel_rfl) i
def zq6m {β : Type} (rec : zq68 β) (k1 : zq66 β) (k2 : zq67 β) : zq68 β := fun at_ i_ x =>
 cond (decide (i_ < (List.length x.2.2.2.2.2.2.2.2.1 : Int)))
 (cond (decide (0 ≤ i_) && decide (i_ < (List.length x.2.2.2.2.2.2.2.2.1 : Int)))
 (let e : zqm := List.getD x.2.2.2.2.2.2.2.2.1 (Int.toNat i_) ((0 : Int), ((0 : Int), (([] : List UInt8), ([] : List Int))));
 zqxv e.2.2.1 (fun (rText : Bool) =>
 cond (!rText)
 (k1 false)
 (zqxx e.2.1 (fun (rstate : Bool) =>
 cond (!rstate)
 (k1 false)
 (zqxu e.2.2.2 (32 : Int) (fun (rSet : Bool) =>
 cond (!rSet)
 (k1 false)
 (zqxt e.1 at_ (8589934592 : Int) (fun (rIn : Bool) =>
 cond (!rIn)
 (k1 false)
 (let i_2 : Int := (IntKind.i64.wrap (i_ + (1 : Int)));
 rec e.1 i_2 x)))))))))
 none)
 (k2 x)
def zq6n {β : Type} (i : Nat) (k1 : zq66 β) (k2 : zq67 β) := lp3 (fun r => zq6m zqxt zqxu zqxv zqxx r k1 k2) none i
theorem zq6o (hΓ : GO (zq6i zqxt zqxu zqxv zqxw zqxx)) (i : Nat) : OK zq6a (zq6b (zq6n zqxt zqxu zqxv zqxx i)) :=
 pcL mixed (zq6i zqxt zqxu zqxv zqxw zqxx) tab_ok hΓ (G := fun i => @fun β d ks => zq6b (zq6n zqxt zqxu zqxv zqxx i) d ks) (pick1 []) (by kernel_rfl) rfl (by kernel_rfl) CutsOk_nil (fun _ _ => rfl) (fun _ _ _ _ => by kernel_rfl) i
def zq6p {β : Type} (rec : zq6e β) (k1 : zq6c β) (k2 : zq6d β) : zq6e β := fun at_ now i_ x =>
 cond (decide (i_ < (List.length x.2.2.2.2.2.2.2.2.2.2.1 : Int)))
 (cond (decide (0 ≤ i_) && decide (i_ < (List.length x.2.2.2.2.2.2.2.2.2.2.1 : Int)))
 (let e : t7y := List.getD x.2.2.2.2.2.2.2.2.2.2.1 (Int.toNat i_) ((0 : Int), ((0 : Int), (0 : Int)));
 zqxx e.2.1 (fun (rstate : Bool) =>
 cond (!rstate)
 (k1 false)
 (cond (decide (e.2.1 = now))
 (k1 false)
 (zqxw e.2.2 true (fun (rperson : Bool) =>
 cond (!rperson)
 (k1 false)
 (zqxt e.1 at_ (8589934592 : Int) (fun (rIn : Bool) =>
 cond (!rIn)
 (k1 false)
 (let i_2 : Int := (IntKind.i64.wrap (i_ + (1 : Int)));
 rec e.1 e.2.1 i_2 x))))))))
 none)
 (k2 now x)
def zq6q {β : Type} (i : Nat) (k1 : zq6c β) (k2 : zq6d β) := lp4 (fun r => zq6p zqxt zqxw zqxx r k1 k2) none i
theorem zq6r (hΓ : GO (zq6i zqxt zqxu zqxv zqxw zqxx)) (i : Nat) : OK zq6g (zq6h (zq6q zqxt zqxw zqxx i)) :=
 pcL mixed (zq6i zqxt zqxu zqxv zqxw zqxx) tab_ok hΓ (G := fun i => @fun β d ks => zq6h (zq6q zqxt zqxw zqxx i) d ks) (pick1 []) (by kernel_rfl) rfl (by kernel_rfl) CutsOk_nil (fun _ _ => rfl) (fun _ _ _ _ => by kernel_rfl) i
def zq6s (p1 : zq63) (p2 : zq69) (p3 : zq6f) : zq5y := fun x k =>
 p1 (fun (t2 : Bool) =>
 k t2) (fun (x2 : zqq) =>
 p2 (fun (t2 : Bool) =>
 k t2) (fun (x3 : zqq) =>
 p3 (fun (t2 : Bool) =>
 k t2) (fun (now : Int) (x4 : zqq) =>
 k (decide (now = x4.2.1))) x3.2.2.2.1 (0 : Int) (0 : Int) x3) x2.2.2.2.1 (0 : Int) x2) (0 : Int) x
theorem zq6t (hΓ : GO (zq6i zqxt zqxu zqxv zqxw zqxx)) (p1 : zq63) (p2 : zq69) (p3 : zq6f) (hp1 : OK zq64 (zq65 p1)) (hp2 : OK zq6a (zq6b p2)) (hp3 : OK zq6g (zq6h p3)) : SpecOk Tryz.prog 42 (zq5z (zq6s p1 p2 p3)) :=
 pcS mixed (zq6i zqxt zqxu zqxv zqxw zqxx) tab_ok hΓ (pick1 [(26, zq64.cut (zq65 p1)), (122, zq6a.cut (zq6b p2)), (1018, zq6g.cut (zq6h p3))]) [.tmp 2] Tryz.func42 (by kernel_rfl) (by kernel_rfl) (by kernel_rfl) (by kernel_rfl) (CutsOk_cons (by kernel_rfl) rfl hp1 (CutsOk_cons (by kernel_rfl) rfl hp2 (CutsOk_cons (by kernel_rfl) rfl hp3 CutsOk_nil))) (fun _ _ => by kernel_rfl)
end
theorem zq6uΓ : GO (zq6i zq4a zq5w zq53 zq5b zq4i) := (ΓOk_cons zq4b (ΓOk_cons zq5x (ΓOk_cons zq54 (ΓOk_cons zq5c (ΓOk_cons zq4j ΓOk_nil)))))
def zq6v (m : Nat) : zq63 := zq6k zq4a zq53 zq5b m
theorem zq6w {β : Type} (i : Nat) (k1 k2) : zq6v (β := β) (i + 1) k1 k2 = zq6j zq4a zq53 zq5b (zq6v i k1 k2) k1 k2 := rfl
def zq6x : zq63 := zq6v fuel
theorem zq6y : OK zq64 (zq65 zq6x) := zq6l zq4a zq5w zq53 zq5b zq4i zq6uΓ fuel
def zq6z (m : Nat) : zq69 := zq6n zq4a zq5w zq53 zq4i m
theorem zq70 {β : Type} (i : Nat) (k1 k2) : zq6z (β := β) (i + 1) k1 k2 = zq6m zq4a zq5w zq53 zq4i (zq6z i k1 k2) k1 k2 := rfl
def zq71 : zq69 := zq6z fuel
theorem zq72 : OK zq6a (zq6b zq71) := zq6o zq4a zq5w zq53 zq5b zq4i zq6uΓ fuel
def zq73 (m : Nat) : zq6f := zq6q zq4a zq5b zq4i m
theorem zq74 {β : Type} (i : Nat) (k1 k2) : zq73 (β := β) (i + 1) k1 k2 = zq6p zq4a zq5b zq4i (zq73 i k1 k2) k1 k2 := rfl
def zq75 : zq6f := zq73 fuel
theorem zq76 : OK zq6g (zq6h zq75) := zq6r zq4a zq5w zq53 zq5b zq4i zq6uΓ fuel
def zq77 : zq5y := zq6s zq6x zq71 zq75
theorem zq78 : SpecOk Tryz.prog 42 (zq5z zq77) := zq6t zq4a zq5w zq53 zq5b zq4i zq6uΓ zq6x zq71 zq75 zq6y zq72 zq76
abbrev zq79 := {β : Type} → t8y → (t0y → Option β) → Option β
def zq7a (c : zq79) : Spec :=
 ⟨[b26y], [], [b35y], [], fun x k => c x.1.1.1 (fun r0 => k (((r0, ()), ()), ()))⟩
abbrev zq7b (β : Type) := t0y → t0y → Option β
abbrev zq7c (β : Type) := t8y → Int → Int → t0y → t0y → Option β
abbrev zq7d := {β : Type} → zq7b β → zq7c β
noncomputable def zq7e : Pc := ⟨26, 0, codeAt 58 (bodyOf Tryz.f44), ⟨0, [2, 3, 6, 7, 8], [b23y, b27y, b26y, b21y, b21y], [b60y, b60y]⟩, [(.exit 0, ⟨0, [2, 3], [b23y, b27y], [b60y, b60y]⟩)]⟩
@[reducible] def zq7f (p : zq7d) : zq7e.G := fun d ks => p (fun a0 a1 => ks.1 (((), (), ()), ((a0, ()), (a1, ()), ()))) d.1.2.2.1.1 d.1.2.2.2.1.1 d.1.2.2.2.2.1.1 d.2.1.1 d.2.2.1.1
section
@[reducible] def zq7g : Ctx := cx []
def zq7h {β : Type} (rec : zq7c β) (k1 : zq7b β) : zq7c β := fun t6 t7 t8 t2 out =>
 cond (decide (t8 < t7))
 (cond (decide (0 ≤ t8) && decide (t8 < (List.length t6 : Int)))
 (let e : t0y := List.getD t6 (Int.toNat t8) ((0 : Int), (0 : Int));
 rec t6 t7 (IntKind.i64.wrap (t8 + (1 : Int))) t2 ((IntKind.i64.wrap (out.1 + e.1)), (IntKind.i64.wrap (out.2 + e.2))))
 none)
 (k1 t2 out)
def zq7i {β : Type} (i : Nat) (k1 : zq7b β) := lp5 (fun r => zq7h r k1) none i
theorem zq7j (hΓ : GO zq7g) (i : Nat) : OK zq7e (zq7f (zq7i i)) :=
 pcL mixed zq7g tab_ok hΓ (G := fun i => @fun β d ks => zq7f (zq7i i) d ks) (pick1 []) (by kernel_rfl) rfl (by kernel_rfl) CutsOk_nil (fun _ _ => rfl) (fun _ _ _ _ => by kernel_rfl) i
def zq7k (p1 : zq7d) : zq79 := fun l k =>
 p1 (fun (t2 : t0y) (out : t0y) =>
 k out) l (List.length l : Int) (0 : Int) ((0 : Int), (0 : Int)) ((0 : Int), (0 : Int))
theorem zq7l (hΓ : GO zq7g) (p1 : zq7d) (hp1 : OK zq7e (zq7f p1)) : SpecOk Tryz.prog 44 (zq7a (zq7k p1)) :=
 pcS mixed zq7g tab_ok hΓ (pick1 [(58, zq7e.cut (zq7f p1))]) [.cell 2 54] Tryz.func44 (by kernel_rfl) (by kernel_rfl) (by kernel_rfl) (by kernel_rfl) (CutsOk_cons (by kernel_rfl) rfl hp1 CutsOk_nil) (fun _ _ => by kernel_rfl)
end
theorem zq7mΓ : GO (zq7g) := ΓOk_nil
def zq7n (m : Nat) : zq7d := zq7i m
theorem zq7o {β : Type} (i : Nat) (k1) : zq7n (β := β) (i + 1) k1 = zq7h (zq7n i k1) k1 := rfl
def zq7p : zq7d := zq7n fuel
theorem zq7q : OK zq7e (zq7f zq7p) := zq7j zq7mΓ fuel
def zq7r : zq79 := zq7k zq7p
theorem zq7s : SpecOk Tryz.prog 44 (zq7a zq7r) := zq7l zq7mΓ zq7p zq7q
abbrev zq7t := {β : Type} → Int → Int → Int → (Bool → Option β) → Option β
def zq7u (c : zq7t) : Spec :=
 ⟨[b21y, b21y, b21y], [], [b25y], [], fun x k => c x.1.1.1 x.1.2.1.1 x.1.2.2.1.1 (fun r0 => k (((r0, ()), ()), ()))⟩
section
@[reducible] def zq7v : Ctx := cx []
def zq7w : zq7t := fun n low high k =>
 cond (decide (low ≤ n))
 (k (decide (n ≤ high)))
 (k false)
theorem zq7x (hΓ : GO zq7v) : SpecOk Tryz.prog 46 (zq7u (zq7w)) :=
 pcS mixed zq7v tab_ok hΓ (pick1 []) [.tmp 6] Tryz.func46 (by kernel_rfl) (by kernel_rfl) (by kernel_rfl) (by kernel_rfl) CutsOk_nil (fun _ _ => by kernel_rfl)
end
theorem zq7yΓ : GO (zq7v) := ΓOk_nil
def zq7z : zq7t := zq7w
theorem zq80 : SpecOk Tryz.prog 46 (zq7u zq7z) := zq7x zq7yΓ
abbrev zq81 := {β : Type} → zqq → (Int → Int → Int → Int → t4y → Int → Int → Int → Int → t6y → t19y → t16y → t6y → t17y → Option β) → Option β
def zq82 (c : zq81) : Spec :=
 ⟨[b33y], [], [(true, [.data (.int .i64), .data (.int .i64), .data (.int .i64), .data (.int .i64), .data .str, .data (.int .i64), .data (.int .i64), .data (.int .i64), .rowh 0, .rowh 1, .rowh 2, .rowh 3, .rowh 4, .data (.int .i64)])], [.row 3 (.int .i64), .row 145 zql, .row 148 zqn, .row 3 (.int .i64), .row 62 (.prod (.int .i64) (.prod (.int .i64) (.int .i64)))], fun x k => c x.1.1.1 (fun r0 r1 r2 r3 r4 r5 r6 r7 r8 r9 r10 r11 r12 r13 => k (((r0, r1, r2, r3, r4, r5, r6, r7, r8, ()), ()), (r9, r10, r11, r12, r13, ())))⟩
abbrev zq83 (β : Type) := Int → Int → Int → Int → t4y → Int → Int → Int → t16y → Int → zqq → t16y → t6y → t19y → t6y → t17y → Option β
abbrev zq84 (β : Type) := Int → Int → Int → Int → Int → t4y → Int → Int → Int → t16y → Int → zqq → t16y → t6y → t19y → t6y → t17y → Option β
abbrev zq85 := {β : Type} → zq83 β → zq84 β
noncomputable def zq86 : Pc := ⟨45, 0, codeAt 250 (bodyOf Tryz.f49), ⟨0, [1, 2, 3, 4], [b23y, b27y, b45y, b21y], [b51y, b24y, .row 148 zqn, .row 3 (.int .i64), .row 145 zql, .row 3 (.int .i64), .row 62 (.prod (.int .i64) (.prod (.int .i64) (.int .i64)))]⟩, [(.exit 0, ⟨0, [1, 2, 3], [b23y, b27y, b45y], [b51y, b24y, .row 148 zqn, .row 3 (.int .i64), .row 145 zql, .row 3 (.int .i64), .row 62 (.prod (.int .i64) (.prod (.int .i64) (.int .i64)))]⟩)]⟩
@[reducible] def zq87 (p : zq85) : zq86.G := fun d ks => p (fun a0 a1 a2 a3 a4 a5 a6 a7 a8 a9 a10 a11 a12 a13 a14 a15 => ks.1 (((), (), (), ()), ((a0, a1, a2, a3, a4, a5, a6, a7, a8, a9, ()), (a10, ()), a11, a12, a13, a14, a15, ()))) d.1.2.2.2.1.1 d.2.1.1 d.2.1.2.1 d.2.1.2.2.1 d.2.1.2.2.2.1 d.2.1.2.2.2.2.1 d.2.1.2.2.2.2.2.1 d.2.1.2.2.2.2.2.2.1 d.2.1.2.2.2.2.2.2.2.1 d.2.1.2.2.2.2.2.2.2.2.1 d.2.1.2.2.2.2.2.2.2.2.2.1 d.2.2.1.1 d.2.2.2.1 d.2.2.2.2.1 d.2.2.2.2.2.1 d.2.2.2.2.2.2.1 d.2.2.2.2.2.2.2.1
section
@[reducible] def zq88 : Ctx := cx []
def zq89 {β : Type} (rec : zq84 β) (k1 : zq83 β) : zq84 β := fun i_ x x2 x3 x4 x5 x6 x7 x8 x9 x10 t2 l b3_ b4_ b5_ b6_ =>
 cond (decide (i_ < (List.length x9 : Int)))
 (cond (decide (0 ≤ i_) && decide (i_ < (List.length x9 : Int)))
 (let e : zqm := List.getD x9 (Int.toNat i_) ((0 : Int), ((0 : Int), (([] : List UInt8), ([] : List Int))));
 cond (decide (List.length e.2.2.2 * 8 ≤ roomMax))
 (let l2 : List zqm := ([e] : List zqm);
 cond (decide ((List.length l + List.length l2) * 56 ≤ roomMax))
 (let l3 : List zqm := (l ++ l2);
 let i_2 : Int := (IntKind.i64.wrap (i_ + (1 : Int)));
 rec i_2 x x2 x3 x4 x5 x6 x7 x8 x9 x10 t2 l3 b3_ b4_ b5_ b6_)
 none)
 none)
 none)
 (k1 x x2 x3 x4 x5 x6 x7 x8 x9 x10 t2 l b3_ b4_ b5_ b6_)
def zq8a {β : Type} (i : Nat) (k1 : zq83 β) := lp17 (fun r => zq89 r k1) none i
theorem zq8b (hΓ : GO zq88) (i : Nat) : OK zq86 (zq87 (zq8a i)) :=
 pcL mixed zq88 tab_ok hΓ (G := fun i => @fun β d ks => zq87 (zq8a i) d ks) (pick1 []) (by kernel_rfl) rfl (by kernel_rfl) CutsOk_nil (fun _ _ => rfl) (fun _ _ _ _ => by kernel_rfl) i
def zq8c (p1 : zq85) : zq81 := fun x k =>
 cond (decide (List.length x.2.2.2.2.2.2.1 * 8 ≤ roomMax))
 (cond (decide (List.length x.2.2.2.2.2.2.2.1 * 40 ≤ roomMax))
 (cond (decide (List.length x.2.2.2.2.2.2.2.2.2.1 * 8 ≤ roomMax))
 (cond (decide (List.length x.2.2.2.2.2.2.2.2.2.2.1 * 24 ≤ roomMax))
 (p1 (fun (x2 : Int) (x3 : Int) (x4 : Int) (x5 : Int) (x6 : List UInt8) (x7 : Int) (x8 : Int) (x9 : Int) (x10 : List zqm) (x11 : Int) (t2 : zqq) (l : List zqm) (b3_ : List Int) (b4_ : List zqk) (b5_ : List Int) (b6_ : List t7y) =>
 k x2 x3 x4 x5 x6 x7 x8 x9 x11 b3_ b4_ l b5_ b6_) (0 : Int) x.1 x.2.1 x.2.2.1 x.2.2.2.1 x.2.2.2.2.1 x.2.2.2.2.2.1.1 x.2.2.2.2.2.1.2.1 x.2.2.2.2.2.1.2.2 x.2.2.2.2.2.2.2.2.1 x.2.2.2.2.2.2.2.2.2.2.2 zq18 ([] : List zqm) x.2.2.2.2.2.2.1 x.2.2.2.2.2.2.2.1 x.2.2.2.2.2.2.2.2.2.1 x.2.2.2.2.2.2.2.2.2.2.1)
 none)
 none)
 none)
 none
theorem zq8d (hΓ : GO zq88) (p1 : zq85) (hp1 : OK zq86 (zq87 p1)) : SpecOk Tryz.prog 49 (zq82 (zq8c p1)) :=
 pcS mixed zq88 tab_ok hΓ (pick1 [(250, zq86.cut (zq87 p1))]) [.cell 2 32] Tryz.func49 (by kernel_rfl) (by kernel_rfl) (by kernel_rfl) (by kernel_rfl) (CutsOk_cons (by kernel_rfl) rfl hp1 CutsOk_nil) (fun _ _ => by kernel_rfl)
end
theorem zq8eΓ : GO (zq88) := ΓOk_nil
def zq8f (m : Nat) : zq85 := zq8a m
theorem zq8g {β : Type} (i : Nat) (k1) : zq8f (β := β) (i + 1) k1 = zq89 (zq8f i k1) k1 := rfl
def zq8h : zq85 := zq8f fuel
theorem zq8i : OK zq86 (zq87 zq8h) := zq8b zq8eΓ fuel
def zq8j : zq81 := zq8c zq8h
theorem zq8k : SpecOk Tryz.prog 49 (zq82 zq8j) := zq8d zq8eΓ zq8h zq8i
abbrev zq8l := {β : Type} → zqq → (Int → Option β) → Option β
def zq8m (c : zq8l) : Spec :=
 ⟨[b33y], [], [b21y], [], fun x k => c x.1.1.1 (fun r0 => k (((r0, ()), ()), ()))⟩
abbrev zq8n (β : Type) := Int → Option β
abbrev zq8o (β : Type) := Int → zqq → Option β
abbrev zq8p := {β : Type} → zq8n β → zq8o β
noncomputable def zq8q : Pc := ⟨37, 0, codeAt 15 (bodyOf Tryz.f50), ⟨0, [1, 3], [b23y, b21y], [b24y]⟩, [(.ret, ⟨0, [2], [b21y], []⟩)]⟩
@[reducible] def zq8r (p : zq8p) : zq8q.G := fun d ks => p (fun a0 => ks.1 (((a0, ()), ()), ())) d.1.2.1.1 d.2.1.1
section
@[reducible] def zq8s : Ctx := cx []
def zq8t {β : Type} (k1 : zq8n β) : zq8o β := fun at_ x =>
 cond (decide ((0 : Int) < (List.length x.2.2.2.2.2.2.2.2.2.2.1 : Int)))
 (cond (decide (0 ≤ (IntKind.i64.wrap ((List.length x.2.2.2.2.2.2.2.2.2.2.1 : Int) - (1 : Int)))) && decide ((IntKind.i64.wrap ((List.length x.2.2.2.2.2.2.2.2.2.2.1 : Int) - (1 : Int))) < (List.length x.2.2.2.2.2.2.2.2.2.2.1 : Int)))
 (let e : t7y := List.getD x.2.2.2.2.2.2.2.2.2.2.1 (Int.toNat (IntKind.i64.wrap ((List.length x.2.2.2.2.2.2.2.2.2.2.1 : Int) - (1 : Int)))) ((0 : Int), ((0 : Int), (0 : Int)));
 let at_2 : Int := (if e.1 > at_ then e.1 else at_);
 k1 at_2)
 none)
 (k1 at_)
def zq8u {β : Type} (k1 : zq8n β) : zq8o β := zq8t k1
theorem zq8v (hΓ : GO zq8s) : OK zq8q (zq8r (zq8u)) :=
 pcE mixed zq8s tab_ok hΓ 15 (pick1 []) (by kernel_rfl) CutsOk_nil (fun _ _ => by kernel_rfl)
def zq8w (p1 : zq8p) : zq8l := fun x k =>
 cond (decide ((0 : Int) < (List.length x.2.2.2.2.2.2.2.2.1 : Int)))
 (cond (decide (0 ≤ (IntKind.i64.wrap ((List.length x.2.2.2.2.2.2.2.2.1 : Int) - (1 : Int)))) && decide ((IntKind.i64.wrap ((List.length x.2.2.2.2.2.2.2.2.1 : Int) - (1 : Int))) < (List.length x.2.2.2.2.2.2.2.2.1 : Int)))
 (let e : zqm := List.getD x.2.2.2.2.2.2.2.2.1 (Int.toNat (IntKind.i64.wrap ((List.length x.2.2.2.2.2.2.2.2.1 : Int) - (1 : Int)))) ((0 : Int), ((0 : Int), (([] : List UInt8), ([] : List Int))));
 let at_ : Int := (if e.1 > x.2.2.2.1 then e.1 else x.2.2.2.1);
 p1 (fun (t2 : Int) =>
 k t2) at_ x)
 none)
 (p1 (fun (t2 : Int) =>
 k t2) x.2.2.2.1 x)
theorem zq8x (hΓ : GO zq8s) (p1 : zq8p) (hp1 : OK zq8q (zq8r p1)) : SpecOk Tryz.prog 50 (zq8m (zq8w p1)) :=
 pcS mixed zq8s tab_ok hΓ (pick1 [(15, zq8q.cut (zq8r p1))]) [.tmp 2] Tryz.func50 (by kernel_rfl) (by kernel_rfl) (by kernel_rfl) (by kernel_rfl) (CutsOk_cons (by kernel_rfl) rfl hp1 CutsOk_nil) (fun _ _ => by kernel_rfl)
end
theorem zq8yΓ : GO (zq8s) := ΓOk_nil
def zq8z : zq8p := zq8u
theorem zq90 : OK zq8q (zq8r zq8z) := zq8v zq8yΓ
def zq91 : zq8l := zq8w zq8z
theorem zq92 : SpecOk Tryz.prog 50 (zq8m zq91) := zq8x zq8yΓ zq8z zq90
abbrev zq93 := {β : Type} → Int → Int → (Bool → Option β) → Option β
def zq94 (c : zq93) : Spec :=
 ⟨[b21y, b21y], [], [b25y], [], fun x k => c x.1.1.1 x.1.2.1.1 (fun r0 => k (((r0, ()), ()), ()))⟩
section
@[reducible] def zq95 : Ctx := cx []
def zq96 : zq93 := fun from_ to_ k =>
 let t : Bool := (decide (from_ = (0 : Int)));
 cond t
 (cond (decide (to_ = (1 : Int)))
 (k true)
 (cond (decide (to_ = (2 : Int)))
 (k true)
 (let t2 : Bool := (decide (to_ = (4 : Int)));
 k t2)))
 (let t2 : Bool := (decide (from_ = (1 : Int)));
 cond t2
 (cond (decide (to_ = (0 : Int)))
 (k true)
 (cond (decide (to_ = (2 : Int)))
 (k true)
 (let t3 : Bool := (decide (to_ = (4 : Int)));
 k t3)))
 (let t3 : Bool := (decide (from_ = (2 : Int)));
 cond t3
 (cond (decide (to_ = (0 : Int)))
 (k true)
 (let t4 : Bool := (decide (to_ = (3 : Int)));
 k t4))
 (k false)))
theorem zq97 (hΓ : GO zq95) : SpecOk Tryz.prog 51 (zq94 (zq96)) :=
 pcS mixed zq95 tab_ok hΓ (pick1 []) [.tmp 4] Tryz.func51 (by kernel_rfl) (by kernel_rfl) (by kernel_rfl) (by kernel_rfl) CutsOk_nil (fun _ _ => by kernel_rfl)
end
theorem zq98Γ : GO (zq95) := ΓOk_nil
def zq99 : zq93 := zq96
theorem zq9a : SpecOk Tryz.prog 51 (zq94 zq99) := zq97 zq98Γ
abbrev zq9b := {β : Type} → zqq → Int → Int → Int → (zqq → Option β) → Option β
def zq9c (c : zq9b) : Spec :=
 ⟨[b33y, b21y, b21y, b21y], [], [b33y], [], fun x k => c x.1.1.1 x.1.2.1.1 x.1.2.2.1.1 x.1.2.2.2.1.1 (fun r0 => k (((r0, ()), ()), ()))⟩
section
variable (zqxy : zq81)
@[reducible] def zq9d : Ctx := cx [(49, .spec (zq82 zqxy))]
def zq9e : zq9b := fun x at_ to_ who k =>
 zqxy x (fun (rCopy : Int) (rCopy2 : Int) (rCopy3 : Int) (rCopy4 : Int) (rCopy5 : List UInt8) (rCopy6 : Int) (rCopy7 : Int) (rCopy8 : Int) (rCopy9 : Int) (lrCopy : List Int) (lrCopy2 : List zqk) (lrCopy3 : List zqm) (lrCopy4 : List Int) (lrCopy5 : List t7y) =>
 let l : List t7y := ([(at_, (to_, who))] : List t7y);
 cond (decide ((List.length lrCopy5 + List.length l) * 24 ≤ roomMax))
 (let l2 : List t7y := (lrCopy5 ++ l);
 k (rCopy, (to_, (rCopy3, (rCopy4, (rCopy5, ((rCopy6, (rCopy7, rCopy8)), (lrCopy, (lrCopy2, (lrCopy3, (lrCopy4, (l2, rCopy9))))))))))))
 none)
theorem zq9f (hΓ : GO (zq9d zqxy)) : SpecOk Tryz.prog 52 (zq9c (zq9e zqxy)) :=
 pcS mixed (zq9d zqxy) tab_ok hΓ (pick1 []) [.cell 8 32] Tryz.func52 (by kernel_rfl) (by kernel_rfl) (by kernel_rfl) (by kernel_rfl) CutsOk_nil (fun _ _ => by kernel_rfl)
end
theorem zq9gΓ : GO (zq9d zq8j) := (ΓOk_cons zq8k ΓOk_nil)
def zq9h : zq9b := zq9e zq8j
theorem zq9i : SpecOk Tryz.prog 52 (zq9c zq9h) := zq9f zq8j zq9gΓ
abbrev zq9j := {β : Type} → t6y → Int → (t6y → Option β) → Option β
def zq9k (c : zq9j) : Spec :=
 ⟨[b34y, b21y], [], [b46y], [.row 3 (.int .i64)], fun x k => c x.1.1.1 x.1.2.1.1 (fun r0 => k (((), ()), (r0, ())))⟩
abbrev zq9l (β : Type) := Int → Bool → t6y → Option β
abbrev zq9m (β : Type) := t6y → Int → Bool → Int → t6y → Option β
abbrev zq9n := {β : Type} → zq9l β → zq9m β
noncomputable def zq9o : Pc := ⟨48, 0, codeAt 122 (bodyOf Tryz.f53), ⟨0, [0, 1, 5, 6, 7], [b34y, b21y, b46y, b25y, b21y], [.row 3 (.int .i64)]⟩, [(.exit 0, ⟨0, [1, 5, 6], [b21y, b46y, b25y], [.row 3 (.int .i64)]⟩)]⟩
@[reducible] def zq9p (p : zq9n) : zq9o.G := fun d ks => p (fun a0 a1 a2 => ks.1 (((a0, ()), (), (a1, ()), ()), (a2, ()))) d.1.1.1 d.1.2.1.1 d.1.2.2.2.1.1 d.1.2.2.2.2.1.1 d.2.1
abbrev zq9q (β : Type) := t6y → Int → Bool → Int → t6y → Option β
abbrev zq9r (β : Type) := t6y → Int → Bool → Int → t6y → Option β
abbrev zq9s := {β : Type} → zq9q β → zq9r β
noncomputable def zq9t : Pc := ⟨48, 0, codeAt 25 (loopBody zq9o.c), ⟨0, [0, 1, 5, 6, 7], [b34y, b21y, b46y, b25y, b21y], [.row 3 (.int .i64)]⟩, [(.normal, ⟨0, [0, 1, 5, 6, 7], [b34y, b21y, b46y, b25y, b21y], [.row 3 (.int .i64)]⟩)]⟩
@[reducible] def zq9u (p : zq9s) : zq9t.G := fun d ks => p (fun a0 a1 a2 a3 a4 => ks.1 (((a0, ()), (a1, ()), (), (a2, ()), (a3, ()), ()), (a4, ()))) d.1.1.1 d.1.2.1.1 d.1.2.2.2.1.1 d.1.2.2.2.2.1.1 d.2.1
section
@[reducible] def zq9v : Ctx := cx []
def zq9w {β : Type} (k1 : zq9q β) : zq9r β := fun l x done i_ out =>
 cond (decide (0 ≤ i_) && decide (i_ < (List.length l : Int)))
 (let e : Int := List.getD l (Int.toNat i_) (0 : Int);
 cond (!decide (e = x))
 (cond (decide (0 ≤ i_) && decide (i_ < (List.length l : Int)))
 (let e2 : Int := List.getD l (Int.toNat i_) (0 : Int);
 let l2 : List Int := ([e2] : List Int);
 cond (decide ((List.length out + List.length l2) * 8 ≤ roomMax))
 (let l3 : List Int := (out ++ l2);
 k1 l x done i_ l3)
 none)
 none)
 (k1 l x done i_ out))
 none
def zq9x {β : Type} (k1 : zq9q β) : zq9r β := zq9w k1
theorem zq9y (hΓ : GO zq9v) : OK zq9t (zq9u (zq9x)) :=
 pcE mixed zq9v tab_ok hΓ 25 (pick1 []) (by kernel_rfl) CutsOk_nil (fun _ _ => by kernel_rfl)
def zq9z (p1 : zq9s) {β : Type} (rec : zq9m β) (k1 : zq9l β) : zq9m β := fun l x done i_ out =>
 cond (decide (i_ < (List.length l : Int)))
 (cond (!done)
 (cond (decide (0 ≤ i_) && decide (i_ < (List.length l : Int)))
 (let e : Int := List.getD l (Int.toNat i_) (0 : Int);
 cond (decide (x ≤ e))
 (let l2 : List Int := ([x] : List Int);
 cond (decide ((List.length out + List.length l2) * 8 ≤ roomMax))
 (let l3 : List Int := (out ++ l2);
 p1 (fun (l4 : List Int) (x2 : Int) (done2 : Bool) (i_2 : Int) (out2 : List Int) =>
 let i_3 : Int := (IntKind.i64.wrap (i_2 + (1 : Int)));
 rec l4 x2 done2 i_3 out2) l x true i_ l3)
 none)
 (p1 (fun (l2 : List Int) (x2 : Int) (done2 : Bool) (i_2 : Int) (out2 : List Int) =>
 let i_3 : Int := (IntKind.i64.wrap (i_2 + (1 : Int)));
 rec l2 x2 done2 i_3 out2) l x done i_ out))
 none)
 (p1 (fun (l2 : List Int) (x2 : Int) (done2 : Bool) (i_2 : Int) (out2 : List Int) =>
 let i_3 : Int := (IntKind.i64.wrap (i_2 + (1 : Int)));
 rec l2 x2 done2 i_3 out2) l x done i_ out))
 (k1 x done out)
def zqa0 (p1 : zq9s) {β : Type} (i : Nat) (k1 : zq9l β) := lp5 (fun r => zq9z p1 r k1) none i
theorem zqa1 (hΓ : GO zq9v) (p1 : zq9s) (hp1 : OK zq9t (zq9u p1)) (i : Nat) : OK zq9o (zq9p (zqa0 p1 i)) :=
 pcL mixed zq9v tab_ok hΓ (G := fun i => @fun β d ks => zq9p (zqa0 p1 i) d ks) (pick1 [(25, zq9t.cut (zq9u p1))]) (by kernel_rfl) rfl (by kernel_rfl) (CutsOk_cons (by kernel_rfl) rfl hp1 CutsOk_nil) (fun _ _ => rfl) (fun _ _ _ _ => by kernel_rfl) i
def zqa2 (p2 : zq9n) : zq9j := fun l x k =>
 p2 (fun (x2 : Int) (done : Bool) (out : List Int) =>
 cond (!done)
 (let l2 : List Int := ([x2] : List Int);
 cond (decide ((List.length out + List.length l2) * 8 ≤ roomMax))
 (let l3 : List Int := (out ++ l2);
 k l3)
 none)
 (k out)) l x false (0 : Int) ([] : List Int)
theorem zqa3 (hΓ : GO zq9v) (p2 : zq9n) (hp2 : OK zq9o (zq9p p2)) : SpecOk Tryz.prog 53 (zq9k (zqa2 p2)) :=
 pcS mixed zq9v tab_ok hΓ (pick1 [(122, zq9o.cut (zq9p p2))]) [.tmp 4] Tryz.func53 (by kernel_rfl) (by kernel_rfl) (by kernel_rfl) (by kernel_rfl) (CutsOk_cons (by kernel_rfl) rfl hp2 CutsOk_nil) (fun _ _ => by kernel_rfl)
end
theorem zqa4Γ : GO (zq9v) := ΓOk_nil
def zqa5 : zq9s := zq9x
theorem zqa6 : OK zq9t (zq9u zqa5) := zq9y zqa4Γ
def zqa7 (m : Nat) : zq9n := zqa0 zqa5 m
theorem zqa8 {β : Type} (i : Nat) (k1) : zqa7 (β := β) (i + 1) k1 = zq9z zqa5 (zqa7 i k1) k1 := rfl
def zqa9 : zq9n := zqa7 fuel
theorem zqaa : OK zq9o (zq9p zqa9) := zqa1 zqa4Γ zqa5 zqa6 fuel
def zqab : zq9j := zqa2 zqa9
theorem zqac : SpecOk Tryz.prog 53 (zq9k zqab) := zqa3 zqa4Γ zqa9 zqaa
abbrev zqad := {β : Type} → zqs → (Int → Int → Int → Int → Int → Int → Int → Int → Int → Int → Int → (List t2y) → t6y → t6y → Option β) → Option β
def zqae (c : zqad) : Spec :=
 ⟨[b43y], [], [(true, [.data (.int .i64), .data (.int .i64), .data (.int .i64), .data (.int .i64), .data (.int .i64), .data (.int .i64), .data (.int .i64), .data (.int .i64), .data (.int .i64), .data (.int .i64), .data (.int .i64), .rowh 0, .rowh 1, .rowh 2])], [.row 65 (.prod (.int .i64) (.prod (.int .i64) (.slice (.int .i64)))), .row 3 (.int .i64), .row 3 (.int .i64)], fun x k => c x.1.1.1 (fun r0 r1 r2 r3 r4 r5 r6 r7 r8 r9 r10 r11 r12 r13 => k (((r0, r1, r2, r3, r4, r5, r6, r7, r8, r9, r10, ()), ()), (r11, r12, r13, ())))⟩
abbrev zqaf (β : Type) := zqs → zqs → (List t2y) → Option β
abbrev zqag (β : Type) := Int → zqs → zqs → (List t2y) → Option β
abbrev zqah := {β : Type} → zqaf β → zqag β
noncomputable def zqai : Pc := ⟨37, 0, codeAt 58 (bodyOf Tryz.f55), ⟨0, [1, 2, 3, 4], [b23y, b27y, b45y, b21y], [b28y, b28y, .row 65 (.prod (.int .i64) (.prod (.int .i64) (.slice (.int .i64))))]⟩, [(.exit 0, ⟨0, [1, 2, 3], [b23y, b27y, b45y], [b28y, b28y, .row 65 (.prod (.int .i64) (.prod (.int .i64) (.slice (.int .i64))))]⟩)]⟩
@[reducible] def zqaj (p : zqah) : zqai.G := fun d ks => p (fun a0 a1 a2 => ks.1 (((), (), (), ()), ((a0, ()), (a1, ()), a2, ()))) d.1.2.2.2.1.1 d.2.1.1 d.2.2.1.1 d.2.2.2.1
section
@[reducible] def zqak : Ctx := cx []
def zqal {β : Type} (rec : zqag β) (k1 : zqaf β) : zqag β := fun i_ p_ t2 l =>
 cond (decide (i_ < (List.length p_.2.2.2.2.2.2.2.2.2.2.2.1 : Int)))
 (cond (decide (0 ≤ i_) && decide (i_ < (List.length p_.2.2.2.2.2.2.2.2.2.2.2.1 : Int)))
 (let e : t2y := List.getD p_.2.2.2.2.2.2.2.2.2.2.2.1 (Int.toNat i_) ((0 : Int), ((0 : Int), ([] : List Int)));
 cond (decide (List.length e.2.2 * 8 ≤ roomMax))
 (let l2 : List t2y := ([e] : List t2y);
 cond (decide ((List.length l + List.length l2) * 40 ≤ roomMax))
 (let l3 : List t2y := (l ++ l2);
 let i_2 : Int := (IntKind.i64.wrap (i_ + (1 : Int)));
 rec i_2 p_ t2 l3)
 none)
 none)
 none)
 (k1 p_ t2 l)
def zqam {β : Type} (i : Nat) (k1 : zqaf β) := lp4 (fun r => zqal r k1) none i
theorem zqan (hΓ : GO zqak) (i : Nat) : OK zqai (zqaj (zqam i)) :=
 pcL mixed zqak tab_ok hΓ (G := fun i => @fun β d ks => zqaj (zqam i) d ks) (pick1 []) (by kernel_rfl) rfl (by kernel_rfl) CutsOk_nil (fun _ _ => rfl) (fun _ _ _ _ => by kernel_rfl) i
def zqao (p1 : zqah) : zqad := fun p_ k =>
 p1 (fun (p_2 : zqs) (t2 : zqs) (l : List t2y) =>
 cond (decide (List.length p_2.2.2.2.2.2.2.2.2.2.2.2.2.1 * 8 ≤ roomMax))
 (cond (decide (List.length p_2.2.2.2.2.2.2.2.2.2.2.2.2.2 * 8 ≤ roomMax))
 (k p_2.1 p_2.2.1 p_2.2.2.1 p_2.2.2.2.1 p_2.2.2.2.2.1 p_2.2.2.2.2.2.1 p_2.2.2.2.2.2.2.1 p_2.2.2.2.2.2.2.2.1 p_2.2.2.2.2.2.2.2.2.1 p_2.2.2.2.2.2.2.2.2.2.1 p_2.2.2.2.2.2.2.2.2.2.2.1 l p_2.2.2.2.2.2.2.2.2.2.2.2.2.1 p_2.2.2.2.2.2.2.2.2.2.2.2.2.2)
 none)
 none) (0 : Int) p_ zq17 ([] : List t2y)
theorem zqap (hΓ : GO zqak) (p1 : zqah) (hp1 : OK zqai (zqaj p1)) : SpecOk Tryz.prog 55 (zqae (zqao p1)) :=
 pcS mixed zqak tab_ok hΓ (pick1 [(58, zqai.cut (zqaj p1))]) [.cell 2 50] Tryz.func55 (by kernel_rfl) (by kernel_rfl) (by kernel_rfl) (by kernel_rfl) (CutsOk_cons (by kernel_rfl) rfl hp1 CutsOk_nil) (fun _ _ => by kernel_rfl)
end
theorem zqaqΓ : GO (zqak) := ΓOk_nil
def zqar (m : Nat) : zqah := zqam m
theorem zqas {β : Type} (i : Nat) (k1) : zqar (β := β) (i + 1) k1 = zqal (zqar i k1) k1 := rfl
def zqat : zqah := zqar fuel
theorem zqau : OK zqai (zqaj zqat) := zqan zqaqΓ fuel
def zqav : zqad := zqao zqat
theorem zqaw : SpecOk Tryz.prog 55 (zqae zqav) := zqap zqaqΓ zqat zqau
abbrev zqax := {β : Type} → zqs → (Int → Bool → Option β) → Option β
def zqay (c : zqax) : Spec :=
 ⟨[b43y], [], [b21y, b25y], [], fun x k => c x.1.1.1 (fun r0 r1 => k (((r0, ()), (r1, ()), ()), ()))⟩
section
@[reducible] def zqaz : Ctx := cx []
def zqb0 : zqax := fun p_ k =>
 let t : Bool := (decide (p_.2.2.2.2.2.1 = (0 : Int)));
 cond t
 (k p_.2.2.2.2.1 true)
 (let t2 : Bool := (decide (p_.2.2.2.2.2.1 = (2 : Int)));
 cond t2
 (k p_.2.2.2.2.2.2.2.1 true)
 (k (0 : Int) false))
theorem zqb1 (hΓ : GO zqaz) : SpecOk Tryz.prog 56 (zqay (zqb0)) :=
 pcS mixed zqaz tab_ok hΓ (pick1 []) [.tmp 2, .tmp 3] Tryz.func56 (by kernel_rfl) (by kernel_rfl) (by kernel_rfl) (by kernel_rfl) CutsOk_nil (fun _ _ => by kernel_rfl)
end
theorem zqb2Γ : GO (zqaz) := ΓOk_nil
def zqb3 : zqax := zqb0
theorem zqb4 : SpecOk Tryz.prog 56 (zqay zqb3) := zqb1 zqb2Γ
abbrev zqb5 := {β : Type} → t11y → (Bool → Option β) → Option β
def zqb6 (c : zqb5) : Spec :=
 ⟨[b63y], [], [b25y], [], fun x k => c x.1.1.1 (fun r0 => k (((r0, ()), ()), ()))⟩
abbrev zqb7 (β : Type) := Bool → Option β
abbrev zqb8 (β : Type) := Unit → Option β
abbrev zqb9 (β : Type) := Int → Bool → t11y → Option β
abbrev zqba := {β : Type} → zqb7 β → zqb8 β → zqb9 β
noncomputable def zqbb : Pc := ⟨44, 0, codeAt 117 (bodyOf Tryz.f58), ⟨0, [1, 26, 27], [b23y, b21y, b25y], [b40y]⟩, [(.ret, ⟨0, [2], [b25y], []⟩), (.normal, ⟨0, [], [], []⟩)]⟩
@[reducible] def zqbc (p : zqba) : zqbb.G := fun d ks => p (fun a0 => ks.1 (((a0, ()), ()), ())) (fun _ => ks.2.1 ((), ())) d.1.2.1.1 d.1.2.2.1.1 d.2.1.1
section
variable (zqxt : zq44)
@[reducible] def zqbd : Ctx := cx [(37, .spec (zq45 zqxt))]
def zqbe {β : Type} (k1 : zqb7 β) (k2 : zqb8 β) : zqb9 β := fun t26 t27 a =>
 cond t27
 (let t : Bool := (decide (a.2.2.2.2.1 = (0 : Int)));
 k1 t)
 (let t : Bool := (decide (t26 = (3 : Int)));
 cond t
 (zqxt a.2.2.2.2.1 (1 : Int) (86400 : Int) (fun (rIn : Bool) =>
 k1 rIn))
 (let t2 : Bool := (decide (t26 = (4 : Int)));
 cond t2
 (zqxt a.2.2.2.2.1 (0 : Int) (31 : Int) (fun (rIn : Bool) =>
 k1 rIn))
 (k2 ())))
def zqbf {β : Type} (k1 : zqb7 β) (k2 : zqb8 β) : zqb9 β := zqbe zqxt k1 k2
theorem zqbg (hΓ : GO (zqbd zqxt)) : OK zqbb (zqbc (zqbf zqxt)) :=
 pcE mixed (zqbd zqxt) tab_ok hΓ 117 (pick1 []) (by kernel_rfl) CutsOk_nil (fun _ _ => by kernel_rfl)
def zqbh (p1 : zqba) : zqb5 := fun a k =>
 zqxt a.1 (1 : Int) (999999 : Int) (fun (rIn : Bool) =>
 cond (!rIn)
 (k false)
 (zqxt a.2.1 (1 : Int) (999999 : Int) (fun (rIn2 : Bool) =>
 cond (!rIn2)
 (k false)
 (zqxt a.2.2.1 (-1 : Int) (31 : Int) (fun (rIn3 : Bool) =>
 cond (!rIn3)
 (k false)
 (zqxt a.2.2.2.2.2 (0 : Int) (8589934592 : Int) (fun (rIn4 : Bool) =>
 cond (!rIn4)
 (k false)
 (let t : Bool := (decide (a.2.2.2.1 = (1 : Int)));
 cond t
 (p1 (fun (t2 : Bool) =>
 k t2) (fun (_ : Unit) =>
 k false) a.2.2.2.1 t a)
 (let t2 : Bool := (decide (a.2.2.2.1 = (2 : Int)));
 cond t2
 (p1 (fun (t22 : Bool) =>
 k t22) (fun (_ : Unit) =>
 k false) a.2.2.2.1 t2 a)
 (let t3 : Bool := (decide (a.2.2.2.1 = (5 : Int)));
 p1 (fun (t22 : Bool) =>
 k t22) (fun (_ : Unit) =>
 k false) a.2.2.2.1 t3 a))))))))))
theorem zqbi (hΓ : GO (zqbd zqxt)) (p1 : zqba) (hp1 : OK zqbb (zqbc p1)) : SpecOk Tryz.prog 58 (zqb6 (zqbh zqxt p1)) :=
 pcS mixed (zqbd zqxt) tab_ok hΓ (pick1 [(117, zqbb.cut (zqbc p1))]) [.tmp 2] Tryz.func58 (by kernel_rfl) (by kernel_rfl) (by kernel_rfl) (by kernel_rfl) (CutsOk_cons (by kernel_rfl) rfl hp1 CutsOk_nil) (fun _ _ => by kernel_rfl)
end
theorem zqbjΓ : GO (zqbd zq4a) := (ΓOk_cons zq4b ΓOk_nil)
def zqbk : zqba := zqbf zq4a
theorem zqbl : OK zqbb (zqbc zqbk) := zqbg zq4a zqbjΓ
def zqbm : zqb5 := zqbh zq4a zqbk
theorem zqbn : SpecOk Tryz.prog 58 (zqb6 zqbm) := zqbi zq4a zqbjΓ zqbk zqbl
abbrev zqbo := {β : Type} → zqs → t11y → (Int → Option β) → Option β
def zqbp (c : zqbo) : Spec :=
 ⟨[b43y, b63y], [], [b21y], [], fun x k => c x.1.1.1 x.1.2.1.1 (fun r0 => k (((r0, ()), ()), ()))⟩
abbrev zqbq (β : Type) := Bool → Option β
abbrev zqbr (β : Type) := Bool → zqs → t11y → Option β
abbrev zqbs := {β : Type} → zqbq β → zqbr β
noncomputable def zqbt : Pc := ⟨74, 0, codeAt 7415 (bodyOf Tryz.f59), ⟨0, [2, 3, 47], [b23y, b27y, b25y], [b28y, b40y]⟩, [(.normal, ⟨0, [47], [b25y], []⟩)]⟩
@[reducible] def zqbu (p : zqbs) : zqbt.G := fun d ks => p (fun a0 => ks.1 (((a0, ()), ()), ())) d.1.2.2.1.1 d.2.1.1 d.2.2.1.1
abbrev zqbv (β : Type) := Int → Option β
abbrev zqbw (β : Type) := Unit → Option β
abbrev zqbx (β : Type) := Bool → zqs → t11y → Option β
abbrev zqby := {β : Type} → zqbv β → zqbw β → zqbx β
noncomputable def zqbz : Pc := ⟨74, 0, codeAt 231 (bodyOf Tryz.f59), ⟨0, [2, 3, 27], [b23y, b27y, b25y], [b28y, b40y]⟩, [(.ret, ⟨0, [4], [b21y], []⟩), (.normal, ⟨0, [], [], []⟩)]⟩
@[reducible] def zqc0 (p : zqby) : zqbz.G := fun d ks => p (fun a0 => ks.1 (((a0, ()), ()), ())) (fun _ => ks.2.1 ((), ())) d.1.2.2.1.1 d.2.1.1 d.2.2.1.1
abbrev zqc1 (β : Type) := Bool → zqs → t11y → Option β
abbrev zqc2 (β : Type) := Bool → zqs → t11y → Option β
abbrev zqc3 := {β : Type} → zqc1 β → zqc2 β
noncomputable def zqc4 : Pc := ⟨74, 0, codeAt 1847 (bodyOf Tryz.f59), ⟨0, [2, 3, 27], [b23y, b27y, b25y], [b28y, b40y]⟩, [(.normal, ⟨0, [2, 3, 27], [b23y, b27y, b25y], [b28y, b40y]⟩)]⟩
@[reducible] def zqc5 (p : zqc3) : zqc4.G := fun d ks => p (fun a0 a1 a2 => ks.1 (((), (), (a0, ()), ()), ((a1, ()), (a2, ()), ()))) d.1.2.2.1.1 d.2.1.1 d.2.2.1.1
abbrev zqc6 (β : Type) := Int → Option β
abbrev zqc7 (β : Type) := Unit → Option β
abbrev zqc8 (β : Type) := Bool → zqs → t11y → Option β
abbrev zqc9 := {β : Type} → zqc6 β → zqc7 β → zqc8 β
noncomputable def zqca : Pc := ⟨74, 0, codeAt 57 (bodyOf Tryz.f59), ⟨0, [2, 3, 12], [b23y, b27y, b25y], [b28y, b40y]⟩, [(.ret, ⟨0, [4], [b21y], []⟩), (.normal, ⟨0, [], [], []⟩)]⟩
@[reducible] def zqcb (p : zqc9) : zqca.G := fun d ks => p (fun a0 => ks.1 (((a0, ()), ()), ())) (fun _ => ks.2.1 ((), ())) d.1.2.2.1.1 d.2.1.1 d.2.2.1.1
section
variable (zqxz : zqax)
@[reducible] def zqcc : Ctx := cx [(56, .spec (zqay zqxz))]
def zqcd {β : Type} (k1 : zqbq β) : zqbr β := fun t47 p_ a =>
 cond t47
 (k1 t47)
 (cond (decide (a.2.2.2.1 = (4 : Int)))
 (cond (decide ((4 : Int) ≤ p_.2.2.2.2.2.2.2.2.2.2.1))
 (k1 true)
 (let t : Bool := (decide ((200 : Int) ≤ (List.length p_.2.2.2.2.2.2.2.2.2.2.2.1 : Int)));
 k1 t))
 (k1 false))
def zqce {β : Type} (k1 : zqbq β) : zqbr β := zqcd k1
theorem zqcf (hΓ : GO (zqcc zqxz)) : OK zqbt (zqbu (zqce)) :=
 pcE mixed (zqcc zqxz) tab_ok hΓ 7415 (pick1 []) (by kernel_rfl) CutsOk_nil (fun _ _ => by kernel_rfl)
def zqcg (p1 : zqbs) {β : Type} (k1 : zqbv β) (k2 : zqbw β) : zqbx β := fun t27 p_ a =>
 cond t27
 (k1 (9 : Int))
 (let t : Bool := (decide ((64 : Int) ≤ (List.length p_.2.2.2.2.2.2.2.2.2.2.2.2.2 : Int)));
 cond t
 (cond t
 (k1 (5 : Int))
 (k2 ()))
 (cond (decide (a.2.2.2.1 = (3 : Int)))
 (let t2 : Bool := (decide ((4 : Int) ≤ p_.2.2.2.2.2.2.2.2.2.1));
 p1 (fun (t47 : Bool) =>
 cond t47
 (k1 (5 : Int))
 (k2 ())) t2 p_ a)
 (p1 (fun (t47 : Bool) =>
 cond t47
 (k1 (5 : Int))
 (k2 ())) false p_ a)))
def zqch (p1 : zqbs) {β : Type} (k1 : zqbv β) (k2 : zqbw β) : zqbx β := zqcg p1 k1 k2
theorem zqci (hΓ : GO (zqcc zqxz)) (p1 : zqbs) (hp1 : OK zqbt (zqbu p1)) : OK zqbz (zqc0 (zqch p1)) :=
 pcE mixed (zqcc zqxz) tab_ok hΓ 231 (pick1 [(7415, zqbt.cut (zqbu p1))]) (by kernel_rfl) (CutsOk_cons (by kernel_rfl) rfl hp1 CutsOk_nil) (fun _ _ => by kernel_rfl)
def zqcj {β : Type} (k1 : zqc1 β) : zqc2 β := fun t27 p_ a =>
 cond t27
 (k1 t27 p_ a)
 (cond (decide (p_.2.2.2.2.2.1 = (1 : Int)))
 (let t : Bool := (decide (a.2.2.2.1 = (2 : Int)));
 k1 t p_ a)
 (k1 false p_ a))
def zqck {β : Type} (k1 : zqc1 β) : zqc2 β := zqcj k1
theorem zqcl (hΓ : GO (zqcc zqxz)) : OK zqc4 (zqc5 (zqck)) :=
 pcE mixed (zqcc zqxz) tab_ok hΓ 1847 (pick1 []) (by kernel_rfl) CutsOk_nil (fun _ _ => by kernel_rfl)
def zqcm (p2 : zqby) (p3 : zqc3) {β : Type} (k1 : zqc6 β) (k2 : zqc7 β) : zqc8 β := fun t12 p_ a =>
 cond t12
 (k1 (6 : Int))
 (let t : Bool := (decide (p_.2.2.2.2.2.1 = (4 : Int)));
 cond t
 (p2 (fun (t4 : Int) =>
 k1 t4) (fun (_ : Unit) =>
 k2 ()) t p_ a)
 (cond (decide (p_.2.2.2.2.2.1 = (3 : Int)))
 (let t2 : Bool := (!decide (a.2.2.2.1 = (5 : Int)));
 p3 (fun (t27 : Bool) (p_2 : zqs) (a2 : t11y) =>
 p2 (fun (t4 : Int) =>
 k1 t4) (fun (_ : Unit) =>
 k2 ()) t27 p_2 a2) t2 p_ a)
 (p3 (fun (t27 : Bool) (p_2 : zqs) (a2 : t11y) =>
 p2 (fun (t4 : Int) =>
 k1 t4) (fun (_ : Unit) =>
 k2 ()) t27 p_2 a2) false p_ a)))
def zqcn (p2 : zqby) (p3 : zqc3) {β : Type} (k1 : zqc6 β) (k2 : zqc7 β) : zqc8 β := zqcm p2 p3 k1 k2
theorem zqco (hΓ : GO (zqcc zqxz)) (p2 : zqby) (p3 : zqc3) (hp2 : OK zqbz (zqc0 p2)) (hp3 : OK zqc4 (zqc5 p3)) : OK zqca (zqcb (zqcn p2 p3)) :=
 pcE mixed (zqcc zqxz) tab_ok hΓ 57 (pick1 [(231, zqbz.cut (zqc0 p2)), (1847, zqc4.cut (zqc5 p3))]) (by kernel_rfl) (CutsOk_cons (by kernel_rfl) rfl hp2 (CutsOk_cons (by kernel_rfl) rfl hp3 CutsOk_nil)) (fun _ _ => by kernel_rfl)
def zqcp (p4 : zqc9) : zqbo := fun p_ a k =>
 zqxz p_ (fun (rDue : Int) (rDue2 : Bool) =>
 cond (decide (a.2.2.2.2.2 < p_.2.2.2.2.2.2.2.2.1))
 (p4 (fun (t4 : Int) =>
 k t4) (fun (_ : Unit) =>
 k (0 : Int)) true p_ a)
 (cond rDue2
 (let t : Bool := (decide (rDue ≤ a.2.2.2.2.2));
 p4 (fun (t4 : Int) =>
 k t4) (fun (_ : Unit) =>
 k (0 : Int)) t p_ a)
 (p4 (fun (t4 : Int) =>
 k t4) (fun (_ : Unit) =>
 k (0 : Int)) false p_ a)))
theorem zqcq (hΓ : GO (zqcc zqxz)) (p4 : zqc9) (hp4 : OK zqca (zqcb p4)) : SpecOk Tryz.prog 59 (zqbp (zqcp zqxz p4)) :=
 pcS mixed (zqcc zqxz) tab_ok hΓ (pick1 [(57, zqca.cut (zqcb p4))]) [.tmp 4] Tryz.func59 (by kernel_rfl) (by kernel_rfl) (by kernel_rfl) (by kernel_rfl) (CutsOk_cons (by kernel_rfl) rfl hp4 CutsOk_nil) (fun _ _ => by kernel_rfl)
end
theorem zqcrΓ : GO (zqcc zqb3) := (ΓOk_cons zqb4 ΓOk_nil)
def zqcs : zqbs := zqce
theorem zqct : OK zqbt (zqbu zqcs) := zqcf zqb3 zqcrΓ
def zqcu : zqby := zqch zqcs
theorem zqcv : OK zqbz (zqc0 zqcu) := zqci zqb3 zqcrΓ zqcs zqct
def zqcw : zqc3 := zqck
theorem zqcx : OK zqc4 (zqc5 zqcw) := zqcl zqb3 zqcrΓ
def zqcy : zqc9 := zqcn zqcu zqcw
theorem zqcz : OK zqca (zqcb zqcy) := zqco zqb3 zqcrΓ zqcu zqcw zqcv zqcx
def zqd0 : zqbo := zqcp zqb3 zqcy
theorem zqd1 : SpecOk Tryz.prog 59 (zqbp zqd0) := zqcq zqb3 zqcrΓ zqcy zqcz
abbrev zqd2 := {β : Type} → zqs → (t6y → Option β) → Option β
def zqd3 (c : zqd2) : Spec :=
 ⟨[b43y], [], [b46y], [.row 3 (.int .i64)], fun x k => c x.1.1.1 (fun r0 => k (((), ()), (r0, ())))⟩
section
@[reducible] def zqd4 : Ctx := cx []
def zqd5 : zqd2 := fun p_ k =>
 cond (decide ((List.length p_.2.2.2.2.2.2.2.2.2.2.2.1 : Int) = (0 : Int)))
 (k ([] : List Int))
 (cond (decide (0 ≤ (IntKind.i64.wrap ((List.length p_.2.2.2.2.2.2.2.2.2.2.2.1 : Int) - (1 : Int)))) && decide ((IntKind.i64.wrap ((List.length p_.2.2.2.2.2.2.2.2.2.2.2.1 : Int) - (1 : Int))) < (List.length p_.2.2.2.2.2.2.2.2.2.2.2.1 : Int)))
 (let e : t2y := List.getD p_.2.2.2.2.2.2.2.2.2.2.2.1 (Int.toNat (IntKind.i64.wrap ((List.length p_.2.2.2.2.2.2.2.2.2.2.2.1 : Int) - (1 : Int)))) ((0 : Int), ((0 : Int), ([] : List Int)));
 cond (decide (List.length e.2.2 * 8 ≤ roomMax))
 (k e.2.2)
 none)
 none)
theorem zqd6 (hΓ : GO zqd4) : SpecOk Tryz.prog 60 (zqd3 (zqd5)) :=
 pcS mixed zqd4 tab_ok hΓ (pick1 []) [.tmp 2] Tryz.func60 (by kernel_rfl) (by kernel_rfl) (by kernel_rfl) (by kernel_rfl) CutsOk_nil (fun _ _ => by kernel_rfl)
end
theorem zqd7Γ : GO (zqd4) := ΓOk_nil
def zqd8 : zqd2 := zqd5
theorem zqd9 : SpecOk Tryz.prog 60 (zqd3 zqd8) := zqd6 zqd7Γ
abbrev zqda := {β : Type} → Int → Int → Int → (Bool → Option β) → Option β
def zqdb (c : zqda) : Spec :=
 ⟨[b21y, b21y, b21y], [], [b25y], [], fun x k => c x.1.1.1 x.1.2.1.1 x.1.2.2.1.1 (fun r0 => k (((r0, ()), ()), ()))⟩
section
@[reducible] def zqdc : Ctx := cx []
def zqdd : zqda := fun n low high k =>
 cond (decide (low ≤ n))
 (k (decide (n ≤ high)))
 (k false)
theorem zqde (hΓ : GO zqdc) : SpecOk Tryz.prog 62 (zqdb (zqdd)) :=
 pcS mixed zqdc tab_ok hΓ (pick1 []) [.tmp 6] Tryz.func62 (by kernel_rfl) (by kernel_rfl) (by kernel_rfl) (by kernel_rfl) CutsOk_nil (fun _ _ => by kernel_rfl)
end
theorem zqdfΓ : GO (zqdc) := ΓOk_nil
def zqdg : zqda := zqdd
theorem zqdh : SpecOk Tryz.prog 62 (zqdb zqdg) := zqde zqdfΓ
abbrev zqdi := {β : Type} → t4y → (Bool → Option β) → Option β
def zqdj (c : zqdi) : Spec :=
 ⟨[b50y], [], [b25y], [], fun x k => c x.1.1.1 (fun r0 => k (((r0, ()), ()), ()))⟩
abbrev zqdk (β : Type) := Bool → Option β
abbrev zqdl (β : Type) := t4y → Option β
abbrev zqdm (β : Type) := t4y → Int → Int → Option β
abbrev zqdn := {β : Type} → zqdk β → zqdl β → zqdm β
noncomputable def zqdo : Pc := ⟨19, 0, codeAt 26 (bodyOf Tryz.f63), ⟨0, [0, 5, 6], [b50y, b21y, b21y], []⟩, [(.ret, ⟨0, [2], [b25y], []⟩), (.exit 0, ⟨0, [0], [b50y], []⟩)]⟩
@[reducible] def zqdp (p : zqdn) : zqdo.G := fun d ks => p (fun a0 => ks.1 (((a0, ()), ()), ())) (fun a0 => ks.2.1 (((a0, ()), ()), ())) d.1.1.1 d.1.2.1.1 d.1.2.2.1.1
section
variable (zqy0 : zqda)
@[reducible] def zqdq : Ctx := cx [(62, .spec (zqdb zqy0))]
def zqdr {β : Type} (rec : zqdm β) (k1 : zqdk β) (k2 : zqdl β) : zqdm β := fun s t5 t6 =>
 cond (decide (t6 < t5))
 (cond (decide (0 ≤ t6) && decide (t6 < (List.length s : Int)))
 (zqy0 (IntKind.i64.wrap ((List.getD s (Int.toNat t6) 0).toNat : Int)) (32 : Int) (126 : Int) (fun (rin : Bool) =>
 cond (!rin)
 (k1 false)
 (rec s t5 (IntKind.i64.wrap (t6 + (1 : Int))))))
 none)
 (k2 s)
def zqds {β : Type} (i : Nat) (k1 : zqdk β) (k2 : zqdl β) := lp3 (fun r => zqdr zqy0 r k1 k2) none i
theorem zqdt (hΓ : GO (zqdq zqy0)) (i : Nat) : OK zqdo (zqdp (zqds zqy0 i)) :=
 pcL mixed (zqdq zqy0) tab_ok hΓ (G := fun i => @fun β d ks => zqdp (zqds zqy0 i) d ks) (pick1 []) (by kernel_rfl) rfl (by kernel_rfl) CutsOk_nil (fun _ _ => rfl) (fun _ _ _ _ => by kernel_rfl) i
def zqdu (p1 : zqdn) : zqdi := fun s k =>
 p1 (fun (t2 : Bool) =>
 k t2) (fun (s2 : List UInt8) =>
 zqy0 (List.length s2 : Int) (1 : Int) (512 : Int) (fun (rin : Bool) =>
 k rin)) s (List.length s : Int) (0 : Int)
theorem zqdv (hΓ : GO (zqdq zqy0)) (p1 : zqdn) (hp1 : OK zqdo (zqdp p1)) : SpecOk Tryz.prog 63 (zqdj (zqdu zqy0 p1)) :=
 pcS mixed (zqdq zqy0) tab_ok hΓ (pick1 [(26, zqdo.cut (zqdp p1))]) [.tmp 2] Tryz.func63 (by kernel_rfl) (by kernel_rfl) (by kernel_rfl) (by kernel_rfl) (CutsOk_cons (by kernel_rfl) rfl hp1 CutsOk_nil) (fun _ _ => by kernel_rfl)
end
theorem zqdwΓ : GO (zqdq zqdg) := (ΓOk_cons zqdh ΓOk_nil)
def zqdx (m : Nat) : zqdn := zqds zqdg m
theorem zqdy {β : Type} (i : Nat) (k1 k2) : zqdx (β := β) (i + 1) k1 k2 = zqdr zqdg (zqdx i k1 k2) k1 k2 := rfl
def zqdz : zqdn := zqdx fuel
theorem zqe0 : OK zqdo (zqdp zqdz) := zqdt zqdg zqdwΓ fuel
def zqe1 : zqdi := zqdu zqdg zqdz
theorem zqe2 : SpecOk Tryz.prog 63 (zqdj zqe1) := zqdv zqdg zqdwΓ zqdz zqe0
abbrev zqe3 := {β : Type} → t6y → Int → Int → (Bool → Option β) → Option β
def zqe4 (c : zqe3) : Spec :=
 ⟨[b34y, b21y, b21y], [], [b25y], [], fun x k => c x.1.1.1 x.1.2.1.1 x.1.2.2.1.1 (fun r0 => k (((r0, ()), ()), ()))⟩
abbrev zqe5 (β : Type) := Bool → Option β
abbrev zqe6 (β : Type) := Unit → Option β
abbrev zqe7 (β : Type) := t6y → Int → Int → t6y → Int → Int → Option β
abbrev zqe8 := {β : Type} → zqe5 β → zqe6 β → zqe7 β
noncomputable def zqe9 : Pc := ⟨35, 0, codeAt 26 (bodyOf Tryz.f65), ⟨0, [0, 1, 2, 9, 10, 11], [b34y, b21y, b21y, b34y, b21y, b21y], []⟩, [(.ret, ⟨0, [6], [b25y], []⟩), (.exit 0, ⟨0, [], [], []⟩)]⟩
@[reducible] def zqea (p : zqe8) : zqe9.G := fun d ks => p (fun a0 => ks.1 (((a0, ()), ()), ())) (fun _ => ks.2.1 ((), ())) d.1.1.1 d.1.2.1.1 d.1.2.2.1.1 d.1.2.2.2.1.1 d.1.2.2.2.2.1.1 d.1.2.2.2.2.2.1.1
section
variable (zqy0 : zqda)
@[reducible] def zqeb : Ctx := cx [(62, .spec (zqdb zqy0))]
def zqec {β : Type} (rec : zqe7 β) (k1 : zqe5 β) (k2 : zqe6 β) : zqe7 β := fun l low high t9 t10 t11 =>
 cond (decide (t11 < t10))
 (cond (decide (0 ≤ t11) && decide (t11 < (List.length t9 : Int)))
 (let e : Int := List.getD t9 (Int.toNat t11) (0 : Int);
 zqy0 e low high (fun (rin : Bool) =>
 cond (!rin)
 (k1 false)
 (cond (decide ((0 : Int) < t11))
 (cond (decide (0 ≤ (IntKind.i64.wrap (t11 - (1 : Int)))) && decide ((IntKind.i64.wrap (t11 - (1 : Int))) < (List.length l : Int)))
 (let e2 : Int := List.getD l (Int.toNat (IntKind.i64.wrap (t11 - (1 : Int)))) (0 : Int);
 cond (decide (e ≤ e2))
 (k1 false)
 (rec l low high t9 t10 (IntKind.i64.wrap (t11 + (1 : Int)))))
 none)
 (rec l low high t9 t10 (IntKind.i64.wrap (t11 + (1 : Int)))))))
 none)
 (k2 ())
def zqed {β : Type} (i : Nat) (k1 : zqe5 β) (k2 : zqe6 β) := lp6 (fun r => zqec zqy0 r k1 k2) none i
theorem zqee (hΓ : GO (zqeb zqy0)) (i : Nat) : OK zqe9 (zqea (zqed zqy0 i)) :=
 pcL mixed (zqeb zqy0) tab_ok hΓ (G := fun i => @fun β d ks => zqea (zqed zqy0 i) d ks) (pick1 []) (by kernel_rfl) rfl (by kernel_rfl) CutsOk_nil (fun _ _ => rfl) (fun _ _ _ _ => by kernel_rfl) i
def zqef (p1 : zqe8) : zqe3 := fun l low high k =>
 p1 (fun (t6 : Bool) =>
 k t6) (fun (_ : Unit) =>
 k true) l low high l (List.length l : Int) (0 : Int)
theorem zqeg (hΓ : GO (zqeb zqy0)) (p1 : zqe8) (hp1 : OK zqe9 (zqea p1)) : SpecOk Tryz.prog 65 (zqe4 (zqef p1)) :=
 pcS mixed (zqeb zqy0) tab_ok hΓ (pick1 [(26, zqe9.cut (zqea p1))]) [.tmp 6] Tryz.func65 (by kernel_rfl) (by kernel_rfl) (by kernel_rfl) (by kernel_rfl) (CutsOk_cons (by kernel_rfl) rfl hp1 CutsOk_nil) (fun _ _ => by kernel_rfl)
end
theorem zqehΓ : GO (zqeb zqdg) := (ΓOk_cons zqdh ΓOk_nil)
def zqei (m : Nat) : zqe8 := zqed zqdg m
theorem zqej {β : Type} (i : Nat) (k1 k2) : zqei (β := β) (i + 1) k1 k2 = zqec zqdg (zqei i k1 k2) k1 k2 := rfl
def zqek : zqe8 := zqei fuel
theorem zqel : OK zqe9 (zqea zqek) := zqee zqdg zqehΓ fuel
def zqem : zqe3 := zqef zqek
theorem zqen : SpecOk Tryz.prog 65 (zqe4 zqem) := zqeg zqdg zqehΓ zqek zqel
abbrev zqeo := {β : Type} → t6y → (Bool → Option β) → Option β
def zqep (c : zqeo) : Spec :=
 ⟨[b34y], [], [b25y], [], fun x k => c x.1.1.1 (fun r0 => k (((r0, ()), ()), ()))⟩
section
variable (zqy1 : zqe3)
@[reducible] def zqeq : Ctx := cx [(65, .spec (zqe4 zqy1))]
def zqer : zqeo := fun l k =>
 zqy1 l (0 : Int) (31 : Int) (fun (rset : Bool) =>
 k rset)
theorem zqes (hΓ : GO (zqeq zqy1)) : SpecOk Tryz.prog 66 (zqep (zqer zqy1)) :=
 pcS mixed (zqeq zqy1) tab_ok hΓ (pick1 []) [.tmp 2] Tryz.func66 (by kernel_rfl) (by kernel_rfl) (by kernel_rfl) (by kernel_rfl) CutsOk_nil (fun _ _ => by kernel_rfl)
end
theorem zqetΓ : GO (zqeq zqem) := (ΓOk_cons zqen ΓOk_nil)
def zqeu : zqeo := zqer zqem
theorem zqev : SpecOk Tryz.prog 66 (zqep zqeu) := zqes zqem zqetΓ
abbrev zqew := {β : Type} → zqq → (Bool → Option β) → Option β
def zqex (c : zqew) : Spec :=
 ⟨[b33y], [], [b25y], [], fun x k => c x.1.1.1 (fun r0 => k (((r0, ()), ()), ()))⟩
abbrev zqey (β : Type) := Bool → Option β
abbrev zqez (β : Type) := zqq → Option β
abbrev zqf0 (β : Type) := Int → t16y → Int → Int → zqq → Option β
abbrev zqf1 := {β : Type} → zqey β → zqez β → zqf0 β
noncomputable def zqf2 : Pc := ⟨45, 0, codeAt 58 (bodyOf Tryz.f68), ⟨0, [1, 3, 9, 10, 11], [b23y, b21y, (false, [.data (.slice zqn)]), b21y, b21y], [b24y]⟩, [(.ret, ⟨0, [2], [b25y], []⟩), (.exit 0, ⟨0, [1], [b23y], [b24y]⟩)]⟩
@[reducible] def zqf3 (p : zqf1) : zqf2.G := fun d ks => p (fun a0 => ks.1 (((a0, ()), ()), ())) (fun a0 => ks.2.1 (((), ()), ((a0, ()), ()))) d.1.2.1.1 d.1.2.2.1.1 d.1.2.2.2.1.1 d.1.2.2.2.2.1.1 d.2.1.1
section
variable (zqy2 : zqdi) (zqy0 : zqda) (zqy3 : zqeo)
@[reducible] def zqf4 : Ctx := cx [(63, .spec (zqdj zqy2)), (62, .spec (zqdb zqy0)), (66, .spec (zqep zqy3))]
def zqf5 {β : Type} (rec : zqf0 β) (k1 : zqey β) (k2 : zqez β) : zqf0 β := fun at_ t9 t10 t11 x =>
 cond (decide (t11 < t10))
 (cond (decide (0 ≤ t11) && decide (t11 < (List.length t9 : Int)))
 (let e : zqm := List.getD t9 (Int.toNat t11) ((0 : Int), ((0 : Int), (([] : List UInt8), ([] : List Int))));
 zqy0 e.1 at_ (8589934592 : Int) (fun (rin : Bool) =>
 cond (!rin)
 (k1 false)
 (zqy0 e.2.1 (0 : Int) (4 : Int) (fun (rin2 : Bool) =>
 cond (!rin2)
 (k1 false)
 (zqy2 e.2.2.1 (fun (rText : Bool) =>
 cond (!rText)
 (k1 false)
 (zqy3 e.2.2.2 (fun (rpersons : Bool) =>
 cond (!rpersons)
 (k1 false)
 (rec e.1 t9 t10 (IntKind.i64.wrap (t11 + (1 : Int))) x)))))))))
 none)
 (k2 x)
def zqf6 {β : Type} (i : Nat) (k1 : zqey β) (k2 : zqez β) := lp5 (fun r => zqf5 zqy2 zqy0 zqy3 r k1 k2) none i
theorem zqf7 (hΓ : GO (zqf4 zqy2 zqy0 zqy3)) (i : Nat) : OK zqf2 (zqf3 (zqf6 zqy2 zqy0 zqy3 i)) :=
 pcL mixed (zqf4 zqy2 zqy0 zqy3) tab_ok hΓ (G := fun i => @fun β d ks => zqf3 (zqf6 zqy2 zqy0 zqy3 i) d ks) (pick1 []) (by kernel_rfl) rfl (by kernel_rfl) CutsOk_nil (fun _ _ => rfl) (fun _ _ _ _ => by kernel_rfl) i
def zqf8 (p1 : zqf1) : zqew := fun x k =>
 p1 (fun (t2 : Bool) =>
 k t2) (fun (x2 : zqq) =>
 let t : Bool := (decide ((List.length x2.2.2.2.2.2.2.2.2.1 : Int) ≤ (32 : Int)));
 k t) x.2.2.2.1 x.2.2.2.2.2.2.2.2.1 (List.length x.2.2.2.2.2.2.2.2.1 : Int) (0 : Int) x
theorem zqf9 (hΓ : GO (zqf4 zqy2 zqy0 zqy3)) (p1 : zqf1) (hp1 : OK zqf2 (zqf3 p1)) : SpecOk Tryz.prog 68 (zqex (zqf8 p1)) :=
 pcS mixed (zqf4 zqy2 zqy0 zqy3) tab_ok hΓ (pick1 [(58, zqf2.cut (zqf3 p1))]) [.tmp 2] Tryz.func68 (by kernel_rfl) (by kernel_rfl) (by kernel_rfl) (by kernel_rfl) (CutsOk_cons (by kernel_rfl) rfl hp1 CutsOk_nil) (fun _ _ => by kernel_rfl)
end
theorem zqfaΓ : GO (zqf4 zqe1 zqdg zqeu) := (ΓOk_cons zqe2 (ΓOk_cons zqdh (ΓOk_cons zqev ΓOk_nil)))
def zqfb (m : Nat) : zqf1 := zqf6 zqe1 zqdg zqeu m
theorem zqfc {β : Type} (i : Nat) (k1 k2) : zqfb (β := β) (i + 1) k1 k2 = zqf5 zqe1 zqdg zqeu (zqfb i k1 k2) k1 k2 := rfl
def zqfd : zqf1 := zqfb fuel
theorem zqfe : OK zqf2 (zqf3 zqfd) := zqf7 zqe1 zqdg zqeu zqfaΓ fuel
def zqff : zqew := zqf8 zqfd
theorem zqfg : SpecOk Tryz.prog 68 (zqex zqff) := zqf9 zqe1 zqdg zqeu zqfaΓ zqfd zqfe
abbrev zqfh := {β : Type} → t6y → Int → (Int → Option β) → Option β
def zqfi (c : zqfh) : Spec :=
 ⟨[b34y, b21y], [], [b21y], [], fun x k => c x.1.1.1 x.1.2.1.1 (fun r0 => k (((r0, ()), ()), ()))⟩
abbrev zqfj (β : Type) := Int → Option β
abbrev zqfk (β : Type) := Unit → Option β
abbrev zqfl (β : Type) := t6y → Int → Int → Int → Option β
abbrev zqfm := {β : Type} → zqfj β → zqfk β → zqfl β
noncomputable def zqfn : Pc := ⟨19, 0, codeAt 26 (bodyOf Tryz.f70), ⟨0, [0, 1, 7, 8], [b34y, b21y, b21y, b21y], []⟩, [(.ret, ⟨0, [4], [b21y], []⟩), (.exit 0, ⟨0, [], [], []⟩)]⟩
@[reducible] def zqfo (p : zqfm) : zqfn.G := fun d ks => p (fun a0 => ks.1 (((a0, ()), ()), ())) (fun _ => ks.2.1 ((), ())) d.1.1.1 d.1.2.1.1 d.1.2.2.1.1 d.1.2.2.2.1.1
section
@[reducible] def zqfp : Ctx := cx []
def zqfq {β : Type} (rec : zqfl β) (k1 : zqfj β) (k2 : zqfk β) : zqfl β := fun s v t7 t8 =>
 cond (decide (t8 < t7))
 (cond (decide (0 ≤ t8) && decide (t8 < (List.length s : Int)))
 (let e : Int := List.getD s (Int.toNat t8) (0 : Int);
 cond (decide (v = e))
 (k1 t8)
 (rec s v t7 (IntKind.i64.wrap (t8 + (1 : Int)))))
 none)
 (k2 ())
def zqfr {β : Type} (i : Nat) (k1 : zqfj β) (k2 : zqfk β) := lp4 (fun r => zqfq r k1 k2) none i
theorem zqfs (hΓ : GO zqfp) (i : Nat) : OK zqfn (zqfo (zqfr i)) :=
 pcL mixed zqfp tab_ok hΓ (G := fun i => @fun β d ks => zqfo (zqfr i) d ks) (pick1 []) (by kernel_rfl) rfl (by kernel_rfl) CutsOk_nil (fun _ _ => rfl) (fun _ _ _ _ => by kernel_rfl) i
def zqft (p1 : zqfm) : zqfh := fun s v k =>
 p1 (fun (t4 : Int) =>
 k t4) (fun (_ : Unit) =>
 k (-1 : Int)) s v (List.length s : Int) (0 : Int)
theorem zqfu (hΓ : GO zqfp) (p1 : zqfm) (hp1 : OK zqfn (zqfo p1)) : SpecOk Tryz.prog 70 (zqfi (zqft p1)) :=
 pcS mixed zqfp tab_ok hΓ (pick1 [(26, zqfn.cut (zqfo p1))]) [.tmp 4] Tryz.func70 (by kernel_rfl) (by kernel_rfl) (by kernel_rfl) (by kernel_rfl) (CutsOk_cons (by kernel_rfl) rfl hp1 CutsOk_nil) (fun _ _ => by kernel_rfl)
end
theorem zqfvΓ : GO (zqfp) := ΓOk_nil
def zqfw (m : Nat) : zqfm := zqfr m
theorem zqfx {β : Type} (i : Nat) (k1 k2) : zqfw (β := β) (i + 1) k1 k2 = zqfq (zqfw i k1 k2) k1 k2 := rfl
def zqfy : zqfm := zqfw fuel
theorem zqfz : OK zqfn (zqfo zqfy) := zqfs zqfvΓ fuel
def zqg0 : zqfh := zqft zqfy
theorem zqg1 : SpecOk Tryz.prog 70 (zqfi zqg0) := zqfu zqfvΓ zqfy zqfz
abbrev zqg2 := {β : Type} → t0y → (Bool → Option β) → Option β
def zqg3 (c : zqg2) : Spec :=
 ⟨[b35y], [], [b25y], [], fun x k => c x.1.1.1 (fun r0 => k (((r0, ()), ()), ()))⟩
section
variable (zqy4 : zq7t)
@[reducible] def zqg4 : Ctx := cx [(46, .spec (zq7u zqy4))]
def zqg5 : zqg2 := fun r_ k =>
 zqy4 r_.1 (0 : Int) r_.2 (fun (rin : Bool) =>
 cond (!rin)
 (k true)
 (let t : Bool := (decide ((1099511627776 : Int) < r_.2));
 k t))
theorem zqg6 (hΓ : GO (zqg4 zqy4)) : SpecOk Tryz.prog 72 (zqg3 (zqg5 zqy4)) :=
 pcS mixed (zqg4 zqy4) tab_ok hΓ (pick1 []) [.tmp 2] Tryz.func72 (by kernel_rfl) (by kernel_rfl) (by kernel_rfl) (by kernel_rfl) CutsOk_nil (fun _ _ => by kernel_rfl)
end
theorem zqg7Γ : GO (zqg4 zq7z) := (ΓOk_cons zq80 ΓOk_nil)
def zqg8 : zqg2 := zqg5 zq7z
theorem zqg9 : SpecOk Tryz.prog 72 (zqg3 zqg8) := zqg6 zq7z zqg7Γ
abbrev zqga := {β : Type} → Int → (Bool → Option β) → Option β
def zqgb (c : zqga) : Spec :=
 ⟨[b21y], [], [b25y], [], fun x k => c x.1.1.1 (fun r0 => k (((r0, ()), ()), ()))⟩
section
@[reducible] def zqgc : Ctx := cx []
def zqgd : zqga := fun n k =>
 cond (decide ((-4611686018427387904 : Int) ≤ n))
 (let t : Bool := (decide (n ≤ (4611686018427387904 : Int)));
 k t)
 (k false)
theorem zqge (hΓ : GO zqgc) : SpecOk Tryz.prog 73 (zqgb (zqgd)) :=
 pcS mixed zqgc tab_ok hΓ (pick1 []) [.tmp 2] Tryz.func73 (by kernel_rfl) (by kernel_rfl) (by kernel_rfl) (by kernel_rfl) CutsOk_nil (fun _ _ => by kernel_rfl)
end
theorem zqgfΓ : GO (zqgc) := ΓOk_nil
def zqgg : zqga := zqgd
theorem zqgh : SpecOk Tryz.prog 73 (zqgb zqgg) := zqge zqgfΓ
abbrev zqgi := {β : Type} → Int → Int → (Int → Option β) → Option β
def zqgj (c : zqgi) : Spec :=
 ⟨[b21y, b21y], [], [b21y], [], fun x k => c x.1.1.1 x.1.2.1.1 (fun r0 => k (((r0, ()), ()), ()))⟩
abbrev zqgk (β : Type) := Int → Option β
abbrev zqgl (β : Type) := Int → Int → Option β
abbrev zqgm := {β : Type} → zqgk β → zqgl β
noncomputable def zqgn : Pc := ⟨12, 0, codeAt 12 (bodyOf Tryz.f74), ⟨0, [0, 1], [b21y, b21y], []⟩, [(.exit 0, ⟨0, [0], [b21y], []⟩)]⟩
@[reducible] def zqgo (p : zqgm) : zqgn.G := fun d ks => p (fun a0 => ks.1 (((a0, ()), ()), ())) d.1.1.1 d.1.2.1.1
section
@[reducible] def zqgp : Ctx := cx []
def zqgq {β : Type} (rec : zqgl β) (k1 : zqgk β) : zqgl β := fun a b =>
 cond (!decide (b = (0 : Int)))
 (cond (!decide (b = 0))
 (rec b (Int.tmod a b))
 none)
 (k1 a)
def zqgr {β : Type} (i : Nat) (k1 : zqgk β) := lp2 (fun r => zqgq r k1) none i
theorem zqgs (hΓ : GO zqgp) (i : Nat) : OK zqgn (zqgo (zqgr i)) :=
 pcL mixed zqgp tab_ok hΓ (G := fun i => @fun β d ks => zqgo (zqgr i) d ks) (pick1 []) (by kernel_rfl) rfl (by kernel_rfl) CutsOk_nil (fun _ _ => rfl) (fun _ _ _ _ => by kernel_rfl) i
def zqgt (p1 : zqgm) : zqgi := fun a b k =>
 p1 (fun (a2 : Int) =>
 k a2) a b
theorem zqgu (hΓ : GO zqgp) (p1 : zqgm) (hp1 : OK zqgn (zqgo p1)) : SpecOk Tryz.prog 74 (zqgj (zqgt p1)) :=
 pcS mixed zqgp tab_ok hΓ (pick1 [(12, zqgn.cut (zqgo p1))]) [.tmp 4] Tryz.func74 (by kernel_rfl) (by kernel_rfl) (by kernel_rfl) (by kernel_rfl) (CutsOk_cons (by kernel_rfl) rfl hp1 CutsOk_nil) (fun _ _ => by kernel_rfl)
end
theorem zqgvΓ : GO (zqgp) := ΓOk_nil
def zqgw (m : Nat) : zqgm := zqgr m
theorem zqgx {β : Type} (i : Nat) (k1) : zqgw (β := β) (i + 1) k1 = zqgq (zqgw i k1) k1 := rfl
def zqgy : zqgm := zqgw fuel
theorem zqgz : OK zqgn (zqgo zqgy) := zqgs zqgvΓ fuel
def zqh0 : zqgi := zqgt zqgy
theorem zqh1 : SpecOk Tryz.prog 74 (zqgj zqh0) := zqgu zqgvΓ zqgy zqgz
abbrev zqh2 := {β : Type} → Int → (Int → Option β) → Option β
def zqh3 (c : zqh2) : Spec :=
 ⟨[b21y], [], [b21y], [], fun x k => c x.1.1.1 (fun r0 => k (((r0, ()), ()), ()))⟩
section
@[reducible] def zqh4 : Ctx := cx []
def zqh5 : zqh2 := fun n k =>
 cond (decide (n < (0 : Int)))
 (let t : Int := (IntKind.i64.wrap (0 - n));
 k t)
 (k n)
theorem zqh6 (hΓ : GO zqh4) : SpecOk Tryz.prog 75 (zqh3 (zqh5)) :=
 pcS mixed zqh4 tab_ok hΓ (pick1 []) [.tmp 2] Tryz.func75 (by kernel_rfl) (by kernel_rfl) (by kernel_rfl) (by kernel_rfl) CutsOk_nil (fun _ _ => by kernel_rfl)
end
theorem zqh7Γ : GO (zqh4) := ΓOk_nil
def zqh8 : zqh2 := zqh5
theorem zqh9 : SpecOk Tryz.prog 75 (zqh3 zqh8) := zqh6 zqh7Γ
abbrev zqha := {β : Type} → t8y → (t6y → t6y → Option β) → Option β
def zqhb (c : zqha) : Spec :=
 ⟨[b26y], [], [(true, [.rowh 0, .rowh 1])], [.row 3 (.int .i64), .row 3 (.int .i64)], fun x k => c x.1.1.1 (fun r0 r1 => k (((), ()), (r0, r1, ())))⟩
abbrev zqhc (β : Type) := t6y → t6y → t6y → t6y → Option β
abbrev zqhd (β : Type) := t8y → Int → Int → t6y → t6y → t6y → t6y → Option β
abbrev zqhe := {β : Type} → zqhc β → zqhd β
noncomputable def zqhf : Pc := ⟨28, 0, codeAt 58 (bodyOf Tryz.f76), ⟨0, [2, 3, 6, 7, 8], [b23y, b27y, b26y, b21y, b21y], [.cells 135 [.rowh 2, .rowh 3], .cells 135 [.rowh 4, .rowh 5], .row 3 (.int .i64), .row 3 (.int .i64), .row 3 (.int .i64), .row 3 (.int .i64)]⟩, [(.exit 0, ⟨0, [2, 3], [b23y, b27y], [.cells 135 [.rowh 2, .rowh 3], .cells 135 [.rowh 4, .rowh 5], .row 3 (.int .i64), .row 3 (.int .i64), .row 3 (.int .i64), .row 3 (.int .i64)]⟩)]⟩
@[reducible] def zqhg (p : zqhe) : zqhf.G := fun d ks => p (fun a0 a1 a2 a3 => ks.1 (((), (), ()), ((), (), a0, a1, a2, a3, ()))) d.1.2.2.1.1 d.1.2.2.2.1.1 d.1.2.2.2.2.1.1 d.2.2.2.1 d.2.2.2.2.1 d.2.2.2.2.2.1 d.2.2.2.2.2.2.1
section
@[reducible] def zqhh : Ctx := cx []
def zqhi {β : Type} (rec : zqhd β) (k1 : zqhc β) : zqhd β := fun t6 t7 t8 b2_ b3_ b4_ b5_ =>
 cond (decide (t8 < t7))
 (cond (decide (0 ≤ t8) && decide (t8 < (List.length t6 : Int)))
 (let e : t0y := List.getD t6 (Int.toNat t8) ((0 : Int), (0 : Int));
 let l : List Int := ([e.1] : List Int);
 cond (decide ((List.length b4_ + List.length l) * 8 ≤ roomMax))
 (let l2 : List Int := (b4_ ++ l);
 let l3 : List Int := ([e.2] : List Int);
 cond (decide ((List.length b5_ + List.length l3) * 8 ≤ roomMax))
 (let l4 : List Int := (b5_ ++ l3);
 rec t6 t7 (IntKind.i64.wrap (t8 + (1 : Int))) b2_ b3_ l2 l4)
 none)
 none)
 none)
 (k1 b2_ b3_ b4_ b5_)
def zqhj {β : Type} (i : Nat) (k1 : zqhc β) := lp7 (fun r => zqhi r k1) none i
theorem zqhk (hΓ : GO zqhh) (i : Nat) : OK zqhf (zqhg (zqhj i)) :=
 pcL mixed zqhh tab_ok hΓ (G := fun i => @fun β d ks => zqhg (zqhj i) d ks) (pick1 []) (by kernel_rfl) rfl (by kernel_rfl) CutsOk_nil (fun _ _ => rfl) (fun _ _ _ _ => by kernel_rfl) i
def zqhl (p1 : zqhe) : zqha := fun l k =>
 p1 (fun (b2_ : List Int) (b3_ : List Int) (b4_ : List Int) (b5_ : List Int) =>
 k b4_ b5_) l (List.length l : Int) (0 : Int) ([] : List Int) ([] : List Int) ([] : List Int) ([] : List Int)
theorem zqhm (hΓ : GO zqhh) (p1 : zqhe) (hp1 : OK zqhf (zqhg p1)) : SpecOk Tryz.prog 76 (zqhb (zqhl p1)) :=
 pcS mixed zqhh tab_ok hΓ (pick1 [(58, zqhf.cut (zqhg p1))]) [.cell 2 135] Tryz.func76 (by kernel_rfl) (by kernel_rfl) (by kernel_rfl) (by kernel_rfl) (CutsOk_cons (by kernel_rfl) rfl hp1 CutsOk_nil) (fun _ _ => by kernel_rfl)
end
theorem zqhnΓ : GO (zqhh) := ΓOk_nil
def zqho (m : Nat) : zqhe := zqhj m
theorem zqhp {β : Type} (i : Nat) (k1) : zqho (β := β) (i + 1) k1 = zqhi (zqho i k1) k1 := rfl
def zqhq : zqhe := zqho fuel
theorem zqhr : OK zqhf (zqhg zqhq) := zqhk zqhnΓ fuel
def zqhs : zqha := zqhl zqhq
theorem zqht : SpecOk Tryz.prog 76 (zqhb zqhs) := zqhm zqhnΓ zqhq zqhr
def zqhu : Shelf.Ren :=
   {
   f := fun x =>
    match x with
    | 189 => 77
    | 125 => 87
    | 257 => 86
    | 128 => 100
    | 129 => 101
    | 294 => 91
    | 295 => 92
    | 296 => 93
    | 297 => 94
    | 298 => 95
    | 299 => 96
    | 216 => 97
    | 300 => 98
    | 301 => 99
    | 328 => 108
    | 329 => 109
    | 330 => 110
    | 331 => 111
    | 332 => 112
    | 215 => 113
    | 343 => 122
    | n => n,
   t := fun x =>
    match x with
    | 28 => 22
    | 3 => 3
    | 46 => 174
    | 0 => 0
    | 51 => 185
    | 53 => 187
    | 4 => 4
    | 183 => 180
    | 182 => 179
    | 131 => 151
    | 5 => 5
    | 9 => 9
    | 218 => 193
    | 222 => 197
    | 228 => 203
    | 229 => 204
    | n => n,
   g := fun x => x }
theorem zqhv : Go.Proofs.Lays.n189 Tryz.prog zqhu :=
 {
  mixed := by kernel_rfl,
  f125 := Eq.trans Tryz.func87 (congrArg some (by kernel_rfl)),
  f128 := Eq.trans Tryz.func100 (congrArg some (by kernel_rfl)),
  f129 := Eq.trans Tryz.func101 (congrArg some (by kernel_rfl)),
  f189 := Eq.trans Tryz.func77 (congrArg some (by kernel_rfl)),
  f215 := Eq.trans Tryz.func113 (congrArg some (by kernel_rfl)),
  f216 := Eq.trans Tryz.func97 (congrArg some (by kernel_rfl)),
  f257 := Eq.trans Tryz.func86 (congrArg some (by kernel_rfl)),
  f294 := Eq.trans Tryz.func91 (congrArg some (by kernel_rfl)),
  f295 := Eq.trans Tryz.func92 (congrArg some (by kernel_rfl)),
  f296 := Eq.trans Tryz.func93 (congrArg some (by kernel_rfl)),
  f297 := Eq.trans Tryz.func94 (congrArg some (by kernel_rfl)),
  f298 := Eq.trans Tryz.func95 (congrArg some (by kernel_rfl)),
  f299 := Eq.trans Tryz.func96 (congrArg some (by kernel_rfl)),
  f300 := Eq.trans Tryz.func98 (congrArg some (by kernel_rfl)),
  f301 := Eq.trans Tryz.func99 (congrArg some (by kernel_rfl)),
  f328 := Eq.trans Tryz.func108 (congrArg some (by kernel_rfl)),
  f329 := Eq.trans Tryz.func109 (congrArg some (by kernel_rfl)),
  f330 := Eq.trans Tryz.func110 (congrArg some (by kernel_rfl)),
  f331 := Eq.trans Tryz.func111 (congrArg some (by kernel_rfl)),
  f332 := Eq.trans Tryz.func112 (congrArg some (by kernel_rfl)),
  f343 := Eq.trans Tryz.func122 (congrArg some (by kernel_rfl)),
  t0 := Tryz.underlying0,
  a0 := Tryz.isAgg0,
  z0 := Tryz.sizeOf0,
  v0 := Tryz.zeroValue0,
  t3 := Tryz.underlying3,
  a3 := Tryz.isAgg3,
  z3 := Tryz.sizeOf3,
  v3 := Tryz.zeroValue3,
  t4 := Tryz.underlying4,
  a4 := Tryz.isAgg4,
  z4 := Tryz.sizeOf4,
  v4 := Tryz.zeroValue4,
  t5 := Tryz.underlying5,
  a5 := Tryz.isAgg5,
  z5 := Tryz.sizeOf5,
  v5 := Tryz.zeroValue5,
  t9 := Tryz.underlying9,
  a9 := Tryz.isAgg9,
  z9 := Tryz.sizeOf9,
  v9 := Tryz.zeroValue9,
  t28 := Tryz.underlying22,
  a28 := Tryz.isAgg22,
  z28 := Tryz.sizeOf22,
  v28 := Tryz.zeroValue22,
  t46 := Tryz.underlying174,
  a46 := Tryz.isAgg174,
  z46 := Tryz.sizeOf174,
  v46 := Tryz.zeroValue174,
  t51 := Tryz.underlying185,
  a51 := Tryz.isAgg185,
  z51 := Tryz.sizeOf185,
  v51 := Tryz.zeroValue185,
  t53 := Tryz.underlying187,
  a53 := Tryz.isAgg187,
  z53 := Tryz.sizeOf187,
  v53 := Tryz.zeroValue187,
  t131 := Tryz.underlying151,
  a131 := Tryz.isAgg151,
  z131 := Tryz.sizeOf151,
  v131 := Tryz.zeroValue151,
  t182 := Tryz.underlying179,
  a182 := Tryz.isAgg179,
  z182 := Tryz.sizeOf179,
  v182 := Tryz.zeroValue179,
  t183 := Tryz.underlying180,
  a183 := Tryz.isAgg180,
  z183 := Tryz.sizeOf180,
  v183 := Tryz.zeroValue180,
  t218 := Tryz.underlying193,
  a218 := Tryz.isAgg193,
  z218 := Tryz.sizeOf193,
  v218 := Tryz.zeroValue193,
  t222 := Tryz.underlying197,
  a222 := Tryz.isAgg197,
  z222 := Tryz.sizeOf197,
  v222 := Tryz.zeroValue197,
  t228 := Tryz.underlying203,
  a228 := Tryz.isAgg203,
  z228 := Tryz.sizeOf203,
  v228 := Tryz.zeroValue203,
  t229 := Tryz.underlying204,
  a229 := Tryz.isAgg204,
  z229 := Tryz.sizeOf204,
  v229 := Tryz.zeroValue204 }
def zqhw : RowF := sortF 3
theorem zqhx : RowOk Tryz.prog 77 zqhw :=
 sort_rowok zqhv rfl ⟨_, Tryz.func77, by kernel_rfl, by kernel_rfl⟩
abbrev zqhy := {β : Type} → zq2 → (Bool → Option β) → Option β
def zqhz (c : zqhy) : Spec :=
 ⟨[(true, [.data zq3])], [], [b25y], [], fun x k => c x.1.1.1 (fun r0 => k (((r0, ()), ()), ()))⟩
abbrev zqi0 (β : Type) := Bool → Option β
abbrev zqi1 (β : Type) := Unit → Option β
abbrev zqi2 (β : Type) := Int → zq2 → Option β
abbrev zqi3 := {β : Type} → zqi0 β → zqi1 β → zqi2 β
noncomputable def zqi4 : Pc := ⟨19, 0, codeAt 26 (bodyOf Tryz.f78), ⟨0, [1, 3], [b23y, b21y], [.cells 109 [.data zq3]]⟩, [(.ret, ⟨0, [2], [b25y], []⟩), (.exit 0, ⟨0, [], [], []⟩)]⟩
@[reducible] def zqi5 (p : zqi3) : zqi4.G := fun d ks => p (fun a0 => ks.1 (((a0, ()), ()), ())) (fun _ => ks.2.1 ((), ())) d.1.2.1.1 d.2.1.1
section
variable (zqxt : zq44)
@[reducible] def zqi6 : Ctx := cx [(37, .spec (zq45 zqxt))]
def zqi7 {β : Type} (rec : zqi2 β) (k1 : zqi0 β) (k2 : zqi1 β) : zqi2 β := fun i_ p_ =>
 cond (decide (i_ < (List.length p_.2.1 : Int)))
 (cond (decide (0 ≤ i_) && decide (i_ < (List.length p_.2.1 : Int)))
 (let e : zq0 := List.getD p_.2.1 (Int.toNat i_) ((0 : Int), (false, ([] : List t0y)));
 zqxt e.1 (0 : Int) (86400 : Int) (fun (rIn : Bool) =>
 cond (!rIn)
 (k1 false)
 (let i_2 : Int := (IntKind.i64.wrap (i_ + (1 : Int)));
 rec i_2 p_)))
 none)
 (k2 ())
def zqi8 {β : Type} (i : Nat) (k1 : zqi0 β) (k2 : zqi1 β) := lp2 (fun r => zqi7 zqxt r k1 k2) none i
theorem zqi9 (hΓ : GO (zqi6 zqxt)) (i : Nat) : OK zqi4 (zqi5 (zqi8 zqxt i)) :=
 pcL mixed (zqi6 zqxt) tab_ok hΓ (G := fun i => @fun β d ks => zqi5 (zqi8 zqxt i) d ks) (pick1 []) (by kernel_rfl) rfl (by kernel_rfl) CutsOk_nil (fun _ _ => rfl) (fun _ _ _ _ => by kernel_rfl) i
def zqia (p1 : zqi3) : zqhy := fun p_ k =>
 p1 (fun (t2 : Bool) =>
 k t2) (fun (_ : Unit) =>
 k true) (0 : Int) p_
theorem zqib (hΓ : GO (zqi6 zqxt)) (p1 : zqi3) (hp1 : OK zqi4 (zqi5 p1)) : SpecOk Tryz.prog 78 (zqhz (zqia p1)) :=
 pcS mixed (zqi6 zqxt) tab_ok hΓ (pick1 [(26, zqi4.cut (zqi5 p1))]) [.tmp 2] Tryz.func78 (by kernel_rfl) (by kernel_rfl) (by kernel_rfl) (by kernel_rfl) (CutsOk_cons (by kernel_rfl) rfl hp1 CutsOk_nil) (fun _ _ => by kernel_rfl)
end
theorem zqicΓ : GO (zqi6 zq4a) := (ΓOk_cons zq4b ΓOk_nil)
def zqid (m : Nat) : zqi3 := zqi8 zq4a m
theorem zqie {β : Type} (i : Nat) (k1 k2) : zqid (β := β) (i + 1) k1 k2 = zqi7 zq4a (zqid i k1 k2) k1 k2 := rfl
def zqif : zqi3 := zqid fuel
theorem zqig : OK zqi4 (zqi5 zqif) := zqi9 zq4a zqicΓ fuel
def zqih : zqhy := zqia zqif
theorem zqii : SpecOk Tryz.prog 78 (zqhz zqih) := zqib zq4a zqicΓ zqif zqig
abbrev zqij := {β : Type} → zq2 → (Int → Option β) → Option β
def zqik (c : zqij) : Spec :=
 ⟨[(true, [.data zq3])], [], [b21y], [], fun x k => c x.1.1.1 (fun r0 => k (((r0, ()), ()), ()))⟩
section
variable (zqxt : zq44)
@[reducible] def zqil : Ctx := cx [(37, .spec (zq45 zqxt))]
def zqim : zqij := fun p_ k =>
 zqxt p_.2.2 (0 : Int) (8 : Int) (fun (rIn : Bool) =>
 cond (!rIn)
 (k (0 : Int))
 (cond (decide ((8 : Int) < (List.length p_.2.1 : Int)))
 (k (0 : Int))
 (let t : Int := (IntKind.i64.wrap ((List.length p_.2.1 : Int) * (IntKind.i64.wrap (p_.2.2 + (1 : Int)))));
 k t)))
theorem zqin (hΓ : GO (zqil zqxt)) : SpecOk Tryz.prog 79 (zqik (zqim zqxt)) :=
 pcS mixed (zqil zqxt) tab_ok hΓ (pick1 []) [.tmp 2] Tryz.func79 (by kernel_rfl) (by kernel_rfl) (by kernel_rfl) (by kernel_rfl) CutsOk_nil (fun _ _ => by kernel_rfl)
end
theorem zqioΓ : GO (zqil zq4a) := (ΓOk_cons zq4b ΓOk_nil)
def zqip : zqij := zqim zq4a
theorem zqiq : SpecOk Tryz.prog 79 (zqik zqip) := zqin zq4a zqioΓ
abbrev zqir := {β : Type} → zqs → (Bool → Option β) → Option β
def zqis (c : zqir) : Spec :=
 ⟨[b43y], [], [b25y], [], fun x k => c x.1.1.1 (fun r0 => k (((r0, ()), ()), ()))⟩
abbrev zqit (β : Type) := Bool → Option β
abbrev zqiu (β : Type) := zqs → Option β
abbrev zqiv (β : Type) := Int → Int → Int → zqs → Option β
abbrev zqiw := {β : Type} → zqit β → zqiu β → zqiv β
noncomputable def zqix : Pc := ⟨65, 0, codeAt 58 (bodyOf Tryz.f80), ⟨0, [1, 3, 4, 5], [b23y, b21y, b21y, b21y], [b28y]⟩, [(.ret, ⟨0, [2], [b25y], []⟩), (.exit 0, ⟨0, [1], [b23y], [b28y]⟩)]⟩
@[reducible] def zqiy (p : zqiw) : zqix.G := fun d ks => p (fun a0 => ks.1 (((a0, ()), ()), ())) (fun a0 => ks.2.1 (((), ()), ((a0, ()), ()))) d.1.2.1.1 d.1.2.2.1.1 d.1.2.2.2.1.1 d.2.1.1
abbrev zqiz (β : Type) := Int → Int → Int → zqs → Option β
abbrev zqj0 (β : Type) := Int → Int → zqs → t2y → Option β
abbrev zqj1 := {β : Type} → zqiz β → zqj0 β
noncomputable def zqj2 : Pc := ⟨65, 0, codeAt 51 (loopBody zqix.c), ⟨0, [1, 3, 5, 6], [b23y, b21y, b21y, b27y], [b28y, .cells 65 [.data (.prod (.int .i64) (.prod (.int .i64) (.slice (.int .i64))))]]⟩, [(.normal, ⟨0, [1, 3, 4, 5], [b23y, b21y, b21y, b21y], [b28y]⟩)]⟩
@[reducible] def zqj3 (p : zqj1) : zqj2.G := fun d ks => p (fun a0 a1 a2 a3 => ks.1 (((), (a0, ()), (a1, ()), (a2, ()), ()), ((a3, ()), ()))) d.1.2.1.1 d.1.2.2.1.1 d.2.1.1 d.2.2.1.1
section
variable (zqxu : zq5d)
@[reducible] def zqj4 : Ctx := cx [(41, .spec (zq5e zqxu))]
def zqj5 {β : Type} (k1 : zqiz β) : zqj0 β := fun k_ i_ p_ x =>
 cond (decide ((0 : Int) ≤ x.1))
 (k1 x.1 x.2.1 i_ p_)
 (k1 k_ x.2.1 i_ p_)
def zqj6 {β : Type} (k1 : zqiz β) : zqj0 β := zqj5 k1
theorem zqj7 (hΓ : GO (zqj4 zqxu)) : OK zqj2 (zqj3 (zqj6)) :=
 pcE mixed (zqj4 zqxu) tab_ok hΓ 51 (pick1 []) (by kernel_rfl) CutsOk_nil (fun _ _ => by kernel_rfl)
def zqj8 (p1 : zqj1) {β : Type} (rec : zqiv β) (k1 : zqit β) (k2 : zqiu β) : zqiv β := fun k_ at_ i_ p_ =>
 cond (decide (i_ < (List.length p_.2.2.2.2.2.2.2.2.2.2.2.1 : Int)))
 (cond (decide (0 ≤ i_) && decide (i_ < (List.length p_.2.2.2.2.2.2.2.2.2.2.2.1 : Int)))
 (let e : t2y := List.getD p_.2.2.2.2.2.2.2.2.2.2.2.1 (Int.toNat i_) ((0 : Int), ((0 : Int), ([] : List Int)));
 cond (decide (e.2.1 < at_))
 (k1 false)
 (cond (decide (e.1 < (-1 : Int)))
 (k1 false)
 (cond (decide ((0 : Int) ≤ e.1))
 (cond (decide (e.1 ≤ k_))
 (k1 false)
 (cond (decide (p_.2.2.2.1 ≤ e.1))
 (k1 false)
 (zqxu e.2.2 (32 : Int) (fun (rSet : Bool) =>
 cond (!rSet)
 (k1 false)
 (p1 (fun (k_2 : Int) (at_2 : Int) (i_2 : Int) (p_2 : zqs) =>
 let i_3 : Int := (IntKind.i64.wrap (i_2 + (1 : Int)));
 rec k_2 at_2 i_3 p_2) k_ i_ p_ e)))))
 (zqxu e.2.2 (32 : Int) (fun (rSet : Bool) =>
 cond (!rSet)
 (k1 false)
 (p1 (fun (k_2 : Int) (at_2 : Int) (i_2 : Int) (p_2 : zqs) =>
 let i_3 : Int := (IntKind.i64.wrap (i_2 + (1 : Int)));
 rec k_2 at_2 i_3 p_2) k_ i_ p_ e))))))
 none)
 (k2 p_)
def zqj9 (p1 : zqj1) {β : Type} (i : Nat) (k1 : zqit β) (k2 : zqiu β) := lp4 (fun r => zqj8 zqxu p1 r k1 k2) none i
theorem zqja (hΓ : GO (zqj4 zqxu)) (p1 : zqj1) (hp1 : OK zqj2 (zqj3 p1)) (i : Nat) : OK zqix (zqiy (zqj9 zqxu p1 i)) :=
 pcL mixed (zqj4 zqxu) tab_ok hΓ (G := fun i => @fun β d ks => zqiy (zqj9 zqxu p1 i) d ks) (pick1 [(51, zqj2.cut (zqj3 p1))]) (by kernel_rfl) rfl (by kernel_rfl) (CutsOk_cons (by kernel_rfl) rfl hp1 CutsOk_nil) (fun _ _ => rfl) (fun _ _ _ _ => by kernel_rfl) i
def zqjb (p2 : zqiw) : zqir := fun p_ k =>
 p2 (fun (t2 : Bool) =>
 k t2) (fun (p_2 : zqs) =>
 let t : Bool := (decide ((List.length p_2.2.2.2.2.2.2.2.2.2.2.2.1 : Int) ≤ (200 : Int)));
 k t) (-1 : Int) p_.2.2.1 (0 : Int) p_
theorem zqjc (hΓ : GO (zqj4 zqxu)) (p2 : zqiw) (hp2 : OK zqix (zqiy p2)) : SpecOk Tryz.prog 80 (zqis (zqjb p2)) :=
 pcS mixed (zqj4 zqxu) tab_ok hΓ (pick1 [(58, zqix.cut (zqiy p2))]) [.tmp 2] Tryz.func80 (by kernel_rfl) (by kernel_rfl) (by kernel_rfl) (by kernel_rfl) (CutsOk_cons (by kernel_rfl) rfl hp2 CutsOk_nil) (fun _ _ => by kernel_rfl)
end
theorem zqjdΓ : GO (zqj4 zq5w) := (ΓOk_cons zq5x ΓOk_nil)
def zqje : zqj1 := zqj6
theorem zqjf : OK zqj2 (zqj3 zqje) := zqj7 zq5w zqjdΓ
def zqjg (m : Nat) : zqiw := zqj9 zq5w zqje m
theorem zqjh {β : Type} (i : Nat) (k1 k2) : zqjg (β := β) (i + 1) k1 k2 = zqj8 zq5w zqje (zqjg i k1 k2) k1 k2 := rfl
def zqji : zqiw := zqjg fuel
theorem zqjj : OK zqix (zqiy zqji) := zqja zq5w zqjdΓ zqje zqjf fuel
def zqjk : zqir := zqjb zqji
theorem zqjl : SpecOk Tryz.prog 80 (zqis zqjk) := zqjc zq5w zqjdΓ zqji zqjj
abbrev zqjm := {β : Type} → zq2 → Int → (Int → Int → Bool → Option β) → Option β
def zqjn (c : zqjm) : Spec :=
 ⟨[(true, [.data zq3]), b21y], [], [b21y, b21y, b25y], [], fun x k => c x.1.1.1 x.1.2.1.1 (fun r0 r1 r2 => k (((r0, ()), (r1, ()), (r2, ()), ()), ()))⟩
section
variable (zqy5 : zqij)
@[reducible] def zqjo : Ctx := cx [(79, .spec (zqik zqy5))]
def zqjp : zqjm := fun p_ k_ k =>
 cond (decide (k_ < (0 : Int)))
 (k (0 : Int) (0 : Int) false)
 (zqy5 p_ (fun (rCount : Int) =>
 cond (decide (rCount ≤ k_))
 (k (0 : Int) (0 : Int) false)
 (cond (!decide ((List.length p_.2.1 : Int) = 0))
 (cond (!decide ((List.length p_.2.1 : Int) = 0))
 (let step : Int := (Int.tmod k_ (List.length p_.2.1 : Int));
 let round : Int := (IntKind.i64.wrap (Int.tdiv k_ (List.length p_.2.1 : Int)));
 k step round true)
 none)
 none)))
theorem zqjq (hΓ : GO (zqjo zqy5)) : SpecOk Tryz.prog 81 (zqjn (zqjp zqy5)) :=
 pcS mixed (zqjo zqy5) tab_ok hΓ (pick1 []) [.tmp 4, .tmp 5, .tmp 6] Tryz.func81 (by kernel_rfl) (by kernel_rfl) (by kernel_rfl) (by kernel_rfl) CutsOk_nil (fun _ _ => by kernel_rfl)
end
theorem zqjrΓ : GO (zqjo zqip) := (ΓOk_cons zqiq ΓOk_nil)
def zqjs : zqjm := zqjp zqip
theorem zqjt : SpecOk Tryz.prog 81 (zqjn zqjs) := zqjq zqip zqjrΓ
abbrev zqju := {β : Type} → Int → (Bool → Option β) → Option β
def zqjv (c : zqju) : Spec :=
 ⟨[b21y], [], [b25y], [], fun x k => c x.1.1.1 (fun r0 => k (((r0, ()), ()), ()))⟩
section
variable (zqy0 : zqda)
@[reducible] def zqjw : Ctx := cx [(62, .spec (zqdb zqy0))]
def zqjx : zqju := fun n k =>
 zqy0 n (0 : Int) (31 : Int) (fun (rin : Bool) =>
 k rin)
theorem zqjy (hΓ : GO (zqjw zqy0)) : SpecOk Tryz.prog 84 (zqjv (zqjx zqy0)) :=
 pcS mixed (zqjw zqy0) tab_ok hΓ (pick1 []) [.tmp 2] Tryz.func84 (by kernel_rfl) (by kernel_rfl) (by kernel_rfl) (by kernel_rfl) CutsOk_nil (fun _ _ => by kernel_rfl)
end
theorem zqjzΓ : GO (zqjw zqdg) := (ΓOk_cons zqdh ΓOk_nil)
def zqk0 : zqju := zqjx zqdg
theorem zqk1 : SpecOk Tryz.prog 84 (zqjv zqk0) := zqjy zqdg zqjzΓ
abbrev zqk2 := {β : Type} → Int → Int → (Bool → Option β) → Option β
def zqk3 (c : zqk2) : Spec :=
 ⟨[b21y, b21y], [], [b25y], [], fun x k => c x.1.1.1 x.1.2.1.1 (fun r0 => k (((r0, ()), ()), ()))⟩
section
@[reducible] def zqk4 : Ctx := cx []
def zqk5 : zqk2 := fun from_ to_ k =>
 cond (decide ((0 : Int) ≤ from_))
 (cond (decide (from_ ≤ (8589934592 : Int)))
 (cond (decide (from_ ≤ to_))
 (cond (decide (to_ ≤ (8589934592 : Int)))
 (let t : Bool := (decide ((IntKind.i64.wrap (to_ - from_)) ≤ (34560000 : Int)));
 k t)
 (k false))
 (k false))
 (k false))
 (k false)
theorem zqk6 (hΓ : GO zqk4) : SpecOk Tryz.prog 104 (zqk3 (zqk5)) :=
 pcS mixed zqk4 tab_ok hΓ (pick1 []) [.tmp 4] Tryz.func104 (by kernel_rfl) (by kernel_rfl) (by kernel_rfl) (by kernel_rfl) CutsOk_nil (fun _ _ => by kernel_rfl)
end
theorem zqk7Γ : GO (zqk4) := ΓOk_nil
def zqk8 : zqk2 := zqk5
theorem zqk9 : SpecOk Tryz.prog 104 (zqk3 zqk8) := zqk6 zqk7Γ
abbrev zqka := {β : Type} → t8y → (Int → Option β) → Option β
def zqkb (c : zqka) : Spec :=
 ⟨[b26y], [], [b21y], [], fun x k => c x.1.1.1 (fun r0 => k (((r0, ()), ()), ()))⟩
abbrev zqkc (β : Type) := Int → Option β
abbrev zqkd (β : Type) := Unit → Option β
abbrev zqke (β : Type) := t8y → Int → Option β
abbrev zqkf := {β : Type} → zqkc β → zqkd β → zqke β
noncomputable def zqkg : Pc := ⟨56, 0, codeAt 58 (bodyOf Tryz.f106), ⟨0, [0, 3], [b26y, b21y], []⟩, [(.ret, ⟨0, [2], [b21y], []⟩), (.exit 0, ⟨0, [], [], []⟩)]⟩
@[reducible] def zqkh (p : zqkf) : zqkg.G := fun d ks => p (fun a0 => ks.1 (((a0, ()), ()), ())) (fun _ => ks.2.1 ((), ())) d.1.1.1 d.1.2.1.1
section
@[reducible] def zqki : Ctx := cx []
def zqkj {β : Type} (rec : zqke β) (k1 : zqkc β) (k2 : zqkd β) : zqke β := fun l i_ =>
 cond (decide (i_ < (List.length l : Int)))
 (cond (decide (0 ≤ i_) && decide (i_ < (List.length l : Int)))
 (let e : t0y := List.getD l (Int.toNat i_) ((0 : Int), (0 : Int));
 cond (decide (e.1 < (0 : Int)))
 (k1 (1 : Int))
 (cond (decide (0 ≤ i_) && decide (i_ < (List.length l : Int)))
 (let e2 : t0y := List.getD l (Int.toNat i_) ((0 : Int), (0 : Int));
 cond (decide (0 ≤ i_) && decide (i_ < (List.length l : Int)))
 (let e3 : t0y := List.getD l (Int.toNat i_) ((0 : Int), (0 : Int));
 cond (decide (e3.2 ≤ e2.1))
 (k1 (1 : Int))
 (cond (decide (0 ≤ i_) && decide (i_ < (List.length l : Int)))
 (let e4 : t0y := List.getD l (Int.toNat i_) ((0 : Int), (0 : Int));
 cond (decide ((604800 : Int) < e4.2))
 (k1 (1 : Int))
 (cond (decide ((0 : Int) < i_))
 (cond (decide (0 ≤ i_) && decide (i_ < (List.length l : Int)))
 (let e5 : t0y := List.getD l (Int.toNat i_) ((0 : Int), (0 : Int));
 cond (decide (0 ≤ (IntKind.i64.wrap (i_ - (1 : Int)))) && decide ((IntKind.i64.wrap (i_ - (1 : Int))) < (List.length l : Int)))
 (let e6 : t0y := List.getD l (Int.toNat (IntKind.i64.wrap (i_ - (1 : Int)))) ((0 : Int), (0 : Int));
 cond (decide (e5.1 < e6.2))
 (k1 (6 : Int))
 (let i_2 : Int := (IntKind.i64.wrap (i_ + (1 : Int)));
 rec l i_2))
 none)
 none)
 (let i_2 : Int := (IntKind.i64.wrap (i_ + (1 : Int)));
 rec l i_2)))
 none))
 none)
 none))
 none)
 (k2 ())
def zqkk {β : Type} (i : Nat) (k1 : zqkc β) (k2 : zqkd β) := lp2 (fun r => zqkj r k1 k2) none i
theorem zqkl (hΓ : GO zqki) (i : Nat) : OK zqkg (zqkh (zqkk i)) :=
 pcL mixed zqki tab_ok hΓ (G := fun i => @fun β d ks => zqkh (zqkk i) d ks) (pick1 []) (by kernel_rfl) rfl (by kernel_rfl) CutsOk_nil (fun _ _ => rfl) (fun _ _ _ _ => by kernel_rfl) i
def zqkm (p1 : zqkf) : zqka := fun l k =>
 cond (decide ((14 : Int) < (List.length l : Int)))
 (k (5 : Int))
 (p1 (fun (t2 : Int) =>
 k t2) (fun (_ : Unit) =>
 k (0 : Int)) l (0 : Int))
theorem zqkn (hΓ : GO zqki) (p1 : zqkf) (hp1 : OK zqkg (zqkh p1)) : SpecOk Tryz.prog 106 (zqkb (zqkm p1)) :=
 pcS mixed zqki tab_ok hΓ (pick1 [(58, zqkg.cut (zqkh p1))]) [.tmp 2] Tryz.func106 (by kernel_rfl) (by kernel_rfl) (by kernel_rfl) (by kernel_rfl) (CutsOk_cons (by kernel_rfl) rfl hp1 CutsOk_nil) (fun _ _ => by kernel_rfl)
end
theorem zqkoΓ : GO (zqki) := ΓOk_nil
def zqkp (m : Nat) : zqkf := zqkk m
theorem zqkq {β : Type} (i : Nat) (k1 k2) : zqkp (β := β) (i + 1) k1 k2 = zqkj (zqkp i k1 k2) k1 k2 := rfl
def zqkr : zqkf := zqkp fuel
theorem zqks : OK zqkg (zqkh zqkr) := zqkl zqkoΓ fuel
def zqkt : zqka := zqkm zqkr
theorem zqku : SpecOk Tryz.prog 106 (zqkb zqkt) := zqkn zqkoΓ zqkr zqks
abbrev zqkv := {β : Type} → t8y → Int → (Bool → Option β) → Option β
def zqkw (c : zqkv) : Spec :=
 ⟨[b26y, b21y], [], [b25y], [], fun x k => c x.1.1.1 x.1.2.1.1 (fun r0 => k (((r0, ()), ()), ()))⟩
abbrev zqkx (β : Type) := Bool → Option β
abbrev zqky (β : Type) := Unit → Option β
abbrev zqkz (β : Type) := t8y → Int → Int → Option β
abbrev zql0 := {β : Type} → zqkx β → zqky β → zqkz β
noncomputable def zql1 : Pc := ⟨28, 0, codeAt 26 (bodyOf Tryz.f107), ⟨0, [0, 1, 5], [b26y, b21y, b21y], []⟩, [(.ret, ⟨0, [4], [b25y], []⟩), (.exit 0, ⟨0, [], [], []⟩)]⟩
@[reducible] def zql2 (p : zql0) : zql1.G := fun d ks => p (fun a0 => ks.1 (((a0, ()), ()), ())) (fun _ => ks.2.1 ((), ())) d.1.1.1 d.1.2.1.1 d.1.2.2.1.1
section
@[reducible] def zql3 : Ctx := cx []
def zql4 {β : Type} (rec : zqkz β) (k1 : zqkx β) (k2 : zqky β) : zqkz β := fun l n i_ =>
 cond (decide (i_ < (List.length l : Int)))
 (cond (decide (0 ≤ i_) && decide (i_ < (List.length l : Int)))
 (let e : t0y := List.getD l (Int.toNat i_) ((0 : Int), (0 : Int));
 cond (decide (e.1 ≤ n))
 (cond (decide (0 ≤ i_) && decide (i_ < (List.length l : Int)))
 (let e2 : t0y := List.getD l (Int.toNat i_) ((0 : Int), (0 : Int));
 cond (decide (n < e2.2))
 (k1 true)
 (let i_2 : Int := (IntKind.i64.wrap (i_ + (1 : Int)));
 rec l n i_2))
 none)
 (let i_2 : Int := (IntKind.i64.wrap (i_ + (1 : Int)));
 rec l n i_2))
 none)
 (k2 ())
def zql5 {β : Type} (i : Nat) (k1 : zqkx β) (k2 : zqky β) := lp3 (fun r => zql4 r k1 k2) none i
theorem zql6 (hΓ : GO zql3) (i : Nat) : OK zql1 (zql2 (zql5 i)) :=
 pcL mixed zql3 tab_ok hΓ (G := fun i => @fun β d ks => zql2 (zql5 i) d ks) (pick1 []) (by kernel_rfl) rfl (by kernel_rfl) CutsOk_nil (fun _ _ => rfl) (fun _ _ _ _ => by kernel_rfl) i
def zql7 (p1 : zql0) : zqkv := fun l n k =>
 p1 (fun (t4 : Bool) =>
 k t4) (fun (_ : Unit) =>
 k false) l n (0 : Int)
theorem zql8 (hΓ : GO zql3) (p1 : zql0) (hp1 : OK zql1 (zql2 p1)) : SpecOk Tryz.prog 107 (zqkw (zql7 p1)) :=
 pcS mixed zql3 tab_ok hΓ (pick1 [(26, zql1.cut (zql2 p1))]) [.tmp 4] Tryz.func107 (by kernel_rfl) (by kernel_rfl) (by kernel_rfl) (by kernel_rfl) (CutsOk_cons (by kernel_rfl) rfl hp1 CutsOk_nil) (fun _ _ => by kernel_rfl)
end
theorem zql9Γ : GO (zql3) := ΓOk_nil
def zqla (m : Nat) : zql0 := zql5 m
theorem zqlb {β : Type} (i : Nat) (k1 k2) : zqla (β := β) (i + 1) k1 k2 = zql4 (zqla i k1 k2) k1 k2 := rfl
def zqlc : zql0 := zqla fuel
theorem zqld : OK zql1 (zql2 zqlc) := zql6 zql9Γ fuel
def zqle : zqkv := zql7 zqlc
theorem zqlf : SpecOk Tryz.prog 107 (zqkw zqle) := zql8 zql9Γ zqlc zqld
abbrev zqlg := {β : Type} → (List zqa) → Int → Int → (Int → Option β) → Option β
def zqlh (c : zqlg) : Spec :=
 ⟨[b58y, b21y, b21y], [], [b21y], [], fun x k => c x.1.1.1 x.1.2.1.1 x.1.2.2.1.1 (fun r0 => k (((r0, ()), ()), ()))⟩
abbrev zqli (β : Type) := Int → Option β
abbrev zqlj (β : Type) := (List zqa) → Int → Int → Int → Option β
abbrev zqlk := {β : Type} → zqli β → zqlj β
noncomputable def zqll : Pc := ⟨61, 0, codeAt 26 (bodyOf Tryz.f124), ⟨0, [0, 1, 2, 7], [b58y, b21y, b21y, b21y], []⟩, [(.exit 0, ⟨0, [1], [b21y], []⟩)]⟩
@[reducible] def zqlm (p : zqlk) : zqll.G := fun d ks => p (fun a0 => ks.1 (((a0, ()), ()), ())) d.1.1.1 d.1.2.1.1 d.1.2.2.1.1 d.1.2.2.2.1.1
abbrev zqln (β : Type) := (List zqa) → Int → Int → Int → Option β
abbrev zqlo (β : Type) := (List zqa) → Int → Int → Int → Bool → zqa → Option β
abbrev zqlp := {β : Type} → zqln β → zqlo β
noncomputable def zqlq : Pc := ⟨61, 0, codeAt 1631 (loopBody zqll.c), ⟨0, [0, 1, 2, 7, 8, 36], [b58y, b21y, b21y, b21y, b23y, b25y], [b64y]⟩, [(.normal, ⟨0, [0, 1, 2, 7], [b58y, b21y, b21y, b21y], []⟩)]⟩
@[reducible] def zqlr (p : zqlp) : zqlq.G := fun d ks => p (fun a0 a1 a2 a3 => ks.1 (((a0, ()), (a1, ()), (a2, ()), (a3, ()), ()), ())) d.1.1.1 d.1.2.1.1 d.1.2.2.1.1 d.1.2.2.2.1.1 d.1.2.2.2.2.2.1.1 d.2.1.1
abbrev zqls (β : Type) := (List zqa) → Int → Int → Int → Option β
abbrev zqlt (β : Type) := (List zqa) → Int → Int → Int → Bool → zqa → Option β
abbrev zqlu := {β : Type} → zqls β → zqlt β
noncomputable def zqlv : Pc := ⟨61, 0, codeAt 101 (loopBody zqll.c), ⟨0, [0, 1, 2, 7, 8, 19], [b58y, b21y, b21y, b21y, b23y, b25y], [b64y]⟩, [(.normal, ⟨0, [0, 1, 2, 7], [b58y, b21y, b21y, b21y], []⟩)]⟩
@[reducible] def zqlw (p : zqlu) : zqlv.G := fun d ks => p (fun a0 a1 a2 a3 => ks.1 (((a0, ()), (a1, ()), (a2, ()), (a3, ()), ()), ())) d.1.1.1 d.1.2.1.1 d.1.2.2.1.1 d.1.2.2.2.1.1 d.1.2.2.2.2.2.1.1 d.2.1.1
section
@[reducible] def zqlx : Ctx := cx []
def zqly {β : Type} (k1 : zqln β) : zqlo β := fun l person t i_ t36 x =>
 cond t36
 (k1 l x.2.2.1 t i_)
 (cond (decide (x.1 = (2 : Int)))
 (let t2 : Bool := (decide (person = x.2.2.1));
 cond t2
 (k1 l x.2.1 t i_)
 (k1 l person t i_))
 (k1 l person t i_))
def zqlz {β : Type} (k1 : zqln β) : zqlo β := zqly k1
theorem zqm0 (hΓ : GO zqlx) : OK zqlq (zqlr (zqlz)) :=
 pcE mixed zqlx tab_ok hΓ 1631 (pick1 []) (by kernel_rfl) CutsOk_nil (fun _ _ => by kernel_rfl)
def zqm1 (p1 : zqlp) {β : Type} (k1 : zqls β) : zqlt β := fun l person t i_ t19 x =>
 cond t19
 (k1 l person t i_)
 (let t2 : Bool := (decide (x.1 = (1 : Int)));
 cond t2
 (k1 l x.2.1 t i_)
 (cond (decide (x.1 = (2 : Int)))
 (let t3 : Bool := (decide (person = x.2.1));
 p1 (fun (l2 : List zqa) (person2 : Int) (t4 : Int) (i_2 : Int) =>
 k1 l2 person2 t4 i_2) l person t i_ t3 x)
 (p1 (fun (l2 : List zqa) (person2 : Int) (t3 : Int) (i_2 : Int) =>
 k1 l2 person2 t3 i_2) l person t i_ false x)))
def zqm2 (p1 : zqlp) {β : Type} (k1 : zqls β) : zqlt β := zqm1 p1 k1
theorem zqm3 (hΓ : GO zqlx) (p1 : zqlp) (hp1 : OK zqlq (zqlr p1)) : OK zqlv (zqlw (zqm2 p1)) :=
 pcE mixed zqlx tab_ok hΓ 101 (pick1 [(1631, zqlq.cut (zqlr p1))]) (by kernel_rfl) (CutsOk_cons (by kernel_rfl) rfl hp1 CutsOk_nil) (fun _ _ => by kernel_rfl)
def zqm4 (p2 : zqlu) {β : Type} (rec : zqlj β) (k1 : zqli β) : zqlj β := fun l person t i_ =>
 cond (decide (i_ < (List.length l : Int)))
 (cond (decide (0 ≤ i_) && decide (i_ < (List.length l : Int)))
 (let e : zqa := List.getD l (Int.toNat i_) ((0 : Int), ((0 : Int), ((0 : Int), ((0 : Int), (0 : Int)))));
 cond (decide (t < e.2.2.2.1))
 (p2 (fun (l2 : List zqa) (person2 : Int) (t2 : Int) (i_2 : Int) =>
 let i_3 : Int := (IntKind.i64.wrap (i_2 + (1 : Int)));
 rec l2 person2 t2 i_3) l person t i_ true e)
 (p2 (fun (l2 : List zqa) (person2 : Int) (t2 : Int) (i_2 : Int) =>
 let i_3 : Int := (IntKind.i64.wrap (i_2 + (1 : Int)));
 rec l2 person2 t2 i_3) l person t i_ (decide (e.2.2.2.2 ≤ t)) e))
 none)
 (k1 person)
def zqm5 (p2 : zqlu) {β : Type} (i : Nat) (k1 : zqli β) := lp4 (fun r => zqm4 p2 r k1) none i
theorem zqm6 (hΓ : GO zqlx) (p2 : zqlu) (hp2 : OK zqlv (zqlw p2)) (i : Nat) : OK zqll (zqlm (zqm5 p2 i)) :=
 pcL mixed zqlx tab_ok hΓ (G := fun i => @fun β d ks => zqlm (zqm5 p2 i) d ks) (pick1 [(101, zqlv.cut (zqlw p2))]) (by kernel_rfl) rfl (by kernel_rfl) (CutsOk_cons (by kernel_rfl) rfl hp2 CutsOk_nil) (fun _ _ => rfl) (fun _ _ _ _ => by kernel_rfl) i
def zqm7 (p3 : zqlk) : zqlg := fun l person t k =>
 p3 (fun (person2 : Int) =>
 k person2) l person t (0 : Int)
theorem zqm8 (hΓ : GO zqlx) (p3 : zqlk) (hp3 : OK zqll (zqlm p3)) : SpecOk Tryz.prog 124 (zqlh (zqm7 p3)) :=
 pcS mixed zqlx tab_ok hΓ (pick1 [(26, zqll.cut (zqlm p3))]) [.tmp 6] Tryz.func124 (by kernel_rfl) (by kernel_rfl) (by kernel_rfl) (by kernel_rfl) (CutsOk_cons (by kernel_rfl) rfl hp3 CutsOk_nil) (fun _ _ => by kernel_rfl)
end
theorem zqm9Γ : GO (zqlx) := ΓOk_nil
def zqma : zqlp := zqlz
theorem zqmb : OK zqlq (zqlr zqma) := zqm0 zqm9Γ
def zqmc : zqlu := zqm2 zqma
theorem zqmd : OK zqlv (zqlw zqmc) := zqm3 zqm9Γ zqma zqmb
def zqme (m : Nat) : zqlk := zqm5 zqmc m
theorem zqmf {β : Type} (i : Nat) (k1) : zqme (β := β) (i + 1) k1 = zqm4 zqmc (zqme i k1) k1 := rfl
def zqmg : zqlk := zqme fuel
theorem zqmh : OK zqll (zqlm zqmg) := zqm6 zqm9Γ zqmc zqmd fuel
def zqmi : zqlg := zqm7 zqmg
theorem zqmj : SpecOk Tryz.prog 124 (zqlh zqmi) := zqm8 zqm9Γ zqmg zqmh
abbrev zqmk := {β : Type} → zqe → (Bool → Option β) → Option β
def zqml (c : zqmk) : Spec :=
 ⟨[b48y], [], [b25y], [], fun x k => c x.1.1.1 (fun r0 => k (((r0, ()), ()), ()))⟩
abbrev zqmm (β : Type) := Bool → Option β
abbrev zqmn (β : Type) := Bool → Int → zqe → Option β
abbrev zqmo := {β : Type} → zqmm β → zqmn β
noncomputable def zqmp : Pc := ⟨28, 0, codeAt 58 (bodyOf Tryz.f127), ⟨0, [1, 3, 4], [b23y, b25y, b21y], [b52y]⟩, [(.exit 0, ⟨0, [3], [b25y], []⟩)]⟩
@[reducible] def zqmq (p : zqmo) : zqmp.G := fun d ks => p (fun a0 => ks.1 (((a0, ()), ()), ())) d.1.2.1.1 d.1.2.2.1.1 d.2.1.1
section
@[reducible] def zqmr : Ctx := cx []
def zqms {β : Type} (rec : zqmn β) (k1 : zqmm β) : zqmn β := fun ok i_ z =>
 cond (decide (i_ < (List.length z.2.2 : Int)))
 (cond ok
 (cond (decide (0 ≤ i_) && decide (i_ < (List.length z.2.2 : Int)))
 (let e : t5y := List.getD z.2.2 (Int.toNat i_) ((0 : Int), ((0 : Int), zqy));
 cond (!decide ((60 : Int) = 0))
 (let ok2 : Bool := (decide ((Int.tmod e.2.2.2.2.2.2 (60 : Int)) = (0 : Int)));
 let i_2 : Int := (IntKind.i64.wrap (i_ + (1 : Int)));
 rec ok2 i_2 z)
 none)
 none)
 (let i_2 : Int := (IntKind.i64.wrap (i_ + (1 : Int)));
 rec false i_2 z))
 (k1 ok)
def zqmt {β : Type} (i : Nat) (k1 : zqmm β) := lp3 (fun r => zqms r k1) none i
theorem zqmu (hΓ : GO zqmr) (i : Nat) : OK zqmp (zqmq (zqmt i)) :=
 pcL mixed zqmr tab_ok hΓ (G := fun i => @fun β d ks => zqmq (zqmt i) d ks) (pick1 []) (by kernel_rfl) rfl (by kernel_rfl) CutsOk_nil (fun _ _ => rfl) (fun _ _ _ _ => by kernel_rfl) i
def zqmv (p1 : zqmo) : zqmk := fun z k =>
 cond (!decide ((60 : Int) = 0))
 (let ok : Bool := (decide ((Int.tmod z.2.1 (60 : Int)) = (0 : Int)));
 p1 (fun (ok2 : Bool) =>
 k ok2) ok (0 : Int) z)
 none
theorem zqmw (hΓ : GO zqmr) (p1 : zqmo) (hp1 : OK zqmp (zqmq p1)) : SpecOk Tryz.prog 127 (zqml (zqmv p1)) :=
 pcS mixed zqmr tab_ok hΓ (pick1 [(58, zqmp.cut (zqmq p1))]) [.tmp 2] Tryz.func127 (by kernel_rfl) (by kernel_rfl) (by kernel_rfl) (by kernel_rfl) (CutsOk_cons (by kernel_rfl) rfl hp1 CutsOk_nil) (fun _ _ => by kernel_rfl)
end
theorem zqmxΓ : GO (zqmr) := ΓOk_nil
def zqmy (m : Nat) : zqmo := zqmt m
theorem zqmz {β : Type} (i : Nat) (k1) : zqmy (β := β) (i + 1) k1 = zqms (zqmy i k1) k1 := rfl
def zqn0 : zqmo := zqmy fuel
theorem zqn1 : OK zqmp (zqmq zqn0) := zqmu zqmxΓ fuel
def zqn2 : zqmk := zqmv zqn0
theorem zqn3 : SpecOk Tryz.prog 127 (zqml zqn2) := zqmw zqmxΓ zqn0 zqn1
abbrev zqn4 := {β : Type} → Int → Int → Int → (Bool → Option β) → Option β
def zqn5 (c : zqn4) : Spec :=
 ⟨[b21y, b21y, b21y], [], [b25y], [], fun x k => c x.1.1.1 x.1.2.1.1 x.1.2.2.1.1 (fun r0 => k (((r0, ()), ()), ()))⟩
section
@[reducible] def zqn6 : Ctx := cx []
def zqn7 : zqn4 := fun n lo hi k =>
 cond (decide (lo ≤ n))
 (k (decide (n ≤ hi)))
 (k false)
theorem zqn8 (hΓ : GO zqn6) : SpecOk Tryz.prog 128 (zqn5 (zqn7)) :=
 pcS mixed zqn6 tab_ok hΓ (pick1 []) [.tmp 6] Tryz.func128 (by kernel_rfl) (by kernel_rfl) (by kernel_rfl) (by kernel_rfl) CutsOk_nil (fun _ _ => by kernel_rfl)
end
theorem zqn9Γ : GO (zqn6) := ΓOk_nil
def zqna : zqn4 := zqn7
theorem zqnb : SpecOk Tryz.prog 128 (zqn5 zqna) := zqn8 zqn9Γ
abbrev zqnc := {β : Type} → Int → (Bool → Option β) → Option β
def zqnd (c : zqnc) : Spec :=
 ⟨[b21y], [], [b25y], [], fun x k => c x.1.1.1 (fun r0 => k (((r0, ()), ()), ()))⟩
section
variable (zqy6 : zqn4)
@[reducible] def zqne : Ctx := cx [(128, .spec (zqn5 zqy6))]
def zqnf : zqnc := fun n k =>
 zqy6 n (0 : Int) (604800 : Int) (fun (rin : Bool) =>
 cond rin
 (cond (!decide ((3600 : Int) = 0))
 (let t : Bool := (decide ((Int.tmod n (3600 : Int)) = (0 : Int)));
 k t)
 none)
 (k false))
theorem zqng (hΓ : GO (zqne zqy6)) : SpecOk Tryz.prog 129 (zqnd (zqnf zqy6)) :=
 pcS mixed (zqne zqy6) tab_ok hΓ (pick1 []) [.tmp 2] Tryz.func129 (by kernel_rfl) (by kernel_rfl) (by kernel_rfl) (by kernel_rfl) CutsOk_nil (fun _ _ => by kernel_rfl)
end
theorem zqnhΓ : GO (zqne zqna) := (ΓOk_cons zqnb ΓOk_nil)
def zqni : zqnc := zqnf zqna
theorem zqnj : SpecOk Tryz.prog 129 (zqnd zqni) := zqng zqna zqnhΓ
abbrev zqnk := {β : Type} → Int → Int → (t0y → Option β) → Option β
def zqnl (c : zqnk) : Spec :=
 ⟨[b21y, b21y], [], [b35y], [], fun x k => c x.1.1.1 x.1.2.1.1 (fun r0 => k (((r0, ()), ()), ()))⟩
section
@[reducible] def zqnm : Ctx := cx []
def zqnn : zqnk := fun t offset k =>
 let n : Int := (IntKind.i64.wrap ((IntKind.i64.wrap (t + offset)) + (864000 : Int)));
 cond (!decide ((86400 : Int) = 0))
 (cond (!decide ((86400 : Int) = 0))
 (k ((IntKind.i64.wrap ((IntKind.i64.wrap (Int.tdiv n (86400 : Int))) - (10 : Int))), (Int.tmod n (86400 : Int))))
 none)
 none
theorem zqno (hΓ : GO zqnm) : SpecOk Tryz.prog 134 (zqnl (zqnn)) :=
 pcS mixed zqnm tab_ok hΓ (pick1 []) [.cell 4 95] Tryz.func134 (by kernel_rfl) (by kernel_rfl) (by kernel_rfl) (by kernel_rfl) CutsOk_nil (fun _ _ => by kernel_rfl)
end
theorem zqnpΓ : GO (zqnm) := ΓOk_nil
def zqnq : zqnk := zqnn
theorem zqnr : SpecOk Tryz.prog 134 (zqnl zqnq) := zqno zqnpΓ
abbrev zqns := {β : Type} → Int → (Int → Option β) → Option β
def zqnt (c : zqns) : Spec :=
 ⟨[b21y], [], [b21y], [], fun x k => c x.1.1.1 (fun r0 => k (((r0, ()), ()), ()))⟩
section
@[reducible] def zqnu : Ctx := cx []
def zqnv : zqns := fun day k =>
 cond (!decide ((7 : Int) = 0))
 (cond (!decide ((7 : Int) = 0))
 (let t : Int := (Int.tmod (IntKind.i64.wrap ((Int.tmod day (7 : Int)) + (10 : Int))) (7 : Int));
 k t)
 none)
 none
theorem zqnw (hΓ : GO zqnu) : SpecOk Tryz.prog 135 (zqnt (zqnv)) :=
 pcS mixed zqnu tab_ok hΓ (pick1 []) [.tmp 2] Tryz.func135 (by kernel_rfl) (by kernel_rfl) (by kernel_rfl) (by kernel_rfl) CutsOk_nil (fun _ _ => by kernel_rfl)
end
theorem zqnxΓ : GO (zqnu) := ΓOk_nil
def zqny : zqns := zqnv
theorem zqnz : SpecOk Tryz.prog 135 (zqnt zqny) := zqnw zqnxΓ
abbrev zqo0 := {β : Type} → zqc → Int → Int → (Bool → Option β) → Option β
def zqo1 (c : zqo0) : Spec :=
 ⟨[(true, [.data zqd]), b21y, b21y], [], [b25y], [], fun x k => c x.1.1.1 x.1.2.1.1 x.1.2.2.1.1 (fun r0 => k (((r0, ()), ()), ()))⟩
abbrev zqo2 (β : Type) := Bool → Option β
abbrev zqo3 (β : Type) := Unit → Option β
abbrev zqo4 (β : Type) := Int → Int → Int → zqc → Option β
abbrev zqo5 := {β : Type} → zqo2 β → zqo3 β → zqo4 β
noncomputable def zqo6 : Pc := ⟨42, 0, codeAt 26 (bodyOf Tryz.f137), ⟨0, [1, 2, 3, 7], [b21y, b21y, b23y, b21y], [b65y]⟩, [(.ret, ⟨0, [6], [b25y], []⟩), (.exit 0, ⟨0, [], [], []⟩)]⟩
@[reducible] def zqo7 (p : zqo5) : zqo6.G := fun d ks => p (fun a0 => ks.1 (((a0, ()), ()), ())) (fun _ => ks.2.1 ((), ())) d.1.1.1 d.1.2.1.1 d.1.2.2.2.1.1 d.2.1.1
section
@[reducible] def zqo8 : Ctx := cx []
def zqo9 {β : Type} (rec : zqo4 β) (k1 : zqo2 β) (k2 : zqo3 β) : zqo4 β := fun person t i_ s =>
 cond (decide (i_ < (List.length s.2.2 : Int)))
 (cond (decide (0 ≤ i_) && decide (i_ < (List.length s.2.2 : Int)))
 (let e : zqa := List.getD s.2.2 (Int.toNat i_) ((0 : Int), ((0 : Int), ((0 : Int), ((0 : Int), (0 : Int)))));
 cond (decide (e.1 = (0 : Int)))
 (cond (decide (e.2.1 = person))
 (cond (decide (e.2.2.2.1 ≤ t))
 (cond (decide (t < e.2.2.2.2))
 (k1 true)
 (let i_2 : Int := (IntKind.i64.wrap (i_ + (1 : Int)));
 rec person t i_2 s))
 (let i_2 : Int := (IntKind.i64.wrap (i_ + (1 : Int)));
 rec person t i_2 s))
 (let i_2 : Int := (IntKind.i64.wrap (i_ + (1 : Int)));
 rec person t i_2 s))
 (let i_2 : Int := (IntKind.i64.wrap (i_ + (1 : Int)));
 rec person t i_2 s))
 none)
 (k2 ())
def zqoa {β : Type} (i : Nat) (k1 : zqo2 β) (k2 : zqo3 β) := lp4 (fun r => zqo9 r k1 k2) none i
theorem zqob (hΓ : GO zqo8) (i : Nat) : OK zqo6 (zqo7 (zqoa i)) :=
 pcL mixed zqo8 tab_ok hΓ (G := fun i => @fun β d ks => zqo7 (zqoa i) d ks) (pick1 []) (by kernel_rfl) rfl (by kernel_rfl) CutsOk_nil (fun _ _ => rfl) (fun _ _ _ _ => by kernel_rfl) i
def zqoc (p1 : zqo5) : zqo0 := fun s person t k =>
 p1 (fun (t6 : Bool) =>
 k t6) (fun (_ : Unit) =>
 k false) person t (0 : Int) s
theorem zqod (hΓ : GO zqo8) (p1 : zqo5) (hp1 : OK zqo6 (zqo7 p1)) : SpecOk Tryz.prog 137 (zqo1 (zqoc p1)) :=
 pcS mixed zqo8 tab_ok hΓ (pick1 [(26, zqo6.cut (zqo7 p1))]) [.tmp 6] Tryz.func137 (by kernel_rfl) (by kernel_rfl) (by kernel_rfl) (by kernel_rfl) (CutsOk_cons (by kernel_rfl) rfl hp1 CutsOk_nil) (fun _ _ => by kernel_rfl)
end
theorem zqoeΓ : GO (zqo8) := ΓOk_nil
def zqof (m : Nat) : zqo5 := zqoa m
theorem zqog {β : Type} (i : Nat) (k1 k2) : zqof (β := β) (i + 1) k1 k2 = zqo9 (zqof i k1 k2) k1 k2 := rfl
def zqoh : zqo5 := zqof fuel
theorem zqoi : OK zqo6 (zqo7 zqoh) := zqob zqoeΓ fuel
def zqoj : zqo0 := zqoc zqoh
theorem zqok : SpecOk Tryz.prog 137 (zqo1 zqoj) := zqod zqoeΓ zqoh zqoi
abbrev zqol := {β : Type} → Int → (Int → Option β) → Option β
def zqom (c : zqol) : Spec :=
 ⟨[b21y], [], [b21y], [], fun x k => c x.1.1.1 (fun r0 => k (((r0, ()), ()), ()))⟩
section
@[reducible] def zqon : Ctx := cx []
def zqoo : zqol := fun y k =>
 cond (!decide ((4 : Int) = 0))
 (cond (!decide ((100 : Int) = 0))
 (cond (!decide ((400 : Int) = 0))
 (let t : Int := (IntKind.i64.wrap ((IntKind.i64.wrap ((IntKind.i64.wrap ((IntKind.i64.wrap ((IntKind.i64.wrap (y - (1970 : Int))) * (365 : Int))) + (IntKind.i64.wrap (Int.tdiv (IntKind.i64.wrap (y - (1969 : Int))) (4 : Int))))) - (IntKind.i64.wrap (Int.tdiv (IntKind.i64.wrap (y - (1901 : Int))) (100 : Int))))) + (IntKind.i64.wrap (Int.tdiv (IntKind.i64.wrap (y - (1601 : Int))) (400 : Int)))));
 k t)
 none)
 none)
 none
theorem zqop (hΓ : GO zqon) : SpecOk Tryz.prog 140 (zqom (zqoo)) :=
 pcS mixed zqon tab_ok hΓ (pick1 []) [.tmp 2] Tryz.func140 (by kernel_rfl) (by kernel_rfl) (by kernel_rfl) (by kernel_rfl) CutsOk_nil (fun _ _ => by kernel_rfl)
end
theorem zqoqΓ : GO (zqon) := ΓOk_nil
def zqor : zqol := zqoo
theorem zqos : SpecOk Tryz.prog 140 (zqom zqor) := zqop zqoqΓ
abbrev zqot := {β : Type} → Int → Int → Int → (Bool → Option β) → Option β
def zqou (c : zqot) : Spec :=
 ⟨[b21y, b21y, b21y], [], [b25y], [], fun x k => c x.1.1.1 x.1.2.1.1 x.1.2.2.1.1 (fun r0 => k (((r0, ()), ()), ()))⟩
section
@[reducible] def zqov : Ctx := cx []
def zqow : zqot := fun n lo hi k =>
 cond (decide (lo ≤ n))
 (k (decide (n ≤ hi)))
 (k false)
theorem zqox (hΓ : GO zqov) : SpecOk Tryz.prog 141 (zqou (zqow)) :=
 pcS mixed zqov tab_ok hΓ (pick1 []) [.tmp 6] Tryz.func141 (by kernel_rfl) (by kernel_rfl) (by kernel_rfl) (by kernel_rfl) CutsOk_nil (fun _ _ => by kernel_rfl)
end
theorem zqoyΓ : GO (zqov) := ΓOk_nil
def zqoz : zqot := zqow
theorem zqp0 : SpecOk Tryz.prog 141 (zqou zqoz) := zqox zqoyΓ
abbrev zqp1 := {β : Type} → zqe → t8y → Int → (Int → Option β) → Option β
def zqp2 (c : zqp1) : Spec :=
 ⟨[b48y, b26y, b21y], [], [b21y], [], fun x k => c x.1.1.1 x.1.2.1.1 x.1.2.2.1.1 (fun r0 => k (((r0, ()), ()), ()))⟩
abbrev zqp3 (β : Type) := Int → Option β
abbrev zqp4 (β : Type) := t8y → Int → Int → Int → Option β
abbrev zqp5 := {β : Type} → zqp3 β → zqp4 β
noncomputable def zqp6 : Pc := ⟨32, 0, codeAt 58 (bodyOf Tryz.f142), ⟨0, [1, 2, 7, 8], [b26y, b21y, b21y, b21y], []⟩, [(.exit 0, ⟨0, [7], [b21y], []⟩)]⟩
@[reducible] def zqp7 (p : zqp5) : zqp6.G := fun d ks => p (fun a0 => ks.1 (((a0, ()), ()), ())) d.1.1.1 d.1.2.1.1 d.1.2.2.1.1 d.1.2.2.2.1.1
section
@[reducible] def zqp8 : Ctx := cx []
def zqp9 {β : Type} (rec : zqp4 β) (k1 : zqp3 β) : zqp4 β := fun l t n i_ =>
 cond (decide (i_ < (List.length l : Int)))
 (cond (decide (0 ≤ i_) && decide (i_ < (List.length l : Int)))
 (let e : t0y := List.getD l (Int.toNat i_) ((0 : Int), (0 : Int));
 cond (decide (e.1 ≤ t))
 (cond (decide (0 ≤ i_) && decide (i_ < (List.length l : Int)))
 (let e2 : t0y := List.getD l (Int.toNat i_) ((0 : Int), (0 : Int));
 let i_2 : Int := (IntKind.i64.wrap (i_ + (1 : Int)));
 rec l t e2.2 i_2)
 none)
 (k1 n))
 none)
 (k1 n)
def zqpa {β : Type} (i : Nat) (k1 : zqp3 β) := lp4 (fun r => zqp9 r k1) none i
theorem zqpb (hΓ : GO zqp8) (i : Nat) : OK zqp6 (zqp7 (zqpa i)) :=
 pcL mixed zqp8 tab_ok hΓ (G := fun i => @fun β d ks => zqp7 (zqpa i) d ks) (pick1 []) (by kernel_rfl) rfl (by kernel_rfl) CutsOk_nil (fun _ _ => rfl) (fun _ _ _ _ => by kernel_rfl) i
def zqpc (p1 : zqp5) : zqp1 := fun z l t k =>
 p1 (fun (n : Int) =>
 k n) l t z.2.1 (0 : Int)
theorem zqpd (hΓ : GO zqp8) (p1 : zqp5) (hp1 : OK zqp6 (zqp7 p1)) : SpecOk Tryz.prog 142 (zqp2 (zqpc p1)) :=
 pcS mixed zqp8 tab_ok hΓ (pick1 [(58, zqp6.cut (zqp7 p1))]) [.tmp 6] Tryz.func142 (by kernel_rfl) (by kernel_rfl) (by kernel_rfl) (by kernel_rfl) (CutsOk_cons (by kernel_rfl) rfl hp1 CutsOk_nil) (fun _ _ => by kernel_rfl)
end
theorem zqpeΓ : GO (zqp8) := ΓOk_nil
def zqpf (m : Nat) : zqp5 := zqpa m
theorem zqpg {β : Type} (i : Nat) (k1) : zqpf (β := β) (i + 1) k1 = zqp9 (zqpf i k1) k1 := rfl
def zqph : zqp5 := zqpf fuel
theorem zqpi : OK zqp6 (zqp7 zqph) := zqpb zqpeΓ fuel
def zqpj : zqp1 := zqpc zqph
theorem zqpk : SpecOk Tryz.prog 142 (zqp2 zqpj) := zqpd zqpeΓ zqph zqpi
abbrev zqpl := {β : Type} → Int → (Bool → Option β) → Option β
def zqpm (c : zqpl) : Spec :=
 ⟨[(false, [.data (.int .u8)])], [], [b25y], [], fun x k => c x.1.1.1 (fun r0 => k (((r0, ()), ()), ()))⟩
section
@[reducible] def zqpn : Ctx := cx []
def zqpo : zqpl := fun b k =>
 cond (decide ((48 : Int) ≤ b))
 (let t : Bool := (decide (b ≤ (57 : Int)));
 k t)
 (k false)
theorem zqpp (hΓ : GO zqpn) : SpecOk Tryz.prog 144 (zqpm (zqpo)) :=
 pcS mixed zqpn tab_ok hΓ (pick1 []) [.tmp 2] Tryz.func144 (by kernel_rfl) (by kernel_rfl) (by kernel_rfl) (by kernel_rfl) CutsOk_nil (fun _ _ => by kernel_rfl)
end
theorem zqpqΓ : GO (zqpn) := ΓOk_nil
def zqpr : zqpl := zqpo
theorem zqps : SpecOk Tryz.prog 144 (zqpm zqpr) := zqpp zqpqΓ
abbrev zqpt := {β : Type} → t5y → (Bool → Option β) → Option β
def zqpu (c : zqpt) : Spec :=
 ⟨[(true, [.data (.prod (.int .i64) (.prod (.int .i64) zqb))])], [], [b25y], [], fun x k => c x.1.1.1 (fun r0 => k (((r0, ()), ()), ()))⟩
section
variable (zqy7 : zqot)
@[reducible] def zqpv : Ctx := cx [(141, .spec (zqou zqy7))]
def zqpw : zqpt := fun r_ k =>
 zqy7 r_.1 (1970 : Int) (2240 : Int) (fun (rin : Bool) =>
 cond rin
 (zqy7 r_.2.1 r_.1 (2240 : Int) (fun (rin2 : Bool) =>
 cond rin2
 (zqy7 r_.2.2.1 (1 : Int) (12 : Int) (fun (rin3 : Bool) =>
 cond rin3
 (zqy7 r_.2.2.2.1 (1 : Int) (5 : Int) (fun (rin4 : Bool) =>
 cond rin4
 (zqy7 r_.2.2.2.2.1 (0 : Int) (6 : Int) (fun (rin5 : Bool) =>
 cond rin5
 (zqy7 r_.2.2.2.2.2.1 (0 : Int) (86399 : Int) (fun (rin6 : Bool) =>
 cond rin6
 (zqy7 r_.2.2.2.2.2.2 (-64800 : Int) (64800 : Int) (fun (rin7 : Bool) =>
 k rin7))
 (k false)))
 (k false)))
 (k false)))
 (k false)))
 (k false)))
 (k false))
theorem zqpx (hΓ : GO (zqpv zqy7)) : SpecOk Tryz.prog 145 (zqpu (zqpw zqy7)) :=
 pcS mixed (zqpv zqy7) tab_ok hΓ (pick1 []) [.tmp 2] Tryz.func145 (by kernel_rfl) (by kernel_rfl) (by kernel_rfl) (by kernel_rfl) CutsOk_nil (fun _ _ => by kernel_rfl)
end
theorem zqpyΓ : GO (zqpv zqoz) := (ΓOk_cons zqp0 ΓOk_nil)
def zqpz : zqpt := zqpw zqoz
theorem zqq0 : SpecOk Tryz.prog 145 (zqpu zqpz) := zqpx zqoz zqpyΓ
abbrev zqq1 := {β : Type} → Int → (Bool → Option β) → Option β
def zqq2 (c : zqq1) : Spec :=
 ⟨[b21y], [], [b25y], [], fun x k => c x.1.1.1 (fun r0 => k (((r0, ()), ()), ()))⟩
section
@[reducible] def zqq3 : Ctx := cx []
def zqq4 : zqq1 := fun year k =>
 cond (!decide ((4 : Int) = 0))
 (cond (decide ((Int.tmod year (4 : Int)) = (0 : Int)))
 (cond (!decide ((100 : Int) = 0))
 (cond (!decide ((Int.tmod year (100 : Int)) = (0 : Int)))
 (k true)
 (cond (!decide ((400 : Int) = 0))
 (let t : Bool := (decide ((Int.tmod year (400 : Int)) = (0 : Int)));
 k t)
 none))
 none)
 (k false))
 none
theorem zqq5 (hΓ : GO zqq3) : SpecOk Tryz.prog 156 (zqq2 (zqq4)) :=
 pcS mixed zqq3 tab_ok hΓ (pick1 []) [.tmp 2] Tryz.func156 (by kernel_rfl) (by kernel_rfl) (by kernel_rfl) (by kernel_rfl) CutsOk_nil (fun _ _ => by kernel_rfl)
end
theorem zqq6Γ : GO (zqq3) := ΓOk_nil
def zqq7 : zqq1 := zqq4
theorem zqq8 : SpecOk Tryz.prog 156 (zqq2 zqq7) := zqq5 zqq6Γ
abbrev zqq9 := {β : Type} → Int → (Bool → Option β) → Option β
def zqqa (c : zqq9) : Spec :=
 ⟨[b21y], [], [b25y], [], fun x k => c x.1.1.1 (fun r0 => k (((r0, ()), ()), ()))⟩
section
variable (zqy7 : zqot)
@[reducible] def zqqb : Ctx := cx [(141, .spec (zqou zqy7))]
def zqqc : zqq9 := fun day k =>
 zqy7 day (-2 : Int) (99422 : Int) (fun (rin : Bool) =>
 k rin)
theorem zqqd (hΓ : GO (zqqb zqy7)) : SpecOk Tryz.prog 157 (zqqa (zqqc zqy7)) :=
 pcS mixed (zqqb zqy7) tab_ok hΓ (pick1 []) [.tmp 2] Tryz.func157 (by kernel_rfl) (by kernel_rfl) (by kernel_rfl) (by kernel_rfl) CutsOk_nil (fun _ _ => by kernel_rfl)
end
theorem zqqeΓ : GO (zqqb zqoz) := (ΓOk_cons zqp0 ΓOk_nil)
def zqqf : zqq9 := zqqc zqoz
theorem zqqg : SpecOk Tryz.prog 157 (zqqa zqqf) := zqqd zqoz zqqeΓ
abbrev zqqh := {β : Type} → t1y → (zqi → t1y → Option β) → Option β
def zqqi (c : zqqh) : Spec :=
 ⟨[b23y], [b22y], [b36y], [b22y], fun x k => c x.2.1.1 (fun r0 r1 => k (((r0, ()), ()), ((r1, ()), ())))⟩
abbrev zqqj (β : Type) := t1y → t14y → t13y → t10y → t9y → t14y → t13y → t10y → t9y → Option β
abbrev zqqk (β : Type) := Int → t1y → t20y → t14y → t13y → t10y → t9y → t14y → t13y → t10y → t9y → Option β
abbrev zqql := {β : Type} → zqqj β → zqqk β
noncomputable def zqqm : Pc := ⟨108, 1, codeAt 122 (bodyOf Tryz.f8), ⟨1, [0, 2, 3, 4, 5], [b23y, b27y, b31y, (false, [.rowh 3]), b21y], [b22y, b57y, b55y, .row 9 .str, .row 87 zqf, .row 91 zqh, .row 212 zq7, .row 101 zqd, .row 87 zqf, .row 91 zqh, .row 212 zq7, .row 101 zqd]⟩, [(.exit 0, ⟨1, [0, 2, 3], [b23y, b27y, b31y], [b22y, b70y, b68y, .row 87 zqf, .row 91 zqh, .row 212 zq7, .row 101 zqd, .row 87 zqf, .row 91 zqh, .row 212 zq7, .row 101 zqd]⟩)]⟩
@[reducible] def zqqn (p : zqql) : zqqm.G := fun d ks => p (fun a0 a1 a2 a3 a4 a5 a6 a7 a8 => ks.1 (((), (), (), ()), ((a0, ()), (), (), a1, a2, a3, a4, a5, a6, a7, a8, ()))) d.1.2.2.2.2.1.1 d.2.1.1 d.2.2.2.2.1 d.2.2.2.2.2.1 d.2.2.2.2.2.2.1 d.2.2.2.2.2.2.2.1 d.2.2.2.2.2.2.2.2.1 d.2.2.2.2.2.2.2.2.2.1 d.2.2.2.2.2.2.2.2.2.2.1 d.2.2.2.2.2.2.2.2.2.2.2.1 d.2.2.2.2.2.2.2.2.2.2.2.2.1
abbrev zqqo (β : Type) := t1y → t14y → t13y → t10y → t9y → t14y → t13y → t10y → t9y → Option β
abbrev zqqp (β : Type) := Int → t1y → t14y → t13y → t10y → t9y → t14y → t13y → t10y → t9y → Option β
abbrev zqqq := {β : Type} → zqqo β → zqqp β
noncomputable def zqqr : Pc := ⟨108, 1, codeAt 250 (bodyOf Tryz.f8), ⟨1, [0, 2, 3, 7], [b23y, b27y, b31y, b21y], [b22y, b70y, b68y, .row 87 zqf, .row 91 zqh, .row 212 zq7, .row 101 zqd, .row 87 zqf, .row 91 zqh, .row 212 zq7, .row 101 zqd]⟩, [(.exit 2, ⟨1, [2, 3], [b27y, b31y], [b22y, b70y, b68y, .row 87 zqf, .row 91 zqh, .row 212 zq7, .row 101 zqd, .row 87 zqf, .row 91 zqh, .row 212 zq7, .row 101 zqd]⟩)]⟩
@[reducible] def zqqs (p : zqqq) : zqqr.G := fun d ks => p (fun a0 a1 a2 a3 a4 a5 a6 a7 a8 => ks.1 (((), (), ()), ((a0, ()), (), (), a1, a2, a3, a4, a5, a6, a7, a8, ()))) d.1.2.2.2.1.1 d.2.1.1 d.2.2.2.2.1 d.2.2.2.2.2.1 d.2.2.2.2.2.2.1 d.2.2.2.2.2.2.2.1 d.2.2.2.2.2.2.2.2.1 d.2.2.2.2.2.2.2.2.2.1 d.2.2.2.2.2.2.2.2.2.2.1 d.2.2.2.2.2.2.2.2.2.2.2.1
abbrev zqqt (β : Type) := Int → t1y → t4y → Int → Int → Int → Int → Int → Int → Int → t14y → t13y → t10y → t9y → t14y → t13y → t10y → t9y → t6y → t8y → Option β
abbrev zqqu (β : Type) := Int → Int → t1y → t4y → Int → Int → Int → Int → Int → Int → Int → t14y → t13y → t10y → t9y → t14y → t13y → t10y → t9y → t6y → t8y → Option β
abbrev zqqv := {β : Type} → zqqt β → zqqu β
noncomputable def zqqw : Pc := ⟨108, 1, codeAt 202 (loopBody zqqr.c), ⟨1, [0, 2, 3, 7, 8, 9], [b23y, b27y, b31y, b21y, b38y, b21y], [b22y, b57y, b55y, b56y, .row 87 zqf, .row 91 zqh, .row 212 zq7, .row 101 zqd, .row 87 zqf, .row 91 zqh, .row 212 zq7, .row 101 zqd, .row 3 (.int .i64), .row 93 (.prod (.int .i64) (.int .i64))]⟩, [(.exit 4, ⟨1, [0, 2, 3, 7, 8], [b23y, b27y, b31y, b21y, b38y], [b22y, b57y, b55y, b56y, .row 87 zqf, .row 91 zqh, .row 212 zq7, .row 101 zqd, .row 87 zqf, .row 91 zqh, .row 212 zq7, .row 101 zqd, .row 3 (.int .i64), .row 93 (.prod (.int .i64) (.int .i64))]⟩)]⟩
@[reducible] def zqqx (p : zqqv) : zqqw.G := fun d ks => p (fun a0 a1 a2 a3 a4 a5 a6 a7 a8 a9 a10 a11 a12 a13 a14 a15 a16 a17 a18 a19 => ks.1 (((), (), (), (a0, ()), (), ()), ((a1, ()), (), (), (a2, a3, a4, a5, a6, a7, a8, a9, ()), a10, a11, a12, a13, a14, a15, a16, a17, a18, a19, ()))) d.1.2.2.2.1.1 d.1.2.2.2.2.2.1.1 d.2.1.1 d.2.2.2.2.1.1 d.2.2.2.2.1.2.1 d.2.2.2.2.1.2.2.1 d.2.2.2.2.1.2.2.2.1 d.2.2.2.2.1.2.2.2.2.1 d.2.2.2.2.1.2.2.2.2.2.1 d.2.2.2.2.1.2.2.2.2.2.2.1 d.2.2.2.2.1.2.2.2.2.2.2.2.1 d.2.2.2.2.2.1 d.2.2.2.2.2.2.1 d.2.2.2.2.2.2.2.1 d.2.2.2.2.2.2.2.2.1 d.2.2.2.2.2.2.2.2.2.1 d.2.2.2.2.2.2.2.2.2.2.1 d.2.2.2.2.2.2.2.2.2.2.2.1 d.2.2.2.2.2.2.2.2.2.2.2.2.1 d.2.2.2.2.2.2.2.2.2.2.2.2.2.1 d.2.2.2.2.2.2.2.2.2.2.2.2.2.2.1
abbrev zqqy (β : Type) := Int → t1y → t4y → t14y → t13y → t10y → t9y → t14y → t13y → t10y → t9y → (List zq8) → (List zqa) → Option β
abbrev zqqz (β : Type) := Int → Int → t1y → t4y → t14y → t13y → t10y → t9y → t14y → t13y → t10y → t9y → (List zq8) → (List zqa) → Option β
abbrev zqr0 := {β : Type} → zqqy β → zqqz β
noncomputable def zqr1 : Pc := ⟨108, 1, codeAt 826 (loopBody zqqr.c), ⟨1, [0, 2, 3, 7, 10, 11], [b23y, b27y, b31y, b21y, b38y, b21y], [b22y, b57y, b55y, .cells 101 [.data .str, .rowh 12, .rowh 13], .row 87 zqf, .row 91 zqh, .row 212 zq7, .row 101 zqd, .row 87 zqf, .row 91 zqh, .row 212 zq7, .row 101 zqd, .row 97 zq9, .row 103 zqb]⟩, [(.exit 6, ⟨1, [0, 2, 3, 7, 10], [b23y, b27y, b31y, b21y, b38y], [b22y, b57y, b55y, .cells 101 [.data .str, .rowh 12, .rowh 13], .row 87 zqf, .row 91 zqh, .row 212 zq7, .row 101 zqd, .row 87 zqf, .row 91 zqh, .row 212 zq7, .row 101 zqd, .row 97 zq9, .row 103 zqb]⟩)]⟩
@[reducible] def zqr2 (p : zqr0) : zqr1.G := fun d ks => p (fun a0 a1 a2 a3 a4 a5 a6 a7 a8 a9 a10 a11 a12 => ks.1 (((), (), (), (a0, ()), (), ()), ((a1, ()), (), (), (a2, ()), a3, a4, a5, a6, a7, a8, a9, a10, a11, a12, ()))) d.1.2.2.2.1.1 d.1.2.2.2.2.2.1.1 d.2.1.1 d.2.2.2.2.1.1 d.2.2.2.2.2.1 d.2.2.2.2.2.2.1 d.2.2.2.2.2.2.2.1 d.2.2.2.2.2.2.2.2.1 d.2.2.2.2.2.2.2.2.2.1 d.2.2.2.2.2.2.2.2.2.2.1 d.2.2.2.2.2.2.2.2.2.2.2.1 d.2.2.2.2.2.2.2.2.2.2.2.2.1 d.2.2.2.2.2.2.2.2.2.2.2.2.2.1 d.2.2.2.2.2.2.2.2.2.2.2.2.2.2.1
section
variable (zqxr : zq1p) (zqxs : zq2i) (zqy8 : zq2q)
@[reducible] def zqr3 : Ctx := cx [(10, .spec (zq1q zqxr)), (19, .spec (zq2j zqxs)), (27, .spec (zq2r zqy8))]
def zqr4 {β : Type} (rec : zqqk β) (k1 : zqqj β) : zqqk β := fun i_ d names b4_ b5_ b6_ b7_ b8_ b9_ b10_ b11_ =>
 cond (decide (i_ < (4 : Int)))
 (cond (decide (0 ≤ i_) && decide (i_ < (List.length names : Int)))
 (zqxr (2 : Int) d (fun (rNext : Int) (mrNext : t1y) =>
 zqxr (4 : Int) mrNext (fun (rNext2 : Int) (mrNext2 : t1y) =>
 cond (decide (rNext2 = (0 : Int)))
 (let l : List Int := ([(0 : Int), (3600 : Int)] : List Int);
 zqxs l mrNext2 (fun (rOne : Int) (mrOne : t1y) =>
 let l2 : List Int := ([(7200 : Int), (86400 : Int), (604800 : Int)] : List Int);
 zqxs l2 mrOne (fun (rOne2 : Int) (mrOne2 : t1y) =>
 let l3 : List t0y := ([(rOne, rOne2)] : List t0y);
 let l4 : List zqg := ([((List.getD names (Int.toNat i_) ([] : List UInt8)), ((0 : Int), (l3, ((0 : Int), ((0 : Int), (decide (rNext = (0 : Int))))))))] : List zqg);
 cond (decide ((List.length b9_ + List.length l4) * 72 ≤ roomMax))
 (let l5 : List zqg := (b9_ ++ l4);
 let i_2 : Int := (IntKind.i64.wrap (i_ + (1 : Int)));
 rec i_2 mrOne2 names b4_ b5_ b6_ b7_ b8_ l5 b10_ b11_)
 none)))
 (let l : List zqg := ([((List.getD names (Int.toNat i_) ([] : List UInt8)), ((0 : Int), (([] : List t0y), ((0 : Int), ((0 : Int), (decide (rNext = (0 : Int))))))))] : List zqg);
 cond (decide ((List.length b9_ + List.length l) * 72 ≤ roomMax))
 (let l2 : List zqg := (b9_ ++ l);
 let i_2 : Int := (IntKind.i64.wrap (i_ + (1 : Int)));
 rec i_2 mrNext2 names b4_ b5_ b6_ b7_ b8_ l2 b10_ b11_)
 none))))
 none)
 (k1 d b4_ b5_ b6_ b7_ b8_ b9_ b10_ b11_)
def zqr5 {β : Type} (i : Nat) (k1 : zqqj β) := lp11 (fun r => zqr4 zqxr zqxs r k1) none i
theorem zqr6 (hΓ : GO (zqr3 zqxr zqxs zqy8)) (i : Nat) : OK zqqm (zqqn (zqr5 zqxr zqxs i)) :=
 pcL mixed (zqr3 zqxr zqxs zqy8) tab_ok hΓ (G := fun i => @fun β d ks => zqqn (zqr5 zqxr zqxs i) d ks) (pick1 []) (by kernel_rfl) rfl (by kernel_rfl) CutsOk_nil (fun _ _ => rfl) (fun _ _ _ _ => by kernel_rfl) i
def zqr7 {β : Type} (rec : zqqu β) (k1 : zqqt β) : zqqu β := fun i_ k_ d l l2 l3 l4 l5 l6 l7 l8 b4_ b5_ b6_ b7_ b8_ b9_ b10_ b11_ b12_ b13_ =>
 cond (decide ((0 : Int) < k_))
 (zqxr (4 : Int) d (fun (rNext : Int) (mrNext : t1y) =>
 let l9 : List Int := ([rNext] : List Int);
 cond (decide ((List.length b12_ + List.length l9) * 8 ≤ roomMax))
 (let l10 : List Int := (b12_ ++ l9);
 let k_2 : Int := (IntKind.i64.wrap (k_ - (1 : Int)));
 rec i_ k_2 mrNext l l2 l3 l4 l5 l6 l7 l8 b4_ b5_ b6_ b7_ b8_ b9_ b10_ b11_ l10 b13_)
 none))
 (k1 i_ d l l2 l3 l4 l5 l6 l7 l8 b4_ b5_ b6_ b7_ b8_ b9_ b10_ b11_ b12_ b13_)
def zqr8 {β : Type} (i : Nat) (k1 : zqqt β) := lp21 (fun r => zqr7 zqxr r k1) none i
theorem zqr9 (hΓ : GO (zqr3 zqxr zqxs zqy8)) (i : Nat) : OK zqqw (zqqx (zqr8 zqxr i)) :=
 pcL mixed (zqr3 zqxr zqxs zqy8) tab_ok hΓ (G := fun i => @fun β d ks => zqqx (zqr8 zqxr i) d ks) (pick1 []) (by kernel_rfl) rfl (by kernel_rfl) CutsOk_nil (fun _ _ => rfl) (fun _ _ _ _ => by kernel_rfl) i
def zqra {β : Type} (rec : zqqz β) (k1 : zqqy β) : zqqz β := fun i_ k_ d s b4_ b5_ b6_ b7_ b8_ b9_ b10_ b11_ b12_ b13_ =>
 cond (decide ((0 : Int) < k_))
 (zqy8 d (fun (rOverride : zqa) (mrOverride : t1y) =>
 let l : List zqa := ([rOverride] : List zqa);
 cond (decide ((List.length b13_ + List.length l) * 40 ≤ roomMax))
 (let l2 : List zqa := (b13_ ++ l);
 let k_2 : Int := (IntKind.i64.wrap (k_ - (1 : Int)));
 rec i_ k_2 mrOverride s b4_ b5_ b6_ b7_ b8_ b9_ b10_ b11_ b12_ l2)
 none))
 (k1 i_ d s b4_ b5_ b6_ b7_ b8_ b9_ b10_ b11_ b12_ b13_)
def zqrb {β : Type} (i : Nat) (k1 : zqqy β) := lp14 (fun r => zqra zqy8 r k1) none i
theorem zqrc (hΓ : GO (zqr3 zqxr zqxs zqy8)) (i : Nat) : OK zqr1 (zqr2 (zqrb zqy8 i)) :=
 pcL mixed (zqr3 zqxr zqxs zqy8) tab_ok hΓ (G := fun i => @fun β d ks => zqr2 (zqrb zqy8 i) d ks) (pick1 []) (by kernel_rfl) rfl (by kernel_rfl) CutsOk_nil (fun _ _ => rfl) (fun _ _ _ _ => by kernel_rfl) i
def zqrd (p2 : zqqv) (p3 : zqr0) {β : Type} (rec : zqqp β) (k1 : zqqo β) : zqqp β := fun i_ d b3_ b4_ b5_ b6_ b7_ b8_ b9_ b10_ =>
 cond (decide (i_ < (2 : Int)))
 (let l : List Int := ([(1 : Int), (9 : Int), (10 : Int)] : List Int);
 zqxs l d (fun (rOne : Int) (mrOne : t1y) =>
 let l2 : List Int := ([(0 : Int), (1800 : Int), (43200 : Int)] : List Int);
 zqxs l2 mrOne (fun (rOne2 : Int) (mrOne2 : t1y) =>
 let l3 : List Int := ([(0 : Int), (0 : Int), (1 : Int)] : List Int);
 zqxs l3 mrOne2 (fun (rOne3 : Int) (mrOne3 : t1y) =>
 zqxr (3 : Int) mrOne3 (fun (rNext : Int) (mrNext : t1y) =>
 zqxr (3 : Int) mrNext (fun (rNext2 : Int) (mrNext2 : t1y) =>
 let k_ : Int := (IntKind.i64.wrap ((1 : Int) + rNext2));
 p2 (fun (i_2 : Int) (d2 : t1y) (l4 : List UInt8) (l5 : Int) (l6 : Int) (l7 : Int) (l8 : Int) (l9 : Int) (l10 : Int) (l11 : Int) (b4_2 : List zqe) (b5_2 : List zqg) (b6_2 : List zq6) (b7_2 : List zqc) (b8_2 : List zqe) (b9_2 : List zqg) (b10_2 : List zq6) (b11_ : List zqc) (b12_ : List Int) (b13_ : List t0y) =>
 let l12 : List t4y := ([([102, 105, 114, 115, 116] : List UInt8), ([115, 101, 99, 111, 110, 100] : List UInt8)] : List t4y);
 cond (decide (0 ≤ i_2) && decide (i_2 < (List.length l12 : Int)))
 (let l13 : List zq8 := ([(l4, (l5, ((l6, l7), (l8, (l9, (b12_, (b13_, (l10, l11))))))))] : List zq8);
 zqxr (3 : Int) d2 (fun (rNext3 : Int) (mrNext3 : t1y) =>
 p3 (fun (i_3 : Int) (d3 : t1y) (s : List UInt8) (b4_3 : List zqe) (b5_3 : List zqg) (b6_3 : List zq6) (b7_3 : List zqc) (b8_3 : List zqe) (b9_3 : List zqg) (b10_3 : List zq6) (b11_2 : List zqc) (b12_2 : List zq8) (b13_2 : List zqa) =>
 let l14 : List zqc := ([(s, (b12_2, b13_2))] : List zqc);
 cond (decide ((List.length b11_2 + List.length l14) * 64 ≤ roomMax))
 (let l15 : List zqc := (b11_2 ++ l14);
 let i_4 : Int := (IntKind.i64.wrap (i_3 + (1 : Int)));
 rec i_4 d3 b4_3 b5_3 b6_3 b7_3 b8_3 b9_3 b10_3 l15)
 none) i_2 rNext3 mrNext3 (List.getD l12 (Int.toNat i_2) ([] : List UInt8)) b4_2 b5_2 b6_2 b7_2 b8_2 b9_2 b10_2 b11_ l13 ([] : List zqa)))
 none) i_ k_ mrNext2 ([108] : List UInt8) (0 : Int) rOne rOne2 rOne3 (IntKind.i64.wrap ((1 : Int) + rNext)) (0 : Int) (0 : Int) b3_ b4_ b5_ b6_ b7_ b8_ b9_ b10_ ([] : List Int) ([] : List t0y)))))))
 (k1 d b3_ b4_ b5_ b6_ b7_ b8_ b9_ b10_)
def zqre (p2 : zqqv) (p3 : zqr0) {β : Type} (i : Nat) (k1 : zqqo β) := lp10 (fun r => zqrd zqxr zqxs p2 p3 r k1) none i
theorem zqrf (hΓ : GO (zqr3 zqxr zqxs zqy8)) (p2 : zqqv) (p3 : zqr0) (hp2 : OK zqqw (zqqx p2)) (hp3 : OK zqr1 (zqr2 p3)) (i : Nat) : OK zqqr (zqqs (zqre zqxr zqxs p2 p3 i)) :=
 pcL mixed (zqr3 zqxr zqxs zqy8) tab_ok hΓ (G := fun i => @fun β d ks => zqqs (zqre zqxr zqxs p2 p3 i) d ks) (pick1 [(202, zqqw.cut (zqqx p2)), (826, zqr1.cut (zqr2 p3))]) (by kernel_rfl) rfl (by kernel_rfl) (CutsOk_cons (by kernel_rfl) rfl hp2 (CutsOk_cons (by kernel_rfl) rfl hp3 CutsOk_nil)) (fun _ _ => rfl) (fun _ _ _ _ => by kernel_rfl) i
def zqrg (p1 : zqql) (p4 : zqqq) : zqqh := fun d k =>
 let l : List Int := ([(0 : Int), (3600 : Int), (-7200 : Int)] : List Int);
 zqxs l d (fun (rOne : Int) (mrOne : t1y) =>
 let l2 : List zqe := ([(([122] : List UInt8), (rOne, ([] : List t5y)))] : List zqe);
 let l3 : List t4y := ([([97, 110, 110] : List UInt8), ([98, 111, 98] : List UInt8), ([99, 97, 116] : List UInt8), ([100, 97, 110] : List UInt8)] : List t4y);
 p1 (fun (d2 : t1y) (b3_ : List zqe) (b4_ : List zqg) (b5_ : List zq6) (b6_ : List zqc) (b7_ : List zqe) (b8_ : List zqg) (b9_ : List zq6) (b10_ : List zqc) =>
 p4 (fun (b0_ : t1y) (b3_2 : List zqe) (b4_2 : List zqg) (b5_2 : List zq6) (b6_2 : List zqc) (b7_2 : List zqe) (b8_2 : List zqg) (b9_2 : List zq6) (b10_2 : List zqc) =>
 k (b7_2, (b8_2, (b9_2, b10_2))) b0_) (0 : Int) d2 b3_ b4_ b5_ b6_ b7_ b8_ b9_ b10_) (0 : Int) mrOne l3 ([] : List zqe) ([] : List zqg) ([] : List zq6) ([] : List zqc) l2 ([] : List zqg) ([] : List zq6) ([] : List zqc))
theorem zqrh (hΓ : GO (zqr3 zqxr zqxs zqy8)) (p1 : zqql) (p4 : zqqq) (hp1 : OK zqqm (zqqn p1)) (hp4 : OK zqqr (zqqs p4)) : SpecOk Tryz.prog 8 (zqqi (zqrg zqxs p1 p4)) :=
 pcS mixed (zqr3 zqxr zqxs zqy8) tab_ok hΓ (pick1 [(122, zqqm.cut (zqqn p1)), (250, zqqr.cut (zqqs p4))]) [.cell 2 39] Tryz.func8 (by kernel_rfl) (by kernel_rfl) (by kernel_rfl) (by kernel_rfl) (CutsOk_cons (by kernel_rfl) rfl hp1 (CutsOk_cons (by kernel_rfl) rfl hp4 CutsOk_nil)) (fun _ _ => by kernel_rfl)
end
theorem zqriΓ : GO (zqr3 zq1v zq2o zq2w) := (ΓOk_cons zq1w (ΓOk_cons zq2p (ΓOk_cons zq2x ΓOk_nil)))
def zqrj (m : Nat) : zqql := zqr5 zq1v zq2o m
theorem zqrk {β : Type} (i : Nat) (k1) : zqrj (β := β) (i + 1) k1 = zqr4 zq1v zq2o (zqrj i k1) k1 := rfl
def zqrl : zqql := zqrj fuel
theorem zqrm : OK zqqm (zqqn zqrl) := zqr6 zq1v zq2o zq2w zqriΓ fuel
def zqrn (m : Nat) : zqqv := zqr8 zq1v m
theorem zqro {β : Type} (i : Nat) (k1) : zqrn (β := β) (i + 1) k1 = zqr7 zq1v (zqrn i k1) k1 := rfl
def zqrp : zqqv := zqrn fuel
theorem zqrq : OK zqqw (zqqx zqrp) := zqr9 zq1v zq2o zq2w zqriΓ fuel
def zqrr (m : Nat) : zqr0 := zqrb zq2w m
theorem zqrs {β : Type} (i : Nat) (k1) : zqrr (β := β) (i + 1) k1 = zqra zq2w (zqrr i k1) k1 := rfl
def zqrt : zqr0 := zqrr fuel
theorem zqru : OK zqr1 (zqr2 zqrt) := zqrc zq1v zq2o zq2w zqriΓ fuel
def zqrv (m : Nat) : zqqq := zqre zq1v zq2o zqrp zqrt m
theorem zqrw {β : Type} (i : Nat) (k1) : zqrv (β := β) (i + 1) k1 = zqrd zq1v zq2o zqrp zqrt (zqrv i k1) k1 := rfl
def zqrx : zqqq := zqrv fuel
theorem zqry : OK zqqr (zqqs zqrx) := zqrf zq1v zq2o zq2w zqriΓ zqrp zqrt zqrq zqru fuel
def zqrz : zqqh := zqrg zq2o zqrl zqrx
theorem zqs0 : SpecOk Tryz.prog 8 (zqqi zqrz) := zqrh zq1v zq2o zq2w zqriΓ zqrl zqrx zqrm zqry
abbrev zqs1 := {β : Type} → t1y → (zq4 → t1y → Option β) → Option β
def zqs2 (c : zqs1) : Spec :=
 ⟨[b23y], [b22y], [b59y], [b22y], fun x k => c x.2.1.1 (fun r0 r1 => k (((r0, ()), ()), ((r1, ()), ())))⟩
abbrev zqs3 (β : Type) := t1y → t18y → t12y → t18y → t12y → Option β
abbrev zqs4 (β : Type) := Int → t1y → t18y → t12y → t18y → t12y → Option β
abbrev zqs5 := {β : Type} → zqs3 β → zqs4 β
noncomputable def zqs6 : Pc := ⟨102, 1, codeAt 58 (bodyOf Tryz.f9), ⟨1, [0, 2, 3, 4], [b23y, b27y, b31y, b21y], [b22y, .cells 44 [.rowh 3, .rowh 4], .cells 44 [.rowh 5, .rowh 6], .row 106 (.prod .str (.slice (.int .i64))), .row 109 zq3, .row 106 (.prod .str (.slice (.int .i64))), .row 109 zq3]⟩, [(.exit 0, ⟨1, [0, 2, 3], [b23y, b27y, b31y], [b22y, .cells 44 [.rowh 3, .rowh 4], .cells 44 [.rowh 5, .rowh 6], .row 106 (.prod .str (.slice (.int .i64))), .row 109 zq3, .row 106 (.prod .str (.slice (.int .i64))), .row 109 zq3]⟩)]⟩
@[reducible] def zqs7 (p : zqs5) : zqs6.G := fun d ks => p (fun a0 a1 a2 a3 a4 => ks.1 (((), (), (), ()), ((a0, ()), (), (), a1, a2, a3, a4, ()))) d.1.2.2.2.1.1 d.2.1.1 d.2.2.2.2.1 d.2.2.2.2.2.1 d.2.2.2.2.2.2.1 d.2.2.2.2.2.2.2.1
abbrev zqs8 (β : Type) := t1y → t18y → t18y → t12y → t12y → Option β
abbrev zqs9 (β : Type) := Int → t1y → t18y → t18y → t12y → t12y → Option β
abbrev zqsa := {β : Type} → zqs8 β → zqs9 β
noncomputable def zqsb : Pc := ⟨102, 1, codeAt 122 (bodyOf Tryz.f9), ⟨1, [0, 2, 3, 6], [b23y, b27y, b31y, b21y], [b22y, .cells 44 [.rowh 3, .rowh 4], .cells 44 [.data (.slice (.prod .str (.slice (.int .i64)))), .rowh 5], .row 106 (.prod .str (.slice (.int .i64))), .row 109 zq3, .row 109 zq3]⟩, [(.exit 2, ⟨1, [2, 3], [b27y, b31y], [b22y, .cells 44 [.rowh 3, .rowh 4], .cells 44 [.data (.slice (.prod .str (.slice (.int .i64)))), .rowh 5], .row 106 (.prod .str (.slice (.int .i64))), .row 109 zq3, .row 109 zq3]⟩)]⟩
@[reducible] def zqsc (p : zqsa) : zqsb.G := fun d ks => p (fun a0 a1 a2 a3 a4 => ks.1 (((), (), ()), ((a0, ()), (), (a1, ()), a2, a3, a4, ()))) d.1.2.2.2.1.1 d.2.1.1 d.2.2.2.1.1 d.2.2.2.2.1 d.2.2.2.2.2.1 d.2.2.2.2.2.2.1
abbrev zqsd (β : Type) := Int → t1y → t18y → t4y → Int → t18y → t12y → t12y → (List zq0) → Option β
abbrev zqse (β : Type) := Int → Int → t1y → t18y → t4y → Int → t18y → t12y → t12y → (List zq0) → Option β
abbrev zqsf := {β : Type} → zqsd β → zqse β
noncomputable def zqsg : Pc := ⟨102, 1, codeAt 202 (loopBody zqsb.c), ⟨1, [0, 2, 3, 6, 7, 8], [b23y, b27y, b31y, b21y, b38y, b21y], [b22y, .cells 44 [.rowh 4, .rowh 5], .cells 44 [.data (.slice (.prod .str (.slice (.int .i64)))), .rowh 6], .cells 109 [.data .str, .rowh 7, .data (.int .i64)], .row 106 (.prod .str (.slice (.int .i64))), .row 109 zq3, .row 109 zq3, .row 112 zq1]⟩, [(.exit 4, ⟨1, [0, 2, 3, 6, 7], [b23y, b27y, b31y, b21y, b38y], [b22y, .cells 44 [.rowh 4, .rowh 5], .cells 44 [.data (.slice (.prod .str (.slice (.int .i64)))), .rowh 6], .cells 109 [.data .str, .rowh 7, .data (.int .i64)], .row 106 (.prod .str (.slice (.int .i64))), .row 109 zq3, .row 109 zq3, .row 112 zq1]⟩)]⟩
@[reducible] def zqsh (p : zqsf) : zqsg.G := fun d ks => p (fun a0 a1 a2 a3 a4 a5 a6 a7 a8 => ks.1 (((), (), (), (a0, ()), (), ()), ((a1, ()), (), (a2, ()), (a3, a4, ()), a5, a6, a7, a8, ()))) d.1.2.2.2.1.1 d.1.2.2.2.2.2.1.1 d.2.1.1 d.2.2.2.1.1 d.2.2.2.2.1.1 d.2.2.2.2.1.2.1 d.2.2.2.2.2.1 d.2.2.2.2.2.2.1 d.2.2.2.2.2.2.2.1 d.2.2.2.2.2.2.2.2.1
abbrev zqsi (β : Type) := Int → Int → t1y → t18y → t4y → Int → Int → Bool → t18y → t12y → t12y → (List zq0) → t8y → Option β
abbrev zqsj (β : Type) := Int → Int → Int → t1y → t18y → t4y → Int → Int → Bool → t18y → t12y → t12y → (List zq0) → t8y → Option β
abbrev zqsk := {β : Type} → zqsi β → zqsj β
noncomputable def zqsl : Pc := ⟨102, 1, codeAt 202 (loopBody zqsg.c), ⟨1, [0, 2, 3, 6, 7, 8, 9, 10], [b23y, b27y, b31y, b21y, b38y, b21y, b66y, b21y], [b22y, .cells 44 [.rowh 5, .rowh 6], .cells 44 [.data (.slice (.prod .str (.slice (.int .i64)))), .rowh 7], .cells 109 [.data .str, .rowh 8, .data (.int .i64)], .cells 112 [.data (.int .i64), .data .bool, .rowh 9], .row 106 (.prod .str (.slice (.int .i64))), .row 109 zq3, .row 109 zq3, .row 112 zq1, .row 114 (.prod (.int .i64) (.int .i64))]⟩, [(.exit 6, ⟨1, [0, 2, 3, 6, 7, 8, 9], [b23y, b27y, b31y, b21y, b38y, b21y, b66y], [b22y, .cells 44 [.rowh 5, .rowh 6], .cells 44 [.data (.slice (.prod .str (.slice (.int .i64)))), .rowh 7], .cells 109 [.data .str, .rowh 8, .data (.int .i64)], .cells 112 [.data (.int .i64), .data .bool, .rowh 9], .row 106 (.prod .str (.slice (.int .i64))), .row 109 zq3, .row 109 zq3, .row 112 zq1, .row 114 (.prod (.int .i64) (.int .i64))]⟩)]⟩
@[reducible] def zqsm (p : zqsk) : zqsl.G := fun d ks => p (fun a0 a1 a2 a3 a4 a5 a6 a7 a8 a9 a10 a11 a12 => ks.1 (((), (), (), (a0, ()), (), (a1, ()), (), ()), ((a2, ()), (), (a3, ()), (a4, a5, ()), (a6, a7, ()), a8, a9, a10, a11, a12, ()))) d.1.2.2.2.1.1 d.1.2.2.2.2.2.1.1 d.1.2.2.2.2.2.2.2.1.1 d.2.1.1 d.2.2.2.1.1 d.2.2.2.2.1.1 d.2.2.2.2.1.2.1 d.2.2.2.2.2.1.1 d.2.2.2.2.2.1.2.1 d.2.2.2.2.2.2.1 d.2.2.2.2.2.2.2.1 d.2.2.2.2.2.2.2.2.1 d.2.2.2.2.2.2.2.2.2.1 d.2.2.2.2.2.2.2.2.2.2.1
section
variable (zqxr : zq1p) (zqxs : zq2i) (zqy9 : zq2y)
@[reducible] def zqsn : Ctx := ⟨look tab, pick1 [(10, .spec (zq1q zqxr)), (19, .spec (zq2j zqxs)), (28, .spec (zq2z zqy9))], false, false, false, false, [(44, [0])]⟩
def zqso {β : Type} (rec : zqs4 β) (k1 : zqs3 β) : zqs4 β := fun i_ d b3_ b4_ b5_ b6_ =>
 cond (decide ((0 : Int) < i_))
 (let l : List t4y := ([([99, 111, 114, 101] : List UInt8), ([119, 101, 98] : List UInt8)] : List t4y);
 cond (decide (0 ≤ (List.length b5_ : Int)) && decide ((List.length b5_ : Int) < (List.length l : Int)))
 (zqxr (2 : Int) d (fun (rNext : Int) (mrNext : t1y) =>
 let l2 : List Int := ([rNext] : List Int);
 zqxr (2 : Int) mrNext (fun (rNext2 : Int) (mrNext2 : t1y) =>
 cond (decide (rNext2 = (0 : Int)))
 (zqxr (2 : Int) mrNext2 (fun (rNext3 : Int) (mrNext3 : t1y) =>
 let l3 : List Int := ([(IntKind.i64.wrap ((2 : Int) + rNext3))] : List Int);
 cond (decide ((List.length l2 + List.length l3) * 8 ≤ roomMax))
 (let l4 : List Int := (l2 ++ l3);
 let l5 : List t3y := ([((List.getD l (Int.toNat (List.length b5_ : Int)) ([] : List UInt8)), l4)] : List t3y);
 cond (decide ((List.length b5_ + List.length l5) * 40 ≤ roomMax))
 (let l6 : List t3y := (b5_ ++ l5);
 let i_2 : Int := (IntKind.i64.wrap (i_ - (1 : Int)));
 rec i_2 mrNext3 b3_ b4_ l6 b6_)
 none)
 none))
 (let l3 : List t3y := ([((List.getD l (Int.toNat (List.length b5_ : Int)) ([] : List UInt8)), l2)] : List t3y);
 cond (decide ((List.length b5_ + List.length l3) * 40 ≤ roomMax))
 (let l4 : List t3y := (b5_ ++ l3);
 let i_2 : Int := (IntKind.i64.wrap (i_ - (1 : Int)));
 rec i_2 mrNext2 b3_ b4_ l4 b6_)
 none))))
 none)
 (k1 d b3_ b4_ b5_ b6_)
def zqsp {β : Type} (i : Nat) (k1 : zqs3 β) := lp6 (fun r => zqso zqxr r k1) none i
theorem zqsq (hΓ : GO (zqsn zqxr zqxs zqy9)) (i : Nat) : OK zqs6 (zqs7 (zqsp zqxr i)) :=
 pcL mixed (zqsn zqxr zqxs zqy9) tab_ok hΓ (G := fun i => @fun β d ks => zqs7 (zqsp zqxr i) d ks) (pick1 []) (by kernel_rfl) rfl (by kernel_rfl) CutsOk_nil (fun _ _ => rfl) (fun _ _ _ _ => by kernel_rfl) i
def zqsr {β : Type} (rec : zqsj β) (k1 : zqsi β) : zqsj β := fun i_ k_ j d b p_ p_2 s s2 b5_ b6_ b7_ b8_ b9_ =>
 cond (decide ((0 : Int) < j))
 (zqy9 b d (fun (rTarget : t0y) (mrTarget : t1y) =>
 let l : List t0y := ([rTarget] : List t0y);
 cond (decide ((List.length b9_ + List.length l) * 16 ≤ roomMax))
 (let l2 : List t0y := (b9_ ++ l);
 let j2 : Int := (IntKind.i64.wrap (j - (1 : Int)));
 rec i_ k_ j2 mrTarget b p_ p_2 s s2 b5_ b6_ b7_ b8_ l2)
 none))
 (k1 i_ k_ d b p_ p_2 s s2 b5_ b6_ b7_ b8_ b9_)
def zqss {β : Type} (i : Nat) (k1 : zqsi β) := lp14 (fun r => zqsr zqy9 r k1) none i
theorem zqst (hΓ : GO (zqsn zqxr zqxs zqy9)) (i : Nat) : OK zqsl (zqsm (zqss zqy9 i)) :=
 pcL mixed (zqsn zqxr zqxs zqy9) tab_ok hΓ (G := fun i => @fun β d ks => zqsm (zqss zqy9 i) d ks) (pick1 []) (by kernel_rfl) rfl (by kernel_rfl) CutsOk_nil (fun _ _ => rfl) (fun _ _ _ _ => by kernel_rfl) i
def zqsu (p2 : zqsk) {β : Type} (rec : zqse β) (k1 : zqsd β) : zqse β := fun i_ k_ d b p_ p_2 b4_ b5_ b6_ b7_ =>
 cond (decide ((0 : Int) < k_))
 (let l : List Int := ([(0 : Int), (60 : Int), (300 : Int), (600 : Int), (900 : Int)] : List Int);
 zqxs l d (fun (rOne : Int) (mrOne : t1y) =>
 zqxr (2 : Int) mrOne (fun (rNext : Int) (mrNext : t1y) =>
 zqxr (3 : Int) mrNext (fun (rNext2 : Int) (mrNext2 : t1y) =>
 p2 (fun (i_2 : Int) (k_2 : Int) (d2 : t1y) (b2 : List t3y) (p_3 : List UInt8) (p_4 : Int) (s : Int) (s2 : Bool) (b5_2 : List t3y) (b6_2 : List zq2) (b7_2 : List zq2) (b8_ : List zq0) (b9_ : List t0y) =>
 let l2 : List zq0 := ([(s, (s2, b9_))] : List zq0);
 cond (decide ((List.length b8_ + List.length l2) * 40 ≤ roomMax))
 (let l3 : List zq0 := (b8_ ++ l2);
 let k_3 : Int := (IntKind.i64.wrap (k_2 - (1 : Int)));
 rec i_2 k_3 d2 b2 p_3 p_4 b5_2 b6_2 b7_2 l3)
 none) i_ k_ rNext2 mrNext2 b p_ p_2 rOne (decide (rNext = (0 : Int))) b4_ b5_ b6_ b7_ ([] : List t0y)))))
 (k1 i_ d b p_ p_2 b4_ b5_ b6_ b7_)
def zqsv (p2 : zqsk) {β : Type} (i : Nat) (k1 : zqsd β) := lp10 (fun r => zqsu zqxr zqxs p2 r k1) none i
theorem zqsw (hΓ : GO (zqsn zqxr zqxs zqy9)) (p2 : zqsk) (hp2 : OK zqsl (zqsm p2)) (i : Nat) : OK zqsg (zqsh (zqsv zqxr zqxs p2 i)) :=
 pcL mixed (zqsn zqxr zqxs zqy9) tab_ok hΓ (G := fun i => @fun β d ks => zqsh (zqsv zqxr zqxs p2 i) d ks) (pick1 [(202, zqsl.cut (zqsm p2))]) (by kernel_rfl) rfl (by kernel_rfl) (CutsOk_cons (by kernel_rfl) rfl hp2 CutsOk_nil) (fun _ _ => rfl) (fun _ _ _ _ => by kernel_rfl) i
def zqsx (p3 : zqsf) {β : Type} (rec : zqs9 β) (k1 : zqs8 β) : zqs9 β := fun i_ d b b3_ b4_ b5_ =>
 cond (decide ((0 : Int) < i_))
 (let l : List t4y := ([([112] : List UInt8), ([113] : List UInt8), ([114] : List UInt8)] : List t4y);
 cond (decide (0 ≤ (List.length b5_ : Int)) && decide ((List.length b5_ : Int) < (List.length l : Int)))
 (let l2 : List Int := ([(0 : Int), (0 : Int), (1 : Int), (2 : Int)] : List Int);
 zqxs l2 d (fun (rOne : Int) (mrOne : t1y) =>
 zqxr (3 : Int) mrOne (fun (rNext : Int) (mrNext : t1y) =>
 let k_ : Int := (IntKind.i64.wrap ((1 : Int) + rNext));
 p3 (fun (i_2 : Int) (d2 : t1y) (b2 : List t3y) (p_ : List UInt8) (p_2 : Int) (b4_2 : List t3y) (b5_2 : List zq2) (b6_ : List zq2) (b7_ : List zq0) =>
 let l3 : List zq2 := ([(p_, (b7_, p_2))] : List zq2);
 cond (decide ((List.length b6_ + List.length l3) * 48 ≤ roomMax))
 (let l4 : List zq2 := (b6_ ++ l3);
 let i_3 : Int := (IntKind.i64.wrap (i_2 - (1 : Int)));
 rec i_3 d2 b2 b4_2 b5_2 l4)
 none) i_ k_ mrNext b (List.getD l (Int.toNat (List.length b5_ : Int)) ([] : List UInt8)) rOne b3_ b4_ b5_ ([] : List zq0))))
 none)
 (k1 d b b3_ b4_ b5_)
def zqsy (p3 : zqsf) {β : Type} (i : Nat) (k1 : zqs8 β) := lp6 (fun r => zqsx zqxr zqxs p3 r k1) none i
theorem zqsz (hΓ : GO (zqsn zqxr zqxs zqy9)) (p3 : zqsf) (hp3 : OK zqsg (zqsh p3)) (i : Nat) : OK zqsb (zqsc (zqsy zqxr zqxs p3 i)) :=
 pcL mixed (zqsn zqxr zqxs zqy9) tab_ok hΓ (G := fun i => @fun β d ks => zqsc (zqsy zqxr zqxs p3 i) d ks) (pick1 [(202, zqsg.cut (zqsh p3))]) (by kernel_rfl) rfl (by kernel_rfl) (CutsOk_cons (by kernel_rfl) rfl hp3 CutsOk_nil) (fun _ _ => rfl) (fun _ _ _ _ => by kernel_rfl) i
def zqt0 (p1 : zqs5) (p4 : zqsa) : zqs1 := fun d k =>
 zqxr (3 : Int) d (fun (rNext : Int) (mrNext : t1y) =>
 p1 (fun (d2 : t1y) (b3_ : List t3y) (b4_ : List zq2) (b5_ : List t3y) (b6_ : List zq2) =>
 zqxr (3 : Int) d2 (fun (rNext2 : Int) (mrNext2 : t1y) =>
 let i_ : Int := (IntKind.i64.wrap ((1 : Int) + rNext2));
 p4 (fun (b0_ : t1y) (b : List t3y) (b3_2 : List t3y) (b4_2 : List zq2) (b5_2 : List zq2) =>
 k (b, b5_2) b0_) i_ mrNext2 b5_ b3_ b4_ b6_)) rNext mrNext ([] : List t3y) ([] : List zq2) ([] : List t3y) ([] : List zq2))
theorem zqt1 (hΓ : GO (zqsn zqxr zqxs zqy9)) (p1 : zqs5) (p4 : zqsa) (hp1 : OK zqs6 (zqs7 p1)) (hp4 : OK zqsb (zqsc p4)) : SpecOk Tryz.prog 9 (zqs2 (zqt0 zqxr p1 p4)) :=
 pcS mixed (zqsn zqxr zqxs zqy9) tab_ok hΓ (pick1 [(58, zqs6.cut (zqs7 p1)), (122, zqsb.cut (zqsc p4))]) [.cell 2 44] Tryz.func9 (by kernel_rfl) (by kernel_rfl) (by kernel_rfl) (by kernel_rfl) (CutsOk_cons (by kernel_rfl) rfl hp1 (CutsOk_cons (by kernel_rfl) rfl hp4 CutsOk_nil)) (fun _ _ => by kernel_rfl)
end
theorem zqt2Γ : GO (zqsn zq1v zq2o zq3e) := (ΓOk_cons zq1w (ΓOk_cons zq2p (ΓOk_cons zq3f ΓOk_nil)))
def zqt3 (m : Nat) : zqs5 := zqsp zq1v m
theorem zqt4 {β : Type} (i : Nat) (k1) : zqt3 (β := β) (i + 1) k1 = zqso zq1v (zqt3 i k1) k1 := rfl
def zqt5 : zqs5 := zqt3 fuel
theorem zqt6 : OK zqs6 (zqs7 zqt5) := zqsq zq1v zq2o zq3e zqt2Γ fuel
def zqt7 (m : Nat) : zqsk := zqss zq3e m
theorem zqt8 {β : Type} (i : Nat) (k1) : zqt7 (β := β) (i + 1) k1 = zqsr zq3e (zqt7 i k1) k1 := rfl
def zqt9 : zqsk := zqt7 fuel
theorem zqta : OK zqsl (zqsm zqt9) := zqst zq1v zq2o zq3e zqt2Γ fuel
def zqtb (m : Nat) : zqsf := zqsv zq1v zq2o zqt9 m
theorem zqtc {β : Type} (i : Nat) (k1) : zqtb (β := β) (i + 1) k1 = zqsu zq1v zq2o zqt9 (zqtb i k1) k1 := rfl
def zqtd : zqsf := zqtb fuel
theorem zqte : OK zqsg (zqsh zqtd) := zqsw zq1v zq2o zq3e zqt2Γ zqt9 zqta fuel
def zqtf (m : Nat) : zqsa := zqsy zq1v zq2o zqtd m
theorem zqtg {β : Type} (i : Nat) (k1) : zqtf (β := β) (i + 1) k1 = zqsx zq1v zq2o zqtd (zqtf i k1) k1 := rfl
def zqth : zqsa := zqtf fuel
theorem zqti : OK zqsb (zqsc zqth) := zqsz zq1v zq2o zq3e zqt2Γ zqtd zqte fuel
def zqtj : zqs1 := zqt0 zq1v zqt5 zqth
theorem zqtk : SpecOk Tryz.prog 9 (zqs2 zqtj) := zqt1 zq1v zq2o zq3e zqt2Γ zqt5 zqth zqt6 zqti
abbrev zqtl := {β : Type} → zqq → (Bool → Option β) → Option β
def zqtm (c : zqtl) : Spec :=
 ⟨[b33y], [], [b25y], [], fun x k => c x.1.1.1 (fun r0 => k (((r0, ()), ()), ()))⟩
abbrev zqtn (β : Type) := Bool → Option β
abbrev zqto (β : Type) := zqq → Option β
abbrev zqtp (β : Type) := Int → zqq → Option β
abbrev zqtq := {β : Type} → zqtn β → zqto β → zqtp β
noncomputable def zqtr : Pc := ⟨124, 0, codeAt 58 (bodyOf Tryz.f13), ⟨0, [1, 3], [b23y, b21y], [b24y]⟩, [(.ret, ⟨0, [2], [b25y], []⟩), (.exit 0, ⟨0, [1], [b23y], [b24y]⟩)]⟩
@[reducible] def zqts (p : zqtq) : zqtr.G := fun d ks => p (fun a0 => ks.1 (((a0, ()), ()), ())) (fun a0 => ks.2.1 (((), ()), ((a0, ()), ()))) d.1.2.1.1 d.2.1.1
abbrev zqtt (β : Type) := Bool → Option β
abbrev zqtu (β : Type) := zqq → Option β
abbrev zqtv (β : Type) := Int → zqq → Option β
abbrev zqtw := {β : Type} → zqtt β → zqtu β → zqtv β
noncomputable def zqtx : Pc := ⟨124, 0, codeAt 122 (bodyOf Tryz.f13), ⟨0, [1, 4], [b23y, b21y], [b24y]⟩, [(.ret, ⟨0, [2], [b25y], []⟩), (.exit 2, ⟨0, [1], [b23y], [b24y]⟩)]⟩
@[reducible] def zqty (p : zqtw) : zqtx.G := fun d ks => p (fun a0 => ks.1 (((a0, ()), ()), ())) (fun a0 => ks.2.1 (((), ()), ((a0, ()), ()))) d.1.2.1.1 d.2.1.1
section
variable (zqxt : zq44) (zqxu : zq5d) (zqxv : zq4k) (zqya : zq5y) (zqxw : zq55) (zqxx : zq4c)
@[reducible] def zqtz : Ctx := cx [(37, .spec (zq45 zqxt)), (41, .spec (zq5e zqxu)), (39, .spec (zq4l zqxv)), (42, .spec (zq5z zqya)), (40, .spec (zq56 zqxw)), (38, .spec (zq4d zqxx))]
def zqu0 {β : Type} (rec : zqtp β) (k1 : zqtn β) (k2 : zqto β) : zqtp β := fun i_ x =>
 cond (decide (i_ < (3 : Int)))
 (cond (decide (i_ = (0 : Int)))
 (zqxw x.2.2.2.2.2.1.1 true (fun (rperson : Bool) =>
 cond (!rperson)
 (k1 false)
 (let i_2 : Int := (IntKind.i64.wrap (i_ + (1 : Int)));
 rec i_2 x)))
 (cond (decide (i_ = (1 : Int)))
 (zqxw x.2.2.2.2.2.1.2.1 true (fun (rperson : Bool) =>
 cond (!rperson)
 (k1 false)
 (let i_2 : Int := (IntKind.i64.wrap (i_ + (1 : Int)));
 rec i_2 x)))
 (cond (decide (i_ = (2 : Int)))
 (zqxw x.2.2.2.2.2.1.2.2 true (fun (rperson : Bool) =>
 cond (!rperson)
 (k1 false)
 (let i_2 : Int := (IntKind.i64.wrap (i_ + (1 : Int)));
 rec i_2 x)))
 (none))))
 (k2 x)
def zqu1 {β : Type} (i : Nat) (k1 : zqtn β) (k2 : zqto β) := lp2 (fun r => zqu0 zqxw r k1 k2) none i
theorem zqu2 (hΓ : GO (zqtz zqxt zqxu zqxv zqya zqxw zqxx)) (i : Nat) : OK zqtr (zqts (zqu1 zqxw i)) :=
 pcL mixed (zqtz zqxt zqxu zqxv zqya zqxw zqxx) tab_ok hΓ (G := fun i => @fun β d ks => zqts (zqu1 zqxw i) d ks) (pick1 []) (by kernel_rfl) rfl (by kernel_rfl) CutsOk_nil (fun _ _ => rfl) (fun _ _ _ _ => by kernel_rfl) i
def zqu3 {β : Type} (rec : zqtv β) (k1 : zqtt β) (k2 : zqtu β) : zqtv β := fun i_ x =>
 cond (decide (i_ < (List.length x.2.2.2.2.2.2.1 : Int)))
 (cond (decide (0 ≤ i_) && decide (i_ < (List.length x.2.2.2.2.2.2.1 : Int)))
 (let e : Int := List.getD x.2.2.2.2.2.2.1 (Int.toNat i_) (0 : Int);
 zqxt e (1 : Int) (999999 : Int) (fun (rIn : Bool) =>
 cond (!rIn)
 (k1 false)
 (cond (decide ((0 : Int) < i_))
 (cond (decide (0 ≤ (IntKind.i64.wrap (i_ - (1 : Int)))) && decide ((IntKind.i64.wrap (i_ - (1 : Int))) < (List.length x.2.2.2.2.2.2.1 : Int)))
 (let e2 : Int := List.getD x.2.2.2.2.2.2.1 (Int.toNat (IntKind.i64.wrap (i_ - (1 : Int)))) (0 : Int);
 cond (decide (0 ≤ i_) && decide (i_ < (List.length x.2.2.2.2.2.2.1 : Int)))
 (let e3 : Int := List.getD x.2.2.2.2.2.2.1 (Int.toNat i_) (0 : Int);
 cond (decide (e3 ≤ e2))
 (k1 false)
 (let i_2 : Int := (IntKind.i64.wrap (i_ + (1 : Int)));
 rec i_2 x))
 none)
 none)
 (let i_2 : Int := (IntKind.i64.wrap (i_ + (1 : Int)));
 rec i_2 x))))
 none)
 (k2 x)
def zqu4 {β : Type} (i : Nat) (k1 : zqtt β) (k2 : zqtu β) := lp2 (fun r => zqu3 zqxt r k1 k2) none i
theorem zqu5 (hΓ : GO (zqtz zqxt zqxu zqxv zqya zqxw zqxx)) (i : Nat) : OK zqtx (zqty (zqu4 zqxt i)) :=
 pcL mixed (zqtz zqxt zqxu zqxv zqya zqxw zqxx) tab_ok hΓ (G := fun i => @fun β d ks => zqty (zqu4 zqxt i) d ks) (pick1 []) (by kernel_rfl) rfl (by kernel_rfl) CutsOk_nil (fun _ _ => rfl) (fun _ _ _ _ => by kernel_rfl) i
def zqu6 (p1 : zqtq) (p2 : zqtw) : zqtl := fun x k =>
 zqxt x.1 (1 : Int) (999999 : Int) (fun (rIn : Bool) =>
 cond (!rIn)
 (k false)
 (zqxx x.2.1 (fun (rstate : Bool) =>
 cond (!rstate)
 (k false)
 (zqxt x.2.2.1 (1 : Int) (5 : Int) (fun (rIn2 : Bool) =>
 cond (!rIn2)
 (k false)
 (zqxt x.2.2.2.1 (0 : Int) (8589934592 : Int) (fun (rIn3 : Bool) =>
 cond (!rIn3)
 (k false)
 (zqxv x.2.2.2.2.1 (fun (rText : Bool) =>
 cond (!rText)
 (k false)
 (p1 (fun (t2 : Bool) =>
 k t2) (fun (x2 : zqq) =>
 p2 (fun (t2 : Bool) =>
 k t2) (fun (x3 : zqq) =>
 cond (decide ((64 : Int) < (List.length x3.2.2.2.2.2.2.1 : Int)))
 (k false)
 (cond (decide ((16 : Int) < (List.length x3.2.2.2.2.2.2.2.1 : Int)))
 (k false)
 (cond (decide ((32 : Int) < (List.length x3.2.2.2.2.2.2.2.2.1 : Int)))
 (k false)
 (cond (decide ((32 : Int) < (List.length x3.2.2.2.2.2.2.2.2.2.2.1 : Int)))
 (k false)
 (zqxu x3.2.2.2.2.2.2.2.2.2.1 (32 : Int) (fun (rSet : Bool) =>
 cond (!rSet)
 (k false)
 (zqya x3 (fun (rlists : Bool) =>
 cond (!rlists)
 (k false)
 (cond (decide (x3.2.1 = (4 : Int)))
 (zqxt x3.2.2.2.2.2.2.2.2.2.2.2 (1 : Int) (999999 : Int) (fun (rIn4 : Bool) =>
 cond rIn4
 (let t : Bool := (!decide (x3.2.2.2.2.2.2.2.2.2.2.2 = x3.1));
 k t)
 (k false)))
 (let t : Bool := (decide (x3.2.2.2.2.2.2.2.2.2.2.2 = (0 : Int)));
 k t)))))))))) (0 : Int) x2) (0 : Int) x))))))))))
theorem zqu7 (hΓ : GO (zqtz zqxt zqxu zqxv zqya zqxw zqxx)) (p1 : zqtq) (p2 : zqtw) (hp1 : OK zqtr (zqts p1)) (hp2 : OK zqtx (zqty p2)) : SpecOk Tryz.prog 13 (zqtm (zqu6 zqxt zqxu zqxv zqya zqxx p1 p2)) :=
 pcS mixed (zqtz zqxt zqxu zqxv zqya zqxw zqxx) tab_ok hΓ (pick1 [(58, zqtr.cut (zqts p1)), (122, zqtx.cut (zqty p2))]) [.tmp 2] Tryz.func13 (by kernel_rfl) (by kernel_rfl) (by kernel_rfl) (by kernel_rfl) (CutsOk_cons (by kernel_rfl) rfl hp1 (CutsOk_cons (by kernel_rfl) rfl hp2 CutsOk_nil)) (fun _ _ => by kernel_rfl)
end
theorem zqu8Γ : GO (zqtz zq4a zq5w zq53 zq77 zq5b zq4i) := (ΓOk_cons zq4b (ΓOk_cons zq5x (ΓOk_cons zq54 (ΓOk_cons zq78 (ΓOk_cons zq5c (ΓOk_cons zq4j ΓOk_nil))))))
def zqu9 (m : Nat) : zqtq := zqu1 zq5b m
theorem zqua {β : Type} (i : Nat) (k1 k2) : zqu9 (β := β) (i + 1) k1 k2 = zqu0 zq5b (zqu9 i k1 k2) k1 k2 := rfl
def zqub : zqtq := zqu9 fuel
theorem zquc : OK zqtr (zqts zqub) := zqu2 zq4a zq5w zq53 zq77 zq5b zq4i zqu8Γ fuel
def zqud (m : Nat) : zqtw := zqu4 zq4a m
theorem zque {β : Type} (i : Nat) (k1 k2) : zqud (β := β) (i + 1) k1 k2 = zqu3 zq4a (zqud i k1 k2) k1 k2 := rfl
def zquf : zqtw := zqud fuel
theorem zqug : OK zqtx (zqty zquf) := zqu5 zq4a zq5w zq53 zq77 zq5b zq4i zqu8Γ fuel
def zquh : zqtl := zqu6 zq4a zq5w zq53 zq77 zq4i zqub zquf
theorem zqui : SpecOk Tryz.prog 13 (zqtm zquh) := zqu7 zq4a zq5w zq53 zq77 zq5b zq4i zqu8Γ zqub zquf zquc zqug
abbrev zquj := {β : Type} → Int → Int → Int → t4y → Int → (zqq → Int → Option β) → Option β
def zquk (c : zquj) : Spec :=
 ⟨[b21y, b21y, b21y, b50y, b21y], [], [b33y, b21y], [], fun x k => c x.1.1.1 x.1.2.1.1 x.1.2.2.1.1 x.1.2.2.2.1.1 x.1.2.2.2.2.1.1 (fun r0 r1 => k (((r0, ()), (r1, ()), ()), ()))⟩
abbrev zqul (β : Type) := Int → Int → Int → Int → Int → t4y → Int → Int → Int → t19y → t16y → t6y → t17y → Int → t6y → Option β
abbrev zqum (β : Type) := zqq → Int → Int → Int → Int → t4y → Int → Int → Int → t19y → t16y → t6y → t17y → Int → t6y → Option β
abbrev zqun := {β : Type} → zqul β → zqum β
noncomputable def zquo : Pc := ⟨29, 0, codeAt 15 (bodyOf Tryz.f18), ⟨0, [10, 12], [b23y, b27y], [b24y, .cells 32 [.data (.int .i64), .data (.int .i64), .data (.int .i64), .data (.int .i64), .data .str, .data (.int .i64), .data (.int .i64), .data (.int .i64), .rowh 2, .data (.slice zql), .data (.slice zqn), .data (.slice (.int .i64)), .data (.slice (.prod (.int .i64) (.prod (.int .i64) (.int .i64)))), .data (.int .i64)], .row 3 (.int .i64)]⟩, [(.ret, ⟨0, [10, 11], [b23y, b21y], [.cells 32 [.data (.int .i64), .data (.int .i64), .data (.int .i64), .data (.int .i64), .data .str, .data (.int .i64), .data (.int .i64), .data (.int .i64), .rowh 1, .data (.slice zql), .data (.slice zqn), .data (.slice (.int .i64)), .data (.slice (.prod (.int .i64) (.prod (.int .i64) (.int .i64)))), .data (.int .i64)], .row 3 (.int .i64)]⟩)]⟩
@[reducible] def zqup (p : zqun) : zquo.G := fun d ks => p (fun a0 a1 a2 a3 a4 a5 a6 a7 a8 a9 a10 a11 a12 a13 a14 => ks.1 (((), (a0, ()), ()), ((a1, a2, a3, a4, a5, a6, a7, a8, a9, a10, a11, a12, a13, ()), a14, ()))) d.2.1.1 d.2.2.1.1 d.2.2.1.2.1 d.2.2.1.2.2.1 d.2.2.1.2.2.2.1 d.2.2.1.2.2.2.2.1 d.2.2.1.2.2.2.2.2.1 d.2.2.1.2.2.2.2.2.2.1 d.2.2.1.2.2.2.2.2.2.2.1 d.2.2.1.2.2.2.2.2.2.2.2.1 d.2.2.1.2.2.2.2.2.2.2.2.2.1 d.2.2.1.2.2.2.2.2.2.2.2.2.2.1 d.2.2.1.2.2.2.2.2.2.2.2.2.2.2.1 d.2.2.1.2.2.2.2.2.2.2.2.2.2.2.2.1 d.2.2.2.1
section
variable (zqyb : zqtl)
@[reducible] def zquq : Ctx := cx [(13, .spec (zqtm zqyb))]
def zqur {β : Type} (k1 : zqul β) : zqum β := fun t10 x x2 x3 x4 x5 x6 x7 x8 x9 x10 x11 x12 x13 b2_ =>
 zqyb (x, (x2, (x3, (x4, (x5, ((x6, (x7, x8)), (b2_, (x9, (x10, (x11, (x12, x13))))))))))) (fun (rCheck : Bool) =>
 cond (!rCheck)
 (k1 (8 : Int) (0 : Int) (0 : Int) (0 : Int) (0 : Int) ([] : List UInt8) (0 : Int) (0 : Int) (0 : Int) ([] : List zqk) ([] : List zqm) ([] : List Int) ([] : List t7y) (0 : Int) ([] : List Int))
 (k1 (0 : Int) x x2 x3 x4 x5 x6 x7 x8 x9 x10 x11 x12 x13 b2_))
def zqus {β : Type} (k1 : zqul β) : zqum β := zqur zqyb k1
theorem zqut (hΓ : GO (zquq zqyb)) : OK zquo (zqup (zqus zqyb)) :=
 pcE mixed (zquq zqyb) tab_ok hΓ 15 (pick1 []) (by kernel_rfl) CutsOk_nil (fun _ _ => by kernel_rfl)
def zquu (p1 : zqun) : zquj := fun id at_ severity title page k =>
 cond (!decide (page = (0 : Int)))
 (let l : List Int := ([page] : List Int);
 p1 (fun (t11 : Int) (t10 : Int) (t102 : Int) (t103 : Int) (t104 : Int) (t105 : List UInt8) (t106 : Int) (t107 : Int) (t108 : Int) (t109 : List zqk) (t1010 : List zqm) (t1011 : List Int) (t1012 : List t7y) (t1013 : Int) (b1_ : List Int) =>
 k (t10, (t102, (t103, (t104, (t105, ((t106, (t107, t108)), (b1_, (t109, (t1010, (t1011, (t1012, t1013))))))))))) t11) zq18 id (0 : Int) severity at_ title (-1 : Int) (-1 : Int) (-1 : Int) ([] : List zqk) ([] : List zqm) ([] : List Int) ([] : List t7y) (0 : Int) l)
 (p1 (fun (t11 : Int) (t10 : Int) (t102 : Int) (t103 : Int) (t104 : Int) (t105 : List UInt8) (t106 : Int) (t107 : Int) (t108 : Int) (t109 : List zqk) (t1010 : List zqm) (t1011 : List Int) (t1012 : List t7y) (t1013 : Int) (b1_ : List Int) =>
 k (t10, (t102, (t103, (t104, (t105, ((t106, (t107, t108)), (b1_, (t109, (t1010, (t1011, (t1012, t1013))))))))))) t11) zq18 id (0 : Int) severity at_ title (-1 : Int) (-1 : Int) (-1 : Int) ([] : List zqk) ([] : List zqm) ([] : List Int) ([] : List t7y) (0 : Int) ([] : List Int))
theorem zquv (hΓ : GO (zquq zqyb)) (p1 : zqun) (hp1 : OK zquo (zqup p1)) : SpecOk Tryz.prog 18 (zquk (zquu p1)) :=
 pcS mixed (zquq zqyb) tab_ok hΓ (pick1 [(15, zquo.cut (zqup p1))]) [.cell 10 32, .tmp 11] Tryz.func18 (by kernel_rfl) (by kernel_rfl) (by kernel_rfl) (by kernel_rfl) (CutsOk_cons (by kernel_rfl) rfl hp1 CutsOk_nil) (fun _ _ => by kernel_rfl)
end
theorem zquwΓ : GO (zquq zquh) := (ΓOk_cons zqui ΓOk_nil)
def zqux : zqun := zqus zquh
theorem zquy : OK zquo (zqup zqux) := zqut zquh zquwΓ
def zquz : zquj := zquu zqux
theorem zqv0 : SpecOk Tryz.prog 18 (zquk zquz) := zquv zquh zquwΓ zqux zquy
abbrev zqv1 := {β : Type} → zq4 → Int → Int → Int → (zqs → Int → Option β) → Option β
def zqv2 (c : zqv1) : Spec :=
 ⟨[b59y, b21y, b21y, b21y], [], [b43y, b21y], [], fun x k => c x.1.1.1 x.1.2.1.1 x.1.2.2.1.1 x.1.2.2.2.1.1 (fun r0 r1 => k (((r0, ()), (r1, ()), ()), ()))⟩
section
variable (zqxt : zq44)
@[reducible] def zqv3 : Ctx := cx [(37, .spec (zq45 zqxt))]
def zqv4 : zqv1 := fun b id pol start k =>
 zqxt id (1 : Int) (999999 : Int) (fun (rIn : Bool) =>
 cond (!rIn)
 (k zq17 (1 : Int))
 (zqxt start (0 : Int) (8589934592 : Int) (fun (rIn2 : Bool) =>
 cond (!rIn2)
 (k zq17 (1 : Int))
 (zqxt pol (0 : Int) (IntKind.i64.wrap ((List.length b.2 : Int) - (1 : Int))) (fun (rIn3 : Bool) =>
 cond (!rIn3)
 (k zq17 (3 : Int))
 (k (id, (pol, (start, ((0 : Int), (start, ((0 : Int), ((-1 : Int), ((0 : Int), (start, ((0 : Int), ((0 : Int), (([] : List t2y), (([] : List Int), ([] : List Int)))))))))))))) (0 : Int)))))))
theorem zqv5 (hΓ : GO (zqv3 zqxt)) : SpecOk Tryz.prog 29 (zqv2 (zqv4 zqxt)) :=
 pcS mixed (zqv3 zqxt) tab_ok hΓ (pick1 []) [.cell 8 50, .tmp 9] Tryz.func29 (by kernel_rfl) (by kernel_rfl) (by kernel_rfl) (by kernel_rfl) CutsOk_nil (fun _ _ => by kernel_rfl)
end
theorem zqv6Γ : GO (zqv3 zq4a) := (ΓOk_cons zq4b ΓOk_nil)
def zqv7 : zqv1 := zqv4 zq4a
theorem zqv8 : SpecOk Tryz.prog 29 (zqv2 zqv7) := zqv5 zq4a zqv6Γ
abbrev zqv9 := {β : Type} → t6y → Int → (Bool → Option β) → Option β
def zqva (c : zqv9) : Spec :=
 ⟨[b34y, b21y], [], [b25y], [], fun x k => c x.1.1.1 x.1.2.1.1 (fun r0 => k (((r0, ()), ()), ()))⟩
section
variable (zqyc : zqfh)
@[reducible] def zqvb : Ctx := cx [(70, .spec (zqfi zqyc))]
def zqvc : zqv9 := fun s v k =>
 zqyc s v (fun (rIndexintint : Int) =>
 let t : Bool := (decide ((0 : Int) ≤ rIndexintint));
 k t)
theorem zqvd (hΓ : GO (zqvb zqyc)) : SpecOk Tryz.prog 35 (zqva (zqvc zqyc)) :=
 pcS mixed (zqvb zqyc) tab_ok hΓ (pick1 []) [.tmp 4] Tryz.func35 (by kernel_rfl) (by kernel_rfl) (by kernel_rfl) (by kernel_rfl) CutsOk_nil (fun _ _ => by kernel_rfl)
end
theorem zqveΓ : GO (zqvb zqg0) := (ΓOk_cons zqg1 ΓOk_nil)
def zqvf : zqv9 := zqvc zqg0
theorem zqvg : SpecOk Tryz.prog 35 (zqva zqvf) := zqvd zqg0 zqveΓ
abbrev zqvh := {β : Type} → Int → Int → (t0y → Int → Option β) → Option β
def zqvi (c : zqvh) : Spec :=
 ⟨[b21y, b21y], [], [b35y, b21y], [], fun x k => c x.1.1.1 x.1.2.1.1 (fun r0 r1 => k (((r0, ()), (r1, ()), ()), ()))⟩
section
variable (zqyd : zqgi) (zqye : zqh2) (zqyf : zqga)
@[reducible] def zqvj : Ctx := cx [(74, .spec (zqgj zqyd)), (75, .spec (zqh3 zqye)), (73, .spec (zqgb zqyf))]
def zqvk : zqvh := fun num den k =>
 cond (decide (den < (1 : Int)))
 (k ((0 : Int), (0 : Int)) (1 : Int))
 (cond (decide ((4611686018427387904 : Int) < den))
 (k ((0 : Int), (0 : Int)) (1 : Int))
 (zqyf num (fun (rwithin : Bool) =>
 cond (!rwithin)
 (k ((0 : Int), (0 : Int)) (1 : Int))
 (zqye num (fun (rsize : Int) =>
 zqyd rsize den (fun (rgcd : Int) =>
 cond (!decide (rgcd = 0))
 (cond (!decide (rgcd = 0))
 (k ((IntKind.i64.wrap (Int.tdiv num rgcd)), (IntKind.i64.wrap (Int.tdiv den rgcd))) (0 : Int))
 none)
 none))))))
theorem zqvl (hΓ : GO (zqvj zqyd zqye zqyf)) : SpecOk Tryz.prog 45 (zqvi (zqvk zqyd zqye zqyf)) :=
 pcS mixed (zqvj zqyd zqye zqyf) tab_ok hΓ (pick1 []) [.cell 4 70, .tmp 5] Tryz.func45 (by kernel_rfl) (by kernel_rfl) (by kernel_rfl) (by kernel_rfl) CutsOk_nil (fun _ _ => by kernel_rfl)
end
theorem zqvmΓ : GO (zqvj zqh0 zqh8 zqgg) := (ΓOk_cons zqh1 (ΓOk_cons zqh9 (ΓOk_cons zqgh ΓOk_nil)))
def zqvn : zqvh := zqvk zqh0 zqh8 zqgg
theorem zqvo : SpecOk Tryz.prog 45 (zqvi zqvn) := zqvl zqh0 zqh8 zqgg zqvmΓ
abbrev zqvp := {β : Type} → t8y → ((List Int × List Int) → Option β) → Option β
def zqvq (c : zqvp) : Spec :=
 ⟨[b26y], [], [(true, [.data (.prod (.slice (.int .i64)) (.slice (.int .i64)))])], [], fun x k => c x.1.1.1 (fun r0 => k (((r0, ()), ()), ()))⟩
section
variable (zqyg : zqha)
@[reducible] def zqvr : Ctx := cx [(76, .spec (zqhb zqyg)), (77, .rows zqhw)]
def zqvs : zqvp := fun l k =>
 zqyg l (fun (lrsplit : List Int) (lrsplit2 : List Int) =>
 cond (decide (List.length lrsplit < 4611686018427387904))
 (let l2 : List Int := (sortInts lrsplit);
 cond (decide (List.length lrsplit2 < 4611686018427387904))
 (let l3 : List Int := (sortInts lrsplit2);
 k (l2, l3))
 none)
 none)
theorem zqvt (hΓ : GO (zqvr zqyg)) : SpecOk Tryz.prog 47 (zqvq (zqvs zqyg)) :=
 pcS mixed (zqvr zqyg) tab_ok hΓ (pick1 []) [.cell 2 137] Tryz.func47 (by kernel_rfl) (by kernel_rfl) (by kernel_rfl) (by kernel_rfl) CutsOk_nil (fun _ _ => by kernel_rfl)
end
theorem zqvuΓ : GO (zqvr zqhs) := (ΓOk_cons zqht (ΓOk_row zqhx ΓOk_nil))
def zqvv : zqvp := zqvs zqhs
theorem zqvw : SpecOk Tryz.prog 47 (zqvq zqvv) := zqvt zqhs zqvuΓ
abbrev zqvx := {β : Type} → zqq → (Int → Option β) → Option β
def zqvy (c : zqvx) : Spec :=
 ⟨[b33y], [], [b21y], [], fun x k => c x.1.1.1 (fun r0 => k (((r0, ()), ()), ()))⟩
section
variable (zqyb : zqtl)
@[reducible] def zqvz : Ctx := cx [(13, .spec (zqtm zqyb))]
def zqw0 : zqvx := fun x k =>
 zqyb x (fun (rCheck : Bool) =>
 cond (!rCheck)
 (k (8 : Int))
 (cond (decide (x.2.1 = (3 : Int)))
 (k (9 : Int))
 (let t : Bool := (decide (x.2.1 = (4 : Int)));
 cond t
 (k (9 : Int))
 (k (0 : Int)))))
theorem zqw1 (hΓ : GO (zqvz zqyb)) : SpecOk Tryz.prog 48 (zqvy (zqw0 zqyb)) :=
 pcS mixed (zqvz zqyb) tab_ok hΓ (pick1 []) [.tmp 2] Tryz.func48 (by kernel_rfl) (by kernel_rfl) (by kernel_rfl) (by kernel_rfl) CutsOk_nil (fun _ _ => by kernel_rfl)
end
theorem zqw2Γ : GO (zqvz zquh) := (ΓOk_cons zqui ΓOk_nil)
def zqw3 : zqvx := zqw0 zquh
theorem zqw4 : SpecOk Tryz.prog 48 (zqvy zqw3) := zqw1 zquh zqw2Γ
abbrev zqw5 := {β : Type} → zq4 → zqs → (Bool → Option β) → Option β
def zqw6 (c : zqw5) : Spec :=
 ⟨[b59y, b43y], [], [b25y], [], fun x k => c x.1.1.1 x.1.2.1.1 (fun r0 => k (((r0, ()), ()), ()))⟩
abbrev zqw7 (β : Type) := Bool → Option β
abbrev zqw8 (β : Type) := Unit → Option β
abbrev zqw9 (β : Type) := Int → zqs → Option β
abbrev zqwa := {β : Type} → zqw7 β → zqw8 β → zqw9 β
noncomputable def zqwb : Pc := ⟨118, 0, codeAt 250 (bodyOf Tryz.f54), ⟨0, [3, 7], [b23y, b21y], [b28y]⟩, [(.ret, ⟨0, [4], [b25y], []⟩), (.exit 0, ⟨0, [], [], []⟩)]⟩
@[reducible] def zqwc (p : zqwa) : zqwb.G := fun d ks => p (fun a0 => ks.1 (((a0, ()), ()), ())) (fun _ => ks.2.1 ((), ())) d.1.2.1.1 d.2.1.1
section
variable (zqy5 : zqij) (zqyh : zq1x) (zqxt : zq44) (zqxu : zq5d) (zqyi : zqhy) (zqyj : zqv1) (zqyk : zqir)
@[reducible] def zqwd : Ctx := cx [(79, .spec (zqik zqy5)), (14, .spec (zq1y zqyh)), (37, .spec (zq45 zqxt)), (41, .spec (zq5e zqxu)), (78, .spec (zqhz zqyi)), (29, .spec (zqv2 zqyj)), (80, .spec (zqis zqyk))]
def zqwe {β : Type} (rec : zqw9 β) (k1 : zqw7 β) (k2 : zqw8 β) : zqw9 β := fun i_ p_ =>
 cond (decide (i_ < (List.length p_.2.2.2.2.2.2.2.2.2.2.2.2.2 : Int)))
 (cond (decide (0 ≤ (0 : Int)) && (decide ((0 : Int) ≤ i_) && decide (i_ ≤ (List.length p_.2.2.2.2.2.2.2.2.2.2.2.2.2 : Int))))
 (cond (decide (0 ≤ i_) && decide (i_ < (List.length p_.2.2.2.2.2.2.2.2.2.2.2.2.2 : Int)))
 (let e : Int := List.getD p_.2.2.2.2.2.2.2.2.2.2.2.2.2 (Int.toNat i_) (0 : Int);
 zqyh (List.drop (Int.toNat (0 : Int)) (List.take (Int.toNat i_) p_.2.2.2.2.2.2.2.2.2.2.2.2.2)) e (fun (rHas : Bool) =>
 cond rHas
 (k1 false)
 (let i_2 : Int := (IntKind.i64.wrap (i_ + (1 : Int)));
 rec i_2 p_)))
 none)
 none)
 (k2 ())
def zqwf {β : Type} (i : Nat) (k1 : zqw7 β) (k2 : zqw8 β) := lp2 (fun r => zqwe zqyh r k1 k2) none i
theorem zqwg (hΓ : GO (zqwd zqy5 zqyh zqxt zqxu zqyi zqyj zqyk)) (i : Nat) : OK zqwb (zqwc (zqwf zqyh i)) :=
 pcL mixed (zqwd zqy5 zqyh zqxt zqxu zqyi zqyj zqyk) tab_ok hΓ (G := fun i => @fun β d ks => zqwc (zqwf zqyh i) d ks) (pick1 []) (by kernel_rfl) rfl (by kernel_rfl) CutsOk_nil (fun _ _ => rfl) (fun _ _ _ _ => by kernel_rfl) i
def zqwh (p1 : zqwa) : zqw5 := fun b p_ k =>
 zqyj b p_.1 p_.2.1 p_.2.2.1 (fun (rNew : zqs) (rNew2 : Int) =>
 cond (!decide (rNew2 = (0 : Int)))
 (k false)
 (cond (decide (0 ≤ p_.2.1) && decide (p_.2.1 < (List.length b.2 : Int)))
 (let e : zq2 := List.getD b.2 (Int.toNat p_.2.1) (([] : List UInt8), (([] : List zq0), (0 : Int)));
 zqyi e (fun (rWaits : Bool) =>
 cond (!rWaits)
 (k false)
 (cond (decide (0 ≤ p_.2.1) && decide (p_.2.1 < (List.length b.2 : Int)))
 (let e2 : zq2 := List.getD b.2 (Int.toNat p_.2.1) (([] : List UInt8), (([] : List zq0), (0 : Int)));
 zqy5 e2 (fun (rCount : Int) =>
 zqxt p_.2.2.2.1 (0 : Int) rCount (fun (rIn : Bool) =>
 cond (!rIn)
 (k false)
 (zqxt p_.2.2.2.2.2.1 (0 : Int) (4 : Int) (fun (rIn2 : Bool) =>
 cond (!rIn2)
 (k false)
 (zqxt p_.2.2.2.2.2.2.1 (-1 : Int) (31 : Int) (fun (rIn3 : Bool) =>
 cond (!rIn3)
 (k false)
 (zqxt p_.2.2.2.2.2.2.2.2.1 p_.2.2.1 (17179869184 : Int) (fun (rIn4 : Bool) =>
 cond (!rIn4)
 (k false)
 (zqxt p_.2.2.2.2.1 (0 : Int) (17179869184 : Int) (fun (rIn5 : Bool) =>
 cond (!rIn5)
 (k false)
 (zqxt p_.2.2.2.2.2.2.2.1 (0 : Int) (17179869184 : Int) (fun (rIn6 : Bool) =>
 cond (!rIn6)
 (k false)
 (zqxt p_.2.2.2.2.2.2.2.2.2.1 (0 : Int) (4 : Int) (fun (rIn7 : Bool) =>
 cond (!rIn7)
 (k false)
 (zqxt p_.2.2.2.2.2.2.2.2.2.2.1 (0 : Int) (4 : Int) (fun (rIn8 : Bool) =>
 cond (!rIn8)
 (k false)
 (zqyk p_ (fun (rstarts : Bool) =>
 cond (!rstarts)
 (k false)
 (zqxu p_.2.2.2.2.2.2.2.2.2.2.2.2.1 (32 : Int) (fun (rSet : Bool) =>
 cond (!rSet)
 (k false)
 (cond (decide ((64 : Int) < (List.length p_.2.2.2.2.2.2.2.2.2.2.2.2.2 : Int)))
 (k false)
 (p1 (fun (t4 : Bool) =>
 k t4) (fun (_ : Unit) =>
 k true) (0 : Int) p_)))))))))))))))))))))))
 none)))
 none))
theorem zqwi (hΓ : GO (zqwd zqy5 zqyh zqxt zqxu zqyi zqyj zqyk)) (p1 : zqwa) (hp1 : OK zqwb (zqwc p1)) : SpecOk Tryz.prog 54 (zqw6 (zqwh zqy5 zqxt zqxu zqyi zqyj zqyk p1)) :=
 pcS mixed (zqwd zqy5 zqyh zqxt zqxu zqyi zqyj zqyk) tab_ok hΓ (pick1 [(250, zqwb.cut (zqwc p1))]) [.tmp 4] Tryz.func54 (by kernel_rfl) (by kernel_rfl) (by kernel_rfl) (by kernel_rfl) (CutsOk_cons (by kernel_rfl) rfl hp1 CutsOk_nil) (fun _ _ => by kernel_rfl)
end
theorem zqwjΓ : GO (zqwd zqip zq2g zq4a zq5w zqih zqv7 zqjk) := (ΓOk_cons zqiq (ΓOk_cons zq2h (ΓOk_cons zq4b (ΓOk_cons zq5x (ΓOk_cons zqii (ΓOk_cons zqv8 (ΓOk_cons zqjl ΓOk_nil)))))))
def zqwk (m : Nat) : zqwa := zqwf zq2g m
theorem zqwl {β : Type} (i : Nat) (k1 k2) : zqwk (β := β) (i + 1) k1 k2 = zqwe zq2g (zqwk i k1 k2) k1 k2 := rfl
def zqwm : zqwa := zqwk fuel
theorem zqwn : OK zqwb (zqwc zqwm) := zqwg zqip zq2g zq4a zq5w zqih zqv7 zqjk zqwjΓ fuel
def zqwo : zqw5 := zqwh zqip zq4a zq5w zqih zqv7 zqjk zqwm
theorem zqwp : SpecOk Tryz.prog 54 (zqw6 zqwo) := zqwi zqip zq2g zq4a zq5w zqih zqv7 zqjk zqwjΓ zqwm zqwn
abbrev zqwq := {β : Type} → Int → (Bool → Option β) → Option β
def zqwr (c : zqwq) : Spec :=
 ⟨[b21y], [], [b25y], [], fun x k => c x.1.1.1 (fun r0 => k (((r0, ()), ()), ()))⟩
section
variable (zqy0 : zqda)
@[reducible] def zqws : Ctx := cx [(62, .spec (zqdb zqy0))]
def zqwt : zqwq := fun n k =>
 zqy0 n (1 : Int) (999999 : Int) (fun (rin : Bool) =>
 k rin)
theorem zqwu (hΓ : GO (zqws zqy0)) : SpecOk Tryz.prog 61 (zqwr (zqwt zqy0)) :=
 pcS mixed (zqws zqy0) tab_ok hΓ (pick1 []) [.tmp 2] Tryz.func61 (by kernel_rfl) (by kernel_rfl) (by kernel_rfl) (by kernel_rfl) CutsOk_nil (fun _ _ => by kernel_rfl)
end
theorem zqwvΓ : GO (zqws zqdg) := (ΓOk_cons zqdh ΓOk_nil)
def zqww : zqwq := zqwt zqdg
theorem zqwx : SpecOk Tryz.prog 61 (zqwr zqww) := zqwu zqdg zqwvΓ
abbrev zqwy := {β : Type} → Int → (Bool → Option β) → Option β
def zqwz (c : zqwy) : Spec :=
 ⟨[b21y], [], [b25y], [], fun x k => c x.1.1.1 (fun r0 => k (((r0, ()), ()), ()))⟩
section
variable (zqyl : zqju)
@[reducible] def zqx0 : Ctx := cx [(84, .spec (zqjv zqyl))]
def zqx1 : zqwy := fun n k =>
 cond (decide (n = (-1 : Int)))
 (k true)
 (zqyl n (fun (rperson : Bool) =>
 k rperson))
theorem zqx2 (hΓ : GO (zqx0 zqyl)) : SpecOk Tryz.prog 64 (zqwz (zqx1 zqyl)) :=
 pcS mixed (zqx0 zqyl) tab_ok hΓ (pick1 []) [.tmp 2] Tryz.func64 (by kernel_rfl) (by kernel_rfl) (by kernel_rfl) (by kernel_rfl) CutsOk_nil (fun _ _ => by kernel_rfl)
end
theorem zqx3Γ : GO (zqx0 zqk0) := (ΓOk_cons zqk1 ΓOk_nil)
def zqx4 : zqwy := zqx1 zqk0
theorem zqx5 : SpecOk Tryz.prog 64 (zqwz zqx4) := zqx2 zqk0 zqx3Γ
abbrev zqx6 := {β : Type} → zqq → (Bool → Option β) → Option β
def zqx7 (c : zqx6) : Spec :=
 ⟨[b33y], [], [b25y], [], fun x k => c x.1.1.1 (fun r0 => k (((r0, ()), ()), ()))⟩
abbrev zqx8 (β : Type) := Bool → Option β
abbrev zqx9 (β : Type) := zqq → Option β
abbrev zqxa (β : Type) := t19y → Int → Int → zqq → Option β
abbrev zqxb := {β : Type} → zqx8 β → zqx9 β → zqxa β
noncomputable def zqxc : Pc := ⟨48, 0, codeAt 26 (bodyOf Tryz.f67), ⟨0, [1, 6, 7, 8], [b23y, (false, [.data (.slice zql)]), b21y, b21y], [b24y]⟩, [(.ret, ⟨0, [2], [b25y], []⟩), (.exit 0, ⟨0, [1], [b23y], [b24y]⟩)]⟩
@[reducible] def zqxd (p : zqxb) : zqxc.G := fun d ks => p (fun a0 => ks.1 (((a0, ()), ()), ())) (fun a0 => ks.2.1 (((), ()), ((a0, ()), ()))) d.1.2.1.1 d.1.2.2.1.1 d.1.2.2.2.1.1 d.2.1.1
section
variable (zqy2 : zqdi) (zqy0 : zqda) (zqym : zqwy)
@[reducible] def zqxe : Ctx := cx [(63, .spec (zqdj zqy2)), (62, .spec (zqdb zqy0)), (64, .spec (zqwz zqym))]
def zqxf {β : Type} (rec : zqxa β) (k1 : zqx8 β) (k2 : zqx9 β) : zqxa β := fun t6 t7 t8 x =>
 cond (decide (t8 < t7))
 (cond (decide (0 ≤ t8) && decide (t8 < (List.length t6 : Int)))
 (let e : zqk := List.getD t6 (Int.toNat t8) (([] : List UInt8), ((0 : Int), ((0 : Int), (0 : Int))));
 zqy2 e.1 (fun (rText : Bool) =>
 cond (!rText)
 (k1 false)
 (zqym e.2.1 (fun (rsomebody : Bool) =>
 cond (!rsomebody)
 (k1 false)
 (zqy0 e.2.2.1 x.2.2.2.1 (8589934592 : Int) (fun (rin : Bool) =>
 cond (!rin)
 (k1 false)
 (cond (!decide (e.2.2.2 = (-1 : Int)))
 (zqy0 e.2.2.2 e.2.2.1 (8589934592 : Int) (fun (rin2 : Bool) =>
 cond (!rin2)
 (k1 false)
 (rec t6 t7 (IntKind.i64.wrap (t8 + (1 : Int))) x)))
 (rec t6 t7 (IntKind.i64.wrap (t8 + (1 : Int))) x))))))))
 none)
 (k2 x)
def zqxg {β : Type} (i : Nat) (k1 : zqx8 β) (k2 : zqx9 β) := lp4 (fun r => zqxf zqy2 zqy0 zqym r k1 k2) none i
theorem zqxh (hΓ : GO (zqxe zqy2 zqy0 zqym)) (i : Nat) : OK zqxc (zqxd (zqxg zqy2 zqy0 zqym i)) :=
 pcL mixed (zqxe zqy2 zqy0 zqym) tab_ok hΓ (G := fun i => @fun β d ks => zqxd (zqxg zqy2 zqy0 zqym i) d ks) (pick1 []) (by kernel_rfl) rfl (by kernel_rfl) CutsOk_nil (fun _ _ => rfl) (fun _ _ _ _ => by kernel_rfl) i
def zqxi (p1 : zqxb) : zqx6 := fun x k =>
 p1 (fun (t2 : Bool) =>
 k t2) (fun (x2 : zqq) =>
 let t : Bool := (decide ((List.length x2.2.2.2.2.2.2.2.1 : Int) ≤ (16 : Int)));
 k t) x.2.2.2.2.2.2.2.1 (List.length x.2.2.2.2.2.2.2.1 : Int) (0 : Int) x
theorem zqxj (hΓ : GO (zqxe zqy2 zqy0 zqym)) (p1 : zqxb) (hp1 : OK zqxc (zqxd p1)) : SpecOk Tryz.prog 67 (zqx7 (zqxi p1)) :=
 pcS mixed (zqxe zqy2 zqy0 zqym) tab_ok hΓ (pick1 [(26, zqxc.cut (zqxd p1))]) [.tmp 2] Tryz.func67 (by kernel_rfl) (by kernel_rfl) (by kernel_rfl) (by kernel_rfl) (CutsOk_cons (by kernel_rfl) rfl hp1 CutsOk_nil) (fun _ _ => by kernel_rfl)
end
theorem zqxkΓ : GO (zqxe zqe1 zqdg zqx4) := (ΓOk_cons zqe2 (ΓOk_cons zqdh (ΓOk_cons zqx5 ΓOk_nil)))
def zqxl (m : Nat) : zqxb := zqxg zqe1 zqdg zqx4 m
theorem zqxm {β : Type} (i : Nat) (k1 k2) : zqxl (β := β) (i + 1) k1 k2 = zqxf zqe1 zqdg zqx4 (zqxl i k1 k2) k1 k2 := rfl
def zqxn : zqxb := zqxl fuel
theorem zqxo : OK zqxc (zqxd zqxn) := zqxh zqe1 zqdg zqx4 zqxkΓ fuel
def zqxp : zqx6 := zqxi zqxn
theorem zqxq : SpecOk Tryz.prog 67 (zqx7 zqxp) := zqxj zqe1 zqdg zqx4 zqxkΓ zqxn zqxo
end
end Go.Lift
