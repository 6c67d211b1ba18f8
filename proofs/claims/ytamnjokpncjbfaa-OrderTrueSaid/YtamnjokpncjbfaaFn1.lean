import Derived.Test.YtamnjokpncjbfaaLiftY
import Derived.Test.YtamnjokpncjbfaaFn0
import Derived.Test.YtamnjokpncjbfaaProg
namespace Go.Lift
open Go.Proofs
noncomputable section
set_option maxRecDepth 100000
set_option linter.unusedVariables false

/-- pagewatch/pagewatchlaw38.ClockExact -/
abbrev T_law38_ClockExact := {β : Type} → (List Int) → api_Record → (List UInt8 × Int) → (Int × (Int × (Int × Int))) → (Int × Int) → (Int × Int) → Int → Int → (Bool → Option β) → Option β
def law38_ClockExact_S (c : T_law38_ClockExact) : Spec :=
  ⟨[(false, [.data (.slice (.int .i64))]), (true, [.data y_api_Record]), (true, [.data (.prod .str (.int .i64))]), (true, [.data (.prod (.int .i64) (.prod (.int .i64) (.prod (.int .i64) (.int .i64))))]), (true, [.data (.prod (.int .i64) (.int .i64))]), (true, [.data (.prod (.int .i64) (.int .i64))]), (false, [.data (.int .i64)]), (false, [.data (.int .i64)])], [], [(false, [.data .bool])], [], fun x k => c x.1.1.1 x.1.2.1.1 x.1.2.2.1.1 x.1.2.2.2.1.1 x.1.2.2.2.2.1.1 x.1.2.2.2.2.2.1.1 x.1.2.2.2.2.2.2.1.1 x.1.2.2.2.2.2.2.2.1.1 (fun r0 => k (((r0, ()), ()), ()))⟩
noncomputable def law38_ClockExact_p2_code : Code := codeAt 250 (bodyOf Try.f6)
noncomputable def law38_ClockExact_p3_code : Code := codeAt 1018 (bodyOf Try.f6)
noncomputable def law38_ClockExact_p1_code : Code := codeAt 462 (loopBody law38_ClockExact_p2_code)
abbrev law38_ClockExact_p1_K1 (β : Type) := Bool → Option β
abbrev law38_ClockExact_p1_K2 (β : Type) := Int → Int → Int → Int → (List UInt8) → Int → Int → Int → Int → Int → Int → Int → Int → Int → (List Int) → Int → (List api_Record) → Option β
abbrev law38_ClockExact_p1_T := {β : Type} → law38_ClockExact_p1_K1 β → law38_ClockExact_p1_K2 β → Int → Int → Int → Int → Int → Int → (List UInt8) → Int → Int → Int → Int → Int → Int → Int → Int → Int → (List Int) → Int → (List (List UInt8 × Int)) → (List (Int × (Int × (Int × Int)))) → (List api_Event) → (List (Int × (Int × Int))) → (List api_Record) → (List (Int × Int)) → Option β
def law38_ClockExact_p1_v : View := ⟨0, [6, 7, 10, 11, 12, 13, 17, 21, 75, 76, 77, 100, 101, 102], [(false, [.data (.int .i64)]), (false, [.data (.int .i64)]), (false, [.ptr 0 0]), (false, [.ptr 1 0]), (false, [.ptr 2 0]), (false, [.ptr 3 0]), (false, [.ptr 4 0]), (false, [.ptr 5 0]), (false, [.rowh 6]), (false, [.data (.int .i64)]), (false, [.data (.int .i64)]), (false, [.rowh 7]), (false, [.data (.int .i64)]), (false, [.data (.int .i64)])], [.cells 35 [.data .str, .data (.int .i64)], .cells 43 [.data (.int .i64), .data (.int .i64), .data (.int .i64), .data (.int .i64)], .cells 45 [.data (.int .i64), .data (.int .i64)], .cells 45 [.data (.int .i64), .data (.int .i64)], .cells 82 [.data (.slice (.int .i64)), .data (.int .i64)], .cells 41 [.data (.slice (.prod .str (.int .i64))), .data (.slice (.prod (.int .i64) (.prod (.int .i64) (.prod (.int .i64) (.int .i64))))), .data (.slice y_api_Event), .data (.slice (.prod (.int .i64) (.prod (.int .i64) (.int .i64))))], .row 41 y_api_Record, .row 56 (.prod (.int .i64) (.int .i64))]⟩
def law38_ClockExact_p1_o : List (AExit × View) := [(.ret, ⟨0, [16], [(false, [.data .bool])], []⟩), (.exit 2, ⟨0, [6, 7, 10, 11, 12, 13, 17, 75, 76, 77], [(false, [.data (.int .i64)]), (false, [.data (.int .i64)]), (false, [.ptr 0 0]), (false, [.ptr 1 0]), (false, [.ptr 2 0]), (false, [.ptr 3 0]), (false, [.ptr 4 0]), (false, [.rowh 5]), (false, [.data (.int .i64)]), (false, [.data (.int .i64)])], [.cells 35 [.data .str, .data (.int .i64)], .cells 43 [.data (.int .i64), .data (.int .i64), .data (.int .i64), .data (.int .i64)], .cells 45 [.data (.int .i64), .data (.int .i64)], .cells 45 [.data (.int .i64), .data (.int .i64)], .cells 82 [.data (.slice (.int .i64)), .data (.int .i64)], .row 41 y_api_Record]⟩)]
@[reducible] def law38_ClockExact_p1_G (p : law38_ClockExact_p1_T) {β : Type} (d : law38_ClockExact_p1_v.den) (ks : Outs.K β law38_ClockExact_p1_o) : Option β :=
  p (fun a0 => ks.1 (((a0, ()), ()), ())) (fun a0 a1 a2 a3 a4 a5 a6 a7 a8 a9 a10 a11 a12 a13 a14 a15 a16 => ks.2.1 (((a0, ()), (a1, ()), (), (), (), (), (), (), (a2, ()), (a3, ()), ()), ((a4, a5, ()), (a6, a7, a8, a9, ()), (a10, a11, ()), (a12, a13, ()), (a14, a15, ()), a16, ()))) d.1.1.1 d.1.2.1.1 d.1.2.2.2.2.2.2.2.2.2.1.1 d.1.2.2.2.2.2.2.2.2.2.2.1.1 d.1.2.2.2.2.2.2.2.2.2.2.2.2.1.1 d.1.2.2.2.2.2.2.2.2.2.2.2.2.2.1.1 d.2.1.1 d.2.1.2.1 d.2.2.1.1 d.2.2.1.2.1 d.2.2.1.2.2.1 d.2.2.1.2.2.2.1 d.2.2.2.1.1 d.2.2.2.1.2.1 d.2.2.2.2.1.1 d.2.2.2.2.1.2.1 d.2.2.2.2.2.1.1 d.2.2.2.2.2.1.2.1 d.2.2.2.2.2.2.1.1 d.2.2.2.2.2.2.1.2.1 d.2.2.2.2.2.2.1.2.2.1 d.2.2.2.2.2.2.1.2.2.2.1 d.2.2.2.2.2.2.2.1 d.2.2.2.2.2.2.2.2.1
abbrev law38_ClockExact_p2_K1 (β : Type) := Bool → Option β
abbrev law38_ClockExact_p2_K2 (β : Type) := Int → Int → (List UInt8) → Int → Int → Int → Int → Int → Int → Int → Int → Int → (List Int) → Int → Option β
abbrev law38_ClockExact_p2_T := {β : Type} → law38_ClockExact_p2_K1 β → law38_ClockExact_p2_K2 β → Int → Int → Int → Int → (List UInt8) → Int → Int → Int → Int → Int → Int → Int → Int → Int → (List Int) → Int → (List api_Record) → Option β
def law38_ClockExact_p2_v : View := ⟨0, [6, 7, 10, 11, 12, 13, 17, 75, 76, 77], [(false, [.data (.int .i64)]), (false, [.data (.int .i64)]), (false, [.ptr 0 0]), (false, [.ptr 1 0]), (false, [.ptr 2 0]), (false, [.ptr 3 0]), (false, [.ptr 4 0]), (false, [.rowh 5]), (false, [.data (.int .i64)]), (false, [.data (.int .i64)])], [.cells 35 [.data .str, .data (.int .i64)], .cells 43 [.data (.int .i64), .data (.int .i64), .data (.int .i64), .data (.int .i64)], .cells 45 [.data (.int .i64), .data (.int .i64)], .cells 45 [.data (.int .i64), .data (.int .i64)], .cells 82 [.data (.slice (.int .i64)), .data (.int .i64)], .row 41 y_api_Record]⟩
def law38_ClockExact_p2_o : List (AExit × View) := [(.ret, ⟨0, [16], [(false, [.data .bool])], []⟩), (.exit 0, ⟨0, [6, 7, 10, 11, 12, 13, 17], [(false, [.data (.int .i64)]), (false, [.data (.int .i64)]), (false, [.ptr 0 0]), (false, [.ptr 1 0]), (false, [.ptr 2 0]), (false, [.ptr 3 0]), (false, [.ptr 4 0])], [.cells 35 [.data .str, .data (.int .i64)], .cells 43 [.data (.int .i64), .data (.int .i64), .data (.int .i64), .data (.int .i64)], .cells 45 [.data (.int .i64), .data (.int .i64)], .cells 45 [.data (.int .i64), .data (.int .i64)], .cells 82 [.data (.slice (.int .i64)), .data (.int .i64)]]⟩)]
@[reducible] def law38_ClockExact_p2_G (p : law38_ClockExact_p2_T) {β : Type} (d : law38_ClockExact_p2_v.den) (ks : Outs.K β law38_ClockExact_p2_o) : Option β :=
  p (fun a0 => ks.1 (((a0, ()), ()), ())) (fun a0 a1 a2 a3 a4 a5 a6 a7 a8 a9 a10 a11 a12 a13 => ks.2.1 (((a0, ()), (a1, ()), (), (), (), (), (), ()), ((a2, a3, ()), (a4, a5, a6, a7, ()), (a8, a9, ()), (a10, a11, ()), (a12, a13, ()), ()))) d.1.1.1 d.1.2.1.1 d.1.2.2.2.2.2.2.2.2.1.1 d.1.2.2.2.2.2.2.2.2.2.1.1 d.2.1.1 d.2.1.2.1 d.2.2.1.1 d.2.2.1.2.1 d.2.2.1.2.2.1 d.2.2.1.2.2.2.1 d.2.2.2.1.1 d.2.2.2.1.2.1 d.2.2.2.2.1.1 d.2.2.2.2.1.2.1 d.2.2.2.2.2.1.1 d.2.2.2.2.2.1.2.1 d.2.2.2.2.2.2.1
abbrev law38_ClockExact_p3_K1 (β : Type) := Bool → Option β
abbrev law38_ClockExact_p3_K2 (β : Type) := Int → Int → (List UInt8) → Int → Int → Int → Int → Int → Int → Int → Int → Int → (List Int) → Int → Option β
abbrev law38_ClockExact_p3_T := {β : Type} → law38_ClockExact_p3_K1 β → law38_ClockExact_p3_K2 β → Int → Int → Int → Int → (List UInt8) → Int → Int → Int → Int → Int → Int → Int → Int → Int → (List Int) → Int → (List (Int × Int)) → Option β
def law38_ClockExact_p3_v : View := ⟨0, [6, 10, 11, 12, 13, 17, 28, 149, 150, 151], [(false, [.data (.int .i64)]), (false, [.ptr 0 0]), (false, [.ptr 1 0]), (false, [.ptr 2 0]), (false, [.ptr 3 0]), (false, [.ptr 4 0]), (false, [.data (.int .i64)]), (false, [.rowh 5]), (false, [.data (.int .i64)]), (false, [.data (.int .i64)])], [.cells 35 [.data .str, .data (.int .i64)], .cells 43 [.data (.int .i64), .data (.int .i64), .data (.int .i64), .data (.int .i64)], .cells 45 [.data (.int .i64), .data (.int .i64)], .cells 45 [.data (.int .i64), .data (.int .i64)], .cells 82 [.data (.slice (.int .i64)), .data (.int .i64)], .row 56 (.prod (.int .i64) (.int .i64))]⟩
def law38_ClockExact_p3_o : List (AExit × View) := [(.ret, ⟨0, [16], [(false, [.data .bool])], []⟩), (.exit 4, ⟨0, [6, 10, 11, 12, 13, 17, 28], [(false, [.data (.int .i64)]), (false, [.ptr 0 0]), (false, [.ptr 1 0]), (false, [.ptr 2 0]), (false, [.ptr 3 0]), (false, [.ptr 4 0]), (false, [.data (.int .i64)])], [.cells 35 [.data .str, .data (.int .i64)], .cells 43 [.data (.int .i64), .data (.int .i64), .data (.int .i64), .data (.int .i64)], .cells 45 [.data (.int .i64), .data (.int .i64)], .cells 45 [.data (.int .i64), .data (.int .i64)], .cells 82 [.data (.slice (.int .i64)), .data (.int .i64)]]⟩)]
@[reducible] def law38_ClockExact_p3_G (p : law38_ClockExact_p3_T) {β : Type} (d : law38_ClockExact_p3_v.den) (ks : Outs.K β law38_ClockExact_p3_o) : Option β :=
  p (fun a0 => ks.1 (((a0, ()), ()), ())) (fun a0 a1 a2 a3 a4 a5 a6 a7 a8 a9 a10 a11 a12 a13 => ks.2.1 (((a0, ()), (), (), (), (), (), (a1, ()), ()), ((a2, a3, ()), (a4, a5, a6, a7, ()), (a8, a9, ()), (a10, a11, ()), (a12, a13, ()), ()))) d.1.1.1 d.1.2.2.2.2.2.2.1.1 d.1.2.2.2.2.2.2.2.2.1.1 d.1.2.2.2.2.2.2.2.2.2.1.1 d.2.1.1 d.2.1.2.1 d.2.2.1.1 d.2.2.1.2.1 d.2.2.1.2.2.1 d.2.2.1.2.2.2.1 d.2.2.2.1.1 d.2.2.2.1.2.1 d.2.2.2.2.1.1 d.2.2.2.2.1.2.1 d.2.2.2.2.2.1.1 d.2.2.2.2.2.1.2.1 d.2.2.2.2.2.2.1
section
variable (c_clock_Elapsed : T_clock_Elapsed) (c_clock_Empty : T_clock_Empty) (c_clock_From : T_clock_From) (c_clock_Meet : T_clock_Meet) (c_clock_Shift : T_clock_Shift) (c_clock_Valid : T_clock_Valid) (c_clock_When : T_clock_When) (c_law38_sane : T_law38_sane) (c_made_Dice_Next : T_made_Dice_Next) (c_made_Dice_OddRecord : T_made_Dice_OddRecord) (c_made_Dice_One : T_made_Dice_One) (c_made_Dice_Record : T_made_Dice_Record) (c_made_Light : T_made_Light) (c_made_Roll : T_made_Roll) (c_ref38_Elapsed : T_ref38_Elapsed) (c_ref38_Empty : T_ref38_Empty) (c_ref38_From : T_ref38_From) (c_ref38_Meet : T_ref38_Meet) (c_ref38_Shift : T_ref38_Shift) (c_ref38_Valid : T_ref38_Valid) (c_ref38_When : T_ref38_When)
@[reducible] def law38_ClockExact_X : Ctx := ⟨look tab, pick1 [(15, .spec (clock_Elapsed_S c_clock_Elapsed)), (36, .spec (clock_Empty_S c_clock_Empty)), (26, .spec (clock_From_S c_clock_From)), (34, .spec (clock_Meet_S c_clock_Meet)), (27, .spec (clock_Shift_S c_clock_Shift)), (29, .spec (clock_Valid_S c_clock_Valid)), (24, .spec (clock_When_S c_clock_When)), (16, .spec (law38_sane_S c_law38_sane)), (20, .spec (made_Dice_Next_S c_made_Dice_Next)), (28, .spec (made_Dice_OddRecord_S c_made_Dice_OddRecord)), (19, .spec (made_Dice_One_S c_made_Dice_One)), (25, .spec (made_Dice_Record_S c_made_Dice_Record)), (17, .spec (made_Light_S c_made_Light)), (18, .spec (made_Roll_S c_made_Roll)), (32, .spec (ref38_Elapsed_S c_ref38_Elapsed)), (37, .spec (ref38_Empty_S c_ref38_Empty)), (33, .spec (ref38_From_S c_ref38_From)), (35, .spec (ref38_Meet_S c_ref38_Meet)), (38, .spec (ref38_Shift_S c_ref38_Shift)), (30, .spec (ref38_Valid_S c_ref38_Valid)), (31, .spec (ref38_When_S c_ref38_When))], false⟩
def law38_ClockExact_p1_s {β : Type} (rec : Int → Int → Int → Int → Int → Int → (List UInt8) → Int → Int → Int → Int → Int → Int → Int → Int → Int → (List Int) → Int → (List (List UInt8 × Int)) → (List (Int × (Int × (Int × Int)))) → (List api_Event) → (List (Int × (Int × Int))) → (List api_Record) → (List (Int × Int)) → Option β) (k1 : law38_ClockExact_p1_K1 β) (k2 : law38_ClockExact_p1_K2 β) (n : Int) (m : Int) (t76 : Int) (t77 : Int) (t101 : Int) (t102 : Int) (h : List UInt8) (h2 : Int) (s : Int) (s2 : Int) (s3 : Int) (s4 : Int) (a : Int) (a2 : Int) (b : Int) (b2 : Int) (d : List Int) (d2 : Int) (x : List (List UInt8 × Int)) (x2 : List (Int × (Int × (Int × Int)))) (x3 : List api_Event) (x4 : List (Int × (Int × Int))) (t75 : List api_Record) (t100 : List (Int × Int)) : Option β :=
  cond (decide (t102 < t101))
  (cond (decide (0 ≤ t102) && decide (t102 < (List.length t100 : Int)))
  (c_clock_When (x, (x2, (x3, x4))) ((List.getD t100 (Int.toNat t102) ((0 : Int), (0 : Int))).1) ((List.getD t100 (Int.toNat t102) ((0 : Int), (0 : Int))).2) (fun (rWhen : (Int × Int)) (rWhen2 : Bool) =>
  c_ref38_When (x, (x2, (x3, x4))) ((List.getD t100 (Int.toNat t102) ((0 : Int), (0 : Int))).1) ((List.getD t100 (Int.toNat t102) ((0 : Int), (0 : Int))).2) (fun (rWhen3 : (Int × Int)) (rWhen4 : Bool) =>
  cond (!(decide (rWhen.1 = rWhen3.1) && (decide (rWhen.2 = rWhen3.2) && true)))
  (k1 false)
  (cond (!(rWhen2 == rWhen4))
  (k1 false)
  (rec n m t76 t77 t101 (IntKind.i64.wrap (t102 + (1 : Int))) h h2 s s2 s3 s4 a a2 b b2 d d2 x x2 x3 x4 t75 t100)))))
  none)
  (k2 n m t76 t77 h h2 s s2 s3 s4 a a2 b b2 d d2 t75)
def law38_ClockExact_p1_l {β : Type} : Nat → law38_ClockExact_p1_K1 β → law38_ClockExact_p1_K2 β → Int → Int → Int → Int → Int → Int → (List UInt8) → Int → Int → Int → Int → Int → Int → Int → Int → Int → (List Int) → Int → (List (List UInt8 × Int)) → (List (Int × (Int × (Int × Int)))) → (List api_Event) → (List (Int × (Int × Int))) → (List api_Record) → (List (Int × Int)) → Option β
  | 0 => fun _ _ _ _ _ _ _ _ _ _ _ _ _ _ _ _ _ _ _ _ _ _ _ _ _ _ => none
  | i + 1 => fun k1 k2 n m t76 t77 t101 t102 h h2 s s2 s3 s4 a a2 b b2 d d2 x x2 x3 x4 t75 t100 => law38_ClockExact_p1_s c_clock_When c_ref38_When (law38_ClockExact_p1_l i k1 k2) k1 k2 n m t76 t77 t101 t102 h h2 s s2 s3 s4 a a2 b b2 d d2 x x2 x3 x4 t75 t100
theorem law38_ClockExact_p1_ok' (hΓ : ΓOk Try.prog (law38_ClockExact_X c_clock_Elapsed c_clock_Empty c_clock_From c_clock_Meet c_clock_Shift c_clock_Valid c_clock_When c_law38_sane c_made_Dice_Next c_made_Dice_OddRecord c_made_Dice_One c_made_Dice_Record c_made_Light c_made_Roll c_ref38_Elapsed c_ref38_Empty c_ref38_From c_ref38_Meet c_ref38_Shift c_ref38_Valid c_ref38_When).Γ) (i : Nat) : PieceOk Try.prog 273 0 law38_ClockExact_p1_code law38_ClockExact_p1_v law38_ClockExact_p1_o (law38_ClockExact_p1_G (law38_ClockExact_p1_l c_clock_When c_ref38_When i)) := by
  rw [show law38_ClockExact_p1_code = .loop (loopBody law38_ClockExact_p1_code) by kernel_rfl]
  exact piece_loop (X := (law38_ClockExact_X c_clock_Elapsed c_clock_Empty c_clock_From c_clock_Meet c_clock_Shift c_clock_Valid c_clock_When c_law38_sane c_made_Dice_Next c_made_Dice_OddRecord c_made_Dice_One c_made_Dice_Record c_made_Light c_made_Roll c_ref38_Elapsed c_ref38_Empty c_ref38_From c_ref38_Meet c_ref38_Shift c_ref38_Valid c_ref38_When)) (p := 1) (Λ := pick1 []) (G := fun i => @fun β d ks => law38_ClockExact_p1_G (law38_ClockExact_p1_l c_clock_When c_ref38_When i) d ks) mixed tab_ok hΓ rfl (by kernel_rfl) CutsOk_nil (fun _ _ => rfl) (fun i => @fun β d ks r h => Eq.trans (b := law38_ClockExact_p1_G (law38_ClockExact_p1_l c_clock_When c_ref38_When (i + 1)) d ks) (by kernel_rfl) h) i
def law38_ClockExact_p2_s (p1 : law38_ClockExact_p1_T) {β : Type} (rec : Int → Int → Int → Int → (List UInt8) → Int → Int → Int → Int → Int → Int → Int → Int → Int → (List Int) → Int → (List api_Record) → Option β) (k1 : law38_ClockExact_p2_K1 β) (k2 : law38_ClockExact_p2_K2 β) (n : Int) (m : Int) (t76 : Int) (t77 : Int) (h : List UInt8) (h2 : Int) (s : Int) (s2 : Int) (s3 : Int) (s4 : Int) (a : Int) (a2 : Int) (b : Int) (b2 : Int) (d : List Int) (d2 : Int) (t75 : List api_Record) : Option β :=
  cond (decide (t77 < t76))
  (cond (decide (0 ≤ t77) && decide (t77 < (List.length t75 : Int)))
  (c_clock_Valid ((List.getD t75 (Int.toNat t77) (([] : List (List UInt8 × Int)), (([] : List (Int × (Int × (Int × Int)))), (([] : List api_Event), ([] : List (Int × (Int × Int))))))).1, (((List.getD t75 (Int.toNat t77) (([] : List (List UInt8 × Int)), (([] : List (Int × (Int × (Int × Int)))), (([] : List api_Event), ([] : List (Int × (Int × Int))))))).2).1, (((List.getD t75 (Int.toNat t77) (([] : List (List UInt8 × Int)), (([] : List (Int × (Int × (Int × Int)))), (([] : List api_Event), ([] : List (Int × (Int × Int))))))).2).2))) (fun (rValid : Bool) =>
  c_ref38_Valid ((List.getD t75 (Int.toNat t77) (([] : List (List UInt8 × Int)), (([] : List (Int × (Int × (Int × Int)))), (([] : List api_Event), ([] : List (Int × (Int × Int))))))).1, (((List.getD t75 (Int.toNat t77) (([] : List (List UInt8 × Int)), (([] : List (Int × (Int × (Int × Int)))), (([] : List api_Event), ([] : List (Int × (Int × Int))))))).2).1, (((List.getD t75 (Int.toNat t77) (([] : List (List UInt8 × Int)), (([] : List (Int × (Int × (Int × Int)))), (([] : List api_Event), ([] : List (Int × (Int × Int))))))).2).2))) (fun (rValid2 : Bool) =>
  cond (!(rValid == rValid2))
  (k1 false)
  (c_made_Dice_Next (4 : Int) (d, d2) (fun (rNext : Int) (mrNext : (List Int × Int)) =>
  c_made_Dice_Next (500 : Int) mrNext (fun (rNext2 : Int) (mrNext2 : (List Int × Int)) =>
  let l : List Int := ([(-1 : Int), (0 : Int), (8589934592 : Int), (8589934593 : Int)] : List Int);
  c_made_Dice_One l mrNext2 (fun (rOne : Int) (mrOne : (List Int × Int)) =>
  let l2 : List (Int × Int) := ([(n, m), ((IntKind.i64.wrap (rNext - (1 : Int))), (IntKind.i64.wrap ((864000 : Int) + rNext2))), ((0 : Int), rOne)] : List (Int × Int));
  p1 (fun (t16 : Bool) =>
  k1 t16) (fun (n2 : Int) (m2 : Int) (t762 : Int) (t772 : Int) (h3 : List UInt8) (h4 : Int) (s5 : Int) (s6 : Int) (s7 : Int) (s8 : Int) (a3 : Int) (a4 : Int) (b3 : Int) (b4 : Int) (d3 : List Int) (d4 : Int) (t752 : List api_Record) =>
  rec n2 m2 t762 (IntKind.i64.wrap (t772 + (1 : Int))) h3 h4 s5 s6 s7 s8 a3 a4 b3 b4 d3 d4 t752) n m t76 t77 (List.length l2 : Int) (0 : Int) h h2 s s2 s3 s4 a a2 b b2 mrOne.1 mrOne.2 ((List.getD t75 (Int.toNat t77) (([] : List (List UInt8 × Int)), (([] : List (Int × (Int × (Int × Int)))), (([] : List api_Event), ([] : List (Int × (Int × Int))))))).1) (((List.getD t75 (Int.toNat t77) (([] : List (List UInt8 × Int)), (([] : List (Int × (Int × (Int × Int)))), (([] : List api_Event), ([] : List (Int × (Int × Int))))))).2).1) ((((List.getD t75 (Int.toNat t77) (([] : List (List UInt8 × Int)), (([] : List (Int × (Int × (Int × Int)))), (([] : List api_Event), ([] : List (Int × (Int × Int))))))).2).2).1) ((((List.getD t75 (Int.toNat t77) (([] : List (List UInt8 × Int)), (([] : List (Int × (Int × (Int × Int)))), (([] : List api_Event), ([] : List (Int × (Int × Int))))))).2).2).2) t75 l2)))))))
  none)
  (k2 n m h h2 s s2 s3 s4 a a2 b b2 d d2)
def law38_ClockExact_p2_l (p1 : law38_ClockExact_p1_T) {β : Type} : Nat → law38_ClockExact_p2_K1 β → law38_ClockExact_p2_K2 β → Int → Int → Int → Int → (List UInt8) → Int → Int → Int → Int → Int → Int → Int → Int → Int → (List Int) → Int → (List api_Record) → Option β
  | 0 => fun _ _ _ _ _ _ _ _ _ _ _ _ _ _ _ _ _ _ _ => none
  | i + 1 => fun k1 k2 n m t76 t77 h h2 s s2 s3 s4 a a2 b b2 d d2 t75 => law38_ClockExact_p2_s c_clock_Valid c_made_Dice_Next c_made_Dice_One c_ref38_Valid p1 (law38_ClockExact_p2_l p1 i k1 k2) k1 k2 n m t76 t77 h h2 s s2 s3 s4 a a2 b b2 d d2 t75
theorem law38_ClockExact_p2_ok' (hΓ : ΓOk Try.prog (law38_ClockExact_X c_clock_Elapsed c_clock_Empty c_clock_From c_clock_Meet c_clock_Shift c_clock_Valid c_clock_When c_law38_sane c_made_Dice_Next c_made_Dice_OddRecord c_made_Dice_One c_made_Dice_Record c_made_Light c_made_Roll c_ref38_Elapsed c_ref38_Empty c_ref38_From c_ref38_Meet c_ref38_Shift c_ref38_Valid c_ref38_When).Γ) (p1 : law38_ClockExact_p1_T) (hp1 : PieceOk Try.prog 273 0 law38_ClockExact_p1_code law38_ClockExact_p1_v law38_ClockExact_p1_o (law38_ClockExact_p1_G p1)) (i : Nat) : PieceOk Try.prog 273 0 law38_ClockExact_p2_code law38_ClockExact_p2_v law38_ClockExact_p2_o (law38_ClockExact_p2_G (law38_ClockExact_p2_l c_clock_Valid c_made_Dice_Next c_made_Dice_One c_ref38_Valid p1 i)) := by
  rw [show law38_ClockExact_p2_code = .loop (loopBody law38_ClockExact_p2_code) by kernel_rfl]
  exact piece_loop (X := (law38_ClockExact_X c_clock_Elapsed c_clock_Empty c_clock_From c_clock_Meet c_clock_Shift c_clock_Valid c_clock_When c_law38_sane c_made_Dice_Next c_made_Dice_OddRecord c_made_Dice_One c_made_Dice_Record c_made_Light c_made_Roll c_ref38_Elapsed c_ref38_Empty c_ref38_From c_ref38_Meet c_ref38_Shift c_ref38_Valid c_ref38_When)) (p := 1) (Λ := pick1 [(462, pieceCut law38_ClockExact_p1_v law38_ClockExact_p1_o (law38_ClockExact_p1_G p1))]) (G := fun i => @fun β d ks => law38_ClockExact_p2_G (law38_ClockExact_p2_l c_clock_Valid c_made_Dice_Next c_made_Dice_One c_ref38_Valid p1 i) d ks) mixed tab_ok hΓ rfl (by kernel_rfl) (CutsOk_cons (q := 462) (c' := law38_ClockExact_p1_code) (by kernel_rfl) rfl hp1 CutsOk_nil) (fun _ _ => rfl) (fun i => @fun β d ks r h => Eq.trans (b := law38_ClockExact_p2_G (law38_ClockExact_p2_l c_clock_Valid c_made_Dice_Next c_made_Dice_One c_ref38_Valid p1 (i + 1)) d ks) (by kernel_rfl) h) i
def law38_ClockExact_p3_s {β : Type} (rec : Int → Int → Int → Int → (List UInt8) → Int → Int → Int → Int → Int → Int → Int → Int → Int → (List Int) → Int → (List (Int × Int)) → Option β) (k1 : law38_ClockExact_p3_K1 β) (k2 : law38_ClockExact_p3_K2 β) (n : Int) (drift : Int) (t150 : Int) (t151 : Int) (h : List UInt8) (h2 : Int) (s : Int) (s2 : Int) (s3 : Int) (s4 : Int) (a : Int) (a2 : Int) (b : Int) (b2 : Int) (d : List Int) (d2 : Int) (t149 : List (Int × Int)) : Option β :=
  cond (decide (t151 < t150))
  (cond (decide (0 ≤ t151) && decide (t151 < (List.length t149 : Int)))
  (c_clock_Elapsed ((List.getD t149 (Int.toNat t151) ((0 : Int), (0 : Int))).1) ((List.getD t149 (Int.toNat t151) ((0 : Int), (0 : Int))).2) (fun (rElapsed : Int) (rElapsed2 : Int) =>
  c_ref38_Elapsed ((List.getD t149 (Int.toNat t151) ((0 : Int), (0 : Int))).1) ((List.getD t149 (Int.toNat t151) ((0 : Int), (0 : Int))).2) (fun (rElapsed3 : Int) (rElapsed4 : Int) =>
  cond (!decide (rElapsed = rElapsed3))
  (k1 false)
  (cond (!decide (rElapsed2 = rElapsed4))
  (k1 false)
  (rec n drift t150 (IntKind.i64.wrap (t151 + (1 : Int))) h h2 s s2 s3 s4 a a2 b b2 d d2 t149)))))
  none)
  (k2 n drift h h2 s s2 s3 s4 a a2 b b2 d d2)
def law38_ClockExact_p3_l {β : Type} : Nat → law38_ClockExact_p3_K1 β → law38_ClockExact_p3_K2 β → Int → Int → Int → Int → (List UInt8) → Int → Int → Int → Int → Int → Int → Int → Int → Int → (List Int) → Int → (List (Int × Int)) → Option β
  | 0 => fun _ _ _ _ _ _ _ _ _ _ _ _ _ _ _ _ _ _ _ => none
  | i + 1 => fun k1 k2 n drift t150 t151 h h2 s s2 s3 s4 a a2 b b2 d d2 t149 => law38_ClockExact_p3_s c_clock_Elapsed c_ref38_Elapsed (law38_ClockExact_p3_l i k1 k2) k1 k2 n drift t150 t151 h h2 s s2 s3 s4 a a2 b b2 d d2 t149
theorem law38_ClockExact_p3_ok' (hΓ : ΓOk Try.prog (law38_ClockExact_X c_clock_Elapsed c_clock_Empty c_clock_From c_clock_Meet c_clock_Shift c_clock_Valid c_clock_When c_law38_sane c_made_Dice_Next c_made_Dice_OddRecord c_made_Dice_One c_made_Dice_Record c_made_Light c_made_Roll c_ref38_Elapsed c_ref38_Empty c_ref38_From c_ref38_Meet c_ref38_Shift c_ref38_Valid c_ref38_When).Γ) (i : Nat) : PieceOk Try.prog 273 0 law38_ClockExact_p3_code law38_ClockExact_p3_v law38_ClockExact_p3_o (law38_ClockExact_p3_G (law38_ClockExact_p3_l c_clock_Elapsed c_ref38_Elapsed i)) := by
  rw [show law38_ClockExact_p3_code = .loop (loopBody law38_ClockExact_p3_code) by kernel_rfl]
  exact piece_loop (X := (law38_ClockExact_X c_clock_Elapsed c_clock_Empty c_clock_From c_clock_Meet c_clock_Shift c_clock_Valid c_clock_When c_law38_sane c_made_Dice_Next c_made_Dice_OddRecord c_made_Dice_One c_made_Dice_Record c_made_Light c_made_Roll c_ref38_Elapsed c_ref38_Empty c_ref38_From c_ref38_Meet c_ref38_Shift c_ref38_Valid c_ref38_When)) (p := 1) (Λ := pick1 []) (G := fun i => @fun β d ks => law38_ClockExact_p3_G (law38_ClockExact_p3_l c_clock_Elapsed c_ref38_Elapsed i) d ks) mixed tab_ok hΓ rfl (by kernel_rfl) CutsOk_nil (fun _ _ => rfl) (fun i => @fun β d ks r h => Eq.trans (b := law38_ClockExact_p3_G (law38_ClockExact_p3_l c_clock_Elapsed c_ref38_Elapsed (i + 1)) d ks) (by kernel_rfl) h) i
def law38_ClockExact_s (p2 : law38_ClockExact_p2_T) (p3 : law38_ClockExact_p3_T) {β : Type} (t : List Int) (raw : api_Record) (h : (List UInt8 × Int)) (s : (Int × (Int × (Int × Int)))) (a : (Int × Int)) (b : (Int × Int)) (n : Int) (m : Int) (k : (Bool → Option β)) : Option β :=
  c_made_Light t (fun (rLight : Bool) =>
  cond (!rLight)
  (c_law38_sane  (fun (rsane : Bool) =>
  k rsane))
  (cond (decide ((100 : Int) < (IntKind.i64.wrap ((IntKind.i64.wrap ((IntKind.i64.wrap ((List.length raw.1 : Int) + (List.length raw.2.1 : Int))) + (List.length raw.2.2.1 : Int))) + (List.length raw.2.2.2 : Int)))))
  (c_law38_sane  (fun (rsane : Bool) =>
  k rsane))
  (c_made_Roll t (fun (mrRoll : (List Int × Int)) =>
  c_made_Dice_Record (6 : Int) mrRoll (fun (rRecord : api_Record) (mrRecord : (List Int × Int)) (lrRecord : List Int) =>
  c_made_Dice_OddRecord rRecord mrRecord (fun (rOddRecord : api_Record) (mrOddRecord : (List Int × Int)) =>
  let l : List api_Record := ([rRecord, rOddRecord, raw] : List api_Record);
  p2 (fun (t16 : Bool) =>
  k t16) (fun (n2 : Int) (m2 : Int) (h2 : List UInt8) (h3 : Int) (s2 : Int) (s3 : Int) (s4 : Int) (s5 : Int) (a2 : Int) (a3 : Int) (b2 : Int) (b3 : Int) (d : List Int) (d2 : Int) =>
  let l2 : List Int := ([(0 : Int), (1 : Int), (100 : Int), (500000 : Int), (500001 : Int), (-1 : Int)] : List Int);
  c_made_Dice_One l2 (d, d2) (fun (rOne : Int) (mrOne : (List Int × Int)) =>
  let l3 : List Int := ([(0 : Int), (1 : Int), (77 : Int), (8589934592 : Int), (8589934593 : Int), (-1 : Int)] : List Int);
  c_made_Dice_One l3 mrOne (fun (rOne2 : Int) (mrOne2 : (List Int × Int)) =>
  let l4 : List (Int × Int) := ([(n2, m2), (rOne, rOne2), (rOne, m2)] : List (Int × Int));
  p3 (fun (t16 : Bool) =>
  k t16) (fun (n3 : Int) (drift : Int) (h4 : List UInt8) (h5 : Int) (s6 : Int) (s7 : Int) (s8 : Int) (s9 : Int) (a4 : Int) (a5 : Int) (b4 : Int) (b5 : Int) (d3 : List Int) (d4 : Int) =>
  let l5 : List Int := ([(0 : Int), (100 : Int), (864000 : Int), (-1 : Int)] : List Int);
  c_made_Dice_One l5 (d3, d4) (fun (rOne3 : Int) (mrOne3 : (List Int × Int)) =>
  let l6 : List Int := ([(0 : Int), (50 : Int), (864000 : Int)] : List Int);
  c_made_Dice_One l6 mrOne3 (fun (rOne4 : Int) (mrOne4 : (List Int × Int)) =>
  let l7 : List Int := ([(0 : Int), (50 : Int), (90 : Int), (864009 : Int), (8589934593 : Int)] : List Int);
  c_made_Dice_One l7 mrOne4 (fun (rOne5 : Int) (mrOne5 : (List Int × Int)) =>
  let l8 : List Int := ([(0 : Int), (90 : Int), (864070 : Int), (8589934592 : Int)] : List Int);
  c_made_Dice_One l8 mrOne5 (fun (rOne6 : Int) (mrOne6 : (List Int × Int)) =>
  let l9 : List Int := ([(0 : Int), (-1099511627776 : Int), (5 : Int), (-1099511627775 : Int)] : List Int);
  c_made_Dice_One l9 mrOne6 (fun (rOne7 : Int) (mrOne7 : (List Int × Int)) =>
  let l10 : List Int := ([(9 : Int), (1099511627776 : Int), (1099511627775 : Int), (-9 : Int)] : List Int);
  c_made_Dice_One l10 mrOne7 (fun (rOne8 : Int) (mrOne8 : (List Int × Int)) =>
  let l11 : List Int := ([(0 : Int), (5 : Int), (-5 : Int), (1099511627776 : Int), (-1099511627776 : Int), (1099511627777 : Int)] : List Int);
  c_made_Dice_One l11 mrOne8 (fun (rOne9 : Int) (mrOne9 : (List Int × Int)) =>
  c_clock_From (h4, h5) (s6, (s7, (s8, s9))) n3 (fun (rFrom : (Int × Int)) =>
  c_ref38_From (h4, h5) (s6, (s7, (s8, s9))) n3 (fun (rFrom2 : (Int × Int)) =>
  cond (decide (rFrom.1 = rFrom2.1) && (decide (rFrom.2 = rFrom2.2) && true))
  (c_clock_From (([] : List UInt8), drift) ((0 : Int), (rOne3, (rOne4, rOne5))) rOne6 (fun (rFrom3 : (Int × Int)) =>
  c_ref38_From (([] : List UInt8), drift) ((0 : Int), (rOne3, (rOne4, rOne5))) rOne6 (fun (rFrom4 : (Int × Int)) =>
  cond (decide (rFrom3.1 = rFrom4.1) && (decide (rFrom3.2 = rFrom4.2) && true))
  (c_clock_From (([] : List UInt8), drift) (s6, (s7, (s8, s9))) rOne6 (fun (rFrom5 : (Int × Int)) =>
  c_ref38_From (([] : List UInt8), drift) (s6, (s7, (s8, s9))) rOne6 (fun (rFrom6 : (Int × Int)) =>
  cond (decide (rFrom5.1 = rFrom6.1) && (decide (rFrom5.2 = rFrom6.2) && true))
  (c_clock_Meet (a4, a5) (b4, b5) (fun (rMeet : (Int × Int)) =>
  c_ref38_Meet (a4, a5) (b4, b5) (fun (rMeet2 : (Int × Int)) =>
  cond (decide (rMeet.1 = rMeet2.1) && (decide (rMeet.2 = rMeet2.2) && true))
  (c_clock_Empty (a4, a5) (fun (rEmpty : Bool) =>
  c_ref38_Empty (a4, a5) (fun (rEmpty2 : Bool) =>
  cond (rEmpty == rEmpty2)
  (c_clock_Shift (a4, a5) n3 (fun (rShift : (Int × Int)) =>
  c_ref38_Shift (a4, a5) n3 (fun (rShift2 : (Int × Int)) =>
  cond (decide (rShift.1 = rShift2.1) && (decide (rShift.2 = rShift2.2) && true))
  (c_clock_Shift (rOne7, rOne8) rOne9 (fun (rShift3 : (Int × Int)) =>
  c_ref38_Shift (rOne7, rOne8) rOne9 (fun (rShift4 : (Int × Int)) =>
  cond (decide (rShift3.1 = rShift4.1) && (decide (rShift3.2 = rShift4.2) && true))
  (c_law38_sane  (fun (rsane : Bool) =>
  k rsane))
  (k false))))
  (k false))))
  (k false))))
  (k false))))
  (k false))))
  (k false))))
  (k false))))))))))) n2 rOne (List.length l4 : Int) (0 : Int) h2 h3 s2 s3 s4 s5 a2 a3 b2 b3 mrOne2.1 mrOne2.2 l4))) n m (List.length l : Int) (0 : Int) h.1 h.2 s.1 s.2.1 s.2.2.1 s.2.2.2 a.1 a.2 b.1 b.2 mrOddRecord.1 mrOddRecord.2 l))))))
theorem law38_ClockExact_ok' (hΓ : ΓOk Try.prog (law38_ClockExact_X c_clock_Elapsed c_clock_Empty c_clock_From c_clock_Meet c_clock_Shift c_clock_Valid c_clock_When c_law38_sane c_made_Dice_Next c_made_Dice_OddRecord c_made_Dice_One c_made_Dice_Record c_made_Light c_made_Roll c_ref38_Elapsed c_ref38_Empty c_ref38_From c_ref38_Meet c_ref38_Shift c_ref38_Valid c_ref38_When).Γ) (p2 : law38_ClockExact_p2_T) (p3 : law38_ClockExact_p3_T) (hp2 : PieceOk Try.prog 273 0 law38_ClockExact_p2_code law38_ClockExact_p2_v law38_ClockExact_p2_o (law38_ClockExact_p2_G p2)) (hp3 : PieceOk Try.prog 273 0 law38_ClockExact_p3_code law38_ClockExact_p3_v law38_ClockExact_p3_o (law38_ClockExact_p3_G p3)) : SpecOk Try.prog 6 (law38_ClockExact_S (law38_ClockExact_s c_clock_Empty c_clock_From c_clock_Meet c_clock_Shift c_law38_sane c_made_Dice_OddRecord c_made_Dice_One c_made_Dice_Record c_made_Light c_made_Roll c_ref38_Empty c_ref38_From c_ref38_Meet c_ref38_Shift p2 p3)) :=
  spec_exec (X := (law38_ClockExact_X c_clock_Elapsed c_clock_Empty c_clock_From c_clock_Meet c_clock_Shift c_clock_Valid c_clock_When c_law38_sane c_made_Dice_Next c_made_Dice_OddRecord c_made_Dice_One c_made_Dice_Record c_made_Light c_made_Roll c_ref38_Elapsed c_ref38_Empty c_ref38_From c_ref38_Meet c_ref38_Shift c_ref38_Valid c_ref38_When)) (Λ := pick1 [(250, pieceCut law38_ClockExact_p2_v law38_ClockExact_p2_o (law38_ClockExact_p2_G p2)), (1018, pieceCut law38_ClockExact_p3_v law38_ClockExact_p3_o (law38_ClockExact_p3_G p3))]) (rs := [.tmp 16]) (c := bodyOf Try.f6) mixed tab_ok hΓ Try.func6 (by kernel_rfl) (by kernel_rfl) (by kernel_rfl) (by kernel_rfl) (CutsOk_cons (q := 250) (c' := law38_ClockExact_p2_code) (by kernel_rfl) rfl hp2 (CutsOk_cons (q := 1018) (c' := law38_ClockExact_p3_code) (by kernel_rfl) rfl hp3 CutsOk_nil)) (fun x k r h => Eq.trans (b := (law38_ClockExact_S (law38_ClockExact_s c_clock_Empty c_clock_From c_clock_Meet c_clock_Shift c_law38_sane c_made_Dice_OddRecord c_made_Dice_One c_made_Dice_Record c_made_Light c_made_Roll c_ref38_Empty c_ref38_From c_ref38_Meet c_ref38_Shift p2 p3)).run x k) (by kernel_rfl) h)
end
theorem law38_ClockExact_Γ : ΓOk Try.prog (pick1 [(15, .spec (clock_Elapsed_S clock_Elapsed)), (36, .spec (clock_Empty_S clock_Empty)), (26, .spec (clock_From_S clock_From)), (34, .spec (clock_Meet_S clock_Meet)), (27, .spec (clock_Shift_S clock_Shift)), (29, .spec (clock_Valid_S clock_Valid)), (24, .spec (clock_When_S clock_When)), (16, .spec (law38_sane_S law38_sane)), (20, .spec (made_Dice_Next_S made_Dice_Next)), (28, .spec (made_Dice_OddRecord_S made_Dice_OddRecord)), (19, .spec (made_Dice_One_S made_Dice_One)), (25, .spec (made_Dice_Record_S made_Dice_Record)), (17, .spec (made_Light_S made_Light)), (18, .spec (made_Roll_S made_Roll)), (32, .spec (ref38_Elapsed_S ref38_Elapsed)), (37, .spec (ref38_Empty_S ref38_Empty)), (33, .spec (ref38_From_S ref38_From)), (35, .spec (ref38_Meet_S ref38_Meet)), (38, .spec (ref38_Shift_S ref38_Shift)), (30, .spec (ref38_Valid_S ref38_Valid)), (31, .spec (ref38_When_S ref38_When))]) := (ΓOk_cons clock_Elapsed_ok (ΓOk_cons clock_Empty_ok (ΓOk_cons clock_From_ok (ΓOk_cons clock_Meet_ok (ΓOk_cons clock_Shift_ok (ΓOk_cons clock_Valid_ok (ΓOk_cons clock_When_ok (ΓOk_cons law38_sane_ok (ΓOk_cons made_Dice_Next_ok (ΓOk_cons made_Dice_OddRecord_ok (ΓOk_cons made_Dice_One_ok (ΓOk_cons made_Dice_Record_ok (ΓOk_cons made_Light_ok (ΓOk_cons made_Roll_ok (ΓOk_cons ref38_Elapsed_ok (ΓOk_cons ref38_Empty_ok (ΓOk_cons ref38_From_ok (ΓOk_cons ref38_Meet_ok (ΓOk_cons ref38_Shift_ok (ΓOk_cons ref38_Valid_ok (ΓOk_cons ref38_When_ok ΓOk_nil)))))))))))))))))))))
def law38_ClockExact_p1_n (m : Nat) : law38_ClockExact_p1_T := law38_ClockExact_p1_l clock_When ref38_When m
theorem law38_ClockExact_p1_step {β : Type} (i : Nat) (k1 k2 n m t76 t77 t101 t102 h h2 s s2 s3 s4 a a2 b b2 d d2 x x2 x3 x4 t75 t100) : (law38_ClockExact_p1_n (i + 1) k1 k2 n m t76 t77 t101 t102 h h2 s s2 s3 s4 a a2 b b2 d d2 x x2 x3 x4 t75 t100 : Option β) = law38_ClockExact_p1_s clock_When ref38_When (law38_ClockExact_p1_n i k1 k2) k1 k2 n m t76 t77 t101 t102 h h2 s s2 s3 s4 a a2 b b2 d d2 x x2 x3 x4 t75 t100 := rfl
def law38_ClockExact_p1 : law38_ClockExact_p1_T := law38_ClockExact_p1_n fuel
theorem law38_ClockExact_p1_ok : PieceOk Try.prog 273 0 law38_ClockExact_p1_code law38_ClockExact_p1_v law38_ClockExact_p1_o (law38_ClockExact_p1_G law38_ClockExact_p1) := law38_ClockExact_p1_ok' clock_Elapsed clock_Empty clock_From clock_Meet clock_Shift clock_Valid clock_When law38_sane made_Dice_Next made_Dice_OddRecord made_Dice_One made_Dice_Record made_Light made_Roll ref38_Elapsed ref38_Empty ref38_From ref38_Meet ref38_Shift ref38_Valid ref38_When law38_ClockExact_Γ fuel
def law38_ClockExact_p2_n (m : Nat) : law38_ClockExact_p2_T := law38_ClockExact_p2_l clock_Valid made_Dice_Next made_Dice_One ref38_Valid law38_ClockExact_p1 m
theorem law38_ClockExact_p2_step {β : Type} (i : Nat) (k1 k2 n m t76 t77 h h2 s s2 s3 s4 a a2 b b2 d d2 t75) : (law38_ClockExact_p2_n (i + 1) k1 k2 n m t76 t77 h h2 s s2 s3 s4 a a2 b b2 d d2 t75 : Option β) = law38_ClockExact_p2_s clock_Valid made_Dice_Next made_Dice_One ref38_Valid law38_ClockExact_p1 (law38_ClockExact_p2_n i k1 k2) k1 k2 n m t76 t77 h h2 s s2 s3 s4 a a2 b b2 d d2 t75 := rfl
def law38_ClockExact_p2 : law38_ClockExact_p2_T := law38_ClockExact_p2_n fuel
theorem law38_ClockExact_p2_ok : PieceOk Try.prog 273 0 law38_ClockExact_p2_code law38_ClockExact_p2_v law38_ClockExact_p2_o (law38_ClockExact_p2_G law38_ClockExact_p2) := law38_ClockExact_p2_ok' clock_Elapsed clock_Empty clock_From clock_Meet clock_Shift clock_Valid clock_When law38_sane made_Dice_Next made_Dice_OddRecord made_Dice_One made_Dice_Record made_Light made_Roll ref38_Elapsed ref38_Empty ref38_From ref38_Meet ref38_Shift ref38_Valid ref38_When law38_ClockExact_Γ law38_ClockExact_p1 law38_ClockExact_p1_ok fuel
def law38_ClockExact_p3_n (m : Nat) : law38_ClockExact_p3_T := law38_ClockExact_p3_l clock_Elapsed ref38_Elapsed m
theorem law38_ClockExact_p3_step {β : Type} (i : Nat) (k1 k2 n drift t150 t151 h h2 s s2 s3 s4 a a2 b b2 d d2 t149) : (law38_ClockExact_p3_n (i + 1) k1 k2 n drift t150 t151 h h2 s s2 s3 s4 a a2 b b2 d d2 t149 : Option β) = law38_ClockExact_p3_s clock_Elapsed ref38_Elapsed (law38_ClockExact_p3_n i k1 k2) k1 k2 n drift t150 t151 h h2 s s2 s3 s4 a a2 b b2 d d2 t149 := rfl
def law38_ClockExact_p3 : law38_ClockExact_p3_T := law38_ClockExact_p3_n fuel
theorem law38_ClockExact_p3_ok : PieceOk Try.prog 273 0 law38_ClockExact_p3_code law38_ClockExact_p3_v law38_ClockExact_p3_o (law38_ClockExact_p3_G law38_ClockExact_p3) := law38_ClockExact_p3_ok' clock_Elapsed clock_Empty clock_From clock_Meet clock_Shift clock_Valid clock_When law38_sane made_Dice_Next made_Dice_OddRecord made_Dice_One made_Dice_Record made_Light made_Roll ref38_Elapsed ref38_Empty ref38_From ref38_Meet ref38_Shift ref38_Valid ref38_When law38_ClockExact_Γ fuel
def law38_ClockExact : T_law38_ClockExact := law38_ClockExact_s clock_Empty clock_From clock_Meet clock_Shift law38_sane made_Dice_OddRecord made_Dice_One made_Dice_Record made_Light made_Roll ref38_Empty ref38_From ref38_Meet ref38_Shift law38_ClockExact_p2 law38_ClockExact_p3
theorem law38_ClockExact_ok : SpecOk Try.prog 6 (law38_ClockExact_S law38_ClockExact) := law38_ClockExact_ok' clock_Elapsed clock_Empty clock_From clock_Meet clock_Shift clock_Valid clock_When law38_sane made_Dice_Next made_Dice_OddRecord made_Dice_One made_Dice_Record made_Light made_Roll ref38_Elapsed ref38_Empty ref38_From ref38_Meet ref38_Shift ref38_Valid ref38_When law38_ClockExact_Γ law38_ClockExact_p2 law38_ClockExact_p3 law38_ClockExact_p2_ok law38_ClockExact_p3_ok

/-- pagewatch/pagewatchlaw38.ClockMore -/
abbrev T_law38_ClockMore := {β : Type} → (List Int) → (Bool → Option β) → Option β
def law38_ClockMore_S (c : T_law38_ClockMore) : Spec :=
  ⟨[(false, [.data (.slice (.int .i64))])], [], [(false, [.data .bool])], [], fun x k => c x.1.1.1 (fun r0 => k (((r0, ()), ()), ()))⟩
section
variable (c_clock_Empty : T_clock_Empty) (c_clock_From : T_clock_From) (c_clock_Meet : T_clock_Meet) (c_clock_Shift : T_clock_Shift) (c_clock_When : T_clock_When) (c_law38_sane : T_law38_sane) (c_made_Dice_Next : T_made_Dice_Next) (c_made_Dice_Record : T_made_Dice_Record) (c_made_Light : T_made_Light) (c_made_Roll : T_made_Roll)
@[reducible] def law38_ClockMore_X : Ctx := ⟨look tab, pick1 [(36, .spec (clock_Empty_S c_clock_Empty)), (26, .spec (clock_From_S c_clock_From)), (34, .spec (clock_Meet_S c_clock_Meet)), (27, .spec (clock_Shift_S c_clock_Shift)), (24, .spec (clock_When_S c_clock_When)), (16, .spec (law38_sane_S c_law38_sane)), (20, .spec (made_Dice_Next_S c_made_Dice_Next)), (25, .spec (made_Dice_Record_S c_made_Dice_Record)), (17, .spec (made_Light_S c_made_Light)), (18, .spec (made_Roll_S c_made_Roll))], false⟩
def law38_ClockMore_s {β : Type} (t : List Int) (k : (Bool → Option β)) : Option β :=
  c_made_Light t (fun (rLight : Bool) =>
  cond (!rLight)
  (c_law38_sane  (fun (rsane : Bool) =>
  k rsane))
  (c_made_Roll t (fun (mrRoll : (List Int × Int)) =>
  c_made_Dice_Record (3 : Int) mrRoll (fun (rRecord : api_Record) (mrRecord : (List Int × Int)) (lrRecord : List Int) =>
  c_made_Dice_Next (500 : Int) mrRecord (fun (rNext : Int) (mrNext : (List Int × Int)) =>
  let c : Int := (IntKind.i64.wrap ((864000 : Int) + rNext));
  c_clock_When rRecord (0 : Int) c (fun (rWhen : (Int × Int)) (rWhen2 : Bool) =>
  c_made_Dice_Next (500 : Int) mrNext (fun (rNext2 : Int) (mrNext2 : (List Int × Int)) =>
  c_made_Dice_Next (200 : Int) mrNext2 (fun (rNext3 : Int) (mrNext3 : (List Int × Int)) =>
  c_made_Dice_Next (200 : Int) mrNext3 (fun (rNext4 : Int) (mrNext4 : (List Int × Int)) =>
  cond (decide (List.length rRecord.2.1 * 32 ≤ roomMax))
  (let l : List (Int × (Int × (Int × Int))) := ([((0 : Int), ((IntKind.i64.wrap ((864000 : Int) + rNext2)), ((IntKind.i64.wrap ((864000 : Int) + rNext3)), (IntKind.i64.wrap ((864300 : Int) + rNext4)))))] : List (Int × (Int × (Int × Int))));
  cond (decide ((List.length rRecord.2.1 + List.length l) * 32 ≤ roomMax))
  (let l2 : List (Int × (Int × (Int × Int))) := (rRecord.2.1 ++ l);
  c_clock_When (rRecord.1, (l2, rRecord.2.2)) (0 : Int) c (fun (rWhen3 : (Int × Int)) (rWhen4 : Bool) =>
  cond (!rWhen2)
  (k false)
  (cond (decide (0 ≤ (0 : Int)) && decide ((0 : Int) < (List.length rRecord.1 : Int)))
  (let e : (List UInt8 × Int) := List.getD rRecord.1 (Int.toNat (0 : Int)) (([] : List UInt8), (0 : Int));
  c_clock_From e ((0 : Int), ((IntKind.i64.wrap ((864000 : Int) + rNext2)), ((IntKind.i64.wrap ((864000 : Int) + rNext3)), (IntKind.i64.wrap ((864300 : Int) + rNext4))))) c (fun (rFrom : (Int × Int)) =>
  c_clock_Meet rWhen rFrom (fun (rMeet : (Int × Int)) =>
  c_made_Dice_Next (50 : Int) mrNext4 (fun (rNext5 : Int) (mrNext5 : (List Int × Int)) =>
  let k_ : Int := (IntKind.i64.wrap (rNext5 - (25 : Int)));
  c_clock_Shift rWhen k_ (fun (rShift : (Int × Int)) =>
  c_clock_Shift rMeet k_ (fun (rShift2 : (Int × Int)) =>
  c_clock_Meet rShift rShift2 (fun (rMeet2 : (Int × Int)) =>
  cond (decide (rWhen3.1 = rMeet.1) && (decide (rWhen3.2 = rMeet.2) && true))
  (c_clock_Empty rMeet (fun (rEmpty : Bool) =>
  cond (rWhen4 == (!rEmpty))
  (cond (decide (rWhen.1 ≤ rWhen3.1))
  (cond (decide (rWhen3.2 ≤ rWhen.2))
  (c_clock_Shift rMeet k_ (fun (rShift3 : (Int × Int)) =>
  cond (decide (rMeet2.1 = rShift3.1) && (decide (rMeet2.2 = rShift3.2) && true))
  (c_law38_sane  (fun (rsane : Bool) =>
  k rsane))
  (k false)))
  (k false))
  (k false))
  (k false)))
  (k false))))))))
  none)))
  none)
  none)))))))))
theorem law38_ClockMore_ok' (hΓ : ΓOk Try.prog (law38_ClockMore_X c_clock_Empty c_clock_From c_clock_Meet c_clock_Shift c_clock_When c_law38_sane c_made_Dice_Next c_made_Dice_Record c_made_Light c_made_Roll).Γ) : SpecOk Try.prog 7 (law38_ClockMore_S (law38_ClockMore_s c_clock_Empty c_clock_From c_clock_Meet c_clock_Shift c_clock_When c_law38_sane c_made_Dice_Next c_made_Dice_Record c_made_Light c_made_Roll)) :=
  spec_exec (X := (law38_ClockMore_X c_clock_Empty c_clock_From c_clock_Meet c_clock_Shift c_clock_When c_law38_sane c_made_Dice_Next c_made_Dice_Record c_made_Light c_made_Roll)) (Λ := pick1 []) (rs := [.tmp 2]) (c := bodyOf Try.f7) mixed tab_ok hΓ Try.func7 (by kernel_rfl) (by kernel_rfl) (by kernel_rfl) (by kernel_rfl) CutsOk_nil (fun x k r h => Eq.trans (b := (law38_ClockMore_S (law38_ClockMore_s c_clock_Empty c_clock_From c_clock_Meet c_clock_Shift c_clock_When c_law38_sane c_made_Dice_Next c_made_Dice_Record c_made_Light c_made_Roll)).run x k) (by kernel_rfl) h)
end
theorem law38_ClockMore_Γ : ΓOk Try.prog (pick1 [(36, .spec (clock_Empty_S clock_Empty)), (26, .spec (clock_From_S clock_From)), (34, .spec (clock_Meet_S clock_Meet)), (27, .spec (clock_Shift_S clock_Shift)), (24, .spec (clock_When_S clock_When)), (16, .spec (law38_sane_S law38_sane)), (20, .spec (made_Dice_Next_S made_Dice_Next)), (25, .spec (made_Dice_Record_S made_Dice_Record)), (17, .spec (made_Light_S made_Light)), (18, .spec (made_Roll_S made_Roll))]) := (ΓOk_cons clock_Empty_ok (ΓOk_cons clock_From_ok (ΓOk_cons clock_Meet_ok (ΓOk_cons clock_Shift_ok (ΓOk_cons clock_When_ok (ΓOk_cons law38_sane_ok (ΓOk_cons made_Dice_Next_ok (ΓOk_cons made_Dice_Record_ok (ΓOk_cons made_Light_ok (ΓOk_cons made_Roll_ok ΓOk_nil))))))))))
def law38_ClockMore : T_law38_ClockMore := law38_ClockMore_s clock_Empty clock_From clock_Meet clock_Shift clock_When law38_sane made_Dice_Next made_Dice_Record made_Light made_Roll
theorem law38_ClockMore_ok : SpecOk Try.prog 7 (law38_ClockMore_S law38_ClockMore) := law38_ClockMore_ok' clock_Empty clock_From clock_Meet clock_Shift clock_When law38_sane made_Dice_Next made_Dice_Record made_Light made_Roll law38_ClockMore_Γ

/-- slices.IndexFunc[[]pagewatch/api.Diff,pagewatch/api.Diff] -/
abbrev T_slices_IndexFunc_api_Diff_api_Diff_vconstraint_Valid_f1 := {β : Type} → (List (Int × (Int × Int))) → Int → (Int → Int → Option β) → Option β
def slices_IndexFunc_api_Diff_api_Diff_vconstraint_Valid_f1_S (c : T_slices_IndexFunc_api_Diff_api_Diff_vconstraint_Valid_f1) : Spec :=
  ⟨[(false, [.data (.slice (.prod (.int .i64) (.prod (.int .i64) (.int .i64))))]), (false, [.fn 82 [0]])], [.cells 3 [.data (.int .i64)]], [(false, [.data (.int .i64)])], [.cells 3 [.data (.int .i64)]], fun x k => c x.1.1.1 x.2.1.1 (fun r0 r1 => k (((r0, ()), ()), ((r1, ()), ())))⟩
noncomputable def slices_IndexFunc_api_Diff_api_Diff_vconstraint_Valid_f1_p1_code : Code := codeAt 26 (bodyOf Try.f83)
abbrev slices_IndexFunc_api_Diff_api_Diff_vconstraint_Valid_f1_p1_K1 (β : Type) := Int → Int → Option β
abbrev slices_IndexFunc_api_Diff_api_Diff_vconstraint_Valid_f1_p1_K2 (β : Type) := Int → Option β
abbrev slices_IndexFunc_api_Diff_api_Diff_vconstraint_Valid_f1_p1_T := {β : Type} → slices_IndexFunc_api_Diff_api_Diff_vconstraint_Valid_f1_p1_K1 β → slices_IndexFunc_api_Diff_api_Diff_vconstraint_Valid_f1_p1_K2 β → (List (Int × (Int × Int))) → Int → Int → Int → Option β
def slices_IndexFunc_api_Diff_api_Diff_vconstraint_Valid_f1_p1_v : View := ⟨1, [0, 1, 7, 8], [(false, [.data (.slice (.prod (.int .i64) (.prod (.int .i64) (.int .i64))))]), (false, [.fn 82 [0]]), (false, [.data (.int .i64)]), (false, [.data (.int .i64)])], [.cells 3 [.data (.int .i64)]]⟩
def slices_IndexFunc_api_Diff_api_Diff_vconstraint_Valid_f1_p1_o : List (AExit × View) := [(.ret, ⟨1, [4], [(false, [.data (.int .i64)])], [.cells 3 [.data (.int .i64)]]⟩), (.exit 0, ⟨1, [], [], [.cells 3 [.data (.int .i64)]]⟩)]
@[reducible] def slices_IndexFunc_api_Diff_api_Diff_vconstraint_Valid_f1_p1_G (p : slices_IndexFunc_api_Diff_api_Diff_vconstraint_Valid_f1_p1_T) {β : Type} (d : slices_IndexFunc_api_Diff_api_Diff_vconstraint_Valid_f1_p1_v.den) (ks : Outs.K β slices_IndexFunc_api_Diff_api_Diff_vconstraint_Valid_f1_p1_o) : Option β :=
  p (fun a0 a1 => ks.1 (((a0, ()), ()), ((a1, ()), ()))) (fun a0 => ks.2.1 ((), ((a0, ()), ()))) d.1.1.1 d.1.2.2.1.1 d.1.2.2.2.1.1 d.2.1.1
section
variable (c_constraint_Valid_f1 : T_constraint_Valid_f1)
@[reducible] def slices_IndexFunc_api_Diff_api_Diff_vconstraint_Valid_f1_X : Ctx := ⟨look tab, pick1 [(82, .spec (constraint_Valid_f1_S c_constraint_Valid_f1))], false⟩
def slices_IndexFunc_api_Diff_api_Diff_vconstraint_Valid_f1_p1_s {β : Type} (rec : (List (Int × (Int × Int))) → Int → Int → Int → Option β) (k1 : slices_IndexFunc_api_Diff_api_Diff_vconstraint_Valid_f1_p1_K1 β) (k2 : slices_IndexFunc_api_Diff_api_Diff_vconstraint_Valid_f1_p1_K2 β) (s : List (Int × (Int × Int))) (t7 : Int) (t8 : Int) (b0_ : Int) : Option β :=
  cond (decide (t8 < t7))
  (cond (decide (0 ≤ t8) && decide (t8 < (List.length s : Int)))
  (let e : (Int × (Int × Int)) := List.getD s (Int.toNat t8) ((0 : Int), ((0 : Int), (0 : Int)));
  c_constraint_Valid_f1 e b0_ (fun (rValid1 : Bool) (mrValid1 : Int) =>
  cond rValid1
  (k1 t8 mrValid1)
  (rec s t7 (IntKind.i64.wrap (t8 + (1 : Int))) mrValid1)))
  none)
  (k2 b0_)
def slices_IndexFunc_api_Diff_api_Diff_vconstraint_Valid_f1_p1_l {β : Type} : Nat → slices_IndexFunc_api_Diff_api_Diff_vconstraint_Valid_f1_p1_K1 β → slices_IndexFunc_api_Diff_api_Diff_vconstraint_Valid_f1_p1_K2 β → (List (Int × (Int × Int))) → Int → Int → Int → Option β
  | 0 => fun _ _ _ _ _ _ => none
  | i + 1 => fun k1 k2 s t7 t8 b0_ => slices_IndexFunc_api_Diff_api_Diff_vconstraint_Valid_f1_p1_s c_constraint_Valid_f1 (slices_IndexFunc_api_Diff_api_Diff_vconstraint_Valid_f1_p1_l i k1 k2) k1 k2 s t7 t8 b0_
theorem slices_IndexFunc_api_Diff_api_Diff_vconstraint_Valid_f1_p1_ok' (hΓ : ΓOk Try.prog (slices_IndexFunc_api_Diff_api_Diff_vconstraint_Valid_f1_X c_constraint_Valid_f1).Γ) (i : Nat) : PieceOk Try.prog 19 1 slices_IndexFunc_api_Diff_api_Diff_vconstraint_Valid_f1_p1_code slices_IndexFunc_api_Diff_api_Diff_vconstraint_Valid_f1_p1_v slices_IndexFunc_api_Diff_api_Diff_vconstraint_Valid_f1_p1_o (slices_IndexFunc_api_Diff_api_Diff_vconstraint_Valid_f1_p1_G (slices_IndexFunc_api_Diff_api_Diff_vconstraint_Valid_f1_p1_l c_constraint_Valid_f1 i)) := by
  rw [show slices_IndexFunc_api_Diff_api_Diff_vconstraint_Valid_f1_p1_code = .loop (loopBody slices_IndexFunc_api_Diff_api_Diff_vconstraint_Valid_f1_p1_code) by kernel_rfl]
  exact piece_loop (X := (slices_IndexFunc_api_Diff_api_Diff_vconstraint_Valid_f1_X c_constraint_Valid_f1)) (p := 1) (Λ := pick1 []) (G := fun i => @fun β d ks => slices_IndexFunc_api_Diff_api_Diff_vconstraint_Valid_f1_p1_G (slices_IndexFunc_api_Diff_api_Diff_vconstraint_Valid_f1_p1_l c_constraint_Valid_f1 i) d ks) mixed tab_ok hΓ rfl (by kernel_rfl) CutsOk_nil (fun _ _ => rfl) (fun i => @fun β d ks r h => Eq.trans (b := slices_IndexFunc_api_Diff_api_Diff_vconstraint_Valid_f1_p1_G (slices_IndexFunc_api_Diff_api_Diff_vconstraint_Valid_f1_p1_l c_constraint_Valid_f1 (i + 1)) d ks) (by kernel_rfl) h) i
def slices_IndexFunc_api_Diff_api_Diff_vconstraint_Valid_f1_s (p1 : slices_IndexFunc_api_Diff_api_Diff_vconstraint_Valid_f1_p1_T) {β : Type} (s : List (Int × (Int × Int))) (b0_ : Int) (k : (Int → Int → Option β)) : Option β :=
  p1 (fun (t4 : Int) (b0_2 : Int) =>
  k t4 b0_2) (fun (b0_2 : Int) =>
  k (-1 : Int) b0_2) s (List.length s : Int) (0 : Int) b0_
theorem slices_IndexFunc_api_Diff_api_Diff_vconstraint_Valid_f1_ok' (hΓ : ΓOk Try.prog (slices_IndexFunc_api_Diff_api_Diff_vconstraint_Valid_f1_X c_constraint_Valid_f1).Γ) (p1 : slices_IndexFunc_api_Diff_api_Diff_vconstraint_Valid_f1_p1_T) (hp1 : PieceOk Try.prog 19 1 slices_IndexFunc_api_Diff_api_Diff_vconstraint_Valid_f1_p1_code slices_IndexFunc_api_Diff_api_Diff_vconstraint_Valid_f1_p1_v slices_IndexFunc_api_Diff_api_Diff_vconstraint_Valid_f1_p1_o (slices_IndexFunc_api_Diff_api_Diff_vconstraint_Valid_f1_p1_G p1)) : SpecOk Try.prog 83 (slices_IndexFunc_api_Diff_api_Diff_vconstraint_Valid_f1_S (slices_IndexFunc_api_Diff_api_Diff_vconstraint_Valid_f1_s p1)) :=
  spec_exec (X := (slices_IndexFunc_api_Diff_api_Diff_vconstraint_Valid_f1_X c_constraint_Valid_f1)) (Λ := pick1 [(26, pieceCut slices_IndexFunc_api_Diff_api_Diff_vconstraint_Valid_f1_p1_v slices_IndexFunc_api_Diff_api_Diff_vconstraint_Valid_f1_p1_o (slices_IndexFunc_api_Diff_api_Diff_vconstraint_Valid_f1_p1_G p1))]) (rs := [.tmp 4]) (c := bodyOf Try.f83) mixed tab_ok hΓ Try.func83 (by kernel_rfl) (by kernel_rfl) (by kernel_rfl) (by kernel_rfl) (CutsOk_cons (q := 26) (c' := slices_IndexFunc_api_Diff_api_Diff_vconstraint_Valid_f1_p1_code) (by kernel_rfl) rfl hp1 CutsOk_nil) (fun x k r h => Eq.trans (b := (slices_IndexFunc_api_Diff_api_Diff_vconstraint_Valid_f1_S (slices_IndexFunc_api_Diff_api_Diff_vconstraint_Valid_f1_s p1)).run x k) (by kernel_rfl) h)
end
theorem slices_IndexFunc_api_Diff_api_Diff_vconstraint_Valid_f1_Γ : ΓOk Try.prog (pick1 [(82, .spec (constraint_Valid_f1_S constraint_Valid_f1))]) := (ΓOk_cons constraint_Valid_f1_ok ΓOk_nil)
def slices_IndexFunc_api_Diff_api_Diff_vconstraint_Valid_f1_p1_n (m : Nat) : slices_IndexFunc_api_Diff_api_Diff_vconstraint_Valid_f1_p1_T := slices_IndexFunc_api_Diff_api_Diff_vconstraint_Valid_f1_p1_l constraint_Valid_f1 m
theorem slices_IndexFunc_api_Diff_api_Diff_vconstraint_Valid_f1_p1_step {β : Type} (i : Nat) (k1 k2 s t7 t8 b0_) : (slices_IndexFunc_api_Diff_api_Diff_vconstraint_Valid_f1_p1_n (i + 1) k1 k2 s t7 t8 b0_ : Option β) = slices_IndexFunc_api_Diff_api_Diff_vconstraint_Valid_f1_p1_s constraint_Valid_f1 (slices_IndexFunc_api_Diff_api_Diff_vconstraint_Valid_f1_p1_n i k1 k2) k1 k2 s t7 t8 b0_ := rfl
def slices_IndexFunc_api_Diff_api_Diff_vconstraint_Valid_f1_p1 : slices_IndexFunc_api_Diff_api_Diff_vconstraint_Valid_f1_p1_T := slices_IndexFunc_api_Diff_api_Diff_vconstraint_Valid_f1_p1_n fuel
theorem slices_IndexFunc_api_Diff_api_Diff_vconstraint_Valid_f1_p1_ok : PieceOk Try.prog 19 1 slices_IndexFunc_api_Diff_api_Diff_vconstraint_Valid_f1_p1_code slices_IndexFunc_api_Diff_api_Diff_vconstraint_Valid_f1_p1_v slices_IndexFunc_api_Diff_api_Diff_vconstraint_Valid_f1_p1_o (slices_IndexFunc_api_Diff_api_Diff_vconstraint_Valid_f1_p1_G slices_IndexFunc_api_Diff_api_Diff_vconstraint_Valid_f1_p1) := slices_IndexFunc_api_Diff_api_Diff_vconstraint_Valid_f1_p1_ok' constraint_Valid_f1 slices_IndexFunc_api_Diff_api_Diff_vconstraint_Valid_f1_Γ fuel
def slices_IndexFunc_api_Diff_api_Diff_vconstraint_Valid_f1 : T_slices_IndexFunc_api_Diff_api_Diff_vconstraint_Valid_f1 := slices_IndexFunc_api_Diff_api_Diff_vconstraint_Valid_f1_s slices_IndexFunc_api_Diff_api_Diff_vconstraint_Valid_f1_p1
theorem slices_IndexFunc_api_Diff_api_Diff_vconstraint_Valid_f1_ok : SpecOk Try.prog 83 (slices_IndexFunc_api_Diff_api_Diff_vconstraint_Valid_f1_S slices_IndexFunc_api_Diff_api_Diff_vconstraint_Valid_f1) := slices_IndexFunc_api_Diff_api_Diff_vconstraint_Valid_f1_ok' constraint_Valid_f1 slices_IndexFunc_api_Diff_api_Diff_vconstraint_Valid_f1_Γ slices_IndexFunc_api_Diff_api_Diff_vconstraint_Valid_f1_p1 slices_IndexFunc_api_Diff_api_Diff_vconstraint_Valid_f1_p1_ok

/-- slices.ContainsFunc[[]pagewatch/api.Diff,pagewatch/api.Diff] -/
abbrev T_slices_ContainsFunc_api_Diff_api_Diff_vconstraint_Valid_f1 := {β : Type} → (List (Int × (Int × Int))) → Int → (Bool → Int → Option β) → Option β
def slices_ContainsFunc_api_Diff_api_Diff_vconstraint_Valid_f1_S (c : T_slices_ContainsFunc_api_Diff_api_Diff_vconstraint_Valid_f1) : Spec :=
  ⟨[(false, [.data (.slice (.prod (.int .i64) (.prod (.int .i64) (.int .i64))))]), (false, [.fn 82 [0]])], [.cells 3 [.data (.int .i64)]], [(false, [.data .bool])], [.cells 3 [.data (.int .i64)]], fun x k => c x.1.1.1 x.2.1.1 (fun r0 r1 => k (((r0, ()), ()), ((r1, ()), ())))⟩
section
variable (c_slices_IndexFunc_api_Diff_api_Diff_vconstraint_Valid_f1 : T_slices_IndexFunc_api_Diff_api_Diff_vconstraint_Valid_f1)
@[reducible] def slices_ContainsFunc_api_Diff_api_Diff_vconstraint_Valid_f1_X : Ctx := ⟨look tab, pick1 [(83, .spec (slices_IndexFunc_api_Diff_api_Diff_vconstraint_Valid_f1_S c_slices_IndexFunc_api_Diff_api_Diff_vconstraint_Valid_f1))], false⟩
def slices_ContainsFunc_api_Diff_api_Diff_vconstraint_Valid_f1_s {β : Type} (s : List (Int × (Int × Int))) (b0_ : Int) (k : (Bool → Int → Option β)) : Option β :=
  c_slices_IndexFunc_api_Diff_api_Diff_vconstraint_Valid_f1 s b0_ (fun (rDiff : Int) (mrDiff : Int) =>
  let t : Bool := (decide ((0 : Int) ≤ rDiff));
  k t mrDiff)
theorem slices_ContainsFunc_api_Diff_api_Diff_vconstraint_Valid_f1_ok' (hΓ : ΓOk Try.prog (slices_ContainsFunc_api_Diff_api_Diff_vconstraint_Valid_f1_X c_slices_IndexFunc_api_Diff_api_Diff_vconstraint_Valid_f1).Γ) : SpecOk Try.prog 78 (slices_ContainsFunc_api_Diff_api_Diff_vconstraint_Valid_f1_S (slices_ContainsFunc_api_Diff_api_Diff_vconstraint_Valid_f1_s c_slices_IndexFunc_api_Diff_api_Diff_vconstraint_Valid_f1)) :=
  spec_exec (X := (slices_ContainsFunc_api_Diff_api_Diff_vconstraint_Valid_f1_X c_slices_IndexFunc_api_Diff_api_Diff_vconstraint_Valid_f1)) (Λ := pick1 []) (rs := [.tmp 4]) (c := bodyOf Try.f78) mixed tab_ok hΓ Try.func78 (by kernel_rfl) (by kernel_rfl) (by kernel_rfl) (by kernel_rfl) CutsOk_nil (fun x k r h => Eq.trans (b := (slices_ContainsFunc_api_Diff_api_Diff_vconstraint_Valid_f1_S (slices_ContainsFunc_api_Diff_api_Diff_vconstraint_Valid_f1_s c_slices_IndexFunc_api_Diff_api_Diff_vconstraint_Valid_f1)).run x k) (by kernel_rfl) h)
end
theorem slices_ContainsFunc_api_Diff_api_Diff_vconstraint_Valid_f1_Γ : ΓOk Try.prog (pick1 [(83, .spec (slices_IndexFunc_api_Diff_api_Diff_vconstraint_Valid_f1_S slices_IndexFunc_api_Diff_api_Diff_vconstraint_Valid_f1))]) := (ΓOk_cons slices_IndexFunc_api_Diff_api_Diff_vconstraint_Valid_f1_ok ΓOk_nil)
def slices_ContainsFunc_api_Diff_api_Diff_vconstraint_Valid_f1 : T_slices_ContainsFunc_api_Diff_api_Diff_vconstraint_Valid_f1 := slices_ContainsFunc_api_Diff_api_Diff_vconstraint_Valid_f1_s slices_IndexFunc_api_Diff_api_Diff_vconstraint_Valid_f1
theorem slices_ContainsFunc_api_Diff_api_Diff_vconstraint_Valid_f1_ok : SpecOk Try.prog 78 (slices_ContainsFunc_api_Diff_api_Diff_vconstraint_Valid_f1_S slices_ContainsFunc_api_Diff_api_Diff_vconstraint_Valid_f1) := slices_ContainsFunc_api_Diff_api_Diff_vconstraint_Valid_f1_ok' slices_IndexFunc_api_Diff_api_Diff_vconstraint_Valid_f1 slices_ContainsFunc_api_Diff_api_Diff_vconstraint_Valid_f1_Γ

/-- pagewatch/constraint.Valid -/
abbrev T_constraint_Valid := {β : Type} → Int → (List (Int × (Int × Int))) → (Bool → Option β) → Option β
def constraint_Valid_S (c : T_constraint_Valid) : Spec :=
  ⟨[(false, [.data (.int .i64)]), (false, [.data (.slice (.prod (.int .i64) (.prod (.int .i64) (.int .i64))))])], [], [(false, [.data .bool])], [], fun x k => c x.1.1.1 x.1.2.1.1 (fun r0 => k (((r0, ()), ()), ()))⟩
section
variable (c_constraint_in : T_constraint_in) (c_slices_ContainsFunc_api_Diff_api_Diff_vconstraint_Valid_f1 : T_slices_ContainsFunc_api_Diff_api_Diff_vconstraint_Valid_f1)
@[reducible] def constraint_Valid_X : Ctx := ⟨look tab, pick1 [(77, .spec (constraint_in_S c_constraint_in)), (78, .spec (slices_ContainsFunc_api_Diff_api_Diff_vconstraint_Valid_f1_S c_slices_ContainsFunc_api_Diff_api_Diff_vconstraint_Valid_f1))], false⟩
def constraint_Valid_s {β : Type} (n : Int) (l : List (Int × (Int × Int))) (k : (Bool → Option β)) : Option β :=
  c_constraint_in n (1 : Int) (41 : Int) (fun (rin : Bool) =>
  cond (!rin)
  (k false)
  (cond (decide ((4000 : Int) < (List.length l : Int)))
  (k false)
  (c_slices_ContainsFunc_api_Diff_api_Diff_vconstraint_Valid_f1 l n (fun (rDiff : Bool) (mrDiff : Int) =>
  k (!rDiff)))))
theorem constraint_Valid_ok' (hΓ : ΓOk Try.prog (constraint_Valid_X c_constraint_in c_slices_ContainsFunc_api_Diff_api_Diff_vconstraint_Valid_f1).Γ) : SpecOk Try.prog 75 (constraint_Valid_S (constraint_Valid_s c_constraint_in c_slices_ContainsFunc_api_Diff_api_Diff_vconstraint_Valid_f1)) :=
  spec_exec (X := (constraint_Valid_X c_constraint_in c_slices_ContainsFunc_api_Diff_api_Diff_vconstraint_Valid_f1)) (Λ := pick1 []) (rs := [.tmp 4]) (c := bodyOf Try.f75) mixed tab_ok hΓ Try.func75 (by kernel_rfl) (by kernel_rfl) (by kernel_rfl) (by kernel_rfl) CutsOk_nil (fun x k r h => Eq.trans (b := (constraint_Valid_S (constraint_Valid_s c_constraint_in c_slices_ContainsFunc_api_Diff_api_Diff_vconstraint_Valid_f1)).run x k) (by kernel_rfl) h)
end
theorem constraint_Valid_Γ : ΓOk Try.prog (pick1 [(77, .spec (constraint_in_S constraint_in)), (78, .spec (slices_ContainsFunc_api_Diff_api_Diff_vconstraint_Valid_f1_S slices_ContainsFunc_api_Diff_api_Diff_vconstraint_Valid_f1))]) := (ΓOk_cons constraint_in_ok (ΓOk_cons slices_ContainsFunc_api_Diff_api_Diff_vconstraint_Valid_f1_ok ΓOk_nil))
def constraint_Valid : T_constraint_Valid := constraint_Valid_s constraint_in slices_ContainsFunc_api_Diff_api_Diff_vconstraint_Valid_f1
theorem constraint_Valid_ok : SpecOk Try.prog 75 (constraint_Valid_S constraint_Valid) := constraint_Valid_ok' constraint_in slices_ContainsFunc_api_Diff_api_Diff_vconstraint_Valid_f1 constraint_Valid_Γ

/-- pagewatch/constraint.Close -/
abbrev T_constraint_Close := {β : Type} → Int → (List (Int × (Int × Int))) → ((List (List Int)) → Bool → Option β) → Option β
def constraint_Close_S (c : T_constraint_Close) : Spec :=
  ⟨[(false, [.data (.int .i64)]), (false, [.data (.slice (.prod (.int .i64) (.prod (.int .i64) (.int .i64))))])], [], [(false, [.data (.slice (.slice (.int .i64)))]), (false, [.data .bool])], [], fun x k => c x.1.1.1 x.1.2.1.1 (fun r0 r1 => k (((r0, ()), (r1, ()), ()), ()))⟩
noncomputable def constraint_Close_p1_code : Code := codeAt 122 (bodyOf Try.f72)
noncomputable def constraint_Close_p5_code : Code := codeAt 250 (bodyOf Try.f72)
noncomputable def constraint_Close_p6_code : Code := codeAt 506 (bodyOf Try.f72)
noncomputable def constraint_Close_p4_code : Code := codeAt 458 (loopBody constraint_Close_p5_code)
noncomputable def constraint_Close_p3_code : Code := codeAt 230 (loopBody constraint_Close_p4_code)
noncomputable def constraint_Close_p2_code : Code := codeAt 115 (loopBody constraint_Close_p3_code)
abbrev constraint_Close_p1_K1 (β : Type) := Int → (List (List Int)) → Option β
abbrev constraint_Close_p1_T := {β : Type} → constraint_Close_p1_K1 β → Int → Int → Int → (List (List Int)) → Option β
def constraint_Close_p1_v : View := ⟨0, [0, 6, 19, 20], [(false, [.data (.int .i64)]), (false, [.math 0]), (false, [.data (.int .i64)]), (false, [.data (.int .i64)])], [.mat 27 3 (.int .i64)]⟩
def constraint_Close_p1_o : List (AExit × View) := [(.exit 0, ⟨0, [0, 6], [(false, [.data (.int .i64)]), (false, [.math 0])], [.mat 27 3 (.int .i64)]⟩)]
@[reducible] def constraint_Close_p1_G (p : constraint_Close_p1_T) {β : Type} (d : constraint_Close_p1_v.den) (ks : Outs.K β constraint_Close_p1_o) : Option β :=
  p (fun a0 a1 => ks.1 (((a0, ()), (), ()), (a1, ()))) d.1.1.1 d.1.2.2.1.1 d.1.2.2.2.1.1 d.2.1
abbrev constraint_Close_p2_K1 (β : Type) := Int → Int → Int → Int → Int → Int → Int → Int → Int → (List (List Int)) → Option β
abbrev constraint_Close_p2_T := {β : Type} → constraint_Close_p2_K1 β → Int → Int → Int → Int → Int → Int → Int → Int → Int → Int → Bool → (List (List Int)) → Option β
def constraint_Close_p2_v : View := ⟨0, [0, 6, 8, 9, 10, 38, 39, 42, 43, 46, 47, 67], [(false, [.data (.int .i64)]), (false, [.math 0]), (false, [.data (.int .i64)]), (false, [.data (.int .i64)]), (false, [.data (.int .i64)]), (false, [.data (.int .i64)]), (false, [.data (.int .i64)]), (false, [.data (.int .i64)]), (false, [.data (.int .i64)]), (false, [.data (.int .i64)]), (false, [.data (.int .i64)]), (false, [.data .bool])], [.mat 27 3 (.int .i64)]⟩
def constraint_Close_p2_o : List (AExit × View) := [(.normal, ⟨0, [0, 6, 8, 9, 38, 39, 42, 43, 46, 47], [(false, [.data (.int .i64)]), (false, [.math 0]), (false, [.data (.int .i64)]), (false, [.data (.int .i64)]), (false, [.data (.int .i64)]), (false, [.data (.int .i64)]), (false, [.data (.int .i64)]), (false, [.data (.int .i64)]), (false, [.data (.int .i64)]), (false, [.data (.int .i64)])], [.mat 27 3 (.int .i64)]⟩)]
@[reducible] def constraint_Close_p2_G (p : constraint_Close_p2_T) {β : Type} (d : constraint_Close_p2_v.den) (ks : Outs.K β constraint_Close_p2_o) : Option β :=
  p (fun a0 a1 a2 a3 a4 a5 a6 a7 a8 a9 => ks.1 (((a0, ()), (), (a1, ()), (a2, ()), (a3, ()), (a4, ()), (a5, ()), (a6, ()), (a7, ()), (a8, ()), ()), (a9, ()))) d.1.1.1 d.1.2.2.1.1 d.1.2.2.2.1.1 d.1.2.2.2.2.1.1 d.1.2.2.2.2.2.1.1 d.1.2.2.2.2.2.2.1.1 d.1.2.2.2.2.2.2.2.1.1 d.1.2.2.2.2.2.2.2.2.1.1 d.1.2.2.2.2.2.2.2.2.2.1.1 d.1.2.2.2.2.2.2.2.2.2.2.1.1 d.1.2.2.2.2.2.2.2.2.2.2.2.1.1 d.2.1
abbrev constraint_Close_p3_K1 (β : Type) := Int → Int → Int → Int → Int → Int → (List (List Int)) → Option β
abbrev constraint_Close_p3_T := {β : Type} → constraint_Close_p3_K1 β → Int → Int → Int → Int → Int → Int → Int → Int → Int → (List (List Int)) → Option β
def constraint_Close_p3_v : View := ⟨0, [0, 6, 8, 9, 38, 39, 42, 43, 46, 47], [(false, [.data (.int .i64)]), (false, [.math 0]), (false, [.data (.int .i64)]), (false, [.data (.int .i64)]), (false, [.data (.int .i64)]), (false, [.data (.int .i64)]), (false, [.data (.int .i64)]), (false, [.data (.int .i64)]), (false, [.data (.int .i64)]), (false, [.data (.int .i64)])], [.mat 27 3 (.int .i64)]⟩
def constraint_Close_p3_o : List (AExit × View) := [(.exit 6, ⟨0, [0, 6, 8, 38, 39, 42, 43], [(false, [.data (.int .i64)]), (false, [.math 0]), (false, [.data (.int .i64)]), (false, [.data (.int .i64)]), (false, [.data (.int .i64)]), (false, [.data (.int .i64)]), (false, [.data (.int .i64)])], [.mat 27 3 (.int .i64)]⟩)]
@[reducible] def constraint_Close_p3_G (p : constraint_Close_p3_T) {β : Type} (d : constraint_Close_p3_v.den) (ks : Outs.K β constraint_Close_p3_o) : Option β :=
  p (fun a0 a1 a2 a3 a4 a5 a6 => ks.1 (((a0, ()), (), (a1, ()), (a2, ()), (a3, ()), (a4, ()), (a5, ()), ()), (a6, ()))) d.1.1.1 d.1.2.2.1.1 d.1.2.2.2.1.1 d.1.2.2.2.2.1.1 d.1.2.2.2.2.2.1.1 d.1.2.2.2.2.2.2.1.1 d.1.2.2.2.2.2.2.2.1.1 d.1.2.2.2.2.2.2.2.2.1.1 d.1.2.2.2.2.2.2.2.2.2.1.1 d.2.1
abbrev constraint_Close_p4_K1 (β : Type) := Int → Int → Int → Int → (List (List Int)) → Option β
abbrev constraint_Close_p4_T := {β : Type} → constraint_Close_p4_K1 β → Int → Int → Int → Int → Int → Int → (List (List Int)) → Option β
def constraint_Close_p4_v : View := ⟨0, [0, 6, 8, 38, 39, 42, 43], [(false, [.data (.int .i64)]), (false, [.math 0]), (false, [.data (.int .i64)]), (false, [.data (.int .i64)]), (false, [.data (.int .i64)]), (false, [.data (.int .i64)]), (false, [.data (.int .i64)])], [.mat 27 3 (.int .i64)]⟩
def constraint_Close_p4_o : List (AExit × View) := [(.exit 4, ⟨0, [0, 6, 8, 38, 39], [(false, [.data (.int .i64)]), (false, [.math 0]), (false, [.data (.int .i64)]), (false, [.data (.int .i64)]), (false, [.data (.int .i64)])], [.mat 27 3 (.int .i64)]⟩)]
@[reducible] def constraint_Close_p4_G (p : constraint_Close_p4_T) {β : Type} (d : constraint_Close_p4_v.den) (ks : Outs.K β constraint_Close_p4_o) : Option β :=
  p (fun a0 a1 a2 a3 a4 => ks.1 (((a0, ()), (), (a1, ()), (a2, ()), (a3, ()), ()), (a4, ()))) d.1.1.1 d.1.2.2.1.1 d.1.2.2.2.1.1 d.1.2.2.2.2.1.1 d.1.2.2.2.2.2.1.1 d.1.2.2.2.2.2.2.1.1 d.2.1
abbrev constraint_Close_p5_K1 (β : Type) := Bool → (List (List Int)) → Option β
abbrev constraint_Close_p5_K2 (β : Type) := Int → (List (List Int)) → Option β
abbrev constraint_Close_p5_T := {β : Type} → constraint_Close_p5_K1 β → constraint_Close_p5_K2 β → Int → Int → Int → (List (List Int)) → Option β
def constraint_Close_p5_v : View := ⟨0, [0, 6, 38, 39], [(false, [.data (.int .i64)]), (false, [.math 0]), (false, [.data (.int .i64)]), (false, [.data (.int .i64)])], [.mat 27 3 (.int .i64)]⟩
def constraint_Close_p5_o : List (AExit × View) := [(.ret, ⟨0, [4, 5], [(false, [.math 0]), (false, [.data .bool])], [.mat 27 3 (.int .i64)]⟩), (.exit 2, ⟨0, [0, 6], [(false, [.data (.int .i64)]), (false, [.math 0])], [.mat 27 3 (.int .i64)]⟩)]
@[reducible] def constraint_Close_p5_G (p : constraint_Close_p5_T) {β : Type} (d : constraint_Close_p5_v.den) (ks : Outs.K β constraint_Close_p5_o) : Option β :=
  p (fun a0 a1 => ks.1 (((), (a0, ()), ()), (a1, ()))) (fun a0 a1 => ks.2.1 (((a0, ()), (), ()), (a1, ()))) d.1.1.1 d.1.2.2.1.1 d.1.2.2.2.1.1 d.2.1
abbrev constraint_Close_p6_K1 (β : Type) := Bool → (List (List Int)) → Option β
abbrev constraint_Close_p6_K2 (β : Type) := (List (List Int)) → Option β
abbrev constraint_Close_p6_T := {β : Type} → constraint_Close_p6_K1 β → constraint_Close_p6_K2 β → Int → Int → (List (List Int)) → Option β
def constraint_Close_p6_v : View := ⟨0, [6, 108, 109], [(false, [.math 0]), (false, [.data (.int .i64)]), (false, [.data (.int .i64)])], [.mat 27 3 (.int .i64)]⟩
def constraint_Close_p6_o : List (AExit × View) := [(.ret, ⟨0, [4, 5], [(false, [.math 0]), (false, [.data .bool])], [.mat 27 3 (.int .i64)]⟩), (.exit 8, ⟨0, [6], [(false, [.math 0])], [.mat 27 3 (.int .i64)]⟩)]
@[reducible] def constraint_Close_p6_G (p : constraint_Close_p6_T) {β : Type} (d : constraint_Close_p6_v.den) (ks : Outs.K β constraint_Close_p6_o) : Option β :=
  p (fun a0 a1 => ks.1 (((), (a0, ()), ()), (a1, ()))) (fun a0 => ks.2.1 (((), ()), (a0, ()))) d.1.2.1.1 d.1.2.2.1.1 d.2.1
section
variable (c_constraint_Valid : T_constraint_Valid) (c_constraint_direct : T_constraint_direct)
@[reducible] def constraint_Close_X : Ctx := ⟨look tab, pick1 [(75, .spec (constraint_Valid_S c_constraint_Valid)), (81, .spec (constraint_direct_S c_constraint_direct))], true⟩
def constraint_Close_p1_s {β : Type} (rec : Int → Int → Int → (List (List Int)) → Option β) (k1 : constraint_Close_p1_K1 β) (n : Int) (t19 : Int) (t20 : Int) (m : List (List Int)) : Option β :=
  cond (decide (t20 < t19))
  (cond (decide (0 ≤ t20) && decide (t20 < (List.length m : Int)))
  (cond (decide (0 ≤ t20) && decide (t20 < (List.length m : Int)))
  (cond (decide (0 ≤ t20) && decide (t20 < (List.length (List.getD m (Int.toNat t20) []) : Int)))
  (cond (decide (0 ≤ t20) && decide (t20 < (List.length (List.getD m (Int.toNat t20) []) : Int)))
  (let m_ : List (List Int) := (List.set m (Int.toNat t20) (List.set (List.getD m (Int.toNat t20) []) (Int.toNat t20) (if (0 : Int) < (List.getD (List.getD m (Int.toNat t20) []) (Int.toNat t20) (0 : Int)) then (0 : Int) else (List.getD (List.getD m (Int.toNat t20) []) (Int.toNat t20) (0 : Int)))));
  rec n t19 (IntKind.i64.wrap (t20 + (1 : Int))) m_)
  none)
  none)
  none)
  none)
  (k1 n m)
def constraint_Close_p1_l {β : Type} : Nat → constraint_Close_p1_K1 β → Int → Int → Int → (List (List Int)) → Option β
  | 0 => fun _ _ _ _ _ => none
  | i + 1 => fun k1 n t19 t20 m => constraint_Close_p1_s (constraint_Close_p1_l i k1) k1 n t19 t20 m
theorem constraint_Close_p1_ok' (hΓ : ΓOk Try.prog (constraint_Close_X c_constraint_Valid c_constraint_direct).Γ) (i : Nat) : PieceOk Try.prog 122 0 constraint_Close_p1_code constraint_Close_p1_v constraint_Close_p1_o (constraint_Close_p1_G (constraint_Close_p1_l i)) := by
  rw [show constraint_Close_p1_code = .loop (loopBody constraint_Close_p1_code) by kernel_rfl]
  exact piece_loop (X := (constraint_Close_X c_constraint_Valid c_constraint_direct)) (p := 1) (Λ := pick1 []) (G := fun i => @fun β d ks => constraint_Close_p1_G (constraint_Close_p1_l i) d ks) mixed tab_ok hΓ rfl (by kernel_rfl) CutsOk_nil (fun _ _ => rfl) (fun i => @fun β d ks r h => Eq.trans (b := constraint_Close_p1_G (constraint_Close_p1_l (i + 1)) d ks) (by kernel_rfl) h) i
def constraint_Close_p2_s {β : Type} (k1 : constraint_Close_p2_K1 β) (n : Int) (k_ : Int) (i_ : Int) (j : Int) (t38 : Int) (t39 : Int) (t42 : Int) (t43 : Int) (t46 : Int) (t47 : Int) (t67 : Bool) (m : List (List Int)) : Option β :=
  cond t67
  (cond (decide (0 ≤ i_) && decide (i_ < (List.length m : Int)))
  (cond (decide (0 ≤ i_) && decide (i_ < (List.length m : Int)))
  (cond (decide (0 ≤ j) && decide (j < (List.length (List.getD m (Int.toNat i_) []) : Int)))
  (cond (decide (0 ≤ i_) && decide (i_ < (List.length m : Int)))
  (cond (decide (0 ≤ k_) && decide (k_ < (List.length (List.getD m (Int.toNat i_) []) : Int)))
  (cond (decide (0 ≤ k_) && decide (k_ < (List.length m : Int)))
  (cond (decide (0 ≤ j) && decide (j < (List.length (List.getD m (Int.toNat k_) []) : Int)))
  (cond (decide (0 ≤ j) && decide (j < (List.length (List.getD m (Int.toNat i_) []) : Int)))
  (let m_ : List (List Int) := (List.set m (Int.toNat i_) (List.set (List.getD m (Int.toNat i_) []) (Int.toNat j) (if (IntKind.i64.wrap ((List.getD (List.getD m (Int.toNat i_) []) (Int.toNat k_) (0 : Int)) + (List.getD (List.getD m (Int.toNat k_) []) (Int.toNat j) (0 : Int)))) < (List.getD (List.getD m (Int.toNat i_) []) (Int.toNat j) (0 : Int)) then (IntKind.i64.wrap ((List.getD (List.getD m (Int.toNat i_) []) (Int.toNat k_) (0 : Int)) + (List.getD (List.getD m (Int.toNat k_) []) (Int.toNat j) (0 : Int)))) else (List.getD (List.getD m (Int.toNat i_) []) (Int.toNat j) (0 : Int)))));
  k1 n k_ i_ t38 t39 t42 t43 t46 t47 m_)
  none)
  none)
  none)
  none)
  none)
  none)
  none)
  none)
  (k1 n k_ i_ t38 t39 t42 t43 t46 t47 m)
def constraint_Close_p2_u {β : Type} (k1 : constraint_Close_p2_K1 β) (n : Int) (k_ : Int) (i_ : Int) (j : Int) (t38 : Int) (t39 : Int) (t42 : Int) (t43 : Int) (t46 : Int) (t47 : Int) (t67 : Bool) (m : List (List Int)) : Option β := constraint_Close_p2_s k1 n k_ i_ j t38 t39 t42 t43 t46 t47 t67 m
theorem constraint_Close_p2_ok' (hΓ : ΓOk Try.prog (constraint_Close_X c_constraint_Valid c_constraint_direct).Γ) : PieceOk Try.prog 122 0 constraint_Close_p2_code constraint_Close_p2_v constraint_Close_p2_o (constraint_Close_p2_G (constraint_Close_p2_u)) :=
  piece_exec (X := (constraint_Close_X c_constraint_Valid c_constraint_direct)) (p := 115) (Λ := pick1 []) mixed tab_ok hΓ (by kernel_rfl) CutsOk_nil (fun d ks r h => Eq.trans (b := constraint_Close_p2_G (constraint_Close_p2_u) d ks) (by kernel_rfl) h)
def constraint_Close_p3_s (p2 : constraint_Close_p2_T) {β : Type} (rec : Int → Int → Int → Int → Int → Int → Int → Int → Int → (List (List Int)) → Option β) (k1 : constraint_Close_p3_K1 β) (n : Int) (k_ : Int) (i_ : Int) (t38 : Int) (t39 : Int) (t42 : Int) (t43 : Int) (t46 : Int) (t47 : Int) (m : List (List Int)) : Option β :=
  cond (decide (t47 < t46))
  (cond (decide (0 ≤ i_) && decide (i_ < (List.length m : Int)))
  (cond (decide (0 ≤ k_) && decide (k_ < (List.length (List.getD m (Int.toNat i_) []) : Int)))
  (cond (!decide ((List.getD (List.getD m (Int.toNat i_) []) (Int.toNat k_) (0 : Int)) = (1099511627776 : Int)))
  (cond (decide (0 ≤ k_) && decide (k_ < (List.length m : Int)))
  (cond (decide (0 ≤ t47) && decide (t47 < (List.length (List.getD m (Int.toNat k_) []) : Int)))
  (p2 (fun (n2 : Int) (k_2 : Int) (i_2 : Int) (t382 : Int) (t392 : Int) (t422 : Int) (t432 : Int) (t462 : Int) (t472 : Int) (m2 : List (List Int)) =>
  rec n2 k_2 i_2 t382 t392 t422 t432 t462 (IntKind.i64.wrap (t472 + (1 : Int))) m2) n k_ i_ t47 t38 t39 t42 t43 t46 t47 (!decide ((List.getD (List.getD m (Int.toNat k_) []) (Int.toNat t47) (0 : Int)) = (1099511627776 : Int))) m)
  none)
  none)
  (p2 (fun (n2 : Int) (k_2 : Int) (i_2 : Int) (t382 : Int) (t392 : Int) (t422 : Int) (t432 : Int) (t462 : Int) (t472 : Int) (m2 : List (List Int)) =>
  rec n2 k_2 i_2 t382 t392 t422 t432 t462 (IntKind.i64.wrap (t472 + (1 : Int))) m2) n k_ i_ t47 t38 t39 t42 t43 t46 t47 false m))
  none)
  none)
  (k1 n k_ t38 t39 t42 t43 m)
def constraint_Close_p3_l (p2 : constraint_Close_p2_T) {β : Type} : Nat → constraint_Close_p3_K1 β → Int → Int → Int → Int → Int → Int → Int → Int → Int → (List (List Int)) → Option β
  | 0 => fun _ _ _ _ _ _ _ _ _ _ _ => none
  | i + 1 => fun k1 n k_ i_ t38 t39 t42 t43 t46 t47 m => constraint_Close_p3_s p2 (constraint_Close_p3_l p2 i k1) k1 n k_ i_ t38 t39 t42 t43 t46 t47 m
theorem constraint_Close_p3_ok' (hΓ : ΓOk Try.prog (constraint_Close_X c_constraint_Valid c_constraint_direct).Γ) (p2 : constraint_Close_p2_T) (hp2 : PieceOk Try.prog 122 0 constraint_Close_p2_code constraint_Close_p2_v constraint_Close_p2_o (constraint_Close_p2_G p2)) (i : Nat) : PieceOk Try.prog 122 0 constraint_Close_p3_code constraint_Close_p3_v constraint_Close_p3_o (constraint_Close_p3_G (constraint_Close_p3_l p2 i)) := by
  rw [show constraint_Close_p3_code = .loop (loopBody constraint_Close_p3_code) by kernel_rfl]
  exact piece_loop (X := (constraint_Close_X c_constraint_Valid c_constraint_direct)) (p := 1) (Λ := pick1 [(115, pieceCut constraint_Close_p2_v constraint_Close_p2_o (constraint_Close_p2_G p2))]) (G := fun i => @fun β d ks => constraint_Close_p3_G (constraint_Close_p3_l p2 i) d ks) mixed tab_ok hΓ rfl (by kernel_rfl) (CutsOk_cons (q := 115) (c' := constraint_Close_p2_code) (by kernel_rfl) rfl hp2 CutsOk_nil) (fun _ _ => rfl) (fun i => @fun β d ks r h => Eq.trans (b := constraint_Close_p3_G (constraint_Close_p3_l p2 (i + 1)) d ks) (by kernel_rfl) h) i
def constraint_Close_p4_s (p3 : constraint_Close_p3_T) {β : Type} (rec : Int → Int → Int → Int → Int → Int → (List (List Int)) → Option β) (k1 : constraint_Close_p4_K1 β) (n : Int) (k_ : Int) (t38 : Int) (t39 : Int) (t42 : Int) (t43 : Int) (m : List (List Int)) : Option β :=
  cond (decide (t43 < t42))
  (p3 (fun (n2 : Int) (k_2 : Int) (t382 : Int) (t392 : Int) (t422 : Int) (t432 : Int) (m2 : List (List Int)) =>
  rec n2 k_2 t382 t392 t422 (IntKind.i64.wrap (t432 + (1 : Int))) m2) n k_ t43 t38 t39 t42 t43 n (0 : Int) m)
  (k1 n k_ t38 t39 m)
def constraint_Close_p4_l (p3 : constraint_Close_p3_T) {β : Type} : Nat → constraint_Close_p4_K1 β → Int → Int → Int → Int → Int → Int → (List (List Int)) → Option β
  | 0 => fun _ _ _ _ _ _ _ _ => none
  | i + 1 => fun k1 n k_ t38 t39 t42 t43 m => constraint_Close_p4_s p3 (constraint_Close_p4_l p3 i k1) k1 n k_ t38 t39 t42 t43 m
theorem constraint_Close_p4_ok' (hΓ : ΓOk Try.prog (constraint_Close_X c_constraint_Valid c_constraint_direct).Γ) (p3 : constraint_Close_p3_T) (hp3 : PieceOk Try.prog 122 0 constraint_Close_p3_code constraint_Close_p3_v constraint_Close_p3_o (constraint_Close_p3_G p3)) (i : Nat) : PieceOk Try.prog 122 0 constraint_Close_p4_code constraint_Close_p4_v constraint_Close_p4_o (constraint_Close_p4_G (constraint_Close_p4_l p3 i)) := by
  rw [show constraint_Close_p4_code = .loop (loopBody constraint_Close_p4_code) by kernel_rfl]
  exact piece_loop (X := (constraint_Close_X c_constraint_Valid c_constraint_direct)) (p := 1) (Λ := pick1 [(230, pieceCut constraint_Close_p3_v constraint_Close_p3_o (constraint_Close_p3_G p3))]) (G := fun i => @fun β d ks => constraint_Close_p4_G (constraint_Close_p4_l p3 i) d ks) mixed tab_ok hΓ rfl (by kernel_rfl) (CutsOk_cons (q := 230) (c' := constraint_Close_p3_code) (by kernel_rfl) rfl hp3 CutsOk_nil) (fun _ _ => rfl) (fun i => @fun β d ks r h => Eq.trans (b := constraint_Close_p4_G (constraint_Close_p4_l p3 (i + 1)) d ks) (by kernel_rfl) h) i
def constraint_Close_p5_s (p4 : constraint_Close_p4_T) {β : Type} (rec : Int → Int → Int → (List (List Int)) → Option β) (k1 : constraint_Close_p5_K1 β) (k2 : constraint_Close_p5_K2 β) (n : Int) (t38 : Int) (t39 : Int) (m : List (List Int)) : Option β :=
  cond (decide (t39 < t38))
  (p4 (fun (n2 : Int) (k_ : Int) (t382 : Int) (t392 : Int) (m2 : List (List Int)) =>
  cond (decide (0 ≤ k_) && decide (k_ < (List.length m2 : Int)))
  (cond (decide (0 ≤ k_) && decide (k_ < (List.length (List.getD m2 (Int.toNat k_) []) : Int)))
  (cond (decide ((List.getD (List.getD m2 (Int.toNat k_) []) (Int.toNat k_) (0 : Int)) < (0 : Int)))
  (k1 false ([] : List (List Int)))
  (rec n2 t382 (IntKind.i64.wrap (t392 + (1 : Int))) m2))
  none)
  none) n t39 t38 t39 n (0 : Int) m)
  (k2 n m)
def constraint_Close_p5_l (p4 : constraint_Close_p4_T) {β : Type} : Nat → constraint_Close_p5_K1 β → constraint_Close_p5_K2 β → Int → Int → Int → (List (List Int)) → Option β
  | 0 => fun _ _ _ _ _ _ => none
  | i + 1 => fun k1 k2 n t38 t39 m => constraint_Close_p5_s p4 (constraint_Close_p5_l p4 i k1 k2) k1 k2 n t38 t39 m
theorem constraint_Close_p5_ok' (hΓ : ΓOk Try.prog (constraint_Close_X c_constraint_Valid c_constraint_direct).Γ) (p4 : constraint_Close_p4_T) (hp4 : PieceOk Try.prog 122 0 constraint_Close_p4_code constraint_Close_p4_v constraint_Close_p4_o (constraint_Close_p4_G p4)) (i : Nat) : PieceOk Try.prog 122 0 constraint_Close_p5_code constraint_Close_p5_v constraint_Close_p5_o (constraint_Close_p5_G (constraint_Close_p5_l p4 i)) := by
  rw [show constraint_Close_p5_code = .loop (loopBody constraint_Close_p5_code) by kernel_rfl]
  exact piece_loop (X := (constraint_Close_X c_constraint_Valid c_constraint_direct)) (p := 1) (Λ := pick1 [(458, pieceCut constraint_Close_p4_v constraint_Close_p4_o (constraint_Close_p4_G p4))]) (G := fun i => @fun β d ks => constraint_Close_p5_G (constraint_Close_p5_l p4 i) d ks) mixed tab_ok hΓ rfl (by kernel_rfl) (CutsOk_cons (q := 458) (c' := constraint_Close_p4_code) (by kernel_rfl) rfl hp4 CutsOk_nil) (fun _ _ => rfl) (fun i => @fun β d ks r h => Eq.trans (b := constraint_Close_p5_G (constraint_Close_p5_l p4 (i + 1)) d ks) (by kernel_rfl) h) i
def constraint_Close_p6_s {β : Type} (rec : Int → Int → (List (List Int)) → Option β) (k1 : constraint_Close_p6_K1 β) (k2 : constraint_Close_p6_K2 β) (t108 : Int) (t109 : Int) (m : List (List Int)) : Option β :=
  cond (decide (t109 < t108))
  (cond (decide (0 ≤ t109) && decide (t109 < (List.length m : Int)))
  (cond (decide (0 ≤ t109) && decide (t109 < (List.length (List.getD m (Int.toNat t109) []) : Int)))
  (cond (decide ((List.getD (List.getD m (Int.toNat t109) []) (Int.toNat t109) (0 : Int)) < (0 : Int)))
  (k1 false ([] : List (List Int)))
  (rec t108 (IntKind.i64.wrap (t109 + (1 : Int))) m))
  none)
  none)
  (k2 m)
def constraint_Close_p6_l {β : Type} : Nat → constraint_Close_p6_K1 β → constraint_Close_p6_K2 β → Int → Int → (List (List Int)) → Option β
  | 0 => fun _ _ _ _ _ => none
  | i + 1 => fun k1 k2 t108 t109 m => constraint_Close_p6_s (constraint_Close_p6_l i k1 k2) k1 k2 t108 t109 m
theorem constraint_Close_p6_ok' (hΓ : ΓOk Try.prog (constraint_Close_X c_constraint_Valid c_constraint_direct).Γ) (i : Nat) : PieceOk Try.prog 122 0 constraint_Close_p6_code constraint_Close_p6_v constraint_Close_p6_o (constraint_Close_p6_G (constraint_Close_p6_l i)) := by
  rw [show constraint_Close_p6_code = .loop (loopBody constraint_Close_p6_code) by kernel_rfl]
  exact piece_loop (X := (constraint_Close_X c_constraint_Valid c_constraint_direct)) (p := 1) (Λ := pick1 []) (G := fun i => @fun β d ks => constraint_Close_p6_G (constraint_Close_p6_l i) d ks) mixed tab_ok hΓ rfl (by kernel_rfl) CutsOk_nil (fun _ _ => rfl) (fun i => @fun β d ks r h => Eq.trans (b := constraint_Close_p6_G (constraint_Close_p6_l (i + 1)) d ks) (by kernel_rfl) h) i
def constraint_Close_s (p1 : constraint_Close_p1_T) (p5 : constraint_Close_p5_T) (p6 : constraint_Close_p6_T) {β : Type} (n : Int) (l : List (Int × (Int × Int))) (k : ((List (List Int)) → Bool → Option β)) : Option β :=
  c_constraint_Valid n l (fun (rValid : Bool) =>
  cond (!rValid)
  (k ([] : List (List Int)) false)
  (c_constraint_direct n l (fun (lrdirect : List (List Int)) =>
  p1 (fun (n2 : Int) (m : List (List Int)) =>
  p5 (fun (t5 : Bool) (t4 : List (List Int)) =>
  k t4 t5) (fun (n3 : Int) (m2 : List (List Int)) =>
  p6 (fun (t5 : Bool) (t4 : List (List Int)) =>
  k t4 t5) (fun (m3 : List (List Int)) =>
  k m3 true) n3 (0 : Int) m2) n2 n2 (0 : Int) m) n n (0 : Int) lrdirect)))
theorem constraint_Close_ok' (hΓ : ΓOk Try.prog (constraint_Close_X c_constraint_Valid c_constraint_direct).Γ) (p1 : constraint_Close_p1_T) (p5 : constraint_Close_p5_T) (p6 : constraint_Close_p6_T) (hp1 : PieceOk Try.prog 122 0 constraint_Close_p1_code constraint_Close_p1_v constraint_Close_p1_o (constraint_Close_p1_G p1)) (hp5 : PieceOk Try.prog 122 0 constraint_Close_p5_code constraint_Close_p5_v constraint_Close_p5_o (constraint_Close_p5_G p5)) (hp6 : PieceOk Try.prog 122 0 constraint_Close_p6_code constraint_Close_p6_v constraint_Close_p6_o (constraint_Close_p6_G p6)) : SpecOk Try.prog 72 (constraint_Close_S (constraint_Close_s c_constraint_Valid c_constraint_direct p1 p5 p6)) :=
  spec_exec (X := (constraint_Close_X c_constraint_Valid c_constraint_direct)) (Λ := pick1 [(122, pieceCut constraint_Close_p1_v constraint_Close_p1_o (constraint_Close_p1_G p1)), (250, pieceCut constraint_Close_p5_v constraint_Close_p5_o (constraint_Close_p5_G p5)), (506, pieceCut constraint_Close_p6_v constraint_Close_p6_o (constraint_Close_p6_G p6))]) (rs := [.tmp 4, .tmp 5]) (c := bodyOf Try.f72) mixed tab_ok hΓ Try.func72 (by kernel_rfl) (by kernel_rfl) (by kernel_rfl) (by kernel_rfl) (CutsOk_cons (q := 122) (c' := constraint_Close_p1_code) (by kernel_rfl) rfl hp1 (CutsOk_cons (q := 250) (c' := constraint_Close_p5_code) (by kernel_rfl) rfl hp5 (CutsOk_cons (q := 506) (c' := constraint_Close_p6_code) (by kernel_rfl) rfl hp6 CutsOk_nil))) (fun x k r h => Eq.trans (b := (constraint_Close_S (constraint_Close_s c_constraint_Valid c_constraint_direct p1 p5 p6)).run x k) (by kernel_rfl) h)
end
theorem constraint_Close_Γ : ΓOk Try.prog (pick1 [(75, .spec (constraint_Valid_S constraint_Valid)), (81, .spec (constraint_direct_S constraint_direct))]) := (ΓOk_cons constraint_Valid_ok (ΓOk_cons constraint_direct_ok ΓOk_nil))
def constraint_Close_p1_n (m : Nat) : constraint_Close_p1_T := constraint_Close_p1_l m
theorem constraint_Close_p1_step {β : Type} (i : Nat) (k1 n t19 t20 m) : (constraint_Close_p1_n (i + 1) k1 n t19 t20 m : Option β) = constraint_Close_p1_s (constraint_Close_p1_n i k1) k1 n t19 t20 m := rfl
def constraint_Close_p1 : constraint_Close_p1_T := constraint_Close_p1_n fuel
theorem constraint_Close_p1_ok : PieceOk Try.prog 122 0 constraint_Close_p1_code constraint_Close_p1_v constraint_Close_p1_o (constraint_Close_p1_G constraint_Close_p1) := constraint_Close_p1_ok' constraint_Valid constraint_direct constraint_Close_Γ fuel
def constraint_Close_p2 : constraint_Close_p2_T := constraint_Close_p2_u
theorem constraint_Close_p2_ok : PieceOk Try.prog 122 0 constraint_Close_p2_code constraint_Close_p2_v constraint_Close_p2_o (constraint_Close_p2_G constraint_Close_p2) := constraint_Close_p2_ok' constraint_Valid constraint_direct constraint_Close_Γ
def constraint_Close_p3_n (m : Nat) : constraint_Close_p3_T := constraint_Close_p3_l constraint_Close_p2 m
theorem constraint_Close_p3_step {β : Type} (i : Nat) (k1 n k_ i_ t38 t39 t42 t43 t46 t47 m) : (constraint_Close_p3_n (i + 1) k1 n k_ i_ t38 t39 t42 t43 t46 t47 m : Option β) = constraint_Close_p3_s constraint_Close_p2 (constraint_Close_p3_n i k1) k1 n k_ i_ t38 t39 t42 t43 t46 t47 m := rfl
def constraint_Close_p3 : constraint_Close_p3_T := constraint_Close_p3_n fuel
theorem constraint_Close_p3_ok : PieceOk Try.prog 122 0 constraint_Close_p3_code constraint_Close_p3_v constraint_Close_p3_o (constraint_Close_p3_G constraint_Close_p3) := constraint_Close_p3_ok' constraint_Valid constraint_direct constraint_Close_Γ constraint_Close_p2 constraint_Close_p2_ok fuel
def constraint_Close_p4_n (m : Nat) : constraint_Close_p4_T := constraint_Close_p4_l constraint_Close_p3 m
theorem constraint_Close_p4_step {β : Type} (i : Nat) (k1 n k_ t38 t39 t42 t43 m) : (constraint_Close_p4_n (i + 1) k1 n k_ t38 t39 t42 t43 m : Option β) = constraint_Close_p4_s constraint_Close_p3 (constraint_Close_p4_n i k1) k1 n k_ t38 t39 t42 t43 m := rfl
def constraint_Close_p4 : constraint_Close_p4_T := constraint_Close_p4_n fuel
theorem constraint_Close_p4_ok : PieceOk Try.prog 122 0 constraint_Close_p4_code constraint_Close_p4_v constraint_Close_p4_o (constraint_Close_p4_G constraint_Close_p4) := constraint_Close_p4_ok' constraint_Valid constraint_direct constraint_Close_Γ constraint_Close_p3 constraint_Close_p3_ok fuel
def constraint_Close_p5_n (m : Nat) : constraint_Close_p5_T := constraint_Close_p5_l constraint_Close_p4 m
theorem constraint_Close_p5_step {β : Type} (i : Nat) (k1 k2 n t38 t39 m) : (constraint_Close_p5_n (i + 1) k1 k2 n t38 t39 m : Option β) = constraint_Close_p5_s constraint_Close_p4 (constraint_Close_p5_n i k1 k2) k1 k2 n t38 t39 m := rfl
def constraint_Close_p5 : constraint_Close_p5_T := constraint_Close_p5_n fuel
theorem constraint_Close_p5_ok : PieceOk Try.prog 122 0 constraint_Close_p5_code constraint_Close_p5_v constraint_Close_p5_o (constraint_Close_p5_G constraint_Close_p5) := constraint_Close_p5_ok' constraint_Valid constraint_direct constraint_Close_Γ constraint_Close_p4 constraint_Close_p4_ok fuel
def constraint_Close_p6_n (m : Nat) : constraint_Close_p6_T := constraint_Close_p6_l m
theorem constraint_Close_p6_step {β : Type} (i : Nat) (k1 k2 t108 t109 m) : (constraint_Close_p6_n (i + 1) k1 k2 t108 t109 m : Option β) = constraint_Close_p6_s (constraint_Close_p6_n i k1 k2) k1 k2 t108 t109 m := rfl
def constraint_Close_p6 : constraint_Close_p6_T := constraint_Close_p6_n fuel
theorem constraint_Close_p6_ok : PieceOk Try.prog 122 0 constraint_Close_p6_code constraint_Close_p6_v constraint_Close_p6_o (constraint_Close_p6_G constraint_Close_p6) := constraint_Close_p6_ok' constraint_Valid constraint_direct constraint_Close_Γ fuel
def constraint_Close : T_constraint_Close := constraint_Close_s constraint_Valid constraint_direct constraint_Close_p1 constraint_Close_p5 constraint_Close_p6
theorem constraint_Close_ok : SpecOk Try.prog 72 (constraint_Close_S constraint_Close) := constraint_Close_ok' constraint_Valid constraint_direct constraint_Close_Γ constraint_Close_p1 constraint_Close_p5 constraint_Close_p6 constraint_Close_p1_ok constraint_Close_p5_ok constraint_Close_p6_ok

/-- pagewatch/order.closed -/
abbrev T_order_closed := {β : Type} → api_Record → ((List (List Int)) → Bool → Option β) → Option β
def order_closed_S (c : T_order_closed) : Spec :=
  ⟨[(true, [.data y_api_Record])], [], [(false, [.data (.slice (.slice (.int .i64)))]), (false, [.data .bool])], [], fun x k => c x.1.1.1 (fun r0 r1 => k (((r0, ()), (r1, ()), ()), ()))⟩
section
variable (c_constraint_Close : T_constraint_Close) (c_order_Constraints : T_order_Constraints)
@[reducible] def order_closed_X : Ctx := ⟨look tab, pick1 [(72, .spec (constraint_Close_S c_constraint_Close)), (64, .spec (order_Constraints_S c_order_Constraints))], false⟩
def order_closed_s {β : Type} (r_ : api_Record) (k : ((List (List Int)) → Bool → Option β)) : Option β :=
  c_order_Constraints r_ (fun (rConstraints : Bool) (lrConstraints : List (Int × (Int × Int))) =>
  cond (!rConstraints)
  (k ([] : List (List Int)) false)
  (c_constraint_Close (IntKind.i64.wrap ((List.length r_.2.2.1 : Int) + (1 : Int))) lrConstraints (fun (rClose : List (List Int)) (rClose2 : Bool) =>
  k rClose rClose2)))
theorem order_closed_ok' (hΓ : ΓOk Try.prog (order_closed_X c_constraint_Close c_order_Constraints).Γ) : SpecOk Try.prog 61 (order_closed_S (order_closed_s c_constraint_Close c_order_Constraints)) :=
  spec_exec (X := (order_closed_X c_constraint_Close c_order_Constraints)) (Λ := pick1 []) (rs := [.tmp 2, .tmp 3]) (c := bodyOf Try.f61) mixed tab_ok hΓ Try.func61 (by kernel_rfl) (by kernel_rfl) (by kernel_rfl) (by kernel_rfl) CutsOk_nil (fun x k r h => Eq.trans (b := (order_closed_S (order_closed_s c_constraint_Close c_order_Constraints)).run x k) (by kernel_rfl) h)
end
theorem order_closed_Γ : ΓOk Try.prog (pick1 [(72, .spec (constraint_Close_S constraint_Close)), (64, .spec (order_Constraints_S order_Constraints))]) := (ΓOk_cons constraint_Close_ok (ΓOk_cons order_Constraints_ok ΓOk_nil))
def order_closed : T_order_closed := order_closed_s constraint_Close order_Constraints
theorem order_closed_ok : SpecOk Try.prog 61 (order_closed_S order_closed) := order_closed_ok' constraint_Close order_Constraints order_closed_Γ

/-- pagewatch/order.Open -/
abbrev T_order_Open := {β : Type} → api_Record → ((List (Int × Int)) → Option β) → Option β
def order_Open_S (c : T_order_Open) : Spec :=
  ⟨[(true, [.data y_api_Record])], [], [(false, [.rowh 0])], [.row 56 (.prod (.int .i64) (.int .i64))], fun x k => c x.1.1.1 (fun r0 => k (((), ()), (r0, ())))⟩
noncomputable def order_Open_p2_code : Code := codeAt 122 (bodyOf Try.f41)
noncomputable def order_Open_p1_code : Code := codeAt 230 (loopBody order_Open_p2_code)
abbrev order_Open_p1_K1 (β : Type) := (List (List Int)) → Bool → Int → Int → (List (List UInt8 × Int)) → (List (Int × (Int × (Int × Int)))) → (List api_Event) → (List (Int × (Int × Int))) → (List (Int × Int)) → Option β
abbrev order_Open_p1_T := {β : Type} → order_Open_p1_K1 β → (List (List Int)) → Bool → Int → Int → Int → Int → (List (List UInt8 × Int)) → (List (Int × (Int × (Int × Int)))) → (List api_Event) → (List (Int × (Int × Int))) → (List (Int × Int)) → Option β
def order_Open_p1_v : View := ⟨0, [1, 3, 4, 5, 6, 7, 15, 16], [(false, [.ptr 0 0]), (false, [.data (.slice (.slice (.int .i64)))]), (false, [.data .bool]), (false, [.rowh 1]), (false, [.data (.int .i64)]), (false, [.data (.int .i64)]), (false, [.data (.int .i64)]), (false, [.data (.int .i64)])], [.cells 41 [.data (.slice (.prod .str (.int .i64))), .data (.slice (.prod (.int .i64) (.prod (.int .i64) (.prod (.int .i64) (.int .i64))))), .data (.slice y_api_Event), .data (.slice (.prod (.int .i64) (.prod (.int .i64) (.int .i64))))], .row 56 (.prod (.int .i64) (.int .i64))]⟩
def order_Open_p1_o : List (AExit × View) := [(.exit 2, ⟨0, [1, 3, 4, 5, 15, 16], [(false, [.ptr 0 0]), (false, [.data (.slice (.slice (.int .i64)))]), (false, [.data .bool]), (false, [.rowh 1]), (false, [.data (.int .i64)]), (false, [.data (.int .i64)])], [.cells 41 [.data (.slice (.prod .str (.int .i64))), .data (.slice (.prod (.int .i64) (.prod (.int .i64) (.prod (.int .i64) (.int .i64))))), .data (.slice y_api_Event), .data (.slice (.prod (.int .i64) (.prod (.int .i64) (.int .i64))))], .row 56 (.prod (.int .i64) (.int .i64))]⟩)]
@[reducible] def order_Open_p1_G (p : order_Open_p1_T) {β : Type} (d : order_Open_p1_v.den) (ks : Outs.K β order_Open_p1_o) : Option β :=
  p (fun a0 a1 a2 a3 a4 a5 a6 a7 a8 => ks.1 (((), (a0, ()), (a1, ()), (), (a2, ()), (a3, ()), ()), ((a4, a5, a6, a7, ()), a8, ()))) d.1.2.1.1 d.1.2.2.1.1 d.1.2.2.2.2.1.1 d.1.2.2.2.2.2.1.1 d.1.2.2.2.2.2.2.1.1 d.1.2.2.2.2.2.2.2.1.1 d.2.1.1 d.2.1.2.1 d.2.1.2.2.1 d.2.1.2.2.2.1 d.2.2.1
abbrev order_Open_p2_K1 (β : Type) := (List (Int × Int)) → Option β
abbrev order_Open_p2_T := {β : Type} → order_Open_p2_K1 β → (List (List Int)) → Bool → Int → Int → (List (List UInt8 × Int)) → (List (Int × (Int × (Int × Int)))) → (List api_Event) → (List (Int × (Int × Int))) → (List (Int × Int)) → Option β
def order_Open_p2_v : View := ⟨0, [1, 3, 4, 5, 15, 16], [(false, [.ptr 0 0]), (false, [.data (.slice (.slice (.int .i64)))]), (false, [.data .bool]), (false, [.rowh 1]), (false, [.data (.int .i64)]), (false, [.data (.int .i64)])], [.cells 41 [.data (.slice (.prod .str (.int .i64))), .data (.slice (.prod (.int .i64) (.prod (.int .i64) (.prod (.int .i64) (.int .i64))))), .data (.slice y_api_Event), .data (.slice (.prod (.int .i64) (.prod (.int .i64) (.int .i64))))], .row 56 (.prod (.int .i64) (.int .i64))]⟩
def order_Open_p2_o : List (AExit × View) := [(.exit 0, ⟨0, [5], [(false, [.rowh 0])], [.row 56 (.prod (.int .i64) (.int .i64))]⟩)]
@[reducible] def order_Open_p2_G (p : order_Open_p2_T) {β : Type} (d : order_Open_p2_v.den) (ks : Outs.K β order_Open_p2_o) : Option β :=
  p (fun a0 => ks.1 (((), ()), (a0, ()))) d.1.2.1.1 d.1.2.2.1.1 d.1.2.2.2.2.1.1 d.1.2.2.2.2.2.1.1 d.2.1.1 d.2.1.2.1 d.2.1.2.2.1 d.2.1.2.2.2.1 d.2.2.1
section
variable (c_order_closed : T_order_closed) (c_order_matrix_open : T_order_matrix_open)
@[reducible] def order_Open_X : Ctx := ⟨look tab, pick1 [(61, .spec (order_closed_S c_order_closed)), (62, .spec (order_matrix_open_S c_order_matrix_open))], false⟩
def order_Open_p1_s {β : Type} (rec : (List (List Int)) → Bool → Int → Int → Int → Int → (List (List UInt8 × Int)) → (List (Int × (Int × (Int × Int)))) → (List api_Event) → (List (Int × (Int × Int))) → (List (Int × Int)) → Option β) (k1 : order_Open_p1_K1 β) (m : List (List Int)) (ok : Bool) (a : Int) (b : Int) (t15 : Int) (t16 : Int) (r_ : List (List UInt8 × Int)) (r_2 : List (Int × (Int × (Int × Int)))) (r_3 : List api_Event) (r_4 : List (Int × (Int × Int))) (out : List (Int × Int)) : Option β :=
  cond (decide (b < (List.length r_3 : Int)))
  (cond ok
  (c_order_matrix_open m a b (fun (ropen : Bool) =>
  cond ropen
  (let l : List (Int × Int) := ([(a, b)] : List (Int × Int));
  cond (decide ((List.length out + List.length l) * 16 ≤ roomMax))
  (let l2 : List (Int × Int) := (out ++ l);
  let b2 : Int := (IntKind.i64.wrap (b + (1 : Int)));
  rec m ok a b2 t15 t16 r_ r_2 r_3 r_4 l2)
  none)
  (let b2 : Int := (IntKind.i64.wrap (b + (1 : Int)));
  rec m ok a b2 t15 t16 r_ r_2 r_3 r_4 out)))
  (k1 m ok t15 t16 r_ r_2 r_3 r_4 out))
  (k1 m ok t15 t16 r_ r_2 r_3 r_4 out)
def order_Open_p1_l {β : Type} : Nat → order_Open_p1_K1 β → (List (List Int)) → Bool → Int → Int → Int → Int → (List (List UInt8 × Int)) → (List (Int × (Int × (Int × Int)))) → (List api_Event) → (List (Int × (Int × Int))) → (List (Int × Int)) → Option β
  | 0 => fun _ _ _ _ _ _ _ _ _ _ _ _ => none
  | i + 1 => fun k1 m ok a b t15 t16 r_ r_2 r_3 r_4 out => order_Open_p1_s c_order_matrix_open (order_Open_p1_l i k1) k1 m ok a b t15 t16 r_ r_2 r_3 r_4 out
theorem order_Open_p1_ok' (hΓ : ΓOk Try.prog (order_Open_X c_order_closed c_order_matrix_open).Γ) (i : Nat) : PieceOk Try.prog 43 0 order_Open_p1_code order_Open_p1_v order_Open_p1_o (order_Open_p1_G (order_Open_p1_l c_order_matrix_open i)) := by
  rw [show order_Open_p1_code = .loop (loopBody order_Open_p1_code) by kernel_rfl]
  exact piece_loop (X := (order_Open_X c_order_closed c_order_matrix_open)) (p := 1) (Λ := pick1 []) (G := fun i => @fun β d ks => order_Open_p1_G (order_Open_p1_l c_order_matrix_open i) d ks) mixed tab_ok hΓ rfl (by kernel_rfl) CutsOk_nil (fun _ _ => rfl) (fun i => @fun β d ks r h => Eq.trans (b := order_Open_p1_G (order_Open_p1_l c_order_matrix_open (i + 1)) d ks) (by kernel_rfl) h) i
def order_Open_p2_s (p1 : order_Open_p1_T) {β : Type} (rec : (List (List Int)) → Bool → Int → Int → (List (List UInt8 × Int)) → (List (Int × (Int × (Int × Int)))) → (List api_Event) → (List (Int × (Int × Int))) → (List (Int × Int)) → Option β) (k1 : order_Open_p2_K1 β) (m : List (List Int)) (ok : Bool) (t15 : Int) (t16 : Int) (r_ : List (List UInt8 × Int)) (r_2 : List (Int × (Int × (Int × Int)))) (r_3 : List api_Event) (r_4 : List (Int × (Int × Int))) (out : List (Int × Int)) : Option β :=
  cond (decide (t16 < t15))
  (let b : Int := (IntKind.i64.wrap (t16 + (1 : Int)));
  p1 (fun (m2 : List (List Int)) (ok2 : Bool) (t152 : Int) (t162 : Int) (r_5 : List (List UInt8 × Int)) (r_6 : List (Int × (Int × (Int × Int)))) (r_7 : List api_Event) (r_8 : List (Int × (Int × Int))) (out2 : List (Int × Int)) =>
  rec m2 ok2 t152 (IntKind.i64.wrap (t162 + (1 : Int))) r_5 r_6 r_7 r_8 out2) m ok t16 b t15 t16 r_ r_2 r_3 r_4 out)
  (k1 out)
def order_Open_p2_l (p1 : order_Open_p1_T) {β : Type} : Nat → order_Open_p2_K1 β → (List (List Int)) → Bool → Int → Int → (List (List UInt8 × Int)) → (List (Int × (Int × (Int × Int)))) → (List api_Event) → (List (Int × (Int × Int))) → (List (Int × Int)) → Option β
  | 0 => fun _ _ _ _ _ _ _ _ _ _ => none
  | i + 1 => fun k1 m ok t15 t16 r_ r_2 r_3 r_4 out => order_Open_p2_s p1 (order_Open_p2_l p1 i k1) k1 m ok t15 t16 r_ r_2 r_3 r_4 out
theorem order_Open_p2_ok' (hΓ : ΓOk Try.prog (order_Open_X c_order_closed c_order_matrix_open).Γ) (p1 : order_Open_p1_T) (hp1 : PieceOk Try.prog 43 0 order_Open_p1_code order_Open_p1_v order_Open_p1_o (order_Open_p1_G p1)) (i : Nat) : PieceOk Try.prog 43 0 order_Open_p2_code order_Open_p2_v order_Open_p2_o (order_Open_p2_G (order_Open_p2_l p1 i)) := by
  rw [show order_Open_p2_code = .loop (loopBody order_Open_p2_code) by kernel_rfl]
  exact piece_loop (X := (order_Open_X c_order_closed c_order_matrix_open)) (p := 1) (Λ := pick1 [(230, pieceCut order_Open_p1_v order_Open_p1_o (order_Open_p1_G p1))]) (G := fun i => @fun β d ks => order_Open_p2_G (order_Open_p2_l p1 i) d ks) mixed tab_ok hΓ rfl (by kernel_rfl) (CutsOk_cons (q := 230) (c' := order_Open_p1_code) (by kernel_rfl) rfl hp1 CutsOk_nil) (fun _ _ => rfl) (fun i => @fun β d ks r h => Eq.trans (b := order_Open_p2_G (order_Open_p2_l p1 (i + 1)) d ks) (by kernel_rfl) h) i
def order_Open_s (p2 : order_Open_p2_T) {β : Type} (r_ : api_Record) (k : ((List (Int × Int)) → Option β)) : Option β :=
  c_order_closed r_ (fun (rclosed : List (List Int)) (rclosed2 : Bool) =>
  p2 (fun (out : List (Int × Int)) =>
  k out) rclosed rclosed2 (List.length r_.2.2.1 : Int) (0 : Int) r_.1 r_.2.1 r_.2.2.1 r_.2.2.2 ([] : List (Int × Int)))
theorem order_Open_ok' (hΓ : ΓOk Try.prog (order_Open_X c_order_closed c_order_matrix_open).Γ) (p2 : order_Open_p2_T) (hp2 : PieceOk Try.prog 43 0 order_Open_p2_code order_Open_p2_v order_Open_p2_o (order_Open_p2_G p2)) : SpecOk Try.prog 41 (order_Open_S (order_Open_s c_order_closed p2)) :=
  spec_exec (X := (order_Open_X c_order_closed c_order_matrix_open)) (Λ := pick1 [(122, pieceCut order_Open_p2_v order_Open_p2_o (order_Open_p2_G p2))]) (rs := [.tmp 2]) (c := bodyOf Try.f41) mixed tab_ok hΓ Try.func41 (by kernel_rfl) (by kernel_rfl) (by kernel_rfl) (by kernel_rfl) (CutsOk_cons (q := 122) (c' := order_Open_p2_code) (by kernel_rfl) rfl hp2 CutsOk_nil) (fun x k r h => Eq.trans (b := (order_Open_S (order_Open_s c_order_closed p2)).run x k) (by kernel_rfl) h)
end
theorem order_Open_Γ : ΓOk Try.prog (pick1 [(61, .spec (order_closed_S order_closed)), (62, .spec (order_matrix_open_S order_matrix_open))]) := (ΓOk_cons order_closed_ok (ΓOk_cons order_matrix_open_ok ΓOk_nil))
def order_Open_p1_n (m : Nat) : order_Open_p1_T := order_Open_p1_l order_matrix_open m
theorem order_Open_p1_step {β : Type} (i : Nat) (k1 m ok a b t15 t16 r_ r_2 r_3 r_4 out) : (order_Open_p1_n (i + 1) k1 m ok a b t15 t16 r_ r_2 r_3 r_4 out : Option β) = order_Open_p1_s order_matrix_open (order_Open_p1_n i k1) k1 m ok a b t15 t16 r_ r_2 r_3 r_4 out := rfl
def order_Open_p1 : order_Open_p1_T := order_Open_p1_n fuel
theorem order_Open_p1_ok : PieceOk Try.prog 43 0 order_Open_p1_code order_Open_p1_v order_Open_p1_o (order_Open_p1_G order_Open_p1) := order_Open_p1_ok' order_closed order_matrix_open order_Open_Γ fuel
def order_Open_p2_n (m : Nat) : order_Open_p2_T := order_Open_p2_l order_Open_p1 m
theorem order_Open_p2_step {β : Type} (i : Nat) (k1 m ok t15 t16 r_ r_2 r_3 r_4 out) : (order_Open_p2_n (i + 1) k1 m ok t15 t16 r_ r_2 r_3 r_4 out : Option β) = order_Open_p2_s order_Open_p1 (order_Open_p2_n i k1) k1 m ok t15 t16 r_ r_2 r_3 r_4 out := rfl
def order_Open_p2 : order_Open_p2_T := order_Open_p2_n fuel
theorem order_Open_p2_ok : PieceOk Try.prog 43 0 order_Open_p2_code order_Open_p2_v order_Open_p2_o (order_Open_p2_G order_Open_p2) := order_Open_p2_ok' order_closed order_matrix_open order_Open_Γ order_Open_p1 order_Open_p1_ok fuel
def order_Open : T_order_Open := order_Open_s order_closed order_Open_p2
theorem order_Open_ok : SpecOk Try.prog 41 (order_Open_S order_Open) := order_Open_ok' order_closed order_matrix_open order_Open_Γ order_Open_p2 order_Open_p2_ok

/-- pagewatch/order.Consistent -/
abbrev T_order_Consistent := {β : Type} → api_Record → (Bool → Option β) → Option β
def order_Consistent_S (c : T_order_Consistent) : Spec :=
  ⟨[(true, [.data y_api_Record])], [], [(false, [.data .bool])], [], fun x k => c x.1.1.1 (fun r0 => k (((r0, ()), ()), ()))⟩
section
variable (c_order_closed : T_order_closed)
@[reducible] def order_Consistent_X : Ctx := ⟨look tab, pick1 [(61, .spec (order_closed_S c_order_closed))], false⟩
def order_Consistent_s {β : Type} (r_ : api_Record) (k : (Bool → Option β)) : Option β :=
  c_order_closed r_ (fun (rclosed : List (List Int)) (rclosed2 : Bool) =>
  k rclosed2)
theorem order_Consistent_ok' (hΓ : ΓOk Try.prog (order_Consistent_X c_order_closed).Γ) : SpecOk Try.prog 42 (order_Consistent_S (order_Consistent_s c_order_closed)) :=
  spec_exec (X := (order_Consistent_X c_order_closed)) (Λ := pick1 []) (rs := [.tmp 2]) (c := bodyOf Try.f42) mixed tab_ok hΓ Try.func42 (by kernel_rfl) (by kernel_rfl) (by kernel_rfl) (by kernel_rfl) CutsOk_nil (fun x k r h => Eq.trans (b := (order_Consistent_S (order_Consistent_s c_order_closed)).run x k) (by kernel_rfl) h)
end
theorem order_Consistent_Γ : ΓOk Try.prog (pick1 [(61, .spec (order_closed_S order_closed))]) := (ΓOk_cons order_closed_ok ΓOk_nil)
def order_Consistent : T_order_Consistent := order_Consistent_s order_closed
theorem order_Consistent_ok : SpecOk Try.prog 42 (order_Consistent_S order_Consistent) := order_Consistent_ok' order_closed order_Consistent_Γ

/-- pagewatch/order.When -/
abbrev T_order_When := {β : Type} → api_Record → (Bool → (List (Int × Int)) → Option β) → Option β
def order_When_S (c : T_order_When) : Spec :=
  ⟨[(true, [.data y_api_Record])], [], [(false, [.rowh 0]), (false, [.data .bool])], [.row 45 (.prod (.int .i64) (.int .i64))], fun x k => c x.1.1.1 (fun r0 r1 => k (((), (r0, ()), ()), (r1, ())))⟩
noncomputable def order_When_p1_code : Code := codeAt 250 (bodyOf Try.f43)
abbrev order_When_p1_K1 (β : Type) := (List (Int × Int)) → Option β
abbrev order_When_p1_T := {β : Type} → order_When_p1_K1 β → (List (List Int)) → Int → Int → (List (Int × Int)) → Option β
def order_When_p1_v : View := ⟨0, [4, 6, 17, 18], [(false, [.data (.slice (.slice (.int .i64)))]), (false, [.rowh 0]), (false, [.data (.int .i64)]), (false, [.data (.int .i64)])], [.row 45 (.prod (.int .i64) (.int .i64))]⟩
def order_When_p1_o : List (AExit × View) := [(.exit 0, ⟨0, [6], [(false, [.rowh 0])], [.row 45 (.prod (.int .i64) (.int .i64))]⟩)]
@[reducible] def order_When_p1_G (p : order_When_p1_T) {β : Type} (d : order_When_p1_v.den) (ks : Outs.K β order_When_p1_o) : Option β :=
  p (fun a0 => ks.1 (((), ()), (a0, ()))) d.1.1.1 d.1.2.2.1.1 d.1.2.2.2.1.1 d.2.1
section
variable (c_order_closed : T_order_closed) (c_order_matrix_when : T_order_matrix_when)
@[reducible] def order_When_X : Ctx := ⟨look tab, pick1 [(61, .spec (order_closed_S c_order_closed)), (63, .spec (order_matrix_when_S c_order_matrix_when))], false⟩
def order_When_p1_s {β : Type} (rec : (List (List Int)) → Int → Int → (List (Int × Int)) → Option β) (k1 : order_When_p1_K1 β) (m : List (List Int)) (t17 : Int) (t18 : Int) (out : List (Int × Int)) : Option β :=
  cond (decide (t18 < t17))
  (c_order_matrix_when m t18 (fun (rwhen : (Int × Int)) =>
  let l : List (Int × Int) := ([rwhen] : List (Int × Int));
  cond (decide ((List.length out + List.length l) * 16 ≤ roomMax))
  (let l2 : List (Int × Int) := (out ++ l);
  rec m t17 (IntKind.i64.wrap (t18 + (1 : Int))) l2)
  none))
  (k1 out)
def order_When_p1_l {β : Type} : Nat → order_When_p1_K1 β → (List (List Int)) → Int → Int → (List (Int × Int)) → Option β
  | 0 => fun _ _ _ _ _ => none
  | i + 1 => fun k1 m t17 t18 out => order_When_p1_s c_order_matrix_when (order_When_p1_l i k1) k1 m t17 t18 out
theorem order_When_p1_ok' (hΓ : ΓOk Try.prog (order_When_X c_order_closed c_order_matrix_when).Γ) (i : Nat) : PieceOk Try.prog 29 0 order_When_p1_code order_When_p1_v order_When_p1_o (order_When_p1_G (order_When_p1_l c_order_matrix_when i)) := by
  rw [show order_When_p1_code = .loop (loopBody order_When_p1_code) by kernel_rfl]
  exact piece_loop (X := (order_When_X c_order_closed c_order_matrix_when)) (p := 1) (Λ := pick1 []) (G := fun i => @fun β d ks => order_When_p1_G (order_When_p1_l c_order_matrix_when i) d ks) mixed tab_ok hΓ rfl (by kernel_rfl) CutsOk_nil (fun _ _ => rfl) (fun i => @fun β d ks r h => Eq.trans (b := order_When_p1_G (order_When_p1_l c_order_matrix_when (i + 1)) d ks) (by kernel_rfl) h) i
def order_When_s (p1 : order_When_p1_T) {β : Type} (r_ : api_Record) (k : (Bool → (List (Int × Int)) → Option β)) : Option β :=
  c_order_closed r_ (fun (rclosed : List (List Int)) (rclosed2 : Bool) =>
  cond (!rclosed2)
  (k false ([] : List (Int × Int)))
  (p1 (fun (out : List (Int × Int)) =>
  k true out) rclosed (List.length r_.2.2.1 : Int) (0 : Int) ([] : List (Int × Int))))
theorem order_When_ok' (hΓ : ΓOk Try.prog (order_When_X c_order_closed c_order_matrix_when).Γ) (p1 : order_When_p1_T) (hp1 : PieceOk Try.prog 29 0 order_When_p1_code order_When_p1_v order_When_p1_o (order_When_p1_G p1)) : SpecOk Try.prog 43 (order_When_S (order_When_s c_order_closed p1)) :=
  spec_exec (X := (order_When_X c_order_closed c_order_matrix_when)) (Λ := pick1 [(250, pieceCut order_When_p1_v order_When_p1_o (order_When_p1_G p1))]) (rs := [.tmp 2, .tmp 3]) (c := bodyOf Try.f43) mixed tab_ok hΓ Try.func43 (by kernel_rfl) (by kernel_rfl) (by kernel_rfl) (by kernel_rfl) (CutsOk_cons (q := 250) (c' := order_When_p1_code) (by kernel_rfl) rfl hp1 CutsOk_nil) (fun x k r h => Eq.trans (b := (order_When_S (order_When_s c_order_closed p1)).run x k) (by kernel_rfl) h)
end
theorem order_When_Γ : ΓOk Try.prog (pick1 [(61, .spec (order_closed_S order_closed)), (63, .spec (order_matrix_when_S order_matrix_when))]) := (ΓOk_cons order_closed_ok (ΓOk_cons order_matrix_when_ok ΓOk_nil))
def order_When_p1_n (m : Nat) : order_When_p1_T := order_When_p1_l order_matrix_when m
theorem order_When_p1_step {β : Type} (i : Nat) (k1 m t17 t18 out) : (order_When_p1_n (i + 1) k1 m t17 t18 out : Option β) = order_When_p1_s order_matrix_when (order_When_p1_n i k1) k1 m t17 t18 out := rfl
def order_When_p1 : order_When_p1_T := order_When_p1_n fuel
theorem order_When_p1_ok : PieceOk Try.prog 29 0 order_When_p1_code order_When_p1_v order_When_p1_o (order_When_p1_G order_When_p1) := order_When_p1_ok' order_closed order_matrix_when order_When_Γ fuel
def order_When : T_order_When := order_When_s order_closed order_When_p1
theorem order_When_ok : SpecOk Try.prog 43 (order_When_S order_When) := order_When_ok' order_closed order_matrix_when order_When_Γ order_When_p1 order_When_p1_ok

/-- pagewatch/order.both -/
abbrev T_order_both := {β : Type} → api_Record → Int → Int → ((List (List Int)) → Bool → Option β) → Option β
def order_both_S (c : T_order_both) : Spec :=
  ⟨[(true, [.data y_api_Record]), (false, [.data (.int .i64)]), (false, [.data (.int .i64)])], [], [(false, [.data (.slice (.slice (.int .i64)))]), (false, [.data .bool])], [], fun x k => c x.1.1.1 x.1.2.1.1 x.1.2.2.1.1 (fun r0 r1 => k (((r0, ()), (r1, ()), ()), ()))⟩
section
variable (c_order_closed : T_order_closed) (c_order_in : T_order_in)
@[reducible] def order_both_X : Ctx := ⟨look tab, pick1 [(61, .spec (order_closed_S c_order_closed)), (67, .spec (order_in_S c_order_in))], false⟩
def order_both_s {β : Type} (r_ : api_Record) (a : Int) (b : Int) (k : ((List (List Int)) → Bool → Option β)) : Option β :=
  c_order_closed r_ (fun (rclosed : List (List Int)) (rclosed2 : Bool) =>
  cond rclosed2
  (c_order_in a (0 : Int) (IntKind.i64.wrap ((List.length r_.2.2.1 : Int) - (1 : Int))) (fun (rin : Bool) =>
  cond rin
  (c_order_in b (0 : Int) (IntKind.i64.wrap ((List.length r_.2.2.1 : Int) - (1 : Int))) (fun (rin2 : Bool) =>
  k rclosed rin2))
  (k rclosed false)))
  (k rclosed false))
theorem order_both_ok' (hΓ : ΓOk Try.prog (order_both_X c_order_closed c_order_in).Γ) : SpecOk Try.prog 59 (order_both_S (order_both_s c_order_closed c_order_in)) :=
  spec_exec (X := (order_both_X c_order_closed c_order_in)) (Λ := pick1 []) (rs := [.tmp 6, .tmp 7]) (c := bodyOf Try.f59) mixed tab_ok hΓ Try.func59 (by kernel_rfl) (by kernel_rfl) (by kernel_rfl) (by kernel_rfl) CutsOk_nil (fun x k r h => Eq.trans (b := (order_both_S (order_both_s c_order_closed c_order_in)).run x k) (by kernel_rfl) h)
end
theorem order_both_Γ : ΓOk Try.prog (pick1 [(61, .spec (order_closed_S order_closed)), (67, .spec (order_in_S order_in))]) := (ΓOk_cons order_closed_ok (ΓOk_cons order_in_ok ΓOk_nil))
def order_both : T_order_both := order_both_s order_closed order_in
theorem order_both_ok : SpecOk Try.prog 59 (order_both_S order_both) := order_both_ok' order_closed order_in order_both_Γ

/-- slices.IndexFunc[[]int,int] -/
abbrev T_slices_IndexFunc_int_int_vconstraint_Fits_f1 := {β : Type} → (List Int) → (Int → Option β) → Option β
def slices_IndexFunc_int_int_vconstraint_Fits_f1_S (c : T_slices_IndexFunc_int_int_vconstraint_Fits_f1) : Spec :=
  ⟨[(false, [.data (.slice (.int .i64))]), (false, [.fn 76 []])], [], [(false, [.data (.int .i64)])], [], fun x k => c x.1.1.1 (fun r0 => k (((r0, ()), ()), ()))⟩
noncomputable def slices_IndexFunc_int_int_vconstraint_Fits_f1_p1_code : Code := codeAt 26 (bodyOf Try.f74)
abbrev slices_IndexFunc_int_int_vconstraint_Fits_f1_p1_K1 (β : Type) := Int → Option β
abbrev slices_IndexFunc_int_int_vconstraint_Fits_f1_p1_K2 (β : Type) := Unit → Option β
abbrev slices_IndexFunc_int_int_vconstraint_Fits_f1_p1_T := {β : Type} → slices_IndexFunc_int_int_vconstraint_Fits_f1_p1_K1 β → slices_IndexFunc_int_int_vconstraint_Fits_f1_p1_K2 β → (List Int) → Int → Int → Option β
def slices_IndexFunc_int_int_vconstraint_Fits_f1_p1_v : View := ⟨0, [0, 1, 7, 8], [(false, [.data (.slice (.int .i64))]), (false, [.fn 76 []]), (false, [.data (.int .i64)]), (false, [.data (.int .i64)])], []⟩
def slices_IndexFunc_int_int_vconstraint_Fits_f1_p1_o : List (AExit × View) := [(.ret, ⟨0, [4], [(false, [.data (.int .i64)])], []⟩), (.exit 0, ⟨0, [], [], []⟩)]
@[reducible] def slices_IndexFunc_int_int_vconstraint_Fits_f1_p1_G (p : slices_IndexFunc_int_int_vconstraint_Fits_f1_p1_T) {β : Type} (d : slices_IndexFunc_int_int_vconstraint_Fits_f1_p1_v.den) (ks : Outs.K β slices_IndexFunc_int_int_vconstraint_Fits_f1_p1_o) : Option β :=
  p (fun a0 => ks.1 (((a0, ()), ()), ())) (fun _ => ks.2.1 ((), ())) d.1.1.1 d.1.2.2.1.1 d.1.2.2.2.1.1
section
variable (c_constraint_Fits_f1 : T_constraint_Fits_f1)
@[reducible] def slices_IndexFunc_int_int_vconstraint_Fits_f1_X : Ctx := ⟨look tab, pick1 [(76, .spec (constraint_Fits_f1_S c_constraint_Fits_f1))], false⟩
def slices_IndexFunc_int_int_vconstraint_Fits_f1_p1_s {β : Type} (rec : (List Int) → Int → Int → Option β) (k1 : slices_IndexFunc_int_int_vconstraint_Fits_f1_p1_K1 β) (k2 : slices_IndexFunc_int_int_vconstraint_Fits_f1_p1_K2 β) (s : List Int) (t7 : Int) (t8 : Int) : Option β :=
  cond (decide (t8 < t7))
  (cond (decide (0 ≤ t8) && decide (t8 < (List.length s : Int)))
  (let e : Int := List.getD s (Int.toNat t8) (0 : Int);
  c_constraint_Fits_f1 e (fun (rFits1 : Bool) =>
  cond rFits1
  (k1 t8)
  (rec s t7 (IntKind.i64.wrap (t8 + (1 : Int))))))
  none)
  (k2 ())
def slices_IndexFunc_int_int_vconstraint_Fits_f1_p1_l {β : Type} : Nat → slices_IndexFunc_int_int_vconstraint_Fits_f1_p1_K1 β → slices_IndexFunc_int_int_vconstraint_Fits_f1_p1_K2 β → (List Int) → Int → Int → Option β
  | 0 => fun _ _ _ _ _ => none
  | i + 1 => fun k1 k2 s t7 t8 => slices_IndexFunc_int_int_vconstraint_Fits_f1_p1_s c_constraint_Fits_f1 (slices_IndexFunc_int_int_vconstraint_Fits_f1_p1_l i k1 k2) k1 k2 s t7 t8
theorem slices_IndexFunc_int_int_vconstraint_Fits_f1_p1_ok' (hΓ : ΓOk Try.prog (slices_IndexFunc_int_int_vconstraint_Fits_f1_X c_constraint_Fits_f1).Γ) (i : Nat) : PieceOk Try.prog 19 0 slices_IndexFunc_int_int_vconstraint_Fits_f1_p1_code slices_IndexFunc_int_int_vconstraint_Fits_f1_p1_v slices_IndexFunc_int_int_vconstraint_Fits_f1_p1_o (slices_IndexFunc_int_int_vconstraint_Fits_f1_p1_G (slices_IndexFunc_int_int_vconstraint_Fits_f1_p1_l c_constraint_Fits_f1 i)) := by
  rw [show slices_IndexFunc_int_int_vconstraint_Fits_f1_p1_code = .loop (loopBody slices_IndexFunc_int_int_vconstraint_Fits_f1_p1_code) by kernel_rfl]
  exact piece_loop (X := (slices_IndexFunc_int_int_vconstraint_Fits_f1_X c_constraint_Fits_f1)) (p := 1) (Λ := pick1 []) (G := fun i => @fun β d ks => slices_IndexFunc_int_int_vconstraint_Fits_f1_p1_G (slices_IndexFunc_int_int_vconstraint_Fits_f1_p1_l c_constraint_Fits_f1 i) d ks) mixed tab_ok hΓ rfl (by kernel_rfl) CutsOk_nil (fun _ _ => rfl) (fun i => @fun β d ks r h => Eq.trans (b := slices_IndexFunc_int_int_vconstraint_Fits_f1_p1_G (slices_IndexFunc_int_int_vconstraint_Fits_f1_p1_l c_constraint_Fits_f1 (i + 1)) d ks) (by kernel_rfl) h) i
def slices_IndexFunc_int_int_vconstraint_Fits_f1_s (p1 : slices_IndexFunc_int_int_vconstraint_Fits_f1_p1_T) {β : Type} (s : List Int) (k : (Int → Option β)) : Option β :=
  p1 (fun (t4 : Int) =>
  k t4) (fun (_ : Unit) =>
  k (-1 : Int)) s (List.length s : Int) (0 : Int)
theorem slices_IndexFunc_int_int_vconstraint_Fits_f1_ok' (hΓ : ΓOk Try.prog (slices_IndexFunc_int_int_vconstraint_Fits_f1_X c_constraint_Fits_f1).Γ) (p1 : slices_IndexFunc_int_int_vconstraint_Fits_f1_p1_T) (hp1 : PieceOk Try.prog 19 0 slices_IndexFunc_int_int_vconstraint_Fits_f1_p1_code slices_IndexFunc_int_int_vconstraint_Fits_f1_p1_v slices_IndexFunc_int_int_vconstraint_Fits_f1_p1_o (slices_IndexFunc_int_int_vconstraint_Fits_f1_p1_G p1)) : SpecOk Try.prog 74 (slices_IndexFunc_int_int_vconstraint_Fits_f1_S (slices_IndexFunc_int_int_vconstraint_Fits_f1_s p1)) :=
  spec_exec (X := (slices_IndexFunc_int_int_vconstraint_Fits_f1_X c_constraint_Fits_f1)) (Λ := pick1 [(26, pieceCut slices_IndexFunc_int_int_vconstraint_Fits_f1_p1_v slices_IndexFunc_int_int_vconstraint_Fits_f1_p1_o (slices_IndexFunc_int_int_vconstraint_Fits_f1_p1_G p1))]) (rs := [.tmp 4]) (c := bodyOf Try.f74) mixed tab_ok hΓ Try.func74 (by kernel_rfl) (by kernel_rfl) (by kernel_rfl) (by kernel_rfl) (CutsOk_cons (q := 26) (c' := slices_IndexFunc_int_int_vconstraint_Fits_f1_p1_code) (by kernel_rfl) rfl hp1 CutsOk_nil) (fun x k r h => Eq.trans (b := (slices_IndexFunc_int_int_vconstraint_Fits_f1_S (slices_IndexFunc_int_int_vconstraint_Fits_f1_s p1)).run x k) (by kernel_rfl) h)
end
theorem slices_IndexFunc_int_int_vconstraint_Fits_f1_Γ : ΓOk Try.prog (pick1 [(76, .spec (constraint_Fits_f1_S constraint_Fits_f1))]) := (ΓOk_cons constraint_Fits_f1_ok ΓOk_nil)
def slices_IndexFunc_int_int_vconstraint_Fits_f1_p1_n (m : Nat) : slices_IndexFunc_int_int_vconstraint_Fits_f1_p1_T := slices_IndexFunc_int_int_vconstraint_Fits_f1_p1_l constraint_Fits_f1 m
theorem slices_IndexFunc_int_int_vconstraint_Fits_f1_p1_step {β : Type} (i : Nat) (k1 k2 s t7 t8) : (slices_IndexFunc_int_int_vconstraint_Fits_f1_p1_n (i + 1) k1 k2 s t7 t8 : Option β) = slices_IndexFunc_int_int_vconstraint_Fits_f1_p1_s constraint_Fits_f1 (slices_IndexFunc_int_int_vconstraint_Fits_f1_p1_n i k1 k2) k1 k2 s t7 t8 := rfl
def slices_IndexFunc_int_int_vconstraint_Fits_f1_p1 : slices_IndexFunc_int_int_vconstraint_Fits_f1_p1_T := slices_IndexFunc_int_int_vconstraint_Fits_f1_p1_n fuel
theorem slices_IndexFunc_int_int_vconstraint_Fits_f1_p1_ok : PieceOk Try.prog 19 0 slices_IndexFunc_int_int_vconstraint_Fits_f1_p1_code slices_IndexFunc_int_int_vconstraint_Fits_f1_p1_v slices_IndexFunc_int_int_vconstraint_Fits_f1_p1_o (slices_IndexFunc_int_int_vconstraint_Fits_f1_p1_G slices_IndexFunc_int_int_vconstraint_Fits_f1_p1) := slices_IndexFunc_int_int_vconstraint_Fits_f1_p1_ok' constraint_Fits_f1 slices_IndexFunc_int_int_vconstraint_Fits_f1_Γ fuel
def slices_IndexFunc_int_int_vconstraint_Fits_f1 : T_slices_IndexFunc_int_int_vconstraint_Fits_f1 := slices_IndexFunc_int_int_vconstraint_Fits_f1_s slices_IndexFunc_int_int_vconstraint_Fits_f1_p1
theorem slices_IndexFunc_int_int_vconstraint_Fits_f1_ok : SpecOk Try.prog 74 (slices_IndexFunc_int_int_vconstraint_Fits_f1_S slices_IndexFunc_int_int_vconstraint_Fits_f1) := slices_IndexFunc_int_int_vconstraint_Fits_f1_ok' constraint_Fits_f1 slices_IndexFunc_int_int_vconstraint_Fits_f1_Γ slices_IndexFunc_int_int_vconstraint_Fits_f1_p1 slices_IndexFunc_int_int_vconstraint_Fits_f1_p1_ok

/-- pagewatch/order.Compare -/
abbrev T_order_Compare := {β : Type} → api_Record → Int → Int → (Int → Bool → Option β) → Option β
def order_Compare_S (c : T_order_Compare) : Spec :=
  ⟨[(true, [.data y_api_Record]), (false, [.data (.int .i64)]), (false, [.data (.int .i64)])], [], [(false, [.data (.int .i64)]), (false, [.data .bool])], [], fun x k => c x.1.1.1 x.1.2.1.1 x.1.2.2.1.1 (fun r0 r1 => k (((r0, ()), (r1, ()), ()), ()))⟩
section
variable (c_order_both : T_order_both) (c_order_matrix_before : T_order_matrix_before)
@[reducible] def order_Compare_X : Ctx := ⟨look tab, pick1 [(59, .spec (order_both_S c_order_both)), (60, .spec (order_matrix_before_S c_order_matrix_before))], false⟩
def order_Compare_s {β : Type} (r_ : api_Record) (a : Int) (b : Int) (k : (Int → Bool → Option β)) : Option β :=
  c_order_both r_ a b (fun (rboth : List (List Int)) (rboth2 : Bool) =>
  cond (!rboth2)
  (k (0 : Int) false)
  (c_order_matrix_before rboth a b (fun (rbefore : Bool) =>
  cond rbefore
  (k (-1 : Int) true)
  (c_order_matrix_before rboth b a (fun (rbefore2 : Bool) =>
  cond rbefore2
  (k (1 : Int) true)
  (k (0 : Int) true))))))
theorem order_Compare_ok' (hΓ : ΓOk Try.prog (order_Compare_X c_order_both c_order_matrix_before).Γ) : SpecOk Try.prog 40 (order_Compare_S (order_Compare_s c_order_both c_order_matrix_before)) :=
  spec_exec (X := (order_Compare_X c_order_both c_order_matrix_before)) (Λ := pick1 []) (rs := [.tmp 6, .tmp 7]) (c := bodyOf Try.f40) mixed tab_ok hΓ Try.func40 (by kernel_rfl) (by kernel_rfl) (by kernel_rfl) (by kernel_rfl) CutsOk_nil (fun x k r h => Eq.trans (b := (order_Compare_S (order_Compare_s c_order_both c_order_matrix_before)).run x k) (by kernel_rfl) h)
end
theorem order_Compare_Γ : ΓOk Try.prog (pick1 [(59, .spec (order_both_S order_both)), (60, .spec (order_matrix_before_S order_matrix_before))]) := (ΓOk_cons order_both_ok (ΓOk_cons order_matrix_before_ok ΓOk_nil))
def order_Compare : T_order_Compare := order_Compare_s order_both order_matrix_before
theorem order_Compare_ok : SpecOk Try.prog 40 (order_Compare_S order_Compare) := order_Compare_ok' order_both order_matrix_before order_Compare_Γ

/-- pagewatch/order.Gap -/
abbrev T_order_Gap := {β : Type} → api_Record → Int → Int → ((Int × Int) → Bool → Option β) → Option β
def order_Gap_S (c : T_order_Gap) : Spec :=
  ⟨[(true, [.data y_api_Record]), (false, [.data (.int .i64)]), (false, [.data (.int .i64)])], [], [(true, [.data (.prod (.int .i64) (.int .i64))]), (false, [.data .bool])], [], fun x k => c x.1.1.1 x.1.2.1.1 x.1.2.2.1.1 (fun r0 r1 => k (((r0, ()), (r1, ()), ()), ()))⟩
section
variable (c_order_both : T_order_both)
@[reducible] def order_Gap_X : Ctx := ⟨look tab, pick1 [(59, .spec (order_both_S c_order_both))], false⟩
def order_Gap_s {β : Type} (r_ : api_Record) (a : Int) (b : Int) (k : ((Int × Int) → Bool → Option β)) : Option β :=
  c_order_both r_ a b (fun (rboth : List (List Int)) (rboth2 : Bool) =>
  cond (!rboth2)
  (k ((0 : Int), (0 : Int)) false)
  (cond (decide (0 ≤ (IntKind.i64.wrap (b + (1 : Int)))) && decide ((IntKind.i64.wrap (b + (1 : Int))) < (List.length rboth : Int)))
  (let e : List Int := List.getD rboth (Int.toNat (IntKind.i64.wrap (b + (1 : Int)))) ([] : List Int);
  cond (decide (0 ≤ (IntKind.i64.wrap (a + (1 : Int)))) && decide ((IntKind.i64.wrap (a + (1 : Int))) < (List.length e : Int)))
  (let e2 : Int := List.getD e (Int.toNat (IntKind.i64.wrap (a + (1 : Int)))) (0 : Int);
  cond (decide (0 ≤ (IntKind.i64.wrap (a + (1 : Int)))) && decide ((IntKind.i64.wrap (a + (1 : Int))) < (List.length rboth : Int)))
  (let e3 : List Int := List.getD rboth (Int.toNat (IntKind.i64.wrap (a + (1 : Int)))) ([] : List Int);
  cond (decide (0 ≤ (IntKind.i64.wrap (b + (1 : Int)))) && decide ((IntKind.i64.wrap (b + (1 : Int))) < (List.length e3 : Int)))
  (let e4 : Int := List.getD e3 (Int.toNat (IntKind.i64.wrap (b + (1 : Int)))) (0 : Int);
  k ((IntKind.i64.wrap (0 - e2)), e4) true)
  none)
  none)
  none)
  none))
theorem order_Gap_ok' (hΓ : ΓOk Try.prog (order_Gap_X c_order_both).Γ) : SpecOk Try.prog 45 (order_Gap_S (order_Gap_s c_order_both)) :=
  spec_exec (X := (order_Gap_X c_order_both)) (Λ := pick1 []) (rs := [.cell 6 45, .tmp 7]) (c := bodyOf Try.f45) mixed tab_ok hΓ Try.func45 (by kernel_rfl) (by kernel_rfl) (by kernel_rfl) (by kernel_rfl) CutsOk_nil (fun x k r h => Eq.trans (b := (order_Gap_S (order_Gap_s c_order_both)).run x k) (by kernel_rfl) h)
end
theorem order_Gap_Γ : ΓOk Try.prog (pick1 [(59, .spec (order_both_S order_both))]) := (ΓOk_cons order_both_ok ΓOk_nil)
def order_Gap : T_order_Gap := order_Gap_s order_both
theorem order_Gap_ok : SpecOk Try.prog 45 (order_Gap_S order_Gap) := order_Gap_ok' order_both order_Gap_Γ

/-- slices.ContainsFunc[[]int,int] -/
abbrev T_slices_ContainsFunc_int_int_vconstraint_Fits_f1 := {β : Type} → (List Int) → (Bool → Option β) → Option β
def slices_ContainsFunc_int_int_vconstraint_Fits_f1_S (c : T_slices_ContainsFunc_int_int_vconstraint_Fits_f1) : Spec :=
  ⟨[(false, [.data (.slice (.int .i64))]), (false, [.fn 76 []])], [], [(false, [.data .bool])], [], fun x k => c x.1.1.1 (fun r0 => k (((r0, ()), ()), ()))⟩
section
variable (c_slices_IndexFunc_int_int_vconstraint_Fits_f1 : T_slices_IndexFunc_int_int_vconstraint_Fits_f1)
@[reducible] def slices_ContainsFunc_int_int_vconstraint_Fits_f1_X : Ctx := ⟨look tab, pick1 [(74, .spec (slices_IndexFunc_int_int_vconstraint_Fits_f1_S c_slices_IndexFunc_int_int_vconstraint_Fits_f1))], false⟩
def slices_ContainsFunc_int_int_vconstraint_Fits_f1_s {β : Type} (s : List Int) (k : (Bool → Option β)) : Option β :=
  c_slices_IndexFunc_int_int_vconstraint_Fits_f1 s (fun (rIndexFuncintint : Int) =>
  let t : Bool := (decide ((0 : Int) ≤ rIndexFuncintint));
  k t)
theorem slices_ContainsFunc_int_int_vconstraint_Fits_f1_ok' (hΓ : ΓOk Try.prog (slices_ContainsFunc_int_int_vconstraint_Fits_f1_X c_slices_IndexFunc_int_int_vconstraint_Fits_f1).Γ) : SpecOk Try.prog 65 (slices_ContainsFunc_int_int_vconstraint_Fits_f1_S (slices_ContainsFunc_int_int_vconstraint_Fits_f1_s c_slices_IndexFunc_int_int_vconstraint_Fits_f1)) :=
  spec_exec (X := (slices_ContainsFunc_int_int_vconstraint_Fits_f1_X c_slices_IndexFunc_int_int_vconstraint_Fits_f1)) (Λ := pick1 []) (rs := [.tmp 4]) (c := bodyOf Try.f65) mixed tab_ok hΓ Try.func65 (by kernel_rfl) (by kernel_rfl) (by kernel_rfl) (by kernel_rfl) CutsOk_nil (fun x k r h => Eq.trans (b := (slices_ContainsFunc_int_int_vconstraint_Fits_f1_S (slices_ContainsFunc_int_int_vconstraint_Fits_f1_s c_slices_IndexFunc_int_int_vconstraint_Fits_f1)).run x k) (by kernel_rfl) h)
end
theorem slices_ContainsFunc_int_int_vconstraint_Fits_f1_Γ : ΓOk Try.prog (pick1 [(74, .spec (slices_IndexFunc_int_int_vconstraint_Fits_f1_S slices_IndexFunc_int_int_vconstraint_Fits_f1))]) := (ΓOk_cons slices_IndexFunc_int_int_vconstraint_Fits_f1_ok ΓOk_nil)
def slices_ContainsFunc_int_int_vconstraint_Fits_f1 : T_slices_ContainsFunc_int_int_vconstraint_Fits_f1 := slices_ContainsFunc_int_int_vconstraint_Fits_f1_s slices_IndexFunc_int_int_vconstraint_Fits_f1
theorem slices_ContainsFunc_int_int_vconstraint_Fits_f1_ok : SpecOk Try.prog 65 (slices_ContainsFunc_int_int_vconstraint_Fits_f1_S slices_ContainsFunc_int_int_vconstraint_Fits_f1) := slices_ContainsFunc_int_int_vconstraint_Fits_f1_ok' slices_IndexFunc_int_int_vconstraint_Fits_f1 slices_ContainsFunc_int_int_vconstraint_Fits_f1_Γ

/-- pagewatch/pagewatchlaw40.sane -/
abbrev T_law40_sane := {β : Type} → (Bool → Option β) → Option β
def law40_sane_S (c : T_law40_sane) : Spec :=
  ⟨[], [], [(false, [.data .bool])], [], fun x k => c  (fun r0 => k (((r0, ()), ()), ()))⟩
section
variable (c_law40_two : T_law40_two) (c_order_Compare : T_order_Compare) (c_order_Open : T_order_Open)
@[reducible] def law40_sane_X : Ctx := ⟨look tab, pick1 [(58, .spec (law40_two_S c_law40_two)), (40, .spec (order_Compare_S c_order_Compare)), (41, .spec (order_Open_S c_order_Open))], false⟩
def law40_sane_s {β : Type} (k : (Bool → Option β)) : Option β :=
  c_law40_two  (fun (rtwo : api_Record) =>
  c_order_Compare rtwo (0 : Int) (1 : Int) (fun (rCompare : Int) (rCompare2 : Bool) =>
  c_order_Open rtwo (fun (lrOpen : List (Int × Int)) =>
  let l : List (Int × (Int × Int)) := ([((0 : Int), ((1 : Int), (1 : Int)))] : List (Int × (Int × Int)));
  c_order_Compare (rtwo.1, (rtwo.2.1, (rtwo.2.2.1, l))) (0 : Int) (1 : Int) (fun (rCompare3 : Int) (rCompare4 : Bool) =>
  cond rCompare2
  (cond (decide (rCompare = (0 : Int)))
  (cond (decide ((List.length lrOpen : Int) = (1 : Int)))
  (cond rCompare4
  (cond (decide (rCompare3 = (-1 : Int)))
  (c_order_Open (rtwo.1, (rtwo.2.1, (rtwo.2.2.1, l))) (fun (lrOpen2 : List (Int × Int)) =>
  let t : Bool := (decide ((List.length lrOpen2 : Int) = (0 : Int)));
  k t))
  (k false))
  (k false))
  (k false))
  (k false))
  (k false)))))
theorem law40_sane_ok' (hΓ : ΓOk Try.prog (law40_sane_X c_law40_two c_order_Compare c_order_Open).Γ) : SpecOk Try.prog 39 (law40_sane_S (law40_sane_s c_law40_two c_order_Compare c_order_Open)) :=
  spec_exec (X := (law40_sane_X c_law40_two c_order_Compare c_order_Open)) (Λ := pick1 []) (rs := [.tmp 0]) (c := bodyOf Try.f39) mixed tab_ok hΓ Try.func39 (by kernel_rfl) (by kernel_rfl) (by kernel_rfl) (by kernel_rfl) CutsOk_nil (fun x k r h => Eq.trans (b := (law40_sane_S (law40_sane_s c_law40_two c_order_Compare c_order_Open)).run x k) (by kernel_rfl) h)
end
theorem law40_sane_Γ : ΓOk Try.prog (pick1 [(58, .spec (law40_two_S law40_two)), (40, .spec (order_Compare_S order_Compare)), (41, .spec (order_Open_S order_Open))]) := (ΓOk_cons law40_two_ok (ΓOk_cons order_Compare_ok (ΓOk_cons order_Open_ok ΓOk_nil)))
def law40_sane : T_law40_sane := law40_sane_s law40_two order_Compare order_Open
theorem law40_sane_ok : SpecOk Try.prog 39 (law40_sane_S law40_sane) := law40_sane_ok' law40_two order_Compare order_Open law40_sane_Γ

/-- slices.IndexFunc[[]int,int] -/
abbrev T_slices_IndexFunc_int_int_vorder_Fits_f1 := {β : Type} → (List Int) → (Int → Option β) → Option β
def slices_IndexFunc_int_int_vorder_Fits_f1_S (c : T_slices_IndexFunc_int_int_vorder_Fits_f1) : Spec :=
  ⟨[(false, [.data (.slice (.int .i64))]), (false, [.fn 66 []])], [], [(false, [.data (.int .i64)])], [], fun x k => c x.1.1.1 (fun r0 => k (((r0, ()), ()), ()))⟩
noncomputable def slices_IndexFunc_int_int_vorder_Fits_f1_p1_code : Code := codeAt 26 (bodyOf Try.f74)
abbrev slices_IndexFunc_int_int_vorder_Fits_f1_p1_K1 (β : Type) := Int → Option β
abbrev slices_IndexFunc_int_int_vorder_Fits_f1_p1_K2 (β : Type) := Unit → Option β
abbrev slices_IndexFunc_int_int_vorder_Fits_f1_p1_T := {β : Type} → slices_IndexFunc_int_int_vorder_Fits_f1_p1_K1 β → slices_IndexFunc_int_int_vorder_Fits_f1_p1_K2 β → (List Int) → Int → Int → Option β
def slices_IndexFunc_int_int_vorder_Fits_f1_p1_v : View := ⟨0, [0, 1, 7, 8], [(false, [.data (.slice (.int .i64))]), (false, [.fn 66 []]), (false, [.data (.int .i64)]), (false, [.data (.int .i64)])], []⟩
def slices_IndexFunc_int_int_vorder_Fits_f1_p1_o : List (AExit × View) := [(.ret, ⟨0, [4], [(false, [.data (.int .i64)])], []⟩), (.exit 0, ⟨0, [], [], []⟩)]
@[reducible] def slices_IndexFunc_int_int_vorder_Fits_f1_p1_G (p : slices_IndexFunc_int_int_vorder_Fits_f1_p1_T) {β : Type} (d : slices_IndexFunc_int_int_vorder_Fits_f1_p1_v.den) (ks : Outs.K β slices_IndexFunc_int_int_vorder_Fits_f1_p1_o) : Option β :=
  p (fun a0 => ks.1 (((a0, ()), ()), ())) (fun _ => ks.2.1 ((), ())) d.1.1.1 d.1.2.2.1.1 d.1.2.2.2.1.1
section
variable (c_order_Fits_f1 : T_order_Fits_f1)
@[reducible] def slices_IndexFunc_int_int_vorder_Fits_f1_X : Ctx := ⟨look tab, pick1 [(66, .spec (order_Fits_f1_S c_order_Fits_f1))], false⟩
def slices_IndexFunc_int_int_vorder_Fits_f1_p1_s {β : Type} (rec : (List Int) → Int → Int → Option β) (k1 : slices_IndexFunc_int_int_vorder_Fits_f1_p1_K1 β) (k2 : slices_IndexFunc_int_int_vorder_Fits_f1_p1_K2 β) (s : List Int) (t7 : Int) (t8 : Int) : Option β :=
  cond (decide (t8 < t7))
  (cond (decide (0 ≤ t8) && decide (t8 < (List.length s : Int)))
  (let e : Int := List.getD s (Int.toNat t8) (0 : Int);
  c_order_Fits_f1 e (fun (rFits1 : Bool) =>
  cond rFits1
  (k1 t8)
  (rec s t7 (IntKind.i64.wrap (t8 + (1 : Int))))))
  none)
  (k2 ())
def slices_IndexFunc_int_int_vorder_Fits_f1_p1_l {β : Type} : Nat → slices_IndexFunc_int_int_vorder_Fits_f1_p1_K1 β → slices_IndexFunc_int_int_vorder_Fits_f1_p1_K2 β → (List Int) → Int → Int → Option β
  | 0 => fun _ _ _ _ _ => none
  | i + 1 => fun k1 k2 s t7 t8 => slices_IndexFunc_int_int_vorder_Fits_f1_p1_s c_order_Fits_f1 (slices_IndexFunc_int_int_vorder_Fits_f1_p1_l i k1 k2) k1 k2 s t7 t8
theorem slices_IndexFunc_int_int_vorder_Fits_f1_p1_ok' (hΓ : ΓOk Try.prog (slices_IndexFunc_int_int_vorder_Fits_f1_X c_order_Fits_f1).Γ) (i : Nat) : PieceOk Try.prog 19 0 slices_IndexFunc_int_int_vorder_Fits_f1_p1_code slices_IndexFunc_int_int_vorder_Fits_f1_p1_v slices_IndexFunc_int_int_vorder_Fits_f1_p1_o (slices_IndexFunc_int_int_vorder_Fits_f1_p1_G (slices_IndexFunc_int_int_vorder_Fits_f1_p1_l c_order_Fits_f1 i)) := by
  rw [show slices_IndexFunc_int_int_vorder_Fits_f1_p1_code = .loop (loopBody slices_IndexFunc_int_int_vorder_Fits_f1_p1_code) by kernel_rfl]
  exact piece_loop (X := (slices_IndexFunc_int_int_vorder_Fits_f1_X c_order_Fits_f1)) (p := 1) (Λ := pick1 []) (G := fun i => @fun β d ks => slices_IndexFunc_int_int_vorder_Fits_f1_p1_G (slices_IndexFunc_int_int_vorder_Fits_f1_p1_l c_order_Fits_f1 i) d ks) mixed tab_ok hΓ rfl (by kernel_rfl) CutsOk_nil (fun _ _ => rfl) (fun i => @fun β d ks r h => Eq.trans (b := slices_IndexFunc_int_int_vorder_Fits_f1_p1_G (slices_IndexFunc_int_int_vorder_Fits_f1_p1_l c_order_Fits_f1 (i + 1)) d ks) (by kernel_rfl) h) i
def slices_IndexFunc_int_int_vorder_Fits_f1_s (p1 : slices_IndexFunc_int_int_vorder_Fits_f1_p1_T) {β : Type} (s : List Int) (k : (Int → Option β)) : Option β :=
  p1 (fun (t4 : Int) =>
  k t4) (fun (_ : Unit) =>
  k (-1 : Int)) s (List.length s : Int) (0 : Int)
theorem slices_IndexFunc_int_int_vorder_Fits_f1_ok' (hΓ : ΓOk Try.prog (slices_IndexFunc_int_int_vorder_Fits_f1_X c_order_Fits_f1).Γ) (p1 : slices_IndexFunc_int_int_vorder_Fits_f1_p1_T) (hp1 : PieceOk Try.prog 19 0 slices_IndexFunc_int_int_vorder_Fits_f1_p1_code slices_IndexFunc_int_int_vorder_Fits_f1_p1_v slices_IndexFunc_int_int_vorder_Fits_f1_p1_o (slices_IndexFunc_int_int_vorder_Fits_f1_p1_G p1)) : SpecOk Try.prog 74 (slices_IndexFunc_int_int_vorder_Fits_f1_S (slices_IndexFunc_int_int_vorder_Fits_f1_s p1)) :=
  spec_exec (X := (slices_IndexFunc_int_int_vorder_Fits_f1_X c_order_Fits_f1)) (Λ := pick1 [(26, pieceCut slices_IndexFunc_int_int_vorder_Fits_f1_p1_v slices_IndexFunc_int_int_vorder_Fits_f1_p1_o (slices_IndexFunc_int_int_vorder_Fits_f1_p1_G p1))]) (rs := [.tmp 4]) (c := bodyOf Try.f74) mixed tab_ok hΓ Try.func74 (by kernel_rfl) (by kernel_rfl) (by kernel_rfl) (by kernel_rfl) (CutsOk_cons (q := 26) (c' := slices_IndexFunc_int_int_vorder_Fits_f1_p1_code) (by kernel_rfl) rfl hp1 CutsOk_nil) (fun x k r h => Eq.trans (b := (slices_IndexFunc_int_int_vorder_Fits_f1_S (slices_IndexFunc_int_int_vorder_Fits_f1_s p1)).run x k) (by kernel_rfl) h)
end
theorem slices_IndexFunc_int_int_vorder_Fits_f1_Γ : ΓOk Try.prog (pick1 [(66, .spec (order_Fits_f1_S order_Fits_f1))]) := (ΓOk_cons order_Fits_f1_ok ΓOk_nil)
def slices_IndexFunc_int_int_vorder_Fits_f1_p1_n (m : Nat) : slices_IndexFunc_int_int_vorder_Fits_f1_p1_T := slices_IndexFunc_int_int_vorder_Fits_f1_p1_l order_Fits_f1 m
theorem slices_IndexFunc_int_int_vorder_Fits_f1_p1_step {β : Type} (i : Nat) (k1 k2 s t7 t8) : (slices_IndexFunc_int_int_vorder_Fits_f1_p1_n (i + 1) k1 k2 s t7 t8 : Option β) = slices_IndexFunc_int_int_vorder_Fits_f1_p1_s order_Fits_f1 (slices_IndexFunc_int_int_vorder_Fits_f1_p1_n i k1 k2) k1 k2 s t7 t8 := rfl
def slices_IndexFunc_int_int_vorder_Fits_f1_p1 : slices_IndexFunc_int_int_vorder_Fits_f1_p1_T := slices_IndexFunc_int_int_vorder_Fits_f1_p1_n fuel
theorem slices_IndexFunc_int_int_vorder_Fits_f1_p1_ok : PieceOk Try.prog 19 0 slices_IndexFunc_int_int_vorder_Fits_f1_p1_code slices_IndexFunc_int_int_vorder_Fits_f1_p1_v slices_IndexFunc_int_int_vorder_Fits_f1_p1_o (slices_IndexFunc_int_int_vorder_Fits_f1_p1_G slices_IndexFunc_int_int_vorder_Fits_f1_p1) := slices_IndexFunc_int_int_vorder_Fits_f1_p1_ok' order_Fits_f1 slices_IndexFunc_int_int_vorder_Fits_f1_Γ fuel
def slices_IndexFunc_int_int_vorder_Fits_f1 : T_slices_IndexFunc_int_int_vorder_Fits_f1 := slices_IndexFunc_int_int_vorder_Fits_f1_s slices_IndexFunc_int_int_vorder_Fits_f1_p1
theorem slices_IndexFunc_int_int_vorder_Fits_f1_ok : SpecOk Try.prog 74 (slices_IndexFunc_int_int_vorder_Fits_f1_S slices_IndexFunc_int_int_vorder_Fits_f1) := slices_IndexFunc_int_int_vorder_Fits_f1_ok' order_Fits_f1 slices_IndexFunc_int_int_vorder_Fits_f1_Γ slices_IndexFunc_int_int_vorder_Fits_f1_p1 slices_IndexFunc_int_int_vorder_Fits_f1_p1_ok

/-- slices.IndexFunc[[]int,int] -/
abbrev T_slices_IndexFunc_int_int_vorder_Allows_f1 := {β : Type} → (List Int) → (List (List Int)) → Int → (Int → (List (List Int)) → Int → Option β) → Option β
def slices_IndexFunc_int_int_vorder_Allows_f1_S (c : T_slices_IndexFunc_int_int_vorder_Allows_f1) : Spec :=
  ⟨[(false, [.data (.slice (.int .i64))]), (false, [.fn 71 [0, 1]])], [.cells 86 [.data (.slice (.slice (.int .i64)))], .cells 3 [.data (.int .i64)]], [(false, [.data (.int .i64)])], [.cells 86 [.data (.slice (.slice (.int .i64)))], .cells 3 [.data (.int .i64)]], fun x k => c x.1.1.1 x.2.1.1 x.2.2.1.1 (fun r0 r1 r2 => k (((r0, ()), ()), ((r1, ()), (r2, ()), ())))⟩
noncomputable def slices_IndexFunc_int_int_vorder_Allows_f1_p1_code : Code := codeAt 26 (bodyOf Try.f74)
abbrev slices_IndexFunc_int_int_vorder_Allows_f1_p1_K1 (β : Type) := Int → (List (List Int)) → Int → Option β
abbrev slices_IndexFunc_int_int_vorder_Allows_f1_p1_K2 (β : Type) := (List (List Int)) → Int → Option β
abbrev slices_IndexFunc_int_int_vorder_Allows_f1_p1_T := {β : Type} → slices_IndexFunc_int_int_vorder_Allows_f1_p1_K1 β → slices_IndexFunc_int_int_vorder_Allows_f1_p1_K2 β → (List Int) → Int → Int → (List (List Int)) → Int → Option β
def slices_IndexFunc_int_int_vorder_Allows_f1_p1_v : View := ⟨2, [0, 1, 7, 8], [(false, [.data (.slice (.int .i64))]), (false, [.fn 71 [0, 1]]), (false, [.data (.int .i64)]), (false, [.data (.int .i64)])], [.cells 86 [.data (.slice (.slice (.int .i64)))], .cells 3 [.data (.int .i64)]]⟩
def slices_IndexFunc_int_int_vorder_Allows_f1_p1_o : List (AExit × View) := [(.ret, ⟨2, [4], [(false, [.data (.int .i64)])], [.cells 86 [.data (.slice (.slice (.int .i64)))], .cells 3 [.data (.int .i64)]]⟩), (.exit 0, ⟨2, [], [], [.cells 86 [.data (.slice (.slice (.int .i64)))], .cells 3 [.data (.int .i64)]]⟩)]
@[reducible] def slices_IndexFunc_int_int_vorder_Allows_f1_p1_G (p : slices_IndexFunc_int_int_vorder_Allows_f1_p1_T) {β : Type} (d : slices_IndexFunc_int_int_vorder_Allows_f1_p1_v.den) (ks : Outs.K β slices_IndexFunc_int_int_vorder_Allows_f1_p1_o) : Option β :=
  p (fun a0 a1 a2 => ks.1 (((a0, ()), ()), ((a1, ()), (a2, ()), ()))) (fun a0 a1 => ks.2.1 ((), ((a0, ()), (a1, ()), ()))) d.1.1.1 d.1.2.2.1.1 d.1.2.2.2.1.1 d.2.1.1 d.2.2.1.1
section
variable (c_order_Allows_f1 : T_order_Allows_f1)
@[reducible] def slices_IndexFunc_int_int_vorder_Allows_f1_X : Ctx := ⟨look tab, pick1 [(71, .spec (order_Allows_f1_S c_order_Allows_f1))], false⟩
def slices_IndexFunc_int_int_vorder_Allows_f1_p1_s {β : Type} (rec : (List Int) → Int → Int → (List (List Int)) → Int → Option β) (k1 : slices_IndexFunc_int_int_vorder_Allows_f1_p1_K1 β) (k2 : slices_IndexFunc_int_int_vorder_Allows_f1_p1_K2 β) (s : List Int) (t7 : Int) (t8 : Int) (b0_ : List (List Int)) (b1_ : Int) : Option β :=
  cond (decide (t8 < t7))
  (cond (decide (0 ≤ t8) && decide (t8 < (List.length s : Int)))
  (let e : Int := List.getD s (Int.toNat t8) (0 : Int);
  c_order_Allows_f1 e b0_ b1_ (fun (rAllows1 : Bool) (mrAllows1 : List (List Int)) (mrAllows12 : Int) =>
  cond rAllows1
  (k1 t8 mrAllows1 mrAllows12)
  (rec s t7 (IntKind.i64.wrap (t8 + (1 : Int))) mrAllows1 mrAllows12)))
  none)
  (k2 b0_ b1_)
def slices_IndexFunc_int_int_vorder_Allows_f1_p1_l {β : Type} : Nat → slices_IndexFunc_int_int_vorder_Allows_f1_p1_K1 β → slices_IndexFunc_int_int_vorder_Allows_f1_p1_K2 β → (List Int) → Int → Int → (List (List Int)) → Int → Option β
  | 0 => fun _ _ _ _ _ _ _ => none
  | i + 1 => fun k1 k2 s t7 t8 b0_ b1_ => slices_IndexFunc_int_int_vorder_Allows_f1_p1_s c_order_Allows_f1 (slices_IndexFunc_int_int_vorder_Allows_f1_p1_l i k1 k2) k1 k2 s t7 t8 b0_ b1_
theorem slices_IndexFunc_int_int_vorder_Allows_f1_p1_ok' (hΓ : ΓOk Try.prog (slices_IndexFunc_int_int_vorder_Allows_f1_X c_order_Allows_f1).Γ) (i : Nat) : PieceOk Try.prog 19 2 slices_IndexFunc_int_int_vorder_Allows_f1_p1_code slices_IndexFunc_int_int_vorder_Allows_f1_p1_v slices_IndexFunc_int_int_vorder_Allows_f1_p1_o (slices_IndexFunc_int_int_vorder_Allows_f1_p1_G (slices_IndexFunc_int_int_vorder_Allows_f1_p1_l c_order_Allows_f1 i)) := by
  rw [show slices_IndexFunc_int_int_vorder_Allows_f1_p1_code = .loop (loopBody slices_IndexFunc_int_int_vorder_Allows_f1_p1_code) by kernel_rfl]
  exact piece_loop (X := (slices_IndexFunc_int_int_vorder_Allows_f1_X c_order_Allows_f1)) (p := 1) (Λ := pick1 []) (G := fun i => @fun β d ks => slices_IndexFunc_int_int_vorder_Allows_f1_p1_G (slices_IndexFunc_int_int_vorder_Allows_f1_p1_l c_order_Allows_f1 i) d ks) mixed tab_ok hΓ rfl (by kernel_rfl) CutsOk_nil (fun _ _ => rfl) (fun i => @fun β d ks r h => Eq.trans (b := slices_IndexFunc_int_int_vorder_Allows_f1_p1_G (slices_IndexFunc_int_int_vorder_Allows_f1_p1_l c_order_Allows_f1 (i + 1)) d ks) (by kernel_rfl) h) i
def slices_IndexFunc_int_int_vorder_Allows_f1_s (p1 : slices_IndexFunc_int_int_vorder_Allows_f1_p1_T) {β : Type} (s : List Int) (b0_ : List (List Int)) (b1_ : Int) (k : (Int → (List (List Int)) → Int → Option β)) : Option β :=
  p1 (fun (t4 : Int) (b0_2 : List (List Int)) (b1_2 : Int) =>
  k t4 b0_2 b1_2) (fun (b0_2 : List (List Int)) (b1_2 : Int) =>
  k (-1 : Int) b0_2 b1_2) s (List.length s : Int) (0 : Int) b0_ b1_
theorem slices_IndexFunc_int_int_vorder_Allows_f1_ok' (hΓ : ΓOk Try.prog (slices_IndexFunc_int_int_vorder_Allows_f1_X c_order_Allows_f1).Γ) (p1 : slices_IndexFunc_int_int_vorder_Allows_f1_p1_T) (hp1 : PieceOk Try.prog 19 2 slices_IndexFunc_int_int_vorder_Allows_f1_p1_code slices_IndexFunc_int_int_vorder_Allows_f1_p1_v slices_IndexFunc_int_int_vorder_Allows_f1_p1_o (slices_IndexFunc_int_int_vorder_Allows_f1_p1_G p1)) : SpecOk Try.prog 74 (slices_IndexFunc_int_int_vorder_Allows_f1_S (slices_IndexFunc_int_int_vorder_Allows_f1_s p1)) :=
  spec_exec (X := (slices_IndexFunc_int_int_vorder_Allows_f1_X c_order_Allows_f1)) (Λ := pick1 [(26, pieceCut slices_IndexFunc_int_int_vorder_Allows_f1_p1_v slices_IndexFunc_int_int_vorder_Allows_f1_p1_o (slices_IndexFunc_int_int_vorder_Allows_f1_p1_G p1))]) (rs := [.tmp 4]) (c := bodyOf Try.f74) mixed tab_ok hΓ Try.func74 (by kernel_rfl) (by kernel_rfl) (by kernel_rfl) (by kernel_rfl) (CutsOk_cons (q := 26) (c' := slices_IndexFunc_int_int_vorder_Allows_f1_p1_code) (by kernel_rfl) rfl hp1 CutsOk_nil) (fun x k r h => Eq.trans (b := (slices_IndexFunc_int_int_vorder_Allows_f1_S (slices_IndexFunc_int_int_vorder_Allows_f1_s p1)).run x k) (by kernel_rfl) h)
end
theorem slices_IndexFunc_int_int_vorder_Allows_f1_Γ : ΓOk Try.prog (pick1 [(71, .spec (order_Allows_f1_S order_Allows_f1))]) := (ΓOk_cons order_Allows_f1_ok ΓOk_nil)
def slices_IndexFunc_int_int_vorder_Allows_f1_p1_n (m : Nat) : slices_IndexFunc_int_int_vorder_Allows_f1_p1_T := slices_IndexFunc_int_int_vorder_Allows_f1_p1_l order_Allows_f1 m
theorem slices_IndexFunc_int_int_vorder_Allows_f1_p1_step {β : Type} (i : Nat) (k1 k2 s t7 t8 b0_ b1_) : (slices_IndexFunc_int_int_vorder_Allows_f1_p1_n (i + 1) k1 k2 s t7 t8 b0_ b1_ : Option β) = slices_IndexFunc_int_int_vorder_Allows_f1_p1_s order_Allows_f1 (slices_IndexFunc_int_int_vorder_Allows_f1_p1_n i k1 k2) k1 k2 s t7 t8 b0_ b1_ := rfl
def slices_IndexFunc_int_int_vorder_Allows_f1_p1 : slices_IndexFunc_int_int_vorder_Allows_f1_p1_T := slices_IndexFunc_int_int_vorder_Allows_f1_p1_n fuel
theorem slices_IndexFunc_int_int_vorder_Allows_f1_p1_ok : PieceOk Try.prog 19 2 slices_IndexFunc_int_int_vorder_Allows_f1_p1_code slices_IndexFunc_int_int_vorder_Allows_f1_p1_v slices_IndexFunc_int_int_vorder_Allows_f1_p1_o (slices_IndexFunc_int_int_vorder_Allows_f1_p1_G slices_IndexFunc_int_int_vorder_Allows_f1_p1) := slices_IndexFunc_int_int_vorder_Allows_f1_p1_ok' order_Allows_f1 slices_IndexFunc_int_int_vorder_Allows_f1_Γ fuel
def slices_IndexFunc_int_int_vorder_Allows_f1 : T_slices_IndexFunc_int_int_vorder_Allows_f1 := slices_IndexFunc_int_int_vorder_Allows_f1_s slices_IndexFunc_int_int_vorder_Allows_f1_p1
theorem slices_IndexFunc_int_int_vorder_Allows_f1_ok : SpecOk Try.prog 74 (slices_IndexFunc_int_int_vorder_Allows_f1_S slices_IndexFunc_int_int_vorder_Allows_f1) := slices_IndexFunc_int_int_vorder_Allows_f1_ok' order_Allows_f1 slices_IndexFunc_int_int_vorder_Allows_f1_Γ slices_IndexFunc_int_int_vorder_Allows_f1_p1 slices_IndexFunc_int_int_vorder_Allows_f1_p1_ok

/-- slices.ContainsFunc[[]int,int] -/
abbrev T_slices_ContainsFunc_int_int_vorder_Fits_f1 := {β : Type} → (List Int) → (Bool → Option β) → Option β
def slices_ContainsFunc_int_int_vorder_Fits_f1_S (c : T_slices_ContainsFunc_int_int_vorder_Fits_f1) : Spec :=
  ⟨[(false, [.data (.slice (.int .i64))]), (false, [.fn 66 []])], [], [(false, [.data .bool])], [], fun x k => c x.1.1.1 (fun r0 => k (((r0, ()), ()), ()))⟩
section
variable (c_slices_IndexFunc_int_int_vorder_Fits_f1 : T_slices_IndexFunc_int_int_vorder_Fits_f1)
@[reducible] def slices_ContainsFunc_int_int_vorder_Fits_f1_X : Ctx := ⟨look tab, pick1 [(74, .spec (slices_IndexFunc_int_int_vorder_Fits_f1_S c_slices_IndexFunc_int_int_vorder_Fits_f1))], false⟩
def slices_ContainsFunc_int_int_vorder_Fits_f1_s {β : Type} (s : List Int) (k : (Bool → Option β)) : Option β :=
  c_slices_IndexFunc_int_int_vorder_Fits_f1 s (fun (rIndexFuncintint : Int) =>
  let t : Bool := (decide ((0 : Int) ≤ rIndexFuncintint));
  k t)
theorem slices_ContainsFunc_int_int_vorder_Fits_f1_ok' (hΓ : ΓOk Try.prog (slices_ContainsFunc_int_int_vorder_Fits_f1_X c_slices_IndexFunc_int_int_vorder_Fits_f1).Γ) : SpecOk Try.prog 65 (slices_ContainsFunc_int_int_vorder_Fits_f1_S (slices_ContainsFunc_int_int_vorder_Fits_f1_s c_slices_IndexFunc_int_int_vorder_Fits_f1)) :=
  spec_exec (X := (slices_ContainsFunc_int_int_vorder_Fits_f1_X c_slices_IndexFunc_int_int_vorder_Fits_f1)) (Λ := pick1 []) (rs := [.tmp 4]) (c := bodyOf Try.f65) mixed tab_ok hΓ Try.func65 (by kernel_rfl) (by kernel_rfl) (by kernel_rfl) (by kernel_rfl) CutsOk_nil (fun x k r h => Eq.trans (b := (slices_ContainsFunc_int_int_vorder_Fits_f1_S (slices_ContainsFunc_int_int_vorder_Fits_f1_s c_slices_IndexFunc_int_int_vorder_Fits_f1)).run x k) (by kernel_rfl) h)
end
theorem slices_ContainsFunc_int_int_vorder_Fits_f1_Γ : ΓOk Try.prog (pick1 [(74, .spec (slices_IndexFunc_int_int_vorder_Fits_f1_S slices_IndexFunc_int_int_vorder_Fits_f1))]) := (ΓOk_cons slices_IndexFunc_int_int_vorder_Fits_f1_ok ΓOk_nil)
def slices_ContainsFunc_int_int_vorder_Fits_f1 : T_slices_ContainsFunc_int_int_vorder_Fits_f1 := slices_ContainsFunc_int_int_vorder_Fits_f1_s slices_IndexFunc_int_int_vorder_Fits_f1
theorem slices_ContainsFunc_int_int_vorder_Fits_f1_ok : SpecOk Try.prog 65 (slices_ContainsFunc_int_int_vorder_Fits_f1_S slices_ContainsFunc_int_int_vorder_Fits_f1) := slices_ContainsFunc_int_int_vorder_Fits_f1_ok' slices_IndexFunc_int_int_vorder_Fits_f1 slices_ContainsFunc_int_int_vorder_Fits_f1_Γ

/-- slices.ContainsFunc[[]int,int] -/
abbrev T_slices_ContainsFunc_int_int_vorder_Allows_f1 := {β : Type} → (List Int) → (List (List Int)) → Int → (Bool → (List (List Int)) → Int → Option β) → Option β
def slices_ContainsFunc_int_int_vorder_Allows_f1_S (c : T_slices_ContainsFunc_int_int_vorder_Allows_f1) : Spec :=
  ⟨[(false, [.data (.slice (.int .i64))]), (false, [.fn 71 [0, 1]])], [.cells 86 [.data (.slice (.slice (.int .i64)))], .cells 3 [.data (.int .i64)]], [(false, [.data .bool])], [.cells 86 [.data (.slice (.slice (.int .i64)))], .cells 3 [.data (.int .i64)]], fun x k => c x.1.1.1 x.2.1.1 x.2.2.1.1 (fun r0 r1 r2 => k (((r0, ()), ()), ((r1, ()), (r2, ()), ())))⟩
section
variable (c_slices_IndexFunc_int_int_vorder_Allows_f1 : T_slices_IndexFunc_int_int_vorder_Allows_f1)
@[reducible] def slices_ContainsFunc_int_int_vorder_Allows_f1_X : Ctx := ⟨look tab, pick1 [(74, .spec (slices_IndexFunc_int_int_vorder_Allows_f1_S c_slices_IndexFunc_int_int_vorder_Allows_f1))], false⟩
def slices_ContainsFunc_int_int_vorder_Allows_f1_s {β : Type} (s : List Int) (b0_ : List (List Int)) (b1_ : Int) (k : (Bool → (List (List Int)) → Int → Option β)) : Option β :=
  c_slices_IndexFunc_int_int_vorder_Allows_f1 s b0_ b1_ (fun (rIndexFuncintint : Int) (mrIndexFuncintint : List (List Int)) (mrIndexFuncintint2 : Int) =>
  let t : Bool := (decide ((0 : Int) ≤ rIndexFuncintint));
  k t mrIndexFuncintint mrIndexFuncintint2)
theorem slices_ContainsFunc_int_int_vorder_Allows_f1_ok' (hΓ : ΓOk Try.prog (slices_ContainsFunc_int_int_vorder_Allows_f1_X c_slices_IndexFunc_int_int_vorder_Allows_f1).Γ) : SpecOk Try.prog 65 (slices_ContainsFunc_int_int_vorder_Allows_f1_S (slices_ContainsFunc_int_int_vorder_Allows_f1_s c_slices_IndexFunc_int_int_vorder_Allows_f1)) :=
  spec_exec (X := (slices_ContainsFunc_int_int_vorder_Allows_f1_X c_slices_IndexFunc_int_int_vorder_Allows_f1)) (Λ := pick1 []) (rs := [.tmp 4]) (c := bodyOf Try.f65) mixed tab_ok hΓ Try.func65 (by kernel_rfl) (by kernel_rfl) (by kernel_rfl) (by kernel_rfl) CutsOk_nil (fun x k r h => Eq.trans (b := (slices_ContainsFunc_int_int_vorder_Allows_f1_S (slices_ContainsFunc_int_int_vorder_Allows_f1_s c_slices_IndexFunc_int_int_vorder_Allows_f1)).run x k) (by kernel_rfl) h)
end
theorem slices_ContainsFunc_int_int_vorder_Allows_f1_Γ : ΓOk Try.prog (pick1 [(74, .spec (slices_IndexFunc_int_int_vorder_Allows_f1_S slices_IndexFunc_int_int_vorder_Allows_f1))]) := (ΓOk_cons slices_IndexFunc_int_int_vorder_Allows_f1_ok ΓOk_nil)
def slices_ContainsFunc_int_int_vorder_Allows_f1 : T_slices_ContainsFunc_int_int_vorder_Allows_f1 := slices_ContainsFunc_int_int_vorder_Allows_f1_s slices_IndexFunc_int_int_vorder_Allows_f1
theorem slices_ContainsFunc_int_int_vorder_Allows_f1_ok : SpecOk Try.prog 65 (slices_ContainsFunc_int_int_vorder_Allows_f1_S slices_ContainsFunc_int_int_vorder_Allows_f1) := slices_ContainsFunc_int_int_vorder_Allows_f1_ok' slices_IndexFunc_int_int_vorder_Allows_f1 slices_ContainsFunc_int_int_vorder_Allows_f1_Γ

/-- pagewatch/order.Allows -/
abbrev T_order_Allows := {β : Type} → api_Record → (List Int) → (Bool → Option β) → Option β
def order_Allows_S (c : T_order_Allows) : Spec :=
  ⟨[(true, [.data y_api_Record]), (false, [.data (.slice (.int .i64))])], [], [(false, [.data .bool])], [], fun x k => c x.1.1.1 x.1.2.1.1 (fun r0 => k (((r0, ()), ()), ()))⟩
noncomputable def order_Allows_p1_code : Code := codeAt 122 (bodyOf Try.f48)
abbrev order_Allows_p1_K1 (β : Type) := Bool → Option β
abbrev order_Allows_p1_K2 (β : Type) := Unit → Option β
abbrev order_Allows_p1_T := {β : Type} → order_Allows_p1_K1 β → order_Allows_p1_K2 β → (List Int) → (List Int) → Int → Int → (List (List Int)) → Option β
def order_Allows_p1_v : View := ⟨0, [1, 5, 24, 25, 26], [(false, [.data (.slice (.int .i64))]), (false, [.ptr 0 0]), (false, [.data (.slice (.int .i64))]), (false, [.data (.int .i64)]), (false, [.data (.int .i64)])], [.cells 86 [.data (.slice (.slice (.int .i64)))]]⟩
def order_Allows_p1_o : List (AExit × View) := [(.ret, ⟨0, [4], [(false, [.data .bool])], []⟩), (.exit 0, ⟨0, [], [], []⟩)]
@[reducible] def order_Allows_p1_G (p : order_Allows_p1_T) {β : Type} (d : order_Allows_p1_v.den) (ks : Outs.K β order_Allows_p1_o) : Option β :=
  p (fun a0 => ks.1 (((a0, ()), ()), ())) (fun _ => ks.2.1 ((), ())) d.1.1.1 d.1.2.2.1.1 d.1.2.2.2.1.1 d.1.2.2.2.2.1.1 d.2.1.1
section
variable (c_order_closed : T_order_closed) (c_order_in : T_order_in) (c_slices_ContainsFunc_int_int_vorder_Allows_f1 : T_slices_ContainsFunc_int_int_vorder_Allows_f1) (c_slices_Contains_int_int : T_slices_Contains_int_int)
@[reducible] def order_Allows_X : Ctx := ⟨look tab, pick1 [(61, .spec (order_closed_S c_order_closed)), (67, .spec (order_in_S c_order_in)), (65, .spec (slices_ContainsFunc_int_int_vorder_Allows_f1_S c_slices_ContainsFunc_int_int_vorder_Allows_f1)), (70, .spec (slices_Contains_int_int_S c_slices_Contains_int_int))], false⟩
def order_Allows_p1_s {β : Type} (rec : (List Int) → (List Int) → Int → Int → (List (List Int)) → Option β) (k1 : order_Allows_p1_K1 β) (k2 : order_Allows_p1_K2 β) (l : List Int) (t24 : List Int) (t25 : Int) (t26 : Int) (m : List (List Int)) : Option β :=
  cond (decide (t26 < t25))
  (cond (decide (0 ≤ t26) && decide (t26 < (List.length t24 : Int)))
  (let e : Int := List.getD t24 (Int.toNat t26) (0 : Int);
  c_order_in e (0 : Int) (IntKind.i64.wrap ((List.length l : Int) - (1 : Int))) (fun (rin : Bool) =>
  cond (!rin)
  (k1 false)
  (cond (decide (0 ≤ (0 : Int)) && (decide ((0 : Int) ≤ t26) && decide (t26 ≤ (List.length l : Int))))
  (c_slices_Contains_int_int (List.drop (Int.toNat (0 : Int)) (List.take (Int.toNat t26) l)) e (fun (rContainsintint : Bool) =>
  cond rContainsintint
  (k1 false)
  (cond (decide (0 ≤ (0 : Int)) && (decide ((0 : Int) ≤ t26) && decide (t26 ≤ (List.length l : Int))))
  (c_slices_ContainsFunc_int_int_vorder_Allows_f1 (List.drop (Int.toNat (0 : Int)) (List.take (Int.toNat t26) l)) m e (fun (rContainsFuncintint : Bool) (mrContainsFuncintint : List (List Int)) (mrContainsFuncintint2 : Int) =>
  cond rContainsFuncintint
  (k1 false)
  (rec l t24 t25 (IntKind.i64.wrap (t26 + (1 : Int))) mrContainsFuncintint)))
  none)))
  none)))
  none)
  (k2 ())
def order_Allows_p1_l {β : Type} : Nat → order_Allows_p1_K1 β → order_Allows_p1_K2 β → (List Int) → (List Int) → Int → Int → (List (List Int)) → Option β
  | 0 => fun _ _ _ _ _ _ _ => none
  | i + 1 => fun k1 k2 l t24 t25 t26 m => order_Allows_p1_s c_order_in c_slices_ContainsFunc_int_int_vorder_Allows_f1 c_slices_Contains_int_int (order_Allows_p1_l i k1 k2) k1 k2 l t24 t25 t26 m
theorem order_Allows_p1_ok' (hΓ : ΓOk Try.prog (order_Allows_X c_order_closed c_order_in c_slices_ContainsFunc_int_int_vorder_Allows_f1 c_slices_Contains_int_int).Γ) (i : Nat) : PieceOk Try.prog 52 0 order_Allows_p1_code order_Allows_p1_v order_Allows_p1_o (order_Allows_p1_G (order_Allows_p1_l c_order_in c_slices_ContainsFunc_int_int_vorder_Allows_f1 c_slices_Contains_int_int i)) := by
  rw [show order_Allows_p1_code = .loop (loopBody order_Allows_p1_code) by kernel_rfl]
  exact piece_loop (X := (order_Allows_X c_order_closed c_order_in c_slices_ContainsFunc_int_int_vorder_Allows_f1 c_slices_Contains_int_int)) (p := 1) (Λ := pick1 []) (G := fun i => @fun β d ks => order_Allows_p1_G (order_Allows_p1_l c_order_in c_slices_ContainsFunc_int_int_vorder_Allows_f1 c_slices_Contains_int_int i) d ks) mixed tab_ok hΓ rfl (by kernel_rfl) CutsOk_nil (fun _ _ => rfl) (fun i => @fun β d ks r h => Eq.trans (b := order_Allows_p1_G (order_Allows_p1_l c_order_in c_slices_ContainsFunc_int_int_vorder_Allows_f1 c_slices_Contains_int_int (i + 1)) d ks) (by kernel_rfl) h) i
def order_Allows_s (p1 : order_Allows_p1_T) {β : Type} (r_ : api_Record) (l : List Int) (k : (Bool → Option β)) : Option β :=
  c_order_closed r_ (fun (rclosed : List (List Int)) (rclosed2 : Bool) =>
  cond (!rclosed2)
  (k false)
  (cond (!decide ((List.length l : Int) = (List.length r_.2.2.1 : Int)))
  (k false)
  (p1 (fun (t4 : Bool) =>
  k t4) (fun (_ : Unit) =>
  k true) l l (List.length l : Int) (0 : Int) rclosed)))
theorem order_Allows_ok' (hΓ : ΓOk Try.prog (order_Allows_X c_order_closed c_order_in c_slices_ContainsFunc_int_int_vorder_Allows_f1 c_slices_Contains_int_int).Γ) (p1 : order_Allows_p1_T) (hp1 : PieceOk Try.prog 52 0 order_Allows_p1_code order_Allows_p1_v order_Allows_p1_o (order_Allows_p1_G p1)) : SpecOk Try.prog 48 (order_Allows_S (order_Allows_s c_order_closed p1)) :=
  spec_exec (X := (order_Allows_X c_order_closed c_order_in c_slices_ContainsFunc_int_int_vorder_Allows_f1 c_slices_Contains_int_int)) (Λ := pick1 [(122, pieceCut order_Allows_p1_v order_Allows_p1_o (order_Allows_p1_G p1))]) (rs := [.tmp 4]) (c := bodyOf Try.f48) mixed tab_ok hΓ Try.func48 (by kernel_rfl) (by kernel_rfl) (by kernel_rfl) (by kernel_rfl) (CutsOk_cons (q := 122) (c' := order_Allows_p1_code) (by kernel_rfl) rfl hp1 CutsOk_nil) (fun x k r h => Eq.trans (b := (order_Allows_S (order_Allows_s c_order_closed p1)).run x k) (by kernel_rfl) h)
end
theorem order_Allows_Γ : ΓOk Try.prog (pick1 [(61, .spec (order_closed_S order_closed)), (67, .spec (order_in_S order_in)), (65, .spec (slices_ContainsFunc_int_int_vorder_Allows_f1_S slices_ContainsFunc_int_int_vorder_Allows_f1)), (70, .spec (slices_Contains_int_int_S slices_Contains_int_int))]) := (ΓOk_cons order_closed_ok (ΓOk_cons order_in_ok (ΓOk_cons slices_ContainsFunc_int_int_vorder_Allows_f1_ok (ΓOk_cons slices_Contains_int_int_ok ΓOk_nil))))
def order_Allows_p1_n (m : Nat) : order_Allows_p1_T := order_Allows_p1_l order_in slices_ContainsFunc_int_int_vorder_Allows_f1 slices_Contains_int_int m
theorem order_Allows_p1_step {β : Type} (i : Nat) (k1 k2 l t24 t25 t26 m) : (order_Allows_p1_n (i + 1) k1 k2 l t24 t25 t26 m : Option β) = order_Allows_p1_s order_in slices_ContainsFunc_int_int_vorder_Allows_f1 slices_Contains_int_int (order_Allows_p1_n i k1 k2) k1 k2 l t24 t25 t26 m := rfl
def order_Allows_p1 : order_Allows_p1_T := order_Allows_p1_n fuel
theorem order_Allows_p1_ok : PieceOk Try.prog 52 0 order_Allows_p1_code order_Allows_p1_v order_Allows_p1_o (order_Allows_p1_G order_Allows_p1) := order_Allows_p1_ok' order_closed order_in slices_ContainsFunc_int_int_vorder_Allows_f1 slices_Contains_int_int order_Allows_Γ fuel
def order_Allows : T_order_Allows := order_Allows_s order_closed order_Allows_p1
theorem order_Allows_ok : SpecOk Try.prog 48 (order_Allows_S order_Allows) := order_Allows_ok' order_closed order_in slices_ContainsFunc_int_int_vorder_Allows_f1 slices_Contains_int_int order_Allows_Γ order_Allows_p1 order_Allows_p1_ok

/-- slices.IndexFunc[[]pagewatch/api.Diff,pagewatch/api.Diff] -/
abbrev T_slices_IndexFunc_api_Diff_api_Diff_vconstraint_Fits_f2 := {β : Type} → (List (Int × (Int × Int))) → (List Int) → (Int → (List Int) → Option β) → Option β
def slices_IndexFunc_api_Diff_api_Diff_vconstraint_Fits_f2_S (c : T_slices_IndexFunc_api_Diff_api_Diff_vconstraint_Fits_f2) : Spec :=
  ⟨[(false, [.data (.slice (.prod (.int .i64) (.prod (.int .i64) (.int .i64))))]), (false, [.fn 79 [0]])], [.cells 27 [.data (.slice (.int .i64))]], [(false, [.data (.int .i64)])], [.cells 27 [.data (.slice (.int .i64))]], fun x k => c x.1.1.1 x.2.1.1 (fun r0 r1 => k (((r0, ()), ()), ((r1, ()), ())))⟩
noncomputable def slices_IndexFunc_api_Diff_api_Diff_vconstraint_Fits_f2_p1_code : Code := codeAt 26 (bodyOf Try.f83)
abbrev slices_IndexFunc_api_Diff_api_Diff_vconstraint_Fits_f2_p1_K1 (β : Type) := Int → (List Int) → Option β
abbrev slices_IndexFunc_api_Diff_api_Diff_vconstraint_Fits_f2_p1_K2 (β : Type) := (List Int) → Option β
abbrev slices_IndexFunc_api_Diff_api_Diff_vconstraint_Fits_f2_p1_T := {β : Type} → slices_IndexFunc_api_Diff_api_Diff_vconstraint_Fits_f2_p1_K1 β → slices_IndexFunc_api_Diff_api_Diff_vconstraint_Fits_f2_p1_K2 β → (List (Int × (Int × Int))) → Int → Int → (List Int) → Option β
def slices_IndexFunc_api_Diff_api_Diff_vconstraint_Fits_f2_p1_v : View := ⟨1, [0, 1, 7, 8], [(false, [.data (.slice (.prod (.int .i64) (.prod (.int .i64) (.int .i64))))]), (false, [.fn 79 [0]]), (false, [.data (.int .i64)]), (false, [.data (.int .i64)])], [.cells 27 [.data (.slice (.int .i64))]]⟩
def slices_IndexFunc_api_Diff_api_Diff_vconstraint_Fits_f2_p1_o : List (AExit × View) := [(.ret, ⟨1, [4], [(false, [.data (.int .i64)])], [.cells 27 [.data (.slice (.int .i64))]]⟩), (.exit 0, ⟨1, [], [], [.cells 27 [.data (.slice (.int .i64))]]⟩)]
@[reducible] def slices_IndexFunc_api_Diff_api_Diff_vconstraint_Fits_f2_p1_G (p : slices_IndexFunc_api_Diff_api_Diff_vconstraint_Fits_f2_p1_T) {β : Type} (d : slices_IndexFunc_api_Diff_api_Diff_vconstraint_Fits_f2_p1_v.den) (ks : Outs.K β slices_IndexFunc_api_Diff_api_Diff_vconstraint_Fits_f2_p1_o) : Option β :=
  p (fun a0 a1 => ks.1 (((a0, ()), ()), ((a1, ()), ()))) (fun a0 => ks.2.1 ((), ((a0, ()), ()))) d.1.1.1 d.1.2.2.1.1 d.1.2.2.2.1.1 d.2.1.1
section
variable (c_constraint_Fits_f2 : T_constraint_Fits_f2)
@[reducible] def slices_IndexFunc_api_Diff_api_Diff_vconstraint_Fits_f2_X : Ctx := ⟨look tab, pick1 [(79, .spec (constraint_Fits_f2_S c_constraint_Fits_f2))], false⟩
def slices_IndexFunc_api_Diff_api_Diff_vconstraint_Fits_f2_p1_s {β : Type} (rec : (List (Int × (Int × Int))) → Int → Int → (List Int) → Option β) (k1 : slices_IndexFunc_api_Diff_api_Diff_vconstraint_Fits_f2_p1_K1 β) (k2 : slices_IndexFunc_api_Diff_api_Diff_vconstraint_Fits_f2_p1_K2 β) (s : List (Int × (Int × Int))) (t7 : Int) (t8 : Int) (b0_ : List Int) : Option β :=
  cond (decide (t8 < t7))
  (cond (decide (0 ≤ t8) && decide (t8 < (List.length s : Int)))
  (let e : (Int × (Int × Int)) := List.getD s (Int.toNat t8) ((0 : Int), ((0 : Int), (0 : Int)));
  c_constraint_Fits_f2 e b0_ (fun (rFits2 : Bool) (mrFits2 : List Int) =>
  cond rFits2
  (k1 t8 mrFits2)
  (rec s t7 (IntKind.i64.wrap (t8 + (1 : Int))) mrFits2)))
  none)
  (k2 b0_)
def slices_IndexFunc_api_Diff_api_Diff_vconstraint_Fits_f2_p1_l {β : Type} : Nat → slices_IndexFunc_api_Diff_api_Diff_vconstraint_Fits_f2_p1_K1 β → slices_IndexFunc_api_Diff_api_Diff_vconstraint_Fits_f2_p1_K2 β → (List (Int × (Int × Int))) → Int → Int → (List Int) → Option β
  | 0 => fun _ _ _ _ _ _ => none
  | i + 1 => fun k1 k2 s t7 t8 b0_ => slices_IndexFunc_api_Diff_api_Diff_vconstraint_Fits_f2_p1_s c_constraint_Fits_f2 (slices_IndexFunc_api_Diff_api_Diff_vconstraint_Fits_f2_p1_l i k1 k2) k1 k2 s t7 t8 b0_
theorem slices_IndexFunc_api_Diff_api_Diff_vconstraint_Fits_f2_p1_ok' (hΓ : ΓOk Try.prog (slices_IndexFunc_api_Diff_api_Diff_vconstraint_Fits_f2_X c_constraint_Fits_f2).Γ) (i : Nat) : PieceOk Try.prog 19 1 slices_IndexFunc_api_Diff_api_Diff_vconstraint_Fits_f2_p1_code slices_IndexFunc_api_Diff_api_Diff_vconstraint_Fits_f2_p1_v slices_IndexFunc_api_Diff_api_Diff_vconstraint_Fits_f2_p1_o (slices_IndexFunc_api_Diff_api_Diff_vconstraint_Fits_f2_p1_G (slices_IndexFunc_api_Diff_api_Diff_vconstraint_Fits_f2_p1_l c_constraint_Fits_f2 i)) := by
  rw [show slices_IndexFunc_api_Diff_api_Diff_vconstraint_Fits_f2_p1_code = .loop (loopBody slices_IndexFunc_api_Diff_api_Diff_vconstraint_Fits_f2_p1_code) by kernel_rfl]
  exact piece_loop (X := (slices_IndexFunc_api_Diff_api_Diff_vconstraint_Fits_f2_X c_constraint_Fits_f2)) (p := 1) (Λ := pick1 []) (G := fun i => @fun β d ks => slices_IndexFunc_api_Diff_api_Diff_vconstraint_Fits_f2_p1_G (slices_IndexFunc_api_Diff_api_Diff_vconstraint_Fits_f2_p1_l c_constraint_Fits_f2 i) d ks) mixed tab_ok hΓ rfl (by kernel_rfl) CutsOk_nil (fun _ _ => rfl) (fun i => @fun β d ks r h => Eq.trans (b := slices_IndexFunc_api_Diff_api_Diff_vconstraint_Fits_f2_p1_G (slices_IndexFunc_api_Diff_api_Diff_vconstraint_Fits_f2_p1_l c_constraint_Fits_f2 (i + 1)) d ks) (by kernel_rfl) h) i
def slices_IndexFunc_api_Diff_api_Diff_vconstraint_Fits_f2_s (p1 : slices_IndexFunc_api_Diff_api_Diff_vconstraint_Fits_f2_p1_T) {β : Type} (s : List (Int × (Int × Int))) (b0_ : List Int) (k : (Int → (List Int) → Option β)) : Option β :=
  p1 (fun (t4 : Int) (b0_2 : List Int) =>
  k t4 b0_2) (fun (b0_2 : List Int) =>
  k (-1 : Int) b0_2) s (List.length s : Int) (0 : Int) b0_
theorem slices_IndexFunc_api_Diff_api_Diff_vconstraint_Fits_f2_ok' (hΓ : ΓOk Try.prog (slices_IndexFunc_api_Diff_api_Diff_vconstraint_Fits_f2_X c_constraint_Fits_f2).Γ) (p1 : slices_IndexFunc_api_Diff_api_Diff_vconstraint_Fits_f2_p1_T) (hp1 : PieceOk Try.prog 19 1 slices_IndexFunc_api_Diff_api_Diff_vconstraint_Fits_f2_p1_code slices_IndexFunc_api_Diff_api_Diff_vconstraint_Fits_f2_p1_v slices_IndexFunc_api_Diff_api_Diff_vconstraint_Fits_f2_p1_o (slices_IndexFunc_api_Diff_api_Diff_vconstraint_Fits_f2_p1_G p1)) : SpecOk Try.prog 83 (slices_IndexFunc_api_Diff_api_Diff_vconstraint_Fits_f2_S (slices_IndexFunc_api_Diff_api_Diff_vconstraint_Fits_f2_s p1)) :=
  spec_exec (X := (slices_IndexFunc_api_Diff_api_Diff_vconstraint_Fits_f2_X c_constraint_Fits_f2)) (Λ := pick1 [(26, pieceCut slices_IndexFunc_api_Diff_api_Diff_vconstraint_Fits_f2_p1_v slices_IndexFunc_api_Diff_api_Diff_vconstraint_Fits_f2_p1_o (slices_IndexFunc_api_Diff_api_Diff_vconstraint_Fits_f2_p1_G p1))]) (rs := [.tmp 4]) (c := bodyOf Try.f83) mixed tab_ok hΓ Try.func83 (by kernel_rfl) (by kernel_rfl) (by kernel_rfl) (by kernel_rfl) (CutsOk_cons (q := 26) (c' := slices_IndexFunc_api_Diff_api_Diff_vconstraint_Fits_f2_p1_code) (by kernel_rfl) rfl hp1 CutsOk_nil) (fun x k r h => Eq.trans (b := (slices_IndexFunc_api_Diff_api_Diff_vconstraint_Fits_f2_S (slices_IndexFunc_api_Diff_api_Diff_vconstraint_Fits_f2_s p1)).run x k) (by kernel_rfl) h)
end
theorem slices_IndexFunc_api_Diff_api_Diff_vconstraint_Fits_f2_Γ : ΓOk Try.prog (pick1 [(79, .spec (constraint_Fits_f2_S constraint_Fits_f2))]) := (ΓOk_cons constraint_Fits_f2_ok ΓOk_nil)
def slices_IndexFunc_api_Diff_api_Diff_vconstraint_Fits_f2_p1_n (m : Nat) : slices_IndexFunc_api_Diff_api_Diff_vconstraint_Fits_f2_p1_T := slices_IndexFunc_api_Diff_api_Diff_vconstraint_Fits_f2_p1_l constraint_Fits_f2 m
theorem slices_IndexFunc_api_Diff_api_Diff_vconstraint_Fits_f2_p1_step {β : Type} (i : Nat) (k1 k2 s t7 t8 b0_) : (slices_IndexFunc_api_Diff_api_Diff_vconstraint_Fits_f2_p1_n (i + 1) k1 k2 s t7 t8 b0_ : Option β) = slices_IndexFunc_api_Diff_api_Diff_vconstraint_Fits_f2_p1_s constraint_Fits_f2 (slices_IndexFunc_api_Diff_api_Diff_vconstraint_Fits_f2_p1_n i k1 k2) k1 k2 s t7 t8 b0_ := rfl
def slices_IndexFunc_api_Diff_api_Diff_vconstraint_Fits_f2_p1 : slices_IndexFunc_api_Diff_api_Diff_vconstraint_Fits_f2_p1_T := slices_IndexFunc_api_Diff_api_Diff_vconstraint_Fits_f2_p1_n fuel
theorem slices_IndexFunc_api_Diff_api_Diff_vconstraint_Fits_f2_p1_ok : PieceOk Try.prog 19 1 slices_IndexFunc_api_Diff_api_Diff_vconstraint_Fits_f2_p1_code slices_IndexFunc_api_Diff_api_Diff_vconstraint_Fits_f2_p1_v slices_IndexFunc_api_Diff_api_Diff_vconstraint_Fits_f2_p1_o (slices_IndexFunc_api_Diff_api_Diff_vconstraint_Fits_f2_p1_G slices_IndexFunc_api_Diff_api_Diff_vconstraint_Fits_f2_p1) := slices_IndexFunc_api_Diff_api_Diff_vconstraint_Fits_f2_p1_ok' constraint_Fits_f2 slices_IndexFunc_api_Diff_api_Diff_vconstraint_Fits_f2_Γ fuel
def slices_IndexFunc_api_Diff_api_Diff_vconstraint_Fits_f2 : T_slices_IndexFunc_api_Diff_api_Diff_vconstraint_Fits_f2 := slices_IndexFunc_api_Diff_api_Diff_vconstraint_Fits_f2_s slices_IndexFunc_api_Diff_api_Diff_vconstraint_Fits_f2_p1
theorem slices_IndexFunc_api_Diff_api_Diff_vconstraint_Fits_f2_ok : SpecOk Try.prog 83 (slices_IndexFunc_api_Diff_api_Diff_vconstraint_Fits_f2_S slices_IndexFunc_api_Diff_api_Diff_vconstraint_Fits_f2) := slices_IndexFunc_api_Diff_api_Diff_vconstraint_Fits_f2_ok' constraint_Fits_f2 slices_IndexFunc_api_Diff_api_Diff_vconstraint_Fits_f2_Γ slices_IndexFunc_api_Diff_api_Diff_vconstraint_Fits_f2_p1 slices_IndexFunc_api_Diff_api_Diff_vconstraint_Fits_f2_p1_ok

/-- slices.ContainsFunc[[]pagewatch/api.Diff,pagewatch/api.Diff] -/
abbrev T_slices_ContainsFunc_api_Diff_api_Diff_vconstraint_Fits_f2 := {β : Type} → (List (Int × (Int × Int))) → (List Int) → (Bool → (List Int) → Option β) → Option β
def slices_ContainsFunc_api_Diff_api_Diff_vconstraint_Fits_f2_S (c : T_slices_ContainsFunc_api_Diff_api_Diff_vconstraint_Fits_f2) : Spec :=
  ⟨[(false, [.data (.slice (.prod (.int .i64) (.prod (.int .i64) (.int .i64))))]), (false, [.fn 79 [0]])], [.cells 27 [.data (.slice (.int .i64))]], [(false, [.data .bool])], [.cells 27 [.data (.slice (.int .i64))]], fun x k => c x.1.1.1 x.2.1.1 (fun r0 r1 => k (((r0, ()), ()), ((r1, ()), ())))⟩
section
variable (c_slices_IndexFunc_api_Diff_api_Diff_vconstraint_Fits_f2 : T_slices_IndexFunc_api_Diff_api_Diff_vconstraint_Fits_f2)
@[reducible] def slices_ContainsFunc_api_Diff_api_Diff_vconstraint_Fits_f2_X : Ctx := ⟨look tab, pick1 [(83, .spec (slices_IndexFunc_api_Diff_api_Diff_vconstraint_Fits_f2_S c_slices_IndexFunc_api_Diff_api_Diff_vconstraint_Fits_f2))], false⟩
def slices_ContainsFunc_api_Diff_api_Diff_vconstraint_Fits_f2_s {β : Type} (s : List (Int × (Int × Int))) (b0_ : List Int) (k : (Bool → (List Int) → Option β)) : Option β :=
  c_slices_IndexFunc_api_Diff_api_Diff_vconstraint_Fits_f2 s b0_ (fun (rDiff : Int) (mrDiff : List Int) =>
  let t : Bool := (decide ((0 : Int) ≤ rDiff));
  k t mrDiff)
theorem slices_ContainsFunc_api_Diff_api_Diff_vconstraint_Fits_f2_ok' (hΓ : ΓOk Try.prog (slices_ContainsFunc_api_Diff_api_Diff_vconstraint_Fits_f2_X c_slices_IndexFunc_api_Diff_api_Diff_vconstraint_Fits_f2).Γ) : SpecOk Try.prog 78 (slices_ContainsFunc_api_Diff_api_Diff_vconstraint_Fits_f2_S (slices_ContainsFunc_api_Diff_api_Diff_vconstraint_Fits_f2_s c_slices_IndexFunc_api_Diff_api_Diff_vconstraint_Fits_f2)) :=
  spec_exec (X := (slices_ContainsFunc_api_Diff_api_Diff_vconstraint_Fits_f2_X c_slices_IndexFunc_api_Diff_api_Diff_vconstraint_Fits_f2)) (Λ := pick1 []) (rs := [.tmp 4]) (c := bodyOf Try.f78) mixed tab_ok hΓ Try.func78 (by kernel_rfl) (by kernel_rfl) (by kernel_rfl) (by kernel_rfl) CutsOk_nil (fun x k r h => Eq.trans (b := (slices_ContainsFunc_api_Diff_api_Diff_vconstraint_Fits_f2_S (slices_ContainsFunc_api_Diff_api_Diff_vconstraint_Fits_f2_s c_slices_IndexFunc_api_Diff_api_Diff_vconstraint_Fits_f2)).run x k) (by kernel_rfl) h)
end
theorem slices_ContainsFunc_api_Diff_api_Diff_vconstraint_Fits_f2_Γ : ΓOk Try.prog (pick1 [(83, .spec (slices_IndexFunc_api_Diff_api_Diff_vconstraint_Fits_f2_S slices_IndexFunc_api_Diff_api_Diff_vconstraint_Fits_f2))]) := (ΓOk_cons slices_IndexFunc_api_Diff_api_Diff_vconstraint_Fits_f2_ok ΓOk_nil)
def slices_ContainsFunc_api_Diff_api_Diff_vconstraint_Fits_f2 : T_slices_ContainsFunc_api_Diff_api_Diff_vconstraint_Fits_f2 := slices_ContainsFunc_api_Diff_api_Diff_vconstraint_Fits_f2_s slices_IndexFunc_api_Diff_api_Diff_vconstraint_Fits_f2
theorem slices_ContainsFunc_api_Diff_api_Diff_vconstraint_Fits_f2_ok : SpecOk Try.prog 78 (slices_ContainsFunc_api_Diff_api_Diff_vconstraint_Fits_f2_S slices_ContainsFunc_api_Diff_api_Diff_vconstraint_Fits_f2) := slices_ContainsFunc_api_Diff_api_Diff_vconstraint_Fits_f2_ok' slices_IndexFunc_api_Diff_api_Diff_vconstraint_Fits_f2 slices_ContainsFunc_api_Diff_api_Diff_vconstraint_Fits_f2_Γ

/-- pagewatch/constraint.Fits -/
abbrev T_constraint_Fits := {β : Type} → Int → (List (Int × (Int × Int))) → (List Int) → (Bool → Option β) → Option β
def constraint_Fits_S (c : T_constraint_Fits) : Spec :=
  ⟨[(false, [.data (.int .i64)]), (false, [.data (.slice (.prod (.int .i64) (.prod (.int .i64) (.int .i64))))]), (false, [.data (.slice (.int .i64))])], [], [(false, [.data .bool])], [], fun x k => c x.1.1.1 x.1.2.1.1 x.1.2.2.1.1 (fun r0 => k (((r0, ()), ()), ()))⟩
section
variable (c_constraint_Valid : T_constraint_Valid) (c_slices_ContainsFunc_api_Diff_api_Diff_vconstraint_Fits_f2 : T_slices_ContainsFunc_api_Diff_api_Diff_vconstraint_Fits_f2) (c_slices_ContainsFunc_int_int_vconstraint_Fits_f1 : T_slices_ContainsFunc_int_int_vconstraint_Fits_f1)
@[reducible] def constraint_Fits_X : Ctx := ⟨look tab, pick1 [(75, .spec (constraint_Valid_S c_constraint_Valid)), (78, .spec (slices_ContainsFunc_api_Diff_api_Diff_vconstraint_Fits_f2_S c_slices_ContainsFunc_api_Diff_api_Diff_vconstraint_Fits_f2)), (65, .spec (slices_ContainsFunc_int_int_vconstraint_Fits_f1_S c_slices_ContainsFunc_int_int_vconstraint_Fits_f1))], false⟩
def constraint_Fits_s {β : Type} (n : Int) (l : List (Int × (Int × Int))) (x : List Int) (k : (Bool → Option β)) : Option β :=
  c_constraint_Valid n l (fun (rValid : Bool) =>
  cond (!rValid)
  (k false)
  (cond (!decide ((List.length x : Int) = n))
  (k false)
  (c_slices_ContainsFunc_int_int_vconstraint_Fits_f1 x (fun (rContainsFuncintint : Bool) =>
  cond rContainsFuncintint
  (k false)
  (c_slices_ContainsFunc_api_Diff_api_Diff_vconstraint_Fits_f2 l x (fun (rDiff : Bool) (mrDiff : List Int) =>
  k (!rDiff)))))))
theorem constraint_Fits_ok' (hΓ : ΓOk Try.prog (constraint_Fits_X c_constraint_Valid c_slices_ContainsFunc_api_Diff_api_Diff_vconstraint_Fits_f2 c_slices_ContainsFunc_int_int_vconstraint_Fits_f1).Γ) : SpecOk Try.prog 68 (constraint_Fits_S (constraint_Fits_s c_constraint_Valid c_slices_ContainsFunc_api_Diff_api_Diff_vconstraint_Fits_f2 c_slices_ContainsFunc_int_int_vconstraint_Fits_f1)) :=
  spec_exec (X := (constraint_Fits_X c_constraint_Valid c_slices_ContainsFunc_api_Diff_api_Diff_vconstraint_Fits_f2 c_slices_ContainsFunc_int_int_vconstraint_Fits_f1)) (Λ := pick1 []) (rs := [.tmp 6]) (c := bodyOf Try.f68) mixed tab_ok hΓ Try.func68 (by kernel_rfl) (by kernel_rfl) (by kernel_rfl) (by kernel_rfl) CutsOk_nil (fun x k r h => Eq.trans (b := (constraint_Fits_S (constraint_Fits_s c_constraint_Valid c_slices_ContainsFunc_api_Diff_api_Diff_vconstraint_Fits_f2 c_slices_ContainsFunc_int_int_vconstraint_Fits_f1)).run x k) (by kernel_rfl) h)
end
theorem constraint_Fits_Γ : ΓOk Try.prog (pick1 [(75, .spec (constraint_Valid_S constraint_Valid)), (78, .spec (slices_ContainsFunc_api_Diff_api_Diff_vconstraint_Fits_f2_S slices_ContainsFunc_api_Diff_api_Diff_vconstraint_Fits_f2)), (65, .spec (slices_ContainsFunc_int_int_vconstraint_Fits_f1_S slices_ContainsFunc_int_int_vconstraint_Fits_f1))]) := (ΓOk_cons constraint_Valid_ok (ΓOk_cons slices_ContainsFunc_api_Diff_api_Diff_vconstraint_Fits_f2_ok (ΓOk_cons slices_ContainsFunc_int_int_vconstraint_Fits_f1_ok ΓOk_nil)))
def constraint_Fits : T_constraint_Fits := constraint_Fits_s constraint_Valid slices_ContainsFunc_api_Diff_api_Diff_vconstraint_Fits_f2 slices_ContainsFunc_int_int_vconstraint_Fits_f1
theorem constraint_Fits_ok : SpecOk Try.prog 68 (constraint_Fits_S constraint_Fits) := constraint_Fits_ok' constraint_Valid slices_ContainsFunc_api_Diff_api_Diff_vconstraint_Fits_f2 slices_ContainsFunc_int_int_vconstraint_Fits_f1 constraint_Fits_Γ

/-- pagewatch/order.Fits -/
abbrev T_order_Fits := {β : Type} → api_Record → (List Int) → (Bool → Option β) → Option β
def order_Fits_S (c : T_order_Fits) : Spec :=
  ⟨[(true, [.data y_api_Record]), (false, [.data (.slice (.int .i64))])], [], [(false, [.data .bool])], [], fun x k => c x.1.1.1 x.1.2.1.1 (fun r0 => k (((r0, ()), ()), ()))⟩
section
variable (c_constraint_Fits : T_constraint_Fits) (c_order_Consistent : T_order_Consistent) (c_order_Constraints : T_order_Constraints) (c_slices_ContainsFunc_int_int_vorder_Fits_f1 : T_slices_ContainsFunc_int_int_vorder_Fits_f1)
@[reducible] def order_Fits_X : Ctx := ⟨look tab, pick1 [(68, .spec (constraint_Fits_S c_constraint_Fits)), (42, .spec (order_Consistent_S c_order_Consistent)), (64, .spec (order_Constraints_S c_order_Constraints)), (65, .spec (slices_ContainsFunc_int_int_vorder_Fits_f1_S c_slices_ContainsFunc_int_int_vorder_Fits_f1))], false⟩
def order_Fits_s {β : Type} (r_ : api_Record) (times : List Int) (k : (Bool → Option β)) : Option β :=
  c_order_Constraints r_ (fun (rConstraints : Bool) (lrConstraints : List (Int × (Int × Int))) =>
  c_order_Consistent r_ (fun (rConsistent : Bool) =>
  cond (!rConsistent)
  (k false)
  (cond (!decide ((List.length times : Int) = (List.length r_.2.2.1 : Int)))
  (k false)
  (c_slices_ContainsFunc_int_int_vorder_Fits_f1 times (fun (rContainsFuncintint : Bool) =>
  cond rContainsFuncintint
  (k false)
  (let l : List Int := ([(0 : Int)] : List Int);
  cond (decide ((List.length l + List.length times) * 8 ≤ roomMax))
  (let l2 : List Int := (l ++ times);
  c_constraint_Fits (IntKind.i64.wrap ((List.length times : Int) + (1 : Int))) lrConstraints l2 (fun (rFits : Bool) =>
  k rFits))
  none))))))
theorem order_Fits_ok' (hΓ : ΓOk Try.prog (order_Fits_X c_constraint_Fits c_order_Consistent c_order_Constraints c_slices_ContainsFunc_int_int_vorder_Fits_f1).Γ) : SpecOk Try.prog 44 (order_Fits_S (order_Fits_s c_constraint_Fits c_order_Consistent c_order_Constraints c_slices_ContainsFunc_int_int_vorder_Fits_f1)) :=
  spec_exec (X := (order_Fits_X c_constraint_Fits c_order_Consistent c_order_Constraints c_slices_ContainsFunc_int_int_vorder_Fits_f1)) (Λ := pick1 []) (rs := [.tmp 4]) (c := bodyOf Try.f44) mixed tab_ok hΓ Try.func44 (by kernel_rfl) (by kernel_rfl) (by kernel_rfl) (by kernel_rfl) CutsOk_nil (fun x k r h => Eq.trans (b := (order_Fits_S (order_Fits_s c_constraint_Fits c_order_Consistent c_order_Constraints c_slices_ContainsFunc_int_int_vorder_Fits_f1)).run x k) (by kernel_rfl) h)
end
theorem order_Fits_Γ : ΓOk Try.prog (pick1 [(68, .spec (constraint_Fits_S constraint_Fits)), (42, .spec (order_Consistent_S order_Consistent)), (64, .spec (order_Constraints_S order_Constraints)), (65, .spec (slices_ContainsFunc_int_int_vorder_Fits_f1_S slices_ContainsFunc_int_int_vorder_Fits_f1))]) := (ΓOk_cons constraint_Fits_ok (ΓOk_cons order_Consistent_ok (ΓOk_cons order_Constraints_ok (ΓOk_cons slices_ContainsFunc_int_int_vorder_Fits_f1_ok ΓOk_nil))))
def order_Fits : T_order_Fits := order_Fits_s constraint_Fits order_Consistent order_Constraints slices_ContainsFunc_int_int_vorder_Fits_f1
theorem order_Fits_ok : SpecOk Try.prog 44 (order_Fits_S order_Fits) := order_Fits_ok' constraint_Fits order_Consistent order_Constraints slices_ContainsFunc_int_int_vorder_Fits_f1 order_Fits_Γ

/-- pagewatch/pagewatchlaw40.OrderTrue -/
abbrev T_law40_OrderTrue := {β : Type} → (List Int) → (Bool → Option β) → Option β
def law40_OrderTrue_S (c : T_law40_OrderTrue) : Spec :=
  ⟨[(false, [.data (.slice (.int .i64))])], [], [(false, [.data .bool])], [], fun x k => c x.1.1.1 (fun r0 => k (((r0, ()), ()), ()))⟩
noncomputable def law40_OrderTrue_p2_code : Code := codeAt 1018 (bodyOf Try.f12)
noncomputable def law40_OrderTrue_p1_code : Code := codeAt 462 (loopBody law40_OrderTrue_p2_code)
abbrev law40_OrderTrue_p1_K1 (β : Type) := Bool → Option β
abbrev law40_OrderTrue_p1_K2 (β : Type) := Int → Int → (List (List UInt8 × Int)) → (List (Int × (Int × (Int × Int)))) → (List api_Event) → (List (Int × (Int × Int))) → (List Int) → (List (Int × Int)) → Option β
abbrev law40_OrderTrue_p1_T := {β : Type} → law40_OrderTrue_p1_K1 β → law40_OrderTrue_p1_K2 β → Int → Int → Int → Int → Int → (List (List UInt8 × Int)) → (List (Int × (Int × (Int × Int)))) → (List api_Event) → (List (Int × (Int × Int))) → (List Int) → (List (Int × Int)) → Option β
def law40_OrderTrue_p1_v : View := ⟨0, [4, 5, 6, 8, 52, 53, 79, 80], [(false, [.ptr 0 0]), (false, [.rowh 1]), (false, [.rowh 2]), (false, [.data (.int .i64)]), (false, [.data (.int .i64)]), (false, [.data (.int .i64)]), (false, [.data (.int .i64)]), (false, [.data (.int .i64)])], [.cells 41 [.data (.slice (.prod .str (.int .i64))), .data (.slice (.prod (.int .i64) (.prod (.int .i64) (.prod (.int .i64) (.int .i64))))), .data (.slice y_api_Event), .data (.slice (.prod (.int .i64) (.prod (.int .i64) (.int .i64))))], .row 3 (.int .i64), .row 45 (.prod (.int .i64) (.int .i64))]⟩
def law40_OrderTrue_p1_o : List (AExit × View) := [(.ret, ⟨0, [2], [(false, [.data .bool])], []⟩), (.exit 2, ⟨0, [4, 5, 6, 52, 53], [(false, [.ptr 0 0]), (false, [.rowh 1]), (false, [.rowh 2]), (false, [.data (.int .i64)]), (false, [.data (.int .i64)])], [.cells 41 [.data (.slice (.prod .str (.int .i64))), .data (.slice (.prod (.int .i64) (.prod (.int .i64) (.prod (.int .i64) (.int .i64))))), .data (.slice y_api_Event), .data (.slice (.prod (.int .i64) (.prod (.int .i64) (.int .i64))))], .row 3 (.int .i64), .row 45 (.prod (.int .i64) (.int .i64))]⟩)]
@[reducible] def law40_OrderTrue_p1_G (p : law40_OrderTrue_p1_T) {β : Type} (d : law40_OrderTrue_p1_v.den) (ks : Outs.K β law40_OrderTrue_p1_o) : Option β :=
  p (fun a0 => ks.1 (((a0, ()), ()), ())) (fun a0 a1 a2 a3 a4 a5 a6 a7 => ks.2.1 (((), (), (), (a0, ()), (a1, ()), ()), ((a2, a3, a4, a5, ()), a6, a7, ()))) d.1.2.2.2.1.1 d.1.2.2.2.2.1.1 d.1.2.2.2.2.2.1.1 d.1.2.2.2.2.2.2.1.1 d.1.2.2.2.2.2.2.2.1.1 d.2.1.1 d.2.1.2.1 d.2.1.2.2.1 d.2.1.2.2.2.1 d.2.2.1 d.2.2.2.1
abbrev law40_OrderTrue_p2_K1 (β : Type) := Bool → Option β
abbrev law40_OrderTrue_p2_K2 (β : Type) := Unit → Option β
abbrev law40_OrderTrue_p2_T := {β : Type} → law40_OrderTrue_p2_K1 β → law40_OrderTrue_p2_K2 β → Int → Int → (List (List UInt8 × Int)) → (List (Int × (Int × (Int × Int)))) → (List api_Event) → (List (Int × (Int × Int))) → (List Int) → (List (Int × Int)) → Option β
def law40_OrderTrue_p2_v : View := ⟨0, [4, 5, 6, 52, 53], [(false, [.ptr 0 0]), (false, [.rowh 1]), (false, [.rowh 2]), (false, [.data (.int .i64)]), (false, [.data (.int .i64)])], [.cells 41 [.data (.slice (.prod .str (.int .i64))), .data (.slice (.prod (.int .i64) (.prod (.int .i64) (.prod (.int .i64) (.int .i64))))), .data (.slice y_api_Event), .data (.slice (.prod (.int .i64) (.prod (.int .i64) (.int .i64))))], .row 3 (.int .i64), .row 45 (.prod (.int .i64) (.int .i64))]⟩
def law40_OrderTrue_p2_o : List (AExit × View) := [(.ret, ⟨0, [2], [(false, [.data .bool])], []⟩), (.exit 0, ⟨0, [], [], []⟩)]
@[reducible] def law40_OrderTrue_p2_G (p : law40_OrderTrue_p2_T) {β : Type} (d : law40_OrderTrue_p2_v.den) (ks : Outs.K β law40_OrderTrue_p2_o) : Option β :=
  p (fun a0 => ks.1 (((a0, ()), ()), ())) (fun _ => ks.2.1 ((), ())) d.1.2.2.2.1.1 d.1.2.2.2.2.1.1 d.2.1.1 d.2.1.2.1 d.2.1.2.2.1 d.2.1.2.2.2.1 d.2.2.1 d.2.2.2.1
section
variable (c_law40_sane : T_law40_sane) (c_made_Dice_Record : T_made_Dice_Record) (c_made_Light : T_made_Light) (c_made_Roll : T_made_Roll) (c_order_Compare : T_order_Compare) (c_order_Consistent : T_order_Consistent) (c_order_Fits : T_order_Fits) (c_order_Gap : T_order_Gap) (c_order_When : T_order_When)
@[reducible] def law40_OrderTrue_X : Ctx := ⟨look tab, pick1 [(39, .spec (law40_sane_S c_law40_sane)), (25, .spec (made_Dice_Record_S c_made_Dice_Record)), (17, .spec (made_Light_S c_made_Light)), (18, .spec (made_Roll_S c_made_Roll)), (40, .spec (order_Compare_S c_order_Compare)), (42, .spec (order_Consistent_S c_order_Consistent)), (44, .spec (order_Fits_S c_order_Fits)), (45, .spec (order_Gap_S c_order_Gap)), (43, .spec (order_When_S c_order_When))], false⟩
def law40_OrderTrue_p1_s {β : Type} (rec : Int → Int → Int → Int → Int → (List (List UInt8 × Int)) → (List (Int × (Int × (Int × Int)))) → (List api_Event) → (List (Int × (Int × Int))) → (List Int) → (List (Int × Int)) → Option β) (k1 : law40_OrderTrue_p1_K1 β) (k2 : law40_OrderTrue_p1_K2 β) (i_ : Int) (t52 : Int) (t53 : Int) (t79 : Int) (t80 : Int) (r_ : List (List UInt8 × Int)) (r_2 : List (Int × (Int × (Int × Int)))) (r_3 : List api_Event) (r_4 : List (Int × (Int × Int))) (times : List Int) (w : List (Int × Int)) : Option β :=
  cond (decide (t80 < t79))
  (c_order_Gap (r_, (r_2, (r_3, r_4))) i_ t80 (fun (rGap : (Int × Int)) (rGap2 : Bool) =>
  c_order_Compare (r_, (r_2, (r_3, r_4))) i_ t80 (fun (rCompare : Int) (rCompare2 : Bool) =>
  cond (decide (0 ≤ t80) && decide (t80 < (List.length times : Int)))
  (cond (decide (0 ≤ i_) && decide (i_ < (List.length times : Int)))
  (let gap : Int := (IntKind.i64.wrap ((List.getD times (Int.toNat t80) (0 : Int)) - (List.getD times (Int.toNat i_) (0 : Int))));
  cond (!rGap2)
  (k1 false)
  (cond (!rCompare2)
  (k1 false)
  (cond (decide (gap < rGap.1))
  (k1 false)
  (cond (decide (rGap.2 < gap))
  (k1 false)
  (cond (decide (rCompare = (-1 : Int)))
  (cond (decide (gap ≤ (0 : Int)))
  (k1 false)
  (cond (decide (rCompare = (1 : Int)))
  (cond (decide ((0 : Int) ≤ gap))
  (k1 false)
  (rec i_ t52 t53 t79 (IntKind.i64.wrap (t80 + (1 : Int))) r_ r_2 r_3 r_4 times w))
  (rec i_ t52 t53 t79 (IntKind.i64.wrap (t80 + (1 : Int))) r_ r_2 r_3 r_4 times w)))
  (cond (decide (rCompare = (1 : Int)))
  (cond (decide ((0 : Int) ≤ gap))
  (k1 false)
  (rec i_ t52 t53 t79 (IntKind.i64.wrap (t80 + (1 : Int))) r_ r_2 r_3 r_4 times w))
  (rec i_ t52 t53 t79 (IntKind.i64.wrap (t80 + (1 : Int))) r_ r_2 r_3 r_4 times w)))))))
  none)
  none)))
  (k2 t52 t53 r_ r_2 r_3 r_4 times w)
def law40_OrderTrue_p1_l {β : Type} : Nat → law40_OrderTrue_p1_K1 β → law40_OrderTrue_p1_K2 β → Int → Int → Int → Int → Int → (List (List UInt8 × Int)) → (List (Int × (Int × (Int × Int)))) → (List api_Event) → (List (Int × (Int × Int))) → (List Int) → (List (Int × Int)) → Option β
  | 0 => fun _ _ _ _ _ _ _ _ _ _ _ _ _ => none
  | i + 1 => fun k1 k2 i_ t52 t53 t79 t80 r_ r_2 r_3 r_4 times w => law40_OrderTrue_p1_s c_order_Compare c_order_Gap (law40_OrderTrue_p1_l i k1 k2) k1 k2 i_ t52 t53 t79 t80 r_ r_2 r_3 r_4 times w
theorem law40_OrderTrue_p1_ok' (hΓ : ΓOk Try.prog (law40_OrderTrue_X c_law40_sane c_made_Dice_Record c_made_Light c_made_Roll c_order_Compare c_order_Consistent c_order_Fits c_order_Gap c_order_When).Γ) (i : Nat) : PieceOk Try.prog 143 0 law40_OrderTrue_p1_code law40_OrderTrue_p1_v law40_OrderTrue_p1_o (law40_OrderTrue_p1_G (law40_OrderTrue_p1_l c_order_Compare c_order_Gap i)) := by
  rw [show law40_OrderTrue_p1_code = .loop (loopBody law40_OrderTrue_p1_code) by kernel_rfl]
  exact piece_loop (X := (law40_OrderTrue_X c_law40_sane c_made_Dice_Record c_made_Light c_made_Roll c_order_Compare c_order_Consistent c_order_Fits c_order_Gap c_order_When)) (p := 1) (Λ := pick1 []) (G := fun i => @fun β d ks => law40_OrderTrue_p1_G (law40_OrderTrue_p1_l c_order_Compare c_order_Gap i) d ks) mixed tab_ok hΓ rfl (by kernel_rfl) CutsOk_nil (fun _ _ => rfl) (fun i => @fun β d ks r h => Eq.trans (b := law40_OrderTrue_p1_G (law40_OrderTrue_p1_l c_order_Compare c_order_Gap (i + 1)) d ks) (by kernel_rfl) h) i
def law40_OrderTrue_p2_s (p1 : law40_OrderTrue_p1_T) {β : Type} (rec : Int → Int → (List (List UInt8 × Int)) → (List (Int × (Int × (Int × Int)))) → (List api_Event) → (List (Int × (Int × Int))) → (List Int) → (List (Int × Int)) → Option β) (k1 : law40_OrderTrue_p2_K1 β) (k2 : law40_OrderTrue_p2_K2 β) (t52 : Int) (t53 : Int) (r_ : List (List UInt8 × Int)) (r_2 : List (Int × (Int × (Int × Int)))) (r_3 : List api_Event) (r_4 : List (Int × (Int × Int))) (times : List Int) (w : List (Int × Int)) : Option β :=
  cond (decide (t53 < t52))
  (cond (decide (0 ≤ t53) && decide (t53 < (List.length times : Int)))
  (cond (decide (0 ≤ t53) && decide (t53 < (List.length w : Int)))
  (cond (decide ((List.getD times (Int.toNat t53) (0 : Int)) < ((List.getD w (Int.toNat t53) ((0 : Int), (0 : Int))).1)))
  (k1 false)
  (cond (decide (0 ≤ t53) && decide (t53 < (List.length times : Int)))
  (cond (decide (0 ≤ t53) && decide (t53 < (List.length w : Int)))
  (cond (decide (((List.getD w (Int.toNat t53) ((0 : Int), (0 : Int))).2) < (List.getD times (Int.toNat t53) (0 : Int))))
  (k1 false)
  (p1 (fun (t2 : Bool) =>
  k1 t2) (fun (t522 : Int) (t532 : Int) (r_5 : List (List UInt8 × Int)) (r_6 : List (Int × (Int × (Int × Int)))) (r_7 : List api_Event) (r_8 : List (Int × (Int × Int))) (times2 : List Int) (w2 : List (Int × Int)) =>
  rec t522 (IntKind.i64.wrap (t532 + (1 : Int))) r_5 r_6 r_7 r_8 times2 w2) t53 t52 t53 (List.length times : Int) (0 : Int) r_ r_2 r_3 r_4 times w))
  none)
  none))
  none)
  none)
  (k2 ())
def law40_OrderTrue_p2_l (p1 : law40_OrderTrue_p1_T) {β : Type} : Nat → law40_OrderTrue_p2_K1 β → law40_OrderTrue_p2_K2 β → Int → Int → (List (List UInt8 × Int)) → (List (Int × (Int × (Int × Int)))) → (List api_Event) → (List (Int × (Int × Int))) → (List Int) → (List (Int × Int)) → Option β
  | 0 => fun _ _ _ _ _ _ _ _ _ _ => none
  | i + 1 => fun k1 k2 t52 t53 r_ r_2 r_3 r_4 times w => law40_OrderTrue_p2_s p1 (law40_OrderTrue_p2_l p1 i k1 k2) k1 k2 t52 t53 r_ r_2 r_3 r_4 times w
theorem law40_OrderTrue_p2_ok' (hΓ : ΓOk Try.prog (law40_OrderTrue_X c_law40_sane c_made_Dice_Record c_made_Light c_made_Roll c_order_Compare c_order_Consistent c_order_Fits c_order_Gap c_order_When).Γ) (p1 : law40_OrderTrue_p1_T) (hp1 : PieceOk Try.prog 143 0 law40_OrderTrue_p1_code law40_OrderTrue_p1_v law40_OrderTrue_p1_o (law40_OrderTrue_p1_G p1)) (i : Nat) : PieceOk Try.prog 143 0 law40_OrderTrue_p2_code law40_OrderTrue_p2_v law40_OrderTrue_p2_o (law40_OrderTrue_p2_G (law40_OrderTrue_p2_l p1 i)) := by
  rw [show law40_OrderTrue_p2_code = .loop (loopBody law40_OrderTrue_p2_code) by kernel_rfl]
  exact piece_loop (X := (law40_OrderTrue_X c_law40_sane c_made_Dice_Record c_made_Light c_made_Roll c_order_Compare c_order_Consistent c_order_Fits c_order_Gap c_order_When)) (p := 1) (Λ := pick1 [(462, pieceCut law40_OrderTrue_p1_v law40_OrderTrue_p1_o (law40_OrderTrue_p1_G p1))]) (G := fun i => @fun β d ks => law40_OrderTrue_p2_G (law40_OrderTrue_p2_l p1 i) d ks) mixed tab_ok hΓ rfl (by kernel_rfl) (CutsOk_cons (q := 462) (c' := law40_OrderTrue_p1_code) (by kernel_rfl) rfl hp1 CutsOk_nil) (fun _ _ => rfl) (fun i => @fun β d ks r h => Eq.trans (b := law40_OrderTrue_p2_G (law40_OrderTrue_p2_l p1 (i + 1)) d ks) (by kernel_rfl) h) i
def law40_OrderTrue_s (p2 : law40_OrderTrue_p2_T) {β : Type} (t : List Int) (k : (Bool → Option β)) : Option β :=
  c_made_Light t (fun (rLight : Bool) =>
  cond (!rLight)
  (c_law40_sane  (fun (rsane : Bool) =>
  k rsane))
  (c_made_Roll t (fun (mrRoll : (List Int × Int)) =>
  c_made_Dice_Record (7 : Int) mrRoll (fun (rRecord : api_Record) (mrRecord : (List Int × Int)) (lrRecord : List Int) =>
  c_order_When rRecord (fun (rWhen : Bool) (lrWhen : List (Int × Int)) =>
  cond (!rWhen)
  (k false)
  (c_order_Consistent rRecord (fun (rConsistent : Bool) =>
  cond (!rConsistent)
  (k false)
  (c_order_Fits rRecord lrRecord (fun (rFits : Bool) =>
  cond (!rFits)
  (k false)
  (cond (!decide ((List.length lrWhen : Int) = (List.length lrRecord : Int)))
  (k false)
  (p2 (fun (t2 : Bool) =>
  k t2) (fun (_ : Unit) =>
  c_law40_sane  (fun (rsane : Bool) =>
  k rsane)) (List.length lrRecord : Int) (0 : Int) rRecord.1 rRecord.2.1 rRecord.2.2.1 rRecord.2.2.2 lrRecord lrWhen)))))))))))
theorem law40_OrderTrue_ok' (hΓ : ΓOk Try.prog (law40_OrderTrue_X c_law40_sane c_made_Dice_Record c_made_Light c_made_Roll c_order_Compare c_order_Consistent c_order_Fits c_order_Gap c_order_When).Γ) (p2 : law40_OrderTrue_p2_T) (hp2 : PieceOk Try.prog 143 0 law40_OrderTrue_p2_code law40_OrderTrue_p2_v law40_OrderTrue_p2_o (law40_OrderTrue_p2_G p2)) : SpecOk Try.prog 12 (law40_OrderTrue_S (law40_OrderTrue_s c_law40_sane c_made_Dice_Record c_made_Light c_made_Roll c_order_Consistent c_order_Fits c_order_When p2)) :=
  spec_exec (X := (law40_OrderTrue_X c_law40_sane c_made_Dice_Record c_made_Light c_made_Roll c_order_Compare c_order_Consistent c_order_Fits c_order_Gap c_order_When)) (Λ := pick1 [(1018, pieceCut law40_OrderTrue_p2_v law40_OrderTrue_p2_o (law40_OrderTrue_p2_G p2))]) (rs := [.tmp 2]) (c := bodyOf Try.f12) mixed tab_ok hΓ Try.func12 (by kernel_rfl) (by kernel_rfl) (by kernel_rfl) (by kernel_rfl) (CutsOk_cons (q := 1018) (c' := law40_OrderTrue_p2_code) (by kernel_rfl) rfl hp2 CutsOk_nil) (fun x k r h => Eq.trans (b := (law40_OrderTrue_S (law40_OrderTrue_s c_law40_sane c_made_Dice_Record c_made_Light c_made_Roll c_order_Consistent c_order_Fits c_order_When p2)).run x k) (by kernel_rfl) h)
end
theorem law40_OrderTrue_Γ : ΓOk Try.prog (pick1 [(39, .spec (law40_sane_S law40_sane)), (25, .spec (made_Dice_Record_S made_Dice_Record)), (17, .spec (made_Light_S made_Light)), (18, .spec (made_Roll_S made_Roll)), (40, .spec (order_Compare_S order_Compare)), (42, .spec (order_Consistent_S order_Consistent)), (44, .spec (order_Fits_S order_Fits)), (45, .spec (order_Gap_S order_Gap)), (43, .spec (order_When_S order_When))]) := (ΓOk_cons law40_sane_ok (ΓOk_cons made_Dice_Record_ok (ΓOk_cons made_Light_ok (ΓOk_cons made_Roll_ok (ΓOk_cons order_Compare_ok (ΓOk_cons order_Consistent_ok (ΓOk_cons order_Fits_ok (ΓOk_cons order_Gap_ok (ΓOk_cons order_When_ok ΓOk_nil)))))))))
def law40_OrderTrue_p1_n (m : Nat) : law40_OrderTrue_p1_T := law40_OrderTrue_p1_l order_Compare order_Gap m
theorem law40_OrderTrue_p1_step {β : Type} (i : Nat) (k1 k2 i_ t52 t53 t79 t80 r_ r_2 r_3 r_4 times w) : (law40_OrderTrue_p1_n (i + 1) k1 k2 i_ t52 t53 t79 t80 r_ r_2 r_3 r_4 times w : Option β) = law40_OrderTrue_p1_s order_Compare order_Gap (law40_OrderTrue_p1_n i k1 k2) k1 k2 i_ t52 t53 t79 t80 r_ r_2 r_3 r_4 times w := rfl
def law40_OrderTrue_p1 : law40_OrderTrue_p1_T := law40_OrderTrue_p1_n fuel
theorem law40_OrderTrue_p1_ok : PieceOk Try.prog 143 0 law40_OrderTrue_p1_code law40_OrderTrue_p1_v law40_OrderTrue_p1_o (law40_OrderTrue_p1_G law40_OrderTrue_p1) := law40_OrderTrue_p1_ok' law40_sane made_Dice_Record made_Light made_Roll order_Compare order_Consistent order_Fits order_Gap order_When law40_OrderTrue_Γ fuel
def law40_OrderTrue_p2_n (m : Nat) : law40_OrderTrue_p2_T := law40_OrderTrue_p2_l law40_OrderTrue_p1 m
theorem law40_OrderTrue_p2_step {β : Type} (i : Nat) (k1 k2 t52 t53 r_ r_2 r_3 r_4 times w) : (law40_OrderTrue_p2_n (i + 1) k1 k2 t52 t53 r_ r_2 r_3 r_4 times w : Option β) = law40_OrderTrue_p2_s law40_OrderTrue_p1 (law40_OrderTrue_p2_n i k1 k2) k1 k2 t52 t53 r_ r_2 r_3 r_4 times w := rfl
def law40_OrderTrue_p2 : law40_OrderTrue_p2_T := law40_OrderTrue_p2_n fuel
theorem law40_OrderTrue_p2_ok : PieceOk Try.prog 143 0 law40_OrderTrue_p2_code law40_OrderTrue_p2_v law40_OrderTrue_p2_o (law40_OrderTrue_p2_G law40_OrderTrue_p2) := law40_OrderTrue_p2_ok' law40_sane made_Dice_Record made_Light made_Roll order_Compare order_Consistent order_Fits order_Gap order_When law40_OrderTrue_Γ law40_OrderTrue_p1 law40_OrderTrue_p1_ok fuel
def law40_OrderTrue : T_law40_OrderTrue := law40_OrderTrue_s law40_sane made_Dice_Record made_Light made_Roll order_Consistent order_Fits order_When law40_OrderTrue_p2
theorem law40_OrderTrue_ok : SpecOk Try.prog 12 (law40_OrderTrue_S law40_OrderTrue) := law40_OrderTrue_ok' law40_sane made_Dice_Record made_Light made_Roll order_Compare order_Consistent order_Fits order_Gap order_When law40_OrderTrue_Γ law40_OrderTrue_p2 law40_OrderTrue_p2_ok
end
end Go.Lift
