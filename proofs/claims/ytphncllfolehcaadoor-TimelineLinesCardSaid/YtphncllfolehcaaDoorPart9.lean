/- Part9: Fn1, LBase, LSane41, LMat, LClock, LDice, LDice1, LRecord, LWhen, LClose, LValid, LDirect, LClosure, LClosure2, LClosure3, LCons, LOrder, LOrder2, LClockRef, LRef39, LFits, LOrder3, LOrder4, LOrder5. -/
import Derived.Test.YtphncllfolehcaaDoorProg
import Derived.KernelRfl
import Derived.Test.YtphncllfolehcaaDoorPart8
namespace Go.Lift
open Go.Proofs
noncomputable section
set_option maxRecDepth 100000
set_option linter.unusedVariables false

/-- pagewatch/order.Sort -/
abbrev zqhr := {β : Type} → zq2 → (Bool → (List Int) → Option β) → Option β
def zqhs (c : zqhr) : Spec :=
  ⟨[(true, [.data zq3])], [], [(false, [.rowh 0]), (false, [.data .bool])], [.row 3 (.int .i64)], fun x k => c x.1.1.1 (fun r0 r1 => k (((), (r0, ()), ()), (r1, ())))⟩
noncomputable def order_Sort_p3_code : Code := codeAt 506 (bodyOf Tryd.f15)
noncomputable def order_Sort_p2_code : Code := codeAt 458 (loopBody order_Sort_p3_code)
noncomputable def order_Sort_p1_code : Code := codeAt 922 (loopBody order_Sort_p2_code)
abbrev zqht (β : Type) := (List (List Int)) → Int → Int → Bool → Int → Int → Int → Int → (List (List UInt8 × Int)) → (List (Int × (Int × (Int × Int)))) → (List zq0) → (List (Int × (Int × Int))) → (List (Int × Bool)) → (List Int) → Option β
abbrev zqhu := {β : Type} → zqht β → (List (List Int)) → Int → Int → Bool → Int → Int → Int → Int → Int → Int → (List (List UInt8 × Int)) → (List (Int × (Int × (Int × Int)))) → (List zq0) → (List (Int × (Int × Int))) → (List (Int × Bool)) → (List Int) → Option β
def zqhv : View := ⟨0, [1, 4, 6, 7, 8, 9, 10, 22, 23, 27, 28, 37, 38], [(false, [.ptr 0 0]), (false, [.data (.slice (.slice (.int .i64)))]), (false, [.maph 1]), (false, [.rowh 2]), (false, [.data (.int .i64)]), (false, [.data (.int .i64)]), (false, [.data .bool]), (false, [.data (.int .i64)]), (false, [.data (.int .i64)]), (false, [.data (.int .i64)]), (false, [.data (.int .i64)]), (false, [.data (.int .i64)]), (false, [.data (.int .i64)])], [.cells 32 [.data (.slice (.prod .str (.int .i64))), .data (.slice (.prod (.int .i64) (.prod (.int .i64) (.prod (.int .i64) (.int .i64))))), .data (.slice zq1), .data (.slice (.prod (.int .i64) (.prod (.int .i64) (.int .i64))))], .map 85 (.int .i64) .bool false, .row 3 (.int .i64)]⟩
def zqhw : List (AExit × View) := [(.exit 4, ⟨0, [1, 4, 6, 7, 8, 9, 10, 22, 23, 27, 28], [(false, [.ptr 0 0]), (false, [.data (.slice (.slice (.int .i64)))]), (false, [.maph 1]), (false, [.rowh 2]), (false, [.data (.int .i64)]), (false, [.data (.int .i64)]), (false, [.data .bool]), (false, [.data (.int .i64)]), (false, [.data (.int .i64)]), (false, [.data (.int .i64)]), (false, [.data (.int .i64)])], [.cells 32 [.data (.slice (.prod .str (.int .i64))), .data (.slice (.prod (.int .i64) (.prod (.int .i64) (.prod (.int .i64) (.int .i64))))), .data (.slice zq1), .data (.slice (.prod (.int .i64) (.prod (.int .i64) (.int .i64))))], .map 85 (.int .i64) .bool false, .row 3 (.int .i64)]⟩)]
@[reducible] def order_Sort_p1_G (p : zqhu) {β : Type} (d : zqhv.den) (ks : Outs.K β zqhw) : Option β :=
  p (fun a0 a1 a2 a3 a4 a5 a6 a7 a8 a9 a10 a11 a12 a13 => ks.1 (((), (a0, ()), (), (), (a1, ()), (a2, ()), (a3, ()), (a4, ()), (a5, ()), (a6, ()), (a7, ()), ()), ((a8, a9, a10, a11, ()), a12, a13, ()))) d.1.2.1.1 d.1.2.2.2.2.1.1 d.1.2.2.2.2.2.1.1 d.1.2.2.2.2.2.2.1.1 d.1.2.2.2.2.2.2.2.1.1 d.1.2.2.2.2.2.2.2.2.1.1 d.1.2.2.2.2.2.2.2.2.2.1.1 d.1.2.2.2.2.2.2.2.2.2.2.1.1 d.1.2.2.2.2.2.2.2.2.2.2.2.1.1 d.1.2.2.2.2.2.2.2.2.2.2.2.2.1.1 d.2.1.1 d.2.1.2.1 d.2.1.2.2.1 d.2.1.2.2.2.1 d.2.2.1 d.2.2.2.1
abbrev zqhx (β : Type) := (List (List Int)) → Int → Int → Int → (List (List UInt8 × Int)) → (List (Int × (Int × (Int × Int)))) → (List zq0) → (List (Int × (Int × Int))) → (List (Int × Bool)) → (List Int) → Option β
abbrev zqhy := {β : Type} → zqhx β → (List (List Int)) → Int → Int → Int → Int → Int → (List (List UInt8 × Int)) → (List (Int × (Int × (Int × Int)))) → (List zq0) → (List (Int × (Int × Int))) → (List (Int × Bool)) → (List Int) → Option β
def zqhz : View := ⟨0, [1, 4, 6, 7, 8, 22, 23, 27, 28], [(false, [.ptr 0 0]), (false, [.data (.slice (.slice (.int .i64)))]), (false, [.maph 1]), (false, [.rowh 2]), (false, [.data (.int .i64)]), (false, [.data (.int .i64)]), (false, [.data (.int .i64)]), (false, [.data (.int .i64)]), (false, [.data (.int .i64)])], [.cells 32 [.data (.slice (.prod .str (.int .i64))), .data (.slice (.prod (.int .i64) (.prod (.int .i64) (.prod (.int .i64) (.int .i64))))), .data (.slice zq1), .data (.slice (.prod (.int .i64) (.prod (.int .i64) (.int .i64))))], .map 85 (.int .i64) .bool false, .row 3 (.int .i64)]⟩
def zqi0 : List (AExit × View) := [(.exit 2, ⟨0, [1, 4, 6, 7, 8, 22, 23], [(false, [.ptr 0 0]), (false, [.data (.slice (.slice (.int .i64)))]), (false, [.maph 1]), (false, [.rowh 2]), (false, [.data (.int .i64)]), (false, [.data (.int .i64)]), (false, [.data (.int .i64)])], [.cells 32 [.data (.slice (.prod .str (.int .i64))), .data (.slice (.prod (.int .i64) (.prod (.int .i64) (.prod (.int .i64) (.int .i64))))), .data (.slice zq1), .data (.slice (.prod (.int .i64) (.prod (.int .i64) (.int .i64))))], .map 85 (.int .i64) .bool false, .row 3 (.int .i64)]⟩)]
@[reducible] def order_Sort_p2_G (p : zqhy) {β : Type} (d : zqhz.den) (ks : Outs.K β zqi0) : Option β :=
  p (fun a0 a1 a2 a3 a4 a5 a6 a7 a8 a9 => ks.1 (((), (a0, ()), (), (), (a1, ()), (a2, ()), (a3, ()), ()), ((a4, a5, a6, a7, ()), a8, a9, ()))) d.1.2.1.1 d.1.2.2.2.2.1.1 d.1.2.2.2.2.2.1.1 d.1.2.2.2.2.2.2.1.1 d.1.2.2.2.2.2.2.2.1.1 d.1.2.2.2.2.2.2.2.2.1.1 d.2.1.1 d.2.1.2.1 d.2.1.2.2.1 d.2.1.2.2.2.1 d.2.2.1 d.2.2.2.1
abbrev zqi1 (β : Type) := (List Int) → Option β
abbrev zqi2 := {β : Type} → zqi1 β → (List (List Int)) → Int → Int → (List (List UInt8 × Int)) → (List (Int × (Int × (Int × Int)))) → (List zq0) → (List (Int × (Int × Int))) → (List (Int × Bool)) → (List Int) → Option β
def zqi3 : View := ⟨0, [1, 4, 6, 7, 22, 23], [(false, [.ptr 0 0]), (false, [.data (.slice (.slice (.int .i64)))]), (false, [.maph 1]), (false, [.rowh 2]), (false, [.data (.int .i64)]), (false, [.data (.int .i64)])], [.cells 32 [.data (.slice (.prod .str (.int .i64))), .data (.slice (.prod (.int .i64) (.prod (.int .i64) (.prod (.int .i64) (.int .i64))))), .data (.slice zq1), .data (.slice (.prod (.int .i64) (.prod (.int .i64) (.int .i64))))], .map 85 (.int .i64) .bool false, .row 3 (.int .i64)]⟩
def zqi4 : List (AExit × View) := [(.exit 0, ⟨0, [7], [(false, [.rowh 0])], [.row 3 (.int .i64)]⟩)]
@[reducible] def order_Sort_p3_G (p : zqi2) {β : Type} (d : zqi3.den) (ks : Outs.K β zqi4) : Option β :=
  p (fun a0 => ks.1 (((), ()), (a0, ()))) d.1.2.1.1 d.1.2.2.2.2.1.1 d.1.2.2.2.2.2.1.1 d.2.1.1 d.2.1.2.1 d.2.1.2.2.1 d.2.1.2.2.2.1 d.2.2.1 d.2.2.2.1
section
variable (c_order_closed : zqg9) (c_order_matrix_before : zq1y) (c_order_matrix_earlier : zq88)
@[reducible] def order_Sort_X : Ctx := ⟨look tab, pick1 [(27, .spec (zqga c_order_closed)), (28, .spec (zq1z c_order_matrix_before)), (29, .spec (zq89 c_order_matrix_earlier))], false, false, false, false, false⟩
def zqi5 {β : Type} (rec : (List (List Int)) → Int → Int → Bool → Int → Int → Int → Int → Int → Int → (List (List UInt8 × Int)) → (List (Int × (Int × (Int × Int)))) → (List zq0) → (List (Int × (Int × Int))) → (List (Int × Bool)) → (List Int) → Option β) (k1 : zqht β) (m : List (List Int)) (next : Int) (i_ : Int) (free : Bool) (t22 : Int) (t23 : Int) (t27 : Int) (t28 : Int) (t37 : Int) (t38 : Int) (r_ : List (List UInt8 × Int)) (r_2 : List (Int × (Int × (Int × Int)))) (r_3 : List zq0) (r_4 : List (Int × (Int × Int))) (placed : List (Int × Bool)) (out : List Int) : Option β :=
  cond (decide (t38 < t37))
  (cond free
  (let g : Bool := (mGet (.int .i64) placed t38 false);
  cond g
  (rec m next i_ true t22 t23 t27 t28 t37 (IntKind.i64.wrap (t38 + (1 : Int))) r_ r_2 r_3 r_4 placed out)
  (c_order_matrix_before m t38 i_ (fun (rbefore : Bool) =>
  rec m next i_ (!rbefore) t22 t23 t27 t28 t37 (IntKind.i64.wrap (t38 + (1 : Int))) r_ r_2 r_3 r_4 placed out)))
  (rec m next i_ false t22 t23 t27 t28 t37 (IntKind.i64.wrap (t38 + (1 : Int))) r_ r_2 r_3 r_4 placed out))
  (k1 m next i_ free t22 t23 t27 t28 r_ r_2 r_3 r_4 placed out)
def zqi6 {β : Type} : Nat → zqht β → (List (List Int)) → Int → Int → Bool → Int → Int → Int → Int → Int → Int → (List (List UInt8 × Int)) → (List (Int × (Int × (Int × Int)))) → (List zq0) → (List (Int × (Int × Int))) → (List (Int × Bool)) → (List Int) → Option β
  | 0 => fun _ _ _ _ _ _ _ _ _ _ _ _ _ _ _ _ _ => none
  | i + 1 => fun k1 m next i_ free t22 t23 t27 t28 t37 t38 r_ r_2 r_3 r_4 placed out => zqi5 c_order_matrix_before (zqi6 i k1) k1 m next i_ free t22 t23 t27 t28 t37 t38 r_ r_2 r_3 r_4 placed out
theorem zqi7 (hΓ : ΓOk Tryd.prog (order_Sort_X c_order_closed c_order_matrix_before c_order_matrix_earlier).Γ) (i : Nat) : PieceOk Tryd.prog 76 0 order_Sort_p1_code zqhv zqhw (order_Sort_p1_G (zqi6 c_order_matrix_before i)) := by
  rw [show order_Sort_p1_code = .loop (loopBody order_Sort_p1_code) by kernel_rfl]
  exact piece_loop (X := (order_Sort_X c_order_closed c_order_matrix_before c_order_matrix_earlier)) (p := 1) (Λ := pick1 []) (G := fun i => @fun β d ks => order_Sort_p1_G (zqi6 c_order_matrix_before i) d ks) mixed tab_ok hΓ rfl (by kernel_rfl) CutsOk_nil (fun _ _ => rfl) (fun i => @fun β d ks r h => Eq.trans (b := order_Sort_p1_G (zqi6 c_order_matrix_before (i + 1)) d ks) (by kernel_rfl) h) i
def zqi8 (p1 : zqhu) {β : Type} (rec : (List (List Int)) → Int → Int → Int → Int → Int → (List (List UInt8 × Int)) → (List (Int × (Int × (Int × Int)))) → (List zq0) → (List (Int × (Int × Int))) → (List (Int × Bool)) → (List Int) → Option β) (k1 : zqhx β) (m : List (List Int)) (next : Int) (t22 : Int) (t23 : Int) (t27 : Int) (t28 : Int) (r_ : List (List UInt8 × Int)) (r_2 : List (Int × (Int × (Int × Int)))) (r_3 : List zq0) (r_4 : List (Int × (Int × Int))) (placed : List (Int × Bool)) (out : List Int) : Option β :=
  cond (decide (t28 < t27))
  (let g : Bool := (mGet (.int .i64) placed t28 false);
  p1 (fun (m2 : List (List Int)) (next2 : Int) (i_ : Int) (free : Bool) (t222 : Int) (t232 : Int) (t272 : Int) (t282 : Int) (r_5 : List (List UInt8 × Int)) (r_6 : List (Int × (Int × (Int × Int)))) (r_7 : List zq0) (r_8 : List (Int × (Int × Int))) (placed2 : List (Int × Bool)) (out2 : List Int) =>
  cond free
  (cond (decide (next2 < (0 : Int)))
  (rec m2 i_ t222 t232 t272 (IntKind.i64.wrap (t282 + (1 : Int))) r_5 r_6 r_7 r_8 placed2 out2)
  (c_order_matrix_earlier m2 i_ next2 (fun (rearlier : Bool) =>
  cond rearlier
  (rec m2 i_ t222 t232 t272 (IntKind.i64.wrap (t282 + (1 : Int))) r_5 r_6 r_7 r_8 placed2 out2)
  (rec m2 next2 t222 t232 t272 (IntKind.i64.wrap (t282 + (1 : Int))) r_5 r_6 r_7 r_8 placed2 out2))))
  (rec m2 next2 t222 t232 t272 (IntKind.i64.wrap (t282 + (1 : Int))) r_5 r_6 r_7 r_8 placed2 out2)) m next t28 (!g) t22 t23 t27 t28 (List.length r_3 : Int) (0 : Int) r_ r_2 r_3 r_4 placed out)
  (k1 m next t22 t23 r_ r_2 r_3 r_4 placed out)
def zqi9 (p1 : zqhu) {β : Type} : Nat → zqhx β → (List (List Int)) → Int → Int → Int → Int → Int → (List (List UInt8 × Int)) → (List (Int × (Int × (Int × Int)))) → (List zq0) → (List (Int × (Int × Int))) → (List (Int × Bool)) → (List Int) → Option β
  | 0 => fun _ _ _ _ _ _ _ _ _ _ _ _ _ => none
  | i + 1 => fun k1 m next t22 t23 t27 t28 r_ r_2 r_3 r_4 placed out => zqi8 c_order_matrix_earlier p1 (zqi9 p1 i k1) k1 m next t22 t23 t27 t28 r_ r_2 r_3 r_4 placed out
theorem zqia (hΓ : ΓOk Tryd.prog (order_Sort_X c_order_closed c_order_matrix_before c_order_matrix_earlier).Γ) (p1 : zqhu) (hp1 : PieceOk Tryd.prog 76 0 order_Sort_p1_code zqhv zqhw (order_Sort_p1_G p1)) (i : Nat) : PieceOk Tryd.prog 76 0 order_Sort_p2_code zqhz zqi0 (order_Sort_p2_G (zqi9 c_order_matrix_earlier p1 i)) := by
  rw [show order_Sort_p2_code = .loop (loopBody order_Sort_p2_code) by kernel_rfl]
  exact piece_loop (X := (order_Sort_X c_order_closed c_order_matrix_before c_order_matrix_earlier)) (p := 1) (Λ := pick1 [(922, pieceCut zqhv zqhw (order_Sort_p1_G p1))]) (G := fun i => @fun β d ks => order_Sort_p2_G (zqi9 c_order_matrix_earlier p1 i) d ks) mixed tab_ok hΓ rfl (by kernel_rfl) (CutsOk_cons (q := 922) (c' := order_Sort_p1_code) (by kernel_rfl) rfl hp1 CutsOk_nil) (fun _ _ => rfl) (fun i => @fun β d ks r h => Eq.trans (b := order_Sort_p2_G (zqi9 c_order_matrix_earlier p1 (i + 1)) d ks) (by kernel_rfl) h) i
def zqib (p2 : zqhy) {β : Type} (rec : (List (List Int)) → Int → Int → (List (List UInt8 × Int)) → (List (Int × (Int × (Int × Int)))) → (List zq0) → (List (Int × (Int × Int))) → (List (Int × Bool)) → (List Int) → Option β) (k1 : zqi1 β) (m : List (List Int)) (t22 : Int) (t23 : Int) (r_ : List (List UInt8 × Int)) (r_2 : List (Int × (Int × (Int × Int)))) (r_3 : List zq0) (r_4 : List (Int × (Int × Int))) (placed : List (Int × Bool)) (out : List Int) : Option β :=
  cond (decide (t23 < t22))
  (p2 (fun (m2 : List (List Int)) (next : Int) (t222 : Int) (t232 : Int) (r_5 : List (List UInt8 × Int)) (r_6 : List (Int × (Int × (Int × Int)))) (r_7 : List zq0) (r_8 : List (Int × (Int × Int))) (placed2 : List (Int × Bool)) (out2 : List Int) =>
  let m_ : List (Int × Bool) := (mPut (.int .i64) placed2 next true);
  let l : List Int := ([next] : List Int);
  cond (decide ((List.length out2 + List.length l) * 8 ≤ roomMax))
  (let l2 : List Int := (out2 ++ l);
  rec m2 t222 (IntKind.i64.wrap (t232 + (1 : Int))) r_5 r_6 r_7 r_8 m_ l2)
  none) m (-1 : Int) t22 t23 (List.length r_3 : Int) (0 : Int) r_ r_2 r_3 r_4 placed out)
  (k1 out)
def zqic (p2 : zqhy) {β : Type} : Nat → zqi1 β → (List (List Int)) → Int → Int → (List (List UInt8 × Int)) → (List (Int × (Int × (Int × Int)))) → (List zq0) → (List (Int × (Int × Int))) → (List (Int × Bool)) → (List Int) → Option β
  | 0 => fun _ _ _ _ _ _ _ _ _ _ => none
  | i + 1 => fun k1 m t22 t23 r_ r_2 r_3 r_4 placed out => zqib p2 (zqic p2 i k1) k1 m t22 t23 r_ r_2 r_3 r_4 placed out
theorem zqid (hΓ : ΓOk Tryd.prog (order_Sort_X c_order_closed c_order_matrix_before c_order_matrix_earlier).Γ) (p2 : zqhy) (hp2 : PieceOk Tryd.prog 76 0 order_Sort_p2_code zqhz zqi0 (order_Sort_p2_G p2)) (i : Nat) : PieceOk Tryd.prog 76 0 order_Sort_p3_code zqi3 zqi4 (order_Sort_p3_G (zqic p2 i)) := by
  rw [show order_Sort_p3_code = .loop (loopBody order_Sort_p3_code) by kernel_rfl]
  exact piece_loop (X := (order_Sort_X c_order_closed c_order_matrix_before c_order_matrix_earlier)) (p := 1) (Λ := pick1 [(458, pieceCut zqhz zqi0 (order_Sort_p2_G p2))]) (G := fun i => @fun β d ks => order_Sort_p3_G (zqic p2 i) d ks) mixed tab_ok hΓ rfl (by kernel_rfl) (CutsOk_cons (q := 458) (c' := order_Sort_p2_code) (by kernel_rfl) rfl hp2 CutsOk_nil) (fun _ _ => rfl) (fun i => @fun β d ks r h => Eq.trans (b := order_Sort_p3_G (zqic p2 (i + 1)) d ks) (by kernel_rfl) h) i
def zqie (p3 : zqi2) {β : Type} (r_ : zq2) (k : (Bool → (List Int) → Option β)) : Option β :=
  c_order_closed r_ (fun (rclosed : List (List Int)) (rclosed2 : Bool) =>
  cond (!rclosed2)
  (k false ([] : List Int))
  (let m_ : List (Int × Bool) := ([] : List (Int × Bool));
  p3 (fun (out : List Int) =>
  k true out) rclosed (List.length r_.2.2.1 : Int) (0 : Int) r_.1 r_.2.1 r_.2.2.1 r_.2.2.2 m_ ([] : List Int)))
theorem zqif (hΓ : ΓOk Tryd.prog (order_Sort_X c_order_closed c_order_matrix_before c_order_matrix_earlier).Γ) (p3 : zqi2) (hp3 : PieceOk Tryd.prog 76 0 order_Sort_p3_code zqi3 zqi4 (order_Sort_p3_G p3)) : SpecOk Tryd.prog 15 (zqhs (zqie c_order_closed p3)) :=
  spec_exec (X := (order_Sort_X c_order_closed c_order_matrix_before c_order_matrix_earlier)) (Λ := pick1 [(506, pieceCut zqi3 zqi4 (order_Sort_p3_G p3))]) (rs := [.tmp 2, .tmp 3]) (c := bodyOf Tryd.f15) mixed tab_ok hΓ Tryd.func15 (by kernel_rfl) (by kernel_rfl) (by kernel_rfl) (by kernel_rfl) (CutsOk_cons (q := 506) (c' := order_Sort_p3_code) (by kernel_rfl) rfl hp3 CutsOk_nil) (fun x k r h => Eq.trans (b := (zqhs (zqie c_order_closed p3)).run x k) (by kernel_rfl) h)
end
theorem zqigΓ : ΓOk Tryd.prog (pick1 [(27, .spec (zqga zqge)), (28, .spec (zq1z zq23)), (29, .spec (zq89 zq8d))]) := (ΓOk_cons zqgf (ΓOk_cons zq24 (ΓOk_cons zq8e ΓOk_nil)))
def zqih (m : Nat) : zqhu := zqi6 zq23 m
theorem zqii {β : Type} (i : Nat) (k1 m next i_ free t22 t23 t27 t28 t37 t38 r_ r_2 r_3 r_4 placed out) : (zqih (i + 1) k1 m next i_ free t22 t23 t27 t28 t37 t38 r_ r_2 r_3 r_4 placed out : Option β) = zqi5 zq23 (zqih i k1) k1 m next i_ free t22 t23 t27 t28 t37 t38 r_ r_2 r_3 r_4 placed out := rfl
def zqij : zqhu := zqih fuel
theorem zqik : PieceOk Tryd.prog 76 0 order_Sort_p1_code zqhv zqhw (order_Sort_p1_G zqij) := zqi7 zqge zq23 zq8d zqigΓ fuel
def zqil (m : Nat) : zqhy := zqi9 zq8d zqij m
theorem zqim {β : Type} (i : Nat) (k1 m next t22 t23 t27 t28 r_ r_2 r_3 r_4 placed out) : (zqil (i + 1) k1 m next t22 t23 t27 t28 r_ r_2 r_3 r_4 placed out : Option β) = zqi8 zq8d zqij (zqil i k1) k1 m next t22 t23 t27 t28 r_ r_2 r_3 r_4 placed out := rfl
def zqin : zqhy := zqil fuel
theorem zqio : PieceOk Tryd.prog 76 0 order_Sort_p2_code zqhz zqi0 (order_Sort_p2_G zqin) := zqia zqge zq23 zq8d zqigΓ zqij zqik fuel
def zqip (m : Nat) : zqi2 := zqic zqin m
theorem zqiq {β : Type} (i : Nat) (k1 m t22 t23 r_ r_2 r_3 r_4 placed out) : (zqip (i + 1) k1 m t22 t23 r_ r_2 r_3 r_4 placed out : Option β) = zqib zqin (zqip i k1) k1 m t22 t23 r_ r_2 r_3 r_4 placed out := rfl
def zqir : zqi2 := zqip fuel
theorem zqis : PieceOk Tryd.prog 76 0 order_Sort_p3_code zqi3 zqi4 (order_Sort_p3_G zqir) := zqid zqge zq23 zq8d zqigΓ zqin zqio fuel
def zqit : zqhr := zqie zqge zqir
theorem zqiu : SpecOk Tryd.prog 15 (zqhs zqit) := zqif zqge zq23 zq8d zqigΓ zqir zqis

/-- pagewatch/timeline.rows -/
abbrev zqiv := {β : Type} → zq2 → (List Int) → ((List api_Row) → Option β) → Option β
def zqiw (c : zqiv) : Spec :=
  ⟨[(true, [.data zq3]), (false, [.data (.slice (.int .i64))])], [], [(false, [.rowh 0])], [.row 46 zq4], fun x k => c x.1.1.1 x.1.2.1.1 (fun r0 => k (((), ()), (r0, ())))⟩
noncomputable def timeline_rows_p1_code : Code := codeAt 122 (bodyOf Tryd.f16)
noncomputable def timeline_rows_p3_code : Code := codeAt 506 (bodyOf Tryd.f16)
noncomputable def timeline_rows_p2_code : Code := codeAt 922 (loopBody timeline_rows_p3_code)
abbrev zqix (β : Type) := (List Int) → (List (Int × Int)) → (List ((Int × Int) × Bool)) → Option β
abbrev zqiy := {β : Type} → zqix β → (List Int) → Int → Int → (List (Int × Int)) → (List ((Int × Int) × Bool)) → (List (Int × Int)) → Option β
def zqiz : View := ⟨0, [1, 5, 7, 23, 24, 25], [(false, [.data (.slice (.int .i64))]), (false, [.rowh 0]), (false, [.maph 1]), (false, [.rowh 2]), (false, [.data (.int .i64)]), (false, [.data (.int .i64)])], [.row 44 (.prod (.int .i64) (.int .i64)), .map 90 (.prod (.int .i64) (.int .i64)) .bool false, .row 93 (.prod (.int .i64) (.int .i64))]⟩
def zqj0 : List (AExit × View) := [(.exit 0, ⟨0, [1, 5, 7], [(false, [.data (.slice (.int .i64))]), (false, [.rowh 0]), (false, [.maph 1])], [.row 44 (.prod (.int .i64) (.int .i64)), .map 90 (.prod (.int .i64) (.int .i64)) .bool false]⟩)]
@[reducible] def timeline_rows_p1_G (p : zqiy) {β : Type} (d : zqiz.den) (ks : Outs.K β zqj0) : Option β :=
  p (fun a0 a1 a2 => ks.1 (((a0, ()), (), (), ()), (a1, a2, ()))) d.1.1.1 d.1.2.2.2.2.1.1 d.1.2.2.2.2.2.1.1 d.2.1 d.2.2.1 d.2.2.2.1
abbrev zqj1 (β : Type) := (List Int) → (List Int) → Int → Int → (List (Int × Int)) → (List ((Int × Int) × Bool)) → (List api_Row) → Int → Int → Int → (List Int) → Option β
abbrev zqj2 := {β : Type} → zqj1 β → (List Int) → Int → (List Int) → Int → Int → (List Int) → Int → Int → (List (Int × Int)) → (List ((Int × Int) × Bool)) → (List api_Row) → Int → Int → Int → (List Int) → Option β
def zqj3 : View := ⟨0, [1, 5, 7, 10, 12, 13, 32, 33, 34, 47, 48, 49], [(false, [.data (.slice (.int .i64))]), (false, [.rowh 0]), (false, [.maph 1]), (false, [.rowh 2]), (false, [.data (.int .i64)]), (false, [.ptr 3 0]), (false, [.data (.slice (.int .i64))]), (false, [.data (.int .i64)]), (false, [.data (.int .i64)]), (false, [.data (.slice (.int .i64))]), (false, [.data (.int .i64)]), (false, [.data (.int .i64)])], [.row 44 (.prod (.int .i64) (.int .i64)), .map 90 (.prod (.int .i64) (.int .i64)) .bool false, .row 46 zq4, .cells 46 [.data (.int .i64), .data (.int .i64), .data (.int .i64), .rowh 4], .row 3 (.int .i64)]⟩
def zqj4 : List (AExit × View) := [(.exit 4, ⟨0, [1, 5, 7, 10, 13, 32, 33, 34], [(false, [.data (.slice (.int .i64))]), (false, [.rowh 0]), (false, [.maph 1]), (false, [.rowh 2]), (false, [.ptr 3 0]), (false, [.data (.slice (.int .i64))]), (false, [.data (.int .i64)]), (false, [.data (.int .i64)])], [.row 44 (.prod (.int .i64) (.int .i64)), .map 90 (.prod (.int .i64) (.int .i64)) .bool false, .row 46 zq4, .cells 46 [.data (.int .i64), .data (.int .i64), .data (.int .i64), .rowh 4], .row 3 (.int .i64)]⟩)]
@[reducible] def timeline_rows_p2_G (p : zqj2) {β : Type} (d : zqj3.den) (ks : Outs.K β zqj4) : Option β :=
  p (fun a0 a1 a2 a3 a4 a5 a6 a7 a8 a9 a10 => ks.1 (((a0, ()), (), (), (), (), (a1, ()), (a2, ()), (a3, ()), ()), (a4, a5, a6, (a7, a8, a9, ()), a10, ()))) d.1.1.1 d.1.2.2.2.2.1.1 d.1.2.2.2.2.2.2.1.1 d.1.2.2.2.2.2.2.2.1.1 d.1.2.2.2.2.2.2.2.2.1.1 d.1.2.2.2.2.2.2.2.2.2.1.1 d.1.2.2.2.2.2.2.2.2.2.2.1.1 d.1.2.2.2.2.2.2.2.2.2.2.2.1.1 d.2.1 d.2.2.1 d.2.2.2.1 d.2.2.2.2.1.1 d.2.2.2.2.1.2.1 d.2.2.2.2.1.2.2.1 d.2.2.2.2.2.1
abbrev zqj5 (β : Type) := (List api_Row) → Option β
abbrev zqj6 := {β : Type} → zqj5 β → (List Int) → (List Int) → Int → Int → (List (Int × Int)) → (List ((Int × Int) × Bool)) → (List api_Row) → Option β
def zqj7 : View := ⟨0, [1, 5, 7, 10, 32, 33, 34], [(false, [.data (.slice (.int .i64))]), (false, [.rowh 0]), (false, [.maph 1]), (false, [.rowh 2]), (false, [.data (.slice (.int .i64))]), (false, [.data (.int .i64)]), (false, [.data (.int .i64)])], [.row 44 (.prod (.int .i64) (.int .i64)), .map 90 (.prod (.int .i64) (.int .i64)) .bool false, .row 46 zq4]⟩
def zqj8 : List (AExit × View) := [(.exit 2, ⟨0, [10], [(false, [.rowh 0])], [.row 46 zq4]⟩)]
@[reducible] def timeline_rows_p3_G (p : zqj6) {β : Type} (d : zqj7.den) (ks : Outs.K β zqj8) : Option β :=
  p (fun a0 => ks.1 (((), ()), (a0, ()))) d.1.1.1 d.1.2.2.2.2.1.1 d.1.2.2.2.2.2.1.1 d.1.2.2.2.2.2.2.1.1 d.2.1 d.2.2.1 d.2.2.2.1
section
variable (c_order_Open : zqgy) (c_order_When : zqgg)
@[reducible] def timeline_rows_X : Ctx := ⟨look tab, pick1 [(31, .spec (zqgz c_order_Open)), (30, .spec (zqgh c_order_When)), (32, .rows zq27)], false, false, false, false, false⟩
def zqj9 {β : Type} (rec : (List Int) → Int → Int → (List (Int × Int)) → (List ((Int × Int) × Bool)) → (List (Int × Int)) → Option β) (k1 : zqix β) (l : List Int) (t24 : Int) (t25 : Int) (when : List (Int × Int)) (pairs : List ((Int × Int) × Bool)) (t23 : List (Int × Int)) : Option β :=
  cond (decide (t25 < t24))
  (cond (decide (0 ≤ t25) && decide (t25 < (List.length t23 : Int)))
  (let m_ : List ((Int × Int) × Bool) := (mPut (.prod (.int .i64) (.int .i64)) pairs ((List.getD t23 (Int.toNat t25) ((0 : Int), (0 : Int))).1, (List.getD t23 (Int.toNat t25) ((0 : Int), (0 : Int))).2) true);
  rec l t24 (IntKind.i64.wrap (t25 + (1 : Int))) when m_ t23)
  none)
  (k1 l when pairs)
def zqja {β : Type} : Nat → zqix β → (List Int) → Int → Int → (List (Int × Int)) → (List ((Int × Int) × Bool)) → (List (Int × Int)) → Option β
  | 0 => fun _ _ _ _ _ _ _ => none
  | i + 1 => fun k1 l t24 t25 when pairs t23 => zqj9 (zqja i k1) k1 l t24 t25 when pairs t23
theorem zqjb (hΓ : ΓOk Tryd.prog (timeline_rows_X c_order_Open c_order_When).Γ) (i : Nat) : PieceOk Tryd.prog 78 0 timeline_rows_p1_code zqiz zqj0 (timeline_rows_p1_G (zqja i)) := by
  rw [show timeline_rows_p1_code = .loop (loopBody timeline_rows_p1_code) by kernel_rfl]
  exact piece_loop (X := (timeline_rows_X c_order_Open c_order_When)) (p := 1) (Λ := pick1 []) (G := fun i => @fun β d ks => timeline_rows_p1_G (zqja i) d ks) mixed tab_ok hΓ rfl (by kernel_rfl) CutsOk_nil (fun _ _ => rfl) (fun i => @fun β d ks r h => Eq.trans (b := timeline_rows_p1_G (zqja (i + 1)) d ks) (by kernel_rfl) h) i
def zqjc {β : Type} (rec : (List Int) → Int → (List Int) → Int → Int → (List Int) → Int → Int → (List (Int × Int)) → (List ((Int × Int) × Bool)) → (List api_Row) → Int → Int → Int → (List Int) → Option β) (k1 : zqj1 β) (l : List Int) (x : Int) (t32 : List Int) (t33 : Int) (t34 : Int) (t47 : List Int) (t48 : Int) (t49 : Int) (when : List (Int × Int)) (pairs : List ((Int × Int) × Bool)) (out : List api_Row) (row : Int) (row2 : Int) (row3 : Int) (b4_ : List Int) : Option β :=
  cond (decide (t49 < t48))
  (cond (decide (0 ≤ t49) && decide (t49 < (List.length t47 : Int)))
  (let e : Int := List.getD t47 (Int.toNat t49) (0 : Int);
  let g : Bool := (mGet (.prod (.int .i64) (.int .i64)) pairs ((if e < x then e else x), (if e > x then e else x)) false);
  cond g
  (let l2 : List Int := ([e] : List Int);
  cond (decide ((List.length b4_ + List.length l2) * 8 ≤ roomMax))
  (let l3 : List Int := (b4_ ++ l2);
  rec l x t32 t33 t34 t47 t48 (IntKind.i64.wrap (t49 + (1 : Int))) when pairs out row row2 row3 l3)
  none)
  (rec l x t32 t33 t34 t47 t48 (IntKind.i64.wrap (t49 + (1 : Int))) when pairs out row row2 row3 b4_))
  none)
  (k1 l t32 t33 t34 when pairs out row row2 row3 b4_)
def zqjd {β : Type} : Nat → zqj1 β → (List Int) → Int → (List Int) → Int → Int → (List Int) → Int → Int → (List (Int × Int)) → (List ((Int × Int) × Bool)) → (List api_Row) → Int → Int → Int → (List Int) → Option β
  | 0 => fun _ _ _ _ _ _ _ _ _ _ _ _ _ _ _ _ => none
  | i + 1 => fun k1 l x t32 t33 t34 t47 t48 t49 when pairs out row row2 row3 b4_ => zqjc (zqjd i k1) k1 l x t32 t33 t34 t47 t48 t49 when pairs out row row2 row3 b4_
theorem zqje (hΓ : ΓOk Tryd.prog (timeline_rows_X c_order_Open c_order_When).Γ) (i : Nat) : PieceOk Tryd.prog 78 0 timeline_rows_p2_code zqj3 zqj4 (timeline_rows_p2_G (zqjd i)) := by
  rw [show timeline_rows_p2_code = .loop (loopBody timeline_rows_p2_code) by kernel_rfl]
  exact piece_loop (X := (timeline_rows_X c_order_Open c_order_When)) (p := 1) (Λ := pick1 []) (G := fun i => @fun β d ks => timeline_rows_p2_G (zqjd i) d ks) mixed tab_ok hΓ rfl (by kernel_rfl) CutsOk_nil (fun _ _ => rfl) (fun i => @fun β d ks r h => Eq.trans (b := timeline_rows_p2_G (zqjd (i + 1)) d ks) (by kernel_rfl) h) i
def zqjf (p2 : zqj2) {β : Type} (rec : (List Int) → (List Int) → Int → Int → (List (Int × Int)) → (List ((Int × Int) × Bool)) → (List api_Row) → Option β) (k1 : zqj5 β) (l : List Int) (t32 : List Int) (t33 : Int) (t34 : Int) (when : List (Int × Int)) (pairs : List ((Int × Int) × Bool)) (out : List api_Row) : Option β :=
  cond (decide (t34 < t33))
  (cond (decide (0 ≤ t34) && decide (t34 < (List.length t32 : Int)))
  (let e : Int := List.getD t32 (Int.toNat t34) (0 : Int);
  cond (decide (0 ≤ e) && decide (e < (List.length when : Int)))
  (cond (decide (0 ≤ (0 : Int)) && (decide ((0 : Int) ≤ t34) && decide (t34 ≤ (List.length l : Int))))
  (p2 (fun (l2 : List Int) (t322 : List Int) (t332 : Int) (t342 : Int) (when2 : List (Int × Int)) (pairs2 : List ((Int × Int) × Bool)) (out2 : List api_Row) (row : Int) (row2 : Int) (row3 : Int) (b4_ : List Int) =>
  cond (decide (List.length b4_ < 4611686018427387904))
  (let l3 : List Int := (sortInts b4_);
  let l4 : List api_Row := ([(row, ((row2, row3), l3))] : List api_Row);
  cond (decide ((List.length out2 + List.length l4) * 48 ≤ roomMax))
  (let l5 : List api_Row := (out2 ++ l4);
  rec l2 t322 t332 (IntKind.i64.wrap (t342 + (1 : Int))) when2 pairs2 l5)
  none)
  none) l e t32 t33 t34 (List.drop (Int.toNat (0 : Int)) (List.take (Int.toNat t34) l)) (List.length (List.drop (Int.toNat (0 : Int)) (List.take (Int.toNat t34) l)) : Int) (0 : Int) when pairs out e ((List.getD when (Int.toNat e) ((0 : Int), (0 : Int))).1) ((List.getD when (Int.toNat e) ((0 : Int), (0 : Int))).2) ([] : List Int))
  none)
  none)
  none)
  (k1 out)
def zqjg (p2 : zqj2) {β : Type} : Nat → zqj5 β → (List Int) → (List Int) → Int → Int → (List (Int × Int)) → (List ((Int × Int) × Bool)) → (List api_Row) → Option β
  | 0 => fun _ _ _ _ _ _ _ _ => none
  | i + 1 => fun k1 l t32 t33 t34 when pairs out => zqjf p2 (zqjg p2 i k1) k1 l t32 t33 t34 when pairs out
theorem zqjh (hΓ : ΓOk Tryd.prog (timeline_rows_X c_order_Open c_order_When).Γ) (p2 : zqj2) (hp2 : PieceOk Tryd.prog 78 0 timeline_rows_p2_code zqj3 zqj4 (timeline_rows_p2_G p2)) (i : Nat) : PieceOk Tryd.prog 78 0 timeline_rows_p3_code zqj7 zqj8 (timeline_rows_p3_G (zqjg p2 i)) := by
  rw [show timeline_rows_p3_code = .loop (loopBody timeline_rows_p3_code) by kernel_rfl]
  exact piece_loop (X := (timeline_rows_X c_order_Open c_order_When)) (p := 1) (Λ := pick1 [(922, pieceCut zqj3 zqj4 (timeline_rows_p2_G p2))]) (G := fun i => @fun β d ks => timeline_rows_p3_G (zqjg p2 i) d ks) mixed tab_ok hΓ rfl (by kernel_rfl) (CutsOk_cons (q := 922) (c' := timeline_rows_p2_code) (by kernel_rfl) rfl hp2 CutsOk_nil) (fun _ _ => rfl) (fun i => @fun β d ks r h => Eq.trans (b := timeline_rows_p3_G (zqjg p2 (i + 1)) d ks) (by kernel_rfl) h) i
def zqji (p1 : zqiy) (p3 : zqj6) {β : Type} (r_ : zq2) (l : List Int) (k : ((List api_Row) → Option β)) : Option β :=
  c_order_When r_ (fun (rWhen : Bool) (lrWhen : List (Int × Int)) =>
  let m_ : List ((Int × Int) × Bool) := ([] : List ((Int × Int) × Bool));
  c_order_Open r_ (fun (lrOpen : List (Int × Int)) =>
  p1 (fun (l2 : List Int) (when : List (Int × Int)) (pairs : List ((Int × Int) × Bool)) =>
  p3 (fun (out : List api_Row) =>
  k out) l2 l2 (List.length l2 : Int) (0 : Int) when pairs ([] : List api_Row)) l (List.length lrOpen : Int) (0 : Int) lrWhen m_ lrOpen))
theorem zqjj (hΓ : ΓOk Tryd.prog (timeline_rows_X c_order_Open c_order_When).Γ) (p1 : zqiy) (p3 : zqj6) (hp1 : PieceOk Tryd.prog 78 0 timeline_rows_p1_code zqiz zqj0 (timeline_rows_p1_G p1)) (hp3 : PieceOk Tryd.prog 78 0 timeline_rows_p3_code zqj7 zqj8 (timeline_rows_p3_G p3)) : SpecOk Tryd.prog 16 (zqiw (zqji c_order_Open c_order_When p1 p3)) :=
  spec_exec (X := (timeline_rows_X c_order_Open c_order_When)) (Λ := pick1 [(122, pieceCut zqiz zqj0 (timeline_rows_p1_G p1)), (506, pieceCut zqj7 zqj8 (timeline_rows_p3_G p3))]) (rs := [.tmp 4]) (c := bodyOf Tryd.f16) mixed tab_ok hΓ Tryd.func16 (by kernel_rfl) (by kernel_rfl) (by kernel_rfl) (by kernel_rfl) (CutsOk_cons (q := 122) (c' := timeline_rows_p1_code) (by kernel_rfl) rfl hp1 (CutsOk_cons (q := 506) (c' := timeline_rows_p3_code) (by kernel_rfl) rfl hp3 CutsOk_nil)) (fun x k r h => Eq.trans (b := (zqiw (zqji c_order_Open c_order_When p1 p3)).run x k) (by kernel_rfl) h)
end
theorem zqjkΓ : ΓOk Tryd.prog (pick1 [(31, .spec (zqgz zqhp)), (30, .spec (zqgh zqgw)), (32, .rows zq27)]) := (ΓOk_cons zqhq (ΓOk_cons zqgx (ΓOk_row zq28 ΓOk_nil)))
def zqjl (m : Nat) : zqiy := zqja m
theorem zqjm {β : Type} (i : Nat) (k1 l t24 t25 when pairs t23) : (zqjl (i + 1) k1 l t24 t25 when pairs t23 : Option β) = zqj9 (zqjl i k1) k1 l t24 t25 when pairs t23 := rfl
def zqjn : zqiy := zqjl fuel
theorem zqjo : PieceOk Tryd.prog 78 0 timeline_rows_p1_code zqiz zqj0 (timeline_rows_p1_G zqjn) := zqjb zqhp zqgw zqjkΓ fuel
def zqjp (m : Nat) : zqj2 := zqjd m
theorem zqjq {β : Type} (i : Nat) (k1 l x t32 t33 t34 t47 t48 t49 when pairs out row row2 row3 b4_) : (zqjp (i + 1) k1 l x t32 t33 t34 t47 t48 t49 when pairs out row row2 row3 b4_ : Option β) = zqjc (zqjp i k1) k1 l x t32 t33 t34 t47 t48 t49 when pairs out row row2 row3 b4_ := rfl
def zqjr : zqj2 := zqjp fuel
theorem zqjs : PieceOk Tryd.prog 78 0 timeline_rows_p2_code zqj3 zqj4 (timeline_rows_p2_G zqjr) := zqje zqhp zqgw zqjkΓ fuel
def zqjt (m : Nat) : zqj6 := zqjg zqjr m
theorem zqju {β : Type} (i : Nat) (k1 l t32 t33 t34 when pairs out) : (zqjt (i + 1) k1 l t32 t33 t34 when pairs out : Option β) = zqjf zqjr (zqjt i k1) k1 l t32 t33 t34 when pairs out := rfl
def zqjv : zqj6 := zqjt fuel
theorem zqjw : PieceOk Tryd.prog 78 0 timeline_rows_p3_code zqj7 zqj8 (timeline_rows_p3_G zqjv) := zqjh zqhp zqgw zqjkΓ zqjr zqjs fuel
def zqjx : zqiv := zqji zqhp zqgw zqjn zqjv
theorem zqjy : SpecOk Tryd.prog 16 (zqiw zqjx) := zqjj zqhp zqgw zqjkΓ zqjn zqjv zqjo zqjw

/-- pagewatch/timeline.Rows -/
abbrev zqjz := {β : Type} → zq2 → (Bool → (List api_Row) → Option β) → Option β
def zqk0 (c : zqjz) : Spec :=
  ⟨[(true, [.data zq3])], [], [(false, [.rowh 0]), (false, [.data .bool])], [.row 46 zq4], fun x k => c x.1.1.1 (fun r0 r1 => k (((), (r0, ()), ()), (r1, ())))⟩
section
variable (c_order_Sort : zqhr) (c_timeline_rows : zqiv)
@[reducible] def timeline_Rows_X : Ctx := ⟨look tab, pick1 [(15, .spec (zqhs c_order_Sort)), (16, .spec (zqiw c_timeline_rows))], false, false, false, false, false⟩
def zqk1 {β : Type} (r_ : zq2) (k : (Bool → (List api_Row) → Option β)) : Option β :=
  c_order_Sort r_ (fun (rSort : Bool) (lrSort : List Int) =>
  cond (!rSort)
  (k false ([] : List api_Row))
  (c_timeline_rows r_ lrSort (fun (lrrows : List api_Row) =>
  k true lrrows)))
theorem zqk2 (hΓ : ΓOk Tryd.prog (timeline_Rows_X c_order_Sort c_timeline_rows).Γ) : SpecOk Tryd.prog 9 (zqk0 (zqk1 c_order_Sort c_timeline_rows)) :=
  spec_exec (X := (timeline_Rows_X c_order_Sort c_timeline_rows)) (Λ := pick1 []) (rs := [.tmp 2, .tmp 3]) (c := bodyOf Tryd.f9) mixed tab_ok hΓ Tryd.func9 (by kernel_rfl) (by kernel_rfl) (by kernel_rfl) (by kernel_rfl) CutsOk_nil (fun x k r h => Eq.trans (b := (zqk0 (zqk1 c_order_Sort c_timeline_rows)).run x k) (by kernel_rfl) h)
end
theorem zqk3Γ : ΓOk Tryd.prog (pick1 [(15, .spec (zqhs zqit)), (16, .spec (zqiw zqjx))]) := (ΓOk_cons zqiu (ΓOk_cons zqjy ΓOk_nil))
def zqk4 : zqjz := zqk1 zqit zqjx
theorem zqk5 : SpecOk Tryd.prog 9 (zqk0 zqk4) := zqk2 zqit zqjx zqk3Γ

/-- slices.IndexFunc[[]int,int] -/
abbrev zqk6 := {β : Type} → (List Int) → (List (List Int)) → Int → (Int → (List (List Int)) → Int → Option β) → Option β
def zqk7 (c : zqk6) : Spec :=
  ⟨[(false, [.data (.slice (.int .i64))]), (false, [.fn 55 [0, 1]])], [.cells 82 [.data (.slice (.slice (.int .i64)))], .cells 3 [.data (.int .i64)]], [(false, [.data (.int .i64)])], [.cells 82 [.data (.slice (.slice (.int .i64)))], .cells 3 [.data (.int .i64)]], fun x k => c x.1.1.1 x.2.1.1 x.2.2.1.1 (fun r0 r1 r2 => k (((r0, ()), ()), ((r1, ()), (r2, ()), ())))⟩
noncomputable def slices_IndexFunc_int_int_vorder_Allows_f1_p1_code : Code := codeAt 26 (bodyOf Tryd.f74)
abbrev zqk8 (β : Type) := Int → (List (List Int)) → Int → Option β
abbrev zqk9 (β : Type) := (List (List Int)) → Int → Option β
abbrev zqka := {β : Type} → zqk8 β → zqk9 β → (List Int) → Int → Int → (List (List Int)) → Int → Option β
def zqkb : View := ⟨2, [0, 1, 7, 8], [(false, [.data (.slice (.int .i64))]), (false, [.fn 55 [0, 1]]), (false, [.data (.int .i64)]), (false, [.data (.int .i64)])], [.cells 82 [.data (.slice (.slice (.int .i64)))], .cells 3 [.data (.int .i64)]]⟩
def zqkc : List (AExit × View) := [(.ret, ⟨2, [4], [(false, [.data (.int .i64)])], [.cells 82 [.data (.slice (.slice (.int .i64)))], .cells 3 [.data (.int .i64)]]⟩), (.exit 0, ⟨2, [], [], [.cells 82 [.data (.slice (.slice (.int .i64)))], .cells 3 [.data (.int .i64)]]⟩)]
@[reducible] def slices_IndexFunc_int_int_vorder_Allows_f1_p1_G (p : zqka) {β : Type} (d : zqkb.den) (ks : Outs.K β zqkc) : Option β :=
  p (fun a0 a1 a2 => ks.1 (((a0, ()), ()), ((a1, ()), (a2, ()), ()))) (fun a0 a1 => ks.2.1 ((), ((a0, ()), (a1, ()), ()))) d.1.1.1 d.1.2.2.1.1 d.1.2.2.2.1.1 d.2.1.1 d.2.2.1.1
section
variable (c_order_Allows_f1 : zq3r)
@[reducible] def slices_IndexFunc_int_int_vorder_Allows_f1_X : Ctx := ⟨look tab, pick1 [(55, .spec (zq3s c_order_Allows_f1))], false, false, false, false, false⟩
def zqkd {β : Type} (rec : (List Int) → Int → Int → (List (List Int)) → Int → Option β) (k1 : zqk8 β) (k2 : zqk9 β) (s : List Int) (t7 : Int) (t8 : Int) (b0_ : List (List Int)) (b1_ : Int) : Option β :=
  cond (decide (t8 < t7))
  (cond (decide (0 ≤ t8) && decide (t8 < (List.length s : Int)))
  (let e : Int := List.getD s (Int.toNat t8) (0 : Int);
  c_order_Allows_f1 e b0_ b1_ (fun (rAllows1 : Bool) (mrAllows1 : List (List Int)) (mrAllows12 : Int) =>
  cond rAllows1
  (k1 t8 mrAllows1 mrAllows12)
  (rec s t7 (IntKind.i64.wrap (t8 + (1 : Int))) mrAllows1 mrAllows12)))
  none)
  (k2 b0_ b1_)
def zqke {β : Type} : Nat → zqk8 β → zqk9 β → (List Int) → Int → Int → (List (List Int)) → Int → Option β
  | 0 => fun _ _ _ _ _ _ _ => none
  | i + 1 => fun k1 k2 s t7 t8 b0_ b1_ => zqkd c_order_Allows_f1 (zqke i k1 k2) k1 k2 s t7 t8 b0_ b1_
theorem zqkf (hΓ : ΓOk Tryd.prog (slices_IndexFunc_int_int_vorder_Allows_f1_X c_order_Allows_f1).Γ) (i : Nat) : PieceOk Tryd.prog 19 2 slices_IndexFunc_int_int_vorder_Allows_f1_p1_code zqkb zqkc (slices_IndexFunc_int_int_vorder_Allows_f1_p1_G (zqke c_order_Allows_f1 i)) := by
  rw [show slices_IndexFunc_int_int_vorder_Allows_f1_p1_code = .loop (loopBody slices_IndexFunc_int_int_vorder_Allows_f1_p1_code) by kernel_rfl]
  exact piece_loop (X := (slices_IndexFunc_int_int_vorder_Allows_f1_X c_order_Allows_f1)) (p := 1) (Λ := pick1 []) (G := fun i => @fun β d ks => slices_IndexFunc_int_int_vorder_Allows_f1_p1_G (zqke c_order_Allows_f1 i) d ks) mixed tab_ok hΓ rfl (by kernel_rfl) CutsOk_nil (fun _ _ => rfl) (fun i => @fun β d ks r h => Eq.trans (b := slices_IndexFunc_int_int_vorder_Allows_f1_p1_G (zqke c_order_Allows_f1 (i + 1)) d ks) (by kernel_rfl) h) i
def zqkg (p1 : zqka) {β : Type} (s : List Int) (b0_ : List (List Int)) (b1_ : Int) (k : (Int → (List (List Int)) → Int → Option β)) : Option β :=
  p1 (fun (t4 : Int) (b0_2 : List (List Int)) (b1_2 : Int) =>
  k t4 b0_2 b1_2) (fun (b0_2 : List (List Int)) (b1_2 : Int) =>
  k (-1 : Int) b0_2 b1_2) s (List.length s : Int) (0 : Int) b0_ b1_
theorem zqkh (hΓ : ΓOk Tryd.prog (slices_IndexFunc_int_int_vorder_Allows_f1_X c_order_Allows_f1).Γ) (p1 : zqka) (hp1 : PieceOk Tryd.prog 19 2 slices_IndexFunc_int_int_vorder_Allows_f1_p1_code zqkb zqkc (slices_IndexFunc_int_int_vorder_Allows_f1_p1_G p1)) : SpecOk Tryd.prog 74 (zqk7 (zqkg p1)) :=
  spec_exec (X := (slices_IndexFunc_int_int_vorder_Allows_f1_X c_order_Allows_f1)) (Λ := pick1 [(26, pieceCut zqkb zqkc (slices_IndexFunc_int_int_vorder_Allows_f1_p1_G p1))]) (rs := [.tmp 4]) (c := bodyOf Tryd.f74) mixed tab_ok hΓ Tryd.func74 (by kernel_rfl) (by kernel_rfl) (by kernel_rfl) (by kernel_rfl) (CutsOk_cons (q := 26) (c' := slices_IndexFunc_int_int_vorder_Allows_f1_p1_code) (by kernel_rfl) rfl hp1 CutsOk_nil) (fun x k r h => Eq.trans (b := (zqk7 (zqkg p1)).run x k) (by kernel_rfl) h)
end
theorem zqkiΓ : ΓOk Tryd.prog (pick1 [(55, .spec (zq3s zq3w))]) := (ΓOk_cons zq3x ΓOk_nil)
def zqkj (m : Nat) : zqka := zqke zq3w m
theorem zqkk {β : Type} (i : Nat) (k1 k2 s t7 t8 b0_ b1_) : (zqkj (i + 1) k1 k2 s t7 t8 b0_ b1_ : Option β) = zqkd zq3w (zqkj i k1 k2) k1 k2 s t7 t8 b0_ b1_ := rfl
def zqkl : zqka := zqkj fuel
theorem zqkm : PieceOk Tryd.prog 19 2 slices_IndexFunc_int_int_vorder_Allows_f1_p1_code zqkb zqkc (slices_IndexFunc_int_int_vorder_Allows_f1_p1_G zqkl) := zqkf zq3w zqkiΓ fuel
def zqkn : zqk6 := zqkg zqkl
theorem zqko : SpecOk Tryd.prog 74 (zqk7 zqkn) := zqkh zq3w zqkiΓ zqkl zqkm

/-- slices.ContainsFunc[[]int,int] -/
abbrev zqkp := {β : Type} → (List Int) → (List (List Int)) → Int → (Bool → (List (List Int)) → Int → Option β) → Option β
def zqkq (c : zqkp) : Spec :=
  ⟨[(false, [.data (.slice (.int .i64))]), (false, [.fn 55 [0, 1]])], [.cells 82 [.data (.slice (.slice (.int .i64)))], .cells 3 [.data (.int .i64)]], [(false, [.data .bool])], [.cells 82 [.data (.slice (.slice (.int .i64)))], .cells 3 [.data (.int .i64)]], fun x k => c x.1.1.1 x.2.1.1 x.2.2.1.1 (fun r0 r1 r2 => k (((r0, ()), ()), ((r1, ()), (r2, ()), ())))⟩
section
variable (c_slices_IndexFunc_int_int_vorder_Allows_f1 : zqk6)
@[reducible] def slices_ContainsFunc_int_int_vorder_Allows_f1_X : Ctx := ⟨look tab, pick1 [(74, .spec (zqk7 c_slices_IndexFunc_int_int_vorder_Allows_f1))], false, false, false, false, false⟩
def zqkr {β : Type} (s : List Int) (b0_ : List (List Int)) (b1_ : Int) (k : (Bool → (List (List Int)) → Int → Option β)) : Option β :=
  c_slices_IndexFunc_int_int_vorder_Allows_f1 s b0_ b1_ (fun (rIndexFuncintint : Int) (mrIndexFuncintint : List (List Int)) (mrIndexFuncintint2 : Int) =>
  let t : Bool := (decide ((0 : Int) ≤ rIndexFuncintint));
  k t mrIndexFuncintint mrIndexFuncintint2)
theorem zqks (hΓ : ΓOk Tryd.prog (slices_ContainsFunc_int_int_vorder_Allows_f1_X c_slices_IndexFunc_int_int_vorder_Allows_f1).Γ) : SpecOk Tryd.prog 54 (zqkq (zqkr c_slices_IndexFunc_int_int_vorder_Allows_f1)) :=
  spec_exec (X := (slices_ContainsFunc_int_int_vorder_Allows_f1_X c_slices_IndexFunc_int_int_vorder_Allows_f1)) (Λ := pick1 []) (rs := [.tmp 4]) (c := bodyOf Tryd.f54) mixed tab_ok hΓ Tryd.func54 (by kernel_rfl) (by kernel_rfl) (by kernel_rfl) (by kernel_rfl) CutsOk_nil (fun x k r h => Eq.trans (b := (zqkq (zqkr c_slices_IndexFunc_int_int_vorder_Allows_f1)).run x k) (by kernel_rfl) h)
end
theorem zqktΓ : ΓOk Tryd.prog (pick1 [(74, .spec (zqk7 zqkn))]) := (ΓOk_cons zqko ΓOk_nil)
def zqku : zqkp := zqkr zqkn
theorem zqkv : SpecOk Tryd.prog 54 (zqkq zqku) := zqks zqkn zqktΓ

/-- pagewatch/order.Allows -/
abbrev zqkw := {β : Type} → zq2 → (List Int) → (Bool → Option β) → Option β
def zqkx (c : zqkw) : Spec :=
  ⟨[(true, [.data zq3]), (false, [.data (.slice (.int .i64))])], [], [(false, [.data .bool])], [], fun x k => c x.1.1.1 x.1.2.1.1 (fun r0 => k (((r0, ()), ()), ()))⟩
noncomputable def order_Allows_p1_code : Code := codeAt 122 (bodyOf Tryd.f33)
abbrev zqky (β : Type) := Bool → Option β
abbrev zqkz (β : Type) := Unit → Option β
abbrev zql0 := {β : Type} → zqky β → zqkz β → (List Int) → (List Int) → Int → Int → (List (List Int)) → Option β
def zql1 : View := ⟨0, [1, 5, 24, 25, 26], [(false, [.data (.slice (.int .i64))]), (false, [.ptr 0 0]), (false, [.data (.slice (.int .i64))]), (false, [.data (.int .i64)]), (false, [.data (.int .i64)])], [.cells 82 [.data (.slice (.slice (.int .i64)))]]⟩
def zql2 : List (AExit × View) := [(.ret, ⟨0, [4], [(false, [.data .bool])], []⟩), (.exit 0, ⟨0, [], [], []⟩)]
@[reducible] def order_Allows_p1_G (p : zql0) {β : Type} (d : zql1.den) (ks : Outs.K β zql2) : Option β :=
  p (fun a0 => ks.1 (((a0, ()), ()), ())) (fun _ => ks.2.1 ((), ())) d.1.1.1 d.1.2.2.1.1 d.1.2.2.2.1.1 d.1.2.2.2.2.1.1 d.2.1.1
section
variable (c_order_closed : zqg9) (c_order_in : zq3k) (c_slices_ContainsFunc_int_int_vorder_Allows_f1 : zqkp) (c_slices_Contains_int_int : zq8t)
@[reducible] def order_Allows_X : Ctx := ⟨look tab, pick1 [(27, .spec (zqga c_order_closed)), (52, .spec (zq3l c_order_in)), (54, .spec (zqkq c_slices_ContainsFunc_int_int_vorder_Allows_f1)), (53, .spec (zq8u c_slices_Contains_int_int))], false, false, false, false, false⟩
def zql3 {β : Type} (rec : (List Int) → (List Int) → Int → Int → (List (List Int)) → Option β) (k1 : zqky β) (k2 : zqkz β) (l : List Int) (t24 : List Int) (t25 : Int) (t26 : Int) (m : List (List Int)) : Option β :=
  cond (decide (t26 < t25))
  (cond (decide (0 ≤ t26) && decide (t26 < (List.length t24 : Int)))
  (let e : Int := List.getD t24 (Int.toNat t26) (0 : Int);
  c_order_in e (0 : Int) (IntKind.i64.wrap ((List.length l : Int) - (1 : Int))) (fun (rin : Bool) =>
  cond (!rin)
  (k1 false)
  (cond (decide (0 ≤ (0 : Int)) && (decide ((0 : Int) ≤ t26) && decide (t26 ≤ (List.length l : Int))))
  (c_slices_Contains_int_int (List.drop (Int.toNat (0 : Int)) (List.take (Int.toNat t26) l)) e (fun (rContainsintint : Bool) =>
  cond rContainsintint
  (k1 false)
  (cond (decide (0 ≤ (0 : Int)) && (decide ((0 : Int) ≤ t26) && decide (t26 ≤ (List.length l : Int))))
  (c_slices_ContainsFunc_int_int_vorder_Allows_f1 (List.drop (Int.toNat (0 : Int)) (List.take (Int.toNat t26) l)) m e (fun (rContainsFuncintint : Bool) (mrContainsFuncintint : List (List Int)) (mrContainsFuncintint2 : Int) =>
  cond rContainsFuncintint
  (k1 false)
  (rec l t24 t25 (IntKind.i64.wrap (t26 + (1 : Int))) mrContainsFuncintint)))
  none)))
  none)))
  none)
  (k2 ())
def zql4 {β : Type} : Nat → zqky β → zqkz β → (List Int) → (List Int) → Int → Int → (List (List Int)) → Option β
  | 0 => fun _ _ _ _ _ _ _ => none
  | i + 1 => fun k1 k2 l t24 t25 t26 m => zql3 c_order_in c_slices_ContainsFunc_int_int_vorder_Allows_f1 c_slices_Contains_int_int (zql4 i k1 k2) k1 k2 l t24 t25 t26 m
theorem zql5 (hΓ : ΓOk Tryd.prog (order_Allows_X c_order_closed c_order_in c_slices_ContainsFunc_int_int_vorder_Allows_f1 c_slices_Contains_int_int).Γ) (i : Nat) : PieceOk Tryd.prog 52 0 order_Allows_p1_code zql1 zql2 (order_Allows_p1_G (zql4 c_order_in c_slices_ContainsFunc_int_int_vorder_Allows_f1 c_slices_Contains_int_int i)) := by
  rw [show order_Allows_p1_code = .loop (loopBody order_Allows_p1_code) by kernel_rfl]
  exact piece_loop (X := (order_Allows_X c_order_closed c_order_in c_slices_ContainsFunc_int_int_vorder_Allows_f1 c_slices_Contains_int_int)) (p := 1) (Λ := pick1 []) (G := fun i => @fun β d ks => order_Allows_p1_G (zql4 c_order_in c_slices_ContainsFunc_int_int_vorder_Allows_f1 c_slices_Contains_int_int i) d ks) mixed tab_ok hΓ rfl (by kernel_rfl) CutsOk_nil (fun _ _ => rfl) (fun i => @fun β d ks r h => Eq.trans (b := order_Allows_p1_G (zql4 c_order_in c_slices_ContainsFunc_int_int_vorder_Allows_f1 c_slices_Contains_int_int (i + 1)) d ks) (by kernel_rfl) h) i
def zql6 (p1 : zql0) {β : Type} (r_ : zq2) (l : List Int) (k : (Bool → Option β)) : Option β :=
  c_order_closed r_ (fun (rclosed : List (List Int)) (rclosed2 : Bool) =>
  cond (!rclosed2)
  (k false)
  (cond (!decide ((List.length l : Int) = (List.length r_.2.2.1 : Int)))
  (k false)
  (p1 (fun (t4 : Bool) =>
  k t4) (fun (_ : Unit) =>
  k true) l l (List.length l : Int) (0 : Int) rclosed)))
theorem zql7 (hΓ : ΓOk Tryd.prog (order_Allows_X c_order_closed c_order_in c_slices_ContainsFunc_int_int_vorder_Allows_f1 c_slices_Contains_int_int).Γ) (p1 : zql0) (hp1 : PieceOk Tryd.prog 52 0 order_Allows_p1_code zql1 zql2 (order_Allows_p1_G p1)) : SpecOk Tryd.prog 33 (zqkx (zql6 c_order_closed p1)) :=
  spec_exec (X := (order_Allows_X c_order_closed c_order_in c_slices_ContainsFunc_int_int_vorder_Allows_f1 c_slices_Contains_int_int)) (Λ := pick1 [(122, pieceCut zql1 zql2 (order_Allows_p1_G p1))]) (rs := [.tmp 4]) (c := bodyOf Tryd.f33) mixed tab_ok hΓ Tryd.func33 (by kernel_rfl) (by kernel_rfl) (by kernel_rfl) (by kernel_rfl) (CutsOk_cons (q := 122) (c' := order_Allows_p1_code) (by kernel_rfl) rfl hp1 CutsOk_nil) (fun x k r h => Eq.trans (b := (zqkx (zql6 c_order_closed p1)).run x k) (by kernel_rfl) h)
end
theorem zql8Γ : ΓOk Tryd.prog (pick1 [(27, .spec (zqga zqge)), (52, .spec (zq3l zq3p)), (54, .spec (zqkq zqku)), (53, .spec (zq8u zq8y))]) := (ΓOk_cons zqgf (ΓOk_cons zq3q (ΓOk_cons zqkv (ΓOk_cons zq8z ΓOk_nil))))
def zql9 (m : Nat) : zql0 := zql4 zq3p zqku zq8y m
theorem zqla {β : Type} (i : Nat) (k1 k2 l t24 t25 t26 m) : (zql9 (i + 1) k1 k2 l t24 t25 t26 m : Option β) = zql3 zq3p zqku zq8y (zql9 i k1 k2) k1 k2 l t24 t25 t26 m := rfl
def zqlb : zql0 := zql9 fuel
theorem zqlc : PieceOk Tryd.prog 52 0 order_Allows_p1_code zql1 zql2 (order_Allows_p1_G zqlb) := zql5 zqge zq3p zqku zq8y zql8Γ fuel
def zqld : zqkw := zql6 zqge zqlb
theorem zqle : SpecOk Tryd.prog 33 (zqkx zqld) := zql7 zqge zq3p zqku zq8y zql8Γ zqlb zqlc

/-- slices.EqualFunc[[]pagewatch/api.Row,[]pagewatch/api.Row,pagewatch/api.Row,pagewatch/api.Row] -/
abbrev zqlf := {β : Type} → (List api_Row) → (List api_Row) → (Bool → Option β) → Option β
def zqlg (c : zqlf) : Spec :=
  ⟨[(false, [.data (.slice zq4)]), (false, [.data (.slice zq4)]), (false, [.fn 35 []])], [], [(false, [.data .bool])], [], fun x k => c x.1.1.1 x.1.2.1.1 (fun r0 => k (((r0, ()), ()), ()))⟩
noncomputable def slices_EqualFunc_api_Row_api_Row_api_Row_api_Row_vtimeline_Check_f1_p1_code : Code := codeAt 58 (bodyOf Tryd.f34)
abbrev zqlh (β : Type) := Bool → Option β
abbrev zqli (β : Type) := Unit → Option β
abbrev zqlj := {β : Type} → zqlh β → zqli β → (List api_Row) → (List api_Row) → Int → Int → Option β
def zqlk : View := ⟨0, [1, 2, 15, 16, 17], [(false, [.data (.slice zq4)]), (false, [.fn 35 []]), (false, [.data (.slice zq4)]), (false, [.data (.int .i64)]), (false, [.data (.int .i64)])], []⟩
def zqll : List (AExit × View) := [(.ret, ⟨0, [6], [(false, [.data .bool])], []⟩), (.exit 0, ⟨0, [], [], []⟩)]
@[reducible] def slices_EqualFunc_api_Row_api_Row_api_Row_api_Row_vtimeline_Check_f1_p1_G (p : zqlj) {β : Type} (d : zqlk.den) (ks : Outs.K β zqll) : Option β :=
  p (fun a0 => ks.1 (((a0, ()), ()), ())) (fun _ => ks.2.1 ((), ())) d.1.1.1 d.1.2.2.1.1 d.1.2.2.2.1.1 d.1.2.2.2.2.1.1
section
variable (c_timeline_Check_f1 : zq8f)
@[reducible] def slices_EqualFunc_api_Row_api_Row_api_Row_api_Row_vtimeline_Check_f1_X : Ctx := ⟨look tab, pick1 [(35, .spec (zq8g c_timeline_Check_f1))], false, false, false, false, false⟩
def zqlm {β : Type} (rec : (List api_Row) → (List api_Row) → Int → Int → Option β) (k1 : zqlh β) (k2 : zqli β) (s2 : List api_Row) (t15 : List api_Row) (t16 : Int) (t17 : Int) : Option β :=
  cond (decide (t17 < t16))
  (cond (decide (0 ≤ t17) && decide (t17 < (List.length t15 : Int)))
  (let e : api_Row := List.getD t15 (Int.toNat t17) ((0 : Int), (((0 : Int), (0 : Int)), ([] : List Int)));
  cond (decide (0 ≤ t17) && decide (t17 < (List.length s2 : Int)))
  (let e2 : api_Row := List.getD s2 (Int.toNat t17) ((0 : Int), (((0 : Int), (0 : Int)), ([] : List Int)));
  c_timeline_Check_f1 e e2 (fun (rCheck1 : Bool) =>
  cond (!rCheck1)
  (k1 false)
  (rec s2 t15 t16 (IntKind.i64.wrap (t17 + (1 : Int))))))
  none)
  none)
  (k2 ())
def zqln {β : Type} : Nat → zqlh β → zqli β → (List api_Row) → (List api_Row) → Int → Int → Option β
  | 0 => fun _ _ _ _ _ _ => none
  | i + 1 => fun k1 k2 s2 t15 t16 t17 => zqlm c_timeline_Check_f1 (zqln i k1 k2) k1 k2 s2 t15 t16 t17
theorem zqlo (hΓ : ΓOk Tryd.prog (slices_EqualFunc_api_Row_api_Row_api_Row_api_Row_vtimeline_Check_f1_X c_timeline_Check_f1).Γ) (i : Nat) : PieceOk Tryd.prog 32 0 slices_EqualFunc_api_Row_api_Row_api_Row_api_Row_vtimeline_Check_f1_p1_code zqlk zqll (slices_EqualFunc_api_Row_api_Row_api_Row_api_Row_vtimeline_Check_f1_p1_G (zqln c_timeline_Check_f1 i)) := by
  rw [show slices_EqualFunc_api_Row_api_Row_api_Row_api_Row_vtimeline_Check_f1_p1_code = .loop (loopBody slices_EqualFunc_api_Row_api_Row_api_Row_api_Row_vtimeline_Check_f1_p1_code) by kernel_rfl]
  exact piece_loop (X := (slices_EqualFunc_api_Row_api_Row_api_Row_api_Row_vtimeline_Check_f1_X c_timeline_Check_f1)) (p := 1) (Λ := pick1 []) (G := fun i => @fun β d ks => slices_EqualFunc_api_Row_api_Row_api_Row_api_Row_vtimeline_Check_f1_p1_G (zqln c_timeline_Check_f1 i) d ks) mixed tab_ok hΓ rfl (by kernel_rfl) CutsOk_nil (fun _ _ => rfl) (fun i => @fun β d ks r h => Eq.trans (b := slices_EqualFunc_api_Row_api_Row_api_Row_api_Row_vtimeline_Check_f1_p1_G (zqln c_timeline_Check_f1 (i + 1)) d ks) (by kernel_rfl) h) i
def zqlp (p1 : zqlj) {β : Type} (s1 : List api_Row) (s2 : List api_Row) (k : (Bool → Option β)) : Option β :=
  cond (!decide ((List.length s1 : Int) = (List.length s2 : Int)))
  (k false)
  (p1 (fun (t6 : Bool) =>
  k t6) (fun (_ : Unit) =>
  k true) s2 s1 (List.length s1 : Int) (0 : Int))
theorem zqlq (hΓ : ΓOk Tryd.prog (slices_EqualFunc_api_Row_api_Row_api_Row_api_Row_vtimeline_Check_f1_X c_timeline_Check_f1).Γ) (p1 : zqlj) (hp1 : PieceOk Tryd.prog 32 0 slices_EqualFunc_api_Row_api_Row_api_Row_api_Row_vtimeline_Check_f1_p1_code zqlk zqll (slices_EqualFunc_api_Row_api_Row_api_Row_api_Row_vtimeline_Check_f1_p1_G p1)) : SpecOk Tryd.prog 34 (zqlg (zqlp p1)) :=
  spec_exec (X := (slices_EqualFunc_api_Row_api_Row_api_Row_api_Row_vtimeline_Check_f1_X c_timeline_Check_f1)) (Λ := pick1 [(58, pieceCut zqlk zqll (slices_EqualFunc_api_Row_api_Row_api_Row_api_Row_vtimeline_Check_f1_p1_G p1))]) (rs := [.tmp 6]) (c := bodyOf Tryd.f34) mixed tab_ok hΓ Tryd.func34 (by kernel_rfl) (by kernel_rfl) (by kernel_rfl) (by kernel_rfl) (CutsOk_cons (q := 58) (c' := slices_EqualFunc_api_Row_api_Row_api_Row_api_Row_vtimeline_Check_f1_p1_code) (by kernel_rfl) rfl hp1 CutsOk_nil) (fun x k r h => Eq.trans (b := (zqlg (zqlp p1)).run x k) (by kernel_rfl) h)
end
theorem zqlrΓ : ΓOk Tryd.prog (pick1 [(35, .spec (zq8g zq8k))]) := (ΓOk_cons zq8l ΓOk_nil)
def zqls (m : Nat) : zqlj := zqln zq8k m
theorem zqlt {β : Type} (i : Nat) (k1 k2 s2 t15 t16 t17) : (zqls (i + 1) k1 k2 s2 t15 t16 t17 : Option β) = zqlm zq8k (zqls i k1 k2) k1 k2 s2 t15 t16 t17 := rfl
def zqlu : zqlj := zqls fuel
theorem zqlv : PieceOk Tryd.prog 32 0 slices_EqualFunc_api_Row_api_Row_api_Row_api_Row_vtimeline_Check_f1_p1_code zqlk zqll (slices_EqualFunc_api_Row_api_Row_api_Row_api_Row_vtimeline_Check_f1_p1_G zqlu) := zqlo zq8k zqlrΓ fuel
def zqlw : zqlf := zqlp zqlu
theorem zqlx : SpecOk Tryd.prog 34 (zqlg zqlw) := zqlq zq8k zqlrΓ zqlu zqlv

/-- pagewatch/timeline.Check -/
abbrev zqly := {β : Type} → zq2 → (List api_Row) → (Bool → Option β) → Option β
def zqlz (c : zqly) : Spec :=
  ⟨[(true, [.data zq3]), (false, [.data (.slice zq4)])], [], [(false, [.data .bool])], [], fun x k => c x.1.1.1 x.1.2.1.1 (fun r0 => k (((r0, ()), ()), ()))⟩
noncomputable def timeline_Check_p1_code : Code := codeAt 58 (bodyOf Tryd.f17)
abbrev zqm0 (β : Type) := (List api_Row) → (List (List UInt8 × Int)) → (List (Int × (Int × (Int × Int)))) → (List zq0) → (List (Int × (Int × Int))) → (List Int) → Option β
abbrev zqm1 := {β : Type} → zqm0 β → (List api_Row) → (List api_Row) → Int → Int → (List (List UInt8 × Int)) → (List (Int × (Int × (Int × Int)))) → (List zq0) → (List (Int × (Int × Int))) → (List Int) → Option β
def zqm2 : View := ⟨0, [1, 2, 5, 8, 9, 10], [(false, [.data (.slice zq4)]), (false, [.ptr 0 0]), (false, [.rowh 1]), (false, [.data (.slice zq4)]), (false, [.data (.int .i64)]), (false, [.data (.int .i64)])], [.cells 32 [.data (.slice (.prod .str (.int .i64))), .data (.slice (.prod (.int .i64) (.prod (.int .i64) (.prod (.int .i64) (.int .i64))))), .data (.slice zq1), .data (.slice (.prod (.int .i64) (.prod (.int .i64) (.int .i64))))], .row 3 (.int .i64)]⟩
def zqm3 : List (AExit × View) := [(.exit 0, ⟨0, [1, 2, 5], [(false, [.data (.slice zq4)]), (false, [.ptr 0 0]), (false, [.rowh 1])], [.cells 32 [.data (.slice (.prod .str (.int .i64))), .data (.slice (.prod (.int .i64) (.prod (.int .i64) (.prod (.int .i64) (.int .i64))))), .data (.slice zq1), .data (.slice (.prod (.int .i64) (.prod (.int .i64) (.int .i64))))], .row 3 (.int .i64)]⟩)]
@[reducible] def timeline_Check_p1_G (p : zqm1) {β : Type} (d : zqm2.den) (ks : Outs.K β zqm3) : Option β :=
  p (fun a0 a1 a2 a3 a4 a5 => ks.1 (((a0, ()), (), (), ()), ((a1, a2, a3, a4, ()), a5, ()))) d.1.1.1 d.1.2.2.2.1.1 d.1.2.2.2.2.1.1 d.1.2.2.2.2.2.1.1 d.2.1.1 d.2.1.2.1 d.2.1.2.2.1 d.2.1.2.2.2.1 d.2.2.1
section
variable (c_order_Allows : zqkw) (c_slices_EqualFunc_api_Row_api_Row_api_Row_api_Row_vtimeline_Check_f1 : zqlf) (c_timeline_rows : zqiv)
@[reducible] def timeline_Check_X : Ctx := ⟨look tab, pick1 [(33, .spec (zqkx c_order_Allows)), (34, .spec (zqlg c_slices_EqualFunc_api_Row_api_Row_api_Row_api_Row_vtimeline_Check_f1)), (16, .spec (zqiw c_timeline_rows))], false, false, false, false, false⟩
def zqm4 {β : Type} (rec : (List api_Row) → (List api_Row) → Int → Int → (List (List UInt8 × Int)) → (List (Int × (Int × (Int × Int)))) → (List zq0) → (List (Int × (Int × Int))) → (List Int) → Option β) (k1 : zqm0 β) (l : List api_Row) (t8 : List api_Row) (t9 : Int) (t10 : Int) (r_ : List (List UInt8 × Int)) (r_2 : List (Int × (Int × (Int × Int)))) (r_3 : List zq0) (r_4 : List (Int × (Int × Int))) (events : List Int) : Option β :=
  cond (decide (t10 < t9))
  (cond (decide (0 ≤ t10) && decide (t10 < (List.length t8 : Int)))
  (let e : api_Row := List.getD t8 (Int.toNat t10) ((0 : Int), (((0 : Int), (0 : Int)), ([] : List Int)));
  let l2 : List Int := ([e.1] : List Int);
  cond (decide ((List.length events + List.length l2) * 8 ≤ roomMax))
  (let l3 : List Int := (events ++ l2);
  rec l t8 t9 (IntKind.i64.wrap (t10 + (1 : Int))) r_ r_2 r_3 r_4 l3)
  none)
  none)
  (k1 l r_ r_2 r_3 r_4 events)
def zqm5 {β : Type} : Nat → zqm0 β → (List api_Row) → (List api_Row) → Int → Int → (List (List UInt8 × Int)) → (List (Int × (Int × (Int × Int)))) → (List zq0) → (List (Int × (Int × Int))) → (List Int) → Option β
  | 0 => fun _ _ _ _ _ _ _ _ _ _ => none
  | i + 1 => fun k1 l t8 t9 t10 r_ r_2 r_3 r_4 events => zqm4 (zqm5 i k1) k1 l t8 t9 t10 r_ r_2 r_3 r_4 events
theorem zqm6 (hΓ : ΓOk Tryd.prog (timeline_Check_X c_order_Allows c_slices_EqualFunc_api_Row_api_Row_api_Row_api_Row_vtimeline_Check_f1 c_timeline_rows).Γ) (i : Nat) : PieceOk Tryd.prog 30 0 timeline_Check_p1_code zqm2 zqm3 (timeline_Check_p1_G (zqm5 i)) := by
  rw [show timeline_Check_p1_code = .loop (loopBody timeline_Check_p1_code) by kernel_rfl]
  exact piece_loop (X := (timeline_Check_X c_order_Allows c_slices_EqualFunc_api_Row_api_Row_api_Row_api_Row_vtimeline_Check_f1 c_timeline_rows)) (p := 1) (Λ := pick1 []) (G := fun i => @fun β d ks => timeline_Check_p1_G (zqm5 i) d ks) mixed tab_ok hΓ rfl (by kernel_rfl) CutsOk_nil (fun _ _ => rfl) (fun i => @fun β d ks r h => Eq.trans (b := timeline_Check_p1_G (zqm5 (i + 1)) d ks) (by kernel_rfl) h) i
def zqm7 (p1 : zqm1) {β : Type} (r_ : zq2) (l : List api_Row) (k : (Bool → Option β)) : Option β :=
  p1 (fun (l2 : List api_Row) (r_2 : List (List UInt8 × Int)) (r_3 : List (Int × (Int × (Int × Int)))) (r_4 : List zq0) (r_5 : List (Int × (Int × Int))) (events : List Int) =>
  c_order_Allows (r_2, (r_3, (r_4, r_5))) events (fun (rAllows : Bool) =>
  cond rAllows
  (c_timeline_rows (r_2, (r_3, (r_4, r_5))) events (fun (lrrows : List api_Row) =>
  c_slices_EqualFunc_api_Row_api_Row_api_Row_api_Row_vtimeline_Check_f1 l2 lrrows (fun (rRow : Bool) =>
  k rRow)))
  (k false))) l l (List.length l : Int) (0 : Int) r_.1 r_.2.1 r_.2.2.1 r_.2.2.2 ([] : List Int)
theorem zqm8 (hΓ : ΓOk Tryd.prog (timeline_Check_X c_order_Allows c_slices_EqualFunc_api_Row_api_Row_api_Row_api_Row_vtimeline_Check_f1 c_timeline_rows).Γ) (p1 : zqm1) (hp1 : PieceOk Tryd.prog 30 0 timeline_Check_p1_code zqm2 zqm3 (timeline_Check_p1_G p1)) : SpecOk Tryd.prog 17 (zqlz (zqm7 c_order_Allows c_slices_EqualFunc_api_Row_api_Row_api_Row_api_Row_vtimeline_Check_f1 c_timeline_rows p1)) :=
  spec_exec (X := (timeline_Check_X c_order_Allows c_slices_EqualFunc_api_Row_api_Row_api_Row_api_Row_vtimeline_Check_f1 c_timeline_rows)) (Λ := pick1 [(58, pieceCut zqm2 zqm3 (timeline_Check_p1_G p1))]) (rs := [.tmp 4]) (c := bodyOf Tryd.f17) mixed tab_ok hΓ Tryd.func17 (by kernel_rfl) (by kernel_rfl) (by kernel_rfl) (by kernel_rfl) (CutsOk_cons (q := 58) (c' := timeline_Check_p1_code) (by kernel_rfl) rfl hp1 CutsOk_nil) (fun x k r h => Eq.trans (b := (zqlz (zqm7 c_order_Allows c_slices_EqualFunc_api_Row_api_Row_api_Row_api_Row_vtimeline_Check_f1 c_timeline_rows p1)).run x k) (by kernel_rfl) h)
end
theorem zqm9Γ : ΓOk Tryd.prog (pick1 [(33, .spec (zqkx zqld)), (34, .spec (zqlg zqlw)), (16, .spec (zqiw zqjx))]) := (ΓOk_cons zqle (ΓOk_cons zqlx (ΓOk_cons zqjy ΓOk_nil)))
def zqma (m : Nat) : zqm1 := zqm5 m
theorem zqmb {β : Type} (i : Nat) (k1 l t8 t9 t10 r_ r_2 r_3 r_4 events) : (zqma (i + 1) k1 l t8 t9 t10 r_ r_2 r_3 r_4 events : Option β) = zqm4 (zqma i k1) k1 l t8 t9 t10 r_ r_2 r_3 r_4 events := rfl
def zqmc : zqm1 := zqma fuel
theorem zqmd : PieceOk Tryd.prog 30 0 timeline_Check_p1_code zqm2 zqm3 (timeline_Check_p1_G zqmc) := zqm6 zqld zqlw zqjx zqm9Γ fuel
def zqme : zqly := zqm7 zqld zqlw zqjx zqmc
theorem zqmf : SpecOk Tryd.prog 17 (zqlz zqme) := zqm8 zqld zqlw zqjx zqm9Γ zqmc zqmd

/-- pagewatch/timeline.Text -/
abbrev zqmg := {β : Type} → zq2 → (List api_Row) → ((List UInt8) → Int → Option β) → Option β
def zqmh (c : zqmg) : Spec :=
  ⟨[(true, [.data zq3]), (false, [.data (.slice zq4)])], [], [(false, [.data .str]), (false, [.data (.int .i64)])], [], fun x k => c x.1.1.1 x.1.2.1.1 (fun r0 r1 => k (((r0, ()), (r1, ()), ()), ()))⟩
noncomputable def timeline_Text_p2_code : Code := codeAt 122 (bodyOf Tryd.f10)
noncomputable def timeline_Text_p1_code : Code := codeAt 927 (loopBody timeline_Text_p2_code)
abbrev zqmi (β : Type) := (List api_Row) → Int → Int → (List (List UInt8 × Int)) → (List (Int × (Int × (Int × Int)))) → (List zq0) → (List (Int × (Int × Int))) → (List Int) → Option β
abbrev zqmj := {β : Type} → zqmi β → (List api_Row) → Int → Int → (List (List UInt8 × Int)) → (List (Int × (Int × (Int × Int)))) → (List zq0) → (List (Int × (Int × Int))) → Int → Int → Int → (List Int) → Int → Int → (List UInt8) → (List Int) → Option β
def zqmk : View := ⟨0, [2, 6, 8, 9, 14, 15, 16], [(false, [.ptr 0 0]), (false, [.ptr 1 0]), (false, [.ptr 2 0]), (false, [.ptr 3 0]), (false, [.data (.slice zq4)]), (false, [.data (.int .i64)]), (false, [.data (.int .i64)])], [.cells 32 [.data (.slice (.prod .str (.int .i64))), .data (.slice (.prod (.int .i64) (.prod (.int .i64) (.prod (.int .i64) (.int .i64))))), .data (.slice zq1), .data (.slice (.prod (.int .i64) (.prod (.int .i64) (.int .i64))))], .cells 68 [.bself 1, .rowh 4], .cells 46 [.data (.int .i64), .data (.int .i64), .data (.int .i64), .data (.slice (.int .i64))], .cells 49 [.data (.int .i64), .data (.int .i64), .data .str], .row 5 (.int .u8)]⟩
def zqml : List (AExit × View) := [(.normal, ⟨0, [2, 6, 14, 15, 16], [(false, [.ptr 0 0]), (false, [.ptr 1 0]), (false, [.data (.slice zq4)]), (false, [.data (.int .i64)]), (false, [.data (.int .i64)])], [.cells 32 [.data (.slice (.prod .str (.int .i64))), .data (.slice (.prod (.int .i64) (.prod (.int .i64) (.prod (.int .i64) (.int .i64))))), .data (.slice zq1), .data (.slice (.prod (.int .i64) (.prod (.int .i64) (.int .i64))))], .cells 68 [.bself 1, .rowh 2], .row 5 (.int .u8)]⟩)]
@[reducible] def timeline_Text_p1_G (p : zqmj) {β : Type} (d : zqmk.den) (ks : Outs.K β zqml) : Option β :=
  p (fun a0 a1 a2 a3 a4 a5 a6 a7 => ks.1 (((), (), (a0, ()), (a1, ()), (a2, ()), ()), ((a3, a4, a5, a6, ()), (), a7, ()))) d.1.2.2.2.2.1.1 d.1.2.2.2.2.2.1.1 d.1.2.2.2.2.2.2.1.1 d.2.1.1 d.2.1.2.1 d.2.1.2.2.1 d.2.1.2.2.2.1 d.2.2.2.1.1 d.2.2.2.1.2.1 d.2.2.2.1.2.2.1 d.2.2.2.1.2.2.2.1 d.2.2.2.2.1.1 d.2.2.2.2.1.2.1 d.2.2.2.2.1.2.2.1 d.2.2.2.2.2.1
abbrev zqmm (β : Type) := (List UInt8) → Int → Option β
abbrev zqmn (β : Type) := (List Int) → Option β
abbrev zqmo := {β : Type} → zqmm β → zqmn β → (List api_Row) → Int → Int → (List (List UInt8 × Int)) → (List (Int × (Int × (Int × Int)))) → (List zq0) → (List (Int × (Int × Int))) → (List Int) → Option β
def zqmp : View := ⟨0, [2, 6, 14, 15, 16], [(false, [.ptr 0 0]), (false, [.ptr 1 0]), (false, [.data (.slice zq4)]), (false, [.data (.int .i64)]), (false, [.data (.int .i64)])], [.cells 32 [.data (.slice (.prod .str (.int .i64))), .data (.slice (.prod (.int .i64) (.prod (.int .i64) (.prod (.int .i64) (.int .i64))))), .data (.slice zq1), .data (.slice (.prod (.int .i64) (.prod (.int .i64) (.int .i64))))], .cells 68 [.bself 1, .rowh 2], .row 5 (.int .u8)]⟩
def zqmq : List (AExit × View) := [(.ret, ⟨0, [4, 5], [(false, [.data .str]), (false, [.data (.int .i64)])], []⟩), (.exit 0, ⟨0, [6], [(false, [.ptr 0 0])], [.cells 68 [.bself 0, .rowh 1], .row 5 (.int .u8)]⟩)]
@[reducible] def timeline_Text_p2_G (p : zqmo) {β : Type} (d : zqmp.den) (ks : Outs.K β zqmq) : Option β :=
  p (fun a0 a1 => ks.1 (((a0, ()), (a1, ()), ()), ())) (fun a0 => ks.2.1 (((), ()), ((), a0, ()))) d.1.2.2.1.1 d.1.2.2.2.1.1 d.1.2.2.2.2.1.1 d.2.1.1 d.2.1.2.1 d.2.1.2.2.1 d.2.1.2.2.2.1 d.2.2.2.1
section
variable (c_strconv_Itoa : zq1m) (c_timeline_Check : zqly) (c_timeline_printed : zqx)
@[reducible] def timeline_Text_X : Ctx := ⟨look tab, pick1 [(20, .spec (zq1n c_strconv_Itoa)), (17, .spec (zqlz c_timeline_Check)), (18, .spec (zqy c_timeline_printed)), (21, .bld zq1s), (22, .bld zq1w), (19, .bld zq1i)], false, false, false, false, false⟩
def zqmr {β : Type} (k1 : zqmi β) (t14 : List api_Row) (t15 : Int) (t16 : Int) (r_ : List (List UInt8 × Int)) (r_2 : List (Int × (Int × (Int × Int)))) (r_3 : List zq0) (r_4 : List (Int × (Int × Int))) (x : Int) (x2 : Int) (x3 : Int) (x4 : List Int) (e : Int) (e2 : Int) (e3 : List UInt8) (b4_ : List Int) : Option β :=
  cond (decide (0 ≤ e) && decide (e < (List.length r_ : Int)))
  (let e4 : (List UInt8 × Int) := List.getD r_ (Int.toNat e) (([] : List UInt8), (0 : Int));
  cond (decide (List.length ([32] : List UInt8) + List.length e4.1 ≤ 9223372036854775807))
  (cond (decide (List.length (([32] : List UInt8) ++ e4.1) + List.length ([32] : List UInt8) ≤ 9223372036854775807))
  (cond (decide (List.length ((([32] : List UInt8) ++ e4.1) ++ ([32] : List UInt8)) + List.length e3 ≤ 9223372036854775807))
  (cond (decide (List.length b4_ + List.length (((([32] : List UInt8) ++ e4.1) ++ ([32] : List UInt8)) ++ e3) ≤ 140737488355328))
  (let l : List Int := (b4_ ++ bytesI (((([32] : List UInt8) ++ e4.1) ++ ([32] : List UInt8)) ++ e3));
  cond (decide ((0 : Int) < (List.length x4 : Int)))
  (cond (decide (List.length l + List.length ([32, 111, 112, 101, 110] : List UInt8) ≤ 140737488355328))
  (let l2 : List Int := (l ++ bytesI ([32, 111, 112, 101, 110] : List UInt8));
  cond (decide (List.length l2 + List.length ([10] : List UInt8) ≤ 140737488355328))
  (let l3 : List Int := (l2 ++ bytesI ([10] : List UInt8));
  k1 t14 t15 t16 r_ r_2 r_3 r_4 l3)
  none)
  none)
  (cond (decide (List.length l + List.length ([10] : List UInt8) ≤ 140737488355328))
  (let l2 : List Int := (l ++ bytesI ([10] : List UInt8));
  k1 t14 t15 t16 r_ r_2 r_3 r_4 l2)
  none))
  none)
  none)
  none)
  none)
  none
def zqms {β : Type} (k1 : zqmi β) (t14 : List api_Row) (t15 : Int) (t16 : Int) (r_ : List (List UInt8 × Int)) (r_2 : List (Int × (Int × (Int × Int)))) (r_3 : List zq0) (r_4 : List (Int × (Int × Int))) (x : Int) (x2 : Int) (x3 : Int) (x4 : List Int) (e : Int) (e2 : Int) (e3 : List UInt8) (b4_ : List Int) : Option β := zqmr k1 t14 t15 t16 r_ r_2 r_3 r_4 x x2 x3 x4 e e2 e3 b4_
theorem zqmt (hΓ : ΓOk Tryd.prog (timeline_Text_X c_strconv_Itoa c_timeline_Check c_timeline_printed).Γ) : PieceOk Tryd.prog 82 0 timeline_Text_p1_code zqmk zqml (timeline_Text_p1_G (zqms)) :=
  piece_exec (X := (timeline_Text_X c_strconv_Itoa c_timeline_Check c_timeline_printed)) (p := 927) (Λ := pick1 []) mixed tab_ok hΓ (by kernel_rfl) CutsOk_nil (fun d ks r h => Eq.trans (b := timeline_Text_p1_G (zqms) d ks) (by kernel_rfl) h)
def zqmu (p1 : zqmj) {β : Type} (rec : (List api_Row) → Int → Int → (List (List UInt8 × Int)) → (List (Int × (Int × (Int × Int)))) → (List zq0) → (List (Int × (Int × Int))) → (List Int) → Option β) (k1 : zqmm β) (k2 : zqmn β) (t14 : List api_Row) (t15 : Int) (t16 : Int) (r_ : List (List UInt8 × Int)) (r_2 : List (Int × (Int × (Int × Int)))) (r_3 : List zq0) (r_4 : List (Int × (Int × Int))) (b2_ : List Int) : Option β :=
  cond (decide (t16 < t15))
  (cond (decide (0 ≤ t16) && decide (t16 < (List.length t14 : Int)))
  (let e : api_Row := List.getD t14 (Int.toNat t16) ((0 : Int), (((0 : Int), (0 : Int)), ([] : List Int)));
  cond (decide (0 ≤ e.1) && decide (e.1 < (List.length r_3 : Int)))
  (let e2 : zq0 := List.getD r_3 (Int.toNat e.1) ((0 : Int), ((0 : Int), ([] : List UInt8)));
  cond (decide (0 ≤ e2.1) && decide (e2.1 < (List.length r_ : Int)))
  (let e3 : (List UInt8 × Int) := List.getD r_ (Int.toNat e2.1) (([] : List UInt8), (0 : Int));
  c_timeline_printed e3.1 (33 : Int) (fun (rprinted : Bool) =>
  cond (!rprinted)
  (k1 ([] : List UInt8) (2 : Int))
  (c_timeline_printed e2.2.2 (32 : Int) (fun (rprinted2 : Bool) =>
  cond (!rprinted2)
  (k1 ([] : List UInt8) (2 : Int))
  (c_strconv_Itoa e.2.1.1 (fun (rItoa : List UInt8) =>
  cond (decide (List.length b2_ + List.length rItoa ≤ 140737488355328))
  (let l : List Int := (b2_ ++ bytesI rItoa);
  cond (!decide (e.2.1.2 = e.2.1.1))
  (c_strconv_Itoa e.2.1.2 (fun (rItoa2 : List UInt8) =>
  cond (decide (List.length ([46, 46] : List UInt8) + List.length rItoa2 ≤ 9223372036854775807))
  (cond (decide (List.length l + List.length (([46, 46] : List UInt8) ++ rItoa2) ≤ 140737488355328))
  (let l2 : List Int := (l ++ bytesI (([46, 46] : List UInt8) ++ rItoa2));
  p1 (fun (t142 : List api_Row) (t152 : Int) (t162 : Int) (r_5 : List (List UInt8 × Int)) (r_6 : List (Int × (Int × (Int × Int)))) (r_7 : List zq0) (r_8 : List (Int × (Int × Int))) (b2_2 : List Int) =>
  rec t142 t152 (IntKind.i64.wrap (t162 + (1 : Int))) r_5 r_6 r_7 r_8 b2_2) t14 t15 t16 r_ r_2 r_3 r_4 e.1 e.2.1.1 e.2.1.2 e.2.2 e2.1 e2.2.1 e2.2.2 l2)
  none)
  none))
  (p1 (fun (t142 : List api_Row) (t152 : Int) (t162 : Int) (r_5 : List (List UInt8 × Int)) (r_6 : List (Int × (Int × (Int × Int)))) (r_7 : List zq0) (r_8 : List (Int × (Int × Int))) (b2_2 : List Int) =>
  rec t142 t152 (IntKind.i64.wrap (t162 + (1 : Int))) r_5 r_6 r_7 r_8 b2_2) t14 t15 t16 r_ r_2 r_3 r_4 e.1 e.2.1.1 e.2.1.2 e.2.2 e2.1 e2.2.1 e2.2.2 l))
  none))))))
  none)
  none)
  none)
  (k2 b2_)
def zqmv (p1 : zqmj) {β : Type} : Nat → zqmm β → zqmn β → (List api_Row) → Int → Int → (List (List UInt8 × Int)) → (List (Int × (Int × (Int × Int)))) → (List zq0) → (List (Int × (Int × Int))) → (List Int) → Option β
  | 0 => fun _ _ _ _ _ _ _ _ _ _ => none
  | i + 1 => fun k1 k2 t14 t15 t16 r_ r_2 r_3 r_4 b2_ => zqmu c_strconv_Itoa c_timeline_printed p1 (zqmv p1 i k1 k2) k1 k2 t14 t15 t16 r_ r_2 r_3 r_4 b2_
theorem zqmw (hΓ : ΓOk Tryd.prog (timeline_Text_X c_strconv_Itoa c_timeline_Check c_timeline_printed).Γ) (p1 : zqmj) (hp1 : PieceOk Tryd.prog 82 0 timeline_Text_p1_code zqmk zqml (timeline_Text_p1_G p1)) (i : Nat) : PieceOk Tryd.prog 82 0 timeline_Text_p2_code zqmp zqmq (timeline_Text_p2_G (zqmv c_strconv_Itoa c_timeline_printed p1 i)) := by
  rw [show timeline_Text_p2_code = .loop (loopBody timeline_Text_p2_code) by kernel_rfl]
  exact piece_loop (X := (timeline_Text_X c_strconv_Itoa c_timeline_Check c_timeline_printed)) (p := 1) (Λ := pick1 [(927, pieceCut zqmk zqml (timeline_Text_p1_G p1))]) (G := fun i => @fun β d ks => timeline_Text_p2_G (zqmv c_strconv_Itoa c_timeline_printed p1 i) d ks) mixed tab_ok hΓ rfl (by kernel_rfl) (CutsOk_cons (q := 927) (c' := timeline_Text_p1_code) (by kernel_rfl) rfl hp1 CutsOk_nil) (fun _ _ => rfl) (fun i => @fun β d ks r h => Eq.trans (b := timeline_Text_p2_G (zqmv c_strconv_Itoa c_timeline_printed p1 (i + 1)) d ks) (by kernel_rfl) h) i
def zqmx (p2 : zqmo) {β : Type} (r_ : zq2) (l : List api_Row) (k : ((List UInt8) → Int → Option β)) : Option β :=
  c_timeline_Check r_ l (fun (rCheck : Bool) =>
  cond (!rCheck)
  (k ([] : List UInt8) (8 : Int))
  (p2 (fun (t4 : List UInt8) (t5 : Int) =>
  k t4 t5) (fun (b1_ : List Int) =>
  cond (decide ((65536 : Int) < (List.length b1_ : Int)))
  (k ([] : List UInt8) (5 : Int))
  (cond (bytesOk b1_)
  (k (strOf b1_) (0 : Int))
  none)) l (List.length l : Int) (0 : Int) r_.1 r_.2.1 r_.2.2.1 r_.2.2.2 ([] : List Int)))
theorem zqmy (hΓ : ΓOk Tryd.prog (timeline_Text_X c_strconv_Itoa c_timeline_Check c_timeline_printed).Γ) (p2 : zqmo) (hp2 : PieceOk Tryd.prog 82 0 timeline_Text_p2_code zqmp zqmq (timeline_Text_p2_G p2)) : SpecOk Tryd.prog 10 (zqmh (zqmx c_timeline_Check p2)) :=
  spec_exec (X := (timeline_Text_X c_strconv_Itoa c_timeline_Check c_timeline_printed)) (Λ := pick1 [(122, pieceCut zqmp zqmq (timeline_Text_p2_G p2))]) (rs := [.tmp 4, .tmp 5]) (c := bodyOf Tryd.f10) mixed tab_ok hΓ Tryd.func10 (by kernel_rfl) (by kernel_rfl) (by kernel_rfl) (by kernel_rfl) (CutsOk_cons (q := 122) (c' := timeline_Text_p2_code) (by kernel_rfl) rfl hp2 CutsOk_nil) (fun x k r h => Eq.trans (b := (zqmh (zqmx c_timeline_Check p2)).run x k) (by kernel_rfl) h)
end
theorem zqmzΓ : ΓOk Tryd.prog (pick1 [(20, .spec (zq1n zq1o)), (17, .spec (zqlz zqme)), (18, .spec (zqy zq1e)), (21, .bld zq1s), (22, .bld zq1w), (19, .bld zq1i)]) := (ΓOk_cons zq1p (ΓOk_cons zqmf (ΓOk_cons zq1f (ΓOk_bld zq1t (ΓOk_bld zq1x (ΓOk_bld zq1j ΓOk_nil))))))
def zqn0 : zqmj := zqms
theorem zqn1 : PieceOk Tryd.prog 82 0 timeline_Text_p1_code zqmk zqml (timeline_Text_p1_G zqn0) := zqmt zq1o zqme zq1e zqmzΓ
def zqn2 (m : Nat) : zqmo := zqmv zq1o zq1e zqn0 m
theorem zqn3 {β : Type} (i : Nat) (k1 k2 t14 t15 t16 r_ r_2 r_3 r_4 b2_) : (zqn2 (i + 1) k1 k2 t14 t15 t16 r_ r_2 r_3 r_4 b2_ : Option β) = zqmu zq1o zq1e zqn0 (zqn2 i k1 k2) k1 k2 t14 t15 t16 r_ r_2 r_3 r_4 b2_ := rfl
def zqn4 : zqmo := zqn2 fuel
theorem zqn5 : PieceOk Tryd.prog 82 0 timeline_Text_p2_code zqmp zqmq (timeline_Text_p2_G zqn4) := zqmw zq1o zqme zq1e zqmzΓ zqn0 zqn1 fuel
def zqn6 : zqmg := zqmx zqme zqn4
theorem zqn7 : SpecOk Tryd.prog 10 (zqmh zqn6) := zqmy zq1o zqme zq1e zqmzΓ zqn4 zqn5

/-- pagewatch/pagewatchlaw41.sane -/
abbrev zqn8 := {β : Type} → (Bool → Option β) → Option β
def zqn9 (c : zqn8) : Spec :=
  ⟨[], [], [(false, [.data .bool])], [], fun x k => c  (fun r0 => k (((r0, ()), ()), ()))⟩
section
variable (c_timeline_Rows : zqjz) (c_timeline_Text : zqmg)
@[reducible] def law41_sane_X : Ctx := ⟨look tab, pick1 [(9, .spec (zqk0 c_timeline_Rows)), (10, .spec (zqmh c_timeline_Text))], false, false, true, false, false⟩
def zqna {β : Type} (k : (Bool → Option β)) : Option β :=
  let l : List (List UInt8 × Int) := ([(([100, 98] : List UInt8), (0 : Int))] : List (List UInt8 × Int));
  let l2 : List (Int × (Int × (Int × Int))) := ([((0 : Int), ((10 : Int), ((100 : Int), (100 : Int))))] : List (Int × (Int × (Int × Int))));
  let l3 : List zq0 := ([((0 : Int), ((20 : Int), ([100, 111, 119, 110] : List UInt8))), ((0 : Int), ((10 : Int), ([115, 108, 111, 119] : List UInt8)))] : List zq0);
  c_timeline_Rows (l, (l2, (l3, ([] : List (Int × (Int × Int)))))) (fun (rRows : Bool) (lrRows : List api_Row) =>
  c_timeline_Text (l, (l2, (l3, ([] : List (Int × (Int × Int)))))) lrRows (fun (rText : List UInt8) (rText2 : Int) =>
  cond rRows
  (cond (decide (rText2 = (0 : Int)))
  (let t : Bool := (decide (rText = ([49, 48, 48, 32, 100, 98, 32, 115, 108, 111, 119, 10, 49, 49, 48, 32, 100, 98, 32, 100, 111, 119, 110, 10] : List UInt8)));
  k t)
  (k false))
  (k false)))
theorem zqnb (hΓ : ΓOk Tryd.prog (law41_sane_X c_timeline_Rows c_timeline_Text).Γ) : SpecOk Tryd.prog 6 (zqn9 (zqna c_timeline_Rows c_timeline_Text)) :=
  spec_exec (X := (law41_sane_X c_timeline_Rows c_timeline_Text)) (Λ := pick1 []) (rs := [.tmp 0]) (c := bodyOf Tryd.f6) mixed tab_ok hΓ Tryd.func6 (by kernel_rfl) (by kernel_rfl) (by kernel_rfl) (by kernel_rfl) CutsOk_nil (fun x k r h => Eq.trans (b := (zqn9 (zqna c_timeline_Rows c_timeline_Text)).run x k) (by kernel_rfl) h)
end
theorem zqncΓ : ΓOk Tryd.prog (pick1 [(9, .spec (zqk0 zqk4)), (10, .spec (zqmh zqn6))]) := (ΓOk_cons zqk5 (ΓOk_cons zqn7 ΓOk_nil))
def zqnd : zqn8 := zqna zqk4 zqn6
theorem zqne : SpecOk Tryd.prog 6 (zqn9 zqnd) := zqnb zqk4 zqn6 zqncΓ

/-- pagewatch/pagewatchlaw41.TimelineLines -/
abbrev zqnf := {β : Type} → (List Int) → (Bool → Option β) → Option β
def zqng (c : zqnf) : Spec :=
  ⟨[(false, [.data (.slice (.int .i64))])], [], [(false, [.data .bool])], [], fun x k => c x.1.1.1 (fun r0 => k (((r0, ()), ()), ()))⟩
noncomputable def law41_TimelineLines_p1_code : Code := codeAt 250 (bodyOf Tryd.f3)
noncomputable def law41_TimelineLines_p3_code : Code := codeAt 8186 (bodyOf Tryd.f3)
noncomputable def law41_TimelineLines_p2_code : Code := codeAt 103 (loopBody law41_TimelineLines_p3_code)
abbrev zqnh (β : Type) := (List (List UInt8 × Int)) → (List (Int × (Int × (Int × Int)))) → (List zq0) → (List (Int × (Int × Int))) → Option β
abbrev zqni := {β : Type} → zqnh β → Int → Int → (List (List UInt8 × Int)) → (List (Int × (Int × (Int × Int)))) → (List zq0) → (List (Int × (Int × Int))) → Option β
def zqnj : View := ⟨0, [4, 28, 29], [(false, [.ptr 0 0]), (false, [.data (.int .i64)]), (false, [.data (.int .i64)])], [.cells 32 [.rowh 1, .rowh 2, .rowh 3, .rowh 4], .row 36 (.prod .str (.int .i64)), .row 54 (.prod (.int .i64) (.prod (.int .i64) (.prod (.int .i64) (.int .i64)))), .row 49 zq1, .row 60 (.prod (.int .i64) (.prod (.int .i64) (.int .i64)))]⟩
def zqnk : List (AExit × View) := [(.exit 0, ⟨0, [4], [(false, [.ptr 0 0])], [.cells 32 [.rowh 1, .rowh 2, .rowh 3, .rowh 4], .row 36 (.prod .str (.int .i64)), .row 54 (.prod (.int .i64) (.prod (.int .i64) (.prod (.int .i64) (.int .i64)))), .row 49 zq1, .row 60 (.prod (.int .i64) (.prod (.int .i64) (.int .i64)))]⟩)]
@[reducible] def law41_TimelineLines_p1_G (p : zqni) {β : Type} (d : zqnj.den) (ks : Outs.K β zqnk) : Option β :=
  p (fun a0 a1 a2 a3 => ks.1 (((), ()), ((), a0, a1, a2, a3, ()))) d.1.2.1.1 d.1.2.2.1.1 d.2.2.1 d.2.2.2.1 d.2.2.2.2.1 d.2.2.2.2.2.1
abbrev zqnl (β : Type) := Bool → Option β
abbrev zqnm (β : Type) := (List UInt8) → (List UInt8) → Int → Int → (List api_Row) → Option β
abbrev zqnn := {β : Type} → zqnl β → zqnm β → (List UInt8) → Int → Int → Bool → (List api_Row) → Option β
def zqno : View := ⟨0, [7, 9, 12, 13, 14], [(false, [.rowh 0]), (false, [.data .str]), (false, [.data (.int .i64)]), (false, [.data (.int .i64)]), (false, [.data .bool])], [.row 46 zq4]⟩
def zqnp : List (AExit × View) := [(.ret, ⟨0, [2], [(false, [.data .bool])], []⟩), (.normal, ⟨0, [7, 9, 11, 12, 13], [(false, [.rowh 0]), (false, [.data .str]), (false, [.data .str]), (false, [.data (.int .i64)]), (false, [.data (.int .i64)])], [.row 46 zq4]⟩)]
@[reducible] def law41_TimelineLines_p2_G (p : zqnn) {β : Type} (d : zqno.den) (ks : Outs.K β zqnp) : Option β :=
  p (fun a0 => ks.1 (((a0, ()), ()), ())) (fun a0 a1 a2 a3 a4 => ks.2.1 (((), (a0, ()), (a1, ()), (a2, ()), (a3, ()), ()), (a4, ()))) d.1.2.1.1 d.1.2.2.1.1 d.1.2.2.2.1.1 d.1.2.2.2.2.1.1 d.2.1
abbrev zqnq (β : Type) := Bool → Option β
abbrev zqnr (β : Type) := (List UInt8) → Int → (List api_Row) → Option β
abbrev zqns := {β : Type} → zqnq β → zqnr β → (List UInt8) → (List UInt8) → Int → Int → (List api_Row) → Option β
def zqnt : View := ⟨0, [7, 9, 11, 12, 13], [(false, [.rowh 0]), (false, [.data .str]), (false, [.data .str]), (false, [.data (.int .i64)]), (false, [.data (.int .i64)])], [.row 46 zq4]⟩
def zqnu : List (AExit × View) := [(.ret, ⟨0, [2], [(false, [.data .bool])], []⟩), (.exit 2, ⟨0, [7, 11, 12], [(false, [.rowh 0]), (false, [.data .str]), (false, [.data (.int .i64)])], [.row 46 zq4]⟩)]
@[reducible] def law41_TimelineLines_p3_G (p : zqns) {β : Type} (d : zqnt.den) (ks : Outs.K β zqnu) : Option β :=
  p (fun a0 => ks.1 (((a0, ()), ()), ())) (fun a0 a1 a2 => ks.2.1 (((), (a0, ()), (a1, ()), ()), (a2, ()))) d.1.2.1.1 d.1.2.2.1.1 d.1.2.2.2.1.1 d.1.2.2.2.2.1.1 d.2.1
section
variable (c_law41_sane : zqn8) (c_made_Dice_Record : zq6k) (c_made_Light : zq5) (c_made_Roll : zqc) (c_timeline_Rows : zqjz) (c_timeline_Text : zqmg)
@[reducible] def law41_TimelineLines_X : Ctx := ⟨look tab, pick1 [(6, .spec (zqn9 c_law41_sane)), (8, .spec (zq6l c_made_Dice_Record)), (5, .spec (zq6 c_made_Light)), (7, .spec (zqd c_made_Roll)), (9, .spec (zqk0 c_timeline_Rows)), (10, .spec (zqmh c_timeline_Text))], false, false, false, false, true⟩
def zqnv {β : Type} (rec : Int → Int → (List (List UInt8 × Int)) → (List (Int × (Int × (Int × Int)))) → (List zq0) → (List (Int × (Int × Int))) → Option β) (k1 : zqnh β) (t28 : Int) (t29 : Int) (b1_ : List (List UInt8 × Int)) (b2_ : List (Int × (Int × (Int × Int)))) (b3_ : List zq0) (b4_ : List (Int × (Int × Int))) : Option β :=
  cond (decide (t29 < t28))
  (cond (decide (0 ≤ t29) && decide (t29 < (List.length b1_ : Int)))
  (let l : List (List UInt8 × Int) := (List.set b1_ (Int.toNat t29) (([104] : List UInt8), (List.getD b1_ (Int.toNat t29) (([] : List UInt8), (0 : Int))).2));
  rec t28 (IntKind.i64.wrap (t29 + (1 : Int))) l b2_ b3_ b4_)
  none)
  (k1 b1_ b2_ b3_ b4_)
def zqnw {β : Type} : Nat → zqnh β → Int → Int → (List (List UInt8 × Int)) → (List (Int × (Int × (Int × Int)))) → (List zq0) → (List (Int × (Int × Int))) → Option β
  | 0 => fun _ _ _ _ _ _ _ => none
  | i + 1 => fun k1 t28 t29 b1_ b2_ b3_ b4_ => zqnv (zqnw i k1) k1 t28 t29 b1_ b2_ b3_ b4_
theorem zqnx (hΓ : ΓOk Tryd.prog (law41_TimelineLines_X c_law41_sane c_made_Dice_Record c_made_Light c_made_Roll c_timeline_Rows c_timeline_Text).Γ) (i : Nat) : PieceOk Tryd.prog 109 0 law41_TimelineLines_p1_code zqnj zqnk (law41_TimelineLines_p1_G (zqnw i)) := by
  rw [show law41_TimelineLines_p1_code = .loop (loopBody law41_TimelineLines_p1_code) by kernel_rfl]
  exact piece_loop (X := (law41_TimelineLines_X c_law41_sane c_made_Dice_Record c_made_Light c_made_Roll c_timeline_Rows c_timeline_Text)) (p := 1) (Λ := pick1 []) (G := fun i => @fun β d ks => law41_TimelineLines_p1_G (zqnw i) d ks) mixed tab_ok hΓ rfl (by kernel_rfl) CutsOk_nil (fun _ _ => rfl) (fun i => @fun β d ks r h => Eq.trans (b := law41_TimelineLines_p1_G (zqnw (i + 1)) d ks) (by kernel_rfl) h) i
def zqny {β : Type} (k1 : zqnl β) (k2 : zqnm β) (s : List UInt8) (at_ : Int) (i_ : Int) (marked : Bool) (l : List api_Row) : Option β :=
  cond (decide (0 ≤ at_) && decide (at_ < (List.length l : Int)))
  (cond (!(marked == (decide ((0 : Int) < (List.length (((List.getD l (Int.toNat at_) ((0 : Int), (((0 : Int), (0 : Int)), ([] : List Int)))).2).2) : Int)))))
  (k1 false)
  (let at_2 : Int := (IntKind.i64.wrap (at_ + (1 : Int)));
  k2 s ([] : List UInt8) at_2 i_ l))
  none
def zqnz {β : Type} (k1 : zqnl β) (k2 : zqnm β) (s : List UInt8) (at_ : Int) (i_ : Int) (marked : Bool) (l : List api_Row) : Option β := zqny k1 k2 s at_ i_ marked l
theorem zqo0 (hΓ : ΓOk Tryd.prog (law41_TimelineLines_X c_law41_sane c_made_Dice_Record c_made_Light c_made_Roll c_timeline_Rows c_timeline_Text).Γ) : PieceOk Tryd.prog 109 0 law41_TimelineLines_p2_code zqno zqnp (law41_TimelineLines_p2_G (zqnz)) :=
  piece_exec (X := (law41_TimelineLines_X c_law41_sane c_made_Dice_Record c_made_Light c_made_Roll c_timeline_Rows c_timeline_Text)) (p := 103) (Λ := pick1 []) mixed tab_ok hΓ (by kernel_rfl) CutsOk_nil (fun d ks r h => Eq.trans (b := law41_TimelineLines_p2_G (zqnz) d ks) (by kernel_rfl) h)
def zqo1 (p2 : zqnn) {β : Type} (rec : (List UInt8) → (List UInt8) → Int → Int → (List api_Row) → Option β) (k1 : zqnq β) (k2 : zqnr β) (s : List UInt8) (line : List UInt8) (at_ : Int) (i_ : Int) (l : List api_Row) : Option β :=
  cond (decide (i_ < (List.length s : Int)))
  (cond (decide (0 ≤ i_) && decide (i_ < (List.length s : Int)))
  (cond (!decide (((List.getD s (Int.toNat i_) 0).toNat : Int) = (10 : Int)))
  (cond (decide (0 ≤ i_) && (decide (i_ ≤ (IntKind.i64.wrap (i_ + (1 : Int)))) && decide ((IntKind.i64.wrap (i_ + (1 : Int))) ≤ (List.length s : Int))))
  (cond (decide (List.length line + List.length (List.drop (Int.toNat i_) (List.take (Int.toNat (IntKind.i64.wrap (i_ + (1 : Int)))) s)) ≤ 9223372036854775807))
  (let line2 : List UInt8 := (line ++ (List.drop (Int.toNat i_) (List.take (Int.toNat (IntKind.i64.wrap (i_ + (1 : Int)))) s)));
  let i_2 : Int := (IntKind.i64.wrap (i_ + (1 : Int)));
  rec s line2 at_ i_2 l)
  none)
  none)
  (cond (decide ((List.length l : Int) ≤ at_))
  (k1 false)
  (cond (decide ((5 : Int) < (List.length line : Int)))
  (cond (decide (0 ≤ (IntKind.i64.wrap ((List.length line : Int) - (5 : Int)))) && (decide ((IntKind.i64.wrap ((List.length line : Int) - (5 : Int))) ≤ (List.length line : Int)) && decide ((List.length line : Int) ≤ (List.length line : Int))))
  (let marked : Bool := (decide ((List.drop (Int.toNat (IntKind.i64.wrap ((List.length line : Int) - (5 : Int)))) (List.take (Int.toNat (List.length line : Int)) line)) = ([32, 111, 112, 101, 110] : List UInt8)));
  p2 (fun (t2 : Bool) =>
  k1 t2) (fun (s2 : List UInt8) (line2 : List UInt8) (at_2 : Int) (i_2 : Int) (l2 : List api_Row) =>
  let i_3 : Int := (IntKind.i64.wrap (i_2 + (1 : Int)));
  rec s2 line2 at_2 i_3 l2) s at_ i_ marked l)
  none)
  (p2 (fun (t2 : Bool) =>
  k1 t2) (fun (s2 : List UInt8) (line2 : List UInt8) (at_2 : Int) (i_2 : Int) (l2 : List api_Row) =>
  let i_3 : Int := (IntKind.i64.wrap (i_2 + (1 : Int)));
  rec s2 line2 at_2 i_3 l2) s at_ i_ false l))))
  none)
  (k2 line at_ l)
def zqo2 (p2 : zqnn) {β : Type} : Nat → zqnq β → zqnr β → (List UInt8) → (List UInt8) → Int → Int → (List api_Row) → Option β
  | 0 => fun _ _ _ _ _ _ _ => none
  | i + 1 => fun k1 k2 s line at_ i_ l => zqo1 p2 (zqo2 p2 i k1 k2) k1 k2 s line at_ i_ l
theorem zqo3 (hΓ : ΓOk Tryd.prog (law41_TimelineLines_X c_law41_sane c_made_Dice_Record c_made_Light c_made_Roll c_timeline_Rows c_timeline_Text).Γ) (p2 : zqnn) (hp2 : PieceOk Tryd.prog 109 0 law41_TimelineLines_p2_code zqno zqnp (law41_TimelineLines_p2_G p2)) (i : Nat) : PieceOk Tryd.prog 109 0 law41_TimelineLines_p3_code zqnt zqnu (law41_TimelineLines_p3_G (zqo2 p2 i)) := by
  rw [show law41_TimelineLines_p3_code = .loop (loopBody law41_TimelineLines_p3_code) by kernel_rfl]
  exact piece_loop (X := (law41_TimelineLines_X c_law41_sane c_made_Dice_Record c_made_Light c_made_Roll c_timeline_Rows c_timeline_Text)) (p := 1) (Λ := pick1 [(103, pieceCut zqno zqnp (law41_TimelineLines_p2_G p2))]) (G := fun i => @fun β d ks => law41_TimelineLines_p3_G (zqo2 p2 i) d ks) mixed tab_ok hΓ rfl (by kernel_rfl) (CutsOk_cons (q := 103) (c' := law41_TimelineLines_p2_code) (by kernel_rfl) rfl hp2 CutsOk_nil) (fun _ _ => rfl) (fun i => @fun β d ks r h => Eq.trans (b := law41_TimelineLines_p3_G (zqo2 p2 (i + 1)) d ks) (by kernel_rfl) h) i
def zqo4 (p1 : zqni) (p3 : zqns) {β : Type} (t : List Int) (k : (Bool → Option β)) : Option β :=
  c_made_Light t (fun (rLight : Bool) =>
  cond (!rLight)
  (c_law41_sane  (fun (rsane : Bool) =>
  k rsane))
  (c_made_Roll t (fun (mrRoll : (List Int × Int)) =>
  c_made_Dice_Record (6 : Int) mrRoll (fun (mrRecord : (List Int × Int)) (lrRecord : List (List UInt8 × Int)) (lrRecord2 : List (Int × (Int × (Int × Int)))) (lrRecord3 : List zq0) (lrRecord4 : List (Int × (Int × Int))) (lrRecord5 : List Int) =>
  p1 (fun (b1_ : List (List UInt8 × Int)) (b2_ : List (Int × (Int × (Int × Int)))) (b3_ : List zq0) (b4_ : List (Int × (Int × Int))) =>
  c_timeline_Rows (b1_, (b2_, (b3_, b4_))) (fun (rRows : Bool) (lrRows : List api_Row) =>
  c_timeline_Text (b1_, (b2_, (b3_, b4_))) lrRows (fun (rText : List UInt8) (rText2 : Int) =>
  cond (!rRows)
  (k false)
  (cond (!decide (rText2 = (0 : Int)))
  (k false)
  (p3 (fun (t2 : Bool) =>
  k t2) (fun (line : List UInt8) (at_ : Int) (l : List api_Row) =>
  cond (decide (line = ([] : List UInt8)))
  (cond (decide (at_ = (List.length l : Int)))
  (c_law41_sane  (fun (rsane : Bool) =>
  k rsane))
  (k false))
  (k false)) rText ([] : List UInt8) (0 : Int) (0 : Int) lrRows))))) (List.length lrRecord : Int) (0 : Int) lrRecord lrRecord2 lrRecord3 lrRecord4))))
theorem zqo5 (hΓ : ΓOk Tryd.prog (law41_TimelineLines_X c_law41_sane c_made_Dice_Record c_made_Light c_made_Roll c_timeline_Rows c_timeline_Text).Γ) (p1 : zqni) (p3 : zqns) (hp1 : PieceOk Tryd.prog 109 0 law41_TimelineLines_p1_code zqnj zqnk (law41_TimelineLines_p1_G p1)) (hp3 : PieceOk Tryd.prog 109 0 law41_TimelineLines_p3_code zqnt zqnu (law41_TimelineLines_p3_G p3)) : SpecOk Tryd.prog 3 (zqng (zqo4 c_law41_sane c_made_Dice_Record c_made_Light c_made_Roll c_timeline_Rows c_timeline_Text p1 p3)) :=
  spec_exec (X := (law41_TimelineLines_X c_law41_sane c_made_Dice_Record c_made_Light c_made_Roll c_timeline_Rows c_timeline_Text)) (Λ := pick1 [(250, pieceCut zqnj zqnk (law41_TimelineLines_p1_G p1)), (8186, pieceCut zqnt zqnu (law41_TimelineLines_p3_G p3))]) (rs := [.tmp 2]) (c := bodyOf Tryd.f3) mixed tab_ok hΓ Tryd.func3 (by kernel_rfl) (by kernel_rfl) (by kernel_rfl) (by kernel_rfl) (CutsOk_cons (q := 250) (c' := law41_TimelineLines_p1_code) (by kernel_rfl) rfl hp1 (CutsOk_cons (q := 8186) (c' := law41_TimelineLines_p3_code) (by kernel_rfl) rfl hp3 CutsOk_nil)) (fun x k r h => Eq.trans (b := (zqng (zqo4 c_law41_sane c_made_Dice_Record c_made_Light c_made_Roll c_timeline_Rows c_timeline_Text p1 p3)).run x k) (by kernel_rfl) h)
end
theorem zqo6Γ : ΓOk Tryd.prog (pick1 [(6, .spec (zqn9 zqnd)), (8, .spec (zq6l zq86)), (5, .spec (zq6 zqa)), (7, .spec (zqd zqh)), (9, .spec (zqk0 zqk4)), (10, .spec (zqmh zqn6))]) := (ΓOk_cons zqne (ΓOk_cons zq87 (ΓOk_cons zqb (ΓOk_cons zqi (ΓOk_cons zqk5 (ΓOk_cons zqn7 ΓOk_nil))))))
def zqo7 (m : Nat) : zqni := zqnw m
theorem zqo8 {β : Type} (i : Nat) (k1 t28 t29 b1_ b2_ b3_ b4_) : (zqo7 (i + 1) k1 t28 t29 b1_ b2_ b3_ b4_ : Option β) = zqnv (zqo7 i k1) k1 t28 t29 b1_ b2_ b3_ b4_ := rfl
def zqo9 : zqni := zqo7 fuel
theorem zqoa : PieceOk Tryd.prog 109 0 law41_TimelineLines_p1_code zqnj zqnk (law41_TimelineLines_p1_G zqo9) := zqnx zqnd zq86 zqa zqh zqk4 zqn6 zqo6Γ fuel
def zqob : zqnn := zqnz
theorem zqoc : PieceOk Tryd.prog 109 0 law41_TimelineLines_p2_code zqno zqnp (law41_TimelineLines_p2_G zqob) := zqo0 zqnd zq86 zqa zqh zqk4 zqn6 zqo6Γ
def zqod (m : Nat) : zqns := zqo2 zqob m
theorem zqoe {β : Type} (i : Nat) (k1 k2 s line at_ i_ l) : (zqod (i + 1) k1 k2 s line at_ i_ l : Option β) = zqo1 zqob (zqod i k1 k2) k1 k2 s line at_ i_ l := rfl
def zqof : zqns := zqod fuel
theorem zqog : PieceOk Tryd.prog 109 0 law41_TimelineLines_p3_code zqnt zqnu (law41_TimelineLines_p3_G zqof) := zqo3 zqnd zq86 zqa zqh zqk4 zqn6 zqo6Γ zqob zqoc fuel
def zqoh : zqnf := zqo4 zqnd zq86 zqa zqh zqk4 zqn6 zqo9 zqof
theorem zqoi : SpecOk Tryd.prog 3 (zqng zqoh) := zqo5 zqnd zq86 zqa zqh zqk4 zqn6 zqo6Γ zqo9 zqof zqoa zqog
end
end Go.Lift
/- Plain lemmas about functional forms: tests that are known, loops. -/
namespace Go.Lift
open Go.RowKit Go.IntWalk

section
variable {β : Type}
/-! ### Tests -/
theorem c_inb {i n : Int} {a b : Option β} (h : 0 ≤ i ∧ i < n) : cond (decide (0 ≤ i) && decide (i < n)) a b = a := by
  rw [decide_eq_true h.1, decide_eq_true h.2]; rfl
theorem c_room {n : Nat} {a b : Option β} (h : n ≤ 140737488355328) : cond (decide (n ≤ roomMax)) a b = a := by
  rw [decide_eq_true (p := n ≤ roomMax) h]; rfl
theorem c_pos {p : Prop} [Decidable p] {a b : Option β} (h : p) : cond (decide p) a b = a := by rw [decide_eq_true h]; rfl
theorem c_neg {p : Prop} [Decidable p] {a b : Option β} (h : ¬ p) : cond (decide p) a b = b := by rw [decide_eq_false h]; rfl
theorem c_npos {p : Prop} [Decidable p] {a b : Option β} (h : p) : cond (!decide p) a b = b := by rw [decide_eq_true h]; rfl
theorem c_nneg {p : Prop} [Decidable p] {a b : Option β} (h : ¬ p) : cond (!decide p) a b = a := by rw [decide_eq_false h]; rfl
theorem c_t {a b : Option β} : cond true a b = a := rfl
theorem c_f {a b : Option β} : cond false a b = b := rfl
theorem c_p2 {p q : Prop} [Decidable p] [Decidable q] {a b : Option β} (hp : p) (hq : q) : cond (decide p && decide q) a b = a := by rw [decide_eq_true hp, decide_eq_true hq]; rfl
theorem c_p3 {p q r : Prop} [Decidable p] [Decidable q] [Decidable r] {a b : Option β} (hp : p) (hq : q) (hr : r) : cond (decide p && (decide q && decide r)) a b = a := by rw [decide_eq_true hp, decide_eq_true hq, decide_eq_true hr]; rfl
theorem c_not {p : Bool} {a b : Option β} : cond (!p) a b = cond p b a := by cases p <;> rfl
theorem c_and {p q : Bool} {a b : Option β} : cond p (cond q a b) b = cond (p && q) a b := by cases p <;> rfl
theorem c_or {p q : Bool} {a b : Option β} : cond p a (cond q a b) = cond (p || q) a b := by cases p <;> rfl
theorem c_andn {p q : Bool} {a b : Option β} : cond p (cond q b a) b = cond (p && !q) a b := by cases p <;> cases q <;> rfl
theorem c_nand {p q : Bool} {a b : Option β} : cond p b (cond q a b) = cond (!p && q) a b := by cases p <;> rfl
theorem c_same {p : Bool} {a : Option β} : cond p a a = a := by cases p <;> rfl
theorem c_k {γ : Type} (k : γ → Option β) (p : Bool) (x y : γ) : cond p (k x) (k y) = k (cond p x y) := by cases p <;> rfl
theorem c_kb (k : Bool → Option β) (p q : Bool) : cond p (k q) (k false) = k (p && q) := by cases p <;> rfl
theorem pair_eta {γ δ : Type} (p : γ × δ) : (p.1, p.2) = p := rfl
theorem k_eq {γ : Type} {k : γ → Option β} {x y : γ} (h : x = y) : k x = k y := by rw [h]

/-! ### Loops over the numbers from 0 on -/
/-- A walk over a list that may end early. -/
def walk {α σ ε : Type} (g : Nat → α → σ → ε ⊕ σ) : List α → Nat → σ → ε ⊕ σ
  | [], _, s => .inr s
  | x :: r, j, s =>
    match g j x s with
    | .inl e => .inl e
    | .inr s' => walk g r (j + 1) s'

def sumK {ε σ : Type} (E : ε → Option β) (K : σ → Option β) : ε ⊕ σ → Option β
  | .inl e => E e
  | .inr s => K s

theorem walk_loop {α σ ε : Type} (F : Nat → Int → σ → Option β) (g : Nat → α → σ → ε ⊕ σ) (E : ε → Option β) (K : σ → Option β) (d : α) (xs : List α)
    (h1 : ∀ (m i : Nat) s, i < xs.length → F (m + 1) (i : Int) s = sumK E (fun s' => F m ((i : Int) + 1) s') (g i (xs.getD i d) s))
    (h2 : ∀ (m : Nat) s, F (m + 1) (xs.length : Int) s = K s) :
    ∀ (r : List α) (j fuel : Nat) (s : σ), xs.drop j = r → j + r.length = xs.length → r.length < fuel → F fuel (j : Int) s = sumK E K (walk g r j s)
  | r, j, 0, s, _, _, h => absurd h (Nat.not_lt_zero _)
  | [], j, m + 1, s, hd, hj, _ => by
    simp only [List.length_nil, Nat.add_zero] at hj
    subst hj
    rw [h2]; rfl
  | x :: r, j, m + 1, s, hd, hj, hm => by
    simp only [List.length_cons] at hj hm
    have h3 : j < xs.length := by omega
    have hx : xs.getD j d = x := by
      rw [List.drop_eq_getElem_cons h3] at hd
      injection hd with hd1 hd2
      simp [List.getD, h3, hd1]
    have hr : xs.drop (j + 1) = r := by
      rw [List.drop_eq_getElem_cons h3] at hd
      injection hd with hd1 hd2
    rw [h1 m j s h3, hx, walk]
    cases hg : g j x s with
    | inl e => rfl
    | inr s' =>
      simp only [sumK]
      exact walk_loop F g E K d xs h1 h2 r (j + 1) m s' hr (by omega) (by omega)

theorem walk_loop0 {α σ ε : Type} (F : Nat → Int → σ → Option β) (g : Nat → α → σ → ε ⊕ σ) (E : ε → Option β) (K : σ → Option β) (d : α) (xs : List α) (s : σ) (n : Nat) (hn : xs.length < n)
    (h1 : ∀ (m i : Nat) s, i < xs.length → F (m + 1) (i : Int) s = sumK E (fun s' => F m ((i : Int) + 1) s') (g i (xs.getD i d) s))
    (h2 : ∀ (m : Nat) s, F (m + 1) (xs.length : Int) s = K s) : F n 0 s = sumK E K (walk g xs 0 s) :=
  walk_loop F g E K d xs h1 h2 xs 0 n s rfl (by simp) hn

/-- A loop that only looks: every element, or out. -/
theorem check_loop {α : Type} (F : Nat → Int → Option β) (p : α → Bool) (E K : Option β) (d : α) (xs : List α) (n : Nat) (hn : xs.length < n)
    (h1 : ∀ (m i : Nat), i < xs.length → F (m + 1) (i : Int) = cond (p (xs.getD i d)) (F m ((i : Int) + 1)) E)
    (h2 : ∀ (m : Nat), F (m + 1) (xs.length : Int) = K) : F n 0 = cond (xs.all p) K E := by
  have h := walk_loop0 (ε := Unit) (fun m i (_ : Unit) => F m i) (fun _ x s => cond (p x) (.inr s) (.inl ())) (fun _ => E) (fun _ => K) d xs () n hn
    (fun m i s hi => by rw [h1 m i hi]; cases p (xs.getD i d) <;> rfl) (fun m s => h2 m)
  rw [h]
  have key : ∀ (l : List α) (j : Nat), sumK (fun _ => E) (fun _ => K) (walk (ε := Unit) (fun _ x (s : Unit) => cond (p x) (.inr s) (.inl ())) l j ()) = cond (l.all p) K E := by
    intro l
    induction l with
    | nil => intro j; rfl
    | cons x l ih =>
      intro j
      simp only [walk, List.all_cons]
      cases p x with
      | true => simpa using ih (j + 1)
      | false => rfl
  exact key xs 0

/-- A loop that goes through all elements. -/
theorem fold_loop {α σ : Type} (F : Nat → Int → σ → Option β) (g : σ → α → σ) (K : σ → Option β) (d : α) (xs : List α) (s : σ) (n : Nat) (hn : xs.length < n)
    (h1 : ∀ (m i : Nat) s, i < xs.length → F (m + 1) (i : Int) s = F m ((i : Int) + 1) (g s (xs.getD i d)))
    (h2 : ∀ (m : Nat) s, F (m + 1) (xs.length : Int) s = K s) : F n 0 s = K (xs.foldl g s) := by
  have h := walk_loop0 (ε := Empty) F (fun _ x s => .inr (g s x)) (fun e => e.elim) K d xs s n hn (fun m i s hi => h1 m i s hi) h2
  rw [h]
  have key : ∀ (l : List α) (j : Nat) (s : σ), sumK (fun e : Empty => e.elim) K (walk (fun _ x s => .inr (g s x)) l j s) = K (l.foldl g s) := by
    intro l
    induction l with
    | nil => intro j s; rfl
    | cons x l ih => intro j s; exact ih (j + 1) (g s x)
  exact key xs 0 s

/-- A loop that goes through all elements, with an invariant. -/
theorem fold_loopI {α σ : Type} (I : Nat → σ → Prop) (F : Nat → Int → σ → Option β) (g : σ → α → σ) (K : σ → Option β) (d : α) (xs : List α) (s : σ) (n : Nat) (hn : xs.length < n) (h0 : I 0 s)
    (hI : ∀ (i : Nat) s, i < xs.length → I i s → I (i + 1) (g s (xs.getD i d)))
    (h1 : ∀ (m i : Nat) s, i < xs.length → I i s → F (m + 1) (i : Int) s = F m ((i : Int) + 1) (g s (xs.getD i d)))
    (h2 : ∀ (m : Nat) s, I xs.length s → F (m + 1) (xs.length : Int) s = K s) : F n 0 s = K (xs.foldl g s) := by
  have key : ∀ (r : List α) (j fuel : Nat) (s : σ), xs.drop j = r → j + r.length = xs.length → r.length < fuel → I j s → F fuel (j : Int) s = K (r.foldl g s) := by
    intro r
    induction r with
    | nil =>
      intro j fuel s hd hj hf hs
      obtain ⟨m, rfl⟩ : ∃ m, fuel = m + 1 := ⟨fuel - 1, by omega⟩
      simp only [List.length_nil, Nat.add_zero] at hj
      subst hj
      exact h2 m s hs
    | cons x r ih =>
      intro j fuel s hd hj hf hs
      obtain ⟨m, rfl⟩ : ∃ m, fuel = m + 1 := ⟨fuel - 1, by omega⟩
      simp only [List.length_cons] at hj hf
      have h3 : j < xs.length := by omega
      have hx : xs.getD j d = x := by
        rw [List.drop_eq_getElem_cons h3] at hd
        injection hd with hd1 hd2
        simp [List.getD, h3, hd1]
      have hr : xs.drop (j + 1) = r := by
        rw [List.drop_eq_getElem_cons h3] at hd
        injection hd with hd1 hd2
      rw [h1 m j s h3 hs, hx]
      have := hI j s h3 hs
      rw [hx] at this
      exact ih (j + 1) m (g s x) hr (by omega) (by omega) this
  exact key xs 0 n s rfl (by simp) hn h0

/-- A loop with an invariant, that counts up to n. -/
theorem count_loop {σ ρ : Type} {Kt : Type → Type} (F : {β : Type} → Kt β → Nat → Int → σ → Option β) (X : {β : Type} → Kt β → ρ → Option β) (n : Nat) (I : Nat → σ → Prop) (Q : ρ → Prop)
    (step : ∀ i s, i < n → I i s → (∃ s', I (i + 1) s' ∧ ∀ {β : Type} (k : Kt β) m, F k (m + 1) (i : Int) s = F k m ((i : Int) + 1) s') ∨ (∃ r, Q r ∧ ∀ {β : Type} (k : Kt β) m, F k (m + 1) (i : Int) s = X k r))
    (last : ∀ s, I n s → ∃ r, Q r ∧ ∀ {β : Type} (k : Kt β) m, F k (m + 1) (n : Int) s = X k r) (N : Nat) (hN : n < N) (s : σ) (h0 : I 0 s) :
    ∃ r, Q r ∧ ∀ {β : Type} (k : Kt β), F k N 0 s = X k r := by
  have key : ∀ (j i : Nat) (s : σ) (N : Nat), i + j = n → j < N → I i s → ∃ r, Q r ∧ ∀ {β : Type} (k : Kt β), F k N (i : Int) s = X k r := by
    intro j
    induction j with
    | zero =>
      intro i s N hi hN h
      obtain ⟨N, rfl⟩ : ∃ N', N = N' + 1 := ⟨N - 1, by omega⟩
      have : i = n := by omega
      subst this
      obtain ⟨r, h1, h2⟩ := last s h
      exact ⟨r, h1, fun k => h2 k N⟩
    | succ j ih =>
      intro i s N hi hN h
      obtain ⟨N, rfl⟩ : ∃ N', N = N' + 1 := ⟨N - 1, by omega⟩
      rcases step i s (by omega) h with ⟨s', h1, h2⟩ | ⟨r, h1, h2⟩
      · obtain ⟨r, h3, h4⟩ := ih (i + 1) s' N (by omega) (by omega) h1
        exact ⟨r, h3, fun k => (h2 k N).trans (h4 k)⟩
      · exact ⟨r, h1, fun k => h2 k N⟩
  exact key n 0 s N (by omega) hN h0

/-- A loop with an invariant and a measure. -/
theorem while_loop {σ ρ : Type} {Kt : Type → Type} (F : {β : Type} → Kt β → Nat → σ → Option β) (X : {β : Type} → Kt β → ρ → Option β) (I : σ → Prop) (μ : σ → Nat) (Q : ρ → Prop)
    (step : ∀ s, I s → (∃ s', I s' ∧ μ s' < μ s ∧ ∀ {β : Type} (k : Kt β) m, F k (m + 1) s = F k m s') ∨ (∃ r, Q r ∧ ∀ {β : Type} (k : Kt β) m, F k (m + 1) s = X k r)) :
    ∀ (N : Nat) (s : σ), I s → μ s < N → ∃ r, Q r ∧ ∀ {β : Type} (k : Kt β), F k N s = X k r := by
  intro N
  induction N with
  | zero => intro s _ h; omega
  | succ N ih =>
    intro s hI hN
    rcases step s hI with ⟨s', h1, h2, h3⟩ | ⟨r, h1, h2⟩
    · obtain ⟨r, h4, h5⟩ := ih s' h1 (by omega)
      exact ⟨r, h4, fun k => (h3 k N).trans (h5 k)⟩
    · exact ⟨r, h1, fun k => h2 k N⟩
end
end Go.Lift

/- The example of chapter 41. -/
namespace Go.Lift
noncomputable section
set_option maxRecDepth 100000
theorem sane41 {β : Type} (k : Bool → Option β) : zqnd k = k true := by kernel_rfl
end
end Go.Lift

/- Square matrices as lists of rows. -/
namespace Go.Lift
open Go.RowKit Go.IntWalk
noncomputable section
set_option linter.unusedVariables false
set_option linter.unusedSimpArgs false

abbrev Mat := List (List Int)
def at2 (m : Mat) (i j : Nat) : Int := (m.getD i []).getD j 0
structure Sq (n : Nat) (m : Mat) : Prop where
  len : m.length = n
  row : ∀ i, i < n → (m.getD i []).length = n
def setAt (m : Mat) (i j : Nat) (v : Int) : Mat := m.set i ((m.getD i []).set j v)

theorem getD_set_eq {α : Type} {l : List α} {i : Nat} {v d : α} (h : i < l.length) : (l.set i v).getD i d = v := by simp [List.getD, h]
theorem getD_set_ne {α : Type} {l : List α} {i j : Nat} {v d : α} (h : i ≠ j) : (l.set i v).getD j d = l.getD j d := by simp [List.getD, List.getElem?_set_ne h]

theorem Sq.setAt {n : Nat} {m : Mat} (h : Sq n m) (i j : Nat) (v : Int) : Sq n (setAt m i j v) := by
  refine ⟨by simp [Go.Lift.setAt, h.len], fun a ha => ?_⟩
  by_cases hi : i = a
  · subst hi
    unfold Go.Lift.setAt
    rw [getD_set_eq (by rw [h.len]; exact ha), List.length_set]
    exact h.row i ha
  · unfold Go.Lift.setAt
    rw [getD_set_ne hi]
    exact h.row a ha

theorem at_setAt {n : Nat} {m : Mat} (h : Sq n m) {i j : Nat} (hi : i < n) (hj : j < n) (v : Int) (a b : Nat) : at2 (setAt m i j v) a b = if a = i ∧ b = j then v else at2 m a b := by
  unfold at2 setAt
  by_cases hai : i = a
  · subst hai
    rw [getD_set_eq (by rw [h.len]; exact hi)]
    by_cases hbj : j = b
    · subst hbj
      rw [getD_set_eq (by rw [h.row i hi]; exact hj), if_pos ⟨rfl, rfl⟩]
    · rw [getD_set_ne hbj, if_neg (fun h => hbj h.2.symm)]
  · rw [getD_set_ne hai, if_neg (fun h => hai h.1.symm)]

theorem mat_ext {n : Nat} {m m' : Mat} (h : Sq n m) (h' : Sq n m') (he : ∀ i j, i < n → j < n → at2 m i j = at2 m' i j) : m = m' := by
  apply List.ext_getElem
  · rw [h.len, h'.len]
  · intro i h1 h2
    have hi : i < n := by rw [← h.len]; exact h1
    have e1 : m.getD i [] = m[i] := by rw [List.getD, List.getElem?_eq_getElem h1]; rfl
    have e2 : m'.getD i [] = m'[i] := by rw [List.getD, List.getElem?_eq_getElem h2]; rfl
    apply List.ext_getElem
    · rw [← e1, ← e2, h.row i hi, h'.row i hi]
    · intro j h3 h4
      have hj : j < n := by rw [← h.row i hi, e1]; exact h3
      have := he i j hi hj
      unfold at2 at this
      rw [e1, e2] at this
      have q1 : m[i].getD j 0 = m[i][j] := by rw [List.getD, List.getElem?_eq_getElem h3]; rfl
      have q2 : m'[i].getD j 0 = m'[i][j] := by rw [List.getD, List.getElem?_eq_getElem h4]; rfl
      rw [q1, q2] at this
      exact this

abbrev BIG : Int := 1099511627776
/-- One update of the closure. -/
def relaxW (k i j : Nat) (m : Mat) : Mat :=
  if at2 m i k = BIG ∨ at2 m k j = BIG then m
  else setAt m i j (if IntKind.i64.wrap (at2 m i k + at2 m k j) < at2 m i j then IntKind.i64.wrap (at2 m i k + at2 m k j) else at2 m i j)
def rowW (n k i : Nat) (m : Mat) : Mat := (List.range n).foldl (fun m j => relaxW k i j m) m
def roundW (n k : Nat) (m : Mat) : Mat := (List.range n).foldl (fun m i => rowW n k i m) m

theorem Sq.relaxW {n : Nat} {m : Mat} (h : Sq n m) (k i j : Nat) : Sq n (relaxW k i j m) := by
  unfold Go.Lift.relaxW
  split
  · exact h
  · exact h.setAt _ _ _

theorem fold_inv {α σ : Type} (I : σ → Prop) (g : σ → α → σ) (hg : ∀ s x, I s → I (g s x)) : ∀ (l : List α) (s : σ), I s → I (l.foldl g s)
  | [], _, h => h
  | x :: l, s, h => fold_inv I g hg l _ (hg s x h)

theorem Sq.rowW {n : Nat} {m : Mat} (h : Sq n m) (k i : Nat) : Sq n (rowW n k i m) := fold_inv (Sq n) _ (fun m j h => h.relaxW k i j) _ _ h
theorem Sq.roundW {n : Nat} {m : Mat} (h : Sq n m) (k : Nat) : Sq n (roundW n k m) := fold_inv (Sq n) _ (fun m i h => h.rowW k i) _ _ h
end
end Go.Lift

/- Clocks in plain Lean: what the forms of the chapter 38, the program's and the reference's, compute. -/
namespace Go.Lift
open Go.RowKit Go.IntWalk
noncomputable section
set_option linter.unusedVariables false
set_option linter.unusedSimpArgs false

def inN (n low high : Int) : Bool := decide (low ≤ n) && decide (n ≤ high)
theorem inN_iff {n low high : Int} : inN n low high = true ↔ low ≤ n ∧ n ≤ high := by simp [inN]
theorem inN_mk {n low high : Int} (h : low ≤ n ∧ n ≤ high) : inN n low high = true := inN_iff.2 h

abbrev Host := List UInt8 × Int
abbrev Sync := Int × Int × Int × Int
abbrev Event := Int × Int × List UInt8
abbrev Link := Int × Int × Int
abbrev Rec := List Host × List Sync × List Event × List Link

/-- The numbers of a comparison are right. -/
def okSync (s : Sync) : Bool := inN s.2.1 0 8589934592 && (inN s.2.2.1 0 8589934592 && (inN s.2.2.2 0 8589934592 && decide (s.2.2.1 ≤ s.2.2.2)))
def vHost (h : Host) : Bool := inN h.2 0 500000
def vSync (n : Nat) (s : Sync) : Bool := inN s.1 0 ((n : Int) - 1) && okSync s
def vEvent (n : Nat) (e : Event) : Bool := inN e.1 0 ((n : Int) - 1) && inN e.2.1 0 8589934592
def vLink (n : Nat) (l : Link) : Bool := inN l.1 0 ((n : Int) - 1) && (inN l.2.1 0 ((n : Int) - 1) && (!decide (l.1 = l.2.1) && inN l.2.2 0 8589934592))
def small (r : Rec) : Bool := !decide ((8 : Int) < r.1.length) && (!decide ((64 : Int) < r.2.1.length) && (!decide ((40 : Int) < r.2.2.1.length) && !decide ((64 : Int) < r.2.2.2.length)))
def valid (r : Rec) : Bool := small r && (r.1.all vHost && (r.2.1.all (vSync r.1.length) && (r.2.2.1.all (vEvent r.1.length) && r.2.2.2.all (vLink r.2.2.1.length))))

/-- How far the time advances while a clock advances. -/
def elapsed (drift d : Int) : Int × Int :=
  cond (inN drift 0 500000 && inN d 0 8589934592) (d * 1000000 / (1000000 + drift), (d * 1000000 + (1000000 - drift) - 1) / (1000000 - drift)) (0, 0)
def w64 (n : Int) : Int := IntKind.i64.wrap n
def fromS (h : Host) (s : Sync) (c : Int) : Int × Int :=
  cond (vHost h && (okSync s && inN c 0 8589934592))
    (cond (decide (s.2.1 ≤ c)) (s.2.2.1 + (elapsed h.2 (c - s.2.1)).1, s.2.2.2 + (elapsed h.2 (c - s.2.1)).2) (s.2.2.1 - (elapsed h.2 (s.2.1 - c)).2, s.2.2.2 - (elapsed h.2 (s.2.1 - c)).1))
    (-1099511627776, 1099511627776)
def meet2 (a b : Int × Int) : Int × Int := (if b.1 > a.1 then b.1 else a.1, if b.2 < a.2 then b.2 else a.2)
def whenR (r : Rec) (host c : Int) : Int × Int :=
  r.2.1.foldl (fun out s => cond (decide (s.1 = host)) (meet2 out (fromS (r.1.getD host.toNat ([], 0)) s c)) out) (0, 8589934592)
def when? (r : Rec) (host c : Int) : (Int × Int) × Bool :=
  cond (valid r && (inN host 0 ((r.1.length : Int) - 1) && inN c 0 8589934592)) (whenR r host c, !decide ((whenR r host c).2 < (whenR r host c).1)) ((0, 0), false)
def movedE (x d : Int) : Int :=
  cond (decide (x = -1099511627776) || decide (x = 1099511627776)) x
    (if (1099511627776 : Int) < (if (-1099511627776 : Int) > w64 (x + d) then (-1099511627776 : Int) else w64 (x + d)) then (1099511627776 : Int) else (if (-1099511627776 : Int) > w64 (x + d) then (-1099511627776 : Int) else w64 (x + d)))
def bnd (n : Int) : Bool := inN n (-1099511627776) 1099511627776
def shiftR (a : Int × Int) (d : Int) : Int × Int := cond (bnd a.1 && (bnd a.2 && bnd d)) (movedE a.1 d, movedE a.2 d) a

section
variable {β : Type}
theorem clock_in_eq (n lo hi : Int) (k : Bool → Option β) : zq2x n lo hi k = k (inN n lo hi) := by
  simp only [zq2x, zq2u, inN, c_kb]
theorem clock_instant_eq (n : Int) (k : Bool → Option β) : zq34 n k = k (inN n 0 8589934592) := by
  simp only [zq34, zq31, clock_in_eq]
theorem clock_compared_eq (s : Sync) (k : Bool → Option β) : zq8r s k = k (okSync s) := by
  simp only [zq8r, zq8o, clock_instant_eq, c_kb, okSync]

theorem clock_Valid_p1_eq (k1 : zq99 β) (k2 : zq9a β) (xs : List Host) (hx : xs.length ≤ 1000000) (r : List Host) (r2 : List Sync) (r3 : List Event) (r4 : List Link) :
    zqaa k1 k2 xs xs.length 0 r r2 r3 r4 = cond (xs.all vHost) (k2 r r2 r3 r4) (k1 false) := by
  refine check_loop (fun m i => zqa8 m k1 k2 xs xs.length i r r2 r3 r4) vHost _ _ ([], 0) xs fuel (lt_fuel (by omega)) (fun m i hi => ?_) (fun m => ?_)
  · simp (disch := omega) only [zqa9, zq9t, clock_in_eq, c_pos, c_inb, c_not, i64_in, Int.toNat_natCast, vHost]
  · simp (disch := omega) only [zqa9, zq9t, c_neg]

theorem clock_Valid_p2_eq (k1 : zq9e β) (k2 : zq9f β) (xs : List Sync) (hx : xs.length ≤ 1000000) (r : List Host) (hr : r.length ≤ 1000000) (r2 : List Sync) (r3 : List Event) (r4 : List Link) :
    zqae k1 k2 xs xs.length 0 r r2 r3 r4 = cond (xs.all (vSync r.length)) (k2 r r2 r3 r4) (k1 false) := by
  refine check_loop (fun m i => zqac m k1 k2 xs xs.length i r r2 r3 r4) (vSync r.length) _ _ (0, 0, 0, 0) xs fuel (lt_fuel (by omega)) (fun m i hi => ?_) (fun m => ?_)
  · simp (disch := omega) only [zqad, zq9w, clock_in_eq, clock_compared_eq, c_pos, c_inb, c_not, i64_in, Int.toNat_natCast, vSync, c_and]
  · simp (disch := omega) only [zqad, zq9w, c_neg]

theorem clock_Valid_p3_eq (k1 : zq9j β) (k2 : zq9k β) (xs : List Event) (hx : xs.length ≤ 1000000) (r : List Host) (hr : r.length ≤ 1000000) (r2 : List Sync) (r3 : List Event) (r4 : List Link) :
    zqai k1 k2 xs xs.length 0 r r2 r3 r4 = cond (xs.all (vEvent r.length)) (k2 r r2 r3 r4) (k1 false) := by
  refine check_loop (fun m i => zqag m k1 k2 xs xs.length i r r2 r3 r4) (vEvent r.length) _ _ (0, 0, []) xs fuel (lt_fuel (by omega)) (fun m i hi => ?_) (fun m => ?_)
  · simp (disch := omega) only [zqah, zq9z, clock_in_eq, clock_instant_eq, c_pos, c_inb, c_not, i64_in, Int.toNat_natCast, vEvent, c_and]
  · simp (disch := omega) only [zqah, zq9z, c_neg]

theorem clock_Valid_p4_eq (k1 : zq9o β) (k2 : zq9p β) (xs : List Link) (hx : xs.length ≤ 1000000) (r : List Host) (r2 : List Sync) (r3 : List Event) (hr : r3.length ≤ 1000000) (r4 : List Link) :
    zqam k1 k2 xs xs.length 0 r r2 r3 r4 = cond (xs.all (vLink r3.length)) (k2 ()) (k1 false) := by
  refine check_loop (fun m i => zqak m k1 k2 xs xs.length i r r2 r3 r4) (vLink r3.length) _ _ (0, 0, 0) xs fuel (lt_fuel (by omega)) (fun m i hi => ?_) (fun m => ?_)
  · simp (disch := omega) only [zqal, zqa2, clock_in_eq, clock_instant_eq, c_pos, c_inb, c_not, i64_in, Int.toNat_natCast, vLink, c_nand, c_and, Bool.not_not]
  · simp (disch := omega) only [zqal, zqa2, c_neg]

theorem clock_Valid_eq (r : Rec) (k : Bool → Option β) : zqao r k = k (valid r) := by
  simp only [zqao, zqa5]
  by_cases h1 : (8 : Int) < r.1.length
  · simp [valid, small, h1]
  by_cases h2 : (64 : Int) < r.2.1.length
  · simp [valid, small, h1, h2]
  by_cases h3 : (40 : Int) < r.2.2.1.length
  · simp [valid, small, h1, h2, h3]
  by_cases h4 : (64 : Int) < r.2.2.2.length
  · simp [valid, small, h1, h2, h3, h4]
  rw [decide_eq_false h1, decide_eq_false h2, decide_eq_false h3, decide_eq_false h4]
  simp only [c_f]
  rw [clock_Valid_p1_eq _ _ _ (by omega), clock_Valid_p2_eq _ _ _ (by omega) _ (by omega), clock_Valid_p3_eq _ _ _ (by omega) _ (by omega), clock_Valid_p4_eq _ _ _ (by omega) _ _ _ (by omega)]
  simp only [c_kb, c_k, valid, small, decide_eq_false h1, decide_eq_false h2, decide_eq_false h3, decide_eq_false h4, Bool.not_false, Bool.true_and]
  apply k_eq
  cases r.1.all vHost <;> cases r.2.1.all (vSync r.1.length) <;> cases r.2.2.1.all (vEvent r.1.length) <;> cases r.2.2.2.all (vLink r.2.2.1.length) <;> rfl

theorem clock_Elapsed_eq (drift d : Int) (k : Int → Int → Option β) : zq95 drift d k = k (elapsed drift d).1 (elapsed drift d).2 := by
  simp only [zq95, zq92, clock_in_eq, clock_instant_eq, elapsed]
  cases h1 : inN drift 0 500000 with
  | false => rfl
  | true =>
    cases h2 : inN d 0 8589934592 with
    | false => rfl
    | true =>
      have h1 := inN_iff.1 h1
      have h2 := inN_iff.1 h2
      simp (disch := omega) only [zq6i, zq6f, Bool.not_true, c_f, Bool.and_true, cond_true, i64_in, i64_quo, c_nneg]

theorem elapsed_bd {drift d : Int} : 0 ≤ (elapsed drift d).1 ∧ (elapsed drift d).1 ≤ 8589934592 ∧ 0 ≤ (elapsed drift d).2 ∧ (elapsed drift d).2 ≤ 17179869184 := by
  unfold elapsed
  cases h : inN drift 0 500000 && inN d 0 8589934592 with
  | false => simp
  | true =>
    simp only [cond_true]
    rw [Bool.and_eq_true, inN_iff, inN_iff] at h
    have hp1 : (0 : Int) < 1000000 + drift := by omega
    have hp2 : (0 : Int) < 1000000 - drift := by omega
    refine ⟨Int.ediv_nonneg (by omega) (by omega), ?_, Int.ediv_nonneg (by omega) (by omega), ?_⟩
    · apply Int.le_of_lt_add_one
      rw [Int.ediv_lt_iff_lt_mul hp1]
      have : (8589934592 + 1) * 1000000 ≤ (8589934592 + 1) * (1000000 + drift) := Int.mul_le_mul_of_nonneg_left (by omega) (by omega)
      omega
    · apply Int.le_of_lt_add_one
      rw [Int.ediv_lt_iff_lt_mul hp2]
      have : (17179869184 + 1) * 500000 ≤ (17179869184 + 1) * (1000000 - drift) := Int.mul_le_mul_of_nonneg_left (by omega) (by omega)
      omega

theorem clock_From_eq (h : Host) (s : Sync) (c : Int) (k : Int × Int → Option β) : zqbb h s c k = k (fromS h s c) := by
  simp only [zqbb, zqb8, clock_in_eq, clock_compared_eq, clock_instant_eq, clock_Elapsed_eq, fromS, vHost]
  cases h1 : inN h.2 0 500000 with
  | false => rfl
  | true =>
    cases h2 : okSync s with
    | false => rfl
    | true =>
      cases h3 : inN c 0 8589934592 with
      | false => rfl
      | true =>
        simp only [okSync, Bool.and_eq_true, inN_iff, decide_eq_true_eq] at h2
        have h3 := inN_iff.1 h3
        simp only [Bool.not_true, c_f, Bool.and_true, cond_true]
        have e1 := @elapsed_bd h.2 (c - s.2.1)
        have e2 := @elapsed_bd h.2 (s.2.1 - c)
        by_cases h4 : s.2.1 ≤ c
        · simp (disch := omega) only [c_pos, i64_in, decide_eq_true h4, cond_true]
        · simp (disch := omega) only [c_neg, i64_in, decide_eq_false h4, cond_false]

theorem clock_Meet_eq (a b : Int × Int) (k : Int × Int → Option β) : zq5q a b k = k (meet2 a b) := by simp only [zq5q, zq5n, meet2]
theorem clock_Empty_eq (a : Int × Int) (k : Bool → Option β) : zq5x a k = k (decide (a.2 < a.1)) := by simp only [zq5x, zq5u]
theorem clock_When_p1_eq (k1 : zqbf β) (host c : Int) (xs : List Sync) (hx : xs.length ≤ 1000000) (r : List Host) (hh : 0 ≤ host ∧ host < r.length) (r2 : List Sync) (r3 : List Event) (r4 : List Link) (a b : Int) (o : Int × Int) :
    zqbr k1 host c xs xs.length 0 r r2 r3 r4 a b o.1 o.2 = k1 a b (xs.foldl (fun out s => cond (decide (s.1 = host)) (meet2 out (fromS (r.getD host.toNat ([], 0)) s c)) out) o).1 (xs.foldl (fun out s => cond (decide (s.1 = host)) (meet2 out (fromS (r.getD host.toNat ([], 0)) s c)) out) o).2 := by
  refine fold_loop (σ := Int × Int) (fun m i o => zqbp m k1 host c xs xs.length i r r2 r3 r4 a b o.1 o.2) (fun out s => cond (decide (s.1 = host)) (meet2 out (fromS (r.getD host.toNat ([], 0)) s c)) out) (fun o => k1 a b o.1 o.2) (0, 0, 0, 0) xs o fuel (lt_fuel (by omega)) (fun m i s hi => ?_) (fun m s => ?_)
  · simp (disch := omega) only [zqbq, zqbj, clock_From_eq, clock_Meet_eq, c_pos, c_inb, i64_in, Int.toNat_natCast]
    cases decide ((xs.getD i (0, 0, 0, 0)).1 = host) <;> rfl
  · simp (disch := omega) only [zqbq, zqbj, c_neg]

theorem valid_bd {r : Rec} (h : valid r = true) : r.1.length ≤ 8 ∧ r.2.1.length ≤ 64 ∧ r.2.2.1.length ≤ 40 ∧ r.2.2.2.length ≤ 64 := by
  simp [valid, small] at h
  omega

theorem clock_When_eq (r : Rec) (host c : Int) (k : Int × Int → Bool → Option β) : zqbt r host c k = k (when? r host c).1 (when? r host c).2 := by
  simp only [zqbt, zqbm, clock_Valid_eq, clock_in_eq, clock_instant_eq, clock_Empty_eq, when?]
  cases h1 : valid r with
  | false => rfl
  | true =>
    have hb := valid_bd h1
    simp (disch := omega) only [i64_in, Bool.not_true, c_f, Bool.true_and]
    cases h2 : inN host 0 ((r.1.length : Int) - 1) with
    | false => rfl
    | true =>
      cases h3 : inN c 0 8589934592 with
      | false => rfl
      | true =>
        have h2 := inN_iff.1 h2
        simp only [Bool.not_true, c_f, Bool.and_true, cond_true]
        rw [clock_When_p1_eq _ host c r.2.1 (by omega) r.1 (by omega) r.2.1 r.2.2.1 r.2.2.2 0 0 (0, 8589934592)]
        rfl

end
end
end Go.Lift

/- The dice in plain Lean. -/
namespace Go.Lift
open Go.RowKit Go.IntWalk
noncomputable section
set_option linter.unusedVariables false
set_option linter.unusedSimpArgs false

abbrev Dice := List Int × Int
def DiceOk (d : Dice) : Prop := 0 ≤ d.2 ∧ d.2 ≤ d.1.length ∧ d.1.length ≤ 500

theorem light_eq {β : Type} (l : List Int) (k : Bool → Option β) : zqa l k = k (decide ((l.length : Int) ≤ 500)) := by
  simp only [zqa, zq7]
theorem roll_eq {β : Type} (l : List Int) (k : Dice → Option β) : zqh l k = k (l, 0) := by
  simp only [zqh, zqe]
theorem roll_ok {l : List Int} (h : (l.length : Int) ≤ 500) : DiceOk (l, 0) := ⟨by simp, by simp, by show l.length ≤ 500; omega⟩

theorem next_ok {n : Int} {d : Dice} (hd : DiceOk d) (hn : 1 ≤ n ∧ n ≤ 4611686018427387904) :
    ∃ x d', 0 ≤ x ∧ x < n ∧ DiceOk d' ∧ ∀ {β : Type} (k : Int → Dice → Option β), zqo n d k = k x d' := by
  obtain ⟨h1, h2, h3⟩ := hd
  by_cases ha : (d.1.length : Int) ≤ d.2
  · exact ⟨0, d, by omega, by omega, ⟨h1, h2, h3⟩, fun k => by simp (disch := omega) only [zqo, zql, c_pos]⟩
  · generalize hv : List.getD d.1 (Int.toNat d.2) (0 : Int) = v
    have hm1 := Int.tmod_lt_of_pos v (show 0 < n by omega)
    have hm2 : -n < Int.tmod v n := by
      have h5 := Int.tmod_lt_of_pos (-v) (show 0 < n by omega)
      rw [Int.neg_tmod] at h5
      omega
    have hd' : DiceOk (d.1, d.2 + 1) := ⟨by show (0 : Int) ≤ d.2 + 1; omega, by show d.2 + 1 ≤ (d.1.length : Int); omega, h3⟩
    by_cases hc : Int.tmod v n < 0
    · refine ⟨Int.tmod v n + n, (d.1, d.2 + 1), by omega, by omega, hd', fun k => ?_⟩
      simp (disch := omega) only [zqo, zql, hv, c_pos, c_neg, c_inb, c_nneg, i64_in]
    · refine ⟨Int.tmod v n, (d.1, d.2 + 1), by omega, by omega, hd', fun k => ?_⟩
      simp (disch := omega) only [zqo, zql, hv, c_pos, c_neg, c_inb, c_nneg, i64_in]

/-- Next of any n: 0 if there is nothing to choose from. -/
theorem next_any (n : Int) {d : Dice} (hd : DiceOk d) (hn : n ≤ 4611686018427387904) :
    ∃ x d', (0 ≤ x ∧ (1 ≤ n → x < n) ∧ (n < 1 → x = 0)) ∧ DiceOk d' ∧ ∀ {β : Type} (k : Int → Dice → Option β), zqo n d k = k x d' := by
  by_cases h : 1 ≤ n
  · obtain ⟨x, d', h1, h2, h3, h4⟩ := next_ok hd ⟨h, hn⟩
    exact ⟨x, d', ⟨h1, fun _ => h2, by omega⟩, h3, h4⟩
  · refine ⟨0, d, ⟨by omega, by omega, by omega⟩, hd, fun k => ?_⟩
    simp only [zqo, zql]
    by_cases ha : (d.1.length : Int) ≤ d.2
    · simp (disch := omega) only [c_pos]
    · simp (disch := omega) only [c_pos, c_neg]

end
end Go.Lift

/- The dice in plain Lean: one of several numbers. -/
namespace Go.Lift
open Go.RowKit Go.IntWalk
noncomputable section
set_option linter.unusedVariables false
set_option linter.unusedSimpArgs false

theorem one_ok {l : List Int} {d : Dice} (hl : 0 < l.length) (hlen : l.length ≤ 1000000) (hd : DiceOk d) :
    ∃ x d', x ∈ l ∧ DiceOk d' ∧ ∀ {β : Type} (k : Int → Dice → Option β), zqv l d k = k x d' := by
  obtain ⟨x, d', h1, h2, hd', hf⟩ := next_ok (n := (l.length : Int)) hd (by omega)
  have hxn : x.toNat < l.length := by omega
  refine ⟨l.getD x.toNat 0, d', ?_, hd', fun k => ?_⟩
  · simp [List.getD, hxn]
  · simp (disch := omega) only [zqv, zqs, hf, c_inb]
end
end Go.Lift

/- Records made by the dice, in plain Lean. -/
namespace Go.Lift
open Go.RowKit Go.IntWalk
noncomputable section
set_option linter.unusedVariables false
set_option linter.unusedSimpArgs false

structure HostsOk (hosts : List Host) (ahead : List Int) : Prop where
  len : ahead.length = hosts.length
  most : hosts.length ≤ 3
  drift : ∀ h ∈ hosts, h.2 = 0 ∨ h.2 = 100 ∨ h.2 = 50000 ∨ h.2 = 500000
  off : ∀ a ∈ ahead, a = 0 ∨ a = 7 ∨ a = 100
/-- A comparison at a true time. -/
def SyncOk (nh : Nat) (ahead : List Int) (s : Sync) : Prop :=
  0 ≤ s.1 ∧ s.1 < nh ∧ ∃ t, 864000 ≤ t ∧ t < 864400 ∧ s.2.1 = t + ahead.getD s.1.toNat 0 ∧ t - 20 ≤ s.2.2.1 ∧ s.2.2.1 ≤ t ∧ t ≤ s.2.2.2 ∧ s.2.2.2 ≤ t + 15
def EventOk (nh : Nat) (ahead : List Int) (e : Event) (t : Int) : Prop :=
  0 ≤ e.1 ∧ e.1 < nh ∧ 864000 ≤ t ∧ t < 864300 ∧ e.2.1 = t + ahead.getD e.1.toNat 0
def LinkOk (times : List Int) (l : Link) : Prop :=
  0 ≤ l.1 ∧ l.1 < times.length ∧ 0 ≤ l.2.1 ∧ l.2.1 < times.length ∧ l.1 ≠ l.2.1 ∧ 0 ≤ l.2.2 ∧ times.getD l.1.toNat 0 + l.2.2 ≤ times.getD l.2.1.toNat 0
/-- What a record of the dice is. -/
structure RecOk (n : Int) (r : Rec) (ahead times : List Int) : Prop where
  hosts : HostsOk r.1 ahead
  some_ : 1 ≤ r.1.length
  fewS : r.2.1.length ≤ 8
  syncs : ∀ s ∈ r.2.1, SyncOk r.1.length ahead s
  lenE : times.length = r.2.2.1.length
  fewE : (r.2.2.1.length : Int) ≤ n
  events : ∀ i, i < r.2.2.1.length → EventOk r.1.length ahead (r.2.2.1.getD i (0, 0, [])) (times.getD i 0)
  fewL : r.2.2.2.length ≤ 8
  links : ∀ l ∈ r.2.2.2, LinkOk times l

theorem getD_mem {α : Type} {l : List α} {i : Nat} {d : α} (h : i < l.length) : l.getD i d ∈ l := by simp [List.getD, h]
theorem getD_append {α : Type} {l l' : List α} {i : Nat} {d : α} (h : i < l.length) : (l ++ l').getD i d = l.getD i d := by simp [List.getD, List.getElem?_append_left h]
theorem getD_last {α : Type} {l : List α} {x d : α} : (l ++ [x]).getD l.length d = x := by simp [List.getD]

theorem record_p1 (n N : Int) (hN : 1 ≤ N ∧ N ≤ 3) {d : Dice} (hd : DiceOk d) :
    ∃ q : Dice × List Int × List Host, (DiceOk q.1 ∧ HostsOk q.2.2 q.2.1 ∧ (q.2.2.length : Int) = N) ∧
      ∀ {β : Type} (k : zq6m β), zq7q k n N d.1 d.2 [] [] [] [] [] [] [] [] [] = k n q.1.1 q.1.2 q.2.1 [] [] [] [] q.2.2 [] [] [] := by
  refine while_loop (σ := Int × Dice × List Int × List Host) (ρ := Dice × List Int × List Host) (Kt := zq6m)
    (fun k m s => zq7o m k n s.1 s.2.1.1 s.2.1.2 s.2.2.1 [] [] [] [] s.2.2.2 [] [] []) (fun k q => k n q.1.1 q.1.2 q.2.1 [] [] [] [] q.2.2 [] [] [])
    (fun s => 0 ≤ s.1 ∧ s.1 + s.2.2.2.length = N ∧ DiceOk s.2.1 ∧ HostsOk s.2.2.2 s.2.2.1) (fun s => s.1.toNat) _ ?_ fuel (N, d, [], []) ⟨by omega, by simp, hd, ⟨rfl, by simp, by simp, by simp⟩⟩ (lt_fuel (by show N.toNat < _; omega))
  rintro ⟨i, d, ahead, hosts⟩ ⟨h0, h1, h2, h3⟩
  simp only at h0 h1 h2 h3
  have hl := h3.len
  by_cases hi : 0 < i
  · left
    obtain ⟨x, d1, hx, hd1, f1⟩ := one_ok (l := [0, 0, 100, 50000, 500000]) (by simp) (by simp) h2
    obtain ⟨y, d2, hy, hd2, f2⟩ := one_ok (l := [0, 7, 100]) (by simp) (by simp) hd1
    refine ⟨(i - 1, d2, ahead ++ [y], hosts ++ [(List.getD [[100, 98], [119, 101, 98], [108, 98]] hosts.length [], x)]), ⟨by simp only; omega, by simp; omega, hd2, ?_⟩, by simp only; omega, fun k m => ?_⟩
    · refine ⟨by simp [hl], by simp; omega, fun h hh => ?_, fun a ha => ?_⟩
      · simp only [List.mem_append, List.mem_singleton] at hh
        rcases hh with hh | rfl
        · exact h3.drift h hh
        · simpa using hx
      · simp only [List.mem_append, List.mem_singleton] at ha
        rcases ha with ha | rfl
        · exact h3.off a ha
        · simpa using hy
    · simp (disch := omega) only [zq7p, zq76, pair_eta, c_pos, c_inb, c_room, f1, f2, i64_in, List.length_cons, List.length_nil, Int.toNat_natCast]
  · right
    exact ⟨(d, ahead, hosts), ⟨h2, h3, by simp only; omega⟩, fun k m => by simp (disch := omega) only [zq7p, zq76, c_neg]⟩

theorem ahead_bd {hosts : List Host} {ahead : List Int} (h : HostsOk hosts ahead) (i : Nat) : 0 ≤ ahead.getD i 0 ∧ ahead.getD i 0 ≤ 100 := by
  by_cases hi : i < ahead.length
  · have := h.off _ (getD_mem (d := 0) hi)
    omega
  · simp [List.getD, hi]

theorem record_p2 (n N : Int) (hN : 0 ≤ N ∧ N ≤ 4) {d : Dice} (hd : DiceOk d) {hosts : List Host} {ahead : List Int} (hh : HostsOk hosts ahead) (h1 : 1 ≤ hosts.length) :
    ∃ q : Dice × List Sync, (DiceOk q.1 ∧ (q.2.length : Int) = N ∧ ∀ s ∈ q.2, SyncOk hosts.length ahead s) ∧
      ∀ {β : Type} (k : zq6q β), zq7u k n N d.1 d.2 ahead [] [] [] [] hosts [] [] [] = k n q.1.1 q.1.2 ahead [] [] [] [] hosts q.2 [] [] := by
  have hl := hh.len
  have hm := hh.most
  refine while_loop (σ := Int × Dice × List Sync) (ρ := Dice × List Sync) (Kt := zq6q)
    (fun k m s => zq7s m k n s.1 s.2.1.1 s.2.1.2 ahead [] [] [] [] hosts s.2.2 [] []) (fun k q => k n q.1.1 q.1.2 ahead [] [] [] [] hosts q.2 [] [])
    (fun s => 0 ≤ s.1 ∧ s.1 + s.2.2.length = N ∧ DiceOk s.2.1 ∧ ∀ x ∈ s.2.2, SyncOk hosts.length ahead x) (fun s => s.1.toNat) _ ?_ fuel (N, d, []) ⟨by omega, by simp, hd, by simp⟩ (lt_fuel (by show N.toNat < _; omega))
  rintro ⟨i, d, syncs⟩ ⟨h0, h1', h2, h3⟩
  simp only at h0 h1' h2 h3
  by_cases hi : 0 < i
  · left
    obtain ⟨x, d1, hx0, hx1, hd1, f1⟩ := next_ok (n := (hosts.length : Int)) h2 (by omega)
    obtain ⟨y, d2, hy0, hy1, hd2, f2⟩ := next_ok (n := 400) hd1 (by omega)
    obtain ⟨z, d3, hz, hd3, f3⟩ := one_ok (l := [0, 3, 20]) (by simp) (by simp) hd2
    obtain ⟨u, d4, hu, hd4, f4⟩ := one_ok (l := [0, 2, 15]) (by simp) (by simp) hd3
    simp only [List.mem_cons, List.not_mem_nil, or_false] at hz hu
    have ha := ahead_bd hh x.toNat
    refine ⟨(i - 1, d4, syncs ++ [(x, 864000 + y + ahead.getD x.toNat 0, 864000 + y - z, 864000 + y + u)]), ⟨by simp only; omega, by simp; omega, hd4, ?_⟩, by simp only; omega, fun k m => ?_⟩
    · intro s hs
      simp only [List.mem_append, List.mem_singleton] at hs
      rcases hs with hs | rfl
      · exact h3 s hs
      · exact ⟨hx0, hx1, 864000 + y, by omega, by omega, rfl, by simp only; omega, by simp only; omega, by simp only; omega, by simp only; omega⟩
    · simp (disch := omega) only [zq7t, zq79, pair_eta, c_pos, c_inb, c_room, f1, f2, f3, f4, i64_in, List.length_cons, List.length_nil, Int.toNat_natCast]
  · right
    exact ⟨(d, syncs), ⟨h2, by simp only; omega, h3⟩, fun k m => by simp (disch := omega) only [zq7t, zq79, c_neg]⟩

theorem record_p3 (N : Int) (hN : 0 ≤ N ∧ N ≤ 1000) {d : Dice} (hd : DiceOk d) {hosts : List Host} {ahead : List Int} (hh : HostsOk hosts ahead) (h1 : 1 ≤ hosts.length) (syncs : List Sync) :
    ∃ q : Dice × List Int × List Event, (DiceOk q.1 ∧ (q.2.2.length : Int) = N ∧ q.2.1.length = q.2.2.length ∧ ∀ i, i < q.2.2.length → EventOk hosts.length ahead (q.2.2.getD i (0, 0, [])) (q.2.1.getD i 0)) ∧
      ∀ {β : Type} (k : zq6u β), zq7y k N d.1 d.2 ahead [] [] [] [] [] hosts syncs [] [] = k q.1.1 q.1.2 q.2.1 [] [] [] [] hosts syncs q.2.2 [] := by
  have hl := hh.len
  have hm := hh.most
  refine while_loop (σ := Int × Dice × List Int × List Event) (ρ := Dice × List Int × List Event) (Kt := zq6u)
    (fun k m s => zq7w m k s.1 s.2.1.1 s.2.1.2 ahead s.2.2.1 [] [] [] [] hosts syncs s.2.2.2 []) (fun k q => k q.1.1 q.1.2 q.2.1 [] [] [] [] hosts syncs q.2.2 [])
    (fun s => 0 ≤ s.1 ∧ s.1 + s.2.2.2.length = N ∧ s.2.2.1.length = s.2.2.2.length ∧ DiceOk s.2.1 ∧ ∀ i, i < s.2.2.2.length → EventOk hosts.length ahead (s.2.2.2.getD i (0, 0, [])) (s.2.2.1.getD i 0)) (fun s => s.1.toNat) _ ?_ fuel (N, d, [], []) ⟨by omega, by simp, rfl, hd, by simp⟩ (lt_fuel (by show N.toNat < _; omega))
  rintro ⟨i, d, times, evs⟩ ⟨h0, h1', hlen, h2, h3⟩
  simp only at h0 h1' hlen h2 h3
  by_cases hi : 0 < i
  · left
    obtain ⟨x, d1, hx0, hx1, hd1, f1⟩ := next_ok (n := (hosts.length : Int)) h2 (by omega)
    obtain ⟨y, d2, hy0, hy1, hd2, f2⟩ := next_ok (n := 300) hd1 (by omega)
    obtain ⟨z, d3, hz0, hz1, hd3, f3⟩ := next_ok (n := 3) hd2 (by omega)
    have ha := ahead_bd hh x.toNat
    refine ⟨(i - 1, d3, times ++ [864000 + y], evs ++ [(x, 864000 + y + ahead.getD x.toNat 0, List.getD [[117, 112], [100, 111, 119, 110], [115, 108, 111, 119]] z.toNat [])]), ⟨by simp only; omega, by simp; omega, by simp [hlen], hd3, ?_⟩, by simp only; omega, fun k m => ?_⟩
    · intro j hj
      simp only [List.length_append, List.length_singleton] at hj
      by_cases hj' : j < evs.length
      · rw [getD_append hj', getD_append (by omega)]
        exact h3 j hj'
      · obtain rfl : j = evs.length := by omega
        simp only
        rw [getD_last]
        rw [← hlen, getD_last]
        exact ⟨hx0, hx1, by omega, by omega, rfl⟩
    · simp (disch := omega) only [zq7x, zq7c, pair_eta, c_pos, c_inb, c_room, f1, f2, f3, i64_in, List.length_cons, List.length_nil, Int.toNat_natCast]
  · right
    exact ⟨(d, times, evs), ⟨h2, by simp only; omega, hlen, h3⟩, fun k m => by simp (disch := omega) only [zq7x, zq7c, c_neg]⟩

theorem record_p5 (N : Int) (hN : 0 ≤ N ∧ N ≤ 3) {d : Dice} (hd : DiceOk d) (hosts : List Host) (syncs : List Sync) (evs : List Event) {times : List Int} (ht : times.length ≤ 1000) (hb : ∀ i, i < times.length → 864000 ≤ times.getD i 0 ∧ times.getD i 0 < 864300) :
    ∃ q : Dice × List Link, (DiceOk q.1 ∧ q.2.length ≤ 3 ∧ ∀ l ∈ q.2, LinkOk times l) ∧
      ∀ {β : Type} (k : zq72 β), zq84 k N d.1 d.2 times [] [] [] [] hosts syncs evs [] = k q.1.1 q.1.2 times [] [] [] [] hosts syncs evs q.2 := by
  refine while_loop (σ := Int × Dice × List Link) (ρ := Dice × List Link) (Kt := zq72)
    (fun k m s => zq82 m k s.1 s.2.1.1 s.2.1.2 times [] [] [] [] hosts syncs evs s.2.2) (fun k q => k q.1.1 q.1.2 times [] [] [] [] hosts syncs evs q.2)
    (fun s => 0 ≤ s.1 ∧ s.1 + s.2.2.length ≤ N ∧ DiceOk s.2.1 ∧ ∀ x ∈ s.2.2, LinkOk times x) (fun s => s.1.toNat) _ ?_ fuel (N, d, []) ⟨by omega, by simp, hd, by simp⟩ (lt_fuel (by show N.toNat < _; omega))
  rintro ⟨i, d, links⟩ ⟨h0, h1', h2, h3⟩
  simp only at h0 h1' h2 h3
  by_cases hi : 0 < i
  · by_cases ht1 : (1 : Int) < times.length
    · left
      obtain ⟨x, d1, hx0, hx1, hd1, f1⟩ := next_ok (n := (times.length : Int)) h2 (by omega)
      obtain ⟨y, d2, hy0, hy1, hd2, f2⟩ := next_ok (n := (times.length : Int)) hd1 (by omega)
      by_cases hxy : x = y
      · refine ⟨(i - 1, d2, links), ⟨by simp only; omega, by simp only; omega, hd2, h3⟩, by simp only; omega, fun k m => ?_⟩
        simp (disch := omega) only [zq83, zq7i, zq80, zq7g, zq7f, pair_eta, c_pos, c_npos, c_f, f1, f2, i64_in]
      · have bx := hb x.toNat (by omega)
        have by_ := hb y.toNat (by omega)
        by_cases hle : times.getD x.toNat 0 ≤ times.getD y.toNat 0
        · obtain ⟨z, d3, hz0, hz1, hd3, f3⟩ := next_ok (n := times.getD y.toNat 0 - times.getD x.toNat 0 + 1) hd2 (by omega)
          refine ⟨(i - 1, d3, links ++ [(x, y, z)]), ⟨by simp only; omega, by simp; omega, hd3, ?_⟩, by simp only; omega, fun k m => ?_⟩
          · intro l hl
            simp only [List.mem_append, List.mem_singleton] at hl
            rcases hl with hl | rfl
            · exact h3 l hl
            · exact ⟨hx0, hx1, hy0, hy1, hxy, hz0, by simp only; omega⟩
          · simp (disch := omega) only [zq83, zq7i, zq80, zq7g, zq7f, pair_eta, c_pos, c_nneg, c_inb, c_room, f1, f2, f3, i64_in, List.length_cons, List.length_nil]
        · refine ⟨(i - 1, d2, links), ⟨by simp only; omega, by simp only; omega, hd2, h3⟩, by simp only; omega, fun k m => ?_⟩
          simp (disch := omega) only [zq83, zq7i, zq80, zq7g, zq7f, pair_eta, c_pos, c_nneg, c_inb, c_neg, f1, f2, i64_in]
    · right
      exact ⟨(d, links), ⟨h2, by simp only; omega, h3⟩, fun k m => by simp (disch := omega) only [zq83, zq7i, c_pos, c_neg]⟩
  · right
    exact ⟨(d, links), ⟨h2, by simp only; omega, h3⟩, fun k m => by simp (disch := omega) only [zq83, zq7i, c_neg]⟩

/-- A record of the dice is valid. -/
theorem RecOk.valid {n : Int} {r : Rec} {ahead times : List Int} (h : RecOk n r ahead times) (hn : n ≤ 40) : valid r = true := by
  obtain ⟨hosts, syncs, evs, links⟩ := r
  have hE := h.fewE
  have hS := h.fewS
  have hL := h.fewL
  have hm := h.hosts.most
  have hle := h.lenE
  simp only at hE hS hL hm hle
  have key : ∀ (l : List Int) (i : Nat), (∀ a ∈ l, a = 0 ∨ a = 7 ∨ a = 100) → 0 ≤ l.getD i 0 ∧ l.getD i 0 ≤ 100 := by
    intro l i hl
    by_cases hi : i < l.length
    · have := hl _ (getD_mem (d := 0) hi); omega
    · simp [List.getD, hi]
  have hev : ∀ e ∈ evs, vEvent hosts.length e = true := by
    intro e he
    obtain ⟨i, hi, rfl⟩ := List.getElem_of_mem he
    have := h.events i hi
    simp only at this
    rw [show evs.getD i (0, 0, []) = evs[i] by simp [List.getD, hi]] at this
    obtain ⟨a1, a2, a3, a4, a5⟩ := this
    have := key ahead evs[i].1.toNat h.hosts.off
    simp only [vEvent, Bool.and_eq_true, inN_iff]
    omega
  have hsy : ∀ s ∈ syncs, vSync hosts.length s = true := by
    intro s hs
    obtain ⟨a1, a2, t, a3, a4, a5, a6, a7, a8, a9⟩ := h.syncs s hs
    have := key ahead s.1.toNat h.hosts.off
    simp only [vSync, okSync, Bool.and_eq_true, inN_iff, decide_eq_true_eq]
    simp only at a2
    omega
  have hli : ∀ l ∈ links, vLink evs.length l = true := by
    intro l hl
    obtain ⟨a1, a2, a3, a4, a5, a6, a7⟩ := h.links l hl
    have b1 := h.events l.1.toNat (by simp only; omega)
    have b2 := h.events l.2.1.toNat (by simp only; omega)
    obtain ⟨-, -, c1, c2, -⟩ := b1
    obtain ⟨-, -, c3, c4, -⟩ := b2
    simp only [vLink, Bool.and_eq_true, inN_iff, Bool.not_eq_true', decide_eq_false_iff_not]
    omega
  have hho : ∀ x ∈ hosts, vHost x = true := by
    intro x hx
    have := h.hosts.drift x hx
    simp only [vHost, inN_iff]
    omega
  simp only [Go.Lift.valid, small, Bool.and_eq_true, List.all_eq_true, Bool.not_eq_true', decide_eq_false_iff_not]
  exact ⟨⟨by omega, by omega, by omega, by omega⟩, hho, hsy, hev, hli⟩

end
end Go.Lift

/- When a clock showed a reading. -/
namespace Go.Lift
open Go.RowKit Go.IntWalk
noncomputable section
set_option linter.unusedVariables false
set_option linter.unusedSimpArgs false

theorem elapsed_le {drift d : Int} (h1 : 0 ≤ drift ∧ drift ≤ 500000) (h2 : 0 ≤ d ∧ d ≤ 8589934592) : (elapsed drift d).1 ≤ d ∧ d ≤ (elapsed drift d).2 := by
  unfold elapsed
  rw [inN_mk h1, inN_mk h2]
  simp only [Bool.and_true, cond_true]
  have hp1 : (0 : Int) < 1000000 + drift := by omega
  have hp2 : (0 : Int) < 1000000 - drift := by omega
  constructor
  · apply Int.le_of_lt_add_one
    rw [Int.ediv_lt_iff_lt_mul hp1]
    have : (d + 1) * 1000000 ≤ (d + 1) * (1000000 + drift) := Int.mul_le_mul_of_nonneg_left (by omega) (by omega)
    omega
  · rw [Int.le_ediv_iff_mul_le hp2]
    have : d * (1000000 - drift) ≤ d * 1000000 := Int.mul_le_mul_of_nonneg_left (by omega) (by omega)
    omega

/-- What a comparison says of a reading, if its numbers are right. -/
theorem fromS_eq {h : Host} {s : Sync} {c : Int} (h1 : 0 ≤ h.2 ∧ h.2 ≤ 500000) (h2 : okSync s = true) (h3 : 0 ≤ c ∧ c ≤ 8589934592) :
    fromS h s c = if s.2.1 ≤ c then (s.2.2.1 + (elapsed h.2 (c - s.2.1)).1, s.2.2.2 + (elapsed h.2 (c - s.2.1)).2) else (s.2.2.1 - (elapsed h.2 (s.2.1 - c)).2, s.2.2.2 - (elapsed h.2 (s.2.1 - c)).1) := by
  unfold fromS
  rw [h2, inN_mk h3, vHost, inN_mk h1]
  simp only [Bool.and_self, cond_true]
  split <;> rename_i hc
  · rw [decide_eq_true hc]; rfl
  · rw [decide_eq_false hc]; rfl

theorem fromS_bd {h : Host} {s : Sync} {c : Int} (h1 : 0 ≤ h.2 ∧ h.2 ≤ 500000) (h2 : okSync s = true) (h3 : 0 ≤ c ∧ c ≤ 8589934592) :
    -17179869184 ≤ (fromS h s c).1 ∧ (fromS h s c).1 ≤ 25769803776 ∧ -17179869184 ≤ (fromS h s c).2 ∧ (fromS h s c).2 ≤ 25769803776 := by
  rw [fromS_eq h1 h2 h3]
  have e1 := @elapsed_bd h.2 (c - s.2.1)
  have e2 := @elapsed_bd h.2 (s.2.1 - c)
  simp only [okSync, Bool.and_eq_true, inN_iff, decide_eq_true_eq] at h2
  split <;> simp only <;> omega

/-- The range that a true comparison gives has the true time. -/
theorem fromS_true {h : Host} {s : Sync} {c t a : Int} (h1 : 0 ≤ h.2 ∧ h.2 ≤ 500000) (h2 : okSync s = true) (h3 : 0 ≤ c ∧ c ≤ 8589934592) (hs : s.2.1 = t + a) (hl : s.2.2.1 ≤ t) (hh : t ≤ s.2.2.2) :
    (fromS h s c).1 ≤ c - a ∧ c - a ≤ (fromS h s c).2 := by
  rw [fromS_eq h1 h2 h3]
  simp only [okSync, Bool.and_eq_true, inN_iff, decide_eq_true_eq] at h2
  split
  · have := elapsed_le h1 (d := c - s.2.1) (by omega)
    simp only; omega
  · have := elapsed_le h1 (d := s.2.1 - c) (by omega)
    simp only; omega

theorem meet2_eq (a b : Int × Int) : meet2 a b = (max a.1 b.1, min a.2 b.2) := by
  unfold meet2
  congr 1
  · omega
  · omega

/-- The ranges that the comparisons of a host give. -/
def froms (hosts : List Host) (host c : Int) (syncs : List Sync) : List (Int × Int) := (syncs.filter fun s => decide (s.1 = host)).map fun s => fromS (hosts.getD host.toNat ([], 0)) s c

theorem whenR_eq (r : Rec) (host c : Int) : whenR r host c = (froms r.1 host c r.2.1).foldl meet2 (0, 8589934592) := by
  unfold whenR froms
  generalize ((0 : Int), (8589934592 : Int)) = o
  induction r.2.1 generalizing o with
  | nil => rfl
  | cons s l ih =>
    simp only [List.foldl_cons, ih, List.filter_cons]
    cases decide (s.1 = host) <;> rfl

theorem foldl_meet_in {x : Int} : ∀ {l : List (Int × Int)} {o : Int × Int}, o.1 ≤ x ∧ x ≤ o.2 → (∀ f ∈ l, f.1 ≤ x ∧ x ≤ f.2) → (l.foldl meet2 o).1 ≤ x ∧ x ≤ (l.foldl meet2 o).2
  | [], o, h, _ => h
  | f :: l, o, h, hl => by
    have h1 := hl f (by simp)
    refine foldl_meet_in (o := meet2 o f) ?_ fun g hg => hl g (by simp [hg])
    rw [meet2_eq]
    simp only; omega

theorem foldl_meet_bd : ∀ {l : List (Int × Int)} {o : Int × Int}, o.1 ≤ (l.foldl meet2 o).1 ∧ (l.foldl meet2 o).2 ≤ o.2
  | [], o => ⟨Int.le_refl _, Int.le_refl _⟩
  | f :: l, o => by
    have := @foldl_meet_bd l (meet2 o f)
    rw [meet2_eq] at this
    rw [List.foldl_cons, meet2_eq]
    simp only at this
    omega

theorem foldl_meet_some {P : Int → Prop} : ∀ {l : List (Int × Int)} {o : Int × Int}, P o.1 → P o.2 → (∀ f ∈ l, P f.1 ∧ P f.2) → P (l.foldl meet2 o).1 ∧ P (l.foldl meet2 o).2
  | [], o, h1, h2, _ => ⟨h1, h2⟩
  | f :: l, o, h1, h2, hl => by
    obtain ⟨k1, k2⟩ := hl f (by simp)
    refine foldl_meet_some (o := meet2 o f) ?_ ?_ fun g hg => hl g (by simp [hg])
    · simp only [meet2]; split <;> assumption
    · simp only [meet2]; split <;> assumption

section
variable {n : Int} {r : Rec} {ahead times : List Int}
theorem RecOk.sync_ok (h : RecOk n r ahead times) {s : Sync} (hs : s ∈ r.2.1) : okSync s = true ∧ 864000 ≤ s.2.1 ∧ s.2.1 ≤ 864500 ∧ 863980 ≤ s.2.2.1 ∧ s.2.2.2 ≤ 864415 := by
  obtain ⟨a1, a2, t, a3, a4, a5, a6, a7, a8, a9⟩ := h.syncs s hs
  have := ahead_bd h.hosts s.1.toNat
  refine ⟨?_, by omega, by omega, by omega, by omega⟩
  simp only [okSync, Bool.and_eq_true, inN_iff, decide_eq_true_eq]
  omega
theorem RecOk.drift_ok (h : RecOk n r ahead times) (i : Nat) : 0 ≤ (r.1.getD i ([], 0)).2 ∧ (r.1.getD i ([], 0)).2 ≤ 500000 := by
  by_cases hi : i < r.1.length
  · have := h.hosts.drift _ (getD_mem (d := ([], 0)) hi); omega
  · simp [List.getD, hi]

theorem RecOk.froms_true (h : RecOk n r ahead times) {host c : Int} (hh : 0 ≤ host ∧ host < r.1.length) (hc : 0 ≤ c ∧ c ≤ 8589934592) :
    ∀ f ∈ froms r.1 host c r.2.1, f.1 ≤ c - ahead.getD host.toNat 0 ∧ c - ahead.getD host.toNat 0 ≤ f.2 := by
  intro f hf
  simp only [froms, List.mem_map, List.mem_filter, decide_eq_true_eq] at hf
  obtain ⟨s, ⟨hs, rfl⟩, rfl⟩ := hf
  obtain ⟨a1, a2, t, a3, a4, a5, a6, a7, a8, a9⟩ := h.syncs s hs
  exact fromS_true (h.drift_ok _) (h.sync_ok hs).1 hc a5 a7 a8

theorem RecOk.when_true (h : RecOk n r ahead times) {host c : Int} (hh : 0 ≤ host ∧ host < r.1.length) (hc : 100 ≤ c ∧ c ≤ 8589934592) :
    (whenR r host c).1 ≤ c - ahead.getD host.toNat 0 ∧ c - ahead.getD host.toNat 0 ≤ (whenR r host c).2 := by
  rw [whenR_eq]
  have := ahead_bd h.hosts host.toNat
  exact foldl_meet_in (by simp only; omega) (h.froms_true hh (by omega))

theorem RecOk.when? (h : RecOk n r ahead times) (hn : n ≤ 40) {host c : Int} (hh : 0 ≤ host ∧ host < r.1.length) (hc : 100 ≤ c ∧ c ≤ 8589934592) : when? r host c = (whenR r host c, true) := by
  have h1 := h.when_true hh hc
  unfold Go.Lift.when?
  rw [h.valid hn, inN_mk (by omega), inN_mk (by omega)]
  simp only [Bool.and_self, cond_true]
  rw [decide_eq_false (by omega)]
  rfl
end

theorem foldl_meet_shift (d : Int) : ∀ (l : List (Int × Int)) (o : Int × Int), (l.map fun f => (f.1 + d, f.2 + d)).foldl meet2 (o.1 + d, o.2 + d) = ((l.foldl meet2 o).1 + d, (l.foldl meet2 o).2 + d)
  | [], o => rfl
  | f :: l, o => by
    rw [List.map_cons, List.foldl_cons, List.foldl_cons, ← foldl_meet_shift d l]
    congr 1
    simp only [meet2_eq]
    congr 1 <;> omega
end
end Go.Lift

/- constraint.Close in plain Lean. -/
namespace Go.Lift
open Go.RowKit Go.IntWalk
noncomputable section
set_option linter.unusedVariables false
set_option linter.unusedSimpArgs false
set_option maxRecDepth 10000

theorem range_getD {n i : Nat} (h : i < n) : (List.range n).getD i 0 = i := by simp [List.getD, h]

section
variable {β : Type}
theorem close_p3 {n : Nat} (hn : n ≤ 100) {k i : Nat} (hk : k < n) (hi : i < n) {m : Mat} (hm : Sq n m) (a b c d : Int) (k1 : zqei β) :
    zqft k1 (n : Int) (k : Int) (i : Int) a b c d (n : Int) 0 m = k1 (n : Int) (k : Int) a b c d (rowW n k i m) := by
  have key := fold_loopI (fun _ m => Sq n m) (fun f j m => zqfr f k1 (n : Int) (k : Int) (i : Int) a b c d (n : Int) j m) (fun m j => relaxW k i j m) (fun m => k1 (n : Int) (k : Int) a b c d m) 0 (List.range n) m fuel (lt_fuel (by simp; omega)) hm
    (fun j m hj hm => hm.relaxW _ _ _)
    (fun f j m hj hm => by
      have hj : j < n := by simpa using hj
      have e1 : IntKind.i64.wrap ((j : Int) + 1) = j + 1 := i64_in _ (by omega)
      rw [range_getD hj, zqfs]
      unfold zqf6
      simp only [Int.toNat_natCast]
      have l0 := hm.len
      have l1 := hm.row i hi
      have l2 := hm.row k hk
      refine (c_pos (by omega)).trans ?_
      refine (c_inb (by omega)).trans ?_
      refine (c_inb (by omega)).trans ?_
      have hq : ∀ (t : Bool), (zqfp (fun (n2 : Int) (k_2 : Int) (i_2 : Int) (t382 : Int) (t392 : Int) (t422 : Int) (t432 : Int) (t462 : Int) (t472 : Int) (m2 : List (List Int)) => zqfr f k1 n2 k_2 i_2 t382 t392 t422 t432 t462 (IntKind.i64.wrap (t472 + (1 : Int))) m2) (n : Int) (k : Int) (i : Int) (j : Int) a b c d (n : Int) (j : Int) t m : Option β) =
          zqfr f k1 (n : Int) (k : Int) (i : Int) a b c d (n : Int) ((j : Int) + 1) (if t then setAt m i j (if IntKind.i64.wrap (at2 m i k + at2 m k j) < at2 m i j then IntKind.i64.wrap (at2 m i k + at2 m k j) else at2 m i j) else m) := fun t => by
        unfold zqfp zqf4 zqf3
        cases t with
        | false =>
          simp only [cond_false, e1]
          rfl
        | true =>
          simp only [cond_true, Int.toNat_natCast, e1]
          refine (c_inb (by omega)).trans ?_
          refine (c_inb (by omega)).trans ?_
          refine (c_inb (by omega)).trans ?_
          refine (c_inb (by omega)).trans ?_
          refine (c_inb (by omega)).trans ?_
          refine (c_inb (by omega)).trans ?_
          refine (c_inb (by omega)).trans ?_
          refine (c_inb (by omega)).trans ?_
          rfl
      by_cases h1 : at2 m i k = BIG
      · refine (c_npos (show (m.getD i []).getD k 0 = (1099511627776 : Int) from h1)).trans ?_
        refine (hq false).trans ?_
        have : relaxW k i j m = m := by unfold relaxW; rw [if_pos (.inl h1)]
        rw [this]
        rfl
      · refine (c_nneg (show ¬ (m.getD i []).getD k 0 = (1099511627776 : Int) from h1)).trans ?_
        refine (c_inb (by omega)).trans ?_
        refine (c_inb (by omega)).trans ?_
        refine (hq _).trans ?_
        by_cases h2 : at2 m k j = BIG
        · have : relaxW k i j m = m := by unfold relaxW; rw [if_pos (.inr h2)]
          rw [this, decide_eq_true (show (m.getD k []).getD j 0 = (1099511627776 : Int) from h2)]
          rfl
        · have : relaxW k i j m = setAt m i j (if IntKind.i64.wrap (at2 m i k + at2 m k j) < at2 m i j then IntKind.i64.wrap (at2 m i k + at2 m k j) else at2 m i j) := by unfold relaxW; rw [if_neg (fun h => h.elim h1 h2)]
          rw [this, decide_eq_false (show ¬ (m.getD k []).getD j 0 = (1099511627776 : Int) from h2)]
          rfl)
    (fun f m hm => by
      rw [zqfs]
      unfold zqf6
      exact c_neg (by simp))
  unfold zqft
  exact key
theorem close_p4 {n : Nat} (hn : n ≤ 100) {k : Nat} (hk : k < n) {m : Mat} (hm : Sq n m) (a b : Int) (k1 : zqem β) :
    zqfx k1 (n : Int) (k : Int) a b (n : Int) 0 m = k1 (n : Int) (k : Int) a b (roundW n k m) := by
  have key := fold_loopI (fun _ m => Sq n m) (fun f j m => zqfv f k1 (n : Int) (k : Int) a b (n : Int) j m) (fun m i => rowW n k i m) (fun m => k1 (n : Int) (k : Int) a b m) 0 (List.range n) m fuel (lt_fuel (by simp; omega)) hm
    (fun j m hj hm => hm.rowW _ _)
    (fun f j m hj hm => by
      have hj : j < n := by simpa using hj
      have e1 : IntKind.i64.wrap ((j : Int) + 1) = j + 1 := i64_in _ (by omega)
      rw [range_getD hj, zqfw]
      unfold zqf9
      refine (c_pos (by omega)).trans ?_
      refine (close_p3 hn hk hj hm _ _ _ _ _).trans ?_
      simp only [e1])
    (fun f m hm => by
      rw [zqfw]
      unfold zqf9
      exact c_neg (by simp))
  unfold zqfx
  exact key

/-- The rounds of the closure: c rounds from k on. -/
def roundsW (n : Nat) : Nat → Nat → Mat → Option Mat
  | 0, _, m => some m
  | c + 1, k, m => if at2 (roundW n k m) k k < 0 then none else roundsW n c (k + 1) (roundW n k m)

theorem roundsW_sq {n : Nat} : ∀ (c k : Nat) (m m' : Mat), Sq n m → roundsW n c k m = some m' → Sq n m'
  | 0, k, m, m', h, e => by cases e; exact h
  | c + 1, k, m, m', h, e => by
    unfold roundsW at e
    split at e
    · cases e
    · exact roundsW_sq c (k + 1) _ m' (h.roundW k) e

theorem close_p5_n {n : Nat} (hn : n ≤ 100) (k1 : zqeq β) (k2 : zqer β) : ∀ (c k f : Nat) (m : Mat), k + c = n → c < f → Sq n m →
    zqfz f k1 k2 (n : Int) (n : Int) (k : Int) m = (match roundsW n c k m with | some m' => k2 (n : Int) m' | none => k1 false [])
  | 0, k, f + 1, m, h, hf, hm => by
    rw [zqg0]
    unfold zqfc
    exact c_neg (by omega)
  | c + 1, k, f + 1, m, h, hf, hm => by
    rw [zqg0]
    unfold zqfc
    have hk : k < n := by omega
    refine (c_pos (by omega)).trans ?_
    refine (close_p4 hn hk hm _ _ _).trans ?_
    have hm' := hm.roundW k
    have l0 := hm'.len
    have l1 := hm'.row k hk
    have e1 : IntKind.i64.wrap ((k : Int) + 1) = ((k + 1 : Nat) : Int) := i64_in _ (by omega)
    simp only [Int.toNat_natCast]
    refine (c_inb (by omega)).trans ?_
    refine (c_inb (by omega)).trans ?_
    unfold roundsW
    by_cases h2 : at2 (roundW n k m) k k < 0
    · refine (c_pos h2).trans ?_
      rw [if_pos h2]
    · refine (c_neg h2).trans ?_
      rw [if_neg h2, e1]
      exact close_p5_n hn k1 k2 c (k + 1) f _ (by omega) (by omega) hm'
  | _, _, 0, _, _, hf, _ => absurd hf (by omega)

theorem close_p5 {n : Nat} (hn : n ≤ 100) (k1 : zqeq β) (k2 : zqer β) {m : Mat} (hm : Sq n m) :
    zqg1 k1 k2 (n : Int) (n : Int) 0 m = (match roundsW n n 0 m with | some m' => k2 (n : Int) m' | none => k1 false []) := by
  unfold zqg1
  exact close_p5_n hn k1 k2 n 0 fuel m (by omega) (lt_fuel (by omega)) hm

/-- No number of the diagonal is less than 0. -/
def diagOk (n : Nat) (m : Mat) : Bool := (List.range n).all fun i => decide (¬ at2 m i i < 0)

theorem close_p6 {n : Nat} (hn : n ≤ 100) (k1 : zqev β) (k2 : zqew β) {m : Mat} (hm : Sq n m) :
    zqg5 k1 k2 (n : Int) 0 m = cond (diagOk n m) (k2 m) (k1 false []) := by
  have key := check_loop (fun f j => zqg3 f k1 k2 (n : Int) j m) (fun i => decide (¬ at2 m i i < 0)) (k1 false []) (k2 m) 0 (List.range n) fuel (lt_fuel (by simp; omega))
    (fun f j hj => by
      have hj : j < n := by simpa using hj
      have e1 : IntKind.i64.wrap ((j : Int) + 1) = j + 1 := i64_in _ (by omega)
      have l0 := hm.len
      have l1 := hm.row j hj
      rw [range_getD hj, zqg4]
      unfold zqff
      simp only [Int.toNat_natCast, e1]
      refine (c_pos (by omega)).trans ?_
      refine (c_inb (by omega)).trans ?_
      refine (c_inb (by omega)).trans ?_
      by_cases h2 : at2 m j j < 0
      · refine (c_pos h2).trans ?_
        simp [h2]
      · refine (c_neg h2).trans ?_
        simp [h2])
    (fun f => by
      rw [zqg4]
      unfold zqff
      exact c_neg (by simp))
  unfold zqg5
  exact key

/-- The diagonal is 0 at most. -/
def diagW (n : Nat) (m : Mat) : Mat := (List.range n).foldl (fun m i => setAt m i i (if 0 < at2 m i i then 0 else at2 m i i)) m
theorem Sq.diagW {n : Nat} {m : Mat} (h : Sq n m) : Sq n (diagW n m) := fold_inv (Sq n) _ (fun m i h => h.setAt _ _ _) _ _ h

theorem close_p1 {n : Nat} (hn : n ≤ 100) (k1 : zqea β) {m : Mat} (hm : Sq n m) :
    zqfn k1 (n : Int) (n : Int) 0 m = k1 (n : Int) (diagW n m) := by
  have key := fold_loopI (fun _ m => Sq n m) (fun f j m => zqfl f k1 (n : Int) (n : Int) j m) (fun m i => setAt m i i (if 0 < at2 m i i then 0 else at2 m i i)) (fun m => k1 (n : Int) m) 0 (List.range n) m fuel (lt_fuel (by simp; omega)) hm
    (fun j m hj hm => hm.setAt _ _ _)
    (fun f j m hj hm => by
      have hj : j < n := by simpa using hj
      have e1 : IntKind.i64.wrap ((j : Int) + 1) = j + 1 := i64_in _ (by omega)
      have l0 := hm.len
      have l1 := hm.row j hj
      rw [range_getD hj, zqfm]
      unfold zqf0
      simp only [Int.toNat_natCast, e1]
      refine (c_pos (by omega)).trans ?_
      refine (c_inb (by omega)).trans ?_
      refine (c_inb (by omega)).trans ?_
      refine (c_inb (by omega)).trans ?_
      refine (c_inb (by omega)).trans ?_
      rfl)
    (fun f m hm => by
      rw [zqfm]
      unfold zqf0
      exact c_neg (by simp))
  unfold zqfn
  exact key
end
end
end Go.Lift

/- constraint.Valid and constraint.direct in plain Lean. -/
namespace Go.Lift
open Go.RowKit Go.IntWalk
noncomputable section
set_option linter.unusedVariables false
set_option linter.unusedSimpArgs false
set_option maxRecDepth 10000

abbrev Diff := Int × (Int × Int)
section
variable {β : Type}
theorem constraint_in_eq (n low high : Int) (k : Bool → Option β) : zq64 n low high k = k (decide (low ≤ n) && decide (n ≤ high)) := by
  unfold zq64 zq61
  by_cases h : low ≤ n <;> simp [h]

def diffOk (n : Nat) (d : Diff) : Bool := decide (0 ≤ d.1 ∧ d.1 < n ∧ 0 ≤ d.2.1 ∧ d.2.1 < n ∧ -17179869184 ≤ d.2.2 ∧ d.2.2 ≤ 17179869184)

theorem Valid_f1_eq {n : Nat} (hn : n ≤ 100) (d : Diff) (k : Bool → Int → Option β) : zq6b d (n : Int) k = k (!diffOk n d) (n : Int) := by
  have e1 : IntKind.i64.wrap ((n : Int) - 1) = n - 1 := i64_in _ (by omega)
  unfold zq6b zq68
  simp only [constraint_in_eq, e1]
  unfold diffOk
  by_cases h1 : 0 ≤ d.1 ∧ d.1 ≤ (n : Int) - 1
  · rw [decide_eq_true h1.1, decide_eq_true h1.2]
    simp only [Bool.and_self, Bool.not_true, cond_false]
    by_cases h2 : 0 ≤ d.2.1 ∧ d.2.1 ≤ (n : Int) - 1
    · rw [decide_eq_true h2.1, decide_eq_true h2.2]
      simp only [Bool.and_self, Bool.not_true, cond_false]
      congr 1
      congr 1
      rw [← Bool.decide_and]
      exact decide_eq_decide.2 (by omega)
    · rw [show (decide (0 ≤ d.2.1) && decide (d.2.1 ≤ (n : Int) - 1)) = false by rw [← Bool.decide_and]; exact decide_eq_false h2]
      simp only [Bool.not_false, cond_true]
      congr 1
      rw [decide_eq_false (by omega)]
      rfl
  · rw [show (decide (0 ≤ d.1) && decide (d.1 ≤ (n : Int) - 1)) = false by rw [← Bool.decide_and]; exact decide_eq_false h1]
    simp only [Bool.not_false, cond_true]
    congr 1
    rw [decide_eq_false (by omega)]
    rfl

theorem any_eq {n : Nat} (hn : n ≤ 100) {l : List Diff} (hl : l.length ≤ 100000) (k : Bool → Int → Option β) :
    zqdz l (n : Int) k = k (!l.all (diffOk n)) (n : Int) := by
  unfold zqdz zqdw
  unfold zqcc zqc5
  unfold zqca
  refine (check_loop (fun f j => zqc8 f (fun (t4 : Int) (b0_2 : Int) => k (decide ((0 : Int) ≤ t4)) b0_2) (fun (b0_2 : Int) => k (decide ((0 : Int) ≤ -1)) b0_2) l (l.length : Int) j (n : Int)) (diffOk n) (k true (n : Int)) (k false (n : Int)) ((0 : Int), ((0 : Int), (0 : Int))) l fuel (lt_fuel (by omega))
    (fun f j hj => ?_) (fun f => ?_)).trans ?_
  · have e1 : IntKind.i64.wrap ((j : Int) + 1) = j + 1 := i64_in _ (by omega)
    rw [zqc9]
    unfold zqc2
    refine (c_pos (by omega)).trans ?_
    refine (c_inb (by omega)).trans ?_
    simp only [Int.toNat_natCast, e1]
    refine (Valid_f1_eq hn _ _).trans ?_
    cases h : diffOk n (l.getD j ((0 : Int), ((0 : Int), (0 : Int)))) with
    | true => simp
    | false => simp
  · rw [zqc9]
    unfold zqc2
    refine (c_neg (by omega)).trans ?_
    simp
  · cases l.all (diffOk n) <;> rfl

def validD (n : Nat) (l : List Diff) : Bool := decide (l.length ≤ 4000) && l.all (diffOk n)

theorem Valid_eq {n : Nat} (h1 : 1 ≤ n) (hn : n ≤ 41) {l : List Diff} (k : Bool → Option β) : zqe6 (n : Int) l k = k (validD n l) := by
  unfold zqe6 zqe3
  refine (constraint_in_eq _ _ _ _).trans ?_
  rw [decide_eq_true (show (1 : Int) ≤ n by omega), decide_eq_true (show (n : Int) ≤ 41 by omega)]
  simp only [Bool.and_self, Bool.not_true, cond_false]
  unfold validD
  by_cases hl : l.length ≤ 4000
  · refine (c_neg (by omega)).trans ?_
    refine (any_eq (by omega) (by omega) _).trans ?_
    rw [decide_eq_true hl]
    simp
  · refine (c_pos (by omega)).trans ?_
    rw [decide_eq_false hl]
    rfl
end
end
end Go.Lift

/- constraint.direct in plain Lean. -/
namespace Go.Lift
open Go.RowKit Go.IntWalk
noncomputable section
set_option linter.unusedVariables false
set_option linter.unusedSimpArgs false
set_option maxRecDepth 10000

def bigM (n : Nat) : Mat := List.replicate n (List.replicate n BIG)
/-- One constraint more. -/
def putW (m : Mat) (d : Diff) : Mat := setAt m d.1.toNat d.2.1.toNat (if d.2.2 < at2 m d.1.toNat d.2.1.toNat then d.2.2 else at2 m d.1.toNat d.2.1.toNat)
def directW (n : Nat) (l : List Diff) : Mat := l.foldl putW (bigM n)

theorem bigM_sq (n : Nat) : Sq n (bigM n) := by
  refine ⟨by simp [bigM], fun i hi => ?_⟩
  simp [bigM, List.getD, hi]
theorem Sq.putW {n : Nat} {m : Mat} (h : Sq n m) (d : Diff) : Sq n (putW m d) := h.setAt _ _ _
theorem directW_sq (n : Nat) (l : List Diff) : Sq n (directW n l) := fold_inv (Sq n) _ (fun m d h => h.putW d) _ _ (bigM_sq n)

theorem set_getD_self {α : Type} {l : List α} {i : Nat} {d : α} (h : i < l.length) : l.set i (l.getD i d) = l := by
  apply List.ext_getElem
  · simp
  · intro j h1 h2
    rw [List.getElem_set]
    split
    · subst_vars; simp [List.getD, h]
    · rfl

theorem fill_row {α : Type} (v : α) (n : Nat) (r : List α) (h : r.length = n) : (List.range n).foldl (fun r j => r.set j v) r = List.replicate n v := by
  have key : ∀ (c : Nat), c ≤ n → (List.range c).foldl (fun r j => r.set j v) r = List.replicate c v ++ r.drop c := by
    intro c
    induction c with
    | zero => intro _; simp
    | succ c ih =>
      intro hc
      rw [List.range_succ, List.foldl_append, ih (by omega)]
      simp only [List.foldl_cons, List.foldl_nil]
      rw [List.set_append_right _ _ (by simp)]
      simp only [List.length_replicate, Nat.sub_self]
      rw [List.drop_eq_getElem_cons (by omega), List.set_cons_zero, List.replicate_succ', List.append_assoc]
      rfl
  rw [key n (Nat.le_refl n), List.drop_eq_nil_of_le (by omega), List.append_nil]

theorem fill_mat (v : Int) (i : Nat) : ∀ (l : List Nat) (out : Mat), i < out.length →
    l.foldl (fun m j => setAt m i j v) out = out.set i (l.foldl (fun r j => r.set j v) (out.getD i []))
  | [], out, h => by simp only [List.foldl_nil]; rw [set_getD_self h]
  | j :: l, out, h => by
    simp only [List.foldl_cons]
    rw [fill_mat v i l _ (by simpa [setAt] using h)]
    unfold setAt
    rw [getD_set_eq h, List.set_set]

section
variable {β : Type}
theorem c_make {n : Nat} {c : Nat} {a b : Option β} (hn : n ≤ 10000) (hc : c ≤ 1000) : cond (decide (0 ≤ (n : Int)) && (decide ((n : Int) = (n : Int)) && (decide (Int.toNat (n : Int) * c ≤ roomMax) && decide ((n : Int) ≤ 9223372036854775807)))) a b = a := by
  have h1 : Int.toNat (n : Int) * c ≤ roomMax := by
    rw [Int.toNat_natCast]
    exact Nat.le_trans (Nat.mul_le_mul hn hc) (by decide)
  rw [decide_eq_true (show (0 : Int) ≤ n by omega), decide_eq_true (rfl : (n : Int) = n), decide_eq_true h1, decide_eq_true (show (n : Int) ≤ 9223372036854775807 by omega)]
  rfl

theorem direct_p1 {n : Nat} (hn : n ≤ 100) (k1 : zq40 β) (l : List Diff) {i : Nat} (hi : i < n) (a b : Int) {out : Mat} (h0 : out.length = n) (h1 : (out.getD i []).length = n) :
    zq4q k1 (n : Int) l (i : Int) a b (n : Int) 0 out = k1 (n : Int) l a b (out.set i (List.replicate n BIG)) := by
  have key := fold_loopI (fun _ (m : Mat) => m.length = n ∧ (m.getD i []).length = n) (fun f j m => zq4o f k1 (n : Int) l (i : Int) a b (n : Int) j m) (fun m j => setAt m i j BIG) (fun m => k1 (n : Int) l a b m) 0 (List.range n) out fuel (lt_fuel (by simp; omega)) ⟨h0, h1⟩
    (fun j m hj hm => by
      refine ⟨by simp [setAt, hm.1], ?_⟩
      unfold setAt
      rw [getD_set_eq (by omega), List.length_set]
      exact hm.2)
    (fun f j m hj hm => by
      have hj : j < n := by simpa using hj
      have e1 : IntKind.i64.wrap ((j : Int) + 1) = j + 1 := i64_in _ (by omega)
      have l0 := hm.1
      have l1 := hm.2
      rw [range_getD hj, zq4p]
      unfold zq4c
      simp only [Int.toNat_natCast, e1]
      refine (c_pos (by omega)).trans ?_
      refine (c_inb (by omega)).trans ?_
      refine (c_inb (by omega)).trans ?_
      rfl)
    (fun f m hm => by
      rw [zq4p]
      unfold zq4c
      exact c_neg (by simp))
  unfold zq4q
  refine key.trans ?_
  rw [fill_mat BIG i _ _ (by omega), fill_row BIG n _ h1]

theorem direct_p2 {n : Nat} (hn : n ≤ 100) (k1 : zq44 β) (l : List Diff) :
    zq4u k1 (n : Int) l (n : Int) 0 (List.replicate n []) = k1 l (bigM n) := by
  have key := fold_loopI (fun _ (m : Mat) => m.length = n) (fun f j m => zq4s f k1 (n : Int) l (n : Int) j m) (fun m j => m.set j (List.replicate n BIG)) (fun m => k1 l m) 0 (List.range n) (List.replicate n []) fuel (lt_fuel (by simp; omega)) (by simp)
    (fun j m hj hm => by rw [List.length_set]; exact hm)
    (fun f j m hj hm => by
      have hj : j < n := by simpa using hj
      have e1 : IntKind.i64.wrap ((j : Int) + 1) = j + 1 := i64_in _ (by omega)
      rw [range_getD hj, zq4t]
      unfold zq4f
      refine (c_pos (by omega)).trans ?_
      refine (c_make (by omega) (by omega)).trans ?_
      refine (c_inb (by omega)).trans ?_
      simp only [Int.toNat_natCast]
      refine (c_inb (by rw [List.length_set]; omega)).trans ?_
      rw [getD_set_eq (show j < m.length by omega), List.length_replicate]
      refine (direct_p1 hn _ l hj _ _ (by rw [List.length_set]; exact hm) (by rw [getD_set_eq (show j < m.length by omega), List.length_replicate])).trans ?_
      simp only [e1, List.set_set])
    (fun f m hm => by
      rw [zq4t]
      unfold zq4f
      exact c_neg (by simp))
  unfold zq4u
  refine key.trans ?_
  rw [fill_row (List.replicate n BIG) n _ (by simp)]
  rfl

theorem direct_p3 {n : Nat} (hn : n ≤ 100) (k1 : zq48 β) {l : List Diff} (hl : l.length ≤ 4000) (ho : l.all (diffOk n) = true) {m : Mat} (hm : Sq n m) :
    zq4y k1 l (l.length : Int) 0 m = k1 (l.foldl putW m) := by
  have key := fold_loopI (fun _ (m : Mat) => Sq n m) (fun f j m => zq4w f k1 l (l.length : Int) j m) putW (fun m => k1 m) ((0 : Int), ((0 : Int), (0 : Int))) l m fuel (lt_fuel (by omega)) hm
    (fun j m hj hm => hm.putW _)
    (fun f j m hj hm => by
      have e1 : IntKind.i64.wrap ((j : Int) + 1) = j + 1 := i64_in _ (by omega)
      rw [zq4x]
      unfold zq4i
      refine (c_pos (by omega)).trans ?_
      refine (c_inb (by omega)).trans ?_
      simp only [Int.toNat_natCast, e1]
      have hd : diffOk n (l.getD j ((0 : Int), ((0 : Int), (0 : Int)))) = true := by
        rw [List.all_eq_true] at ho
        refine ho _ ?_
        rw [List.getD, List.getElem?_eq_getElem hj]
        exact List.getElem_mem hj
      have hd := of_decide_eq_true hd
      have l0 := hm.len
      have l1 := hm.row (l.getD j ((0 : Int), ((0 : Int), (0 : Int)))).1.toNat (by omega)
      refine (c_inb (by omega)).trans ?_
      refine (c_inb (by omega)).trans ?_
      refine (c_inb (by omega)).trans ?_
      refine (c_inb (by omega)).trans ?_
      rfl)
    (fun f m hm => by
      rw [zq4x]
      unfold zq4i
      exact c_neg (by omega))
  unfold zq4y
  exact key

theorem direct_eq {n : Nat} (hn : n ≤ 100) {l : List Diff} (hl : l.length ≤ 4000) (ho : l.all (diffOk n) = true) (k : Mat → Option β) : zq50 (n : Int) l k = k (directW n l) := by
  unfold zq50 zq4l
  refine (c_make (by omega) (by omega)).trans ?_
  simp only [Int.toNat_natCast, List.length_replicate]
  refine (direct_p2 hn _ l).trans ?_
  exact direct_p3 hn _ hl ho (bigM_sq n)

/-- What Close returns. -/
def closeW (n : Nat) (l : List Diff) : Option Mat :=
  if validD n l then
    match roundsW n n 0 (diagW n (directW n l)) with
    | some m => if diagOk n m then some m else none
    | none => none
  else none

theorem Close_eq {n : Nat} (h1 : 1 ≤ n) (hn : n ≤ 41) (l : List Diff) (k : Mat → Bool → Option β) : zqg7 (n : Int) l k = (match closeW n l with | some m => k m true | none => k [] false) := by
  unfold zqg7 zqfi
  refine (Valid_eq h1 hn _).trans ?_
  unfold closeW
  by_cases hv : validD n l = true
  · rw [hv]
    have hv' := hv
    unfold validD at hv'
    rw [Bool.and_eq_true] at hv'
    simp only [Bool.not_true, cond_false, if_true]
    refine (direct_eq (by omega) (of_decide_eq_true hv'.1) hv'.2 _).trans ?_
    refine (close_p1 (by omega) _ (directW_sq n l)).trans ?_
    refine (close_p5 (by omega) _ _ (directW_sq n l).diagW).trans ?_
    cases hr : roundsW n n 0 (diagW n (directW n l)) with
    | none => rfl
    | some m =>
      simp only []
      refine (close_p6 (by omega) _ _ (roundsW_sq n 0 _ _ (directW_sq n l).diagW hr)).trans ?_
      cases diagOk n m <;> rfl
  · rw [Bool.eq_false_iff.2 hv]
    rfl
end
end
end Go.Lift

/- The theory of the closure. -/
namespace Go.Lift
open Go.RowKit Go.IntWalk
noncomputable section
set_option linter.unusedVariables false
set_option linter.unusedSimpArgs false
set_option maxRecDepth 10000

theorem wrap_in {x : Int} (h : -9223372036854775808 ≤ x ∧ x ≤ 9223372036854775807) : IntKind.i64.wrap x = x := i64_in _ h

theorem range_fold {σ : Type} (g : σ → Nat → σ) (s : σ) (c : Nat) : (List.range (c + 1)).foldl g s = g ((List.range c).foldl g s) c := by
  rw [List.range_succ, List.foldl_append]; rfl

/-- What a round needs. -/
structure RH (n k : Nat) (m : Mat) : Prop where
  sq : Sq n m
  zero : at2 m k k = 0
  row : ∀ j, j < n → -1125899906842624 ≤ at2 m k j ∧ at2 m k j < 1099511627776
  col : ∀ i, i < n → -1125899906842624 ≤ at2 m i k ∧ at2 m i k < 1099511627776

theorem relax_at {n k i j : Nat} {m : Mat} (hm : Sq n m) (hi : i < n) (hj : j < n) (h1 : -1125899906842624 ≤ at2 m i k ∧ at2 m i k < 1099511627776) (h2 : -1125899906842624 ≤ at2 m k j ∧ at2 m k j < 1099511627776) (a b : Nat) :
    at2 (relaxW k i j m) a b = if a = i ∧ b = j then min (at2 m i j) (at2 m i k + at2 m k j) else at2 m a b := by
  have hB : BIG = 1099511627776 := rfl
  unfold relaxW
  rw [if_neg (by omega), at_setAt hm hi hj, wrap_in (by omega)]
  split
  · split <;> omega
  · rfl

theorem row_at {n k i : Nat} {m : Mat} (h : RH n k m) (hk : k < n) (hi : i < n) : ∀ (c : Nat), c ≤ n → Sq n ((List.range c).foldl (fun m j => relaxW k i j m) m) ∧ ∀ a b, a < n → b < n →
    at2 ((List.range c).foldl (fun m j => relaxW k i j m) m) a b = if a = i ∧ b < c then min (at2 m a b) (at2 m a k + at2 m k b) else at2 m a b := by
  intro c
  induction c with
  | zero =>
    intro _
    refine ⟨h.sq, fun a b _ _ => ?_⟩
    rw [if_neg (by omega)]
    rfl
  | succ c ih =>
    intro hc
    obtain ⟨s1, s2⟩ := ih (by omega)
    rw [range_fold]
    refine ⟨s1.relaxW _ _ _, fun a b ha hb => ?_⟩
    have z := h.zero
    have r := h.row c (by omega)
    have cc := h.col i hi
    have ck := h.col k hk
    have q1 : at2 ((List.range c).foldl (fun m j => relaxW k i j m) m) i k = at2 m i k := by
      rw [s2 i k hi hk]; split <;> omega
    have q2 : at2 ((List.range c).foldl (fun m j => relaxW k i j m) m) k c = at2 m k c := by
      rw [s2 k c hk (by omega), if_neg (by omega)]
    rw [relax_at s1 hi (by omega) (by rw [q1]; exact cc) (by rw [q2]; exact r), q1, q2, s2 i c hi (by omega), s2 a b ha hb]
    rw [if_neg (show ¬ (i = i ∧ c < c) by omega)]
    by_cases e1 : a = i
    · subst e1
      by_cases e2 : b = c
      · subst e2
        rw [if_pos ⟨rfl, rfl⟩, if_pos (by omega)]
      · rw [if_neg (fun h => e2 h.2)]
        by_cases e3 : b < c
        · rw [if_pos (by omega), if_pos (by omega)]
        · rw [if_neg (by omega), if_neg (by omega)]
    · rw [if_neg (fun h => e1 h.1), if_neg (fun h => e1 h.1), if_neg (fun h => e1 h.1)]

theorem rowW_at {n k i : Nat} {m : Mat} (h : RH n k m) (hk : k < n) (hi : i < n) (a b : Nat) (ha : a < n) (hb : b < n) :
    at2 (rowW n k i m) a b = if a = i then min (at2 m a b) (at2 m a k + at2 m k b) else at2 m a b := by
  refine ((row_at h hk hi n (Nat.le_refl n)).2 a b ha hb).trans ?_
  by_cases e : a = i
  · rw [if_pos ⟨e, hb⟩, if_pos e]
  · rw [if_neg (fun h => e h.1), if_neg e]

theorem rounds_at {n k : Nat} {m : Mat} (h : RH n k m) (hk : k < n) : ∀ (c : Nat), c ≤ n → RH n k ((List.range c).foldl (fun m i => rowW n k i m) m) ∧ ∀ a b, a < n → b < n →
    at2 ((List.range c).foldl (fun m i => rowW n k i m) m) a b = if a < c then min (at2 m a b) (at2 m a k + at2 m k b) else at2 m a b := by
  intro c
  induction c with
  | zero =>
    intro _
    refine ⟨h, fun a b _ _ => ?_⟩
    rw [if_neg (by omega)]
    rfl
  | succ c ih =>
    intro hc
    obtain ⟨s1, s2⟩ := ih (by omega)
    rw [range_fold]
    have hh : ∀ a b, a < n → b < n → at2 (rowW n k c ((List.range c).foldl (fun m i => rowW n k i m) m)) a b = if a < c + 1 then min (at2 m a b) (at2 m a k + at2 m k b) else at2 m a b := by
      intro a b ha hb
      rw [rowW_at s1 hk (by omega) a b ha hb]
      have z := h.zero
      have e1 : at2 ((List.range c).foldl (fun m i => rowW n k i m) m) k b = at2 m k b := by rw [s2 k b hk hb]; split <;> omega
      have e2 : at2 ((List.range c).foldl (fun m i => rowW n k i m) m) a k = at2 m a k := by rw [s2 a k ha hk]; split <;> omega
      rw [e1, e2, s2 a b ha hb]
      split <;> split <;> split <;> omega
    refine ⟨⟨s1.sq.rowW _ _, ?_, ?_, ?_⟩, hh⟩
    · rw [hh k k hk hk]
      have z := h.zero
      split <;> omega
    · intro j hj
      rw [hh k j hk hj]
      have z := h.zero
      have := h.row j hj
      split <;> omega
    · intro i hi
      rw [hh i k hi hk]
      have z := h.zero
      have := h.col i hi
      split <;> omega

theorem roundW_at {n k : Nat} {m : Mat} (h : RH n k m) (hk : k < n) (a b : Nat) (ha : a < n) (hb : b < n) :
    at2 (roundW n k m) a b = min (at2 m a b) (at2 m a k + at2 m k b) := by
  refine ((rounds_at h hk n (Nat.le_refl n)).2 a b ha hb).trans ?_
  rw [if_pos ha]

/- Entries never grow, whatever they are. -/
def Le (n : Nat) (m' m : Mat) : Prop := ∀ a b, a < n → b < n → at2 m' a b ≤ at2 m a b
theorem Le.refl {n : Nat} (m : Mat) : Le n m m := fun _ _ _ _ => Int.le_refl _
theorem Le.trans {n : Nat} {a b c : Mat} (h : Le n a b) (g : Le n b c) : Le n a c := fun i j hi hj => Int.le_trans (h i j hi hj) (g i j hi hj)

theorem relax_le {n k i j : Nat} {m : Mat} (hm : Sq n m) (hi : i < n) (hj : j < n) : Le n (relaxW k i j m) m := by
  intro a b ha hb
  unfold relaxW
  split
  · exact Int.le_refl _
  · rw [at_setAt hm hi hj]
    split
    · rename_i e
      rw [e.1, e.2]
      split <;> omega
    · exact Int.le_refl _

theorem fold_le {n : Nat} (g : Mat → Nat → Mat) (h1 : ∀ m j, Sq n m → Sq n (g m j)) (h2 : ∀ m j, Sq n m → j < n → Le n (g m j) m) : ∀ (l : List Nat) (m : Mat), Sq n m → (∀ x ∈ l, x < n) → Le n (l.foldl g m) m
  | [], m, _, _ => Le.refl m
  | x :: l, m, hm, hl => (fold_le g h1 h2 l (g m x) (h1 m x hm) (fun y hy => hl y (List.mem_cons_of_mem _ hy))).trans (h2 m x hm (hl x (List.mem_cons_self ..)))

theorem row_le {n k i : Nat} {m : Mat} (hm : Sq n m) (hi : i < n) : Le n (rowW n k i m) m :=
  fold_le _ (fun m j h => h.relaxW k i j) (fun m j h hj => relax_le h hi hj) _ m hm (fun x hx => by simpa using hx)
theorem round_le {n k : Nat} {m : Mat} (hm : Sq n m) : Le n (roundW n k m) m :=
  fold_le _ (fun m j h => h.rowW k j) (fun m j h hj => row_le h hj) _ m hm (fun x hx => by simpa using hx)
theorem rounds_le {n : Nat} : ∀ (c k : Nat) (m m' : Mat), Sq n m → roundsW n c k m = some m' → Le n m' m
  | 0, k, m, m', h, e => by cases e; exact Le.refl m
  | c + 1, k, m, m', h, e => by
    unfold roundsW at e
    split at e
    · cases e
    · exact (rounds_le c (k + 1) _ m' (h.roundW k) e).trans (round_le h)
end
end Go.Lift

/- The theory of the closure, 2: the rounds. -/
namespace Go.Lift
open Go.RowKit Go.IntWalk
noncomputable section
set_option linter.unusedVariables false
set_option linter.unusedSimpArgs false
set_option maxRecDepth 10000

/-- The matrix at the beginning. -/
structure Inv0 (n : Nat) (m : Mat) : Prop where
  sq : Sq n m
  lo : ∀ i j, i < n → j < n → -17179869184 ≤ at2 m i j
  row : ∀ j, j < n → at2 m 0 j ≤ 17179869184
  neg : ∀ i, i < n → at2 m i 0 ≤ 0
  diag : ∀ i, i < n → at2 m i i ≤ 0

/-- The matrix behind k rounds. -/
structure Inv (n k : Nat) (W m : Mat) : Prop where
  sq : Sq n m
  hi : ∀ i j, i < n → j < n → at2 m i j ≤ 34359738368
  diag : ∀ i, i < n → at2 m i i ≤ 0
  le : Le n m W
  tri : ∀ a, a < k → a < n → ∀ i j, i < n → j < n → at2 m i j ≤ at2 m i a + at2 m a j
  dl : ∀ i j, i < n → j < n → at2 m i j = at2 W i j ∨ ∃ b, b < k ∧ b < n ∧ at2 m i b + at2 W b j ≤ at2 m i j
  dr : ∀ i j, i < n → j < n → at2 m i j = at2 W i j ∨ ∃ b, b < k ∧ b < n ∧ at2 W i b + at2 m b j ≤ at2 m i j

/-- Numbers whose differences are within a matrix. -/
def SolM (n : Nat) (m : Mat) (x : Nat → Int) : Prop := ∀ i j, i < n → j < n → x j - x i ≤ at2 m i j

theorem Inv0.rh {n : Nat} {m : Mat} (h : Inv0 n m) (hn : 0 < n) (z : at2 m 0 0 = 0) : RH n 0 m :=
  ⟨h.sq, z, fun j hj => by have := h.lo 0 j hn hj; have := h.row j hj; omega, fun i hi => by have := h.lo i 0 hi hn; have := h.neg i hi; omega⟩

theorem Inv0.step {n : Nat} {m : Mat} (h : Inv0 n m) (hn : 0 < n) (z : at2 m 0 0 = 0) : Inv n 1 m (roundW n 0 m) := by
  have e := roundW_at (h.rh hn z) hn
  refine ⟨h.sq.roundW _, fun i j hi hj => ?_, fun i hi => ?_, fun i j hi hj => ?_, fun a ha ha' i j hi hj => ?_, fun i j hi hj => ?_, fun i j hi hj => ?_⟩
  · rw [e i j hi hj]
    have := h.neg i hi; have := h.row j hj
    omega
  · rw [e i i hi hi]
    have := h.diag i hi
    omega
  · rw [e i j hi hj]
    omega
  · obtain rfl : a = 0 := by omega
    rw [e i j hi hj, e i 0 hi hn, e 0 j hn hj]
    omega
  · by_cases hc : at2 m i j ≤ at2 m i 0 + at2 m 0 j
    · left; rw [e i j hi hj]; omega
    · right
      refine ⟨0, by omega, hn, ?_⟩
      rw [e i j hi hj, e i 0 hi hn]
      omega
  · by_cases hc : at2 m i j ≤ at2 m i 0 + at2 m 0 j
    · left; rw [e i j hi hj]; omega
    · right
      refine ⟨0, by omega, hn, ?_⟩
      rw [e i j hi hj, e 0 j hn hj]
      omega

/-- No entry is far below 0, if the diagonal is not. -/
theorem Inv.lo {n k : Nat} {W m : Mat} (h : Inv n k W m) (hk : 1 ≤ k) (w : Inv0 n W) (hn : 0 < n) (z : ∀ i, i < n → 0 ≤ at2 m i i) {i j : Nat} (hi : i < n) (hj : j < n) : -51539607552 ≤ at2 m i j := by
  have row0 : ∀ j, j < n → 0 ≤ at2 m 0 j ∧ at2 m 0 j ≤ 17179869184 := fun j hj => by
    have h1 := h.tri 0 (by omega) hn j j hj hj
    have := z j hj
    have := h.le j 0 hj hn
    have := w.neg j hj
    have := h.le 0 j hn hj
    have := w.row j hj
    omega
  have done : ∀ c b, c < k → c < n → b < n → -17179869184 ≤ at2 m c b := fun c b hc hcn hb => by
    have h1 := h.tri c hc hcn 0 b hn hb
    have := row0 b hb
    have := row0 c hcn
    omega
  have half : ∀ i b, i < n → b < n → -34359738368 ≤ at2 m i b := fun i b hi hb => by
    rcases h.dr i b hi hb with h1 | ⟨c, hc, hcn, h1⟩
    · have := w.lo i b hi hb
      omega
    · have := w.lo i c hi hcn
      have := done c b hc hcn hb
      omega
  have := half i j hi hj
  omega

theorem Inv.rh {n k : Nat} {W m : Mat} (h : Inv n k W m) (hk1 : 1 ≤ k) (hk : k < n) (w : Inv0 n W) (z : ∀ i, i < n → 0 ≤ at2 m i i) : RH n k m :=
  ⟨h.sq, by have := z k hk; have := h.diag k hk; omega,
    fun j hj => by have := h.lo hk1 w (by omega) z hk hj; have := h.hi k j hk hj; omega, fun i hi => by have := h.lo hk1 w (by omega) z hi hk; have := h.hi i k hi hk; omega⟩

theorem Inv.step {n k : Nat} {W m : Mat} (h : Inv n k W m) (hk : k < n) (r : RH n k m) : Inv n (k + 1) W (roundW n k m) := by
  have e := roundW_at r hk
  have z := r.zero
  refine ⟨h.sq.roundW _, fun i j hi hj => ?_, fun i hi => ?_, fun i j hi hj => ?_, fun a ha ha' i j hi hj => ?_, fun i j hi hj => ?_, fun i j hi hj => ?_⟩
  · rw [e i j hi hj]
    have := h.hi i j hi hj
    omega
  · rw [e i i hi hi]
    have := h.diag i hi
    omega
  · rw [e i j hi hj]
    have := h.le i j hi hj
    omega
  · rw [e i j hi hj, e i a hi ha', e a j ha' hj]
    by_cases q : a = k
    · subst q
      omega
    · have t := h.tri a (by omega) ha'
      have t1 := t i j hi hj
      have t2 := t k j hk hj
      have t3 := t i k hi hk
      have t4 := t k k hk hk
      omega
  · by_cases hc : at2 m i j ≤ at2 m i k + at2 m k j
    · rcases h.dl i j hi hj with h1 | ⟨b, hb, hbn, h1⟩
      · left; rw [e i j hi hj]; omega
      · right
        refine ⟨b, by omega, hbn, ?_⟩
        rw [e i j hi hj, e i b hi hbn]
        omega
    · right
      rcases h.dl k j hk hj with h1 | ⟨b, hb, hbn, h1⟩
      · refine ⟨k, by omega, hk, ?_⟩
        rw [e i j hi hj, e i k hi hk]
        omega
      · refine ⟨b, by omega, hbn, ?_⟩
        rw [e i j hi hj, e i b hi hbn]
        omega
  · by_cases hc : at2 m i j ≤ at2 m i k + at2 m k j
    · rcases h.dr i j hi hj with h1 | ⟨b, hb, hbn, h1⟩
      · left; rw [e i j hi hj]; omega
      · right
        refine ⟨b, by omega, hbn, ?_⟩
        rw [e i j hi hj, e b j hbn hj]
        omega
    · right
      rcases h.dr i k hi hk with h1 | ⟨b, hb, hbn, h1⟩
      · refine ⟨k, by omega, hk, ?_⟩
        rw [e i j hi hj, e k j hk hj]
        omega
      · refine ⟨b, by omega, hbn, ?_⟩
        rw [e i j hi hj, e b j hbn hj]
        omega

theorem SolM.step {n k : Nat} {m : Mat} {x : Nat → Int} (s : SolM n m x) (h : RH n k m) (hk : k < n) : SolM n (roundW n k m) x := by
  intro i j hi hj
  rw [roundW_at h hk i j hi hj]
  have := s i j hi hj; have := s i k hi hk; have := s k j hk hj
  omega

theorem rounds_final {n : Nat} {W : Mat} (w : Inv0 n W) : ∀ (c k : Nat) (m m' : Mat), k + c = n → 1 ≤ k → Inv n k W m → roundsW n c k m = some m' → (∀ i, i < n → 0 ≤ at2 m' i i) → Inv n n W m' ∧ ∀ x, SolM n m x → SolM n m' x
  | 0, k, m, m', h, _, hi, e, _ => by
    cases e
    obtain rfl : k = n := by omega
    exact ⟨hi, fun x s => s⟩
  | c + 1, k, m, m', h, h1, hi, e, z => by
    have hk : k < n := by omega
    have zz : ∀ i, i < n → 0 ≤ at2 m i i := fun i hi' => by
      have := rounds_le (c + 1) k m m' hi.sq e i i hi' hi'
      have := z i hi'
      omega
    have r := hi.rh h1 hk w zz
    unfold roundsW at e
    split at e
    · cases e
    · have := rounds_final w c (k + 1) _ m' (by omega) (by omega) (hi.step hk r) e z
      exact ⟨this.1, fun x s => this.2 x (s.step r hk)⟩

theorem SolM.diag {n : Nat} {m : Mat} {x : Nat → Int} (s : SolM n m x) {i : Nat} (hi : i < n) : 0 ≤ at2 m i i := by
  have := s i i hi hi
  omega

theorem rounds_exist {n : Nat} {W : Mat} (w : Inv0 n W) {x : Nat → Int} : ∀ (c k : Nat) (m : Mat), k + c = n → 1 ≤ k → Inv n k W m → SolM n m x → ∃ m', roundsW n c k m = some m' ∧ SolM n m' x
  | 0, k, m, h, _, hi, s => ⟨m, rfl, s⟩
  | c + 1, k, m, h, h1, hi, s => by
    have hk : k < n := by omega
    have r := hi.rh h1 hk w (fun i hi => s.diag hi)
    have s' := s.step r hk
    unfold roundsW
    rw [if_neg (by have := s'.diag hk; omega)]
    exact rounds_exist w c (k + 1) _ (by omega) (by omega) (hi.step hk r) s'

/-- All that is known of a closed matrix. -/
structure ClosedM (n : Nat) (W m : Mat) : Prop where
  inv : Inv n n W m
  start : Inv0 n W
  zero : ∀ i, i < n → at2 m i i = 0
  le : Le n m W
  sol : ∀ x, SolM n W x → SolM n m x

theorem closed_final {n : Nat} (h1 : 1 ≤ n) {W m : Mat} (h : Inv0 n W) (e : roundsW n n 0 W = some m) (z : ∀ i, i < n → 0 ≤ at2 m i i) : ClosedM n W m := by
  have le := rounds_le n 0 W m h.sq e
  have zz : at2 W 0 0 = 0 := by
    have := le 0 0 h1 h1
    have := z 0 h1
    have := h.diag 0 h1
    omega
  obtain ⟨c, rfl⟩ : ∃ c, n = c + 1 := ⟨n - 1, by omega⟩
  unfold roundsW at e
  split at e
  · cases e
  · have := rounds_final h c 1 _ m (by omega) (by omega) (h.step h1 zz) e z
    refine ⟨this.1, h, fun i hi => ?_, le, fun x s => this.2 x (s.step (h.rh h1 zz) h1)⟩
    have := this.1.diag i hi
    have := z i hi
    omega

theorem closed_exist {n : Nat} (h1 : 1 ≤ n) {W : Mat} (h : Inv0 n W) {x : Nat → Int} (s : SolM n W x) : ∃ m, roundsW n n 0 W = some m ∧ ClosedM n W m := by
  have zz : at2 W 0 0 = 0 := by
    have := s.diag h1
    have := h.diag 0 h1
    omega
  have s' := s.step (h.rh h1 zz) h1
  obtain ⟨c, rfl⟩ : ∃ c, n = c + 1 := ⟨n - 1, by omega⟩
  obtain ⟨m', e, s''⟩ := rounds_exist h c 1 _ (by omega) (by omega) (h.step h1 zz) s'
  have e' : roundsW (c + 1) (c + 1) 0 W = some m' := by
    unfold roundsW
    rw [if_neg (by have := s'.diag h1; omega)]
    exact e
  exact ⟨m', e', closed_final h1 h e' (fun i hi => s''.diag hi)⟩

theorem ClosedM.tri {n : Nat} {W m : Mat} (h : ClosedM n W m) {i a j : Nat} (hi : i < n) (ha : a < n) (hj : j < n) : at2 m i j ≤ at2 m i a + at2 m a j := h.inv.tri a ha ha i j hi hj
theorem ClosedM.lo {n : Nat} {W m : Mat} (h : ClosedM n W m) (h1 : 1 ≤ n) {i j : Nat} (hi : i < n) (hj : j < n) : -51539607552 ≤ at2 m i j :=
  h.inv.lo h1 h.start h1 (fun i hi => by have := h.zero i hi; omega) hi hj

/-- Each row is a solution. -/
theorem ClosedM.row {n : Nat} {W m : Mat} (h : ClosedM n W m) {r : Nat} (hr : r < n) : SolM n W (fun j => at2 m r j) := by
  intro i j hi hj
  have := h.tri hr hi hj
  have := h.le i j hi hj
  show at2 m r j - at2 m r i ≤ at2 W i j
  omega
end
end Go.Lift

/- The theory of the closure, 3: constraints. -/
namespace Go.Lift
open Go.RowKit Go.IntWalk
noncomputable section
set_option linter.unusedVariables false
set_option linter.unusedSimpArgs false
set_option maxRecDepth 10000

/-- Numbers that fulfil all constraints. -/
def Sol (l : List Diff) (x : Nat → Int) : Prop := ∀ d ∈ l, x d.2.1.toNat - x d.1.toNat ≤ d.2.2

theorem put_at {n : Nat} {m : Mat} (h : Sq n m) {d : Diff} (hd : diffOk n d = true) (a b : Nat) :
    at2 (putW m d) a b = if a = d.1.toNat ∧ b = d.2.1.toNat then min (at2 m a b) d.2.2 else at2 m a b := by
  have hd := of_decide_eq_true hd
  unfold putW
  rw [at_setAt h (by omega) (by omega)]
  split
  · rename_i e
    rw [e.1, e.2]
    split <;> omega
  · rfl

theorem big_at {n : Nat} {i j : Nat} (hi : i < n) (hj : j < n) : at2 (bigM n) i j = 1099511627776 := by
  unfold at2 bigM
  simp [List.getD, hi, hj]

/-- The direct bounds: what is under all of them. -/
theorem direct_glb {n : Nat} : ∀ (l : List Diff), l.all (diffOk n) = true → ∀ (m : Mat), Sq n m → ∀ i j (v : Int), v ≤ at2 (l.foldl putW m) i j ↔ v ≤ at2 m i j ∧ ∀ d ∈ l, d.1.toNat = i → d.2.1.toNat = j → v ≤ d.2.2
  | [], _, m, hm, i, j, v => by simp
  | d :: l, ho, m, hm, i, j, v => by
    rw [List.all_cons, Bool.and_eq_true] at ho
    simp only [List.foldl_cons]
    rw [direct_glb l ho.2 _ (hm.putW d) i j v, put_at hm ho.1]
    simp only [List.mem_cons, forall_eq_or_imp]
    by_cases e : i = d.1.toNat ∧ j = d.2.1.toNat
    · rw [if_pos e]
      constructor
      · intro h
        refine ⟨by omega, fun _ _ => by omega, h.2⟩
      · intro h
        have := h.2.1 e.1.symm e.2.symm
        exact ⟨by omega, h.2.2⟩
    · rw [if_neg e]
      constructor
      · intro h
        exact ⟨h.1, fun a b => absurd ⟨a.symm, b.symm⟩ e, h.2⟩
      · intro h
        exact ⟨h.1, h.2.2⟩

theorem diag_at {n : Nat} {m : Mat} (hm : Sq n m) {i j : Nat} (hi : i < n) (hj : j < n) : at2 (diagW n m) i j = if i = j then min (at2 m i j) 0 else at2 m i j := by
  have key : ∀ c, c ≤ n → Sq n ((List.range c).foldl (fun m i => setAt m i i (if 0 < at2 m i i then 0 else at2 m i i)) m) ∧ ∀ a b, a < n → b < n →
      at2 ((List.range c).foldl (fun m i => setAt m i i (if 0 < at2 m i i then 0 else at2 m i i)) m) a b = if a = b ∧ a < c then min (at2 m a b) 0 else at2 m a b := by
    intro c
    induction c with
    | zero =>
      intro _
      refine ⟨hm, fun a b _ _ => ?_⟩
      rw [if_neg (by omega)]
      rfl
    | succ c ih =>
      intro hc
      obtain ⟨s1, s2⟩ := ih (by omega)
      rw [range_fold]
      refine ⟨s1.setAt _ _ _, fun a b ha hb => ?_⟩
      rw [at_setAt s1 (by omega) (by omega), s2 c c (by omega) (by omega), s2 a b ha hb, if_neg (show ¬ (c = c ∧ c < c) by omega)]
      by_cases e : a = c ∧ b = c
      · rw [if_pos e, if_pos (show a = b ∧ a < c + 1 by omega), e.1, e.2]
        split <;> omega
      · rw [if_neg e]
        by_cases e2 : a = b ∧ a < c
        · rw [if_pos e2, if_pos (show a = b ∧ a < c + 1 by omega)]
        · rw [if_neg e2, if_neg (show ¬ (a = b ∧ a < c + 1) by omega)]
  refine ((key n (Nat.le_refl n)).2 i j hi hj).trans ?_
  by_cases e : i = j
  · rw [if_pos ⟨e, hi⟩, if_pos e]
  · rw [if_neg (fun h => e h.1), if_neg e]

/-- The matrix at the beginning. -/
def startW (n : Nat) (l : List Diff) : Mat := diagW n (directW n l)

theorem start_glb {n : Nat} {l : List Diff} (ho : l.all (diffOk n) = true) {i j : Nat} (hi : i < n) (hj : j < n) (v : Int) :
    v ≤ at2 (startW n l) i j ↔ v ≤ 1099511627776 ∧ (∀ d ∈ l, d.1.toNat = i → d.2.1.toNat = j → v ≤ d.2.2) ∧ (i = j → v ≤ 0) := by
  unfold startW
  rw [diag_at (directW_sq n l) hi hj]
  have g := direct_glb l ho (bigM n) (bigM_sq n) i j v
  rw [big_at hi hj] at g
  by_cases e : i = j
  · rw [if_pos e]
    constructor
    · intro h
      have := g.1 (by unfold directW at h; omega)
      exact ⟨this.1, this.2, fun _ => by omega⟩
    · intro h
      have := g.2 ⟨h.1, h.2.1⟩
      have := h.2.2 e
      unfold directW
      omega
  · rw [if_neg e]
    constructor
    · intro h
      have := g.1 h
      exact ⟨this.1, this.2, fun h => absurd h e⟩
    · intro h
      exact g.2 ⟨h.1, h.2.1⟩

theorem start_le {n : Nat} {l : List Diff} (ho : l.all (diffOk n) = true) {d : Diff} (hd : d ∈ l) : at2 (startW n l) d.1.toNat d.2.1.toNat ≤ d.2.2 := by
  have h := of_decide_eq_true (List.all_eq_true.1 ho d hd)
  exact ((start_glb ho (by omega) (by omega) _).1 (Int.le_refl _)).2.1 d hd rfl rfl

/-- Every variable has both bounds against the variable 0. -/
structure Conn (n : Nat) (l : List Diff) : Prop where
  pos : 1 ≤ n
  small : n ≤ 41
  valid : validD n l = true
  up : ∀ i, 1 ≤ i → i < n → ∃ d ∈ l, d.1.toNat = 0 ∧ d.2.1.toNat = i
  down : ∀ i, 1 ≤ i → i < n → ∃ d ∈ l, d.1.toNat = i ∧ d.2.1.toNat = 0 ∧ d.2.2 ≤ 0

theorem Conn.all {n : Nat} {l : List Diff} (h : Conn n l) : l.all (diffOk n) = true := by
  have := h.valid
  unfold validD at this
  rw [Bool.and_eq_true] at this
  exact this.2

theorem Conn.inv {n : Nat} {l : List Diff} (h : Conn n l) : Inv0 n (startW n l) := by
  have ho := h.all
  refine ⟨(directW_sq n l).diagW, fun i j hi hj => ?_, fun j hj => ?_, fun i hi => ?_, fun i hi => ?_⟩
  · rw [start_glb ho hi hj]
    refine ⟨by omega, fun d hd _ _ => ?_, by omega⟩
    have := of_decide_eq_true (List.all_eq_true.1 ho d hd)
    omega
  · by_cases e : j = 0
    · subst e
      have := ((start_glb ho h.pos h.pos _).1 (Int.le_refl _)).2.2 rfl
      omega
    · obtain ⟨d, hd, e1, e2⟩ := h.up j (by omega) hj
      have := start_le ho hd
      have := of_decide_eq_true (List.all_eq_true.1 ho d hd)
      rw [e1, e2] at *
      omega
  · by_cases e : i = 0
    · subst e
      have := ((start_glb ho h.pos h.pos _).1 (Int.le_refl _)).2.2 rfl
      omega
    · obtain ⟨d, hd, e1, e2, e3⟩ := h.down i (by omega) hi
      have h1 := start_le ho hd
      rw [e1, e2] at h1
      omega
  · exact ((start_glb ho hi hi _).1 (Int.le_refl _)).2.2 rfl

/-- Solutions of the constraints, as far as numbers below BIG go. -/
theorem sol_iff {n : Nat} {l : List Diff} (ho : l.all (diffOk n) = true) (x : Nat → Int) (hx : ∀ i j, i < n → j < n → x j - x i ≤ 1099511627776) : SolM n (startW n l) x ↔ Sol l x := by
  constructor
  · intro h d hd
    have hh := of_decide_eq_true (List.all_eq_true.1 ho d hd)
    have := h d.1.toNat d.2.1.toNat (by omega) (by omega)
    have := start_le ho hd
    omega
  · intro h i j hi hj
    rw [start_glb ho hi hj]
    refine ⟨hx i j hi hj, fun d hd e1 e2 => ?_, fun e => by subst e; omega⟩
    have := h d hd
    rw [e1, e2] at this
    exact this

/-- All that is known of what Close returns. -/
structure CloseOk (n : Nat) (l : List Diff) (m : Mat) : Prop where
  sq : Sq n m
  lo : ∀ i j, i < n → j < n → -4398046511104 ≤ at2 m i j
  hi : ∀ i j, i < n → j < n → at2 m i j ≤ 34359738368
  zero : ∀ i, i < n → at2 m i i = 0
  tri : ∀ i a j, i < n → a < n → j < n → at2 m i j ≤ at2 m i a + at2 m a j
  /-- no solution goes beyond -/
  sol : ∀ x, Sol l x → ∀ i j, i < n → j < n → x j - x i ≤ at2 m i j
  /-- each row is a solution -/
  row : ∀ r, r < n → Sol l (fun j => at2 m r j)

/-- A solution is bounded. -/
theorem Conn.bounded {n : Nat} {l : List Diff} (h : Conn n l) {x : Nat → Int} (s : Sol l x) : ∀ i j, i < n → j < n → x j - x i ≤ 1099511627776 := by
  have ho := h.all
  intro i j hi hj
  have a : x j - x 0 ≤ 17179869184 := by
    by_cases e : j = 0
    · subst e; omega
    · obtain ⟨d, hd, e1, e2⟩ := h.up j (by omega) hj
      have := s d hd
      have := of_decide_eq_true (List.all_eq_true.1 ho d hd)
      rw [e1, e2] at *
      omega
  have b : x 0 - x i ≤ 17179869184 := by
    by_cases e : i = 0
    · subst e; omega
    · obtain ⟨d, hd, e1, e2, e3⟩ := h.down i (by omega) hi
      have := s d hd
      rw [e1, e2] at this
      omega
  omega

theorem ClosedM.ok {n : Nat} {l : List Diff} (h : Conn n l) {m : Mat} (c : ClosedM n (startW n l) m) : CloseOk n l m := by
  have ho := h.all
  have hs := h.small
  refine ⟨c.inv.sq, fun i j hi hj => ?_, c.inv.hi, c.zero, fun i a j hi ha hj => c.tri hi ha hj, fun x s i j hi hj => ?_, fun r hr => ?_⟩
  · have := c.lo h.pos hi hj
    omega
  · exact c.sol x ((sol_iff ho x (h.bounded s)).2 s) i j hi hj
  · intro d hd
    have hh := of_decide_eq_true (List.all_eq_true.1 ho d hd)
    have := c.row hr d.1.toNat d.2.1.toNat (by omega) (by omega)
    have := start_le ho hd
    omega

theorem diagOk_iff {n : Nat} {m : Mat} : diagOk n m = true ↔ ∀ i, i < n → 0 ≤ at2 m i i := by
  unfold diagOk
  rw [List.all_eq_true]
  constructor
  · intro h i hi
    have := of_decide_eq_true (h i (by simpa using hi))
    omega
  · intro h i hi
    have := h i (by simpa using hi)
    exact decide_eq_true (by omega)

/-- If Close returns a matrix, all is known of it. -/
theorem close_ok {n : Nat} {l : List Diff} (h : Conn n l) {m : Mat} (e : closeW n l = some m) : CloseOk n l m := by
  unfold closeW at e
  rw [if_pos h.valid] at e
  cases hr : roundsW n n 0 (diagW n (directW n l)) with
  | none => rw [hr] at e; cases e
  | some m' =>
    rw [hr] at e
    simp only [] at e
    by_cases hd : diagOk n m' = true
    · rw [if_pos hd] at e
      cases e
      exact (closed_final h.pos h.inv hr (diagOk_iff.1 hd)).ok h
    · rw [if_neg hd] at e; cases e

/-- If there is a solution, Close returns a matrix. -/
theorem close_some {n : Nat} {l : List Diff} (h : Conn n l) {x : Nat → Int} (s : Sol l x) : ∃ m, closeW n l = some m ∧ CloseOk n l m := by
  obtain ⟨m, hr, c⟩ := closed_exist h.pos h.inv ((sol_iff h.all x (h.bounded s)).2 s)
  refine ⟨m, ?_, c.ok h⟩
  unfold closeW
  rw [if_pos h.valid]
  have hr' : roundsW n n 0 (diagW n (directW n l)) = some m := hr
  rw [hr']
  simp only []
  rw [if_pos (diagOk_iff.2 (fun i hi => by have := c.zero i hi; omega))]
end
end Go.Lift

/- The constraints of a record, and what their solutions are. -/
namespace Go.Lift
open Go.RowKit Go.IntWalk
noncomputable section
set_option linter.unusedVariables false
set_option linter.unusedSimpArgs false
set_option maxRecDepth 10000

theorem foldl_flat {α γ : Type} (f : α → List γ) : ∀ (l : List α) (s : List γ), l.foldl (fun s x => s ++ f x) s = s ++ l.flatMap f
  | [], s => by simp
  | x :: l, s => by
    simp only [List.foldl_cons, List.flatMap_cons]
    rw [foldl_flat f l, List.append_assoc]

/-- A loop with a test at each element: out, or on. -/
theorem fold_check {β α σ : Type} (I : Nat → σ → Prop) (F : Nat → Int → σ → Option β) (p : α → Bool) (g : σ → α → σ) (E : Option β) (K : σ → Option β) (d : α) (xs : List α) (s : σ) (n : Nat) (hn : xs.length < n) (h0 : I 0 s)
    (hI : ∀ (i : Nat) s, i < xs.length → I i s → p (xs.getD i d) = true → I (i + 1) (g s (xs.getD i d)))
    (h1 : ∀ (m i : Nat) s, i < xs.length → I i s → F (m + 1) (i : Int) s = cond (p (xs.getD i d)) (F m ((i : Int) + 1) (g s (xs.getD i d))) E)
    (h2 : ∀ (m : Nat) s, I xs.length s → F (m + 1) (xs.length : Int) s = K s) : F n 0 s = cond (xs.all p) (K (xs.foldl g s)) E := by
  have key : ∀ (r : List α) (j fuel : Nat) (s : σ), xs.drop j = r → j + r.length = xs.length → r.length < fuel → I j s → F fuel (j : Int) s = cond (r.all p) (K (r.foldl g s)) E := by
    intro r
    induction r with
    | nil =>
      intro j fuel s hd hj hf hs
      obtain ⟨m, rfl⟩ : ∃ m, fuel = m + 1 := ⟨fuel - 1, by omega⟩
      simp only [List.length_nil, Nat.add_zero] at hj
      subst hj
      exact h2 m s hs
    | cons x r ih =>
      intro j fuel s hd hj hf hs
      obtain ⟨m, rfl⟩ : ∃ m, fuel = m + 1 := ⟨fuel - 1, by omega⟩
      simp only [List.length_cons] at hj hf
      have h3 : j < xs.length := by omega
      have hx : xs.getD j d = x := by
        rw [List.drop_eq_getElem_cons h3] at hd
        injection hd with hd1 hd2
        simp [List.getD, h3, hd1]
      have hr : xs.drop (j + 1) = r := by
        rw [List.drop_eq_getElem_cons h3] at hd
        injection hd with hd1 hd2
      rw [h1 m j s h3 hs, hx]
      have := hI j s h3 hs
      rw [hx] at this
      simp only [List.all_cons, List.foldl_cons]
      cases hp : p x with
      | true => simpa using ih (j + 1) m (g s x) hr (by omega) (by omega) (this hp)
      | false => rfl
  exact key xs 0 n s rfl (by simp) hn h0

/-- The same over the numbers below n. -/
theorem range_check {β σ : Type} (n : Nat) (I : Nat → σ → Prop) (F : Nat → Int → σ → Option β) (p : Nat → Bool) (g : σ → Nat → σ) (E : Option β) (K : σ → Option β) (s : σ) (N : Nat) (hn : n < N) (h0 : I 0 s)
    (hI : ∀ (i : Nat) s, i < n → I i s → p i = true → I (i + 1) (g s i))
    (h1 : ∀ (m i : Nat) s, i < n → I i s → F (m + 1) (i : Int) s = cond (p i) (F m ((i : Int) + 1) (g s i)) E)
    (h2 : ∀ (m : Nat) s, I n s → F (m + 1) (n : Int) s = K s) : F N 0 s = cond ((List.range n).all p) (K ((List.range n).foldl g s)) E := by
  have hl : (List.range n).length = n := List.length_range
  refine fold_check I F p g E K 0 (List.range n) s N (by omega) h0 (fun i s hi hs => ?_) (fun m i s hi hs => ?_) (fun m s hs => ?_)
  · rw [range_getD (by omega)]
    exact hI i s (by omega) hs
  · rw [range_getD (by omega)]
    exact h1 m i s (by omega) hs
  · rw [hl] at hs ⊢
    exact h2 m s hs

theorem range_fold' {β σ : Type} (n : Nat) (I : Nat → σ → Prop) (F : Nat → Int → σ → Option β) (g : σ → Nat → σ) (K : σ → Option β) (s : σ) (N : Nat) (hn : n < N) (h0 : I 0 s)
    (hI : ∀ (i : Nat) s, i < n → I i s → I (i + 1) (g s i))
    (h1 : ∀ (m i : Nat) s, i < n → I i s → F (m + 1) (i : Int) s = F m ((i : Int) + 1) (g s i))
    (h2 : ∀ (m : Nat) s, I n s → F (m + 1) (n : Int) s = K s) : F N 0 s = K ((List.range n).foldl g s) := by
  have h := range_check n I F (fun _ => true) g none K s N hn h0 (fun i s hi hs _ => hI i s hi hs) h1 h2
  rw [h]
  have : (List.range n).all (fun _ => true) = true := by simp
  rw [this]
  rfl

def evAt (r : Rec) (i : Nat) : Event := r.2.2.1.getD i (0, 0, [])
def whenAt (r : Rec) (i : Nat) : (Int × Int) × Bool := when? r (evAt r i).1 (evAt r i).2.1
def driftAt (r : Rec) (h : Int) : Int := (r.1.getD h.toNat ([], 0)).2
def evD (r : Rec) (i : Nat) : List Diff := [(0, ((i : Int) + 1, (whenAt r i).1.2)), ((i : Int) + 1, (0, -(whenAt r i).1.1))]
def pairD (r : Rec) (i j : Nat) : List Diff :=
  if (evAt r j).2.1 < (evAt r i).2.1 then
    [((j : Int) + 1, ((i : Int) + 1, (elapsed (driftAt r (evAt r j).1) ((evAt r i).2.1 - (evAt r j).2.1)).2)), ((i : Int) + 1, ((j : Int) + 1, -(elapsed (driftAt r (evAt r j).1) ((evAt r i).2.1 - (evAt r j).2.1)).1))]
  else
    [((i : Int) + 1, ((j : Int) + 1, (elapsed (driftAt r (evAt r i).1) ((evAt r j).2.1 - (evAt r i).2.1)).2)), ((j : Int) + 1, ((i : Int) + 1, -(elapsed (driftAt r (evAt r i).1) ((evAt r j).2.1 - (evAt r i).2.1)).1))]
def pairIf (r : Rec) (i j : Nat) : List Diff := if (evAt r j).1 = (evAt r i).1 then pairD r i j else []
def pairsI (r : Rec) (n i : Nat) : List Diff := ((List.range n).filter fun j => decide (i < j)).flatMap (pairIf r i)
def linkD (l : Link) : Diff := (l.2.1 + 1, (l.1 + 1, -l.2.2))
def nE (r : Rec) : Nat := r.2.2.1.length
def whensOk (r : Rec) : Bool := (List.range (nE r)).all fun i => (whenAt r i).2
def consL (r : Rec) : List Diff := (List.range (nE r)).flatMap (evD r) ++ (List.range (nE r)).flatMap (pairsI r (nE r)) ++ r.2.2.2.map linkD
/-- The constraints of a record. -/
def consW (r : Rec) : Option (List Diff) := if valid r && whensOk r then some (consL r) else none

/-- Times that fit a record. -/
structure SolR (r : Rec) (x : Nat → Int) : Prop where
  ev : ∀ i, i < nE r → x (i + 1) - x 0 ≤ (whenAt r i).1.2 ∧ x 0 - x (i + 1) ≤ -(whenAt r i).1.1
  pair : ∀ i j, i < nE r → j < nE r → i ≠ j → (evAt r i).1 = (evAt r j).1 → (evAt r i).2.1 ≤ (evAt r j).2.1 →
    (elapsed (driftAt r (evAt r i).1) ((evAt r j).2.1 - (evAt r i).2.1)).1 ≤ x (j + 1) - x (i + 1) ∧ x (j + 1) - x (i + 1) ≤ (elapsed (driftAt r (evAt r i).1) ((evAt r j).2.1 - (evAt r i).2.1)).2
  link : ∀ l ∈ r.2.2.2, l.2.2 ≤ x (l.2.1.toNat + 1) - x (l.1.toNat + 1)

theorem valid_parts {r : Rec} (h : valid r = true) : (∀ h ∈ r.1, 0 ≤ h.2 ∧ h.2 ≤ 500000) ∧ (∀ s ∈ r.2.1, 0 ≤ s.1 ∧ s.1 < r.1.length ∧ okSync s = true) ∧
    (∀ e ∈ r.2.2.1, 0 ≤ e.1 ∧ e.1 < r.1.length ∧ 0 ≤ e.2.1 ∧ e.2.1 ≤ 8589934592) ∧
    (∀ l ∈ r.2.2.2, 0 ≤ l.1 ∧ l.1 < nE r ∧ 0 ≤ l.2.1 ∧ l.2.1 < nE r ∧ l.1 ≠ l.2.1 ∧ 0 ≤ l.2.2 ∧ l.2.2 ≤ 8589934592) := by
  unfold valid at h
  simp only [Bool.and_eq_true, List.all_eq_true] at h
  obtain ⟨_, h1, h2, h3, h4⟩ := h
  refine ⟨fun x hx => ?_, fun x hx => ?_, fun x hx => ?_, fun x hx => ?_⟩
  · exact inN_iff.1 (h1 x hx)
  · have := h2 x hx
    simp only [vSync, Bool.and_eq_true, inN_iff] at this
    exact ⟨by omega, by omega, this.2⟩
  · have := h3 x hx
    simp only [vEvent, Bool.and_eq_true, inN_iff] at this
    omega
  · have := h4 x hx
    simp only [vLink, Bool.and_eq_true, inN_iff, Bool.not_eq_true', decide_eq_false_iff_not] at this
    unfold nE
    omega

theorem valid_ev {r : Rec} (h : valid r = true) {i : Nat} (hi : i < nE r) : 0 ≤ (evAt r i).1 ∧ (evAt r i).1 < r.1.length ∧ 0 ≤ (evAt r i).2.1 ∧ (evAt r i).2.1 ≤ 8589934592 :=
  (valid_parts h).2.2.1 _ (getD_mem hi)

theorem elapsed_zero (d : Int) : elapsed d 0 = (0, 0) := by
  unfold elapsed
  by_cases h : inN d 0 500000 = true
  · have := inN_iff.1 h
    rw [h, inN_mk (by omega)]
    simp only [Bool.and_self, cond_true]
    rw [Int.zero_mul, Int.zero_ediv]
    congr 1
    exact Int.ediv_eq_zero_of_lt (by omega) (by omega)
  · rw [Bool.eq_false_iff.2 h]
    rfl

theorem mem_pairs {r : Rec} {n : Nat} {d : Diff} : d ∈ (List.range n).flatMap (pairsI r n) ↔ ∃ i j, i < j ∧ j < n ∧ (evAt r j).1 = (evAt r i).1 ∧ d ∈ pairD r i j := by
  simp only [List.mem_flatMap, pairsI, List.mem_filter, List.mem_range, decide_eq_true_eq, pairIf]
  constructor
  · rintro ⟨i, hi, j, ⟨hj, hij⟩, hd⟩
    split at hd
    · rename_i e
      exact ⟨i, j, hij, hj, e, hd⟩
    · cases hd
  · rintro ⟨i, j, hij, hj, e, hd⟩
    exact ⟨i, by omega, j, ⟨hj, hij⟩, by rw [if_pos e]; exact hd⟩

theorem mem_cons {r : Rec} {d : Diff} : d ∈ consL r ↔ (∃ i, i < nE r ∧ d ∈ evD r i) ∨ (∃ i j, i < j ∧ j < nE r ∧ (evAt r j).1 = (evAt r i).1 ∧ d ∈ pairD r i j) ∨ ∃ l ∈ r.2.2.2, d = linkD l := by
  unfold consL
  rw [List.mem_append, List.mem_append, mem_pairs, or_assoc]
  simp only [List.mem_flatMap, List.mem_range, List.mem_map, eq_comm]

theorem pairD_sol {r : Rec} {i j : Nat} {x : Nat → Int} : (∀ d ∈ pairD r i j, x d.2.1.toNat - x d.1.toNat ≤ d.2.2) ↔
    (if (evAt r j).2.1 < (evAt r i).2.1 then
      (elapsed (driftAt r (evAt r j).1) ((evAt r i).2.1 - (evAt r j).2.1)).1 ≤ x (i + 1) - x (j + 1) ∧ x (i + 1) - x (j + 1) ≤ (elapsed (driftAt r (evAt r j).1) ((evAt r i).2.1 - (evAt r j).2.1)).2
    else (elapsed (driftAt r (evAt r i).1) ((evAt r j).2.1 - (evAt r i).2.1)).1 ≤ x (j + 1) - x (i + 1) ∧ x (j + 1) - x (i + 1) ≤ (elapsed (driftAt r (evAt r i).1) ((evAt r j).2.1 - (evAt r i).2.1)).2) := by
  have ei : ((i : Int) + 1).toNat = i + 1 := by omega
  have ej : ((j : Int) + 1).toNat = j + 1 := by omega
  unfold pairD
  split
  · simp only [List.mem_cons, List.not_mem_nil, or_false, forall_eq_or_imp, forall_eq, ei, ej]
    omega
  · simp only [List.mem_cons, List.not_mem_nil, or_false, forall_eq_or_imp, forall_eq, ei, ej]
    omega

theorem sol_cons {r : Rec} (hv : valid r = true) (x : Nat → Int) : Sol (consL r) x ↔ SolR r x := by
  have hp := valid_parts hv
  constructor
  · intro h
    refine ⟨fun i hi => ?_, fun i j hi hj hij hh hc => ?_, fun l hl => ?_⟩
    · have h1 := h (0, ((i : Int) + 1, (whenAt r i).1.2)) (mem_cons.2 (.inl ⟨i, hi, by simp [evD]⟩))
      have h2 := h ((i : Int) + 1, (0, -(whenAt r i).1.1)) (mem_cons.2 (.inl ⟨i, hi, by simp [evD]⟩))
      have e : ((i : Int) + 1).toNat = i + 1 := by omega
      simp only [e, Int.toNat_zero] at h1 h2
      exact ⟨h1, h2⟩
    · rcases Nat.lt_or_gt_of_ne hij with hl | hl
      · have := pairD_sol.1 (fun d hd => h d (mem_cons.2 (.inr (.inl ⟨i, j, hl, hj, hh.symm, hd⟩))))
        rw [if_neg (by omega)] at this
        exact this
      · have := pairD_sol.1 (fun d hd => h d (mem_cons.2 (.inr (.inl ⟨j, i, hl, hi, hh, hd⟩))))
        by_cases e : (evAt r i).2.1 = (evAt r j).2.1
        · rw [if_neg (by omega), e, Int.sub_self, elapsed_zero] at this
          rw [e, Int.sub_self, elapsed_zero]
          simp only at this ⊢
          omega
        · rw [if_pos (by omega)] at this
          exact this
    · have h1 := h (linkD l) (mem_cons.2 (.inr (.inr ⟨l, hl, rfl⟩)))
      have := hp.2.2.2 l hl
      have e1 : (l.1 + 1).toNat = l.1.toNat + 1 := by omega
      have e2 : (l.2.1 + 1).toNat = l.2.1.toNat + 1 := by omega
      simp only [linkD, e1, e2] at h1
      omega
  · intro h d hd
    rcases mem_cons.1 hd with ⟨i, hi, hd⟩ | ⟨i, j, hij, hj, hh, hd⟩ | ⟨l, hl, rfl⟩
    · have := h.ev i hi
      have e : ((i : Int) + 1).toNat = i + 1 := by omega
      simp only [evD, List.mem_cons, List.not_mem_nil, or_false] at hd
      rcases hd with rfl | rfl
      · simp only [e, Int.toNat_zero]
        exact this.1
      · simp only [e, Int.toNat_zero]
        exact this.2
    · refine pairD_sol.2 ?_ d hd
      split
      · rename_i hc
        exact h.pair j i hj (by omega) (by omega) hh (by omega)
      · rename_i hc
        exact h.pair i j (by omega) hj (by omega) hh.symm (by omega)
    · have := h.link l hl
      have hb := hp.2.2.2 l hl
      have e1 : (l.1 + 1).toNat = l.1.toNat + 1 := by omega
      have e2 : (l.2.1 + 1).toNat = l.2.1.toNat + 1 := by omega
      simp only [linkD, e1, e2]
      omega

theorem flat_len {α γ : Type} (f : α → List γ) (c : Nat) : ∀ l : List α, (∀ x ∈ l, (f x).length ≤ c) → (l.flatMap f).length ≤ l.length * c
  | [], _ => by simp
  | x :: l, h => by
    have h1 := h x (by simp)
    have h2 := flat_len f c l (fun y hy => h y (by simp [hy]))
    simp only [List.flatMap_cons, List.length_append, List.length_cons, Nat.succ_mul]
    omega

theorem cons_len {r : Rec} (hv : valid r = true) : (consL r).length ≤ 4000 := by
  have hb := valid_bd hv
  have h1 := flat_len (evD r) 2 (List.range (nE r)) (fun i _ => by simp [evD])
  have h2 : ∀ i ∈ List.range (nE r), (pairsI r (nE r) i).length ≤ 80 := fun i _ => by
    have h3 := flat_len (pairIf r i) 2 ((List.range (nE r)).filter fun j => decide (i < j)) (fun j _ => by
      unfold pairIf pairD
      split
      · split <;> simp
      · simp)
    have h4 := List.length_filter_le (fun j => decide (i < j)) (List.range (nE r))
    rw [List.length_range] at h4
    unfold pairsI nE at *
    omega
  have h3 := flat_len (pairsI r (nE r)) 80 _ h2
  unfold consL
  rw [List.length_append, List.length_append, List.length_map]
  rw [List.length_range] at h1 h3
  unfold nE at *
  omega

/-- The ranges of the readings. -/
theorem whenAt_bd {r : Rec} {i : Nat} (h : (whenAt r i).2 = true) : 0 ≤ (whenAt r i).1.1 ∧ (whenAt r i).1.1 ≤ (whenAt r i).1.2 ∧ (whenAt r i).1.2 ≤ 8589934592 := by
  unfold whenAt Go.Lift.when? at h ⊢
  cases hc : (valid r && (inN (evAt r i).1 0 ((r.1.length : Int) - 1) && inN (evAt r i).2.1 0 8589934592)) with
  | false => rw [hc] at h; cases h
  | true =>
    rw [hc] at h
    simp only [cond_true, Bool.not_eq_true', decide_eq_false_iff_not] at h ⊢
    rw [whenR_eq] at h ⊢
    have := @foldl_meet_bd (froms r.1 (evAt r i).1 (evAt r i).2.1 r.2.1) (0, 8589934592)
    simp only at this
    omega

theorem whensOk_iff {r : Rec} : whensOk r = true ↔ ∀ i, i < nE r → (whenAt r i).2 = true := by
  unfold whensOk
  rw [List.all_eq_true]
  simp only [List.mem_range]

theorem consL_ok {r : Rec} (hv : valid r = true) (hw : whensOk r = true) : (consL r).all (diffOk (nE r + 1)) = true := by
  rw [List.all_eq_true]
  intro d hd
  have hp := valid_parts hv
  unfold diffOk
  apply decide_eq_true
  rcases mem_cons.1 hd with ⟨i, hi, hd⟩ | ⟨i, j, hij, hj, hh, hd⟩ | ⟨l, hl, rfl⟩
  · have := whenAt_bd (whensOk_iff.1 hw i hi)
    simp only [evD, List.mem_cons, List.not_mem_nil, or_false] at hd
    rcases hd with rfl | rfl <;> simp only <;> omega
  · unfold pairD at hd
    split at hd <;> simp only [List.mem_cons, List.not_mem_nil, or_false] at hd
    · have := @elapsed_bd (driftAt r (evAt r j).1) ((evAt r i).2.1 - (evAt r j).2.1)
      rcases hd with rfl | rfl <;> simp only <;> omega
    · have := @elapsed_bd (driftAt r (evAt r i).1) ((evAt r j).2.1 - (evAt r i).2.1)
      rcases hd with rfl | rfl <;> simp only <;> omega
  · have := hp.2.2.2 l hl
    simp only [linkD]
    omega

theorem consL_valid {r : Rec} (hv : valid r = true) (hw : whensOk r = true) : validD (nE r + 1) (consL r) = true := by
  unfold validD
  rw [decide_eq_true (cons_len hv), consL_ok hv hw]
  rfl

/-- Every variable is bound both ways. -/
theorem cons_conn {r : Rec} (hv : valid r = true) (hw : whensOk r = true) : Conn (nE r + 1) (consL r) := by
  have hn : nE r ≤ 40 := (valid_bd hv).2.2.1
  refine ⟨by omega, by omega, consL_valid hv hw, fun i h1 h2 => ?_, fun i h1 h2 => ?_⟩
  · refine ⟨(0, (((i - 1 : Nat) : Int) + 1, (whenAt r (i - 1)).1.2)), mem_cons.2 (.inl ⟨i - 1, by omega, by simp [evD]⟩), rfl, ?_⟩
    simp only
    omega
  · refine ⟨(((i - 1 : Nat) : Int) + 1, (0, -(whenAt r (i - 1)).1.1)), mem_cons.2 (.inl ⟨i - 1, by omega, by simp [evD]⟩), ?_, rfl, ?_⟩
    · simp only
      omega
    · have := whenAt_bd (whensOk_iff.1 hw (i - 1) (by omega))
      simp only
      omega

/-- The matrix of a record. -/
def closedW (r : Rec) : Option Mat := match consW r with | some l => closeW (nE r + 1) l | none => none

theorem CloseOk.le_iff {n : Nat} {l : List Diff} {m : Mat} (h : CloseOk n l m) {i j : Nat} (hi : i < n) (hj : j < n) (c : Int) : at2 m i j ≤ c ↔ ∀ x, Sol l x → x j - x i ≤ c := by
  constructor
  · intro hc x s
    exact Int.le_trans (h.sol x s i j hi hj) hc
  · intro hx
    have := hx _ (h.row i hi)
    have := h.zero i hi
    omega

/-- What is known of a record that has a matrix. -/
structure ClosedR (r : Rec) (m : Mat) : Prop where
  valid : valid r = true
  whens : whensOk r = true
  eq : closedW r = some m
  ok : CloseOk (nE r + 1) (consL r) m

theorem closed_some' {r : Rec} (hv : Go.Lift.valid r = true) (hw : whensOk r = true) {x : Nat → Int} (s : SolR r x) : ∃ m, ClosedR r m := by
  obtain ⟨m, e, h⟩ := close_some (cons_conn hv hw) ((sol_cons hv x).2 s)
  refine ⟨m, hv, hw, ?_, h⟩
  unfold closedW consW
  rw [hv, hw]
  exact e

theorem closed_some {r : Rec} (hv : Go.Lift.valid r = true) (hw : whensOk r = true) (hn : nE r ≤ 7) {x : Nat → Int} (s : SolR r x) : ∃ m, ClosedR r m := closed_some' hv hw s

theorem closed_ok' {r : Rec} {m : Mat} (e : closedW r = some m) : ClosedR r m := by
  unfold closedW consW at e
  by_cases h : (Go.Lift.valid r && whensOk r) = true
  · have e0 := e
    rw [if_pos h] at e
    rw [Bool.and_eq_true] at h
    refine ⟨h.1, h.2, ?_, close_ok (cons_conn h.1 h.2) e⟩
    unfold closedW consW
    exact e0
  · rw [if_neg h] at e
    cases e

theorem closed_ok {r : Rec} (hn : nE r ≤ 7) {m : Mat} (e : closedW r = some m) : ClosedR r m := closed_ok' e

theorem ClosedR.le_iff {r : Rec} {m : Mat} (h : ClosedR r m) {i j : Nat} (hi : i < nE r + 1) (hj : j < nE r + 1) (c : Int) : at2 m i j ≤ c ↔ ∀ x, SolR r x → x j - x i ≤ c := by
  rw [h.ok.le_iff hi hj]
  exact ⟨fun g x s => g x ((sol_cons h.valid x).2 s), fun g x s => g x ((sol_cons h.valid x).1 s)⟩

theorem ClosedR.row {r : Rec} {m : Mat} (h : ClosedR r m) {i : Nat} (hi : i < nE r + 1) : SolR r (fun j => at2 m i j) := (sol_cons h.valid _).1 (h.ok.row i hi)

theorem ClosedR.sol {r : Rec} {m : Mat} (h : ClosedR r m) {x : Nat → Int} (s : SolR r x) {i j : Nat} (hi : i < nE r + 1) (hj : j < nE r + 1) : x j - x i ≤ at2 m i j :=
  (h.le_iff hi hj _).1 (Int.le_refl _) x s

/-- If no times fit, there is no matrix. -/
theorem closed_none {r : Rec} (hn : nE r ≤ 7) (h : ∀ x, ¬ SolR r x) : closedW r = none := by
  cases e : closedW r with
  | none => rfl
  | some m => exact absurd ((closed_ok hn e).row (i := 0) (by omega)) (h _)
end
end Go.Lift

/- The functions of the package order in plain Lean. -/
namespace Go.Lift
open Go.RowKit Go.IntWalk
noncomputable section
set_option linter.unusedVariables false
set_option linter.unusedSimpArgs false
set_option maxRecDepth 10000

section
variable {β : Type}
theorem pair_p1_eq (k1 : zqas β) (r : Rec) {i j : Nat} (hi : i ≤ 100) (hj : j ≤ 100) {a a2 b b2 : Int} (a3 b3 : List UInt8) (ha : 0 ≤ a ∧ a < r.1.length) (h2 : 0 ≤ a2 ∧ a2 ≤ 8589934592) (h3 : 0 ≤ b2 ∧ b2 ≤ 8589934592) :
    zqb2 k1 (i : Int) (j : Int) r.1 r.2.1 r.2.2.1 r.2.2.2 a a2 a3 b b2 b3 = k1 [((i : Int) + 1, ((j : Int) + 1, (elapsed (driftAt r a) (b2 - a2)).2)), ((j : Int) + 1, ((i : Int) + 1, -(elapsed (driftAt r a) (b2 - a2)).1))] := by
  have e1 : IntKind.i64.wrap ((i : Int) + 1) = i + 1 := i64_in _ (by omega)
  have e2 : IntKind.i64.wrap ((j : Int) + 1) = j + 1 := i64_in _ (by omega)
  have e3 : IntKind.i64.wrap (b2 - a2) = b2 - a2 := i64_in _ (by omega)
  unfold zqb2 zqax zqaw
  refine (c_inb ha).trans ?_
  simp only [e1, e2, e3]
  refine (clock_Elapsed_eq _ _ _).trans ?_
  have := @elapsed_bd (driftAt r a) (b2 - a2)
  have e4 : IntKind.i64.wrap (0 - (elapsed (driftAt r a) (b2 - a2)).1) = -(elapsed (driftAt r a) (b2 - a2)).1 := (i64_in _ (by omega)).trans (by omega)
  unfold driftAt at e4 ⊢
  rw [e4]

theorem order_pair_eq {r : Rec} (hv : valid r = true) {i j : Nat} (hi : i < nE r) (hj : j < nE r) (k : List Diff → Option β) : zqb4 r (i : Int) (j : Int) k = k (pairD r i j) := by
  have hb := valid_bd hv
  have h1 := valid_ev hv hi
  have h2 := valid_ev hv hj
  unfold nE evAt at *
  unfold zqb4 zqaz
  refine (c_inb (by omega)).trans ?_
  refine (c_inb (by omega)).trans ?_
  unfold pairD evAt
  simp only [Int.toNat_natCast]
  by_cases hc : (r.2.2.1.getD j (0, 0, [])).2.1 < (r.2.2.1.getD i (0, 0, [])).2.1
  · refine (c_pos hc).trans ?_
    rw [if_pos hc]
    exact pair_p1_eq _ r (by omega) (by omega) _ _ (by omega) (by omega) (by omega)
  · refine (c_neg hc).trans ?_
    rw [if_neg hc]
    exact pair_p1_eq _ r (by omega) (by omega) _ _ (by omega) (by omega) (by omega)

theorem cons_p1 (k1 : zqcg β) (k2 : zqch β) {r : Rec} (hv : valid r = true) :
    zqde k1 k2 r.2.2.1 (r.2.2.1.length : Int) 0 r.1 r.2.1 r.2.2.1 r.2.2.2 [] = cond (whensOk r) (k2 r.1 r.2.1 r.2.2.1 r.2.2.2 ((List.range (nE r)).flatMap (evD r))) (k1 false []) := by
  have hb := valid_bd hv
  have key := range_check (nE r) (fun i (s : List Diff) => s.length ≤ 2 * i) (fun f j s => zqdc f k1 k2 r.2.2.1 (r.2.2.1.length : Int) j r.1 r.2.1 r.2.2.1 r.2.2.2 s) (fun i => (whenAt r i).2)
    (fun s i => s ++ evD r i) (k1 false []) (fun s => k2 r.1 r.2.1 r.2.2.1 r.2.2.2 s) [] fuel (lt_fuel (by unfold nE; omega)) (by simp)
    (fun i s hi hs _ => by simp only [List.length_append, evD, List.length_cons, List.length_nil]; omega)
    (fun f i s hi hs => by
      unfold nE at hi
      have e1 : IntKind.i64.wrap ((i : Int) + 1) = i + 1 := i64_in _ (by omega)
      rw [zqdd]
      unfold zqcx
      refine (c_pos (by omega)).trans ?_
      refine (c_inb (by omega)).trans ?_
      simp only [Int.toNat_natCast, e1]
      refine (clock_When_eq _ _ _ _).trans ?_
      have hw : when? (r.1, r.2.1, r.2.2.1, r.2.2.2) (r.2.2.1.getD i (0, 0, [])).1 (r.2.2.1.getD i (0, 0, [])).2.1 = whenAt r i := rfl
      rw [hw]
      cases hk : (whenAt r i).2 with
      | false => rfl
      | true =>
        have hbd := whenAt_bd hk
        have e2 : IntKind.i64.wrap (0 - (whenAt r i).1.1) = -(whenAt r i).1.1 := (i64_in _ (by omega)).trans (by omega)
        simp only [Bool.not_true, cond_false, cond_true, e2]
        refine (c_room (by simp only [List.length_cons, List.length_nil]; omega)).trans ?_
        rfl)
    (fun f s hs => by
      rw [zqdd]
      unfold zqcx
      exact c_neg (by unfold nE; omega))
  unfold zqde
  rw [key, foldl_flat]
  rfl

theorem cons_p2 (k1 : zqcl β) {r : Rec} (hv : valid r = true) {i : Nat} (hi : i < nE r) (t52 : List Event) (t53 t54 : Int) (a2 : Int) (a3 : List UInt8) (out : List Diff) (ho : out.length ≤ 4000) :
    zqdi k1 (i : Int) ((i : Int) + 1) t52 t53 t54 r.1 r.2.1 r.2.2.1 r.2.2.2 out (evAt r i).1 a2 a3 = k1 t52 t53 t54 r.1 r.2.1 r.2.2.1 r.2.2.2 (out ++ pairsI r (nE r) i) := by
  have hb := valid_bd hv
  have key : ∀ (c j f : Nat) (s : List Diff), j + c = nE r → i < j → c < f → s.length + 2 * c ≤ 100000 →
      zqdg f k1 (i : Int) (j : Int) t52 t53 t54 r.1 r.2.1 r.2.2.1 r.2.2.2 s (evAt r i).1 a2 a3 = k1 t52 t53 t54 r.1 r.2.1 r.2.2.1 r.2.2.2 (s ++ (List.range' j c).flatMap (pairIf r i)) := by
    intro c
    induction c with
    | zero =>
      intro j f s hj hij hf hs
      obtain ⟨f, rfl⟩ : ∃ m, f = m + 1 := ⟨f - 1, by omega⟩
      rw [zqdh]
      unfold zqd0
      unfold nE at hj
      refine (c_neg (by omega)).trans ?_
      simp
    | succ c ih =>
      intro j f s hj hij hf hs
      obtain ⟨f, rfl⟩ : ∃ m, f = m + 1 := ⟨f - 1, by omega⟩
      rw [zqdh]
      unfold zqd0
      have hj' : j < nE r := by omega
      have hjn : (j : Int) < (r.2.2.1.length : Int) := by unfold nE at hj'; omega
      have e1 : IntKind.i64.wrap ((j : Int) + 1) = ((j + 1 : Nat) : Int) := i64_in _ (by unfold nE at hj'; omega)
      refine (c_pos hjn).trans ?_
      refine (c_inb (by omega)).trans ?_
      simp only [Int.toNat_natCast, e1]
      rw [List.range'_succ, List.flatMap_cons]
      have hpi : pairIf r i j = if (evAt r j).1 = (evAt r i).1 then pairD r i j else [] := rfl
      rw [hpi]
      by_cases hh : (evAt r j).1 = (evAt r i).1
      · refine (c_pos (p := (r.2.2.1.getD j ((0 : Int), ((0 : Int), ([] : List UInt8)))).1 = (evAt r i).1) hh).trans ?_
        rw [if_pos hh]
        refine (order_pair_eq hv hi hj' _).trans ?_
        have hp : (pairD r i j).length = 2 := by unfold pairD; split <;> rfl
        refine (c_room (by omega)).trans ?_
        refine (ih (j + 1) f _ (by omega) (by omega) (by omega) (by rw [List.length_append]; omega)).trans ?_
        rw [List.append_assoc]
      · refine (c_neg (p := (r.2.2.1.getD j ((0 : Int), ((0 : Int), ([] : List UInt8)))).1 = (evAt r i).1) hh).trans ?_
        rw [if_neg hh]
        refine (ih (j + 1) f _ (by omega) (by omega) (by omega) (by omega)).trans ?_
        rw [List.nil_append]
  unfold zqdi
  have h1 := key (nE r - (i + 1)) (i + 1) fuel out (by omega) (by omega) (lt_fuel (by unfold nE at *; omega)) (by unfold nE at *; omega)
  rw [show ((i : Int) + 1) = ((i + 1 : Nat) : Int) by omega, h1]
  congr 1
  congr 1
  unfold pairsI
  have e : ∀ n, i < n → (List.range n).filter (fun j => decide (i < j)) = List.range' (i + 1) (n - (i + 1)) := by
    intro n
    induction n with
    | zero => intro h; omega
    | succ n ihn =>
      intro h
      rw [List.range_succ, List.filter_append]
      by_cases hin : i < n
      · rw [ihn hin]
        have : n + 1 - (i + 1) = (n - (i + 1)) + 1 := by omega
        rw [this, List.range'_concat]
        simp only [List.filter_cons, List.filter_nil, decide_eq_true hin, if_true]
        congr 2
        omega
      · have hin' : n = i := by omega
        subst hin'
        have : (List.range n).filter (fun j => decide (n < j)) = [] := by
          rw [List.filter_eq_nil_iff]
          intro a ha
          simp only [List.mem_range] at ha
          simp only [decide_eq_true_eq]
          omega
        rw [this]
        simp
  rw [e _ hi]

theorem cons_p3 (k1 : zqcp β) {r : Rec} (hv : valid r = true) (out : List Diff) (ho : out.length ≤ 80) :
    zqdm k1 r.2.2.1 (r.2.2.1.length : Int) 0 r.1 r.2.1 r.2.2.1 r.2.2.2 out = k1 r.1 r.2.1 r.2.2.1 r.2.2.2 (out ++ (List.range (nE r)).flatMap (pairsI r (nE r))) := by
  have hb := valid_bd hv
  have h2 : ∀ i, (pairsI r (nE r) i).length ≤ 80 := fun i => by
    have h3 := flat_len (pairIf r i) 2 ((List.range (nE r)).filter fun j => decide (i < j)) (fun j _ => by
      unfold pairIf pairD
      split
      · split <;> simp
      · simp)
    have h4 := List.length_filter_le (fun j => decide (i < j)) (List.range (nE r))
    rw [List.length_range] at h4
    unfold pairsI nE at *
    omega
  have key := range_fold' (nE r) (fun i (s : List Diff) => s.length ≤ 80 + 80 * i) (fun f j s => zqdk f k1 r.2.2.1 (r.2.2.1.length : Int) j r.1 r.2.1 r.2.2.1 r.2.2.2 s)
    (fun s i => s ++ pairsI r (nE r) i) (fun s => k1 r.1 r.2.1 r.2.2.1 r.2.2.2 s) out fuel (lt_fuel (by unfold nE; omega)) (by omega)
    (fun i s hi hs => by have := h2 i; rw [List.length_append]; omega)
    (fun f i s hi hs => by
      have hi' := hi
      unfold nE at hi'
      have e1 : IntKind.i64.wrap ((i : Int) + 1) = i + 1 := i64_in _ (by omega)
      rw [zqdl]
      unfold zqd3
      refine (c_pos (by omega)).trans ?_
      refine (c_inb (by omega)).trans ?_
      simp only [Int.toNat_natCast, e1]
      refine (cons_p2 _ hv hi _ _ _ _ _ s (by omega)).trans ?_
      simp only [e1])
    (fun f s hs => by
      rw [zqdl]
      unfold zqd3
      exact c_neg (by unfold nE; omega))
  unfold zqdm
  rw [key, foldl_flat]

theorem cons_p4 (k1 : zqct β) (l : List Link) (hl : l.length ≤ 1000) (hok : ∀ x ∈ l, 0 ≤ x.1 ∧ x.1 ≤ 1000 ∧ 0 ≤ x.2.1 ∧ x.2.1 ≤ 1000 ∧ 0 ≤ x.2.2 ∧ x.2.2 ≤ 8589934592) (out : List Diff) (ho : out.length ≤ 10000) :
    zqdq k1 l (l.length : Int) 0 out = k1 (out ++ l.map linkD) := by
  have key := fold_loopI (fun i (s : List Diff) => s.length ≤ 10000 + i) (fun f j s => zqdo f k1 l (l.length : Int) j s)
    (fun s x => s ++ [linkD x]) (fun s => k1 s) ((0 : Int), ((0 : Int), (0 : Int))) l out fuel (lt_fuel (by omega)) (by omega)
    (fun i s hi hs => by simp only [List.length_append, List.length_cons, List.length_nil]; omega)
    (fun f i s hi hs => by
      have e1 : IntKind.i64.wrap ((i : Int) + 1) = i + 1 := i64_in _ (by omega)
      have hx := hok _ (getD_mem (d := ((0 : Int), ((0 : Int), (0 : Int)))) hi)
      rw [zqdp]
      unfold zqd6
      refine (c_pos (by omega)).trans ?_
      refine (c_inb (by omega)).trans ?_
      simp only [Int.toNat_natCast, e1]
      generalize l.getD i ((0 : Int), ((0 : Int), (0 : Int))) = x at hx
      have e2 : IntKind.i64.wrap (x.2.1 + 1) = x.2.1 + 1 := i64_in _ (by omega)
      have e3 : IntKind.i64.wrap (x.1 + 1) = x.1 + 1 := i64_in _ (by omega)
      have e4 : IntKind.i64.wrap (0 - x.2.2) = -x.2.2 := (i64_in _ (by omega)).trans (by omega)
      simp only [e2, e3, e4]
      refine (c_room (by simp only [List.length_cons, List.length_nil]; omega)).trans ?_
      rfl)
    (fun f s hs => by
      rw [zqdp]
      unfold zqd6
      exact c_neg (by omega))
  unfold zqdq
  rw [key]
  have : ∀ (l : List Link) (s : List Diff), l.foldl (fun s x => s ++ [linkD x]) s = s ++ l.map linkD := by
    intro l
    induction l with
    | nil => intro s; simp
    | cons x l ih => intro s; simp only [List.foldl_cons, List.map_cons]; rw [ih, List.append_assoc]; rfl
  rw [this]

theorem Constraints_eq (r : Rec) (k : Bool → List Diff → Option β) : zqds r k = (match consW r with | some l => k true l | none => k false []) := by
  unfold zqds zqd9
  refine (clock_Valid_eq _ _).trans ?_
  unfold consW
  cases hv : valid r with
  | false => rfl
  | true =>
    have hb := valid_bd hv
    have hp := valid_parts hv
    simp only [Bool.not_true, cond_false, Bool.true_and]
    refine (cons_p1 _ _ hv).trans ?_
    cases hw : whensOk r with
    | false => rfl
    | true =>
      simp only [cond_true, if_true]
      have h1 := flat_len (evD r) 2 (List.range (nE r)) (fun i _ => by simp [evD])
      rw [List.length_range] at h1
      have h2 := cons_len hv
      unfold consL at h2 ⊢
      rw [List.length_append, List.length_map] at h2
      refine (cons_p3 _ hv _ (by unfold nE at *; omega)).trans ?_
      exact cons_p4 _ _ (by omega) (fun x hx => by have := hp.2.2.2 x hx; unfold nE at *; omega) _ (by omega)

theorem closed_eq {r : Rec} (hE : nE r ≤ 100) (k : Mat → Bool → Option β) : zqge r k = (match closedW r with | some m => k m true | none => k [] false) := by
  unfold zqge zqgb
  refine (Constraints_eq _ _).trans ?_
  unfold closedW
  cases hc : consW r with
  | none => rfl
  | some l =>
    simp only [Bool.not_true, cond_false]
    have e1 : IntKind.i64.wrap ((r.2.2.1.length : Int) + 1) = ((nE r + 1 : Nat) : Int) := i64_in _ (by unfold nE at hE; omega)
    rw [e1]
    have hn : nE r ≤ 40 := by
      unfold consW at hc
      by_cases hh : (valid r && whensOk r) = true
      · rw [Bool.and_eq_true] at hh
        have := valid_bd hh.1
        unfold nE
        omega
      · rw [if_neg hh] at hc
        cases hc
    exact Close_eq (by omega) (by omega) l _

/-- One event is before another one for certain. -/
def bef (m : Mat) (a b : Nat) : Bool := decide (at2 m (b + 1) (a + 1) ≤ -1)
def opn (m : Mat) (a b : Nat) : Bool := !bef m a b && !bef m b a
def cmpN (m : Mat) (a b : Nat) : Int := if bef m a b then -1 else if bef m b a then 1 else 0
def rangeN (m : Mat) (i : Nat) : Int × Int := (-at2 m (i + 1) 0, at2 m 0 (i + 1))
def gapN (m : Mat) (a b : Nat) : Int × Int := (-at2 m (b + 1) (a + 1), at2 m (a + 1) (b + 1))

structure MatB (n : Nat) (m : Mat) : Prop where
  sq : Sq (n + 1) m
  small : n ≤ 100
  bd : ∀ i j, i < n + 1 → j < n + 1 → -9223372036854775807 ≤ at2 m i j ∧ at2 m i j ≤ 9223372036854775807

theorem before_eq {n : Nat} {m : Mat} (h : MatB n m) {a b : Nat} (ha : a < n) (hb : b < n) (k : Bool → Option β) : zq23 m (a : Int) (b : Int) k = k (bef m a b) := by
  have hs := h.small
  have e1 : IntKind.i64.wrap ((a : Int) + 1) = ((a + 1 : Nat) : Int) := i64_in _ (by omega)
  have e2 : IntKind.i64.wrap ((b : Int) + 1) = ((b + 1 : Nat) : Int) := i64_in _ (by omega)
  have l0 := h.sq.len
  have l1 := h.sq.row (b + 1) (by omega)
  unfold zq23 zq20
  simp only [e1, e2, Int.toNat_natCast]
  refine (c_inb (by omega)).trans ?_
  refine (c_inb (by omega)).trans ?_
  rfl

theorem open_eq {n : Nat} {m : Mat} (h : MatB n m) {a b : Nat} (ha : a < n) (hb : b < n) (k : Bool → Option β) : zq3i m (a : Int) (b : Int) k = k (opn m a b) := by
  unfold zq3i zq3f
  refine (before_eq h ha hb _).trans ?_
  unfold opn
  cases bef m a b with
  | true => rfl
  | false => exact before_eq h hb ha _

theorem mwhen_eq {n : Nat} {m : Mat} (h : MatB n m) {i : Nat} (hi : i < n) (k : Int × Int → Option β) : zq3b m (i : Int) k = k (rangeN m i) := by
  have hs := h.small
  have e1 : IntKind.i64.wrap ((i : Int) + 1) = ((i + 1 : Nat) : Int) := i64_in _ (by omega)
  have l0 := h.sq.len
  have l1 := h.sq.row (i + 1) (by omega)
  have l2 := h.sq.row 0 (by omega)
  have hb := h.bd (i + 1) 0 (by omega) (by omega)
  have e2 : IntKind.i64.wrap (0 - at2 m (i + 1) 0) = -at2 m (i + 1) 0 := (i64_in _ (by omega)).trans (by omega)
  unfold zq3b zq38
  simp only [e1, Int.toNat_natCast, Int.toNat_zero]
  refine (c_inb (by omega)).trans ?_
  refine (c_inb (by omega)).trans ?_
  refine (c_inb (by omega)).trans ?_
  refine (c_inb (by omega)).trans ?_
  unfold at2 at e2
  rw [e2]
  rfl

theorem oin_eq (n lo hi : Int) (k : Bool → Option β) : zq3p n lo hi k = k (inN n lo hi) := by
  simp only [zq3p, zq3m, inN, c_kb]

def whensN (n : Nat) (m : Mat) : List (Int × Int) := (List.range n).map (rangeN m)

theorem When_eq {r : Rec} (hE : nE r ≤ 100) (hm : ∀ m, closedW r = some m → MatB (nE r) m) (k : Bool → List (Int × Int) → Option β) :
    zqgw r k = (match closedW r with | some m => k true (whensN (nE r) m) | none => k false []) := by
  unfold zqgw zqgp
  refine (closed_eq hE _).trans ?_
  cases he : closedW r with
  | none => rfl
  | some m =>
    have h := hm m he
    have hs := h.small
    simp only [Bool.not_true, cond_false]
    have key := range_fold' (nE r) (fun i (s : List (Int × Int)) => s.length ≤ i) (fun f j s => zqgs f (fun out => k true out) m (r.2.2.1.length : Int) j s)
      (fun s i => s ++ [rangeN m i]) (fun s => k true s) [] fuel (lt_fuel (by omega)) (by simp)
      (fun i s hi hs => by simp only [List.length_append, List.length_cons, List.length_nil]; omega)
      (fun f i s hi hs => by
        have hi' := hi
        unfold nE at hi'
        have e1 : IntKind.i64.wrap ((i : Int) + 1) = i + 1 := i64_in _ (by omega)
        rw [zqgt]
        unfold zqgm
        refine (c_pos (by omega)).trans ?_
        refine (mwhen_eq h hi _).trans ?_
        simp only [e1]
        exact c_room (by simp only [List.length_cons, List.length_nil]; omega))
      (fun f s hs => by
        rw [zqgt]
        unfold zqgm
        exact c_neg (by unfold nE; omega))
    unfold zqgu
    rw [key]
    have : ∀ (l : List Nat) (s : List (Int × Int)), l.foldl (fun s i => s ++ [rangeN m i]) s = s ++ l.map (rangeN m) := by
      intro l
      induction l with
      | nil => intro s; simp
      | cons x l ih => intro s; simp only [List.foldl_cons, List.map_cons]; rw [ih, List.append_assoc]; rfl
    rw [this]
    rfl
end
end
end Go.Lift

/- Records of the dice and their order; the example of the chapter. -/
namespace Go.Lift
open Go.RowKit Go.IntWalk
noncomputable section
set_option linter.unusedVariables false
set_option linter.unusedSimpArgs false
set_option maxRecDepth 10000

/-- A loop that only looks and always goes on. -/
theorem pass_loop {β : Type} (n : Nat) (F : Nat → Int → Option β) (K : Option β) (N : Nat) (hn : n < N)
    (h1 : ∀ (m i : Nat), i < n → F (m + 1) (i : Int) = F m ((i : Int) + 1))
    (h2 : ∀ (m : Nat), F (m + 1) (n : Int) = K) : F N 0 = K :=
  range_fold' (σ := Unit) n (fun _ _ => True) (fun m i _ => F m i) (fun s _ => s) (fun _ => K) () N hn trivial (fun _ _ _ _ => trivial) (fun m i _ hi _ => h1 m i hi) (fun m _ _ => h2 m)

theorem ClosedR.matB {r : Rec} {m : Mat} (h : ClosedR r m) (hn : nE r ≤ 7) : MatB (nE r) m :=
  ⟨h.ok.sq, by omega, fun i j hi hj => by have := h.ok.lo i j hi hj; have := h.ok.hi i j hi hj; omega⟩

/-- The true times as a solution. -/
def xOf (times : List Int) (j : Nat) : Int := if j = 0 then 0 else times.getD (j - 1) 0
theorem xOf_zero (times : List Int) : xOf times 0 = 0 := rfl
theorem xOf_succ (times : List Int) (j : Nat) : xOf times (j + 1) = times.getD j 0 := by unfold xOf; rw [if_neg (by omega)]; rfl

section
variable {n : Int} {r : Rec} {ahead times : List Int}
theorem RecOk.nE_le (h : RecOk n r ahead times) : (nE r : Int) ≤ n := h.fewE
theorem RecOk.evOk (h : RecOk n r ahead times) {i : Nat} (hi : i < nE r) : EventOk r.1.length ahead (evAt r i) (times.getD i 0) := h.events i hi

theorem RecOk.whenAt (h : RecOk n r ahead times) (hn : n ≤ 40) {i : Nat} (hi : i < nE r) : (whenAt r i).2 = true ∧ (whenAt r i).1.1 ≤ times.getD i 0 ∧ times.getD i 0 ≤ (whenAt r i).1.2 := by
  obtain ⟨a1, a2, a3, a4, a5⟩ := h.evOk hi
  have hb := ahead_bd h.hosts (evAt r i).1.toNat
  have e := h.when? hn (host := (evAt r i).1) (c := (evAt r i).2.1) ⟨a1, a2⟩ (by omega)
  have t := h.when_true (host := (evAt r i).1) (c := (evAt r i).2.1) ⟨a1, a2⟩ (by omega)
  unfold Go.Lift.whenAt
  rw [e]
  refine ⟨rfl, ?_, ?_⟩ <;> simp only <;> omega

theorem RecOk.whens (h : RecOk n r ahead times) (hn : n ≤ 40) : whensOk r = true := whensOk_iff.2 fun i hi => (h.whenAt hn hi).1

theorem RecOk.solR (h : RecOk n r ahead times) (hn : n ≤ 40) : SolR r (xOf times) := by
  refine ⟨fun i hi => ?_, fun i j hi hj hij hh hc => ?_, fun l hl => ?_⟩
  · have := h.whenAt hn hi
    rw [xOf_succ, xOf_zero]
    omega
  · obtain ⟨a1, a2, a3, a4, a5⟩ := h.evOk hi
    obtain ⟨b1, b2, b3, b4, b5⟩ := h.evOk hj
    rw [xOf_succ, xOf_succ]
    rw [← hh] at b5
    have hd : 0 ≤ driftAt r (evAt r i).1 ∧ driftAt r (evAt r i).1 ≤ 500000 := h.drift_ok _
    have := elapsed_le hd (d := (evAt r j).2.1 - (evAt r i).2.1) (by omega)
    omega
  · have := h.links l hl
    unfold LinkOk at this
    rw [xOf_succ, xOf_succ]
    omega

theorem RecOk.closed (h : RecOk n r ahead times) (hn : n ≤ 7) : ∃ m, ClosedR r m := by
  have := h.nE_le
  exact closed_some (h.valid (by omega)) (h.whens (by omega)) (by omega) (h.solR (by omega))
end

section
variable {β : Type}
theorem c_nt {a b : Option β} : cond (!true) a b = b := rfl
theorem c_nf {a b : Option β} : cond (!false) a b = a := rfl

theorem When_some {r : Rec} {m : Mat} (he : closedW r = some m) (h : MatB (nE r) m) (k : Bool → List (Int × Int) → Option β) : zqgw r k = k true (whensN (nE r) m) := by
  refine (When_eq h.small (fun m' he' => ?_) _).trans ?_
  · rw [he] at he'
    cases he'
    exact h
  · rw [he]

/-- The loops of Open. -/
def openL (n : Nat) (m : Mat) (a : Nat) : List (Int × Int) := ((List.range' (a + 1) (n - (a + 1))).filter fun b => opn m a b).map fun (b : Nat) => ((a : Int), (b : Int))

theorem open_p1 {n : Nat} {m : Mat} (h : MatB n m) (k1 : zqh0 β) {a : Nat} (ha : a < n) (r : List Host) (r2 : List Sync) (r3 : List Event) (r4 : List Link) (hr : r3.length = n) (t15 t16 : Int) (out : List (Int × Int)) (ho : out.length ≤ 100000) :
    zqhj k1 m true (a : Int) ((a : Int) + 1) t15 t16 r r2 r3 r4 out = k1 m true t15 t16 r r2 r3 r4 (out ++ openL n m a) := by
  have hs := h.small
  have key : ∀ (c b f : Nat) (s : List (Int × Int)), b + c = n → c < f → s.length + c ≤ 100100 →
      zqhh f k1 m true (a : Int) (b : Int) t15 t16 r r2 r3 r4 s = k1 m true t15 t16 r r2 r3 r4 (s ++ ((List.range' b c).filter fun b => opn m a b).map fun (b : Nat) => ((a : Int), (b : Int))) := by
    intro c
    induction c with
    | zero =>
      intro b f s hb hf hs'
      obtain ⟨f, rfl⟩ : ∃ m, f = m + 1 := ⟨f - 1, by omega⟩
      rw [zqhi]
      unfold zqh8
      refine (c_neg (by omega)).trans ?_
      simp
    | succ c ih =>
      intro b f s hb hf hs'
      obtain ⟨f, rfl⟩ : ∃ m, f = m + 1 := ⟨f - 1, by omega⟩
      have e1 : IntKind.i64.wrap ((b : Int) + 1) = ((b + 1 : Nat) : Int) := i64_in _ (by omega)
      rw [zqhi]
      unfold zqh8
      refine (c_pos (by omega)).trans ?_
      simp only [cond_true, e1]
      refine (open_eq h ha (by omega) _).trans ?_
      rw [List.range'_succ, List.filter_cons]
      cases ho : opn m a b with
      | true =>
        simp only [cond_true, if_true, List.map_cons]
        refine (c_room (by simp only [List.length_cons, List.length_nil]; omega)).trans ?_
        refine (ih (b + 1) f _ (by omega) (by omega) (by simp only [List.length_append, List.length_cons, List.length_nil]; omega)).trans ?_
        rw [List.append_assoc]
        rfl
      | false => exact ih (b + 1) f _ (by omega) (by omega) (by omega)
  unfold zqhj
  have := key (n - (a + 1)) (a + 1) fuel out (by omega) (lt_fuel (by omega)) (by omega)
  rw [show ((a : Int) + 1) = ((a + 1 : Nat) : Int) by omega, this]
  rfl

def openW (n : Nat) (m : Mat) : List (Int × Int) := (List.range n).flatMap (openL n m)

theorem openL_len (n : Nat) (m : Mat) (a : Nat) : (openL n m a).length ≤ n := by
  unfold openL
  rw [List.length_map]
  have := List.length_filter_le (fun b => opn m a b) (List.range' (a + 1) (n - (a + 1)))
  rw [List.length_range'] at this
  omega

theorem Open_eq {r : Rec} {m : Mat} (he : closedW r = some m) (h : MatB (nE r) m) (k : List (Int × Int) → Option β) : zqhp r k = k (openW (nE r) m) := by
  have hs := h.small
  unfold zqhp zqhe
  refine (closed_eq hs _).trans ?_
  rw [he]
  simp only []
  have key := range_fold' (nE r) (fun i (s : List (Int × Int)) => s.length ≤ 100 * i) (fun f j s => zqhl f (fun out => k out) m true (r.2.2.1.length : Int) j r.1 r.2.1 r.2.2.1 r.2.2.2 s)
    (fun s i => s ++ openL (nE r) m i) (fun s => k s) [] fuel (lt_fuel (by omega)) (by simp)
    (fun i s hi hs => by have := openL_len (nE r) m i; rw [List.length_append]; omega)
    (fun f i s hi hs' => by
      have hi' := hi
      unfold nE at hi'
      have e1 : IntKind.i64.wrap ((i : Int) + 1) = i + 1 := i64_in _ (by omega)
      rw [zqhm]
      unfold zqhb
      refine (c_pos (by omega)).trans ?_
      simp only [e1]
      refine (open_p1 h _ hi _ _ _ _ rfl _ _ s (by omega)).trans ?_
      simp only [e1])
    (fun f s hs => by
      rw [zqhm]
      unfold zqhb
      exact c_neg (by unfold nE; omega))
  unfold zqhn
  rw [key, foldl_flat]
  rfl

theorem Open_none {r : Rec} (he : closedW r = none) (hE : nE r ≤ 100) (k : List (Int × Int) → Option β) : zqhp r k = k [] := by
  unfold zqhp zqhe
  refine (closed_eq hE _).trans ?_
  rw [he]
  simp only []
  have key := pass_loop (nE r) (fun f j => zqhl f (fun out => k out) [] false (r.2.2.1.length : Int) j r.1 r.2.1 r.2.2.1 r.2.2.2 []) (k []) fuel (lt_fuel (by omega))
    (fun f i hi => by
      have hi' := hi
      unfold nE at hi'
      have e1 : IntKind.i64.wrap ((i : Int) + 1) = i + 1 := i64_in _ (by unfold nE at hE; omega)
      rw [zqhm]
      unfold zqhb
      refine (c_pos (by omega)).trans ?_
      simp only [e1]
      have : zqhj (fun (m2 : Mat) ok2 t152 t162 r_5 r_6 r_7 r_8 out2 => zqhl f (fun out => k out) m2 ok2 t152 (IntKind.i64.wrap (t162 + 1)) r_5 r_6 r_7 r_8 out2) ([] : Mat) false (i : Int) ((i : Int) + 1) (r.2.2.1.length : Int) (i : Int) r.1 r.2.1 r.2.2.1 r.2.2.2 [] =
          zqhl f (fun out => k out) [] false (r.2.2.1.length : Int) (IntKind.i64.wrap ((i : Int) + 1)) r.1 r.2.1 r.2.2.1 r.2.2.2 [] := by
        unfold zqhj
        rw [show fuel = (fuel - 1) + 1 by decide, zqhi]
        unfold zqh8
        cases decide ((i : Int) + 1 < (r.2.2.1.length : Int)) <;> rfl
      refine this.trans ?_
      rw [e1])
    (fun f => by
      rw [zqhm]
      unfold zqhb
      exact c_neg (by unfold nE; omega))
  unfold zqhn
  exact key
end

section
variable {β : Type}
end
end
end Go.Lift

/- The reference of the chapter 38 in plain Lean. -/
namespace Go.Lift
open Go.RowKit Go.IntWalk
noncomputable section
set_option linter.unusedVariables false
set_option linter.unusedSimpArgs false

section
variable {β : Type}
theorem vSync_ref (n : Nat) (e : Sync) : vSync n e = (inN e.1 0 ((n : Int) - 1) && (inN e.2.1 0 8589934592 && (inN e.2.2.1 0 e.2.2.2 && !decide ((8589934592 : Int) < e.2.2.2)))) := by
  rw [Bool.eq_iff_iff]
  simp [vSync, okSync, inN]
  omega

end
end
end Go.Lift

/- The reference of the chapter 39 in plain Lean. -/
namespace Go.Lift
open Go.RowKit Go.IntWalk
noncomputable section
set_option linter.unusedVariables false
set_option linter.unusedSimpArgs false
set_option maxRecDepth 10000

/-! ### The rounds, with a look at the whole diagonal behind each -/
def refRounds (n : Nat) : Nat → Nat → Mat → Option Mat
  | 0, _, m => some m
  | c + 1, k, m => if diagOk n (roundW n k m) then refRounds n c (k + 1) (roundW n k m) else none

theorem refRounds_eq {n : Nat} : ∀ (c k : Nat) (m : Mat), Sq n m → k + (c + 1) = n → refRounds n (c + 1) k m = (match roundsW n (c + 1) k m with | some m' => if diagOk n m' then some m' else none | none => none) := by
  intro c
  induction c with
  | zero =>
    intro k m hm hk
    have h1 := hm.roundW k
    unfold refRounds roundsW
    cases hd : diagOk n (roundW n k m) with
    | true =>
      have := diagOk_iff.1 hd k (by omega)
      rw [if_neg (show ¬ at2 (roundW n k m) k k < 0 by omega)]
      simp [refRounds, roundsW, hd]
    | false =>
      simp only [Bool.false_eq_true, if_false]
      by_cases hk0 : at2 (roundW n k m) k k < 0
      · rw [if_pos hk0]
      · rw [if_neg hk0]
        simp [roundsW, hd]
  | succ c ih =>
    intro k m hm hk
    have h1 := hm.roundW k
    have e : roundsW n (c + 1 + 1) k m = if at2 (roundW n k m) k k < 0 then none else roundsW n (c + 1) (k + 1) (roundW n k m) := rfl
    have e' : refRounds n (c + 1 + 1) k m = if diagOk n (roundW n k m) then refRounds n (c + 1) (k + 1) (roundW n k m) else none := rfl
    rw [e, e']
    cases hd : diagOk n (roundW n k m) with
    | true =>
      have := diagOk_iff.1 hd k (by omega)
      rw [if_neg (show ¬ at2 (roundW n k m) k k < 0 by omega), if_pos rfl]
      exact ih (k + 1) _ h1 (by omega)
    | false =>
      rw [if_neg (by simp)]
      split
      · rename_i m' heq
        split at heq
        · cases heq
        · have hle := rounds_le (c + 1) (k + 1) _ m' h1 heq
          have hd' : diagOk n m' = false := by
            cases hx : diagOk n m' with
            | false => rfl
            | true =>
              have : diagOk n (roundW n k m) = true := diagOk_iff.2 (fun i hi => by
                have := diagOk_iff.1 hx i hi
                have := hle i i hi hi
                omega)
              rw [hd] at this
              cases this
          rw [hd']
          rfl
      · rfl

/-! ### The beginning -/
def initM (n : Nat) : Mat := (List.range n).map fun i => (List.replicate n BIG).set i 0
theorem initM_sq (n : Nat) : Sq n (initM n) := by
  refine ⟨by simp [initM], fun i hi => ?_⟩
  simp [initM, List.getD, hi]
theorem initM_at {n i j : Nat} (hi : i < n) (hj : j < n) : at2 (initM n) i j = if i = j then 0 else 1099511627776 := by
  unfold at2 initM
  have : ((List.range n).map fun i => (List.replicate n BIG).set i 0).getD i [] = (List.replicate n BIG).set i 0 := by simp [List.getD, hi]
  rw [this]
  by_cases h : i = j
  · rw [if_pos h, ← h, getD_set_eq (by simp; exact hi)]
  · rw [if_neg h, getD_set_ne h]
    simp [List.getD, hj]

def noSelf (l : List Diff) : Prop := ∀ d ∈ l, d.1.toNat ≠ d.2.1.toNat

theorem fold_put_sq {n : Nat} (l : List Diff) {m : Mat} (hm : Sq n m) : Sq n (l.foldl putW m) := fold_inv (Sq n) _ (fun m d h => h.putW d) _ _ hm

theorem start_init {n : Nat} {l : List Diff} (ho : l.all (diffOk n) = true) (hs : noSelf l) : l.foldl putW (initM n) = startW n l := by
  refine mat_ext (fold_put_sq l (initM_sq n)) (directW_sq n l).diagW (fun i j hi hj => ?_)
  have g1 := direct_glb l ho (initM n) (initM_sq n) i j
  have g2 := start_glb ho hi hj
  have key : ∀ v, v ≤ at2 (l.foldl putW (initM n)) i j ↔ v ≤ at2 (startW n l) i j := by
    intro v
    rw [g1 v, g2 v, initM_at hi hj]
    by_cases h : i = j
    · rw [if_pos h]
      constructor
      · intro hv
        exact ⟨by omega, hv.2, fun _ => hv.1⟩
      · intro hv
        exact ⟨hv.2.2 h, hv.2.1⟩
    · rw [if_neg h]
      constructor
      · intro hv
        exact ⟨hv.1, hv.2, fun e => absurd e h⟩
      · intro hv
        exact ⟨hv.1, hv.2.1⟩
  exact Int.le_antisymm ((key _).1 (Int.le_refl _)) ((key _).2 (Int.le_refl _))

/-- No entry is beyond BIG. -/
def Cap (n : Nat) (m : Mat) : Prop := ∀ i j, i < n → j < n → at2 m i j ≤ 1099511627776
theorem Cap.le {n : Nat} {m m' : Mat} (h : Cap n m) (hl : Le n m' m) : Cap n m' := fun i j hi hj => Int.le_trans (hl i j hi hj) (h i j hi hj)
theorem Cap.relax {n : Nat} {m : Mat} (h : Cap n m) (hm : Sq n m) {k i j : Nat} (hi : i < n) (hj : j < n) : Cap n (relaxW k i j m) := h.le (relax_le hm hi hj)
theorem start_cap {n : Nat} {l : List Diff} (ho : l.all (diffOk n) = true) : Cap n (startW n l) := fun i j hi hj => ((start_glb ho hi hj _).1 (Int.le_refl _)).1

section
variable {β : Type}
theorem cap_rowW {n k i : Nat} {m : Mat} (hm : Sq n m) (hc : Cap n m) (hi : i < n) : Cap n (rowW n k i m) := by
  unfold rowW
  have key : ∀ (l : List Nat) (m : Mat), (∀ j ∈ l, j < n) → Sq n m → Cap n m → Cap n (l.foldl (fun m j => relaxW k i j m) m) := by
    intro l
    induction l with
    | nil => intro m _ _ hc; exact hc
    | cons x l ih => intro m hl hm hc; exact ih _ (fun j hj => hl j (by simp [hj])) (hm.relaxW _ _ _) (hc.relax hm hi (hl x (by simp)))
  exact key _ _ (fun j hj => List.mem_range.1 hj) hm hc

theorem cap_roundW {n k : Nat} {m : Mat} (hm : Sq n m) (hc : Cap n m) : Cap n (roundW n k m) := by
  unfold roundW
  have key : ∀ (l : List Nat) (m : Mat), (∀ j ∈ l, j < n) → Sq n m → Cap n m → Cap n (l.foldl (fun m i => rowW n k i m) m) := by
    intro l
    induction l with
    | nil => intro m _ _ hc; exact hc
    | cons x l ih => intro m hl hm hc; exact ih _ (fun j hj => hl j (by simp [hj])) (hm.rowW _ _) (cap_rowW hm hc (hl x (by simp)))
  exact key _ _ (fun j hj => List.mem_range.1 hj) hm hc

end
end
end Go.Lift

/- order.Fits, order.Allows in plain Lean. -/
namespace Go.Lift
open Go.RowKit Go.IntWalk
noncomputable section
set_option linter.unusedVariables false
set_option linter.unusedSimpArgs false
set_option maxRecDepth 10000

/-- A loop that looks for an element. -/
theorem any_loop {β α : Type} (F : Nat → Int → Option β) (p : α → Bool) (KT KF : Option β) (d : α) (xs : List α) (n : Nat) (hn : xs.length < n)
    (h1 : ∀ (m i : Nat), i < xs.length → F (m + 1) (i : Int) = cond (p (xs.getD i d)) KT (F m ((i : Int) + 1)))
    (h2 : ∀ (m : Nat), F (m + 1) (xs.length : Int) = KF) : F n 0 = cond (xs.any p) KT KF := by
  have h := check_loop F (fun x => !p x) KT KF d xs n hn (fun m i hi => by rw [h1 m i hi]; cases p (xs.getD i d) <;> rfl) h2
  rw [h]
  have : xs.all (fun x => !p x) = !xs.any p := by
    rw [List.all_eq_not_any_not]
    simp
  rw [this]
  cases xs.any p <;> rfl

section
variable {β : Type}
def instB (t : Int) : Bool := inN t 0 8589934592
def bigB (t : Int) : Bool := inN t (-1099511627776) 1099511627776

def brokenW (x : List Int) (d : Diff) : Bool := decide (d.2.2 < x.getD d.2.1.toNat 0 - x.getD d.1.toNat 0)

/-- What Fits says. -/
def fitsW (r : Rec) (times : List Int) : Bool := (closedW r).isSome && (decide (times.length = nE r) && (times.all instB && !(consL r).any (brokenW (0 :: times))))

theorem consW_of_closed {r : Rec} {m : Mat} (e : closedW r = some m) : valid r = true ∧ whensOk r = true ∧ consW r = some (consL r) := by
  unfold closedW at e
  cases hc : consW r with
  | none => rw [hc] at e; cases e
  | some l =>
    have hc' := hc
    unfold consW at hc'
    by_cases hh : (valid r && whensOk r) = true
    · rw [if_pos hh] at hc'
      rw [Bool.and_eq_true] at hh
      cases hc'
      exact ⟨hh.1, hh.2, rfl⟩
    · rw [if_neg hh] at hc'
      cases hc'

/-! ### Allows -/
theorem contains_eq (l : List Int) (hl : l.length ≤ 100000) (v : Int) (k : Bool → Option β) : zq8y l v k = k (l.any fun x => decide (v = x)) := by
  unfold zq8y zq8v zq5j zq5c zq5h
  refine (any_loop (fun f j => zq5f f (fun (t4 : Int) => k (decide ((0 : Int) ≤ t4))) (fun _ => k (decide ((0 : Int) ≤ -1))) l v (l.length : Int) j) (fun x => decide (v = x)) (k true) (k false) (0 : Int) l fuel (lt_fuel (by omega))
    (fun f j hj => ?_) (fun f => ?_)).trans ?_
  · have e1 : IntKind.i64.wrap ((j : Int) + 1) = j + 1 := i64_in _ (by omega)
    rw [zq5g]
    unfold zq59
    refine (c_pos (by omega)).trans ?_
    refine (c_inb (by omega)).trans ?_
    simp only [Int.toNat_natCast, e1]
    rw [decide_eq_true (show (0 : Int) ≤ j by omega)]
  · rw [zq5g]
    unfold zq59
    exact c_neg (by omega)
  · cases l.any fun x => decide (v = x) <;> rfl

theorem anyAllows {n : Nat} {m : Mat} (h : MatB n m) (l : List Int) (hl : l.length ≤ 100000) (ho : ∀ y ∈ l, 0 ≤ y ∧ y < n) {x : Int} (hx : 0 ≤ x ∧ x < n) (k : Bool → Mat → Int → Option β) :
    zqku l m x k = k (l.any fun y => bef m x.toNat y.toNat) m x := by
  unfold zqku zqkr zqkn zqkg zqkl
  refine (any_loop (fun f j => zqkj f (fun (t4 : Int) m x => k (decide ((0 : Int) ≤ t4)) m x) (fun m x => k (decide ((0 : Int) ≤ -1)) m x) l (l.length : Int) j m x) (fun y => bef m x.toNat y.toNat) (k true m x) (k false m x) (0 : Int) l fuel (lt_fuel (by omega))
    (fun f j hj => ?_) (fun f => ?_)).trans ?_
  · have e1 : IntKind.i64.wrap ((j : Int) + 1) = j + 1 := i64_in _ (by omega)
    have hy := ho _ (getD_mem (d := (0 : Int)) hj)
    rw [zqkk]
    unfold zqkd
    refine (c_pos (by omega)).trans ?_
    refine (c_inb (by omega)).trans ?_
    simp only [Int.toNat_natCast, e1]
    generalize l.getD j (0 : Int) = y at hy
    unfold zq3w zq3t
    have hb := before_eq h (a := x.toNat) (b := y.toNat) (by omega) (by omega) (β := β)
    rw [show ((x.toNat : Nat) : Int) = x by omega, show ((y.toNat : Nat) : Int) = y by omega] at hb
    refine (hb _).trans ?_
    rw [decide_eq_true (show (0 : Int) ≤ j by omega)]
  · rw [zqkk]
    unfold zqkd
    exact c_neg (by omega)
  · cases l.any fun y => bef m x.toNat y.toNat <;> rfl

/-- The test of one place of an order. -/
def placeOk (n : Nat) (m : Mat) (l : List Int) (i : Nat) : Bool :=
  inN (l.getD i 0) 0 ((n : Int) - 1) && !((l.take i).any fun x => decide (l.getD i 0 = x)) && !((l.take i).any fun y => bef m (l.getD i 0).toNat y.toNat)
def allowsW (n : Nat) (m : Mat) (l : List Int) : Bool := decide (l.length = n) && (List.range n).all (placeOk n m l)

/-- Places ahead of a place that is looked at are right. -/
theorem allows_loop {n : Nat} {m : Mat} (h : MatB n m) (k1 : zqky β) (k2 : zqkz β) (l : List Int) (hl : l.length = n) :
    zqlb k1 k2 l l (l.length : Int) 0 m = cond ((List.range n).all (placeOk n m l)) (k2 ()) (k1 false) := by
  have hs := h.small
  have key := range_check (σ := Unit) n (fun i _ => ∀ y ∈ l.take i, 0 ≤ y ∧ y < n) (fun f j _ => zql9 f k1 k2 l l (l.length : Int) j m) (placeOk n m l) (fun s _ => s) (k1 false) (fun _ => k2 ()) () fuel (lt_fuel (by omega)) (fun j hj => by simp at hj)
    (fun i s hi hs hp => by
      intro y hy
      rw [List.take_succ_eq_append_getElem (by omega), List.mem_append] at hy
      rcases hy with hy | hy
      · exact hs y hy
      · simp only [List.mem_cons, List.not_mem_nil, or_false] at hy
        unfold placeOk at hp
        rw [Bool.and_eq_true, Bool.and_eq_true] at hp
        have := inN_iff.1 hp.1.1
        have e : l.getD i 0 = l[i] := by simp [List.getD, show i < l.length by omega]
        rw [e] at this
        omega)
    (fun f i s hi hs' => by
      have e1 : IntKind.i64.wrap ((i : Int) + 1) = i + 1 := i64_in _ (by omega)
      have e2 : IntKind.i64.wrap ((l.length : Int) - 1) = (n : Int) - 1 := (i64_in _ (by omega)).trans (by omega)
      rw [zqla]
      unfold zql3
      refine (c_pos (by omega)).trans ?_
      refine (c_inb (by omega)).trans ?_
      simp only [Int.toNat_natCast, Int.toNat_zero, List.drop_zero, e1, e2]
      refine (oin_eq _ _ _ _).trans ?_
      unfold placeOk
      cases hin : inN (l.getD i 0) 0 ((n : Int) - 1) with
      | false => rfl
      | true =>
        have hb := inN_iff.1 hin
        simp only [Bool.not_true, cond_false, Bool.true_and]
        have ht : cond (decide ((0 : Int) ≤ 0) && (decide ((0 : Int) ≤ (i : Int)) && decide ((i : Int) ≤ (l.length : Int)))) = fun (a b : Option β) => a := by
          rw [decide_eq_true (show (0 : Int) ≤ 0 by omega), decide_eq_true (show (0 : Int) ≤ (i : Int) by omega), decide_eq_true (show (i : Int) ≤ (l.length : Int) by omega)]
          rfl
        simp only [ht]
        refine (contains_eq _ (by rw [List.length_take]; omega) _ _).trans ?_
        cases (l.take i).any fun x => decide (l.getD i 0 = x) with
        | true => rfl
        | false =>
          simp only [cond_false, Bool.not_false, Bool.true_and]
          refine (anyAllows h _ (by rw [List.length_take]; omega) hs' (by omega) _).trans ?_
          cases (l.take i).any fun y => bef m (l.getD i 0).toNat y.toNat <;> rfl)
    (fun f s hs => by
      rw [zqla]
      unfold zql3
      exact c_neg (by omega))
  unfold zqlb
  exact key

theorem Allows_eq {r : Rec} {m : Mat} (he : closedW r = some m) (h : MatB (nE r) m) (l : List Int) (k : Bool → Option β) : zqld r l k = k (allowsW (nE r) m l) := by
  unfold zqld zql6
  refine (closed_eq h.small _).trans ?_
  rw [he]
  simp only [Bool.not_true, cond_false]
  unfold allowsW
  by_cases hl : l.length = nE r
  · refine (c_npos (by unfold nE at hl; omega)).trans ?_
    refine (allows_loop h _ _ l hl).trans ?_
    rw [decide_eq_true hl]
    cases (List.range (nE r)).all (placeOk (nE r) m l) <;> rfl
  · refine (c_nneg (by unfold nE at hl; omega)).trans ?_
    rw [decide_eq_false hl]
    rfl
end
end
end Go.Lift

/- What is certain, and what the true times are. -/
namespace Go.Lift
open Go.RowKit Go.IntWalk
noncomputable section
set_option linter.unusedVariables false
set_option linter.unusedSimpArgs false
set_option maxRecDepth 10000

/-- A loop whose state is known at each round. -/
theorem range_state {β σ : Type} (n : Nat) (S : Nat → σ) (F : Nat → Int → σ → Option β) (K : Option β) (N : Nat) (hn : n < N)
    (h1 : ∀ (m i : Nat), i < n → F (m + 1) (i : Int) (S i) = F m ((i : Int) + 1) (S (i + 1)))
    (h2 : ∀ (m : Nat), F (m + 1) (n : Int) (S n) = K) : F N 0 (S 0) = K :=
  pass_loop n (fun m i => F m i (S i.toNat)) K N hn (fun m i hi => by
    have e : ((i : Int) + 1).toNat = i + 1 := by omega
    simp only [Int.toNat_natCast, e]
    exact h1 m i hi) (fun m => by simp only [Int.toNat_natCast]; exact h2 m)

/-- Times that fulfil all constraints break none. -/
theorem not_broken {r : Rec} (hv : valid r = true) {times : List Int} (s : SolR r (xOf times)) : (consL r).any (brokenW (0 :: times)) = false := by
  rw [List.any_eq_false]
  intro d hd
  have h := (sol_cons hv (xOf times)).2 s d hd
  have e : ∀ j, (0 :: times).getD j 0 = xOf times j := by
    intro j
    cases j with
    | zero => rfl
    | succ j => rw [xOf_succ]; rfl
  unfold brokenW
  rw [e, e, decide_eq_false (by omega)]
  simp

theorem RecOk.times_bd {n : Int} {r : Rec} {ahead times : List Int} (h : RecOk n r ahead times) {i : Nat} (hi : i < nE r) : 864000 ≤ times.getD i 0 ∧ times.getD i 0 < 864300 := by
  have := h.evOk hi
  exact ⟨this.2.2.1, this.2.2.2.1⟩

theorem RecOk.fits {n : Int} {r : Rec} {ahead times : List Int} (h : RecOk n r ahead times) (hn : n ≤ 7) {m : Mat} (hm : ClosedR r m) : fitsW r times = true := by
  have hl : times.length = nE r := h.lenE
  unfold fitsW
  rw [hm.eq, not_broken hm.valid (h.solR (by omega)), decide_eq_true hl]
  simp only [Option.isSome_some, Bool.true_and, Bool.not_false, Bool.and_true, List.all_eq_true]
  intro t ht
  obtain ⟨i, hi, rfl⟩ := List.getElem_of_mem ht
  have := h.times_bd (i := i) (by omega)
  have e : times.getD i 0 = times[i] := by simp [List.getD, hi]
  rw [e] at this
  exact inN_mk (by omega)

section
variable {β : Type} {n : Int} {r : Rec} {ahead times : List Int}

/-- The true gap is in its range. -/
theorem ClosedR.gap {r : Rec} {m : Mat} (hm : ClosedR r m) {x : Nat → Int} (s : SolR r x) {a b : Nat} (ha : a < nE r) (hb : b < nE r) : (gapN m a b).1 ≤ x (b + 1) - x (a + 1) ∧ x (b + 1) - x (a + 1) ≤ (gapN m a b).2 := by
  have h1 := hm.sol s (i := b + 1) (j := a + 1) (by omega) (by omega)
  have h2 := hm.sol s (i := a + 1) (j := b + 1) (by omega) (by omega)
  unfold gapN
  simp only
  omega

theorem ClosedR.bef {r : Rec} {m : Mat} (hm : ClosedR r m) {a b : Nat} (ha : a < nE r) (hb : b < nE r) : bef m a b = true ↔ ∀ x, SolR r x → x (a + 1) < x (b + 1) := by
  unfold Go.Lift.bef
  rw [decide_eq_true_iff, hm.le_iff (i := b + 1) (j := a + 1) (by omega) (by omega)]
  constructor
  · intro h x s
    have := h x s
    omega
  · intro h x s
    have := h x s
    omega

theorem ClosedR.bef_asymm {r : Rec} {m : Mat} (hm : ClosedR r m) {a b : Nat} (ha : a < nE r) (hb : b < nE r) (h : Go.Lift.bef m a b = true) : Go.Lift.bef m b a = false := by
  cases e : Go.Lift.bef m b a with
  | false => rfl
  | true =>
    have h1 := (hm.bef ha hb).1 h _ (hm.row (i := 0) (by omega))
    have h2 := (hm.bef hb ha).1 e _ (hm.row (i := 0) (by omega))
    omega

theorem cmpN_before {m : Mat} {a b : Nat} : cmpN m a b = -1 ↔ bef m a b = true := by
  unfold cmpN
  cases bef m a b <;> cases bef m b a <;> simp

theorem cmpN_cases (m : Mat) (a b : Nat) : cmpN m a b = -1 ∨ cmpN m a b = 0 ∨ cmpN m a b = 1 := by
  unfold cmpN
  cases bef m a b <;> cases bef m b a <;> simp

theorem ClosedR.cmp_after {r : Rec} {m : Mat} (hm : ClosedR r m) {a b : Nat} (ha : a < nE r) (hb : b < nE r) : cmpN m a b = 1 ↔ Go.Lift.bef m b a = true := by
  unfold cmpN
  cases h1 : Go.Lift.bef m a b with
  | true => rw [hm.bef_asymm ha hb h1]; simp
  | false => cases Go.Lift.bef m b a <;> simp

theorem ClosedR.cmp_open {r : Rec} {m : Mat} (hm : ClosedR r m) {a b : Nat} (ha : a < nE r) (hb : b < nE r) : cmpN m a b = 0 ↔ opn m a b = true := by
  unfold cmpN opn
  cases Go.Lift.bef m a b <;> cases Go.Lift.bef m b a <;> simp

theorem ClosedR.cmp_neg {r : Rec} {m : Mat} (hm : ClosedR r m) {a b : Nat} (ha : a < nE r) (hb : b < nE r) : cmpN m b a = -cmpN m a b := by
  unfold cmpN
  cases h1 : Go.Lift.bef m a b with
  | true => rw [hm.bef_asymm ha hb h1]; simp
  | false => cases Go.Lift.bef m b a <;> simp

theorem whensN_getD {n : Nat} {m : Mat} {i : Nat} (hi : i < n) : (whensN n m).getD i ((0 : Int), (0 : Int)) = rangeN m i := by
  unfold whensN
  simp [List.getD, hi]

theorem ClosedR.range {r : Rec} {m : Mat} (hm : ClosedR r m) {x : Nat → Int} (s : SolR r x) (h0 : x 0 = 0) {i : Nat} (hi : i < nE r) : (rangeN m i).1 ≤ x (i + 1) ∧ x (i + 1) ≤ (rangeN m i).2 := by
  have h1 := hm.sol s (i := i + 1) (j := 0) (by omega) (by omega)
  have h2 := hm.sol s (i := 0) (j := i + 1) (by omega) (by omega)
  unfold rangeN
  simp only
  omega

theorem ClosedR.bef_trans {m : Mat} (hm : ClosedR r m) {a b c : Nat} (ha : a < nE r) (hb : b < nE r) (hc : c < nE r) (h1 : Go.Lift.bef m a b = true) (h2 : Go.Lift.bef m b c = true) : Go.Lift.bef m a c = true := by
  rw [hm.bef ha hc]
  intro x s
  have := (hm.bef ha hb).1 h1 x s
  have := (hm.bef hb hc).1 h2 x s
  omega

/-- Readings of one clock that are two seconds apart. -/
theorem ClosedR.far {m : Mat} (hm : ClosedR r m) {i k : Nat} (hi : i < nE r) (hk : k < nE r) (hh : (evAt r i).1 = (evAt r k).1) (hc : (evAt r i).2.1 + 2 ≤ (evAt r k).2.1) : Go.Lift.bef m i k = true := by
  rw [hm.bef hi hk]
  intro x s
  have h1 := (s.pair i k hi hk (by intro h; subst h; omega) hh (by omega)).1
  have e1 := valid_ev hm.valid hi
  have e2 := valid_ev hm.valid hk
  have hd : 0 ≤ driftAt r (evAt r i).1 ∧ driftAt r (evAt r i).1 ≤ 500000 := by
    have := (valid_parts hm.valid).1 _ (getD_mem (l := r.1) (i := (evAt r i).1.toNat) (d := ([], 0)) (by omega))
    exact this
  have h2 : 1 ≤ (elapsed (driftAt r (evAt r i).1) ((evAt r k).2.1 - (evAt r i).2.1)).1 := by
    unfold elapsed
    rw [inN_mk hd, inN_mk (by omega)]
    simp only [Bool.and_self, cond_true]
    rw [Int.le_ediv_iff_mul_le (by omega)]
    omega
  omega

end
end
end Go.Lift

/- Records that are changed in their links. -/
namespace Go.Lift
open Go.RowKit Go.IntWalk
noncomputable section
set_option linter.unusedVariables false
set_option linter.unusedSimpArgs false
set_option maxRecDepth 10000

theorem c_beq {β : Type} {a b : Bool} {x y : Option β} (h : a = b) : cond (a == b) x y = x := by subst h; cases a <;> rfl
theorem c_nbeq {β : Type} {a b : Bool} {x y : Option β} (h : a = b) : cond (!(a == b)) x y = y := by subst h; cases a <;> rfl

theorem valid_mk {r : Rec} (h0 : r.1.length ≤ 8) (h1 : r.2.1.length ≤ 64) (h2 : r.2.2.1.length ≤ 40) (h3 : r.2.2.2.length ≤ 64) (h4 : ∀ h ∈ r.1, 0 ≤ h.2 ∧ h.2 ≤ 500000)
    (h5 : ∀ s ∈ r.2.1, 0 ≤ s.1 ∧ s.1 < r.1.length ∧ okSync s = true) (h6 : ∀ e ∈ r.2.2.1, 0 ≤ e.1 ∧ e.1 < r.1.length ∧ 0 ≤ e.2.1 ∧ e.2.1 ≤ 8589934592)
    (h7 : ∀ l ∈ r.2.2.2, 0 ≤ l.1 ∧ l.1 < nE r ∧ 0 ≤ l.2.1 ∧ l.2.1 < nE r ∧ l.1 ≠ l.2.1 ∧ 0 ≤ l.2.2 ∧ l.2.2 ≤ 8589934592) : valid r = true := by
  unfold valid small
  simp only [Bool.and_eq_true, List.all_eq_true, Bool.not_eq_true', decide_eq_false_iff_not]
  refine ⟨⟨by omega, by omega, by omega, by omega⟩, fun x hx => inN_mk (h4 x hx), fun x hx => ?_, fun x hx => ?_, fun x hx => ?_⟩
  · have := h5 x hx
    simp only [vSync, Bool.and_eq_true, inN_iff]
    exact ⟨by omega, this.2.2⟩
  · have := h6 x hx
    simp only [vEvent, Bool.and_eq_true, inN_iff]
    omega
  · have := h7 x hx
    unfold nE at this
    simp only [vLink, Bool.and_eq_true, inN_iff, Bool.not_eq_true', decide_eq_false_iff_not]
    omega

def withLinks (r : Rec) (l : List Link) : Rec := (r.1, r.2.1, r.2.2.1, l)
theorem nE_withLinks (r : Rec) (l : List Link) : nE (withLinks r l) = nE r := rfl
theorem valid_withLinks {r : Rec} (hv : valid r = true) {l : List Link} (hl : l.length ≤ 64) (h : ∀ x ∈ l, 0 ≤ x.1 ∧ x.1 < nE r ∧ 0 ≤ x.2.1 ∧ x.2.1 < nE r ∧ x.1 ≠ x.2.1 ∧ 0 ≤ x.2.2 ∧ x.2.2 ≤ 8589934592) : valid (withLinks r l) = true := by
  have hb := valid_bd hv
  have hp := valid_parts hv
  exact valid_mk hb.1 hb.2.1 hb.2.2.1 hl hp.1 hp.2.1 hp.2.2.1 h

theorem whenAt_withLinks {r : Rec} (hv : valid r = true) {l : List Link} (hv' : valid (withLinks r l) = true) (i : Nat) : whenAt (withLinks r l) i = whenAt r i := by
  unfold whenAt Go.Lift.when?
  rw [hv, hv']
  rfl

theorem whens_withLinks {r : Rec} (hv : valid r = true) {l : List Link} (hv' : valid (withLinks r l) = true) : whensOk (withLinks r l) = whensOk r := by
  unfold whensOk
  rw [nE_withLinks]
  congr 1
  funext i
  rw [whenAt_withLinks hv hv']

theorem sol_withLinks {r : Rec} (hv : valid r = true) {l : List Link} (hv' : valid (withLinks r (r.2.2.2 ++ l)) = true) (x : Nat → Int) :
    SolR (withLinks r (r.2.2.2 ++ l)) x ↔ SolR r x ∧ ∀ y ∈ l, y.2.2 ≤ x (y.2.1.toNat + 1) - x (y.1.toNat + 1) := by
  constructor
  · intro s
    refine ⟨⟨fun i hi => ?_, s.pair, fun y hy => s.link y (List.mem_append_left _ hy)⟩, fun y hy => s.link y (List.mem_append_right _ hy)⟩
    rw [← whenAt_withLinks hv hv']
    exact s.ev i hi
  · rintro ⟨s, h⟩
    refine ⟨fun i hi => ?_, s.pair, fun y hy => ?_⟩
    · rw [whenAt_withLinks hv hv']
      exact s.ev i hi
    · rcases List.mem_append.1 hy with hy | hy
      · exact s.link y hy
      · exact h y hy

theorem consistent_iff {r : Rec} (hv : valid r = true) (hw : whensOk r = true) (hn : nE r ≤ 7) : (closedW r).isSome = true ↔ ∃ x, SolR r x := by
  constructor
  · intro h
    obtain ⟨m, e⟩ := Option.isSome_iff_exists.1 h
    exact ⟨_, (closed_ok hn e).row (i := 0) (by omega)⟩
  · rintro ⟨x, s⟩
    obtain ⟨m, h⟩ := closed_some hv hw hn s
    rw [h.eq]
    rfl

/-- One more link, of no length. -/
theorem ClosedR.linked {r : Rec} {m : Mat} (hm : ClosedR r m) (hn : nE r ≤ 7) (hl : r.2.2.2.length ≤ 63) {a b : Nat} (ha : a < nE r) (hb : b < nE r) (hab : a ≠ b) :
    (closedW (withLinks r (r.2.2.2 ++ [((a : Int), ((b : Int), (0 : Int)))]))).isSome = !Go.Lift.bef m b a := by
  have hv' : Go.Lift.valid (withLinks r (r.2.2.2 ++ [((a : Int), ((b : Int), (0 : Int)))])) = true := by
    refine valid_withLinks hm.valid (by simp; omega) (fun x hx => ?_)
    rcases List.mem_append.1 hx with hx | hx
    · exact (valid_parts hm.valid).2.2.2 x hx
    · simp only [List.mem_cons, List.not_mem_nil, or_false] at hx
      subst hx
      simp only
      omega
  have hw' := whens_withLinks hm.valid hv'
  rw [hm.whens] at hw'
  rw [Bool.eq_iff_iff, consistent_iff hv' hw' hn]
  constructor
  · rintro ⟨x, s⟩
    obtain ⟨s1, s2⟩ := (sol_withLinks hm.valid hv' x).1 s
    have h2 := s2 _ (List.mem_cons_self ..)
    simp only [Int.toNat_natCast] at h2
    cases hb' : Go.Lift.bef m b a with
    | false => rfl
    | true =>
      have := (hm.bef hb ha).1 hb' x s1
      omega
  · intro h
    refine ⟨fun j => at2 m (a + 1) j, (sol_withLinks hm.valid hv' _).2 ⟨hm.row (by omega), fun y hy => ?_⟩⟩
    simp only [List.mem_cons, List.not_mem_nil, or_false] at hy
    subst hy
    simp only [Int.toNat_natCast]
    have z := hm.ok.zero (a + 1) (by omega)
    have h1 : ¬ at2 m (a + 1) (b + 1) ≤ -1 := by
      intro h1
      unfold Go.Lift.bef at h
      rw [decide_eq_true h1] at h
      cases h
    omega

theorem opn_comm (m : Mat) (a b : Nat) : opn m a b = opn m b a := Bool.and_comm _ _

theorem mem_openW {n : Nat} {m : Mat} {p : Int × Int} : p ∈ openW n m ↔ ∃ a b : Nat, a < b ∧ b < n ∧ opn m a b = true ∧ p = ((a : Int), (b : Int)) := by
  unfold openW openL
  simp only [List.mem_flatMap, List.mem_range, List.mem_map, List.mem_filter, List.mem_range'_1]
  constructor
  · rintro ⟨a, ha, b, ⟨hb, ho⟩, rfl⟩
    exact ⟨a, b, by omega, by omega, ho, rfl⟩
  · rintro ⟨a, b, h1, h2, ho, rfl⟩
    exact ⟨a, by omega, b, ⟨by omega, ho⟩, rfl⟩

theorem openW_any {n : Nat} {m : Mat} {a b : Nat} (ha : a < n) (hb : b < n) (hab : a ≠ b) :
    (openW n m).any (fun p => decide (p.1 = (if (b : Int) < a then (b : Int) else a)) && (decide (p.2 = (if (b : Int) > a then (b : Int) else a)) && true)) = opn m a b := by
  rw [Bool.eq_iff_iff, List.any_eq_true]
  constructor
  · rintro ⟨p, hp, h⟩
    obtain ⟨c, d, h1, h2, ho, rfl⟩ := mem_openW.1 hp
    simp only [Bool.and_true, Bool.and_eq_true, decide_eq_true_eq] at h
    by_cases hlt : b < a
    · rw [if_pos (by omega), if_neg (by omega)] at h
      have e1 : c = b := by omega
      have e2 : d = a := by omega
      rw [opn_comm, ← e1, ← e2]
      exact ho
    · rw [if_neg (by omega), if_pos (by omega)] at h
      have e1 : c = a := by omega
      have e2 : d = b := by omega
      rw [← e1, ← e2]
      exact ho
  · intro ho
    by_cases hlt : b < a
    · refine ⟨((b : Int), (a : Int)), mem_openW.2 ⟨b, a, hlt, ha, by rw [opn_comm]; exact ho, rfl⟩, ?_⟩
      rw [if_pos (by omega), if_neg (by omega)]
      simp
    · refine ⟨((a : Int), (b : Int)), mem_openW.2 ⟨a, b, by omega, hb, ho, rfl⟩, ?_⟩
      rw [if_neg (by omega), if_pos (by omega)]
      simp
theorem openW_len (n : Nat) (m : Mat) : (openW n m).length ≤ n * n := by
  have h := flat_len (openL n m) n (List.range n) (fun a _ => openL_len n m a)
  rw [List.length_range] at h
  exact h
end
end Go.Lift

/- Loops with an invariant; any comparison of any record. -/
namespace Go.Lift
open Go.RowKit Go.IntWalk
noncomputable section
set_option linter.unusedVariables false
set_option linter.unusedSimpArgs false
set_option maxRecDepth 10000

theorem whenAt_eq {r : Rec} (hv : valid r = true) {i : Nat} (hi : i < nE r) : whenAt r i = (whenR r (evAt r i).1 (evAt r i).2.1, !decide ((whenR r (evAt r i).1 (evAt r i).2.1).2 < (whenR r (evAt r i).1 (evAt r i).2.1).1)) := by
  have := valid_ev hv hi
  unfold whenAt Go.Lift.when?
  rw [hv, inN_mk (by omega), inN_mk (by omega)]
  rfl

/-- A loop that keeps an invariant. -/
theorem range_ex {β σ : Type} (n : Nat) (I : Nat → σ → Prop) (F : Nat → Int → σ → Option β) (K : σ → Option β) (s : σ) (N : Nat) (hn : n < N) (h0 : I 0 s)
    (h1 : ∀ (i : Nat) s, i < n → I i s → ∃ s', I (i + 1) s' ∧ ∀ m, F (m + 1) (i : Int) s = F m ((i : Int) + 1) s')
    (h2 : ∀ (m : Nat) s, I n s → F (m + 1) (n : Int) s = K s) : ∃ s', I n s' ∧ F N 0 s = K s' := by
  have key : ∀ (c i N : Nat) (s : σ), i + c = n → c < N → I i s → ∃ s', I n s' ∧ F N (i : Int) s = K s' := by
    intro c
    induction c with
    | zero =>
      intro i N s hi hN hs
      obtain ⟨N, rfl⟩ : ∃ m, N = m + 1 := ⟨N - 1, by omega⟩
      obtain rfl : i = n := by omega
      exact ⟨s, hs, h2 N s hs⟩
    | succ c ih =>
      intro i N s hi hN hs
      obtain ⟨N, rfl⟩ : ∃ m, N = m + 1 := ⟨N - 1, by omega⟩
      obtain ⟨s', hs', e⟩ := h1 i s (by omega) hs
      obtain ⟨s'', h3, h4⟩ := ih (i + 1) N s' (by omega) (by omega) hs'
      exact ⟨s'', h3, (e N).trans h4⟩
  exact key n 0 N s (by omega) hn h0

section
variable {β : Type}
theorem When_any (r : Rec) (hn : nE r ≤ 7) : ∃ o l, ∀ (k : Bool → List (Int × Int) → Option β), zqgw r k = k o l := by
  cases he : closedW r with
  | none =>
    refine ⟨false, [], fun k => ?_⟩
    refine (When_eq (by omega) (fun m h => ?_) k).trans ?_
    · rw [he] at h
      cases h
    · rw [he]
  | some m => exact ⟨true, _, fun k => When_some he ((closed_ok hn he).matB hn) k⟩
end
end
end Go.Lift

