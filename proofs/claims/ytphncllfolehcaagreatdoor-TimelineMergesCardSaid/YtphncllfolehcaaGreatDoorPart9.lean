/- Part9: Fn1, Fn2, LBase, LMat. -/
import Derived.Test.YtphncllfolehcaaGreatDoorProg
import Derived.Test.YtphncllfolehcaaGreatDoorPart8
namespace Go.Lift
open Go.Proofs
noncomputable section
set_option maxRecDepth 100000
set_option linter.unusedVariables false

/-- pagewatch/pagewatchref40.Constraints -/
abbrev zqjc := {β : Type} → zq2 → (Bool → (List (Int × (Int × Int))) → Option β) → Option β
def zqjd (c : zqjc) : Spec :=
  ⟨[(true, [.data zq3])], [], [(false, [.rowh 0]), (false, [.data .bool])], [.row 122 (.prod (.int .i64) (.prod (.int .i64) (.int .i64)))], fun x k => c x.1.1.1 (fun r0 r1 => k (((), (r0, ()), ()), (r1, ())))⟩
noncomputable def ref40_Constraints_p1_code : Code := codeAt 122 (bodyOf Tryz.f36)
noncomputable def ref40_Constraints_p4_code : Code := codeAt 250 (bodyOf Tryz.f36)
noncomputable def ref40_Constraints_p5_code : Code := codeAt 506 (bodyOf Tryz.f36)
noncomputable def ref40_Constraints_p3_code : Code := codeAt 50 (loopBody ref40_Constraints_p4_code)
noncomputable def ref40_Constraints_p2_code : Code := codeAt 207 (loopBody ref40_Constraints_p3_code)
abbrev zqje (β : Type) := Bool → (List (Int × (Int × Int))) → Option β
abbrev zqjf (β : Type) := (List (List UInt8 × Int)) → (List (Int × (Int × (Int × Int)))) → (List zq0) → (List (Int × (Int × Int))) → (List (Int × (Int × Int))) → Option β
abbrev zqjg := {β : Type} → zqje β → zqjf β → Int → (List (List UInt8 × Int)) → (List (Int × (Int × (Int × Int)))) → (List zq0) → (List (Int × (Int × Int))) → (List (Int × (Int × Int))) → Option β
def zqjh : View := ⟨0, [1, 4, 5], [(false, [.ptr 0 0]), (false, [.rowh 1]), (false, [.data (.int .i64)])], [.cells 32 [.data (.slice (.prod .str (.int .i64))), .data (.slice (.prod (.int .i64) (.prod (.int .i64) (.prod (.int .i64) (.int .i64))))), .data (.slice zq1), .data (.slice (.prod (.int .i64) (.prod (.int .i64) (.int .i64))))], .row 122 (.prod (.int .i64) (.prod (.int .i64) (.int .i64)))]⟩
def zqji : List (AExit × View) := [(.ret, ⟨0, [2, 3], [(false, [.rowh 0]), (false, [.data .bool])], [.row 122 (.prod (.int .i64) (.prod (.int .i64) (.int .i64)))]⟩), (.exit 0, ⟨0, [1, 4], [(false, [.ptr 0 0]), (false, [.rowh 1])], [.cells 32 [.data (.slice (.prod .str (.int .i64))), .data (.slice (.prod (.int .i64) (.prod (.int .i64) (.prod (.int .i64) (.int .i64))))), .data (.slice zq1), .data (.slice (.prod (.int .i64) (.prod (.int .i64) (.int .i64))))], .row 122 (.prod (.int .i64) (.prod (.int .i64) (.int .i64)))]⟩)]
@[reducible] def ref40_Constraints_p1_G (p : zqjg) {β : Type} (d : zqjh.den) (ks : Outs.K β zqji) : Option β :=
  p (fun a0 a1 => ks.1 (((), (a0, ()), ()), (a1, ()))) (fun a0 a1 a2 a3 a4 => ks.2.1 (((), (), ()), ((a0, a1, a2, a3, ()), a4, ()))) d.1.2.2.1.1 d.2.1.1 d.2.1.2.1 d.2.1.2.2.1 d.2.1.2.2.2.1 d.2.2.1
abbrev zqjj (β : Type) := Int → Int → (List (List UInt8 × Int)) → (List (Int × (Int × (Int × Int)))) → (List zq0) → (List (Int × (Int × Int))) → (List (Int × (Int × Int))) → Option β
abbrev zqjk := {β : Type} → zqjj β → Int → Int → Int → Int → Int → (List (List UInt8 × Int)) → (List (Int × (Int × (Int × Int)))) → (List zq0) → (List (Int × (Int × Int))) → (List (Int × (Int × Int))) → Int → Int → (List UInt8) → Option β
def zqjl : View := ⟨0, [1, 4, 8, 9, 10, 12, 13, 14], [(false, [.ptr 0 0]), (false, [.rowh 1]), (false, [.data (.int .i64)]), (false, [.data (.int .i64)]), (false, [.ptr 2 0]), (false, [.data (.int .i64)]), (false, [.data (.int .i64)]), (false, [.data (.int .i64)])], [.cells 32 [.data (.slice (.prod .str (.int .i64))), .data (.slice (.prod (.int .i64) (.prod (.int .i64) (.prod (.int .i64) (.int .i64))))), .data (.slice zq1), .data (.slice (.prod (.int .i64) (.prod (.int .i64) (.int .i64))))], .row 122 (.prod (.int .i64) (.prod (.int .i64) (.int .i64))), .cells 60 [.data (.int .i64), .data (.int .i64), .data .str]]⟩
def zqjm : List (AExit × View) := [(.normal, ⟨0, [1, 4, 8, 9], [(false, [.ptr 0 0]), (false, [.rowh 1]), (false, [.data (.int .i64)]), (false, [.data (.int .i64)])], [.cells 32 [.data (.slice (.prod .str (.int .i64))), .data (.slice (.prod (.int .i64) (.prod (.int .i64) (.prod (.int .i64) (.int .i64))))), .data (.slice zq1), .data (.slice (.prod (.int .i64) (.prod (.int .i64) (.int .i64))))], .row 122 (.prod (.int .i64) (.prod (.int .i64) (.int .i64)))]⟩)]
@[reducible] def ref40_Constraints_p2_G (p : zqjk) {β : Type} (d : zqjl.den) (ks : Outs.K β zqjm) : Option β :=
  p (fun a0 a1 a2 a3 a4 a5 a6 => ks.1 (((), (), (a0, ()), (a1, ()), ()), ((a2, a3, a4, a5, ()), a6, ()))) d.1.2.2.1.1 d.1.2.2.2.1.1 d.1.2.2.2.2.2.1.1 d.1.2.2.2.2.2.2.1.1 d.1.2.2.2.2.2.2.2.1.1 d.2.1.1 d.2.1.2.1 d.2.1.2.2.1 d.2.1.2.2.2.1 d.2.2.1 d.2.2.2.1.1 d.2.2.2.1.2.1 d.2.2.2.1.2.2.1
abbrev zqjn (β : Type) := Int → (List (List UInt8 × Int)) → (List (Int × (Int × (Int × Int)))) → (List zq0) → (List (Int × (Int × Int))) → (List (Int × (Int × Int))) → Option β
abbrev zqjo := {β : Type} → zqjn β → Int → Int → (List (List UInt8 × Int)) → (List (Int × (Int × (Int × Int)))) → (List zq0) → (List (Int × (Int × Int))) → (List (Int × (Int × Int))) → Option β
def zqjp : View := ⟨0, [1, 4, 8, 9], [(false, [.ptr 0 0]), (false, [.rowh 1]), (false, [.data (.int .i64)]), (false, [.data (.int .i64)])], [.cells 32 [.data (.slice (.prod .str (.int .i64))), .data (.slice (.prod (.int .i64) (.prod (.int .i64) (.prod (.int .i64) (.int .i64))))), .data (.slice zq1), .data (.slice (.prod (.int .i64) (.prod (.int .i64) (.int .i64))))], .row 122 (.prod (.int .i64) (.prod (.int .i64) (.int .i64)))]⟩
def zqjq : List (AExit × View) := [(.exit 4, ⟨0, [1, 4, 8], [(false, [.ptr 0 0]), (false, [.rowh 1]), (false, [.data (.int .i64)])], [.cells 32 [.data (.slice (.prod .str (.int .i64))), .data (.slice (.prod (.int .i64) (.prod (.int .i64) (.prod (.int .i64) (.int .i64))))), .data (.slice zq1), .data (.slice (.prod (.int .i64) (.prod (.int .i64) (.int .i64))))], .row 122 (.prod (.int .i64) (.prod (.int .i64) (.int .i64)))]⟩)]
@[reducible] def ref40_Constraints_p3_G (p : zqjo) {β : Type} (d : zqjp.den) (ks : Outs.K β zqjq) : Option β :=
  p (fun a0 a1 a2 a3 a4 a5 => ks.1 (((), (), (a0, ()), ()), ((a1, a2, a3, a4, ()), a5, ()))) d.1.2.2.1.1 d.1.2.2.2.1.1 d.2.1.1 d.2.1.2.1 d.2.1.2.2.1 d.2.1.2.2.2.1 d.2.2.1
abbrev zqjr (β : Type) := (List (List UInt8 × Int)) → (List (Int × (Int × (Int × Int)))) → (List zq0) → (List (Int × (Int × Int))) → (List (Int × (Int × Int))) → Option β
abbrev zqjs := {β : Type} → zqjr β → Int → (List (List UInt8 × Int)) → (List (Int × (Int × (Int × Int)))) → (List zq0) → (List (Int × (Int × Int))) → (List (Int × (Int × Int))) → Option β
def zqjt : View := ⟨0, [1, 4, 8], [(false, [.ptr 0 0]), (false, [.rowh 1]), (false, [.data (.int .i64)])], [.cells 32 [.data (.slice (.prod .str (.int .i64))), .data (.slice (.prod (.int .i64) (.prod (.int .i64) (.prod (.int .i64) (.int .i64))))), .data (.slice zq1), .data (.slice (.prod (.int .i64) (.prod (.int .i64) (.int .i64))))], .row 122 (.prod (.int .i64) (.prod (.int .i64) (.int .i64)))]⟩
def zqju : List (AExit × View) := [(.exit 2, ⟨0, [1, 4], [(false, [.ptr 0 0]), (false, [.rowh 1])], [.cells 32 [.data (.slice (.prod .str (.int .i64))), .data (.slice (.prod (.int .i64) (.prod (.int .i64) (.prod (.int .i64) (.int .i64))))), .data (.slice zq1), .data (.slice (.prod (.int .i64) (.prod (.int .i64) (.int .i64))))], .row 122 (.prod (.int .i64) (.prod (.int .i64) (.int .i64)))]⟩)]
@[reducible] def ref40_Constraints_p4_G (p : zqjs) {β : Type} (d : zqjt.den) (ks : Outs.K β zqju) : Option β :=
  p (fun a0 a1 a2 a3 a4 => ks.1 (((), (), ()), ((a0, a1, a2, a3, ()), a4, ()))) d.1.2.2.1.1 d.2.1.1 d.2.1.2.1 d.2.1.2.2.1 d.2.1.2.2.2.1 d.2.2.1
abbrev zqjv (β : Type) := (List (Int × (Int × Int))) → Option β
abbrev zqjw := {β : Type} → zqjv β → Int → (List (List UInt8 × Int)) → (List (Int × (Int × (Int × Int)))) → (List zq0) → (List (Int × (Int × Int))) → (List (Int × (Int × Int))) → Option β
def zqjx : View := ⟨0, [1, 4, 17], [(false, [.ptr 0 0]), (false, [.rowh 1]), (false, [.data (.int .i64)])], [.cells 32 [.data (.slice (.prod .str (.int .i64))), .data (.slice (.prod (.int .i64) (.prod (.int .i64) (.prod (.int .i64) (.int .i64))))), .data (.slice zq1), .data (.slice (.prod (.int .i64) (.prod (.int .i64) (.int .i64))))], .row 122 (.prod (.int .i64) (.prod (.int .i64) (.int .i64)))]⟩
def zqjy : List (AExit × View) := [(.exit 6, ⟨0, [4], [(false, [.rowh 0])], [.row 122 (.prod (.int .i64) (.prod (.int .i64) (.int .i64)))]⟩)]
@[reducible] def ref40_Constraints_p5_G (p : zqjw) {β : Type} (d : zqjx.den) (ks : Outs.K β zqjy) : Option β :=
  p (fun a0 => ks.1 (((), ()), (a0, ()))) d.1.2.2.1.1 d.2.1.1 d.2.1.2.1 d.2.1.2.2.1 d.2.1.2.2.2.1 d.2.2.1
section
variable (c_ref38_Elapsed : zq6n) (c_ref38_Valid : zq54) (c_ref38_When : zqh4)
@[reducible] def ref40_Constraints_X : Ctx := ⟨look tab, pick1 [(64, .spec (zq6o c_ref38_Elapsed)), (62, .spec (zq55 c_ref38_Valid)), (63, .spec (zqh5 c_ref38_When))], false, false, false, false⟩
def zqjz {β : Type} (rec : Int → (List (List UInt8 × Int)) → (List (Int × (Int × (Int × Int)))) → (List zq0) → (List (Int × (Int × Int))) → (List (Int × (Int × Int))) → Option β) (k1 : zqje β) (k2 : zqjf β) (i_ : Int) (r_ : List (List UInt8 × Int)) (r_2 : List (Int × (Int × (Int × Int)))) (r_3 : List zq0) (r_4 : List (Int × (Int × Int))) (out : List (Int × (Int × Int))) : Option β :=
  cond (decide (i_ < (List.length r_3 : Int)))
  (cond (decide (0 ≤ i_) && decide (i_ < (List.length r_3 : Int)))
  (let e : zq0 := List.getD r_3 (Int.toNat i_) ((0 : Int), ((0 : Int), ([] : List UInt8)));
  cond (decide (0 ≤ i_) && decide (i_ < (List.length r_3 : Int)))
  (let e2 : zq0 := List.getD r_3 (Int.toNat i_) ((0 : Int), ((0 : Int), ([] : List UInt8)));
  c_ref38_When (r_, (r_2, (r_3, r_4))) e.1 e2.2.1 (fun (rWhen : (Int × Int)) (rWhen2 : Bool) =>
  cond (!rWhen2)
  (k1 false ([] : List (Int × (Int × Int))))
  (let l : List (Int × (Int × Int)) := ([((0 : Int), ((IntKind.i64.wrap (i_ + (1 : Int))), rWhen.2)), ((IntKind.i64.wrap (i_ + (1 : Int))), ((0 : Int), (IntKind.i64.wrap (0 - rWhen.1))))] : List (Int × (Int × Int)));
  cond (decide ((List.length out + List.length l) * 24 ≤ roomMax))
  (let l2 : List (Int × (Int × Int)) := (out ++ l);
  let i_2 : Int := (IntKind.i64.wrap (i_ + (1 : Int)));
  rec i_2 r_ r_2 r_3 r_4 l2)
  none)))
  none)
  none)
  (k2 r_ r_2 r_3 r_4 out)
def zqk0 {β : Type} : Nat → zqje β → zqjf β → Int → (List (List UInt8 × Int)) → (List (Int × (Int × (Int × Int)))) → (List zq0) → (List (Int × (Int × Int))) → (List (Int × (Int × Int))) → Option β
  | 0 => fun _ _ _ _ _ _ _ _ => none
  | i + 1 => fun k1 k2 i_ r_ r_2 r_3 r_4 out => zqjz c_ref38_When (zqk0 i k1 k2) k1 k2 i_ r_ r_2 r_3 r_4 out
theorem zqk1 (hΓ : ΓOk Tryz.prog (ref40_Constraints_X c_ref38_Elapsed c_ref38_Valid c_ref38_When).Γ) (i : Nat) : PieceOk Tryz.prog 164 0 ref40_Constraints_p1_code zqjh zqji (ref40_Constraints_p1_G (zqk0 c_ref38_When i)) := by
  rw [show ref40_Constraints_p1_code = .loop (loopBody ref40_Constraints_p1_code) by kernel_rfl]
  exact piece_loop (X := (ref40_Constraints_X c_ref38_Elapsed c_ref38_Valid c_ref38_When)) (p := 1) (Λ := pick1 []) (G := fun i => @fun β d ks => ref40_Constraints_p1_G (zqk0 c_ref38_When i) d ks) mixed tab_ok hΓ rfl (by kernel_rfl) CutsOk_nil (fun _ _ => rfl) (fun i => @fun β d ks r h => Eq.trans (b := ref40_Constraints_p1_G (zqk0 c_ref38_When (i + 1)) d ks) (by kernel_rfl) h) i
def zqk2 {β : Type} (k1 : zqjj β) (i_ : Int) (j : Int) (a : Int) (b : Int) (d : Int) (r_ : List (List UInt8 × Int)) (r_2 : List (Int × (Int × (Int × Int)))) (r_3 : List zq0) (r_4 : List (Int × (Int × Int))) (out : List (Int × (Int × Int))) (x : Int) (x2 : Int) (x3 : List UInt8) : Option β :=
  cond (decide (0 ≤ x) && decide (x < (List.length r_ : Int)))
  (let e : (List UInt8 × Int) := List.getD r_ (Int.toNat x) (([] : List UInt8), (0 : Int));
  c_ref38_Elapsed e.2 d (fun (rElapsed : Int) (rElapsed2 : Int) =>
  let l : List (Int × (Int × Int)) := ([(a, (b, rElapsed2)), (b, (a, (IntKind.i64.wrap (0 - rElapsed))))] : List (Int × (Int × Int)));
  cond (decide ((List.length out + List.length l) * 24 ≤ roomMax))
  (let l2 : List (Int × (Int × Int)) := (out ++ l);
  k1 i_ j r_ r_2 r_3 r_4 l2)
  none))
  none
def zqk3 {β : Type} (k1 : zqjj β) (i_ : Int) (j : Int) (a : Int) (b : Int) (d : Int) (r_ : List (List UInt8 × Int)) (r_2 : List (Int × (Int × (Int × Int)))) (r_3 : List zq0) (r_4 : List (Int × (Int × Int))) (out : List (Int × (Int × Int))) (x : Int) (x2 : Int) (x3 : List UInt8) : Option β := zqk2 c_ref38_Elapsed k1 i_ j a b d r_ r_2 r_3 r_4 out x x2 x3
theorem zqk4 (hΓ : ΓOk Tryz.prog (ref40_Constraints_X c_ref38_Elapsed c_ref38_Valid c_ref38_When).Γ) : PieceOk Tryz.prog 164 0 ref40_Constraints_p2_code zqjl zqjm (ref40_Constraints_p2_G (zqk3 c_ref38_Elapsed)) :=
  piece_exec (X := (ref40_Constraints_X c_ref38_Elapsed c_ref38_Valid c_ref38_When)) (p := 207) (Λ := pick1 []) mixed tab_ok hΓ (by kernel_rfl) CutsOk_nil (fun d ks r h => Eq.trans (b := ref40_Constraints_p2_G (zqk3 c_ref38_Elapsed) d ks) (by kernel_rfl) h)
def zqk5 (p2 : zqjk) {β : Type} (rec : Int → Int → (List (List UInt8 × Int)) → (List (Int × (Int × (Int × Int)))) → (List zq0) → (List (Int × (Int × Int))) → (List (Int × (Int × Int))) → Option β) (k1 : zqjn β) (i_ : Int) (j : Int) (r_ : List (List UInt8 × Int)) (r_2 : List (Int × (Int × (Int × Int)))) (r_3 : List zq0) (r_4 : List (Int × (Int × Int))) (out : List (Int × (Int × Int))) : Option β :=
  cond (decide (j < (List.length r_3 : Int)))
  (cond (decide (0 ≤ i_) && decide (i_ < (List.length r_3 : Int)))
  (let e : zq0 := List.getD r_3 (Int.toNat i_) ((0 : Int), ((0 : Int), ([] : List UInt8)));
  cond (decide (0 ≤ j) && decide (j < (List.length r_3 : Int)))
  (let e2 : zq0 := List.getD r_3 (Int.toNat j) ((0 : Int), ((0 : Int), ([] : List UInt8)));
  cond (!decide (e.1 = e2.1))
  (let j2 : Int := (IntKind.i64.wrap (j + (1 : Int)));
  rec i_ j2 r_ r_2 r_3 r_4 out)
  (let a : Int := (IntKind.i64.wrap (i_ + (1 : Int)));
  let b : Int := (IntKind.i64.wrap (j + (1 : Int)));
  let d : Int := (IntKind.i64.wrap (e2.2.1 - e.2.1));
  cond (decide (d < (0 : Int)))
  (let d2 : Int := (IntKind.i64.wrap (0 - d));
  p2 (fun (i_2 : Int) (j2 : Int) (r_5 : List (List UInt8 × Int)) (r_6 : List (Int × (Int × (Int × Int)))) (r_7 : List zq0) (r_8 : List (Int × (Int × Int))) (out2 : List (Int × (Int × Int))) =>
  let j3 : Int := (IntKind.i64.wrap (j2 + (1 : Int)));
  rec i_2 j3 r_5 r_6 r_7 r_8 out2) i_ j b a d2 r_ r_2 r_3 r_4 out e.1 e.2.1 e.2.2)
  (p2 (fun (i_2 : Int) (j2 : Int) (r_5 : List (List UInt8 × Int)) (r_6 : List (Int × (Int × (Int × Int)))) (r_7 : List zq0) (r_8 : List (Int × (Int × Int))) (out2 : List (Int × (Int × Int))) =>
  let j3 : Int := (IntKind.i64.wrap (j2 + (1 : Int)));
  rec i_2 j3 r_5 r_6 r_7 r_8 out2) i_ j a b d r_ r_2 r_3 r_4 out e.1 e.2.1 e.2.2)))
  none)
  none)
  (k1 i_ r_ r_2 r_3 r_4 out)
def zqk6 (p2 : zqjk) {β : Type} : Nat → zqjn β → Int → Int → (List (List UInt8 × Int)) → (List (Int × (Int × (Int × Int)))) → (List zq0) → (List (Int × (Int × Int))) → (List (Int × (Int × Int))) → Option β
  | 0 => fun _ _ _ _ _ _ _ _ => none
  | i + 1 => fun k1 i_ j r_ r_2 r_3 r_4 out => zqk5 p2 (zqk6 p2 i k1) k1 i_ j r_ r_2 r_3 r_4 out
theorem zqk7 (hΓ : ΓOk Tryz.prog (ref40_Constraints_X c_ref38_Elapsed c_ref38_Valid c_ref38_When).Γ) (p2 : zqjk) (hp2 : PieceOk Tryz.prog 164 0 ref40_Constraints_p2_code zqjl zqjm (ref40_Constraints_p2_G p2)) (i : Nat) : PieceOk Tryz.prog 164 0 ref40_Constraints_p3_code zqjp zqjq (ref40_Constraints_p3_G (zqk6 p2 i)) := by
  rw [show ref40_Constraints_p3_code = .loop (loopBody ref40_Constraints_p3_code) by kernel_rfl]
  exact piece_loop (X := (ref40_Constraints_X c_ref38_Elapsed c_ref38_Valid c_ref38_When)) (p := 1) (Λ := pick1 [(207, pieceCut zqjl zqjm (ref40_Constraints_p2_G p2))]) (G := fun i => @fun β d ks => ref40_Constraints_p3_G (zqk6 p2 i) d ks) mixed tab_ok hΓ rfl (by kernel_rfl) (CutsOk_cons (q := 207) (c' := ref40_Constraints_p2_code) (by kernel_rfl) rfl hp2 CutsOk_nil) (fun _ _ => rfl) (fun i => @fun β d ks r h => Eq.trans (b := ref40_Constraints_p3_G (zqk6 p2 (i + 1)) d ks) (by kernel_rfl) h) i
def zqk8 (p3 : zqjo) {β : Type} (rec : Int → (List (List UInt8 × Int)) → (List (Int × (Int × (Int × Int)))) → (List zq0) → (List (Int × (Int × Int))) → (List (Int × (Int × Int))) → Option β) (k1 : zqjr β) (i_ : Int) (r_ : List (List UInt8 × Int)) (r_2 : List (Int × (Int × (Int × Int)))) (r_3 : List zq0) (r_4 : List (Int × (Int × Int))) (out : List (Int × (Int × Int))) : Option β :=
  cond (decide (i_ < (List.length r_3 : Int)))
  (let j : Int := (IntKind.i64.wrap (i_ + (1 : Int)));
  p3 (fun (i_2 : Int) (r_5 : List (List UInt8 × Int)) (r_6 : List (Int × (Int × (Int × Int)))) (r_7 : List zq0) (r_8 : List (Int × (Int × Int))) (out2 : List (Int × (Int × Int))) =>
  let i_3 : Int := (IntKind.i64.wrap (i_2 + (1 : Int)));
  rec i_3 r_5 r_6 r_7 r_8 out2) i_ j r_ r_2 r_3 r_4 out)
  (k1 r_ r_2 r_3 r_4 out)
def zqk9 (p3 : zqjo) {β : Type} : Nat → zqjr β → Int → (List (List UInt8 × Int)) → (List (Int × (Int × (Int × Int)))) → (List zq0) → (List (Int × (Int × Int))) → (List (Int × (Int × Int))) → Option β
  | 0 => fun _ _ _ _ _ _ _ => none
  | i + 1 => fun k1 i_ r_ r_2 r_3 r_4 out => zqk8 p3 (zqk9 p3 i k1) k1 i_ r_ r_2 r_3 r_4 out
theorem zqka (hΓ : ΓOk Tryz.prog (ref40_Constraints_X c_ref38_Elapsed c_ref38_Valid c_ref38_When).Γ) (p3 : zqjo) (hp3 : PieceOk Tryz.prog 164 0 ref40_Constraints_p3_code zqjp zqjq (ref40_Constraints_p3_G p3)) (i : Nat) : PieceOk Tryz.prog 164 0 ref40_Constraints_p4_code zqjt zqju (ref40_Constraints_p4_G (zqk9 p3 i)) := by
  rw [show ref40_Constraints_p4_code = .loop (loopBody ref40_Constraints_p4_code) by kernel_rfl]
  exact piece_loop (X := (ref40_Constraints_X c_ref38_Elapsed c_ref38_Valid c_ref38_When)) (p := 1) (Λ := pick1 [(50, pieceCut zqjp zqjq (ref40_Constraints_p3_G p3))]) (G := fun i => @fun β d ks => ref40_Constraints_p4_G (zqk9 p3 i) d ks) mixed tab_ok hΓ rfl (by kernel_rfl) (CutsOk_cons (q := 50) (c' := ref40_Constraints_p3_code) (by kernel_rfl) rfl hp3 CutsOk_nil) (fun _ _ => rfl) (fun i => @fun β d ks r h => Eq.trans (b := ref40_Constraints_p4_G (zqk9 p3 (i + 1)) d ks) (by kernel_rfl) h) i
def zqkb {β : Type} (rec : Int → (List (List UInt8 × Int)) → (List (Int × (Int × (Int × Int)))) → (List zq0) → (List (Int × (Int × Int))) → (List (Int × (Int × Int))) → Option β) (k1 : zqjv β) (i_ : Int) (r_ : List (List UInt8 × Int)) (r_2 : List (Int × (Int × (Int × Int)))) (r_3 : List zq0) (r_4 : List (Int × (Int × Int))) (out : List (Int × (Int × Int))) : Option β :=
  cond (decide (i_ < (List.length r_4 : Int)))
  (cond (decide (0 ≤ i_) && decide (i_ < (List.length r_4 : Int)))
  (let e : (Int × (Int × Int)) := List.getD r_4 (Int.toNat i_) ((0 : Int), ((0 : Int), (0 : Int)));
  cond (decide (0 ≤ i_) && decide (i_ < (List.length r_4 : Int)))
  (let e2 : (Int × (Int × Int)) := List.getD r_4 (Int.toNat i_) ((0 : Int), ((0 : Int), (0 : Int)));
  cond (decide (0 ≤ i_) && decide (i_ < (List.length r_4 : Int)))
  (let e3 : (Int × (Int × Int)) := List.getD r_4 (Int.toNat i_) ((0 : Int), ((0 : Int), (0 : Int)));
  let l : List (Int × (Int × Int)) := ([((IntKind.i64.wrap (e.2.1 + (1 : Int))), ((IntKind.i64.wrap (e2.1 + (1 : Int))), (IntKind.i64.wrap (0 - e3.2.2))))] : List (Int × (Int × Int)));
  cond (decide ((List.length out + List.length l) * 24 ≤ roomMax))
  (let l2 : List (Int × (Int × Int)) := (out ++ l);
  let i_2 : Int := (IntKind.i64.wrap (i_ + (1 : Int)));
  rec i_2 r_ r_2 r_3 r_4 l2)
  none)
  none)
  none)
  none)
  (k1 out)
def zqkc {β : Type} : Nat → zqjv β → Int → (List (List UInt8 × Int)) → (List (Int × (Int × (Int × Int)))) → (List zq0) → (List (Int × (Int × Int))) → (List (Int × (Int × Int))) → Option β
  | 0 => fun _ _ _ _ _ _ _ => none
  | i + 1 => fun k1 i_ r_ r_2 r_3 r_4 out => zqkb (zqkc i k1) k1 i_ r_ r_2 r_3 r_4 out
theorem zqkd (hΓ : ΓOk Tryz.prog (ref40_Constraints_X c_ref38_Elapsed c_ref38_Valid c_ref38_When).Γ) (i : Nat) : PieceOk Tryz.prog 164 0 ref40_Constraints_p5_code zqjx zqjy (ref40_Constraints_p5_G (zqkc i)) := by
  rw [show ref40_Constraints_p5_code = .loop (loopBody ref40_Constraints_p5_code) by kernel_rfl]
  exact piece_loop (X := (ref40_Constraints_X c_ref38_Elapsed c_ref38_Valid c_ref38_When)) (p := 1) (Λ := pick1 []) (G := fun i => @fun β d ks => ref40_Constraints_p5_G (zqkc i) d ks) mixed tab_ok hΓ rfl (by kernel_rfl) CutsOk_nil (fun _ _ => rfl) (fun i => @fun β d ks r h => Eq.trans (b := ref40_Constraints_p5_G (zqkc (i + 1)) d ks) (by kernel_rfl) h) i
def zqke (p1 : zqjg) (p4 : zqjs) (p5 : zqjw) {β : Type} (r_ : zq2) (k : (Bool → (List (Int × (Int × Int))) → Option β)) : Option β :=
  c_ref38_Valid r_ (fun (rValid : Bool) =>
  cond (!rValid)
  (k false ([] : List (Int × (Int × Int))))
  (p1 (fun (t3 : Bool) (t2 : List (Int × (Int × Int))) =>
  k t3 t2) (fun (r_2 : List (List UInt8 × Int)) (r_3 : List (Int × (Int × (Int × Int)))) (r_4 : List zq0) (r_5 : List (Int × (Int × Int))) (out : List (Int × (Int × Int))) =>
  p4 (fun (r_6 : List (List UInt8 × Int)) (r_7 : List (Int × (Int × (Int × Int)))) (r_8 : List zq0) (r_9 : List (Int × (Int × Int))) (out2 : List (Int × (Int × Int))) =>
  p5 (fun (out3 : List (Int × (Int × Int))) =>
  k true out3) (0 : Int) r_6 r_7 r_8 r_9 out2) (0 : Int) r_2 r_3 r_4 r_5 out) (0 : Int) r_.1 r_.2.1 r_.2.2.1 r_.2.2.2 ([] : List (Int × (Int × Int)))))
theorem zqkf (hΓ : ΓOk Tryz.prog (ref40_Constraints_X c_ref38_Elapsed c_ref38_Valid c_ref38_When).Γ) (p1 : zqjg) (p4 : zqjs) (p5 : zqjw) (hp1 : PieceOk Tryz.prog 164 0 ref40_Constraints_p1_code zqjh zqji (ref40_Constraints_p1_G p1)) (hp4 : PieceOk Tryz.prog 164 0 ref40_Constraints_p4_code zqjt zqju (ref40_Constraints_p4_G p4)) (hp5 : PieceOk Tryz.prog 164 0 ref40_Constraints_p5_code zqjx zqjy (ref40_Constraints_p5_G p5)) : SpecOk Tryz.prog 36 (zqjd (zqke c_ref38_Valid p1 p4 p5)) :=
  spec_exec (X := (ref40_Constraints_X c_ref38_Elapsed c_ref38_Valid c_ref38_When)) (Λ := pick1 [(122, pieceCut zqjh zqji (ref40_Constraints_p1_G p1)), (250, pieceCut zqjt zqju (ref40_Constraints_p4_G p4)), (506, pieceCut zqjx zqjy (ref40_Constraints_p5_G p5))]) (rs := [.tmp 2, .tmp 3]) (c := bodyOf Tryz.f36) mixed tab_ok hΓ Tryz.func36 (by kernel_rfl) (by kernel_rfl) (by kernel_rfl) (by kernel_rfl) (CutsOk_cons (q := 122) (c' := ref40_Constraints_p1_code) (by kernel_rfl) rfl hp1 (CutsOk_cons (q := 250) (c' := ref40_Constraints_p4_code) (by kernel_rfl) rfl hp4 (CutsOk_cons (q := 506) (c' := ref40_Constraints_p5_code) (by kernel_rfl) rfl hp5 CutsOk_nil))) (fun x k r h => Eq.trans (b := (zqjd (zqke c_ref38_Valid p1 p4 p5)).run x k) (by kernel_rfl) h)
end
theorem zqkgΓ : ΓOk Tryz.prog (pick1 [(64, .spec (zq6o zq6s)), (62, .spec (zq55 zq6l)), (63, .spec (zqh5 zqhk))]) := (ΓOk_cons zq6t (ΓOk_cons zq6m (ΓOk_cons zqhl ΓOk_nil)))
def zqkh (m : Nat) : zqjg := zqk0 zqhk m
theorem zqki {β : Type} (i : Nat) (k1 k2 i_ r_ r_2 r_3 r_4 out) : (zqkh (i + 1) k1 k2 i_ r_ r_2 r_3 r_4 out : Option β) = zqjz zqhk (zqkh i k1 k2) k1 k2 i_ r_ r_2 r_3 r_4 out := rfl
def zqkj : zqjg := zqkh fuel
theorem zqkk : PieceOk Tryz.prog 164 0 ref40_Constraints_p1_code zqjh zqji (ref40_Constraints_p1_G zqkj) := zqk1 zq6s zq6l zqhk zqkgΓ fuel
def zqkl : zqjk := zqk3 zq6s
theorem zqkm : PieceOk Tryz.prog 164 0 ref40_Constraints_p2_code zqjl zqjm (ref40_Constraints_p2_G zqkl) := zqk4 zq6s zq6l zqhk zqkgΓ
def zqkn (m : Nat) : zqjo := zqk6 zqkl m
theorem zqko {β : Type} (i : Nat) (k1 i_ j r_ r_2 r_3 r_4 out) : (zqkn (i + 1) k1 i_ j r_ r_2 r_3 r_4 out : Option β) = zqk5 zqkl (zqkn i k1) k1 i_ j r_ r_2 r_3 r_4 out := rfl
def zqkp : zqjo := zqkn fuel
theorem zqkq : PieceOk Tryz.prog 164 0 ref40_Constraints_p3_code zqjp zqjq (ref40_Constraints_p3_G zqkp) := zqk7 zq6s zq6l zqhk zqkgΓ zqkl zqkm fuel
def zqkr (m : Nat) : zqjs := zqk9 zqkp m
theorem zqks {β : Type} (i : Nat) (k1 i_ r_ r_2 r_3 r_4 out) : (zqkr (i + 1) k1 i_ r_ r_2 r_3 r_4 out : Option β) = zqk8 zqkp (zqkr i k1) k1 i_ r_ r_2 r_3 r_4 out := rfl
def zqkt : zqjs := zqkr fuel
theorem zqku : PieceOk Tryz.prog 164 0 ref40_Constraints_p4_code zqjt zqju (ref40_Constraints_p4_G zqkt) := zqka zq6s zq6l zqhk zqkgΓ zqkp zqkq fuel
def zqkv (m : Nat) : zqjw := zqkc m
theorem zqkw {β : Type} (i : Nat) (k1 i_ r_ r_2 r_3 r_4 out) : (zqkv (i + 1) k1 i_ r_ r_2 r_3 r_4 out : Option β) = zqkb (zqkv i k1) k1 i_ r_ r_2 r_3 r_4 out := rfl
def zqkx : zqjw := zqkv fuel
theorem zqky : PieceOk Tryz.prog 164 0 ref40_Constraints_p5_code zqjx zqjy (ref40_Constraints_p5_G zqkx) := zqkd zq6s zq6l zqhk zqkgΓ fuel
def zqkz : zqjc := zqke zq6l zqkj zqkt zqkx
theorem zql0 : SpecOk Tryz.prog 36 (zqjd zqkz) := zqkf zq6s zq6l zqhk zqkgΓ zqkj zqkt zqkx zqkk zqku zqky

/-- pagewatch/order.pair -/
abbrev zql1 := {β : Type} → zq2 → Int → Int → ((List (Int × (Int × Int))) → Option β) → Option β
def zql2 (c : zql1) : Spec :=
  ⟨[(true, [.data zq3]), (false, [.data (.int .i64)]), (false, [.data (.int .i64)])], [], [(false, [.rowh 0])], [.row 122 (.prod (.int .i64) (.prod (.int .i64) (.int .i64)))], fun x k => c x.1.1.1 x.1.2.1.1 x.1.2.2.1.1 (fun r0 => k (((), ()), (r0, ())))⟩
noncomputable def order_pair_p1_code : Code := codeAt 15 (bodyOf Tryz.f82)
abbrev zql3 (β : Type) := (List (Int × (Int × Int))) → Option β
abbrev zql4 := {β : Type} → zql3 β → Int → Int → (List (List UInt8 × Int)) → (List (Int × (Int × (Int × Int)))) → (List zq0) → (List (Int × (Int × Int))) → Int → Int → (List UInt8) → Int → Int → (List UInt8) → Option β
def zql5 : View := ⟨0, [1, 2, 3, 7, 8], [(false, [.data (.int .i64)]), (false, [.data (.int .i64)]), (false, [.ptr 0 0]), (false, [.ptr 1 0]), (false, [.ptr 2 0])], [.cells 32 [.data (.slice (.prod .str (.int .i64))), .data (.slice (.prod (.int .i64) (.prod (.int .i64) (.prod (.int .i64) (.int .i64))))), .data (.slice zq1), .data (.slice (.prod (.int .i64) (.prod (.int .i64) (.int .i64))))], .cells 60 [.data (.int .i64), .data (.int .i64), .data .str], .cells 60 [.data (.int .i64), .data (.int .i64), .data .str]]⟩
def zql6 : List (AExit × View) := [(.ret, ⟨0, [6], [(false, [.rowh 0])], [.row 122 (.prod (.int .i64) (.prod (.int .i64) (.int .i64)))]⟩)]
@[reducible] def order_pair_p1_G (p : zql4) {β : Type} (d : zql5.den) (ks : Outs.K β zql6) : Option β :=
  p (fun a0 => ks.1 (((), ()), (a0, ()))) d.1.1.1 d.1.2.1.1 d.2.1.1 d.2.1.2.1 d.2.1.2.2.1 d.2.1.2.2.2.1 d.2.2.1.1 d.2.2.1.2.1 d.2.2.1.2.2.1 d.2.2.2.1.1 d.2.2.2.1.2.1 d.2.2.2.1.2.2.1
section
variable (c_clock_Elapsed : zqhm)
@[reducible] def order_pair_X : Ctx := ⟨look tab, pick1 [(103, .spec (zqhn c_clock_Elapsed))], false, false, false, false⟩
def zql7 {β : Type} (k1 : zql3 β) (i_ : Int) (j : Int) (r_ : List (List UInt8 × Int)) (r_2 : List (Int × (Int × (Int × Int)))) (r_3 : List zq0) (r_4 : List (Int × (Int × Int))) (a : Int) (a2 : Int) (a3 : List UInt8) (b : Int) (b2 : Int) (b3 : List UInt8) : Option β :=
  cond (decide (0 ≤ a) && decide (a < (List.length r_ : Int)))
  (let e : (List UInt8 × Int) := List.getD r_ (Int.toNat a) (([] : List UInt8), (0 : Int));
  c_clock_Elapsed e.2 (IntKind.i64.wrap (b2 - a2)) (fun (rElapsed : Int) (rElapsed2 : Int) =>
  let l : List (Int × (Int × Int)) := ([((IntKind.i64.wrap (i_ + (1 : Int))), ((IntKind.i64.wrap (j + (1 : Int))), rElapsed2)), ((IntKind.i64.wrap (j + (1 : Int))), ((IntKind.i64.wrap (i_ + (1 : Int))), (IntKind.i64.wrap (0 - rElapsed))))] : List (Int × (Int × Int)));
  k1 l))
  none
def zql8 {β : Type} (k1 : zql3 β) (i_ : Int) (j : Int) (r_ : List (List UInt8 × Int)) (r_2 : List (Int × (Int × (Int × Int)))) (r_3 : List zq0) (r_4 : List (Int × (Int × Int))) (a : Int) (a2 : Int) (a3 : List UInt8) (b : Int) (b2 : Int) (b3 : List UInt8) : Option β := zql7 c_clock_Elapsed k1 i_ j r_ r_2 r_3 r_4 a a2 a3 b b2 b3
theorem zql9 (hΓ : ΓOk Tryz.prog (order_pair_X c_clock_Elapsed).Γ) : PieceOk Tryz.prog 60 0 order_pair_p1_code zql5 zql6 (order_pair_p1_G (zql8 c_clock_Elapsed)) :=
  piece_exec (X := (order_pair_X c_clock_Elapsed)) (p := 15) (Λ := pick1 []) mixed tab_ok hΓ (by kernel_rfl) CutsOk_nil (fun d ks r h => Eq.trans (b := order_pair_p1_G (zql8 c_clock_Elapsed) d ks) (by kernel_rfl) h)
def zqla (p1 : zql4) {β : Type} (r_ : zq2) (i_ : Int) (j : Int) (k : ((List (Int × (Int × Int))) → Option β)) : Option β :=
  cond (decide (0 ≤ i_) && decide (i_ < (List.length r_.2.2.1 : Int)))
  (let e : zq0 := List.getD r_.2.2.1 (Int.toNat i_) ((0 : Int), ((0 : Int), ([] : List UInt8)));
  cond (decide (0 ≤ j) && decide (j < (List.length r_.2.2.1 : Int)))
  (let e2 : zq0 := List.getD r_.2.2.1 (Int.toNat j) ((0 : Int), ((0 : Int), ([] : List UInt8)));
  cond (decide (e2.2.1 < e.2.1))
  (p1 (fun (t6 : List (Int × (Int × Int))) =>
  k t6) j i_ r_.1 r_.2.1 r_.2.2.1 r_.2.2.2 e2.1 e2.2.1 e2.2.2 e.1 e.2.1 e.2.2)
  (p1 (fun (t6 : List (Int × (Int × Int))) =>
  k t6) i_ j r_.1 r_.2.1 r_.2.2.1 r_.2.2.2 e.1 e.2.1 e.2.2 e2.1 e2.2.1 e2.2.2))
  none)
  none
theorem zqlb (hΓ : ΓOk Tryz.prog (order_pair_X c_clock_Elapsed).Γ) (p1 : zql4) (hp1 : PieceOk Tryz.prog 60 0 order_pair_p1_code zql5 zql6 (order_pair_p1_G p1)) : SpecOk Tryz.prog 82 (zql2 (zqla p1)) :=
  spec_exec (X := (order_pair_X c_clock_Elapsed)) (Λ := pick1 [(15, pieceCut zql5 zql6 (order_pair_p1_G p1))]) (rs := [.tmp 6]) (c := bodyOf Tryz.f82) mixed tab_ok hΓ Tryz.func82 (by kernel_rfl) (by kernel_rfl) (by kernel_rfl) (by kernel_rfl) (CutsOk_cons (q := 15) (c' := order_pair_p1_code) (by kernel_rfl) rfl hp1 CutsOk_nil) (fun x k r h => Eq.trans (b := (zql2 (zqla p1)).run x k) (by kernel_rfl) h)
end
theorem zqlcΓ : ΓOk Tryz.prog (pick1 [(103, .spec (zqhn zqhr))]) := (ΓOk_cons zqhs ΓOk_nil)
def zqld : zql4 := zql8 zqhr
theorem zqle : PieceOk Tryz.prog 60 0 order_pair_p1_code zql5 zql6 (order_pair_p1_G zqld) := zql9 zqhr zqlcΓ
def zqlf : zql1 := zqla zqld
theorem zqlg : SpecOk Tryz.prog 82 (zql2 zqlf) := zqlb zqhr zqlcΓ zqld zqle

/-- pagewatch/clock.From -/
abbrev zqlh := {β : Type} → (List UInt8 × Int) → (Int × (Int × (Int × Int))) → Int → ((Int × Int) → Option β) → Option β
def zqli (c : zqlh) : Spec :=
  ⟨[(true, [.data (.prod .str (.int .i64))]), (true, [.data (.prod (.int .i64) (.prod (.int .i64) (.prod (.int .i64) (.int .i64))))]), (false, [.data (.int .i64)])], [], [(true, [.data (.prod (.int .i64) (.int .i64))])], [], fun x k => c x.1.1.1 x.1.2.1.1 x.1.2.2.1.1 (fun r0 => k (((r0, ()), ()), ()))⟩
section
variable (c_clock_Elapsed : zqhm) (c_clock_compared : zqgx) (c_clock_in : zq4a) (c_clock_instant : zq4h)
@[reducible] def clock_From_X : Ctx := ⟨look tab, pick1 [(103, .spec (zqhn c_clock_Elapsed)), (56, .spec (zqgy c_clock_compared)), (55, .spec (zq4b c_clock_in)), (57, .spec (zq4i c_clock_instant))], false, false, false, false⟩
def zqlj {β : Type} (h : (List UInt8 × Int)) (s : (Int × (Int × (Int × Int)))) (clock : Int) (k : ((Int × Int) → Option β)) : Option β :=
  c_clock_in h.2 (0 : Int) (500000 : Int) (fun (rin : Bool) =>
  cond (!rin)
  (k ((-1099511627776 : Int), (1099511627776 : Int)))
  (c_clock_compared s (fun (rcompared : Bool) =>
  cond (!rcompared)
  (k ((-1099511627776 : Int), (1099511627776 : Int)))
  (c_clock_instant clock (fun (rinstant : Bool) =>
  cond (!rinstant)
  (k ((-1099511627776 : Int), (1099511627776 : Int)))
  (cond (decide (s.2.1 ≤ clock))
  (c_clock_Elapsed h.2 (IntKind.i64.wrap (clock - s.2.1)) (fun (rElapsed : Int) (rElapsed2 : Int) =>
  k ((IntKind.i64.wrap (s.2.2.1 + rElapsed)), (IntKind.i64.wrap (s.2.2.2 + rElapsed2)))))
  (c_clock_Elapsed h.2 (IntKind.i64.wrap (s.2.1 - clock)) (fun (rElapsed : Int) (rElapsed2 : Int) =>
  k ((IntKind.i64.wrap (s.2.2.1 - rElapsed2)), (IntKind.i64.wrap (s.2.2.2 - rElapsed)))))))))))
theorem zqlk (hΓ : ΓOk Tryz.prog (clock_From_X c_clock_Elapsed c_clock_compared c_clock_in c_clock_instant).Γ) : SpecOk Tryz.prog 101 (zqli (zqlj c_clock_Elapsed c_clock_compared c_clock_in c_clock_instant)) :=
  spec_exec (X := (clock_From_X c_clock_Elapsed c_clock_compared c_clock_in c_clock_instant)) (Λ := pick1 []) (rs := [.cell 6 40]) (c := bodyOf Tryz.f101) mixed tab_ok hΓ Tryz.func101 (by kernel_rfl) (by kernel_rfl) (by kernel_rfl) (by kernel_rfl) CutsOk_nil (fun x k r h => Eq.trans (b := (zqli (zqlj c_clock_Elapsed c_clock_compared c_clock_in c_clock_instant)).run x k) (by kernel_rfl) h)
end
theorem zqllΓ : ΓOk Tryz.prog (pick1 [(103, .spec (zqhn zqhr)), (56, .spec (zqgy zqh2)), (55, .spec (zq4b zq4f)), (57, .spec (zq4i zq4m))]) := (ΓOk_cons zqhs (ΓOk_cons zqh3 (ΓOk_cons zq4g (ΓOk_cons zq4n ΓOk_nil))))
def zqlm : zqlh := zqlj zqhr zqh2 zq4f zq4m
theorem zqln : SpecOk Tryz.prog 101 (zqli zqlm) := zqlk zqhr zqh2 zq4f zq4m zqllΓ

/-- pagewatch/timeline.Merge -/
abbrev zqlo := {β : Type} → zq2 → zq2 → (zq2 → Int → Option β) → Option β
def zqlp (c : zqlo) : Spec :=
  ⟨[(true, [.data zq3]), (true, [.data zq3])], [], [(true, [.data zq3]), (false, [.data (.int .i64)])], [], fun x k => c x.1.1.1 x.1.2.1.1 (fun r0 r1 => k (((r0, ()), (r1, ()), ()), ()))⟩
noncomputable def timeline_Merge_p1_code : Code := codeAt 250 (bodyOf Tryz.f14)
noncomputable def timeline_Merge_p2_code : Code := codeAt 506 (bodyOf Tryz.f14)
noncomputable def timeline_Merge_p3_code : Code := codeAt 1018 (bodyOf Tryz.f14)
abbrev zqlq (β : Type) := (List (List UInt8 × Int)) → (List (Int × (Int × (Int × Int)))) → (List zq0) → (List (Int × (Int × Int))) → (List (List UInt8 × Int)) → (List (Int × (Int × (Int × Int)))) → (List zq0) → (List (Int × (Int × Int))) → (List (List UInt8 × Int)) → (List (Int × (Int × (Int × Int)))) → (List zq0) → (List (Int × (Int × Int))) → (List (List UInt8 × Int)) → (List (Int × (Int × (Int × Int)))) → (List zq0) → (List (Int × (Int × Int))) → Option β
abbrev zqlr := {β : Type} → zqlq β → (List (Int × (Int × (Int × Int)))) → Int → Int → (List (List UInt8 × Int)) → (List (Int × (Int × (Int × Int)))) → (List zq0) → (List (Int × (Int × Int))) → (List (List UInt8 × Int)) → (List (Int × (Int × (Int × Int)))) → (List zq0) → (List (Int × (Int × Int))) → (List (List UInt8 × Int)) → (List (Int × (Int × (Int × Int)))) → (List zq0) → (List (Int × (Int × Int))) → (List (List UInt8 × Int)) → (List (Int × (Int × (Int × Int)))) → (List zq0) → (List (Int × (Int × Int))) → Option β
def zqls : View := ⟨0, [2, 3, 4, 6, 31, 32, 33], [(false, [.ptr 0 0]), (false, [.ptr 1 0]), (false, [.ptr 2 0]), (false, [.ptr 3 0]), (false, [.data (.slice (.prod (.int .i64) (.prod (.int .i64) (.prod (.int .i64) (.int .i64)))))]), (false, [.data (.int .i64)]), (false, [.data (.int .i64)])], [.cells 32 [.data (.slice (.prod .str (.int .i64))), .data (.slice (.prod (.int .i64) (.prod (.int .i64) (.prod (.int .i64) (.int .i64))))), .data (.slice zq1), .data (.slice (.prod (.int .i64) (.prod (.int .i64) (.int .i64))))], .cells 32 [.data (.slice (.prod .str (.int .i64))), .data (.slice (.prod (.int .i64) (.prod (.int .i64) (.prod (.int .i64) (.int .i64))))), .data (.slice zq1), .data (.slice (.prod (.int .i64) (.prod (.int .i64) (.int .i64))))], .cells 32 [.rowh 4, .rowh 5, .rowh 6, .rowh 7], .cells 32 [.rowh 8, .rowh 9, .rowh 10, .rowh 11], .row 62 (.prod .str (.int .i64)), .row 64 (.prod (.int .i64) (.prod (.int .i64) (.prod (.int .i64) (.int .i64)))), .row 60 zq1, .row 73 (.prod (.int .i64) (.prod (.int .i64) (.int .i64))), .row 62 (.prod .str (.int .i64)), .row 64 (.prod (.int .i64) (.prod (.int .i64) (.prod (.int .i64) (.int .i64)))), .row 60 zq1, .row 73 (.prod (.int .i64) (.prod (.int .i64) (.int .i64)))]⟩
def zqlt : List (AExit × View) := [(.exit 0, ⟨0, [2, 3, 4, 6], [(false, [.ptr 0 0]), (false, [.ptr 1 0]), (false, [.ptr 2 0]), (false, [.ptr 3 0])], [.cells 32 [.data (.slice (.prod .str (.int .i64))), .data (.slice (.prod (.int .i64) (.prod (.int .i64) (.prod (.int .i64) (.int .i64))))), .data (.slice zq1), .data (.slice (.prod (.int .i64) (.prod (.int .i64) (.int .i64))))], .cells 32 [.data (.slice (.prod .str (.int .i64))), .data (.slice (.prod (.int .i64) (.prod (.int .i64) (.prod (.int .i64) (.int .i64))))), .data (.slice zq1), .data (.slice (.prod (.int .i64) (.prod (.int .i64) (.int .i64))))], .cells 32 [.rowh 4, .rowh 5, .rowh 6, .rowh 7], .cells 32 [.rowh 8, .rowh 9, .rowh 10, .rowh 11], .row 62 (.prod .str (.int .i64)), .row 64 (.prod (.int .i64) (.prod (.int .i64) (.prod (.int .i64) (.int .i64)))), .row 60 zq1, .row 73 (.prod (.int .i64) (.prod (.int .i64) (.int .i64))), .row 62 (.prod .str (.int .i64)), .row 64 (.prod (.int .i64) (.prod (.int .i64) (.prod (.int .i64) (.int .i64)))), .row 60 zq1, .row 73 (.prod (.int .i64) (.prod (.int .i64) (.int .i64)))]⟩)]
@[reducible] def timeline_Merge_p1_G (p : zqlr) {β : Type} (d : zqls.den) (ks : Outs.K β zqlt) : Option β :=
  p (fun a0 a1 a2 a3 a4 a5 a6 a7 a8 a9 a10 a11 a12 a13 a14 a15 => ks.1 (((), (), (), (), ()), ((a0, a1, a2, a3, ()), (a4, a5, a6, a7, ()), (), (), a8, a9, a10, a11, a12, a13, a14, a15, ()))) d.1.2.2.2.2.1.1 d.1.2.2.2.2.2.1.1 d.1.2.2.2.2.2.2.1.1 d.2.1.1 d.2.1.2.1 d.2.1.2.2.1 d.2.1.2.2.2.1 d.2.2.1.1 d.2.2.1.2.1 d.2.2.1.2.2.1 d.2.2.1.2.2.2.1 d.2.2.2.2.2.1 d.2.2.2.2.2.2.1 d.2.2.2.2.2.2.2.1 d.2.2.2.2.2.2.2.2.1 d.2.2.2.2.2.2.2.2.2.1 d.2.2.2.2.2.2.2.2.2.2.1 d.2.2.2.2.2.2.2.2.2.2.2.1 d.2.2.2.2.2.2.2.2.2.2.2.2.1
abbrev zqlu (β : Type) := (List (List UInt8 × Int)) → (List (Int × (Int × (Int × Int)))) → (List zq0) → (List (Int × (Int × Int))) → (List (List UInt8 × Int)) → (List (Int × (Int × (Int × Int)))) → (List zq0) → (List (Int × (Int × Int))) → (List (List UInt8 × Int)) → (List (Int × (Int × (Int × Int)))) → (List zq0) → (List (Int × (Int × Int))) → (List (List UInt8 × Int)) → (List (Int × (Int × (Int × Int)))) → (List zq0) → (List (Int × (Int × Int))) → Option β
abbrev zqlv := {β : Type} → zqlu β → (List zq0) → Int → Int → (List (List UInt8 × Int)) → (List (Int × (Int × (Int × Int)))) → (List zq0) → (List (Int × (Int × Int))) → (List (List UInt8 × Int)) → (List (Int × (Int × (Int × Int)))) → (List zq0) → (List (Int × (Int × Int))) → (List (List UInt8 × Int)) → (List (Int × (Int × (Int × Int)))) → (List zq0) → (List (Int × (Int × Int))) → (List (List UInt8 × Int)) → (List (Int × (Int × (Int × Int)))) → (List zq0) → (List (Int × (Int × Int))) → Option β
def zqlw : View := ⟨0, [2, 3, 4, 6, 52, 53, 54], [(false, [.ptr 0 0]), (false, [.ptr 1 0]), (false, [.ptr 2 0]), (false, [.ptr 3 0]), (false, [.data (.slice zq1)]), (false, [.data (.int .i64)]), (false, [.data (.int .i64)])], [.cells 32 [.data (.slice (.prod .str (.int .i64))), .data (.slice (.prod (.int .i64) (.prod (.int .i64) (.prod (.int .i64) (.int .i64))))), .data (.slice zq1), .data (.slice (.prod (.int .i64) (.prod (.int .i64) (.int .i64))))], .cells 32 [.data (.slice (.prod .str (.int .i64))), .data (.slice (.prod (.int .i64) (.prod (.int .i64) (.prod (.int .i64) (.int .i64))))), .data (.slice zq1), .data (.slice (.prod (.int .i64) (.prod (.int .i64) (.int .i64))))], .cells 32 [.rowh 4, .rowh 5, .rowh 6, .rowh 7], .cells 32 [.rowh 8, .rowh 9, .rowh 10, .rowh 11], .row 62 (.prod .str (.int .i64)), .row 64 (.prod (.int .i64) (.prod (.int .i64) (.prod (.int .i64) (.int .i64)))), .row 60 zq1, .row 73 (.prod (.int .i64) (.prod (.int .i64) (.int .i64))), .row 62 (.prod .str (.int .i64)), .row 64 (.prod (.int .i64) (.prod (.int .i64) (.prod (.int .i64) (.int .i64)))), .row 60 zq1, .row 73 (.prod (.int .i64) (.prod (.int .i64) (.int .i64)))]⟩
def zqlx : List (AExit × View) := [(.exit 2, ⟨0, [2, 3, 4, 6], [(false, [.ptr 0 0]), (false, [.ptr 1 0]), (false, [.ptr 2 0]), (false, [.ptr 3 0])], [.cells 32 [.data (.slice (.prod .str (.int .i64))), .data (.slice (.prod (.int .i64) (.prod (.int .i64) (.prod (.int .i64) (.int .i64))))), .data (.slice zq1), .data (.slice (.prod (.int .i64) (.prod (.int .i64) (.int .i64))))], .cells 32 [.data (.slice (.prod .str (.int .i64))), .data (.slice (.prod (.int .i64) (.prod (.int .i64) (.prod (.int .i64) (.int .i64))))), .data (.slice zq1), .data (.slice (.prod (.int .i64) (.prod (.int .i64) (.int .i64))))], .cells 32 [.rowh 4, .rowh 5, .rowh 6, .rowh 7], .cells 32 [.rowh 8, .rowh 9, .rowh 10, .rowh 11], .row 62 (.prod .str (.int .i64)), .row 64 (.prod (.int .i64) (.prod (.int .i64) (.prod (.int .i64) (.int .i64)))), .row 60 zq1, .row 73 (.prod (.int .i64) (.prod (.int .i64) (.int .i64))), .row 62 (.prod .str (.int .i64)), .row 64 (.prod (.int .i64) (.prod (.int .i64) (.prod (.int .i64) (.int .i64)))), .row 60 zq1, .row 73 (.prod (.int .i64) (.prod (.int .i64) (.int .i64)))]⟩)]
@[reducible] def timeline_Merge_p2_G (p : zqlv) {β : Type} (d : zqlw.den) (ks : Outs.K β zqlx) : Option β :=
  p (fun a0 a1 a2 a3 a4 a5 a6 a7 a8 a9 a10 a11 a12 a13 a14 a15 => ks.1 (((), (), (), (), ()), ((a0, a1, a2, a3, ()), (a4, a5, a6, a7, ()), (), (), a8, a9, a10, a11, a12, a13, a14, a15, ()))) d.1.2.2.2.2.1.1 d.1.2.2.2.2.2.1.1 d.1.2.2.2.2.2.2.1.1 d.2.1.1 d.2.1.2.1 d.2.1.2.2.1 d.2.1.2.2.2.1 d.2.2.1.1 d.2.2.1.2.1 d.2.2.1.2.2.1 d.2.2.1.2.2.2.1 d.2.2.2.2.2.1 d.2.2.2.2.2.2.1 d.2.2.2.2.2.2.2.1 d.2.2.2.2.2.2.2.2.1 d.2.2.2.2.2.2.2.2.2.1 d.2.2.2.2.2.2.2.2.2.2.1 d.2.2.2.2.2.2.2.2.2.2.2.1 d.2.2.2.2.2.2.2.2.2.2.2.2.1
abbrev zqly (β : Type) := (List (List UInt8 × Int)) → (List (Int × (Int × (Int × Int)))) → (List zq0) → (List (Int × (Int × Int))) → (List (List UInt8 × Int)) → (List (Int × (Int × (Int × Int)))) → (List zq0) → (List (Int × (Int × Int))) → Option β
abbrev zqlz := {β : Type} → zqly β → (List (Int × (Int × Int))) → Int → Int → (List (List UInt8 × Int)) → (List (Int × (Int × (Int × Int)))) → (List zq0) → (List (Int × (Int × Int))) → (List (List UInt8 × Int)) → (List (Int × (Int × (Int × Int)))) → (List zq0) → (List (Int × (Int × Int))) → (List (List UInt8 × Int)) → (List (Int × (Int × (Int × Int)))) → (List zq0) → (List (Int × (Int × Int))) → Option β
def zqm0 : View := ⟨0, [2, 4, 6, 73, 74, 75], [(false, [.ptr 0 0]), (false, [.ptr 1 0]), (false, [.ptr 2 0]), (false, [.data (.slice (.prod (.int .i64) (.prod (.int .i64) (.int .i64))))]), (false, [.data (.int .i64)]), (false, [.data (.int .i64)])], [.cells 32 [.data (.slice (.prod .str (.int .i64))), .data (.slice (.prod (.int .i64) (.prod (.int .i64) (.prod (.int .i64) (.int .i64))))), .data (.slice zq1), .data (.slice (.prod (.int .i64) (.prod (.int .i64) (.int .i64))))], .cells 32 [.rowh 3, .rowh 4, .rowh 5, .rowh 6], .cells 32 [.rowh 7, .rowh 8, .rowh 9, .rowh 10], .row 62 (.prod .str (.int .i64)), .row 64 (.prod (.int .i64) (.prod (.int .i64) (.prod (.int .i64) (.int .i64)))), .row 60 zq1, .row 73 (.prod (.int .i64) (.prod (.int .i64) (.int .i64))), .row 62 (.prod .str (.int .i64)), .row 64 (.prod (.int .i64) (.prod (.int .i64) (.prod (.int .i64) (.int .i64)))), .row 60 zq1, .row 73 (.prod (.int .i64) (.prod (.int .i64) (.int .i64)))]⟩
def zqm1 : List (AExit × View) := [(.exit 4, ⟨0, [4, 6], [(false, [.ptr 0 0]), (false, [.ptr 1 0])], [.cells 32 [.rowh 2, .rowh 3, .rowh 4, .rowh 5], .cells 32 [.rowh 6, .rowh 7, .rowh 8, .rowh 9], .row 62 (.prod .str (.int .i64)), .row 64 (.prod (.int .i64) (.prod (.int .i64) (.prod (.int .i64) (.int .i64)))), .row 60 zq1, .row 73 (.prod (.int .i64) (.prod (.int .i64) (.int .i64))), .row 62 (.prod .str (.int .i64)), .row 64 (.prod (.int .i64) (.prod (.int .i64) (.prod (.int .i64) (.int .i64)))), .row 60 zq1, .row 73 (.prod (.int .i64) (.prod (.int .i64) (.int .i64)))]⟩)]
@[reducible] def timeline_Merge_p3_G (p : zqlz) {β : Type} (d : zqm0.den) (ks : Outs.K β zqm1) : Option β :=
  p (fun a0 a1 a2 a3 a4 a5 a6 a7 => ks.1 (((), (), ()), ((), (), a0, a1, a2, a3, a4, a5, a6, a7, ()))) d.1.2.2.2.1.1 d.1.2.2.2.2.1.1 d.1.2.2.2.2.2.1.1 d.2.1.1 d.2.1.2.1 d.2.1.2.2.1 d.2.1.2.2.2.1 d.2.2.2.2.1 d.2.2.2.2.2.1 d.2.2.2.2.2.2.1 d.2.2.2.2.2.2.2.1 d.2.2.2.2.2.2.2.2.1 d.2.2.2.2.2.2.2.2.2.1 d.2.2.2.2.2.2.2.2.2.2.1 d.2.2.2.2.2.2.2.2.2.2.2.1
section
variable (c_clock_Valid : zqht) (c_timeline_copied : zqct) (c_timeline_sized : zq2d)
@[reducible] def timeline_Merge_X : Ctx := ⟨look tab, pick1 [(33, .spec (zqhu c_clock_Valid)), (34, .spec (zqcu c_timeline_copied)), (35, .spec (zq2e c_timeline_sized))], false, false, false, false⟩
def zqm2 {β : Type} (rec : (List (Int × (Int × (Int × Int)))) → Int → Int → (List (List UInt8 × Int)) → (List (Int × (Int × (Int × Int)))) → (List zq0) → (List (Int × (Int × Int))) → (List (List UInt8 × Int)) → (List (Int × (Int × (Int × Int)))) → (List zq0) → (List (Int × (Int × Int))) → (List (List UInt8 × Int)) → (List (Int × (Int × (Int × Int)))) → (List zq0) → (List (Int × (Int × Int))) → (List (List UInt8 × Int)) → (List (Int × (Int × (Int × Int)))) → (List zq0) → (List (Int × (Int × Int))) → Option β) (k1 : zqlq β) (t31 : List (Int × (Int × (Int × Int)))) (t32 : Int) (t33 : Int) (a : List (List UInt8 × Int)) (a2 : List (Int × (Int × (Int × Int)))) (a3 : List zq0) (a4 : List (Int × (Int × Int))) (b : List (List UInt8 × Int)) (b2 : List (Int × (Int × (Int × Int)))) (b3 : List zq0) (b4 : List (Int × (Int × Int))) (b4_ : List (List UInt8 × Int)) (b5_ : List (Int × (Int × (Int × Int)))) (b6_ : List zq0) (b7_ : List (Int × (Int × Int))) (b8_ : List (List UInt8 × Int)) (b9_ : List (Int × (Int × (Int × Int)))) (b10_ : List zq0) (b11_ : List (Int × (Int × Int))) : Option β :=
  cond (decide (t33 < t32))
  (cond (decide (0 ≤ t33) && decide (t33 < (List.length t31 : Int)))
  (let e : (Int × (Int × (Int × Int))) := List.getD t31 (Int.toNat t33) ((0 : Int), ((0 : Int), ((0 : Int), (0 : Int))));
  let l : List (Int × (Int × (Int × Int))) := ([((IntKind.i64.wrap (e.1 + (List.length a : Int))), e.2)] : List (Int × (Int × (Int × Int))));
  cond (decide ((List.length b9_ + List.length l) * 32 ≤ roomMax))
  (let l2 : List (Int × (Int × (Int × Int))) := (b9_ ++ l);
  rec t31 t32 (IntKind.i64.wrap (t33 + (1 : Int))) a a2 a3 a4 b b2 b3 b4 b4_ b5_ b6_ b7_ b8_ l2 b10_ b11_)
  none)
  none)
  (k1 a a2 a3 a4 b b2 b3 b4 b4_ b5_ b6_ b7_ b8_ b9_ b10_ b11_)
def zqm3 {β : Type} : Nat → zqlq β → (List (Int × (Int × (Int × Int)))) → Int → Int → (List (List UInt8 × Int)) → (List (Int × (Int × (Int × Int)))) → (List zq0) → (List (Int × (Int × Int))) → (List (List UInt8 × Int)) → (List (Int × (Int × (Int × Int)))) → (List zq0) → (List (Int × (Int × Int))) → (List (List UInt8 × Int)) → (List (Int × (Int × (Int × Int)))) → (List zq0) → (List (Int × (Int × Int))) → (List (List UInt8 × Int)) → (List (Int × (Int × (Int × Int)))) → (List zq0) → (List (Int × (Int × Int))) → Option β
  | 0 => fun _ _ _ _ _ _ _ _ _ _ _ _ _ _ _ _ _ _ _ _ => none
  | i + 1 => fun k1 t31 t32 t33 a a2 a3 a4 b b2 b3 b4 b4_ b5_ b6_ b7_ b8_ b9_ b10_ b11_ => zqm2 (zqm3 i k1) k1 t31 t32 t33 a a2 a3 a4 b b2 b3 b4 b4_ b5_ b6_ b7_ b8_ b9_ b10_ b11_
theorem zqm4 (hΓ : ΓOk Tryz.prog (timeline_Merge_X c_clock_Valid c_timeline_copied c_timeline_sized).Γ) (i : Nat) : PieceOk Tryz.prog 104 0 timeline_Merge_p1_code zqls zqlt (timeline_Merge_p1_G (zqm3 i)) := by
  rw [show timeline_Merge_p1_code = .loop (loopBody timeline_Merge_p1_code) by kernel_rfl]
  exact piece_loop (X := (timeline_Merge_X c_clock_Valid c_timeline_copied c_timeline_sized)) (p := 1) (Λ := pick1 []) (G := fun i => @fun β d ks => timeline_Merge_p1_G (zqm3 i) d ks) mixed tab_ok hΓ rfl (by kernel_rfl) CutsOk_nil (fun _ _ => rfl) (fun i => @fun β d ks r h => Eq.trans (b := timeline_Merge_p1_G (zqm3 (i + 1)) d ks) (by kernel_rfl) h) i
def zqm5 {β : Type} (rec : (List zq0) → Int → Int → (List (List UInt8 × Int)) → (List (Int × (Int × (Int × Int)))) → (List zq0) → (List (Int × (Int × Int))) → (List (List UInt8 × Int)) → (List (Int × (Int × (Int × Int)))) → (List zq0) → (List (Int × (Int × Int))) → (List (List UInt8 × Int)) → (List (Int × (Int × (Int × Int)))) → (List zq0) → (List (Int × (Int × Int))) → (List (List UInt8 × Int)) → (List (Int × (Int × (Int × Int)))) → (List zq0) → (List (Int × (Int × Int))) → Option β) (k1 : zqlu β) (t52 : List zq0) (t53 : Int) (t54 : Int) (a : List (List UInt8 × Int)) (a2 : List (Int × (Int × (Int × Int)))) (a3 : List zq0) (a4 : List (Int × (Int × Int))) (b : List (List UInt8 × Int)) (b2 : List (Int × (Int × (Int × Int)))) (b3 : List zq0) (b4 : List (Int × (Int × Int))) (b4_ : List (List UInt8 × Int)) (b5_ : List (Int × (Int × (Int × Int)))) (b6_ : List zq0) (b7_ : List (Int × (Int × Int))) (b8_ : List (List UInt8 × Int)) (b9_ : List (Int × (Int × (Int × Int)))) (b10_ : List zq0) (b11_ : List (Int × (Int × Int))) : Option β :=
  cond (decide (t54 < t53))
  (cond (decide (0 ≤ t54) && decide (t54 < (List.length t52 : Int)))
  (let e : zq0 := List.getD t52 (Int.toNat t54) ((0 : Int), ((0 : Int), ([] : List UInt8)));
  let l : List zq0 := ([((IntKind.i64.wrap (e.1 + (List.length a : Int))), e.2)] : List zq0);
  cond (decide ((List.length b10_ + List.length l) * 32 ≤ roomMax))
  (let l2 : List zq0 := (b10_ ++ l);
  rec t52 t53 (IntKind.i64.wrap (t54 + (1 : Int))) a a2 a3 a4 b b2 b3 b4 b4_ b5_ b6_ b7_ b8_ b9_ l2 b11_)
  none)
  none)
  (k1 a a2 a3 a4 b b2 b3 b4 b4_ b5_ b6_ b7_ b8_ b9_ b10_ b11_)
def zqm6 {β : Type} : Nat → zqlu β → (List zq0) → Int → Int → (List (List UInt8 × Int)) → (List (Int × (Int × (Int × Int)))) → (List zq0) → (List (Int × (Int × Int))) → (List (List UInt8 × Int)) → (List (Int × (Int × (Int × Int)))) → (List zq0) → (List (Int × (Int × Int))) → (List (List UInt8 × Int)) → (List (Int × (Int × (Int × Int)))) → (List zq0) → (List (Int × (Int × Int))) → (List (List UInt8 × Int)) → (List (Int × (Int × (Int × Int)))) → (List zq0) → (List (Int × (Int × Int))) → Option β
  | 0 => fun _ _ _ _ _ _ _ _ _ _ _ _ _ _ _ _ _ _ _ _ => none
  | i + 1 => fun k1 t52 t53 t54 a a2 a3 a4 b b2 b3 b4 b4_ b5_ b6_ b7_ b8_ b9_ b10_ b11_ => zqm5 (zqm6 i k1) k1 t52 t53 t54 a a2 a3 a4 b b2 b3 b4 b4_ b5_ b6_ b7_ b8_ b9_ b10_ b11_
theorem zqm7 (hΓ : ΓOk Tryz.prog (timeline_Merge_X c_clock_Valid c_timeline_copied c_timeline_sized).Γ) (i : Nat) : PieceOk Tryz.prog 104 0 timeline_Merge_p2_code zqlw zqlx (timeline_Merge_p2_G (zqm6 i)) := by
  rw [show timeline_Merge_p2_code = .loop (loopBody timeline_Merge_p2_code) by kernel_rfl]
  exact piece_loop (X := (timeline_Merge_X c_clock_Valid c_timeline_copied c_timeline_sized)) (p := 1) (Λ := pick1 []) (G := fun i => @fun β d ks => timeline_Merge_p2_G (zqm6 i) d ks) mixed tab_ok hΓ rfl (by kernel_rfl) CutsOk_nil (fun _ _ => rfl) (fun i => @fun β d ks r h => Eq.trans (b := timeline_Merge_p2_G (zqm6 (i + 1)) d ks) (by kernel_rfl) h) i
def zqm8 {β : Type} (rec : (List (Int × (Int × Int))) → Int → Int → (List (List UInt8 × Int)) → (List (Int × (Int × (Int × Int)))) → (List zq0) → (List (Int × (Int × Int))) → (List (List UInt8 × Int)) → (List (Int × (Int × (Int × Int)))) → (List zq0) → (List (Int × (Int × Int))) → (List (List UInt8 × Int)) → (List (Int × (Int × (Int × Int)))) → (List zq0) → (List (Int × (Int × Int))) → Option β) (k1 : zqly β) (t73 : List (Int × (Int × Int))) (t74 : Int) (t75 : Int) (a : List (List UInt8 × Int)) (a2 : List (Int × (Int × (Int × Int)))) (a3 : List zq0) (a4 : List (Int × (Int × Int))) (b3_ : List (List UInt8 × Int)) (b4_ : List (Int × (Int × (Int × Int)))) (b5_ : List zq0) (b6_ : List (Int × (Int × Int))) (b7_ : List (List UInt8 × Int)) (b8_ : List (Int × (Int × (Int × Int)))) (b9_ : List zq0) (b10_ : List (Int × (Int × Int))) : Option β :=
  cond (decide (t75 < t74))
  (cond (decide (0 ≤ t75) && decide (t75 < (List.length t73 : Int)))
  (let e : (Int × (Int × Int)) := List.getD t73 (Int.toNat t75) ((0 : Int), ((0 : Int), (0 : Int)));
  let l : List (Int × (Int × Int)) := ([((IntKind.i64.wrap (e.1 + (List.length a3 : Int))), ((IntKind.i64.wrap (e.2.1 + (List.length a3 : Int))), e.2.2))] : List (Int × (Int × Int)));
  cond (decide ((List.length b10_ + List.length l) * 24 ≤ roomMax))
  (let l2 : List (Int × (Int × Int)) := (b10_ ++ l);
  rec t73 t74 (IntKind.i64.wrap (t75 + (1 : Int))) a a2 a3 a4 b3_ b4_ b5_ b6_ b7_ b8_ b9_ l2)
  none)
  none)
  (k1 b3_ b4_ b5_ b6_ b7_ b8_ b9_ b10_)
def zqm9 {β : Type} : Nat → zqly β → (List (Int × (Int × Int))) → Int → Int → (List (List UInt8 × Int)) → (List (Int × (Int × (Int × Int)))) → (List zq0) → (List (Int × (Int × Int))) → (List (List UInt8 × Int)) → (List (Int × (Int × (Int × Int)))) → (List zq0) → (List (Int × (Int × Int))) → (List (List UInt8 × Int)) → (List (Int × (Int × (Int × Int)))) → (List zq0) → (List (Int × (Int × Int))) → Option β
  | 0 => fun _ _ _ _ _ _ _ _ _ _ _ _ _ _ _ _ => none
  | i + 1 => fun k1 t73 t74 t75 a a2 a3 a4 b3_ b4_ b5_ b6_ b7_ b8_ b9_ b10_ => zqm8 (zqm9 i k1) k1 t73 t74 t75 a a2 a3 a4 b3_ b4_ b5_ b6_ b7_ b8_ b9_ b10_
theorem zqma (hΓ : ΓOk Tryz.prog (timeline_Merge_X c_clock_Valid c_timeline_copied c_timeline_sized).Γ) (i : Nat) : PieceOk Tryz.prog 104 0 timeline_Merge_p3_code zqm0 zqm1 (timeline_Merge_p3_G (zqm9 i)) := by
  rw [show timeline_Merge_p3_code = .loop (loopBody timeline_Merge_p3_code) by kernel_rfl]
  exact piece_loop (X := (timeline_Merge_X c_clock_Valid c_timeline_copied c_timeline_sized)) (p := 1) (Λ := pick1 []) (G := fun i => @fun β d ks => timeline_Merge_p3_G (zqm9 i) d ks) mixed tab_ok hΓ rfl (by kernel_rfl) CutsOk_nil (fun _ _ => rfl) (fun i => @fun β d ks r h => Eq.trans (b := timeline_Merge_p3_G (zqm9 (i + 1)) d ks) (by kernel_rfl) h) i
def zqmb (p1 : zqlr) (p2 : zqlv) (p3 : zqlz) {β : Type} (a : zq2) (b : zq2) (k : (zq2 → Int → Option β)) : Option β :=
  c_clock_Valid a (fun (rValid : Bool) =>
  cond (!rValid)
  (k (([] : List (List UInt8 × Int)), (([] : List (Int × (Int × (Int × Int)))), (([] : List zq0), ([] : List (Int × (Int × Int)))))) (8 : Int))
  (c_clock_Valid b (fun (rValid2 : Bool) =>
  cond (!rValid2)
  (k (([] : List (List UInt8 × Int)), (([] : List (Int × (Int × (Int × Int)))), (([] : List zq0), ([] : List (Int × (Int × Int)))))) (8 : Int))
  (c_timeline_copied a (fun (lrcopied : List (List UInt8 × Int)) (lrcopied2 : List (Int × (Int × (Int × Int)))) (lrcopied3 : List zq0) (lrcopied4 : List (Int × (Int × Int))) =>
  cond (decide ((List.length lrcopied + List.length b.1) * 24 ≤ roomMax))
  (let l : List (List UInt8 × Int) := (lrcopied ++ b.1);
  p1 (fun (a2 : List (List UInt8 × Int)) (a3 : List (Int × (Int × (Int × Int)))) (a4 : List zq0) (a5 : List (Int × (Int × Int))) (b2 : List (List UInt8 × Int)) (b3 : List (Int × (Int × (Int × Int)))) (b4 : List zq0) (b5 : List (Int × (Int × Int))) (b4_ : List (List UInt8 × Int)) (b5_ : List (Int × (Int × (Int × Int)))) (b6_ : List zq0) (b7_ : List (Int × (Int × Int))) (b8_ : List (List UInt8 × Int)) (b9_ : List (Int × (Int × (Int × Int)))) (b10_ : List zq0) (b11_ : List (Int × (Int × Int))) =>
  p2 (fun (a6 : List (List UInt8 × Int)) (a7 : List (Int × (Int × (Int × Int)))) (a8 : List zq0) (a9 : List (Int × (Int × Int))) (b6 : List (List UInt8 × Int)) (b7 : List (Int × (Int × (Int × Int)))) (b8 : List zq0) (b9 : List (Int × (Int × Int))) (b4_2 : List (List UInt8 × Int)) (b5_2 : List (Int × (Int × (Int × Int)))) (b6_2 : List zq0) (b7_2 : List (Int × (Int × Int))) (b8_2 : List (List UInt8 × Int)) (b9_2 : List (Int × (Int × (Int × Int)))) (b10_2 : List zq0) (b11_2 : List (Int × (Int × Int))) =>
  p3 (fun (b2_ : List (List UInt8 × Int)) (b3_ : List (Int × (Int × (Int × Int)))) (b4_3 : List zq0) (b5_3 : List (Int × (Int × Int))) (b6_3 : List (List UInt8 × Int)) (b7_3 : List (Int × (Int × (Int × Int)))) (b8_3 : List zq0) (b9_3 : List (Int × (Int × Int))) =>
  c_timeline_sized (b6_3, (b7_3, (b8_3, b9_3))) (fun (rsized : zq2) (rsized2 : Int) =>
  k rsized rsized2)) b9 (List.length b9 : Int) (0 : Int) a6 a7 a8 a9 b4_2 b5_2 b6_2 b7_2 b8_2 b9_2 b10_2 b11_2) b4 (List.length b4 : Int) (0 : Int) a2 a3 a4 a5 b2 b3 b4 b5 b4_ b5_ b6_ b7_ b8_ b9_ b10_ b11_) b.2.1 (List.length b.2.1 : Int) (0 : Int) a.1 a.2.1 a.2.2.1 a.2.2.2 b.1 b.2.1 b.2.2.1 b.2.2.2 ([] : List (List UInt8 × Int)) ([] : List (Int × (Int × (Int × Int)))) ([] : List zq0) ([] : List (Int × (Int × Int))) l lrcopied2 lrcopied3 lrcopied4)
  none)))))
theorem zqmc (hΓ : ΓOk Tryz.prog (timeline_Merge_X c_clock_Valid c_timeline_copied c_timeline_sized).Γ) (p1 : zqlr) (p2 : zqlv) (p3 : zqlz) (hp1 : PieceOk Tryz.prog 104 0 timeline_Merge_p1_code zqls zqlt (timeline_Merge_p1_G p1)) (hp2 : PieceOk Tryz.prog 104 0 timeline_Merge_p2_code zqlw zqlx (timeline_Merge_p2_G p2)) (hp3 : PieceOk Tryz.prog 104 0 timeline_Merge_p3_code zqm0 zqm1 (timeline_Merge_p3_G p3)) : SpecOk Tryz.prog 14 (zqlp (zqmb c_clock_Valid c_timeline_copied c_timeline_sized p1 p2 p3)) :=
  spec_exec (X := (timeline_Merge_X c_clock_Valid c_timeline_copied c_timeline_sized)) (Λ := pick1 [(250, pieceCut zqls zqlt (timeline_Merge_p1_G p1)), (506, pieceCut zqlw zqlx (timeline_Merge_p2_G p2)), (1018, pieceCut zqm0 zqm1 (timeline_Merge_p3_G p3))]) (rs := [.cell 4 32, .tmp 5]) (c := bodyOf Tryz.f14) mixed tab_ok hΓ Tryz.func14 (by kernel_rfl) (by kernel_rfl) (by kernel_rfl) (by kernel_rfl) (CutsOk_cons (q := 250) (c' := timeline_Merge_p1_code) (by kernel_rfl) rfl hp1 (CutsOk_cons (q := 506) (c' := timeline_Merge_p2_code) (by kernel_rfl) rfl hp2 (CutsOk_cons (q := 1018) (c' := timeline_Merge_p3_code) (by kernel_rfl) rfl hp3 CutsOk_nil))) (fun x k r h => Eq.trans (b := (zqlp (zqmb c_clock_Valid c_timeline_copied c_timeline_sized p1 p2 p3)).run x k) (by kernel_rfl) h)
end
theorem zqmdΓ : ΓOk Tryz.prog (pick1 [(33, .spec (zqhu zqja)), (34, .spec (zqcu zqcy)), (35, .spec (zq2e zq2i))]) := (ΓOk_cons zqjb (ΓOk_cons zqcz (ΓOk_cons zq2j ΓOk_nil)))
def zqme (m : Nat) : zqlr := zqm3 m
theorem zqmf {β : Type} (i : Nat) (k1 t31 t32 t33 a a2 a3 a4 b b2 b3 b4 b4_ b5_ b6_ b7_ b8_ b9_ b10_ b11_) : (zqme (i + 1) k1 t31 t32 t33 a a2 a3 a4 b b2 b3 b4 b4_ b5_ b6_ b7_ b8_ b9_ b10_ b11_ : Option β) = zqm2 (zqme i k1) k1 t31 t32 t33 a a2 a3 a4 b b2 b3 b4 b4_ b5_ b6_ b7_ b8_ b9_ b10_ b11_ := rfl
def zqmg : zqlr := zqme fuel
theorem zqmh : PieceOk Tryz.prog 104 0 timeline_Merge_p1_code zqls zqlt (timeline_Merge_p1_G zqmg) := zqm4 zqja zqcy zq2i zqmdΓ fuel
def zqmi (m : Nat) : zqlv := zqm6 m
theorem zqmj {β : Type} (i : Nat) (k1 t52 t53 t54 a a2 a3 a4 b b2 b3 b4 b4_ b5_ b6_ b7_ b8_ b9_ b10_ b11_) : (zqmi (i + 1) k1 t52 t53 t54 a a2 a3 a4 b b2 b3 b4 b4_ b5_ b6_ b7_ b8_ b9_ b10_ b11_ : Option β) = zqm5 (zqmi i k1) k1 t52 t53 t54 a a2 a3 a4 b b2 b3 b4 b4_ b5_ b6_ b7_ b8_ b9_ b10_ b11_ := rfl
def zqmk : zqlv := zqmi fuel
theorem zqml : PieceOk Tryz.prog 104 0 timeline_Merge_p2_code zqlw zqlx (timeline_Merge_p2_G zqmk) := zqm7 zqja zqcy zq2i zqmdΓ fuel
def zqmm (m : Nat) : zqlz := zqm9 m
theorem zqmn {β : Type} (i : Nat) (k1 t73 t74 t75 a a2 a3 a4 b3_ b4_ b5_ b6_ b7_ b8_ b9_ b10_) : (zqmm (i + 1) k1 t73 t74 t75 a a2 a3 a4 b3_ b4_ b5_ b6_ b7_ b8_ b9_ b10_ : Option β) = zqm8 (zqmm i k1) k1 t73 t74 t75 a a2 a3 a4 b3_ b4_ b5_ b6_ b7_ b8_ b9_ b10_ := rfl
def zqmo : zqlz := zqmm fuel
theorem zqmp : PieceOk Tryz.prog 104 0 timeline_Merge_p3_code zqm0 zqm1 (timeline_Merge_p3_G zqmo) := zqma zqja zqcy zq2i zqmdΓ fuel
def zqmq : zqlo := zqmb zqja zqcy zq2i zqmg zqmk zqmo
theorem zqmr : SpecOk Tryz.prog 14 (zqlp zqmq) := zqmc zqja zqcy zq2i zqmdΓ zqmg zqmk zqmo zqmh zqml zqmp

/-- pagewatch/pagewatchref40.closed -/
abbrev zqms := {β : Type} → zq2 → ((List (List Int)) → Bool → Option β) → Option β
def zqmt (c : zqms) : Spec :=
  ⟨[(true, [.data zq3])], [], [(false, [.data (.slice (.slice (.int .i64)))]), (false, [.data .bool])], [], fun x k => c x.1.1.1 (fun r0 r1 => k (((r0, ()), (r1, ()), ()), ()))⟩
section
variable (c_ref39_Close : zqe9) (c_ref40_Constraints : zqjc)
@[reducible] def ref40_closed_X : Ctx := ⟨look tab, pick1 [(54, .spec (zqea c_ref39_Close)), (36, .spec (zqjd c_ref40_Constraints))], false, false, false, false⟩
def zqmu {β : Type} (r_ : zq2) (k : ((List (List Int)) → Bool → Option β)) : Option β :=
  c_ref40_Constraints r_ (fun (rConstraints : Bool) (lrConstraints : List (Int × (Int × Int))) =>
  cond (!rConstraints)
  (k ([] : List (List Int)) false)
  (c_ref39_Close (IntKind.i64.wrap ((List.length r_.2.2.1 : Int) + (1 : Int))) lrConstraints (fun (rClose : List (List Int)) (rClose2 : Bool) =>
  k rClose rClose2)))
theorem zqmv (hΓ : ΓOk Tryz.prog (ref40_closed_X c_ref39_Close c_ref40_Constraints).Γ) : SpecOk Tryz.prog 30 (zqmt (zqmu c_ref39_Close c_ref40_Constraints)) :=
  spec_exec (X := (ref40_closed_X c_ref39_Close c_ref40_Constraints)) (Λ := pick1 []) (rs := [.tmp 2, .tmp 3]) (c := bodyOf Tryz.f30) mixed tab_ok hΓ Tryz.func30 (by kernel_rfl) (by kernel_rfl) (by kernel_rfl) (by kernel_rfl) CutsOk_nil (fun x k r h => Eq.trans (b := (zqmt (zqmu c_ref39_Close c_ref40_Constraints)).run x k) (by kernel_rfl) h)
end
theorem zqmwΓ : ΓOk Tryz.prog (pick1 [(54, .spec (zqea zqgv)), (36, .spec (zqjd zqkz))]) := (ΓOk_cons zqgw (ΓOk_cons zql0 ΓOk_nil))
def zqmx : zqms := zqmu zqgv zqkz
theorem zqmy : SpecOk Tryz.prog 30 (zqmt zqmx) := zqmv zqgv zqkz zqmwΓ

/-- pagewatch/clock.When -/
abbrev zqmz := {β : Type} → zq2 → Int → Int → ((Int × Int) → Bool → Option β) → Option β
def zqn0 (c : zqmz) : Spec :=
  ⟨[(true, [.data zq3]), (false, [.data (.int .i64)]), (false, [.data (.int .i64)])], [], [(true, [.data (.prod (.int .i64) (.int .i64))]), (false, [.data .bool])], [], fun x k => c x.1.1.1 x.1.2.1.1 x.1.2.2.1.1 (fun r0 r1 => k (((r0, ()), (r1, ()), ()), ()))⟩
noncomputable def clock_When_p1_code : Code := codeAt 122 (bodyOf Tryz.f81)
abbrev zqn1 (β : Type) := Int → Int → Int → Int → Option β
abbrev zqn2 := {β : Type} → zqn1 β → Int → Int → (List (Int × (Int × (Int × Int)))) → Int → Int → (List (List UInt8 × Int)) → (List (Int × (Int × (Int × Int)))) → (List zq0) → (List (Int × (Int × Int))) → Int → Int → Int → Int → Option β
def zqn3 : View := ⟨0, [1, 2, 3, 6, 8, 31, 32, 33], [(false, [.data (.int .i64)]), (false, [.data (.int .i64)]), (false, [.ptr 0 0]), (false, [.ptr 1 0]), (false, [.ptr 2 0]), (false, [.data (.slice (.prod (.int .i64) (.prod (.int .i64) (.prod (.int .i64) (.int .i64)))))]), (false, [.data (.int .i64)]), (false, [.data (.int .i64)])], [.cells 32 [.data (.slice (.prod .str (.int .i64))), .data (.slice (.prod (.int .i64) (.prod (.int .i64) (.prod (.int .i64) (.int .i64))))), .data (.slice zq1), .data (.slice (.prod (.int .i64) (.prod (.int .i64) (.int .i64))))], .cells 40 [.data (.int .i64), .data (.int .i64)], .cells 40 [.data (.int .i64), .data (.int .i64)]]⟩
def zqn4 : List (AExit × View) := [(.exit 0, ⟨0, [6, 8], [(false, [.ptr 0 0]), (false, [.ptr 1 0])], [.cells 40 [.data (.int .i64), .data (.int .i64)], .cells 40 [.data (.int .i64), .data (.int .i64)]]⟩)]
@[reducible] def clock_When_p1_G (p : zqn2) {β : Type} (d : zqn3.den) (ks : Outs.K β zqn4) : Option β :=
  p (fun a0 a1 a2 a3 => ks.1 (((), (), ()), ((a0, a1, ()), (a2, a3, ()), ()))) d.1.1.1 d.1.2.1.1 d.1.2.2.2.2.2.1.1 d.1.2.2.2.2.2.2.1.1 d.1.2.2.2.2.2.2.2.1.1 d.2.1.1 d.2.1.2.1 d.2.1.2.2.1 d.2.1.2.2.2.1 d.2.2.1.1 d.2.2.1.2.1 d.2.2.2.1.1 d.2.2.2.1.2.1
section
variable (c_clock_Empty : zqa6) (c_clock_From : zqlh) (c_clock_Meet : zq9z) (c_clock_Valid : zqht) (c_clock_in : zq4a) (c_clock_instant : zq4h)
@[reducible] def clock_When_X : Ctx := ⟨look tab, pick1 [(102, .spec (zqa7 c_clock_Empty)), (101, .spec (zqli c_clock_From)), (100, .spec (zqa0 c_clock_Meet)), (33, .spec (zqhu c_clock_Valid)), (55, .spec (zq4b c_clock_in)), (57, .spec (zq4i c_clock_instant))], false, false, false, false⟩
def zqn5 {β : Type} (rec : Int → Int → (List (Int × (Int × (Int × Int)))) → Int → Int → (List (List UInt8 × Int)) → (List (Int × (Int × (Int × Int)))) → (List zq0) → (List (Int × (Int × Int))) → Int → Int → Int → Int → Option β) (k1 : zqn1 β) (host : Int) (clock : Int) (t31 : List (Int × (Int × (Int × Int)))) (t32 : Int) (t33 : Int) (r_ : List (List UInt8 × Int)) (r_2 : List (Int × (Int × (Int × Int)))) (r_3 : List zq0) (r_4 : List (Int × (Int × Int))) (t6 : Int) (t62 : Int) (out : Int) (out2 : Int) : Option β :=
  cond (decide (t33 < t32))
  (cond (decide (0 ≤ t33) && decide (t33 < (List.length t31 : Int)))
  (let e : (Int × (Int × (Int × Int))) := List.getD t31 (Int.toNat t33) ((0 : Int), ((0 : Int), ((0 : Int), (0 : Int))));
  cond (decide (e.1 = host))
  (cond (decide (0 ≤ host) && decide (host < (List.length r_ : Int)))
  (let e2 : (List UInt8 × Int) := List.getD r_ (Int.toNat host) (([] : List UInt8), (0 : Int));
  c_clock_From e2 e clock (fun (rFrom : (Int × Int)) =>
  c_clock_Meet (out, out2) rFrom (fun (rMeet : (Int × Int)) =>
  rec host clock t31 t32 (IntKind.i64.wrap (t33 + (1 : Int))) r_ r_2 r_3 r_4 t6 t62 rMeet.1 rMeet.2)))
  none)
  (rec host clock t31 t32 (IntKind.i64.wrap (t33 + (1 : Int))) r_ r_2 r_3 r_4 t6 t62 out out2))
  none)
  (k1 t6 t62 out out2)
def zqn6 {β : Type} : Nat → zqn1 β → Int → Int → (List (Int × (Int × (Int × Int)))) → Int → Int → (List (List UInt8 × Int)) → (List (Int × (Int × (Int × Int)))) → (List zq0) → (List (Int × (Int × Int))) → Int → Int → Int → Int → Option β
  | 0 => fun _ _ _ _ _ _ _ _ _ _ _ _ _ _ => none
  | i + 1 => fun k1 host clock t31 t32 t33 r_ r_2 r_3 r_4 t6 t62 out out2 => zqn5 c_clock_From c_clock_Meet (zqn6 i k1) k1 host clock t31 t32 t33 r_ r_2 r_3 r_4 t6 t62 out out2
theorem zqn7 (hΓ : ΓOk Tryz.prog (clock_When_X c_clock_Empty c_clock_From c_clock_Meet c_clock_Valid c_clock_in c_clock_instant).Γ) (i : Nat) : PieceOk Tryz.prog 56 0 clock_When_p1_code zqn3 zqn4 (clock_When_p1_G (zqn6 c_clock_From c_clock_Meet i)) := by
  rw [show clock_When_p1_code = .loop (loopBody clock_When_p1_code) by kernel_rfl]
  exact piece_loop (X := (clock_When_X c_clock_Empty c_clock_From c_clock_Meet c_clock_Valid c_clock_in c_clock_instant)) (p := 1) (Λ := pick1 []) (G := fun i => @fun β d ks => clock_When_p1_G (zqn6 c_clock_From c_clock_Meet i) d ks) mixed tab_ok hΓ rfl (by kernel_rfl) CutsOk_nil (fun _ _ => rfl) (fun i => @fun β d ks r h => Eq.trans (b := clock_When_p1_G (zqn6 c_clock_From c_clock_Meet (i + 1)) d ks) (by kernel_rfl) h) i
def zqn8 (p1 : zqn2) {β : Type} (r_ : zq2) (host : Int) (clock : Int) (k : ((Int × Int) → Bool → Option β)) : Option β :=
  c_clock_Valid r_ (fun (rValid : Bool) =>
  cond (!rValid)
  (k ((0 : Int), (0 : Int)) false)
  (c_clock_in host (0 : Int) (IntKind.i64.wrap ((List.length r_.1 : Int) - (1 : Int))) (fun (rin : Bool) =>
  cond (!rin)
  (k ((0 : Int), (0 : Int)) false)
  (c_clock_instant clock (fun (rinstant : Bool) =>
  cond (!rinstant)
  (k ((0 : Int), (0 : Int)) false)
  (p1 (fun (t6 : Int) (t62 : Int) (out : Int) (out2 : Int) =>
  c_clock_Empty (out, out2) (fun (rEmpty : Bool) =>
  k (out, out2) (!rEmpty))) host clock r_.2.1 (List.length r_.2.1 : Int) (0 : Int) r_.1 r_.2.1 r_.2.2.1 r_.2.2.2 (0 : Int) (0 : Int) (0 : Int) (8589934592 : Int)))))))
theorem zqn9 (hΓ : ΓOk Tryz.prog (clock_When_X c_clock_Empty c_clock_From c_clock_Meet c_clock_Valid c_clock_in c_clock_instant).Γ) (p1 : zqn2) (hp1 : PieceOk Tryz.prog 56 0 clock_When_p1_code zqn3 zqn4 (clock_When_p1_G p1)) : SpecOk Tryz.prog 81 (zqn0 (zqn8 c_clock_Empty c_clock_Valid c_clock_in c_clock_instant p1)) :=
  spec_exec (X := (clock_When_X c_clock_Empty c_clock_From c_clock_Meet c_clock_Valid c_clock_in c_clock_instant)) (Λ := pick1 [(122, pieceCut zqn3 zqn4 (clock_When_p1_G p1))]) (rs := [.cell 6 40, .tmp 7]) (c := bodyOf Tryz.f81) mixed tab_ok hΓ Tryz.func81 (by kernel_rfl) (by kernel_rfl) (by kernel_rfl) (by kernel_rfl) (CutsOk_cons (q := 122) (c' := clock_When_p1_code) (by kernel_rfl) rfl hp1 CutsOk_nil) (fun x k r h => Eq.trans (b := (zqn0 (zqn8 c_clock_Empty c_clock_Valid c_clock_in c_clock_instant p1)).run x k) (by kernel_rfl) h)
end
theorem zqnaΓ : ΓOk Tryz.prog (pick1 [(102, .spec (zqa7 zqab)), (101, .spec (zqli zqlm)), (100, .spec (zqa0 zqa4)), (33, .spec (zqhu zqja)), (55, .spec (zq4b zq4f)), (57, .spec (zq4i zq4m))]) := (ΓOk_cons zqac (ΓOk_cons zqln (ΓOk_cons zqa5 (ΓOk_cons zqjb (ΓOk_cons zq4g (ΓOk_cons zq4n ΓOk_nil))))))
def zqnb (m : Nat) : zqn2 := zqn6 zqlm zqa4 m
theorem zqnc {β : Type} (i : Nat) (k1 host clock t31 t32 t33 r_ r_2 r_3 r_4 t6 t62 out out2) : (zqnb (i + 1) k1 host clock t31 t32 t33 r_ r_2 r_3 r_4 t6 t62 out out2 : Option β) = zqn5 zqlm zqa4 (zqnb i k1) k1 host clock t31 t32 t33 r_ r_2 r_3 r_4 t6 t62 out out2 := rfl
def zqnd : zqn2 := zqnb fuel
theorem zqne : PieceOk Tryz.prog 56 0 clock_When_p1_code zqn3 zqn4 (clock_When_p1_G zqnd) := zqn7 zqab zqlm zqa4 zqja zq4f zq4m zqnaΓ fuel
def zqnf : zqmz := zqn8 zqab zqja zq4f zq4m zqnd
theorem zqng : SpecOk Tryz.prog 81 (zqn0 zqnf) := zqn9 zqab zqlm zqa4 zqja zq4f zq4m zqnaΓ zqnd zqne

/-- slices.IndexFunc[[]pagewatch/api.Diff,pagewatch/api.Diff] -/
abbrev zqnh := {β : Type} → (List (Int × (Int × Int))) → Int → (Int → Int → Option β) → Option β
def zqni (c : zqnh) : Spec :=
  ⟨[(false, [.data (.slice (.prod (.int .i64) (.prod (.int .i64) (.int .i64))))]), (false, [.fn 106 [0]])], [.cells 3 [.data (.int .i64)]], [(false, [.data (.int .i64)])], [.cells 3 [.data (.int .i64)]], fun x k => c x.1.1.1 x.2.1.1 (fun r0 r1 => k (((r0, ()), ()), ((r1, ()), ())))⟩
noncomputable def slices_IndexFunc_api_Diff_api_Diff_vconstraint_Valid_f1_p1_code : Code := codeAt 26 (bodyOf Tryz.f118)
abbrev zqnj (β : Type) := Int → Int → Option β
abbrev zqnk (β : Type) := Int → Option β
abbrev zqnl := {β : Type} → zqnj β → zqnk β → (List (Int × (Int × Int))) → Int → Int → Int → Option β
def zqnm : View := ⟨1, [0, 1, 7, 8], [(false, [.data (.slice (.prod (.int .i64) (.prod (.int .i64) (.int .i64))))]), (false, [.fn 106 [0]]), (false, [.data (.int .i64)]), (false, [.data (.int .i64)])], [.cells 3 [.data (.int .i64)]]⟩
def zqnn : List (AExit × View) := [(.ret, ⟨1, [4], [(false, [.data (.int .i64)])], [.cells 3 [.data (.int .i64)]]⟩), (.exit 0, ⟨1, [], [], [.cells 3 [.data (.int .i64)]]⟩)]
@[reducible] def slices_IndexFunc_api_Diff_api_Diff_vconstraint_Valid_f1_p1_G (p : zqnl) {β : Type} (d : zqnm.den) (ks : Outs.K β zqnn) : Option β :=
  p (fun a0 a1 => ks.1 (((a0, ()), ()), ((a1, ()), ()))) (fun a0 => ks.2.1 ((), ((a0, ()), ()))) d.1.1.1 d.1.2.2.1.1 d.1.2.2.2.1.1 d.2.1.1
section
variable (c_constraint_Valid_f1 : zqak)
@[reducible] def slices_IndexFunc_api_Diff_api_Diff_vconstraint_Valid_f1_X : Ctx := ⟨look tab, pick1 [(106, .spec (zqal c_constraint_Valid_f1))], false, false, false, false⟩
def zqno {β : Type} (rec : (List (Int × (Int × Int))) → Int → Int → Int → Option β) (k1 : zqnj β) (k2 : zqnk β) (s : List (Int × (Int × Int))) (t7 : Int) (t8 : Int) (b0_ : Int) : Option β :=
  cond (decide (t8 < t7))
  (cond (decide (0 ≤ t8) && decide (t8 < (List.length s : Int)))
  (let e : (Int × (Int × Int)) := List.getD s (Int.toNat t8) ((0 : Int), ((0 : Int), (0 : Int)));
  c_constraint_Valid_f1 e b0_ (fun (rValid1 : Bool) (mrValid1 : Int) =>
  cond rValid1
  (k1 t8 mrValid1)
  (rec s t7 (IntKind.i64.wrap (t8 + (1 : Int))) mrValid1)))
  none)
  (k2 b0_)
def zqnp {β : Type} : Nat → zqnj β → zqnk β → (List (Int × (Int × Int))) → Int → Int → Int → Option β
  | 0 => fun _ _ _ _ _ _ => none
  | i + 1 => fun k1 k2 s t7 t8 b0_ => zqno c_constraint_Valid_f1 (zqnp i k1 k2) k1 k2 s t7 t8 b0_
theorem zqnq (hΓ : ΓOk Tryz.prog (slices_IndexFunc_api_Diff_api_Diff_vconstraint_Valid_f1_X c_constraint_Valid_f1).Γ) (i : Nat) : PieceOk Tryz.prog 19 1 slices_IndexFunc_api_Diff_api_Diff_vconstraint_Valid_f1_p1_code zqnm zqnn (slices_IndexFunc_api_Diff_api_Diff_vconstraint_Valid_f1_p1_G (zqnp c_constraint_Valid_f1 i)) := by
  rw [show slices_IndexFunc_api_Diff_api_Diff_vconstraint_Valid_f1_p1_code = .loop (loopBody slices_IndexFunc_api_Diff_api_Diff_vconstraint_Valid_f1_p1_code) by kernel_rfl]
  exact piece_loop (X := (slices_IndexFunc_api_Diff_api_Diff_vconstraint_Valid_f1_X c_constraint_Valid_f1)) (p := 1) (Λ := pick1 []) (G := fun i => @fun β d ks => slices_IndexFunc_api_Diff_api_Diff_vconstraint_Valid_f1_p1_G (zqnp c_constraint_Valid_f1 i) d ks) mixed tab_ok hΓ rfl (by kernel_rfl) CutsOk_nil (fun _ _ => rfl) (fun i => @fun β d ks r h => Eq.trans (b := slices_IndexFunc_api_Diff_api_Diff_vconstraint_Valid_f1_p1_G (zqnp c_constraint_Valid_f1 (i + 1)) d ks) (by kernel_rfl) h) i
def zqnr (p1 : zqnl) {β : Type} (s : List (Int × (Int × Int))) (b0_ : Int) (k : (Int → Int → Option β)) : Option β :=
  p1 (fun (t4 : Int) (b0_2 : Int) =>
  k t4 b0_2) (fun (b0_2 : Int) =>
  k (-1 : Int) b0_2) s (List.length s : Int) (0 : Int) b0_
theorem zqns (hΓ : ΓOk Tryz.prog (slices_IndexFunc_api_Diff_api_Diff_vconstraint_Valid_f1_X c_constraint_Valid_f1).Γ) (p1 : zqnl) (hp1 : PieceOk Tryz.prog 19 1 slices_IndexFunc_api_Diff_api_Diff_vconstraint_Valid_f1_p1_code zqnm zqnn (slices_IndexFunc_api_Diff_api_Diff_vconstraint_Valid_f1_p1_G p1)) : SpecOk Tryz.prog 118 (zqni (zqnr p1)) :=
  spec_exec (X := (slices_IndexFunc_api_Diff_api_Diff_vconstraint_Valid_f1_X c_constraint_Valid_f1)) (Λ := pick1 [(26, pieceCut zqnm zqnn (slices_IndexFunc_api_Diff_api_Diff_vconstraint_Valid_f1_p1_G p1))]) (rs := [.tmp 4]) (c := bodyOf Tryz.f118) mixed tab_ok hΓ Tryz.func118 (by kernel_rfl) (by kernel_rfl) (by kernel_rfl) (by kernel_rfl) (CutsOk_cons (q := 26) (c' := slices_IndexFunc_api_Diff_api_Diff_vconstraint_Valid_f1_p1_code) (by kernel_rfl) rfl hp1 CutsOk_nil) (fun x k r h => Eq.trans (b := (zqni (zqnr p1)).run x k) (by kernel_rfl) h)
end
theorem zqntΓ : ΓOk Tryz.prog (pick1 [(106, .spec (zqal zqap))]) := (ΓOk_cons zqaq ΓOk_nil)
def zqnu (m : Nat) : zqnl := zqnp zqap m
theorem zqnv {β : Type} (i : Nat) (k1 k2 s t7 t8 b0_) : (zqnu (i + 1) k1 k2 s t7 t8 b0_ : Option β) = zqno zqap (zqnu i k1 k2) k1 k2 s t7 t8 b0_ := rfl
def zqnw : zqnl := zqnu fuel
theorem zqnx : PieceOk Tryz.prog 19 1 slices_IndexFunc_api_Diff_api_Diff_vconstraint_Valid_f1_p1_code zqnm zqnn (slices_IndexFunc_api_Diff_api_Diff_vconstraint_Valid_f1_p1_G zqnw) := zqnq zqap zqntΓ fuel
def zqny : zqnh := zqnr zqnw
theorem zqnz : SpecOk Tryz.prog 118 (zqni zqny) := zqns zqap zqntΓ zqnw zqnx

/-- pagewatch/pagewatchref40.Compare -/
abbrev zqo0 := {β : Type} → zq2 → Int → Int → (Int → Bool → Option β) → Option β
def zqo1 (c : zqo0) : Spec :=
  ⟨[(true, [.data zq3]), (false, [.data (.int .i64)]), (false, [.data (.int .i64)])], [], [(false, [.data (.int .i64)]), (false, [.data .bool])], [], fun x k => c x.1.1.1 x.1.2.1.1 x.1.2.2.1.1 (fun r0 r1 => k (((r0, ()), (r1, ()), ()), ()))⟩
section
variable (c_ref25_In : zq1z) (c_ref40_closed : zqms) (c_ref40_compare : zq26)
@[reducible] def ref40_Compare_X : Ctx := ⟨look tab, pick1 [(31, .spec (zq20 c_ref25_In)), (30, .spec (zqmt c_ref40_closed)), (32, .spec (zq27 c_ref40_compare))], false, false, false, false⟩
def zqo2 {β : Type} (r_ : zq2) (a : Int) (b : Int) (k : (Int → Bool → Option β)) : Option β :=
  c_ref40_closed r_ (fun (rclosed : List (List Int)) (rclosed2 : Bool) =>
  cond (!rclosed2)
  (k (0 : Int) false)
  (c_ref25_In a (0 : Int) (IntKind.i64.wrap ((List.length r_.2.2.1 : Int) - (1 : Int))) (fun (rIn : Bool) =>
  cond (!rIn)
  (k (0 : Int) false)
  (c_ref25_In b (0 : Int) (IntKind.i64.wrap ((List.length r_.2.2.1 : Int) - (1 : Int))) (fun (rIn2 : Bool) =>
  cond (!rIn2)
  (k (0 : Int) false)
  (c_ref40_compare rclosed a b (fun (rcompare : Int) =>
  k rcompare true)))))))
theorem zqo3 (hΓ : ΓOk Tryz.prog (ref40_Compare_X c_ref25_In c_ref40_closed c_ref40_compare).Γ) : SpecOk Tryz.prog 13 (zqo1 (zqo2 c_ref25_In c_ref40_closed c_ref40_compare)) :=
  spec_exec (X := (ref40_Compare_X c_ref25_In c_ref40_closed c_ref40_compare)) (Λ := pick1 []) (rs := [.tmp 6, .tmp 7]) (c := bodyOf Tryz.f13) mixed tab_ok hΓ Tryz.func13 (by kernel_rfl) (by kernel_rfl) (by kernel_rfl) (by kernel_rfl) CutsOk_nil (fun x k r h => Eq.trans (b := (zqo1 (zqo2 c_ref25_In c_ref40_closed c_ref40_compare)).run x k) (by kernel_rfl) h)
end
theorem zqo4Γ : ΓOk Tryz.prog (pick1 [(31, .spec (zq20 zq24)), (30, .spec (zqmt zqmx)), (32, .spec (zq27 zq2b))]) := (ΓOk_cons zq25 (ΓOk_cons zqmy (ΓOk_cons zq2c ΓOk_nil)))
def zqo5 : zqo0 := zqo2 zq24 zqmx zq2b
theorem zqo6 : SpecOk Tryz.prog 13 (zqo1 zqo5) := zqo3 zq24 zqmx zq2b zqo4Γ

/-- pagewatch/pagewatchref40.Consistent -/
abbrev zqo7 := {β : Type} → zq2 → (Bool → Option β) → Option β
def zqo8 (c : zqo7) : Spec :=
  ⟨[(true, [.data zq3])], [], [(false, [.data .bool])], [], fun x k => c x.1.1.1 (fun r0 => k (((r0, ()), ()), ()))⟩
section
variable (c_ref40_closed : zqms)
@[reducible] def ref40_Consistent_X : Ctx := ⟨look tab, pick1 [(30, .spec (zqmt c_ref40_closed))], false, false, false, false⟩
def zqo9 {β : Type} (r_ : zq2) (k : (Bool → Option β)) : Option β :=
  c_ref40_closed r_ (fun (rclosed : List (List Int)) (rclosed2 : Bool) =>
  k rclosed2)
theorem zqoa (hΓ : ΓOk Tryz.prog (ref40_Consistent_X c_ref40_closed).Γ) : SpecOk Tryz.prog 15 (zqo8 (zqo9 c_ref40_closed)) :=
  spec_exec (X := (ref40_Consistent_X c_ref40_closed)) (Λ := pick1 []) (rs := [.tmp 2]) (c := bodyOf Tryz.f15) mixed tab_ok hΓ Tryz.func15 (by kernel_rfl) (by kernel_rfl) (by kernel_rfl) (by kernel_rfl) CutsOk_nil (fun x k r h => Eq.trans (b := (zqo8 (zqo9 c_ref40_closed)).run x k) (by kernel_rfl) h)
end
theorem zqobΓ : ΓOk Tryz.prog (pick1 [(30, .spec (zqmt zqmx))]) := (ΓOk_cons zqmy ΓOk_nil)
def zqoc : zqo7 := zqo9 zqmx
theorem zqod : SpecOk Tryz.prog 15 (zqo8 zqoc) := zqoa zqmx zqobΓ

/-- pagewatch/pagewatchref40.When -/
abbrev zqoe := {β : Type} → zq2 → (Bool → (List (Int × Int)) → Option β) → Option β
def zqof (c : zqoe) : Spec :=
  ⟨[(true, [.data zq3])], [], [(false, [.rowh 0]), (false, [.data .bool])], [.row 40 (.prod (.int .i64) (.int .i64))], fun x k => c x.1.1.1 (fun r0 r1 => k (((), (r0, ()), ()), (r1, ())))⟩
noncomputable def ref40_When_p1_code : Code := codeAt 250 (bodyOf Tryz.f16)
abbrev zqog (β : Type) := (List (Int × Int)) → Option β
abbrev zqoh := {β : Type} → zqog β → (List (List Int)) → Int → (List (List UInt8 × Int)) → (List (Int × (Int × (Int × Int)))) → (List zq0) → (List (Int × (Int × Int))) → (List (Int × Int)) → Option β
def zqoi : View := ⟨0, [1, 4, 6, 7], [(false, [.ptr 0 0]), (false, [.data (.slice (.slice (.int .i64)))]), (false, [.rowh 1]), (false, [.data (.int .i64)])], [.cells 32 [.data (.slice (.prod .str (.int .i64))), .data (.slice (.prod (.int .i64) (.prod (.int .i64) (.prod (.int .i64) (.int .i64))))), .data (.slice zq1), .data (.slice (.prod (.int .i64) (.prod (.int .i64) (.int .i64))))], .row 40 (.prod (.int .i64) (.int .i64))]⟩
def zqoj : List (AExit × View) := [(.exit 0, ⟨0, [6], [(false, [.rowh 0])], [.row 40 (.prod (.int .i64) (.int .i64))]⟩)]
@[reducible] def ref40_When_p1_G (p : zqoh) {β : Type} (d : zqoi.den) (ks : Outs.K β zqoj) : Option β :=
  p (fun a0 => ks.1 (((), ()), (a0, ()))) d.1.2.1.1 d.1.2.2.2.1.1 d.2.1.1 d.2.1.2.1 d.2.1.2.2.1 d.2.1.2.2.2.1 d.2.2.1
section
variable (c_ref40_closed : zqms)
@[reducible] def ref40_When_X : Ctx := ⟨look tab, pick1 [(30, .spec (zqmt c_ref40_closed))], false, false, false, false⟩
def zqok {β : Type} (rec : (List (List Int)) → Int → (List (List UInt8 × Int)) → (List (Int × (Int × (Int × Int)))) → (List zq0) → (List (Int × (Int × Int))) → (List (Int × Int)) → Option β) (k1 : zqog β) (d : List (List Int)) (i_ : Int) (r_ : List (List UInt8 × Int)) (r_2 : List (Int × (Int × (Int × Int)))) (r_3 : List zq0) (r_4 : List (Int × (Int × Int))) (out : List (Int × Int)) : Option β :=
  cond (decide (i_ < (List.length r_3 : Int)))
  (cond (decide (0 ≤ (IntKind.i64.wrap (i_ + (1 : Int)))) && decide ((IntKind.i64.wrap (i_ + (1 : Int))) < (List.length d : Int)))
  (let e : List Int := List.getD d (Int.toNat (IntKind.i64.wrap (i_ + (1 : Int)))) ([] : List Int);
  cond (decide (0 ≤ (0 : Int)) && decide ((0 : Int) < (List.length e : Int)))
  (let e2 : Int := List.getD e (Int.toNat (0 : Int)) (0 : Int);
  cond (decide (0 ≤ (0 : Int)) && decide ((0 : Int) < (List.length d : Int)))
  (let e3 : List Int := List.getD d (Int.toNat (0 : Int)) ([] : List Int);
  cond (decide (0 ≤ (IntKind.i64.wrap (i_ + (1 : Int)))) && decide ((IntKind.i64.wrap (i_ + (1 : Int))) < (List.length e3 : Int)))
  (let e4 : Int := List.getD e3 (Int.toNat (IntKind.i64.wrap (i_ + (1 : Int)))) (0 : Int);
  let l : List (Int × Int) := ([((IntKind.i64.wrap (0 - e2)), e4)] : List (Int × Int));
  cond (decide ((List.length out + List.length l) * 16 ≤ roomMax))
  (let l2 : List (Int × Int) := (out ++ l);
  let i_2 : Int := (IntKind.i64.wrap (i_ + (1 : Int)));
  rec d i_2 r_ r_2 r_3 r_4 l2)
  none)
  none)
  none)
  none)
  none)
  (k1 out)
def zqol {β : Type} : Nat → zqog β → (List (List Int)) → Int → (List (List UInt8 × Int)) → (List (Int × (Int × (Int × Int)))) → (List zq0) → (List (Int × (Int × Int))) → (List (Int × Int)) → Option β
  | 0 => fun _ _ _ _ _ _ _ _ => none
  | i + 1 => fun k1 d i_ r_ r_2 r_3 r_4 out => zqok (zqol i k1) k1 d i_ r_ r_2 r_3 r_4 out
theorem zqom (hΓ : ΓOk Tryz.prog (ref40_When_X c_ref40_closed).Γ) (i : Nat) : PieceOk Tryz.prog 42 0 ref40_When_p1_code zqoi zqoj (ref40_When_p1_G (zqol i)) := by
  rw [show ref40_When_p1_code = .loop (loopBody ref40_When_p1_code) by kernel_rfl]
  exact piece_loop (X := (ref40_When_X c_ref40_closed)) (p := 1) (Λ := pick1 []) (G := fun i => @fun β d ks => ref40_When_p1_G (zqol i) d ks) mixed tab_ok hΓ rfl (by kernel_rfl) CutsOk_nil (fun _ _ => rfl) (fun i => @fun β d ks r h => Eq.trans (b := ref40_When_p1_G (zqol (i + 1)) d ks) (by kernel_rfl) h) i
def zqon (p1 : zqoh) {β : Type} (r_ : zq2) (k : (Bool → (List (Int × Int)) → Option β)) : Option β :=
  c_ref40_closed r_ (fun (rclosed : List (List Int)) (rclosed2 : Bool) =>
  cond (!rclosed2)
  (k false ([] : List (Int × Int)))
  (p1 (fun (out : List (Int × Int)) =>
  k true out) rclosed (0 : Int) r_.1 r_.2.1 r_.2.2.1 r_.2.2.2 ([] : List (Int × Int))))
theorem zqoo (hΓ : ΓOk Tryz.prog (ref40_When_X c_ref40_closed).Γ) (p1 : zqoh) (hp1 : PieceOk Tryz.prog 42 0 ref40_When_p1_code zqoi zqoj (ref40_When_p1_G p1)) : SpecOk Tryz.prog 16 (zqof (zqon c_ref40_closed p1)) :=
  spec_exec (X := (ref40_When_X c_ref40_closed)) (Λ := pick1 [(250, pieceCut zqoi zqoj (ref40_When_p1_G p1))]) (rs := [.tmp 2, .tmp 3]) (c := bodyOf Tryz.f16) mixed tab_ok hΓ Tryz.func16 (by kernel_rfl) (by kernel_rfl) (by kernel_rfl) (by kernel_rfl) (CutsOk_cons (q := 250) (c' := ref40_When_p1_code) (by kernel_rfl) rfl hp1 CutsOk_nil) (fun x k r h => Eq.trans (b := (zqof (zqon c_ref40_closed p1)).run x k) (by kernel_rfl) h)
end
theorem zqopΓ : ΓOk Tryz.prog (pick1 [(30, .spec (zqmt zqmx))]) := (ΓOk_cons zqmy ΓOk_nil)
def zqoq (m : Nat) : zqoh := zqol m
theorem zqor {β : Type} (i : Nat) (k1 d i_ r_ r_2 r_3 r_4 out) : (zqoq (i + 1) k1 d i_ r_ r_2 r_3 r_4 out : Option β) = zqok (zqoq i k1) k1 d i_ r_ r_2 r_3 r_4 out := rfl
def zqos : zqoh := zqoq fuel
theorem zqot : PieceOk Tryz.prog 42 0 ref40_When_p1_code zqoi zqoj (ref40_When_p1_G zqos) := zqom zqmx zqopΓ fuel
def zqou : zqoe := zqon zqmx zqos
theorem zqov : SpecOk Tryz.prog 16 (zqof zqou) := zqoo zqmx zqopΓ zqos zqot

/-- pagewatch/pagewatchref40.Fits -/
abbrev zqow := {β : Type} → zq2 → (List Int) → (Bool → Option β) → Option β
def zqox (c : zqow) : Spec :=
  ⟨[(true, [.data zq3]), (false, [.data (.slice (.int .i64))])], [], [(false, [.data .bool])], [], fun x k => c x.1.1.1 x.1.2.1.1 (fun r0 => k (((r0, ()), ()), ()))⟩
noncomputable def ref40_Fits_p1_code : Code := codeAt 122 (bodyOf Tryz.f18)
abbrev zqoy (β : Type) := Bool → Option β
abbrev zqoz (β : Type) := (List Int) → (List (Int × (Int × Int))) → Option β
abbrev zqp0 := {β : Type} → zqoy β → zqoz β → (List Int) → Int → (List (Int × (Int × Int))) → Option β
def zqp1 : View := ⟨0, [1, 5, 7], [(false, [.data (.slice (.int .i64))]), (false, [.rowh 0]), (false, [.data (.int .i64)])], [.row 122 (.prod (.int .i64) (.prod (.int .i64) (.int .i64)))]⟩
def zqp2 : List (AExit × View) := [(.ret, ⟨0, [4], [(false, [.data .bool])], []⟩), (.exit 0, ⟨0, [1, 5], [(false, [.data (.slice (.int .i64))]), (false, [.rowh 0])], [.row 122 (.prod (.int .i64) (.prod (.int .i64) (.int .i64)))]⟩)]
@[reducible] def ref40_Fits_p1_G (p : zqp0) {β : Type} (d : zqp1.den) (ks : Outs.K β zqp2) : Option β :=
  p (fun a0 => ks.1 (((a0, ()), ()), ())) (fun a0 a1 => ks.2.1 (((a0, ()), (), ()), (a1, ()))) d.1.1.1 d.1.2.2.1.1 d.2.1
section
variable (c_ref25_In : zq1z) (c_ref39_Fits : zqd0) (c_ref40_Consistent : zqo7) (c_ref40_Constraints : zqjc)
@[reducible] def ref40_Fits_X : Ctx := ⟨look tab, pick1 [(31, .spec (zq20 c_ref25_In)), (37, .spec (zqd1 c_ref39_Fits)), (15, .spec (zqo8 c_ref40_Consistent)), (36, .spec (zqjd c_ref40_Constraints))], false, false, false, false⟩
def zqp3 {β : Type} (rec : (List Int) → Int → (List (Int × (Int × Int))) → Option β) (k1 : zqoy β) (k2 : zqoz β) (times : List Int) (i_ : Int) (l : List (Int × (Int × Int))) : Option β :=
  cond (decide (i_ < (List.length times : Int)))
  (cond (decide (0 ≤ i_) && decide (i_ < (List.length times : Int)))
  (let e : Int := List.getD times (Int.toNat i_) (0 : Int);
  c_ref25_In e (0 : Int) (8589934592 : Int) (fun (rIn : Bool) =>
  cond (!rIn)
  (k1 false)
  (let i_2 : Int := (IntKind.i64.wrap (i_ + (1 : Int)));
  rec times i_2 l)))
  none)
  (k2 times l)
def zqp4 {β : Type} : Nat → zqoy β → zqoz β → (List Int) → Int → (List (Int × (Int × Int))) → Option β
  | 0 => fun _ _ _ _ _ => none
  | i + 1 => fun k1 k2 times i_ l => zqp3 c_ref25_In (zqp4 i k1 k2) k1 k2 times i_ l
theorem zqp5 (hΓ : ΓOk Tryz.prog (ref40_Fits_X c_ref25_In c_ref39_Fits c_ref40_Consistent c_ref40_Constraints).Γ) (i : Nat) : PieceOk Tryz.prog 48 0 ref40_Fits_p1_code zqp1 zqp2 (ref40_Fits_p1_G (zqp4 c_ref25_In i)) := by
  rw [show ref40_Fits_p1_code = .loop (loopBody ref40_Fits_p1_code) by kernel_rfl]
  exact piece_loop (X := (ref40_Fits_X c_ref25_In c_ref39_Fits c_ref40_Consistent c_ref40_Constraints)) (p := 1) (Λ := pick1 []) (G := fun i => @fun β d ks => ref40_Fits_p1_G (zqp4 c_ref25_In i) d ks) mixed tab_ok hΓ rfl (by kernel_rfl) CutsOk_nil (fun _ _ => rfl) (fun i => @fun β d ks r h => Eq.trans (b := ref40_Fits_p1_G (zqp4 c_ref25_In (i + 1)) d ks) (by kernel_rfl) h) i
def zqp6 (p1 : zqp0) {β : Type} (r_ : zq2) (times : List Int) (k : (Bool → Option β)) : Option β :=
  c_ref40_Constraints r_ (fun (rConstraints : Bool) (lrConstraints : List (Int × (Int × Int))) =>
  cond (!rConstraints)
  (k false)
  (c_ref40_Consistent r_ (fun (rConsistent : Bool) =>
  cond (!rConsistent)
  (k false)
  (cond (!decide ((List.length times : Int) = (List.length r_.2.2.1 : Int)))
  (k false)
  (p1 (fun (t4 : Bool) =>
  k t4) (fun (times2 : List Int) (l : List (Int × (Int × Int))) =>
  let l2 : List Int := ([(0 : Int)] : List Int);
  cond (decide ((List.length l2 + List.length times2) * 8 ≤ roomMax))
  (let l3 : List Int := (l2 ++ times2);
  c_ref39_Fits (IntKind.i64.wrap ((List.length times2 : Int) + (1 : Int))) l l3 (fun (rFits : Bool) =>
  k rFits))
  none) times (0 : Int) lrConstraints)))))
theorem zqp7 (hΓ : ΓOk Tryz.prog (ref40_Fits_X c_ref25_In c_ref39_Fits c_ref40_Consistent c_ref40_Constraints).Γ) (p1 : zqp0) (hp1 : PieceOk Tryz.prog 48 0 ref40_Fits_p1_code zqp1 zqp2 (ref40_Fits_p1_G p1)) : SpecOk Tryz.prog 18 (zqox (zqp6 c_ref39_Fits c_ref40_Consistent c_ref40_Constraints p1)) :=
  spec_exec (X := (ref40_Fits_X c_ref25_In c_ref39_Fits c_ref40_Consistent c_ref40_Constraints)) (Λ := pick1 [(122, pieceCut zqp1 zqp2 (ref40_Fits_p1_G p1))]) (rs := [.tmp 4]) (c := bodyOf Tryz.f18) mixed tab_ok hΓ Tryz.func18 (by kernel_rfl) (by kernel_rfl) (by kernel_rfl) (by kernel_rfl) (CutsOk_cons (q := 122) (c' := ref40_Fits_p1_code) (by kernel_rfl) rfl hp1 CutsOk_nil) (fun x k r h => Eq.trans (b := (zqox (zqp6 c_ref39_Fits c_ref40_Consistent c_ref40_Constraints p1)).run x k) (by kernel_rfl) h)
end
theorem zqp8Γ : ΓOk Tryz.prog (pick1 [(31, .spec (zq20 zq24)), (37, .spec (zqd1 zqdt)), (15, .spec (zqo8 zqoc)), (36, .spec (zqjd zqkz))]) := (ΓOk_cons zq25 (ΓOk_cons zqdu (ΓOk_cons zqod (ΓOk_cons zql0 ΓOk_nil))))
def zqp9 (m : Nat) : zqp0 := zqp4 zq24 m
theorem zqpa {β : Type} (i : Nat) (k1 k2 times i_ l) : (zqp9 (i + 1) k1 k2 times i_ l : Option β) = zqp3 zq24 (zqp9 i k1 k2) k1 k2 times i_ l := rfl
def zqpb : zqp0 := zqp9 fuel
theorem zqpc : PieceOk Tryz.prog 48 0 ref40_Fits_p1_code zqp1 zqp2 (ref40_Fits_p1_G zqpb) := zqp5 zq24 zqdt zqoc zqkz zqp8Γ fuel
def zqpd : zqow := zqp6 zqdt zqoc zqkz zqpb
theorem zqpe : SpecOk Tryz.prog 18 (zqox zqpd) := zqp7 zq24 zqdt zqoc zqkz zqp8Γ zqpb zqpc

/-- pagewatch/order.Constraints -/
abbrev zqpf := {β : Type} → zq2 → (Bool → (List (Int × (Int × Int))) → Option β) → Option β
def zqpg (c : zqpf) : Spec :=
  ⟨[(true, [.data zq3])], [], [(false, [.rowh 0]), (false, [.data .bool])], [.row 122 (.prod (.int .i64) (.prod (.int .i64) (.int .i64)))], fun x k => c x.1.1.1 (fun r0 r1 => k (((), (r0, ()), ()), (r1, ())))⟩
noncomputable def order_Constraints_p1_code : Code := codeAt 122 (bodyOf Tryz.f68)
noncomputable def order_Constraints_p3_code : Code := codeAt 250 (bodyOf Tryz.f68)
noncomputable def order_Constraints_p4_code : Code := codeAt 506 (bodyOf Tryz.f68)
noncomputable def order_Constraints_p2_code : Code := codeAt 230 (loopBody order_Constraints_p3_code)
abbrev zqph (β : Type) := Bool → (List (Int × (Int × Int))) → Option β
abbrev zqpi (β : Type) := (List (List UInt8 × Int)) → (List (Int × (Int × (Int × Int)))) → (List zq0) → (List (Int × (Int × Int))) → (List (Int × (Int × Int))) → Option β
abbrev zqpj := {β : Type} → zqph β → zqpi β → (List zq0) → Int → Int → (List (List UInt8 × Int)) → (List (Int × (Int × (Int × Int)))) → (List zq0) → (List (Int × (Int × Int))) → (List (Int × (Int × Int))) → Option β
def zqpk : View := ⟨0, [1, 4, 18, 19, 20], [(false, [.ptr 0 0]), (false, [.rowh 1]), (false, [.data (.slice zq1)]), (false, [.data (.int .i64)]), (false, [.data (.int .i64)])], [.cells 32 [.data (.slice (.prod .str (.int .i64))), .data (.slice (.prod (.int .i64) (.prod (.int .i64) (.prod (.int .i64) (.int .i64))))), .data (.slice zq1), .data (.slice (.prod (.int .i64) (.prod (.int .i64) (.int .i64))))], .row 122 (.prod (.int .i64) (.prod (.int .i64) (.int .i64)))]⟩
def zqpl : List (AExit × View) := [(.ret, ⟨0, [2, 3], [(false, [.rowh 0]), (false, [.data .bool])], [.row 122 (.prod (.int .i64) (.prod (.int .i64) (.int .i64)))]⟩), (.exit 0, ⟨0, [1, 4], [(false, [.ptr 0 0]), (false, [.rowh 1])], [.cells 32 [.data (.slice (.prod .str (.int .i64))), .data (.slice (.prod (.int .i64) (.prod (.int .i64) (.prod (.int .i64) (.int .i64))))), .data (.slice zq1), .data (.slice (.prod (.int .i64) (.prod (.int .i64) (.int .i64))))], .row 122 (.prod (.int .i64) (.prod (.int .i64) (.int .i64)))]⟩)]
@[reducible] def order_Constraints_p1_G (p : zqpj) {β : Type} (d : zqpk.den) (ks : Outs.K β zqpl) : Option β :=
  p (fun a0 a1 => ks.1 (((), (a0, ()), ()), (a1, ()))) (fun a0 a1 a2 a3 a4 => ks.2.1 (((), (), ()), ((a0, a1, a2, a3, ()), a4, ()))) d.1.2.2.1.1 d.1.2.2.2.1.1 d.1.2.2.2.2.1.1 d.2.1.1 d.2.1.2.1 d.2.1.2.2.1 d.2.1.2.2.2.1 d.2.2.1
abbrev zqpm (β : Type) := (List zq0) → Int → Int → (List (List UInt8 × Int)) → (List (Int × (Int × (Int × Int)))) → (List zq0) → (List (Int × (Int × Int))) → (List (Int × (Int × Int))) → Option β
abbrev zqpn := {β : Type} → zqpm β → Int → Int → (List zq0) → Int → Int → (List (List UInt8 × Int)) → (List (Int × (Int × (Int × Int)))) → (List zq0) → (List (Int × (Int × Int))) → (List (Int × (Int × Int))) → Int → Int → (List UInt8) → Option β
def zqpo : View := ⟨0, [1, 4, 9, 10, 11, 52, 53, 54], [(false, [.ptr 0 0]), (false, [.rowh 1]), (false, [.data (.int .i64)]), (false, [.ptr 2 0]), (false, [.data (.int .i64)]), (false, [.data (.slice zq1)]), (false, [.data (.int .i64)]), (false, [.data (.int .i64)])], [.cells 32 [.data (.slice (.prod .str (.int .i64))), .data (.slice (.prod (.int .i64) (.prod (.int .i64) (.prod (.int .i64) (.int .i64))))), .data (.slice zq1), .data (.slice (.prod (.int .i64) (.prod (.int .i64) (.int .i64))))], .row 122 (.prod (.int .i64) (.prod (.int .i64) (.int .i64))), .cells 60 [.data (.int .i64), .data (.int .i64), .data .str]]⟩
def zqpp : List (AExit × View) := [(.exit 4, ⟨0, [1, 4, 52, 53, 54], [(false, [.ptr 0 0]), (false, [.rowh 1]), (false, [.data (.slice zq1)]), (false, [.data (.int .i64)]), (false, [.data (.int .i64)])], [.cells 32 [.data (.slice (.prod .str (.int .i64))), .data (.slice (.prod (.int .i64) (.prod (.int .i64) (.prod (.int .i64) (.int .i64))))), .data (.slice zq1), .data (.slice (.prod (.int .i64) (.prod (.int .i64) (.int .i64))))], .row 122 (.prod (.int .i64) (.prod (.int .i64) (.int .i64)))]⟩)]
@[reducible] def order_Constraints_p2_G (p : zqpn) {β : Type} (d : zqpo.den) (ks : Outs.K β zqpp) : Option β :=
  p (fun a0 a1 a2 a3 a4 a5 a6 a7 => ks.1 (((), (), (a0, ()), (a1, ()), (a2, ()), ()), ((a3, a4, a5, a6, ()), a7, ()))) d.1.2.2.1.1 d.1.2.2.2.2.1.1 d.1.2.2.2.2.2.1.1 d.1.2.2.2.2.2.2.1.1 d.1.2.2.2.2.2.2.2.1.1 d.2.1.1 d.2.1.2.1 d.2.1.2.2.1 d.2.1.2.2.2.1 d.2.2.1 d.2.2.2.1.1 d.2.2.2.1.2.1 d.2.2.2.1.2.2.1
abbrev zqpq (β : Type) := (List (List UInt8 × Int)) → (List (Int × (Int × (Int × Int)))) → (List zq0) → (List (Int × (Int × Int))) → (List (Int × (Int × Int))) → Option β
abbrev zqpr := {β : Type} → zqpq β → (List zq0) → Int → Int → (List (List UInt8 × Int)) → (List (Int × (Int × (Int × Int)))) → (List zq0) → (List (Int × (Int × Int))) → (List (Int × (Int × Int))) → Option β
def zqps : View := ⟨0, [1, 4, 52, 53, 54], [(false, [.ptr 0 0]), (false, [.rowh 1]), (false, [.data (.slice zq1)]), (false, [.data (.int .i64)]), (false, [.data (.int .i64)])], [.cells 32 [.data (.slice (.prod .str (.int .i64))), .data (.slice (.prod (.int .i64) (.prod (.int .i64) (.prod (.int .i64) (.int .i64))))), .data (.slice zq1), .data (.slice (.prod (.int .i64) (.prod (.int .i64) (.int .i64))))], .row 122 (.prod (.int .i64) (.prod (.int .i64) (.int .i64)))]⟩
def zqpt : List (AExit × View) := [(.exit 2, ⟨0, [1, 4], [(false, [.ptr 0 0]), (false, [.rowh 1])], [.cells 32 [.data (.slice (.prod .str (.int .i64))), .data (.slice (.prod (.int .i64) (.prod (.int .i64) (.prod (.int .i64) (.int .i64))))), .data (.slice zq1), .data (.slice (.prod (.int .i64) (.prod (.int .i64) (.int .i64))))], .row 122 (.prod (.int .i64) (.prod (.int .i64) (.int .i64)))]⟩)]
@[reducible] def order_Constraints_p3_G (p : zqpr) {β : Type} (d : zqps.den) (ks : Outs.K β zqpt) : Option β :=
  p (fun a0 a1 a2 a3 a4 => ks.1 (((), (), ()), ((a0, a1, a2, a3, ()), a4, ()))) d.1.2.2.1.1 d.1.2.2.2.1.1 d.1.2.2.2.2.1.1 d.2.1.1 d.2.1.2.1 d.2.1.2.2.1 d.2.1.2.2.2.1 d.2.2.1
abbrev zqpu (β : Type) := (List (Int × (Int × Int))) → Option β
abbrev zqpv := {β : Type} → zqpu β → (List (Int × (Int × Int))) → Int → Int → (List (Int × (Int × Int))) → Option β
def zqpw : View := ⟨0, [4, 85, 86, 87], [(false, [.rowh 0]), (false, [.data (.slice (.prod (.int .i64) (.prod (.int .i64) (.int .i64))))]), (false, [.data (.int .i64)]), (false, [.data (.int .i64)])], [.row 122 (.prod (.int .i64) (.prod (.int .i64) (.int .i64)))]⟩
def zqpx : List (AExit × View) := [(.exit 6, ⟨0, [4], [(false, [.rowh 0])], [.row 122 (.prod (.int .i64) (.prod (.int .i64) (.int .i64)))]⟩)]
@[reducible] def order_Constraints_p4_G (p : zqpv) {β : Type} (d : zqpw.den) (ks : Outs.K β zqpx) : Option β :=
  p (fun a0 => ks.1 (((), ()), (a0, ()))) d.1.2.1.1 d.1.2.2.1.1 d.1.2.2.2.1.1 d.2.1
section
variable (c_clock_Valid : zqht) (c_clock_When : zqmz) (c_order_pair : zql1)
@[reducible] def order_Constraints_X : Ctx := ⟨look tab, pick1 [(33, .spec (zqhu c_clock_Valid)), (81, .spec (zqn0 c_clock_When)), (82, .spec (zql2 c_order_pair))], false, false, false, false⟩
def zqpy {β : Type} (rec : (List zq0) → Int → Int → (List (List UInt8 × Int)) → (List (Int × (Int × (Int × Int)))) → (List zq0) → (List (Int × (Int × Int))) → (List (Int × (Int × Int))) → Option β) (k1 : zqph β) (k2 : zqpi β) (t18 : List zq0) (t19 : Int) (t20 : Int) (r_ : List (List UInt8 × Int)) (r_2 : List (Int × (Int × (Int × Int)))) (r_3 : List zq0) (r_4 : List (Int × (Int × Int))) (out : List (Int × (Int × Int))) : Option β :=
  cond (decide (t20 < t19))
  (cond (decide (0 ≤ t20) && decide (t20 < (List.length t18 : Int)))
  (let e : zq0 := List.getD t18 (Int.toNat t20) ((0 : Int), ((0 : Int), ([] : List UInt8)));
  c_clock_When (r_, (r_2, (r_3, r_4))) e.1 e.2.1 (fun (rWhen : (Int × Int)) (rWhen2 : Bool) =>
  cond (!rWhen2)
  (k1 false ([] : List (Int × (Int × Int))))
  (let l : List (Int × (Int × Int)) := ([((0 : Int), ((IntKind.i64.wrap (t20 + (1 : Int))), rWhen.2)), ((IntKind.i64.wrap (t20 + (1 : Int))), ((0 : Int), (IntKind.i64.wrap (0 - rWhen.1))))] : List (Int × (Int × Int)));
  cond (decide ((List.length out + List.length l) * 24 ≤ roomMax))
  (let l2 : List (Int × (Int × Int)) := (out ++ l);
  rec t18 t19 (IntKind.i64.wrap (t20 + (1 : Int))) r_ r_2 r_3 r_4 l2)
  none)))
  none)
  (k2 r_ r_2 r_3 r_4 out)
def zqpz {β : Type} : Nat → zqph β → zqpi β → (List zq0) → Int → Int → (List (List UInt8 × Int)) → (List (Int × (Int × (Int × Int)))) → (List zq0) → (List (Int × (Int × Int))) → (List (Int × (Int × Int))) → Option β
  | 0 => fun _ _ _ _ _ _ _ _ _ _ => none
  | i + 1 => fun k1 k2 t18 t19 t20 r_ r_2 r_3 r_4 out => zqpy c_clock_When (zqpz i k1 k2) k1 k2 t18 t19 t20 r_ r_2 r_3 r_4 out
theorem zqq0 (hΓ : ΓOk Tryz.prog (order_Constraints_X c_clock_Valid c_clock_When c_order_pair).Γ) (i : Nat) : PieceOk Tryz.prog 106 0 order_Constraints_p1_code zqpk zqpl (order_Constraints_p1_G (zqpz c_clock_When i)) := by
  rw [show order_Constraints_p1_code = .loop (loopBody order_Constraints_p1_code) by kernel_rfl]
  exact piece_loop (X := (order_Constraints_X c_clock_Valid c_clock_When c_order_pair)) (p := 1) (Λ := pick1 []) (G := fun i => @fun β d ks => order_Constraints_p1_G (zqpz c_clock_When i) d ks) mixed tab_ok hΓ rfl (by kernel_rfl) CutsOk_nil (fun _ _ => rfl) (fun i => @fun β d ks r h => Eq.trans (b := order_Constraints_p1_G (zqpz c_clock_When (i + 1)) d ks) (by kernel_rfl) h) i
def zqq1 {β : Type} (rec : Int → Int → (List zq0) → Int → Int → (List (List UInt8 × Int)) → (List (Int × (Int × (Int × Int)))) → (List zq0) → (List (Int × (Int × Int))) → (List (Int × (Int × Int))) → Int → Int → (List UInt8) → Option β) (k1 : zqpm β) (i_ : Int) (j : Int) (t52 : List zq0) (t53 : Int) (t54 : Int) (r_ : List (List UInt8 × Int)) (r_2 : List (Int × (Int × (Int × Int)))) (r_3 : List zq0) (r_4 : List (Int × (Int × Int))) (out : List (Int × (Int × Int))) (a : Int) (a2 : Int) (a3 : List UInt8) : Option β :=
  cond (decide (j < (List.length r_3 : Int)))
  (cond (decide (0 ≤ j) && decide (j < (List.length r_3 : Int)))
  (let e : zq0 := List.getD r_3 (Int.toNat j) ((0 : Int), ((0 : Int), ([] : List UInt8)));
  cond (decide (e.1 = a))
  (c_order_pair (r_, (r_2, (r_3, r_4))) i_ j (fun (lrpair : List (Int × (Int × Int))) =>
  cond (decide ((List.length out + List.length lrpair) * 24 ≤ roomMax))
  (let l : List (Int × (Int × Int)) := (out ++ lrpair);
  let j2 : Int := (IntKind.i64.wrap (j + (1 : Int)));
  rec i_ j2 t52 t53 t54 r_ r_2 r_3 r_4 l a a2 a3)
  none))
  (let j2 : Int := (IntKind.i64.wrap (j + (1 : Int)));
  rec i_ j2 t52 t53 t54 r_ r_2 r_3 r_4 out a a2 a3))
  none)
  (k1 t52 t53 t54 r_ r_2 r_3 r_4 out)
def zqq2 {β : Type} : Nat → zqpm β → Int → Int → (List zq0) → Int → Int → (List (List UInt8 × Int)) → (List (Int × (Int × (Int × Int)))) → (List zq0) → (List (Int × (Int × Int))) → (List (Int × (Int × Int))) → Int → Int → (List UInt8) → Option β
  | 0 => fun _ _ _ _ _ _ _ _ _ _ _ _ _ _ => none
  | i + 1 => fun k1 i_ j t52 t53 t54 r_ r_2 r_3 r_4 out a a2 a3 => zqq1 c_order_pair (zqq2 i k1) k1 i_ j t52 t53 t54 r_ r_2 r_3 r_4 out a a2 a3
theorem zqq3 (hΓ : ΓOk Tryz.prog (order_Constraints_X c_clock_Valid c_clock_When c_order_pair).Γ) (i : Nat) : PieceOk Tryz.prog 106 0 order_Constraints_p2_code zqpo zqpp (order_Constraints_p2_G (zqq2 c_order_pair i)) := by
  rw [show order_Constraints_p2_code = .loop (loopBody order_Constraints_p2_code) by kernel_rfl]
  exact piece_loop (X := (order_Constraints_X c_clock_Valid c_clock_When c_order_pair)) (p := 1) (Λ := pick1 []) (G := fun i => @fun β d ks => order_Constraints_p2_G (zqq2 c_order_pair i) d ks) mixed tab_ok hΓ rfl (by kernel_rfl) CutsOk_nil (fun _ _ => rfl) (fun i => @fun β d ks r h => Eq.trans (b := order_Constraints_p2_G (zqq2 c_order_pair (i + 1)) d ks) (by kernel_rfl) h) i
def zqq4 (p2 : zqpn) {β : Type} (rec : (List zq0) → Int → Int → (List (List UInt8 × Int)) → (List (Int × (Int × (Int × Int)))) → (List zq0) → (List (Int × (Int × Int))) → (List (Int × (Int × Int))) → Option β) (k1 : zqpq β) (t52 : List zq0) (t53 : Int) (t54 : Int) (r_ : List (List UInt8 × Int)) (r_2 : List (Int × (Int × (Int × Int)))) (r_3 : List zq0) (r_4 : List (Int × (Int × Int))) (out : List (Int × (Int × Int))) : Option β :=
  cond (decide (t54 < t53))
  (cond (decide (0 ≤ t54) && decide (t54 < (List.length t52 : Int)))
  (let e : zq0 := List.getD t52 (Int.toNat t54) ((0 : Int), ((0 : Int), ([] : List UInt8)));
  let j : Int := (IntKind.i64.wrap (t54 + (1 : Int)));
  p2 (fun (t522 : List zq0) (t532 : Int) (t542 : Int) (r_5 : List (List UInt8 × Int)) (r_6 : List (Int × (Int × (Int × Int)))) (r_7 : List zq0) (r_8 : List (Int × (Int × Int))) (out2 : List (Int × (Int × Int))) =>
  rec t522 t532 (IntKind.i64.wrap (t542 + (1 : Int))) r_5 r_6 r_7 r_8 out2) t54 j t52 t53 t54 r_ r_2 r_3 r_4 out e.1 e.2.1 e.2.2)
  none)
  (k1 r_ r_2 r_3 r_4 out)
def zqq5 (p2 : zqpn) {β : Type} : Nat → zqpq β → (List zq0) → Int → Int → (List (List UInt8 × Int)) → (List (Int × (Int × (Int × Int)))) → (List zq0) → (List (Int × (Int × Int))) → (List (Int × (Int × Int))) → Option β
  | 0 => fun _ _ _ _ _ _ _ _ _ => none
  | i + 1 => fun k1 t52 t53 t54 r_ r_2 r_3 r_4 out => zqq4 p2 (zqq5 p2 i k1) k1 t52 t53 t54 r_ r_2 r_3 r_4 out
theorem zqq6 (hΓ : ΓOk Tryz.prog (order_Constraints_X c_clock_Valid c_clock_When c_order_pair).Γ) (p2 : zqpn) (hp2 : PieceOk Tryz.prog 106 0 order_Constraints_p2_code zqpo zqpp (order_Constraints_p2_G p2)) (i : Nat) : PieceOk Tryz.prog 106 0 order_Constraints_p3_code zqps zqpt (order_Constraints_p3_G (zqq5 p2 i)) := by
  rw [show order_Constraints_p3_code = .loop (loopBody order_Constraints_p3_code) by kernel_rfl]
  exact piece_loop (X := (order_Constraints_X c_clock_Valid c_clock_When c_order_pair)) (p := 1) (Λ := pick1 [(230, pieceCut zqpo zqpp (order_Constraints_p2_G p2))]) (G := fun i => @fun β d ks => order_Constraints_p3_G (zqq5 p2 i) d ks) mixed tab_ok hΓ rfl (by kernel_rfl) (CutsOk_cons (q := 230) (c' := order_Constraints_p2_code) (by kernel_rfl) rfl hp2 CutsOk_nil) (fun _ _ => rfl) (fun i => @fun β d ks r h => Eq.trans (b := order_Constraints_p3_G (zqq5 p2 (i + 1)) d ks) (by kernel_rfl) h) i
def zqq7 {β : Type} (rec : (List (Int × (Int × Int))) → Int → Int → (List (Int × (Int × Int))) → Option β) (k1 : zqpu β) (t85 : List (Int × (Int × Int))) (t86 : Int) (t87 : Int) (out : List (Int × (Int × Int))) : Option β :=
  cond (decide (t87 < t86))
  (cond (decide (0 ≤ t87) && decide (t87 < (List.length t85 : Int)))
  (let e : (Int × (Int × Int)) := List.getD t85 (Int.toNat t87) ((0 : Int), ((0 : Int), (0 : Int)));
  let l : List (Int × (Int × Int)) := ([((IntKind.i64.wrap (e.2.1 + (1 : Int))), ((IntKind.i64.wrap (e.1 + (1 : Int))), (IntKind.i64.wrap (0 - e.2.2))))] : List (Int × (Int × Int)));
  cond (decide ((List.length out + List.length l) * 24 ≤ roomMax))
  (let l2 : List (Int × (Int × Int)) := (out ++ l);
  rec t85 t86 (IntKind.i64.wrap (t87 + (1 : Int))) l2)
  none)
  none)
  (k1 out)
def zqq8 {β : Type} : Nat → zqpu β → (List (Int × (Int × Int))) → Int → Int → (List (Int × (Int × Int))) → Option β
  | 0 => fun _ _ _ _ _ => none
  | i + 1 => fun k1 t85 t86 t87 out => zqq7 (zqq8 i k1) k1 t85 t86 t87 out
theorem zqq9 (hΓ : ΓOk Tryz.prog (order_Constraints_X c_clock_Valid c_clock_When c_order_pair).Γ) (i : Nat) : PieceOk Tryz.prog 106 0 order_Constraints_p4_code zqpw zqpx (order_Constraints_p4_G (zqq8 i)) := by
  rw [show order_Constraints_p4_code = .loop (loopBody order_Constraints_p4_code) by kernel_rfl]
  exact piece_loop (X := (order_Constraints_X c_clock_Valid c_clock_When c_order_pair)) (p := 1) (Λ := pick1 []) (G := fun i => @fun β d ks => order_Constraints_p4_G (zqq8 i) d ks) mixed tab_ok hΓ rfl (by kernel_rfl) CutsOk_nil (fun _ _ => rfl) (fun i => @fun β d ks r h => Eq.trans (b := order_Constraints_p4_G (zqq8 (i + 1)) d ks) (by kernel_rfl) h) i
def zqqa (p1 : zqpj) (p3 : zqpr) (p4 : zqpv) {β : Type} (r_ : zq2) (k : (Bool → (List (Int × (Int × Int))) → Option β)) : Option β :=
  c_clock_Valid r_ (fun (rValid : Bool) =>
  cond (!rValid)
  (k false ([] : List (Int × (Int × Int))))
  (p1 (fun (t3 : Bool) (t2 : List (Int × (Int × Int))) =>
  k t3 t2) (fun (r_2 : List (List UInt8 × Int)) (r_3 : List (Int × (Int × (Int × Int)))) (r_4 : List zq0) (r_5 : List (Int × (Int × Int))) (out : List (Int × (Int × Int))) =>
  p3 (fun (r_6 : List (List UInt8 × Int)) (r_7 : List (Int × (Int × (Int × Int)))) (r_8 : List zq0) (r_9 : List (Int × (Int × Int))) (out2 : List (Int × (Int × Int))) =>
  p4 (fun (out3 : List (Int × (Int × Int))) =>
  k true out3) r_9 (List.length r_9 : Int) (0 : Int) out2) r_4 (List.length r_4 : Int) (0 : Int) r_2 r_3 r_4 r_5 out) r_.2.2.1 (List.length r_.2.2.1 : Int) (0 : Int) r_.1 r_.2.1 r_.2.2.1 r_.2.2.2 ([] : List (Int × (Int × Int)))))
theorem zqqb (hΓ : ΓOk Tryz.prog (order_Constraints_X c_clock_Valid c_clock_When c_order_pair).Γ) (p1 : zqpj) (p3 : zqpr) (p4 : zqpv) (hp1 : PieceOk Tryz.prog 106 0 order_Constraints_p1_code zqpk zqpl (order_Constraints_p1_G p1)) (hp3 : PieceOk Tryz.prog 106 0 order_Constraints_p3_code zqps zqpt (order_Constraints_p3_G p3)) (hp4 : PieceOk Tryz.prog 106 0 order_Constraints_p4_code zqpw zqpx (order_Constraints_p4_G p4)) : SpecOk Tryz.prog 68 (zqpg (zqqa c_clock_Valid p1 p3 p4)) :=
  spec_exec (X := (order_Constraints_X c_clock_Valid c_clock_When c_order_pair)) (Λ := pick1 [(122, pieceCut zqpk zqpl (order_Constraints_p1_G p1)), (250, pieceCut zqps zqpt (order_Constraints_p3_G p3)), (506, pieceCut zqpw zqpx (order_Constraints_p4_G p4))]) (rs := [.tmp 2, .tmp 3]) (c := bodyOf Tryz.f68) mixed tab_ok hΓ Tryz.func68 (by kernel_rfl) (by kernel_rfl) (by kernel_rfl) (by kernel_rfl) (CutsOk_cons (q := 122) (c' := order_Constraints_p1_code) (by kernel_rfl) rfl hp1 (CutsOk_cons (q := 250) (c' := order_Constraints_p3_code) (by kernel_rfl) rfl hp3 (CutsOk_cons (q := 506) (c' := order_Constraints_p4_code) (by kernel_rfl) rfl hp4 CutsOk_nil))) (fun x k r h => Eq.trans (b := (zqpg (zqqa c_clock_Valid p1 p3 p4)).run x k) (by kernel_rfl) h)
end
theorem zqqcΓ : ΓOk Tryz.prog (pick1 [(33, .spec (zqhu zqja)), (81, .spec (zqn0 zqnf)), (82, .spec (zql2 zqlf))]) := (ΓOk_cons zqjb (ΓOk_cons zqng (ΓOk_cons zqlg ΓOk_nil)))
def zqqd (m : Nat) : zqpj := zqpz zqnf m
theorem zqqe {β : Type} (i : Nat) (k1 k2 t18 t19 t20 r_ r_2 r_3 r_4 out) : (zqqd (i + 1) k1 k2 t18 t19 t20 r_ r_2 r_3 r_4 out : Option β) = zqpy zqnf (zqqd i k1 k2) k1 k2 t18 t19 t20 r_ r_2 r_3 r_4 out := rfl
def zqqf : zqpj := zqqd fuel
theorem zqqg : PieceOk Tryz.prog 106 0 order_Constraints_p1_code zqpk zqpl (order_Constraints_p1_G zqqf) := zqq0 zqja zqnf zqlf zqqcΓ fuel
def zqqh (m : Nat) : zqpn := zqq2 zqlf m
theorem zqqi {β : Type} (i : Nat) (k1 i_ j t52 t53 t54 r_ r_2 r_3 r_4 out a a2 a3) : (zqqh (i + 1) k1 i_ j t52 t53 t54 r_ r_2 r_3 r_4 out a a2 a3 : Option β) = zqq1 zqlf (zqqh i k1) k1 i_ j t52 t53 t54 r_ r_2 r_3 r_4 out a a2 a3 := rfl
def zqqj : zqpn := zqqh fuel
theorem zqqk : PieceOk Tryz.prog 106 0 order_Constraints_p2_code zqpo zqpp (order_Constraints_p2_G zqqj) := zqq3 zqja zqnf zqlf zqqcΓ fuel
def zqql (m : Nat) : zqpr := zqq5 zqqj m
theorem zqqm {β : Type} (i : Nat) (k1 t52 t53 t54 r_ r_2 r_3 r_4 out) : (zqql (i + 1) k1 t52 t53 t54 r_ r_2 r_3 r_4 out : Option β) = zqq4 zqqj (zqql i k1) k1 t52 t53 t54 r_ r_2 r_3 r_4 out := rfl
def zqqn : zqpr := zqql fuel
theorem zqqo : PieceOk Tryz.prog 106 0 order_Constraints_p3_code zqps zqpt (order_Constraints_p3_G zqqn) := zqq6 zqja zqnf zqlf zqqcΓ zqqj zqqk fuel
def zqqp (m : Nat) : zqpv := zqq8 m
theorem zqqq {β : Type} (i : Nat) (k1 t85 t86 t87 out) : (zqqp (i + 1) k1 t85 t86 t87 out : Option β) = zqq7 (zqqp i k1) k1 t85 t86 t87 out := rfl
def zqqr : zqpv := zqqp fuel
theorem zqqs : PieceOk Tryz.prog 106 0 order_Constraints_p4_code zqpw zqpx (order_Constraints_p4_G zqqr) := zqq9 zqja zqnf zqlf zqqcΓ fuel
def zqqt : zqpf := zqqa zqja zqqf zqqn zqqr
theorem zqqu : SpecOk Tryz.prog 68 (zqpg zqqt) := zqqb zqja zqnf zqlf zqqcΓ zqqf zqqn zqqr zqqg zqqo zqqs

/-- slices.ContainsFunc[[]pagewatch/api.Diff,pagewatch/api.Diff] -/
abbrev zqqv := {β : Type} → (List (Int × (Int × Int))) → Int → (Bool → Int → Option β) → Option β
def zqqw (c : zqqv) : Spec :=
  ⟨[(false, [.data (.slice (.prod (.int .i64) (.prod (.int .i64) (.int .i64))))]), (false, [.fn 106 [0]])], [.cells 3 [.data (.int .i64)]], [(false, [.data .bool])], [.cells 3 [.data (.int .i64)]], fun x k => c x.1.1.1 x.2.1.1 (fun r0 r1 => k (((r0, ()), ()), ((r1, ()), ())))⟩
section
variable (c_slices_IndexFunc_api_Diff_api_Diff_vconstraint_Valid_f1 : zqnh)
@[reducible] def slices_ContainsFunc_api_Diff_api_Diff_vconstraint_Valid_f1_X : Ctx := ⟨look tab, pick1 [(118, .spec (zqni c_slices_IndexFunc_api_Diff_api_Diff_vconstraint_Valid_f1))], false, false, false, false⟩
def zqqx {β : Type} (s : List (Int × (Int × Int))) (b0_ : Int) (k : (Bool → Int → Option β)) : Option β :=
  c_slices_IndexFunc_api_Diff_api_Diff_vconstraint_Valid_f1 s b0_ (fun (rDiff : Int) (mrDiff : Int) =>
  let t : Bool := (decide ((0 : Int) ≤ rDiff));
  k t mrDiff)
theorem zqqy (hΓ : ΓOk Tryz.prog (slices_ContainsFunc_api_Diff_api_Diff_vconstraint_Valid_f1_X c_slices_IndexFunc_api_Diff_api_Diff_vconstraint_Valid_f1).Γ) : SpecOk Tryz.prog 105 (zqqw (zqqx c_slices_IndexFunc_api_Diff_api_Diff_vconstraint_Valid_f1)) :=
  spec_exec (X := (slices_ContainsFunc_api_Diff_api_Diff_vconstraint_Valid_f1_X c_slices_IndexFunc_api_Diff_api_Diff_vconstraint_Valid_f1)) (Λ := pick1 []) (rs := [.tmp 4]) (c := bodyOf Tryz.f105) mixed tab_ok hΓ Tryz.func105 (by kernel_rfl) (by kernel_rfl) (by kernel_rfl) (by kernel_rfl) CutsOk_nil (fun x k r h => Eq.trans (b := (zqqw (zqqx c_slices_IndexFunc_api_Diff_api_Diff_vconstraint_Valid_f1)).run x k) (by kernel_rfl) h)
end
theorem zqqzΓ : ΓOk Tryz.prog (pick1 [(118, .spec (zqni zqny))]) := (ΓOk_cons zqnz ΓOk_nil)
def zqr0 : zqqv := zqqx zqny
theorem zqr1 : SpecOk Tryz.prog 105 (zqqw zqr0) := zqqy zqny zqqzΓ

/-- pagewatch/constraint.Valid -/
abbrev zqr2 := {β : Type} → Int → (List (Int × (Int × Int))) → (Bool → Option β) → Option β
def zqr3 (c : zqr2) : Spec :=
  ⟨[(false, [.data (.int .i64)]), (false, [.data (.slice (.prod (.int .i64) (.prod (.int .i64) (.int .i64))))])], [], [(false, [.data .bool])], [], fun x k => c x.1.1.1 x.1.2.1.1 (fun r0 => k (((r0, ()), ()), ()))⟩
section
variable (c_constraint_in : zqad) (c_slices_ContainsFunc_api_Diff_api_Diff_vconstraint_Valid_f1 : zqqv)
@[reducible] def constraint_Valid_X : Ctx := ⟨look tab, pick1 [(104, .spec (zqae c_constraint_in)), (105, .spec (zqqw c_slices_ContainsFunc_api_Diff_api_Diff_vconstraint_Valid_f1))], false, false, false, false⟩
def zqr4 {β : Type} (n : Int) (l : List (Int × (Int × Int))) (k : (Bool → Option β)) : Option β :=
  c_constraint_in n (1 : Int) (41 : Int) (fun (rin : Bool) =>
  cond (!rin)
  (k false)
  (cond (decide ((4000 : Int) < (List.length l : Int)))
  (k false)
  (c_slices_ContainsFunc_api_Diff_api_Diff_vconstraint_Valid_f1 l n (fun (rDiff : Bool) (mrDiff : Int) =>
  k (!rDiff)))))
theorem zqr5 (hΓ : ΓOk Tryz.prog (constraint_Valid_X c_constraint_in c_slices_ContainsFunc_api_Diff_api_Diff_vconstraint_Valid_f1).Γ) : SpecOk Tryz.prog 83 (zqr3 (zqr4 c_constraint_in c_slices_ContainsFunc_api_Diff_api_Diff_vconstraint_Valid_f1)) :=
  spec_exec (X := (constraint_Valid_X c_constraint_in c_slices_ContainsFunc_api_Diff_api_Diff_vconstraint_Valid_f1)) (Λ := pick1 []) (rs := [.tmp 4]) (c := bodyOf Tryz.f83) mixed tab_ok hΓ Tryz.func83 (by kernel_rfl) (by kernel_rfl) (by kernel_rfl) (by kernel_rfl) CutsOk_nil (fun x k r h => Eq.trans (b := (zqr3 (zqr4 c_constraint_in c_slices_ContainsFunc_api_Diff_api_Diff_vconstraint_Valid_f1)).run x k) (by kernel_rfl) h)
end
theorem zqr6Γ : ΓOk Tryz.prog (pick1 [(104, .spec (zqae zqai)), (105, .spec (zqqw zqr0))]) := (ΓOk_cons zqaj (ΓOk_cons zqr1 ΓOk_nil))
def zqr7 : zqr2 := zqr4 zqai zqr0
theorem zqr8 : SpecOk Tryz.prog 83 (zqr3 zqr7) := zqr5 zqai zqr0 zqr6Γ

/-- pagewatch/constraint.Close -/
abbrev zqr9 := {β : Type} → Int → (List (Int × (Int × Int))) → ((List (List Int)) → Bool → Option β) → Option β
def zqra (c : zqr9) : Spec :=
  ⟨[(false, [.data (.int .i64)]), (false, [.data (.slice (.prod (.int .i64) (.prod (.int .i64) (.int .i64))))])], [], [(false, [.data (.slice (.slice (.int .i64)))]), (false, [.data .bool])], [], fun x k => c x.1.1.1 x.1.2.1.1 (fun r0 r1 => k (((r0, ()), (r1, ()), ()), ()))⟩
noncomputable def constraint_Close_p1_code : Code := codeAt 122 (bodyOf Tryz.f69)
noncomputable def constraint_Close_p5_code : Code := codeAt 250 (bodyOf Tryz.f69)
noncomputable def constraint_Close_p6_code : Code := codeAt 506 (bodyOf Tryz.f69)
noncomputable def constraint_Close_p4_code : Code := codeAt 458 (loopBody constraint_Close_p5_code)
noncomputable def constraint_Close_p3_code : Code := codeAt 230 (loopBody constraint_Close_p4_code)
noncomputable def constraint_Close_p2_code : Code := codeAt 115 (loopBody constraint_Close_p3_code)
abbrev zqrb (β : Type) := Int → (List (List Int)) → Option β
abbrev zqrc := {β : Type} → zqrb β → Int → Int → Int → (List (List Int)) → Option β
def zqrd : View := ⟨0, [0, 6, 19, 20], [(false, [.data (.int .i64)]), (false, [.math 0]), (false, [.data (.int .i64)]), (false, [.data (.int .i64)])], [.mat 22 3 (.int .i64)]⟩
def zqre : List (AExit × View) := [(.exit 0, ⟨0, [0, 6], [(false, [.data (.int .i64)]), (false, [.math 0])], [.mat 22 3 (.int .i64)]⟩)]
@[reducible] def constraint_Close_p1_G (p : zqrc) {β : Type} (d : zqrd.den) (ks : Outs.K β zqre) : Option β :=
  p (fun a0 a1 => ks.1 (((a0, ()), (), ()), (a1, ()))) d.1.1.1 d.1.2.2.1.1 d.1.2.2.2.1.1 d.2.1
abbrev zqrf (β : Type) := Int → Int → Int → Int → Int → Int → Int → Int → Int → (List (List Int)) → Option β
abbrev zqrg := {β : Type} → zqrf β → Int → Int → Int → Int → Int → Int → Int → Int → Int → Int → Bool → (List (List Int)) → Option β
def zqrh : View := ⟨0, [0, 6, 8, 9, 10, 38, 39, 42, 43, 46, 47, 67], [(false, [.data (.int .i64)]), (false, [.math 0]), (false, [.data (.int .i64)]), (false, [.data (.int .i64)]), (false, [.data (.int .i64)]), (false, [.data (.int .i64)]), (false, [.data (.int .i64)]), (false, [.data (.int .i64)]), (false, [.data (.int .i64)]), (false, [.data (.int .i64)]), (false, [.data (.int .i64)]), (false, [.data .bool])], [.mat 22 3 (.int .i64)]⟩
def zqri : List (AExit × View) := [(.normal, ⟨0, [0, 6, 8, 9, 38, 39, 42, 43, 46, 47], [(false, [.data (.int .i64)]), (false, [.math 0]), (false, [.data (.int .i64)]), (false, [.data (.int .i64)]), (false, [.data (.int .i64)]), (false, [.data (.int .i64)]), (false, [.data (.int .i64)]), (false, [.data (.int .i64)]), (false, [.data (.int .i64)]), (false, [.data (.int .i64)])], [.mat 22 3 (.int .i64)]⟩)]
@[reducible] def constraint_Close_p2_G (p : zqrg) {β : Type} (d : zqrh.den) (ks : Outs.K β zqri) : Option β :=
  p (fun a0 a1 a2 a3 a4 a5 a6 a7 a8 a9 => ks.1 (((a0, ()), (), (a1, ()), (a2, ()), (a3, ()), (a4, ()), (a5, ()), (a6, ()), (a7, ()), (a8, ()), ()), (a9, ()))) d.1.1.1 d.1.2.2.1.1 d.1.2.2.2.1.1 d.1.2.2.2.2.1.1 d.1.2.2.2.2.2.1.1 d.1.2.2.2.2.2.2.1.1 d.1.2.2.2.2.2.2.2.1.1 d.1.2.2.2.2.2.2.2.2.1.1 d.1.2.2.2.2.2.2.2.2.2.1.1 d.1.2.2.2.2.2.2.2.2.2.2.1.1 d.1.2.2.2.2.2.2.2.2.2.2.2.1.1 d.2.1
abbrev zqrj (β : Type) := Int → Int → Int → Int → Int → Int → (List (List Int)) → Option β
abbrev zqrk := {β : Type} → zqrj β → Int → Int → Int → Int → Int → Int → Int → Int → Int → (List (List Int)) → Option β
def zqrl : View := ⟨0, [0, 6, 8, 9, 38, 39, 42, 43, 46, 47], [(false, [.data (.int .i64)]), (false, [.math 0]), (false, [.data (.int .i64)]), (false, [.data (.int .i64)]), (false, [.data (.int .i64)]), (false, [.data (.int .i64)]), (false, [.data (.int .i64)]), (false, [.data (.int .i64)]), (false, [.data (.int .i64)]), (false, [.data (.int .i64)])], [.mat 22 3 (.int .i64)]⟩
def zqrm : List (AExit × View) := [(.exit 6, ⟨0, [0, 6, 8, 38, 39, 42, 43], [(false, [.data (.int .i64)]), (false, [.math 0]), (false, [.data (.int .i64)]), (false, [.data (.int .i64)]), (false, [.data (.int .i64)]), (false, [.data (.int .i64)]), (false, [.data (.int .i64)])], [.mat 22 3 (.int .i64)]⟩)]
@[reducible] def constraint_Close_p3_G (p : zqrk) {β : Type} (d : zqrl.den) (ks : Outs.K β zqrm) : Option β :=
  p (fun a0 a1 a2 a3 a4 a5 a6 => ks.1 (((a0, ()), (), (a1, ()), (a2, ()), (a3, ()), (a4, ()), (a5, ()), ()), (a6, ()))) d.1.1.1 d.1.2.2.1.1 d.1.2.2.2.1.1 d.1.2.2.2.2.1.1 d.1.2.2.2.2.2.1.1 d.1.2.2.2.2.2.2.1.1 d.1.2.2.2.2.2.2.2.1.1 d.1.2.2.2.2.2.2.2.2.1.1 d.1.2.2.2.2.2.2.2.2.2.1.1 d.2.1
abbrev zqrn (β : Type) := Int → Int → Int → Int → (List (List Int)) → Option β
abbrev zqro := {β : Type} → zqrn β → Int → Int → Int → Int → Int → Int → (List (List Int)) → Option β
def zqrp : View := ⟨0, [0, 6, 8, 38, 39, 42, 43], [(false, [.data (.int .i64)]), (false, [.math 0]), (false, [.data (.int .i64)]), (false, [.data (.int .i64)]), (false, [.data (.int .i64)]), (false, [.data (.int .i64)]), (false, [.data (.int .i64)])], [.mat 22 3 (.int .i64)]⟩
def zqrq : List (AExit × View) := [(.exit 4, ⟨0, [0, 6, 8, 38, 39], [(false, [.data (.int .i64)]), (false, [.math 0]), (false, [.data (.int .i64)]), (false, [.data (.int .i64)]), (false, [.data (.int .i64)])], [.mat 22 3 (.int .i64)]⟩)]
@[reducible] def constraint_Close_p4_G (p : zqro) {β : Type} (d : zqrp.den) (ks : Outs.K β zqrq) : Option β :=
  p (fun a0 a1 a2 a3 a4 => ks.1 (((a0, ()), (), (a1, ()), (a2, ()), (a3, ()), ()), (a4, ()))) d.1.1.1 d.1.2.2.1.1 d.1.2.2.2.1.1 d.1.2.2.2.2.1.1 d.1.2.2.2.2.2.1.1 d.1.2.2.2.2.2.2.1.1 d.2.1
abbrev zqrr (β : Type) := Bool → (List (List Int)) → Option β
abbrev zqrs (β : Type) := Int → (List (List Int)) → Option β
abbrev zqrt := {β : Type} → zqrr β → zqrs β → Int → Int → Int → (List (List Int)) → Option β
def zqru : View := ⟨0, [0, 6, 38, 39], [(false, [.data (.int .i64)]), (false, [.math 0]), (false, [.data (.int .i64)]), (false, [.data (.int .i64)])], [.mat 22 3 (.int .i64)]⟩
def zqrv : List (AExit × View) := [(.ret, ⟨0, [4, 5], [(false, [.math 0]), (false, [.data .bool])], [.mat 22 3 (.int .i64)]⟩), (.exit 2, ⟨0, [0, 6], [(false, [.data (.int .i64)]), (false, [.math 0])], [.mat 22 3 (.int .i64)]⟩)]
@[reducible] def constraint_Close_p5_G (p : zqrt) {β : Type} (d : zqru.den) (ks : Outs.K β zqrv) : Option β :=
  p (fun a0 a1 => ks.1 (((), (a0, ()), ()), (a1, ()))) (fun a0 a1 => ks.2.1 (((a0, ()), (), ()), (a1, ()))) d.1.1.1 d.1.2.2.1.1 d.1.2.2.2.1.1 d.2.1
abbrev zqrw (β : Type) := Bool → (List (List Int)) → Option β
abbrev zqrx (β : Type) := (List (List Int)) → Option β
abbrev zqry := {β : Type} → zqrw β → zqrx β → Int → Int → (List (List Int)) → Option β
def zqrz : View := ⟨0, [6, 108, 109], [(false, [.math 0]), (false, [.data (.int .i64)]), (false, [.data (.int .i64)])], [.mat 22 3 (.int .i64)]⟩
def zqs0 : List (AExit × View) := [(.ret, ⟨0, [4, 5], [(false, [.math 0]), (false, [.data .bool])], [.mat 22 3 (.int .i64)]⟩), (.exit 8, ⟨0, [6], [(false, [.math 0])], [.mat 22 3 (.int .i64)]⟩)]
@[reducible] def constraint_Close_p6_G (p : zqry) {β : Type} (d : zqrz.den) (ks : Outs.K β zqs0) : Option β :=
  p (fun a0 a1 => ks.1 (((), (a0, ()), ()), (a1, ()))) (fun a0 => ks.2.1 (((), ()), (a0, ()))) d.1.2.1.1 d.1.2.2.1.1 d.2.1
section
variable (c_constraint_Valid : zqr2) (c_constraint_direct : zq8v)
@[reducible] def constraint_Close_X : Ctx := ⟨look tab, pick1 [(83, .spec (zqr3 c_constraint_Valid)), (84, .spec (zq8w c_constraint_direct))], true, false, false, false⟩
def zqs1 {β : Type} (rec : Int → Int → Int → (List (List Int)) → Option β) (k1 : zqrb β) (n : Int) (t19 : Int) (t20 : Int) (m : List (List Int)) : Option β :=
  cond (decide (t20 < t19))
  (cond (decide (0 ≤ t20) && decide (t20 < (List.length m : Int)))
  (cond (decide (0 ≤ t20) && decide (t20 < (List.length m : Int)))
  (cond (decide (0 ≤ t20) && decide (t20 < (List.length (List.getD m (Int.toNat t20) []) : Int)))
  (cond (decide (0 ≤ t20) && decide (t20 < (List.length (List.getD m (Int.toNat t20) []) : Int)))
  (let m_ : List (List Int) := (List.set m (Int.toNat t20) (List.set (List.getD m (Int.toNat t20) []) (Int.toNat t20) (if (0 : Int) < (List.getD (List.getD m (Int.toNat t20) []) (Int.toNat t20) (0 : Int)) then (0 : Int) else (List.getD (List.getD m (Int.toNat t20) []) (Int.toNat t20) (0 : Int)))));
  rec n t19 (IntKind.i64.wrap (t20 + (1 : Int))) m_)
  none)
  none)
  none)
  none)
  (k1 n m)
def zqs2 {β : Type} : Nat → zqrb β → Int → Int → Int → (List (List Int)) → Option β
  | 0 => fun _ _ _ _ _ => none
  | i + 1 => fun k1 n t19 t20 m => zqs1 (zqs2 i k1) k1 n t19 t20 m
theorem zqs3 (hΓ : ΓOk Tryz.prog (constraint_Close_X c_constraint_Valid c_constraint_direct).Γ) (i : Nat) : PieceOk Tryz.prog 122 0 constraint_Close_p1_code zqrd zqre (constraint_Close_p1_G (zqs2 i)) := by
  rw [show constraint_Close_p1_code = .loop (loopBody constraint_Close_p1_code) by kernel_rfl]
  exact piece_loop (X := (constraint_Close_X c_constraint_Valid c_constraint_direct)) (p := 1) (Λ := pick1 []) (G := fun i => @fun β d ks => constraint_Close_p1_G (zqs2 i) d ks) mixed tab_ok hΓ rfl (by kernel_rfl) CutsOk_nil (fun _ _ => rfl) (fun i => @fun β d ks r h => Eq.trans (b := constraint_Close_p1_G (zqs2 (i + 1)) d ks) (by kernel_rfl) h) i
def zqs4 {β : Type} (k1 : zqrf β) (n : Int) (k_ : Int) (i_ : Int) (j : Int) (t38 : Int) (t39 : Int) (t42 : Int) (t43 : Int) (t46 : Int) (t47 : Int) (t67 : Bool) (m : List (List Int)) : Option β :=
  cond t67
  (cond (decide (0 ≤ i_) && decide (i_ < (List.length m : Int)))
  (cond (decide (0 ≤ i_) && decide (i_ < (List.length m : Int)))
  (cond (decide (0 ≤ j) && decide (j < (List.length (List.getD m (Int.toNat i_) []) : Int)))
  (cond (decide (0 ≤ i_) && decide (i_ < (List.length m : Int)))
  (cond (decide (0 ≤ k_) && decide (k_ < (List.length (List.getD m (Int.toNat i_) []) : Int)))
  (cond (decide (0 ≤ k_) && decide (k_ < (List.length m : Int)))
  (cond (decide (0 ≤ j) && decide (j < (List.length (List.getD m (Int.toNat k_) []) : Int)))
  (cond (decide (0 ≤ j) && decide (j < (List.length (List.getD m (Int.toNat i_) []) : Int)))
  (let m_ : List (List Int) := (List.set m (Int.toNat i_) (List.set (List.getD m (Int.toNat i_) []) (Int.toNat j) (if (IntKind.i64.wrap ((List.getD (List.getD m (Int.toNat i_) []) (Int.toNat k_) (0 : Int)) + (List.getD (List.getD m (Int.toNat k_) []) (Int.toNat j) (0 : Int)))) < (List.getD (List.getD m (Int.toNat i_) []) (Int.toNat j) (0 : Int)) then (IntKind.i64.wrap ((List.getD (List.getD m (Int.toNat i_) []) (Int.toNat k_) (0 : Int)) + (List.getD (List.getD m (Int.toNat k_) []) (Int.toNat j) (0 : Int)))) else (List.getD (List.getD m (Int.toNat i_) []) (Int.toNat j) (0 : Int)))));
  k1 n k_ i_ t38 t39 t42 t43 t46 t47 m_)
  none)
  none)
  none)
  none)
  none)
  none)
  none)
  none)
  (k1 n k_ i_ t38 t39 t42 t43 t46 t47 m)
def zqs5 {β : Type} (k1 : zqrf β) (n : Int) (k_ : Int) (i_ : Int) (j : Int) (t38 : Int) (t39 : Int) (t42 : Int) (t43 : Int) (t46 : Int) (t47 : Int) (t67 : Bool) (m : List (List Int)) : Option β := zqs4 k1 n k_ i_ j t38 t39 t42 t43 t46 t47 t67 m
theorem zqs6 (hΓ : ΓOk Tryz.prog (constraint_Close_X c_constraint_Valid c_constraint_direct).Γ) : PieceOk Tryz.prog 122 0 constraint_Close_p2_code zqrh zqri (constraint_Close_p2_G (zqs5)) :=
  piece_exec (X := (constraint_Close_X c_constraint_Valid c_constraint_direct)) (p := 115) (Λ := pick1 []) mixed tab_ok hΓ (by kernel_rfl) CutsOk_nil (fun d ks r h => Eq.trans (b := constraint_Close_p2_G (zqs5) d ks) (by kernel_rfl) h)
def zqs7 (p2 : zqrg) {β : Type} (rec : Int → Int → Int → Int → Int → Int → Int → Int → Int → (List (List Int)) → Option β) (k1 : zqrj β) (n : Int) (k_ : Int) (i_ : Int) (t38 : Int) (t39 : Int) (t42 : Int) (t43 : Int) (t46 : Int) (t47 : Int) (m : List (List Int)) : Option β :=
  cond (decide (t47 < t46))
  (cond (decide (0 ≤ i_) && decide (i_ < (List.length m : Int)))
  (cond (decide (0 ≤ k_) && decide (k_ < (List.length (List.getD m (Int.toNat i_) []) : Int)))
  (cond (!decide ((List.getD (List.getD m (Int.toNat i_) []) (Int.toNat k_) (0 : Int)) = (1099511627776 : Int)))
  (cond (decide (0 ≤ k_) && decide (k_ < (List.length m : Int)))
  (cond (decide (0 ≤ t47) && decide (t47 < (List.length (List.getD m (Int.toNat k_) []) : Int)))
  (p2 (fun (n2 : Int) (k_2 : Int) (i_2 : Int) (t382 : Int) (t392 : Int) (t422 : Int) (t432 : Int) (t462 : Int) (t472 : Int) (m2 : List (List Int)) =>
  rec n2 k_2 i_2 t382 t392 t422 t432 t462 (IntKind.i64.wrap (t472 + (1 : Int))) m2) n k_ i_ t47 t38 t39 t42 t43 t46 t47 (!decide ((List.getD (List.getD m (Int.toNat k_) []) (Int.toNat t47) (0 : Int)) = (1099511627776 : Int))) m)
  none)
  none)
  (p2 (fun (n2 : Int) (k_2 : Int) (i_2 : Int) (t382 : Int) (t392 : Int) (t422 : Int) (t432 : Int) (t462 : Int) (t472 : Int) (m2 : List (List Int)) =>
  rec n2 k_2 i_2 t382 t392 t422 t432 t462 (IntKind.i64.wrap (t472 + (1 : Int))) m2) n k_ i_ t47 t38 t39 t42 t43 t46 t47 false m))
  none)
  none)
  (k1 n k_ t38 t39 t42 t43 m)
def zqs8 (p2 : zqrg) {β : Type} : Nat → zqrj β → Int → Int → Int → Int → Int → Int → Int → Int → Int → (List (List Int)) → Option β
  | 0 => fun _ _ _ _ _ _ _ _ _ _ _ => none
  | i + 1 => fun k1 n k_ i_ t38 t39 t42 t43 t46 t47 m => zqs7 p2 (zqs8 p2 i k1) k1 n k_ i_ t38 t39 t42 t43 t46 t47 m
theorem zqs9 (hΓ : ΓOk Tryz.prog (constraint_Close_X c_constraint_Valid c_constraint_direct).Γ) (p2 : zqrg) (hp2 : PieceOk Tryz.prog 122 0 constraint_Close_p2_code zqrh zqri (constraint_Close_p2_G p2)) (i : Nat) : PieceOk Tryz.prog 122 0 constraint_Close_p3_code zqrl zqrm (constraint_Close_p3_G (zqs8 p2 i)) := by
  rw [show constraint_Close_p3_code = .loop (loopBody constraint_Close_p3_code) by kernel_rfl]
  exact piece_loop (X := (constraint_Close_X c_constraint_Valid c_constraint_direct)) (p := 1) (Λ := pick1 [(115, pieceCut zqrh zqri (constraint_Close_p2_G p2))]) (G := fun i => @fun β d ks => constraint_Close_p3_G (zqs8 p2 i) d ks) mixed tab_ok hΓ rfl (by kernel_rfl) (CutsOk_cons (q := 115) (c' := constraint_Close_p2_code) (by kernel_rfl) rfl hp2 CutsOk_nil) (fun _ _ => rfl) (fun i => @fun β d ks r h => Eq.trans (b := constraint_Close_p3_G (zqs8 p2 (i + 1)) d ks) (by kernel_rfl) h) i
def zqsa (p3 : zqrk) {β : Type} (rec : Int → Int → Int → Int → Int → Int → (List (List Int)) → Option β) (k1 : zqrn β) (n : Int) (k_ : Int) (t38 : Int) (t39 : Int) (t42 : Int) (t43 : Int) (m : List (List Int)) : Option β :=
  cond (decide (t43 < t42))
  (p3 (fun (n2 : Int) (k_2 : Int) (t382 : Int) (t392 : Int) (t422 : Int) (t432 : Int) (m2 : List (List Int)) =>
  rec n2 k_2 t382 t392 t422 (IntKind.i64.wrap (t432 + (1 : Int))) m2) n k_ t43 t38 t39 t42 t43 n (0 : Int) m)
  (k1 n k_ t38 t39 m)
def zqsb (p3 : zqrk) {β : Type} : Nat → zqrn β → Int → Int → Int → Int → Int → Int → (List (List Int)) → Option β
  | 0 => fun _ _ _ _ _ _ _ _ => none
  | i + 1 => fun k1 n k_ t38 t39 t42 t43 m => zqsa p3 (zqsb p3 i k1) k1 n k_ t38 t39 t42 t43 m
theorem zqsc (hΓ : ΓOk Tryz.prog (constraint_Close_X c_constraint_Valid c_constraint_direct).Γ) (p3 : zqrk) (hp3 : PieceOk Tryz.prog 122 0 constraint_Close_p3_code zqrl zqrm (constraint_Close_p3_G p3)) (i : Nat) : PieceOk Tryz.prog 122 0 constraint_Close_p4_code zqrp zqrq (constraint_Close_p4_G (zqsb p3 i)) := by
  rw [show constraint_Close_p4_code = .loop (loopBody constraint_Close_p4_code) by kernel_rfl]
  exact piece_loop (X := (constraint_Close_X c_constraint_Valid c_constraint_direct)) (p := 1) (Λ := pick1 [(230, pieceCut zqrl zqrm (constraint_Close_p3_G p3))]) (G := fun i => @fun β d ks => constraint_Close_p4_G (zqsb p3 i) d ks) mixed tab_ok hΓ rfl (by kernel_rfl) (CutsOk_cons (q := 230) (c' := constraint_Close_p3_code) (by kernel_rfl) rfl hp3 CutsOk_nil) (fun _ _ => rfl) (fun i => @fun β d ks r h => Eq.trans (b := constraint_Close_p4_G (zqsb p3 (i + 1)) d ks) (by kernel_rfl) h) i
def zqsd (p4 : zqro) {β : Type} (rec : Int → Int → Int → (List (List Int)) → Option β) (k1 : zqrr β) (k2 : zqrs β) (n : Int) (t38 : Int) (t39 : Int) (m : List (List Int)) : Option β :=
  cond (decide (t39 < t38))
  (p4 (fun (n2 : Int) (k_ : Int) (t382 : Int) (t392 : Int) (m2 : List (List Int)) =>
  cond (decide (0 ≤ k_) && decide (k_ < (List.length m2 : Int)))
  (cond (decide (0 ≤ k_) && decide (k_ < (List.length (List.getD m2 (Int.toNat k_) []) : Int)))
  (cond (decide ((List.getD (List.getD m2 (Int.toNat k_) []) (Int.toNat k_) (0 : Int)) < (0 : Int)))
  (k1 false ([] : List (List Int)))
  (rec n2 t382 (IntKind.i64.wrap (t392 + (1 : Int))) m2))
  none)
  none) n t39 t38 t39 n (0 : Int) m)
  (k2 n m)
def zqse (p4 : zqro) {β : Type} : Nat → zqrr β → zqrs β → Int → Int → Int → (List (List Int)) → Option β
  | 0 => fun _ _ _ _ _ _ => none
  | i + 1 => fun k1 k2 n t38 t39 m => zqsd p4 (zqse p4 i k1 k2) k1 k2 n t38 t39 m
theorem zqsf (hΓ : ΓOk Tryz.prog (constraint_Close_X c_constraint_Valid c_constraint_direct).Γ) (p4 : zqro) (hp4 : PieceOk Tryz.prog 122 0 constraint_Close_p4_code zqrp zqrq (constraint_Close_p4_G p4)) (i : Nat) : PieceOk Tryz.prog 122 0 constraint_Close_p5_code zqru zqrv (constraint_Close_p5_G (zqse p4 i)) := by
  rw [show constraint_Close_p5_code = .loop (loopBody constraint_Close_p5_code) by kernel_rfl]
  exact piece_loop (X := (constraint_Close_X c_constraint_Valid c_constraint_direct)) (p := 1) (Λ := pick1 [(458, pieceCut zqrp zqrq (constraint_Close_p4_G p4))]) (G := fun i => @fun β d ks => constraint_Close_p5_G (zqse p4 i) d ks) mixed tab_ok hΓ rfl (by kernel_rfl) (CutsOk_cons (q := 458) (c' := constraint_Close_p4_code) (by kernel_rfl) rfl hp4 CutsOk_nil) (fun _ _ => rfl) (fun i => @fun β d ks r h => Eq.trans (b := constraint_Close_p5_G (zqse p4 (i + 1)) d ks) (by kernel_rfl) h) i
def zqsg {β : Type} (rec : Int → Int → (List (List Int)) → Option β) (k1 : zqrw β) (k2 : zqrx β) (t108 : Int) (t109 : Int) (m : List (List Int)) : Option β :=
  cond (decide (t109 < t108))
  (cond (decide (0 ≤ t109) && decide (t109 < (List.length m : Int)))
  (cond (decide (0 ≤ t109) && decide (t109 < (List.length (List.getD m (Int.toNat t109) []) : Int)))
  (cond (decide ((List.getD (List.getD m (Int.toNat t109) []) (Int.toNat t109) (0 : Int)) < (0 : Int)))
  (k1 false ([] : List (List Int)))
  (rec t108 (IntKind.i64.wrap (t109 + (1 : Int))) m))
  none)
  none)
  (k2 m)
def zqsh {β : Type} : Nat → zqrw β → zqrx β → Int → Int → (List (List Int)) → Option β
  | 0 => fun _ _ _ _ _ => none
  | i + 1 => fun k1 k2 t108 t109 m => zqsg (zqsh i k1 k2) k1 k2 t108 t109 m
theorem zqsi (hΓ : ΓOk Tryz.prog (constraint_Close_X c_constraint_Valid c_constraint_direct).Γ) (i : Nat) : PieceOk Tryz.prog 122 0 constraint_Close_p6_code zqrz zqs0 (constraint_Close_p6_G (zqsh i)) := by
  rw [show constraint_Close_p6_code = .loop (loopBody constraint_Close_p6_code) by kernel_rfl]
  exact piece_loop (X := (constraint_Close_X c_constraint_Valid c_constraint_direct)) (p := 1) (Λ := pick1 []) (G := fun i => @fun β d ks => constraint_Close_p6_G (zqsh i) d ks) mixed tab_ok hΓ rfl (by kernel_rfl) CutsOk_nil (fun _ _ => rfl) (fun i => @fun β d ks r h => Eq.trans (b := constraint_Close_p6_G (zqsh (i + 1)) d ks) (by kernel_rfl) h) i
def zqsj (p1 : zqrc) (p5 : zqrt) (p6 : zqry) {β : Type} (n : Int) (l : List (Int × (Int × Int))) (k : ((List (List Int)) → Bool → Option β)) : Option β :=
  c_constraint_Valid n l (fun (rValid : Bool) =>
  cond (!rValid)
  (k ([] : List (List Int)) false)
  (c_constraint_direct n l (fun (lrdirect : List (List Int)) =>
  p1 (fun (n2 : Int) (m : List (List Int)) =>
  p5 (fun (t5 : Bool) (t4 : List (List Int)) =>
  k t4 t5) (fun (n3 : Int) (m2 : List (List Int)) =>
  p6 (fun (t5 : Bool) (t4 : List (List Int)) =>
  k t4 t5) (fun (m3 : List (List Int)) =>
  k m3 true) n3 (0 : Int) m2) n2 n2 (0 : Int) m) n n (0 : Int) lrdirect)))
theorem zqsk (hΓ : ΓOk Tryz.prog (constraint_Close_X c_constraint_Valid c_constraint_direct).Γ) (p1 : zqrc) (p5 : zqrt) (p6 : zqry) (hp1 : PieceOk Tryz.prog 122 0 constraint_Close_p1_code zqrd zqre (constraint_Close_p1_G p1)) (hp5 : PieceOk Tryz.prog 122 0 constraint_Close_p5_code zqru zqrv (constraint_Close_p5_G p5)) (hp6 : PieceOk Tryz.prog 122 0 constraint_Close_p6_code zqrz zqs0 (constraint_Close_p6_G p6)) : SpecOk Tryz.prog 69 (zqra (zqsj c_constraint_Valid c_constraint_direct p1 p5 p6)) :=
  spec_exec (X := (constraint_Close_X c_constraint_Valid c_constraint_direct)) (Λ := pick1 [(122, pieceCut zqrd zqre (constraint_Close_p1_G p1)), (250, pieceCut zqru zqrv (constraint_Close_p5_G p5)), (506, pieceCut zqrz zqs0 (constraint_Close_p6_G p6))]) (rs := [.tmp 4, .tmp 5]) (c := bodyOf Tryz.f69) mixed tab_ok hΓ Tryz.func69 (by kernel_rfl) (by kernel_rfl) (by kernel_rfl) (by kernel_rfl) (CutsOk_cons (q := 122) (c' := constraint_Close_p1_code) (by kernel_rfl) rfl hp1 (CutsOk_cons (q := 250) (c' := constraint_Close_p5_code) (by kernel_rfl) rfl hp5 (CutsOk_cons (q := 506) (c' := constraint_Close_p6_code) (by kernel_rfl) rfl hp6 CutsOk_nil))) (fun x k r h => Eq.trans (b := (zqra (zqsj c_constraint_Valid c_constraint_direct p1 p5 p6)).run x k) (by kernel_rfl) h)
end
theorem zqslΓ : ΓOk Tryz.prog (pick1 [(83, .spec (zqr3 zqr7)), (84, .spec (zq8w zq9x))]) := (ΓOk_cons zqr8 (ΓOk_cons zq9y ΓOk_nil))
def zqsm (m : Nat) : zqrc := zqs2 m
theorem zqsn {β : Type} (i : Nat) (k1 n t19 t20 m) : (zqsm (i + 1) k1 n t19 t20 m : Option β) = zqs1 (zqsm i k1) k1 n t19 t20 m := rfl
def zqso : zqrc := zqsm fuel
theorem zqsp : PieceOk Tryz.prog 122 0 constraint_Close_p1_code zqrd zqre (constraint_Close_p1_G zqso) := zqs3 zqr7 zq9x zqslΓ fuel
def zqsq : zqrg := zqs5
theorem zqsr : PieceOk Tryz.prog 122 0 constraint_Close_p2_code zqrh zqri (constraint_Close_p2_G zqsq) := zqs6 zqr7 zq9x zqslΓ
def zqss (m : Nat) : zqrk := zqs8 zqsq m
theorem zqst {β : Type} (i : Nat) (k1 n k_ i_ t38 t39 t42 t43 t46 t47 m) : (zqss (i + 1) k1 n k_ i_ t38 t39 t42 t43 t46 t47 m : Option β) = zqs7 zqsq (zqss i k1) k1 n k_ i_ t38 t39 t42 t43 t46 t47 m := rfl
def zqsu : zqrk := zqss fuel
theorem zqsv : PieceOk Tryz.prog 122 0 constraint_Close_p3_code zqrl zqrm (constraint_Close_p3_G zqsu) := zqs9 zqr7 zq9x zqslΓ zqsq zqsr fuel
def zqsw (m : Nat) : zqro := zqsb zqsu m
theorem zqsx {β : Type} (i : Nat) (k1 n k_ t38 t39 t42 t43 m) : (zqsw (i + 1) k1 n k_ t38 t39 t42 t43 m : Option β) = zqsa zqsu (zqsw i k1) k1 n k_ t38 t39 t42 t43 m := rfl
def zqsy : zqro := zqsw fuel
theorem zqsz : PieceOk Tryz.prog 122 0 constraint_Close_p4_code zqrp zqrq (constraint_Close_p4_G zqsy) := zqsc zqr7 zq9x zqslΓ zqsu zqsv fuel
def zqt0 (m : Nat) : zqrt := zqse zqsy m
theorem zqt1 {β : Type} (i : Nat) (k1 k2 n t38 t39 m) : (zqt0 (i + 1) k1 k2 n t38 t39 m : Option β) = zqsd zqsy (zqt0 i k1 k2) k1 k2 n t38 t39 m := rfl
def zqt2 : zqrt := zqt0 fuel
theorem zqt3 : PieceOk Tryz.prog 122 0 constraint_Close_p5_code zqru zqrv (constraint_Close_p5_G zqt2) := zqsf zqr7 zq9x zqslΓ zqsy zqsz fuel
def zqt4 (m : Nat) : zqry := zqsh m
theorem zqt5 {β : Type} (i : Nat) (k1 k2 t108 t109 m) : (zqt4 (i + 1) k1 k2 t108 t109 m : Option β) = zqsg (zqt4 i k1 k2) k1 k2 t108 t109 m := rfl
def zqt6 : zqry := zqt4 fuel
theorem zqt7 : PieceOk Tryz.prog 122 0 constraint_Close_p6_code zqrz zqs0 (constraint_Close_p6_G zqt6) := zqsi zqr7 zq9x zqslΓ fuel
def zqt8 : zqr9 := zqsj zqr7 zq9x zqso zqt2 zqt6
theorem zqt9 : SpecOk Tryz.prog 69 (zqra zqt8) := zqsk zqr7 zq9x zqslΓ zqso zqt2 zqt6 zqsp zqt3 zqt7

/-- pagewatch/order.closed -/
abbrev zqta := {β : Type} → zq2 → ((List (List Int)) → Bool → Option β) → Option β
def zqtb (c : zqta) : Spec :=
  ⟨[(true, [.data zq3])], [], [(false, [.data (.slice (.slice (.int .i64)))]), (false, [.data .bool])], [], fun x k => c x.1.1.1 (fun r0 r1 => k (((r0, ()), (r1, ()), ()), ()))⟩
section
variable (c_constraint_Close : zqr9) (c_order_Constraints : zqpf)
@[reducible] def order_closed_X : Ctx := ⟨look tab, pick1 [(69, .spec (zqra c_constraint_Close)), (68, .spec (zqpg c_order_Constraints))], false, false, false, false⟩
def zqtc {β : Type} (r_ : zq2) (k : ((List (List Int)) → Bool → Option β)) : Option β :=
  c_order_Constraints r_ (fun (rConstraints : Bool) (lrConstraints : List (Int × (Int × Int))) =>
  cond (!rConstraints)
  (k ([] : List (List Int)) false)
  (c_constraint_Close (IntKind.i64.wrap ((List.length r_.2.2.1 : Int) + (1 : Int))) lrConstraints (fun (rClose : List (List Int)) (rClose2 : Bool) =>
  k rClose rClose2)))
theorem zqtd (hΓ : ΓOk Tryz.prog (order_closed_X c_constraint_Close c_order_Constraints).Γ) : SpecOk Tryz.prog 44 (zqtb (zqtc c_constraint_Close c_order_Constraints)) :=
  spec_exec (X := (order_closed_X c_constraint_Close c_order_Constraints)) (Λ := pick1 []) (rs := [.tmp 2, .tmp 3]) (c := bodyOf Tryz.f44) mixed tab_ok hΓ Tryz.func44 (by kernel_rfl) (by kernel_rfl) (by kernel_rfl) (by kernel_rfl) CutsOk_nil (fun x k r h => Eq.trans (b := (zqtb (zqtc c_constraint_Close c_order_Constraints)).run x k) (by kernel_rfl) h)
end
theorem zqteΓ : ΓOk Tryz.prog (pick1 [(69, .spec (zqra zqt8)), (68, .spec (zqpg zqqt))]) := (ΓOk_cons zqt9 (ΓOk_cons zqqu ΓOk_nil))
def zqtf : zqta := zqtc zqt8 zqqt
theorem zqtg : SpecOk Tryz.prog 44 (zqtb zqtf) := zqtd zqt8 zqqt zqteΓ

/-- pagewatch/order.When -/
abbrev zqth := {β : Type} → zq2 → (Bool → (List (Int × Int)) → Option β) → Option β
def zqti (c : zqth) : Spec :=
  ⟨[(true, [.data zq3])], [], [(false, [.rowh 0]), (false, [.data .bool])], [.row 40 (.prod (.int .i64) (.int .i64))], fun x k => c x.1.1.1 (fun r0 r1 => k (((), (r0, ()), ()), (r1, ())))⟩
noncomputable def order_When_p1_code : Code := codeAt 250 (bodyOf Tryz.f47)
abbrev zqtj (β : Type) := (List (Int × Int)) → Option β
abbrev zqtk := {β : Type} → zqtj β → (List (List Int)) → Int → Int → (List (Int × Int)) → Option β
def zqtl : View := ⟨0, [4, 6, 17, 18], [(false, [.data (.slice (.slice (.int .i64)))]), (false, [.rowh 0]), (false, [.data (.int .i64)]), (false, [.data (.int .i64)])], [.row 40 (.prod (.int .i64) (.int .i64))]⟩
def zqtm : List (AExit × View) := [(.exit 0, ⟨0, [6], [(false, [.rowh 0])], [.row 40 (.prod (.int .i64) (.int .i64))]⟩)]
@[reducible] def order_When_p1_G (p : zqtk) {β : Type} (d : zqtl.den) (ks : Outs.K β zqtm) : Option β :=
  p (fun a0 => ks.1 (((), ()), (a0, ()))) d.1.1.1 d.1.2.2.1.1 d.1.2.2.2.1.1 d.2.1
section
variable (c_order_closed : zqta) (c_order_matrix_when : zq7d)
@[reducible] def order_When_X : Ctx := ⟨look tab, pick1 [(44, .spec (zqtb c_order_closed)), (70, .spec (zq7e c_order_matrix_when))], false, false, false, false⟩
def zqtn {β : Type} (rec : (List (List Int)) → Int → Int → (List (Int × Int)) → Option β) (k1 : zqtj β) (m : List (List Int)) (t17 : Int) (t18 : Int) (out : List (Int × Int)) : Option β :=
  cond (decide (t18 < t17))
  (c_order_matrix_when m t18 (fun (rwhen : (Int × Int)) =>
  let l : List (Int × Int) := ([rwhen] : List (Int × Int));
  cond (decide ((List.length out + List.length l) * 16 ≤ roomMax))
  (let l2 : List (Int × Int) := (out ++ l);
  rec m t17 (IntKind.i64.wrap (t18 + (1 : Int))) l2)
  none))
  (k1 out)
def zqto {β : Type} : Nat → zqtj β → (List (List Int)) → Int → Int → (List (Int × Int)) → Option β
  | 0 => fun _ _ _ _ _ => none
  | i + 1 => fun k1 m t17 t18 out => zqtn c_order_matrix_when (zqto i k1) k1 m t17 t18 out
theorem zqtp (hΓ : ΓOk Tryz.prog (order_When_X c_order_closed c_order_matrix_when).Γ) (i : Nat) : PieceOk Tryz.prog 29 0 order_When_p1_code zqtl zqtm (order_When_p1_G (zqto c_order_matrix_when i)) := by
  rw [show order_When_p1_code = .loop (loopBody order_When_p1_code) by kernel_rfl]
  exact piece_loop (X := (order_When_X c_order_closed c_order_matrix_when)) (p := 1) (Λ := pick1 []) (G := fun i => @fun β d ks => order_When_p1_G (zqto c_order_matrix_when i) d ks) mixed tab_ok hΓ rfl (by kernel_rfl) CutsOk_nil (fun _ _ => rfl) (fun i => @fun β d ks r h => Eq.trans (b := order_When_p1_G (zqto c_order_matrix_when (i + 1)) d ks) (by kernel_rfl) h) i
def zqtq (p1 : zqtk) {β : Type} (r_ : zq2) (k : (Bool → (List (Int × Int)) → Option β)) : Option β :=
  c_order_closed r_ (fun (rclosed : List (List Int)) (rclosed2 : Bool) =>
  cond (!rclosed2)
  (k false ([] : List (Int × Int)))
  (p1 (fun (out : List (Int × Int)) =>
  k true out) rclosed (List.length r_.2.2.1 : Int) (0 : Int) ([] : List (Int × Int))))
theorem zqtr (hΓ : ΓOk Tryz.prog (order_When_X c_order_closed c_order_matrix_when).Γ) (p1 : zqtk) (hp1 : PieceOk Tryz.prog 29 0 order_When_p1_code zqtl zqtm (order_When_p1_G p1)) : SpecOk Tryz.prog 47 (zqti (zqtq c_order_closed p1)) :=
  spec_exec (X := (order_When_X c_order_closed c_order_matrix_when)) (Λ := pick1 [(250, pieceCut zqtl zqtm (order_When_p1_G p1))]) (rs := [.tmp 2, .tmp 3]) (c := bodyOf Tryz.f47) mixed tab_ok hΓ Tryz.func47 (by kernel_rfl) (by kernel_rfl) (by kernel_rfl) (by kernel_rfl) (CutsOk_cons (q := 250) (c' := order_When_p1_code) (by kernel_rfl) rfl hp1 CutsOk_nil) (fun x k r h => Eq.trans (b := (zqti (zqtq c_order_closed p1)).run x k) (by kernel_rfl) h)
end
theorem zqtsΓ : ΓOk Tryz.prog (pick1 [(44, .spec (zqtb zqtf)), (70, .spec (zq7e zq7i))]) := (ΓOk_cons zqtg (ΓOk_cons zq7j ΓOk_nil))
def zqtt (m : Nat) : zqtk := zqto zq7i m
theorem zqtu {β : Type} (i : Nat) (k1 m t17 t18 out) : (zqtt (i + 1) k1 m t17 t18 out : Option β) = zqtn zq7i (zqtt i k1) k1 m t17 t18 out := rfl
def zqtv : zqtk := zqtt fuel
theorem zqtw : PieceOk Tryz.prog 29 0 order_When_p1_code zqtl zqtm (order_When_p1_G zqtv) := zqtp zqtf zq7i zqtsΓ fuel
def zqtx : zqth := zqtq zqtf zqtv
theorem zqty : SpecOk Tryz.prog 47 (zqti zqtx) := zqtr zqtf zq7i zqtsΓ zqtv zqtw

/-- pagewatch/order.Open -/
abbrev zqtz := {β : Type} → zq2 → ((List (Int × Int)) → Option β) → Option β
def zqu0 (c : zqtz) : Spec :=
  ⟨[(true, [.data zq3])], [], [(false, [.rowh 0])], [.row 58 (.prod (.int .i64) (.int .i64))], fun x k => c x.1.1.1 (fun r0 => k (((), ()), (r0, ())))⟩
noncomputable def order_Open_p2_code : Code := codeAt 122 (bodyOf Tryz.f48)
noncomputable def order_Open_p1_code : Code := codeAt 230 (loopBody order_Open_p2_code)
abbrev zqu1 (β : Type) := (List (List Int)) → Bool → Int → Int → (List (List UInt8 × Int)) → (List (Int × (Int × (Int × Int)))) → (List zq0) → (List (Int × (Int × Int))) → (List (Int × Int)) → Option β
abbrev zqu2 := {β : Type} → zqu1 β → (List (List Int)) → Bool → Int → Int → Int → Int → (List (List UInt8 × Int)) → (List (Int × (Int × (Int × Int)))) → (List zq0) → (List (Int × (Int × Int))) → (List (Int × Int)) → Option β
def zqu3 : View := ⟨0, [1, 3, 4, 5, 6, 7, 15, 16], [(false, [.ptr 0 0]), (false, [.data (.slice (.slice (.int .i64)))]), (false, [.data .bool]), (false, [.rowh 1]), (false, [.data (.int .i64)]), (false, [.data (.int .i64)]), (false, [.data (.int .i64)]), (false, [.data (.int .i64)])], [.cells 32 [.data (.slice (.prod .str (.int .i64))), .data (.slice (.prod (.int .i64) (.prod (.int .i64) (.prod (.int .i64) (.int .i64))))), .data (.slice zq1), .data (.slice (.prod (.int .i64) (.prod (.int .i64) (.int .i64))))], .row 58 (.prod (.int .i64) (.int .i64))]⟩
def zqu4 : List (AExit × View) := [(.exit 2, ⟨0, [1, 3, 4, 5, 15, 16], [(false, [.ptr 0 0]), (false, [.data (.slice (.slice (.int .i64)))]), (false, [.data .bool]), (false, [.rowh 1]), (false, [.data (.int .i64)]), (false, [.data (.int .i64)])], [.cells 32 [.data (.slice (.prod .str (.int .i64))), .data (.slice (.prod (.int .i64) (.prod (.int .i64) (.prod (.int .i64) (.int .i64))))), .data (.slice zq1), .data (.slice (.prod (.int .i64) (.prod (.int .i64) (.int .i64))))], .row 58 (.prod (.int .i64) (.int .i64))]⟩)]
@[reducible] def order_Open_p1_G (p : zqu2) {β : Type} (d : zqu3.den) (ks : Outs.K β zqu4) : Option β :=
  p (fun a0 a1 a2 a3 a4 a5 a6 a7 a8 => ks.1 (((), (a0, ()), (a1, ()), (), (a2, ()), (a3, ()), ()), ((a4, a5, a6, a7, ()), a8, ()))) d.1.2.1.1 d.1.2.2.1.1 d.1.2.2.2.2.1.1 d.1.2.2.2.2.2.1.1 d.1.2.2.2.2.2.2.1.1 d.1.2.2.2.2.2.2.2.1.1 d.2.1.1 d.2.1.2.1 d.2.1.2.2.1 d.2.1.2.2.2.1 d.2.2.1
abbrev zqu5 (β : Type) := (List (Int × Int)) → Option β
abbrev zqu6 := {β : Type} → zqu5 β → (List (List Int)) → Bool → Int → Int → (List (List UInt8 × Int)) → (List (Int × (Int × (Int × Int)))) → (List zq0) → (List (Int × (Int × Int))) → (List (Int × Int)) → Option β
def zqu7 : View := ⟨0, [1, 3, 4, 5, 15, 16], [(false, [.ptr 0 0]), (false, [.data (.slice (.slice (.int .i64)))]), (false, [.data .bool]), (false, [.rowh 1]), (false, [.data (.int .i64)]), (false, [.data (.int .i64)])], [.cells 32 [.data (.slice (.prod .str (.int .i64))), .data (.slice (.prod (.int .i64) (.prod (.int .i64) (.prod (.int .i64) (.int .i64))))), .data (.slice zq1), .data (.slice (.prod (.int .i64) (.prod (.int .i64) (.int .i64))))], .row 58 (.prod (.int .i64) (.int .i64))]⟩
def zqu8 : List (AExit × View) := [(.exit 0, ⟨0, [5], [(false, [.rowh 0])], [.row 58 (.prod (.int .i64) (.int .i64))]⟩)]
@[reducible] def order_Open_p2_G (p : zqu6) {β : Type} (d : zqu7.den) (ks : Outs.K β zqu8) : Option β :=
  p (fun a0 => ks.1 (((), ()), (a0, ()))) d.1.2.1.1 d.1.2.2.1.1 d.1.2.2.2.2.1.1 d.1.2.2.2.2.2.1.1 d.2.1.1 d.2.1.2.1 d.2.1.2.2.1 d.2.1.2.2.2.1 d.2.2.1
section
variable (c_order_closed : zqta) (c_order_matrix_open : zq7k)
@[reducible] def order_Open_X : Ctx := ⟨look tab, pick1 [(44, .spec (zqtb c_order_closed)), (71, .spec (zq7l c_order_matrix_open))], false, false, false, false⟩
def zqu9 {β : Type} (rec : (List (List Int)) → Bool → Int → Int → Int → Int → (List (List UInt8 × Int)) → (List (Int × (Int × (Int × Int)))) → (List zq0) → (List (Int × (Int × Int))) → (List (Int × Int)) → Option β) (k1 : zqu1 β) (m : List (List Int)) (ok : Bool) (a : Int) (b : Int) (t15 : Int) (t16 : Int) (r_ : List (List UInt8 × Int)) (r_2 : List (Int × (Int × (Int × Int)))) (r_3 : List zq0) (r_4 : List (Int × (Int × Int))) (out : List (Int × Int)) : Option β :=
  cond (decide (b < (List.length r_3 : Int)))
  (cond ok
  (c_order_matrix_open m a b (fun (ropen : Bool) =>
  cond ropen
  (let l : List (Int × Int) := ([(a, b)] : List (Int × Int));
  cond (decide ((List.length out + List.length l) * 16 ≤ roomMax))
  (let l2 : List (Int × Int) := (out ++ l);
  let b2 : Int := (IntKind.i64.wrap (b + (1 : Int)));
  rec m ok a b2 t15 t16 r_ r_2 r_3 r_4 l2)
  none)
  (let b2 : Int := (IntKind.i64.wrap (b + (1 : Int)));
  rec m ok a b2 t15 t16 r_ r_2 r_3 r_4 out)))
  (k1 m ok t15 t16 r_ r_2 r_3 r_4 out))
  (k1 m ok t15 t16 r_ r_2 r_3 r_4 out)
def zqua {β : Type} : Nat → zqu1 β → (List (List Int)) → Bool → Int → Int → Int → Int → (List (List UInt8 × Int)) → (List (Int × (Int × (Int × Int)))) → (List zq0) → (List (Int × (Int × Int))) → (List (Int × Int)) → Option β
  | 0 => fun _ _ _ _ _ _ _ _ _ _ _ _ => none
  | i + 1 => fun k1 m ok a b t15 t16 r_ r_2 r_3 r_4 out => zqu9 c_order_matrix_open (zqua i k1) k1 m ok a b t15 t16 r_ r_2 r_3 r_4 out
theorem zqub (hΓ : ΓOk Tryz.prog (order_Open_X c_order_closed c_order_matrix_open).Γ) (i : Nat) : PieceOk Tryz.prog 43 0 order_Open_p1_code zqu3 zqu4 (order_Open_p1_G (zqua c_order_matrix_open i)) := by
  rw [show order_Open_p1_code = .loop (loopBody order_Open_p1_code) by kernel_rfl]
  exact piece_loop (X := (order_Open_X c_order_closed c_order_matrix_open)) (p := 1) (Λ := pick1 []) (G := fun i => @fun β d ks => order_Open_p1_G (zqua c_order_matrix_open i) d ks) mixed tab_ok hΓ rfl (by kernel_rfl) CutsOk_nil (fun _ _ => rfl) (fun i => @fun β d ks r h => Eq.trans (b := order_Open_p1_G (zqua c_order_matrix_open (i + 1)) d ks) (by kernel_rfl) h) i
def zquc (p1 : zqu2) {β : Type} (rec : (List (List Int)) → Bool → Int → Int → (List (List UInt8 × Int)) → (List (Int × (Int × (Int × Int)))) → (List zq0) → (List (Int × (Int × Int))) → (List (Int × Int)) → Option β) (k1 : zqu5 β) (m : List (List Int)) (ok : Bool) (t15 : Int) (t16 : Int) (r_ : List (List UInt8 × Int)) (r_2 : List (Int × (Int × (Int × Int)))) (r_3 : List zq0) (r_4 : List (Int × (Int × Int))) (out : List (Int × Int)) : Option β :=
  cond (decide (t16 < t15))
  (let b : Int := (IntKind.i64.wrap (t16 + (1 : Int)));
  p1 (fun (m2 : List (List Int)) (ok2 : Bool) (t152 : Int) (t162 : Int) (r_5 : List (List UInt8 × Int)) (r_6 : List (Int × (Int × (Int × Int)))) (r_7 : List zq0) (r_8 : List (Int × (Int × Int))) (out2 : List (Int × Int)) =>
  rec m2 ok2 t152 (IntKind.i64.wrap (t162 + (1 : Int))) r_5 r_6 r_7 r_8 out2) m ok t16 b t15 t16 r_ r_2 r_3 r_4 out)
  (k1 out)
def zqud (p1 : zqu2) {β : Type} : Nat → zqu5 β → (List (List Int)) → Bool → Int → Int → (List (List UInt8 × Int)) → (List (Int × (Int × (Int × Int)))) → (List zq0) → (List (Int × (Int × Int))) → (List (Int × Int)) → Option β
  | 0 => fun _ _ _ _ _ _ _ _ _ _ => none
  | i + 1 => fun k1 m ok t15 t16 r_ r_2 r_3 r_4 out => zquc p1 (zqud p1 i k1) k1 m ok t15 t16 r_ r_2 r_3 r_4 out
theorem zque (hΓ : ΓOk Tryz.prog (order_Open_X c_order_closed c_order_matrix_open).Γ) (p1 : zqu2) (hp1 : PieceOk Tryz.prog 43 0 order_Open_p1_code zqu3 zqu4 (order_Open_p1_G p1)) (i : Nat) : PieceOk Tryz.prog 43 0 order_Open_p2_code zqu7 zqu8 (order_Open_p2_G (zqud p1 i)) := by
  rw [show order_Open_p2_code = .loop (loopBody order_Open_p2_code) by kernel_rfl]
  exact piece_loop (X := (order_Open_X c_order_closed c_order_matrix_open)) (p := 1) (Λ := pick1 [(230, pieceCut zqu3 zqu4 (order_Open_p1_G p1))]) (G := fun i => @fun β d ks => order_Open_p2_G (zqud p1 i) d ks) mixed tab_ok hΓ rfl (by kernel_rfl) (CutsOk_cons (q := 230) (c' := order_Open_p1_code) (by kernel_rfl) rfl hp1 CutsOk_nil) (fun _ _ => rfl) (fun i => @fun β d ks r h => Eq.trans (b := order_Open_p2_G (zqud p1 (i + 1)) d ks) (by kernel_rfl) h) i
def zquf (p2 : zqu6) {β : Type} (r_ : zq2) (k : ((List (Int × Int)) → Option β)) : Option β :=
  c_order_closed r_ (fun (rclosed : List (List Int)) (rclosed2 : Bool) =>
  p2 (fun (out : List (Int × Int)) =>
  k out) rclosed rclosed2 (List.length r_.2.2.1 : Int) (0 : Int) r_.1 r_.2.1 r_.2.2.1 r_.2.2.2 ([] : List (Int × Int)))
theorem zqug (hΓ : ΓOk Tryz.prog (order_Open_X c_order_closed c_order_matrix_open).Γ) (p2 : zqu6) (hp2 : PieceOk Tryz.prog 43 0 order_Open_p2_code zqu7 zqu8 (order_Open_p2_G p2)) : SpecOk Tryz.prog 48 (zqu0 (zquf c_order_closed p2)) :=
  spec_exec (X := (order_Open_X c_order_closed c_order_matrix_open)) (Λ := pick1 [(122, pieceCut zqu7 zqu8 (order_Open_p2_G p2))]) (rs := [.tmp 2]) (c := bodyOf Tryz.f48) mixed tab_ok hΓ Tryz.func48 (by kernel_rfl) (by kernel_rfl) (by kernel_rfl) (by kernel_rfl) (CutsOk_cons (q := 122) (c' := order_Open_p2_code) (by kernel_rfl) rfl hp2 CutsOk_nil) (fun x k r h => Eq.trans (b := (zqu0 (zquf c_order_closed p2)).run x k) (by kernel_rfl) h)
end
theorem zquhΓ : ΓOk Tryz.prog (pick1 [(44, .spec (zqtb zqtf)), (71, .spec (zq7l zq7p))]) := (ΓOk_cons zqtg (ΓOk_cons zq7q ΓOk_nil))
def zqui (m : Nat) : zqu2 := zqua zq7p m
theorem zquj {β : Type} (i : Nat) (k1 m ok a b t15 t16 r_ r_2 r_3 r_4 out) : (zqui (i + 1) k1 m ok a b t15 t16 r_ r_2 r_3 r_4 out : Option β) = zqu9 zq7p (zqui i k1) k1 m ok a b t15 t16 r_ r_2 r_3 r_4 out := rfl
def zquk : zqu2 := zqui fuel
theorem zqul : PieceOk Tryz.prog 43 0 order_Open_p1_code zqu3 zqu4 (order_Open_p1_G zquk) := zqub zqtf zq7p zquhΓ fuel
def zqum (m : Nat) : zqu6 := zqud zquk m
theorem zqun {β : Type} (i : Nat) (k1 m ok t15 t16 r_ r_2 r_3 r_4 out) : (zqum (i + 1) k1 m ok t15 t16 r_ r_2 r_3 r_4 out : Option β) = zquc zquk (zqum i k1) k1 m ok t15 t16 r_ r_2 r_3 r_4 out := rfl
def zquo : zqu6 := zqum fuel
theorem zqup : PieceOk Tryz.prog 43 0 order_Open_p2_code zqu7 zqu8 (order_Open_p2_G zquo) := zque zqtf zq7p zquhΓ zquk zqul fuel
def zquq : zqtz := zquf zqtf zquo
theorem zqur : SpecOk Tryz.prog 48 (zqu0 zquq) := zqug zqtf zq7p zquhΓ zquo zqup

/-- pagewatch/order.Sort -/
abbrev zqus := {β : Type} → zq2 → (Bool → (List Int) → Option β) → Option β
def zqut (c : zqus) : Spec :=
  ⟨[(true, [.data zq3])], [], [(false, [.rowh 0]), (false, [.data .bool])], [.row 3 (.int .i64)], fun x k => c x.1.1.1 (fun r0 r1 => k (((), (r0, ()), ()), (r1, ())))⟩
noncomputable def order_Sort_p3_code : Code := codeAt 506 (bodyOf Tryz.f24)
noncomputable def order_Sort_p2_code : Code := codeAt 458 (loopBody order_Sort_p3_code)
noncomputable def order_Sort_p1_code : Code := codeAt 922 (loopBody order_Sort_p2_code)
abbrev zquu (β : Type) := (List (List Int)) → Int → Int → Bool → Int → Int → Int → Int → (List (List UInt8 × Int)) → (List (Int × (Int × (Int × Int)))) → (List zq0) → (List (Int × (Int × Int))) → (List (Int × Bool)) → (List Int) → Option β
abbrev zquv := {β : Type} → zquu β → (List (List Int)) → Int → Int → Bool → Int → Int → Int → Int → Int → Int → (List (List UInt8 × Int)) → (List (Int × (Int × (Int × Int)))) → (List zq0) → (List (Int × (Int × Int))) → (List (Int × Bool)) → (List Int) → Option β
def zquw : View := ⟨0, [1, 4, 6, 7, 8, 9, 10, 22, 23, 27, 28, 37, 38], [(false, [.ptr 0 0]), (false, [.data (.slice (.slice (.int .i64)))]), (false, [.maph 1]), (false, [.rowh 2]), (false, [.data (.int .i64)]), (false, [.data (.int .i64)]), (false, [.data .bool]), (false, [.data (.int .i64)]), (false, [.data (.int .i64)]), (false, [.data (.int .i64)]), (false, [.data (.int .i64)]), (false, [.data (.int .i64)]), (false, [.data (.int .i64)])], [.cells 32 [.data (.slice (.prod .str (.int .i64))), .data (.slice (.prod (.int .i64) (.prod (.int .i64) (.prod (.int .i64) (.int .i64))))), .data (.slice zq1), .data (.slice (.prod (.int .i64) (.prod (.int .i64) (.int .i64))))], .map 107 (.int .i64) .bool false, .row 3 (.int .i64)]⟩
def zqux : List (AExit × View) := [(.exit 4, ⟨0, [1, 4, 6, 7, 8, 9, 10, 22, 23, 27, 28], [(false, [.ptr 0 0]), (false, [.data (.slice (.slice (.int .i64)))]), (false, [.maph 1]), (false, [.rowh 2]), (false, [.data (.int .i64)]), (false, [.data (.int .i64)]), (false, [.data .bool]), (false, [.data (.int .i64)]), (false, [.data (.int .i64)]), (false, [.data (.int .i64)]), (false, [.data (.int .i64)])], [.cells 32 [.data (.slice (.prod .str (.int .i64))), .data (.slice (.prod (.int .i64) (.prod (.int .i64) (.prod (.int .i64) (.int .i64))))), .data (.slice zq1), .data (.slice (.prod (.int .i64) (.prod (.int .i64) (.int .i64))))], .map 107 (.int .i64) .bool false, .row 3 (.int .i64)]⟩)]
@[reducible] def order_Sort_p1_G (p : zquv) {β : Type} (d : zquw.den) (ks : Outs.K β zqux) : Option β :=
  p (fun a0 a1 a2 a3 a4 a5 a6 a7 a8 a9 a10 a11 a12 a13 => ks.1 (((), (a0, ()), (), (), (a1, ()), (a2, ()), (a3, ()), (a4, ()), (a5, ()), (a6, ()), (a7, ()), ()), ((a8, a9, a10, a11, ()), a12, a13, ()))) d.1.2.1.1 d.1.2.2.2.2.1.1 d.1.2.2.2.2.2.1.1 d.1.2.2.2.2.2.2.1.1 d.1.2.2.2.2.2.2.2.1.1 d.1.2.2.2.2.2.2.2.2.1.1 d.1.2.2.2.2.2.2.2.2.2.1.1 d.1.2.2.2.2.2.2.2.2.2.2.1.1 d.1.2.2.2.2.2.2.2.2.2.2.2.1.1 d.1.2.2.2.2.2.2.2.2.2.2.2.2.1.1 d.2.1.1 d.2.1.2.1 d.2.1.2.2.1 d.2.1.2.2.2.1 d.2.2.1 d.2.2.2.1
abbrev zquy (β : Type) := (List (List Int)) → Int → Int → Int → (List (List UInt8 × Int)) → (List (Int × (Int × (Int × Int)))) → (List zq0) → (List (Int × (Int × Int))) → (List (Int × Bool)) → (List Int) → Option β
abbrev zquz := {β : Type} → zquy β → (List (List Int)) → Int → Int → Int → Int → Int → (List (List UInt8 × Int)) → (List (Int × (Int × (Int × Int)))) → (List zq0) → (List (Int × (Int × Int))) → (List (Int × Bool)) → (List Int) → Option β
def zqv0 : View := ⟨0, [1, 4, 6, 7, 8, 22, 23, 27, 28], [(false, [.ptr 0 0]), (false, [.data (.slice (.slice (.int .i64)))]), (false, [.maph 1]), (false, [.rowh 2]), (false, [.data (.int .i64)]), (false, [.data (.int .i64)]), (false, [.data (.int .i64)]), (false, [.data (.int .i64)]), (false, [.data (.int .i64)])], [.cells 32 [.data (.slice (.prod .str (.int .i64))), .data (.slice (.prod (.int .i64) (.prod (.int .i64) (.prod (.int .i64) (.int .i64))))), .data (.slice zq1), .data (.slice (.prod (.int .i64) (.prod (.int .i64) (.int .i64))))], .map 107 (.int .i64) .bool false, .row 3 (.int .i64)]⟩
def zqv1 : List (AExit × View) := [(.exit 2, ⟨0, [1, 4, 6, 7, 8, 22, 23], [(false, [.ptr 0 0]), (false, [.data (.slice (.slice (.int .i64)))]), (false, [.maph 1]), (false, [.rowh 2]), (false, [.data (.int .i64)]), (false, [.data (.int .i64)]), (false, [.data (.int .i64)])], [.cells 32 [.data (.slice (.prod .str (.int .i64))), .data (.slice (.prod (.int .i64) (.prod (.int .i64) (.prod (.int .i64) (.int .i64))))), .data (.slice zq1), .data (.slice (.prod (.int .i64) (.prod (.int .i64) (.int .i64))))], .map 107 (.int .i64) .bool false, .row 3 (.int .i64)]⟩)]
@[reducible] def order_Sort_p2_G (p : zquz) {β : Type} (d : zqv0.den) (ks : Outs.K β zqv1) : Option β :=
  p (fun a0 a1 a2 a3 a4 a5 a6 a7 a8 a9 => ks.1 (((), (a0, ()), (), (), (a1, ()), (a2, ()), (a3, ()), ()), ((a4, a5, a6, a7, ()), a8, a9, ()))) d.1.2.1.1 d.1.2.2.2.2.1.1 d.1.2.2.2.2.2.1.1 d.1.2.2.2.2.2.2.1.1 d.1.2.2.2.2.2.2.2.1.1 d.1.2.2.2.2.2.2.2.2.1.1 d.2.1.1 d.2.1.2.1 d.2.1.2.2.1 d.2.1.2.2.2.1 d.2.2.1 d.2.2.2.1
abbrev zqv2 (β : Type) := (List Int) → Option β
abbrev zqv3 := {β : Type} → zqv2 β → (List (List Int)) → Int → Int → (List (List UInt8 × Int)) → (List (Int × (Int × (Int × Int)))) → (List zq0) → (List (Int × (Int × Int))) → (List (Int × Bool)) → (List Int) → Option β
def zqv4 : View := ⟨0, [1, 4, 6, 7, 22, 23], [(false, [.ptr 0 0]), (false, [.data (.slice (.slice (.int .i64)))]), (false, [.maph 1]), (false, [.rowh 2]), (false, [.data (.int .i64)]), (false, [.data (.int .i64)])], [.cells 32 [.data (.slice (.prod .str (.int .i64))), .data (.slice (.prod (.int .i64) (.prod (.int .i64) (.prod (.int .i64) (.int .i64))))), .data (.slice zq1), .data (.slice (.prod (.int .i64) (.prod (.int .i64) (.int .i64))))], .map 107 (.int .i64) .bool false, .row 3 (.int .i64)]⟩
def zqv5 : List (AExit × View) := [(.exit 0, ⟨0, [7], [(false, [.rowh 0])], [.row 3 (.int .i64)]⟩)]
@[reducible] def order_Sort_p3_G (p : zqv3) {β : Type} (d : zqv4.den) (ks : Outs.K β zqv5) : Option β :=
  p (fun a0 => ks.1 (((), ()), (a0, ()))) d.1.2.1.1 d.1.2.2.2.2.1.1 d.1.2.2.2.2.2.1.1 d.2.1.1 d.2.1.2.1 d.2.1.2.2.1 d.2.1.2.2.2.1 d.2.2.1 d.2.2.2.1
section
variable (c_order_closed : zqta) (c_order_matrix_before : zq3l) (c_order_matrix_earlier : zqdv)
@[reducible] def order_Sort_X : Ctx := ⟨look tab, pick1 [(44, .spec (zqtb c_order_closed)), (45, .spec (zq3m c_order_matrix_before)), (46, .spec (zqdw c_order_matrix_earlier))], false, false, false, false⟩
def zqv6 {β : Type} (rec : (List (List Int)) → Int → Int → Bool → Int → Int → Int → Int → Int → Int → (List (List UInt8 × Int)) → (List (Int × (Int × (Int × Int)))) → (List zq0) → (List (Int × (Int × Int))) → (List (Int × Bool)) → (List Int) → Option β) (k1 : zquu β) (m : List (List Int)) (next : Int) (i_ : Int) (free : Bool) (t22 : Int) (t23 : Int) (t27 : Int) (t28 : Int) (t37 : Int) (t38 : Int) (r_ : List (List UInt8 × Int)) (r_2 : List (Int × (Int × (Int × Int)))) (r_3 : List zq0) (r_4 : List (Int × (Int × Int))) (placed : List (Int × Bool)) (out : List Int) : Option β :=
  cond (decide (t38 < t37))
  (cond free
  (let g : Bool := (mGet (.int .i64) placed t38 false);
  cond g
  (rec m next i_ true t22 t23 t27 t28 t37 (IntKind.i64.wrap (t38 + (1 : Int))) r_ r_2 r_3 r_4 placed out)
  (c_order_matrix_before m t38 i_ (fun (rbefore : Bool) =>
  rec m next i_ (!rbefore) t22 t23 t27 t28 t37 (IntKind.i64.wrap (t38 + (1 : Int))) r_ r_2 r_3 r_4 placed out)))
  (rec m next i_ false t22 t23 t27 t28 t37 (IntKind.i64.wrap (t38 + (1 : Int))) r_ r_2 r_3 r_4 placed out))
  (k1 m next i_ free t22 t23 t27 t28 r_ r_2 r_3 r_4 placed out)
def zqv7 {β : Type} : Nat → zquu β → (List (List Int)) → Int → Int → Bool → Int → Int → Int → Int → Int → Int → (List (List UInt8 × Int)) → (List (Int × (Int × (Int × Int)))) → (List zq0) → (List (Int × (Int × Int))) → (List (Int × Bool)) → (List Int) → Option β
  | 0 => fun _ _ _ _ _ _ _ _ _ _ _ _ _ _ _ _ _ => none
  | i + 1 => fun k1 m next i_ free t22 t23 t27 t28 t37 t38 r_ r_2 r_3 r_4 placed out => zqv6 c_order_matrix_before (zqv7 i k1) k1 m next i_ free t22 t23 t27 t28 t37 t38 r_ r_2 r_3 r_4 placed out
theorem zqv8 (hΓ : ΓOk Tryz.prog (order_Sort_X c_order_closed c_order_matrix_before c_order_matrix_earlier).Γ) (i : Nat) : PieceOk Tryz.prog 76 0 order_Sort_p1_code zquw zqux (order_Sort_p1_G (zqv7 c_order_matrix_before i)) := by
  rw [show order_Sort_p1_code = .loop (loopBody order_Sort_p1_code) by kernel_rfl]
  exact piece_loop (X := (order_Sort_X c_order_closed c_order_matrix_before c_order_matrix_earlier)) (p := 1) (Λ := pick1 []) (G := fun i => @fun β d ks => order_Sort_p1_G (zqv7 c_order_matrix_before i) d ks) mixed tab_ok hΓ rfl (by kernel_rfl) CutsOk_nil (fun _ _ => rfl) (fun i => @fun β d ks r h => Eq.trans (b := order_Sort_p1_G (zqv7 c_order_matrix_before (i + 1)) d ks) (by kernel_rfl) h) i
def zqv9 (p1 : zquv) {β : Type} (rec : (List (List Int)) → Int → Int → Int → Int → Int → (List (List UInt8 × Int)) → (List (Int × (Int × (Int × Int)))) → (List zq0) → (List (Int × (Int × Int))) → (List (Int × Bool)) → (List Int) → Option β) (k1 : zquy β) (m : List (List Int)) (next : Int) (t22 : Int) (t23 : Int) (t27 : Int) (t28 : Int) (r_ : List (List UInt8 × Int)) (r_2 : List (Int × (Int × (Int × Int)))) (r_3 : List zq0) (r_4 : List (Int × (Int × Int))) (placed : List (Int × Bool)) (out : List Int) : Option β :=
  cond (decide (t28 < t27))
  (let g : Bool := (mGet (.int .i64) placed t28 false);
  p1 (fun (m2 : List (List Int)) (next2 : Int) (i_ : Int) (free : Bool) (t222 : Int) (t232 : Int) (t272 : Int) (t282 : Int) (r_5 : List (List UInt8 × Int)) (r_6 : List (Int × (Int × (Int × Int)))) (r_7 : List zq0) (r_8 : List (Int × (Int × Int))) (placed2 : List (Int × Bool)) (out2 : List Int) =>
  cond free
  (cond (decide (next2 < (0 : Int)))
  (rec m2 i_ t222 t232 t272 (IntKind.i64.wrap (t282 + (1 : Int))) r_5 r_6 r_7 r_8 placed2 out2)
  (c_order_matrix_earlier m2 i_ next2 (fun (rearlier : Bool) =>
  cond rearlier
  (rec m2 i_ t222 t232 t272 (IntKind.i64.wrap (t282 + (1 : Int))) r_5 r_6 r_7 r_8 placed2 out2)
  (rec m2 next2 t222 t232 t272 (IntKind.i64.wrap (t282 + (1 : Int))) r_5 r_6 r_7 r_8 placed2 out2))))
  (rec m2 next2 t222 t232 t272 (IntKind.i64.wrap (t282 + (1 : Int))) r_5 r_6 r_7 r_8 placed2 out2)) m next t28 (!g) t22 t23 t27 t28 (List.length r_3 : Int) (0 : Int) r_ r_2 r_3 r_4 placed out)
  (k1 m next t22 t23 r_ r_2 r_3 r_4 placed out)
def zqva (p1 : zquv) {β : Type} : Nat → zquy β → (List (List Int)) → Int → Int → Int → Int → Int → (List (List UInt8 × Int)) → (List (Int × (Int × (Int × Int)))) → (List zq0) → (List (Int × (Int × Int))) → (List (Int × Bool)) → (List Int) → Option β
  | 0 => fun _ _ _ _ _ _ _ _ _ _ _ _ _ => none
  | i + 1 => fun k1 m next t22 t23 t27 t28 r_ r_2 r_3 r_4 placed out => zqv9 c_order_matrix_earlier p1 (zqva p1 i k1) k1 m next t22 t23 t27 t28 r_ r_2 r_3 r_4 placed out
theorem zqvb (hΓ : ΓOk Tryz.prog (order_Sort_X c_order_closed c_order_matrix_before c_order_matrix_earlier).Γ) (p1 : zquv) (hp1 : PieceOk Tryz.prog 76 0 order_Sort_p1_code zquw zqux (order_Sort_p1_G p1)) (i : Nat) : PieceOk Tryz.prog 76 0 order_Sort_p2_code zqv0 zqv1 (order_Sort_p2_G (zqva c_order_matrix_earlier p1 i)) := by
  rw [show order_Sort_p2_code = .loop (loopBody order_Sort_p2_code) by kernel_rfl]
  exact piece_loop (X := (order_Sort_X c_order_closed c_order_matrix_before c_order_matrix_earlier)) (p := 1) (Λ := pick1 [(922, pieceCut zquw zqux (order_Sort_p1_G p1))]) (G := fun i => @fun β d ks => order_Sort_p2_G (zqva c_order_matrix_earlier p1 i) d ks) mixed tab_ok hΓ rfl (by kernel_rfl) (CutsOk_cons (q := 922) (c' := order_Sort_p1_code) (by kernel_rfl) rfl hp1 CutsOk_nil) (fun _ _ => rfl) (fun i => @fun β d ks r h => Eq.trans (b := order_Sort_p2_G (zqva c_order_matrix_earlier p1 (i + 1)) d ks) (by kernel_rfl) h) i
def zqvc (p2 : zquz) {β : Type} (rec : (List (List Int)) → Int → Int → (List (List UInt8 × Int)) → (List (Int × (Int × (Int × Int)))) → (List zq0) → (List (Int × (Int × Int))) → (List (Int × Bool)) → (List Int) → Option β) (k1 : zqv2 β) (m : List (List Int)) (t22 : Int) (t23 : Int) (r_ : List (List UInt8 × Int)) (r_2 : List (Int × (Int × (Int × Int)))) (r_3 : List zq0) (r_4 : List (Int × (Int × Int))) (placed : List (Int × Bool)) (out : List Int) : Option β :=
  cond (decide (t23 < t22))
  (p2 (fun (m2 : List (List Int)) (next : Int) (t222 : Int) (t232 : Int) (r_5 : List (List UInt8 × Int)) (r_6 : List (Int × (Int × (Int × Int)))) (r_7 : List zq0) (r_8 : List (Int × (Int × Int))) (placed2 : List (Int × Bool)) (out2 : List Int) =>
  let m_ : List (Int × Bool) := (mPut (.int .i64) placed2 next true);
  let l : List Int := ([next] : List Int);
  cond (decide ((List.length out2 + List.length l) * 8 ≤ roomMax))
  (let l2 : List Int := (out2 ++ l);
  rec m2 t222 (IntKind.i64.wrap (t232 + (1 : Int))) r_5 r_6 r_7 r_8 m_ l2)
  none) m (-1 : Int) t22 t23 (List.length r_3 : Int) (0 : Int) r_ r_2 r_3 r_4 placed out)
  (k1 out)
def zqvd (p2 : zquz) {β : Type} : Nat → zqv2 β → (List (List Int)) → Int → Int → (List (List UInt8 × Int)) → (List (Int × (Int × (Int × Int)))) → (List zq0) → (List (Int × (Int × Int))) → (List (Int × Bool)) → (List Int) → Option β
  | 0 => fun _ _ _ _ _ _ _ _ _ _ => none
  | i + 1 => fun k1 m t22 t23 r_ r_2 r_3 r_4 placed out => zqvc p2 (zqvd p2 i k1) k1 m t22 t23 r_ r_2 r_3 r_4 placed out
theorem zqve (hΓ : ΓOk Tryz.prog (order_Sort_X c_order_closed c_order_matrix_before c_order_matrix_earlier).Γ) (p2 : zquz) (hp2 : PieceOk Tryz.prog 76 0 order_Sort_p2_code zqv0 zqv1 (order_Sort_p2_G p2)) (i : Nat) : PieceOk Tryz.prog 76 0 order_Sort_p3_code zqv4 zqv5 (order_Sort_p3_G (zqvd p2 i)) := by
  rw [show order_Sort_p3_code = .loop (loopBody order_Sort_p3_code) by kernel_rfl]
  exact piece_loop (X := (order_Sort_X c_order_closed c_order_matrix_before c_order_matrix_earlier)) (p := 1) (Λ := pick1 [(458, pieceCut zqv0 zqv1 (order_Sort_p2_G p2))]) (G := fun i => @fun β d ks => order_Sort_p3_G (zqvd p2 i) d ks) mixed tab_ok hΓ rfl (by kernel_rfl) (CutsOk_cons (q := 458) (c' := order_Sort_p2_code) (by kernel_rfl) rfl hp2 CutsOk_nil) (fun _ _ => rfl) (fun i => @fun β d ks r h => Eq.trans (b := order_Sort_p3_G (zqvd p2 (i + 1)) d ks) (by kernel_rfl) h) i
def zqvf (p3 : zqv3) {β : Type} (r_ : zq2) (k : (Bool → (List Int) → Option β)) : Option β :=
  c_order_closed r_ (fun (rclosed : List (List Int)) (rclosed2 : Bool) =>
  cond (!rclosed2)
  (k false ([] : List Int))
  (let m_ : List (Int × Bool) := ([] : List (Int × Bool));
  p3 (fun (out : List Int) =>
  k true out) rclosed (List.length r_.2.2.1 : Int) (0 : Int) r_.1 r_.2.1 r_.2.2.1 r_.2.2.2 m_ ([] : List Int)))
theorem zqvg (hΓ : ΓOk Tryz.prog (order_Sort_X c_order_closed c_order_matrix_before c_order_matrix_earlier).Γ) (p3 : zqv3) (hp3 : PieceOk Tryz.prog 76 0 order_Sort_p3_code zqv4 zqv5 (order_Sort_p3_G p3)) : SpecOk Tryz.prog 24 (zqut (zqvf c_order_closed p3)) :=
  spec_exec (X := (order_Sort_X c_order_closed c_order_matrix_before c_order_matrix_earlier)) (Λ := pick1 [(506, pieceCut zqv4 zqv5 (order_Sort_p3_G p3))]) (rs := [.tmp 2, .tmp 3]) (c := bodyOf Tryz.f24) mixed tab_ok hΓ Tryz.func24 (by kernel_rfl) (by kernel_rfl) (by kernel_rfl) (by kernel_rfl) (CutsOk_cons (q := 506) (c' := order_Sort_p3_code) (by kernel_rfl) rfl hp3 CutsOk_nil) (fun x k r h => Eq.trans (b := (zqut (zqvf c_order_closed p3)).run x k) (by kernel_rfl) h)
end
theorem zqvhΓ : ΓOk Tryz.prog (pick1 [(44, .spec (zqtb zqtf)), (45, .spec (zq3m zq3q)), (46, .spec (zqdw zqe0))]) := (ΓOk_cons zqtg (ΓOk_cons zq3r (ΓOk_cons zqe1 ΓOk_nil)))
def zqvi (m : Nat) : zquv := zqv7 zq3q m
theorem zqvj {β : Type} (i : Nat) (k1 m next i_ free t22 t23 t27 t28 t37 t38 r_ r_2 r_3 r_4 placed out) : (zqvi (i + 1) k1 m next i_ free t22 t23 t27 t28 t37 t38 r_ r_2 r_3 r_4 placed out : Option β) = zqv6 zq3q (zqvi i k1) k1 m next i_ free t22 t23 t27 t28 t37 t38 r_ r_2 r_3 r_4 placed out := rfl
def zqvk : zquv := zqvi fuel
theorem zqvl : PieceOk Tryz.prog 76 0 order_Sort_p1_code zquw zqux (order_Sort_p1_G zqvk) := zqv8 zqtf zq3q zqe0 zqvhΓ fuel
def zqvm (m : Nat) : zquz := zqva zqe0 zqvk m
theorem zqvn {β : Type} (i : Nat) (k1 m next t22 t23 t27 t28 r_ r_2 r_3 r_4 placed out) : (zqvm (i + 1) k1 m next t22 t23 t27 t28 r_ r_2 r_3 r_4 placed out : Option β) = zqv9 zqe0 zqvk (zqvm i k1) k1 m next t22 t23 t27 t28 r_ r_2 r_3 r_4 placed out := rfl
def zqvo : zquz := zqvm fuel
theorem zqvp : PieceOk Tryz.prog 76 0 order_Sort_p2_code zqv0 zqv1 (order_Sort_p2_G zqvo) := zqvb zqtf zq3q zqe0 zqvhΓ zqvk zqvl fuel
def zqvq (m : Nat) : zqv3 := zqvd zqvo m
theorem zqvr {β : Type} (i : Nat) (k1 m t22 t23 r_ r_2 r_3 r_4 placed out) : (zqvq (i + 1) k1 m t22 t23 r_ r_2 r_3 r_4 placed out : Option β) = zqvc zqvo (zqvq i k1) k1 m t22 t23 r_ r_2 r_3 r_4 placed out := rfl
def zqvs : zqv3 := zqvq fuel
theorem zqvt : PieceOk Tryz.prog 76 0 order_Sort_p3_code zqv4 zqv5 (order_Sort_p3_G zqvs) := zqve zqtf zq3q zqe0 zqvhΓ zqvo zqvp fuel
def zqvu : zqus := zqvf zqtf zqvs
theorem zqvv : SpecOk Tryz.prog 24 (zqut zqvu) := zqvg zqtf zq3q zqe0 zqvhΓ zqvs zqvt

/-- pagewatch/timeline.rows -/
abbrev zqvw := {β : Type} → zq2 → (List Int) → ((List api_Row) → Option β) → Option β
def zqvx (c : zqvw) : Spec :=
  ⟨[(true, [.data zq3]), (false, [.data (.slice (.int .i64))])], [], [(false, [.rowh 0])], [.row 42 zq4], fun x k => c x.1.1.1 x.1.2.1.1 (fun r0 => k (((), ()), (r0, ())))⟩
noncomputable def timeline_rows_p1_code : Code := codeAt 122 (bodyOf Tryz.f25)
noncomputable def timeline_rows_p3_code : Code := codeAt 506 (bodyOf Tryz.f25)
noncomputable def timeline_rows_p2_code : Code := codeAt 922 (loopBody timeline_rows_p3_code)
abbrev zqvy (β : Type) := (List Int) → (List (Int × Int)) → (List ((Int × Int) × Bool)) → Option β
abbrev zqvz := {β : Type} → zqvy β → (List Int) → Int → Int → (List (Int × Int)) → (List ((Int × Int) × Bool)) → (List (Int × Int)) → Option β
def zqw0 : View := ⟨0, [1, 5, 7, 23, 24, 25], [(false, [.data (.slice (.int .i64))]), (false, [.rowh 0]), (false, [.maph 1]), (false, [.rowh 2]), (false, [.data (.int .i64)]), (false, [.data (.int .i64)])], [.row 40 (.prod (.int .i64) (.int .i64)), .map 109 (.prod (.int .i64) (.int .i64)) .bool false, .row 58 (.prod (.int .i64) (.int .i64))]⟩
def zqw1 : List (AExit × View) := [(.exit 0, ⟨0, [1, 5, 7], [(false, [.data (.slice (.int .i64))]), (false, [.rowh 0]), (false, [.maph 1])], [.row 40 (.prod (.int .i64) (.int .i64)), .map 109 (.prod (.int .i64) (.int .i64)) .bool false]⟩)]
@[reducible] def timeline_rows_p1_G (p : zqvz) {β : Type} (d : zqw0.den) (ks : Outs.K β zqw1) : Option β :=
  p (fun a0 a1 a2 => ks.1 (((a0, ()), (), (), ()), (a1, a2, ()))) d.1.1.1 d.1.2.2.2.2.1.1 d.1.2.2.2.2.2.1.1 d.2.1 d.2.2.1 d.2.2.2.1
abbrev zqw2 (β : Type) := (List Int) → (List Int) → Int → Int → (List (Int × Int)) → (List ((Int × Int) × Bool)) → (List api_Row) → Int → Int → Int → (List Int) → Option β
abbrev zqw3 := {β : Type} → zqw2 β → (List Int) → Int → (List Int) → Int → Int → (List Int) → Int → Int → (List (Int × Int)) → (List ((Int × Int) × Bool)) → (List api_Row) → Int → Int → Int → (List Int) → Option β
def zqw4 : View := ⟨0, [1, 5, 7, 10, 12, 13, 32, 33, 34, 47, 48, 49], [(false, [.data (.slice (.int .i64))]), (false, [.rowh 0]), (false, [.maph 1]), (false, [.rowh 2]), (false, [.data (.int .i64)]), (false, [.ptr 3 0]), (false, [.data (.slice (.int .i64))]), (false, [.data (.int .i64)]), (false, [.data (.int .i64)]), (false, [.data (.slice (.int .i64))]), (false, [.data (.int .i64)]), (false, [.data (.int .i64)])], [.row 40 (.prod (.int .i64) (.int .i64)), .map 109 (.prod (.int .i64) (.int .i64)) .bool false, .row 42 zq4, .cells 42 [.data (.int .i64), .data (.int .i64), .data (.int .i64), .rowh 4], .row 3 (.int .i64)]⟩
def zqw5 : List (AExit × View) := [(.exit 4, ⟨0, [1, 5, 7, 10, 13, 32, 33, 34], [(false, [.data (.slice (.int .i64))]), (false, [.rowh 0]), (false, [.maph 1]), (false, [.rowh 2]), (false, [.ptr 3 0]), (false, [.data (.slice (.int .i64))]), (false, [.data (.int .i64)]), (false, [.data (.int .i64)])], [.row 40 (.prod (.int .i64) (.int .i64)), .map 109 (.prod (.int .i64) (.int .i64)) .bool false, .row 42 zq4, .cells 42 [.data (.int .i64), .data (.int .i64), .data (.int .i64), .rowh 4], .row 3 (.int .i64)]⟩)]
@[reducible] def timeline_rows_p2_G (p : zqw3) {β : Type} (d : zqw4.den) (ks : Outs.K β zqw5) : Option β :=
  p (fun a0 a1 a2 a3 a4 a5 a6 a7 a8 a9 a10 => ks.1 (((a0, ()), (), (), (), (), (a1, ()), (a2, ()), (a3, ()), ()), (a4, a5, a6, (a7, a8, a9, ()), a10, ()))) d.1.1.1 d.1.2.2.2.2.1.1 d.1.2.2.2.2.2.2.1.1 d.1.2.2.2.2.2.2.2.1.1 d.1.2.2.2.2.2.2.2.2.1.1 d.1.2.2.2.2.2.2.2.2.2.1.1 d.1.2.2.2.2.2.2.2.2.2.2.1.1 d.1.2.2.2.2.2.2.2.2.2.2.2.1.1 d.2.1 d.2.2.1 d.2.2.2.1 d.2.2.2.2.1.1 d.2.2.2.2.1.2.1 d.2.2.2.2.1.2.2.1 d.2.2.2.2.2.1
abbrev zqw6 (β : Type) := (List api_Row) → Option β
abbrev zqw7 := {β : Type} → zqw6 β → (List Int) → (List Int) → Int → Int → (List (Int × Int)) → (List ((Int × Int) × Bool)) → (List api_Row) → Option β
def zqw8 : View := ⟨0, [1, 5, 7, 10, 32, 33, 34], [(false, [.data (.slice (.int .i64))]), (false, [.rowh 0]), (false, [.maph 1]), (false, [.rowh 2]), (false, [.data (.slice (.int .i64))]), (false, [.data (.int .i64)]), (false, [.data (.int .i64)])], [.row 40 (.prod (.int .i64) (.int .i64)), .map 109 (.prod (.int .i64) (.int .i64)) .bool false, .row 42 zq4]⟩
def zqw9 : List (AExit × View) := [(.exit 2, ⟨0, [10], [(false, [.rowh 0])], [.row 42 zq4]⟩)]
@[reducible] def timeline_rows_p3_G (p : zqw7) {β : Type} (d : zqw8.den) (ks : Outs.K β zqw9) : Option β :=
  p (fun a0 => ks.1 (((), ()), (a0, ()))) d.1.1.1 d.1.2.2.2.2.1.1 d.1.2.2.2.2.2.1.1 d.1.2.2.2.2.2.2.1.1 d.2.1 d.2.2.1 d.2.2.2.1
section
variable (c_order_Open : zqtz) (c_order_When : zqth)
@[reducible] def timeline_rows_X : Ctx := ⟨look tab, pick1 [(48, .spec (zqu0 c_order_Open)), (47, .spec (zqti c_order_When)), (49, .rows zq3u)], false, false, false, false⟩
def zqwa {β : Type} (rec : (List Int) → Int → Int → (List (Int × Int)) → (List ((Int × Int) × Bool)) → (List (Int × Int)) → Option β) (k1 : zqvy β) (l : List Int) (t24 : Int) (t25 : Int) (when : List (Int × Int)) (pairs : List ((Int × Int) × Bool)) (t23 : List (Int × Int)) : Option β :=
  cond (decide (t25 < t24))
  (cond (decide (0 ≤ t25) && decide (t25 < (List.length t23 : Int)))
  (let m_ : List ((Int × Int) × Bool) := (mPut (.prod (.int .i64) (.int .i64)) pairs ((List.getD t23 (Int.toNat t25) ((0 : Int), (0 : Int))).1, (List.getD t23 (Int.toNat t25) ((0 : Int), (0 : Int))).2) true);
  rec l t24 (IntKind.i64.wrap (t25 + (1 : Int))) when m_ t23)
  none)
  (k1 l when pairs)
def zqwb {β : Type} : Nat → zqvy β → (List Int) → Int → Int → (List (Int × Int)) → (List ((Int × Int) × Bool)) → (List (Int × Int)) → Option β
  | 0 => fun _ _ _ _ _ _ _ => none
  | i + 1 => fun k1 l t24 t25 when pairs t23 => zqwa (zqwb i k1) k1 l t24 t25 when pairs t23
theorem zqwc (hΓ : ΓOk Tryz.prog (timeline_rows_X c_order_Open c_order_When).Γ) (i : Nat) : PieceOk Tryz.prog 78 0 timeline_rows_p1_code zqw0 zqw1 (timeline_rows_p1_G (zqwb i)) := by
  rw [show timeline_rows_p1_code = .loop (loopBody timeline_rows_p1_code) by kernel_rfl]
  exact piece_loop (X := (timeline_rows_X c_order_Open c_order_When)) (p := 1) (Λ := pick1 []) (G := fun i => @fun β d ks => timeline_rows_p1_G (zqwb i) d ks) mixed tab_ok hΓ rfl (by kernel_rfl) CutsOk_nil (fun _ _ => rfl) (fun i => @fun β d ks r h => Eq.trans (b := timeline_rows_p1_G (zqwb (i + 1)) d ks) (by kernel_rfl) h) i
def zqwd {β : Type} (rec : (List Int) → Int → (List Int) → Int → Int → (List Int) → Int → Int → (List (Int × Int)) → (List ((Int × Int) × Bool)) → (List api_Row) → Int → Int → Int → (List Int) → Option β) (k1 : zqw2 β) (l : List Int) (x : Int) (t32 : List Int) (t33 : Int) (t34 : Int) (t47 : List Int) (t48 : Int) (t49 : Int) (when : List (Int × Int)) (pairs : List ((Int × Int) × Bool)) (out : List api_Row) (row : Int) (row2 : Int) (row3 : Int) (b4_ : List Int) : Option β :=
  cond (decide (t49 < t48))
  (cond (decide (0 ≤ t49) && decide (t49 < (List.length t47 : Int)))
  (let e : Int := List.getD t47 (Int.toNat t49) (0 : Int);
  let g : Bool := (mGet (.prod (.int .i64) (.int .i64)) pairs ((if e < x then e else x), (if e > x then e else x)) false);
  cond g
  (let l2 : List Int := ([e] : List Int);
  cond (decide ((List.length b4_ + List.length l2) * 8 ≤ roomMax))
  (let l3 : List Int := (b4_ ++ l2);
  rec l x t32 t33 t34 t47 t48 (IntKind.i64.wrap (t49 + (1 : Int))) when pairs out row row2 row3 l3)
  none)
  (rec l x t32 t33 t34 t47 t48 (IntKind.i64.wrap (t49 + (1 : Int))) when pairs out row row2 row3 b4_))
  none)
  (k1 l t32 t33 t34 when pairs out row row2 row3 b4_)
def zqwe {β : Type} : Nat → zqw2 β → (List Int) → Int → (List Int) → Int → Int → (List Int) → Int → Int → (List (Int × Int)) → (List ((Int × Int) × Bool)) → (List api_Row) → Int → Int → Int → (List Int) → Option β
  | 0 => fun _ _ _ _ _ _ _ _ _ _ _ _ _ _ _ _ => none
  | i + 1 => fun k1 l x t32 t33 t34 t47 t48 t49 when pairs out row row2 row3 b4_ => zqwd (zqwe i k1) k1 l x t32 t33 t34 t47 t48 t49 when pairs out row row2 row3 b4_
theorem zqwf (hΓ : ΓOk Tryz.prog (timeline_rows_X c_order_Open c_order_When).Γ) (i : Nat) : PieceOk Tryz.prog 78 0 timeline_rows_p2_code zqw4 zqw5 (timeline_rows_p2_G (zqwe i)) := by
  rw [show timeline_rows_p2_code = .loop (loopBody timeline_rows_p2_code) by kernel_rfl]
  exact piece_loop (X := (timeline_rows_X c_order_Open c_order_When)) (p := 1) (Λ := pick1 []) (G := fun i => @fun β d ks => timeline_rows_p2_G (zqwe i) d ks) mixed tab_ok hΓ rfl (by kernel_rfl) CutsOk_nil (fun _ _ => rfl) (fun i => @fun β d ks r h => Eq.trans (b := timeline_rows_p2_G (zqwe (i + 1)) d ks) (by kernel_rfl) h) i
def zqwg (p2 : zqw3) {β : Type} (rec : (List Int) → (List Int) → Int → Int → (List (Int × Int)) → (List ((Int × Int) × Bool)) → (List api_Row) → Option β) (k1 : zqw6 β) (l : List Int) (t32 : List Int) (t33 : Int) (t34 : Int) (when : List (Int × Int)) (pairs : List ((Int × Int) × Bool)) (out : List api_Row) : Option β :=
  cond (decide (t34 < t33))
  (cond (decide (0 ≤ t34) && decide (t34 < (List.length t32 : Int)))
  (let e : Int := List.getD t32 (Int.toNat t34) (0 : Int);
  cond (decide (0 ≤ e) && decide (e < (List.length when : Int)))
  (cond (decide (0 ≤ (0 : Int)) && (decide ((0 : Int) ≤ t34) && decide (t34 ≤ (List.length l : Int))))
  (p2 (fun (l2 : List Int) (t322 : List Int) (t332 : Int) (t342 : Int) (when2 : List (Int × Int)) (pairs2 : List ((Int × Int) × Bool)) (out2 : List api_Row) (row : Int) (row2 : Int) (row3 : Int) (b4_ : List Int) =>
  cond (decide (List.length b4_ < 4611686018427387904))
  (let l3 : List Int := (sortInts b4_);
  let l4 : List api_Row := ([(row, ((row2, row3), l3))] : List api_Row);
  cond (decide ((List.length out2 + List.length l4) * 48 ≤ roomMax))
  (let l5 : List api_Row := (out2 ++ l4);
  rec l2 t322 t332 (IntKind.i64.wrap (t342 + (1 : Int))) when2 pairs2 l5)
  none)
  none) l e t32 t33 t34 (List.drop (Int.toNat (0 : Int)) (List.take (Int.toNat t34) l)) (List.length (List.drop (Int.toNat (0 : Int)) (List.take (Int.toNat t34) l)) : Int) (0 : Int) when pairs out e ((List.getD when (Int.toNat e) ((0 : Int), (0 : Int))).1) ((List.getD when (Int.toNat e) ((0 : Int), (0 : Int))).2) ([] : List Int))
  none)
  none)
  none)
  (k1 out)
def zqwh (p2 : zqw3) {β : Type} : Nat → zqw6 β → (List Int) → (List Int) → Int → Int → (List (Int × Int)) → (List ((Int × Int) × Bool)) → (List api_Row) → Option β
  | 0 => fun _ _ _ _ _ _ _ _ => none
  | i + 1 => fun k1 l t32 t33 t34 when pairs out => zqwg p2 (zqwh p2 i k1) k1 l t32 t33 t34 when pairs out
theorem zqwi (hΓ : ΓOk Tryz.prog (timeline_rows_X c_order_Open c_order_When).Γ) (p2 : zqw3) (hp2 : PieceOk Tryz.prog 78 0 timeline_rows_p2_code zqw4 zqw5 (timeline_rows_p2_G p2)) (i : Nat) : PieceOk Tryz.prog 78 0 timeline_rows_p3_code zqw8 zqw9 (timeline_rows_p3_G (zqwh p2 i)) := by
  rw [show timeline_rows_p3_code = .loop (loopBody timeline_rows_p3_code) by kernel_rfl]
  exact piece_loop (X := (timeline_rows_X c_order_Open c_order_When)) (p := 1) (Λ := pick1 [(922, pieceCut zqw4 zqw5 (timeline_rows_p2_G p2))]) (G := fun i => @fun β d ks => timeline_rows_p3_G (zqwh p2 i) d ks) mixed tab_ok hΓ rfl (by kernel_rfl) (CutsOk_cons (q := 922) (c' := timeline_rows_p2_code) (by kernel_rfl) rfl hp2 CutsOk_nil) (fun _ _ => rfl) (fun i => @fun β d ks r h => Eq.trans (b := timeline_rows_p3_G (zqwh p2 (i + 1)) d ks) (by kernel_rfl) h) i
def zqwj (p1 : zqvz) (p3 : zqw7) {β : Type} (r_ : zq2) (l : List Int) (k : ((List api_Row) → Option β)) : Option β :=
  c_order_When r_ (fun (rWhen : Bool) (lrWhen : List (Int × Int)) =>
  let m_ : List ((Int × Int) × Bool) := ([] : List ((Int × Int) × Bool));
  c_order_Open r_ (fun (lrOpen : List (Int × Int)) =>
  p1 (fun (l2 : List Int) (when : List (Int × Int)) (pairs : List ((Int × Int) × Bool)) =>
  p3 (fun (out : List api_Row) =>
  k out) l2 l2 (List.length l2 : Int) (0 : Int) when pairs ([] : List api_Row)) l (List.length lrOpen : Int) (0 : Int) lrWhen m_ lrOpen))
theorem zqwk (hΓ : ΓOk Tryz.prog (timeline_rows_X c_order_Open c_order_When).Γ) (p1 : zqvz) (p3 : zqw7) (hp1 : PieceOk Tryz.prog 78 0 timeline_rows_p1_code zqw0 zqw1 (timeline_rows_p1_G p1)) (hp3 : PieceOk Tryz.prog 78 0 timeline_rows_p3_code zqw8 zqw9 (timeline_rows_p3_G p3)) : SpecOk Tryz.prog 25 (zqvx (zqwj c_order_Open c_order_When p1 p3)) :=
  spec_exec (X := (timeline_rows_X c_order_Open c_order_When)) (Λ := pick1 [(122, pieceCut zqw0 zqw1 (timeline_rows_p1_G p1)), (506, pieceCut zqw8 zqw9 (timeline_rows_p3_G p3))]) (rs := [.tmp 4]) (c := bodyOf Tryz.f25) mixed tab_ok hΓ Tryz.func25 (by kernel_rfl) (by kernel_rfl) (by kernel_rfl) (by kernel_rfl) (CutsOk_cons (q := 122) (c' := timeline_rows_p1_code) (by kernel_rfl) rfl hp1 (CutsOk_cons (q := 506) (c' := timeline_rows_p3_code) (by kernel_rfl) rfl hp3 CutsOk_nil)) (fun x k r h => Eq.trans (b := (zqvx (zqwj c_order_Open c_order_When p1 p3)).run x k) (by kernel_rfl) h)
end
theorem zqwlΓ : ΓOk Tryz.prog (pick1 [(48, .spec (zqu0 zquq)), (47, .spec (zqti zqtx)), (49, .rows zq3u)]) := (ΓOk_cons zqur (ΓOk_cons zqty (ΓOk_row zq3v ΓOk_nil)))
def zqwm (m : Nat) : zqvz := zqwb m
theorem zqwn {β : Type} (i : Nat) (k1 l t24 t25 when pairs t23) : (zqwm (i + 1) k1 l t24 t25 when pairs t23 : Option β) = zqwa (zqwm i k1) k1 l t24 t25 when pairs t23 := rfl
def zqwo : zqvz := zqwm fuel
theorem zqwp : PieceOk Tryz.prog 78 0 timeline_rows_p1_code zqw0 zqw1 (timeline_rows_p1_G zqwo) := zqwc zquq zqtx zqwlΓ fuel
def zqwq (m : Nat) : zqw3 := zqwe m
theorem zqwr {β : Type} (i : Nat) (k1 l x t32 t33 t34 t47 t48 t49 when pairs out row row2 row3 b4_) : (zqwq (i + 1) k1 l x t32 t33 t34 t47 t48 t49 when pairs out row row2 row3 b4_ : Option β) = zqwd (zqwq i k1) k1 l x t32 t33 t34 t47 t48 t49 when pairs out row row2 row3 b4_ := rfl
def zqws : zqw3 := zqwq fuel
theorem zqwt : PieceOk Tryz.prog 78 0 timeline_rows_p2_code zqw4 zqw5 (timeline_rows_p2_G zqws) := zqwf zquq zqtx zqwlΓ fuel
def zqwu (m : Nat) : zqw7 := zqwh zqws m
theorem zqwv {β : Type} (i : Nat) (k1 l t32 t33 t34 when pairs out) : (zqwu (i + 1) k1 l t32 t33 t34 when pairs out : Option β) = zqwg zqws (zqwu i k1) k1 l t32 t33 t34 when pairs out := rfl
def zqww : zqw7 := zqwu fuel
theorem zqwx : PieceOk Tryz.prog 78 0 timeline_rows_p3_code zqw8 zqw9 (timeline_rows_p3_G zqww) := zqwi zquq zqtx zqwlΓ zqws zqwt fuel
def zqwy : zqvw := zqwj zquq zqtx zqwo zqww
theorem zqwz : SpecOk Tryz.prog 25 (zqvx zqwy) := zqwk zquq zqtx zqwlΓ zqwo zqww zqwp zqwx

/-- pagewatch/timeline.Rows -/
abbrev zqx0 := {β : Type} → zq2 → (Bool → (List api_Row) → Option β) → Option β
def zqx1 (c : zqx0) : Spec :=
  ⟨[(true, [.data zq3])], [], [(false, [.rowh 0]), (false, [.data .bool])], [.row 42 zq4], fun x k => c x.1.1.1 (fun r0 r1 => k (((), (r0, ()), ()), (r1, ())))⟩
section
variable (c_order_Sort : zqus) (c_timeline_rows : zqvw)
@[reducible] def timeline_Rows_X : Ctx := ⟨look tab, pick1 [(24, .spec (zqut c_order_Sort)), (25, .spec (zqvx c_timeline_rows))], false, false, false, false⟩
def zqx2 {β : Type} (r_ : zq2) (k : (Bool → (List api_Row) → Option β)) : Option β :=
  c_order_Sort r_ (fun (rSort : Bool) (lrSort : List Int) =>
  cond (!rSort)
  (k false ([] : List api_Row))
  (c_timeline_rows r_ lrSort (fun (lrrows : List api_Row) =>
  k true lrrows)))
theorem zqx3 (hΓ : ΓOk Tryz.prog (timeline_Rows_X c_order_Sort c_timeline_rows).Γ) : SpecOk Tryz.prog 10 (zqx1 (zqx2 c_order_Sort c_timeline_rows)) :=
  spec_exec (X := (timeline_Rows_X c_order_Sort c_timeline_rows)) (Λ := pick1 []) (rs := [.tmp 2, .tmp 3]) (c := bodyOf Tryz.f10) mixed tab_ok hΓ Tryz.func10 (by kernel_rfl) (by kernel_rfl) (by kernel_rfl) (by kernel_rfl) CutsOk_nil (fun x k r h => Eq.trans (b := (zqx1 (zqx2 c_order_Sort c_timeline_rows)).run x k) (by kernel_rfl) h)
end
theorem zqx4Γ : ΓOk Tryz.prog (pick1 [(24, .spec (zqut zqvu)), (25, .spec (zqvx zqwy))]) := (ΓOk_cons zqvv (ΓOk_cons zqwz ΓOk_nil))
def zqx5 : zqx0 := zqx2 zqvu zqwy
theorem zqx6 : SpecOk Tryz.prog 10 (zqx1 zqx5) := zqx3 zqvu zqwy zqx4Γ

/-- slices.IndexFunc[[]int,int] -/
abbrev zqx7 := {β : Type} → (List Int) → (List (List Int)) → Int → (Int → (List (List Int)) → Int → Option β) → Option β
def zqx8 (c : zqx7) : Spec :=
  ⟨[(false, [.data (.slice (.int .i64))]), (false, [.fn 53 [0, 1]])], [.cells 104 [.data (.slice (.slice (.int .i64)))], .cells 3 [.data (.int .i64)]], [(false, [.data (.int .i64)])], [.cells 104 [.data (.slice (.slice (.int .i64)))], .cells 3 [.data (.int .i64)]], fun x k => c x.1.1.1 x.2.1.1 x.2.2.1.1 (fun r0 r1 r2 => k (((r0, ()), ()), ((r1, ()), (r2, ()), ())))⟩
noncomputable def slices_IndexFunc_int_int_vorder_Allows_f1_p1_code : Code := codeAt 26 (bodyOf Tryz.f75)
abbrev zqx9 (β : Type) := Int → (List (List Int)) → Int → Option β
abbrev zqxa (β : Type) := (List (List Int)) → Int → Option β
abbrev zqxb := {β : Type} → zqx9 β → zqxa β → (List Int) → Int → Int → (List (List Int)) → Int → Option β
def zqxc : View := ⟨2, [0, 1, 7, 8], [(false, [.data (.slice (.int .i64))]), (false, [.fn 53 [0, 1]]), (false, [.data (.int .i64)]), (false, [.data (.int .i64)])], [.cells 104 [.data (.slice (.slice (.int .i64)))], .cells 3 [.data (.int .i64)]]⟩
def zqxd : List (AExit × View) := [(.ret, ⟨2, [4], [(false, [.data (.int .i64)])], [.cells 104 [.data (.slice (.slice (.int .i64)))], .cells 3 [.data (.int .i64)]]⟩), (.exit 0, ⟨2, [], [], [.cells 104 [.data (.slice (.slice (.int .i64)))], .cells 3 [.data (.int .i64)]]⟩)]
@[reducible] def slices_IndexFunc_int_int_vorder_Allows_f1_p1_G (p : zqxb) {β : Type} (d : zqxc.den) (ks : Outs.K β zqxd) : Option β :=
  p (fun a0 a1 a2 => ks.1 (((a0, ()), ()), ((a1, ()), (a2, ()), ()))) (fun a0 a1 => ks.2.1 ((), ((a0, ()), (a1, ()), ()))) d.1.1.1 d.1.2.2.1.1 d.1.2.2.2.1.1 d.2.1.1 d.2.2.1.1
section
variable (c_order_Allows_f1 : zq43)
@[reducible] def slices_IndexFunc_int_int_vorder_Allows_f1_X : Ctx := ⟨look tab, pick1 [(53, .spec (zq44 c_order_Allows_f1))], false, false, false, false⟩
def zqxe {β : Type} (rec : (List Int) → Int → Int → (List (List Int)) → Int → Option β) (k1 : zqx9 β) (k2 : zqxa β) (s : List Int) (t7 : Int) (t8 : Int) (b0_ : List (List Int)) (b1_ : Int) : Option β :=
  cond (decide (t8 < t7))
  (cond (decide (0 ≤ t8) && decide (t8 < (List.length s : Int)))
  (let e : Int := List.getD s (Int.toNat t8) (0 : Int);
  c_order_Allows_f1 e b0_ b1_ (fun (rAllows1 : Bool) (mrAllows1 : List (List Int)) (mrAllows12 : Int) =>
  cond rAllows1
  (k1 t8 mrAllows1 mrAllows12)
  (rec s t7 (IntKind.i64.wrap (t8 + (1 : Int))) mrAllows1 mrAllows12)))
  none)
  (k2 b0_ b1_)
def zqxf {β : Type} : Nat → zqx9 β → zqxa β → (List Int) → Int → Int → (List (List Int)) → Int → Option β
  | 0 => fun _ _ _ _ _ _ _ => none
  | i + 1 => fun k1 k2 s t7 t8 b0_ b1_ => zqxe c_order_Allows_f1 (zqxf i k1 k2) k1 k2 s t7 t8 b0_ b1_
theorem zqxg (hΓ : ΓOk Tryz.prog (slices_IndexFunc_int_int_vorder_Allows_f1_X c_order_Allows_f1).Γ) (i : Nat) : PieceOk Tryz.prog 19 2 slices_IndexFunc_int_int_vorder_Allows_f1_p1_code zqxc zqxd (slices_IndexFunc_int_int_vorder_Allows_f1_p1_G (zqxf c_order_Allows_f1 i)) := by
  rw [show slices_IndexFunc_int_int_vorder_Allows_f1_p1_code = .loop (loopBody slices_IndexFunc_int_int_vorder_Allows_f1_p1_code) by kernel_rfl]
  exact piece_loop (X := (slices_IndexFunc_int_int_vorder_Allows_f1_X c_order_Allows_f1)) (p := 1) (Λ := pick1 []) (G := fun i => @fun β d ks => slices_IndexFunc_int_int_vorder_Allows_f1_p1_G (zqxf c_order_Allows_f1 i) d ks) mixed tab_ok hΓ rfl (by kernel_rfl) CutsOk_nil (fun _ _ => rfl) (fun i => @fun β d ks r h => Eq.trans (b := slices_IndexFunc_int_int_vorder_Allows_f1_p1_G (zqxf c_order_Allows_f1 (i + 1)) d ks) (by kernel_rfl) h) i
def zqxh (p1 : zqxb) {β : Type} (s : List Int) (b0_ : List (List Int)) (b1_ : Int) (k : (Int → (List (List Int)) → Int → Option β)) : Option β :=
  p1 (fun (t4 : Int) (b0_2 : List (List Int)) (b1_2 : Int) =>
  k t4 b0_2 b1_2) (fun (b0_2 : List (List Int)) (b1_2 : Int) =>
  k (-1 : Int) b0_2 b1_2) s (List.length s : Int) (0 : Int) b0_ b1_
theorem zqxi (hΓ : ΓOk Tryz.prog (slices_IndexFunc_int_int_vorder_Allows_f1_X c_order_Allows_f1).Γ) (p1 : zqxb) (hp1 : PieceOk Tryz.prog 19 2 slices_IndexFunc_int_int_vorder_Allows_f1_p1_code zqxc zqxd (slices_IndexFunc_int_int_vorder_Allows_f1_p1_G p1)) : SpecOk Tryz.prog 75 (zqx8 (zqxh p1)) :=
  spec_exec (X := (slices_IndexFunc_int_int_vorder_Allows_f1_X c_order_Allows_f1)) (Λ := pick1 [(26, pieceCut zqxc zqxd (slices_IndexFunc_int_int_vorder_Allows_f1_p1_G p1))]) (rs := [.tmp 4]) (c := bodyOf Tryz.f75) mixed tab_ok hΓ Tryz.func75 (by kernel_rfl) (by kernel_rfl) (by kernel_rfl) (by kernel_rfl) (CutsOk_cons (q := 26) (c' := slices_IndexFunc_int_int_vorder_Allows_f1_p1_code) (by kernel_rfl) rfl hp1 CutsOk_nil) (fun x k r h => Eq.trans (b := (zqx8 (zqxh p1)).run x k) (by kernel_rfl) h)
end
theorem zqxjΓ : ΓOk Tryz.prog (pick1 [(53, .spec (zq44 zq48))]) := (ΓOk_cons zq49 ΓOk_nil)
def zqxk (m : Nat) : zqxb := zqxf zq48 m
theorem zqxl {β : Type} (i : Nat) (k1 k2 s t7 t8 b0_ b1_) : (zqxk (i + 1) k1 k2 s t7 t8 b0_ b1_ : Option β) = zqxe zq48 (zqxk i k1 k2) k1 k2 s t7 t8 b0_ b1_ := rfl
def zqxm : zqxb := zqxk fuel
theorem zqxn : PieceOk Tryz.prog 19 2 slices_IndexFunc_int_int_vorder_Allows_f1_p1_code zqxc zqxd (slices_IndexFunc_int_int_vorder_Allows_f1_p1_G zqxm) := zqxg zq48 zqxjΓ fuel
def zqxo : zqx7 := zqxh zqxm
theorem zqxp : SpecOk Tryz.prog 75 (zqx8 zqxo) := zqxi zq48 zqxjΓ zqxm zqxn

/-- slices.ContainsFunc[[]int,int] -/
abbrev zqxq := {β : Type} → (List Int) → (List (List Int)) → Int → (Bool → (List (List Int)) → Int → Option β) → Option β
def zqxr (c : zqxq) : Spec :=
  ⟨[(false, [.data (.slice (.int .i64))]), (false, [.fn 53 [0, 1]])], [.cells 104 [.data (.slice (.slice (.int .i64)))], .cells 3 [.data (.int .i64)]], [(false, [.data .bool])], [.cells 104 [.data (.slice (.slice (.int .i64)))], .cells 3 [.data (.int .i64)]], fun x k => c x.1.1.1 x.2.1.1 x.2.2.1.1 (fun r0 r1 r2 => k (((r0, ()), ()), ((r1, ()), (r2, ()), ())))⟩
section
variable (c_slices_IndexFunc_int_int_vorder_Allows_f1 : zqx7)
@[reducible] def slices_ContainsFunc_int_int_vorder_Allows_f1_X : Ctx := ⟨look tab, pick1 [(75, .spec (zqx8 c_slices_IndexFunc_int_int_vorder_Allows_f1))], false, false, false, false⟩
def zqxs {β : Type} (s : List Int) (b0_ : List (List Int)) (b1_ : Int) (k : (Bool → (List (List Int)) → Int → Option β)) : Option β :=
  c_slices_IndexFunc_int_int_vorder_Allows_f1 s b0_ b1_ (fun (rIndexFuncintint : Int) (mrIndexFuncintint : List (List Int)) (mrIndexFuncintint2 : Int) =>
  let t : Bool := (decide ((0 : Int) ≤ rIndexFuncintint));
  k t mrIndexFuncintint mrIndexFuncintint2)
theorem zqxt (hΓ : ΓOk Tryz.prog (slices_ContainsFunc_int_int_vorder_Allows_f1_X c_slices_IndexFunc_int_int_vorder_Allows_f1).Γ) : SpecOk Tryz.prog 52 (zqxr (zqxs c_slices_IndexFunc_int_int_vorder_Allows_f1)) :=
  spec_exec (X := (slices_ContainsFunc_int_int_vorder_Allows_f1_X c_slices_IndexFunc_int_int_vorder_Allows_f1)) (Λ := pick1 []) (rs := [.tmp 4]) (c := bodyOf Tryz.f52) mixed tab_ok hΓ Tryz.func52 (by kernel_rfl) (by kernel_rfl) (by kernel_rfl) (by kernel_rfl) CutsOk_nil (fun x k r h => Eq.trans (b := (zqxr (zqxs c_slices_IndexFunc_int_int_vorder_Allows_f1)).run x k) (by kernel_rfl) h)
end
theorem zqxuΓ : ΓOk Tryz.prog (pick1 [(75, .spec (zqx8 zqxo))]) := (ΓOk_cons zqxp ΓOk_nil)
def zqxv : zqxq := zqxs zqxo
theorem zqxw : SpecOk Tryz.prog 52 (zqxr zqxv) := zqxt zqxo zqxuΓ

/-- pagewatch/order.Allows -/
abbrev zqxx := {β : Type} → zq2 → (List Int) → (Bool → Option β) → Option β
def zqxy (c : zqxx) : Spec :=
  ⟨[(true, [.data zq3]), (false, [.data (.slice (.int .i64))])], [], [(false, [.data .bool])], [], fun x k => c x.1.1.1 x.1.2.1.1 (fun r0 => k (((r0, ()), ()), ()))⟩
noncomputable def order_Allows_p1_code : Code := codeAt 122 (bodyOf Tryz.f26)
abbrev zqxz (β : Type) := Bool → Option β
abbrev zqy0 (β : Type) := Unit → Option β
abbrev zqy1 := {β : Type} → zqxz β → zqy0 β → (List Int) → (List Int) → Int → Int → (List (List Int)) → Option β
def zqy2 : View := ⟨0, [1, 5, 24, 25, 26], [(false, [.data (.slice (.int .i64))]), (false, [.ptr 0 0]), (false, [.data (.slice (.int .i64))]), (false, [.data (.int .i64)]), (false, [.data (.int .i64)])], [.cells 104 [.data (.slice (.slice (.int .i64)))]]⟩
def zqy3 : List (AExit × View) := [(.ret, ⟨0, [4], [(false, [.data .bool])], []⟩), (.exit 0, ⟨0, [], [], []⟩)]
@[reducible] def order_Allows_p1_G (p : zqy1) {β : Type} (d : zqy2.den) (ks : Outs.K β zqy3) : Option β :=
  p (fun a0 => ks.1 (((a0, ()), ()), ())) (fun _ => ks.2.1 ((), ())) d.1.1.1 d.1.2.2.1.1 d.1.2.2.2.1.1 d.1.2.2.2.2.1.1 d.2.1.1
section
variable (c_order_closed : zqta) (c_order_in : zq3w) (c_slices_ContainsFunc_int_int_vorder_Allows_f1 : zqxq) (c_slices_Contains_int_int : zqe2)
@[reducible] def order_Allows_X : Ctx := ⟨look tab, pick1 [(44, .spec (zqtb c_order_closed)), (50, .spec (zq3x c_order_in)), (52, .spec (zqxr c_slices_ContainsFunc_int_int_vorder_Allows_f1)), (51, .spec (zqe3 c_slices_Contains_int_int))], false, false, false, false⟩
def zqy4 {β : Type} (rec : (List Int) → (List Int) → Int → Int → (List (List Int)) → Option β) (k1 : zqxz β) (k2 : zqy0 β) (l : List Int) (t24 : List Int) (t25 : Int) (t26 : Int) (m : List (List Int)) : Option β :=
  cond (decide (t26 < t25))
  (cond (decide (0 ≤ t26) && decide (t26 < (List.length t24 : Int)))
  (let e : Int := List.getD t24 (Int.toNat t26) (0 : Int);
  c_order_in e (0 : Int) (IntKind.i64.wrap ((List.length l : Int) - (1 : Int))) (fun (rin : Bool) =>
  cond (!rin)
  (k1 false)
  (cond (decide (0 ≤ (0 : Int)) && (decide ((0 : Int) ≤ t26) && decide (t26 ≤ (List.length l : Int))))
  (c_slices_Contains_int_int (List.drop (Int.toNat (0 : Int)) (List.take (Int.toNat t26) l)) e (fun (rContainsintint : Bool) =>
  cond rContainsintint
  (k1 false)
  (cond (decide (0 ≤ (0 : Int)) && (decide ((0 : Int) ≤ t26) && decide (t26 ≤ (List.length l : Int))))
  (c_slices_ContainsFunc_int_int_vorder_Allows_f1 (List.drop (Int.toNat (0 : Int)) (List.take (Int.toNat t26) l)) m e (fun (rContainsFuncintint : Bool) (mrContainsFuncintint : List (List Int)) (mrContainsFuncintint2 : Int) =>
  cond rContainsFuncintint
  (k1 false)
  (rec l t24 t25 (IntKind.i64.wrap (t26 + (1 : Int))) mrContainsFuncintint)))
  none)))
  none)))
  none)
  (k2 ())
def zqy5 {β : Type} : Nat → zqxz β → zqy0 β → (List Int) → (List Int) → Int → Int → (List (List Int)) → Option β
  | 0 => fun _ _ _ _ _ _ _ => none
  | i + 1 => fun k1 k2 l t24 t25 t26 m => zqy4 c_order_in c_slices_ContainsFunc_int_int_vorder_Allows_f1 c_slices_Contains_int_int (zqy5 i k1 k2) k1 k2 l t24 t25 t26 m
theorem zqy6 (hΓ : ΓOk Tryz.prog (order_Allows_X c_order_closed c_order_in c_slices_ContainsFunc_int_int_vorder_Allows_f1 c_slices_Contains_int_int).Γ) (i : Nat) : PieceOk Tryz.prog 52 0 order_Allows_p1_code zqy2 zqy3 (order_Allows_p1_G (zqy5 c_order_in c_slices_ContainsFunc_int_int_vorder_Allows_f1 c_slices_Contains_int_int i)) := by
  rw [show order_Allows_p1_code = .loop (loopBody order_Allows_p1_code) by kernel_rfl]
  exact piece_loop (X := (order_Allows_X c_order_closed c_order_in c_slices_ContainsFunc_int_int_vorder_Allows_f1 c_slices_Contains_int_int)) (p := 1) (Λ := pick1 []) (G := fun i => @fun β d ks => order_Allows_p1_G (zqy5 c_order_in c_slices_ContainsFunc_int_int_vorder_Allows_f1 c_slices_Contains_int_int i) d ks) mixed tab_ok hΓ rfl (by kernel_rfl) CutsOk_nil (fun _ _ => rfl) (fun i => @fun β d ks r h => Eq.trans (b := order_Allows_p1_G (zqy5 c_order_in c_slices_ContainsFunc_int_int_vorder_Allows_f1 c_slices_Contains_int_int (i + 1)) d ks) (by kernel_rfl) h) i
def zqy7 (p1 : zqy1) {β : Type} (r_ : zq2) (l : List Int) (k : (Bool → Option β)) : Option β :=
  c_order_closed r_ (fun (rclosed : List (List Int)) (rclosed2 : Bool) =>
  cond (!rclosed2)
  (k false)
  (cond (!decide ((List.length l : Int) = (List.length r_.2.2.1 : Int)))
  (k false)
  (p1 (fun (t4 : Bool) =>
  k t4) (fun (_ : Unit) =>
  k true) l l (List.length l : Int) (0 : Int) rclosed)))
theorem zqy8 (hΓ : ΓOk Tryz.prog (order_Allows_X c_order_closed c_order_in c_slices_ContainsFunc_int_int_vorder_Allows_f1 c_slices_Contains_int_int).Γ) (p1 : zqy1) (hp1 : PieceOk Tryz.prog 52 0 order_Allows_p1_code zqy2 zqy3 (order_Allows_p1_G p1)) : SpecOk Tryz.prog 26 (zqxy (zqy7 c_order_closed p1)) :=
  spec_exec (X := (order_Allows_X c_order_closed c_order_in c_slices_ContainsFunc_int_int_vorder_Allows_f1 c_slices_Contains_int_int)) (Λ := pick1 [(122, pieceCut zqy2 zqy3 (order_Allows_p1_G p1))]) (rs := [.tmp 4]) (c := bodyOf Tryz.f26) mixed tab_ok hΓ Tryz.func26 (by kernel_rfl) (by kernel_rfl) (by kernel_rfl) (by kernel_rfl) (CutsOk_cons (q := 122) (c' := order_Allows_p1_code) (by kernel_rfl) rfl hp1 CutsOk_nil) (fun x k r h => Eq.trans (b := (zqxy (zqy7 c_order_closed p1)).run x k) (by kernel_rfl) h)
end
theorem zqy9Γ : ΓOk Tryz.prog (pick1 [(44, .spec (zqtb zqtf)), (50, .spec (zq3x zq41)), (52, .spec (zqxr zqxv)), (51, .spec (zqe3 zqe7))]) := (ΓOk_cons zqtg (ΓOk_cons zq42 (ΓOk_cons zqxw (ΓOk_cons zqe8 ΓOk_nil))))
def zqya (m : Nat) : zqy1 := zqy5 zq41 zqxv zqe7 m
theorem zqyb {β : Type} (i : Nat) (k1 k2 l t24 t25 t26 m) : (zqya (i + 1) k1 k2 l t24 t25 t26 m : Option β) = zqy4 zq41 zqxv zqe7 (zqya i k1 k2) k1 k2 l t24 t25 t26 m := rfl
def zqyc : zqy1 := zqya fuel
theorem zqyd : PieceOk Tryz.prog 52 0 order_Allows_p1_code zqy2 zqy3 (order_Allows_p1_G zqyc) := zqy6 zqtf zq41 zqxv zqe7 zqy9Γ fuel
def zqye : zqxx := zqy7 zqtf zqyc
theorem zqyf : SpecOk Tryz.prog 26 (zqxy zqye) := zqy8 zqtf zq41 zqxv zqe7 zqy9Γ zqyc zqyd

/-- slices.EqualFunc[[]pagewatch/api.Row,[]pagewatch/api.Row,pagewatch/api.Row,pagewatch/api.Row] -/
abbrev zqyg := {β : Type} → (List api_Row) → (List api_Row) → (Bool → Option β) → Option β
def zqyh (c : zqyg) : Spec :=
  ⟨[(false, [.data (.slice zq4)]), (false, [.data (.slice zq4)]), (false, [.fn 28 []])], [], [(false, [.data .bool])], [], fun x k => c x.1.1.1 x.1.2.1.1 (fun r0 => k (((r0, ()), ()), ()))⟩
noncomputable def slices_EqualFunc_api_Row_api_Row_api_Row_api_Row_vtimeline_Check_f1_p1_code : Code := codeAt 58 (bodyOf Tryz.f27)
abbrev zqyi (β : Type) := Bool → Option β
abbrev zqyj (β : Type) := Unit → Option β
abbrev zqyk := {β : Type} → zqyi β → zqyj β → (List api_Row) → (List api_Row) → Int → Int → Option β
def zqyl : View := ⟨0, [1, 2, 15, 16, 17], [(false, [.data (.slice zq4)]), (false, [.fn 28 []]), (false, [.data (.slice zq4)]), (false, [.data (.int .i64)]), (false, [.data (.int .i64)])], []⟩
def zqym : List (AExit × View) := [(.ret, ⟨0, [6], [(false, [.data .bool])], []⟩), (.exit 0, ⟨0, [], [], []⟩)]
@[reducible] def slices_EqualFunc_api_Row_api_Row_api_Row_api_Row_vtimeline_Check_f1_p1_G (p : zqyk) {β : Type} (d : zqyl.den) (ks : Outs.K β zqym) : Option β :=
  p (fun a0 => ks.1 (((a0, ()), ()), ())) (fun _ => ks.2.1 ((), ())) d.1.1.1 d.1.2.2.1.1 d.1.2.2.2.1.1 d.1.2.2.2.2.1.1
section
variable (c_timeline_Check_f1 : zqcm)
@[reducible] def slices_EqualFunc_api_Row_api_Row_api_Row_api_Row_vtimeline_Check_f1_X : Ctx := ⟨look tab, pick1 [(28, .spec (zqcn c_timeline_Check_f1))], false, false, false, false⟩
def zqyn {β : Type} (rec : (List api_Row) → (List api_Row) → Int → Int → Option β) (k1 : zqyi β) (k2 : zqyj β) (s2 : List api_Row) (t15 : List api_Row) (t16 : Int) (t17 : Int) : Option β :=
  cond (decide (t17 < t16))
  (cond (decide (0 ≤ t17) && decide (t17 < (List.length t15 : Int)))
  (let e : api_Row := List.getD t15 (Int.toNat t17) ((0 : Int), (((0 : Int), (0 : Int)), ([] : List Int)));
  cond (decide (0 ≤ t17) && decide (t17 < (List.length s2 : Int)))
  (let e2 : api_Row := List.getD s2 (Int.toNat t17) ((0 : Int), (((0 : Int), (0 : Int)), ([] : List Int)));
  c_timeline_Check_f1 e e2 (fun (rCheck1 : Bool) =>
  cond (!rCheck1)
  (k1 false)
  (rec s2 t15 t16 (IntKind.i64.wrap (t17 + (1 : Int))))))
  none)
  none)
  (k2 ())
def zqyo {β : Type} : Nat → zqyi β → zqyj β → (List api_Row) → (List api_Row) → Int → Int → Option β
  | 0 => fun _ _ _ _ _ _ => none
  | i + 1 => fun k1 k2 s2 t15 t16 t17 => zqyn c_timeline_Check_f1 (zqyo i k1 k2) k1 k2 s2 t15 t16 t17
theorem zqyp (hΓ : ΓOk Tryz.prog (slices_EqualFunc_api_Row_api_Row_api_Row_api_Row_vtimeline_Check_f1_X c_timeline_Check_f1).Γ) (i : Nat) : PieceOk Tryz.prog 32 0 slices_EqualFunc_api_Row_api_Row_api_Row_api_Row_vtimeline_Check_f1_p1_code zqyl zqym (slices_EqualFunc_api_Row_api_Row_api_Row_api_Row_vtimeline_Check_f1_p1_G (zqyo c_timeline_Check_f1 i)) := by
  rw [show slices_EqualFunc_api_Row_api_Row_api_Row_api_Row_vtimeline_Check_f1_p1_code = .loop (loopBody slices_EqualFunc_api_Row_api_Row_api_Row_api_Row_vtimeline_Check_f1_p1_code) by kernel_rfl]
  exact piece_loop (X := (slices_EqualFunc_api_Row_api_Row_api_Row_api_Row_vtimeline_Check_f1_X c_timeline_Check_f1)) (p := 1) (Λ := pick1 []) (G := fun i => @fun β d ks => slices_EqualFunc_api_Row_api_Row_api_Row_api_Row_vtimeline_Check_f1_p1_G (zqyo c_timeline_Check_f1 i) d ks) mixed tab_ok hΓ rfl (by kernel_rfl) CutsOk_nil (fun _ _ => rfl) (fun i => @fun β d ks r h => Eq.trans (b := slices_EqualFunc_api_Row_api_Row_api_Row_api_Row_vtimeline_Check_f1_p1_G (zqyo c_timeline_Check_f1 (i + 1)) d ks) (by kernel_rfl) h) i
def zqyq (p1 : zqyk) {β : Type} (s1 : List api_Row) (s2 : List api_Row) (k : (Bool → Option β)) : Option β :=
  cond (!decide ((List.length s1 : Int) = (List.length s2 : Int)))
  (k false)
  (p1 (fun (t6 : Bool) =>
  k t6) (fun (_ : Unit) =>
  k true) s2 s1 (List.length s1 : Int) (0 : Int))
theorem zqyr (hΓ : ΓOk Tryz.prog (slices_EqualFunc_api_Row_api_Row_api_Row_api_Row_vtimeline_Check_f1_X c_timeline_Check_f1).Γ) (p1 : zqyk) (hp1 : PieceOk Tryz.prog 32 0 slices_EqualFunc_api_Row_api_Row_api_Row_api_Row_vtimeline_Check_f1_p1_code zqyl zqym (slices_EqualFunc_api_Row_api_Row_api_Row_api_Row_vtimeline_Check_f1_p1_G p1)) : SpecOk Tryz.prog 27 (zqyh (zqyq p1)) :=
  spec_exec (X := (slices_EqualFunc_api_Row_api_Row_api_Row_api_Row_vtimeline_Check_f1_X c_timeline_Check_f1)) (Λ := pick1 [(58, pieceCut zqyl zqym (slices_EqualFunc_api_Row_api_Row_api_Row_api_Row_vtimeline_Check_f1_p1_G p1))]) (rs := [.tmp 6]) (c := bodyOf Tryz.f27) mixed tab_ok hΓ Tryz.func27 (by kernel_rfl) (by kernel_rfl) (by kernel_rfl) (by kernel_rfl) (CutsOk_cons (q := 58) (c' := slices_EqualFunc_api_Row_api_Row_api_Row_api_Row_vtimeline_Check_f1_p1_code) (by kernel_rfl) rfl hp1 CutsOk_nil) (fun x k r h => Eq.trans (b := (zqyh (zqyq p1)).run x k) (by kernel_rfl) h)
end
theorem zqysΓ : ΓOk Tryz.prog (pick1 [(28, .spec (zqcn zqcr))]) := (ΓOk_cons zqcs ΓOk_nil)
def zqyt (m : Nat) : zqyk := zqyo zqcr m
theorem zqyu {β : Type} (i : Nat) (k1 k2 s2 t15 t16 t17) : (zqyt (i + 1) k1 k2 s2 t15 t16 t17 : Option β) = zqyn zqcr (zqyt i k1 k2) k1 k2 s2 t15 t16 t17 := rfl
def zqyv : zqyk := zqyt fuel
theorem zqyw : PieceOk Tryz.prog 32 0 slices_EqualFunc_api_Row_api_Row_api_Row_api_Row_vtimeline_Check_f1_p1_code zqyl zqym (slices_EqualFunc_api_Row_api_Row_api_Row_api_Row_vtimeline_Check_f1_p1_G zqyv) := zqyp zqcr zqysΓ fuel
def zqyx : zqyg := zqyq zqyv
theorem zqyy : SpecOk Tryz.prog 27 (zqyh zqyx) := zqyr zqcr zqysΓ zqyv zqyw

/-- pagewatch/timeline.Check -/
abbrev zqyz := {β : Type} → zq2 → (List api_Row) → (Bool → Option β) → Option β
def zqz0 (c : zqyz) : Spec :=
  ⟨[(true, [.data zq3]), (false, [.data (.slice zq4)])], [], [(false, [.data .bool])], [], fun x k => c x.1.1.1 x.1.2.1.1 (fun r0 => k (((r0, ()), ()), ()))⟩
noncomputable def timeline_Check_p1_code : Code := codeAt 58 (bodyOf Tryz.f11)
abbrev zqz1 (β : Type) := (List api_Row) → (List (List UInt8 × Int)) → (List (Int × (Int × (Int × Int)))) → (List zq0) → (List (Int × (Int × Int))) → (List Int) → Option β
abbrev zqz2 := {β : Type} → zqz1 β → (List api_Row) → (List api_Row) → Int → Int → (List (List UInt8 × Int)) → (List (Int × (Int × (Int × Int)))) → (List zq0) → (List (Int × (Int × Int))) → (List Int) → Option β
def zqz3 : View := ⟨0, [1, 2, 5, 8, 9, 10], [(false, [.data (.slice zq4)]), (false, [.ptr 0 0]), (false, [.rowh 1]), (false, [.data (.slice zq4)]), (false, [.data (.int .i64)]), (false, [.data (.int .i64)])], [.cells 32 [.data (.slice (.prod .str (.int .i64))), .data (.slice (.prod (.int .i64) (.prod (.int .i64) (.prod (.int .i64) (.int .i64))))), .data (.slice zq1), .data (.slice (.prod (.int .i64) (.prod (.int .i64) (.int .i64))))], .row 3 (.int .i64)]⟩
def zqz4 : List (AExit × View) := [(.exit 0, ⟨0, [1, 2, 5], [(false, [.data (.slice zq4)]), (false, [.ptr 0 0]), (false, [.rowh 1])], [.cells 32 [.data (.slice (.prod .str (.int .i64))), .data (.slice (.prod (.int .i64) (.prod (.int .i64) (.prod (.int .i64) (.int .i64))))), .data (.slice zq1), .data (.slice (.prod (.int .i64) (.prod (.int .i64) (.int .i64))))], .row 3 (.int .i64)]⟩)]
@[reducible] def timeline_Check_p1_G (p : zqz2) {β : Type} (d : zqz3.den) (ks : Outs.K β zqz4) : Option β :=
  p (fun a0 a1 a2 a3 a4 a5 => ks.1 (((a0, ()), (), (), ()), ((a1, a2, a3, a4, ()), a5, ()))) d.1.1.1 d.1.2.2.2.1.1 d.1.2.2.2.2.1.1 d.1.2.2.2.2.2.1.1 d.2.1.1 d.2.1.2.1 d.2.1.2.2.1 d.2.1.2.2.2.1 d.2.2.1
section
variable (c_order_Allows : zqxx) (c_slices_EqualFunc_api_Row_api_Row_api_Row_api_Row_vtimeline_Check_f1 : zqyg) (c_timeline_rows : zqvw)
@[reducible] def timeline_Check_X : Ctx := ⟨look tab, pick1 [(26, .spec (zqxy c_order_Allows)), (27, .spec (zqyh c_slices_EqualFunc_api_Row_api_Row_api_Row_api_Row_vtimeline_Check_f1)), (25, .spec (zqvx c_timeline_rows))], false, false, false, false⟩
def zqz5 {β : Type} (rec : (List api_Row) → (List api_Row) → Int → Int → (List (List UInt8 × Int)) → (List (Int × (Int × (Int × Int)))) → (List zq0) → (List (Int × (Int × Int))) → (List Int) → Option β) (k1 : zqz1 β) (l : List api_Row) (t8 : List api_Row) (t9 : Int) (t10 : Int) (r_ : List (List UInt8 × Int)) (r_2 : List (Int × (Int × (Int × Int)))) (r_3 : List zq0) (r_4 : List (Int × (Int × Int))) (events : List Int) : Option β :=
  cond (decide (t10 < t9))
  (cond (decide (0 ≤ t10) && decide (t10 < (List.length t8 : Int)))
  (let e : api_Row := List.getD t8 (Int.toNat t10) ((0 : Int), (((0 : Int), (0 : Int)), ([] : List Int)));
  let l2 : List Int := ([e.1] : List Int);
  cond (decide ((List.length events + List.length l2) * 8 ≤ roomMax))
  (let l3 : List Int := (events ++ l2);
  rec l t8 t9 (IntKind.i64.wrap (t10 + (1 : Int))) r_ r_2 r_3 r_4 l3)
  none)
  none)
  (k1 l r_ r_2 r_3 r_4 events)
def zqz6 {β : Type} : Nat → zqz1 β → (List api_Row) → (List api_Row) → Int → Int → (List (List UInt8 × Int)) → (List (Int × (Int × (Int × Int)))) → (List zq0) → (List (Int × (Int × Int))) → (List Int) → Option β
  | 0 => fun _ _ _ _ _ _ _ _ _ _ => none
  | i + 1 => fun k1 l t8 t9 t10 r_ r_2 r_3 r_4 events => zqz5 (zqz6 i k1) k1 l t8 t9 t10 r_ r_2 r_3 r_4 events
theorem zqz7 (hΓ : ΓOk Tryz.prog (timeline_Check_X c_order_Allows c_slices_EqualFunc_api_Row_api_Row_api_Row_api_Row_vtimeline_Check_f1 c_timeline_rows).Γ) (i : Nat) : PieceOk Tryz.prog 30 0 timeline_Check_p1_code zqz3 zqz4 (timeline_Check_p1_G (zqz6 i)) := by
  rw [show timeline_Check_p1_code = .loop (loopBody timeline_Check_p1_code) by kernel_rfl]
  exact piece_loop (X := (timeline_Check_X c_order_Allows c_slices_EqualFunc_api_Row_api_Row_api_Row_api_Row_vtimeline_Check_f1 c_timeline_rows)) (p := 1) (Λ := pick1 []) (G := fun i => @fun β d ks => timeline_Check_p1_G (zqz6 i) d ks) mixed tab_ok hΓ rfl (by kernel_rfl) CutsOk_nil (fun _ _ => rfl) (fun i => @fun β d ks r h => Eq.trans (b := timeline_Check_p1_G (zqz6 (i + 1)) d ks) (by kernel_rfl) h) i
def zqz8 (p1 : zqz2) {β : Type} (r_ : zq2) (l : List api_Row) (k : (Bool → Option β)) : Option β :=
  p1 (fun (l2 : List api_Row) (r_2 : List (List UInt8 × Int)) (r_3 : List (Int × (Int × (Int × Int)))) (r_4 : List zq0) (r_5 : List (Int × (Int × Int))) (events : List Int) =>
  c_order_Allows (r_2, (r_3, (r_4, r_5))) events (fun (rAllows : Bool) =>
  cond rAllows
  (c_timeline_rows (r_2, (r_3, (r_4, r_5))) events (fun (lrrows : List api_Row) =>
  c_slices_EqualFunc_api_Row_api_Row_api_Row_api_Row_vtimeline_Check_f1 l2 lrrows (fun (rRow : Bool) =>
  k rRow)))
  (k false))) l l (List.length l : Int) (0 : Int) r_.1 r_.2.1 r_.2.2.1 r_.2.2.2 ([] : List Int)
theorem zqz9 (hΓ : ΓOk Tryz.prog (timeline_Check_X c_order_Allows c_slices_EqualFunc_api_Row_api_Row_api_Row_api_Row_vtimeline_Check_f1 c_timeline_rows).Γ) (p1 : zqz2) (hp1 : PieceOk Tryz.prog 30 0 timeline_Check_p1_code zqz3 zqz4 (timeline_Check_p1_G p1)) : SpecOk Tryz.prog 11 (zqz0 (zqz8 c_order_Allows c_slices_EqualFunc_api_Row_api_Row_api_Row_api_Row_vtimeline_Check_f1 c_timeline_rows p1)) :=
  spec_exec (X := (timeline_Check_X c_order_Allows c_slices_EqualFunc_api_Row_api_Row_api_Row_api_Row_vtimeline_Check_f1 c_timeline_rows)) (Λ := pick1 [(58, pieceCut zqz3 zqz4 (timeline_Check_p1_G p1))]) (rs := [.tmp 4]) (c := bodyOf Tryz.f11) mixed tab_ok hΓ Tryz.func11 (by kernel_rfl) (by kernel_rfl) (by kernel_rfl) (by kernel_rfl) (CutsOk_cons (q := 58) (c' := timeline_Check_p1_code) (by kernel_rfl) rfl hp1 CutsOk_nil) (fun x k r h => Eq.trans (b := (zqz0 (zqz8 c_order_Allows c_slices_EqualFunc_api_Row_api_Row_api_Row_api_Row_vtimeline_Check_f1 c_timeline_rows p1)).run x k) (by kernel_rfl) h)
end
theorem zqzaΓ : ΓOk Tryz.prog (pick1 [(26, .spec (zqxy zqye)), (27, .spec (zqyh zqyx)), (25, .spec (zqvx zqwy))]) := (ΓOk_cons zqyf (ΓOk_cons zqyy (ΓOk_cons zqwz ΓOk_nil)))
def zqzb (m : Nat) : zqz2 := zqz6 m
theorem zqzc {β : Type} (i : Nat) (k1 l t8 t9 t10 r_ r_2 r_3 r_4 events) : (zqzb (i + 1) k1 l t8 t9 t10 r_ r_2 r_3 r_4 events : Option β) = zqz5 (zqzb i k1) k1 l t8 t9 t10 r_ r_2 r_3 r_4 events := rfl
def zqzd : zqz2 := zqzb fuel
theorem zqze : PieceOk Tryz.prog 30 0 timeline_Check_p1_code zqz3 zqz4 (timeline_Check_p1_G zqzd) := zqz7 zqye zqyx zqwy zqzaΓ fuel
def zqzf : zqyz := zqz8 zqye zqyx zqwy zqzd
theorem zqzg : SpecOk Tryz.prog 11 (zqz0 zqzf) := zqz9 zqye zqyx zqwy zqzaΓ zqzd zqze
end
end Go.Lift
namespace Go.Lift
open Go.Proofs
noncomputable section
set_option maxRecDepth 100000
set_option linter.unusedVariables false

/-- pagewatch/timeline.Text -/
abbrev zqzh := {β : Type} → zq2 → (List api_Row) → ((List UInt8) → Int → Option β) → Option β
def zqzi (c : zqzh) : Spec :=
  ⟨[(true, [.data zq3]), (false, [.data (.slice zq4)])], [], [(false, [.data .str]), (false, [.data (.int .i64)])], [], fun x k => c x.1.1.1 x.1.2.1.1 (fun r0 r1 => k (((r0, ()), (r1, ()), ()), ()))⟩
noncomputable def timeline_Text_p2_code : Code := codeAt 122 (bodyOf Tryz.f21)
noncomputable def timeline_Text_p1_code : Code := codeAt 927 (loopBody timeline_Text_p2_code)
abbrev zqzj (β : Type) := (List api_Row) → Int → Int → (List (List UInt8 × Int)) → (List (Int × (Int × (Int × Int)))) → (List zq0) → (List (Int × (Int × Int))) → (List Int) → Option β
abbrev zqzk := {β : Type} → zqzj β → (List api_Row) → Int → Int → (List (List UInt8 × Int)) → (List (Int × (Int × (Int × Int)))) → (List zq0) → (List (Int × (Int × Int))) → Int → Int → Int → (List Int) → Int → Int → (List UInt8) → (List Int) → Option β
def zqzl : View := ⟨0, [2, 6, 8, 9, 14, 15, 16], [(false, [.ptr 0 0]), (false, [.ptr 1 0]), (false, [.ptr 2 0]), (false, [.ptr 3 0]), (false, [.data (.slice zq4)]), (false, [.data (.int .i64)]), (false, [.data (.int .i64)])], [.cells 32 [.data (.slice (.prod .str (.int .i64))), .data (.slice (.prod (.int .i64) (.prod (.int .i64) (.prod (.int .i64) (.int .i64))))), .data (.slice zq1), .data (.slice (.prod (.int .i64) (.prod (.int .i64) (.int .i64))))], .cells 95 [.bself 1, .rowh 4], .cells 42 [.data (.int .i64), .data (.int .i64), .data (.int .i64), .data (.slice (.int .i64))], .cells 60 [.data (.int .i64), .data (.int .i64), .data .str], .row 5 (.int .u8)]⟩
def zqzm : List (AExit × View) := [(.normal, ⟨0, [2, 6, 14, 15, 16], [(false, [.ptr 0 0]), (false, [.ptr 1 0]), (false, [.data (.slice zq4)]), (false, [.data (.int .i64)]), (false, [.data (.int .i64)])], [.cells 32 [.data (.slice (.prod .str (.int .i64))), .data (.slice (.prod (.int .i64) (.prod (.int .i64) (.prod (.int .i64) (.int .i64))))), .data (.slice zq1), .data (.slice (.prod (.int .i64) (.prod (.int .i64) (.int .i64))))], .cells 95 [.bself 1, .rowh 2], .row 5 (.int .u8)]⟩)]
@[reducible] def timeline_Text_p1_G (p : zqzk) {β : Type} (d : zqzl.den) (ks : Outs.K β zqzm) : Option β :=
  p (fun a0 a1 a2 a3 a4 a5 a6 a7 => ks.1 (((), (), (a0, ()), (a1, ()), (a2, ()), ()), ((a3, a4, a5, a6, ()), (), a7, ()))) d.1.2.2.2.2.1.1 d.1.2.2.2.2.2.1.1 d.1.2.2.2.2.2.2.1.1 d.2.1.1 d.2.1.2.1 d.2.1.2.2.1 d.2.1.2.2.2.1 d.2.2.2.1.1 d.2.2.2.1.2.1 d.2.2.2.1.2.2.1 d.2.2.2.1.2.2.2.1 d.2.2.2.2.1.1 d.2.2.2.2.1.2.1 d.2.2.2.2.1.2.2.1 d.2.2.2.2.2.1
abbrev zqzn (β : Type) := (List UInt8) → Int → Option β
abbrev zqzo (β : Type) := (List Int) → Option β
abbrev zqzp := {β : Type} → zqzn β → zqzo β → (List api_Row) → Int → Int → (List (List UInt8 × Int)) → (List (Int × (Int × (Int × Int)))) → (List zq0) → (List (Int × (Int × Int))) → (List Int) → Option β
def zqzq : View := ⟨0, [2, 6, 14, 15, 16], [(false, [.ptr 0 0]), (false, [.ptr 1 0]), (false, [.data (.slice zq4)]), (false, [.data (.int .i64)]), (false, [.data (.int .i64)])], [.cells 32 [.data (.slice (.prod .str (.int .i64))), .data (.slice (.prod (.int .i64) (.prod (.int .i64) (.prod (.int .i64) (.int .i64))))), .data (.slice zq1), .data (.slice (.prod (.int .i64) (.prod (.int .i64) (.int .i64))))], .cells 95 [.bself 1, .rowh 2], .row 5 (.int .u8)]⟩
def zqzr : List (AExit × View) := [(.ret, ⟨0, [4, 5], [(false, [.data .str]), (false, [.data (.int .i64)])], []⟩), (.exit 0, ⟨0, [6], [(false, [.ptr 0 0])], [.cells 95 [.bself 0, .rowh 1], .row 5 (.int .u8)]⟩)]
@[reducible] def timeline_Text_p2_G (p : zqzp) {β : Type} (d : zqzq.den) (ks : Outs.K β zqzr) : Option β :=
  p (fun a0 a1 => ks.1 (((a0, ()), (a1, ()), ()), ())) (fun a0 => ks.2.1 (((), ()), ((), a0, ()))) d.1.2.2.1.1 d.1.2.2.2.1.1 d.1.2.2.2.2.1.1 d.2.1.1 d.2.1.2.1 d.2.1.2.2.1 d.2.1.2.2.2.1 d.2.2.2.1
section
variable (c_strconv_Itoa : zq39) (c_timeline_Check : zqyz) (c_timeline_printed : zq2k)
@[reducible] def timeline_Text_X : Ctx := ⟨look tab, pick1 [(41, .spec (zq3a c_strconv_Itoa)), (11, .spec (zqz0 c_timeline_Check)), (39, .spec (zq2l c_timeline_printed)), (42, .bld zq3f), (43, .bld zq3j), (40, .bld zq35)], false, false, false, false⟩
def zqzs {β : Type} (k1 : zqzj β) (t14 : List api_Row) (t15 : Int) (t16 : Int) (r_ : List (List UInt8 × Int)) (r_2 : List (Int × (Int × (Int × Int)))) (r_3 : List zq0) (r_4 : List (Int × (Int × Int))) (x : Int) (x2 : Int) (x3 : Int) (x4 : List Int) (e : Int) (e2 : Int) (e3 : List UInt8) (b4_ : List Int) : Option β :=
  cond (decide (0 ≤ e) && decide (e < (List.length r_ : Int)))
  (let e4 : (List UInt8 × Int) := List.getD r_ (Int.toNat e) (([] : List UInt8), (0 : Int));
  cond (decide (List.length ([32] : List UInt8) + List.length e4.1 ≤ 9223372036854775807))
  (cond (decide (List.length (([32] : List UInt8) ++ e4.1) + List.length ([32] : List UInt8) ≤ 9223372036854775807))
  (cond (decide (List.length ((([32] : List UInt8) ++ e4.1) ++ ([32] : List UInt8)) + List.length e3 ≤ 9223372036854775807))
  (cond (decide (List.length b4_ + List.length (((([32] : List UInt8) ++ e4.1) ++ ([32] : List UInt8)) ++ e3) ≤ 140737488355328))
  (let l : List Int := (b4_ ++ bytesI (((([32] : List UInt8) ++ e4.1) ++ ([32] : List UInt8)) ++ e3));
  cond (decide ((0 : Int) < (List.length x4 : Int)))
  (cond (decide (List.length l + List.length ([32, 111, 112, 101, 110] : List UInt8) ≤ 140737488355328))
  (let l2 : List Int := (l ++ bytesI ([32, 111, 112, 101, 110] : List UInt8));
  cond (decide (List.length l2 + List.length ([10] : List UInt8) ≤ 140737488355328))
  (let l3 : List Int := (l2 ++ bytesI ([10] : List UInt8));
  k1 t14 t15 t16 r_ r_2 r_3 r_4 l3)
  none)
  none)
  (cond (decide (List.length l + List.length ([10] : List UInt8) ≤ 140737488355328))
  (let l2 : List Int := (l ++ bytesI ([10] : List UInt8));
  k1 t14 t15 t16 r_ r_2 r_3 r_4 l2)
  none))
  none)
  none)
  none)
  none)
  none
def zqzt {β : Type} (k1 : zqzj β) (t14 : List api_Row) (t15 : Int) (t16 : Int) (r_ : List (List UInt8 × Int)) (r_2 : List (Int × (Int × (Int × Int)))) (r_3 : List zq0) (r_4 : List (Int × (Int × Int))) (x : Int) (x2 : Int) (x3 : Int) (x4 : List Int) (e : Int) (e2 : Int) (e3 : List UInt8) (b4_ : List Int) : Option β := zqzs k1 t14 t15 t16 r_ r_2 r_3 r_4 x x2 x3 x4 e e2 e3 b4_
theorem zqzu (hΓ : ΓOk Tryz.prog (timeline_Text_X c_strconv_Itoa c_timeline_Check c_timeline_printed).Γ) : PieceOk Tryz.prog 82 0 timeline_Text_p1_code zqzl zqzm (timeline_Text_p1_G (zqzt)) :=
  piece_exec (X := (timeline_Text_X c_strconv_Itoa c_timeline_Check c_timeline_printed)) (p := 927) (Λ := pick1 []) mixed tab_ok hΓ (by kernel_rfl) CutsOk_nil (fun d ks r h => Eq.trans (b := timeline_Text_p1_G (zqzt) d ks) (by kernel_rfl) h)
def zqzv (p1 : zqzk) {β : Type} (rec : (List api_Row) → Int → Int → (List (List UInt8 × Int)) → (List (Int × (Int × (Int × Int)))) → (List zq0) → (List (Int × (Int × Int))) → (List Int) → Option β) (k1 : zqzn β) (k2 : zqzo β) (t14 : List api_Row) (t15 : Int) (t16 : Int) (r_ : List (List UInt8 × Int)) (r_2 : List (Int × (Int × (Int × Int)))) (r_3 : List zq0) (r_4 : List (Int × (Int × Int))) (b2_ : List Int) : Option β :=
  cond (decide (t16 < t15))
  (cond (decide (0 ≤ t16) && decide (t16 < (List.length t14 : Int)))
  (let e : api_Row := List.getD t14 (Int.toNat t16) ((0 : Int), (((0 : Int), (0 : Int)), ([] : List Int)));
  cond (decide (0 ≤ e.1) && decide (e.1 < (List.length r_3 : Int)))
  (let e2 : zq0 := List.getD r_3 (Int.toNat e.1) ((0 : Int), ((0 : Int), ([] : List UInt8)));
  cond (decide (0 ≤ e2.1) && decide (e2.1 < (List.length r_ : Int)))
  (let e3 : (List UInt8 × Int) := List.getD r_ (Int.toNat e2.1) (([] : List UInt8), (0 : Int));
  c_timeline_printed e3.1 (33 : Int) (fun (rprinted : Bool) =>
  cond (!rprinted)
  (k1 ([] : List UInt8) (2 : Int))
  (c_timeline_printed e2.2.2 (32 : Int) (fun (rprinted2 : Bool) =>
  cond (!rprinted2)
  (k1 ([] : List UInt8) (2 : Int))
  (c_strconv_Itoa e.2.1.1 (fun (rItoa : List UInt8) =>
  cond (decide (List.length b2_ + List.length rItoa ≤ 140737488355328))
  (let l : List Int := (b2_ ++ bytesI rItoa);
  cond (!decide (e.2.1.2 = e.2.1.1))
  (c_strconv_Itoa e.2.1.2 (fun (rItoa2 : List UInt8) =>
  cond (decide (List.length ([46, 46] : List UInt8) + List.length rItoa2 ≤ 9223372036854775807))
  (cond (decide (List.length l + List.length (([46, 46] : List UInt8) ++ rItoa2) ≤ 140737488355328))
  (let l2 : List Int := (l ++ bytesI (([46, 46] : List UInt8) ++ rItoa2));
  p1 (fun (t142 : List api_Row) (t152 : Int) (t162 : Int) (r_5 : List (List UInt8 × Int)) (r_6 : List (Int × (Int × (Int × Int)))) (r_7 : List zq0) (r_8 : List (Int × (Int × Int))) (b2_2 : List Int) =>
  rec t142 t152 (IntKind.i64.wrap (t162 + (1 : Int))) r_5 r_6 r_7 r_8 b2_2) t14 t15 t16 r_ r_2 r_3 r_4 e.1 e.2.1.1 e.2.1.2 e.2.2 e2.1 e2.2.1 e2.2.2 l2)
  none)
  none))
  (p1 (fun (t142 : List api_Row) (t152 : Int) (t162 : Int) (r_5 : List (List UInt8 × Int)) (r_6 : List (Int × (Int × (Int × Int)))) (r_7 : List zq0) (r_8 : List (Int × (Int × Int))) (b2_2 : List Int) =>
  rec t142 t152 (IntKind.i64.wrap (t162 + (1 : Int))) r_5 r_6 r_7 r_8 b2_2) t14 t15 t16 r_ r_2 r_3 r_4 e.1 e.2.1.1 e.2.1.2 e.2.2 e2.1 e2.2.1 e2.2.2 l))
  none))))))
  none)
  none)
  none)
  (k2 b2_)
def zqzw (p1 : zqzk) {β : Type} : Nat → zqzn β → zqzo β → (List api_Row) → Int → Int → (List (List UInt8 × Int)) → (List (Int × (Int × (Int × Int)))) → (List zq0) → (List (Int × (Int × Int))) → (List Int) → Option β
  | 0 => fun _ _ _ _ _ _ _ _ _ _ => none
  | i + 1 => fun k1 k2 t14 t15 t16 r_ r_2 r_3 r_4 b2_ => zqzv c_strconv_Itoa c_timeline_printed p1 (zqzw p1 i k1 k2) k1 k2 t14 t15 t16 r_ r_2 r_3 r_4 b2_
theorem zqzx (hΓ : ΓOk Tryz.prog (timeline_Text_X c_strconv_Itoa c_timeline_Check c_timeline_printed).Γ) (p1 : zqzk) (hp1 : PieceOk Tryz.prog 82 0 timeline_Text_p1_code zqzl zqzm (timeline_Text_p1_G p1)) (i : Nat) : PieceOk Tryz.prog 82 0 timeline_Text_p2_code zqzq zqzr (timeline_Text_p2_G (zqzw c_strconv_Itoa c_timeline_printed p1 i)) := by
  rw [show timeline_Text_p2_code = .loop (loopBody timeline_Text_p2_code) by kernel_rfl]
  exact piece_loop (X := (timeline_Text_X c_strconv_Itoa c_timeline_Check c_timeline_printed)) (p := 1) (Λ := pick1 [(927, pieceCut zqzl zqzm (timeline_Text_p1_G p1))]) (G := fun i => @fun β d ks => timeline_Text_p2_G (zqzw c_strconv_Itoa c_timeline_printed p1 i) d ks) mixed tab_ok hΓ rfl (by kernel_rfl) (CutsOk_cons (q := 927) (c' := timeline_Text_p1_code) (by kernel_rfl) rfl hp1 CutsOk_nil) (fun _ _ => rfl) (fun i => @fun β d ks r h => Eq.trans (b := timeline_Text_p2_G (zqzw c_strconv_Itoa c_timeline_printed p1 (i + 1)) d ks) (by kernel_rfl) h) i
def zqzy (p2 : zqzp) {β : Type} (r_ : zq2) (l : List api_Row) (k : ((List UInt8) → Int → Option β)) : Option β :=
  c_timeline_Check r_ l (fun (rCheck : Bool) =>
  cond (!rCheck)
  (k ([] : List UInt8) (8 : Int))
  (p2 (fun (t4 : List UInt8) (t5 : Int) =>
  k t4 t5) (fun (b1_ : List Int) =>
  cond (decide ((65536 : Int) < (List.length b1_ : Int)))
  (k ([] : List UInt8) (5 : Int))
  (cond (bytesOk b1_)
  (k (strOf b1_) (0 : Int))
  none)) l (List.length l : Int) (0 : Int) r_.1 r_.2.1 r_.2.2.1 r_.2.2.2 ([] : List Int)))
theorem zqzz (hΓ : ΓOk Tryz.prog (timeline_Text_X c_strconv_Itoa c_timeline_Check c_timeline_printed).Γ) (p2 : zqzp) (hp2 : PieceOk Tryz.prog 82 0 timeline_Text_p2_code zqzq zqzr (timeline_Text_p2_G p2)) : SpecOk Tryz.prog 21 (zqzi (zqzy c_timeline_Check p2)) :=
  spec_exec (X := (timeline_Text_X c_strconv_Itoa c_timeline_Check c_timeline_printed)) (Λ := pick1 [(122, pieceCut zqzq zqzr (timeline_Text_p2_G p2))]) (rs := [.tmp 4, .tmp 5]) (c := bodyOf Tryz.f21) mixed tab_ok hΓ Tryz.func21 (by kernel_rfl) (by kernel_rfl) (by kernel_rfl) (by kernel_rfl) (CutsOk_cons (q := 122) (c' := timeline_Text_p2_code) (by kernel_rfl) rfl hp2 CutsOk_nil) (fun x k r h => Eq.trans (b := (zqzi (zqzy c_timeline_Check p2)).run x k) (by kernel_rfl) h)
end
theorem zq100Γ : ΓOk Tryz.prog (pick1 [(41, .spec (zq3a zq3b)), (11, .spec (zqz0 zqzf)), (39, .spec (zq2l zq31)), (42, .bld zq3f), (43, .bld zq3j), (40, .bld zq35)]) := (ΓOk_cons zq3c (ΓOk_cons zqzg (ΓOk_cons zq32 (ΓOk_bld zq3g (ΓOk_bld zq3k (ΓOk_bld zq36 ΓOk_nil))))))
def zq101 : zqzk := zqzt
theorem zq102 : PieceOk Tryz.prog 82 0 timeline_Text_p1_code zqzl zqzm (timeline_Text_p1_G zq101) := zqzu zq3b zqzf zq31 zq100Γ
def zq103 (m : Nat) : zqzp := zqzw zq3b zq31 zq101 m
theorem zq104 {β : Type} (i : Nat) (k1 k2 t14 t15 t16 r_ r_2 r_3 r_4 b2_) : (zq103 (i + 1) k1 k2 t14 t15 t16 r_ r_2 r_3 r_4 b2_ : Option β) = zqzv zq3b zq31 zq101 (zq103 i k1 k2) k1 k2 t14 t15 t16 r_ r_2 r_3 r_4 b2_ := rfl
def zq105 : zqzp := zq103 fuel
theorem zq106 : PieceOk Tryz.prog 82 0 timeline_Text_p2_code zqzq zqzr (timeline_Text_p2_G zq105) := zqzx zq3b zqzf zq31 zq100Γ zq101 zq102 fuel
def zq107 : zqzh := zqzy zqzf zq105
theorem zq108 : SpecOk Tryz.prog 21 (zqzi zq107) := zqzz zq3b zqzf zq31 zq100Γ zq105 zq106

/-- pagewatch/pagewatchlaw41.sane -/
abbrev zq109 := {β : Type} → (Bool → Option β) → Option β
def zq10a (c : zq109) : Spec :=
  ⟨[], [], [(false, [.data .bool])], [], fun x k => c  (fun r0 => k (((r0, ()), ()), ()))⟩
section
variable (c_timeline_Rows : zqx0) (c_timeline_Text : zqzh)
@[reducible] def law41_sane_X : Ctx := ⟨look tab, pick1 [(10, .spec (zqx1 c_timeline_Rows)), (21, .spec (zqzi c_timeline_Text))], false, false, true, false⟩
def zq10b {β : Type} (k : (Bool → Option β)) : Option β :=
  let l : List (List UInt8 × Int) := ([(([100, 98] : List UInt8), (0 : Int))] : List (List UInt8 × Int));
  let l2 : List (Int × (Int × (Int × Int))) := ([((0 : Int), ((10 : Int), ((100 : Int), (100 : Int))))] : List (Int × (Int × (Int × Int))));
  let l3 : List zq0 := ([((0 : Int), ((20 : Int), ([100, 111, 119, 110] : List UInt8))), ((0 : Int), ((10 : Int), ([115, 108, 111, 119] : List UInt8)))] : List zq0);
  c_timeline_Rows (l, (l2, (l3, ([] : List (Int × (Int × Int)))))) (fun (rRows : Bool) (lrRows : List api_Row) =>
  c_timeline_Text (l, (l2, (l3, ([] : List (Int × (Int × Int)))))) lrRows (fun (rText : List UInt8) (rText2 : Int) =>
  cond rRows
  (cond (decide (rText2 = (0 : Int)))
  (let t : Bool := (decide (rText = ([49, 48, 48, 32, 100, 98, 32, 115, 108, 111, 119, 10, 49, 49, 48, 32, 100, 98, 32, 100, 111, 119, 110, 10] : List UInt8)));
  k t)
  (k false))
  (k false)))
theorem zq10c (hΓ : ΓOk Tryz.prog (law41_sane_X c_timeline_Rows c_timeline_Text).Γ) : SpecOk Tryz.prog 7 (zq10a (zq10b c_timeline_Rows c_timeline_Text)) :=
  spec_exec (X := (law41_sane_X c_timeline_Rows c_timeline_Text)) (Λ := pick1 []) (rs := [.tmp 0]) (c := bodyOf Tryz.f7) mixed tab_ok hΓ Tryz.func7 (by kernel_rfl) (by kernel_rfl) (by kernel_rfl) (by kernel_rfl) CutsOk_nil (fun x k r h => Eq.trans (b := (zq10a (zq10b c_timeline_Rows c_timeline_Text)).run x k) (by kernel_rfl) h)
end
theorem zq10dΓ : ΓOk Tryz.prog (pick1 [(10, .spec (zqx1 zqx5)), (21, .spec (zqzi zq107))]) := (ΓOk_cons zqx6 (ΓOk_cons zq108 ΓOk_nil))
def zq10e : zq109 := zq10b zqx5 zq107
theorem zq10f : SpecOk Tryz.prog 7 (zq10a zq10e) := zq10c zqx5 zq107 zq10dΓ

/-- pagewatch/pagewatchlaw41.TimelineMerges -/
abbrev zq10g := {β : Type} → (List Int) → (Bool → Option β) → Option β
def zq10h (c : zq10g) : Spec :=
  ⟨[(false, [.data (.slice (.int .i64))])], [], [(false, [.data .bool])], [], fun x k => c x.1.1.1 (fun r0 => k (((r0, ()), ()), ()))⟩
noncomputable def law41_TimelineMerges_p2_code : Code := codeAt 32762 (bodyOf Tryz.f4)
noncomputable def law41_TimelineMerges_p4_code : Code := codeAt 65530 (bodyOf Tryz.f4)
noncomputable def law41_TimelineMerges_p1_code : Code := codeAt 230 (loopBody law41_TimelineMerges_p2_code)
noncomputable def law41_TimelineMerges_p3_code : Code := codeAt 230 (loopBody law41_TimelineMerges_p4_code)
abbrev zq10i (β : Type) := Bool → Option β
abbrev zq10j (β : Type) := Int → Int → (List (List UInt8 × Int)) → (List (Int × (Int × (Int × Int)))) → (List zq0) → (List (Int × (Int × Int))) → (List Int) → (List (List UInt8 × Int)) → (List (Int × (Int × (Int × Int)))) → (List zq0) → (List (Int × (Int × Int))) → (List Int) → (List (List UInt8 × Int)) → (List (Int × (Int × (Int × Int)))) → (List zq0) → (List (Int × (Int × Int))) → Option β
abbrev zq10k := {β : Type} → zq10i β → zq10j β → Int → Int → Int → Int → Int → (List (List UInt8 × Int)) → (List (Int × (Int × (Int × Int)))) → (List zq0) → (List (Int × (Int × Int))) → (List Int) → (List (List UInt8 × Int)) → (List (Int × (Int × (Int × Int)))) → (List zq0) → (List (Int × (Int × Int))) → (List Int) → (List (List UInt8 × Int)) → (List (Int × (Int × (Int × Int)))) → (List zq0) → (List (Int × (Int × Int))) → Option β
def zq10l : View := ⟨0, [4, 5, 6, 7, 8, 16, 103, 104, 108, 109], [(false, [.ptr 0 0]), (false, [.rowh 1]), (false, [.ptr 2 0]), (false, [.rowh 3]), (false, [.ptr 4 0]), (false, [.data (.int .i64)]), (false, [.data (.int .i64)]), (false, [.data (.int .i64)]), (false, [.data (.int .i64)]), (false, [.data (.int .i64)])], [.cells 32 [.data (.slice (.prod .str (.int .i64))), .data (.slice (.prod (.int .i64) (.prod (.int .i64) (.prod (.int .i64) (.int .i64))))), .data (.slice zq1), .data (.slice (.prod (.int .i64) (.prod (.int .i64) (.int .i64))))], .row 3 (.int .i64), .cells 32 [.data (.slice (.prod .str (.int .i64))), .data (.slice (.prod (.int .i64) (.prod (.int .i64) (.prod (.int .i64) (.int .i64))))), .data (.slice zq1), .data (.slice (.prod (.int .i64) (.prod (.int .i64) (.int .i64))))], .row 3 (.int .i64), .cells 32 [.data (.slice (.prod .str (.int .i64))), .data (.slice (.prod (.int .i64) (.prod (.int .i64) (.prod (.int .i64) (.int .i64))))), .data (.slice zq1), .data (.slice (.prod (.int .i64) (.prod (.int .i64) (.int .i64))))]]⟩
def zq10m : List (AExit × View) := [(.ret, ⟨0, [2], [(false, [.data .bool])], []⟩), (.exit 2, ⟨0, [4, 5, 6, 7, 8, 103, 104], [(false, [.ptr 0 0]), (false, [.rowh 1]), (false, [.ptr 2 0]), (false, [.rowh 3]), (false, [.ptr 4 0]), (false, [.data (.int .i64)]), (false, [.data (.int .i64)])], [.cells 32 [.data (.slice (.prod .str (.int .i64))), .data (.slice (.prod (.int .i64) (.prod (.int .i64) (.prod (.int .i64) (.int .i64))))), .data (.slice zq1), .data (.slice (.prod (.int .i64) (.prod (.int .i64) (.int .i64))))], .row 3 (.int .i64), .cells 32 [.data (.slice (.prod .str (.int .i64))), .data (.slice (.prod (.int .i64) (.prod (.int .i64) (.prod (.int .i64) (.int .i64))))), .data (.slice zq1), .data (.slice (.prod (.int .i64) (.prod (.int .i64) (.int .i64))))], .row 3 (.int .i64), .cells 32 [.data (.slice (.prod .str (.int .i64))), .data (.slice (.prod (.int .i64) (.prod (.int .i64) (.prod (.int .i64) (.int .i64))))), .data (.slice zq1), .data (.slice (.prod (.int .i64) (.prod (.int .i64) (.int .i64))))]]⟩)]
@[reducible] def law41_TimelineMerges_p1_G (p : zq10k) {β : Type} (d : zq10l.den) (ks : Outs.K β zq10m) : Option β :=
  p (fun a0 => ks.1 (((a0, ()), ()), ())) (fun a0 a1 a2 a3 a4 a5 a6 a7 a8 a9 a10 a11 a12 a13 a14 a15 => ks.2.1 (((), (), (), (), (), (a0, ()), (a1, ()), ()), ((a2, a3, a4, a5, ()), a6, (a7, a8, a9, a10, ()), a11, (a12, a13, a14, a15, ()), ()))) d.1.2.2.2.2.2.1.1 d.1.2.2.2.2.2.2.1.1 d.1.2.2.2.2.2.2.2.1.1 d.1.2.2.2.2.2.2.2.2.1.1 d.1.2.2.2.2.2.2.2.2.2.1.1 d.2.1.1 d.2.1.2.1 d.2.1.2.2.1 d.2.1.2.2.2.1 d.2.2.1 d.2.2.2.1.1 d.2.2.2.1.2.1 d.2.2.2.1.2.2.1 d.2.2.2.1.2.2.2.1 d.2.2.2.2.1 d.2.2.2.2.2.1.1 d.2.2.2.2.2.1.2.1 d.2.2.2.2.2.1.2.2.1 d.2.2.2.2.2.1.2.2.2.1
abbrev zq10n (β : Type) := Bool → Option β
abbrev zq10o (β : Type) := (List Int) → (List (List UInt8 × Int)) → (List (Int × (Int × (Int × Int)))) → (List zq0) → (List (Int × (Int × Int))) → (List Int) → (List (List UInt8 × Int)) → (List (Int × (Int × (Int × Int)))) → (List zq0) → (List (Int × (Int × Int))) → Option β
abbrev zq10p := {β : Type} → zq10n β → zq10o β → Int → Int → (List (List UInt8 × Int)) → (List (Int × (Int × (Int × Int)))) → (List zq0) → (List (Int × (Int × Int))) → (List Int) → (List (List UInt8 × Int)) → (List (Int × (Int × (Int × Int)))) → (List zq0) → (List (Int × (Int × Int))) → (List Int) → (List (List UInt8 × Int)) → (List (Int × (Int × (Int × Int)))) → (List zq0) → (List (Int × (Int × Int))) → Option β
def zq10q : View := ⟨0, [4, 5, 6, 7, 8, 103, 104], [(false, [.ptr 0 0]), (false, [.rowh 1]), (false, [.ptr 2 0]), (false, [.rowh 3]), (false, [.ptr 4 0]), (false, [.data (.int .i64)]), (false, [.data (.int .i64)])], [.cells 32 [.data (.slice (.prod .str (.int .i64))), .data (.slice (.prod (.int .i64) (.prod (.int .i64) (.prod (.int .i64) (.int .i64))))), .data (.slice zq1), .data (.slice (.prod (.int .i64) (.prod (.int .i64) (.int .i64))))], .row 3 (.int .i64), .cells 32 [.data (.slice (.prod .str (.int .i64))), .data (.slice (.prod (.int .i64) (.prod (.int .i64) (.prod (.int .i64) (.int .i64))))), .data (.slice zq1), .data (.slice (.prod (.int .i64) (.prod (.int .i64) (.int .i64))))], .row 3 (.int .i64), .cells 32 [.data (.slice (.prod .str (.int .i64))), .data (.slice (.prod (.int .i64) (.prod (.int .i64) (.prod (.int .i64) (.int .i64))))), .data (.slice zq1), .data (.slice (.prod (.int .i64) (.prod (.int .i64) (.int .i64))))]]⟩
def zq10r : List (AExit × View) := [(.ret, ⟨0, [2], [(false, [.data .bool])], []⟩), (.exit 0, ⟨0, [5, 6, 7, 8], [(false, [.rowh 0]), (false, [.ptr 1 0]), (false, [.rowh 2]), (false, [.ptr 3 0])], [.row 3 (.int .i64), .cells 32 [.data (.slice (.prod .str (.int .i64))), .data (.slice (.prod (.int .i64) (.prod (.int .i64) (.prod (.int .i64) (.int .i64))))), .data (.slice zq1), .data (.slice (.prod (.int .i64) (.prod (.int .i64) (.int .i64))))], .row 3 (.int .i64), .cells 32 [.data (.slice (.prod .str (.int .i64))), .data (.slice (.prod (.int .i64) (.prod (.int .i64) (.prod (.int .i64) (.int .i64))))), .data (.slice zq1), .data (.slice (.prod (.int .i64) (.prod (.int .i64) (.int .i64))))]]⟩)]
@[reducible] def law41_TimelineMerges_p2_G (p : zq10p) {β : Type} (d : zq10q.den) (ks : Outs.K β zq10r) : Option β :=
  p (fun a0 => ks.1 (((a0, ()), ()), ())) (fun a0 a1 a2 a3 a4 a5 a6 a7 a8 a9 => ks.2.1 (((), (), (), (), ()), (a0, (a1, a2, a3, a4, ()), a5, (a6, a7, a8, a9, ()), ()))) d.1.2.2.2.2.2.1.1 d.1.2.2.2.2.2.2.1.1 d.2.1.1 d.2.1.2.1 d.2.1.2.2.1 d.2.1.2.2.2.1 d.2.2.1 d.2.2.2.1.1 d.2.2.2.1.2.1 d.2.2.2.1.2.2.1 d.2.2.2.1.2.2.2.1 d.2.2.2.2.1 d.2.2.2.2.2.1.1 d.2.2.2.2.2.1.2.1 d.2.2.2.2.2.1.2.2.1 d.2.2.2.2.2.1.2.2.2.1
abbrev zq10s (β : Type) := Bool → Option β
abbrev zq10t (β : Type) := Int → Int → (List Int) → (List (List UInt8 × Int)) → (List (Int × (Int × (Int × Int)))) → (List zq0) → (List (Int × (Int × Int))) → (List Int) → (List (List UInt8 × Int)) → (List (Int × (Int × (Int × Int)))) → (List zq0) → (List (Int × (Int × Int))) → Option β
abbrev zq10u := {β : Type} → zq10s β → zq10t β → Int → Int → Int → Int → Int → (List Int) → (List (List UInt8 × Int)) → (List (Int × (Int × (Int × Int)))) → (List zq0) → (List (Int × (Int × Int))) → (List Int) → (List (List UInt8 × Int)) → (List (Int × (Int × (Int × Int)))) → (List zq0) → (List (Int × (Int × Int))) → Option β
def zq10v : View := ⟨0, [5, 6, 7, 8, 22, 132, 133, 137, 138], [(false, [.rowh 0]), (false, [.ptr 1 0]), (false, [.rowh 2]), (false, [.ptr 3 0]), (false, [.data (.int .i64)]), (false, [.data (.int .i64)]), (false, [.data (.int .i64)]), (false, [.data (.int .i64)]), (false, [.data (.int .i64)])], [.row 3 (.int .i64), .cells 32 [.data (.slice (.prod .str (.int .i64))), .data (.slice (.prod (.int .i64) (.prod (.int .i64) (.prod (.int .i64) (.int .i64))))), .data (.slice zq1), .data (.slice (.prod (.int .i64) (.prod (.int .i64) (.int .i64))))], .row 3 (.int .i64), .cells 32 [.data (.slice (.prod .str (.int .i64))), .data (.slice (.prod (.int .i64) (.prod (.int .i64) (.prod (.int .i64) (.int .i64))))), .data (.slice zq1), .data (.slice (.prod (.int .i64) (.prod (.int .i64) (.int .i64))))]]⟩
def zq10w : List (AExit × View) := [(.ret, ⟨0, [2], [(false, [.data .bool])], []⟩), (.exit 6, ⟨0, [5, 6, 7, 8, 132, 133], [(false, [.rowh 0]), (false, [.ptr 1 0]), (false, [.rowh 2]), (false, [.ptr 3 0]), (false, [.data (.int .i64)]), (false, [.data (.int .i64)])], [.row 3 (.int .i64), .cells 32 [.data (.slice (.prod .str (.int .i64))), .data (.slice (.prod (.int .i64) (.prod (.int .i64) (.prod (.int .i64) (.int .i64))))), .data (.slice zq1), .data (.slice (.prod (.int .i64) (.prod (.int .i64) (.int .i64))))], .row 3 (.int .i64), .cells 32 [.data (.slice (.prod .str (.int .i64))), .data (.slice (.prod (.int .i64) (.prod (.int .i64) (.prod (.int .i64) (.int .i64))))), .data (.slice zq1), .data (.slice (.prod (.int .i64) (.prod (.int .i64) (.int .i64))))]]⟩)]
@[reducible] def law41_TimelineMerges_p3_G (p : zq10u) {β : Type} (d : zq10v.den) (ks : Outs.K β zq10w) : Option β :=
  p (fun a0 => ks.1 (((a0, ()), ()), ())) (fun a0 a1 a2 a3 a4 a5 a6 a7 a8 a9 a10 a11 => ks.2.1 (((), (), (), (), (a0, ()), (a1, ()), ()), (a2, (a3, a4, a5, a6, ()), a7, (a8, a9, a10, a11, ()), ()))) d.1.2.2.2.2.1.1 d.1.2.2.2.2.2.1.1 d.1.2.2.2.2.2.2.1.1 d.1.2.2.2.2.2.2.2.1.1 d.1.2.2.2.2.2.2.2.2.1.1 d.2.1 d.2.2.1.1 d.2.2.1.2.1 d.2.2.1.2.2.1 d.2.2.1.2.2.2.1 d.2.2.2.1 d.2.2.2.2.1.1 d.2.2.2.2.1.2.1 d.2.2.2.2.1.2.2.1 d.2.2.2.2.1.2.2.2.1
abbrev zq10x (β : Type) := Bool → Option β
abbrev zq10y (β : Type) := (List Int) → (List Int) → (List (List UInt8 × Int)) → (List (Int × (Int × (Int × Int)))) → (List zq0) → (List (Int × (Int × Int))) → Option β
abbrev zq10z := {β : Type} → zq10x β → zq10y β → Int → Int → (List Int) → (List (List UInt8 × Int)) → (List (Int × (Int × (Int × Int)))) → (List zq0) → (List (Int × (Int × Int))) → (List Int) → (List (List UInt8 × Int)) → (List (Int × (Int × (Int × Int)))) → (List zq0) → (List (Int × (Int × Int))) → Option β
def zq110 : View := ⟨0, [5, 6, 7, 8, 132, 133], [(false, [.rowh 0]), (false, [.ptr 1 0]), (false, [.rowh 2]), (false, [.ptr 3 0]), (false, [.data (.int .i64)]), (false, [.data (.int .i64)])], [.row 3 (.int .i64), .cells 32 [.data (.slice (.prod .str (.int .i64))), .data (.slice (.prod (.int .i64) (.prod (.int .i64) (.prod (.int .i64) (.int .i64))))), .data (.slice zq1), .data (.slice (.prod (.int .i64) (.prod (.int .i64) (.int .i64))))], .row 3 (.int .i64), .cells 32 [.data (.slice (.prod .str (.int .i64))), .data (.slice (.prod (.int .i64) (.prod (.int .i64) (.prod (.int .i64) (.int .i64))))), .data (.slice zq1), .data (.slice (.prod (.int .i64) (.prod (.int .i64) (.int .i64))))]]⟩
def zq111 : List (AExit × View) := [(.ret, ⟨0, [2], [(false, [.data .bool])], []⟩), (.exit 4, ⟨0, [5, 7, 8], [(false, [.rowh 0]), (false, [.rowh 1]), (false, [.ptr 2 0])], [.row 3 (.int .i64), .row 3 (.int .i64), .cells 32 [.data (.slice (.prod .str (.int .i64))), .data (.slice (.prod (.int .i64) (.prod (.int .i64) (.prod (.int .i64) (.int .i64))))), .data (.slice zq1), .data (.slice (.prod (.int .i64) (.prod (.int .i64) (.int .i64))))]]⟩)]
@[reducible] def law41_TimelineMerges_p4_G (p : zq10z) {β : Type} (d : zq110.den) (ks : Outs.K β zq111) : Option β :=
  p (fun a0 => ks.1 (((a0, ()), ()), ())) (fun a0 a1 a2 a3 a4 a5 => ks.2.1 (((), (), (), ()), (a0, a1, (a2, a3, a4, a5, ()), ()))) d.1.2.2.2.2.1.1 d.1.2.2.2.2.2.1.1 d.2.1 d.2.2.1.1 d.2.2.1.2.1 d.2.2.1.2.2.1 d.2.2.1.2.2.2.1 d.2.2.2.1 d.2.2.2.2.1.1 d.2.2.2.2.1.2.1 d.2.2.2.2.1.2.2.1 d.2.2.2.2.1.2.2.2.1
section
variable (c_law41_sane : zq109) (c_made_Dice_Record : zqay) (c_made_Light : zq5) (c_made_Roll : zqc) (c_ref40_Compare : zqo0) (c_ref40_Consistent : zqo7) (c_ref40_Fits : zqow) (c_ref40_SameRanges : zqj) (c_ref40_When : zqoe) (c_timeline_Merge : zqlo)
@[reducible] def law41_TimelineMerges_X : Ctx := ⟨look tab, pick1 [(7, .spec (zq10a c_law41_sane)), (9, .spec (zqaz c_made_Dice_Record)), (6, .spec (zq6 c_made_Light)), (8, .spec (zqd c_made_Roll)), (13, .spec (zqo1 c_ref40_Compare)), (15, .spec (zqo8 c_ref40_Consistent)), (18, .spec (zqox c_ref40_Fits)), (17, .spec (zqk c_ref40_SameRanges)), (16, .spec (zqof c_ref40_When)), (14, .spec (zqlp c_timeline_Merge))], false, false, false, false⟩
def zq112 {β : Type} (rec : Int → Int → Int → Int → Int → (List (List UInt8 × Int)) → (List (Int × (Int × (Int × Int)))) → (List zq0) → (List (Int × (Int × Int))) → (List Int) → (List (List UInt8 × Int)) → (List (Int × (Int × (Int × Int)))) → (List zq0) → (List (Int × (Int × Int))) → (List Int) → (List (List UInt8 × Int)) → (List (Int × (Int × (Int × Int)))) → (List zq0) → (List (Int × (Int × Int))) → Option β) (k1 : zq10i β) (k2 : zq10j β) (i_ : Int) (t103 : Int) (t104 : Int) (t108 : Int) (t109 : Int) (a : List (List UInt8 × Int)) (a2 : List (Int × (Int × (Int × Int)))) (a3 : List zq0) (a4 : List (Int × (Int × Int))) (one : List Int) (b : List (List UInt8 × Int)) (b2 : List (Int × (Int × (Int × Int)))) (b3 : List zq0) (b4 : List (Int × (Int × Int))) (two : List Int) (r_ : List (List UInt8 × Int)) (r_2 : List (Int × (Int × (Int × Int)))) (r_3 : List zq0) (r_4 : List (Int × (Int × Int))) : Option β :=
  cond (decide (t109 < t108))
  (c_ref40_Compare (a, (a2, (a3, a4))) i_ t109 (fun (rCompare : Int) (rCompare2 : Bool) =>
  c_ref40_Compare (r_, (r_2, (r_3, r_4))) i_ t109 (fun (rCompare3 : Int) (rCompare4 : Bool) =>
  cond (!decide (rCompare = rCompare3))
  (k1 false)
  (rec i_ t103 t104 t108 (IntKind.i64.wrap (t109 + (1 : Int))) a a2 a3 a4 one b b2 b3 b4 two r_ r_2 r_3 r_4))))
  (k2 t103 t104 a a2 a3 a4 one b b2 b3 b4 two r_ r_2 r_3 r_4)
def zq113 {β : Type} : Nat → zq10i β → zq10j β → Int → Int → Int → Int → Int → (List (List UInt8 × Int)) → (List (Int × (Int × (Int × Int)))) → (List zq0) → (List (Int × (Int × Int))) → (List Int) → (List (List UInt8 × Int)) → (List (Int × (Int × (Int × Int)))) → (List zq0) → (List (Int × (Int × Int))) → (List Int) → (List (List UInt8 × Int)) → (List (Int × (Int × (Int × Int)))) → (List zq0) → (List (Int × (Int × Int))) → Option β
  | 0 => fun _ _ _ _ _ _ _ _ _ _ _ _ _ _ _ _ _ _ _ _ _ => none
  | i + 1 => fun k1 k2 i_ t103 t104 t108 t109 a a2 a3 a4 one b b2 b3 b4 two r_ r_2 r_3 r_4 => zq112 c_ref40_Compare (zq113 i k1 k2) k1 k2 i_ t103 t104 t108 t109 a a2 a3 a4 one b b2 b3 b4 two r_ r_2 r_3 r_4
theorem zq114 (hΓ : ΓOk Tryz.prog (law41_TimelineMerges_X c_law41_sane c_made_Dice_Record c_made_Light c_made_Roll c_ref40_Compare c_ref40_Consistent c_ref40_Fits c_ref40_SameRanges c_ref40_When c_timeline_Merge).Γ) (i : Nat) : PieceOk Tryz.prog 175 0 law41_TimelineMerges_p1_code zq10l zq10m (law41_TimelineMerges_p1_G (zq113 c_ref40_Compare i)) := by
  rw [show law41_TimelineMerges_p1_code = .loop (loopBody law41_TimelineMerges_p1_code) by kernel_rfl]
  exact piece_loop (X := (law41_TimelineMerges_X c_law41_sane c_made_Dice_Record c_made_Light c_made_Roll c_ref40_Compare c_ref40_Consistent c_ref40_Fits c_ref40_SameRanges c_ref40_When c_timeline_Merge)) (p := 1) (Λ := pick1 []) (G := fun i => @fun β d ks => law41_TimelineMerges_p1_G (zq113 c_ref40_Compare i) d ks) mixed tab_ok hΓ rfl (by kernel_rfl) CutsOk_nil (fun _ _ => rfl) (fun i => @fun β d ks r h => Eq.trans (b := law41_TimelineMerges_p1_G (zq113 c_ref40_Compare (i + 1)) d ks) (by kernel_rfl) h) i
def zq115 (p1 : zq10k) {β : Type} (rec : Int → Int → (List (List UInt8 × Int)) → (List (Int × (Int × (Int × Int)))) → (List zq0) → (List (Int × (Int × Int))) → (List Int) → (List (List UInt8 × Int)) → (List (Int × (Int × (Int × Int)))) → (List zq0) → (List (Int × (Int × Int))) → (List Int) → (List (List UInt8 × Int)) → (List (Int × (Int × (Int × Int)))) → (List zq0) → (List (Int × (Int × Int))) → Option β) (k1 : zq10n β) (k2 : zq10o β) (t103 : Int) (t104 : Int) (a : List (List UInt8 × Int)) (a2 : List (Int × (Int × (Int × Int)))) (a3 : List zq0) (a4 : List (Int × (Int × Int))) (one : List Int) (b : List (List UInt8 × Int)) (b2 : List (Int × (Int × (Int × Int)))) (b3 : List zq0) (b4 : List (Int × (Int × Int))) (two : List Int) (r_ : List (List UInt8 × Int)) (r_2 : List (Int × (Int × (Int × Int)))) (r_3 : List zq0) (r_4 : List (Int × (Int × Int))) : Option β :=
  cond (decide (t104 < t103))
  (p1 (fun (t2 : Bool) =>
  k1 t2) (fun (t1032 : Int) (t1042 : Int) (a5 : List (List UInt8 × Int)) (a6 : List (Int × (Int × (Int × Int)))) (a7 : List zq0) (a8 : List (Int × (Int × Int))) (one2 : List Int) (b5 : List (List UInt8 × Int)) (b6 : List (Int × (Int × (Int × Int)))) (b7 : List zq0) (b8 : List (Int × (Int × Int))) (two2 : List Int) (r_5 : List (List UInt8 × Int)) (r_6 : List (Int × (Int × (Int × Int)))) (r_7 : List zq0) (r_8 : List (Int × (Int × Int))) =>
  rec t1032 (IntKind.i64.wrap (t1042 + (1 : Int))) a5 a6 a7 a8 one2 b5 b6 b7 b8 two2 r_5 r_6 r_7 r_8) t104 t103 t104 (List.length one : Int) (0 : Int) a a2 a3 a4 one b b2 b3 b4 two r_ r_2 r_3 r_4)
  (k2 one b b2 b3 b4 two r_ r_2 r_3 r_4)
def zq116 (p1 : zq10k) {β : Type} : Nat → zq10n β → zq10o β → Int → Int → (List (List UInt8 × Int)) → (List (Int × (Int × (Int × Int)))) → (List zq0) → (List (Int × (Int × Int))) → (List Int) → (List (List UInt8 × Int)) → (List (Int × (Int × (Int × Int)))) → (List zq0) → (List (Int × (Int × Int))) → (List Int) → (List (List UInt8 × Int)) → (List (Int × (Int × (Int × Int)))) → (List zq0) → (List (Int × (Int × Int))) → Option β
  | 0 => fun _ _ _ _ _ _ _ _ _ _ _ _ _ _ _ _ _ _ => none
  | i + 1 => fun k1 k2 t103 t104 a a2 a3 a4 one b b2 b3 b4 two r_ r_2 r_3 r_4 => zq115 p1 (zq116 p1 i k1 k2) k1 k2 t103 t104 a a2 a3 a4 one b b2 b3 b4 two r_ r_2 r_3 r_4
theorem zq117 (hΓ : ΓOk Tryz.prog (law41_TimelineMerges_X c_law41_sane c_made_Dice_Record c_made_Light c_made_Roll c_ref40_Compare c_ref40_Consistent c_ref40_Fits c_ref40_SameRanges c_ref40_When c_timeline_Merge).Γ) (p1 : zq10k) (hp1 : PieceOk Tryz.prog 175 0 law41_TimelineMerges_p1_code zq10l zq10m (law41_TimelineMerges_p1_G p1)) (i : Nat) : PieceOk Tryz.prog 175 0 law41_TimelineMerges_p2_code zq10q zq10r (law41_TimelineMerges_p2_G (zq116 p1 i)) := by
  rw [show law41_TimelineMerges_p2_code = .loop (loopBody law41_TimelineMerges_p2_code) by kernel_rfl]
  exact piece_loop (X := (law41_TimelineMerges_X c_law41_sane c_made_Dice_Record c_made_Light c_made_Roll c_ref40_Compare c_ref40_Consistent c_ref40_Fits c_ref40_SameRanges c_ref40_When c_timeline_Merge)) (p := 1) (Λ := pick1 [(230, pieceCut zq10l zq10m (law41_TimelineMerges_p1_G p1))]) (G := fun i => @fun β d ks => law41_TimelineMerges_p2_G (zq116 p1 i) d ks) mixed tab_ok hΓ rfl (by kernel_rfl) (CutsOk_cons (q := 230) (c' := law41_TimelineMerges_p1_code) (by kernel_rfl) rfl hp1 CutsOk_nil) (fun _ _ => rfl) (fun i => @fun β d ks r h => Eq.trans (b := law41_TimelineMerges_p2_G (zq116 p1 (i + 1)) d ks) (by kernel_rfl) h) i
def zq118 {β : Type} (rec : Int → Int → Int → Int → Int → (List Int) → (List (List UInt8 × Int)) → (List (Int × (Int × (Int × Int)))) → (List zq0) → (List (Int × (Int × Int))) → (List Int) → (List (List UInt8 × Int)) → (List (Int × (Int × (Int × Int)))) → (List zq0) → (List (Int × (Int × Int))) → Option β) (k1 : zq10s β) (k2 : zq10t β) (i_ : Int) (t132 : Int) (t133 : Int) (t137 : Int) (t138 : Int) (one : List Int) (b : List (List UInt8 × Int)) (b2 : List (Int × (Int × (Int × Int)))) (b3 : List zq0) (b4 : List (Int × (Int × Int))) (two : List Int) (r_ : List (List UInt8 × Int)) (r_2 : List (Int × (Int × (Int × Int)))) (r_3 : List zq0) (r_4 : List (Int × (Int × Int))) : Option β :=
  cond (decide (t138 < t137))
  (c_ref40_Compare (b, (b2, (b3, b4))) i_ t138 (fun (rCompare : Int) (rCompare2 : Bool) =>
  c_ref40_Compare (r_, (r_2, (r_3, r_4))) (IntKind.i64.wrap ((List.length one : Int) + i_)) (IntKind.i64.wrap ((List.length one : Int) + t138)) (fun (rCompare3 : Int) (rCompare4 : Bool) =>
  cond (!decide (rCompare = rCompare3))
  (k1 false)
  (rec i_ t132 t133 t137 (IntKind.i64.wrap (t138 + (1 : Int))) one b b2 b3 b4 two r_ r_2 r_3 r_4))))
  (k2 t132 t133 one b b2 b3 b4 two r_ r_2 r_3 r_4)
def zq119 {β : Type} : Nat → zq10s β → zq10t β → Int → Int → Int → Int → Int → (List Int) → (List (List UInt8 × Int)) → (List (Int × (Int × (Int × Int)))) → (List zq0) → (List (Int × (Int × Int))) → (List Int) → (List (List UInt8 × Int)) → (List (Int × (Int × (Int × Int)))) → (List zq0) → (List (Int × (Int × Int))) → Option β
  | 0 => fun _ _ _ _ _ _ _ _ _ _ _ _ _ _ _ _ _ => none
  | i + 1 => fun k1 k2 i_ t132 t133 t137 t138 one b b2 b3 b4 two r_ r_2 r_3 r_4 => zq118 c_ref40_Compare (zq119 i k1 k2) k1 k2 i_ t132 t133 t137 t138 one b b2 b3 b4 two r_ r_2 r_3 r_4
theorem zq11a (hΓ : ΓOk Tryz.prog (law41_TimelineMerges_X c_law41_sane c_made_Dice_Record c_made_Light c_made_Roll c_ref40_Compare c_ref40_Consistent c_ref40_Fits c_ref40_SameRanges c_ref40_When c_timeline_Merge).Γ) (i : Nat) : PieceOk Tryz.prog 175 0 law41_TimelineMerges_p3_code zq10v zq10w (law41_TimelineMerges_p3_G (zq119 c_ref40_Compare i)) := by
  rw [show law41_TimelineMerges_p3_code = .loop (loopBody law41_TimelineMerges_p3_code) by kernel_rfl]
  exact piece_loop (X := (law41_TimelineMerges_X c_law41_sane c_made_Dice_Record c_made_Light c_made_Roll c_ref40_Compare c_ref40_Consistent c_ref40_Fits c_ref40_SameRanges c_ref40_When c_timeline_Merge)) (p := 1) (Λ := pick1 []) (G := fun i => @fun β d ks => law41_TimelineMerges_p3_G (zq119 c_ref40_Compare i) d ks) mixed tab_ok hΓ rfl (by kernel_rfl) CutsOk_nil (fun _ _ => rfl) (fun i => @fun β d ks r h => Eq.trans (b := law41_TimelineMerges_p3_G (zq119 c_ref40_Compare (i + 1)) d ks) (by kernel_rfl) h) i
def zq11b (p3 : zq10u) {β : Type} (rec : Int → Int → (List Int) → (List (List UInt8 × Int)) → (List (Int × (Int × (Int × Int)))) → (List zq0) → (List (Int × (Int × Int))) → (List Int) → (List (List UInt8 × Int)) → (List (Int × (Int × (Int × Int)))) → (List zq0) → (List (Int × (Int × Int))) → Option β) (k1 : zq10x β) (k2 : zq10y β) (t132 : Int) (t133 : Int) (one : List Int) (b : List (List UInt8 × Int)) (b2 : List (Int × (Int × (Int × Int)))) (b3 : List zq0) (b4 : List (Int × (Int × Int))) (two : List Int) (r_ : List (List UInt8 × Int)) (r_2 : List (Int × (Int × (Int × Int)))) (r_3 : List zq0) (r_4 : List (Int × (Int × Int))) : Option β :=
  cond (decide (t133 < t132))
  (p3 (fun (t2 : Bool) =>
  k1 t2) (fun (t1322 : Int) (t1332 : Int) (one2 : List Int) (b5 : List (List UInt8 × Int)) (b6 : List (Int × (Int × (Int × Int)))) (b7 : List zq0) (b8 : List (Int × (Int × Int))) (two2 : List Int) (r_5 : List (List UInt8 × Int)) (r_6 : List (Int × (Int × (Int × Int)))) (r_7 : List zq0) (r_8 : List (Int × (Int × Int))) =>
  rec t1322 (IntKind.i64.wrap (t1332 + (1 : Int))) one2 b5 b6 b7 b8 two2 r_5 r_6 r_7 r_8) t133 t132 t133 (List.length two : Int) (0 : Int) one b b2 b3 b4 two r_ r_2 r_3 r_4)
  (k2 one two r_ r_2 r_3 r_4)
def zq11c (p3 : zq10u) {β : Type} : Nat → zq10x β → zq10y β → Int → Int → (List Int) → (List (List UInt8 × Int)) → (List (Int × (Int × (Int × Int)))) → (List zq0) → (List (Int × (Int × Int))) → (List Int) → (List (List UInt8 × Int)) → (List (Int × (Int × (Int × Int)))) → (List zq0) → (List (Int × (Int × Int))) → Option β
  | 0 => fun _ _ _ _ _ _ _ _ _ _ _ _ _ _ => none
  | i + 1 => fun k1 k2 t132 t133 one b b2 b3 b4 two r_ r_2 r_3 r_4 => zq11b p3 (zq11c p3 i k1 k2) k1 k2 t132 t133 one b b2 b3 b4 two r_ r_2 r_3 r_4
theorem zq11d (hΓ : ΓOk Tryz.prog (law41_TimelineMerges_X c_law41_sane c_made_Dice_Record c_made_Light c_made_Roll c_ref40_Compare c_ref40_Consistent c_ref40_Fits c_ref40_SameRanges c_ref40_When c_timeline_Merge).Γ) (p3 : zq10u) (hp3 : PieceOk Tryz.prog 175 0 law41_TimelineMerges_p3_code zq10v zq10w (law41_TimelineMerges_p3_G p3)) (i : Nat) : PieceOk Tryz.prog 175 0 law41_TimelineMerges_p4_code zq110 zq111 (law41_TimelineMerges_p4_G (zq11c p3 i)) := by
  rw [show law41_TimelineMerges_p4_code = .loop (loopBody law41_TimelineMerges_p4_code) by kernel_rfl]
  exact piece_loop (X := (law41_TimelineMerges_X c_law41_sane c_made_Dice_Record c_made_Light c_made_Roll c_ref40_Compare c_ref40_Consistent c_ref40_Fits c_ref40_SameRanges c_ref40_When c_timeline_Merge)) (p := 1) (Λ := pick1 [(230, pieceCut zq10v zq10w (law41_TimelineMerges_p3_G p3))]) (G := fun i => @fun β d ks => law41_TimelineMerges_p4_G (zq11c p3 i) d ks) mixed tab_ok hΓ rfl (by kernel_rfl) (CutsOk_cons (q := 230) (c' := law41_TimelineMerges_p3_code) (by kernel_rfl) rfl hp3 CutsOk_nil) (fun _ _ => rfl) (fun i => @fun β d ks r h => Eq.trans (b := law41_TimelineMerges_p4_G (zq11c p3 (i + 1)) d ks) (by kernel_rfl) h) i
def zq11e (p2 : zq10p) (p4 : zq10z) {β : Type} (t : List Int) (k : (Bool → Option β)) : Option β :=
  c_made_Light t (fun (rLight : Bool) =>
  cond (!rLight)
  (c_law41_sane  (fun (rsane : Bool) =>
  k rsane))
  (c_made_Roll t (fun (mrRoll : (List Int × Int)) =>
  c_made_Dice_Record (4 : Int) mrRoll (fun (rRecord : zq2) (mrRecord : (List Int × Int)) (lrRecord : List Int) =>
  c_made_Dice_Record (4 : Int) mrRecord (fun (rRecord2 : zq2) (mrRecord2 : (List Int × Int)) (lrRecord2 : List Int) =>
  c_timeline_Merge rRecord rRecord2 (fun (rMerge : zq2) (rMerge2 : Int) =>
  cond (!decide (rMerge2 = (0 : Int)))
  (k false)
  (cond (!decide ((List.length rMerge.2.2.1 : Int) = (IntKind.i64.wrap ((List.length lrRecord : Int) + (List.length lrRecord2 : Int)))))
  (k false)
  (c_ref40_Consistent rMerge (fun (rConsistent : Bool) =>
  cond (!rConsistent)
  (k false)
  (c_ref40_When rMerge (fun (rWhen : Bool) (lrWhen : List (Int × Int)) =>
  c_ref40_When rRecord (fun (rWhen2 : Bool) (lrWhen2 : List (Int × Int)) =>
  c_ref40_When rRecord2 (fun (rWhen3 : Bool) (lrWhen3 : List (Int × Int)) =>
  cond (!rWhen)
  (k false)
  (cond (!rWhen2)
  (k false)
  (cond (!rWhen3)
  (k false)
  (cond (decide (List.length lrWhen2 * 16 ≤ roomMax))
  (cond (decide ((List.length lrWhen2 + List.length lrWhen3) * 16 ≤ roomMax))
  (let l : List (Int × Int) := (lrWhen2 ++ lrWhen3);
  c_ref40_SameRanges lrWhen l (fun (rSameRanges : Bool) =>
  cond (!rSameRanges)
  (k false)
  (p2 (fun (t2 : Bool) =>
  k t2) (fun (one : List Int) (b : List (List UInt8 × Int)) (b2 : List (Int × (Int × (Int × Int)))) (b3 : List zq0) (b4 : List (Int × (Int × Int))) (two : List Int) (r_ : List (List UInt8 × Int)) (r_2 : List (Int × (Int × (Int × Int)))) (r_3 : List zq0) (r_4 : List (Int × (Int × Int))) =>
  p4 (fun (t2 : Bool) =>
  k t2) (fun (one2 : List Int) (two2 : List Int) (r_5 : List (List UInt8 × Int)) (r_6 : List (Int × (Int × (Int × Int)))) (r_7 : List zq0) (r_8 : List (Int × (Int × Int))) =>
  cond (decide (List.length one2 * 8 ≤ roomMax))
  (cond (decide ((List.length one2 + List.length two2) * 8 ≤ roomMax))
  (let l2 : List Int := (one2 ++ two2);
  c_ref40_Fits (r_5, (r_6, (r_7, r_8))) l2 (fun (rFits : Bool) =>
  cond rFits
  (c_law41_sane  (fun (rsane : Bool) =>
  k rsane))
  (k false)))
  none)
  none) (List.length two : Int) (0 : Int) one b b2 b3 b4 two r_ r_2 r_3 r_4) (List.length lrRecord : Int) (0 : Int) rRecord.1 rRecord.2.1 rRecord.2.2.1 rRecord.2.2.2 lrRecord rRecord2.1 rRecord2.2.1 rRecord2.2.2.1 rRecord2.2.2.2 lrRecord2 rMerge.1 rMerge.2.1 rMerge.2.2.1 rMerge.2.2.2)))
  none)
  none))))))))))))))))
theorem zq11f (hΓ : ΓOk Tryz.prog (law41_TimelineMerges_X c_law41_sane c_made_Dice_Record c_made_Light c_made_Roll c_ref40_Compare c_ref40_Consistent c_ref40_Fits c_ref40_SameRanges c_ref40_When c_timeline_Merge).Γ) (p2 : zq10p) (p4 : zq10z) (hp2 : PieceOk Tryz.prog 175 0 law41_TimelineMerges_p2_code zq10q zq10r (law41_TimelineMerges_p2_G p2)) (hp4 : PieceOk Tryz.prog 175 0 law41_TimelineMerges_p4_code zq110 zq111 (law41_TimelineMerges_p4_G p4)) : SpecOk Tryz.prog 4 (zq10h (zq11e c_law41_sane c_made_Dice_Record c_made_Light c_made_Roll c_ref40_Consistent c_ref40_Fits c_ref40_SameRanges c_ref40_When c_timeline_Merge p2 p4)) :=
  spec_exec (X := (law41_TimelineMerges_X c_law41_sane c_made_Dice_Record c_made_Light c_made_Roll c_ref40_Compare c_ref40_Consistent c_ref40_Fits c_ref40_SameRanges c_ref40_When c_timeline_Merge)) (Λ := pick1 [(32762, pieceCut zq10q zq10r (law41_TimelineMerges_p2_G p2)), (65530, pieceCut zq110 zq111 (law41_TimelineMerges_p4_G p4))]) (rs := [.tmp 2]) (c := bodyOf Tryz.f4) mixed tab_ok hΓ Tryz.func4 (by kernel_rfl) (by kernel_rfl) (by kernel_rfl) (by kernel_rfl) (CutsOk_cons (q := 32762) (c' := law41_TimelineMerges_p2_code) (by kernel_rfl) rfl hp2 (CutsOk_cons (q := 65530) (c' := law41_TimelineMerges_p4_code) (by kernel_rfl) rfl hp4 CutsOk_nil)) (fun x k r h => Eq.trans (b := (zq10h (zq11e c_law41_sane c_made_Dice_Record c_made_Light c_made_Roll c_ref40_Consistent c_ref40_Fits c_ref40_SameRanges c_ref40_When c_timeline_Merge p2 p4)).run x k) (by kernel_rfl) h)
end
theorem zq11gΓ : ΓOk Tryz.prog (pick1 [(7, .spec (zq10a zq10e)), (9, .spec (zqaz zqck)), (6, .spec (zq6 zqa)), (8, .spec (zqd zqh)), (13, .spec (zqo1 zqo5)), (15, .spec (zqo8 zqoc)), (18, .spec (zqox zqpd)), (17, .spec (zqk zq10)), (16, .spec (zqof zqou)), (14, .spec (zqlp zqmq))]) := (ΓOk_cons zq10f (ΓOk_cons zqcl (ΓOk_cons zqb (ΓOk_cons zqi (ΓOk_cons zqo6 (ΓOk_cons zqod (ΓOk_cons zqpe (ΓOk_cons zq11 (ΓOk_cons zqov (ΓOk_cons zqmr ΓOk_nil))))))))))
def zq11h (m : Nat) : zq10k := zq113 zqo5 m
theorem zq11i {β : Type} (i : Nat) (k1 k2 i_ t103 t104 t108 t109 a a2 a3 a4 one b b2 b3 b4 two r_ r_2 r_3 r_4) : (zq11h (i + 1) k1 k2 i_ t103 t104 t108 t109 a a2 a3 a4 one b b2 b3 b4 two r_ r_2 r_3 r_4 : Option β) = zq112 zqo5 (zq11h i k1 k2) k1 k2 i_ t103 t104 t108 t109 a a2 a3 a4 one b b2 b3 b4 two r_ r_2 r_3 r_4 := rfl
def zq11j : zq10k := zq11h fuel
theorem zq11k : PieceOk Tryz.prog 175 0 law41_TimelineMerges_p1_code zq10l zq10m (law41_TimelineMerges_p1_G zq11j) := zq114 zq10e zqck zqa zqh zqo5 zqoc zqpd zq10 zqou zqmq zq11gΓ fuel
def zq11l (m : Nat) : zq10p := zq116 zq11j m
theorem zq11m {β : Type} (i : Nat) (k1 k2 t103 t104 a a2 a3 a4 one b b2 b3 b4 two r_ r_2 r_3 r_4) : (zq11l (i + 1) k1 k2 t103 t104 a a2 a3 a4 one b b2 b3 b4 two r_ r_2 r_3 r_4 : Option β) = zq115 zq11j (zq11l i k1 k2) k1 k2 t103 t104 a a2 a3 a4 one b b2 b3 b4 two r_ r_2 r_3 r_4 := rfl
def zq11n : zq10p := zq11l fuel
theorem zq11o : PieceOk Tryz.prog 175 0 law41_TimelineMerges_p2_code zq10q zq10r (law41_TimelineMerges_p2_G zq11n) := zq117 zq10e zqck zqa zqh zqo5 zqoc zqpd zq10 zqou zqmq zq11gΓ zq11j zq11k fuel
def zq11p (m : Nat) : zq10u := zq119 zqo5 m
theorem zq11q {β : Type} (i : Nat) (k1 k2 i_ t132 t133 t137 t138 one b b2 b3 b4 two r_ r_2 r_3 r_4) : (zq11p (i + 1) k1 k2 i_ t132 t133 t137 t138 one b b2 b3 b4 two r_ r_2 r_3 r_4 : Option β) = zq118 zqo5 (zq11p i k1 k2) k1 k2 i_ t132 t133 t137 t138 one b b2 b3 b4 two r_ r_2 r_3 r_4 := rfl
def zq11r : zq10u := zq11p fuel
theorem zq11s : PieceOk Tryz.prog 175 0 law41_TimelineMerges_p3_code zq10v zq10w (law41_TimelineMerges_p3_G zq11r) := zq11a zq10e zqck zqa zqh zqo5 zqoc zqpd zq10 zqou zqmq zq11gΓ fuel
def zq11t (m : Nat) : zq10z := zq11c zq11r m
theorem zq11u {β : Type} (i : Nat) (k1 k2 t132 t133 one b b2 b3 b4 two r_ r_2 r_3 r_4) : (zq11t (i + 1) k1 k2 t132 t133 one b b2 b3 b4 two r_ r_2 r_3 r_4 : Option β) = zq11b zq11r (zq11t i k1 k2) k1 k2 t132 t133 one b b2 b3 b4 two r_ r_2 r_3 r_4 := rfl
def zq11v : zq10z := zq11t fuel
theorem zq11w : PieceOk Tryz.prog 175 0 law41_TimelineMerges_p4_code zq110 zq111 (law41_TimelineMerges_p4_G zq11v) := zq11d zq10e zqck zqa zqh zqo5 zqoc zqpd zq10 zqou zqmq zq11gΓ zq11r zq11s fuel
def zq11x : zq10g := zq11e zq10e zqck zqa zqh zqoc zqpd zq10 zqou zqmq zq11n zq11v
theorem zq11y : SpecOk Tryz.prog 4 (zq10h zq11x) := zq11f zq10e zqck zqa zqh zqo5 zqoc zqpd zq10 zqou zqmq zq11gΓ zq11n zq11v zq11o zq11w
end
end Go.Lift
/- Plain lemmas about functional forms: tests that are known, loops. -/
namespace Go.Lift
open Go.RowKit Go.IntWalk

section
variable {β : Type}
/-! ### Tests -/
theorem c_inb {i n : Int} {a b : Option β} (h : 0 ≤ i ∧ i < n) : cond (decide (0 ≤ i) && decide (i < n)) a b = a := by
  rw [decide_eq_true h.1, decide_eq_true h.2]; rfl
theorem c_room {n : Nat} {a b : Option β} (h : n ≤ 140737488355328) : cond (decide (n ≤ roomMax)) a b = a := by
  rw [decide_eq_true (p := n ≤ roomMax) h]; rfl
theorem c_pos {p : Prop} [Decidable p] {a b : Option β} (h : p) : cond (decide p) a b = a := by rw [decide_eq_true h]; rfl
theorem c_neg {p : Prop} [Decidable p] {a b : Option β} (h : ¬ p) : cond (decide p) a b = b := by rw [decide_eq_false h]; rfl
theorem c_npos {p : Prop} [Decidable p] {a b : Option β} (h : p) : cond (!decide p) a b = b := by rw [decide_eq_true h]; rfl
theorem c_nneg {p : Prop} [Decidable p] {a b : Option β} (h : ¬ p) : cond (!decide p) a b = a := by rw [decide_eq_false h]; rfl
theorem c_t {a b : Option β} : cond true a b = a := rfl
theorem c_f {a b : Option β} : cond false a b = b := rfl
theorem c_not {p : Bool} {a b : Option β} : cond (!p) a b = cond p b a := by cases p <;> rfl
theorem c_and {p q : Bool} {a b : Option β} : cond p (cond q a b) b = cond (p && q) a b := by cases p <;> rfl
theorem c_andn {p q : Bool} {a b : Option β} : cond p (cond q b a) b = cond (p && !q) a b := by cases p <;> cases q <;> rfl
theorem c_nand {p q : Bool} {a b : Option β} : cond p b (cond q a b) = cond (!p && q) a b := by cases p <;> rfl
theorem c_k {γ : Type} (k : γ → Option β) (p : Bool) (x y : γ) : cond p (k x) (k y) = k (cond p x y) := by cases p <;> rfl
theorem c_kb (k : Bool → Option β) (p q : Bool) : cond p (k q) (k false) = k (p && q) := by cases p <;> rfl
theorem pair_eta {γ δ : Type} (p : γ × δ) : (p.1, p.2) = p := rfl
theorem k_eq {γ : Type} {k : γ → Option β} {x y : γ} (h : x = y) : k x = k y := by rw [h]

/-! ### Loops over the numbers from 0 on -/
/-- A walk over a list that may end early. -/
def walk {α σ ε : Type} (g : Nat → α → σ → ε ⊕ σ) : List α → Nat → σ → ε ⊕ σ
  | [], _, s => .inr s
  | x :: r, j, s =>
    match g j x s with
    | .inl e => .inl e
    | .inr s' => walk g r (j + 1) s'

def sumK {ε σ : Type} (E : ε → Option β) (K : σ → Option β) : ε ⊕ σ → Option β
  | .inl e => E e
  | .inr s => K s

theorem walk_loop {α σ ε : Type} (F : Nat → Int → σ → Option β) (g : Nat → α → σ → ε ⊕ σ) (E : ε → Option β) (K : σ → Option β) (d : α) (xs : List α)
    (h1 : ∀ (m i : Nat) s, i < xs.length → F (m + 1) (i : Int) s = sumK E (fun s' => F m ((i : Int) + 1) s') (g i (xs.getD i d) s))
    (h2 : ∀ (m : Nat) s, F (m + 1) (xs.length : Int) s = K s) :
    ∀ (r : List α) (j fuel : Nat) (s : σ), xs.drop j = r → j + r.length = xs.length → r.length < fuel → F fuel (j : Int) s = sumK E K (walk g r j s)
  | r, j, 0, s, _, _, h => absurd h (Nat.not_lt_zero _)
  | [], j, m + 1, s, hd, hj, _ => by
    simp only [List.length_nil, Nat.add_zero] at hj
    subst hj
    rw [h2]; rfl
  | x :: r, j, m + 1, s, hd, hj, hm => by
    simp only [List.length_cons] at hj hm
    have h3 : j < xs.length := by omega
    have hx : xs.getD j d = x := by
      rw [List.drop_eq_getElem_cons h3] at hd
      injection hd with hd1 hd2
      simp [List.getD, h3, hd1]
    have hr : xs.drop (j + 1) = r := by
      rw [List.drop_eq_getElem_cons h3] at hd
      injection hd with hd1 hd2
    rw [h1 m j s h3, hx, walk]
    cases hg : g j x s with
    | inl e => rfl
    | inr s' =>
      simp only [sumK]
      exact walk_loop F g E K d xs h1 h2 r (j + 1) m s' hr (by omega) (by omega)

theorem walk_loop0 {α σ ε : Type} (F : Nat → Int → σ → Option β) (g : Nat → α → σ → ε ⊕ σ) (E : ε → Option β) (K : σ → Option β) (d : α) (xs : List α) (s : σ) (n : Nat) (hn : xs.length < n)
    (h1 : ∀ (m i : Nat) s, i < xs.length → F (m + 1) (i : Int) s = sumK E (fun s' => F m ((i : Int) + 1) s') (g i (xs.getD i d) s))
    (h2 : ∀ (m : Nat) s, F (m + 1) (xs.length : Int) s = K s) : F n 0 s = sumK E K (walk g xs 0 s) :=
  walk_loop F g E K d xs h1 h2 xs 0 n s rfl (by simp) hn

/-- A loop that only looks: every element, or out. -/
theorem check_loop {α : Type} (F : Nat → Int → Option β) (p : α → Bool) (E K : Option β) (d : α) (xs : List α) (n : Nat) (hn : xs.length < n)
    (h1 : ∀ (m i : Nat), i < xs.length → F (m + 1) (i : Int) = cond (p (xs.getD i d)) (F m ((i : Int) + 1)) E)
    (h2 : ∀ (m : Nat), F (m + 1) (xs.length : Int) = K) : F n 0 = cond (xs.all p) K E := by
  have h := walk_loop0 (ε := Unit) (fun m i (_ : Unit) => F m i) (fun _ x s => cond (p x) (.inr s) (.inl ())) (fun _ => E) (fun _ => K) d xs () n hn
    (fun m i s hi => by rw [h1 m i hi]; cases p (xs.getD i d) <;> rfl) (fun m s => h2 m)
  rw [h]
  have key : ∀ (l : List α) (j : Nat), sumK (fun _ => E) (fun _ => K) (walk (ε := Unit) (fun _ x (s : Unit) => cond (p x) (.inr s) (.inl ())) l j ()) = cond (l.all p) K E := by
    intro l
    induction l with
    | nil => intro j; rfl
    | cons x l ih =>
      intro j
      simp only [walk, List.all_cons]
      cases p x with
      | true => simpa using ih (j + 1)
      | false => rfl
  exact key xs 0

/-- A loop that goes through all elements. -/
theorem fold_loop {α σ : Type} (F : Nat → Int → σ → Option β) (g : σ → α → σ) (K : σ → Option β) (d : α) (xs : List α) (s : σ) (n : Nat) (hn : xs.length < n)
    (h1 : ∀ (m i : Nat) s, i < xs.length → F (m + 1) (i : Int) s = F m ((i : Int) + 1) (g s (xs.getD i d)))
    (h2 : ∀ (m : Nat) s, F (m + 1) (xs.length : Int) s = K s) : F n 0 s = K (xs.foldl g s) := by
  have h := walk_loop0 (ε := Empty) F (fun _ x s => .inr (g s x)) (fun e => e.elim) K d xs s n hn (fun m i s hi => h1 m i s hi) h2
  rw [h]
  have key : ∀ (l : List α) (j : Nat) (s : σ), sumK (fun e : Empty => e.elim) K (walk (fun _ x s => .inr (g s x)) l j s) = K (l.foldl g s) := by
    intro l
    induction l with
    | nil => intro j s; rfl
    | cons x l ih => intro j s; exact ih (j + 1) (g s x)
  exact key xs 0 s

/-- A loop that goes through all elements, with an invariant. -/
theorem fold_loopI {α σ : Type} (I : Nat → σ → Prop) (F : Nat → Int → σ → Option β) (g : σ → α → σ) (K : σ → Option β) (d : α) (xs : List α) (s : σ) (n : Nat) (hn : xs.length < n) (h0 : I 0 s)
    (hI : ∀ (i : Nat) s, i < xs.length → I i s → I (i + 1) (g s (xs.getD i d)))
    (h1 : ∀ (m i : Nat) s, i < xs.length → I i s → F (m + 1) (i : Int) s = F m ((i : Int) + 1) (g s (xs.getD i d)))
    (h2 : ∀ (m : Nat) s, I xs.length s → F (m + 1) (xs.length : Int) s = K s) : F n 0 s = K (xs.foldl g s) := by
  have key : ∀ (r : List α) (j fuel : Nat) (s : σ), xs.drop j = r → j + r.length = xs.length → r.length < fuel → I j s → F fuel (j : Int) s = K (r.foldl g s) := by
    intro r
    induction r with
    | nil =>
      intro j fuel s hd hj hf hs
      obtain ⟨m, rfl⟩ : ∃ m, fuel = m + 1 := ⟨fuel - 1, by omega⟩
      simp only [List.length_nil, Nat.add_zero] at hj
      subst hj
      exact h2 m s hs
    | cons x r ih =>
      intro j fuel s hd hj hf hs
      obtain ⟨m, rfl⟩ : ∃ m, fuel = m + 1 := ⟨fuel - 1, by omega⟩
      simp only [List.length_cons] at hj hf
      have h3 : j < xs.length := by omega
      have hx : xs.getD j d = x := by
        rw [List.drop_eq_getElem_cons h3] at hd
        injection hd with hd1 hd2
        simp [List.getD, h3, hd1]
      have hr : xs.drop (j + 1) = r := by
        rw [List.drop_eq_getElem_cons h3] at hd
        injection hd with hd1 hd2
      rw [h1 m j s h3 hs, hx]
      have := hI j s h3 hs
      rw [hx] at this
      exact ih (j + 1) m (g s x) hr (by omega) (by omega) this
  exact key xs 0 n s rfl (by simp) hn h0

/-- A loop with an invariant and a measure. -/
theorem while_loop {σ ρ : Type} {Kt : Type → Type} (F : {β : Type} → Kt β → Nat → σ → Option β) (X : {β : Type} → Kt β → ρ → Option β) (I : σ → Prop) (μ : σ → Nat) (Q : ρ → Prop)
    (step : ∀ s, I s → (∃ s', I s' ∧ μ s' < μ s ∧ ∀ {β : Type} (k : Kt β) m, F k (m + 1) s = F k m s') ∨ (∃ r, Q r ∧ ∀ {β : Type} (k : Kt β) m, F k (m + 1) s = X k r)) :
    ∀ (N : Nat) (s : σ), I s → μ s < N → ∃ r, Q r ∧ ∀ {β : Type} (k : Kt β), F k N s = X k r := by
  intro N
  induction N with
  | zero => intro s _ h; omega
  | succ N ih =>
    intro s hI hN
    rcases step s hI with ⟨s', h1, h2, h3⟩ | ⟨r, h1, h2⟩
    · obtain ⟨r, h4, h5⟩ := ih s' h1 (by omega)
      exact ⟨r, h4, fun k => (h3 k N).trans (h5 k)⟩
    · exact ⟨r, h1, fun k => h2 k N⟩
end
end Go.Lift

/- Square matrices as lists of rows. -/
namespace Go.Lift
open Go.RowKit Go.IntWalk
noncomputable section
set_option linter.unusedVariables false
set_option linter.unusedSimpArgs false

abbrev Mat := List (List Int)
def at2 (m : Mat) (i j : Nat) : Int := (m.getD i []).getD j 0
structure Sq (n : Nat) (m : Mat) : Prop where
  len : m.length = n
  row : ∀ i, i < n → (m.getD i []).length = n
def setAt (m : Mat) (i j : Nat) (v : Int) : Mat := m.set i ((m.getD i []).set j v)

theorem getD_set_eq {α : Type} {l : List α} {i : Nat} {v d : α} (h : i < l.length) : (l.set i v).getD i d = v := by simp [List.getD, h]
theorem getD_set_ne {α : Type} {l : List α} {i j : Nat} {v d : α} (h : i ≠ j) : (l.set i v).getD j d = l.getD j d := by simp [List.getD, List.getElem?_set_ne h]

theorem Sq.setAt {n : Nat} {m : Mat} (h : Sq n m) (i j : Nat) (v : Int) : Sq n (setAt m i j v) := by
  refine ⟨by simp [Go.Lift.setAt, h.len], fun a ha => ?_⟩
  by_cases hi : i = a
  · subst hi
    unfold Go.Lift.setAt
    rw [getD_set_eq (by rw [h.len]; exact ha), List.length_set]
    exact h.row i ha
  · unfold Go.Lift.setAt
    rw [getD_set_ne hi]
    exact h.row a ha

theorem at_setAt {n : Nat} {m : Mat} (h : Sq n m) {i j : Nat} (hi : i < n) (hj : j < n) (v : Int) (a b : Nat) : at2 (setAt m i j v) a b = if a = i ∧ b = j then v else at2 m a b := by
  unfold at2 setAt
  by_cases hai : i = a
  · subst hai
    rw [getD_set_eq (by rw [h.len]; exact hi)]
    by_cases hbj : j = b
    · subst hbj
      rw [getD_set_eq (by rw [h.row i hi]; exact hj), if_pos ⟨rfl, rfl⟩]
    · rw [getD_set_ne hbj, if_neg (fun h => hbj h.2.symm)]
  · rw [getD_set_ne hai, if_neg (fun h => hai h.1.symm)]

theorem mat_ext {n : Nat} {m m' : Mat} (h : Sq n m) (h' : Sq n m') (he : ∀ i j, i < n → j < n → at2 m i j = at2 m' i j) : m = m' := by
  apply List.ext_getElem
  · rw [h.len, h'.len]
  · intro i h1 h2
    have hi : i < n := by rw [← h.len]; exact h1
    have e1 : m.getD i [] = m[i] := by rw [List.getD, List.getElem?_eq_getElem h1]; rfl
    have e2 : m'.getD i [] = m'[i] := by rw [List.getD, List.getElem?_eq_getElem h2]; rfl
    apply List.ext_getElem
    · rw [← e1, ← e2, h.row i hi, h'.row i hi]
    · intro j h3 h4
      have hj : j < n := by rw [← h.row i hi, e1]; exact h3
      have := he i j hi hj
      unfold at2 at this
      rw [e1, e2] at this
      have q1 : m[i].getD j 0 = m[i][j] := by rw [List.getD, List.getElem?_eq_getElem h3]; rfl
      have q2 : m'[i].getD j 0 = m'[i][j] := by rw [List.getD, List.getElem?_eq_getElem h4]; rfl
      rw [q1, q2] at this
      exact this

abbrev BIG : Int := 1099511627776
/-- One update of the closure. -/
def relaxW (k i j : Nat) (m : Mat) : Mat :=
  if at2 m i k = BIG ∨ at2 m k j = BIG then m
  else setAt m i j (if IntKind.i64.wrap (at2 m i k + at2 m k j) < at2 m i j then IntKind.i64.wrap (at2 m i k + at2 m k j) else at2 m i j)
def rowW (n k i : Nat) (m : Mat) : Mat := (List.range n).foldl (fun m j => relaxW k i j m) m
def roundW (n k : Nat) (m : Mat) : Mat := (List.range n).foldl (fun m i => rowW n k i m) m

theorem Sq.relaxW {n : Nat} {m : Mat} (h : Sq n m) (k i j : Nat) : Sq n (relaxW k i j m) := by
  unfold Go.Lift.relaxW
  split
  · exact h
  · exact h.setAt _ _ _

theorem fold_inv {α σ : Type} (I : σ → Prop) (g : σ → α → σ) (hg : ∀ s x, I s → I (g s x)) : ∀ (l : List α) (s : σ), I s → I (l.foldl g s)
  | [], _, h => h
  | x :: l, s, h => fold_inv I g hg l _ (hg s x h)

theorem Sq.rowW {n : Nat} {m : Mat} (h : Sq n m) (k i : Nat) : Sq n (rowW n k i m) := fold_inv (Sq n) _ (fun m j h => h.relaxW k i j) _ _ h
theorem Sq.roundW {n : Nat} {m : Mat} (h : Sq n m) (k : Nat) : Sq n (roundW n k m) := fold_inv (Sq n) _ (fun m i h => h.rowW k i) _ _ h
end
end Go.Lift

