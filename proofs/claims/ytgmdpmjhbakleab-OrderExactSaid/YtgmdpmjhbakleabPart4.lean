/- Part4: Fn1, Fn2, LBase, LMat. -/
import Derived.Test.YtgmdpmjhbakleabProg
import Derived.Test.YtgmdpmjhbakleabPart3
namespace Go.Lift
open Go.Proofs
noncomputable section
set_option maxRecDepth 100000
set_option linter.unusedVariables false

/-- pagewatch/pagewatchref40.Constraints -/
abbrev zqk4 := {β : Type} → zq4 → (Bool → (List (Int × (Int × Int))) → Option β) → Option β
def zqk5 (c : zqk4) : Spec :=
  ⟨[(true, [.data zq5])], [], [(false, [.rowh 0]), (false, [.data .bool])], [.row 42 (.prod (.int .i64) (.prod (.int .i64) (.int .i64)))], fun x k => c x.1.1.1 (fun r0 r1 => k (((), (r0, ()), ()), (r1, ())))⟩
noncomputable def ref40_Constraints_p1_code : Code := codeAt 122 (bodyOf Try.f10)
noncomputable def ref40_Constraints_p4_code : Code := codeAt 250 (bodyOf Try.f10)
noncomputable def ref40_Constraints_p5_code : Code := codeAt 506 (bodyOf Try.f10)
noncomputable def ref40_Constraints_p3_code : Code := codeAt 50 (loopBody ref40_Constraints_p4_code)
noncomputable def ref40_Constraints_p2_code : Code := codeAt 207 (loopBody ref40_Constraints_p3_code)
abbrev zqk6 (β : Type) := Bool → (List (Int × (Int × Int))) → Option β
abbrev zqk7 (β : Type) := (List (List UInt8 × Int)) → (List zq2) → (List zq0) → (List (Int × (Int × Int))) → (List (Int × (Int × Int))) → Option β
abbrev zqk8 := {β : Type} → zqk6 β → zqk7 β → Int → (List (List UInt8 × Int)) → (List zq2) → (List zq0) → (List (Int × (Int × Int))) → (List (Int × (Int × Int))) → Option β
def zqk9 : View := ⟨0, [1, 4, 5], [(false, [.ptr 0 0]), (false, [.rowh 1]), (false, [.data (.int .i64)])], [.cells 28 [.data (.slice (.prod .str (.int .i64))), .data (.slice zq3), .data (.slice zq1), .data (.slice (.prod (.int .i64) (.prod (.int .i64) (.int .i64))))], .row 42 (.prod (.int .i64) (.prod (.int .i64) (.int .i64)))]⟩
def zqka : List (AExit × View) := [(.ret, ⟨0, [2, 3], [(false, [.rowh 0]), (false, [.data .bool])], [.row 42 (.prod (.int .i64) (.prod (.int .i64) (.int .i64)))]⟩), (.exit 0, ⟨0, [1, 4], [(false, [.ptr 0 0]), (false, [.rowh 1])], [.cells 28 [.data (.slice (.prod .str (.int .i64))), .data (.slice zq3), .data (.slice zq1), .data (.slice (.prod (.int .i64) (.prod (.int .i64) (.int .i64))))], .row 42 (.prod (.int .i64) (.prod (.int .i64) (.int .i64)))]⟩)]
@[reducible] def ref40_Constraints_p1_G (p : zqk8) {β : Type} (d : zqk9.den) (ks : Outs.K β zqka) : Option β :=
  p (fun a0 a1 => ks.1 (((), (a0, ()), ()), (a1, ()))) (fun a0 a1 a2 a3 a4 => ks.2.1 (((), (), ()), ((a0, a1, a2, a3, ()), a4, ()))) d.1.2.2.1.1 d.2.1.1 d.2.1.2.1 d.2.1.2.2.1 d.2.1.2.2.2.1 d.2.2.1
abbrev zqkb (β : Type) := Int → Int → (List (List UInt8 × Int)) → (List zq2) → (List zq0) → (List (Int × (Int × Int))) → (List (Int × (Int × Int))) → Option β
abbrev zqkc := {β : Type} → zqkb β → Int → Int → Int → Int → Int → (List (List UInt8 × Int)) → (List zq2) → (List zq0) → (List (Int × (Int × Int))) → (List (Int × (Int × Int))) → Int → Int → (List UInt8) → Option β
def zqkd : View := ⟨0, [1, 4, 8, 9, 10, 12, 13, 14], [(false, [.ptr 0 0]), (false, [.rowh 1]), (false, [.data (.int .i64)]), (false, [.data (.int .i64)]), (false, [.ptr 2 0]), (false, [.data (.int .i64)]), (false, [.data (.int .i64)]), (false, [.data (.int .i64)])], [.cells 28 [.data (.slice (.prod .str (.int .i64))), .data (.slice zq3), .data (.slice zq1), .data (.slice (.prod (.int .i64) (.prod (.int .i64) (.int .i64))))], .row 42 (.prod (.int .i64) (.prod (.int .i64) (.int .i64))), .cells 76 [.data (.int .i64), .data (.int .i64), .data .str]]⟩
def zqke : List (AExit × View) := [(.normal, ⟨0, [1, 4, 8, 9], [(false, [.ptr 0 0]), (false, [.rowh 1]), (false, [.data (.int .i64)]), (false, [.data (.int .i64)])], [.cells 28 [.data (.slice (.prod .str (.int .i64))), .data (.slice zq3), .data (.slice zq1), .data (.slice (.prod (.int .i64) (.prod (.int .i64) (.int .i64))))], .row 42 (.prod (.int .i64) (.prod (.int .i64) (.int .i64)))]⟩)]
@[reducible] def ref40_Constraints_p2_G (p : zqkc) {β : Type} (d : zqkd.den) (ks : Outs.K β zqke) : Option β :=
  p (fun a0 a1 a2 a3 a4 a5 a6 => ks.1 (((), (), (a0, ()), (a1, ()), ()), ((a2, a3, a4, a5, ()), a6, ()))) d.1.2.2.1.1 d.1.2.2.2.1.1 d.1.2.2.2.2.2.1.1 d.1.2.2.2.2.2.2.1.1 d.1.2.2.2.2.2.2.2.1.1 d.2.1.1 d.2.1.2.1 d.2.1.2.2.1 d.2.1.2.2.2.1 d.2.2.1 d.2.2.2.1.1 d.2.2.2.1.2.1 d.2.2.2.1.2.2.1
abbrev zqkf (β : Type) := Int → (List (List UInt8 × Int)) → (List zq2) → (List zq0) → (List (Int × (Int × Int))) → (List (Int × (Int × Int))) → Option β
abbrev zqkg := {β : Type} → zqkf β → Int → Int → (List (List UInt8 × Int)) → (List zq2) → (List zq0) → (List (Int × (Int × Int))) → (List (Int × (Int × Int))) → Option β
def zqkh : View := ⟨0, [1, 4, 8, 9], [(false, [.ptr 0 0]), (false, [.rowh 1]), (false, [.data (.int .i64)]), (false, [.data (.int .i64)])], [.cells 28 [.data (.slice (.prod .str (.int .i64))), .data (.slice zq3), .data (.slice zq1), .data (.slice (.prod (.int .i64) (.prod (.int .i64) (.int .i64))))], .row 42 (.prod (.int .i64) (.prod (.int .i64) (.int .i64)))]⟩
def zqki : List (AExit × View) := [(.exit 4, ⟨0, [1, 4, 8], [(false, [.ptr 0 0]), (false, [.rowh 1]), (false, [.data (.int .i64)])], [.cells 28 [.data (.slice (.prod .str (.int .i64))), .data (.slice zq3), .data (.slice zq1), .data (.slice (.prod (.int .i64) (.prod (.int .i64) (.int .i64))))], .row 42 (.prod (.int .i64) (.prod (.int .i64) (.int .i64)))]⟩)]
@[reducible] def ref40_Constraints_p3_G (p : zqkg) {β : Type} (d : zqkh.den) (ks : Outs.K β zqki) : Option β :=
  p (fun a0 a1 a2 a3 a4 a5 => ks.1 (((), (), (a0, ()), ()), ((a1, a2, a3, a4, ()), a5, ()))) d.1.2.2.1.1 d.1.2.2.2.1.1 d.2.1.1 d.2.1.2.1 d.2.1.2.2.1 d.2.1.2.2.2.1 d.2.2.1
abbrev zqkj (β : Type) := (List (List UInt8 × Int)) → (List zq2) → (List zq0) → (List (Int × (Int × Int))) → (List (Int × (Int × Int))) → Option β
abbrev zqkk := {β : Type} → zqkj β → Int → (List (List UInt8 × Int)) → (List zq2) → (List zq0) → (List (Int × (Int × Int))) → (List (Int × (Int × Int))) → Option β
def zqkl : View := ⟨0, [1, 4, 8], [(false, [.ptr 0 0]), (false, [.rowh 1]), (false, [.data (.int .i64)])], [.cells 28 [.data (.slice (.prod .str (.int .i64))), .data (.slice zq3), .data (.slice zq1), .data (.slice (.prod (.int .i64) (.prod (.int .i64) (.int .i64))))], .row 42 (.prod (.int .i64) (.prod (.int .i64) (.int .i64)))]⟩
def zqkm : List (AExit × View) := [(.exit 2, ⟨0, [1, 4], [(false, [.ptr 0 0]), (false, [.rowh 1])], [.cells 28 [.data (.slice (.prod .str (.int .i64))), .data (.slice zq3), .data (.slice zq1), .data (.slice (.prod (.int .i64) (.prod (.int .i64) (.int .i64))))], .row 42 (.prod (.int .i64) (.prod (.int .i64) (.int .i64)))]⟩)]
@[reducible] def ref40_Constraints_p4_G (p : zqkk) {β : Type} (d : zqkl.den) (ks : Outs.K β zqkm) : Option β :=
  p (fun a0 a1 a2 a3 a4 => ks.1 (((), (), ()), ((a0, a1, a2, a3, ()), a4, ()))) d.1.2.2.1.1 d.2.1.1 d.2.1.2.1 d.2.1.2.2.1 d.2.1.2.2.2.1 d.2.2.1
abbrev zqkn (β : Type) := (List (Int × (Int × Int))) → Option β
abbrev zqko := {β : Type} → zqkn β → Int → (List (List UInt8 × Int)) → (List zq2) → (List zq0) → (List (Int × (Int × Int))) → (List (Int × (Int × Int))) → Option β
def zqkp : View := ⟨0, [1, 4, 17], [(false, [.ptr 0 0]), (false, [.rowh 1]), (false, [.data (.int .i64)])], [.cells 28 [.data (.slice (.prod .str (.int .i64))), .data (.slice zq3), .data (.slice zq1), .data (.slice (.prod (.int .i64) (.prod (.int .i64) (.int .i64))))], .row 42 (.prod (.int .i64) (.prod (.int .i64) (.int .i64)))]⟩
def zqkq : List (AExit × View) := [(.exit 6, ⟨0, [4], [(false, [.rowh 0])], [.row 42 (.prod (.int .i64) (.prod (.int .i64) (.int .i64)))]⟩)]
@[reducible] def ref40_Constraints_p5_G (p : zqko) {β : Type} (d : zqkp.den) (ks : Outs.K β zqkq) : Option β :=
  p (fun a0 => ks.1 (((), ()), (a0, ()))) d.1.2.2.1.1 d.2.1.1 d.2.1.2.1 d.2.1.2.2.1 d.2.1.2.2.2.1 d.2.2.1
section
variable (c_ref38_Elapsed : zqcr) (c_ref38_Valid : zqb8) (c_ref38_When : zqjf)
@[reducible] def ref40_Constraints_X : Ctx := ⟨look tab, pick1 [(38, .spec (zqcs c_ref38_Elapsed)), (36, .spec (zqb9 c_ref38_Valid)), (37, .spec (zqjg c_ref38_When))], false⟩
def zqkr {β : Type} (rec : Int → (List (List UInt8 × Int)) → (List zq2) → (List zq0) → (List (Int × (Int × Int))) → (List (Int × (Int × Int))) → Option β) (k1 : zqk6 β) (k2 : zqk7 β) (i_ : Int) (r_ : List (List UInt8 × Int)) (r_2 : List zq2) (r_3 : List zq0) (r_4 : List (Int × (Int × Int))) (out : List (Int × (Int × Int))) : Option β :=
  cond (decide (i_ < (List.length r_3 : Int)))
  (cond (decide (0 ≤ i_) && decide (i_ < (List.length r_3 : Int)))
  (let e : zq0 := List.getD r_3 (Int.toNat i_) ((0 : Int), ((0 : Int), ([] : List UInt8)));
  cond (decide (0 ≤ i_) && decide (i_ < (List.length r_3 : Int)))
  (let e2 : zq0 := List.getD r_3 (Int.toNat i_) ((0 : Int), ((0 : Int), ([] : List UInt8)));
  c_ref38_When (r_, (r_2, (r_3, r_4))) e.1 e2.2.1 (fun (rWhen : (Int × Int)) (rWhen2 : Bool) =>
  cond (!rWhen2)
  (k1 false ([] : List (Int × (Int × Int))))
  (let l : List (Int × (Int × Int)) := ([((0 : Int), ((IntKind.i64.wrap (i_ + (1 : Int))), rWhen.2)), ((IntKind.i64.wrap (i_ + (1 : Int))), ((0 : Int), (IntKind.i64.wrap (0 - rWhen.1))))] : List (Int × (Int × Int)));
  cond (decide ((List.length out + List.length l) * 24 ≤ roomMax))
  (let l2 : List (Int × (Int × Int)) := (out ++ l);
  let i_2 : Int := (IntKind.i64.wrap (i_ + (1 : Int)));
  rec i_2 r_ r_2 r_3 r_4 l2)
  none)))
  none)
  none)
  (k2 r_ r_2 r_3 r_4 out)
def zqks {β : Type} : Nat → zqk6 β → zqk7 β → Int → (List (List UInt8 × Int)) → (List zq2) → (List zq0) → (List (Int × (Int × Int))) → (List (Int × (Int × Int))) → Option β
  | 0 => fun _ _ _ _ _ _ _ _ => none
  | i + 1 => fun k1 k2 i_ r_ r_2 r_3 r_4 out => zqkr c_ref38_When (zqks i k1 k2) k1 k2 i_ r_ r_2 r_3 r_4 out
theorem zqkt (hΓ : ΓOk Try.prog (ref40_Constraints_X c_ref38_Elapsed c_ref38_Valid c_ref38_When).Γ) (i : Nat) : PieceOk Try.prog 164 0 ref40_Constraints_p1_code zqk9 zqka (ref40_Constraints_p1_G (zqks c_ref38_When i)) := by
  rw [show ref40_Constraints_p1_code = .loop (loopBody ref40_Constraints_p1_code) by kernel_rfl]
  exact piece_loop (X := (ref40_Constraints_X c_ref38_Elapsed c_ref38_Valid c_ref38_When)) (p := 1) (Λ := pick1 []) (G := fun i => @fun β d ks => ref40_Constraints_p1_G (zqks c_ref38_When i) d ks) mixed tab_ok hΓ rfl (by kernel_rfl) CutsOk_nil (fun _ _ => rfl) (fun i => @fun β d ks r h => Eq.trans (b := ref40_Constraints_p1_G (zqks c_ref38_When (i + 1)) d ks) (by kernel_rfl) h) i
def zqku {β : Type} (k1 : zqkb β) (i_ : Int) (j : Int) (a : Int) (b : Int) (d : Int) (r_ : List (List UInt8 × Int)) (r_2 : List zq2) (r_3 : List zq0) (r_4 : List (Int × (Int × Int))) (out : List (Int × (Int × Int))) (x : Int) (x2 : Int) (x3 : List UInt8) : Option β :=
  cond (decide (0 ≤ x) && decide (x < (List.length r_ : Int)))
  (let e : (List UInt8 × Int) := List.getD r_ (Int.toNat x) (([] : List UInt8), (0 : Int));
  c_ref38_Elapsed e.2 d (fun (rElapsed : Int) (rElapsed2 : Int) =>
  let l : List (Int × (Int × Int)) := ([(a, (b, rElapsed2)), (b, (a, (IntKind.i64.wrap (0 - rElapsed))))] : List (Int × (Int × Int)));
  cond (decide ((List.length out + List.length l) * 24 ≤ roomMax))
  (let l2 : List (Int × (Int × Int)) := (out ++ l);
  k1 i_ j r_ r_2 r_3 r_4 l2)
  none))
  none
def zqkv {β : Type} (k1 : zqkb β) (i_ : Int) (j : Int) (a : Int) (b : Int) (d : Int) (r_ : List (List UInt8 × Int)) (r_2 : List zq2) (r_3 : List zq0) (r_4 : List (Int × (Int × Int))) (out : List (Int × (Int × Int))) (x : Int) (x2 : Int) (x3 : List UInt8) : Option β := zqku c_ref38_Elapsed k1 i_ j a b d r_ r_2 r_3 r_4 out x x2 x3
theorem zqkw (hΓ : ΓOk Try.prog (ref40_Constraints_X c_ref38_Elapsed c_ref38_Valid c_ref38_When).Γ) : PieceOk Try.prog 164 0 ref40_Constraints_p2_code zqkd zqke (ref40_Constraints_p2_G (zqkv c_ref38_Elapsed)) :=
  piece_exec (X := (ref40_Constraints_X c_ref38_Elapsed c_ref38_Valid c_ref38_When)) (p := 207) (Λ := pick1 []) mixed tab_ok hΓ (by kernel_rfl) CutsOk_nil (fun d ks r h => Eq.trans (b := ref40_Constraints_p2_G (zqkv c_ref38_Elapsed) d ks) (by kernel_rfl) h)
def zqkx (p2 : zqkc) {β : Type} (rec : Int → Int → (List (List UInt8 × Int)) → (List zq2) → (List zq0) → (List (Int × (Int × Int))) → (List (Int × (Int × Int))) → Option β) (k1 : zqkf β) (i_ : Int) (j : Int) (r_ : List (List UInt8 × Int)) (r_2 : List zq2) (r_3 : List zq0) (r_4 : List (Int × (Int × Int))) (out : List (Int × (Int × Int))) : Option β :=
  cond (decide (j < (List.length r_3 : Int)))
  (cond (decide (0 ≤ i_) && decide (i_ < (List.length r_3 : Int)))
  (let e : zq0 := List.getD r_3 (Int.toNat i_) ((0 : Int), ((0 : Int), ([] : List UInt8)));
  cond (decide (0 ≤ j) && decide (j < (List.length r_3 : Int)))
  (let e2 : zq0 := List.getD r_3 (Int.toNat j) ((0 : Int), ((0 : Int), ([] : List UInt8)));
  cond (!decide (e.1 = e2.1))
  (let j2 : Int := (IntKind.i64.wrap (j + (1 : Int)));
  rec i_ j2 r_ r_2 r_3 r_4 out)
  (let a : Int := (IntKind.i64.wrap (i_ + (1 : Int)));
  let b : Int := (IntKind.i64.wrap (j + (1 : Int)));
  let d : Int := (IntKind.i64.wrap (e2.2.1 - e.2.1));
  cond (decide (d < (0 : Int)))
  (let d2 : Int := (IntKind.i64.wrap (0 - d));
  p2 (fun (i_2 : Int) (j2 : Int) (r_5 : List (List UInt8 × Int)) (r_6 : List zq2) (r_7 : List zq0) (r_8 : List (Int × (Int × Int))) (out2 : List (Int × (Int × Int))) =>
  let j3 : Int := (IntKind.i64.wrap (j2 + (1 : Int)));
  rec i_2 j3 r_5 r_6 r_7 r_8 out2) i_ j b a d2 r_ r_2 r_3 r_4 out e.1 e.2.1 e.2.2)
  (p2 (fun (i_2 : Int) (j2 : Int) (r_5 : List (List UInt8 × Int)) (r_6 : List zq2) (r_7 : List zq0) (r_8 : List (Int × (Int × Int))) (out2 : List (Int × (Int × Int))) =>
  let j3 : Int := (IntKind.i64.wrap (j2 + (1 : Int)));
  rec i_2 j3 r_5 r_6 r_7 r_8 out2) i_ j a b d r_ r_2 r_3 r_4 out e.1 e.2.1 e.2.2)))
  none)
  none)
  (k1 i_ r_ r_2 r_3 r_4 out)
def zqky (p2 : zqkc) {β : Type} : Nat → zqkf β → Int → Int → (List (List UInt8 × Int)) → (List zq2) → (List zq0) → (List (Int × (Int × Int))) → (List (Int × (Int × Int))) → Option β
  | 0 => fun _ _ _ _ _ _ _ _ => none
  | i + 1 => fun k1 i_ j r_ r_2 r_3 r_4 out => zqkx p2 (zqky p2 i k1) k1 i_ j r_ r_2 r_3 r_4 out
theorem zqkz (hΓ : ΓOk Try.prog (ref40_Constraints_X c_ref38_Elapsed c_ref38_Valid c_ref38_When).Γ) (p2 : zqkc) (hp2 : PieceOk Try.prog 164 0 ref40_Constraints_p2_code zqkd zqke (ref40_Constraints_p2_G p2)) (i : Nat) : PieceOk Try.prog 164 0 ref40_Constraints_p3_code zqkh zqki (ref40_Constraints_p3_G (zqky p2 i)) := by
  rw [show ref40_Constraints_p3_code = .loop (loopBody ref40_Constraints_p3_code) by kernel_rfl]
  exact piece_loop (X := (ref40_Constraints_X c_ref38_Elapsed c_ref38_Valid c_ref38_When)) (p := 1) (Λ := pick1 [(207, pieceCut zqkd zqke (ref40_Constraints_p2_G p2))]) (G := fun i => @fun β d ks => ref40_Constraints_p3_G (zqky p2 i) d ks) mixed tab_ok hΓ rfl (by kernel_rfl) (CutsOk_cons (q := 207) (c' := ref40_Constraints_p2_code) (by kernel_rfl) rfl hp2 CutsOk_nil) (fun _ _ => rfl) (fun i => @fun β d ks r h => Eq.trans (b := ref40_Constraints_p3_G (zqky p2 (i + 1)) d ks) (by kernel_rfl) h) i
def zql0 (p3 : zqkg) {β : Type} (rec : Int → (List (List UInt8 × Int)) → (List zq2) → (List zq0) → (List (Int × (Int × Int))) → (List (Int × (Int × Int))) → Option β) (k1 : zqkj β) (i_ : Int) (r_ : List (List UInt8 × Int)) (r_2 : List zq2) (r_3 : List zq0) (r_4 : List (Int × (Int × Int))) (out : List (Int × (Int × Int))) : Option β :=
  cond (decide (i_ < (List.length r_3 : Int)))
  (let j : Int := (IntKind.i64.wrap (i_ + (1 : Int)));
  p3 (fun (i_2 : Int) (r_5 : List (List UInt8 × Int)) (r_6 : List zq2) (r_7 : List zq0) (r_8 : List (Int × (Int × Int))) (out2 : List (Int × (Int × Int))) =>
  let i_3 : Int := (IntKind.i64.wrap (i_2 + (1 : Int)));
  rec i_3 r_5 r_6 r_7 r_8 out2) i_ j r_ r_2 r_3 r_4 out)
  (k1 r_ r_2 r_3 r_4 out)
def zql1 (p3 : zqkg) {β : Type} : Nat → zqkj β → Int → (List (List UInt8 × Int)) → (List zq2) → (List zq0) → (List (Int × (Int × Int))) → (List (Int × (Int × Int))) → Option β
  | 0 => fun _ _ _ _ _ _ _ => none
  | i + 1 => fun k1 i_ r_ r_2 r_3 r_4 out => zql0 p3 (zql1 p3 i k1) k1 i_ r_ r_2 r_3 r_4 out
theorem zql2 (hΓ : ΓOk Try.prog (ref40_Constraints_X c_ref38_Elapsed c_ref38_Valid c_ref38_When).Γ) (p3 : zqkg) (hp3 : PieceOk Try.prog 164 0 ref40_Constraints_p3_code zqkh zqki (ref40_Constraints_p3_G p3)) (i : Nat) : PieceOk Try.prog 164 0 ref40_Constraints_p4_code zqkl zqkm (ref40_Constraints_p4_G (zql1 p3 i)) := by
  rw [show ref40_Constraints_p4_code = .loop (loopBody ref40_Constraints_p4_code) by kernel_rfl]
  exact piece_loop (X := (ref40_Constraints_X c_ref38_Elapsed c_ref38_Valid c_ref38_When)) (p := 1) (Λ := pick1 [(50, pieceCut zqkh zqki (ref40_Constraints_p3_G p3))]) (G := fun i => @fun β d ks => ref40_Constraints_p4_G (zql1 p3 i) d ks) mixed tab_ok hΓ rfl (by kernel_rfl) (CutsOk_cons (q := 50) (c' := ref40_Constraints_p3_code) (by kernel_rfl) rfl hp3 CutsOk_nil) (fun _ _ => rfl) (fun i => @fun β d ks r h => Eq.trans (b := ref40_Constraints_p4_G (zql1 p3 (i + 1)) d ks) (by kernel_rfl) h) i
def zql3 {β : Type} (rec : Int → (List (List UInt8 × Int)) → (List zq2) → (List zq0) → (List (Int × (Int × Int))) → (List (Int × (Int × Int))) → Option β) (k1 : zqkn β) (i_ : Int) (r_ : List (List UInt8 × Int)) (r_2 : List zq2) (r_3 : List zq0) (r_4 : List (Int × (Int × Int))) (out : List (Int × (Int × Int))) : Option β :=
  cond (decide (i_ < (List.length r_4 : Int)))
  (cond (decide (0 ≤ i_) && decide (i_ < (List.length r_4 : Int)))
  (let e : (Int × (Int × Int)) := List.getD r_4 (Int.toNat i_) ((0 : Int), ((0 : Int), (0 : Int)));
  cond (decide (0 ≤ i_) && decide (i_ < (List.length r_4 : Int)))
  (let e2 : (Int × (Int × Int)) := List.getD r_4 (Int.toNat i_) ((0 : Int), ((0 : Int), (0 : Int)));
  cond (decide (0 ≤ i_) && decide (i_ < (List.length r_4 : Int)))
  (let e3 : (Int × (Int × Int)) := List.getD r_4 (Int.toNat i_) ((0 : Int), ((0 : Int), (0 : Int)));
  let l : List (Int × (Int × Int)) := ([((IntKind.i64.wrap (e.2.1 + (1 : Int))), ((IntKind.i64.wrap (e2.1 + (1 : Int))), (IntKind.i64.wrap (0 - e3.2.2))))] : List (Int × (Int × Int)));
  cond (decide ((List.length out + List.length l) * 24 ≤ roomMax))
  (let l2 : List (Int × (Int × Int)) := (out ++ l);
  let i_2 : Int := (IntKind.i64.wrap (i_ + (1 : Int)));
  rec i_2 r_ r_2 r_3 r_4 l2)
  none)
  none)
  none)
  none)
  (k1 out)
def zql4 {β : Type} : Nat → zqkn β → Int → (List (List UInt8 × Int)) → (List zq2) → (List zq0) → (List (Int × (Int × Int))) → (List (Int × (Int × Int))) → Option β
  | 0 => fun _ _ _ _ _ _ _ => none
  | i + 1 => fun k1 i_ r_ r_2 r_3 r_4 out => zql3 (zql4 i k1) k1 i_ r_ r_2 r_3 r_4 out
theorem zql5 (hΓ : ΓOk Try.prog (ref40_Constraints_X c_ref38_Elapsed c_ref38_Valid c_ref38_When).Γ) (i : Nat) : PieceOk Try.prog 164 0 ref40_Constraints_p5_code zqkp zqkq (ref40_Constraints_p5_G (zql4 i)) := by
  rw [show ref40_Constraints_p5_code = .loop (loopBody ref40_Constraints_p5_code) by kernel_rfl]
  exact piece_loop (X := (ref40_Constraints_X c_ref38_Elapsed c_ref38_Valid c_ref38_When)) (p := 1) (Λ := pick1 []) (G := fun i => @fun β d ks => ref40_Constraints_p5_G (zql4 i) d ks) mixed tab_ok hΓ rfl (by kernel_rfl) CutsOk_nil (fun _ _ => rfl) (fun i => @fun β d ks r h => Eq.trans (b := ref40_Constraints_p5_G (zql4 (i + 1)) d ks) (by kernel_rfl) h) i
def zql6 (p1 : zqk8) (p4 : zqkk) (p5 : zqko) {β : Type} (r_ : zq4) (k : (Bool → (List (Int × (Int × Int))) → Option β)) : Option β :=
  c_ref38_Valid r_ (fun (rValid : Bool) =>
  cond (!rValid)
  (k false ([] : List (Int × (Int × Int))))
  (p1 (fun (t3 : Bool) (t2 : List (Int × (Int × Int))) =>
  k t3 t2) (fun (r_2 : List (List UInt8 × Int)) (r_3 : List zq2) (r_4 : List zq0) (r_5 : List (Int × (Int × Int))) (out : List (Int × (Int × Int))) =>
  p4 (fun (r_6 : List (List UInt8 × Int)) (r_7 : List zq2) (r_8 : List zq0) (r_9 : List (Int × (Int × Int))) (out2 : List (Int × (Int × Int))) =>
  p5 (fun (out3 : List (Int × (Int × Int))) =>
  k true out3) (0 : Int) r_6 r_7 r_8 r_9 out2) (0 : Int) r_2 r_3 r_4 r_5 out) (0 : Int) r_.1 r_.2.1 r_.2.2.1 r_.2.2.2 ([] : List (Int × (Int × Int)))))
theorem zql7 (hΓ : ΓOk Try.prog (ref40_Constraints_X c_ref38_Elapsed c_ref38_Valid c_ref38_When).Γ) (p1 : zqk8) (p4 : zqkk) (p5 : zqko) (hp1 : PieceOk Try.prog 164 0 ref40_Constraints_p1_code zqk9 zqka (ref40_Constraints_p1_G p1)) (hp4 : PieceOk Try.prog 164 0 ref40_Constraints_p4_code zqkl zqkm (ref40_Constraints_p4_G p4)) (hp5 : PieceOk Try.prog 164 0 ref40_Constraints_p5_code zqkp zqkq (ref40_Constraints_p5_G p5)) : SpecOk Try.prog 10 (zqk5 (zql6 c_ref38_Valid p1 p4 p5)) :=
  spec_exec (X := (ref40_Constraints_X c_ref38_Elapsed c_ref38_Valid c_ref38_When)) (Λ := pick1 [(122, pieceCut zqk9 zqka (ref40_Constraints_p1_G p1)), (250, pieceCut zqkl zqkm (ref40_Constraints_p4_G p4)), (506, pieceCut zqkp zqkq (ref40_Constraints_p5_G p5))]) (rs := [.tmp 2, .tmp 3]) (c := bodyOf Try.f10) mixed tab_ok hΓ Try.func10 (by kernel_rfl) (by kernel_rfl) (by kernel_rfl) (by kernel_rfl) (CutsOk_cons (q := 122) (c' := ref40_Constraints_p1_code) (by kernel_rfl) rfl hp1 (CutsOk_cons (q := 250) (c' := ref40_Constraints_p4_code) (by kernel_rfl) rfl hp4 (CutsOk_cons (q := 506) (c' := ref40_Constraints_p5_code) (by kernel_rfl) rfl hp5 CutsOk_nil))) (fun x k r h => Eq.trans (b := (zqk5 (zql6 c_ref38_Valid p1 p4 p5)).run x k) (by kernel_rfl) h)
end
theorem zql8Γ : ΓOk Try.prog (pick1 [(38, .spec (zqcs zqcw)), (36, .spec (zqb9 zqcp)), (37, .spec (zqjg zqjv))]) := (ΓOk_cons zqcx (ΓOk_cons zqcq (ΓOk_cons zqjw ΓOk_nil)))
def zql9 (m : Nat) : zqk8 := zqks zqjv m
theorem zqla {β : Type} (i : Nat) (k1 k2 i_ r_ r_2 r_3 r_4 out) : (zql9 (i + 1) k1 k2 i_ r_ r_2 r_3 r_4 out : Option β) = zqkr zqjv (zql9 i k1 k2) k1 k2 i_ r_ r_2 r_3 r_4 out := rfl
def zqlb : zqk8 := zql9 fuel
theorem zqlc : PieceOk Try.prog 164 0 ref40_Constraints_p1_code zqk9 zqka (ref40_Constraints_p1_G zqlb) := zqkt zqcw zqcp zqjv zql8Γ fuel
def zqld : zqkc := zqkv zqcw
theorem zqle : PieceOk Try.prog 164 0 ref40_Constraints_p2_code zqkd zqke (ref40_Constraints_p2_G zqld) := zqkw zqcw zqcp zqjv zql8Γ
def zqlf (m : Nat) : zqkg := zqky zqld m
theorem zqlg {β : Type} (i : Nat) (k1 i_ j r_ r_2 r_3 r_4 out) : (zqlf (i + 1) k1 i_ j r_ r_2 r_3 r_4 out : Option β) = zqkx zqld (zqlf i k1) k1 i_ j r_ r_2 r_3 r_4 out := rfl
def zqlh : zqkg := zqlf fuel
theorem zqli : PieceOk Try.prog 164 0 ref40_Constraints_p3_code zqkh zqki (ref40_Constraints_p3_G zqlh) := zqkz zqcw zqcp zqjv zql8Γ zqld zqle fuel
def zqlj (m : Nat) : zqkk := zql1 zqlh m
theorem zqlk {β : Type} (i : Nat) (k1 i_ r_ r_2 r_3 r_4 out) : (zqlj (i + 1) k1 i_ r_ r_2 r_3 r_4 out : Option β) = zql0 zqlh (zqlj i k1) k1 i_ r_ r_2 r_3 r_4 out := rfl
def zqll : zqkk := zqlj fuel
theorem zqlm : PieceOk Try.prog 164 0 ref40_Constraints_p4_code zqkl zqkm (ref40_Constraints_p4_G zqll) := zql2 zqcw zqcp zqjv zql8Γ zqlh zqli fuel
def zqln (m : Nat) : zqko := zql4 m
theorem zqlo {β : Type} (i : Nat) (k1 i_ r_ r_2 r_3 r_4 out) : (zqln (i + 1) k1 i_ r_ r_2 r_3 r_4 out : Option β) = zql3 (zqln i k1) k1 i_ r_ r_2 r_3 r_4 out := rfl
def zqlp : zqko := zqln fuel
theorem zqlq : PieceOk Try.prog 164 0 ref40_Constraints_p5_code zqkp zqkq (ref40_Constraints_p5_G zqlp) := zql5 zqcw zqcp zqjv zql8Γ fuel
def zqlr : zqk4 := zql6 zqcp zqlb zqll zqlp
theorem zqls : SpecOk Try.prog 10 (zqk5 zqlr) := zql7 zqcw zqcp zqjv zql8Γ zqlb zqll zqlp zqlc zqlm zqlq

/-- pagewatch/clock.When -/
abbrev zqlt := {β : Type} → zq4 → Int → Int → ((Int × Int) → Bool → Option β) → Option β
def zqlu (c : zqlt) : Spec :=
  ⟨[(true, [.data zq5]), (false, [.data (.int .i64)]), (false, [.data (.int .i64)])], [], [(true, [.data (.prod (.int .i64) (.int .i64))]), (false, [.data .bool])], [], fun x k => c x.1.1.1 x.1.2.1.1 x.1.2.2.1.1 (fun r0 r1 => k (((r0, ()), (r1, ()), ()), ()))⟩
noncomputable def clock_When_p1_code : Code := codeAt 122 (bodyOf Try.f34)
abbrev zqlv (β : Type) := Int → Int → Int → Int → Option β
abbrev zqlw := {β : Type} → zqlv β → Int → Int → (List zq2) → Int → Int → (List (List UInt8 × Int)) → (List zq2) → (List zq0) → (List (Int × (Int × Int))) → Int → Int → Int → Int → Option β
def zqlx : View := ⟨0, [1, 2, 3, 6, 8, 31, 32, 33], [(false, [.data (.int .i64)]), (false, [.data (.int .i64)]), (false, [.ptr 0 0]), (false, [.ptr 1 0]), (false, [.ptr 2 0]), (false, [.data (.slice zq3)]), (false, [.data (.int .i64)]), (false, [.data (.int .i64)])], [.cells 28 [.data (.slice (.prod .str (.int .i64))), .data (.slice zq3), .data (.slice zq1), .data (.slice (.prod (.int .i64) (.prod (.int .i64) (.int .i64))))], .cells 56 [.data (.int .i64), .data (.int .i64)], .cells 56 [.data (.int .i64), .data (.int .i64)]]⟩
def zqly : List (AExit × View) := [(.exit 0, ⟨0, [6, 8], [(false, [.ptr 0 0]), (false, [.ptr 1 0])], [.cells 56 [.data (.int .i64), .data (.int .i64)], .cells 56 [.data (.int .i64), .data (.int .i64)]]⟩)]
@[reducible] def clock_When_p1_G (p : zqlw) {β : Type} (d : zqlx.den) (ks : Outs.K β zqly) : Option β :=
  p (fun a0 a1 a2 a3 => ks.1 (((), (), ()), ((a0, a1, ()), (a2, a3, ()), ()))) d.1.1.1 d.1.2.1.1 d.1.2.2.2.2.2.1.1 d.1.2.2.2.2.2.2.1.1 d.1.2.2.2.2.2.2.2.1.1 d.2.1.1 d.2.1.2.1 d.2.1.2.2.1 d.2.1.2.2.2.1 d.2.2.1.1 d.2.2.1.2.1 d.2.2.2.1.1 d.2.2.2.1.2.1
section
variable (c_clock_Empty : zq5l) (c_clock_From : zqjx) (c_clock_Meet : zq5e) (c_clock_Valid : zqhg) (c_clock_in : zq50) (c_clock_instant : zq57)
@[reducible] def clock_When_X : Ctx := ⟨look tab, pick1 [(61, .spec (zq5m c_clock_Empty)), (60, .spec (zqjy c_clock_From)), (59, .spec (zq5f c_clock_Meet)), (33, .spec (zqhh c_clock_Valid)), (56, .spec (zq51 c_clock_in)), (58, .spec (zq58 c_clock_instant))], false⟩
def zqlz {β : Type} (rec : Int → Int → (List zq2) → Int → Int → (List (List UInt8 × Int)) → (List zq2) → (List zq0) → (List (Int × (Int × Int))) → Int → Int → Int → Int → Option β) (k1 : zqlv β) (host : Int) (clock : Int) (t31 : List zq2) (t32 : Int) (t33 : Int) (r_ : List (List UInt8 × Int)) (r_2 : List zq2) (r_3 : List zq0) (r_4 : List (Int × (Int × Int))) (t6 : Int) (t62 : Int) (out : Int) (out2 : Int) : Option β :=
  cond (decide (t33 < t32))
  (cond (decide (0 ≤ t33) && decide (t33 < (List.length t31 : Int)))
  (let e : zq2 := List.getD t31 (Int.toNat t33) ((0 : Int), ((0 : Int), ((0 : Int), (0 : Int))));
  cond (decide (e.1 = host))
  (cond (decide (0 ≤ host) && decide (host < (List.length r_ : Int)))
  (let e2 : (List UInt8 × Int) := List.getD r_ (Int.toNat host) (([] : List UInt8), (0 : Int));
  c_clock_From e2 e clock (fun (rFrom : (Int × Int)) =>
  c_clock_Meet (out, out2) rFrom (fun (rMeet : (Int × Int)) =>
  rec host clock t31 t32 (IntKind.i64.wrap (t33 + (1 : Int))) r_ r_2 r_3 r_4 t6 t62 rMeet.1 rMeet.2)))
  none)
  (rec host clock t31 t32 (IntKind.i64.wrap (t33 + (1 : Int))) r_ r_2 r_3 r_4 t6 t62 out out2))
  none)
  (k1 t6 t62 out out2)
def zqm0 {β : Type} : Nat → zqlv β → Int → Int → (List zq2) → Int → Int → (List (List UInt8 × Int)) → (List zq2) → (List zq0) → (List (Int × (Int × Int))) → Int → Int → Int → Int → Option β
  | 0 => fun _ _ _ _ _ _ _ _ _ _ _ _ _ _ => none
  | i + 1 => fun k1 host clock t31 t32 t33 r_ r_2 r_3 r_4 t6 t62 out out2 => zqlz c_clock_From c_clock_Meet (zqm0 i k1) k1 host clock t31 t32 t33 r_ r_2 r_3 r_4 t6 t62 out out2
theorem zqm1 (hΓ : ΓOk Try.prog (clock_When_X c_clock_Empty c_clock_From c_clock_Meet c_clock_Valid c_clock_in c_clock_instant).Γ) (i : Nat) : PieceOk Try.prog 56 0 clock_When_p1_code zqlx zqly (clock_When_p1_G (zqm0 c_clock_From c_clock_Meet i)) := by
  rw [show clock_When_p1_code = .loop (loopBody clock_When_p1_code) by kernel_rfl]
  exact piece_loop (X := (clock_When_X c_clock_Empty c_clock_From c_clock_Meet c_clock_Valid c_clock_in c_clock_instant)) (p := 1) (Λ := pick1 []) (G := fun i => @fun β d ks => clock_When_p1_G (zqm0 c_clock_From c_clock_Meet i) d ks) mixed tab_ok hΓ rfl (by kernel_rfl) CutsOk_nil (fun _ _ => rfl) (fun i => @fun β d ks r h => Eq.trans (b := clock_When_p1_G (zqm0 c_clock_From c_clock_Meet (i + 1)) d ks) (by kernel_rfl) h) i
def zqm2 (p1 : zqlw) {β : Type} (r_ : zq4) (host : Int) (clock : Int) (k : ((Int × Int) → Bool → Option β)) : Option β :=
  c_clock_Valid r_ (fun (rValid : Bool) =>
  cond (!rValid)
  (k ((0 : Int), (0 : Int)) false)
  (c_clock_in host (0 : Int) (IntKind.i64.wrap ((List.length r_.1 : Int) - (1 : Int))) (fun (rin : Bool) =>
  cond (!rin)
  (k ((0 : Int), (0 : Int)) false)
  (c_clock_instant clock (fun (rinstant : Bool) =>
  cond (!rinstant)
  (k ((0 : Int), (0 : Int)) false)
  (p1 (fun (t6 : Int) (t62 : Int) (out : Int) (out2 : Int) =>
  c_clock_Empty (out, out2) (fun (rEmpty : Bool) =>
  k (out, out2) (!rEmpty))) host clock r_.2.1 (List.length r_.2.1 : Int) (0 : Int) r_.1 r_.2.1 r_.2.2.1 r_.2.2.2 (0 : Int) (0 : Int) (0 : Int) (8589934592 : Int)))))))
theorem zqm3 (hΓ : ΓOk Try.prog (clock_When_X c_clock_Empty c_clock_From c_clock_Meet c_clock_Valid c_clock_in c_clock_instant).Γ) (p1 : zqlw) (hp1 : PieceOk Try.prog 56 0 clock_When_p1_code zqlx zqly (clock_When_p1_G p1)) : SpecOk Try.prog 34 (zqlu (zqm2 c_clock_Empty c_clock_Valid c_clock_in c_clock_instant p1)) :=
  spec_exec (X := (clock_When_X c_clock_Empty c_clock_From c_clock_Meet c_clock_Valid c_clock_in c_clock_instant)) (Λ := pick1 [(122, pieceCut zqlx zqly (clock_When_p1_G p1))]) (rs := [.cell 6 56, .tmp 7]) (c := bodyOf Try.f34) mixed tab_ok hΓ Try.func34 (by kernel_rfl) (by kernel_rfl) (by kernel_rfl) (by kernel_rfl) (CutsOk_cons (q := 122) (c' := clock_When_p1_code) (by kernel_rfl) rfl hp1 CutsOk_nil) (fun x k r h => Eq.trans (b := (zqlu (zqm2 c_clock_Empty c_clock_Valid c_clock_in c_clock_instant p1)).run x k) (by kernel_rfl) h)
end
theorem zqm4Γ : ΓOk Try.prog (pick1 [(61, .spec (zq5m zq5q)), (60, .spec (zqjy zqk2)), (59, .spec (zq5f zq5j)), (33, .spec (zqhh zqix)), (56, .spec (zq51 zq55)), (58, .spec (zq58 zq5c))]) := (ΓOk_cons zq5r (ΓOk_cons zqk3 (ΓOk_cons zq5k (ΓOk_cons zqiy (ΓOk_cons zq56 (ΓOk_cons zq5d ΓOk_nil))))))
def zqm5 (m : Nat) : zqlw := zqm0 zqk2 zq5j m
theorem zqm6 {β : Type} (i : Nat) (k1 host clock t31 t32 t33 r_ r_2 r_3 r_4 t6 t62 out out2) : (zqm5 (i + 1) k1 host clock t31 t32 t33 r_ r_2 r_3 r_4 t6 t62 out out2 : Option β) = zqlz zqk2 zq5j (zqm5 i k1) k1 host clock t31 t32 t33 r_ r_2 r_3 r_4 t6 t62 out out2 := rfl
def zqm7 : zqlw := zqm5 fuel
theorem zqm8 : PieceOk Try.prog 56 0 clock_When_p1_code zqlx zqly (clock_When_p1_G zqm7) := zqm1 zq5q zqk2 zq5j zqix zq55 zq5c zqm4Γ fuel
def zqm9 : zqlt := zqm2 zq5q zqix zq55 zq5c zqm7
theorem zqma : SpecOk Try.prog 34 (zqlu zqm9) := zqm3 zq5q zqk2 zq5j zqix zq55 zq5c zqm4Γ zqm7 zqm8

/-- pagewatch/pagewatchref40.closed -/
abbrev zqmb := {β : Type} → zq4 → ((List (List Int)) → Bool → Option β) → Option β
def zqmc (c : zqmb) : Spec :=
  ⟨[(true, [.data zq5])], [], [(false, [.data (.slice (.slice (.int .i64)))]), (false, [.data .bool])], [], fun x k => c x.1.1.1 (fun r0 r1 => k (((r0, ()), (r1, ()), ()), ()))⟩
section
variable (c_ref39_Close : zqel) (c_ref40_Constraints : zqk4)
@[reducible] def ref40_closed_X : Ctx := ⟨look tab, pick1 [(67, .spec (zqem c_ref39_Close)), (10, .spec (zqk5 c_ref40_Constraints))], false⟩
def zqmd {β : Type} (r_ : zq4) (k : ((List (List Int)) → Bool → Option β)) : Option β :=
  c_ref40_Constraints r_ (fun (rConstraints : Bool) (lrConstraints : List (Int × (Int × Int))) =>
  cond (!rConstraints)
  (k ([] : List (List Int)) false)
  (c_ref39_Close (IntKind.i64.wrap ((List.length r_.2.2.1 : Int) + (1 : Int))) lrConstraints (fun (rClose : List (List Int)) (rClose2 : Bool) =>
  k rClose rClose2)))
theorem zqme (hΓ : ΓOk Try.prog (ref40_closed_X c_ref39_Close c_ref40_Constraints).Γ) : SpecOk Try.prog 40 (zqmc (zqmd c_ref39_Close c_ref40_Constraints)) :=
  spec_exec (X := (ref40_closed_X c_ref39_Close c_ref40_Constraints)) (Λ := pick1 []) (rs := [.tmp 2, .tmp 3]) (c := bodyOf Try.f40) mixed tab_ok hΓ Try.func40 (by kernel_rfl) (by kernel_rfl) (by kernel_rfl) (by kernel_rfl) CutsOk_nil (fun x k r h => Eq.trans (b := (zqmc (zqmd c_ref39_Close c_ref40_Constraints)).run x k) (by kernel_rfl) h)
end
theorem zqmfΓ : ΓOk Try.prog (pick1 [(67, .spec (zqem zqh7)), (10, .spec (zqk5 zqlr))]) := (ΓOk_cons zqh8 (ΓOk_cons zqls ΓOk_nil))
def zqmg : zqmb := zqmd zqh7 zqlr
theorem zqmh : SpecOk Try.prog 40 (zqmc zqmg) := zqme zqh7 zqlr zqmfΓ

/-- slices.IndexFunc[[]pagewatch/api.Diff,pagewatch/api.Diff] -/
abbrev zqmi := {β : Type} → (List (Int × (Int × Int))) → Int → (Int → Int → Option β) → Option β
def zqmj (c : zqmi) : Spec :=
  ⟨[(false, [.data (.slice (.prod (.int .i64) (.prod (.int .i64) (.int .i64))))]), (false, [.fn 78 [0]])], [.cells 3 [.data (.int .i64)]], [(false, [.data (.int .i64)])], [.cells 3 [.data (.int .i64)]], fun x k => c x.1.1.1 x.2.1.1 (fun r0 r1 => k (((r0, ()), ()), ((r1, ()), ())))⟩
noncomputable def slices_IndexFunc_api_Diff_api_Diff_vconstraint_Valid_f1_p1_code : Code := codeAt 26 (bodyOf Try.f79)
abbrev zqmk (β : Type) := Int → Int → Option β
abbrev zqml (β : Type) := Int → Option β
abbrev zqmm := {β : Type} → zqmk β → zqml β → (List (Int × (Int × Int))) → Int → Int → Int → Option β
def zqmn : View := ⟨1, [0, 1, 7, 8], [(false, [.data (.slice (.prod (.int .i64) (.prod (.int .i64) (.int .i64))))]), (false, [.fn 78 [0]]), (false, [.data (.int .i64)]), (false, [.data (.int .i64)])], [.cells 3 [.data (.int .i64)]]⟩
def zqmo : List (AExit × View) := [(.ret, ⟨1, [4], [(false, [.data (.int .i64)])], [.cells 3 [.data (.int .i64)]]⟩), (.exit 0, ⟨1, [], [], [.cells 3 [.data (.int .i64)]]⟩)]
@[reducible] def slices_IndexFunc_api_Diff_api_Diff_vconstraint_Valid_f1_p1_G (p : zqmm) {β : Type} (d : zqmn.den) (ks : Outs.K β zqmo) : Option β :=
  p (fun a0 a1 => ks.1 (((a0, ()), ()), ((a1, ()), ()))) (fun a0 => ks.2.1 ((), ((a0, ()), ()))) d.1.1.1 d.1.2.2.1.1 d.1.2.2.2.1.1 d.2.1.1
section
variable (c_constraint_Valid_f1 : zq8x)
@[reducible] def slices_IndexFunc_api_Diff_api_Diff_vconstraint_Valid_f1_X : Ctx := ⟨look tab, pick1 [(78, .spec (zq8y c_constraint_Valid_f1))], false⟩
def zqmp {β : Type} (rec : (List (Int × (Int × Int))) → Int → Int → Int → Option β) (k1 : zqmk β) (k2 : zqml β) (s : List (Int × (Int × Int))) (t7 : Int) (t8 : Int) (b0_ : Int) : Option β :=
  cond (decide (t8 < t7))
  (cond (decide (0 ≤ t8) && decide (t8 < (List.length s : Int)))
  (let e : (Int × (Int × Int)) := List.getD s (Int.toNat t8) ((0 : Int), ((0 : Int), (0 : Int)));
  c_constraint_Valid_f1 e b0_ (fun (rValid1 : Bool) (mrValid1 : Int) =>
  cond rValid1
  (k1 t8 mrValid1)
  (rec s t7 (IntKind.i64.wrap (t8 + (1 : Int))) mrValid1)))
  none)
  (k2 b0_)
def zqmq {β : Type} : Nat → zqmk β → zqml β → (List (Int × (Int × Int))) → Int → Int → Int → Option β
  | 0 => fun _ _ _ _ _ _ => none
  | i + 1 => fun k1 k2 s t7 t8 b0_ => zqmp c_constraint_Valid_f1 (zqmq i k1 k2) k1 k2 s t7 t8 b0_
theorem zqmr (hΓ : ΓOk Try.prog (slices_IndexFunc_api_Diff_api_Diff_vconstraint_Valid_f1_X c_constraint_Valid_f1).Γ) (i : Nat) : PieceOk Try.prog 19 1 slices_IndexFunc_api_Diff_api_Diff_vconstraint_Valid_f1_p1_code zqmn zqmo (slices_IndexFunc_api_Diff_api_Diff_vconstraint_Valid_f1_p1_G (zqmq c_constraint_Valid_f1 i)) := by
  rw [show slices_IndexFunc_api_Diff_api_Diff_vconstraint_Valid_f1_p1_code = .loop (loopBody slices_IndexFunc_api_Diff_api_Diff_vconstraint_Valid_f1_p1_code) by kernel_rfl]
  exact piece_loop (X := (slices_IndexFunc_api_Diff_api_Diff_vconstraint_Valid_f1_X c_constraint_Valid_f1)) (p := 1) (Λ := pick1 []) (G := fun i => @fun β d ks => slices_IndexFunc_api_Diff_api_Diff_vconstraint_Valid_f1_p1_G (zqmq c_constraint_Valid_f1 i) d ks) mixed tab_ok hΓ rfl (by kernel_rfl) CutsOk_nil (fun _ _ => rfl) (fun i => @fun β d ks r h => Eq.trans (b := slices_IndexFunc_api_Diff_api_Diff_vconstraint_Valid_f1_p1_G (zqmq c_constraint_Valid_f1 (i + 1)) d ks) (by kernel_rfl) h) i
def zqms (p1 : zqmm) {β : Type} (s : List (Int × (Int × Int))) (b0_ : Int) (k : (Int → Int → Option β)) : Option β :=
  p1 (fun (t4 : Int) (b0_2 : Int) =>
  k t4 b0_2) (fun (b0_2 : Int) =>
  k (-1 : Int) b0_2) s (List.length s : Int) (0 : Int) b0_
theorem zqmt (hΓ : ΓOk Try.prog (slices_IndexFunc_api_Diff_api_Diff_vconstraint_Valid_f1_X c_constraint_Valid_f1).Γ) (p1 : zqmm) (hp1 : PieceOk Try.prog 19 1 slices_IndexFunc_api_Diff_api_Diff_vconstraint_Valid_f1_p1_code zqmn zqmo (slices_IndexFunc_api_Diff_api_Diff_vconstraint_Valid_f1_p1_G p1)) : SpecOk Try.prog 79 (zqmj (zqms p1)) :=
  spec_exec (X := (slices_IndexFunc_api_Diff_api_Diff_vconstraint_Valid_f1_X c_constraint_Valid_f1)) (Λ := pick1 [(26, pieceCut zqmn zqmo (slices_IndexFunc_api_Diff_api_Diff_vconstraint_Valid_f1_p1_G p1))]) (rs := [.tmp 4]) (c := bodyOf Try.f79) mixed tab_ok hΓ Try.func79 (by kernel_rfl) (by kernel_rfl) (by kernel_rfl) (by kernel_rfl) (CutsOk_cons (q := 26) (c' := slices_IndexFunc_api_Diff_api_Diff_vconstraint_Valid_f1_p1_code) (by kernel_rfl) rfl hp1 CutsOk_nil) (fun x k r h => Eq.trans (b := (zqmj (zqms p1)).run x k) (by kernel_rfl) h)
end
theorem zqmuΓ : ΓOk Try.prog (pick1 [(78, .spec (zq8y zq92))]) := (ΓOk_cons zq93 ΓOk_nil)
def zqmv (m : Nat) : zqmm := zqmq zq92 m
theorem zqmw {β : Type} (i : Nat) (k1 k2 s t7 t8 b0_) : (zqmv (i + 1) k1 k2 s t7 t8 b0_ : Option β) = zqmp zq92 (zqmv i k1 k2) k1 k2 s t7 t8 b0_ := rfl
def zqmx : zqmm := zqmv fuel
theorem zqmy : PieceOk Try.prog 19 1 slices_IndexFunc_api_Diff_api_Diff_vconstraint_Valid_f1_p1_code zqmn zqmo (slices_IndexFunc_api_Diff_api_Diff_vconstraint_Valid_f1_p1_G zqmx) := zqmr zq92 zqmuΓ fuel
def zqmz : zqmi := zqms zqmx
theorem zqn0 : SpecOk Try.prog 79 (zqmj zqmz) := zqmt zq92 zqmuΓ zqmx zqmy

/-- pagewatch/order.Constraints -/
abbrev zqn1 := {β : Type} → zq4 → (Bool → (List (Int × (Int × Int))) → Option β) → Option β
def zqn2 (c : zqn1) : Spec :=
  ⟨[(true, [.data zq5])], [], [(false, [.rowh 0]), (false, [.data .bool])], [.row 42 (.prod (.int .i64) (.prod (.int .i64) (.int .i64)))], fun x k => c x.1.1.1 (fun r0 r1 => k (((), (r0, ()), ()), (r1, ())))⟩
noncomputable def order_Constraints_p1_code : Code := codeAt 122 (bodyOf Try.f9)
noncomputable def order_Constraints_p3_code : Code := codeAt 250 (bodyOf Try.f9)
noncomputable def order_Constraints_p4_code : Code := codeAt 506 (bodyOf Try.f9)
noncomputable def order_Constraints_p2_code : Code := codeAt 230 (loopBody order_Constraints_p3_code)
abbrev zqn3 (β : Type) := Bool → (List (Int × (Int × Int))) → Option β
abbrev zqn4 (β : Type) := (List (List UInt8 × Int)) → (List zq2) → (List zq0) → (List (Int × (Int × Int))) → (List (Int × (Int × Int))) → Option β
abbrev zqn5 := {β : Type} → zqn3 β → zqn4 β → (List zq0) → Int → Int → (List (List UInt8 × Int)) → (List zq2) → (List zq0) → (List (Int × (Int × Int))) → (List (Int × (Int × Int))) → Option β
def zqn6 : View := ⟨0, [1, 4, 18, 19, 20], [(false, [.ptr 0 0]), (false, [.rowh 1]), (false, [.data (.slice zq1)]), (false, [.data (.int .i64)]), (false, [.data (.int .i64)])], [.cells 28 [.data (.slice (.prod .str (.int .i64))), .data (.slice zq3), .data (.slice zq1), .data (.slice (.prod (.int .i64) (.prod (.int .i64) (.int .i64))))], .row 42 (.prod (.int .i64) (.prod (.int .i64) (.int .i64)))]⟩
def zqn7 : List (AExit × View) := [(.ret, ⟨0, [2, 3], [(false, [.rowh 0]), (false, [.data .bool])], [.row 42 (.prod (.int .i64) (.prod (.int .i64) (.int .i64)))]⟩), (.exit 0, ⟨0, [1, 4], [(false, [.ptr 0 0]), (false, [.rowh 1])], [.cells 28 [.data (.slice (.prod .str (.int .i64))), .data (.slice zq3), .data (.slice zq1), .data (.slice (.prod (.int .i64) (.prod (.int .i64) (.int .i64))))], .row 42 (.prod (.int .i64) (.prod (.int .i64) (.int .i64)))]⟩)]
@[reducible] def order_Constraints_p1_G (p : zqn5) {β : Type} (d : zqn6.den) (ks : Outs.K β zqn7) : Option β :=
  p (fun a0 a1 => ks.1 (((), (a0, ()), ()), (a1, ()))) (fun a0 a1 a2 a3 a4 => ks.2.1 (((), (), ()), ((a0, a1, a2, a3, ()), a4, ()))) d.1.2.2.1.1 d.1.2.2.2.1.1 d.1.2.2.2.2.1.1 d.2.1.1 d.2.1.2.1 d.2.1.2.2.1 d.2.1.2.2.2.1 d.2.2.1
abbrev zqn8 (β : Type) := (List zq0) → Int → Int → (List (List UInt8 × Int)) → (List zq2) → (List zq0) → (List (Int × (Int × Int))) → (List (Int × (Int × Int))) → Option β
abbrev zqn9 := {β : Type} → zqn8 β → Int → Int → (List zq0) → Int → Int → (List (List UInt8 × Int)) → (List zq2) → (List zq0) → (List (Int × (Int × Int))) → (List (Int × (Int × Int))) → Int → Int → (List UInt8) → Option β
def zqna : View := ⟨0, [1, 4, 9, 10, 11, 52, 53, 54], [(false, [.ptr 0 0]), (false, [.rowh 1]), (false, [.data (.int .i64)]), (false, [.ptr 2 0]), (false, [.data (.int .i64)]), (false, [.data (.slice zq1)]), (false, [.data (.int .i64)]), (false, [.data (.int .i64)])], [.cells 28 [.data (.slice (.prod .str (.int .i64))), .data (.slice zq3), .data (.slice zq1), .data (.slice (.prod (.int .i64) (.prod (.int .i64) (.int .i64))))], .row 42 (.prod (.int .i64) (.prod (.int .i64) (.int .i64))), .cells 76 [.data (.int .i64), .data (.int .i64), .data .str]]⟩
def zqnb : List (AExit × View) := [(.exit 4, ⟨0, [1, 4, 52, 53, 54], [(false, [.ptr 0 0]), (false, [.rowh 1]), (false, [.data (.slice zq1)]), (false, [.data (.int .i64)]), (false, [.data (.int .i64)])], [.cells 28 [.data (.slice (.prod .str (.int .i64))), .data (.slice zq3), .data (.slice zq1), .data (.slice (.prod (.int .i64) (.prod (.int .i64) (.int .i64))))], .row 42 (.prod (.int .i64) (.prod (.int .i64) (.int .i64)))]⟩)]
@[reducible] def order_Constraints_p2_G (p : zqn9) {β : Type} (d : zqna.den) (ks : Outs.K β zqnb) : Option β :=
  p (fun a0 a1 a2 a3 a4 a5 a6 a7 => ks.1 (((), (), (a0, ()), (a1, ()), (a2, ()), ()), ((a3, a4, a5, a6, ()), a7, ()))) d.1.2.2.1.1 d.1.2.2.2.2.1.1 d.1.2.2.2.2.2.1.1 d.1.2.2.2.2.2.2.1.1 d.1.2.2.2.2.2.2.2.1.1 d.2.1.1 d.2.1.2.1 d.2.1.2.2.1 d.2.1.2.2.2.1 d.2.2.1 d.2.2.2.1.1 d.2.2.2.1.2.1 d.2.2.2.1.2.2.1
abbrev zqnc (β : Type) := (List (List UInt8 × Int)) → (List zq2) → (List zq0) → (List (Int × (Int × Int))) → (List (Int × (Int × Int))) → Option β
abbrev zqnd := {β : Type} → zqnc β → (List zq0) → Int → Int → (List (List UInt8 × Int)) → (List zq2) → (List zq0) → (List (Int × (Int × Int))) → (List (Int × (Int × Int))) → Option β
def zqne : View := ⟨0, [1, 4, 52, 53, 54], [(false, [.ptr 0 0]), (false, [.rowh 1]), (false, [.data (.slice zq1)]), (false, [.data (.int .i64)]), (false, [.data (.int .i64)])], [.cells 28 [.data (.slice (.prod .str (.int .i64))), .data (.slice zq3), .data (.slice zq1), .data (.slice (.prod (.int .i64) (.prod (.int .i64) (.int .i64))))], .row 42 (.prod (.int .i64) (.prod (.int .i64) (.int .i64)))]⟩
def zqnf : List (AExit × View) := [(.exit 2, ⟨0, [1, 4], [(false, [.ptr 0 0]), (false, [.rowh 1])], [.cells 28 [.data (.slice (.prod .str (.int .i64))), .data (.slice zq3), .data (.slice zq1), .data (.slice (.prod (.int .i64) (.prod (.int .i64) (.int .i64))))], .row 42 (.prod (.int .i64) (.prod (.int .i64) (.int .i64)))]⟩)]
@[reducible] def order_Constraints_p3_G (p : zqnd) {β : Type} (d : zqne.den) (ks : Outs.K β zqnf) : Option β :=
  p (fun a0 a1 a2 a3 a4 => ks.1 (((), (), ()), ((a0, a1, a2, a3, ()), a4, ()))) d.1.2.2.1.1 d.1.2.2.2.1.1 d.1.2.2.2.2.1.1 d.2.1.1 d.2.1.2.1 d.2.1.2.2.1 d.2.1.2.2.2.1 d.2.2.1
abbrev zqng (β : Type) := (List (Int × (Int × Int))) → Option β
abbrev zqnh := {β : Type} → zqng β → (List (Int × (Int × Int))) → Int → Int → (List (Int × (Int × Int))) → Option β
def zqni : View := ⟨0, [4, 85, 86, 87], [(false, [.rowh 0]), (false, [.data (.slice (.prod (.int .i64) (.prod (.int .i64) (.int .i64))))]), (false, [.data (.int .i64)]), (false, [.data (.int .i64)])], [.row 42 (.prod (.int .i64) (.prod (.int .i64) (.int .i64)))]⟩
def zqnj : List (AExit × View) := [(.exit 6, ⟨0, [4], [(false, [.rowh 0])], [.row 42 (.prod (.int .i64) (.prod (.int .i64) (.int .i64)))]⟩)]
@[reducible] def order_Constraints_p4_G (p : zqnh) {β : Type} (d : zqni.den) (ks : Outs.K β zqnj) : Option β :=
  p (fun a0 => ks.1 (((), ()), (a0, ()))) d.1.2.1.1 d.1.2.2.1.1 d.1.2.2.2.1.1 d.2.1
section
variable (c_clock_Valid : zqhg) (c_clock_When : zqlt) (c_order_pair : zqiz)
@[reducible] def order_Constraints_X : Ctx := ⟨look tab, pick1 [(33, .spec (zqhh c_clock_Valid)), (34, .spec (zqlu c_clock_When)), (35, .spec (zqj0 c_order_pair))], false⟩
def zqnk {β : Type} (rec : (List zq0) → Int → Int → (List (List UInt8 × Int)) → (List zq2) → (List zq0) → (List (Int × (Int × Int))) → (List (Int × (Int × Int))) → Option β) (k1 : zqn3 β) (k2 : zqn4 β) (t18 : List zq0) (t19 : Int) (t20 : Int) (r_ : List (List UInt8 × Int)) (r_2 : List zq2) (r_3 : List zq0) (r_4 : List (Int × (Int × Int))) (out : List (Int × (Int × Int))) : Option β :=
  cond (decide (t20 < t19))
  (cond (decide (0 ≤ t20) && decide (t20 < (List.length t18 : Int)))
  (let e : zq0 := List.getD t18 (Int.toNat t20) ((0 : Int), ((0 : Int), ([] : List UInt8)));
  c_clock_When (r_, (r_2, (r_3, r_4))) e.1 e.2.1 (fun (rWhen : (Int × Int)) (rWhen2 : Bool) =>
  cond (!rWhen2)
  (k1 false ([] : List (Int × (Int × Int))))
  (let l : List (Int × (Int × Int)) := ([((0 : Int), ((IntKind.i64.wrap (t20 + (1 : Int))), rWhen.2)), ((IntKind.i64.wrap (t20 + (1 : Int))), ((0 : Int), (IntKind.i64.wrap (0 - rWhen.1))))] : List (Int × (Int × Int)));
  cond (decide ((List.length out + List.length l) * 24 ≤ roomMax))
  (let l2 : List (Int × (Int × Int)) := (out ++ l);
  rec t18 t19 (IntKind.i64.wrap (t20 + (1 : Int))) r_ r_2 r_3 r_4 l2)
  none)))
  none)
  (k2 r_ r_2 r_3 r_4 out)
def zqnl {β : Type} : Nat → zqn3 β → zqn4 β → (List zq0) → Int → Int → (List (List UInt8 × Int)) → (List zq2) → (List zq0) → (List (Int × (Int × Int))) → (List (Int × (Int × Int))) → Option β
  | 0 => fun _ _ _ _ _ _ _ _ _ _ => none
  | i + 1 => fun k1 k2 t18 t19 t20 r_ r_2 r_3 r_4 out => zqnk c_clock_When (zqnl i k1 k2) k1 k2 t18 t19 t20 r_ r_2 r_3 r_4 out
theorem zqnm (hΓ : ΓOk Try.prog (order_Constraints_X c_clock_Valid c_clock_When c_order_pair).Γ) (i : Nat) : PieceOk Try.prog 106 0 order_Constraints_p1_code zqn6 zqn7 (order_Constraints_p1_G (zqnl c_clock_When i)) := by
  rw [show order_Constraints_p1_code = .loop (loopBody order_Constraints_p1_code) by kernel_rfl]
  exact piece_loop (X := (order_Constraints_X c_clock_Valid c_clock_When c_order_pair)) (p := 1) (Λ := pick1 []) (G := fun i => @fun β d ks => order_Constraints_p1_G (zqnl c_clock_When i) d ks) mixed tab_ok hΓ rfl (by kernel_rfl) CutsOk_nil (fun _ _ => rfl) (fun i => @fun β d ks r h => Eq.trans (b := order_Constraints_p1_G (zqnl c_clock_When (i + 1)) d ks) (by kernel_rfl) h) i
def zqnn {β : Type} (rec : Int → Int → (List zq0) → Int → Int → (List (List UInt8 × Int)) → (List zq2) → (List zq0) → (List (Int × (Int × Int))) → (List (Int × (Int × Int))) → Int → Int → (List UInt8) → Option β) (k1 : zqn8 β) (i_ : Int) (j : Int) (t52 : List zq0) (t53 : Int) (t54 : Int) (r_ : List (List UInt8 × Int)) (r_2 : List zq2) (r_3 : List zq0) (r_4 : List (Int × (Int × Int))) (out : List (Int × (Int × Int))) (a : Int) (a2 : Int) (a3 : List UInt8) : Option β :=
  cond (decide (j < (List.length r_3 : Int)))
  (cond (decide (0 ≤ j) && decide (j < (List.length r_3 : Int)))
  (let e : zq0 := List.getD r_3 (Int.toNat j) ((0 : Int), ((0 : Int), ([] : List UInt8)));
  cond (decide (e.1 = a))
  (c_order_pair (r_, (r_2, (r_3, r_4))) i_ j (fun (lrpair : List (Int × (Int × Int))) =>
  cond (decide ((List.length out + List.length lrpair) * 24 ≤ roomMax))
  (let l : List (Int × (Int × Int)) := (out ++ lrpair);
  let j2 : Int := (IntKind.i64.wrap (j + (1 : Int)));
  rec i_ j2 t52 t53 t54 r_ r_2 r_3 r_4 l a a2 a3)
  none))
  (let j2 : Int := (IntKind.i64.wrap (j + (1 : Int)));
  rec i_ j2 t52 t53 t54 r_ r_2 r_3 r_4 out a a2 a3))
  none)
  (k1 t52 t53 t54 r_ r_2 r_3 r_4 out)
def zqno {β : Type} : Nat → zqn8 β → Int → Int → (List zq0) → Int → Int → (List (List UInt8 × Int)) → (List zq2) → (List zq0) → (List (Int × (Int × Int))) → (List (Int × (Int × Int))) → Int → Int → (List UInt8) → Option β
  | 0 => fun _ _ _ _ _ _ _ _ _ _ _ _ _ _ => none
  | i + 1 => fun k1 i_ j t52 t53 t54 r_ r_2 r_3 r_4 out a a2 a3 => zqnn c_order_pair (zqno i k1) k1 i_ j t52 t53 t54 r_ r_2 r_3 r_4 out a a2 a3
theorem zqnp (hΓ : ΓOk Try.prog (order_Constraints_X c_clock_Valid c_clock_When c_order_pair).Γ) (i : Nat) : PieceOk Try.prog 106 0 order_Constraints_p2_code zqna zqnb (order_Constraints_p2_G (zqno c_order_pair i)) := by
  rw [show order_Constraints_p2_code = .loop (loopBody order_Constraints_p2_code) by kernel_rfl]
  exact piece_loop (X := (order_Constraints_X c_clock_Valid c_clock_When c_order_pair)) (p := 1) (Λ := pick1 []) (G := fun i => @fun β d ks => order_Constraints_p2_G (zqno c_order_pair i) d ks) mixed tab_ok hΓ rfl (by kernel_rfl) CutsOk_nil (fun _ _ => rfl) (fun i => @fun β d ks r h => Eq.trans (b := order_Constraints_p2_G (zqno c_order_pair (i + 1)) d ks) (by kernel_rfl) h) i
def zqnq (p2 : zqn9) {β : Type} (rec : (List zq0) → Int → Int → (List (List UInt8 × Int)) → (List zq2) → (List zq0) → (List (Int × (Int × Int))) → (List (Int × (Int × Int))) → Option β) (k1 : zqnc β) (t52 : List zq0) (t53 : Int) (t54 : Int) (r_ : List (List UInt8 × Int)) (r_2 : List zq2) (r_3 : List zq0) (r_4 : List (Int × (Int × Int))) (out : List (Int × (Int × Int))) : Option β :=
  cond (decide (t54 < t53))
  (cond (decide (0 ≤ t54) && decide (t54 < (List.length t52 : Int)))
  (let e : zq0 := List.getD t52 (Int.toNat t54) ((0 : Int), ((0 : Int), ([] : List UInt8)));
  let j : Int := (IntKind.i64.wrap (t54 + (1 : Int)));
  p2 (fun (t522 : List zq0) (t532 : Int) (t542 : Int) (r_5 : List (List UInt8 × Int)) (r_6 : List zq2) (r_7 : List zq0) (r_8 : List (Int × (Int × Int))) (out2 : List (Int × (Int × Int))) =>
  rec t522 t532 (IntKind.i64.wrap (t542 + (1 : Int))) r_5 r_6 r_7 r_8 out2) t54 j t52 t53 t54 r_ r_2 r_3 r_4 out e.1 e.2.1 e.2.2)
  none)
  (k1 r_ r_2 r_3 r_4 out)
def zqnr (p2 : zqn9) {β : Type} : Nat → zqnc β → (List zq0) → Int → Int → (List (List UInt8 × Int)) → (List zq2) → (List zq0) → (List (Int × (Int × Int))) → (List (Int × (Int × Int))) → Option β
  | 0 => fun _ _ _ _ _ _ _ _ _ => none
  | i + 1 => fun k1 t52 t53 t54 r_ r_2 r_3 r_4 out => zqnq p2 (zqnr p2 i k1) k1 t52 t53 t54 r_ r_2 r_3 r_4 out
theorem zqns (hΓ : ΓOk Try.prog (order_Constraints_X c_clock_Valid c_clock_When c_order_pair).Γ) (p2 : zqn9) (hp2 : PieceOk Try.prog 106 0 order_Constraints_p2_code zqna zqnb (order_Constraints_p2_G p2)) (i : Nat) : PieceOk Try.prog 106 0 order_Constraints_p3_code zqne zqnf (order_Constraints_p3_G (zqnr p2 i)) := by
  rw [show order_Constraints_p3_code = .loop (loopBody order_Constraints_p3_code) by kernel_rfl]
  exact piece_loop (X := (order_Constraints_X c_clock_Valid c_clock_When c_order_pair)) (p := 1) (Λ := pick1 [(230, pieceCut zqna zqnb (order_Constraints_p2_G p2))]) (G := fun i => @fun β d ks => order_Constraints_p3_G (zqnr p2 i) d ks) mixed tab_ok hΓ rfl (by kernel_rfl) (CutsOk_cons (q := 230) (c' := order_Constraints_p2_code) (by kernel_rfl) rfl hp2 CutsOk_nil) (fun _ _ => rfl) (fun i => @fun β d ks r h => Eq.trans (b := order_Constraints_p3_G (zqnr p2 (i + 1)) d ks) (by kernel_rfl) h) i
def zqnt {β : Type} (rec : (List (Int × (Int × Int))) → Int → Int → (List (Int × (Int × Int))) → Option β) (k1 : zqng β) (t85 : List (Int × (Int × Int))) (t86 : Int) (t87 : Int) (out : List (Int × (Int × Int))) : Option β :=
  cond (decide (t87 < t86))
  (cond (decide (0 ≤ t87) && decide (t87 < (List.length t85 : Int)))
  (let e : (Int × (Int × Int)) := List.getD t85 (Int.toNat t87) ((0 : Int), ((0 : Int), (0 : Int)));
  let l : List (Int × (Int × Int)) := ([((IntKind.i64.wrap (e.2.1 + (1 : Int))), ((IntKind.i64.wrap (e.1 + (1 : Int))), (IntKind.i64.wrap (0 - e.2.2))))] : List (Int × (Int × Int)));
  cond (decide ((List.length out + List.length l) * 24 ≤ roomMax))
  (let l2 : List (Int × (Int × Int)) := (out ++ l);
  rec t85 t86 (IntKind.i64.wrap (t87 + (1 : Int))) l2)
  none)
  none)
  (k1 out)
def zqnu {β : Type} : Nat → zqng β → (List (Int × (Int × Int))) → Int → Int → (List (Int × (Int × Int))) → Option β
  | 0 => fun _ _ _ _ _ => none
  | i + 1 => fun k1 t85 t86 t87 out => zqnt (zqnu i k1) k1 t85 t86 t87 out
theorem zqnv (hΓ : ΓOk Try.prog (order_Constraints_X c_clock_Valid c_clock_When c_order_pair).Γ) (i : Nat) : PieceOk Try.prog 106 0 order_Constraints_p4_code zqni zqnj (order_Constraints_p4_G (zqnu i)) := by
  rw [show order_Constraints_p4_code = .loop (loopBody order_Constraints_p4_code) by kernel_rfl]
  exact piece_loop (X := (order_Constraints_X c_clock_Valid c_clock_When c_order_pair)) (p := 1) (Λ := pick1 []) (G := fun i => @fun β d ks => order_Constraints_p4_G (zqnu i) d ks) mixed tab_ok hΓ rfl (by kernel_rfl) CutsOk_nil (fun _ _ => rfl) (fun i => @fun β d ks r h => Eq.trans (b := order_Constraints_p4_G (zqnu (i + 1)) d ks) (by kernel_rfl) h) i
def zqnw (p1 : zqn5) (p3 : zqnd) (p4 : zqnh) {β : Type} (r_ : zq4) (k : (Bool → (List (Int × (Int × Int))) → Option β)) : Option β :=
  c_clock_Valid r_ (fun (rValid : Bool) =>
  cond (!rValid)
  (k false ([] : List (Int × (Int × Int))))
  (p1 (fun (t3 : Bool) (t2 : List (Int × (Int × Int))) =>
  k t3 t2) (fun (r_2 : List (List UInt8 × Int)) (r_3 : List zq2) (r_4 : List zq0) (r_5 : List (Int × (Int × Int))) (out : List (Int × (Int × Int))) =>
  p3 (fun (r_6 : List (List UInt8 × Int)) (r_7 : List zq2) (r_8 : List zq0) (r_9 : List (Int × (Int × Int))) (out2 : List (Int × (Int × Int))) =>
  p4 (fun (out3 : List (Int × (Int × Int))) =>
  k true out3) r_9 (List.length r_9 : Int) (0 : Int) out2) r_4 (List.length r_4 : Int) (0 : Int) r_2 r_3 r_4 r_5 out) r_.2.2.1 (List.length r_.2.2.1 : Int) (0 : Int) r_.1 r_.2.1 r_.2.2.1 r_.2.2.2 ([] : List (Int × (Int × Int)))))
theorem zqnx (hΓ : ΓOk Try.prog (order_Constraints_X c_clock_Valid c_clock_When c_order_pair).Γ) (p1 : zqn5) (p3 : zqnd) (p4 : zqnh) (hp1 : PieceOk Try.prog 106 0 order_Constraints_p1_code zqn6 zqn7 (order_Constraints_p1_G p1)) (hp3 : PieceOk Try.prog 106 0 order_Constraints_p3_code zqne zqnf (order_Constraints_p3_G p3)) (hp4 : PieceOk Try.prog 106 0 order_Constraints_p4_code zqni zqnj (order_Constraints_p4_G p4)) : SpecOk Try.prog 9 (zqn2 (zqnw c_clock_Valid p1 p3 p4)) :=
  spec_exec (X := (order_Constraints_X c_clock_Valid c_clock_When c_order_pair)) (Λ := pick1 [(122, pieceCut zqn6 zqn7 (order_Constraints_p1_G p1)), (250, pieceCut zqne zqnf (order_Constraints_p3_G p3)), (506, pieceCut zqni zqnj (order_Constraints_p4_G p4))]) (rs := [.tmp 2, .tmp 3]) (c := bodyOf Try.f9) mixed tab_ok hΓ Try.func9 (by kernel_rfl) (by kernel_rfl) (by kernel_rfl) (by kernel_rfl) (CutsOk_cons (q := 122) (c' := order_Constraints_p1_code) (by kernel_rfl) rfl hp1 (CutsOk_cons (q := 250) (c' := order_Constraints_p3_code) (by kernel_rfl) rfl hp3 (CutsOk_cons (q := 506) (c' := order_Constraints_p4_code) (by kernel_rfl) rfl hp4 CutsOk_nil))) (fun x k r h => Eq.trans (b := (zqn2 (zqnw c_clock_Valid p1 p3 p4)).run x k) (by kernel_rfl) h)
end
theorem zqnyΓ : ΓOk Try.prog (pick1 [(33, .spec (zqhh zqix)), (34, .spec (zqlu zqm9)), (35, .spec (zqj0 zqjd))]) := (ΓOk_cons zqiy (ΓOk_cons zqma (ΓOk_cons zqje ΓOk_nil)))
def zqnz (m : Nat) : zqn5 := zqnl zqm9 m
theorem zqo0 {β : Type} (i : Nat) (k1 k2 t18 t19 t20 r_ r_2 r_3 r_4 out) : (zqnz (i + 1) k1 k2 t18 t19 t20 r_ r_2 r_3 r_4 out : Option β) = zqnk zqm9 (zqnz i k1 k2) k1 k2 t18 t19 t20 r_ r_2 r_3 r_4 out := rfl
def zqo1 : zqn5 := zqnz fuel
theorem zqo2 : PieceOk Try.prog 106 0 order_Constraints_p1_code zqn6 zqn7 (order_Constraints_p1_G zqo1) := zqnm zqix zqm9 zqjd zqnyΓ fuel
def zqo3 (m : Nat) : zqn9 := zqno zqjd m
theorem zqo4 {β : Type} (i : Nat) (k1 i_ j t52 t53 t54 r_ r_2 r_3 r_4 out a a2 a3) : (zqo3 (i + 1) k1 i_ j t52 t53 t54 r_ r_2 r_3 r_4 out a a2 a3 : Option β) = zqnn zqjd (zqo3 i k1) k1 i_ j t52 t53 t54 r_ r_2 r_3 r_4 out a a2 a3 := rfl
def zqo5 : zqn9 := zqo3 fuel
theorem zqo6 : PieceOk Try.prog 106 0 order_Constraints_p2_code zqna zqnb (order_Constraints_p2_G zqo5) := zqnp zqix zqm9 zqjd zqnyΓ fuel
def zqo7 (m : Nat) : zqnd := zqnr zqo5 m
theorem zqo8 {β : Type} (i : Nat) (k1 t52 t53 t54 r_ r_2 r_3 r_4 out) : (zqo7 (i + 1) k1 t52 t53 t54 r_ r_2 r_3 r_4 out : Option β) = zqnq zqo5 (zqo7 i k1) k1 t52 t53 t54 r_ r_2 r_3 r_4 out := rfl
def zqo9 : zqnd := zqo7 fuel
theorem zqoa : PieceOk Try.prog 106 0 order_Constraints_p3_code zqne zqnf (order_Constraints_p3_G zqo9) := zqns zqix zqm9 zqjd zqnyΓ zqo5 zqo6 fuel
def zqob (m : Nat) : zqnh := zqnu m
theorem zqoc {β : Type} (i : Nat) (k1 t85 t86 t87 out) : (zqob (i + 1) k1 t85 t86 t87 out : Option β) = zqnt (zqob i k1) k1 t85 t86 t87 out := rfl
def zqod : zqnh := zqob fuel
theorem zqoe : PieceOk Try.prog 106 0 order_Constraints_p4_code zqni zqnj (order_Constraints_p4_G zqod) := zqnv zqix zqm9 zqjd zqnyΓ fuel
def zqof : zqn1 := zqnw zqix zqo1 zqo9 zqod
theorem zqog : SpecOk Try.prog 9 (zqn2 zqof) := zqnx zqix zqm9 zqjd zqnyΓ zqo1 zqo9 zqod zqo2 zqoa zqoe

/-- pagewatch/pagewatchref40.Consistent -/
abbrev zqoh := {β : Type} → zq4 → (Bool → Option β) → Option β
def zqoi (c : zqoh) : Spec :=
  ⟨[(true, [.data zq5])], [], [(false, [.data .bool])], [], fun x k => c x.1.1.1 (fun r0 => k (((r0, ()), ()), ()))⟩
section
variable (c_ref40_closed : zqmb)
@[reducible] def ref40_Consistent_X : Ctx := ⟨look tab, pick1 [(40, .spec (zqmc c_ref40_closed))], false⟩
def zqoj {β : Type} (r_ : zq4) (k : (Bool → Option β)) : Option β :=
  c_ref40_closed r_ (fun (rclosed : List (List Int)) (rclosed2 : Bool) =>
  k rclosed2)
theorem zqok (hΓ : ΓOk Try.prog (ref40_Consistent_X c_ref40_closed).Γ) : SpecOk Try.prog 12 (zqoi (zqoj c_ref40_closed)) :=
  spec_exec (X := (ref40_Consistent_X c_ref40_closed)) (Λ := pick1 []) (rs := [.tmp 2]) (c := bodyOf Try.f12) mixed tab_ok hΓ Try.func12 (by kernel_rfl) (by kernel_rfl) (by kernel_rfl) (by kernel_rfl) CutsOk_nil (fun x k r h => Eq.trans (b := (zqoi (zqoj c_ref40_closed)).run x k) (by kernel_rfl) h)
end
theorem zqolΓ : ΓOk Try.prog (pick1 [(40, .spec (zqmc zqmg))]) := (ΓOk_cons zqmh ΓOk_nil)
def zqom : zqoh := zqoj zqmg
theorem zqon : SpecOk Try.prog 12 (zqoi zqom) := zqok zqmg zqolΓ

/-- pagewatch/pagewatchref40.When -/
abbrev zqoo := {β : Type} → zq4 → (Bool → (List (Int × Int)) → Option β) → Option β
def zqop (c : zqoo) : Spec :=
  ⟨[(true, [.data zq5])], [], [(false, [.rowh 0]), (false, [.data .bool])], [.row 56 (.prod (.int .i64) (.int .i64))], fun x k => c x.1.1.1 (fun r0 r1 => k (((), (r0, ()), ()), (r1, ())))⟩
noncomputable def ref40_When_p1_code : Code := codeAt 250 (bodyOf Try.f14)
abbrev zqoq (β : Type) := (List (Int × Int)) → Option β
abbrev zqor := {β : Type} → zqoq β → (List (List Int)) → Int → (List (List UInt8 × Int)) → (List zq2) → (List zq0) → (List (Int × (Int × Int))) → (List (Int × Int)) → Option β
def zqos : View := ⟨0, [1, 4, 6, 7], [(false, [.ptr 0 0]), (false, [.data (.slice (.slice (.int .i64)))]), (false, [.rowh 1]), (false, [.data (.int .i64)])], [.cells 28 [.data (.slice (.prod .str (.int .i64))), .data (.slice zq3), .data (.slice zq1), .data (.slice (.prod (.int .i64) (.prod (.int .i64) (.int .i64))))], .row 56 (.prod (.int .i64) (.int .i64))]⟩
def zqot : List (AExit × View) := [(.exit 0, ⟨0, [6], [(false, [.rowh 0])], [.row 56 (.prod (.int .i64) (.int .i64))]⟩)]
@[reducible] def ref40_When_p1_G (p : zqor) {β : Type} (d : zqos.den) (ks : Outs.K β zqot) : Option β :=
  p (fun a0 => ks.1 (((), ()), (a0, ()))) d.1.2.1.1 d.1.2.2.2.1.1 d.2.1.1 d.2.1.2.1 d.2.1.2.2.1 d.2.1.2.2.2.1 d.2.2.1
section
variable (c_ref40_closed : zqmb)
@[reducible] def ref40_When_X : Ctx := ⟨look tab, pick1 [(40, .spec (zqmc c_ref40_closed))], false⟩
def zqou {β : Type} (rec : (List (List Int)) → Int → (List (List UInt8 × Int)) → (List zq2) → (List zq0) → (List (Int × (Int × Int))) → (List (Int × Int)) → Option β) (k1 : zqoq β) (d : List (List Int)) (i_ : Int) (r_ : List (List UInt8 × Int)) (r_2 : List zq2) (r_3 : List zq0) (r_4 : List (Int × (Int × Int))) (out : List (Int × Int)) : Option β :=
  cond (decide (i_ < (List.length r_3 : Int)))
  (cond (decide (0 ≤ (IntKind.i64.wrap (i_ + (1 : Int)))) && decide ((IntKind.i64.wrap (i_ + (1 : Int))) < (List.length d : Int)))
  (let e : List Int := List.getD d (Int.toNat (IntKind.i64.wrap (i_ + (1 : Int)))) ([] : List Int);
  cond (decide (0 ≤ (0 : Int)) && decide ((0 : Int) < (List.length e : Int)))
  (let e2 : Int := List.getD e (Int.toNat (0 : Int)) (0 : Int);
  cond (decide (0 ≤ (0 : Int)) && decide ((0 : Int) < (List.length d : Int)))
  (let e3 : List Int := List.getD d (Int.toNat (0 : Int)) ([] : List Int);
  cond (decide (0 ≤ (IntKind.i64.wrap (i_ + (1 : Int)))) && decide ((IntKind.i64.wrap (i_ + (1 : Int))) < (List.length e3 : Int)))
  (let e4 : Int := List.getD e3 (Int.toNat (IntKind.i64.wrap (i_ + (1 : Int)))) (0 : Int);
  let l : List (Int × Int) := ([((IntKind.i64.wrap (0 - e2)), e4)] : List (Int × Int));
  cond (decide ((List.length out + List.length l) * 16 ≤ roomMax))
  (let l2 : List (Int × Int) := (out ++ l);
  let i_2 : Int := (IntKind.i64.wrap (i_ + (1 : Int)));
  rec d i_2 r_ r_2 r_3 r_4 l2)
  none)
  none)
  none)
  none)
  none)
  (k1 out)
def zqov {β : Type} : Nat → zqoq β → (List (List Int)) → Int → (List (List UInt8 × Int)) → (List zq2) → (List zq0) → (List (Int × (Int × Int))) → (List (Int × Int)) → Option β
  | 0 => fun _ _ _ _ _ _ _ _ => none
  | i + 1 => fun k1 d i_ r_ r_2 r_3 r_4 out => zqou (zqov i k1) k1 d i_ r_ r_2 r_3 r_4 out
theorem zqow (hΓ : ΓOk Try.prog (ref40_When_X c_ref40_closed).Γ) (i : Nat) : PieceOk Try.prog 42 0 ref40_When_p1_code zqos zqot (ref40_When_p1_G (zqov i)) := by
  rw [show ref40_When_p1_code = .loop (loopBody ref40_When_p1_code) by kernel_rfl]
  exact piece_loop (X := (ref40_When_X c_ref40_closed)) (p := 1) (Λ := pick1 []) (G := fun i => @fun β d ks => ref40_When_p1_G (zqov i) d ks) mixed tab_ok hΓ rfl (by kernel_rfl) CutsOk_nil (fun _ _ => rfl) (fun i => @fun β d ks r h => Eq.trans (b := ref40_When_p1_G (zqov (i + 1)) d ks) (by kernel_rfl) h) i
def zqox (p1 : zqor) {β : Type} (r_ : zq4) (k : (Bool → (List (Int × Int)) → Option β)) : Option β :=
  c_ref40_closed r_ (fun (rclosed : List (List Int)) (rclosed2 : Bool) =>
  cond (!rclosed2)
  (k false ([] : List (Int × Int)))
  (p1 (fun (out : List (Int × Int)) =>
  k true out) rclosed (0 : Int) r_.1 r_.2.1 r_.2.2.1 r_.2.2.2 ([] : List (Int × Int))))
theorem zqoy (hΓ : ΓOk Try.prog (ref40_When_X c_ref40_closed).Γ) (p1 : zqor) (hp1 : PieceOk Try.prog 42 0 ref40_When_p1_code zqos zqot (ref40_When_p1_G p1)) : SpecOk Try.prog 14 (zqop (zqox c_ref40_closed p1)) :=
  spec_exec (X := (ref40_When_X c_ref40_closed)) (Λ := pick1 [(250, pieceCut zqos zqot (ref40_When_p1_G p1))]) (rs := [.tmp 2, .tmp 3]) (c := bodyOf Try.f14) mixed tab_ok hΓ Try.func14 (by kernel_rfl) (by kernel_rfl) (by kernel_rfl) (by kernel_rfl) (CutsOk_cons (q := 250) (c' := ref40_When_p1_code) (by kernel_rfl) rfl hp1 CutsOk_nil) (fun x k r h => Eq.trans (b := (zqop (zqox c_ref40_closed p1)).run x k) (by kernel_rfl) h)
end
theorem zqozΓ : ΓOk Try.prog (pick1 [(40, .spec (zqmc zqmg))]) := (ΓOk_cons zqmh ΓOk_nil)
def zqp0 (m : Nat) : zqor := zqov m
theorem zqp1 {β : Type} (i : Nat) (k1 d i_ r_ r_2 r_3 r_4 out) : (zqp0 (i + 1) k1 d i_ r_ r_2 r_3 r_4 out : Option β) = zqou (zqp0 i k1) k1 d i_ r_ r_2 r_3 r_4 out := rfl
def zqp2 : zqor := zqp0 fuel
theorem zqp3 : PieceOk Try.prog 42 0 ref40_When_p1_code zqos zqot (ref40_When_p1_G zqp2) := zqow zqmg zqozΓ fuel
def zqp4 : zqoo := zqox zqmg zqp2
theorem zqp5 : SpecOk Try.prog 14 (zqop zqp4) := zqoy zqmg zqozΓ zqp2 zqp3

/-- pagewatch/pagewatchref40.Sort -/
abbrev zqp6 := {β : Type} → zq4 → (Bool → (List Int) → Option β) → Option β
def zqp7 (c : zqp6) : Spec :=
  ⟨[(true, [.data zq5])], [], [(false, [.rowh 0]), (false, [.data .bool])], [.row 3 (.int .i64)], fun x k => c x.1.1.1 (fun r0 r1 => k (((), (r0, ()), ()), (r1, ())))⟩
noncomputable def ref40_Sort_p3_code : Code := codeAt 124 (bodyOf Try.f16)
noncomputable def ref40_Sort_p2_code : Code := codeAt 106 (loopBody ref40_Sort_p3_code)
noncomputable def ref40_Sort_p1_code : Code := codeAt 202 (loopBody ref40_Sort_p2_code)
abbrev zqp8 (β : Type) := (List (List Int)) → Int → Int → Bool → (List (List UInt8 × Int)) → (List zq2) → (List zq0) → (List (Int × (Int × Int))) → (List Int) → Option β
abbrev zqp9 := {β : Type} → zqp8 β → (List (List Int)) → Int → Int → Bool → Int → (List (List UInt8 × Int)) → (List zq2) → (List zq0) → (List (Int × (Int × Int))) → (List Int) → Option β
def zqpa : View := ⟨0, [1, 4, 6, 7, 8, 9, 10], [(false, [.ptr 0 0]), (false, [.data (.slice (.slice (.int .i64)))]), (false, [.rowh 1]), (false, [.data (.int .i64)]), (false, [.data (.int .i64)]), (false, [.data .bool]), (false, [.data (.int .i64)])], [.cells 28 [.data (.slice (.prod .str (.int .i64))), .data (.slice zq3), .data (.slice zq1), .data (.slice (.prod (.int .i64) (.prod (.int .i64) (.int .i64))))], .row 3 (.int .i64)]⟩
def zqpb : List (AExit × View) := [(.exit 4, ⟨0, [1, 4, 6, 7, 8, 9], [(false, [.ptr 0 0]), (false, [.data (.slice (.slice (.int .i64)))]), (false, [.rowh 1]), (false, [.data (.int .i64)]), (false, [.data (.int .i64)]), (false, [.data .bool])], [.cells 28 [.data (.slice (.prod .str (.int .i64))), .data (.slice zq3), .data (.slice zq1), .data (.slice (.prod (.int .i64) (.prod (.int .i64) (.int .i64))))], .row 3 (.int .i64)]⟩)]
@[reducible] def ref40_Sort_p1_G (p : zqp9) {β : Type} (d : zqpa.den) (ks : Outs.K β zqpb) : Option β :=
  p (fun a0 a1 a2 a3 a4 a5 a6 a7 a8 => ks.1 (((), (a0, ()), (), (a1, ()), (a2, ()), (a3, ()), ()), ((a4, a5, a6, a7, ()), a8, ()))) d.1.2.1.1 d.1.2.2.2.1.1 d.1.2.2.2.2.1.1 d.1.2.2.2.2.2.1.1 d.1.2.2.2.2.2.2.1.1 d.2.1.1 d.2.1.2.1 d.2.1.2.2.1 d.2.1.2.2.2.1 d.2.2.1
abbrev zqpc (β : Type) := (List (List Int)) → Int → (List (List UInt8 × Int)) → (List zq2) → (List zq0) → (List (Int × (Int × Int))) → (List Int) → Option β
abbrev zqpd := {β : Type} → zqpc β → (List (List Int)) → Int → Int → (List (List UInt8 × Int)) → (List zq2) → (List zq0) → (List (Int × (Int × Int))) → (List Int) → Option β
def zqpe : View := ⟨0, [1, 4, 6, 7, 8], [(false, [.ptr 0 0]), (false, [.data (.slice (.slice (.int .i64)))]), (false, [.rowh 1]), (false, [.data (.int .i64)]), (false, [.data (.int .i64)])], [.cells 28 [.data (.slice (.prod .str (.int .i64))), .data (.slice zq3), .data (.slice zq1), .data (.slice (.prod (.int .i64) (.prod (.int .i64) (.int .i64))))], .row 3 (.int .i64)]⟩
def zqpf : List (AExit × View) := [(.exit 2, ⟨0, [1, 4, 6, 7], [(false, [.ptr 0 0]), (false, [.data (.slice (.slice (.int .i64)))]), (false, [.rowh 1]), (false, [.data (.int .i64)])], [.cells 28 [.data (.slice (.prod .str (.int .i64))), .data (.slice zq3), .data (.slice zq1), .data (.slice (.prod (.int .i64) (.prod (.int .i64) (.int .i64))))], .row 3 (.int .i64)]⟩)]
@[reducible] def ref40_Sort_p2_G (p : zqpd) {β : Type} (d : zqpe.den) (ks : Outs.K β zqpf) : Option β :=
  p (fun a0 a1 a2 a3 a4 a5 a6 => ks.1 (((), (a0, ()), (), (a1, ()), ()), ((a2, a3, a4, a5, ()), a6, ()))) d.1.2.1.1 d.1.2.2.2.1.1 d.1.2.2.2.2.1.1 d.2.1.1 d.2.1.2.1 d.2.1.2.2.1 d.2.1.2.2.2.1 d.2.2.1
abbrev zqpg (β : Type) := (List Int) → Option β
abbrev zqph := {β : Type} → zqpg β → (List (List Int)) → (List (List UInt8 × Int)) → (List zq2) → (List zq0) → (List (Int × (Int × Int))) → (List Int) → Option β
def zqpi : View := ⟨0, [1, 4, 6], [(false, [.ptr 0 0]), (false, [.data (.slice (.slice (.int .i64)))]), (false, [.rowh 1])], [.cells 28 [.data (.slice (.prod .str (.int .i64))), .data (.slice zq3), .data (.slice zq1), .data (.slice (.prod (.int .i64) (.prod (.int .i64) (.int .i64))))], .row 3 (.int .i64)]⟩
def zqpj : List (AExit × View) := [(.exit 0, ⟨0, [6], [(false, [.rowh 0])], [.row 3 (.int .i64)]⟩)]
@[reducible] def ref40_Sort_p3_G (p : zqph) {β : Type} (d : zqpi.den) (ks : Outs.K β zqpj) : Option β :=
  p (fun a0 => ks.1 (((), ()), (a0, ()))) d.1.2.1.1 d.2.1.1 d.2.1.2.1 d.2.1.2.2.1 d.2.1.2.2.2.1 d.2.2.1
section
variable (c_ref25_Has : zq3b) (c_ref40_closed : zqmb) (c_ref40_compare : zq3u)
@[reducible] def ref40_Sort_X : Ctx := ⟨look tab, pick1 [(44, .spec (zq3c c_ref25_Has)), (40, .spec (zqmc c_ref40_closed)), (45, .spec (zq3v c_ref40_compare))], false⟩
def zqpk {β : Type} (rec : (List (List Int)) → Int → Int → Bool → Int → (List (List UInt8 × Int)) → (List zq2) → (List zq0) → (List (Int × (Int × Int))) → (List Int) → Option β) (k1 : zqp8 β) (d : List (List Int)) (best : Int) (i_ : Int) (free : Bool) (k_ : Int) (r_ : List (List UInt8 × Int)) (r_2 : List zq2) (r_3 : List zq0) (r_4 : List (Int × (Int × Int))) (out : List Int) : Option β :=
  cond (decide (k_ < (List.length r_3 : Int)))
  (cond free
  (c_ref25_Has out k_ (fun (rHas : Bool) =>
  cond rHas
  (let k_2 : Int := (IntKind.i64.wrap (k_ + (1 : Int)));
  rec d best i_ true k_2 r_ r_2 r_3 r_4 out)
  (c_ref40_compare d k_ i_ (fun (rcompare : Int) =>
  let free2 : Bool := (!decide (rcompare = (-1 : Int)));
  let k_2 : Int := (IntKind.i64.wrap (k_ + (1 : Int)));
  rec d best i_ free2 k_2 r_ r_2 r_3 r_4 out))))
  (k1 d best i_ free r_ r_2 r_3 r_4 out))
  (k1 d best i_ free r_ r_2 r_3 r_4 out)
def zqpl {β : Type} : Nat → zqp8 β → (List (List Int)) → Int → Int → Bool → Int → (List (List UInt8 × Int)) → (List zq2) → (List zq0) → (List (Int × (Int × Int))) → (List Int) → Option β
  | 0 => fun _ _ _ _ _ _ _ _ _ _ _ => none
  | i + 1 => fun k1 d best i_ free k_ r_ r_2 r_3 r_4 out => zqpk c_ref25_Has c_ref40_compare (zqpl i k1) k1 d best i_ free k_ r_ r_2 r_3 r_4 out
theorem zqpm (hΓ : ΓOk Try.prog (ref40_Sort_X c_ref25_Has c_ref40_closed c_ref40_compare).Γ) (i : Nat) : PieceOk Try.prog 118 0 ref40_Sort_p1_code zqpa zqpb (ref40_Sort_p1_G (zqpl c_ref25_Has c_ref40_compare i)) := by
  rw [show ref40_Sort_p1_code = .loop (loopBody ref40_Sort_p1_code) by kernel_rfl]
  exact piece_loop (X := (ref40_Sort_X c_ref25_Has c_ref40_closed c_ref40_compare)) (p := 1) (Λ := pick1 []) (G := fun i => @fun β d ks => ref40_Sort_p1_G (zqpl c_ref25_Has c_ref40_compare i) d ks) mixed tab_ok hΓ rfl (by kernel_rfl) CutsOk_nil (fun _ _ => rfl) (fun i => @fun β d ks r h => Eq.trans (b := ref40_Sort_p1_G (zqpl c_ref25_Has c_ref40_compare (i + 1)) d ks) (by kernel_rfl) h) i
def zqpn (p1 : zqp9) {β : Type} (rec : (List (List Int)) → Int → Int → (List (List UInt8 × Int)) → (List zq2) → (List zq0) → (List (Int × (Int × Int))) → (List Int) → Option β) (k1 : zqpc β) (d : List (List Int)) (best : Int) (i_ : Int) (r_ : List (List UInt8 × Int)) (r_2 : List zq2) (r_3 : List zq0) (r_4 : List (Int × (Int × Int))) (out : List Int) : Option β :=
  cond (decide (i_ < (List.length r_3 : Int)))
  (c_ref25_Has out i_ (fun (rHas : Bool) =>
  p1 (fun (d2 : List (List Int)) (best2 : Int) (i_2 : Int) (free : Bool) (r_5 : List (List UInt8 × Int)) (r_6 : List zq2) (r_7 : List zq0) (r_8 : List (Int × (Int × Int))) (out2 : List Int) =>
  cond (!free)
  (let i_3 : Int := (IntKind.i64.wrap (i_2 + (1 : Int)));
  rec d2 best2 i_3 r_5 r_6 r_7 r_8 out2)
  (cond (decide (best2 < (0 : Int)))
  (let i_3 : Int := (IntKind.i64.wrap (i_2 + (1 : Int)));
  rec d2 i_2 i_3 r_5 r_6 r_7 r_8 out2)
  (cond (decide (0 ≤ (IntKind.i64.wrap (i_2 + (1 : Int)))) && decide ((IntKind.i64.wrap (i_2 + (1 : Int))) < (List.length d2 : Int)))
  (let e : List Int := List.getD d2 (Int.toNat (IntKind.i64.wrap (i_2 + (1 : Int)))) ([] : List Int);
  cond (decide (0 ≤ (0 : Int)) && decide ((0 : Int) < (List.length e : Int)))
  (let e2 : Int := List.getD e (Int.toNat (0 : Int)) (0 : Int);
  cond (decide (0 ≤ (IntKind.i64.wrap (best2 + (1 : Int)))) && decide ((IntKind.i64.wrap (best2 + (1 : Int))) < (List.length d2 : Int)))
  (let e3 : List Int := List.getD d2 (Int.toNat (IntKind.i64.wrap (best2 + (1 : Int)))) ([] : List Int);
  cond (decide (0 ≤ (0 : Int)) && decide ((0 : Int) < (List.length e3 : Int)))
  (let e4 : Int := List.getD e3 (Int.toNat (0 : Int)) (0 : Int);
  cond (decide ((IntKind.i64.wrap (0 - e2)) < (IntKind.i64.wrap (0 - e4))))
  (let i_3 : Int := (IntKind.i64.wrap (i_2 + (1 : Int)));
  rec d2 i_2 i_3 r_5 r_6 r_7 r_8 out2)
  (cond (decide (0 ≤ (IntKind.i64.wrap (i_2 + (1 : Int)))) && decide ((IntKind.i64.wrap (i_2 + (1 : Int))) < (List.length d2 : Int)))
  (let e5 : List Int := List.getD d2 (Int.toNat (IntKind.i64.wrap (i_2 + (1 : Int)))) ([] : List Int);
  cond (decide (0 ≤ (0 : Int)) && decide ((0 : Int) < (List.length e5 : Int)))
  (let e6 : Int := List.getD e5 (Int.toNat (0 : Int)) (0 : Int);
  cond (decide (0 ≤ (IntKind.i64.wrap (best2 + (1 : Int)))) && decide ((IntKind.i64.wrap (best2 + (1 : Int))) < (List.length d2 : Int)))
  (let e7 : List Int := List.getD d2 (Int.toNat (IntKind.i64.wrap (best2 + (1 : Int)))) ([] : List Int);
  cond (decide (0 ≤ (0 : Int)) && decide ((0 : Int) < (List.length e7 : Int)))
  (let e8 : Int := List.getD e7 (Int.toNat (0 : Int)) (0 : Int);
  cond (decide (e6 = e8))
  (cond (decide (0 ≤ (0 : Int)) && decide ((0 : Int) < (List.length d2 : Int)))
  (let e9 : List Int := List.getD d2 (Int.toNat (0 : Int)) ([] : List Int);
  cond (decide (0 ≤ (IntKind.i64.wrap (i_2 + (1 : Int)))) && decide ((IntKind.i64.wrap (i_2 + (1 : Int))) < (List.length e9 : Int)))
  (let e10 : Int := List.getD e9 (Int.toNat (IntKind.i64.wrap (i_2 + (1 : Int)))) (0 : Int);
  cond (decide (0 ≤ (0 : Int)) && decide ((0 : Int) < (List.length d2 : Int)))
  (let e11 : List Int := List.getD d2 (Int.toNat (0 : Int)) ([] : List Int);
  cond (decide (0 ≤ (IntKind.i64.wrap (best2 + (1 : Int)))) && decide ((IntKind.i64.wrap (best2 + (1 : Int))) < (List.length e11 : Int)))
  (let e12 : Int := List.getD e11 (Int.toNat (IntKind.i64.wrap (best2 + (1 : Int)))) (0 : Int);
  cond (decide (e10 < e12))
  (let i_3 : Int := (IntKind.i64.wrap (i_2 + (1 : Int)));
  rec d2 i_2 i_3 r_5 r_6 r_7 r_8 out2)
  (let i_3 : Int := (IntKind.i64.wrap (i_2 + (1 : Int)));
  rec d2 best2 i_3 r_5 r_6 r_7 r_8 out2))
  none)
  none)
  none)
  none)
  (let i_3 : Int := (IntKind.i64.wrap (i_2 + (1 : Int)));
  rec d2 best2 i_3 r_5 r_6 r_7 r_8 out2))
  none)
  none)
  none)
  none))
  none)
  none)
  none)
  none))) d best i_ (!rHas) (0 : Int) r_ r_2 r_3 r_4 out))
  (k1 d best r_ r_2 r_3 r_4 out)
def zqpo (p1 : zqp9) {β : Type} : Nat → zqpc β → (List (List Int)) → Int → Int → (List (List UInt8 × Int)) → (List zq2) → (List zq0) → (List (Int × (Int × Int))) → (List Int) → Option β
  | 0 => fun _ _ _ _ _ _ _ _ _ => none
  | i + 1 => fun k1 d best i_ r_ r_2 r_3 r_4 out => zqpn c_ref25_Has p1 (zqpo p1 i k1) k1 d best i_ r_ r_2 r_3 r_4 out
theorem zqpp (hΓ : ΓOk Try.prog (ref40_Sort_X c_ref25_Has c_ref40_closed c_ref40_compare).Γ) (p1 : zqp9) (hp1 : PieceOk Try.prog 118 0 ref40_Sort_p1_code zqpa zqpb (ref40_Sort_p1_G p1)) (i : Nat) : PieceOk Try.prog 118 0 ref40_Sort_p2_code zqpe zqpf (ref40_Sort_p2_G (zqpo c_ref25_Has p1 i)) := by
  rw [show ref40_Sort_p2_code = .loop (loopBody ref40_Sort_p2_code) by kernel_rfl]
  exact piece_loop (X := (ref40_Sort_X c_ref25_Has c_ref40_closed c_ref40_compare)) (p := 1) (Λ := pick1 [(202, pieceCut zqpa zqpb (ref40_Sort_p1_G p1))]) (G := fun i => @fun β d ks => ref40_Sort_p2_G (zqpo c_ref25_Has p1 i) d ks) mixed tab_ok hΓ rfl (by kernel_rfl) (CutsOk_cons (q := 202) (c' := ref40_Sort_p1_code) (by kernel_rfl) rfl hp1 CutsOk_nil) (fun _ _ => rfl) (fun i => @fun β d ks r h => Eq.trans (b := ref40_Sort_p2_G (zqpo c_ref25_Has p1 (i + 1)) d ks) (by kernel_rfl) h) i
def zqpq (p2 : zqpd) {β : Type} (rec : (List (List Int)) → (List (List UInt8 × Int)) → (List zq2) → (List zq0) → (List (Int × (Int × Int))) → (List Int) → Option β) (k1 : zqpg β) (d : List (List Int)) (r_ : List (List UInt8 × Int)) (r_2 : List zq2) (r_3 : List zq0) (r_4 : List (Int × (Int × Int))) (out : List Int) : Option β :=
  cond (decide ((List.length out : Int) < (List.length r_3 : Int)))
  (p2 (fun (d2 : List (List Int)) (best : Int) (r_5 : List (List UInt8 × Int)) (r_6 : List zq2) (r_7 : List zq0) (r_8 : List (Int × (Int × Int))) (out2 : List Int) =>
  let l : List Int := ([best] : List Int);
  cond (decide ((List.length out2 + List.length l) * 8 ≤ roomMax))
  (let l2 : List Int := (out2 ++ l);
  rec d2 r_5 r_6 r_7 r_8 l2)
  none) d (-1 : Int) (0 : Int) r_ r_2 r_3 r_4 out)
  (k1 out)
def zqpr (p2 : zqpd) {β : Type} : Nat → zqpg β → (List (List Int)) → (List (List UInt8 × Int)) → (List zq2) → (List zq0) → (List (Int × (Int × Int))) → (List Int) → Option β
  | 0 => fun _ _ _ _ _ _ _ => none
  | i + 1 => fun k1 d r_ r_2 r_3 r_4 out => zqpq p2 (zqpr p2 i k1) k1 d r_ r_2 r_3 r_4 out
theorem zqps (hΓ : ΓOk Try.prog (ref40_Sort_X c_ref25_Has c_ref40_closed c_ref40_compare).Γ) (p2 : zqpd) (hp2 : PieceOk Try.prog 118 0 ref40_Sort_p2_code zqpe zqpf (ref40_Sort_p2_G p2)) (i : Nat) : PieceOk Try.prog 118 0 ref40_Sort_p3_code zqpi zqpj (ref40_Sort_p3_G (zqpr p2 i)) := by
  rw [show ref40_Sort_p3_code = .loop (loopBody ref40_Sort_p3_code) by kernel_rfl]
  exact piece_loop (X := (ref40_Sort_X c_ref25_Has c_ref40_closed c_ref40_compare)) (p := 1) (Λ := pick1 [(106, pieceCut zqpe zqpf (ref40_Sort_p2_G p2))]) (G := fun i => @fun β d ks => ref40_Sort_p3_G (zqpr p2 i) d ks) mixed tab_ok hΓ rfl (by kernel_rfl) (CutsOk_cons (q := 106) (c' := ref40_Sort_p2_code) (by kernel_rfl) rfl hp2 CutsOk_nil) (fun _ _ => rfl) (fun i => @fun β d ks r h => Eq.trans (b := ref40_Sort_p3_G (zqpr p2 (i + 1)) d ks) (by kernel_rfl) h) i
def zqpt (p3 : zqph) {β : Type} (r_ : zq4) (k : (Bool → (List Int) → Option β)) : Option β :=
  c_ref40_closed r_ (fun (rclosed : List (List Int)) (rclosed2 : Bool) =>
  cond (!rclosed2)
  (k false ([] : List Int))
  (p3 (fun (out : List Int) =>
  k true out) rclosed r_.1 r_.2.1 r_.2.2.1 r_.2.2.2 ([] : List Int)))
theorem zqpu (hΓ : ΓOk Try.prog (ref40_Sort_X c_ref25_Has c_ref40_closed c_ref40_compare).Γ) (p3 : zqph) (hp3 : PieceOk Try.prog 118 0 ref40_Sort_p3_code zqpi zqpj (ref40_Sort_p3_G p3)) : SpecOk Try.prog 16 (zqp7 (zqpt c_ref40_closed p3)) :=
  spec_exec (X := (ref40_Sort_X c_ref25_Has c_ref40_closed c_ref40_compare)) (Λ := pick1 [(124, pieceCut zqpi zqpj (ref40_Sort_p3_G p3))]) (rs := [.tmp 2, .tmp 3]) (c := bodyOf Try.f16) mixed tab_ok hΓ Try.func16 (by kernel_rfl) (by kernel_rfl) (by kernel_rfl) (by kernel_rfl) (CutsOk_cons (q := 124) (c' := ref40_Sort_p3_code) (by kernel_rfl) rfl hp3 CutsOk_nil) (fun x k r h => Eq.trans (b := (zqp7 (zqpt c_ref40_closed p3)).run x k) (by kernel_rfl) h)
end
theorem zqpvΓ : ΓOk Try.prog (pick1 [(44, .spec (zq3c zq3s)), (40, .spec (zqmc zqmg)), (45, .spec (zq3v zq3z))]) := (ΓOk_cons zq3t (ΓOk_cons zqmh (ΓOk_cons zq40 ΓOk_nil)))
def zqpw (m : Nat) : zqp9 := zqpl zq3s zq3z m
theorem zqpx {β : Type} (i : Nat) (k1 d best i_ free k_ r_ r_2 r_3 r_4 out) : (zqpw (i + 1) k1 d best i_ free k_ r_ r_2 r_3 r_4 out : Option β) = zqpk zq3s zq3z (zqpw i k1) k1 d best i_ free k_ r_ r_2 r_3 r_4 out := rfl
def zqpy : zqp9 := zqpw fuel
theorem zqpz : PieceOk Try.prog 118 0 ref40_Sort_p1_code zqpa zqpb (ref40_Sort_p1_G zqpy) := zqpm zq3s zqmg zq3z zqpvΓ fuel
def zqq0 (m : Nat) : zqpd := zqpo zq3s zqpy m
theorem zqq1 {β : Type} (i : Nat) (k1 d best i_ r_ r_2 r_3 r_4 out) : (zqq0 (i + 1) k1 d best i_ r_ r_2 r_3 r_4 out : Option β) = zqpn zq3s zqpy (zqq0 i k1) k1 d best i_ r_ r_2 r_3 r_4 out := rfl
def zqq2 : zqpd := zqq0 fuel
theorem zqq3 : PieceOk Try.prog 118 0 ref40_Sort_p2_code zqpe zqpf (ref40_Sort_p2_G zqq2) := zqpp zq3s zqmg zq3z zqpvΓ zqpy zqpz fuel
def zqq4 (m : Nat) : zqph := zqpr zqq2 m
theorem zqq5 {β : Type} (i : Nat) (k1 d r_ r_2 r_3 r_4 out) : (zqq4 (i + 1) k1 d r_ r_2 r_3 r_4 out : Option β) = zqpq zqq2 (zqq4 i k1) k1 d r_ r_2 r_3 r_4 out := rfl
def zqq6 : zqph := zqq4 fuel
theorem zqq7 : PieceOk Try.prog 118 0 ref40_Sort_p3_code zqpi zqpj (ref40_Sort_p3_G zqq6) := zqps zq3s zqmg zq3z zqpvΓ zqq2 zqq3 fuel
def zqq8 : zqp6 := zqpt zqmg zqq6
theorem zqq9 : SpecOk Try.prog 16 (zqp7 zqq8) := zqpu zq3s zqmg zq3z zqpvΓ zqq6 zqq7

/-- pagewatch/pagewatchref40.Open -/
abbrev zqqa := {β : Type} → zq4 → ((List (Int × Int)) → Option β) → Option β
def zqqb (c : zqqa) : Spec :=
  ⟨[(true, [.data zq5])], [], [(false, [.rowh 0])], [.row 53 (.prod (.int .i64) (.int .i64))], fun x k => c x.1.1.1 (fun r0 => k (((), ()), (r0, ())))⟩
noncomputable def ref40_Open_p2_code : Code := codeAt 122 (bodyOf Try.f21)
noncomputable def ref40_Open_p1_code : Code := codeAt 50 (loopBody ref40_Open_p2_code)
abbrev zqqc (β : Type) := (List (List Int)) → Bool → Int → (List (List UInt8 × Int)) → (List zq2) → (List zq0) → (List (Int × (Int × Int))) → (List (Int × Int)) → Option β
abbrev zqqd := {β : Type} → zqqc β → (List (List Int)) → Bool → Int → Int → (List (List UInt8 × Int)) → (List zq2) → (List zq0) → (List (Int × (Int × Int))) → (List (Int × Int)) → Option β
def zqqe : View := ⟨0, [1, 3, 4, 5, 6, 7], [(false, [.ptr 0 0]), (false, [.data (.slice (.slice (.int .i64)))]), (false, [.data .bool]), (false, [.rowh 1]), (false, [.data (.int .i64)]), (false, [.data (.int .i64)])], [.cells 28 [.data (.slice (.prod .str (.int .i64))), .data (.slice zq3), .data (.slice zq1), .data (.slice (.prod (.int .i64) (.prod (.int .i64) (.int .i64))))], .row 53 (.prod (.int .i64) (.int .i64))]⟩
def zqqf : List (AExit × View) := [(.exit 2, ⟨0, [1, 3, 4, 5, 6], [(false, [.ptr 0 0]), (false, [.data (.slice (.slice (.int .i64)))]), (false, [.data .bool]), (false, [.rowh 1]), (false, [.data (.int .i64)])], [.cells 28 [.data (.slice (.prod .str (.int .i64))), .data (.slice zq3), .data (.slice zq1), .data (.slice (.prod (.int .i64) (.prod (.int .i64) (.int .i64))))], .row 53 (.prod (.int .i64) (.int .i64))]⟩)]
@[reducible] def ref40_Open_p1_G (p : zqqd) {β : Type} (d : zqqe.den) (ks : Outs.K β zqqf) : Option β :=
  p (fun a0 a1 a2 a3 a4 a5 a6 a7 => ks.1 (((), (a0, ()), (a1, ()), (), (a2, ()), ()), ((a3, a4, a5, a6, ()), a7, ()))) d.1.2.1.1 d.1.2.2.1.1 d.1.2.2.2.2.1.1 d.1.2.2.2.2.2.1.1 d.2.1.1 d.2.1.2.1 d.2.1.2.2.1 d.2.1.2.2.2.1 d.2.2.1
abbrev zqqg (β : Type) := (List (Int × Int)) → Option β
abbrev zqqh := {β : Type} → zqqg β → (List (List Int)) → Bool → Int → (List (List UInt8 × Int)) → (List zq2) → (List zq0) → (List (Int × (Int × Int))) → (List (Int × Int)) → Option β
def zqqi : View := ⟨0, [1, 3, 4, 5, 6], [(false, [.ptr 0 0]), (false, [.data (.slice (.slice (.int .i64)))]), (false, [.data .bool]), (false, [.rowh 1]), (false, [.data (.int .i64)])], [.cells 28 [.data (.slice (.prod .str (.int .i64))), .data (.slice zq3), .data (.slice zq1), .data (.slice (.prod (.int .i64) (.prod (.int .i64) (.int .i64))))], .row 53 (.prod (.int .i64) (.int .i64))]⟩
def zqqj : List (AExit × View) := [(.exit 0, ⟨0, [5], [(false, [.rowh 0])], [.row 53 (.prod (.int .i64) (.int .i64))]⟩)]
@[reducible] def ref40_Open_p2_G (p : zqqh) {β : Type} (d : zqqi.den) (ks : Outs.K β zqqj) : Option β :=
  p (fun a0 => ks.1 (((), ()), (a0, ()))) d.1.2.1.1 d.1.2.2.1.1 d.1.2.2.2.2.1.1 d.2.1.1 d.2.1.2.1 d.2.1.2.2.1 d.2.1.2.2.2.1 d.2.2.1
section
variable (c_ref40_closed : zqmb) (c_ref40_compare : zq3u)
@[reducible] def ref40_Open_X : Ctx := ⟨look tab, pick1 [(40, .spec (zqmc c_ref40_closed)), (45, .spec (zq3v c_ref40_compare))], false⟩
def zqqk {β : Type} (rec : (List (List Int)) → Bool → Int → Int → (List (List UInt8 × Int)) → (List zq2) → (List zq0) → (List (Int × (Int × Int))) → (List (Int × Int)) → Option β) (k1 : zqqc β) (d : List (List Int)) (ok : Bool) (a : Int) (b : Int) (r_ : List (List UInt8 × Int)) (r_2 : List zq2) (r_3 : List zq0) (r_4 : List (Int × (Int × Int))) (out : List (Int × Int)) : Option β :=
  cond (decide (b < (List.length r_3 : Int)))
  (c_ref40_compare d a b (fun (rcompare : Int) =>
  cond (decide (rcompare = (0 : Int)))
  (let l : List (Int × Int) := ([(a, b)] : List (Int × Int));
  cond (decide ((List.length out + List.length l) * 16 ≤ roomMax))
  (let l2 : List (Int × Int) := (out ++ l);
  let b2 : Int := (IntKind.i64.wrap (b + (1 : Int)));
  rec d ok a b2 r_ r_2 r_3 r_4 l2)
  none)
  (let b2 : Int := (IntKind.i64.wrap (b + (1 : Int)));
  rec d ok a b2 r_ r_2 r_3 r_4 out)))
  (k1 d ok a r_ r_2 r_3 r_4 out)
def zqql {β : Type} : Nat → zqqc β → (List (List Int)) → Bool → Int → Int → (List (List UInt8 × Int)) → (List zq2) → (List zq0) → (List (Int × (Int × Int))) → (List (Int × Int)) → Option β
  | 0 => fun _ _ _ _ _ _ _ _ _ _ => none
  | i + 1 => fun k1 d ok a b r_ r_2 r_3 r_4 out => zqqk c_ref40_compare (zqql i k1) k1 d ok a b r_ r_2 r_3 r_4 out
theorem zqqm (hΓ : ΓOk Try.prog (ref40_Open_X c_ref40_closed c_ref40_compare).Γ) (i : Nat) : PieceOk Try.prog 44 0 ref40_Open_p1_code zqqe zqqf (ref40_Open_p1_G (zqql c_ref40_compare i)) := by
  rw [show ref40_Open_p1_code = .loop (loopBody ref40_Open_p1_code) by kernel_rfl]
  exact piece_loop (X := (ref40_Open_X c_ref40_closed c_ref40_compare)) (p := 1) (Λ := pick1 []) (G := fun i => @fun β d ks => ref40_Open_p1_G (zqql c_ref40_compare i) d ks) mixed tab_ok hΓ rfl (by kernel_rfl) CutsOk_nil (fun _ _ => rfl) (fun i => @fun β d ks r h => Eq.trans (b := ref40_Open_p1_G (zqql c_ref40_compare (i + 1)) d ks) (by kernel_rfl) h) i
def zqqn (p1 : zqqd) {β : Type} (rec : (List (List Int)) → Bool → Int → (List (List UInt8 × Int)) → (List zq2) → (List zq0) → (List (Int × (Int × Int))) → (List (Int × Int)) → Option β) (k1 : zqqg β) (d : List (List Int)) (ok : Bool) (a : Int) (r_ : List (List UInt8 × Int)) (r_2 : List zq2) (r_3 : List zq0) (r_4 : List (Int × (Int × Int))) (out : List (Int × Int)) : Option β :=
  cond ok
  (cond (decide (a < (List.length r_3 : Int)))
  (let b : Int := (IntKind.i64.wrap (a + (1 : Int)));
  p1 (fun (d2 : List (List Int)) (ok2 : Bool) (a2 : Int) (r_5 : List (List UInt8 × Int)) (r_6 : List zq2) (r_7 : List zq0) (r_8 : List (Int × (Int × Int))) (out2 : List (Int × Int)) =>
  let a3 : Int := (IntKind.i64.wrap (a2 + (1 : Int)));
  rec d2 ok2 a3 r_5 r_6 r_7 r_8 out2) d ok a b r_ r_2 r_3 r_4 out)
  (k1 out))
  (k1 out)
def zqqo (p1 : zqqd) {β : Type} : Nat → zqqg β → (List (List Int)) → Bool → Int → (List (List UInt8 × Int)) → (List zq2) → (List zq0) → (List (Int × (Int × Int))) → (List (Int × Int)) → Option β
  | 0 => fun _ _ _ _ _ _ _ _ _ => none
  | i + 1 => fun k1 d ok a r_ r_2 r_3 r_4 out => zqqn p1 (zqqo p1 i k1) k1 d ok a r_ r_2 r_3 r_4 out
theorem zqqp (hΓ : ΓOk Try.prog (ref40_Open_X c_ref40_closed c_ref40_compare).Γ) (p1 : zqqd) (hp1 : PieceOk Try.prog 44 0 ref40_Open_p1_code zqqe zqqf (ref40_Open_p1_G p1)) (i : Nat) : PieceOk Try.prog 44 0 ref40_Open_p2_code zqqi zqqj (ref40_Open_p2_G (zqqo p1 i)) := by
  rw [show ref40_Open_p2_code = .loop (loopBody ref40_Open_p2_code) by kernel_rfl]
  exact piece_loop (X := (ref40_Open_X c_ref40_closed c_ref40_compare)) (p := 1) (Λ := pick1 [(50, pieceCut zqqe zqqf (ref40_Open_p1_G p1))]) (G := fun i => @fun β d ks => ref40_Open_p2_G (zqqo p1 i) d ks) mixed tab_ok hΓ rfl (by kernel_rfl) (CutsOk_cons (q := 50) (c' := ref40_Open_p1_code) (by kernel_rfl) rfl hp1 CutsOk_nil) (fun _ _ => rfl) (fun i => @fun β d ks r h => Eq.trans (b := ref40_Open_p2_G (zqqo p1 (i + 1)) d ks) (by kernel_rfl) h) i
def zqqq (p2 : zqqh) {β : Type} (r_ : zq4) (k : ((List (Int × Int)) → Option β)) : Option β :=
  c_ref40_closed r_ (fun (rclosed : List (List Int)) (rclosed2 : Bool) =>
  p2 (fun (out : List (Int × Int)) =>
  k out) rclosed rclosed2 (0 : Int) r_.1 r_.2.1 r_.2.2.1 r_.2.2.2 ([] : List (Int × Int)))
theorem zqqr (hΓ : ΓOk Try.prog (ref40_Open_X c_ref40_closed c_ref40_compare).Γ) (p2 : zqqh) (hp2 : PieceOk Try.prog 44 0 ref40_Open_p2_code zqqi zqqj (ref40_Open_p2_G p2)) : SpecOk Try.prog 21 (zqqb (zqqq c_ref40_closed p2)) :=
  spec_exec (X := (ref40_Open_X c_ref40_closed c_ref40_compare)) (Λ := pick1 [(122, pieceCut zqqi zqqj (ref40_Open_p2_G p2))]) (rs := [.tmp 2]) (c := bodyOf Try.f21) mixed tab_ok hΓ Try.func21 (by kernel_rfl) (by kernel_rfl) (by kernel_rfl) (by kernel_rfl) (CutsOk_cons (q := 122) (c' := ref40_Open_p2_code) (by kernel_rfl) rfl hp2 CutsOk_nil) (fun x k r h => Eq.trans (b := (zqqb (zqqq c_ref40_closed p2)).run x k) (by kernel_rfl) h)
end
theorem zqqsΓ : ΓOk Try.prog (pick1 [(40, .spec (zqmc zqmg)), (45, .spec (zq3v zq3z))]) := (ΓOk_cons zqmh (ΓOk_cons zq40 ΓOk_nil))
def zqqt (m : Nat) : zqqd := zqql zq3z m
theorem zqqu {β : Type} (i : Nat) (k1 d ok a b r_ r_2 r_3 r_4 out) : (zqqt (i + 1) k1 d ok a b r_ r_2 r_3 r_4 out : Option β) = zqqk zq3z (zqqt i k1) k1 d ok a b r_ r_2 r_3 r_4 out := rfl
def zqqv : zqqd := zqqt fuel
theorem zqqw : PieceOk Try.prog 44 0 ref40_Open_p1_code zqqe zqqf (ref40_Open_p1_G zqqv) := zqqm zqmg zq3z zqqsΓ fuel
def zqqx (m : Nat) : zqqh := zqqo zqqv m
theorem zqqy {β : Type} (i : Nat) (k1 d ok a r_ r_2 r_3 r_4 out) : (zqqx (i + 1) k1 d ok a r_ r_2 r_3 r_4 out : Option β) = zqqn zqqv (zqqx i k1) k1 d ok a r_ r_2 r_3 r_4 out := rfl
def zqqz : zqqh := zqqx fuel
theorem zqr0 : PieceOk Try.prog 44 0 ref40_Open_p2_code zqqi zqqj (ref40_Open_p2_G zqqz) := zqqp zqmg zq3z zqqsΓ zqqv zqqw fuel
def zqr1 : zqqa := zqqq zqmg zqqz
theorem zqr2 : SpecOk Try.prog 21 (zqqb zqr1) := zqqr zqmg zq3z zqqsΓ zqqz zqr0

/-- pagewatch/pagewatchref40.Gap -/
abbrev zqr3 := {β : Type} → zq4 → Int → Int → ((Int × Int) → Bool → Option β) → Option β
def zqr4 (c : zqr3) : Spec :=
  ⟨[(true, [.data zq5]), (false, [.data (.int .i64)]), (false, [.data (.int .i64)])], [], [(true, [.data (.prod (.int .i64) (.int .i64))]), (false, [.data .bool])], [], fun x k => c x.1.1.1 x.1.2.1.1 x.1.2.2.1.1 (fun r0 r1 => k (((r0, ()), (r1, ()), ()), ()))⟩
section
variable (c_ref25_In : zq48) (c_ref40_closed : zqmb)
@[reducible] def ref40_Gap_X : Ctx := ⟨look tab, pick1 [(48, .spec (zq49 c_ref25_In)), (40, .spec (zqmc c_ref40_closed))], false⟩
def zqr5 {β : Type} (r_ : zq4) (a : Int) (b : Int) (k : ((Int × Int) → Bool → Option β)) : Option β :=
  c_ref40_closed r_ (fun (rclosed : List (List Int)) (rclosed2 : Bool) =>
  cond (!rclosed2)
  (k ((0 : Int), (0 : Int)) false)
  (c_ref25_In a (0 : Int) (IntKind.i64.wrap ((List.length r_.2.2.1 : Int) - (1 : Int))) (fun (rIn : Bool) =>
  cond (!rIn)
  (k ((0 : Int), (0 : Int)) false)
  (c_ref25_In b (0 : Int) (IntKind.i64.wrap ((List.length r_.2.2.1 : Int) - (1 : Int))) (fun (rIn2 : Bool) =>
  cond (!rIn2)
  (k ((0 : Int), (0 : Int)) false)
  (cond (decide (0 ≤ (IntKind.i64.wrap (b + (1 : Int)))) && decide ((IntKind.i64.wrap (b + (1 : Int))) < (List.length rclosed : Int)))
  (let e : List Int := List.getD rclosed (Int.toNat (IntKind.i64.wrap (b + (1 : Int)))) ([] : List Int);
  cond (decide (0 ≤ (IntKind.i64.wrap (a + (1 : Int)))) && decide ((IntKind.i64.wrap (a + (1 : Int))) < (List.length e : Int)))
  (let e2 : Int := List.getD e (Int.toNat (IntKind.i64.wrap (a + (1 : Int)))) (0 : Int);
  cond (decide (0 ≤ (IntKind.i64.wrap (a + (1 : Int)))) && decide ((IntKind.i64.wrap (a + (1 : Int))) < (List.length rclosed : Int)))
  (let e3 : List Int := List.getD rclosed (Int.toNat (IntKind.i64.wrap (a + (1 : Int)))) ([] : List Int);
  cond (decide (0 ≤ (IntKind.i64.wrap (b + (1 : Int)))) && decide ((IntKind.i64.wrap (b + (1 : Int))) < (List.length e3 : Int)))
  (let e4 : Int := List.getD e3 (Int.toNat (IntKind.i64.wrap (b + (1 : Int)))) (0 : Int);
  k ((IntKind.i64.wrap (0 - e2)), e4) true)
  none)
  none)
  none)
  none))))))
theorem zqr6 (hΓ : ΓOk Try.prog (ref40_Gap_X c_ref25_In c_ref40_closed).Γ) : SpecOk Try.prog 24 (zqr4 (zqr5 c_ref25_In c_ref40_closed)) :=
  spec_exec (X := (ref40_Gap_X c_ref25_In c_ref40_closed)) (Λ := pick1 []) (rs := [.cell 6 56, .tmp 7]) (c := bodyOf Try.f24) mixed tab_ok hΓ Try.func24 (by kernel_rfl) (by kernel_rfl) (by kernel_rfl) (by kernel_rfl) CutsOk_nil (fun x k r h => Eq.trans (b := (zqr4 (zqr5 c_ref25_In c_ref40_closed)).run x k) (by kernel_rfl) h)
end
theorem zqr7Γ : ΓOk Try.prog (pick1 [(48, .spec (zq49 zq4d)), (40, .spec (zqmc zqmg))]) := (ΓOk_cons zq4e (ΓOk_cons zqmh ΓOk_nil))
def zqr8 : zqr3 := zqr5 zq4d zqmg
theorem zqr9 : SpecOk Try.prog 24 (zqr4 zqr8) := zqr6 zq4d zqmg zqr7Γ

/-- pagewatch/pagewatchref40.Compare -/
abbrev zqra := {β : Type} → zq4 → Int → Int → (Int → Bool → Option β) → Option β
def zqrb (c : zqra) : Spec :=
  ⟨[(true, [.data zq5]), (false, [.data (.int .i64)]), (false, [.data (.int .i64)])], [], [(false, [.data (.int .i64)]), (false, [.data .bool])], [], fun x k => c x.1.1.1 x.1.2.1.1 x.1.2.2.1.1 (fun r0 r1 => k (((r0, ()), (r1, ()), ()), ()))⟩
section
variable (c_ref25_In : zq48) (c_ref40_closed : zqmb) (c_ref40_compare : zq3u)
@[reducible] def ref40_Compare_X : Ctx := ⟨look tab, pick1 [(48, .spec (zq49 c_ref25_In)), (40, .spec (zqmc c_ref40_closed)), (45, .spec (zq3v c_ref40_compare))], false⟩
def zqrc {β : Type} (r_ : zq4) (a : Int) (b : Int) (k : (Int → Bool → Option β)) : Option β :=
  c_ref40_closed r_ (fun (rclosed : List (List Int)) (rclosed2 : Bool) =>
  cond (!rclosed2)
  (k (0 : Int) false)
  (c_ref25_In a (0 : Int) (IntKind.i64.wrap ((List.length r_.2.2.1 : Int) - (1 : Int))) (fun (rIn : Bool) =>
  cond (!rIn)
  (k (0 : Int) false)
  (c_ref25_In b (0 : Int) (IntKind.i64.wrap ((List.length r_.2.2.1 : Int) - (1 : Int))) (fun (rIn2 : Bool) =>
  cond (!rIn2)
  (k (0 : Int) false)
  (c_ref40_compare rclosed a b (fun (rcompare : Int) =>
  k rcompare true)))))))
theorem zqrd (hΓ : ΓOk Try.prog (ref40_Compare_X c_ref25_In c_ref40_closed c_ref40_compare).Γ) : SpecOk Try.prog 26 (zqrb (zqrc c_ref25_In c_ref40_closed c_ref40_compare)) :=
  spec_exec (X := (ref40_Compare_X c_ref25_In c_ref40_closed c_ref40_compare)) (Λ := pick1 []) (rs := [.tmp 6, .tmp 7]) (c := bodyOf Try.f26) mixed tab_ok hΓ Try.func26 (by kernel_rfl) (by kernel_rfl) (by kernel_rfl) (by kernel_rfl) CutsOk_nil (fun x k r h => Eq.trans (b := (zqrb (zqrc c_ref25_In c_ref40_closed c_ref40_compare)).run x k) (by kernel_rfl) h)
end
theorem zqreΓ : ΓOk Try.prog (pick1 [(48, .spec (zq49 zq4d)), (40, .spec (zqmc zqmg)), (45, .spec (zq3v zq3z))]) := (ΓOk_cons zq4e (ΓOk_cons zqmh (ΓOk_cons zq40 ΓOk_nil)))
def zqrf : zqra := zqrc zq4d zqmg zq3z
theorem zqrg : SpecOk Try.prog 26 (zqrb zqrf) := zqrd zq4d zqmg zq3z zqreΓ

/-- pagewatch/pagewatchref40.Allows -/
abbrev zqrh := {β : Type} → zq4 → (List Int) → (Bool → Option β) → Option β
def zqri (c : zqrh) : Spec :=
  ⟨[(true, [.data zq5]), (false, [.data (.slice (.int .i64))])], [], [(false, [.data .bool])], [], fun x k => c x.1.1.1 x.1.2.1.1 (fun r0 => k (((r0, ()), ()), ()))⟩
noncomputable def ref40_Allows_p2_code : Code := codeAt 122 (bodyOf Try.f28)
noncomputable def ref40_Allows_p1_code : Code := codeAt 102 (loopBody ref40_Allows_p2_code)
abbrev zqrj (β : Type) := Bool → Option β
abbrev zqrk (β : Type) := (List Int) → (List (List Int)) → Int → (List (List UInt8 × Int)) → (List zq2) → (List zq0) → (List (Int × (Int × Int))) → Option β
abbrev zqrl := {β : Type} → zqrj β → zqrk β → (List Int) → (List (List Int)) → Int → Int → (List (List UInt8 × Int)) → (List zq2) → (List zq0) → (List (Int × (Int × Int))) → Option β
def zqrm : View := ⟨0, [1, 2, 5, 7, 8], [(false, [.data (.slice (.int .i64))]), (false, [.ptr 0 0]), (false, [.data (.slice (.slice (.int .i64)))]), (false, [.data (.int .i64)]), (false, [.data (.int .i64)])], [.cells 28 [.data (.slice (.prod .str (.int .i64))), .data (.slice zq3), .data (.slice zq1), .data (.slice (.prod (.int .i64) (.prod (.int .i64) (.int .i64))))]]⟩
def zqrn : List (AExit × View) := [(.ret, ⟨0, [4], [(false, [.data .bool])], []⟩), (.exit 2, ⟨0, [1, 2, 5, 7], [(false, [.data (.slice (.int .i64))]), (false, [.ptr 0 0]), (false, [.data (.slice (.slice (.int .i64)))]), (false, [.data (.int .i64)])], [.cells 28 [.data (.slice (.prod .str (.int .i64))), .data (.slice zq3), .data (.slice zq1), .data (.slice (.prod (.int .i64) (.prod (.int .i64) (.int .i64))))]]⟩)]
@[reducible] def ref40_Allows_p1_G (p : zqrl) {β : Type} (d : zqrm.den) (ks : Outs.K β zqrn) : Option β :=
  p (fun a0 => ks.1 (((a0, ()), ()), ())) (fun a0 a1 a2 a3 a4 a5 a6 => ks.2.1 (((a0, ()), (), (a1, ()), (a2, ()), ()), ((a3, a4, a5, a6, ()), ()))) d.1.1.1 d.1.2.2.1.1 d.1.2.2.2.1.1 d.1.2.2.2.2.1.1 d.2.1.1 d.2.1.2.1 d.2.1.2.2.1 d.2.1.2.2.2.1
abbrev zqro (β : Type) := Bool → Option β
abbrev zqrp (β : Type) := Unit → Option β
abbrev zqrq := {β : Type} → zqro β → zqrp β → (List Int) → (List (List Int)) → Int → (List (List UInt8 × Int)) → (List zq2) → (List zq0) → (List (Int × (Int × Int))) → Option β
def zqrr : View := ⟨0, [1, 2, 5, 7], [(false, [.data (.slice (.int .i64))]), (false, [.ptr 0 0]), (false, [.data (.slice (.slice (.int .i64)))]), (false, [.data (.int .i64)])], [.cells 28 [.data (.slice (.prod .str (.int .i64))), .data (.slice zq3), .data (.slice zq1), .data (.slice (.prod (.int .i64) (.prod (.int .i64) (.int .i64))))]]⟩
def zqrs : List (AExit × View) := [(.ret, ⟨0, [4], [(false, [.data .bool])], []⟩), (.exit 0, ⟨0, [], [], []⟩)]
@[reducible] def ref40_Allows_p2_G (p : zqrq) {β : Type} (d : zqrr.den) (ks : Outs.K β zqrs) : Option β :=
  p (fun a0 => ks.1 (((a0, ()), ()), ())) (fun _ => ks.2.1 ((), ())) d.1.1.1 d.1.2.2.1.1 d.1.2.2.2.1.1 d.2.1.1 d.2.1.2.1 d.2.1.2.2.1 d.2.1.2.2.2.1
section
variable (c_ref25_Has : zq3b) (c_ref25_In : zq48) (c_ref40_closed : zqmb) (c_ref40_compare : zq3u)
@[reducible] def ref40_Allows_X : Ctx := ⟨look tab, pick1 [(44, .spec (zq3c c_ref25_Has)), (48, .spec (zq49 c_ref25_In)), (40, .spec (zqmc c_ref40_closed)), (45, .spec (zq3v c_ref40_compare))], false⟩
def zqrt {β : Type} (rec : (List Int) → (List (List Int)) → Int → Int → (List (List UInt8 × Int)) → (List zq2) → (List zq0) → (List (Int × (Int × Int))) → Option β) (k1 : zqrj β) (k2 : zqrk β) (l : List Int) (d : List (List Int)) (i_ : Int) (k_ : Int) (r_ : List (List UInt8 × Int)) (r_2 : List zq2) (r_3 : List zq0) (r_4 : List (Int × (Int × Int))) : Option β :=
  cond (decide (k_ < i_))
  (cond (decide (0 ≤ i_) && decide (i_ < (List.length l : Int)))
  (let e : Int := List.getD l (Int.toNat i_) (0 : Int);
  cond (decide (0 ≤ k_) && decide (k_ < (List.length l : Int)))
  (let e2 : Int := List.getD l (Int.toNat k_) (0 : Int);
  c_ref40_compare d e e2 (fun (rcompare : Int) =>
  cond (decide (rcompare = (-1 : Int)))
  (k1 false)
  (let k_2 : Int := (IntKind.i64.wrap (k_ + (1 : Int)));
  rec l d i_ k_2 r_ r_2 r_3 r_4)))
  none)
  none)
  (k2 l d i_ r_ r_2 r_3 r_4)
def zqru {β : Type} : Nat → zqrj β → zqrk β → (List Int) → (List (List Int)) → Int → Int → (List (List UInt8 × Int)) → (List zq2) → (List zq0) → (List (Int × (Int × Int))) → Option β
  | 0 => fun _ _ _ _ _ _ _ _ _ _ => none
  | i + 1 => fun k1 k2 l d i_ k_ r_ r_2 r_3 r_4 => zqrt c_ref40_compare (zqru i k1 k2) k1 k2 l d i_ k_ r_ r_2 r_3 r_4
theorem zqrv (hΓ : ΓOk Try.prog (ref40_Allows_X c_ref25_Has c_ref25_In c_ref40_closed c_ref40_compare).Γ) (i : Nat) : PieceOk Try.prog 66 0 ref40_Allows_p1_code zqrm zqrn (ref40_Allows_p1_G (zqru c_ref40_compare i)) := by
  rw [show ref40_Allows_p1_code = .loop (loopBody ref40_Allows_p1_code) by kernel_rfl]
  exact piece_loop (X := (ref40_Allows_X c_ref25_Has c_ref25_In c_ref40_closed c_ref40_compare)) (p := 1) (Λ := pick1 []) (G := fun i => @fun β d ks => ref40_Allows_p1_G (zqru c_ref40_compare i) d ks) mixed tab_ok hΓ rfl (by kernel_rfl) CutsOk_nil (fun _ _ => rfl) (fun i => @fun β d ks r h => Eq.trans (b := ref40_Allows_p1_G (zqru c_ref40_compare (i + 1)) d ks) (by kernel_rfl) h) i
def zqrw (p1 : zqrl) {β : Type} (rec : (List Int) → (List (List Int)) → Int → (List (List UInt8 × Int)) → (List zq2) → (List zq0) → (List (Int × (Int × Int))) → Option β) (k1 : zqro β) (k2 : zqrp β) (l : List Int) (d : List (List Int)) (i_ : Int) (r_ : List (List UInt8 × Int)) (r_2 : List zq2) (r_3 : List zq0) (r_4 : List (Int × (Int × Int))) : Option β :=
  cond (decide (i_ < (List.length l : Int)))
  (cond (decide (0 ≤ i_) && decide (i_ < (List.length l : Int)))
  (let e : Int := List.getD l (Int.toNat i_) (0 : Int);
  c_ref25_In e (0 : Int) (IntKind.i64.wrap ((List.length r_3 : Int) - (1 : Int))) (fun (rIn : Bool) =>
  cond (!rIn)
  (k1 false)
  (cond (decide (0 ≤ (0 : Int)) && (decide ((0 : Int) ≤ i_) && decide (i_ ≤ (List.length l : Int))))
  (cond (decide (0 ≤ i_) && decide (i_ < (List.length l : Int)))
  (let e2 : Int := List.getD l (Int.toNat i_) (0 : Int);
  c_ref25_Has (List.drop (Int.toNat (0 : Int)) (List.take (Int.toNat i_) l)) e2 (fun (rHas : Bool) =>
  cond rHas
  (k1 false)
  (p1 (fun (t4 : Bool) =>
  k1 t4) (fun (l2 : List Int) (d2 : List (List Int)) (i_2 : Int) (r_5 : List (List UInt8 × Int)) (r_6 : List zq2) (r_7 : List zq0) (r_8 : List (Int × (Int × Int))) =>
  let i_3 : Int := (IntKind.i64.wrap (i_2 + (1 : Int)));
  rec l2 d2 i_3 r_5 r_6 r_7 r_8) l d i_ (0 : Int) r_ r_2 r_3 r_4)))
  none)
  none)))
  none)
  (k2 ())
def zqrx (p1 : zqrl) {β : Type} : Nat → zqro β → zqrp β → (List Int) → (List (List Int)) → Int → (List (List UInt8 × Int)) → (List zq2) → (List zq0) → (List (Int × (Int × Int))) → Option β
  | 0 => fun _ _ _ _ _ _ _ _ _ => none
  | i + 1 => fun k1 k2 l d i_ r_ r_2 r_3 r_4 => zqrw c_ref25_Has c_ref25_In p1 (zqrx p1 i k1 k2) k1 k2 l d i_ r_ r_2 r_3 r_4
theorem zqry (hΓ : ΓOk Try.prog (ref40_Allows_X c_ref25_Has c_ref25_In c_ref40_closed c_ref40_compare).Γ) (p1 : zqrl) (hp1 : PieceOk Try.prog 66 0 ref40_Allows_p1_code zqrm zqrn (ref40_Allows_p1_G p1)) (i : Nat) : PieceOk Try.prog 66 0 ref40_Allows_p2_code zqrr zqrs (ref40_Allows_p2_G (zqrx c_ref25_Has c_ref25_In p1 i)) := by
  rw [show ref40_Allows_p2_code = .loop (loopBody ref40_Allows_p2_code) by kernel_rfl]
  exact piece_loop (X := (ref40_Allows_X c_ref25_Has c_ref25_In c_ref40_closed c_ref40_compare)) (p := 1) (Λ := pick1 [(102, pieceCut zqrm zqrn (ref40_Allows_p1_G p1))]) (G := fun i => @fun β d ks => ref40_Allows_p2_G (zqrx c_ref25_Has c_ref25_In p1 i) d ks) mixed tab_ok hΓ rfl (by kernel_rfl) (CutsOk_cons (q := 102) (c' := ref40_Allows_p1_code) (by kernel_rfl) rfl hp1 CutsOk_nil) (fun _ _ => rfl) (fun i => @fun β d ks r h => Eq.trans (b := ref40_Allows_p2_G (zqrx c_ref25_Has c_ref25_In p1 (i + 1)) d ks) (by kernel_rfl) h) i
def zqrz (p2 : zqrq) {β : Type} (r_ : zq4) (l : List Int) (k : (Bool → Option β)) : Option β :=
  c_ref40_closed r_ (fun (rclosed : List (List Int)) (rclosed2 : Bool) =>
  cond (!rclosed2)
  (k false)
  (cond (!decide ((List.length l : Int) = (List.length r_.2.2.1 : Int)))
  (k false)
  (p2 (fun (t4 : Bool) =>
  k t4) (fun (_ : Unit) =>
  k true) l rclosed (0 : Int) r_.1 r_.2.1 r_.2.2.1 r_.2.2.2)))
theorem zqs0 (hΓ : ΓOk Try.prog (ref40_Allows_X c_ref25_Has c_ref25_In c_ref40_closed c_ref40_compare).Γ) (p2 : zqrq) (hp2 : PieceOk Try.prog 66 0 ref40_Allows_p2_code zqrr zqrs (ref40_Allows_p2_G p2)) : SpecOk Try.prog 28 (zqri (zqrz c_ref40_closed p2)) :=
  spec_exec (X := (ref40_Allows_X c_ref25_Has c_ref25_In c_ref40_closed c_ref40_compare)) (Λ := pick1 [(122, pieceCut zqrr zqrs (ref40_Allows_p2_G p2))]) (rs := [.tmp 4]) (c := bodyOf Try.f28) mixed tab_ok hΓ Try.func28 (by kernel_rfl) (by kernel_rfl) (by kernel_rfl) (by kernel_rfl) (CutsOk_cons (q := 122) (c' := ref40_Allows_p2_code) (by kernel_rfl) rfl hp2 CutsOk_nil) (fun x k r h => Eq.trans (b := (zqri (zqrz c_ref40_closed p2)).run x k) (by kernel_rfl) h)
end
theorem zqs1Γ : ΓOk Try.prog (pick1 [(44, .spec (zq3c zq3s)), (48, .spec (zq49 zq4d)), (40, .spec (zqmc zqmg)), (45, .spec (zq3v zq3z))]) := (ΓOk_cons zq3t (ΓOk_cons zq4e (ΓOk_cons zqmh (ΓOk_cons zq40 ΓOk_nil))))
def zqs2 (m : Nat) : zqrl := zqru zq3z m
theorem zqs3 {β : Type} (i : Nat) (k1 k2 l d i_ k_ r_ r_2 r_3 r_4) : (zqs2 (i + 1) k1 k2 l d i_ k_ r_ r_2 r_3 r_4 : Option β) = zqrt zq3z (zqs2 i k1 k2) k1 k2 l d i_ k_ r_ r_2 r_3 r_4 := rfl
def zqs4 : zqrl := zqs2 fuel
theorem zqs5 : PieceOk Try.prog 66 0 ref40_Allows_p1_code zqrm zqrn (ref40_Allows_p1_G zqs4) := zqrv zq3s zq4d zqmg zq3z zqs1Γ fuel
def zqs6 (m : Nat) : zqrq := zqrx zq3s zq4d zqs4 m
theorem zqs7 {β : Type} (i : Nat) (k1 k2 l d i_ r_ r_2 r_3 r_4) : (zqs6 (i + 1) k1 k2 l d i_ r_ r_2 r_3 r_4 : Option β) = zqrw zq3s zq4d zqs4 (zqs6 i k1 k2) k1 k2 l d i_ r_ r_2 r_3 r_4 := rfl
def zqs8 : zqrq := zqs6 fuel
theorem zqs9 : PieceOk Try.prog 66 0 ref40_Allows_p2_code zqrr zqrs (ref40_Allows_p2_G zqs8) := zqry zq3s zq4d zqmg zq3z zqs1Γ zqs4 zqs5 fuel
def zqsa : zqrh := zqrz zqmg zqs8
theorem zqsb : SpecOk Try.prog 28 (zqri zqsa) := zqs0 zq3s zq4d zqmg zq3z zqs1Γ zqs8 zqs9

/-- pagewatch/pagewatchref40.Fits -/
abbrev zqsc := {β : Type} → zq4 → (List Int) → (Bool → Option β) → Option β
def zqsd (c : zqsc) : Spec :=
  ⟨[(true, [.data zq5]), (false, [.data (.slice (.int .i64))])], [], [(false, [.data .bool])], [], fun x k => c x.1.1.1 x.1.2.1.1 (fun r0 => k (((r0, ()), ()), ()))⟩
noncomputable def ref40_Fits_p1_code : Code := codeAt 122 (bodyOf Try.f30)
abbrev zqse (β : Type) := Bool → Option β
abbrev zqsf (β : Type) := (List Int) → (List (Int × (Int × Int))) → Option β
abbrev zqsg := {β : Type} → zqse β → zqsf β → (List Int) → Int → (List (Int × (Int × Int))) → Option β
def zqsh : View := ⟨0, [1, 5, 7], [(false, [.data (.slice (.int .i64))]), (false, [.rowh 0]), (false, [.data (.int .i64)])], [.row 42 (.prod (.int .i64) (.prod (.int .i64) (.int .i64)))]⟩
def zqsi : List (AExit × View) := [(.ret, ⟨0, [4], [(false, [.data .bool])], []⟩), (.exit 0, ⟨0, [1, 5], [(false, [.data (.slice (.int .i64))]), (false, [.rowh 0])], [.row 42 (.prod (.int .i64) (.prod (.int .i64) (.int .i64)))]⟩)]
@[reducible] def ref40_Fits_p1_G (p : zqsg) {β : Type} (d : zqsh.den) (ks : Outs.K β zqsi) : Option β :=
  p (fun a0 => ks.1 (((a0, ()), ()), ())) (fun a0 a1 => ks.2.1 (((a0, ()), (), ()), (a1, ()))) d.1.1.1 d.1.2.2.1.1 d.2.1
section
variable (c_ref25_In : zq48) (c_ref39_Fits : zqd5) (c_ref40_Consistent : zqoh) (c_ref40_Constraints : zqk4)
@[reducible] def ref40_Fits_X : Ctx := ⟨look tab, pick1 [(48, .spec (zq49 c_ref25_In)), (55, .spec (zqd6 c_ref39_Fits)), (12, .spec (zqoi c_ref40_Consistent)), (10, .spec (zqk5 c_ref40_Constraints))], false⟩
def zqsj {β : Type} (rec : (List Int) → Int → (List (Int × (Int × Int))) → Option β) (k1 : zqse β) (k2 : zqsf β) (times : List Int) (i_ : Int) (l : List (Int × (Int × Int))) : Option β :=
  cond (decide (i_ < (List.length times : Int)))
  (cond (decide (0 ≤ i_) && decide (i_ < (List.length times : Int)))
  (let e : Int := List.getD times (Int.toNat i_) (0 : Int);
  c_ref25_In e (0 : Int) (8589934592 : Int) (fun (rIn : Bool) =>
  cond (!rIn)
  (k1 false)
  (let i_2 : Int := (IntKind.i64.wrap (i_ + (1 : Int)));
  rec times i_2 l)))
  none)
  (k2 times l)
def zqsk {β : Type} : Nat → zqse β → zqsf β → (List Int) → Int → (List (Int × (Int × Int))) → Option β
  | 0 => fun _ _ _ _ _ => none
  | i + 1 => fun k1 k2 times i_ l => zqsj c_ref25_In (zqsk i k1 k2) k1 k2 times i_ l
theorem zqsl (hΓ : ΓOk Try.prog (ref40_Fits_X c_ref25_In c_ref39_Fits c_ref40_Consistent c_ref40_Constraints).Γ) (i : Nat) : PieceOk Try.prog 48 0 ref40_Fits_p1_code zqsh zqsi (ref40_Fits_p1_G (zqsk c_ref25_In i)) := by
  rw [show ref40_Fits_p1_code = .loop (loopBody ref40_Fits_p1_code) by kernel_rfl]
  exact piece_loop (X := (ref40_Fits_X c_ref25_In c_ref39_Fits c_ref40_Consistent c_ref40_Constraints)) (p := 1) (Λ := pick1 []) (G := fun i => @fun β d ks => ref40_Fits_p1_G (zqsk c_ref25_In i) d ks) mixed tab_ok hΓ rfl (by kernel_rfl) CutsOk_nil (fun _ _ => rfl) (fun i => @fun β d ks r h => Eq.trans (b := ref40_Fits_p1_G (zqsk c_ref25_In (i + 1)) d ks) (by kernel_rfl) h) i
def zqsm (p1 : zqsg) {β : Type} (r_ : zq4) (times : List Int) (k : (Bool → Option β)) : Option β :=
  c_ref40_Constraints r_ (fun (rConstraints : Bool) (lrConstraints : List (Int × (Int × Int))) =>
  cond (!rConstraints)
  (k false)
  (c_ref40_Consistent r_ (fun (rConsistent : Bool) =>
  cond (!rConsistent)
  (k false)
  (cond (!decide ((List.length times : Int) = (List.length r_.2.2.1 : Int)))
  (k false)
  (p1 (fun (t4 : Bool) =>
  k t4) (fun (times2 : List Int) (l : List (Int × (Int × Int))) =>
  let l2 : List Int := ([(0 : Int)] : List Int);
  cond (decide ((List.length l2 + List.length times2) * 8 ≤ roomMax))
  (let l3 : List Int := (l2 ++ times2);
  c_ref39_Fits (IntKind.i64.wrap ((List.length times2 : Int) + (1 : Int))) l l3 (fun (rFits : Bool) =>
  k rFits))
  none) times (0 : Int) lrConstraints)))))
theorem zqsn (hΓ : ΓOk Try.prog (ref40_Fits_X c_ref25_In c_ref39_Fits c_ref40_Consistent c_ref40_Constraints).Γ) (p1 : zqsg) (hp1 : PieceOk Try.prog 48 0 ref40_Fits_p1_code zqsh zqsi (ref40_Fits_p1_G p1)) : SpecOk Try.prog 30 (zqsd (zqsm c_ref39_Fits c_ref40_Consistent c_ref40_Constraints p1)) :=
  spec_exec (X := (ref40_Fits_X c_ref25_In c_ref39_Fits c_ref40_Consistent c_ref40_Constraints)) (Λ := pick1 [(122, pieceCut zqsh zqsi (ref40_Fits_p1_G p1))]) (rs := [.tmp 4]) (c := bodyOf Try.f30) mixed tab_ok hΓ Try.func30 (by kernel_rfl) (by kernel_rfl) (by kernel_rfl) (by kernel_rfl) (CutsOk_cons (q := 122) (c' := ref40_Fits_p1_code) (by kernel_rfl) rfl hp1 CutsOk_nil) (fun x k r h => Eq.trans (b := (zqsd (zqsm c_ref39_Fits c_ref40_Consistent c_ref40_Constraints p1)).run x k) (by kernel_rfl) h)
end
theorem zqsoΓ : ΓOk Try.prog (pick1 [(48, .spec (zq49 zq4d)), (55, .spec (zqd6 zqdy)), (12, .spec (zqoi zqom)), (10, .spec (zqk5 zqlr))]) := (ΓOk_cons zq4e (ΓOk_cons zqdz (ΓOk_cons zqon (ΓOk_cons zqls ΓOk_nil))))
def zqsp (m : Nat) : zqsg := zqsk zq4d m
theorem zqsq {β : Type} (i : Nat) (k1 k2 times i_ l) : (zqsp (i + 1) k1 k2 times i_ l : Option β) = zqsj zq4d (zqsp i k1 k2) k1 k2 times i_ l := rfl
def zqsr : zqsg := zqsp fuel
theorem zqss : PieceOk Try.prog 48 0 ref40_Fits_p1_code zqsh zqsi (ref40_Fits_p1_G zqsr) := zqsl zq4d zqdy zqom zqlr zqsoΓ fuel
def zqst : zqsc := zqsm zqdy zqom zqlr zqsr
theorem zqsu : SpecOk Try.prog 30 (zqsd zqst) := zqsn zq4d zqdy zqom zqlr zqsoΓ zqsr zqss

/-- slices.ContainsFunc[[]pagewatch/api.Diff,pagewatch/api.Diff] -/
abbrev zqsv := {β : Type} → (List (Int × (Int × Int))) → Int → (Bool → Int → Option β) → Option β
def zqsw (c : zqsv) : Spec :=
  ⟨[(false, [.data (.slice (.prod (.int .i64) (.prod (.int .i64) (.int .i64))))]), (false, [.fn 78 [0]])], [.cells 3 [.data (.int .i64)]], [(false, [.data .bool])], [.cells 3 [.data (.int .i64)]], fun x k => c x.1.1.1 x.2.1.1 (fun r0 r1 => k (((r0, ()), ()), ((r1, ()), ())))⟩
section
variable (c_slices_IndexFunc_api_Diff_api_Diff_vconstraint_Valid_f1 : zqmi)
@[reducible] def slices_ContainsFunc_api_Diff_api_Diff_vconstraint_Valid_f1_X : Ctx := ⟨look tab, pick1 [(79, .spec (zqmj c_slices_IndexFunc_api_Diff_api_Diff_vconstraint_Valid_f1))], false⟩
def zqsx {β : Type} (s : List (Int × (Int × Int))) (b0_ : Int) (k : (Bool → Int → Option β)) : Option β :=
  c_slices_IndexFunc_api_Diff_api_Diff_vconstraint_Valid_f1 s b0_ (fun (rDiff : Int) (mrDiff : Int) =>
  let t : Bool := (decide ((0 : Int) ≤ rDiff));
  k t mrDiff)
theorem zqsy (hΓ : ΓOk Try.prog (slices_ContainsFunc_api_Diff_api_Diff_vconstraint_Valid_f1_X c_slices_IndexFunc_api_Diff_api_Diff_vconstraint_Valid_f1).Γ) : SpecOk Try.prog 73 (zqsw (zqsx c_slices_IndexFunc_api_Diff_api_Diff_vconstraint_Valid_f1)) :=
  spec_exec (X := (slices_ContainsFunc_api_Diff_api_Diff_vconstraint_Valid_f1_X c_slices_IndexFunc_api_Diff_api_Diff_vconstraint_Valid_f1)) (Λ := pick1 []) (rs := [.tmp 4]) (c := bodyOf Try.f73) mixed tab_ok hΓ Try.func73 (by kernel_rfl) (by kernel_rfl) (by kernel_rfl) (by kernel_rfl) CutsOk_nil (fun x k r h => Eq.trans (b := (zqsw (zqsx c_slices_IndexFunc_api_Diff_api_Diff_vconstraint_Valid_f1)).run x k) (by kernel_rfl) h)
end
theorem zqszΓ : ΓOk Try.prog (pick1 [(79, .spec (zqmj zqmz))]) := (ΓOk_cons zqn0 ΓOk_nil)
def zqt0 : zqsv := zqsx zqmz
theorem zqt1 : SpecOk Try.prog 73 (zqsw zqt0) := zqsy zqmz zqszΓ

/-- pagewatch/constraint.Valid -/
abbrev zqt2 := {β : Type} → Int → (List (Int × (Int × Int))) → (Bool → Option β) → Option β
def zqt3 (c : zqt2) : Spec :=
  ⟨[(false, [.data (.int .i64)]), (false, [.data (.slice (.prod (.int .i64) (.prod (.int .i64) (.int .i64))))])], [], [(false, [.data .bool])], [], fun x k => c x.1.1.1 x.1.2.1.1 (fun r0 => k (((r0, ()), ()), ()))⟩
section
variable (c_constraint_in : zq6p) (c_slices_ContainsFunc_api_Diff_api_Diff_vconstraint_Valid_f1 : zqsv)
@[reducible] def constraint_Valid_X : Ctx := ⟨look tab, pick1 [(72, .spec (zq6q c_constraint_in)), (73, .spec (zqsw c_slices_ContainsFunc_api_Diff_api_Diff_vconstraint_Valid_f1))], false⟩
def zqt4 {β : Type} (n : Int) (l : List (Int × (Int × Int))) (k : (Bool → Option β)) : Option β :=
  c_constraint_in n (1 : Int) (41 : Int) (fun (rin : Bool) =>
  cond (!rin)
  (k false)
  (cond (decide ((4000 : Int) < (List.length l : Int)))
  (k false)
  (c_slices_ContainsFunc_api_Diff_api_Diff_vconstraint_Valid_f1 l n (fun (rDiff : Bool) (mrDiff : Int) =>
  k (!rDiff)))))
theorem zqt5 (hΓ : ΓOk Try.prog (constraint_Valid_X c_constraint_in c_slices_ContainsFunc_api_Diff_api_Diff_vconstraint_Valid_f1).Γ) : SpecOk Try.prog 70 (zqt3 (zqt4 c_constraint_in c_slices_ContainsFunc_api_Diff_api_Diff_vconstraint_Valid_f1)) :=
  spec_exec (X := (constraint_Valid_X c_constraint_in c_slices_ContainsFunc_api_Diff_api_Diff_vconstraint_Valid_f1)) (Λ := pick1 []) (rs := [.tmp 4]) (c := bodyOf Try.f70) mixed tab_ok hΓ Try.func70 (by kernel_rfl) (by kernel_rfl) (by kernel_rfl) (by kernel_rfl) CutsOk_nil (fun x k r h => Eq.trans (b := (zqt3 (zqt4 c_constraint_in c_slices_ContainsFunc_api_Diff_api_Diff_vconstraint_Valid_f1)).run x k) (by kernel_rfl) h)
end
theorem zqt6Γ : ΓOk Try.prog (pick1 [(72, .spec (zq6q zq6u)), (73, .spec (zqsw zqt0))]) := (ΓOk_cons zq6v (ΓOk_cons zqt1 ΓOk_nil))
def zqt7 : zqt2 := zqt4 zq6u zqt0
theorem zqt8 : SpecOk Try.prog 70 (zqt3 zqt7) := zqt5 zq6u zqt0 zqt6Γ

/-- pagewatch/constraint.Close -/
abbrev zqt9 := {β : Type} → Int → (List (Int × (Int × Int))) → ((List (List Int)) → Bool → Option β) → Option β
def zqta (c : zqt9) : Spec :=
  ⟨[(false, [.data (.int .i64)]), (false, [.data (.slice (.prod (.int .i64) (.prod (.int .i64) (.int .i64))))])], [], [(false, [.data (.slice (.slice (.int .i64)))]), (false, [.data .bool])], [], fun x k => c x.1.1.1 x.1.2.1.1 (fun r0 r1 => k (((r0, ()), (r1, ()), ()), ()))⟩
noncomputable def constraint_Close_p1_code : Code := codeAt 122 (bodyOf Try.f66)
noncomputable def constraint_Close_p5_code : Code := codeAt 250 (bodyOf Try.f66)
noncomputable def constraint_Close_p6_code : Code := codeAt 506 (bodyOf Try.f66)
noncomputable def constraint_Close_p4_code : Code := codeAt 458 (loopBody constraint_Close_p5_code)
noncomputable def constraint_Close_p3_code : Code := codeAt 230 (loopBody constraint_Close_p4_code)
noncomputable def constraint_Close_p2_code : Code := codeAt 115 (loopBody constraint_Close_p3_code)
abbrev zqtb (β : Type) := Int → (List (List Int)) → Option β
abbrev zqtc := {β : Type} → zqtb β → Int → Int → Int → (List (List Int)) → Option β
def zqtd : View := ⟨0, [0, 6, 19, 20], [(false, [.data (.int .i64)]), (false, [.math 0]), (false, [.data (.int .i64)]), (false, [.data (.int .i64)])], [.mat 22 3 (.int .i64)]⟩
def zqte : List (AExit × View) := [(.exit 0, ⟨0, [0, 6], [(false, [.data (.int .i64)]), (false, [.math 0])], [.mat 22 3 (.int .i64)]⟩)]
@[reducible] def constraint_Close_p1_G (p : zqtc) {β : Type} (d : zqtd.den) (ks : Outs.K β zqte) : Option β :=
  p (fun a0 a1 => ks.1 (((a0, ()), (), ()), (a1, ()))) d.1.1.1 d.1.2.2.1.1 d.1.2.2.2.1.1 d.2.1
abbrev zqtf (β : Type) := Int → Int → Int → Int → Int → Int → Int → Int → Int → (List (List Int)) → Option β
abbrev zqtg := {β : Type} → zqtf β → Int → Int → Int → Int → Int → Int → Int → Int → Int → Int → Bool → (List (List Int)) → Option β
def zqth : View := ⟨0, [0, 6, 8, 9, 10, 38, 39, 42, 43, 46, 47, 67], [(false, [.data (.int .i64)]), (false, [.math 0]), (false, [.data (.int .i64)]), (false, [.data (.int .i64)]), (false, [.data (.int .i64)]), (false, [.data (.int .i64)]), (false, [.data (.int .i64)]), (false, [.data (.int .i64)]), (false, [.data (.int .i64)]), (false, [.data (.int .i64)]), (false, [.data (.int .i64)]), (false, [.data .bool])], [.mat 22 3 (.int .i64)]⟩
def zqti : List (AExit × View) := [(.normal, ⟨0, [0, 6, 8, 9, 38, 39, 42, 43, 46, 47], [(false, [.data (.int .i64)]), (false, [.math 0]), (false, [.data (.int .i64)]), (false, [.data (.int .i64)]), (false, [.data (.int .i64)]), (false, [.data (.int .i64)]), (false, [.data (.int .i64)]), (false, [.data (.int .i64)]), (false, [.data (.int .i64)]), (false, [.data (.int .i64)])], [.mat 22 3 (.int .i64)]⟩)]
@[reducible] def constraint_Close_p2_G (p : zqtg) {β : Type} (d : zqth.den) (ks : Outs.K β zqti) : Option β :=
  p (fun a0 a1 a2 a3 a4 a5 a6 a7 a8 a9 => ks.1 (((a0, ()), (), (a1, ()), (a2, ()), (a3, ()), (a4, ()), (a5, ()), (a6, ()), (a7, ()), (a8, ()), ()), (a9, ()))) d.1.1.1 d.1.2.2.1.1 d.1.2.2.2.1.1 d.1.2.2.2.2.1.1 d.1.2.2.2.2.2.1.1 d.1.2.2.2.2.2.2.1.1 d.1.2.2.2.2.2.2.2.1.1 d.1.2.2.2.2.2.2.2.2.1.1 d.1.2.2.2.2.2.2.2.2.2.1.1 d.1.2.2.2.2.2.2.2.2.2.2.1.1 d.1.2.2.2.2.2.2.2.2.2.2.2.1.1 d.2.1
abbrev zqtj (β : Type) := Int → Int → Int → Int → Int → Int → (List (List Int)) → Option β
abbrev zqtk := {β : Type} → zqtj β → Int → Int → Int → Int → Int → Int → Int → Int → Int → (List (List Int)) → Option β
def zqtl : View := ⟨0, [0, 6, 8, 9, 38, 39, 42, 43, 46, 47], [(false, [.data (.int .i64)]), (false, [.math 0]), (false, [.data (.int .i64)]), (false, [.data (.int .i64)]), (false, [.data (.int .i64)]), (false, [.data (.int .i64)]), (false, [.data (.int .i64)]), (false, [.data (.int .i64)]), (false, [.data (.int .i64)]), (false, [.data (.int .i64)])], [.mat 22 3 (.int .i64)]⟩
def zqtm : List (AExit × View) := [(.exit 6, ⟨0, [0, 6, 8, 38, 39, 42, 43], [(false, [.data (.int .i64)]), (false, [.math 0]), (false, [.data (.int .i64)]), (false, [.data (.int .i64)]), (false, [.data (.int .i64)]), (false, [.data (.int .i64)]), (false, [.data (.int .i64)])], [.mat 22 3 (.int .i64)]⟩)]
@[reducible] def constraint_Close_p3_G (p : zqtk) {β : Type} (d : zqtl.den) (ks : Outs.K β zqtm) : Option β :=
  p (fun a0 a1 a2 a3 a4 a5 a6 => ks.1 (((a0, ()), (), (a1, ()), (a2, ()), (a3, ()), (a4, ()), (a5, ()), ()), (a6, ()))) d.1.1.1 d.1.2.2.1.1 d.1.2.2.2.1.1 d.1.2.2.2.2.1.1 d.1.2.2.2.2.2.1.1 d.1.2.2.2.2.2.2.1.1 d.1.2.2.2.2.2.2.2.1.1 d.1.2.2.2.2.2.2.2.2.1.1 d.1.2.2.2.2.2.2.2.2.2.1.1 d.2.1
abbrev zqtn (β : Type) := Int → Int → Int → Int → (List (List Int)) → Option β
abbrev zqto := {β : Type} → zqtn β → Int → Int → Int → Int → Int → Int → (List (List Int)) → Option β
def zqtp : View := ⟨0, [0, 6, 8, 38, 39, 42, 43], [(false, [.data (.int .i64)]), (false, [.math 0]), (false, [.data (.int .i64)]), (false, [.data (.int .i64)]), (false, [.data (.int .i64)]), (false, [.data (.int .i64)]), (false, [.data (.int .i64)])], [.mat 22 3 (.int .i64)]⟩
def zqtq : List (AExit × View) := [(.exit 4, ⟨0, [0, 6, 8, 38, 39], [(false, [.data (.int .i64)]), (false, [.math 0]), (false, [.data (.int .i64)]), (false, [.data (.int .i64)]), (false, [.data (.int .i64)])], [.mat 22 3 (.int .i64)]⟩)]
@[reducible] def constraint_Close_p4_G (p : zqto) {β : Type} (d : zqtp.den) (ks : Outs.K β zqtq) : Option β :=
  p (fun a0 a1 a2 a3 a4 => ks.1 (((a0, ()), (), (a1, ()), (a2, ()), (a3, ()), ()), (a4, ()))) d.1.1.1 d.1.2.2.1.1 d.1.2.2.2.1.1 d.1.2.2.2.2.1.1 d.1.2.2.2.2.2.1.1 d.1.2.2.2.2.2.2.1.1 d.2.1
abbrev zqtr (β : Type) := Bool → (List (List Int)) → Option β
abbrev zqts (β : Type) := Int → (List (List Int)) → Option β
abbrev zqtt := {β : Type} → zqtr β → zqts β → Int → Int → Int → (List (List Int)) → Option β
def zqtu : View := ⟨0, [0, 6, 38, 39], [(false, [.data (.int .i64)]), (false, [.math 0]), (false, [.data (.int .i64)]), (false, [.data (.int .i64)])], [.mat 22 3 (.int .i64)]⟩
def zqtv : List (AExit × View) := [(.ret, ⟨0, [4, 5], [(false, [.math 0]), (false, [.data .bool])], [.mat 22 3 (.int .i64)]⟩), (.exit 2, ⟨0, [0, 6], [(false, [.data (.int .i64)]), (false, [.math 0])], [.mat 22 3 (.int .i64)]⟩)]
@[reducible] def constraint_Close_p5_G (p : zqtt) {β : Type} (d : zqtu.den) (ks : Outs.K β zqtv) : Option β :=
  p (fun a0 a1 => ks.1 (((), (a0, ()), ()), (a1, ()))) (fun a0 a1 => ks.2.1 (((a0, ()), (), ()), (a1, ()))) d.1.1.1 d.1.2.2.1.1 d.1.2.2.2.1.1 d.2.1
abbrev zqtw (β : Type) := Bool → (List (List Int)) → Option β
abbrev zqtx (β : Type) := (List (List Int)) → Option β
abbrev zqty := {β : Type} → zqtw β → zqtx β → Int → Int → (List (List Int)) → Option β
def zqtz : View := ⟨0, [6, 108, 109], [(false, [.math 0]), (false, [.data (.int .i64)]), (false, [.data (.int .i64)])], [.mat 22 3 (.int .i64)]⟩
def zqu0 : List (AExit × View) := [(.ret, ⟨0, [4, 5], [(false, [.math 0]), (false, [.data .bool])], [.mat 22 3 (.int .i64)]⟩), (.exit 8, ⟨0, [6], [(false, [.math 0])], [.mat 22 3 (.int .i64)]⟩)]
@[reducible] def constraint_Close_p6_G (p : zqty) {β : Type} (d : zqtz.den) (ks : Outs.K β zqu0) : Option β :=
  p (fun a0 a1 => ks.1 (((), (a0, ()), ()), (a1, ()))) (fun a0 => ks.2.1 (((), ()), (a0, ()))) d.1.2.1.1 d.1.2.2.1.1 d.2.1
section
variable (c_constraint_Valid : zqt2) (c_constraint_direct : zq7t)
@[reducible] def constraint_Close_X : Ctx := ⟨look tab, pick1 [(70, .spec (zqt3 c_constraint_Valid)), (77, .spec (zq7u c_constraint_direct))], true⟩
def zqu1 {β : Type} (rec : Int → Int → Int → (List (List Int)) → Option β) (k1 : zqtb β) (n : Int) (t19 : Int) (t20 : Int) (m : List (List Int)) : Option β :=
  cond (decide (t20 < t19))
  (cond (decide (0 ≤ t20) && decide (t20 < (List.length m : Int)))
  (cond (decide (0 ≤ t20) && decide (t20 < (List.length m : Int)))
  (cond (decide (0 ≤ t20) && decide (t20 < (List.length (List.getD m (Int.toNat t20) []) : Int)))
  (cond (decide (0 ≤ t20) && decide (t20 < (List.length (List.getD m (Int.toNat t20) []) : Int)))
  (let m_ : List (List Int) := (List.set m (Int.toNat t20) (List.set (List.getD m (Int.toNat t20) []) (Int.toNat t20) (if (0 : Int) < (List.getD (List.getD m (Int.toNat t20) []) (Int.toNat t20) (0 : Int)) then (0 : Int) else (List.getD (List.getD m (Int.toNat t20) []) (Int.toNat t20) (0 : Int)))));
  rec n t19 (IntKind.i64.wrap (t20 + (1 : Int))) m_)
  none)
  none)
  none)
  none)
  (k1 n m)
def zqu2 {β : Type} : Nat → zqtb β → Int → Int → Int → (List (List Int)) → Option β
  | 0 => fun _ _ _ _ _ => none
  | i + 1 => fun k1 n t19 t20 m => zqu1 (zqu2 i k1) k1 n t19 t20 m
theorem zqu3 (hΓ : ΓOk Try.prog (constraint_Close_X c_constraint_Valid c_constraint_direct).Γ) (i : Nat) : PieceOk Try.prog 122 0 constraint_Close_p1_code zqtd zqte (constraint_Close_p1_G (zqu2 i)) := by
  rw [show constraint_Close_p1_code = .loop (loopBody constraint_Close_p1_code) by kernel_rfl]
  exact piece_loop (X := (constraint_Close_X c_constraint_Valid c_constraint_direct)) (p := 1) (Λ := pick1 []) (G := fun i => @fun β d ks => constraint_Close_p1_G (zqu2 i) d ks) mixed tab_ok hΓ rfl (by kernel_rfl) CutsOk_nil (fun _ _ => rfl) (fun i => @fun β d ks r h => Eq.trans (b := constraint_Close_p1_G (zqu2 (i + 1)) d ks) (by kernel_rfl) h) i
def zqu4 {β : Type} (k1 : zqtf β) (n : Int) (k_ : Int) (i_ : Int) (j : Int) (t38 : Int) (t39 : Int) (t42 : Int) (t43 : Int) (t46 : Int) (t47 : Int) (t67 : Bool) (m : List (List Int)) : Option β :=
  cond t67
  (cond (decide (0 ≤ i_) && decide (i_ < (List.length m : Int)))
  (cond (decide (0 ≤ i_) && decide (i_ < (List.length m : Int)))
  (cond (decide (0 ≤ j) && decide (j < (List.length (List.getD m (Int.toNat i_) []) : Int)))
  (cond (decide (0 ≤ i_) && decide (i_ < (List.length m : Int)))
  (cond (decide (0 ≤ k_) && decide (k_ < (List.length (List.getD m (Int.toNat i_) []) : Int)))
  (cond (decide (0 ≤ k_) && decide (k_ < (List.length m : Int)))
  (cond (decide (0 ≤ j) && decide (j < (List.length (List.getD m (Int.toNat k_) []) : Int)))
  (cond (decide (0 ≤ j) && decide (j < (List.length (List.getD m (Int.toNat i_) []) : Int)))
  (let m_ : List (List Int) := (List.set m (Int.toNat i_) (List.set (List.getD m (Int.toNat i_) []) (Int.toNat j) (if (IntKind.i64.wrap ((List.getD (List.getD m (Int.toNat i_) []) (Int.toNat k_) (0 : Int)) + (List.getD (List.getD m (Int.toNat k_) []) (Int.toNat j) (0 : Int)))) < (List.getD (List.getD m (Int.toNat i_) []) (Int.toNat j) (0 : Int)) then (IntKind.i64.wrap ((List.getD (List.getD m (Int.toNat i_) []) (Int.toNat k_) (0 : Int)) + (List.getD (List.getD m (Int.toNat k_) []) (Int.toNat j) (0 : Int)))) else (List.getD (List.getD m (Int.toNat i_) []) (Int.toNat j) (0 : Int)))));
  k1 n k_ i_ t38 t39 t42 t43 t46 t47 m_)
  none)
  none)
  none)
  none)
  none)
  none)
  none)
  none)
  (k1 n k_ i_ t38 t39 t42 t43 t46 t47 m)
def zqu5 {β : Type} (k1 : zqtf β) (n : Int) (k_ : Int) (i_ : Int) (j : Int) (t38 : Int) (t39 : Int) (t42 : Int) (t43 : Int) (t46 : Int) (t47 : Int) (t67 : Bool) (m : List (List Int)) : Option β := zqu4 k1 n k_ i_ j t38 t39 t42 t43 t46 t47 t67 m
theorem zqu6 (hΓ : ΓOk Try.prog (constraint_Close_X c_constraint_Valid c_constraint_direct).Γ) : PieceOk Try.prog 122 0 constraint_Close_p2_code zqth zqti (constraint_Close_p2_G (zqu5)) :=
  piece_exec (X := (constraint_Close_X c_constraint_Valid c_constraint_direct)) (p := 115) (Λ := pick1 []) mixed tab_ok hΓ (by kernel_rfl) CutsOk_nil (fun d ks r h => Eq.trans (b := constraint_Close_p2_G (zqu5) d ks) (by kernel_rfl) h)
def zqu7 (p2 : zqtg) {β : Type} (rec : Int → Int → Int → Int → Int → Int → Int → Int → Int → (List (List Int)) → Option β) (k1 : zqtj β) (n : Int) (k_ : Int) (i_ : Int) (t38 : Int) (t39 : Int) (t42 : Int) (t43 : Int) (t46 : Int) (t47 : Int) (m : List (List Int)) : Option β :=
  cond (decide (t47 < t46))
  (cond (decide (0 ≤ i_) && decide (i_ < (List.length m : Int)))
  (cond (decide (0 ≤ k_) && decide (k_ < (List.length (List.getD m (Int.toNat i_) []) : Int)))
  (cond (!decide ((List.getD (List.getD m (Int.toNat i_) []) (Int.toNat k_) (0 : Int)) = (1099511627776 : Int)))
  (cond (decide (0 ≤ k_) && decide (k_ < (List.length m : Int)))
  (cond (decide (0 ≤ t47) && decide (t47 < (List.length (List.getD m (Int.toNat k_) []) : Int)))
  (p2 (fun (n2 : Int) (k_2 : Int) (i_2 : Int) (t382 : Int) (t392 : Int) (t422 : Int) (t432 : Int) (t462 : Int) (t472 : Int) (m2 : List (List Int)) =>
  rec n2 k_2 i_2 t382 t392 t422 t432 t462 (IntKind.i64.wrap (t472 + (1 : Int))) m2) n k_ i_ t47 t38 t39 t42 t43 t46 t47 (!decide ((List.getD (List.getD m (Int.toNat k_) []) (Int.toNat t47) (0 : Int)) = (1099511627776 : Int))) m)
  none)
  none)
  (p2 (fun (n2 : Int) (k_2 : Int) (i_2 : Int) (t382 : Int) (t392 : Int) (t422 : Int) (t432 : Int) (t462 : Int) (t472 : Int) (m2 : List (List Int)) =>
  rec n2 k_2 i_2 t382 t392 t422 t432 t462 (IntKind.i64.wrap (t472 + (1 : Int))) m2) n k_ i_ t47 t38 t39 t42 t43 t46 t47 false m))
  none)
  none)
  (k1 n k_ t38 t39 t42 t43 m)
def zqu8 (p2 : zqtg) {β : Type} : Nat → zqtj β → Int → Int → Int → Int → Int → Int → Int → Int → Int → (List (List Int)) → Option β
  | 0 => fun _ _ _ _ _ _ _ _ _ _ _ => none
  | i + 1 => fun k1 n k_ i_ t38 t39 t42 t43 t46 t47 m => zqu7 p2 (zqu8 p2 i k1) k1 n k_ i_ t38 t39 t42 t43 t46 t47 m
theorem zqu9 (hΓ : ΓOk Try.prog (constraint_Close_X c_constraint_Valid c_constraint_direct).Γ) (p2 : zqtg) (hp2 : PieceOk Try.prog 122 0 constraint_Close_p2_code zqth zqti (constraint_Close_p2_G p2)) (i : Nat) : PieceOk Try.prog 122 0 constraint_Close_p3_code zqtl zqtm (constraint_Close_p3_G (zqu8 p2 i)) := by
  rw [show constraint_Close_p3_code = .loop (loopBody constraint_Close_p3_code) by kernel_rfl]
  exact piece_loop (X := (constraint_Close_X c_constraint_Valid c_constraint_direct)) (p := 1) (Λ := pick1 [(115, pieceCut zqth zqti (constraint_Close_p2_G p2))]) (G := fun i => @fun β d ks => constraint_Close_p3_G (zqu8 p2 i) d ks) mixed tab_ok hΓ rfl (by kernel_rfl) (CutsOk_cons (q := 115) (c' := constraint_Close_p2_code) (by kernel_rfl) rfl hp2 CutsOk_nil) (fun _ _ => rfl) (fun i => @fun β d ks r h => Eq.trans (b := constraint_Close_p3_G (zqu8 p2 (i + 1)) d ks) (by kernel_rfl) h) i
def zqua (p3 : zqtk) {β : Type} (rec : Int → Int → Int → Int → Int → Int → (List (List Int)) → Option β) (k1 : zqtn β) (n : Int) (k_ : Int) (t38 : Int) (t39 : Int) (t42 : Int) (t43 : Int) (m : List (List Int)) : Option β :=
  cond (decide (t43 < t42))
  (p3 (fun (n2 : Int) (k_2 : Int) (t382 : Int) (t392 : Int) (t422 : Int) (t432 : Int) (m2 : List (List Int)) =>
  rec n2 k_2 t382 t392 t422 (IntKind.i64.wrap (t432 + (1 : Int))) m2) n k_ t43 t38 t39 t42 t43 n (0 : Int) m)
  (k1 n k_ t38 t39 m)
def zqub (p3 : zqtk) {β : Type} : Nat → zqtn β → Int → Int → Int → Int → Int → Int → (List (List Int)) → Option β
  | 0 => fun _ _ _ _ _ _ _ _ => none
  | i + 1 => fun k1 n k_ t38 t39 t42 t43 m => zqua p3 (zqub p3 i k1) k1 n k_ t38 t39 t42 t43 m
theorem zquc (hΓ : ΓOk Try.prog (constraint_Close_X c_constraint_Valid c_constraint_direct).Γ) (p3 : zqtk) (hp3 : PieceOk Try.prog 122 0 constraint_Close_p3_code zqtl zqtm (constraint_Close_p3_G p3)) (i : Nat) : PieceOk Try.prog 122 0 constraint_Close_p4_code zqtp zqtq (constraint_Close_p4_G (zqub p3 i)) := by
  rw [show constraint_Close_p4_code = .loop (loopBody constraint_Close_p4_code) by kernel_rfl]
  exact piece_loop (X := (constraint_Close_X c_constraint_Valid c_constraint_direct)) (p := 1) (Λ := pick1 [(230, pieceCut zqtl zqtm (constraint_Close_p3_G p3))]) (G := fun i => @fun β d ks => constraint_Close_p4_G (zqub p3 i) d ks) mixed tab_ok hΓ rfl (by kernel_rfl) (CutsOk_cons (q := 230) (c' := constraint_Close_p3_code) (by kernel_rfl) rfl hp3 CutsOk_nil) (fun _ _ => rfl) (fun i => @fun β d ks r h => Eq.trans (b := constraint_Close_p4_G (zqub p3 (i + 1)) d ks) (by kernel_rfl) h) i
def zqud (p4 : zqto) {β : Type} (rec : Int → Int → Int → (List (List Int)) → Option β) (k1 : zqtr β) (k2 : zqts β) (n : Int) (t38 : Int) (t39 : Int) (m : List (List Int)) : Option β :=
  cond (decide (t39 < t38))
  (p4 (fun (n2 : Int) (k_ : Int) (t382 : Int) (t392 : Int) (m2 : List (List Int)) =>
  cond (decide (0 ≤ k_) && decide (k_ < (List.length m2 : Int)))
  (cond (decide (0 ≤ k_) && decide (k_ < (List.length (List.getD m2 (Int.toNat k_) []) : Int)))
  (cond (decide ((List.getD (List.getD m2 (Int.toNat k_) []) (Int.toNat k_) (0 : Int)) < (0 : Int)))
  (k1 false ([] : List (List Int)))
  (rec n2 t382 (IntKind.i64.wrap (t392 + (1 : Int))) m2))
  none)
  none) n t39 t38 t39 n (0 : Int) m)
  (k2 n m)
def zque (p4 : zqto) {β : Type} : Nat → zqtr β → zqts β → Int → Int → Int → (List (List Int)) → Option β
  | 0 => fun _ _ _ _ _ _ => none
  | i + 1 => fun k1 k2 n t38 t39 m => zqud p4 (zque p4 i k1 k2) k1 k2 n t38 t39 m
theorem zquf (hΓ : ΓOk Try.prog (constraint_Close_X c_constraint_Valid c_constraint_direct).Γ) (p4 : zqto) (hp4 : PieceOk Try.prog 122 0 constraint_Close_p4_code zqtp zqtq (constraint_Close_p4_G p4)) (i : Nat) : PieceOk Try.prog 122 0 constraint_Close_p5_code zqtu zqtv (constraint_Close_p5_G (zque p4 i)) := by
  rw [show constraint_Close_p5_code = .loop (loopBody constraint_Close_p5_code) by kernel_rfl]
  exact piece_loop (X := (constraint_Close_X c_constraint_Valid c_constraint_direct)) (p := 1) (Λ := pick1 [(458, pieceCut zqtp zqtq (constraint_Close_p4_G p4))]) (G := fun i => @fun β d ks => constraint_Close_p5_G (zque p4 i) d ks) mixed tab_ok hΓ rfl (by kernel_rfl) (CutsOk_cons (q := 458) (c' := constraint_Close_p4_code) (by kernel_rfl) rfl hp4 CutsOk_nil) (fun _ _ => rfl) (fun i => @fun β d ks r h => Eq.trans (b := constraint_Close_p5_G (zque p4 (i + 1)) d ks) (by kernel_rfl) h) i
def zqug {β : Type} (rec : Int → Int → (List (List Int)) → Option β) (k1 : zqtw β) (k2 : zqtx β) (t108 : Int) (t109 : Int) (m : List (List Int)) : Option β :=
  cond (decide (t109 < t108))
  (cond (decide (0 ≤ t109) && decide (t109 < (List.length m : Int)))
  (cond (decide (0 ≤ t109) && decide (t109 < (List.length (List.getD m (Int.toNat t109) []) : Int)))
  (cond (decide ((List.getD (List.getD m (Int.toNat t109) []) (Int.toNat t109) (0 : Int)) < (0 : Int)))
  (k1 false ([] : List (List Int)))
  (rec t108 (IntKind.i64.wrap (t109 + (1 : Int))) m))
  none)
  none)
  (k2 m)
def zquh {β : Type} : Nat → zqtw β → zqtx β → Int → Int → (List (List Int)) → Option β
  | 0 => fun _ _ _ _ _ => none
  | i + 1 => fun k1 k2 t108 t109 m => zqug (zquh i k1 k2) k1 k2 t108 t109 m
theorem zqui (hΓ : ΓOk Try.prog (constraint_Close_X c_constraint_Valid c_constraint_direct).Γ) (i : Nat) : PieceOk Try.prog 122 0 constraint_Close_p6_code zqtz zqu0 (constraint_Close_p6_G (zquh i)) := by
  rw [show constraint_Close_p6_code = .loop (loopBody constraint_Close_p6_code) by kernel_rfl]
  exact piece_loop (X := (constraint_Close_X c_constraint_Valid c_constraint_direct)) (p := 1) (Λ := pick1 []) (G := fun i => @fun β d ks => constraint_Close_p6_G (zquh i) d ks) mixed tab_ok hΓ rfl (by kernel_rfl) CutsOk_nil (fun _ _ => rfl) (fun i => @fun β d ks r h => Eq.trans (b := constraint_Close_p6_G (zquh (i + 1)) d ks) (by kernel_rfl) h) i
def zquj (p1 : zqtc) (p5 : zqtt) (p6 : zqty) {β : Type} (n : Int) (l : List (Int × (Int × Int))) (k : ((List (List Int)) → Bool → Option β)) : Option β :=
  c_constraint_Valid n l (fun (rValid : Bool) =>
  cond (!rValid)
  (k ([] : List (List Int)) false)
  (c_constraint_direct n l (fun (lrdirect : List (List Int)) =>
  p1 (fun (n2 : Int) (m : List (List Int)) =>
  p5 (fun (t5 : Bool) (t4 : List (List Int)) =>
  k t4 t5) (fun (n3 : Int) (m2 : List (List Int)) =>
  p6 (fun (t5 : Bool) (t4 : List (List Int)) =>
  k t4 t5) (fun (m3 : List (List Int)) =>
  k m3 true) n3 (0 : Int) m2) n2 n2 (0 : Int) m) n n (0 : Int) lrdirect)))
theorem zquk (hΓ : ΓOk Try.prog (constraint_Close_X c_constraint_Valid c_constraint_direct).Γ) (p1 : zqtc) (p5 : zqtt) (p6 : zqty) (hp1 : PieceOk Try.prog 122 0 constraint_Close_p1_code zqtd zqte (constraint_Close_p1_G p1)) (hp5 : PieceOk Try.prog 122 0 constraint_Close_p5_code zqtu zqtv (constraint_Close_p5_G p5)) (hp6 : PieceOk Try.prog 122 0 constraint_Close_p6_code zqtz zqu0 (constraint_Close_p6_G p6)) : SpecOk Try.prog 66 (zqta (zquj c_constraint_Valid c_constraint_direct p1 p5 p6)) :=
  spec_exec (X := (constraint_Close_X c_constraint_Valid c_constraint_direct)) (Λ := pick1 [(122, pieceCut zqtd zqte (constraint_Close_p1_G p1)), (250, pieceCut zqtu zqtv (constraint_Close_p5_G p5)), (506, pieceCut zqtz zqu0 (constraint_Close_p6_G p6))]) (rs := [.tmp 4, .tmp 5]) (c := bodyOf Try.f66) mixed tab_ok hΓ Try.func66 (by kernel_rfl) (by kernel_rfl) (by kernel_rfl) (by kernel_rfl) (CutsOk_cons (q := 122) (c' := constraint_Close_p1_code) (by kernel_rfl) rfl hp1 (CutsOk_cons (q := 250) (c' := constraint_Close_p5_code) (by kernel_rfl) rfl hp5 (CutsOk_cons (q := 506) (c' := constraint_Close_p6_code) (by kernel_rfl) rfl hp6 CutsOk_nil))) (fun x k r h => Eq.trans (b := (zqta (zquj c_constraint_Valid c_constraint_direct p1 p5 p6)).run x k) (by kernel_rfl) h)
end
theorem zqulΓ : ΓOk Try.prog (pick1 [(70, .spec (zqt3 zqt7)), (77, .spec (zq7u zq8v))]) := (ΓOk_cons zqt8 (ΓOk_cons zq8w ΓOk_nil))
def zqum (m : Nat) : zqtc := zqu2 m
theorem zqun {β : Type} (i : Nat) (k1 n t19 t20 m) : (zqum (i + 1) k1 n t19 t20 m : Option β) = zqu1 (zqum i k1) k1 n t19 t20 m := rfl
def zquo : zqtc := zqum fuel
theorem zqup : PieceOk Try.prog 122 0 constraint_Close_p1_code zqtd zqte (constraint_Close_p1_G zquo) := zqu3 zqt7 zq8v zqulΓ fuel
def zquq : zqtg := zqu5
theorem zqur : PieceOk Try.prog 122 0 constraint_Close_p2_code zqth zqti (constraint_Close_p2_G zquq) := zqu6 zqt7 zq8v zqulΓ
def zqus (m : Nat) : zqtk := zqu8 zquq m
theorem zqut {β : Type} (i : Nat) (k1 n k_ i_ t38 t39 t42 t43 t46 t47 m) : (zqus (i + 1) k1 n k_ i_ t38 t39 t42 t43 t46 t47 m : Option β) = zqu7 zquq (zqus i k1) k1 n k_ i_ t38 t39 t42 t43 t46 t47 m := rfl
def zquu : zqtk := zqus fuel
theorem zquv : PieceOk Try.prog 122 0 constraint_Close_p3_code zqtl zqtm (constraint_Close_p3_G zquu) := zqu9 zqt7 zq8v zqulΓ zquq zqur fuel
def zquw (m : Nat) : zqto := zqub zquu m
theorem zqux {β : Type} (i : Nat) (k1 n k_ t38 t39 t42 t43 m) : (zquw (i + 1) k1 n k_ t38 t39 t42 t43 m : Option β) = zqua zquu (zquw i k1) k1 n k_ t38 t39 t42 t43 m := rfl
def zquy : zqto := zquw fuel
theorem zquz : PieceOk Try.prog 122 0 constraint_Close_p4_code zqtp zqtq (constraint_Close_p4_G zquy) := zquc zqt7 zq8v zqulΓ zquu zquv fuel
def zqv0 (m : Nat) : zqtt := zque zquy m
theorem zqv1 {β : Type} (i : Nat) (k1 k2 n t38 t39 m) : (zqv0 (i + 1) k1 k2 n t38 t39 m : Option β) = zqud zquy (zqv0 i k1 k2) k1 k2 n t38 t39 m := rfl
def zqv2 : zqtt := zqv0 fuel
theorem zqv3 : PieceOk Try.prog 122 0 constraint_Close_p5_code zqtu zqtv (constraint_Close_p5_G zqv2) := zquf zqt7 zq8v zqulΓ zquy zquz fuel
def zqv4 (m : Nat) : zqty := zquh m
theorem zqv5 {β : Type} (i : Nat) (k1 k2 t108 t109 m) : (zqv4 (i + 1) k1 k2 t108 t109 m : Option β) = zqug (zqv4 i k1 k2) k1 k2 t108 t109 m := rfl
def zqv6 : zqty := zqv4 fuel
theorem zqv7 : PieceOk Try.prog 122 0 constraint_Close_p6_code zqtz zqu0 (constraint_Close_p6_G zqv6) := zqui zqt7 zq8v zqulΓ fuel
def zqv8 : zqt9 := zquj zqt7 zq8v zquo zqv2 zqv6
theorem zqv9 : SpecOk Try.prog 66 (zqta zqv8) := zquk zqt7 zq8v zqulΓ zquo zqv2 zqv6 zqup zqv3 zqv7

/-- pagewatch/order.closed -/
abbrev zqva := {β : Type} → zq4 → ((List (List Int)) → Bool → Option β) → Option β
def zqvb (c : zqva) : Spec :=
  ⟨[(true, [.data zq5])], [], [(false, [.data (.slice (.slice (.int .i64)))]), (false, [.data .bool])], [], fun x k => c x.1.1.1 (fun r0 r1 => k (((r0, ()), (r1, ()), ()), ()))⟩
section
variable (c_constraint_Close : zqt9) (c_order_Constraints : zqn1)
@[reducible] def order_closed_X : Ctx := ⟨look tab, pick1 [(66, .spec (zqta c_constraint_Close)), (9, .spec (zqn2 c_order_Constraints))], false⟩
def zqvc {β : Type} (r_ : zq4) (k : ((List (List Int)) → Bool → Option β)) : Option β :=
  c_order_Constraints r_ (fun (rConstraints : Bool) (lrConstraints : List (Int × (Int × Int))) =>
  cond (!rConstraints)
  (k ([] : List (List Int)) false)
  (c_constraint_Close (IntKind.i64.wrap ((List.length r_.2.2.1 : Int) + (1 : Int))) lrConstraints (fun (rClose : List (List Int)) (rClose2 : Bool) =>
  k rClose rClose2)))
theorem zqvd (hΓ : ΓOk Try.prog (order_closed_X c_constraint_Close c_order_Constraints).Γ) : SpecOk Try.prog 39 (zqvb (zqvc c_constraint_Close c_order_Constraints)) :=
  spec_exec (X := (order_closed_X c_constraint_Close c_order_Constraints)) (Λ := pick1 []) (rs := [.tmp 2, .tmp 3]) (c := bodyOf Try.f39) mixed tab_ok hΓ Try.func39 (by kernel_rfl) (by kernel_rfl) (by kernel_rfl) (by kernel_rfl) CutsOk_nil (fun x k r h => Eq.trans (b := (zqvb (zqvc c_constraint_Close c_order_Constraints)).run x k) (by kernel_rfl) h)
end
theorem zqveΓ : ΓOk Try.prog (pick1 [(66, .spec (zqta zqv8)), (9, .spec (zqn2 zqof))]) := (ΓOk_cons zqv9 (ΓOk_cons zqog ΓOk_nil))
def zqvf : zqva := zqvc zqv8 zqof
theorem zqvg : SpecOk Try.prog 39 (zqvb zqvf) := zqvd zqv8 zqof zqveΓ

/-- pagewatch/order.both -/
abbrev zqvh := {β : Type} → zq4 → Int → Int → ((List (List Int)) → Bool → Option β) → Option β
def zqvi (c : zqvh) : Spec :=
  ⟨[(true, [.data zq5]), (false, [.data (.int .i64)]), (false, [.data (.int .i64)])], [], [(false, [.data (.slice (.slice (.int .i64)))]), (false, [.data .bool])], [], fun x k => c x.1.1.1 x.1.2.1.1 x.1.2.2.1.1 (fun r0 r1 => k (((r0, ()), (r1, ()), ()), ()))⟩
section
variable (c_order_closed : zqva) (c_order_in : zq4f)
@[reducible] def order_both_X : Ctx := ⟨look tab, pick1 [(39, .spec (zqvb c_order_closed)), (49, .spec (zq4g c_order_in))], false⟩
def zqvj {β : Type} (r_ : zq4) (a : Int) (b : Int) (k : ((List (List Int)) → Bool → Option β)) : Option β :=
  c_order_closed r_ (fun (rclosed : List (List Int)) (rclosed2 : Bool) =>
  cond rclosed2
  (c_order_in a (0 : Int) (IntKind.i64.wrap ((List.length r_.2.2.1 : Int) - (1 : Int))) (fun (rin : Bool) =>
  cond rin
  (c_order_in b (0 : Int) (IntKind.i64.wrap ((List.length r_.2.2.1 : Int) - (1 : Int))) (fun (rin2 : Bool) =>
  k rclosed rin2))
  (k rclosed false)))
  (k rclosed false))
theorem zqvk (hΓ : ΓOk Try.prog (order_both_X c_order_closed c_order_in).Γ) : SpecOk Try.prog 47 (zqvi (zqvj c_order_closed c_order_in)) :=
  spec_exec (X := (order_both_X c_order_closed c_order_in)) (Λ := pick1 []) (rs := [.tmp 6, .tmp 7]) (c := bodyOf Try.f47) mixed tab_ok hΓ Try.func47 (by kernel_rfl) (by kernel_rfl) (by kernel_rfl) (by kernel_rfl) CutsOk_nil (fun x k r h => Eq.trans (b := (zqvi (zqvj c_order_closed c_order_in)).run x k) (by kernel_rfl) h)
end
theorem zqvlΓ : ΓOk Try.prog (pick1 [(39, .spec (zqvb zqvf)), (49, .spec (zq4g zq4k))]) := (ΓOk_cons zqvg (ΓOk_cons zq4l ΓOk_nil))
def zqvm : zqvh := zqvj zqvf zq4k
theorem zqvn : SpecOk Try.prog 47 (zqvi zqvm) := zqvk zqvf zq4k zqvlΓ

/-- pagewatch/order.Consistent -/
abbrev zqvo := {β : Type} → zq4 → (Bool → Option β) → Option β
def zqvp (c : zqvo) : Spec :=
  ⟨[(true, [.data zq5])], [], [(false, [.data .bool])], [], fun x k => c x.1.1.1 (fun r0 => k (((r0, ()), ()), ()))⟩
section
variable (c_order_closed : zqva)
@[reducible] def order_Consistent_X : Ctx := ⟨look tab, pick1 [(39, .spec (zqvb c_order_closed))], false⟩
def zqvq {β : Type} (r_ : zq4) (k : (Bool → Option β)) : Option β :=
  c_order_closed r_ (fun (rclosed : List (List Int)) (rclosed2 : Bool) =>
  k rclosed2)
theorem zqvr (hΓ : ΓOk Try.prog (order_Consistent_X c_order_closed).Γ) : SpecOk Try.prog 11 (zqvp (zqvq c_order_closed)) :=
  spec_exec (X := (order_Consistent_X c_order_closed)) (Λ := pick1 []) (rs := [.tmp 2]) (c := bodyOf Try.f11) mixed tab_ok hΓ Try.func11 (by kernel_rfl) (by kernel_rfl) (by kernel_rfl) (by kernel_rfl) CutsOk_nil (fun x k r h => Eq.trans (b := (zqvp (zqvq c_order_closed)).run x k) (by kernel_rfl) h)
end
theorem zqvsΓ : ΓOk Try.prog (pick1 [(39, .spec (zqvb zqvf))]) := (ΓOk_cons zqvg ΓOk_nil)
def zqvt : zqvo := zqvq zqvf
theorem zqvu : SpecOk Try.prog 11 (zqvp zqvt) := zqvr zqvf zqvsΓ

/-- pagewatch/order.When -/
abbrev zqvv := {β : Type} → zq4 → (Bool → (List (Int × Int)) → Option β) → Option β
def zqvw (c : zqvv) : Spec :=
  ⟨[(true, [.data zq5])], [], [(false, [.rowh 0]), (false, [.data .bool])], [.row 56 (.prod (.int .i64) (.int .i64))], fun x k => c x.1.1.1 (fun r0 r1 => k (((), (r0, ()), ()), (r1, ())))⟩
noncomputable def order_When_p1_code : Code := codeAt 250 (bodyOf Try.f13)
abbrev zqvx (β : Type) := (List (Int × Int)) → Option β
abbrev zqvy := {β : Type} → zqvx β → (List (List Int)) → Int → Int → (List (Int × Int)) → Option β
def zqvz : View := ⟨0, [4, 6, 17, 18], [(false, [.data (.slice (.slice (.int .i64)))]), (false, [.rowh 0]), (false, [.data (.int .i64)]), (false, [.data (.int .i64)])], [.row 56 (.prod (.int .i64) (.int .i64))]⟩
def zqw0 : List (AExit × View) := [(.exit 0, ⟨0, [6], [(false, [.rowh 0])], [.row 56 (.prod (.int .i64) (.int .i64))]⟩)]
@[reducible] def order_When_p1_G (p : zqvy) {β : Type} (d : zqvz.den) (ks : Outs.K β zqw0) : Option β :=
  p (fun a0 => ks.1 (((), ()), (a0, ()))) d.1.1.1 d.1.2.2.1.1 d.1.2.2.2.1.1 d.2.1
section
variable (c_order_closed : zqva) (c_order_matrix_when : zq2q)
@[reducible] def order_When_X : Ctx := ⟨look tab, pick1 [(39, .spec (zqvb c_order_closed)), (41, .spec (zq2r c_order_matrix_when))], false⟩
def zqw1 {β : Type} (rec : (List (List Int)) → Int → Int → (List (Int × Int)) → Option β) (k1 : zqvx β) (m : List (List Int)) (t17 : Int) (t18 : Int) (out : List (Int × Int)) : Option β :=
  cond (decide (t18 < t17))
  (c_order_matrix_when m t18 (fun (rwhen : (Int × Int)) =>
  let l : List (Int × Int) := ([rwhen] : List (Int × Int));
  cond (decide ((List.length out + List.length l) * 16 ≤ roomMax))
  (let l2 : List (Int × Int) := (out ++ l);
  rec m t17 (IntKind.i64.wrap (t18 + (1 : Int))) l2)
  none))
  (k1 out)
def zqw2 {β : Type} : Nat → zqvx β → (List (List Int)) → Int → Int → (List (Int × Int)) → Option β
  | 0 => fun _ _ _ _ _ => none
  | i + 1 => fun k1 m t17 t18 out => zqw1 c_order_matrix_when (zqw2 i k1) k1 m t17 t18 out
theorem zqw3 (hΓ : ΓOk Try.prog (order_When_X c_order_closed c_order_matrix_when).Γ) (i : Nat) : PieceOk Try.prog 29 0 order_When_p1_code zqvz zqw0 (order_When_p1_G (zqw2 c_order_matrix_when i)) := by
  rw [show order_When_p1_code = .loop (loopBody order_When_p1_code) by kernel_rfl]
  exact piece_loop (X := (order_When_X c_order_closed c_order_matrix_when)) (p := 1) (Λ := pick1 []) (G := fun i => @fun β d ks => order_When_p1_G (zqw2 c_order_matrix_when i) d ks) mixed tab_ok hΓ rfl (by kernel_rfl) CutsOk_nil (fun _ _ => rfl) (fun i => @fun β d ks r h => Eq.trans (b := order_When_p1_G (zqw2 c_order_matrix_when (i + 1)) d ks) (by kernel_rfl) h) i
def zqw4 (p1 : zqvy) {β : Type} (r_ : zq4) (k : (Bool → (List (Int × Int)) → Option β)) : Option β :=
  c_order_closed r_ (fun (rclosed : List (List Int)) (rclosed2 : Bool) =>
  cond (!rclosed2)
  (k false ([] : List (Int × Int)))
  (p1 (fun (out : List (Int × Int)) =>
  k true out) rclosed (List.length r_.2.2.1 : Int) (0 : Int) ([] : List (Int × Int))))
theorem zqw5 (hΓ : ΓOk Try.prog (order_When_X c_order_closed c_order_matrix_when).Γ) (p1 : zqvy) (hp1 : PieceOk Try.prog 29 0 order_When_p1_code zqvz zqw0 (order_When_p1_G p1)) : SpecOk Try.prog 13 (zqvw (zqw4 c_order_closed p1)) :=
  spec_exec (X := (order_When_X c_order_closed c_order_matrix_when)) (Λ := pick1 [(250, pieceCut zqvz zqw0 (order_When_p1_G p1))]) (rs := [.tmp 2, .tmp 3]) (c := bodyOf Try.f13) mixed tab_ok hΓ Try.func13 (by kernel_rfl) (by kernel_rfl) (by kernel_rfl) (by kernel_rfl) (CutsOk_cons (q := 250) (c' := order_When_p1_code) (by kernel_rfl) rfl hp1 CutsOk_nil) (fun x k r h => Eq.trans (b := (zqvw (zqw4 c_order_closed p1)).run x k) (by kernel_rfl) h)
end
theorem zqw6Γ : ΓOk Try.prog (pick1 [(39, .spec (zqvb zqvf)), (41, .spec (zq2r zq2v))]) := (ΓOk_cons zqvg (ΓOk_cons zq2w ΓOk_nil))
def zqw7 (m : Nat) : zqvy := zqw2 zq2v m
theorem zqw8 {β : Type} (i : Nat) (k1 m t17 t18 out) : (zqw7 (i + 1) k1 m t17 t18 out : Option β) = zqw1 zq2v (zqw7 i k1) k1 m t17 t18 out := rfl
def zqw9 : zqvy := zqw7 fuel
theorem zqwa : PieceOk Try.prog 29 0 order_When_p1_code zqvz zqw0 (order_When_p1_G zqw9) := zqw3 zqvf zq2v zqw6Γ fuel
def zqwb : zqvv := zqw4 zqvf zqw9
theorem zqwc : SpecOk Try.prog 13 (zqvw zqwb) := zqw5 zqvf zq2v zqw6Γ zqw9 zqwa

/-- pagewatch/order.Sort -/
abbrev zqwd := {β : Type} → zq4 → (Bool → (List Int) → Option β) → Option β
def zqwe (c : zqwd) : Spec :=
  ⟨[(true, [.data zq5])], [], [(false, [.rowh 0]), (false, [.data .bool])], [.row 3 (.int .i64)], fun x k => c x.1.1.1 (fun r0 r1 => k (((), (r0, ()), ()), (r1, ())))⟩
noncomputable def order_Sort_p3_code : Code := codeAt 506 (bodyOf Try.f15)
noncomputable def order_Sort_p2_code : Code := codeAt 458 (loopBody order_Sort_p3_code)
noncomputable def order_Sort_p1_code : Code := codeAt 922 (loopBody order_Sort_p2_code)
abbrev zqwf (β : Type) := (List (List Int)) → Int → Int → Bool → Int → Int → Int → Int → (List (List UInt8 × Int)) → (List zq2) → (List zq0) → (List (Int × (Int × Int))) → (List (Int × Bool)) → (List Int) → Option β
abbrev zqwg := {β : Type} → zqwf β → (List (List Int)) → Int → Int → Bool → Int → Int → Int → Int → Int → Int → (List (List UInt8 × Int)) → (List zq2) → (List zq0) → (List (Int × (Int × Int))) → (List (Int × Bool)) → (List Int) → Option β
def zqwh : View := ⟨0, [1, 4, 6, 7, 8, 9, 10, 22, 23, 27, 28, 37, 38], [(false, [.ptr 0 0]), (false, [.data (.slice (.slice (.int .i64)))]), (false, [.maph 1]), (false, [.rowh 2]), (false, [.data (.int .i64)]), (false, [.data (.int .i64)]), (false, [.data .bool]), (false, [.data (.int .i64)]), (false, [.data (.int .i64)]), (false, [.data (.int .i64)]), (false, [.data (.int .i64)]), (false, [.data (.int .i64)]), (false, [.data (.int .i64)])], [.cells 28 [.data (.slice (.prod .str (.int .i64))), .data (.slice zq3), .data (.slice zq1), .data (.slice (.prod (.int .i64) (.prod (.int .i64) (.int .i64))))], .map 86 (.int .i64) .bool false, .row 3 (.int .i64)]⟩
def zqwi : List (AExit × View) := [(.exit 4, ⟨0, [1, 4, 6, 7, 8, 9, 10, 22, 23, 27, 28], [(false, [.ptr 0 0]), (false, [.data (.slice (.slice (.int .i64)))]), (false, [.maph 1]), (false, [.rowh 2]), (false, [.data (.int .i64)]), (false, [.data (.int .i64)]), (false, [.data .bool]), (false, [.data (.int .i64)]), (false, [.data (.int .i64)]), (false, [.data (.int .i64)]), (false, [.data (.int .i64)])], [.cells 28 [.data (.slice (.prod .str (.int .i64))), .data (.slice zq3), .data (.slice zq1), .data (.slice (.prod (.int .i64) (.prod (.int .i64) (.int .i64))))], .map 86 (.int .i64) .bool false, .row 3 (.int .i64)]⟩)]
@[reducible] def order_Sort_p1_G (p : zqwg) {β : Type} (d : zqwh.den) (ks : Outs.K β zqwi) : Option β :=
  p (fun a0 a1 a2 a3 a4 a5 a6 a7 a8 a9 a10 a11 a12 a13 => ks.1 (((), (a0, ()), (), (), (a1, ()), (a2, ()), (a3, ()), (a4, ()), (a5, ()), (a6, ()), (a7, ()), ()), ((a8, a9, a10, a11, ()), a12, a13, ()))) d.1.2.1.1 d.1.2.2.2.2.1.1 d.1.2.2.2.2.2.1.1 d.1.2.2.2.2.2.2.1.1 d.1.2.2.2.2.2.2.2.1.1 d.1.2.2.2.2.2.2.2.2.1.1 d.1.2.2.2.2.2.2.2.2.2.1.1 d.1.2.2.2.2.2.2.2.2.2.2.1.1 d.1.2.2.2.2.2.2.2.2.2.2.2.1.1 d.1.2.2.2.2.2.2.2.2.2.2.2.2.1.1 d.2.1.1 d.2.1.2.1 d.2.1.2.2.1 d.2.1.2.2.2.1 d.2.2.1 d.2.2.2.1
abbrev zqwj (β : Type) := (List (List Int)) → Int → Int → Int → (List (List UInt8 × Int)) → (List zq2) → (List zq0) → (List (Int × (Int × Int))) → (List (Int × Bool)) → (List Int) → Option β
abbrev zqwk := {β : Type} → zqwj β → (List (List Int)) → Int → Int → Int → Int → Int → (List (List UInt8 × Int)) → (List zq2) → (List zq0) → (List (Int × (Int × Int))) → (List (Int × Bool)) → (List Int) → Option β
def zqwl : View := ⟨0, [1, 4, 6, 7, 8, 22, 23, 27, 28], [(false, [.ptr 0 0]), (false, [.data (.slice (.slice (.int .i64)))]), (false, [.maph 1]), (false, [.rowh 2]), (false, [.data (.int .i64)]), (false, [.data (.int .i64)]), (false, [.data (.int .i64)]), (false, [.data (.int .i64)]), (false, [.data (.int .i64)])], [.cells 28 [.data (.slice (.prod .str (.int .i64))), .data (.slice zq3), .data (.slice zq1), .data (.slice (.prod (.int .i64) (.prod (.int .i64) (.int .i64))))], .map 86 (.int .i64) .bool false, .row 3 (.int .i64)]⟩
def zqwm : List (AExit × View) := [(.exit 2, ⟨0, [1, 4, 6, 7, 8, 22, 23], [(false, [.ptr 0 0]), (false, [.data (.slice (.slice (.int .i64)))]), (false, [.maph 1]), (false, [.rowh 2]), (false, [.data (.int .i64)]), (false, [.data (.int .i64)]), (false, [.data (.int .i64)])], [.cells 28 [.data (.slice (.prod .str (.int .i64))), .data (.slice zq3), .data (.slice zq1), .data (.slice (.prod (.int .i64) (.prod (.int .i64) (.int .i64))))], .map 86 (.int .i64) .bool false, .row 3 (.int .i64)]⟩)]
@[reducible] def order_Sort_p2_G (p : zqwk) {β : Type} (d : zqwl.den) (ks : Outs.K β zqwm) : Option β :=
  p (fun a0 a1 a2 a3 a4 a5 a6 a7 a8 a9 => ks.1 (((), (a0, ()), (), (), (a1, ()), (a2, ()), (a3, ()), ()), ((a4, a5, a6, a7, ()), a8, a9, ()))) d.1.2.1.1 d.1.2.2.2.2.1.1 d.1.2.2.2.2.2.1.1 d.1.2.2.2.2.2.2.1.1 d.1.2.2.2.2.2.2.2.1.1 d.1.2.2.2.2.2.2.2.2.1.1 d.2.1.1 d.2.1.2.1 d.2.1.2.2.1 d.2.1.2.2.2.1 d.2.2.1 d.2.2.2.1
abbrev zqwn (β : Type) := (List Int) → Option β
abbrev zqwo := {β : Type} → zqwn β → (List (List Int)) → Int → Int → (List (List UInt8 × Int)) → (List zq2) → (List zq0) → (List (Int × (Int × Int))) → (List (Int × Bool)) → (List Int) → Option β
def zqwp : View := ⟨0, [1, 4, 6, 7, 22, 23], [(false, [.ptr 0 0]), (false, [.data (.slice (.slice (.int .i64)))]), (false, [.maph 1]), (false, [.rowh 2]), (false, [.data (.int .i64)]), (false, [.data (.int .i64)])], [.cells 28 [.data (.slice (.prod .str (.int .i64))), .data (.slice zq3), .data (.slice zq1), .data (.slice (.prod (.int .i64) (.prod (.int .i64) (.int .i64))))], .map 86 (.int .i64) .bool false, .row 3 (.int .i64)]⟩
def zqwq : List (AExit × View) := [(.exit 0, ⟨0, [7], [(false, [.rowh 0])], [.row 3 (.int .i64)]⟩)]
@[reducible] def order_Sort_p3_G (p : zqwo) {β : Type} (d : zqwp.den) (ks : Outs.K β zqwq) : Option β :=
  p (fun a0 => ks.1 (((), ()), (a0, ()))) d.1.2.1.1 d.1.2.2.2.2.1.1 d.1.2.2.2.2.2.1.1 d.2.1.1 d.2.1.2.1 d.2.1.2.2.1 d.2.1.2.2.2.1 d.2.2.1 d.2.2.2.1
section
variable (c_order_closed : zqva) (c_order_matrix_before : zq2x) (c_order_matrix_earlier : zq34)
@[reducible] def order_Sort_X : Ctx := ⟨look tab, pick1 [(39, .spec (zqvb c_order_closed)), (42, .spec (zq2y c_order_matrix_before)), (43, .spec (zq35 c_order_matrix_earlier))], false⟩
def zqwr {β : Type} (rec : (List (List Int)) → Int → Int → Bool → Int → Int → Int → Int → Int → Int → (List (List UInt8 × Int)) → (List zq2) → (List zq0) → (List (Int × (Int × Int))) → (List (Int × Bool)) → (List Int) → Option β) (k1 : zqwf β) (m : List (List Int)) (next : Int) (i_ : Int) (free : Bool) (t22 : Int) (t23 : Int) (t27 : Int) (t28 : Int) (t37 : Int) (t38 : Int) (r_ : List (List UInt8 × Int)) (r_2 : List zq2) (r_3 : List zq0) (r_4 : List (Int × (Int × Int))) (placed : List (Int × Bool)) (out : List Int) : Option β :=
  cond (decide (t38 < t37))
  (cond free
  (let g : Bool := (mGet (.int .i64) placed t38 false);
  cond g
  (rec m next i_ true t22 t23 t27 t28 t37 (IntKind.i64.wrap (t38 + (1 : Int))) r_ r_2 r_3 r_4 placed out)
  (c_order_matrix_before m t38 i_ (fun (rbefore : Bool) =>
  rec m next i_ (!rbefore) t22 t23 t27 t28 t37 (IntKind.i64.wrap (t38 + (1 : Int))) r_ r_2 r_3 r_4 placed out)))
  (rec m next i_ false t22 t23 t27 t28 t37 (IntKind.i64.wrap (t38 + (1 : Int))) r_ r_2 r_3 r_4 placed out))
  (k1 m next i_ free t22 t23 t27 t28 r_ r_2 r_3 r_4 placed out)
def zqws {β : Type} : Nat → zqwf β → (List (List Int)) → Int → Int → Bool → Int → Int → Int → Int → Int → Int → (List (List UInt8 × Int)) → (List zq2) → (List zq0) → (List (Int × (Int × Int))) → (List (Int × Bool)) → (List Int) → Option β
  | 0 => fun _ _ _ _ _ _ _ _ _ _ _ _ _ _ _ _ _ => none
  | i + 1 => fun k1 m next i_ free t22 t23 t27 t28 t37 t38 r_ r_2 r_3 r_4 placed out => zqwr c_order_matrix_before (zqws i k1) k1 m next i_ free t22 t23 t27 t28 t37 t38 r_ r_2 r_3 r_4 placed out
theorem zqwt (hΓ : ΓOk Try.prog (order_Sort_X c_order_closed c_order_matrix_before c_order_matrix_earlier).Γ) (i : Nat) : PieceOk Try.prog 76 0 order_Sort_p1_code zqwh zqwi (order_Sort_p1_G (zqws c_order_matrix_before i)) := by
  rw [show order_Sort_p1_code = .loop (loopBody order_Sort_p1_code) by kernel_rfl]
  exact piece_loop (X := (order_Sort_X c_order_closed c_order_matrix_before c_order_matrix_earlier)) (p := 1) (Λ := pick1 []) (G := fun i => @fun β d ks => order_Sort_p1_G (zqws c_order_matrix_before i) d ks) mixed tab_ok hΓ rfl (by kernel_rfl) CutsOk_nil (fun _ _ => rfl) (fun i => @fun β d ks r h => Eq.trans (b := order_Sort_p1_G (zqws c_order_matrix_before (i + 1)) d ks) (by kernel_rfl) h) i
def zqwu (p1 : zqwg) {β : Type} (rec : (List (List Int)) → Int → Int → Int → Int → Int → (List (List UInt8 × Int)) → (List zq2) → (List zq0) → (List (Int × (Int × Int))) → (List (Int × Bool)) → (List Int) → Option β) (k1 : zqwj β) (m : List (List Int)) (next : Int) (t22 : Int) (t23 : Int) (t27 : Int) (t28 : Int) (r_ : List (List UInt8 × Int)) (r_2 : List zq2) (r_3 : List zq0) (r_4 : List (Int × (Int × Int))) (placed : List (Int × Bool)) (out : List Int) : Option β :=
  cond (decide (t28 < t27))
  (let g : Bool := (mGet (.int .i64) placed t28 false);
  p1 (fun (m2 : List (List Int)) (next2 : Int) (i_ : Int) (free : Bool) (t222 : Int) (t232 : Int) (t272 : Int) (t282 : Int) (r_5 : List (List UInt8 × Int)) (r_6 : List zq2) (r_7 : List zq0) (r_8 : List (Int × (Int × Int))) (placed2 : List (Int × Bool)) (out2 : List Int) =>
  cond free
  (cond (decide (next2 < (0 : Int)))
  (rec m2 i_ t222 t232 t272 (IntKind.i64.wrap (t282 + (1 : Int))) r_5 r_6 r_7 r_8 placed2 out2)
  (c_order_matrix_earlier m2 i_ next2 (fun (rearlier : Bool) =>
  cond rearlier
  (rec m2 i_ t222 t232 t272 (IntKind.i64.wrap (t282 + (1 : Int))) r_5 r_6 r_7 r_8 placed2 out2)
  (rec m2 next2 t222 t232 t272 (IntKind.i64.wrap (t282 + (1 : Int))) r_5 r_6 r_7 r_8 placed2 out2))))
  (rec m2 next2 t222 t232 t272 (IntKind.i64.wrap (t282 + (1 : Int))) r_5 r_6 r_7 r_8 placed2 out2)) m next t28 (!g) t22 t23 t27 t28 (List.length r_3 : Int) (0 : Int) r_ r_2 r_3 r_4 placed out)
  (k1 m next t22 t23 r_ r_2 r_3 r_4 placed out)
def zqwv (p1 : zqwg) {β : Type} : Nat → zqwj β → (List (List Int)) → Int → Int → Int → Int → Int → (List (List UInt8 × Int)) → (List zq2) → (List zq0) → (List (Int × (Int × Int))) → (List (Int × Bool)) → (List Int) → Option β
  | 0 => fun _ _ _ _ _ _ _ _ _ _ _ _ _ => none
  | i + 1 => fun k1 m next t22 t23 t27 t28 r_ r_2 r_3 r_4 placed out => zqwu c_order_matrix_earlier p1 (zqwv p1 i k1) k1 m next t22 t23 t27 t28 r_ r_2 r_3 r_4 placed out
theorem zqww (hΓ : ΓOk Try.prog (order_Sort_X c_order_closed c_order_matrix_before c_order_matrix_earlier).Γ) (p1 : zqwg) (hp1 : PieceOk Try.prog 76 0 order_Sort_p1_code zqwh zqwi (order_Sort_p1_G p1)) (i : Nat) : PieceOk Try.prog 76 0 order_Sort_p2_code zqwl zqwm (order_Sort_p2_G (zqwv c_order_matrix_earlier p1 i)) := by
  rw [show order_Sort_p2_code = .loop (loopBody order_Sort_p2_code) by kernel_rfl]
  exact piece_loop (X := (order_Sort_X c_order_closed c_order_matrix_before c_order_matrix_earlier)) (p := 1) (Λ := pick1 [(922, pieceCut zqwh zqwi (order_Sort_p1_G p1))]) (G := fun i => @fun β d ks => order_Sort_p2_G (zqwv c_order_matrix_earlier p1 i) d ks) mixed tab_ok hΓ rfl (by kernel_rfl) (CutsOk_cons (q := 922) (c' := order_Sort_p1_code) (by kernel_rfl) rfl hp1 CutsOk_nil) (fun _ _ => rfl) (fun i => @fun β d ks r h => Eq.trans (b := order_Sort_p2_G (zqwv c_order_matrix_earlier p1 (i + 1)) d ks) (by kernel_rfl) h) i
def zqwx (p2 : zqwk) {β : Type} (rec : (List (List Int)) → Int → Int → (List (List UInt8 × Int)) → (List zq2) → (List zq0) → (List (Int × (Int × Int))) → (List (Int × Bool)) → (List Int) → Option β) (k1 : zqwn β) (m : List (List Int)) (t22 : Int) (t23 : Int) (r_ : List (List UInt8 × Int)) (r_2 : List zq2) (r_3 : List zq0) (r_4 : List (Int × (Int × Int))) (placed : List (Int × Bool)) (out : List Int) : Option β :=
  cond (decide (t23 < t22))
  (p2 (fun (m2 : List (List Int)) (next : Int) (t222 : Int) (t232 : Int) (r_5 : List (List UInt8 × Int)) (r_6 : List zq2) (r_7 : List zq0) (r_8 : List (Int × (Int × Int))) (placed2 : List (Int × Bool)) (out2 : List Int) =>
  let m_ : List (Int × Bool) := (mPut (.int .i64) placed2 next true);
  let l : List Int := ([next] : List Int);
  cond (decide ((List.length out2 + List.length l) * 8 ≤ roomMax))
  (let l2 : List Int := (out2 ++ l);
  rec m2 t222 (IntKind.i64.wrap (t232 + (1 : Int))) r_5 r_6 r_7 r_8 m_ l2)
  none) m (-1 : Int) t22 t23 (List.length r_3 : Int) (0 : Int) r_ r_2 r_3 r_4 placed out)
  (k1 out)
def zqwy (p2 : zqwk) {β : Type} : Nat → zqwn β → (List (List Int)) → Int → Int → (List (List UInt8 × Int)) → (List zq2) → (List zq0) → (List (Int × (Int × Int))) → (List (Int × Bool)) → (List Int) → Option β
  | 0 => fun _ _ _ _ _ _ _ _ _ _ => none
  | i + 1 => fun k1 m t22 t23 r_ r_2 r_3 r_4 placed out => zqwx p2 (zqwy p2 i k1) k1 m t22 t23 r_ r_2 r_3 r_4 placed out
theorem zqwz (hΓ : ΓOk Try.prog (order_Sort_X c_order_closed c_order_matrix_before c_order_matrix_earlier).Γ) (p2 : zqwk) (hp2 : PieceOk Try.prog 76 0 order_Sort_p2_code zqwl zqwm (order_Sort_p2_G p2)) (i : Nat) : PieceOk Try.prog 76 0 order_Sort_p3_code zqwp zqwq (order_Sort_p3_G (zqwy p2 i)) := by
  rw [show order_Sort_p3_code = .loop (loopBody order_Sort_p3_code) by kernel_rfl]
  exact piece_loop (X := (order_Sort_X c_order_closed c_order_matrix_before c_order_matrix_earlier)) (p := 1) (Λ := pick1 [(458, pieceCut zqwl zqwm (order_Sort_p2_G p2))]) (G := fun i => @fun β d ks => order_Sort_p3_G (zqwy p2 i) d ks) mixed tab_ok hΓ rfl (by kernel_rfl) (CutsOk_cons (q := 458) (c' := order_Sort_p2_code) (by kernel_rfl) rfl hp2 CutsOk_nil) (fun _ _ => rfl) (fun i => @fun β d ks r h => Eq.trans (b := order_Sort_p3_G (zqwy p2 (i + 1)) d ks) (by kernel_rfl) h) i
def zqx0 (p3 : zqwo) {β : Type} (r_ : zq4) (k : (Bool → (List Int) → Option β)) : Option β :=
  c_order_closed r_ (fun (rclosed : List (List Int)) (rclosed2 : Bool) =>
  cond (!rclosed2)
  (k false ([] : List Int))
  (let m_ : List (Int × Bool) := ([] : List (Int × Bool));
  p3 (fun (out : List Int) =>
  k true out) rclosed (List.length r_.2.2.1 : Int) (0 : Int) r_.1 r_.2.1 r_.2.2.1 r_.2.2.2 m_ ([] : List Int)))
theorem zqx1 (hΓ : ΓOk Try.prog (order_Sort_X c_order_closed c_order_matrix_before c_order_matrix_earlier).Γ) (p3 : zqwo) (hp3 : PieceOk Try.prog 76 0 order_Sort_p3_code zqwp zqwq (order_Sort_p3_G p3)) : SpecOk Try.prog 15 (zqwe (zqx0 c_order_closed p3)) :=
  spec_exec (X := (order_Sort_X c_order_closed c_order_matrix_before c_order_matrix_earlier)) (Λ := pick1 [(506, pieceCut zqwp zqwq (order_Sort_p3_G p3))]) (rs := [.tmp 2, .tmp 3]) (c := bodyOf Try.f15) mixed tab_ok hΓ Try.func15 (by kernel_rfl) (by kernel_rfl) (by kernel_rfl) (by kernel_rfl) (CutsOk_cons (q := 506) (c' := order_Sort_p3_code) (by kernel_rfl) rfl hp3 CutsOk_nil) (fun x k r h => Eq.trans (b := (zqwe (zqx0 c_order_closed p3)).run x k) (by kernel_rfl) h)
end
theorem zqx2Γ : ΓOk Try.prog (pick1 [(39, .spec (zqvb zqvf)), (42, .spec (zq2y zq32)), (43, .spec (zq35 zq39))]) := (ΓOk_cons zqvg (ΓOk_cons zq33 (ΓOk_cons zq3a ΓOk_nil)))
def zqx3 (m : Nat) : zqwg := zqws zq32 m
theorem zqx4 {β : Type} (i : Nat) (k1 m next i_ free t22 t23 t27 t28 t37 t38 r_ r_2 r_3 r_4 placed out) : (zqx3 (i + 1) k1 m next i_ free t22 t23 t27 t28 t37 t38 r_ r_2 r_3 r_4 placed out : Option β) = zqwr zq32 (zqx3 i k1) k1 m next i_ free t22 t23 t27 t28 t37 t38 r_ r_2 r_3 r_4 placed out := rfl
def zqx5 : zqwg := zqx3 fuel
theorem zqx6 : PieceOk Try.prog 76 0 order_Sort_p1_code zqwh zqwi (order_Sort_p1_G zqx5) := zqwt zqvf zq32 zq39 zqx2Γ fuel
def zqx7 (m : Nat) : zqwk := zqwv zq39 zqx5 m
theorem zqx8 {β : Type} (i : Nat) (k1 m next t22 t23 t27 t28 r_ r_2 r_3 r_4 placed out) : (zqx7 (i + 1) k1 m next t22 t23 t27 t28 r_ r_2 r_3 r_4 placed out : Option β) = zqwu zq39 zqx5 (zqx7 i k1) k1 m next t22 t23 t27 t28 r_ r_2 r_3 r_4 placed out := rfl
def zqx9 : zqwk := zqx7 fuel
theorem zqxa : PieceOk Try.prog 76 0 order_Sort_p2_code zqwl zqwm (order_Sort_p2_G zqx9) := zqww zqvf zq32 zq39 zqx2Γ zqx5 zqx6 fuel
def zqxb (m : Nat) : zqwo := zqwy zqx9 m
theorem zqxc {β : Type} (i : Nat) (k1 m t22 t23 r_ r_2 r_3 r_4 placed out) : (zqxb (i + 1) k1 m t22 t23 r_ r_2 r_3 r_4 placed out : Option β) = zqwx zqx9 (zqxb i k1) k1 m t22 t23 r_ r_2 r_3 r_4 placed out := rfl
def zqxd : zqwo := zqxb fuel
theorem zqxe : PieceOk Try.prog 76 0 order_Sort_p3_code zqwp zqwq (order_Sort_p3_G zqxd) := zqwz zqvf zq32 zq39 zqx2Γ zqx9 zqxa fuel
def zqxf : zqwd := zqx0 zqvf zqxd
theorem zqxg : SpecOk Try.prog 15 (zqwe zqxf) := zqx1 zqvf zq32 zq39 zqx2Γ zqxd zqxe

/-- pagewatch/order.Open -/
abbrev zqxh := {β : Type} → zq4 → ((List (Int × Int)) → Option β) → Option β
def zqxi (c : zqxh) : Spec :=
  ⟨[(true, [.data zq5])], [], [(false, [.rowh 0])], [.row 53 (.prod (.int .i64) (.int .i64))], fun x k => c x.1.1.1 (fun r0 => k (((), ()), (r0, ())))⟩
noncomputable def order_Open_p2_code : Code := codeAt 122 (bodyOf Try.f20)
noncomputable def order_Open_p1_code : Code := codeAt 230 (loopBody order_Open_p2_code)
abbrev zqxj (β : Type) := (List (List Int)) → Bool → Int → Int → (List (List UInt8 × Int)) → (List zq2) → (List zq0) → (List (Int × (Int × Int))) → (List (Int × Int)) → Option β
abbrev zqxk := {β : Type} → zqxj β → (List (List Int)) → Bool → Int → Int → Int → Int → (List (List UInt8 × Int)) → (List zq2) → (List zq0) → (List (Int × (Int × Int))) → (List (Int × Int)) → Option β
def zqxl : View := ⟨0, [1, 3, 4, 5, 6, 7, 15, 16], [(false, [.ptr 0 0]), (false, [.data (.slice (.slice (.int .i64)))]), (false, [.data .bool]), (false, [.rowh 1]), (false, [.data (.int .i64)]), (false, [.data (.int .i64)]), (false, [.data (.int .i64)]), (false, [.data (.int .i64)])], [.cells 28 [.data (.slice (.prod .str (.int .i64))), .data (.slice zq3), .data (.slice zq1), .data (.slice (.prod (.int .i64) (.prod (.int .i64) (.int .i64))))], .row 53 (.prod (.int .i64) (.int .i64))]⟩
def zqxm : List (AExit × View) := [(.exit 2, ⟨0, [1, 3, 4, 5, 15, 16], [(false, [.ptr 0 0]), (false, [.data (.slice (.slice (.int .i64)))]), (false, [.data .bool]), (false, [.rowh 1]), (false, [.data (.int .i64)]), (false, [.data (.int .i64)])], [.cells 28 [.data (.slice (.prod .str (.int .i64))), .data (.slice zq3), .data (.slice zq1), .data (.slice (.prod (.int .i64) (.prod (.int .i64) (.int .i64))))], .row 53 (.prod (.int .i64) (.int .i64))]⟩)]
@[reducible] def order_Open_p1_G (p : zqxk) {β : Type} (d : zqxl.den) (ks : Outs.K β zqxm) : Option β :=
  p (fun a0 a1 a2 a3 a4 a5 a6 a7 a8 => ks.1 (((), (a0, ()), (a1, ()), (), (a2, ()), (a3, ()), ()), ((a4, a5, a6, a7, ()), a8, ()))) d.1.2.1.1 d.1.2.2.1.1 d.1.2.2.2.2.1.1 d.1.2.2.2.2.2.1.1 d.1.2.2.2.2.2.2.1.1 d.1.2.2.2.2.2.2.2.1.1 d.2.1.1 d.2.1.2.1 d.2.1.2.2.1 d.2.1.2.2.2.1 d.2.2.1
abbrev zqxn (β : Type) := (List (Int × Int)) → Option β
abbrev zqxo := {β : Type} → zqxn β → (List (List Int)) → Bool → Int → Int → (List (List UInt8 × Int)) → (List zq2) → (List zq0) → (List (Int × (Int × Int))) → (List (Int × Int)) → Option β
def zqxp : View := ⟨0, [1, 3, 4, 5, 15, 16], [(false, [.ptr 0 0]), (false, [.data (.slice (.slice (.int .i64)))]), (false, [.data .bool]), (false, [.rowh 1]), (false, [.data (.int .i64)]), (false, [.data (.int .i64)])], [.cells 28 [.data (.slice (.prod .str (.int .i64))), .data (.slice zq3), .data (.slice zq1), .data (.slice (.prod (.int .i64) (.prod (.int .i64) (.int .i64))))], .row 53 (.prod (.int .i64) (.int .i64))]⟩
def zqxq : List (AExit × View) := [(.exit 0, ⟨0, [5], [(false, [.rowh 0])], [.row 53 (.prod (.int .i64) (.int .i64))]⟩)]
@[reducible] def order_Open_p2_G (p : zqxo) {β : Type} (d : zqxp.den) (ks : Outs.K β zqxq) : Option β :=
  p (fun a0 => ks.1 (((), ()), (a0, ()))) d.1.2.1.1 d.1.2.2.1.1 d.1.2.2.2.2.1.1 d.1.2.2.2.2.2.1.1 d.2.1.1 d.2.1.2.1 d.2.1.2.2.1 d.2.1.2.2.2.1 d.2.2.1
section
variable (c_order_closed : zqva) (c_order_matrix_open : zq41)
@[reducible] def order_Open_X : Ctx := ⟨look tab, pick1 [(39, .spec (zqvb c_order_closed)), (46, .spec (zq42 c_order_matrix_open))], false⟩
def zqxr {β : Type} (rec : (List (List Int)) → Bool → Int → Int → Int → Int → (List (List UInt8 × Int)) → (List zq2) → (List zq0) → (List (Int × (Int × Int))) → (List (Int × Int)) → Option β) (k1 : zqxj β) (m : List (List Int)) (ok : Bool) (a : Int) (b : Int) (t15 : Int) (t16 : Int) (r_ : List (List UInt8 × Int)) (r_2 : List zq2) (r_3 : List zq0) (r_4 : List (Int × (Int × Int))) (out : List (Int × Int)) : Option β :=
  cond (decide (b < (List.length r_3 : Int)))
  (cond ok
  (c_order_matrix_open m a b (fun (ropen : Bool) =>
  cond ropen
  (let l : List (Int × Int) := ([(a, b)] : List (Int × Int));
  cond (decide ((List.length out + List.length l) * 16 ≤ roomMax))
  (let l2 : List (Int × Int) := (out ++ l);
  let b2 : Int := (IntKind.i64.wrap (b + (1 : Int)));
  rec m ok a b2 t15 t16 r_ r_2 r_3 r_4 l2)
  none)
  (let b2 : Int := (IntKind.i64.wrap (b + (1 : Int)));
  rec m ok a b2 t15 t16 r_ r_2 r_3 r_4 out)))
  (k1 m ok t15 t16 r_ r_2 r_3 r_4 out))
  (k1 m ok t15 t16 r_ r_2 r_3 r_4 out)
def zqxs {β : Type} : Nat → zqxj β → (List (List Int)) → Bool → Int → Int → Int → Int → (List (List UInt8 × Int)) → (List zq2) → (List zq0) → (List (Int × (Int × Int))) → (List (Int × Int)) → Option β
  | 0 => fun _ _ _ _ _ _ _ _ _ _ _ _ => none
  | i + 1 => fun k1 m ok a b t15 t16 r_ r_2 r_3 r_4 out => zqxr c_order_matrix_open (zqxs i k1) k1 m ok a b t15 t16 r_ r_2 r_3 r_4 out
theorem zqxt (hΓ : ΓOk Try.prog (order_Open_X c_order_closed c_order_matrix_open).Γ) (i : Nat) : PieceOk Try.prog 43 0 order_Open_p1_code zqxl zqxm (order_Open_p1_G (zqxs c_order_matrix_open i)) := by
  rw [show order_Open_p1_code = .loop (loopBody order_Open_p1_code) by kernel_rfl]
  exact piece_loop (X := (order_Open_X c_order_closed c_order_matrix_open)) (p := 1) (Λ := pick1 []) (G := fun i => @fun β d ks => order_Open_p1_G (zqxs c_order_matrix_open i) d ks) mixed tab_ok hΓ rfl (by kernel_rfl) CutsOk_nil (fun _ _ => rfl) (fun i => @fun β d ks r h => Eq.trans (b := order_Open_p1_G (zqxs c_order_matrix_open (i + 1)) d ks) (by kernel_rfl) h) i
def zqxu (p1 : zqxk) {β : Type} (rec : (List (List Int)) → Bool → Int → Int → (List (List UInt8 × Int)) → (List zq2) → (List zq0) → (List (Int × (Int × Int))) → (List (Int × Int)) → Option β) (k1 : zqxn β) (m : List (List Int)) (ok : Bool) (t15 : Int) (t16 : Int) (r_ : List (List UInt8 × Int)) (r_2 : List zq2) (r_3 : List zq0) (r_4 : List (Int × (Int × Int))) (out : List (Int × Int)) : Option β :=
  cond (decide (t16 < t15))
  (let b : Int := (IntKind.i64.wrap (t16 + (1 : Int)));
  p1 (fun (m2 : List (List Int)) (ok2 : Bool) (t152 : Int) (t162 : Int) (r_5 : List (List UInt8 × Int)) (r_6 : List zq2) (r_7 : List zq0) (r_8 : List (Int × (Int × Int))) (out2 : List (Int × Int)) =>
  rec m2 ok2 t152 (IntKind.i64.wrap (t162 + (1 : Int))) r_5 r_6 r_7 r_8 out2) m ok t16 b t15 t16 r_ r_2 r_3 r_4 out)
  (k1 out)
def zqxv (p1 : zqxk) {β : Type} : Nat → zqxn β → (List (List Int)) → Bool → Int → Int → (List (List UInt8 × Int)) → (List zq2) → (List zq0) → (List (Int × (Int × Int))) → (List (Int × Int)) → Option β
  | 0 => fun _ _ _ _ _ _ _ _ _ _ => none
  | i + 1 => fun k1 m ok t15 t16 r_ r_2 r_3 r_4 out => zqxu p1 (zqxv p1 i k1) k1 m ok t15 t16 r_ r_2 r_3 r_4 out
theorem zqxw (hΓ : ΓOk Try.prog (order_Open_X c_order_closed c_order_matrix_open).Γ) (p1 : zqxk) (hp1 : PieceOk Try.prog 43 0 order_Open_p1_code zqxl zqxm (order_Open_p1_G p1)) (i : Nat) : PieceOk Try.prog 43 0 order_Open_p2_code zqxp zqxq (order_Open_p2_G (zqxv p1 i)) := by
  rw [show order_Open_p2_code = .loop (loopBody order_Open_p2_code) by kernel_rfl]
  exact piece_loop (X := (order_Open_X c_order_closed c_order_matrix_open)) (p := 1) (Λ := pick1 [(230, pieceCut zqxl zqxm (order_Open_p1_G p1))]) (G := fun i => @fun β d ks => order_Open_p2_G (zqxv p1 i) d ks) mixed tab_ok hΓ rfl (by kernel_rfl) (CutsOk_cons (q := 230) (c' := order_Open_p1_code) (by kernel_rfl) rfl hp1 CutsOk_nil) (fun _ _ => rfl) (fun i => @fun β d ks r h => Eq.trans (b := order_Open_p2_G (zqxv p1 (i + 1)) d ks) (by kernel_rfl) h) i
def zqxx (p2 : zqxo) {β : Type} (r_ : zq4) (k : ((List (Int × Int)) → Option β)) : Option β :=
  c_order_closed r_ (fun (rclosed : List (List Int)) (rclosed2 : Bool) =>
  p2 (fun (out : List (Int × Int)) =>
  k out) rclosed rclosed2 (List.length r_.2.2.1 : Int) (0 : Int) r_.1 r_.2.1 r_.2.2.1 r_.2.2.2 ([] : List (Int × Int)))
theorem zqxy (hΓ : ΓOk Try.prog (order_Open_X c_order_closed c_order_matrix_open).Γ) (p2 : zqxo) (hp2 : PieceOk Try.prog 43 0 order_Open_p2_code zqxp zqxq (order_Open_p2_G p2)) : SpecOk Try.prog 20 (zqxi (zqxx c_order_closed p2)) :=
  spec_exec (X := (order_Open_X c_order_closed c_order_matrix_open)) (Λ := pick1 [(122, pieceCut zqxp zqxq (order_Open_p2_G p2))]) (rs := [.tmp 2]) (c := bodyOf Try.f20) mixed tab_ok hΓ Try.func20 (by kernel_rfl) (by kernel_rfl) (by kernel_rfl) (by kernel_rfl) (CutsOk_cons (q := 122) (c' := order_Open_p2_code) (by kernel_rfl) rfl hp2 CutsOk_nil) (fun x k r h => Eq.trans (b := (zqxi (zqxx c_order_closed p2)).run x k) (by kernel_rfl) h)
end
theorem zqxzΓ : ΓOk Try.prog (pick1 [(39, .spec (zqvb zqvf)), (46, .spec (zq42 zq46))]) := (ΓOk_cons zqvg (ΓOk_cons zq47 ΓOk_nil))
def zqy0 (m : Nat) : zqxk := zqxs zq46 m
theorem zqy1 {β : Type} (i : Nat) (k1 m ok a b t15 t16 r_ r_2 r_3 r_4 out) : (zqy0 (i + 1) k1 m ok a b t15 t16 r_ r_2 r_3 r_4 out : Option β) = zqxr zq46 (zqy0 i k1) k1 m ok a b t15 t16 r_ r_2 r_3 r_4 out := rfl
def zqy2 : zqxk := zqy0 fuel
theorem zqy3 : PieceOk Try.prog 43 0 order_Open_p1_code zqxl zqxm (order_Open_p1_G zqy2) := zqxt zqvf zq46 zqxzΓ fuel
def zqy4 (m : Nat) : zqxo := zqxv zqy2 m
theorem zqy5 {β : Type} (i : Nat) (k1 m ok t15 t16 r_ r_2 r_3 r_4 out) : (zqy4 (i + 1) k1 m ok t15 t16 r_ r_2 r_3 r_4 out : Option β) = zqxu zqy2 (zqy4 i k1) k1 m ok t15 t16 r_ r_2 r_3 r_4 out := rfl
def zqy6 : zqxo := zqy4 fuel
theorem zqy7 : PieceOk Try.prog 43 0 order_Open_p2_code zqxp zqxq (order_Open_p2_G zqy6) := zqxw zqvf zq46 zqxzΓ zqy2 zqy3 fuel
def zqy8 : zqxh := zqxx zqvf zqy6
theorem zqy9 : SpecOk Try.prog 20 (zqxi zqy8) := zqxy zqvf zq46 zqxzΓ zqy6 zqy7

/-- pagewatch/order.Gap -/
abbrev zqya := {β : Type} → zq4 → Int → Int → ((Int × Int) → Bool → Option β) → Option β
def zqyb (c : zqya) : Spec :=
  ⟨[(true, [.data zq5]), (false, [.data (.int .i64)]), (false, [.data (.int .i64)])], [], [(true, [.data (.prod (.int .i64) (.int .i64))]), (false, [.data .bool])], [], fun x k => c x.1.1.1 x.1.2.1.1 x.1.2.2.1.1 (fun r0 r1 => k (((r0, ()), (r1, ()), ()), ()))⟩
section
variable (c_order_both : zqvh)
@[reducible] def order_Gap_X : Ctx := ⟨look tab, pick1 [(47, .spec (zqvi c_order_both))], false⟩
def zqyc {β : Type} (r_ : zq4) (a : Int) (b : Int) (k : ((Int × Int) → Bool → Option β)) : Option β :=
  c_order_both r_ a b (fun (rboth : List (List Int)) (rboth2 : Bool) =>
  cond (!rboth2)
  (k ((0 : Int), (0 : Int)) false)
  (cond (decide (0 ≤ (IntKind.i64.wrap (b + (1 : Int)))) && decide ((IntKind.i64.wrap (b + (1 : Int))) < (List.length rboth : Int)))
  (let e : List Int := List.getD rboth (Int.toNat (IntKind.i64.wrap (b + (1 : Int)))) ([] : List Int);
  cond (decide (0 ≤ (IntKind.i64.wrap (a + (1 : Int)))) && decide ((IntKind.i64.wrap (a + (1 : Int))) < (List.length e : Int)))
  (let e2 : Int := List.getD e (Int.toNat (IntKind.i64.wrap (a + (1 : Int)))) (0 : Int);
  cond (decide (0 ≤ (IntKind.i64.wrap (a + (1 : Int)))) && decide ((IntKind.i64.wrap (a + (1 : Int))) < (List.length rboth : Int)))
  (let e3 : List Int := List.getD rboth (Int.toNat (IntKind.i64.wrap (a + (1 : Int)))) ([] : List Int);
  cond (decide (0 ≤ (IntKind.i64.wrap (b + (1 : Int)))) && decide ((IntKind.i64.wrap (b + (1 : Int))) < (List.length e3 : Int)))
  (let e4 : Int := List.getD e3 (Int.toNat (IntKind.i64.wrap (b + (1 : Int)))) (0 : Int);
  k ((IntKind.i64.wrap (0 - e2)), e4) true)
  none)
  none)
  none)
  none))
theorem zqyd (hΓ : ΓOk Try.prog (order_Gap_X c_order_both).Γ) : SpecOk Try.prog 23 (zqyb (zqyc c_order_both)) :=
  spec_exec (X := (order_Gap_X c_order_both)) (Λ := pick1 []) (rs := [.cell 6 56, .tmp 7]) (c := bodyOf Try.f23) mixed tab_ok hΓ Try.func23 (by kernel_rfl) (by kernel_rfl) (by kernel_rfl) (by kernel_rfl) CutsOk_nil (fun x k r h => Eq.trans (b := (zqyb (zqyc c_order_both)).run x k) (by kernel_rfl) h)
end
theorem zqyeΓ : ΓOk Try.prog (pick1 [(47, .spec (zqvi zqvm))]) := (ΓOk_cons zqvn ΓOk_nil)
def zqyf : zqya := zqyc zqvm
theorem zqyg : SpecOk Try.prog 23 (zqyb zqyf) := zqyd zqvm zqyeΓ

/-- pagewatch/order.Compare -/
abbrev zqyh := {β : Type} → zq4 → Int → Int → (Int → Bool → Option β) → Option β
def zqyi (c : zqyh) : Spec :=
  ⟨[(true, [.data zq5]), (false, [.data (.int .i64)]), (false, [.data (.int .i64)])], [], [(false, [.data (.int .i64)]), (false, [.data .bool])], [], fun x k => c x.1.1.1 x.1.2.1.1 x.1.2.2.1.1 (fun r0 r1 => k (((r0, ()), (r1, ()), ()), ()))⟩
section
variable (c_order_both : zqvh) (c_order_matrix_before : zq2x)
@[reducible] def order_Compare_X : Ctx := ⟨look tab, pick1 [(47, .spec (zqvi c_order_both)), (42, .spec (zq2y c_order_matrix_before))], false⟩
def zqyj {β : Type} (r_ : zq4) (a : Int) (b : Int) (k : (Int → Bool → Option β)) : Option β :=
  c_order_both r_ a b (fun (rboth : List (List Int)) (rboth2 : Bool) =>
  cond (!rboth2)
  (k (0 : Int) false)
  (c_order_matrix_before rboth a b (fun (rbefore : Bool) =>
  cond rbefore
  (k (-1 : Int) true)
  (c_order_matrix_before rboth b a (fun (rbefore2 : Bool) =>
  cond rbefore2
  (k (1 : Int) true)
  (k (0 : Int) true))))))
theorem zqyk (hΓ : ΓOk Try.prog (order_Compare_X c_order_both c_order_matrix_before).Γ) : SpecOk Try.prog 25 (zqyi (zqyj c_order_both c_order_matrix_before)) :=
  spec_exec (X := (order_Compare_X c_order_both c_order_matrix_before)) (Λ := pick1 []) (rs := [.tmp 6, .tmp 7]) (c := bodyOf Try.f25) mixed tab_ok hΓ Try.func25 (by kernel_rfl) (by kernel_rfl) (by kernel_rfl) (by kernel_rfl) CutsOk_nil (fun x k r h => Eq.trans (b := (zqyi (zqyj c_order_both c_order_matrix_before)).run x k) (by kernel_rfl) h)
end
theorem zqylΓ : ΓOk Try.prog (pick1 [(47, .spec (zqvi zqvm)), (42, .spec (zq2y zq32))]) := (ΓOk_cons zqvn (ΓOk_cons zq33 ΓOk_nil))
def zqym : zqyh := zqyj zqvm zq32
theorem zqyn : SpecOk Try.prog 25 (zqyi zqym) := zqyk zqvm zq32 zqylΓ

/-- slices.IndexFunc[[]int,int] -/
abbrev zqyo := {β : Type} → (List Int) → (Int → Option β) → Option β
def zqyp (c : zqyo) : Spec :=
  ⟨[(false, [.data (.slice (.int .i64))]), (false, [.fn 71 []])], [], [(false, [.data (.int .i64)])], [], fun x k => c x.1.1.1 (fun r0 => k (((r0, ()), ()), ()))⟩
noncomputable def slices_IndexFunc_int_int_vconstraint_Fits_f1_p1_code : Code := codeAt 26 (bodyOf Try.f69)
abbrev zqyq (β : Type) := Int → Option β
abbrev zqyr (β : Type) := Unit → Option β
abbrev zqys := {β : Type} → zqyq β → zqyr β → (List Int) → Int → Int → Option β
def zqyt : View := ⟨0, [0, 1, 7, 8], [(false, [.data (.slice (.int .i64))]), (false, [.fn 71 []]), (false, [.data (.int .i64)]), (false, [.data (.int .i64)])], []⟩
def zqyu : List (AExit × View) := [(.ret, ⟨0, [4], [(false, [.data (.int .i64)])], []⟩), (.exit 0, ⟨0, [], [], []⟩)]
@[reducible] def slices_IndexFunc_int_int_vconstraint_Fits_f1_p1_G (p : zqys) {β : Type} (d : zqyt.den) (ks : Outs.K β zqyu) : Option β :=
  p (fun a0 => ks.1 (((a0, ()), ()), ())) (fun _ => ks.2.1 ((), ())) d.1.1.1 d.1.2.2.1.1 d.1.2.2.2.1.1
section
variable (c_constraint_Fits_f1 : zqh9)
@[reducible] def slices_IndexFunc_int_int_vconstraint_Fits_f1_X : Ctx := ⟨look tab, pick1 [(71, .spec (zqha c_constraint_Fits_f1))], false⟩
def zqyv {β : Type} (rec : (List Int) → Int → Int → Option β) (k1 : zqyq β) (k2 : zqyr β) (s : List Int) (t7 : Int) (t8 : Int) : Option β :=
  cond (decide (t8 < t7))
  (cond (decide (0 ≤ t8) && decide (t8 < (List.length s : Int)))
  (let e : Int := List.getD s (Int.toNat t8) (0 : Int);
  c_constraint_Fits_f1 e (fun (rFits1 : Bool) =>
  cond rFits1
  (k1 t8)
  (rec s t7 (IntKind.i64.wrap (t8 + (1 : Int))))))
  none)
  (k2 ())
def zqyw {β : Type} : Nat → zqyq β → zqyr β → (List Int) → Int → Int → Option β
  | 0 => fun _ _ _ _ _ => none
  | i + 1 => fun k1 k2 s t7 t8 => zqyv c_constraint_Fits_f1 (zqyw i k1 k2) k1 k2 s t7 t8
theorem zqyx (hΓ : ΓOk Try.prog (slices_IndexFunc_int_int_vconstraint_Fits_f1_X c_constraint_Fits_f1).Γ) (i : Nat) : PieceOk Try.prog 19 0 slices_IndexFunc_int_int_vconstraint_Fits_f1_p1_code zqyt zqyu (slices_IndexFunc_int_int_vconstraint_Fits_f1_p1_G (zqyw c_constraint_Fits_f1 i)) := by
  rw [show slices_IndexFunc_int_int_vconstraint_Fits_f1_p1_code = .loop (loopBody slices_IndexFunc_int_int_vconstraint_Fits_f1_p1_code) by kernel_rfl]
  exact piece_loop (X := (slices_IndexFunc_int_int_vconstraint_Fits_f1_X c_constraint_Fits_f1)) (p := 1) (Λ := pick1 []) (G := fun i => @fun β d ks => slices_IndexFunc_int_int_vconstraint_Fits_f1_p1_G (zqyw c_constraint_Fits_f1 i) d ks) mixed tab_ok hΓ rfl (by kernel_rfl) CutsOk_nil (fun _ _ => rfl) (fun i => @fun β d ks r h => Eq.trans (b := slices_IndexFunc_int_int_vconstraint_Fits_f1_p1_G (zqyw c_constraint_Fits_f1 (i + 1)) d ks) (by kernel_rfl) h) i
def zqyy (p1 : zqys) {β : Type} (s : List Int) (k : (Int → Option β)) : Option β :=
  p1 (fun (t4 : Int) =>
  k t4) (fun (_ : Unit) =>
  k (-1 : Int)) s (List.length s : Int) (0 : Int)
theorem zqyz (hΓ : ΓOk Try.prog (slices_IndexFunc_int_int_vconstraint_Fits_f1_X c_constraint_Fits_f1).Γ) (p1 : zqys) (hp1 : PieceOk Try.prog 19 0 slices_IndexFunc_int_int_vconstraint_Fits_f1_p1_code zqyt zqyu (slices_IndexFunc_int_int_vconstraint_Fits_f1_p1_G p1)) : SpecOk Try.prog 69 (zqyp (zqyy p1)) :=
  spec_exec (X := (slices_IndexFunc_int_int_vconstraint_Fits_f1_X c_constraint_Fits_f1)) (Λ := pick1 [(26, pieceCut zqyt zqyu (slices_IndexFunc_int_int_vconstraint_Fits_f1_p1_G p1))]) (rs := [.tmp 4]) (c := bodyOf Try.f69) mixed tab_ok hΓ Try.func69 (by kernel_rfl) (by kernel_rfl) (by kernel_rfl) (by kernel_rfl) (CutsOk_cons (q := 26) (c' := slices_IndexFunc_int_int_vconstraint_Fits_f1_p1_code) (by kernel_rfl) rfl hp1 CutsOk_nil) (fun x k r h => Eq.trans (b := (zqyp (zqyy p1)).run x k) (by kernel_rfl) h)
end
theorem zqz0Γ : ΓOk Try.prog (pick1 [(71, .spec (zqha zqhe))]) := (ΓOk_cons zqhf ΓOk_nil)
def zqz1 (m : Nat) : zqys := zqyw zqhe m
theorem zqz2 {β : Type} (i : Nat) (k1 k2 s t7 t8) : (zqz1 (i + 1) k1 k2 s t7 t8 : Option β) = zqyv zqhe (zqz1 i k1 k2) k1 k2 s t7 t8 := rfl
def zqz3 : zqys := zqz1 fuel
theorem zqz4 : PieceOk Try.prog 19 0 slices_IndexFunc_int_int_vconstraint_Fits_f1_p1_code zqyt zqyu (slices_IndexFunc_int_int_vconstraint_Fits_f1_p1_G zqz3) := zqyx zqhe zqz0Γ fuel
def zqz5 : zqyo := zqyy zqz3
theorem zqz6 : SpecOk Try.prog 69 (zqyp zqz5) := zqyz zqhe zqz0Γ zqz3 zqz4

/-- pagewatch/pagewatchlaw40.sane -/
abbrev zqz7 := {β : Type} → (Bool → Option β) → Option β
def zqz8 (c : zqz7) : Spec :=
  ⟨[], [], [(false, [.data .bool])], [], fun x k => c  (fun r0 => k (((r0, ()), ()), ()))⟩
section
variable (c_law40_two : zq2c) (c_order_Compare : zqyh) (c_order_Open : zqxh)
@[reducible] def law40_sane_X : Ctx := ⟨look tab, pick1 [(31, .spec (zq2d c_law40_two)), (25, .spec (zqyi c_order_Compare)), (20, .spec (zqxi c_order_Open))], false⟩
def zqz9 {β : Type} (k : (Bool → Option β)) : Option β :=
  c_law40_two  (fun (rtwo : zq4) =>
  c_order_Compare rtwo (0 : Int) (1 : Int) (fun (rCompare : Int) (rCompare2 : Bool) =>
  c_order_Open rtwo (fun (lrOpen : List (Int × Int)) =>
  let l : List (Int × (Int × Int)) := ([((0 : Int), ((1 : Int), (1 : Int)))] : List (Int × (Int × Int)));
  c_order_Compare (rtwo.1, (rtwo.2.1, (rtwo.2.2.1, l))) (0 : Int) (1 : Int) (fun (rCompare3 : Int) (rCompare4 : Bool) =>
  cond rCompare2
  (cond (decide (rCompare = (0 : Int)))
  (cond (decide ((List.length lrOpen : Int) = (1 : Int)))
  (cond rCompare4
  (cond (decide (rCompare3 = (-1 : Int)))
  (c_order_Open (rtwo.1, (rtwo.2.1, (rtwo.2.2.1, l))) (fun (lrOpen2 : List (Int × Int)) =>
  let t : Bool := (decide ((List.length lrOpen2 : Int) = (0 : Int)));
  k t))
  (k false))
  (k false))
  (k false))
  (k false))
  (k false)))))
theorem zqza (hΓ : ΓOk Try.prog (law40_sane_X c_law40_two c_order_Compare c_order_Open).Γ) : SpecOk Try.prog 5 (zqz8 (zqz9 c_law40_two c_order_Compare c_order_Open)) :=
  spec_exec (X := (law40_sane_X c_law40_two c_order_Compare c_order_Open)) (Λ := pick1 []) (rs := [.tmp 0]) (c := bodyOf Try.f5) mixed tab_ok hΓ Try.func5 (by kernel_rfl) (by kernel_rfl) (by kernel_rfl) (by kernel_rfl) CutsOk_nil (fun x k r h => Eq.trans (b := (zqz8 (zqz9 c_law40_two c_order_Compare c_order_Open)).run x k) (by kernel_rfl) h)
end
theorem zqzbΓ : ΓOk Try.prog (pick1 [(31, .spec (zq2d zq2h)), (25, .spec (zqyi zqym)), (20, .spec (zqxi zqy8))]) := (ΓOk_cons zq2i (ΓOk_cons zqyn (ΓOk_cons zqy9 ΓOk_nil)))
def zqzc : zqz7 := zqz9 zq2h zqym zqy8
theorem zqzd : SpecOk Try.prog 5 (zqz8 zqzc) := zqza zq2h zqym zqy8 zqzbΓ

/-- slices.ContainsFunc[[]int,int] -/
abbrev zqze := {β : Type} → (List Int) → (Bool → Option β) → Option β
def zqzf (c : zqze) : Spec :=
  ⟨[(false, [.data (.slice (.int .i64))]), (false, [.fn 71 []])], [], [(false, [.data .bool])], [], fun x k => c x.1.1.1 (fun r0 => k (((r0, ()), ()), ()))⟩
section
variable (c_slices_IndexFunc_int_int_vconstraint_Fits_f1 : zqyo)
@[reducible] def slices_ContainsFunc_int_int_vconstraint_Fits_f1_X : Ctx := ⟨look tab, pick1 [(69, .spec (zqyp c_slices_IndexFunc_int_int_vconstraint_Fits_f1))], false⟩
def zqzg {β : Type} (s : List Int) (k : (Bool → Option β)) : Option β :=
  c_slices_IndexFunc_int_int_vconstraint_Fits_f1 s (fun (rIndexFuncintint : Int) =>
  let t : Bool := (decide ((0 : Int) ≤ rIndexFuncintint));
  k t)
theorem zqzh (hΓ : ΓOk Try.prog (slices_ContainsFunc_int_int_vconstraint_Fits_f1_X c_slices_IndexFunc_int_int_vconstraint_Fits_f1).Γ) : SpecOk Try.prog 51 (zqzf (zqzg c_slices_IndexFunc_int_int_vconstraint_Fits_f1)) :=
  spec_exec (X := (slices_ContainsFunc_int_int_vconstraint_Fits_f1_X c_slices_IndexFunc_int_int_vconstraint_Fits_f1)) (Λ := pick1 []) (rs := [.tmp 4]) (c := bodyOf Try.f51) mixed tab_ok hΓ Try.func51 (by kernel_rfl) (by kernel_rfl) (by kernel_rfl) (by kernel_rfl) CutsOk_nil (fun x k r h => Eq.trans (b := (zqzf (zqzg c_slices_IndexFunc_int_int_vconstraint_Fits_f1)).run x k) (by kernel_rfl) h)
end
theorem zqziΓ : ΓOk Try.prog (pick1 [(69, .spec (zqyp zqz5))]) := (ΓOk_cons zqz6 ΓOk_nil)
def zqzj : zqze := zqzg zqz5
theorem zqzk : SpecOk Try.prog 51 (zqzf zqzj) := zqzh zqz5 zqziΓ

/-- slices.IndexFunc[[]int,int] -/
abbrev zqzl := {β : Type} → (List Int) → (List (List Int)) → Int → (Int → (List (List Int)) → Int → Option β) → Option β
def zqzm (c : zqzl) : Spec :=
  ⟨[(false, [.data (.slice (.int .i64))]), (false, [.fn 52 [0, 1]])], [.cells 80 [.data (.slice (.slice (.int .i64)))], .cells 3 [.data (.int .i64)]], [(false, [.data (.int .i64)])], [.cells 80 [.data (.slice (.slice (.int .i64)))], .cells 3 [.data (.int .i64)]], fun x k => c x.1.1.1 x.2.1.1 x.2.2.1.1 (fun r0 r1 r2 => k (((r0, ()), ()), ((r1, ()), (r2, ()), ())))⟩
noncomputable def slices_IndexFunc_int_int_vorder_Allows_f1_p1_code : Code := codeAt 26 (bodyOf Try.f69)
abbrev zqzn (β : Type) := Int → (List (List Int)) → Int → Option β
abbrev zqzo (β : Type) := (List (List Int)) → Int → Option β
abbrev zqzp := {β : Type} → zqzn β → zqzo β → (List Int) → Int → Int → (List (List Int)) → Int → Option β
def zqzq : View := ⟨2, [0, 1, 7, 8], [(false, [.data (.slice (.int .i64))]), (false, [.fn 52 [0, 1]]), (false, [.data (.int .i64)]), (false, [.data (.int .i64)])], [.cells 80 [.data (.slice (.slice (.int .i64)))], .cells 3 [.data (.int .i64)]]⟩
def zqzr : List (AExit × View) := [(.ret, ⟨2, [4], [(false, [.data (.int .i64)])], [.cells 80 [.data (.slice (.slice (.int .i64)))], .cells 3 [.data (.int .i64)]]⟩), (.exit 0, ⟨2, [], [], [.cells 80 [.data (.slice (.slice (.int .i64)))], .cells 3 [.data (.int .i64)]]⟩)]
@[reducible] def slices_IndexFunc_int_int_vorder_Allows_f1_p1_G (p : zqzp) {β : Type} (d : zqzq.den) (ks : Outs.K β zqzr) : Option β :=
  p (fun a0 a1 a2 => ks.1 (((a0, ()), ()), ((a1, ()), (a2, ()), ()))) (fun a0 a1 => ks.2.1 ((), ((a0, ()), (a1, ()), ()))) d.1.1.1 d.1.2.2.1.1 d.1.2.2.2.1.1 d.2.1.1 d.2.2.1.1
section
variable (c_order_Allows_f1 : zq4m)
@[reducible] def slices_IndexFunc_int_int_vorder_Allows_f1_X : Ctx := ⟨look tab, pick1 [(52, .spec (zq4n c_order_Allows_f1))], false⟩
def zqzs {β : Type} (rec : (List Int) → Int → Int → (List (List Int)) → Int → Option β) (k1 : zqzn β) (k2 : zqzo β) (s : List Int) (t7 : Int) (t8 : Int) (b0_ : List (List Int)) (b1_ : Int) : Option β :=
  cond (decide (t8 < t7))
  (cond (decide (0 ≤ t8) && decide (t8 < (List.length s : Int)))
  (let e : Int := List.getD s (Int.toNat t8) (0 : Int);
  c_order_Allows_f1 e b0_ b1_ (fun (rAllows1 : Bool) (mrAllows1 : List (List Int)) (mrAllows12 : Int) =>
  cond rAllows1
  (k1 t8 mrAllows1 mrAllows12)
  (rec s t7 (IntKind.i64.wrap (t8 + (1 : Int))) mrAllows1 mrAllows12)))
  none)
  (k2 b0_ b1_)
def zqzt {β : Type} : Nat → zqzn β → zqzo β → (List Int) → Int → Int → (List (List Int)) → Int → Option β
  | 0 => fun _ _ _ _ _ _ _ => none
  | i + 1 => fun k1 k2 s t7 t8 b0_ b1_ => zqzs c_order_Allows_f1 (zqzt i k1 k2) k1 k2 s t7 t8 b0_ b1_
theorem zqzu (hΓ : ΓOk Try.prog (slices_IndexFunc_int_int_vorder_Allows_f1_X c_order_Allows_f1).Γ) (i : Nat) : PieceOk Try.prog 19 2 slices_IndexFunc_int_int_vorder_Allows_f1_p1_code zqzq zqzr (slices_IndexFunc_int_int_vorder_Allows_f1_p1_G (zqzt c_order_Allows_f1 i)) := by
  rw [show slices_IndexFunc_int_int_vorder_Allows_f1_p1_code = .loop (loopBody slices_IndexFunc_int_int_vorder_Allows_f1_p1_code) by kernel_rfl]
  exact piece_loop (X := (slices_IndexFunc_int_int_vorder_Allows_f1_X c_order_Allows_f1)) (p := 1) (Λ := pick1 []) (G := fun i => @fun β d ks => slices_IndexFunc_int_int_vorder_Allows_f1_p1_G (zqzt c_order_Allows_f1 i) d ks) mixed tab_ok hΓ rfl (by kernel_rfl) CutsOk_nil (fun _ _ => rfl) (fun i => @fun β d ks r h => Eq.trans (b := slices_IndexFunc_int_int_vorder_Allows_f1_p1_G (zqzt c_order_Allows_f1 (i + 1)) d ks) (by kernel_rfl) h) i
def zqzv (p1 : zqzp) {β : Type} (s : List Int) (b0_ : List (List Int)) (b1_ : Int) (k : (Int → (List (List Int)) → Int → Option β)) : Option β :=
  p1 (fun (t4 : Int) (b0_2 : List (List Int)) (b1_2 : Int) =>
  k t4 b0_2 b1_2) (fun (b0_2 : List (List Int)) (b1_2 : Int) =>
  k (-1 : Int) b0_2 b1_2) s (List.length s : Int) (0 : Int) b0_ b1_
theorem zqzw (hΓ : ΓOk Try.prog (slices_IndexFunc_int_int_vorder_Allows_f1_X c_order_Allows_f1).Γ) (p1 : zqzp) (hp1 : PieceOk Try.prog 19 2 slices_IndexFunc_int_int_vorder_Allows_f1_p1_code zqzq zqzr (slices_IndexFunc_int_int_vorder_Allows_f1_p1_G p1)) : SpecOk Try.prog 69 (zqzm (zqzv p1)) :=
  spec_exec (X := (slices_IndexFunc_int_int_vorder_Allows_f1_X c_order_Allows_f1)) (Λ := pick1 [(26, pieceCut zqzq zqzr (slices_IndexFunc_int_int_vorder_Allows_f1_p1_G p1))]) (rs := [.tmp 4]) (c := bodyOf Try.f69) mixed tab_ok hΓ Try.func69 (by kernel_rfl) (by kernel_rfl) (by kernel_rfl) (by kernel_rfl) (CutsOk_cons (q := 26) (c' := slices_IndexFunc_int_int_vorder_Allows_f1_p1_code) (by kernel_rfl) rfl hp1 CutsOk_nil) (fun x k r h => Eq.trans (b := (zqzm (zqzv p1)).run x k) (by kernel_rfl) h)
end
theorem zqzxΓ : ΓOk Try.prog (pick1 [(52, .spec (zq4n zq4r))]) := (ΓOk_cons zq4s ΓOk_nil)
def zqzy (m : Nat) : zqzp := zqzt zq4r m
theorem zqzz {β : Type} (i : Nat) (k1 k2 s t7 t8 b0_ b1_) : (zqzy (i + 1) k1 k2 s t7 t8 b0_ b1_ : Option β) = zqzs zq4r (zqzy i k1 k2) k1 k2 s t7 t8 b0_ b1_ := rfl
def zq100 : zqzp := zqzy fuel
theorem zq101 : PieceOk Try.prog 19 2 slices_IndexFunc_int_int_vorder_Allows_f1_p1_code zqzq zqzr (slices_IndexFunc_int_int_vorder_Allows_f1_p1_G zq100) := zqzu zq4r zqzxΓ fuel
def zq102 : zqzl := zqzv zq100
theorem zq103 : SpecOk Try.prog 69 (zqzm zq102) := zqzw zq4r zqzxΓ zq100 zq101

/-- slices.IndexFunc[[]int,int] -/
abbrev zq104 := {β : Type} → (List Int) → (Int → Option β) → Option β
def zq105 (c : zq104) : Spec :=
  ⟨[(false, [.data (.slice (.int .i64))]), (false, [.fn 53 []])], [], [(false, [.data (.int .i64)])], [], fun x k => c x.1.1.1 (fun r0 => k (((r0, ()), ()), ()))⟩
noncomputable def slices_IndexFunc_int_int_vorder_Fits_f1_p1_code : Code := codeAt 26 (bodyOf Try.f69)
abbrev zq106 (β : Type) := Int → Option β
abbrev zq107 (β : Type) := Unit → Option β
abbrev zq108 := {β : Type} → zq106 β → zq107 β → (List Int) → Int → Int → Option β
def zq109 : View := ⟨0, [0, 1, 7, 8], [(false, [.data (.slice (.int .i64))]), (false, [.fn 53 []]), (false, [.data (.int .i64)]), (false, [.data (.int .i64)])], []⟩
def zq10a : List (AExit × View) := [(.ret, ⟨0, [4], [(false, [.data (.int .i64)])], []⟩), (.exit 0, ⟨0, [], [], []⟩)]
@[reducible] def slices_IndexFunc_int_int_vorder_Fits_f1_p1_G (p : zq108) {β : Type} (d : zq109.den) (ks : Outs.K β zq10a) : Option β :=
  p (fun a0 => ks.1 (((a0, ()), ()), ())) (fun _ => ks.2.1 ((), ())) d.1.1.1 d.1.2.2.1.1 d.1.2.2.2.1.1
section
variable (c_order_Fits_f1 : zq4t)
@[reducible] def slices_IndexFunc_int_int_vorder_Fits_f1_X : Ctx := ⟨look tab, pick1 [(53, .spec (zq4u c_order_Fits_f1))], false⟩
def zq10b {β : Type} (rec : (List Int) → Int → Int → Option β) (k1 : zq106 β) (k2 : zq107 β) (s : List Int) (t7 : Int) (t8 : Int) : Option β :=
  cond (decide (t8 < t7))
  (cond (decide (0 ≤ t8) && decide (t8 < (List.length s : Int)))
  (let e : Int := List.getD s (Int.toNat t8) (0 : Int);
  c_order_Fits_f1 e (fun (rFits1 : Bool) =>
  cond rFits1
  (k1 t8)
  (rec s t7 (IntKind.i64.wrap (t8 + (1 : Int))))))
  none)
  (k2 ())
def zq10c {β : Type} : Nat → zq106 β → zq107 β → (List Int) → Int → Int → Option β
  | 0 => fun _ _ _ _ _ => none
  | i + 1 => fun k1 k2 s t7 t8 => zq10b c_order_Fits_f1 (zq10c i k1 k2) k1 k2 s t7 t8
theorem zq10d (hΓ : ΓOk Try.prog (slices_IndexFunc_int_int_vorder_Fits_f1_X c_order_Fits_f1).Γ) (i : Nat) : PieceOk Try.prog 19 0 slices_IndexFunc_int_int_vorder_Fits_f1_p1_code zq109 zq10a (slices_IndexFunc_int_int_vorder_Fits_f1_p1_G (zq10c c_order_Fits_f1 i)) := by
  rw [show slices_IndexFunc_int_int_vorder_Fits_f1_p1_code = .loop (loopBody slices_IndexFunc_int_int_vorder_Fits_f1_p1_code) by kernel_rfl]
  exact piece_loop (X := (slices_IndexFunc_int_int_vorder_Fits_f1_X c_order_Fits_f1)) (p := 1) (Λ := pick1 []) (G := fun i => @fun β d ks => slices_IndexFunc_int_int_vorder_Fits_f1_p1_G (zq10c c_order_Fits_f1 i) d ks) mixed tab_ok hΓ rfl (by kernel_rfl) CutsOk_nil (fun _ _ => rfl) (fun i => @fun β d ks r h => Eq.trans (b := slices_IndexFunc_int_int_vorder_Fits_f1_p1_G (zq10c c_order_Fits_f1 (i + 1)) d ks) (by kernel_rfl) h) i
def zq10e (p1 : zq108) {β : Type} (s : List Int) (k : (Int → Option β)) : Option β :=
  p1 (fun (t4 : Int) =>
  k t4) (fun (_ : Unit) =>
  k (-1 : Int)) s (List.length s : Int) (0 : Int)
theorem zq10f (hΓ : ΓOk Try.prog (slices_IndexFunc_int_int_vorder_Fits_f1_X c_order_Fits_f1).Γ) (p1 : zq108) (hp1 : PieceOk Try.prog 19 0 slices_IndexFunc_int_int_vorder_Fits_f1_p1_code zq109 zq10a (slices_IndexFunc_int_int_vorder_Fits_f1_p1_G p1)) : SpecOk Try.prog 69 (zq105 (zq10e p1)) :=
  spec_exec (X := (slices_IndexFunc_int_int_vorder_Fits_f1_X c_order_Fits_f1)) (Λ := pick1 [(26, pieceCut zq109 zq10a (slices_IndexFunc_int_int_vorder_Fits_f1_p1_G p1))]) (rs := [.tmp 4]) (c := bodyOf Try.f69) mixed tab_ok hΓ Try.func69 (by kernel_rfl) (by kernel_rfl) (by kernel_rfl) (by kernel_rfl) (CutsOk_cons (q := 26) (c' := slices_IndexFunc_int_int_vorder_Fits_f1_p1_code) (by kernel_rfl) rfl hp1 CutsOk_nil) (fun x k r h => Eq.trans (b := (zq105 (zq10e p1)).run x k) (by kernel_rfl) h)
end
theorem zq10gΓ : ΓOk Try.prog (pick1 [(53, .spec (zq4u zq4y))]) := (ΓOk_cons zq4z ΓOk_nil)
def zq10h (m : Nat) : zq108 := zq10c zq4y m
theorem zq10i {β : Type} (i : Nat) (k1 k2 s t7 t8) : (zq10h (i + 1) k1 k2 s t7 t8 : Option β) = zq10b zq4y (zq10h i k1 k2) k1 k2 s t7 t8 := rfl
def zq10j : zq108 := zq10h fuel
theorem zq10k : PieceOk Try.prog 19 0 slices_IndexFunc_int_int_vorder_Fits_f1_p1_code zq109 zq10a (slices_IndexFunc_int_int_vorder_Fits_f1_p1_G zq10j) := zq10d zq4y zq10gΓ fuel
def zq10l : zq104 := zq10e zq10j
theorem zq10m : SpecOk Try.prog 69 (zq105 zq10l) := zq10f zq4y zq10gΓ zq10j zq10k

/-- slices.ContainsFunc[[]int,int] -/
abbrev zq10n := {β : Type} → (List Int) → (List (List Int)) → Int → (Bool → (List (List Int)) → Int → Option β) → Option β
def zq10o (c : zq10n) : Spec :=
  ⟨[(false, [.data (.slice (.int .i64))]), (false, [.fn 52 [0, 1]])], [.cells 80 [.data (.slice (.slice (.int .i64)))], .cells 3 [.data (.int .i64)]], [(false, [.data .bool])], [.cells 80 [.data (.slice (.slice (.int .i64)))], .cells 3 [.data (.int .i64)]], fun x k => c x.1.1.1 x.2.1.1 x.2.2.1.1 (fun r0 r1 r2 => k (((r0, ()), ()), ((r1, ()), (r2, ()), ())))⟩
section
variable (c_slices_IndexFunc_int_int_vorder_Allows_f1 : zqzl)
@[reducible] def slices_ContainsFunc_int_int_vorder_Allows_f1_X : Ctx := ⟨look tab, pick1 [(69, .spec (zqzm c_slices_IndexFunc_int_int_vorder_Allows_f1))], false⟩
def zq10p {β : Type} (s : List Int) (b0_ : List (List Int)) (b1_ : Int) (k : (Bool → (List (List Int)) → Int → Option β)) : Option β :=
  c_slices_IndexFunc_int_int_vorder_Allows_f1 s b0_ b1_ (fun (rIndexFuncintint : Int) (mrIndexFuncintint : List (List Int)) (mrIndexFuncintint2 : Int) =>
  let t : Bool := (decide ((0 : Int) ≤ rIndexFuncintint));
  k t mrIndexFuncintint mrIndexFuncintint2)
theorem zq10q (hΓ : ΓOk Try.prog (slices_ContainsFunc_int_int_vorder_Allows_f1_X c_slices_IndexFunc_int_int_vorder_Allows_f1).Γ) : SpecOk Try.prog 51 (zq10o (zq10p c_slices_IndexFunc_int_int_vorder_Allows_f1)) :=
  spec_exec (X := (slices_ContainsFunc_int_int_vorder_Allows_f1_X c_slices_IndexFunc_int_int_vorder_Allows_f1)) (Λ := pick1 []) (rs := [.tmp 4]) (c := bodyOf Try.f51) mixed tab_ok hΓ Try.func51 (by kernel_rfl) (by kernel_rfl) (by kernel_rfl) (by kernel_rfl) CutsOk_nil (fun x k r h => Eq.trans (b := (zq10o (zq10p c_slices_IndexFunc_int_int_vorder_Allows_f1)).run x k) (by kernel_rfl) h)
end
theorem zq10rΓ : ΓOk Try.prog (pick1 [(69, .spec (zqzm zq102))]) := (ΓOk_cons zq103 ΓOk_nil)
def zq10s : zq10n := zq10p zq102
theorem zq10t : SpecOk Try.prog 51 (zq10o zq10s) := zq10q zq102 zq10rΓ

/-- slices.ContainsFunc[[]int,int] -/
abbrev zq10u := {β : Type} → (List Int) → (Bool → Option β) → Option β
def zq10v (c : zq10u) : Spec :=
  ⟨[(false, [.data (.slice (.int .i64))]), (false, [.fn 53 []])], [], [(false, [.data .bool])], [], fun x k => c x.1.1.1 (fun r0 => k (((r0, ()), ()), ()))⟩
section
variable (c_slices_IndexFunc_int_int_vorder_Fits_f1 : zq104)
@[reducible] def slices_ContainsFunc_int_int_vorder_Fits_f1_X : Ctx := ⟨look tab, pick1 [(69, .spec (zq105 c_slices_IndexFunc_int_int_vorder_Fits_f1))], false⟩
def zq10w {β : Type} (s : List Int) (k : (Bool → Option β)) : Option β :=
  c_slices_IndexFunc_int_int_vorder_Fits_f1 s (fun (rIndexFuncintint : Int) =>
  let t : Bool := (decide ((0 : Int) ≤ rIndexFuncintint));
  k t)
theorem zq10x (hΓ : ΓOk Try.prog (slices_ContainsFunc_int_int_vorder_Fits_f1_X c_slices_IndexFunc_int_int_vorder_Fits_f1).Γ) : SpecOk Try.prog 51 (zq10v (zq10w c_slices_IndexFunc_int_int_vorder_Fits_f1)) :=
  spec_exec (X := (slices_ContainsFunc_int_int_vorder_Fits_f1_X c_slices_IndexFunc_int_int_vorder_Fits_f1)) (Λ := pick1 []) (rs := [.tmp 4]) (c := bodyOf Try.f51) mixed tab_ok hΓ Try.func51 (by kernel_rfl) (by kernel_rfl) (by kernel_rfl) (by kernel_rfl) CutsOk_nil (fun x k r h => Eq.trans (b := (zq10v (zq10w c_slices_IndexFunc_int_int_vorder_Fits_f1)).run x k) (by kernel_rfl) h)
end
theorem zq10yΓ : ΓOk Try.prog (pick1 [(69, .spec (zq105 zq10l))]) := (ΓOk_cons zq10m ΓOk_nil)
def zq10z : zq10u := zq10w zq10l
theorem zq110 : SpecOk Try.prog 51 (zq10v zq10z) := zq10x zq10l zq10yΓ

/-- pagewatch/order.Allows -/
abbrev zq111 := {β : Type} → zq4 → (List Int) → (Bool → Option β) → Option β
def zq112 (c : zq111) : Spec :=
  ⟨[(true, [.data zq5]), (false, [.data (.slice (.int .i64))])], [], [(false, [.data .bool])], [], fun x k => c x.1.1.1 x.1.2.1.1 (fun r0 => k (((r0, ()), ()), ()))⟩
noncomputable def order_Allows_p1_code : Code := codeAt 122 (bodyOf Try.f27)
abbrev zq113 (β : Type) := Bool → Option β
abbrev zq114 (β : Type) := Unit → Option β
abbrev zq115 := {β : Type} → zq113 β → zq114 β → (List Int) → (List Int) → Int → Int → (List (List Int)) → Option β
def zq116 : View := ⟨0, [1, 5, 24, 25, 26], [(false, [.data (.slice (.int .i64))]), (false, [.ptr 0 0]), (false, [.data (.slice (.int .i64))]), (false, [.data (.int .i64)]), (false, [.data (.int .i64)])], [.cells 80 [.data (.slice (.slice (.int .i64)))]]⟩
def zq117 : List (AExit × View) := [(.ret, ⟨0, [4], [(false, [.data .bool])], []⟩), (.exit 0, ⟨0, [], [], []⟩)]
@[reducible] def order_Allows_p1_G (p : zq115) {β : Type} (d : zq116.den) (ks : Outs.K β zq117) : Option β :=
  p (fun a0 => ks.1 (((a0, ()), ()), ())) (fun _ => ks.2.1 ((), ())) d.1.1.1 d.1.2.2.1.1 d.1.2.2.2.1.1 d.1.2.2.2.2.1.1 d.2.1.1
section
variable (c_order_closed : zqva) (c_order_in : zq4f) (c_slices_ContainsFunc_int_int_vorder_Allows_f1 : zq10n) (c_slices_Contains_int_int : zqcy)
@[reducible] def order_Allows_X : Ctx := ⟨look tab, pick1 [(39, .spec (zqvb c_order_closed)), (49, .spec (zq4g c_order_in)), (51, .spec (zq10o c_slices_ContainsFunc_int_int_vorder_Allows_f1)), (50, .spec (zqcz c_slices_Contains_int_int))], false⟩
def zq118 {β : Type} (rec : (List Int) → (List Int) → Int → Int → (List (List Int)) → Option β) (k1 : zq113 β) (k2 : zq114 β) (l : List Int) (t24 : List Int) (t25 : Int) (t26 : Int) (m : List (List Int)) : Option β :=
  cond (decide (t26 < t25))
  (cond (decide (0 ≤ t26) && decide (t26 < (List.length t24 : Int)))
  (let e : Int := List.getD t24 (Int.toNat t26) (0 : Int);
  c_order_in e (0 : Int) (IntKind.i64.wrap ((List.length l : Int) - (1 : Int))) (fun (rin : Bool) =>
  cond (!rin)
  (k1 false)
  (cond (decide (0 ≤ (0 : Int)) && (decide ((0 : Int) ≤ t26) && decide (t26 ≤ (List.length l : Int))))
  (c_slices_Contains_int_int (List.drop (Int.toNat (0 : Int)) (List.take (Int.toNat t26) l)) e (fun (rContainsintint : Bool) =>
  cond rContainsintint
  (k1 false)
  (cond (decide (0 ≤ (0 : Int)) && (decide ((0 : Int) ≤ t26) && decide (t26 ≤ (List.length l : Int))))
  (c_slices_ContainsFunc_int_int_vorder_Allows_f1 (List.drop (Int.toNat (0 : Int)) (List.take (Int.toNat t26) l)) m e (fun (rContainsFuncintint : Bool) (mrContainsFuncintint : List (List Int)) (mrContainsFuncintint2 : Int) =>
  cond rContainsFuncintint
  (k1 false)
  (rec l t24 t25 (IntKind.i64.wrap (t26 + (1 : Int))) mrContainsFuncintint)))
  none)))
  none)))
  none)
  (k2 ())
def zq119 {β : Type} : Nat → zq113 β → zq114 β → (List Int) → (List Int) → Int → Int → (List (List Int)) → Option β
  | 0 => fun _ _ _ _ _ _ _ => none
  | i + 1 => fun k1 k2 l t24 t25 t26 m => zq118 c_order_in c_slices_ContainsFunc_int_int_vorder_Allows_f1 c_slices_Contains_int_int (zq119 i k1 k2) k1 k2 l t24 t25 t26 m
theorem zq11a (hΓ : ΓOk Try.prog (order_Allows_X c_order_closed c_order_in c_slices_ContainsFunc_int_int_vorder_Allows_f1 c_slices_Contains_int_int).Γ) (i : Nat) : PieceOk Try.prog 52 0 order_Allows_p1_code zq116 zq117 (order_Allows_p1_G (zq119 c_order_in c_slices_ContainsFunc_int_int_vorder_Allows_f1 c_slices_Contains_int_int i)) := by
  rw [show order_Allows_p1_code = .loop (loopBody order_Allows_p1_code) by kernel_rfl]
  exact piece_loop (X := (order_Allows_X c_order_closed c_order_in c_slices_ContainsFunc_int_int_vorder_Allows_f1 c_slices_Contains_int_int)) (p := 1) (Λ := pick1 []) (G := fun i => @fun β d ks => order_Allows_p1_G (zq119 c_order_in c_slices_ContainsFunc_int_int_vorder_Allows_f1 c_slices_Contains_int_int i) d ks) mixed tab_ok hΓ rfl (by kernel_rfl) CutsOk_nil (fun _ _ => rfl) (fun i => @fun β d ks r h => Eq.trans (b := order_Allows_p1_G (zq119 c_order_in c_slices_ContainsFunc_int_int_vorder_Allows_f1 c_slices_Contains_int_int (i + 1)) d ks) (by kernel_rfl) h) i
def zq11b (p1 : zq115) {β : Type} (r_ : zq4) (l : List Int) (k : (Bool → Option β)) : Option β :=
  c_order_closed r_ (fun (rclosed : List (List Int)) (rclosed2 : Bool) =>
  cond (!rclosed2)
  (k false)
  (cond (!decide ((List.length l : Int) = (List.length r_.2.2.1 : Int)))
  (k false)
  (p1 (fun (t4 : Bool) =>
  k t4) (fun (_ : Unit) =>
  k true) l l (List.length l : Int) (0 : Int) rclosed)))
theorem zq11c (hΓ : ΓOk Try.prog (order_Allows_X c_order_closed c_order_in c_slices_ContainsFunc_int_int_vorder_Allows_f1 c_slices_Contains_int_int).Γ) (p1 : zq115) (hp1 : PieceOk Try.prog 52 0 order_Allows_p1_code zq116 zq117 (order_Allows_p1_G p1)) : SpecOk Try.prog 27 (zq112 (zq11b c_order_closed p1)) :=
  spec_exec (X := (order_Allows_X c_order_closed c_order_in c_slices_ContainsFunc_int_int_vorder_Allows_f1 c_slices_Contains_int_int)) (Λ := pick1 [(122, pieceCut zq116 zq117 (order_Allows_p1_G p1))]) (rs := [.tmp 4]) (c := bodyOf Try.f27) mixed tab_ok hΓ Try.func27 (by kernel_rfl) (by kernel_rfl) (by kernel_rfl) (by kernel_rfl) (CutsOk_cons (q := 122) (c' := order_Allows_p1_code) (by kernel_rfl) rfl hp1 CutsOk_nil) (fun x k r h => Eq.trans (b := (zq112 (zq11b c_order_closed p1)).run x k) (by kernel_rfl) h)
end
theorem zq11dΓ : ΓOk Try.prog (pick1 [(39, .spec (zqvb zqvf)), (49, .spec (zq4g zq4k)), (51, .spec (zq10o zq10s)), (50, .spec (zqcz zqd3))]) := (ΓOk_cons zqvg (ΓOk_cons zq4l (ΓOk_cons zq10t (ΓOk_cons zqd4 ΓOk_nil))))
def zq11e (m : Nat) : zq115 := zq119 zq4k zq10s zqd3 m
theorem zq11f {β : Type} (i : Nat) (k1 k2 l t24 t25 t26 m) : (zq11e (i + 1) k1 k2 l t24 t25 t26 m : Option β) = zq118 zq4k zq10s zqd3 (zq11e i k1 k2) k1 k2 l t24 t25 t26 m := rfl
def zq11g : zq115 := zq11e fuel
theorem zq11h : PieceOk Try.prog 52 0 order_Allows_p1_code zq116 zq117 (order_Allows_p1_G zq11g) := zq11a zqvf zq4k zq10s zqd3 zq11dΓ fuel
def zq11i : zq111 := zq11b zqvf zq11g
theorem zq11j : SpecOk Try.prog 27 (zq112 zq11i) := zq11c zqvf zq4k zq10s zqd3 zq11dΓ zq11g zq11h

/-- slices.IndexFunc[[]pagewatch/api.Diff,pagewatch/api.Diff] -/
abbrev zq11k := {β : Type} → (List (Int × (Int × Int))) → (List Int) → (Int → (List Int) → Option β) → Option β
def zq11l (c : zq11k) : Spec :=
  ⟨[(false, [.data (.slice (.prod (.int .i64) (.prod (.int .i64) (.int .i64))))]), (false, [.fn 74 [0]])], [.cells 22 [.data (.slice (.int .i64))]], [(false, [.data (.int .i64)])], [.cells 22 [.data (.slice (.int .i64))]], fun x k => c x.1.1.1 x.2.1.1 (fun r0 r1 => k (((r0, ()), ()), ((r1, ()), ())))⟩
noncomputable def slices_IndexFunc_api_Diff_api_Diff_vconstraint_Fits_f2_p1_code : Code := codeAt 26 (bodyOf Try.f79)
abbrev zq11m (β : Type) := Int → (List Int) → Option β
abbrev zq11n (β : Type) := (List Int) → Option β
abbrev zq11o := {β : Type} → zq11m β → zq11n β → (List (Int × (Int × Int))) → Int → Int → (List Int) → Option β
def zq11p : View := ⟨1, [0, 1, 7, 8], [(false, [.data (.slice (.prod (.int .i64) (.prod (.int .i64) (.int .i64))))]), (false, [.fn 74 [0]]), (false, [.data (.int .i64)]), (false, [.data (.int .i64)])], [.cells 22 [.data (.slice (.int .i64))]]⟩
def zq11q : List (AExit × View) := [(.ret, ⟨1, [4], [(false, [.data (.int .i64)])], [.cells 22 [.data (.slice (.int .i64))]]⟩), (.exit 0, ⟨1, [], [], [.cells 22 [.data (.slice (.int .i64))]]⟩)]
@[reducible] def slices_IndexFunc_api_Diff_api_Diff_vconstraint_Fits_f2_p1_G (p : zq11o) {β : Type} (d : zq11p.den) (ks : Outs.K β zq11q) : Option β :=
  p (fun a0 a1 => ks.1 (((a0, ()), ()), ((a1, ()), ()))) (fun a0 => ks.2.1 ((), ((a0, ()), ()))) d.1.1.1 d.1.2.2.1.1 d.1.2.2.2.1.1 d.2.1.1
section
variable (c_constraint_Fits_f2 : zq6w)
@[reducible] def slices_IndexFunc_api_Diff_api_Diff_vconstraint_Fits_f2_X : Ctx := ⟨look tab, pick1 [(74, .spec (zq6x c_constraint_Fits_f2))], false⟩
def zq11r {β : Type} (rec : (List (Int × (Int × Int))) → Int → Int → (List Int) → Option β) (k1 : zq11m β) (k2 : zq11n β) (s : List (Int × (Int × Int))) (t7 : Int) (t8 : Int) (b0_ : List Int) : Option β :=
  cond (decide (t8 < t7))
  (cond (decide (0 ≤ t8) && decide (t8 < (List.length s : Int)))
  (let e : (Int × (Int × Int)) := List.getD s (Int.toNat t8) ((0 : Int), ((0 : Int), (0 : Int)));
  c_constraint_Fits_f2 e b0_ (fun (rFits2 : Bool) (mrFits2 : List Int) =>
  cond rFits2
  (k1 t8 mrFits2)
  (rec s t7 (IntKind.i64.wrap (t8 + (1 : Int))) mrFits2)))
  none)
  (k2 b0_)
def zq11s {β : Type} : Nat → zq11m β → zq11n β → (List (Int × (Int × Int))) → Int → Int → (List Int) → Option β
  | 0 => fun _ _ _ _ _ _ => none
  | i + 1 => fun k1 k2 s t7 t8 b0_ => zq11r c_constraint_Fits_f2 (zq11s i k1 k2) k1 k2 s t7 t8 b0_
theorem zq11t (hΓ : ΓOk Try.prog (slices_IndexFunc_api_Diff_api_Diff_vconstraint_Fits_f2_X c_constraint_Fits_f2).Γ) (i : Nat) : PieceOk Try.prog 19 1 slices_IndexFunc_api_Diff_api_Diff_vconstraint_Fits_f2_p1_code zq11p zq11q (slices_IndexFunc_api_Diff_api_Diff_vconstraint_Fits_f2_p1_G (zq11s c_constraint_Fits_f2 i)) := by
  rw [show slices_IndexFunc_api_Diff_api_Diff_vconstraint_Fits_f2_p1_code = .loop (loopBody slices_IndexFunc_api_Diff_api_Diff_vconstraint_Fits_f2_p1_code) by kernel_rfl]
  exact piece_loop (X := (slices_IndexFunc_api_Diff_api_Diff_vconstraint_Fits_f2_X c_constraint_Fits_f2)) (p := 1) (Λ := pick1 []) (G := fun i => @fun β d ks => slices_IndexFunc_api_Diff_api_Diff_vconstraint_Fits_f2_p1_G (zq11s c_constraint_Fits_f2 i) d ks) mixed tab_ok hΓ rfl (by kernel_rfl) CutsOk_nil (fun _ _ => rfl) (fun i => @fun β d ks r h => Eq.trans (b := slices_IndexFunc_api_Diff_api_Diff_vconstraint_Fits_f2_p1_G (zq11s c_constraint_Fits_f2 (i + 1)) d ks) (by kernel_rfl) h) i
def zq11u (p1 : zq11o) {β : Type} (s : List (Int × (Int × Int))) (b0_ : List Int) (k : (Int → (List Int) → Option β)) : Option β :=
  p1 (fun (t4 : Int) (b0_2 : List Int) =>
  k t4 b0_2) (fun (b0_2 : List Int) =>
  k (-1 : Int) b0_2) s (List.length s : Int) (0 : Int) b0_
theorem zq11v (hΓ : ΓOk Try.prog (slices_IndexFunc_api_Diff_api_Diff_vconstraint_Fits_f2_X c_constraint_Fits_f2).Γ) (p1 : zq11o) (hp1 : PieceOk Try.prog 19 1 slices_IndexFunc_api_Diff_api_Diff_vconstraint_Fits_f2_p1_code zq11p zq11q (slices_IndexFunc_api_Diff_api_Diff_vconstraint_Fits_f2_p1_G p1)) : SpecOk Try.prog 79 (zq11l (zq11u p1)) :=
  spec_exec (X := (slices_IndexFunc_api_Diff_api_Diff_vconstraint_Fits_f2_X c_constraint_Fits_f2)) (Λ := pick1 [(26, pieceCut zq11p zq11q (slices_IndexFunc_api_Diff_api_Diff_vconstraint_Fits_f2_p1_G p1))]) (rs := [.tmp 4]) (c := bodyOf Try.f79) mixed tab_ok hΓ Try.func79 (by kernel_rfl) (by kernel_rfl) (by kernel_rfl) (by kernel_rfl) (CutsOk_cons (q := 26) (c' := slices_IndexFunc_api_Diff_api_Diff_vconstraint_Fits_f2_p1_code) (by kernel_rfl) rfl hp1 CutsOk_nil) (fun x k r h => Eq.trans (b := (zq11l (zq11u p1)).run x k) (by kernel_rfl) h)
end
theorem zq11wΓ : ΓOk Try.prog (pick1 [(74, .spec (zq6x zq71))]) := (ΓOk_cons zq72 ΓOk_nil)
def zq11x (m : Nat) : zq11o := zq11s zq71 m
theorem zq11y {β : Type} (i : Nat) (k1 k2 s t7 t8 b0_) : (zq11x (i + 1) k1 k2 s t7 t8 b0_ : Option β) = zq11r zq71 (zq11x i k1 k2) k1 k2 s t7 t8 b0_ := rfl
def zq11z : zq11o := zq11x fuel
theorem zq120 : PieceOk Try.prog 19 1 slices_IndexFunc_api_Diff_api_Diff_vconstraint_Fits_f2_p1_code zq11p zq11q (slices_IndexFunc_api_Diff_api_Diff_vconstraint_Fits_f2_p1_G zq11z) := zq11t zq71 zq11wΓ fuel
def zq121 : zq11k := zq11u zq11z
theorem zq122 : SpecOk Try.prog 79 (zq11l zq121) := zq11v zq71 zq11wΓ zq11z zq120

/-- slices.ContainsFunc[[]pagewatch/api.Diff,pagewatch/api.Diff] -/
abbrev zq123 := {β : Type} → (List (Int × (Int × Int))) → (List Int) → (Bool → (List Int) → Option β) → Option β
def zq124 (c : zq123) : Spec :=
  ⟨[(false, [.data (.slice (.prod (.int .i64) (.prod (.int .i64) (.int .i64))))]), (false, [.fn 74 [0]])], [.cells 22 [.data (.slice (.int .i64))]], [(false, [.data .bool])], [.cells 22 [.data (.slice (.int .i64))]], fun x k => c x.1.1.1 x.2.1.1 (fun r0 r1 => k (((r0, ()), ()), ((r1, ()), ())))⟩
section
variable (c_slices_IndexFunc_api_Diff_api_Diff_vconstraint_Fits_f2 : zq11k)
@[reducible] def slices_ContainsFunc_api_Diff_api_Diff_vconstraint_Fits_f2_X : Ctx := ⟨look tab, pick1 [(79, .spec (zq11l c_slices_IndexFunc_api_Diff_api_Diff_vconstraint_Fits_f2))], false⟩
def zq125 {β : Type} (s : List (Int × (Int × Int))) (b0_ : List Int) (k : (Bool → (List Int) → Option β)) : Option β :=
  c_slices_IndexFunc_api_Diff_api_Diff_vconstraint_Fits_f2 s b0_ (fun (rDiff : Int) (mrDiff : List Int) =>
  let t : Bool := (decide ((0 : Int) ≤ rDiff));
  k t mrDiff)
theorem zq126 (hΓ : ΓOk Try.prog (slices_ContainsFunc_api_Diff_api_Diff_vconstraint_Fits_f2_X c_slices_IndexFunc_api_Diff_api_Diff_vconstraint_Fits_f2).Γ) : SpecOk Try.prog 73 (zq124 (zq125 c_slices_IndexFunc_api_Diff_api_Diff_vconstraint_Fits_f2)) :=
  spec_exec (X := (slices_ContainsFunc_api_Diff_api_Diff_vconstraint_Fits_f2_X c_slices_IndexFunc_api_Diff_api_Diff_vconstraint_Fits_f2)) (Λ := pick1 []) (rs := [.tmp 4]) (c := bodyOf Try.f73) mixed tab_ok hΓ Try.func73 (by kernel_rfl) (by kernel_rfl) (by kernel_rfl) (by kernel_rfl) CutsOk_nil (fun x k r h => Eq.trans (b := (zq124 (zq125 c_slices_IndexFunc_api_Diff_api_Diff_vconstraint_Fits_f2)).run x k) (by kernel_rfl) h)
end
theorem zq127Γ : ΓOk Try.prog (pick1 [(79, .spec (zq11l zq121))]) := (ΓOk_cons zq122 ΓOk_nil)
def zq128 : zq123 := zq125 zq121
theorem zq129 : SpecOk Try.prog 73 (zq124 zq128) := zq126 zq121 zq127Γ
end
end Go.Lift
namespace Go.Lift
open Go.Proofs
noncomputable section
set_option maxRecDepth 100000
set_option linter.unusedVariables false

/-- pagewatch/constraint.Fits -/
abbrev zq12a := {β : Type} → Int → (List (Int × (Int × Int))) → (List Int) → (Bool → Option β) → Option β
def zq12b (c : zq12a) : Spec :=
  ⟨[(false, [.data (.int .i64)]), (false, [.data (.slice (.prod (.int .i64) (.prod (.int .i64) (.int .i64))))]), (false, [.data (.slice (.int .i64))])], [], [(false, [.data .bool])], [], fun x k => c x.1.1.1 x.1.2.1.1 x.1.2.2.1.1 (fun r0 => k (((r0, ()), ()), ()))⟩
section
variable (c_constraint_Valid : zqt2) (c_slices_ContainsFunc_api_Diff_api_Diff_vconstraint_Fits_f2 : zq123) (c_slices_ContainsFunc_int_int_vconstraint_Fits_f1 : zqze)
@[reducible] def constraint_Fits_X : Ctx := ⟨look tab, pick1 [(70, .spec (zqt3 c_constraint_Valid)), (73, .spec (zq124 c_slices_ContainsFunc_api_Diff_api_Diff_vconstraint_Fits_f2)), (51, .spec (zqzf c_slices_ContainsFunc_int_int_vconstraint_Fits_f1))], false⟩
def zq12c {β : Type} (n : Int) (l : List (Int × (Int × Int))) (x : List Int) (k : (Bool → Option β)) : Option β :=
  c_constraint_Valid n l (fun (rValid : Bool) =>
  cond (!rValid)
  (k false)
  (cond (!decide ((List.length x : Int) = n))
  (k false)
  (c_slices_ContainsFunc_int_int_vconstraint_Fits_f1 x (fun (rContainsFuncintint : Bool) =>
  cond rContainsFuncintint
  (k false)
  (c_slices_ContainsFunc_api_Diff_api_Diff_vconstraint_Fits_f2 l x (fun (rDiff : Bool) (mrDiff : List Int) =>
  k (!rDiff)))))))
theorem zq12d (hΓ : ΓOk Try.prog (constraint_Fits_X c_constraint_Valid c_slices_ContainsFunc_api_Diff_api_Diff_vconstraint_Fits_f2 c_slices_ContainsFunc_int_int_vconstraint_Fits_f1).Γ) : SpecOk Try.prog 54 (zq12b (zq12c c_constraint_Valid c_slices_ContainsFunc_api_Diff_api_Diff_vconstraint_Fits_f2 c_slices_ContainsFunc_int_int_vconstraint_Fits_f1)) :=
  spec_exec (X := (constraint_Fits_X c_constraint_Valid c_slices_ContainsFunc_api_Diff_api_Diff_vconstraint_Fits_f2 c_slices_ContainsFunc_int_int_vconstraint_Fits_f1)) (Λ := pick1 []) (rs := [.tmp 6]) (c := bodyOf Try.f54) mixed tab_ok hΓ Try.func54 (by kernel_rfl) (by kernel_rfl) (by kernel_rfl) (by kernel_rfl) CutsOk_nil (fun x k r h => Eq.trans (b := (zq12b (zq12c c_constraint_Valid c_slices_ContainsFunc_api_Diff_api_Diff_vconstraint_Fits_f2 c_slices_ContainsFunc_int_int_vconstraint_Fits_f1)).run x k) (by kernel_rfl) h)
end
theorem zq12eΓ : ΓOk Try.prog (pick1 [(70, .spec (zqt3 zqt7)), (73, .spec (zq124 zq128)), (51, .spec (zqzf zqzj))]) := (ΓOk_cons zqt8 (ΓOk_cons zq129 (ΓOk_cons zqzk ΓOk_nil)))
def zq12f : zq12a := zq12c zqt7 zq128 zqzj
theorem zq12g : SpecOk Try.prog 54 (zq12b zq12f) := zq12d zqt7 zq128 zqzj zq12eΓ

/-- pagewatch/order.Fits -/
abbrev zq12h := {β : Type} → zq4 → (List Int) → (Bool → Option β) → Option β
def zq12i (c : zq12h) : Spec :=
  ⟨[(true, [.data zq5]), (false, [.data (.slice (.int .i64))])], [], [(false, [.data .bool])], [], fun x k => c x.1.1.1 x.1.2.1.1 (fun r0 => k (((r0, ()), ()), ()))⟩
section
variable (c_constraint_Fits : zq12a) (c_order_Consistent : zqvo) (c_order_Constraints : zqn1) (c_slices_ContainsFunc_int_int_vorder_Fits_f1 : zq10u)
@[reducible] def order_Fits_X : Ctx := ⟨look tab, pick1 [(54, .spec (zq12b c_constraint_Fits)), (11, .spec (zqvp c_order_Consistent)), (9, .spec (zqn2 c_order_Constraints)), (51, .spec (zq10v c_slices_ContainsFunc_int_int_vorder_Fits_f1))], false⟩
def zq12j {β : Type} (r_ : zq4) (times : List Int) (k : (Bool → Option β)) : Option β :=
  c_order_Constraints r_ (fun (rConstraints : Bool) (lrConstraints : List (Int × (Int × Int))) =>
  c_order_Consistent r_ (fun (rConsistent : Bool) =>
  cond (!rConsistent)
  (k false)
  (cond (!decide ((List.length times : Int) = (List.length r_.2.2.1 : Int)))
  (k false)
  (c_slices_ContainsFunc_int_int_vorder_Fits_f1 times (fun (rContainsFuncintint : Bool) =>
  cond rContainsFuncintint
  (k false)
  (let l : List Int := ([(0 : Int)] : List Int);
  cond (decide ((List.length l + List.length times) * 8 ≤ roomMax))
  (let l2 : List Int := (l ++ times);
  c_constraint_Fits (IntKind.i64.wrap ((List.length times : Int) + (1 : Int))) lrConstraints l2 (fun (rFits : Bool) =>
  k rFits))
  none))))))
theorem zq12k (hΓ : ΓOk Try.prog (order_Fits_X c_constraint_Fits c_order_Consistent c_order_Constraints c_slices_ContainsFunc_int_int_vorder_Fits_f1).Γ) : SpecOk Try.prog 29 (zq12i (zq12j c_constraint_Fits c_order_Consistent c_order_Constraints c_slices_ContainsFunc_int_int_vorder_Fits_f1)) :=
  spec_exec (X := (order_Fits_X c_constraint_Fits c_order_Consistent c_order_Constraints c_slices_ContainsFunc_int_int_vorder_Fits_f1)) (Λ := pick1 []) (rs := [.tmp 4]) (c := bodyOf Try.f29) mixed tab_ok hΓ Try.func29 (by kernel_rfl) (by kernel_rfl) (by kernel_rfl) (by kernel_rfl) CutsOk_nil (fun x k r h => Eq.trans (b := (zq12i (zq12j c_constraint_Fits c_order_Consistent c_order_Constraints c_slices_ContainsFunc_int_int_vorder_Fits_f1)).run x k) (by kernel_rfl) h)
end
theorem zq12lΓ : ΓOk Try.prog (pick1 [(54, .spec (zq12b zq12f)), (11, .spec (zqvp zqvt)), (9, .spec (zqn2 zqof)), (51, .spec (zq10v zq10z))]) := (ΓOk_cons zq12g (ΓOk_cons zqvu (ΓOk_cons zqog (ΓOk_cons zq110 ΓOk_nil))))
def zq12m : zq12h := zq12j zq12f zqvt zqof zq10z
theorem zq12n : SpecOk Try.prog 29 (zq12i zq12m) := zq12k zq12f zqvt zqof zq10z zq12lΓ

/-- pagewatch/pagewatchlaw40.OrderExact -/
abbrev zq12o := {β : Type} → (List Int) → zq4 → Int → Int → (List Int) → (Bool → Option β) → Option β
def zq12p (c : zq12o) : Spec :=
  ⟨[(false, [.data (.slice (.int .i64))]), (true, [.data zq5]), (false, [.data (.int .i64)]), (false, [.data (.int .i64)]), (false, [.data (.slice (.int .i64))])], [], [(false, [.data .bool])], [], fun x k => c x.1.1.1 x.1.2.1.1 x.1.2.2.1.1 x.1.2.2.2.1.1 x.1.2.2.2.2.1.1 (fun r0 => k (((r0, ()), ()), ()))⟩
noncomputable def law40_OrderExact_p5_code : Code := codeAt 250 (bodyOf Try.f3)
noncomputable def law40_OrderExact_p1_code : Code := codeAt 3706 (loopBody law40_OrderExact_p5_code)
noncomputable def law40_OrderExact_p2_code : Code := codeAt 237562 (loopBody law40_OrderExact_p5_code)
noncomputable def law40_OrderExact_p4_code : Code := codeAt 237566 (loopBody law40_OrderExact_p5_code)
noncomputable def law40_OrderExact_p3_code : Code := codeAt 231 (loopBody law40_OrderExact_p4_code)
abbrev zq12q (β : Type) := Bool → Option β
abbrev zq12r (β : Type) := Int → Int → (List Int) → (List Int) → Int → Int → (List Int) → Int → (List (List UInt8 × Int)) → (List zq2) → (List zq0) → (List (Int × (Int × Int))) → (List zq4) → Option β
abbrev zq12s := {β : Type} → zq12q β → zq12r β → Int → Int → (List Int) → (List Int) → Int → Int → Int → Int → (List Int) → Int → (List (List UInt8 × Int)) → (List zq2) → (List zq0) → (List (Int × (Int × Int))) → (List (Int × (Int × Int))) → (List (Int × (Int × Int))) → (List zq4) → Option β
def zq12t : View := ⟨0, [2, 3, 4, 11, 13, 15, 16, 18, 84, 85, 86, 118, 119], [(false, [.data (.int .i64)]), (false, [.data (.int .i64)]), (false, [.data (.slice (.int .i64))]), (false, [.ptr 0 0]), (false, [.data (.slice (.int .i64))]), (false, [.ptr 1 0]), (false, [.rowh 2]), (false, [.rowh 3]), (false, [.rowh 4]), (false, [.data (.int .i64)]), (false, [.data (.int .i64)]), (false, [.data (.int .i64)]), (false, [.data (.int .i64)])], [.cells 68 [.data (.slice (.int .i64)), .data (.int .i64)], .cells 28 [.data (.slice (.prod .str (.int .i64))), .data (.slice zq3), .data (.slice zq1), .data (.slice (.prod (.int .i64) (.prod (.int .i64) (.int .i64))))], .row 42 (.prod (.int .i64) (.prod (.int .i64) (.int .i64))), .row 42 (.prod (.int .i64) (.prod (.int .i64) (.int .i64))), .row 28 zq5]⟩
def zq12u : List (AExit × View) := [(.ret, ⟨0, [10], [(false, [.data .bool])], []⟩), (.exit 2, ⟨0, [2, 3, 4, 11, 13, 15, 84, 85, 86], [(false, [.data (.int .i64)]), (false, [.data (.int .i64)]), (false, [.data (.slice (.int .i64))]), (false, [.ptr 0 0]), (false, [.data (.slice (.int .i64))]), (false, [.ptr 1 0]), (false, [.rowh 2]), (false, [.data (.int .i64)]), (false, [.data (.int .i64)])], [.cells 68 [.data (.slice (.int .i64)), .data (.int .i64)], .cells 28 [.data (.slice (.prod .str (.int .i64))), .data (.slice zq3), .data (.slice zq1), .data (.slice (.prod (.int .i64) (.prod (.int .i64) (.int .i64))))], .row 28 zq5]⟩)]
@[reducible] def law40_OrderExact_p1_G (p : zq12s) {β : Type} (d : zq12t.den) (ks : Outs.K β zq12u) : Option β :=
  p (fun a0 => ks.1 (((a0, ()), ()), ())) (fun a0 a1 a2 a3 a4 a5 a6 a7 a8 a9 a10 a11 a12 => ks.2.1 (((a0, ()), (a1, ()), (a2, ()), (), (a3, ()), (), (), (a4, ()), (a5, ()), ()), ((a6, a7, ()), (a8, a9, a10, a11, ()), a12, ()))) d.1.1.1 d.1.2.1.1 d.1.2.2.1.1 d.1.2.2.2.2.1.1 d.1.2.2.2.2.2.2.2.2.2.1.1 d.1.2.2.2.2.2.2.2.2.2.2.1.1 d.1.2.2.2.2.2.2.2.2.2.2.2.1.1 d.1.2.2.2.2.2.2.2.2.2.2.2.2.1.1 d.2.1.1 d.2.1.2.1 d.2.2.1.1 d.2.2.1.2.1 d.2.2.1.2.2.1 d.2.2.1.2.2.2.1 d.2.2.2.1 d.2.2.2.2.1 d.2.2.2.2.2.1
abbrev zq12v (β : Type) := Bool → Option β
abbrev zq12w (β : Type) := Int → Int → (List Int) → (List Int) → Int → Int → (List Int) → Int → (List (List UInt8 × Int)) → (List zq2) → (List zq0) → (List (Int × (Int × Int))) → (List Int) → (List zq4) → Option β
abbrev zq12x := {β : Type} → zq12v β → zq12w β → Int → Int → (List Int) → (List Int) → Int → Int → Int → Int → (List Int) → Int → (List (List UInt8 × Int)) → (List zq2) → (List zq0) → (List (Int × (Int × Int))) → (List Int) → (List zq4) → (List (Int × Int)) → Option β
def zq12y : View := ⟨0, [2, 3, 4, 11, 13, 15, 25, 84, 85, 86, 194, 195, 196], [(false, [.data (.int .i64)]), (false, [.data (.int .i64)]), (false, [.data (.slice (.int .i64))]), (false, [.ptr 0 0]), (false, [.data (.slice (.int .i64))]), (false, [.ptr 1 0]), (false, [.rowh 2]), (false, [.rowh 3]), (false, [.data (.int .i64)]), (false, [.data (.int .i64)]), (false, [.rowh 4]), (false, [.data (.int .i64)]), (false, [.data (.int .i64)])], [.cells 68 [.data (.slice (.int .i64)), .data (.int .i64)], .cells 28 [.data (.slice (.prod .str (.int .i64))), .data (.slice zq3), .data (.slice zq1), .data (.slice (.prod (.int .i64) (.prod (.int .i64) (.int .i64))))], .row 3 (.int .i64), .row 28 zq5, .row 53 (.prod (.int .i64) (.int .i64))]⟩
def zq12z : List (AExit × View) := [(.ret, ⟨0, [10], [(false, [.data .bool])], []⟩), (.exit 4, ⟨0, [2, 3, 4, 11, 13, 15, 25, 84, 85, 86], [(false, [.data (.int .i64)]), (false, [.data (.int .i64)]), (false, [.data (.slice (.int .i64))]), (false, [.ptr 0 0]), (false, [.data (.slice (.int .i64))]), (false, [.ptr 1 0]), (false, [.rowh 2]), (false, [.rowh 3]), (false, [.data (.int .i64)]), (false, [.data (.int .i64)])], [.cells 68 [.data (.slice (.int .i64)), .data (.int .i64)], .cells 28 [.data (.slice (.prod .str (.int .i64))), .data (.slice zq3), .data (.slice zq1), .data (.slice (.prod (.int .i64) (.prod (.int .i64) (.int .i64))))], .row 3 (.int .i64), .row 28 zq5]⟩)]
@[reducible] def law40_OrderExact_p2_G (p : zq12x) {β : Type} (d : zq12y.den) (ks : Outs.K β zq12z) : Option β :=
  p (fun a0 => ks.1 (((a0, ()), ()), ())) (fun a0 a1 a2 a3 a4 a5 a6 a7 a8 a9 a10 a11 a12 a13 => ks.2.1 (((a0, ()), (a1, ()), (a2, ()), (), (a3, ()), (), (), (), (a4, ()), (a5, ()), ()), ((a6, a7, ()), (a8, a9, a10, a11, ()), a12, a13, ()))) d.1.1.1 d.1.2.1.1 d.1.2.2.1.1 d.1.2.2.2.2.1.1 d.1.2.2.2.2.2.2.2.2.1.1 d.1.2.2.2.2.2.2.2.2.2.1.1 d.1.2.2.2.2.2.2.2.2.2.2.2.1.1 d.1.2.2.2.2.2.2.2.2.2.2.2.2.1.1 d.2.1.1 d.2.1.2.1 d.2.2.1.1 d.2.2.1.2.1 d.2.2.1.2.2.1 d.2.2.1.2.2.2.1 d.2.2.2.1 d.2.2.2.2.1 d.2.2.2.2.2.1
abbrev zq130 (β : Type) := Bool → Option β
abbrev zq131 (β : Type) := Int → Int → (List Int) → (List Int) → Int → Int → Int → Int → (List Int) → Int → (List (List UInt8 × Int)) → (List zq2) → (List zq0) → (List (Int × (Int × Int))) → (List zq4) → (List (List Int)) → Option β
abbrev zq132 := {β : Type} → zq130 β → zq131 β → Int → Int → (List Int) → (List Int) → (List Int) → Int → Int → Int → Int → (List Int) → Int → (List (List UInt8 × Int)) → (List zq2) → (List zq0) → (List (Int × (Int × Int))) → (List Int) → (List zq4) → (List (List Int)) → Option β
def zq133 : View := ⟨0, [2, 3, 4, 11, 13, 15, 40, 41, 84, 85, 86, 258, 259, 260], [(false, [.data (.int .i64)]), (false, [.data (.int .i64)]), (false, [.data (.slice (.int .i64))]), (false, [.ptr 0 0]), (false, [.data (.slice (.int .i64))]), (false, [.ptr 1 0]), (false, [.data (.slice (.int .i64))]), (false, [.rowh 2]), (false, [.rowh 3]), (false, [.data (.int .i64)]), (false, [.data (.int .i64)]), (false, [.rowh 4]), (false, [.data (.int .i64)]), (false, [.data (.int .i64)])], [.cells 68 [.data (.slice (.int .i64)), .data (.int .i64)], .cells 28 [.data (.slice (.prod .str (.int .i64))), .data (.slice zq3), .data (.slice zq1), .data (.slice (.prod (.int .i64) (.prod (.int .i64) (.int .i64))))], .row 3 (.int .i64), .row 28 zq5, .row 22 (.slice (.int .i64))]⟩
def zq134 : List (AExit × View) := [(.ret, ⟨0, [10], [(false, [.data .bool])], []⟩), (.normal, ⟨0, [2, 3, 4, 11, 13, 15, 84, 85, 86, 258, 259, 260], [(false, [.data (.int .i64)]), (false, [.data (.int .i64)]), (false, [.data (.slice (.int .i64))]), (false, [.ptr 0 0]), (false, [.data (.slice (.int .i64))]), (false, [.ptr 1 0]), (false, [.rowh 2]), (false, [.data (.int .i64)]), (false, [.data (.int .i64)]), (false, [.rowh 3]), (false, [.data (.int .i64)]), (false, [.data (.int .i64)])], [.cells 68 [.data (.slice (.int .i64)), .data (.int .i64)], .cells 28 [.data (.slice (.prod .str (.int .i64))), .data (.slice zq3), .data (.slice zq1), .data (.slice (.prod (.int .i64) (.prod (.int .i64) (.int .i64))))], .row 28 zq5, .row 22 (.slice (.int .i64))]⟩)]
@[reducible] def law40_OrderExact_p3_G (p : zq132) {β : Type} (d : zq133.den) (ks : Outs.K β zq134) : Option β :=
  p (fun a0 => ks.1 (((a0, ()), ()), ())) (fun a0 a1 a2 a3 a4 a5 a6 a7 a8 a9 a10 a11 a12 a13 a14 a15 => ks.2.1 (((a0, ()), (a1, ()), (a2, ()), (), (a3, ()), (), (), (a4, ()), (a5, ()), (), (a6, ()), (a7, ()), ()), ((a8, a9, ()), (a10, a11, a12, a13, ()), a14, a15, ()))) d.1.1.1 d.1.2.1.1 d.1.2.2.1.1 d.1.2.2.2.2.1.1 d.1.2.2.2.2.2.2.1.1 d.1.2.2.2.2.2.2.2.2.2.1.1 d.1.2.2.2.2.2.2.2.2.2.2.1.1 d.1.2.2.2.2.2.2.2.2.2.2.2.2.1.1 d.1.2.2.2.2.2.2.2.2.2.2.2.2.2.1.1 d.2.1.1 d.2.1.2.1 d.2.2.1.1 d.2.2.1.2.1 d.2.2.1.2.2.1 d.2.2.1.2.2.2.1 d.2.2.2.1 d.2.2.2.2.1 d.2.2.2.2.2.1
abbrev zq135 (β : Type) := Bool → Option β
abbrev zq136 (β : Type) := Int → Int → (List Int) → (List Int) → Int → Int → (List Int) → Int → (List zq4) → Option β
abbrev zq137 := {β : Type} → zq135 β → zq136 β → Int → Int → (List Int) → (List Int) → Int → Int → Int → Int → (List Int) → Int → (List (List UInt8 × Int)) → (List zq2) → (List zq0) → (List (Int × (Int × Int))) → (List zq4) → (List (List Int)) → Option β
def zq138 : View := ⟨0, [2, 3, 4, 11, 13, 15, 84, 85, 86, 258, 259, 260], [(false, [.data (.int .i64)]), (false, [.data (.int .i64)]), (false, [.data (.slice (.int .i64))]), (false, [.ptr 0 0]), (false, [.data (.slice (.int .i64))]), (false, [.ptr 1 0]), (false, [.rowh 2]), (false, [.data (.int .i64)]), (false, [.data (.int .i64)]), (false, [.rowh 3]), (false, [.data (.int .i64)]), (false, [.data (.int .i64)])], [.cells 68 [.data (.slice (.int .i64)), .data (.int .i64)], .cells 28 [.data (.slice (.prod .str (.int .i64))), .data (.slice zq3), .data (.slice zq1), .data (.slice (.prod (.int .i64) (.prod (.int .i64) (.int .i64))))], .row 28 zq5, .row 22 (.slice (.int .i64))]⟩
def zq139 : List (AExit × View) := [(.ret, ⟨0, [10], [(false, [.data .bool])], []⟩), (.exit 6, ⟨0, [2, 3, 4, 11, 13, 84, 85, 86], [(false, [.data (.int .i64)]), (false, [.data (.int .i64)]), (false, [.data (.slice (.int .i64))]), (false, [.ptr 0 0]), (false, [.data (.slice (.int .i64))]), (false, [.rowh 1]), (false, [.data (.int .i64)]), (false, [.data (.int .i64)])], [.cells 68 [.data (.slice (.int .i64)), .data (.int .i64)], .row 28 zq5]⟩)]
@[reducible] def law40_OrderExact_p4_G (p : zq137) {β : Type} (d : zq138.den) (ks : Outs.K β zq139) : Option β :=
  p (fun a0 => ks.1 (((a0, ()), ()), ())) (fun a0 a1 a2 a3 a4 a5 a6 a7 a8 => ks.2.1 (((a0, ()), (a1, ()), (a2, ()), (), (a3, ()), (), (a4, ()), (a5, ()), ()), ((a6, a7, ()), a8, ()))) d.1.1.1 d.1.2.1.1 d.1.2.2.1.1 d.1.2.2.2.2.1.1 d.1.2.2.2.2.2.2.2.1.1 d.1.2.2.2.2.2.2.2.2.1.1 d.1.2.2.2.2.2.2.2.2.2.2.1.1 d.1.2.2.2.2.2.2.2.2.2.2.2.1.1 d.2.1.1 d.2.1.2.1 d.2.2.1.1 d.2.2.1.2.1 d.2.2.1.2.2.1 d.2.2.1.2.2.2.1 d.2.2.2.1 d.2.2.2.2.1
abbrev zq13a (β : Type) := Bool → Option β
abbrev zq13b (β : Type) := Unit → Option β
abbrev zq13c := {β : Type} → zq13a β → zq13b β → Int → Int → (List Int) → (List Int) → Int → Int → (List Int) → Int → (List zq4) → Option β
def zq13d : View := ⟨0, [2, 3, 4, 11, 13, 84, 85, 86], [(false, [.data (.int .i64)]), (false, [.data (.int .i64)]), (false, [.data (.slice (.int .i64))]), (false, [.ptr 0 0]), (false, [.data (.slice (.int .i64))]), (false, [.rowh 1]), (false, [.data (.int .i64)]), (false, [.data (.int .i64)])], [.cells 68 [.data (.slice (.int .i64)), .data (.int .i64)], .row 28 zq5]⟩
def zq13e : List (AExit × View) := [(.ret, ⟨0, [10], [(false, [.data .bool])], []⟩), (.exit 0, ⟨0, [], [], []⟩)]
@[reducible] def law40_OrderExact_p5_G (p : zq13c) {β : Type} (d : zq13d.den) (ks : Outs.K β zq13e) : Option β :=
  p (fun a0 => ks.1 (((a0, ()), ()), ())) (fun _ => ks.2.1 ((), ())) d.1.1.1 d.1.2.1.1 d.1.2.2.1.1 d.1.2.2.2.2.1.1 d.1.2.2.2.2.2.2.1.1 d.1.2.2.2.2.2.2.2.1.1 d.2.1.1 d.2.1.2.1 d.2.2.1
section
variable (c_law40_pairs : zq1m) (c_law40_sane : zqz7) (c_made_Dice_Next : zq25) (c_made_Dice_OddRecord : zqas) (c_made_Dice_Record : zq94) (c_made_Light : zq6) (c_made_Roll : zqd) (c_order_Allows : zq111) (c_order_Compare : zqyh) (c_order_Consistent : zqvo) (c_order_Constraints : zqn1) (c_order_Fits : zq12h) (c_order_Gap : zqya) (c_order_Open : zqxh) (c_order_Sort : zqwd) (c_order_When : zqvv) (c_ref25_Same : zq13) (c_ref40_Allows : zqrh) (c_ref40_Compare : zqra) (c_ref40_Consistent : zqoh) (c_ref40_Constraints : zqk4) (c_ref40_Fits : zqsc) (c_ref40_Gap : zqr3) (c_ref40_Open : zqqa) (c_ref40_SameRanges : zqk) (c_ref40_Sort : zqp6) (c_ref40_When : zqoo)
@[reducible] def law40_OrderExact_X : Ctx := ⟨look tab, pick1 [(19, .spec (zq1n c_law40_pairs)), (5, .spec (zqz8 c_law40_sane)), (22, .spec (zq26 c_made_Dice_Next)), (8, .spec (zqat c_made_Dice_OddRecord)), (7, .spec (zq95 c_made_Dice_Record)), (4, .spec (zq7 c_made_Light)), (6, .spec (zqe c_made_Roll)), (27, .spec (zq112 c_order_Allows)), (25, .spec (zqyi c_order_Compare)), (11, .spec (zqvp c_order_Consistent)), (9, .spec (zqn2 c_order_Constraints)), (29, .spec (zq12i c_order_Fits)), (23, .spec (zqyb c_order_Gap)), (20, .spec (zqxi c_order_Open)), (15, .spec (zqwe c_order_Sort)), (13, .spec (zqvw c_order_When)), (18, .spec (zq14 c_ref25_Same)), (28, .spec (zqri c_ref40_Allows)), (26, .spec (zqrb c_ref40_Compare)), (12, .spec (zqoi c_ref40_Consistent)), (10, .spec (zqk5 c_ref40_Constraints)), (30, .spec (zqsd c_ref40_Fits)), (24, .spec (zqr4 c_ref40_Gap)), (21, .spec (zqqb c_ref40_Open)), (17, .spec (zql c_ref40_SameRanges)), (16, .spec (zqp7 c_ref40_Sort)), (14, .spec (zqop c_ref40_When))], false⟩
def zq13f {β : Type} (rec : Int → Int → (List Int) → (List Int) → Int → Int → Int → Int → (List Int) → Int → (List (List UInt8 × Int)) → (List zq2) → (List zq0) → (List (Int × (Int × Int))) → (List (Int × (Int × Int))) → (List (Int × (Int × Int))) → (List zq4) → Option β) (k1 : zq12q β) (k2 : zq12r β) (a : Int) (b : Int) (l : List Int) (times : List Int) (t85 : Int) (t86 : Int) (t118 : Int) (t119 : Int) (d : List Int) (d2 : Int) (x : List (List UInt8 × Int)) (x2 : List zq2) (x3 : List zq0) (x4 : List (Int × (Int × Int))) (c : List (Int × (Int × Int))) (e : List (Int × (Int × Int))) (t84 : List zq4) : Option β :=
  cond (decide (t119 < t118))
  (cond (decide (0 ≤ t119) && decide (t119 < (List.length c : Int)))
  (cond (decide (0 ≤ t119) && decide (t119 < (List.length e : Int)))
  (cond (!(decide ((List.getD c (Int.toNat t119) ((0 : Int), ((0 : Int), (0 : Int)))).1 = (List.getD e (Int.toNat t119) ((0 : Int), ((0 : Int), (0 : Int)))).1) && (decide (((List.getD c (Int.toNat t119) ((0 : Int), ((0 : Int), (0 : Int)))).2).1 = ((List.getD e (Int.toNat t119) ((0 : Int), ((0 : Int), (0 : Int)))).2).1) && (decide (((List.getD c (Int.toNat t119) ((0 : Int), ((0 : Int), (0 : Int)))).2).2 = ((List.getD e (Int.toNat t119) ((0 : Int), ((0 : Int), (0 : Int)))).2).2) && true))))
  (k1 false)
  (rec a b l times t85 t86 t118 (IntKind.i64.wrap (t119 + (1 : Int))) d d2 x x2 x3 x4 c e t84))
  none)
  none)
  (k2 a b l times t85 t86 d d2 x x2 x3 x4 t84)
def zq13g {β : Type} : Nat → zq12q β → zq12r β → Int → Int → (List Int) → (List Int) → Int → Int → Int → Int → (List Int) → Int → (List (List UInt8 × Int)) → (List zq2) → (List zq0) → (List (Int × (Int × Int))) → (List (Int × (Int × Int))) → (List (Int × (Int × Int))) → (List zq4) → Option β
  | 0 => fun _ _ _ _ _ _ _ _ _ _ _ _ _ _ _ _ _ _ _ => none
  | i + 1 => fun k1 k2 a b l times t85 t86 t118 t119 d d2 x x2 x3 x4 c e t84 => zq13f (zq13g i k1 k2) k1 k2 a b l times t85 t86 t118 t119 d d2 x x2 x3 x4 c e t84
theorem zq13h (hΓ : ΓOk Try.prog (law40_OrderExact_X c_law40_pairs c_law40_sane c_made_Dice_Next c_made_Dice_OddRecord c_made_Dice_Record c_made_Light c_made_Roll c_order_Allows c_order_Compare c_order_Consistent c_order_Constraints c_order_Fits c_order_Gap c_order_Open c_order_Sort c_order_When c_ref25_Same c_ref40_Allows c_ref40_Compare c_ref40_Consistent c_ref40_Constraints c_ref40_Fits c_ref40_Gap c_ref40_Open c_ref40_SameRanges c_ref40_Sort c_ref40_When).Γ) (i : Nat) : PieceOk Try.prog 327 0 law40_OrderExact_p1_code zq12t zq12u (law40_OrderExact_p1_G (zq13g i)) := by
  rw [show law40_OrderExact_p1_code = .loop (loopBody law40_OrderExact_p1_code) by kernel_rfl]
  exact piece_loop (X := (law40_OrderExact_X c_law40_pairs c_law40_sane c_made_Dice_Next c_made_Dice_OddRecord c_made_Dice_Record c_made_Light c_made_Roll c_order_Allows c_order_Compare c_order_Consistent c_order_Constraints c_order_Fits c_order_Gap c_order_Open c_order_Sort c_order_When c_ref25_Same c_ref40_Allows c_ref40_Compare c_ref40_Consistent c_ref40_Constraints c_ref40_Fits c_ref40_Gap c_ref40_Open c_ref40_SameRanges c_ref40_Sort c_ref40_When)) (p := 1) (Λ := pick1 []) (G := fun i => @fun β d ks => law40_OrderExact_p1_G (zq13g i) d ks) mixed tab_ok hΓ rfl (by kernel_rfl) CutsOk_nil (fun _ _ => rfl) (fun i => @fun β d ks r h => Eq.trans (b := law40_OrderExact_p1_G (zq13g (i + 1)) d ks) (by kernel_rfl) h) i
def zq13i {β : Type} (rec : Int → Int → (List Int) → (List Int) → Int → Int → Int → Int → (List Int) → Int → (List (List UInt8 × Int)) → (List zq2) → (List zq0) → (List (Int × (Int × Int))) → (List Int) → (List zq4) → (List (Int × Int)) → Option β) (k1 : zq12v β) (k2 : zq12w β) (a : Int) (b : Int) (l : List Int) (times : List Int) (t85 : Int) (t86 : Int) (t195 : Int) (t196 : Int) (d : List Int) (d2 : Int) (x : List (List UInt8 × Int)) (x2 : List zq2) (x3 : List zq0) (x4 : List (Int × (Int × Int))) (s : List Int) (t84 : List zq4) (t194 : List (Int × Int)) : Option β :=
  cond (decide (t196 < t195))
  (cond (decide (0 ≤ t196) && decide (t196 < (List.length t194 : Int)))
  (c_order_Gap (x, (x2, (x3, x4))) ((List.getD t194 (Int.toNat t196) ((0 : Int), (0 : Int))).1) ((List.getD t194 (Int.toNat t196) ((0 : Int), (0 : Int))).2) (fun (rGap : (Int × Int)) (rGap2 : Bool) =>
  c_ref40_Gap (x, (x2, (x3, x4))) ((List.getD t194 (Int.toNat t196) ((0 : Int), (0 : Int))).1) ((List.getD t194 (Int.toNat t196) ((0 : Int), (0 : Int))).2) (fun (rGap3 : (Int × Int)) (rGap4 : Bool) =>
  c_order_Compare (x, (x2, (x3, x4))) ((List.getD t194 (Int.toNat t196) ((0 : Int), (0 : Int))).1) ((List.getD t194 (Int.toNat t196) ((0 : Int), (0 : Int))).2) (fun (rCompare : Int) (rCompare2 : Bool) =>
  c_ref40_Compare (x, (x2, (x3, x4))) ((List.getD t194 (Int.toNat t196) ((0 : Int), (0 : Int))).1) ((List.getD t194 (Int.toNat t196) ((0 : Int), (0 : Int))).2) (fun (rCompare3 : Int) (rCompare4 : Bool) =>
  cond (!(decide (rGap.1 = rGap3.1) && (decide (rGap.2 = rGap3.2) && true)))
  (k1 false)
  (cond (!(rGap2 == rGap4))
  (k1 false)
  (cond (!decide (rCompare = rCompare3))
  (k1 false)
  (cond (!(rCompare2 == rCompare4))
  (k1 false)
  (rec a b l times t85 t86 t195 (IntKind.i64.wrap (t196 + (1 : Int))) d d2 x x2 x3 x4 s t84 t194)))))))))
  none)
  (k2 a b l times t85 t86 d d2 x x2 x3 x4 s t84)
def zq13j {β : Type} : Nat → zq12v β → zq12w β → Int → Int → (List Int) → (List Int) → Int → Int → Int → Int → (List Int) → Int → (List (List UInt8 × Int)) → (List zq2) → (List zq0) → (List (Int × (Int × Int))) → (List Int) → (List zq4) → (List (Int × Int)) → Option β
  | 0 => fun _ _ _ _ _ _ _ _ _ _ _ _ _ _ _ _ _ _ _ => none
  | i + 1 => fun k1 k2 a b l times t85 t86 t195 t196 d d2 x x2 x3 x4 s t84 t194 => zq13i c_order_Compare c_order_Gap c_ref40_Compare c_ref40_Gap (zq13j i k1 k2) k1 k2 a b l times t85 t86 t195 t196 d d2 x x2 x3 x4 s t84 t194
theorem zq13k (hΓ : ΓOk Try.prog (law40_OrderExact_X c_law40_pairs c_law40_sane c_made_Dice_Next c_made_Dice_OddRecord c_made_Dice_Record c_made_Light c_made_Roll c_order_Allows c_order_Compare c_order_Consistent c_order_Constraints c_order_Fits c_order_Gap c_order_Open c_order_Sort c_order_When c_ref25_Same c_ref40_Allows c_ref40_Compare c_ref40_Consistent c_ref40_Constraints c_ref40_Fits c_ref40_Gap c_ref40_Open c_ref40_SameRanges c_ref40_Sort c_ref40_When).Γ) (i : Nat) : PieceOk Try.prog 327 0 law40_OrderExact_p2_code zq12y zq12z (law40_OrderExact_p2_G (zq13j c_order_Compare c_order_Gap c_ref40_Compare c_ref40_Gap i)) := by
  rw [show law40_OrderExact_p2_code = .loop (loopBody law40_OrderExact_p2_code) by kernel_rfl]
  exact piece_loop (X := (law40_OrderExact_X c_law40_pairs c_law40_sane c_made_Dice_Next c_made_Dice_OddRecord c_made_Dice_Record c_made_Light c_made_Roll c_order_Allows c_order_Compare c_order_Consistent c_order_Constraints c_order_Fits c_order_Gap c_order_Open c_order_Sort c_order_When c_ref25_Same c_ref40_Allows c_ref40_Compare c_ref40_Consistent c_ref40_Constraints c_ref40_Fits c_ref40_Gap c_ref40_Open c_ref40_SameRanges c_ref40_Sort c_ref40_When)) (p := 1) (Λ := pick1 []) (G := fun i => @fun β d ks => law40_OrderExact_p2_G (zq13j c_order_Compare c_order_Gap c_ref40_Compare c_ref40_Gap i) d ks) mixed tab_ok hΓ rfl (by kernel_rfl) CutsOk_nil (fun _ _ => rfl) (fun i => @fun β d ks r h => Eq.trans (b := law40_OrderExact_p2_G (zq13j c_order_Compare c_order_Gap c_ref40_Compare c_ref40_Gap (i + 1)) d ks) (by kernel_rfl) h) i
def zq13l {β : Type} (k1 : zq130 β) (k2 : zq131 β) (a : Int) (b : Int) (l : List Int) (times : List Int) (z : List Int) (t85 : Int) (t86 : Int) (t259 : Int) (t260 : Int) (d : List Int) (d2 : Int) (x : List (List UInt8 × Int)) (x2 : List zq2) (x3 : List zq0) (x4 : List (Int × (Int × Int))) (back : List Int) (t84 : List zq4) (t258 : List (List Int)) : Option β :=
  c_order_Allows (x, (x2, (x3, x4))) z (fun (rAllows : Bool) =>
  c_ref40_Allows (x, (x2, (x3, x4))) z (fun (rAllows2 : Bool) =>
  cond (!(rAllows == rAllows2))
  (k1 false)
  (c_order_Allows (x, (x2, (x3, x4))) back (fun (rAllows3 : Bool) =>
  c_ref40_Allows (x, (x2, (x3, x4))) back (fun (rAllows4 : Bool) =>
  cond (!(rAllows3 == rAllows4))
  (k1 false)
  (c_order_Fits (x, (x2, (x3, x4))) z (fun (rFits : Bool) =>
  c_ref40_Fits (x, (x2, (x3, x4))) z (fun (rFits2 : Bool) =>
  cond (!(rFits == rFits2))
  (k1 false)
  (c_order_Fits (x, (x2, (x3, x4))) back (fun (rFits3 : Bool) =>
  c_ref40_Fits (x, (x2, (x3, x4))) back (fun (rFits4 : Bool) =>
  cond (!(rFits3 == rFits4))
  (k1 false)
  (k2 a b l times t85 t86 t259 t260 d d2 x x2 x3 x4 t84 t258))))))))))))
def zq13m {β : Type} (k1 : zq130 β) (k2 : zq131 β) (a : Int) (b : Int) (l : List Int) (times : List Int) (z : List Int) (t85 : Int) (t86 : Int) (t259 : Int) (t260 : Int) (d : List Int) (d2 : Int) (x : List (List UInt8 × Int)) (x2 : List zq2) (x3 : List zq0) (x4 : List (Int × (Int × Int))) (back : List Int) (t84 : List zq4) (t258 : List (List Int)) : Option β := zq13l c_order_Allows c_order_Fits c_ref40_Allows c_ref40_Fits k1 k2 a b l times z t85 t86 t259 t260 d d2 x x2 x3 x4 back t84 t258
theorem zq13n (hΓ : ΓOk Try.prog (law40_OrderExact_X c_law40_pairs c_law40_sane c_made_Dice_Next c_made_Dice_OddRecord c_made_Dice_Record c_made_Light c_made_Roll c_order_Allows c_order_Compare c_order_Consistent c_order_Constraints c_order_Fits c_order_Gap c_order_Open c_order_Sort c_order_When c_ref25_Same c_ref40_Allows c_ref40_Compare c_ref40_Consistent c_ref40_Constraints c_ref40_Fits c_ref40_Gap c_ref40_Open c_ref40_SameRanges c_ref40_Sort c_ref40_When).Γ) : PieceOk Try.prog 327 0 law40_OrderExact_p3_code zq133 zq134 (law40_OrderExact_p3_G (zq13m c_order_Allows c_order_Fits c_ref40_Allows c_ref40_Fits)) :=
  piece_exec (X := (law40_OrderExact_X c_law40_pairs c_law40_sane c_made_Dice_Next c_made_Dice_OddRecord c_made_Dice_Record c_made_Light c_made_Roll c_order_Allows c_order_Compare c_order_Consistent c_order_Constraints c_order_Fits c_order_Gap c_order_Open c_order_Sort c_order_When c_ref25_Same c_ref40_Allows c_ref40_Compare c_ref40_Consistent c_ref40_Constraints c_ref40_Fits c_ref40_Gap c_ref40_Open c_ref40_SameRanges c_ref40_Sort c_ref40_When)) (p := 231) (Λ := pick1 []) mixed tab_ok hΓ (by kernel_rfl) CutsOk_nil (fun d ks r h => Eq.trans (b := law40_OrderExact_p3_G (zq13m c_order_Allows c_order_Fits c_ref40_Allows c_ref40_Fits) d ks) (by kernel_rfl) h)
def zq13o (p3 : zq132) {β : Type} (rec : Int → Int → (List Int) → (List Int) → Int → Int → Int → Int → (List Int) → Int → (List (List UInt8 × Int)) → (List zq2) → (List zq0) → (List (Int × (Int × Int))) → (List zq4) → (List (List Int)) → Option β) (k1 : zq135 β) (k2 : zq136 β) (a : Int) (b : Int) (l : List Int) (times : List Int) (t85 : Int) (t86 : Int) (t259 : Int) (t260 : Int) (d : List Int) (d2 : Int) (x : List (List UInt8 × Int)) (x2 : List zq2) (x3 : List zq0) (x4 : List (Int × (Int × Int))) (t84 : List zq4) (t258 : List (List Int)) : Option β :=
  cond (decide (t260 < t259))
  (cond (decide (0 ≤ t260) && decide (t260 < (List.length t258 : Int)))
  (let z : List Int := (List.getD t258 (Int.toNat t260) ([] : List Int));
  cond (decide (List.length z * 8 ≤ roomMax))
  (cond (decide ((1 : Int) < (List.length z : Int)))
  (c_made_Dice_Next (List.length z : Int) (d, d2) (fun (rNext : Int) (mrNext : (List Int × Int)) =>
  c_made_Dice_Next (List.length z : Int) mrNext (fun (rNext2 : Int) (mrNext2 : (List Int × Int)) =>
  cond (decide (0 ≤ rNext2) && decide (rNext2 < (List.length z : Int)))
  (cond (decide (0 ≤ rNext) && decide (rNext < (List.length z : Int)))
  (cond (decide (0 ≤ rNext) && decide (rNext < (List.length z : Int)))
  (let l2 : List Int := (List.set z (Int.toNat rNext) (List.getD z (Int.toNat rNext2) (0 : Int)));
  cond (decide (0 ≤ rNext2) && decide (rNext2 < (List.length l2 : Int)))
  (let l3 : List Int := (List.set l2 (Int.toNat rNext2) (List.getD z (Int.toNat rNext) (0 : Int)));
  p3 (fun (t10 : Bool) =>
  k1 t10) (fun (a2 : Int) (b2 : Int) (l4 : List Int) (times2 : List Int) (t852 : Int) (t862 : Int) (t2592 : Int) (t2602 : Int) (d3 : List Int) (d4 : Int) (x5 : List (List UInt8 × Int)) (x6 : List zq2) (x7 : List zq0) (x8 : List (Int × (Int × Int))) (t842 : List zq4) (t2582 : List (List Int)) =>
  rec a2 b2 l4 times2 t852 t862 t2592 (IntKind.i64.wrap (t2602 + (1 : Int))) d3 d4 x5 x6 x7 x8 t842 t2582) a b l times z t85 t86 t259 t260 mrNext2.1 mrNext2.2 x x2 x3 x4 l3 t84 t258)
  none)
  none)
  none)
  none)))
  (p3 (fun (t10 : Bool) =>
  k1 t10) (fun (a2 : Int) (b2 : Int) (l2 : List Int) (times2 : List Int) (t852 : Int) (t862 : Int) (t2592 : Int) (t2602 : Int) (d3 : List Int) (d4 : Int) (x5 : List (List UInt8 × Int)) (x6 : List zq2) (x7 : List zq0) (x8 : List (Int × (Int × Int))) (t842 : List zq4) (t2582 : List (List Int)) =>
  rec a2 b2 l2 times2 t852 t862 t2592 (IntKind.i64.wrap (t2602 + (1 : Int))) d3 d4 x5 x6 x7 x8 t842 t2582) a b l times z t85 t86 t259 t260 d d2 x x2 x3 x4 z t84 t258))
  none)
  none)
  (k2 a b l times t85 t86 d d2 t84)
def zq13p (p3 : zq132) {β : Type} : Nat → zq135 β → zq136 β → Int → Int → (List Int) → (List Int) → Int → Int → Int → Int → (List Int) → Int → (List (List UInt8 × Int)) → (List zq2) → (List zq0) → (List (Int × (Int × Int))) → (List zq4) → (List (List Int)) → Option β
  | 0 => fun _ _ _ _ _ _ _ _ _ _ _ _ _ _ _ _ _ _ => none
  | i + 1 => fun k1 k2 a b l times t85 t86 t259 t260 d d2 x x2 x3 x4 t84 t258 => zq13o c_made_Dice_Next p3 (zq13p p3 i k1 k2) k1 k2 a b l times t85 t86 t259 t260 d d2 x x2 x3 x4 t84 t258
theorem zq13q (hΓ : ΓOk Try.prog (law40_OrderExact_X c_law40_pairs c_law40_sane c_made_Dice_Next c_made_Dice_OddRecord c_made_Dice_Record c_made_Light c_made_Roll c_order_Allows c_order_Compare c_order_Consistent c_order_Constraints c_order_Fits c_order_Gap c_order_Open c_order_Sort c_order_When c_ref25_Same c_ref40_Allows c_ref40_Compare c_ref40_Consistent c_ref40_Constraints c_ref40_Fits c_ref40_Gap c_ref40_Open c_ref40_SameRanges c_ref40_Sort c_ref40_When).Γ) (p3 : zq132) (hp3 : PieceOk Try.prog 327 0 law40_OrderExact_p3_code zq133 zq134 (law40_OrderExact_p3_G p3)) (i : Nat) : PieceOk Try.prog 327 0 law40_OrderExact_p4_code zq138 zq139 (law40_OrderExact_p4_G (zq13p c_made_Dice_Next p3 i)) := by
  rw [show law40_OrderExact_p4_code = .loop (loopBody law40_OrderExact_p4_code) by kernel_rfl]
  exact piece_loop (X := (law40_OrderExact_X c_law40_pairs c_law40_sane c_made_Dice_Next c_made_Dice_OddRecord c_made_Dice_Record c_made_Light c_made_Roll c_order_Allows c_order_Compare c_order_Consistent c_order_Constraints c_order_Fits c_order_Gap c_order_Open c_order_Sort c_order_When c_ref25_Same c_ref40_Allows c_ref40_Compare c_ref40_Consistent c_ref40_Constraints c_ref40_Fits c_ref40_Gap c_ref40_Open c_ref40_SameRanges c_ref40_Sort c_ref40_When)) (p := 1) (Λ := pick1 [(231, pieceCut zq133 zq134 (law40_OrderExact_p3_G p3))]) (G := fun i => @fun β d ks => law40_OrderExact_p4_G (zq13p c_made_Dice_Next p3 i) d ks) mixed tab_ok hΓ rfl (by kernel_rfl) (CutsOk_cons (q := 231) (c' := law40_OrderExact_p3_code) (by kernel_rfl) rfl hp3 CutsOk_nil) (fun _ _ => rfl) (fun i => @fun β d ks r h => Eq.trans (b := law40_OrderExact_p4_G (zq13p c_made_Dice_Next p3 (i + 1)) d ks) (by kernel_rfl) h) i
def zq13r (p1 : zq12s) (p2 : zq12x) (p4 : zq137) {β : Type} (rec : Int → Int → (List Int) → (List Int) → Int → Int → (List Int) → Int → (List zq4) → Option β) (k1 : zq13a β) (k2 : zq13b β) (a : Int) (b : Int) (l : List Int) (times : List Int) (t85 : Int) (t86 : Int) (d : List Int) (d2 : Int) (t84 : List zq4) : Option β :=
  cond (decide (t86 < t85))
  (cond (decide (0 ≤ t86) && decide (t86 < (List.length t84 : Int)))
  (c_order_Constraints ((List.getD t84 (Int.toNat t86) (([] : List (List UInt8 × Int)), (([] : List zq2), (([] : List zq0), ([] : List (Int × (Int × Int))))))).1, (((List.getD t84 (Int.toNat t86) (([] : List (List UInt8 × Int)), (([] : List zq2), (([] : List zq0), ([] : List (Int × (Int × Int))))))).2).1, (((List.getD t84 (Int.toNat t86) (([] : List (List UInt8 × Int)), (([] : List zq2), (([] : List zq0), ([] : List (Int × (Int × Int))))))).2).2))) (fun (rConstraints : Bool) (lrConstraints : List (Int × (Int × Int))) =>
  c_ref40_Constraints ((List.getD t84 (Int.toNat t86) (([] : List (List UInt8 × Int)), (([] : List zq2), (([] : List zq0), ([] : List (Int × (Int × Int))))))).1, (((List.getD t84 (Int.toNat t86) (([] : List (List UInt8 × Int)), (([] : List zq2), (([] : List zq0), ([] : List (Int × (Int × Int))))))).2).1, (((List.getD t84 (Int.toNat t86) (([] : List (List UInt8 × Int)), (([] : List zq2), (([] : List zq0), ([] : List (Int × (Int × Int))))))).2).2))) (fun (rConstraints2 : Bool) (lrConstraints2 : List (Int × (Int × Int))) =>
  cond (!(rConstraints == rConstraints2))
  (k1 false)
  (cond (!decide ((List.length lrConstraints : Int) = (List.length lrConstraints2 : Int)))
  (k1 false)
  (c_order_Consistent ((List.getD t84 (Int.toNat t86) (([] : List (List UInt8 × Int)), (([] : List zq2), (([] : List zq0), ([] : List (Int × (Int × Int))))))).1, (((List.getD t84 (Int.toNat t86) (([] : List (List UInt8 × Int)), (([] : List zq2), (([] : List zq0), ([] : List (Int × (Int × Int))))))).2).1, (((List.getD t84 (Int.toNat t86) (([] : List (List UInt8 × Int)), (([] : List zq2), (([] : List zq0), ([] : List (Int × (Int × Int))))))).2).2))) (fun (rConsistent : Bool) =>
  c_ref40_Consistent ((List.getD t84 (Int.toNat t86) (([] : List (List UInt8 × Int)), (([] : List zq2), (([] : List zq0), ([] : List (Int × (Int × Int))))))).1, (((List.getD t84 (Int.toNat t86) (([] : List (List UInt8 × Int)), (([] : List zq2), (([] : List zq0), ([] : List (Int × (Int × Int))))))).2).1, (((List.getD t84 (Int.toNat t86) (([] : List (List UInt8 × Int)), (([] : List zq2), (([] : List zq0), ([] : List (Int × (Int × Int))))))).2).2))) (fun (rConsistent2 : Bool) =>
  cond (!(rConsistent == rConsistent2))
  (k1 false)
  (p1 (fun (t10 : Bool) =>
  k1 t10) (fun (a2 : Int) (b2 : Int) (l2 : List Int) (times2 : List Int) (t852 : Int) (t862 : Int) (d3 : List Int) (d4 : Int) (x : List (List UInt8 × Int)) (x2 : List zq2) (x3 : List zq0) (x4 : List (Int × (Int × Int))) (t842 : List zq4) =>
  c_order_When (x, (x2, (x3, x4))) (fun (rWhen : Bool) (lrWhen : List (Int × Int)) =>
  c_ref40_When (x, (x2, (x3, x4))) (fun (rWhen2 : Bool) (lrWhen2 : List (Int × Int)) =>
  c_order_Sort (x, (x2, (x3, x4))) (fun (rSort : Bool) (lrSort : List Int) =>
  c_ref40_Sort (x, (x2, (x3, x4))) (fun (rSort2 : Bool) (lrSort2 : List Int) =>
  cond (!(rWhen == rWhen2))
  (k1 false)
  (c_ref40_SameRanges lrWhen lrWhen2 (fun (rSameRanges : Bool) =>
  cond (!rSameRanges)
  (k1 false)
  (cond (!(rSort == rSort2))
  (k1 false)
  (c_ref25_Same lrSort lrSort2 (fun (rSame : Bool) =>
  cond (!rSame)
  (k1 false)
  (c_order_Open (x, (x2, (x3, x4))) (fun (lrOpen : List (Int × Int)) =>
  c_ref40_Open (x, (x2, (x3, x4))) (fun (lrOpen2 : List (Int × Int)) =>
  c_law40_pairs lrOpen lrOpen2 (fun (rpairs : Bool) =>
  cond (!rpairs)
  (k1 false)
  (c_made_Dice_Next (7 : Int) (d3, d4) (fun (rNext : Int) (mrNext : (List Int × Int)) =>
  c_made_Dice_Next (6 : Int) mrNext (fun (rNext2 : Int) (mrNext2 : (List Int × Int)) =>
  c_made_Dice_Next (6 : Int) mrNext2 (fun (rNext3 : Int) (mrNext3 : (List Int × Int)) =>
  c_made_Dice_Next (6 : Int) mrNext3 (fun (rNext4 : Int) (mrNext4 : (List Int × Int)) =>
  let l3 : List (Int × Int) := ([(a2, b2), ((IntKind.i64.wrap (rNext - (1 : Int))), rNext2), (rNext3, rNext4)] : List (Int × Int));
  p2 (fun (t10 : Bool) =>
  k1 t10) (fun (a3 : Int) (b3 : Int) (l4 : List Int) (times3 : List Int) (t853 : Int) (t863 : Int) (d5 : List Int) (d6 : Int) (x5 : List (List UInt8 × Int)) (x6 : List zq2) (x7 : List zq0) (x8 : List (Int × (Int × Int))) (s : List Int) (t843 : List zq4) =>
  let l5 : List (List Int) := ([l4, s, times3, ([] : List Int)] : List (List Int));
  p4 (fun (t10 : Bool) =>
  k1 t10) (fun (a4 : Int) (b4 : Int) (l6 : List Int) (times4 : List Int) (t854 : Int) (t864 : Int) (d7 : List Int) (d8 : Int) (t844 : List zq4) =>
  rec a4 b4 l6 times4 t854 (IntKind.i64.wrap (t864 + (1 : Int))) d7 d8 t844) a3 b3 l4 times3 t853 t863 (List.length l5 : Int) (0 : Int) d5 d6 x5 x6 x7 x8 t843 l5) a2 b2 l2 times2 t852 t862 (List.length l3 : Int) (0 : Int) mrNext4.1 mrNext4.2 x x2 x3 x4 lrSort t842 l3))))))))))))))))))) a b l times t85 t86 (List.length lrConstraints : Int) (0 : Int) d d2 ((List.getD t84 (Int.toNat t86) (([] : List (List UInt8 × Int)), (([] : List zq2), (([] : List zq0), ([] : List (Int × (Int × Int))))))).1) (((List.getD t84 (Int.toNat t86) (([] : List (List UInt8 × Int)), (([] : List zq2), (([] : List zq0), ([] : List (Int × (Int × Int))))))).2).1) ((((List.getD t84 (Int.toNat t86) (([] : List (List UInt8 × Int)), (([] : List zq2), (([] : List zq0), ([] : List (Int × (Int × Int))))))).2).2).1) ((((List.getD t84 (Int.toNat t86) (([] : List (List UInt8 × Int)), (([] : List zq2), (([] : List zq0), ([] : List (Int × (Int × Int))))))).2).2).2) lrConstraints lrConstraints2 t84))))))))
  none)
  (k2 ())
def zq13s (p1 : zq12s) (p2 : zq12x) (p4 : zq137) {β : Type} : Nat → zq13a β → zq13b β → Int → Int → (List Int) → (List Int) → Int → Int → (List Int) → Int → (List zq4) → Option β
  | 0 => fun _ _ _ _ _ _ _ _ _ _ _ => none
  | i + 1 => fun k1 k2 a b l times t85 t86 d d2 t84 => zq13r c_law40_pairs c_made_Dice_Next c_order_Consistent c_order_Constraints c_order_Open c_order_Sort c_order_When c_ref25_Same c_ref40_Consistent c_ref40_Constraints c_ref40_Open c_ref40_SameRanges c_ref40_Sort c_ref40_When p1 p2 p4 (zq13s p1 p2 p4 i k1 k2) k1 k2 a b l times t85 t86 d d2 t84
theorem zq13t (hΓ : ΓOk Try.prog (law40_OrderExact_X c_law40_pairs c_law40_sane c_made_Dice_Next c_made_Dice_OddRecord c_made_Dice_Record c_made_Light c_made_Roll c_order_Allows c_order_Compare c_order_Consistent c_order_Constraints c_order_Fits c_order_Gap c_order_Open c_order_Sort c_order_When c_ref25_Same c_ref40_Allows c_ref40_Compare c_ref40_Consistent c_ref40_Constraints c_ref40_Fits c_ref40_Gap c_ref40_Open c_ref40_SameRanges c_ref40_Sort c_ref40_When).Γ) (p1 : zq12s) (p2 : zq12x) (p4 : zq137) (hp1 : PieceOk Try.prog 327 0 law40_OrderExact_p1_code zq12t zq12u (law40_OrderExact_p1_G p1)) (hp2 : PieceOk Try.prog 327 0 law40_OrderExact_p2_code zq12y zq12z (law40_OrderExact_p2_G p2)) (hp4 : PieceOk Try.prog 327 0 law40_OrderExact_p4_code zq138 zq139 (law40_OrderExact_p4_G p4)) (i : Nat) : PieceOk Try.prog 327 0 law40_OrderExact_p5_code zq13d zq13e (law40_OrderExact_p5_G (zq13s c_law40_pairs c_made_Dice_Next c_order_Consistent c_order_Constraints c_order_Open c_order_Sort c_order_When c_ref25_Same c_ref40_Consistent c_ref40_Constraints c_ref40_Open c_ref40_SameRanges c_ref40_Sort c_ref40_When p1 p2 p4 i)) := by
  rw [show law40_OrderExact_p5_code = .loop (loopBody law40_OrderExact_p5_code) by kernel_rfl]
  exact piece_loop (X := (law40_OrderExact_X c_law40_pairs c_law40_sane c_made_Dice_Next c_made_Dice_OddRecord c_made_Dice_Record c_made_Light c_made_Roll c_order_Allows c_order_Compare c_order_Consistent c_order_Constraints c_order_Fits c_order_Gap c_order_Open c_order_Sort c_order_When c_ref25_Same c_ref40_Allows c_ref40_Compare c_ref40_Consistent c_ref40_Constraints c_ref40_Fits c_ref40_Gap c_ref40_Open c_ref40_SameRanges c_ref40_Sort c_ref40_When)) (p := 1) (Λ := pick1 [(3706, pieceCut zq12t zq12u (law40_OrderExact_p1_G p1)), (237562, pieceCut zq12y zq12z (law40_OrderExact_p2_G p2)), (237566, pieceCut zq138 zq139 (law40_OrderExact_p4_G p4))]) (G := fun i => @fun β d ks => law40_OrderExact_p5_G (zq13s c_law40_pairs c_made_Dice_Next c_order_Consistent c_order_Constraints c_order_Open c_order_Sort c_order_When c_ref25_Same c_ref40_Consistent c_ref40_Constraints c_ref40_Open c_ref40_SameRanges c_ref40_Sort c_ref40_When p1 p2 p4 i) d ks) mixed tab_ok hΓ rfl (by kernel_rfl) (CutsOk_cons (q := 3706) (c' := law40_OrderExact_p1_code) (by kernel_rfl) rfl hp1 (CutsOk_cons (q := 237562) (c' := law40_OrderExact_p2_code) (by kernel_rfl) rfl hp2 (CutsOk_cons (q := 237566) (c' := law40_OrderExact_p4_code) (by kernel_rfl) rfl hp4 CutsOk_nil))) (fun _ _ => rfl) (fun i => @fun β d ks r h => Eq.trans (b := law40_OrderExact_p5_G (zq13s c_law40_pairs c_made_Dice_Next c_order_Consistent c_order_Constraints c_order_Open c_order_Sort c_order_When c_ref25_Same c_ref40_Consistent c_ref40_Constraints c_ref40_Open c_ref40_SameRanges c_ref40_Sort c_ref40_When p1 p2 p4 (i + 1)) d ks) (by kernel_rfl) h) i
def zq13u (p5 : zq13c) {β : Type} (t : List Int) (raw : zq4) (a : Int) (b : Int) (l : List Int) (k : (Bool → Option β)) : Option β :=
  c_made_Light t (fun (rLight : Bool) =>
  cond (!rLight)
  (c_law40_sane  (fun (rsane : Bool) =>
  k rsane))
  (cond (decide ((30 : Int) < (IntKind.i64.wrap ((IntKind.i64.wrap ((IntKind.i64.wrap ((List.length raw.1 : Int) + (List.length raw.2.1 : Int))) + (List.length raw.2.2.1 : Int))) + (List.length raw.2.2.2 : Int)))))
  (c_law40_sane  (fun (rsane : Bool) =>
  k rsane))
  (cond (decide ((60 : Int) < (List.length l : Int)))
  (c_law40_sane  (fun (rsane : Bool) =>
  k rsane))
  (c_made_Roll t (fun (mrRoll : (List Int × Int)) =>
  c_made_Dice_Record (6 : Int) mrRoll (fun (rRecord : zq4) (mrRecord : (List Int × Int)) (lrRecord : List Int) =>
  c_made_Dice_OddRecord rRecord mrRecord (fun (rOddRecord : zq4) (mrOddRecord : (List Int × Int)) =>
  let l2 : List zq4 := ([rRecord, rOddRecord, raw] : List zq4);
  p5 (fun (t10 : Bool) =>
  k t10) (fun (_ : Unit) =>
  c_law40_sane  (fun (rsane : Bool) =>
  k rsane)) a b l lrRecord (List.length l2 : Int) (0 : Int) mrOddRecord.1 mrOddRecord.2 l2)))))))
theorem zq13v (hΓ : ΓOk Try.prog (law40_OrderExact_X c_law40_pairs c_law40_sane c_made_Dice_Next c_made_Dice_OddRecord c_made_Dice_Record c_made_Light c_made_Roll c_order_Allows c_order_Compare c_order_Consistent c_order_Constraints c_order_Fits c_order_Gap c_order_Open c_order_Sort c_order_When c_ref25_Same c_ref40_Allows c_ref40_Compare c_ref40_Consistent c_ref40_Constraints c_ref40_Fits c_ref40_Gap c_ref40_Open c_ref40_SameRanges c_ref40_Sort c_ref40_When).Γ) (p5 : zq13c) (hp5 : PieceOk Try.prog 327 0 law40_OrderExact_p5_code zq13d zq13e (law40_OrderExact_p5_G p5)) : SpecOk Try.prog 3 (zq12p (zq13u c_law40_sane c_made_Dice_OddRecord c_made_Dice_Record c_made_Light c_made_Roll p5)) :=
  spec_exec (X := (law40_OrderExact_X c_law40_pairs c_law40_sane c_made_Dice_Next c_made_Dice_OddRecord c_made_Dice_Record c_made_Light c_made_Roll c_order_Allows c_order_Compare c_order_Consistent c_order_Constraints c_order_Fits c_order_Gap c_order_Open c_order_Sort c_order_When c_ref25_Same c_ref40_Allows c_ref40_Compare c_ref40_Consistent c_ref40_Constraints c_ref40_Fits c_ref40_Gap c_ref40_Open c_ref40_SameRanges c_ref40_Sort c_ref40_When)) (Λ := pick1 [(250, pieceCut zq13d zq13e (law40_OrderExact_p5_G p5))]) (rs := [.tmp 10]) (c := bodyOf Try.f3) mixed tab_ok hΓ Try.func3 (by kernel_rfl) (by kernel_rfl) (by kernel_rfl) (by kernel_rfl) (CutsOk_cons (q := 250) (c' := law40_OrderExact_p5_code) (by kernel_rfl) rfl hp5 CutsOk_nil) (fun x k r h => Eq.trans (b := (zq12p (zq13u c_law40_sane c_made_Dice_OddRecord c_made_Dice_Record c_made_Light c_made_Roll p5)).run x k) (by kernel_rfl) h)
end
theorem zq13wΓ : ΓOk Try.prog (pick1 [(19, .spec (zq1n zq23)), (5, .spec (zqz8 zqzc)), (22, .spec (zq26 zq2a)), (8, .spec (zqat zqb6)), (7, .spec (zq95 zqaq)), (4, .spec (zq7 zqb)), (6, .spec (zqe zqi)), (27, .spec (zq112 zq11i)), (25, .spec (zqyi zqym)), (11, .spec (zqvp zqvt)), (9, .spec (zqn2 zqof)), (29, .spec (zq12i zq12m)), (23, .spec (zqyb zqyf)), (20, .spec (zqxi zqy8)), (15, .spec (zqwe zqxf)), (13, .spec (zqvw zqwb)), (18, .spec (zq14 zq1k)), (28, .spec (zqri zqsa)), (26, .spec (zqrb zqrf)), (12, .spec (zqoi zqom)), (10, .spec (zqk5 zqlr)), (30, .spec (zqsd zqst)), (24, .spec (zqr4 zqr8)), (21, .spec (zqqb zqr1)), (17, .spec (zql zq11)), (16, .spec (zqp7 zqq8)), (14, .spec (zqop zqp4))]) := (ΓOk_cons zq24 (ΓOk_cons zqzd (ΓOk_cons zq2b (ΓOk_cons zqb7 (ΓOk_cons zqar (ΓOk_cons zqc (ΓOk_cons zqj (ΓOk_cons zq11j (ΓOk_cons zqyn (ΓOk_cons zqvu (ΓOk_cons zqog (ΓOk_cons zq12n (ΓOk_cons zqyg (ΓOk_cons zqy9 (ΓOk_cons zqxg (ΓOk_cons zqwc (ΓOk_cons zq1l (ΓOk_cons zqsb (ΓOk_cons zqrg (ΓOk_cons zqon (ΓOk_cons zqls (ΓOk_cons zqsu (ΓOk_cons zqr9 (ΓOk_cons zqr2 (ΓOk_cons zq12 (ΓOk_cons zqq9 (ΓOk_cons zqp5 ΓOk_nil)))))))))))))))))))))))))))
def zq13x (m : Nat) : zq12s := zq13g m
theorem zq13y {β : Type} (i : Nat) (k1 k2 a b l times t85 t86 t118 t119 d d2 x x2 x3 x4 c e t84) : (zq13x (i + 1) k1 k2 a b l times t85 t86 t118 t119 d d2 x x2 x3 x4 c e t84 : Option β) = zq13f (zq13x i k1 k2) k1 k2 a b l times t85 t86 t118 t119 d d2 x x2 x3 x4 c e t84 := rfl
def zq13z : zq12s := zq13x fuel
theorem zq140 : PieceOk Try.prog 327 0 law40_OrderExact_p1_code zq12t zq12u (law40_OrderExact_p1_G zq13z) := zq13h zq23 zqzc zq2a zqb6 zqaq zqb zqi zq11i zqym zqvt zqof zq12m zqyf zqy8 zqxf zqwb zq1k zqsa zqrf zqom zqlr zqst zqr8 zqr1 zq11 zqq8 zqp4 zq13wΓ fuel
def zq141 (m : Nat) : zq12x := zq13j zqym zqyf zqrf zqr8 m
theorem zq142 {β : Type} (i : Nat) (k1 k2 a b l times t85 t86 t195 t196 d d2 x x2 x3 x4 s t84 t194) : (zq141 (i + 1) k1 k2 a b l times t85 t86 t195 t196 d d2 x x2 x3 x4 s t84 t194 : Option β) = zq13i zqym zqyf zqrf zqr8 (zq141 i k1 k2) k1 k2 a b l times t85 t86 t195 t196 d d2 x x2 x3 x4 s t84 t194 := rfl
def zq143 : zq12x := zq141 fuel
theorem zq144 : PieceOk Try.prog 327 0 law40_OrderExact_p2_code zq12y zq12z (law40_OrderExact_p2_G zq143) := zq13k zq23 zqzc zq2a zqb6 zqaq zqb zqi zq11i zqym zqvt zqof zq12m zqyf zqy8 zqxf zqwb zq1k zqsa zqrf zqom zqlr zqst zqr8 zqr1 zq11 zqq8 zqp4 zq13wΓ fuel
def zq145 : zq132 := zq13m zq11i zq12m zqsa zqst
theorem zq146 : PieceOk Try.prog 327 0 law40_OrderExact_p3_code zq133 zq134 (law40_OrderExact_p3_G zq145) := zq13n zq23 zqzc zq2a zqb6 zqaq zqb zqi zq11i zqym zqvt zqof zq12m zqyf zqy8 zqxf zqwb zq1k zqsa zqrf zqom zqlr zqst zqr8 zqr1 zq11 zqq8 zqp4 zq13wΓ
def zq147 (m : Nat) : zq137 := zq13p zq2a zq145 m
theorem zq148 {β : Type} (i : Nat) (k1 k2 a b l times t85 t86 t259 t260 d d2 x x2 x3 x4 t84 t258) : (zq147 (i + 1) k1 k2 a b l times t85 t86 t259 t260 d d2 x x2 x3 x4 t84 t258 : Option β) = zq13o zq2a zq145 (zq147 i k1 k2) k1 k2 a b l times t85 t86 t259 t260 d d2 x x2 x3 x4 t84 t258 := rfl
def zq149 : zq137 := zq147 fuel
theorem zq14a : PieceOk Try.prog 327 0 law40_OrderExact_p4_code zq138 zq139 (law40_OrderExact_p4_G zq149) := zq13q zq23 zqzc zq2a zqb6 zqaq zqb zqi zq11i zqym zqvt zqof zq12m zqyf zqy8 zqxf zqwb zq1k zqsa zqrf zqom zqlr zqst zqr8 zqr1 zq11 zqq8 zqp4 zq13wΓ zq145 zq146 fuel
def zq14b (m : Nat) : zq13c := zq13s zq23 zq2a zqvt zqof zqy8 zqxf zqwb zq1k zqom zqlr zqr1 zq11 zqq8 zqp4 zq13z zq143 zq149 m
theorem zq14c {β : Type} (i : Nat) (k1 k2 a b l times t85 t86 d d2 t84) : (zq14b (i + 1) k1 k2 a b l times t85 t86 d d2 t84 : Option β) = zq13r zq23 zq2a zqvt zqof zqy8 zqxf zqwb zq1k zqom zqlr zqr1 zq11 zqq8 zqp4 zq13z zq143 zq149 (zq14b i k1 k2) k1 k2 a b l times t85 t86 d d2 t84 := rfl
def zq14d : zq13c := zq14b fuel
theorem zq14e : PieceOk Try.prog 327 0 law40_OrderExact_p5_code zq13d zq13e (law40_OrderExact_p5_G zq14d) := zq13t zq23 zqzc zq2a zqb6 zqaq zqb zqi zq11i zqym zqvt zqof zq12m zqyf zqy8 zqxf zqwb zq1k zqsa zqrf zqom zqlr zqst zqr8 zqr1 zq11 zqq8 zqp4 zq13wΓ zq13z zq143 zq149 zq140 zq144 zq14a fuel
def zq14f : zq12o := zq13u zqzc zqb6 zqaq zqb zqi zq14d
theorem zq14g : SpecOk Try.prog 3 (zq12p zq14f) := zq13v zq23 zqzc zq2a zqb6 zqaq zqb zqi zq11i zqym zqvt zqof zq12m zqyf zqy8 zqxf zqwb zq1k zqsa zqrf zqom zqlr zqst zqr8 zqr1 zq11 zqq8 zqp4 zq13wΓ zq14d zq14e
end
end Go.Lift
/- Plain lemmas about functional forms: tests that are known, loops. -/
namespace Go.Lift
open Go.RowKit Go.IntWalk

section
variable {β : Type}
/-! ### Tests -/
theorem c_inb {i n : Int} {a b : Option β} (h : 0 ≤ i ∧ i < n) : cond (decide (0 ≤ i) && decide (i < n)) a b = a := by
  rw [decide_eq_true h.1, decide_eq_true h.2]; rfl
theorem c_room {n : Nat} {a b : Option β} (h : n ≤ 140737488355328) : cond (decide (n ≤ roomMax)) a b = a := by
  rw [decide_eq_true (p := n ≤ roomMax) h]; rfl
theorem c_pos {p : Prop} [Decidable p] {a b : Option β} (h : p) : cond (decide p) a b = a := by rw [decide_eq_true h]; rfl
theorem c_neg {p : Prop} [Decidable p] {a b : Option β} (h : ¬ p) : cond (decide p) a b = b := by rw [decide_eq_false h]; rfl
theorem c_npos {p : Prop} [Decidable p] {a b : Option β} (h : p) : cond (!decide p) a b = b := by rw [decide_eq_true h]; rfl
theorem c_nneg {p : Prop} [Decidable p] {a b : Option β} (h : ¬ p) : cond (!decide p) a b = a := by rw [decide_eq_false h]; rfl
theorem c_t {a b : Option β} : cond true a b = a := rfl
theorem c_f {a b : Option β} : cond false a b = b := rfl
theorem c_not {p : Bool} {a b : Option β} : cond (!p) a b = cond p b a := by cases p <;> rfl
theorem c_and {p q : Bool} {a b : Option β} : cond p (cond q a b) b = cond (p && q) a b := by cases p <;> rfl
theorem c_andn {p q : Bool} {a b : Option β} : cond p (cond q b a) b = cond (p && !q) a b := by cases p <;> cases q <;> rfl
theorem c_nand {p q : Bool} {a b : Option β} : cond p b (cond q a b) = cond (!p && q) a b := by cases p <;> rfl
theorem c_k {γ : Type} (k : γ → Option β) (p : Bool) (x y : γ) : cond p (k x) (k y) = k (cond p x y) := by cases p <;> rfl
theorem c_kb (k : Bool → Option β) (p q : Bool) : cond p (k q) (k false) = k (p && q) := by cases p <;> rfl
theorem pair_eta {γ δ : Type} (p : γ × δ) : (p.1, p.2) = p := rfl
theorem k_eq {γ : Type} {k : γ → Option β} {x y : γ} (h : x = y) : k x = k y := by rw [h]

/-! ### Loops over the numbers from 0 on -/
/-- A walk over a list that may end early. -/
def walk {α σ ε : Type} (g : Nat → α → σ → ε ⊕ σ) : List α → Nat → σ → ε ⊕ σ
  | [], _, s => .inr s
  | x :: r, j, s =>
    match g j x s with
    | .inl e => .inl e
    | .inr s' => walk g r (j + 1) s'

def sumK {ε σ : Type} (E : ε → Option β) (K : σ → Option β) : ε ⊕ σ → Option β
  | .inl e => E e
  | .inr s => K s

theorem walk_loop {α σ ε : Type} (F : Nat → Int → σ → Option β) (g : Nat → α → σ → ε ⊕ σ) (E : ε → Option β) (K : σ → Option β) (d : α) (xs : List α)
    (h1 : ∀ (m i : Nat) s, i < xs.length → F (m + 1) (i : Int) s = sumK E (fun s' => F m ((i : Int) + 1) s') (g i (xs.getD i d) s))
    (h2 : ∀ (m : Nat) s, F (m + 1) (xs.length : Int) s = K s) :
    ∀ (r : List α) (j fuel : Nat) (s : σ), xs.drop j = r → j + r.length = xs.length → r.length < fuel → F fuel (j : Int) s = sumK E K (walk g r j s)
  | r, j, 0, s, _, _, h => absurd h (Nat.not_lt_zero _)
  | [], j, m + 1, s, hd, hj, _ => by
    simp only [List.length_nil, Nat.add_zero] at hj
    subst hj
    rw [h2]; rfl
  | x :: r, j, m + 1, s, hd, hj, hm => by
    simp only [List.length_cons] at hj hm
    have h3 : j < xs.length := by omega
    have hx : xs.getD j d = x := by
      rw [List.drop_eq_getElem_cons h3] at hd
      injection hd with hd1 hd2
      simp [List.getD, h3, hd1]
    have hr : xs.drop (j + 1) = r := by
      rw [List.drop_eq_getElem_cons h3] at hd
      injection hd with hd1 hd2
    rw [h1 m j s h3, hx, walk]
    cases hg : g j x s with
    | inl e => rfl
    | inr s' =>
      simp only [sumK]
      exact walk_loop F g E K d xs h1 h2 r (j + 1) m s' hr (by omega) (by omega)

theorem walk_loop0 {α σ ε : Type} (F : Nat → Int → σ → Option β) (g : Nat → α → σ → ε ⊕ σ) (E : ε → Option β) (K : σ → Option β) (d : α) (xs : List α) (s : σ) (n : Nat) (hn : xs.length < n)
    (h1 : ∀ (m i : Nat) s, i < xs.length → F (m + 1) (i : Int) s = sumK E (fun s' => F m ((i : Int) + 1) s') (g i (xs.getD i d) s))
    (h2 : ∀ (m : Nat) s, F (m + 1) (xs.length : Int) s = K s) : F n 0 s = sumK E K (walk g xs 0 s) :=
  walk_loop F g E K d xs h1 h2 xs 0 n s rfl (by simp) hn

/-- A loop that only looks: every element, or out. -/
theorem check_loop {α : Type} (F : Nat → Int → Option β) (p : α → Bool) (E K : Option β) (d : α) (xs : List α) (n : Nat) (hn : xs.length < n)
    (h1 : ∀ (m i : Nat), i < xs.length → F (m + 1) (i : Int) = cond (p (xs.getD i d)) (F m ((i : Int) + 1)) E)
    (h2 : ∀ (m : Nat), F (m + 1) (xs.length : Int) = K) : F n 0 = cond (xs.all p) K E := by
  have h := walk_loop0 (ε := Unit) (fun m i (_ : Unit) => F m i) (fun _ x s => cond (p x) (.inr s) (.inl ())) (fun _ => E) (fun _ => K) d xs () n hn
    (fun m i s hi => by rw [h1 m i hi]; cases p (xs.getD i d) <;> rfl) (fun m s => h2 m)
  rw [h]
  have key : ∀ (l : List α) (j : Nat), sumK (fun _ => E) (fun _ => K) (walk (ε := Unit) (fun _ x (s : Unit) => cond (p x) (.inr s) (.inl ())) l j ()) = cond (l.all p) K E := by
    intro l
    induction l with
    | nil => intro j; rfl
    | cons x l ih =>
      intro j
      simp only [walk, List.all_cons]
      cases p x with
      | true => simpa using ih (j + 1)
      | false => rfl
  exact key xs 0

/-- A loop that goes through all elements. -/
theorem fold_loop {α σ : Type} (F : Nat → Int → σ → Option β) (g : σ → α → σ) (K : σ → Option β) (d : α) (xs : List α) (s : σ) (n : Nat) (hn : xs.length < n)
    (h1 : ∀ (m i : Nat) s, i < xs.length → F (m + 1) (i : Int) s = F m ((i : Int) + 1) (g s (xs.getD i d)))
    (h2 : ∀ (m : Nat) s, F (m + 1) (xs.length : Int) s = K s) : F n 0 s = K (xs.foldl g s) := by
  have h := walk_loop0 (ε := Empty) F (fun _ x s => .inr (g s x)) (fun e => e.elim) K d xs s n hn (fun m i s hi => h1 m i s hi) h2
  rw [h]
  have key : ∀ (l : List α) (j : Nat) (s : σ), sumK (fun e : Empty => e.elim) K (walk (fun _ x s => .inr (g s x)) l j s) = K (l.foldl g s) := by
    intro l
    induction l with
    | nil => intro j s; rfl
    | cons x l ih => intro j s; exact ih (j + 1) (g s x)
  exact key xs 0 s

/-- A loop that goes through all elements, with an invariant. -/
theorem fold_loopI {α σ : Type} (I : Nat → σ → Prop) (F : Nat → Int → σ → Option β) (g : σ → α → σ) (K : σ → Option β) (d : α) (xs : List α) (s : σ) (n : Nat) (hn : xs.length < n) (h0 : I 0 s)
    (hI : ∀ (i : Nat) s, i < xs.length → I i s → I (i + 1) (g s (xs.getD i d)))
    (h1 : ∀ (m i : Nat) s, i < xs.length → I i s → F (m + 1) (i : Int) s = F m ((i : Int) + 1) (g s (xs.getD i d)))
    (h2 : ∀ (m : Nat) s, I xs.length s → F (m + 1) (xs.length : Int) s = K s) : F n 0 s = K (xs.foldl g s) := by
  have key : ∀ (r : List α) (j fuel : Nat) (s : σ), xs.drop j = r → j + r.length = xs.length → r.length < fuel → I j s → F fuel (j : Int) s = K (r.foldl g s) := by
    intro r
    induction r with
    | nil =>
      intro j fuel s hd hj hf hs
      obtain ⟨m, rfl⟩ : ∃ m, fuel = m + 1 := ⟨fuel - 1, by omega⟩
      simp only [List.length_nil, Nat.add_zero] at hj
      subst hj
      exact h2 m s hs
    | cons x r ih =>
      intro j fuel s hd hj hf hs
      obtain ⟨m, rfl⟩ : ∃ m, fuel = m + 1 := ⟨fuel - 1, by omega⟩
      simp only [List.length_cons] at hj hf
      have h3 : j < xs.length := by omega
      have hx : xs.getD j d = x := by
        rw [List.drop_eq_getElem_cons h3] at hd
        injection hd with hd1 hd2
        simp [List.getD, h3, hd1]
      have hr : xs.drop (j + 1) = r := by
        rw [List.drop_eq_getElem_cons h3] at hd
        injection hd with hd1 hd2
      rw [h1 m j s h3 hs, hx]
      have := hI j s h3 hs
      rw [hx] at this
      exact ih (j + 1) m (g s x) hr (by omega) (by omega) this
  exact key xs 0 n s rfl (by simp) hn h0

/-- A loop with an invariant and a measure. -/
theorem while_loop {σ ρ : Type} {Kt : Type → Type} (F : {β : Type} → Kt β → Nat → σ → Option β) (X : {β : Type} → Kt β → ρ → Option β) (I : σ → Prop) (μ : σ → Nat) (Q : ρ → Prop)
    (step : ∀ s, I s → (∃ s', I s' ∧ μ s' < μ s ∧ ∀ {β : Type} (k : Kt β) m, F k (m + 1) s = F k m s') ∨ (∃ r, Q r ∧ ∀ {β : Type} (k : Kt β) m, F k (m + 1) s = X k r)) :
    ∀ (N : Nat) (s : σ), I s → μ s < N → ∃ r, Q r ∧ ∀ {β : Type} (k : Kt β), F k N s = X k r := by
  intro N
  induction N with
  | zero => intro s _ h; omega
  | succ N ih =>
    intro s hI hN
    rcases step s hI with ⟨s', h1, h2, h3⟩ | ⟨r, h1, h2⟩
    · obtain ⟨r, h4, h5⟩ := ih s' h1 (by omega)
      exact ⟨r, h4, fun k => (h3 k N).trans (h5 k)⟩
    · exact ⟨r, h1, fun k => h2 k N⟩
end
end Go.Lift

/- Square matrices as lists of rows. -/
namespace Go.Lift
open Go.RowKit Go.IntWalk
noncomputable section
set_option linter.unusedVariables false
set_option linter.unusedSimpArgs false

abbrev Mat := List (List Int)
def at2 (m : Mat) (i j : Nat) : Int := (m.getD i []).getD j 0
structure Sq (n : Nat) (m : Mat) : Prop where
  len : m.length = n
  row : ∀ i, i < n → (m.getD i []).length = n
def setAt (m : Mat) (i j : Nat) (v : Int) : Mat := m.set i ((m.getD i []).set j v)

theorem getD_set_eq {α : Type} {l : List α} {i : Nat} {v d : α} (h : i < l.length) : (l.set i v).getD i d = v := by simp [List.getD, h]
theorem getD_set_ne {α : Type} {l : List α} {i j : Nat} {v d : α} (h : i ≠ j) : (l.set i v).getD j d = l.getD j d := by simp [List.getD, List.getElem?_set_ne h]

theorem Sq.setAt {n : Nat} {m : Mat} (h : Sq n m) (i j : Nat) (v : Int) : Sq n (setAt m i j v) := by
  refine ⟨by simp [Go.Lift.setAt, h.len], fun a ha => ?_⟩
  by_cases hi : i = a
  · subst hi
    unfold Go.Lift.setAt
    rw [getD_set_eq (by rw [h.len]; exact ha), List.length_set]
    exact h.row i ha
  · unfold Go.Lift.setAt
    rw [getD_set_ne hi]
    exact h.row a ha

theorem at_setAt {n : Nat} {m : Mat} (h : Sq n m) {i j : Nat} (hi : i < n) (hj : j < n) (v : Int) (a b : Nat) : at2 (setAt m i j v) a b = if a = i ∧ b = j then v else at2 m a b := by
  unfold at2 setAt
  by_cases hai : i = a
  · subst hai
    rw [getD_set_eq (by rw [h.len]; exact hi)]
    by_cases hbj : j = b
    · subst hbj
      rw [getD_set_eq (by rw [h.row i hi]; exact hj), if_pos ⟨rfl, rfl⟩]
    · rw [getD_set_ne hbj, if_neg (fun h => hbj h.2.symm)]
  · rw [getD_set_ne hai, if_neg (fun h => hai h.1.symm)]

theorem mat_ext {n : Nat} {m m' : Mat} (h : Sq n m) (h' : Sq n m') (he : ∀ i j, i < n → j < n → at2 m i j = at2 m' i j) : m = m' := by
  apply List.ext_getElem
  · rw [h.len, h'.len]
  · intro i h1 h2
    have hi : i < n := by rw [← h.len]; exact h1
    have e1 : m.getD i [] = m[i] := by rw [List.getD, List.getElem?_eq_getElem h1]; rfl
    have e2 : m'.getD i [] = m'[i] := by rw [List.getD, List.getElem?_eq_getElem h2]; rfl
    apply List.ext_getElem
    · rw [← e1, ← e2, h.row i hi, h'.row i hi]
    · intro j h3 h4
      have hj : j < n := by rw [← h.row i hi, e1]; exact h3
      have := he i j hi hj
      unfold at2 at this
      rw [e1, e2] at this
      have q1 : m[i].getD j 0 = m[i][j] := by rw [List.getD, List.getElem?_eq_getElem h3]; rfl
      have q2 : m'[i].getD j 0 = m'[i][j] := by rw [List.getD, List.getElem?_eq_getElem h4]; rfl
      rw [q1, q2] at this
      exact this

abbrev BIG : Int := 1099511627776
/-- One update of the closure. -/
def relaxW (k i j : Nat) (m : Mat) : Mat :=
  if at2 m i k = BIG ∨ at2 m k j = BIG then m
  else setAt m i j (if IntKind.i64.wrap (at2 m i k + at2 m k j) < at2 m i j then IntKind.i64.wrap (at2 m i k + at2 m k j) else at2 m i j)
def rowW (n k i : Nat) (m : Mat) : Mat := (List.range n).foldl (fun m j => relaxW k i j m) m
def roundW (n k : Nat) (m : Mat) : Mat := (List.range n).foldl (fun m i => rowW n k i m) m

theorem Sq.relaxW {n : Nat} {m : Mat} (h : Sq n m) (k i j : Nat) : Sq n (relaxW k i j m) := by
  unfold Go.Lift.relaxW
  split
  · exact h
  · exact h.setAt _ _ _

theorem fold_inv {α σ : Type} (I : σ → Prop) (g : σ → α → σ) (hg : ∀ s x, I s → I (g s x)) : ∀ (l : List α) (s : σ), I s → I (l.foldl g s)
  | [], _, h => h
  | x :: l, s, h => fold_inv I g hg l _ (hg s x h)

theorem Sq.rowW {n : Nat} {m : Mat} (h : Sq n m) (k i : Nat) : Sq n (rowW n k i m) := fold_inv (Sq n) _ (fun m j h => h.relaxW k i j) _ _ h
theorem Sq.roundW {n : Nat} {m : Mat} (h : Sq n m) (k : Nat) : Sq n (roundW n k m) := fold_inv (Sq n) _ (fun m i h => h.rowW k i) _ _ h
end
end Go.Lift

