/- Part9: Fn1, LBase, LMat, LClock, LDice, LDice1, LRecord, LWhen, LClose, LValid, LDirect, LClosure, LClosure2, LClosure3, LCons, LOrder, LOrder2, LRef39, LOrder3, LSane41, LTimeMerge, LTimeAdds. -/
import Derived.Test.YtphncllfolehcaaDoorProg
import Derived.KernelRfl
import Derived.Test.YtphncllfolehcaaDoorPart8
namespace Go.Lift
open Go.Proofs
noncomputable section
set_option maxRecDepth 100000
set_option linter.unusedVariables false

/-- pagewatch/constraint.Close -/
abbrev zqgk := {β : Type} → Int → (List (Int × (Int × Int))) → ((List (List Int)) → Bool → Option β) → Option β
def zqgl (c : zqgk) : Spec :=
  ⟨[(false, [.data (.int .i64)]), (false, [.data (.slice (.prod (.int .i64) (.prod (.int .i64) (.int .i64))))])], [], [(false, [.data (.slice (.slice (.int .i64)))]), (false, [.data .bool])], [], fun x k => c x.1.1.1 x.1.2.1.1 (fun r0 r1 => k (((r0, ()), (r1, ()), ()), ()))⟩
noncomputable def constraint_Close_p1_code : Code := codeAt 122 (bodyOf Tryd.f47)
noncomputable def constraint_Close_p5_code : Code := codeAt 250 (bodyOf Tryd.f47)
noncomputable def constraint_Close_p6_code : Code := codeAt 506 (bodyOf Tryd.f47)
noncomputable def constraint_Close_p4_code : Code := codeAt 458 (loopBody constraint_Close_p5_code)
noncomputable def constraint_Close_p3_code : Code := codeAt 230 (loopBody constraint_Close_p4_code)
noncomputable def constraint_Close_p2_code : Code := codeAt 115 (loopBody constraint_Close_p3_code)
abbrev zqgm (β : Type) := Int → (List (List Int)) → Option β
abbrev zqgn := {β : Type} → zqgm β → Int → Int → Int → (List (List Int)) → Option β
def zqgo : View := ⟨0, [0, 6, 19, 20], [(false, [.data (.int .i64)]), (false, [.math 0]), (false, [.data (.int .i64)]), (false, [.data (.int .i64)])], [.mat 22 3 (.int .i64)]⟩
def zqgp : List (AExit × View) := [(.exit 0, ⟨0, [0, 6], [(false, [.data (.int .i64)]), (false, [.math 0])], [.mat 22 3 (.int .i64)]⟩)]
@[reducible] def constraint_Close_p1_G (p : zqgn) {β : Type} (d : zqgo.den) (ks : Outs.K β zqgp) : Option β :=
  p (fun a0 a1 => ks.1 (((a0, ()), (), ()), (a1, ()))) d.1.1.1 d.1.2.2.1.1 d.1.2.2.2.1.1 d.2.1
abbrev zqgq (β : Type) := Int → Int → Int → Int → Int → Int → Int → Int → Int → (List (List Int)) → Option β
abbrev zqgr := {β : Type} → zqgq β → Int → Int → Int → Int → Int → Int → Int → Int → Int → Int → Bool → (List (List Int)) → Option β
def zqgs : View := ⟨0, [0, 6, 8, 9, 10, 38, 39, 42, 43, 46, 47, 67], [(false, [.data (.int .i64)]), (false, [.math 0]), (false, [.data (.int .i64)]), (false, [.data (.int .i64)]), (false, [.data (.int .i64)]), (false, [.data (.int .i64)]), (false, [.data (.int .i64)]), (false, [.data (.int .i64)]), (false, [.data (.int .i64)]), (false, [.data (.int .i64)]), (false, [.data (.int .i64)]), (false, [.data .bool])], [.mat 22 3 (.int .i64)]⟩
def zqgt : List (AExit × View) := [(.normal, ⟨0, [0, 6, 8, 9, 38, 39, 42, 43, 46, 47], [(false, [.data (.int .i64)]), (false, [.math 0]), (false, [.data (.int .i64)]), (false, [.data (.int .i64)]), (false, [.data (.int .i64)]), (false, [.data (.int .i64)]), (false, [.data (.int .i64)]), (false, [.data (.int .i64)]), (false, [.data (.int .i64)]), (false, [.data (.int .i64)])], [.mat 22 3 (.int .i64)]⟩)]
@[reducible] def constraint_Close_p2_G (p : zqgr) {β : Type} (d : zqgs.den) (ks : Outs.K β zqgt) : Option β :=
  p (fun a0 a1 a2 a3 a4 a5 a6 a7 a8 a9 => ks.1 (((a0, ()), (), (a1, ()), (a2, ()), (a3, ()), (a4, ()), (a5, ()), (a6, ()), (a7, ()), (a8, ()), ()), (a9, ()))) d.1.1.1 d.1.2.2.1.1 d.1.2.2.2.1.1 d.1.2.2.2.2.1.1 d.1.2.2.2.2.2.1.1 d.1.2.2.2.2.2.2.1.1 d.1.2.2.2.2.2.2.2.1.1 d.1.2.2.2.2.2.2.2.2.1.1 d.1.2.2.2.2.2.2.2.2.2.1.1 d.1.2.2.2.2.2.2.2.2.2.2.1.1 d.1.2.2.2.2.2.2.2.2.2.2.2.1.1 d.2.1
abbrev zqgu (β : Type) := Int → Int → Int → Int → Int → Int → (List (List Int)) → Option β
abbrev zqgv := {β : Type} → zqgu β → Int → Int → Int → Int → Int → Int → Int → Int → Int → (List (List Int)) → Option β
def zqgw : View := ⟨0, [0, 6, 8, 9, 38, 39, 42, 43, 46, 47], [(false, [.data (.int .i64)]), (false, [.math 0]), (false, [.data (.int .i64)]), (false, [.data (.int .i64)]), (false, [.data (.int .i64)]), (false, [.data (.int .i64)]), (false, [.data (.int .i64)]), (false, [.data (.int .i64)]), (false, [.data (.int .i64)]), (false, [.data (.int .i64)])], [.mat 22 3 (.int .i64)]⟩
def zqgx : List (AExit × View) := [(.exit 6, ⟨0, [0, 6, 8, 38, 39, 42, 43], [(false, [.data (.int .i64)]), (false, [.math 0]), (false, [.data (.int .i64)]), (false, [.data (.int .i64)]), (false, [.data (.int .i64)]), (false, [.data (.int .i64)]), (false, [.data (.int .i64)])], [.mat 22 3 (.int .i64)]⟩)]
@[reducible] def constraint_Close_p3_G (p : zqgv) {β : Type} (d : zqgw.den) (ks : Outs.K β zqgx) : Option β :=
  p (fun a0 a1 a2 a3 a4 a5 a6 => ks.1 (((a0, ()), (), (a1, ()), (a2, ()), (a3, ()), (a4, ()), (a5, ()), ()), (a6, ()))) d.1.1.1 d.1.2.2.1.1 d.1.2.2.2.1.1 d.1.2.2.2.2.1.1 d.1.2.2.2.2.2.1.1 d.1.2.2.2.2.2.2.1.1 d.1.2.2.2.2.2.2.2.1.1 d.1.2.2.2.2.2.2.2.2.1.1 d.1.2.2.2.2.2.2.2.2.2.1.1 d.2.1
abbrev zqgy (β : Type) := Int → Int → Int → Int → (List (List Int)) → Option β
abbrev zqgz := {β : Type} → zqgy β → Int → Int → Int → Int → Int → Int → (List (List Int)) → Option β
def zqh0 : View := ⟨0, [0, 6, 8, 38, 39, 42, 43], [(false, [.data (.int .i64)]), (false, [.math 0]), (false, [.data (.int .i64)]), (false, [.data (.int .i64)]), (false, [.data (.int .i64)]), (false, [.data (.int .i64)]), (false, [.data (.int .i64)])], [.mat 22 3 (.int .i64)]⟩
def zqh1 : List (AExit × View) := [(.exit 4, ⟨0, [0, 6, 8, 38, 39], [(false, [.data (.int .i64)]), (false, [.math 0]), (false, [.data (.int .i64)]), (false, [.data (.int .i64)]), (false, [.data (.int .i64)])], [.mat 22 3 (.int .i64)]⟩)]
@[reducible] def constraint_Close_p4_G (p : zqgz) {β : Type} (d : zqh0.den) (ks : Outs.K β zqh1) : Option β :=
  p (fun a0 a1 a2 a3 a4 => ks.1 (((a0, ()), (), (a1, ()), (a2, ()), (a3, ()), ()), (a4, ()))) d.1.1.1 d.1.2.2.1.1 d.1.2.2.2.1.1 d.1.2.2.2.2.1.1 d.1.2.2.2.2.2.1.1 d.1.2.2.2.2.2.2.1.1 d.2.1
abbrev zqh2 (β : Type) := Bool → (List (List Int)) → Option β
abbrev zqh3 (β : Type) := Int → (List (List Int)) → Option β
abbrev zqh4 := {β : Type} → zqh2 β → zqh3 β → Int → Int → Int → (List (List Int)) → Option β
def zqh5 : View := ⟨0, [0, 6, 38, 39], [(false, [.data (.int .i64)]), (false, [.math 0]), (false, [.data (.int .i64)]), (false, [.data (.int .i64)])], [.mat 22 3 (.int .i64)]⟩
def zqh6 : List (AExit × View) := [(.ret, ⟨0, [4, 5], [(false, [.math 0]), (false, [.data .bool])], [.mat 22 3 (.int .i64)]⟩), (.exit 2, ⟨0, [0, 6], [(false, [.data (.int .i64)]), (false, [.math 0])], [.mat 22 3 (.int .i64)]⟩)]
@[reducible] def constraint_Close_p5_G (p : zqh4) {β : Type} (d : zqh5.den) (ks : Outs.K β zqh6) : Option β :=
  p (fun a0 a1 => ks.1 (((), (a0, ()), ()), (a1, ()))) (fun a0 a1 => ks.2.1 (((a0, ()), (), ()), (a1, ()))) d.1.1.1 d.1.2.2.1.1 d.1.2.2.2.1.1 d.2.1
abbrev zqh7 (β : Type) := Bool → (List (List Int)) → Option β
abbrev zqh8 (β : Type) := (List (List Int)) → Option β
abbrev zqh9 := {β : Type} → zqh7 β → zqh8 β → Int → Int → (List (List Int)) → Option β
def zqha : View := ⟨0, [6, 108, 109], [(false, [.math 0]), (false, [.data (.int .i64)]), (false, [.data (.int .i64)])], [.mat 22 3 (.int .i64)]⟩
def zqhb : List (AExit × View) := [(.ret, ⟨0, [4, 5], [(false, [.math 0]), (false, [.data .bool])], [.mat 22 3 (.int .i64)]⟩), (.exit 8, ⟨0, [6], [(false, [.math 0])], [.mat 22 3 (.int .i64)]⟩)]
@[reducible] def constraint_Close_p6_G (p : zqh9) {β : Type} (d : zqha.den) (ks : Outs.K β zqhb) : Option β :=
  p (fun a0 a1 => ks.1 (((), (a0, ()), ()), (a1, ()))) (fun a0 => ks.2.1 (((), ()), (a0, ()))) d.1.2.1.1 d.1.2.2.1.1 d.2.1
section
variable (c_constraint_Valid : zqgd) (c_constraint_direct : zq4s)
@[reducible] def constraint_Close_X : Ctx := ⟨look tab, pick1 [(60, .spec (zqge c_constraint_Valid)), (61, .spec (zq4t c_constraint_direct))], true, false, false, false⟩
def zqhc {β : Type} (rec : Int → Int → Int → (List (List Int)) → Option β) (k1 : zqgm β) (n : Int) (t19 : Int) (t20 : Int) (m : List (List Int)) : Option β :=
  cond (decide (t20 < t19))
  (cond (decide (0 ≤ t20) && decide (t20 < (List.length m : Int)))
  (cond (decide (0 ≤ t20) && decide (t20 < (List.length m : Int)))
  (cond (decide (0 ≤ t20) && decide (t20 < (List.length (List.getD m (Int.toNat t20) []) : Int)))
  (cond (decide (0 ≤ t20) && decide (t20 < (List.length (List.getD m (Int.toNat t20) []) : Int)))
  (let m_ : List (List Int) := (List.set m (Int.toNat t20) (List.set (List.getD m (Int.toNat t20) []) (Int.toNat t20) (if (0 : Int) < (List.getD (List.getD m (Int.toNat t20) []) (Int.toNat t20) (0 : Int)) then (0 : Int) else (List.getD (List.getD m (Int.toNat t20) []) (Int.toNat t20) (0 : Int)))));
  rec n t19 (IntKind.i64.wrap (t20 + (1 : Int))) m_)
  none)
  none)
  none)
  none)
  (k1 n m)
def zqhd {β : Type} : Nat → zqgm β → Int → Int → Int → (List (List Int)) → Option β
  | 0 => fun _ _ _ _ _ => none
  | i + 1 => fun k1 n t19 t20 m => zqhc (zqhd i k1) k1 n t19 t20 m
theorem zqhe (hΓ : ΓOk Tryd.prog (constraint_Close_X c_constraint_Valid c_constraint_direct).Γ) (i : Nat) : PieceOk Tryd.prog 122 0 constraint_Close_p1_code zqgo zqgp (constraint_Close_p1_G (zqhd i)) := by
  rw [show constraint_Close_p1_code = .loop (loopBody constraint_Close_p1_code) by kernel_rfl]
  exact piece_loop (X := (constraint_Close_X c_constraint_Valid c_constraint_direct)) (p := 1) (Λ := pick1 []) (G := fun i => @fun β d ks => constraint_Close_p1_G (zqhd i) d ks) mixed tab_ok hΓ rfl (by kernel_rfl) CutsOk_nil (fun _ _ => rfl) (fun i => @fun β d ks r h => Eq.trans (b := constraint_Close_p1_G (zqhd (i + 1)) d ks) (by kernel_rfl) h) i
def zqhf {β : Type} (k1 : zqgq β) (n : Int) (k_ : Int) (i_ : Int) (j : Int) (t38 : Int) (t39 : Int) (t42 : Int) (t43 : Int) (t46 : Int) (t47 : Int) (t67 : Bool) (m : List (List Int)) : Option β :=
  cond t67
  (cond (decide (0 ≤ i_) && decide (i_ < (List.length m : Int)))
  (cond (decide (0 ≤ i_) && decide (i_ < (List.length m : Int)))
  (cond (decide (0 ≤ j) && decide (j < (List.length (List.getD m (Int.toNat i_) []) : Int)))
  (cond (decide (0 ≤ i_) && decide (i_ < (List.length m : Int)))
  (cond (decide (0 ≤ k_) && decide (k_ < (List.length (List.getD m (Int.toNat i_) []) : Int)))
  (cond (decide (0 ≤ k_) && decide (k_ < (List.length m : Int)))
  (cond (decide (0 ≤ j) && decide (j < (List.length (List.getD m (Int.toNat k_) []) : Int)))
  (cond (decide (0 ≤ j) && decide (j < (List.length (List.getD m (Int.toNat i_) []) : Int)))
  (let m_ : List (List Int) := (List.set m (Int.toNat i_) (List.set (List.getD m (Int.toNat i_) []) (Int.toNat j) (if (IntKind.i64.wrap ((List.getD (List.getD m (Int.toNat i_) []) (Int.toNat k_) (0 : Int)) + (List.getD (List.getD m (Int.toNat k_) []) (Int.toNat j) (0 : Int)))) < (List.getD (List.getD m (Int.toNat i_) []) (Int.toNat j) (0 : Int)) then (IntKind.i64.wrap ((List.getD (List.getD m (Int.toNat i_) []) (Int.toNat k_) (0 : Int)) + (List.getD (List.getD m (Int.toNat k_) []) (Int.toNat j) (0 : Int)))) else (List.getD (List.getD m (Int.toNat i_) []) (Int.toNat j) (0 : Int)))));
  k1 n k_ i_ t38 t39 t42 t43 t46 t47 m_)
  none)
  none)
  none)
  none)
  none)
  none)
  none)
  none)
  (k1 n k_ i_ t38 t39 t42 t43 t46 t47 m)
def zqhg {β : Type} (k1 : zqgq β) (n : Int) (k_ : Int) (i_ : Int) (j : Int) (t38 : Int) (t39 : Int) (t42 : Int) (t43 : Int) (t46 : Int) (t47 : Int) (t67 : Bool) (m : List (List Int)) : Option β := zqhf k1 n k_ i_ j t38 t39 t42 t43 t46 t47 t67 m
theorem zqhh (hΓ : ΓOk Tryd.prog (constraint_Close_X c_constraint_Valid c_constraint_direct).Γ) : PieceOk Tryd.prog 122 0 constraint_Close_p2_code zqgs zqgt (constraint_Close_p2_G (zqhg)) :=
  piece_exec (X := (constraint_Close_X c_constraint_Valid c_constraint_direct)) (p := 115) (Λ := pick1 []) mixed tab_ok hΓ (by kernel_rfl) CutsOk_nil (fun d ks r h => Eq.trans (b := constraint_Close_p2_G (zqhg) d ks) (by kernel_rfl) h)
def zqhi (p2 : zqgr) {β : Type} (rec : Int → Int → Int → Int → Int → Int → Int → Int → Int → (List (List Int)) → Option β) (k1 : zqgu β) (n : Int) (k_ : Int) (i_ : Int) (t38 : Int) (t39 : Int) (t42 : Int) (t43 : Int) (t46 : Int) (t47 : Int) (m : List (List Int)) : Option β :=
  cond (decide (t47 < t46))
  (cond (decide (0 ≤ i_) && decide (i_ < (List.length m : Int)))
  (cond (decide (0 ≤ k_) && decide (k_ < (List.length (List.getD m (Int.toNat i_) []) : Int)))
  (cond (!decide ((List.getD (List.getD m (Int.toNat i_) []) (Int.toNat k_) (0 : Int)) = (1099511627776 : Int)))
  (cond (decide (0 ≤ k_) && decide (k_ < (List.length m : Int)))
  (cond (decide (0 ≤ t47) && decide (t47 < (List.length (List.getD m (Int.toNat k_) []) : Int)))
  (p2 (fun (n2 : Int) (k_2 : Int) (i_2 : Int) (t382 : Int) (t392 : Int) (t422 : Int) (t432 : Int) (t462 : Int) (t472 : Int) (m2 : List (List Int)) =>
  rec n2 k_2 i_2 t382 t392 t422 t432 t462 (IntKind.i64.wrap (t472 + (1 : Int))) m2) n k_ i_ t47 t38 t39 t42 t43 t46 t47 (!decide ((List.getD (List.getD m (Int.toNat k_) []) (Int.toNat t47) (0 : Int)) = (1099511627776 : Int))) m)
  none)
  none)
  (p2 (fun (n2 : Int) (k_2 : Int) (i_2 : Int) (t382 : Int) (t392 : Int) (t422 : Int) (t432 : Int) (t462 : Int) (t472 : Int) (m2 : List (List Int)) =>
  rec n2 k_2 i_2 t382 t392 t422 t432 t462 (IntKind.i64.wrap (t472 + (1 : Int))) m2) n k_ i_ t47 t38 t39 t42 t43 t46 t47 false m))
  none)
  none)
  (k1 n k_ t38 t39 t42 t43 m)
def zqhj (p2 : zqgr) {β : Type} : Nat → zqgu β → Int → Int → Int → Int → Int → Int → Int → Int → Int → (List (List Int)) → Option β
  | 0 => fun _ _ _ _ _ _ _ _ _ _ _ => none
  | i + 1 => fun k1 n k_ i_ t38 t39 t42 t43 t46 t47 m => zqhi p2 (zqhj p2 i k1) k1 n k_ i_ t38 t39 t42 t43 t46 t47 m
theorem zqhk (hΓ : ΓOk Tryd.prog (constraint_Close_X c_constraint_Valid c_constraint_direct).Γ) (p2 : zqgr) (hp2 : PieceOk Tryd.prog 122 0 constraint_Close_p2_code zqgs zqgt (constraint_Close_p2_G p2)) (i : Nat) : PieceOk Tryd.prog 122 0 constraint_Close_p3_code zqgw zqgx (constraint_Close_p3_G (zqhj p2 i)) := by
  rw [show constraint_Close_p3_code = .loop (loopBody constraint_Close_p3_code) by kernel_rfl]
  exact piece_loop (X := (constraint_Close_X c_constraint_Valid c_constraint_direct)) (p := 1) (Λ := pick1 [(115, pieceCut zqgs zqgt (constraint_Close_p2_G p2))]) (G := fun i => @fun β d ks => constraint_Close_p3_G (zqhj p2 i) d ks) mixed tab_ok hΓ rfl (by kernel_rfl) (CutsOk_cons (q := 115) (c' := constraint_Close_p2_code) (by kernel_rfl) rfl hp2 CutsOk_nil) (fun _ _ => rfl) (fun i => @fun β d ks r h => Eq.trans (b := constraint_Close_p3_G (zqhj p2 (i + 1)) d ks) (by kernel_rfl) h) i
def zqhl (p3 : zqgv) {β : Type} (rec : Int → Int → Int → Int → Int → Int → (List (List Int)) → Option β) (k1 : zqgy β) (n : Int) (k_ : Int) (t38 : Int) (t39 : Int) (t42 : Int) (t43 : Int) (m : List (List Int)) : Option β :=
  cond (decide (t43 < t42))
  (p3 (fun (n2 : Int) (k_2 : Int) (t382 : Int) (t392 : Int) (t422 : Int) (t432 : Int) (m2 : List (List Int)) =>
  rec n2 k_2 t382 t392 t422 (IntKind.i64.wrap (t432 + (1 : Int))) m2) n k_ t43 t38 t39 t42 t43 n (0 : Int) m)
  (k1 n k_ t38 t39 m)
def zqhm (p3 : zqgv) {β : Type} : Nat → zqgy β → Int → Int → Int → Int → Int → Int → (List (List Int)) → Option β
  | 0 => fun _ _ _ _ _ _ _ _ => none
  | i + 1 => fun k1 n k_ t38 t39 t42 t43 m => zqhl p3 (zqhm p3 i k1) k1 n k_ t38 t39 t42 t43 m
theorem zqhn (hΓ : ΓOk Tryd.prog (constraint_Close_X c_constraint_Valid c_constraint_direct).Γ) (p3 : zqgv) (hp3 : PieceOk Tryd.prog 122 0 constraint_Close_p3_code zqgw zqgx (constraint_Close_p3_G p3)) (i : Nat) : PieceOk Tryd.prog 122 0 constraint_Close_p4_code zqh0 zqh1 (constraint_Close_p4_G (zqhm p3 i)) := by
  rw [show constraint_Close_p4_code = .loop (loopBody constraint_Close_p4_code) by kernel_rfl]
  exact piece_loop (X := (constraint_Close_X c_constraint_Valid c_constraint_direct)) (p := 1) (Λ := pick1 [(230, pieceCut zqgw zqgx (constraint_Close_p3_G p3))]) (G := fun i => @fun β d ks => constraint_Close_p4_G (zqhm p3 i) d ks) mixed tab_ok hΓ rfl (by kernel_rfl) (CutsOk_cons (q := 230) (c' := constraint_Close_p3_code) (by kernel_rfl) rfl hp3 CutsOk_nil) (fun _ _ => rfl) (fun i => @fun β d ks r h => Eq.trans (b := constraint_Close_p4_G (zqhm p3 (i + 1)) d ks) (by kernel_rfl) h) i
def zqho (p4 : zqgz) {β : Type} (rec : Int → Int → Int → (List (List Int)) → Option β) (k1 : zqh2 β) (k2 : zqh3 β) (n : Int) (t38 : Int) (t39 : Int) (m : List (List Int)) : Option β :=
  cond (decide (t39 < t38))
  (p4 (fun (n2 : Int) (k_ : Int) (t382 : Int) (t392 : Int) (m2 : List (List Int)) =>
  cond (decide (0 ≤ k_) && decide (k_ < (List.length m2 : Int)))
  (cond (decide (0 ≤ k_) && decide (k_ < (List.length (List.getD m2 (Int.toNat k_) []) : Int)))
  (cond (decide ((List.getD (List.getD m2 (Int.toNat k_) []) (Int.toNat k_) (0 : Int)) < (0 : Int)))
  (k1 false ([] : List (List Int)))
  (rec n2 t382 (IntKind.i64.wrap (t392 + (1 : Int))) m2))
  none)
  none) n t39 t38 t39 n (0 : Int) m)
  (k2 n m)
def zqhp (p4 : zqgz) {β : Type} : Nat → zqh2 β → zqh3 β → Int → Int → Int → (List (List Int)) → Option β
  | 0 => fun _ _ _ _ _ _ => none
  | i + 1 => fun k1 k2 n t38 t39 m => zqho p4 (zqhp p4 i k1 k2) k1 k2 n t38 t39 m
theorem zqhq (hΓ : ΓOk Tryd.prog (constraint_Close_X c_constraint_Valid c_constraint_direct).Γ) (p4 : zqgz) (hp4 : PieceOk Tryd.prog 122 0 constraint_Close_p4_code zqh0 zqh1 (constraint_Close_p4_G p4)) (i : Nat) : PieceOk Tryd.prog 122 0 constraint_Close_p5_code zqh5 zqh6 (constraint_Close_p5_G (zqhp p4 i)) := by
  rw [show constraint_Close_p5_code = .loop (loopBody constraint_Close_p5_code) by kernel_rfl]
  exact piece_loop (X := (constraint_Close_X c_constraint_Valid c_constraint_direct)) (p := 1) (Λ := pick1 [(458, pieceCut zqh0 zqh1 (constraint_Close_p4_G p4))]) (G := fun i => @fun β d ks => constraint_Close_p5_G (zqhp p4 i) d ks) mixed tab_ok hΓ rfl (by kernel_rfl) (CutsOk_cons (q := 458) (c' := constraint_Close_p4_code) (by kernel_rfl) rfl hp4 CutsOk_nil) (fun _ _ => rfl) (fun i => @fun β d ks r h => Eq.trans (b := constraint_Close_p5_G (zqhp p4 (i + 1)) d ks) (by kernel_rfl) h) i
def zqhr {β : Type} (rec : Int → Int → (List (List Int)) → Option β) (k1 : zqh7 β) (k2 : zqh8 β) (t108 : Int) (t109 : Int) (m : List (List Int)) : Option β :=
  cond (decide (t109 < t108))
  (cond (decide (0 ≤ t109) && decide (t109 < (List.length m : Int)))
  (cond (decide (0 ≤ t109) && decide (t109 < (List.length (List.getD m (Int.toNat t109) []) : Int)))
  (cond (decide ((List.getD (List.getD m (Int.toNat t109) []) (Int.toNat t109) (0 : Int)) < (0 : Int)))
  (k1 false ([] : List (List Int)))
  (rec t108 (IntKind.i64.wrap (t109 + (1 : Int))) m))
  none)
  none)
  (k2 m)
def zqhs {β : Type} : Nat → zqh7 β → zqh8 β → Int → Int → (List (List Int)) → Option β
  | 0 => fun _ _ _ _ _ => none
  | i + 1 => fun k1 k2 t108 t109 m => zqhr (zqhs i k1 k2) k1 k2 t108 t109 m
theorem zqht (hΓ : ΓOk Tryd.prog (constraint_Close_X c_constraint_Valid c_constraint_direct).Γ) (i : Nat) : PieceOk Tryd.prog 122 0 constraint_Close_p6_code zqha zqhb (constraint_Close_p6_G (zqhs i)) := by
  rw [show constraint_Close_p6_code = .loop (loopBody constraint_Close_p6_code) by kernel_rfl]
  exact piece_loop (X := (constraint_Close_X c_constraint_Valid c_constraint_direct)) (p := 1) (Λ := pick1 []) (G := fun i => @fun β d ks => constraint_Close_p6_G (zqhs i) d ks) mixed tab_ok hΓ rfl (by kernel_rfl) CutsOk_nil (fun _ _ => rfl) (fun i => @fun β d ks r h => Eq.trans (b := constraint_Close_p6_G (zqhs (i + 1)) d ks) (by kernel_rfl) h) i
def zqhu (p1 : zqgn) (p5 : zqh4) (p6 : zqh9) {β : Type} (n : Int) (l : List (Int × (Int × Int))) (k : ((List (List Int)) → Bool → Option β)) : Option β :=
  c_constraint_Valid n l (fun (rValid : Bool) =>
  cond (!rValid)
  (k ([] : List (List Int)) false)
  (c_constraint_direct n l (fun (lrdirect : List (List Int)) =>
  p1 (fun (n2 : Int) (m : List (List Int)) =>
  p5 (fun (t5 : Bool) (t4 : List (List Int)) =>
  k t4 t5) (fun (n3 : Int) (m2 : List (List Int)) =>
  p6 (fun (t5 : Bool) (t4 : List (List Int)) =>
  k t4 t5) (fun (m3 : List (List Int)) =>
  k m3 true) n3 (0 : Int) m2) n2 n2 (0 : Int) m) n n (0 : Int) lrdirect)))
theorem zqhv (hΓ : ΓOk Tryd.prog (constraint_Close_X c_constraint_Valid c_constraint_direct).Γ) (p1 : zqgn) (p5 : zqh4) (p6 : zqh9) (hp1 : PieceOk Tryd.prog 122 0 constraint_Close_p1_code zqgo zqgp (constraint_Close_p1_G p1)) (hp5 : PieceOk Tryd.prog 122 0 constraint_Close_p5_code zqh5 zqh6 (constraint_Close_p5_G p5)) (hp6 : PieceOk Tryd.prog 122 0 constraint_Close_p6_code zqha zqhb (constraint_Close_p6_G p6)) : SpecOk Tryd.prog 47 (zqgl (zqhu c_constraint_Valid c_constraint_direct p1 p5 p6)) :=
  spec_exec (X := (constraint_Close_X c_constraint_Valid c_constraint_direct)) (Λ := pick1 [(122, pieceCut zqgo zqgp (constraint_Close_p1_G p1)), (250, pieceCut zqh5 zqh6 (constraint_Close_p5_G p5)), (506, pieceCut zqha zqhb (constraint_Close_p6_G p6))]) (rs := [.tmp 4, .tmp 5]) (c := bodyOf Tryd.f47) mixed tab_ok hΓ Tryd.func47 (by kernel_rfl) (by kernel_rfl) (by kernel_rfl) (by kernel_rfl) (CutsOk_cons (q := 122) (c' := constraint_Close_p1_code) (by kernel_rfl) rfl hp1 (CutsOk_cons (q := 250) (c' := constraint_Close_p5_code) (by kernel_rfl) rfl hp5 (CutsOk_cons (q := 506) (c' := constraint_Close_p6_code) (by kernel_rfl) rfl hp6 CutsOk_nil))) (fun x k r h => Eq.trans (b := (zqgl (zqhu c_constraint_Valid c_constraint_direct p1 p5 p6)).run x k) (by kernel_rfl) h)
end
theorem zqhwΓ : ΓOk Tryd.prog (pick1 [(60, .spec (zqge zqgi)), (61, .spec (zq4t zq5u))]) := (ΓOk_cons zqgj (ΓOk_cons zq5v ΓOk_nil))
def zqhx (m : Nat) : zqgn := zqhd m
theorem zqhy {β : Type} (i : Nat) (k1 n t19 t20 m) : (zqhx (i + 1) k1 n t19 t20 m : Option β) = zqhc (zqhx i k1) k1 n t19 t20 m := rfl
def zqhz : zqgn := zqhx fuel
theorem zqi0 : PieceOk Tryd.prog 122 0 constraint_Close_p1_code zqgo zqgp (constraint_Close_p1_G zqhz) := zqhe zqgi zq5u zqhwΓ fuel
def zqi1 : zqgr := zqhg
theorem zqi2 : PieceOk Tryd.prog 122 0 constraint_Close_p2_code zqgs zqgt (constraint_Close_p2_G zqi1) := zqhh zqgi zq5u zqhwΓ
def zqi3 (m : Nat) : zqgv := zqhj zqi1 m
theorem zqi4 {β : Type} (i : Nat) (k1 n k_ i_ t38 t39 t42 t43 t46 t47 m) : (zqi3 (i + 1) k1 n k_ i_ t38 t39 t42 t43 t46 t47 m : Option β) = zqhi zqi1 (zqi3 i k1) k1 n k_ i_ t38 t39 t42 t43 t46 t47 m := rfl
def zqi5 : zqgv := zqi3 fuel
theorem zqi6 : PieceOk Tryd.prog 122 0 constraint_Close_p3_code zqgw zqgx (constraint_Close_p3_G zqi5) := zqhk zqgi zq5u zqhwΓ zqi1 zqi2 fuel
def zqi7 (m : Nat) : zqgz := zqhm zqi5 m
theorem zqi8 {β : Type} (i : Nat) (k1 n k_ t38 t39 t42 t43 m) : (zqi7 (i + 1) k1 n k_ t38 t39 t42 t43 m : Option β) = zqhl zqi5 (zqi7 i k1) k1 n k_ t38 t39 t42 t43 m := rfl
def zqi9 : zqgz := zqi7 fuel
theorem zqia : PieceOk Tryd.prog 122 0 constraint_Close_p4_code zqh0 zqh1 (constraint_Close_p4_G zqi9) := zqhn zqgi zq5u zqhwΓ zqi5 zqi6 fuel
def zqib (m : Nat) : zqh4 := zqhp zqi9 m
theorem zqic {β : Type} (i : Nat) (k1 k2 n t38 t39 m) : (zqib (i + 1) k1 k2 n t38 t39 m : Option β) = zqho zqi9 (zqib i k1 k2) k1 k2 n t38 t39 m := rfl
def zqid : zqh4 := zqib fuel
theorem zqie : PieceOk Tryd.prog 122 0 constraint_Close_p5_code zqh5 zqh6 (constraint_Close_p5_G zqid) := zqhq zqgi zq5u zqhwΓ zqi9 zqia fuel
def zqif (m : Nat) : zqh9 := zqhs m
theorem zqig {β : Type} (i : Nat) (k1 k2 t108 t109 m) : (zqif (i + 1) k1 k2 t108 t109 m : Option β) = zqhr (zqif i k1 k2) k1 k2 t108 t109 m := rfl
def zqih : zqh9 := zqif fuel
theorem zqii : PieceOk Tryd.prog 122 0 constraint_Close_p6_code zqha zqhb (constraint_Close_p6_G zqih) := zqht zqgi zq5u zqhwΓ fuel
def zqij : zqgk := zqhu zqgi zq5u zqhz zqid zqih
theorem zqik : SpecOk Tryd.prog 47 (zqgl zqij) := zqhv zqgi zq5u zqhwΓ zqhz zqid zqih zqi0 zqie zqii

/-- pagewatch/order.closed -/
abbrev zqil := {β : Type} → zq2 → ((List (List Int)) → Bool → Option β) → Option β
def zqim (c : zqil) : Spec :=
  ⟨[(true, [.data zq3])], [], [(false, [.data (.slice (.slice (.int .i64)))]), (false, [.data .bool])], [], fun x k => c x.1.1.1 (fun r0 r1 => k (((r0, ()), (r1, ()), ()), ()))⟩
section
variable (c_constraint_Close : zqgk) (c_order_Constraints : zqeq)
@[reducible] def order_closed_X : Ctx := ⟨look tab, pick1 [(47, .spec (zqgl c_constraint_Close)), (46, .spec (zqer c_order_Constraints))], false, false, false, false⟩
def zqin {β : Type} (r_ : zq2) (k : ((List (List Int)) → Bool → Option β)) : Option β :=
  c_order_Constraints r_ (fun (rConstraints : Bool) (lrConstraints : List (Int × (Int × Int))) =>
  cond (!rConstraints)
  (k ([] : List (List Int)) false)
  (c_constraint_Close (IntKind.i64.wrap ((List.length r_.2.2.1 : Int) + (1 : Int))) lrConstraints (fun (rClose : List (List Int)) (rClose2 : Bool) =>
  k rClose rClose2)))
theorem zqio (hΓ : ΓOk Tryd.prog (order_closed_X c_constraint_Close c_order_Constraints).Γ) : SpecOk Tryd.prog 27 (zqim (zqin c_constraint_Close c_order_Constraints)) :=
  spec_exec (X := (order_closed_X c_constraint_Close c_order_Constraints)) (Λ := pick1 []) (rs := [.tmp 2, .tmp 3]) (c := bodyOf Tryd.f27) mixed tab_ok hΓ Tryd.func27 (by kernel_rfl) (by kernel_rfl) (by kernel_rfl) (by kernel_rfl) CutsOk_nil (fun x k r h => Eq.trans (b := (zqim (zqin c_constraint_Close c_order_Constraints)).run x k) (by kernel_rfl) h)
end
theorem zqipΓ : ΓOk Tryd.prog (pick1 [(47, .spec (zqgl zqij)), (46, .spec (zqer zqg4))]) := (ΓOk_cons zqik (ΓOk_cons zqg5 ΓOk_nil))
def zqiq : zqil := zqin zqij zqg4
theorem zqir : SpecOk Tryd.prog 27 (zqim zqiq) := zqio zqij zqg4 zqipΓ

/-- pagewatch/order.When -/
abbrev zqis := {β : Type} → zq2 → (Bool → (List (Int × Int)) → Option β) → Option β
def zqit (c : zqis) : Spec :=
  ⟨[(true, [.data zq3])], [], [(false, [.rowh 0]), (false, [.data .bool])], [.row 44 (.prod (.int .i64) (.int .i64))], fun x k => c x.1.1.1 (fun r0 r1 => k (((), (r0, ()), ()), (r1, ())))⟩
noncomputable def order_When_p1_code : Code := codeAt 250 (bodyOf Tryd.f30)
abbrev zqiu (β : Type) := (List (Int × Int)) → Option β
abbrev zqiv := {β : Type} → zqiu β → (List (List Int)) → Int → Int → (List (Int × Int)) → Option β
def zqiw : View := ⟨0, [4, 6, 17, 18], [(false, [.data (.slice (.slice (.int .i64)))]), (false, [.rowh 0]), (false, [.data (.int .i64)]), (false, [.data (.int .i64)])], [.row 44 (.prod (.int .i64) (.int .i64))]⟩
def zqix : List (AExit × View) := [(.exit 0, ⟨0, [6], [(false, [.rowh 0])], [.row 44 (.prod (.int .i64) (.int .i64))]⟩)]
@[reducible] def order_When_p1_G (p : zqiv) {β : Type} (d : zqiw.den) (ks : Outs.K β zqix) : Option β :=
  p (fun a0 => ks.1 (((), ()), (a0, ()))) d.1.1.1 d.1.2.2.1.1 d.1.2.2.2.1.1 d.2.1
section
variable (c_order_closed : zqil) (c_order_matrix_when : zq40)
@[reducible] def order_When_X : Ctx := ⟨look tab, pick1 [(27, .spec (zqim c_order_closed)), (48, .spec (zq41 c_order_matrix_when))], false, false, false, false⟩
def zqiy {β : Type} (rec : (List (List Int)) → Int → Int → (List (Int × Int)) → Option β) (k1 : zqiu β) (m : List (List Int)) (t17 : Int) (t18 : Int) (out : List (Int × Int)) : Option β :=
  cond (decide (t18 < t17))
  (c_order_matrix_when m t18 (fun (rwhen : (Int × Int)) =>
  let l : List (Int × Int) := ([rwhen] : List (Int × Int));
  cond (decide ((List.length out + List.length l) * 16 ≤ roomMax))
  (let l2 : List (Int × Int) := (out ++ l);
  rec m t17 (IntKind.i64.wrap (t18 + (1 : Int))) l2)
  none))
  (k1 out)
def zqiz {β : Type} : Nat → zqiu β → (List (List Int)) → Int → Int → (List (Int × Int)) → Option β
  | 0 => fun _ _ _ _ _ => none
  | i + 1 => fun k1 m t17 t18 out => zqiy c_order_matrix_when (zqiz i k1) k1 m t17 t18 out
theorem zqj0 (hΓ : ΓOk Tryd.prog (order_When_X c_order_closed c_order_matrix_when).Γ) (i : Nat) : PieceOk Tryd.prog 29 0 order_When_p1_code zqiw zqix (order_When_p1_G (zqiz c_order_matrix_when i)) := by
  rw [show order_When_p1_code = .loop (loopBody order_When_p1_code) by kernel_rfl]
  exact piece_loop (X := (order_When_X c_order_closed c_order_matrix_when)) (p := 1) (Λ := pick1 []) (G := fun i => @fun β d ks => order_When_p1_G (zqiz c_order_matrix_when i) d ks) mixed tab_ok hΓ rfl (by kernel_rfl) CutsOk_nil (fun _ _ => rfl) (fun i => @fun β d ks r h => Eq.trans (b := order_When_p1_G (zqiz c_order_matrix_when (i + 1)) d ks) (by kernel_rfl) h) i
def zqj1 (p1 : zqiv) {β : Type} (r_ : zq2) (k : (Bool → (List (Int × Int)) → Option β)) : Option β :=
  c_order_closed r_ (fun (rclosed : List (List Int)) (rclosed2 : Bool) =>
  cond (!rclosed2)
  (k false ([] : List (Int × Int)))
  (p1 (fun (out : List (Int × Int)) =>
  k true out) rclosed (List.length r_.2.2.1 : Int) (0 : Int) ([] : List (Int × Int))))
theorem zqj2 (hΓ : ΓOk Tryd.prog (order_When_X c_order_closed c_order_matrix_when).Γ) (p1 : zqiv) (hp1 : PieceOk Tryd.prog 29 0 order_When_p1_code zqiw zqix (order_When_p1_G p1)) : SpecOk Tryd.prog 30 (zqit (zqj1 c_order_closed p1)) :=
  spec_exec (X := (order_When_X c_order_closed c_order_matrix_when)) (Λ := pick1 [(250, pieceCut zqiw zqix (order_When_p1_G p1))]) (rs := [.tmp 2, .tmp 3]) (c := bodyOf Tryd.f30) mixed tab_ok hΓ Tryd.func30 (by kernel_rfl) (by kernel_rfl) (by kernel_rfl) (by kernel_rfl) (CutsOk_cons (q := 250) (c' := order_When_p1_code) (by kernel_rfl) rfl hp1 CutsOk_nil) (fun x k r h => Eq.trans (b := (zqit (zqj1 c_order_closed p1)).run x k) (by kernel_rfl) h)
end
theorem zqj3Γ : ΓOk Tryd.prog (pick1 [(27, .spec (zqim zqiq)), (48, .spec (zq41 zq45))]) := (ΓOk_cons zqir (ΓOk_cons zq46 ΓOk_nil))
def zqj4 (m : Nat) : zqiv := zqiz zq45 m
theorem zqj5 {β : Type} (i : Nat) (k1 m t17 t18 out) : (zqj4 (i + 1) k1 m t17 t18 out : Option β) = zqiy zq45 (zqj4 i k1) k1 m t17 t18 out := rfl
def zqj6 : zqiv := zqj4 fuel
theorem zqj7 : PieceOk Tryd.prog 29 0 order_When_p1_code zqiw zqix (order_When_p1_G zqj6) := zqj0 zqiq zq45 zqj3Γ fuel
def zqj8 : zqis := zqj1 zqiq zqj6
theorem zqj9 : SpecOk Tryd.prog 30 (zqit zqj8) := zqj2 zqiq zq45 zqj3Γ zqj6 zqj7

/-- pagewatch/order.Open -/
abbrev zqja := {β : Type} → zq2 → ((List (Int × Int)) → Option β) → Option β
def zqjb (c : zqja) : Spec :=
  ⟨[(true, [.data zq3])], [], [(false, [.rowh 0])], [.row 93 (.prod (.int .i64) (.int .i64))], fun x k => c x.1.1.1 (fun r0 => k (((), ()), (r0, ())))⟩
noncomputable def order_Open_p2_code : Code := codeAt 122 (bodyOf Tryd.f31)
noncomputable def order_Open_p1_code : Code := codeAt 230 (loopBody order_Open_p2_code)
abbrev zqjc (β : Type) := (List (List Int)) → Bool → Int → Int → (List (List UInt8 × Int)) → (List (Int × (Int × (Int × Int)))) → (List zq0) → (List (Int × (Int × Int))) → (List (Int × Int)) → Option β
abbrev zqjd := {β : Type} → zqjc β → (List (List Int)) → Bool → Int → Int → Int → Int → (List (List UInt8 × Int)) → (List (Int × (Int × (Int × Int)))) → (List zq0) → (List (Int × (Int × Int))) → (List (Int × Int)) → Option β
def zqje : View := ⟨0, [1, 3, 4, 5, 6, 7, 15, 16], [(false, [.ptr 0 0]), (false, [.data (.slice (.slice (.int .i64)))]), (false, [.data .bool]), (false, [.rowh 1]), (false, [.data (.int .i64)]), (false, [.data (.int .i64)]), (false, [.data (.int .i64)]), (false, [.data (.int .i64)])], [.cells 32 [.data (.slice (.prod .str (.int .i64))), .data (.slice (.prod (.int .i64) (.prod (.int .i64) (.prod (.int .i64) (.int .i64))))), .data (.slice zq1), .data (.slice (.prod (.int .i64) (.prod (.int .i64) (.int .i64))))], .row 93 (.prod (.int .i64) (.int .i64))]⟩
def zqjf : List (AExit × View) := [(.exit 2, ⟨0, [1, 3, 4, 5, 15, 16], [(false, [.ptr 0 0]), (false, [.data (.slice (.slice (.int .i64)))]), (false, [.data .bool]), (false, [.rowh 1]), (false, [.data (.int .i64)]), (false, [.data (.int .i64)])], [.cells 32 [.data (.slice (.prod .str (.int .i64))), .data (.slice (.prod (.int .i64) (.prod (.int .i64) (.prod (.int .i64) (.int .i64))))), .data (.slice zq1), .data (.slice (.prod (.int .i64) (.prod (.int .i64) (.int .i64))))], .row 93 (.prod (.int .i64) (.int .i64))]⟩)]
@[reducible] def order_Open_p1_G (p : zqjd) {β : Type} (d : zqje.den) (ks : Outs.K β zqjf) : Option β :=
  p (fun a0 a1 a2 a3 a4 a5 a6 a7 a8 => ks.1 (((), (a0, ()), (a1, ()), (), (a2, ()), (a3, ()), ()), ((a4, a5, a6, a7, ()), a8, ()))) d.1.2.1.1 d.1.2.2.1.1 d.1.2.2.2.2.1.1 d.1.2.2.2.2.2.1.1 d.1.2.2.2.2.2.2.1.1 d.1.2.2.2.2.2.2.2.1.1 d.2.1.1 d.2.1.2.1 d.2.1.2.2.1 d.2.1.2.2.2.1 d.2.2.1
abbrev zqjg (β : Type) := (List (Int × Int)) → Option β
abbrev zqjh := {β : Type} → zqjg β → (List (List Int)) → Bool → Int → Int → (List (List UInt8 × Int)) → (List (Int × (Int × (Int × Int)))) → (List zq0) → (List (Int × (Int × Int))) → (List (Int × Int)) → Option β
def zqji : View := ⟨0, [1, 3, 4, 5, 15, 16], [(false, [.ptr 0 0]), (false, [.data (.slice (.slice (.int .i64)))]), (false, [.data .bool]), (false, [.rowh 1]), (false, [.data (.int .i64)]), (false, [.data (.int .i64)])], [.cells 32 [.data (.slice (.prod .str (.int .i64))), .data (.slice (.prod (.int .i64) (.prod (.int .i64) (.prod (.int .i64) (.int .i64))))), .data (.slice zq1), .data (.slice (.prod (.int .i64) (.prod (.int .i64) (.int .i64))))], .row 93 (.prod (.int .i64) (.int .i64))]⟩
def zqjj : List (AExit × View) := [(.exit 0, ⟨0, [5], [(false, [.rowh 0])], [.row 93 (.prod (.int .i64) (.int .i64))]⟩)]
@[reducible] def order_Open_p2_G (p : zqjh) {β : Type} (d : zqji.den) (ks : Outs.K β zqjj) : Option β :=
  p (fun a0 => ks.1 (((), ()), (a0, ()))) d.1.2.1.1 d.1.2.2.1.1 d.1.2.2.2.2.1.1 d.1.2.2.2.2.2.1.1 d.2.1.1 d.2.1.2.1 d.2.1.2.2.1 d.2.1.2.2.2.1 d.2.2.1
section
variable (c_order_closed : zqil) (c_order_matrix_open : zq47)
@[reducible] def order_Open_X : Ctx := ⟨look tab, pick1 [(27, .spec (zqim c_order_closed)), (49, .spec (zq48 c_order_matrix_open))], false, false, false, false⟩
def zqjk {β : Type} (rec : (List (List Int)) → Bool → Int → Int → Int → Int → (List (List UInt8 × Int)) → (List (Int × (Int × (Int × Int)))) → (List zq0) → (List (Int × (Int × Int))) → (List (Int × Int)) → Option β) (k1 : zqjc β) (m : List (List Int)) (ok : Bool) (a : Int) (b : Int) (t15 : Int) (t16 : Int) (r_ : List (List UInt8 × Int)) (r_2 : List (Int × (Int × (Int × Int)))) (r_3 : List zq0) (r_4 : List (Int × (Int × Int))) (out : List (Int × Int)) : Option β :=
  cond (decide (b < (List.length r_3 : Int)))
  (cond ok
  (c_order_matrix_open m a b (fun (ropen : Bool) =>
  cond ropen
  (let l : List (Int × Int) := ([(a, b)] : List (Int × Int));
  cond (decide ((List.length out + List.length l) * 16 ≤ roomMax))
  (let l2 : List (Int × Int) := (out ++ l);
  let b2 : Int := (IntKind.i64.wrap (b + (1 : Int)));
  rec m ok a b2 t15 t16 r_ r_2 r_3 r_4 l2)
  none)
  (let b2 : Int := (IntKind.i64.wrap (b + (1 : Int)));
  rec m ok a b2 t15 t16 r_ r_2 r_3 r_4 out)))
  (k1 m ok t15 t16 r_ r_2 r_3 r_4 out))
  (k1 m ok t15 t16 r_ r_2 r_3 r_4 out)
def zqjl {β : Type} : Nat → zqjc β → (List (List Int)) → Bool → Int → Int → Int → Int → (List (List UInt8 × Int)) → (List (Int × (Int × (Int × Int)))) → (List zq0) → (List (Int × (Int × Int))) → (List (Int × Int)) → Option β
  | 0 => fun _ _ _ _ _ _ _ _ _ _ _ _ => none
  | i + 1 => fun k1 m ok a b t15 t16 r_ r_2 r_3 r_4 out => zqjk c_order_matrix_open (zqjl i k1) k1 m ok a b t15 t16 r_ r_2 r_3 r_4 out
theorem zqjm (hΓ : ΓOk Tryd.prog (order_Open_X c_order_closed c_order_matrix_open).Γ) (i : Nat) : PieceOk Tryd.prog 43 0 order_Open_p1_code zqje zqjf (order_Open_p1_G (zqjl c_order_matrix_open i)) := by
  rw [show order_Open_p1_code = .loop (loopBody order_Open_p1_code) by kernel_rfl]
  exact piece_loop (X := (order_Open_X c_order_closed c_order_matrix_open)) (p := 1) (Λ := pick1 []) (G := fun i => @fun β d ks => order_Open_p1_G (zqjl c_order_matrix_open i) d ks) mixed tab_ok hΓ rfl (by kernel_rfl) CutsOk_nil (fun _ _ => rfl) (fun i => @fun β d ks r h => Eq.trans (b := order_Open_p1_G (zqjl c_order_matrix_open (i + 1)) d ks) (by kernel_rfl) h) i
def zqjn (p1 : zqjd) {β : Type} (rec : (List (List Int)) → Bool → Int → Int → (List (List UInt8 × Int)) → (List (Int × (Int × (Int × Int)))) → (List zq0) → (List (Int × (Int × Int))) → (List (Int × Int)) → Option β) (k1 : zqjg β) (m : List (List Int)) (ok : Bool) (t15 : Int) (t16 : Int) (r_ : List (List UInt8 × Int)) (r_2 : List (Int × (Int × (Int × Int)))) (r_3 : List zq0) (r_4 : List (Int × (Int × Int))) (out : List (Int × Int)) : Option β :=
  cond (decide (t16 < t15))
  (let b : Int := (IntKind.i64.wrap (t16 + (1 : Int)));
  p1 (fun (m2 : List (List Int)) (ok2 : Bool) (t152 : Int) (t162 : Int) (r_5 : List (List UInt8 × Int)) (r_6 : List (Int × (Int × (Int × Int)))) (r_7 : List zq0) (r_8 : List (Int × (Int × Int))) (out2 : List (Int × Int)) =>
  rec m2 ok2 t152 (IntKind.i64.wrap (t162 + (1 : Int))) r_5 r_6 r_7 r_8 out2) m ok t16 b t15 t16 r_ r_2 r_3 r_4 out)
  (k1 out)
def zqjo (p1 : zqjd) {β : Type} : Nat → zqjg β → (List (List Int)) → Bool → Int → Int → (List (List UInt8 × Int)) → (List (Int × (Int × (Int × Int)))) → (List zq0) → (List (Int × (Int × Int))) → (List (Int × Int)) → Option β
  | 0 => fun _ _ _ _ _ _ _ _ _ _ => none
  | i + 1 => fun k1 m ok t15 t16 r_ r_2 r_3 r_4 out => zqjn p1 (zqjo p1 i k1) k1 m ok t15 t16 r_ r_2 r_3 r_4 out
theorem zqjp (hΓ : ΓOk Tryd.prog (order_Open_X c_order_closed c_order_matrix_open).Γ) (p1 : zqjd) (hp1 : PieceOk Tryd.prog 43 0 order_Open_p1_code zqje zqjf (order_Open_p1_G p1)) (i : Nat) : PieceOk Tryd.prog 43 0 order_Open_p2_code zqji zqjj (order_Open_p2_G (zqjo p1 i)) := by
  rw [show order_Open_p2_code = .loop (loopBody order_Open_p2_code) by kernel_rfl]
  exact piece_loop (X := (order_Open_X c_order_closed c_order_matrix_open)) (p := 1) (Λ := pick1 [(230, pieceCut zqje zqjf (order_Open_p1_G p1))]) (G := fun i => @fun β d ks => order_Open_p2_G (zqjo p1 i) d ks) mixed tab_ok hΓ rfl (by kernel_rfl) (CutsOk_cons (q := 230) (c' := order_Open_p1_code) (by kernel_rfl) rfl hp1 CutsOk_nil) (fun _ _ => rfl) (fun i => @fun β d ks r h => Eq.trans (b := order_Open_p2_G (zqjo p1 (i + 1)) d ks) (by kernel_rfl) h) i
def zqjq (p2 : zqjh) {β : Type} (r_ : zq2) (k : ((List (Int × Int)) → Option β)) : Option β :=
  c_order_closed r_ (fun (rclosed : List (List Int)) (rclosed2 : Bool) =>
  p2 (fun (out : List (Int × Int)) =>
  k out) rclosed rclosed2 (List.length r_.2.2.1 : Int) (0 : Int) r_.1 r_.2.1 r_.2.2.1 r_.2.2.2 ([] : List (Int × Int)))
theorem zqjr (hΓ : ΓOk Tryd.prog (order_Open_X c_order_closed c_order_matrix_open).Γ) (p2 : zqjh) (hp2 : PieceOk Tryd.prog 43 0 order_Open_p2_code zqji zqjj (order_Open_p2_G p2)) : SpecOk Tryd.prog 31 (zqjb (zqjq c_order_closed p2)) :=
  spec_exec (X := (order_Open_X c_order_closed c_order_matrix_open)) (Λ := pick1 [(122, pieceCut zqji zqjj (order_Open_p2_G p2))]) (rs := [.tmp 2]) (c := bodyOf Tryd.f31) mixed tab_ok hΓ Tryd.func31 (by kernel_rfl) (by kernel_rfl) (by kernel_rfl) (by kernel_rfl) (CutsOk_cons (q := 122) (c' := order_Open_p2_code) (by kernel_rfl) rfl hp2 CutsOk_nil) (fun x k r h => Eq.trans (b := (zqjb (zqjq c_order_closed p2)).run x k) (by kernel_rfl) h)
end
theorem zqjsΓ : ΓOk Tryd.prog (pick1 [(27, .spec (zqim zqiq)), (49, .spec (zq48 zq4c))]) := (ΓOk_cons zqir (ΓOk_cons zq4d ΓOk_nil))
def zqjt (m : Nat) : zqjd := zqjl zq4c m
theorem zqju {β : Type} (i : Nat) (k1 m ok a b t15 t16 r_ r_2 r_3 r_4 out) : (zqjt (i + 1) k1 m ok a b t15 t16 r_ r_2 r_3 r_4 out : Option β) = zqjk zq4c (zqjt i k1) k1 m ok a b t15 t16 r_ r_2 r_3 r_4 out := rfl
def zqjv : zqjd := zqjt fuel
theorem zqjw : PieceOk Tryd.prog 43 0 order_Open_p1_code zqje zqjf (order_Open_p1_G zqjv) := zqjm zqiq zq4c zqjsΓ fuel
def zqjx (m : Nat) : zqjh := zqjo zqjv m
theorem zqjy {β : Type} (i : Nat) (k1 m ok t15 t16 r_ r_2 r_3 r_4 out) : (zqjx (i + 1) k1 m ok t15 t16 r_ r_2 r_3 r_4 out : Option β) = zqjn zqjv (zqjx i k1) k1 m ok t15 t16 r_ r_2 r_3 r_4 out := rfl
def zqjz : zqjh := zqjx fuel
theorem zqk0 : PieceOk Tryd.prog 43 0 order_Open_p2_code zqji zqjj (order_Open_p2_G zqjz) := zqjp zqiq zq4c zqjsΓ zqjv zqjw fuel
def zqk1 : zqja := zqjq zqiq zqjz
theorem zqk2 : SpecOk Tryd.prog 31 (zqjb zqk1) := zqjr zqiq zq4c zqjsΓ zqjz zqk0

/-- pagewatch/order.Sort -/
abbrev zqk3 := {β : Type} → zq2 → (Bool → (List Int) → Option β) → Option β
def zqk4 (c : zqk3) : Spec :=
  ⟨[(true, [.data zq3])], [], [(false, [.rowh 0]), (false, [.data .bool])], [.row 3 (.int .i64)], fun x k => c x.1.1.1 (fun r0 r1 => k (((), (r0, ()), ()), (r1, ())))⟩
noncomputable def order_Sort_p3_code : Code := codeAt 506 (bodyOf Tryd.f15)
noncomputable def order_Sort_p2_code : Code := codeAt 458 (loopBody order_Sort_p3_code)
noncomputable def order_Sort_p1_code : Code := codeAt 922 (loopBody order_Sort_p2_code)
abbrev zqk5 (β : Type) := (List (List Int)) → Int → Int → Bool → Int → Int → Int → Int → (List (List UInt8 × Int)) → (List (Int × (Int × (Int × Int)))) → (List zq0) → (List (Int × (Int × Int))) → (List (Int × Bool)) → (List Int) → Option β
abbrev zqk6 := {β : Type} → zqk5 β → (List (List Int)) → Int → Int → Bool → Int → Int → Int → Int → Int → Int → (List (List UInt8 × Int)) → (List (Int × (Int × (Int × Int)))) → (List zq0) → (List (Int × (Int × Int))) → (List (Int × Bool)) → (List Int) → Option β
def zqk7 : View := ⟨0, [1, 4, 6, 7, 8, 9, 10, 22, 23, 27, 28, 37, 38], [(false, [.ptr 0 0]), (false, [.data (.slice (.slice (.int .i64)))]), (false, [.maph 1]), (false, [.rowh 2]), (false, [.data (.int .i64)]), (false, [.data (.int .i64)]), (false, [.data .bool]), (false, [.data (.int .i64)]), (false, [.data (.int .i64)]), (false, [.data (.int .i64)]), (false, [.data (.int .i64)]), (false, [.data (.int .i64)]), (false, [.data (.int .i64)])], [.cells 32 [.data (.slice (.prod .str (.int .i64))), .data (.slice (.prod (.int .i64) (.prod (.int .i64) (.prod (.int .i64) (.int .i64))))), .data (.slice zq1), .data (.slice (.prod (.int .i64) (.prod (.int .i64) (.int .i64))))], .map 85 (.int .i64) .bool false, .row 3 (.int .i64)]⟩
def zqk8 : List (AExit × View) := [(.exit 4, ⟨0, [1, 4, 6, 7, 8, 9, 10, 22, 23, 27, 28], [(false, [.ptr 0 0]), (false, [.data (.slice (.slice (.int .i64)))]), (false, [.maph 1]), (false, [.rowh 2]), (false, [.data (.int .i64)]), (false, [.data (.int .i64)]), (false, [.data .bool]), (false, [.data (.int .i64)]), (false, [.data (.int .i64)]), (false, [.data (.int .i64)]), (false, [.data (.int .i64)])], [.cells 32 [.data (.slice (.prod .str (.int .i64))), .data (.slice (.prod (.int .i64) (.prod (.int .i64) (.prod (.int .i64) (.int .i64))))), .data (.slice zq1), .data (.slice (.prod (.int .i64) (.prod (.int .i64) (.int .i64))))], .map 85 (.int .i64) .bool false, .row 3 (.int .i64)]⟩)]
@[reducible] def order_Sort_p1_G (p : zqk6) {β : Type} (d : zqk7.den) (ks : Outs.K β zqk8) : Option β :=
  p (fun a0 a1 a2 a3 a4 a5 a6 a7 a8 a9 a10 a11 a12 a13 => ks.1 (((), (a0, ()), (), (), (a1, ()), (a2, ()), (a3, ()), (a4, ()), (a5, ()), (a6, ()), (a7, ()), ()), ((a8, a9, a10, a11, ()), a12, a13, ()))) d.1.2.1.1 d.1.2.2.2.2.1.1 d.1.2.2.2.2.2.1.1 d.1.2.2.2.2.2.2.1.1 d.1.2.2.2.2.2.2.2.1.1 d.1.2.2.2.2.2.2.2.2.1.1 d.1.2.2.2.2.2.2.2.2.2.1.1 d.1.2.2.2.2.2.2.2.2.2.2.1.1 d.1.2.2.2.2.2.2.2.2.2.2.2.1.1 d.1.2.2.2.2.2.2.2.2.2.2.2.2.1.1 d.2.1.1 d.2.1.2.1 d.2.1.2.2.1 d.2.1.2.2.2.1 d.2.2.1 d.2.2.2.1
abbrev zqk9 (β : Type) := (List (List Int)) → Int → Int → Int → (List (List UInt8 × Int)) → (List (Int × (Int × (Int × Int)))) → (List zq0) → (List (Int × (Int × Int))) → (List (Int × Bool)) → (List Int) → Option β
abbrev zqka := {β : Type} → zqk9 β → (List (List Int)) → Int → Int → Int → Int → Int → (List (List UInt8 × Int)) → (List (Int × (Int × (Int × Int)))) → (List zq0) → (List (Int × (Int × Int))) → (List (Int × Bool)) → (List Int) → Option β
def zqkb : View := ⟨0, [1, 4, 6, 7, 8, 22, 23, 27, 28], [(false, [.ptr 0 0]), (false, [.data (.slice (.slice (.int .i64)))]), (false, [.maph 1]), (false, [.rowh 2]), (false, [.data (.int .i64)]), (false, [.data (.int .i64)]), (false, [.data (.int .i64)]), (false, [.data (.int .i64)]), (false, [.data (.int .i64)])], [.cells 32 [.data (.slice (.prod .str (.int .i64))), .data (.slice (.prod (.int .i64) (.prod (.int .i64) (.prod (.int .i64) (.int .i64))))), .data (.slice zq1), .data (.slice (.prod (.int .i64) (.prod (.int .i64) (.int .i64))))], .map 85 (.int .i64) .bool false, .row 3 (.int .i64)]⟩
def zqkc : List (AExit × View) := [(.exit 2, ⟨0, [1, 4, 6, 7, 8, 22, 23], [(false, [.ptr 0 0]), (false, [.data (.slice (.slice (.int .i64)))]), (false, [.maph 1]), (false, [.rowh 2]), (false, [.data (.int .i64)]), (false, [.data (.int .i64)]), (false, [.data (.int .i64)])], [.cells 32 [.data (.slice (.prod .str (.int .i64))), .data (.slice (.prod (.int .i64) (.prod (.int .i64) (.prod (.int .i64) (.int .i64))))), .data (.slice zq1), .data (.slice (.prod (.int .i64) (.prod (.int .i64) (.int .i64))))], .map 85 (.int .i64) .bool false, .row 3 (.int .i64)]⟩)]
@[reducible] def order_Sort_p2_G (p : zqka) {β : Type} (d : zqkb.den) (ks : Outs.K β zqkc) : Option β :=
  p (fun a0 a1 a2 a3 a4 a5 a6 a7 a8 a9 => ks.1 (((), (a0, ()), (), (), (a1, ()), (a2, ()), (a3, ()), ()), ((a4, a5, a6, a7, ()), a8, a9, ()))) d.1.2.1.1 d.1.2.2.2.2.1.1 d.1.2.2.2.2.2.1.1 d.1.2.2.2.2.2.2.1.1 d.1.2.2.2.2.2.2.2.1.1 d.1.2.2.2.2.2.2.2.2.1.1 d.2.1.1 d.2.1.2.1 d.2.1.2.2.1 d.2.1.2.2.2.1 d.2.2.1 d.2.2.2.1
abbrev zqkd (β : Type) := (List Int) → Option β
abbrev zqke := {β : Type} → zqkd β → (List (List Int)) → Int → Int → (List (List UInt8 × Int)) → (List (Int × (Int × (Int × Int)))) → (List zq0) → (List (Int × (Int × Int))) → (List (Int × Bool)) → (List Int) → Option β
def zqkf : View := ⟨0, [1, 4, 6, 7, 22, 23], [(false, [.ptr 0 0]), (false, [.data (.slice (.slice (.int .i64)))]), (false, [.maph 1]), (false, [.rowh 2]), (false, [.data (.int .i64)]), (false, [.data (.int .i64)])], [.cells 32 [.data (.slice (.prod .str (.int .i64))), .data (.slice (.prod (.int .i64) (.prod (.int .i64) (.prod (.int .i64) (.int .i64))))), .data (.slice zq1), .data (.slice (.prod (.int .i64) (.prod (.int .i64) (.int .i64))))], .map 85 (.int .i64) .bool false, .row 3 (.int .i64)]⟩
def zqkg : List (AExit × View) := [(.exit 0, ⟨0, [7], [(false, [.rowh 0])], [.row 3 (.int .i64)]⟩)]
@[reducible] def order_Sort_p3_G (p : zqke) {β : Type} (d : zqkf.den) (ks : Outs.K β zqkg) : Option β :=
  p (fun a0 => ks.1 (((), ()), (a0, ()))) d.1.2.1.1 d.1.2.2.2.2.1.1 d.1.2.2.2.2.2.1.1 d.2.1.1 d.2.1.2.1 d.2.1.2.2.1 d.2.1.2.2.2.1 d.2.2.1 d.2.2.2.1
section
variable (c_order_closed : zqil) (c_order_matrix_before : zq2c) (c_order_matrix_earlier : zq99)
@[reducible] def order_Sort_X : Ctx := ⟨look tab, pick1 [(27, .spec (zqim c_order_closed)), (28, .spec (zq2d c_order_matrix_before)), (29, .spec (zq9a c_order_matrix_earlier))], false, false, false, false⟩
def zqkh {β : Type} (rec : (List (List Int)) → Int → Int → Bool → Int → Int → Int → Int → Int → Int → (List (List UInt8 × Int)) → (List (Int × (Int × (Int × Int)))) → (List zq0) → (List (Int × (Int × Int))) → (List (Int × Bool)) → (List Int) → Option β) (k1 : zqk5 β) (m : List (List Int)) (next : Int) (i_ : Int) (free : Bool) (t22 : Int) (t23 : Int) (t27 : Int) (t28 : Int) (t37 : Int) (t38 : Int) (r_ : List (List UInt8 × Int)) (r_2 : List (Int × (Int × (Int × Int)))) (r_3 : List zq0) (r_4 : List (Int × (Int × Int))) (placed : List (Int × Bool)) (out : List Int) : Option β :=
  cond (decide (t38 < t37))
  (cond free
  (let g : Bool := (mGet (.int .i64) placed t38 false);
  cond g
  (rec m next i_ true t22 t23 t27 t28 t37 (IntKind.i64.wrap (t38 + (1 : Int))) r_ r_2 r_3 r_4 placed out)
  (c_order_matrix_before m t38 i_ (fun (rbefore : Bool) =>
  rec m next i_ (!rbefore) t22 t23 t27 t28 t37 (IntKind.i64.wrap (t38 + (1 : Int))) r_ r_2 r_3 r_4 placed out)))
  (rec m next i_ false t22 t23 t27 t28 t37 (IntKind.i64.wrap (t38 + (1 : Int))) r_ r_2 r_3 r_4 placed out))
  (k1 m next i_ free t22 t23 t27 t28 r_ r_2 r_3 r_4 placed out)
def zqki {β : Type} : Nat → zqk5 β → (List (List Int)) → Int → Int → Bool → Int → Int → Int → Int → Int → Int → (List (List UInt8 × Int)) → (List (Int × (Int × (Int × Int)))) → (List zq0) → (List (Int × (Int × Int))) → (List (Int × Bool)) → (List Int) → Option β
  | 0 => fun _ _ _ _ _ _ _ _ _ _ _ _ _ _ _ _ _ => none
  | i + 1 => fun k1 m next i_ free t22 t23 t27 t28 t37 t38 r_ r_2 r_3 r_4 placed out => zqkh c_order_matrix_before (zqki i k1) k1 m next i_ free t22 t23 t27 t28 t37 t38 r_ r_2 r_3 r_4 placed out
theorem zqkj (hΓ : ΓOk Tryd.prog (order_Sort_X c_order_closed c_order_matrix_before c_order_matrix_earlier).Γ) (i : Nat) : PieceOk Tryd.prog 76 0 order_Sort_p1_code zqk7 zqk8 (order_Sort_p1_G (zqki c_order_matrix_before i)) := by
  rw [show order_Sort_p1_code = .loop (loopBody order_Sort_p1_code) by kernel_rfl]
  exact piece_loop (X := (order_Sort_X c_order_closed c_order_matrix_before c_order_matrix_earlier)) (p := 1) (Λ := pick1 []) (G := fun i => @fun β d ks => order_Sort_p1_G (zqki c_order_matrix_before i) d ks) mixed tab_ok hΓ rfl (by kernel_rfl) CutsOk_nil (fun _ _ => rfl) (fun i => @fun β d ks r h => Eq.trans (b := order_Sort_p1_G (zqki c_order_matrix_before (i + 1)) d ks) (by kernel_rfl) h) i
def zqkk (p1 : zqk6) {β : Type} (rec : (List (List Int)) → Int → Int → Int → Int → Int → (List (List UInt8 × Int)) → (List (Int × (Int × (Int × Int)))) → (List zq0) → (List (Int × (Int × Int))) → (List (Int × Bool)) → (List Int) → Option β) (k1 : zqk9 β) (m : List (List Int)) (next : Int) (t22 : Int) (t23 : Int) (t27 : Int) (t28 : Int) (r_ : List (List UInt8 × Int)) (r_2 : List (Int × (Int × (Int × Int)))) (r_3 : List zq0) (r_4 : List (Int × (Int × Int))) (placed : List (Int × Bool)) (out : List Int) : Option β :=
  cond (decide (t28 < t27))
  (let g : Bool := (mGet (.int .i64) placed t28 false);
  p1 (fun (m2 : List (List Int)) (next2 : Int) (i_ : Int) (free : Bool) (t222 : Int) (t232 : Int) (t272 : Int) (t282 : Int) (r_5 : List (List UInt8 × Int)) (r_6 : List (Int × (Int × (Int × Int)))) (r_7 : List zq0) (r_8 : List (Int × (Int × Int))) (placed2 : List (Int × Bool)) (out2 : List Int) =>
  cond free
  (cond (decide (next2 < (0 : Int)))
  (rec m2 i_ t222 t232 t272 (IntKind.i64.wrap (t282 + (1 : Int))) r_5 r_6 r_7 r_8 placed2 out2)
  (c_order_matrix_earlier m2 i_ next2 (fun (rearlier : Bool) =>
  cond rearlier
  (rec m2 i_ t222 t232 t272 (IntKind.i64.wrap (t282 + (1 : Int))) r_5 r_6 r_7 r_8 placed2 out2)
  (rec m2 next2 t222 t232 t272 (IntKind.i64.wrap (t282 + (1 : Int))) r_5 r_6 r_7 r_8 placed2 out2))))
  (rec m2 next2 t222 t232 t272 (IntKind.i64.wrap (t282 + (1 : Int))) r_5 r_6 r_7 r_8 placed2 out2)) m next t28 (!g) t22 t23 t27 t28 (List.length r_3 : Int) (0 : Int) r_ r_2 r_3 r_4 placed out)
  (k1 m next t22 t23 r_ r_2 r_3 r_4 placed out)
def zqkl (p1 : zqk6) {β : Type} : Nat → zqk9 β → (List (List Int)) → Int → Int → Int → Int → Int → (List (List UInt8 × Int)) → (List (Int × (Int × (Int × Int)))) → (List zq0) → (List (Int × (Int × Int))) → (List (Int × Bool)) → (List Int) → Option β
  | 0 => fun _ _ _ _ _ _ _ _ _ _ _ _ _ => none
  | i + 1 => fun k1 m next t22 t23 t27 t28 r_ r_2 r_3 r_4 placed out => zqkk c_order_matrix_earlier p1 (zqkl p1 i k1) k1 m next t22 t23 t27 t28 r_ r_2 r_3 r_4 placed out
theorem zqkm (hΓ : ΓOk Tryd.prog (order_Sort_X c_order_closed c_order_matrix_before c_order_matrix_earlier).Γ) (p1 : zqk6) (hp1 : PieceOk Tryd.prog 76 0 order_Sort_p1_code zqk7 zqk8 (order_Sort_p1_G p1)) (i : Nat) : PieceOk Tryd.prog 76 0 order_Sort_p2_code zqkb zqkc (order_Sort_p2_G (zqkl c_order_matrix_earlier p1 i)) := by
  rw [show order_Sort_p2_code = .loop (loopBody order_Sort_p2_code) by kernel_rfl]
  exact piece_loop (X := (order_Sort_X c_order_closed c_order_matrix_before c_order_matrix_earlier)) (p := 1) (Λ := pick1 [(922, pieceCut zqk7 zqk8 (order_Sort_p1_G p1))]) (G := fun i => @fun β d ks => order_Sort_p2_G (zqkl c_order_matrix_earlier p1 i) d ks) mixed tab_ok hΓ rfl (by kernel_rfl) (CutsOk_cons (q := 922) (c' := order_Sort_p1_code) (by kernel_rfl) rfl hp1 CutsOk_nil) (fun _ _ => rfl) (fun i => @fun β d ks r h => Eq.trans (b := order_Sort_p2_G (zqkl c_order_matrix_earlier p1 (i + 1)) d ks) (by kernel_rfl) h) i
def zqkn (p2 : zqka) {β : Type} (rec : (List (List Int)) → Int → Int → (List (List UInt8 × Int)) → (List (Int × (Int × (Int × Int)))) → (List zq0) → (List (Int × (Int × Int))) → (List (Int × Bool)) → (List Int) → Option β) (k1 : zqkd β) (m : List (List Int)) (t22 : Int) (t23 : Int) (r_ : List (List UInt8 × Int)) (r_2 : List (Int × (Int × (Int × Int)))) (r_3 : List zq0) (r_4 : List (Int × (Int × Int))) (placed : List (Int × Bool)) (out : List Int) : Option β :=
  cond (decide (t23 < t22))
  (p2 (fun (m2 : List (List Int)) (next : Int) (t222 : Int) (t232 : Int) (r_5 : List (List UInt8 × Int)) (r_6 : List (Int × (Int × (Int × Int)))) (r_7 : List zq0) (r_8 : List (Int × (Int × Int))) (placed2 : List (Int × Bool)) (out2 : List Int) =>
  let m_ : List (Int × Bool) := (mPut (.int .i64) placed2 next true);
  let l : List Int := ([next] : List Int);
  cond (decide ((List.length out2 + List.length l) * 8 ≤ roomMax))
  (let l2 : List Int := (out2 ++ l);
  rec m2 t222 (IntKind.i64.wrap (t232 + (1 : Int))) r_5 r_6 r_7 r_8 m_ l2)
  none) m (-1 : Int) t22 t23 (List.length r_3 : Int) (0 : Int) r_ r_2 r_3 r_4 placed out)
  (k1 out)
def zqko (p2 : zqka) {β : Type} : Nat → zqkd β → (List (List Int)) → Int → Int → (List (List UInt8 × Int)) → (List (Int × (Int × (Int × Int)))) → (List zq0) → (List (Int × (Int × Int))) → (List (Int × Bool)) → (List Int) → Option β
  | 0 => fun _ _ _ _ _ _ _ _ _ _ => none
  | i + 1 => fun k1 m t22 t23 r_ r_2 r_3 r_4 placed out => zqkn p2 (zqko p2 i k1) k1 m t22 t23 r_ r_2 r_3 r_4 placed out
theorem zqkp (hΓ : ΓOk Tryd.prog (order_Sort_X c_order_closed c_order_matrix_before c_order_matrix_earlier).Γ) (p2 : zqka) (hp2 : PieceOk Tryd.prog 76 0 order_Sort_p2_code zqkb zqkc (order_Sort_p2_G p2)) (i : Nat) : PieceOk Tryd.prog 76 0 order_Sort_p3_code zqkf zqkg (order_Sort_p3_G (zqko p2 i)) := by
  rw [show order_Sort_p3_code = .loop (loopBody order_Sort_p3_code) by kernel_rfl]
  exact piece_loop (X := (order_Sort_X c_order_closed c_order_matrix_before c_order_matrix_earlier)) (p := 1) (Λ := pick1 [(458, pieceCut zqkb zqkc (order_Sort_p2_G p2))]) (G := fun i => @fun β d ks => order_Sort_p3_G (zqko p2 i) d ks) mixed tab_ok hΓ rfl (by kernel_rfl) (CutsOk_cons (q := 458) (c' := order_Sort_p2_code) (by kernel_rfl) rfl hp2 CutsOk_nil) (fun _ _ => rfl) (fun i => @fun β d ks r h => Eq.trans (b := order_Sort_p3_G (zqko p2 (i + 1)) d ks) (by kernel_rfl) h) i
def zqkq (p3 : zqke) {β : Type} (r_ : zq2) (k : (Bool → (List Int) → Option β)) : Option β :=
  c_order_closed r_ (fun (rclosed : List (List Int)) (rclosed2 : Bool) =>
  cond (!rclosed2)
  (k false ([] : List Int))
  (let m_ : List (Int × Bool) := ([] : List (Int × Bool));
  p3 (fun (out : List Int) =>
  k true out) rclosed (List.length r_.2.2.1 : Int) (0 : Int) r_.1 r_.2.1 r_.2.2.1 r_.2.2.2 m_ ([] : List Int)))
theorem zqkr (hΓ : ΓOk Tryd.prog (order_Sort_X c_order_closed c_order_matrix_before c_order_matrix_earlier).Γ) (p3 : zqke) (hp3 : PieceOk Tryd.prog 76 0 order_Sort_p3_code zqkf zqkg (order_Sort_p3_G p3)) : SpecOk Tryd.prog 15 (zqk4 (zqkq c_order_closed p3)) :=
  spec_exec (X := (order_Sort_X c_order_closed c_order_matrix_before c_order_matrix_earlier)) (Λ := pick1 [(506, pieceCut zqkf zqkg (order_Sort_p3_G p3))]) (rs := [.tmp 2, .tmp 3]) (c := bodyOf Tryd.f15) mixed tab_ok hΓ Tryd.func15 (by kernel_rfl) (by kernel_rfl) (by kernel_rfl) (by kernel_rfl) (CutsOk_cons (q := 506) (c' := order_Sort_p3_code) (by kernel_rfl) rfl hp3 CutsOk_nil) (fun x k r h => Eq.trans (b := (zqk4 (zqkq c_order_closed p3)).run x k) (by kernel_rfl) h)
end
theorem zqksΓ : ΓOk Tryd.prog (pick1 [(27, .spec (zqim zqiq)), (28, .spec (zq2d zq2h)), (29, .spec (zq9a zq9e))]) := (ΓOk_cons zqir (ΓOk_cons zq2i (ΓOk_cons zq9f ΓOk_nil)))
def zqkt (m : Nat) : zqk6 := zqki zq2h m
theorem zqku {β : Type} (i : Nat) (k1 m next i_ free t22 t23 t27 t28 t37 t38 r_ r_2 r_3 r_4 placed out) : (zqkt (i + 1) k1 m next i_ free t22 t23 t27 t28 t37 t38 r_ r_2 r_3 r_4 placed out : Option β) = zqkh zq2h (zqkt i k1) k1 m next i_ free t22 t23 t27 t28 t37 t38 r_ r_2 r_3 r_4 placed out := rfl
def zqkv : zqk6 := zqkt fuel
theorem zqkw : PieceOk Tryd.prog 76 0 order_Sort_p1_code zqk7 zqk8 (order_Sort_p1_G zqkv) := zqkj zqiq zq2h zq9e zqksΓ fuel
def zqkx (m : Nat) : zqka := zqkl zq9e zqkv m
theorem zqky {β : Type} (i : Nat) (k1 m next t22 t23 t27 t28 r_ r_2 r_3 r_4 placed out) : (zqkx (i + 1) k1 m next t22 t23 t27 t28 r_ r_2 r_3 r_4 placed out : Option β) = zqkk zq9e zqkv (zqkx i k1) k1 m next t22 t23 t27 t28 r_ r_2 r_3 r_4 placed out := rfl
def zqkz : zqka := zqkx fuel
theorem zql0 : PieceOk Tryd.prog 76 0 order_Sort_p2_code zqkb zqkc (order_Sort_p2_G zqkz) := zqkm zqiq zq2h zq9e zqksΓ zqkv zqkw fuel
def zql1 (m : Nat) : zqke := zqko zqkz m
theorem zql2 {β : Type} (i : Nat) (k1 m t22 t23 r_ r_2 r_3 r_4 placed out) : (zql1 (i + 1) k1 m t22 t23 r_ r_2 r_3 r_4 placed out : Option β) = zqkn zqkz (zql1 i k1) k1 m t22 t23 r_ r_2 r_3 r_4 placed out := rfl
def zql3 : zqke := zql1 fuel
theorem zql4 : PieceOk Tryd.prog 76 0 order_Sort_p3_code zqkf zqkg (order_Sort_p3_G zql3) := zqkp zqiq zq2h zq9e zqksΓ zqkz zql0 fuel
def zql5 : zqk3 := zqkq zqiq zql3
theorem zql6 : SpecOk Tryd.prog 15 (zqk4 zql5) := zqkr zqiq zq2h zq9e zqksΓ zql3 zql4

/-- pagewatch/timeline.rows -/
abbrev zql7 := {β : Type} → zq2 → (List Int) → ((List api_Row) → Option β) → Option β
def zql8 (c : zql7) : Spec :=
  ⟨[(true, [.data zq3]), (false, [.data (.slice (.int .i64))])], [], [(false, [.rowh 0])], [.row 46 zq4], fun x k => c x.1.1.1 x.1.2.1.1 (fun r0 => k (((), ()), (r0, ())))⟩
noncomputable def timeline_rows_p1_code : Code := codeAt 122 (bodyOf Tryd.f16)
noncomputable def timeline_rows_p3_code : Code := codeAt 506 (bodyOf Tryd.f16)
noncomputable def timeline_rows_p2_code : Code := codeAt 922 (loopBody timeline_rows_p3_code)
abbrev zql9 (β : Type) := (List Int) → (List (Int × Int)) → (List ((Int × Int) × Bool)) → Option β
abbrev zqla := {β : Type} → zql9 β → (List Int) → Int → Int → (List (Int × Int)) → (List ((Int × Int) × Bool)) → (List (Int × Int)) → Option β
def zqlb : View := ⟨0, [1, 5, 7, 23, 24, 25], [(false, [.data (.slice (.int .i64))]), (false, [.rowh 0]), (false, [.maph 1]), (false, [.rowh 2]), (false, [.data (.int .i64)]), (false, [.data (.int .i64)])], [.row 44 (.prod (.int .i64) (.int .i64)), .map 90 (.prod (.int .i64) (.int .i64)) .bool false, .row 93 (.prod (.int .i64) (.int .i64))]⟩
def zqlc : List (AExit × View) := [(.exit 0, ⟨0, [1, 5, 7], [(false, [.data (.slice (.int .i64))]), (false, [.rowh 0]), (false, [.maph 1])], [.row 44 (.prod (.int .i64) (.int .i64)), .map 90 (.prod (.int .i64) (.int .i64)) .bool false]⟩)]
@[reducible] def timeline_rows_p1_G (p : zqla) {β : Type} (d : zqlb.den) (ks : Outs.K β zqlc) : Option β :=
  p (fun a0 a1 a2 => ks.1 (((a0, ()), (), (), ()), (a1, a2, ()))) d.1.1.1 d.1.2.2.2.2.1.1 d.1.2.2.2.2.2.1.1 d.2.1 d.2.2.1 d.2.2.2.1
abbrev zqld (β : Type) := (List Int) → (List Int) → Int → Int → (List (Int × Int)) → (List ((Int × Int) × Bool)) → (List api_Row) → Int → Int → Int → (List Int) → Option β
abbrev zqle := {β : Type} → zqld β → (List Int) → Int → (List Int) → Int → Int → (List Int) → Int → Int → (List (Int × Int)) → (List ((Int × Int) × Bool)) → (List api_Row) → Int → Int → Int → (List Int) → Option β
def zqlf : View := ⟨0, [1, 5, 7, 10, 12, 13, 32, 33, 34, 47, 48, 49], [(false, [.data (.slice (.int .i64))]), (false, [.rowh 0]), (false, [.maph 1]), (false, [.rowh 2]), (false, [.data (.int .i64)]), (false, [.ptr 3 0]), (false, [.data (.slice (.int .i64))]), (false, [.data (.int .i64)]), (false, [.data (.int .i64)]), (false, [.data (.slice (.int .i64))]), (false, [.data (.int .i64)]), (false, [.data (.int .i64)])], [.row 44 (.prod (.int .i64) (.int .i64)), .map 90 (.prod (.int .i64) (.int .i64)) .bool false, .row 46 zq4, .cells 46 [.data (.int .i64), .data (.int .i64), .data (.int .i64), .rowh 4], .row 3 (.int .i64)]⟩
def zqlg : List (AExit × View) := [(.exit 4, ⟨0, [1, 5, 7, 10, 13, 32, 33, 34], [(false, [.data (.slice (.int .i64))]), (false, [.rowh 0]), (false, [.maph 1]), (false, [.rowh 2]), (false, [.ptr 3 0]), (false, [.data (.slice (.int .i64))]), (false, [.data (.int .i64)]), (false, [.data (.int .i64)])], [.row 44 (.prod (.int .i64) (.int .i64)), .map 90 (.prod (.int .i64) (.int .i64)) .bool false, .row 46 zq4, .cells 46 [.data (.int .i64), .data (.int .i64), .data (.int .i64), .rowh 4], .row 3 (.int .i64)]⟩)]
@[reducible] def timeline_rows_p2_G (p : zqle) {β : Type} (d : zqlf.den) (ks : Outs.K β zqlg) : Option β :=
  p (fun a0 a1 a2 a3 a4 a5 a6 a7 a8 a9 a10 => ks.1 (((a0, ()), (), (), (), (), (a1, ()), (a2, ()), (a3, ()), ()), (a4, a5, a6, (a7, a8, a9, ()), a10, ()))) d.1.1.1 d.1.2.2.2.2.1.1 d.1.2.2.2.2.2.2.1.1 d.1.2.2.2.2.2.2.2.1.1 d.1.2.2.2.2.2.2.2.2.1.1 d.1.2.2.2.2.2.2.2.2.2.1.1 d.1.2.2.2.2.2.2.2.2.2.2.1.1 d.1.2.2.2.2.2.2.2.2.2.2.2.1.1 d.2.1 d.2.2.1 d.2.2.2.1 d.2.2.2.2.1.1 d.2.2.2.2.1.2.1 d.2.2.2.2.1.2.2.1 d.2.2.2.2.2.1
abbrev zqlh (β : Type) := (List api_Row) → Option β
abbrev zqli := {β : Type} → zqlh β → (List Int) → (List Int) → Int → Int → (List (Int × Int)) → (List ((Int × Int) × Bool)) → (List api_Row) → Option β
def zqlj : View := ⟨0, [1, 5, 7, 10, 32, 33, 34], [(false, [.data (.slice (.int .i64))]), (false, [.rowh 0]), (false, [.maph 1]), (false, [.rowh 2]), (false, [.data (.slice (.int .i64))]), (false, [.data (.int .i64)]), (false, [.data (.int .i64)])], [.row 44 (.prod (.int .i64) (.int .i64)), .map 90 (.prod (.int .i64) (.int .i64)) .bool false, .row 46 zq4]⟩
def zqlk : List (AExit × View) := [(.exit 2, ⟨0, [10], [(false, [.rowh 0])], [.row 46 zq4]⟩)]
@[reducible] def timeline_rows_p3_G (p : zqli) {β : Type} (d : zqlj.den) (ks : Outs.K β zqlk) : Option β :=
  p (fun a0 => ks.1 (((), ()), (a0, ()))) d.1.1.1 d.1.2.2.2.2.1.1 d.1.2.2.2.2.2.1.1 d.1.2.2.2.2.2.2.1.1 d.2.1 d.2.2.1 d.2.2.2.1
section
variable (c_order_Open : zqja) (c_order_When : zqis)
@[reducible] def timeline_rows_X : Ctx := ⟨look tab, pick1 [(31, .spec (zqjb c_order_Open)), (30, .spec (zqit c_order_When)), (32, .rows zq2l)], false, false, false, false⟩
def zqll {β : Type} (rec : (List Int) → Int → Int → (List (Int × Int)) → (List ((Int × Int) × Bool)) → (List (Int × Int)) → Option β) (k1 : zql9 β) (l : List Int) (t24 : Int) (t25 : Int) (when : List (Int × Int)) (pairs : List ((Int × Int) × Bool)) (t23 : List (Int × Int)) : Option β :=
  cond (decide (t25 < t24))
  (cond (decide (0 ≤ t25) && decide (t25 < (List.length t23 : Int)))
  (let m_ : List ((Int × Int) × Bool) := (mPut (.prod (.int .i64) (.int .i64)) pairs ((List.getD t23 (Int.toNat t25) ((0 : Int), (0 : Int))).1, (List.getD t23 (Int.toNat t25) ((0 : Int), (0 : Int))).2) true);
  rec l t24 (IntKind.i64.wrap (t25 + (1 : Int))) when m_ t23)
  none)
  (k1 l when pairs)
def zqlm {β : Type} : Nat → zql9 β → (List Int) → Int → Int → (List (Int × Int)) → (List ((Int × Int) × Bool)) → (List (Int × Int)) → Option β
  | 0 => fun _ _ _ _ _ _ _ => none
  | i + 1 => fun k1 l t24 t25 when pairs t23 => zqll (zqlm i k1) k1 l t24 t25 when pairs t23
theorem zqln (hΓ : ΓOk Tryd.prog (timeline_rows_X c_order_Open c_order_When).Γ) (i : Nat) : PieceOk Tryd.prog 78 0 timeline_rows_p1_code zqlb zqlc (timeline_rows_p1_G (zqlm i)) := by
  rw [show timeline_rows_p1_code = .loop (loopBody timeline_rows_p1_code) by kernel_rfl]
  exact piece_loop (X := (timeline_rows_X c_order_Open c_order_When)) (p := 1) (Λ := pick1 []) (G := fun i => @fun β d ks => timeline_rows_p1_G (zqlm i) d ks) mixed tab_ok hΓ rfl (by kernel_rfl) CutsOk_nil (fun _ _ => rfl) (fun i => @fun β d ks r h => Eq.trans (b := timeline_rows_p1_G (zqlm (i + 1)) d ks) (by kernel_rfl) h) i
def zqlo {β : Type} (rec : (List Int) → Int → (List Int) → Int → Int → (List Int) → Int → Int → (List (Int × Int)) → (List ((Int × Int) × Bool)) → (List api_Row) → Int → Int → Int → (List Int) → Option β) (k1 : zqld β) (l : List Int) (x : Int) (t32 : List Int) (t33 : Int) (t34 : Int) (t47 : List Int) (t48 : Int) (t49 : Int) (when : List (Int × Int)) (pairs : List ((Int × Int) × Bool)) (out : List api_Row) (row : Int) (row2 : Int) (row3 : Int) (b4_ : List Int) : Option β :=
  cond (decide (t49 < t48))
  (cond (decide (0 ≤ t49) && decide (t49 < (List.length t47 : Int)))
  (let e : Int := List.getD t47 (Int.toNat t49) (0 : Int);
  let g : Bool := (mGet (.prod (.int .i64) (.int .i64)) pairs ((if e < x then e else x), (if e > x then e else x)) false);
  cond g
  (let l2 : List Int := ([e] : List Int);
  cond (decide ((List.length b4_ + List.length l2) * 8 ≤ roomMax))
  (let l3 : List Int := (b4_ ++ l2);
  rec l x t32 t33 t34 t47 t48 (IntKind.i64.wrap (t49 + (1 : Int))) when pairs out row row2 row3 l3)
  none)
  (rec l x t32 t33 t34 t47 t48 (IntKind.i64.wrap (t49 + (1 : Int))) when pairs out row row2 row3 b4_))
  none)
  (k1 l t32 t33 t34 when pairs out row row2 row3 b4_)
def zqlp {β : Type} : Nat → zqld β → (List Int) → Int → (List Int) → Int → Int → (List Int) → Int → Int → (List (Int × Int)) → (List ((Int × Int) × Bool)) → (List api_Row) → Int → Int → Int → (List Int) → Option β
  | 0 => fun _ _ _ _ _ _ _ _ _ _ _ _ _ _ _ _ => none
  | i + 1 => fun k1 l x t32 t33 t34 t47 t48 t49 when pairs out row row2 row3 b4_ => zqlo (zqlp i k1) k1 l x t32 t33 t34 t47 t48 t49 when pairs out row row2 row3 b4_
theorem zqlq (hΓ : ΓOk Tryd.prog (timeline_rows_X c_order_Open c_order_When).Γ) (i : Nat) : PieceOk Tryd.prog 78 0 timeline_rows_p2_code zqlf zqlg (timeline_rows_p2_G (zqlp i)) := by
  rw [show timeline_rows_p2_code = .loop (loopBody timeline_rows_p2_code) by kernel_rfl]
  exact piece_loop (X := (timeline_rows_X c_order_Open c_order_When)) (p := 1) (Λ := pick1 []) (G := fun i => @fun β d ks => timeline_rows_p2_G (zqlp i) d ks) mixed tab_ok hΓ rfl (by kernel_rfl) CutsOk_nil (fun _ _ => rfl) (fun i => @fun β d ks r h => Eq.trans (b := timeline_rows_p2_G (zqlp (i + 1)) d ks) (by kernel_rfl) h) i
def zqlr (p2 : zqle) {β : Type} (rec : (List Int) → (List Int) → Int → Int → (List (Int × Int)) → (List ((Int × Int) × Bool)) → (List api_Row) → Option β) (k1 : zqlh β) (l : List Int) (t32 : List Int) (t33 : Int) (t34 : Int) (when : List (Int × Int)) (pairs : List ((Int × Int) × Bool)) (out : List api_Row) : Option β :=
  cond (decide (t34 < t33))
  (cond (decide (0 ≤ t34) && decide (t34 < (List.length t32 : Int)))
  (let e : Int := List.getD t32 (Int.toNat t34) (0 : Int);
  cond (decide (0 ≤ e) && decide (e < (List.length when : Int)))
  (cond (decide (0 ≤ (0 : Int)) && (decide ((0 : Int) ≤ t34) && decide (t34 ≤ (List.length l : Int))))
  (p2 (fun (l2 : List Int) (t322 : List Int) (t332 : Int) (t342 : Int) (when2 : List (Int × Int)) (pairs2 : List ((Int × Int) × Bool)) (out2 : List api_Row) (row : Int) (row2 : Int) (row3 : Int) (b4_ : List Int) =>
  cond (decide (List.length b4_ < 4611686018427387904))
  (let l3 : List Int := (sortInts b4_);
  let l4 : List api_Row := ([(row, ((row2, row3), l3))] : List api_Row);
  cond (decide ((List.length out2 + List.length l4) * 48 ≤ roomMax))
  (let l5 : List api_Row := (out2 ++ l4);
  rec l2 t322 t332 (IntKind.i64.wrap (t342 + (1 : Int))) when2 pairs2 l5)
  none)
  none) l e t32 t33 t34 (List.drop (Int.toNat (0 : Int)) (List.take (Int.toNat t34) l)) (List.length (List.drop (Int.toNat (0 : Int)) (List.take (Int.toNat t34) l)) : Int) (0 : Int) when pairs out e ((List.getD when (Int.toNat e) ((0 : Int), (0 : Int))).1) ((List.getD when (Int.toNat e) ((0 : Int), (0 : Int))).2) ([] : List Int))
  none)
  none)
  none)
  (k1 out)
def zqls (p2 : zqle) {β : Type} : Nat → zqlh β → (List Int) → (List Int) → Int → Int → (List (Int × Int)) → (List ((Int × Int) × Bool)) → (List api_Row) → Option β
  | 0 => fun _ _ _ _ _ _ _ _ => none
  | i + 1 => fun k1 l t32 t33 t34 when pairs out => zqlr p2 (zqls p2 i k1) k1 l t32 t33 t34 when pairs out
theorem zqlt (hΓ : ΓOk Tryd.prog (timeline_rows_X c_order_Open c_order_When).Γ) (p2 : zqle) (hp2 : PieceOk Tryd.prog 78 0 timeline_rows_p2_code zqlf zqlg (timeline_rows_p2_G p2)) (i : Nat) : PieceOk Tryd.prog 78 0 timeline_rows_p3_code zqlj zqlk (timeline_rows_p3_G (zqls p2 i)) := by
  rw [show timeline_rows_p3_code = .loop (loopBody timeline_rows_p3_code) by kernel_rfl]
  exact piece_loop (X := (timeline_rows_X c_order_Open c_order_When)) (p := 1) (Λ := pick1 [(922, pieceCut zqlf zqlg (timeline_rows_p2_G p2))]) (G := fun i => @fun β d ks => timeline_rows_p3_G (zqls p2 i) d ks) mixed tab_ok hΓ rfl (by kernel_rfl) (CutsOk_cons (q := 922) (c' := timeline_rows_p2_code) (by kernel_rfl) rfl hp2 CutsOk_nil) (fun _ _ => rfl) (fun i => @fun β d ks r h => Eq.trans (b := timeline_rows_p3_G (zqls p2 (i + 1)) d ks) (by kernel_rfl) h) i
def zqlu (p1 : zqla) (p3 : zqli) {β : Type} (r_ : zq2) (l : List Int) (k : ((List api_Row) → Option β)) : Option β :=
  c_order_When r_ (fun (rWhen : Bool) (lrWhen : List (Int × Int)) =>
  let m_ : List ((Int × Int) × Bool) := ([] : List ((Int × Int) × Bool));
  c_order_Open r_ (fun (lrOpen : List (Int × Int)) =>
  p1 (fun (l2 : List Int) (when : List (Int × Int)) (pairs : List ((Int × Int) × Bool)) =>
  p3 (fun (out : List api_Row) =>
  k out) l2 l2 (List.length l2 : Int) (0 : Int) when pairs ([] : List api_Row)) l (List.length lrOpen : Int) (0 : Int) lrWhen m_ lrOpen))
theorem zqlv (hΓ : ΓOk Tryd.prog (timeline_rows_X c_order_Open c_order_When).Γ) (p1 : zqla) (p3 : zqli) (hp1 : PieceOk Tryd.prog 78 0 timeline_rows_p1_code zqlb zqlc (timeline_rows_p1_G p1)) (hp3 : PieceOk Tryd.prog 78 0 timeline_rows_p3_code zqlj zqlk (timeline_rows_p3_G p3)) : SpecOk Tryd.prog 16 (zql8 (zqlu c_order_Open c_order_When p1 p3)) :=
  spec_exec (X := (timeline_rows_X c_order_Open c_order_When)) (Λ := pick1 [(122, pieceCut zqlb zqlc (timeline_rows_p1_G p1)), (506, pieceCut zqlj zqlk (timeline_rows_p3_G p3))]) (rs := [.tmp 4]) (c := bodyOf Tryd.f16) mixed tab_ok hΓ Tryd.func16 (by kernel_rfl) (by kernel_rfl) (by kernel_rfl) (by kernel_rfl) (CutsOk_cons (q := 122) (c' := timeline_rows_p1_code) (by kernel_rfl) rfl hp1 (CutsOk_cons (q := 506) (c' := timeline_rows_p3_code) (by kernel_rfl) rfl hp3 CutsOk_nil)) (fun x k r h => Eq.trans (b := (zql8 (zqlu c_order_Open c_order_When p1 p3)).run x k) (by kernel_rfl) h)
end
theorem zqlwΓ : ΓOk Tryd.prog (pick1 [(31, .spec (zqjb zqk1)), (30, .spec (zqit zqj8)), (32, .rows zq2l)]) := (ΓOk_cons zqk2 (ΓOk_cons zqj9 (ΓOk_row zq2m ΓOk_nil)))
def zqlx (m : Nat) : zqla := zqlm m
theorem zqly {β : Type} (i : Nat) (k1 l t24 t25 when pairs t23) : (zqlx (i + 1) k1 l t24 t25 when pairs t23 : Option β) = zqll (zqlx i k1) k1 l t24 t25 when pairs t23 := rfl
def zqlz : zqla := zqlx fuel
theorem zqm0 : PieceOk Tryd.prog 78 0 timeline_rows_p1_code zqlb zqlc (timeline_rows_p1_G zqlz) := zqln zqk1 zqj8 zqlwΓ fuel
def zqm1 (m : Nat) : zqle := zqlp m
theorem zqm2 {β : Type} (i : Nat) (k1 l x t32 t33 t34 t47 t48 t49 when pairs out row row2 row3 b4_) : (zqm1 (i + 1) k1 l x t32 t33 t34 t47 t48 t49 when pairs out row row2 row3 b4_ : Option β) = zqlo (zqm1 i k1) k1 l x t32 t33 t34 t47 t48 t49 when pairs out row row2 row3 b4_ := rfl
def zqm3 : zqle := zqm1 fuel
theorem zqm4 : PieceOk Tryd.prog 78 0 timeline_rows_p2_code zqlf zqlg (timeline_rows_p2_G zqm3) := zqlq zqk1 zqj8 zqlwΓ fuel
def zqm5 (m : Nat) : zqli := zqls zqm3 m
theorem zqm6 {β : Type} (i : Nat) (k1 l t32 t33 t34 when pairs out) : (zqm5 (i + 1) k1 l t32 t33 t34 when pairs out : Option β) = zqlr zqm3 (zqm5 i k1) k1 l t32 t33 t34 when pairs out := rfl
def zqm7 : zqli := zqm5 fuel
theorem zqm8 : PieceOk Tryd.prog 78 0 timeline_rows_p3_code zqlj zqlk (timeline_rows_p3_G zqm7) := zqlt zqk1 zqj8 zqlwΓ zqm3 zqm4 fuel
def zqm9 : zql7 := zqlu zqk1 zqj8 zqlz zqm7
theorem zqma : SpecOk Tryd.prog 16 (zql8 zqm9) := zqlv zqk1 zqj8 zqlwΓ zqlz zqm7 zqm0 zqm8

/-- pagewatch/timeline.Rows -/
abbrev zqmb := {β : Type} → zq2 → (Bool → (List api_Row) → Option β) → Option β
def zqmc (c : zqmb) : Spec :=
  ⟨[(true, [.data zq3])], [], [(false, [.rowh 0]), (false, [.data .bool])], [.row 46 zq4], fun x k => c x.1.1.1 (fun r0 r1 => k (((), (r0, ()), ()), (r1, ())))⟩
section
variable (c_order_Sort : zqk3) (c_timeline_rows : zql7)
@[reducible] def timeline_Rows_X : Ctx := ⟨look tab, pick1 [(15, .spec (zqk4 c_order_Sort)), (16, .spec (zql8 c_timeline_rows))], false, false, false, false⟩
def zqmd {β : Type} (r_ : zq2) (k : (Bool → (List api_Row) → Option β)) : Option β :=
  c_order_Sort r_ (fun (rSort : Bool) (lrSort : List Int) =>
  cond (!rSort)
  (k false ([] : List api_Row))
  (c_timeline_rows r_ lrSort (fun (lrrows : List api_Row) =>
  k true lrrows)))
theorem zqme (hΓ : ΓOk Tryd.prog (timeline_Rows_X c_order_Sort c_timeline_rows).Γ) : SpecOk Tryd.prog 9 (zqmc (zqmd c_order_Sort c_timeline_rows)) :=
  spec_exec (X := (timeline_Rows_X c_order_Sort c_timeline_rows)) (Λ := pick1 []) (rs := [.tmp 2, .tmp 3]) (c := bodyOf Tryd.f9) mixed tab_ok hΓ Tryd.func9 (by kernel_rfl) (by kernel_rfl) (by kernel_rfl) (by kernel_rfl) CutsOk_nil (fun x k r h => Eq.trans (b := (zqmc (zqmd c_order_Sort c_timeline_rows)).run x k) (by kernel_rfl) h)
end
theorem zqmfΓ : ΓOk Tryd.prog (pick1 [(15, .spec (zqk4 zql5)), (16, .spec (zql8 zqm9))]) := (ΓOk_cons zql6 (ΓOk_cons zqma ΓOk_nil))
def zqmg : zqmb := zqmd zql5 zqm9
theorem zqmh : SpecOk Tryd.prog 9 (zqmc zqmg) := zqme zql5 zqm9 zqmfΓ

/-- slices.IndexFunc[[]int,int] -/
abbrev zqmi := {β : Type} → (List Int) → (List (List Int)) → Int → (Int → (List (List Int)) → Int → Option β) → Option β
def zqmj (c : zqmi) : Spec :=
  ⟨[(false, [.data (.slice (.int .i64))]), (false, [.fn 55 [0, 1]])], [.cells 82 [.data (.slice (.slice (.int .i64)))], .cells 3 [.data (.int .i64)]], [(false, [.data (.int .i64)])], [.cells 82 [.data (.slice (.slice (.int .i64)))], .cells 3 [.data (.int .i64)]], fun x k => c x.1.1.1 x.2.1.1 x.2.2.1.1 (fun r0 r1 r2 => k (((r0, ()), ()), ((r1, ()), (r2, ()), ())))⟩
noncomputable def slices_IndexFunc_int_int_vorder_Allows_f1_p1_code : Code := codeAt 26 (bodyOf Tryd.f74)
abbrev zqmk (β : Type) := Int → (List (List Int)) → Int → Option β
abbrev zqml (β : Type) := (List (List Int)) → Int → Option β
abbrev zqmm := {β : Type} → zqmk β → zqml β → (List Int) → Int → Int → (List (List Int)) → Int → Option β
def zqmn : View := ⟨2, [0, 1, 7, 8], [(false, [.data (.slice (.int .i64))]), (false, [.fn 55 [0, 1]]), (false, [.data (.int .i64)]), (false, [.data (.int .i64)])], [.cells 82 [.data (.slice (.slice (.int .i64)))], .cells 3 [.data (.int .i64)]]⟩
def zqmo : List (AExit × View) := [(.ret, ⟨2, [4], [(false, [.data (.int .i64)])], [.cells 82 [.data (.slice (.slice (.int .i64)))], .cells 3 [.data (.int .i64)]]⟩), (.exit 0, ⟨2, [], [], [.cells 82 [.data (.slice (.slice (.int .i64)))], .cells 3 [.data (.int .i64)]]⟩)]
@[reducible] def slices_IndexFunc_int_int_vorder_Allows_f1_p1_G (p : zqmm) {β : Type} (d : zqmn.den) (ks : Outs.K β zqmo) : Option β :=
  p (fun a0 a1 a2 => ks.1 (((a0, ()), ()), ((a1, ()), (a2, ()), ()))) (fun a0 a1 => ks.2.1 ((), ((a0, ()), (a1, ()), ()))) d.1.1.1 d.1.2.2.1.1 d.1.2.2.2.1.1 d.2.1.1 d.2.2.1.1
section
variable (c_order_Allows_f1 : zq4l)
@[reducible] def slices_IndexFunc_int_int_vorder_Allows_f1_X : Ctx := ⟨look tab, pick1 [(55, .spec (zq4m c_order_Allows_f1))], false, false, false, false⟩
def zqmp {β : Type} (rec : (List Int) → Int → Int → (List (List Int)) → Int → Option β) (k1 : zqmk β) (k2 : zqml β) (s : List Int) (t7 : Int) (t8 : Int) (b0_ : List (List Int)) (b1_ : Int) : Option β :=
  cond (decide (t8 < t7))
  (cond (decide (0 ≤ t8) && decide (t8 < (List.length s : Int)))
  (let e : Int := List.getD s (Int.toNat t8) (0 : Int);
  c_order_Allows_f1 e b0_ b1_ (fun (rAllows1 : Bool) (mrAllows1 : List (List Int)) (mrAllows12 : Int) =>
  cond rAllows1
  (k1 t8 mrAllows1 mrAllows12)
  (rec s t7 (IntKind.i64.wrap (t8 + (1 : Int))) mrAllows1 mrAllows12)))
  none)
  (k2 b0_ b1_)
def zqmq {β : Type} : Nat → zqmk β → zqml β → (List Int) → Int → Int → (List (List Int)) → Int → Option β
  | 0 => fun _ _ _ _ _ _ _ => none
  | i + 1 => fun k1 k2 s t7 t8 b0_ b1_ => zqmp c_order_Allows_f1 (zqmq i k1 k2) k1 k2 s t7 t8 b0_ b1_
theorem zqmr (hΓ : ΓOk Tryd.prog (slices_IndexFunc_int_int_vorder_Allows_f1_X c_order_Allows_f1).Γ) (i : Nat) : PieceOk Tryd.prog 19 2 slices_IndexFunc_int_int_vorder_Allows_f1_p1_code zqmn zqmo (slices_IndexFunc_int_int_vorder_Allows_f1_p1_G (zqmq c_order_Allows_f1 i)) := by
  rw [show slices_IndexFunc_int_int_vorder_Allows_f1_p1_code = .loop (loopBody slices_IndexFunc_int_int_vorder_Allows_f1_p1_code) by kernel_rfl]
  exact piece_loop (X := (slices_IndexFunc_int_int_vorder_Allows_f1_X c_order_Allows_f1)) (p := 1) (Λ := pick1 []) (G := fun i => @fun β d ks => slices_IndexFunc_int_int_vorder_Allows_f1_p1_G (zqmq c_order_Allows_f1 i) d ks) mixed tab_ok hΓ rfl (by kernel_rfl) CutsOk_nil (fun _ _ => rfl) (fun i => @fun β d ks r h => Eq.trans (b := slices_IndexFunc_int_int_vorder_Allows_f1_p1_G (zqmq c_order_Allows_f1 (i + 1)) d ks) (by kernel_rfl) h) i
def zqms (p1 : zqmm) {β : Type} (s : List Int) (b0_ : List (List Int)) (b1_ : Int) (k : (Int → (List (List Int)) → Int → Option β)) : Option β :=
  p1 (fun (t4 : Int) (b0_2 : List (List Int)) (b1_2 : Int) =>
  k t4 b0_2 b1_2) (fun (b0_2 : List (List Int)) (b1_2 : Int) =>
  k (-1 : Int) b0_2 b1_2) s (List.length s : Int) (0 : Int) b0_ b1_
theorem zqmt (hΓ : ΓOk Tryd.prog (slices_IndexFunc_int_int_vorder_Allows_f1_X c_order_Allows_f1).Γ) (p1 : zqmm) (hp1 : PieceOk Tryd.prog 19 2 slices_IndexFunc_int_int_vorder_Allows_f1_p1_code zqmn zqmo (slices_IndexFunc_int_int_vorder_Allows_f1_p1_G p1)) : SpecOk Tryd.prog 74 (zqmj (zqms p1)) :=
  spec_exec (X := (slices_IndexFunc_int_int_vorder_Allows_f1_X c_order_Allows_f1)) (Λ := pick1 [(26, pieceCut zqmn zqmo (slices_IndexFunc_int_int_vorder_Allows_f1_p1_G p1))]) (rs := [.tmp 4]) (c := bodyOf Tryd.f74) mixed tab_ok hΓ Tryd.func74 (by kernel_rfl) (by kernel_rfl) (by kernel_rfl) (by kernel_rfl) (CutsOk_cons (q := 26) (c' := slices_IndexFunc_int_int_vorder_Allows_f1_p1_code) (by kernel_rfl) rfl hp1 CutsOk_nil) (fun x k r h => Eq.trans (b := (zqmj (zqms p1)).run x k) (by kernel_rfl) h)
end
theorem zqmuΓ : ΓOk Tryd.prog (pick1 [(55, .spec (zq4m zq4q))]) := (ΓOk_cons zq4r ΓOk_nil)
def zqmv (m : Nat) : zqmm := zqmq zq4q m
theorem zqmw {β : Type} (i : Nat) (k1 k2 s t7 t8 b0_ b1_) : (zqmv (i + 1) k1 k2 s t7 t8 b0_ b1_ : Option β) = zqmp zq4q (zqmv i k1 k2) k1 k2 s t7 t8 b0_ b1_ := rfl
def zqmx : zqmm := zqmv fuel
theorem zqmy : PieceOk Tryd.prog 19 2 slices_IndexFunc_int_int_vorder_Allows_f1_p1_code zqmn zqmo (slices_IndexFunc_int_int_vorder_Allows_f1_p1_G zqmx) := zqmr zq4q zqmuΓ fuel
def zqmz : zqmi := zqms zqmx
theorem zqn0 : SpecOk Tryd.prog 74 (zqmj zqmz) := zqmt zq4q zqmuΓ zqmx zqmy

/-- slices.ContainsFunc[[]int,int] -/
abbrev zqn1 := {β : Type} → (List Int) → (List (List Int)) → Int → (Bool → (List (List Int)) → Int → Option β) → Option β
def zqn2 (c : zqn1) : Spec :=
  ⟨[(false, [.data (.slice (.int .i64))]), (false, [.fn 55 [0, 1]])], [.cells 82 [.data (.slice (.slice (.int .i64)))], .cells 3 [.data (.int .i64)]], [(false, [.data .bool])], [.cells 82 [.data (.slice (.slice (.int .i64)))], .cells 3 [.data (.int .i64)]], fun x k => c x.1.1.1 x.2.1.1 x.2.2.1.1 (fun r0 r1 r2 => k (((r0, ()), ()), ((r1, ()), (r2, ()), ())))⟩
section
variable (c_slices_IndexFunc_int_int_vorder_Allows_f1 : zqmi)
@[reducible] def slices_ContainsFunc_int_int_vorder_Allows_f1_X : Ctx := ⟨look tab, pick1 [(74, .spec (zqmj c_slices_IndexFunc_int_int_vorder_Allows_f1))], false, false, false, false⟩
def zqn3 {β : Type} (s : List Int) (b0_ : List (List Int)) (b1_ : Int) (k : (Bool → (List (List Int)) → Int → Option β)) : Option β :=
  c_slices_IndexFunc_int_int_vorder_Allows_f1 s b0_ b1_ (fun (rIndexFuncintint : Int) (mrIndexFuncintint : List (List Int)) (mrIndexFuncintint2 : Int) =>
  let t : Bool := (decide ((0 : Int) ≤ rIndexFuncintint));
  k t mrIndexFuncintint mrIndexFuncintint2)
theorem zqn4 (hΓ : ΓOk Tryd.prog (slices_ContainsFunc_int_int_vorder_Allows_f1_X c_slices_IndexFunc_int_int_vorder_Allows_f1).Γ) : SpecOk Tryd.prog 54 (zqn2 (zqn3 c_slices_IndexFunc_int_int_vorder_Allows_f1)) :=
  spec_exec (X := (slices_ContainsFunc_int_int_vorder_Allows_f1_X c_slices_IndexFunc_int_int_vorder_Allows_f1)) (Λ := pick1 []) (rs := [.tmp 4]) (c := bodyOf Tryd.f54) mixed tab_ok hΓ Tryd.func54 (by kernel_rfl) (by kernel_rfl) (by kernel_rfl) (by kernel_rfl) CutsOk_nil (fun x k r h => Eq.trans (b := (zqn2 (zqn3 c_slices_IndexFunc_int_int_vorder_Allows_f1)).run x k) (by kernel_rfl) h)
end
theorem zqn5Γ : ΓOk Tryd.prog (pick1 [(74, .spec (zqmj zqmz))]) := (ΓOk_cons zqn0 ΓOk_nil)
def zqn6 : zqn1 := zqn3 zqmz
theorem zqn7 : SpecOk Tryd.prog 54 (zqn2 zqn6) := zqn4 zqmz zqn5Γ

/-- pagewatch/order.Allows -/
abbrev zqn8 := {β : Type} → zq2 → (List Int) → (Bool → Option β) → Option β
def zqn9 (c : zqn8) : Spec :=
  ⟨[(true, [.data zq3]), (false, [.data (.slice (.int .i64))])], [], [(false, [.data .bool])], [], fun x k => c x.1.1.1 x.1.2.1.1 (fun r0 => k (((r0, ()), ()), ()))⟩
noncomputable def order_Allows_p1_code : Code := codeAt 122 (bodyOf Tryd.f33)
abbrev zqna (β : Type) := Bool → Option β
abbrev zqnb (β : Type) := Unit → Option β
abbrev zqnc := {β : Type} → zqna β → zqnb β → (List Int) → (List Int) → Int → Int → (List (List Int)) → Option β
def zqnd : View := ⟨0, [1, 5, 24, 25, 26], [(false, [.data (.slice (.int .i64))]), (false, [.ptr 0 0]), (false, [.data (.slice (.int .i64))]), (false, [.data (.int .i64)]), (false, [.data (.int .i64)])], [.cells 82 [.data (.slice (.slice (.int .i64)))]]⟩
def zqne : List (AExit × View) := [(.ret, ⟨0, [4], [(false, [.data .bool])], []⟩), (.exit 0, ⟨0, [], [], []⟩)]
@[reducible] def order_Allows_p1_G (p : zqnc) {β : Type} (d : zqnd.den) (ks : Outs.K β zqne) : Option β :=
  p (fun a0 => ks.1 (((a0, ()), ()), ())) (fun _ => ks.2.1 ((), ())) d.1.1.1 d.1.2.2.1.1 d.1.2.2.2.1.1 d.1.2.2.2.2.1.1 d.2.1.1
section
variable (c_order_closed : zqil) (c_order_in : zq4e) (c_slices_ContainsFunc_int_int_vorder_Allows_f1 : zqn1) (c_slices_Contains_int_int : zq9u)
@[reducible] def order_Allows_X : Ctx := ⟨look tab, pick1 [(27, .spec (zqim c_order_closed)), (52, .spec (zq4f c_order_in)), (54, .spec (zqn2 c_slices_ContainsFunc_int_int_vorder_Allows_f1)), (53, .spec (zq9v c_slices_Contains_int_int))], false, false, false, false⟩
def zqnf {β : Type} (rec : (List Int) → (List Int) → Int → Int → (List (List Int)) → Option β) (k1 : zqna β) (k2 : zqnb β) (l : List Int) (t24 : List Int) (t25 : Int) (t26 : Int) (m : List (List Int)) : Option β :=
  cond (decide (t26 < t25))
  (cond (decide (0 ≤ t26) && decide (t26 < (List.length t24 : Int)))
  (let e : Int := List.getD t24 (Int.toNat t26) (0 : Int);
  c_order_in e (0 : Int) (IntKind.i64.wrap ((List.length l : Int) - (1 : Int))) (fun (rin : Bool) =>
  cond (!rin)
  (k1 false)
  (cond (decide (0 ≤ (0 : Int)) && (decide ((0 : Int) ≤ t26) && decide (t26 ≤ (List.length l : Int))))
  (c_slices_Contains_int_int (List.drop (Int.toNat (0 : Int)) (List.take (Int.toNat t26) l)) e (fun (rContainsintint : Bool) =>
  cond rContainsintint
  (k1 false)
  (cond (decide (0 ≤ (0 : Int)) && (decide ((0 : Int) ≤ t26) && decide (t26 ≤ (List.length l : Int))))
  (c_slices_ContainsFunc_int_int_vorder_Allows_f1 (List.drop (Int.toNat (0 : Int)) (List.take (Int.toNat t26) l)) m e (fun (rContainsFuncintint : Bool) (mrContainsFuncintint : List (List Int)) (mrContainsFuncintint2 : Int) =>
  cond rContainsFuncintint
  (k1 false)
  (rec l t24 t25 (IntKind.i64.wrap (t26 + (1 : Int))) mrContainsFuncintint)))
  none)))
  none)))
  none)
  (k2 ())
def zqng {β : Type} : Nat → zqna β → zqnb β → (List Int) → (List Int) → Int → Int → (List (List Int)) → Option β
  | 0 => fun _ _ _ _ _ _ _ => none
  | i + 1 => fun k1 k2 l t24 t25 t26 m => zqnf c_order_in c_slices_ContainsFunc_int_int_vorder_Allows_f1 c_slices_Contains_int_int (zqng i k1 k2) k1 k2 l t24 t25 t26 m
theorem zqnh (hΓ : ΓOk Tryd.prog (order_Allows_X c_order_closed c_order_in c_slices_ContainsFunc_int_int_vorder_Allows_f1 c_slices_Contains_int_int).Γ) (i : Nat) : PieceOk Tryd.prog 52 0 order_Allows_p1_code zqnd zqne (order_Allows_p1_G (zqng c_order_in c_slices_ContainsFunc_int_int_vorder_Allows_f1 c_slices_Contains_int_int i)) := by
  rw [show order_Allows_p1_code = .loop (loopBody order_Allows_p1_code) by kernel_rfl]
  exact piece_loop (X := (order_Allows_X c_order_closed c_order_in c_slices_ContainsFunc_int_int_vorder_Allows_f1 c_slices_Contains_int_int)) (p := 1) (Λ := pick1 []) (G := fun i => @fun β d ks => order_Allows_p1_G (zqng c_order_in c_slices_ContainsFunc_int_int_vorder_Allows_f1 c_slices_Contains_int_int i) d ks) mixed tab_ok hΓ rfl (by kernel_rfl) CutsOk_nil (fun _ _ => rfl) (fun i => @fun β d ks r h => Eq.trans (b := order_Allows_p1_G (zqng c_order_in c_slices_ContainsFunc_int_int_vorder_Allows_f1 c_slices_Contains_int_int (i + 1)) d ks) (by kernel_rfl) h) i
def zqni (p1 : zqnc) {β : Type} (r_ : zq2) (l : List Int) (k : (Bool → Option β)) : Option β :=
  c_order_closed r_ (fun (rclosed : List (List Int)) (rclosed2 : Bool) =>
  cond (!rclosed2)
  (k false)
  (cond (!decide ((List.length l : Int) = (List.length r_.2.2.1 : Int)))
  (k false)
  (p1 (fun (t4 : Bool) =>
  k t4) (fun (_ : Unit) =>
  k true) l l (List.length l : Int) (0 : Int) rclosed)))
theorem zqnj (hΓ : ΓOk Tryd.prog (order_Allows_X c_order_closed c_order_in c_slices_ContainsFunc_int_int_vorder_Allows_f1 c_slices_Contains_int_int).Γ) (p1 : zqnc) (hp1 : PieceOk Tryd.prog 52 0 order_Allows_p1_code zqnd zqne (order_Allows_p1_G p1)) : SpecOk Tryd.prog 33 (zqn9 (zqni c_order_closed p1)) :=
  spec_exec (X := (order_Allows_X c_order_closed c_order_in c_slices_ContainsFunc_int_int_vorder_Allows_f1 c_slices_Contains_int_int)) (Λ := pick1 [(122, pieceCut zqnd zqne (order_Allows_p1_G p1))]) (rs := [.tmp 4]) (c := bodyOf Tryd.f33) mixed tab_ok hΓ Tryd.func33 (by kernel_rfl) (by kernel_rfl) (by kernel_rfl) (by kernel_rfl) (CutsOk_cons (q := 122) (c' := order_Allows_p1_code) (by kernel_rfl) rfl hp1 CutsOk_nil) (fun x k r h => Eq.trans (b := (zqn9 (zqni c_order_closed p1)).run x k) (by kernel_rfl) h)
end
theorem zqnkΓ : ΓOk Tryd.prog (pick1 [(27, .spec (zqim zqiq)), (52, .spec (zq4f zq4j)), (54, .spec (zqn2 zqn6)), (53, .spec (zq9v zq9z))]) := (ΓOk_cons zqir (ΓOk_cons zq4k (ΓOk_cons zqn7 (ΓOk_cons zqa0 ΓOk_nil))))
def zqnl (m : Nat) : zqnc := zqng zq4j zqn6 zq9z m
theorem zqnm {β : Type} (i : Nat) (k1 k2 l t24 t25 t26 m) : (zqnl (i + 1) k1 k2 l t24 t25 t26 m : Option β) = zqnf zq4j zqn6 zq9z (zqnl i k1 k2) k1 k2 l t24 t25 t26 m := rfl
def zqnn : zqnc := zqnl fuel
theorem zqno : PieceOk Tryd.prog 52 0 order_Allows_p1_code zqnd zqne (order_Allows_p1_G zqnn) := zqnh zqiq zq4j zqn6 zq9z zqnkΓ fuel
def zqnp : zqn8 := zqni zqiq zqnn
theorem zqnq : SpecOk Tryd.prog 33 (zqn9 zqnp) := zqnj zqiq zq4j zqn6 zq9z zqnkΓ zqnn zqno

/-- slices.EqualFunc[[]pagewatch/api.Row,[]pagewatch/api.Row,pagewatch/api.Row,pagewatch/api.Row] -/
abbrev zqnr := {β : Type} → (List api_Row) → (List api_Row) → (Bool → Option β) → Option β
def zqns (c : zqnr) : Spec :=
  ⟨[(false, [.data (.slice zq4)]), (false, [.data (.slice zq4)]), (false, [.fn 35 []])], [], [(false, [.data .bool])], [], fun x k => c x.1.1.1 x.1.2.1.1 (fun r0 => k (((r0, ()), ()), ()))⟩
noncomputable def slices_EqualFunc_api_Row_api_Row_api_Row_api_Row_vtimeline_Check_f1_p1_code : Code := codeAt 58 (bodyOf Tryd.f34)
abbrev zqnt (β : Type) := Bool → Option β
abbrev zqnu (β : Type) := Unit → Option β
abbrev zqnv := {β : Type} → zqnt β → zqnu β → (List api_Row) → (List api_Row) → Int → Int → Option β
def zqnw : View := ⟨0, [1, 2, 15, 16, 17], [(false, [.data (.slice zq4)]), (false, [.fn 35 []]), (false, [.data (.slice zq4)]), (false, [.data (.int .i64)]), (false, [.data (.int .i64)])], []⟩
def zqnx : List (AExit × View) := [(.ret, ⟨0, [6], [(false, [.data .bool])], []⟩), (.exit 0, ⟨0, [], [], []⟩)]
@[reducible] def slices_EqualFunc_api_Row_api_Row_api_Row_api_Row_vtimeline_Check_f1_p1_G (p : zqnv) {β : Type} (d : zqnw.den) (ks : Outs.K β zqnx) : Option β :=
  p (fun a0 => ks.1 (((a0, ()), ()), ())) (fun _ => ks.2.1 ((), ())) d.1.1.1 d.1.2.2.1.1 d.1.2.2.2.1.1 d.1.2.2.2.2.1.1
section
variable (c_timeline_Check_f1 : zq9g)
@[reducible] def slices_EqualFunc_api_Row_api_Row_api_Row_api_Row_vtimeline_Check_f1_X : Ctx := ⟨look tab, pick1 [(35, .spec (zq9h c_timeline_Check_f1))], false, false, false, false⟩
def zqny {β : Type} (rec : (List api_Row) → (List api_Row) → Int → Int → Option β) (k1 : zqnt β) (k2 : zqnu β) (s2 : List api_Row) (t15 : List api_Row) (t16 : Int) (t17 : Int) : Option β :=
  cond (decide (t17 < t16))
  (cond (decide (0 ≤ t17) && decide (t17 < (List.length t15 : Int)))
  (let e : api_Row := List.getD t15 (Int.toNat t17) ((0 : Int), (((0 : Int), (0 : Int)), ([] : List Int)));
  cond (decide (0 ≤ t17) && decide (t17 < (List.length s2 : Int)))
  (let e2 : api_Row := List.getD s2 (Int.toNat t17) ((0 : Int), (((0 : Int), (0 : Int)), ([] : List Int)));
  c_timeline_Check_f1 e e2 (fun (rCheck1 : Bool) =>
  cond (!rCheck1)
  (k1 false)
  (rec s2 t15 t16 (IntKind.i64.wrap (t17 + (1 : Int))))))
  none)
  none)
  (k2 ())
def zqnz {β : Type} : Nat → zqnt β → zqnu β → (List api_Row) → (List api_Row) → Int → Int → Option β
  | 0 => fun _ _ _ _ _ _ => none
  | i + 1 => fun k1 k2 s2 t15 t16 t17 => zqny c_timeline_Check_f1 (zqnz i k1 k2) k1 k2 s2 t15 t16 t17
theorem zqo0 (hΓ : ΓOk Tryd.prog (slices_EqualFunc_api_Row_api_Row_api_Row_api_Row_vtimeline_Check_f1_X c_timeline_Check_f1).Γ) (i : Nat) : PieceOk Tryd.prog 32 0 slices_EqualFunc_api_Row_api_Row_api_Row_api_Row_vtimeline_Check_f1_p1_code zqnw zqnx (slices_EqualFunc_api_Row_api_Row_api_Row_api_Row_vtimeline_Check_f1_p1_G (zqnz c_timeline_Check_f1 i)) := by
  rw [show slices_EqualFunc_api_Row_api_Row_api_Row_api_Row_vtimeline_Check_f1_p1_code = .loop (loopBody slices_EqualFunc_api_Row_api_Row_api_Row_api_Row_vtimeline_Check_f1_p1_code) by kernel_rfl]
  exact piece_loop (X := (slices_EqualFunc_api_Row_api_Row_api_Row_api_Row_vtimeline_Check_f1_X c_timeline_Check_f1)) (p := 1) (Λ := pick1 []) (G := fun i => @fun β d ks => slices_EqualFunc_api_Row_api_Row_api_Row_api_Row_vtimeline_Check_f1_p1_G (zqnz c_timeline_Check_f1 i) d ks) mixed tab_ok hΓ rfl (by kernel_rfl) CutsOk_nil (fun _ _ => rfl) (fun i => @fun β d ks r h => Eq.trans (b := slices_EqualFunc_api_Row_api_Row_api_Row_api_Row_vtimeline_Check_f1_p1_G (zqnz c_timeline_Check_f1 (i + 1)) d ks) (by kernel_rfl) h) i
def zqo1 (p1 : zqnv) {β : Type} (s1 : List api_Row) (s2 : List api_Row) (k : (Bool → Option β)) : Option β :=
  cond (!decide ((List.length s1 : Int) = (List.length s2 : Int)))
  (k false)
  (p1 (fun (t6 : Bool) =>
  k t6) (fun (_ : Unit) =>
  k true) s2 s1 (List.length s1 : Int) (0 : Int))
theorem zqo2 (hΓ : ΓOk Tryd.prog (slices_EqualFunc_api_Row_api_Row_api_Row_api_Row_vtimeline_Check_f1_X c_timeline_Check_f1).Γ) (p1 : zqnv) (hp1 : PieceOk Tryd.prog 32 0 slices_EqualFunc_api_Row_api_Row_api_Row_api_Row_vtimeline_Check_f1_p1_code zqnw zqnx (slices_EqualFunc_api_Row_api_Row_api_Row_api_Row_vtimeline_Check_f1_p1_G p1)) : SpecOk Tryd.prog 34 (zqns (zqo1 p1)) :=
  spec_exec (X := (slices_EqualFunc_api_Row_api_Row_api_Row_api_Row_vtimeline_Check_f1_X c_timeline_Check_f1)) (Λ := pick1 [(58, pieceCut zqnw zqnx (slices_EqualFunc_api_Row_api_Row_api_Row_api_Row_vtimeline_Check_f1_p1_G p1))]) (rs := [.tmp 6]) (c := bodyOf Tryd.f34) mixed tab_ok hΓ Tryd.func34 (by kernel_rfl) (by kernel_rfl) (by kernel_rfl) (by kernel_rfl) (CutsOk_cons (q := 58) (c' := slices_EqualFunc_api_Row_api_Row_api_Row_api_Row_vtimeline_Check_f1_p1_code) (by kernel_rfl) rfl hp1 CutsOk_nil) (fun x k r h => Eq.trans (b := (zqns (zqo1 p1)).run x k) (by kernel_rfl) h)
end
theorem zqo3Γ : ΓOk Tryd.prog (pick1 [(35, .spec (zq9h zq9l))]) := (ΓOk_cons zq9m ΓOk_nil)
def zqo4 (m : Nat) : zqnv := zqnz zq9l m
theorem zqo5 {β : Type} (i : Nat) (k1 k2 s2 t15 t16 t17) : (zqo4 (i + 1) k1 k2 s2 t15 t16 t17 : Option β) = zqny zq9l (zqo4 i k1 k2) k1 k2 s2 t15 t16 t17 := rfl
def zqo6 : zqnv := zqo4 fuel
theorem zqo7 : PieceOk Tryd.prog 32 0 slices_EqualFunc_api_Row_api_Row_api_Row_api_Row_vtimeline_Check_f1_p1_code zqnw zqnx (slices_EqualFunc_api_Row_api_Row_api_Row_api_Row_vtimeline_Check_f1_p1_G zqo6) := zqo0 zq9l zqo3Γ fuel
def zqo8 : zqnr := zqo1 zqo6
theorem zqo9 : SpecOk Tryd.prog 34 (zqns zqo8) := zqo2 zq9l zqo3Γ zqo6 zqo7

/-- pagewatch/timeline.Check -/
abbrev zqoa := {β : Type} → zq2 → (List api_Row) → (Bool → Option β) → Option β
def zqob (c : zqoa) : Spec :=
  ⟨[(true, [.data zq3]), (false, [.data (.slice zq4)])], [], [(false, [.data .bool])], [], fun x k => c x.1.1.1 x.1.2.1.1 (fun r0 => k (((r0, ()), ()), ()))⟩
noncomputable def timeline_Check_p1_code : Code := codeAt 58 (bodyOf Tryd.f17)
abbrev zqoc (β : Type) := (List api_Row) → (List (List UInt8 × Int)) → (List (Int × (Int × (Int × Int)))) → (List zq0) → (List (Int × (Int × Int))) → (List Int) → Option β
abbrev zqod := {β : Type} → zqoc β → (List api_Row) → (List api_Row) → Int → Int → (List (List UInt8 × Int)) → (List (Int × (Int × (Int × Int)))) → (List zq0) → (List (Int × (Int × Int))) → (List Int) → Option β
def zqoe : View := ⟨0, [1, 2, 5, 8, 9, 10], [(false, [.data (.slice zq4)]), (false, [.ptr 0 0]), (false, [.rowh 1]), (false, [.data (.slice zq4)]), (false, [.data (.int .i64)]), (false, [.data (.int .i64)])], [.cells 32 [.data (.slice (.prod .str (.int .i64))), .data (.slice (.prod (.int .i64) (.prod (.int .i64) (.prod (.int .i64) (.int .i64))))), .data (.slice zq1), .data (.slice (.prod (.int .i64) (.prod (.int .i64) (.int .i64))))], .row 3 (.int .i64)]⟩
def zqof : List (AExit × View) := [(.exit 0, ⟨0, [1, 2, 5], [(false, [.data (.slice zq4)]), (false, [.ptr 0 0]), (false, [.rowh 1])], [.cells 32 [.data (.slice (.prod .str (.int .i64))), .data (.slice (.prod (.int .i64) (.prod (.int .i64) (.prod (.int .i64) (.int .i64))))), .data (.slice zq1), .data (.slice (.prod (.int .i64) (.prod (.int .i64) (.int .i64))))], .row 3 (.int .i64)]⟩)]
@[reducible] def timeline_Check_p1_G (p : zqod) {β : Type} (d : zqoe.den) (ks : Outs.K β zqof) : Option β :=
  p (fun a0 a1 a2 a3 a4 a5 => ks.1 (((a0, ()), (), (), ()), ((a1, a2, a3, a4, ()), a5, ()))) d.1.1.1 d.1.2.2.2.1.1 d.1.2.2.2.2.1.1 d.1.2.2.2.2.2.1.1 d.2.1.1 d.2.1.2.1 d.2.1.2.2.1 d.2.1.2.2.2.1 d.2.2.1
section
variable (c_order_Allows : zqn8) (c_slices_EqualFunc_api_Row_api_Row_api_Row_api_Row_vtimeline_Check_f1 : zqnr) (c_timeline_rows : zql7)
@[reducible] def timeline_Check_X : Ctx := ⟨look tab, pick1 [(33, .spec (zqn9 c_order_Allows)), (34, .spec (zqns c_slices_EqualFunc_api_Row_api_Row_api_Row_api_Row_vtimeline_Check_f1)), (16, .spec (zql8 c_timeline_rows))], false, false, false, false⟩
def zqog {β : Type} (rec : (List api_Row) → (List api_Row) → Int → Int → (List (List UInt8 × Int)) → (List (Int × (Int × (Int × Int)))) → (List zq0) → (List (Int × (Int × Int))) → (List Int) → Option β) (k1 : zqoc β) (l : List api_Row) (t8 : List api_Row) (t9 : Int) (t10 : Int) (r_ : List (List UInt8 × Int)) (r_2 : List (Int × (Int × (Int × Int)))) (r_3 : List zq0) (r_4 : List (Int × (Int × Int))) (events : List Int) : Option β :=
  cond (decide (t10 < t9))
  (cond (decide (0 ≤ t10) && decide (t10 < (List.length t8 : Int)))
  (let e : api_Row := List.getD t8 (Int.toNat t10) ((0 : Int), (((0 : Int), (0 : Int)), ([] : List Int)));
  let l2 : List Int := ([e.1] : List Int);
  cond (decide ((List.length events + List.length l2) * 8 ≤ roomMax))
  (let l3 : List Int := (events ++ l2);
  rec l t8 t9 (IntKind.i64.wrap (t10 + (1 : Int))) r_ r_2 r_3 r_4 l3)
  none)
  none)
  (k1 l r_ r_2 r_3 r_4 events)
def zqoh {β : Type} : Nat → zqoc β → (List api_Row) → (List api_Row) → Int → Int → (List (List UInt8 × Int)) → (List (Int × (Int × (Int × Int)))) → (List zq0) → (List (Int × (Int × Int))) → (List Int) → Option β
  | 0 => fun _ _ _ _ _ _ _ _ _ _ => none
  | i + 1 => fun k1 l t8 t9 t10 r_ r_2 r_3 r_4 events => zqog (zqoh i k1) k1 l t8 t9 t10 r_ r_2 r_3 r_4 events
theorem zqoi (hΓ : ΓOk Tryd.prog (timeline_Check_X c_order_Allows c_slices_EqualFunc_api_Row_api_Row_api_Row_api_Row_vtimeline_Check_f1 c_timeline_rows).Γ) (i : Nat) : PieceOk Tryd.prog 30 0 timeline_Check_p1_code zqoe zqof (timeline_Check_p1_G (zqoh i)) := by
  rw [show timeline_Check_p1_code = .loop (loopBody timeline_Check_p1_code) by kernel_rfl]
  exact piece_loop (X := (timeline_Check_X c_order_Allows c_slices_EqualFunc_api_Row_api_Row_api_Row_api_Row_vtimeline_Check_f1 c_timeline_rows)) (p := 1) (Λ := pick1 []) (G := fun i => @fun β d ks => timeline_Check_p1_G (zqoh i) d ks) mixed tab_ok hΓ rfl (by kernel_rfl) CutsOk_nil (fun _ _ => rfl) (fun i => @fun β d ks r h => Eq.trans (b := timeline_Check_p1_G (zqoh (i + 1)) d ks) (by kernel_rfl) h) i
def zqoj (p1 : zqod) {β : Type} (r_ : zq2) (l : List api_Row) (k : (Bool → Option β)) : Option β :=
  p1 (fun (l2 : List api_Row) (r_2 : List (List UInt8 × Int)) (r_3 : List (Int × (Int × (Int × Int)))) (r_4 : List zq0) (r_5 : List (Int × (Int × Int))) (events : List Int) =>
  c_order_Allows (r_2, (r_3, (r_4, r_5))) events (fun (rAllows : Bool) =>
  cond rAllows
  (c_timeline_rows (r_2, (r_3, (r_4, r_5))) events (fun (lrrows : List api_Row) =>
  c_slices_EqualFunc_api_Row_api_Row_api_Row_api_Row_vtimeline_Check_f1 l2 lrrows (fun (rRow : Bool) =>
  k rRow)))
  (k false))) l l (List.length l : Int) (0 : Int) r_.1 r_.2.1 r_.2.2.1 r_.2.2.2 ([] : List Int)
theorem zqok (hΓ : ΓOk Tryd.prog (timeline_Check_X c_order_Allows c_slices_EqualFunc_api_Row_api_Row_api_Row_api_Row_vtimeline_Check_f1 c_timeline_rows).Γ) (p1 : zqod) (hp1 : PieceOk Tryd.prog 30 0 timeline_Check_p1_code zqoe zqof (timeline_Check_p1_G p1)) : SpecOk Tryd.prog 17 (zqob (zqoj c_order_Allows c_slices_EqualFunc_api_Row_api_Row_api_Row_api_Row_vtimeline_Check_f1 c_timeline_rows p1)) :=
  spec_exec (X := (timeline_Check_X c_order_Allows c_slices_EqualFunc_api_Row_api_Row_api_Row_api_Row_vtimeline_Check_f1 c_timeline_rows)) (Λ := pick1 [(58, pieceCut zqoe zqof (timeline_Check_p1_G p1))]) (rs := [.tmp 4]) (c := bodyOf Tryd.f17) mixed tab_ok hΓ Tryd.func17 (by kernel_rfl) (by kernel_rfl) (by kernel_rfl) (by kernel_rfl) (CutsOk_cons (q := 58) (c' := timeline_Check_p1_code) (by kernel_rfl) rfl hp1 CutsOk_nil) (fun x k r h => Eq.trans (b := (zqob (zqoj c_order_Allows c_slices_EqualFunc_api_Row_api_Row_api_Row_api_Row_vtimeline_Check_f1 c_timeline_rows p1)).run x k) (by kernel_rfl) h)
end
theorem zqolΓ : ΓOk Tryd.prog (pick1 [(33, .spec (zqn9 zqnp)), (34, .spec (zqns zqo8)), (16, .spec (zql8 zqm9))]) := (ΓOk_cons zqnq (ΓOk_cons zqo9 (ΓOk_cons zqma ΓOk_nil)))
def zqom (m : Nat) : zqod := zqoh m
theorem zqon {β : Type} (i : Nat) (k1 l t8 t9 t10 r_ r_2 r_3 r_4 events) : (zqom (i + 1) k1 l t8 t9 t10 r_ r_2 r_3 r_4 events : Option β) = zqog (zqom i k1) k1 l t8 t9 t10 r_ r_2 r_3 r_4 events := rfl
def zqoo : zqod := zqom fuel
theorem zqop : PieceOk Tryd.prog 30 0 timeline_Check_p1_code zqoe zqof (timeline_Check_p1_G zqoo) := zqoi zqnp zqo8 zqm9 zqolΓ fuel
def zqoq : zqoa := zqoj zqnp zqo8 zqm9 zqoo
theorem zqor : SpecOk Tryd.prog 17 (zqob zqoq) := zqok zqnp zqo8 zqm9 zqolΓ zqoo zqop

/-- pagewatch/timeline.Text -/
abbrev zqos := {β : Type} → zq2 → (List api_Row) → ((List UInt8) → Int → Option β) → Option β
def zqot (c : zqos) : Spec :=
  ⟨[(true, [.data zq3]), (false, [.data (.slice zq4)])], [], [(false, [.data .str]), (false, [.data (.int .i64)])], [], fun x k => c x.1.1.1 x.1.2.1.1 (fun r0 r1 => k (((r0, ()), (r1, ()), ()), ()))⟩
noncomputable def timeline_Text_p2_code : Code := codeAt 122 (bodyOf Tryd.f10)
noncomputable def timeline_Text_p1_code : Code := codeAt 927 (loopBody timeline_Text_p2_code)
abbrev zqou (β : Type) := (List api_Row) → Int → Int → (List (List UInt8 × Int)) → (List (Int × (Int × (Int × Int)))) → (List zq0) → (List (Int × (Int × Int))) → (List Int) → Option β
abbrev zqov := {β : Type} → zqou β → (List api_Row) → Int → Int → (List (List UInt8 × Int)) → (List (Int × (Int × (Int × Int)))) → (List zq0) → (List (Int × (Int × Int))) → Int → Int → Int → (List Int) → Int → Int → (List UInt8) → (List Int) → Option β
def zqow : View := ⟨0, [2, 6, 8, 9, 14, 15, 16], [(false, [.ptr 0 0]), (false, [.ptr 1 0]), (false, [.ptr 2 0]), (false, [.ptr 3 0]), (false, [.data (.slice zq4)]), (false, [.data (.int .i64)]), (false, [.data (.int .i64)])], [.cells 32 [.data (.slice (.prod .str (.int .i64))), .data (.slice (.prod (.int .i64) (.prod (.int .i64) (.prod (.int .i64) (.int .i64))))), .data (.slice zq1), .data (.slice (.prod (.int .i64) (.prod (.int .i64) (.int .i64))))], .cells 68 [.bself 1, .rowh 4], .cells 46 [.data (.int .i64), .data (.int .i64), .data (.int .i64), .data (.slice (.int .i64))], .cells 49 [.data (.int .i64), .data (.int .i64), .data .str], .row 5 (.int .u8)]⟩
def zqox : List (AExit × View) := [(.normal, ⟨0, [2, 6, 14, 15, 16], [(false, [.ptr 0 0]), (false, [.ptr 1 0]), (false, [.data (.slice zq4)]), (false, [.data (.int .i64)]), (false, [.data (.int .i64)])], [.cells 32 [.data (.slice (.prod .str (.int .i64))), .data (.slice (.prod (.int .i64) (.prod (.int .i64) (.prod (.int .i64) (.int .i64))))), .data (.slice zq1), .data (.slice (.prod (.int .i64) (.prod (.int .i64) (.int .i64))))], .cells 68 [.bself 1, .rowh 2], .row 5 (.int .u8)]⟩)]
@[reducible] def timeline_Text_p1_G (p : zqov) {β : Type} (d : zqow.den) (ks : Outs.K β zqox) : Option β :=
  p (fun a0 a1 a2 a3 a4 a5 a6 a7 => ks.1 (((), (), (a0, ()), (a1, ()), (a2, ()), ()), ((a3, a4, a5, a6, ()), (), a7, ()))) d.1.2.2.2.2.1.1 d.1.2.2.2.2.2.1.1 d.1.2.2.2.2.2.2.1.1 d.2.1.1 d.2.1.2.1 d.2.1.2.2.1 d.2.1.2.2.2.1 d.2.2.2.1.1 d.2.2.2.1.2.1 d.2.2.2.1.2.2.1 d.2.2.2.1.2.2.2.1 d.2.2.2.2.1.1 d.2.2.2.2.1.2.1 d.2.2.2.2.1.2.2.1 d.2.2.2.2.2.1
abbrev zqoy (β : Type) := (List UInt8) → Int → Option β
abbrev zqoz (β : Type) := (List Int) → Option β
abbrev zqp0 := {β : Type} → zqoy β → zqoz β → (List api_Row) → Int → Int → (List (List UInt8 × Int)) → (List (Int × (Int × (Int × Int)))) → (List zq0) → (List (Int × (Int × Int))) → (List Int) → Option β
def zqp1 : View := ⟨0, [2, 6, 14, 15, 16], [(false, [.ptr 0 0]), (false, [.ptr 1 0]), (false, [.data (.slice zq4)]), (false, [.data (.int .i64)]), (false, [.data (.int .i64)])], [.cells 32 [.data (.slice (.prod .str (.int .i64))), .data (.slice (.prod (.int .i64) (.prod (.int .i64) (.prod (.int .i64) (.int .i64))))), .data (.slice zq1), .data (.slice (.prod (.int .i64) (.prod (.int .i64) (.int .i64))))], .cells 68 [.bself 1, .rowh 2], .row 5 (.int .u8)]⟩
def zqp2 : List (AExit × View) := [(.ret, ⟨0, [4, 5], [(false, [.data .str]), (false, [.data (.int .i64)])], []⟩), (.exit 0, ⟨0, [6], [(false, [.ptr 0 0])], [.cells 68 [.bself 0, .rowh 1], .row 5 (.int .u8)]⟩)]
@[reducible] def timeline_Text_p2_G (p : zqp0) {β : Type} (d : zqp1.den) (ks : Outs.K β zqp2) : Option β :=
  p (fun a0 a1 => ks.1 (((a0, ()), (a1, ()), ()), ())) (fun a0 => ks.2.1 (((), ()), ((), a0, ()))) d.1.2.2.1.1 d.1.2.2.2.1.1 d.1.2.2.2.2.1.1 d.2.1.1 d.2.1.2.1 d.2.1.2.2.1 d.2.1.2.2.2.1 d.2.2.2.1
section
variable (c_strconv_Itoa : zq1m) (c_timeline_Check : zqoa) (c_timeline_printed : zqx)
@[reducible] def timeline_Text_X : Ctx := ⟨look tab, pick1 [(20, .spec (zq1n c_strconv_Itoa)), (17, .spec (zqob c_timeline_Check)), (18, .spec (zqy c_timeline_printed)), (21, .bld zq1s), (22, .bld zq1w), (19, .bld zq1i)], false, false, false, false⟩
def zqp3 {β : Type} (k1 : zqou β) (t14 : List api_Row) (t15 : Int) (t16 : Int) (r_ : List (List UInt8 × Int)) (r_2 : List (Int × (Int × (Int × Int)))) (r_3 : List zq0) (r_4 : List (Int × (Int × Int))) (x : Int) (x2 : Int) (x3 : Int) (x4 : List Int) (e : Int) (e2 : Int) (e3 : List UInt8) (b4_ : List Int) : Option β :=
  cond (decide (0 ≤ e) && decide (e < (List.length r_ : Int)))
  (let e4 : (List UInt8 × Int) := List.getD r_ (Int.toNat e) (([] : List UInt8), (0 : Int));
  cond (decide (List.length ([32] : List UInt8) + List.length e4.1 ≤ 9223372036854775807))
  (cond (decide (List.length (([32] : List UInt8) ++ e4.1) + List.length ([32] : List UInt8) ≤ 9223372036854775807))
  (cond (decide (List.length ((([32] : List UInt8) ++ e4.1) ++ ([32] : List UInt8)) + List.length e3 ≤ 9223372036854775807))
  (cond (decide (List.length b4_ + List.length (((([32] : List UInt8) ++ e4.1) ++ ([32] : List UInt8)) ++ e3) ≤ 140737488355328))
  (let l : List Int := (b4_ ++ bytesI (((([32] : List UInt8) ++ e4.1) ++ ([32] : List UInt8)) ++ e3));
  cond (decide ((0 : Int) < (List.length x4 : Int)))
  (cond (decide (List.length l + List.length ([32, 111, 112, 101, 110] : List UInt8) ≤ 140737488355328))
  (let l2 : List Int := (l ++ bytesI ([32, 111, 112, 101, 110] : List UInt8));
  cond (decide (List.length l2 + List.length ([10] : List UInt8) ≤ 140737488355328))
  (let l3 : List Int := (l2 ++ bytesI ([10] : List UInt8));
  k1 t14 t15 t16 r_ r_2 r_3 r_4 l3)
  none)
  none)
  (cond (decide (List.length l + List.length ([10] : List UInt8) ≤ 140737488355328))
  (let l2 : List Int := (l ++ bytesI ([10] : List UInt8));
  k1 t14 t15 t16 r_ r_2 r_3 r_4 l2)
  none))
  none)
  none)
  none)
  none)
  none
def zqp4 {β : Type} (k1 : zqou β) (t14 : List api_Row) (t15 : Int) (t16 : Int) (r_ : List (List UInt8 × Int)) (r_2 : List (Int × (Int × (Int × Int)))) (r_3 : List zq0) (r_4 : List (Int × (Int × Int))) (x : Int) (x2 : Int) (x3 : Int) (x4 : List Int) (e : Int) (e2 : Int) (e3 : List UInt8) (b4_ : List Int) : Option β := zqp3 k1 t14 t15 t16 r_ r_2 r_3 r_4 x x2 x3 x4 e e2 e3 b4_
theorem zqp5 (hΓ : ΓOk Tryd.prog (timeline_Text_X c_strconv_Itoa c_timeline_Check c_timeline_printed).Γ) : PieceOk Tryd.prog 82 0 timeline_Text_p1_code zqow zqox (timeline_Text_p1_G (zqp4)) :=
  piece_exec (X := (timeline_Text_X c_strconv_Itoa c_timeline_Check c_timeline_printed)) (p := 927) (Λ := pick1 []) mixed tab_ok hΓ (by kernel_rfl) CutsOk_nil (fun d ks r h => Eq.trans (b := timeline_Text_p1_G (zqp4) d ks) (by kernel_rfl) h)
def zqp6 (p1 : zqov) {β : Type} (rec : (List api_Row) → Int → Int → (List (List UInt8 × Int)) → (List (Int × (Int × (Int × Int)))) → (List zq0) → (List (Int × (Int × Int))) → (List Int) → Option β) (k1 : zqoy β) (k2 : zqoz β) (t14 : List api_Row) (t15 : Int) (t16 : Int) (r_ : List (List UInt8 × Int)) (r_2 : List (Int × (Int × (Int × Int)))) (r_3 : List zq0) (r_4 : List (Int × (Int × Int))) (b2_ : List Int) : Option β :=
  cond (decide (t16 < t15))
  (cond (decide (0 ≤ t16) && decide (t16 < (List.length t14 : Int)))
  (let e : api_Row := List.getD t14 (Int.toNat t16) ((0 : Int), (((0 : Int), (0 : Int)), ([] : List Int)));
  cond (decide (0 ≤ e.1) && decide (e.1 < (List.length r_3 : Int)))
  (let e2 : zq0 := List.getD r_3 (Int.toNat e.1) ((0 : Int), ((0 : Int), ([] : List UInt8)));
  cond (decide (0 ≤ e2.1) && decide (e2.1 < (List.length r_ : Int)))
  (let e3 : (List UInt8 × Int) := List.getD r_ (Int.toNat e2.1) (([] : List UInt8), (0 : Int));
  c_timeline_printed e3.1 (33 : Int) (fun (rprinted : Bool) =>
  cond (!rprinted)
  (k1 ([] : List UInt8) (2 : Int))
  (c_timeline_printed e2.2.2 (32 : Int) (fun (rprinted2 : Bool) =>
  cond (!rprinted2)
  (k1 ([] : List UInt8) (2 : Int))
  (c_strconv_Itoa e.2.1.1 (fun (rItoa : List UInt8) =>
  cond (decide (List.length b2_ + List.length rItoa ≤ 140737488355328))
  (let l : List Int := (b2_ ++ bytesI rItoa);
  cond (!decide (e.2.1.2 = e.2.1.1))
  (c_strconv_Itoa e.2.1.2 (fun (rItoa2 : List UInt8) =>
  cond (decide (List.length ([46, 46] : List UInt8) + List.length rItoa2 ≤ 9223372036854775807))
  (cond (decide (List.length l + List.length (([46, 46] : List UInt8) ++ rItoa2) ≤ 140737488355328))
  (let l2 : List Int := (l ++ bytesI (([46, 46] : List UInt8) ++ rItoa2));
  p1 (fun (t142 : List api_Row) (t152 : Int) (t162 : Int) (r_5 : List (List UInt8 × Int)) (r_6 : List (Int × (Int × (Int × Int)))) (r_7 : List zq0) (r_8 : List (Int × (Int × Int))) (b2_2 : List Int) =>
  rec t142 t152 (IntKind.i64.wrap (t162 + (1 : Int))) r_5 r_6 r_7 r_8 b2_2) t14 t15 t16 r_ r_2 r_3 r_4 e.1 e.2.1.1 e.2.1.2 e.2.2 e2.1 e2.2.1 e2.2.2 l2)
  none)
  none))
  (p1 (fun (t142 : List api_Row) (t152 : Int) (t162 : Int) (r_5 : List (List UInt8 × Int)) (r_6 : List (Int × (Int × (Int × Int)))) (r_7 : List zq0) (r_8 : List (Int × (Int × Int))) (b2_2 : List Int) =>
  rec t142 t152 (IntKind.i64.wrap (t162 + (1 : Int))) r_5 r_6 r_7 r_8 b2_2) t14 t15 t16 r_ r_2 r_3 r_4 e.1 e.2.1.1 e.2.1.2 e.2.2 e2.1 e2.2.1 e2.2.2 l))
  none))))))
  none)
  none)
  none)
  (k2 b2_)
def zqp7 (p1 : zqov) {β : Type} : Nat → zqoy β → zqoz β → (List api_Row) → Int → Int → (List (List UInt8 × Int)) → (List (Int × (Int × (Int × Int)))) → (List zq0) → (List (Int × (Int × Int))) → (List Int) → Option β
  | 0 => fun _ _ _ _ _ _ _ _ _ _ => none
  | i + 1 => fun k1 k2 t14 t15 t16 r_ r_2 r_3 r_4 b2_ => zqp6 c_strconv_Itoa c_timeline_printed p1 (zqp7 p1 i k1 k2) k1 k2 t14 t15 t16 r_ r_2 r_3 r_4 b2_
theorem zqp8 (hΓ : ΓOk Tryd.prog (timeline_Text_X c_strconv_Itoa c_timeline_Check c_timeline_printed).Γ) (p1 : zqov) (hp1 : PieceOk Tryd.prog 82 0 timeline_Text_p1_code zqow zqox (timeline_Text_p1_G p1)) (i : Nat) : PieceOk Tryd.prog 82 0 timeline_Text_p2_code zqp1 zqp2 (timeline_Text_p2_G (zqp7 c_strconv_Itoa c_timeline_printed p1 i)) := by
  rw [show timeline_Text_p2_code = .loop (loopBody timeline_Text_p2_code) by kernel_rfl]
  exact piece_loop (X := (timeline_Text_X c_strconv_Itoa c_timeline_Check c_timeline_printed)) (p := 1) (Λ := pick1 [(927, pieceCut zqow zqox (timeline_Text_p1_G p1))]) (G := fun i => @fun β d ks => timeline_Text_p2_G (zqp7 c_strconv_Itoa c_timeline_printed p1 i) d ks) mixed tab_ok hΓ rfl (by kernel_rfl) (CutsOk_cons (q := 927) (c' := timeline_Text_p1_code) (by kernel_rfl) rfl hp1 CutsOk_nil) (fun _ _ => rfl) (fun i => @fun β d ks r h => Eq.trans (b := timeline_Text_p2_G (zqp7 c_strconv_Itoa c_timeline_printed p1 (i + 1)) d ks) (by kernel_rfl) h) i
def zqp9 (p2 : zqp0) {β : Type} (r_ : zq2) (l : List api_Row) (k : ((List UInt8) → Int → Option β)) : Option β :=
  c_timeline_Check r_ l (fun (rCheck : Bool) =>
  cond (!rCheck)
  (k ([] : List UInt8) (8 : Int))
  (p2 (fun (t4 : List UInt8) (t5 : Int) =>
  k t4 t5) (fun (b1_ : List Int) =>
  cond (decide ((65536 : Int) < (List.length b1_ : Int)))
  (k ([] : List UInt8) (5 : Int))
  (cond (bytesOk b1_)
  (k (strOf b1_) (0 : Int))
  none)) l (List.length l : Int) (0 : Int) r_.1 r_.2.1 r_.2.2.1 r_.2.2.2 ([] : List Int)))
theorem zqpa (hΓ : ΓOk Tryd.prog (timeline_Text_X c_strconv_Itoa c_timeline_Check c_timeline_printed).Γ) (p2 : zqp0) (hp2 : PieceOk Tryd.prog 82 0 timeline_Text_p2_code zqp1 zqp2 (timeline_Text_p2_G p2)) : SpecOk Tryd.prog 10 (zqot (zqp9 c_timeline_Check p2)) :=
  spec_exec (X := (timeline_Text_X c_strconv_Itoa c_timeline_Check c_timeline_printed)) (Λ := pick1 [(122, pieceCut zqp1 zqp2 (timeline_Text_p2_G p2))]) (rs := [.tmp 4, .tmp 5]) (c := bodyOf Tryd.f10) mixed tab_ok hΓ Tryd.func10 (by kernel_rfl) (by kernel_rfl) (by kernel_rfl) (by kernel_rfl) (CutsOk_cons (q := 122) (c' := timeline_Text_p2_code) (by kernel_rfl) rfl hp2 CutsOk_nil) (fun x k r h => Eq.trans (b := (zqot (zqp9 c_timeline_Check p2)).run x k) (by kernel_rfl) h)
end
theorem zqpbΓ : ΓOk Tryd.prog (pick1 [(20, .spec (zq1n zq1o)), (17, .spec (zqob zqoq)), (18, .spec (zqy zq1e)), (21, .bld zq1s), (22, .bld zq1w), (19, .bld zq1i)]) := (ΓOk_cons zq1p (ΓOk_cons zqor (ΓOk_cons zq1f (ΓOk_bld zq1t (ΓOk_bld zq1x (ΓOk_bld zq1j ΓOk_nil))))))
def zqpc : zqov := zqp4
theorem zqpd : PieceOk Tryd.prog 82 0 timeline_Text_p1_code zqow zqox (timeline_Text_p1_G zqpc) := zqp5 zq1o zqoq zq1e zqpbΓ
def zqpe (m : Nat) : zqp0 := zqp7 zq1o zq1e zqpc m
theorem zqpf {β : Type} (i : Nat) (k1 k2 t14 t15 t16 r_ r_2 r_3 r_4 b2_) : (zqpe (i + 1) k1 k2 t14 t15 t16 r_ r_2 r_3 r_4 b2_ : Option β) = zqp6 zq1o zq1e zqpc (zqpe i k1 k2) k1 k2 t14 t15 t16 r_ r_2 r_3 r_4 b2_ := rfl
def zqpg : zqp0 := zqpe fuel
theorem zqph : PieceOk Tryd.prog 82 0 timeline_Text_p2_code zqp1 zqp2 (timeline_Text_p2_G zqpg) := zqp8 zq1o zqoq zq1e zqpbΓ zqpc zqpd fuel
def zqpi : zqos := zqp9 zqoq zqpg
theorem zqpj : SpecOk Tryd.prog 10 (zqot zqpi) := zqpa zq1o zqoq zq1e zqpbΓ zqpg zqph

/-- pagewatch/pagewatchlaw41.sane -/
abbrev zqpk := {β : Type} → (Bool → Option β) → Option β
def zqpl (c : zqpk) : Spec :=
  ⟨[], [], [(false, [.data .bool])], [], fun x k => c  (fun r0 => k (((r0, ()), ()), ()))⟩
section
variable (c_timeline_Rows : zqmb) (c_timeline_Text : zqos)
@[reducible] def law41_sane_X : Ctx := ⟨look tab, pick1 [(9, .spec (zqmc c_timeline_Rows)), (10, .spec (zqot c_timeline_Text))], false, false, true, false⟩
def zqpm {β : Type} (k : (Bool → Option β)) : Option β :=
  let l : List (List UInt8 × Int) := ([(([100, 98] : List UInt8), (0 : Int))] : List (List UInt8 × Int));
  let l2 : List (Int × (Int × (Int × Int))) := ([((0 : Int), ((10 : Int), ((100 : Int), (100 : Int))))] : List (Int × (Int × (Int × Int))));
  let l3 : List zq0 := ([((0 : Int), ((20 : Int), ([100, 111, 119, 110] : List UInt8))), ((0 : Int), ((10 : Int), ([115, 108, 111, 119] : List UInt8)))] : List zq0);
  c_timeline_Rows (l, (l2, (l3, ([] : List (Int × (Int × Int)))))) (fun (rRows : Bool) (lrRows : List api_Row) =>
  c_timeline_Text (l, (l2, (l3, ([] : List (Int × (Int × Int)))))) lrRows (fun (rText : List UInt8) (rText2 : Int) =>
  cond rRows
  (cond (decide (rText2 = (0 : Int)))
  (let t : Bool := (decide (rText = ([49, 48, 48, 32, 100, 98, 32, 115, 108, 111, 119, 10, 49, 49, 48, 32, 100, 98, 32, 100, 111, 119, 110, 10] : List UInt8)));
  k t)
  (k false))
  (k false)))
theorem zqpn (hΓ : ΓOk Tryd.prog (law41_sane_X c_timeline_Rows c_timeline_Text).Γ) : SpecOk Tryd.prog 6 (zqpl (zqpm c_timeline_Rows c_timeline_Text)) :=
  spec_exec (X := (law41_sane_X c_timeline_Rows c_timeline_Text)) (Λ := pick1 []) (rs := [.tmp 0]) (c := bodyOf Tryd.f6) mixed tab_ok hΓ Tryd.func6 (by kernel_rfl) (by kernel_rfl) (by kernel_rfl) (by kernel_rfl) CutsOk_nil (fun x k r h => Eq.trans (b := (zqpl (zqpm c_timeline_Rows c_timeline_Text)).run x k) (by kernel_rfl) h)
end
theorem zqpoΓ : ΓOk Tryd.prog (pick1 [(9, .spec (zqmc zqmg)), (10, .spec (zqot zqpi))]) := (ΓOk_cons zqmh (ΓOk_cons zqpj ΓOk_nil))
def zqpp : zqpk := zqpm zqmg zqpi
theorem zqpq : SpecOk Tryd.prog 6 (zqpl zqpp) := zqpn zqmg zqpi zqpoΓ

/-- pagewatch/pagewatchlaw41.TimelineAdds -/
abbrev zqpr := {β : Type} → (List Int) → (Bool → Option β) → Option β
def zqps (c : zqpr) : Spec :=
  ⟨[(false, [.data (.slice (.int .i64))])], [], [(false, [.data .bool])], [], fun x k => c x.1.1.1 (fun r0 => k (((r0, ()), ()), ()))⟩
noncomputable def law41_TimelineAdds_p1_code : Code := codeAt 16378 (bodyOf Tryd.f4)
noncomputable def law41_TimelineAdds_p2_code : Code := codeAt 32762 (bodyOf Tryd.f4)
abbrev zqpt (β : Type) := Bool → Option β
abbrev zqpu (β : Type) := (List (List UInt8 × Int)) → (List (Int × (Int × (Int × Int)))) → (List zq0) → (List (Int × (Int × Int))) → (List (List UInt8 × Int)) → (List (Int × (Int × (Int × Int)))) → (List zq0) → (List (Int × (Int × Int))) → (List (List UInt8 × Int)) → (List (Int × (Int × (Int × Int)))) → (List zq0) → (List (Int × (Int × Int))) → Option β
abbrev zqpv := {β : Type} → zqpt β → zqpu β → Int → Int → (List (List UInt8 × Int)) → (List (Int × (Int × (Int × Int)))) → (List zq0) → (List (Int × (Int × Int))) → (List (List UInt8 × Int)) → (List (Int × (Int × (Int × Int)))) → (List zq0) → (List (Int × (Int × Int))) → (List (List UInt8 × Int)) → (List (Int × (Int × (Int × Int)))) → (List zq0) → (List (Int × (Int × Int))) → (List (List UInt8 × Int)) → (List (Int × (Int × (Int × Int)))) → (List zq0) → (List (Int × (Int × Int))) → Option β
def zqpw : View := ⟨0, [4, 7, 9, 11, 136, 137], [(false, [.ptr 0 0]), (false, [.ptr 1 0]), (false, [.ptr 2 0]), (false, [.ptr 3 0]), (false, [.data (.int .i64)]), (false, [.data (.int .i64)])], [.cells 32 [.data (.slice (.prod .str (.int .i64))), .data (.slice (.prod (.int .i64) (.prod (.int .i64) (.prod (.int .i64) (.int .i64))))), .data (.slice zq1), .data (.slice (.prod (.int .i64) (.prod (.int .i64) (.int .i64))))], .cells 32 [.data (.slice (.prod .str (.int .i64))), .data (.slice (.prod (.int .i64) (.prod (.int .i64) (.prod (.int .i64) (.int .i64))))), .data (.slice zq1), .data (.slice (.prod (.int .i64) (.prod (.int .i64) (.int .i64))))], .cells 32 [.data (.slice (.prod .str (.int .i64))), .data (.slice (.prod (.int .i64) (.prod (.int .i64) (.prod (.int .i64) (.int .i64))))), .data (.slice zq1), .data (.slice (.prod (.int .i64) (.prod (.int .i64) (.int .i64))))], .cells 32 [.data (.slice (.prod .str (.int .i64))), .data (.slice (.prod (.int .i64) (.prod (.int .i64) (.prod (.int .i64) (.int .i64))))), .data (.slice zq1), .data (.slice (.prod (.int .i64) (.prod (.int .i64) (.int .i64))))]]⟩
def zqpx : List (AExit × View) := [(.ret, ⟨0, [2], [(false, [.data .bool])], []⟩), (.exit 0, ⟨0, [4, 9, 11], [(false, [.ptr 0 0]), (false, [.ptr 1 0]), (false, [.ptr 2 0])], [.cells 32 [.data (.slice (.prod .str (.int .i64))), .data (.slice (.prod (.int .i64) (.prod (.int .i64) (.prod (.int .i64) (.int .i64))))), .data (.slice zq1), .data (.slice (.prod (.int .i64) (.prod (.int .i64) (.int .i64))))], .cells 32 [.data (.slice (.prod .str (.int .i64))), .data (.slice (.prod (.int .i64) (.prod (.int .i64) (.prod (.int .i64) (.int .i64))))), .data (.slice zq1), .data (.slice (.prod (.int .i64) (.prod (.int .i64) (.int .i64))))], .cells 32 [.data (.slice (.prod .str (.int .i64))), .data (.slice (.prod (.int .i64) (.prod (.int .i64) (.prod (.int .i64) (.int .i64))))), .data (.slice zq1), .data (.slice (.prod (.int .i64) (.prod (.int .i64) (.int .i64))))]]⟩)]
@[reducible] def law41_TimelineAdds_p1_G (p : zqpv) {β : Type} (d : zqpw.den) (ks : Outs.K β zqpx) : Option β :=
  p (fun a0 => ks.1 (((a0, ()), ()), ())) (fun a0 a1 a2 a3 a4 a5 a6 a7 a8 a9 a10 a11 => ks.2.1 (((), (), (), ()), ((a0, a1, a2, a3, ()), (a4, a5, a6, a7, ()), (a8, a9, a10, a11, ()), ()))) d.1.2.2.2.2.1.1 d.1.2.2.2.2.2.1.1 d.2.1.1 d.2.1.2.1 d.2.1.2.2.1 d.2.1.2.2.2.1 d.2.2.1.1 d.2.2.1.2.1 d.2.2.1.2.2.1 d.2.2.1.2.2.2.1 d.2.2.2.1.1 d.2.2.2.1.2.1 d.2.2.2.1.2.2.1 d.2.2.2.1.2.2.2.1 d.2.2.2.2.1.1 d.2.2.2.2.1.2.1 d.2.2.2.2.1.2.2.1 d.2.2.2.2.1.2.2.2.1
abbrev zqpy (β : Type) := Bool → Option β
abbrev zqpz (β : Type) := Unit → Option β
abbrev zqq0 := {β : Type} → zqpy β → zqpz β → Int → Int → (List (List UInt8 × Int)) → (List (Int × (Int × (Int × Int)))) → (List zq0) → (List (Int × (Int × Int))) → (List (List UInt8 × Int)) → (List (Int × (Int × (Int × Int)))) → (List zq0) → (List (Int × (Int × Int))) → (List (List UInt8 × Int)) → (List (Int × (Int × (Int × Int)))) → (List zq0) → (List (Int × (Int × Int))) → Option β
def zqq1 : View := ⟨0, [4, 9, 11, 180, 181], [(false, [.ptr 0 0]), (false, [.ptr 1 0]), (false, [.ptr 2 0]), (false, [.data (.int .i64)]), (false, [.data (.int .i64)])], [.cells 32 [.data (.slice (.prod .str (.int .i64))), .data (.slice (.prod (.int .i64) (.prod (.int .i64) (.prod (.int .i64) (.int .i64))))), .data (.slice zq1), .data (.slice (.prod (.int .i64) (.prod (.int .i64) (.int .i64))))], .cells 32 [.data (.slice (.prod .str (.int .i64))), .data (.slice (.prod (.int .i64) (.prod (.int .i64) (.prod (.int .i64) (.int .i64))))), .data (.slice zq1), .data (.slice (.prod (.int .i64) (.prod (.int .i64) (.int .i64))))], .cells 32 [.data (.slice (.prod .str (.int .i64))), .data (.slice (.prod (.int .i64) (.prod (.int .i64) (.prod (.int .i64) (.int .i64))))), .data (.slice zq1), .data (.slice (.prod (.int .i64) (.prod (.int .i64) (.int .i64))))]]⟩
def zqq2 : List (AExit × View) := [(.ret, ⟨0, [2], [(false, [.data .bool])], []⟩), (.exit 2, ⟨0, [], [], []⟩)]
@[reducible] def law41_TimelineAdds_p2_G (p : zqq0) {β : Type} (d : zqq1.den) (ks : Outs.K β zqq2) : Option β :=
  p (fun a0 => ks.1 (((a0, ()), ()), ())) (fun _ => ks.2.1 ((), ())) d.1.2.2.2.1.1 d.1.2.2.2.2.1.1 d.2.1.1 d.2.1.2.1 d.2.1.2.2.1 d.2.1.2.2.2.1 d.2.2.1.1 d.2.2.1.2.1 d.2.2.1.2.2.1 d.2.2.1.2.2.2.1 d.2.2.2.1.1 d.2.2.2.1.2.1 d.2.2.2.1.2.2.1 d.2.2.2.1.2.2.2.1
section
variable (c_law41_sane : zqpk) (c_made_Dice_Next : zqj) (c_made_Dice_Record : zq7e) (c_made_Light : zq5) (c_made_Roll : zqc) (c_timeline_Add : zqce) (c_timeline_Merge : zqcl)
@[reducible] def law41_TimelineAdds_X : Ctx := ⟨look tab, pick1 [(6, .spec (zqpl c_law41_sane)), (11, .spec (zqk c_made_Dice_Next)), (8, .spec (zq7f c_made_Dice_Record)), (5, .spec (zq6 c_made_Light)), (7, .spec (zqd c_made_Roll)), (12, .spec (zqcf c_timeline_Add)), (13, .spec (zqcm c_timeline_Merge))], false, false, false, false⟩
def zqq3 {β : Type} (rec : Int → Int → (List (List UInt8 × Int)) → (List (Int × (Int × (Int × Int)))) → (List zq0) → (List (Int × (Int × Int))) → (List (List UInt8 × Int)) → (List (Int × (Int × (Int × Int)))) → (List zq0) → (List (Int × (Int × Int))) → (List (List UInt8 × Int)) → (List (Int × (Int × (Int × Int)))) → (List zq0) → (List (Int × (Int × Int))) → (List (List UInt8 × Int)) → (List (Int × (Int × (Int × Int)))) → (List zq0) → (List (Int × (Int × Int))) → Option β) (k1 : zqpt β) (k2 : zqpu β) (t136 : Int) (t137 : Int) (r_ : List (List UInt8 × Int)) (r_2 : List (Int × (Int × (Int × Int)))) (r_3 : List zq0) (r_4 : List (Int × (Int × Int))) (x : List (List UInt8 × Int)) (x2 : List (Int × (Int × (Int × Int)))) (x3 : List zq0) (x4 : List (Int × (Int × Int))) (y : List (List UInt8 × Int)) (y2 : List (Int × (Int × (Int × Int)))) (y3 : List zq0) (y4 : List (Int × (Int × Int))) (z : List (List UInt8 × Int)) (z2 : List (Int × (Int × (Int × Int)))) (z3 : List zq0) (z4 : List (Int × (Int × Int))) : Option β :=
  cond (decide (t137 < t136))
  (cond (decide (0 ≤ t137) && decide (t137 < (List.length x3 : Int)))
  (let e : zq0 := List.getD x3 (Int.toNat t137) ((0 : Int), ((0 : Int), ([] : List UInt8)));
  cond (decide (0 ≤ t137) && decide (t137 < (List.length r_3 : Int)))
  (let e2 : zq0 := List.getD r_3 (Int.toNat t137) ((0 : Int), ((0 : Int), ([] : List UInt8)));
  cond (!(decide (e.1 = e2.1) && (decide (e.2.1 = e2.2.1) && (decide (e.2.2 = e2.2.2) && true))))
  (k1 false)
  (cond (decide (0 ≤ t137) && decide (t137 < (List.length y3 : Int)))
  (let e3 : zq0 := List.getD y3 (Int.toNat t137) ((0 : Int), ((0 : Int), ([] : List UInt8)));
  cond (decide (0 ≤ t137) && decide (t137 < (List.length r_3 : Int)))
  (let e4 : zq0 := List.getD r_3 (Int.toNat t137) ((0 : Int), ((0 : Int), ([] : List UInt8)));
  cond (!(decide (e3.1 = e4.1) && (decide (e3.2.1 = e4.2.1) && (decide (e3.2.2 = e4.2.2) && true))))
  (k1 false)
  (cond (decide (0 ≤ t137) && decide (t137 < (List.length z3 : Int)))
  (let e5 : zq0 := List.getD z3 (Int.toNat t137) ((0 : Int), ((0 : Int), ([] : List UInt8)));
  cond (decide (0 ≤ t137) && decide (t137 < (List.length r_3 : Int)))
  (let e6 : zq0 := List.getD r_3 (Int.toNat t137) ((0 : Int), ((0 : Int), ([] : List UInt8)));
  cond (!(decide (e5.1 = e6.1) && (decide (e5.2.1 = e6.2.1) && (decide (e5.2.2 = e6.2.2) && true))))
  (k1 false)
  (rec t136 (IntKind.i64.wrap (t137 + (1 : Int))) r_ r_2 r_3 r_4 x x2 x3 x4 y y2 y3 y4 z z2 z3 z4))
  none)
  none))
  none)
  none))
  none)
  none)
  (k2 r_ r_2 r_3 r_4 y y2 y3 y4 z z2 z3 z4)
def zqq4 {β : Type} : Nat → zqpt β → zqpu β → Int → Int → (List (List UInt8 × Int)) → (List (Int × (Int × (Int × Int)))) → (List zq0) → (List (Int × (Int × Int))) → (List (List UInt8 × Int)) → (List (Int × (Int × (Int × Int)))) → (List zq0) → (List (Int × (Int × Int))) → (List (List UInt8 × Int)) → (List (Int × (Int × (Int × Int)))) → (List zq0) → (List (Int × (Int × Int))) → (List (List UInt8 × Int)) → (List (Int × (Int × (Int × Int)))) → (List zq0) → (List (Int × (Int × Int))) → Option β
  | 0 => fun _ _ _ _ _ _ _ _ _ _ _ _ _ _ _ _ _ _ _ _ => none
  | i + 1 => fun k1 k2 t136 t137 r_ r_2 r_3 r_4 x x2 x3 x4 y y2 y3 y4 z z2 z3 z4 => zqq3 (zqq4 i k1 k2) k1 k2 t136 t137 r_ r_2 r_3 r_4 x x2 x3 x4 y y2 y3 y4 z z2 z3 z4
theorem zqq5 (hΓ : ΓOk Tryd.prog (law41_TimelineAdds_X c_law41_sane c_made_Dice_Next c_made_Dice_Record c_made_Light c_made_Roll c_timeline_Add c_timeline_Merge).Γ) (i : Nat) : PieceOk Tryd.prog 210 0 law41_TimelineAdds_p1_code zqpw zqpx (law41_TimelineAdds_p1_G (zqq4 i)) := by
  rw [show law41_TimelineAdds_p1_code = .loop (loopBody law41_TimelineAdds_p1_code) by kernel_rfl]
  exact piece_loop (X := (law41_TimelineAdds_X c_law41_sane c_made_Dice_Next c_made_Dice_Record c_made_Light c_made_Roll c_timeline_Add c_timeline_Merge)) (p := 1) (Λ := pick1 []) (G := fun i => @fun β d ks => law41_TimelineAdds_p1_G (zqq4 i) d ks) mixed tab_ok hΓ rfl (by kernel_rfl) CutsOk_nil (fun _ _ => rfl) (fun i => @fun β d ks r h => Eq.trans (b := law41_TimelineAdds_p1_G (zqq4 (i + 1)) d ks) (by kernel_rfl) h) i
def zqq6 {β : Type} (rec : Int → Int → (List (List UInt8 × Int)) → (List (Int × (Int × (Int × Int)))) → (List zq0) → (List (Int × (Int × Int))) → (List (List UInt8 × Int)) → (List (Int × (Int × (Int × Int)))) → (List zq0) → (List (Int × (Int × Int))) → (List (List UInt8 × Int)) → (List (Int × (Int × (Int × Int)))) → (List zq0) → (List (Int × (Int × Int))) → Option β) (k1 : zqpy β) (k2 : zqpz β) (t180 : Int) (t181 : Int) (r_ : List (List UInt8 × Int)) (r_2 : List (Int × (Int × (Int × Int)))) (r_3 : List zq0) (r_4 : List (Int × (Int × Int))) (y : List (List UInt8 × Int)) (y2 : List (Int × (Int × (Int × Int)))) (y3 : List zq0) (y4 : List (Int × (Int × Int))) (z : List (List UInt8 × Int)) (z2 : List (Int × (Int × (Int × Int)))) (z3 : List zq0) (z4 : List (Int × (Int × Int))) : Option β :=
  cond (decide (t181 < t180))
  (cond (decide (0 ≤ t181) && decide (t181 < (List.length y2 : Int)))
  (let e : (Int × (Int × (Int × Int))) := List.getD y2 (Int.toNat t181) ((0 : Int), ((0 : Int), ((0 : Int), (0 : Int))));
  cond (decide (0 ≤ t181) && decide (t181 < (List.length r_2 : Int)))
  (let e2 : (Int × (Int × (Int × Int))) := List.getD r_2 (Int.toNat t181) ((0 : Int), ((0 : Int), ((0 : Int), (0 : Int))));
  cond (!(decide (e.1 = e2.1) && (decide (e.2.1 = e2.2.1) && (decide (e.2.2.1 = e2.2.2.1) && (decide (e.2.2.2 = e2.2.2.2) && true)))))
  (k1 false)
  (cond (decide (0 ≤ t181) && decide (t181 < (List.length z2 : Int)))
  (let e3 : (Int × (Int × (Int × Int))) := List.getD z2 (Int.toNat t181) ((0 : Int), ((0 : Int), ((0 : Int), (0 : Int))));
  cond (decide (0 ≤ t181) && decide (t181 < (List.length r_2 : Int)))
  (let e4 : (Int × (Int × (Int × Int))) := List.getD r_2 (Int.toNat t181) ((0 : Int), ((0 : Int), ((0 : Int), (0 : Int))));
  cond (!(decide (e3.1 = e4.1) && (decide (e3.2.1 = e4.2.1) && (decide (e3.2.2.1 = e4.2.2.1) && (decide (e3.2.2.2 = e4.2.2.2) && true)))))
  (k1 false)
  (rec t180 (IntKind.i64.wrap (t181 + (1 : Int))) r_ r_2 r_3 r_4 y y2 y3 y4 z z2 z3 z4))
  none)
  none))
  none)
  none)
  (k2 ())
def zqq7 {β : Type} : Nat → zqpy β → zqpz β → Int → Int → (List (List UInt8 × Int)) → (List (Int × (Int × (Int × Int)))) → (List zq0) → (List (Int × (Int × Int))) → (List (List UInt8 × Int)) → (List (Int × (Int × (Int × Int)))) → (List zq0) → (List (Int × (Int × Int))) → (List (List UInt8 × Int)) → (List (Int × (Int × (Int × Int)))) → (List zq0) → (List (Int × (Int × Int))) → Option β
  | 0 => fun _ _ _ _ _ _ _ _ _ _ _ _ _ _ _ _ => none
  | i + 1 => fun k1 k2 t180 t181 r_ r_2 r_3 r_4 y y2 y3 y4 z z2 z3 z4 => zqq6 (zqq7 i k1 k2) k1 k2 t180 t181 r_ r_2 r_3 r_4 y y2 y3 y4 z z2 z3 z4
theorem zqq8 (hΓ : ΓOk Tryd.prog (law41_TimelineAdds_X c_law41_sane c_made_Dice_Next c_made_Dice_Record c_made_Light c_made_Roll c_timeline_Add c_timeline_Merge).Γ) (i : Nat) : PieceOk Tryd.prog 210 0 law41_TimelineAdds_p2_code zqq1 zqq2 (law41_TimelineAdds_p2_G (zqq7 i)) := by
  rw [show law41_TimelineAdds_p2_code = .loop (loopBody law41_TimelineAdds_p2_code) by kernel_rfl]
  exact piece_loop (X := (law41_TimelineAdds_X c_law41_sane c_made_Dice_Next c_made_Dice_Record c_made_Light c_made_Roll c_timeline_Add c_timeline_Merge)) (p := 1) (Λ := pick1 []) (G := fun i => @fun β d ks => law41_TimelineAdds_p2_G (zqq7 i) d ks) mixed tab_ok hΓ rfl (by kernel_rfl) CutsOk_nil (fun _ _ => rfl) (fun i => @fun β d ks r h => Eq.trans (b := law41_TimelineAdds_p2_G (zqq7 (i + 1)) d ks) (by kernel_rfl) h) i
def zqq9 (p1 : zqpv) (p2 : zqq0) {β : Type} (t : List Int) (k : (Bool → Option β)) : Option β :=
  c_made_Light t (fun (rLight : Bool) =>
  cond (!rLight)
  (c_law41_sane  (fun (rsane : Bool) =>
  k rsane))
  (c_made_Roll t (fun (mrRoll : (List Int × Int)) =>
  c_made_Dice_Record (6 : Int) mrRoll (fun (rRecord : zq2) (mrRecord : (List Int × Int)) (lrRecord : List Int) =>
  c_made_Dice_Next (List.length rRecord.1 : Int) mrRecord (fun (rNext : Int) (mrNext : (List Int × Int)) =>
  c_made_Dice_Next (300 : Int) mrNext (fun (rNext2 : Int) (mrNext2 : (List Int × Int)) =>
  c_timeline_Add rRecord (rNext, ((IntKind.i64.wrap ((864000 : Int) + rNext2)), ([110, 101, 119] : List UInt8))) (fun (rAdd : zq2) (rAdd2 : Int) =>
  c_timeline_Merge rRecord (([] : List (List UInt8 × Int)), (([] : List (Int × (Int × (Int × Int)))), (([] : List zq0), ([] : List (Int × (Int × Int)))))) (fun (rMerge : zq2) (rMerge2 : Int) =>
  c_timeline_Merge (([] : List (List UInt8 × Int)), (([] : List (Int × (Int × (Int × Int)))), (([] : List zq0), ([] : List (Int × (Int × Int)))))) rRecord (fun (rMerge3 : zq2) (rMerge4 : Int) =>
  cond (!decide (rAdd2 = (0 : Int)))
  (k false)
  (cond (!decide (rMerge2 = (0 : Int)))
  (k false)
  (cond (!decide (rMerge4 = (0 : Int)))
  (k false)
  (cond (!decide ((List.length rAdd.2.2.1 : Int) = (IntKind.i64.wrap ((List.length rRecord.2.2.1 : Int) + (1 : Int)))))
  (k false)
  (cond (decide (0 ≤ (List.length rRecord.2.2.1 : Int)) && decide ((List.length rRecord.2.2.1 : Int) < (List.length rAdd.2.2.1 : Int)))
  (let e : zq0 := List.getD rAdd.2.2.1 (Int.toNat (List.length rRecord.2.2.1 : Int)) ((0 : Int), ((0 : Int), ([] : List UInt8)));
  cond (!(decide (e.1 = rNext) && (decide (e.2.1 = (IntKind.i64.wrap ((864000 : Int) + rNext2))) && (decide (e.2.2 = ([110, 101, 119] : List UInt8)) && true))))
  (k false)
  (cond (!decide ((List.length rMerge.2.2.1 : Int) = (List.length rRecord.2.2.1 : Int)))
  (k false)
  (cond (!decide ((List.length rMerge3.2.2.1 : Int) = (List.length rRecord.2.2.1 : Int)))
  (k false)
  (cond (!decide ((List.length rMerge3.1 : Int) = (List.length rRecord.1 : Int)))
  (k false)
  (cond (!decide ((List.length rMerge.2.2.2 : Int) = (List.length rRecord.2.2.2 : Int)))
  (k false)
  (cond (!decide ((List.length rMerge.2.1 : Int) = (List.length rRecord.2.1 : Int)))
  (k false)
  (cond (!decide ((List.length rMerge3.2.1 : Int) = (List.length rRecord.2.1 : Int)))
  (k false)
  (p1 (fun (t2 : Bool) =>
  k t2) (fun (r_ : List (List UInt8 × Int)) (r_2 : List (Int × (Int × (Int × Int)))) (r_3 : List zq0) (r_4 : List (Int × (Int × Int))) (y : List (List UInt8 × Int)) (y2 : List (Int × (Int × (Int × Int)))) (y3 : List zq0) (y4 : List (Int × (Int × Int))) (z : List (List UInt8 × Int)) (z2 : List (Int × (Int × (Int × Int)))) (z3 : List zq0) (z4 : List (Int × (Int × Int))) =>
  p2 (fun (t2 : Bool) =>
  k t2) (fun (_ : Unit) =>
  c_law41_sane  (fun (rsane : Bool) =>
  k rsane)) (List.length r_2 : Int) (0 : Int) r_ r_2 r_3 r_4 y y2 y3 y4 z z2 z3 z4) (List.length rRecord.2.2.1 : Int) (0 : Int) rRecord.1 rRecord.2.1 rRecord.2.2.1 rRecord.2.2.2 rAdd.1 rAdd.2.1 rAdd.2.2.1 rAdd.2.2.2 rMerge.1 rMerge.2.1 rMerge.2.2.1 rMerge.2.2.2 rMerge3.1 rMerge3.2.1 rMerge3.2.2.1 rMerge3.2.2.2))))))))
  none)))))))))))))
theorem zqqa (hΓ : ΓOk Tryd.prog (law41_TimelineAdds_X c_law41_sane c_made_Dice_Next c_made_Dice_Record c_made_Light c_made_Roll c_timeline_Add c_timeline_Merge).Γ) (p1 : zqpv) (p2 : zqq0) (hp1 : PieceOk Tryd.prog 210 0 law41_TimelineAdds_p1_code zqpw zqpx (law41_TimelineAdds_p1_G p1)) (hp2 : PieceOk Tryd.prog 210 0 law41_TimelineAdds_p2_code zqq1 zqq2 (law41_TimelineAdds_p2_G p2)) : SpecOk Tryd.prog 4 (zqps (zqq9 c_law41_sane c_made_Dice_Next c_made_Dice_Record c_made_Light c_made_Roll c_timeline_Add c_timeline_Merge p1 p2)) :=
  spec_exec (X := (law41_TimelineAdds_X c_law41_sane c_made_Dice_Next c_made_Dice_Record c_made_Light c_made_Roll c_timeline_Add c_timeline_Merge)) (Λ := pick1 [(16378, pieceCut zqpw zqpx (law41_TimelineAdds_p1_G p1)), (32762, pieceCut zqq1 zqq2 (law41_TimelineAdds_p2_G p2))]) (rs := [.tmp 2]) (c := bodyOf Tryd.f4) mixed tab_ok hΓ Tryd.func4 (by kernel_rfl) (by kernel_rfl) (by kernel_rfl) (by kernel_rfl) (CutsOk_cons (q := 16378) (c' := law41_TimelineAdds_p1_code) (by kernel_rfl) rfl hp1 (CutsOk_cons (q := 32762) (c' := law41_TimelineAdds_p2_code) (by kernel_rfl) rfl hp2 CutsOk_nil)) (fun x k r h => Eq.trans (b := (zqps (zqq9 c_law41_sane c_made_Dice_Next c_made_Dice_Record c_made_Light c_made_Roll c_timeline_Add c_timeline_Merge p1 p2)).run x k) (by kernel_rfl) h)
end
theorem zqqbΓ : ΓOk Tryd.prog (pick1 [(6, .spec (zqpl zqpp)), (11, .spec (zqk zqo)), (8, .spec (zq7f zq90)), (5, .spec (zq6 zqa)), (7, .spec (zqd zqh)), (12, .spec (zqcf zqcj)), (13, .spec (zqcm zqdn))]) := (ΓOk_cons zqpq (ΓOk_cons zqp (ΓOk_cons zq91 (ΓOk_cons zqb (ΓOk_cons zqi (ΓOk_cons zqck (ΓOk_cons zqdo ΓOk_nil)))))))
def zqqc (m : Nat) : zqpv := zqq4 m
theorem zqqd {β : Type} (i : Nat) (k1 k2 t136 t137 r_ r_2 r_3 r_4 x x2 x3 x4 y y2 y3 y4 z z2 z3 z4) : (zqqc (i + 1) k1 k2 t136 t137 r_ r_2 r_3 r_4 x x2 x3 x4 y y2 y3 y4 z z2 z3 z4 : Option β) = zqq3 (zqqc i k1 k2) k1 k2 t136 t137 r_ r_2 r_3 r_4 x x2 x3 x4 y y2 y3 y4 z z2 z3 z4 := rfl
def zqqe : zqpv := zqqc fuel
theorem zqqf : PieceOk Tryd.prog 210 0 law41_TimelineAdds_p1_code zqpw zqpx (law41_TimelineAdds_p1_G zqqe) := zqq5 zqpp zqo zq90 zqa zqh zqcj zqdn zqqbΓ fuel
def zqqg (m : Nat) : zqq0 := zqq7 m
theorem zqqh {β : Type} (i : Nat) (k1 k2 t180 t181 r_ r_2 r_3 r_4 y y2 y3 y4 z z2 z3 z4) : (zqqg (i + 1) k1 k2 t180 t181 r_ r_2 r_3 r_4 y y2 y3 y4 z z2 z3 z4 : Option β) = zqq6 (zqqg i k1 k2) k1 k2 t180 t181 r_ r_2 r_3 r_4 y y2 y3 y4 z z2 z3 z4 := rfl
def zqqi : zqq0 := zqqg fuel
theorem zqqj : PieceOk Tryd.prog 210 0 law41_TimelineAdds_p2_code zqq1 zqq2 (law41_TimelineAdds_p2_G zqqi) := zqq8 zqpp zqo zq90 zqa zqh zqcj zqdn zqqbΓ fuel
def zqqk : zqpr := zqq9 zqpp zqo zq90 zqa zqh zqcj zqdn zqqe zqqi
theorem zqql : SpecOk Tryd.prog 4 (zqps zqqk) := zqqa zqpp zqo zq90 zqa zqh zqcj zqdn zqqbΓ zqqe zqqi zqqf zqqj
end
end Go.Lift
/- Plain lemmas about functional forms: tests that are known, loops. -/
namespace Go.Lift
open Go.RowKit Go.IntWalk

section
variable {β : Type}
/-! ### Tests -/
theorem c_inb {i n : Int} {a b : Option β} (h : 0 ≤ i ∧ i < n) : cond (decide (0 ≤ i) && decide (i < n)) a b = a := by
  rw [decide_eq_true h.1, decide_eq_true h.2]; rfl
theorem c_room {n : Nat} {a b : Option β} (h : n ≤ 140737488355328) : cond (decide (n ≤ roomMax)) a b = a := by
  rw [decide_eq_true (p := n ≤ roomMax) h]; rfl
theorem c_pos {p : Prop} [Decidable p] {a b : Option β} (h : p) : cond (decide p) a b = a := by rw [decide_eq_true h]; rfl
theorem c_neg {p : Prop} [Decidable p] {a b : Option β} (h : ¬ p) : cond (decide p) a b = b := by rw [decide_eq_false h]; rfl
theorem c_npos {p : Prop} [Decidable p] {a b : Option β} (h : p) : cond (!decide p) a b = b := by rw [decide_eq_true h]; rfl
theorem c_nneg {p : Prop} [Decidable p] {a b : Option β} (h : ¬ p) : cond (!decide p) a b = a := by rw [decide_eq_false h]; rfl
theorem c_t {a b : Option β} : cond true a b = a := rfl
theorem c_f {a b : Option β} : cond false a b = b := rfl
theorem c_not {p : Bool} {a b : Option β} : cond (!p) a b = cond p b a := by cases p <;> rfl
theorem c_and {p q : Bool} {a b : Option β} : cond p (cond q a b) b = cond (p && q) a b := by cases p <;> rfl
theorem c_nand {p q : Bool} {a b : Option β} : cond p b (cond q a b) = cond (!p && q) a b := by cases p <;> rfl
theorem c_k {γ : Type} (k : γ → Option β) (p : Bool) (x y : γ) : cond p (k x) (k y) = k (cond p x y) := by cases p <;> rfl
theorem c_kb (k : Bool → Option β) (p q : Bool) : cond p (k q) (k false) = k (p && q) := by cases p <;> rfl
theorem pair_eta {γ δ : Type} (p : γ × δ) : (p.1, p.2) = p := rfl
theorem k_eq {γ : Type} {k : γ → Option β} {x y : γ} (h : x = y) : k x = k y := by rw [h]

/-! ### Loops over the numbers from 0 on -/
/-- A walk over a list that may end early. -/
def walk {α σ ε : Type} (g : Nat → α → σ → ε ⊕ σ) : List α → Nat → σ → ε ⊕ σ
  | [], _, s => .inr s
  | x :: r, j, s =>
    match g j x s with
    | .inl e => .inl e
    | .inr s' => walk g r (j + 1) s'

def sumK {ε σ : Type} (E : ε → Option β) (K : σ → Option β) : ε ⊕ σ → Option β
  | .inl e => E e
  | .inr s => K s

theorem walk_loop {α σ ε : Type} (F : Nat → Int → σ → Option β) (g : Nat → α → σ → ε ⊕ σ) (E : ε → Option β) (K : σ → Option β) (d : α) (xs : List α)
    (h1 : ∀ (m i : Nat) s, i < xs.length → F (m + 1) (i : Int) s = sumK E (fun s' => F m ((i : Int) + 1) s') (g i (xs.getD i d) s))
    (h2 : ∀ (m : Nat) s, F (m + 1) (xs.length : Int) s = K s) :
    ∀ (r : List α) (j fuel : Nat) (s : σ), xs.drop j = r → j + r.length = xs.length → r.length < fuel → F fuel (j : Int) s = sumK E K (walk g r j s)
  | r, j, 0, s, _, _, h => absurd h (Nat.not_lt_zero _)
  | [], j, m + 1, s, hd, hj, _ => by
    simp only [List.length_nil, Nat.add_zero] at hj
    subst hj
    rw [h2]; rfl
  | x :: r, j, m + 1, s, hd, hj, hm => by
    simp only [List.length_cons] at hj hm
    have h3 : j < xs.length := by omega
    have hx : xs.getD j d = x := by
      rw [List.drop_eq_getElem_cons h3] at hd
      injection hd with hd1 hd2
      simp [List.getD, h3, hd1]
    have hr : xs.drop (j + 1) = r := by
      rw [List.drop_eq_getElem_cons h3] at hd
      injection hd with hd1 hd2
    rw [h1 m j s h3, hx, walk]
    cases hg : g j x s with
    | inl e => rfl
    | inr s' =>
      simp only [sumK]
      exact walk_loop F g E K d xs h1 h2 r (j + 1) m s' hr (by omega) (by omega)

theorem walk_loop0 {α σ ε : Type} (F : Nat → Int → σ → Option β) (g : Nat → α → σ → ε ⊕ σ) (E : ε → Option β) (K : σ → Option β) (d : α) (xs : List α) (s : σ) (n : Nat) (hn : xs.length < n)
    (h1 : ∀ (m i : Nat) s, i < xs.length → F (m + 1) (i : Int) s = sumK E (fun s' => F m ((i : Int) + 1) s') (g i (xs.getD i d) s))
    (h2 : ∀ (m : Nat) s, F (m + 1) (xs.length : Int) s = K s) : F n 0 s = sumK E K (walk g xs 0 s) :=
  walk_loop F g E K d xs h1 h2 xs 0 n s rfl (by simp) hn

/-- A loop that only looks: every element, or out. -/
theorem check_loop {α : Type} (F : Nat → Int → Option β) (p : α → Bool) (E K : Option β) (d : α) (xs : List α) (n : Nat) (hn : xs.length < n)
    (h1 : ∀ (m i : Nat), i < xs.length → F (m + 1) (i : Int) = cond (p (xs.getD i d)) (F m ((i : Int) + 1)) E)
    (h2 : ∀ (m : Nat), F (m + 1) (xs.length : Int) = K) : F n 0 = cond (xs.all p) K E := by
  have h := walk_loop0 (ε := Unit) (fun m i (_ : Unit) => F m i) (fun _ x s => cond (p x) (.inr s) (.inl ())) (fun _ => E) (fun _ => K) d xs () n hn
    (fun m i s hi => by rw [h1 m i hi]; cases p (xs.getD i d) <;> rfl) (fun m s => h2 m)
  rw [h]
  have key : ∀ (l : List α) (j : Nat), sumK (fun _ => E) (fun _ => K) (walk (ε := Unit) (fun _ x (s : Unit) => cond (p x) (.inr s) (.inl ())) l j ()) = cond (l.all p) K E := by
    intro l
    induction l with
    | nil => intro j; rfl
    | cons x l ih =>
      intro j
      simp only [walk, List.all_cons]
      cases p x with
      | true => simpa using ih (j + 1)
      | false => rfl
  exact key xs 0

/-- A loop with an invariant and a measure. -/
theorem while_loop {σ ρ : Type} {Kt : Type → Type} (F : {β : Type} → Kt β → Nat → σ → Option β) (X : {β : Type} → Kt β → ρ → Option β) (I : σ → Prop) (μ : σ → Nat) (Q : ρ → Prop)
    (step : ∀ s, I s → (∃ s', I s' ∧ μ s' < μ s ∧ ∀ {β : Type} (k : Kt β) m, F k (m + 1) s = F k m s') ∨ (∃ r, Q r ∧ ∀ {β : Type} (k : Kt β) m, F k (m + 1) s = X k r)) :
    ∀ (N : Nat) (s : σ), I s → μ s < N → ∃ r, Q r ∧ ∀ {β : Type} (k : Kt β), F k N s = X k r := by
  intro N
  induction N with
  | zero => intro s _ h; omega
  | succ N ih =>
    intro s hI hN
    rcases step s hI with ⟨s', h1, h2, h3⟩ | ⟨r, h1, h2⟩
    · obtain ⟨r, h4, h5⟩ := ih s' h1 (by omega)
      exact ⟨r, h4, fun k => (h3 k N).trans (h5 k)⟩
    · exact ⟨r, h1, fun k => h2 k N⟩
end
end Go.Lift

/- Square matrices as lists of rows. -/
namespace Go.Lift
open Go.RowKit Go.IntWalk
noncomputable section
set_option linter.unusedVariables false
set_option linter.unusedSimpArgs false

abbrev Mat := List (List Int)
def at2 (m : Mat) (i j : Nat) : Int := (m.getD i []).getD j 0
structure Sq (n : Nat) (m : Mat) : Prop where
  len : m.length = n
  row : ∀ i, i < n → (m.getD i []).length = n
def setAt (m : Mat) (i j : Nat) (v : Int) : Mat := m.set i ((m.getD i []).set j v)

theorem getD_set_eq {α : Type} {l : List α} {i : Nat} {v d : α} (h : i < l.length) : (l.set i v).getD i d = v := by simp [List.getD, h]
theorem getD_set_ne {α : Type} {l : List α} {i j : Nat} {v d : α} (h : i ≠ j) : (l.set i v).getD j d = l.getD j d := by simp [List.getD, List.getElem?_set_ne h]

theorem Sq.setAt {n : Nat} {m : Mat} (h : Sq n m) (i j : Nat) (v : Int) : Sq n (setAt m i j v) := by
  refine ⟨by simp [Go.Lift.setAt, h.len], fun a ha => ?_⟩
  by_cases hi : i = a
  · subst hi
    unfold Go.Lift.setAt
    rw [getD_set_eq (by rw [h.len]; exact ha), List.length_set]
    exact h.row i ha
  · unfold Go.Lift.setAt
    rw [getD_set_ne hi]
    exact h.row a ha

theorem at_setAt {n : Nat} {m : Mat} (h : Sq n m) {i j : Nat} (hi : i < n) (hj : j < n) (v : Int) (a b : Nat) : at2 (setAt m i j v) a b = if a = i ∧ b = j then v else at2 m a b := by
  unfold at2 setAt
  by_cases hai : i = a
  · subst hai
    rw [getD_set_eq (by rw [h.len]; exact hi)]
    by_cases hbj : j = b
    · subst hbj
      rw [getD_set_eq (by rw [h.row i hi]; exact hj), if_pos ⟨rfl, rfl⟩]
    · rw [getD_set_ne hbj, if_neg (fun h => hbj h.2.symm)]
  · rw [getD_set_ne hai, if_neg (fun h => hai h.1.symm)]

abbrev BIG : Int := 1099511627776
/-- One update of the closure. -/
def relaxW (k i j : Nat) (m : Mat) : Mat :=
  if at2 m i k = BIG ∨ at2 m k j = BIG then m
  else setAt m i j (if IntKind.i64.wrap (at2 m i k + at2 m k j) < at2 m i j then IntKind.i64.wrap (at2 m i k + at2 m k j) else at2 m i j)
def rowW (n k i : Nat) (m : Mat) : Mat := (List.range n).foldl (fun m j => relaxW k i j m) m
def roundW (n k : Nat) (m : Mat) : Mat := (List.range n).foldl (fun m i => rowW n k i m) m

theorem Sq.relaxW {n : Nat} {m : Mat} (h : Sq n m) (k i j : Nat) : Sq n (relaxW k i j m) := by
  unfold Go.Lift.relaxW
  split
  · exact h
  · exact h.setAt _ _ _

theorem fold_inv {α σ : Type} (I : σ → Prop) (g : σ → α → σ) (hg : ∀ s x, I s → I (g s x)) : ∀ (l : List α) (s : σ), I s → I (l.foldl g s)
  | [], _, h => h
  | x :: l, s, h => fold_inv I g hg l _ (hg s x h)

theorem Sq.rowW {n : Nat} {m : Mat} (h : Sq n m) (k i : Nat) : Sq n (rowW n k i m) := fold_inv (Sq n) _ (fun m j h => h.relaxW k i j) _ _ h
theorem Sq.roundW {n : Nat} {m : Mat} (h : Sq n m) (k : Nat) : Sq n (roundW n k m) := fold_inv (Sq n) _ (fun m i h => h.rowW k i) _ _ h
end
end Go.Lift

/- Clocks in plain Lean: what the forms of the chapter 38, the program's and the reference's, compute. -/
namespace Go.Lift
open Go.RowKit Go.IntWalk
noncomputable section
set_option linter.unusedVariables false
set_option linter.unusedSimpArgs false

def inN (n low high : Int) : Bool := decide (low ≤ n) && decide (n ≤ high)
theorem inN_iff {n low high : Int} : inN n low high = true ↔ low ≤ n ∧ n ≤ high := by simp [inN]
theorem inN_mk {n low high : Int} (h : low ≤ n ∧ n ≤ high) : inN n low high = true := inN_iff.2 h

abbrev Host := List UInt8 × Int
abbrev Sync := Int × Int × Int × Int
abbrev Event := Int × Int × List UInt8
abbrev Link := Int × Int × Int
abbrev Rec := List Host × List Sync × List Event × List Link

/-- The numbers of a comparison are right. -/
def okSync (s : Sync) : Bool := inN s.2.1 0 8589934592 && (inN s.2.2.1 0 8589934592 && (inN s.2.2.2 0 8589934592 && decide (s.2.2.1 ≤ s.2.2.2)))
def vHost (h : Host) : Bool := inN h.2 0 500000
def vSync (n : Nat) (s : Sync) : Bool := inN s.1 0 ((n : Int) - 1) && okSync s
def vEvent (n : Nat) (e : Event) : Bool := inN e.1 0 ((n : Int) - 1) && inN e.2.1 0 8589934592
def vLink (n : Nat) (l : Link) : Bool := inN l.1 0 ((n : Int) - 1) && (inN l.2.1 0 ((n : Int) - 1) && (!decide (l.1 = l.2.1) && inN l.2.2 0 8589934592))
def small (r : Rec) : Bool := !decide ((8 : Int) < r.1.length) && (!decide ((64 : Int) < r.2.1.length) && (!decide ((40 : Int) < r.2.2.1.length) && !decide ((64 : Int) < r.2.2.2.length)))
def valid (r : Rec) : Bool := small r && (r.1.all vHost && (r.2.1.all (vSync r.1.length) && (r.2.2.1.all (vEvent r.1.length) && r.2.2.2.all (vLink r.2.2.1.length))))

/-- How far the time advances while a clock advances. -/
def elapsed (drift d : Int) : Int × Int :=
  cond (inN drift 0 500000 && inN d 0 8589934592) (d * 1000000 / (1000000 + drift), (d * 1000000 + (1000000 - drift) - 1) / (1000000 - drift)) (0, 0)
def fromS (h : Host) (s : Sync) (c : Int) : Int × Int :=
  cond (vHost h && (okSync s && inN c 0 8589934592))
    (cond (decide (s.2.1 ≤ c)) (s.2.2.1 + (elapsed h.2 (c - s.2.1)).1, s.2.2.2 + (elapsed h.2 (c - s.2.1)).2) (s.2.2.1 - (elapsed h.2 (s.2.1 - c)).2, s.2.2.2 - (elapsed h.2 (s.2.1 - c)).1))
    (-1099511627776, 1099511627776)
def meet2 (a b : Int × Int) : Int × Int := (if b.1 > a.1 then b.1 else a.1, if b.2 < a.2 then b.2 else a.2)
def whenR (r : Rec) (host c : Int) : Int × Int :=
  r.2.1.foldl (fun out s => cond (decide (s.1 = host)) (meet2 out (fromS (r.1.getD host.toNat ([], 0)) s c)) out) (0, 8589934592)
def when? (r : Rec) (host c : Int) : (Int × Int) × Bool :=
  cond (valid r && (inN host 0 ((r.1.length : Int) - 1) && inN c 0 8589934592)) (whenR r host c, !decide ((whenR r host c).2 < (whenR r host c).1)) ((0, 0), false)
section
variable {β : Type}
theorem clock_in_eq (n lo hi : Int) (k : Bool → Option β) : zq3b n lo hi k = k (inN n lo hi) := by
  simp only [zq3b, zq38, inN, c_kb]
theorem clock_instant_eq (n : Int) (k : Bool → Option β) : zq3i n k = k (inN n 0 8589934592) := by
  simp only [zq3i, zq3f, clock_in_eq]
theorem clock_compared_eq (s : Sync) (k : Bool → Option β) : zq9s s k = k (okSync s) := by
  simp only [zq9s, zq9p, clock_instant_eq, c_kb, okSync]

theorem clock_Valid_p1_eq (k1 : zqaa β) (k2 : zqab β) (xs : List Host) (hx : xs.length ≤ 1000000) (r : List Host) (r2 : List Sync) (r3 : List Event) (r4 : List Link) :
    zqbb k1 k2 xs xs.length 0 r r2 r3 r4 = cond (xs.all vHost) (k2 r r2 r3 r4) (k1 false) := by
  refine check_loop (fun m i => zqb9 m k1 k2 xs xs.length i r r2 r3 r4) vHost _ _ ([], 0) xs fuel (lt_fuel (by omega)) (fun m i hi => ?_) (fun m => ?_)
  · simp (disch := omega) only [zqba, zqau, clock_in_eq, c_pos, c_inb, c_not, i64_in, Int.toNat_natCast, vHost]
  · simp (disch := omega) only [zqba, zqau, c_neg]

theorem clock_Valid_p2_eq (k1 : zqaf β) (k2 : zqag β) (xs : List Sync) (hx : xs.length ≤ 1000000) (r : List Host) (hr : r.length ≤ 1000000) (r2 : List Sync) (r3 : List Event) (r4 : List Link) :
    zqbf k1 k2 xs xs.length 0 r r2 r3 r4 = cond (xs.all (vSync r.length)) (k2 r r2 r3 r4) (k1 false) := by
  refine check_loop (fun m i => zqbd m k1 k2 xs xs.length i r r2 r3 r4) (vSync r.length) _ _ (0, 0, 0, 0) xs fuel (lt_fuel (by omega)) (fun m i hi => ?_) (fun m => ?_)
  · simp (disch := omega) only [zqbe, zqax, clock_in_eq, clock_compared_eq, c_pos, c_inb, c_not, i64_in, Int.toNat_natCast, vSync, c_and]
  · simp (disch := omega) only [zqbe, zqax, c_neg]

theorem clock_Valid_p3_eq (k1 : zqak β) (k2 : zqal β) (xs : List Event) (hx : xs.length ≤ 1000000) (r : List Host) (hr : r.length ≤ 1000000) (r2 : List Sync) (r3 : List Event) (r4 : List Link) :
    zqbj k1 k2 xs xs.length 0 r r2 r3 r4 = cond (xs.all (vEvent r.length)) (k2 r r2 r3 r4) (k1 false) := by
  refine check_loop (fun m i => zqbh m k1 k2 xs xs.length i r r2 r3 r4) (vEvent r.length) _ _ (0, 0, []) xs fuel (lt_fuel (by omega)) (fun m i hi => ?_) (fun m => ?_)
  · simp (disch := omega) only [zqbi, zqb0, clock_in_eq, clock_instant_eq, c_pos, c_inb, c_not, i64_in, Int.toNat_natCast, vEvent, c_and]
  · simp (disch := omega) only [zqbi, zqb0, c_neg]

theorem clock_Valid_p4_eq (k1 : zqap β) (k2 : zqaq β) (xs : List Link) (hx : xs.length ≤ 1000000) (r : List Host) (r2 : List Sync) (r3 : List Event) (hr : r3.length ≤ 1000000) (r4 : List Link) :
    zqbn k1 k2 xs xs.length 0 r r2 r3 r4 = cond (xs.all (vLink r3.length)) (k2 ()) (k1 false) := by
  refine check_loop (fun m i => zqbl m k1 k2 xs xs.length i r r2 r3 r4) (vLink r3.length) _ _ (0, 0, 0) xs fuel (lt_fuel (by omega)) (fun m i hi => ?_) (fun m => ?_)
  · simp (disch := omega) only [zqbm, zqb3, clock_in_eq, clock_instant_eq, c_pos, c_inb, c_not, i64_in, Int.toNat_natCast, vLink, c_nand, c_and, Bool.not_not]
  · simp (disch := omega) only [zqbm, zqb3, c_neg]

theorem clock_Valid_eq (r : Rec) (k : Bool → Option β) : zqbp r k = k (valid r) := by
  simp only [zqbp, zqb6]
  by_cases h1 : (8 : Int) < r.1.length
  · simp [valid, small, h1]
  by_cases h2 : (64 : Int) < r.2.1.length
  · simp [valid, small, h1, h2]
  by_cases h3 : (40 : Int) < r.2.2.1.length
  · simp [valid, small, h1, h2, h3]
  by_cases h4 : (64 : Int) < r.2.2.2.length
  · simp [valid, small, h1, h2, h3, h4]
  rw [decide_eq_false h1, decide_eq_false h2, decide_eq_false h3, decide_eq_false h4]
  simp only [c_f]
  rw [clock_Valid_p1_eq _ _ _ (by omega), clock_Valid_p2_eq _ _ _ (by omega) _ (by omega), clock_Valid_p3_eq _ _ _ (by omega) _ (by omega), clock_Valid_p4_eq _ _ _ (by omega) _ _ _ (by omega)]
  simp only [c_kb, c_k, valid, small, decide_eq_false h1, decide_eq_false h2, decide_eq_false h3, decide_eq_false h4, Bool.not_false, Bool.true_and]
  apply k_eq
  cases r.1.all vHost <;> cases r.2.1.all (vSync r.1.length) <;> cases r.2.2.1.all (vEvent r.1.length) <;> cases r.2.2.2.all (vLink r.2.2.1.length) <;> rfl

theorem elapsed_bd {drift d : Int} : 0 ≤ (elapsed drift d).1 ∧ (elapsed drift d).1 ≤ 8589934592 ∧ 0 ≤ (elapsed drift d).2 ∧ (elapsed drift d).2 ≤ 17179869184 := by
  unfold elapsed
  cases h : inN drift 0 500000 && inN d 0 8589934592 with
  | false => simp
  | true =>
    simp only [cond_true]
    rw [Bool.and_eq_true, inN_iff, inN_iff] at h
    have hp1 : (0 : Int) < 1000000 + drift := by omega
    have hp2 : (0 : Int) < 1000000 - drift := by omega
    refine ⟨Int.ediv_nonneg (by omega) (by omega), ?_, Int.ediv_nonneg (by omega) (by omega), ?_⟩
    · apply Int.le_of_lt_add_one
      rw [Int.ediv_lt_iff_lt_mul hp1]
      have : (8589934592 + 1) * 1000000 ≤ (8589934592 + 1) * (1000000 + drift) := Int.mul_le_mul_of_nonneg_left (by omega) (by omega)
      omega
    · apply Int.le_of_lt_add_one
      rw [Int.ediv_lt_iff_lt_mul hp2]
      have : (17179869184 + 1) * 500000 ≤ (17179869184 + 1) * (1000000 - drift) := Int.mul_le_mul_of_nonneg_left (by omega) (by omega)
      omega

theorem valid_bd {r : Rec} (h : valid r = true) : r.1.length ≤ 8 ∧ r.2.1.length ≤ 64 ∧ r.2.2.1.length ≤ 40 ∧ r.2.2.2.length ≤ 64 := by
  simp [valid, small] at h
  omega

end
end
end Go.Lift

/- The dice in plain Lean. -/
namespace Go.Lift
open Go.RowKit Go.IntWalk
noncomputable section
set_option linter.unusedVariables false
set_option linter.unusedSimpArgs false

abbrev Dice := List Int × Int
def DiceOk (d : Dice) : Prop := 0 ≤ d.2 ∧ d.2 ≤ d.1.length ∧ d.1.length ≤ 500

theorem light_eq {β : Type} (l : List Int) (k : Bool → Option β) : zqa l k = k (decide ((l.length : Int) ≤ 500)) := by
  simp only [zqa, zq7]
theorem roll_eq {β : Type} (l : List Int) (k : Dice → Option β) : zqh l k = k (l, 0) := by
  simp only [zqh, zqe]
theorem roll_ok {l : List Int} (h : (l.length : Int) ≤ 500) : DiceOk (l, 0) := ⟨by simp, by simp, by show l.length ≤ 500; omega⟩

theorem next_ok {n : Int} {d : Dice} (hd : DiceOk d) (hn : 1 ≤ n ∧ n ≤ 4611686018427387904) :
    ∃ x d', 0 ≤ x ∧ x < n ∧ DiceOk d' ∧ ∀ {β : Type} (k : Int → Dice → Option β), zqo n d k = k x d' := by
  obtain ⟨h1, h2, h3⟩ := hd
  by_cases ha : (d.1.length : Int) ≤ d.2
  · exact ⟨0, d, by omega, by omega, ⟨h1, h2, h3⟩, fun k => by simp (disch := omega) only [zqo, zql, c_pos]⟩
  · generalize hv : List.getD d.1 (Int.toNat d.2) (0 : Int) = v
    have hm1 := Int.tmod_lt_of_pos v (show 0 < n by omega)
    have hm2 : -n < Int.tmod v n := by
      have h5 := Int.tmod_lt_of_pos (-v) (show 0 < n by omega)
      rw [Int.neg_tmod] at h5
      omega
    have hd' : DiceOk (d.1, d.2 + 1) := ⟨by show (0 : Int) ≤ d.2 + 1; omega, by show d.2 + 1 ≤ (d.1.length : Int); omega, h3⟩
    by_cases hc : Int.tmod v n < 0
    · refine ⟨Int.tmod v n + n, (d.1, d.2 + 1), by omega, by omega, hd', fun k => ?_⟩
      simp (disch := omega) only [zqo, zql, hv, c_pos, c_neg, c_inb, c_nneg, i64_in]
    · refine ⟨Int.tmod v n, (d.1, d.2 + 1), by omega, by omega, hd', fun k => ?_⟩
      simp (disch := omega) only [zqo, zql, hv, c_pos, c_neg, c_inb, c_nneg, i64_in]

end
end Go.Lift

/- The dice in plain Lean: one of several numbers. -/
namespace Go.Lift
open Go.RowKit Go.IntWalk
noncomputable section
set_option linter.unusedVariables false
set_option linter.unusedSimpArgs false

theorem one_ok {l : List Int} {d : Dice} (hl : 0 < l.length) (hlen : l.length ≤ 1000000) (hd : DiceOk d) :
    ∃ x d', x ∈ l ∧ DiceOk d' ∧ ∀ {β : Type} (k : Int → Dice → Option β), zqv l d k = k x d' := by
  obtain ⟨x, d', h1, h2, hd', hf⟩ := next_ok (n := (l.length : Int)) hd (by omega)
  have hxn : x.toNat < l.length := by omega
  refine ⟨l.getD x.toNat 0, d', ?_, hd', fun k => ?_⟩
  · simp [List.getD, hxn]
  · simp (disch := omega) only [zqv, zqs, hf, c_inb]
end
end Go.Lift

/- Records made by the dice, in plain Lean. -/
namespace Go.Lift
open Go.RowKit Go.IntWalk
noncomputable section
set_option linter.unusedVariables false
set_option linter.unusedSimpArgs false

structure HostsOk (hosts : List Host) (ahead : List Int) : Prop where
  len : ahead.length = hosts.length
  most : hosts.length ≤ 3
  drift : ∀ h ∈ hosts, h.2 = 0 ∨ h.2 = 100 ∨ h.2 = 50000 ∨ h.2 = 500000
  off : ∀ a ∈ ahead, a = 0 ∨ a = 7 ∨ a = 100
/-- A comparison at a true time. -/
def SyncOk (nh : Nat) (ahead : List Int) (s : Sync) : Prop :=
  0 ≤ s.1 ∧ s.1 < nh ∧ ∃ t, 864000 ≤ t ∧ t < 864400 ∧ s.2.1 = t + ahead.getD s.1.toNat 0 ∧ t - 20 ≤ s.2.2.1 ∧ s.2.2.1 ≤ t ∧ t ≤ s.2.2.2 ∧ s.2.2.2 ≤ t + 15
def EventOk (nh : Nat) (ahead : List Int) (e : Event) (t : Int) : Prop :=
  0 ≤ e.1 ∧ e.1 < nh ∧ 864000 ≤ t ∧ t < 864300 ∧ e.2.1 = t + ahead.getD e.1.toNat 0
def LinkOk (times : List Int) (l : Link) : Prop :=
  0 ≤ l.1 ∧ l.1 < times.length ∧ 0 ≤ l.2.1 ∧ l.2.1 < times.length ∧ l.1 ≠ l.2.1 ∧ 0 ≤ l.2.2 ∧ times.getD l.1.toNat 0 + l.2.2 ≤ times.getD l.2.1.toNat 0
/-- What a record of the dice is. -/
structure RecOk (n : Int) (r : Rec) (ahead times : List Int) : Prop where
  hosts : HostsOk r.1 ahead
  some_ : 1 ≤ r.1.length
  fewS : r.2.1.length ≤ 8
  syncs : ∀ s ∈ r.2.1, SyncOk r.1.length ahead s
  lenE : times.length = r.2.2.1.length
  fewE : (r.2.2.1.length : Int) ≤ n
  events : ∀ i, i < r.2.2.1.length → EventOk r.1.length ahead (r.2.2.1.getD i (0, 0, [])) (times.getD i 0)
  fewL : r.2.2.2.length ≤ 8
  links : ∀ l ∈ r.2.2.2, LinkOk times l

theorem getD_mem {α : Type} {l : List α} {i : Nat} {d : α} (h : i < l.length) : l.getD i d ∈ l := by simp [List.getD, h]
theorem getD_append {α : Type} {l l' : List α} {i : Nat} {d : α} (h : i < l.length) : (l ++ l').getD i d = l.getD i d := by simp [List.getD, List.getElem?_append_left h]
theorem getD_last {α : Type} {l : List α} {x d : α} : (l ++ [x]).getD l.length d = x := by simp [List.getD]

theorem record_p1 (n N : Int) (hN : 1 ≤ N ∧ N ≤ 3) {d : Dice} (hd : DiceOk d) :
    ∃ q : Dice × List Int × List Host, (DiceOk q.1 ∧ HostsOk q.2.2 q.2.1 ∧ (q.2.2.length : Int) = N) ∧
      ∀ {β : Type} (k : zq7g β), zq8k k n N d.1 d.2 [] [] [] [] [] [] [] [] [] = k n q.1.1 q.1.2 q.2.1 [] [] [] [] q.2.2 [] [] [] := by
  refine while_loop (σ := Int × Dice × List Int × List Host) (ρ := Dice × List Int × List Host) (Kt := zq7g)
    (fun k m s => zq8i m k n s.1 s.2.1.1 s.2.1.2 s.2.2.1 [] [] [] [] s.2.2.2 [] [] []) (fun k q => k n q.1.1 q.1.2 q.2.1 [] [] [] [] q.2.2 [] [] [])
    (fun s => 0 ≤ s.1 ∧ s.1 + s.2.2.2.length = N ∧ DiceOk s.2.1 ∧ HostsOk s.2.2.2 s.2.2.1) (fun s => s.1.toNat) _ ?_ fuel (N, d, [], []) ⟨by omega, by simp, hd, ⟨rfl, by simp, by simp, by simp⟩⟩ (lt_fuel (by show N.toNat < _; omega))
  rintro ⟨i, d, ahead, hosts⟩ ⟨h0, h1, h2, h3⟩
  simp only at h0 h1 h2 h3
  have hl := h3.len
  by_cases hi : 0 < i
  · left
    obtain ⟨x, d1, hx, hd1, f1⟩ := one_ok (l := [0, 0, 100, 50000, 500000]) (by simp) (by simp) h2
    obtain ⟨y, d2, hy, hd2, f2⟩ := one_ok (l := [0, 7, 100]) (by simp) (by simp) hd1
    refine ⟨(i - 1, d2, ahead ++ [y], hosts ++ [(List.getD [[100, 98], [119, 101, 98], [108, 98]] hosts.length [], x)]), ⟨by simp only; omega, by simp; omega, hd2, ?_⟩, by simp only; omega, fun k m => ?_⟩
    · refine ⟨by simp [hl], by simp; omega, fun h hh => ?_, fun a ha => ?_⟩
      · simp only [List.mem_append, List.mem_singleton] at hh
        rcases hh with hh | rfl
        · exact h3.drift h hh
        · simpa using hx
      · simp only [List.mem_append, List.mem_singleton] at ha
        rcases ha with ha | rfl
        · exact h3.off a ha
        · simpa using hy
    · simp (disch := omega) only [zq8j, zq80, pair_eta, c_pos, c_inb, c_room, f1, f2, i64_in, List.length_cons, List.length_nil, Int.toNat_natCast]
  · right
    exact ⟨(d, ahead, hosts), ⟨h2, h3, by simp only; omega⟩, fun k m => by simp (disch := omega) only [zq8j, zq80, c_neg]⟩

theorem ahead_bd {hosts : List Host} {ahead : List Int} (h : HostsOk hosts ahead) (i : Nat) : 0 ≤ ahead.getD i 0 ∧ ahead.getD i 0 ≤ 100 := by
  by_cases hi : i < ahead.length
  · have := h.off _ (getD_mem (d := 0) hi)
    omega
  · simp [List.getD, hi]

theorem record_p2 (n N : Int) (hN : 0 ≤ N ∧ N ≤ 4) {d : Dice} (hd : DiceOk d) {hosts : List Host} {ahead : List Int} (hh : HostsOk hosts ahead) (h1 : 1 ≤ hosts.length) :
    ∃ q : Dice × List Sync, (DiceOk q.1 ∧ (q.2.length : Int) = N ∧ ∀ s ∈ q.2, SyncOk hosts.length ahead s) ∧
      ∀ {β : Type} (k : zq7k β), zq8o k n N d.1 d.2 ahead [] [] [] [] hosts [] [] [] = k n q.1.1 q.1.2 ahead [] [] [] [] hosts q.2 [] [] := by
  have hl := hh.len
  have hm := hh.most
  refine while_loop (σ := Int × Dice × List Sync) (ρ := Dice × List Sync) (Kt := zq7k)
    (fun k m s => zq8m m k n s.1 s.2.1.1 s.2.1.2 ahead [] [] [] [] hosts s.2.2 [] []) (fun k q => k n q.1.1 q.1.2 ahead [] [] [] [] hosts q.2 [] [])
    (fun s => 0 ≤ s.1 ∧ s.1 + s.2.2.length = N ∧ DiceOk s.2.1 ∧ ∀ x ∈ s.2.2, SyncOk hosts.length ahead x) (fun s => s.1.toNat) _ ?_ fuel (N, d, []) ⟨by omega, by simp, hd, by simp⟩ (lt_fuel (by show N.toNat < _; omega))
  rintro ⟨i, d, syncs⟩ ⟨h0, h1', h2, h3⟩
  simp only at h0 h1' h2 h3
  by_cases hi : 0 < i
  · left
    obtain ⟨x, d1, hx0, hx1, hd1, f1⟩ := next_ok (n := (hosts.length : Int)) h2 (by omega)
    obtain ⟨y, d2, hy0, hy1, hd2, f2⟩ := next_ok (n := 400) hd1 (by omega)
    obtain ⟨z, d3, hz, hd3, f3⟩ := one_ok (l := [0, 3, 20]) (by simp) (by simp) hd2
    obtain ⟨u, d4, hu, hd4, f4⟩ := one_ok (l := [0, 2, 15]) (by simp) (by simp) hd3
    simp only [List.mem_cons, List.not_mem_nil, or_false] at hz hu
    have ha := ahead_bd hh x.toNat
    refine ⟨(i - 1, d4, syncs ++ [(x, 864000 + y + ahead.getD x.toNat 0, 864000 + y - z, 864000 + y + u)]), ⟨by simp only; omega, by simp; omega, hd4, ?_⟩, by simp only; omega, fun k m => ?_⟩
    · intro s hs
      simp only [List.mem_append, List.mem_singleton] at hs
      rcases hs with hs | rfl
      · exact h3 s hs
      · exact ⟨hx0, hx1, 864000 + y, by omega, by omega, rfl, by simp only; omega, by simp only; omega, by simp only; omega, by simp only; omega⟩
    · simp (disch := omega) only [zq8n, zq83, pair_eta, c_pos, c_inb, c_room, f1, f2, f3, f4, i64_in, List.length_cons, List.length_nil, Int.toNat_natCast]
  · right
    exact ⟨(d, syncs), ⟨h2, by simp only; omega, h3⟩, fun k m => by simp (disch := omega) only [zq8n, zq83, c_neg]⟩

theorem record_p3 (N : Int) (hN : 0 ≤ N ∧ N ≤ 1000) {d : Dice} (hd : DiceOk d) {hosts : List Host} {ahead : List Int} (hh : HostsOk hosts ahead) (h1 : 1 ≤ hosts.length) (syncs : List Sync) :
    ∃ q : Dice × List Int × List Event, (DiceOk q.1 ∧ (q.2.2.length : Int) = N ∧ q.2.1.length = q.2.2.length ∧ ∀ i, i < q.2.2.length → EventOk hosts.length ahead (q.2.2.getD i (0, 0, [])) (q.2.1.getD i 0)) ∧
      ∀ {β : Type} (k : zq7o β), zq8s k N d.1 d.2 ahead [] [] [] [] [] hosts syncs [] [] = k q.1.1 q.1.2 q.2.1 [] [] [] [] hosts syncs q.2.2 [] := by
  have hl := hh.len
  have hm := hh.most
  refine while_loop (σ := Int × Dice × List Int × List Event) (ρ := Dice × List Int × List Event) (Kt := zq7o)
    (fun k m s => zq8q m k s.1 s.2.1.1 s.2.1.2 ahead s.2.2.1 [] [] [] [] hosts syncs s.2.2.2 []) (fun k q => k q.1.1 q.1.2 q.2.1 [] [] [] [] hosts syncs q.2.2 [])
    (fun s => 0 ≤ s.1 ∧ s.1 + s.2.2.2.length = N ∧ s.2.2.1.length = s.2.2.2.length ∧ DiceOk s.2.1 ∧ ∀ i, i < s.2.2.2.length → EventOk hosts.length ahead (s.2.2.2.getD i (0, 0, [])) (s.2.2.1.getD i 0)) (fun s => s.1.toNat) _ ?_ fuel (N, d, [], []) ⟨by omega, by simp, rfl, hd, by simp⟩ (lt_fuel (by show N.toNat < _; omega))
  rintro ⟨i, d, times, evs⟩ ⟨h0, h1', hlen, h2, h3⟩
  simp only at h0 h1' hlen h2 h3
  by_cases hi : 0 < i
  · left
    obtain ⟨x, d1, hx0, hx1, hd1, f1⟩ := next_ok (n := (hosts.length : Int)) h2 (by omega)
    obtain ⟨y, d2, hy0, hy1, hd2, f2⟩ := next_ok (n := 300) hd1 (by omega)
    obtain ⟨z, d3, hz0, hz1, hd3, f3⟩ := next_ok (n := 3) hd2 (by omega)
    have ha := ahead_bd hh x.toNat
    refine ⟨(i - 1, d3, times ++ [864000 + y], evs ++ [(x, 864000 + y + ahead.getD x.toNat 0, List.getD [[117, 112], [100, 111, 119, 110], [115, 108, 111, 119]] z.toNat [])]), ⟨by simp only; omega, by simp; omega, by simp [hlen], hd3, ?_⟩, by simp only; omega, fun k m => ?_⟩
    · intro j hj
      simp only [List.length_append, List.length_singleton] at hj
      by_cases hj' : j < evs.length
      · rw [getD_append hj', getD_append (by omega)]
        exact h3 j hj'
      · obtain rfl : j = evs.length := by omega
        simp only
        rw [getD_last]
        rw [← hlen, getD_last]
        exact ⟨hx0, hx1, by omega, by omega, rfl⟩
    · simp (disch := omega) only [zq8r, zq86, pair_eta, c_pos, c_inb, c_room, f1, f2, f3, i64_in, List.length_cons, List.length_nil, Int.toNat_natCast]
  · right
    exact ⟨(d, times, evs), ⟨h2, by simp only; omega, hlen, h3⟩, fun k m => by simp (disch := omega) only [zq8r, zq86, c_neg]⟩

theorem record_p5 (N : Int) (hN : 0 ≤ N ∧ N ≤ 3) {d : Dice} (hd : DiceOk d) (hosts : List Host) (syncs : List Sync) (evs : List Event) {times : List Int} (ht : times.length ≤ 1000) (hb : ∀ i, i < times.length → 864000 ≤ times.getD i 0 ∧ times.getD i 0 < 864300) :
    ∃ q : Dice × List Link, (DiceOk q.1 ∧ q.2.length ≤ 3 ∧ ∀ l ∈ q.2, LinkOk times l) ∧
      ∀ {β : Type} (k : zq7w β), zq8y k N d.1 d.2 times [] [] [] [] hosts syncs evs [] = k q.1.1 q.1.2 times [] [] [] [] hosts syncs evs q.2 := by
  refine while_loop (σ := Int × Dice × List Link) (ρ := Dice × List Link) (Kt := zq7w)
    (fun k m s => zq8w m k s.1 s.2.1.1 s.2.1.2 times [] [] [] [] hosts syncs evs s.2.2) (fun k q => k q.1.1 q.1.2 times [] [] [] [] hosts syncs evs q.2)
    (fun s => 0 ≤ s.1 ∧ s.1 + s.2.2.length ≤ N ∧ DiceOk s.2.1 ∧ ∀ x ∈ s.2.2, LinkOk times x) (fun s => s.1.toNat) _ ?_ fuel (N, d, []) ⟨by omega, by simp, hd, by simp⟩ (lt_fuel (by show N.toNat < _; omega))
  rintro ⟨i, d, links⟩ ⟨h0, h1', h2, h3⟩
  simp only at h0 h1' h2 h3
  by_cases hi : 0 < i
  · by_cases ht1 : (1 : Int) < times.length
    · left
      obtain ⟨x, d1, hx0, hx1, hd1, f1⟩ := next_ok (n := (times.length : Int)) h2 (by omega)
      obtain ⟨y, d2, hy0, hy1, hd2, f2⟩ := next_ok (n := (times.length : Int)) hd1 (by omega)
      by_cases hxy : x = y
      · refine ⟨(i - 1, d2, links), ⟨by simp only; omega, by simp only; omega, hd2, h3⟩, by simp only; omega, fun k m => ?_⟩
        simp (disch := omega) only [zq8x, zq8c, zq8u, zq8a, zq89, pair_eta, c_pos, c_npos, c_f, f1, f2, i64_in]
      · have bx := hb x.toNat (by omega)
        have by_ := hb y.toNat (by omega)
        by_cases hle : times.getD x.toNat 0 ≤ times.getD y.toNat 0
        · obtain ⟨z, d3, hz0, hz1, hd3, f3⟩ := next_ok (n := times.getD y.toNat 0 - times.getD x.toNat 0 + 1) hd2 (by omega)
          refine ⟨(i - 1, d3, links ++ [(x, y, z)]), ⟨by simp only; omega, by simp; omega, hd3, ?_⟩, by simp only; omega, fun k m => ?_⟩
          · intro l hl
            simp only [List.mem_append, List.mem_singleton] at hl
            rcases hl with hl | rfl
            · exact h3 l hl
            · exact ⟨hx0, hx1, hy0, hy1, hxy, hz0, by simp only; omega⟩
          · simp (disch := omega) only [zq8x, zq8c, zq8u, zq8a, zq89, pair_eta, c_pos, c_nneg, c_inb, c_room, f1, f2, f3, i64_in, List.length_cons, List.length_nil]
        · refine ⟨(i - 1, d2, links), ⟨by simp only; omega, by simp only; omega, hd2, h3⟩, by simp only; omega, fun k m => ?_⟩
          simp (disch := omega) only [zq8x, zq8c, zq8u, zq8a, zq89, pair_eta, c_pos, c_nneg, c_inb, c_neg, f1, f2, i64_in]
    · right
      exact ⟨(d, links), ⟨h2, by simp only; omega, h3⟩, fun k m => by simp (disch := omega) only [zq8x, zq8c, c_pos, c_neg]⟩
  · right
    exact ⟨(d, links), ⟨h2, by simp only; omega, h3⟩, fun k m => by simp (disch := omega) only [zq8x, zq8c, c_neg]⟩

theorem record_ok4 (n : Int) (hn : 0 ≤ n ∧ n ≤ 900) {d : Dice} (hd : DiceOk d) :
    ∃ r d' times ahead, RecOk n r ahead times ∧ DiceOk d' ∧ (r.2.1.length ≤ 4 ∧ r.2.2.2.length ≤ 3) ∧ ∀ {β : Type} (k : zq2 → Dice → List Int → Option β), zq90 n d k = k r d' times := by
  obtain ⟨x, d1, hx0, hx1, hd1, f1⟩ := next_ok (n := 3) hd (by omega)
  obtain ⟨⟨d2, ahead, hosts⟩, ⟨hd2, hh, hN⟩, f2⟩ := record_p1 n (1 + x) (by omega) hd1
  simp only at hd2 hh hN f2
  obtain ⟨y, d3, hy0, hy1, hd3, f3⟩ := next_ok (n := 5) hd2 (by omega)
  obtain ⟨⟨d4, syncs⟩, ⟨hd4, hs, hsy⟩, f4⟩ := record_p2 n y (by omega) hd3 hh (by omega)
  simp only at hd4 hs hsy f4
  obtain ⟨z, d5, hz0, hz1, hd5, f5⟩ := next_ok (n := n + 1) hd4 (by omega)
  obtain ⟨⟨d6, times, evs⟩, ⟨hd6, he, hte, hev⟩, f6⟩ := record_p3 z (by omega) hd5 hh (by omega) syncs
  simp only at hd6 he hte hev f6
  obtain ⟨u, d7, hu0, hu1, hd7, f7⟩ := next_ok (n := 4) hd6 (by omega)
  obtain ⟨⟨d8, links⟩, ⟨hd8, hl, hli⟩, f8⟩ := record_p5 u (by omega) hd7 hosts syncs evs (times := times) (by omega) (fun i hi => ⟨(hev i (by omega)).2.2.1, (hev i (by omega)).2.2.2.1⟩)
  simp only at hd8 hl hli f8
  refine ⟨(hosts, syncs, evs, links), d8, times, ahead, ⟨hh, by simp only; omega, by simp only; omega, hsy, hte, by simp only; omega, hev, by simp only; omega, hli⟩, hd8, ⟨by simp only; omega, hl⟩, fun k => ?_⟩
  simp (disch := omega) only [zq90, zq8f, f1, f2, f3, f4, f5, f6, f7, f8, i64_in, pair_eta]

theorem record_ok (n : Int) (hn : 0 ≤ n ∧ n ≤ 900) {d : Dice} (hd : DiceOk d) :
    ∃ r d' times ahead, RecOk n r ahead times ∧ DiceOk d' ∧ ∀ {β : Type} (k : zq2 → Dice → List Int → Option β), zq90 n d k = k r d' times := by
  obtain ⟨r, d', times, ahead, h1, h2, _, h3⟩ := record_ok4 n hn hd
  exact ⟨r, d', times, ahead, h1, h2, h3⟩

/-- A record of the dice is valid. -/
theorem RecOk.valid {n : Int} {r : Rec} {ahead times : List Int} (h : RecOk n r ahead times) (hn : n ≤ 40) : valid r = true := by
  obtain ⟨hosts, syncs, evs, links⟩ := r
  have hE := h.fewE
  have hS := h.fewS
  have hL := h.fewL
  have hm := h.hosts.most
  have hle := h.lenE
  simp only at hE hS hL hm hle
  have key : ∀ (l : List Int) (i : Nat), (∀ a ∈ l, a = 0 ∨ a = 7 ∨ a = 100) → 0 ≤ l.getD i 0 ∧ l.getD i 0 ≤ 100 := by
    intro l i hl
    by_cases hi : i < l.length
    · have := hl _ (getD_mem (d := 0) hi); omega
    · simp [List.getD, hi]
  have hev : ∀ e ∈ evs, vEvent hosts.length e = true := by
    intro e he
    obtain ⟨i, hi, rfl⟩ := List.getElem_of_mem he
    have := h.events i hi
    simp only at this
    rw [show evs.getD i (0, 0, []) = evs[i] by simp [List.getD, hi]] at this
    obtain ⟨a1, a2, a3, a4, a5⟩ := this
    have := key ahead evs[i].1.toNat h.hosts.off
    simp only [vEvent, Bool.and_eq_true, inN_iff]
    omega
  have hsy : ∀ s ∈ syncs, vSync hosts.length s = true := by
    intro s hs
    obtain ⟨a1, a2, t, a3, a4, a5, a6, a7, a8, a9⟩ := h.syncs s hs
    have := key ahead s.1.toNat h.hosts.off
    simp only [vSync, okSync, Bool.and_eq_true, inN_iff, decide_eq_true_eq]
    simp only at a2
    omega
  have hli : ∀ l ∈ links, vLink evs.length l = true := by
    intro l hl
    obtain ⟨a1, a2, a3, a4, a5, a6, a7⟩ := h.links l hl
    have b1 := h.events l.1.toNat (by simp only; omega)
    have b2 := h.events l.2.1.toNat (by simp only; omega)
    obtain ⟨-, -, c1, c2, -⟩ := b1
    obtain ⟨-, -, c3, c4, -⟩ := b2
    simp only [vLink, Bool.and_eq_true, inN_iff, Bool.not_eq_true', decide_eq_false_iff_not]
    omega
  have hho : ∀ x ∈ hosts, vHost x = true := by
    intro x hx
    have := h.hosts.drift x hx
    simp only [vHost, inN_iff]
    omega
  simp only [Go.Lift.valid, small, Bool.and_eq_true, List.all_eq_true, Bool.not_eq_true', decide_eq_false_iff_not]
  exact ⟨⟨by omega, by omega, by omega, by omega⟩, hho, hsy, hev, hli⟩

end
end Go.Lift

/- When a clock showed a reading. -/
namespace Go.Lift
open Go.RowKit Go.IntWalk
noncomputable section
set_option linter.unusedVariables false
set_option linter.unusedSimpArgs false

theorem elapsed_le {drift d : Int} (h1 : 0 ≤ drift ∧ drift ≤ 500000) (h2 : 0 ≤ d ∧ d ≤ 8589934592) : (elapsed drift d).1 ≤ d ∧ d ≤ (elapsed drift d).2 := by
  unfold elapsed
  rw [inN_mk h1, inN_mk h2]
  simp only [Bool.and_true, cond_true]
  have hp1 : (0 : Int) < 1000000 + drift := by omega
  have hp2 : (0 : Int) < 1000000 - drift := by omega
  constructor
  · apply Int.le_of_lt_add_one
    rw [Int.ediv_lt_iff_lt_mul hp1]
    have : (d + 1) * 1000000 ≤ (d + 1) * (1000000 + drift) := Int.mul_le_mul_of_nonneg_left (by omega) (by omega)
    omega
  · rw [Int.le_ediv_iff_mul_le hp2]
    have : d * (1000000 - drift) ≤ d * 1000000 := Int.mul_le_mul_of_nonneg_left (by omega) (by omega)
    omega

/-- What a comparison says of a reading, if its numbers are right. -/
theorem fromS_eq {h : Host} {s : Sync} {c : Int} (h1 : 0 ≤ h.2 ∧ h.2 ≤ 500000) (h2 : okSync s = true) (h3 : 0 ≤ c ∧ c ≤ 8589934592) :
    fromS h s c = if s.2.1 ≤ c then (s.2.2.1 + (elapsed h.2 (c - s.2.1)).1, s.2.2.2 + (elapsed h.2 (c - s.2.1)).2) else (s.2.2.1 - (elapsed h.2 (s.2.1 - c)).2, s.2.2.2 - (elapsed h.2 (s.2.1 - c)).1) := by
  unfold fromS
  rw [h2, inN_mk h3, vHost, inN_mk h1]
  simp only [Bool.and_self, cond_true]
  split <;> rename_i hc
  · rw [decide_eq_true hc]; rfl
  · rw [decide_eq_false hc]; rfl

/-- The range that a true comparison gives has the true time. -/
theorem fromS_true {h : Host} {s : Sync} {c t a : Int} (h1 : 0 ≤ h.2 ∧ h.2 ≤ 500000) (h2 : okSync s = true) (h3 : 0 ≤ c ∧ c ≤ 8589934592) (hs : s.2.1 = t + a) (hl : s.2.2.1 ≤ t) (hh : t ≤ s.2.2.2) :
    (fromS h s c).1 ≤ c - a ∧ c - a ≤ (fromS h s c).2 := by
  rw [fromS_eq h1 h2 h3]
  simp only [okSync, Bool.and_eq_true, inN_iff, decide_eq_true_eq] at h2
  split
  · have := elapsed_le h1 (d := c - s.2.1) (by omega)
    simp only; omega
  · have := elapsed_le h1 (d := s.2.1 - c) (by omega)
    simp only; omega

theorem meet2_eq (a b : Int × Int) : meet2 a b = (max a.1 b.1, min a.2 b.2) := by
  unfold meet2
  congr 1
  · omega
  · omega

/-- The ranges that the comparisons of a host give. -/
def froms (hosts : List Host) (host c : Int) (syncs : List Sync) : List (Int × Int) := (syncs.filter fun s => decide (s.1 = host)).map fun s => fromS (hosts.getD host.toNat ([], 0)) s c

theorem whenR_eq (r : Rec) (host c : Int) : whenR r host c = (froms r.1 host c r.2.1).foldl meet2 (0, 8589934592) := by
  unfold whenR froms
  generalize ((0 : Int), (8589934592 : Int)) = o
  induction r.2.1 generalizing o with
  | nil => rfl
  | cons s l ih =>
    simp only [List.foldl_cons, ih, List.filter_cons]
    cases decide (s.1 = host) <;> rfl

theorem foldl_meet_in {x : Int} : ∀ {l : List (Int × Int)} {o : Int × Int}, o.1 ≤ x ∧ x ≤ o.2 → (∀ f ∈ l, f.1 ≤ x ∧ x ≤ f.2) → (l.foldl meet2 o).1 ≤ x ∧ x ≤ (l.foldl meet2 o).2
  | [], o, h, _ => h
  | f :: l, o, h, hl => by
    have h1 := hl f (by simp)
    refine foldl_meet_in (o := meet2 o f) ?_ fun g hg => hl g (by simp [hg])
    rw [meet2_eq]
    simp only; omega

theorem foldl_meet_bd : ∀ {l : List (Int × Int)} {o : Int × Int}, o.1 ≤ (l.foldl meet2 o).1 ∧ (l.foldl meet2 o).2 ≤ o.2
  | [], o => ⟨Int.le_refl _, Int.le_refl _⟩
  | f :: l, o => by
    have := @foldl_meet_bd l (meet2 o f)
    rw [meet2_eq] at this
    rw [List.foldl_cons, meet2_eq]
    simp only at this
    omega

section
variable {n : Int} {r : Rec} {ahead times : List Int}
theorem RecOk.sync_ok (h : RecOk n r ahead times) {s : Sync} (hs : s ∈ r.2.1) : okSync s = true ∧ 864000 ≤ s.2.1 ∧ s.2.1 ≤ 864500 ∧ 863980 ≤ s.2.2.1 ∧ s.2.2.2 ≤ 864415 := by
  obtain ⟨a1, a2, t, a3, a4, a5, a6, a7, a8, a9⟩ := h.syncs s hs
  have := ahead_bd h.hosts s.1.toNat
  refine ⟨?_, by omega, by omega, by omega, by omega⟩
  simp only [okSync, Bool.and_eq_true, inN_iff, decide_eq_true_eq]
  omega
theorem RecOk.drift_ok (h : RecOk n r ahead times) (i : Nat) : 0 ≤ (r.1.getD i ([], 0)).2 ∧ (r.1.getD i ([], 0)).2 ≤ 500000 := by
  by_cases hi : i < r.1.length
  · have := h.hosts.drift _ (getD_mem (d := ([], 0)) hi); omega
  · simp [List.getD, hi]

theorem RecOk.froms_true (h : RecOk n r ahead times) {host c : Int} (hh : 0 ≤ host ∧ host < r.1.length) (hc : 0 ≤ c ∧ c ≤ 8589934592) :
    ∀ f ∈ froms r.1 host c r.2.1, f.1 ≤ c - ahead.getD host.toNat 0 ∧ c - ahead.getD host.toNat 0 ≤ f.2 := by
  intro f hf
  simp only [froms, List.mem_map, List.mem_filter, decide_eq_true_eq] at hf
  obtain ⟨s, ⟨hs, rfl⟩, rfl⟩ := hf
  obtain ⟨a1, a2, t, a3, a4, a5, a6, a7, a8, a9⟩ := h.syncs s hs
  exact fromS_true (h.drift_ok _) (h.sync_ok hs).1 hc a5 a7 a8

theorem RecOk.when_true (h : RecOk n r ahead times) {host c : Int} (hh : 0 ≤ host ∧ host < r.1.length) (hc : 100 ≤ c ∧ c ≤ 8589934592) :
    (whenR r host c).1 ≤ c - ahead.getD host.toNat 0 ∧ c - ahead.getD host.toNat 0 ≤ (whenR r host c).2 := by
  rw [whenR_eq]
  have := ahead_bd h.hosts host.toNat
  exact foldl_meet_in (by simp only; omega) (h.froms_true hh (by omega))

theorem RecOk.when? (h : RecOk n r ahead times) (hn : n ≤ 40) {host c : Int} (hh : 0 ≤ host ∧ host < r.1.length) (hc : 100 ≤ c ∧ c ≤ 8589934592) : when? r host c = (whenR r host c, true) := by
  have h1 := h.when_true hh hc
  unfold Go.Lift.when?
  rw [h.valid hn, inN_mk (by omega), inN_mk (by omega)]
  simp only [Bool.and_self, cond_true]
  rw [decide_eq_false (by omega)]
  rfl
end

end
end Go.Lift

/- constraint.Close in plain Lean. -/
namespace Go.Lift
open Go.RowKit Go.IntWalk
noncomputable section
set_option linter.unusedVariables false
set_option linter.unusedSimpArgs false
set_option maxRecDepth 10000

theorem range_getD {n i : Nat} (h : i < n) : (List.range n).getD i 0 = i := by simp [List.getD, h]

section
variable {β : Type}
/-- The rounds of the closure: c rounds from k on. -/
def roundsW (n : Nat) : Nat → Nat → Mat → Option Mat
  | 0, _, m => some m
  | c + 1, k, m => if at2 (roundW n k m) k k < 0 then none else roundsW n c (k + 1) (roundW n k m)

/-- No number of the diagonal is less than 0. -/
def diagOk (n : Nat) (m : Mat) : Bool := (List.range n).all fun i => decide (¬ at2 m i i < 0)

/-- The diagonal is 0 at most. -/
def diagW (n : Nat) (m : Mat) : Mat := (List.range n).foldl (fun m i => setAt m i i (if 0 < at2 m i i then 0 else at2 m i i)) m
theorem Sq.diagW {n : Nat} {m : Mat} (h : Sq n m) : Sq n (diagW n m) := fold_inv (Sq n) _ (fun m i h => h.setAt _ _ _) _ _ h

end
end
end Go.Lift

/- constraint.Valid and constraint.direct in plain Lean. -/
namespace Go.Lift
open Go.RowKit Go.IntWalk
noncomputable section
set_option linter.unusedVariables false
set_option linter.unusedSimpArgs false
set_option maxRecDepth 10000

abbrev Diff := Int × (Int × Int)
section
variable {β : Type}
def diffOk (n : Nat) (d : Diff) : Bool := decide (0 ≤ d.1 ∧ d.1 < n ∧ 0 ≤ d.2.1 ∧ d.2.1 < n ∧ -17179869184 ≤ d.2.2 ∧ d.2.2 ≤ 17179869184)

def validD (n : Nat) (l : List Diff) : Bool := decide (l.length ≤ 4000) && l.all (diffOk n)

end
end
end Go.Lift

/- constraint.direct in plain Lean. -/
namespace Go.Lift
open Go.RowKit Go.IntWalk
noncomputable section
set_option linter.unusedVariables false
set_option linter.unusedSimpArgs false
set_option maxRecDepth 10000

def bigM (n : Nat) : Mat := List.replicate n (List.replicate n BIG)
/-- One constraint more. -/
def putW (m : Mat) (d : Diff) : Mat := setAt m d.1.toNat d.2.1.toNat (if d.2.2 < at2 m d.1.toNat d.2.1.toNat then d.2.2 else at2 m d.1.toNat d.2.1.toNat)
def directW (n : Nat) (l : List Diff) : Mat := l.foldl putW (bigM n)

theorem bigM_sq (n : Nat) : Sq n (bigM n) := by
  refine ⟨by simp [bigM], fun i hi => ?_⟩
  simp [bigM, List.getD, hi]
theorem Sq.putW {n : Nat} {m : Mat} (h : Sq n m) (d : Diff) : Sq n (putW m d) := h.setAt _ _ _
theorem directW_sq (n : Nat) (l : List Diff) : Sq n (directW n l) := fold_inv (Sq n) _ (fun m d h => h.putW d) _ _ (bigM_sq n)

section
variable {β : Type}
/-- What Close returns. -/
def closeW (n : Nat) (l : List Diff) : Option Mat :=
  if validD n l then
    match roundsW n n 0 (diagW n (directW n l)) with
    | some m => if diagOk n m then some m else none
    | none => none
  else none

end
end
end Go.Lift

/- The theory of the closure. -/
namespace Go.Lift
open Go.RowKit Go.IntWalk
noncomputable section
set_option linter.unusedVariables false
set_option linter.unusedSimpArgs false
set_option maxRecDepth 10000

theorem wrap_in {x : Int} (h : -9223372036854775808 ≤ x ∧ x ≤ 9223372036854775807) : IntKind.i64.wrap x = x := i64_in _ h

theorem range_fold {σ : Type} (g : σ → Nat → σ) (s : σ) (c : Nat) : (List.range (c + 1)).foldl g s = g ((List.range c).foldl g s) c := by
  rw [List.range_succ, List.foldl_append]; rfl

/-- What a round needs. -/
structure RH (n k : Nat) (m : Mat) : Prop where
  sq : Sq n m
  zero : at2 m k k = 0
  row : ∀ j, j < n → -1125899906842624 ≤ at2 m k j ∧ at2 m k j < 1099511627776
  col : ∀ i, i < n → -1125899906842624 ≤ at2 m i k ∧ at2 m i k < 1099511627776

theorem relax_at {n k i j : Nat} {m : Mat} (hm : Sq n m) (hi : i < n) (hj : j < n) (h1 : -1125899906842624 ≤ at2 m i k ∧ at2 m i k < 1099511627776) (h2 : -1125899906842624 ≤ at2 m k j ∧ at2 m k j < 1099511627776) (a b : Nat) :
    at2 (relaxW k i j m) a b = if a = i ∧ b = j then min (at2 m i j) (at2 m i k + at2 m k j) else at2 m a b := by
  have hB : BIG = 1099511627776 := rfl
  unfold relaxW
  rw [if_neg (by omega), at_setAt hm hi hj, wrap_in (by omega)]
  split
  · split <;> omega
  · rfl

theorem row_at {n k i : Nat} {m : Mat} (h : RH n k m) (hk : k < n) (hi : i < n) : ∀ (c : Nat), c ≤ n → Sq n ((List.range c).foldl (fun m j => relaxW k i j m) m) ∧ ∀ a b, a < n → b < n →
    at2 ((List.range c).foldl (fun m j => relaxW k i j m) m) a b = if a = i ∧ b < c then min (at2 m a b) (at2 m a k + at2 m k b) else at2 m a b := by
  intro c
  induction c with
  | zero =>
    intro _
    refine ⟨h.sq, fun a b _ _ => ?_⟩
    rw [if_neg (by omega)]
    rfl
  | succ c ih =>
    intro hc
    obtain ⟨s1, s2⟩ := ih (by omega)
    rw [range_fold]
    refine ⟨s1.relaxW _ _ _, fun a b ha hb => ?_⟩
    have z := h.zero
    have r := h.row c (by omega)
    have cc := h.col i hi
    have ck := h.col k hk
    have q1 : at2 ((List.range c).foldl (fun m j => relaxW k i j m) m) i k = at2 m i k := by
      rw [s2 i k hi hk]; split <;> omega
    have q2 : at2 ((List.range c).foldl (fun m j => relaxW k i j m) m) k c = at2 m k c := by
      rw [s2 k c hk (by omega), if_neg (by omega)]
    rw [relax_at s1 hi (by omega) (by rw [q1]; exact cc) (by rw [q2]; exact r), q1, q2, s2 i c hi (by omega), s2 a b ha hb]
    rw [if_neg (show ¬ (i = i ∧ c < c) by omega)]
    by_cases e1 : a = i
    · subst e1
      by_cases e2 : b = c
      · subst e2
        rw [if_pos ⟨rfl, rfl⟩, if_pos (by omega)]
      · rw [if_neg (fun h => e2 h.2)]
        by_cases e3 : b < c
        · rw [if_pos (by omega), if_pos (by omega)]
        · rw [if_neg (by omega), if_neg (by omega)]
    · rw [if_neg (fun h => e1 h.1), if_neg (fun h => e1 h.1), if_neg (fun h => e1 h.1)]

theorem rowW_at {n k i : Nat} {m : Mat} (h : RH n k m) (hk : k < n) (hi : i < n) (a b : Nat) (ha : a < n) (hb : b < n) :
    at2 (rowW n k i m) a b = if a = i then min (at2 m a b) (at2 m a k + at2 m k b) else at2 m a b := by
  refine ((row_at h hk hi n (Nat.le_refl n)).2 a b ha hb).trans ?_
  by_cases e : a = i
  · rw [if_pos ⟨e, hb⟩, if_pos e]
  · rw [if_neg (fun h => e h.1), if_neg e]

theorem rounds_at {n k : Nat} {m : Mat} (h : RH n k m) (hk : k < n) : ∀ (c : Nat), c ≤ n → RH n k ((List.range c).foldl (fun m i => rowW n k i m) m) ∧ ∀ a b, a < n → b < n →
    at2 ((List.range c).foldl (fun m i => rowW n k i m) m) a b = if a < c then min (at2 m a b) (at2 m a k + at2 m k b) else at2 m a b := by
  intro c
  induction c with
  | zero =>
    intro _
    refine ⟨h, fun a b _ _ => ?_⟩
    rw [if_neg (by omega)]
    rfl
  | succ c ih =>
    intro hc
    obtain ⟨s1, s2⟩ := ih (by omega)
    rw [range_fold]
    have hh : ∀ a b, a < n → b < n → at2 (rowW n k c ((List.range c).foldl (fun m i => rowW n k i m) m)) a b = if a < c + 1 then min (at2 m a b) (at2 m a k + at2 m k b) else at2 m a b := by
      intro a b ha hb
      rw [rowW_at s1 hk (by omega) a b ha hb]
      have z := h.zero
      have e1 : at2 ((List.range c).foldl (fun m i => rowW n k i m) m) k b = at2 m k b := by rw [s2 k b hk hb]; split <;> omega
      have e2 : at2 ((List.range c).foldl (fun m i => rowW n k i m) m) a k = at2 m a k := by rw [s2 a k ha hk]; split <;> omega
      rw [e1, e2, s2 a b ha hb]
      split <;> split <;> split <;> omega
    refine ⟨⟨s1.sq.rowW _ _, ?_, ?_, ?_⟩, hh⟩
    · rw [hh k k hk hk]
      have z := h.zero
      split <;> omega
    · intro j hj
      rw [hh k j hk hj]
      have z := h.zero
      have := h.row j hj
      split <;> omega
    · intro i hi
      rw [hh i k hi hk]
      have z := h.zero
      have := h.col i hi
      split <;> omega

theorem roundW_at {n k : Nat} {m : Mat} (h : RH n k m) (hk : k < n) (a b : Nat) (ha : a < n) (hb : b < n) :
    at2 (roundW n k m) a b = min (at2 m a b) (at2 m a k + at2 m k b) := by
  refine ((rounds_at h hk n (Nat.le_refl n)).2 a b ha hb).trans ?_
  rw [if_pos ha]

/- Entries never grow, whatever they are. -/
def Le (n : Nat) (m' m : Mat) : Prop := ∀ a b, a < n → b < n → at2 m' a b ≤ at2 m a b
theorem Le.refl {n : Nat} (m : Mat) : Le n m m := fun _ _ _ _ => Int.le_refl _
theorem Le.trans {n : Nat} {a b c : Mat} (h : Le n a b) (g : Le n b c) : Le n a c := fun i j hi hj => Int.le_trans (h i j hi hj) (g i j hi hj)

theorem relax_le {n k i j : Nat} {m : Mat} (hm : Sq n m) (hi : i < n) (hj : j < n) : Le n (relaxW k i j m) m := by
  intro a b ha hb
  unfold relaxW
  split
  · exact Int.le_refl _
  · rw [at_setAt hm hi hj]
    split
    · rename_i e
      rw [e.1, e.2]
      split <;> omega
    · exact Int.le_refl _

theorem fold_le {n : Nat} (g : Mat → Nat → Mat) (h1 : ∀ m j, Sq n m → Sq n (g m j)) (h2 : ∀ m j, Sq n m → j < n → Le n (g m j) m) : ∀ (l : List Nat) (m : Mat), Sq n m → (∀ x ∈ l, x < n) → Le n (l.foldl g m) m
  | [], m, _, _ => Le.refl m
  | x :: l, m, hm, hl => (fold_le g h1 h2 l (g m x) (h1 m x hm) (fun y hy => hl y (List.mem_cons_of_mem _ hy))).trans (h2 m x hm (hl x (List.mem_cons_self ..)))

theorem row_le {n k i : Nat} {m : Mat} (hm : Sq n m) (hi : i < n) : Le n (rowW n k i m) m :=
  fold_le _ (fun m j h => h.relaxW k i j) (fun m j h hj => relax_le h hi hj) _ m hm (fun x hx => by simpa using hx)
theorem round_le {n k : Nat} {m : Mat} (hm : Sq n m) : Le n (roundW n k m) m :=
  fold_le _ (fun m j h => h.rowW k j) (fun m j h hj => row_le h hj) _ m hm (fun x hx => by simpa using hx)
theorem rounds_le {n : Nat} : ∀ (c k : Nat) (m m' : Mat), Sq n m → roundsW n c k m = some m' → Le n m' m
  | 0, k, m, m', h, e => by cases e; exact Le.refl m
  | c + 1, k, m, m', h, e => by
    unfold roundsW at e
    split at e
    · cases e
    · exact (rounds_le c (k + 1) _ m' (h.roundW k) e).trans (round_le h)
end
end Go.Lift

/- The theory of the closure, 2: the rounds. -/
namespace Go.Lift
open Go.RowKit Go.IntWalk
noncomputable section
set_option linter.unusedVariables false
set_option linter.unusedSimpArgs false
set_option maxRecDepth 10000

/-- The matrix at the beginning. -/
structure Inv0 (n : Nat) (m : Mat) : Prop where
  sq : Sq n m
  lo : ∀ i j, i < n → j < n → -17179869184 ≤ at2 m i j
  row : ∀ j, j < n → at2 m 0 j ≤ 17179869184
  neg : ∀ i, i < n → at2 m i 0 ≤ 0
  diag : ∀ i, i < n → at2 m i i ≤ 0

/-- The matrix behind k rounds. -/
structure Inv (n k : Nat) (W m : Mat) : Prop where
  sq : Sq n m
  hi : ∀ i j, i < n → j < n → at2 m i j ≤ 34359738368
  diag : ∀ i, i < n → at2 m i i ≤ 0
  le : Le n m W
  tri : ∀ a, a < k → a < n → ∀ i j, i < n → j < n → at2 m i j ≤ at2 m i a + at2 m a j
  dl : ∀ i j, i < n → j < n → at2 m i j = at2 W i j ∨ ∃ b, b < k ∧ b < n ∧ at2 m i b + at2 W b j ≤ at2 m i j
  dr : ∀ i j, i < n → j < n → at2 m i j = at2 W i j ∨ ∃ b, b < k ∧ b < n ∧ at2 W i b + at2 m b j ≤ at2 m i j

/-- Numbers whose differences are within a matrix. -/
def SolM (n : Nat) (m : Mat) (x : Nat → Int) : Prop := ∀ i j, i < n → j < n → x j - x i ≤ at2 m i j

theorem Inv0.rh {n : Nat} {m : Mat} (h : Inv0 n m) (hn : 0 < n) (z : at2 m 0 0 = 0) : RH n 0 m :=
  ⟨h.sq, z, fun j hj => by have := h.lo 0 j hn hj; have := h.row j hj; omega, fun i hi => by have := h.lo i 0 hi hn; have := h.neg i hi; omega⟩

theorem Inv0.step {n : Nat} {m : Mat} (h : Inv0 n m) (hn : 0 < n) (z : at2 m 0 0 = 0) : Inv n 1 m (roundW n 0 m) := by
  have e := roundW_at (h.rh hn z) hn
  refine ⟨h.sq.roundW _, fun i j hi hj => ?_, fun i hi => ?_, fun i j hi hj => ?_, fun a ha ha' i j hi hj => ?_, fun i j hi hj => ?_, fun i j hi hj => ?_⟩
  · rw [e i j hi hj]
    have := h.neg i hi; have := h.row j hj
    omega
  · rw [e i i hi hi]
    have := h.diag i hi
    omega
  · rw [e i j hi hj]
    omega
  · obtain rfl : a = 0 := by omega
    rw [e i j hi hj, e i 0 hi hn, e 0 j hn hj]
    omega
  · by_cases hc : at2 m i j ≤ at2 m i 0 + at2 m 0 j
    · left; rw [e i j hi hj]; omega
    · right
      refine ⟨0, by omega, hn, ?_⟩
      rw [e i j hi hj, e i 0 hi hn]
      omega
  · by_cases hc : at2 m i j ≤ at2 m i 0 + at2 m 0 j
    · left; rw [e i j hi hj]; omega
    · right
      refine ⟨0, by omega, hn, ?_⟩
      rw [e i j hi hj, e 0 j hn hj]
      omega

/-- No entry is far below 0, if the diagonal is not. -/
theorem Inv.lo {n k : Nat} {W m : Mat} (h : Inv n k W m) (hk : 1 ≤ k) (w : Inv0 n W) (hn : 0 < n) (z : ∀ i, i < n → 0 ≤ at2 m i i) {i j : Nat} (hi : i < n) (hj : j < n) : -51539607552 ≤ at2 m i j := by
  have row0 : ∀ j, j < n → 0 ≤ at2 m 0 j ∧ at2 m 0 j ≤ 17179869184 := fun j hj => by
    have h1 := h.tri 0 (by omega) hn j j hj hj
    have := z j hj
    have := h.le j 0 hj hn
    have := w.neg j hj
    have := h.le 0 j hn hj
    have := w.row j hj
    omega
  have done : ∀ c b, c < k → c < n → b < n → -17179869184 ≤ at2 m c b := fun c b hc hcn hb => by
    have h1 := h.tri c hc hcn 0 b hn hb
    have := row0 b hb
    have := row0 c hcn
    omega
  have half : ∀ i b, i < n → b < n → -34359738368 ≤ at2 m i b := fun i b hi hb => by
    rcases h.dr i b hi hb with h1 | ⟨c, hc, hcn, h1⟩
    · have := w.lo i b hi hb
      omega
    · have := w.lo i c hi hcn
      have := done c b hc hcn hb
      omega
  have := half i j hi hj
  omega

theorem Inv.rh {n k : Nat} {W m : Mat} (h : Inv n k W m) (hk1 : 1 ≤ k) (hk : k < n) (w : Inv0 n W) (z : ∀ i, i < n → 0 ≤ at2 m i i) : RH n k m :=
  ⟨h.sq, by have := z k hk; have := h.diag k hk; omega,
    fun j hj => by have := h.lo hk1 w (by omega) z hk hj; have := h.hi k j hk hj; omega, fun i hi => by have := h.lo hk1 w (by omega) z hi hk; have := h.hi i k hi hk; omega⟩

theorem Inv.step {n k : Nat} {W m : Mat} (h : Inv n k W m) (hk : k < n) (r : RH n k m) : Inv n (k + 1) W (roundW n k m) := by
  have e := roundW_at r hk
  have z := r.zero
  refine ⟨h.sq.roundW _, fun i j hi hj => ?_, fun i hi => ?_, fun i j hi hj => ?_, fun a ha ha' i j hi hj => ?_, fun i j hi hj => ?_, fun i j hi hj => ?_⟩
  · rw [e i j hi hj]
    have := h.hi i j hi hj
    omega
  · rw [e i i hi hi]
    have := h.diag i hi
    omega
  · rw [e i j hi hj]
    have := h.le i j hi hj
    omega
  · rw [e i j hi hj, e i a hi ha', e a j ha' hj]
    by_cases q : a = k
    · subst q
      omega
    · have t := h.tri a (by omega) ha'
      have t1 := t i j hi hj
      have t2 := t k j hk hj
      have t3 := t i k hi hk
      have t4 := t k k hk hk
      omega
  · by_cases hc : at2 m i j ≤ at2 m i k + at2 m k j
    · rcases h.dl i j hi hj with h1 | ⟨b, hb, hbn, h1⟩
      · left; rw [e i j hi hj]; omega
      · right
        refine ⟨b, by omega, hbn, ?_⟩
        rw [e i j hi hj, e i b hi hbn]
        omega
    · right
      rcases h.dl k j hk hj with h1 | ⟨b, hb, hbn, h1⟩
      · refine ⟨k, by omega, hk, ?_⟩
        rw [e i j hi hj, e i k hi hk]
        omega
      · refine ⟨b, by omega, hbn, ?_⟩
        rw [e i j hi hj, e i b hi hbn]
        omega
  · by_cases hc : at2 m i j ≤ at2 m i k + at2 m k j
    · rcases h.dr i j hi hj with h1 | ⟨b, hb, hbn, h1⟩
      · left; rw [e i j hi hj]; omega
      · right
        refine ⟨b, by omega, hbn, ?_⟩
        rw [e i j hi hj, e b j hbn hj]
        omega
    · right
      rcases h.dr i k hi hk with h1 | ⟨b, hb, hbn, h1⟩
      · refine ⟨k, by omega, hk, ?_⟩
        rw [e i j hi hj, e k j hk hj]
        omega
      · refine ⟨b, by omega, hbn, ?_⟩
        rw [e i j hi hj, e b j hbn hj]
        omega

theorem SolM.step {n k : Nat} {m : Mat} {x : Nat → Int} (s : SolM n m x) (h : RH n k m) (hk : k < n) : SolM n (roundW n k m) x := by
  intro i j hi hj
  rw [roundW_at h hk i j hi hj]
  have := s i j hi hj; have := s i k hi hk; have := s k j hk hj
  omega

theorem rounds_final {n : Nat} {W : Mat} (w : Inv0 n W) : ∀ (c k : Nat) (m m' : Mat), k + c = n → 1 ≤ k → Inv n k W m → roundsW n c k m = some m' → (∀ i, i < n → 0 ≤ at2 m' i i) → Inv n n W m' ∧ ∀ x, SolM n m x → SolM n m' x
  | 0, k, m, m', h, _, hi, e, _ => by
    cases e
    obtain rfl : k = n := by omega
    exact ⟨hi, fun x s => s⟩
  | c + 1, k, m, m', h, h1, hi, e, z => by
    have hk : k < n := by omega
    have zz : ∀ i, i < n → 0 ≤ at2 m i i := fun i hi' => by
      have := rounds_le (c + 1) k m m' hi.sq e i i hi' hi'
      have := z i hi'
      omega
    have r := hi.rh h1 hk w zz
    unfold roundsW at e
    split at e
    · cases e
    · have := rounds_final w c (k + 1) _ m' (by omega) (by omega) (hi.step hk r) e z
      exact ⟨this.1, fun x s => this.2 x (s.step r hk)⟩

theorem SolM.diag {n : Nat} {m : Mat} {x : Nat → Int} (s : SolM n m x) {i : Nat} (hi : i < n) : 0 ≤ at2 m i i := by
  have := s i i hi hi
  omega

theorem rounds_exist {n : Nat} {W : Mat} (w : Inv0 n W) {x : Nat → Int} : ∀ (c k : Nat) (m : Mat), k + c = n → 1 ≤ k → Inv n k W m → SolM n m x → ∃ m', roundsW n c k m = some m' ∧ SolM n m' x
  | 0, k, m, h, _, hi, s => ⟨m, rfl, s⟩
  | c + 1, k, m, h, h1, hi, s => by
    have hk : k < n := by omega
    have r := hi.rh h1 hk w (fun i hi => s.diag hi)
    have s' := s.step r hk
    unfold roundsW
    rw [if_neg (by have := s'.diag hk; omega)]
    exact rounds_exist w c (k + 1) _ (by omega) (by omega) (hi.step hk r) s'

/-- All that is known of a closed matrix. -/
structure ClosedM (n : Nat) (W m : Mat) : Prop where
  inv : Inv n n W m
  start : Inv0 n W
  zero : ∀ i, i < n → at2 m i i = 0
  le : Le n m W
  sol : ∀ x, SolM n W x → SolM n m x

theorem closed_final {n : Nat} (h1 : 1 ≤ n) {W m : Mat} (h : Inv0 n W) (e : roundsW n n 0 W = some m) (z : ∀ i, i < n → 0 ≤ at2 m i i) : ClosedM n W m := by
  have le := rounds_le n 0 W m h.sq e
  have zz : at2 W 0 0 = 0 := by
    have := le 0 0 h1 h1
    have := z 0 h1
    have := h.diag 0 h1
    omega
  obtain ⟨c, rfl⟩ : ∃ c, n = c + 1 := ⟨n - 1, by omega⟩
  unfold roundsW at e
  split at e
  · cases e
  · have := rounds_final h c 1 _ m (by omega) (by omega) (h.step h1 zz) e z
    refine ⟨this.1, h, fun i hi => ?_, le, fun x s => this.2 x (s.step (h.rh h1 zz) h1)⟩
    have := this.1.diag i hi
    have := z i hi
    omega

theorem closed_exist {n : Nat} (h1 : 1 ≤ n) {W : Mat} (h : Inv0 n W) {x : Nat → Int} (s : SolM n W x) : ∃ m, roundsW n n 0 W = some m ∧ ClosedM n W m := by
  have zz : at2 W 0 0 = 0 := by
    have := s.diag h1
    have := h.diag 0 h1
    omega
  have s' := s.step (h.rh h1 zz) h1
  obtain ⟨c, rfl⟩ : ∃ c, n = c + 1 := ⟨n - 1, by omega⟩
  obtain ⟨m', e, s''⟩ := rounds_exist h c 1 _ (by omega) (by omega) (h.step h1 zz) s'
  have e' : roundsW (c + 1) (c + 1) 0 W = some m' := by
    unfold roundsW
    rw [if_neg (by have := s'.diag h1; omega)]
    exact e
  exact ⟨m', e', closed_final h1 h e' (fun i hi => s''.diag hi)⟩

theorem ClosedM.tri {n : Nat} {W m : Mat} (h : ClosedM n W m) {i a j : Nat} (hi : i < n) (ha : a < n) (hj : j < n) : at2 m i j ≤ at2 m i a + at2 m a j := h.inv.tri a ha ha i j hi hj
theorem ClosedM.lo {n : Nat} {W m : Mat} (h : ClosedM n W m) (h1 : 1 ≤ n) {i j : Nat} (hi : i < n) (hj : j < n) : -51539607552 ≤ at2 m i j :=
  h.inv.lo h1 h.start h1 (fun i hi => by have := h.zero i hi; omega) hi hj

/-- Each row is a solution. -/
theorem ClosedM.row {n : Nat} {W m : Mat} (h : ClosedM n W m) {r : Nat} (hr : r < n) : SolM n W (fun j => at2 m r j) := by
  intro i j hi hj
  have := h.tri hr hi hj
  have := h.le i j hi hj
  show at2 m r j - at2 m r i ≤ at2 W i j
  omega
end
end Go.Lift

/- The theory of the closure, 3: constraints. -/
namespace Go.Lift
open Go.RowKit Go.IntWalk
noncomputable section
set_option linter.unusedVariables false
set_option linter.unusedSimpArgs false
set_option maxRecDepth 10000

/-- Numbers that fulfil all constraints. -/
def Sol (l : List Diff) (x : Nat → Int) : Prop := ∀ d ∈ l, x d.2.1.toNat - x d.1.toNat ≤ d.2.2

theorem put_at {n : Nat} {m : Mat} (h : Sq n m) {d : Diff} (hd : diffOk n d = true) (a b : Nat) :
    at2 (putW m d) a b = if a = d.1.toNat ∧ b = d.2.1.toNat then min (at2 m a b) d.2.2 else at2 m a b := by
  have hd := of_decide_eq_true hd
  unfold putW
  rw [at_setAt h (by omega) (by omega)]
  split
  · rename_i e
    rw [e.1, e.2]
    split <;> omega
  · rfl

theorem big_at {n : Nat} {i j : Nat} (hi : i < n) (hj : j < n) : at2 (bigM n) i j = 1099511627776 := by
  unfold at2 bigM
  simp [List.getD, hi, hj]

/-- The direct bounds: what is under all of them. -/
theorem direct_glb {n : Nat} : ∀ (l : List Diff), l.all (diffOk n) = true → ∀ (m : Mat), Sq n m → ∀ i j (v : Int), v ≤ at2 (l.foldl putW m) i j ↔ v ≤ at2 m i j ∧ ∀ d ∈ l, d.1.toNat = i → d.2.1.toNat = j → v ≤ d.2.2
  | [], _, m, hm, i, j, v => by simp
  | d :: l, ho, m, hm, i, j, v => by
    rw [List.all_cons, Bool.and_eq_true] at ho
    simp only [List.foldl_cons]
    rw [direct_glb l ho.2 _ (hm.putW d) i j v, put_at hm ho.1]
    simp only [List.mem_cons, forall_eq_or_imp]
    by_cases e : i = d.1.toNat ∧ j = d.2.1.toNat
    · rw [if_pos e]
      constructor
      · intro h
        refine ⟨by omega, fun _ _ => by omega, h.2⟩
      · intro h
        have := h.2.1 e.1.symm e.2.symm
        exact ⟨by omega, h.2.2⟩
    · rw [if_neg e]
      constructor
      · intro h
        exact ⟨h.1, fun a b => absurd ⟨a.symm, b.symm⟩ e, h.2⟩
      · intro h
        exact ⟨h.1, h.2.2⟩

theorem diag_at {n : Nat} {m : Mat} (hm : Sq n m) {i j : Nat} (hi : i < n) (hj : j < n) : at2 (diagW n m) i j = if i = j then min (at2 m i j) 0 else at2 m i j := by
  have key : ∀ c, c ≤ n → Sq n ((List.range c).foldl (fun m i => setAt m i i (if 0 < at2 m i i then 0 else at2 m i i)) m) ∧ ∀ a b, a < n → b < n →
      at2 ((List.range c).foldl (fun m i => setAt m i i (if 0 < at2 m i i then 0 else at2 m i i)) m) a b = if a = b ∧ a < c then min (at2 m a b) 0 else at2 m a b := by
    intro c
    induction c with
    | zero =>
      intro _
      refine ⟨hm, fun a b _ _ => ?_⟩
      rw [if_neg (by omega)]
      rfl
    | succ c ih =>
      intro hc
      obtain ⟨s1, s2⟩ := ih (by omega)
      rw [range_fold]
      refine ⟨s1.setAt _ _ _, fun a b ha hb => ?_⟩
      rw [at_setAt s1 (by omega) (by omega), s2 c c (by omega) (by omega), s2 a b ha hb, if_neg (show ¬ (c = c ∧ c < c) by omega)]
      by_cases e : a = c ∧ b = c
      · rw [if_pos e, if_pos (show a = b ∧ a < c + 1 by omega), e.1, e.2]
        split <;> omega
      · rw [if_neg e]
        by_cases e2 : a = b ∧ a < c
        · rw [if_pos e2, if_pos (show a = b ∧ a < c + 1 by omega)]
        · rw [if_neg e2, if_neg (show ¬ (a = b ∧ a < c + 1) by omega)]
  refine ((key n (Nat.le_refl n)).2 i j hi hj).trans ?_
  by_cases e : i = j
  · rw [if_pos ⟨e, hi⟩, if_pos e]
  · rw [if_neg (fun h => e h.1), if_neg e]

/-- The matrix at the beginning. -/
def startW (n : Nat) (l : List Diff) : Mat := diagW n (directW n l)

theorem start_glb {n : Nat} {l : List Diff} (ho : l.all (diffOk n) = true) {i j : Nat} (hi : i < n) (hj : j < n) (v : Int) :
    v ≤ at2 (startW n l) i j ↔ v ≤ 1099511627776 ∧ (∀ d ∈ l, d.1.toNat = i → d.2.1.toNat = j → v ≤ d.2.2) ∧ (i = j → v ≤ 0) := by
  unfold startW
  rw [diag_at (directW_sq n l) hi hj]
  have g := direct_glb l ho (bigM n) (bigM_sq n) i j v
  rw [big_at hi hj] at g
  by_cases e : i = j
  · rw [if_pos e]
    constructor
    · intro h
      have := g.1 (by unfold directW at h; omega)
      exact ⟨this.1, this.2, fun _ => by omega⟩
    · intro h
      have := g.2 ⟨h.1, h.2.1⟩
      have := h.2.2 e
      unfold directW
      omega
  · rw [if_neg e]
    constructor
    · intro h
      have := g.1 h
      exact ⟨this.1, this.2, fun h => absurd h e⟩
    · intro h
      exact g.2 ⟨h.1, h.2.1⟩

theorem start_le {n : Nat} {l : List Diff} (ho : l.all (diffOk n) = true) {d : Diff} (hd : d ∈ l) : at2 (startW n l) d.1.toNat d.2.1.toNat ≤ d.2.2 := by
  have h := of_decide_eq_true (List.all_eq_true.1 ho d hd)
  exact ((start_glb ho (by omega) (by omega) _).1 (Int.le_refl _)).2.1 d hd rfl rfl

/-- Every variable has both bounds against the variable 0. -/
structure Conn (n : Nat) (l : List Diff) : Prop where
  pos : 1 ≤ n
  small : n ≤ 41
  valid : validD n l = true
  up : ∀ i, 1 ≤ i → i < n → ∃ d ∈ l, d.1.toNat = 0 ∧ d.2.1.toNat = i
  down : ∀ i, 1 ≤ i → i < n → ∃ d ∈ l, d.1.toNat = i ∧ d.2.1.toNat = 0 ∧ d.2.2 ≤ 0

theorem Conn.all {n : Nat} {l : List Diff} (h : Conn n l) : l.all (diffOk n) = true := by
  have := h.valid
  unfold validD at this
  rw [Bool.and_eq_true] at this
  exact this.2

theorem Conn.inv {n : Nat} {l : List Diff} (h : Conn n l) : Inv0 n (startW n l) := by
  have ho := h.all
  refine ⟨(directW_sq n l).diagW, fun i j hi hj => ?_, fun j hj => ?_, fun i hi => ?_, fun i hi => ?_⟩
  · rw [start_glb ho hi hj]
    refine ⟨by omega, fun d hd _ _ => ?_, by omega⟩
    have := of_decide_eq_true (List.all_eq_true.1 ho d hd)
    omega
  · by_cases e : j = 0
    · subst e
      have := ((start_glb ho h.pos h.pos _).1 (Int.le_refl _)).2.2 rfl
      omega
    · obtain ⟨d, hd, e1, e2⟩ := h.up j (by omega) hj
      have := start_le ho hd
      have := of_decide_eq_true (List.all_eq_true.1 ho d hd)
      rw [e1, e2] at *
      omega
  · by_cases e : i = 0
    · subst e
      have := ((start_glb ho h.pos h.pos _).1 (Int.le_refl _)).2.2 rfl
      omega
    · obtain ⟨d, hd, e1, e2, e3⟩ := h.down i (by omega) hi
      have h1 := start_le ho hd
      rw [e1, e2] at h1
      omega
  · exact ((start_glb ho hi hi _).1 (Int.le_refl _)).2.2 rfl

/-- Solutions of the constraints, as far as numbers below BIG go. -/
theorem sol_iff {n : Nat} {l : List Diff} (ho : l.all (diffOk n) = true) (x : Nat → Int) (hx : ∀ i j, i < n → j < n → x j - x i ≤ 1099511627776) : SolM n (startW n l) x ↔ Sol l x := by
  constructor
  · intro h d hd
    have hh := of_decide_eq_true (List.all_eq_true.1 ho d hd)
    have := h d.1.toNat d.2.1.toNat (by omega) (by omega)
    have := start_le ho hd
    omega
  · intro h i j hi hj
    rw [start_glb ho hi hj]
    refine ⟨hx i j hi hj, fun d hd e1 e2 => ?_, fun e => by subst e; omega⟩
    have := h d hd
    rw [e1, e2] at this
    exact this

/-- All that is known of what Close returns. -/
structure CloseOk (n : Nat) (l : List Diff) (m : Mat) : Prop where
  sq : Sq n m
  lo : ∀ i j, i < n → j < n → -4398046511104 ≤ at2 m i j
  hi : ∀ i j, i < n → j < n → at2 m i j ≤ 34359738368
  zero : ∀ i, i < n → at2 m i i = 0
  tri : ∀ i a j, i < n → a < n → j < n → at2 m i j ≤ at2 m i a + at2 m a j
  /-- no solution goes beyond -/
  sol : ∀ x, Sol l x → ∀ i j, i < n → j < n → x j - x i ≤ at2 m i j
  /-- each row is a solution -/
  row : ∀ r, r < n → Sol l (fun j => at2 m r j)

/-- A solution is bounded. -/
theorem Conn.bounded {n : Nat} {l : List Diff} (h : Conn n l) {x : Nat → Int} (s : Sol l x) : ∀ i j, i < n → j < n → x j - x i ≤ 1099511627776 := by
  have ho := h.all
  intro i j hi hj
  have a : x j - x 0 ≤ 17179869184 := by
    by_cases e : j = 0
    · subst e; omega
    · obtain ⟨d, hd, e1, e2⟩ := h.up j (by omega) hj
      have := s d hd
      have := of_decide_eq_true (List.all_eq_true.1 ho d hd)
      rw [e1, e2] at *
      omega
  have b : x 0 - x i ≤ 17179869184 := by
    by_cases e : i = 0
    · subst e; omega
    · obtain ⟨d, hd, e1, e2, e3⟩ := h.down i (by omega) hi
      have := s d hd
      rw [e1, e2] at this
      omega
  omega

theorem ClosedM.ok {n : Nat} {l : List Diff} (h : Conn n l) {m : Mat} (c : ClosedM n (startW n l) m) : CloseOk n l m := by
  have ho := h.all
  have hs := h.small
  refine ⟨c.inv.sq, fun i j hi hj => ?_, c.inv.hi, c.zero, fun i a j hi ha hj => c.tri hi ha hj, fun x s i j hi hj => ?_, fun r hr => ?_⟩
  · have := c.lo h.pos hi hj
    omega
  · exact c.sol x ((sol_iff ho x (h.bounded s)).2 s) i j hi hj
  · intro d hd
    have hh := of_decide_eq_true (List.all_eq_true.1 ho d hd)
    have := c.row hr d.1.toNat d.2.1.toNat (by omega) (by omega)
    have := start_le ho hd
    omega

theorem diagOk_iff {n : Nat} {m : Mat} : diagOk n m = true ↔ ∀ i, i < n → 0 ≤ at2 m i i := by
  unfold diagOk
  rw [List.all_eq_true]
  constructor
  · intro h i hi
    have := of_decide_eq_true (h i (by simpa using hi))
    omega
  · intro h i hi
    have := h i (by simpa using hi)
    exact decide_eq_true (by omega)

/-- If there is a solution, Close returns a matrix. -/
theorem close_some {n : Nat} {l : List Diff} (h : Conn n l) {x : Nat → Int} (s : Sol l x) : ∃ m, closeW n l = some m ∧ CloseOk n l m := by
  obtain ⟨m, hr, c⟩ := closed_exist h.pos h.inv ((sol_iff h.all x (h.bounded s)).2 s)
  refine ⟨m, ?_, c.ok h⟩
  unfold closeW
  rw [if_pos h.valid]
  have hr' : roundsW n n 0 (diagW n (directW n l)) = some m := hr
  rw [hr']
  simp only []
  rw [if_pos (diagOk_iff.2 (fun i hi => by have := c.zero i hi; omega))]
end
end Go.Lift

/- The constraints of a record, and what their solutions are. -/
namespace Go.Lift
open Go.RowKit Go.IntWalk
noncomputable section
set_option linter.unusedVariables false
set_option linter.unusedSimpArgs false
set_option maxRecDepth 10000

/-- A loop with a test at each element: out, or on. -/
theorem fold_check {β α σ : Type} (I : Nat → σ → Prop) (F : Nat → Int → σ → Option β) (p : α → Bool) (g : σ → α → σ) (E : Option β) (K : σ → Option β) (d : α) (xs : List α) (s : σ) (n : Nat) (hn : xs.length < n) (h0 : I 0 s)
    (hI : ∀ (i : Nat) s, i < xs.length → I i s → p (xs.getD i d) = true → I (i + 1) (g s (xs.getD i d)))
    (h1 : ∀ (m i : Nat) s, i < xs.length → I i s → F (m + 1) (i : Int) s = cond (p (xs.getD i d)) (F m ((i : Int) + 1) (g s (xs.getD i d))) E)
    (h2 : ∀ (m : Nat) s, I xs.length s → F (m + 1) (xs.length : Int) s = K s) : F n 0 s = cond (xs.all p) (K (xs.foldl g s)) E := by
  have key : ∀ (r : List α) (j fuel : Nat) (s : σ), xs.drop j = r → j + r.length = xs.length → r.length < fuel → I j s → F fuel (j : Int) s = cond (r.all p) (K (r.foldl g s)) E := by
    intro r
    induction r with
    | nil =>
      intro j fuel s hd hj hf hs
      obtain ⟨m, rfl⟩ : ∃ m, fuel = m + 1 := ⟨fuel - 1, by omega⟩
      simp only [List.length_nil, Nat.add_zero] at hj
      subst hj
      exact h2 m s hs
    | cons x r ih =>
      intro j fuel s hd hj hf hs
      obtain ⟨m, rfl⟩ : ∃ m, fuel = m + 1 := ⟨fuel - 1, by omega⟩
      simp only [List.length_cons] at hj hf
      have h3 : j < xs.length := by omega
      have hx : xs.getD j d = x := by
        rw [List.drop_eq_getElem_cons h3] at hd
        injection hd with hd1 hd2
        simp [List.getD, h3, hd1]
      have hr : xs.drop (j + 1) = r := by
        rw [List.drop_eq_getElem_cons h3] at hd
        injection hd with hd1 hd2
      rw [h1 m j s h3 hs, hx]
      have := hI j s h3 hs
      rw [hx] at this
      simp only [List.all_cons, List.foldl_cons]
      cases hp : p x with
      | true => simpa using ih (j + 1) m (g s x) hr (by omega) (by omega) (this hp)
      | false => rfl
  exact key xs 0 n s rfl (by simp) hn h0

/-- The same over the numbers below n. -/
theorem range_check {β σ : Type} (n : Nat) (I : Nat → σ → Prop) (F : Nat → Int → σ → Option β) (p : Nat → Bool) (g : σ → Nat → σ) (E : Option β) (K : σ → Option β) (s : σ) (N : Nat) (hn : n < N) (h0 : I 0 s)
    (hI : ∀ (i : Nat) s, i < n → I i s → p i = true → I (i + 1) (g s i))
    (h1 : ∀ (m i : Nat) s, i < n → I i s → F (m + 1) (i : Int) s = cond (p i) (F m ((i : Int) + 1) (g s i)) E)
    (h2 : ∀ (m : Nat) s, I n s → F (m + 1) (n : Int) s = K s) : F N 0 s = cond ((List.range n).all p) (K ((List.range n).foldl g s)) E := by
  have hl : (List.range n).length = n := List.length_range
  refine fold_check I F p g E K 0 (List.range n) s N (by omega) h0 (fun i s hi hs => ?_) (fun m i s hi hs => ?_) (fun m s hs => ?_)
  · rw [range_getD (by omega)]
    exact hI i s (by omega) hs
  · rw [range_getD (by omega)]
    exact h1 m i s (by omega) hs
  · rw [hl] at hs ⊢
    exact h2 m s hs

theorem range_fold' {β σ : Type} (n : Nat) (I : Nat → σ → Prop) (F : Nat → Int → σ → Option β) (g : σ → Nat → σ) (K : σ → Option β) (s : σ) (N : Nat) (hn : n < N) (h0 : I 0 s)
    (hI : ∀ (i : Nat) s, i < n → I i s → I (i + 1) (g s i))
    (h1 : ∀ (m i : Nat) s, i < n → I i s → F (m + 1) (i : Int) s = F m ((i : Int) + 1) (g s i))
    (h2 : ∀ (m : Nat) s, I n s → F (m + 1) (n : Int) s = K s) : F N 0 s = K ((List.range n).foldl g s) := by
  have h := range_check n I F (fun _ => true) g none K s N hn h0 (fun i s hi hs _ => hI i s hi hs) h1 h2
  rw [h]
  have : (List.range n).all (fun _ => true) = true := by simp
  rw [this]
  rfl

def evAt (r : Rec) (i : Nat) : Event := r.2.2.1.getD i (0, 0, [])
def whenAt (r : Rec) (i : Nat) : (Int × Int) × Bool := when? r (evAt r i).1 (evAt r i).2.1
def driftAt (r : Rec) (h : Int) : Int := (r.1.getD h.toNat ([], 0)).2
def evD (r : Rec) (i : Nat) : List Diff := [(0, ((i : Int) + 1, (whenAt r i).1.2)), ((i : Int) + 1, (0, -(whenAt r i).1.1))]
def pairD (r : Rec) (i j : Nat) : List Diff :=
  if (evAt r j).2.1 < (evAt r i).2.1 then
    [((j : Int) + 1, ((i : Int) + 1, (elapsed (driftAt r (evAt r j).1) ((evAt r i).2.1 - (evAt r j).2.1)).2)), ((i : Int) + 1, ((j : Int) + 1, -(elapsed (driftAt r (evAt r j).1) ((evAt r i).2.1 - (evAt r j).2.1)).1))]
  else
    [((i : Int) + 1, ((j : Int) + 1, (elapsed (driftAt r (evAt r i).1) ((evAt r j).2.1 - (evAt r i).2.1)).2)), ((j : Int) + 1, ((i : Int) + 1, -(elapsed (driftAt r (evAt r i).1) ((evAt r j).2.1 - (evAt r i).2.1)).1))]
def pairIf (r : Rec) (i j : Nat) : List Diff := if (evAt r j).1 = (evAt r i).1 then pairD r i j else []
def pairsI (r : Rec) (n i : Nat) : List Diff := ((List.range n).filter fun j => decide (i < j)).flatMap (pairIf r i)
def linkD (l : Link) : Diff := (l.2.1 + 1, (l.1 + 1, -l.2.2))
def nE (r : Rec) : Nat := r.2.2.1.length
def whensOk (r : Rec) : Bool := (List.range (nE r)).all fun i => (whenAt r i).2
def consL (r : Rec) : List Diff := (List.range (nE r)).flatMap (evD r) ++ (List.range (nE r)).flatMap (pairsI r (nE r)) ++ r.2.2.2.map linkD
/-- The constraints of a record. -/
def consW (r : Rec) : Option (List Diff) := if valid r && whensOk r then some (consL r) else none

/-- Times that fit a record. -/
structure SolR (r : Rec) (x : Nat → Int) : Prop where
  ev : ∀ i, i < nE r → x (i + 1) - x 0 ≤ (whenAt r i).1.2 ∧ x 0 - x (i + 1) ≤ -(whenAt r i).1.1
  pair : ∀ i j, i < nE r → j < nE r → i ≠ j → (evAt r i).1 = (evAt r j).1 → (evAt r i).2.1 ≤ (evAt r j).2.1 →
    (elapsed (driftAt r (evAt r i).1) ((evAt r j).2.1 - (evAt r i).2.1)).1 ≤ x (j + 1) - x (i + 1) ∧ x (j + 1) - x (i + 1) ≤ (elapsed (driftAt r (evAt r i).1) ((evAt r j).2.1 - (evAt r i).2.1)).2
  link : ∀ l ∈ r.2.2.2, l.2.2 ≤ x (l.2.1.toNat + 1) - x (l.1.toNat + 1)

theorem valid_parts {r : Rec} (h : valid r = true) : (∀ h ∈ r.1, 0 ≤ h.2 ∧ h.2 ≤ 500000) ∧ (∀ s ∈ r.2.1, 0 ≤ s.1 ∧ s.1 < r.1.length ∧ okSync s = true) ∧
    (∀ e ∈ r.2.2.1, 0 ≤ e.1 ∧ e.1 < r.1.length ∧ 0 ≤ e.2.1 ∧ e.2.1 ≤ 8589934592) ∧
    (∀ l ∈ r.2.2.2, 0 ≤ l.1 ∧ l.1 < nE r ∧ 0 ≤ l.2.1 ∧ l.2.1 < nE r ∧ l.1 ≠ l.2.1 ∧ 0 ≤ l.2.2 ∧ l.2.2 ≤ 8589934592) := by
  unfold valid at h
  simp only [Bool.and_eq_true, List.all_eq_true] at h
  obtain ⟨_, h1, h2, h3, h4⟩ := h
  refine ⟨fun x hx => ?_, fun x hx => ?_, fun x hx => ?_, fun x hx => ?_⟩
  · exact inN_iff.1 (h1 x hx)
  · have := h2 x hx
    simp only [vSync, Bool.and_eq_true, inN_iff] at this
    exact ⟨by omega, by omega, this.2⟩
  · have := h3 x hx
    simp only [vEvent, Bool.and_eq_true, inN_iff] at this
    omega
  · have := h4 x hx
    simp only [vLink, Bool.and_eq_true, inN_iff, Bool.not_eq_true', decide_eq_false_iff_not] at this
    unfold nE
    omega

theorem valid_ev {r : Rec} (h : valid r = true) {i : Nat} (hi : i < nE r) : 0 ≤ (evAt r i).1 ∧ (evAt r i).1 < r.1.length ∧ 0 ≤ (evAt r i).2.1 ∧ (evAt r i).2.1 ≤ 8589934592 :=
  (valid_parts h).2.2.1 _ (getD_mem hi)

theorem elapsed_zero (d : Int) : elapsed d 0 = (0, 0) := by
  unfold elapsed
  by_cases h : inN d 0 500000 = true
  · have := inN_iff.1 h
    rw [h, inN_mk (by omega)]
    simp only [Bool.and_self, cond_true]
    rw [Int.zero_mul, Int.zero_ediv]
    congr 1
    exact Int.ediv_eq_zero_of_lt (by omega) (by omega)
  · rw [Bool.eq_false_iff.2 h]
    rfl

theorem mem_pairs {r : Rec} {n : Nat} {d : Diff} : d ∈ (List.range n).flatMap (pairsI r n) ↔ ∃ i j, i < j ∧ j < n ∧ (evAt r j).1 = (evAt r i).1 ∧ d ∈ pairD r i j := by
  simp only [List.mem_flatMap, pairsI, List.mem_filter, List.mem_range, decide_eq_true_eq, pairIf]
  constructor
  · rintro ⟨i, hi, j, ⟨hj, hij⟩, hd⟩
    split at hd
    · rename_i e
      exact ⟨i, j, hij, hj, e, hd⟩
    · cases hd
  · rintro ⟨i, j, hij, hj, e, hd⟩
    exact ⟨i, by omega, j, ⟨hj, hij⟩, by rw [if_pos e]; exact hd⟩

theorem mem_cons {r : Rec} {d : Diff} : d ∈ consL r ↔ (∃ i, i < nE r ∧ d ∈ evD r i) ∨ (∃ i j, i < j ∧ j < nE r ∧ (evAt r j).1 = (evAt r i).1 ∧ d ∈ pairD r i j) ∨ ∃ l ∈ r.2.2.2, d = linkD l := by
  unfold consL
  rw [List.mem_append, List.mem_append, mem_pairs, or_assoc]
  simp only [List.mem_flatMap, List.mem_range, List.mem_map, eq_comm]

theorem pairD_sol {r : Rec} {i j : Nat} {x : Nat → Int} : (∀ d ∈ pairD r i j, x d.2.1.toNat - x d.1.toNat ≤ d.2.2) ↔
    (if (evAt r j).2.1 < (evAt r i).2.1 then
      (elapsed (driftAt r (evAt r j).1) ((evAt r i).2.1 - (evAt r j).2.1)).1 ≤ x (i + 1) - x (j + 1) ∧ x (i + 1) - x (j + 1) ≤ (elapsed (driftAt r (evAt r j).1) ((evAt r i).2.1 - (evAt r j).2.1)).2
    else (elapsed (driftAt r (evAt r i).1) ((evAt r j).2.1 - (evAt r i).2.1)).1 ≤ x (j + 1) - x (i + 1) ∧ x (j + 1) - x (i + 1) ≤ (elapsed (driftAt r (evAt r i).1) ((evAt r j).2.1 - (evAt r i).2.1)).2) := by
  have ei : ((i : Int) + 1).toNat = i + 1 := by omega
  have ej : ((j : Int) + 1).toNat = j + 1 := by omega
  unfold pairD
  split
  · simp only [List.mem_cons, List.not_mem_nil, or_false, forall_eq_or_imp, forall_eq, ei, ej]
    omega
  · simp only [List.mem_cons, List.not_mem_nil, or_false, forall_eq_or_imp, forall_eq, ei, ej]
    omega

theorem sol_cons {r : Rec} (hv : valid r = true) (x : Nat → Int) : Sol (consL r) x ↔ SolR r x := by
  have hp := valid_parts hv
  constructor
  · intro h
    refine ⟨fun i hi => ?_, fun i j hi hj hij hh hc => ?_, fun l hl => ?_⟩
    · have h1 := h (0, ((i : Int) + 1, (whenAt r i).1.2)) (mem_cons.2 (.inl ⟨i, hi, by simp [evD]⟩))
      have h2 := h ((i : Int) + 1, (0, -(whenAt r i).1.1)) (mem_cons.2 (.inl ⟨i, hi, by simp [evD]⟩))
      have e : ((i : Int) + 1).toNat = i + 1 := by omega
      simp only [e, Int.toNat_zero] at h1 h2
      exact ⟨h1, h2⟩
    · rcases Nat.lt_or_gt_of_ne hij with hl | hl
      · have := pairD_sol.1 (fun d hd => h d (mem_cons.2 (.inr (.inl ⟨i, j, hl, hj, hh.symm, hd⟩))))
        rw [if_neg (by omega)] at this
        exact this
      · have := pairD_sol.1 (fun d hd => h d (mem_cons.2 (.inr (.inl ⟨j, i, hl, hi, hh, hd⟩))))
        by_cases e : (evAt r i).2.1 = (evAt r j).2.1
        · rw [if_neg (by omega), e, Int.sub_self, elapsed_zero] at this
          rw [e, Int.sub_self, elapsed_zero]
          simp only at this ⊢
          omega
        · rw [if_pos (by omega)] at this
          exact this
    · have h1 := h (linkD l) (mem_cons.2 (.inr (.inr ⟨l, hl, rfl⟩)))
      have := hp.2.2.2 l hl
      have e1 : (l.1 + 1).toNat = l.1.toNat + 1 := by omega
      have e2 : (l.2.1 + 1).toNat = l.2.1.toNat + 1 := by omega
      simp only [linkD, e1, e2] at h1
      omega
  · intro h d hd
    rcases mem_cons.1 hd with ⟨i, hi, hd⟩ | ⟨i, j, hij, hj, hh, hd⟩ | ⟨l, hl, rfl⟩
    · have := h.ev i hi
      have e : ((i : Int) + 1).toNat = i + 1 := by omega
      simp only [evD, List.mem_cons, List.not_mem_nil, or_false] at hd
      rcases hd with rfl | rfl
      · simp only [e, Int.toNat_zero]
        exact this.1
      · simp only [e, Int.toNat_zero]
        exact this.2
    · refine pairD_sol.2 ?_ d hd
      split
      · rename_i hc
        exact h.pair j i hj (by omega) (by omega) hh (by omega)
      · rename_i hc
        exact h.pair i j (by omega) hj (by omega) hh.symm (by omega)
    · have := h.link l hl
      have hb := hp.2.2.2 l hl
      have e1 : (l.1 + 1).toNat = l.1.toNat + 1 := by omega
      have e2 : (l.2.1 + 1).toNat = l.2.1.toNat + 1 := by omega
      simp only [linkD, e1, e2]
      omega

theorem flat_len {α γ : Type} (f : α → List γ) (c : Nat) : ∀ l : List α, (∀ x ∈ l, (f x).length ≤ c) → (l.flatMap f).length ≤ l.length * c
  | [], _ => by simp
  | x :: l, h => by
    have h1 := h x (by simp)
    have h2 := flat_len f c l (fun y hy => h y (by simp [hy]))
    simp only [List.flatMap_cons, List.length_append, List.length_cons, Nat.succ_mul]
    omega

theorem cons_len {r : Rec} (hv : valid r = true) : (consL r).length ≤ 4000 := by
  have hb := valid_bd hv
  have h1 := flat_len (evD r) 2 (List.range (nE r)) (fun i _ => by simp [evD])
  have h2 : ∀ i ∈ List.range (nE r), (pairsI r (nE r) i).length ≤ 80 := fun i _ => by
    have h3 := flat_len (pairIf r i) 2 ((List.range (nE r)).filter fun j => decide (i < j)) (fun j _ => by
      unfold pairIf pairD
      split
      · split <;> simp
      · simp)
    have h4 := List.length_filter_le (fun j => decide (i < j)) (List.range (nE r))
    rw [List.length_range] at h4
    unfold pairsI nE at *
    omega
  have h3 := flat_len (pairsI r (nE r)) 80 _ h2
  unfold consL
  rw [List.length_append, List.length_append, List.length_map]
  rw [List.length_range] at h1 h3
  unfold nE at *
  omega

/-- The ranges of the readings. -/
theorem whenAt_bd {r : Rec} {i : Nat} (h : (whenAt r i).2 = true) : 0 ≤ (whenAt r i).1.1 ∧ (whenAt r i).1.1 ≤ (whenAt r i).1.2 ∧ (whenAt r i).1.2 ≤ 8589934592 := by
  unfold whenAt Go.Lift.when? at h ⊢
  cases hc : (valid r && (inN (evAt r i).1 0 ((r.1.length : Int) - 1) && inN (evAt r i).2.1 0 8589934592)) with
  | false => rw [hc] at h; cases h
  | true =>
    rw [hc] at h
    simp only [cond_true, Bool.not_eq_true', decide_eq_false_iff_not] at h ⊢
    rw [whenR_eq] at h ⊢
    have := @foldl_meet_bd (froms r.1 (evAt r i).1 (evAt r i).2.1 r.2.1) (0, 8589934592)
    simp only at this
    omega

theorem whensOk_iff {r : Rec} : whensOk r = true ↔ ∀ i, i < nE r → (whenAt r i).2 = true := by
  unfold whensOk
  rw [List.all_eq_true]
  simp only [List.mem_range]

theorem consL_ok {r : Rec} (hv : valid r = true) (hw : whensOk r = true) : (consL r).all (diffOk (nE r + 1)) = true := by
  rw [List.all_eq_true]
  intro d hd
  have hp := valid_parts hv
  unfold diffOk
  apply decide_eq_true
  rcases mem_cons.1 hd with ⟨i, hi, hd⟩ | ⟨i, j, hij, hj, hh, hd⟩ | ⟨l, hl, rfl⟩
  · have := whenAt_bd (whensOk_iff.1 hw i hi)
    simp only [evD, List.mem_cons, List.not_mem_nil, or_false] at hd
    rcases hd with rfl | rfl <;> simp only <;> omega
  · unfold pairD at hd
    split at hd <;> simp only [List.mem_cons, List.not_mem_nil, or_false] at hd
    · have := @elapsed_bd (driftAt r (evAt r j).1) ((evAt r i).2.1 - (evAt r j).2.1)
      rcases hd with rfl | rfl <;> simp only <;> omega
    · have := @elapsed_bd (driftAt r (evAt r i).1) ((evAt r j).2.1 - (evAt r i).2.1)
      rcases hd with rfl | rfl <;> simp only <;> omega
  · have := hp.2.2.2 l hl
    simp only [linkD]
    omega

theorem consL_valid {r : Rec} (hv : valid r = true) (hw : whensOk r = true) : validD (nE r + 1) (consL r) = true := by
  unfold validD
  rw [decide_eq_true (cons_len hv), consL_ok hv hw]
  rfl

/-- Every variable is bound both ways. -/
theorem cons_conn {r : Rec} (hv : valid r = true) (hw : whensOk r = true) : Conn (nE r + 1) (consL r) := by
  have hn : nE r ≤ 40 := (valid_bd hv).2.2.1
  refine ⟨by omega, by omega, consL_valid hv hw, fun i h1 h2 => ?_, fun i h1 h2 => ?_⟩
  · refine ⟨(0, (((i - 1 : Nat) : Int) + 1, (whenAt r (i - 1)).1.2)), mem_cons.2 (.inl ⟨i - 1, by omega, by simp [evD]⟩), rfl, ?_⟩
    simp only
    omega
  · refine ⟨(((i - 1 : Nat) : Int) + 1, (0, -(whenAt r (i - 1)).1.1)), mem_cons.2 (.inl ⟨i - 1, by omega, by simp [evD]⟩), ?_, rfl, ?_⟩
    · simp only
      omega
    · have := whenAt_bd (whensOk_iff.1 hw (i - 1) (by omega))
      simp only
      omega

/-- The matrix of a record. -/
def closedW (r : Rec) : Option Mat := match consW r with | some l => closeW (nE r + 1) l | none => none

theorem CloseOk.le_iff {n : Nat} {l : List Diff} {m : Mat} (h : CloseOk n l m) {i j : Nat} (hi : i < n) (hj : j < n) (c : Int) : at2 m i j ≤ c ↔ ∀ x, Sol l x → x j - x i ≤ c := by
  constructor
  · intro hc x s
    exact Int.le_trans (h.sol x s i j hi hj) hc
  · intro hx
    have := hx _ (h.row i hi)
    have := h.zero i hi
    omega

/-- What is known of a record that has a matrix. -/
structure ClosedR (r : Rec) (m : Mat) : Prop where
  valid : valid r = true
  whens : whensOk r = true
  eq : closedW r = some m
  ok : CloseOk (nE r + 1) (consL r) m

theorem closed_some' {r : Rec} (hv : Go.Lift.valid r = true) (hw : whensOk r = true) {x : Nat → Int} (s : SolR r x) : ∃ m, ClosedR r m := by
  obtain ⟨m, e, h⟩ := close_some (cons_conn hv hw) ((sol_cons hv x).2 s)
  refine ⟨m, hv, hw, ?_, h⟩
  unfold closedW consW
  rw [hv, hw]
  exact e

theorem closed_some {r : Rec} (hv : Go.Lift.valid r = true) (hw : whensOk r = true) (hn : nE r ≤ 7) {x : Nat → Int} (s : SolR r x) : ∃ m, ClosedR r m := closed_some' hv hw s

theorem ClosedR.le_iff {r : Rec} {m : Mat} (h : ClosedR r m) {i j : Nat} (hi : i < nE r + 1) (hj : j < nE r + 1) (c : Int) : at2 m i j ≤ c ↔ ∀ x, SolR r x → x j - x i ≤ c := by
  rw [h.ok.le_iff hi hj]
  exact ⟨fun g x s => g x ((sol_cons h.valid x).2 s), fun g x s => g x ((sol_cons h.valid x).1 s)⟩

theorem ClosedR.row {r : Rec} {m : Mat} (h : ClosedR r m) {i : Nat} (hi : i < nE r + 1) : SolR r (fun j => at2 m i j) := (sol_cons h.valid _).1 (h.ok.row i hi)

theorem ClosedR.sol {r : Rec} {m : Mat} (h : ClosedR r m) {x : Nat → Int} (s : SolR r x) {i j : Nat} (hi : i < nE r + 1) (hj : j < nE r + 1) : x j - x i ≤ at2 m i j :=
  (h.le_iff hi hj _).1 (Int.le_refl _) x s

end
end Go.Lift

/- The functions of the package order in plain Lean. -/
namespace Go.Lift
open Go.RowKit Go.IntWalk
noncomputable section
set_option linter.unusedVariables false
set_option linter.unusedSimpArgs false
set_option maxRecDepth 10000

section
variable {β : Type}
/-- One event is before another one for certain. -/
def bef (m : Mat) (a b : Nat) : Bool := decide (at2 m (b + 1) (a + 1) ≤ -1)
def rangeN (m : Mat) (i : Nat) : Int × Int := (-at2 m (i + 1) 0, at2 m 0 (i + 1))
end
end
end Go.Lift

/- Records of the dice and their order; the example of the chapter. -/
namespace Go.Lift
open Go.RowKit Go.IntWalk
noncomputable section
set_option linter.unusedVariables false
set_option linter.unusedSimpArgs false
set_option maxRecDepth 10000

/-- A loop that only looks and always goes on. -/
theorem pass_loop {β : Type} (n : Nat) (F : Nat → Int → Option β) (K : Option β) (N : Nat) (hn : n < N)
    (h1 : ∀ (m i : Nat), i < n → F (m + 1) (i : Int) = F m ((i : Int) + 1))
    (h2 : ∀ (m : Nat), F (m + 1) (n : Int) = K) : F N 0 = K :=
  range_fold' (σ := Unit) n (fun _ _ => True) (fun m i _ => F m i) (fun s _ => s) (fun _ => K) () N hn trivial (fun _ _ _ _ => trivial) (fun m i _ hi _ => h1 m i hi) (fun m _ _ => h2 m)

/-- The true times as a solution. -/
def xOf (times : List Int) (j : Nat) : Int := if j = 0 then 0 else times.getD (j - 1) 0
theorem xOf_zero (times : List Int) : xOf times 0 = 0 := rfl
theorem xOf_succ (times : List Int) (j : Nat) : xOf times (j + 1) = times.getD j 0 := by unfold xOf; rw [if_neg (by omega)]; rfl

section
variable {n : Int} {r : Rec} {ahead times : List Int}
theorem RecOk.nE_le (h : RecOk n r ahead times) : (nE r : Int) ≤ n := h.fewE
theorem RecOk.evOk (h : RecOk n r ahead times) {i : Nat} (hi : i < nE r) : EventOk r.1.length ahead (evAt r i) (times.getD i 0) := h.events i hi

theorem RecOk.whenAt (h : RecOk n r ahead times) (hn : n ≤ 40) {i : Nat} (hi : i < nE r) : (whenAt r i).2 = true ∧ (whenAt r i).1.1 ≤ times.getD i 0 ∧ times.getD i 0 ≤ (whenAt r i).1.2 := by
  obtain ⟨a1, a2, a3, a4, a5⟩ := h.evOk hi
  have hb := ahead_bd h.hosts (evAt r i).1.toNat
  have e := h.when? hn (host := (evAt r i).1) (c := (evAt r i).2.1) ⟨a1, a2⟩ (by omega)
  have t := h.when_true (host := (evAt r i).1) (c := (evAt r i).2.1) ⟨a1, a2⟩ (by omega)
  unfold Go.Lift.whenAt
  rw [e]
  refine ⟨rfl, ?_, ?_⟩ <;> simp only <;> omega

theorem RecOk.whens (h : RecOk n r ahead times) (hn : n ≤ 40) : whensOk r = true := whensOk_iff.2 fun i hi => (h.whenAt hn hi).1

theorem RecOk.solR (h : RecOk n r ahead times) (hn : n ≤ 40) : SolR r (xOf times) := by
  refine ⟨fun i hi => ?_, fun i j hi hj hij hh hc => ?_, fun l hl => ?_⟩
  · have := h.whenAt hn hi
    rw [xOf_succ, xOf_zero]
    omega
  · obtain ⟨a1, a2, a3, a4, a5⟩ := h.evOk hi
    obtain ⟨b1, b2, b3, b4, b5⟩ := h.evOk hj
    rw [xOf_succ, xOf_succ]
    rw [← hh] at b5
    have hd : 0 ≤ driftAt r (evAt r i).1 ∧ driftAt r (evAt r i).1 ≤ 500000 := h.drift_ok _
    have := elapsed_le hd (d := (evAt r j).2.1 - (evAt r i).2.1) (by omega)
    omega
  · have := h.links l hl
    unfold LinkOk at this
    rw [xOf_succ, xOf_succ]
    omega

theorem RecOk.closed (h : RecOk n r ahead times) (hn : n ≤ 7) : ∃ m, ClosedR r m := by
  have := h.nE_le
  exact closed_some (h.valid (by omega)) (h.whens (by omega)) (by omega) (h.solR (by omega))
end

section
variable {β : Type}
end

section
variable {β : Type}
end
end
end Go.Lift

/- The reference of the chapter 39 in plain Lean. -/
namespace Go.Lift
open Go.RowKit Go.IntWalk
noncomputable section
set_option linter.unusedVariables false
set_option linter.unusedSimpArgs false
set_option maxRecDepth 10000

/-! ### The rounds, with a look at the whole diagonal behind each -/
/-! ### The beginning -/
/-- No entry is beyond BIG. -/
def Cap (n : Nat) (m : Mat) : Prop := ∀ i j, i < n → j < n → at2 m i j ≤ 1099511627776
theorem Cap.le {n : Nat} {m m' : Mat} (h : Cap n m) (hl : Le n m' m) : Cap n m' := fun i j hi hj => Int.le_trans (hl i j hi hj) (h i j hi hj)
section
variable {β : Type}
end
end
end Go.Lift

/- What is certain, and what the true times are. -/
namespace Go.Lift
open Go.RowKit Go.IntWalk
noncomputable section
set_option linter.unusedVariables false
set_option linter.unusedSimpArgs false
set_option maxRecDepth 10000

/-- A loop whose state is known at each round. -/
theorem range_state {β σ : Type} (n : Nat) (S : Nat → σ) (F : Nat → Int → σ → Option β) (K : Option β) (N : Nat) (hn : n < N)
    (h1 : ∀ (m i : Nat), i < n → F (m + 1) (i : Int) (S i) = F m ((i : Int) + 1) (S (i + 1)))
    (h2 : ∀ (m : Nat), F (m + 1) (n : Int) (S n) = K) : F N 0 (S 0) = K :=
  pass_loop n (fun m i => F m i (S i.toNat)) K N hn (fun m i hi => by
    have e : ((i : Int) + 1).toNat = i + 1 := by omega
    simp only [Int.toNat_natCast, e]
    exact h1 m i hi) (fun m => by simp only [Int.toNat_natCast]; exact h2 m)

section
variable {β : Type} {n : Int} {r : Rec} {ahead times : List Int}

theorem ClosedR.bef {r : Rec} {m : Mat} (hm : ClosedR r m) {a b : Nat} (ha : a < nE r) (hb : b < nE r) : bef m a b = true ↔ ∀ x, SolR r x → x (a + 1) < x (b + 1) := by
  unfold Go.Lift.bef
  rw [decide_eq_true_iff, hm.le_iff (i := b + 1) (j := a + 1) (by omega) (by omega)]
  constructor
  · intro h x s
    have := h x s
    omega
  · intro h x s
    have := h x s
    omega

theorem ClosedR.range {r : Rec} {m : Mat} (hm : ClosedR r m) {x : Nat → Int} (s : SolR r x) (h0 : x 0 = 0) {i : Nat} (hi : i < nE r) : (rangeN m i).1 ≤ x (i + 1) ∧ x (i + 1) ≤ (rangeN m i).2 := by
  have h1 := hm.sol s (i := i + 1) (j := 0) (by omega) (by omega)
  have h2 := hm.sol s (i := 0) (j := i + 1) (by omega) (by omega)
  unfold rangeN
  simp only
  omega

/-- Readings of one clock that are two seconds apart. -/
theorem ClosedR.far {m : Mat} (hm : ClosedR r m) {i k : Nat} (hi : i < nE r) (hk : k < nE r) (hh : (evAt r i).1 = (evAt r k).1) (hc : (evAt r i).2.1 + 2 ≤ (evAt r k).2.1) : Go.Lift.bef m i k = true := by
  rw [hm.bef hi hk]
  intro x s
  have h1 := (s.pair i k hi hk (by intro h; subst h; omega) hh (by omega)).1
  have e1 := valid_ev hm.valid hi
  have e2 := valid_ev hm.valid hk
  have hd : 0 ≤ driftAt r (evAt r i).1 ∧ driftAt r (evAt r i).1 ≤ 500000 := by
    have := (valid_parts hm.valid).1 _ (getD_mem (l := r.1) (i := (evAt r i).1.toNat) (d := ([], 0)) (by omega))
    exact this
  have h2 : 1 ≤ (elapsed (driftAt r (evAt r i).1) ((evAt r k).2.1 - (evAt r i).2.1)).1 := by
    unfold elapsed
    rw [inN_mk hd, inN_mk (by omega)]
    simp only [Bool.and_self, cond_true]
    rw [Int.le_ediv_iff_mul_le (by omega)]
    omega
  omega

end
end
end Go.Lift

/- The example of chapter 41. -/
namespace Go.Lift
noncomputable section
set_option maxRecDepth 100000
theorem sane41 {β : Type} (k : Bool → Option β) : zqpp k = k true := by kernel_rfl
end
end Go.Lift

/- Merging records (chapter 41): what the code makes of it, and what the times that fit are. -/
namespace Go.Lift
open Go.RowKit Go.IntWalk
noncomputable section
set_option linter.unusedVariables false
set_option linter.unusedSimpArgs false
set_option maxRecDepth 10000

def mvS (n : Int) (s : Sync) : Sync := (s.1 + n, s.2)
def mvE (n : Int) (e : Event) : Event := (e.1 + n, e.2)
def mvL (n : Int) (l : Link) : Link := (l.1 + n, (l.2.1 + n, l.2.2))
/-- The record of two records. -/
def mergeR (a b : Rec) : Rec := (a.1 ++ b.1, (a.2.1 ++ b.2.1.map (mvS (a.1.length : Int)), (a.2.2.1 ++ b.2.2.1.map (mvE (a.1.length : Int)), a.2.2.2 ++ b.2.2.2.map (mvL (a.2.2.1.length : Int)))))

theorem take_succ_map {α γ : Type} {l : List α} {i : Nat} (hi : i < l.length) (d : α) (f : α → γ) : (l.take (i + 1)).map f = (l.take i).map f ++ [f (l.getD i d)] := by
  have e : l.take (i + 1) = l.take i ++ [l.getD i d] := by
    rw [List.take_add_one, List.getElem?_eq_getElem hi]
    simp [List.getD, hi]
  rw [e, List.map_append]
  rfl

section
variable {β : Type}
theorem clone_h (l : List Host) (hl : l.length ≤ 100000) (k : List Host → Option β) : zq3m l k = k l := by
  unfold zq3m cloneF
  exact c_room (by omega)
theorem clone_s (l : List Sync) (hl : l.length ≤ 100000) (k : List Sync → Option β) : zq3q l k = k l := by
  unfold zq3q cloneF
  exact c_room (by omega)
theorem clone_e (l : List Event) (hl : l.length ≤ 100000) (k : List Event → Option β) : zq3u l k = k l := by
  unfold zq3u cloneF
  exact c_room (by omega)
theorem clone_l (l : List Link) (hl : l.length ≤ 100000) (k : List Link → Option β) : zq3y l k = k l := by
  unfold zq3y cloneF
  exact c_room (by omega)
theorem copied_eq {r : Rec} (hv : valid r = true) (k : List Host → List Sync → List Event → List Link → Option β) : zq97 r k = k r.1 r.2.1 r.2.2.1 r.2.2.2 := by
  have hb := valid_bd hv
  unfold zq97 zq94
  refine (clone_h _ (by omega) _).trans ?_
  refine (clone_s _ (by omega) _).trans ?_
  refine (clone_e _ (by omega) _).trans ?_
  exact clone_l _ (by omega) _

theorem merge_p1 {a b : Rec} (hva : valid a = true) (hvb : valid b = true) (k1 : zqcn β) (b4 b8 : List Host) (b5 : List Sync) (b6 b10 : List Event) (b7 b11 : List Link) :
    zqdd k1 b.2.1 (b.2.1.length : Int) 0 a.1 a.2.1 a.2.2.1 a.2.2.2 b.1 b.2.1 b.2.2.1 b.2.2.2 b4 b5 b6 b7 b8 a.2.1 b10 b11 =
      k1 a.1 a.2.1 a.2.2.1 a.2.2.2 b.1 b.2.1 b.2.2.1 b.2.2.2 b4 b5 b6 b7 b8 (a.2.1 ++ b.2.1.map (mvS (a.1.length : Int))) b10 b11 := by
  have ha := valid_bd hva
  have hb := valid_bd hvb
  unfold zqdd
  have key := range_state b.2.1.length (fun i => a.2.1 ++ (b.2.1.take i).map (mvS (a.1.length : Int))) (fun f i s => zqdb f k1 b.2.1 (b.2.1.length : Int) i a.1 a.2.1 a.2.2.1 a.2.2.2 b.1 b.2.1 b.2.2.1 b.2.2.2 b4 b5 b6 b7 b8 s b10 b11)
    (k1 a.1 a.2.1 a.2.2.1 a.2.2.2 b.1 b.2.1 b.2.2.1 b.2.2.2 b4 b5 b6 b7 b8 (a.2.1 ++ b.2.1.map (mvS (a.1.length : Int))) b10 b11) fuel (lt_fuel (by omega))
    (fun f i hi => by
      have hs := (valid_parts hvb).2.1 _ (getD_mem (d := ((0 : Int), ((0 : Int), ((0 : Int), (0 : Int))))) hi)
      rw [zqdc]
      unfold zqcz
      refine (c_pos (by omega)).trans ?_
      refine (c_inb (by omega)).trans ?_
      dsimp only
      rw [Int.toNat_natCast, i64_in ((i : Int) + 1) (by omega), i64_in ((b.2.1.getD i ((0 : Int), ((0 : Int), ((0 : Int), (0 : Int))))).1 + (a.1.length : Int)) (by omega)]
      refine (c_room (by simp only [List.length_append, List.length_map, List.length_take, List.length_cons, List.length_nil]; omega)).trans ?_
      rw [take_succ_map hi ((0 : Int), ((0 : Int), ((0 : Int), (0 : Int)))), List.append_assoc]
      rfl)
    (fun f => by
      rw [zqdc]
      unfold zqcz
      refine (c_neg (by omega)).trans ?_
      rw [List.take_length])
  refine Eq.trans ?_ key
  simp

theorem merge_p2 {a b : Rec} (hva : valid a = true) (hvb : valid b = true) (k1 : zqcr β) (b4 b8 : List Host) (b5 b9 : List Sync) (b6 : List Event) (b7 b11 : List Link) :
    zqdh k1 b.2.2.1 (b.2.2.1.length : Int) 0 a.1 a.2.1 a.2.2.1 a.2.2.2 b.1 b.2.1 b.2.2.1 b.2.2.2 b4 b5 b6 b7 b8 b9 a.2.2.1 b11 =
      k1 a.1 a.2.1 a.2.2.1 a.2.2.2 b.1 b.2.1 b.2.2.1 b.2.2.2 b4 b5 b6 b7 b8 b9 (a.2.2.1 ++ b.2.2.1.map (mvE (a.1.length : Int))) b11 := by
  have ha := valid_bd hva
  have hb := valid_bd hvb
  unfold zqdh
  have key := range_state b.2.2.1.length (fun i => a.2.2.1 ++ (b.2.2.1.take i).map (mvE (a.1.length : Int))) (fun f i s => zqdf f k1 b.2.2.1 (b.2.2.1.length : Int) i a.1 a.2.1 a.2.2.1 a.2.2.2 b.1 b.2.1 b.2.2.1 b.2.2.2 b4 b5 b6 b7 b8 b9 s b11)
    (k1 a.1 a.2.1 a.2.2.1 a.2.2.2 b.1 b.2.1 b.2.2.1 b.2.2.2 b4 b5 b6 b7 b8 b9 (a.2.2.1 ++ b.2.2.1.map (mvE (a.1.length : Int))) b11) fuel (lt_fuel (by omega))
    (fun f i hi => by
      have hs := (valid_parts hvb).2.2.1 _ (getD_mem (d := ((0 : Int), ((0 : Int), ([] : List UInt8)))) hi)
      rw [zqdg]
      unfold zqd2
      refine (c_pos (by omega)).trans ?_
      refine (c_inb (by omega)).trans ?_
      dsimp only
      rw [Int.toNat_natCast, i64_in ((i : Int) + 1) (by omega), i64_in ((b.2.2.1.getD i ((0 : Int), ((0 : Int), ([] : List UInt8)))).1 + (a.1.length : Int)) (by omega)]
      refine (c_room (by simp only [List.length_append, List.length_map, List.length_take, List.length_cons, List.length_nil]; omega)).trans ?_
      rw [take_succ_map hi ((0 : Int), ((0 : Int), ([] : List UInt8))), List.append_assoc]
      rfl)
    (fun f => by
      rw [zqdg]
      unfold zqd2
      refine (c_neg (by omega)).trans ?_
      rw [List.take_length])
  refine Eq.trans ?_ key
  simp

theorem merge_p3 {a b : Rec} (hva : valid a = true) (hvb : valid b = true) (k1 : zqcv β) (b3 b7 : List Host) (b4 b8 : List Sync) (b5 b9 : List Event) (b6 : List Link) :
    zqdl k1 b.2.2.2 (b.2.2.2.length : Int) 0 a.1 a.2.1 a.2.2.1 a.2.2.2 b3 b4 b5 b6 b7 b8 b9 a.2.2.2 = k1 b3 b4 b5 b6 b7 b8 b9 (a.2.2.2 ++ b.2.2.2.map (mvL (a.2.2.1.length : Int))) := by
  have ha := valid_bd hva
  have hb := valid_bd hvb
  unfold zqdl
  have key := range_state b.2.2.2.length (fun i => a.2.2.2 ++ (b.2.2.2.take i).map (mvL (a.2.2.1.length : Int))) (fun f i s => zqdj f k1 b.2.2.2 (b.2.2.2.length : Int) i a.1 a.2.1 a.2.2.1 a.2.2.2 b3 b4 b5 b6 b7 b8 b9 s)
    (k1 b3 b4 b5 b6 b7 b8 b9 (a.2.2.2 ++ b.2.2.2.map (mvL (a.2.2.1.length : Int)))) fuel (lt_fuel (by omega))
    (fun f i hi => by
      have hs := (valid_parts hvb).2.2.2 _ (getD_mem (d := ((0 : Int), ((0 : Int), (0 : Int)))) hi)
      unfold nE at hs
      rw [zqdk]
      unfold zqd5
      refine (c_pos (by omega)).trans ?_
      refine (c_inb (by omega)).trans ?_
      dsimp only
      rw [Int.toNat_natCast, i64_in ((i : Int) + 1) (by omega), i64_in ((b.2.2.2.getD i ((0 : Int), ((0 : Int), (0 : Int)))).1 + (a.2.2.1.length : Int)) (by omega), i64_in ((b.2.2.2.getD i ((0 : Int), ((0 : Int), (0 : Int)))).2.1 + (a.2.2.1.length : Int)) (by omega)]
      refine (c_room (by simp only [List.length_append, List.length_map, List.length_take, List.length_cons, List.length_nil]; omega)).trans ?_
      rw [take_succ_map hi ((0 : Int), ((0 : Int), (0 : Int))), List.append_assoc]
      rfl)
    (fun f => by
      rw [zqdk]
      unfold zqd5
      refine (c_neg (by omega)).trans ?_
      rw [List.take_length])
  refine Eq.trans ?_ key
  simp

theorem sized_eq {r : Rec} (h0 : r.1.length ≤ 8) (h1 : r.2.1.length ≤ 64) (h2 : r.2.2.1.length ≤ 40) (h3 : r.2.2.2.length ≤ 64) (k : Rec → Int → Option β) : zq2a r k = k r 0 := by
  unfold zq2a zq27
  refine (c_neg (by omega)).trans ?_
  refine (c_neg (by omega)).trans ?_
  refine (c_neg (by omega)).trans ?_
  exact c_neg (by omega)

theorem timeline_Merge_eq {a b : Rec} (hva : valid a = true) (hvb : valid b = true) (h0 : a.1.length + b.1.length ≤ 8) (h1 : a.2.1.length + b.2.1.length ≤ 64) (h2 : a.2.2.1.length + b.2.2.1.length ≤ 40) (h3 : a.2.2.2.length + b.2.2.2.length ≤ 64) (k : Rec → Int → Option β) :
    zqdn a b k = k (mergeR a b) 0 := by
  unfold zqdn zqd8
  refine (clock_Valid_eq a _).trans ?_
  rw [hva]
  refine c_f.trans ?_
  refine (clock_Valid_eq b _).trans ?_
  rw [hvb]
  refine c_f.trans ?_
  refine (copied_eq hva _).trans ?_
  refine (c_room (by omega)).trans ?_
  refine (merge_p1 hva hvb _ _ _ _ _ _ _ _).trans ?_
  refine (merge_p2 hva hvb _ _ _ _ _ _ _ _).trans ?_
  refine (merge_p3 hva hvb _ _ _ _ _ _ _ _).trans ?_
  exact sized_eq (r := mergeR a b) (by simp [mergeR]; omega) (by simp [mergeR]; omega) (by simp [mergeR]; omega) (by simp [mergeR]; omega) _
end

/-! ### The merged record's parts -/
section
variable {a b : Rec}
theorem SolR.congr {r : Rec} (hv : valid r = true) {x y : Nat → Int} (h : SolR r x) (e : ∀ j, j ≤ nE r → y j = x j) : SolR r y := by
  refine ⟨fun i hi => ?_, fun i j hi hj hij hh hc => ?_, fun l hl => ?_⟩
  · rw [e (i + 1) (by omega), e 0 (by omega)]; exact h.ev i hi
  · rw [e (i + 1) (by omega), e (j + 1) (by omega)]; exact h.pair i j hi hj hij hh hc
  · have := (valid_parts hv).2.2.2 l hl
    rw [e (l.1.toNat + 1) (by omega), e (l.2.1.toNat + 1) (by omega)]; exact h.link l hl
end
end
end Go.Lift

/- TimelineAdds: an event is added at the end, and an empty record adds nothing. -/
namespace Go.Lift
open Go.RowKit Go.IntWalk
noncomputable section
set_option linter.unusedVariables false
set_option linter.unusedSimpArgs false
set_option maxRecDepth 10000

def emptyR : Rec := ([], ([], ([], [])))
theorem empty_valid : valid emptyR = true := rfl
theorem merge_empty (r : Rec) : mergeR r emptyR = r := by
  obtain ⟨a, b, c, d⟩ := r
  simp [mergeR, emptyR]
theorem mvS_zero (s : Sync) : mvS (0 : Int) s = s := by obtain ⟨a, b⟩ := s; simp [mvS]
theorem mvE_zero (s : Event) : mvE (0 : Int) s = s := by obtain ⟨a, b⟩ := s; simp [mvE]
theorem mvL_zero (s : Link) : mvL (0 : Int) s = s := by obtain ⟨a, b, c⟩ := s; simp [mvL]
theorem empty_merge (r : Rec) : mergeR emptyR r = r := by
  obtain ⟨a, b, c, d⟩ := r
  have h1 : mvS (((emptyR.1.length : Nat)) : Int) = id := funext mvS_zero
  have h2 : mvE (((emptyR.1.length : Nat)) : Int) = id := funext mvE_zero
  have h3 : mvL (((emptyR.2.2.1.length : Nat)) : Int) = id := funext mvL_zero
  unfold mergeR
  rw [h1, h2, h3]
  simp [emptyR]

def addR (r : Rec) (e : Event) : Rec := (r.1, (r.2.1, (r.2.2.1 ++ [e], r.2.2.2)))

section
variable {β : Type}
theorem tin_eq (n lo hi : Int) (k : Bool → Option β) : zq23 n lo hi k = k (decide (lo ≤ n) && decide (n ≤ hi)) := by
  unfold zq23 zq20
  by_cases h : lo ≤ n
  · rw [decide_eq_true h]; rfl
  · rw [decide_eq_false h]; rfl

theorem timeline_Add_eq {r : Rec} (hv : valid r = true) {e : Event} (he : 0 ≤ e.1 ∧ e.1 < r.1.length) (hc : 0 ≤ e.2.1 ∧ e.2.1 ≤ 8589934592) (hn : r.2.2.1.length ≤ 39) (k : Rec → Int → Option β) : zqcj r e k = k (addR r e) 0 := by
  have hb := valid_bd hv
  unfold zqcj zqcg
  refine (clock_Valid_eq r _).trans ?_
  rw [hv]
  refine c_f.trans ?_
  rw [i64_in ((r.1.length : Int) - 1) (by omega)]
  refine (tin_eq _ _ _ _).trans ?_
  rw [decide_eq_true he.1, decide_eq_true (show e.1 ≤ (r.1.length : Int) - 1 by omega)]
  refine c_f.trans ?_
  refine (tin_eq _ _ _ _).trans ?_
  rw [decide_eq_true hc.1, decide_eq_true hc.2]
  refine c_f.trans ?_
  refine (copied_eq hv _).trans ?_
  refine (c_room (by simp only [List.length_cons, List.length_nil]; omega)).trans ?_
  exact sized_eq (r := addR r e) hb.1 hb.2.1 (by simp [addR]; omega) hb.2.2.2 _

theorem same_event (e : Event) : (decide (e.1 = e.1) && (decide (e.2.1 = e.2.1) && (decide (e.2.2 = e.2.2) && true))) = true := by simp
theorem same_sync (e : Sync) : (decide (e.1 = e.1) && (decide (e.2.1 = e.2.1) && (decide (e.2.2.1 = e.2.2.1) && (decide (e.2.2.2 = e.2.2.2) && true)))) = true := by simp

theorem adds_p1 (r : Rec) (e : Event) (hn : r.2.2.1.length ≤ 100) (k1 : zqpt β) (k2 : zqpu β) :
    zqqe k1 k2 (r.2.2.1.length : Int) 0 r.1 r.2.1 r.2.2.1 r.2.2.2 (addR r e).1 (addR r e).2.1 (addR r e).2.2.1 (addR r e).2.2.2 r.1 r.2.1 r.2.2.1 r.2.2.2 r.1 r.2.1 r.2.2.1 r.2.2.2 =
      k2 r.1 r.2.1 r.2.2.1 r.2.2.2 r.1 r.2.1 r.2.2.1 r.2.2.2 r.1 r.2.1 r.2.2.1 r.2.2.2 := by
  have hl : (addR r e).2.2.1.length = r.2.2.1.length + 1 := by simp [addR]
  unfold zqqe
  exact pass_loop r.2.2.1.length (fun f i => zqqc f k1 k2 (r.2.2.1.length : Int) i r.1 r.2.1 r.2.2.1 r.2.2.2 (addR r e).1 (addR r e).2.1 (addR r e).2.2.1 (addR r e).2.2.2 r.1 r.2.1 r.2.2.1 r.2.2.2 r.1 r.2.1 r.2.2.1 r.2.2.2) _ fuel (lt_fuel (by omega))
    (fun f i hi => by
      have g : (addR r e).2.2.1.getD i ((0 : Int), ((0 : Int), ([] : List UInt8))) = r.2.2.1.getD i ((0 : Int), ((0 : Int), ([] : List UInt8))) := getD_append hi
      rw [zqqd]
      unfold zqq3
      refine (c_pos (by omega)).trans ?_
      refine (c_inb (by omega)).trans ?_
      refine (c_inb (by omega)).trans ?_
      dsimp only
      rw [Int.toNat_natCast, i64_in ((i : Int) + 1) (by omega), g, same_event]
      refine c_f.trans ?_
      refine (c_inb (by omega)).trans ?_
      refine (c_inb (by omega)).trans ?_
      refine c_f.trans ?_
      refine (c_inb (by omega)).trans ?_
      refine (c_inb (by omega)).trans ?_
      exact c_f)
    (fun f => by
      rw [zqqd]
      unfold zqq3
      exact c_neg (by omega))

theorem adds_p2 (r : Rec) (hn : r.2.1.length ≤ 100) (k1 : zqpy β) (k2 : zqpz β) :
    zqqi k1 k2 (r.2.1.length : Int) 0 r.1 r.2.1 r.2.2.1 r.2.2.2 r.1 r.2.1 r.2.2.1 r.2.2.2 r.1 r.2.1 r.2.2.1 r.2.2.2 = k2 () := by
  unfold zqqi
  exact pass_loop r.2.1.length (fun f i => zqqg f k1 k2 (r.2.1.length : Int) i r.1 r.2.1 r.2.2.1 r.2.2.2 r.1 r.2.1 r.2.2.1 r.2.2.2 r.1 r.2.1 r.2.2.1 r.2.2.2) _ fuel (lt_fuel (by omega))
    (fun f i hi => by
      rw [zqqh]
      unfold zqq6
      refine (c_pos (by omega)).trans ?_
      refine (c_inb (by omega)).trans ?_
      refine (c_inb (by omega)).trans ?_
      dsimp only
      rw [Int.toNat_natCast, i64_in ((i : Int) + 1) (by omega), same_sync]
      refine c_f.trans ?_
      refine (c_inb (by omega)).trans ?_
      refine (c_inb (by omega)).trans ?_
      exact c_f)
    (fun f => by
      rw [zqqh]
      unfold zqq6
      exact c_neg (by omega))

theorem timelineAdds (t : List Int) (k : Bool → Option β) : zqqk t k = k true := by
  unfold zqqk zqq9
  refine (light_eq t _).trans ?_
  by_cases hl : (t.length : Int) ≤ 500
  · rw [decide_eq_true hl]
    refine c_f.trans ?_
    refine (roll_eq t _).trans ?_
    obtain ⟨r, d1, one, ah1, ra, hd1, fa⟩ := record_ok 6 (by omega) (roll_ok hl)
    have hv := ra.valid (by omega)
    have hb := valid_bd hv
    have hE : nE r = r.2.2.1.length := rfl
    have hfew := ra.nE_le
    have hhost := ra.hosts.most
    have hpos : 1 ≤ r.1.length := ra.some_
    refine (fa _).trans ?_
    obtain ⟨x, d2, hx0, hx1, hd2, f2⟩ := next_ok (n := (r.1.length : Int)) hd1 (by omega)
    refine (f2 _).trans ?_
    obtain ⟨y, d3, hy0, hy1, hd3, f3⟩ := next_ok (n := 300) hd2 (by omega)
    refine (f3 _).trans ?_
    rw [i64_in (864000 + y) (by omega)]
    refine (timeline_Add_eq hv (e := (x, (864000 + y, [110, 101, 119]))) (by show 0 ≤ x ∧ x < _; omega) (by show 0 ≤ 864000 + y ∧ 864000 + y ≤ _; omega) (by omega) _).trans ?_
    refine (timeline_Merge_eq hv empty_valid (by show r.1.length + 0 ≤ 8; omega) (by show r.2.1.length + 0 ≤ 64; omega) (by show r.2.2.1.length + 0 ≤ 40; omega) (by show r.2.2.2.length + 0 ≤ 64; omega) _).trans ?_
    refine (timeline_Merge_eq empty_valid hv (by show 0 + r.1.length ≤ 8; omega) (by show 0 + r.2.1.length ≤ 64; omega) (by show 0 + r.2.2.1.length ≤ 40; omega) (by show 0 + r.2.2.2.length ≤ 64; omega) _).trans ?_
    rw [merge_empty, empty_merge]
    have hla : (addR r (x, (864000 + y, [110, 101, 119]))).2.2.1.length = r.2.2.1.length + 1 := by simp [addR]
    have hlast : (addR r (x, (864000 + y, [110, 101, 119]))).2.2.1.getD r.2.2.1.length ((0 : Int), ((0 : Int), ([] : List UInt8))) = (x, (864000 + y, [110, 101, 119])) := getD_last
    refine (c_npos rfl).trans ?_
    refine (c_npos rfl).trans ?_
    refine (c_npos rfl).trans ?_
    rw [i64_in ((r.2.2.1.length : Int) + 1) (by omega)]
    refine (c_npos (by omega)).trans ?_
    refine (c_inb (by omega)).trans ?_
    dsimp only
    rw [Int.toNat_natCast, hlast, same_event]
    refine c_f.trans ?_
    refine (c_npos rfl).trans ?_
    refine (c_npos rfl).trans ?_
    refine (c_npos rfl).trans ?_
    refine (c_npos rfl).trans ?_
    refine (c_npos rfl).trans ?_
    refine (c_npos rfl).trans ?_
    refine (adds_p1 r _ (by omega) _ _).trans ?_
    refine (adds_p2 r (by omega) _ _).trans ?_
    exact sane41 _
  · rw [decide_eq_false hl]
    refine c_t.trans ?_
    exact sane41 _
end
end
end Go.Lift

