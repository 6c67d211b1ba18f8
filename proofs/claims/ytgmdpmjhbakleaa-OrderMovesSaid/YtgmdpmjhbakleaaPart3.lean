/- Part3: Fn0, Fn1, LBase, LMat, LClock, LDice. -/
import Derived.Test.YtgmdpmjhbakleaaProg
import Derived.Test.YtgmdpmjhbakleaaPart2
namespace Go.Lift
open Go.Proofs
noncomputable section
set_option maxRecDepth 100000
set_option linter.unusedVariables false

abbrev zq0 := (Int × (Int × List UInt8))
abbrev zq1 : Ty := (.prod (.int .i64) (.prod (.int .i64) .str))
abbrev zq2 := (List (List UInt8 × Int) × (List (Int × (Int × (Int × Int))) × (List zq0 × List (Int × (Int × Int)))))
abbrev zq3 : Ty := (.prod (.slice (.prod .str (.int .i64))) (.prod (.slice (.prod (.int .i64) (.prod (.int .i64) (.prod (.int .i64) (.int .i64))))) (.prod (.slice zq1) (.slice (.prod (.int .i64) (.prod (.int .i64) (.int .i64)))))))

def tab : List (Nat × TI) := [
  (3, ⟨false, 1, 8, [.int .i64 (0 : Int)], [], none, none, (some (.int .i64)), (some .i64), false, false, none, none⟩),
  (4, ⟨false, 1, 1, [.bool false], [], none, none, (some .bool), none, true, false, none, none⟩),
  (9, ⟨false, 1, 16, [.str ([] : List UInt8)], [], none, none, (some .str), none, false, true, none, none⟩),
  (22, ⟨false, 1, 24, [.nils], [], (some 3), none, (some (.slice (.int .i64))), none, false, false, none, none⟩),
  (23, ⟨false, 1, 2, [.int .u16 (0 : Int)], [], none, none, (some (.int .u16)), (some .u16), false, false, none, none⟩),
  (28, ⟨false, 1, 24, [.nils], [], (some 60), none, (some (.slice (.prod .str (.int .i64)))), none, false, false, none, none⟩),
  (29, ⟨false, 1, 24, [.nils], [], (some 38), none, (some (.slice (.prod (.int .i64) (.prod (.int .i64) (.prod (.int .i64) (.int .i64)))))), none, false, false, none, none⟩),
  (30, ⟨false, 1, 24, [.nils], [], (some 40), none, (some (.slice zq1)), none, false, false, none, none⟩),
  (31, ⟨false, 1, 24, [.nils], [], (some 42), none, (some (.slice (.prod (.int .i64) (.prod (.int .i64) (.int .i64))))), none, false, false, none, none⟩),
  (33, ⟨true, 4, 96, [.nils, .nils, .nils, .nils], [(0, 1, false), (1, 1, false), (2, 1, false), (3, 1, false)], none, none, (some zq3), none, false, false, none, none⟩),
  (36, ⟨false, 1, 24, [.nils], [], (some 4), none, (some (.slice .bool)), none, false, false, none, none⟩),
  (38, ⟨true, 4, 32, [.int .i64 (0 : Int), .int .i64 (0 : Int), .int .i64 (0 : Int), .int .i64 (0 : Int)], [(0, 1, false), (1, 1, false), (2, 1, false), (3, 1, false)], none, none, (some (.prod (.int .i64) (.prod (.int .i64) (.prod (.int .i64) (.int .i64))))), none, false, false, (some [.i, .i, .i, .i]), none⟩),
  (40, ⟨true, 3, 32, [.int .i64 (0 : Int), .int .i64 (0 : Int), .str ([] : List UInt8)], [(0, 1, false), (1, 1, false), (2, 1, false)], none, none, (some zq1), none, false, false, (some [.i, .i, .s]), none⟩),
  (42, ⟨true, 3, 24, [.int .i64 (0 : Int), .int .i64 (0 : Int), .int .i64 (0 : Int)], [(0, 1, false), (1, 1, false), (2, 1, false)], none, none, (some (.prod (.int .i64) (.prod (.int .i64) (.int .i64)))), none, false, false, (some [.i, .i, .i]), none⟩),
  (43, ⟨false, 1, 24, [.nils], [], (some 47), none, (some (.slice (.prod (.int .i64) (.int .i64)))), none, false, false, none, none⟩),
  (47, ⟨true, 2, 16, [.int .i64 (0 : Int), .int .i64 (0 : Int)], [(0, 1, false), (1, 1, false)], none, none, (some (.prod (.int .i64) (.int .i64))), none, false, false, (some [.i, .i]), none⟩),
  (52, ⟨false, 1, 24, [.nils], [], (some 68), none, (some (.slice (.prod (.int .i64) (.int .i64)))), none, false, false, none, none⟩),
  (55, ⟨true, 2, 32, [.nils, .int .i64 (0 : Int)], [(0, 1, false), (1, 1, false)], none, none, (some (.prod (.slice (.int .i64)) (.int .i64))), none, false, false, none, none⟩),
  (57, ⟨false, 1, 24, [.nils], [], (some 9), none, (some (.slice .str)), none, false, false, none, none⟩),
  (60, ⟨true, 2, 24, [.str ([] : List UInt8), .int .i64 (0 : Int)], [(0, 1, false), (1, 1, false)], none, none, (some (.prod .str (.int .i64))), none, false, false, (some [.s, .i]), none⟩),
  (61, ⟨false, 1, 24, [.nils], [], (some 22), none, (some (.slice (.slice (.int .i64)))), none, false, false, none, none⟩),
  (62, ⟨false, 1, 24, [.nils], [], (some 22), none, (some (.slice (.slice (.int .i64)))), none, false, false, none, none⟩),
  (68, ⟨true, 2, 16, [.int .i64 (0 : Int), .int .i64 (0 : Int)], [], (some 3), (some 2), (some (.prod (.int .i64) (.int .i64))), none, false, false, (some [.i, .i]), none⟩),
  (69, ⟨false, 1, 24, [.nils], [], (some 79), none, (some (.slice (.prod (.int .i64) (.prod (.int .i64) (.int .i64))))), none, false, false, none, none⟩),
  (79, ⟨true, 3, 24, [.int .i64 (0 : Int), .int .i64 (0 : Int), .int .i64 (0 : Int)], [(0, 1, false), (1, 1, false), (2, 1, false)], none, none, (some (.prod (.int .i64) (.prod (.int .i64) (.int .i64)))), none, false, false, (some [.i, .i, .i]), none⟩)]

theorem tab_ok : TOk Try.prog (look tab) := TOk_of (by kernel_rfl)
theorem mixed : Try.prog.follows .mixedOrders = true := by kernel_rfl

/-- pagewatch/pagewatchmade.Light -/
abbrev zq4 := {β : Type} → (List Int) → (Bool → Option β) → Option β
def zq5 (c : zq4) : Spec :=
  ⟨[(false, [.data (.slice (.int .i64))])], [], [(false, [.data .bool])], [], fun x k => c x.1.1.1 (fun r0 => k (((r0, ()), ()), ()))⟩
section
@[reducible] def made_Light_X : Ctx := ⟨look tab, pick1 [], false⟩
def zq6 {β : Type} (l : List Int) (k : (Bool → Option β)) : Option β :=
  let t : Bool := (decide ((List.length l : Int) ≤ (500 : Int)));
  k t
theorem zq7 (hΓ : ΓOk Try.prog made_Light_X.Γ) : SpecOk Try.prog 4 (zq5 (zq6)) :=
  spec_exec (X := made_Light_X) (Λ := pick1 []) (rs := [.tmp 2]) (c := bodyOf Try.f4) mixed tab_ok hΓ Try.func4 (by kernel_rfl) (by kernel_rfl) (by kernel_rfl) (by kernel_rfl) CutsOk_nil (fun x k r h => Eq.trans (b := (zq5 (zq6)).run x k) (by kernel_rfl) h)
end
theorem zq8Γ : ΓOk Try.prog (pick1 []) := ΓOk_nil
def zq9 : zq4 := zq6
theorem zqa : SpecOk Try.prog 4 (zq5 zq9) := zq7 zq8Γ

/-- pagewatch/pagewatchmade.Roll -/
abbrev zqb := {β : Type} → (List Int) → ((List Int × Int) → Option β) → Option β
def zqc (c : zqb) : Spec :=
  ⟨[(false, [.data (.slice (.int .i64))])], [], [(false, [.ptr 0 0])], [.cells 55 [.data (.prod (.slice (.int .i64)) (.int .i64))]], fun x k => c x.1.1.1 (fun r0 => k (((), ()), ((r0, ()), ())))⟩
section
@[reducible] def made_Roll_X : Ctx := ⟨look tab, pick1 [], false⟩
def zqd {β : Type} (l : List Int) (k : ((List Int × Int) → Option β)) : Option β :=
  k (l, (0 : Int))
theorem zqe (hΓ : ΓOk Try.prog made_Roll_X.Γ) : SpecOk Try.prog 6 (zqc (zqd)) :=
  spec_exec (X := made_Roll_X) (Λ := pick1 []) (rs := [.tmp 2]) (c := bodyOf Try.f6) mixed tab_ok hΓ Try.func6 (by kernel_rfl) (by kernel_rfl) (by kernel_rfl) (by kernel_rfl) CutsOk_nil (fun x k r h => Eq.trans (b := (zqc (zqd)).run x k) (by kernel_rfl) h)
end
theorem zqfΓ : ΓOk Try.prog (pick1 []) := ΓOk_nil
def zqg : zqb := zqd
theorem zqh : SpecOk Try.prog 6 (zqc zqg) := zqe zqfΓ

/-- pagewatch/pagewatchlaw40.two -/
abbrev zqi := {β : Type} → (zq2 → Option β) → Option β
def zqj (c : zqi) : Spec :=
  ⟨[], [], [(true, [.data zq3])], [], fun x k => c  (fun r0 => k (((r0, ()), ()), ()))⟩
section
@[reducible] def law40_two_X : Ctx := ⟨look tab, pick1 [], false⟩
def zqk {β : Type} (k : (zq2 → Option β)) : Option β :=
  let l : List (List UInt8 × Int) := ([(([97] : List UInt8), (0 : Int)), (([98] : List UInt8), (0 : Int))] : List (List UInt8 × Int));
  let l2 : List (Int × (Int × (Int × Int))) := ([((0 : Int), ((100 : Int), ((1000 : Int), (1010 : Int)))), ((1 : Int), ((100 : Int), ((1000 : Int), (1010 : Int))))] : List (Int × (Int × (Int × Int))));
  let l3 : List zq0 := ([((0 : Int), ((100 : Int), ([120] : List UInt8))), ((1 : Int), ((105 : Int), ([121] : List UInt8)))] : List zq0);
  k (l, (l2, (l3, ([] : List (Int × (Int × Int))))))
theorem zql (hΓ : ΓOk Try.prog law40_two_X.Γ) : SpecOk Try.prog 10 (zqj (zqk)) :=
  spec_exec (X := law40_two_X) (Λ := pick1 []) (rs := [.cell 0 33]) (c := bodyOf Try.f10) mixed tab_ok hΓ Try.func10 (by kernel_rfl) (by kernel_rfl) (by kernel_rfl) (by kernel_rfl) CutsOk_nil (fun x k r h => Eq.trans (b := (zqj (zqk)).run x k) (by kernel_rfl) h)
end
theorem zqmΓ : ΓOk Try.prog (pick1 []) := ΓOk_nil
def zqn : zqi := zqk
theorem zqo : SpecOk Try.prog 10 (zqj zqn) := zql zqmΓ

/-- (*pagewatch/pagewatchmade.Dice).Next -/
abbrev zqp := {β : Type} → Int → (List Int × Int) → (Int → (List Int × Int) → Option β) → Option β
def zqq (c : zqp) : Spec :=
  ⟨[(false, [.ptr 0 0]), (false, [.data (.int .i64)])], [.cells 55 [.data (.prod (.slice (.int .i64)) (.int .i64))]], [(false, [.data (.int .i64)])], [.cells 55 [.data (.prod (.slice (.int .i64)) (.int .i64))]], fun x k => c x.1.2.1.1 x.2.1.1 (fun r0 r1 => k (((r0, ()), ()), ((r1, ()), ())))⟩
section
@[reducible] def made_Dice_Next_X : Ctx := ⟨look tab, pick1 [], false⟩
def zqr {β : Type} (n : Int) (d : (List Int × Int)) (k : (Int → (List Int × Int) → Option β)) : Option β :=
  cond (decide ((List.length d.1 : Int) ≤ d.2))
  (k (0 : Int) d)
  (cond (decide (n < (1 : Int)))
  (k (0 : Int) d)
  (cond (decide (0 ≤ d.2) && decide (d.2 < (List.length d.1 : Int)))
  (let e : Int := List.getD d.1 (Int.toNat d.2) (0 : Int);
  cond (!decide (n = 0))
  (cond (decide ((Int.tmod e n) < (0 : Int)))
  (let x : Int := (IntKind.i64.wrap ((Int.tmod e n) + n));
  k x (d.1, (IntKind.i64.wrap (d.2 + (1 : Int)))))
  (k (Int.tmod e n) (d.1, (IntKind.i64.wrap (d.2 + (1 : Int))))))
  none)
  none))
theorem zqs (hΓ : ΓOk Try.prog made_Dice_Next_X.Γ) : SpecOk Try.prog 12 (zqq (zqr)) :=
  spec_exec (X := made_Dice_Next_X) (Λ := pick1 []) (rs := [.tmp 4]) (c := bodyOf Try.f12) mixed tab_ok hΓ Try.func12 (by kernel_rfl) (by kernel_rfl) (by kernel_rfl) (by kernel_rfl) CutsOk_nil (fun x k r h => Eq.trans (b := (zqq (zqr)).run x k) (by kernel_rfl) h)
end
theorem zqtΓ : ΓOk Try.prog (pick1 []) := ΓOk_nil
def zqu : zqp := zqr
theorem zqv : SpecOk Try.prog 12 (zqq zqu) := zqs zqtΓ

/-- (*pagewatch/pagewatchmade.Dice).One -/
abbrev zqw := {β : Type} → (List Int) → (List Int × Int) → (Int → (List Int × Int) → Option β) → Option β
def zqx (c : zqw) : Spec :=
  ⟨[(false, [.ptr 0 0]), (false, [.data (.slice (.int .i64))])], [.cells 55 [.data (.prod (.slice (.int .i64)) (.int .i64))]], [(false, [.data (.int .i64)])], [.cells 55 [.data (.prod (.slice (.int .i64)) (.int .i64))]], fun x k => c x.1.2.1.1 x.2.1.1 (fun r0 r1 => k (((r0, ()), ()), ((r1, ()), ())))⟩
section
variable (c_made_Dice_Next : zqp)
@[reducible] def made_Dice_One_X : Ctx := ⟨look tab, pick1 [(12, .spec (zqq c_made_Dice_Next))], false⟩
def zqy {β : Type} (l : List Int) (d : (List Int × Int)) (k : (Int → (List Int × Int) → Option β)) : Option β :=
  c_made_Dice_Next (List.length l : Int) d (fun (rNext : Int) (mrNext : (List Int × Int)) =>
  cond (decide (0 ≤ rNext) && decide (rNext < (List.length l : Int)))
  (let e : Int := List.getD l (Int.toNat rNext) (0 : Int);
  k e mrNext)
  none)
theorem zqz (hΓ : ΓOk Try.prog (made_Dice_One_X c_made_Dice_Next).Γ) : SpecOk Try.prog 13 (zqx (zqy c_made_Dice_Next)) :=
  spec_exec (X := (made_Dice_One_X c_made_Dice_Next)) (Λ := pick1 []) (rs := [.tmp 4]) (c := bodyOf Try.f13) mixed tab_ok hΓ Try.func13 (by kernel_rfl) (by kernel_rfl) (by kernel_rfl) (by kernel_rfl) CutsOk_nil (fun x k r h => Eq.trans (b := (zqx (zqy c_made_Dice_Next)).run x k) (by kernel_rfl) h)
end
theorem zq10Γ : ΓOk Try.prog (pick1 [(12, .spec (zqq zqu))]) := (ΓOk_cons zqv ΓOk_nil)
def zq11 : zqw := zqy zqu
theorem zq12 : SpecOk Try.prog 13 (zqx zq11) := zqz zqu zq10Γ

/-- (pagewatch/order.matrix).when -/
abbrev zq13 := {β : Type} → (List (List Int)) → Int → ((Int × Int) → Option β) → Option β
def zq14 (c : zq13) : Spec :=
  ⟨[(false, [.data (.slice (.slice (.int .i64)))]), (false, [.data (.int .i64)])], [], [(true, [.data (.prod (.int .i64) (.int .i64))])], [], fun x k => c x.1.1.1 x.1.2.1.1 (fun r0 => k (((r0, ()), ()), ()))⟩
section
@[reducible] def order_matrix_when_X : Ctx := ⟨look tab, pick1 [], false⟩
def zq15 {β : Type} (m : List (List Int)) (i_ : Int) (k : ((Int × Int) → Option β)) : Option β :=
  cond (decide (0 ≤ (IntKind.i64.wrap (i_ + (1 : Int)))) && decide ((IntKind.i64.wrap (i_ + (1 : Int))) < (List.length m : Int)))
  (let e : List Int := List.getD m (Int.toNat (IntKind.i64.wrap (i_ + (1 : Int)))) ([] : List Int);
  cond (decide (0 ≤ (0 : Int)) && decide ((0 : Int) < (List.length e : Int)))
  (let e2 : Int := List.getD e (Int.toNat (0 : Int)) (0 : Int);
  cond (decide (0 ≤ (0 : Int)) && decide ((0 : Int) < (List.length m : Int)))
  (let e3 : List Int := List.getD m (Int.toNat (0 : Int)) ([] : List Int);
  cond (decide (0 ≤ (IntKind.i64.wrap (i_ + (1 : Int)))) && decide ((IntKind.i64.wrap (i_ + (1 : Int))) < (List.length e3 : Int)))
  (let e4 : Int := List.getD e3 (Int.toNat (IntKind.i64.wrap (i_ + (1 : Int)))) (0 : Int);
  k ((IntKind.i64.wrap (0 - e2)), e4))
  none)
  none)
  none)
  none
theorem zq16 (hΓ : ΓOk Try.prog order_matrix_when_X.Γ) : SpecOk Try.prog 15 (zq14 (zq15)) :=
  spec_exec (X := order_matrix_when_X) (Λ := pick1 []) (rs := [.cell 4 47]) (c := bodyOf Try.f15) mixed tab_ok hΓ Try.func15 (by kernel_rfl) (by kernel_rfl) (by kernel_rfl) (by kernel_rfl) CutsOk_nil (fun x k r h => Eq.trans (b := (zq14 (zq15)).run x k) (by kernel_rfl) h)
end
theorem zq17Γ : ΓOk Try.prog (pick1 []) := ΓOk_nil
def zq18 : zq13 := zq15
theorem zq19 : SpecOk Try.prog 15 (zq14 zq18) := zq16 zq17Γ

/-- (pagewatch/order.matrix).before -/
abbrev zq1a := {β : Type} → (List (List Int)) → Int → Int → (Bool → Option β) → Option β
def zq1b (c : zq1a) : Spec :=
  ⟨[(false, [.data (.slice (.slice (.int .i64)))]), (false, [.data (.int .i64)]), (false, [.data (.int .i64)])], [], [(false, [.data .bool])], [], fun x k => c x.1.1.1 x.1.2.1.1 x.1.2.2.1.1 (fun r0 => k (((r0, ()), ()), ()))⟩
section
@[reducible] def order_matrix_before_X : Ctx := ⟨look tab, pick1 [], false⟩
def zq1c {β : Type} (m : List (List Int)) (a : Int) (b : Int) (k : (Bool → Option β)) : Option β :=
  cond (decide (0 ≤ (IntKind.i64.wrap (b + (1 : Int)))) && decide ((IntKind.i64.wrap (b + (1 : Int))) < (List.length m : Int)))
  (let e : List Int := List.getD m (Int.toNat (IntKind.i64.wrap (b + (1 : Int)))) ([] : List Int);
  cond (decide (0 ≤ (IntKind.i64.wrap (a + (1 : Int)))) && decide ((IntKind.i64.wrap (a + (1 : Int))) < (List.length e : Int)))
  (let e2 : Int := List.getD e (Int.toNat (IntKind.i64.wrap (a + (1 : Int)))) (0 : Int);
  let t : Bool := (decide (e2 ≤ (-1 : Int)));
  k t)
  none)
  none
theorem zq1d (hΓ : ΓOk Try.prog order_matrix_before_X.Γ) : SpecOk Try.prog 17 (zq1b (zq1c)) :=
  spec_exec (X := order_matrix_before_X) (Λ := pick1 []) (rs := [.tmp 6]) (c := bodyOf Try.f17) mixed tab_ok hΓ Try.func17 (by kernel_rfl) (by kernel_rfl) (by kernel_rfl) (by kernel_rfl) CutsOk_nil (fun x k r h => Eq.trans (b := (zq1b (zq1c)).run x k) (by kernel_rfl) h)
end
theorem zq1eΓ : ΓOk Try.prog (pick1 []) := ΓOk_nil
def zq1f : zq1a := zq1c
theorem zq1g : SpecOk Try.prog 17 (zq1b zq1f) := zq1d zq1eΓ

/-- (pagewatch/order.matrix).open -/
abbrev zq1h := {β : Type} → (List (List Int)) → Int → Int → (Bool → Option β) → Option β
def zq1i (c : zq1h) : Spec :=
  ⟨[(false, [.data (.slice (.slice (.int .i64)))]), (false, [.data (.int .i64)]), (false, [.data (.int .i64)])], [], [(false, [.data .bool])], [], fun x k => c x.1.1.1 x.1.2.1.1 x.1.2.2.1.1 (fun r0 => k (((r0, ()), ()), ()))⟩
section
variable (c_order_matrix_before : zq1a)
@[reducible] def order_matrix_open_X : Ctx := ⟨look tab, pick1 [(17, .spec (zq1b c_order_matrix_before))], false⟩
def zq1j {β : Type} (m : List (List Int)) (a : Int) (b : Int) (k : (Bool → Option β)) : Option β :=
  c_order_matrix_before m a b (fun (rbefore : Bool) =>
  cond (!rbefore)
  (c_order_matrix_before m b a (fun (rbefore2 : Bool) =>
  k (!rbefore2)))
  (k false))
theorem zq1k (hΓ : ΓOk Try.prog (order_matrix_open_X c_order_matrix_before).Γ) : SpecOk Try.prog 18 (zq1i (zq1j c_order_matrix_before)) :=
  spec_exec (X := (order_matrix_open_X c_order_matrix_before)) (Λ := pick1 []) (rs := [.tmp 6]) (c := bodyOf Try.f18) mixed tab_ok hΓ Try.func18 (by kernel_rfl) (by kernel_rfl) (by kernel_rfl) (by kernel_rfl) CutsOk_nil (fun x k r h => Eq.trans (b := (zq1i (zq1j c_order_matrix_before)).run x k) (by kernel_rfl) h)
end
theorem zq1lΓ : ΓOk Try.prog (pick1 [(17, .spec (zq1b zq1f))]) := (ΓOk_cons zq1g ΓOk_nil)
def zq1m : zq1h := zq1j zq1f
theorem zq1n : SpecOk Try.prog 18 (zq1i zq1m) := zq1k zq1f zq1lΓ

/-- pagewatch/order.in -/
abbrev zq1o := {β : Type} → Int → Int → Int → (Bool → Option β) → Option β
def zq1p (c : zq1o) : Spec :=
  ⟨[(false, [.data (.int .i64)]), (false, [.data (.int .i64)]), (false, [.data (.int .i64)])], [], [(false, [.data .bool])], [], fun x k => c x.1.1.1 x.1.2.1.1 x.1.2.2.1.1 (fun r0 => k (((r0, ()), ()), ()))⟩
section
@[reducible] def order_in_X : Ctx := ⟨look tab, pick1 [], false⟩
def zq1q {β : Type} (n : Int) (low : Int) (high : Int) (k : (Bool → Option β)) : Option β :=
  cond (decide (low ≤ n))
  (k (decide (n ≤ high)))
  (k false)
theorem zq1r (hΓ : ΓOk Try.prog order_in_X.Γ) : SpecOk Try.prog 21 (zq1p (zq1q)) :=
  spec_exec (X := order_in_X) (Λ := pick1 []) (rs := [.tmp 6]) (c := bodyOf Try.f21) mixed tab_ok hΓ Try.func21 (by kernel_rfl) (by kernel_rfl) (by kernel_rfl) (by kernel_rfl) CutsOk_nil (fun x k r h => Eq.trans (b := (zq1p (zq1q)).run x k) (by kernel_rfl) h)
end
theorem zq1sΓ : ΓOk Try.prog (pick1 []) := ΓOk_nil
def zq1t : zq1o := zq1q
theorem zq1u : SpecOk Try.prog 21 (zq1p zq1t) := zq1r zq1sΓ

/-- pagewatch/constraint.direct -/
abbrev zq1v := {β : Type} → Int → (List (Int × (Int × Int))) → ((List (List Int)) → Option β) → Option β
def zq1w (c : zq1v) : Spec :=
  ⟨[(false, [.data (.int .i64)]), (false, [.data (.slice (.prod (.int .i64) (.prod (.int .i64) (.int .i64))))])], [], [(false, [.math 0])], [.mat 22 3 (.int .i64)], fun x k => c x.1.1.1 x.1.2.1.1 (fun r0 => k (((), ()), (r0, ())))⟩
noncomputable def constraint_direct_p2_code : Code := codeAt 58 (bodyOf Try.f26)
noncomputable def constraint_direct_p3_code : Code := codeAt 122 (bodyOf Try.f26)
noncomputable def constraint_direct_p1_code : Code := codeAt 462 (loopBody constraint_direct_p2_code)
abbrev zq1x (β : Type) := Int → (List (Int × (Int × Int))) → Int → Int → (List (List Int)) → Option β
abbrev zq1y := {β : Type} → zq1x β → Int → (List (Int × (Int × Int))) → Int → Int → Int → Int → Int → (List (List Int)) → Option β
def zq1z : View := ⟨0, [0, 1, 5, 6, 13, 14, 26, 27], [(false, [.data (.int .i64)]), (false, [.data (.slice (.prod (.int .i64) (.prod (.int .i64) (.int .i64))))]), (false, [.math 0]), (false, [.data (.int .i64)]), (false, [.data (.int .i64)]), (false, [.data (.int .i64)]), (false, [.data (.int .i64)]), (false, [.data (.int .i64)])], [.mat 22 3 (.int .i64)]⟩
def zq20 : List (AExit × View) := [(.exit 2, ⟨0, [0, 1, 5, 13, 14], [(false, [.data (.int .i64)]), (false, [.data (.slice (.prod (.int .i64) (.prod (.int .i64) (.int .i64))))]), (false, [.math 0]), (false, [.data (.int .i64)]), (false, [.data (.int .i64)])], [.mat 22 3 (.int .i64)]⟩)]
@[reducible] def constraint_direct_p1_G (p : zq1y) {β : Type} (d : zq1z.den) (ks : Outs.K β zq20) : Option β :=
  p (fun a0 a1 a2 a3 a4 => ks.1 (((a0, ()), (a1, ()), (), (a2, ()), (a3, ()), ()), (a4, ()))) d.1.1.1 d.1.2.1.1 d.1.2.2.2.1.1 d.1.2.2.2.2.1.1 d.1.2.2.2.2.2.1.1 d.1.2.2.2.2.2.2.1.1 d.1.2.2.2.2.2.2.2.1.1 d.2.1
abbrev zq21 (β : Type) := (List (Int × (Int × Int))) → (List (List Int)) → Option β
abbrev zq22 := {β : Type} → zq21 β → Int → (List (Int × (Int × Int))) → Int → Int → (List (List Int)) → Option β
def zq23 : View := ⟨0, [0, 1, 5, 13, 14], [(false, [.data (.int .i64)]), (false, [.data (.slice (.prod (.int .i64) (.prod (.int .i64) (.int .i64))))]), (false, [.math 0]), (false, [.data (.int .i64)]), (false, [.data (.int .i64)])], [.mat 22 3 (.int .i64)]⟩
def zq24 : List (AExit × View) := [(.exit 0, ⟨0, [1, 5], [(false, [.data (.slice (.prod (.int .i64) (.prod (.int .i64) (.int .i64))))]), (false, [.math 0])], [.mat 22 3 (.int .i64)]⟩)]
@[reducible] def constraint_direct_p2_G (p : zq22) {β : Type} (d : zq23.den) (ks : Outs.K β zq24) : Option β :=
  p (fun a0 a1 => ks.1 (((a0, ()), (), ()), (a1, ()))) d.1.1.1 d.1.2.1.1 d.1.2.2.2.1.1 d.1.2.2.2.2.1.1 d.2.1
abbrev zq25 (β : Type) := (List (List Int)) → Option β
abbrev zq26 := {β : Type} → zq25 β → (List (Int × (Int × Int))) → Int → Int → (List (List Int)) → Option β
def zq27 : View := ⟨0, [5, 38, 39, 40], [(false, [.math 0]), (false, [.data (.slice (.prod (.int .i64) (.prod (.int .i64) (.int .i64))))]), (false, [.data (.int .i64)]), (false, [.data (.int .i64)])], [.mat 22 3 (.int .i64)]⟩
def zq28 : List (AExit × View) := [(.exit 4, ⟨0, [5], [(false, [.math 0])], [.mat 22 3 (.int .i64)]⟩)]
@[reducible] def constraint_direct_p3_G (p : zq26) {β : Type} (d : zq27.den) (ks : Outs.K β zq28) : Option β :=
  p (fun a0 => ks.1 (((), ()), (a0, ()))) d.1.2.1.1 d.1.2.2.1.1 d.1.2.2.2.1.1 d.2.1
section
@[reducible] def constraint_direct_X : Ctx := ⟨look tab, pick1 [], true⟩
def zq29 {β : Type} (rec : Int → (List (Int × (Int × Int))) → Int → Int → Int → Int → Int → (List (List Int)) → Option β) (k1 : zq1x β) (n : Int) (l : List (Int × (Int × Int))) (i_ : Int) (t13 : Int) (t14 : Int) (t26 : Int) (t27 : Int) (out : List (List Int)) : Option β :=
  cond (decide (t27 < t26))
  (cond (decide (0 ≤ i_) && decide (i_ < (List.length out : Int)))
  (cond (decide (0 ≤ t27) && decide (t27 < (List.length (List.getD out (Int.toNat i_) []) : Int)))
  (let m_ : List (List Int) := (List.set out (Int.toNat i_) (List.set (List.getD out (Int.toNat i_) []) (Int.toNat t27) (1099511627776 : Int)));
  rec n l i_ t13 t14 t26 (IntKind.i64.wrap (t27 + (1 : Int))) m_)
  none)
  none)
  (k1 n l t13 t14 out)
def zq2a {β : Type} : Nat → zq1x β → Int → (List (Int × (Int × Int))) → Int → Int → Int → Int → Int → (List (List Int)) → Option β
  | 0 => fun _ _ _ _ _ _ _ _ _ => none
  | i + 1 => fun k1 n l i_ t13 t14 t26 t27 out => zq29 (zq2a i k1) k1 n l i_ t13 t14 t26 t27 out
theorem zq2b (hΓ : ΓOk Try.prog constraint_direct_X.Γ) (i : Nat) : PieceOk Try.prog 66 0 constraint_direct_p1_code zq1z zq20 (constraint_direct_p1_G (zq2a i)) := by
  rw [show constraint_direct_p1_code = .loop (loopBody constraint_direct_p1_code) by kernel_rfl]
  exact piece_loop (X := constraint_direct_X) (p := 1) (Λ := pick1 []) (G := fun i => @fun β d ks => constraint_direct_p1_G (zq2a i) d ks) mixed tab_ok hΓ rfl (by kernel_rfl) CutsOk_nil (fun _ _ => rfl) (fun i => @fun β d ks r h => Eq.trans (b := constraint_direct_p1_G (zq2a (i + 1)) d ks) (by kernel_rfl) h) i
def zq2c (p1 : zq1y) {β : Type} (rec : Int → (List (Int × (Int × Int))) → Int → Int → (List (List Int)) → Option β) (k1 : zq21 β) (n : Int) (l : List (Int × (Int × Int))) (t13 : Int) (t14 : Int) (out : List (List Int)) : Option β :=
  cond (decide (t14 < t13))
  (cond (decide (0 ≤ n) && (decide (n = n) && (decide (Int.toNat n * 8 ≤ roomMax) && decide (n ≤ 9223372036854775807))))
  (let l2 : List Int := (List.replicate (Int.toNat n) (0 : Int));
  cond (decide (0 ≤ t14) && decide (t14 < (List.length out : Int)))
  (let m_ : List (List Int) := (List.set out (Int.toNat t14) l2);
  cond (decide (0 ≤ t14) && decide (t14 < (List.length m_ : Int)))
  (p1 (fun (n2 : Int) (l3 : List (Int × (Int × Int))) (t132 : Int) (t142 : Int) (out2 : List (List Int)) =>
  rec n2 l3 t132 (IntKind.i64.wrap (t142 + (1 : Int))) out2) n l t14 t13 t14 (List.length (List.getD m_ (Int.toNat t14) []) : Int) (0 : Int) m_)
  none)
  none)
  none)
  (k1 l out)
def zq2d (p1 : zq1y) {β : Type} : Nat → zq21 β → Int → (List (Int × (Int × Int))) → Int → Int → (List (List Int)) → Option β
  | 0 => fun _ _ _ _ _ _ => none
  | i + 1 => fun k1 n l t13 t14 out => zq2c p1 (zq2d p1 i k1) k1 n l t13 t14 out
theorem zq2e (hΓ : ΓOk Try.prog constraint_direct_X.Γ) (p1 : zq1y) (hp1 : PieceOk Try.prog 66 0 constraint_direct_p1_code zq1z zq20 (constraint_direct_p1_G p1)) (i : Nat) : PieceOk Try.prog 66 0 constraint_direct_p2_code zq23 zq24 (constraint_direct_p2_G (zq2d p1 i)) := by
  rw [show constraint_direct_p2_code = .loop (loopBody constraint_direct_p2_code) by kernel_rfl]
  exact piece_loop (X := constraint_direct_X) (p := 1) (Λ := pick1 [(462, pieceCut zq1z zq20 (constraint_direct_p1_G p1))]) (G := fun i => @fun β d ks => constraint_direct_p2_G (zq2d p1 i) d ks) mixed tab_ok hΓ rfl (by kernel_rfl) (CutsOk_cons (q := 462) (c' := constraint_direct_p1_code) (by kernel_rfl) rfl hp1 CutsOk_nil) (fun _ _ => rfl) (fun i => @fun β d ks r h => Eq.trans (b := constraint_direct_p2_G (zq2d p1 (i + 1)) d ks) (by kernel_rfl) h) i
def zq2f {β : Type} (rec : (List (Int × (Int × Int))) → Int → Int → (List (List Int)) → Option β) (k1 : zq25 β) (t38 : List (Int × (Int × Int))) (t39 : Int) (t40 : Int) (out : List (List Int)) : Option β :=
  cond (decide (t40 < t39))
  (cond (decide (0 ≤ t40) && decide (t40 < (List.length t38 : Int)))
  (let e : (Int × (Int × Int)) := List.getD t38 (Int.toNat t40) ((0 : Int), ((0 : Int), (0 : Int)));
  cond (decide (0 ≤ e.1) && decide (e.1 < (List.length out : Int)))
  (cond (decide (0 ≤ e.1) && decide (e.1 < (List.length out : Int)))
  (cond (decide (0 ≤ e.2.1) && decide (e.2.1 < (List.length (List.getD out (Int.toNat e.1) []) : Int)))
  (cond (decide (0 ≤ e.2.1) && decide (e.2.1 < (List.length (List.getD out (Int.toNat e.1) []) : Int)))
  (let m_ : List (List Int) := (List.set out (Int.toNat e.1) (List.set (List.getD out (Int.toNat e.1) []) (Int.toNat e.2.1) (if e.2.2 < (List.getD (List.getD out (Int.toNat e.1) []) (Int.toNat e.2.1) (0 : Int)) then e.2.2 else (List.getD (List.getD out (Int.toNat e.1) []) (Int.toNat e.2.1) (0 : Int)))));
  rec t38 t39 (IntKind.i64.wrap (t40 + (1 : Int))) m_)
  none)
  none)
  none)
  none)
  none)
  (k1 out)
def zq2g {β : Type} : Nat → zq25 β → (List (Int × (Int × Int))) → Int → Int → (List (List Int)) → Option β
  | 0 => fun _ _ _ _ _ => none
  | i + 1 => fun k1 t38 t39 t40 out => zq2f (zq2g i k1) k1 t38 t39 t40 out
theorem zq2h (hΓ : ΓOk Try.prog constraint_direct_X.Γ) (i : Nat) : PieceOk Try.prog 66 0 constraint_direct_p3_code zq27 zq28 (constraint_direct_p3_G (zq2g i)) := by
  rw [show constraint_direct_p3_code = .loop (loopBody constraint_direct_p3_code) by kernel_rfl]
  exact piece_loop (X := constraint_direct_X) (p := 1) (Λ := pick1 []) (G := fun i => @fun β d ks => constraint_direct_p3_G (zq2g i) d ks) mixed tab_ok hΓ rfl (by kernel_rfl) CutsOk_nil (fun _ _ => rfl) (fun i => @fun β d ks r h => Eq.trans (b := constraint_direct_p3_G (zq2g (i + 1)) d ks) (by kernel_rfl) h) i
def zq2i (p2 : zq22) (p3 : zq26) {β : Type} (n : Int) (l : List (Int × (Int × Int))) (k : ((List (List Int)) → Option β)) : Option β :=
  cond (decide (0 ≤ n) && (decide (n = n) && (decide (Int.toNat n * 24 ≤ roomMax) && decide (n ≤ 9223372036854775807))))
  (let m_ : List (List Int) := (List.replicate (Int.toNat n) ([] : List Int));
  p2 (fun (l2 : List (Int × (Int × Int))) (out : List (List Int)) =>
  p3 (fun (out2 : List (List Int)) =>
  k out2) l2 (List.length l2 : Int) (0 : Int) out) n l (List.length m_ : Int) (0 : Int) m_)
  none
theorem zq2j (hΓ : ΓOk Try.prog constraint_direct_X.Γ) (p2 : zq22) (p3 : zq26) (hp2 : PieceOk Try.prog 66 0 constraint_direct_p2_code zq23 zq24 (constraint_direct_p2_G p2)) (hp3 : PieceOk Try.prog 66 0 constraint_direct_p3_code zq27 zq28 (constraint_direct_p3_G p3)) : SpecOk Try.prog 26 (zq1w (zq2i p2 p3)) :=
  spec_exec (X := constraint_direct_X) (Λ := pick1 [(58, pieceCut zq23 zq24 (constraint_direct_p2_G p2)), (122, pieceCut zq27 zq28 (constraint_direct_p3_G p3))]) (rs := [.tmp 4]) (c := bodyOf Try.f26) mixed tab_ok hΓ Try.func26 (by kernel_rfl) (by kernel_rfl) (by kernel_rfl) (by kernel_rfl) (CutsOk_cons (q := 58) (c' := constraint_direct_p2_code) (by kernel_rfl) rfl hp2 (CutsOk_cons (q := 122) (c' := constraint_direct_p3_code) (by kernel_rfl) rfl hp3 CutsOk_nil)) (fun x k r h => Eq.trans (b := (zq1w (zq2i p2 p3)).run x k) (by kernel_rfl) h)
end
theorem zq2kΓ : ΓOk Try.prog (pick1 []) := ΓOk_nil
def zq2l (m : Nat) : zq1y := zq2a m
theorem zq2m {β : Type} (i : Nat) (k1 n l i_ t13 t14 t26 t27 out) : (zq2l (i + 1) k1 n l i_ t13 t14 t26 t27 out : Option β) = zq29 (zq2l i k1) k1 n l i_ t13 t14 t26 t27 out := rfl
def zq2n : zq1y := zq2l fuel
theorem zq2o : PieceOk Try.prog 66 0 constraint_direct_p1_code zq1z zq20 (constraint_direct_p1_G zq2n) := zq2b zq2kΓ fuel
def zq2p (m : Nat) : zq22 := zq2d zq2n m
theorem zq2q {β : Type} (i : Nat) (k1 n l t13 t14 out) : (zq2p (i + 1) k1 n l t13 t14 out : Option β) = zq2c zq2n (zq2p i k1) k1 n l t13 t14 out := rfl
def zq2r : zq22 := zq2p fuel
theorem zq2s : PieceOk Try.prog 66 0 constraint_direct_p2_code zq23 zq24 (constraint_direct_p2_G zq2r) := zq2e zq2kΓ zq2n zq2o fuel
def zq2t (m : Nat) : zq26 := zq2g m
theorem zq2u {β : Type} (i : Nat) (k1 t38 t39 t40 out) : (zq2t (i + 1) k1 t38 t39 t40 out : Option β) = zq2f (zq2t i k1) k1 t38 t39 t40 out := rfl
def zq2v : zq26 := zq2t fuel
theorem zq2w : PieceOk Try.prog 66 0 constraint_direct_p3_code zq27 zq28 (constraint_direct_p3_G zq2v) := zq2h zq2kΓ fuel
def zq2x : zq1v := zq2i zq2r zq2v
theorem zq2y : SpecOk Try.prog 26 (zq1w zq2x) := zq2j zq2kΓ zq2r zq2v zq2s zq2w

/-- pagewatch/clock.in -/
abbrev zq2z := {β : Type} → Int → Int → Int → (Bool → Option β) → Option β
def zq30 (c : zq2z) : Spec :=
  ⟨[(false, [.data (.int .i64)]), (false, [.data (.int .i64)]), (false, [.data (.int .i64)])], [], [(false, [.data .bool])], [], fun x k => c x.1.1.1 x.1.2.1.1 x.1.2.2.1.1 (fun r0 => k (((r0, ()), ()), ()))⟩
section
@[reducible] def clock_in_X : Ctx := ⟨look tab, pick1 [], false⟩
def zq31 {β : Type} (n : Int) (low : Int) (high : Int) (k : (Bool → Option β)) : Option β :=
  cond (decide (low ≤ n))
  (k (decide (n ≤ high)))
  (k false)
theorem zq32 (hΓ : ΓOk Try.prog clock_in_X.Γ) : SpecOk Try.prog 27 (zq30 (zq31)) :=
  spec_exec (X := clock_in_X) (Λ := pick1 []) (rs := [.tmp 6]) (c := bodyOf Try.f27) mixed tab_ok hΓ Try.func27 (by kernel_rfl) (by kernel_rfl) (by kernel_rfl) (by kernel_rfl) CutsOk_nil (fun x k r h => Eq.trans (b := (zq30 (zq31)).run x k) (by kernel_rfl) h)
end
theorem zq33Γ : ΓOk Try.prog (pick1 []) := ΓOk_nil
def zq34 : zq2z := zq31
theorem zq35 : SpecOk Try.prog 27 (zq30 zq34) := zq32 zq33Γ

/-- pagewatch/clock.instant -/
abbrev zq36 := {β : Type} → Int → (Bool → Option β) → Option β
def zq37 (c : zq36) : Spec :=
  ⟨[(false, [.data (.int .i64)])], [], [(false, [.data .bool])], [], fun x k => c x.1.1.1 (fun r0 => k (((r0, ()), ()), ()))⟩
section
variable (c_clock_in : zq2z)
@[reducible] def clock_instant_X : Ctx := ⟨look tab, pick1 [(27, .spec (zq30 c_clock_in))], false⟩
def zq38 {β : Type} (n : Int) (k : (Bool → Option β)) : Option β :=
  c_clock_in n (0 : Int) (8589934592 : Int) (fun (rin : Bool) =>
  k rin)
theorem zq39 (hΓ : ΓOk Try.prog (clock_instant_X c_clock_in).Γ) : SpecOk Try.prog 29 (zq37 (zq38 c_clock_in)) :=
  spec_exec (X := (clock_instant_X c_clock_in)) (Λ := pick1 []) (rs := [.tmp 2]) (c := bodyOf Try.f29) mixed tab_ok hΓ Try.func29 (by kernel_rfl) (by kernel_rfl) (by kernel_rfl) (by kernel_rfl) CutsOk_nil (fun x k r h => Eq.trans (b := (zq37 (zq38 c_clock_in)).run x k) (by kernel_rfl) h)
end
theorem zq3aΓ : ΓOk Try.prog (pick1 [(27, .spec (zq30 zq34))]) := (ΓOk_cons zq35 ΓOk_nil)
def zq3b : zq36 := zq38 zq34
theorem zq3c : SpecOk Try.prog 29 (zq37 zq3b) := zq39 zq34 zq3aΓ

/-- pagewatch/clock.Meet -/
abbrev zq3d := {β : Type} → (Int × Int) → (Int × Int) → ((Int × Int) → Option β) → Option β
def zq3e (c : zq3d) : Spec :=
  ⟨[(true, [.data (.prod (.int .i64) (.int .i64))]), (true, [.data (.prod (.int .i64) (.int .i64))])], [], [(true, [.data (.prod (.int .i64) (.int .i64))])], [], fun x k => c x.1.1.1 x.1.2.1.1 (fun r0 => k (((r0, ()), ()), ()))⟩
section
@[reducible] def clock_Meet_X : Ctx := ⟨look tab, pick1 [], false⟩
def zq3f {β : Type} (a : (Int × Int)) (b : (Int × Int)) (k : ((Int × Int) → Option β)) : Option β :=
  k ((if b.1 > a.1 then b.1 else a.1), (if b.2 < a.2 then b.2 else a.2))
theorem zq3g (hΓ : ΓOk Try.prog clock_Meet_X.Γ) : SpecOk Try.prog 30 (zq3e (zq3f)) :=
  spec_exec (X := clock_Meet_X) (Λ := pick1 []) (rs := [.cell 4 47]) (c := bodyOf Try.f30) mixed tab_ok hΓ Try.func30 (by kernel_rfl) (by kernel_rfl) (by kernel_rfl) (by kernel_rfl) CutsOk_nil (fun x k r h => Eq.trans (b := (zq3e (zq3f)).run x k) (by kernel_rfl) h)
end
theorem zq3hΓ : ΓOk Try.prog (pick1 []) := ΓOk_nil
def zq3i : zq3d := zq3f
theorem zq3j : SpecOk Try.prog 30 (zq3e zq3i) := zq3g zq3hΓ

/-- pagewatch/clock.Empty -/
abbrev zq3k := {β : Type} → (Int × Int) → (Bool → Option β) → Option β
def zq3l (c : zq3k) : Spec :=
  ⟨[(true, [.data (.prod (.int .i64) (.int .i64))])], [], [(false, [.data .bool])], [], fun x k => c x.1.1.1 (fun r0 => k (((r0, ()), ()), ()))⟩
section
@[reducible] def clock_Empty_X : Ctx := ⟨look tab, pick1 [], false⟩
def zq3m {β : Type} (a : (Int × Int)) (k : (Bool → Option β)) : Option β :=
  k (decide (a.2 < a.1))
theorem zq3n (hΓ : ΓOk Try.prog clock_Empty_X.Γ) : SpecOk Try.prog 32 (zq3l (zq3m)) :=
  spec_exec (X := clock_Empty_X) (Λ := pick1 []) (rs := [.tmp 2]) (c := bodyOf Try.f32) mixed tab_ok hΓ Try.func32 (by kernel_rfl) (by kernel_rfl) (by kernel_rfl) (by kernel_rfl) CutsOk_nil (fun x k r h => Eq.trans (b := (zq3l (zq3m)).run x k) (by kernel_rfl) h)
end
theorem zq3oΓ : ΓOk Try.prog (pick1 []) := ΓOk_nil
def zq3p : zq3k := zq3m
theorem zq3q : SpecOk Try.prog 32 (zq3l zq3p) := zq3n zq3oΓ

/-- pagewatch/constraint.in -/
abbrev zq3r := {β : Type} → Int → Int → Int → (Bool → Option β) → Option β
def zq3s (c : zq3r) : Spec :=
  ⟨[(false, [.data (.int .i64)]), (false, [.data (.int .i64)]), (false, [.data (.int .i64)])], [], [(false, [.data .bool])], [], fun x k => c x.1.1.1 x.1.2.1.1 x.1.2.2.1.1 (fun r0 => k (((r0, ()), ()), ()))⟩
section
@[reducible] def constraint_in_X : Ctx := ⟨look tab, pick1 [], false⟩
def zq3t {β : Type} (n : Int) (low : Int) (high : Int) (k : (Bool → Option β)) : Option β :=
  cond (decide (low ≤ n))
  (k (decide (n ≤ high)))
  (k false)
theorem zq3u (hΓ : ΓOk Try.prog constraint_in_X.Γ) : SpecOk Try.prog 34 (zq3s (zq3t)) :=
  spec_exec (X := constraint_in_X) (Λ := pick1 []) (rs := [.tmp 6]) (c := bodyOf Try.f34) mixed tab_ok hΓ Try.func34 (by kernel_rfl) (by kernel_rfl) (by kernel_rfl) (by kernel_rfl) CutsOk_nil (fun x k r h => Eq.trans (b := (zq3s (zq3t)).run x k) (by kernel_rfl) h)
end
theorem zq3vΓ : ΓOk Try.prog (pick1 []) := ΓOk_nil
def zq3w : zq3r := zq3t
theorem zq3x : SpecOk Try.prog 34 (zq3s zq3w) := zq3u zq3vΓ

/-- pagewatch/constraint.Valid$1 -/
abbrev zq3y := {β : Type} → (Int × (Int × Int)) → Int → (Bool → Int → Option β) → Option β
def zq3z (c : zq3y) : Spec :=
  ⟨[(true, [.data (.prod (.int .i64) (.prod (.int .i64) (.int .i64)))]), (false, [.ptr 0 0])], [.cells 3 [.data (.int .i64)]], [(false, [.data .bool])], [.cells 3 [.data (.int .i64)]], fun x k => c x.1.1.1 x.2.1.1 (fun r0 r1 => k (((r0, ()), ()), ((r1, ()), ())))⟩
section
variable (c_constraint_in : zq3r)
@[reducible] def constraint_Valid_f1_X : Ctx := ⟨look tab, pick1 [(34, .spec (zq3s c_constraint_in))], false⟩
def zq40 {β : Type} (d : (Int × (Int × Int))) (t1 : Int) (k : (Bool → Int → Option β)) : Option β :=
  c_constraint_in d.1 (0 : Int) (IntKind.i64.wrap (t1 - (1 : Int))) (fun (rin : Bool) =>
  cond (!rin)
  (k true t1)
  (c_constraint_in d.2.1 (0 : Int) (IntKind.i64.wrap (t1 - (1 : Int))) (fun (rin2 : Bool) =>
  cond (!rin2)
  (k true t1)
  (c_constraint_in d.2.2 (-17179869184 : Int) (17179869184 : Int) (fun (rin3 : Bool) =>
  k (!rin3) t1)))))
theorem zq41 (hΓ : ΓOk Try.prog (constraint_Valid_f1_X c_constraint_in).Γ) : SpecOk Try.prog 36 (zq3z (zq40 c_constraint_in)) :=
  spec_exec (X := (constraint_Valid_f1_X c_constraint_in)) (Λ := pick1 []) (rs := [.tmp 3]) (c := bodyOf Try.f36) mixed tab_ok hΓ Try.func36 (by kernel_rfl) (by kernel_rfl) (by kernel_rfl) (by kernel_rfl) CutsOk_nil (fun x k r h => Eq.trans (b := (zq3z (zq40 c_constraint_in)).run x k) (by kernel_rfl) h)
end
theorem zq42Γ : ΓOk Try.prog (pick1 [(34, .spec (zq3s zq3w))]) := (ΓOk_cons zq3x ΓOk_nil)
def zq43 : zq3y := zq40 zq3w
theorem zq44 : SpecOk Try.prog 36 (zq3z zq43) := zq41 zq3w zq42Γ

/-- pagewatch/clock.Elapsed$1 -/
abbrev zq45 := {β : Type} → Int → Int → (Int → Option β) → Option β
def zq46 (c : zq45) : Spec :=
  ⟨[(false, [.data (.int .i64)]), (false, [.data (.int .i64)])], [], [(false, [.data (.int .i64)])], [], fun x k => c x.1.1.1 x.1.2.1.1 (fun r0 => k (((r0, ()), ()), ()))⟩
section
@[reducible] def clock_Elapsed_f1_X : Ctx := ⟨look tab, pick1 [], false⟩
def zq47 {β : Type} (a : Int) (b : Int) (k : (Int → Option β)) : Option β :=
  cond (!decide (b = 0))
  (let t : Int := (IntKind.i64.wrap (Int.tdiv (IntKind.i64.wrap ((IntKind.i64.wrap (a + b)) - (1 : Int))) b));
  k t)
  none
theorem zq48 (hΓ : ΓOk Try.prog clock_Elapsed_f1_X.Γ) : SpecOk Try.prog 37 (zq46 (zq47)) :=
  spec_exec (X := clock_Elapsed_f1_X) (Λ := pick1 []) (rs := [.tmp 4]) (c := bodyOf Try.f37) mixed tab_ok hΓ Try.func37 (by kernel_rfl) (by kernel_rfl) (by kernel_rfl) (by kernel_rfl) CutsOk_nil (fun x k r h => Eq.trans (b := (zq46 (zq47)).run x k) (by kernel_rfl) h)
end
theorem zq49Γ : ΓOk Try.prog (pick1 []) := ΓOk_nil
def zq4a : zq45 := zq47
theorem zq4b : SpecOk Try.prog 37 (zq46 zq4a) := zq48 zq49Γ

/-- (*pagewatch/pagewatchmade.Dice).Record -/
abbrev zq4c := {β : Type} → Int → (List Int × Int) → (zq2 → (List Int × Int) → (List Int) → Option β) → Option β
def zq4d (c : zq4c) : Spec :=
  ⟨[(false, [.ptr 0 0]), (false, [.data (.int .i64)])], [.cells 55 [.data (.prod (.slice (.int .i64)) (.int .i64))]], [(true, [.data zq3]), (false, [.rowh 1])], [.cells 55 [.data (.prod (.slice (.int .i64)) (.int .i64))], .row 3 (.int .i64)], fun x k => c x.1.2.1.1 x.2.1.1 (fun r0 r1 r2 => k (((r0, ()), (), ()), ((r1, ()), r2, ())))⟩
noncomputable def made_Dice_Record_p1_code : Code := codeAt 122 (bodyOf Try.f7)
noncomputable def made_Dice_Record_p2_code : Code := codeAt 250 (bodyOf Try.f7)
noncomputable def made_Dice_Record_p3_code : Code := codeAt 1018 (bodyOf Try.f7)
noncomputable def made_Dice_Record_p5_code : Code := codeAt 2042 (bodyOf Try.f7)
noncomputable def made_Dice_Record_p4_code : Code := codeAt 51 (loopBody made_Dice_Record_p5_code)
abbrev zq4e (β : Type) := Int → (List Int) → Int → (List Int) → (List (List UInt8 × Int)) → (List (Int × (Int × (Int × Int)))) → (List zq0) → (List (Int × (Int × Int))) → (List (List UInt8 × Int)) → (List (Int × (Int × (Int × Int)))) → (List zq0) → (List (Int × (Int × Int))) → Option β
abbrev zq4f := {β : Type} → zq4e β → Int → Int → (List Int) → Int → (List Int) → (List (List UInt8 × Int)) → (List (Int × (Int × (Int × Int)))) → (List zq0) → (List (Int × (Int × Int))) → (List (List UInt8 × Int)) → (List (Int × (Int × (Int × Int)))) → (List zq0) → (List (Int × (Int × Int))) → Option β
def zq4g : View := ⟨1, [0, 1, 4, 6, 7, 8], [(false, [.ptr 0 0]), (false, [.data (.int .i64)]), (false, [.ptr 1 0]), (false, [.ptr 2 0]), (false, [.rowh 3]), (false, [.data (.int .i64)])], [.cells 55 [.data (.slice (.int .i64)), .data (.int .i64)], .cells 33 [.rowh 4, .rowh 5, .rowh 6, .rowh 7], .cells 33 [.rowh 8, .rowh 9, .rowh 10, .rowh 11], .row 3 (.int .i64), .row 60 (.prod .str (.int .i64)), .row 38 (.prod (.int .i64) (.prod (.int .i64) (.prod (.int .i64) (.int .i64)))), .row 40 zq1, .row 42 (.prod (.int .i64) (.prod (.int .i64) (.int .i64))), .row 60 (.prod .str (.int .i64)), .row 38 (.prod (.int .i64) (.prod (.int .i64) (.prod (.int .i64) (.int .i64)))), .row 40 zq1, .row 42 (.prod (.int .i64) (.prod (.int .i64) (.int .i64)))]⟩
def zq4h : List (AExit × View) := [(.exit 0, ⟨1, [0, 1, 4, 6, 7], [(false, [.ptr 0 0]), (false, [.data (.int .i64)]), (false, [.ptr 1 0]), (false, [.ptr 2 0]), (false, [.rowh 3])], [.cells 55 [.data (.slice (.int .i64)), .data (.int .i64)], .cells 33 [.rowh 4, .rowh 5, .rowh 6, .rowh 7], .cells 33 [.rowh 8, .rowh 9, .rowh 10, .rowh 11], .row 3 (.int .i64), .row 60 (.prod .str (.int .i64)), .row 38 (.prod (.int .i64) (.prod (.int .i64) (.prod (.int .i64) (.int .i64)))), .row 40 zq1, .row 42 (.prod (.int .i64) (.prod (.int .i64) (.int .i64))), .row 60 (.prod .str (.int .i64)), .row 38 (.prod (.int .i64) (.prod (.int .i64) (.prod (.int .i64) (.int .i64)))), .row 40 zq1, .row 42 (.prod (.int .i64) (.prod (.int .i64) (.int .i64)))]⟩)]
@[reducible] def made_Dice_Record_p1_G (p : zq4f) {β : Type} (d : zq4g.den) (ks : Outs.K β zq4h) : Option β :=
  p (fun a0 a1 a2 a3 a4 a5 a6 a7 a8 a9 a10 a11 => ks.1 (((), (a0, ()), (), (), (), ()), ((a1, a2, ()), (), (), a3, a4, a5, a6, a7, a8, a9, a10, a11, ()))) d.1.2.1.1 d.1.2.2.2.2.2.1.1 d.2.1.1 d.2.1.2.1 d.2.2.2.2.1 d.2.2.2.2.2.1 d.2.2.2.2.2.2.1 d.2.2.2.2.2.2.2.1 d.2.2.2.2.2.2.2.2.1 d.2.2.2.2.2.2.2.2.2.1 d.2.2.2.2.2.2.2.2.2.2.1 d.2.2.2.2.2.2.2.2.2.2.2.1 d.2.2.2.2.2.2.2.2.2.2.2.2.1
abbrev zq4i (β : Type) := Int → (List Int) → Int → (List Int) → (List (List UInt8 × Int)) → (List (Int × (Int × (Int × Int)))) → (List zq0) → (List (Int × (Int × Int))) → (List (List UInt8 × Int)) → (List (Int × (Int × (Int × Int)))) → (List zq0) → (List (Int × (Int × Int))) → Option β
abbrev zq4j := {β : Type} → zq4i β → Int → Int → (List Int) → Int → (List Int) → (List (List UInt8 × Int)) → (List (Int × (Int × (Int × Int)))) → (List zq0) → (List (Int × (Int × Int))) → (List (List UInt8 × Int)) → (List (Int × (Int × (Int × Int)))) → (List zq0) → (List (Int × (Int × Int))) → Option β
def zq4k : View := ⟨1, [0, 1, 4, 6, 7, 9], [(false, [.ptr 0 0]), (false, [.data (.int .i64)]), (false, [.ptr 1 0]), (false, [.ptr 2 0]), (false, [.rowh 3]), (false, [.data (.int .i64)])], [.cells 55 [.data (.slice (.int .i64)), .data (.int .i64)], .cells 33 [.rowh 4, .rowh 5, .rowh 6, .rowh 7], .cells 33 [.rowh 8, .rowh 9, .rowh 10, .rowh 11], .row 3 (.int .i64), .row 60 (.prod .str (.int .i64)), .row 38 (.prod (.int .i64) (.prod (.int .i64) (.prod (.int .i64) (.int .i64)))), .row 40 zq1, .row 42 (.prod (.int .i64) (.prod (.int .i64) (.int .i64))), .row 60 (.prod .str (.int .i64)), .row 38 (.prod (.int .i64) (.prod (.int .i64) (.prod (.int .i64) (.int .i64)))), .row 40 zq1, .row 42 (.prod (.int .i64) (.prod (.int .i64) (.int .i64)))]⟩
def zq4l : List (AExit × View) := [(.exit 2, ⟨1, [0, 1, 4, 6, 7], [(false, [.ptr 0 0]), (false, [.data (.int .i64)]), (false, [.ptr 1 0]), (false, [.ptr 2 0]), (false, [.rowh 3])], [.cells 55 [.data (.slice (.int .i64)), .data (.int .i64)], .cells 33 [.rowh 4, .rowh 5, .rowh 6, .rowh 7], .cells 33 [.rowh 8, .rowh 9, .rowh 10, .rowh 11], .row 3 (.int .i64), .row 60 (.prod .str (.int .i64)), .row 38 (.prod (.int .i64) (.prod (.int .i64) (.prod (.int .i64) (.int .i64)))), .row 40 zq1, .row 42 (.prod (.int .i64) (.prod (.int .i64) (.int .i64))), .row 60 (.prod .str (.int .i64)), .row 38 (.prod (.int .i64) (.prod (.int .i64) (.prod (.int .i64) (.int .i64)))), .row 40 zq1, .row 42 (.prod (.int .i64) (.prod (.int .i64) (.int .i64)))]⟩)]
@[reducible] def made_Dice_Record_p2_G (p : zq4j) {β : Type} (d : zq4k.den) (ks : Outs.K β zq4l) : Option β :=
  p (fun a0 a1 a2 a3 a4 a5 a6 a7 a8 a9 a10 a11 => ks.1 (((), (a0, ()), (), (), (), ()), ((a1, a2, ()), (), (), a3, a4, a5, a6, a7, a8, a9, a10, a11, ()))) d.1.2.1.1 d.1.2.2.2.2.2.1.1 d.2.1.1 d.2.1.2.1 d.2.2.2.2.1 d.2.2.2.2.2.1 d.2.2.2.2.2.2.1 d.2.2.2.2.2.2.2.1 d.2.2.2.2.2.2.2.2.1 d.2.2.2.2.2.2.2.2.2.1 d.2.2.2.2.2.2.2.2.2.2.1 d.2.2.2.2.2.2.2.2.2.2.2.1 d.2.2.2.2.2.2.2.2.2.2.2.2.1
abbrev zq4m (β : Type) := (List Int) → Int → (List Int) → (List (List UInt8 × Int)) → (List (Int × (Int × (Int × Int)))) → (List zq0) → (List (Int × (Int × Int))) → (List (List UInt8 × Int)) → (List (Int × (Int × (Int × Int)))) → (List zq0) → (List (Int × (Int × Int))) → Option β
abbrev zq4n := {β : Type} → zq4m β → Int → (List Int) → Int → (List Int) → (List Int) → (List (List UInt8 × Int)) → (List (Int × (Int × (Int × Int)))) → (List zq0) → (List (Int × (Int × Int))) → (List (List UInt8 × Int)) → (List (Int × (Int × (Int × Int)))) → (List zq0) → (List (Int × (Int × Int))) → Option β
def zq4o : View := ⟨1, [0, 4, 6, 7, 12, 13], [(false, [.ptr 0 0]), (false, [.ptr 1 0]), (false, [.ptr 2 0]), (false, [.rowh 3]), (false, [.rowh 4]), (false, [.data (.int .i64)])], [.cells 55 [.data (.slice (.int .i64)), .data (.int .i64)], .cells 33 [.rowh 5, .rowh 6, .rowh 7, .rowh 8], .cells 33 [.rowh 9, .rowh 10, .rowh 11, .rowh 12], .row 3 (.int .i64), .row 3 (.int .i64), .row 60 (.prod .str (.int .i64)), .row 38 (.prod (.int .i64) (.prod (.int .i64) (.prod (.int .i64) (.int .i64)))), .row 40 zq1, .row 42 (.prod (.int .i64) (.prod (.int .i64) (.int .i64))), .row 60 (.prod .str (.int .i64)), .row 38 (.prod (.int .i64) (.prod (.int .i64) (.prod (.int .i64) (.int .i64)))), .row 40 zq1, .row 42 (.prod (.int .i64) (.prod (.int .i64) (.int .i64)))]⟩
def zq4p : List (AExit × View) := [(.exit 4, ⟨1, [0, 4, 6, 12], [(false, [.ptr 0 0]), (false, [.ptr 1 0]), (false, [.ptr 2 0]), (false, [.rowh 3])], [.cells 55 [.data (.slice (.int .i64)), .data (.int .i64)], .cells 33 [.rowh 4, .rowh 5, .rowh 6, .rowh 7], .cells 33 [.rowh 8, .rowh 9, .rowh 10, .rowh 11], .row 3 (.int .i64), .row 60 (.prod .str (.int .i64)), .row 38 (.prod (.int .i64) (.prod (.int .i64) (.prod (.int .i64) (.int .i64)))), .row 40 zq1, .row 42 (.prod (.int .i64) (.prod (.int .i64) (.int .i64))), .row 60 (.prod .str (.int .i64)), .row 38 (.prod (.int .i64) (.prod (.int .i64) (.prod (.int .i64) (.int .i64)))), .row 40 zq1, .row 42 (.prod (.int .i64) (.prod (.int .i64) (.int .i64)))]⟩)]
@[reducible] def made_Dice_Record_p3_G (p : zq4n) {β : Type} (d : zq4o.den) (ks : Outs.K β zq4p) : Option β :=
  p (fun a0 a1 a2 a3 a4 a5 a6 a7 a8 a9 a10 => ks.1 (((), (), (), (), ()), ((a0, a1, ()), (), (), a2, a3, a4, a5, a6, a7, a8, a9, a10, ()))) d.1.2.2.2.2.2.1.1 d.2.1.1 d.2.1.2.1 d.2.2.2.2.1 d.2.2.2.2.2.1 d.2.2.2.2.2.2.1 d.2.2.2.2.2.2.2.1 d.2.2.2.2.2.2.2.2.1 d.2.2.2.2.2.2.2.2.2.1 d.2.2.2.2.2.2.2.2.2.2.1 d.2.2.2.2.2.2.2.2.2.2.2.1 d.2.2.2.2.2.2.2.2.2.2.2.2.1 d.2.2.2.2.2.2.2.2.2.2.2.2.2.1
abbrev zq4q (β : Type) := Int → (List Int) → Int → (List Int) → (List (List UInt8 × Int)) → (List (Int × (Int × (Int × Int)))) → (List zq0) → (List (Int × (Int × Int))) → (List (List UInt8 × Int)) → (List (Int × (Int × (Int × Int)))) → (List zq0) → (List (Int × (Int × Int))) → Option β
abbrev zq4r := {β : Type} → zq4q β → Int → Int → Int → Bool → (List Int) → Int → (List Int) → (List (List UInt8 × Int)) → (List (Int × (Int × (Int × Int)))) → (List zq0) → (List (Int × (Int × Int))) → (List (List UInt8 × Int)) → (List (Int × (Int × (Int × Int)))) → (List zq0) → (List (Int × (Int × Int))) → Option β
def zq4s : View := ⟨1, [0, 4, 6, 12, 16, 17, 18, 154], [(false, [.ptr 0 0]), (false, [.ptr 1 0]), (false, [.ptr 2 0]), (false, [.rowh 3]), (false, [.data (.int .i64)]), (false, [.data (.int .i64)]), (false, [.data (.int .i64)]), (false, [.data .bool])], [.cells 55 [.data (.slice (.int .i64)), .data (.int .i64)], .cells 33 [.rowh 4, .rowh 5, .rowh 6, .rowh 7], .cells 33 [.rowh 8, .rowh 9, .rowh 10, .rowh 11], .row 3 (.int .i64), .row 60 (.prod .str (.int .i64)), .row 38 (.prod (.int .i64) (.prod (.int .i64) (.prod (.int .i64) (.int .i64)))), .row 40 zq1, .row 42 (.prod (.int .i64) (.prod (.int .i64) (.int .i64))), .row 60 (.prod .str (.int .i64)), .row 38 (.prod (.int .i64) (.prod (.int .i64) (.prod (.int .i64) (.int .i64)))), .row 40 zq1, .row 42 (.prod (.int .i64) (.prod (.int .i64) (.int .i64)))]⟩
def zq4t : List (AExit × View) := [(.normal, ⟨1, [0, 4, 6, 12, 16], [(false, [.ptr 0 0]), (false, [.ptr 1 0]), (false, [.ptr 2 0]), (false, [.rowh 3]), (false, [.data (.int .i64)])], [.cells 55 [.data (.slice (.int .i64)), .data (.int .i64)], .cells 33 [.rowh 4, .rowh 5, .rowh 6, .rowh 7], .cells 33 [.rowh 8, .rowh 9, .rowh 10, .rowh 11], .row 3 (.int .i64), .row 60 (.prod .str (.int .i64)), .row 38 (.prod (.int .i64) (.prod (.int .i64) (.prod (.int .i64) (.int .i64)))), .row 40 zq1, .row 42 (.prod (.int .i64) (.prod (.int .i64) (.int .i64))), .row 60 (.prod .str (.int .i64)), .row 38 (.prod (.int .i64) (.prod (.int .i64) (.prod (.int .i64) (.int .i64)))), .row 40 zq1, .row 42 (.prod (.int .i64) (.prod (.int .i64) (.int .i64)))]⟩)]
@[reducible] def made_Dice_Record_p4_G (p : zq4r) {β : Type} (d : zq4s.den) (ks : Outs.K β zq4t) : Option β :=
  p (fun a0 a1 a2 a3 a4 a5 a6 a7 a8 a9 a10 a11 => ks.1 (((), (), (), (), (a0, ()), ()), ((a1, a2, ()), (), (), a3, a4, a5, a6, a7, a8, a9, a10, a11, ()))) d.1.2.2.2.2.1.1 d.1.2.2.2.2.2.1.1 d.1.2.2.2.2.2.2.1.1 d.1.2.2.2.2.2.2.2.1.1 d.2.1.1 d.2.1.2.1 d.2.2.2.2.1 d.2.2.2.2.2.1 d.2.2.2.2.2.2.1 d.2.2.2.2.2.2.2.1 d.2.2.2.2.2.2.2.2.1 d.2.2.2.2.2.2.2.2.2.1 d.2.2.2.2.2.2.2.2.2.2.1 d.2.2.2.2.2.2.2.2.2.2.2.1 d.2.2.2.2.2.2.2.2.2.2.2.2.1
abbrev zq4u (β : Type) := (List Int) → Int → (List Int) → (List (List UInt8 × Int)) → (List (Int × (Int × (Int × Int)))) → (List zq0) → (List (Int × (Int × Int))) → (List (List UInt8 × Int)) → (List (Int × (Int × (Int × Int)))) → (List zq0) → (List (Int × (Int × Int))) → Option β
abbrev zq4v := {β : Type} → zq4u β → Int → (List Int) → Int → (List Int) → (List (List UInt8 × Int)) → (List (Int × (Int × (Int × Int)))) → (List zq0) → (List (Int × (Int × Int))) → (List (List UInt8 × Int)) → (List (Int × (Int × (Int × Int)))) → (List zq0) → (List (Int × (Int × Int))) → Option β
def zq4w : View := ⟨1, [0, 4, 6, 12, 16], [(false, [.ptr 0 0]), (false, [.ptr 1 0]), (false, [.ptr 2 0]), (false, [.rowh 3]), (false, [.data (.int .i64)])], [.cells 55 [.data (.slice (.int .i64)), .data (.int .i64)], .cells 33 [.rowh 4, .rowh 5, .rowh 6, .rowh 7], .cells 33 [.rowh 8, .rowh 9, .rowh 10, .rowh 11], .row 3 (.int .i64), .row 60 (.prod .str (.int .i64)), .row 38 (.prod (.int .i64) (.prod (.int .i64) (.prod (.int .i64) (.int .i64)))), .row 40 zq1, .row 42 (.prod (.int .i64) (.prod (.int .i64) (.int .i64))), .row 60 (.prod .str (.int .i64)), .row 38 (.prod (.int .i64) (.prod (.int .i64) (.prod (.int .i64) (.int .i64)))), .row 40 zq1, .row 42 (.prod (.int .i64) (.prod (.int .i64) (.int .i64)))]⟩
def zq4x : List (AExit × View) := [(.exit 6, ⟨1, [4, 6, 12], [(false, [.ptr 1 0]), (false, [.ptr 2 0]), (false, [.rowh 3])], [.cells 55 [.data (.slice (.int .i64)), .data (.int .i64)], .cells 33 [.rowh 4, .rowh 5, .rowh 6, .rowh 7], .cells 33 [.rowh 8, .rowh 9, .rowh 10, .rowh 11], .row 3 (.int .i64), .row 60 (.prod .str (.int .i64)), .row 38 (.prod (.int .i64) (.prod (.int .i64) (.prod (.int .i64) (.int .i64)))), .row 40 zq1, .row 42 (.prod (.int .i64) (.prod (.int .i64) (.int .i64))), .row 60 (.prod .str (.int .i64)), .row 38 (.prod (.int .i64) (.prod (.int .i64) (.prod (.int .i64) (.int .i64)))), .row 40 zq1, .row 42 (.prod (.int .i64) (.prod (.int .i64) (.int .i64)))]⟩)]
@[reducible] def made_Dice_Record_p5_G (p : zq4v) {β : Type} (d : zq4w.den) (ks : Outs.K β zq4x) : Option β :=
  p (fun a0 a1 a2 a3 a4 a5 a6 a7 a8 a9 a10 => ks.1 (((), (), (), ()), ((a0, a1, ()), (), (), a2, a3, a4, a5, a6, a7, a8, a9, a10, ()))) d.1.2.2.2.2.1.1 d.2.1.1 d.2.1.2.1 d.2.2.2.2.1 d.2.2.2.2.2.1 d.2.2.2.2.2.2.1 d.2.2.2.2.2.2.2.1 d.2.2.2.2.2.2.2.2.1 d.2.2.2.2.2.2.2.2.2.1 d.2.2.2.2.2.2.2.2.2.2.1 d.2.2.2.2.2.2.2.2.2.2.2.1 d.2.2.2.2.2.2.2.2.2.2.2.2.1
section
variable (c_made_Dice_Next : zqp) (c_made_Dice_One : zqw)
@[reducible] def made_Dice_Record_X : Ctx := ⟨look tab, pick1 [(12, .spec (zqq c_made_Dice_Next)), (13, .spec (zqx c_made_Dice_One))], false⟩
def zq4y {β : Type} (rec : Int → Int → (List Int) → Int → (List Int) → (List (List UInt8 × Int)) → (List (Int × (Int × (Int × Int)))) → (List zq0) → (List (Int × (Int × Int))) → (List (List UInt8 × Int)) → (List (Int × (Int × (Int × Int)))) → (List zq0) → (List (Int × (Int × Int))) → Option β) (k1 : zq4e β) (n : Int) (i_ : Int) (d : List Int) (d2 : Int) (ahead : List Int) (b4_ : List (List UInt8 × Int)) (b5_ : List (Int × (Int × (Int × Int)))) (b6_ : List zq0) (b7_ : List (Int × (Int × Int))) (b8_ : List (List UInt8 × Int)) (b9_ : List (Int × (Int × (Int × Int)))) (b10_ : List zq0) (b11_ : List (Int × (Int × Int))) : Option β :=
  cond (decide ((0 : Int) < i_))
  (let l : List (List UInt8) := ([([100, 98] : List UInt8), ([119, 101, 98] : List UInt8), ([108, 98] : List UInt8)] : List (List UInt8));
  cond (decide (0 ≤ (List.length b8_ : Int)) && decide ((List.length b8_ : Int) < (List.length l : Int)))
  (let l2 : List Int := ([(0 : Int), (0 : Int), (100 : Int), (50000 : Int), (500000 : Int)] : List Int);
  c_made_Dice_One l2 (d, d2) (fun (rOne : Int) (mrOne : (List Int × Int)) =>
  let l3 : List (List UInt8 × Int) := ([((List.getD l (Int.toNat (List.length b8_ : Int)) ([] : List UInt8)), rOne)] : List (List UInt8 × Int));
  cond (decide ((List.length b8_ + List.length l3) * 24 ≤ roomMax))
  (let l4 : List (List UInt8 × Int) := (b8_ ++ l3);
  let l5 : List Int := ([(0 : Int), (7 : Int), (100 : Int)] : List Int);
  c_made_Dice_One l5 mrOne (fun (rOne2 : Int) (mrOne2 : (List Int × Int)) =>
  let l6 : List Int := ([rOne2] : List Int);
  cond (decide ((List.length ahead + List.length l6) * 8 ≤ roomMax))
  (let l7 : List Int := (ahead ++ l6);
  let i_2 : Int := (IntKind.i64.wrap (i_ - (1 : Int)));
  rec n i_2 mrOne2.1 mrOne2.2 l7 b4_ b5_ b6_ b7_ l4 b9_ b10_ b11_)
  none))
  none))
  none)
  (k1 n d d2 ahead b4_ b5_ b6_ b7_ b8_ b9_ b10_ b11_)
def zq4z {β : Type} : Nat → zq4e β → Int → Int → (List Int) → Int → (List Int) → (List (List UInt8 × Int)) → (List (Int × (Int × (Int × Int)))) → (List zq0) → (List (Int × (Int × Int))) → (List (List UInt8 × Int)) → (List (Int × (Int × (Int × Int)))) → (List zq0) → (List (Int × (Int × Int))) → Option β
  | 0 => fun _ _ _ _ _ _ _ _ _ _ _ _ _ _ => none
  | i + 1 => fun k1 n i_ d d2 ahead b4_ b5_ b6_ b7_ b8_ b9_ b10_ b11_ => zq4y c_made_Dice_One (zq4z i k1) k1 n i_ d d2 ahead b4_ b5_ b6_ b7_ b8_ b9_ b10_ b11_
theorem zq50 (hΓ : ΓOk Try.prog (made_Dice_Record_X c_made_Dice_Next c_made_Dice_One).Γ) (i : Nat) : PieceOk Try.prog 177 1 made_Dice_Record_p1_code zq4g zq4h (made_Dice_Record_p1_G (zq4z c_made_Dice_One i)) := by
  rw [show made_Dice_Record_p1_code = .loop (loopBody made_Dice_Record_p1_code) by kernel_rfl]
  exact piece_loop (X := (made_Dice_Record_X c_made_Dice_Next c_made_Dice_One)) (p := 1) (Λ := pick1 []) (G := fun i => @fun β d ks => made_Dice_Record_p1_G (zq4z c_made_Dice_One i) d ks) mixed tab_ok hΓ rfl (by kernel_rfl) CutsOk_nil (fun _ _ => rfl) (fun i => @fun β d ks r h => Eq.trans (b := made_Dice_Record_p1_G (zq4z c_made_Dice_One (i + 1)) d ks) (by kernel_rfl) h) i
def zq51 {β : Type} (rec : Int → Int → (List Int) → Int → (List Int) → (List (List UInt8 × Int)) → (List (Int × (Int × (Int × Int)))) → (List zq0) → (List (Int × (Int × Int))) → (List (List UInt8 × Int)) → (List (Int × (Int × (Int × Int)))) → (List zq0) → (List (Int × (Int × Int))) → Option β) (k1 : zq4i β) (n : Int) (i_ : Int) (d : List Int) (d2 : Int) (ahead : List Int) (b4_ : List (List UInt8 × Int)) (b5_ : List (Int × (Int × (Int × Int)))) (b6_ : List zq0) (b7_ : List (Int × (Int × Int))) (b8_ : List (List UInt8 × Int)) (b9_ : List (Int × (Int × (Int × Int)))) (b10_ : List zq0) (b11_ : List (Int × (Int × Int))) : Option β :=
  cond (decide ((0 : Int) < i_))
  (c_made_Dice_Next (List.length b8_ : Int) (d, d2) (fun (rNext : Int) (mrNext : (List Int × Int)) =>
  c_made_Dice_Next (400 : Int) mrNext (fun (rNext2 : Int) (mrNext2 : (List Int × Int)) =>
  let t : Int := (IntKind.i64.wrap ((864000 : Int) + rNext2));
  cond (decide (0 ≤ rNext) && decide (rNext < (List.length ahead : Int)))
  (let l : List Int := ([(0 : Int), (3 : Int), (20 : Int)] : List Int);
  c_made_Dice_One l mrNext2 (fun (rOne : Int) (mrOne : (List Int × Int)) =>
  let l2 : List Int := ([(0 : Int), (2 : Int), (15 : Int)] : List Int);
  c_made_Dice_One l2 mrOne (fun (rOne2 : Int) (mrOne2 : (List Int × Int)) =>
  let l3 : List (Int × (Int × (Int × Int))) := ([(rNext, ((IntKind.i64.wrap (t + (List.getD ahead (Int.toNat rNext) (0 : Int)))), ((IntKind.i64.wrap (t - rOne)), (IntKind.i64.wrap (t + rOne2)))))] : List (Int × (Int × (Int × Int))));
  cond (decide ((List.length b9_ + List.length l3) * 32 ≤ roomMax))
  (let l4 : List (Int × (Int × (Int × Int))) := (b9_ ++ l3);
  let i_2 : Int := (IntKind.i64.wrap (i_ - (1 : Int)));
  rec n i_2 mrOne2.1 mrOne2.2 ahead b4_ b5_ b6_ b7_ b8_ l4 b10_ b11_)
  none)))
  none)))
  (k1 n d d2 ahead b4_ b5_ b6_ b7_ b8_ b9_ b10_ b11_)
def zq52 {β : Type} : Nat → zq4i β → Int → Int → (List Int) → Int → (List Int) → (List (List UInt8 × Int)) → (List (Int × (Int × (Int × Int)))) → (List zq0) → (List (Int × (Int × Int))) → (List (List UInt8 × Int)) → (List (Int × (Int × (Int × Int)))) → (List zq0) → (List (Int × (Int × Int))) → Option β
  | 0 => fun _ _ _ _ _ _ _ _ _ _ _ _ _ _ => none
  | i + 1 => fun k1 n i_ d d2 ahead b4_ b5_ b6_ b7_ b8_ b9_ b10_ b11_ => zq51 c_made_Dice_Next c_made_Dice_One (zq52 i k1) k1 n i_ d d2 ahead b4_ b5_ b6_ b7_ b8_ b9_ b10_ b11_
theorem zq53 (hΓ : ΓOk Try.prog (made_Dice_Record_X c_made_Dice_Next c_made_Dice_One).Γ) (i : Nat) : PieceOk Try.prog 177 1 made_Dice_Record_p2_code zq4k zq4l (made_Dice_Record_p2_G (zq52 c_made_Dice_Next c_made_Dice_One i)) := by
  rw [show made_Dice_Record_p2_code = .loop (loopBody made_Dice_Record_p2_code) by kernel_rfl]
  exact piece_loop (X := (made_Dice_Record_X c_made_Dice_Next c_made_Dice_One)) (p := 1) (Λ := pick1 []) (G := fun i => @fun β d ks => made_Dice_Record_p2_G (zq52 c_made_Dice_Next c_made_Dice_One i) d ks) mixed tab_ok hΓ rfl (by kernel_rfl) CutsOk_nil (fun _ _ => rfl) (fun i => @fun β d ks r h => Eq.trans (b := made_Dice_Record_p2_G (zq52 c_made_Dice_Next c_made_Dice_One (i + 1)) d ks) (by kernel_rfl) h) i
def zq54 {β : Type} (rec : Int → (List Int) → Int → (List Int) → (List Int) → (List (List UInt8 × Int)) → (List (Int × (Int × (Int × Int)))) → (List zq0) → (List (Int × (Int × Int))) → (List (List UInt8 × Int)) → (List (Int × (Int × (Int × Int)))) → (List zq0) → (List (Int × (Int × Int))) → Option β) (k1 : zq4m β) (i_ : Int) (d : List Int) (d2 : Int) (ahead : List Int) (times : List Int) (b5_ : List (List UInt8 × Int)) (b6_ : List (Int × (Int × (Int × Int)))) (b7_ : List zq0) (b8_ : List (Int × (Int × Int))) (b9_ : List (List UInt8 × Int)) (b10_ : List (Int × (Int × (Int × Int)))) (b11_ : List zq0) (b12_ : List (Int × (Int × Int))) : Option β :=
  cond (decide ((0 : Int) < i_))
  (c_made_Dice_Next (List.length b9_ : Int) (d, d2) (fun (rNext : Int) (mrNext : (List Int × Int)) =>
  c_made_Dice_Next (300 : Int) mrNext (fun (rNext2 : Int) (mrNext2 : (List Int × Int)) =>
  let t : Int := (IntKind.i64.wrap ((864000 : Int) + rNext2));
  cond (decide (0 ≤ rNext) && decide (rNext < (List.length ahead : Int)))
  (let l : List (List UInt8) := ([([117, 112] : List UInt8), ([100, 111, 119, 110] : List UInt8), ([115, 108, 111, 119] : List UInt8)] : List (List UInt8));
  c_made_Dice_Next (3 : Int) mrNext2 (fun (rNext3 : Int) (mrNext3 : (List Int × Int)) =>
  cond (decide (0 ≤ rNext3) && decide (rNext3 < (List.length l : Int)))
  (let l2 : List zq0 := ([(rNext, ((IntKind.i64.wrap (t + (List.getD ahead (Int.toNat rNext) (0 : Int)))), (List.getD l (Int.toNat rNext3) ([] : List UInt8))))] : List zq0);
  cond (decide ((List.length b11_ + List.length l2) * 32 ≤ roomMax))
  (let l3 : List zq0 := (b11_ ++ l2);
  let l4 : List Int := ([t] : List Int);
  cond (decide ((List.length times + List.length l4) * 8 ≤ roomMax))
  (let l5 : List Int := (times ++ l4);
  let i_2 : Int := (IntKind.i64.wrap (i_ - (1 : Int)));
  rec i_2 mrNext3.1 mrNext3.2 ahead l5 b5_ b6_ b7_ b8_ b9_ b10_ l3 b12_)
  none)
  none)
  none))
  none)))
  (k1 d d2 times b5_ b6_ b7_ b8_ b9_ b10_ b11_ b12_)
def zq55 {β : Type} : Nat → zq4m β → Int → (List Int) → Int → (List Int) → (List Int) → (List (List UInt8 × Int)) → (List (Int × (Int × (Int × Int)))) → (List zq0) → (List (Int × (Int × Int))) → (List (List UInt8 × Int)) → (List (Int × (Int × (Int × Int)))) → (List zq0) → (List (Int × (Int × Int))) → Option β
  | 0 => fun _ _ _ _ _ _ _ _ _ _ _ _ _ _ => none
  | i + 1 => fun k1 i_ d d2 ahead times b5_ b6_ b7_ b8_ b9_ b10_ b11_ b12_ => zq54 c_made_Dice_Next (zq55 i k1) k1 i_ d d2 ahead times b5_ b6_ b7_ b8_ b9_ b10_ b11_ b12_
theorem zq56 (hΓ : ΓOk Try.prog (made_Dice_Record_X c_made_Dice_Next c_made_Dice_One).Γ) (i : Nat) : PieceOk Try.prog 177 1 made_Dice_Record_p3_code zq4o zq4p (made_Dice_Record_p3_G (zq55 c_made_Dice_Next i)) := by
  rw [show made_Dice_Record_p3_code = .loop (loopBody made_Dice_Record_p3_code) by kernel_rfl]
  exact piece_loop (X := (made_Dice_Record_X c_made_Dice_Next c_made_Dice_One)) (p := 1) (Λ := pick1 []) (G := fun i => @fun β d ks => made_Dice_Record_p3_G (zq55 c_made_Dice_Next i) d ks) mixed tab_ok hΓ rfl (by kernel_rfl) CutsOk_nil (fun _ _ => rfl) (fun i => @fun β d ks r h => Eq.trans (b := made_Dice_Record_p3_G (zq55 c_made_Dice_Next (i + 1)) d ks) (by kernel_rfl) h) i
def zq57 {β : Type} (k1 : zq4q β) (i_ : Int) (a : Int) (b : Int) (t154 : Bool) (d : List Int) (d2 : Int) (times : List Int) (b4_ : List (List UInt8 × Int)) (b5_ : List (Int × (Int × (Int × Int)))) (b6_ : List zq0) (b7_ : List (Int × (Int × Int))) (b8_ : List (List UInt8 × Int)) (b9_ : List (Int × (Int × (Int × Int)))) (b10_ : List zq0) (b11_ : List (Int × (Int × Int))) : Option β :=
  cond t154
  (cond (decide (0 ≤ b) && decide (b < (List.length times : Int)))
  (cond (decide (0 ≤ a) && decide (a < (List.length times : Int)))
  (c_made_Dice_Next (IntKind.i64.wrap ((IntKind.i64.wrap ((List.getD times (Int.toNat b) (0 : Int)) - (List.getD times (Int.toNat a) (0 : Int)))) + (1 : Int))) (d, d2) (fun (rNext : Int) (mrNext : (List Int × Int)) =>
  let l : List (Int × (Int × Int)) := ([(a, (b, rNext))] : List (Int × (Int × Int)));
  cond (decide ((List.length b11_ + List.length l) * 24 ≤ roomMax))
  (let l2 : List (Int × (Int × Int)) := (b11_ ++ l);
  k1 i_ mrNext.1 mrNext.2 times b4_ b5_ b6_ b7_ b8_ b9_ b10_ l2)
  none))
  none)
  none)
  (k1 i_ d d2 times b4_ b5_ b6_ b7_ b8_ b9_ b10_ b11_)
def zq58 {β : Type} (k1 : zq4q β) (i_ : Int) (a : Int) (b : Int) (t154 : Bool) (d : List Int) (d2 : Int) (times : List Int) (b4_ : List (List UInt8 × Int)) (b5_ : List (Int × (Int × (Int × Int)))) (b6_ : List zq0) (b7_ : List (Int × (Int × Int))) (b8_ : List (List UInt8 × Int)) (b9_ : List (Int × (Int × (Int × Int)))) (b10_ : List zq0) (b11_ : List (Int × (Int × Int))) : Option β := zq57 c_made_Dice_Next k1 i_ a b t154 d d2 times b4_ b5_ b6_ b7_ b8_ b9_ b10_ b11_
theorem zq59 (hΓ : ΓOk Try.prog (made_Dice_Record_X c_made_Dice_Next c_made_Dice_One).Γ) : PieceOk Try.prog 177 1 made_Dice_Record_p4_code zq4s zq4t (made_Dice_Record_p4_G (zq58 c_made_Dice_Next)) :=
  piece_exec (X := (made_Dice_Record_X c_made_Dice_Next c_made_Dice_One)) (p := 51) (Λ := pick1 []) mixed tab_ok hΓ (by kernel_rfl) CutsOk_nil (fun d ks r h => Eq.trans (b := made_Dice_Record_p4_G (zq58 c_made_Dice_Next) d ks) (by kernel_rfl) h)
def zq5a (p4 : zq4r) {β : Type} (rec : Int → (List Int) → Int → (List Int) → (List (List UInt8 × Int)) → (List (Int × (Int × (Int × Int)))) → (List zq0) → (List (Int × (Int × Int))) → (List (List UInt8 × Int)) → (List (Int × (Int × (Int × Int)))) → (List zq0) → (List (Int × (Int × Int))) → Option β) (k1 : zq4u β) (i_ : Int) (d : List Int) (d2 : Int) (times : List Int) (b4_ : List (List UInt8 × Int)) (b5_ : List (Int × (Int × (Int × Int)))) (b6_ : List zq0) (b7_ : List (Int × (Int × Int))) (b8_ : List (List UInt8 × Int)) (b9_ : List (Int × (Int × (Int × Int)))) (b10_ : List zq0) (b11_ : List (Int × (Int × Int))) : Option β :=
  cond (decide ((0 : Int) < i_))
  (cond (decide ((1 : Int) < (List.length times : Int)))
  (c_made_Dice_Next (List.length times : Int) (d, d2) (fun (rNext : Int) (mrNext : (List Int × Int)) =>
  c_made_Dice_Next (List.length times : Int) mrNext (fun (rNext2 : Int) (mrNext2 : (List Int × Int)) =>
  cond (!decide (rNext = rNext2))
  (cond (decide (0 ≤ rNext) && decide (rNext < (List.length times : Int)))
  (cond (decide (0 ≤ rNext2) && decide (rNext2 < (List.length times : Int)))
  (p4 (fun (i_2 : Int) (d3 : List Int) (d4 : Int) (times2 : List Int) (b4_2 : List (List UInt8 × Int)) (b5_2 : List (Int × (Int × (Int × Int)))) (b6_2 : List zq0) (b7_2 : List (Int × (Int × Int))) (b8_2 : List (List UInt8 × Int)) (b9_2 : List (Int × (Int × (Int × Int)))) (b10_2 : List zq0) (b11_2 : List (Int × (Int × Int))) =>
  let i_3 : Int := (IntKind.i64.wrap (i_2 - (1 : Int)));
  rec i_3 d3 d4 times2 b4_2 b5_2 b6_2 b7_2 b8_2 b9_2 b10_2 b11_2) i_ rNext rNext2 (decide ((List.getD times (Int.toNat rNext) (0 : Int)) ≤ (List.getD times (Int.toNat rNext2) (0 : Int)))) mrNext2.1 mrNext2.2 times b4_ b5_ b6_ b7_ b8_ b9_ b10_ b11_)
  none)
  none)
  (p4 (fun (i_2 : Int) (d3 : List Int) (d4 : Int) (times2 : List Int) (b4_2 : List (List UInt8 × Int)) (b5_2 : List (Int × (Int × (Int × Int)))) (b6_2 : List zq0) (b7_2 : List (Int × (Int × Int))) (b8_2 : List (List UInt8 × Int)) (b9_2 : List (Int × (Int × (Int × Int)))) (b10_2 : List zq0) (b11_2 : List (Int × (Int × Int))) =>
  let i_3 : Int := (IntKind.i64.wrap (i_2 - (1 : Int)));
  rec i_3 d3 d4 times2 b4_2 b5_2 b6_2 b7_2 b8_2 b9_2 b10_2 b11_2) i_ rNext rNext2 false mrNext2.1 mrNext2.2 times b4_ b5_ b6_ b7_ b8_ b9_ b10_ b11_))))
  (k1 d d2 times b4_ b5_ b6_ b7_ b8_ b9_ b10_ b11_))
  (k1 d d2 times b4_ b5_ b6_ b7_ b8_ b9_ b10_ b11_)
def zq5b (p4 : zq4r) {β : Type} : Nat → zq4u β → Int → (List Int) → Int → (List Int) → (List (List UInt8 × Int)) → (List (Int × (Int × (Int × Int)))) → (List zq0) → (List (Int × (Int × Int))) → (List (List UInt8 × Int)) → (List (Int × (Int × (Int × Int)))) → (List zq0) → (List (Int × (Int × Int))) → Option β
  | 0 => fun _ _ _ _ _ _ _ _ _ _ _ _ _ => none
  | i + 1 => fun k1 i_ d d2 times b4_ b5_ b6_ b7_ b8_ b9_ b10_ b11_ => zq5a c_made_Dice_Next p4 (zq5b p4 i k1) k1 i_ d d2 times b4_ b5_ b6_ b7_ b8_ b9_ b10_ b11_
theorem zq5c (hΓ : ΓOk Try.prog (made_Dice_Record_X c_made_Dice_Next c_made_Dice_One).Γ) (p4 : zq4r) (hp4 : PieceOk Try.prog 177 1 made_Dice_Record_p4_code zq4s zq4t (made_Dice_Record_p4_G p4)) (i : Nat) : PieceOk Try.prog 177 1 made_Dice_Record_p5_code zq4w zq4x (made_Dice_Record_p5_G (zq5b c_made_Dice_Next p4 i)) := by
  rw [show made_Dice_Record_p5_code = .loop (loopBody made_Dice_Record_p5_code) by kernel_rfl]
  exact piece_loop (X := (made_Dice_Record_X c_made_Dice_Next c_made_Dice_One)) (p := 1) (Λ := pick1 [(51, pieceCut zq4s zq4t (made_Dice_Record_p4_G p4))]) (G := fun i => @fun β d ks => made_Dice_Record_p5_G (zq5b c_made_Dice_Next p4 i) d ks) mixed tab_ok hΓ rfl (by kernel_rfl) (CutsOk_cons (q := 51) (c' := made_Dice_Record_p4_code) (by kernel_rfl) rfl hp4 CutsOk_nil) (fun _ _ => rfl) (fun i => @fun β d ks r h => Eq.trans (b := made_Dice_Record_p5_G (zq5b c_made_Dice_Next p4 (i + 1)) d ks) (by kernel_rfl) h) i
def zq5d (p1 : zq4f) (p2 : zq4j) (p3 : zq4n) (p5 : zq4v) {β : Type} (n : Int) (d : (List Int × Int)) (k : (zq2 → (List Int × Int) → (List Int) → Option β)) : Option β :=
  c_made_Dice_Next (3 : Int) d (fun (rNext : Int) (mrNext : (List Int × Int)) =>
  let i_ : Int := (IntKind.i64.wrap ((1 : Int) + rNext));
  p1 (fun (n2 : Int) (d2 : List Int) (d3 : Int) (ahead : List Int) (b4_ : List (List UInt8 × Int)) (b5_ : List (Int × (Int × (Int × Int)))) (b6_ : List zq0) (b7_ : List (Int × (Int × Int))) (b8_ : List (List UInt8 × Int)) (b9_ : List (Int × (Int × (Int × Int)))) (b10_ : List zq0) (b11_ : List (Int × (Int × Int))) =>
  c_made_Dice_Next (5 : Int) (d2, d3) (fun (rNext2 : Int) (mrNext2 : (List Int × Int)) =>
  p2 (fun (n3 : Int) (d4 : List Int) (d5 : Int) (ahead2 : List Int) (b4_2 : List (List UInt8 × Int)) (b5_2 : List (Int × (Int × (Int × Int)))) (b6_2 : List zq0) (b7_2 : List (Int × (Int × Int))) (b8_2 : List (List UInt8 × Int)) (b9_2 : List (Int × (Int × (Int × Int)))) (b10_2 : List zq0) (b11_2 : List (Int × (Int × Int))) =>
  c_made_Dice_Next (IntKind.i64.wrap (n3 + (1 : Int))) (d4, d5) (fun (rNext3 : Int) (mrNext3 : (List Int × Int)) =>
  p3 (fun (d6 : List Int) (d7 : Int) (times : List Int) (b4_3 : List (List UInt8 × Int)) (b5_3 : List (Int × (Int × (Int × Int)))) (b6_3 : List zq0) (b7_3 : List (Int × (Int × Int))) (b8_3 : List (List UInt8 × Int)) (b9_3 : List (Int × (Int × (Int × Int)))) (b10_3 : List zq0) (b11_3 : List (Int × (Int × Int))) =>
  c_made_Dice_Next (4 : Int) (d6, d7) (fun (rNext4 : Int) (mrNext4 : (List Int × Int)) =>
  p5 (fun (b0_ : List Int) (b0_2 : Int) (times2 : List Int) (b4_4 : List (List UInt8 × Int)) (b5_4 : List (Int × (Int × (Int × Int)))) (b6_4 : List zq0) (b7_4 : List (Int × (Int × Int))) (b8_4 : List (List UInt8 × Int)) (b9_4 : List (Int × (Int × (Int × Int)))) (b10_4 : List zq0) (b11_4 : List (Int × (Int × Int))) =>
  k (b8_4, (b9_4, (b10_4, b11_4))) (b0_, b0_2) times2) rNext4 mrNext4.1 mrNext4.2 times b4_3 b5_3 b6_3 b7_3 b8_3 b9_3 b10_3 b11_3)) rNext3 mrNext3.1 mrNext3.2 ahead2 ([] : List Int) b4_2 b5_2 b6_2 b7_2 b8_2 b9_2 b10_2 b11_2)) n2 rNext2 mrNext2.1 mrNext2.2 ahead b4_ b5_ b6_ b7_ b8_ b9_ b10_ b11_)) n i_ mrNext.1 mrNext.2 ([] : List Int) ([] : List (List UInt8 × Int)) ([] : List (Int × (Int × (Int × Int)))) ([] : List zq0) ([] : List (Int × (Int × Int))) ([] : List (List UInt8 × Int)) ([] : List (Int × (Int × (Int × Int)))) ([] : List zq0) ([] : List (Int × (Int × Int))))
theorem zq5e (hΓ : ΓOk Try.prog (made_Dice_Record_X c_made_Dice_Next c_made_Dice_One).Γ) (p1 : zq4f) (p2 : zq4j) (p3 : zq4n) (p5 : zq4v) (hp1 : PieceOk Try.prog 177 1 made_Dice_Record_p1_code zq4g zq4h (made_Dice_Record_p1_G p1)) (hp2 : PieceOk Try.prog 177 1 made_Dice_Record_p2_code zq4k zq4l (made_Dice_Record_p2_G p2)) (hp3 : PieceOk Try.prog 177 1 made_Dice_Record_p3_code zq4o zq4p (made_Dice_Record_p3_G p3)) (hp5 : PieceOk Try.prog 177 1 made_Dice_Record_p5_code zq4w zq4x (made_Dice_Record_p5_G p5)) : SpecOk Try.prog 7 (zq4d (zq5d c_made_Dice_Next p1 p2 p3 p5)) :=
  spec_exec (X := (made_Dice_Record_X c_made_Dice_Next c_made_Dice_One)) (Λ := pick1 [(122, pieceCut zq4g zq4h (made_Dice_Record_p1_G p1)), (250, pieceCut zq4k zq4l (made_Dice_Record_p2_G p2)), (1018, pieceCut zq4o zq4p (made_Dice_Record_p3_G p3)), (2042, pieceCut zq4w zq4x (made_Dice_Record_p5_G p5))]) (rs := [.cell 4 33, .tmp 5]) (c := bodyOf Try.f7) mixed tab_ok hΓ Try.func7 (by kernel_rfl) (by kernel_rfl) (by kernel_rfl) (by kernel_rfl) (CutsOk_cons (q := 122) (c' := made_Dice_Record_p1_code) (by kernel_rfl) rfl hp1 (CutsOk_cons (q := 250) (c' := made_Dice_Record_p2_code) (by kernel_rfl) rfl hp2 (CutsOk_cons (q := 1018) (c' := made_Dice_Record_p3_code) (by kernel_rfl) rfl hp3 (CutsOk_cons (q := 2042) (c' := made_Dice_Record_p5_code) (by kernel_rfl) rfl hp5 CutsOk_nil)))) (fun x k r h => Eq.trans (b := (zq4d (zq5d c_made_Dice_Next p1 p2 p3 p5)).run x k) (by kernel_rfl) h)
end
theorem zq5fΓ : ΓOk Try.prog (pick1 [(12, .spec (zqq zqu)), (13, .spec (zqx zq11))]) := (ΓOk_cons zqv (ΓOk_cons zq12 ΓOk_nil))
def zq5g (m : Nat) : zq4f := zq4z zq11 m
theorem zq5h {β : Type} (i : Nat) (k1 n i_ d d2 ahead b4_ b5_ b6_ b7_ b8_ b9_ b10_ b11_) : (zq5g (i + 1) k1 n i_ d d2 ahead b4_ b5_ b6_ b7_ b8_ b9_ b10_ b11_ : Option β) = zq4y zq11 (zq5g i k1) k1 n i_ d d2 ahead b4_ b5_ b6_ b7_ b8_ b9_ b10_ b11_ := rfl
def zq5i : zq4f := zq5g fuel
theorem zq5j : PieceOk Try.prog 177 1 made_Dice_Record_p1_code zq4g zq4h (made_Dice_Record_p1_G zq5i) := zq50 zqu zq11 zq5fΓ fuel
def zq5k (m : Nat) : zq4j := zq52 zqu zq11 m
theorem zq5l {β : Type} (i : Nat) (k1 n i_ d d2 ahead b4_ b5_ b6_ b7_ b8_ b9_ b10_ b11_) : (zq5k (i + 1) k1 n i_ d d2 ahead b4_ b5_ b6_ b7_ b8_ b9_ b10_ b11_ : Option β) = zq51 zqu zq11 (zq5k i k1) k1 n i_ d d2 ahead b4_ b5_ b6_ b7_ b8_ b9_ b10_ b11_ := rfl
def zq5m : zq4j := zq5k fuel
theorem zq5n : PieceOk Try.prog 177 1 made_Dice_Record_p2_code zq4k zq4l (made_Dice_Record_p2_G zq5m) := zq53 zqu zq11 zq5fΓ fuel
def zq5o (m : Nat) : zq4n := zq55 zqu m
theorem zq5p {β : Type} (i : Nat) (k1 i_ d d2 ahead times b5_ b6_ b7_ b8_ b9_ b10_ b11_ b12_) : (zq5o (i + 1) k1 i_ d d2 ahead times b5_ b6_ b7_ b8_ b9_ b10_ b11_ b12_ : Option β) = zq54 zqu (zq5o i k1) k1 i_ d d2 ahead times b5_ b6_ b7_ b8_ b9_ b10_ b11_ b12_ := rfl
def zq5q : zq4n := zq5o fuel
theorem zq5r : PieceOk Try.prog 177 1 made_Dice_Record_p3_code zq4o zq4p (made_Dice_Record_p3_G zq5q) := zq56 zqu zq11 zq5fΓ fuel
def zq5s : zq4r := zq58 zqu
theorem zq5t : PieceOk Try.prog 177 1 made_Dice_Record_p4_code zq4s zq4t (made_Dice_Record_p4_G zq5s) := zq59 zqu zq11 zq5fΓ
def zq5u (m : Nat) : zq4v := zq5b zqu zq5s m
theorem zq5v {β : Type} (i : Nat) (k1 i_ d d2 times b4_ b5_ b6_ b7_ b8_ b9_ b10_ b11_) : (zq5u (i + 1) k1 i_ d d2 times b4_ b5_ b6_ b7_ b8_ b9_ b10_ b11_ : Option β) = zq5a zqu zq5s (zq5u i k1) k1 i_ d d2 times b4_ b5_ b6_ b7_ b8_ b9_ b10_ b11_ := rfl
def zq5w : zq4v := zq5u fuel
theorem zq5x : PieceOk Try.prog 177 1 made_Dice_Record_p5_code zq4w zq4x (made_Dice_Record_p5_G zq5w) := zq5c zqu zq11 zq5fΓ zq5s zq5t fuel
def zq5y : zq4c := zq5d zqu zq5i zq5m zq5q zq5w
theorem zq5z : SpecOk Try.prog 7 (zq4d zq5y) := zq5e zqu zq11 zq5fΓ zq5i zq5m zq5q zq5w zq5j zq5n zq5r zq5x

/-- pagewatch/clock.compared -/
abbrev zq60 := {β : Type} → (Int × (Int × (Int × Int))) → (Bool → Option β) → Option β
def zq61 (c : zq60) : Spec :=
  ⟨[(true, [.data (.prod (.int .i64) (.prod (.int .i64) (.prod (.int .i64) (.int .i64))))])], [], [(false, [.data .bool])], [], fun x k => c x.1.1.1 (fun r0 => k (((r0, ()), ()), ()))⟩
section
variable (c_clock_instant : zq36)
@[reducible] def clock_compared_X : Ctx := ⟨look tab, pick1 [(29, .spec (zq37 c_clock_instant))], false⟩
def zq62 {β : Type} (s : (Int × (Int × (Int × Int)))) (k : (Bool → Option β)) : Option β :=
  c_clock_instant s.2.1 (fun (rinstant : Bool) =>
  cond rinstant
  (c_clock_instant s.2.2.1 (fun (rinstant2 : Bool) =>
  cond rinstant2
  (c_clock_instant s.2.2.2 (fun (rinstant3 : Bool) =>
  cond rinstant3
  (let t : Bool := (decide (s.2.2.1 ≤ s.2.2.2));
  k t)
  (k false)))
  (k false)))
  (k false))
theorem zq63 (hΓ : ΓOk Try.prog (clock_compared_X c_clock_instant).Γ) : SpecOk Try.prog 28 (zq61 (zq62 c_clock_instant)) :=
  spec_exec (X := (clock_compared_X c_clock_instant)) (Λ := pick1 []) (rs := [.tmp 2]) (c := bodyOf Try.f28) mixed tab_ok hΓ Try.func28 (by kernel_rfl) (by kernel_rfl) (by kernel_rfl) (by kernel_rfl) CutsOk_nil (fun x k r h => Eq.trans (b := (zq61 (zq62 c_clock_instant)).run x k) (by kernel_rfl) h)
end
theorem zq64Γ : ΓOk Try.prog (pick1 [(29, .spec (zq37 zq3b))]) := (ΓOk_cons zq3c ΓOk_nil)
def zq65 : zq60 := zq62 zq3b
theorem zq66 : SpecOk Try.prog 28 (zq61 zq65) := zq63 zq3b zq64Γ

/-- pagewatch/clock.Elapsed -/
abbrev zq67 := {β : Type} → Int → Int → (Int → Int → Option β) → Option β
def zq68 (c : zq67) : Spec :=
  ⟨[(false, [.data (.int .i64)]), (false, [.data (.int .i64)])], [], [(false, [.data (.int .i64)]), (false, [.data (.int .i64)])], [], fun x k => c x.1.1.1 x.1.2.1.1 (fun r0 r1 => k (((r0, ()), (r1, ()), ()), ()))⟩
section
variable (c_clock_Elapsed_f1 : zq45) (c_clock_in : zq2z) (c_clock_instant : zq36)
@[reducible] def clock_Elapsed_X : Ctx := ⟨look tab, pick1 [(37, .spec (zq46 c_clock_Elapsed_f1)), (27, .spec (zq30 c_clock_in)), (29, .spec (zq37 c_clock_instant))], false⟩
def zq69 {β : Type} (drift : Int) (d : Int) (k : (Int → Int → Option β)) : Option β :=
  c_clock_in drift (0 : Int) (500000 : Int) (fun (rin : Bool) =>
  cond (!rin)
  (k (0 : Int) (0 : Int))
  (c_clock_instant d (fun (rinstant : Bool) =>
  cond (!rinstant)
  (k (0 : Int) (0 : Int))
  (cond (!decide ((IntKind.i64.wrap ((1000000 : Int) + drift)) = 0))
  (c_clock_Elapsed_f1 (IntKind.i64.wrap (d * (1000000 : Int))) (IntKind.i64.wrap ((1000000 : Int) - drift)) (fun (rElapsed1 : Int) =>
  let low : Int := (IntKind.i64.wrap (Int.tdiv (IntKind.i64.wrap (d * (1000000 : Int))) (IntKind.i64.wrap ((1000000 : Int) + drift))));
  k low rElapsed1))
  none))))
theorem zq6a (hΓ : ΓOk Try.prog (clock_Elapsed_X c_clock_Elapsed_f1 c_clock_in c_clock_instant).Γ) : SpecOk Try.prog 33 (zq68 (zq69 c_clock_Elapsed_f1 c_clock_in c_clock_instant)) :=
  spec_exec (X := (clock_Elapsed_X c_clock_Elapsed_f1 c_clock_in c_clock_instant)) (Λ := pick1 []) (rs := [.tmp 4, .tmp 5]) (c := bodyOf Try.f33) mixed tab_ok hΓ Try.func33 (by kernel_rfl) (by kernel_rfl) (by kernel_rfl) (by kernel_rfl) CutsOk_nil (fun x k r h => Eq.trans (b := (zq68 (zq69 c_clock_Elapsed_f1 c_clock_in c_clock_instant)).run x k) (by kernel_rfl) h)
end
theorem zq6bΓ : ΓOk Try.prog (pick1 [(37, .spec (zq46 zq4a)), (27, .spec (zq30 zq34)), (29, .spec (zq37 zq3b))]) := (ΓOk_cons zq4b (ΓOk_cons zq35 (ΓOk_cons zq3c ΓOk_nil)))
def zq6c : zq67 := zq69 zq4a zq34 zq3b
theorem zq6d : SpecOk Try.prog 33 (zq68 zq6c) := zq6a zq4a zq34 zq3b zq6bΓ

/-- pagewatch/clock.Valid -/
abbrev zq6e := {β : Type} → zq2 → (Bool → Option β) → Option β
def zq6f (c : zq6e) : Spec :=
  ⟨[(true, [.data zq3])], [], [(false, [.data .bool])], [], fun x k => c x.1.1.1 (fun r0 => k (((r0, ()), ()), ()))⟩
noncomputable def clock_Valid_p1_code : Code := codeAt 58 (bodyOf Try.f22)
noncomputable def clock_Valid_p2_code : Code := codeAt 122 (bodyOf Try.f22)
noncomputable def clock_Valid_p3_code : Code := codeAt 250 (bodyOf Try.f22)
noncomputable def clock_Valid_p4_code : Code := codeAt 506 (bodyOf Try.f22)
abbrev zq6g (β : Type) := Bool → Option β
abbrev zq6h (β : Type) := (List (List UInt8 × Int)) → (List (Int × (Int × (Int × Int)))) → (List zq0) → (List (Int × (Int × Int))) → Option β
abbrev zq6i := {β : Type} → zq6g β → zq6h β → (List (List UInt8 × Int)) → Int → Int → (List (List UInt8 × Int)) → (List (Int × (Int × (Int × Int)))) → (List zq0) → (List (Int × (Int × Int))) → Option β
def zq6j : View := ⟨0, [1, 34, 35, 36], [(false, [.ptr 0 0]), (false, [.data (.slice (.prod .str (.int .i64)))]), (false, [.data (.int .i64)]), (false, [.data (.int .i64)])], [.cells 33 [.data (.slice (.prod .str (.int .i64))), .data (.slice (.prod (.int .i64) (.prod (.int .i64) (.prod (.int .i64) (.int .i64))))), .data (.slice zq1), .data (.slice (.prod (.int .i64) (.prod (.int .i64) (.int .i64))))]]⟩
def zq6k : List (AExit × View) := [(.ret, ⟨0, [2], [(false, [.data .bool])], []⟩), (.exit 0, ⟨0, [1], [(false, [.ptr 0 0])], [.cells 33 [.data (.slice (.prod .str (.int .i64))), .data (.slice (.prod (.int .i64) (.prod (.int .i64) (.prod (.int .i64) (.int .i64))))), .data (.slice zq1), .data (.slice (.prod (.int .i64) (.prod (.int .i64) (.int .i64))))]]⟩)]
@[reducible] def clock_Valid_p1_G (p : zq6i) {β : Type} (d : zq6j.den) (ks : Outs.K β zq6k) : Option β :=
  p (fun a0 => ks.1 (((a0, ()), ()), ())) (fun a0 a1 a2 a3 => ks.2.1 (((), ()), ((a0, a1, a2, a3, ()), ()))) d.1.2.1.1 d.1.2.2.1.1 d.1.2.2.2.1.1 d.2.1.1 d.2.1.2.1 d.2.1.2.2.1 d.2.1.2.2.2.1
abbrev zq6l (β : Type) := Bool → Option β
abbrev zq6m (β : Type) := (List (List UInt8 × Int)) → (List (Int × (Int × (Int × Int)))) → (List zq0) → (List (Int × (Int × Int))) → Option β
abbrev zq6n := {β : Type} → zq6l β → zq6m β → (List (Int × (Int × (Int × Int)))) → Int → Int → (List (List UInt8 × Int)) → (List (Int × (Int × (Int × Int)))) → (List zq0) → (List (Int × (Int × Int))) → Option β
def zq6o : View := ⟨0, [1, 46, 47, 48], [(false, [.ptr 0 0]), (false, [.data (.slice (.prod (.int .i64) (.prod (.int .i64) (.prod (.int .i64) (.int .i64)))))]), (false, [.data (.int .i64)]), (false, [.data (.int .i64)])], [.cells 33 [.data (.slice (.prod .str (.int .i64))), .data (.slice (.prod (.int .i64) (.prod (.int .i64) (.prod (.int .i64) (.int .i64))))), .data (.slice zq1), .data (.slice (.prod (.int .i64) (.prod (.int .i64) (.int .i64))))]]⟩
def zq6p : List (AExit × View) := [(.ret, ⟨0, [2], [(false, [.data .bool])], []⟩), (.exit 2, ⟨0, [1], [(false, [.ptr 0 0])], [.cells 33 [.data (.slice (.prod .str (.int .i64))), .data (.slice (.prod (.int .i64) (.prod (.int .i64) (.prod (.int .i64) (.int .i64))))), .data (.slice zq1), .data (.slice (.prod (.int .i64) (.prod (.int .i64) (.int .i64))))]]⟩)]
@[reducible] def clock_Valid_p2_G (p : zq6n) {β : Type} (d : zq6o.den) (ks : Outs.K β zq6p) : Option β :=
  p (fun a0 => ks.1 (((a0, ()), ()), ())) (fun a0 a1 a2 a3 => ks.2.1 (((), ()), ((a0, a1, a2, a3, ()), ()))) d.1.2.1.1 d.1.2.2.1.1 d.1.2.2.2.1.1 d.2.1.1 d.2.1.2.1 d.2.1.2.2.1 d.2.1.2.2.2.1
abbrev zq6q (β : Type) := Bool → Option β
abbrev zq6r (β : Type) := (List (List UInt8 × Int)) → (List (Int × (Int × (Int × Int)))) → (List zq0) → (List (Int × (Int × Int))) → Option β
abbrev zq6s := {β : Type} → zq6q β → zq6r β → (List zq0) → Int → Int → (List (List UInt8 × Int)) → (List (Int × (Int × (Int × Int)))) → (List zq0) → (List (Int × (Int × Int))) → Option β
def zq6t : View := ⟨0, [1, 67, 68, 69], [(false, [.ptr 0 0]), (false, [.data (.slice zq1)]), (false, [.data (.int .i64)]), (false, [.data (.int .i64)])], [.cells 33 [.data (.slice (.prod .str (.int .i64))), .data (.slice (.prod (.int .i64) (.prod (.int .i64) (.prod (.int .i64) (.int .i64))))), .data (.slice zq1), .data (.slice (.prod (.int .i64) (.prod (.int .i64) (.int .i64))))]]⟩
def zq6u : List (AExit × View) := [(.ret, ⟨0, [2], [(false, [.data .bool])], []⟩), (.exit 4, ⟨0, [1], [(false, [.ptr 0 0])], [.cells 33 [.data (.slice (.prod .str (.int .i64))), .data (.slice (.prod (.int .i64) (.prod (.int .i64) (.prod (.int .i64) (.int .i64))))), .data (.slice zq1), .data (.slice (.prod (.int .i64) (.prod (.int .i64) (.int .i64))))]]⟩)]
@[reducible] def clock_Valid_p3_G (p : zq6s) {β : Type} (d : zq6t.den) (ks : Outs.K β zq6u) : Option β :=
  p (fun a0 => ks.1 (((a0, ()), ()), ())) (fun a0 a1 a2 a3 => ks.2.1 (((), ()), ((a0, a1, a2, a3, ()), ()))) d.1.2.1.1 d.1.2.2.1.1 d.1.2.2.2.1.1 d.2.1.1 d.2.1.2.1 d.2.1.2.2.1 d.2.1.2.2.2.1
abbrev zq6v (β : Type) := Bool → Option β
abbrev zq6w (β : Type) := Unit → Option β
abbrev zq6x := {β : Type} → zq6v β → zq6w β → (List (Int × (Int × Int))) → Int → Int → (List (List UInt8 × Int)) → (List (Int × (Int × (Int × Int)))) → (List zq0) → (List (Int × (Int × Int))) → Option β
def zq6y : View := ⟨0, [1, 89, 90, 91], [(false, [.ptr 0 0]), (false, [.data (.slice (.prod (.int .i64) (.prod (.int .i64) (.int .i64))))]), (false, [.data (.int .i64)]), (false, [.data (.int .i64)])], [.cells 33 [.data (.slice (.prod .str (.int .i64))), .data (.slice (.prod (.int .i64) (.prod (.int .i64) (.prod (.int .i64) (.int .i64))))), .data (.slice zq1), .data (.slice (.prod (.int .i64) (.prod (.int .i64) (.int .i64))))]]⟩
def zq6z : List (AExit × View) := [(.ret, ⟨0, [2], [(false, [.data .bool])], []⟩), (.exit 6, ⟨0, [], [], []⟩)]
@[reducible] def clock_Valid_p4_G (p : zq6x) {β : Type} (d : zq6y.den) (ks : Outs.K β zq6z) : Option β :=
  p (fun a0 => ks.1 (((a0, ()), ()), ())) (fun _ => ks.2.1 ((), ())) d.1.2.1.1 d.1.2.2.1.1 d.1.2.2.2.1.1 d.2.1.1 d.2.1.2.1 d.2.1.2.2.1 d.2.1.2.2.2.1
section
variable (c_clock_compared : zq60) (c_clock_in : zq2z) (c_clock_instant : zq36)
@[reducible] def clock_Valid_X : Ctx := ⟨look tab, pick1 [(28, .spec (zq61 c_clock_compared)), (27, .spec (zq30 c_clock_in)), (29, .spec (zq37 c_clock_instant))], false⟩
def zq70 {β : Type} (rec : (List (List UInt8 × Int)) → Int → Int → (List (List UInt8 × Int)) → (List (Int × (Int × (Int × Int)))) → (List zq0) → (List (Int × (Int × Int))) → Option β) (k1 : zq6g β) (k2 : zq6h β) (t34 : List (List UInt8 × Int)) (t35 : Int) (t36 : Int) (r_ : List (List UInt8 × Int)) (r_2 : List (Int × (Int × (Int × Int)))) (r_3 : List zq0) (r_4 : List (Int × (Int × Int))) : Option β :=
  cond (decide (t36 < t35))
  (cond (decide (0 ≤ t36) && decide (t36 < (List.length t34 : Int)))
  (let e : (List UInt8 × Int) := List.getD t34 (Int.toNat t36) (([] : List UInt8), (0 : Int));
  c_clock_in e.2 (0 : Int) (500000 : Int) (fun (rin : Bool) =>
  cond (!rin)
  (k1 false)
  (rec t34 t35 (IntKind.i64.wrap (t36 + (1 : Int))) r_ r_2 r_3 r_4)))
  none)
  (k2 r_ r_2 r_3 r_4)
def zq71 {β : Type} : Nat → zq6g β → zq6h β → (List (List UInt8 × Int)) → Int → Int → (List (List UInt8 × Int)) → (List (Int × (Int × (Int × Int)))) → (List zq0) → (List (Int × (Int × Int))) → Option β
  | 0 => fun _ _ _ _ _ _ _ _ _ => none
  | i + 1 => fun k1 k2 t34 t35 t36 r_ r_2 r_3 r_4 => zq70 c_clock_in (zq71 i k1 k2) k1 k2 t34 t35 t36 r_ r_2 r_3 r_4
theorem zq72 (hΓ : ΓOk Try.prog (clock_Valid_X c_clock_compared c_clock_in c_clock_instant).Γ) (i : Nat) : PieceOk Try.prog 127 0 clock_Valid_p1_code zq6j zq6k (clock_Valid_p1_G (zq71 c_clock_in i)) := by
  rw [show clock_Valid_p1_code = .loop (loopBody clock_Valid_p1_code) by kernel_rfl]
  exact piece_loop (X := (clock_Valid_X c_clock_compared c_clock_in c_clock_instant)) (p := 1) (Λ := pick1 []) (G := fun i => @fun β d ks => clock_Valid_p1_G (zq71 c_clock_in i) d ks) mixed tab_ok hΓ rfl (by kernel_rfl) CutsOk_nil (fun _ _ => rfl) (fun i => @fun β d ks r h => Eq.trans (b := clock_Valid_p1_G (zq71 c_clock_in (i + 1)) d ks) (by kernel_rfl) h) i
def zq73 {β : Type} (rec : (List (Int × (Int × (Int × Int)))) → Int → Int → (List (List UInt8 × Int)) → (List (Int × (Int × (Int × Int)))) → (List zq0) → (List (Int × (Int × Int))) → Option β) (k1 : zq6l β) (k2 : zq6m β) (t46 : List (Int × (Int × (Int × Int)))) (t47 : Int) (t48 : Int) (r_ : List (List UInt8 × Int)) (r_2 : List (Int × (Int × (Int × Int)))) (r_3 : List zq0) (r_4 : List (Int × (Int × Int))) : Option β :=
  cond (decide (t48 < t47))
  (cond (decide (0 ≤ t48) && decide (t48 < (List.length t46 : Int)))
  (let e : (Int × (Int × (Int × Int))) := List.getD t46 (Int.toNat t48) ((0 : Int), ((0 : Int), ((0 : Int), (0 : Int))));
  c_clock_in e.1 (0 : Int) (IntKind.i64.wrap ((List.length r_ : Int) - (1 : Int))) (fun (rin : Bool) =>
  cond (!rin)
  (k1 false)
  (c_clock_compared e (fun (rcompared : Bool) =>
  cond (!rcompared)
  (k1 false)
  (rec t46 t47 (IntKind.i64.wrap (t48 + (1 : Int))) r_ r_2 r_3 r_4)))))
  none)
  (k2 r_ r_2 r_3 r_4)
def zq74 {β : Type} : Nat → zq6l β → zq6m β → (List (Int × (Int × (Int × Int)))) → Int → Int → (List (List UInt8 × Int)) → (List (Int × (Int × (Int × Int)))) → (List zq0) → (List (Int × (Int × Int))) → Option β
  | 0 => fun _ _ _ _ _ _ _ _ _ => none
  | i + 1 => fun k1 k2 t46 t47 t48 r_ r_2 r_3 r_4 => zq73 c_clock_compared c_clock_in (zq74 i k1 k2) k1 k2 t46 t47 t48 r_ r_2 r_3 r_4
theorem zq75 (hΓ : ΓOk Try.prog (clock_Valid_X c_clock_compared c_clock_in c_clock_instant).Γ) (i : Nat) : PieceOk Try.prog 127 0 clock_Valid_p2_code zq6o zq6p (clock_Valid_p2_G (zq74 c_clock_compared c_clock_in i)) := by
  rw [show clock_Valid_p2_code = .loop (loopBody clock_Valid_p2_code) by kernel_rfl]
  exact piece_loop (X := (clock_Valid_X c_clock_compared c_clock_in c_clock_instant)) (p := 1) (Λ := pick1 []) (G := fun i => @fun β d ks => clock_Valid_p2_G (zq74 c_clock_compared c_clock_in i) d ks) mixed tab_ok hΓ rfl (by kernel_rfl) CutsOk_nil (fun _ _ => rfl) (fun i => @fun β d ks r h => Eq.trans (b := clock_Valid_p2_G (zq74 c_clock_compared c_clock_in (i + 1)) d ks) (by kernel_rfl) h) i
def zq76 {β : Type} (rec : (List zq0) → Int → Int → (List (List UInt8 × Int)) → (List (Int × (Int × (Int × Int)))) → (List zq0) → (List (Int × (Int × Int))) → Option β) (k1 : zq6q β) (k2 : zq6r β) (t67 : List zq0) (t68 : Int) (t69 : Int) (r_ : List (List UInt8 × Int)) (r_2 : List (Int × (Int × (Int × Int)))) (r_3 : List zq0) (r_4 : List (Int × (Int × Int))) : Option β :=
  cond (decide (t69 < t68))
  (cond (decide (0 ≤ t69) && decide (t69 < (List.length t67 : Int)))
  (let e : zq0 := List.getD t67 (Int.toNat t69) ((0 : Int), ((0 : Int), ([] : List UInt8)));
  c_clock_in e.1 (0 : Int) (IntKind.i64.wrap ((List.length r_ : Int) - (1 : Int))) (fun (rin : Bool) =>
  cond (!rin)
  (k1 false)
  (c_clock_instant e.2.1 (fun (rinstant : Bool) =>
  cond (!rinstant)
  (k1 false)
  (rec t67 t68 (IntKind.i64.wrap (t69 + (1 : Int))) r_ r_2 r_3 r_4)))))
  none)
  (k2 r_ r_2 r_3 r_4)
def zq77 {β : Type} : Nat → zq6q β → zq6r β → (List zq0) → Int → Int → (List (List UInt8 × Int)) → (List (Int × (Int × (Int × Int)))) → (List zq0) → (List (Int × (Int × Int))) → Option β
  | 0 => fun _ _ _ _ _ _ _ _ _ => none
  | i + 1 => fun k1 k2 t67 t68 t69 r_ r_2 r_3 r_4 => zq76 c_clock_in c_clock_instant (zq77 i k1 k2) k1 k2 t67 t68 t69 r_ r_2 r_3 r_4
theorem zq78 (hΓ : ΓOk Try.prog (clock_Valid_X c_clock_compared c_clock_in c_clock_instant).Γ) (i : Nat) : PieceOk Try.prog 127 0 clock_Valid_p3_code zq6t zq6u (clock_Valid_p3_G (zq77 c_clock_in c_clock_instant i)) := by
  rw [show clock_Valid_p3_code = .loop (loopBody clock_Valid_p3_code) by kernel_rfl]
  exact piece_loop (X := (clock_Valid_X c_clock_compared c_clock_in c_clock_instant)) (p := 1) (Λ := pick1 []) (G := fun i => @fun β d ks => clock_Valid_p3_G (zq77 c_clock_in c_clock_instant i) d ks) mixed tab_ok hΓ rfl (by kernel_rfl) CutsOk_nil (fun _ _ => rfl) (fun i => @fun β d ks r h => Eq.trans (b := clock_Valid_p3_G (zq77 c_clock_in c_clock_instant (i + 1)) d ks) (by kernel_rfl) h) i
def zq79 {β : Type} (rec : (List (Int × (Int × Int))) → Int → Int → (List (List UInt8 × Int)) → (List (Int × (Int × (Int × Int)))) → (List zq0) → (List (Int × (Int × Int))) → Option β) (k1 : zq6v β) (k2 : zq6w β) (t89 : List (Int × (Int × Int))) (t90 : Int) (t91 : Int) (r_ : List (List UInt8 × Int)) (r_2 : List (Int × (Int × (Int × Int)))) (r_3 : List zq0) (r_4 : List (Int × (Int × Int))) : Option β :=
  cond (decide (t91 < t90))
  (cond (decide (0 ≤ t91) && decide (t91 < (List.length t89 : Int)))
  (let e : (Int × (Int × Int)) := List.getD t89 (Int.toNat t91) ((0 : Int), ((0 : Int), (0 : Int)));
  c_clock_in e.1 (0 : Int) (IntKind.i64.wrap ((List.length r_3 : Int) - (1 : Int))) (fun (rin : Bool) =>
  cond (!rin)
  (k1 false)
  (c_clock_in e.2.1 (0 : Int) (IntKind.i64.wrap ((List.length r_3 : Int) - (1 : Int))) (fun (rin2 : Bool) =>
  cond (!rin2)
  (k1 false)
  (cond (decide (e.1 = e.2.1))
  (k1 false)
  (c_clock_instant e.2.2 (fun (rinstant : Bool) =>
  cond (!rinstant)
  (k1 false)
  (rec t89 t90 (IntKind.i64.wrap (t91 + (1 : Int))) r_ r_2 r_3 r_4))))))))
  none)
  (k2 ())
def zq7a {β : Type} : Nat → zq6v β → zq6w β → (List (Int × (Int × Int))) → Int → Int → (List (List UInt8 × Int)) → (List (Int × (Int × (Int × Int)))) → (List zq0) → (List (Int × (Int × Int))) → Option β
  | 0 => fun _ _ _ _ _ _ _ _ _ => none
  | i + 1 => fun k1 k2 t89 t90 t91 r_ r_2 r_3 r_4 => zq79 c_clock_in c_clock_instant (zq7a i k1 k2) k1 k2 t89 t90 t91 r_ r_2 r_3 r_4
theorem zq7b (hΓ : ΓOk Try.prog (clock_Valid_X c_clock_compared c_clock_in c_clock_instant).Γ) (i : Nat) : PieceOk Try.prog 127 0 clock_Valid_p4_code zq6y zq6z (clock_Valid_p4_G (zq7a c_clock_in c_clock_instant i)) := by
  rw [show clock_Valid_p4_code = .loop (loopBody clock_Valid_p4_code) by kernel_rfl]
  exact piece_loop (X := (clock_Valid_X c_clock_compared c_clock_in c_clock_instant)) (p := 1) (Λ := pick1 []) (G := fun i => @fun β d ks => clock_Valid_p4_G (zq7a c_clock_in c_clock_instant i) d ks) mixed tab_ok hΓ rfl (by kernel_rfl) CutsOk_nil (fun _ _ => rfl) (fun i => @fun β d ks r h => Eq.trans (b := clock_Valid_p4_G (zq7a c_clock_in c_clock_instant (i + 1)) d ks) (by kernel_rfl) h) i
def zq7c (p1 : zq6i) (p2 : zq6n) (p3 : zq6s) (p4 : zq6x) {β : Type} (r_ : zq2) (k : (Bool → Option β)) : Option β :=
  cond (decide ((8 : Int) < (List.length r_.1 : Int)))
  (k false)
  (cond (decide ((64 : Int) < (List.length r_.2.1 : Int)))
  (k false)
  (cond (decide ((40 : Int) < (List.length r_.2.2.1 : Int)))
  (k false)
  (cond (decide ((64 : Int) < (List.length r_.2.2.2 : Int)))
  (k false)
  (p1 (fun (t2 : Bool) =>
  k t2) (fun (r_2 : List (List UInt8 × Int)) (r_3 : List (Int × (Int × (Int × Int)))) (r_4 : List zq0) (r_5 : List (Int × (Int × Int))) =>
  p2 (fun (t2 : Bool) =>
  k t2) (fun (r_6 : List (List UInt8 × Int)) (r_7 : List (Int × (Int × (Int × Int)))) (r_8 : List zq0) (r_9 : List (Int × (Int × Int))) =>
  p3 (fun (t2 : Bool) =>
  k t2) (fun (r_10 : List (List UInt8 × Int)) (r_11 : List (Int × (Int × (Int × Int)))) (r_12 : List zq0) (r_13 : List (Int × (Int × Int))) =>
  p4 (fun (t2 : Bool) =>
  k t2) (fun (_ : Unit) =>
  k true) r_13 (List.length r_13 : Int) (0 : Int) r_10 r_11 r_12 r_13) r_8 (List.length r_8 : Int) (0 : Int) r_6 r_7 r_8 r_9) r_3 (List.length r_3 : Int) (0 : Int) r_2 r_3 r_4 r_5) r_.1 (List.length r_.1 : Int) (0 : Int) r_.1 r_.2.1 r_.2.2.1 r_.2.2.2))))
theorem zq7d (hΓ : ΓOk Try.prog (clock_Valid_X c_clock_compared c_clock_in c_clock_instant).Γ) (p1 : zq6i) (p2 : zq6n) (p3 : zq6s) (p4 : zq6x) (hp1 : PieceOk Try.prog 127 0 clock_Valid_p1_code zq6j zq6k (clock_Valid_p1_G p1)) (hp2 : PieceOk Try.prog 127 0 clock_Valid_p2_code zq6o zq6p (clock_Valid_p2_G p2)) (hp3 : PieceOk Try.prog 127 0 clock_Valid_p3_code zq6t zq6u (clock_Valid_p3_G p3)) (hp4 : PieceOk Try.prog 127 0 clock_Valid_p4_code zq6y zq6z (clock_Valid_p4_G p4)) : SpecOk Try.prog 22 (zq6f (zq7c p1 p2 p3 p4)) :=
  spec_exec (X := (clock_Valid_X c_clock_compared c_clock_in c_clock_instant)) (Λ := pick1 [(58, pieceCut zq6j zq6k (clock_Valid_p1_G p1)), (122, pieceCut zq6o zq6p (clock_Valid_p2_G p2)), (250, pieceCut zq6t zq6u (clock_Valid_p3_G p3)), (506, pieceCut zq6y zq6z (clock_Valid_p4_G p4))]) (rs := [.tmp 2]) (c := bodyOf Try.f22) mixed tab_ok hΓ Try.func22 (by kernel_rfl) (by kernel_rfl) (by kernel_rfl) (by kernel_rfl) (CutsOk_cons (q := 58) (c' := clock_Valid_p1_code) (by kernel_rfl) rfl hp1 (CutsOk_cons (q := 122) (c' := clock_Valid_p2_code) (by kernel_rfl) rfl hp2 (CutsOk_cons (q := 250) (c' := clock_Valid_p3_code) (by kernel_rfl) rfl hp3 (CutsOk_cons (q := 506) (c' := clock_Valid_p4_code) (by kernel_rfl) rfl hp4 CutsOk_nil)))) (fun x k r h => Eq.trans (b := (zq6f (zq7c p1 p2 p3 p4)).run x k) (by kernel_rfl) h)
end
theorem zq7eΓ : ΓOk Try.prog (pick1 [(28, .spec (zq61 zq65)), (27, .spec (zq30 zq34)), (29, .spec (zq37 zq3b))]) := (ΓOk_cons zq66 (ΓOk_cons zq35 (ΓOk_cons zq3c ΓOk_nil)))
def zq7f (m : Nat) : zq6i := zq71 zq34 m
theorem zq7g {β : Type} (i : Nat) (k1 k2 t34 t35 t36 r_ r_2 r_3 r_4) : (zq7f (i + 1) k1 k2 t34 t35 t36 r_ r_2 r_3 r_4 : Option β) = zq70 zq34 (zq7f i k1 k2) k1 k2 t34 t35 t36 r_ r_2 r_3 r_4 := rfl
def zq7h : zq6i := zq7f fuel
theorem zq7i : PieceOk Try.prog 127 0 clock_Valid_p1_code zq6j zq6k (clock_Valid_p1_G zq7h) := zq72 zq65 zq34 zq3b zq7eΓ fuel
def zq7j (m : Nat) : zq6n := zq74 zq65 zq34 m
theorem zq7k {β : Type} (i : Nat) (k1 k2 t46 t47 t48 r_ r_2 r_3 r_4) : (zq7j (i + 1) k1 k2 t46 t47 t48 r_ r_2 r_3 r_4 : Option β) = zq73 zq65 zq34 (zq7j i k1 k2) k1 k2 t46 t47 t48 r_ r_2 r_3 r_4 := rfl
def zq7l : zq6n := zq7j fuel
theorem zq7m : PieceOk Try.prog 127 0 clock_Valid_p2_code zq6o zq6p (clock_Valid_p2_G zq7l) := zq75 zq65 zq34 zq3b zq7eΓ fuel
def zq7n (m : Nat) : zq6s := zq77 zq34 zq3b m
theorem zq7o {β : Type} (i : Nat) (k1 k2 t67 t68 t69 r_ r_2 r_3 r_4) : (zq7n (i + 1) k1 k2 t67 t68 t69 r_ r_2 r_3 r_4 : Option β) = zq76 zq34 zq3b (zq7n i k1 k2) k1 k2 t67 t68 t69 r_ r_2 r_3 r_4 := rfl
def zq7p : zq6s := zq7n fuel
theorem zq7q : PieceOk Try.prog 127 0 clock_Valid_p3_code zq6t zq6u (clock_Valid_p3_G zq7p) := zq78 zq65 zq34 zq3b zq7eΓ fuel
def zq7r (m : Nat) : zq6x := zq7a zq34 zq3b m
theorem zq7s {β : Type} (i : Nat) (k1 k2 t89 t90 t91 r_ r_2 r_3 r_4) : (zq7r (i + 1) k1 k2 t89 t90 t91 r_ r_2 r_3 r_4 : Option β) = zq79 zq34 zq3b (zq7r i k1 k2) k1 k2 t89 t90 t91 r_ r_2 r_3 r_4 := rfl
def zq7t : zq6x := zq7r fuel
theorem zq7u : PieceOk Try.prog 127 0 clock_Valid_p4_code zq6y zq6z (clock_Valid_p4_G zq7t) := zq7b zq65 zq34 zq3b zq7eΓ fuel
def zq7v : zq6e := zq7c zq7h zq7l zq7p zq7t
theorem zq7w : SpecOk Try.prog 22 (zq6f zq7v) := zq7d zq65 zq34 zq3b zq7eΓ zq7h zq7l zq7p zq7t zq7i zq7m zq7q zq7u

/-- pagewatch/order.pair -/
abbrev zq7x := {β : Type} → zq2 → Int → Int → ((List (Int × (Int × Int))) → Option β) → Option β
def zq7y (c : zq7x) : Spec :=
  ⟨[(true, [.data zq3]), (false, [.data (.int .i64)]), (false, [.data (.int .i64)])], [], [(false, [.rowh 0])], [.row 79 (.prod (.int .i64) (.prod (.int .i64) (.int .i64)))], fun x k => c x.1.1.1 x.1.2.1.1 x.1.2.2.1.1 (fun r0 => k (((), ()), (r0, ())))⟩
noncomputable def order_pair_p1_code : Code := codeAt 15 (bodyOf Try.f24)
abbrev zq7z (β : Type) := (List (Int × (Int × Int))) → Option β
abbrev zq80 := {β : Type} → zq7z β → Int → Int → (List (List UInt8 × Int)) → (List (Int × (Int × (Int × Int)))) → (List zq0) → (List (Int × (Int × Int))) → Int → Int → (List UInt8) → Int → Int → (List UInt8) → Option β
def zq81 : View := ⟨0, [1, 2, 3, 7, 8], [(false, [.data (.int .i64)]), (false, [.data (.int .i64)]), (false, [.ptr 0 0]), (false, [.ptr 1 0]), (false, [.ptr 2 0])], [.cells 33 [.data (.slice (.prod .str (.int .i64))), .data (.slice (.prod (.int .i64) (.prod (.int .i64) (.prod (.int .i64) (.int .i64))))), .data (.slice zq1), .data (.slice (.prod (.int .i64) (.prod (.int .i64) (.int .i64))))], .cells 40 [.data (.int .i64), .data (.int .i64), .data .str], .cells 40 [.data (.int .i64), .data (.int .i64), .data .str]]⟩
def zq82 : List (AExit × View) := [(.ret, ⟨0, [6], [(false, [.rowh 0])], [.row 79 (.prod (.int .i64) (.prod (.int .i64) (.int .i64)))]⟩)]
@[reducible] def order_pair_p1_G (p : zq80) {β : Type} (d : zq81.den) (ks : Outs.K β zq82) : Option β :=
  p (fun a0 => ks.1 (((), ()), (a0, ()))) d.1.1.1 d.1.2.1.1 d.2.1.1 d.2.1.2.1 d.2.1.2.2.1 d.2.1.2.2.2.1 d.2.2.1.1 d.2.2.1.2.1 d.2.2.1.2.2.1 d.2.2.2.1.1 d.2.2.2.1.2.1 d.2.2.2.1.2.2.1
section
variable (c_clock_Elapsed : zq67)
@[reducible] def order_pair_X : Ctx := ⟨look tab, pick1 [(33, .spec (zq68 c_clock_Elapsed))], false⟩
def zq83 {β : Type} (k1 : zq7z β) (i_ : Int) (j : Int) (r_ : List (List UInt8 × Int)) (r_2 : List (Int × (Int × (Int × Int)))) (r_3 : List zq0) (r_4 : List (Int × (Int × Int))) (a : Int) (a2 : Int) (a3 : List UInt8) (b : Int) (b2 : Int) (b3 : List UInt8) : Option β :=
  cond (decide (0 ≤ a) && decide (a < (List.length r_ : Int)))
  (let e : (List UInt8 × Int) := List.getD r_ (Int.toNat a) (([] : List UInt8), (0 : Int));
  c_clock_Elapsed e.2 (IntKind.i64.wrap (b2 - a2)) (fun (rElapsed : Int) (rElapsed2 : Int) =>
  let l : List (Int × (Int × Int)) := ([((IntKind.i64.wrap (i_ + (1 : Int))), ((IntKind.i64.wrap (j + (1 : Int))), rElapsed2)), ((IntKind.i64.wrap (j + (1 : Int))), ((IntKind.i64.wrap (i_ + (1 : Int))), (IntKind.i64.wrap (0 - rElapsed))))] : List (Int × (Int × Int)));
  k1 l))
  none
def zq84 {β : Type} (k1 : zq7z β) (i_ : Int) (j : Int) (r_ : List (List UInt8 × Int)) (r_2 : List (Int × (Int × (Int × Int)))) (r_3 : List zq0) (r_4 : List (Int × (Int × Int))) (a : Int) (a2 : Int) (a3 : List UInt8) (b : Int) (b2 : Int) (b3 : List UInt8) : Option β := zq83 c_clock_Elapsed k1 i_ j r_ r_2 r_3 r_4 a a2 a3 b b2 b3
theorem zq85 (hΓ : ΓOk Try.prog (order_pair_X c_clock_Elapsed).Γ) : PieceOk Try.prog 60 0 order_pair_p1_code zq81 zq82 (order_pair_p1_G (zq84 c_clock_Elapsed)) :=
  piece_exec (X := (order_pair_X c_clock_Elapsed)) (p := 15) (Λ := pick1 []) mixed tab_ok hΓ (by kernel_rfl) CutsOk_nil (fun d ks r h => Eq.trans (b := order_pair_p1_G (zq84 c_clock_Elapsed) d ks) (by kernel_rfl) h)
def zq86 (p1 : zq80) {β : Type} (r_ : zq2) (i_ : Int) (j : Int) (k : ((List (Int × (Int × Int))) → Option β)) : Option β :=
  cond (decide (0 ≤ i_) && decide (i_ < (List.length r_.2.2.1 : Int)))
  (let e : zq0 := List.getD r_.2.2.1 (Int.toNat i_) ((0 : Int), ((0 : Int), ([] : List UInt8)));
  cond (decide (0 ≤ j) && decide (j < (List.length r_.2.2.1 : Int)))
  (let e2 : zq0 := List.getD r_.2.2.1 (Int.toNat j) ((0 : Int), ((0 : Int), ([] : List UInt8)));
  cond (decide (e2.2.1 < e.2.1))
  (p1 (fun (t6 : List (Int × (Int × Int))) =>
  k t6) j i_ r_.1 r_.2.1 r_.2.2.1 r_.2.2.2 e2.1 e2.2.1 e2.2.2 e.1 e.2.1 e.2.2)
  (p1 (fun (t6 : List (Int × (Int × Int))) =>
  k t6) i_ j r_.1 r_.2.1 r_.2.2.1 r_.2.2.2 e.1 e.2.1 e.2.2 e2.1 e2.2.1 e2.2.2))
  none)
  none
theorem zq87 (hΓ : ΓOk Try.prog (order_pair_X c_clock_Elapsed).Γ) (p1 : zq80) (hp1 : PieceOk Try.prog 60 0 order_pair_p1_code zq81 zq82 (order_pair_p1_G p1)) : SpecOk Try.prog 24 (zq7y (zq86 p1)) :=
  spec_exec (X := (order_pair_X c_clock_Elapsed)) (Λ := pick1 [(15, pieceCut zq81 zq82 (order_pair_p1_G p1))]) (rs := [.tmp 6]) (c := bodyOf Try.f24) mixed tab_ok hΓ Try.func24 (by kernel_rfl) (by kernel_rfl) (by kernel_rfl) (by kernel_rfl) (CutsOk_cons (q := 15) (c' := order_pair_p1_code) (by kernel_rfl) rfl hp1 CutsOk_nil) (fun x k r h => Eq.trans (b := (zq7y (zq86 p1)).run x k) (by kernel_rfl) h)
end
theorem zq88Γ : ΓOk Try.prog (pick1 [(33, .spec (zq68 zq6c))]) := (ΓOk_cons zq6d ΓOk_nil)
def zq89 : zq80 := zq84 zq6c
theorem zq8a : PieceOk Try.prog 60 0 order_pair_p1_code zq81 zq82 (order_pair_p1_G zq89) := zq85 zq6c zq88Γ
def zq8b : zq7x := zq86 zq89
theorem zq8c : SpecOk Try.prog 24 (zq7y zq8b) := zq87 zq6c zq88Γ zq89 zq8a

/-- pagewatch/clock.From -/
abbrev zq8d := {β : Type} → (List UInt8 × Int) → (Int × (Int × (Int × Int))) → Int → ((Int × Int) → Option β) → Option β
def zq8e (c : zq8d) : Spec :=
  ⟨[(true, [.data (.prod .str (.int .i64))]), (true, [.data (.prod (.int .i64) (.prod (.int .i64) (.prod (.int .i64) (.int .i64))))]), (false, [.data (.int .i64)])], [], [(true, [.data (.prod (.int .i64) (.int .i64))])], [], fun x k => c x.1.1.1 x.1.2.1.1 x.1.2.2.1.1 (fun r0 => k (((r0, ()), ()), ()))⟩
section
variable (c_clock_Elapsed : zq67) (c_clock_compared : zq60) (c_clock_in : zq2z) (c_clock_instant : zq36)
@[reducible] def clock_From_X : Ctx := ⟨look tab, pick1 [(33, .spec (zq68 c_clock_Elapsed)), (28, .spec (zq61 c_clock_compared)), (27, .spec (zq30 c_clock_in)), (29, .spec (zq37 c_clock_instant))], false⟩
def zq8f {β : Type} (h : (List UInt8 × Int)) (s : (Int × (Int × (Int × Int)))) (clock : Int) (k : ((Int × Int) → Option β)) : Option β :=
  c_clock_in h.2 (0 : Int) (500000 : Int) (fun (rin : Bool) =>
  cond (!rin)
  (k ((-1099511627776 : Int), (1099511627776 : Int)))
  (c_clock_compared s (fun (rcompared : Bool) =>
  cond (!rcompared)
  (k ((-1099511627776 : Int), (1099511627776 : Int)))
  (c_clock_instant clock (fun (rinstant : Bool) =>
  cond (!rinstant)
  (k ((-1099511627776 : Int), (1099511627776 : Int)))
  (cond (decide (s.2.1 ≤ clock))
  (c_clock_Elapsed h.2 (IntKind.i64.wrap (clock - s.2.1)) (fun (rElapsed : Int) (rElapsed2 : Int) =>
  k ((IntKind.i64.wrap (s.2.2.1 + rElapsed)), (IntKind.i64.wrap (s.2.2.2 + rElapsed2)))))
  (c_clock_Elapsed h.2 (IntKind.i64.wrap (s.2.1 - clock)) (fun (rElapsed : Int) (rElapsed2 : Int) =>
  k ((IntKind.i64.wrap (s.2.2.1 - rElapsed2)), (IntKind.i64.wrap (s.2.2.2 - rElapsed)))))))))))
theorem zq8g (hΓ : ΓOk Try.prog (clock_From_X c_clock_Elapsed c_clock_compared c_clock_in c_clock_instant).Γ) : SpecOk Try.prog 31 (zq8e (zq8f c_clock_Elapsed c_clock_compared c_clock_in c_clock_instant)) :=
  spec_exec (X := (clock_From_X c_clock_Elapsed c_clock_compared c_clock_in c_clock_instant)) (Λ := pick1 []) (rs := [.cell 6 47]) (c := bodyOf Try.f31) mixed tab_ok hΓ Try.func31 (by kernel_rfl) (by kernel_rfl) (by kernel_rfl) (by kernel_rfl) CutsOk_nil (fun x k r h => Eq.trans (b := (zq8e (zq8f c_clock_Elapsed c_clock_compared c_clock_in c_clock_instant)).run x k) (by kernel_rfl) h)
end
theorem zq8hΓ : ΓOk Try.prog (pick1 [(33, .spec (zq68 zq6c)), (28, .spec (zq61 zq65)), (27, .spec (zq30 zq34)), (29, .spec (zq37 zq3b))]) := (ΓOk_cons zq6d (ΓOk_cons zq66 (ΓOk_cons zq35 (ΓOk_cons zq3c ΓOk_nil))))
def zq8i : zq8d := zq8f zq6c zq65 zq34 zq3b
theorem zq8j : SpecOk Try.prog 31 (zq8e zq8i) := zq8g zq6c zq65 zq34 zq3b zq8hΓ

/-- pagewatch/clock.When -/
abbrev zq8k := {β : Type} → zq2 → Int → Int → ((Int × Int) → Bool → Option β) → Option β
def zq8l (c : zq8k) : Spec :=
  ⟨[(true, [.data zq3]), (false, [.data (.int .i64)]), (false, [.data (.int .i64)])], [], [(true, [.data (.prod (.int .i64) (.int .i64))]), (false, [.data .bool])], [], fun x k => c x.1.1.1 x.1.2.1.1 x.1.2.2.1.1 (fun r0 r1 => k (((r0, ()), (r1, ()), ()), ()))⟩
noncomputable def clock_When_p1_code : Code := codeAt 122 (bodyOf Try.f23)
abbrev zq8m (β : Type) := Int → Int → Int → Int → Option β
abbrev zq8n := {β : Type} → zq8m β → Int → Int → (List (Int × (Int × (Int × Int)))) → Int → Int → (List (List UInt8 × Int)) → (List (Int × (Int × (Int × Int)))) → (List zq0) → (List (Int × (Int × Int))) → Int → Int → Int → Int → Option β
def zq8o : View := ⟨0, [1, 2, 3, 6, 8, 31, 32, 33], [(false, [.data (.int .i64)]), (false, [.data (.int .i64)]), (false, [.ptr 0 0]), (false, [.ptr 1 0]), (false, [.ptr 2 0]), (false, [.data (.slice (.prod (.int .i64) (.prod (.int .i64) (.prod (.int .i64) (.int .i64)))))]), (false, [.data (.int .i64)]), (false, [.data (.int .i64)])], [.cells 33 [.data (.slice (.prod .str (.int .i64))), .data (.slice (.prod (.int .i64) (.prod (.int .i64) (.prod (.int .i64) (.int .i64))))), .data (.slice zq1), .data (.slice (.prod (.int .i64) (.prod (.int .i64) (.int .i64))))], .cells 47 [.data (.int .i64), .data (.int .i64)], .cells 47 [.data (.int .i64), .data (.int .i64)]]⟩
def zq8p : List (AExit × View) := [(.exit 0, ⟨0, [6, 8], [(false, [.ptr 0 0]), (false, [.ptr 1 0])], [.cells 47 [.data (.int .i64), .data (.int .i64)], .cells 47 [.data (.int .i64), .data (.int .i64)]]⟩)]
@[reducible] def clock_When_p1_G (p : zq8n) {β : Type} (d : zq8o.den) (ks : Outs.K β zq8p) : Option β :=
  p (fun a0 a1 a2 a3 => ks.1 (((), (), ()), ((a0, a1, ()), (a2, a3, ()), ()))) d.1.1.1 d.1.2.1.1 d.1.2.2.2.2.2.1.1 d.1.2.2.2.2.2.2.1.1 d.1.2.2.2.2.2.2.2.1.1 d.2.1.1 d.2.1.2.1 d.2.1.2.2.1 d.2.1.2.2.2.1 d.2.2.1.1 d.2.2.1.2.1 d.2.2.2.1.1 d.2.2.2.1.2.1
section
variable (c_clock_Empty : zq3k) (c_clock_From : zq8d) (c_clock_Meet : zq3d) (c_clock_Valid : zq6e) (c_clock_in : zq2z) (c_clock_instant : zq36)
@[reducible] def clock_When_X : Ctx := ⟨look tab, pick1 [(32, .spec (zq3l c_clock_Empty)), (31, .spec (zq8e c_clock_From)), (30, .spec (zq3e c_clock_Meet)), (22, .spec (zq6f c_clock_Valid)), (27, .spec (zq30 c_clock_in)), (29, .spec (zq37 c_clock_instant))], false⟩
def zq8q {β : Type} (rec : Int → Int → (List (Int × (Int × (Int × Int)))) → Int → Int → (List (List UInt8 × Int)) → (List (Int × (Int × (Int × Int)))) → (List zq0) → (List (Int × (Int × Int))) → Int → Int → Int → Int → Option β) (k1 : zq8m β) (host : Int) (clock : Int) (t31 : List (Int × (Int × (Int × Int)))) (t32 : Int) (t33 : Int) (r_ : List (List UInt8 × Int)) (r_2 : List (Int × (Int × (Int × Int)))) (r_3 : List zq0) (r_4 : List (Int × (Int × Int))) (t6 : Int) (t62 : Int) (out : Int) (out2 : Int) : Option β :=
  cond (decide (t33 < t32))
  (cond (decide (0 ≤ t33) && decide (t33 < (List.length t31 : Int)))
  (let e : (Int × (Int × (Int × Int))) := List.getD t31 (Int.toNat t33) ((0 : Int), ((0 : Int), ((0 : Int), (0 : Int))));
  cond (decide (e.1 = host))
  (cond (decide (0 ≤ host) && decide (host < (List.length r_ : Int)))
  (let e2 : (List UInt8 × Int) := List.getD r_ (Int.toNat host) (([] : List UInt8), (0 : Int));
  c_clock_From e2 e clock (fun (rFrom : (Int × Int)) =>
  c_clock_Meet (out, out2) rFrom (fun (rMeet : (Int × Int)) =>
  rec host clock t31 t32 (IntKind.i64.wrap (t33 + (1 : Int))) r_ r_2 r_3 r_4 t6 t62 rMeet.1 rMeet.2)))
  none)
  (rec host clock t31 t32 (IntKind.i64.wrap (t33 + (1 : Int))) r_ r_2 r_3 r_4 t6 t62 out out2))
  none)
  (k1 t6 t62 out out2)
def zq8r {β : Type} : Nat → zq8m β → Int → Int → (List (Int × (Int × (Int × Int)))) → Int → Int → (List (List UInt8 × Int)) → (List (Int × (Int × (Int × Int)))) → (List zq0) → (List (Int × (Int × Int))) → Int → Int → Int → Int → Option β
  | 0 => fun _ _ _ _ _ _ _ _ _ _ _ _ _ _ => none
  | i + 1 => fun k1 host clock t31 t32 t33 r_ r_2 r_3 r_4 t6 t62 out out2 => zq8q c_clock_From c_clock_Meet (zq8r i k1) k1 host clock t31 t32 t33 r_ r_2 r_3 r_4 t6 t62 out out2
theorem zq8s (hΓ : ΓOk Try.prog (clock_When_X c_clock_Empty c_clock_From c_clock_Meet c_clock_Valid c_clock_in c_clock_instant).Γ) (i : Nat) : PieceOk Try.prog 56 0 clock_When_p1_code zq8o zq8p (clock_When_p1_G (zq8r c_clock_From c_clock_Meet i)) := by
  rw [show clock_When_p1_code = .loop (loopBody clock_When_p1_code) by kernel_rfl]
  exact piece_loop (X := (clock_When_X c_clock_Empty c_clock_From c_clock_Meet c_clock_Valid c_clock_in c_clock_instant)) (p := 1) (Λ := pick1 []) (G := fun i => @fun β d ks => clock_When_p1_G (zq8r c_clock_From c_clock_Meet i) d ks) mixed tab_ok hΓ rfl (by kernel_rfl) CutsOk_nil (fun _ _ => rfl) (fun i => @fun β d ks r h => Eq.trans (b := clock_When_p1_G (zq8r c_clock_From c_clock_Meet (i + 1)) d ks) (by kernel_rfl) h) i
def zq8t (p1 : zq8n) {β : Type} (r_ : zq2) (host : Int) (clock : Int) (k : ((Int × Int) → Bool → Option β)) : Option β :=
  c_clock_Valid r_ (fun (rValid : Bool) =>
  cond (!rValid)
  (k ((0 : Int), (0 : Int)) false)
  (c_clock_in host (0 : Int) (IntKind.i64.wrap ((List.length r_.1 : Int) - (1 : Int))) (fun (rin : Bool) =>
  cond (!rin)
  (k ((0 : Int), (0 : Int)) false)
  (c_clock_instant clock (fun (rinstant : Bool) =>
  cond (!rinstant)
  (k ((0 : Int), (0 : Int)) false)
  (p1 (fun (t6 : Int) (t62 : Int) (out : Int) (out2 : Int) =>
  c_clock_Empty (out, out2) (fun (rEmpty : Bool) =>
  k (out, out2) (!rEmpty))) host clock r_.2.1 (List.length r_.2.1 : Int) (0 : Int) r_.1 r_.2.1 r_.2.2.1 r_.2.2.2 (0 : Int) (0 : Int) (0 : Int) (8589934592 : Int)))))))
theorem zq8u (hΓ : ΓOk Try.prog (clock_When_X c_clock_Empty c_clock_From c_clock_Meet c_clock_Valid c_clock_in c_clock_instant).Γ) (p1 : zq8n) (hp1 : PieceOk Try.prog 56 0 clock_When_p1_code zq8o zq8p (clock_When_p1_G p1)) : SpecOk Try.prog 23 (zq8l (zq8t c_clock_Empty c_clock_Valid c_clock_in c_clock_instant p1)) :=
  spec_exec (X := (clock_When_X c_clock_Empty c_clock_From c_clock_Meet c_clock_Valid c_clock_in c_clock_instant)) (Λ := pick1 [(122, pieceCut zq8o zq8p (clock_When_p1_G p1))]) (rs := [.cell 6 47, .tmp 7]) (c := bodyOf Try.f23) mixed tab_ok hΓ Try.func23 (by kernel_rfl) (by kernel_rfl) (by kernel_rfl) (by kernel_rfl) (CutsOk_cons (q := 122) (c' := clock_When_p1_code) (by kernel_rfl) rfl hp1 CutsOk_nil) (fun x k r h => Eq.trans (b := (zq8l (zq8t c_clock_Empty c_clock_Valid c_clock_in c_clock_instant p1)).run x k) (by kernel_rfl) h)
end
theorem zq8vΓ : ΓOk Try.prog (pick1 [(32, .spec (zq3l zq3p)), (31, .spec (zq8e zq8i)), (30, .spec (zq3e zq3i)), (22, .spec (zq6f zq7v)), (27, .spec (zq30 zq34)), (29, .spec (zq37 zq3b))]) := (ΓOk_cons zq3q (ΓOk_cons zq8j (ΓOk_cons zq3j (ΓOk_cons zq7w (ΓOk_cons zq35 (ΓOk_cons zq3c ΓOk_nil))))))
def zq8w (m : Nat) : zq8n := zq8r zq8i zq3i m
theorem zq8x {β : Type} (i : Nat) (k1 host clock t31 t32 t33 r_ r_2 r_3 r_4 t6 t62 out out2) : (zq8w (i + 1) k1 host clock t31 t32 t33 r_ r_2 r_3 r_4 t6 t62 out out2 : Option β) = zq8q zq8i zq3i (zq8w i k1) k1 host clock t31 t32 t33 r_ r_2 r_3 r_4 t6 t62 out out2 := rfl
def zq8y : zq8n := zq8w fuel
theorem zq8z : PieceOk Try.prog 56 0 clock_When_p1_code zq8o zq8p (clock_When_p1_G zq8y) := zq8s zq3p zq8i zq3i zq7v zq34 zq3b zq8vΓ fuel
def zq90 : zq8k := zq8t zq3p zq7v zq34 zq3b zq8y
theorem zq91 : SpecOk Try.prog 23 (zq8l zq90) := zq8u zq3p zq8i zq3i zq7v zq34 zq3b zq8vΓ zq8y zq8z

/-- slices.IndexFunc[[]pagewatch/api.Diff,pagewatch/api.Diff] -/
abbrev zq92 := {β : Type} → (List (Int × (Int × Int))) → Int → (Int → Int → Option β) → Option β
def zq93 (c : zq92) : Spec :=
  ⟨[(false, [.data (.slice (.prod (.int .i64) (.prod (.int .i64) (.int .i64))))]), (false, [.fn 36 [0]])], [.cells 3 [.data (.int .i64)]], [(false, [.data (.int .i64)])], [.cells 3 [.data (.int .i64)]], fun x k => c x.1.1.1 x.2.1.1 (fun r0 r1 => k (((r0, ()), ()), ((r1, ()), ())))⟩
noncomputable def slices_IndexFunc_api_Diff_api_Diff_vconstraint_Valid_f1_p1_code : Code := codeAt 26 (bodyOf Try.f38)
abbrev zq94 (β : Type) := Int → Int → Option β
abbrev zq95 (β : Type) := Int → Option β
abbrev zq96 := {β : Type} → zq94 β → zq95 β → (List (Int × (Int × Int))) → Int → Int → Int → Option β
def zq97 : View := ⟨1, [0, 1, 7, 8], [(false, [.data (.slice (.prod (.int .i64) (.prod (.int .i64) (.int .i64))))]), (false, [.fn 36 [0]]), (false, [.data (.int .i64)]), (false, [.data (.int .i64)])], [.cells 3 [.data (.int .i64)]]⟩
def zq98 : List (AExit × View) := [(.ret, ⟨1, [4], [(false, [.data (.int .i64)])], [.cells 3 [.data (.int .i64)]]⟩), (.exit 0, ⟨1, [], [], [.cells 3 [.data (.int .i64)]]⟩)]
@[reducible] def slices_IndexFunc_api_Diff_api_Diff_vconstraint_Valid_f1_p1_G (p : zq96) {β : Type} (d : zq97.den) (ks : Outs.K β zq98) : Option β :=
  p (fun a0 a1 => ks.1 (((a0, ()), ()), ((a1, ()), ()))) (fun a0 => ks.2.1 ((), ((a0, ()), ()))) d.1.1.1 d.1.2.2.1.1 d.1.2.2.2.1.1 d.2.1.1
section
variable (c_constraint_Valid_f1 : zq3y)
@[reducible] def slices_IndexFunc_api_Diff_api_Diff_vconstraint_Valid_f1_X : Ctx := ⟨look tab, pick1 [(36, .spec (zq3z c_constraint_Valid_f1))], false⟩
def zq99 {β : Type} (rec : (List (Int × (Int × Int))) → Int → Int → Int → Option β) (k1 : zq94 β) (k2 : zq95 β) (s : List (Int × (Int × Int))) (t7 : Int) (t8 : Int) (b0_ : Int) : Option β :=
  cond (decide (t8 < t7))
  (cond (decide (0 ≤ t8) && decide (t8 < (List.length s : Int)))
  (let e : (Int × (Int × Int)) := List.getD s (Int.toNat t8) ((0 : Int), ((0 : Int), (0 : Int)));
  c_constraint_Valid_f1 e b0_ (fun (rValid1 : Bool) (mrValid1 : Int) =>
  cond rValid1
  (k1 t8 mrValid1)
  (rec s t7 (IntKind.i64.wrap (t8 + (1 : Int))) mrValid1)))
  none)
  (k2 b0_)
def zq9a {β : Type} : Nat → zq94 β → zq95 β → (List (Int × (Int × Int))) → Int → Int → Int → Option β
  | 0 => fun _ _ _ _ _ _ => none
  | i + 1 => fun k1 k2 s t7 t8 b0_ => zq99 c_constraint_Valid_f1 (zq9a i k1 k2) k1 k2 s t7 t8 b0_
theorem zq9b (hΓ : ΓOk Try.prog (slices_IndexFunc_api_Diff_api_Diff_vconstraint_Valid_f1_X c_constraint_Valid_f1).Γ) (i : Nat) : PieceOk Try.prog 19 1 slices_IndexFunc_api_Diff_api_Diff_vconstraint_Valid_f1_p1_code zq97 zq98 (slices_IndexFunc_api_Diff_api_Diff_vconstraint_Valid_f1_p1_G (zq9a c_constraint_Valid_f1 i)) := by
  rw [show slices_IndexFunc_api_Diff_api_Diff_vconstraint_Valid_f1_p1_code = .loop (loopBody slices_IndexFunc_api_Diff_api_Diff_vconstraint_Valid_f1_p1_code) by kernel_rfl]
  exact piece_loop (X := (slices_IndexFunc_api_Diff_api_Diff_vconstraint_Valid_f1_X c_constraint_Valid_f1)) (p := 1) (Λ := pick1 []) (G := fun i => @fun β d ks => slices_IndexFunc_api_Diff_api_Diff_vconstraint_Valid_f1_p1_G (zq9a c_constraint_Valid_f1 i) d ks) mixed tab_ok hΓ rfl (by kernel_rfl) CutsOk_nil (fun _ _ => rfl) (fun i => @fun β d ks r h => Eq.trans (b := slices_IndexFunc_api_Diff_api_Diff_vconstraint_Valid_f1_p1_G (zq9a c_constraint_Valid_f1 (i + 1)) d ks) (by kernel_rfl) h) i
def zq9c (p1 : zq96) {β : Type} (s : List (Int × (Int × Int))) (b0_ : Int) (k : (Int → Int → Option β)) : Option β :=
  p1 (fun (t4 : Int) (b0_2 : Int) =>
  k t4 b0_2) (fun (b0_2 : Int) =>
  k (-1 : Int) b0_2) s (List.length s : Int) (0 : Int) b0_
theorem zq9d (hΓ : ΓOk Try.prog (slices_IndexFunc_api_Diff_api_Diff_vconstraint_Valid_f1_X c_constraint_Valid_f1).Γ) (p1 : zq96) (hp1 : PieceOk Try.prog 19 1 slices_IndexFunc_api_Diff_api_Diff_vconstraint_Valid_f1_p1_code zq97 zq98 (slices_IndexFunc_api_Diff_api_Diff_vconstraint_Valid_f1_p1_G p1)) : SpecOk Try.prog 38 (zq93 (zq9c p1)) :=
  spec_exec (X := (slices_IndexFunc_api_Diff_api_Diff_vconstraint_Valid_f1_X c_constraint_Valid_f1)) (Λ := pick1 [(26, pieceCut zq97 zq98 (slices_IndexFunc_api_Diff_api_Diff_vconstraint_Valid_f1_p1_G p1))]) (rs := [.tmp 4]) (c := bodyOf Try.f38) mixed tab_ok hΓ Try.func38 (by kernel_rfl) (by kernel_rfl) (by kernel_rfl) (by kernel_rfl) (CutsOk_cons (q := 26) (c' := slices_IndexFunc_api_Diff_api_Diff_vconstraint_Valid_f1_p1_code) (by kernel_rfl) rfl hp1 CutsOk_nil) (fun x k r h => Eq.trans (b := (zq93 (zq9c p1)).run x k) (by kernel_rfl) h)
end
theorem zq9eΓ : ΓOk Try.prog (pick1 [(36, .spec (zq3z zq43))]) := (ΓOk_cons zq44 ΓOk_nil)
def zq9f (m : Nat) : zq96 := zq9a zq43 m
theorem zq9g {β : Type} (i : Nat) (k1 k2 s t7 t8 b0_) : (zq9f (i + 1) k1 k2 s t7 t8 b0_ : Option β) = zq99 zq43 (zq9f i k1 k2) k1 k2 s t7 t8 b0_ := rfl
def zq9h : zq96 := zq9f fuel
theorem zq9i : PieceOk Try.prog 19 1 slices_IndexFunc_api_Diff_api_Diff_vconstraint_Valid_f1_p1_code zq97 zq98 (slices_IndexFunc_api_Diff_api_Diff_vconstraint_Valid_f1_p1_G zq9h) := zq9b zq43 zq9eΓ fuel
def zq9j : zq92 := zq9c zq9h
theorem zq9k : SpecOk Try.prog 38 (zq93 zq9j) := zq9d zq43 zq9eΓ zq9h zq9i

/-- pagewatch/order.Constraints -/
abbrev zq9l := {β : Type} → zq2 → (Bool → (List (Int × (Int × Int))) → Option β) → Option β
def zq9m (c : zq9l) : Spec :=
  ⟨[(true, [.data zq3])], [], [(false, [.rowh 0]), (false, [.data .bool])], [.row 79 (.prod (.int .i64) (.prod (.int .i64) (.int .i64)))], fun x k => c x.1.1.1 (fun r0 r1 => k (((), (r0, ()), ()), (r1, ())))⟩
noncomputable def order_Constraints_p1_code : Code := codeAt 122 (bodyOf Try.f19)
noncomputable def order_Constraints_p3_code : Code := codeAt 250 (bodyOf Try.f19)
noncomputable def order_Constraints_p4_code : Code := codeAt 506 (bodyOf Try.f19)
noncomputable def order_Constraints_p2_code : Code := codeAt 230 (loopBody order_Constraints_p3_code)
abbrev zq9n (β : Type) := Bool → (List (Int × (Int × Int))) → Option β
abbrev zq9o (β : Type) := (List (List UInt8 × Int)) → (List (Int × (Int × (Int × Int)))) → (List zq0) → (List (Int × (Int × Int))) → (List (Int × (Int × Int))) → Option β
abbrev zq9p := {β : Type} → zq9n β → zq9o β → (List zq0) → Int → Int → (List (List UInt8 × Int)) → (List (Int × (Int × (Int × Int)))) → (List zq0) → (List (Int × (Int × Int))) → (List (Int × (Int × Int))) → Option β
def zq9q : View := ⟨0, [1, 4, 18, 19, 20], [(false, [.ptr 0 0]), (false, [.rowh 1]), (false, [.data (.slice zq1)]), (false, [.data (.int .i64)]), (false, [.data (.int .i64)])], [.cells 33 [.data (.slice (.prod .str (.int .i64))), .data (.slice (.prod (.int .i64) (.prod (.int .i64) (.prod (.int .i64) (.int .i64))))), .data (.slice zq1), .data (.slice (.prod (.int .i64) (.prod (.int .i64) (.int .i64))))], .row 79 (.prod (.int .i64) (.prod (.int .i64) (.int .i64)))]⟩
def zq9r : List (AExit × View) := [(.ret, ⟨0, [2, 3], [(false, [.rowh 0]), (false, [.data .bool])], [.row 79 (.prod (.int .i64) (.prod (.int .i64) (.int .i64)))]⟩), (.exit 0, ⟨0, [1, 4], [(false, [.ptr 0 0]), (false, [.rowh 1])], [.cells 33 [.data (.slice (.prod .str (.int .i64))), .data (.slice (.prod (.int .i64) (.prod (.int .i64) (.prod (.int .i64) (.int .i64))))), .data (.slice zq1), .data (.slice (.prod (.int .i64) (.prod (.int .i64) (.int .i64))))], .row 79 (.prod (.int .i64) (.prod (.int .i64) (.int .i64)))]⟩)]
@[reducible] def order_Constraints_p1_G (p : zq9p) {β : Type} (d : zq9q.den) (ks : Outs.K β zq9r) : Option β :=
  p (fun a0 a1 => ks.1 (((), (a0, ()), ()), (a1, ()))) (fun a0 a1 a2 a3 a4 => ks.2.1 (((), (), ()), ((a0, a1, a2, a3, ()), a4, ()))) d.1.2.2.1.1 d.1.2.2.2.1.1 d.1.2.2.2.2.1.1 d.2.1.1 d.2.1.2.1 d.2.1.2.2.1 d.2.1.2.2.2.1 d.2.2.1
abbrev zq9s (β : Type) := (List zq0) → Int → Int → (List (List UInt8 × Int)) → (List (Int × (Int × (Int × Int)))) → (List zq0) → (List (Int × (Int × Int))) → (List (Int × (Int × Int))) → Option β
abbrev zq9t := {β : Type} → zq9s β → Int → Int → (List zq0) → Int → Int → (List (List UInt8 × Int)) → (List (Int × (Int × (Int × Int)))) → (List zq0) → (List (Int × (Int × Int))) → (List (Int × (Int × Int))) → Int → Int → (List UInt8) → Option β
def zq9u : View := ⟨0, [1, 4, 9, 10, 11, 52, 53, 54], [(false, [.ptr 0 0]), (false, [.rowh 1]), (false, [.data (.int .i64)]), (false, [.ptr 2 0]), (false, [.data (.int .i64)]), (false, [.data (.slice zq1)]), (false, [.data (.int .i64)]), (false, [.data (.int .i64)])], [.cells 33 [.data (.slice (.prod .str (.int .i64))), .data (.slice (.prod (.int .i64) (.prod (.int .i64) (.prod (.int .i64) (.int .i64))))), .data (.slice zq1), .data (.slice (.prod (.int .i64) (.prod (.int .i64) (.int .i64))))], .row 79 (.prod (.int .i64) (.prod (.int .i64) (.int .i64))), .cells 40 [.data (.int .i64), .data (.int .i64), .data .str]]⟩
def zq9v : List (AExit × View) := [(.exit 4, ⟨0, [1, 4, 52, 53, 54], [(false, [.ptr 0 0]), (false, [.rowh 1]), (false, [.data (.slice zq1)]), (false, [.data (.int .i64)]), (false, [.data (.int .i64)])], [.cells 33 [.data (.slice (.prod .str (.int .i64))), .data (.slice (.prod (.int .i64) (.prod (.int .i64) (.prod (.int .i64) (.int .i64))))), .data (.slice zq1), .data (.slice (.prod (.int .i64) (.prod (.int .i64) (.int .i64))))], .row 79 (.prod (.int .i64) (.prod (.int .i64) (.int .i64)))]⟩)]
@[reducible] def order_Constraints_p2_G (p : zq9t) {β : Type} (d : zq9u.den) (ks : Outs.K β zq9v) : Option β :=
  p (fun a0 a1 a2 a3 a4 a5 a6 a7 => ks.1 (((), (), (a0, ()), (a1, ()), (a2, ()), ()), ((a3, a4, a5, a6, ()), a7, ()))) d.1.2.2.1.1 d.1.2.2.2.2.1.1 d.1.2.2.2.2.2.1.1 d.1.2.2.2.2.2.2.1.1 d.1.2.2.2.2.2.2.2.1.1 d.2.1.1 d.2.1.2.1 d.2.1.2.2.1 d.2.1.2.2.2.1 d.2.2.1 d.2.2.2.1.1 d.2.2.2.1.2.1 d.2.2.2.1.2.2.1
abbrev zq9w (β : Type) := (List (List UInt8 × Int)) → (List (Int × (Int × (Int × Int)))) → (List zq0) → (List (Int × (Int × Int))) → (List (Int × (Int × Int))) → Option β
abbrev zq9x := {β : Type} → zq9w β → (List zq0) → Int → Int → (List (List UInt8 × Int)) → (List (Int × (Int × (Int × Int)))) → (List zq0) → (List (Int × (Int × Int))) → (List (Int × (Int × Int))) → Option β
def zq9y : View := ⟨0, [1, 4, 52, 53, 54], [(false, [.ptr 0 0]), (false, [.rowh 1]), (false, [.data (.slice zq1)]), (false, [.data (.int .i64)]), (false, [.data (.int .i64)])], [.cells 33 [.data (.slice (.prod .str (.int .i64))), .data (.slice (.prod (.int .i64) (.prod (.int .i64) (.prod (.int .i64) (.int .i64))))), .data (.slice zq1), .data (.slice (.prod (.int .i64) (.prod (.int .i64) (.int .i64))))], .row 79 (.prod (.int .i64) (.prod (.int .i64) (.int .i64)))]⟩
def zq9z : List (AExit × View) := [(.exit 2, ⟨0, [1, 4], [(false, [.ptr 0 0]), (false, [.rowh 1])], [.cells 33 [.data (.slice (.prod .str (.int .i64))), .data (.slice (.prod (.int .i64) (.prod (.int .i64) (.prod (.int .i64) (.int .i64))))), .data (.slice zq1), .data (.slice (.prod (.int .i64) (.prod (.int .i64) (.int .i64))))], .row 79 (.prod (.int .i64) (.prod (.int .i64) (.int .i64)))]⟩)]
@[reducible] def order_Constraints_p3_G (p : zq9x) {β : Type} (d : zq9y.den) (ks : Outs.K β zq9z) : Option β :=
  p (fun a0 a1 a2 a3 a4 => ks.1 (((), (), ()), ((a0, a1, a2, a3, ()), a4, ()))) d.1.2.2.1.1 d.1.2.2.2.1.1 d.1.2.2.2.2.1.1 d.2.1.1 d.2.1.2.1 d.2.1.2.2.1 d.2.1.2.2.2.1 d.2.2.1
abbrev zqa0 (β : Type) := (List (Int × (Int × Int))) → Option β
abbrev zqa1 := {β : Type} → zqa0 β → (List (Int × (Int × Int))) → Int → Int → (List (Int × (Int × Int))) → Option β
def zqa2 : View := ⟨0, [4, 85, 86, 87], [(false, [.rowh 0]), (false, [.data (.slice (.prod (.int .i64) (.prod (.int .i64) (.int .i64))))]), (false, [.data (.int .i64)]), (false, [.data (.int .i64)])], [.row 79 (.prod (.int .i64) (.prod (.int .i64) (.int .i64)))]⟩
def zqa3 : List (AExit × View) := [(.exit 6, ⟨0, [4], [(false, [.rowh 0])], [.row 79 (.prod (.int .i64) (.prod (.int .i64) (.int .i64)))]⟩)]
@[reducible] def order_Constraints_p4_G (p : zqa1) {β : Type} (d : zqa2.den) (ks : Outs.K β zqa3) : Option β :=
  p (fun a0 => ks.1 (((), ()), (a0, ()))) d.1.2.1.1 d.1.2.2.1.1 d.1.2.2.2.1.1 d.2.1
section
variable (c_clock_Valid : zq6e) (c_clock_When : zq8k) (c_order_pair : zq7x)
@[reducible] def order_Constraints_X : Ctx := ⟨look tab, pick1 [(22, .spec (zq6f c_clock_Valid)), (23, .spec (zq8l c_clock_When)), (24, .spec (zq7y c_order_pair))], false⟩
def zqa4 {β : Type} (rec : (List zq0) → Int → Int → (List (List UInt8 × Int)) → (List (Int × (Int × (Int × Int)))) → (List zq0) → (List (Int × (Int × Int))) → (List (Int × (Int × Int))) → Option β) (k1 : zq9n β) (k2 : zq9o β) (t18 : List zq0) (t19 : Int) (t20 : Int) (r_ : List (List UInt8 × Int)) (r_2 : List (Int × (Int × (Int × Int)))) (r_3 : List zq0) (r_4 : List (Int × (Int × Int))) (out : List (Int × (Int × Int))) : Option β :=
  cond (decide (t20 < t19))
  (cond (decide (0 ≤ t20) && decide (t20 < (List.length t18 : Int)))
  (let e : zq0 := List.getD t18 (Int.toNat t20) ((0 : Int), ((0 : Int), ([] : List UInt8)));
  c_clock_When (r_, (r_2, (r_3, r_4))) e.1 e.2.1 (fun (rWhen : (Int × Int)) (rWhen2 : Bool) =>
  cond (!rWhen2)
  (k1 false ([] : List (Int × (Int × Int))))
  (let l : List (Int × (Int × Int)) := ([((0 : Int), ((IntKind.i64.wrap (t20 + (1 : Int))), rWhen.2)), ((IntKind.i64.wrap (t20 + (1 : Int))), ((0 : Int), (IntKind.i64.wrap (0 - rWhen.1))))] : List (Int × (Int × Int)));
  cond (decide ((List.length out + List.length l) * 24 ≤ roomMax))
  (let l2 : List (Int × (Int × Int)) := (out ++ l);
  rec t18 t19 (IntKind.i64.wrap (t20 + (1 : Int))) r_ r_2 r_3 r_4 l2)
  none)))
  none)
  (k2 r_ r_2 r_3 r_4 out)
def zqa5 {β : Type} : Nat → zq9n β → zq9o β → (List zq0) → Int → Int → (List (List UInt8 × Int)) → (List (Int × (Int × (Int × Int)))) → (List zq0) → (List (Int × (Int × Int))) → (List (Int × (Int × Int))) → Option β
  | 0 => fun _ _ _ _ _ _ _ _ _ _ => none
  | i + 1 => fun k1 k2 t18 t19 t20 r_ r_2 r_3 r_4 out => zqa4 c_clock_When (zqa5 i k1 k2) k1 k2 t18 t19 t20 r_ r_2 r_3 r_4 out
theorem zqa6 (hΓ : ΓOk Try.prog (order_Constraints_X c_clock_Valid c_clock_When c_order_pair).Γ) (i : Nat) : PieceOk Try.prog 106 0 order_Constraints_p1_code zq9q zq9r (order_Constraints_p1_G (zqa5 c_clock_When i)) := by
  rw [show order_Constraints_p1_code = .loop (loopBody order_Constraints_p1_code) by kernel_rfl]
  exact piece_loop (X := (order_Constraints_X c_clock_Valid c_clock_When c_order_pair)) (p := 1) (Λ := pick1 []) (G := fun i => @fun β d ks => order_Constraints_p1_G (zqa5 c_clock_When i) d ks) mixed tab_ok hΓ rfl (by kernel_rfl) CutsOk_nil (fun _ _ => rfl) (fun i => @fun β d ks r h => Eq.trans (b := order_Constraints_p1_G (zqa5 c_clock_When (i + 1)) d ks) (by kernel_rfl) h) i
def zqa7 {β : Type} (rec : Int → Int → (List zq0) → Int → Int → (List (List UInt8 × Int)) → (List (Int × (Int × (Int × Int)))) → (List zq0) → (List (Int × (Int × Int))) → (List (Int × (Int × Int))) → Int → Int → (List UInt8) → Option β) (k1 : zq9s β) (i_ : Int) (j : Int) (t52 : List zq0) (t53 : Int) (t54 : Int) (r_ : List (List UInt8 × Int)) (r_2 : List (Int × (Int × (Int × Int)))) (r_3 : List zq0) (r_4 : List (Int × (Int × Int))) (out : List (Int × (Int × Int))) (a : Int) (a2 : Int) (a3 : List UInt8) : Option β :=
  cond (decide (j < (List.length r_3 : Int)))
  (cond (decide (0 ≤ j) && decide (j < (List.length r_3 : Int)))
  (let e : zq0 := List.getD r_3 (Int.toNat j) ((0 : Int), ((0 : Int), ([] : List UInt8)));
  cond (decide (e.1 = a))
  (c_order_pair (r_, (r_2, (r_3, r_4))) i_ j (fun (lrpair : List (Int × (Int × Int))) =>
  cond (decide ((List.length out + List.length lrpair) * 24 ≤ roomMax))
  (let l : List (Int × (Int × Int)) := (out ++ lrpair);
  let j2 : Int := (IntKind.i64.wrap (j + (1 : Int)));
  rec i_ j2 t52 t53 t54 r_ r_2 r_3 r_4 l a a2 a3)
  none))
  (let j2 : Int := (IntKind.i64.wrap (j + (1 : Int)));
  rec i_ j2 t52 t53 t54 r_ r_2 r_3 r_4 out a a2 a3))
  none)
  (k1 t52 t53 t54 r_ r_2 r_3 r_4 out)
def zqa8 {β : Type} : Nat → zq9s β → Int → Int → (List zq0) → Int → Int → (List (List UInt8 × Int)) → (List (Int × (Int × (Int × Int)))) → (List zq0) → (List (Int × (Int × Int))) → (List (Int × (Int × Int))) → Int → Int → (List UInt8) → Option β
  | 0 => fun _ _ _ _ _ _ _ _ _ _ _ _ _ _ => none
  | i + 1 => fun k1 i_ j t52 t53 t54 r_ r_2 r_3 r_4 out a a2 a3 => zqa7 c_order_pair (zqa8 i k1) k1 i_ j t52 t53 t54 r_ r_2 r_3 r_4 out a a2 a3
theorem zqa9 (hΓ : ΓOk Try.prog (order_Constraints_X c_clock_Valid c_clock_When c_order_pair).Γ) (i : Nat) : PieceOk Try.prog 106 0 order_Constraints_p2_code zq9u zq9v (order_Constraints_p2_G (zqa8 c_order_pair i)) := by
  rw [show order_Constraints_p2_code = .loop (loopBody order_Constraints_p2_code) by kernel_rfl]
  exact piece_loop (X := (order_Constraints_X c_clock_Valid c_clock_When c_order_pair)) (p := 1) (Λ := pick1 []) (G := fun i => @fun β d ks => order_Constraints_p2_G (zqa8 c_order_pair i) d ks) mixed tab_ok hΓ rfl (by kernel_rfl) CutsOk_nil (fun _ _ => rfl) (fun i => @fun β d ks r h => Eq.trans (b := order_Constraints_p2_G (zqa8 c_order_pair (i + 1)) d ks) (by kernel_rfl) h) i
def zqaa (p2 : zq9t) {β : Type} (rec : (List zq0) → Int → Int → (List (List UInt8 × Int)) → (List (Int × (Int × (Int × Int)))) → (List zq0) → (List (Int × (Int × Int))) → (List (Int × (Int × Int))) → Option β) (k1 : zq9w β) (t52 : List zq0) (t53 : Int) (t54 : Int) (r_ : List (List UInt8 × Int)) (r_2 : List (Int × (Int × (Int × Int)))) (r_3 : List zq0) (r_4 : List (Int × (Int × Int))) (out : List (Int × (Int × Int))) : Option β :=
  cond (decide (t54 < t53))
  (cond (decide (0 ≤ t54) && decide (t54 < (List.length t52 : Int)))
  (let e : zq0 := List.getD t52 (Int.toNat t54) ((0 : Int), ((0 : Int), ([] : List UInt8)));
  let j : Int := (IntKind.i64.wrap (t54 + (1 : Int)));
  p2 (fun (t522 : List zq0) (t532 : Int) (t542 : Int) (r_5 : List (List UInt8 × Int)) (r_6 : List (Int × (Int × (Int × Int)))) (r_7 : List zq0) (r_8 : List (Int × (Int × Int))) (out2 : List (Int × (Int × Int))) =>
  rec t522 t532 (IntKind.i64.wrap (t542 + (1 : Int))) r_5 r_6 r_7 r_8 out2) t54 j t52 t53 t54 r_ r_2 r_3 r_4 out e.1 e.2.1 e.2.2)
  none)
  (k1 r_ r_2 r_3 r_4 out)
def zqab (p2 : zq9t) {β : Type} : Nat → zq9w β → (List zq0) → Int → Int → (List (List UInt8 × Int)) → (List (Int × (Int × (Int × Int)))) → (List zq0) → (List (Int × (Int × Int))) → (List (Int × (Int × Int))) → Option β
  | 0 => fun _ _ _ _ _ _ _ _ _ => none
  | i + 1 => fun k1 t52 t53 t54 r_ r_2 r_3 r_4 out => zqaa p2 (zqab p2 i k1) k1 t52 t53 t54 r_ r_2 r_3 r_4 out
theorem zqac (hΓ : ΓOk Try.prog (order_Constraints_X c_clock_Valid c_clock_When c_order_pair).Γ) (p2 : zq9t) (hp2 : PieceOk Try.prog 106 0 order_Constraints_p2_code zq9u zq9v (order_Constraints_p2_G p2)) (i : Nat) : PieceOk Try.prog 106 0 order_Constraints_p3_code zq9y zq9z (order_Constraints_p3_G (zqab p2 i)) := by
  rw [show order_Constraints_p3_code = .loop (loopBody order_Constraints_p3_code) by kernel_rfl]
  exact piece_loop (X := (order_Constraints_X c_clock_Valid c_clock_When c_order_pair)) (p := 1) (Λ := pick1 [(230, pieceCut zq9u zq9v (order_Constraints_p2_G p2))]) (G := fun i => @fun β d ks => order_Constraints_p3_G (zqab p2 i) d ks) mixed tab_ok hΓ rfl (by kernel_rfl) (CutsOk_cons (q := 230) (c' := order_Constraints_p2_code) (by kernel_rfl) rfl hp2 CutsOk_nil) (fun _ _ => rfl) (fun i => @fun β d ks r h => Eq.trans (b := order_Constraints_p3_G (zqab p2 (i + 1)) d ks) (by kernel_rfl) h) i
def zqad {β : Type} (rec : (List (Int × (Int × Int))) → Int → Int → (List (Int × (Int × Int))) → Option β) (k1 : zqa0 β) (t85 : List (Int × (Int × Int))) (t86 : Int) (t87 : Int) (out : List (Int × (Int × Int))) : Option β :=
  cond (decide (t87 < t86))
  (cond (decide (0 ≤ t87) && decide (t87 < (List.length t85 : Int)))
  (let e : (Int × (Int × Int)) := List.getD t85 (Int.toNat t87) ((0 : Int), ((0 : Int), (0 : Int)));
  let l : List (Int × (Int × Int)) := ([((IntKind.i64.wrap (e.2.1 + (1 : Int))), ((IntKind.i64.wrap (e.1 + (1 : Int))), (IntKind.i64.wrap (0 - e.2.2))))] : List (Int × (Int × Int)));
  cond (decide ((List.length out + List.length l) * 24 ≤ roomMax))
  (let l2 : List (Int × (Int × Int)) := (out ++ l);
  rec t85 t86 (IntKind.i64.wrap (t87 + (1 : Int))) l2)
  none)
  none)
  (k1 out)
def zqae {β : Type} : Nat → zqa0 β → (List (Int × (Int × Int))) → Int → Int → (List (Int × (Int × Int))) → Option β
  | 0 => fun _ _ _ _ _ => none
  | i + 1 => fun k1 t85 t86 t87 out => zqad (zqae i k1) k1 t85 t86 t87 out
theorem zqaf (hΓ : ΓOk Try.prog (order_Constraints_X c_clock_Valid c_clock_When c_order_pair).Γ) (i : Nat) : PieceOk Try.prog 106 0 order_Constraints_p4_code zqa2 zqa3 (order_Constraints_p4_G (zqae i)) := by
  rw [show order_Constraints_p4_code = .loop (loopBody order_Constraints_p4_code) by kernel_rfl]
  exact piece_loop (X := (order_Constraints_X c_clock_Valid c_clock_When c_order_pair)) (p := 1) (Λ := pick1 []) (G := fun i => @fun β d ks => order_Constraints_p4_G (zqae i) d ks) mixed tab_ok hΓ rfl (by kernel_rfl) CutsOk_nil (fun _ _ => rfl) (fun i => @fun β d ks r h => Eq.trans (b := order_Constraints_p4_G (zqae (i + 1)) d ks) (by kernel_rfl) h) i
def zqag (p1 : zq9p) (p3 : zq9x) (p4 : zqa1) {β : Type} (r_ : zq2) (k : (Bool → (List (Int × (Int × Int))) → Option β)) : Option β :=
  c_clock_Valid r_ (fun (rValid : Bool) =>
  cond (!rValid)
  (k false ([] : List (Int × (Int × Int))))
  (p1 (fun (t3 : Bool) (t2 : List (Int × (Int × Int))) =>
  k t3 t2) (fun (r_2 : List (List UInt8 × Int)) (r_3 : List (Int × (Int × (Int × Int)))) (r_4 : List zq0) (r_5 : List (Int × (Int × Int))) (out : List (Int × (Int × Int))) =>
  p3 (fun (r_6 : List (List UInt8 × Int)) (r_7 : List (Int × (Int × (Int × Int)))) (r_8 : List zq0) (r_9 : List (Int × (Int × Int))) (out2 : List (Int × (Int × Int))) =>
  p4 (fun (out3 : List (Int × (Int × Int))) =>
  k true out3) r_9 (List.length r_9 : Int) (0 : Int) out2) r_4 (List.length r_4 : Int) (0 : Int) r_2 r_3 r_4 r_5 out) r_.2.2.1 (List.length r_.2.2.1 : Int) (0 : Int) r_.1 r_.2.1 r_.2.2.1 r_.2.2.2 ([] : List (Int × (Int × Int)))))
theorem zqah (hΓ : ΓOk Try.prog (order_Constraints_X c_clock_Valid c_clock_When c_order_pair).Γ) (p1 : zq9p) (p3 : zq9x) (p4 : zqa1) (hp1 : PieceOk Try.prog 106 0 order_Constraints_p1_code zq9q zq9r (order_Constraints_p1_G p1)) (hp3 : PieceOk Try.prog 106 0 order_Constraints_p3_code zq9y zq9z (order_Constraints_p3_G p3)) (hp4 : PieceOk Try.prog 106 0 order_Constraints_p4_code zqa2 zqa3 (order_Constraints_p4_G p4)) : SpecOk Try.prog 19 (zq9m (zqag c_clock_Valid p1 p3 p4)) :=
  spec_exec (X := (order_Constraints_X c_clock_Valid c_clock_When c_order_pair)) (Λ := pick1 [(122, pieceCut zq9q zq9r (order_Constraints_p1_G p1)), (250, pieceCut zq9y zq9z (order_Constraints_p3_G p3)), (506, pieceCut zqa2 zqa3 (order_Constraints_p4_G p4))]) (rs := [.tmp 2, .tmp 3]) (c := bodyOf Try.f19) mixed tab_ok hΓ Try.func19 (by kernel_rfl) (by kernel_rfl) (by kernel_rfl) (by kernel_rfl) (CutsOk_cons (q := 122) (c' := order_Constraints_p1_code) (by kernel_rfl) rfl hp1 (CutsOk_cons (q := 250) (c' := order_Constraints_p3_code) (by kernel_rfl) rfl hp3 (CutsOk_cons (q := 506) (c' := order_Constraints_p4_code) (by kernel_rfl) rfl hp4 CutsOk_nil))) (fun x k r h => Eq.trans (b := (zq9m (zqag c_clock_Valid p1 p3 p4)).run x k) (by kernel_rfl) h)
end
theorem zqaiΓ : ΓOk Try.prog (pick1 [(22, .spec (zq6f zq7v)), (23, .spec (zq8l zq90)), (24, .spec (zq7y zq8b))]) := (ΓOk_cons zq7w (ΓOk_cons zq91 (ΓOk_cons zq8c ΓOk_nil)))
def zqaj (m : Nat) : zq9p := zqa5 zq90 m
theorem zqak {β : Type} (i : Nat) (k1 k2 t18 t19 t20 r_ r_2 r_3 r_4 out) : (zqaj (i + 1) k1 k2 t18 t19 t20 r_ r_2 r_3 r_4 out : Option β) = zqa4 zq90 (zqaj i k1 k2) k1 k2 t18 t19 t20 r_ r_2 r_3 r_4 out := rfl
def zqal : zq9p := zqaj fuel
theorem zqam : PieceOk Try.prog 106 0 order_Constraints_p1_code zq9q zq9r (order_Constraints_p1_G zqal) := zqa6 zq7v zq90 zq8b zqaiΓ fuel
def zqan (m : Nat) : zq9t := zqa8 zq8b m
theorem zqao {β : Type} (i : Nat) (k1 i_ j t52 t53 t54 r_ r_2 r_3 r_4 out a a2 a3) : (zqan (i + 1) k1 i_ j t52 t53 t54 r_ r_2 r_3 r_4 out a a2 a3 : Option β) = zqa7 zq8b (zqan i k1) k1 i_ j t52 t53 t54 r_ r_2 r_3 r_4 out a a2 a3 := rfl
def zqap : zq9t := zqan fuel
theorem zqaq : PieceOk Try.prog 106 0 order_Constraints_p2_code zq9u zq9v (order_Constraints_p2_G zqap) := zqa9 zq7v zq90 zq8b zqaiΓ fuel
def zqar (m : Nat) : zq9x := zqab zqap m
theorem zqas {β : Type} (i : Nat) (k1 t52 t53 t54 r_ r_2 r_3 r_4 out) : (zqar (i + 1) k1 t52 t53 t54 r_ r_2 r_3 r_4 out : Option β) = zqaa zqap (zqar i k1) k1 t52 t53 t54 r_ r_2 r_3 r_4 out := rfl
def zqat : zq9x := zqar fuel
theorem zqau : PieceOk Try.prog 106 0 order_Constraints_p3_code zq9y zq9z (order_Constraints_p3_G zqat) := zqac zq7v zq90 zq8b zqaiΓ zqap zqaq fuel
def zqav (m : Nat) : zqa1 := zqae m
theorem zqaw {β : Type} (i : Nat) (k1 t85 t86 t87 out) : (zqav (i + 1) k1 t85 t86 t87 out : Option β) = zqad (zqav i k1) k1 t85 t86 t87 out := rfl
def zqax : zqa1 := zqav fuel
theorem zqay : PieceOk Try.prog 106 0 order_Constraints_p4_code zqa2 zqa3 (order_Constraints_p4_G zqax) := zqaf zq7v zq90 zq8b zqaiΓ fuel
def zqaz : zq9l := zqag zq7v zqal zqat zqax
theorem zqb0 : SpecOk Try.prog 19 (zq9m zqaz) := zqah zq7v zq90 zq8b zqaiΓ zqal zqat zqax zqam zqau zqay

/-- slices.ContainsFunc[[]pagewatch/api.Diff,pagewatch/api.Diff] -/
abbrev zqb1 := {β : Type} → (List (Int × (Int × Int))) → Int → (Bool → Int → Option β) → Option β
def zqb2 (c : zqb1) : Spec :=
  ⟨[(false, [.data (.slice (.prod (.int .i64) (.prod (.int .i64) (.int .i64))))]), (false, [.fn 36 [0]])], [.cells 3 [.data (.int .i64)]], [(false, [.data .bool])], [.cells 3 [.data (.int .i64)]], fun x k => c x.1.1.1 x.2.1.1 (fun r0 r1 => k (((r0, ()), ()), ((r1, ()), ())))⟩
section
variable (c_slices_IndexFunc_api_Diff_api_Diff_vconstraint_Valid_f1 : zq92)
@[reducible] def slices_ContainsFunc_api_Diff_api_Diff_vconstraint_Valid_f1_X : Ctx := ⟨look tab, pick1 [(38, .spec (zq93 c_slices_IndexFunc_api_Diff_api_Diff_vconstraint_Valid_f1))], false⟩
def zqb3 {β : Type} (s : List (Int × (Int × Int))) (b0_ : Int) (k : (Bool → Int → Option β)) : Option β :=
  c_slices_IndexFunc_api_Diff_api_Diff_vconstraint_Valid_f1 s b0_ (fun (rDiff : Int) (mrDiff : Int) =>
  let t : Bool := (decide ((0 : Int) ≤ rDiff));
  k t mrDiff)
theorem zqb4 (hΓ : ΓOk Try.prog (slices_ContainsFunc_api_Diff_api_Diff_vconstraint_Valid_f1_X c_slices_IndexFunc_api_Diff_api_Diff_vconstraint_Valid_f1).Γ) : SpecOk Try.prog 35 (zqb2 (zqb3 c_slices_IndexFunc_api_Diff_api_Diff_vconstraint_Valid_f1)) :=
  spec_exec (X := (slices_ContainsFunc_api_Diff_api_Diff_vconstraint_Valid_f1_X c_slices_IndexFunc_api_Diff_api_Diff_vconstraint_Valid_f1)) (Λ := pick1 []) (rs := [.tmp 4]) (c := bodyOf Try.f35) mixed tab_ok hΓ Try.func35 (by kernel_rfl) (by kernel_rfl) (by kernel_rfl) (by kernel_rfl) CutsOk_nil (fun x k r h => Eq.trans (b := (zqb2 (zqb3 c_slices_IndexFunc_api_Diff_api_Diff_vconstraint_Valid_f1)).run x k) (by kernel_rfl) h)
end
theorem zqb5Γ : ΓOk Try.prog (pick1 [(38, .spec (zq93 zq9j))]) := (ΓOk_cons zq9k ΓOk_nil)
def zqb6 : zqb1 := zqb3 zq9j
theorem zqb7 : SpecOk Try.prog 35 (zqb2 zqb6) := zqb4 zq9j zqb5Γ

/-- pagewatch/constraint.Valid -/
abbrev zqb8 := {β : Type} → Int → (List (Int × (Int × Int))) → (Bool → Option β) → Option β
def zqb9 (c : zqb8) : Spec :=
  ⟨[(false, [.data (.int .i64)]), (false, [.data (.slice (.prod (.int .i64) (.prod (.int .i64) (.int .i64))))])], [], [(false, [.data .bool])], [], fun x k => c x.1.1.1 x.1.2.1.1 (fun r0 => k (((r0, ()), ()), ()))⟩
section
variable (c_constraint_in : zq3r) (c_slices_ContainsFunc_api_Diff_api_Diff_vconstraint_Valid_f1 : zqb1)
@[reducible] def constraint_Valid_X : Ctx := ⟨look tab, pick1 [(34, .spec (zq3s c_constraint_in)), (35, .spec (zqb2 c_slices_ContainsFunc_api_Diff_api_Diff_vconstraint_Valid_f1))], false⟩
def zqba {β : Type} (n : Int) (l : List (Int × (Int × Int))) (k : (Bool → Option β)) : Option β :=
  c_constraint_in n (1 : Int) (41 : Int) (fun (rin : Bool) =>
  cond (!rin)
  (k false)
  (cond (decide ((4000 : Int) < (List.length l : Int)))
  (k false)
  (c_slices_ContainsFunc_api_Diff_api_Diff_vconstraint_Valid_f1 l n (fun (rDiff : Bool) (mrDiff : Int) =>
  k (!rDiff)))))
theorem zqbb (hΓ : ΓOk Try.prog (constraint_Valid_X c_constraint_in c_slices_ContainsFunc_api_Diff_api_Diff_vconstraint_Valid_f1).Γ) : SpecOk Try.prog 25 (zqb9 (zqba c_constraint_in c_slices_ContainsFunc_api_Diff_api_Diff_vconstraint_Valid_f1)) :=
  spec_exec (X := (constraint_Valid_X c_constraint_in c_slices_ContainsFunc_api_Diff_api_Diff_vconstraint_Valid_f1)) (Λ := pick1 []) (rs := [.tmp 4]) (c := bodyOf Try.f25) mixed tab_ok hΓ Try.func25 (by kernel_rfl) (by kernel_rfl) (by kernel_rfl) (by kernel_rfl) CutsOk_nil (fun x k r h => Eq.trans (b := (zqb9 (zqba c_constraint_in c_slices_ContainsFunc_api_Diff_api_Diff_vconstraint_Valid_f1)).run x k) (by kernel_rfl) h)
end
theorem zqbcΓ : ΓOk Try.prog (pick1 [(34, .spec (zq3s zq3w)), (35, .spec (zqb2 zqb6))]) := (ΓOk_cons zq3x (ΓOk_cons zqb7 ΓOk_nil))
def zqbd : zqb8 := zqba zq3w zqb6
theorem zqbe : SpecOk Try.prog 25 (zqb9 zqbd) := zqbb zq3w zqb6 zqbcΓ

/-- pagewatch/constraint.Close -/
abbrev zqbf := {β : Type} → Int → (List (Int × (Int × Int))) → ((List (List Int)) → Bool → Option β) → Option β
def zqbg (c : zqbf) : Spec :=
  ⟨[(false, [.data (.int .i64)]), (false, [.data (.slice (.prod (.int .i64) (.prod (.int .i64) (.int .i64))))])], [], [(false, [.data (.slice (.slice (.int .i64)))]), (false, [.data .bool])], [], fun x k => c x.1.1.1 x.1.2.1.1 (fun r0 r1 => k (((r0, ()), (r1, ()), ()), ()))⟩
noncomputable def constraint_Close_p1_code : Code := codeAt 122 (bodyOf Try.f20)
noncomputable def constraint_Close_p5_code : Code := codeAt 250 (bodyOf Try.f20)
noncomputable def constraint_Close_p6_code : Code := codeAt 506 (bodyOf Try.f20)
noncomputable def constraint_Close_p4_code : Code := codeAt 458 (loopBody constraint_Close_p5_code)
noncomputable def constraint_Close_p3_code : Code := codeAt 230 (loopBody constraint_Close_p4_code)
noncomputable def constraint_Close_p2_code : Code := codeAt 115 (loopBody constraint_Close_p3_code)
abbrev zqbh (β : Type) := Int → (List (List Int)) → Option β
abbrev zqbi := {β : Type} → zqbh β → Int → Int → Int → (List (List Int)) → Option β
def zqbj : View := ⟨0, [0, 6, 19, 20], [(false, [.data (.int .i64)]), (false, [.math 0]), (false, [.data (.int .i64)]), (false, [.data (.int .i64)])], [.mat 22 3 (.int .i64)]⟩
def zqbk : List (AExit × View) := [(.exit 0, ⟨0, [0, 6], [(false, [.data (.int .i64)]), (false, [.math 0])], [.mat 22 3 (.int .i64)]⟩)]
@[reducible] def constraint_Close_p1_G (p : zqbi) {β : Type} (d : zqbj.den) (ks : Outs.K β zqbk) : Option β :=
  p (fun a0 a1 => ks.1 (((a0, ()), (), ()), (a1, ()))) d.1.1.1 d.1.2.2.1.1 d.1.2.2.2.1.1 d.2.1
abbrev zqbl (β : Type) := Int → Int → Int → Int → Int → Int → Int → Int → Int → (List (List Int)) → Option β
abbrev zqbm := {β : Type} → zqbl β → Int → Int → Int → Int → Int → Int → Int → Int → Int → Int → Bool → (List (List Int)) → Option β
def zqbn : View := ⟨0, [0, 6, 8, 9, 10, 38, 39, 42, 43, 46, 47, 67], [(false, [.data (.int .i64)]), (false, [.math 0]), (false, [.data (.int .i64)]), (false, [.data (.int .i64)]), (false, [.data (.int .i64)]), (false, [.data (.int .i64)]), (false, [.data (.int .i64)]), (false, [.data (.int .i64)]), (false, [.data (.int .i64)]), (false, [.data (.int .i64)]), (false, [.data (.int .i64)]), (false, [.data .bool])], [.mat 22 3 (.int .i64)]⟩
def zqbo : List (AExit × View) := [(.normal, ⟨0, [0, 6, 8, 9, 38, 39, 42, 43, 46, 47], [(false, [.data (.int .i64)]), (false, [.math 0]), (false, [.data (.int .i64)]), (false, [.data (.int .i64)]), (false, [.data (.int .i64)]), (false, [.data (.int .i64)]), (false, [.data (.int .i64)]), (false, [.data (.int .i64)]), (false, [.data (.int .i64)]), (false, [.data (.int .i64)])], [.mat 22 3 (.int .i64)]⟩)]
@[reducible] def constraint_Close_p2_G (p : zqbm) {β : Type} (d : zqbn.den) (ks : Outs.K β zqbo) : Option β :=
  p (fun a0 a1 a2 a3 a4 a5 a6 a7 a8 a9 => ks.1 (((a0, ()), (), (a1, ()), (a2, ()), (a3, ()), (a4, ()), (a5, ()), (a6, ()), (a7, ()), (a8, ()), ()), (a9, ()))) d.1.1.1 d.1.2.2.1.1 d.1.2.2.2.1.1 d.1.2.2.2.2.1.1 d.1.2.2.2.2.2.1.1 d.1.2.2.2.2.2.2.1.1 d.1.2.2.2.2.2.2.2.1.1 d.1.2.2.2.2.2.2.2.2.1.1 d.1.2.2.2.2.2.2.2.2.2.1.1 d.1.2.2.2.2.2.2.2.2.2.2.1.1 d.1.2.2.2.2.2.2.2.2.2.2.2.1.1 d.2.1
abbrev zqbp (β : Type) := Int → Int → Int → Int → Int → Int → (List (List Int)) → Option β
abbrev zqbq := {β : Type} → zqbp β → Int → Int → Int → Int → Int → Int → Int → Int → Int → (List (List Int)) → Option β
def zqbr : View := ⟨0, [0, 6, 8, 9, 38, 39, 42, 43, 46, 47], [(false, [.data (.int .i64)]), (false, [.math 0]), (false, [.data (.int .i64)]), (false, [.data (.int .i64)]), (false, [.data (.int .i64)]), (false, [.data (.int .i64)]), (false, [.data (.int .i64)]), (false, [.data (.int .i64)]), (false, [.data (.int .i64)]), (false, [.data (.int .i64)])], [.mat 22 3 (.int .i64)]⟩
def zqbs : List (AExit × View) := [(.exit 6, ⟨0, [0, 6, 8, 38, 39, 42, 43], [(false, [.data (.int .i64)]), (false, [.math 0]), (false, [.data (.int .i64)]), (false, [.data (.int .i64)]), (false, [.data (.int .i64)]), (false, [.data (.int .i64)]), (false, [.data (.int .i64)])], [.mat 22 3 (.int .i64)]⟩)]
@[reducible] def constraint_Close_p3_G (p : zqbq) {β : Type} (d : zqbr.den) (ks : Outs.K β zqbs) : Option β :=
  p (fun a0 a1 a2 a3 a4 a5 a6 => ks.1 (((a0, ()), (), (a1, ()), (a2, ()), (a3, ()), (a4, ()), (a5, ()), ()), (a6, ()))) d.1.1.1 d.1.2.2.1.1 d.1.2.2.2.1.1 d.1.2.2.2.2.1.1 d.1.2.2.2.2.2.1.1 d.1.2.2.2.2.2.2.1.1 d.1.2.2.2.2.2.2.2.1.1 d.1.2.2.2.2.2.2.2.2.1.1 d.1.2.2.2.2.2.2.2.2.2.1.1 d.2.1
abbrev zqbt (β : Type) := Int → Int → Int → Int → (List (List Int)) → Option β
abbrev zqbu := {β : Type} → zqbt β → Int → Int → Int → Int → Int → Int → (List (List Int)) → Option β
def zqbv : View := ⟨0, [0, 6, 8, 38, 39, 42, 43], [(false, [.data (.int .i64)]), (false, [.math 0]), (false, [.data (.int .i64)]), (false, [.data (.int .i64)]), (false, [.data (.int .i64)]), (false, [.data (.int .i64)]), (false, [.data (.int .i64)])], [.mat 22 3 (.int .i64)]⟩
def zqbw : List (AExit × View) := [(.exit 4, ⟨0, [0, 6, 8, 38, 39], [(false, [.data (.int .i64)]), (false, [.math 0]), (false, [.data (.int .i64)]), (false, [.data (.int .i64)]), (false, [.data (.int .i64)])], [.mat 22 3 (.int .i64)]⟩)]
@[reducible] def constraint_Close_p4_G (p : zqbu) {β : Type} (d : zqbv.den) (ks : Outs.K β zqbw) : Option β :=
  p (fun a0 a1 a2 a3 a4 => ks.1 (((a0, ()), (), (a1, ()), (a2, ()), (a3, ()), ()), (a4, ()))) d.1.1.1 d.1.2.2.1.1 d.1.2.2.2.1.1 d.1.2.2.2.2.1.1 d.1.2.2.2.2.2.1.1 d.1.2.2.2.2.2.2.1.1 d.2.1
abbrev zqbx (β : Type) := Bool → (List (List Int)) → Option β
abbrev zqby (β : Type) := Int → (List (List Int)) → Option β
abbrev zqbz := {β : Type} → zqbx β → zqby β → Int → Int → Int → (List (List Int)) → Option β
def zqc0 : View := ⟨0, [0, 6, 38, 39], [(false, [.data (.int .i64)]), (false, [.math 0]), (false, [.data (.int .i64)]), (false, [.data (.int .i64)])], [.mat 22 3 (.int .i64)]⟩
def zqc1 : List (AExit × View) := [(.ret, ⟨0, [4, 5], [(false, [.math 0]), (false, [.data .bool])], [.mat 22 3 (.int .i64)]⟩), (.exit 2, ⟨0, [0, 6], [(false, [.data (.int .i64)]), (false, [.math 0])], [.mat 22 3 (.int .i64)]⟩)]
@[reducible] def constraint_Close_p5_G (p : zqbz) {β : Type} (d : zqc0.den) (ks : Outs.K β zqc1) : Option β :=
  p (fun a0 a1 => ks.1 (((), (a0, ()), ()), (a1, ()))) (fun a0 a1 => ks.2.1 (((a0, ()), (), ()), (a1, ()))) d.1.1.1 d.1.2.2.1.1 d.1.2.2.2.1.1 d.2.1
abbrev zqc2 (β : Type) := Bool → (List (List Int)) → Option β
abbrev zqc3 (β : Type) := (List (List Int)) → Option β
abbrev zqc4 := {β : Type} → zqc2 β → zqc3 β → Int → Int → (List (List Int)) → Option β
def zqc5 : View := ⟨0, [6, 108, 109], [(false, [.math 0]), (false, [.data (.int .i64)]), (false, [.data (.int .i64)])], [.mat 22 3 (.int .i64)]⟩
def zqc6 : List (AExit × View) := [(.ret, ⟨0, [4, 5], [(false, [.math 0]), (false, [.data .bool])], [.mat 22 3 (.int .i64)]⟩), (.exit 8, ⟨0, [6], [(false, [.math 0])], [.mat 22 3 (.int .i64)]⟩)]
@[reducible] def constraint_Close_p6_G (p : zqc4) {β : Type} (d : zqc5.den) (ks : Outs.K β zqc6) : Option β :=
  p (fun a0 a1 => ks.1 (((), (a0, ()), ()), (a1, ()))) (fun a0 => ks.2.1 (((), ()), (a0, ()))) d.1.2.1.1 d.1.2.2.1.1 d.2.1
section
variable (c_constraint_Valid : zqb8) (c_constraint_direct : zq1v)
@[reducible] def constraint_Close_X : Ctx := ⟨look tab, pick1 [(25, .spec (zqb9 c_constraint_Valid)), (26, .spec (zq1w c_constraint_direct))], true⟩
def zqc7 {β : Type} (rec : Int → Int → Int → (List (List Int)) → Option β) (k1 : zqbh β) (n : Int) (t19 : Int) (t20 : Int) (m : List (List Int)) : Option β :=
  cond (decide (t20 < t19))
  (cond (decide (0 ≤ t20) && decide (t20 < (List.length m : Int)))
  (cond (decide (0 ≤ t20) && decide (t20 < (List.length m : Int)))
  (cond (decide (0 ≤ t20) && decide (t20 < (List.length (List.getD m (Int.toNat t20) []) : Int)))
  (cond (decide (0 ≤ t20) && decide (t20 < (List.length (List.getD m (Int.toNat t20) []) : Int)))
  (let m_ : List (List Int) := (List.set m (Int.toNat t20) (List.set (List.getD m (Int.toNat t20) []) (Int.toNat t20) (if (0 : Int) < (List.getD (List.getD m (Int.toNat t20) []) (Int.toNat t20) (0 : Int)) then (0 : Int) else (List.getD (List.getD m (Int.toNat t20) []) (Int.toNat t20) (0 : Int)))));
  rec n t19 (IntKind.i64.wrap (t20 + (1 : Int))) m_)
  none)
  none)
  none)
  none)
  (k1 n m)
def zqc8 {β : Type} : Nat → zqbh β → Int → Int → Int → (List (List Int)) → Option β
  | 0 => fun _ _ _ _ _ => none
  | i + 1 => fun k1 n t19 t20 m => zqc7 (zqc8 i k1) k1 n t19 t20 m
theorem zqc9 (hΓ : ΓOk Try.prog (constraint_Close_X c_constraint_Valid c_constraint_direct).Γ) (i : Nat) : PieceOk Try.prog 122 0 constraint_Close_p1_code zqbj zqbk (constraint_Close_p1_G (zqc8 i)) := by
  rw [show constraint_Close_p1_code = .loop (loopBody constraint_Close_p1_code) by kernel_rfl]
  exact piece_loop (X := (constraint_Close_X c_constraint_Valid c_constraint_direct)) (p := 1) (Λ := pick1 []) (G := fun i => @fun β d ks => constraint_Close_p1_G (zqc8 i) d ks) mixed tab_ok hΓ rfl (by kernel_rfl) CutsOk_nil (fun _ _ => rfl) (fun i => @fun β d ks r h => Eq.trans (b := constraint_Close_p1_G (zqc8 (i + 1)) d ks) (by kernel_rfl) h) i
def zqca {β : Type} (k1 : zqbl β) (n : Int) (k_ : Int) (i_ : Int) (j : Int) (t38 : Int) (t39 : Int) (t42 : Int) (t43 : Int) (t46 : Int) (t47 : Int) (t67 : Bool) (m : List (List Int)) : Option β :=
  cond t67
  (cond (decide (0 ≤ i_) && decide (i_ < (List.length m : Int)))
  (cond (decide (0 ≤ i_) && decide (i_ < (List.length m : Int)))
  (cond (decide (0 ≤ j) && decide (j < (List.length (List.getD m (Int.toNat i_) []) : Int)))
  (cond (decide (0 ≤ i_) && decide (i_ < (List.length m : Int)))
  (cond (decide (0 ≤ k_) && decide (k_ < (List.length (List.getD m (Int.toNat i_) []) : Int)))
  (cond (decide (0 ≤ k_) && decide (k_ < (List.length m : Int)))
  (cond (decide (0 ≤ j) && decide (j < (List.length (List.getD m (Int.toNat k_) []) : Int)))
  (cond (decide (0 ≤ j) && decide (j < (List.length (List.getD m (Int.toNat i_) []) : Int)))
  (let m_ : List (List Int) := (List.set m (Int.toNat i_) (List.set (List.getD m (Int.toNat i_) []) (Int.toNat j) (if (IntKind.i64.wrap ((List.getD (List.getD m (Int.toNat i_) []) (Int.toNat k_) (0 : Int)) + (List.getD (List.getD m (Int.toNat k_) []) (Int.toNat j) (0 : Int)))) < (List.getD (List.getD m (Int.toNat i_) []) (Int.toNat j) (0 : Int)) then (IntKind.i64.wrap ((List.getD (List.getD m (Int.toNat i_) []) (Int.toNat k_) (0 : Int)) + (List.getD (List.getD m (Int.toNat k_) []) (Int.toNat j) (0 : Int)))) else (List.getD (List.getD m (Int.toNat i_) []) (Int.toNat j) (0 : Int)))));
  k1 n k_ i_ t38 t39 t42 t43 t46 t47 m_)
  none)
  none)
  none)
  none)
  none)
  none)
  none)
  none)
  (k1 n k_ i_ t38 t39 t42 t43 t46 t47 m)
def zqcb {β : Type} (k1 : zqbl β) (n : Int) (k_ : Int) (i_ : Int) (j : Int) (t38 : Int) (t39 : Int) (t42 : Int) (t43 : Int) (t46 : Int) (t47 : Int) (t67 : Bool) (m : List (List Int)) : Option β := zqca k1 n k_ i_ j t38 t39 t42 t43 t46 t47 t67 m
theorem zqcc (hΓ : ΓOk Try.prog (constraint_Close_X c_constraint_Valid c_constraint_direct).Γ) : PieceOk Try.prog 122 0 constraint_Close_p2_code zqbn zqbo (constraint_Close_p2_G (zqcb)) :=
  piece_exec (X := (constraint_Close_X c_constraint_Valid c_constraint_direct)) (p := 115) (Λ := pick1 []) mixed tab_ok hΓ (by kernel_rfl) CutsOk_nil (fun d ks r h => Eq.trans (b := constraint_Close_p2_G (zqcb) d ks) (by kernel_rfl) h)
def zqcd (p2 : zqbm) {β : Type} (rec : Int → Int → Int → Int → Int → Int → Int → Int → Int → (List (List Int)) → Option β) (k1 : zqbp β) (n : Int) (k_ : Int) (i_ : Int) (t38 : Int) (t39 : Int) (t42 : Int) (t43 : Int) (t46 : Int) (t47 : Int) (m : List (List Int)) : Option β :=
  cond (decide (t47 < t46))
  (cond (decide (0 ≤ i_) && decide (i_ < (List.length m : Int)))
  (cond (decide (0 ≤ k_) && decide (k_ < (List.length (List.getD m (Int.toNat i_) []) : Int)))
  (cond (!decide ((List.getD (List.getD m (Int.toNat i_) []) (Int.toNat k_) (0 : Int)) = (1099511627776 : Int)))
  (cond (decide (0 ≤ k_) && decide (k_ < (List.length m : Int)))
  (cond (decide (0 ≤ t47) && decide (t47 < (List.length (List.getD m (Int.toNat k_) []) : Int)))
  (p2 (fun (n2 : Int) (k_2 : Int) (i_2 : Int) (t382 : Int) (t392 : Int) (t422 : Int) (t432 : Int) (t462 : Int) (t472 : Int) (m2 : List (List Int)) =>
  rec n2 k_2 i_2 t382 t392 t422 t432 t462 (IntKind.i64.wrap (t472 + (1 : Int))) m2) n k_ i_ t47 t38 t39 t42 t43 t46 t47 (!decide ((List.getD (List.getD m (Int.toNat k_) []) (Int.toNat t47) (0 : Int)) = (1099511627776 : Int))) m)
  none)
  none)
  (p2 (fun (n2 : Int) (k_2 : Int) (i_2 : Int) (t382 : Int) (t392 : Int) (t422 : Int) (t432 : Int) (t462 : Int) (t472 : Int) (m2 : List (List Int)) =>
  rec n2 k_2 i_2 t382 t392 t422 t432 t462 (IntKind.i64.wrap (t472 + (1 : Int))) m2) n k_ i_ t47 t38 t39 t42 t43 t46 t47 false m))
  none)
  none)
  (k1 n k_ t38 t39 t42 t43 m)
def zqce (p2 : zqbm) {β : Type} : Nat → zqbp β → Int → Int → Int → Int → Int → Int → Int → Int → Int → (List (List Int)) → Option β
  | 0 => fun _ _ _ _ _ _ _ _ _ _ _ => none
  | i + 1 => fun k1 n k_ i_ t38 t39 t42 t43 t46 t47 m => zqcd p2 (zqce p2 i k1) k1 n k_ i_ t38 t39 t42 t43 t46 t47 m
theorem zqcf (hΓ : ΓOk Try.prog (constraint_Close_X c_constraint_Valid c_constraint_direct).Γ) (p2 : zqbm) (hp2 : PieceOk Try.prog 122 0 constraint_Close_p2_code zqbn zqbo (constraint_Close_p2_G p2)) (i : Nat) : PieceOk Try.prog 122 0 constraint_Close_p3_code zqbr zqbs (constraint_Close_p3_G (zqce p2 i)) := by
  rw [show constraint_Close_p3_code = .loop (loopBody constraint_Close_p3_code) by kernel_rfl]
  exact piece_loop (X := (constraint_Close_X c_constraint_Valid c_constraint_direct)) (p := 1) (Λ := pick1 [(115, pieceCut zqbn zqbo (constraint_Close_p2_G p2))]) (G := fun i => @fun β d ks => constraint_Close_p3_G (zqce p2 i) d ks) mixed tab_ok hΓ rfl (by kernel_rfl) (CutsOk_cons (q := 115) (c' := constraint_Close_p2_code) (by kernel_rfl) rfl hp2 CutsOk_nil) (fun _ _ => rfl) (fun i => @fun β d ks r h => Eq.trans (b := constraint_Close_p3_G (zqce p2 (i + 1)) d ks) (by kernel_rfl) h) i
def zqcg (p3 : zqbq) {β : Type} (rec : Int → Int → Int → Int → Int → Int → (List (List Int)) → Option β) (k1 : zqbt β) (n : Int) (k_ : Int) (t38 : Int) (t39 : Int) (t42 : Int) (t43 : Int) (m : List (List Int)) : Option β :=
  cond (decide (t43 < t42))
  (p3 (fun (n2 : Int) (k_2 : Int) (t382 : Int) (t392 : Int) (t422 : Int) (t432 : Int) (m2 : List (List Int)) =>
  rec n2 k_2 t382 t392 t422 (IntKind.i64.wrap (t432 + (1 : Int))) m2) n k_ t43 t38 t39 t42 t43 n (0 : Int) m)
  (k1 n k_ t38 t39 m)
def zqch (p3 : zqbq) {β : Type} : Nat → zqbt β → Int → Int → Int → Int → Int → Int → (List (List Int)) → Option β
  | 0 => fun _ _ _ _ _ _ _ _ => none
  | i + 1 => fun k1 n k_ t38 t39 t42 t43 m => zqcg p3 (zqch p3 i k1) k1 n k_ t38 t39 t42 t43 m
theorem zqci (hΓ : ΓOk Try.prog (constraint_Close_X c_constraint_Valid c_constraint_direct).Γ) (p3 : zqbq) (hp3 : PieceOk Try.prog 122 0 constraint_Close_p3_code zqbr zqbs (constraint_Close_p3_G p3)) (i : Nat) : PieceOk Try.prog 122 0 constraint_Close_p4_code zqbv zqbw (constraint_Close_p4_G (zqch p3 i)) := by
  rw [show constraint_Close_p4_code = .loop (loopBody constraint_Close_p4_code) by kernel_rfl]
  exact piece_loop (X := (constraint_Close_X c_constraint_Valid c_constraint_direct)) (p := 1) (Λ := pick1 [(230, pieceCut zqbr zqbs (constraint_Close_p3_G p3))]) (G := fun i => @fun β d ks => constraint_Close_p4_G (zqch p3 i) d ks) mixed tab_ok hΓ rfl (by kernel_rfl) (CutsOk_cons (q := 230) (c' := constraint_Close_p3_code) (by kernel_rfl) rfl hp3 CutsOk_nil) (fun _ _ => rfl) (fun i => @fun β d ks r h => Eq.trans (b := constraint_Close_p4_G (zqch p3 (i + 1)) d ks) (by kernel_rfl) h) i
def zqcj (p4 : zqbu) {β : Type} (rec : Int → Int → Int → (List (List Int)) → Option β) (k1 : zqbx β) (k2 : zqby β) (n : Int) (t38 : Int) (t39 : Int) (m : List (List Int)) : Option β :=
  cond (decide (t39 < t38))
  (p4 (fun (n2 : Int) (k_ : Int) (t382 : Int) (t392 : Int) (m2 : List (List Int)) =>
  cond (decide (0 ≤ k_) && decide (k_ < (List.length m2 : Int)))
  (cond (decide (0 ≤ k_) && decide (k_ < (List.length (List.getD m2 (Int.toNat k_) []) : Int)))
  (cond (decide ((List.getD (List.getD m2 (Int.toNat k_) []) (Int.toNat k_) (0 : Int)) < (0 : Int)))
  (k1 false ([] : List (List Int)))
  (rec n2 t382 (IntKind.i64.wrap (t392 + (1 : Int))) m2))
  none)
  none) n t39 t38 t39 n (0 : Int) m)
  (k2 n m)
def zqck (p4 : zqbu) {β : Type} : Nat → zqbx β → zqby β → Int → Int → Int → (List (List Int)) → Option β
  | 0 => fun _ _ _ _ _ _ => none
  | i + 1 => fun k1 k2 n t38 t39 m => zqcj p4 (zqck p4 i k1 k2) k1 k2 n t38 t39 m
theorem zqcl (hΓ : ΓOk Try.prog (constraint_Close_X c_constraint_Valid c_constraint_direct).Γ) (p4 : zqbu) (hp4 : PieceOk Try.prog 122 0 constraint_Close_p4_code zqbv zqbw (constraint_Close_p4_G p4)) (i : Nat) : PieceOk Try.prog 122 0 constraint_Close_p5_code zqc0 zqc1 (constraint_Close_p5_G (zqck p4 i)) := by
  rw [show constraint_Close_p5_code = .loop (loopBody constraint_Close_p5_code) by kernel_rfl]
  exact piece_loop (X := (constraint_Close_X c_constraint_Valid c_constraint_direct)) (p := 1) (Λ := pick1 [(458, pieceCut zqbv zqbw (constraint_Close_p4_G p4))]) (G := fun i => @fun β d ks => constraint_Close_p5_G (zqck p4 i) d ks) mixed tab_ok hΓ rfl (by kernel_rfl) (CutsOk_cons (q := 458) (c' := constraint_Close_p4_code) (by kernel_rfl) rfl hp4 CutsOk_nil) (fun _ _ => rfl) (fun i => @fun β d ks r h => Eq.trans (b := constraint_Close_p5_G (zqck p4 (i + 1)) d ks) (by kernel_rfl) h) i
def zqcm {β : Type} (rec : Int → Int → (List (List Int)) → Option β) (k1 : zqc2 β) (k2 : zqc3 β) (t108 : Int) (t109 : Int) (m : List (List Int)) : Option β :=
  cond (decide (t109 < t108))
  (cond (decide (0 ≤ t109) && decide (t109 < (List.length m : Int)))
  (cond (decide (0 ≤ t109) && decide (t109 < (List.length (List.getD m (Int.toNat t109) []) : Int)))
  (cond (decide ((List.getD (List.getD m (Int.toNat t109) []) (Int.toNat t109) (0 : Int)) < (0 : Int)))
  (k1 false ([] : List (List Int)))
  (rec t108 (IntKind.i64.wrap (t109 + (1 : Int))) m))
  none)
  none)
  (k2 m)
def zqcn {β : Type} : Nat → zqc2 β → zqc3 β → Int → Int → (List (List Int)) → Option β
  | 0 => fun _ _ _ _ _ => none
  | i + 1 => fun k1 k2 t108 t109 m => zqcm (zqcn i k1 k2) k1 k2 t108 t109 m
theorem zqco (hΓ : ΓOk Try.prog (constraint_Close_X c_constraint_Valid c_constraint_direct).Γ) (i : Nat) : PieceOk Try.prog 122 0 constraint_Close_p6_code zqc5 zqc6 (constraint_Close_p6_G (zqcn i)) := by
  rw [show constraint_Close_p6_code = .loop (loopBody constraint_Close_p6_code) by kernel_rfl]
  exact piece_loop (X := (constraint_Close_X c_constraint_Valid c_constraint_direct)) (p := 1) (Λ := pick1 []) (G := fun i => @fun β d ks => constraint_Close_p6_G (zqcn i) d ks) mixed tab_ok hΓ rfl (by kernel_rfl) CutsOk_nil (fun _ _ => rfl) (fun i => @fun β d ks r h => Eq.trans (b := constraint_Close_p6_G (zqcn (i + 1)) d ks) (by kernel_rfl) h) i
def zqcp (p1 : zqbi) (p5 : zqbz) (p6 : zqc4) {β : Type} (n : Int) (l : List (Int × (Int × Int))) (k : ((List (List Int)) → Bool → Option β)) : Option β :=
  c_constraint_Valid n l (fun (rValid : Bool) =>
  cond (!rValid)
  (k ([] : List (List Int)) false)
  (c_constraint_direct n l (fun (lrdirect : List (List Int)) =>
  p1 (fun (n2 : Int) (m : List (List Int)) =>
  p5 (fun (t5 : Bool) (t4 : List (List Int)) =>
  k t4 t5) (fun (n3 : Int) (m2 : List (List Int)) =>
  p6 (fun (t5 : Bool) (t4 : List (List Int)) =>
  k t4 t5) (fun (m3 : List (List Int)) =>
  k m3 true) n3 (0 : Int) m2) n2 n2 (0 : Int) m) n n (0 : Int) lrdirect)))
theorem zqcq (hΓ : ΓOk Try.prog (constraint_Close_X c_constraint_Valid c_constraint_direct).Γ) (p1 : zqbi) (p5 : zqbz) (p6 : zqc4) (hp1 : PieceOk Try.prog 122 0 constraint_Close_p1_code zqbj zqbk (constraint_Close_p1_G p1)) (hp5 : PieceOk Try.prog 122 0 constraint_Close_p5_code zqc0 zqc1 (constraint_Close_p5_G p5)) (hp6 : PieceOk Try.prog 122 0 constraint_Close_p6_code zqc5 zqc6 (constraint_Close_p6_G p6)) : SpecOk Try.prog 20 (zqbg (zqcp c_constraint_Valid c_constraint_direct p1 p5 p6)) :=
  spec_exec (X := (constraint_Close_X c_constraint_Valid c_constraint_direct)) (Λ := pick1 [(122, pieceCut zqbj zqbk (constraint_Close_p1_G p1)), (250, pieceCut zqc0 zqc1 (constraint_Close_p5_G p5)), (506, pieceCut zqc5 zqc6 (constraint_Close_p6_G p6))]) (rs := [.tmp 4, .tmp 5]) (c := bodyOf Try.f20) mixed tab_ok hΓ Try.func20 (by kernel_rfl) (by kernel_rfl) (by kernel_rfl) (by kernel_rfl) (CutsOk_cons (q := 122) (c' := constraint_Close_p1_code) (by kernel_rfl) rfl hp1 (CutsOk_cons (q := 250) (c' := constraint_Close_p5_code) (by kernel_rfl) rfl hp5 (CutsOk_cons (q := 506) (c' := constraint_Close_p6_code) (by kernel_rfl) rfl hp6 CutsOk_nil))) (fun x k r h => Eq.trans (b := (zqbg (zqcp c_constraint_Valid c_constraint_direct p1 p5 p6)).run x k) (by kernel_rfl) h)
end
theorem zqcrΓ : ΓOk Try.prog (pick1 [(25, .spec (zqb9 zqbd)), (26, .spec (zq1w zq2x))]) := (ΓOk_cons zqbe (ΓOk_cons zq2y ΓOk_nil))
def zqcs (m : Nat) : zqbi := zqc8 m
theorem zqct {β : Type} (i : Nat) (k1 n t19 t20 m) : (zqcs (i + 1) k1 n t19 t20 m : Option β) = zqc7 (zqcs i k1) k1 n t19 t20 m := rfl
def zqcu : zqbi := zqcs fuel
theorem zqcv : PieceOk Try.prog 122 0 constraint_Close_p1_code zqbj zqbk (constraint_Close_p1_G zqcu) := zqc9 zqbd zq2x zqcrΓ fuel
def zqcw : zqbm := zqcb
theorem zqcx : PieceOk Try.prog 122 0 constraint_Close_p2_code zqbn zqbo (constraint_Close_p2_G zqcw) := zqcc zqbd zq2x zqcrΓ
def zqcy (m : Nat) : zqbq := zqce zqcw m
theorem zqcz {β : Type} (i : Nat) (k1 n k_ i_ t38 t39 t42 t43 t46 t47 m) : (zqcy (i + 1) k1 n k_ i_ t38 t39 t42 t43 t46 t47 m : Option β) = zqcd zqcw (zqcy i k1) k1 n k_ i_ t38 t39 t42 t43 t46 t47 m := rfl
def zqd0 : zqbq := zqcy fuel
theorem zqd1 : PieceOk Try.prog 122 0 constraint_Close_p3_code zqbr zqbs (constraint_Close_p3_G zqd0) := zqcf zqbd zq2x zqcrΓ zqcw zqcx fuel
def zqd2 (m : Nat) : zqbu := zqch zqd0 m
theorem zqd3 {β : Type} (i : Nat) (k1 n k_ t38 t39 t42 t43 m) : (zqd2 (i + 1) k1 n k_ t38 t39 t42 t43 m : Option β) = zqcg zqd0 (zqd2 i k1) k1 n k_ t38 t39 t42 t43 m := rfl
def zqd4 : zqbu := zqd2 fuel
theorem zqd5 : PieceOk Try.prog 122 0 constraint_Close_p4_code zqbv zqbw (constraint_Close_p4_G zqd4) := zqci zqbd zq2x zqcrΓ zqd0 zqd1 fuel
def zqd6 (m : Nat) : zqbz := zqck zqd4 m
theorem zqd7 {β : Type} (i : Nat) (k1 k2 n t38 t39 m) : (zqd6 (i + 1) k1 k2 n t38 t39 m : Option β) = zqcj zqd4 (zqd6 i k1 k2) k1 k2 n t38 t39 m := rfl
def zqd8 : zqbz := zqd6 fuel
theorem zqd9 : PieceOk Try.prog 122 0 constraint_Close_p5_code zqc0 zqc1 (constraint_Close_p5_G zqd8) := zqcl zqbd zq2x zqcrΓ zqd4 zqd5 fuel
def zqda (m : Nat) : zqc4 := zqcn m
theorem zqdb {β : Type} (i : Nat) (k1 k2 t108 t109 m) : (zqda (i + 1) k1 k2 t108 t109 m : Option β) = zqcm (zqda i k1 k2) k1 k2 t108 t109 m := rfl
def zqdc : zqc4 := zqda fuel
theorem zqdd : PieceOk Try.prog 122 0 constraint_Close_p6_code zqc5 zqc6 (constraint_Close_p6_G zqdc) := zqco zqbd zq2x zqcrΓ fuel
def zqde : zqbf := zqcp zqbd zq2x zqcu zqd8 zqdc
theorem zqdf : SpecOk Try.prog 20 (zqbg zqde) := zqcq zqbd zq2x zqcrΓ zqcu zqd8 zqdc zqcv zqd9 zqdd

/-- pagewatch/order.closed -/
abbrev zqdg := {β : Type} → zq2 → ((List (List Int)) → Bool → Option β) → Option β
def zqdh (c : zqdg) : Spec :=
  ⟨[(true, [.data zq3])], [], [(false, [.data (.slice (.slice (.int .i64)))]), (false, [.data .bool])], [], fun x k => c x.1.1.1 (fun r0 r1 => k (((r0, ()), (r1, ()), ()), ()))⟩
section
variable (c_constraint_Close : zqbf) (c_order_Constraints : zq9l)
@[reducible] def order_closed_X : Ctx := ⟨look tab, pick1 [(20, .spec (zqbg c_constraint_Close)), (19, .spec (zq9m c_order_Constraints))], false⟩
def zqdi {β : Type} (r_ : zq2) (k : ((List (List Int)) → Bool → Option β)) : Option β :=
  c_order_Constraints r_ (fun (rConstraints : Bool) (lrConstraints : List (Int × (Int × Int))) =>
  cond (!rConstraints)
  (k ([] : List (List Int)) false)
  (c_constraint_Close (IntKind.i64.wrap ((List.length r_.2.2.1 : Int) + (1 : Int))) lrConstraints (fun (rClose : List (List Int)) (rClose2 : Bool) =>
  k rClose rClose2)))
theorem zqdj (hΓ : ΓOk Try.prog (order_closed_X c_constraint_Close c_order_Constraints).Γ) : SpecOk Try.prog 14 (zqdh (zqdi c_constraint_Close c_order_Constraints)) :=
  spec_exec (X := (order_closed_X c_constraint_Close c_order_Constraints)) (Λ := pick1 []) (rs := [.tmp 2, .tmp 3]) (c := bodyOf Try.f14) mixed tab_ok hΓ Try.func14 (by kernel_rfl) (by kernel_rfl) (by kernel_rfl) (by kernel_rfl) CutsOk_nil (fun x k r h => Eq.trans (b := (zqdh (zqdi c_constraint_Close c_order_Constraints)).run x k) (by kernel_rfl) h)
end
theorem zqdkΓ : ΓOk Try.prog (pick1 [(20, .spec (zqbg zqde)), (19, .spec (zq9m zqaz))]) := (ΓOk_cons zqdf (ΓOk_cons zqb0 ΓOk_nil))
def zqdl : zqdg := zqdi zqde zqaz
theorem zqdm : SpecOk Try.prog 14 (zqdh zqdl) := zqdj zqde zqaz zqdkΓ

/-- pagewatch/order.both -/
abbrev zqdn := {β : Type} → zq2 → Int → Int → ((List (List Int)) → Bool → Option β) → Option β
def zqdo (c : zqdn) : Spec :=
  ⟨[(true, [.data zq3]), (false, [.data (.int .i64)]), (false, [.data (.int .i64)])], [], [(false, [.data (.slice (.slice (.int .i64)))]), (false, [.data .bool])], [], fun x k => c x.1.1.1 x.1.2.1.1 x.1.2.2.1.1 (fun r0 r1 => k (((r0, ()), (r1, ()), ()), ()))⟩
section
variable (c_order_closed : zqdg) (c_order_in : zq1o)
@[reducible] def order_both_X : Ctx := ⟨look tab, pick1 [(14, .spec (zqdh c_order_closed)), (21, .spec (zq1p c_order_in))], false⟩
def zqdp {β : Type} (r_ : zq2) (a : Int) (b : Int) (k : ((List (List Int)) → Bool → Option β)) : Option β :=
  c_order_closed r_ (fun (rclosed : List (List Int)) (rclosed2 : Bool) =>
  cond rclosed2
  (c_order_in a (0 : Int) (IntKind.i64.wrap ((List.length r_.2.2.1 : Int) - (1 : Int))) (fun (rin : Bool) =>
  cond rin
  (c_order_in b (0 : Int) (IntKind.i64.wrap ((List.length r_.2.2.1 : Int) - (1 : Int))) (fun (rin2 : Bool) =>
  k rclosed rin2))
  (k rclosed false)))
  (k rclosed false))
theorem zqdq (hΓ : ΓOk Try.prog (order_both_X c_order_closed c_order_in).Γ) : SpecOk Try.prog 16 (zqdo (zqdp c_order_closed c_order_in)) :=
  spec_exec (X := (order_both_X c_order_closed c_order_in)) (Λ := pick1 []) (rs := [.tmp 6, .tmp 7]) (c := bodyOf Try.f16) mixed tab_ok hΓ Try.func16 (by kernel_rfl) (by kernel_rfl) (by kernel_rfl) (by kernel_rfl) CutsOk_nil (fun x k r h => Eq.trans (b := (zqdo (zqdp c_order_closed c_order_in)).run x k) (by kernel_rfl) h)
end
theorem zqdrΓ : ΓOk Try.prog (pick1 [(14, .spec (zqdh zqdl)), (21, .spec (zq1p zq1t))]) := (ΓOk_cons zqdm (ΓOk_cons zq1u ΓOk_nil))
def zqds : zqdn := zqdp zqdl zq1t
theorem zqdt : SpecOk Try.prog 16 (zqdo zqds) := zqdq zqdl zq1t zqdrΓ

/-- pagewatch/order.When -/
abbrev zqdu := {β : Type} → zq2 → (Bool → (List (Int × Int)) → Option β) → Option β
def zqdv (c : zqdu) : Spec :=
  ⟨[(true, [.data zq3])], [], [(false, [.rowh 0]), (false, [.data .bool])], [.row 47 (.prod (.int .i64) (.int .i64))], fun x k => c x.1.1.1 (fun r0 r1 => k (((), (r0, ()), ()), (r1, ())))⟩
noncomputable def order_When_p1_code : Code := codeAt 250 (bodyOf Try.f8)
abbrev zqdw (β : Type) := (List (Int × Int)) → Option β
abbrev zqdx := {β : Type} → zqdw β → (List (List Int)) → Int → Int → (List (Int × Int)) → Option β
def zqdy : View := ⟨0, [4, 6, 17, 18], [(false, [.data (.slice (.slice (.int .i64)))]), (false, [.rowh 0]), (false, [.data (.int .i64)]), (false, [.data (.int .i64)])], [.row 47 (.prod (.int .i64) (.int .i64))]⟩
def zqdz : List (AExit × View) := [(.exit 0, ⟨0, [6], [(false, [.rowh 0])], [.row 47 (.prod (.int .i64) (.int .i64))]⟩)]
@[reducible] def order_When_p1_G (p : zqdx) {β : Type} (d : zqdy.den) (ks : Outs.K β zqdz) : Option β :=
  p (fun a0 => ks.1 (((), ()), (a0, ()))) d.1.1.1 d.1.2.2.1.1 d.1.2.2.2.1.1 d.2.1
section
variable (c_order_closed : zqdg) (c_order_matrix_when : zq13)
@[reducible] def order_When_X : Ctx := ⟨look tab, pick1 [(14, .spec (zqdh c_order_closed)), (15, .spec (zq14 c_order_matrix_when))], false⟩
def zqe0 {β : Type} (rec : (List (List Int)) → Int → Int → (List (Int × Int)) → Option β) (k1 : zqdw β) (m : List (List Int)) (t17 : Int) (t18 : Int) (out : List (Int × Int)) : Option β :=
  cond (decide (t18 < t17))
  (c_order_matrix_when m t18 (fun (rwhen : (Int × Int)) =>
  let l : List (Int × Int) := ([rwhen] : List (Int × Int));
  cond (decide ((List.length out + List.length l) * 16 ≤ roomMax))
  (let l2 : List (Int × Int) := (out ++ l);
  rec m t17 (IntKind.i64.wrap (t18 + (1 : Int))) l2)
  none))
  (k1 out)
def zqe1 {β : Type} : Nat → zqdw β → (List (List Int)) → Int → Int → (List (Int × Int)) → Option β
  | 0 => fun _ _ _ _ _ => none
  | i + 1 => fun k1 m t17 t18 out => zqe0 c_order_matrix_when (zqe1 i k1) k1 m t17 t18 out
theorem zqe2 (hΓ : ΓOk Try.prog (order_When_X c_order_closed c_order_matrix_when).Γ) (i : Nat) : PieceOk Try.prog 29 0 order_When_p1_code zqdy zqdz (order_When_p1_G (zqe1 c_order_matrix_when i)) := by
  rw [show order_When_p1_code = .loop (loopBody order_When_p1_code) by kernel_rfl]
  exact piece_loop (X := (order_When_X c_order_closed c_order_matrix_when)) (p := 1) (Λ := pick1 []) (G := fun i => @fun β d ks => order_When_p1_G (zqe1 c_order_matrix_when i) d ks) mixed tab_ok hΓ rfl (by kernel_rfl) CutsOk_nil (fun _ _ => rfl) (fun i => @fun β d ks r h => Eq.trans (b := order_When_p1_G (zqe1 c_order_matrix_when (i + 1)) d ks) (by kernel_rfl) h) i
def zqe3 (p1 : zqdx) {β : Type} (r_ : zq2) (k : (Bool → (List (Int × Int)) → Option β)) : Option β :=
  c_order_closed r_ (fun (rclosed : List (List Int)) (rclosed2 : Bool) =>
  cond (!rclosed2)
  (k false ([] : List (Int × Int)))
  (p1 (fun (out : List (Int × Int)) =>
  k true out) rclosed (List.length r_.2.2.1 : Int) (0 : Int) ([] : List (Int × Int))))
theorem zqe4 (hΓ : ΓOk Try.prog (order_When_X c_order_closed c_order_matrix_when).Γ) (p1 : zqdx) (hp1 : PieceOk Try.prog 29 0 order_When_p1_code zqdy zqdz (order_When_p1_G p1)) : SpecOk Try.prog 8 (zqdv (zqe3 c_order_closed p1)) :=
  spec_exec (X := (order_When_X c_order_closed c_order_matrix_when)) (Λ := pick1 [(250, pieceCut zqdy zqdz (order_When_p1_G p1))]) (rs := [.tmp 2, .tmp 3]) (c := bodyOf Try.f8) mixed tab_ok hΓ Try.func8 (by kernel_rfl) (by kernel_rfl) (by kernel_rfl) (by kernel_rfl) (CutsOk_cons (q := 250) (c' := order_When_p1_code) (by kernel_rfl) rfl hp1 CutsOk_nil) (fun x k r h => Eq.trans (b := (zqdv (zqe3 c_order_closed p1)).run x k) (by kernel_rfl) h)
end
theorem zqe5Γ : ΓOk Try.prog (pick1 [(14, .spec (zqdh zqdl)), (15, .spec (zq14 zq18))]) := (ΓOk_cons zqdm (ΓOk_cons zq19 ΓOk_nil))
def zqe6 (m : Nat) : zqdx := zqe1 zq18 m
theorem zqe7 {β : Type} (i : Nat) (k1 m t17 t18 out) : (zqe6 (i + 1) k1 m t17 t18 out : Option β) = zqe0 zq18 (zqe6 i k1) k1 m t17 t18 out := rfl
def zqe8 : zqdx := zqe6 fuel
theorem zqe9 : PieceOk Try.prog 29 0 order_When_p1_code zqdy zqdz (order_When_p1_G zqe8) := zqe2 zqdl zq18 zqe5Γ fuel
def zqea : zqdu := zqe3 zqdl zqe8
theorem zqeb : SpecOk Try.prog 8 (zqdv zqea) := zqe4 zqdl zq18 zqe5Γ zqe8 zqe9

/-- pagewatch/order.Compare -/
abbrev zqec := {β : Type} → zq2 → Int → Int → (Int → Bool → Option β) → Option β
def zqed (c : zqec) : Spec :=
  ⟨[(true, [.data zq3]), (false, [.data (.int .i64)]), (false, [.data (.int .i64)])], [], [(false, [.data (.int .i64)]), (false, [.data .bool])], [], fun x k => c x.1.1.1 x.1.2.1.1 x.1.2.2.1.1 (fun r0 r1 => k (((r0, ()), (r1, ()), ()), ()))⟩
section
variable (c_order_both : zqdn) (c_order_matrix_before : zq1a)
@[reducible] def order_Compare_X : Ctx := ⟨look tab, pick1 [(16, .spec (zqdo c_order_both)), (17, .spec (zq1b c_order_matrix_before))], false⟩
def zqee {β : Type} (r_ : zq2) (a : Int) (b : Int) (k : (Int → Bool → Option β)) : Option β :=
  c_order_both r_ a b (fun (rboth : List (List Int)) (rboth2 : Bool) =>
  cond (!rboth2)
  (k (0 : Int) false)
  (c_order_matrix_before rboth a b (fun (rbefore : Bool) =>
  cond rbefore
  (k (-1 : Int) true)
  (c_order_matrix_before rboth b a (fun (rbefore2 : Bool) =>
  cond rbefore2
  (k (1 : Int) true)
  (k (0 : Int) true))))))
theorem zqef (hΓ : ΓOk Try.prog (order_Compare_X c_order_both c_order_matrix_before).Γ) : SpecOk Try.prog 9 (zqed (zqee c_order_both c_order_matrix_before)) :=
  spec_exec (X := (order_Compare_X c_order_both c_order_matrix_before)) (Λ := pick1 []) (rs := [.tmp 6, .tmp 7]) (c := bodyOf Try.f9) mixed tab_ok hΓ Try.func9 (by kernel_rfl) (by kernel_rfl) (by kernel_rfl) (by kernel_rfl) CutsOk_nil (fun x k r h => Eq.trans (b := (zqed (zqee c_order_both c_order_matrix_before)).run x k) (by kernel_rfl) h)
end
theorem zqegΓ : ΓOk Try.prog (pick1 [(16, .spec (zqdo zqds)), (17, .spec (zq1b zq1f))]) := (ΓOk_cons zqdt (ΓOk_cons zq1g ΓOk_nil))
def zqeh : zqec := zqee zqds zq1f
theorem zqei : SpecOk Try.prog 9 (zqed zqeh) := zqef zqds zq1f zqegΓ

/-- pagewatch/order.Open -/
abbrev zqej := {β : Type} → zq2 → ((List (Int × Int)) → Option β) → Option β
def zqek (c : zqej) : Spec :=
  ⟨[(true, [.data zq3])], [], [(false, [.rowh 0])], [.row 68 (.prod (.int .i64) (.int .i64))], fun x k => c x.1.1.1 (fun r0 => k (((), ()), (r0, ())))⟩
noncomputable def order_Open_p2_code : Code := codeAt 122 (bodyOf Try.f11)
noncomputable def order_Open_p1_code : Code := codeAt 230 (loopBody order_Open_p2_code)
abbrev zqel (β : Type) := (List (List Int)) → Bool → Int → Int → (List (List UInt8 × Int)) → (List (Int × (Int × (Int × Int)))) → (List zq0) → (List (Int × (Int × Int))) → (List (Int × Int)) → Option β
abbrev zqem := {β : Type} → zqel β → (List (List Int)) → Bool → Int → Int → Int → Int → (List (List UInt8 × Int)) → (List (Int × (Int × (Int × Int)))) → (List zq0) → (List (Int × (Int × Int))) → (List (Int × Int)) → Option β
def zqen : View := ⟨0, [1, 3, 4, 5, 6, 7, 15, 16], [(false, [.ptr 0 0]), (false, [.data (.slice (.slice (.int .i64)))]), (false, [.data .bool]), (false, [.rowh 1]), (false, [.data (.int .i64)]), (false, [.data (.int .i64)]), (false, [.data (.int .i64)]), (false, [.data (.int .i64)])], [.cells 33 [.data (.slice (.prod .str (.int .i64))), .data (.slice (.prod (.int .i64) (.prod (.int .i64) (.prod (.int .i64) (.int .i64))))), .data (.slice zq1), .data (.slice (.prod (.int .i64) (.prod (.int .i64) (.int .i64))))], .row 68 (.prod (.int .i64) (.int .i64))]⟩
def zqeo : List (AExit × View) := [(.exit 2, ⟨0, [1, 3, 4, 5, 15, 16], [(false, [.ptr 0 0]), (false, [.data (.slice (.slice (.int .i64)))]), (false, [.data .bool]), (false, [.rowh 1]), (false, [.data (.int .i64)]), (false, [.data (.int .i64)])], [.cells 33 [.data (.slice (.prod .str (.int .i64))), .data (.slice (.prod (.int .i64) (.prod (.int .i64) (.prod (.int .i64) (.int .i64))))), .data (.slice zq1), .data (.slice (.prod (.int .i64) (.prod (.int .i64) (.int .i64))))], .row 68 (.prod (.int .i64) (.int .i64))]⟩)]
@[reducible] def order_Open_p1_G (p : zqem) {β : Type} (d : zqen.den) (ks : Outs.K β zqeo) : Option β :=
  p (fun a0 a1 a2 a3 a4 a5 a6 a7 a8 => ks.1 (((), (a0, ()), (a1, ()), (), (a2, ()), (a3, ()), ()), ((a4, a5, a6, a7, ()), a8, ()))) d.1.2.1.1 d.1.2.2.1.1 d.1.2.2.2.2.1.1 d.1.2.2.2.2.2.1.1 d.1.2.2.2.2.2.2.1.1 d.1.2.2.2.2.2.2.2.1.1 d.2.1.1 d.2.1.2.1 d.2.1.2.2.1 d.2.1.2.2.2.1 d.2.2.1
abbrev zqep (β : Type) := (List (Int × Int)) → Option β
abbrev zqeq := {β : Type} → zqep β → (List (List Int)) → Bool → Int → Int → (List (List UInt8 × Int)) → (List (Int × (Int × (Int × Int)))) → (List zq0) → (List (Int × (Int × Int))) → (List (Int × Int)) → Option β
def zqer : View := ⟨0, [1, 3, 4, 5, 15, 16], [(false, [.ptr 0 0]), (false, [.data (.slice (.slice (.int .i64)))]), (false, [.data .bool]), (false, [.rowh 1]), (false, [.data (.int .i64)]), (false, [.data (.int .i64)])], [.cells 33 [.data (.slice (.prod .str (.int .i64))), .data (.slice (.prod (.int .i64) (.prod (.int .i64) (.prod (.int .i64) (.int .i64))))), .data (.slice zq1), .data (.slice (.prod (.int .i64) (.prod (.int .i64) (.int .i64))))], .row 68 (.prod (.int .i64) (.int .i64))]⟩
def zqes : List (AExit × View) := [(.exit 0, ⟨0, [5], [(false, [.rowh 0])], [.row 68 (.prod (.int .i64) (.int .i64))]⟩)]
@[reducible] def order_Open_p2_G (p : zqeq) {β : Type} (d : zqer.den) (ks : Outs.K β zqes) : Option β :=
  p (fun a0 => ks.1 (((), ()), (a0, ()))) d.1.2.1.1 d.1.2.2.1.1 d.1.2.2.2.2.1.1 d.1.2.2.2.2.2.1.1 d.2.1.1 d.2.1.2.1 d.2.1.2.2.1 d.2.1.2.2.2.1 d.2.2.1
section
variable (c_order_closed : zqdg) (c_order_matrix_open : zq1h)
@[reducible] def order_Open_X : Ctx := ⟨look tab, pick1 [(14, .spec (zqdh c_order_closed)), (18, .spec (zq1i c_order_matrix_open))], false⟩
def zqet {β : Type} (rec : (List (List Int)) → Bool → Int → Int → Int → Int → (List (List UInt8 × Int)) → (List (Int × (Int × (Int × Int)))) → (List zq0) → (List (Int × (Int × Int))) → (List (Int × Int)) → Option β) (k1 : zqel β) (m : List (List Int)) (ok : Bool) (a : Int) (b : Int) (t15 : Int) (t16 : Int) (r_ : List (List UInt8 × Int)) (r_2 : List (Int × (Int × (Int × Int)))) (r_3 : List zq0) (r_4 : List (Int × (Int × Int))) (out : List (Int × Int)) : Option β :=
  cond (decide (b < (List.length r_3 : Int)))
  (cond ok
  (c_order_matrix_open m a b (fun (ropen : Bool) =>
  cond ropen
  (let l : List (Int × Int) := ([(a, b)] : List (Int × Int));
  cond (decide ((List.length out + List.length l) * 16 ≤ roomMax))
  (let l2 : List (Int × Int) := (out ++ l);
  let b2 : Int := (IntKind.i64.wrap (b + (1 : Int)));
  rec m ok a b2 t15 t16 r_ r_2 r_3 r_4 l2)
  none)
  (let b2 : Int := (IntKind.i64.wrap (b + (1 : Int)));
  rec m ok a b2 t15 t16 r_ r_2 r_3 r_4 out)))
  (k1 m ok t15 t16 r_ r_2 r_3 r_4 out))
  (k1 m ok t15 t16 r_ r_2 r_3 r_4 out)
def zqeu {β : Type} : Nat → zqel β → (List (List Int)) → Bool → Int → Int → Int → Int → (List (List UInt8 × Int)) → (List (Int × (Int × (Int × Int)))) → (List zq0) → (List (Int × (Int × Int))) → (List (Int × Int)) → Option β
  | 0 => fun _ _ _ _ _ _ _ _ _ _ _ _ => none
  | i + 1 => fun k1 m ok a b t15 t16 r_ r_2 r_3 r_4 out => zqet c_order_matrix_open (zqeu i k1) k1 m ok a b t15 t16 r_ r_2 r_3 r_4 out
theorem zqev (hΓ : ΓOk Try.prog (order_Open_X c_order_closed c_order_matrix_open).Γ) (i : Nat) : PieceOk Try.prog 43 0 order_Open_p1_code zqen zqeo (order_Open_p1_G (zqeu c_order_matrix_open i)) := by
  rw [show order_Open_p1_code = .loop (loopBody order_Open_p1_code) by kernel_rfl]
  exact piece_loop (X := (order_Open_X c_order_closed c_order_matrix_open)) (p := 1) (Λ := pick1 []) (G := fun i => @fun β d ks => order_Open_p1_G (zqeu c_order_matrix_open i) d ks) mixed tab_ok hΓ rfl (by kernel_rfl) CutsOk_nil (fun _ _ => rfl) (fun i => @fun β d ks r h => Eq.trans (b := order_Open_p1_G (zqeu c_order_matrix_open (i + 1)) d ks) (by kernel_rfl) h) i
def zqew (p1 : zqem) {β : Type} (rec : (List (List Int)) → Bool → Int → Int → (List (List UInt8 × Int)) → (List (Int × (Int × (Int × Int)))) → (List zq0) → (List (Int × (Int × Int))) → (List (Int × Int)) → Option β) (k1 : zqep β) (m : List (List Int)) (ok : Bool) (t15 : Int) (t16 : Int) (r_ : List (List UInt8 × Int)) (r_2 : List (Int × (Int × (Int × Int)))) (r_3 : List zq0) (r_4 : List (Int × (Int × Int))) (out : List (Int × Int)) : Option β :=
  cond (decide (t16 < t15))
  (let b : Int := (IntKind.i64.wrap (t16 + (1 : Int)));
  p1 (fun (m2 : List (List Int)) (ok2 : Bool) (t152 : Int) (t162 : Int) (r_5 : List (List UInt8 × Int)) (r_6 : List (Int × (Int × (Int × Int)))) (r_7 : List zq0) (r_8 : List (Int × (Int × Int))) (out2 : List (Int × Int)) =>
  rec m2 ok2 t152 (IntKind.i64.wrap (t162 + (1 : Int))) r_5 r_6 r_7 r_8 out2) m ok t16 b t15 t16 r_ r_2 r_3 r_4 out)
  (k1 out)
def zqex (p1 : zqem) {β : Type} : Nat → zqep β → (List (List Int)) → Bool → Int → Int → (List (List UInt8 × Int)) → (List (Int × (Int × (Int × Int)))) → (List zq0) → (List (Int × (Int × Int))) → (List (Int × Int)) → Option β
  | 0 => fun _ _ _ _ _ _ _ _ _ _ => none
  | i + 1 => fun k1 m ok t15 t16 r_ r_2 r_3 r_4 out => zqew p1 (zqex p1 i k1) k1 m ok t15 t16 r_ r_2 r_3 r_4 out
theorem zqey (hΓ : ΓOk Try.prog (order_Open_X c_order_closed c_order_matrix_open).Γ) (p1 : zqem) (hp1 : PieceOk Try.prog 43 0 order_Open_p1_code zqen zqeo (order_Open_p1_G p1)) (i : Nat) : PieceOk Try.prog 43 0 order_Open_p2_code zqer zqes (order_Open_p2_G (zqex p1 i)) := by
  rw [show order_Open_p2_code = .loop (loopBody order_Open_p2_code) by kernel_rfl]
  exact piece_loop (X := (order_Open_X c_order_closed c_order_matrix_open)) (p := 1) (Λ := pick1 [(230, pieceCut zqen zqeo (order_Open_p1_G p1))]) (G := fun i => @fun β d ks => order_Open_p2_G (zqex p1 i) d ks) mixed tab_ok hΓ rfl (by kernel_rfl) (CutsOk_cons (q := 230) (c' := order_Open_p1_code) (by kernel_rfl) rfl hp1 CutsOk_nil) (fun _ _ => rfl) (fun i => @fun β d ks r h => Eq.trans (b := order_Open_p2_G (zqex p1 (i + 1)) d ks) (by kernel_rfl) h) i
def zqez (p2 : zqeq) {β : Type} (r_ : zq2) (k : ((List (Int × Int)) → Option β)) : Option β :=
  c_order_closed r_ (fun (rclosed : List (List Int)) (rclosed2 : Bool) =>
  p2 (fun (out : List (Int × Int)) =>
  k out) rclosed rclosed2 (List.length r_.2.2.1 : Int) (0 : Int) r_.1 r_.2.1 r_.2.2.1 r_.2.2.2 ([] : List (Int × Int)))
theorem zqf0 (hΓ : ΓOk Try.prog (order_Open_X c_order_closed c_order_matrix_open).Γ) (p2 : zqeq) (hp2 : PieceOk Try.prog 43 0 order_Open_p2_code zqer zqes (order_Open_p2_G p2)) : SpecOk Try.prog 11 (zqek (zqez c_order_closed p2)) :=
  spec_exec (X := (order_Open_X c_order_closed c_order_matrix_open)) (Λ := pick1 [(122, pieceCut zqer zqes (order_Open_p2_G p2))]) (rs := [.tmp 2]) (c := bodyOf Try.f11) mixed tab_ok hΓ Try.func11 (by kernel_rfl) (by kernel_rfl) (by kernel_rfl) (by kernel_rfl) (CutsOk_cons (q := 122) (c' := order_Open_p2_code) (by kernel_rfl) rfl hp2 CutsOk_nil) (fun x k r h => Eq.trans (b := (zqek (zqez c_order_closed p2)).run x k) (by kernel_rfl) h)
end
theorem zqf1Γ : ΓOk Try.prog (pick1 [(14, .spec (zqdh zqdl)), (18, .spec (zq1i zq1m))]) := (ΓOk_cons zqdm (ΓOk_cons zq1n ΓOk_nil))
def zqf2 (m : Nat) : zqem := zqeu zq1m m
theorem zqf3 {β : Type} (i : Nat) (k1 m ok a b t15 t16 r_ r_2 r_3 r_4 out) : (zqf2 (i + 1) k1 m ok a b t15 t16 r_ r_2 r_3 r_4 out : Option β) = zqet zq1m (zqf2 i k1) k1 m ok a b t15 t16 r_ r_2 r_3 r_4 out := rfl
def zqf4 : zqem := zqf2 fuel
theorem zqf5 : PieceOk Try.prog 43 0 order_Open_p1_code zqen zqeo (order_Open_p1_G zqf4) := zqev zqdl zq1m zqf1Γ fuel
def zqf6 (m : Nat) : zqeq := zqex zqf4 m
theorem zqf7 {β : Type} (i : Nat) (k1 m ok t15 t16 r_ r_2 r_3 r_4 out) : (zqf6 (i + 1) k1 m ok t15 t16 r_ r_2 r_3 r_4 out : Option β) = zqew zqf4 (zqf6 i k1) k1 m ok t15 t16 r_ r_2 r_3 r_4 out := rfl
def zqf8 : zqeq := zqf6 fuel
theorem zqf9 : PieceOk Try.prog 43 0 order_Open_p2_code zqer zqes (order_Open_p2_G zqf8) := zqey zqdl zq1m zqf1Γ zqf4 zqf5 fuel
def zqfa : zqej := zqez zqdl zqf8
theorem zqfb : SpecOk Try.prog 11 (zqek zqfa) := zqf0 zqdl zq1m zqf1Γ zqf8 zqf9

/-- pagewatch/pagewatchlaw40.sane -/
abbrev zqfc := {β : Type} → (Bool → Option β) → Option β
def zqfd (c : zqfc) : Spec :=
  ⟨[], [], [(false, [.data .bool])], [], fun x k => c  (fun r0 => k (((r0, ()), ()), ()))⟩
section
variable (c_law40_two : zqi) (c_order_Compare : zqec) (c_order_Open : zqej)
@[reducible] def law40_sane_X : Ctx := ⟨look tab, pick1 [(10, .spec (zqj c_law40_two)), (9, .spec (zqed c_order_Compare)), (11, .spec (zqek c_order_Open))], false⟩
def zqfe {β : Type} (k : (Bool → Option β)) : Option β :=
  c_law40_two  (fun (rtwo : zq2) =>
  c_order_Compare rtwo (0 : Int) (1 : Int) (fun (rCompare : Int) (rCompare2 : Bool) =>
  c_order_Open rtwo (fun (lrOpen : List (Int × Int)) =>
  let l : List (Int × (Int × Int)) := ([((0 : Int), ((1 : Int), (1 : Int)))] : List (Int × (Int × Int)));
  c_order_Compare (rtwo.1, (rtwo.2.1, (rtwo.2.2.1, l))) (0 : Int) (1 : Int) (fun (rCompare3 : Int) (rCompare4 : Bool) =>
  cond rCompare2
  (cond (decide (rCompare = (0 : Int)))
  (cond (decide ((List.length lrOpen : Int) = (1 : Int)))
  (cond rCompare4
  (cond (decide (rCompare3 = (-1 : Int)))
  (c_order_Open (rtwo.1, (rtwo.2.1, (rtwo.2.2.1, l))) (fun (lrOpen2 : List (Int × Int)) =>
  let t : Bool := (decide ((List.length lrOpen2 : Int) = (0 : Int)));
  k t))
  (k false))
  (k false))
  (k false))
  (k false))
  (k false)))))
theorem zqff (hΓ : ΓOk Try.prog (law40_sane_X c_law40_two c_order_Compare c_order_Open).Γ) : SpecOk Try.prog 5 (zqfd (zqfe c_law40_two c_order_Compare c_order_Open)) :=
  spec_exec (X := (law40_sane_X c_law40_two c_order_Compare c_order_Open)) (Λ := pick1 []) (rs := [.tmp 0]) (c := bodyOf Try.f5) mixed tab_ok hΓ Try.func5 (by kernel_rfl) (by kernel_rfl) (by kernel_rfl) (by kernel_rfl) CutsOk_nil (fun x k r h => Eq.trans (b := (zqfd (zqfe c_law40_two c_order_Compare c_order_Open)).run x k) (by kernel_rfl) h)
end
theorem zqfgΓ : ΓOk Try.prog (pick1 [(10, .spec (zqj zqn)), (9, .spec (zqed zqeh)), (11, .spec (zqek zqfa))]) := (ΓOk_cons zqo (ΓOk_cons zqei (ΓOk_cons zqfb ΓOk_nil)))
def zqfh : zqfc := zqfe zqn zqeh zqfa
theorem zqfi : SpecOk Try.prog 5 (zqfd zqfh) := zqff zqn zqeh zqfa zqfgΓ
end
end Go.Lift
namespace Go.Lift
open Go.Proofs
noncomputable section
set_option maxRecDepth 100000
set_option linter.unusedVariables false

/-- pagewatch/pagewatchlaw40.OrderMoves -/
abbrev zqfj := {β : Type} → (List Int) → Int → (Bool → Option β) → Option β
def zqfk (c : zqfj) : Spec :=
  ⟨[(false, [.data (.slice (.int .i64))]), (false, [.data (.int .u16)])], [], [(false, [.data .bool])], [], fun x k => c x.1.1.1 x.1.2.1.1 (fun r0 => k (((r0, ()), ()), ()))⟩
noncomputable def law40_OrderMoves_p1_code : Code := codeAt 4090 (bodyOf Try.f3)
noncomputable def law40_OrderMoves_p2_code : Code := codeAt 16378 (bodyOf Try.f3)
noncomputable def law40_OrderMoves_p3_code : Code := codeAt 131066 (bodyOf Try.f3)
noncomputable def law40_OrderMoves_p4_code : Code := codeAt 262138 (bodyOf Try.f3)
noncomputable def law40_OrderMoves_p7_code : Code := codeAt 8388602 (bodyOf Try.f3)
noncomputable def law40_OrderMoves_p5_code : Code := codeAt 102 (loopBody law40_OrderMoves_p7_code)
noncomputable def law40_OrderMoves_p6_code : Code := codeAt 25 (loopBody law40_OrderMoves_p7_code)
abbrev zqfl (β : Type) := Int → Int → (List (List UInt8 × Int)) → (List (Int × (Int × (Int × Int)))) → (List zq0) → (List (Int × (Int × Int))) → (List (List UInt8 × Int)) → (List zq0) → (List (Int × (Int × Int))) → (List Bool) → (List (Int × (Int × (Int × Int)))) → Option β
abbrev zqfm := {β : Type} → zqfl β → Int → Int → (List (Int × (Int × (Int × Int)))) → Int → Int → (List (List UInt8 × Int)) → (List (Int × (Int × (Int × Int)))) → (List zq0) → (List (Int × (Int × Int))) → (List (List UInt8 × Int)) → (List zq0) → (List (Int × (Int × Int))) → (List Bool) → (List (Int × (Int × (Int × Int)))) → Option β
def zqfn : View := ⟨0, [1, 6, 8, 9, 10, 54, 55, 56], [(false, [.data (.int .u16)]), (false, [.ptr 0 0]), (false, [.data (.int .i64)]), (false, [.ptr 1 0]), (false, [.rowh 2]), (false, [.data (.slice (.prod (.int .i64) (.prod (.int .i64) (.prod (.int .i64) (.int .i64)))))]), (false, [.data (.int .i64)]), (false, [.data (.int .i64)])], [.cells 33 [.data (.slice (.prod .str (.int .i64))), .data (.slice (.prod (.int .i64) (.prod (.int .i64) (.prod (.int .i64) (.int .i64))))), .data (.slice zq1), .data (.slice (.prod (.int .i64) (.prod (.int .i64) (.int .i64))))], .cells 33 [.data (.slice (.prod .str (.int .i64))), .rowh 3, .data (.slice zq1), .data (.slice (.prod (.int .i64) (.prod (.int .i64) (.int .i64))))], .row 4 .bool, .row 38 (.prod (.int .i64) (.prod (.int .i64) (.prod (.int .i64) (.int .i64))))]⟩
def zqfo : List (AExit × View) := [(.exit 0, ⟨0, [1, 6, 8, 9, 10], [(false, [.data (.int .u16)]), (false, [.ptr 0 0]), (false, [.data (.int .i64)]), (false, [.ptr 1 0]), (false, [.rowh 2])], [.cells 33 [.data (.slice (.prod .str (.int .i64))), .data (.slice (.prod (.int .i64) (.prod (.int .i64) (.prod (.int .i64) (.int .i64))))), .data (.slice zq1), .data (.slice (.prod (.int .i64) (.prod (.int .i64) (.int .i64))))], .cells 33 [.data (.slice (.prod .str (.int .i64))), .rowh 3, .data (.slice zq1), .data (.slice (.prod (.int .i64) (.prod (.int .i64) (.int .i64))))], .row 4 .bool, .row 38 (.prod (.int .i64) (.prod (.int .i64) (.prod (.int .i64) (.int .i64))))]⟩)]
@[reducible] def law40_OrderMoves_p1_G (p : zqfm) {β : Type} (d : zqfn.den) (ks : Outs.K β zqfo) : Option β :=
  p (fun a0 a1 a2 a3 a4 a5 a6 a7 a8 a9 a10 => ks.1 (((a0, ()), (), (a1, ()), (), (), ()), ((a2, a3, a4, a5, ()), (a6, a7, a8, ()), a9, a10, ()))) d.1.1.1 d.1.2.2.1.1 d.1.2.2.2.2.2.1.1 d.1.2.2.2.2.2.2.1.1 d.1.2.2.2.2.2.2.2.1.1 d.2.1.1 d.2.1.2.1 d.2.1.2.2.1 d.2.1.2.2.2.1 d.2.2.1.1 d.2.2.1.2.1 d.2.2.1.2.2.1 d.2.2.2.1 d.2.2.2.2.1
abbrev zqfp (β : Type) := Int → Int → Bool → (List (List UInt8 × Int)) → (List (Int × (Int × (Int × Int)))) → (List zq0) → (List (Int × (Int × Int))) → (List (List UInt8 × Int)) → (List zq0) → (List (Int × (Int × Int))) → (List (Int × (Int × (Int × Int)))) → Option β
abbrev zqfq := {β : Type} → zqfp β → Int → Int → Bool → (List zq0) → Int → Int → (List (List UInt8 × Int)) → (List (Int × (Int × (Int × Int)))) → (List zq0) → (List (Int × (Int × Int))) → (List (List UInt8 × Int)) → (List zq0) → (List (Int × (Int × Int))) → (List Bool) → (List (Int × (Int × (Int × Int)))) → Option β
def zqfr : View := ⟨0, [1, 6, 8, 9, 10, 13, 84, 85, 86], [(false, [.data (.int .u16)]), (false, [.ptr 0 0]), (false, [.data (.int .i64)]), (false, [.ptr 1 0]), (false, [.rowh 2]), (false, [.data .bool]), (false, [.data (.slice zq1)]), (false, [.data (.int .i64)]), (false, [.data (.int .i64)])], [.cells 33 [.data (.slice (.prod .str (.int .i64))), .data (.slice (.prod (.int .i64) (.prod (.int .i64) (.prod (.int .i64) (.int .i64))))), .data (.slice zq1), .data (.slice (.prod (.int .i64) (.prod (.int .i64) (.int .i64))))], .cells 33 [.data (.slice (.prod .str (.int .i64))), .rowh 3, .data (.slice zq1), .data (.slice (.prod (.int .i64) (.prod (.int .i64) (.int .i64))))], .row 4 .bool, .row 38 (.prod (.int .i64) (.prod (.int .i64) (.prod (.int .i64) (.int .i64))))]⟩
def zqfs : List (AExit × View) := [(.exit 2, ⟨0, [1, 6, 8, 9, 13], [(false, [.data (.int .u16)]), (false, [.ptr 0 0]), (false, [.data (.int .i64)]), (false, [.ptr 1 0]), (false, [.data .bool])], [.cells 33 [.data (.slice (.prod .str (.int .i64))), .data (.slice (.prod (.int .i64) (.prod (.int .i64) (.prod (.int .i64) (.int .i64))))), .data (.slice zq1), .data (.slice (.prod (.int .i64) (.prod (.int .i64) (.int .i64))))], .cells 33 [.data (.slice (.prod .str (.int .i64))), .rowh 2, .data (.slice zq1), .data (.slice (.prod (.int .i64) (.prod (.int .i64) (.int .i64))))], .row 38 (.prod (.int .i64) (.prod (.int .i64) (.prod (.int .i64) (.int .i64))))]⟩)]
@[reducible] def law40_OrderMoves_p2_G (p : zqfq) {β : Type} (d : zqfr.den) (ks : Outs.K β zqfs) : Option β :=
  p (fun a0 a1 a2 a3 a4 a5 a6 a7 a8 a9 a10 => ks.1 (((a0, ()), (), (a1, ()), (), (a2, ()), ()), ((a3, a4, a5, a6, ()), (a7, a8, a9, ()), a10, ()))) d.1.1.1 d.1.2.2.1.1 d.1.2.2.2.2.2.1.1 d.1.2.2.2.2.2.2.1.1 d.1.2.2.2.2.2.2.2.1.1 d.1.2.2.2.2.2.2.2.2.1.1 d.2.1.1 d.2.1.2.1 d.2.1.2.2.1 d.2.1.2.2.2.1 d.2.2.1.1 d.2.2.1.2.1 d.2.2.1.2.2.1 d.2.2.2.1 d.2.2.2.2.1
abbrev zqft (β : Type) := Int → Int → Bool → (List (List UInt8 × Int)) → (List (Int × (Int × (Int × Int)))) → (List zq0) → (List (Int × (Int × Int))) → (List (List UInt8 × Int)) → (List zq0) → (List (Int × (Int × Int))) → (List (List UInt8 × Int)) → (List (Int × (Int × (Int × Int)))) → (List (Int × (Int × (Int × Int)))) → (List zq0) → (List (Int × (Int × Int))) → Option β
abbrev zqfu := {β : Type} → zqft β → Int → Int → Bool → Int → (List (List UInt8 × Int)) → (List (Int × (Int × (Int × Int)))) → (List zq0) → (List (Int × (Int × Int))) → (List (List UInt8 × Int)) → (List zq0) → (List (Int × (Int × Int))) → (List (List UInt8 × Int)) → (List (Int × (Int × (Int × Int)))) → (List (Int × (Int × (Int × Int)))) → (List zq0) → (List (Int × (Int × Int))) → Option β
def zqfv : View := ⟨0, [1, 6, 8, 9, 13, 16, 17], [(false, [.data (.int .u16)]), (false, [.ptr 0 0]), (false, [.data (.int .i64)]), (false, [.ptr 1 0]), (false, [.data .bool]), (false, [.ptr 2 0]), (false, [.data (.int .i64)])], [.cells 33 [.data (.slice (.prod .str (.int .i64))), .data (.slice (.prod (.int .i64) (.prod (.int .i64) (.prod (.int .i64) (.int .i64))))), .data (.slice zq1), .data (.slice (.prod (.int .i64) (.prod (.int .i64) (.int .i64))))], .cells 33 [.data (.slice (.prod .str (.int .i64))), .rowh 3, .data (.slice zq1), .data (.slice (.prod (.int .i64) (.prod (.int .i64) (.int .i64))))], .cells 33 [.data (.slice (.prod .str (.int .i64))), .data (.slice (.prod (.int .i64) (.prod (.int .i64) (.prod (.int .i64) (.int .i64))))), .rowh 4, .rowh 5], .row 38 (.prod (.int .i64) (.prod (.int .i64) (.prod (.int .i64) (.int .i64)))), .row 40 zq1, .row 42 (.prod (.int .i64) (.prod (.int .i64) (.int .i64)))]⟩
def zqfw : List (AExit × View) := [(.exit 4, ⟨0, [1, 6, 8, 9, 13, 16], [(false, [.data (.int .u16)]), (false, [.ptr 0 0]), (false, [.data (.int .i64)]), (false, [.ptr 1 0]), (false, [.data .bool]), (false, [.ptr 2 0])], [.cells 33 [.data (.slice (.prod .str (.int .i64))), .data (.slice (.prod (.int .i64) (.prod (.int .i64) (.prod (.int .i64) (.int .i64))))), .data (.slice zq1), .data (.slice (.prod (.int .i64) (.prod (.int .i64) (.int .i64))))], .cells 33 [.data (.slice (.prod .str (.int .i64))), .rowh 3, .data (.slice zq1), .data (.slice (.prod (.int .i64) (.prod (.int .i64) (.int .i64))))], .cells 33 [.data (.slice (.prod .str (.int .i64))), .data (.slice (.prod (.int .i64) (.prod (.int .i64) (.prod (.int .i64) (.int .i64))))), .rowh 4, .rowh 5], .row 38 (.prod (.int .i64) (.prod (.int .i64) (.prod (.int .i64) (.int .i64)))), .row 40 zq1, .row 42 (.prod (.int .i64) (.prod (.int .i64) (.int .i64)))]⟩)]
@[reducible] def law40_OrderMoves_p3_G (p : zqfu) {β : Type} (d : zqfv.den) (ks : Outs.K β zqfw) : Option β :=
  p (fun a0 a1 a2 a3 a4 a5 a6 a7 a8 a9 a10 a11 a12 a13 a14 => ks.1 (((a0, ()), (), (a1, ()), (), (a2, ()), (), ()), ((a3, a4, a5, a6, ()), (a7, a8, a9, ()), (a10, a11, ()), a12, a13, a14, ()))) d.1.1.1 d.1.2.2.1.1 d.1.2.2.2.2.1.1 d.1.2.2.2.2.2.2.1.1 d.2.1.1 d.2.1.2.1 d.2.1.2.2.1 d.2.1.2.2.2.1 d.2.2.1.1 d.2.2.1.2.1 d.2.2.1.2.2.1 d.2.2.2.1.1 d.2.2.2.1.2.1 d.2.2.2.2.1 d.2.2.2.2.2.1 d.2.2.2.2.2.2.1
abbrev zqfx (β : Type) := Int → Int → Bool → (List (List UInt8 × Int)) → (List (Int × (Int × (Int × Int)))) → (List zq0) → (List (Int × (Int × Int))) → (List (List UInt8 × Int)) → (List zq0) → (List (Int × (Int × Int))) → (List (List UInt8 × Int)) → (List (Int × (Int × (Int × Int)))) → (List (Int × (Int × (Int × Int)))) → (List zq0) → (List (Int × (Int × Int))) → Option β
abbrev zqfy := {β : Type} → zqfx β → Int → Int → Bool → (List (Int × (Int × Int))) → Int → Int → (List (List UInt8 × Int)) → (List (Int × (Int × (Int × Int)))) → (List zq0) → (List (Int × (Int × Int))) → (List (List UInt8 × Int)) → (List zq0) → (List (Int × (Int × Int))) → (List (List UInt8 × Int)) → (List (Int × (Int × (Int × Int)))) → (List (Int × (Int × (Int × Int)))) → (List zq0) → (List (Int × (Int × Int))) → Option β
def zqfz : View := ⟨0, [1, 6, 8, 9, 13, 16, 119, 120, 121], [(false, [.data (.int .u16)]), (false, [.ptr 0 0]), (false, [.data (.int .i64)]), (false, [.ptr 1 0]), (false, [.data .bool]), (false, [.ptr 2 0]), (false, [.data (.slice (.prod (.int .i64) (.prod (.int .i64) (.int .i64))))]), (false, [.data (.int .i64)]), (false, [.data (.int .i64)])], [.cells 33 [.data (.slice (.prod .str (.int .i64))), .data (.slice (.prod (.int .i64) (.prod (.int .i64) (.prod (.int .i64) (.int .i64))))), .data (.slice zq1), .data (.slice (.prod (.int .i64) (.prod (.int .i64) (.int .i64))))], .cells 33 [.data (.slice (.prod .str (.int .i64))), .rowh 3, .data (.slice zq1), .data (.slice (.prod (.int .i64) (.prod (.int .i64) (.int .i64))))], .cells 33 [.data (.slice (.prod .str (.int .i64))), .data (.slice (.prod (.int .i64) (.prod (.int .i64) (.prod (.int .i64) (.int .i64))))), .rowh 4, .rowh 5], .row 38 (.prod (.int .i64) (.prod (.int .i64) (.prod (.int .i64) (.int .i64)))), .row 40 zq1, .row 42 (.prod (.int .i64) (.prod (.int .i64) (.int .i64)))]⟩
def zqg0 : List (AExit × View) := [(.exit 6, ⟨0, [1, 6, 8, 9, 13, 16], [(false, [.data (.int .u16)]), (false, [.ptr 0 0]), (false, [.data (.int .i64)]), (false, [.ptr 1 0]), (false, [.data .bool]), (false, [.ptr 2 0])], [.cells 33 [.data (.slice (.prod .str (.int .i64))), .data (.slice (.prod (.int .i64) (.prod (.int .i64) (.prod (.int .i64) (.int .i64))))), .data (.slice zq1), .data (.slice (.prod (.int .i64) (.prod (.int .i64) (.int .i64))))], .cells 33 [.data (.slice (.prod .str (.int .i64))), .rowh 3, .data (.slice zq1), .data (.slice (.prod (.int .i64) (.prod (.int .i64) (.int .i64))))], .cells 33 [.data (.slice (.prod .str (.int .i64))), .data (.slice (.prod (.int .i64) (.prod (.int .i64) (.prod (.int .i64) (.int .i64))))), .rowh 4, .rowh 5], .row 38 (.prod (.int .i64) (.prod (.int .i64) (.prod (.int .i64) (.int .i64)))), .row 40 zq1, .row 42 (.prod (.int .i64) (.prod (.int .i64) (.int .i64)))]⟩)]
@[reducible] def law40_OrderMoves_p4_G (p : zqfy) {β : Type} (d : zqfz.den) (ks : Outs.K β zqg0) : Option β :=
  p (fun a0 a1 a2 a3 a4 a5 a6 a7 a8 a9 a10 a11 a12 a13 a14 => ks.1 (((a0, ()), (), (a1, ()), (), (a2, ()), (), ()), ((a3, a4, a5, a6, ()), (a7, a8, a9, ()), (a10, a11, ()), a12, a13, a14, ()))) d.1.1.1 d.1.2.2.1.1 d.1.2.2.2.2.1.1 d.1.2.2.2.2.2.2.1.1 d.1.2.2.2.2.2.2.2.1.1 d.1.2.2.2.2.2.2.2.2.1.1 d.2.1.1 d.2.1.2.1 d.2.1.2.2.1 d.2.1.2.2.2.1 d.2.2.1.1 d.2.2.1.2.1 d.2.2.1.2.2.1 d.2.2.2.1.1 d.2.2.2.1.2.1 d.2.2.2.2.1 d.2.2.2.2.2.1 d.2.2.2.2.2.2.1
abbrev zqg1 (β : Type) := Bool → Option β
abbrev zqg2 (β : Type) := Int → Int → Bool → Bool → Int → (List (List UInt8 × Int)) → (List (Int × (Int × (Int × Int)))) → (List zq0) → (List (Int × (Int × Int))) → (List (List UInt8 × Int)) → (List zq0) → (List (Int × (Int × Int))) → (List (List UInt8 × Int)) → (List (Int × (Int × (Int × Int)))) → (List (Int × Int)) → (List (Int × Int)) → (List (Int × Int)) → (List (Int × (Int × (Int × Int)))) → (List zq0) → (List (Int × (Int × Int))) → Option β
abbrev zqg3 := {β : Type} → zqg1 β → zqg2 β → Int → Int → Bool → Bool → Int → Int → (List (List UInt8 × Int)) → (List (Int × (Int × (Int × Int)))) → (List zq0) → (List (Int × (Int × Int))) → (List (List UInt8 × Int)) → (List zq0) → (List (Int × (Int × Int))) → (List (List UInt8 × Int)) → (List (Int × (Int × (Int × Int)))) → (List (Int × Int)) → (List (Int × Int)) → (List (Int × Int)) → (List (Int × (Int × (Int × Int)))) → (List zq0) → (List (Int × (Int × Int))) → Option β
def zqg4 : View := ⟨0, [1, 6, 8, 9, 13, 16, 20, 22, 23, 24, 26, 27], [(false, [.data (.int .u16)]), (false, [.ptr 0 0]), (false, [.data (.int .i64)]), (false, [.ptr 1 0]), (false, [.data .bool]), (false, [.ptr 2 0]), (false, [.rowh 3]), (false, [.rowh 4]), (false, [.data .bool]), (false, [.rowh 5]), (false, [.data (.int .i64)]), (false, [.data (.int .i64)])], [.cells 33 [.data (.slice (.prod .str (.int .i64))), .data (.slice (.prod (.int .i64) (.prod (.int .i64) (.prod (.int .i64) (.int .i64))))), .data (.slice zq1), .data (.slice (.prod (.int .i64) (.prod (.int .i64) (.int .i64))))], .cells 33 [.data (.slice (.prod .str (.int .i64))), .rowh 6, .data (.slice zq1), .data (.slice (.prod (.int .i64) (.prod (.int .i64) (.int .i64))))], .cells 33 [.data (.slice (.prod .str (.int .i64))), .data (.slice (.prod (.int .i64) (.prod (.int .i64) (.prod (.int .i64) (.int .i64))))), .rowh 7, .rowh 8], .row 47 (.prod (.int .i64) (.int .i64)), .row 47 (.prod (.int .i64) (.int .i64)), .row 47 (.prod (.int .i64) (.int .i64)), .row 38 (.prod (.int .i64) (.prod (.int .i64) (.prod (.int .i64) (.int .i64)))), .row 40 zq1, .row 42 (.prod (.int .i64) (.prod (.int .i64) (.int .i64)))]⟩
def zqg5 : List (AExit × View) := [(.ret, ⟨0, [4], [(false, [.data .bool])], []⟩), (.exit 10, ⟨0, [1, 6, 8, 9, 13, 16, 20, 22, 23, 24, 26], [(false, [.data (.int .u16)]), (false, [.ptr 0 0]), (false, [.data (.int .i64)]), (false, [.ptr 1 0]), (false, [.data .bool]), (false, [.ptr 2 0]), (false, [.rowh 3]), (false, [.rowh 4]), (false, [.data .bool]), (false, [.rowh 5]), (false, [.data (.int .i64)])], [.cells 33 [.data (.slice (.prod .str (.int .i64))), .data (.slice (.prod (.int .i64) (.prod (.int .i64) (.prod (.int .i64) (.int .i64))))), .data (.slice zq1), .data (.slice (.prod (.int .i64) (.prod (.int .i64) (.int .i64))))], .cells 33 [.data (.slice (.prod .str (.int .i64))), .rowh 6, .data (.slice zq1), .data (.slice (.prod (.int .i64) (.prod (.int .i64) (.int .i64))))], .cells 33 [.data (.slice (.prod .str (.int .i64))), .data (.slice (.prod (.int .i64) (.prod (.int .i64) (.prod (.int .i64) (.int .i64))))), .rowh 7, .rowh 8], .row 47 (.prod (.int .i64) (.int .i64)), .row 47 (.prod (.int .i64) (.int .i64)), .row 47 (.prod (.int .i64) (.int .i64)), .row 38 (.prod (.int .i64) (.prod (.int .i64) (.prod (.int .i64) (.int .i64)))), .row 40 zq1, .row 42 (.prod (.int .i64) (.prod (.int .i64) (.int .i64)))]⟩)]
@[reducible] def law40_OrderMoves_p5_G (p : zqg3) {β : Type} (d : zqg4.den) (ks : Outs.K β zqg5) : Option β :=
  p (fun a0 => ks.1 (((a0, ()), ()), ())) (fun a0 a1 a2 a3 a4 a5 a6 a7 a8 a9 a10 a11 a12 a13 a14 a15 a16 a17 a18 a19 => ks.2.1 (((a0, ()), (), (a1, ()), (), (a2, ()), (), (), (), (a3, ()), (), (a4, ()), ()), ((a5, a6, a7, a8, ()), (a9, a10, a11, ()), (a12, a13, ()), a14, a15, a16, a17, a18, a19, ()))) d.1.1.1 d.1.2.2.1.1 d.1.2.2.2.2.1.1 d.1.2.2.2.2.2.2.2.2.1.1 d.1.2.2.2.2.2.2.2.2.2.2.1.1 d.1.2.2.2.2.2.2.2.2.2.2.2.1.1 d.2.1.1 d.2.1.2.1 d.2.1.2.2.1 d.2.1.2.2.2.1 d.2.2.1.1 d.2.2.1.2.1 d.2.2.1.2.2.1 d.2.2.2.1.1 d.2.2.2.1.2.1 d.2.2.2.2.1 d.2.2.2.2.2.1 d.2.2.2.2.2.2.1 d.2.2.2.2.2.2.2.1 d.2.2.2.2.2.2.2.2.1 d.2.2.2.2.2.2.2.2.2.1
abbrev zqg6 (β : Type) := Bool → Option β
abbrev zqg7 (β : Type) := Int → Int → Bool → Bool → Int → (List (List UInt8 × Int)) → (List (Int × (Int × (Int × Int)))) → (List zq0) → (List (Int × (Int × Int))) → (List (List UInt8 × Int)) → (List zq0) → (List (Int × (Int × Int))) → (List (List UInt8 × Int)) → (List (Int × (Int × (Int × Int)))) → (List (Int × Int)) → (List (Int × Int)) → (List (Int × Int)) → (List (Int × (Int × (Int × Int)))) → (List zq0) → (List (Int × (Int × Int))) → Option β
abbrev zqg8 := {β : Type} → zqg6 β → zqg7 β → Int → Int → Bool → Bool → Int → (List (List UInt8 × Int)) → (List (Int × (Int × (Int × Int)))) → (List zq0) → (List (Int × (Int × Int))) → (List (List UInt8 × Int)) → (List zq0) → (List (Int × (Int × Int))) → (List (List UInt8 × Int)) → (List (Int × (Int × (Int × Int)))) → (List (Int × Int)) → (List (Int × Int)) → (List (Int × Int)) → (List (Int × (Int × (Int × Int)))) → (List zq0) → (List (Int × (Int × Int))) → Option β
def zqg9 : View := ⟨0, [1, 6, 8, 9, 13, 16, 20, 22, 23, 24, 26], [(false, [.data (.int .u16)]), (false, [.ptr 0 0]), (false, [.data (.int .i64)]), (false, [.ptr 1 0]), (false, [.data .bool]), (false, [.ptr 2 0]), (false, [.rowh 3]), (false, [.rowh 4]), (false, [.data .bool]), (false, [.rowh 5]), (false, [.data (.int .i64)])], [.cells 33 [.data (.slice (.prod .str (.int .i64))), .data (.slice (.prod (.int .i64) (.prod (.int .i64) (.prod (.int .i64) (.int .i64))))), .data (.slice zq1), .data (.slice (.prod (.int .i64) (.prod (.int .i64) (.int .i64))))], .cells 33 [.data (.slice (.prod .str (.int .i64))), .rowh 6, .data (.slice zq1), .data (.slice (.prod (.int .i64) (.prod (.int .i64) (.int .i64))))], .cells 33 [.data (.slice (.prod .str (.int .i64))), .data (.slice (.prod (.int .i64) (.prod (.int .i64) (.prod (.int .i64) (.int .i64))))), .rowh 7, .rowh 8], .row 47 (.prod (.int .i64) (.int .i64)), .row 47 (.prod (.int .i64) (.int .i64)), .row 47 (.prod (.int .i64) (.int .i64)), .row 38 (.prod (.int .i64) (.prod (.int .i64) (.prod (.int .i64) (.int .i64)))), .row 40 zq1, .row 42 (.prod (.int .i64) (.prod (.int .i64) (.int .i64)))]⟩
def zqga : List (AExit × View) := [(.ret, ⟨0, [4], [(false, [.data .bool])], []⟩), (.normal, ⟨0, [1, 6, 8, 9, 13, 16, 20, 22, 23, 24, 26], [(false, [.data (.int .u16)]), (false, [.ptr 0 0]), (false, [.data (.int .i64)]), (false, [.ptr 1 0]), (false, [.data .bool]), (false, [.ptr 2 0]), (false, [.rowh 3]), (false, [.rowh 4]), (false, [.data .bool]), (false, [.rowh 5]), (false, [.data (.int .i64)])], [.cells 33 [.data (.slice (.prod .str (.int .i64))), .data (.slice (.prod (.int .i64) (.prod (.int .i64) (.prod (.int .i64) (.int .i64))))), .data (.slice zq1), .data (.slice (.prod (.int .i64) (.prod (.int .i64) (.int .i64))))], .cells 33 [.data (.slice (.prod .str (.int .i64))), .rowh 6, .data (.slice zq1), .data (.slice (.prod (.int .i64) (.prod (.int .i64) (.int .i64))))], .cells 33 [.data (.slice (.prod .str (.int .i64))), .data (.slice (.prod (.int .i64) (.prod (.int .i64) (.prod (.int .i64) (.int .i64))))), .rowh 7, .rowh 8], .row 47 (.prod (.int .i64) (.int .i64)), .row 47 (.prod (.int .i64) (.int .i64)), .row 47 (.prod (.int .i64) (.int .i64)), .row 38 (.prod (.int .i64) (.prod (.int .i64) (.prod (.int .i64) (.int .i64)))), .row 40 zq1, .row 42 (.prod (.int .i64) (.prod (.int .i64) (.int .i64)))]⟩)]
@[reducible] def law40_OrderMoves_p6_G (p : zqg8) {β : Type} (d : zqg9.den) (ks : Outs.K β zqga) : Option β :=
  p (fun a0 => ks.1 (((a0, ()), ()), ())) (fun a0 a1 a2 a3 a4 a5 a6 a7 a8 a9 a10 a11 a12 a13 a14 a15 a16 a17 a18 a19 => ks.2.1 (((a0, ()), (), (a1, ()), (), (a2, ()), (), (), (), (a3, ()), (), (a4, ()), ()), ((a5, a6, a7, a8, ()), (a9, a10, a11, ()), (a12, a13, ()), a14, a15, a16, a17, a18, a19, ()))) d.1.1.1 d.1.2.2.1.1 d.1.2.2.2.2.1.1 d.1.2.2.2.2.2.2.2.2.1.1 d.1.2.2.2.2.2.2.2.2.2.2.1.1 d.2.1.1 d.2.1.2.1 d.2.1.2.2.1 d.2.1.2.2.2.1 d.2.2.1.1 d.2.2.1.2.1 d.2.2.1.2.2.1 d.2.2.2.1.1 d.2.2.2.1.2.1 d.2.2.2.2.1 d.2.2.2.2.2.1 d.2.2.2.2.2.2.1 d.2.2.2.2.2.2.2.1 d.2.2.2.2.2.2.2.2.1 d.2.2.2.2.2.2.2.2.2.1
abbrev zqgb (β : Type) := Bool → Option β
abbrev zqgc (β : Type) := Unit → Option β
abbrev zqgd := {β : Type} → zqgb β → zqgc β → Int → Int → Bool → Bool → Int → (List (List UInt8 × Int)) → (List (Int × (Int × (Int × Int)))) → (List zq0) → (List (Int × (Int × Int))) → (List (List UInt8 × Int)) → (List zq0) → (List (Int × (Int × Int))) → (List (List UInt8 × Int)) → (List (Int × (Int × (Int × Int)))) → (List (Int × Int)) → (List (Int × Int)) → (List (Int × Int)) → (List (Int × (Int × (Int × Int)))) → (List zq0) → (List (Int × (Int × Int))) → Option β
def zqge : View := ⟨0, [1, 6, 8, 9, 13, 16, 20, 22, 23, 24, 26], [(false, [.data (.int .u16)]), (false, [.ptr 0 0]), (false, [.data (.int .i64)]), (false, [.ptr 1 0]), (false, [.data .bool]), (false, [.ptr 2 0]), (false, [.rowh 3]), (false, [.rowh 4]), (false, [.data .bool]), (false, [.rowh 5]), (false, [.data (.int .i64)])], [.cells 33 [.data (.slice (.prod .str (.int .i64))), .data (.slice (.prod (.int .i64) (.prod (.int .i64) (.prod (.int .i64) (.int .i64))))), .data (.slice zq1), .data (.slice (.prod (.int .i64) (.prod (.int .i64) (.int .i64))))], .cells 33 [.data (.slice (.prod .str (.int .i64))), .rowh 6, .data (.slice zq1), .data (.slice (.prod (.int .i64) (.prod (.int .i64) (.int .i64))))], .cells 33 [.data (.slice (.prod .str (.int .i64))), .data (.slice (.prod (.int .i64) (.prod (.int .i64) (.prod (.int .i64) (.int .i64))))), .rowh 7, .rowh 8], .row 47 (.prod (.int .i64) (.int .i64)), .row 47 (.prod (.int .i64) (.int .i64)), .row 47 (.prod (.int .i64) (.int .i64)), .row 38 (.prod (.int .i64) (.prod (.int .i64) (.prod (.int .i64) (.int .i64)))), .row 40 zq1, .row 42 (.prod (.int .i64) (.prod (.int .i64) (.int .i64)))]⟩
def zqgf : List (AExit × View) := [(.ret, ⟨0, [4], [(false, [.data .bool])], []⟩), (.exit 8, ⟨0, [], [], []⟩)]
@[reducible] def law40_OrderMoves_p7_G (p : zqgd) {β : Type} (d : zqge.den) (ks : Outs.K β zqgf) : Option β :=
  p (fun a0 => ks.1 (((a0, ()), ()), ())) (fun _ => ks.2.1 ((), ())) d.1.1.1 d.1.2.2.1.1 d.1.2.2.2.2.1.1 d.1.2.2.2.2.2.2.2.2.1.1 d.1.2.2.2.2.2.2.2.2.2.2.1.1 d.2.1.1 d.2.1.2.1 d.2.1.2.2.1 d.2.1.2.2.2.1 d.2.2.1.1 d.2.2.1.2.1 d.2.2.1.2.2.1 d.2.2.2.1.1 d.2.2.2.1.2.1 d.2.2.2.2.1 d.2.2.2.2.2.1 d.2.2.2.2.2.2.1 d.2.2.2.2.2.2.2.1 d.2.2.2.2.2.2.2.2.1 d.2.2.2.2.2.2.2.2.2.1
section
variable (c_law40_sane : zqfc) (c_made_Dice_Record : zq4c) (c_made_Light : zq4) (c_made_Roll : zqb) (c_order_Compare : zqec) (c_order_When : zqdu)
@[reducible] def law40_OrderMoves_X : Ctx := ⟨look tab, pick1 [(5, .spec (zqfd c_law40_sane)), (7, .spec (zq4d c_made_Dice_Record)), (4, .spec (zq5 c_made_Light)), (6, .spec (zqc c_made_Roll)), (9, .spec (zqed c_order_Compare)), (8, .spec (zqdv c_order_When))], false⟩
def zqgg {β : Type} (rec : Int → Int → (List (Int × (Int × (Int × Int)))) → Int → Int → (List (List UInt8 × Int)) → (List (Int × (Int × (Int × Int)))) → (List zq0) → (List (Int × (Int × Int))) → (List (List UInt8 × Int)) → (List zq0) → (List (Int × (Int × Int))) → (List Bool) → (List (Int × (Int × (Int × Int)))) → Option β) (k1 : zqfl β) (n : Int) (k_ : Int) (t54 : List (Int × (Int × (Int × Int)))) (t55 : Int) (t56 : Int) (r_ : List (List UInt8 × Int)) (r_2 : List (Int × (Int × (Int × Int)))) (r_3 : List zq0) (r_4 : List (Int × (Int × Int))) (moved : List (List UInt8 × Int)) (moved2 : List zq0) (moved3 : List (Int × (Int × Int))) (have_ : List Bool) (b3_ : List (Int × (Int × (Int × Int)))) : Option β :=
  cond (decide (t56 < t55))
  (cond (decide (0 ≤ t56) && decide (t56 < (List.length t54 : Int)))
  (let e : (Int × (Int × (Int × Int))) := List.getD t54 (Int.toNat t56) ((0 : Int), ((0 : Int), ((0 : Int), (0 : Int))));
  let l : List (Int × (Int × (Int × Int))) := ([(e.1, (e.2.1, ((IntKind.i64.wrap (e.2.2.1 + (IntKind.i64.wrap n))), (IntKind.i64.wrap (e.2.2.2 + (IntKind.i64.wrap n))))))] : List (Int × (Int × (Int × Int))));
  cond (decide ((List.length b3_ + List.length l) * 32 ≤ roomMax))
  (let l2 : List (Int × (Int × (Int × Int))) := (b3_ ++ l);
  cond (decide (0 ≤ e.1) && decide (e.1 < (List.length have_ : Int)))
  (let l3 : List Bool := (List.set have_ (Int.toNat e.1) true);
  rec n k_ t54 t55 (IntKind.i64.wrap (t56 + (1 : Int))) r_ r_2 r_3 r_4 moved moved2 moved3 l3 l2)
  none)
  none)
  none)
  (k1 n k_ r_ r_2 r_3 r_4 moved moved2 moved3 have_ b3_)
def zqgh {β : Type} : Nat → zqfl β → Int → Int → (List (Int × (Int × (Int × Int)))) → Int → Int → (List (List UInt8 × Int)) → (List (Int × (Int × (Int × Int)))) → (List zq0) → (List (Int × (Int × Int))) → (List (List UInt8 × Int)) → (List zq0) → (List (Int × (Int × Int))) → (List Bool) → (List (Int × (Int × (Int × Int)))) → Option β
  | 0 => fun _ _ _ _ _ _ _ _ _ _ _ _ _ _ _ => none
  | i + 1 => fun k1 n k_ t54 t55 t56 r_ r_2 r_3 r_4 moved moved2 moved3 have_ b3_ => zqgg (zqgh i k1) k1 n k_ t54 t55 t56 r_ r_2 r_3 r_4 moved moved2 moved3 have_ b3_
theorem zqgi (hΓ : ΓOk Try.prog (law40_OrderMoves_X c_law40_sane c_made_Dice_Record c_made_Light c_made_Roll c_order_Compare c_order_When).Γ) (i : Nat) : PieceOk Try.prog 275 0 law40_OrderMoves_p1_code zqfn zqfo (law40_OrderMoves_p1_G (zqgh i)) := by
  rw [show law40_OrderMoves_p1_code = .loop (loopBody law40_OrderMoves_p1_code) by kernel_rfl]
  exact piece_loop (X := (law40_OrderMoves_X c_law40_sane c_made_Dice_Record c_made_Light c_made_Roll c_order_Compare c_order_When)) (p := 1) (Λ := pick1 []) (G := fun i => @fun β d ks => law40_OrderMoves_p1_G (zqgh i) d ks) mixed tab_ok hΓ rfl (by kernel_rfl) CutsOk_nil (fun _ _ => rfl) (fun i => @fun β d ks r h => Eq.trans (b := law40_OrderMoves_p1_G (zqgh (i + 1)) d ks) (by kernel_rfl) h) i
def zqgj {β : Type} (rec : Int → Int → Bool → (List zq0) → Int → Int → (List (List UInt8 × Int)) → (List (Int × (Int × (Int × Int)))) → (List zq0) → (List (Int × (Int × Int))) → (List (List UInt8 × Int)) → (List zq0) → (List (Int × (Int × Int))) → (List Bool) → (List (Int × (Int × (Int × Int)))) → Option β) (k1 : zqfp β) (n : Int) (k_ : Int) (all : Bool) (t84 : List zq0) (t85 : Int) (t86 : Int) (r_ : List (List UInt8 × Int)) (r_2 : List (Int × (Int × (Int × Int)))) (r_3 : List zq0) (r_4 : List (Int × (Int × Int))) (moved : List (List UInt8 × Int)) (moved2 : List zq0) (moved3 : List (Int × (Int × Int))) (have_ : List Bool) (b3_ : List (Int × (Int × (Int × Int)))) : Option β :=
  cond (decide (t86 < t85))
  (cond (decide (0 ≤ t86) && decide (t86 < (List.length t84 : Int)))
  (let e : zq0 := List.getD t84 (Int.toNat t86) ((0 : Int), ((0 : Int), ([] : List UInt8)));
  cond all
  (cond (decide (0 ≤ e.1) && decide (e.1 < (List.length have_ : Int)))
  (let all2 : Bool := (List.getD have_ (Int.toNat e.1) false);
  rec n k_ all2 t84 t85 (IntKind.i64.wrap (t86 + (1 : Int))) r_ r_2 r_3 r_4 moved moved2 moved3 have_ b3_)
  none)
  (rec n k_ false t84 t85 (IntKind.i64.wrap (t86 + (1 : Int))) r_ r_2 r_3 r_4 moved moved2 moved3 have_ b3_))
  none)
  (k1 n k_ all r_ r_2 r_3 r_4 moved moved2 moved3 b3_)
def zqgk {β : Type} : Nat → zqfp β → Int → Int → Bool → (List zq0) → Int → Int → (List (List UInt8 × Int)) → (List (Int × (Int × (Int × Int)))) → (List zq0) → (List (Int × (Int × Int))) → (List (List UInt8 × Int)) → (List zq0) → (List (Int × (Int × Int))) → (List Bool) → (List (Int × (Int × (Int × Int)))) → Option β
  | 0 => fun _ _ _ _ _ _ _ _ _ _ _ _ _ _ _ _ => none
  | i + 1 => fun k1 n k_ all t84 t85 t86 r_ r_2 r_3 r_4 moved moved2 moved3 have_ b3_ => zqgj (zqgk i k1) k1 n k_ all t84 t85 t86 r_ r_2 r_3 r_4 moved moved2 moved3 have_ b3_
theorem zqgl (hΓ : ΓOk Try.prog (law40_OrderMoves_X c_law40_sane c_made_Dice_Record c_made_Light c_made_Roll c_order_Compare c_order_When).Γ) (i : Nat) : PieceOk Try.prog 275 0 law40_OrderMoves_p2_code zqfr zqfs (law40_OrderMoves_p2_G (zqgk i)) := by
  rw [show law40_OrderMoves_p2_code = .loop (loopBody law40_OrderMoves_p2_code) by kernel_rfl]
  exact piece_loop (X := (law40_OrderMoves_X c_law40_sane c_made_Dice_Record c_made_Light c_made_Roll c_order_Compare c_order_When)) (p := 1) (Λ := pick1 []) (G := fun i => @fun β d ks => law40_OrderMoves_p2_G (zqgk i) d ks) mixed tab_ok hΓ rfl (by kernel_rfl) CutsOk_nil (fun _ _ => rfl) (fun i => @fun β d ks r h => Eq.trans (b := law40_OrderMoves_p2_G (zqgk (i + 1)) d ks) (by kernel_rfl) h) i
def zqgm {β : Type} (rec : Int → Int → Bool → Int → (List (List UInt8 × Int)) → (List (Int × (Int × (Int × Int)))) → (List zq0) → (List (Int × (Int × Int))) → (List (List UInt8 × Int)) → (List zq0) → (List (Int × (Int × Int))) → (List (List UInt8 × Int)) → (List (Int × (Int × (Int × Int)))) → (List (Int × (Int × (Int × Int)))) → (List zq0) → (List (Int × (Int × Int))) → Option β) (k1 : zqft β) (n : Int) (k_ : Int) (all : Bool) (i_ : Int) (r_ : List (List UInt8 × Int)) (r_2 : List (Int × (Int × (Int × Int)))) (r_3 : List zq0) (r_4 : List (Int × (Int × Int))) (moved : List (List UInt8 × Int)) (moved2 : List zq0) (moved3 : List (Int × (Int × Int))) (turned : List (List UInt8 × Int)) (turned2 : List (Int × (Int × (Int × Int)))) (b3_ : List (Int × (Int × (Int × Int)))) (b4_ : List zq0) (b5_ : List (Int × (Int × Int))) : Option β :=
  cond (decide ((0 : Int) ≤ i_))
  (cond (decide (0 ≤ i_) && decide (i_ < (List.length r_3 : Int)))
  (let e : zq0 := List.getD r_3 (Int.toNat i_) ((0 : Int), ((0 : Int), ([] : List UInt8)));
  let l : List zq0 := ([e] : List zq0);
  cond (decide ((List.length b4_ + List.length l) * 32 ≤ roomMax))
  (let l2 : List zq0 := (b4_ ++ l);
  let i_2 : Int := (IntKind.i64.wrap (i_ - (1 : Int)));
  rec n k_ all i_2 r_ r_2 r_3 r_4 moved moved2 moved3 turned turned2 b3_ l2 b5_)
  none)
  none)
  (k1 n k_ all r_ r_2 r_3 r_4 moved moved2 moved3 turned turned2 b3_ b4_ b5_)
def zqgn {β : Type} : Nat → zqft β → Int → Int → Bool → Int → (List (List UInt8 × Int)) → (List (Int × (Int × (Int × Int)))) → (List zq0) → (List (Int × (Int × Int))) → (List (List UInt8 × Int)) → (List zq0) → (List (Int × (Int × Int))) → (List (List UInt8 × Int)) → (List (Int × (Int × (Int × Int)))) → (List (Int × (Int × (Int × Int)))) → (List zq0) → (List (Int × (Int × Int))) → Option β
  | 0 => fun _ _ _ _ _ _ _ _ _ _ _ _ _ _ _ _ _ => none
  | i + 1 => fun k1 n k_ all i_ r_ r_2 r_3 r_4 moved moved2 moved3 turned turned2 b3_ b4_ b5_ => zqgm (zqgn i k1) k1 n k_ all i_ r_ r_2 r_3 r_4 moved moved2 moved3 turned turned2 b3_ b4_ b5_
theorem zqgo (hΓ : ΓOk Try.prog (law40_OrderMoves_X c_law40_sane c_made_Dice_Record c_made_Light c_made_Roll c_order_Compare c_order_When).Γ) (i : Nat) : PieceOk Try.prog 275 0 law40_OrderMoves_p3_code zqfv zqfw (law40_OrderMoves_p3_G (zqgn i)) := by
  rw [show law40_OrderMoves_p3_code = .loop (loopBody law40_OrderMoves_p3_code) by kernel_rfl]
  exact piece_loop (X := (law40_OrderMoves_X c_law40_sane c_made_Dice_Record c_made_Light c_made_Roll c_order_Compare c_order_When)) (p := 1) (Λ := pick1 []) (G := fun i => @fun β d ks => law40_OrderMoves_p3_G (zqgn i) d ks) mixed tab_ok hΓ rfl (by kernel_rfl) CutsOk_nil (fun _ _ => rfl) (fun i => @fun β d ks r h => Eq.trans (b := law40_OrderMoves_p3_G (zqgn (i + 1)) d ks) (by kernel_rfl) h) i
def zqgp {β : Type} (rec : Int → Int → Bool → (List (Int × (Int × Int))) → Int → Int → (List (List UInt8 × Int)) → (List (Int × (Int × (Int × Int)))) → (List zq0) → (List (Int × (Int × Int))) → (List (List UInt8 × Int)) → (List zq0) → (List (Int × (Int × Int))) → (List (List UInt8 × Int)) → (List (Int × (Int × (Int × Int)))) → (List (Int × (Int × (Int × Int)))) → (List zq0) → (List (Int × (Int × Int))) → Option β) (k1 : zqfx β) (n : Int) (k_ : Int) (all : Bool) (t119 : List (Int × (Int × Int))) (t120 : Int) (t121 : Int) (r_ : List (List UInt8 × Int)) (r_2 : List (Int × (Int × (Int × Int)))) (r_3 : List zq0) (r_4 : List (Int × (Int × Int))) (moved : List (List UInt8 × Int)) (moved2 : List zq0) (moved3 : List (Int × (Int × Int))) (turned : List (List UInt8 × Int)) (turned2 : List (Int × (Int × (Int × Int)))) (b3_ : List (Int × (Int × (Int × Int)))) (b4_ : List zq0) (b5_ : List (Int × (Int × Int))) : Option β :=
  cond (decide (t121 < t120))
  (cond (decide (0 ≤ t121) && decide (t121 < (List.length t119 : Int)))
  (let e : (Int × (Int × Int)) := List.getD t119 (Int.toNat t121) ((0 : Int), ((0 : Int), (0 : Int)));
  let l : List (Int × (Int × Int)) := ([((IntKind.i64.wrap ((IntKind.i64.wrap (k_ - (1 : Int))) - e.1)), ((IntKind.i64.wrap ((IntKind.i64.wrap (k_ - (1 : Int))) - e.2.1)), e.2.2))] : List (Int × (Int × Int)));
  cond (decide ((List.length b5_ + List.length l) * 24 ≤ roomMax))
  (let l2 : List (Int × (Int × Int)) := (b5_ ++ l);
  rec n k_ all t119 t120 (IntKind.i64.wrap (t121 + (1 : Int))) r_ r_2 r_3 r_4 moved moved2 moved3 turned turned2 b3_ b4_ l2)
  none)
  none)
  (k1 n k_ all r_ r_2 r_3 r_4 moved moved2 moved3 turned turned2 b3_ b4_ b5_)
def zqgq {β : Type} : Nat → zqfx β → Int → Int → Bool → (List (Int × (Int × Int))) → Int → Int → (List (List UInt8 × Int)) → (List (Int × (Int × (Int × Int)))) → (List zq0) → (List (Int × (Int × Int))) → (List (List UInt8 × Int)) → (List zq0) → (List (Int × (Int × Int))) → (List (List UInt8 × Int)) → (List (Int × (Int × (Int × Int)))) → (List (Int × (Int × (Int × Int)))) → (List zq0) → (List (Int × (Int × Int))) → Option β
  | 0 => fun _ _ _ _ _ _ _ _ _ _ _ _ _ _ _ _ _ _ _ => none
  | i + 1 => fun k1 n k_ all t119 t120 t121 r_ r_2 r_3 r_4 moved moved2 moved3 turned turned2 b3_ b4_ b5_ => zqgp (zqgq i k1) k1 n k_ all t119 t120 t121 r_ r_2 r_3 r_4 moved moved2 moved3 turned turned2 b3_ b4_ b5_
theorem zqgr (hΓ : ΓOk Try.prog (law40_OrderMoves_X c_law40_sane c_made_Dice_Record c_made_Light c_made_Roll c_order_Compare c_order_When).Γ) (i : Nat) : PieceOk Try.prog 275 0 law40_OrderMoves_p4_code zqfz zqg0 (law40_OrderMoves_p4_G (zqgq i)) := by
  rw [show law40_OrderMoves_p4_code = .loop (loopBody law40_OrderMoves_p4_code) by kernel_rfl]
  exact piece_loop (X := (law40_OrderMoves_X c_law40_sane c_made_Dice_Record c_made_Light c_made_Roll c_order_Compare c_order_When)) (p := 1) (Λ := pick1 []) (G := fun i => @fun β d ks => law40_OrderMoves_p4_G (zqgq i) d ks) mixed tab_ok hΓ rfl (by kernel_rfl) CutsOk_nil (fun _ _ => rfl) (fun i => @fun β d ks r h => Eq.trans (b := law40_OrderMoves_p4_G (zqgq (i + 1)) d ks) (by kernel_rfl) h) i
def zqgs {β : Type} (rec : Int → Int → Bool → Bool → Int → Int → (List (List UInt8 × Int)) → (List (Int × (Int × (Int × Int)))) → (List zq0) → (List (Int × (Int × Int))) → (List (List UInt8 × Int)) → (List zq0) → (List (Int × (Int × Int))) → (List (List UInt8 × Int)) → (List (Int × (Int × (Int × Int)))) → (List (Int × Int)) → (List (Int × Int)) → (List (Int × Int)) → (List (Int × (Int × (Int × Int)))) → (List zq0) → (List (Int × (Int × Int))) → Option β) (k1 : zqg1 β) (k2 : zqg2 β) (n : Int) (k_ : Int) (all : Bool) (is : Bool) (i_ : Int) (j : Int) (r_ : List (List UInt8 × Int)) (r_2 : List (Int × (Int × (Int × Int)))) (r_3 : List zq0) (r_4 : List (Int × (Int × Int))) (moved : List (List UInt8 × Int)) (moved2 : List zq0) (moved3 : List (Int × (Int × Int))) (turned : List (List UInt8 × Int)) (turned2 : List (Int × (Int × (Int × Int)))) (a : List (Int × Int)) (b : List (Int × Int)) (c : List (Int × Int)) (b6_ : List (Int × (Int × (Int × Int)))) (b7_ : List zq0) (b8_ : List (Int × (Int × Int))) : Option β :=
  cond (decide (j < k_))
  (c_order_Compare (r_, (r_2, (r_3, r_4))) i_ j (fun (rCompare : Int) (rCompare2 : Bool) =>
  c_order_Compare (turned, (turned2, (b7_, b8_))) (IntKind.i64.wrap ((IntKind.i64.wrap (k_ - (1 : Int))) - i_)) (IntKind.i64.wrap ((IntKind.i64.wrap (k_ - (1 : Int))) - j)) (fun (rCompare3 : Int) (rCompare4 : Bool) =>
  c_order_Compare (moved, (b6_, (moved2, moved3))) i_ j (fun (rCompare5 : Int) (rCompare6 : Bool) =>
  cond (!decide (rCompare = rCompare3))
  (k1 false)
  (cond all
  (cond (!decide (rCompare = rCompare5))
  (k1 false)
  (let j2 : Int := (IntKind.i64.wrap (j + (1 : Int)));
  rec n k_ all is i_ j2 r_ r_2 r_3 r_4 moved moved2 moved3 turned turned2 a b c b6_ b7_ b8_))
  (let j2 : Int := (IntKind.i64.wrap (j + (1 : Int)));
  rec n k_ all is i_ j2 r_ r_2 r_3 r_4 moved moved2 moved3 turned turned2 a b c b6_ b7_ b8_))))))
  (k2 n k_ all is i_ r_ r_2 r_3 r_4 moved moved2 moved3 turned turned2 a b c b6_ b7_ b8_)
def zqgt {β : Type} : Nat → zqg1 β → zqg2 β → Int → Int → Bool → Bool → Int → Int → (List (List UInt8 × Int)) → (List (Int × (Int × (Int × Int)))) → (List zq0) → (List (Int × (Int × Int))) → (List (List UInt8 × Int)) → (List zq0) → (List (Int × (Int × Int))) → (List (List UInt8 × Int)) → (List (Int × (Int × (Int × Int)))) → (List (Int × Int)) → (List (Int × Int)) → (List (Int × Int)) → (List (Int × (Int × (Int × Int)))) → (List zq0) → (List (Int × (Int × Int))) → Option β
  | 0 => fun _ _ _ _ _ _ _ _ _ _ _ _ _ _ _ _ _ _ _ _ _ _ _ => none
  | i + 1 => fun k1 k2 n k_ all is i_ j r_ r_2 r_3 r_4 moved moved2 moved3 turned turned2 a b c b6_ b7_ b8_ => zqgs c_order_Compare (zqgt i k1 k2) k1 k2 n k_ all is i_ j r_ r_2 r_3 r_4 moved moved2 moved3 turned turned2 a b c b6_ b7_ b8_
theorem zqgu (hΓ : ΓOk Try.prog (law40_OrderMoves_X c_law40_sane c_made_Dice_Record c_made_Light c_made_Roll c_order_Compare c_order_When).Γ) (i : Nat) : PieceOk Try.prog 275 0 law40_OrderMoves_p5_code zqg4 zqg5 (law40_OrderMoves_p5_G (zqgt c_order_Compare i)) := by
  rw [show law40_OrderMoves_p5_code = .loop (loopBody law40_OrderMoves_p5_code) by kernel_rfl]
  exact piece_loop (X := (law40_OrderMoves_X c_law40_sane c_made_Dice_Record c_made_Light c_made_Roll c_order_Compare c_order_When)) (p := 1) (Λ := pick1 []) (G := fun i => @fun β d ks => law40_OrderMoves_p5_G (zqgt c_order_Compare i) d ks) mixed tab_ok hΓ rfl (by kernel_rfl) CutsOk_nil (fun _ _ => rfl) (fun i => @fun β d ks r h => Eq.trans (b := law40_OrderMoves_p5_G (zqgt c_order_Compare (i + 1)) d ks) (by kernel_rfl) h) i
def zqgv (p5 : zqg3) {β : Type} (k1 : zqg6 β) (k2 : zqg7 β) (n : Int) (k_ : Int) (all : Bool) (is : Bool) (i_ : Int) (r_ : List (List UInt8 × Int)) (r_2 : List (Int × (Int × (Int × Int)))) (r_3 : List zq0) (r_4 : List (Int × (Int × Int))) (moved : List (List UInt8 × Int)) (moved2 : List zq0) (moved3 : List (Int × (Int × Int))) (turned : List (List UInt8 × Int)) (turned2 : List (Int × (Int × (Int × Int)))) (a : List (Int × Int)) (b : List (Int × Int)) (c : List (Int × Int)) (b6_ : List (Int × (Int × (Int × Int)))) (b7_ : List zq0) (b8_ : List (Int × (Int × Int))) : Option β :=
  p5 (fun (t4 : Bool) =>
  k1 t4) (fun (n2 : Int) (k_2 : Int) (all2 : Bool) (is2 : Bool) (i_2 : Int) (r_5 : List (List UInt8 × Int)) (r_6 : List (Int × (Int × (Int × Int)))) (r_7 : List zq0) (r_8 : List (Int × (Int × Int))) (moved4 : List (List UInt8 × Int)) (moved5 : List zq0) (moved6 : List (Int × (Int × Int))) (turned3 : List (List UInt8 × Int)) (turned4 : List (Int × (Int × (Int × Int)))) (a2 : List (Int × Int)) (b2 : List (Int × Int)) (c2 : List (Int × Int)) (b6_2 : List (Int × (Int × (Int × Int)))) (b7_2 : List zq0) (b8_2 : List (Int × (Int × Int))) =>
  k2 n2 k_2 all2 is2 i_2 r_5 r_6 r_7 r_8 moved4 moved5 moved6 turned3 turned4 a2 b2 c2 b6_2 b7_2 b8_2) n k_ all is i_ (0 : Int) r_ r_2 r_3 r_4 moved moved2 moved3 turned turned2 a b c b6_ b7_ b8_
def zqgw (p5 : zqg3) {β : Type} (k1 : zqg6 β) (k2 : zqg7 β) (n : Int) (k_ : Int) (all : Bool) (is : Bool) (i_ : Int) (r_ : List (List UInt8 × Int)) (r_2 : List (Int × (Int × (Int × Int)))) (r_3 : List zq0) (r_4 : List (Int × (Int × Int))) (moved : List (List UInt8 × Int)) (moved2 : List zq0) (moved3 : List (Int × (Int × Int))) (turned : List (List UInt8 × Int)) (turned2 : List (Int × (Int × (Int × Int)))) (a : List (Int × Int)) (b : List (Int × Int)) (c : List (Int × Int)) (b6_ : List (Int × (Int × (Int × Int)))) (b7_ : List zq0) (b8_ : List (Int × (Int × Int))) : Option β := zqgv p5 k1 k2 n k_ all is i_ r_ r_2 r_3 r_4 moved moved2 moved3 turned turned2 a b c b6_ b7_ b8_
theorem zqgx (hΓ : ΓOk Try.prog (law40_OrderMoves_X c_law40_sane c_made_Dice_Record c_made_Light c_made_Roll c_order_Compare c_order_When).Γ) (p5 : zqg3) (hp5 : PieceOk Try.prog 275 0 law40_OrderMoves_p5_code zqg4 zqg5 (law40_OrderMoves_p5_G p5)) : PieceOk Try.prog 275 0 law40_OrderMoves_p6_code zqg9 zqga (law40_OrderMoves_p6_G (zqgw p5)) :=
  piece_exec (X := (law40_OrderMoves_X c_law40_sane c_made_Dice_Record c_made_Light c_made_Roll c_order_Compare c_order_When)) (p := 25) (Λ := pick1 [(102, pieceCut zqg4 zqg5 (law40_OrderMoves_p5_G p5))]) mixed tab_ok hΓ (by kernel_rfl) (CutsOk_cons (q := 102) (c' := law40_OrderMoves_p5_code) (by kernel_rfl) rfl hp5 CutsOk_nil) (fun d ks r h => Eq.trans (b := law40_OrderMoves_p6_G (zqgw p5) d ks) (by kernel_rfl) h)
def zqgy (p6 : zqg8) {β : Type} (rec : Int → Int → Bool → Bool → Int → (List (List UInt8 × Int)) → (List (Int × (Int × (Int × Int)))) → (List zq0) → (List (Int × (Int × Int))) → (List (List UInt8 × Int)) → (List zq0) → (List (Int × (Int × Int))) → (List (List UInt8 × Int)) → (List (Int × (Int × (Int × Int)))) → (List (Int × Int)) → (List (Int × Int)) → (List (Int × Int)) → (List (Int × (Int × (Int × Int)))) → (List zq0) → (List (Int × (Int × Int))) → Option β) (k1 : zqgb β) (k2 : zqgc β) (n : Int) (k_ : Int) (all : Bool) (is : Bool) (i_ : Int) (r_ : List (List UInt8 × Int)) (r_2 : List (Int × (Int × (Int × Int)))) (r_3 : List zq0) (r_4 : List (Int × (Int × Int))) (moved : List (List UInt8 × Int)) (moved2 : List zq0) (moved3 : List (Int × (Int × Int))) (turned : List (List UInt8 × Int)) (turned2 : List (Int × (Int × (Int × Int)))) (a : List (Int × Int)) (b : List (Int × Int)) (c : List (Int × Int)) (b6_ : List (Int × (Int × (Int × Int)))) (b7_ : List zq0) (b8_ : List (Int × (Int × Int))) : Option β :=
  cond (decide (i_ < k_))
  (cond (decide (0 ≤ i_) && decide (i_ < (List.length a : Int)))
  (cond (decide (0 ≤ (IntKind.i64.wrap ((IntKind.i64.wrap (k_ - (1 : Int))) - i_))) && decide ((IntKind.i64.wrap ((IntKind.i64.wrap (k_ - (1 : Int))) - i_)) < (List.length c : Int)))
  (cond (!(decide ((List.getD a (Int.toNat i_) ((0 : Int), (0 : Int))).1 = (List.getD c (Int.toNat (IntKind.i64.wrap ((IntKind.i64.wrap (k_ - (1 : Int))) - i_))) ((0 : Int), (0 : Int))).1) && (decide ((List.getD a (Int.toNat i_) ((0 : Int), (0 : Int))).2 = (List.getD c (Int.toNat (IntKind.i64.wrap ((IntKind.i64.wrap (k_ - (1 : Int))) - i_))) ((0 : Int), (0 : Int))).2) && true)))
  (k1 false)
  (cond all
  (cond (!is)
  (k1 false)
  (cond (!decide ((List.length b : Int) = k_))
  (k1 false)
  (cond (decide (0 ≤ i_) && decide (i_ < (List.length b : Int)))
  (cond (decide (0 ≤ i_) && decide (i_ < (List.length a : Int)))
  (cond (decide (0 ≤ i_) && decide (i_ < (List.length a : Int)))
  (cond (!(decide ((List.getD b (Int.toNat i_) ((0 : Int), (0 : Int))).1 = (IntKind.i64.wrap (((List.getD a (Int.toNat i_) ((0 : Int), (0 : Int))).1) + (IntKind.i64.wrap n)))) && (decide ((List.getD b (Int.toNat i_) ((0 : Int), (0 : Int))).2 = (IntKind.i64.wrap (((List.getD a (Int.toNat i_) ((0 : Int), (0 : Int))).2) + (IntKind.i64.wrap n)))) && true)))
  (k1 false)
  (p6 (fun (t4 : Bool) =>
  k1 t4) (fun (n2 : Int) (k_2 : Int) (all2 : Bool) (is2 : Bool) (i_2 : Int) (r_5 : List (List UInt8 × Int)) (r_6 : List (Int × (Int × (Int × Int)))) (r_7 : List zq0) (r_8 : List (Int × (Int × Int))) (moved4 : List (List UInt8 × Int)) (moved5 : List zq0) (moved6 : List (Int × (Int × Int))) (turned3 : List (List UInt8 × Int)) (turned4 : List (Int × (Int × (Int × Int)))) (a2 : List (Int × Int)) (b2 : List (Int × Int)) (c2 : List (Int × Int)) (b6_2 : List (Int × (Int × (Int × Int)))) (b7_2 : List zq0) (b8_2 : List (Int × (Int × Int))) =>
  let i_3 : Int := (IntKind.i64.wrap (i_2 + (1 : Int)));
  rec n2 k_2 all2 is2 i_3 r_5 r_6 r_7 r_8 moved4 moved5 moved6 turned3 turned4 a2 b2 c2 b6_2 b7_2 b8_2) n k_ all is i_ r_ r_2 r_3 r_4 moved moved2 moved3 turned turned2 a b c b6_ b7_ b8_))
  none)
  none)
  none)))
  (p6 (fun (t4 : Bool) =>
  k1 t4) (fun (n2 : Int) (k_2 : Int) (all2 : Bool) (is2 : Bool) (i_2 : Int) (r_5 : List (List UInt8 × Int)) (r_6 : List (Int × (Int × (Int × Int)))) (r_7 : List zq0) (r_8 : List (Int × (Int × Int))) (moved4 : List (List UInt8 × Int)) (moved5 : List zq0) (moved6 : List (Int × (Int × Int))) (turned3 : List (List UInt8 × Int)) (turned4 : List (Int × (Int × (Int × Int)))) (a2 : List (Int × Int)) (b2 : List (Int × Int)) (c2 : List (Int × Int)) (b6_2 : List (Int × (Int × (Int × Int)))) (b7_2 : List zq0) (b8_2 : List (Int × (Int × Int))) =>
  let i_3 : Int := (IntKind.i64.wrap (i_2 + (1 : Int)));
  rec n2 k_2 all2 is2 i_3 r_5 r_6 r_7 r_8 moved4 moved5 moved6 turned3 turned4 a2 b2 c2 b6_2 b7_2 b8_2) n k_ all is i_ r_ r_2 r_3 r_4 moved moved2 moved3 turned turned2 a b c b6_ b7_ b8_)))
  none)
  none)
  (k2 ())
def zqgz (p6 : zqg8) {β : Type} : Nat → zqgb β → zqgc β → Int → Int → Bool → Bool → Int → (List (List UInt8 × Int)) → (List (Int × (Int × (Int × Int)))) → (List zq0) → (List (Int × (Int × Int))) → (List (List UInt8 × Int)) → (List zq0) → (List (Int × (Int × Int))) → (List (List UInt8 × Int)) → (List (Int × (Int × (Int × Int)))) → (List (Int × Int)) → (List (Int × Int)) → (List (Int × Int)) → (List (Int × (Int × (Int × Int)))) → (List zq0) → (List (Int × (Int × Int))) → Option β
  | 0 => fun _ _ _ _ _ _ _ _ _ _ _ _ _ _ _ _ _ _ _ _ _ _ => none
  | i + 1 => fun k1 k2 n k_ all is i_ r_ r_2 r_3 r_4 moved moved2 moved3 turned turned2 a b c b6_ b7_ b8_ => zqgy p6 (zqgz p6 i k1 k2) k1 k2 n k_ all is i_ r_ r_2 r_3 r_4 moved moved2 moved3 turned turned2 a b c b6_ b7_ b8_
theorem zqh0 (hΓ : ΓOk Try.prog (law40_OrderMoves_X c_law40_sane c_made_Dice_Record c_made_Light c_made_Roll c_order_Compare c_order_When).Γ) (p6 : zqg8) (hp6 : PieceOk Try.prog 275 0 law40_OrderMoves_p6_code zqg9 zqga (law40_OrderMoves_p6_G p6)) (i : Nat) : PieceOk Try.prog 275 0 law40_OrderMoves_p7_code zqge zqgf (law40_OrderMoves_p7_G (zqgz p6 i)) := by
  rw [show law40_OrderMoves_p7_code = .loop (loopBody law40_OrderMoves_p7_code) by kernel_rfl]
  exact piece_loop (X := (law40_OrderMoves_X c_law40_sane c_made_Dice_Record c_made_Light c_made_Roll c_order_Compare c_order_When)) (p := 1) (Λ := pick1 [(25, pieceCut zqg9 zqga (law40_OrderMoves_p6_G p6))]) (G := fun i => @fun β d ks => law40_OrderMoves_p7_G (zqgz p6 i) d ks) mixed tab_ok hΓ rfl (by kernel_rfl) (CutsOk_cons (q := 25) (c' := law40_OrderMoves_p6_code) (by kernel_rfl) rfl hp6 CutsOk_nil) (fun _ _ => rfl) (fun i => @fun β d ks r h => Eq.trans (b := law40_OrderMoves_p7_G (zqgz p6 (i + 1)) d ks) (by kernel_rfl) h) i
def zqh1 (p1 : zqfm) (p2 : zqfq) (p3 : zqfu) (p4 : zqfy) (p7 : zqgd) {β : Type} (t : List Int) (n : Int) (k : (Bool → Option β)) : Option β :=
  c_made_Light t (fun (rLight : Bool) =>
  cond (!rLight)
  (c_law40_sane  (fun (rsane : Bool) =>
  k rsane))
  (c_made_Roll t (fun (mrRoll : (List Int × Int)) =>
  c_made_Dice_Record (6 : Int) mrRoll (fun (rRecord : zq2) (mrRecord : (List Int × Int)) (lrRecord : List Int) =>
  cond (decide (0 ≤ (List.length rRecord.1 : Int)) && (decide ((List.length rRecord.1 : Int) = (List.length rRecord.1 : Int)) && (decide (Int.toNat (List.length rRecord.1 : Int) * 1 ≤ roomMax) && decide ((List.length rRecord.1 : Int) ≤ 9223372036854775807))))
  (let l : List Bool := (List.replicate (Int.toNat (List.length rRecord.1 : Int)) false);
  p1 (fun (n2 : Int) (k_ : Int) (r_ : List (List UInt8 × Int)) (r_2 : List (Int × (Int × (Int × Int)))) (r_3 : List zq0) (r_4 : List (Int × (Int × Int))) (moved : List (List UInt8 × Int)) (moved2 : List zq0) (moved3 : List (Int × (Int × Int))) (have_ : List Bool) (b3_ : List (Int × (Int × (Int × Int)))) =>
  p2 (fun (n3 : Int) (k_2 : Int) (all : Bool) (r_5 : List (List UInt8 × Int)) (r_6 : List (Int × (Int × (Int × Int)))) (r_7 : List zq0) (r_8 : List (Int × (Int × Int))) (moved4 : List (List UInt8 × Int)) (moved5 : List zq0) (moved6 : List (Int × (Int × Int))) (b2_ : List (Int × (Int × (Int × Int)))) =>
  let i_ : Int := (IntKind.i64.wrap (k_2 - (1 : Int)));
  p3 (fun (n4 : Int) (k_3 : Int) (all2 : Bool) (r_9 : List (List UInt8 × Int)) (r_10 : List (Int × (Int × (Int × Int)))) (r_11 : List zq0) (r_12 : List (Int × (Int × Int))) (moved7 : List (List UInt8 × Int)) (moved8 : List zq0) (moved9 : List (Int × (Int × Int))) (turned : List (List UInt8 × Int)) (turned2 : List (Int × (Int × (Int × Int)))) (b3_2 : List (Int × (Int × (Int × Int)))) (b4_ : List zq0) (b5_ : List (Int × (Int × Int))) =>
  p4 (fun (n5 : Int) (k_4 : Int) (all3 : Bool) (r_13 : List (List UInt8 × Int)) (r_14 : List (Int × (Int × (Int × Int)))) (r_15 : List zq0) (r_16 : List (Int × (Int × Int))) (moved10 : List (List UInt8 × Int)) (moved11 : List zq0) (moved12 : List (Int × (Int × Int))) (turned3 : List (List UInt8 × Int)) (turned4 : List (Int × (Int × (Int × Int)))) (b3_3 : List (Int × (Int × (Int × Int)))) (b4_2 : List zq0) (b5_2 : List (Int × (Int × Int))) =>
  c_order_When (r_13, (r_14, (r_15, r_16))) (fun (rWhen : Bool) (lrWhen : List (Int × Int)) =>
  c_order_When (moved10, (b3_3, (moved11, moved12))) (fun (rWhen2 : Bool) (lrWhen2 : List (Int × Int)) =>
  c_order_When (turned3, (turned4, (b4_2, b5_2))) (fun (rWhen3 : Bool) (lrWhen3 : List (Int × Int)) =>
  cond (!rWhen)
  (k false)
  (cond (!rWhen3)
  (k false)
  (cond (!decide ((List.length lrWhen : Int) = k_4))
  (k false)
  (cond (!decide ((List.length lrWhen3 : Int) = k_4))
  (k false)
  (p7 (fun (t4 : Bool) =>
  k t4) (fun (_ : Unit) =>
  c_law40_sane  (fun (rsane : Bool) =>
  k rsane)) n5 k_4 all3 rWhen2 (0 : Int) r_13 r_14 r_15 r_16 moved10 moved11 moved12 turned3 turned4 lrWhen lrWhen2 lrWhen3 b3_3 b4_2 b5_2)))))))) n4 k_3 all2 r_12 (List.length r_12 : Int) (0 : Int) r_9 r_10 r_11 r_12 moved7 moved8 moved9 turned turned2 b3_2 b4_ b5_) n3 k_2 all i_ r_5 r_6 r_7 r_8 moved4 moved5 moved6 r_5 r_6 b2_ ([] : List zq0) ([] : List (Int × (Int × Int)))) n2 k_ true r_3 (List.length r_3 : Int) (0 : Int) r_ r_2 r_3 r_4 moved moved2 moved3 have_ b3_) n (List.length lrRecord : Int) rRecord.2.1 (List.length rRecord.2.1 : Int) (0 : Int) rRecord.1 rRecord.2.1 rRecord.2.2.1 rRecord.2.2.2 rRecord.1 rRecord.2.2.1 rRecord.2.2.2 l ([] : List (Int × (Int × (Int × Int)))))
  none))))
theorem zqh2 (hΓ : ΓOk Try.prog (law40_OrderMoves_X c_law40_sane c_made_Dice_Record c_made_Light c_made_Roll c_order_Compare c_order_When).Γ) (p1 : zqfm) (p2 : zqfq) (p3 : zqfu) (p4 : zqfy) (p7 : zqgd) (hp1 : PieceOk Try.prog 275 0 law40_OrderMoves_p1_code zqfn zqfo (law40_OrderMoves_p1_G p1)) (hp2 : PieceOk Try.prog 275 0 law40_OrderMoves_p2_code zqfr zqfs (law40_OrderMoves_p2_G p2)) (hp3 : PieceOk Try.prog 275 0 law40_OrderMoves_p3_code zqfv zqfw (law40_OrderMoves_p3_G p3)) (hp4 : PieceOk Try.prog 275 0 law40_OrderMoves_p4_code zqfz zqg0 (law40_OrderMoves_p4_G p4)) (hp7 : PieceOk Try.prog 275 0 law40_OrderMoves_p7_code zqge zqgf (law40_OrderMoves_p7_G p7)) : SpecOk Try.prog 3 (zqfk (zqh1 c_law40_sane c_made_Dice_Record c_made_Light c_made_Roll c_order_When p1 p2 p3 p4 p7)) :=
  spec_exec (X := (law40_OrderMoves_X c_law40_sane c_made_Dice_Record c_made_Light c_made_Roll c_order_Compare c_order_When)) (Λ := pick1 [(4090, pieceCut zqfn zqfo (law40_OrderMoves_p1_G p1)), (16378, pieceCut zqfr zqfs (law40_OrderMoves_p2_G p2)), (131066, pieceCut zqfv zqfw (law40_OrderMoves_p3_G p3)), (262138, pieceCut zqfz zqg0 (law40_OrderMoves_p4_G p4)), (8388602, pieceCut zqge zqgf (law40_OrderMoves_p7_G p7))]) (rs := [.tmp 4]) (c := bodyOf Try.f3) mixed tab_ok hΓ Try.func3 (by kernel_rfl) (by kernel_rfl) (by kernel_rfl) (by kernel_rfl) (CutsOk_cons (q := 4090) (c' := law40_OrderMoves_p1_code) (by kernel_rfl) rfl hp1 (CutsOk_cons (q := 16378) (c' := law40_OrderMoves_p2_code) (by kernel_rfl) rfl hp2 (CutsOk_cons (q := 131066) (c' := law40_OrderMoves_p3_code) (by kernel_rfl) rfl hp3 (CutsOk_cons (q := 262138) (c' := law40_OrderMoves_p4_code) (by kernel_rfl) rfl hp4 (CutsOk_cons (q := 8388602) (c' := law40_OrderMoves_p7_code) (by kernel_rfl) rfl hp7 CutsOk_nil))))) (fun x k r h => Eq.trans (b := (zqfk (zqh1 c_law40_sane c_made_Dice_Record c_made_Light c_made_Roll c_order_When p1 p2 p3 p4 p7)).run x k) (by kernel_rfl) h)
end
theorem zqh3Γ : ΓOk Try.prog (pick1 [(5, .spec (zqfd zqfh)), (7, .spec (zq4d zq5y)), (4, .spec (zq5 zq9)), (6, .spec (zqc zqg)), (9, .spec (zqed zqeh)), (8, .spec (zqdv zqea))]) := (ΓOk_cons zqfi (ΓOk_cons zq5z (ΓOk_cons zqa (ΓOk_cons zqh (ΓOk_cons zqei (ΓOk_cons zqeb ΓOk_nil))))))
def zqh4 (m : Nat) : zqfm := zqgh m
theorem zqh5 {β : Type} (i : Nat) (k1 n k_ t54 t55 t56 r_ r_2 r_3 r_4 moved moved2 moved3 have_ b3_) : (zqh4 (i + 1) k1 n k_ t54 t55 t56 r_ r_2 r_3 r_4 moved moved2 moved3 have_ b3_ : Option β) = zqgg (zqh4 i k1) k1 n k_ t54 t55 t56 r_ r_2 r_3 r_4 moved moved2 moved3 have_ b3_ := rfl
def zqh6 : zqfm := zqh4 fuel
theorem zqh7 : PieceOk Try.prog 275 0 law40_OrderMoves_p1_code zqfn zqfo (law40_OrderMoves_p1_G zqh6) := zqgi zqfh zq5y zq9 zqg zqeh zqea zqh3Γ fuel
def zqh8 (m : Nat) : zqfq := zqgk m
theorem zqh9 {β : Type} (i : Nat) (k1 n k_ all t84 t85 t86 r_ r_2 r_3 r_4 moved moved2 moved3 have_ b3_) : (zqh8 (i + 1) k1 n k_ all t84 t85 t86 r_ r_2 r_3 r_4 moved moved2 moved3 have_ b3_ : Option β) = zqgj (zqh8 i k1) k1 n k_ all t84 t85 t86 r_ r_2 r_3 r_4 moved moved2 moved3 have_ b3_ := rfl
def zqha : zqfq := zqh8 fuel
theorem zqhb : PieceOk Try.prog 275 0 law40_OrderMoves_p2_code zqfr zqfs (law40_OrderMoves_p2_G zqha) := zqgl zqfh zq5y zq9 zqg zqeh zqea zqh3Γ fuel
def zqhc (m : Nat) : zqfu := zqgn m
theorem zqhd {β : Type} (i : Nat) (k1 n k_ all i_ r_ r_2 r_3 r_4 moved moved2 moved3 turned turned2 b3_ b4_ b5_) : (zqhc (i + 1) k1 n k_ all i_ r_ r_2 r_3 r_4 moved moved2 moved3 turned turned2 b3_ b4_ b5_ : Option β) = zqgm (zqhc i k1) k1 n k_ all i_ r_ r_2 r_3 r_4 moved moved2 moved3 turned turned2 b3_ b4_ b5_ := rfl
def zqhe : zqfu := zqhc fuel
theorem zqhf : PieceOk Try.prog 275 0 law40_OrderMoves_p3_code zqfv zqfw (law40_OrderMoves_p3_G zqhe) := zqgo zqfh zq5y zq9 zqg zqeh zqea zqh3Γ fuel
def zqhg (m : Nat) : zqfy := zqgq m
theorem zqhh {β : Type} (i : Nat) (k1 n k_ all t119 t120 t121 r_ r_2 r_3 r_4 moved moved2 moved3 turned turned2 b3_ b4_ b5_) : (zqhg (i + 1) k1 n k_ all t119 t120 t121 r_ r_2 r_3 r_4 moved moved2 moved3 turned turned2 b3_ b4_ b5_ : Option β) = zqgp (zqhg i k1) k1 n k_ all t119 t120 t121 r_ r_2 r_3 r_4 moved moved2 moved3 turned turned2 b3_ b4_ b5_ := rfl
def zqhi : zqfy := zqhg fuel
theorem zqhj : PieceOk Try.prog 275 0 law40_OrderMoves_p4_code zqfz zqg0 (law40_OrderMoves_p4_G zqhi) := zqgr zqfh zq5y zq9 zqg zqeh zqea zqh3Γ fuel
def zqhk (m : Nat) : zqg3 := zqgt zqeh m
theorem zqhl {β : Type} (i : Nat) (k1 k2 n k_ all is i_ j r_ r_2 r_3 r_4 moved moved2 moved3 turned turned2 a b c b6_ b7_ b8_) : (zqhk (i + 1) k1 k2 n k_ all is i_ j r_ r_2 r_3 r_4 moved moved2 moved3 turned turned2 a b c b6_ b7_ b8_ : Option β) = zqgs zqeh (zqhk i k1 k2) k1 k2 n k_ all is i_ j r_ r_2 r_3 r_4 moved moved2 moved3 turned turned2 a b c b6_ b7_ b8_ := rfl
def zqhm : zqg3 := zqhk fuel
theorem zqhn : PieceOk Try.prog 275 0 law40_OrderMoves_p5_code zqg4 zqg5 (law40_OrderMoves_p5_G zqhm) := zqgu zqfh zq5y zq9 zqg zqeh zqea zqh3Γ fuel
def zqho : zqg8 := zqgw zqhm
theorem zqhp : PieceOk Try.prog 275 0 law40_OrderMoves_p6_code zqg9 zqga (law40_OrderMoves_p6_G zqho) := zqgx zqfh zq5y zq9 zqg zqeh zqea zqh3Γ zqhm zqhn
def zqhq (m : Nat) : zqgd := zqgz zqho m
theorem zqhr {β : Type} (i : Nat) (k1 k2 n k_ all is i_ r_ r_2 r_3 r_4 moved moved2 moved3 turned turned2 a b c b6_ b7_ b8_) : (zqhq (i + 1) k1 k2 n k_ all is i_ r_ r_2 r_3 r_4 moved moved2 moved3 turned turned2 a b c b6_ b7_ b8_ : Option β) = zqgy zqho (zqhq i k1 k2) k1 k2 n k_ all is i_ r_ r_2 r_3 r_4 moved moved2 moved3 turned turned2 a b c b6_ b7_ b8_ := rfl
def zqhs : zqgd := zqhq fuel
theorem zqht : PieceOk Try.prog 275 0 law40_OrderMoves_p7_code zqge zqgf (law40_OrderMoves_p7_G zqhs) := zqh0 zqfh zq5y zq9 zqg zqeh zqea zqh3Γ zqho zqhp fuel
def zqhu : zqfj := zqh1 zqfh zq5y zq9 zqg zqea zqh6 zqha zqhe zqhi zqhs
theorem zqhv : SpecOk Try.prog 3 (zqfk zqhu) := zqh2 zqfh zq5y zq9 zqg zqeh zqea zqh3Γ zqh6 zqha zqhe zqhi zqhs zqh7 zqhb zqhf zqhj zqht
end
end Go.Lift
/- Plain lemmas about functional forms: tests that are known, loops. -/
namespace Go.Lift
open Go.RowKit Go.IntWalk

section
variable {β : Type}
/-! ### Tests -/
theorem c_inb {i n : Int} {a b : Option β} (h : 0 ≤ i ∧ i < n) : cond (decide (0 ≤ i) && decide (i < n)) a b = a := by
  rw [decide_eq_true h.1, decide_eq_true h.2]; rfl
theorem c_room {n : Nat} {a b : Option β} (h : n ≤ 140737488355328) : cond (decide (n ≤ roomMax)) a b = a := by
  rw [decide_eq_true (p := n ≤ roomMax) h]; rfl
theorem c_pos {p : Prop} [Decidable p] {a b : Option β} (h : p) : cond (decide p) a b = a := by rw [decide_eq_true h]; rfl
theorem c_neg {p : Prop} [Decidable p] {a b : Option β} (h : ¬ p) : cond (decide p) a b = b := by rw [decide_eq_false h]; rfl
theorem c_npos {p : Prop} [Decidable p] {a b : Option β} (h : p) : cond (!decide p) a b = b := by rw [decide_eq_true h]; rfl
theorem c_nneg {p : Prop} [Decidable p] {a b : Option β} (h : ¬ p) : cond (!decide p) a b = a := by rw [decide_eq_false h]; rfl
theorem c_t {a b : Option β} : cond true a b = a := rfl
theorem c_f {a b : Option β} : cond false a b = b := rfl
theorem c_not {p : Bool} {a b : Option β} : cond (!p) a b = cond p b a := by cases p <;> rfl
theorem c_and {p q : Bool} {a b : Option β} : cond p (cond q a b) b = cond (p && q) a b := by cases p <;> rfl
theorem c_nand {p q : Bool} {a b : Option β} : cond p b (cond q a b) = cond (!p && q) a b := by cases p <;> rfl
theorem c_k {γ : Type} (k : γ → Option β) (p : Bool) (x y : γ) : cond p (k x) (k y) = k (cond p x y) := by cases p <;> rfl
theorem c_kb (k : Bool → Option β) (p q : Bool) : cond p (k q) (k false) = k (p && q) := by cases p <;> rfl
theorem pair_eta {γ δ : Type} (p : γ × δ) : (p.1, p.2) = p := rfl
theorem k_eq {γ : Type} {k : γ → Option β} {x y : γ} (h : x = y) : k x = k y := by rw [h]

/-! ### Loops over the numbers from 0 on -/
/-- A walk over a list that may end early. -/
def walk {α σ ε : Type} (g : Nat → α → σ → ε ⊕ σ) : List α → Nat → σ → ε ⊕ σ
  | [], _, s => .inr s
  | x :: r, j, s =>
    match g j x s with
    | .inl e => .inl e
    | .inr s' => walk g r (j + 1) s'

def sumK {ε σ : Type} (E : ε → Option β) (K : σ → Option β) : ε ⊕ σ → Option β
  | .inl e => E e
  | .inr s => K s

theorem walk_loop {α σ ε : Type} (F : Nat → Int → σ → Option β) (g : Nat → α → σ → ε ⊕ σ) (E : ε → Option β) (K : σ → Option β) (d : α) (xs : List α)
    (h1 : ∀ (m i : Nat) s, i < xs.length → F (m + 1) (i : Int) s = sumK E (fun s' => F m ((i : Int) + 1) s') (g i (xs.getD i d) s))
    (h2 : ∀ (m : Nat) s, F (m + 1) (xs.length : Int) s = K s) :
    ∀ (r : List α) (j fuel : Nat) (s : σ), xs.drop j = r → j + r.length = xs.length → r.length < fuel → F fuel (j : Int) s = sumK E K (walk g r j s)
  | r, j, 0, s, _, _, h => absurd h (Nat.not_lt_zero _)
  | [], j, m + 1, s, hd, hj, _ => by
    simp only [List.length_nil, Nat.add_zero] at hj
    subst hj
    rw [h2]; rfl
  | x :: r, j, m + 1, s, hd, hj, hm => by
    simp only [List.length_cons] at hj hm
    have h3 : j < xs.length := by omega
    have hx : xs.getD j d = x := by
      rw [List.drop_eq_getElem_cons h3] at hd
      injection hd with hd1 hd2
      simp [List.getD, h3, hd1]
    have hr : xs.drop (j + 1) = r := by
      rw [List.drop_eq_getElem_cons h3] at hd
      injection hd with hd1 hd2
    rw [h1 m j s h3, hx, walk]
    cases hg : g j x s with
    | inl e => rfl
    | inr s' =>
      simp only [sumK]
      exact walk_loop F g E K d xs h1 h2 r (j + 1) m s' hr (by omega) (by omega)

theorem walk_loop0 {α σ ε : Type} (F : Nat → Int → σ → Option β) (g : Nat → α → σ → ε ⊕ σ) (E : ε → Option β) (K : σ → Option β) (d : α) (xs : List α) (s : σ) (n : Nat) (hn : xs.length < n)
    (h1 : ∀ (m i : Nat) s, i < xs.length → F (m + 1) (i : Int) s = sumK E (fun s' => F m ((i : Int) + 1) s') (g i (xs.getD i d) s))
    (h2 : ∀ (m : Nat) s, F (m + 1) (xs.length : Int) s = K s) : F n 0 s = sumK E K (walk g xs 0 s) :=
  walk_loop F g E K d xs h1 h2 xs 0 n s rfl (by simp) hn

/-- A loop that only looks: every element, or out. -/
theorem check_loop {α : Type} (F : Nat → Int → Option β) (p : α → Bool) (E K : Option β) (d : α) (xs : List α) (n : Nat) (hn : xs.length < n)
    (h1 : ∀ (m i : Nat), i < xs.length → F (m + 1) (i : Int) = cond (p (xs.getD i d)) (F m ((i : Int) + 1)) E)
    (h2 : ∀ (m : Nat), F (m + 1) (xs.length : Int) = K) : F n 0 = cond (xs.all p) K E := by
  have h := walk_loop0 (ε := Unit) (fun m i (_ : Unit) => F m i) (fun _ x s => cond (p x) (.inr s) (.inl ())) (fun _ => E) (fun _ => K) d xs () n hn
    (fun m i s hi => by rw [h1 m i hi]; cases p (xs.getD i d) <;> rfl) (fun m s => h2 m)
  rw [h]
  have key : ∀ (l : List α) (j : Nat), sumK (fun _ => E) (fun _ => K) (walk (ε := Unit) (fun _ x (s : Unit) => cond (p x) (.inr s) (.inl ())) l j ()) = cond (l.all p) K E := by
    intro l
    induction l with
    | nil => intro j; rfl
    | cons x l ih =>
      intro j
      simp only [walk, List.all_cons]
      cases p x with
      | true => simpa using ih (j + 1)
      | false => rfl
  exact key xs 0

/-- A loop that goes through all elements. -/
theorem fold_loop {α σ : Type} (F : Nat → Int → σ → Option β) (g : σ → α → σ) (K : σ → Option β) (d : α) (xs : List α) (s : σ) (n : Nat) (hn : xs.length < n)
    (h1 : ∀ (m i : Nat) s, i < xs.length → F (m + 1) (i : Int) s = F m ((i : Int) + 1) (g s (xs.getD i d)))
    (h2 : ∀ (m : Nat) s, F (m + 1) (xs.length : Int) s = K s) : F n 0 s = K (xs.foldl g s) := by
  have h := walk_loop0 (ε := Empty) F (fun _ x s => .inr (g s x)) (fun e => e.elim) K d xs s n hn (fun m i s hi => h1 m i s hi) h2
  rw [h]
  have key : ∀ (l : List α) (j : Nat) (s : σ), sumK (fun e : Empty => e.elim) K (walk (fun _ x s => .inr (g s x)) l j s) = K (l.foldl g s) := by
    intro l
    induction l with
    | nil => intro j s; rfl
    | cons x l ih => intro j s; exact ih (j + 1) (g s x)
  exact key xs 0 s

/-- A loop that goes through all elements, with an invariant. -/
theorem fold_loopI {α σ : Type} (I : Nat → σ → Prop) (F : Nat → Int → σ → Option β) (g : σ → α → σ) (K : σ → Option β) (d : α) (xs : List α) (s : σ) (n : Nat) (hn : xs.length < n) (h0 : I 0 s)
    (hI : ∀ (i : Nat) s, i < xs.length → I i s → I (i + 1) (g s (xs.getD i d)))
    (h1 : ∀ (m i : Nat) s, i < xs.length → I i s → F (m + 1) (i : Int) s = F m ((i : Int) + 1) (g s (xs.getD i d)))
    (h2 : ∀ (m : Nat) s, I xs.length s → F (m + 1) (xs.length : Int) s = K s) : F n 0 s = K (xs.foldl g s) := by
  have key : ∀ (r : List α) (j fuel : Nat) (s : σ), xs.drop j = r → j + r.length = xs.length → r.length < fuel → I j s → F fuel (j : Int) s = K (r.foldl g s) := by
    intro r
    induction r with
    | nil =>
      intro j fuel s hd hj hf hs
      obtain ⟨m, rfl⟩ : ∃ m, fuel = m + 1 := ⟨fuel - 1, by omega⟩
      simp only [List.length_nil, Nat.add_zero] at hj
      subst hj
      exact h2 m s hs
    | cons x r ih =>
      intro j fuel s hd hj hf hs
      obtain ⟨m, rfl⟩ : ∃ m, fuel = m + 1 := ⟨fuel - 1, by omega⟩
      simp only [List.length_cons] at hj hf
      have h3 : j < xs.length := by omega
      have hx : xs.getD j d = x := by
        rw [List.drop_eq_getElem_cons h3] at hd
        injection hd with hd1 hd2
        simp [List.getD, h3, hd1]
      have hr : xs.drop (j + 1) = r := by
        rw [List.drop_eq_getElem_cons h3] at hd
        injection hd with hd1 hd2
      rw [h1 m j s h3 hs, hx]
      have := hI j s h3 hs
      rw [hx] at this
      exact ih (j + 1) m (g s x) hr (by omega) (by omega) this
  exact key xs 0 n s rfl (by simp) hn h0

/-- A loop with an invariant and a measure. -/
theorem while_loop {σ ρ : Type} {Kt : Type → Type} (F : {β : Type} → Kt β → Nat → σ → Option β) (X : {β : Type} → Kt β → ρ → Option β) (I : σ → Prop) (μ : σ → Nat) (Q : ρ → Prop)
    (step : ∀ s, I s → (∃ s', I s' ∧ μ s' < μ s ∧ ∀ {β : Type} (k : Kt β) m, F k (m + 1) s = F k m s') ∨ (∃ r, Q r ∧ ∀ {β : Type} (k : Kt β) m, F k (m + 1) s = X k r)) :
    ∀ (N : Nat) (s : σ), I s → μ s < N → ∃ r, Q r ∧ ∀ {β : Type} (k : Kt β), F k N s = X k r := by
  intro N
  induction N with
  | zero => intro s _ h; omega
  | succ N ih =>
    intro s hI hN
    rcases step s hI with ⟨s', h1, h2, h3⟩ | ⟨r, h1, h2⟩
    · obtain ⟨r, h4, h5⟩ := ih s' h1 (by omega)
      exact ⟨r, h4, fun k => (h3 k N).trans (h5 k)⟩
    · exact ⟨r, h1, fun k => h2 k N⟩
end
end Go.Lift

/- Square matrices as lists of rows. -/
namespace Go.Lift
open Go.RowKit Go.IntWalk
noncomputable section
set_option linter.unusedVariables false
set_option linter.unusedSimpArgs false

abbrev Mat := List (List Int)
def at2 (m : Mat) (i j : Nat) : Int := (m.getD i []).getD j 0
structure Sq (n : Nat) (m : Mat) : Prop where
  len : m.length = n
  row : ∀ i, i < n → (m.getD i []).length = n
def setAt (m : Mat) (i j : Nat) (v : Int) : Mat := m.set i ((m.getD i []).set j v)

theorem getD_set_eq {α : Type} {l : List α} {i : Nat} {v d : α} (h : i < l.length) : (l.set i v).getD i d = v := by simp [List.getD, h]
theorem getD_set_ne {α : Type} {l : List α} {i j : Nat} {v d : α} (h : i ≠ j) : (l.set i v).getD j d = l.getD j d := by simp [List.getD, List.getElem?_set_ne h]

theorem Sq.setAt {n : Nat} {m : Mat} (h : Sq n m) (i j : Nat) (v : Int) : Sq n (setAt m i j v) := by
  refine ⟨by simp [Go.Lift.setAt, h.len], fun a ha => ?_⟩
  by_cases hi : i = a
  · subst hi
    unfold Go.Lift.setAt
    rw [getD_set_eq (by rw [h.len]; exact ha), List.length_set]
    exact h.row i ha
  · unfold Go.Lift.setAt
    rw [getD_set_ne hi]
    exact h.row a ha

theorem at_setAt {n : Nat} {m : Mat} (h : Sq n m) {i j : Nat} (hi : i < n) (hj : j < n) (v : Int) (a b : Nat) : at2 (setAt m i j v) a b = if a = i ∧ b = j then v else at2 m a b := by
  unfold at2 setAt
  by_cases hai : i = a
  · subst hai
    rw [getD_set_eq (by rw [h.len]; exact hi)]
    by_cases hbj : j = b
    · subst hbj
      rw [getD_set_eq (by rw [h.row i hi]; exact hj), if_pos ⟨rfl, rfl⟩]
    · rw [getD_set_ne hbj, if_neg (fun h => hbj h.2.symm)]
  · rw [getD_set_ne hai, if_neg (fun h => hai h.1.symm)]

abbrev BIG : Int := 1099511627776
/-- One update of the closure. -/
def relaxW (k i j : Nat) (m : Mat) : Mat :=
  if at2 m i k = BIG ∨ at2 m k j = BIG then m
  else setAt m i j (if IntKind.i64.wrap (at2 m i k + at2 m k j) < at2 m i j then IntKind.i64.wrap (at2 m i k + at2 m k j) else at2 m i j)
def rowW (n k i : Nat) (m : Mat) : Mat := (List.range n).foldl (fun m j => relaxW k i j m) m
def roundW (n k : Nat) (m : Mat) : Mat := (List.range n).foldl (fun m i => rowW n k i m) m

theorem Sq.relaxW {n : Nat} {m : Mat} (h : Sq n m) (k i j : Nat) : Sq n (relaxW k i j m) := by
  unfold Go.Lift.relaxW
  split
  · exact h
  · exact h.setAt _ _ _

theorem fold_inv {α σ : Type} (I : σ → Prop) (g : σ → α → σ) (hg : ∀ s x, I s → I (g s x)) : ∀ (l : List α) (s : σ), I s → I (l.foldl g s)
  | [], _, h => h
  | x :: l, s, h => fold_inv I g hg l _ (hg s x h)

theorem Sq.rowW {n : Nat} {m : Mat} (h : Sq n m) (k i : Nat) : Sq n (rowW n k i m) := fold_inv (Sq n) _ (fun m j h => h.relaxW k i j) _ _ h
theorem Sq.roundW {n : Nat} {m : Mat} (h : Sq n m) (k : Nat) : Sq n (roundW n k m) := fold_inv (Sq n) _ (fun m i h => h.rowW k i) _ _ h
end
end Go.Lift

/- Clocks in plain Lean: what the forms of the chapter 38, the program's and the reference's, compute. -/
namespace Go.Lift
open Go.RowKit Go.IntWalk
noncomputable section
set_option linter.unusedVariables false
set_option linter.unusedSimpArgs false

def inN (n low high : Int) : Bool := decide (low ≤ n) && decide (n ≤ high)
theorem inN_iff {n low high : Int} : inN n low high = true ↔ low ≤ n ∧ n ≤ high := by simp [inN]
theorem inN_mk {n low high : Int} (h : low ≤ n ∧ n ≤ high) : inN n low high = true := inN_iff.2 h

abbrev Host := List UInt8 × Int
abbrev Sync := Int × Int × Int × Int
abbrev Event := Int × Int × List UInt8
abbrev Link := Int × Int × Int
abbrev Rec := List Host × List Sync × List Event × List Link

/-- The numbers of a comparison are right. -/
def okSync (s : Sync) : Bool := inN s.2.1 0 8589934592 && (inN s.2.2.1 0 8589934592 && (inN s.2.2.2 0 8589934592 && decide (s.2.2.1 ≤ s.2.2.2)))
def vHost (h : Host) : Bool := inN h.2 0 500000
def vSync (n : Nat) (s : Sync) : Bool := inN s.1 0 ((n : Int) - 1) && okSync s
def vEvent (n : Nat) (e : Event) : Bool := inN e.1 0 ((n : Int) - 1) && inN e.2.1 0 8589934592
def vLink (n : Nat) (l : Link) : Bool := inN l.1 0 ((n : Int) - 1) && (inN l.2.1 0 ((n : Int) - 1) && (!decide (l.1 = l.2.1) && inN l.2.2 0 8589934592))
def small (r : Rec) : Bool := !decide ((8 : Int) < r.1.length) && (!decide ((64 : Int) < r.2.1.length) && (!decide ((40 : Int) < r.2.2.1.length) && !decide ((64 : Int) < r.2.2.2.length)))
def valid (r : Rec) : Bool := small r && (r.1.all vHost && (r.2.1.all (vSync r.1.length) && (r.2.2.1.all (vEvent r.1.length) && r.2.2.2.all (vLink r.2.2.1.length))))

/-- How far the time advances while a clock advances. -/
def elapsed (drift d : Int) : Int × Int :=
  cond (inN drift 0 500000 && inN d 0 8589934592) (d * 1000000 / (1000000 + drift), (d * 1000000 + (1000000 - drift) - 1) / (1000000 - drift)) (0, 0)
def fromS (h : Host) (s : Sync) (c : Int) : Int × Int :=
  cond (vHost h && (okSync s && inN c 0 8589934592))
    (cond (decide (s.2.1 ≤ c)) (s.2.2.1 + (elapsed h.2 (c - s.2.1)).1, s.2.2.2 + (elapsed h.2 (c - s.2.1)).2) (s.2.2.1 - (elapsed h.2 (s.2.1 - c)).2, s.2.2.2 - (elapsed h.2 (s.2.1 - c)).1))
    (-1099511627776, 1099511627776)
def meet2 (a b : Int × Int) : Int × Int := (if b.1 > a.1 then b.1 else a.1, if b.2 < a.2 then b.2 else a.2)
def whenR (r : Rec) (host c : Int) : Int × Int :=
  r.2.1.foldl (fun out s => cond (decide (s.1 = host)) (meet2 out (fromS (r.1.getD host.toNat ([], 0)) s c)) out) (0, 8589934592)
def when? (r : Rec) (host c : Int) : (Int × Int) × Bool :=
  cond (valid r && (inN host 0 ((r.1.length : Int) - 1) && inN c 0 8589934592)) (whenR r host c, !decide ((whenR r host c).2 < (whenR r host c).1)) ((0, 0), false)
section
variable {β : Type}
theorem clock_in_eq (n lo hi : Int) (k : Bool → Option β) : zq34 n lo hi k = k (inN n lo hi) := by
  simp only [zq34, zq31, inN, c_kb]
theorem clock_instant_eq (n : Int) (k : Bool → Option β) : zq3b n k = k (inN n 0 8589934592) := by
  simp only [zq3b, zq38, clock_in_eq]
theorem clock_compared_eq (s : Sync) (k : Bool → Option β) : zq65 s k = k (okSync s) := by
  simp only [zq65, zq62, clock_instant_eq, c_kb, okSync]

theorem clock_Valid_p1_eq (k1 : zq6g β) (k2 : zq6h β) (xs : List Host) (hx : xs.length ≤ 1000000) (r : List Host) (r2 : List Sync) (r3 : List Event) (r4 : List Link) :
    zq7h k1 k2 xs xs.length 0 r r2 r3 r4 = cond (xs.all vHost) (k2 r r2 r3 r4) (k1 false) := by
  refine check_loop (fun m i => zq7f m k1 k2 xs xs.length i r r2 r3 r4) vHost _ _ ([], 0) xs fuel (lt_fuel (by omega)) (fun m i hi => ?_) (fun m => ?_)
  · simp (disch := omega) only [zq7g, zq70, clock_in_eq, c_pos, c_inb, c_not, i64_in, Int.toNat_natCast, vHost]
  · simp (disch := omega) only [zq7g, zq70, c_neg]

theorem clock_Valid_p2_eq (k1 : zq6l β) (k2 : zq6m β) (xs : List Sync) (hx : xs.length ≤ 1000000) (r : List Host) (hr : r.length ≤ 1000000) (r2 : List Sync) (r3 : List Event) (r4 : List Link) :
    zq7l k1 k2 xs xs.length 0 r r2 r3 r4 = cond (xs.all (vSync r.length)) (k2 r r2 r3 r4) (k1 false) := by
  refine check_loop (fun m i => zq7j m k1 k2 xs xs.length i r r2 r3 r4) (vSync r.length) _ _ (0, 0, 0, 0) xs fuel (lt_fuel (by omega)) (fun m i hi => ?_) (fun m => ?_)
  · simp (disch := omega) only [zq7k, zq73, clock_in_eq, clock_compared_eq, c_pos, c_inb, c_not, i64_in, Int.toNat_natCast, vSync, c_and]
  · simp (disch := omega) only [zq7k, zq73, c_neg]

theorem clock_Valid_p3_eq (k1 : zq6q β) (k2 : zq6r β) (xs : List Event) (hx : xs.length ≤ 1000000) (r : List Host) (hr : r.length ≤ 1000000) (r2 : List Sync) (r3 : List Event) (r4 : List Link) :
    zq7p k1 k2 xs xs.length 0 r r2 r3 r4 = cond (xs.all (vEvent r.length)) (k2 r r2 r3 r4) (k1 false) := by
  refine check_loop (fun m i => zq7n m k1 k2 xs xs.length i r r2 r3 r4) (vEvent r.length) _ _ (0, 0, []) xs fuel (lt_fuel (by omega)) (fun m i hi => ?_) (fun m => ?_)
  · simp (disch := omega) only [zq7o, zq76, clock_in_eq, clock_instant_eq, c_pos, c_inb, c_not, i64_in, Int.toNat_natCast, vEvent, c_and]
  · simp (disch := omega) only [zq7o, zq76, c_neg]

theorem clock_Valid_p4_eq (k1 : zq6v β) (k2 : zq6w β) (xs : List Link) (hx : xs.length ≤ 1000000) (r : List Host) (r2 : List Sync) (r3 : List Event) (hr : r3.length ≤ 1000000) (r4 : List Link) :
    zq7t k1 k2 xs xs.length 0 r r2 r3 r4 = cond (xs.all (vLink r3.length)) (k2 ()) (k1 false) := by
  refine check_loop (fun m i => zq7r m k1 k2 xs xs.length i r r2 r3 r4) (vLink r3.length) _ _ (0, 0, 0) xs fuel (lt_fuel (by omega)) (fun m i hi => ?_) (fun m => ?_)
  · simp (disch := omega) only [zq7s, zq79, clock_in_eq, clock_instant_eq, c_pos, c_inb, c_not, i64_in, Int.toNat_natCast, vLink, c_nand, c_and, Bool.not_not]
  · simp (disch := omega) only [zq7s, zq79, c_neg]

theorem clock_Valid_eq (r : Rec) (k : Bool → Option β) : zq7v r k = k (valid r) := by
  simp only [zq7v, zq7c]
  by_cases h1 : (8 : Int) < r.1.length
  · simp [valid, small, h1]
  by_cases h2 : (64 : Int) < r.2.1.length
  · simp [valid, small, h1, h2]
  by_cases h3 : (40 : Int) < r.2.2.1.length
  · simp [valid, small, h1, h2, h3]
  by_cases h4 : (64 : Int) < r.2.2.2.length
  · simp [valid, small, h1, h2, h3, h4]
  rw [decide_eq_false h1, decide_eq_false h2, decide_eq_false h3, decide_eq_false h4]
  simp only [c_f]
  rw [clock_Valid_p1_eq _ _ _ (by omega), clock_Valid_p2_eq _ _ _ (by omega) _ (by omega), clock_Valid_p3_eq _ _ _ (by omega) _ (by omega), clock_Valid_p4_eq _ _ _ (by omega) _ _ _ (by omega)]
  simp only [c_kb, c_k, valid, small, decide_eq_false h1, decide_eq_false h2, decide_eq_false h3, decide_eq_false h4, Bool.not_false, Bool.true_and]
  apply k_eq
  cases r.1.all vHost <;> cases r.2.1.all (vSync r.1.length) <;> cases r.2.2.1.all (vEvent r.1.length) <;> cases r.2.2.2.all (vLink r.2.2.1.length) <;> rfl

theorem clock_Elapsed_eq (drift d : Int) (k : Int → Int → Option β) : zq6c drift d k = k (elapsed drift d).1 (elapsed drift d).2 := by
  simp only [zq6c, zq69, clock_in_eq, clock_instant_eq, elapsed]
  cases h1 : inN drift 0 500000 with
  | false => rfl
  | true =>
    cases h2 : inN d 0 8589934592 with
    | false => rfl
    | true =>
      have h1 := inN_iff.1 h1
      have h2 := inN_iff.1 h2
      simp (disch := omega) only [zq4a, zq47, Bool.not_true, c_f, Bool.and_true, cond_true, i64_in, i64_quo, c_nneg]

theorem elapsed_bd {drift d : Int} : 0 ≤ (elapsed drift d).1 ∧ (elapsed drift d).1 ≤ 8589934592 ∧ 0 ≤ (elapsed drift d).2 ∧ (elapsed drift d).2 ≤ 17179869184 := by
  unfold elapsed
  cases h : inN drift 0 500000 && inN d 0 8589934592 with
  | false => simp
  | true =>
    simp only [cond_true]
    rw [Bool.and_eq_true, inN_iff, inN_iff] at h
    have hp1 : (0 : Int) < 1000000 + drift := by omega
    have hp2 : (0 : Int) < 1000000 - drift := by omega
    refine ⟨Int.ediv_nonneg (by omega) (by omega), ?_, Int.ediv_nonneg (by omega) (by omega), ?_⟩
    · apply Int.le_of_lt_add_one
      rw [Int.ediv_lt_iff_lt_mul hp1]
      have : (8589934592 + 1) * 1000000 ≤ (8589934592 + 1) * (1000000 + drift) := Int.mul_le_mul_of_nonneg_left (by omega) (by omega)
      omega
    · apply Int.le_of_lt_add_one
      rw [Int.ediv_lt_iff_lt_mul hp2]
      have : (17179869184 + 1) * 500000 ≤ (17179869184 + 1) * (1000000 - drift) := Int.mul_le_mul_of_nonneg_left (by omega) (by omega)
      omega

theorem clock_From_eq (h : Host) (s : Sync) (c : Int) (k : Int × Int → Option β) : zq8i h s c k = k (fromS h s c) := by
  simp only [zq8i, zq8f, clock_in_eq, clock_compared_eq, clock_instant_eq, clock_Elapsed_eq, fromS, vHost]
  cases h1 : inN h.2 0 500000 with
  | false => rfl
  | true =>
    cases h2 : okSync s with
    | false => rfl
    | true =>
      cases h3 : inN c 0 8589934592 with
      | false => rfl
      | true =>
        simp only [okSync, Bool.and_eq_true, inN_iff, decide_eq_true_eq] at h2
        have h3 := inN_iff.1 h3
        simp only [Bool.not_true, c_f, Bool.and_true, cond_true]
        have e1 := @elapsed_bd h.2 (c - s.2.1)
        have e2 := @elapsed_bd h.2 (s.2.1 - c)
        by_cases h4 : s.2.1 ≤ c
        · simp (disch := omega) only [c_pos, i64_in, decide_eq_true h4, cond_true]
        · simp (disch := omega) only [c_neg, i64_in, decide_eq_false h4, cond_false]

theorem clock_Meet_eq (a b : Int × Int) (k : Int × Int → Option β) : zq3i a b k = k (meet2 a b) := by simp only [zq3i, zq3f, meet2]
theorem clock_Empty_eq (a : Int × Int) (k : Bool → Option β) : zq3p a k = k (decide (a.2 < a.1)) := by simp only [zq3p, zq3m]
theorem clock_When_p1_eq (k1 : zq8m β) (host c : Int) (xs : List Sync) (hx : xs.length ≤ 1000000) (r : List Host) (hh : 0 ≤ host ∧ host < r.length) (r2 : List Sync) (r3 : List Event) (r4 : List Link) (a b : Int) (o : Int × Int) :
    zq8y k1 host c xs xs.length 0 r r2 r3 r4 a b o.1 o.2 = k1 a b (xs.foldl (fun out s => cond (decide (s.1 = host)) (meet2 out (fromS (r.getD host.toNat ([], 0)) s c)) out) o).1 (xs.foldl (fun out s => cond (decide (s.1 = host)) (meet2 out (fromS (r.getD host.toNat ([], 0)) s c)) out) o).2 := by
  refine fold_loop (σ := Int × Int) (fun m i o => zq8w m k1 host c xs xs.length i r r2 r3 r4 a b o.1 o.2) (fun out s => cond (decide (s.1 = host)) (meet2 out (fromS (r.getD host.toNat ([], 0)) s c)) out) (fun o => k1 a b o.1 o.2) (0, 0, 0, 0) xs o fuel (lt_fuel (by omega)) (fun m i s hi => ?_) (fun m s => ?_)
  · simp (disch := omega) only [zq8x, zq8q, clock_From_eq, clock_Meet_eq, c_pos, c_inb, i64_in, Int.toNat_natCast]
    cases decide ((xs.getD i (0, 0, 0, 0)).1 = host) <;> rfl
  · simp (disch := omega) only [zq8x, zq8q, c_neg]

theorem valid_bd {r : Rec} (h : valid r = true) : r.1.length ≤ 8 ∧ r.2.1.length ≤ 64 ∧ r.2.2.1.length ≤ 40 ∧ r.2.2.2.length ≤ 64 := by
  simp [valid, small] at h
  omega

theorem clock_When_eq (r : Rec) (host c : Int) (k : Int × Int → Bool → Option β) : zq90 r host c k = k (when? r host c).1 (when? r host c).2 := by
  simp only [zq90, zq8t, clock_Valid_eq, clock_in_eq, clock_instant_eq, clock_Empty_eq, when?]
  cases h1 : valid r with
  | false => rfl
  | true =>
    have hb := valid_bd h1
    simp (disch := omega) only [i64_in, Bool.not_true, c_f, Bool.true_and]
    cases h2 : inN host 0 ((r.1.length : Int) - 1) with
    | false => rfl
    | true =>
      cases h3 : inN c 0 8589934592 with
      | false => rfl
      | true =>
        have h2 := inN_iff.1 h2
        simp only [Bool.not_true, c_f, Bool.and_true, cond_true]
        rw [clock_When_p1_eq _ host c r.2.1 (by omega) r.1 (by omega) r.2.1 r.2.2.1 r.2.2.2 0 0 (0, 8589934592)]
        rfl

end
end
end Go.Lift

/- The dice in plain Lean. -/
namespace Go.Lift
open Go.RowKit Go.IntWalk
noncomputable section
set_option linter.unusedVariables false
set_option linter.unusedSimpArgs false

abbrev Dice := List Int × Int
def DiceOk (d : Dice) : Prop := 0 ≤ d.2 ∧ d.2 ≤ d.1.length ∧ d.1.length ≤ 500

theorem light_eq {β : Type} (l : List Int) (k : Bool → Option β) : zq9 l k = k (decide ((l.length : Int) ≤ 500)) := by
  simp only [zq9, zq6]
theorem roll_eq {β : Type} (l : List Int) (k : Dice → Option β) : zqg l k = k (l, 0) := by
  simp only [zqg, zqd]
theorem roll_ok {l : List Int} (h : (l.length : Int) ≤ 500) : DiceOk (l, 0) := ⟨by simp, by simp, by show l.length ≤ 500; omega⟩

theorem next_ok {n : Int} {d : Dice} (hd : DiceOk d) (hn : 1 ≤ n ∧ n ≤ 4611686018427387904) :
    ∃ x d', 0 ≤ x ∧ x < n ∧ DiceOk d' ∧ ∀ {β : Type} (k : Int → Dice → Option β), zqu n d k = k x d' := by
  obtain ⟨h1, h2, h3⟩ := hd
  by_cases ha : (d.1.length : Int) ≤ d.2
  · exact ⟨0, d, by omega, by omega, ⟨h1, h2, h3⟩, fun k => by simp (disch := omega) only [zqu, zqr, c_pos]⟩
  · generalize hv : List.getD d.1 (Int.toNat d.2) (0 : Int) = v
    have hm1 := Int.tmod_lt_of_pos v (show 0 < n by omega)
    have hm2 : -n < Int.tmod v n := by
      have h5 := Int.tmod_lt_of_pos (-v) (show 0 < n by omega)
      rw [Int.neg_tmod] at h5
      omega
    have hd' : DiceOk (d.1, d.2 + 1) := ⟨by show (0 : Int) ≤ d.2 + 1; omega, by show d.2 + 1 ≤ (d.1.length : Int); omega, h3⟩
    by_cases hc : Int.tmod v n < 0
    · refine ⟨Int.tmod v n + n, (d.1, d.2 + 1), by omega, by omega, hd', fun k => ?_⟩
      simp (disch := omega) only [zqu, zqr, hv, c_pos, c_neg, c_inb, c_nneg, i64_in]
    · refine ⟨Int.tmod v n, (d.1, d.2 + 1), by omega, by omega, hd', fun k => ?_⟩
      simp (disch := omega) only [zqu, zqr, hv, c_pos, c_neg, c_inb, c_nneg, i64_in]

theorem one_ok {l : List Int} {d : Dice} (hl : 0 < l.length) (hlen : l.length ≤ 1000000) (hd : DiceOk d) :
    ∃ x d', x ∈ l ∧ DiceOk d' ∧ ∀ {β : Type} (k : Int → Dice → Option β), zq11 l d k = k x d' := by
  obtain ⟨x, d', h1, h2, hd', hf⟩ := next_ok (n := (l.length : Int)) hd (by omega)
  have hxn : x.toNat < l.length := by omega
  refine ⟨l.getD x.toNat 0, d', ?_, hd', fun k => ?_⟩
  · simp [List.getD, hxn]
  · simp (disch := omega) only [zq11, zqy, hf, c_inb]
end
end Go.Lift

