import Derived.Test.YtamnjokpncjbfaaLiftY
import Derived.Test.YtamnjokpncjbfaaProg
namespace Go.Lift
open Go.Proofs
noncomputable section
set_option maxRecDepth 100000
set_option linter.unusedVariables false

abbrev api_Event := (Int × (Int × List UInt8))
abbrev y_api_Event : Ty := (.prod (.int .i64) (.prod (.int .i64) .str))
abbrev api_Record := (List (List UInt8 × Int) × (List (Int × (Int × (Int × Int))) × (List api_Event × List (Int × (Int × Int)))))
abbrev y_api_Record : Ty := (.prod (.slice (.prod .str (.int .i64))) (.prod (.slice (.prod (.int .i64) (.prod (.int .i64) (.prod (.int .i64) (.int .i64))))) (.prod (.slice y_api_Event) (.slice (.prod (.int .i64) (.prod (.int .i64) (.int .i64)))))))

def tab : List (Nat × TI) := [
  (3, ⟨false, 1, 8, [.int .i64 (0 : Int)], [], none, none, (some (.int .i64)), (some .i64), false, false, none, none⟩),
  (4, ⟨false, 1, 1, [.bool false], [], none, none, (some .bool), none, true, false, none, none⟩),
  (9, ⟨false, 1, 16, [.str ([] : List UInt8)], [], none, none, (some .str), none, false, true, none, none⟩),
  (27, ⟨false, 1, 24, [.nils], [], (some 3), none, (some (.slice (.int .i64))), none, false, false, none, none⟩),
  (28, ⟨false, 1, 2, [.int .u16 (0 : Int)], [], none, none, (some (.int .u16)), (some .u16), false, false, none, none⟩),
  (35, ⟨true, 2, 24, [.str ([] : List UInt8), .int .i64 (0 : Int)], [(0, 1, false), (1, 1, false)], none, none, (some (.prod .str (.int .i64))), none, false, false, (some [.s, .i]), none⟩),
  (36, ⟨false, 1, 24, [.nils], [], (some 35), none, (some (.slice (.prod .str (.int .i64)))), none, false, false, none, none⟩),
  (37, ⟨false, 1, 24, [.nils], [], (some 43), none, (some (.slice (.prod (.int .i64) (.prod (.int .i64) (.prod (.int .i64) (.int .i64)))))), none, false, false, none, none⟩),
  (38, ⟨false, 1, 24, [.nils], [], (some 65), none, (some (.slice y_api_Event)), none, false, false, none, none⟩),
  (39, ⟨false, 1, 24, [.nils], [], (some 67), none, (some (.slice (.prod (.int .i64) (.prod (.int .i64) (.int .i64))))), none, false, false, none, none⟩),
  (41, ⟨true, 4, 96, [.nils, .nils, .nils, .nils], [(0, 1, false), (1, 1, false), (2, 1, false), (3, 1, false)], none, none, (some y_api_Record), none, false, false, none, none⟩),
  (43, ⟨true, 4, 32, [.int .i64 (0 : Int), .int .i64 (0 : Int), .int .i64 (0 : Int), .int .i64 (0 : Int)], [(0, 1, false), (1, 1, false), (2, 1, false), (3, 1, false)], none, none, (some (.prod (.int .i64) (.prod (.int .i64) (.prod (.int .i64) (.int .i64))))), none, false, false, (some [.i, .i, .i, .i]), none⟩),
  (45, ⟨true, 2, 16, [.int .i64 (0 : Int), .int .i64 (0 : Int)], [(0, 1, false), (1, 1, false)], none, none, (some (.prod (.int .i64) (.int .i64))), none, false, false, (some [.i, .i]), none⟩),
  (56, ⟨true, 2, 16, [.int .i64 (0 : Int), .int .i64 (0 : Int)], [], (some 3), (some 2), (some (.prod (.int .i64) (.int .i64))), none, false, false, (some [.i, .i]), none⟩),
  (57, ⟨false, 1, 24, [.nils], [], (some 56), none, (some (.slice (.prod (.int .i64) (.int .i64)))), none, false, false, none, none⟩),
  (61, ⟨false, 1, 24, [.nils], [], (some 27), none, (some (.slice (.slice (.int .i64)))), none, false, false, none, none⟩),
  (65, ⟨true, 3, 32, [.int .i64 (0 : Int), .int .i64 (0 : Int), .str ([] : List UInt8)], [(0, 1, false), (1, 1, false), (2, 1, false)], none, none, (some y_api_Event), none, false, false, (some [.i, .i, .s]), none⟩),
  (67, ⟨true, 3, 24, [.int .i64 (0 : Int), .int .i64 (0 : Int), .int .i64 (0 : Int)], [(0, 1, false), (1, 1, false), (2, 1, false)], none, none, (some (.prod (.int .i64) (.prod (.int .i64) (.int .i64)))), none, false, false, (some [.i, .i, .i]), none⟩),
  (69, ⟨false, 1, 24, [.nils], [], (some 4), none, (some (.slice .bool)), none, false, false, none, none⟩),
  (70, ⟨false, 1, 24, [.nils], [], (some 45), none, (some (.slice (.prod (.int .i64) (.int .i64)))), none, false, false, none, none⟩),
  (82, ⟨true, 2, 32, [.nils, .int .i64 (0 : Int)], [(0, 1, false), (1, 1, false)], none, none, (some (.prod (.slice (.int .i64)) (.int .i64))), none, false, false, none, none⟩),
  (83, ⟨false, 1, 24, [.nils], [], (some 9), none, (some (.slice .str)), none, false, false, none, none⟩),
  (86, ⟨false, 1, 24, [.nils], [], (some 27), none, (some (.slice (.slice (.int .i64)))), none, false, false, none, none⟩),
  (92, ⟨false, 1, 24, [.nils], [], (some 101), none, (some (.slice (.prod (.int .i64) (.prod (.int .i64) (.int .i64))))), none, false, false, none, none⟩),
  (97, ⟨false, 1, 8, [.junk], [], none, none, none, none, false, false, none, (some (3, 4))⟩),
  (101, ⟨true, 3, 24, [.int .i64 (0 : Int), .int .i64 (0 : Int), .int .i64 (0 : Int)], [(0, 1, false), (1, 1, false), (2, 1, false)], none, none, (some (.prod (.int .i64) (.prod (.int .i64) (.int .i64)))), none, false, false, (some [.i, .i, .i]), none⟩)]

theorem tab_ok : TOk Try.prog (look tab) := TOk_of (by kernel_rfl)
theorem mixed : Try.prog.follows .mixedOrders = true := by kernel_rfl

/-- pagewatch/pagewatchmade.Light -/
abbrev T_made_Light := {β : Type} → (List Int) → (Bool → Option β) → Option β
def made_Light_S (c : T_made_Light) : Spec :=
  ⟨[(false, [.data (.slice (.int .i64))])], [], [(false, [.data .bool])], [], fun x k => c x.1.1.1 (fun r0 => k (((r0, ()), ()), ()))⟩
section
@[reducible] def made_Light_X : Ctx := ⟨look tab, pick1 [], false⟩
def made_Light_s {β : Type} (l : List Int) (k : (Bool → Option β)) : Option β :=
  let t : Bool := (decide ((List.length l : Int) ≤ (500 : Int)));
  k t
theorem made_Light_ok' (hΓ : ΓOk Try.prog made_Light_X.Γ) : SpecOk Try.prog 17 (made_Light_S (made_Light_s)) :=
  spec_exec (X := made_Light_X) (Λ := pick1 []) (rs := [.tmp 2]) (c := bodyOf Try.f17) mixed tab_ok hΓ Try.func17 (by kernel_rfl) (by kernel_rfl) (by kernel_rfl) (by kernel_rfl) CutsOk_nil (fun x k r h => Eq.trans (b := (made_Light_S (made_Light_s)).run x k) (by kernel_rfl) h)
end
theorem made_Light_Γ : ΓOk Try.prog (pick1 []) := ΓOk_nil
def made_Light : T_made_Light := made_Light_s
theorem made_Light_ok : SpecOk Try.prog 17 (made_Light_S made_Light) := made_Light_ok' made_Light_Γ

/-- pagewatch/pagewatchmade.Roll -/
abbrev T_made_Roll := {β : Type} → (List Int) → ((List Int × Int) → Option β) → Option β
def made_Roll_S (c : T_made_Roll) : Spec :=
  ⟨[(false, [.data (.slice (.int .i64))])], [], [(false, [.ptr 0 0])], [.cells 82 [.data (.prod (.slice (.int .i64)) (.int .i64))]], fun x k => c x.1.1.1 (fun r0 => k (((), ()), ((r0, ()), ())))⟩
section
@[reducible] def made_Roll_X : Ctx := ⟨look tab, pick1 [], false⟩
def made_Roll_s {β : Type} (l : List Int) (k : ((List Int × Int) → Option β)) : Option β :=
  k (l, (0 : Int))
theorem made_Roll_ok' (hΓ : ΓOk Try.prog made_Roll_X.Γ) : SpecOk Try.prog 18 (made_Roll_S (made_Roll_s)) :=
  spec_exec (X := made_Roll_X) (Λ := pick1 []) (rs := [.tmp 2]) (c := bodyOf Try.f18) mixed tab_ok hΓ Try.func18 (by kernel_rfl) (by kernel_rfl) (by kernel_rfl) (by kernel_rfl) CutsOk_nil (fun x k r h => Eq.trans (b := (made_Roll_S (made_Roll_s)).run x k) (by kernel_rfl) h)
end
theorem made_Roll_Γ : ΓOk Try.prog (pick1 []) := ΓOk_nil
def made_Roll : T_made_Roll := made_Roll_s
theorem made_Roll_ok : SpecOk Try.prog 18 (made_Roll_S made_Roll) := made_Roll_ok' made_Roll_Γ

/-- (*pagewatch/pagewatchmade.Dice).Next -/
abbrev T_made_Dice_Next := {β : Type} → Int → (List Int × Int) → (Int → (List Int × Int) → Option β) → Option β
def made_Dice_Next_S (c : T_made_Dice_Next) : Spec :=
  ⟨[(false, [.ptr 0 0]), (false, [.data (.int .i64)])], [.cells 82 [.data (.prod (.slice (.int .i64)) (.int .i64))]], [(false, [.data (.int .i64)])], [.cells 82 [.data (.prod (.slice (.int .i64)) (.int .i64))]], fun x k => c x.1.2.1.1 x.2.1.1 (fun r0 r1 => k (((r0, ()), ()), ((r1, ()), ())))⟩
section
@[reducible] def made_Dice_Next_X : Ctx := ⟨look tab, pick1 [], false⟩
def made_Dice_Next_s {β : Type} (n : Int) (d : (List Int × Int)) (k : (Int → (List Int × Int) → Option β)) : Option β :=
  cond (decide ((List.length d.1 : Int) ≤ d.2))
  (k (0 : Int) d)
  (cond (decide (n < (1 : Int)))
  (k (0 : Int) d)
  (cond (decide (0 ≤ d.2) && decide (d.2 < (List.length d.1 : Int)))
  (let e : Int := List.getD d.1 (Int.toNat d.2) (0 : Int);
  cond (!decide (n = 0))
  (cond (decide ((Int.tmod e n) < (0 : Int)))
  (let x : Int := (IntKind.i64.wrap ((Int.tmod e n) + n));
  k x (d.1, (IntKind.i64.wrap (d.2 + (1 : Int)))))
  (k (Int.tmod e n) (d.1, (IntKind.i64.wrap (d.2 + (1 : Int))))))
  none)
  none))
theorem made_Dice_Next_ok' (hΓ : ΓOk Try.prog made_Dice_Next_X.Γ) : SpecOk Try.prog 20 (made_Dice_Next_S (made_Dice_Next_s)) :=
  spec_exec (X := made_Dice_Next_X) (Λ := pick1 []) (rs := [.tmp 4]) (c := bodyOf Try.f20) mixed tab_ok hΓ Try.func20 (by kernel_rfl) (by kernel_rfl) (by kernel_rfl) (by kernel_rfl) CutsOk_nil (fun x k r h => Eq.trans (b := (made_Dice_Next_S (made_Dice_Next_s)).run x k) (by kernel_rfl) h)
end
theorem made_Dice_Next_Γ : ΓOk Try.prog (pick1 []) := ΓOk_nil
def made_Dice_Next : T_made_Dice_Next := made_Dice_Next_s
theorem made_Dice_Next_ok : SpecOk Try.prog 20 (made_Dice_Next_S made_Dice_Next) := made_Dice_Next_ok' made_Dice_Next_Γ

/-- pagewatch/clock.Meet -/
abbrev T_clock_Meet := {β : Type} → (Int × Int) → (Int × Int) → ((Int × Int) → Option β) → Option β
def clock_Meet_S (c : T_clock_Meet) : Spec :=
  ⟨[(true, [.data (.prod (.int .i64) (.int .i64))]), (true, [.data (.prod (.int .i64) (.int .i64))])], [], [(true, [.data (.prod (.int .i64) (.int .i64))])], [], fun x k => c x.1.1.1 x.1.2.1.1 (fun r0 => k (((r0, ()), ()), ()))⟩
section
@[reducible] def clock_Meet_X : Ctx := ⟨look tab, pick1 [], false⟩
def clock_Meet_s {β : Type} (a : (Int × Int)) (b : (Int × Int)) (k : ((Int × Int) → Option β)) : Option β :=
  k ((if b.1 > a.1 then b.1 else a.1), (if b.2 < a.2 then b.2 else a.2))
theorem clock_Meet_ok' (hΓ : ΓOk Try.prog clock_Meet_X.Γ) : SpecOk Try.prog 34 (clock_Meet_S (clock_Meet_s)) :=
  spec_exec (X := clock_Meet_X) (Λ := pick1 []) (rs := [.cell 4 45]) (c := bodyOf Try.f34) mixed tab_ok hΓ Try.func34 (by kernel_rfl) (by kernel_rfl) (by kernel_rfl) (by kernel_rfl) CutsOk_nil (fun x k r h => Eq.trans (b := (clock_Meet_S (clock_Meet_s)).run x k) (by kernel_rfl) h)
end
theorem clock_Meet_Γ : ΓOk Try.prog (pick1 []) := ΓOk_nil
def clock_Meet : T_clock_Meet := clock_Meet_s
theorem clock_Meet_ok : SpecOk Try.prog 34 (clock_Meet_S clock_Meet) := clock_Meet_ok' clock_Meet_Γ

/-- pagewatch/clock.Empty -/
abbrev T_clock_Empty := {β : Type} → (Int × Int) → (Bool → Option β) → Option β
def clock_Empty_S (c : T_clock_Empty) : Spec :=
  ⟨[(true, [.data (.prod (.int .i64) (.int .i64))])], [], [(false, [.data .bool])], [], fun x k => c x.1.1.1 (fun r0 => k (((r0, ()), ()), ()))⟩
section
@[reducible] def clock_Empty_X : Ctx := ⟨look tab, pick1 [], false⟩
def clock_Empty_s {β : Type} (a : (Int × Int)) (k : (Bool → Option β)) : Option β :=
  k (decide (a.2 < a.1))
theorem clock_Empty_ok' (hΓ : ΓOk Try.prog clock_Empty_X.Γ) : SpecOk Try.prog 36 (clock_Empty_S (clock_Empty_s)) :=
  spec_exec (X := clock_Empty_X) (Λ := pick1 []) (rs := [.tmp 2]) (c := bodyOf Try.f36) mixed tab_ok hΓ Try.func36 (by kernel_rfl) (by kernel_rfl) (by kernel_rfl) (by kernel_rfl) CutsOk_nil (fun x k r h => Eq.trans (b := (clock_Empty_S (clock_Empty_s)).run x k) (by kernel_rfl) h)
end
theorem clock_Empty_Γ : ΓOk Try.prog (pick1 []) := ΓOk_nil
def clock_Empty : T_clock_Empty := clock_Empty_s
theorem clock_Empty_ok : SpecOk Try.prog 36 (clock_Empty_S clock_Empty) := clock_Empty_ok' clock_Empty_Γ

/-- pagewatch/clock.in -/
abbrev T_clock_in := {β : Type} → Int → Int → Int → (Bool → Option β) → Option β
def clock_in_S (c : T_clock_in) : Spec :=
  ⟨[(false, [.data (.int .i64)]), (false, [.data (.int .i64)]), (false, [.data (.int .i64)])], [], [(false, [.data .bool])], [], fun x k => c x.1.1.1 x.1.2.1.1 x.1.2.2.1.1 (fun r0 => k (((r0, ()), ()), ()))⟩
section
@[reducible] def clock_in_X : Ctx := ⟨look tab, pick1 [], false⟩
def clock_in_s {β : Type} (n : Int) (low : Int) (high : Int) (k : (Bool → Option β)) : Option β :=
  cond (decide (low ≤ n))
  (k (decide (n ≤ high)))
  (k false)
theorem clock_in_ok' (hΓ : ΓOk Try.prog clock_in_X.Γ) : SpecOk Try.prog 50 (clock_in_S (clock_in_s)) :=
  spec_exec (X := clock_in_X) (Λ := pick1 []) (rs := [.tmp 6]) (c := bodyOf Try.f50) mixed tab_ok hΓ Try.func50 (by kernel_rfl) (by kernel_rfl) (by kernel_rfl) (by kernel_rfl) CutsOk_nil (fun x k r h => Eq.trans (b := (clock_in_S (clock_in_s)).run x k) (by kernel_rfl) h)
end
theorem clock_in_Γ : ΓOk Try.prog (pick1 []) := ΓOk_nil
def clock_in : T_clock_in := clock_in_s
theorem clock_in_ok : SpecOk Try.prog 50 (clock_in_S clock_in) := clock_in_ok' clock_in_Γ

/-- pagewatch/clock.instant -/
abbrev T_clock_instant := {β : Type} → Int → (Bool → Option β) → Option β
def clock_instant_S (c : T_clock_instant) : Spec :=
  ⟨[(false, [.data (.int .i64)])], [], [(false, [.data .bool])], [], fun x k => c x.1.1.1 (fun r0 => k (((r0, ()), ()), ()))⟩
section
variable (c_clock_in : T_clock_in)
@[reducible] def clock_instant_X : Ctx := ⟨look tab, pick1 [(50, .spec (clock_in_S c_clock_in))], false⟩
def clock_instant_s {β : Type} (n : Int) (k : (Bool → Option β)) : Option β :=
  c_clock_in n (0 : Int) (8589934592 : Int) (fun (rin : Bool) =>
  k rin)
theorem clock_instant_ok' (hΓ : ΓOk Try.prog (clock_instant_X c_clock_in).Γ) : SpecOk Try.prog 51 (clock_instant_S (clock_instant_s c_clock_in)) :=
  spec_exec (X := (clock_instant_X c_clock_in)) (Λ := pick1 []) (rs := [.tmp 2]) (c := bodyOf Try.f51) mixed tab_ok hΓ Try.func51 (by kernel_rfl) (by kernel_rfl) (by kernel_rfl) (by kernel_rfl) CutsOk_nil (fun x k r h => Eq.trans (b := (clock_instant_S (clock_instant_s c_clock_in)).run x k) (by kernel_rfl) h)
end
theorem clock_instant_Γ : ΓOk Try.prog (pick1 [(50, .spec (clock_in_S clock_in))]) := (ΓOk_cons clock_in_ok ΓOk_nil)
def clock_instant : T_clock_instant := clock_instant_s clock_in
theorem clock_instant_ok : SpecOk Try.prog 51 (clock_instant_S clock_instant) := clock_instant_ok' clock_in clock_instant_Γ

/-- pagewatch/clock.Elapsed$1 -/
abbrev T_clock_Elapsed_f1 := {β : Type} → Int → Int → (Int → Option β) → Option β
def clock_Elapsed_f1_S (c : T_clock_Elapsed_f1) : Spec :=
  ⟨[(false, [.data (.int .i64)]), (false, [.data (.int .i64)])], [], [(false, [.data (.int .i64)])], [], fun x k => c x.1.1.1 x.1.2.1.1 (fun r0 => k (((r0, ()), ()), ()))⟩
section
@[reducible] def clock_Elapsed_f1_X : Ctx := ⟨look tab, pick1 [], false⟩
def clock_Elapsed_f1_s {β : Type} (a : Int) (b : Int) (k : (Int → Option β)) : Option β :=
  cond (!decide (b = 0))
  (let t : Int := (IntKind.i64.wrap (Int.tdiv (IntKind.i64.wrap ((IntKind.i64.wrap (a + b)) - (1 : Int))) b));
  k t)
  none
theorem clock_Elapsed_f1_ok' (hΓ : ΓOk Try.prog clock_Elapsed_f1_X.Γ) : SpecOk Try.prog 52 (clock_Elapsed_f1_S (clock_Elapsed_f1_s)) :=
  spec_exec (X := clock_Elapsed_f1_X) (Λ := pick1 []) (rs := [.tmp 4]) (c := bodyOf Try.f52) mixed tab_ok hΓ Try.func52 (by kernel_rfl) (by kernel_rfl) (by kernel_rfl) (by kernel_rfl) CutsOk_nil (fun x k r h => Eq.trans (b := (clock_Elapsed_f1_S (clock_Elapsed_f1_s)).run x k) (by kernel_rfl) h)
end
theorem clock_Elapsed_f1_Γ : ΓOk Try.prog (pick1 []) := ΓOk_nil
def clock_Elapsed_f1 : T_clock_Elapsed_f1 := clock_Elapsed_f1_s
theorem clock_Elapsed_f1_ok : SpecOk Try.prog 52 (clock_Elapsed_f1_S clock_Elapsed_f1) := clock_Elapsed_f1_ok' clock_Elapsed_f1_Γ

/-- pagewatch/clock.compared -/
abbrev T_clock_compared := {β : Type} → (Int × (Int × (Int × Int))) → (Bool → Option β) → Option β
def clock_compared_S (c : T_clock_compared) : Spec :=
  ⟨[(true, [.data (.prod (.int .i64) (.prod (.int .i64) (.prod (.int .i64) (.int .i64))))])], [], [(false, [.data .bool])], [], fun x k => c x.1.1.1 (fun r0 => k (((r0, ()), ()), ()))⟩
section
variable (c_clock_instant : T_clock_instant)
@[reducible] def clock_compared_X : Ctx := ⟨look tab, pick1 [(51, .spec (clock_instant_S c_clock_instant))], false⟩
def clock_compared_s {β : Type} (s : (Int × (Int × (Int × Int)))) (k : (Bool → Option β)) : Option β :=
  c_clock_instant s.2.1 (fun (rinstant : Bool) =>
  cond rinstant
  (c_clock_instant s.2.2.1 (fun (rinstant2 : Bool) =>
  cond rinstant2
  (c_clock_instant s.2.2.2 (fun (rinstant3 : Bool) =>
  cond rinstant3
  (let t : Bool := (decide (s.2.2.1 ≤ s.2.2.2));
  k t)
  (k false)))
  (k false)))
  (k false))
theorem clock_compared_ok' (hΓ : ΓOk Try.prog (clock_compared_X c_clock_instant).Γ) : SpecOk Try.prog 53 (clock_compared_S (clock_compared_s c_clock_instant)) :=
  spec_exec (X := (clock_compared_X c_clock_instant)) (Λ := pick1 []) (rs := [.tmp 2]) (c := bodyOf Try.f53) mixed tab_ok hΓ Try.func53 (by kernel_rfl) (by kernel_rfl) (by kernel_rfl) (by kernel_rfl) CutsOk_nil (fun x k r h => Eq.trans (b := (clock_compared_S (clock_compared_s c_clock_instant)).run x k) (by kernel_rfl) h)
end
theorem clock_compared_Γ : ΓOk Try.prog (pick1 [(51, .spec (clock_instant_S clock_instant))]) := (ΓOk_cons clock_instant_ok ΓOk_nil)
def clock_compared : T_clock_compared := clock_compared_s clock_instant
theorem clock_compared_ok : SpecOk Try.prog 53 (clock_compared_S clock_compared) := clock_compared_ok' clock_instant clock_compared_Γ

/-- pagewatch/pagewatchlaw40.two -/
abbrev T_law40_two := {β : Type} → (api_Record → Option β) → Option β
def law40_two_S (c : T_law40_two) : Spec :=
  ⟨[], [], [(true, [.data y_api_Record])], [], fun x k => c  (fun r0 => k (((r0, ()), ()), ()))⟩
section
@[reducible] def law40_two_X : Ctx := ⟨look tab, pick1 [], false⟩
def law40_two_s {β : Type} (k : (api_Record → Option β)) : Option β :=
  let l : List (List UInt8 × Int) := ([(([97] : List UInt8), (0 : Int)), (([98] : List UInt8), (0 : Int))] : List (List UInt8 × Int));
  let l2 : List (Int × (Int × (Int × Int))) := ([((0 : Int), ((100 : Int), ((1000 : Int), (1010 : Int)))), ((1 : Int), ((100 : Int), ((1000 : Int), (1010 : Int))))] : List (Int × (Int × (Int × Int))));
  let l3 : List api_Event := ([((0 : Int), ((100 : Int), ([120] : List UInt8))), ((1 : Int), ((105 : Int), ([121] : List UInt8)))] : List api_Event);
  k (l, (l2, (l3, ([] : List (Int × (Int × Int))))))
theorem law40_two_ok' (hΓ : ΓOk Try.prog law40_two_X.Γ) : SpecOk Try.prog 58 (law40_two_S (law40_two_s)) :=
  spec_exec (X := law40_two_X) (Λ := pick1 []) (rs := [.cell 0 41]) (c := bodyOf Try.f58) mixed tab_ok hΓ Try.func58 (by kernel_rfl) (by kernel_rfl) (by kernel_rfl) (by kernel_rfl) CutsOk_nil (fun x k r h => Eq.trans (b := (law40_two_S (law40_two_s)).run x k) (by kernel_rfl) h)
end
theorem law40_two_Γ : ΓOk Try.prog (pick1 []) := ΓOk_nil
def law40_two : T_law40_two := law40_two_s
theorem law40_two_ok : SpecOk Try.prog 58 (law40_two_S law40_two) := law40_two_ok' law40_two_Γ

/-- (pagewatch/order.matrix).before -/
abbrev T_order_matrix_before := {β : Type} → (List (List Int)) → Int → Int → (Bool → Option β) → Option β
def order_matrix_before_S (c : T_order_matrix_before) : Spec :=
  ⟨[(false, [.data (.slice (.slice (.int .i64)))]), (false, [.data (.int .i64)]), (false, [.data (.int .i64)])], [], [(false, [.data .bool])], [], fun x k => c x.1.1.1 x.1.2.1.1 x.1.2.2.1.1 (fun r0 => k (((r0, ()), ()), ()))⟩
section
@[reducible] def order_matrix_before_X : Ctx := ⟨look tab, pick1 [], false⟩
def order_matrix_before_s {β : Type} (m : List (List Int)) (a : Int) (b : Int) (k : (Bool → Option β)) : Option β :=
  cond (decide (0 ≤ (IntKind.i64.wrap (b + (1 : Int)))) && decide ((IntKind.i64.wrap (b + (1 : Int))) < (List.length m : Int)))
  (let e : List Int := List.getD m (Int.toNat (IntKind.i64.wrap (b + (1 : Int)))) ([] : List Int);
  cond (decide (0 ≤ (IntKind.i64.wrap (a + (1 : Int)))) && decide ((IntKind.i64.wrap (a + (1 : Int))) < (List.length e : Int)))
  (let e2 : Int := List.getD e (Int.toNat (IntKind.i64.wrap (a + (1 : Int)))) (0 : Int);
  let t : Bool := (decide (e2 ≤ (-1 : Int)));
  k t)
  none)
  none
theorem order_matrix_before_ok' (hΓ : ΓOk Try.prog order_matrix_before_X.Γ) : SpecOk Try.prog 60 (order_matrix_before_S (order_matrix_before_s)) :=
  spec_exec (X := order_matrix_before_X) (Λ := pick1 []) (rs := [.tmp 6]) (c := bodyOf Try.f60) mixed tab_ok hΓ Try.func60 (by kernel_rfl) (by kernel_rfl) (by kernel_rfl) (by kernel_rfl) CutsOk_nil (fun x k r h => Eq.trans (b := (order_matrix_before_S (order_matrix_before_s)).run x k) (by kernel_rfl) h)
end
theorem order_matrix_before_Γ : ΓOk Try.prog (pick1 []) := ΓOk_nil
def order_matrix_before : T_order_matrix_before := order_matrix_before_s
theorem order_matrix_before_ok : SpecOk Try.prog 60 (order_matrix_before_S order_matrix_before) := order_matrix_before_ok' order_matrix_before_Γ

/-- (pagewatch/order.matrix).open -/
abbrev T_order_matrix_open := {β : Type} → (List (List Int)) → Int → Int → (Bool → Option β) → Option β
def order_matrix_open_S (c : T_order_matrix_open) : Spec :=
  ⟨[(false, [.data (.slice (.slice (.int .i64)))]), (false, [.data (.int .i64)]), (false, [.data (.int .i64)])], [], [(false, [.data .bool])], [], fun x k => c x.1.1.1 x.1.2.1.1 x.1.2.2.1.1 (fun r0 => k (((r0, ()), ()), ()))⟩
section
variable (c_order_matrix_before : T_order_matrix_before)
@[reducible] def order_matrix_open_X : Ctx := ⟨look tab, pick1 [(60, .spec (order_matrix_before_S c_order_matrix_before))], false⟩
def order_matrix_open_s {β : Type} (m : List (List Int)) (a : Int) (b : Int) (k : (Bool → Option β)) : Option β :=
  c_order_matrix_before m a b (fun (rbefore : Bool) =>
  cond (!rbefore)
  (c_order_matrix_before m b a (fun (rbefore2 : Bool) =>
  k (!rbefore2)))
  (k false))
theorem order_matrix_open_ok' (hΓ : ΓOk Try.prog (order_matrix_open_X c_order_matrix_before).Γ) : SpecOk Try.prog 62 (order_matrix_open_S (order_matrix_open_s c_order_matrix_before)) :=
  spec_exec (X := (order_matrix_open_X c_order_matrix_before)) (Λ := pick1 []) (rs := [.tmp 6]) (c := bodyOf Try.f62) mixed tab_ok hΓ Try.func62 (by kernel_rfl) (by kernel_rfl) (by kernel_rfl) (by kernel_rfl) CutsOk_nil (fun x k r h => Eq.trans (b := (order_matrix_open_S (order_matrix_open_s c_order_matrix_before)).run x k) (by kernel_rfl) h)
end
theorem order_matrix_open_Γ : ΓOk Try.prog (pick1 [(60, .spec (order_matrix_before_S order_matrix_before))]) := (ΓOk_cons order_matrix_before_ok ΓOk_nil)
def order_matrix_open : T_order_matrix_open := order_matrix_open_s order_matrix_before
theorem order_matrix_open_ok : SpecOk Try.prog 62 (order_matrix_open_S order_matrix_open) := order_matrix_open_ok' order_matrix_before order_matrix_open_Γ

/-- (pagewatch/order.matrix).when -/
abbrev T_order_matrix_when := {β : Type} → (List (List Int)) → Int → ((Int × Int) → Option β) → Option β
def order_matrix_when_S (c : T_order_matrix_when) : Spec :=
  ⟨[(false, [.data (.slice (.slice (.int .i64)))]), (false, [.data (.int .i64)])], [], [(true, [.data (.prod (.int .i64) (.int .i64))])], [], fun x k => c x.1.1.1 x.1.2.1.1 (fun r0 => k (((r0, ()), ()), ()))⟩
section
@[reducible] def order_matrix_when_X : Ctx := ⟨look tab, pick1 [], false⟩
def order_matrix_when_s {β : Type} (m : List (List Int)) (i_ : Int) (k : ((Int × Int) → Option β)) : Option β :=
  cond (decide (0 ≤ (IntKind.i64.wrap (i_ + (1 : Int)))) && decide ((IntKind.i64.wrap (i_ + (1 : Int))) < (List.length m : Int)))
  (let e : List Int := List.getD m (Int.toNat (IntKind.i64.wrap (i_ + (1 : Int)))) ([] : List Int);
  cond (decide (0 ≤ (0 : Int)) && decide ((0 : Int) < (List.length e : Int)))
  (let e2 : Int := List.getD e (Int.toNat (0 : Int)) (0 : Int);
  cond (decide (0 ≤ (0 : Int)) && decide ((0 : Int) < (List.length m : Int)))
  (let e3 : List Int := List.getD m (Int.toNat (0 : Int)) ([] : List Int);
  cond (decide (0 ≤ (IntKind.i64.wrap (i_ + (1 : Int)))) && decide ((IntKind.i64.wrap (i_ + (1 : Int))) < (List.length e3 : Int)))
  (let e4 : Int := List.getD e3 (Int.toNat (IntKind.i64.wrap (i_ + (1 : Int)))) (0 : Int);
  k ((IntKind.i64.wrap (0 - e2)), e4))
  none)
  none)
  none)
  none
theorem order_matrix_when_ok' (hΓ : ΓOk Try.prog order_matrix_when_X.Γ) : SpecOk Try.prog 63 (order_matrix_when_S (order_matrix_when_s)) :=
  spec_exec (X := order_matrix_when_X) (Λ := pick1 []) (rs := [.cell 4 45]) (c := bodyOf Try.f63) mixed tab_ok hΓ Try.func63 (by kernel_rfl) (by kernel_rfl) (by kernel_rfl) (by kernel_rfl) CutsOk_nil (fun x k r h => Eq.trans (b := (order_matrix_when_S (order_matrix_when_s)).run x k) (by kernel_rfl) h)
end
theorem order_matrix_when_Γ : ΓOk Try.prog (pick1 []) := ΓOk_nil
def order_matrix_when : T_order_matrix_when := order_matrix_when_s
theorem order_matrix_when_ok : SpecOk Try.prog 63 (order_matrix_when_S order_matrix_when) := order_matrix_when_ok' order_matrix_when_Γ

/-- pagewatch/order.in -/
abbrev T_order_in := {β : Type} → Int → Int → Int → (Bool → Option β) → Option β
def order_in_S (c : T_order_in) : Spec :=
  ⟨[(false, [.data (.int .i64)]), (false, [.data (.int .i64)]), (false, [.data (.int .i64)])], [], [(false, [.data .bool])], [], fun x k => c x.1.1.1 x.1.2.1.1 x.1.2.2.1.1 (fun r0 => k (((r0, ()), ()), ()))⟩
section
@[reducible] def order_in_X : Ctx := ⟨look tab, pick1 [], false⟩
def order_in_s {β : Type} (n : Int) (low : Int) (high : Int) (k : (Bool → Option β)) : Option β :=
  cond (decide (low ≤ n))
  (k (decide (n ≤ high)))
  (k false)
theorem order_in_ok' (hΓ : ΓOk Try.prog order_in_X.Γ) : SpecOk Try.prog 67 (order_in_S (order_in_s)) :=
  spec_exec (X := order_in_X) (Λ := pick1 []) (rs := [.tmp 6]) (c := bodyOf Try.f67) mixed tab_ok hΓ Try.func67 (by kernel_rfl) (by kernel_rfl) (by kernel_rfl) (by kernel_rfl) CutsOk_nil (fun x k r h => Eq.trans (b := (order_in_S (order_in_s)).run x k) (by kernel_rfl) h)
end
theorem order_in_Γ : ΓOk Try.prog (pick1 []) := ΓOk_nil
def order_in : T_order_in := order_in_s
theorem order_in_ok : SpecOk Try.prog 67 (order_in_S order_in) := order_in_ok' order_in_Γ

/-- (pagewatch/order.matrix).earlier -/
abbrev T_order_matrix_earlier := {β : Type} → (List (List Int)) → Int → Int → (Bool → Option β) → Option β
def order_matrix_earlier_S (c : T_order_matrix_earlier) : Spec :=
  ⟨[(false, [.data (.slice (.slice (.int .i64)))]), (false, [.data (.int .i64)]), (false, [.data (.int .i64)])], [], [(false, [.data .bool])], [], fun x k => c x.1.1.1 x.1.2.1.1 x.1.2.2.1.1 (fun r0 => k (((r0, ()), ()), ()))⟩
section
variable (c_order_matrix_when : T_order_matrix_when)
@[reducible] def order_matrix_earlier_X : Ctx := ⟨look tab, pick1 [(63, .spec (order_matrix_when_S c_order_matrix_when))], false⟩
def order_matrix_earlier_s {β : Type} (m : List (List Int)) (a : Int) (b : Int) (k : (Bool → Option β)) : Option β :=
  c_order_matrix_when m a (fun (rwhen : (Int × Int)) =>
  c_order_matrix_when m b (fun (rwhen2 : (Int × Int)) =>
  cond (decide (rwhen.1 < rwhen2.1))
  (k true)
  (cond (decide (rwhen.1 = rwhen2.1))
  (let t : Bool := (decide (rwhen.2 < rwhen2.2));
  k t)
  (k false))))
theorem order_matrix_earlier_ok' (hΓ : ΓOk Try.prog (order_matrix_earlier_X c_order_matrix_when).Γ) : SpecOk Try.prog 69 (order_matrix_earlier_S (order_matrix_earlier_s c_order_matrix_when)) :=
  spec_exec (X := (order_matrix_earlier_X c_order_matrix_when)) (Λ := pick1 []) (rs := [.tmp 6]) (c := bodyOf Try.f69) mixed tab_ok hΓ Try.func69 (by kernel_rfl) (by kernel_rfl) (by kernel_rfl) (by kernel_rfl) CutsOk_nil (fun x k r h => Eq.trans (b := (order_matrix_earlier_S (order_matrix_earlier_s c_order_matrix_when)).run x k) (by kernel_rfl) h)
end
theorem order_matrix_earlier_Γ : ΓOk Try.prog (pick1 [(63, .spec (order_matrix_when_S order_matrix_when))]) := (ΓOk_cons order_matrix_when_ok ΓOk_nil)
def order_matrix_earlier : T_order_matrix_earlier := order_matrix_earlier_s order_matrix_when
theorem order_matrix_earlier_ok : SpecOk Try.prog 69 (order_matrix_earlier_S order_matrix_earlier) := order_matrix_earlier_ok' order_matrix_when order_matrix_earlier_Γ

/-- pagewatch/order.Allows$1 -/
abbrev T_order_Allows_f1 := {β : Type} → Int → (List (List Int)) → Int → (Bool → (List (List Int)) → Int → Option β) → Option β
def order_Allows_f1_S (c : T_order_Allows_f1) : Spec :=
  ⟨[(false, [.data (.int .i64)]), (false, [.ptr 0 0]), (false, [.ptr 1 0])], [.cells 86 [.data (.slice (.slice (.int .i64)))], .cells 3 [.data (.int .i64)]], [(false, [.data .bool])], [.cells 86 [.data (.slice (.slice (.int .i64)))], .cells 3 [.data (.int .i64)]], fun x k => c x.1.1.1 x.2.1.1 x.2.2.1.1 (fun r0 r1 r2 => k (((r0, ()), ()), ((r1, ()), (r2, ()), ())))⟩
section
variable (c_order_matrix_before : T_order_matrix_before)
@[reducible] def order_Allows_f1_X : Ctx := ⟨look tab, pick1 [(60, .spec (order_matrix_before_S c_order_matrix_before))], false⟩
def order_Allows_f1_s {β : Type} (y : Int) (t1 : List (List Int)) (t2 : Int) (k : (Bool → (List (List Int)) → Int → Option β)) : Option β :=
  c_order_matrix_before t1 t2 y (fun (rbefore : Bool) =>
  k rbefore t1 t2)
theorem order_Allows_f1_ok' (hΓ : ΓOk Try.prog (order_Allows_f1_X c_order_matrix_before).Γ) : SpecOk Try.prog 71 (order_Allows_f1_S (order_Allows_f1_s c_order_matrix_before)) :=
  spec_exec (X := (order_Allows_f1_X c_order_matrix_before)) (Λ := pick1 []) (rs := [.tmp 4]) (c := bodyOf Try.f71) mixed tab_ok hΓ Try.func71 (by kernel_rfl) (by kernel_rfl) (by kernel_rfl) (by kernel_rfl) CutsOk_nil (fun x k r h => Eq.trans (b := (order_Allows_f1_S (order_Allows_f1_s c_order_matrix_before)).run x k) (by kernel_rfl) h)
end
theorem order_Allows_f1_Γ : ΓOk Try.prog (pick1 [(60, .spec (order_matrix_before_S order_matrix_before))]) := (ΓOk_cons order_matrix_before_ok ΓOk_nil)
def order_Allows_f1 : T_order_Allows_f1 := order_Allows_f1_s order_matrix_before
theorem order_Allows_f1_ok : SpecOk Try.prog 71 (order_Allows_f1_S order_Allows_f1) := order_Allows_f1_ok' order_matrix_before order_Allows_f1_Γ

/-- pagewatch/constraint.in -/
abbrev T_constraint_in := {β : Type} → Int → Int → Int → (Bool → Option β) → Option β
def constraint_in_S (c : T_constraint_in) : Spec :=
  ⟨[(false, [.data (.int .i64)]), (false, [.data (.int .i64)]), (false, [.data (.int .i64)])], [], [(false, [.data .bool])], [], fun x k => c x.1.1.1 x.1.2.1.1 x.1.2.2.1.1 (fun r0 => k (((r0, ()), ()), ()))⟩
section
@[reducible] def constraint_in_X : Ctx := ⟨look tab, pick1 [], false⟩
def constraint_in_s {β : Type} (n : Int) (low : Int) (high : Int) (k : (Bool → Option β)) : Option β :=
  cond (decide (low ≤ n))
  (k (decide (n ≤ high)))
  (k false)
theorem constraint_in_ok' (hΓ : ΓOk Try.prog constraint_in_X.Γ) : SpecOk Try.prog 77 (constraint_in_S (constraint_in_s)) :=
  spec_exec (X := constraint_in_X) (Λ := pick1 []) (rs := [.tmp 6]) (c := bodyOf Try.f77) mixed tab_ok hΓ Try.func77 (by kernel_rfl) (by kernel_rfl) (by kernel_rfl) (by kernel_rfl) CutsOk_nil (fun x k r h => Eq.trans (b := (constraint_in_S (constraint_in_s)).run x k) (by kernel_rfl) h)
end
theorem constraint_in_Γ : ΓOk Try.prog (pick1 []) := ΓOk_nil
def constraint_in : T_constraint_in := constraint_in_s
theorem constraint_in_ok : SpecOk Try.prog 77 (constraint_in_S constraint_in) := constraint_in_ok' constraint_in_Γ

/-- pagewatch/constraint.Fits$2 -/
abbrev T_constraint_Fits_f2 := {β : Type} → (Int × (Int × Int)) → (List Int) → (Bool → (List Int) → Option β) → Option β
def constraint_Fits_f2_S (c : T_constraint_Fits_f2) : Spec :=
  ⟨[(true, [.data (.prod (.int .i64) (.prod (.int .i64) (.int .i64)))]), (false, [.ptr 0 0])], [.cells 27 [.data (.slice (.int .i64))]], [(false, [.data .bool])], [.cells 27 [.data (.slice (.int .i64))]], fun x k => c x.1.1.1 x.2.1.1 (fun r0 r1 => k (((r0, ()), ()), ((r1, ()), ())))⟩
section
@[reducible] def constraint_Fits_f2_X : Ctx := ⟨look tab, pick1 [], false⟩
def constraint_Fits_f2_s {β : Type} (d : (Int × (Int × Int))) (t1 : List Int) (k : (Bool → (List Int) → Option β)) : Option β :=
  cond (decide (0 ≤ d.2.1) && decide (d.2.1 < (List.length t1 : Int)))
  (let e : Int := List.getD t1 (Int.toNat d.2.1) (0 : Int);
  cond (decide (0 ≤ d.1) && decide (d.1 < (List.length t1 : Int)))
  (let e2 : Int := List.getD t1 (Int.toNat d.1) (0 : Int);
  let t : Bool := (decide (d.2.2 < (IntKind.i64.wrap (e - e2))));
  k t t1)
  none)
  none
theorem constraint_Fits_f2_ok' (hΓ : ΓOk Try.prog constraint_Fits_f2_X.Γ) : SpecOk Try.prog 79 (constraint_Fits_f2_S (constraint_Fits_f2_s)) :=
  spec_exec (X := constraint_Fits_f2_X) (Λ := pick1 []) (rs := [.tmp 3]) (c := bodyOf Try.f79) mixed tab_ok hΓ Try.func79 (by kernel_rfl) (by kernel_rfl) (by kernel_rfl) (by kernel_rfl) CutsOk_nil (fun x k r h => Eq.trans (b := (constraint_Fits_f2_S (constraint_Fits_f2_s)).run x k) (by kernel_rfl) h)
end
theorem constraint_Fits_f2_Γ : ΓOk Try.prog (pick1 []) := ΓOk_nil
def constraint_Fits_f2 : T_constraint_Fits_f2 := constraint_Fits_f2_s
theorem constraint_Fits_f2_ok : SpecOk Try.prog 79 (constraint_Fits_f2_S constraint_Fits_f2) := constraint_Fits_f2_ok' constraint_Fits_f2_Γ

/-- slices.Index[[]int,int] -/
abbrev T_slices_Index_int_int := {β : Type} → (List Int) → Int → (Int → Option β) → Option β
def slices_Index_int_int_S (c : T_slices_Index_int_int) : Spec :=
  ⟨[(false, [.data (.slice (.int .i64))]), (false, [.data (.int .i64)])], [], [(false, [.data (.int .i64)])], [], fun x k => c x.1.1.1 x.1.2.1.1 (fun r0 => k (((r0, ()), ()), ()))⟩
noncomputable def slices_Index_int_int_p1_code : Code := codeAt 26 (bodyOf Try.f80)
abbrev slices_Index_int_int_p1_K1 (β : Type) := Int → Option β
abbrev slices_Index_int_int_p1_K2 (β : Type) := Unit → Option β
abbrev slices_Index_int_int_p1_T := {β : Type} → slices_Index_int_int_p1_K1 β → slices_Index_int_int_p1_K2 β → (List Int) → Int → Int → Int → Option β
def slices_Index_int_int_p1_v : View := ⟨0, [0, 1, 7, 8], [(false, [.data (.slice (.int .i64))]), (false, [.data (.int .i64)]), (false, [.data (.int .i64)]), (false, [.data (.int .i64)])], []⟩
def slices_Index_int_int_p1_o : List (AExit × View) := [(.ret, ⟨0, [4], [(false, [.data (.int .i64)])], []⟩), (.exit 0, ⟨0, [], [], []⟩)]
@[reducible] def slices_Index_int_int_p1_G (p : slices_Index_int_int_p1_T) {β : Type} (d : slices_Index_int_int_p1_v.den) (ks : Outs.K β slices_Index_int_int_p1_o) : Option β :=
  p (fun a0 => ks.1 (((a0, ()), ()), ())) (fun _ => ks.2.1 ((), ())) d.1.1.1 d.1.2.1.1 d.1.2.2.1.1 d.1.2.2.2.1.1
section
@[reducible] def slices_Index_int_int_X : Ctx := ⟨look tab, pick1 [], false⟩
def slices_Index_int_int_p1_s {β : Type} (rec : (List Int) → Int → Int → Int → Option β) (k1 : slices_Index_int_int_p1_K1 β) (k2 : slices_Index_int_int_p1_K2 β) (s : List Int) (v : Int) (t7 : Int) (t8 : Int) : Option β :=
  cond (decide (t8 < t7))
  (cond (decide (0 ≤ t8) && decide (t8 < (List.length s : Int)))
  (let e : Int := List.getD s (Int.toNat t8) (0 : Int);
  cond (decide (v = e))
  (k1 t8)
  (rec s v t7 (IntKind.i64.wrap (t8 + (1 : Int)))))
  none)
  (k2 ())
def slices_Index_int_int_p1_l {β : Type} : Nat → slices_Index_int_int_p1_K1 β → slices_Index_int_int_p1_K2 β → (List Int) → Int → Int → Int → Option β
  | 0 => fun _ _ _ _ _ _ => none
  | i + 1 => fun k1 k2 s v t7 t8 => slices_Index_int_int_p1_s (slices_Index_int_int_p1_l i k1 k2) k1 k2 s v t7 t8
theorem slices_Index_int_int_p1_ok' (hΓ : ΓOk Try.prog slices_Index_int_int_X.Γ) (i : Nat) : PieceOk Try.prog 19 0 slices_Index_int_int_p1_code slices_Index_int_int_p1_v slices_Index_int_int_p1_o (slices_Index_int_int_p1_G (slices_Index_int_int_p1_l i)) := by
  rw [show slices_Index_int_int_p1_code = .loop (loopBody slices_Index_int_int_p1_code) by kernel_rfl]
  exact piece_loop (X := slices_Index_int_int_X) (p := 1) (Λ := pick1 []) (G := fun i => @fun β d ks => slices_Index_int_int_p1_G (slices_Index_int_int_p1_l i) d ks) mixed tab_ok hΓ rfl (by kernel_rfl) CutsOk_nil (fun _ _ => rfl) (fun i => @fun β d ks r h => Eq.trans (b := slices_Index_int_int_p1_G (slices_Index_int_int_p1_l (i + 1)) d ks) (by kernel_rfl) h) i
def slices_Index_int_int_s (p1 : slices_Index_int_int_p1_T) {β : Type} (s : List Int) (v : Int) (k : (Int → Option β)) : Option β :=
  p1 (fun (t4 : Int) =>
  k t4) (fun (_ : Unit) =>
  k (-1 : Int)) s v (List.length s : Int) (0 : Int)
theorem slices_Index_int_int_ok' (hΓ : ΓOk Try.prog slices_Index_int_int_X.Γ) (p1 : slices_Index_int_int_p1_T) (hp1 : PieceOk Try.prog 19 0 slices_Index_int_int_p1_code slices_Index_int_int_p1_v slices_Index_int_int_p1_o (slices_Index_int_int_p1_G p1)) : SpecOk Try.prog 80 (slices_Index_int_int_S (slices_Index_int_int_s p1)) :=
  spec_exec (X := slices_Index_int_int_X) (Λ := pick1 [(26, pieceCut slices_Index_int_int_p1_v slices_Index_int_int_p1_o (slices_Index_int_int_p1_G p1))]) (rs := [.tmp 4]) (c := bodyOf Try.f80) mixed tab_ok hΓ Try.func80 (by kernel_rfl) (by kernel_rfl) (by kernel_rfl) (by kernel_rfl) (CutsOk_cons (q := 26) (c' := slices_Index_int_int_p1_code) (by kernel_rfl) rfl hp1 CutsOk_nil) (fun x k r h => Eq.trans (b := (slices_Index_int_int_S (slices_Index_int_int_s p1)).run x k) (by kernel_rfl) h)
end
theorem slices_Index_int_int_Γ : ΓOk Try.prog (pick1 []) := ΓOk_nil
def slices_Index_int_int_p1_n (m : Nat) : slices_Index_int_int_p1_T := slices_Index_int_int_p1_l m
theorem slices_Index_int_int_p1_step {β : Type} (i : Nat) (k1 k2 s v t7 t8) : (slices_Index_int_int_p1_n (i + 1) k1 k2 s v t7 t8 : Option β) = slices_Index_int_int_p1_s (slices_Index_int_int_p1_n i k1 k2) k1 k2 s v t7 t8 := rfl
def slices_Index_int_int_p1 : slices_Index_int_int_p1_T := slices_Index_int_int_p1_n fuel
theorem slices_Index_int_int_p1_ok : PieceOk Try.prog 19 0 slices_Index_int_int_p1_code slices_Index_int_int_p1_v slices_Index_int_int_p1_o (slices_Index_int_int_p1_G slices_Index_int_int_p1) := slices_Index_int_int_p1_ok' slices_Index_int_int_Γ fuel
def slices_Index_int_int : T_slices_Index_int_int := slices_Index_int_int_s slices_Index_int_int_p1
theorem slices_Index_int_int_ok : SpecOk Try.prog 80 (slices_Index_int_int_S slices_Index_int_int) := slices_Index_int_int_ok' slices_Index_int_int_Γ slices_Index_int_int_p1 slices_Index_int_int_p1_ok

/-- pagewatch/constraint.direct -/
abbrev T_constraint_direct := {β : Type} → Int → (List (Int × (Int × Int))) → ((List (List Int)) → Option β) → Option β
def constraint_direct_S (c : T_constraint_direct) : Spec :=
  ⟨[(false, [.data (.int .i64)]), (false, [.data (.slice (.prod (.int .i64) (.prod (.int .i64) (.int .i64))))])], [], [(false, [.math 0])], [.mat 27 3 (.int .i64)], fun x k => c x.1.1.1 x.1.2.1.1 (fun r0 => k (((), ()), (r0, ())))⟩
noncomputable def constraint_direct_p2_code : Code := codeAt 58 (bodyOf Try.f81)
noncomputable def constraint_direct_p3_code : Code := codeAt 122 (bodyOf Try.f81)
noncomputable def constraint_direct_p1_code : Code := codeAt 462 (loopBody constraint_direct_p2_code)
abbrev constraint_direct_p1_K1 (β : Type) := Int → (List (Int × (Int × Int))) → Int → Int → (List (List Int)) → Option β
abbrev constraint_direct_p1_T := {β : Type} → constraint_direct_p1_K1 β → Int → (List (Int × (Int × Int))) → Int → Int → Int → Int → Int → (List (List Int)) → Option β
def constraint_direct_p1_v : View := ⟨0, [0, 1, 5, 6, 13, 14, 26, 27], [(false, [.data (.int .i64)]), (false, [.data (.slice (.prod (.int .i64) (.prod (.int .i64) (.int .i64))))]), (false, [.math 0]), (false, [.data (.int .i64)]), (false, [.data (.int .i64)]), (false, [.data (.int .i64)]), (false, [.data (.int .i64)]), (false, [.data (.int .i64)])], [.mat 27 3 (.int .i64)]⟩
def constraint_direct_p1_o : List (AExit × View) := [(.exit 2, ⟨0, [0, 1, 5, 13, 14], [(false, [.data (.int .i64)]), (false, [.data (.slice (.prod (.int .i64) (.prod (.int .i64) (.int .i64))))]), (false, [.math 0]), (false, [.data (.int .i64)]), (false, [.data (.int .i64)])], [.mat 27 3 (.int .i64)]⟩)]
@[reducible] def constraint_direct_p1_G (p : constraint_direct_p1_T) {β : Type} (d : constraint_direct_p1_v.den) (ks : Outs.K β constraint_direct_p1_o) : Option β :=
  p (fun a0 a1 a2 a3 a4 => ks.1 (((a0, ()), (a1, ()), (), (a2, ()), (a3, ()), ()), (a4, ()))) d.1.1.1 d.1.2.1.1 d.1.2.2.2.1.1 d.1.2.2.2.2.1.1 d.1.2.2.2.2.2.1.1 d.1.2.2.2.2.2.2.1.1 d.1.2.2.2.2.2.2.2.1.1 d.2.1
abbrev constraint_direct_p2_K1 (β : Type) := (List (Int × (Int × Int))) → (List (List Int)) → Option β
abbrev constraint_direct_p2_T := {β : Type} → constraint_direct_p2_K1 β → Int → (List (Int × (Int × Int))) → Int → Int → (List (List Int)) → Option β
def constraint_direct_p2_v : View := ⟨0, [0, 1, 5, 13, 14], [(false, [.data (.int .i64)]), (false, [.data (.slice (.prod (.int .i64) (.prod (.int .i64) (.int .i64))))]), (false, [.math 0]), (false, [.data (.int .i64)]), (false, [.data (.int .i64)])], [.mat 27 3 (.int .i64)]⟩
def constraint_direct_p2_o : List (AExit × View) := [(.exit 0, ⟨0, [1, 5], [(false, [.data (.slice (.prod (.int .i64) (.prod (.int .i64) (.int .i64))))]), (false, [.math 0])], [.mat 27 3 (.int .i64)]⟩)]
@[reducible] def constraint_direct_p2_G (p : constraint_direct_p2_T) {β : Type} (d : constraint_direct_p2_v.den) (ks : Outs.K β constraint_direct_p2_o) : Option β :=
  p (fun a0 a1 => ks.1 (((a0, ()), (), ()), (a1, ()))) d.1.1.1 d.1.2.1.1 d.1.2.2.2.1.1 d.1.2.2.2.2.1.1 d.2.1
abbrev constraint_direct_p3_K1 (β : Type) := (List (List Int)) → Option β
abbrev constraint_direct_p3_T := {β : Type} → constraint_direct_p3_K1 β → (List (Int × (Int × Int))) → Int → Int → (List (List Int)) → Option β
def constraint_direct_p3_v : View := ⟨0, [5, 38, 39, 40], [(false, [.math 0]), (false, [.data (.slice (.prod (.int .i64) (.prod (.int .i64) (.int .i64))))]), (false, [.data (.int .i64)]), (false, [.data (.int .i64)])], [.mat 27 3 (.int .i64)]⟩
def constraint_direct_p3_o : List (AExit × View) := [(.exit 4, ⟨0, [5], [(false, [.math 0])], [.mat 27 3 (.int .i64)]⟩)]
@[reducible] def constraint_direct_p3_G (p : constraint_direct_p3_T) {β : Type} (d : constraint_direct_p3_v.den) (ks : Outs.K β constraint_direct_p3_o) : Option β :=
  p (fun a0 => ks.1 (((), ()), (a0, ()))) d.1.2.1.1 d.1.2.2.1.1 d.1.2.2.2.1.1 d.2.1
section
@[reducible] def constraint_direct_X : Ctx := ⟨look tab, pick1 [], true⟩
def constraint_direct_p1_s {β : Type} (rec : Int → (List (Int × (Int × Int))) → Int → Int → Int → Int → Int → (List (List Int)) → Option β) (k1 : constraint_direct_p1_K1 β) (n : Int) (l : List (Int × (Int × Int))) (i_ : Int) (t13 : Int) (t14 : Int) (t26 : Int) (t27 : Int) (out : List (List Int)) : Option β :=
  cond (decide (t27 < t26))
  (cond (decide (0 ≤ i_) && decide (i_ < (List.length out : Int)))
  (cond (decide (0 ≤ t27) && decide (t27 < (List.length (List.getD out (Int.toNat i_) []) : Int)))
  (let m_ : List (List Int) := (List.set out (Int.toNat i_) (List.set (List.getD out (Int.toNat i_) []) (Int.toNat t27) (1099511627776 : Int)));
  rec n l i_ t13 t14 t26 (IntKind.i64.wrap (t27 + (1 : Int))) m_)
  none)
  none)
  (k1 n l t13 t14 out)
def constraint_direct_p1_l {β : Type} : Nat → constraint_direct_p1_K1 β → Int → (List (Int × (Int × Int))) → Int → Int → Int → Int → Int → (List (List Int)) → Option β
  | 0 => fun _ _ _ _ _ _ _ _ _ => none
  | i + 1 => fun k1 n l i_ t13 t14 t26 t27 out => constraint_direct_p1_s (constraint_direct_p1_l i k1) k1 n l i_ t13 t14 t26 t27 out
theorem constraint_direct_p1_ok' (hΓ : ΓOk Try.prog constraint_direct_X.Γ) (i : Nat) : PieceOk Try.prog 66 0 constraint_direct_p1_code constraint_direct_p1_v constraint_direct_p1_o (constraint_direct_p1_G (constraint_direct_p1_l i)) := by
  rw [show constraint_direct_p1_code = .loop (loopBody constraint_direct_p1_code) by kernel_rfl]
  exact piece_loop (X := constraint_direct_X) (p := 1) (Λ := pick1 []) (G := fun i => @fun β d ks => constraint_direct_p1_G (constraint_direct_p1_l i) d ks) mixed tab_ok hΓ rfl (by kernel_rfl) CutsOk_nil (fun _ _ => rfl) (fun i => @fun β d ks r h => Eq.trans (b := constraint_direct_p1_G (constraint_direct_p1_l (i + 1)) d ks) (by kernel_rfl) h) i
def constraint_direct_p2_s (p1 : constraint_direct_p1_T) {β : Type} (rec : Int → (List (Int × (Int × Int))) → Int → Int → (List (List Int)) → Option β) (k1 : constraint_direct_p2_K1 β) (n : Int) (l : List (Int × (Int × Int))) (t13 : Int) (t14 : Int) (out : List (List Int)) : Option β :=
  cond (decide (t14 < t13))
  (cond (decide (0 ≤ n) && (decide (n = n) && (decide (Int.toNat n * 8 ≤ roomMax) && decide (n ≤ 9223372036854775807))))
  (let l2 : List Int := (List.replicate (Int.toNat n) (0 : Int));
  cond (decide (0 ≤ t14) && decide (t14 < (List.length out : Int)))
  (let m_ : List (List Int) := (List.set out (Int.toNat t14) l2);
  cond (decide (0 ≤ t14) && decide (t14 < (List.length m_ : Int)))
  (p1 (fun (n2 : Int) (l3 : List (Int × (Int × Int))) (t132 : Int) (t142 : Int) (out2 : List (List Int)) =>
  rec n2 l3 t132 (IntKind.i64.wrap (t142 + (1 : Int))) out2) n l t14 t13 t14 (List.length (List.getD m_ (Int.toNat t14) []) : Int) (0 : Int) m_)
  none)
  none)
  none)
  (k1 l out)
def constraint_direct_p2_l (p1 : constraint_direct_p1_T) {β : Type} : Nat → constraint_direct_p2_K1 β → Int → (List (Int × (Int × Int))) → Int → Int → (List (List Int)) → Option β
  | 0 => fun _ _ _ _ _ _ => none
  | i + 1 => fun k1 n l t13 t14 out => constraint_direct_p2_s p1 (constraint_direct_p2_l p1 i k1) k1 n l t13 t14 out
theorem constraint_direct_p2_ok' (hΓ : ΓOk Try.prog constraint_direct_X.Γ) (p1 : constraint_direct_p1_T) (hp1 : PieceOk Try.prog 66 0 constraint_direct_p1_code constraint_direct_p1_v constraint_direct_p1_o (constraint_direct_p1_G p1)) (i : Nat) : PieceOk Try.prog 66 0 constraint_direct_p2_code constraint_direct_p2_v constraint_direct_p2_o (constraint_direct_p2_G (constraint_direct_p2_l p1 i)) := by
  rw [show constraint_direct_p2_code = .loop (loopBody constraint_direct_p2_code) by kernel_rfl]
  exact piece_loop (X := constraint_direct_X) (p := 1) (Λ := pick1 [(462, pieceCut constraint_direct_p1_v constraint_direct_p1_o (constraint_direct_p1_G p1))]) (G := fun i => @fun β d ks => constraint_direct_p2_G (constraint_direct_p2_l p1 i) d ks) mixed tab_ok hΓ rfl (by kernel_rfl) (CutsOk_cons (q := 462) (c' := constraint_direct_p1_code) (by kernel_rfl) rfl hp1 CutsOk_nil) (fun _ _ => rfl) (fun i => @fun β d ks r h => Eq.trans (b := constraint_direct_p2_G (constraint_direct_p2_l p1 (i + 1)) d ks) (by kernel_rfl) h) i
def constraint_direct_p3_s {β : Type} (rec : (List (Int × (Int × Int))) → Int → Int → (List (List Int)) → Option β) (k1 : constraint_direct_p3_K1 β) (t38 : List (Int × (Int × Int))) (t39 : Int) (t40 : Int) (out : List (List Int)) : Option β :=
  cond (decide (t40 < t39))
  (cond (decide (0 ≤ t40) && decide (t40 < (List.length t38 : Int)))
  (let e : (Int × (Int × Int)) := List.getD t38 (Int.toNat t40) ((0 : Int), ((0 : Int), (0 : Int)));
  cond (decide (0 ≤ e.1) && decide (e.1 < (List.length out : Int)))
  (cond (decide (0 ≤ e.1) && decide (e.1 < (List.length out : Int)))
  (cond (decide (0 ≤ e.2.1) && decide (e.2.1 < (List.length (List.getD out (Int.toNat e.1) []) : Int)))
  (cond (decide (0 ≤ e.2.1) && decide (e.2.1 < (List.length (List.getD out (Int.toNat e.1) []) : Int)))
  (let m_ : List (List Int) := (List.set out (Int.toNat e.1) (List.set (List.getD out (Int.toNat e.1) []) (Int.toNat e.2.1) (if e.2.2 < (List.getD (List.getD out (Int.toNat e.1) []) (Int.toNat e.2.1) (0 : Int)) then e.2.2 else (List.getD (List.getD out (Int.toNat e.1) []) (Int.toNat e.2.1) (0 : Int)))));
  rec t38 t39 (IntKind.i64.wrap (t40 + (1 : Int))) m_)
  none)
  none)
  none)
  none)
  none)
  (k1 out)
def constraint_direct_p3_l {β : Type} : Nat → constraint_direct_p3_K1 β → (List (Int × (Int × Int))) → Int → Int → (List (List Int)) → Option β
  | 0 => fun _ _ _ _ _ => none
  | i + 1 => fun k1 t38 t39 t40 out => constraint_direct_p3_s (constraint_direct_p3_l i k1) k1 t38 t39 t40 out
theorem constraint_direct_p3_ok' (hΓ : ΓOk Try.prog constraint_direct_X.Γ) (i : Nat) : PieceOk Try.prog 66 0 constraint_direct_p3_code constraint_direct_p3_v constraint_direct_p3_o (constraint_direct_p3_G (constraint_direct_p3_l i)) := by
  rw [show constraint_direct_p3_code = .loop (loopBody constraint_direct_p3_code) by kernel_rfl]
  exact piece_loop (X := constraint_direct_X) (p := 1) (Λ := pick1 []) (G := fun i => @fun β d ks => constraint_direct_p3_G (constraint_direct_p3_l i) d ks) mixed tab_ok hΓ rfl (by kernel_rfl) CutsOk_nil (fun _ _ => rfl) (fun i => @fun β d ks r h => Eq.trans (b := constraint_direct_p3_G (constraint_direct_p3_l (i + 1)) d ks) (by kernel_rfl) h) i
def constraint_direct_s (p2 : constraint_direct_p2_T) (p3 : constraint_direct_p3_T) {β : Type} (n : Int) (l : List (Int × (Int × Int))) (k : ((List (List Int)) → Option β)) : Option β :=
  cond (decide (0 ≤ n) && (decide (n = n) && (decide (Int.toNat n * 24 ≤ roomMax) && decide (n ≤ 9223372036854775807))))
  (let m_ : List (List Int) := (List.replicate (Int.toNat n) ([] : List Int));
  p2 (fun (l2 : List (Int × (Int × Int))) (out : List (List Int)) =>
  p3 (fun (out2 : List (List Int)) =>
  k out2) l2 (List.length l2 : Int) (0 : Int) out) n l (List.length m_ : Int) (0 : Int) m_)
  none
theorem constraint_direct_ok' (hΓ : ΓOk Try.prog constraint_direct_X.Γ) (p2 : constraint_direct_p2_T) (p3 : constraint_direct_p3_T) (hp2 : PieceOk Try.prog 66 0 constraint_direct_p2_code constraint_direct_p2_v constraint_direct_p2_o (constraint_direct_p2_G p2)) (hp3 : PieceOk Try.prog 66 0 constraint_direct_p3_code constraint_direct_p3_v constraint_direct_p3_o (constraint_direct_p3_G p3)) : SpecOk Try.prog 81 (constraint_direct_S (constraint_direct_s p2 p3)) :=
  spec_exec (X := constraint_direct_X) (Λ := pick1 [(58, pieceCut constraint_direct_p2_v constraint_direct_p2_o (constraint_direct_p2_G p2)), (122, pieceCut constraint_direct_p3_v constraint_direct_p3_o (constraint_direct_p3_G p3))]) (rs := [.tmp 4]) (c := bodyOf Try.f81) mixed tab_ok hΓ Try.func81 (by kernel_rfl) (by kernel_rfl) (by kernel_rfl) (by kernel_rfl) (CutsOk_cons (q := 58) (c' := constraint_direct_p2_code) (by kernel_rfl) rfl hp2 (CutsOk_cons (q := 122) (c' := constraint_direct_p3_code) (by kernel_rfl) rfl hp3 CutsOk_nil)) (fun x k r h => Eq.trans (b := (constraint_direct_S (constraint_direct_s p2 p3)).run x k) (by kernel_rfl) h)
end
theorem constraint_direct_Γ : ΓOk Try.prog (pick1 []) := ΓOk_nil
def constraint_direct_p1_n (m : Nat) : constraint_direct_p1_T := constraint_direct_p1_l m
theorem constraint_direct_p1_step {β : Type} (i : Nat) (k1 n l i_ t13 t14 t26 t27 out) : (constraint_direct_p1_n (i + 1) k1 n l i_ t13 t14 t26 t27 out : Option β) = constraint_direct_p1_s (constraint_direct_p1_n i k1) k1 n l i_ t13 t14 t26 t27 out := rfl
def constraint_direct_p1 : constraint_direct_p1_T := constraint_direct_p1_n fuel
theorem constraint_direct_p1_ok : PieceOk Try.prog 66 0 constraint_direct_p1_code constraint_direct_p1_v constraint_direct_p1_o (constraint_direct_p1_G constraint_direct_p1) := constraint_direct_p1_ok' constraint_direct_Γ fuel
def constraint_direct_p2_n (m : Nat) : constraint_direct_p2_T := constraint_direct_p2_l constraint_direct_p1 m
theorem constraint_direct_p2_step {β : Type} (i : Nat) (k1 n l t13 t14 out) : (constraint_direct_p2_n (i + 1) k1 n l t13 t14 out : Option β) = constraint_direct_p2_s constraint_direct_p1 (constraint_direct_p2_n i k1) k1 n l t13 t14 out := rfl
def constraint_direct_p2 : constraint_direct_p2_T := constraint_direct_p2_n fuel
theorem constraint_direct_p2_ok : PieceOk Try.prog 66 0 constraint_direct_p2_code constraint_direct_p2_v constraint_direct_p2_o (constraint_direct_p2_G constraint_direct_p2) := constraint_direct_p2_ok' constraint_direct_Γ constraint_direct_p1 constraint_direct_p1_ok fuel
def constraint_direct_p3_n (m : Nat) : constraint_direct_p3_T := constraint_direct_p3_l m
theorem constraint_direct_p3_step {β : Type} (i : Nat) (k1 t38 t39 t40 out) : (constraint_direct_p3_n (i + 1) k1 t38 t39 t40 out : Option β) = constraint_direct_p3_s (constraint_direct_p3_n i k1) k1 t38 t39 t40 out := rfl
def constraint_direct_p3 : constraint_direct_p3_T := constraint_direct_p3_n fuel
theorem constraint_direct_p3_ok : PieceOk Try.prog 66 0 constraint_direct_p3_code constraint_direct_p3_v constraint_direct_p3_o (constraint_direct_p3_G constraint_direct_p3) := constraint_direct_p3_ok' constraint_direct_Γ fuel
def constraint_direct : T_constraint_direct := constraint_direct_s constraint_direct_p2 constraint_direct_p3
theorem constraint_direct_ok : SpecOk Try.prog 81 (constraint_direct_S constraint_direct) := constraint_direct_ok' constraint_direct_Γ constraint_direct_p2 constraint_direct_p3 constraint_direct_p2_ok constraint_direct_p3_ok

/-- pagewatch/constraint.Valid$1 -/
abbrev T_constraint_Valid_f1 := {β : Type} → (Int × (Int × Int)) → Int → (Bool → Int → Option β) → Option β
def constraint_Valid_f1_S (c : T_constraint_Valid_f1) : Spec :=
  ⟨[(true, [.data (.prod (.int .i64) (.prod (.int .i64) (.int .i64)))]), (false, [.ptr 0 0])], [.cells 3 [.data (.int .i64)]], [(false, [.data .bool])], [.cells 3 [.data (.int .i64)]], fun x k => c x.1.1.1 x.2.1.1 (fun r0 r1 => k (((r0, ()), ()), ((r1, ()), ())))⟩
section
variable (c_constraint_in : T_constraint_in)
@[reducible] def constraint_Valid_f1_X : Ctx := ⟨look tab, pick1 [(77, .spec (constraint_in_S c_constraint_in))], false⟩
def constraint_Valid_f1_s {β : Type} (d : (Int × (Int × Int))) (t1 : Int) (k : (Bool → Int → Option β)) : Option β :=
  c_constraint_in d.1 (0 : Int) (IntKind.i64.wrap (t1 - (1 : Int))) (fun (rin : Bool) =>
  cond (!rin)
  (k true t1)
  (c_constraint_in d.2.1 (0 : Int) (IntKind.i64.wrap (t1 - (1 : Int))) (fun (rin2 : Bool) =>
  cond (!rin2)
  (k true t1)
  (c_constraint_in d.2.2 (-17179869184 : Int) (17179869184 : Int) (fun (rin3 : Bool) =>
  k (!rin3) t1)))))
theorem constraint_Valid_f1_ok' (hΓ : ΓOk Try.prog (constraint_Valid_f1_X c_constraint_in).Γ) : SpecOk Try.prog 82 (constraint_Valid_f1_S (constraint_Valid_f1_s c_constraint_in)) :=
  spec_exec (X := (constraint_Valid_f1_X c_constraint_in)) (Λ := pick1 []) (rs := [.tmp 3]) (c := bodyOf Try.f82) mixed tab_ok hΓ Try.func82 (by kernel_rfl) (by kernel_rfl) (by kernel_rfl) (by kernel_rfl) CutsOk_nil (fun x k r h => Eq.trans (b := (constraint_Valid_f1_S (constraint_Valid_f1_s c_constraint_in)).run x k) (by kernel_rfl) h)
end
theorem constraint_Valid_f1_Γ : ΓOk Try.prog (pick1 [(77, .spec (constraint_in_S constraint_in))]) := (ΓOk_cons constraint_in_ok ΓOk_nil)
def constraint_Valid_f1 : T_constraint_Valid_f1 := constraint_Valid_f1_s constraint_in
theorem constraint_Valid_f1_ok : SpecOk Try.prog 82 (constraint_Valid_f1_S constraint_Valid_f1) := constraint_Valid_f1_ok' constraint_in constraint_Valid_f1_Γ

/-- pagewatch/clock.Elapsed -/
abbrev T_clock_Elapsed := {β : Type} → Int → Int → (Int → Int → Option β) → Option β
def clock_Elapsed_S (c : T_clock_Elapsed) : Spec :=
  ⟨[(false, [.data (.int .i64)]), (false, [.data (.int .i64)])], [], [(false, [.data (.int .i64)]), (false, [.data (.int .i64)])], [], fun x k => c x.1.1.1 x.1.2.1.1 (fun r0 r1 => k (((r0, ()), (r1, ()), ()), ()))⟩
section
variable (c_clock_Elapsed_f1 : T_clock_Elapsed_f1) (c_clock_in : T_clock_in) (c_clock_instant : T_clock_instant)
@[reducible] def clock_Elapsed_X : Ctx := ⟨look tab, pick1 [(52, .spec (clock_Elapsed_f1_S c_clock_Elapsed_f1)), (50, .spec (clock_in_S c_clock_in)), (51, .spec (clock_instant_S c_clock_instant))], false⟩
def clock_Elapsed_s {β : Type} (drift : Int) (d : Int) (k : (Int → Int → Option β)) : Option β :=
  c_clock_in drift (0 : Int) (500000 : Int) (fun (rin : Bool) =>
  cond (!rin)
  (k (0 : Int) (0 : Int))
  (c_clock_instant d (fun (rinstant : Bool) =>
  cond (!rinstant)
  (k (0 : Int) (0 : Int))
  (cond (!decide ((IntKind.i64.wrap ((1000000 : Int) + drift)) = 0))
  (c_clock_Elapsed_f1 (IntKind.i64.wrap (d * (1000000 : Int))) (IntKind.i64.wrap ((1000000 : Int) - drift)) (fun (rElapsed1 : Int) =>
  let low : Int := (IntKind.i64.wrap (Int.tdiv (IntKind.i64.wrap (d * (1000000 : Int))) (IntKind.i64.wrap ((1000000 : Int) + drift))));
  k low rElapsed1))
  none))))
theorem clock_Elapsed_ok' (hΓ : ΓOk Try.prog (clock_Elapsed_X c_clock_Elapsed_f1 c_clock_in c_clock_instant).Γ) : SpecOk Try.prog 15 (clock_Elapsed_S (clock_Elapsed_s c_clock_Elapsed_f1 c_clock_in c_clock_instant)) :=
  spec_exec (X := (clock_Elapsed_X c_clock_Elapsed_f1 c_clock_in c_clock_instant)) (Λ := pick1 []) (rs := [.tmp 4, .tmp 5]) (c := bodyOf Try.f15) mixed tab_ok hΓ Try.func15 (by kernel_rfl) (by kernel_rfl) (by kernel_rfl) (by kernel_rfl) CutsOk_nil (fun x k r h => Eq.trans (b := (clock_Elapsed_S (clock_Elapsed_s c_clock_Elapsed_f1 c_clock_in c_clock_instant)).run x k) (by kernel_rfl) h)
end
theorem clock_Elapsed_Γ : ΓOk Try.prog (pick1 [(52, .spec (clock_Elapsed_f1_S clock_Elapsed_f1)), (50, .spec (clock_in_S clock_in)), (51, .spec (clock_instant_S clock_instant))]) := (ΓOk_cons clock_Elapsed_f1_ok (ΓOk_cons clock_in_ok (ΓOk_cons clock_instant_ok ΓOk_nil)))
def clock_Elapsed : T_clock_Elapsed := clock_Elapsed_s clock_Elapsed_f1 clock_in clock_instant
theorem clock_Elapsed_ok : SpecOk Try.prog 15 (clock_Elapsed_S clock_Elapsed) := clock_Elapsed_ok' clock_Elapsed_f1 clock_in clock_instant clock_Elapsed_Γ

/-- (*pagewatch/pagewatchmade.Dice).One -/
abbrev T_made_Dice_One := {β : Type} → (List Int) → (List Int × Int) → (Int → (List Int × Int) → Option β) → Option β
def made_Dice_One_S (c : T_made_Dice_One) : Spec :=
  ⟨[(false, [.ptr 0 0]), (false, [.data (.slice (.int .i64))])], [.cells 82 [.data (.prod (.slice (.int .i64)) (.int .i64))]], [(false, [.data (.int .i64)])], [.cells 82 [.data (.prod (.slice (.int .i64)) (.int .i64))]], fun x k => c x.1.2.1.1 x.2.1.1 (fun r0 r1 => k (((r0, ()), ()), ((r1, ()), ())))⟩
section
variable (c_made_Dice_Next : T_made_Dice_Next)
@[reducible] def made_Dice_One_X : Ctx := ⟨look tab, pick1 [(20, .spec (made_Dice_Next_S c_made_Dice_Next))], false⟩
def made_Dice_One_s {β : Type} (l : List Int) (d : (List Int × Int)) (k : (Int → (List Int × Int) → Option β)) : Option β :=
  c_made_Dice_Next (List.length l : Int) d (fun (rNext : Int) (mrNext : (List Int × Int)) =>
  cond (decide (0 ≤ rNext) && decide (rNext < (List.length l : Int)))
  (let e : Int := List.getD l (Int.toNat rNext) (0 : Int);
  k e mrNext)
  none)
theorem made_Dice_One_ok' (hΓ : ΓOk Try.prog (made_Dice_One_X c_made_Dice_Next).Γ) : SpecOk Try.prog 19 (made_Dice_One_S (made_Dice_One_s c_made_Dice_Next)) :=
  spec_exec (X := (made_Dice_One_X c_made_Dice_Next)) (Λ := pick1 []) (rs := [.tmp 4]) (c := bodyOf Try.f19) mixed tab_ok hΓ Try.func19 (by kernel_rfl) (by kernel_rfl) (by kernel_rfl) (by kernel_rfl) CutsOk_nil (fun x k r h => Eq.trans (b := (made_Dice_One_S (made_Dice_One_s c_made_Dice_Next)).run x k) (by kernel_rfl) h)
end
theorem made_Dice_One_Γ : ΓOk Try.prog (pick1 [(20, .spec (made_Dice_Next_S made_Dice_Next))]) := (ΓOk_cons made_Dice_Next_ok ΓOk_nil)
def made_Dice_One : T_made_Dice_One := made_Dice_One_s made_Dice_Next
theorem made_Dice_One_ok : SpecOk Try.prog 19 (made_Dice_One_S made_Dice_One) := made_Dice_One_ok' made_Dice_Next made_Dice_One_Γ

/-- (*pagewatch/pagewatchmade.Dice).Record -/
abbrev T_made_Dice_Record := {β : Type} → Int → (List Int × Int) → (api_Record → (List Int × Int) → (List Int) → Option β) → Option β
def made_Dice_Record_S (c : T_made_Dice_Record) : Spec :=
  ⟨[(false, [.ptr 0 0]), (false, [.data (.int .i64)])], [.cells 82 [.data (.prod (.slice (.int .i64)) (.int .i64))]], [(true, [.data y_api_Record]), (false, [.rowh 1])], [.cells 82 [.data (.prod (.slice (.int .i64)) (.int .i64))], .row 3 (.int .i64)], fun x k => c x.1.2.1.1 x.2.1.1 (fun r0 r1 r2 => k (((r0, ()), (), ()), ((r1, ()), r2, ())))⟩
noncomputable def made_Dice_Record_p1_code : Code := codeAt 122 (bodyOf Try.f25)
noncomputable def made_Dice_Record_p2_code : Code := codeAt 250 (bodyOf Try.f25)
noncomputable def made_Dice_Record_p3_code : Code := codeAt 1018 (bodyOf Try.f25)
noncomputable def made_Dice_Record_p5_code : Code := codeAt 2042 (bodyOf Try.f25)
noncomputable def made_Dice_Record_p4_code : Code := codeAt 51 (loopBody made_Dice_Record_p5_code)
abbrev made_Dice_Record_p1_K1 (β : Type) := Int → (List Int) → Int → (List Int) → (List (List UInt8 × Int)) → (List (Int × (Int × (Int × Int)))) → (List api_Event) → (List (Int × (Int × Int))) → (List (List UInt8 × Int)) → (List (Int × (Int × (Int × Int)))) → (List api_Event) → (List (Int × (Int × Int))) → Option β
abbrev made_Dice_Record_p1_T := {β : Type} → made_Dice_Record_p1_K1 β → Int → Int → (List Int) → Int → (List Int) → (List (List UInt8 × Int)) → (List (Int × (Int × (Int × Int)))) → (List api_Event) → (List (Int × (Int × Int))) → (List (List UInt8 × Int)) → (List (Int × (Int × (Int × Int)))) → (List api_Event) → (List (Int × (Int × Int))) → Option β
def made_Dice_Record_p1_v : View := ⟨1, [0, 1, 4, 6, 7, 8], [(false, [.ptr 0 0]), (false, [.data (.int .i64)]), (false, [.ptr 1 0]), (false, [.ptr 2 0]), (false, [.rowh 3]), (false, [.data (.int .i64)])], [.cells 82 [.data (.slice (.int .i64)), .data (.int .i64)], .cells 41 [.rowh 4, .rowh 5, .rowh 6, .rowh 7], .cells 41 [.rowh 8, .rowh 9, .rowh 10, .rowh 11], .row 3 (.int .i64), .row 35 (.prod .str (.int .i64)), .row 43 (.prod (.int .i64) (.prod (.int .i64) (.prod (.int .i64) (.int .i64)))), .row 65 y_api_Event, .row 67 (.prod (.int .i64) (.prod (.int .i64) (.int .i64))), .row 35 (.prod .str (.int .i64)), .row 43 (.prod (.int .i64) (.prod (.int .i64) (.prod (.int .i64) (.int .i64)))), .row 65 y_api_Event, .row 67 (.prod (.int .i64) (.prod (.int .i64) (.int .i64)))]⟩
def made_Dice_Record_p1_o : List (AExit × View) := [(.exit 0, ⟨1, [0, 1, 4, 6, 7], [(false, [.ptr 0 0]), (false, [.data (.int .i64)]), (false, [.ptr 1 0]), (false, [.ptr 2 0]), (false, [.rowh 3])], [.cells 82 [.data (.slice (.int .i64)), .data (.int .i64)], .cells 41 [.rowh 4, .rowh 5, .rowh 6, .rowh 7], .cells 41 [.rowh 8, .rowh 9, .rowh 10, .rowh 11], .row 3 (.int .i64), .row 35 (.prod .str (.int .i64)), .row 43 (.prod (.int .i64) (.prod (.int .i64) (.prod (.int .i64) (.int .i64)))), .row 65 y_api_Event, .row 67 (.prod (.int .i64) (.prod (.int .i64) (.int .i64))), .row 35 (.prod .str (.int .i64)), .row 43 (.prod (.int .i64) (.prod (.int .i64) (.prod (.int .i64) (.int .i64)))), .row 65 y_api_Event, .row 67 (.prod (.int .i64) (.prod (.int .i64) (.int .i64)))]⟩)]
@[reducible] def made_Dice_Record_p1_G (p : made_Dice_Record_p1_T) {β : Type} (d : made_Dice_Record_p1_v.den) (ks : Outs.K β made_Dice_Record_p1_o) : Option β :=
  p (fun a0 a1 a2 a3 a4 a5 a6 a7 a8 a9 a10 a11 => ks.1 (((), (a0, ()), (), (), (), ()), ((a1, a2, ()), (), (), a3, a4, a5, a6, a7, a8, a9, a10, a11, ()))) d.1.2.1.1 d.1.2.2.2.2.2.1.1 d.2.1.1 d.2.1.2.1 d.2.2.2.2.1 d.2.2.2.2.2.1 d.2.2.2.2.2.2.1 d.2.2.2.2.2.2.2.1 d.2.2.2.2.2.2.2.2.1 d.2.2.2.2.2.2.2.2.2.1 d.2.2.2.2.2.2.2.2.2.2.1 d.2.2.2.2.2.2.2.2.2.2.2.1 d.2.2.2.2.2.2.2.2.2.2.2.2.1
abbrev made_Dice_Record_p2_K1 (β : Type) := Int → (List Int) → Int → (List Int) → (List (List UInt8 × Int)) → (List (Int × (Int × (Int × Int)))) → (List api_Event) → (List (Int × (Int × Int))) → (List (List UInt8 × Int)) → (List (Int × (Int × (Int × Int)))) → (List api_Event) → (List (Int × (Int × Int))) → Option β
abbrev made_Dice_Record_p2_T := {β : Type} → made_Dice_Record_p2_K1 β → Int → Int → (List Int) → Int → (List Int) → (List (List UInt8 × Int)) → (List (Int × (Int × (Int × Int)))) → (List api_Event) → (List (Int × (Int × Int))) → (List (List UInt8 × Int)) → (List (Int × (Int × (Int × Int)))) → (List api_Event) → (List (Int × (Int × Int))) → Option β
def made_Dice_Record_p2_v : View := ⟨1, [0, 1, 4, 6, 7, 9], [(false, [.ptr 0 0]), (false, [.data (.int .i64)]), (false, [.ptr 1 0]), (false, [.ptr 2 0]), (false, [.rowh 3]), (false, [.data (.int .i64)])], [.cells 82 [.data (.slice (.int .i64)), .data (.int .i64)], .cells 41 [.rowh 4, .rowh 5, .rowh 6, .rowh 7], .cells 41 [.rowh 8, .rowh 9, .rowh 10, .rowh 11], .row 3 (.int .i64), .row 35 (.prod .str (.int .i64)), .row 43 (.prod (.int .i64) (.prod (.int .i64) (.prod (.int .i64) (.int .i64)))), .row 65 y_api_Event, .row 67 (.prod (.int .i64) (.prod (.int .i64) (.int .i64))), .row 35 (.prod .str (.int .i64)), .row 43 (.prod (.int .i64) (.prod (.int .i64) (.prod (.int .i64) (.int .i64)))), .row 65 y_api_Event, .row 67 (.prod (.int .i64) (.prod (.int .i64) (.int .i64)))]⟩
def made_Dice_Record_p2_o : List (AExit × View) := [(.exit 2, ⟨1, [0, 1, 4, 6, 7], [(false, [.ptr 0 0]), (false, [.data (.int .i64)]), (false, [.ptr 1 0]), (false, [.ptr 2 0]), (false, [.rowh 3])], [.cells 82 [.data (.slice (.int .i64)), .data (.int .i64)], .cells 41 [.rowh 4, .rowh 5, .rowh 6, .rowh 7], .cells 41 [.rowh 8, .rowh 9, .rowh 10, .rowh 11], .row 3 (.int .i64), .row 35 (.prod .str (.int .i64)), .row 43 (.prod (.int .i64) (.prod (.int .i64) (.prod (.int .i64) (.int .i64)))), .row 65 y_api_Event, .row 67 (.prod (.int .i64) (.prod (.int .i64) (.int .i64))), .row 35 (.prod .str (.int .i64)), .row 43 (.prod (.int .i64) (.prod (.int .i64) (.prod (.int .i64) (.int .i64)))), .row 65 y_api_Event, .row 67 (.prod (.int .i64) (.prod (.int .i64) (.int .i64)))]⟩)]
@[reducible] def made_Dice_Record_p2_G (p : made_Dice_Record_p2_T) {β : Type} (d : made_Dice_Record_p2_v.den) (ks : Outs.K β made_Dice_Record_p2_o) : Option β :=
  p (fun a0 a1 a2 a3 a4 a5 a6 a7 a8 a9 a10 a11 => ks.1 (((), (a0, ()), (), (), (), ()), ((a1, a2, ()), (), (), a3, a4, a5, a6, a7, a8, a9, a10, a11, ()))) d.1.2.1.1 d.1.2.2.2.2.2.1.1 d.2.1.1 d.2.1.2.1 d.2.2.2.2.1 d.2.2.2.2.2.1 d.2.2.2.2.2.2.1 d.2.2.2.2.2.2.2.1 d.2.2.2.2.2.2.2.2.1 d.2.2.2.2.2.2.2.2.2.1 d.2.2.2.2.2.2.2.2.2.2.1 d.2.2.2.2.2.2.2.2.2.2.2.1 d.2.2.2.2.2.2.2.2.2.2.2.2.1
abbrev made_Dice_Record_p3_K1 (β : Type) := (List Int) → Int → (List Int) → (List (List UInt8 × Int)) → (List (Int × (Int × (Int × Int)))) → (List api_Event) → (List (Int × (Int × Int))) → (List (List UInt8 × Int)) → (List (Int × (Int × (Int × Int)))) → (List api_Event) → (List (Int × (Int × Int))) → Option β
abbrev made_Dice_Record_p3_T := {β : Type} → made_Dice_Record_p3_K1 β → Int → (List Int) → Int → (List Int) → (List Int) → (List (List UInt8 × Int)) → (List (Int × (Int × (Int × Int)))) → (List api_Event) → (List (Int × (Int × Int))) → (List (List UInt8 × Int)) → (List (Int × (Int × (Int × Int)))) → (List api_Event) → (List (Int × (Int × Int))) → Option β
def made_Dice_Record_p3_v : View := ⟨1, [0, 4, 6, 7, 12, 13], [(false, [.ptr 0 0]), (false, [.ptr 1 0]), (false, [.ptr 2 0]), (false, [.rowh 3]), (false, [.rowh 4]), (false, [.data (.int .i64)])], [.cells 82 [.data (.slice (.int .i64)), .data (.int .i64)], .cells 41 [.rowh 5, .rowh 6, .rowh 7, .rowh 8], .cells 41 [.rowh 9, .rowh 10, .rowh 11, .rowh 12], .row 3 (.int .i64), .row 3 (.int .i64), .row 35 (.prod .str (.int .i64)), .row 43 (.prod (.int .i64) (.prod (.int .i64) (.prod (.int .i64) (.int .i64)))), .row 65 y_api_Event, .row 67 (.prod (.int .i64) (.prod (.int .i64) (.int .i64))), .row 35 (.prod .str (.int .i64)), .row 43 (.prod (.int .i64) (.prod (.int .i64) (.prod (.int .i64) (.int .i64)))), .row 65 y_api_Event, .row 67 (.prod (.int .i64) (.prod (.int .i64) (.int .i64)))]⟩
def made_Dice_Record_p3_o : List (AExit × View) := [(.exit 4, ⟨1, [0, 4, 6, 12], [(false, [.ptr 0 0]), (false, [.ptr 1 0]), (false, [.ptr 2 0]), (false, [.rowh 3])], [.cells 82 [.data (.slice (.int .i64)), .data (.int .i64)], .cells 41 [.rowh 4, .rowh 5, .rowh 6, .rowh 7], .cells 41 [.rowh 8, .rowh 9, .rowh 10, .rowh 11], .row 3 (.int .i64), .row 35 (.prod .str (.int .i64)), .row 43 (.prod (.int .i64) (.prod (.int .i64) (.prod (.int .i64) (.int .i64)))), .row 65 y_api_Event, .row 67 (.prod (.int .i64) (.prod (.int .i64) (.int .i64))), .row 35 (.prod .str (.int .i64)), .row 43 (.prod (.int .i64) (.prod (.int .i64) (.prod (.int .i64) (.int .i64)))), .row 65 y_api_Event, .row 67 (.prod (.int .i64) (.prod (.int .i64) (.int .i64)))]⟩)]
@[reducible] def made_Dice_Record_p3_G (p : made_Dice_Record_p3_T) {β : Type} (d : made_Dice_Record_p3_v.den) (ks : Outs.K β made_Dice_Record_p3_o) : Option β :=
  p (fun a0 a1 a2 a3 a4 a5 a6 a7 a8 a9 a10 => ks.1 (((), (), (), (), ()), ((a0, a1, ()), (), (), a2, a3, a4, a5, a6, a7, a8, a9, a10, ()))) d.1.2.2.2.2.2.1.1 d.2.1.1 d.2.1.2.1 d.2.2.2.2.1 d.2.2.2.2.2.1 d.2.2.2.2.2.2.1 d.2.2.2.2.2.2.2.1 d.2.2.2.2.2.2.2.2.1 d.2.2.2.2.2.2.2.2.2.1 d.2.2.2.2.2.2.2.2.2.2.1 d.2.2.2.2.2.2.2.2.2.2.2.1 d.2.2.2.2.2.2.2.2.2.2.2.2.1 d.2.2.2.2.2.2.2.2.2.2.2.2.2.1
abbrev made_Dice_Record_p4_K1 (β : Type) := Int → (List Int) → Int → (List Int) → (List (List UInt8 × Int)) → (List (Int × (Int × (Int × Int)))) → (List api_Event) → (List (Int × (Int × Int))) → (List (List UInt8 × Int)) → (List (Int × (Int × (Int × Int)))) → (List api_Event) → (List (Int × (Int × Int))) → Option β
abbrev made_Dice_Record_p4_T := {β : Type} → made_Dice_Record_p4_K1 β → Int → Int → Int → Bool → (List Int) → Int → (List Int) → (List (List UInt8 × Int)) → (List (Int × (Int × (Int × Int)))) → (List api_Event) → (List (Int × (Int × Int))) → (List (List UInt8 × Int)) → (List (Int × (Int × (Int × Int)))) → (List api_Event) → (List (Int × (Int × Int))) → Option β
def made_Dice_Record_p4_v : View := ⟨1, [0, 4, 6, 12, 16, 17, 18, 154], [(false, [.ptr 0 0]), (false, [.ptr 1 0]), (false, [.ptr 2 0]), (false, [.rowh 3]), (false, [.data (.int .i64)]), (false, [.data (.int .i64)]), (false, [.data (.int .i64)]), (false, [.data .bool])], [.cells 82 [.data (.slice (.int .i64)), .data (.int .i64)], .cells 41 [.rowh 4, .rowh 5, .rowh 6, .rowh 7], .cells 41 [.rowh 8, .rowh 9, .rowh 10, .rowh 11], .row 3 (.int .i64), .row 35 (.prod .str (.int .i64)), .row 43 (.prod (.int .i64) (.prod (.int .i64) (.prod (.int .i64) (.int .i64)))), .row 65 y_api_Event, .row 67 (.prod (.int .i64) (.prod (.int .i64) (.int .i64))), .row 35 (.prod .str (.int .i64)), .row 43 (.prod (.int .i64) (.prod (.int .i64) (.prod (.int .i64) (.int .i64)))), .row 65 y_api_Event, .row 67 (.prod (.int .i64) (.prod (.int .i64) (.int .i64)))]⟩
def made_Dice_Record_p4_o : List (AExit × View) := [(.normal, ⟨1, [0, 4, 6, 12, 16], [(false, [.ptr 0 0]), (false, [.ptr 1 0]), (false, [.ptr 2 0]), (false, [.rowh 3]), (false, [.data (.int .i64)])], [.cells 82 [.data (.slice (.int .i64)), .data (.int .i64)], .cells 41 [.rowh 4, .rowh 5, .rowh 6, .rowh 7], .cells 41 [.rowh 8, .rowh 9, .rowh 10, .rowh 11], .row 3 (.int .i64), .row 35 (.prod .str (.int .i64)), .row 43 (.prod (.int .i64) (.prod (.int .i64) (.prod (.int .i64) (.int .i64)))), .row 65 y_api_Event, .row 67 (.prod (.int .i64) (.prod (.int .i64) (.int .i64))), .row 35 (.prod .str (.int .i64)), .row 43 (.prod (.int .i64) (.prod (.int .i64) (.prod (.int .i64) (.int .i64)))), .row 65 y_api_Event, .row 67 (.prod (.int .i64) (.prod (.int .i64) (.int .i64)))]⟩)]
@[reducible] def made_Dice_Record_p4_G (p : made_Dice_Record_p4_T) {β : Type} (d : made_Dice_Record_p4_v.den) (ks : Outs.K β made_Dice_Record_p4_o) : Option β :=
  p (fun a0 a1 a2 a3 a4 a5 a6 a7 a8 a9 a10 a11 => ks.1 (((), (), (), (), (a0, ()), ()), ((a1, a2, ()), (), (), a3, a4, a5, a6, a7, a8, a9, a10, a11, ()))) d.1.2.2.2.2.1.1 d.1.2.2.2.2.2.1.1 d.1.2.2.2.2.2.2.1.1 d.1.2.2.2.2.2.2.2.1.1 d.2.1.1 d.2.1.2.1 d.2.2.2.2.1 d.2.2.2.2.2.1 d.2.2.2.2.2.2.1 d.2.2.2.2.2.2.2.1 d.2.2.2.2.2.2.2.2.1 d.2.2.2.2.2.2.2.2.2.1 d.2.2.2.2.2.2.2.2.2.2.1 d.2.2.2.2.2.2.2.2.2.2.2.1 d.2.2.2.2.2.2.2.2.2.2.2.2.1
abbrev made_Dice_Record_p5_K1 (β : Type) := (List Int) → Int → (List Int) → (List (List UInt8 × Int)) → (List (Int × (Int × (Int × Int)))) → (List api_Event) → (List (Int × (Int × Int))) → (List (List UInt8 × Int)) → (List (Int × (Int × (Int × Int)))) → (List api_Event) → (List (Int × (Int × Int))) → Option β
abbrev made_Dice_Record_p5_T := {β : Type} → made_Dice_Record_p5_K1 β → Int → (List Int) → Int → (List Int) → (List (List UInt8 × Int)) → (List (Int × (Int × (Int × Int)))) → (List api_Event) → (List (Int × (Int × Int))) → (List (List UInt8 × Int)) → (List (Int × (Int × (Int × Int)))) → (List api_Event) → (List (Int × (Int × Int))) → Option β
def made_Dice_Record_p5_v : View := ⟨1, [0, 4, 6, 12, 16], [(false, [.ptr 0 0]), (false, [.ptr 1 0]), (false, [.ptr 2 0]), (false, [.rowh 3]), (false, [.data (.int .i64)])], [.cells 82 [.data (.slice (.int .i64)), .data (.int .i64)], .cells 41 [.rowh 4, .rowh 5, .rowh 6, .rowh 7], .cells 41 [.rowh 8, .rowh 9, .rowh 10, .rowh 11], .row 3 (.int .i64), .row 35 (.prod .str (.int .i64)), .row 43 (.prod (.int .i64) (.prod (.int .i64) (.prod (.int .i64) (.int .i64)))), .row 65 y_api_Event, .row 67 (.prod (.int .i64) (.prod (.int .i64) (.int .i64))), .row 35 (.prod .str (.int .i64)), .row 43 (.prod (.int .i64) (.prod (.int .i64) (.prod (.int .i64) (.int .i64)))), .row 65 y_api_Event, .row 67 (.prod (.int .i64) (.prod (.int .i64) (.int .i64)))]⟩
def made_Dice_Record_p5_o : List (AExit × View) := [(.exit 6, ⟨1, [4, 6, 12], [(false, [.ptr 1 0]), (false, [.ptr 2 0]), (false, [.rowh 3])], [.cells 82 [.data (.slice (.int .i64)), .data (.int .i64)], .cells 41 [.rowh 4, .rowh 5, .rowh 6, .rowh 7], .cells 41 [.rowh 8, .rowh 9, .rowh 10, .rowh 11], .row 3 (.int .i64), .row 35 (.prod .str (.int .i64)), .row 43 (.prod (.int .i64) (.prod (.int .i64) (.prod (.int .i64) (.int .i64)))), .row 65 y_api_Event, .row 67 (.prod (.int .i64) (.prod (.int .i64) (.int .i64))), .row 35 (.prod .str (.int .i64)), .row 43 (.prod (.int .i64) (.prod (.int .i64) (.prod (.int .i64) (.int .i64)))), .row 65 y_api_Event, .row 67 (.prod (.int .i64) (.prod (.int .i64) (.int .i64)))]⟩)]
@[reducible] def made_Dice_Record_p5_G (p : made_Dice_Record_p5_T) {β : Type} (d : made_Dice_Record_p5_v.den) (ks : Outs.K β made_Dice_Record_p5_o) : Option β :=
  p (fun a0 a1 a2 a3 a4 a5 a6 a7 a8 a9 a10 => ks.1 (((), (), (), ()), ((a0, a1, ()), (), (), a2, a3, a4, a5, a6, a7, a8, a9, a10, ()))) d.1.2.2.2.2.1.1 d.2.1.1 d.2.1.2.1 d.2.2.2.2.1 d.2.2.2.2.2.1 d.2.2.2.2.2.2.1 d.2.2.2.2.2.2.2.1 d.2.2.2.2.2.2.2.2.1 d.2.2.2.2.2.2.2.2.2.1 d.2.2.2.2.2.2.2.2.2.2.1 d.2.2.2.2.2.2.2.2.2.2.2.1 d.2.2.2.2.2.2.2.2.2.2.2.2.1
section
variable (c_made_Dice_Next : T_made_Dice_Next) (c_made_Dice_One : T_made_Dice_One)
@[reducible] def made_Dice_Record_X : Ctx := ⟨look tab, pick1 [(20, .spec (made_Dice_Next_S c_made_Dice_Next)), (19, .spec (made_Dice_One_S c_made_Dice_One))], false⟩
def made_Dice_Record_p1_s {β : Type} (rec : Int → Int → (List Int) → Int → (List Int) → (List (List UInt8 × Int)) → (List (Int × (Int × (Int × Int)))) → (List api_Event) → (List (Int × (Int × Int))) → (List (List UInt8 × Int)) → (List (Int × (Int × (Int × Int)))) → (List api_Event) → (List (Int × (Int × Int))) → Option β) (k1 : made_Dice_Record_p1_K1 β) (n : Int) (i_ : Int) (d : List Int) (d2 : Int) (ahead : List Int) (b4_ : List (List UInt8 × Int)) (b5_ : List (Int × (Int × (Int × Int)))) (b6_ : List api_Event) (b7_ : List (Int × (Int × Int))) (b8_ : List (List UInt8 × Int)) (b9_ : List (Int × (Int × (Int × Int)))) (b10_ : List api_Event) (b11_ : List (Int × (Int × Int))) : Option β :=
  cond (decide ((0 : Int) < i_))
  (let l : List (List UInt8) := ([([100, 98] : List UInt8), ([119, 101, 98] : List UInt8), ([108, 98] : List UInt8)] : List (List UInt8));
  cond (decide (0 ≤ (List.length b8_ : Int)) && decide ((List.length b8_ : Int) < (List.length l : Int)))
  (let l2 : List Int := ([(0 : Int), (0 : Int), (100 : Int), (50000 : Int), (500000 : Int)] : List Int);
  c_made_Dice_One l2 (d, d2) (fun (rOne : Int) (mrOne : (List Int × Int)) =>
  let l3 : List (List UInt8 × Int) := ([((List.getD l (Int.toNat (List.length b8_ : Int)) ([] : List UInt8)), rOne)] : List (List UInt8 × Int));
  cond (decide ((List.length b8_ + List.length l3) * 24 ≤ roomMax))
  (let l4 : List (List UInt8 × Int) := (b8_ ++ l3);
  let l5 : List Int := ([(0 : Int), (7 : Int), (100 : Int)] : List Int);
  c_made_Dice_One l5 mrOne (fun (rOne2 : Int) (mrOne2 : (List Int × Int)) =>
  let l6 : List Int := ([rOne2] : List Int);
  cond (decide ((List.length ahead + List.length l6) * 8 ≤ roomMax))
  (let l7 : List Int := (ahead ++ l6);
  let i_2 : Int := (IntKind.i64.wrap (i_ - (1 : Int)));
  rec n i_2 mrOne2.1 mrOne2.2 l7 b4_ b5_ b6_ b7_ l4 b9_ b10_ b11_)
  none))
  none))
  none)
  (k1 n d d2 ahead b4_ b5_ b6_ b7_ b8_ b9_ b10_ b11_)
def made_Dice_Record_p1_l {β : Type} : Nat → made_Dice_Record_p1_K1 β → Int → Int → (List Int) → Int → (List Int) → (List (List UInt8 × Int)) → (List (Int × (Int × (Int × Int)))) → (List api_Event) → (List (Int × (Int × Int))) → (List (List UInt8 × Int)) → (List (Int × (Int × (Int × Int)))) → (List api_Event) → (List (Int × (Int × Int))) → Option β
  | 0 => fun _ _ _ _ _ _ _ _ _ _ _ _ _ _ => none
  | i + 1 => fun k1 n i_ d d2 ahead b4_ b5_ b6_ b7_ b8_ b9_ b10_ b11_ => made_Dice_Record_p1_s c_made_Dice_One (made_Dice_Record_p1_l i k1) k1 n i_ d d2 ahead b4_ b5_ b6_ b7_ b8_ b9_ b10_ b11_
theorem made_Dice_Record_p1_ok' (hΓ : ΓOk Try.prog (made_Dice_Record_X c_made_Dice_Next c_made_Dice_One).Γ) (i : Nat) : PieceOk Try.prog 177 1 made_Dice_Record_p1_code made_Dice_Record_p1_v made_Dice_Record_p1_o (made_Dice_Record_p1_G (made_Dice_Record_p1_l c_made_Dice_One i)) := by
  rw [show made_Dice_Record_p1_code = .loop (loopBody made_Dice_Record_p1_code) by kernel_rfl]
  exact piece_loop (X := (made_Dice_Record_X c_made_Dice_Next c_made_Dice_One)) (p := 1) (Λ := pick1 []) (G := fun i => @fun β d ks => made_Dice_Record_p1_G (made_Dice_Record_p1_l c_made_Dice_One i) d ks) mixed tab_ok hΓ rfl (by kernel_rfl) CutsOk_nil (fun _ _ => rfl) (fun i => @fun β d ks r h => Eq.trans (b := made_Dice_Record_p1_G (made_Dice_Record_p1_l c_made_Dice_One (i + 1)) d ks) (by kernel_rfl) h) i
def made_Dice_Record_p2_s {β : Type} (rec : Int → Int → (List Int) → Int → (List Int) → (List (List UInt8 × Int)) → (List (Int × (Int × (Int × Int)))) → (List api_Event) → (List (Int × (Int × Int))) → (List (List UInt8 × Int)) → (List (Int × (Int × (Int × Int)))) → (List api_Event) → (List (Int × (Int × Int))) → Option β) (k1 : made_Dice_Record_p2_K1 β) (n : Int) (i_ : Int) (d : List Int) (d2 : Int) (ahead : List Int) (b4_ : List (List UInt8 × Int)) (b5_ : List (Int × (Int × (Int × Int)))) (b6_ : List api_Event) (b7_ : List (Int × (Int × Int))) (b8_ : List (List UInt8 × Int)) (b9_ : List (Int × (Int × (Int × Int)))) (b10_ : List api_Event) (b11_ : List (Int × (Int × Int))) : Option β :=
  cond (decide ((0 : Int) < i_))
  (c_made_Dice_Next (List.length b8_ : Int) (d, d2) (fun (rNext : Int) (mrNext : (List Int × Int)) =>
  c_made_Dice_Next (400 : Int) mrNext (fun (rNext2 : Int) (mrNext2 : (List Int × Int)) =>
  let t : Int := (IntKind.i64.wrap ((864000 : Int) + rNext2));
  cond (decide (0 ≤ rNext) && decide (rNext < (List.length ahead : Int)))
  (let l : List Int := ([(0 : Int), (3 : Int), (20 : Int)] : List Int);
  c_made_Dice_One l mrNext2 (fun (rOne : Int) (mrOne : (List Int × Int)) =>
  let l2 : List Int := ([(0 : Int), (2 : Int), (15 : Int)] : List Int);
  c_made_Dice_One l2 mrOne (fun (rOne2 : Int) (mrOne2 : (List Int × Int)) =>
  let l3 : List (Int × (Int × (Int × Int))) := ([(rNext, ((IntKind.i64.wrap (t + (List.getD ahead (Int.toNat rNext) (0 : Int)))), ((IntKind.i64.wrap (t - rOne)), (IntKind.i64.wrap (t + rOne2)))))] : List (Int × (Int × (Int × Int))));
  cond (decide ((List.length b9_ + List.length l3) * 32 ≤ roomMax))
  (let l4 : List (Int × (Int × (Int × Int))) := (b9_ ++ l3);
  let i_2 : Int := (IntKind.i64.wrap (i_ - (1 : Int)));
  rec n i_2 mrOne2.1 mrOne2.2 ahead b4_ b5_ b6_ b7_ b8_ l4 b10_ b11_)
  none)))
  none)))
  (k1 n d d2 ahead b4_ b5_ b6_ b7_ b8_ b9_ b10_ b11_)
def made_Dice_Record_p2_l {β : Type} : Nat → made_Dice_Record_p2_K1 β → Int → Int → (List Int) → Int → (List Int) → (List (List UInt8 × Int)) → (List (Int × (Int × (Int × Int)))) → (List api_Event) → (List (Int × (Int × Int))) → (List (List UInt8 × Int)) → (List (Int × (Int × (Int × Int)))) → (List api_Event) → (List (Int × (Int × Int))) → Option β
  | 0 => fun _ _ _ _ _ _ _ _ _ _ _ _ _ _ => none
  | i + 1 => fun k1 n i_ d d2 ahead b4_ b5_ b6_ b7_ b8_ b9_ b10_ b11_ => made_Dice_Record_p2_s c_made_Dice_Next c_made_Dice_One (made_Dice_Record_p2_l i k1) k1 n i_ d d2 ahead b4_ b5_ b6_ b7_ b8_ b9_ b10_ b11_
theorem made_Dice_Record_p2_ok' (hΓ : ΓOk Try.prog (made_Dice_Record_X c_made_Dice_Next c_made_Dice_One).Γ) (i : Nat) : PieceOk Try.prog 177 1 made_Dice_Record_p2_code made_Dice_Record_p2_v made_Dice_Record_p2_o (made_Dice_Record_p2_G (made_Dice_Record_p2_l c_made_Dice_Next c_made_Dice_One i)) := by
  rw [show made_Dice_Record_p2_code = .loop (loopBody made_Dice_Record_p2_code) by kernel_rfl]
  exact piece_loop (X := (made_Dice_Record_X c_made_Dice_Next c_made_Dice_One)) (p := 1) (Λ := pick1 []) (G := fun i => @fun β d ks => made_Dice_Record_p2_G (made_Dice_Record_p2_l c_made_Dice_Next c_made_Dice_One i) d ks) mixed tab_ok hΓ rfl (by kernel_rfl) CutsOk_nil (fun _ _ => rfl) (fun i => @fun β d ks r h => Eq.trans (b := made_Dice_Record_p2_G (made_Dice_Record_p2_l c_made_Dice_Next c_made_Dice_One (i + 1)) d ks) (by kernel_rfl) h) i
def made_Dice_Record_p3_s {β : Type} (rec : Int → (List Int) → Int → (List Int) → (List Int) → (List (List UInt8 × Int)) → (List (Int × (Int × (Int × Int)))) → (List api_Event) → (List (Int × (Int × Int))) → (List (List UInt8 × Int)) → (List (Int × (Int × (Int × Int)))) → (List api_Event) → (List (Int × (Int × Int))) → Option β) (k1 : made_Dice_Record_p3_K1 β) (i_ : Int) (d : List Int) (d2 : Int) (ahead : List Int) (times : List Int) (b5_ : List (List UInt8 × Int)) (b6_ : List (Int × (Int × (Int × Int)))) (b7_ : List api_Event) (b8_ : List (Int × (Int × Int))) (b9_ : List (List UInt8 × Int)) (b10_ : List (Int × (Int × (Int × Int)))) (b11_ : List api_Event) (b12_ : List (Int × (Int × Int))) : Option β :=
  cond (decide ((0 : Int) < i_))
  (c_made_Dice_Next (List.length b9_ : Int) (d, d2) (fun (rNext : Int) (mrNext : (List Int × Int)) =>
  c_made_Dice_Next (300 : Int) mrNext (fun (rNext2 : Int) (mrNext2 : (List Int × Int)) =>
  let t : Int := (IntKind.i64.wrap ((864000 : Int) + rNext2));
  cond (decide (0 ≤ rNext) && decide (rNext < (List.length ahead : Int)))
  (let l : List (List UInt8) := ([([117, 112] : List UInt8), ([100, 111, 119, 110] : List UInt8), ([115, 108, 111, 119] : List UInt8)] : List (List UInt8));
  c_made_Dice_Next (3 : Int) mrNext2 (fun (rNext3 : Int) (mrNext3 : (List Int × Int)) =>
  cond (decide (0 ≤ rNext3) && decide (rNext3 < (List.length l : Int)))
  (let l2 : List api_Event := ([(rNext, ((IntKind.i64.wrap (t + (List.getD ahead (Int.toNat rNext) (0 : Int)))), (List.getD l (Int.toNat rNext3) ([] : List UInt8))))] : List api_Event);
  cond (decide ((List.length b11_ + List.length l2) * 32 ≤ roomMax))
  (let l3 : List api_Event := (b11_ ++ l2);
  let l4 : List Int := ([t] : List Int);
  cond (decide ((List.length times + List.length l4) * 8 ≤ roomMax))
  (let l5 : List Int := (times ++ l4);
  let i_2 : Int := (IntKind.i64.wrap (i_ - (1 : Int)));
  rec i_2 mrNext3.1 mrNext3.2 ahead l5 b5_ b6_ b7_ b8_ b9_ b10_ l3 b12_)
  none)
  none)
  none))
  none)))
  (k1 d d2 times b5_ b6_ b7_ b8_ b9_ b10_ b11_ b12_)
def made_Dice_Record_p3_l {β : Type} : Nat → made_Dice_Record_p3_K1 β → Int → (List Int) → Int → (List Int) → (List Int) → (List (List UInt8 × Int)) → (List (Int × (Int × (Int × Int)))) → (List api_Event) → (List (Int × (Int × Int))) → (List (List UInt8 × Int)) → (List (Int × (Int × (Int × Int)))) → (List api_Event) → (List (Int × (Int × Int))) → Option β
  | 0 => fun _ _ _ _ _ _ _ _ _ _ _ _ _ _ => none
  | i + 1 => fun k1 i_ d d2 ahead times b5_ b6_ b7_ b8_ b9_ b10_ b11_ b12_ => made_Dice_Record_p3_s c_made_Dice_Next (made_Dice_Record_p3_l i k1) k1 i_ d d2 ahead times b5_ b6_ b7_ b8_ b9_ b10_ b11_ b12_
theorem made_Dice_Record_p3_ok' (hΓ : ΓOk Try.prog (made_Dice_Record_X c_made_Dice_Next c_made_Dice_One).Γ) (i : Nat) : PieceOk Try.prog 177 1 made_Dice_Record_p3_code made_Dice_Record_p3_v made_Dice_Record_p3_o (made_Dice_Record_p3_G (made_Dice_Record_p3_l c_made_Dice_Next i)) := by
  rw [show made_Dice_Record_p3_code = .loop (loopBody made_Dice_Record_p3_code) by kernel_rfl]
  exact piece_loop (X := (made_Dice_Record_X c_made_Dice_Next c_made_Dice_One)) (p := 1) (Λ := pick1 []) (G := fun i => @fun β d ks => made_Dice_Record_p3_G (made_Dice_Record_p3_l c_made_Dice_Next i) d ks) mixed tab_ok hΓ rfl (by kernel_rfl) CutsOk_nil (fun _ _ => rfl) (fun i => @fun β d ks r h => Eq.trans (b := made_Dice_Record_p3_G (made_Dice_Record_p3_l c_made_Dice_Next (i + 1)) d ks) (by kernel_rfl) h) i
def made_Dice_Record_p4_s {β : Type} (k1 : made_Dice_Record_p4_K1 β) (i_ : Int) (a : Int) (b : Int) (t154 : Bool) (d : List Int) (d2 : Int) (times : List Int) (b4_ : List (List UInt8 × Int)) (b5_ : List (Int × (Int × (Int × Int)))) (b6_ : List api_Event) (b7_ : List (Int × (Int × Int))) (b8_ : List (List UInt8 × Int)) (b9_ : List (Int × (Int × (Int × Int)))) (b10_ : List api_Event) (b11_ : List (Int × (Int × Int))) : Option β :=
  cond t154
  (cond (decide (0 ≤ b) && decide (b < (List.length times : Int)))
  (cond (decide (0 ≤ a) && decide (a < (List.length times : Int)))
  (c_made_Dice_Next (IntKind.i64.wrap ((IntKind.i64.wrap ((List.getD times (Int.toNat b) (0 : Int)) - (List.getD times (Int.toNat a) (0 : Int)))) + (1 : Int))) (d, d2) (fun (rNext : Int) (mrNext : (List Int × Int)) =>
  let l : List (Int × (Int × Int)) := ([(a, (b, rNext))] : List (Int × (Int × Int)));
  cond (decide ((List.length b11_ + List.length l) * 24 ≤ roomMax))
  (let l2 : List (Int × (Int × Int)) := (b11_ ++ l);
  k1 i_ mrNext.1 mrNext.2 times b4_ b5_ b6_ b7_ b8_ b9_ b10_ l2)
  none))
  none)
  none)
  (k1 i_ d d2 times b4_ b5_ b6_ b7_ b8_ b9_ b10_ b11_)
def made_Dice_Record_p4_u {β : Type} (k1 : made_Dice_Record_p4_K1 β) (i_ : Int) (a : Int) (b : Int) (t154 : Bool) (d : List Int) (d2 : Int) (times : List Int) (b4_ : List (List UInt8 × Int)) (b5_ : List (Int × (Int × (Int × Int)))) (b6_ : List api_Event) (b7_ : List (Int × (Int × Int))) (b8_ : List (List UInt8 × Int)) (b9_ : List (Int × (Int × (Int × Int)))) (b10_ : List api_Event) (b11_ : List (Int × (Int × Int))) : Option β := made_Dice_Record_p4_s c_made_Dice_Next k1 i_ a b t154 d d2 times b4_ b5_ b6_ b7_ b8_ b9_ b10_ b11_
theorem made_Dice_Record_p4_ok' (hΓ : ΓOk Try.prog (made_Dice_Record_X c_made_Dice_Next c_made_Dice_One).Γ) : PieceOk Try.prog 177 1 made_Dice_Record_p4_code made_Dice_Record_p4_v made_Dice_Record_p4_o (made_Dice_Record_p4_G (made_Dice_Record_p4_u c_made_Dice_Next)) :=
  piece_exec (X := (made_Dice_Record_X c_made_Dice_Next c_made_Dice_One)) (p := 51) (Λ := pick1 []) mixed tab_ok hΓ (by kernel_rfl) CutsOk_nil (fun d ks r h => Eq.trans (b := made_Dice_Record_p4_G (made_Dice_Record_p4_u c_made_Dice_Next) d ks) (by kernel_rfl) h)
def made_Dice_Record_p5_s (p4 : made_Dice_Record_p4_T) {β : Type} (rec : Int → (List Int) → Int → (List Int) → (List (List UInt8 × Int)) → (List (Int × (Int × (Int × Int)))) → (List api_Event) → (List (Int × (Int × Int))) → (List (List UInt8 × Int)) → (List (Int × (Int × (Int × Int)))) → (List api_Event) → (List (Int × (Int × Int))) → Option β) (k1 : made_Dice_Record_p5_K1 β) (i_ : Int) (d : List Int) (d2 : Int) (times : List Int) (b4_ : List (List UInt8 × Int)) (b5_ : List (Int × (Int × (Int × Int)))) (b6_ : List api_Event) (b7_ : List (Int × (Int × Int))) (b8_ : List (List UInt8 × Int)) (b9_ : List (Int × (Int × (Int × Int)))) (b10_ : List api_Event) (b11_ : List (Int × (Int × Int))) : Option β :=
  cond (decide ((0 : Int) < i_))
  (cond (decide ((1 : Int) < (List.length times : Int)))
  (c_made_Dice_Next (List.length times : Int) (d, d2) (fun (rNext : Int) (mrNext : (List Int × Int)) =>
  c_made_Dice_Next (List.length times : Int) mrNext (fun (rNext2 : Int) (mrNext2 : (List Int × Int)) =>
  cond (!decide (rNext = rNext2))
  (cond (decide (0 ≤ rNext) && decide (rNext < (List.length times : Int)))
  (cond (decide (0 ≤ rNext2) && decide (rNext2 < (List.length times : Int)))
  (p4 (fun (i_2 : Int) (d3 : List Int) (d4 : Int) (times2 : List Int) (b4_2 : List (List UInt8 × Int)) (b5_2 : List (Int × (Int × (Int × Int)))) (b6_2 : List api_Event) (b7_2 : List (Int × (Int × Int))) (b8_2 : List (List UInt8 × Int)) (b9_2 : List (Int × (Int × (Int × Int)))) (b10_2 : List api_Event) (b11_2 : List (Int × (Int × Int))) =>
  let i_3 : Int := (IntKind.i64.wrap (i_2 - (1 : Int)));
  rec i_3 d3 d4 times2 b4_2 b5_2 b6_2 b7_2 b8_2 b9_2 b10_2 b11_2) i_ rNext rNext2 (decide ((List.getD times (Int.toNat rNext) (0 : Int)) ≤ (List.getD times (Int.toNat rNext2) (0 : Int)))) mrNext2.1 mrNext2.2 times b4_ b5_ b6_ b7_ b8_ b9_ b10_ b11_)
  none)
  none)
  (p4 (fun (i_2 : Int) (d3 : List Int) (d4 : Int) (times2 : List Int) (b4_2 : List (List UInt8 × Int)) (b5_2 : List (Int × (Int × (Int × Int)))) (b6_2 : List api_Event) (b7_2 : List (Int × (Int × Int))) (b8_2 : List (List UInt8 × Int)) (b9_2 : List (Int × (Int × (Int × Int)))) (b10_2 : List api_Event) (b11_2 : List (Int × (Int × Int))) =>
  let i_3 : Int := (IntKind.i64.wrap (i_2 - (1 : Int)));
  rec i_3 d3 d4 times2 b4_2 b5_2 b6_2 b7_2 b8_2 b9_2 b10_2 b11_2) i_ rNext rNext2 false mrNext2.1 mrNext2.2 times b4_ b5_ b6_ b7_ b8_ b9_ b10_ b11_))))
  (k1 d d2 times b4_ b5_ b6_ b7_ b8_ b9_ b10_ b11_))
  (k1 d d2 times b4_ b5_ b6_ b7_ b8_ b9_ b10_ b11_)
def made_Dice_Record_p5_l (p4 : made_Dice_Record_p4_T) {β : Type} : Nat → made_Dice_Record_p5_K1 β → Int → (List Int) → Int → (List Int) → (List (List UInt8 × Int)) → (List (Int × (Int × (Int × Int)))) → (List api_Event) → (List (Int × (Int × Int))) → (List (List UInt8 × Int)) → (List (Int × (Int × (Int × Int)))) → (List api_Event) → (List (Int × (Int × Int))) → Option β
  | 0 => fun _ _ _ _ _ _ _ _ _ _ _ _ _ => none
  | i + 1 => fun k1 i_ d d2 times b4_ b5_ b6_ b7_ b8_ b9_ b10_ b11_ => made_Dice_Record_p5_s c_made_Dice_Next p4 (made_Dice_Record_p5_l p4 i k1) k1 i_ d d2 times b4_ b5_ b6_ b7_ b8_ b9_ b10_ b11_
theorem made_Dice_Record_p5_ok' (hΓ : ΓOk Try.prog (made_Dice_Record_X c_made_Dice_Next c_made_Dice_One).Γ) (p4 : made_Dice_Record_p4_T) (hp4 : PieceOk Try.prog 177 1 made_Dice_Record_p4_code made_Dice_Record_p4_v made_Dice_Record_p4_o (made_Dice_Record_p4_G p4)) (i : Nat) : PieceOk Try.prog 177 1 made_Dice_Record_p5_code made_Dice_Record_p5_v made_Dice_Record_p5_o (made_Dice_Record_p5_G (made_Dice_Record_p5_l c_made_Dice_Next p4 i)) := by
  rw [show made_Dice_Record_p5_code = .loop (loopBody made_Dice_Record_p5_code) by kernel_rfl]
  exact piece_loop (X := (made_Dice_Record_X c_made_Dice_Next c_made_Dice_One)) (p := 1) (Λ := pick1 [(51, pieceCut made_Dice_Record_p4_v made_Dice_Record_p4_o (made_Dice_Record_p4_G p4))]) (G := fun i => @fun β d ks => made_Dice_Record_p5_G (made_Dice_Record_p5_l c_made_Dice_Next p4 i) d ks) mixed tab_ok hΓ rfl (by kernel_rfl) (CutsOk_cons (q := 51) (c' := made_Dice_Record_p4_code) (by kernel_rfl) rfl hp4 CutsOk_nil) (fun _ _ => rfl) (fun i => @fun β d ks r h => Eq.trans (b := made_Dice_Record_p5_G (made_Dice_Record_p5_l c_made_Dice_Next p4 (i + 1)) d ks) (by kernel_rfl) h) i
def made_Dice_Record_s (p1 : made_Dice_Record_p1_T) (p2 : made_Dice_Record_p2_T) (p3 : made_Dice_Record_p3_T) (p5 : made_Dice_Record_p5_T) {β : Type} (n : Int) (d : (List Int × Int)) (k : (api_Record → (List Int × Int) → (List Int) → Option β)) : Option β :=
  c_made_Dice_Next (3 : Int) d (fun (rNext : Int) (mrNext : (List Int × Int)) =>
  let i_ : Int := (IntKind.i64.wrap ((1 : Int) + rNext));
  p1 (fun (n2 : Int) (d2 : List Int) (d3 : Int) (ahead : List Int) (b4_ : List (List UInt8 × Int)) (b5_ : List (Int × (Int × (Int × Int)))) (b6_ : List api_Event) (b7_ : List (Int × (Int × Int))) (b8_ : List (List UInt8 × Int)) (b9_ : List (Int × (Int × (Int × Int)))) (b10_ : List api_Event) (b11_ : List (Int × (Int × Int))) =>
  c_made_Dice_Next (5 : Int) (d2, d3) (fun (rNext2 : Int) (mrNext2 : (List Int × Int)) =>
  p2 (fun (n3 : Int) (d4 : List Int) (d5 : Int) (ahead2 : List Int) (b4_2 : List (List UInt8 × Int)) (b5_2 : List (Int × (Int × (Int × Int)))) (b6_2 : List api_Event) (b7_2 : List (Int × (Int × Int))) (b8_2 : List (List UInt8 × Int)) (b9_2 : List (Int × (Int × (Int × Int)))) (b10_2 : List api_Event) (b11_2 : List (Int × (Int × Int))) =>
  c_made_Dice_Next (IntKind.i64.wrap (n3 + (1 : Int))) (d4, d5) (fun (rNext3 : Int) (mrNext3 : (List Int × Int)) =>
  p3 (fun (d6 : List Int) (d7 : Int) (times : List Int) (b4_3 : List (List UInt8 × Int)) (b5_3 : List (Int × (Int × (Int × Int)))) (b6_3 : List api_Event) (b7_3 : List (Int × (Int × Int))) (b8_3 : List (List UInt8 × Int)) (b9_3 : List (Int × (Int × (Int × Int)))) (b10_3 : List api_Event) (b11_3 : List (Int × (Int × Int))) =>
  c_made_Dice_Next (4 : Int) (d6, d7) (fun (rNext4 : Int) (mrNext4 : (List Int × Int)) =>
  p5 (fun (b0_ : List Int) (b0_2 : Int) (times2 : List Int) (b4_4 : List (List UInt8 × Int)) (b5_4 : List (Int × (Int × (Int × Int)))) (b6_4 : List api_Event) (b7_4 : List (Int × (Int × Int))) (b8_4 : List (List UInt8 × Int)) (b9_4 : List (Int × (Int × (Int × Int)))) (b10_4 : List api_Event) (b11_4 : List (Int × (Int × Int))) =>
  k (b8_4, (b9_4, (b10_4, b11_4))) (b0_, b0_2) times2) rNext4 mrNext4.1 mrNext4.2 times b4_3 b5_3 b6_3 b7_3 b8_3 b9_3 b10_3 b11_3)) rNext3 mrNext3.1 mrNext3.2 ahead2 ([] : List Int) b4_2 b5_2 b6_2 b7_2 b8_2 b9_2 b10_2 b11_2)) n2 rNext2 mrNext2.1 mrNext2.2 ahead b4_ b5_ b6_ b7_ b8_ b9_ b10_ b11_)) n i_ mrNext.1 mrNext.2 ([] : List Int) ([] : List (List UInt8 × Int)) ([] : List (Int × (Int × (Int × Int)))) ([] : List api_Event) ([] : List (Int × (Int × Int))) ([] : List (List UInt8 × Int)) ([] : List (Int × (Int × (Int × Int)))) ([] : List api_Event) ([] : List (Int × (Int × Int))))
theorem made_Dice_Record_ok' (hΓ : ΓOk Try.prog (made_Dice_Record_X c_made_Dice_Next c_made_Dice_One).Γ) (p1 : made_Dice_Record_p1_T) (p2 : made_Dice_Record_p2_T) (p3 : made_Dice_Record_p3_T) (p5 : made_Dice_Record_p5_T) (hp1 : PieceOk Try.prog 177 1 made_Dice_Record_p1_code made_Dice_Record_p1_v made_Dice_Record_p1_o (made_Dice_Record_p1_G p1)) (hp2 : PieceOk Try.prog 177 1 made_Dice_Record_p2_code made_Dice_Record_p2_v made_Dice_Record_p2_o (made_Dice_Record_p2_G p2)) (hp3 : PieceOk Try.prog 177 1 made_Dice_Record_p3_code made_Dice_Record_p3_v made_Dice_Record_p3_o (made_Dice_Record_p3_G p3)) (hp5 : PieceOk Try.prog 177 1 made_Dice_Record_p5_code made_Dice_Record_p5_v made_Dice_Record_p5_o (made_Dice_Record_p5_G p5)) : SpecOk Try.prog 25 (made_Dice_Record_S (made_Dice_Record_s c_made_Dice_Next p1 p2 p3 p5)) :=
  spec_exec (X := (made_Dice_Record_X c_made_Dice_Next c_made_Dice_One)) (Λ := pick1 [(122, pieceCut made_Dice_Record_p1_v made_Dice_Record_p1_o (made_Dice_Record_p1_G p1)), (250, pieceCut made_Dice_Record_p2_v made_Dice_Record_p2_o (made_Dice_Record_p2_G p2)), (1018, pieceCut made_Dice_Record_p3_v made_Dice_Record_p3_o (made_Dice_Record_p3_G p3)), (2042, pieceCut made_Dice_Record_p5_v made_Dice_Record_p5_o (made_Dice_Record_p5_G p5))]) (rs := [.cell 4 41, .tmp 5]) (c := bodyOf Try.f25) mixed tab_ok hΓ Try.func25 (by kernel_rfl) (by kernel_rfl) (by kernel_rfl) (by kernel_rfl) (CutsOk_cons (q := 122) (c' := made_Dice_Record_p1_code) (by kernel_rfl) rfl hp1 (CutsOk_cons (q := 250) (c' := made_Dice_Record_p2_code) (by kernel_rfl) rfl hp2 (CutsOk_cons (q := 1018) (c' := made_Dice_Record_p3_code) (by kernel_rfl) rfl hp3 (CutsOk_cons (q := 2042) (c' := made_Dice_Record_p5_code) (by kernel_rfl) rfl hp5 CutsOk_nil)))) (fun x k r h => Eq.trans (b := (made_Dice_Record_S (made_Dice_Record_s c_made_Dice_Next p1 p2 p3 p5)).run x k) (by kernel_rfl) h)
end
theorem made_Dice_Record_Γ : ΓOk Try.prog (pick1 [(20, .spec (made_Dice_Next_S made_Dice_Next)), (19, .spec (made_Dice_One_S made_Dice_One))]) := (ΓOk_cons made_Dice_Next_ok (ΓOk_cons made_Dice_One_ok ΓOk_nil))
def made_Dice_Record_p1_n (m : Nat) : made_Dice_Record_p1_T := made_Dice_Record_p1_l made_Dice_One m
theorem made_Dice_Record_p1_step {β : Type} (i : Nat) (k1 n i_ d d2 ahead b4_ b5_ b6_ b7_ b8_ b9_ b10_ b11_) : (made_Dice_Record_p1_n (i + 1) k1 n i_ d d2 ahead b4_ b5_ b6_ b7_ b8_ b9_ b10_ b11_ : Option β) = made_Dice_Record_p1_s made_Dice_One (made_Dice_Record_p1_n i k1) k1 n i_ d d2 ahead b4_ b5_ b6_ b7_ b8_ b9_ b10_ b11_ := rfl
def made_Dice_Record_p1 : made_Dice_Record_p1_T := made_Dice_Record_p1_n fuel
theorem made_Dice_Record_p1_ok : PieceOk Try.prog 177 1 made_Dice_Record_p1_code made_Dice_Record_p1_v made_Dice_Record_p1_o (made_Dice_Record_p1_G made_Dice_Record_p1) := made_Dice_Record_p1_ok' made_Dice_Next made_Dice_One made_Dice_Record_Γ fuel
def made_Dice_Record_p2_n (m : Nat) : made_Dice_Record_p2_T := made_Dice_Record_p2_l made_Dice_Next made_Dice_One m
theorem made_Dice_Record_p2_step {β : Type} (i : Nat) (k1 n i_ d d2 ahead b4_ b5_ b6_ b7_ b8_ b9_ b10_ b11_) : (made_Dice_Record_p2_n (i + 1) k1 n i_ d d2 ahead b4_ b5_ b6_ b7_ b8_ b9_ b10_ b11_ : Option β) = made_Dice_Record_p2_s made_Dice_Next made_Dice_One (made_Dice_Record_p2_n i k1) k1 n i_ d d2 ahead b4_ b5_ b6_ b7_ b8_ b9_ b10_ b11_ := rfl
def made_Dice_Record_p2 : made_Dice_Record_p2_T := made_Dice_Record_p2_n fuel
theorem made_Dice_Record_p2_ok : PieceOk Try.prog 177 1 made_Dice_Record_p2_code made_Dice_Record_p2_v made_Dice_Record_p2_o (made_Dice_Record_p2_G made_Dice_Record_p2) := made_Dice_Record_p2_ok' made_Dice_Next made_Dice_One made_Dice_Record_Γ fuel
def made_Dice_Record_p3_n (m : Nat) : made_Dice_Record_p3_T := made_Dice_Record_p3_l made_Dice_Next m
theorem made_Dice_Record_p3_step {β : Type} (i : Nat) (k1 i_ d d2 ahead times b5_ b6_ b7_ b8_ b9_ b10_ b11_ b12_) : (made_Dice_Record_p3_n (i + 1) k1 i_ d d2 ahead times b5_ b6_ b7_ b8_ b9_ b10_ b11_ b12_ : Option β) = made_Dice_Record_p3_s made_Dice_Next (made_Dice_Record_p3_n i k1) k1 i_ d d2 ahead times b5_ b6_ b7_ b8_ b9_ b10_ b11_ b12_ := rfl
def made_Dice_Record_p3 : made_Dice_Record_p3_T := made_Dice_Record_p3_n fuel
theorem made_Dice_Record_p3_ok : PieceOk Try.prog 177 1 made_Dice_Record_p3_code made_Dice_Record_p3_v made_Dice_Record_p3_o (made_Dice_Record_p3_G made_Dice_Record_p3) := made_Dice_Record_p3_ok' made_Dice_Next made_Dice_One made_Dice_Record_Γ fuel
def made_Dice_Record_p4 : made_Dice_Record_p4_T := made_Dice_Record_p4_u made_Dice_Next
theorem made_Dice_Record_p4_ok : PieceOk Try.prog 177 1 made_Dice_Record_p4_code made_Dice_Record_p4_v made_Dice_Record_p4_o (made_Dice_Record_p4_G made_Dice_Record_p4) := made_Dice_Record_p4_ok' made_Dice_Next made_Dice_One made_Dice_Record_Γ
def made_Dice_Record_p5_n (m : Nat) : made_Dice_Record_p5_T := made_Dice_Record_p5_l made_Dice_Next made_Dice_Record_p4 m
theorem made_Dice_Record_p5_step {β : Type} (i : Nat) (k1 i_ d d2 times b4_ b5_ b6_ b7_ b8_ b9_ b10_ b11_) : (made_Dice_Record_p5_n (i + 1) k1 i_ d d2 times b4_ b5_ b6_ b7_ b8_ b9_ b10_ b11_ : Option β) = made_Dice_Record_p5_s made_Dice_Next made_Dice_Record_p4 (made_Dice_Record_p5_n i k1) k1 i_ d d2 times b4_ b5_ b6_ b7_ b8_ b9_ b10_ b11_ := rfl
def made_Dice_Record_p5 : made_Dice_Record_p5_T := made_Dice_Record_p5_n fuel
theorem made_Dice_Record_p5_ok : PieceOk Try.prog 177 1 made_Dice_Record_p5_code made_Dice_Record_p5_v made_Dice_Record_p5_o (made_Dice_Record_p5_G made_Dice_Record_p5) := made_Dice_Record_p5_ok' made_Dice_Next made_Dice_One made_Dice_Record_Γ made_Dice_Record_p4 made_Dice_Record_p4_ok fuel
def made_Dice_Record : T_made_Dice_Record := made_Dice_Record_s made_Dice_Next made_Dice_Record_p1 made_Dice_Record_p2 made_Dice_Record_p3 made_Dice_Record_p5
theorem made_Dice_Record_ok : SpecOk Try.prog 25 (made_Dice_Record_S made_Dice_Record) := made_Dice_Record_ok' made_Dice_Next made_Dice_One made_Dice_Record_Γ made_Dice_Record_p1 made_Dice_Record_p2 made_Dice_Record_p3 made_Dice_Record_p5 made_Dice_Record_p1_ok made_Dice_Record_p2_ok made_Dice_Record_p3_ok made_Dice_Record_p5_ok

/-- pagewatch/clock.From -/
abbrev T_clock_From := {β : Type} → (List UInt8 × Int) → (Int × (Int × (Int × Int))) → Int → ((Int × Int) → Option β) → Option β
def clock_From_S (c : T_clock_From) : Spec :=
  ⟨[(true, [.data (.prod .str (.int .i64))]), (true, [.data (.prod (.int .i64) (.prod (.int .i64) (.prod (.int .i64) (.int .i64))))]), (false, [.data (.int .i64)])], [], [(true, [.data (.prod (.int .i64) (.int .i64))])], [], fun x k => c x.1.1.1 x.1.2.1.1 x.1.2.2.1.1 (fun r0 => k (((r0, ()), ()), ()))⟩
section
variable (c_clock_Elapsed : T_clock_Elapsed) (c_clock_compared : T_clock_compared) (c_clock_in : T_clock_in) (c_clock_instant : T_clock_instant)
@[reducible] def clock_From_X : Ctx := ⟨look tab, pick1 [(15, .spec (clock_Elapsed_S c_clock_Elapsed)), (53, .spec (clock_compared_S c_clock_compared)), (50, .spec (clock_in_S c_clock_in)), (51, .spec (clock_instant_S c_clock_instant))], false⟩
def clock_From_s {β : Type} (h : (List UInt8 × Int)) (s : (Int × (Int × (Int × Int)))) (clock : Int) (k : ((Int × Int) → Option β)) : Option β :=
  c_clock_in h.2 (0 : Int) (500000 : Int) (fun (rin : Bool) =>
  cond (!rin)
  (k ((-1099511627776 : Int), (1099511627776 : Int)))
  (c_clock_compared s (fun (rcompared : Bool) =>
  cond (!rcompared)
  (k ((-1099511627776 : Int), (1099511627776 : Int)))
  (c_clock_instant clock (fun (rinstant : Bool) =>
  cond (!rinstant)
  (k ((-1099511627776 : Int), (1099511627776 : Int)))
  (cond (decide (s.2.1 ≤ clock))
  (c_clock_Elapsed h.2 (IntKind.i64.wrap (clock - s.2.1)) (fun (rElapsed : Int) (rElapsed2 : Int) =>
  k ((IntKind.i64.wrap (s.2.2.1 + rElapsed)), (IntKind.i64.wrap (s.2.2.2 + rElapsed2)))))
  (c_clock_Elapsed h.2 (IntKind.i64.wrap (s.2.1 - clock)) (fun (rElapsed : Int) (rElapsed2 : Int) =>
  k ((IntKind.i64.wrap (s.2.2.1 - rElapsed2)), (IntKind.i64.wrap (s.2.2.2 - rElapsed)))))))))))
theorem clock_From_ok' (hΓ : ΓOk Try.prog (clock_From_X c_clock_Elapsed c_clock_compared c_clock_in c_clock_instant).Γ) : SpecOk Try.prog 26 (clock_From_S (clock_From_s c_clock_Elapsed c_clock_compared c_clock_in c_clock_instant)) :=
  spec_exec (X := (clock_From_X c_clock_Elapsed c_clock_compared c_clock_in c_clock_instant)) (Λ := pick1 []) (rs := [.cell 6 45]) (c := bodyOf Try.f26) mixed tab_ok hΓ Try.func26 (by kernel_rfl) (by kernel_rfl) (by kernel_rfl) (by kernel_rfl) CutsOk_nil (fun x k r h => Eq.trans (b := (clock_From_S (clock_From_s c_clock_Elapsed c_clock_compared c_clock_in c_clock_instant)).run x k) (by kernel_rfl) h)
end
theorem clock_From_Γ : ΓOk Try.prog (pick1 [(15, .spec (clock_Elapsed_S clock_Elapsed)), (53, .spec (clock_compared_S clock_compared)), (50, .spec (clock_in_S clock_in)), (51, .spec (clock_instant_S clock_instant))]) := (ΓOk_cons clock_Elapsed_ok (ΓOk_cons clock_compared_ok (ΓOk_cons clock_in_ok (ΓOk_cons clock_instant_ok ΓOk_nil))))
def clock_From : T_clock_From := clock_From_s clock_Elapsed clock_compared clock_in clock_instant
theorem clock_From_ok : SpecOk Try.prog 26 (clock_From_S clock_From) := clock_From_ok' clock_Elapsed clock_compared clock_in clock_instant clock_From_Γ

/-- pagewatch/clock.Valid -/
abbrev T_clock_Valid := {β : Type} → api_Record → (Bool → Option β) → Option β
def clock_Valid_S (c : T_clock_Valid) : Spec :=
  ⟨[(true, [.data y_api_Record])], [], [(false, [.data .bool])], [], fun x k => c x.1.1.1 (fun r0 => k (((r0, ()), ()), ()))⟩
noncomputable def clock_Valid_p1_code : Code := codeAt 58 (bodyOf Try.f29)
noncomputable def clock_Valid_p2_code : Code := codeAt 122 (bodyOf Try.f29)
noncomputable def clock_Valid_p3_code : Code := codeAt 250 (bodyOf Try.f29)
noncomputable def clock_Valid_p4_code : Code := codeAt 506 (bodyOf Try.f29)
abbrev clock_Valid_p1_K1 (β : Type) := Bool → Option β
abbrev clock_Valid_p1_K2 (β : Type) := (List (List UInt8 × Int)) → (List (Int × (Int × (Int × Int)))) → (List api_Event) → (List (Int × (Int × Int))) → Option β
abbrev clock_Valid_p1_T := {β : Type} → clock_Valid_p1_K1 β → clock_Valid_p1_K2 β → (List (List UInt8 × Int)) → Int → Int → (List (List UInt8 × Int)) → (List (Int × (Int × (Int × Int)))) → (List api_Event) → (List (Int × (Int × Int))) → Option β
def clock_Valid_p1_v : View := ⟨0, [1, 34, 35, 36], [(false, [.ptr 0 0]), (false, [.data (.slice (.prod .str (.int .i64)))]), (false, [.data (.int .i64)]), (false, [.data (.int .i64)])], [.cells 41 [.data (.slice (.prod .str (.int .i64))), .data (.slice (.prod (.int .i64) (.prod (.int .i64) (.prod (.int .i64) (.int .i64))))), .data (.slice y_api_Event), .data (.slice (.prod (.int .i64) (.prod (.int .i64) (.int .i64))))]]⟩
def clock_Valid_p1_o : List (AExit × View) := [(.ret, ⟨0, [2], [(false, [.data .bool])], []⟩), (.exit 0, ⟨0, [1], [(false, [.ptr 0 0])], [.cells 41 [.data (.slice (.prod .str (.int .i64))), .data (.slice (.prod (.int .i64) (.prod (.int .i64) (.prod (.int .i64) (.int .i64))))), .data (.slice y_api_Event), .data (.slice (.prod (.int .i64) (.prod (.int .i64) (.int .i64))))]]⟩)]
@[reducible] def clock_Valid_p1_G (p : clock_Valid_p1_T) {β : Type} (d : clock_Valid_p1_v.den) (ks : Outs.K β clock_Valid_p1_o) : Option β :=
  p (fun a0 => ks.1 (((a0, ()), ()), ())) (fun a0 a1 a2 a3 => ks.2.1 (((), ()), ((a0, a1, a2, a3, ()), ()))) d.1.2.1.1 d.1.2.2.1.1 d.1.2.2.2.1.1 d.2.1.1 d.2.1.2.1 d.2.1.2.2.1 d.2.1.2.2.2.1
abbrev clock_Valid_p2_K1 (β : Type) := Bool → Option β
abbrev clock_Valid_p2_K2 (β : Type) := (List (List UInt8 × Int)) → (List (Int × (Int × (Int × Int)))) → (List api_Event) → (List (Int × (Int × Int))) → Option β
abbrev clock_Valid_p2_T := {β : Type} → clock_Valid_p2_K1 β → clock_Valid_p2_K2 β → (List (Int × (Int × (Int × Int)))) → Int → Int → (List (List UInt8 × Int)) → (List (Int × (Int × (Int × Int)))) → (List api_Event) → (List (Int × (Int × Int))) → Option β
def clock_Valid_p2_v : View := ⟨0, [1, 46, 47, 48], [(false, [.ptr 0 0]), (false, [.data (.slice (.prod (.int .i64) (.prod (.int .i64) (.prod (.int .i64) (.int .i64)))))]), (false, [.data (.int .i64)]), (false, [.data (.int .i64)])], [.cells 41 [.data (.slice (.prod .str (.int .i64))), .data (.slice (.prod (.int .i64) (.prod (.int .i64) (.prod (.int .i64) (.int .i64))))), .data (.slice y_api_Event), .data (.slice (.prod (.int .i64) (.prod (.int .i64) (.int .i64))))]]⟩
def clock_Valid_p2_o : List (AExit × View) := [(.ret, ⟨0, [2], [(false, [.data .bool])], []⟩), (.exit 2, ⟨0, [1], [(false, [.ptr 0 0])], [.cells 41 [.data (.slice (.prod .str (.int .i64))), .data (.slice (.prod (.int .i64) (.prod (.int .i64) (.prod (.int .i64) (.int .i64))))), .data (.slice y_api_Event), .data (.slice (.prod (.int .i64) (.prod (.int .i64) (.int .i64))))]]⟩)]
@[reducible] def clock_Valid_p2_G (p : clock_Valid_p2_T) {β : Type} (d : clock_Valid_p2_v.den) (ks : Outs.K β clock_Valid_p2_o) : Option β :=
  p (fun a0 => ks.1 (((a0, ()), ()), ())) (fun a0 a1 a2 a3 => ks.2.1 (((), ()), ((a0, a1, a2, a3, ()), ()))) d.1.2.1.1 d.1.2.2.1.1 d.1.2.2.2.1.1 d.2.1.1 d.2.1.2.1 d.2.1.2.2.1 d.2.1.2.2.2.1
abbrev clock_Valid_p3_K1 (β : Type) := Bool → Option β
abbrev clock_Valid_p3_K2 (β : Type) := (List (List UInt8 × Int)) → (List (Int × (Int × (Int × Int)))) → (List api_Event) → (List (Int × (Int × Int))) → Option β
abbrev clock_Valid_p3_T := {β : Type} → clock_Valid_p3_K1 β → clock_Valid_p3_K2 β → (List api_Event) → Int → Int → (List (List UInt8 × Int)) → (List (Int × (Int × (Int × Int)))) → (List api_Event) → (List (Int × (Int × Int))) → Option β
def clock_Valid_p3_v : View := ⟨0, [1, 67, 68, 69], [(false, [.ptr 0 0]), (false, [.data (.slice y_api_Event)]), (false, [.data (.int .i64)]), (false, [.data (.int .i64)])], [.cells 41 [.data (.slice (.prod .str (.int .i64))), .data (.slice (.prod (.int .i64) (.prod (.int .i64) (.prod (.int .i64) (.int .i64))))), .data (.slice y_api_Event), .data (.slice (.prod (.int .i64) (.prod (.int .i64) (.int .i64))))]]⟩
def clock_Valid_p3_o : List (AExit × View) := [(.ret, ⟨0, [2], [(false, [.data .bool])], []⟩), (.exit 4, ⟨0, [1], [(false, [.ptr 0 0])], [.cells 41 [.data (.slice (.prod .str (.int .i64))), .data (.slice (.prod (.int .i64) (.prod (.int .i64) (.prod (.int .i64) (.int .i64))))), .data (.slice y_api_Event), .data (.slice (.prod (.int .i64) (.prod (.int .i64) (.int .i64))))]]⟩)]
@[reducible] def clock_Valid_p3_G (p : clock_Valid_p3_T) {β : Type} (d : clock_Valid_p3_v.den) (ks : Outs.K β clock_Valid_p3_o) : Option β :=
  p (fun a0 => ks.1 (((a0, ()), ()), ())) (fun a0 a1 a2 a3 => ks.2.1 (((), ()), ((a0, a1, a2, a3, ()), ()))) d.1.2.1.1 d.1.2.2.1.1 d.1.2.2.2.1.1 d.2.1.1 d.2.1.2.1 d.2.1.2.2.1 d.2.1.2.2.2.1
abbrev clock_Valid_p4_K1 (β : Type) := Bool → Option β
abbrev clock_Valid_p4_K2 (β : Type) := Unit → Option β
abbrev clock_Valid_p4_T := {β : Type} → clock_Valid_p4_K1 β → clock_Valid_p4_K2 β → (List (Int × (Int × Int))) → Int → Int → (List (List UInt8 × Int)) → (List (Int × (Int × (Int × Int)))) → (List api_Event) → (List (Int × (Int × Int))) → Option β
def clock_Valid_p4_v : View := ⟨0, [1, 89, 90, 91], [(false, [.ptr 0 0]), (false, [.data (.slice (.prod (.int .i64) (.prod (.int .i64) (.int .i64))))]), (false, [.data (.int .i64)]), (false, [.data (.int .i64)])], [.cells 41 [.data (.slice (.prod .str (.int .i64))), .data (.slice (.prod (.int .i64) (.prod (.int .i64) (.prod (.int .i64) (.int .i64))))), .data (.slice y_api_Event), .data (.slice (.prod (.int .i64) (.prod (.int .i64) (.int .i64))))]]⟩
def clock_Valid_p4_o : List (AExit × View) := [(.ret, ⟨0, [2], [(false, [.data .bool])], []⟩), (.exit 6, ⟨0, [], [], []⟩)]
@[reducible] def clock_Valid_p4_G (p : clock_Valid_p4_T) {β : Type} (d : clock_Valid_p4_v.den) (ks : Outs.K β clock_Valid_p4_o) : Option β :=
  p (fun a0 => ks.1 (((a0, ()), ()), ())) (fun _ => ks.2.1 ((), ())) d.1.2.1.1 d.1.2.2.1.1 d.1.2.2.2.1.1 d.2.1.1 d.2.1.2.1 d.2.1.2.2.1 d.2.1.2.2.2.1
section
variable (c_clock_compared : T_clock_compared) (c_clock_in : T_clock_in) (c_clock_instant : T_clock_instant)
@[reducible] def clock_Valid_X : Ctx := ⟨look tab, pick1 [(53, .spec (clock_compared_S c_clock_compared)), (50, .spec (clock_in_S c_clock_in)), (51, .spec (clock_instant_S c_clock_instant))], false⟩
def clock_Valid_p1_s {β : Type} (rec : (List (List UInt8 × Int)) → Int → Int → (List (List UInt8 × Int)) → (List (Int × (Int × (Int × Int)))) → (List api_Event) → (List (Int × (Int × Int))) → Option β) (k1 : clock_Valid_p1_K1 β) (k2 : clock_Valid_p1_K2 β) (t34 : List (List UInt8 × Int)) (t35 : Int) (t36 : Int) (r_ : List (List UInt8 × Int)) (r_2 : List (Int × (Int × (Int × Int)))) (r_3 : List api_Event) (r_4 : List (Int × (Int × Int))) : Option β :=
  cond (decide (t36 < t35))
  (cond (decide (0 ≤ t36) && decide (t36 < (List.length t34 : Int)))
  (let e : (List UInt8 × Int) := List.getD t34 (Int.toNat t36) (([] : List UInt8), (0 : Int));
  c_clock_in e.2 (0 : Int) (500000 : Int) (fun (rin : Bool) =>
  cond (!rin)
  (k1 false)
  (rec t34 t35 (IntKind.i64.wrap (t36 + (1 : Int))) r_ r_2 r_3 r_4)))
  none)
  (k2 r_ r_2 r_3 r_4)
def clock_Valid_p1_l {β : Type} : Nat → clock_Valid_p1_K1 β → clock_Valid_p1_K2 β → (List (List UInt8 × Int)) → Int → Int → (List (List UInt8 × Int)) → (List (Int × (Int × (Int × Int)))) → (List api_Event) → (List (Int × (Int × Int))) → Option β
  | 0 => fun _ _ _ _ _ _ _ _ _ => none
  | i + 1 => fun k1 k2 t34 t35 t36 r_ r_2 r_3 r_4 => clock_Valid_p1_s c_clock_in (clock_Valid_p1_l i k1 k2) k1 k2 t34 t35 t36 r_ r_2 r_3 r_4
theorem clock_Valid_p1_ok' (hΓ : ΓOk Try.prog (clock_Valid_X c_clock_compared c_clock_in c_clock_instant).Γ) (i : Nat) : PieceOk Try.prog 127 0 clock_Valid_p1_code clock_Valid_p1_v clock_Valid_p1_o (clock_Valid_p1_G (clock_Valid_p1_l c_clock_in i)) := by
  rw [show clock_Valid_p1_code = .loop (loopBody clock_Valid_p1_code) by kernel_rfl]
  exact piece_loop (X := (clock_Valid_X c_clock_compared c_clock_in c_clock_instant)) (p := 1) (Λ := pick1 []) (G := fun i => @fun β d ks => clock_Valid_p1_G (clock_Valid_p1_l c_clock_in i) d ks) mixed tab_ok hΓ rfl (by kernel_rfl) CutsOk_nil (fun _ _ => rfl) (fun i => @fun β d ks r h => Eq.trans (b := clock_Valid_p1_G (clock_Valid_p1_l c_clock_in (i + 1)) d ks) (by kernel_rfl) h) i
def clock_Valid_p2_s {β : Type} (rec : (List (Int × (Int × (Int × Int)))) → Int → Int → (List (List UInt8 × Int)) → (List (Int × (Int × (Int × Int)))) → (List api_Event) → (List (Int × (Int × Int))) → Option β) (k1 : clock_Valid_p2_K1 β) (k2 : clock_Valid_p2_K2 β) (t46 : List (Int × (Int × (Int × Int)))) (t47 : Int) (t48 : Int) (r_ : List (List UInt8 × Int)) (r_2 : List (Int × (Int × (Int × Int)))) (r_3 : List api_Event) (r_4 : List (Int × (Int × Int))) : Option β :=
  cond (decide (t48 < t47))
  (cond (decide (0 ≤ t48) && decide (t48 < (List.length t46 : Int)))
  (let e : (Int × (Int × (Int × Int))) := List.getD t46 (Int.toNat t48) ((0 : Int), ((0 : Int), ((0 : Int), (0 : Int))));
  c_clock_in e.1 (0 : Int) (IntKind.i64.wrap ((List.length r_ : Int) - (1 : Int))) (fun (rin : Bool) =>
  cond (!rin)
  (k1 false)
  (c_clock_compared e (fun (rcompared : Bool) =>
  cond (!rcompared)
  (k1 false)
  (rec t46 t47 (IntKind.i64.wrap (t48 + (1 : Int))) r_ r_2 r_3 r_4)))))
  none)
  (k2 r_ r_2 r_3 r_4)
def clock_Valid_p2_l {β : Type} : Nat → clock_Valid_p2_K1 β → clock_Valid_p2_K2 β → (List (Int × (Int × (Int × Int)))) → Int → Int → (List (List UInt8 × Int)) → (List (Int × (Int × (Int × Int)))) → (List api_Event) → (List (Int × (Int × Int))) → Option β
  | 0 => fun _ _ _ _ _ _ _ _ _ => none
  | i + 1 => fun k1 k2 t46 t47 t48 r_ r_2 r_3 r_4 => clock_Valid_p2_s c_clock_compared c_clock_in (clock_Valid_p2_l i k1 k2) k1 k2 t46 t47 t48 r_ r_2 r_3 r_4
theorem clock_Valid_p2_ok' (hΓ : ΓOk Try.prog (clock_Valid_X c_clock_compared c_clock_in c_clock_instant).Γ) (i : Nat) : PieceOk Try.prog 127 0 clock_Valid_p2_code clock_Valid_p2_v clock_Valid_p2_o (clock_Valid_p2_G (clock_Valid_p2_l c_clock_compared c_clock_in i)) := by
  rw [show clock_Valid_p2_code = .loop (loopBody clock_Valid_p2_code) by kernel_rfl]
  exact piece_loop (X := (clock_Valid_X c_clock_compared c_clock_in c_clock_instant)) (p := 1) (Λ := pick1 []) (G := fun i => @fun β d ks => clock_Valid_p2_G (clock_Valid_p2_l c_clock_compared c_clock_in i) d ks) mixed tab_ok hΓ rfl (by kernel_rfl) CutsOk_nil (fun _ _ => rfl) (fun i => @fun β d ks r h => Eq.trans (b := clock_Valid_p2_G (clock_Valid_p2_l c_clock_compared c_clock_in (i + 1)) d ks) (by kernel_rfl) h) i
def clock_Valid_p3_s {β : Type} (rec : (List api_Event) → Int → Int → (List (List UInt8 × Int)) → (List (Int × (Int × (Int × Int)))) → (List api_Event) → (List (Int × (Int × Int))) → Option β) (k1 : clock_Valid_p3_K1 β) (k2 : clock_Valid_p3_K2 β) (t67 : List api_Event) (t68 : Int) (t69 : Int) (r_ : List (List UInt8 × Int)) (r_2 : List (Int × (Int × (Int × Int)))) (r_3 : List api_Event) (r_4 : List (Int × (Int × Int))) : Option β :=
  cond (decide (t69 < t68))
  (cond (decide (0 ≤ t69) && decide (t69 < (List.length t67 : Int)))
  (let e : api_Event := List.getD t67 (Int.toNat t69) ((0 : Int), ((0 : Int), ([] : List UInt8)));
  c_clock_in e.1 (0 : Int) (IntKind.i64.wrap ((List.length r_ : Int) - (1 : Int))) (fun (rin : Bool) =>
  cond (!rin)
  (k1 false)
  (c_clock_instant e.2.1 (fun (rinstant : Bool) =>
  cond (!rinstant)
  (k1 false)
  (rec t67 t68 (IntKind.i64.wrap (t69 + (1 : Int))) r_ r_2 r_3 r_4)))))
  none)
  (k2 r_ r_2 r_3 r_4)
def clock_Valid_p3_l {β : Type} : Nat → clock_Valid_p3_K1 β → clock_Valid_p3_K2 β → (List api_Event) → Int → Int → (List (List UInt8 × Int)) → (List (Int × (Int × (Int × Int)))) → (List api_Event) → (List (Int × (Int × Int))) → Option β
  | 0 => fun _ _ _ _ _ _ _ _ _ => none
  | i + 1 => fun k1 k2 t67 t68 t69 r_ r_2 r_3 r_4 => clock_Valid_p3_s c_clock_in c_clock_instant (clock_Valid_p3_l i k1 k2) k1 k2 t67 t68 t69 r_ r_2 r_3 r_4
theorem clock_Valid_p3_ok' (hΓ : ΓOk Try.prog (clock_Valid_X c_clock_compared c_clock_in c_clock_instant).Γ) (i : Nat) : PieceOk Try.prog 127 0 clock_Valid_p3_code clock_Valid_p3_v clock_Valid_p3_o (clock_Valid_p3_G (clock_Valid_p3_l c_clock_in c_clock_instant i)) := by
  rw [show clock_Valid_p3_code = .loop (loopBody clock_Valid_p3_code) by kernel_rfl]
  exact piece_loop (X := (clock_Valid_X c_clock_compared c_clock_in c_clock_instant)) (p := 1) (Λ := pick1 []) (G := fun i => @fun β d ks => clock_Valid_p3_G (clock_Valid_p3_l c_clock_in c_clock_instant i) d ks) mixed tab_ok hΓ rfl (by kernel_rfl) CutsOk_nil (fun _ _ => rfl) (fun i => @fun β d ks r h => Eq.trans (b := clock_Valid_p3_G (clock_Valid_p3_l c_clock_in c_clock_instant (i + 1)) d ks) (by kernel_rfl) h) i
def clock_Valid_p4_s {β : Type} (rec : (List (Int × (Int × Int))) → Int → Int → (List (List UInt8 × Int)) → (List (Int × (Int × (Int × Int)))) → (List api_Event) → (List (Int × (Int × Int))) → Option β) (k1 : clock_Valid_p4_K1 β) (k2 : clock_Valid_p4_K2 β) (t89 : List (Int × (Int × Int))) (t90 : Int) (t91 : Int) (r_ : List (List UInt8 × Int)) (r_2 : List (Int × (Int × (Int × Int)))) (r_3 : List api_Event) (r_4 : List (Int × (Int × Int))) : Option β :=
  cond (decide (t91 < t90))
  (cond (decide (0 ≤ t91) && decide (t91 < (List.length t89 : Int)))
  (let e : (Int × (Int × Int)) := List.getD t89 (Int.toNat t91) ((0 : Int), ((0 : Int), (0 : Int)));
  c_clock_in e.1 (0 : Int) (IntKind.i64.wrap ((List.length r_3 : Int) - (1 : Int))) (fun (rin : Bool) =>
  cond (!rin)
  (k1 false)
  (c_clock_in e.2.1 (0 : Int) (IntKind.i64.wrap ((List.length r_3 : Int) - (1 : Int))) (fun (rin2 : Bool) =>
  cond (!rin2)
  (k1 false)
  (cond (decide (e.1 = e.2.1))
  (k1 false)
  (c_clock_instant e.2.2 (fun (rinstant : Bool) =>
  cond (!rinstant)
  (k1 false)
  (rec t89 t90 (IntKind.i64.wrap (t91 + (1 : Int))) r_ r_2 r_3 r_4))))))))
  none)
  (k2 ())
def clock_Valid_p4_l {β : Type} : Nat → clock_Valid_p4_K1 β → clock_Valid_p4_K2 β → (List (Int × (Int × Int))) → Int → Int → (List (List UInt8 × Int)) → (List (Int × (Int × (Int × Int)))) → (List api_Event) → (List (Int × (Int × Int))) → Option β
  | 0 => fun _ _ _ _ _ _ _ _ _ => none
  | i + 1 => fun k1 k2 t89 t90 t91 r_ r_2 r_3 r_4 => clock_Valid_p4_s c_clock_in c_clock_instant (clock_Valid_p4_l i k1 k2) k1 k2 t89 t90 t91 r_ r_2 r_3 r_4
theorem clock_Valid_p4_ok' (hΓ : ΓOk Try.prog (clock_Valid_X c_clock_compared c_clock_in c_clock_instant).Γ) (i : Nat) : PieceOk Try.prog 127 0 clock_Valid_p4_code clock_Valid_p4_v clock_Valid_p4_o (clock_Valid_p4_G (clock_Valid_p4_l c_clock_in c_clock_instant i)) := by
  rw [show clock_Valid_p4_code = .loop (loopBody clock_Valid_p4_code) by kernel_rfl]
  exact piece_loop (X := (clock_Valid_X c_clock_compared c_clock_in c_clock_instant)) (p := 1) (Λ := pick1 []) (G := fun i => @fun β d ks => clock_Valid_p4_G (clock_Valid_p4_l c_clock_in c_clock_instant i) d ks) mixed tab_ok hΓ rfl (by kernel_rfl) CutsOk_nil (fun _ _ => rfl) (fun i => @fun β d ks r h => Eq.trans (b := clock_Valid_p4_G (clock_Valid_p4_l c_clock_in c_clock_instant (i + 1)) d ks) (by kernel_rfl) h) i
def clock_Valid_s (p1 : clock_Valid_p1_T) (p2 : clock_Valid_p2_T) (p3 : clock_Valid_p3_T) (p4 : clock_Valid_p4_T) {β : Type} (r_ : api_Record) (k : (Bool → Option β)) : Option β :=
  cond (decide ((8 : Int) < (List.length r_.1 : Int)))
  (k false)
  (cond (decide ((64 : Int) < (List.length r_.2.1 : Int)))
  (k false)
  (cond (decide ((40 : Int) < (List.length r_.2.2.1 : Int)))
  (k false)
  (cond (decide ((64 : Int) < (List.length r_.2.2.2 : Int)))
  (k false)
  (p1 (fun (t2 : Bool) =>
  k t2) (fun (r_2 : List (List UInt8 × Int)) (r_3 : List (Int × (Int × (Int × Int)))) (r_4 : List api_Event) (r_5 : List (Int × (Int × Int))) =>
  p2 (fun (t2 : Bool) =>
  k t2) (fun (r_6 : List (List UInt8 × Int)) (r_7 : List (Int × (Int × (Int × Int)))) (r_8 : List api_Event) (r_9 : List (Int × (Int × Int))) =>
  p3 (fun (t2 : Bool) =>
  k t2) (fun (r_10 : List (List UInt8 × Int)) (r_11 : List (Int × (Int × (Int × Int)))) (r_12 : List api_Event) (r_13 : List (Int × (Int × Int))) =>
  p4 (fun (t2 : Bool) =>
  k t2) (fun (_ : Unit) =>
  k true) r_13 (List.length r_13 : Int) (0 : Int) r_10 r_11 r_12 r_13) r_8 (List.length r_8 : Int) (0 : Int) r_6 r_7 r_8 r_9) r_3 (List.length r_3 : Int) (0 : Int) r_2 r_3 r_4 r_5) r_.1 (List.length r_.1 : Int) (0 : Int) r_.1 r_.2.1 r_.2.2.1 r_.2.2.2))))
theorem clock_Valid_ok' (hΓ : ΓOk Try.prog (clock_Valid_X c_clock_compared c_clock_in c_clock_instant).Γ) (p1 : clock_Valid_p1_T) (p2 : clock_Valid_p2_T) (p3 : clock_Valid_p3_T) (p4 : clock_Valid_p4_T) (hp1 : PieceOk Try.prog 127 0 clock_Valid_p1_code clock_Valid_p1_v clock_Valid_p1_o (clock_Valid_p1_G p1)) (hp2 : PieceOk Try.prog 127 0 clock_Valid_p2_code clock_Valid_p2_v clock_Valid_p2_o (clock_Valid_p2_G p2)) (hp3 : PieceOk Try.prog 127 0 clock_Valid_p3_code clock_Valid_p3_v clock_Valid_p3_o (clock_Valid_p3_G p3)) (hp4 : PieceOk Try.prog 127 0 clock_Valid_p4_code clock_Valid_p4_v clock_Valid_p4_o (clock_Valid_p4_G p4)) : SpecOk Try.prog 29 (clock_Valid_S (clock_Valid_s p1 p2 p3 p4)) :=
  spec_exec (X := (clock_Valid_X c_clock_compared c_clock_in c_clock_instant)) (Λ := pick1 [(58, pieceCut clock_Valid_p1_v clock_Valid_p1_o (clock_Valid_p1_G p1)), (122, pieceCut clock_Valid_p2_v clock_Valid_p2_o (clock_Valid_p2_G p2)), (250, pieceCut clock_Valid_p3_v clock_Valid_p3_o (clock_Valid_p3_G p3)), (506, pieceCut clock_Valid_p4_v clock_Valid_p4_o (clock_Valid_p4_G p4))]) (rs := [.tmp 2]) (c := bodyOf Try.f29) mixed tab_ok hΓ Try.func29 (by kernel_rfl) (by kernel_rfl) (by kernel_rfl) (by kernel_rfl) (CutsOk_cons (q := 58) (c' := clock_Valid_p1_code) (by kernel_rfl) rfl hp1 (CutsOk_cons (q := 122) (c' := clock_Valid_p2_code) (by kernel_rfl) rfl hp2 (CutsOk_cons (q := 250) (c' := clock_Valid_p3_code) (by kernel_rfl) rfl hp3 (CutsOk_cons (q := 506) (c' := clock_Valid_p4_code) (by kernel_rfl) rfl hp4 CutsOk_nil)))) (fun x k r h => Eq.trans (b := (clock_Valid_S (clock_Valid_s p1 p2 p3 p4)).run x k) (by kernel_rfl) h)
end
theorem clock_Valid_Γ : ΓOk Try.prog (pick1 [(53, .spec (clock_compared_S clock_compared)), (50, .spec (clock_in_S clock_in)), (51, .spec (clock_instant_S clock_instant))]) := (ΓOk_cons clock_compared_ok (ΓOk_cons clock_in_ok (ΓOk_cons clock_instant_ok ΓOk_nil)))
def clock_Valid_p1_n (m : Nat) : clock_Valid_p1_T := clock_Valid_p1_l clock_in m
theorem clock_Valid_p1_step {β : Type} (i : Nat) (k1 k2 t34 t35 t36 r_ r_2 r_3 r_4) : (clock_Valid_p1_n (i + 1) k1 k2 t34 t35 t36 r_ r_2 r_3 r_4 : Option β) = clock_Valid_p1_s clock_in (clock_Valid_p1_n i k1 k2) k1 k2 t34 t35 t36 r_ r_2 r_3 r_4 := rfl
def clock_Valid_p1 : clock_Valid_p1_T := clock_Valid_p1_n fuel
theorem clock_Valid_p1_ok : PieceOk Try.prog 127 0 clock_Valid_p1_code clock_Valid_p1_v clock_Valid_p1_o (clock_Valid_p1_G clock_Valid_p1) := clock_Valid_p1_ok' clock_compared clock_in clock_instant clock_Valid_Γ fuel
def clock_Valid_p2_n (m : Nat) : clock_Valid_p2_T := clock_Valid_p2_l clock_compared clock_in m
theorem clock_Valid_p2_step {β : Type} (i : Nat) (k1 k2 t46 t47 t48 r_ r_2 r_3 r_4) : (clock_Valid_p2_n (i + 1) k1 k2 t46 t47 t48 r_ r_2 r_3 r_4 : Option β) = clock_Valid_p2_s clock_compared clock_in (clock_Valid_p2_n i k1 k2) k1 k2 t46 t47 t48 r_ r_2 r_3 r_4 := rfl
def clock_Valid_p2 : clock_Valid_p2_T := clock_Valid_p2_n fuel
theorem clock_Valid_p2_ok : PieceOk Try.prog 127 0 clock_Valid_p2_code clock_Valid_p2_v clock_Valid_p2_o (clock_Valid_p2_G clock_Valid_p2) := clock_Valid_p2_ok' clock_compared clock_in clock_instant clock_Valid_Γ fuel
def clock_Valid_p3_n (m : Nat) : clock_Valid_p3_T := clock_Valid_p3_l clock_in clock_instant m
theorem clock_Valid_p3_step {β : Type} (i : Nat) (k1 k2 t67 t68 t69 r_ r_2 r_3 r_4) : (clock_Valid_p3_n (i + 1) k1 k2 t67 t68 t69 r_ r_2 r_3 r_4 : Option β) = clock_Valid_p3_s clock_in clock_instant (clock_Valid_p3_n i k1 k2) k1 k2 t67 t68 t69 r_ r_2 r_3 r_4 := rfl
def clock_Valid_p3 : clock_Valid_p3_T := clock_Valid_p3_n fuel
theorem clock_Valid_p3_ok : PieceOk Try.prog 127 0 clock_Valid_p3_code clock_Valid_p3_v clock_Valid_p3_o (clock_Valid_p3_G clock_Valid_p3) := clock_Valid_p3_ok' clock_compared clock_in clock_instant clock_Valid_Γ fuel
def clock_Valid_p4_n (m : Nat) : clock_Valid_p4_T := clock_Valid_p4_l clock_in clock_instant m
theorem clock_Valid_p4_step {β : Type} (i : Nat) (k1 k2 t89 t90 t91 r_ r_2 r_3 r_4) : (clock_Valid_p4_n (i + 1) k1 k2 t89 t90 t91 r_ r_2 r_3 r_4 : Option β) = clock_Valid_p4_s clock_in clock_instant (clock_Valid_p4_n i k1 k2) k1 k2 t89 t90 t91 r_ r_2 r_3 r_4 := rfl
def clock_Valid_p4 : clock_Valid_p4_T := clock_Valid_p4_n fuel
theorem clock_Valid_p4_ok : PieceOk Try.prog 127 0 clock_Valid_p4_code clock_Valid_p4_v clock_Valid_p4_o (clock_Valid_p4_G clock_Valid_p4) := clock_Valid_p4_ok' clock_compared clock_in clock_instant clock_Valid_Γ fuel
def clock_Valid : T_clock_Valid := clock_Valid_s clock_Valid_p1 clock_Valid_p2 clock_Valid_p3 clock_Valid_p4
theorem clock_Valid_ok : SpecOk Try.prog 29 (clock_Valid_S clock_Valid) := clock_Valid_ok' clock_compared clock_in clock_instant clock_Valid_Γ clock_Valid_p1 clock_Valid_p2 clock_Valid_p3 clock_Valid_p4 clock_Valid_p1_ok clock_Valid_p2_ok clock_Valid_p3_ok clock_Valid_p4_ok

/-- pagewatch/order.Fits$1 -/
abbrev T_order_Fits_f1 := {β : Type} → Int → (Bool → Option β) → Option β
def order_Fits_f1_S (c : T_order_Fits_f1) : Spec :=
  ⟨[(false, [.data (.int .i64)])], [], [(false, [.data .bool])], [], fun x k => c x.1.1.1 (fun r0 => k (((r0, ()), ()), ()))⟩
section
variable (c_order_in : T_order_in)
@[reducible] def order_Fits_f1_X : Ctx := ⟨look tab, pick1 [(67, .spec (order_in_S c_order_in))], false⟩
def order_Fits_f1_s {β : Type} (t : Int) (k : (Bool → Option β)) : Option β :=
  c_order_in t (0 : Int) (8589934592 : Int) (fun (rin : Bool) =>
  k (!rin))
theorem order_Fits_f1_ok' (hΓ : ΓOk Try.prog (order_Fits_f1_X c_order_in).Γ) : SpecOk Try.prog 66 (order_Fits_f1_S (order_Fits_f1_s c_order_in)) :=
  spec_exec (X := (order_Fits_f1_X c_order_in)) (Λ := pick1 []) (rs := [.tmp 2]) (c := bodyOf Try.f66) mixed tab_ok hΓ Try.func66 (by kernel_rfl) (by kernel_rfl) (by kernel_rfl) (by kernel_rfl) CutsOk_nil (fun x k r h => Eq.trans (b := (order_Fits_f1_S (order_Fits_f1_s c_order_in)).run x k) (by kernel_rfl) h)
end
theorem order_Fits_f1_Γ : ΓOk Try.prog (pick1 [(67, .spec (order_in_S order_in))]) := (ΓOk_cons order_in_ok ΓOk_nil)
def order_Fits_f1 : T_order_Fits_f1 := order_Fits_f1_s order_in
theorem order_Fits_f1_ok : SpecOk Try.prog 66 (order_Fits_f1_S order_Fits_f1) := order_Fits_f1_ok' order_in order_Fits_f1_Γ

/-- slices.Contains[[]int,int] -/
abbrev T_slices_Contains_int_int := {β : Type} → (List Int) → Int → (Bool → Option β) → Option β
def slices_Contains_int_int_S (c : T_slices_Contains_int_int) : Spec :=
  ⟨[(false, [.data (.slice (.int .i64))]), (false, [.data (.int .i64)])], [], [(false, [.data .bool])], [], fun x k => c x.1.1.1 x.1.2.1.1 (fun r0 => k (((r0, ()), ()), ()))⟩
section
variable (c_slices_Index_int_int : T_slices_Index_int_int)
@[reducible] def slices_Contains_int_int_X : Ctx := ⟨look tab, pick1 [(80, .spec (slices_Index_int_int_S c_slices_Index_int_int))], false⟩
def slices_Contains_int_int_s {β : Type} (s : List Int) (v : Int) (k : (Bool → Option β)) : Option β :=
  c_slices_Index_int_int s v (fun (rIndexintint : Int) =>
  let t : Bool := (decide ((0 : Int) ≤ rIndexintint));
  k t)
theorem slices_Contains_int_int_ok' (hΓ : ΓOk Try.prog (slices_Contains_int_int_X c_slices_Index_int_int).Γ) : SpecOk Try.prog 70 (slices_Contains_int_int_S (slices_Contains_int_int_s c_slices_Index_int_int)) :=
  spec_exec (X := (slices_Contains_int_int_X c_slices_Index_int_int)) (Λ := pick1 []) (rs := [.tmp 4]) (c := bodyOf Try.f70) mixed tab_ok hΓ Try.func70 (by kernel_rfl) (by kernel_rfl) (by kernel_rfl) (by kernel_rfl) CutsOk_nil (fun x k r h => Eq.trans (b := (slices_Contains_int_int_S (slices_Contains_int_int_s c_slices_Index_int_int)).run x k) (by kernel_rfl) h)
end
theorem slices_Contains_int_int_Γ : ΓOk Try.prog (pick1 [(80, .spec (slices_Index_int_int_S slices_Index_int_int))]) := (ΓOk_cons slices_Index_int_int_ok ΓOk_nil)
def slices_Contains_int_int : T_slices_Contains_int_int := slices_Contains_int_int_s slices_Index_int_int
theorem slices_Contains_int_int_ok : SpecOk Try.prog 70 (slices_Contains_int_int_S slices_Contains_int_int) := slices_Contains_int_int_ok' slices_Index_int_int slices_Contains_int_int_Γ

/-- pagewatch/order.pair -/
abbrev T_order_pair := {β : Type} → api_Record → Int → Int → ((List (Int × (Int × Int))) → Option β) → Option β
def order_pair_S (c : T_order_pair) : Spec :=
  ⟨[(true, [.data y_api_Record]), (false, [.data (.int .i64)]), (false, [.data (.int .i64)])], [], [(false, [.rowh 0])], [.row 101 (.prod (.int .i64) (.prod (.int .i64) (.int .i64)))], fun x k => c x.1.1.1 x.1.2.1.1 x.1.2.2.1.1 (fun r0 => k (((), ()), (r0, ())))⟩
noncomputable def order_pair_p1_code : Code := codeAt 15 (bodyOf Try.f73)
abbrev order_pair_p1_K1 (β : Type) := (List (Int × (Int × Int))) → Option β
abbrev order_pair_p1_T := {β : Type} → order_pair_p1_K1 β → Int → Int → (List (List UInt8 × Int)) → (List (Int × (Int × (Int × Int)))) → (List api_Event) → (List (Int × (Int × Int))) → Int → Int → (List UInt8) → Int → Int → (List UInt8) → Option β
def order_pair_p1_v : View := ⟨0, [1, 2, 3, 7, 8], [(false, [.data (.int .i64)]), (false, [.data (.int .i64)]), (false, [.ptr 0 0]), (false, [.ptr 1 0]), (false, [.ptr 2 0])], [.cells 41 [.data (.slice (.prod .str (.int .i64))), .data (.slice (.prod (.int .i64) (.prod (.int .i64) (.prod (.int .i64) (.int .i64))))), .data (.slice y_api_Event), .data (.slice (.prod (.int .i64) (.prod (.int .i64) (.int .i64))))], .cells 65 [.data (.int .i64), .data (.int .i64), .data .str], .cells 65 [.data (.int .i64), .data (.int .i64), .data .str]]⟩
def order_pair_p1_o : List (AExit × View) := [(.ret, ⟨0, [6], [(false, [.rowh 0])], [.row 101 (.prod (.int .i64) (.prod (.int .i64) (.int .i64)))]⟩)]
@[reducible] def order_pair_p1_G (p : order_pair_p1_T) {β : Type} (d : order_pair_p1_v.den) (ks : Outs.K β order_pair_p1_o) : Option β :=
  p (fun a0 => ks.1 (((), ()), (a0, ()))) d.1.1.1 d.1.2.1.1 d.2.1.1 d.2.1.2.1 d.2.1.2.2.1 d.2.1.2.2.2.1 d.2.2.1.1 d.2.2.1.2.1 d.2.2.1.2.2.1 d.2.2.2.1.1 d.2.2.2.1.2.1 d.2.2.2.1.2.2.1
section
variable (c_clock_Elapsed : T_clock_Elapsed)
@[reducible] def order_pair_X : Ctx := ⟨look tab, pick1 [(15, .spec (clock_Elapsed_S c_clock_Elapsed))], false⟩
def order_pair_p1_s {β : Type} (k1 : order_pair_p1_K1 β) (i_ : Int) (j : Int) (r_ : List (List UInt8 × Int)) (r_2 : List (Int × (Int × (Int × Int)))) (r_3 : List api_Event) (r_4 : List (Int × (Int × Int))) (a : Int) (a2 : Int) (a3 : List UInt8) (b : Int) (b2 : Int) (b3 : List UInt8) : Option β :=
  cond (decide (0 ≤ a) && decide (a < (List.length r_ : Int)))
  (let e : (List UInt8 × Int) := List.getD r_ (Int.toNat a) (([] : List UInt8), (0 : Int));
  c_clock_Elapsed e.2 (IntKind.i64.wrap (b2 - a2)) (fun (rElapsed : Int) (rElapsed2 : Int) =>
  let l : List (Int × (Int × Int)) := ([((IntKind.i64.wrap (i_ + (1 : Int))), ((IntKind.i64.wrap (j + (1 : Int))), rElapsed2)), ((IntKind.i64.wrap (j + (1 : Int))), ((IntKind.i64.wrap (i_ + (1 : Int))), (IntKind.i64.wrap (0 - rElapsed))))] : List (Int × (Int × Int)));
  k1 l))
  none
def order_pair_p1_u {β : Type} (k1 : order_pair_p1_K1 β) (i_ : Int) (j : Int) (r_ : List (List UInt8 × Int)) (r_2 : List (Int × (Int × (Int × Int)))) (r_3 : List api_Event) (r_4 : List (Int × (Int × Int))) (a : Int) (a2 : Int) (a3 : List UInt8) (b : Int) (b2 : Int) (b3 : List UInt8) : Option β := order_pair_p1_s c_clock_Elapsed k1 i_ j r_ r_2 r_3 r_4 a a2 a3 b b2 b3
theorem order_pair_p1_ok' (hΓ : ΓOk Try.prog (order_pair_X c_clock_Elapsed).Γ) : PieceOk Try.prog 60 0 order_pair_p1_code order_pair_p1_v order_pair_p1_o (order_pair_p1_G (order_pair_p1_u c_clock_Elapsed)) :=
  piece_exec (X := (order_pair_X c_clock_Elapsed)) (p := 15) (Λ := pick1 []) mixed tab_ok hΓ (by kernel_rfl) CutsOk_nil (fun d ks r h => Eq.trans (b := order_pair_p1_G (order_pair_p1_u c_clock_Elapsed) d ks) (by kernel_rfl) h)
def order_pair_s (p1 : order_pair_p1_T) {β : Type} (r_ : api_Record) (i_ : Int) (j : Int) (k : ((List (Int × (Int × Int))) → Option β)) : Option β :=
  cond (decide (0 ≤ i_) && decide (i_ < (List.length r_.2.2.1 : Int)))
  (let e : api_Event := List.getD r_.2.2.1 (Int.toNat i_) ((0 : Int), ((0 : Int), ([] : List UInt8)));
  cond (decide (0 ≤ j) && decide (j < (List.length r_.2.2.1 : Int)))
  (let e2 : api_Event := List.getD r_.2.2.1 (Int.toNat j) ((0 : Int), ((0 : Int), ([] : List UInt8)));
  cond (decide (e2.2.1 < e.2.1))
  (p1 (fun (t6 : List (Int × (Int × Int))) =>
  k t6) j i_ r_.1 r_.2.1 r_.2.2.1 r_.2.2.2 e2.1 e2.2.1 e2.2.2 e.1 e.2.1 e.2.2)
  (p1 (fun (t6 : List (Int × (Int × Int))) =>
  k t6) i_ j r_.1 r_.2.1 r_.2.2.1 r_.2.2.2 e.1 e.2.1 e.2.2 e2.1 e2.2.1 e2.2.2))
  none)
  none
theorem order_pair_ok' (hΓ : ΓOk Try.prog (order_pair_X c_clock_Elapsed).Γ) (p1 : order_pair_p1_T) (hp1 : PieceOk Try.prog 60 0 order_pair_p1_code order_pair_p1_v order_pair_p1_o (order_pair_p1_G p1)) : SpecOk Try.prog 73 (order_pair_S (order_pair_s p1)) :=
  spec_exec (X := (order_pair_X c_clock_Elapsed)) (Λ := pick1 [(15, pieceCut order_pair_p1_v order_pair_p1_o (order_pair_p1_G p1))]) (rs := [.tmp 6]) (c := bodyOf Try.f73) mixed tab_ok hΓ Try.func73 (by kernel_rfl) (by kernel_rfl) (by kernel_rfl) (by kernel_rfl) (CutsOk_cons (q := 15) (c' := order_pair_p1_code) (by kernel_rfl) rfl hp1 CutsOk_nil) (fun x k r h => Eq.trans (b := (order_pair_S (order_pair_s p1)).run x k) (by kernel_rfl) h)
end
theorem order_pair_Γ : ΓOk Try.prog (pick1 [(15, .spec (clock_Elapsed_S clock_Elapsed))]) := (ΓOk_cons clock_Elapsed_ok ΓOk_nil)
def order_pair_p1 : order_pair_p1_T := order_pair_p1_u clock_Elapsed
theorem order_pair_p1_ok : PieceOk Try.prog 60 0 order_pair_p1_code order_pair_p1_v order_pair_p1_o (order_pair_p1_G order_pair_p1) := order_pair_p1_ok' clock_Elapsed order_pair_Γ
def order_pair : T_order_pair := order_pair_s order_pair_p1
theorem order_pair_ok : SpecOk Try.prog 73 (order_pair_S order_pair) := order_pair_ok' clock_Elapsed order_pair_Γ order_pair_p1 order_pair_p1_ok

/-- pagewatch/constraint.Fits$1 -/
abbrev T_constraint_Fits_f1 := {β : Type} → Int → (Bool → Option β) → Option β
def constraint_Fits_f1_S (c : T_constraint_Fits_f1) : Spec :=
  ⟨[(false, [.data (.int .i64)])], [], [(false, [.data .bool])], [], fun x k => c x.1.1.1 (fun r0 => k (((r0, ()), ()), ()))⟩
section
variable (c_constraint_in : T_constraint_in)
@[reducible] def constraint_Fits_f1_X : Ctx := ⟨look tab, pick1 [(77, .spec (constraint_in_S c_constraint_in))], false⟩
def constraint_Fits_f1_s {β : Type} (v : Int) (k : (Bool → Option β)) : Option β :=
  c_constraint_in v (-1099511627776 : Int) (1099511627776 : Int) (fun (rin : Bool) =>
  k (!rin))
theorem constraint_Fits_f1_ok' (hΓ : ΓOk Try.prog (constraint_Fits_f1_X c_constraint_in).Γ) : SpecOk Try.prog 76 (constraint_Fits_f1_S (constraint_Fits_f1_s c_constraint_in)) :=
  spec_exec (X := (constraint_Fits_f1_X c_constraint_in)) (Λ := pick1 []) (rs := [.tmp 2]) (c := bodyOf Try.f76) mixed tab_ok hΓ Try.func76 (by kernel_rfl) (by kernel_rfl) (by kernel_rfl) (by kernel_rfl) CutsOk_nil (fun x k r h => Eq.trans (b := (constraint_Fits_f1_S (constraint_Fits_f1_s c_constraint_in)).run x k) (by kernel_rfl) h)
end
theorem constraint_Fits_f1_Γ : ΓOk Try.prog (pick1 [(77, .spec (constraint_in_S constraint_in))]) := (ΓOk_cons constraint_in_ok ΓOk_nil)
def constraint_Fits_f1 : T_constraint_Fits_f1 := constraint_Fits_f1_s constraint_in
theorem constraint_Fits_f1_ok : SpecOk Try.prog 76 (constraint_Fits_f1_S constraint_Fits_f1) := constraint_Fits_f1_ok' constraint_in constraint_Fits_f1_Γ

/-- pagewatch/clock.When -/
abbrev T_clock_When := {β : Type} → api_Record → Int → Int → ((Int × Int) → Bool → Option β) → Option β
def clock_When_S (c : T_clock_When) : Spec :=
  ⟨[(true, [.data y_api_Record]), (false, [.data (.int .i64)]), (false, [.data (.int .i64)])], [], [(true, [.data (.prod (.int .i64) (.int .i64))]), (false, [.data .bool])], [], fun x k => c x.1.1.1 x.1.2.1.1 x.1.2.2.1.1 (fun r0 r1 => k (((r0, ()), (r1, ()), ()), ()))⟩
noncomputable def clock_When_p1_code : Code := codeAt 122 (bodyOf Try.f24)
abbrev clock_When_p1_K1 (β : Type) := Int → Int → Int → Int → Option β
abbrev clock_When_p1_T := {β : Type} → clock_When_p1_K1 β → Int → Int → (List (Int × (Int × (Int × Int)))) → Int → Int → (List (List UInt8 × Int)) → (List (Int × (Int × (Int × Int)))) → (List api_Event) → (List (Int × (Int × Int))) → Int → Int → Int → Int → Option β
def clock_When_p1_v : View := ⟨0, [1, 2, 3, 6, 8, 31, 32, 33], [(false, [.data (.int .i64)]), (false, [.data (.int .i64)]), (false, [.ptr 0 0]), (false, [.ptr 1 0]), (false, [.ptr 2 0]), (false, [.data (.slice (.prod (.int .i64) (.prod (.int .i64) (.prod (.int .i64) (.int .i64)))))]), (false, [.data (.int .i64)]), (false, [.data (.int .i64)])], [.cells 41 [.data (.slice (.prod .str (.int .i64))), .data (.slice (.prod (.int .i64) (.prod (.int .i64) (.prod (.int .i64) (.int .i64))))), .data (.slice y_api_Event), .data (.slice (.prod (.int .i64) (.prod (.int .i64) (.int .i64))))], .cells 45 [.data (.int .i64), .data (.int .i64)], .cells 45 [.data (.int .i64), .data (.int .i64)]]⟩
def clock_When_p1_o : List (AExit × View) := [(.exit 0, ⟨0, [6, 8], [(false, [.ptr 0 0]), (false, [.ptr 1 0])], [.cells 45 [.data (.int .i64), .data (.int .i64)], .cells 45 [.data (.int .i64), .data (.int .i64)]]⟩)]
@[reducible] def clock_When_p1_G (p : clock_When_p1_T) {β : Type} (d : clock_When_p1_v.den) (ks : Outs.K β clock_When_p1_o) : Option β :=
  p (fun a0 a1 a2 a3 => ks.1 (((), (), ()), ((a0, a1, ()), (a2, a3, ()), ()))) d.1.1.1 d.1.2.1.1 d.1.2.2.2.2.2.1.1 d.1.2.2.2.2.2.2.1.1 d.1.2.2.2.2.2.2.2.1.1 d.2.1.1 d.2.1.2.1 d.2.1.2.2.1 d.2.1.2.2.2.1 d.2.2.1.1 d.2.2.1.2.1 d.2.2.2.1.1 d.2.2.2.1.2.1
section
variable (c_clock_Empty : T_clock_Empty) (c_clock_From : T_clock_From) (c_clock_Meet : T_clock_Meet) (c_clock_Valid : T_clock_Valid) (c_clock_in : T_clock_in) (c_clock_instant : T_clock_instant)
@[reducible] def clock_When_X : Ctx := ⟨look tab, pick1 [(36, .spec (clock_Empty_S c_clock_Empty)), (26, .spec (clock_From_S c_clock_From)), (34, .spec (clock_Meet_S c_clock_Meet)), (29, .spec (clock_Valid_S c_clock_Valid)), (50, .spec (clock_in_S c_clock_in)), (51, .spec (clock_instant_S c_clock_instant))], false⟩
def clock_When_p1_s {β : Type} (rec : Int → Int → (List (Int × (Int × (Int × Int)))) → Int → Int → (List (List UInt8 × Int)) → (List (Int × (Int × (Int × Int)))) → (List api_Event) → (List (Int × (Int × Int))) → Int → Int → Int → Int → Option β) (k1 : clock_When_p1_K1 β) (host : Int) (clock : Int) (t31 : List (Int × (Int × (Int × Int)))) (t32 : Int) (t33 : Int) (r_ : List (List UInt8 × Int)) (r_2 : List (Int × (Int × (Int × Int)))) (r_3 : List api_Event) (r_4 : List (Int × (Int × Int))) (t6 : Int) (t62 : Int) (out : Int) (out2 : Int) : Option β :=
  cond (decide (t33 < t32))
  (cond (decide (0 ≤ t33) && decide (t33 < (List.length t31 : Int)))
  (let e : (Int × (Int × (Int × Int))) := List.getD t31 (Int.toNat t33) ((0 : Int), ((0 : Int), ((0 : Int), (0 : Int))));
  cond (decide (e.1 = host))
  (cond (decide (0 ≤ host) && decide (host < (List.length r_ : Int)))
  (let e2 : (List UInt8 × Int) := List.getD r_ (Int.toNat host) (([] : List UInt8), (0 : Int));
  c_clock_From e2 e clock (fun (rFrom : (Int × Int)) =>
  c_clock_Meet (out, out2) rFrom (fun (rMeet : (Int × Int)) =>
  rec host clock t31 t32 (IntKind.i64.wrap (t33 + (1 : Int))) r_ r_2 r_3 r_4 t6 t62 rMeet.1 rMeet.2)))
  none)
  (rec host clock t31 t32 (IntKind.i64.wrap (t33 + (1 : Int))) r_ r_2 r_3 r_4 t6 t62 out out2))
  none)
  (k1 t6 t62 out out2)
def clock_When_p1_l {β : Type} : Nat → clock_When_p1_K1 β → Int → Int → (List (Int × (Int × (Int × Int)))) → Int → Int → (List (List UInt8 × Int)) → (List (Int × (Int × (Int × Int)))) → (List api_Event) → (List (Int × (Int × Int))) → Int → Int → Int → Int → Option β
  | 0 => fun _ _ _ _ _ _ _ _ _ _ _ _ _ _ => none
  | i + 1 => fun k1 host clock t31 t32 t33 r_ r_2 r_3 r_4 t6 t62 out out2 => clock_When_p1_s c_clock_From c_clock_Meet (clock_When_p1_l i k1) k1 host clock t31 t32 t33 r_ r_2 r_3 r_4 t6 t62 out out2
theorem clock_When_p1_ok' (hΓ : ΓOk Try.prog (clock_When_X c_clock_Empty c_clock_From c_clock_Meet c_clock_Valid c_clock_in c_clock_instant).Γ) (i : Nat) : PieceOk Try.prog 56 0 clock_When_p1_code clock_When_p1_v clock_When_p1_o (clock_When_p1_G (clock_When_p1_l c_clock_From c_clock_Meet i)) := by
  rw [show clock_When_p1_code = .loop (loopBody clock_When_p1_code) by kernel_rfl]
  exact piece_loop (X := (clock_When_X c_clock_Empty c_clock_From c_clock_Meet c_clock_Valid c_clock_in c_clock_instant)) (p := 1) (Λ := pick1 []) (G := fun i => @fun β d ks => clock_When_p1_G (clock_When_p1_l c_clock_From c_clock_Meet i) d ks) mixed tab_ok hΓ rfl (by kernel_rfl) CutsOk_nil (fun _ _ => rfl) (fun i => @fun β d ks r h => Eq.trans (b := clock_When_p1_G (clock_When_p1_l c_clock_From c_clock_Meet (i + 1)) d ks) (by kernel_rfl) h) i
def clock_When_s (p1 : clock_When_p1_T) {β : Type} (r_ : api_Record) (host : Int) (clock : Int) (k : ((Int × Int) → Bool → Option β)) : Option β :=
  c_clock_Valid r_ (fun (rValid : Bool) =>
  cond (!rValid)
  (k ((0 : Int), (0 : Int)) false)
  (c_clock_in host (0 : Int) (IntKind.i64.wrap ((List.length r_.1 : Int) - (1 : Int))) (fun (rin : Bool) =>
  cond (!rin)
  (k ((0 : Int), (0 : Int)) false)
  (c_clock_instant clock (fun (rinstant : Bool) =>
  cond (!rinstant)
  (k ((0 : Int), (0 : Int)) false)
  (p1 (fun (t6 : Int) (t62 : Int) (out : Int) (out2 : Int) =>
  c_clock_Empty (out, out2) (fun (rEmpty : Bool) =>
  k (out, out2) (!rEmpty))) host clock r_.2.1 (List.length r_.2.1 : Int) (0 : Int) r_.1 r_.2.1 r_.2.2.1 r_.2.2.2 (0 : Int) (0 : Int) (0 : Int) (8589934592 : Int)))))))
theorem clock_When_ok' (hΓ : ΓOk Try.prog (clock_When_X c_clock_Empty c_clock_From c_clock_Meet c_clock_Valid c_clock_in c_clock_instant).Γ) (p1 : clock_When_p1_T) (hp1 : PieceOk Try.prog 56 0 clock_When_p1_code clock_When_p1_v clock_When_p1_o (clock_When_p1_G p1)) : SpecOk Try.prog 24 (clock_When_S (clock_When_s c_clock_Empty c_clock_Valid c_clock_in c_clock_instant p1)) :=
  spec_exec (X := (clock_When_X c_clock_Empty c_clock_From c_clock_Meet c_clock_Valid c_clock_in c_clock_instant)) (Λ := pick1 [(122, pieceCut clock_When_p1_v clock_When_p1_o (clock_When_p1_G p1))]) (rs := [.cell 6 45, .tmp 7]) (c := bodyOf Try.f24) mixed tab_ok hΓ Try.func24 (by kernel_rfl) (by kernel_rfl) (by kernel_rfl) (by kernel_rfl) (CutsOk_cons (q := 122) (c' := clock_When_p1_code) (by kernel_rfl) rfl hp1 CutsOk_nil) (fun x k r h => Eq.trans (b := (clock_When_S (clock_When_s c_clock_Empty c_clock_Valid c_clock_in c_clock_instant p1)).run x k) (by kernel_rfl) h)
end
theorem clock_When_Γ : ΓOk Try.prog (pick1 [(36, .spec (clock_Empty_S clock_Empty)), (26, .spec (clock_From_S clock_From)), (34, .spec (clock_Meet_S clock_Meet)), (29, .spec (clock_Valid_S clock_Valid)), (50, .spec (clock_in_S clock_in)), (51, .spec (clock_instant_S clock_instant))]) := (ΓOk_cons clock_Empty_ok (ΓOk_cons clock_From_ok (ΓOk_cons clock_Meet_ok (ΓOk_cons clock_Valid_ok (ΓOk_cons clock_in_ok (ΓOk_cons clock_instant_ok ΓOk_nil))))))
def clock_When_p1_n (m : Nat) : clock_When_p1_T := clock_When_p1_l clock_From clock_Meet m
theorem clock_When_p1_step {β : Type} (i : Nat) (k1 host clock t31 t32 t33 r_ r_2 r_3 r_4 t6 t62 out out2) : (clock_When_p1_n (i + 1) k1 host clock t31 t32 t33 r_ r_2 r_3 r_4 t6 t62 out out2 : Option β) = clock_When_p1_s clock_From clock_Meet (clock_When_p1_n i k1) k1 host clock t31 t32 t33 r_ r_2 r_3 r_4 t6 t62 out out2 := rfl
def clock_When_p1 : clock_When_p1_T := clock_When_p1_n fuel
theorem clock_When_p1_ok : PieceOk Try.prog 56 0 clock_When_p1_code clock_When_p1_v clock_When_p1_o (clock_When_p1_G clock_When_p1) := clock_When_p1_ok' clock_Empty clock_From clock_Meet clock_Valid clock_in clock_instant clock_When_Γ fuel
def clock_When : T_clock_When := clock_When_s clock_Empty clock_Valid clock_in clock_instant clock_When_p1
theorem clock_When_ok : SpecOk Try.prog 24 (clock_When_S clock_When) := clock_When_ok' clock_Empty clock_From clock_Meet clock_Valid clock_in clock_instant clock_When_Γ clock_When_p1 clock_When_p1_ok

/-- pagewatch/order.Constraints -/
abbrev T_order_Constraints := {β : Type} → api_Record → (Bool → (List (Int × (Int × Int))) → Option β) → Option β
def order_Constraints_S (c : T_order_Constraints) : Spec :=
  ⟨[(true, [.data y_api_Record])], [], [(false, [.rowh 0]), (false, [.data .bool])], [.row 101 (.prod (.int .i64) (.prod (.int .i64) (.int .i64)))], fun x k => c x.1.1.1 (fun r0 r1 => k (((), (r0, ()), ()), (r1, ())))⟩
noncomputable def order_Constraints_p1_code : Code := codeAt 122 (bodyOf Try.f64)
noncomputable def order_Constraints_p3_code : Code := codeAt 250 (bodyOf Try.f64)
noncomputable def order_Constraints_p4_code : Code := codeAt 506 (bodyOf Try.f64)
noncomputable def order_Constraints_p2_code : Code := codeAt 230 (loopBody order_Constraints_p3_code)
abbrev order_Constraints_p1_K1 (β : Type) := Bool → (List (Int × (Int × Int))) → Option β
abbrev order_Constraints_p1_K2 (β : Type) := (List (List UInt8 × Int)) → (List (Int × (Int × (Int × Int)))) → (List api_Event) → (List (Int × (Int × Int))) → (List (Int × (Int × Int))) → Option β
abbrev order_Constraints_p1_T := {β : Type} → order_Constraints_p1_K1 β → order_Constraints_p1_K2 β → (List api_Event) → Int → Int → (List (List UInt8 × Int)) → (List (Int × (Int × (Int × Int)))) → (List api_Event) → (List (Int × (Int × Int))) → (List (Int × (Int × Int))) → Option β
def order_Constraints_p1_v : View := ⟨0, [1, 4, 18, 19, 20], [(false, [.ptr 0 0]), (false, [.rowh 1]), (false, [.data (.slice y_api_Event)]), (false, [.data (.int .i64)]), (false, [.data (.int .i64)])], [.cells 41 [.data (.slice (.prod .str (.int .i64))), .data (.slice (.prod (.int .i64) (.prod (.int .i64) (.prod (.int .i64) (.int .i64))))), .data (.slice y_api_Event), .data (.slice (.prod (.int .i64) (.prod (.int .i64) (.int .i64))))], .row 101 (.prod (.int .i64) (.prod (.int .i64) (.int .i64)))]⟩
def order_Constraints_p1_o : List (AExit × View) := [(.ret, ⟨0, [2, 3], [(false, [.rowh 0]), (false, [.data .bool])], [.row 101 (.prod (.int .i64) (.prod (.int .i64) (.int .i64)))]⟩), (.exit 0, ⟨0, [1, 4], [(false, [.ptr 0 0]), (false, [.rowh 1])], [.cells 41 [.data (.slice (.prod .str (.int .i64))), .data (.slice (.prod (.int .i64) (.prod (.int .i64) (.prod (.int .i64) (.int .i64))))), .data (.slice y_api_Event), .data (.slice (.prod (.int .i64) (.prod (.int .i64) (.int .i64))))], .row 101 (.prod (.int .i64) (.prod (.int .i64) (.int .i64)))]⟩)]
@[reducible] def order_Constraints_p1_G (p : order_Constraints_p1_T) {β : Type} (d : order_Constraints_p1_v.den) (ks : Outs.K β order_Constraints_p1_o) : Option β :=
  p (fun a0 a1 => ks.1 (((), (a0, ()), ()), (a1, ()))) (fun a0 a1 a2 a3 a4 => ks.2.1 (((), (), ()), ((a0, a1, a2, a3, ()), a4, ()))) d.1.2.2.1.1 d.1.2.2.2.1.1 d.1.2.2.2.2.1.1 d.2.1.1 d.2.1.2.1 d.2.1.2.2.1 d.2.1.2.2.2.1 d.2.2.1
abbrev order_Constraints_p2_K1 (β : Type) := (List api_Event) → Int → Int → (List (List UInt8 × Int)) → (List (Int × (Int × (Int × Int)))) → (List api_Event) → (List (Int × (Int × Int))) → (List (Int × (Int × Int))) → Option β
abbrev order_Constraints_p2_T := {β : Type} → order_Constraints_p2_K1 β → Int → Int → (List api_Event) → Int → Int → (List (List UInt8 × Int)) → (List (Int × (Int × (Int × Int)))) → (List api_Event) → (List (Int × (Int × Int))) → (List (Int × (Int × Int))) → Int → Int → (List UInt8) → Option β
def order_Constraints_p2_v : View := ⟨0, [1, 4, 9, 10, 11, 52, 53, 54], [(false, [.ptr 0 0]), (false, [.rowh 1]), (false, [.data (.int .i64)]), (false, [.ptr 2 0]), (false, [.data (.int .i64)]), (false, [.data (.slice y_api_Event)]), (false, [.data (.int .i64)]), (false, [.data (.int .i64)])], [.cells 41 [.data (.slice (.prod .str (.int .i64))), .data (.slice (.prod (.int .i64) (.prod (.int .i64) (.prod (.int .i64) (.int .i64))))), .data (.slice y_api_Event), .data (.slice (.prod (.int .i64) (.prod (.int .i64) (.int .i64))))], .row 101 (.prod (.int .i64) (.prod (.int .i64) (.int .i64))), .cells 65 [.data (.int .i64), .data (.int .i64), .data .str]]⟩
def order_Constraints_p2_o : List (AExit × View) := [(.exit 4, ⟨0, [1, 4, 52, 53, 54], [(false, [.ptr 0 0]), (false, [.rowh 1]), (false, [.data (.slice y_api_Event)]), (false, [.data (.int .i64)]), (false, [.data (.int .i64)])], [.cells 41 [.data (.slice (.prod .str (.int .i64))), .data (.slice (.prod (.int .i64) (.prod (.int .i64) (.prod (.int .i64) (.int .i64))))), .data (.slice y_api_Event), .data (.slice (.prod (.int .i64) (.prod (.int .i64) (.int .i64))))], .row 101 (.prod (.int .i64) (.prod (.int .i64) (.int .i64)))]⟩)]
@[reducible] def order_Constraints_p2_G (p : order_Constraints_p2_T) {β : Type} (d : order_Constraints_p2_v.den) (ks : Outs.K β order_Constraints_p2_o) : Option β :=
  p (fun a0 a1 a2 a3 a4 a5 a6 a7 => ks.1 (((), (), (a0, ()), (a1, ()), (a2, ()), ()), ((a3, a4, a5, a6, ()), a7, ()))) d.1.2.2.1.1 d.1.2.2.2.2.1.1 d.1.2.2.2.2.2.1.1 d.1.2.2.2.2.2.2.1.1 d.1.2.2.2.2.2.2.2.1.1 d.2.1.1 d.2.1.2.1 d.2.1.2.2.1 d.2.1.2.2.2.1 d.2.2.1 d.2.2.2.1.1 d.2.2.2.1.2.1 d.2.2.2.1.2.2.1
abbrev order_Constraints_p3_K1 (β : Type) := (List (List UInt8 × Int)) → (List (Int × (Int × (Int × Int)))) → (List api_Event) → (List (Int × (Int × Int))) → (List (Int × (Int × Int))) → Option β
abbrev order_Constraints_p3_T := {β : Type} → order_Constraints_p3_K1 β → (List api_Event) → Int → Int → (List (List UInt8 × Int)) → (List (Int × (Int × (Int × Int)))) → (List api_Event) → (List (Int × (Int × Int))) → (List (Int × (Int × Int))) → Option β
def order_Constraints_p3_v : View := ⟨0, [1, 4, 52, 53, 54], [(false, [.ptr 0 0]), (false, [.rowh 1]), (false, [.data (.slice y_api_Event)]), (false, [.data (.int .i64)]), (false, [.data (.int .i64)])], [.cells 41 [.data (.slice (.prod .str (.int .i64))), .data (.slice (.prod (.int .i64) (.prod (.int .i64) (.prod (.int .i64) (.int .i64))))), .data (.slice y_api_Event), .data (.slice (.prod (.int .i64) (.prod (.int .i64) (.int .i64))))], .row 101 (.prod (.int .i64) (.prod (.int .i64) (.int .i64)))]⟩
def order_Constraints_p3_o : List (AExit × View) := [(.exit 2, ⟨0, [1, 4], [(false, [.ptr 0 0]), (false, [.rowh 1])], [.cells 41 [.data (.slice (.prod .str (.int .i64))), .data (.slice (.prod (.int .i64) (.prod (.int .i64) (.prod (.int .i64) (.int .i64))))), .data (.slice y_api_Event), .data (.slice (.prod (.int .i64) (.prod (.int .i64) (.int .i64))))], .row 101 (.prod (.int .i64) (.prod (.int .i64) (.int .i64)))]⟩)]
@[reducible] def order_Constraints_p3_G (p : order_Constraints_p3_T) {β : Type} (d : order_Constraints_p3_v.den) (ks : Outs.K β order_Constraints_p3_o) : Option β :=
  p (fun a0 a1 a2 a3 a4 => ks.1 (((), (), ()), ((a0, a1, a2, a3, ()), a4, ()))) d.1.2.2.1.1 d.1.2.2.2.1.1 d.1.2.2.2.2.1.1 d.2.1.1 d.2.1.2.1 d.2.1.2.2.1 d.2.1.2.2.2.1 d.2.2.1
abbrev order_Constraints_p4_K1 (β : Type) := (List (Int × (Int × Int))) → Option β
abbrev order_Constraints_p4_T := {β : Type} → order_Constraints_p4_K1 β → (List (Int × (Int × Int))) → Int → Int → (List (Int × (Int × Int))) → Option β
def order_Constraints_p4_v : View := ⟨0, [4, 85, 86, 87], [(false, [.rowh 0]), (false, [.data (.slice (.prod (.int .i64) (.prod (.int .i64) (.int .i64))))]), (false, [.data (.int .i64)]), (false, [.data (.int .i64)])], [.row 101 (.prod (.int .i64) (.prod (.int .i64) (.int .i64)))]⟩
def order_Constraints_p4_o : List (AExit × View) := [(.exit 6, ⟨0, [4], [(false, [.rowh 0])], [.row 101 (.prod (.int .i64) (.prod (.int .i64) (.int .i64)))]⟩)]
@[reducible] def order_Constraints_p4_G (p : order_Constraints_p4_T) {β : Type} (d : order_Constraints_p4_v.den) (ks : Outs.K β order_Constraints_p4_o) : Option β :=
  p (fun a0 => ks.1 (((), ()), (a0, ()))) d.1.2.1.1 d.1.2.2.1.1 d.1.2.2.2.1.1 d.2.1
section
variable (c_clock_Valid : T_clock_Valid) (c_clock_When : T_clock_When) (c_order_pair : T_order_pair)
@[reducible] def order_Constraints_X : Ctx := ⟨look tab, pick1 [(29, .spec (clock_Valid_S c_clock_Valid)), (24, .spec (clock_When_S c_clock_When)), (73, .spec (order_pair_S c_order_pair))], false⟩
def order_Constraints_p1_s {β : Type} (rec : (List api_Event) → Int → Int → (List (List UInt8 × Int)) → (List (Int × (Int × (Int × Int)))) → (List api_Event) → (List (Int × (Int × Int))) → (List (Int × (Int × Int))) → Option β) (k1 : order_Constraints_p1_K1 β) (k2 : order_Constraints_p1_K2 β) (t18 : List api_Event) (t19 : Int) (t20 : Int) (r_ : List (List UInt8 × Int)) (r_2 : List (Int × (Int × (Int × Int)))) (r_3 : List api_Event) (r_4 : List (Int × (Int × Int))) (out : List (Int × (Int × Int))) : Option β :=
  cond (decide (t20 < t19))
  (cond (decide (0 ≤ t20) && decide (t20 < (List.length t18 : Int)))
  (let e : api_Event := List.getD t18 (Int.toNat t20) ((0 : Int), ((0 : Int), ([] : List UInt8)));
  c_clock_When (r_, (r_2, (r_3, r_4))) e.1 e.2.1 (fun (rWhen : (Int × Int)) (rWhen2 : Bool) =>
  cond (!rWhen2)
  (k1 false ([] : List (Int × (Int × Int))))
  (let l : List (Int × (Int × Int)) := ([((0 : Int), ((IntKind.i64.wrap (t20 + (1 : Int))), rWhen.2)), ((IntKind.i64.wrap (t20 + (1 : Int))), ((0 : Int), (IntKind.i64.wrap (0 - rWhen.1))))] : List (Int × (Int × Int)));
  cond (decide ((List.length out + List.length l) * 24 ≤ roomMax))
  (let l2 : List (Int × (Int × Int)) := (out ++ l);
  rec t18 t19 (IntKind.i64.wrap (t20 + (1 : Int))) r_ r_2 r_3 r_4 l2)
  none)))
  none)
  (k2 r_ r_2 r_3 r_4 out)
def order_Constraints_p1_l {β : Type} : Nat → order_Constraints_p1_K1 β → order_Constraints_p1_K2 β → (List api_Event) → Int → Int → (List (List UInt8 × Int)) → (List (Int × (Int × (Int × Int)))) → (List api_Event) → (List (Int × (Int × Int))) → (List (Int × (Int × Int))) → Option β
  | 0 => fun _ _ _ _ _ _ _ _ _ _ => none
  | i + 1 => fun k1 k2 t18 t19 t20 r_ r_2 r_3 r_4 out => order_Constraints_p1_s c_clock_When (order_Constraints_p1_l i k1 k2) k1 k2 t18 t19 t20 r_ r_2 r_3 r_4 out
theorem order_Constraints_p1_ok' (hΓ : ΓOk Try.prog (order_Constraints_X c_clock_Valid c_clock_When c_order_pair).Γ) (i : Nat) : PieceOk Try.prog 106 0 order_Constraints_p1_code order_Constraints_p1_v order_Constraints_p1_o (order_Constraints_p1_G (order_Constraints_p1_l c_clock_When i)) := by
  rw [show order_Constraints_p1_code = .loop (loopBody order_Constraints_p1_code) by kernel_rfl]
  exact piece_loop (X := (order_Constraints_X c_clock_Valid c_clock_When c_order_pair)) (p := 1) (Λ := pick1 []) (G := fun i => @fun β d ks => order_Constraints_p1_G (order_Constraints_p1_l c_clock_When i) d ks) mixed tab_ok hΓ rfl (by kernel_rfl) CutsOk_nil (fun _ _ => rfl) (fun i => @fun β d ks r h => Eq.trans (b := order_Constraints_p1_G (order_Constraints_p1_l c_clock_When (i + 1)) d ks) (by kernel_rfl) h) i
def order_Constraints_p2_s {β : Type} (rec : Int → Int → (List api_Event) → Int → Int → (List (List UInt8 × Int)) → (List (Int × (Int × (Int × Int)))) → (List api_Event) → (List (Int × (Int × Int))) → (List (Int × (Int × Int))) → Int → Int → (List UInt8) → Option β) (k1 : order_Constraints_p2_K1 β) (i_ : Int) (j : Int) (t52 : List api_Event) (t53 : Int) (t54 : Int) (r_ : List (List UInt8 × Int)) (r_2 : List (Int × (Int × (Int × Int)))) (r_3 : List api_Event) (r_4 : List (Int × (Int × Int))) (out : List (Int × (Int × Int))) (a : Int) (a2 : Int) (a3 : List UInt8) : Option β :=
  cond (decide (j < (List.length r_3 : Int)))
  (cond (decide (0 ≤ j) && decide (j < (List.length r_3 : Int)))
  (let e : api_Event := List.getD r_3 (Int.toNat j) ((0 : Int), ((0 : Int), ([] : List UInt8)));
  cond (decide (e.1 = a))
  (c_order_pair (r_, (r_2, (r_3, r_4))) i_ j (fun (lrpair : List (Int × (Int × Int))) =>
  cond (decide ((List.length out + List.length lrpair) * 24 ≤ roomMax))
  (let l : List (Int × (Int × Int)) := (out ++ lrpair);
  let j2 : Int := (IntKind.i64.wrap (j + (1 : Int)));
  rec i_ j2 t52 t53 t54 r_ r_2 r_3 r_4 l a a2 a3)
  none))
  (let j2 : Int := (IntKind.i64.wrap (j + (1 : Int)));
  rec i_ j2 t52 t53 t54 r_ r_2 r_3 r_4 out a a2 a3))
  none)
  (k1 t52 t53 t54 r_ r_2 r_3 r_4 out)
def order_Constraints_p2_l {β : Type} : Nat → order_Constraints_p2_K1 β → Int → Int → (List api_Event) → Int → Int → (List (List UInt8 × Int)) → (List (Int × (Int × (Int × Int)))) → (List api_Event) → (List (Int × (Int × Int))) → (List (Int × (Int × Int))) → Int → Int → (List UInt8) → Option β
  | 0 => fun _ _ _ _ _ _ _ _ _ _ _ _ _ _ => none
  | i + 1 => fun k1 i_ j t52 t53 t54 r_ r_2 r_3 r_4 out a a2 a3 => order_Constraints_p2_s c_order_pair (order_Constraints_p2_l i k1) k1 i_ j t52 t53 t54 r_ r_2 r_3 r_4 out a a2 a3
theorem order_Constraints_p2_ok' (hΓ : ΓOk Try.prog (order_Constraints_X c_clock_Valid c_clock_When c_order_pair).Γ) (i : Nat) : PieceOk Try.prog 106 0 order_Constraints_p2_code order_Constraints_p2_v order_Constraints_p2_o (order_Constraints_p2_G (order_Constraints_p2_l c_order_pair i)) := by
  rw [show order_Constraints_p2_code = .loop (loopBody order_Constraints_p2_code) by kernel_rfl]
  exact piece_loop (X := (order_Constraints_X c_clock_Valid c_clock_When c_order_pair)) (p := 1) (Λ := pick1 []) (G := fun i => @fun β d ks => order_Constraints_p2_G (order_Constraints_p2_l c_order_pair i) d ks) mixed tab_ok hΓ rfl (by kernel_rfl) CutsOk_nil (fun _ _ => rfl) (fun i => @fun β d ks r h => Eq.trans (b := order_Constraints_p2_G (order_Constraints_p2_l c_order_pair (i + 1)) d ks) (by kernel_rfl) h) i
def order_Constraints_p3_s (p2 : order_Constraints_p2_T) {β : Type} (rec : (List api_Event) → Int → Int → (List (List UInt8 × Int)) → (List (Int × (Int × (Int × Int)))) → (List api_Event) → (List (Int × (Int × Int))) → (List (Int × (Int × Int))) → Option β) (k1 : order_Constraints_p3_K1 β) (t52 : List api_Event) (t53 : Int) (t54 : Int) (r_ : List (List UInt8 × Int)) (r_2 : List (Int × (Int × (Int × Int)))) (r_3 : List api_Event) (r_4 : List (Int × (Int × Int))) (out : List (Int × (Int × Int))) : Option β :=
  cond (decide (t54 < t53))
  (cond (decide (0 ≤ t54) && decide (t54 < (List.length t52 : Int)))
  (let e : api_Event := List.getD t52 (Int.toNat t54) ((0 : Int), ((0 : Int), ([] : List UInt8)));
  let j : Int := (IntKind.i64.wrap (t54 + (1 : Int)));
  p2 (fun (t522 : List api_Event) (t532 : Int) (t542 : Int) (r_5 : List (List UInt8 × Int)) (r_6 : List (Int × (Int × (Int × Int)))) (r_7 : List api_Event) (r_8 : List (Int × (Int × Int))) (out2 : List (Int × (Int × Int))) =>
  rec t522 t532 (IntKind.i64.wrap (t542 + (1 : Int))) r_5 r_6 r_7 r_8 out2) t54 j t52 t53 t54 r_ r_2 r_3 r_4 out e.1 e.2.1 e.2.2)
  none)
  (k1 r_ r_2 r_3 r_4 out)
def order_Constraints_p3_l (p2 : order_Constraints_p2_T) {β : Type} : Nat → order_Constraints_p3_K1 β → (List api_Event) → Int → Int → (List (List UInt8 × Int)) → (List (Int × (Int × (Int × Int)))) → (List api_Event) → (List (Int × (Int × Int))) → (List (Int × (Int × Int))) → Option β
  | 0 => fun _ _ _ _ _ _ _ _ _ => none
  | i + 1 => fun k1 t52 t53 t54 r_ r_2 r_3 r_4 out => order_Constraints_p3_s p2 (order_Constraints_p3_l p2 i k1) k1 t52 t53 t54 r_ r_2 r_3 r_4 out
theorem order_Constraints_p3_ok' (hΓ : ΓOk Try.prog (order_Constraints_X c_clock_Valid c_clock_When c_order_pair).Γ) (p2 : order_Constraints_p2_T) (hp2 : PieceOk Try.prog 106 0 order_Constraints_p2_code order_Constraints_p2_v order_Constraints_p2_o (order_Constraints_p2_G p2)) (i : Nat) : PieceOk Try.prog 106 0 order_Constraints_p3_code order_Constraints_p3_v order_Constraints_p3_o (order_Constraints_p3_G (order_Constraints_p3_l p2 i)) := by
  rw [show order_Constraints_p3_code = .loop (loopBody order_Constraints_p3_code) by kernel_rfl]
  exact piece_loop (X := (order_Constraints_X c_clock_Valid c_clock_When c_order_pair)) (p := 1) (Λ := pick1 [(230, pieceCut order_Constraints_p2_v order_Constraints_p2_o (order_Constraints_p2_G p2))]) (G := fun i => @fun β d ks => order_Constraints_p3_G (order_Constraints_p3_l p2 i) d ks) mixed tab_ok hΓ rfl (by kernel_rfl) (CutsOk_cons (q := 230) (c' := order_Constraints_p2_code) (by kernel_rfl) rfl hp2 CutsOk_nil) (fun _ _ => rfl) (fun i => @fun β d ks r h => Eq.trans (b := order_Constraints_p3_G (order_Constraints_p3_l p2 (i + 1)) d ks) (by kernel_rfl) h) i
def order_Constraints_p4_s {β : Type} (rec : (List (Int × (Int × Int))) → Int → Int → (List (Int × (Int × Int))) → Option β) (k1 : order_Constraints_p4_K1 β) (t85 : List (Int × (Int × Int))) (t86 : Int) (t87 : Int) (out : List (Int × (Int × Int))) : Option β :=
  cond (decide (t87 < t86))
  (cond (decide (0 ≤ t87) && decide (t87 < (List.length t85 : Int)))
  (let e : (Int × (Int × Int)) := List.getD t85 (Int.toNat t87) ((0 : Int), ((0 : Int), (0 : Int)));
  let l : List (Int × (Int × Int)) := ([((IntKind.i64.wrap (e.2.1 + (1 : Int))), ((IntKind.i64.wrap (e.1 + (1 : Int))), (IntKind.i64.wrap (0 - e.2.2))))] : List (Int × (Int × Int)));
  cond (decide ((List.length out + List.length l) * 24 ≤ roomMax))
  (let l2 : List (Int × (Int × Int)) := (out ++ l);
  rec t85 t86 (IntKind.i64.wrap (t87 + (1 : Int))) l2)
  none)
  none)
  (k1 out)
def order_Constraints_p4_l {β : Type} : Nat → order_Constraints_p4_K1 β → (List (Int × (Int × Int))) → Int → Int → (List (Int × (Int × Int))) → Option β
  | 0 => fun _ _ _ _ _ => none
  | i + 1 => fun k1 t85 t86 t87 out => order_Constraints_p4_s (order_Constraints_p4_l i k1) k1 t85 t86 t87 out
theorem order_Constraints_p4_ok' (hΓ : ΓOk Try.prog (order_Constraints_X c_clock_Valid c_clock_When c_order_pair).Γ) (i : Nat) : PieceOk Try.prog 106 0 order_Constraints_p4_code order_Constraints_p4_v order_Constraints_p4_o (order_Constraints_p4_G (order_Constraints_p4_l i)) := by
  rw [show order_Constraints_p4_code = .loop (loopBody order_Constraints_p4_code) by kernel_rfl]
  exact piece_loop (X := (order_Constraints_X c_clock_Valid c_clock_When c_order_pair)) (p := 1) (Λ := pick1 []) (G := fun i => @fun β d ks => order_Constraints_p4_G (order_Constraints_p4_l i) d ks) mixed tab_ok hΓ rfl (by kernel_rfl) CutsOk_nil (fun _ _ => rfl) (fun i => @fun β d ks r h => Eq.trans (b := order_Constraints_p4_G (order_Constraints_p4_l (i + 1)) d ks) (by kernel_rfl) h) i
def order_Constraints_s (p1 : order_Constraints_p1_T) (p3 : order_Constraints_p3_T) (p4 : order_Constraints_p4_T) {β : Type} (r_ : api_Record) (k : (Bool → (List (Int × (Int × Int))) → Option β)) : Option β :=
  c_clock_Valid r_ (fun (rValid : Bool) =>
  cond (!rValid)
  (k false ([] : List (Int × (Int × Int))))
  (p1 (fun (t3 : Bool) (t2 : List (Int × (Int × Int))) =>
  k t3 t2) (fun (r_2 : List (List UInt8 × Int)) (r_3 : List (Int × (Int × (Int × Int)))) (r_4 : List api_Event) (r_5 : List (Int × (Int × Int))) (out : List (Int × (Int × Int))) =>
  p3 (fun (r_6 : List (List UInt8 × Int)) (r_7 : List (Int × (Int × (Int × Int)))) (r_8 : List api_Event) (r_9 : List (Int × (Int × Int))) (out2 : List (Int × (Int × Int))) =>
  p4 (fun (out3 : List (Int × (Int × Int))) =>
  k true out3) r_9 (List.length r_9 : Int) (0 : Int) out2) r_4 (List.length r_4 : Int) (0 : Int) r_2 r_3 r_4 r_5 out) r_.2.2.1 (List.length r_.2.2.1 : Int) (0 : Int) r_.1 r_.2.1 r_.2.2.1 r_.2.2.2 ([] : List (Int × (Int × Int)))))
theorem order_Constraints_ok' (hΓ : ΓOk Try.prog (order_Constraints_X c_clock_Valid c_clock_When c_order_pair).Γ) (p1 : order_Constraints_p1_T) (p3 : order_Constraints_p3_T) (p4 : order_Constraints_p4_T) (hp1 : PieceOk Try.prog 106 0 order_Constraints_p1_code order_Constraints_p1_v order_Constraints_p1_o (order_Constraints_p1_G p1)) (hp3 : PieceOk Try.prog 106 0 order_Constraints_p3_code order_Constraints_p3_v order_Constraints_p3_o (order_Constraints_p3_G p3)) (hp4 : PieceOk Try.prog 106 0 order_Constraints_p4_code order_Constraints_p4_v order_Constraints_p4_o (order_Constraints_p4_G p4)) : SpecOk Try.prog 64 (order_Constraints_S (order_Constraints_s c_clock_Valid p1 p3 p4)) :=
  spec_exec (X := (order_Constraints_X c_clock_Valid c_clock_When c_order_pair)) (Λ := pick1 [(122, pieceCut order_Constraints_p1_v order_Constraints_p1_o (order_Constraints_p1_G p1)), (250, pieceCut order_Constraints_p3_v order_Constraints_p3_o (order_Constraints_p3_G p3)), (506, pieceCut order_Constraints_p4_v order_Constraints_p4_o (order_Constraints_p4_G p4))]) (rs := [.tmp 2, .tmp 3]) (c := bodyOf Try.f64) mixed tab_ok hΓ Try.func64 (by kernel_rfl) (by kernel_rfl) (by kernel_rfl) (by kernel_rfl) (CutsOk_cons (q := 122) (c' := order_Constraints_p1_code) (by kernel_rfl) rfl hp1 (CutsOk_cons (q := 250) (c' := order_Constraints_p3_code) (by kernel_rfl) rfl hp3 (CutsOk_cons (q := 506) (c' := order_Constraints_p4_code) (by kernel_rfl) rfl hp4 CutsOk_nil))) (fun x k r h => Eq.trans (b := (order_Constraints_S (order_Constraints_s c_clock_Valid p1 p3 p4)).run x k) (by kernel_rfl) h)
end
theorem order_Constraints_Γ : ΓOk Try.prog (pick1 [(29, .spec (clock_Valid_S clock_Valid)), (24, .spec (clock_When_S clock_When)), (73, .spec (order_pair_S order_pair))]) := (ΓOk_cons clock_Valid_ok (ΓOk_cons clock_When_ok (ΓOk_cons order_pair_ok ΓOk_nil)))
def order_Constraints_p1_n (m : Nat) : order_Constraints_p1_T := order_Constraints_p1_l clock_When m
theorem order_Constraints_p1_step {β : Type} (i : Nat) (k1 k2 t18 t19 t20 r_ r_2 r_3 r_4 out) : (order_Constraints_p1_n (i + 1) k1 k2 t18 t19 t20 r_ r_2 r_3 r_4 out : Option β) = order_Constraints_p1_s clock_When (order_Constraints_p1_n i k1 k2) k1 k2 t18 t19 t20 r_ r_2 r_3 r_4 out := rfl
def order_Constraints_p1 : order_Constraints_p1_T := order_Constraints_p1_n fuel
theorem order_Constraints_p1_ok : PieceOk Try.prog 106 0 order_Constraints_p1_code order_Constraints_p1_v order_Constraints_p1_o (order_Constraints_p1_G order_Constraints_p1) := order_Constraints_p1_ok' clock_Valid clock_When order_pair order_Constraints_Γ fuel
def order_Constraints_p2_n (m : Nat) : order_Constraints_p2_T := order_Constraints_p2_l order_pair m
theorem order_Constraints_p2_step {β : Type} (i : Nat) (k1 i_ j t52 t53 t54 r_ r_2 r_3 r_4 out a a2 a3) : (order_Constraints_p2_n (i + 1) k1 i_ j t52 t53 t54 r_ r_2 r_3 r_4 out a a2 a3 : Option β) = order_Constraints_p2_s order_pair (order_Constraints_p2_n i k1) k1 i_ j t52 t53 t54 r_ r_2 r_3 r_4 out a a2 a3 := rfl
def order_Constraints_p2 : order_Constraints_p2_T := order_Constraints_p2_n fuel
theorem order_Constraints_p2_ok : PieceOk Try.prog 106 0 order_Constraints_p2_code order_Constraints_p2_v order_Constraints_p2_o (order_Constraints_p2_G order_Constraints_p2) := order_Constraints_p2_ok' clock_Valid clock_When order_pair order_Constraints_Γ fuel
def order_Constraints_p3_n (m : Nat) : order_Constraints_p3_T := order_Constraints_p3_l order_Constraints_p2 m
theorem order_Constraints_p3_step {β : Type} (i : Nat) (k1 t52 t53 t54 r_ r_2 r_3 r_4 out) : (order_Constraints_p3_n (i + 1) k1 t52 t53 t54 r_ r_2 r_3 r_4 out : Option β) = order_Constraints_p3_s order_Constraints_p2 (order_Constraints_p3_n i k1) k1 t52 t53 t54 r_ r_2 r_3 r_4 out := rfl
def order_Constraints_p3 : order_Constraints_p3_T := order_Constraints_p3_n fuel
theorem order_Constraints_p3_ok : PieceOk Try.prog 106 0 order_Constraints_p3_code order_Constraints_p3_v order_Constraints_p3_o (order_Constraints_p3_G order_Constraints_p3) := order_Constraints_p3_ok' clock_Valid clock_When order_pair order_Constraints_Γ order_Constraints_p2 order_Constraints_p2_ok fuel
def order_Constraints_p4_n (m : Nat) : order_Constraints_p4_T := order_Constraints_p4_l m
theorem order_Constraints_p4_step {β : Type} (i : Nat) (k1 t85 t86 t87 out) : (order_Constraints_p4_n (i + 1) k1 t85 t86 t87 out : Option β) = order_Constraints_p4_s (order_Constraints_p4_n i k1) k1 t85 t86 t87 out := rfl
def order_Constraints_p4 : order_Constraints_p4_T := order_Constraints_p4_n fuel
theorem order_Constraints_p4_ok : PieceOk Try.prog 106 0 order_Constraints_p4_code order_Constraints_p4_v order_Constraints_p4_o (order_Constraints_p4_G order_Constraints_p4) := order_Constraints_p4_ok' clock_Valid clock_When order_pair order_Constraints_Γ fuel
def order_Constraints : T_order_Constraints := order_Constraints_s clock_Valid order_Constraints_p1 order_Constraints_p3 order_Constraints_p4
theorem order_Constraints_ok : SpecOk Try.prog 64 (order_Constraints_S order_Constraints) := order_Constraints_ok' clock_Valid clock_When order_pair order_Constraints_Γ order_Constraints_p1 order_Constraints_p3 order_Constraints_p4 order_Constraints_p1_ok order_Constraints_p3_ok order_Constraints_p4_ok

/-- slices.IndexFunc[[]pagewatch/api.Diff,pagewatch/api.Diff] -/
abbrev T_slices_IndexFunc_api_Diff_api_Diff_vconstraint_Valid_f1 := {β : Type} → (List (Int × (Int × Int))) → Int → (Int → Int → Option β) → Option β
def slices_IndexFunc_api_Diff_api_Diff_vconstraint_Valid_f1_S (c : T_slices_IndexFunc_api_Diff_api_Diff_vconstraint_Valid_f1) : Spec :=
  ⟨[(false, [.data (.slice (.prod (.int .i64) (.prod (.int .i64) (.int .i64))))]), (false, [.fn 82 [0]])], [.cells 3 [.data (.int .i64)]], [(false, [.data (.int .i64)])], [.cells 3 [.data (.int .i64)]], fun x k => c x.1.1.1 x.2.1.1 (fun r0 r1 => k (((r0, ()), ()), ((r1, ()), ())))⟩
noncomputable def slices_IndexFunc_api_Diff_api_Diff_vconstraint_Valid_f1_p1_code : Code := codeAt 26 (bodyOf Try.f83)
abbrev slices_IndexFunc_api_Diff_api_Diff_vconstraint_Valid_f1_p1_K1 (β : Type) := Int → Int → Option β
abbrev slices_IndexFunc_api_Diff_api_Diff_vconstraint_Valid_f1_p1_K2 (β : Type) := Int → Option β
abbrev slices_IndexFunc_api_Diff_api_Diff_vconstraint_Valid_f1_p1_T := {β : Type} → slices_IndexFunc_api_Diff_api_Diff_vconstraint_Valid_f1_p1_K1 β → slices_IndexFunc_api_Diff_api_Diff_vconstraint_Valid_f1_p1_K2 β → (List (Int × (Int × Int))) → Int → Int → Int → Option β
def slices_IndexFunc_api_Diff_api_Diff_vconstraint_Valid_f1_p1_v : View := ⟨1, [0, 1, 7, 8], [(false, [.data (.slice (.prod (.int .i64) (.prod (.int .i64) (.int .i64))))]), (false, [.fn 82 [0]]), (false, [.data (.int .i64)]), (false, [.data (.int .i64)])], [.cells 3 [.data (.int .i64)]]⟩
def slices_IndexFunc_api_Diff_api_Diff_vconstraint_Valid_f1_p1_o : List (AExit × View) := [(.ret, ⟨1, [4], [(false, [.data (.int .i64)])], [.cells 3 [.data (.int .i64)]]⟩), (.exit 0, ⟨1, [], [], [.cells 3 [.data (.int .i64)]]⟩)]
@[reducible] def slices_IndexFunc_api_Diff_api_Diff_vconstraint_Valid_f1_p1_G (p : slices_IndexFunc_api_Diff_api_Diff_vconstraint_Valid_f1_p1_T) {β : Type} (d : slices_IndexFunc_api_Diff_api_Diff_vconstraint_Valid_f1_p1_v.den) (ks : Outs.K β slices_IndexFunc_api_Diff_api_Diff_vconstraint_Valid_f1_p1_o) : Option β :=
  p (fun a0 a1 => ks.1 (((a0, ()), ()), ((a1, ()), ()))) (fun a0 => ks.2.1 ((), ((a0, ()), ()))) d.1.1.1 d.1.2.2.1.1 d.1.2.2.2.1.1 d.2.1.1
section
variable (c_constraint_Valid_f1 : T_constraint_Valid_f1)
@[reducible] def slices_IndexFunc_api_Diff_api_Diff_vconstraint_Valid_f1_X : Ctx := ⟨look tab, pick1 [(82, .spec (constraint_Valid_f1_S c_constraint_Valid_f1))], false⟩
def slices_IndexFunc_api_Diff_api_Diff_vconstraint_Valid_f1_p1_s {β : Type} (rec : (List (Int × (Int × Int))) → Int → Int → Int → Option β) (k1 : slices_IndexFunc_api_Diff_api_Diff_vconstraint_Valid_f1_p1_K1 β) (k2 : slices_IndexFunc_api_Diff_api_Diff_vconstraint_Valid_f1_p1_K2 β) (s : List (Int × (Int × Int))) (t7 : Int) (t8 : Int) (b0_ : Int) : Option β :=
  cond (decide (t8 < t7))
  (cond (decide (0 ≤ t8) && decide (t8 < (List.length s : Int)))
  (let e : (Int × (Int × Int)) := List.getD s (Int.toNat t8) ((0 : Int), ((0 : Int), (0 : Int)));
  c_constraint_Valid_f1 e b0_ (fun (rValid1 : Bool) (mrValid1 : Int) =>
  cond rValid1
  (k1 t8 mrValid1)
  (rec s t7 (IntKind.i64.wrap (t8 + (1 : Int))) mrValid1)))
  none)
  (k2 b0_)
def slices_IndexFunc_api_Diff_api_Diff_vconstraint_Valid_f1_p1_l {β : Type} : Nat → slices_IndexFunc_api_Diff_api_Diff_vconstraint_Valid_f1_p1_K1 β → slices_IndexFunc_api_Diff_api_Diff_vconstraint_Valid_f1_p1_K2 β → (List (Int × (Int × Int))) → Int → Int → Int → Option β
  | 0 => fun _ _ _ _ _ _ => none
  | i + 1 => fun k1 k2 s t7 t8 b0_ => slices_IndexFunc_api_Diff_api_Diff_vconstraint_Valid_f1_p1_s c_constraint_Valid_f1 (slices_IndexFunc_api_Diff_api_Diff_vconstraint_Valid_f1_p1_l i k1 k2) k1 k2 s t7 t8 b0_
theorem slices_IndexFunc_api_Diff_api_Diff_vconstraint_Valid_f1_p1_ok' (hΓ : ΓOk Try.prog (slices_IndexFunc_api_Diff_api_Diff_vconstraint_Valid_f1_X c_constraint_Valid_f1).Γ) (i : Nat) : PieceOk Try.prog 19 1 slices_IndexFunc_api_Diff_api_Diff_vconstraint_Valid_f1_p1_code slices_IndexFunc_api_Diff_api_Diff_vconstraint_Valid_f1_p1_v slices_IndexFunc_api_Diff_api_Diff_vconstraint_Valid_f1_p1_o (slices_IndexFunc_api_Diff_api_Diff_vconstraint_Valid_f1_p1_G (slices_IndexFunc_api_Diff_api_Diff_vconstraint_Valid_f1_p1_l c_constraint_Valid_f1 i)) := by
  rw [show slices_IndexFunc_api_Diff_api_Diff_vconstraint_Valid_f1_p1_code = .loop (loopBody slices_IndexFunc_api_Diff_api_Diff_vconstraint_Valid_f1_p1_code) by kernel_rfl]
  exact piece_loop (X := (slices_IndexFunc_api_Diff_api_Diff_vconstraint_Valid_f1_X c_constraint_Valid_f1)) (p := 1) (Λ := pick1 []) (G := fun i => @fun β d ks => slices_IndexFunc_api_Diff_api_Diff_vconstraint_Valid_f1_p1_G (slices_IndexFunc_api_Diff_api_Diff_vconstraint_Valid_f1_p1_l c_constraint_Valid_f1 i) d ks) mixed tab_ok hΓ rfl (by kernel_rfl) CutsOk_nil (fun _ _ => rfl) (fun i => @fun β d ks r h => Eq.trans (b := slices_IndexFunc_api_Diff_api_Diff_vconstraint_Valid_f1_p1_G (slices_IndexFunc_api_Diff_api_Diff_vconstraint_Valid_f1_p1_l c_constraint_Valid_f1 (i + 1)) d ks) (by kernel_rfl) h) i
def slices_IndexFunc_api_Diff_api_Diff_vconstraint_Valid_f1_s (p1 : slices_IndexFunc_api_Diff_api_Diff_vconstraint_Valid_f1_p1_T) {β : Type} (s : List (Int × (Int × Int))) (b0_ : Int) (k : (Int → Int → Option β)) : Option β :=
  p1 (fun (t4 : Int) (b0_2 : Int) =>
  k t4 b0_2) (fun (b0_2 : Int) =>
  k (-1 : Int) b0_2) s (List.length s : Int) (0 : Int) b0_
theorem slices_IndexFunc_api_Diff_api_Diff_vconstraint_Valid_f1_ok' (hΓ : ΓOk Try.prog (slices_IndexFunc_api_Diff_api_Diff_vconstraint_Valid_f1_X c_constraint_Valid_f1).Γ) (p1 : slices_IndexFunc_api_Diff_api_Diff_vconstraint_Valid_f1_p1_T) (hp1 : PieceOk Try.prog 19 1 slices_IndexFunc_api_Diff_api_Diff_vconstraint_Valid_f1_p1_code slices_IndexFunc_api_Diff_api_Diff_vconstraint_Valid_f1_p1_v slices_IndexFunc_api_Diff_api_Diff_vconstraint_Valid_f1_p1_o (slices_IndexFunc_api_Diff_api_Diff_vconstraint_Valid_f1_p1_G p1)) : SpecOk Try.prog 83 (slices_IndexFunc_api_Diff_api_Diff_vconstraint_Valid_f1_S (slices_IndexFunc_api_Diff_api_Diff_vconstraint_Valid_f1_s p1)) :=
  spec_exec (X := (slices_IndexFunc_api_Diff_api_Diff_vconstraint_Valid_f1_X c_constraint_Valid_f1)) (Λ := pick1 [(26, pieceCut slices_IndexFunc_api_Diff_api_Diff_vconstraint_Valid_f1_p1_v slices_IndexFunc_api_Diff_api_Diff_vconstraint_Valid_f1_p1_o (slices_IndexFunc_api_Diff_api_Diff_vconstraint_Valid_f1_p1_G p1))]) (rs := [.tmp 4]) (c := bodyOf Try.f83) mixed tab_ok hΓ Try.func83 (by kernel_rfl) (by kernel_rfl) (by kernel_rfl) (by kernel_rfl) (CutsOk_cons (q := 26) (c' := slices_IndexFunc_api_Diff_api_Diff_vconstraint_Valid_f1_p1_code) (by kernel_rfl) rfl hp1 CutsOk_nil) (fun x k r h => Eq.trans (b := (slices_IndexFunc_api_Diff_api_Diff_vconstraint_Valid_f1_S (slices_IndexFunc_api_Diff_api_Diff_vconstraint_Valid_f1_s p1)).run x k) (by kernel_rfl) h)
end
theorem slices_IndexFunc_api_Diff_api_Diff_vconstraint_Valid_f1_Γ : ΓOk Try.prog (pick1 [(82, .spec (constraint_Valid_f1_S constraint_Valid_f1))]) := (ΓOk_cons constraint_Valid_f1_ok ΓOk_nil)
def slices_IndexFunc_api_Diff_api_Diff_vconstraint_Valid_f1_p1_n (m : Nat) : slices_IndexFunc_api_Diff_api_Diff_vconstraint_Valid_f1_p1_T := slices_IndexFunc_api_Diff_api_Diff_vconstraint_Valid_f1_p1_l constraint_Valid_f1 m
theorem slices_IndexFunc_api_Diff_api_Diff_vconstraint_Valid_f1_p1_step {β : Type} (i : Nat) (k1 k2 s t7 t8 b0_) : (slices_IndexFunc_api_Diff_api_Diff_vconstraint_Valid_f1_p1_n (i + 1) k1 k2 s t7 t8 b0_ : Option β) = slices_IndexFunc_api_Diff_api_Diff_vconstraint_Valid_f1_p1_s constraint_Valid_f1 (slices_IndexFunc_api_Diff_api_Diff_vconstraint_Valid_f1_p1_n i k1 k2) k1 k2 s t7 t8 b0_ := rfl
def slices_IndexFunc_api_Diff_api_Diff_vconstraint_Valid_f1_p1 : slices_IndexFunc_api_Diff_api_Diff_vconstraint_Valid_f1_p1_T := slices_IndexFunc_api_Diff_api_Diff_vconstraint_Valid_f1_p1_n fuel
theorem slices_IndexFunc_api_Diff_api_Diff_vconstraint_Valid_f1_p1_ok : PieceOk Try.prog 19 1 slices_IndexFunc_api_Diff_api_Diff_vconstraint_Valid_f1_p1_code slices_IndexFunc_api_Diff_api_Diff_vconstraint_Valid_f1_p1_v slices_IndexFunc_api_Diff_api_Diff_vconstraint_Valid_f1_p1_o (slices_IndexFunc_api_Diff_api_Diff_vconstraint_Valid_f1_p1_G slices_IndexFunc_api_Diff_api_Diff_vconstraint_Valid_f1_p1) := slices_IndexFunc_api_Diff_api_Diff_vconstraint_Valid_f1_p1_ok' constraint_Valid_f1 slices_IndexFunc_api_Diff_api_Diff_vconstraint_Valid_f1_Γ fuel
def slices_IndexFunc_api_Diff_api_Diff_vconstraint_Valid_f1 : T_slices_IndexFunc_api_Diff_api_Diff_vconstraint_Valid_f1 := slices_IndexFunc_api_Diff_api_Diff_vconstraint_Valid_f1_s slices_IndexFunc_api_Diff_api_Diff_vconstraint_Valid_f1_p1
theorem slices_IndexFunc_api_Diff_api_Diff_vconstraint_Valid_f1_ok : SpecOk Try.prog 83 (slices_IndexFunc_api_Diff_api_Diff_vconstraint_Valid_f1_S slices_IndexFunc_api_Diff_api_Diff_vconstraint_Valid_f1) := slices_IndexFunc_api_Diff_api_Diff_vconstraint_Valid_f1_ok' constraint_Valid_f1 slices_IndexFunc_api_Diff_api_Diff_vconstraint_Valid_f1_Γ slices_IndexFunc_api_Diff_api_Diff_vconstraint_Valid_f1_p1 slices_IndexFunc_api_Diff_api_Diff_vconstraint_Valid_f1_p1_ok

/-- slices.ContainsFunc[[]pagewatch/api.Diff,pagewatch/api.Diff] -/
abbrev T_slices_ContainsFunc_api_Diff_api_Diff_vconstraint_Valid_f1 := {β : Type} → (List (Int × (Int × Int))) → Int → (Bool → Int → Option β) → Option β
def slices_ContainsFunc_api_Diff_api_Diff_vconstraint_Valid_f1_S (c : T_slices_ContainsFunc_api_Diff_api_Diff_vconstraint_Valid_f1) : Spec :=
  ⟨[(false, [.data (.slice (.prod (.int .i64) (.prod (.int .i64) (.int .i64))))]), (false, [.fn 82 [0]])], [.cells 3 [.data (.int .i64)]], [(false, [.data .bool])], [.cells 3 [.data (.int .i64)]], fun x k => c x.1.1.1 x.2.1.1 (fun r0 r1 => k (((r0, ()), ()), ((r1, ()), ())))⟩
section
variable (c_slices_IndexFunc_api_Diff_api_Diff_vconstraint_Valid_f1 : T_slices_IndexFunc_api_Diff_api_Diff_vconstraint_Valid_f1)
@[reducible] def slices_ContainsFunc_api_Diff_api_Diff_vconstraint_Valid_f1_X : Ctx := ⟨look tab, pick1 [(83, .spec (slices_IndexFunc_api_Diff_api_Diff_vconstraint_Valid_f1_S c_slices_IndexFunc_api_Diff_api_Diff_vconstraint_Valid_f1))], false⟩
def slices_ContainsFunc_api_Diff_api_Diff_vconstraint_Valid_f1_s {β : Type} (s : List (Int × (Int × Int))) (b0_ : Int) (k : (Bool → Int → Option β)) : Option β :=
  c_slices_IndexFunc_api_Diff_api_Diff_vconstraint_Valid_f1 s b0_ (fun (rDiff : Int) (mrDiff : Int) =>
  let t : Bool := (decide ((0 : Int) ≤ rDiff));
  k t mrDiff)
theorem slices_ContainsFunc_api_Diff_api_Diff_vconstraint_Valid_f1_ok' (hΓ : ΓOk Try.prog (slices_ContainsFunc_api_Diff_api_Diff_vconstraint_Valid_f1_X c_slices_IndexFunc_api_Diff_api_Diff_vconstraint_Valid_f1).Γ) : SpecOk Try.prog 78 (slices_ContainsFunc_api_Diff_api_Diff_vconstraint_Valid_f1_S (slices_ContainsFunc_api_Diff_api_Diff_vconstraint_Valid_f1_s c_slices_IndexFunc_api_Diff_api_Diff_vconstraint_Valid_f1)) :=
  spec_exec (X := (slices_ContainsFunc_api_Diff_api_Diff_vconstraint_Valid_f1_X c_slices_IndexFunc_api_Diff_api_Diff_vconstraint_Valid_f1)) (Λ := pick1 []) (rs := [.tmp 4]) (c := bodyOf Try.f78) mixed tab_ok hΓ Try.func78 (by kernel_rfl) (by kernel_rfl) (by kernel_rfl) (by kernel_rfl) CutsOk_nil (fun x k r h => Eq.trans (b := (slices_ContainsFunc_api_Diff_api_Diff_vconstraint_Valid_f1_S (slices_ContainsFunc_api_Diff_api_Diff_vconstraint_Valid_f1_s c_slices_IndexFunc_api_Diff_api_Diff_vconstraint_Valid_f1)).run x k) (by kernel_rfl) h)
end
theorem slices_ContainsFunc_api_Diff_api_Diff_vconstraint_Valid_f1_Γ : ΓOk Try.prog (pick1 [(83, .spec (slices_IndexFunc_api_Diff_api_Diff_vconstraint_Valid_f1_S slices_IndexFunc_api_Diff_api_Diff_vconstraint_Valid_f1))]) := (ΓOk_cons slices_IndexFunc_api_Diff_api_Diff_vconstraint_Valid_f1_ok ΓOk_nil)
def slices_ContainsFunc_api_Diff_api_Diff_vconstraint_Valid_f1 : T_slices_ContainsFunc_api_Diff_api_Diff_vconstraint_Valid_f1 := slices_ContainsFunc_api_Diff_api_Diff_vconstraint_Valid_f1_s slices_IndexFunc_api_Diff_api_Diff_vconstraint_Valid_f1
theorem slices_ContainsFunc_api_Diff_api_Diff_vconstraint_Valid_f1_ok : SpecOk Try.prog 78 (slices_ContainsFunc_api_Diff_api_Diff_vconstraint_Valid_f1_S slices_ContainsFunc_api_Diff_api_Diff_vconstraint_Valid_f1) := slices_ContainsFunc_api_Diff_api_Diff_vconstraint_Valid_f1_ok' slices_IndexFunc_api_Diff_api_Diff_vconstraint_Valid_f1 slices_ContainsFunc_api_Diff_api_Diff_vconstraint_Valid_f1_Γ

/-- pagewatch/constraint.Valid -/
abbrev T_constraint_Valid := {β : Type} → Int → (List (Int × (Int × Int))) → (Bool → Option β) → Option β
def constraint_Valid_S (c : T_constraint_Valid) : Spec :=
  ⟨[(false, [.data (.int .i64)]), (false, [.data (.slice (.prod (.int .i64) (.prod (.int .i64) (.int .i64))))])], [], [(false, [.data .bool])], [], fun x k => c x.1.1.1 x.1.2.1.1 (fun r0 => k (((r0, ()), ()), ()))⟩
section
variable (c_constraint_in : T_constraint_in) (c_slices_ContainsFunc_api_Diff_api_Diff_vconstraint_Valid_f1 : T_slices_ContainsFunc_api_Diff_api_Diff_vconstraint_Valid_f1)
@[reducible] def constraint_Valid_X : Ctx := ⟨look tab, pick1 [(77, .spec (constraint_in_S c_constraint_in)), (78, .spec (slices_ContainsFunc_api_Diff_api_Diff_vconstraint_Valid_f1_S c_slices_ContainsFunc_api_Diff_api_Diff_vconstraint_Valid_f1))], false⟩
def constraint_Valid_s {β : Type} (n : Int) (l : List (Int × (Int × Int))) (k : (Bool → Option β)) : Option β :=
  c_constraint_in n (1 : Int) (41 : Int) (fun (rin : Bool) =>
  cond (!rin)
  (k false)
  (cond (decide ((4000 : Int) < (List.length l : Int)))
  (k false)
  (c_slices_ContainsFunc_api_Diff_api_Diff_vconstraint_Valid_f1 l n (fun (rDiff : Bool) (mrDiff : Int) =>
  k (!rDiff)))))
theorem constraint_Valid_ok' (hΓ : ΓOk Try.prog (constraint_Valid_X c_constraint_in c_slices_ContainsFunc_api_Diff_api_Diff_vconstraint_Valid_f1).Γ) : SpecOk Try.prog 75 (constraint_Valid_S (constraint_Valid_s c_constraint_in c_slices_ContainsFunc_api_Diff_api_Diff_vconstraint_Valid_f1)) :=
  spec_exec (X := (constraint_Valid_X c_constraint_in c_slices_ContainsFunc_api_Diff_api_Diff_vconstraint_Valid_f1)) (Λ := pick1 []) (rs := [.tmp 4]) (c := bodyOf Try.f75) mixed tab_ok hΓ Try.func75 (by kernel_rfl) (by kernel_rfl) (by kernel_rfl) (by kernel_rfl) CutsOk_nil (fun x k r h => Eq.trans (b := (constraint_Valid_S (constraint_Valid_s c_constraint_in c_slices_ContainsFunc_api_Diff_api_Diff_vconstraint_Valid_f1)).run x k) (by kernel_rfl) h)
end
theorem constraint_Valid_Γ : ΓOk Try.prog (pick1 [(77, .spec (constraint_in_S constraint_in)), (78, .spec (slices_ContainsFunc_api_Diff_api_Diff_vconstraint_Valid_f1_S slices_ContainsFunc_api_Diff_api_Diff_vconstraint_Valid_f1))]) := (ΓOk_cons constraint_in_ok (ΓOk_cons slices_ContainsFunc_api_Diff_api_Diff_vconstraint_Valid_f1_ok ΓOk_nil))
def constraint_Valid : T_constraint_Valid := constraint_Valid_s constraint_in slices_ContainsFunc_api_Diff_api_Diff_vconstraint_Valid_f1
theorem constraint_Valid_ok : SpecOk Try.prog 75 (constraint_Valid_S constraint_Valid) := constraint_Valid_ok' constraint_in slices_ContainsFunc_api_Diff_api_Diff_vconstraint_Valid_f1 constraint_Valid_Γ

/-- pagewatch/constraint.Close -/
abbrev T_constraint_Close := {β : Type} → Int → (List (Int × (Int × Int))) → ((List (List Int)) → Bool → Option β) → Option β
def constraint_Close_S (c : T_constraint_Close) : Spec :=
  ⟨[(false, [.data (.int .i64)]), (false, [.data (.slice (.prod (.int .i64) (.prod (.int .i64) (.int .i64))))])], [], [(false, [.data (.slice (.slice (.int .i64)))]), (false, [.data .bool])], [], fun x k => c x.1.1.1 x.1.2.1.1 (fun r0 r1 => k (((r0, ()), (r1, ()), ()), ()))⟩
noncomputable def constraint_Close_p1_code : Code := codeAt 122 (bodyOf Try.f72)
noncomputable def constraint_Close_p5_code : Code := codeAt 250 (bodyOf Try.f72)
noncomputable def constraint_Close_p6_code : Code := codeAt 506 (bodyOf Try.f72)
noncomputable def constraint_Close_p4_code : Code := codeAt 458 (loopBody constraint_Close_p5_code)
noncomputable def constraint_Close_p3_code : Code := codeAt 230 (loopBody constraint_Close_p4_code)
noncomputable def constraint_Close_p2_code : Code := codeAt 115 (loopBody constraint_Close_p3_code)
abbrev constraint_Close_p1_K1 (β : Type) := Int → (List (List Int)) → Option β
abbrev constraint_Close_p1_T := {β : Type} → constraint_Close_p1_K1 β → Int → Int → Int → (List (List Int)) → Option β
def constraint_Close_p1_v : View := ⟨0, [0, 6, 19, 20], [(false, [.data (.int .i64)]), (false, [.math 0]), (false, [.data (.int .i64)]), (false, [.data (.int .i64)])], [.mat 27 3 (.int .i64)]⟩
def constraint_Close_p1_o : List (AExit × View) := [(.exit 0, ⟨0, [0, 6], [(false, [.data (.int .i64)]), (false, [.math 0])], [.mat 27 3 (.int .i64)]⟩)]
@[reducible] def constraint_Close_p1_G (p : constraint_Close_p1_T) {β : Type} (d : constraint_Close_p1_v.den) (ks : Outs.K β constraint_Close_p1_o) : Option β :=
  p (fun a0 a1 => ks.1 (((a0, ()), (), ()), (a1, ()))) d.1.1.1 d.1.2.2.1.1 d.1.2.2.2.1.1 d.2.1
abbrev constraint_Close_p2_K1 (β : Type) := Int → Int → Int → Int → Int → Int → Int → Int → Int → (List (List Int)) → Option β
abbrev constraint_Close_p2_T := {β : Type} → constraint_Close_p2_K1 β → Int → Int → Int → Int → Int → Int → Int → Int → Int → Int → Bool → (List (List Int)) → Option β
def constraint_Close_p2_v : View := ⟨0, [0, 6, 8, 9, 10, 38, 39, 42, 43, 46, 47, 67], [(false, [.data (.int .i64)]), (false, [.math 0]), (false, [.data (.int .i64)]), (false, [.data (.int .i64)]), (false, [.data (.int .i64)]), (false, [.data (.int .i64)]), (false, [.data (.int .i64)]), (false, [.data (.int .i64)]), (false, [.data (.int .i64)]), (false, [.data (.int .i64)]), (false, [.data (.int .i64)]), (false, [.data .bool])], [.mat 27 3 (.int .i64)]⟩
def constraint_Close_p2_o : List (AExit × View) := [(.normal, ⟨0, [0, 6, 8, 9, 38, 39, 42, 43, 46, 47], [(false, [.data (.int .i64)]), (false, [.math 0]), (false, [.data (.int .i64)]), (false, [.data (.int .i64)]), (false, [.data (.int .i64)]), (false, [.data (.int .i64)]), (false, [.data (.int .i64)]), (false, [.data (.int .i64)]), (false, [.data (.int .i64)]), (false, [.data (.int .i64)])], [.mat 27 3 (.int .i64)]⟩)]
@[reducible] def constraint_Close_p2_G (p : constraint_Close_p2_T) {β : Type} (d : constraint_Close_p2_v.den) (ks : Outs.K β constraint_Close_p2_o) : Option β :=
  p (fun a0 a1 a2 a3 a4 a5 a6 a7 a8 a9 => ks.1 (((a0, ()), (), (a1, ()), (a2, ()), (a3, ()), (a4, ()), (a5, ()), (a6, ()), (a7, ()), (a8, ()), ()), (a9, ()))) d.1.1.1 d.1.2.2.1.1 d.1.2.2.2.1.1 d.1.2.2.2.2.1.1 d.1.2.2.2.2.2.1.1 d.1.2.2.2.2.2.2.1.1 d.1.2.2.2.2.2.2.2.1.1 d.1.2.2.2.2.2.2.2.2.1.1 d.1.2.2.2.2.2.2.2.2.2.1.1 d.1.2.2.2.2.2.2.2.2.2.2.1.1 d.1.2.2.2.2.2.2.2.2.2.2.2.1.1 d.2.1
abbrev constraint_Close_p3_K1 (β : Type) := Int → Int → Int → Int → Int → Int → (List (List Int)) → Option β
abbrev constraint_Close_p3_T := {β : Type} → constraint_Close_p3_K1 β → Int → Int → Int → Int → Int → Int → Int → Int → Int → (List (List Int)) → Option β
def constraint_Close_p3_v : View := ⟨0, [0, 6, 8, 9, 38, 39, 42, 43, 46, 47], [(false, [.data (.int .i64)]), (false, [.math 0]), (false, [.data (.int .i64)]), (false, [.data (.int .i64)]), (false, [.data (.int .i64)]), (false, [.data (.int .i64)]), (false, [.data (.int .i64)]), (false, [.data (.int .i64)]), (false, [.data (.int .i64)]), (false, [.data (.int .i64)])], [.mat 27 3 (.int .i64)]⟩
def constraint_Close_p3_o : List (AExit × View) := [(.exit 6, ⟨0, [0, 6, 8, 38, 39, 42, 43], [(false, [.data (.int .i64)]), (false, [.math 0]), (false, [.data (.int .i64)]), (false, [.data (.int .i64)]), (false, [.data (.int .i64)]), (false, [.data (.int .i64)]), (false, [.data (.int .i64)])], [.mat 27 3 (.int .i64)]⟩)]
@[reducible] def constraint_Close_p3_G (p : constraint_Close_p3_T) {β : Type} (d : constraint_Close_p3_v.den) (ks : Outs.K β constraint_Close_p3_o) : Option β :=
  p (fun a0 a1 a2 a3 a4 a5 a6 => ks.1 (((a0, ()), (), (a1, ()), (a2, ()), (a3, ()), (a4, ()), (a5, ()), ()), (a6, ()))) d.1.1.1 d.1.2.2.1.1 d.1.2.2.2.1.1 d.1.2.2.2.2.1.1 d.1.2.2.2.2.2.1.1 d.1.2.2.2.2.2.2.1.1 d.1.2.2.2.2.2.2.2.1.1 d.1.2.2.2.2.2.2.2.2.1.1 d.1.2.2.2.2.2.2.2.2.2.1.1 d.2.1
abbrev constraint_Close_p4_K1 (β : Type) := Int → Int → Int → Int → (List (List Int)) → Option β
abbrev constraint_Close_p4_T := {β : Type} → constraint_Close_p4_K1 β → Int → Int → Int → Int → Int → Int → (List (List Int)) → Option β
def constraint_Close_p4_v : View := ⟨0, [0, 6, 8, 38, 39, 42, 43], [(false, [.data (.int .i64)]), (false, [.math 0]), (false, [.data (.int .i64)]), (false, [.data (.int .i64)]), (false, [.data (.int .i64)]), (false, [.data (.int .i64)]), (false, [.data (.int .i64)])], [.mat 27 3 (.int .i64)]⟩
def constraint_Close_p4_o : List (AExit × View) := [(.exit 4, ⟨0, [0, 6, 8, 38, 39], [(false, [.data (.int .i64)]), (false, [.math 0]), (false, [.data (.int .i64)]), (false, [.data (.int .i64)]), (false, [.data (.int .i64)])], [.mat 27 3 (.int .i64)]⟩)]
@[reducible] def constraint_Close_p4_G (p : constraint_Close_p4_T) {β : Type} (d : constraint_Close_p4_v.den) (ks : Outs.K β constraint_Close_p4_o) : Option β :=
  p (fun a0 a1 a2 a3 a4 => ks.1 (((a0, ()), (), (a1, ()), (a2, ()), (a3, ()), ()), (a4, ()))) d.1.1.1 d.1.2.2.1.1 d.1.2.2.2.1.1 d.1.2.2.2.2.1.1 d.1.2.2.2.2.2.1.1 d.1.2.2.2.2.2.2.1.1 d.2.1
abbrev constraint_Close_p5_K1 (β : Type) := Bool → (List (List Int)) → Option β
abbrev constraint_Close_p5_K2 (β : Type) := Int → (List (List Int)) → Option β
abbrev constraint_Close_p5_T := {β : Type} → constraint_Close_p5_K1 β → constraint_Close_p5_K2 β → Int → Int → Int → (List (List Int)) → Option β
def constraint_Close_p5_v : View := ⟨0, [0, 6, 38, 39], [(false, [.data (.int .i64)]), (false, [.math 0]), (false, [.data (.int .i64)]), (false, [.data (.int .i64)])], [.mat 27 3 (.int .i64)]⟩
def constraint_Close_p5_o : List (AExit × View) := [(.ret, ⟨0, [4, 5], [(false, [.math 0]), (false, [.data .bool])], [.mat 27 3 (.int .i64)]⟩), (.exit 2, ⟨0, [0, 6], [(false, [.data (.int .i64)]), (false, [.math 0])], [.mat 27 3 (.int .i64)]⟩)]
@[reducible] def constraint_Close_p5_G (p : constraint_Close_p5_T) {β : Type} (d : constraint_Close_p5_v.den) (ks : Outs.K β constraint_Close_p5_o) : Option β :=
  p (fun a0 a1 => ks.1 (((), (a0, ()), ()), (a1, ()))) (fun a0 a1 => ks.2.1 (((a0, ()), (), ()), (a1, ()))) d.1.1.1 d.1.2.2.1.1 d.1.2.2.2.1.1 d.2.1
abbrev constraint_Close_p6_K1 (β : Type) := Bool → (List (List Int)) → Option β
abbrev constraint_Close_p6_K2 (β : Type) := (List (List Int)) → Option β
abbrev constraint_Close_p6_T := {β : Type} → constraint_Close_p6_K1 β → constraint_Close_p6_K2 β → Int → Int → (List (List Int)) → Option β
def constraint_Close_p6_v : View := ⟨0, [6, 108, 109], [(false, [.math 0]), (false, [.data (.int .i64)]), (false, [.data (.int .i64)])], [.mat 27 3 (.int .i64)]⟩
def constraint_Close_p6_o : List (AExit × View) := [(.ret, ⟨0, [4, 5], [(false, [.math 0]), (false, [.data .bool])], [.mat 27 3 (.int .i64)]⟩), (.exit 8, ⟨0, [6], [(false, [.math 0])], [.mat 27 3 (.int .i64)]⟩)]
@[reducible] def constraint_Close_p6_G (p : constraint_Close_p6_T) {β : Type} (d : constraint_Close_p6_v.den) (ks : Outs.K β constraint_Close_p6_o) : Option β :=
  p (fun a0 a1 => ks.1 (((), (a0, ()), ()), (a1, ()))) (fun a0 => ks.2.1 (((), ()), (a0, ()))) d.1.2.1.1 d.1.2.2.1.1 d.2.1
section
variable (c_constraint_Valid : T_constraint_Valid) (c_constraint_direct : T_constraint_direct)
@[reducible] def constraint_Close_X : Ctx := ⟨look tab, pick1 [(75, .spec (constraint_Valid_S c_constraint_Valid)), (81, .spec (constraint_direct_S c_constraint_direct))], true⟩
def constraint_Close_p1_s {β : Type} (rec : Int → Int → Int → (List (List Int)) → Option β) (k1 : constraint_Close_p1_K1 β) (n : Int) (t19 : Int) (t20 : Int) (m : List (List Int)) : Option β :=
  cond (decide (t20 < t19))
  (cond (decide (0 ≤ t20) && decide (t20 < (List.length m : Int)))
  (cond (decide (0 ≤ t20) && decide (t20 < (List.length m : Int)))
  (cond (decide (0 ≤ t20) && decide (t20 < (List.length (List.getD m (Int.toNat t20) []) : Int)))
  (cond (decide (0 ≤ t20) && decide (t20 < (List.length (List.getD m (Int.toNat t20) []) : Int)))
  (let m_ : List (List Int) := (List.set m (Int.toNat t20) (List.set (List.getD m (Int.toNat t20) []) (Int.toNat t20) (if (0 : Int) < (List.getD (List.getD m (Int.toNat t20) []) (Int.toNat t20) (0 : Int)) then (0 : Int) else (List.getD (List.getD m (Int.toNat t20) []) (Int.toNat t20) (0 : Int)))));
  rec n t19 (IntKind.i64.wrap (t20 + (1 : Int))) m_)
  none)
  none)
  none)
  none)
  (k1 n m)
def constraint_Close_p1_l {β : Type} : Nat → constraint_Close_p1_K1 β → Int → Int → Int → (List (List Int)) → Option β
  | 0 => fun _ _ _ _ _ => none
  | i + 1 => fun k1 n t19 t20 m => constraint_Close_p1_s (constraint_Close_p1_l i k1) k1 n t19 t20 m
theorem constraint_Close_p1_ok' (hΓ : ΓOk Try.prog (constraint_Close_X c_constraint_Valid c_constraint_direct).Γ) (i : Nat) : PieceOk Try.prog 122 0 constraint_Close_p1_code constraint_Close_p1_v constraint_Close_p1_o (constraint_Close_p1_G (constraint_Close_p1_l i)) := by
  rw [show constraint_Close_p1_code = .loop (loopBody constraint_Close_p1_code) by kernel_rfl]
  exact piece_loop (X := (constraint_Close_X c_constraint_Valid c_constraint_direct)) (p := 1) (Λ := pick1 []) (G := fun i => @fun β d ks => constraint_Close_p1_G (constraint_Close_p1_l i) d ks) mixed tab_ok hΓ rfl (by kernel_rfl) CutsOk_nil (fun _ _ => rfl) (fun i => @fun β d ks r h => Eq.trans (b := constraint_Close_p1_G (constraint_Close_p1_l (i + 1)) d ks) (by kernel_rfl) h) i
def constraint_Close_p2_s {β : Type} (k1 : constraint_Close_p2_K1 β) (n : Int) (k_ : Int) (i_ : Int) (j : Int) (t38 : Int) (t39 : Int) (t42 : Int) (t43 : Int) (t46 : Int) (t47 : Int) (t67 : Bool) (m : List (List Int)) : Option β :=
  cond t67
  (cond (decide (0 ≤ i_) && decide (i_ < (List.length m : Int)))
  (cond (decide (0 ≤ i_) && decide (i_ < (List.length m : Int)))
  (cond (decide (0 ≤ j) && decide (j < (List.length (List.getD m (Int.toNat i_) []) : Int)))
  (cond (decide (0 ≤ i_) && decide (i_ < (List.length m : Int)))
  (cond (decide (0 ≤ k_) && decide (k_ < (List.length (List.getD m (Int.toNat i_) []) : Int)))
  (cond (decide (0 ≤ k_) && decide (k_ < (List.length m : Int)))
  (cond (decide (0 ≤ j) && decide (j < (List.length (List.getD m (Int.toNat k_) []) : Int)))
  (cond (decide (0 ≤ j) && decide (j < (List.length (List.getD m (Int.toNat i_) []) : Int)))
  (let m_ : List (List Int) := (List.set m (Int.toNat i_) (List.set (List.getD m (Int.toNat i_) []) (Int.toNat j) (if (IntKind.i64.wrap ((List.getD (List.getD m (Int.toNat i_) []) (Int.toNat k_) (0 : Int)) + (List.getD (List.getD m (Int.toNat k_) []) (Int.toNat j) (0 : Int)))) < (List.getD (List.getD m (Int.toNat i_) []) (Int.toNat j) (0 : Int)) then (IntKind.i64.wrap ((List.getD (List.getD m (Int.toNat i_) []) (Int.toNat k_) (0 : Int)) + (List.getD (List.getD m (Int.toNat k_) []) (Int.toNat j) (0 : Int)))) else (List.getD (List.getD m (Int.toNat i_) []) (Int.toNat j) (0 : Int)))));
  k1 n k_ i_ t38 t39 t42 t43 t46 t47 m_)
  none)
  none)
  none)
  none)
  none)
  none)
  none)
  none)
  (k1 n k_ i_ t38 t39 t42 t43 t46 t47 m)
def constraint_Close_p2_u {β : Type} (k1 : constraint_Close_p2_K1 β) (n : Int) (k_ : Int) (i_ : Int) (j : Int) (t38 : Int) (t39 : Int) (t42 : Int) (t43 : Int) (t46 : Int) (t47 : Int) (t67 : Bool) (m : List (List Int)) : Option β := constraint_Close_p2_s k1 n k_ i_ j t38 t39 t42 t43 t46 t47 t67 m
theorem constraint_Close_p2_ok' (hΓ : ΓOk Try.prog (constraint_Close_X c_constraint_Valid c_constraint_direct).Γ) : PieceOk Try.prog 122 0 constraint_Close_p2_code constraint_Close_p2_v constraint_Close_p2_o (constraint_Close_p2_G (constraint_Close_p2_u)) :=
  piece_exec (X := (constraint_Close_X c_constraint_Valid c_constraint_direct)) (p := 115) (Λ := pick1 []) mixed tab_ok hΓ (by kernel_rfl) CutsOk_nil (fun d ks r h => Eq.trans (b := constraint_Close_p2_G (constraint_Close_p2_u) d ks) (by kernel_rfl) h)
def constraint_Close_p3_s (p2 : constraint_Close_p2_T) {β : Type} (rec : Int → Int → Int → Int → Int → Int → Int → Int → Int → (List (List Int)) → Option β) (k1 : constraint_Close_p3_K1 β) (n : Int) (k_ : Int) (i_ : Int) (t38 : Int) (t39 : Int) (t42 : Int) (t43 : Int) (t46 : Int) (t47 : Int) (m : List (List Int)) : Option β :=
  cond (decide (t47 < t46))
  (cond (decide (0 ≤ i_) && decide (i_ < (List.length m : Int)))
  (cond (decide (0 ≤ k_) && decide (k_ < (List.length (List.getD m (Int.toNat i_) []) : Int)))
  (cond (!decide ((List.getD (List.getD m (Int.toNat i_) []) (Int.toNat k_) (0 : Int)) = (1099511627776 : Int)))
  (cond (decide (0 ≤ k_) && decide (k_ < (List.length m : Int)))
  (cond (decide (0 ≤ t47) && decide (t47 < (List.length (List.getD m (Int.toNat k_) []) : Int)))
  (p2 (fun (n2 : Int) (k_2 : Int) (i_2 : Int) (t382 : Int) (t392 : Int) (t422 : Int) (t432 : Int) (t462 : Int) (t472 : Int) (m2 : List (List Int)) =>
  rec n2 k_2 i_2 t382 t392 t422 t432 t462 (IntKind.i64.wrap (t472 + (1 : Int))) m2) n k_ i_ t47 t38 t39 t42 t43 t46 t47 (!decide ((List.getD (List.getD m (Int.toNat k_) []) (Int.toNat t47) (0 : Int)) = (1099511627776 : Int))) m)
  none)
  none)
  (p2 (fun (n2 : Int) (k_2 : Int) (i_2 : Int) (t382 : Int) (t392 : Int) (t422 : Int) (t432 : Int) (t462 : Int) (t472 : Int) (m2 : List (List Int)) =>
  rec n2 k_2 i_2 t382 t392 t422 t432 t462 (IntKind.i64.wrap (t472 + (1 : Int))) m2) n k_ i_ t47 t38 t39 t42 t43 t46 t47 false m))
  none)
  none)
  (k1 n k_ t38 t39 t42 t43 m)
def constraint_Close_p3_l (p2 : constraint_Close_p2_T) {β : Type} : Nat → constraint_Close_p3_K1 β → Int → Int → Int → Int → Int → Int → Int → Int → Int → (List (List Int)) → Option β
  | 0 => fun _ _ _ _ _ _ _ _ _ _ _ => none
  | i + 1 => fun k1 n k_ i_ t38 t39 t42 t43 t46 t47 m => constraint_Close_p3_s p2 (constraint_Close_p3_l p2 i k1) k1 n k_ i_ t38 t39 t42 t43 t46 t47 m
theorem constraint_Close_p3_ok' (hΓ : ΓOk Try.prog (constraint_Close_X c_constraint_Valid c_constraint_direct).Γ) (p2 : constraint_Close_p2_T) (hp2 : PieceOk Try.prog 122 0 constraint_Close_p2_code constraint_Close_p2_v constraint_Close_p2_o (constraint_Close_p2_G p2)) (i : Nat) : PieceOk Try.prog 122 0 constraint_Close_p3_code constraint_Close_p3_v constraint_Close_p3_o (constraint_Close_p3_G (constraint_Close_p3_l p2 i)) := by
  rw [show constraint_Close_p3_code = .loop (loopBody constraint_Close_p3_code) by kernel_rfl]
  exact piece_loop (X := (constraint_Close_X c_constraint_Valid c_constraint_direct)) (p := 1) (Λ := pick1 [(115, pieceCut constraint_Close_p2_v constraint_Close_p2_o (constraint_Close_p2_G p2))]) (G := fun i => @fun β d ks => constraint_Close_p3_G (constraint_Close_p3_l p2 i) d ks) mixed tab_ok hΓ rfl (by kernel_rfl) (CutsOk_cons (q := 115) (c' := constraint_Close_p2_code) (by kernel_rfl) rfl hp2 CutsOk_nil) (fun _ _ => rfl) (fun i => @fun β d ks r h => Eq.trans (b := constraint_Close_p3_G (constraint_Close_p3_l p2 (i + 1)) d ks) (by kernel_rfl) h) i
def constraint_Close_p4_s (p3 : constraint_Close_p3_T) {β : Type} (rec : Int → Int → Int → Int → Int → Int → (List (List Int)) → Option β) (k1 : constraint_Close_p4_K1 β) (n : Int) (k_ : Int) (t38 : Int) (t39 : Int) (t42 : Int) (t43 : Int) (m : List (List Int)) : Option β :=
  cond (decide (t43 < t42))
  (p3 (fun (n2 : Int) (k_2 : Int) (t382 : Int) (t392 : Int) (t422 : Int) (t432 : Int) (m2 : List (List Int)) =>
  rec n2 k_2 t382 t392 t422 (IntKind.i64.wrap (t432 + (1 : Int))) m2) n k_ t43 t38 t39 t42 t43 n (0 : Int) m)
  (k1 n k_ t38 t39 m)
def constraint_Close_p4_l (p3 : constraint_Close_p3_T) {β : Type} : Nat → constraint_Close_p4_K1 β → Int → Int → Int → Int → Int → Int → (List (List Int)) → Option β
  | 0 => fun _ _ _ _ _ _ _ _ => none
  | i + 1 => fun k1 n k_ t38 t39 t42 t43 m => constraint_Close_p4_s p3 (constraint_Close_p4_l p3 i k1) k1 n k_ t38 t39 t42 t43 m
theorem constraint_Close_p4_ok' (hΓ : ΓOk Try.prog (constraint_Close_X c_constraint_Valid c_constraint_direct).Γ) (p3 : constraint_Close_p3_T) (hp3 : PieceOk Try.prog 122 0 constraint_Close_p3_code constraint_Close_p3_v constraint_Close_p3_o (constraint_Close_p3_G p3)) (i : Nat) : PieceOk Try.prog 122 0 constraint_Close_p4_code constraint_Close_p4_v constraint_Close_p4_o (constraint_Close_p4_G (constraint_Close_p4_l p3 i)) := by
  rw [show constraint_Close_p4_code = .loop (loopBody constraint_Close_p4_code) by kernel_rfl]
  exact piece_loop (X := (constraint_Close_X c_constraint_Valid c_constraint_direct)) (p := 1) (Λ := pick1 [(230, pieceCut constraint_Close_p3_v constraint_Close_p3_o (constraint_Close_p3_G p3))]) (G := fun i => @fun β d ks => constraint_Close_p4_G (constraint_Close_p4_l p3 i) d ks) mixed tab_ok hΓ rfl (by kernel_rfl) (CutsOk_cons (q := 230) (c' := constraint_Close_p3_code) (by kernel_rfl) rfl hp3 CutsOk_nil) (fun _ _ => rfl) (fun i => @fun β d ks r h => Eq.trans (b := constraint_Close_p4_G (constraint_Close_p4_l p3 (i + 1)) d ks) (by kernel_rfl) h) i
def constraint_Close_p5_s (p4 : constraint_Close_p4_T) {β : Type} (rec : Int → Int → Int → (List (List Int)) → Option β) (k1 : constraint_Close_p5_K1 β) (k2 : constraint_Close_p5_K2 β) (n : Int) (t38 : Int) (t39 : Int) (m : List (List Int)) : Option β :=
  cond (decide (t39 < t38))
  (p4 (fun (n2 : Int) (k_ : Int) (t382 : Int) (t392 : Int) (m2 : List (List Int)) =>
  cond (decide (0 ≤ k_) && decide (k_ < (List.length m2 : Int)))
  (cond (decide (0 ≤ k_) && decide (k_ < (List.length (List.getD m2 (Int.toNat k_) []) : Int)))
  (cond (decide ((List.getD (List.getD m2 (Int.toNat k_) []) (Int.toNat k_) (0 : Int)) < (0 : Int)))
  (k1 false ([] : List (List Int)))
  (rec n2 t382 (IntKind.i64.wrap (t392 + (1 : Int))) m2))
  none)
  none) n t39 t38 t39 n (0 : Int) m)
  (k2 n m)
def constraint_Close_p5_l (p4 : constraint_Close_p4_T) {β : Type} : Nat → constraint_Close_p5_K1 β → constraint_Close_p5_K2 β → Int → Int → Int → (List (List Int)) → Option β
  | 0 => fun _ _ _ _ _ _ => none
  | i + 1 => fun k1 k2 n t38 t39 m => constraint_Close_p5_s p4 (constraint_Close_p5_l p4 i k1 k2) k1 k2 n t38 t39 m
theorem constraint_Close_p5_ok' (hΓ : ΓOk Try.prog (constraint_Close_X c_constraint_Valid c_constraint_direct).Γ) (p4 : constraint_Close_p4_T) (hp4 : PieceOk Try.prog 122 0 constraint_Close_p4_code constraint_Close_p4_v constraint_Close_p4_o (constraint_Close_p4_G p4)) (i : Nat) : PieceOk Try.prog 122 0 constraint_Close_p5_code constraint_Close_p5_v constraint_Close_p5_o (constraint_Close_p5_G (constraint_Close_p5_l p4 i)) := by
  rw [show constraint_Close_p5_code = .loop (loopBody constraint_Close_p5_code) by kernel_rfl]
  exact piece_loop (X := (constraint_Close_X c_constraint_Valid c_constraint_direct)) (p := 1) (Λ := pick1 [(458, pieceCut constraint_Close_p4_v constraint_Close_p4_o (constraint_Close_p4_G p4))]) (G := fun i => @fun β d ks => constraint_Close_p5_G (constraint_Close_p5_l p4 i) d ks) mixed tab_ok hΓ rfl (by kernel_rfl) (CutsOk_cons (q := 458) (c' := constraint_Close_p4_code) (by kernel_rfl) rfl hp4 CutsOk_nil) (fun _ _ => rfl) (fun i => @fun β d ks r h => Eq.trans (b := constraint_Close_p5_G (constraint_Close_p5_l p4 (i + 1)) d ks) (by kernel_rfl) h) i
def constraint_Close_p6_s {β : Type} (rec : Int → Int → (List (List Int)) → Option β) (k1 : constraint_Close_p6_K1 β) (k2 : constraint_Close_p6_K2 β) (t108 : Int) (t109 : Int) (m : List (List Int)) : Option β :=
  cond (decide (t109 < t108))
  (cond (decide (0 ≤ t109) && decide (t109 < (List.length m : Int)))
  (cond (decide (0 ≤ t109) && decide (t109 < (List.length (List.getD m (Int.toNat t109) []) : Int)))
  (cond (decide ((List.getD (List.getD m (Int.toNat t109) []) (Int.toNat t109) (0 : Int)) < (0 : Int)))
  (k1 false ([] : List (List Int)))
  (rec t108 (IntKind.i64.wrap (t109 + (1 : Int))) m))
  none)
  none)
  (k2 m)
def constraint_Close_p6_l {β : Type} : Nat → constraint_Close_p6_K1 β → constraint_Close_p6_K2 β → Int → Int → (List (List Int)) → Option β
  | 0 => fun _ _ _ _ _ => none
  | i + 1 => fun k1 k2 t108 t109 m => constraint_Close_p6_s (constraint_Close_p6_l i k1 k2) k1 k2 t108 t109 m
theorem constraint_Close_p6_ok' (hΓ : ΓOk Try.prog (constraint_Close_X c_constraint_Valid c_constraint_direct).Γ) (i : Nat) : PieceOk Try.prog 122 0 constraint_Close_p6_code constraint_Close_p6_v constraint_Close_p6_o (constraint_Close_p6_G (constraint_Close_p6_l i)) := by
  rw [show constraint_Close_p6_code = .loop (loopBody constraint_Close_p6_code) by kernel_rfl]
  exact piece_loop (X := (constraint_Close_X c_constraint_Valid c_constraint_direct)) (p := 1) (Λ := pick1 []) (G := fun i => @fun β d ks => constraint_Close_p6_G (constraint_Close_p6_l i) d ks) mixed tab_ok hΓ rfl (by kernel_rfl) CutsOk_nil (fun _ _ => rfl) (fun i => @fun β d ks r h => Eq.trans (b := constraint_Close_p6_G (constraint_Close_p6_l (i + 1)) d ks) (by kernel_rfl) h) i
def constraint_Close_s (p1 : constraint_Close_p1_T) (p5 : constraint_Close_p5_T) (p6 : constraint_Close_p6_T) {β : Type} (n : Int) (l : List (Int × (Int × Int))) (k : ((List (List Int)) → Bool → Option β)) : Option β :=
  c_constraint_Valid n l (fun (rValid : Bool) =>
  cond (!rValid)
  (k ([] : List (List Int)) false)
  (c_constraint_direct n l (fun (lrdirect : List (List Int)) =>
  p1 (fun (n2 : Int) (m : List (List Int)) =>
  p5 (fun (t5 : Bool) (t4 : List (List Int)) =>
  k t4 t5) (fun (n3 : Int) (m2 : List (List Int)) =>
  p6 (fun (t5 : Bool) (t4 : List (List Int)) =>
  k t4 t5) (fun (m3 : List (List Int)) =>
  k m3 true) n3 (0 : Int) m2) n2 n2 (0 : Int) m) n n (0 : Int) lrdirect)))
theorem constraint_Close_ok' (hΓ : ΓOk Try.prog (constraint_Close_X c_constraint_Valid c_constraint_direct).Γ) (p1 : constraint_Close_p1_T) (p5 : constraint_Close_p5_T) (p6 : constraint_Close_p6_T) (hp1 : PieceOk Try.prog 122 0 constraint_Close_p1_code constraint_Close_p1_v constraint_Close_p1_o (constraint_Close_p1_G p1)) (hp5 : PieceOk Try.prog 122 0 constraint_Close_p5_code constraint_Close_p5_v constraint_Close_p5_o (constraint_Close_p5_G p5)) (hp6 : PieceOk Try.prog 122 0 constraint_Close_p6_code constraint_Close_p6_v constraint_Close_p6_o (constraint_Close_p6_G p6)) : SpecOk Try.prog 72 (constraint_Close_S (constraint_Close_s c_constraint_Valid c_constraint_direct p1 p5 p6)) :=
  spec_exec (X := (constraint_Close_X c_constraint_Valid c_constraint_direct)) (Λ := pick1 [(122, pieceCut constraint_Close_p1_v constraint_Close_p1_o (constraint_Close_p1_G p1)), (250, pieceCut constraint_Close_p5_v constraint_Close_p5_o (constraint_Close_p5_G p5)), (506, pieceCut constraint_Close_p6_v constraint_Close_p6_o (constraint_Close_p6_G p6))]) (rs := [.tmp 4, .tmp 5]) (c := bodyOf Try.f72) mixed tab_ok hΓ Try.func72 (by kernel_rfl) (by kernel_rfl) (by kernel_rfl) (by kernel_rfl) (CutsOk_cons (q := 122) (c' := constraint_Close_p1_code) (by kernel_rfl) rfl hp1 (CutsOk_cons (q := 250) (c' := constraint_Close_p5_code) (by kernel_rfl) rfl hp5 (CutsOk_cons (q := 506) (c' := constraint_Close_p6_code) (by kernel_rfl) rfl hp6 CutsOk_nil))) (fun x k r h => Eq.trans (b := (constraint_Close_S (constraint_Close_s c_constraint_Valid c_constraint_direct p1 p5 p6)).run x k) (by kernel_rfl) h)
end
theorem constraint_Close_Γ : ΓOk Try.prog (pick1 [(75, .spec (constraint_Valid_S constraint_Valid)), (81, .spec (constraint_direct_S constraint_direct))]) := (ΓOk_cons constraint_Valid_ok (ΓOk_cons constraint_direct_ok ΓOk_nil))
def constraint_Close_p1_n (m : Nat) : constraint_Close_p1_T := constraint_Close_p1_l m
theorem constraint_Close_p1_step {β : Type} (i : Nat) (k1 n t19 t20 m) : (constraint_Close_p1_n (i + 1) k1 n t19 t20 m : Option β) = constraint_Close_p1_s (constraint_Close_p1_n i k1) k1 n t19 t20 m := rfl
def constraint_Close_p1 : constraint_Close_p1_T := constraint_Close_p1_n fuel
theorem constraint_Close_p1_ok : PieceOk Try.prog 122 0 constraint_Close_p1_code constraint_Close_p1_v constraint_Close_p1_o (constraint_Close_p1_G constraint_Close_p1) := constraint_Close_p1_ok' constraint_Valid constraint_direct constraint_Close_Γ fuel
def constraint_Close_p2 : constraint_Close_p2_T := constraint_Close_p2_u
theorem constraint_Close_p2_ok : PieceOk Try.prog 122 0 constraint_Close_p2_code constraint_Close_p2_v constraint_Close_p2_o (constraint_Close_p2_G constraint_Close_p2) := constraint_Close_p2_ok' constraint_Valid constraint_direct constraint_Close_Γ
def constraint_Close_p3_n (m : Nat) : constraint_Close_p3_T := constraint_Close_p3_l constraint_Close_p2 m
theorem constraint_Close_p3_step {β : Type} (i : Nat) (k1 n k_ i_ t38 t39 t42 t43 t46 t47 m) : (constraint_Close_p3_n (i + 1) k1 n k_ i_ t38 t39 t42 t43 t46 t47 m : Option β) = constraint_Close_p3_s constraint_Close_p2 (constraint_Close_p3_n i k1) k1 n k_ i_ t38 t39 t42 t43 t46 t47 m := rfl
def constraint_Close_p3 : constraint_Close_p3_T := constraint_Close_p3_n fuel
theorem constraint_Close_p3_ok : PieceOk Try.prog 122 0 constraint_Close_p3_code constraint_Close_p3_v constraint_Close_p3_o (constraint_Close_p3_G constraint_Close_p3) := constraint_Close_p3_ok' constraint_Valid constraint_direct constraint_Close_Γ constraint_Close_p2 constraint_Close_p2_ok fuel
def constraint_Close_p4_n (m : Nat) : constraint_Close_p4_T := constraint_Close_p4_l constraint_Close_p3 m
theorem constraint_Close_p4_step {β : Type} (i : Nat) (k1 n k_ t38 t39 t42 t43 m) : (constraint_Close_p4_n (i + 1) k1 n k_ t38 t39 t42 t43 m : Option β) = constraint_Close_p4_s constraint_Close_p3 (constraint_Close_p4_n i k1) k1 n k_ t38 t39 t42 t43 m := rfl
def constraint_Close_p4 : constraint_Close_p4_T := constraint_Close_p4_n fuel
theorem constraint_Close_p4_ok : PieceOk Try.prog 122 0 constraint_Close_p4_code constraint_Close_p4_v constraint_Close_p4_o (constraint_Close_p4_G constraint_Close_p4) := constraint_Close_p4_ok' constraint_Valid constraint_direct constraint_Close_Γ constraint_Close_p3 constraint_Close_p3_ok fuel
def constraint_Close_p5_n (m : Nat) : constraint_Close_p5_T := constraint_Close_p5_l constraint_Close_p4 m
theorem constraint_Close_p5_step {β : Type} (i : Nat) (k1 k2 n t38 t39 m) : (constraint_Close_p5_n (i + 1) k1 k2 n t38 t39 m : Option β) = constraint_Close_p5_s constraint_Close_p4 (constraint_Close_p5_n i k1 k2) k1 k2 n t38 t39 m := rfl
def constraint_Close_p5 : constraint_Close_p5_T := constraint_Close_p5_n fuel
theorem constraint_Close_p5_ok : PieceOk Try.prog 122 0 constraint_Close_p5_code constraint_Close_p5_v constraint_Close_p5_o (constraint_Close_p5_G constraint_Close_p5) := constraint_Close_p5_ok' constraint_Valid constraint_direct constraint_Close_Γ constraint_Close_p4 constraint_Close_p4_ok fuel
def constraint_Close_p6_n (m : Nat) : constraint_Close_p6_T := constraint_Close_p6_l m
theorem constraint_Close_p6_step {β : Type} (i : Nat) (k1 k2 t108 t109 m) : (constraint_Close_p6_n (i + 1) k1 k2 t108 t109 m : Option β) = constraint_Close_p6_s (constraint_Close_p6_n i k1 k2) k1 k2 t108 t109 m := rfl
def constraint_Close_p6 : constraint_Close_p6_T := constraint_Close_p6_n fuel
theorem constraint_Close_p6_ok : PieceOk Try.prog 122 0 constraint_Close_p6_code constraint_Close_p6_v constraint_Close_p6_o (constraint_Close_p6_G constraint_Close_p6) := constraint_Close_p6_ok' constraint_Valid constraint_direct constraint_Close_Γ fuel
def constraint_Close : T_constraint_Close := constraint_Close_s constraint_Valid constraint_direct constraint_Close_p1 constraint_Close_p5 constraint_Close_p6
theorem constraint_Close_ok : SpecOk Try.prog 72 (constraint_Close_S constraint_Close) := constraint_Close_ok' constraint_Valid constraint_direct constraint_Close_Γ constraint_Close_p1 constraint_Close_p5 constraint_Close_p6 constraint_Close_p1_ok constraint_Close_p5_ok constraint_Close_p6_ok

/-- pagewatch/order.closed -/
abbrev T_order_closed := {β : Type} → api_Record → ((List (List Int)) → Bool → Option β) → Option β
def order_closed_S (c : T_order_closed) : Spec :=
  ⟨[(true, [.data y_api_Record])], [], [(false, [.data (.slice (.slice (.int .i64)))]), (false, [.data .bool])], [], fun x k => c x.1.1.1 (fun r0 r1 => k (((r0, ()), (r1, ()), ()), ()))⟩
section
variable (c_constraint_Close : T_constraint_Close) (c_order_Constraints : T_order_Constraints)
@[reducible] def order_closed_X : Ctx := ⟨look tab, pick1 [(72, .spec (constraint_Close_S c_constraint_Close)), (64, .spec (order_Constraints_S c_order_Constraints))], false⟩
def order_closed_s {β : Type} (r_ : api_Record) (k : ((List (List Int)) → Bool → Option β)) : Option β :=
  c_order_Constraints r_ (fun (rConstraints : Bool) (lrConstraints : List (Int × (Int × Int))) =>
  cond (!rConstraints)
  (k ([] : List (List Int)) false)
  (c_constraint_Close (IntKind.i64.wrap ((List.length r_.2.2.1 : Int) + (1 : Int))) lrConstraints (fun (rClose : List (List Int)) (rClose2 : Bool) =>
  k rClose rClose2)))
theorem order_closed_ok' (hΓ : ΓOk Try.prog (order_closed_X c_constraint_Close c_order_Constraints).Γ) : SpecOk Try.prog 61 (order_closed_S (order_closed_s c_constraint_Close c_order_Constraints)) :=
  spec_exec (X := (order_closed_X c_constraint_Close c_order_Constraints)) (Λ := pick1 []) (rs := [.tmp 2, .tmp 3]) (c := bodyOf Try.f61) mixed tab_ok hΓ Try.func61 (by kernel_rfl) (by kernel_rfl) (by kernel_rfl) (by kernel_rfl) CutsOk_nil (fun x k r h => Eq.trans (b := (order_closed_S (order_closed_s c_constraint_Close c_order_Constraints)).run x k) (by kernel_rfl) h)
end
theorem order_closed_Γ : ΓOk Try.prog (pick1 [(72, .spec (constraint_Close_S constraint_Close)), (64, .spec (order_Constraints_S order_Constraints))]) := (ΓOk_cons constraint_Close_ok (ΓOk_cons order_Constraints_ok ΓOk_nil))
def order_closed : T_order_closed := order_closed_s constraint_Close order_Constraints
theorem order_closed_ok : SpecOk Try.prog 61 (order_closed_S order_closed) := order_closed_ok' constraint_Close order_Constraints order_closed_Γ

/-- pagewatch/order.Open -/
abbrev T_order_Open := {β : Type} → api_Record → ((List (Int × Int)) → Option β) → Option β
def order_Open_S (c : T_order_Open) : Spec :=
  ⟨[(true, [.data y_api_Record])], [], [(false, [.rowh 0])], [.row 56 (.prod (.int .i64) (.int .i64))], fun x k => c x.1.1.1 (fun r0 => k (((), ()), (r0, ())))⟩
noncomputable def order_Open_p2_code : Code := codeAt 122 (bodyOf Try.f41)
noncomputable def order_Open_p1_code : Code := codeAt 230 (loopBody order_Open_p2_code)
abbrev order_Open_p1_K1 (β : Type) := (List (List Int)) → Bool → Int → Int → (List (List UInt8 × Int)) → (List (Int × (Int × (Int × Int)))) → (List api_Event) → (List (Int × (Int × Int))) → (List (Int × Int)) → Option β
abbrev order_Open_p1_T := {β : Type} → order_Open_p1_K1 β → (List (List Int)) → Bool → Int → Int → Int → Int → (List (List UInt8 × Int)) → (List (Int × (Int × (Int × Int)))) → (List api_Event) → (List (Int × (Int × Int))) → (List (Int × Int)) → Option β
def order_Open_p1_v : View := ⟨0, [1, 3, 4, 5, 6, 7, 15, 16], [(false, [.ptr 0 0]), (false, [.data (.slice (.slice (.int .i64)))]), (false, [.data .bool]), (false, [.rowh 1]), (false, [.data (.int .i64)]), (false, [.data (.int .i64)]), (false, [.data (.int .i64)]), (false, [.data (.int .i64)])], [.cells 41 [.data (.slice (.prod .str (.int .i64))), .data (.slice (.prod (.int .i64) (.prod (.int .i64) (.prod (.int .i64) (.int .i64))))), .data (.slice y_api_Event), .data (.slice (.prod (.int .i64) (.prod (.int .i64) (.int .i64))))], .row 56 (.prod (.int .i64) (.int .i64))]⟩
def order_Open_p1_o : List (AExit × View) := [(.exit 2, ⟨0, [1, 3, 4, 5, 15, 16], [(false, [.ptr 0 0]), (false, [.data (.slice (.slice (.int .i64)))]), (false, [.data .bool]), (false, [.rowh 1]), (false, [.data (.int .i64)]), (false, [.data (.int .i64)])], [.cells 41 [.data (.slice (.prod .str (.int .i64))), .data (.slice (.prod (.int .i64) (.prod (.int .i64) (.prod (.int .i64) (.int .i64))))), .data (.slice y_api_Event), .data (.slice (.prod (.int .i64) (.prod (.int .i64) (.int .i64))))], .row 56 (.prod (.int .i64) (.int .i64))]⟩)]
@[reducible] def order_Open_p1_G (p : order_Open_p1_T) {β : Type} (d : order_Open_p1_v.den) (ks : Outs.K β order_Open_p1_o) : Option β :=
  p (fun a0 a1 a2 a3 a4 a5 a6 a7 a8 => ks.1 (((), (a0, ()), (a1, ()), (), (a2, ()), (a3, ()), ()), ((a4, a5, a6, a7, ()), a8, ()))) d.1.2.1.1 d.1.2.2.1.1 d.1.2.2.2.2.1.1 d.1.2.2.2.2.2.1.1 d.1.2.2.2.2.2.2.1.1 d.1.2.2.2.2.2.2.2.1.1 d.2.1.1 d.2.1.2.1 d.2.1.2.2.1 d.2.1.2.2.2.1 d.2.2.1
abbrev order_Open_p2_K1 (β : Type) := (List (Int × Int)) → Option β
abbrev order_Open_p2_T := {β : Type} → order_Open_p2_K1 β → (List (List Int)) → Bool → Int → Int → (List (List UInt8 × Int)) → (List (Int × (Int × (Int × Int)))) → (List api_Event) → (List (Int × (Int × Int))) → (List (Int × Int)) → Option β
def order_Open_p2_v : View := ⟨0, [1, 3, 4, 5, 15, 16], [(false, [.ptr 0 0]), (false, [.data (.slice (.slice (.int .i64)))]), (false, [.data .bool]), (false, [.rowh 1]), (false, [.data (.int .i64)]), (false, [.data (.int .i64)])], [.cells 41 [.data (.slice (.prod .str (.int .i64))), .data (.slice (.prod (.int .i64) (.prod (.int .i64) (.prod (.int .i64) (.int .i64))))), .data (.slice y_api_Event), .data (.slice (.prod (.int .i64) (.prod (.int .i64) (.int .i64))))], .row 56 (.prod (.int .i64) (.int .i64))]⟩
def order_Open_p2_o : List (AExit × View) := [(.exit 0, ⟨0, [5], [(false, [.rowh 0])], [.row 56 (.prod (.int .i64) (.int .i64))]⟩)]
@[reducible] def order_Open_p2_G (p : order_Open_p2_T) {β : Type} (d : order_Open_p2_v.den) (ks : Outs.K β order_Open_p2_o) : Option β :=
  p (fun a0 => ks.1 (((), ()), (a0, ()))) d.1.2.1.1 d.1.2.2.1.1 d.1.2.2.2.2.1.1 d.1.2.2.2.2.2.1.1 d.2.1.1 d.2.1.2.1 d.2.1.2.2.1 d.2.1.2.2.2.1 d.2.2.1
section
variable (c_order_closed : T_order_closed) (c_order_matrix_open : T_order_matrix_open)
@[reducible] def order_Open_X : Ctx := ⟨look tab, pick1 [(61, .spec (order_closed_S c_order_closed)), (62, .spec (order_matrix_open_S c_order_matrix_open))], false⟩
def order_Open_p1_s {β : Type} (rec : (List (List Int)) → Bool → Int → Int → Int → Int → (List (List UInt8 × Int)) → (List (Int × (Int × (Int × Int)))) → (List api_Event) → (List (Int × (Int × Int))) → (List (Int × Int)) → Option β) (k1 : order_Open_p1_K1 β) (m : List (List Int)) (ok : Bool) (a : Int) (b : Int) (t15 : Int) (t16 : Int) (r_ : List (List UInt8 × Int)) (r_2 : List (Int × (Int × (Int × Int)))) (r_3 : List api_Event) (r_4 : List (Int × (Int × Int))) (out : List (Int × Int)) : Option β :=
  cond (decide (b < (List.length r_3 : Int)))
  (cond ok
  (c_order_matrix_open m a b (fun (ropen : Bool) =>
  cond ropen
  (let l : List (Int × Int) := ([(a, b)] : List (Int × Int));
  cond (decide ((List.length out + List.length l) * 16 ≤ roomMax))
  (let l2 : List (Int × Int) := (out ++ l);
  let b2 : Int := (IntKind.i64.wrap (b + (1 : Int)));
  rec m ok a b2 t15 t16 r_ r_2 r_3 r_4 l2)
  none)
  (let b2 : Int := (IntKind.i64.wrap (b + (1 : Int)));
  rec m ok a b2 t15 t16 r_ r_2 r_3 r_4 out)))
  (k1 m ok t15 t16 r_ r_2 r_3 r_4 out))
  (k1 m ok t15 t16 r_ r_2 r_3 r_4 out)
def order_Open_p1_l {β : Type} : Nat → order_Open_p1_K1 β → (List (List Int)) → Bool → Int → Int → Int → Int → (List (List UInt8 × Int)) → (List (Int × (Int × (Int × Int)))) → (List api_Event) → (List (Int × (Int × Int))) → (List (Int × Int)) → Option β
  | 0 => fun _ _ _ _ _ _ _ _ _ _ _ _ => none
  | i + 1 => fun k1 m ok a b t15 t16 r_ r_2 r_3 r_4 out => order_Open_p1_s c_order_matrix_open (order_Open_p1_l i k1) k1 m ok a b t15 t16 r_ r_2 r_3 r_4 out
theorem order_Open_p1_ok' (hΓ : ΓOk Try.prog (order_Open_X c_order_closed c_order_matrix_open).Γ) (i : Nat) : PieceOk Try.prog 43 0 order_Open_p1_code order_Open_p1_v order_Open_p1_o (order_Open_p1_G (order_Open_p1_l c_order_matrix_open i)) := by
  rw [show order_Open_p1_code = .loop (loopBody order_Open_p1_code) by kernel_rfl]
  exact piece_loop (X := (order_Open_X c_order_closed c_order_matrix_open)) (p := 1) (Λ := pick1 []) (G := fun i => @fun β d ks => order_Open_p1_G (order_Open_p1_l c_order_matrix_open i) d ks) mixed tab_ok hΓ rfl (by kernel_rfl) CutsOk_nil (fun _ _ => rfl) (fun i => @fun β d ks r h => Eq.trans (b := order_Open_p1_G (order_Open_p1_l c_order_matrix_open (i + 1)) d ks) (by kernel_rfl) h) i
def order_Open_p2_s (p1 : order_Open_p1_T) {β : Type} (rec : (List (List Int)) → Bool → Int → Int → (List (List UInt8 × Int)) → (List (Int × (Int × (Int × Int)))) → (List api_Event) → (List (Int × (Int × Int))) → (List (Int × Int)) → Option β) (k1 : order_Open_p2_K1 β) (m : List (List Int)) (ok : Bool) (t15 : Int) (t16 : Int) (r_ : List (List UInt8 × Int)) (r_2 : List (Int × (Int × (Int × Int)))) (r_3 : List api_Event) (r_4 : List (Int × (Int × Int))) (out : List (Int × Int)) : Option β :=
  cond (decide (t16 < t15))
  (let b : Int := (IntKind.i64.wrap (t16 + (1 : Int)));
  p1 (fun (m2 : List (List Int)) (ok2 : Bool) (t152 : Int) (t162 : Int) (r_5 : List (List UInt8 × Int)) (r_6 : List (Int × (Int × (Int × Int)))) (r_7 : List api_Event) (r_8 : List (Int × (Int × Int))) (out2 : List (Int × Int)) =>
  rec m2 ok2 t152 (IntKind.i64.wrap (t162 + (1 : Int))) r_5 r_6 r_7 r_8 out2) m ok t16 b t15 t16 r_ r_2 r_3 r_4 out)
  (k1 out)
def order_Open_p2_l (p1 : order_Open_p1_T) {β : Type} : Nat → order_Open_p2_K1 β → (List (List Int)) → Bool → Int → Int → (List (List UInt8 × Int)) → (List (Int × (Int × (Int × Int)))) → (List api_Event) → (List (Int × (Int × Int))) → (List (Int × Int)) → Option β
  | 0 => fun _ _ _ _ _ _ _ _ _ _ => none
  | i + 1 => fun k1 m ok t15 t16 r_ r_2 r_3 r_4 out => order_Open_p2_s p1 (order_Open_p2_l p1 i k1) k1 m ok t15 t16 r_ r_2 r_3 r_4 out
theorem order_Open_p2_ok' (hΓ : ΓOk Try.prog (order_Open_X c_order_closed c_order_matrix_open).Γ) (p1 : order_Open_p1_T) (hp1 : PieceOk Try.prog 43 0 order_Open_p1_code order_Open_p1_v order_Open_p1_o (order_Open_p1_G p1)) (i : Nat) : PieceOk Try.prog 43 0 order_Open_p2_code order_Open_p2_v order_Open_p2_o (order_Open_p2_G (order_Open_p2_l p1 i)) := by
  rw [show order_Open_p2_code = .loop (loopBody order_Open_p2_code) by kernel_rfl]
  exact piece_loop (X := (order_Open_X c_order_closed c_order_matrix_open)) (p := 1) (Λ := pick1 [(230, pieceCut order_Open_p1_v order_Open_p1_o (order_Open_p1_G p1))]) (G := fun i => @fun β d ks => order_Open_p2_G (order_Open_p2_l p1 i) d ks) mixed tab_ok hΓ rfl (by kernel_rfl) (CutsOk_cons (q := 230) (c' := order_Open_p1_code) (by kernel_rfl) rfl hp1 CutsOk_nil) (fun _ _ => rfl) (fun i => @fun β d ks r h => Eq.trans (b := order_Open_p2_G (order_Open_p2_l p1 (i + 1)) d ks) (by kernel_rfl) h) i
def order_Open_s (p2 : order_Open_p2_T) {β : Type} (r_ : api_Record) (k : ((List (Int × Int)) → Option β)) : Option β :=
  c_order_closed r_ (fun (rclosed : List (List Int)) (rclosed2 : Bool) =>
  p2 (fun (out : List (Int × Int)) =>
  k out) rclosed rclosed2 (List.length r_.2.2.1 : Int) (0 : Int) r_.1 r_.2.1 r_.2.2.1 r_.2.2.2 ([] : List (Int × Int)))
theorem order_Open_ok' (hΓ : ΓOk Try.prog (order_Open_X c_order_closed c_order_matrix_open).Γ) (p2 : order_Open_p2_T) (hp2 : PieceOk Try.prog 43 0 order_Open_p2_code order_Open_p2_v order_Open_p2_o (order_Open_p2_G p2)) : SpecOk Try.prog 41 (order_Open_S (order_Open_s c_order_closed p2)) :=
  spec_exec (X := (order_Open_X c_order_closed c_order_matrix_open)) (Λ := pick1 [(122, pieceCut order_Open_p2_v order_Open_p2_o (order_Open_p2_G p2))]) (rs := [.tmp 2]) (c := bodyOf Try.f41) mixed tab_ok hΓ Try.func41 (by kernel_rfl) (by kernel_rfl) (by kernel_rfl) (by kernel_rfl) (CutsOk_cons (q := 122) (c' := order_Open_p2_code) (by kernel_rfl) rfl hp2 CutsOk_nil) (fun x k r h => Eq.trans (b := (order_Open_S (order_Open_s c_order_closed p2)).run x k) (by kernel_rfl) h)
end
theorem order_Open_Γ : ΓOk Try.prog (pick1 [(61, .spec (order_closed_S order_closed)), (62, .spec (order_matrix_open_S order_matrix_open))]) := (ΓOk_cons order_closed_ok (ΓOk_cons order_matrix_open_ok ΓOk_nil))
def order_Open_p1_n (m : Nat) : order_Open_p1_T := order_Open_p1_l order_matrix_open m
theorem order_Open_p1_step {β : Type} (i : Nat) (k1 m ok a b t15 t16 r_ r_2 r_3 r_4 out) : (order_Open_p1_n (i + 1) k1 m ok a b t15 t16 r_ r_2 r_3 r_4 out : Option β) = order_Open_p1_s order_matrix_open (order_Open_p1_n i k1) k1 m ok a b t15 t16 r_ r_2 r_3 r_4 out := rfl
def order_Open_p1 : order_Open_p1_T := order_Open_p1_n fuel
theorem order_Open_p1_ok : PieceOk Try.prog 43 0 order_Open_p1_code order_Open_p1_v order_Open_p1_o (order_Open_p1_G order_Open_p1) := order_Open_p1_ok' order_closed order_matrix_open order_Open_Γ fuel
def order_Open_p2_n (m : Nat) : order_Open_p2_T := order_Open_p2_l order_Open_p1 m
theorem order_Open_p2_step {β : Type} (i : Nat) (k1 m ok t15 t16 r_ r_2 r_3 r_4 out) : (order_Open_p2_n (i + 1) k1 m ok t15 t16 r_ r_2 r_3 r_4 out : Option β) = order_Open_p2_s order_Open_p1 (order_Open_p2_n i k1) k1 m ok t15 t16 r_ r_2 r_3 r_4 out := rfl
def order_Open_p2 : order_Open_p2_T := order_Open_p2_n fuel
theorem order_Open_p2_ok : PieceOk Try.prog 43 0 order_Open_p2_code order_Open_p2_v order_Open_p2_o (order_Open_p2_G order_Open_p2) := order_Open_p2_ok' order_closed order_matrix_open order_Open_Γ order_Open_p1 order_Open_p1_ok fuel
def order_Open : T_order_Open := order_Open_s order_closed order_Open_p2
theorem order_Open_ok : SpecOk Try.prog 41 (order_Open_S order_Open) := order_Open_ok' order_closed order_matrix_open order_Open_Γ order_Open_p2 order_Open_p2_ok

/-- pagewatch/order.Consistent -/
abbrev T_order_Consistent := {β : Type} → api_Record → (Bool → Option β) → Option β
def order_Consistent_S (c : T_order_Consistent) : Spec :=
  ⟨[(true, [.data y_api_Record])], [], [(false, [.data .bool])], [], fun x k => c x.1.1.1 (fun r0 => k (((r0, ()), ()), ()))⟩
section
variable (c_order_closed : T_order_closed)
@[reducible] def order_Consistent_X : Ctx := ⟨look tab, pick1 [(61, .spec (order_closed_S c_order_closed))], false⟩
def order_Consistent_s {β : Type} (r_ : api_Record) (k : (Bool → Option β)) : Option β :=
  c_order_closed r_ (fun (rclosed : List (List Int)) (rclosed2 : Bool) =>
  k rclosed2)
theorem order_Consistent_ok' (hΓ : ΓOk Try.prog (order_Consistent_X c_order_closed).Γ) : SpecOk Try.prog 42 (order_Consistent_S (order_Consistent_s c_order_closed)) :=
  spec_exec (X := (order_Consistent_X c_order_closed)) (Λ := pick1 []) (rs := [.tmp 2]) (c := bodyOf Try.f42) mixed tab_ok hΓ Try.func42 (by kernel_rfl) (by kernel_rfl) (by kernel_rfl) (by kernel_rfl) CutsOk_nil (fun x k r h => Eq.trans (b := (order_Consistent_S (order_Consistent_s c_order_closed)).run x k) (by kernel_rfl) h)
end
theorem order_Consistent_Γ : ΓOk Try.prog (pick1 [(61, .spec (order_closed_S order_closed))]) := (ΓOk_cons order_closed_ok ΓOk_nil)
def order_Consistent : T_order_Consistent := order_Consistent_s order_closed
theorem order_Consistent_ok : SpecOk Try.prog 42 (order_Consistent_S order_Consistent) := order_Consistent_ok' order_closed order_Consistent_Γ

/-- pagewatch/order.When -/
abbrev T_order_When := {β : Type} → api_Record → (Bool → (List (Int × Int)) → Option β) → Option β
def order_When_S (c : T_order_When) : Spec :=
  ⟨[(true, [.data y_api_Record])], [], [(false, [.rowh 0]), (false, [.data .bool])], [.row 45 (.prod (.int .i64) (.int .i64))], fun x k => c x.1.1.1 (fun r0 r1 => k (((), (r0, ()), ()), (r1, ())))⟩
noncomputable def order_When_p1_code : Code := codeAt 250 (bodyOf Try.f43)
abbrev order_When_p1_K1 (β : Type) := (List (Int × Int)) → Option β
abbrev order_When_p1_T := {β : Type} → order_When_p1_K1 β → (List (List Int)) → Int → Int → (List (Int × Int)) → Option β
def order_When_p1_v : View := ⟨0, [4, 6, 17, 18], [(false, [.data (.slice (.slice (.int .i64)))]), (false, [.rowh 0]), (false, [.data (.int .i64)]), (false, [.data (.int .i64)])], [.row 45 (.prod (.int .i64) (.int .i64))]⟩
def order_When_p1_o : List (AExit × View) := [(.exit 0, ⟨0, [6], [(false, [.rowh 0])], [.row 45 (.prod (.int .i64) (.int .i64))]⟩)]
@[reducible] def order_When_p1_G (p : order_When_p1_T) {β : Type} (d : order_When_p1_v.den) (ks : Outs.K β order_When_p1_o) : Option β :=
  p (fun a0 => ks.1 (((), ()), (a0, ()))) d.1.1.1 d.1.2.2.1.1 d.1.2.2.2.1.1 d.2.1
section
variable (c_order_closed : T_order_closed) (c_order_matrix_when : T_order_matrix_when)
@[reducible] def order_When_X : Ctx := ⟨look tab, pick1 [(61, .spec (order_closed_S c_order_closed)), (63, .spec (order_matrix_when_S c_order_matrix_when))], false⟩
def order_When_p1_s {β : Type} (rec : (List (List Int)) → Int → Int → (List (Int × Int)) → Option β) (k1 : order_When_p1_K1 β) (m : List (List Int)) (t17 : Int) (t18 : Int) (out : List (Int × Int)) : Option β :=
  cond (decide (t18 < t17))
  (c_order_matrix_when m t18 (fun (rwhen : (Int × Int)) =>
  let l : List (Int × Int) := ([rwhen] : List (Int × Int));
  cond (decide ((List.length out + List.length l) * 16 ≤ roomMax))
  (let l2 : List (Int × Int) := (out ++ l);
  rec m t17 (IntKind.i64.wrap (t18 + (1 : Int))) l2)
  none))
  (k1 out)
def order_When_p1_l {β : Type} : Nat → order_When_p1_K1 β → (List (List Int)) → Int → Int → (List (Int × Int)) → Option β
  | 0 => fun _ _ _ _ _ => none
  | i + 1 => fun k1 m t17 t18 out => order_When_p1_s c_order_matrix_when (order_When_p1_l i k1) k1 m t17 t18 out
theorem order_When_p1_ok' (hΓ : ΓOk Try.prog (order_When_X c_order_closed c_order_matrix_when).Γ) (i : Nat) : PieceOk Try.prog 29 0 order_When_p1_code order_When_p1_v order_When_p1_o (order_When_p1_G (order_When_p1_l c_order_matrix_when i)) := by
  rw [show order_When_p1_code = .loop (loopBody order_When_p1_code) by kernel_rfl]
  exact piece_loop (X := (order_When_X c_order_closed c_order_matrix_when)) (p := 1) (Λ := pick1 []) (G := fun i => @fun β d ks => order_When_p1_G (order_When_p1_l c_order_matrix_when i) d ks) mixed tab_ok hΓ rfl (by kernel_rfl) CutsOk_nil (fun _ _ => rfl) (fun i => @fun β d ks r h => Eq.trans (b := order_When_p1_G (order_When_p1_l c_order_matrix_when (i + 1)) d ks) (by kernel_rfl) h) i
def order_When_s (p1 : order_When_p1_T) {β : Type} (r_ : api_Record) (k : (Bool → (List (Int × Int)) → Option β)) : Option β :=
  c_order_closed r_ (fun (rclosed : List (List Int)) (rclosed2 : Bool) =>
  cond (!rclosed2)
  (k false ([] : List (Int × Int)))
  (p1 (fun (out : List (Int × Int)) =>
  k true out) rclosed (List.length r_.2.2.1 : Int) (0 : Int) ([] : List (Int × Int))))
theorem order_When_ok' (hΓ : ΓOk Try.prog (order_When_X c_order_closed c_order_matrix_when).Γ) (p1 : order_When_p1_T) (hp1 : PieceOk Try.prog 29 0 order_When_p1_code order_When_p1_v order_When_p1_o (order_When_p1_G p1)) : SpecOk Try.prog 43 (order_When_S (order_When_s c_order_closed p1)) :=
  spec_exec (X := (order_When_X c_order_closed c_order_matrix_when)) (Λ := pick1 [(250, pieceCut order_When_p1_v order_When_p1_o (order_When_p1_G p1))]) (rs := [.tmp 2, .tmp 3]) (c := bodyOf Try.f43) mixed tab_ok hΓ Try.func43 (by kernel_rfl) (by kernel_rfl) (by kernel_rfl) (by kernel_rfl) (CutsOk_cons (q := 250) (c' := order_When_p1_code) (by kernel_rfl) rfl hp1 CutsOk_nil) (fun x k r h => Eq.trans (b := (order_When_S (order_When_s c_order_closed p1)).run x k) (by kernel_rfl) h)
end
theorem order_When_Γ : ΓOk Try.prog (pick1 [(61, .spec (order_closed_S order_closed)), (63, .spec (order_matrix_when_S order_matrix_when))]) := (ΓOk_cons order_closed_ok (ΓOk_cons order_matrix_when_ok ΓOk_nil))
def order_When_p1_n (m : Nat) : order_When_p1_T := order_When_p1_l order_matrix_when m
theorem order_When_p1_step {β : Type} (i : Nat) (k1 m t17 t18 out) : (order_When_p1_n (i + 1) k1 m t17 t18 out : Option β) = order_When_p1_s order_matrix_when (order_When_p1_n i k1) k1 m t17 t18 out := rfl
def order_When_p1 : order_When_p1_T := order_When_p1_n fuel
theorem order_When_p1_ok : PieceOk Try.prog 29 0 order_When_p1_code order_When_p1_v order_When_p1_o (order_When_p1_G order_When_p1) := order_When_p1_ok' order_closed order_matrix_when order_When_Γ fuel
def order_When : T_order_When := order_When_s order_closed order_When_p1
theorem order_When_ok : SpecOk Try.prog 43 (order_When_S order_When) := order_When_ok' order_closed order_matrix_when order_When_Γ order_When_p1 order_When_p1_ok

/-- pagewatch/order.Sort -/
abbrev T_order_Sort := {β : Type} → api_Record → (Bool → (List Int) → Option β) → Option β
def order_Sort_S (c : T_order_Sort) : Spec :=
  ⟨[(true, [.data y_api_Record])], [], [(false, [.rowh 0]), (false, [.data .bool])], [.row 3 (.int .i64)], fun x k => c x.1.1.1 (fun r0 r1 => k (((), (r0, ()), ()), (r1, ())))⟩
noncomputable def order_Sort_p3_code : Code := codeAt 506 (bodyOf Try.f46)
noncomputable def order_Sort_p2_code : Code := codeAt 458 (loopBody order_Sort_p3_code)
noncomputable def order_Sort_p1_code : Code := codeAt 922 (loopBody order_Sort_p2_code)
abbrev order_Sort_p1_K1 (β : Type) := (List (List Int)) → Int → Int → Bool → Int → Int → Int → Int → (List (List UInt8 × Int)) → (List (Int × (Int × (Int × Int)))) → (List api_Event) → (List (Int × (Int × Int))) → (List (Int × Bool)) → (List Int) → Option β
abbrev order_Sort_p1_T := {β : Type} → order_Sort_p1_K1 β → (List (List Int)) → Int → Int → Bool → Int → Int → Int → Int → Int → Int → (List (List UInt8 × Int)) → (List (Int × (Int × (Int × Int)))) → (List api_Event) → (List (Int × (Int × Int))) → (List (Int × Bool)) → (List Int) → Option β
def order_Sort_p1_v : View := ⟨0, [1, 4, 6, 7, 8, 9, 10, 22, 23, 27, 28, 37, 38], [(false, [.ptr 0 0]), (false, [.data (.slice (.slice (.int .i64)))]), (false, [.maph 1]), (false, [.rowh 2]), (false, [.data (.int .i64)]), (false, [.data (.int .i64)]), (false, [.data .bool]), (false, [.data (.int .i64)]), (false, [.data (.int .i64)]), (false, [.data (.int .i64)]), (false, [.data (.int .i64)]), (false, [.data (.int .i64)]), (false, [.data (.int .i64)])], [.cells 41 [.data (.slice (.prod .str (.int .i64))), .data (.slice (.prod (.int .i64) (.prod (.int .i64) (.prod (.int .i64) (.int .i64))))), .data (.slice y_api_Event), .data (.slice (.prod (.int .i64) (.prod (.int .i64) (.int .i64))))], .map 97 (.int .i64) .bool false, .row 3 (.int .i64)]⟩
def order_Sort_p1_o : List (AExit × View) := [(.exit 4, ⟨0, [1, 4, 6, 7, 8, 9, 10, 22, 23, 27, 28], [(false, [.ptr 0 0]), (false, [.data (.slice (.slice (.int .i64)))]), (false, [.maph 1]), (false, [.rowh 2]), (false, [.data (.int .i64)]), (false, [.data (.int .i64)]), (false, [.data .bool]), (false, [.data (.int .i64)]), (false, [.data (.int .i64)]), (false, [.data (.int .i64)]), (false, [.data (.int .i64)])], [.cells 41 [.data (.slice (.prod .str (.int .i64))), .data (.slice (.prod (.int .i64) (.prod (.int .i64) (.prod (.int .i64) (.int .i64))))), .data (.slice y_api_Event), .data (.slice (.prod (.int .i64) (.prod (.int .i64) (.int .i64))))], .map 97 (.int .i64) .bool false, .row 3 (.int .i64)]⟩)]
@[reducible] def order_Sort_p1_G (p : order_Sort_p1_T) {β : Type} (d : order_Sort_p1_v.den) (ks : Outs.K β order_Sort_p1_o) : Option β :=
  p (fun a0 a1 a2 a3 a4 a5 a6 a7 a8 a9 a10 a11 a12 a13 => ks.1 (((), (a0, ()), (), (), (a1, ()), (a2, ()), (a3, ()), (a4, ()), (a5, ()), (a6, ()), (a7, ()), ()), ((a8, a9, a10, a11, ()), a12, a13, ()))) d.1.2.1.1 d.1.2.2.2.2.1.1 d.1.2.2.2.2.2.1.1 d.1.2.2.2.2.2.2.1.1 d.1.2.2.2.2.2.2.2.1.1 d.1.2.2.2.2.2.2.2.2.1.1 d.1.2.2.2.2.2.2.2.2.2.1.1 d.1.2.2.2.2.2.2.2.2.2.2.1.1 d.1.2.2.2.2.2.2.2.2.2.2.2.1.1 d.1.2.2.2.2.2.2.2.2.2.2.2.2.1.1 d.2.1.1 d.2.1.2.1 d.2.1.2.2.1 d.2.1.2.2.2.1 d.2.2.1 d.2.2.2.1
abbrev order_Sort_p2_K1 (β : Type) := (List (List Int)) → Int → Int → Int → (List (List UInt8 × Int)) → (List (Int × (Int × (Int × Int)))) → (List api_Event) → (List (Int × (Int × Int))) → (List (Int × Bool)) → (List Int) → Option β
abbrev order_Sort_p2_T := {β : Type} → order_Sort_p2_K1 β → (List (List Int)) → Int → Int → Int → Int → Int → (List (List UInt8 × Int)) → (List (Int × (Int × (Int × Int)))) → (List api_Event) → (List (Int × (Int × Int))) → (List (Int × Bool)) → (List Int) → Option β
def order_Sort_p2_v : View := ⟨0, [1, 4, 6, 7, 8, 22, 23, 27, 28], [(false, [.ptr 0 0]), (false, [.data (.slice (.slice (.int .i64)))]), (false, [.maph 1]), (false, [.rowh 2]), (false, [.data (.int .i64)]), (false, [.data (.int .i64)]), (false, [.data (.int .i64)]), (false, [.data (.int .i64)]), (false, [.data (.int .i64)])], [.cells 41 [.data (.slice (.prod .str (.int .i64))), .data (.slice (.prod (.int .i64) (.prod (.int .i64) (.prod (.int .i64) (.int .i64))))), .data (.slice y_api_Event), .data (.slice (.prod (.int .i64) (.prod (.int .i64) (.int .i64))))], .map 97 (.int .i64) .bool false, .row 3 (.int .i64)]⟩
def order_Sort_p2_o : List (AExit × View) := [(.exit 2, ⟨0, [1, 4, 6, 7, 8, 22, 23], [(false, [.ptr 0 0]), (false, [.data (.slice (.slice (.int .i64)))]), (false, [.maph 1]), (false, [.rowh 2]), (false, [.data (.int .i64)]), (false, [.data (.int .i64)]), (false, [.data (.int .i64)])], [.cells 41 [.data (.slice (.prod .str (.int .i64))), .data (.slice (.prod (.int .i64) (.prod (.int .i64) (.prod (.int .i64) (.int .i64))))), .data (.slice y_api_Event), .data (.slice (.prod (.int .i64) (.prod (.int .i64) (.int .i64))))], .map 97 (.int .i64) .bool false, .row 3 (.int .i64)]⟩)]
@[reducible] def order_Sort_p2_G (p : order_Sort_p2_T) {β : Type} (d : order_Sort_p2_v.den) (ks : Outs.K β order_Sort_p2_o) : Option β :=
  p (fun a0 a1 a2 a3 a4 a5 a6 a7 a8 a9 => ks.1 (((), (a0, ()), (), (), (a1, ()), (a2, ()), (a3, ()), ()), ((a4, a5, a6, a7, ()), a8, a9, ()))) d.1.2.1.1 d.1.2.2.2.2.1.1 d.1.2.2.2.2.2.1.1 d.1.2.2.2.2.2.2.1.1 d.1.2.2.2.2.2.2.2.1.1 d.1.2.2.2.2.2.2.2.2.1.1 d.2.1.1 d.2.1.2.1 d.2.1.2.2.1 d.2.1.2.2.2.1 d.2.2.1 d.2.2.2.1
abbrev order_Sort_p3_K1 (β : Type) := (List Int) → Option β
abbrev order_Sort_p3_T := {β : Type} → order_Sort_p3_K1 β → (List (List Int)) → Int → Int → (List (List UInt8 × Int)) → (List (Int × (Int × (Int × Int)))) → (List api_Event) → (List (Int × (Int × Int))) → (List (Int × Bool)) → (List Int) → Option β
def order_Sort_p3_v : View := ⟨0, [1, 4, 6, 7, 22, 23], [(false, [.ptr 0 0]), (false, [.data (.slice (.slice (.int .i64)))]), (false, [.maph 1]), (false, [.rowh 2]), (false, [.data (.int .i64)]), (false, [.data (.int .i64)])], [.cells 41 [.data (.slice (.prod .str (.int .i64))), .data (.slice (.prod (.int .i64) (.prod (.int .i64) (.prod (.int .i64) (.int .i64))))), .data (.slice y_api_Event), .data (.slice (.prod (.int .i64) (.prod (.int .i64) (.int .i64))))], .map 97 (.int .i64) .bool false, .row 3 (.int .i64)]⟩
def order_Sort_p3_o : List (AExit × View) := [(.exit 0, ⟨0, [7], [(false, [.rowh 0])], [.row 3 (.int .i64)]⟩)]
@[reducible] def order_Sort_p3_G (p : order_Sort_p3_T) {β : Type} (d : order_Sort_p3_v.den) (ks : Outs.K β order_Sort_p3_o) : Option β :=
  p (fun a0 => ks.1 (((), ()), (a0, ()))) d.1.2.1.1 d.1.2.2.2.2.1.1 d.1.2.2.2.2.2.1.1 d.2.1.1 d.2.1.2.1 d.2.1.2.2.1 d.2.1.2.2.2.1 d.2.2.1 d.2.2.2.1
section
variable (c_order_closed : T_order_closed) (c_order_matrix_before : T_order_matrix_before) (c_order_matrix_earlier : T_order_matrix_earlier)
@[reducible] def order_Sort_X : Ctx := ⟨look tab, pick1 [(61, .spec (order_closed_S c_order_closed)), (60, .spec (order_matrix_before_S c_order_matrix_before)), (69, .spec (order_matrix_earlier_S c_order_matrix_earlier))], false⟩
def order_Sort_p1_s {β : Type} (rec : (List (List Int)) → Int → Int → Bool → Int → Int → Int → Int → Int → Int → (List (List UInt8 × Int)) → (List (Int × (Int × (Int × Int)))) → (List api_Event) → (List (Int × (Int × Int))) → (List (Int × Bool)) → (List Int) → Option β) (k1 : order_Sort_p1_K1 β) (m : List (List Int)) (next : Int) (i_ : Int) (free : Bool) (t22 : Int) (t23 : Int) (t27 : Int) (t28 : Int) (t37 : Int) (t38 : Int) (r_ : List (List UInt8 × Int)) (r_2 : List (Int × (Int × (Int × Int)))) (r_3 : List api_Event) (r_4 : List (Int × (Int × Int))) (placed : List (Int × Bool)) (out : List Int) : Option β :=
  cond (decide (t38 < t37))
  (cond free
  (let g : Bool := (mGet (.int .i64) placed t38 false);
  cond g
  (rec m next i_ true t22 t23 t27 t28 t37 (IntKind.i64.wrap (t38 + (1 : Int))) r_ r_2 r_3 r_4 placed out)
  (c_order_matrix_before m t38 i_ (fun (rbefore : Bool) =>
  rec m next i_ (!rbefore) t22 t23 t27 t28 t37 (IntKind.i64.wrap (t38 + (1 : Int))) r_ r_2 r_3 r_4 placed out)))
  (rec m next i_ false t22 t23 t27 t28 t37 (IntKind.i64.wrap (t38 + (1 : Int))) r_ r_2 r_3 r_4 placed out))
  (k1 m next i_ free t22 t23 t27 t28 r_ r_2 r_3 r_4 placed out)
def order_Sort_p1_l {β : Type} : Nat → order_Sort_p1_K1 β → (List (List Int)) → Int → Int → Bool → Int → Int → Int → Int → Int → Int → (List (List UInt8 × Int)) → (List (Int × (Int × (Int × Int)))) → (List api_Event) → (List (Int × (Int × Int))) → (List (Int × Bool)) → (List Int) → Option β
  | 0 => fun _ _ _ _ _ _ _ _ _ _ _ _ _ _ _ _ _ => none
  | i + 1 => fun k1 m next i_ free t22 t23 t27 t28 t37 t38 r_ r_2 r_3 r_4 placed out => order_Sort_p1_s c_order_matrix_before (order_Sort_p1_l i k1) k1 m next i_ free t22 t23 t27 t28 t37 t38 r_ r_2 r_3 r_4 placed out
theorem order_Sort_p1_ok' (hΓ : ΓOk Try.prog (order_Sort_X c_order_closed c_order_matrix_before c_order_matrix_earlier).Γ) (i : Nat) : PieceOk Try.prog 76 0 order_Sort_p1_code order_Sort_p1_v order_Sort_p1_o (order_Sort_p1_G (order_Sort_p1_l c_order_matrix_before i)) := by
  rw [show order_Sort_p1_code = .loop (loopBody order_Sort_p1_code) by kernel_rfl]
  exact piece_loop (X := (order_Sort_X c_order_closed c_order_matrix_before c_order_matrix_earlier)) (p := 1) (Λ := pick1 []) (G := fun i => @fun β d ks => order_Sort_p1_G (order_Sort_p1_l c_order_matrix_before i) d ks) mixed tab_ok hΓ rfl (by kernel_rfl) CutsOk_nil (fun _ _ => rfl) (fun i => @fun β d ks r h => Eq.trans (b := order_Sort_p1_G (order_Sort_p1_l c_order_matrix_before (i + 1)) d ks) (by kernel_rfl) h) i
def order_Sort_p2_s (p1 : order_Sort_p1_T) {β : Type} (rec : (List (List Int)) → Int → Int → Int → Int → Int → (List (List UInt8 × Int)) → (List (Int × (Int × (Int × Int)))) → (List api_Event) → (List (Int × (Int × Int))) → (List (Int × Bool)) → (List Int) → Option β) (k1 : order_Sort_p2_K1 β) (m : List (List Int)) (next : Int) (t22 : Int) (t23 : Int) (t27 : Int) (t28 : Int) (r_ : List (List UInt8 × Int)) (r_2 : List (Int × (Int × (Int × Int)))) (r_3 : List api_Event) (r_4 : List (Int × (Int × Int))) (placed : List (Int × Bool)) (out : List Int) : Option β :=
  cond (decide (t28 < t27))
  (let g : Bool := (mGet (.int .i64) placed t28 false);
  p1 (fun (m2 : List (List Int)) (next2 : Int) (i_ : Int) (free : Bool) (t222 : Int) (t232 : Int) (t272 : Int) (t282 : Int) (r_5 : List (List UInt8 × Int)) (r_6 : List (Int × (Int × (Int × Int)))) (r_7 : List api_Event) (r_8 : List (Int × (Int × Int))) (placed2 : List (Int × Bool)) (out2 : List Int) =>
  cond free
  (cond (decide (next2 < (0 : Int)))
  (rec m2 i_ t222 t232 t272 (IntKind.i64.wrap (t282 + (1 : Int))) r_5 r_6 r_7 r_8 placed2 out2)
  (c_order_matrix_earlier m2 i_ next2 (fun (rearlier : Bool) =>
  cond rearlier
  (rec m2 i_ t222 t232 t272 (IntKind.i64.wrap (t282 + (1 : Int))) r_5 r_6 r_7 r_8 placed2 out2)
  (rec m2 next2 t222 t232 t272 (IntKind.i64.wrap (t282 + (1 : Int))) r_5 r_6 r_7 r_8 placed2 out2))))
  (rec m2 next2 t222 t232 t272 (IntKind.i64.wrap (t282 + (1 : Int))) r_5 r_6 r_7 r_8 placed2 out2)) m next t28 (!g) t22 t23 t27 t28 (List.length r_3 : Int) (0 : Int) r_ r_2 r_3 r_4 placed out)
  (k1 m next t22 t23 r_ r_2 r_3 r_4 placed out)
def order_Sort_p2_l (p1 : order_Sort_p1_T) {β : Type} : Nat → order_Sort_p2_K1 β → (List (List Int)) → Int → Int → Int → Int → Int → (List (List UInt8 × Int)) → (List (Int × (Int × (Int × Int)))) → (List api_Event) → (List (Int × (Int × Int))) → (List (Int × Bool)) → (List Int) → Option β
  | 0 => fun _ _ _ _ _ _ _ _ _ _ _ _ _ => none
  | i + 1 => fun k1 m next t22 t23 t27 t28 r_ r_2 r_3 r_4 placed out => order_Sort_p2_s c_order_matrix_earlier p1 (order_Sort_p2_l p1 i k1) k1 m next t22 t23 t27 t28 r_ r_2 r_3 r_4 placed out
theorem order_Sort_p2_ok' (hΓ : ΓOk Try.prog (order_Sort_X c_order_closed c_order_matrix_before c_order_matrix_earlier).Γ) (p1 : order_Sort_p1_T) (hp1 : PieceOk Try.prog 76 0 order_Sort_p1_code order_Sort_p1_v order_Sort_p1_o (order_Sort_p1_G p1)) (i : Nat) : PieceOk Try.prog 76 0 order_Sort_p2_code order_Sort_p2_v order_Sort_p2_o (order_Sort_p2_G (order_Sort_p2_l c_order_matrix_earlier p1 i)) := by
  rw [show order_Sort_p2_code = .loop (loopBody order_Sort_p2_code) by kernel_rfl]
  exact piece_loop (X := (order_Sort_X c_order_closed c_order_matrix_before c_order_matrix_earlier)) (p := 1) (Λ := pick1 [(922, pieceCut order_Sort_p1_v order_Sort_p1_o (order_Sort_p1_G p1))]) (G := fun i => @fun β d ks => order_Sort_p2_G (order_Sort_p2_l c_order_matrix_earlier p1 i) d ks) mixed tab_ok hΓ rfl (by kernel_rfl) (CutsOk_cons (q := 922) (c' := order_Sort_p1_code) (by kernel_rfl) rfl hp1 CutsOk_nil) (fun _ _ => rfl) (fun i => @fun β d ks r h => Eq.trans (b := order_Sort_p2_G (order_Sort_p2_l c_order_matrix_earlier p1 (i + 1)) d ks) (by kernel_rfl) h) i
def order_Sort_p3_s (p2 : order_Sort_p2_T) {β : Type} (rec : (List (List Int)) → Int → Int → (List (List UInt8 × Int)) → (List (Int × (Int × (Int × Int)))) → (List api_Event) → (List (Int × (Int × Int))) → (List (Int × Bool)) → (List Int) → Option β) (k1 : order_Sort_p3_K1 β) (m : List (List Int)) (t22 : Int) (t23 : Int) (r_ : List (List UInt8 × Int)) (r_2 : List (Int × (Int × (Int × Int)))) (r_3 : List api_Event) (r_4 : List (Int × (Int × Int))) (placed : List (Int × Bool)) (out : List Int) : Option β :=
  cond (decide (t23 < t22))
  (p2 (fun (m2 : List (List Int)) (next : Int) (t222 : Int) (t232 : Int) (r_5 : List (List UInt8 × Int)) (r_6 : List (Int × (Int × (Int × Int)))) (r_7 : List api_Event) (r_8 : List (Int × (Int × Int))) (placed2 : List (Int × Bool)) (out2 : List Int) =>
  let m_ : List (Int × Bool) := (mPut (.int .i64) placed2 next true);
  let l : List Int := ([next] : List Int);
  cond (decide ((List.length out2 + List.length l) * 8 ≤ roomMax))
  (let l2 : List Int := (out2 ++ l);
  rec m2 t222 (IntKind.i64.wrap (t232 + (1 : Int))) r_5 r_6 r_7 r_8 m_ l2)
  none) m (-1 : Int) t22 t23 (List.length r_3 : Int) (0 : Int) r_ r_2 r_3 r_4 placed out)
  (k1 out)
def order_Sort_p3_l (p2 : order_Sort_p2_T) {β : Type} : Nat → order_Sort_p3_K1 β → (List (List Int)) → Int → Int → (List (List UInt8 × Int)) → (List (Int × (Int × (Int × Int)))) → (List api_Event) → (List (Int × (Int × Int))) → (List (Int × Bool)) → (List Int) → Option β
  | 0 => fun _ _ _ _ _ _ _ _ _ _ => none
  | i + 1 => fun k1 m t22 t23 r_ r_2 r_3 r_4 placed out => order_Sort_p3_s p2 (order_Sort_p3_l p2 i k1) k1 m t22 t23 r_ r_2 r_3 r_4 placed out
theorem order_Sort_p3_ok' (hΓ : ΓOk Try.prog (order_Sort_X c_order_closed c_order_matrix_before c_order_matrix_earlier).Γ) (p2 : order_Sort_p2_T) (hp2 : PieceOk Try.prog 76 0 order_Sort_p2_code order_Sort_p2_v order_Sort_p2_o (order_Sort_p2_G p2)) (i : Nat) : PieceOk Try.prog 76 0 order_Sort_p3_code order_Sort_p3_v order_Sort_p3_o (order_Sort_p3_G (order_Sort_p3_l p2 i)) := by
  rw [show order_Sort_p3_code = .loop (loopBody order_Sort_p3_code) by kernel_rfl]
  exact piece_loop (X := (order_Sort_X c_order_closed c_order_matrix_before c_order_matrix_earlier)) (p := 1) (Λ := pick1 [(458, pieceCut order_Sort_p2_v order_Sort_p2_o (order_Sort_p2_G p2))]) (G := fun i => @fun β d ks => order_Sort_p3_G (order_Sort_p3_l p2 i) d ks) mixed tab_ok hΓ rfl (by kernel_rfl) (CutsOk_cons (q := 458) (c' := order_Sort_p2_code) (by kernel_rfl) rfl hp2 CutsOk_nil) (fun _ _ => rfl) (fun i => @fun β d ks r h => Eq.trans (b := order_Sort_p3_G (order_Sort_p3_l p2 (i + 1)) d ks) (by kernel_rfl) h) i
def order_Sort_s (p3 : order_Sort_p3_T) {β : Type} (r_ : api_Record) (k : (Bool → (List Int) → Option β)) : Option β :=
  c_order_closed r_ (fun (rclosed : List (List Int)) (rclosed2 : Bool) =>
  cond (!rclosed2)
  (k false ([] : List Int))
  (let m_ : List (Int × Bool) := ([] : List (Int × Bool));
  p3 (fun (out : List Int) =>
  k true out) rclosed (List.length r_.2.2.1 : Int) (0 : Int) r_.1 r_.2.1 r_.2.2.1 r_.2.2.2 m_ ([] : List Int)))
theorem order_Sort_ok' (hΓ : ΓOk Try.prog (order_Sort_X c_order_closed c_order_matrix_before c_order_matrix_earlier).Γ) (p3 : order_Sort_p3_T) (hp3 : PieceOk Try.prog 76 0 order_Sort_p3_code order_Sort_p3_v order_Sort_p3_o (order_Sort_p3_G p3)) : SpecOk Try.prog 46 (order_Sort_S (order_Sort_s c_order_closed p3)) :=
  spec_exec (X := (order_Sort_X c_order_closed c_order_matrix_before c_order_matrix_earlier)) (Λ := pick1 [(506, pieceCut order_Sort_p3_v order_Sort_p3_o (order_Sort_p3_G p3))]) (rs := [.tmp 2, .tmp 3]) (c := bodyOf Try.f46) mixed tab_ok hΓ Try.func46 (by kernel_rfl) (by kernel_rfl) (by kernel_rfl) (by kernel_rfl) (CutsOk_cons (q := 506) (c' := order_Sort_p3_code) (by kernel_rfl) rfl hp3 CutsOk_nil) (fun x k r h => Eq.trans (b := (order_Sort_S (order_Sort_s c_order_closed p3)).run x k) (by kernel_rfl) h)
end
theorem order_Sort_Γ : ΓOk Try.prog (pick1 [(61, .spec (order_closed_S order_closed)), (60, .spec (order_matrix_before_S order_matrix_before)), (69, .spec (order_matrix_earlier_S order_matrix_earlier))]) := (ΓOk_cons order_closed_ok (ΓOk_cons order_matrix_before_ok (ΓOk_cons order_matrix_earlier_ok ΓOk_nil)))
def order_Sort_p1_n (m : Nat) : order_Sort_p1_T := order_Sort_p1_l order_matrix_before m
theorem order_Sort_p1_step {β : Type} (i : Nat) (k1 m next i_ free t22 t23 t27 t28 t37 t38 r_ r_2 r_3 r_4 placed out) : (order_Sort_p1_n (i + 1) k1 m next i_ free t22 t23 t27 t28 t37 t38 r_ r_2 r_3 r_4 placed out : Option β) = order_Sort_p1_s order_matrix_before (order_Sort_p1_n i k1) k1 m next i_ free t22 t23 t27 t28 t37 t38 r_ r_2 r_3 r_4 placed out := rfl
def order_Sort_p1 : order_Sort_p1_T := order_Sort_p1_n fuel
theorem order_Sort_p1_ok : PieceOk Try.prog 76 0 order_Sort_p1_code order_Sort_p1_v order_Sort_p1_o (order_Sort_p1_G order_Sort_p1) := order_Sort_p1_ok' order_closed order_matrix_before order_matrix_earlier order_Sort_Γ fuel
def order_Sort_p2_n (m : Nat) : order_Sort_p2_T := order_Sort_p2_l order_matrix_earlier order_Sort_p1 m
theorem order_Sort_p2_step {β : Type} (i : Nat) (k1 m next t22 t23 t27 t28 r_ r_2 r_3 r_4 placed out) : (order_Sort_p2_n (i + 1) k1 m next t22 t23 t27 t28 r_ r_2 r_3 r_4 placed out : Option β) = order_Sort_p2_s order_matrix_earlier order_Sort_p1 (order_Sort_p2_n i k1) k1 m next t22 t23 t27 t28 r_ r_2 r_3 r_4 placed out := rfl
def order_Sort_p2 : order_Sort_p2_T := order_Sort_p2_n fuel
theorem order_Sort_p2_ok : PieceOk Try.prog 76 0 order_Sort_p2_code order_Sort_p2_v order_Sort_p2_o (order_Sort_p2_G order_Sort_p2) := order_Sort_p2_ok' order_closed order_matrix_before order_matrix_earlier order_Sort_Γ order_Sort_p1 order_Sort_p1_ok fuel
def order_Sort_p3_n (m : Nat) : order_Sort_p3_T := order_Sort_p3_l order_Sort_p2 m
theorem order_Sort_p3_step {β : Type} (i : Nat) (k1 m t22 t23 r_ r_2 r_3 r_4 placed out) : (order_Sort_p3_n (i + 1) k1 m t22 t23 r_ r_2 r_3 r_4 placed out : Option β) = order_Sort_p3_s order_Sort_p2 (order_Sort_p3_n i k1) k1 m t22 t23 r_ r_2 r_3 r_4 placed out := rfl
def order_Sort_p3 : order_Sort_p3_T := order_Sort_p3_n fuel
theorem order_Sort_p3_ok : PieceOk Try.prog 76 0 order_Sort_p3_code order_Sort_p3_v order_Sort_p3_o (order_Sort_p3_G order_Sort_p3) := order_Sort_p3_ok' order_closed order_matrix_before order_matrix_earlier order_Sort_Γ order_Sort_p2 order_Sort_p2_ok fuel
def order_Sort : T_order_Sort := order_Sort_s order_closed order_Sort_p3
theorem order_Sort_ok : SpecOk Try.prog 46 (order_Sort_S order_Sort) := order_Sort_ok' order_closed order_matrix_before order_matrix_earlier order_Sort_Γ order_Sort_p3 order_Sort_p3_ok

/-- pagewatch/order.both -/
abbrev T_order_both := {β : Type} → api_Record → Int → Int → ((List (List Int)) → Bool → Option β) → Option β
def order_both_S (c : T_order_both) : Spec :=
  ⟨[(true, [.data y_api_Record]), (false, [.data (.int .i64)]), (false, [.data (.int .i64)])], [], [(false, [.data (.slice (.slice (.int .i64)))]), (false, [.data .bool])], [], fun x k => c x.1.1.1 x.1.2.1.1 x.1.2.2.1.1 (fun r0 r1 => k (((r0, ()), (r1, ()), ()), ()))⟩
section
variable (c_order_closed : T_order_closed) (c_order_in : T_order_in)
@[reducible] def order_both_X : Ctx := ⟨look tab, pick1 [(61, .spec (order_closed_S c_order_closed)), (67, .spec (order_in_S c_order_in))], false⟩
def order_both_s {β : Type} (r_ : api_Record) (a : Int) (b : Int) (k : ((List (List Int)) → Bool → Option β)) : Option β :=
  c_order_closed r_ (fun (rclosed : List (List Int)) (rclosed2 : Bool) =>
  cond rclosed2
  (c_order_in a (0 : Int) (IntKind.i64.wrap ((List.length r_.2.2.1 : Int) - (1 : Int))) (fun (rin : Bool) =>
  cond rin
  (c_order_in b (0 : Int) (IntKind.i64.wrap ((List.length r_.2.2.1 : Int) - (1 : Int))) (fun (rin2 : Bool) =>
  k rclosed rin2))
  (k rclosed false)))
  (k rclosed false))
theorem order_both_ok' (hΓ : ΓOk Try.prog (order_both_X c_order_closed c_order_in).Γ) : SpecOk Try.prog 59 (order_both_S (order_both_s c_order_closed c_order_in)) :=
  spec_exec (X := (order_both_X c_order_closed c_order_in)) (Λ := pick1 []) (rs := [.tmp 6, .tmp 7]) (c := bodyOf Try.f59) mixed tab_ok hΓ Try.func59 (by kernel_rfl) (by kernel_rfl) (by kernel_rfl) (by kernel_rfl) CutsOk_nil (fun x k r h => Eq.trans (b := (order_both_S (order_both_s c_order_closed c_order_in)).run x k) (by kernel_rfl) h)
end
theorem order_both_Γ : ΓOk Try.prog (pick1 [(61, .spec (order_closed_S order_closed)), (67, .spec (order_in_S order_in))]) := (ΓOk_cons order_closed_ok (ΓOk_cons order_in_ok ΓOk_nil))
def order_both : T_order_both := order_both_s order_closed order_in
theorem order_both_ok : SpecOk Try.prog 59 (order_both_S order_both) := order_both_ok' order_closed order_in order_both_Γ

/-- slices.IndexFunc[[]int,int] -/
abbrev T_slices_IndexFunc_int_int_vconstraint_Fits_f1 := {β : Type} → (List Int) → (Int → Option β) → Option β
def slices_IndexFunc_int_int_vconstraint_Fits_f1_S (c : T_slices_IndexFunc_int_int_vconstraint_Fits_f1) : Spec :=
  ⟨[(false, [.data (.slice (.int .i64))]), (false, [.fn 76 []])], [], [(false, [.data (.int .i64)])], [], fun x k => c x.1.1.1 (fun r0 => k (((r0, ()), ()), ()))⟩
noncomputable def slices_IndexFunc_int_int_vconstraint_Fits_f1_p1_code : Code := codeAt 26 (bodyOf Try.f74)
abbrev slices_IndexFunc_int_int_vconstraint_Fits_f1_p1_K1 (β : Type) := Int → Option β
abbrev slices_IndexFunc_int_int_vconstraint_Fits_f1_p1_K2 (β : Type) := Unit → Option β
abbrev slices_IndexFunc_int_int_vconstraint_Fits_f1_p1_T := {β : Type} → slices_IndexFunc_int_int_vconstraint_Fits_f1_p1_K1 β → slices_IndexFunc_int_int_vconstraint_Fits_f1_p1_K2 β → (List Int) → Int → Int → Option β
def slices_IndexFunc_int_int_vconstraint_Fits_f1_p1_v : View := ⟨0, [0, 1, 7, 8], [(false, [.data (.slice (.int .i64))]), (false, [.fn 76 []]), (false, [.data (.int .i64)]), (false, [.data (.int .i64)])], []⟩
def slices_IndexFunc_int_int_vconstraint_Fits_f1_p1_o : List (AExit × View) := [(.ret, ⟨0, [4], [(false, [.data (.int .i64)])], []⟩), (.exit 0, ⟨0, [], [], []⟩)]
@[reducible] def slices_IndexFunc_int_int_vconstraint_Fits_f1_p1_G (p : slices_IndexFunc_int_int_vconstraint_Fits_f1_p1_T) {β : Type} (d : slices_IndexFunc_int_int_vconstraint_Fits_f1_p1_v.den) (ks : Outs.K β slices_IndexFunc_int_int_vconstraint_Fits_f1_p1_o) : Option β :=
  p (fun a0 => ks.1 (((a0, ()), ()), ())) (fun _ => ks.2.1 ((), ())) d.1.1.1 d.1.2.2.1.1 d.1.2.2.2.1.1
section
variable (c_constraint_Fits_f1 : T_constraint_Fits_f1)
@[reducible] def slices_IndexFunc_int_int_vconstraint_Fits_f1_X : Ctx := ⟨look tab, pick1 [(76, .spec (constraint_Fits_f1_S c_constraint_Fits_f1))], false⟩
def slices_IndexFunc_int_int_vconstraint_Fits_f1_p1_s {β : Type} (rec : (List Int) → Int → Int → Option β) (k1 : slices_IndexFunc_int_int_vconstraint_Fits_f1_p1_K1 β) (k2 : slices_IndexFunc_int_int_vconstraint_Fits_f1_p1_K2 β) (s : List Int) (t7 : Int) (t8 : Int) : Option β :=
  cond (decide (t8 < t7))
  (cond (decide (0 ≤ t8) && decide (t8 < (List.length s : Int)))
  (let e : Int := List.getD s (Int.toNat t8) (0 : Int);
  c_constraint_Fits_f1 e (fun (rFits1 : Bool) =>
  cond rFits1
  (k1 t8)
  (rec s t7 (IntKind.i64.wrap (t8 + (1 : Int))))))
  none)
  (k2 ())
def slices_IndexFunc_int_int_vconstraint_Fits_f1_p1_l {β : Type} : Nat → slices_IndexFunc_int_int_vconstraint_Fits_f1_p1_K1 β → slices_IndexFunc_int_int_vconstraint_Fits_f1_p1_K2 β → (List Int) → Int → Int → Option β
  | 0 => fun _ _ _ _ _ => none
  | i + 1 => fun k1 k2 s t7 t8 => slices_IndexFunc_int_int_vconstraint_Fits_f1_p1_s c_constraint_Fits_f1 (slices_IndexFunc_int_int_vconstraint_Fits_f1_p1_l i k1 k2) k1 k2 s t7 t8
theorem slices_IndexFunc_int_int_vconstraint_Fits_f1_p1_ok' (hΓ : ΓOk Try.prog (slices_IndexFunc_int_int_vconstraint_Fits_f1_X c_constraint_Fits_f1).Γ) (i : Nat) : PieceOk Try.prog 19 0 slices_IndexFunc_int_int_vconstraint_Fits_f1_p1_code slices_IndexFunc_int_int_vconstraint_Fits_f1_p1_v slices_IndexFunc_int_int_vconstraint_Fits_f1_p1_o (slices_IndexFunc_int_int_vconstraint_Fits_f1_p1_G (slices_IndexFunc_int_int_vconstraint_Fits_f1_p1_l c_constraint_Fits_f1 i)) := by
  rw [show slices_IndexFunc_int_int_vconstraint_Fits_f1_p1_code = .loop (loopBody slices_IndexFunc_int_int_vconstraint_Fits_f1_p1_code) by kernel_rfl]
  exact piece_loop (X := (slices_IndexFunc_int_int_vconstraint_Fits_f1_X c_constraint_Fits_f1)) (p := 1) (Λ := pick1 []) (G := fun i => @fun β d ks => slices_IndexFunc_int_int_vconstraint_Fits_f1_p1_G (slices_IndexFunc_int_int_vconstraint_Fits_f1_p1_l c_constraint_Fits_f1 i) d ks) mixed tab_ok hΓ rfl (by kernel_rfl) CutsOk_nil (fun _ _ => rfl) (fun i => @fun β d ks r h => Eq.trans (b := slices_IndexFunc_int_int_vconstraint_Fits_f1_p1_G (slices_IndexFunc_int_int_vconstraint_Fits_f1_p1_l c_constraint_Fits_f1 (i + 1)) d ks) (by kernel_rfl) h) i
def slices_IndexFunc_int_int_vconstraint_Fits_f1_s (p1 : slices_IndexFunc_int_int_vconstraint_Fits_f1_p1_T) {β : Type} (s : List Int) (k : (Int → Option β)) : Option β :=
  p1 (fun (t4 : Int) =>
  k t4) (fun (_ : Unit) =>
  k (-1 : Int)) s (List.length s : Int) (0 : Int)
theorem slices_IndexFunc_int_int_vconstraint_Fits_f1_ok' (hΓ : ΓOk Try.prog (slices_IndexFunc_int_int_vconstraint_Fits_f1_X c_constraint_Fits_f1).Γ) (p1 : slices_IndexFunc_int_int_vconstraint_Fits_f1_p1_T) (hp1 : PieceOk Try.prog 19 0 slices_IndexFunc_int_int_vconstraint_Fits_f1_p1_code slices_IndexFunc_int_int_vconstraint_Fits_f1_p1_v slices_IndexFunc_int_int_vconstraint_Fits_f1_p1_o (slices_IndexFunc_int_int_vconstraint_Fits_f1_p1_G p1)) : SpecOk Try.prog 74 (slices_IndexFunc_int_int_vconstraint_Fits_f1_S (slices_IndexFunc_int_int_vconstraint_Fits_f1_s p1)) :=
  spec_exec (X := (slices_IndexFunc_int_int_vconstraint_Fits_f1_X c_constraint_Fits_f1)) (Λ := pick1 [(26, pieceCut slices_IndexFunc_int_int_vconstraint_Fits_f1_p1_v slices_IndexFunc_int_int_vconstraint_Fits_f1_p1_o (slices_IndexFunc_int_int_vconstraint_Fits_f1_p1_G p1))]) (rs := [.tmp 4]) (c := bodyOf Try.f74) mixed tab_ok hΓ Try.func74 (by kernel_rfl) (by kernel_rfl) (by kernel_rfl) (by kernel_rfl) (CutsOk_cons (q := 26) (c' := slices_IndexFunc_int_int_vconstraint_Fits_f1_p1_code) (by kernel_rfl) rfl hp1 CutsOk_nil) (fun x k r h => Eq.trans (b := (slices_IndexFunc_int_int_vconstraint_Fits_f1_S (slices_IndexFunc_int_int_vconstraint_Fits_f1_s p1)).run x k) (by kernel_rfl) h)
end
theorem slices_IndexFunc_int_int_vconstraint_Fits_f1_Γ : ΓOk Try.prog (pick1 [(76, .spec (constraint_Fits_f1_S constraint_Fits_f1))]) := (ΓOk_cons constraint_Fits_f1_ok ΓOk_nil)
def slices_IndexFunc_int_int_vconstraint_Fits_f1_p1_n (m : Nat) : slices_IndexFunc_int_int_vconstraint_Fits_f1_p1_T := slices_IndexFunc_int_int_vconstraint_Fits_f1_p1_l constraint_Fits_f1 m
theorem slices_IndexFunc_int_int_vconstraint_Fits_f1_p1_step {β : Type} (i : Nat) (k1 k2 s t7 t8) : (slices_IndexFunc_int_int_vconstraint_Fits_f1_p1_n (i + 1) k1 k2 s t7 t8 : Option β) = slices_IndexFunc_int_int_vconstraint_Fits_f1_p1_s constraint_Fits_f1 (slices_IndexFunc_int_int_vconstraint_Fits_f1_p1_n i k1 k2) k1 k2 s t7 t8 := rfl
def slices_IndexFunc_int_int_vconstraint_Fits_f1_p1 : slices_IndexFunc_int_int_vconstraint_Fits_f1_p1_T := slices_IndexFunc_int_int_vconstraint_Fits_f1_p1_n fuel
theorem slices_IndexFunc_int_int_vconstraint_Fits_f1_p1_ok : PieceOk Try.prog 19 0 slices_IndexFunc_int_int_vconstraint_Fits_f1_p1_code slices_IndexFunc_int_int_vconstraint_Fits_f1_p1_v slices_IndexFunc_int_int_vconstraint_Fits_f1_p1_o (slices_IndexFunc_int_int_vconstraint_Fits_f1_p1_G slices_IndexFunc_int_int_vconstraint_Fits_f1_p1) := slices_IndexFunc_int_int_vconstraint_Fits_f1_p1_ok' constraint_Fits_f1 slices_IndexFunc_int_int_vconstraint_Fits_f1_Γ fuel
def slices_IndexFunc_int_int_vconstraint_Fits_f1 : T_slices_IndexFunc_int_int_vconstraint_Fits_f1 := slices_IndexFunc_int_int_vconstraint_Fits_f1_s slices_IndexFunc_int_int_vconstraint_Fits_f1_p1
theorem slices_IndexFunc_int_int_vconstraint_Fits_f1_ok : SpecOk Try.prog 74 (slices_IndexFunc_int_int_vconstraint_Fits_f1_S slices_IndexFunc_int_int_vconstraint_Fits_f1) := slices_IndexFunc_int_int_vconstraint_Fits_f1_ok' constraint_Fits_f1 slices_IndexFunc_int_int_vconstraint_Fits_f1_Γ slices_IndexFunc_int_int_vconstraint_Fits_f1_p1 slices_IndexFunc_int_int_vconstraint_Fits_f1_p1_ok

/-- pagewatch/order.Compare -/
abbrev T_order_Compare := {β : Type} → api_Record → Int → Int → (Int → Bool → Option β) → Option β
def order_Compare_S (c : T_order_Compare) : Spec :=
  ⟨[(true, [.data y_api_Record]), (false, [.data (.int .i64)]), (false, [.data (.int .i64)])], [], [(false, [.data (.int .i64)]), (false, [.data .bool])], [], fun x k => c x.1.1.1 x.1.2.1.1 x.1.2.2.1.1 (fun r0 r1 => k (((r0, ()), (r1, ()), ()), ()))⟩
section
variable (c_order_both : T_order_both) (c_order_matrix_before : T_order_matrix_before)
@[reducible] def order_Compare_X : Ctx := ⟨look tab, pick1 [(59, .spec (order_both_S c_order_both)), (60, .spec (order_matrix_before_S c_order_matrix_before))], false⟩
def order_Compare_s {β : Type} (r_ : api_Record) (a : Int) (b : Int) (k : (Int → Bool → Option β)) : Option β :=
  c_order_both r_ a b (fun (rboth : List (List Int)) (rboth2 : Bool) =>
  cond (!rboth2)
  (k (0 : Int) false)
  (c_order_matrix_before rboth a b (fun (rbefore : Bool) =>
  cond rbefore
  (k (-1 : Int) true)
  (c_order_matrix_before rboth b a (fun (rbefore2 : Bool) =>
  cond rbefore2
  (k (1 : Int) true)
  (k (0 : Int) true))))))
theorem order_Compare_ok' (hΓ : ΓOk Try.prog (order_Compare_X c_order_both c_order_matrix_before).Γ) : SpecOk Try.prog 40 (order_Compare_S (order_Compare_s c_order_both c_order_matrix_before)) :=
  spec_exec (X := (order_Compare_X c_order_both c_order_matrix_before)) (Λ := pick1 []) (rs := [.tmp 6, .tmp 7]) (c := bodyOf Try.f40) mixed tab_ok hΓ Try.func40 (by kernel_rfl) (by kernel_rfl) (by kernel_rfl) (by kernel_rfl) CutsOk_nil (fun x k r h => Eq.trans (b := (order_Compare_S (order_Compare_s c_order_both c_order_matrix_before)).run x k) (by kernel_rfl) h)
end
theorem order_Compare_Γ : ΓOk Try.prog (pick1 [(59, .spec (order_both_S order_both)), (60, .spec (order_matrix_before_S order_matrix_before))]) := (ΓOk_cons order_both_ok (ΓOk_cons order_matrix_before_ok ΓOk_nil))
def order_Compare : T_order_Compare := order_Compare_s order_both order_matrix_before
theorem order_Compare_ok : SpecOk Try.prog 40 (order_Compare_S order_Compare) := order_Compare_ok' order_both order_matrix_before order_Compare_Γ

/-- pagewatch/order.Gap -/
abbrev T_order_Gap := {β : Type} → api_Record → Int → Int → ((Int × Int) → Bool → Option β) → Option β
def order_Gap_S (c : T_order_Gap) : Spec :=
  ⟨[(true, [.data y_api_Record]), (false, [.data (.int .i64)]), (false, [.data (.int .i64)])], [], [(true, [.data (.prod (.int .i64) (.int .i64))]), (false, [.data .bool])], [], fun x k => c x.1.1.1 x.1.2.1.1 x.1.2.2.1.1 (fun r0 r1 => k (((r0, ()), (r1, ()), ()), ()))⟩
section
variable (c_order_both : T_order_both)
@[reducible] def order_Gap_X : Ctx := ⟨look tab, pick1 [(59, .spec (order_both_S c_order_both))], false⟩
def order_Gap_s {β : Type} (r_ : api_Record) (a : Int) (b : Int) (k : ((Int × Int) → Bool → Option β)) : Option β :=
  c_order_both r_ a b (fun (rboth : List (List Int)) (rboth2 : Bool) =>
  cond (!rboth2)
  (k ((0 : Int), (0 : Int)) false)
  (cond (decide (0 ≤ (IntKind.i64.wrap (b + (1 : Int)))) && decide ((IntKind.i64.wrap (b + (1 : Int))) < (List.length rboth : Int)))
  (let e : List Int := List.getD rboth (Int.toNat (IntKind.i64.wrap (b + (1 : Int)))) ([] : List Int);
  cond (decide (0 ≤ (IntKind.i64.wrap (a + (1 : Int)))) && decide ((IntKind.i64.wrap (a + (1 : Int))) < (List.length e : Int)))
  (let e2 : Int := List.getD e (Int.toNat (IntKind.i64.wrap (a + (1 : Int)))) (0 : Int);
  cond (decide (0 ≤ (IntKind.i64.wrap (a + (1 : Int)))) && decide ((IntKind.i64.wrap (a + (1 : Int))) < (List.length rboth : Int)))
  (let e3 : List Int := List.getD rboth (Int.toNat (IntKind.i64.wrap (a + (1 : Int)))) ([] : List Int);
  cond (decide (0 ≤ (IntKind.i64.wrap (b + (1 : Int)))) && decide ((IntKind.i64.wrap (b + (1 : Int))) < (List.length e3 : Int)))
  (let e4 : Int := List.getD e3 (Int.toNat (IntKind.i64.wrap (b + (1 : Int)))) (0 : Int);
  k ((IntKind.i64.wrap (0 - e2)), e4) true)
  none)
  none)
  none)
  none))
theorem order_Gap_ok' (hΓ : ΓOk Try.prog (order_Gap_X c_order_both).Γ) : SpecOk Try.prog 45 (order_Gap_S (order_Gap_s c_order_both)) :=
  spec_exec (X := (order_Gap_X c_order_both)) (Λ := pick1 []) (rs := [.cell 6 45, .tmp 7]) (c := bodyOf Try.f45) mixed tab_ok hΓ Try.func45 (by kernel_rfl) (by kernel_rfl) (by kernel_rfl) (by kernel_rfl) CutsOk_nil (fun x k r h => Eq.trans (b := (order_Gap_S (order_Gap_s c_order_both)).run x k) (by kernel_rfl) h)
end
theorem order_Gap_Γ : ΓOk Try.prog (pick1 [(59, .spec (order_both_S order_both))]) := (ΓOk_cons order_both_ok ΓOk_nil)
def order_Gap : T_order_Gap := order_Gap_s order_both
theorem order_Gap_ok : SpecOk Try.prog 45 (order_Gap_S order_Gap) := order_Gap_ok' order_both order_Gap_Γ

/-- slices.ContainsFunc[[]int,int] -/
abbrev T_slices_ContainsFunc_int_int_vconstraint_Fits_f1 := {β : Type} → (List Int) → (Bool → Option β) → Option β
def slices_ContainsFunc_int_int_vconstraint_Fits_f1_S (c : T_slices_ContainsFunc_int_int_vconstraint_Fits_f1) : Spec :=
  ⟨[(false, [.data (.slice (.int .i64))]), (false, [.fn 76 []])], [], [(false, [.data .bool])], [], fun x k => c x.1.1.1 (fun r0 => k (((r0, ()), ()), ()))⟩
section
variable (c_slices_IndexFunc_int_int_vconstraint_Fits_f1 : T_slices_IndexFunc_int_int_vconstraint_Fits_f1)
@[reducible] def slices_ContainsFunc_int_int_vconstraint_Fits_f1_X : Ctx := ⟨look tab, pick1 [(74, .spec (slices_IndexFunc_int_int_vconstraint_Fits_f1_S c_slices_IndexFunc_int_int_vconstraint_Fits_f1))], false⟩
def slices_ContainsFunc_int_int_vconstraint_Fits_f1_s {β : Type} (s : List Int) (k : (Bool → Option β)) : Option β :=
  c_slices_IndexFunc_int_int_vconstraint_Fits_f1 s (fun (rIndexFuncintint : Int) =>
  let t : Bool := (decide ((0 : Int) ≤ rIndexFuncintint));
  k t)
theorem slices_ContainsFunc_int_int_vconstraint_Fits_f1_ok' (hΓ : ΓOk Try.prog (slices_ContainsFunc_int_int_vconstraint_Fits_f1_X c_slices_IndexFunc_int_int_vconstraint_Fits_f1).Γ) : SpecOk Try.prog 65 (slices_ContainsFunc_int_int_vconstraint_Fits_f1_S (slices_ContainsFunc_int_int_vconstraint_Fits_f1_s c_slices_IndexFunc_int_int_vconstraint_Fits_f1)) :=
  spec_exec (X := (slices_ContainsFunc_int_int_vconstraint_Fits_f1_X c_slices_IndexFunc_int_int_vconstraint_Fits_f1)) (Λ := pick1 []) (rs := [.tmp 4]) (c := bodyOf Try.f65) mixed tab_ok hΓ Try.func65 (by kernel_rfl) (by kernel_rfl) (by kernel_rfl) (by kernel_rfl) CutsOk_nil (fun x k r h => Eq.trans (b := (slices_ContainsFunc_int_int_vconstraint_Fits_f1_S (slices_ContainsFunc_int_int_vconstraint_Fits_f1_s c_slices_IndexFunc_int_int_vconstraint_Fits_f1)).run x k) (by kernel_rfl) h)
end
theorem slices_ContainsFunc_int_int_vconstraint_Fits_f1_Γ : ΓOk Try.prog (pick1 [(74, .spec (slices_IndexFunc_int_int_vconstraint_Fits_f1_S slices_IndexFunc_int_int_vconstraint_Fits_f1))]) := (ΓOk_cons slices_IndexFunc_int_int_vconstraint_Fits_f1_ok ΓOk_nil)
def slices_ContainsFunc_int_int_vconstraint_Fits_f1 : T_slices_ContainsFunc_int_int_vconstraint_Fits_f1 := slices_ContainsFunc_int_int_vconstraint_Fits_f1_s slices_IndexFunc_int_int_vconstraint_Fits_f1
theorem slices_ContainsFunc_int_int_vconstraint_Fits_f1_ok : SpecOk Try.prog 65 (slices_ContainsFunc_int_int_vconstraint_Fits_f1_S slices_ContainsFunc_int_int_vconstraint_Fits_f1) := slices_ContainsFunc_int_int_vconstraint_Fits_f1_ok' slices_IndexFunc_int_int_vconstraint_Fits_f1 slices_ContainsFunc_int_int_vconstraint_Fits_f1_Γ
end
end Go.Lift
