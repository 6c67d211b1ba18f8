import Derived.Test.YtamnjokpncjbfaaLiftY
import Derived.Test.YtamnjokpncjbfaaProg
namespace Go.Lift
open Go.Proofs
noncomputable section
set_option maxRecDepth 100000
set_option linter.unusedVariables false

abbrev api_Event := (Int × (Int × List UInt8))
abbrev y_api_Event : Ty := (.prod (.int .i64) (.prod (.int .i64) .str))
abbrev api_Record := (List (List UInt8 × Int) × (List (Int × (Int × (Int × Int))) × (List api_Event × List (Int × (Int × Int)))))
abbrev y_api_Record : Ty := (.prod (.slice (.prod .str (.int .i64))) (.prod (.slice (.prod (.int .i64) (.prod (.int .i64) (.prod (.int .i64) (.int .i64))))) (.prod (.slice y_api_Event) (.slice (.prod (.int .i64) (.prod (.int .i64) (.int .i64)))))))

def tab : List (Nat × TI) := [
  (3, ⟨false, 1, 8, [.int .i64 (0 : Int)], [], none, none, (some (.int .i64)), (some .i64), false, false, none, none⟩),
  (4, ⟨false, 1, 1, [.bool false], [], none, none, (some .bool), none, true, false, none, none⟩),
  (9, ⟨false, 1, 16, [.str ([] : List UInt8)], [], none, none, (some .str), none, false, true, none, none⟩),
  (27, ⟨false, 1, 24, [.nils], [], (some 3), none, (some (.slice (.int .i64))), none, false, false, none, none⟩),
  (28, ⟨false, 1, 2, [.int .u16 (0 : Int)], [], none, none, (some (.int .u16)), (some .u16), false, false, none, none⟩),
  (35, ⟨true, 2, 24, [.str ([] : List UInt8), .int .i64 (0 : Int)], [(0, 1, false), (1, 1, false)], none, none, (some (.prod .str (.int .i64))), none, false, false, (some [.s, .i]), none⟩),
  (36, ⟨false, 1, 24, [.nils], [], (some 35), none, (some (.slice (.prod .str (.int .i64)))), none, false, false, none, none⟩),
  (37, ⟨false, 1, 24, [.nils], [], (some 43), none, (some (.slice (.prod (.int .i64) (.prod (.int .i64) (.prod (.int .i64) (.int .i64)))))), none, false, false, none, none⟩),
  (38, ⟨false, 1, 24, [.nils], [], (some 65), none, (some (.slice y_api_Event)), none, false, false, none, none⟩),
  (39, ⟨false, 1, 24, [.nils], [], (some 67), none, (some (.slice (.prod (.int .i64) (.prod (.int .i64) (.int .i64))))), none, false, false, none, none⟩),
  (41, ⟨true, 4, 96, [.nils, .nils, .nils, .nils], [(0, 1, false), (1, 1, false), (2, 1, false), (3, 1, false)], none, none, (some y_api_Record), none, false, false, none, none⟩),
  (43, ⟨true, 4, 32, [.int .i64 (0 : Int), .int .i64 (0 : Int), .int .i64 (0 : Int), .int .i64 (0 : Int)], [(0, 1, false), (1, 1, false), (2, 1, false), (3, 1, false)], none, none, (some (.prod (.int .i64) (.prod (.int .i64) (.prod (.int .i64) (.int .i64))))), none, false, false, (some [.i, .i, .i, .i]), none⟩),
  (45, ⟨true, 2, 16, [.int .i64 (0 : Int), .int .i64 (0 : Int)], [(0, 1, false), (1, 1, false)], none, none, (some (.prod (.int .i64) (.int .i64))), none, false, false, (some [.i, .i]), none⟩),
  (54, ⟨false, 1, 24, [.nils], [], (some 41), none, (some (.slice y_api_Record)), none, false, false, none, none⟩),
  (56, ⟨true, 2, 16, [.int .i64 (0 : Int), .int .i64 (0 : Int)], [], (some 3), (some 2), (some (.prod (.int .i64) (.int .i64))), none, false, false, (some [.i, .i]), none⟩),
  (57, ⟨false, 1, 24, [.nils], [], (some 56), none, (some (.slice (.prod (.int .i64) (.int .i64)))), none, false, false, none, none⟩),
  (61, ⟨false, 1, 24, [.nils], [], (some 27), none, (some (.slice (.slice (.int .i64)))), none, false, false, none, none⟩),
  (65, ⟨true, 3, 32, [.int .i64 (0 : Int), .int .i64 (0 : Int), .str ([] : List UInt8)], [(0, 1, false), (1, 1, false), (2, 1, false)], none, none, (some y_api_Event), none, false, false, (some [.i, .i, .s]), none⟩),
  (67, ⟨true, 3, 24, [.int .i64 (0 : Int), .int .i64 (0 : Int), .int .i64 (0 : Int)], [(0, 1, false), (1, 1, false), (2, 1, false)], none, none, (some (.prod (.int .i64) (.prod (.int .i64) (.int .i64)))), none, false, false, (some [.i, .i, .i]), none⟩),
  (70, ⟨false, 1, 24, [.nils], [], (some 45), none, (some (.slice (.prod (.int .i64) (.int .i64)))), none, false, false, none, none⟩),
  (82, ⟨true, 2, 32, [.nils, .int .i64 (0 : Int)], [(0, 1, false), (1, 1, false)], none, none, (some (.prod (.slice (.int .i64)) (.int .i64))), none, false, false, none, none⟩),
  (83, ⟨false, 1, 24, [.nils], [], (some 9), none, (some (.slice .str)), none, false, false, none, none⟩),
  (86, ⟨false, 1, 24, [.nils], [], (some 27), none, (some (.slice (.slice (.int .i64)))), none, false, false, none, none⟩),
  (92, ⟨false, 1, 24, [.nils], [], (some 101), none, (some (.slice (.prod (.int .i64) (.prod (.int .i64) (.int .i64))))), none, false, false, none, none⟩),
  (101, ⟨true, 3, 24, [.int .i64 (0 : Int), .int .i64 (0 : Int), .int .i64 (0 : Int)], [(0, 1, false), (1, 1, false), (2, 1, false)], none, none, (some (.prod (.int .i64) (.prod (.int .i64) (.int .i64)))), none, false, false, (some [.i, .i, .i]), none⟩)]

theorem tab_ok : TOk Try.prog (look tab) := TOk_of (by kernel_rfl)
theorem mixed : Try.prog.follows .mixedOrders = true := by kernel_rfl

/-- pagewatch/pagewatchmade.Light -/
abbrev T_made_Light := {β : Type} → (List Int) → (Bool → Option β) → Option β
def made_Light_S (c : T_made_Light) : Spec :=
  ⟨[(false, [.data (.slice (.int .i64))])], [], [(false, [.data .bool])], [], fun x k => c x.1.1.1 (fun r0 => k (((r0, ()), ()), ()))⟩
section
@[reducible] def made_Light_X : Ctx := ⟨look tab, pick1 [], false⟩
def made_Light_s {β : Type} (l : List Int) (k : (Bool → Option β)) : Option β :=
  let t : Bool := (decide ((List.length l : Int) ≤ (500 : Int)));
  k t
theorem made_Light_ok' (hΓ : ΓOk Try.prog made_Light_X.Γ) : SpecOk Try.prog 17 (made_Light_S (made_Light_s)) :=
  spec_exec (X := made_Light_X) (Λ := pick1 []) (rs := [.tmp 2]) (c := bodyOf Try.f17) mixed tab_ok hΓ Try.func17 (by kernel_rfl) (by kernel_rfl) (by kernel_rfl) (by kernel_rfl) CutsOk_nil (fun x k r h => Eq.trans (b := (made_Light_S (made_Light_s)).run x k) (by kernel_rfl) h)
end
theorem made_Light_Γ : ΓOk Try.prog (pick1 []) := ΓOk_nil
def made_Light : T_made_Light := made_Light_s
theorem made_Light_ok : SpecOk Try.prog 17 (made_Light_S made_Light) := made_Light_ok' made_Light_Γ

/-- pagewatch/pagewatchmade.Roll -/
abbrev T_made_Roll := {β : Type} → (List Int) → ((List Int × Int) → Option β) → Option β
def made_Roll_S (c : T_made_Roll) : Spec :=
  ⟨[(false, [.data (.slice (.int .i64))])], [], [(false, [.ptr 0 0])], [.cells 82 [.data (.prod (.slice (.int .i64)) (.int .i64))]], fun x k => c x.1.1.1 (fun r0 => k (((), ()), ((r0, ()), ())))⟩
section
@[reducible] def made_Roll_X : Ctx := ⟨look tab, pick1 [], false⟩
def made_Roll_s {β : Type} (l : List Int) (k : ((List Int × Int) → Option β)) : Option β :=
  k (l, (0 : Int))
theorem made_Roll_ok' (hΓ : ΓOk Try.prog made_Roll_X.Γ) : SpecOk Try.prog 18 (made_Roll_S (made_Roll_s)) :=
  spec_exec (X := made_Roll_X) (Λ := pick1 []) (rs := [.tmp 2]) (c := bodyOf Try.f18) mixed tab_ok hΓ Try.func18 (by kernel_rfl) (by kernel_rfl) (by kernel_rfl) (by kernel_rfl) CutsOk_nil (fun x k r h => Eq.trans (b := (made_Roll_S (made_Roll_s)).run x k) (by kernel_rfl) h)
end
theorem made_Roll_Γ : ΓOk Try.prog (pick1 []) := ΓOk_nil
def made_Roll : T_made_Roll := made_Roll_s
theorem made_Roll_ok : SpecOk Try.prog 18 (made_Roll_S made_Roll) := made_Roll_ok' made_Roll_Γ

/-- (*pagewatch/pagewatchmade.Dice).Next -/
abbrev T_made_Dice_Next := {β : Type} → Int → (List Int × Int) → (Int → (List Int × Int) → Option β) → Option β
def made_Dice_Next_S (c : T_made_Dice_Next) : Spec :=
  ⟨[(false, [.ptr 0 0]), (false, [.data (.int .i64)])], [.cells 82 [.data (.prod (.slice (.int .i64)) (.int .i64))]], [(false, [.data (.int .i64)])], [.cells 82 [.data (.prod (.slice (.int .i64)) (.int .i64))]], fun x k => c x.1.2.1.1 x.2.1.1 (fun r0 r1 => k (((r0, ()), ()), ((r1, ()), ())))⟩
section
@[reducible] def made_Dice_Next_X : Ctx := ⟨look tab, pick1 [], false⟩
def made_Dice_Next_s {β : Type} (n : Int) (d : (List Int × Int)) (k : (Int → (List Int × Int) → Option β)) : Option β :=
  cond (decide ((List.length d.1 : Int) ≤ d.2))
  (k (0 : Int) d)
  (cond (decide (n < (1 : Int)))
  (k (0 : Int) d)
  (cond (decide (0 ≤ d.2) && decide (d.2 < (List.length d.1 : Int)))
  (let e : Int := List.getD d.1 (Int.toNat d.2) (0 : Int);
  cond (!decide (n = 0))
  (cond (decide ((Int.tmod e n) < (0 : Int)))
  (let x : Int := (IntKind.i64.wrap ((Int.tmod e n) + n));
  k x (d.1, (IntKind.i64.wrap (d.2 + (1 : Int)))))
  (k (Int.tmod e n) (d.1, (IntKind.i64.wrap (d.2 + (1 : Int))))))
  none)
  none))
theorem made_Dice_Next_ok' (hΓ : ΓOk Try.prog made_Dice_Next_X.Γ) : SpecOk Try.prog 20 (made_Dice_Next_S (made_Dice_Next_s)) :=
  spec_exec (X := made_Dice_Next_X) (Λ := pick1 []) (rs := [.tmp 4]) (c := bodyOf Try.f20) mixed tab_ok hΓ Try.func20 (by kernel_rfl) (by kernel_rfl) (by kernel_rfl) (by kernel_rfl) CutsOk_nil (fun x k r h => Eq.trans (b := (made_Dice_Next_S (made_Dice_Next_s)).run x k) (by kernel_rfl) h)
end
theorem made_Dice_Next_Γ : ΓOk Try.prog (pick1 []) := ΓOk_nil
def made_Dice_Next : T_made_Dice_Next := made_Dice_Next_s
theorem made_Dice_Next_ok : SpecOk Try.prog 20 (made_Dice_Next_S made_Dice_Next) := made_Dice_Next_ok' made_Dice_Next_Γ

/-- pagewatch/clock.Meet -/
abbrev T_clock_Meet := {β : Type} → (Int × Int) → (Int × Int) → ((Int × Int) → Option β) → Option β
def clock_Meet_S (c : T_clock_Meet) : Spec :=
  ⟨[(true, [.data (.prod (.int .i64) (.int .i64))]), (true, [.data (.prod (.int .i64) (.int .i64))])], [], [(true, [.data (.prod (.int .i64) (.int .i64))])], [], fun x k => c x.1.1.1 x.1.2.1.1 (fun r0 => k (((r0, ()), ()), ()))⟩
section
@[reducible] def clock_Meet_X : Ctx := ⟨look tab, pick1 [], false⟩
def clock_Meet_s {β : Type} (a : (Int × Int)) (b : (Int × Int)) (k : ((Int × Int) → Option β)) : Option β :=
  k ((if b.1 > a.1 then b.1 else a.1), (if b.2 < a.2 then b.2 else a.2))
theorem clock_Meet_ok' (hΓ : ΓOk Try.prog clock_Meet_X.Γ) : SpecOk Try.prog 34 (clock_Meet_S (clock_Meet_s)) :=
  spec_exec (X := clock_Meet_X) (Λ := pick1 []) (rs := [.cell 4 45]) (c := bodyOf Try.f34) mixed tab_ok hΓ Try.func34 (by kernel_rfl) (by kernel_rfl) (by kernel_rfl) (by kernel_rfl) CutsOk_nil (fun x k r h => Eq.trans (b := (clock_Meet_S (clock_Meet_s)).run x k) (by kernel_rfl) h)
end
theorem clock_Meet_Γ : ΓOk Try.prog (pick1 []) := ΓOk_nil
def clock_Meet : T_clock_Meet := clock_Meet_s
theorem clock_Meet_ok : SpecOk Try.prog 34 (clock_Meet_S clock_Meet) := clock_Meet_ok' clock_Meet_Γ

/-- pagewatch/pagewatchref38.Meet -/
abbrev T_ref38_Meet := {β : Type} → (Int × Int) → (Int × Int) → ((Int × Int) → Option β) → Option β
def ref38_Meet_S (c : T_ref38_Meet) : Spec :=
  ⟨[(true, [.data (.prod (.int .i64) (.int .i64))]), (true, [.data (.prod (.int .i64) (.int .i64))])], [], [(true, [.data (.prod (.int .i64) (.int .i64))])], [], fun x k => c x.1.1.1 x.1.2.1.1 (fun r0 => k (((r0, ()), ()), ()))⟩
section
@[reducible] def ref38_Meet_X : Ctx := ⟨look tab, pick1 [], false⟩
def ref38_Meet_s {β : Type} (a : (Int × Int)) (b : (Int × Int)) (k : ((Int × Int) → Option β)) : Option β :=
  k ((if b.1 > a.1 then b.1 else a.1), (if b.2 < a.2 then b.2 else a.2))
theorem ref38_Meet_ok' (hΓ : ΓOk Try.prog ref38_Meet_X.Γ) : SpecOk Try.prog 35 (ref38_Meet_S (ref38_Meet_s)) :=
  spec_exec (X := ref38_Meet_X) (Λ := pick1 []) (rs := [.cell 4 45]) (c := bodyOf Try.f35) mixed tab_ok hΓ Try.func35 (by kernel_rfl) (by kernel_rfl) (by kernel_rfl) (by kernel_rfl) CutsOk_nil (fun x k r h => Eq.trans (b := (ref38_Meet_S (ref38_Meet_s)).run x k) (by kernel_rfl) h)
end
theorem ref38_Meet_Γ : ΓOk Try.prog (pick1 []) := ΓOk_nil
def ref38_Meet : T_ref38_Meet := ref38_Meet_s
theorem ref38_Meet_ok : SpecOk Try.prog 35 (ref38_Meet_S ref38_Meet) := ref38_Meet_ok' ref38_Meet_Γ

/-- pagewatch/clock.Empty -/
abbrev T_clock_Empty := {β : Type} → (Int × Int) → (Bool → Option β) → Option β
def clock_Empty_S (c : T_clock_Empty) : Spec :=
  ⟨[(true, [.data (.prod (.int .i64) (.int .i64))])], [], [(false, [.data .bool])], [], fun x k => c x.1.1.1 (fun r0 => k (((r0, ()), ()), ()))⟩
section
@[reducible] def clock_Empty_X : Ctx := ⟨look tab, pick1 [], false⟩
def clock_Empty_s {β : Type} (a : (Int × Int)) (k : (Bool → Option β)) : Option β :=
  k (decide (a.2 < a.1))
theorem clock_Empty_ok' (hΓ : ΓOk Try.prog clock_Empty_X.Γ) : SpecOk Try.prog 36 (clock_Empty_S (clock_Empty_s)) :=
  spec_exec (X := clock_Empty_X) (Λ := pick1 []) (rs := [.tmp 2]) (c := bodyOf Try.f36) mixed tab_ok hΓ Try.func36 (by kernel_rfl) (by kernel_rfl) (by kernel_rfl) (by kernel_rfl) CutsOk_nil (fun x k r h => Eq.trans (b := (clock_Empty_S (clock_Empty_s)).run x k) (by kernel_rfl) h)
end
theorem clock_Empty_Γ : ΓOk Try.prog (pick1 []) := ΓOk_nil
def clock_Empty : T_clock_Empty := clock_Empty_s
theorem clock_Empty_ok : SpecOk Try.prog 36 (clock_Empty_S clock_Empty) := clock_Empty_ok' clock_Empty_Γ

/-- pagewatch/pagewatchref38.Empty -/
abbrev T_ref38_Empty := {β : Type} → (Int × Int) → (Bool → Option β) → Option β
def ref38_Empty_S (c : T_ref38_Empty) : Spec :=
  ⟨[(true, [.data (.prod (.int .i64) (.int .i64))])], [], [(false, [.data .bool])], [], fun x k => c x.1.1.1 (fun r0 => k (((r0, ()), ()), ()))⟩
section
@[reducible] def ref38_Empty_X : Ctx := ⟨look tab, pick1 [], false⟩
def ref38_Empty_s {β : Type} (a : (Int × Int)) (k : (Bool → Option β)) : Option β :=
  k (decide (a.2 < a.1))
theorem ref38_Empty_ok' (hΓ : ΓOk Try.prog ref38_Empty_X.Γ) : SpecOk Try.prog 37 (ref38_Empty_S (ref38_Empty_s)) :=
  spec_exec (X := ref38_Empty_X) (Λ := pick1 []) (rs := [.tmp 2]) (c := bodyOf Try.f37) mixed tab_ok hΓ Try.func37 (by kernel_rfl) (by kernel_rfl) (by kernel_rfl) (by kernel_rfl) CutsOk_nil (fun x k r h => Eq.trans (b := (ref38_Empty_S (ref38_Empty_s)).run x k) (by kernel_rfl) h)
end
theorem ref38_Empty_Γ : ΓOk Try.prog (pick1 []) := ΓOk_nil
def ref38_Empty : T_ref38_Empty := ref38_Empty_s
theorem ref38_Empty_ok : SpecOk Try.prog 37 (ref38_Empty_S ref38_Empty) := ref38_Empty_ok' ref38_Empty_Γ

/-- pagewatch/clock.in -/
abbrev T_clock_in := {β : Type} → Int → Int → Int → (Bool → Option β) → Option β
def clock_in_S (c : T_clock_in) : Spec :=
  ⟨[(false, [.data (.int .i64)]), (false, [.data (.int .i64)]), (false, [.data (.int .i64)])], [], [(false, [.data .bool])], [], fun x k => c x.1.1.1 x.1.2.1.1 x.1.2.2.1.1 (fun r0 => k (((r0, ()), ()), ()))⟩
section
@[reducible] def clock_in_X : Ctx := ⟨look tab, pick1 [], false⟩
def clock_in_s {β : Type} (n : Int) (low : Int) (high : Int) (k : (Bool → Option β)) : Option β :=
  cond (decide (low ≤ n))
  (k (decide (n ≤ high)))
  (k false)
theorem clock_in_ok' (hΓ : ΓOk Try.prog clock_in_X.Γ) : SpecOk Try.prog 50 (clock_in_S (clock_in_s)) :=
  spec_exec (X := clock_in_X) (Λ := pick1 []) (rs := [.tmp 6]) (c := bodyOf Try.f50) mixed tab_ok hΓ Try.func50 (by kernel_rfl) (by kernel_rfl) (by kernel_rfl) (by kernel_rfl) CutsOk_nil (fun x k r h => Eq.trans (b := (clock_in_S (clock_in_s)).run x k) (by kernel_rfl) h)
end
theorem clock_in_Γ : ΓOk Try.prog (pick1 []) := ΓOk_nil
def clock_in : T_clock_in := clock_in_s
theorem clock_in_ok : SpecOk Try.prog 50 (clock_in_S clock_in) := clock_in_ok' clock_in_Γ

/-- pagewatch/clock.instant -/
abbrev T_clock_instant := {β : Type} → Int → (Bool → Option β) → Option β
def clock_instant_S (c : T_clock_instant) : Spec :=
  ⟨[(false, [.data (.int .i64)])], [], [(false, [.data .bool])], [], fun x k => c x.1.1.1 (fun r0 => k (((r0, ()), ()), ()))⟩
section
variable (c_clock_in : T_clock_in)
@[reducible] def clock_instant_X : Ctx := ⟨look tab, pick1 [(50, .spec (clock_in_S c_clock_in))], false⟩
def clock_instant_s {β : Type} (n : Int) (k : (Bool → Option β)) : Option β :=
  c_clock_in n (0 : Int) (8589934592 : Int) (fun (rin : Bool) =>
  k rin)
theorem clock_instant_ok' (hΓ : ΓOk Try.prog (clock_instant_X c_clock_in).Γ) : SpecOk Try.prog 51 (clock_instant_S (clock_instant_s c_clock_in)) :=
  spec_exec (X := (clock_instant_X c_clock_in)) (Λ := pick1 []) (rs := [.tmp 2]) (c := bodyOf Try.f51) mixed tab_ok hΓ Try.func51 (by kernel_rfl) (by kernel_rfl) (by kernel_rfl) (by kernel_rfl) CutsOk_nil (fun x k r h => Eq.trans (b := (clock_instant_S (clock_instant_s c_clock_in)).run x k) (by kernel_rfl) h)
end
theorem clock_instant_Γ : ΓOk Try.prog (pick1 [(50, .spec (clock_in_S clock_in))]) := (ΓOk_cons clock_in_ok ΓOk_nil)
def clock_instant : T_clock_instant := clock_instant_s clock_in
theorem clock_instant_ok : SpecOk Try.prog 51 (clock_instant_S clock_instant) := clock_instant_ok' clock_in clock_instant_Γ

/-- pagewatch/clock.Elapsed$1 -/
abbrev T_clock_Elapsed_f1 := {β : Type} → Int → Int → (Int → Option β) → Option β
def clock_Elapsed_f1_S (c : T_clock_Elapsed_f1) : Spec :=
  ⟨[(false, [.data (.int .i64)]), (false, [.data (.int .i64)])], [], [(false, [.data (.int .i64)])], [], fun x k => c x.1.1.1 x.1.2.1.1 (fun r0 => k (((r0, ()), ()), ()))⟩
section
@[reducible] def clock_Elapsed_f1_X : Ctx := ⟨look tab, pick1 [], false⟩
def clock_Elapsed_f1_s {β : Type} (a : Int) (b : Int) (k : (Int → Option β)) : Option β :=
  cond (!decide (b = 0))
  (let t : Int := (IntKind.i64.wrap (Int.tdiv (IntKind.i64.wrap ((IntKind.i64.wrap (a + b)) - (1 : Int))) b));
  k t)
  none
theorem clock_Elapsed_f1_ok' (hΓ : ΓOk Try.prog clock_Elapsed_f1_X.Γ) : SpecOk Try.prog 52 (clock_Elapsed_f1_S (clock_Elapsed_f1_s)) :=
  spec_exec (X := clock_Elapsed_f1_X) (Λ := pick1 []) (rs := [.tmp 4]) (c := bodyOf Try.f52) mixed tab_ok hΓ Try.func52 (by kernel_rfl) (by kernel_rfl) (by kernel_rfl) (by kernel_rfl) CutsOk_nil (fun x k r h => Eq.trans (b := (clock_Elapsed_f1_S (clock_Elapsed_f1_s)).run x k) (by kernel_rfl) h)
end
theorem clock_Elapsed_f1_Γ : ΓOk Try.prog (pick1 []) := ΓOk_nil
def clock_Elapsed_f1 : T_clock_Elapsed_f1 := clock_Elapsed_f1_s
theorem clock_Elapsed_f1_ok : SpecOk Try.prog 52 (clock_Elapsed_f1_S clock_Elapsed_f1) := clock_Elapsed_f1_ok' clock_Elapsed_f1_Γ

/-- pagewatch/clock.compared -/
abbrev T_clock_compared := {β : Type} → (Int × (Int × (Int × Int))) → (Bool → Option β) → Option β
def clock_compared_S (c : T_clock_compared) : Spec :=
  ⟨[(true, [.data (.prod (.int .i64) (.prod (.int .i64) (.prod (.int .i64) (.int .i64))))])], [], [(false, [.data .bool])], [], fun x k => c x.1.1.1 (fun r0 => k (((r0, ()), ()), ()))⟩
section
variable (c_clock_instant : T_clock_instant)
@[reducible] def clock_compared_X : Ctx := ⟨look tab, pick1 [(51, .spec (clock_instant_S c_clock_instant))], false⟩
def clock_compared_s {β : Type} (s : (Int × (Int × (Int × Int)))) (k : (Bool → Option β)) : Option β :=
  c_clock_instant s.2.1 (fun (rinstant : Bool) =>
  cond rinstant
  (c_clock_instant s.2.2.1 (fun (rinstant2 : Bool) =>
  cond rinstant2
  (c_clock_instant s.2.2.2 (fun (rinstant3 : Bool) =>
  cond rinstant3
  (let t : Bool := (decide (s.2.2.1 ≤ s.2.2.2));
  k t)
  (k false)))
  (k false)))
  (k false))
theorem clock_compared_ok' (hΓ : ΓOk Try.prog (clock_compared_X c_clock_instant).Γ) : SpecOk Try.prog 53 (clock_compared_S (clock_compared_s c_clock_instant)) :=
  spec_exec (X := (clock_compared_X c_clock_instant)) (Λ := pick1 []) (rs := [.tmp 2]) (c := bodyOf Try.f53) mixed tab_ok hΓ Try.func53 (by kernel_rfl) (by kernel_rfl) (by kernel_rfl) (by kernel_rfl) CutsOk_nil (fun x k r h => Eq.trans (b := (clock_compared_S (clock_compared_s c_clock_instant)).run x k) (by kernel_rfl) h)
end
theorem clock_compared_Γ : ΓOk Try.prog (pick1 [(51, .spec (clock_instant_S clock_instant))]) := (ΓOk_cons clock_instant_ok ΓOk_nil)
def clock_compared : T_clock_compared := clock_compared_s clock_instant
theorem clock_compared_ok : SpecOk Try.prog 53 (clock_compared_S clock_compared) := clock_compared_ok' clock_instant clock_compared_Γ

/-- pagewatch/clock.bound -/
abbrev T_clock_bound := {β : Type} → Int → (Bool → Option β) → Option β
def clock_bound_S (c : T_clock_bound) : Spec :=
  ⟨[(false, [.data (.int .i64)])], [], [(false, [.data .bool])], [], fun x k => c x.1.1.1 (fun r0 => k (((r0, ()), ()), ()))⟩
section
variable (c_clock_in : T_clock_in)
@[reducible] def clock_bound_X : Ctx := ⟨look tab, pick1 [(50, .spec (clock_in_S c_clock_in))], false⟩
def clock_bound_s {β : Type} (n : Int) (k : (Bool → Option β)) : Option β :=
  c_clock_in n (-1099511627776 : Int) (1099511627776 : Int) (fun (rin : Bool) =>
  k rin)
theorem clock_bound_ok' (hΓ : ΓOk Try.prog (clock_bound_X c_clock_in).Γ) : SpecOk Try.prog 54 (clock_bound_S (clock_bound_s c_clock_in)) :=
  spec_exec (X := (clock_bound_X c_clock_in)) (Λ := pick1 []) (rs := [.tmp 2]) (c := bodyOf Try.f54) mixed tab_ok hΓ Try.func54 (by kernel_rfl) (by kernel_rfl) (by kernel_rfl) (by kernel_rfl) CutsOk_nil (fun x k r h => Eq.trans (b := (clock_bound_S (clock_bound_s c_clock_in)).run x k) (by kernel_rfl) h)
end
theorem clock_bound_Γ : ΓOk Try.prog (pick1 [(50, .spec (clock_in_S clock_in))]) := (ΓOk_cons clock_in_ok ΓOk_nil)
def clock_bound : T_clock_bound := clock_bound_s clock_in
theorem clock_bound_ok : SpecOk Try.prog 54 (clock_bound_S clock_bound) := clock_bound_ok' clock_in clock_bound_Γ

/-- pagewatch/clock.moved -/
abbrev T_clock_moved := {β : Type} → Int → Int → (Int → Option β) → Option β
def clock_moved_S (c : T_clock_moved) : Spec :=
  ⟨[(false, [.data (.int .i64)]), (false, [.data (.int .i64)])], [], [(false, [.data (.int .i64)])], [], fun x k => c x.1.1.1 x.1.2.1.1 (fun r0 => k (((r0, ()), ()), ()))⟩
section
@[reducible] def clock_moved_X : Ctx := ⟨look tab, pick1 [], false⟩
def clock_moved_s {β : Type} (x : Int) (d : Int) (k : (Int → Option β)) : Option β :=
  cond (decide (x = (-1099511627776 : Int)))
  (k x)
  (cond (decide (x = (1099511627776 : Int)))
  (k x)
  (let t : Int := (if (1099511627776 : Int) < (if (-1099511627776 : Int) > (IntKind.i64.wrap (x + d)) then (-1099511627776 : Int) else (IntKind.i64.wrap (x + d))) then (1099511627776 : Int) else (if (-1099511627776 : Int) > (IntKind.i64.wrap (x + d)) then (-1099511627776 : Int) else (IntKind.i64.wrap (x + d))));
  k t))
theorem clock_moved_ok' (hΓ : ΓOk Try.prog clock_moved_X.Γ) : SpecOk Try.prog 55 (clock_moved_S (clock_moved_s)) :=
  spec_exec (X := clock_moved_X) (Λ := pick1 []) (rs := [.tmp 4]) (c := bodyOf Try.f55) mixed tab_ok hΓ Try.func55 (by kernel_rfl) (by kernel_rfl) (by kernel_rfl) (by kernel_rfl) CutsOk_nil (fun x k r h => Eq.trans (b := (clock_moved_S (clock_moved_s)).run x k) (by kernel_rfl) h)
end
theorem clock_moved_Γ : ΓOk Try.prog (pick1 []) := ΓOk_nil
def clock_moved : T_clock_moved := clock_moved_s
theorem clock_moved_ok : SpecOk Try.prog 55 (clock_moved_S clock_moved) := clock_moved_ok' clock_moved_Γ

/-- pagewatch/pagewatchref25.In -/
abbrev T_ref25_In := {β : Type} → Int → Int → Int → (Bool → Option β) → Option β
def ref25_In_S (c : T_ref25_In) : Spec :=
  ⟨[(false, [.data (.int .i64)]), (false, [.data (.int .i64)]), (false, [.data (.int .i64)])], [], [(false, [.data .bool])], [], fun x k => c x.1.1.1 x.1.2.1.1 x.1.2.2.1.1 (fun r0 => k (((r0, ()), ()), ()))⟩
section
@[reducible] def ref25_In_X : Ctx := ⟨look tab, pick1 [], false⟩
def ref25_In_s {β : Type} (n : Int) (lo : Int) (hi : Int) (k : (Bool → Option β)) : Option β :=
  cond (decide (lo ≤ n))
  (k (decide (n ≤ hi)))
  (k false)
theorem ref25_In_ok' (hΓ : ΓOk Try.prog ref25_In_X.Γ) : SpecOk Try.prog 56 (ref25_In_S (ref25_In_s)) :=
  spec_exec (X := ref25_In_X) (Λ := pick1 []) (rs := [.tmp 6]) (c := bodyOf Try.f56) mixed tab_ok hΓ Try.func56 (by kernel_rfl) (by kernel_rfl) (by kernel_rfl) (by kernel_rfl) CutsOk_nil (fun x k r h => Eq.trans (b := (ref25_In_S (ref25_In_s)).run x k) (by kernel_rfl) h)
end
theorem ref25_In_Γ : ΓOk Try.prog (pick1 []) := ΓOk_nil
def ref25_In : T_ref25_In := ref25_In_s
theorem ref25_In_ok : SpecOk Try.prog 56 (ref25_In_S ref25_In) := ref25_In_ok' ref25_In_Γ

/-- pagewatch/pagewatchref38.end -/
abbrev T_ref38_end := {β : Type} → Int → Int → (Int → Option β) → Option β
def ref38_end_S (c : T_ref38_end) : Spec :=
  ⟨[(false, [.data (.int .i64)]), (false, [.data (.int .i64)])], [], [(false, [.data (.int .i64)])], [], fun x k => c x.1.1.1 x.1.2.1.1 (fun r0 => k (((r0, ()), ()), ()))⟩
section
@[reducible] def ref38_end_X : Ctx := ⟨look tab, pick1 [], false⟩
def ref38_end_s {β : Type} (x : Int) (d : Int) (k : (Int → Option β)) : Option β :=
  cond (decide (x = (-1099511627776 : Int)))
  (k x)
  (cond (decide (x = (1099511627776 : Int)))
  (k x)
  (let t : Int := (if (1099511627776 : Int) < (if (-1099511627776 : Int) > (IntKind.i64.wrap (x + d)) then (-1099511627776 : Int) else (IntKind.i64.wrap (x + d))) then (1099511627776 : Int) else (if (-1099511627776 : Int) > (IntKind.i64.wrap (x + d)) then (-1099511627776 : Int) else (IntKind.i64.wrap (x + d))));
  k t))
theorem ref38_end_ok' (hΓ : ΓOk Try.prog ref38_end_X.Γ) : SpecOk Try.prog 57 (ref38_end_S (ref38_end_s)) :=
  spec_exec (X := ref38_end_X) (Λ := pick1 []) (rs := [.tmp 4]) (c := bodyOf Try.f57) mixed tab_ok hΓ Try.func57 (by kernel_rfl) (by kernel_rfl) (by kernel_rfl) (by kernel_rfl) CutsOk_nil (fun x k r h => Eq.trans (b := (ref38_end_S (ref38_end_s)).run x k) (by kernel_rfl) h)
end
theorem ref38_end_Γ : ΓOk Try.prog (pick1 []) := ΓOk_nil
def ref38_end : T_ref38_end := ref38_end_s
theorem ref38_end_ok : SpecOk Try.prog 57 (ref38_end_S ref38_end) := ref38_end_ok' ref38_end_Γ

/-- pagewatch/pagewatchlaw40.two -/
abbrev T_law40_two := {β : Type} → (api_Record → Option β) → Option β
def law40_two_S (c : T_law40_two) : Spec :=
  ⟨[], [], [(true, [.data y_api_Record])], [], fun x k => c  (fun r0 => k (((r0, ()), ()), ()))⟩
section
@[reducible] def law40_two_X : Ctx := ⟨look tab, pick1 [], false⟩
def law40_two_s {β : Type} (k : (api_Record → Option β)) : Option β :=
  let l : List (List UInt8 × Int) := ([(([97] : List UInt8), (0 : Int)), (([98] : List UInt8), (0 : Int))] : List (List UInt8 × Int));
  let l2 : List (Int × (Int × (Int × Int))) := ([((0 : Int), ((100 : Int), ((1000 : Int), (1010 : Int)))), ((1 : Int), ((100 : Int), ((1000 : Int), (1010 : Int))))] : List (Int × (Int × (Int × Int))));
  let l3 : List api_Event := ([((0 : Int), ((100 : Int), ([120] : List UInt8))), ((1 : Int), ((105 : Int), ([121] : List UInt8)))] : List api_Event);
  k (l, (l2, (l3, ([] : List (Int × (Int × Int))))))
theorem law40_two_ok' (hΓ : ΓOk Try.prog law40_two_X.Γ) : SpecOk Try.prog 58 (law40_two_S (law40_two_s)) :=
  spec_exec (X := law40_two_X) (Λ := pick1 []) (rs := [.cell 0 41]) (c := bodyOf Try.f58) mixed tab_ok hΓ Try.func58 (by kernel_rfl) (by kernel_rfl) (by kernel_rfl) (by kernel_rfl) CutsOk_nil (fun x k r h => Eq.trans (b := (law40_two_S (law40_two_s)).run x k) (by kernel_rfl) h)
end
theorem law40_two_Γ : ΓOk Try.prog (pick1 []) := ΓOk_nil
def law40_two : T_law40_two := law40_two_s
theorem law40_two_ok : SpecOk Try.prog 58 (law40_two_S law40_two) := law40_two_ok' law40_two_Γ

/-- (pagewatch/order.matrix).before -/
abbrev T_order_matrix_before := {β : Type} → (List (List Int)) → Int → Int → (Bool → Option β) → Option β
def order_matrix_before_S (c : T_order_matrix_before) : Spec :=
  ⟨[(false, [.data (.slice (.slice (.int .i64)))]), (false, [.data (.int .i64)]), (false, [.data (.int .i64)])], [], [(false, [.data .bool])], [], fun x k => c x.1.1.1 x.1.2.1.1 x.1.2.2.1.1 (fun r0 => k (((r0, ()), ()), ()))⟩
section
@[reducible] def order_matrix_before_X : Ctx := ⟨look tab, pick1 [], false⟩
def order_matrix_before_s {β : Type} (m : List (List Int)) (a : Int) (b : Int) (k : (Bool → Option β)) : Option β :=
  cond (decide (0 ≤ (IntKind.i64.wrap (b + (1 : Int)))) && decide ((IntKind.i64.wrap (b + (1 : Int))) < (List.length m : Int)))
  (let e : List Int := List.getD m (Int.toNat (IntKind.i64.wrap (b + (1 : Int)))) ([] : List Int);
  cond (decide (0 ≤ (IntKind.i64.wrap (a + (1 : Int)))) && decide ((IntKind.i64.wrap (a + (1 : Int))) < (List.length e : Int)))
  (let e2 : Int := List.getD e (Int.toNat (IntKind.i64.wrap (a + (1 : Int)))) (0 : Int);
  let t : Bool := (decide (e2 ≤ (-1 : Int)));
  k t)
  none)
  none
theorem order_matrix_before_ok' (hΓ : ΓOk Try.prog order_matrix_before_X.Γ) : SpecOk Try.prog 60 (order_matrix_before_S (order_matrix_before_s)) :=
  spec_exec (X := order_matrix_before_X) (Λ := pick1 []) (rs := [.tmp 6]) (c := bodyOf Try.f60) mixed tab_ok hΓ Try.func60 (by kernel_rfl) (by kernel_rfl) (by kernel_rfl) (by kernel_rfl) CutsOk_nil (fun x k r h => Eq.trans (b := (order_matrix_before_S (order_matrix_before_s)).run x k) (by kernel_rfl) h)
end
theorem order_matrix_before_Γ : ΓOk Try.prog (pick1 []) := ΓOk_nil
def order_matrix_before : T_order_matrix_before := order_matrix_before_s
theorem order_matrix_before_ok : SpecOk Try.prog 60 (order_matrix_before_S order_matrix_before) := order_matrix_before_ok' order_matrix_before_Γ

/-- (pagewatch/order.matrix).open -/
abbrev T_order_matrix_open := {β : Type} → (List (List Int)) → Int → Int → (Bool → Option β) → Option β
def order_matrix_open_S (c : T_order_matrix_open) : Spec :=
  ⟨[(false, [.data (.slice (.slice (.int .i64)))]), (false, [.data (.int .i64)]), (false, [.data (.int .i64)])], [], [(false, [.data .bool])], [], fun x k => c x.1.1.1 x.1.2.1.1 x.1.2.2.1.1 (fun r0 => k (((r0, ()), ()), ()))⟩
section
variable (c_order_matrix_before : T_order_matrix_before)
@[reducible] def order_matrix_open_X : Ctx := ⟨look tab, pick1 [(60, .spec (order_matrix_before_S c_order_matrix_before))], false⟩
def order_matrix_open_s {β : Type} (m : List (List Int)) (a : Int) (b : Int) (k : (Bool → Option β)) : Option β :=
  c_order_matrix_before m a b (fun (rbefore : Bool) =>
  cond (!rbefore)
  (c_order_matrix_before m b a (fun (rbefore2 : Bool) =>
  k (!rbefore2)))
  (k false))
theorem order_matrix_open_ok' (hΓ : ΓOk Try.prog (order_matrix_open_X c_order_matrix_before).Γ) : SpecOk Try.prog 62 (order_matrix_open_S (order_matrix_open_s c_order_matrix_before)) :=
  spec_exec (X := (order_matrix_open_X c_order_matrix_before)) (Λ := pick1 []) (rs := [.tmp 6]) (c := bodyOf Try.f62) mixed tab_ok hΓ Try.func62 (by kernel_rfl) (by kernel_rfl) (by kernel_rfl) (by kernel_rfl) CutsOk_nil (fun x k r h => Eq.trans (b := (order_matrix_open_S (order_matrix_open_s c_order_matrix_before)).run x k) (by kernel_rfl) h)
end
theorem order_matrix_open_Γ : ΓOk Try.prog (pick1 [(60, .spec (order_matrix_before_S order_matrix_before))]) := (ΓOk_cons order_matrix_before_ok ΓOk_nil)
def order_matrix_open : T_order_matrix_open := order_matrix_open_s order_matrix_before
theorem order_matrix_open_ok : SpecOk Try.prog 62 (order_matrix_open_S order_matrix_open) := order_matrix_open_ok' order_matrix_before order_matrix_open_Γ

/-- (pagewatch/order.matrix).when -/
abbrev T_order_matrix_when := {β : Type} → (List (List Int)) → Int → ((Int × Int) → Option β) → Option β
def order_matrix_when_S (c : T_order_matrix_when) : Spec :=
  ⟨[(false, [.data (.slice (.slice (.int .i64)))]), (false, [.data (.int .i64)])], [], [(true, [.data (.prod (.int .i64) (.int .i64))])], [], fun x k => c x.1.1.1 x.1.2.1.1 (fun r0 => k (((r0, ()), ()), ()))⟩
section
@[reducible] def order_matrix_when_X : Ctx := ⟨look tab, pick1 [], false⟩
def order_matrix_when_s {β : Type} (m : List (List Int)) (i_ : Int) (k : ((Int × Int) → Option β)) : Option β :=
  cond (decide (0 ≤ (IntKind.i64.wrap (i_ + (1 : Int)))) && decide ((IntKind.i64.wrap (i_ + (1 : Int))) < (List.length m : Int)))
  (let e : List Int := List.getD m (Int.toNat (IntKind.i64.wrap (i_ + (1 : Int)))) ([] : List Int);
  cond (decide (0 ≤ (0 : Int)) && decide ((0 : Int) < (List.length e : Int)))
  (let e2 : Int := List.getD e (Int.toNat (0 : Int)) (0 : Int);
  cond (decide (0 ≤ (0 : Int)) && decide ((0 : Int) < (List.length m : Int)))
  (let e3 : List Int := List.getD m (Int.toNat (0 : Int)) ([] : List Int);
  cond (decide (0 ≤ (IntKind.i64.wrap (i_ + (1 : Int)))) && decide ((IntKind.i64.wrap (i_ + (1 : Int))) < (List.length e3 : Int)))
  (let e4 : Int := List.getD e3 (Int.toNat (IntKind.i64.wrap (i_ + (1 : Int)))) (0 : Int);
  k ((IntKind.i64.wrap (0 - e2)), e4))
  none)
  none)
  none)
  none
theorem order_matrix_when_ok' (hΓ : ΓOk Try.prog order_matrix_when_X.Γ) : SpecOk Try.prog 63 (order_matrix_when_S (order_matrix_when_s)) :=
  spec_exec (X := order_matrix_when_X) (Λ := pick1 []) (rs := [.cell 4 45]) (c := bodyOf Try.f63) mixed tab_ok hΓ Try.func63 (by kernel_rfl) (by kernel_rfl) (by kernel_rfl) (by kernel_rfl) CutsOk_nil (fun x k r h => Eq.trans (b := (order_matrix_when_S (order_matrix_when_s)).run x k) (by kernel_rfl) h)
end
theorem order_matrix_when_Γ : ΓOk Try.prog (pick1 []) := ΓOk_nil
def order_matrix_when : T_order_matrix_when := order_matrix_when_s
theorem order_matrix_when_ok : SpecOk Try.prog 63 (order_matrix_when_S order_matrix_when) := order_matrix_when_ok' order_matrix_when_Γ

/-- pagewatch/order.in -/
abbrev T_order_in := {β : Type} → Int → Int → Int → (Bool → Option β) → Option β
def order_in_S (c : T_order_in) : Spec :=
  ⟨[(false, [.data (.int .i64)]), (false, [.data (.int .i64)]), (false, [.data (.int .i64)])], [], [(false, [.data .bool])], [], fun x k => c x.1.1.1 x.1.2.1.1 x.1.2.2.1.1 (fun r0 => k (((r0, ()), ()), ()))⟩
section
@[reducible] def order_in_X : Ctx := ⟨look tab, pick1 [], false⟩
def order_in_s {β : Type} (n : Int) (low : Int) (high : Int) (k : (Bool → Option β)) : Option β :=
  cond (decide (low ≤ n))
  (k (decide (n ≤ high)))
  (k false)
theorem order_in_ok' (hΓ : ΓOk Try.prog order_in_X.Γ) : SpecOk Try.prog 67 (order_in_S (order_in_s)) :=
  spec_exec (X := order_in_X) (Λ := pick1 []) (rs := [.tmp 6]) (c := bodyOf Try.f67) mixed tab_ok hΓ Try.func67 (by kernel_rfl) (by kernel_rfl) (by kernel_rfl) (by kernel_rfl) CutsOk_nil (fun x k r h => Eq.trans (b := (order_in_S (order_in_s)).run x k) (by kernel_rfl) h)
end
theorem order_in_Γ : ΓOk Try.prog (pick1 []) := ΓOk_nil
def order_in : T_order_in := order_in_s
theorem order_in_ok : SpecOk Try.prog 67 (order_in_S order_in) := order_in_ok' order_in_Γ

/-- pagewatch/order.Allows$1 -/
abbrev T_order_Allows_f1 := {β : Type} → Int → (List (List Int)) → Int → (Bool → (List (List Int)) → Int → Option β) → Option β
def order_Allows_f1_S (c : T_order_Allows_f1) : Spec :=
  ⟨[(false, [.data (.int .i64)]), (false, [.ptr 0 0]), (false, [.ptr 1 0])], [.cells 86 [.data (.slice (.slice (.int .i64)))], .cells 3 [.data (.int .i64)]], [(false, [.data .bool])], [.cells 86 [.data (.slice (.slice (.int .i64)))], .cells 3 [.data (.int .i64)]], fun x k => c x.1.1.1 x.2.1.1 x.2.2.1.1 (fun r0 r1 r2 => k (((r0, ()), ()), ((r1, ()), (r2, ()), ())))⟩
section
variable (c_order_matrix_before : T_order_matrix_before)
@[reducible] def order_Allows_f1_X : Ctx := ⟨look tab, pick1 [(60, .spec (order_matrix_before_S c_order_matrix_before))], false⟩
def order_Allows_f1_s {β : Type} (y : Int) (t1 : List (List Int)) (t2 : Int) (k : (Bool → (List (List Int)) → Int → Option β)) : Option β :=
  c_order_matrix_before t1 t2 y (fun (rbefore : Bool) =>
  k rbefore t1 t2)
theorem order_Allows_f1_ok' (hΓ : ΓOk Try.prog (order_Allows_f1_X c_order_matrix_before).Γ) : SpecOk Try.prog 71 (order_Allows_f1_S (order_Allows_f1_s c_order_matrix_before)) :=
  spec_exec (X := (order_Allows_f1_X c_order_matrix_before)) (Λ := pick1 []) (rs := [.tmp 4]) (c := bodyOf Try.f71) mixed tab_ok hΓ Try.func71 (by kernel_rfl) (by kernel_rfl) (by kernel_rfl) (by kernel_rfl) CutsOk_nil (fun x k r h => Eq.trans (b := (order_Allows_f1_S (order_Allows_f1_s c_order_matrix_before)).run x k) (by kernel_rfl) h)
end
theorem order_Allows_f1_Γ : ΓOk Try.prog (pick1 [(60, .spec (order_matrix_before_S order_matrix_before))]) := (ΓOk_cons order_matrix_before_ok ΓOk_nil)
def order_Allows_f1 : T_order_Allows_f1 := order_Allows_f1_s order_matrix_before
theorem order_Allows_f1_ok : SpecOk Try.prog 71 (order_Allows_f1_S order_Allows_f1) := order_Allows_f1_ok' order_matrix_before order_Allows_f1_Γ

/-- pagewatch/constraint.in -/
abbrev T_constraint_in := {β : Type} → Int → Int → Int → (Bool → Option β) → Option β
def constraint_in_S (c : T_constraint_in) : Spec :=
  ⟨[(false, [.data (.int .i64)]), (false, [.data (.int .i64)]), (false, [.data (.int .i64)])], [], [(false, [.data .bool])], [], fun x k => c x.1.1.1 x.1.2.1.1 x.1.2.2.1.1 (fun r0 => k (((r0, ()), ()), ()))⟩
section
@[reducible] def constraint_in_X : Ctx := ⟨look tab, pick1 [], false⟩
def constraint_in_s {β : Type} (n : Int) (low : Int) (high : Int) (k : (Bool → Option β)) : Option β :=
  cond (decide (low ≤ n))
  (k (decide (n ≤ high)))
  (k false)
theorem constraint_in_ok' (hΓ : ΓOk Try.prog constraint_in_X.Γ) : SpecOk Try.prog 77 (constraint_in_S (constraint_in_s)) :=
  spec_exec (X := constraint_in_X) (Λ := pick1 []) (rs := [.tmp 6]) (c := bodyOf Try.f77) mixed tab_ok hΓ Try.func77 (by kernel_rfl) (by kernel_rfl) (by kernel_rfl) (by kernel_rfl) CutsOk_nil (fun x k r h => Eq.trans (b := (constraint_in_S (constraint_in_s)).run x k) (by kernel_rfl) h)
end
theorem constraint_in_Γ : ΓOk Try.prog (pick1 []) := ΓOk_nil
def constraint_in : T_constraint_in := constraint_in_s
theorem constraint_in_ok : SpecOk Try.prog 77 (constraint_in_S constraint_in) := constraint_in_ok' constraint_in_Γ

/-- pagewatch/constraint.Fits$2 -/
abbrev T_constraint_Fits_f2 := {β : Type} → (Int × (Int × Int)) → (List Int) → (Bool → (List Int) → Option β) → Option β
def constraint_Fits_f2_S (c : T_constraint_Fits_f2) : Spec :=
  ⟨[(true, [.data (.prod (.int .i64) (.prod (.int .i64) (.int .i64)))]), (false, [.ptr 0 0])], [.cells 27 [.data (.slice (.int .i64))]], [(false, [.data .bool])], [.cells 27 [.data (.slice (.int .i64))]], fun x k => c x.1.1.1 x.2.1.1 (fun r0 r1 => k (((r0, ()), ()), ((r1, ()), ())))⟩
section
@[reducible] def constraint_Fits_f2_X : Ctx := ⟨look tab, pick1 [], false⟩
def constraint_Fits_f2_s {β : Type} (d : (Int × (Int × Int))) (t1 : List Int) (k : (Bool → (List Int) → Option β)) : Option β :=
  cond (decide (0 ≤ d.2.1) && decide (d.2.1 < (List.length t1 : Int)))
  (let e : Int := List.getD t1 (Int.toNat d.2.1) (0 : Int);
  cond (decide (0 ≤ d.1) && decide (d.1 < (List.length t1 : Int)))
  (let e2 : Int := List.getD t1 (Int.toNat d.1) (0 : Int);
  let t : Bool := (decide (d.2.2 < (IntKind.i64.wrap (e - e2))));
  k t t1)
  none)
  none
theorem constraint_Fits_f2_ok' (hΓ : ΓOk Try.prog constraint_Fits_f2_X.Γ) : SpecOk Try.prog 79 (constraint_Fits_f2_S (constraint_Fits_f2_s)) :=
  spec_exec (X := constraint_Fits_f2_X) (Λ := pick1 []) (rs := [.tmp 3]) (c := bodyOf Try.f79) mixed tab_ok hΓ Try.func79 (by kernel_rfl) (by kernel_rfl) (by kernel_rfl) (by kernel_rfl) CutsOk_nil (fun x k r h => Eq.trans (b := (constraint_Fits_f2_S (constraint_Fits_f2_s)).run x k) (by kernel_rfl) h)
end
theorem constraint_Fits_f2_Γ : ΓOk Try.prog (pick1 []) := ΓOk_nil
def constraint_Fits_f2 : T_constraint_Fits_f2 := constraint_Fits_f2_s
theorem constraint_Fits_f2_ok : SpecOk Try.prog 79 (constraint_Fits_f2_S constraint_Fits_f2) := constraint_Fits_f2_ok' constraint_Fits_f2_Γ

/-- slices.Index[[]int,int] -/
abbrev T_slices_Index_int_int := {β : Type} → (List Int) → Int → (Int → Option β) → Option β
def slices_Index_int_int_S (c : T_slices_Index_int_int) : Spec :=
  ⟨[(false, [.data (.slice (.int .i64))]), (false, [.data (.int .i64)])], [], [(false, [.data (.int .i64)])], [], fun x k => c x.1.1.1 x.1.2.1.1 (fun r0 => k (((r0, ()), ()), ()))⟩
noncomputable def slices_Index_int_int_p1_code : Code := codeAt 26 (bodyOf Try.f80)
abbrev slices_Index_int_int_p1_K1 (β : Type) := Int → Option β
abbrev slices_Index_int_int_p1_K2 (β : Type) := Unit → Option β
abbrev slices_Index_int_int_p1_T := {β : Type} → slices_Index_int_int_p1_K1 β → slices_Index_int_int_p1_K2 β → (List Int) → Int → Int → Int → Option β
def slices_Index_int_int_p1_v : View := ⟨0, [0, 1, 7, 8], [(false, [.data (.slice (.int .i64))]), (false, [.data (.int .i64)]), (false, [.data (.int .i64)]), (false, [.data (.int .i64)])], []⟩
def slices_Index_int_int_p1_o : List (AExit × View) := [(.ret, ⟨0, [4], [(false, [.data (.int .i64)])], []⟩), (.exit 0, ⟨0, [], [], []⟩)]
@[reducible] def slices_Index_int_int_p1_G (p : slices_Index_int_int_p1_T) {β : Type} (d : slices_Index_int_int_p1_v.den) (ks : Outs.K β slices_Index_int_int_p1_o) : Option β :=
  p (fun a0 => ks.1 (((a0, ()), ()), ())) (fun _ => ks.2.1 ((), ())) d.1.1.1 d.1.2.1.1 d.1.2.2.1.1 d.1.2.2.2.1.1
section
@[reducible] def slices_Index_int_int_X : Ctx := ⟨look tab, pick1 [], false⟩
def slices_Index_int_int_p1_s {β : Type} (rec : (List Int) → Int → Int → Int → Option β) (k1 : slices_Index_int_int_p1_K1 β) (k2 : slices_Index_int_int_p1_K2 β) (s : List Int) (v : Int) (t7 : Int) (t8 : Int) : Option β :=
  cond (decide (t8 < t7))
  (cond (decide (0 ≤ t8) && decide (t8 < (List.length s : Int)))
  (let e : Int := List.getD s (Int.toNat t8) (0 : Int);
  cond (decide (v = e))
  (k1 t8)
  (rec s v t7 (IntKind.i64.wrap (t8 + (1 : Int)))))
  none)
  (k2 ())
def slices_Index_int_int_p1_l {β : Type} : Nat → slices_Index_int_int_p1_K1 β → slices_Index_int_int_p1_K2 β → (List Int) → Int → Int → Int → Option β
  | 0 => fun _ _ _ _ _ _ => none
  | i + 1 => fun k1 k2 s v t7 t8 => slices_Index_int_int_p1_s (slices_Index_int_int_p1_l i k1 k2) k1 k2 s v t7 t8
theorem slices_Index_int_int_p1_ok' (hΓ : ΓOk Try.prog slices_Index_int_int_X.Γ) (i : Nat) : PieceOk Try.prog 19 0 slices_Index_int_int_p1_code slices_Index_int_int_p1_v slices_Index_int_int_p1_o (slices_Index_int_int_p1_G (slices_Index_int_int_p1_l i)) := by
  rw [show slices_Index_int_int_p1_code = .loop (loopBody slices_Index_int_int_p1_code) by kernel_rfl]
  exact piece_loop (X := slices_Index_int_int_X) (p := 1) (Λ := pick1 []) (G := fun i => @fun β d ks => slices_Index_int_int_p1_G (slices_Index_int_int_p1_l i) d ks) mixed tab_ok hΓ rfl (by kernel_rfl) CutsOk_nil (fun _ _ => rfl) (fun i => @fun β d ks r h => Eq.trans (b := slices_Index_int_int_p1_G (slices_Index_int_int_p1_l (i + 1)) d ks) (by kernel_rfl) h) i
def slices_Index_int_int_s (p1 : slices_Index_int_int_p1_T) {β : Type} (s : List Int) (v : Int) (k : (Int → Option β)) : Option β :=
  p1 (fun (t4 : Int) =>
  k t4) (fun (_ : Unit) =>
  k (-1 : Int)) s v (List.length s : Int) (0 : Int)
theorem slices_Index_int_int_ok' (hΓ : ΓOk Try.prog slices_Index_int_int_X.Γ) (p1 : slices_Index_int_int_p1_T) (hp1 : PieceOk Try.prog 19 0 slices_Index_int_int_p1_code slices_Index_int_int_p1_v slices_Index_int_int_p1_o (slices_Index_int_int_p1_G p1)) : SpecOk Try.prog 80 (slices_Index_int_int_S (slices_Index_int_int_s p1)) :=
  spec_exec (X := slices_Index_int_int_X) (Λ := pick1 [(26, pieceCut slices_Index_int_int_p1_v slices_Index_int_int_p1_o (slices_Index_int_int_p1_G p1))]) (rs := [.tmp 4]) (c := bodyOf Try.f80) mixed tab_ok hΓ Try.func80 (by kernel_rfl) (by kernel_rfl) (by kernel_rfl) (by kernel_rfl) (CutsOk_cons (q := 26) (c' := slices_Index_int_int_p1_code) (by kernel_rfl) rfl hp1 CutsOk_nil) (fun x k r h => Eq.trans (b := (slices_Index_int_int_S (slices_Index_int_int_s p1)).run x k) (by kernel_rfl) h)
end
theorem slices_Index_int_int_Γ : ΓOk Try.prog (pick1 []) := ΓOk_nil
def slices_Index_int_int_p1_n (m : Nat) : slices_Index_int_int_p1_T := slices_Index_int_int_p1_l m
theorem slices_Index_int_int_p1_step {β : Type} (i : Nat) (k1 k2 s v t7 t8) : (slices_Index_int_int_p1_n (i + 1) k1 k2 s v t7 t8 : Option β) = slices_Index_int_int_p1_s (slices_Index_int_int_p1_n i k1 k2) k1 k2 s v t7 t8 := rfl
def slices_Index_int_int_p1 : slices_Index_int_int_p1_T := slices_Index_int_int_p1_n fuel
theorem slices_Index_int_int_p1_ok : PieceOk Try.prog 19 0 slices_Index_int_int_p1_code slices_Index_int_int_p1_v slices_Index_int_int_p1_o (slices_Index_int_int_p1_G slices_Index_int_int_p1) := slices_Index_int_int_p1_ok' slices_Index_int_int_Γ fuel
def slices_Index_int_int : T_slices_Index_int_int := slices_Index_int_int_s slices_Index_int_int_p1
theorem slices_Index_int_int_ok : SpecOk Try.prog 80 (slices_Index_int_int_S slices_Index_int_int) := slices_Index_int_int_ok' slices_Index_int_int_Γ slices_Index_int_int_p1 slices_Index_int_int_p1_ok

/-- pagewatch/constraint.direct -/
abbrev T_constraint_direct := {β : Type} → Int → (List (Int × (Int × Int))) → ((List (List Int)) → Option β) → Option β
def constraint_direct_S (c : T_constraint_direct) : Spec :=
  ⟨[(false, [.data (.int .i64)]), (false, [.data (.slice (.prod (.int .i64) (.prod (.int .i64) (.int .i64))))])], [], [(false, [.math 0])], [.mat 27 3 (.int .i64)], fun x k => c x.1.1.1 x.1.2.1.1 (fun r0 => k (((), ()), (r0, ())))⟩
noncomputable def constraint_direct_p2_code : Code := codeAt 58 (bodyOf Try.f81)
noncomputable def constraint_direct_p3_code : Code := codeAt 122 (bodyOf Try.f81)
noncomputable def constraint_direct_p1_code : Code := codeAt 462 (loopBody constraint_direct_p2_code)
abbrev constraint_direct_p1_K1 (β : Type) := Int → (List (Int × (Int × Int))) → Int → Int → (List (List Int)) → Option β
abbrev constraint_direct_p1_T := {β : Type} → constraint_direct_p1_K1 β → Int → (List (Int × (Int × Int))) → Int → Int → Int → Int → Int → (List (List Int)) → Option β
def constraint_direct_p1_v : View := ⟨0, [0, 1, 5, 6, 13, 14, 26, 27], [(false, [.data (.int .i64)]), (false, [.data (.slice (.prod (.int .i64) (.prod (.int .i64) (.int .i64))))]), (false, [.math 0]), (false, [.data (.int .i64)]), (false, [.data (.int .i64)]), (false, [.data (.int .i64)]), (false, [.data (.int .i64)]), (false, [.data (.int .i64)])], [.mat 27 3 (.int .i64)]⟩
def constraint_direct_p1_o : List (AExit × View) := [(.exit 2, ⟨0, [0, 1, 5, 13, 14], [(false, [.data (.int .i64)]), (false, [.data (.slice (.prod (.int .i64) (.prod (.int .i64) (.int .i64))))]), (false, [.math 0]), (false, [.data (.int .i64)]), (false, [.data (.int .i64)])], [.mat 27 3 (.int .i64)]⟩)]
@[reducible] def constraint_direct_p1_G (p : constraint_direct_p1_T) {β : Type} (d : constraint_direct_p1_v.den) (ks : Outs.K β constraint_direct_p1_o) : Option β :=
  p (fun a0 a1 a2 a3 a4 => ks.1 (((a0, ()), (a1, ()), (), (a2, ()), (a3, ()), ()), (a4, ()))) d.1.1.1 d.1.2.1.1 d.1.2.2.2.1.1 d.1.2.2.2.2.1.1 d.1.2.2.2.2.2.1.1 d.1.2.2.2.2.2.2.1.1 d.1.2.2.2.2.2.2.2.1.1 d.2.1
abbrev constraint_direct_p2_K1 (β : Type) := (List (Int × (Int × Int))) → (List (List Int)) → Option β
abbrev constraint_direct_p2_T := {β : Type} → constraint_direct_p2_K1 β → Int → (List (Int × (Int × Int))) → Int → Int → (List (List Int)) → Option β
def constraint_direct_p2_v : View := ⟨0, [0, 1, 5, 13, 14], [(false, [.data (.int .i64)]), (false, [.data (.slice (.prod (.int .i64) (.prod (.int .i64) (.int .i64))))]), (false, [.math 0]), (false, [.data (.int .i64)]), (false, [.data (.int .i64)])], [.mat 27 3 (.int .i64)]⟩
def constraint_direct_p2_o : List (AExit × View) := [(.exit 0, ⟨0, [1, 5], [(false, [.data (.slice (.prod (.int .i64) (.prod (.int .i64) (.int .i64))))]), (false, [.math 0])], [.mat 27 3 (.int .i64)]⟩)]
@[reducible] def constraint_direct_p2_G (p : constraint_direct_p2_T) {β : Type} (d : constraint_direct_p2_v.den) (ks : Outs.K β constraint_direct_p2_o) : Option β :=
  p (fun a0 a1 => ks.1 (((a0, ()), (), ()), (a1, ()))) d.1.1.1 d.1.2.1.1 d.1.2.2.2.1.1 d.1.2.2.2.2.1.1 d.2.1
abbrev constraint_direct_p3_K1 (β : Type) := (List (List Int)) → Option β
abbrev constraint_direct_p3_T := {β : Type} → constraint_direct_p3_K1 β → (List (Int × (Int × Int))) → Int → Int → (List (List Int)) → Option β
def constraint_direct_p3_v : View := ⟨0, [5, 38, 39, 40], [(false, [.math 0]), (false, [.data (.slice (.prod (.int .i64) (.prod (.int .i64) (.int .i64))))]), (false, [.data (.int .i64)]), (false, [.data (.int .i64)])], [.mat 27 3 (.int .i64)]⟩
def constraint_direct_p3_o : List (AExit × View) := [(.exit 4, ⟨0, [5], [(false, [.math 0])], [.mat 27 3 (.int .i64)]⟩)]
@[reducible] def constraint_direct_p3_G (p : constraint_direct_p3_T) {β : Type} (d : constraint_direct_p3_v.den) (ks : Outs.K β constraint_direct_p3_o) : Option β :=
  p (fun a0 => ks.1 (((), ()), (a0, ()))) d.1.2.1.1 d.1.2.2.1.1 d.1.2.2.2.1.1 d.2.1
section
@[reducible] def constraint_direct_X : Ctx := ⟨look tab, pick1 [], true⟩
def constraint_direct_p1_s {β : Type} (rec : Int → (List (Int × (Int × Int))) → Int → Int → Int → Int → Int → (List (List Int)) → Option β) (k1 : constraint_direct_p1_K1 β) (n : Int) (l : List (Int × (Int × Int))) (i_ : Int) (t13 : Int) (t14 : Int) (t26 : Int) (t27 : Int) (out : List (List Int)) : Option β :=
  cond (decide (t27 < t26))
  (cond (decide (0 ≤ i_) && decide (i_ < (List.length out : Int)))
  (cond (decide (0 ≤ t27) && decide (t27 < (List.length (List.getD out (Int.toNat i_) []) : Int)))
  (let m_ : List (List Int) := (List.set out (Int.toNat i_) (List.set (List.getD out (Int.toNat i_) []) (Int.toNat t27) (1099511627776 : Int)));
  rec n l i_ t13 t14 t26 (IntKind.i64.wrap (t27 + (1 : Int))) m_)
  none)
  none)
  (k1 n l t13 t14 out)
def constraint_direct_p1_l {β : Type} : Nat → constraint_direct_p1_K1 β → Int → (List (Int × (Int × Int))) → Int → Int → Int → Int → Int → (List (List Int)) → Option β
  | 0 => fun _ _ _ _ _ _ _ _ _ => none
  | i + 1 => fun k1 n l i_ t13 t14 t26 t27 out => constraint_direct_p1_s (constraint_direct_p1_l i k1) k1 n l i_ t13 t14 t26 t27 out
theorem constraint_direct_p1_ok' (hΓ : ΓOk Try.prog constraint_direct_X.Γ) (i : Nat) : PieceOk Try.prog 66 0 constraint_direct_p1_code constraint_direct_p1_v constraint_direct_p1_o (constraint_direct_p1_G (constraint_direct_p1_l i)) := by
  rw [show constraint_direct_p1_code = .loop (loopBody constraint_direct_p1_code) by kernel_rfl]
  exact piece_loop (X := constraint_direct_X) (p := 1) (Λ := pick1 []) (G := fun i => @fun β d ks => constraint_direct_p1_G (constraint_direct_p1_l i) d ks) mixed tab_ok hΓ rfl (by kernel_rfl) CutsOk_nil (fun _ _ => rfl) (fun i => @fun β d ks r h => Eq.trans (b := constraint_direct_p1_G (constraint_direct_p1_l (i + 1)) d ks) (by kernel_rfl) h) i
def constraint_direct_p2_s (p1 : constraint_direct_p1_T) {β : Type} (rec : Int → (List (Int × (Int × Int))) → Int → Int → (List (List Int)) → Option β) (k1 : constraint_direct_p2_K1 β) (n : Int) (l : List (Int × (Int × Int))) (t13 : Int) (t14 : Int) (out : List (List Int)) : Option β :=
  cond (decide (t14 < t13))
  (cond (decide (0 ≤ n) && (decide (n = n) && (decide (Int.toNat n * 8 ≤ roomMax) && decide (n ≤ 9223372036854775807))))
  (let l2 : List Int := (List.replicate (Int.toNat n) (0 : Int));
  cond (decide (0 ≤ t14) && decide (t14 < (List.length out : Int)))
  (let m_ : List (List Int) := (List.set out (Int.toNat t14) l2);
  cond (decide (0 ≤ t14) && decide (t14 < (List.length m_ : Int)))
  (p1 (fun (n2 : Int) (l3 : List (Int × (Int × Int))) (t132 : Int) (t142 : Int) (out2 : List (List Int)) =>
  rec n2 l3 t132 (IntKind.i64.wrap (t142 + (1 : Int))) out2) n l t14 t13 t14 (List.length (List.getD m_ (Int.toNat t14) []) : Int) (0 : Int) m_)
  none)
  none)
  none)
  (k1 l out)
def constraint_direct_p2_l (p1 : constraint_direct_p1_T) {β : Type} : Nat → constraint_direct_p2_K1 β → Int → (List (Int × (Int × Int))) → Int → Int → (List (List Int)) → Option β
  | 0 => fun _ _ _ _ _ _ => none
  | i + 1 => fun k1 n l t13 t14 out => constraint_direct_p2_s p1 (constraint_direct_p2_l p1 i k1) k1 n l t13 t14 out
theorem constraint_direct_p2_ok' (hΓ : ΓOk Try.prog constraint_direct_X.Γ) (p1 : constraint_direct_p1_T) (hp1 : PieceOk Try.prog 66 0 constraint_direct_p1_code constraint_direct_p1_v constraint_direct_p1_o (constraint_direct_p1_G p1)) (i : Nat) : PieceOk Try.prog 66 0 constraint_direct_p2_code constraint_direct_p2_v constraint_direct_p2_o (constraint_direct_p2_G (constraint_direct_p2_l p1 i)) := by
  rw [show constraint_direct_p2_code = .loop (loopBody constraint_direct_p2_code) by kernel_rfl]
  exact piece_loop (X := constraint_direct_X) (p := 1) (Λ := pick1 [(462, pieceCut constraint_direct_p1_v constraint_direct_p1_o (constraint_direct_p1_G p1))]) (G := fun i => @fun β d ks => constraint_direct_p2_G (constraint_direct_p2_l p1 i) d ks) mixed tab_ok hΓ rfl (by kernel_rfl) (CutsOk_cons (q := 462) (c' := constraint_direct_p1_code) (by kernel_rfl) rfl hp1 CutsOk_nil) (fun _ _ => rfl) (fun i => @fun β d ks r h => Eq.trans (b := constraint_direct_p2_G (constraint_direct_p2_l p1 (i + 1)) d ks) (by kernel_rfl) h) i
def constraint_direct_p3_s {β : Type} (rec : (List (Int × (Int × Int))) → Int → Int → (List (List Int)) → Option β) (k1 : constraint_direct_p3_K1 β) (t38 : List (Int × (Int × Int))) (t39 : Int) (t40 : Int) (out : List (List Int)) : Option β :=
  cond (decide (t40 < t39))
  (cond (decide (0 ≤ t40) && decide (t40 < (List.length t38 : Int)))
  (let e : (Int × (Int × Int)) := List.getD t38 (Int.toNat t40) ((0 : Int), ((0 : Int), (0 : Int)));
  cond (decide (0 ≤ e.1) && decide (e.1 < (List.length out : Int)))
  (cond (decide (0 ≤ e.1) && decide (e.1 < (List.length out : Int)))
  (cond (decide (0 ≤ e.2.1) && decide (e.2.1 < (List.length (List.getD out (Int.toNat e.1) []) : Int)))
  (cond (decide (0 ≤ e.2.1) && decide (e.2.1 < (List.length (List.getD out (Int.toNat e.1) []) : Int)))
  (let m_ : List (List Int) := (List.set out (Int.toNat e.1) (List.set (List.getD out (Int.toNat e.1) []) (Int.toNat e.2.1) (if e.2.2 < (List.getD (List.getD out (Int.toNat e.1) []) (Int.toNat e.2.1) (0 : Int)) then e.2.2 else (List.getD (List.getD out (Int.toNat e.1) []) (Int.toNat e.2.1) (0 : Int)))));
  rec t38 t39 (IntKind.i64.wrap (t40 + (1 : Int))) m_)
  none)
  none)
  none)
  none)
  none)
  (k1 out)
def constraint_direct_p3_l {β : Type} : Nat → constraint_direct_p3_K1 β → (List (Int × (Int × Int))) → Int → Int → (List (List Int)) → Option β
  | 0 => fun _ _ _ _ _ => none
  | i + 1 => fun k1 t38 t39 t40 out => constraint_direct_p3_s (constraint_direct_p3_l i k1) k1 t38 t39 t40 out
theorem constraint_direct_p3_ok' (hΓ : ΓOk Try.prog constraint_direct_X.Γ) (i : Nat) : PieceOk Try.prog 66 0 constraint_direct_p3_code constraint_direct_p3_v constraint_direct_p3_o (constraint_direct_p3_G (constraint_direct_p3_l i)) := by
  rw [show constraint_direct_p3_code = .loop (loopBody constraint_direct_p3_code) by kernel_rfl]
  exact piece_loop (X := constraint_direct_X) (p := 1) (Λ := pick1 []) (G := fun i => @fun β d ks => constraint_direct_p3_G (constraint_direct_p3_l i) d ks) mixed tab_ok hΓ rfl (by kernel_rfl) CutsOk_nil (fun _ _ => rfl) (fun i => @fun β d ks r h => Eq.trans (b := constraint_direct_p3_G (constraint_direct_p3_l (i + 1)) d ks) (by kernel_rfl) h) i
def constraint_direct_s (p2 : constraint_direct_p2_T) (p3 : constraint_direct_p3_T) {β : Type} (n : Int) (l : List (Int × (Int × Int))) (k : ((List (List Int)) → Option β)) : Option β :=
  cond (decide (0 ≤ n) && (decide (n = n) && (decide (Int.toNat n * 24 ≤ roomMax) && decide (n ≤ 9223372036854775807))))
  (let m_ : List (List Int) := (List.replicate (Int.toNat n) ([] : List Int));
  p2 (fun (l2 : List (Int × (Int × Int))) (out : List (List Int)) =>
  p3 (fun (out2 : List (List Int)) =>
  k out2) l2 (List.length l2 : Int) (0 : Int) out) n l (List.length m_ : Int) (0 : Int) m_)
  none
theorem constraint_direct_ok' (hΓ : ΓOk Try.prog constraint_direct_X.Γ) (p2 : constraint_direct_p2_T) (p3 : constraint_direct_p3_T) (hp2 : PieceOk Try.prog 66 0 constraint_direct_p2_code constraint_direct_p2_v constraint_direct_p2_o (constraint_direct_p2_G p2)) (hp3 : PieceOk Try.prog 66 0 constraint_direct_p3_code constraint_direct_p3_v constraint_direct_p3_o (constraint_direct_p3_G p3)) : SpecOk Try.prog 81 (constraint_direct_S (constraint_direct_s p2 p3)) :=
  spec_exec (X := constraint_direct_X) (Λ := pick1 [(58, pieceCut constraint_direct_p2_v constraint_direct_p2_o (constraint_direct_p2_G p2)), (122, pieceCut constraint_direct_p3_v constraint_direct_p3_o (constraint_direct_p3_G p3))]) (rs := [.tmp 4]) (c := bodyOf Try.f81) mixed tab_ok hΓ Try.func81 (by kernel_rfl) (by kernel_rfl) (by kernel_rfl) (by kernel_rfl) (CutsOk_cons (q := 58) (c' := constraint_direct_p2_code) (by kernel_rfl) rfl hp2 (CutsOk_cons (q := 122) (c' := constraint_direct_p3_code) (by kernel_rfl) rfl hp3 CutsOk_nil)) (fun x k r h => Eq.trans (b := (constraint_direct_S (constraint_direct_s p2 p3)).run x k) (by kernel_rfl) h)
end
theorem constraint_direct_Γ : ΓOk Try.prog (pick1 []) := ΓOk_nil
def constraint_direct_p1_n (m : Nat) : constraint_direct_p1_T := constraint_direct_p1_l m
theorem constraint_direct_p1_step {β : Type} (i : Nat) (k1 n l i_ t13 t14 t26 t27 out) : (constraint_direct_p1_n (i + 1) k1 n l i_ t13 t14 t26 t27 out : Option β) = constraint_direct_p1_s (constraint_direct_p1_n i k1) k1 n l i_ t13 t14 t26 t27 out := rfl
def constraint_direct_p1 : constraint_direct_p1_T := constraint_direct_p1_n fuel
theorem constraint_direct_p1_ok : PieceOk Try.prog 66 0 constraint_direct_p1_code constraint_direct_p1_v constraint_direct_p1_o (constraint_direct_p1_G constraint_direct_p1) := constraint_direct_p1_ok' constraint_direct_Γ fuel
def constraint_direct_p2_n (m : Nat) : constraint_direct_p2_T := constraint_direct_p2_l constraint_direct_p1 m
theorem constraint_direct_p2_step {β : Type} (i : Nat) (k1 n l t13 t14 out) : (constraint_direct_p2_n (i + 1) k1 n l t13 t14 out : Option β) = constraint_direct_p2_s constraint_direct_p1 (constraint_direct_p2_n i k1) k1 n l t13 t14 out := rfl
def constraint_direct_p2 : constraint_direct_p2_T := constraint_direct_p2_n fuel
theorem constraint_direct_p2_ok : PieceOk Try.prog 66 0 constraint_direct_p2_code constraint_direct_p2_v constraint_direct_p2_o (constraint_direct_p2_G constraint_direct_p2) := constraint_direct_p2_ok' constraint_direct_Γ constraint_direct_p1 constraint_direct_p1_ok fuel
def constraint_direct_p3_n (m : Nat) : constraint_direct_p3_T := constraint_direct_p3_l m
theorem constraint_direct_p3_step {β : Type} (i : Nat) (k1 t38 t39 t40 out) : (constraint_direct_p3_n (i + 1) k1 t38 t39 t40 out : Option β) = constraint_direct_p3_s (constraint_direct_p3_n i k1) k1 t38 t39 t40 out := rfl
def constraint_direct_p3 : constraint_direct_p3_T := constraint_direct_p3_n fuel
theorem constraint_direct_p3_ok : PieceOk Try.prog 66 0 constraint_direct_p3_code constraint_direct_p3_v constraint_direct_p3_o (constraint_direct_p3_G constraint_direct_p3) := constraint_direct_p3_ok' constraint_direct_Γ fuel
def constraint_direct : T_constraint_direct := constraint_direct_s constraint_direct_p2 constraint_direct_p3
theorem constraint_direct_ok : SpecOk Try.prog 81 (constraint_direct_S constraint_direct) := constraint_direct_ok' constraint_direct_Γ constraint_direct_p2 constraint_direct_p3 constraint_direct_p2_ok constraint_direct_p3_ok

/-- pagewatch/constraint.Valid$1 -/
abbrev T_constraint_Valid_f1 := {β : Type} → (Int × (Int × Int)) → Int → (Bool → Int → Option β) → Option β
def constraint_Valid_f1_S (c : T_constraint_Valid_f1) : Spec :=
  ⟨[(true, [.data (.prod (.int .i64) (.prod (.int .i64) (.int .i64)))]), (false, [.ptr 0 0])], [.cells 3 [.data (.int .i64)]], [(false, [.data .bool])], [.cells 3 [.data (.int .i64)]], fun x k => c x.1.1.1 x.2.1.1 (fun r0 r1 => k (((r0, ()), ()), ((r1, ()), ())))⟩
section
variable (c_constraint_in : T_constraint_in)
@[reducible] def constraint_Valid_f1_X : Ctx := ⟨look tab, pick1 [(77, .spec (constraint_in_S c_constraint_in))], false⟩
def constraint_Valid_f1_s {β : Type} (d : (Int × (Int × Int))) (t1 : Int) (k : (Bool → Int → Option β)) : Option β :=
  c_constraint_in d.1 (0 : Int) (IntKind.i64.wrap (t1 - (1 : Int))) (fun (rin : Bool) =>
  cond (!rin)
  (k true t1)
  (c_constraint_in d.2.1 (0 : Int) (IntKind.i64.wrap (t1 - (1 : Int))) (fun (rin2 : Bool) =>
  cond (!rin2)
  (k true t1)
  (c_constraint_in d.2.2 (-17179869184 : Int) (17179869184 : Int) (fun (rin3 : Bool) =>
  k (!rin3) t1)))))
theorem constraint_Valid_f1_ok' (hΓ : ΓOk Try.prog (constraint_Valid_f1_X c_constraint_in).Γ) : SpecOk Try.prog 82 (constraint_Valid_f1_S (constraint_Valid_f1_s c_constraint_in)) :=
  spec_exec (X := (constraint_Valid_f1_X c_constraint_in)) (Λ := pick1 []) (rs := [.tmp 3]) (c := bodyOf Try.f82) mixed tab_ok hΓ Try.func82 (by kernel_rfl) (by kernel_rfl) (by kernel_rfl) (by kernel_rfl) CutsOk_nil (fun x k r h => Eq.trans (b := (constraint_Valid_f1_S (constraint_Valid_f1_s c_constraint_in)).run x k) (by kernel_rfl) h)
end
theorem constraint_Valid_f1_Γ : ΓOk Try.prog (pick1 [(77, .spec (constraint_in_S constraint_in))]) := (ΓOk_cons constraint_in_ok ΓOk_nil)
def constraint_Valid_f1 : T_constraint_Valid_f1 := constraint_Valid_f1_s constraint_in
theorem constraint_Valid_f1_ok : SpecOk Try.prog 82 (constraint_Valid_f1_S constraint_Valid_f1) := constraint_Valid_f1_ok' constraint_in constraint_Valid_f1_Γ

/-- pagewatch/clock.Elapsed -/
abbrev T_clock_Elapsed := {β : Type} → Int → Int → (Int → Int → Option β) → Option β
def clock_Elapsed_S (c : T_clock_Elapsed) : Spec :=
  ⟨[(false, [.data (.int .i64)]), (false, [.data (.int .i64)])], [], [(false, [.data (.int .i64)]), (false, [.data (.int .i64)])], [], fun x k => c x.1.1.1 x.1.2.1.1 (fun r0 r1 => k (((r0, ()), (r1, ()), ()), ()))⟩
section
variable (c_clock_Elapsed_f1 : T_clock_Elapsed_f1) (c_clock_in : T_clock_in) (c_clock_instant : T_clock_instant)
@[reducible] def clock_Elapsed_X : Ctx := ⟨look tab, pick1 [(52, .spec (clock_Elapsed_f1_S c_clock_Elapsed_f1)), (50, .spec (clock_in_S c_clock_in)), (51, .spec (clock_instant_S c_clock_instant))], false⟩
def clock_Elapsed_s {β : Type} (drift : Int) (d : Int) (k : (Int → Int → Option β)) : Option β :=
  c_clock_in drift (0 : Int) (500000 : Int) (fun (rin : Bool) =>
  cond (!rin)
  (k (0 : Int) (0 : Int))
  (c_clock_instant d (fun (rinstant : Bool) =>
  cond (!rinstant)
  (k (0 : Int) (0 : Int))
  (cond (!decide ((IntKind.i64.wrap ((1000000 : Int) + drift)) = 0))
  (c_clock_Elapsed_f1 (IntKind.i64.wrap (d * (1000000 : Int))) (IntKind.i64.wrap ((1000000 : Int) - drift)) (fun (rElapsed1 : Int) =>
  let low : Int := (IntKind.i64.wrap (Int.tdiv (IntKind.i64.wrap (d * (1000000 : Int))) (IntKind.i64.wrap ((1000000 : Int) + drift))));
  k low rElapsed1))
  none))))
theorem clock_Elapsed_ok' (hΓ : ΓOk Try.prog (clock_Elapsed_X c_clock_Elapsed_f1 c_clock_in c_clock_instant).Γ) : SpecOk Try.prog 15 (clock_Elapsed_S (clock_Elapsed_s c_clock_Elapsed_f1 c_clock_in c_clock_instant)) :=
  spec_exec (X := (clock_Elapsed_X c_clock_Elapsed_f1 c_clock_in c_clock_instant)) (Λ := pick1 []) (rs := [.tmp 4, .tmp 5]) (c := bodyOf Try.f15) mixed tab_ok hΓ Try.func15 (by kernel_rfl) (by kernel_rfl) (by kernel_rfl) (by kernel_rfl) CutsOk_nil (fun x k r h => Eq.trans (b := (clock_Elapsed_S (clock_Elapsed_s c_clock_Elapsed_f1 c_clock_in c_clock_instant)).run x k) (by kernel_rfl) h)
end
theorem clock_Elapsed_Γ : ΓOk Try.prog (pick1 [(52, .spec (clock_Elapsed_f1_S clock_Elapsed_f1)), (50, .spec (clock_in_S clock_in)), (51, .spec (clock_instant_S clock_instant))]) := (ΓOk_cons clock_Elapsed_f1_ok (ΓOk_cons clock_in_ok (ΓOk_cons clock_instant_ok ΓOk_nil)))
def clock_Elapsed : T_clock_Elapsed := clock_Elapsed_s clock_Elapsed_f1 clock_in clock_instant
theorem clock_Elapsed_ok : SpecOk Try.prog 15 (clock_Elapsed_S clock_Elapsed) := clock_Elapsed_ok' clock_Elapsed_f1 clock_in clock_instant clock_Elapsed_Γ

/-- (*pagewatch/pagewatchmade.Dice).One -/
abbrev T_made_Dice_One := {β : Type} → (List Int) → (List Int × Int) → (Int → (List Int × Int) → Option β) → Option β
def made_Dice_One_S (c : T_made_Dice_One) : Spec :=
  ⟨[(false, [.ptr 0 0]), (false, [.data (.slice (.int .i64))])], [.cells 82 [.data (.prod (.slice (.int .i64)) (.int .i64))]], [(false, [.data (.int .i64)])], [.cells 82 [.data (.prod (.slice (.int .i64)) (.int .i64))]], fun x k => c x.1.2.1.1 x.2.1.1 (fun r0 r1 => k (((r0, ()), ()), ((r1, ()), ())))⟩
section
variable (c_made_Dice_Next : T_made_Dice_Next)
@[reducible] def made_Dice_One_X : Ctx := ⟨look tab, pick1 [(20, .spec (made_Dice_Next_S c_made_Dice_Next))], false⟩
def made_Dice_One_s {β : Type} (l : List Int) (d : (List Int × Int)) (k : (Int → (List Int × Int) → Option β)) : Option β :=
  c_made_Dice_Next (List.length l : Int) d (fun (rNext : Int) (mrNext : (List Int × Int)) =>
  cond (decide (0 ≤ rNext) && decide (rNext < (List.length l : Int)))
  (let e : Int := List.getD l (Int.toNat rNext) (0 : Int);
  k e mrNext)
  none)
theorem made_Dice_One_ok' (hΓ : ΓOk Try.prog (made_Dice_One_X c_made_Dice_Next).Γ) : SpecOk Try.prog 19 (made_Dice_One_S (made_Dice_One_s c_made_Dice_Next)) :=
  spec_exec (X := (made_Dice_One_X c_made_Dice_Next)) (Λ := pick1 []) (rs := [.tmp 4]) (c := bodyOf Try.f19) mixed tab_ok hΓ Try.func19 (by kernel_rfl) (by kernel_rfl) (by kernel_rfl) (by kernel_rfl) CutsOk_nil (fun x k r h => Eq.trans (b := (made_Dice_One_S (made_Dice_One_s c_made_Dice_Next)).run x k) (by kernel_rfl) h)
end
theorem made_Dice_One_Γ : ΓOk Try.prog (pick1 [(20, .spec (made_Dice_Next_S made_Dice_Next))]) := (ΓOk_cons made_Dice_Next_ok ΓOk_nil)
def made_Dice_One : T_made_Dice_One := made_Dice_One_s made_Dice_Next
theorem made_Dice_One_ok : SpecOk Try.prog 19 (made_Dice_One_S made_Dice_One) := made_Dice_One_ok' made_Dice_Next made_Dice_One_Γ

/-- (*pagewatch/pagewatchmade.Dice).Record -/
abbrev T_made_Dice_Record := {β : Type} → Int → (List Int × Int) → (api_Record → (List Int × Int) → (List Int) → Option β) → Option β
def made_Dice_Record_S (c : T_made_Dice_Record) : Spec :=
  ⟨[(false, [.ptr 0 0]), (false, [.data (.int .i64)])], [.cells 82 [.data (.prod (.slice (.int .i64)) (.int .i64))]], [(true, [.data y_api_Record]), (false, [.rowh 1])], [.cells 82 [.data (.prod (.slice (.int .i64)) (.int .i64))], .row 3 (.int .i64)], fun x k => c x.1.2.1.1 x.2.1.1 (fun r0 r1 r2 => k (((r0, ()), (), ()), ((r1, ()), r2, ())))⟩
noncomputable def made_Dice_Record_p1_code : Code := codeAt 122 (bodyOf Try.f25)
noncomputable def made_Dice_Record_p2_code : Code := codeAt 250 (bodyOf Try.f25)
noncomputable def made_Dice_Record_p3_code : Code := codeAt 1018 (bodyOf Try.f25)
noncomputable def made_Dice_Record_p5_code : Code := codeAt 2042 (bodyOf Try.f25)
noncomputable def made_Dice_Record_p4_code : Code := codeAt 51 (loopBody made_Dice_Record_p5_code)
abbrev made_Dice_Record_p1_K1 (β : Type) := Int → (List Int) → Int → (List Int) → (List (List UInt8 × Int)) → (List (Int × (Int × (Int × Int)))) → (List api_Event) → (List (Int × (Int × Int))) → (List (List UInt8 × Int)) → (List (Int × (Int × (Int × Int)))) → (List api_Event) → (List (Int × (Int × Int))) → Option β
abbrev made_Dice_Record_p1_T := {β : Type} → made_Dice_Record_p1_K1 β → Int → Int → (List Int) → Int → (List Int) → (List (List UInt8 × Int)) → (List (Int × (Int × (Int × Int)))) → (List api_Event) → (List (Int × (Int × Int))) → (List (List UInt8 × Int)) → (List (Int × (Int × (Int × Int)))) → (List api_Event) → (List (Int × (Int × Int))) → Option β
def made_Dice_Record_p1_v : View := ⟨1, [0, 1, 4, 6, 7, 8], [(false, [.ptr 0 0]), (false, [.data (.int .i64)]), (false, [.ptr 1 0]), (false, [.ptr 2 0]), (false, [.rowh 3]), (false, [.data (.int .i64)])], [.cells 82 [.data (.slice (.int .i64)), .data (.int .i64)], .cells 41 [.rowh 4, .rowh 5, .rowh 6, .rowh 7], .cells 41 [.rowh 8, .rowh 9, .rowh 10, .rowh 11], .row 3 (.int .i64), .row 35 (.prod .str (.int .i64)), .row 43 (.prod (.int .i64) (.prod (.int .i64) (.prod (.int .i64) (.int .i64)))), .row 65 y_api_Event, .row 67 (.prod (.int .i64) (.prod (.int .i64) (.int .i64))), .row 35 (.prod .str (.int .i64)), .row 43 (.prod (.int .i64) (.prod (.int .i64) (.prod (.int .i64) (.int .i64)))), .row 65 y_api_Event, .row 67 (.prod (.int .i64) (.prod (.int .i64) (.int .i64)))]⟩
def made_Dice_Record_p1_o : List (AExit × View) := [(.exit 0, ⟨1, [0, 1, 4, 6, 7], [(false, [.ptr 0 0]), (false, [.data (.int .i64)]), (false, [.ptr 1 0]), (false, [.ptr 2 0]), (false, [.rowh 3])], [.cells 82 [.data (.slice (.int .i64)), .data (.int .i64)], .cells 41 [.rowh 4, .rowh 5, .rowh 6, .rowh 7], .cells 41 [.rowh 8, .rowh 9, .rowh 10, .rowh 11], .row 3 (.int .i64), .row 35 (.prod .str (.int .i64)), .row 43 (.prod (.int .i64) (.prod (.int .i64) (.prod (.int .i64) (.int .i64)))), .row 65 y_api_Event, .row 67 (.prod (.int .i64) (.prod (.int .i64) (.int .i64))), .row 35 (.prod .str (.int .i64)), .row 43 (.prod (.int .i64) (.prod (.int .i64) (.prod (.int .i64) (.int .i64)))), .row 65 y_api_Event, .row 67 (.prod (.int .i64) (.prod (.int .i64) (.int .i64)))]⟩)]
@[reducible] def made_Dice_Record_p1_G (p : made_Dice_Record_p1_T) {β : Type} (d : made_Dice_Record_p1_v.den) (ks : Outs.K β made_Dice_Record_p1_o) : Option β :=
  p (fun a0 a1 a2 a3 a4 a5 a6 a7 a8 a9 a10 a11 => ks.1 (((), (a0, ()), (), (), (), ()), ((a1, a2, ()), (), (), a3, a4, a5, a6, a7, a8, a9, a10, a11, ()))) d.1.2.1.1 d.1.2.2.2.2.2.1.1 d.2.1.1 d.2.1.2.1 d.2.2.2.2.1 d.2.2.2.2.2.1 d.2.2.2.2.2.2.1 d.2.2.2.2.2.2.2.1 d.2.2.2.2.2.2.2.2.1 d.2.2.2.2.2.2.2.2.2.1 d.2.2.2.2.2.2.2.2.2.2.1 d.2.2.2.2.2.2.2.2.2.2.2.1 d.2.2.2.2.2.2.2.2.2.2.2.2.1
abbrev made_Dice_Record_p2_K1 (β : Type) := Int → (List Int) → Int → (List Int) → (List (List UInt8 × Int)) → (List (Int × (Int × (Int × Int)))) → (List api_Event) → (List (Int × (Int × Int))) → (List (List UInt8 × Int)) → (List (Int × (Int × (Int × Int)))) → (List api_Event) → (List (Int × (Int × Int))) → Option β
abbrev made_Dice_Record_p2_T := {β : Type} → made_Dice_Record_p2_K1 β → Int → Int → (List Int) → Int → (List Int) → (List (List UInt8 × Int)) → (List (Int × (Int × (Int × Int)))) → (List api_Event) → (List (Int × (Int × Int))) → (List (List UInt8 × Int)) → (List (Int × (Int × (Int × Int)))) → (List api_Event) → (List (Int × (Int × Int))) → Option β
def made_Dice_Record_p2_v : View := ⟨1, [0, 1, 4, 6, 7, 9], [(false, [.ptr 0 0]), (false, [.data (.int .i64)]), (false, [.ptr 1 0]), (false, [.ptr 2 0]), (false, [.rowh 3]), (false, [.data (.int .i64)])], [.cells 82 [.data (.slice (.int .i64)), .data (.int .i64)], .cells 41 [.rowh 4, .rowh 5, .rowh 6, .rowh 7], .cells 41 [.rowh 8, .rowh 9, .rowh 10, .rowh 11], .row 3 (.int .i64), .row 35 (.prod .str (.int .i64)), .row 43 (.prod (.int .i64) (.prod (.int .i64) (.prod (.int .i64) (.int .i64)))), .row 65 y_api_Event, .row 67 (.prod (.int .i64) (.prod (.int .i64) (.int .i64))), .row 35 (.prod .str (.int .i64)), .row 43 (.prod (.int .i64) (.prod (.int .i64) (.prod (.int .i64) (.int .i64)))), .row 65 y_api_Event, .row 67 (.prod (.int .i64) (.prod (.int .i64) (.int .i64)))]⟩
def made_Dice_Record_p2_o : List (AExit × View) := [(.exit 2, ⟨1, [0, 1, 4, 6, 7], [(false, [.ptr 0 0]), (false, [.data (.int .i64)]), (false, [.ptr 1 0]), (false, [.ptr 2 0]), (false, [.rowh 3])], [.cells 82 [.data (.slice (.int .i64)), .data (.int .i64)], .cells 41 [.rowh 4, .rowh 5, .rowh 6, .rowh 7], .cells 41 [.rowh 8, .rowh 9, .rowh 10, .rowh 11], .row 3 (.int .i64), .row 35 (.prod .str (.int .i64)), .row 43 (.prod (.int .i64) (.prod (.int .i64) (.prod (.int .i64) (.int .i64)))), .row 65 y_api_Event, .row 67 (.prod (.int .i64) (.prod (.int .i64) (.int .i64))), .row 35 (.prod .str (.int .i64)), .row 43 (.prod (.int .i64) (.prod (.int .i64) (.prod (.int .i64) (.int .i64)))), .row 65 y_api_Event, .row 67 (.prod (.int .i64) (.prod (.int .i64) (.int .i64)))]⟩)]
@[reducible] def made_Dice_Record_p2_G (p : made_Dice_Record_p2_T) {β : Type} (d : made_Dice_Record_p2_v.den) (ks : Outs.K β made_Dice_Record_p2_o) : Option β :=
  p (fun a0 a1 a2 a3 a4 a5 a6 a7 a8 a9 a10 a11 => ks.1 (((), (a0, ()), (), (), (), ()), ((a1, a2, ()), (), (), a3, a4, a5, a6, a7, a8, a9, a10, a11, ()))) d.1.2.1.1 d.1.2.2.2.2.2.1.1 d.2.1.1 d.2.1.2.1 d.2.2.2.2.1 d.2.2.2.2.2.1 d.2.2.2.2.2.2.1 d.2.2.2.2.2.2.2.1 d.2.2.2.2.2.2.2.2.1 d.2.2.2.2.2.2.2.2.2.1 d.2.2.2.2.2.2.2.2.2.2.1 d.2.2.2.2.2.2.2.2.2.2.2.1 d.2.2.2.2.2.2.2.2.2.2.2.2.1
abbrev made_Dice_Record_p3_K1 (β : Type) := (List Int) → Int → (List Int) → (List (List UInt8 × Int)) → (List (Int × (Int × (Int × Int)))) → (List api_Event) → (List (Int × (Int × Int))) → (List (List UInt8 × Int)) → (List (Int × (Int × (Int × Int)))) → (List api_Event) → (List (Int × (Int × Int))) → Option β
abbrev made_Dice_Record_p3_T := {β : Type} → made_Dice_Record_p3_K1 β → Int → (List Int) → Int → (List Int) → (List Int) → (List (List UInt8 × Int)) → (List (Int × (Int × (Int × Int)))) → (List api_Event) → (List (Int × (Int × Int))) → (List (List UInt8 × Int)) → (List (Int × (Int × (Int × Int)))) → (List api_Event) → (List (Int × (Int × Int))) → Option β
def made_Dice_Record_p3_v : View := ⟨1, [0, 4, 6, 7, 12, 13], [(false, [.ptr 0 0]), (false, [.ptr 1 0]), (false, [.ptr 2 0]), (false, [.rowh 3]), (false, [.rowh 4]), (false, [.data (.int .i64)])], [.cells 82 [.data (.slice (.int .i64)), .data (.int .i64)], .cells 41 [.rowh 5, .rowh 6, .rowh 7, .rowh 8], .cells 41 [.rowh 9, .rowh 10, .rowh 11, .rowh 12], .row 3 (.int .i64), .row 3 (.int .i64), .row 35 (.prod .str (.int .i64)), .row 43 (.prod (.int .i64) (.prod (.int .i64) (.prod (.int .i64) (.int .i64)))), .row 65 y_api_Event, .row 67 (.prod (.int .i64) (.prod (.int .i64) (.int .i64))), .row 35 (.prod .str (.int .i64)), .row 43 (.prod (.int .i64) (.prod (.int .i64) (.prod (.int .i64) (.int .i64)))), .row 65 y_api_Event, .row 67 (.prod (.int .i64) (.prod (.int .i64) (.int .i64)))]⟩
def made_Dice_Record_p3_o : List (AExit × View) := [(.exit 4, ⟨1, [0, 4, 6, 12], [(false, [.ptr 0 0]), (false, [.ptr 1 0]), (false, [.ptr 2 0]), (false, [.rowh 3])], [.cells 82 [.data (.slice (.int .i64)), .data (.int .i64)], .cells 41 [.rowh 4, .rowh 5, .rowh 6, .rowh 7], .cells 41 [.rowh 8, .rowh 9, .rowh 10, .rowh 11], .row 3 (.int .i64), .row 35 (.prod .str (.int .i64)), .row 43 (.prod (.int .i64) (.prod (.int .i64) (.prod (.int .i64) (.int .i64)))), .row 65 y_api_Event, .row 67 (.prod (.int .i64) (.prod (.int .i64) (.int .i64))), .row 35 (.prod .str (.int .i64)), .row 43 (.prod (.int .i64) (.prod (.int .i64) (.prod (.int .i64) (.int .i64)))), .row 65 y_api_Event, .row 67 (.prod (.int .i64) (.prod (.int .i64) (.int .i64)))]⟩)]
@[reducible] def made_Dice_Record_p3_G (p : made_Dice_Record_p3_T) {β : Type} (d : made_Dice_Record_p3_v.den) (ks : Outs.K β made_Dice_Record_p3_o) : Option β :=
  p (fun a0 a1 a2 a3 a4 a5 a6 a7 a8 a9 a10 => ks.1 (((), (), (), (), ()), ((a0, a1, ()), (), (), a2, a3, a4, a5, a6, a7, a8, a9, a10, ()))) d.1.2.2.2.2.2.1.1 d.2.1.1 d.2.1.2.1 d.2.2.2.2.1 d.2.2.2.2.2.1 d.2.2.2.2.2.2.1 d.2.2.2.2.2.2.2.1 d.2.2.2.2.2.2.2.2.1 d.2.2.2.2.2.2.2.2.2.1 d.2.2.2.2.2.2.2.2.2.2.1 d.2.2.2.2.2.2.2.2.2.2.2.1 d.2.2.2.2.2.2.2.2.2.2.2.2.1 d.2.2.2.2.2.2.2.2.2.2.2.2.2.1
abbrev made_Dice_Record_p4_K1 (β : Type) := Int → (List Int) → Int → (List Int) → (List (List UInt8 × Int)) → (List (Int × (Int × (Int × Int)))) → (List api_Event) → (List (Int × (Int × Int))) → (List (List UInt8 × Int)) → (List (Int × (Int × (Int × Int)))) → (List api_Event) → (List (Int × (Int × Int))) → Option β
abbrev made_Dice_Record_p4_T := {β : Type} → made_Dice_Record_p4_K1 β → Int → Int → Int → Bool → (List Int) → Int → (List Int) → (List (List UInt8 × Int)) → (List (Int × (Int × (Int × Int)))) → (List api_Event) → (List (Int × (Int × Int))) → (List (List UInt8 × Int)) → (List (Int × (Int × (Int × Int)))) → (List api_Event) → (List (Int × (Int × Int))) → Option β
def made_Dice_Record_p4_v : View := ⟨1, [0, 4, 6, 12, 16, 17, 18, 154], [(false, [.ptr 0 0]), (false, [.ptr 1 0]), (false, [.ptr 2 0]), (false, [.rowh 3]), (false, [.data (.int .i64)]), (false, [.data (.int .i64)]), (false, [.data (.int .i64)]), (false, [.data .bool])], [.cells 82 [.data (.slice (.int .i64)), .data (.int .i64)], .cells 41 [.rowh 4, .rowh 5, .rowh 6, .rowh 7], .cells 41 [.rowh 8, .rowh 9, .rowh 10, .rowh 11], .row 3 (.int .i64), .row 35 (.prod .str (.int .i64)), .row 43 (.prod (.int .i64) (.prod (.int .i64) (.prod (.int .i64) (.int .i64)))), .row 65 y_api_Event, .row 67 (.prod (.int .i64) (.prod (.int .i64) (.int .i64))), .row 35 (.prod .str (.int .i64)), .row 43 (.prod (.int .i64) (.prod (.int .i64) (.prod (.int .i64) (.int .i64)))), .row 65 y_api_Event, .row 67 (.prod (.int .i64) (.prod (.int .i64) (.int .i64)))]⟩
def made_Dice_Record_p4_o : List (AExit × View) := [(.normal, ⟨1, [0, 4, 6, 12, 16], [(false, [.ptr 0 0]), (false, [.ptr 1 0]), (false, [.ptr 2 0]), (false, [.rowh 3]), (false, [.data (.int .i64)])], [.cells 82 [.data (.slice (.int .i64)), .data (.int .i64)], .cells 41 [.rowh 4, .rowh 5, .rowh 6, .rowh 7], .cells 41 [.rowh 8, .rowh 9, .rowh 10, .rowh 11], .row 3 (.int .i64), .row 35 (.prod .str (.int .i64)), .row 43 (.prod (.int .i64) (.prod (.int .i64) (.prod (.int .i64) (.int .i64)))), .row 65 y_api_Event, .row 67 (.prod (.int .i64) (.prod (.int .i64) (.int .i64))), .row 35 (.prod .str (.int .i64)), .row 43 (.prod (.int .i64) (.prod (.int .i64) (.prod (.int .i64) (.int .i64)))), .row 65 y_api_Event, .row 67 (.prod (.int .i64) (.prod (.int .i64) (.int .i64)))]⟩)]
@[reducible] def made_Dice_Record_p4_G (p : made_Dice_Record_p4_T) {β : Type} (d : made_Dice_Record_p4_v.den) (ks : Outs.K β made_Dice_Record_p4_o) : Option β :=
  p (fun a0 a1 a2 a3 a4 a5 a6 a7 a8 a9 a10 a11 => ks.1 (((), (), (), (), (a0, ()), ()), ((a1, a2, ()), (), (), a3, a4, a5, a6, a7, a8, a9, a10, a11, ()))) d.1.2.2.2.2.1.1 d.1.2.2.2.2.2.1.1 d.1.2.2.2.2.2.2.1.1 d.1.2.2.2.2.2.2.2.1.1 d.2.1.1 d.2.1.2.1 d.2.2.2.2.1 d.2.2.2.2.2.1 d.2.2.2.2.2.2.1 d.2.2.2.2.2.2.2.1 d.2.2.2.2.2.2.2.2.1 d.2.2.2.2.2.2.2.2.2.1 d.2.2.2.2.2.2.2.2.2.2.1 d.2.2.2.2.2.2.2.2.2.2.2.1 d.2.2.2.2.2.2.2.2.2.2.2.2.1
abbrev made_Dice_Record_p5_K1 (β : Type) := (List Int) → Int → (List Int) → (List (List UInt8 × Int)) → (List (Int × (Int × (Int × Int)))) → (List api_Event) → (List (Int × (Int × Int))) → (List (List UInt8 × Int)) → (List (Int × (Int × (Int × Int)))) → (List api_Event) → (List (Int × (Int × Int))) → Option β
abbrev made_Dice_Record_p5_T := {β : Type} → made_Dice_Record_p5_K1 β → Int → (List Int) → Int → (List Int) → (List (List UInt8 × Int)) → (List (Int × (Int × (Int × Int)))) → (List api_Event) → (List (Int × (Int × Int))) → (List (List UInt8 × Int)) → (List (Int × (Int × (Int × Int)))) → (List api_Event) → (List (Int × (Int × Int))) → Option β
def made_Dice_Record_p5_v : View := ⟨1, [0, 4, 6, 12, 16], [(false, [.ptr 0 0]), (false, [.ptr 1 0]), (false, [.ptr 2 0]), (false, [.rowh 3]), (false, [.data (.int .i64)])], [.cells 82 [.data (.slice (.int .i64)), .data (.int .i64)], .cells 41 [.rowh 4, .rowh 5, .rowh 6, .rowh 7], .cells 41 [.rowh 8, .rowh 9, .rowh 10, .rowh 11], .row 3 (.int .i64), .row 35 (.prod .str (.int .i64)), .row 43 (.prod (.int .i64) (.prod (.int .i64) (.prod (.int .i64) (.int .i64)))), .row 65 y_api_Event, .row 67 (.prod (.int .i64) (.prod (.int .i64) (.int .i64))), .row 35 (.prod .str (.int .i64)), .row 43 (.prod (.int .i64) (.prod (.int .i64) (.prod (.int .i64) (.int .i64)))), .row 65 y_api_Event, .row 67 (.prod (.int .i64) (.prod (.int .i64) (.int .i64)))]⟩
def made_Dice_Record_p5_o : List (AExit × View) := [(.exit 6, ⟨1, [4, 6, 12], [(false, [.ptr 1 0]), (false, [.ptr 2 0]), (false, [.rowh 3])], [.cells 82 [.data (.slice (.int .i64)), .data (.int .i64)], .cells 41 [.rowh 4, .rowh 5, .rowh 6, .rowh 7], .cells 41 [.rowh 8, .rowh 9, .rowh 10, .rowh 11], .row 3 (.int .i64), .row 35 (.prod .str (.int .i64)), .row 43 (.prod (.int .i64) (.prod (.int .i64) (.prod (.int .i64) (.int .i64)))), .row 65 y_api_Event, .row 67 (.prod (.int .i64) (.prod (.int .i64) (.int .i64))), .row 35 (.prod .str (.int .i64)), .row 43 (.prod (.int .i64) (.prod (.int .i64) (.prod (.int .i64) (.int .i64)))), .row 65 y_api_Event, .row 67 (.prod (.int .i64) (.prod (.int .i64) (.int .i64)))]⟩)]
@[reducible] def made_Dice_Record_p5_G (p : made_Dice_Record_p5_T) {β : Type} (d : made_Dice_Record_p5_v.den) (ks : Outs.K β made_Dice_Record_p5_o) : Option β :=
  p (fun a0 a1 a2 a3 a4 a5 a6 a7 a8 a9 a10 => ks.1 (((), (), (), ()), ((a0, a1, ()), (), (), a2, a3, a4, a5, a6, a7, a8, a9, a10, ()))) d.1.2.2.2.2.1.1 d.2.1.1 d.2.1.2.1 d.2.2.2.2.1 d.2.2.2.2.2.1 d.2.2.2.2.2.2.1 d.2.2.2.2.2.2.2.1 d.2.2.2.2.2.2.2.2.1 d.2.2.2.2.2.2.2.2.2.1 d.2.2.2.2.2.2.2.2.2.2.1 d.2.2.2.2.2.2.2.2.2.2.2.1 d.2.2.2.2.2.2.2.2.2.2.2.2.1
section
variable (c_made_Dice_Next : T_made_Dice_Next) (c_made_Dice_One : T_made_Dice_One)
@[reducible] def made_Dice_Record_X : Ctx := ⟨look tab, pick1 [(20, .spec (made_Dice_Next_S c_made_Dice_Next)), (19, .spec (made_Dice_One_S c_made_Dice_One))], false⟩
def made_Dice_Record_p1_s {β : Type} (rec : Int → Int → (List Int) → Int → (List Int) → (List (List UInt8 × Int)) → (List (Int × (Int × (Int × Int)))) → (List api_Event) → (List (Int × (Int × Int))) → (List (List UInt8 × Int)) → (List (Int × (Int × (Int × Int)))) → (List api_Event) → (List (Int × (Int × Int))) → Option β) (k1 : made_Dice_Record_p1_K1 β) (n : Int) (i_ : Int) (d : List Int) (d2 : Int) (ahead : List Int) (b4_ : List (List UInt8 × Int)) (b5_ : List (Int × (Int × (Int × Int)))) (b6_ : List api_Event) (b7_ : List (Int × (Int × Int))) (b8_ : List (List UInt8 × Int)) (b9_ : List (Int × (Int × (Int × Int)))) (b10_ : List api_Event) (b11_ : List (Int × (Int × Int))) : Option β :=
  cond (decide ((0 : Int) < i_))
  (let l : List (List UInt8) := ([([100, 98] : List UInt8), ([119, 101, 98] : List UInt8), ([108, 98] : List UInt8)] : List (List UInt8));
  cond (decide (0 ≤ (List.length b8_ : Int)) && decide ((List.length b8_ : Int) < (List.length l : Int)))
  (let l2 : List Int := ([(0 : Int), (0 : Int), (100 : Int), (50000 : Int), (500000 : Int)] : List Int);
  c_made_Dice_One l2 (d, d2) (fun (rOne : Int) (mrOne : (List Int × Int)) =>
  let l3 : List (List UInt8 × Int) := ([((List.getD l (Int.toNat (List.length b8_ : Int)) ([] : List UInt8)), rOne)] : List (List UInt8 × Int));
  cond (decide ((List.length b8_ + List.length l3) * 24 ≤ roomMax))
  (let l4 : List (List UInt8 × Int) := (b8_ ++ l3);
  let l5 : List Int := ([(0 : Int), (7 : Int), (100 : Int)] : List Int);
  c_made_Dice_One l5 mrOne (fun (rOne2 : Int) (mrOne2 : (List Int × Int)) =>
  let l6 : List Int := ([rOne2] : List Int);
  cond (decide ((List.length ahead + List.length l6) * 8 ≤ roomMax))
  (let l7 : List Int := (ahead ++ l6);
  let i_2 : Int := (IntKind.i64.wrap (i_ - (1 : Int)));
  rec n i_2 mrOne2.1 mrOne2.2 l7 b4_ b5_ b6_ b7_ l4 b9_ b10_ b11_)
  none))
  none))
  none)
  (k1 n d d2 ahead b4_ b5_ b6_ b7_ b8_ b9_ b10_ b11_)
def made_Dice_Record_p1_l {β : Type} : Nat → made_Dice_Record_p1_K1 β → Int → Int → (List Int) → Int → (List Int) → (List (List UInt8 × Int)) → (List (Int × (Int × (Int × Int)))) → (List api_Event) → (List (Int × (Int × Int))) → (List (List UInt8 × Int)) → (List (Int × (Int × (Int × Int)))) → (List api_Event) → (List (Int × (Int × Int))) → Option β
  | 0 => fun _ _ _ _ _ _ _ _ _ _ _ _ _ _ => none
  | i + 1 => fun k1 n i_ d d2 ahead b4_ b5_ b6_ b7_ b8_ b9_ b10_ b11_ => made_Dice_Record_p1_s c_made_Dice_One (made_Dice_Record_p1_l i k1) k1 n i_ d d2 ahead b4_ b5_ b6_ b7_ b8_ b9_ b10_ b11_
theorem made_Dice_Record_p1_ok' (hΓ : ΓOk Try.prog (made_Dice_Record_X c_made_Dice_Next c_made_Dice_One).Γ) (i : Nat) : PieceOk Try.prog 177 1 made_Dice_Record_p1_code made_Dice_Record_p1_v made_Dice_Record_p1_o (made_Dice_Record_p1_G (made_Dice_Record_p1_l c_made_Dice_One i)) := by
  rw [show made_Dice_Record_p1_code = .loop (loopBody made_Dice_Record_p1_code) by kernel_rfl]
  exact piece_loop (X := (made_Dice_Record_X c_made_Dice_Next c_made_Dice_One)) (p := 1) (Λ := pick1 []) (G := fun i => @fun β d ks => made_Dice_Record_p1_G (made_Dice_Record_p1_l c_made_Dice_One i) d ks) mixed tab_ok hΓ rfl (by kernel_rfl) CutsOk_nil (fun _ _ => rfl) (fun i => @fun β d ks r h => Eq.trans (b := made_Dice_Record_p1_G (made_Dice_Record_p1_l c_made_Dice_One (i + 1)) d ks) (by kernel_rfl) h) i
def made_Dice_Record_p2_s {β : Type} (rec : Int → Int → (List Int) → Int → (List Int) → (List (List UInt8 × Int)) → (List (Int × (Int × (Int × Int)))) → (List api_Event) → (List (Int × (Int × Int))) → (List (List UInt8 × Int)) → (List (Int × (Int × (Int × Int)))) → (List api_Event) → (List (Int × (Int × Int))) → Option β) (k1 : made_Dice_Record_p2_K1 β) (n : Int) (i_ : Int) (d : List Int) (d2 : Int) (ahead : List Int) (b4_ : List (List UInt8 × Int)) (b5_ : List (Int × (Int × (Int × Int)))) (b6_ : List api_Event) (b7_ : List (Int × (Int × Int))) (b8_ : List (List UInt8 × Int)) (b9_ : List (Int × (Int × (Int × Int)))) (b10_ : List api_Event) (b11_ : List (Int × (Int × Int))) : Option β :=
  cond (decide ((0 : Int) < i_))
  (c_made_Dice_Next (List.length b8_ : Int) (d, d2) (fun (rNext : Int) (mrNext : (List Int × Int)) =>
  c_made_Dice_Next (400 : Int) mrNext (fun (rNext2 : Int) (mrNext2 : (List Int × Int)) =>
  let t : Int := (IntKind.i64.wrap ((864000 : Int) + rNext2));
  cond (decide (0 ≤ rNext) && decide (rNext < (List.length ahead : Int)))
  (let l : List Int := ([(0 : Int), (3 : Int), (20 : Int)] : List Int);
  c_made_Dice_One l mrNext2 (fun (rOne : Int) (mrOne : (List Int × Int)) =>
  let l2 : List Int := ([(0 : Int), (2 : Int), (15 : Int)] : List Int);
  c_made_Dice_One l2 mrOne (fun (rOne2 : Int) (mrOne2 : (List Int × Int)) =>
  let l3 : List (Int × (Int × (Int × Int))) := ([(rNext, ((IntKind.i64.wrap (t + (List.getD ahead (Int.toNat rNext) (0 : Int)))), ((IntKind.i64.wrap (t - rOne)), (IntKind.i64.wrap (t + rOne2)))))] : List (Int × (Int × (Int × Int))));
  cond (decide ((List.length b9_ + List.length l3) * 32 ≤ roomMax))
  (let l4 : List (Int × (Int × (Int × Int))) := (b9_ ++ l3);
  let i_2 : Int := (IntKind.i64.wrap (i_ - (1 : Int)));
  rec n i_2 mrOne2.1 mrOne2.2 ahead b4_ b5_ b6_ b7_ b8_ l4 b10_ b11_)
  none)))
  none)))
  (k1 n d d2 ahead b4_ b5_ b6_ b7_ b8_ b9_ b10_ b11_)
def made_Dice_Record_p2_l {β : Type} : Nat → made_Dice_Record_p2_K1 β → Int → Int → (List Int) → Int → (List Int) → (List (List UInt8 × Int)) → (List (Int × (Int × (Int × Int)))) → (List api_Event) → (List (Int × (Int × Int))) → (List (List UInt8 × Int)) → (List (Int × (Int × (Int × Int)))) → (List api_Event) → (List (Int × (Int × Int))) → Option β
  | 0 => fun _ _ _ _ _ _ _ _ _ _ _ _ _ _ => none
  | i + 1 => fun k1 n i_ d d2 ahead b4_ b5_ b6_ b7_ b8_ b9_ b10_ b11_ => made_Dice_Record_p2_s c_made_Dice_Next c_made_Dice_One (made_Dice_Record_p2_l i k1) k1 n i_ d d2 ahead b4_ b5_ b6_ b7_ b8_ b9_ b10_ b11_
theorem made_Dice_Record_p2_ok' (hΓ : ΓOk Try.prog (made_Dice_Record_X c_made_Dice_Next c_made_Dice_One).Γ) (i : Nat) : PieceOk Try.prog 177 1 made_Dice_Record_p2_code made_Dice_Record_p2_v made_Dice_Record_p2_o (made_Dice_Record_p2_G (made_Dice_Record_p2_l c_made_Dice_Next c_made_Dice_One i)) := by
  rw [show made_Dice_Record_p2_code = .loop (loopBody made_Dice_Record_p2_code) by kernel_rfl]
  exact piece_loop (X := (made_Dice_Record_X c_made_Dice_Next c_made_Dice_One)) (p := 1) (Λ := pick1 []) (G := fun i => @fun β d ks => made_Dice_Record_p2_G (made_Dice_Record_p2_l c_made_Dice_Next c_made_Dice_One i) d ks) mixed tab_ok hΓ rfl (by kernel_rfl) CutsOk_nil (fun _ _ => rfl) (fun i => @fun β d ks r h => Eq.trans (b := made_Dice_Record_p2_G (made_Dice_Record_p2_l c_made_Dice_Next c_made_Dice_One (i + 1)) d ks) (by kernel_rfl) h) i
def made_Dice_Record_p3_s {β : Type} (rec : Int → (List Int) → Int → (List Int) → (List Int) → (List (List UInt8 × Int)) → (List (Int × (Int × (Int × Int)))) → (List api_Event) → (List (Int × (Int × Int))) → (List (List UInt8 × Int)) → (List (Int × (Int × (Int × Int)))) → (List api_Event) → (List (Int × (Int × Int))) → Option β) (k1 : made_Dice_Record_p3_K1 β) (i_ : Int) (d : List Int) (d2 : Int) (ahead : List Int) (times : List Int) (b5_ : List (List UInt8 × Int)) (b6_ : List (Int × (Int × (Int × Int)))) (b7_ : List api_Event) (b8_ : List (Int × (Int × Int))) (b9_ : List (List UInt8 × Int)) (b10_ : List (Int × (Int × (Int × Int)))) (b11_ : List api_Event) (b12_ : List (Int × (Int × Int))) : Option β :=
  cond (decide ((0 : Int) < i_))
  (c_made_Dice_Next (List.length b9_ : Int) (d, d2) (fun (rNext : Int) (mrNext : (List Int × Int)) =>
  c_made_Dice_Next (300 : Int) mrNext (fun (rNext2 : Int) (mrNext2 : (List Int × Int)) =>
  let t : Int := (IntKind.i64.wrap ((864000 : Int) + rNext2));
  cond (decide (0 ≤ rNext) && decide (rNext < (List.length ahead : Int)))
  (let l : List (List UInt8) := ([([117, 112] : List UInt8), ([100, 111, 119, 110] : List UInt8), ([115, 108, 111, 119] : List UInt8)] : List (List UInt8));
  c_made_Dice_Next (3 : Int) mrNext2 (fun (rNext3 : Int) (mrNext3 : (List Int × Int)) =>
  cond (decide (0 ≤ rNext3) && decide (rNext3 < (List.length l : Int)))
  (let l2 : List api_Event := ([(rNext, ((IntKind.i64.wrap (t + (List.getD ahead (Int.toNat rNext) (0 : Int)))), (List.getD l (Int.toNat rNext3) ([] : List UInt8))))] : List api_Event);
  cond (decide ((List.length b11_ + List.length l2) * 32 ≤ roomMax))
  (let l3 : List api_Event := (b11_ ++ l2);
  let l4 : List Int := ([t] : List Int);
  cond (decide ((List.length times + List.length l4) * 8 ≤ roomMax))
  (let l5 : List Int := (times ++ l4);
  let i_2 : Int := (IntKind.i64.wrap (i_ - (1 : Int)));
  rec i_2 mrNext3.1 mrNext3.2 ahead l5 b5_ b6_ b7_ b8_ b9_ b10_ l3 b12_)
  none)
  none)
  none))
  none)))
  (k1 d d2 times b5_ b6_ b7_ b8_ b9_ b10_ b11_ b12_)
def made_Dice_Record_p3_l {β : Type} : Nat → made_Dice_Record_p3_K1 β → Int → (List Int) → Int → (List Int) → (List Int) → (List (List UInt8 × Int)) → (List (Int × (Int × (Int × Int)))) → (List api_Event) → (List (Int × (Int × Int))) → (List (List UInt8 × Int)) → (List (Int × (Int × (Int × Int)))) → (List api_Event) → (List (Int × (Int × Int))) → Option β
  | 0 => fun _ _ _ _ _ _ _ _ _ _ _ _ _ _ => none
  | i + 1 => fun k1 i_ d d2 ahead times b5_ b6_ b7_ b8_ b9_ b10_ b11_ b12_ => made_Dice_Record_p3_s c_made_Dice_Next (made_Dice_Record_p3_l i k1) k1 i_ d d2 ahead times b5_ b6_ b7_ b8_ b9_ b10_ b11_ b12_
theorem made_Dice_Record_p3_ok' (hΓ : ΓOk Try.prog (made_Dice_Record_X c_made_Dice_Next c_made_Dice_One).Γ) (i : Nat) : PieceOk Try.prog 177 1 made_Dice_Record_p3_code made_Dice_Record_p3_v made_Dice_Record_p3_o (made_Dice_Record_p3_G (made_Dice_Record_p3_l c_made_Dice_Next i)) := by
  rw [show made_Dice_Record_p3_code = .loop (loopBody made_Dice_Record_p3_code) by kernel_rfl]
  exact piece_loop (X := (made_Dice_Record_X c_made_Dice_Next c_made_Dice_One)) (p := 1) (Λ := pick1 []) (G := fun i => @fun β d ks => made_Dice_Record_p3_G (made_Dice_Record_p3_l c_made_Dice_Next i) d ks) mixed tab_ok hΓ rfl (by kernel_rfl) CutsOk_nil (fun _ _ => rfl) (fun i => @fun β d ks r h => Eq.trans (b := made_Dice_Record_p3_G (made_Dice_Record_p3_l c_made_Dice_Next (i + 1)) d ks) (by kernel_rfl) h) i
def made_Dice_Record_p4_s {β : Type} (k1 : made_Dice_Record_p4_K1 β) (i_ : Int) (a : Int) (b : Int) (t154 : Bool) (d : List Int) (d2 : Int) (times : List Int) (b4_ : List (List UInt8 × Int)) (b5_ : List (Int × (Int × (Int × Int)))) (b6_ : List api_Event) (b7_ : List (Int × (Int × Int))) (b8_ : List (List UInt8 × Int)) (b9_ : List (Int × (Int × (Int × Int)))) (b10_ : List api_Event) (b11_ : List (Int × (Int × Int))) : Option β :=
  cond t154
  (cond (decide (0 ≤ b) && decide (b < (List.length times : Int)))
  (cond (decide (0 ≤ a) && decide (a < (List.length times : Int)))
  (c_made_Dice_Next (IntKind.i64.wrap ((IntKind.i64.wrap ((List.getD times (Int.toNat b) (0 : Int)) - (List.getD times (Int.toNat a) (0 : Int)))) + (1 : Int))) (d, d2) (fun (rNext : Int) (mrNext : (List Int × Int)) =>
  let l : List (Int × (Int × Int)) := ([(a, (b, rNext))] : List (Int × (Int × Int)));
  cond (decide ((List.length b11_ + List.length l) * 24 ≤ roomMax))
  (let l2 : List (Int × (Int × Int)) := (b11_ ++ l);
  k1 i_ mrNext.1 mrNext.2 times b4_ b5_ b6_ b7_ b8_ b9_ b10_ l2)
  none))
  none)
  none)
  (k1 i_ d d2 times b4_ b5_ b6_ b7_ b8_ b9_ b10_ b11_)
def made_Dice_Record_p4_u {β : Type} (k1 : made_Dice_Record_p4_K1 β) (i_ : Int) (a : Int) (b : Int) (t154 : Bool) (d : List Int) (d2 : Int) (times : List Int) (b4_ : List (List UInt8 × Int)) (b5_ : List (Int × (Int × (Int × Int)))) (b6_ : List api_Event) (b7_ : List (Int × (Int × Int))) (b8_ : List (List UInt8 × Int)) (b9_ : List (Int × (Int × (Int × Int)))) (b10_ : List api_Event) (b11_ : List (Int × (Int × Int))) : Option β := made_Dice_Record_p4_s c_made_Dice_Next k1 i_ a b t154 d d2 times b4_ b5_ b6_ b7_ b8_ b9_ b10_ b11_
theorem made_Dice_Record_p4_ok' (hΓ : ΓOk Try.prog (made_Dice_Record_X c_made_Dice_Next c_made_Dice_One).Γ) : PieceOk Try.prog 177 1 made_Dice_Record_p4_code made_Dice_Record_p4_v made_Dice_Record_p4_o (made_Dice_Record_p4_G (made_Dice_Record_p4_u c_made_Dice_Next)) :=
  piece_exec (X := (made_Dice_Record_X c_made_Dice_Next c_made_Dice_One)) (p := 51) (Λ := pick1 []) mixed tab_ok hΓ (by kernel_rfl) CutsOk_nil (fun d ks r h => Eq.trans (b := made_Dice_Record_p4_G (made_Dice_Record_p4_u c_made_Dice_Next) d ks) (by kernel_rfl) h)
def made_Dice_Record_p5_s (p4 : made_Dice_Record_p4_T) {β : Type} (rec : Int → (List Int) → Int → (List Int) → (List (List UInt8 × Int)) → (List (Int × (Int × (Int × Int)))) → (List api_Event) → (List (Int × (Int × Int))) → (List (List UInt8 × Int)) → (List (Int × (Int × (Int × Int)))) → (List api_Event) → (List (Int × (Int × Int))) → Option β) (k1 : made_Dice_Record_p5_K1 β) (i_ : Int) (d : List Int) (d2 : Int) (times : List Int) (b4_ : List (List UInt8 × Int)) (b5_ : List (Int × (Int × (Int × Int)))) (b6_ : List api_Event) (b7_ : List (Int × (Int × Int))) (b8_ : List (List UInt8 × Int)) (b9_ : List (Int × (Int × (Int × Int)))) (b10_ : List api_Event) (b11_ : List (Int × (Int × Int))) : Option β :=
  cond (decide ((0 : Int) < i_))
  (cond (decide ((1 : Int) < (List.length times : Int)))
  (c_made_Dice_Next (List.length times : Int) (d, d2) (fun (rNext : Int) (mrNext : (List Int × Int)) =>
  c_made_Dice_Next (List.length times : Int) mrNext (fun (rNext2 : Int) (mrNext2 : (List Int × Int)) =>
  cond (!decide (rNext = rNext2))
  (cond (decide (0 ≤ rNext) && decide (rNext < (List.length times : Int)))
  (cond (decide (0 ≤ rNext2) && decide (rNext2 < (List.length times : Int)))
  (p4 (fun (i_2 : Int) (d3 : List Int) (d4 : Int) (times2 : List Int) (b4_2 : List (List UInt8 × Int)) (b5_2 : List (Int × (Int × (Int × Int)))) (b6_2 : List api_Event) (b7_2 : List (Int × (Int × Int))) (b8_2 : List (List UInt8 × Int)) (b9_2 : List (Int × (Int × (Int × Int)))) (b10_2 : List api_Event) (b11_2 : List (Int × (Int × Int))) =>
  let i_3 : Int := (IntKind.i64.wrap (i_2 - (1 : Int)));
  rec i_3 d3 d4 times2 b4_2 b5_2 b6_2 b7_2 b8_2 b9_2 b10_2 b11_2) i_ rNext rNext2 (decide ((List.getD times (Int.toNat rNext) (0 : Int)) ≤ (List.getD times (Int.toNat rNext2) (0 : Int)))) mrNext2.1 mrNext2.2 times b4_ b5_ b6_ b7_ b8_ b9_ b10_ b11_)
  none)
  none)
  (p4 (fun (i_2 : Int) (d3 : List Int) (d4 : Int) (times2 : List Int) (b4_2 : List (List UInt8 × Int)) (b5_2 : List (Int × (Int × (Int × Int)))) (b6_2 : List api_Event) (b7_2 : List (Int × (Int × Int))) (b8_2 : List (List UInt8 × Int)) (b9_2 : List (Int × (Int × (Int × Int)))) (b10_2 : List api_Event) (b11_2 : List (Int × (Int × Int))) =>
  let i_3 : Int := (IntKind.i64.wrap (i_2 - (1 : Int)));
  rec i_3 d3 d4 times2 b4_2 b5_2 b6_2 b7_2 b8_2 b9_2 b10_2 b11_2) i_ rNext rNext2 false mrNext2.1 mrNext2.2 times b4_ b5_ b6_ b7_ b8_ b9_ b10_ b11_))))
  (k1 d d2 times b4_ b5_ b6_ b7_ b8_ b9_ b10_ b11_))
  (k1 d d2 times b4_ b5_ b6_ b7_ b8_ b9_ b10_ b11_)
def made_Dice_Record_p5_l (p4 : made_Dice_Record_p4_T) {β : Type} : Nat → made_Dice_Record_p5_K1 β → Int → (List Int) → Int → (List Int) → (List (List UInt8 × Int)) → (List (Int × (Int × (Int × Int)))) → (List api_Event) → (List (Int × (Int × Int))) → (List (List UInt8 × Int)) → (List (Int × (Int × (Int × Int)))) → (List api_Event) → (List (Int × (Int × Int))) → Option β
  | 0 => fun _ _ _ _ _ _ _ _ _ _ _ _ _ => none
  | i + 1 => fun k1 i_ d d2 times b4_ b5_ b6_ b7_ b8_ b9_ b10_ b11_ => made_Dice_Record_p5_s c_made_Dice_Next p4 (made_Dice_Record_p5_l p4 i k1) k1 i_ d d2 times b4_ b5_ b6_ b7_ b8_ b9_ b10_ b11_
theorem made_Dice_Record_p5_ok' (hΓ : ΓOk Try.prog (made_Dice_Record_X c_made_Dice_Next c_made_Dice_One).Γ) (p4 : made_Dice_Record_p4_T) (hp4 : PieceOk Try.prog 177 1 made_Dice_Record_p4_code made_Dice_Record_p4_v made_Dice_Record_p4_o (made_Dice_Record_p4_G p4)) (i : Nat) : PieceOk Try.prog 177 1 made_Dice_Record_p5_code made_Dice_Record_p5_v made_Dice_Record_p5_o (made_Dice_Record_p5_G (made_Dice_Record_p5_l c_made_Dice_Next p4 i)) := by
  rw [show made_Dice_Record_p5_code = .loop (loopBody made_Dice_Record_p5_code) by kernel_rfl]
  exact piece_loop (X := (made_Dice_Record_X c_made_Dice_Next c_made_Dice_One)) (p := 1) (Λ := pick1 [(51, pieceCut made_Dice_Record_p4_v made_Dice_Record_p4_o (made_Dice_Record_p4_G p4))]) (G := fun i => @fun β d ks => made_Dice_Record_p5_G (made_Dice_Record_p5_l c_made_Dice_Next p4 i) d ks) mixed tab_ok hΓ rfl (by kernel_rfl) (CutsOk_cons (q := 51) (c' := made_Dice_Record_p4_code) (by kernel_rfl) rfl hp4 CutsOk_nil) (fun _ _ => rfl) (fun i => @fun β d ks r h => Eq.trans (b := made_Dice_Record_p5_G (made_Dice_Record_p5_l c_made_Dice_Next p4 (i + 1)) d ks) (by kernel_rfl) h) i
def made_Dice_Record_s (p1 : made_Dice_Record_p1_T) (p2 : made_Dice_Record_p2_T) (p3 : made_Dice_Record_p3_T) (p5 : made_Dice_Record_p5_T) {β : Type} (n : Int) (d : (List Int × Int)) (k : (api_Record → (List Int × Int) → (List Int) → Option β)) : Option β :=
  c_made_Dice_Next (3 : Int) d (fun (rNext : Int) (mrNext : (List Int × Int)) =>
  let i_ : Int := (IntKind.i64.wrap ((1 : Int) + rNext));
  p1 (fun (n2 : Int) (d2 : List Int) (d3 : Int) (ahead : List Int) (b4_ : List (List UInt8 × Int)) (b5_ : List (Int × (Int × (Int × Int)))) (b6_ : List api_Event) (b7_ : List (Int × (Int × Int))) (b8_ : List (List UInt8 × Int)) (b9_ : List (Int × (Int × (Int × Int)))) (b10_ : List api_Event) (b11_ : List (Int × (Int × Int))) =>
  c_made_Dice_Next (5 : Int) (d2, d3) (fun (rNext2 : Int) (mrNext2 : (List Int × Int)) =>
  p2 (fun (n3 : Int) (d4 : List Int) (d5 : Int) (ahead2 : List Int) (b4_2 : List (List UInt8 × Int)) (b5_2 : List (Int × (Int × (Int × Int)))) (b6_2 : List api_Event) (b7_2 : List (Int × (Int × Int))) (b8_2 : List (List UInt8 × Int)) (b9_2 : List (Int × (Int × (Int × Int)))) (b10_2 : List api_Event) (b11_2 : List (Int × (Int × Int))) =>
  c_made_Dice_Next (IntKind.i64.wrap (n3 + (1 : Int))) (d4, d5) (fun (rNext3 : Int) (mrNext3 : (List Int × Int)) =>
  p3 (fun (d6 : List Int) (d7 : Int) (times : List Int) (b4_3 : List (List UInt8 × Int)) (b5_3 : List (Int × (Int × (Int × Int)))) (b6_3 : List api_Event) (b7_3 : List (Int × (Int × Int))) (b8_3 : List (List UInt8 × Int)) (b9_3 : List (Int × (Int × (Int × Int)))) (b10_3 : List api_Event) (b11_3 : List (Int × (Int × Int))) =>
  c_made_Dice_Next (4 : Int) (d6, d7) (fun (rNext4 : Int) (mrNext4 : (List Int × Int)) =>
  p5 (fun (b0_ : List Int) (b0_2 : Int) (times2 : List Int) (b4_4 : List (List UInt8 × Int)) (b5_4 : List (Int × (Int × (Int × Int)))) (b6_4 : List api_Event) (b7_4 : List (Int × (Int × Int))) (b8_4 : List (List UInt8 × Int)) (b9_4 : List (Int × (Int × (Int × Int)))) (b10_4 : List api_Event) (b11_4 : List (Int × (Int × Int))) =>
  k (b8_4, (b9_4, (b10_4, b11_4))) (b0_, b0_2) times2) rNext4 mrNext4.1 mrNext4.2 times b4_3 b5_3 b6_3 b7_3 b8_3 b9_3 b10_3 b11_3)) rNext3 mrNext3.1 mrNext3.2 ahead2 ([] : List Int) b4_2 b5_2 b6_2 b7_2 b8_2 b9_2 b10_2 b11_2)) n2 rNext2 mrNext2.1 mrNext2.2 ahead b4_ b5_ b6_ b7_ b8_ b9_ b10_ b11_)) n i_ mrNext.1 mrNext.2 ([] : List Int) ([] : List (List UInt8 × Int)) ([] : List (Int × (Int × (Int × Int)))) ([] : List api_Event) ([] : List (Int × (Int × Int))) ([] : List (List UInt8 × Int)) ([] : List (Int × (Int × (Int × Int)))) ([] : List api_Event) ([] : List (Int × (Int × Int))))
theorem made_Dice_Record_ok' (hΓ : ΓOk Try.prog (made_Dice_Record_X c_made_Dice_Next c_made_Dice_One).Γ) (p1 : made_Dice_Record_p1_T) (p2 : made_Dice_Record_p2_T) (p3 : made_Dice_Record_p3_T) (p5 : made_Dice_Record_p5_T) (hp1 : PieceOk Try.prog 177 1 made_Dice_Record_p1_code made_Dice_Record_p1_v made_Dice_Record_p1_o (made_Dice_Record_p1_G p1)) (hp2 : PieceOk Try.prog 177 1 made_Dice_Record_p2_code made_Dice_Record_p2_v made_Dice_Record_p2_o (made_Dice_Record_p2_G p2)) (hp3 : PieceOk Try.prog 177 1 made_Dice_Record_p3_code made_Dice_Record_p3_v made_Dice_Record_p3_o (made_Dice_Record_p3_G p3)) (hp5 : PieceOk Try.prog 177 1 made_Dice_Record_p5_code made_Dice_Record_p5_v made_Dice_Record_p5_o (made_Dice_Record_p5_G p5)) : SpecOk Try.prog 25 (made_Dice_Record_S (made_Dice_Record_s c_made_Dice_Next p1 p2 p3 p5)) :=
  spec_exec (X := (made_Dice_Record_X c_made_Dice_Next c_made_Dice_One)) (Λ := pick1 [(122, pieceCut made_Dice_Record_p1_v made_Dice_Record_p1_o (made_Dice_Record_p1_G p1)), (250, pieceCut made_Dice_Record_p2_v made_Dice_Record_p2_o (made_Dice_Record_p2_G p2)), (1018, pieceCut made_Dice_Record_p3_v made_Dice_Record_p3_o (made_Dice_Record_p3_G p3)), (2042, pieceCut made_Dice_Record_p5_v made_Dice_Record_p5_o (made_Dice_Record_p5_G p5))]) (rs := [.cell 4 41, .tmp 5]) (c := bodyOf Try.f25) mixed tab_ok hΓ Try.func25 (by kernel_rfl) (by kernel_rfl) (by kernel_rfl) (by kernel_rfl) (CutsOk_cons (q := 122) (c' := made_Dice_Record_p1_code) (by kernel_rfl) rfl hp1 (CutsOk_cons (q := 250) (c' := made_Dice_Record_p2_code) (by kernel_rfl) rfl hp2 (CutsOk_cons (q := 1018) (c' := made_Dice_Record_p3_code) (by kernel_rfl) rfl hp3 (CutsOk_cons (q := 2042) (c' := made_Dice_Record_p5_code) (by kernel_rfl) rfl hp5 CutsOk_nil)))) (fun x k r h => Eq.trans (b := (made_Dice_Record_S (made_Dice_Record_s c_made_Dice_Next p1 p2 p3 p5)).run x k) (by kernel_rfl) h)
end
theorem made_Dice_Record_Γ : ΓOk Try.prog (pick1 [(20, .spec (made_Dice_Next_S made_Dice_Next)), (19, .spec (made_Dice_One_S made_Dice_One))]) := (ΓOk_cons made_Dice_Next_ok (ΓOk_cons made_Dice_One_ok ΓOk_nil))
def made_Dice_Record_p1_n (m : Nat) : made_Dice_Record_p1_T := made_Dice_Record_p1_l made_Dice_One m
theorem made_Dice_Record_p1_step {β : Type} (i : Nat) (k1 n i_ d d2 ahead b4_ b5_ b6_ b7_ b8_ b9_ b10_ b11_) : (made_Dice_Record_p1_n (i + 1) k1 n i_ d d2 ahead b4_ b5_ b6_ b7_ b8_ b9_ b10_ b11_ : Option β) = made_Dice_Record_p1_s made_Dice_One (made_Dice_Record_p1_n i k1) k1 n i_ d d2 ahead b4_ b5_ b6_ b7_ b8_ b9_ b10_ b11_ := rfl
def made_Dice_Record_p1 : made_Dice_Record_p1_T := made_Dice_Record_p1_n fuel
theorem made_Dice_Record_p1_ok : PieceOk Try.prog 177 1 made_Dice_Record_p1_code made_Dice_Record_p1_v made_Dice_Record_p1_o (made_Dice_Record_p1_G made_Dice_Record_p1) := made_Dice_Record_p1_ok' made_Dice_Next made_Dice_One made_Dice_Record_Γ fuel
def made_Dice_Record_p2_n (m : Nat) : made_Dice_Record_p2_T := made_Dice_Record_p2_l made_Dice_Next made_Dice_One m
theorem made_Dice_Record_p2_step {β : Type} (i : Nat) (k1 n i_ d d2 ahead b4_ b5_ b6_ b7_ b8_ b9_ b10_ b11_) : (made_Dice_Record_p2_n (i + 1) k1 n i_ d d2 ahead b4_ b5_ b6_ b7_ b8_ b9_ b10_ b11_ : Option β) = made_Dice_Record_p2_s made_Dice_Next made_Dice_One (made_Dice_Record_p2_n i k1) k1 n i_ d d2 ahead b4_ b5_ b6_ b7_ b8_ b9_ b10_ b11_ := rfl
def made_Dice_Record_p2 : made_Dice_Record_p2_T := made_Dice_Record_p2_n fuel
theorem made_Dice_Record_p2_ok : PieceOk Try.prog 177 1 made_Dice_Record_p2_code made_Dice_Record_p2_v made_Dice_Record_p2_o (made_Dice_Record_p2_G made_Dice_Record_p2) := made_Dice_Record_p2_ok' made_Dice_Next made_Dice_One made_Dice_Record_Γ fuel
def made_Dice_Record_p3_n (m : Nat) : made_Dice_Record_p3_T := made_Dice_Record_p3_l made_Dice_Next m
theorem made_Dice_Record_p3_step {β : Type} (i : Nat) (k1 i_ d d2 ahead times b5_ b6_ b7_ b8_ b9_ b10_ b11_ b12_) : (made_Dice_Record_p3_n (i + 1) k1 i_ d d2 ahead times b5_ b6_ b7_ b8_ b9_ b10_ b11_ b12_ : Option β) = made_Dice_Record_p3_s made_Dice_Next (made_Dice_Record_p3_n i k1) k1 i_ d d2 ahead times b5_ b6_ b7_ b8_ b9_ b10_ b11_ b12_ := rfl
def made_Dice_Record_p3 : made_Dice_Record_p3_T := made_Dice_Record_p3_n fuel
theorem made_Dice_Record_p3_ok : PieceOk Try.prog 177 1 made_Dice_Record_p3_code made_Dice_Record_p3_v made_Dice_Record_p3_o (made_Dice_Record_p3_G made_Dice_Record_p3) := made_Dice_Record_p3_ok' made_Dice_Next made_Dice_One made_Dice_Record_Γ fuel
def made_Dice_Record_p4 : made_Dice_Record_p4_T := made_Dice_Record_p4_u made_Dice_Next
theorem made_Dice_Record_p4_ok : PieceOk Try.prog 177 1 made_Dice_Record_p4_code made_Dice_Record_p4_v made_Dice_Record_p4_o (made_Dice_Record_p4_G made_Dice_Record_p4) := made_Dice_Record_p4_ok' made_Dice_Next made_Dice_One made_Dice_Record_Γ
def made_Dice_Record_p5_n (m : Nat) : made_Dice_Record_p5_T := made_Dice_Record_p5_l made_Dice_Next made_Dice_Record_p4 m
theorem made_Dice_Record_p5_step {β : Type} (i : Nat) (k1 i_ d d2 times b4_ b5_ b6_ b7_ b8_ b9_ b10_ b11_) : (made_Dice_Record_p5_n (i + 1) k1 i_ d d2 times b4_ b5_ b6_ b7_ b8_ b9_ b10_ b11_ : Option β) = made_Dice_Record_p5_s made_Dice_Next made_Dice_Record_p4 (made_Dice_Record_p5_n i k1) k1 i_ d d2 times b4_ b5_ b6_ b7_ b8_ b9_ b10_ b11_ := rfl
def made_Dice_Record_p5 : made_Dice_Record_p5_T := made_Dice_Record_p5_n fuel
theorem made_Dice_Record_p5_ok : PieceOk Try.prog 177 1 made_Dice_Record_p5_code made_Dice_Record_p5_v made_Dice_Record_p5_o (made_Dice_Record_p5_G made_Dice_Record_p5) := made_Dice_Record_p5_ok' made_Dice_Next made_Dice_One made_Dice_Record_Γ made_Dice_Record_p4 made_Dice_Record_p4_ok fuel
def made_Dice_Record : T_made_Dice_Record := made_Dice_Record_s made_Dice_Next made_Dice_Record_p1 made_Dice_Record_p2 made_Dice_Record_p3 made_Dice_Record_p5
theorem made_Dice_Record_ok : SpecOk Try.prog 25 (made_Dice_Record_S made_Dice_Record) := made_Dice_Record_ok' made_Dice_Next made_Dice_One made_Dice_Record_Γ made_Dice_Record_p1 made_Dice_Record_p2 made_Dice_Record_p3 made_Dice_Record_p5 made_Dice_Record_p1_ok made_Dice_Record_p2_ok made_Dice_Record_p3_ok made_Dice_Record_p5_ok

/-- pagewatch/clock.From -/
abbrev T_clock_From := {β : Type} → (List UInt8 × Int) → (Int × (Int × (Int × Int))) → Int → ((Int × Int) → Option β) → Option β
def clock_From_S (c : T_clock_From) : Spec :=
  ⟨[(true, [.data (.prod .str (.int .i64))]), (true, [.data (.prod (.int .i64) (.prod (.int .i64) (.prod (.int .i64) (.int .i64))))]), (false, [.data (.int .i64)])], [], [(true, [.data (.prod (.int .i64) (.int .i64))])], [], fun x k => c x.1.1.1 x.1.2.1.1 x.1.2.2.1.1 (fun r0 => k (((r0, ()), ()), ()))⟩
section
variable (c_clock_Elapsed : T_clock_Elapsed) (c_clock_compared : T_clock_compared) (c_clock_in : T_clock_in) (c_clock_instant : T_clock_instant)
@[reducible] def clock_From_X : Ctx := ⟨look tab, pick1 [(15, .spec (clock_Elapsed_S c_clock_Elapsed)), (53, .spec (clock_compared_S c_clock_compared)), (50, .spec (clock_in_S c_clock_in)), (51, .spec (clock_instant_S c_clock_instant))], false⟩
def clock_From_s {β : Type} (h : (List UInt8 × Int)) (s : (Int × (Int × (Int × Int)))) (clock : Int) (k : ((Int × Int) → Option β)) : Option β :=
  c_clock_in h.2 (0 : Int) (500000 : Int) (fun (rin : Bool) =>
  cond (!rin)
  (k ((-1099511627776 : Int), (1099511627776 : Int)))
  (c_clock_compared s (fun (rcompared : Bool) =>
  cond (!rcompared)
  (k ((-1099511627776 : Int), (1099511627776 : Int)))
  (c_clock_instant clock (fun (rinstant : Bool) =>
  cond (!rinstant)
  (k ((-1099511627776 : Int), (1099511627776 : Int)))
  (cond (decide (s.2.1 ≤ clock))
  (c_clock_Elapsed h.2 (IntKind.i64.wrap (clock - s.2.1)) (fun (rElapsed : Int) (rElapsed2 : Int) =>
  k ((IntKind.i64.wrap (s.2.2.1 + rElapsed)), (IntKind.i64.wrap (s.2.2.2 + rElapsed2)))))
  (c_clock_Elapsed h.2 (IntKind.i64.wrap (s.2.1 - clock)) (fun (rElapsed : Int) (rElapsed2 : Int) =>
  k ((IntKind.i64.wrap (s.2.2.1 - rElapsed2)), (IntKind.i64.wrap (s.2.2.2 - rElapsed)))))))))))
theorem clock_From_ok' (hΓ : ΓOk Try.prog (clock_From_X c_clock_Elapsed c_clock_compared c_clock_in c_clock_instant).Γ) : SpecOk Try.prog 26 (clock_From_S (clock_From_s c_clock_Elapsed c_clock_compared c_clock_in c_clock_instant)) :=
  spec_exec (X := (clock_From_X c_clock_Elapsed c_clock_compared c_clock_in c_clock_instant)) (Λ := pick1 []) (rs := [.cell 6 45]) (c := bodyOf Try.f26) mixed tab_ok hΓ Try.func26 (by kernel_rfl) (by kernel_rfl) (by kernel_rfl) (by kernel_rfl) CutsOk_nil (fun x k r h => Eq.trans (b := (clock_From_S (clock_From_s c_clock_Elapsed c_clock_compared c_clock_in c_clock_instant)).run x k) (by kernel_rfl) h)
end
theorem clock_From_Γ : ΓOk Try.prog (pick1 [(15, .spec (clock_Elapsed_S clock_Elapsed)), (53, .spec (clock_compared_S clock_compared)), (50, .spec (clock_in_S clock_in)), (51, .spec (clock_instant_S clock_instant))]) := (ΓOk_cons clock_Elapsed_ok (ΓOk_cons clock_compared_ok (ΓOk_cons clock_in_ok (ΓOk_cons clock_instant_ok ΓOk_nil))))
def clock_From : T_clock_From := clock_From_s clock_Elapsed clock_compared clock_in clock_instant
theorem clock_From_ok : SpecOk Try.prog 26 (clock_From_S clock_From) := clock_From_ok' clock_Elapsed clock_compared clock_in clock_instant clock_From_Γ

/-- pagewatch/clock.Shift -/
abbrev T_clock_Shift := {β : Type} → (Int × Int) → Int → ((Int × Int) → Option β) → Option β
def clock_Shift_S (c : T_clock_Shift) : Spec :=
  ⟨[(true, [.data (.prod (.int .i64) (.int .i64))]), (false, [.data (.int .i64)])], [], [(true, [.data (.prod (.int .i64) (.int .i64))])], [], fun x k => c x.1.1.1 x.1.2.1.1 (fun r0 => k (((r0, ()), ()), ()))⟩
section
variable (c_clock_bound : T_clock_bound) (c_clock_moved : T_clock_moved)
@[reducible] def clock_Shift_X : Ctx := ⟨look tab, pick1 [(54, .spec (clock_bound_S c_clock_bound)), (55, .spec (clock_moved_S c_clock_moved))], false⟩
def clock_Shift_s {β : Type} (a : (Int × Int)) (d : Int) (k : ((Int × Int) → Option β)) : Option β :=
  c_clock_bound a.1 (fun (rbound : Bool) =>
  cond (!rbound)
  (k a)
  (c_clock_bound a.2 (fun (rbound2 : Bool) =>
  cond (!rbound2)
  (k a)
  (c_clock_bound d (fun (rbound3 : Bool) =>
  cond (!rbound3)
  (k a)
  (c_clock_moved a.1 d (fun (rmoved : Int) =>
  c_clock_moved a.2 d (fun (rmoved2 : Int) =>
  k (rmoved, rmoved2)))))))))
theorem clock_Shift_ok' (hΓ : ΓOk Try.prog (clock_Shift_X c_clock_bound c_clock_moved).Γ) : SpecOk Try.prog 27 (clock_Shift_S (clock_Shift_s c_clock_bound c_clock_moved)) :=
  spec_exec (X := (clock_Shift_X c_clock_bound c_clock_moved)) (Λ := pick1 []) (rs := [.cell 4 45]) (c := bodyOf Try.f27) mixed tab_ok hΓ Try.func27 (by kernel_rfl) (by kernel_rfl) (by kernel_rfl) (by kernel_rfl) CutsOk_nil (fun x k r h => Eq.trans (b := (clock_Shift_S (clock_Shift_s c_clock_bound c_clock_moved)).run x k) (by kernel_rfl) h)
end
theorem clock_Shift_Γ : ΓOk Try.prog (pick1 [(54, .spec (clock_bound_S clock_bound)), (55, .spec (clock_moved_S clock_moved))]) := (ΓOk_cons clock_bound_ok (ΓOk_cons clock_moved_ok ΓOk_nil))
def clock_Shift : T_clock_Shift := clock_Shift_s clock_bound clock_moved
theorem clock_Shift_ok : SpecOk Try.prog 27 (clock_Shift_S clock_Shift) := clock_Shift_ok' clock_bound clock_moved clock_Shift_Γ

/-- (*pagewatch/pagewatchmade.Dice).OddRecord -/
abbrev T_made_Dice_OddRecord := {β : Type} → api_Record → (List Int × Int) → (api_Record → (List Int × Int) → Option β) → Option β
def made_Dice_OddRecord_S (c : T_made_Dice_OddRecord) : Spec :=
  ⟨[(false, [.ptr 0 0]), (true, [.data y_api_Record])], [.cells 82 [.data (.prod (.slice (.int .i64)) (.int .i64))]], [(true, [.data y_api_Record])], [.cells 82 [.data (.prod (.slice (.int .i64)) (.int .i64))]], fun x k => c x.1.2.1.1 x.2.1.1 (fun r0 r1 => k (((r0, ()), ()), ((r1, ()), ())))⟩
noncomputable def made_Dice_OddRecord_p1_code : Code := codeAt 7551 (bodyOf Try.f28)
abbrev made_Dice_OddRecord_p1_K1 (β : Type) := (List Int) → Int → (List (List UInt8 × Int)) → (List (Int × (Int × (Int × Int)))) → (List api_Event) → (List (Int × (Int × Int))) → (List (List UInt8 × Int)) → (List (Int × (Int × (Int × Int)))) → (List api_Event) → (List (Int × (Int × Int))) → Option β
abbrev made_Dice_OddRecord_p1_T := {β : Type} → made_Dice_OddRecord_p1_K1 β → Bool → (List Int) → Int → (List (List UInt8 × Int)) → (List (Int × (Int × (Int × Int)))) → (List api_Event) → (List (Int × (Int × Int))) → (List (List UInt8 × Int)) → (List (Int × (Int × (Int × Int)))) → (List api_Event) → (List (Int × (Int × Int))) → Option β
def made_Dice_OddRecord_p1_v : View := ⟨1, [0, 4, 5, 64], [(false, [.ptr 0 0]), (false, [.ptr 1 0]), (false, [.ptr 2 0]), (false, [.data .bool])], [.cells 82 [.data (.slice (.int .i64)), .data (.int .i64)], .cells 41 [.rowh 7, .rowh 8, .rowh 9, .rowh 10], .cells 41 [.rowh 3, .rowh 4, .rowh 5, .rowh 6], .row 35 (.prod .str (.int .i64)), .row 43 (.prod (.int .i64) (.prod (.int .i64) (.prod (.int .i64) (.int .i64)))), .row 65 y_api_Event, .row 67 (.prod (.int .i64) (.prod (.int .i64) (.int .i64))), .row 35 (.prod .str (.int .i64)), .row 43 (.prod (.int .i64) (.prod (.int .i64) (.prod (.int .i64) (.int .i64)))), .row 65 y_api_Event, .row 67 (.prod (.int .i64) (.prod (.int .i64) (.int .i64)))]⟩
def made_Dice_OddRecord_p1_o : List (AExit × View) := [(.normal, ⟨1, [4, 5], [(false, [.ptr 1 0]), (false, [.ptr 2 0])], [.cells 82 [.data (.slice (.int .i64)), .data (.int .i64)], .cells 41 [.rowh 3, .rowh 4, .rowh 5, .rowh 6], .cells 41 [.rowh 7, .rowh 8, .rowh 9, .rowh 10], .row 35 (.prod .str (.int .i64)), .row 43 (.prod (.int .i64) (.prod (.int .i64) (.prod (.int .i64) (.int .i64)))), .row 65 y_api_Event, .row 67 (.prod (.int .i64) (.prod (.int .i64) (.int .i64))), .row 35 (.prod .str (.int .i64)), .row 43 (.prod (.int .i64) (.prod (.int .i64) (.prod (.int .i64) (.int .i64)))), .row 65 y_api_Event, .row 67 (.prod (.int .i64) (.prod (.int .i64) (.int .i64)))]⟩)]
@[reducible] def made_Dice_OddRecord_p1_G (p : made_Dice_OddRecord_p1_T) {β : Type} (d : made_Dice_OddRecord_p1_v.den) (ks : Outs.K β made_Dice_OddRecord_p1_o) : Option β :=
  p (fun a0 a1 a2 a3 a4 a5 a6 a7 a8 a9 => ks.1 (((), (), ()), ((a0, a1, ()), (), (), a2, a3, a4, a5, a6, a7, a8, a9, ()))) d.1.2.2.2.1.1 d.2.1.1 d.2.1.2.1 d.2.2.2.2.1 d.2.2.2.2.2.1 d.2.2.2.2.2.2.1 d.2.2.2.2.2.2.2.1 d.2.2.2.2.2.2.2.2.1 d.2.2.2.2.2.2.2.2.2.1 d.2.2.2.2.2.2.2.2.2.2.1 d.2.2.2.2.2.2.2.2.2.2.2.1
section
variable (c_made_Dice_Next : T_made_Dice_Next) (c_made_Dice_One : T_made_Dice_One)
@[reducible] def made_Dice_OddRecord_X : Ctx := ⟨look tab, pick1 [(20, .spec (made_Dice_Next_S c_made_Dice_Next)), (19, .spec (made_Dice_One_S c_made_Dice_One))], false⟩
def made_Dice_OddRecord_p1_s {β : Type} (k1 : made_Dice_OddRecord_p1_K1 β) (t64 : Bool) (d : List Int) (d2 : Int) (b3_ : List (List UInt8 × Int)) (b4_ : List (Int × (Int × (Int × Int)))) (b5_ : List api_Event) (b6_ : List (Int × (Int × Int))) (b7_ : List (List UInt8 × Int)) (b8_ : List (Int × (Int × (Int × Int)))) (b9_ : List api_Event) (b10_ : List (Int × (Int × Int))) : Option β :=
  cond t64
  (c_made_Dice_Next (5 : Int) (d, d2) (fun (rNext : Int) (mrNext : (List Int × Int)) =>
  c_made_Dice_Next (5 : Int) mrNext (fun (rNext2 : Int) (mrNext2 : (List Int × Int)) =>
  let l : List Int := ([(-1 : Int), (0 : Int), (1 : Int), (100 : Int), (400 : Int)] : List Int);
  c_made_Dice_One l mrNext2 (fun (rOne : Int) (mrOne : (List Int × Int)) =>
  let l2 : List (Int × (Int × Int)) := ([((IntKind.i64.wrap (rNext - (1 : Int))), (rNext2, rOne))] : List (Int × (Int × Int)));
  cond (decide ((List.length b6_ + List.length l2) * 24 ≤ roomMax))
  (let l3 : List (Int × (Int × Int)) := (b6_ ++ l2);
  k1 mrOne.1 mrOne.2 b7_ b8_ b9_ b10_ b3_ b4_ b5_ l3)
  none))))
  (k1 d d2 b7_ b8_ b9_ b10_ b3_ b4_ b5_ b6_)
def made_Dice_OddRecord_p1_u {β : Type} (k1 : made_Dice_OddRecord_p1_K1 β) (t64 : Bool) (d : List Int) (d2 : Int) (b3_ : List (List UInt8 × Int)) (b4_ : List (Int × (Int × (Int × Int)))) (b5_ : List api_Event) (b6_ : List (Int × (Int × Int))) (b7_ : List (List UInt8 × Int)) (b8_ : List (Int × (Int × (Int × Int)))) (b9_ : List api_Event) (b10_ : List (Int × (Int × Int))) : Option β := made_Dice_OddRecord_p1_s c_made_Dice_Next c_made_Dice_One k1 t64 d d2 b3_ b4_ b5_ b6_ b7_ b8_ b9_ b10_
theorem made_Dice_OddRecord_p1_ok' (hΓ : ΓOk Try.prog (made_Dice_OddRecord_X c_made_Dice_Next c_made_Dice_One).Γ) : PieceOk Try.prog 82 1 made_Dice_OddRecord_p1_code made_Dice_OddRecord_p1_v made_Dice_OddRecord_p1_o (made_Dice_OddRecord_p1_G (made_Dice_OddRecord_p1_u c_made_Dice_Next c_made_Dice_One)) :=
  piece_exec (X := (made_Dice_OddRecord_X c_made_Dice_Next c_made_Dice_One)) (p := 7551) (Λ := pick1 []) mixed tab_ok hΓ (by kernel_rfl) CutsOk_nil (fun d ks r h => Eq.trans (b := made_Dice_OddRecord_p1_G (made_Dice_OddRecord_p1_u c_made_Dice_Next c_made_Dice_One) d ks) (by kernel_rfl) h)
def made_Dice_OddRecord_s (p1 : made_Dice_OddRecord_p1_T) {β : Type} (r_ : api_Record) (d : (List Int × Int)) (k : (api_Record → (List Int × Int) → Option β)) : Option β :=
  cond (decide (List.length r_.1 * 24 ≤ roomMax))
  (cond (decide (List.length r_.2.1 * 32 ≤ roomMax))
  (cond (decide (List.length r_.2.2.1 * 32 ≤ roomMax))
  (cond (decide (List.length r_.2.2.2 * 24 ≤ roomMax))
  (c_made_Dice_Next (7 : Int) d (fun (rNext : Int) (mrNext : (List Int × Int)) =>
  let t : Bool := (decide (rNext = (0 : Int)));
  cond t
  (let l : List Int := ([(-1 : Int), (500001 : Int)] : List Int);
  c_made_Dice_One l mrNext (fun (rOne : Int) (mrOne : (List Int × Int)) =>
  cond (decide (0 ≤ (0 : Int)) && decide ((0 : Int) < (List.length r_.1 : Int)))
  (let l2 : List (List UInt8 × Int) := (List.set r_.1 (Int.toNat (0 : Int)) ((List.getD r_.1 (Int.toNat (0 : Int)) (([] : List UInt8), (0 : Int))).1, rOne));
  k (l2, r_.2) mrOne)
  none))
  (let t2 : Bool := (decide (rNext = (1 : Int)));
  cond t2
  (c_made_Dice_Next (4 : Int) mrNext (fun (rNext2 : Int) (mrNext2 : (List Int × Int)) =>
  c_made_Dice_Next (300 : Int) mrNext2 (fun (rNext3 : Int) (mrNext3 : (List Int × Int)) =>
  c_made_Dice_Next (300 : Int) mrNext3 (fun (rNext4 : Int) (mrNext4 : (List Int × Int)) =>
  c_made_Dice_Next (300 : Int) mrNext4 (fun (rNext5 : Int) (mrNext5 : (List Int × Int)) =>
  let l : List (Int × (Int × (Int × Int))) := ([((IntKind.i64.wrap (rNext2 - (1 : Int))), ((IntKind.i64.wrap ((864000 : Int) + rNext3)), ((IntKind.i64.wrap ((864000 : Int) + rNext4)), (IntKind.i64.wrap ((864000 : Int) + rNext5)))))] : List (Int × (Int × (Int × Int))));
  cond (decide ((List.length r_.2.1 + List.length l) * 32 ≤ roomMax))
  (let l2 : List (Int × (Int × (Int × Int))) := (r_.2.1 ++ l);
  k (r_.1, (l2, r_.2.2)) mrNext5)
  none)))))
  (let t3 : Bool := (decide (rNext = (2 : Int)));
  cond t3
  (c_made_Dice_Next (4 : Int) mrNext (fun (rNext2 : Int) (mrNext2 : (List Int × Int)) =>
  let l : List Int := ([(-1 : Int), (0 : Int), (864000 : Int), (8589934592 : Int), (8589934593 : Int)] : List Int);
  c_made_Dice_One l mrNext2 (fun (rOne : Int) (mrOne : (List Int × Int)) =>
  let l2 : List api_Event := ([((IntKind.i64.wrap (rNext2 - (1 : Int))), (rOne, ([] : List UInt8)))] : List api_Event);
  cond (decide ((List.length r_.2.2.1 + List.length l2) * 32 ≤ roomMax))
  (let l3 : List api_Event := (r_.2.2.1 ++ l2);
  k (r_.1, (r_.2.1, (l3, r_.2.2.2))) mrOne)
  none)))
  (let t4 : Bool := (decide (rNext = (3 : Int)));
  cond t4
  (p1 (fun (b0_ : List Int) (b0_2 : Int) (b3_ : List (List UInt8 × Int)) (b4_ : List (Int × (Int × (Int × Int)))) (b5_ : List api_Event) (b6_ : List (Int × (Int × Int))) (b7_ : List (List UInt8 × Int)) (b8_ : List (Int × (Int × (Int × Int)))) (b9_ : List api_Event) (b10_ : List (Int × (Int × Int))) =>
  k (b7_, (b8_, (b9_, b10_))) (b0_, b0_2)) t4 mrNext.1 mrNext.2 r_.1 r_.2.1 r_.2.2.1 r_.2.2.2 ([] : List (List UInt8 × Int)) ([] : List (Int × (Int × (Int × Int)))) ([] : List api_Event) ([] : List (Int × (Int × Int))))
  (let t5 : Bool := (decide (rNext = (4 : Int)));
  p1 (fun (b0_ : List Int) (b0_2 : Int) (b3_ : List (List UInt8 × Int)) (b4_ : List (Int × (Int × (Int × Int)))) (b5_ : List api_Event) (b6_ : List (Int × (Int × Int))) (b7_ : List (List UInt8 × Int)) (b8_ : List (Int × (Int × (Int × Int)))) (b9_ : List api_Event) (b10_ : List (Int × (Int × Int))) =>
  k (b7_, (b8_, (b9_, b10_))) (b0_, b0_2)) t5 mrNext.1 mrNext.2 r_.1 r_.2.1 r_.2.2.1 r_.2.2.2 ([] : List (List UInt8 × Int)) ([] : List (Int × (Int × (Int × Int)))) ([] : List api_Event) ([] : List (Int × (Int × Int)))))))))
  none)
  none)
  none)
  none
theorem made_Dice_OddRecord_ok' (hΓ : ΓOk Try.prog (made_Dice_OddRecord_X c_made_Dice_Next c_made_Dice_One).Γ) (p1 : made_Dice_OddRecord_p1_T) (hp1 : PieceOk Try.prog 82 1 made_Dice_OddRecord_p1_code made_Dice_OddRecord_p1_v made_Dice_OddRecord_p1_o (made_Dice_OddRecord_p1_G p1)) : SpecOk Try.prog 28 (made_Dice_OddRecord_S (made_Dice_OddRecord_s c_made_Dice_Next c_made_Dice_One p1)) :=
  spec_exec (X := (made_Dice_OddRecord_X c_made_Dice_Next c_made_Dice_One)) (Λ := pick1 [(7551, pieceCut made_Dice_OddRecord_p1_v made_Dice_OddRecord_p1_o (made_Dice_OddRecord_p1_G p1))]) (rs := [.cell 4 41]) (c := bodyOf Try.f28) mixed tab_ok hΓ Try.func28 (by kernel_rfl) (by kernel_rfl) (by kernel_rfl) (by kernel_rfl) (CutsOk_cons (q := 7551) (c' := made_Dice_OddRecord_p1_code) (by kernel_rfl) rfl hp1 CutsOk_nil) (fun x k r h => Eq.trans (b := (made_Dice_OddRecord_S (made_Dice_OddRecord_s c_made_Dice_Next c_made_Dice_One p1)).run x k) (by kernel_rfl) h)
end
theorem made_Dice_OddRecord_Γ : ΓOk Try.prog (pick1 [(20, .spec (made_Dice_Next_S made_Dice_Next)), (19, .spec (made_Dice_One_S made_Dice_One))]) := (ΓOk_cons made_Dice_Next_ok (ΓOk_cons made_Dice_One_ok ΓOk_nil))
def made_Dice_OddRecord_p1 : made_Dice_OddRecord_p1_T := made_Dice_OddRecord_p1_u made_Dice_Next made_Dice_One
theorem made_Dice_OddRecord_p1_ok : PieceOk Try.prog 82 1 made_Dice_OddRecord_p1_code made_Dice_OddRecord_p1_v made_Dice_OddRecord_p1_o (made_Dice_OddRecord_p1_G made_Dice_OddRecord_p1) := made_Dice_OddRecord_p1_ok' made_Dice_Next made_Dice_One made_Dice_OddRecord_Γ
def made_Dice_OddRecord : T_made_Dice_OddRecord := made_Dice_OddRecord_s made_Dice_Next made_Dice_One made_Dice_OddRecord_p1
theorem made_Dice_OddRecord_ok : SpecOk Try.prog 28 (made_Dice_OddRecord_S made_Dice_OddRecord) := made_Dice_OddRecord_ok' made_Dice_Next made_Dice_One made_Dice_OddRecord_Γ made_Dice_OddRecord_p1 made_Dice_OddRecord_p1_ok

/-- pagewatch/clock.Valid -/
abbrev T_clock_Valid := {β : Type} → api_Record → (Bool → Option β) → Option β
def clock_Valid_S (c : T_clock_Valid) : Spec :=
  ⟨[(true, [.data y_api_Record])], [], [(false, [.data .bool])], [], fun x k => c x.1.1.1 (fun r0 => k (((r0, ()), ()), ()))⟩
noncomputable def clock_Valid_p1_code : Code := codeAt 58 (bodyOf Try.f29)
noncomputable def clock_Valid_p2_code : Code := codeAt 122 (bodyOf Try.f29)
noncomputable def clock_Valid_p3_code : Code := codeAt 250 (bodyOf Try.f29)
noncomputable def clock_Valid_p4_code : Code := codeAt 506 (bodyOf Try.f29)
abbrev clock_Valid_p1_K1 (β : Type) := Bool → Option β
abbrev clock_Valid_p1_K2 (β : Type) := (List (List UInt8 × Int)) → (List (Int × (Int × (Int × Int)))) → (List api_Event) → (List (Int × (Int × Int))) → Option β
abbrev clock_Valid_p1_T := {β : Type} → clock_Valid_p1_K1 β → clock_Valid_p1_K2 β → (List (List UInt8 × Int)) → Int → Int → (List (List UInt8 × Int)) → (List (Int × (Int × (Int × Int)))) → (List api_Event) → (List (Int × (Int × Int))) → Option β
def clock_Valid_p1_v : View := ⟨0, [1, 34, 35, 36], [(false, [.ptr 0 0]), (false, [.data (.slice (.prod .str (.int .i64)))]), (false, [.data (.int .i64)]), (false, [.data (.int .i64)])], [.cells 41 [.data (.slice (.prod .str (.int .i64))), .data (.slice (.prod (.int .i64) (.prod (.int .i64) (.prod (.int .i64) (.int .i64))))), .data (.slice y_api_Event), .data (.slice (.prod (.int .i64) (.prod (.int .i64) (.int .i64))))]]⟩
def clock_Valid_p1_o : List (AExit × View) := [(.ret, ⟨0, [2], [(false, [.data .bool])], []⟩), (.exit 0, ⟨0, [1], [(false, [.ptr 0 0])], [.cells 41 [.data (.slice (.prod .str (.int .i64))), .data (.slice (.prod (.int .i64) (.prod (.int .i64) (.prod (.int .i64) (.int .i64))))), .data (.slice y_api_Event), .data (.slice (.prod (.int .i64) (.prod (.int .i64) (.int .i64))))]]⟩)]
@[reducible] def clock_Valid_p1_G (p : clock_Valid_p1_T) {β : Type} (d : clock_Valid_p1_v.den) (ks : Outs.K β clock_Valid_p1_o) : Option β :=
  p (fun a0 => ks.1 (((a0, ()), ()), ())) (fun a0 a1 a2 a3 => ks.2.1 (((), ()), ((a0, a1, a2, a3, ()), ()))) d.1.2.1.1 d.1.2.2.1.1 d.1.2.2.2.1.1 d.2.1.1 d.2.1.2.1 d.2.1.2.2.1 d.2.1.2.2.2.1
abbrev clock_Valid_p2_K1 (β : Type) := Bool → Option β
abbrev clock_Valid_p2_K2 (β : Type) := (List (List UInt8 × Int)) → (List (Int × (Int × (Int × Int)))) → (List api_Event) → (List (Int × (Int × Int))) → Option β
abbrev clock_Valid_p2_T := {β : Type} → clock_Valid_p2_K1 β → clock_Valid_p2_K2 β → (List (Int × (Int × (Int × Int)))) → Int → Int → (List (List UInt8 × Int)) → (List (Int × (Int × (Int × Int)))) → (List api_Event) → (List (Int × (Int × Int))) → Option β
def clock_Valid_p2_v : View := ⟨0, [1, 46, 47, 48], [(false, [.ptr 0 0]), (false, [.data (.slice (.prod (.int .i64) (.prod (.int .i64) (.prod (.int .i64) (.int .i64)))))]), (false, [.data (.int .i64)]), (false, [.data (.int .i64)])], [.cells 41 [.data (.slice (.prod .str (.int .i64))), .data (.slice (.prod (.int .i64) (.prod (.int .i64) (.prod (.int .i64) (.int .i64))))), .data (.slice y_api_Event), .data (.slice (.prod (.int .i64) (.prod (.int .i64) (.int .i64))))]]⟩
def clock_Valid_p2_o : List (AExit × View) := [(.ret, ⟨0, [2], [(false, [.data .bool])], []⟩), (.exit 2, ⟨0, [1], [(false, [.ptr 0 0])], [.cells 41 [.data (.slice (.prod .str (.int .i64))), .data (.slice (.prod (.int .i64) (.prod (.int .i64) (.prod (.int .i64) (.int .i64))))), .data (.slice y_api_Event), .data (.slice (.prod (.int .i64) (.prod (.int .i64) (.int .i64))))]]⟩)]
@[reducible] def clock_Valid_p2_G (p : clock_Valid_p2_T) {β : Type} (d : clock_Valid_p2_v.den) (ks : Outs.K β clock_Valid_p2_o) : Option β :=
  p (fun a0 => ks.1 (((a0, ()), ()), ())) (fun a0 a1 a2 a3 => ks.2.1 (((), ()), ((a0, a1, a2, a3, ()), ()))) d.1.2.1.1 d.1.2.2.1.1 d.1.2.2.2.1.1 d.2.1.1 d.2.1.2.1 d.2.1.2.2.1 d.2.1.2.2.2.1
abbrev clock_Valid_p3_K1 (β : Type) := Bool → Option β
abbrev clock_Valid_p3_K2 (β : Type) := (List (List UInt8 × Int)) → (List (Int × (Int × (Int × Int)))) → (List api_Event) → (List (Int × (Int × Int))) → Option β
abbrev clock_Valid_p3_T := {β : Type} → clock_Valid_p3_K1 β → clock_Valid_p3_K2 β → (List api_Event) → Int → Int → (List (List UInt8 × Int)) → (List (Int × (Int × (Int × Int)))) → (List api_Event) → (List (Int × (Int × Int))) → Option β
def clock_Valid_p3_v : View := ⟨0, [1, 67, 68, 69], [(false, [.ptr 0 0]), (false, [.data (.slice y_api_Event)]), (false, [.data (.int .i64)]), (false, [.data (.int .i64)])], [.cells 41 [.data (.slice (.prod .str (.int .i64))), .data (.slice (.prod (.int .i64) (.prod (.int .i64) (.prod (.int .i64) (.int .i64))))), .data (.slice y_api_Event), .data (.slice (.prod (.int .i64) (.prod (.int .i64) (.int .i64))))]]⟩
def clock_Valid_p3_o : List (AExit × View) := [(.ret, ⟨0, [2], [(false, [.data .bool])], []⟩), (.exit 4, ⟨0, [1], [(false, [.ptr 0 0])], [.cells 41 [.data (.slice (.prod .str (.int .i64))), .data (.slice (.prod (.int .i64) (.prod (.int .i64) (.prod (.int .i64) (.int .i64))))), .data (.slice y_api_Event), .data (.slice (.prod (.int .i64) (.prod (.int .i64) (.int .i64))))]]⟩)]
@[reducible] def clock_Valid_p3_G (p : clock_Valid_p3_T) {β : Type} (d : clock_Valid_p3_v.den) (ks : Outs.K β clock_Valid_p3_o) : Option β :=
  p (fun a0 => ks.1 (((a0, ()), ()), ())) (fun a0 a1 a2 a3 => ks.2.1 (((), ()), ((a0, a1, a2, a3, ()), ()))) d.1.2.1.1 d.1.2.2.1.1 d.1.2.2.2.1.1 d.2.1.1 d.2.1.2.1 d.2.1.2.2.1 d.2.1.2.2.2.1
abbrev clock_Valid_p4_K1 (β : Type) := Bool → Option β
abbrev clock_Valid_p4_K2 (β : Type) := Unit → Option β
abbrev clock_Valid_p4_T := {β : Type} → clock_Valid_p4_K1 β → clock_Valid_p4_K2 β → (List (Int × (Int × Int))) → Int → Int → (List (List UInt8 × Int)) → (List (Int × (Int × (Int × Int)))) → (List api_Event) → (List (Int × (Int × Int))) → Option β
def clock_Valid_p4_v : View := ⟨0, [1, 89, 90, 91], [(false, [.ptr 0 0]), (false, [.data (.slice (.prod (.int .i64) (.prod (.int .i64) (.int .i64))))]), (false, [.data (.int .i64)]), (false, [.data (.int .i64)])], [.cells 41 [.data (.slice (.prod .str (.int .i64))), .data (.slice (.prod (.int .i64) (.prod (.int .i64) (.prod (.int .i64) (.int .i64))))), .data (.slice y_api_Event), .data (.slice (.prod (.int .i64) (.prod (.int .i64) (.int .i64))))]]⟩
def clock_Valid_p4_o : List (AExit × View) := [(.ret, ⟨0, [2], [(false, [.data .bool])], []⟩), (.exit 6, ⟨0, [], [], []⟩)]
@[reducible] def clock_Valid_p4_G (p : clock_Valid_p4_T) {β : Type} (d : clock_Valid_p4_v.den) (ks : Outs.K β clock_Valid_p4_o) : Option β :=
  p (fun a0 => ks.1 (((a0, ()), ()), ())) (fun _ => ks.2.1 ((), ())) d.1.2.1.1 d.1.2.2.1.1 d.1.2.2.2.1.1 d.2.1.1 d.2.1.2.1 d.2.1.2.2.1 d.2.1.2.2.2.1
section
variable (c_clock_compared : T_clock_compared) (c_clock_in : T_clock_in) (c_clock_instant : T_clock_instant)
@[reducible] def clock_Valid_X : Ctx := ⟨look tab, pick1 [(53, .spec (clock_compared_S c_clock_compared)), (50, .spec (clock_in_S c_clock_in)), (51, .spec (clock_instant_S c_clock_instant))], false⟩
def clock_Valid_p1_s {β : Type} (rec : (List (List UInt8 × Int)) → Int → Int → (List (List UInt8 × Int)) → (List (Int × (Int × (Int × Int)))) → (List api_Event) → (List (Int × (Int × Int))) → Option β) (k1 : clock_Valid_p1_K1 β) (k2 : clock_Valid_p1_K2 β) (t34 : List (List UInt8 × Int)) (t35 : Int) (t36 : Int) (r_ : List (List UInt8 × Int)) (r_2 : List (Int × (Int × (Int × Int)))) (r_3 : List api_Event) (r_4 : List (Int × (Int × Int))) : Option β :=
  cond (decide (t36 < t35))
  (cond (decide (0 ≤ t36) && decide (t36 < (List.length t34 : Int)))
  (let e : (List UInt8 × Int) := List.getD t34 (Int.toNat t36) (([] : List UInt8), (0 : Int));
  c_clock_in e.2 (0 : Int) (500000 : Int) (fun (rin : Bool) =>
  cond (!rin)
  (k1 false)
  (rec t34 t35 (IntKind.i64.wrap (t36 + (1 : Int))) r_ r_2 r_3 r_4)))
  none)
  (k2 r_ r_2 r_3 r_4)
def clock_Valid_p1_l {β : Type} : Nat → clock_Valid_p1_K1 β → clock_Valid_p1_K2 β → (List (List UInt8 × Int)) → Int → Int → (List (List UInt8 × Int)) → (List (Int × (Int × (Int × Int)))) → (List api_Event) → (List (Int × (Int × Int))) → Option β
  | 0 => fun _ _ _ _ _ _ _ _ _ => none
  | i + 1 => fun k1 k2 t34 t35 t36 r_ r_2 r_3 r_4 => clock_Valid_p1_s c_clock_in (clock_Valid_p1_l i k1 k2) k1 k2 t34 t35 t36 r_ r_2 r_3 r_4
theorem clock_Valid_p1_ok' (hΓ : ΓOk Try.prog (clock_Valid_X c_clock_compared c_clock_in c_clock_instant).Γ) (i : Nat) : PieceOk Try.prog 127 0 clock_Valid_p1_code clock_Valid_p1_v clock_Valid_p1_o (clock_Valid_p1_G (clock_Valid_p1_l c_clock_in i)) := by
  rw [show clock_Valid_p1_code = .loop (loopBody clock_Valid_p1_code) by kernel_rfl]
  exact piece_loop (X := (clock_Valid_X c_clock_compared c_clock_in c_clock_instant)) (p := 1) (Λ := pick1 []) (G := fun i => @fun β d ks => clock_Valid_p1_G (clock_Valid_p1_l c_clock_in i) d ks) mixed tab_ok hΓ rfl (by kernel_rfl) CutsOk_nil (fun _ _ => rfl) (fun i => @fun β d ks r h => Eq.trans (b := clock_Valid_p1_G (clock_Valid_p1_l c_clock_in (i + 1)) d ks) (by kernel_rfl) h) i
def clock_Valid_p2_s {β : Type} (rec : (List (Int × (Int × (Int × Int)))) → Int → Int → (List (List UInt8 × Int)) → (List (Int × (Int × (Int × Int)))) → (List api_Event) → (List (Int × (Int × Int))) → Option β) (k1 : clock_Valid_p2_K1 β) (k2 : clock_Valid_p2_K2 β) (t46 : List (Int × (Int × (Int × Int)))) (t47 : Int) (t48 : Int) (r_ : List (List UInt8 × Int)) (r_2 : List (Int × (Int × (Int × Int)))) (r_3 : List api_Event) (r_4 : List (Int × (Int × Int))) : Option β :=
  cond (decide (t48 < t47))
  (cond (decide (0 ≤ t48) && decide (t48 < (List.length t46 : Int)))
  (let e : (Int × (Int × (Int × Int))) := List.getD t46 (Int.toNat t48) ((0 : Int), ((0 : Int), ((0 : Int), (0 : Int))));
  c_clock_in e.1 (0 : Int) (IntKind.i64.wrap ((List.length r_ : Int) - (1 : Int))) (fun (rin : Bool) =>
  cond (!rin)
  (k1 false)
  (c_clock_compared e (fun (rcompared : Bool) =>
  cond (!rcompared)
  (k1 false)
  (rec t46 t47 (IntKind.i64.wrap (t48 + (1 : Int))) r_ r_2 r_3 r_4)))))
  none)
  (k2 r_ r_2 r_3 r_4)
def clock_Valid_p2_l {β : Type} : Nat → clock_Valid_p2_K1 β → clock_Valid_p2_K2 β → (List (Int × (Int × (Int × Int)))) → Int → Int → (List (List UInt8 × Int)) → (List (Int × (Int × (Int × Int)))) → (List api_Event) → (List (Int × (Int × Int))) → Option β
  | 0 => fun _ _ _ _ _ _ _ _ _ => none
  | i + 1 => fun k1 k2 t46 t47 t48 r_ r_2 r_3 r_4 => clock_Valid_p2_s c_clock_compared c_clock_in (clock_Valid_p2_l i k1 k2) k1 k2 t46 t47 t48 r_ r_2 r_3 r_4
theorem clock_Valid_p2_ok' (hΓ : ΓOk Try.prog (clock_Valid_X c_clock_compared c_clock_in c_clock_instant).Γ) (i : Nat) : PieceOk Try.prog 127 0 clock_Valid_p2_code clock_Valid_p2_v clock_Valid_p2_o (clock_Valid_p2_G (clock_Valid_p2_l c_clock_compared c_clock_in i)) := by
  rw [show clock_Valid_p2_code = .loop (loopBody clock_Valid_p2_code) by kernel_rfl]
  exact piece_loop (X := (clock_Valid_X c_clock_compared c_clock_in c_clock_instant)) (p := 1) (Λ := pick1 []) (G := fun i => @fun β d ks => clock_Valid_p2_G (clock_Valid_p2_l c_clock_compared c_clock_in i) d ks) mixed tab_ok hΓ rfl (by kernel_rfl) CutsOk_nil (fun _ _ => rfl) (fun i => @fun β d ks r h => Eq.trans (b := clock_Valid_p2_G (clock_Valid_p2_l c_clock_compared c_clock_in (i + 1)) d ks) (by kernel_rfl) h) i
def clock_Valid_p3_s {β : Type} (rec : (List api_Event) → Int → Int → (List (List UInt8 × Int)) → (List (Int × (Int × (Int × Int)))) → (List api_Event) → (List (Int × (Int × Int))) → Option β) (k1 : clock_Valid_p3_K1 β) (k2 : clock_Valid_p3_K2 β) (t67 : List api_Event) (t68 : Int) (t69 : Int) (r_ : List (List UInt8 × Int)) (r_2 : List (Int × (Int × (Int × Int)))) (r_3 : List api_Event) (r_4 : List (Int × (Int × Int))) : Option β :=
  cond (decide (t69 < t68))
  (cond (decide (0 ≤ t69) && decide (t69 < (List.length t67 : Int)))
  (let e : api_Event := List.getD t67 (Int.toNat t69) ((0 : Int), ((0 : Int), ([] : List UInt8)));
  c_clock_in e.1 (0 : Int) (IntKind.i64.wrap ((List.length r_ : Int) - (1 : Int))) (fun (rin : Bool) =>
  cond (!rin)
  (k1 false)
  (c_clock_instant e.2.1 (fun (rinstant : Bool) =>
  cond (!rinstant)
  (k1 false)
  (rec t67 t68 (IntKind.i64.wrap (t69 + (1 : Int))) r_ r_2 r_3 r_4)))))
  none)
  (k2 r_ r_2 r_3 r_4)
def clock_Valid_p3_l {β : Type} : Nat → clock_Valid_p3_K1 β → clock_Valid_p3_K2 β → (List api_Event) → Int → Int → (List (List UInt8 × Int)) → (List (Int × (Int × (Int × Int)))) → (List api_Event) → (List (Int × (Int × Int))) → Option β
  | 0 => fun _ _ _ _ _ _ _ _ _ => none
  | i + 1 => fun k1 k2 t67 t68 t69 r_ r_2 r_3 r_4 => clock_Valid_p3_s c_clock_in c_clock_instant (clock_Valid_p3_l i k1 k2) k1 k2 t67 t68 t69 r_ r_2 r_3 r_4
theorem clock_Valid_p3_ok' (hΓ : ΓOk Try.prog (clock_Valid_X c_clock_compared c_clock_in c_clock_instant).Γ) (i : Nat) : PieceOk Try.prog 127 0 clock_Valid_p3_code clock_Valid_p3_v clock_Valid_p3_o (clock_Valid_p3_G (clock_Valid_p3_l c_clock_in c_clock_instant i)) := by
  rw [show clock_Valid_p3_code = .loop (loopBody clock_Valid_p3_code) by kernel_rfl]
  exact piece_loop (X := (clock_Valid_X c_clock_compared c_clock_in c_clock_instant)) (p := 1) (Λ := pick1 []) (G := fun i => @fun β d ks => clock_Valid_p3_G (clock_Valid_p3_l c_clock_in c_clock_instant i) d ks) mixed tab_ok hΓ rfl (by kernel_rfl) CutsOk_nil (fun _ _ => rfl) (fun i => @fun β d ks r h => Eq.trans (b := clock_Valid_p3_G (clock_Valid_p3_l c_clock_in c_clock_instant (i + 1)) d ks) (by kernel_rfl) h) i
def clock_Valid_p4_s {β : Type} (rec : (List (Int × (Int × Int))) → Int → Int → (List (List UInt8 × Int)) → (List (Int × (Int × (Int × Int)))) → (List api_Event) → (List (Int × (Int × Int))) → Option β) (k1 : clock_Valid_p4_K1 β) (k2 : clock_Valid_p4_K2 β) (t89 : List (Int × (Int × Int))) (t90 : Int) (t91 : Int) (r_ : List (List UInt8 × Int)) (r_2 : List (Int × (Int × (Int × Int)))) (r_3 : List api_Event) (r_4 : List (Int × (Int × Int))) : Option β :=
  cond (decide (t91 < t90))
  (cond (decide (0 ≤ t91) && decide (t91 < (List.length t89 : Int)))
  (let e : (Int × (Int × Int)) := List.getD t89 (Int.toNat t91) ((0 : Int), ((0 : Int), (0 : Int)));
  c_clock_in e.1 (0 : Int) (IntKind.i64.wrap ((List.length r_3 : Int) - (1 : Int))) (fun (rin : Bool) =>
  cond (!rin)
  (k1 false)
  (c_clock_in e.2.1 (0 : Int) (IntKind.i64.wrap ((List.length r_3 : Int) - (1 : Int))) (fun (rin2 : Bool) =>
  cond (!rin2)
  (k1 false)
  (cond (decide (e.1 = e.2.1))
  (k1 false)
  (c_clock_instant e.2.2 (fun (rinstant : Bool) =>
  cond (!rinstant)
  (k1 false)
  (rec t89 t90 (IntKind.i64.wrap (t91 + (1 : Int))) r_ r_2 r_3 r_4))))))))
  none)
  (k2 ())
def clock_Valid_p4_l {β : Type} : Nat → clock_Valid_p4_K1 β → clock_Valid_p4_K2 β → (List (Int × (Int × Int))) → Int → Int → (List (List UInt8 × Int)) → (List (Int × (Int × (Int × Int)))) → (List api_Event) → (List (Int × (Int × Int))) → Option β
  | 0 => fun _ _ _ _ _ _ _ _ _ => none
  | i + 1 => fun k1 k2 t89 t90 t91 r_ r_2 r_3 r_4 => clock_Valid_p4_s c_clock_in c_clock_instant (clock_Valid_p4_l i k1 k2) k1 k2 t89 t90 t91 r_ r_2 r_3 r_4
theorem clock_Valid_p4_ok' (hΓ : ΓOk Try.prog (clock_Valid_X c_clock_compared c_clock_in c_clock_instant).Γ) (i : Nat) : PieceOk Try.prog 127 0 clock_Valid_p4_code clock_Valid_p4_v clock_Valid_p4_o (clock_Valid_p4_G (clock_Valid_p4_l c_clock_in c_clock_instant i)) := by
  rw [show clock_Valid_p4_code = .loop (loopBody clock_Valid_p4_code) by kernel_rfl]
  exact piece_loop (X := (clock_Valid_X c_clock_compared c_clock_in c_clock_instant)) (p := 1) (Λ := pick1 []) (G := fun i => @fun β d ks => clock_Valid_p4_G (clock_Valid_p4_l c_clock_in c_clock_instant i) d ks) mixed tab_ok hΓ rfl (by kernel_rfl) CutsOk_nil (fun _ _ => rfl) (fun i => @fun β d ks r h => Eq.trans (b := clock_Valid_p4_G (clock_Valid_p4_l c_clock_in c_clock_instant (i + 1)) d ks) (by kernel_rfl) h) i
def clock_Valid_s (p1 : clock_Valid_p1_T) (p2 : clock_Valid_p2_T) (p3 : clock_Valid_p3_T) (p4 : clock_Valid_p4_T) {β : Type} (r_ : api_Record) (k : (Bool → Option β)) : Option β :=
  cond (decide ((8 : Int) < (List.length r_.1 : Int)))
  (k false)
  (cond (decide ((64 : Int) < (List.length r_.2.1 : Int)))
  (k false)
  (cond (decide ((40 : Int) < (List.length r_.2.2.1 : Int)))
  (k false)
  (cond (decide ((64 : Int) < (List.length r_.2.2.2 : Int)))
  (k false)
  (p1 (fun (t2 : Bool) =>
  k t2) (fun (r_2 : List (List UInt8 × Int)) (r_3 : List (Int × (Int × (Int × Int)))) (r_4 : List api_Event) (r_5 : List (Int × (Int × Int))) =>
  p2 (fun (t2 : Bool) =>
  k t2) (fun (r_6 : List (List UInt8 × Int)) (r_7 : List (Int × (Int × (Int × Int)))) (r_8 : List api_Event) (r_9 : List (Int × (Int × Int))) =>
  p3 (fun (t2 : Bool) =>
  k t2) (fun (r_10 : List (List UInt8 × Int)) (r_11 : List (Int × (Int × (Int × Int)))) (r_12 : List api_Event) (r_13 : List (Int × (Int × Int))) =>
  p4 (fun (t2 : Bool) =>
  k t2) (fun (_ : Unit) =>
  k true) r_13 (List.length r_13 : Int) (0 : Int) r_10 r_11 r_12 r_13) r_8 (List.length r_8 : Int) (0 : Int) r_6 r_7 r_8 r_9) r_3 (List.length r_3 : Int) (0 : Int) r_2 r_3 r_4 r_5) r_.1 (List.length r_.1 : Int) (0 : Int) r_.1 r_.2.1 r_.2.2.1 r_.2.2.2))))
theorem clock_Valid_ok' (hΓ : ΓOk Try.prog (clock_Valid_X c_clock_compared c_clock_in c_clock_instant).Γ) (p1 : clock_Valid_p1_T) (p2 : clock_Valid_p2_T) (p3 : clock_Valid_p3_T) (p4 : clock_Valid_p4_T) (hp1 : PieceOk Try.prog 127 0 clock_Valid_p1_code clock_Valid_p1_v clock_Valid_p1_o (clock_Valid_p1_G p1)) (hp2 : PieceOk Try.prog 127 0 clock_Valid_p2_code clock_Valid_p2_v clock_Valid_p2_o (clock_Valid_p2_G p2)) (hp3 : PieceOk Try.prog 127 0 clock_Valid_p3_code clock_Valid_p3_v clock_Valid_p3_o (clock_Valid_p3_G p3)) (hp4 : PieceOk Try.prog 127 0 clock_Valid_p4_code clock_Valid_p4_v clock_Valid_p4_o (clock_Valid_p4_G p4)) : SpecOk Try.prog 29 (clock_Valid_S (clock_Valid_s p1 p2 p3 p4)) :=
  spec_exec (X := (clock_Valid_X c_clock_compared c_clock_in c_clock_instant)) (Λ := pick1 [(58, pieceCut clock_Valid_p1_v clock_Valid_p1_o (clock_Valid_p1_G p1)), (122, pieceCut clock_Valid_p2_v clock_Valid_p2_o (clock_Valid_p2_G p2)), (250, pieceCut clock_Valid_p3_v clock_Valid_p3_o (clock_Valid_p3_G p3)), (506, pieceCut clock_Valid_p4_v clock_Valid_p4_o (clock_Valid_p4_G p4))]) (rs := [.tmp 2]) (c := bodyOf Try.f29) mixed tab_ok hΓ Try.func29 (by kernel_rfl) (by kernel_rfl) (by kernel_rfl) (by kernel_rfl) (CutsOk_cons (q := 58) (c' := clock_Valid_p1_code) (by kernel_rfl) rfl hp1 (CutsOk_cons (q := 122) (c' := clock_Valid_p2_code) (by kernel_rfl) rfl hp2 (CutsOk_cons (q := 250) (c' := clock_Valid_p3_code) (by kernel_rfl) rfl hp3 (CutsOk_cons (q := 506) (c' := clock_Valid_p4_code) (by kernel_rfl) rfl hp4 CutsOk_nil)))) (fun x k r h => Eq.trans (b := (clock_Valid_S (clock_Valid_s p1 p2 p3 p4)).run x k) (by kernel_rfl) h)
end
theorem clock_Valid_Γ : ΓOk Try.prog (pick1 [(53, .spec (clock_compared_S clock_compared)), (50, .spec (clock_in_S clock_in)), (51, .spec (clock_instant_S clock_instant))]) := (ΓOk_cons clock_compared_ok (ΓOk_cons clock_in_ok (ΓOk_cons clock_instant_ok ΓOk_nil)))
def clock_Valid_p1_n (m : Nat) : clock_Valid_p1_T := clock_Valid_p1_l clock_in m
theorem clock_Valid_p1_step {β : Type} (i : Nat) (k1 k2 t34 t35 t36 r_ r_2 r_3 r_4) : (clock_Valid_p1_n (i + 1) k1 k2 t34 t35 t36 r_ r_2 r_3 r_4 : Option β) = clock_Valid_p1_s clock_in (clock_Valid_p1_n i k1 k2) k1 k2 t34 t35 t36 r_ r_2 r_3 r_4 := rfl
def clock_Valid_p1 : clock_Valid_p1_T := clock_Valid_p1_n fuel
theorem clock_Valid_p1_ok : PieceOk Try.prog 127 0 clock_Valid_p1_code clock_Valid_p1_v clock_Valid_p1_o (clock_Valid_p1_G clock_Valid_p1) := clock_Valid_p1_ok' clock_compared clock_in clock_instant clock_Valid_Γ fuel
def clock_Valid_p2_n (m : Nat) : clock_Valid_p2_T := clock_Valid_p2_l clock_compared clock_in m
theorem clock_Valid_p2_step {β : Type} (i : Nat) (k1 k2 t46 t47 t48 r_ r_2 r_3 r_4) : (clock_Valid_p2_n (i + 1) k1 k2 t46 t47 t48 r_ r_2 r_3 r_4 : Option β) = clock_Valid_p2_s clock_compared clock_in (clock_Valid_p2_n i k1 k2) k1 k2 t46 t47 t48 r_ r_2 r_3 r_4 := rfl
def clock_Valid_p2 : clock_Valid_p2_T := clock_Valid_p2_n fuel
theorem clock_Valid_p2_ok : PieceOk Try.prog 127 0 clock_Valid_p2_code clock_Valid_p2_v clock_Valid_p2_o (clock_Valid_p2_G clock_Valid_p2) := clock_Valid_p2_ok' clock_compared clock_in clock_instant clock_Valid_Γ fuel
def clock_Valid_p3_n (m : Nat) : clock_Valid_p3_T := clock_Valid_p3_l clock_in clock_instant m
theorem clock_Valid_p3_step {β : Type} (i : Nat) (k1 k2 t67 t68 t69 r_ r_2 r_3 r_4) : (clock_Valid_p3_n (i + 1) k1 k2 t67 t68 t69 r_ r_2 r_3 r_4 : Option β) = clock_Valid_p3_s clock_in clock_instant (clock_Valid_p3_n i k1 k2) k1 k2 t67 t68 t69 r_ r_2 r_3 r_4 := rfl
def clock_Valid_p3 : clock_Valid_p3_T := clock_Valid_p3_n fuel
theorem clock_Valid_p3_ok : PieceOk Try.prog 127 0 clock_Valid_p3_code clock_Valid_p3_v clock_Valid_p3_o (clock_Valid_p3_G clock_Valid_p3) := clock_Valid_p3_ok' clock_compared clock_in clock_instant clock_Valid_Γ fuel
def clock_Valid_p4_n (m : Nat) : clock_Valid_p4_T := clock_Valid_p4_l clock_in clock_instant m
theorem clock_Valid_p4_step {β : Type} (i : Nat) (k1 k2 t89 t90 t91 r_ r_2 r_3 r_4) : (clock_Valid_p4_n (i + 1) k1 k2 t89 t90 t91 r_ r_2 r_3 r_4 : Option β) = clock_Valid_p4_s clock_in clock_instant (clock_Valid_p4_n i k1 k2) k1 k2 t89 t90 t91 r_ r_2 r_3 r_4 := rfl
def clock_Valid_p4 : clock_Valid_p4_T := clock_Valid_p4_n fuel
theorem clock_Valid_p4_ok : PieceOk Try.prog 127 0 clock_Valid_p4_code clock_Valid_p4_v clock_Valid_p4_o (clock_Valid_p4_G clock_Valid_p4) := clock_Valid_p4_ok' clock_compared clock_in clock_instant clock_Valid_Γ fuel
def clock_Valid : T_clock_Valid := clock_Valid_s clock_Valid_p1 clock_Valid_p2 clock_Valid_p3 clock_Valid_p4
theorem clock_Valid_ok : SpecOk Try.prog 29 (clock_Valid_S clock_Valid) := clock_Valid_ok' clock_compared clock_in clock_instant clock_Valid_Γ clock_Valid_p1 clock_Valid_p2 clock_Valid_p3 clock_Valid_p4 clock_Valid_p1_ok clock_Valid_p2_ok clock_Valid_p3_ok clock_Valid_p4_ok

/-- pagewatch/pagewatchref38.Valid -/
abbrev T_ref38_Valid := {β : Type} → api_Record → (Bool → Option β) → Option β
def ref38_Valid_S (c : T_ref38_Valid) : Spec :=
  ⟨[(true, [.data y_api_Record])], [], [(false, [.data .bool])], [], fun x k => c x.1.1.1 (fun r0 => k (((r0, ()), ()), ()))⟩
noncomputable def ref38_Valid_p1_code : Code := codeAt 58 (bodyOf Try.f30)
noncomputable def ref38_Valid_p2_code : Code := codeAt 122 (bodyOf Try.f30)
noncomputable def ref38_Valid_p3_code : Code := codeAt 250 (bodyOf Try.f30)
noncomputable def ref38_Valid_p4_code : Code := codeAt 506 (bodyOf Try.f30)
abbrev ref38_Valid_p1_K1 (β : Type) := Bool → Option β
abbrev ref38_Valid_p1_K2 (β : Type) := (List (List UInt8 × Int)) → (List (Int × (Int × (Int × Int)))) → (List api_Event) → (List (Int × (Int × Int))) → Option β
abbrev ref38_Valid_p1_T := {β : Type} → ref38_Valid_p1_K1 β → ref38_Valid_p1_K2 β → Int → (List (List UInt8 × Int)) → (List (Int × (Int × (Int × Int)))) → (List api_Event) → (List (Int × (Int × Int))) → Option β
def ref38_Valid_p1_v : View := ⟨0, [1, 3], [(false, [.ptr 0 0]), (false, [.data (.int .i64)])], [.cells 41 [.data (.slice (.prod .str (.int .i64))), .data (.slice (.prod (.int .i64) (.prod (.int .i64) (.prod (.int .i64) (.int .i64))))), .data (.slice y_api_Event), .data (.slice (.prod (.int .i64) (.prod (.int .i64) (.int .i64))))]]⟩
def ref38_Valid_p1_o : List (AExit × View) := [(.ret, ⟨0, [2], [(false, [.data .bool])], []⟩), (.exit 0, ⟨0, [1], [(false, [.ptr 0 0])], [.cells 41 [.data (.slice (.prod .str (.int .i64))), .data (.slice (.prod (.int .i64) (.prod (.int .i64) (.prod (.int .i64) (.int .i64))))), .data (.slice y_api_Event), .data (.slice (.prod (.int .i64) (.prod (.int .i64) (.int .i64))))]]⟩)]
@[reducible] def ref38_Valid_p1_G (p : ref38_Valid_p1_T) {β : Type} (d : ref38_Valid_p1_v.den) (ks : Outs.K β ref38_Valid_p1_o) : Option β :=
  p (fun a0 => ks.1 (((a0, ()), ()), ())) (fun a0 a1 a2 a3 => ks.2.1 (((), ()), ((a0, a1, a2, a3, ()), ()))) d.1.2.1.1 d.2.1.1 d.2.1.2.1 d.2.1.2.2.1 d.2.1.2.2.2.1
abbrev ref38_Valid_p2_K1 (β : Type) := Bool → Option β
abbrev ref38_Valid_p2_K2 (β : Type) := (List (List UInt8 × Int)) → (List (Int × (Int × (Int × Int)))) → (List api_Event) → (List (Int × (Int × Int))) → Option β
abbrev ref38_Valid_p2_T := {β : Type} → ref38_Valid_p2_K1 β → ref38_Valid_p2_K2 β → Int → (List (List UInt8 × Int)) → (List (Int × (Int × (Int × Int)))) → (List api_Event) → (List (Int × (Int × Int))) → Option β
def ref38_Valid_p2_v : View := ⟨0, [1, 4], [(false, [.ptr 0 0]), (false, [.data (.int .i64)])], [.cells 41 [.data (.slice (.prod .str (.int .i64))), .data (.slice (.prod (.int .i64) (.prod (.int .i64) (.prod (.int .i64) (.int .i64))))), .data (.slice y_api_Event), .data (.slice (.prod (.int .i64) (.prod (.int .i64) (.int .i64))))]]⟩
def ref38_Valid_p2_o : List (AExit × View) := [(.ret, ⟨0, [2], [(false, [.data .bool])], []⟩), (.exit 2, ⟨0, [1], [(false, [.ptr 0 0])], [.cells 41 [.data (.slice (.prod .str (.int .i64))), .data (.slice (.prod (.int .i64) (.prod (.int .i64) (.prod (.int .i64) (.int .i64))))), .data (.slice y_api_Event), .data (.slice (.prod (.int .i64) (.prod (.int .i64) (.int .i64))))]]⟩)]
@[reducible] def ref38_Valid_p2_G (p : ref38_Valid_p2_T) {β : Type} (d : ref38_Valid_p2_v.den) (ks : Outs.K β ref38_Valid_p2_o) : Option β :=
  p (fun a0 => ks.1 (((a0, ()), ()), ())) (fun a0 a1 a2 a3 => ks.2.1 (((), ()), ((a0, a1, a2, a3, ()), ()))) d.1.2.1.1 d.2.1.1 d.2.1.2.1 d.2.1.2.2.1 d.2.1.2.2.2.1
abbrev ref38_Valid_p3_K1 (β : Type) := Bool → Option β
abbrev ref38_Valid_p3_K2 (β : Type) := (List (List UInt8 × Int)) → (List (Int × (Int × (Int × Int)))) → (List api_Event) → (List (Int × (Int × Int))) → Option β
abbrev ref38_Valid_p3_T := {β : Type} → ref38_Valid_p3_K1 β → ref38_Valid_p3_K2 β → Int → (List (List UInt8 × Int)) → (List (Int × (Int × (Int × Int)))) → (List api_Event) → (List (Int × (Int × Int))) → Option β
def ref38_Valid_p3_v : View := ⟨0, [1, 6], [(false, [.ptr 0 0]), (false, [.data (.int .i64)])], [.cells 41 [.data (.slice (.prod .str (.int .i64))), .data (.slice (.prod (.int .i64) (.prod (.int .i64) (.prod (.int .i64) (.int .i64))))), .data (.slice y_api_Event), .data (.slice (.prod (.int .i64) (.prod (.int .i64) (.int .i64))))]]⟩
def ref38_Valid_p3_o : List (AExit × View) := [(.ret, ⟨0, [2], [(false, [.data .bool])], []⟩), (.exit 4, ⟨0, [1], [(false, [.ptr 0 0])], [.cells 41 [.data (.slice (.prod .str (.int .i64))), .data (.slice (.prod (.int .i64) (.prod (.int .i64) (.prod (.int .i64) (.int .i64))))), .data (.slice y_api_Event), .data (.slice (.prod (.int .i64) (.prod (.int .i64) (.int .i64))))]]⟩)]
@[reducible] def ref38_Valid_p3_G (p : ref38_Valid_p3_T) {β : Type} (d : ref38_Valid_p3_v.den) (ks : Outs.K β ref38_Valid_p3_o) : Option β :=
  p (fun a0 => ks.1 (((a0, ()), ()), ())) (fun a0 a1 a2 a3 => ks.2.1 (((), ()), ((a0, a1, a2, a3, ()), ()))) d.1.2.1.1 d.2.1.1 d.2.1.2.1 d.2.1.2.2.1 d.2.1.2.2.2.1
abbrev ref38_Valid_p4_K1 (β : Type) := Bool → Option β
abbrev ref38_Valid_p4_K2 (β : Type) := Unit → Option β
abbrev ref38_Valid_p4_T := {β : Type} → ref38_Valid_p4_K1 β → ref38_Valid_p4_K2 β → Int → (List (List UInt8 × Int)) → (List (Int × (Int × (Int × Int)))) → (List api_Event) → (List (Int × (Int × Int))) → Option β
def ref38_Valid_p4_v : View := ⟨0, [1, 8], [(false, [.ptr 0 0]), (false, [.data (.int .i64)])], [.cells 41 [.data (.slice (.prod .str (.int .i64))), .data (.slice (.prod (.int .i64) (.prod (.int .i64) (.prod (.int .i64) (.int .i64))))), .data (.slice y_api_Event), .data (.slice (.prod (.int .i64) (.prod (.int .i64) (.int .i64))))]]⟩
def ref38_Valid_p4_o : List (AExit × View) := [(.ret, ⟨0, [2], [(false, [.data .bool])], []⟩), (.exit 6, ⟨0, [], [], []⟩)]
@[reducible] def ref38_Valid_p4_G (p : ref38_Valid_p4_T) {β : Type} (d : ref38_Valid_p4_v.den) (ks : Outs.K β ref38_Valid_p4_o) : Option β :=
  p (fun a0 => ks.1 (((a0, ()), ()), ())) (fun _ => ks.2.1 ((), ())) d.1.2.1.1 d.2.1.1 d.2.1.2.1 d.2.1.2.2.1 d.2.1.2.2.2.1
section
variable (c_ref25_In : T_ref25_In)
@[reducible] def ref38_Valid_X : Ctx := ⟨look tab, pick1 [(56, .spec (ref25_In_S c_ref25_In))], false⟩
def ref38_Valid_p1_s {β : Type} (rec : Int → (List (List UInt8 × Int)) → (List (Int × (Int × (Int × Int)))) → (List api_Event) → (List (Int × (Int × Int))) → Option β) (k1 : ref38_Valid_p1_K1 β) (k2 : ref38_Valid_p1_K2 β) (i_ : Int) (r_ : List (List UInt8 × Int)) (r_2 : List (Int × (Int × (Int × Int)))) (r_3 : List api_Event) (r_4 : List (Int × (Int × Int))) : Option β :=
  cond (decide (i_ < (List.length r_ : Int)))
  (cond (decide (0 ≤ i_) && decide (i_ < (List.length r_ : Int)))
  (let e : (List UInt8 × Int) := List.getD r_ (Int.toNat i_) (([] : List UInt8), (0 : Int));
  c_ref25_In e.2 (0 : Int) (500000 : Int) (fun (rIn : Bool) =>
  cond (!rIn)
  (k1 false)
  (let i_2 : Int := (IntKind.i64.wrap (i_ + (1 : Int)));
  rec i_2 r_ r_2 r_3 r_4)))
  none)
  (k2 r_ r_2 r_3 r_4)
def ref38_Valid_p1_l {β : Type} : Nat → ref38_Valid_p1_K1 β → ref38_Valid_p1_K2 β → Int → (List (List UInt8 × Int)) → (List (Int × (Int × (Int × Int)))) → (List api_Event) → (List (Int × (Int × Int))) → Option β
  | 0 => fun _ _ _ _ _ _ _ => none
  | i + 1 => fun k1 k2 i_ r_ r_2 r_3 r_4 => ref38_Valid_p1_s c_ref25_In (ref38_Valid_p1_l i k1 k2) k1 k2 i_ r_ r_2 r_3 r_4
theorem ref38_Valid_p1_ok' (hΓ : ΓOk Try.prog (ref38_Valid_X c_ref25_In).Γ) (i : Nat) : PieceOk Try.prog 155 0 ref38_Valid_p1_code ref38_Valid_p1_v ref38_Valid_p1_o (ref38_Valid_p1_G (ref38_Valid_p1_l c_ref25_In i)) := by
  rw [show ref38_Valid_p1_code = .loop (loopBody ref38_Valid_p1_code) by kernel_rfl]
  exact piece_loop (X := (ref38_Valid_X c_ref25_In)) (p := 1) (Λ := pick1 []) (G := fun i => @fun β d ks => ref38_Valid_p1_G (ref38_Valid_p1_l c_ref25_In i) d ks) mixed tab_ok hΓ rfl (by kernel_rfl) CutsOk_nil (fun _ _ => rfl) (fun i => @fun β d ks r h => Eq.trans (b := ref38_Valid_p1_G (ref38_Valid_p1_l c_ref25_In (i + 1)) d ks) (by kernel_rfl) h) i
def ref38_Valid_p2_s {β : Type} (rec : Int → (List (List UInt8 × Int)) → (List (Int × (Int × (Int × Int)))) → (List api_Event) → (List (Int × (Int × Int))) → Option β) (k1 : ref38_Valid_p2_K1 β) (k2 : ref38_Valid_p2_K2 β) (i_ : Int) (r_ : List (List UInt8 × Int)) (r_2 : List (Int × (Int × (Int × Int)))) (r_3 : List api_Event) (r_4 : List (Int × (Int × Int))) : Option β :=
  cond (decide (i_ < (List.length r_2 : Int)))
  (cond (decide (0 ≤ i_) && decide (i_ < (List.length r_2 : Int)))
  (let e : (Int × (Int × (Int × Int))) := List.getD r_2 (Int.toNat i_) ((0 : Int), ((0 : Int), ((0 : Int), (0 : Int))));
  c_ref25_In e.1 (0 : Int) (IntKind.i64.wrap ((List.length r_ : Int) - (1 : Int))) (fun (rIn : Bool) =>
  cond (!rIn)
  (k1 false)
  (c_ref25_In e.2.1 (0 : Int) (8589934592 : Int) (fun (rIn2 : Bool) =>
  cond (!rIn2)
  (k1 false)
  (c_ref25_In e.2.2.1 (0 : Int) e.2.2.2 (fun (rIn3 : Bool) =>
  cond (!rIn3)
  (k1 false)
  (cond (decide ((8589934592 : Int) < e.2.2.2))
  (k1 false)
  (let i_2 : Int := (IntKind.i64.wrap (i_ + (1 : Int)));
  rec i_2 r_ r_2 r_3 r_4))))))))
  none)
  (k2 r_ r_2 r_3 r_4)
def ref38_Valid_p2_l {β : Type} : Nat → ref38_Valid_p2_K1 β → ref38_Valid_p2_K2 β → Int → (List (List UInt8 × Int)) → (List (Int × (Int × (Int × Int)))) → (List api_Event) → (List (Int × (Int × Int))) → Option β
  | 0 => fun _ _ _ _ _ _ _ => none
  | i + 1 => fun k1 k2 i_ r_ r_2 r_3 r_4 => ref38_Valid_p2_s c_ref25_In (ref38_Valid_p2_l i k1 k2) k1 k2 i_ r_ r_2 r_3 r_4
theorem ref38_Valid_p2_ok' (hΓ : ΓOk Try.prog (ref38_Valid_X c_ref25_In).Γ) (i : Nat) : PieceOk Try.prog 155 0 ref38_Valid_p2_code ref38_Valid_p2_v ref38_Valid_p2_o (ref38_Valid_p2_G (ref38_Valid_p2_l c_ref25_In i)) := by
  rw [show ref38_Valid_p2_code = .loop (loopBody ref38_Valid_p2_code) by kernel_rfl]
  exact piece_loop (X := (ref38_Valid_X c_ref25_In)) (p := 1) (Λ := pick1 []) (G := fun i => @fun β d ks => ref38_Valid_p2_G (ref38_Valid_p2_l c_ref25_In i) d ks) mixed tab_ok hΓ rfl (by kernel_rfl) CutsOk_nil (fun _ _ => rfl) (fun i => @fun β d ks r h => Eq.trans (b := ref38_Valid_p2_G (ref38_Valid_p2_l c_ref25_In (i + 1)) d ks) (by kernel_rfl) h) i
def ref38_Valid_p3_s {β : Type} (rec : Int → (List (List UInt8 × Int)) → (List (Int × (Int × (Int × Int)))) → (List api_Event) → (List (Int × (Int × Int))) → Option β) (k1 : ref38_Valid_p3_K1 β) (k2 : ref38_Valid_p3_K2 β) (i_ : Int) (r_ : List (List UInt8 × Int)) (r_2 : List (Int × (Int × (Int × Int)))) (r_3 : List api_Event) (r_4 : List (Int × (Int × Int))) : Option β :=
  cond (decide (i_ < (List.length r_3 : Int)))
  (cond (decide (0 ≤ i_) && decide (i_ < (List.length r_3 : Int)))
  (let e : api_Event := List.getD r_3 (Int.toNat i_) ((0 : Int), ((0 : Int), ([] : List UInt8)));
  c_ref25_In e.1 (0 : Int) (IntKind.i64.wrap ((List.length r_ : Int) - (1 : Int))) (fun (rIn : Bool) =>
  cond (!rIn)
  (k1 false)
  (c_ref25_In e.2.1 (0 : Int) (8589934592 : Int) (fun (rIn2 : Bool) =>
  cond (!rIn2)
  (k1 false)
  (let i_2 : Int := (IntKind.i64.wrap (i_ + (1 : Int)));
  rec i_2 r_ r_2 r_3 r_4)))))
  none)
  (k2 r_ r_2 r_3 r_4)
def ref38_Valid_p3_l {β : Type} : Nat → ref38_Valid_p3_K1 β → ref38_Valid_p3_K2 β → Int → (List (List UInt8 × Int)) → (List (Int × (Int × (Int × Int)))) → (List api_Event) → (List (Int × (Int × Int))) → Option β
  | 0 => fun _ _ _ _ _ _ _ => none
  | i + 1 => fun k1 k2 i_ r_ r_2 r_3 r_4 => ref38_Valid_p3_s c_ref25_In (ref38_Valid_p3_l i k1 k2) k1 k2 i_ r_ r_2 r_3 r_4
theorem ref38_Valid_p3_ok' (hΓ : ΓOk Try.prog (ref38_Valid_X c_ref25_In).Γ) (i : Nat) : PieceOk Try.prog 155 0 ref38_Valid_p3_code ref38_Valid_p3_v ref38_Valid_p3_o (ref38_Valid_p3_G (ref38_Valid_p3_l c_ref25_In i)) := by
  rw [show ref38_Valid_p3_code = .loop (loopBody ref38_Valid_p3_code) by kernel_rfl]
  exact piece_loop (X := (ref38_Valid_X c_ref25_In)) (p := 1) (Λ := pick1 []) (G := fun i => @fun β d ks => ref38_Valid_p3_G (ref38_Valid_p3_l c_ref25_In i) d ks) mixed tab_ok hΓ rfl (by kernel_rfl) CutsOk_nil (fun _ _ => rfl) (fun i => @fun β d ks r h => Eq.trans (b := ref38_Valid_p3_G (ref38_Valid_p3_l c_ref25_In (i + 1)) d ks) (by kernel_rfl) h) i
def ref38_Valid_p4_s {β : Type} (rec : Int → (List (List UInt8 × Int)) → (List (Int × (Int × (Int × Int)))) → (List api_Event) → (List (Int × (Int × Int))) → Option β) (k1 : ref38_Valid_p4_K1 β) (k2 : ref38_Valid_p4_K2 β) (i_ : Int) (r_ : List (List UInt8 × Int)) (r_2 : List (Int × (Int × (Int × Int)))) (r_3 : List api_Event) (r_4 : List (Int × (Int × Int))) : Option β :=
  cond (decide (i_ < (List.length r_4 : Int)))
  (cond (decide (0 ≤ i_) && decide (i_ < (List.length r_4 : Int)))
  (let e : (Int × (Int × Int)) := List.getD r_4 (Int.toNat i_) ((0 : Int), ((0 : Int), (0 : Int)));
  c_ref25_In e.1 (0 : Int) (IntKind.i64.wrap ((List.length r_3 : Int) - (1 : Int))) (fun (rIn : Bool) =>
  cond (!rIn)
  (k1 false)
  (c_ref25_In e.2.1 (0 : Int) (IntKind.i64.wrap ((List.length r_3 : Int) - (1 : Int))) (fun (rIn2 : Bool) =>
  cond (!rIn2)
  (k1 false)
  (cond (decide (e.1 = e.2.1))
  (k1 false)
  (c_ref25_In e.2.2 (0 : Int) (8589934592 : Int) (fun (rIn3 : Bool) =>
  cond (!rIn3)
  (k1 false)
  (let i_2 : Int := (IntKind.i64.wrap (i_ + (1 : Int)));
  rec i_2 r_ r_2 r_3 r_4))))))))
  none)
  (k2 ())
def ref38_Valid_p4_l {β : Type} : Nat → ref38_Valid_p4_K1 β → ref38_Valid_p4_K2 β → Int → (List (List UInt8 × Int)) → (List (Int × (Int × (Int × Int)))) → (List api_Event) → (List (Int × (Int × Int))) → Option β
  | 0 => fun _ _ _ _ _ _ _ => none
  | i + 1 => fun k1 k2 i_ r_ r_2 r_3 r_4 => ref38_Valid_p4_s c_ref25_In (ref38_Valid_p4_l i k1 k2) k1 k2 i_ r_ r_2 r_3 r_4
theorem ref38_Valid_p4_ok' (hΓ : ΓOk Try.prog (ref38_Valid_X c_ref25_In).Γ) (i : Nat) : PieceOk Try.prog 155 0 ref38_Valid_p4_code ref38_Valid_p4_v ref38_Valid_p4_o (ref38_Valid_p4_G (ref38_Valid_p4_l c_ref25_In i)) := by
  rw [show ref38_Valid_p4_code = .loop (loopBody ref38_Valid_p4_code) by kernel_rfl]
  exact piece_loop (X := (ref38_Valid_X c_ref25_In)) (p := 1) (Λ := pick1 []) (G := fun i => @fun β d ks => ref38_Valid_p4_G (ref38_Valid_p4_l c_ref25_In i) d ks) mixed tab_ok hΓ rfl (by kernel_rfl) CutsOk_nil (fun _ _ => rfl) (fun i => @fun β d ks r h => Eq.trans (b := ref38_Valid_p4_G (ref38_Valid_p4_l c_ref25_In (i + 1)) d ks) (by kernel_rfl) h) i
def ref38_Valid_s (p1 : ref38_Valid_p1_T) (p2 : ref38_Valid_p2_T) (p3 : ref38_Valid_p3_T) (p4 : ref38_Valid_p4_T) {β : Type} (r_ : api_Record) (k : (Bool → Option β)) : Option β :=
  cond (decide ((8 : Int) < (List.length r_.1 : Int)))
  (k false)
  (cond (decide ((64 : Int) < (List.length r_.2.1 : Int)))
  (k false)
  (cond (decide ((40 : Int) < (List.length r_.2.2.1 : Int)))
  (k false)
  (cond (decide ((64 : Int) < (List.length r_.2.2.2 : Int)))
  (k false)
  (p1 (fun (t2 : Bool) =>
  k t2) (fun (r_2 : List (List UInt8 × Int)) (r_3 : List (Int × (Int × (Int × Int)))) (r_4 : List api_Event) (r_5 : List (Int × (Int × Int))) =>
  p2 (fun (t2 : Bool) =>
  k t2) (fun (r_6 : List (List UInt8 × Int)) (r_7 : List (Int × (Int × (Int × Int)))) (r_8 : List api_Event) (r_9 : List (Int × (Int × Int))) =>
  p3 (fun (t2 : Bool) =>
  k t2) (fun (r_10 : List (List UInt8 × Int)) (r_11 : List (Int × (Int × (Int × Int)))) (r_12 : List api_Event) (r_13 : List (Int × (Int × Int))) =>
  p4 (fun (t2 : Bool) =>
  k t2) (fun (_ : Unit) =>
  k true) (0 : Int) r_10 r_11 r_12 r_13) (0 : Int) r_6 r_7 r_8 r_9) (0 : Int) r_2 r_3 r_4 r_5) (0 : Int) r_.1 r_.2.1 r_.2.2.1 r_.2.2.2))))
theorem ref38_Valid_ok' (hΓ : ΓOk Try.prog (ref38_Valid_X c_ref25_In).Γ) (p1 : ref38_Valid_p1_T) (p2 : ref38_Valid_p2_T) (p3 : ref38_Valid_p3_T) (p4 : ref38_Valid_p4_T) (hp1 : PieceOk Try.prog 155 0 ref38_Valid_p1_code ref38_Valid_p1_v ref38_Valid_p1_o (ref38_Valid_p1_G p1)) (hp2 : PieceOk Try.prog 155 0 ref38_Valid_p2_code ref38_Valid_p2_v ref38_Valid_p2_o (ref38_Valid_p2_G p2)) (hp3 : PieceOk Try.prog 155 0 ref38_Valid_p3_code ref38_Valid_p3_v ref38_Valid_p3_o (ref38_Valid_p3_G p3)) (hp4 : PieceOk Try.prog 155 0 ref38_Valid_p4_code ref38_Valid_p4_v ref38_Valid_p4_o (ref38_Valid_p4_G p4)) : SpecOk Try.prog 30 (ref38_Valid_S (ref38_Valid_s p1 p2 p3 p4)) :=
  spec_exec (X := (ref38_Valid_X c_ref25_In)) (Λ := pick1 [(58, pieceCut ref38_Valid_p1_v ref38_Valid_p1_o (ref38_Valid_p1_G p1)), (122, pieceCut ref38_Valid_p2_v ref38_Valid_p2_o (ref38_Valid_p2_G p2)), (250, pieceCut ref38_Valid_p3_v ref38_Valid_p3_o (ref38_Valid_p3_G p3)), (506, pieceCut ref38_Valid_p4_v ref38_Valid_p4_o (ref38_Valid_p4_G p4))]) (rs := [.tmp 2]) (c := bodyOf Try.f30) mixed tab_ok hΓ Try.func30 (by kernel_rfl) (by kernel_rfl) (by kernel_rfl) (by kernel_rfl) (CutsOk_cons (q := 58) (c' := ref38_Valid_p1_code) (by kernel_rfl) rfl hp1 (CutsOk_cons (q := 122) (c' := ref38_Valid_p2_code) (by kernel_rfl) rfl hp2 (CutsOk_cons (q := 250) (c' := ref38_Valid_p3_code) (by kernel_rfl) rfl hp3 (CutsOk_cons (q := 506) (c' := ref38_Valid_p4_code) (by kernel_rfl) rfl hp4 CutsOk_nil)))) (fun x k r h => Eq.trans (b := (ref38_Valid_S (ref38_Valid_s p1 p2 p3 p4)).run x k) (by kernel_rfl) h)
end
theorem ref38_Valid_Γ : ΓOk Try.prog (pick1 [(56, .spec (ref25_In_S ref25_In))]) := (ΓOk_cons ref25_In_ok ΓOk_nil)
def ref38_Valid_p1_n (m : Nat) : ref38_Valid_p1_T := ref38_Valid_p1_l ref25_In m
theorem ref38_Valid_p1_step {β : Type} (i : Nat) (k1 k2 i_ r_ r_2 r_3 r_4) : (ref38_Valid_p1_n (i + 1) k1 k2 i_ r_ r_2 r_3 r_4 : Option β) = ref38_Valid_p1_s ref25_In (ref38_Valid_p1_n i k1 k2) k1 k2 i_ r_ r_2 r_3 r_4 := rfl
def ref38_Valid_p1 : ref38_Valid_p1_T := ref38_Valid_p1_n fuel
theorem ref38_Valid_p1_ok : PieceOk Try.prog 155 0 ref38_Valid_p1_code ref38_Valid_p1_v ref38_Valid_p1_o (ref38_Valid_p1_G ref38_Valid_p1) := ref38_Valid_p1_ok' ref25_In ref38_Valid_Γ fuel
def ref38_Valid_p2_n (m : Nat) : ref38_Valid_p2_T := ref38_Valid_p2_l ref25_In m
theorem ref38_Valid_p2_step {β : Type} (i : Nat) (k1 k2 i_ r_ r_2 r_3 r_4) : (ref38_Valid_p2_n (i + 1) k1 k2 i_ r_ r_2 r_3 r_4 : Option β) = ref38_Valid_p2_s ref25_In (ref38_Valid_p2_n i k1 k2) k1 k2 i_ r_ r_2 r_3 r_4 := rfl
def ref38_Valid_p2 : ref38_Valid_p2_T := ref38_Valid_p2_n fuel
theorem ref38_Valid_p2_ok : PieceOk Try.prog 155 0 ref38_Valid_p2_code ref38_Valid_p2_v ref38_Valid_p2_o (ref38_Valid_p2_G ref38_Valid_p2) := ref38_Valid_p2_ok' ref25_In ref38_Valid_Γ fuel
def ref38_Valid_p3_n (m : Nat) : ref38_Valid_p3_T := ref38_Valid_p3_l ref25_In m
theorem ref38_Valid_p3_step {β : Type} (i : Nat) (k1 k2 i_ r_ r_2 r_3 r_4) : (ref38_Valid_p3_n (i + 1) k1 k2 i_ r_ r_2 r_3 r_4 : Option β) = ref38_Valid_p3_s ref25_In (ref38_Valid_p3_n i k1 k2) k1 k2 i_ r_ r_2 r_3 r_4 := rfl
def ref38_Valid_p3 : ref38_Valid_p3_T := ref38_Valid_p3_n fuel
theorem ref38_Valid_p3_ok : PieceOk Try.prog 155 0 ref38_Valid_p3_code ref38_Valid_p3_v ref38_Valid_p3_o (ref38_Valid_p3_G ref38_Valid_p3) := ref38_Valid_p3_ok' ref25_In ref38_Valid_Γ fuel
def ref38_Valid_p4_n (m : Nat) : ref38_Valid_p4_T := ref38_Valid_p4_l ref25_In m
theorem ref38_Valid_p4_step {β : Type} (i : Nat) (k1 k2 i_ r_ r_2 r_3 r_4) : (ref38_Valid_p4_n (i + 1) k1 k2 i_ r_ r_2 r_3 r_4 : Option β) = ref38_Valid_p4_s ref25_In (ref38_Valid_p4_n i k1 k2) k1 k2 i_ r_ r_2 r_3 r_4 := rfl
def ref38_Valid_p4 : ref38_Valid_p4_T := ref38_Valid_p4_n fuel
theorem ref38_Valid_p4_ok : PieceOk Try.prog 155 0 ref38_Valid_p4_code ref38_Valid_p4_v ref38_Valid_p4_o (ref38_Valid_p4_G ref38_Valid_p4) := ref38_Valid_p4_ok' ref25_In ref38_Valid_Γ fuel
def ref38_Valid : T_ref38_Valid := ref38_Valid_s ref38_Valid_p1 ref38_Valid_p2 ref38_Valid_p3 ref38_Valid_p4
theorem ref38_Valid_ok : SpecOk Try.prog 30 (ref38_Valid_S ref38_Valid) := ref38_Valid_ok' ref25_In ref38_Valid_Γ ref38_Valid_p1 ref38_Valid_p2 ref38_Valid_p3 ref38_Valid_p4 ref38_Valid_p1_ok ref38_Valid_p2_ok ref38_Valid_p3_ok ref38_Valid_p4_ok

/-- pagewatch/pagewatchref38.Elapsed -/
abbrev T_ref38_Elapsed := {β : Type} → Int → Int → (Int → Int → Option β) → Option β
def ref38_Elapsed_S (c : T_ref38_Elapsed) : Spec :=
  ⟨[(false, [.data (.int .i64)]), (false, [.data (.int .i64)])], [], [(false, [.data (.int .i64)]), (false, [.data (.int .i64)])], [], fun x k => c x.1.1.1 x.1.2.1.1 (fun r0 r1 => k (((r0, ()), (r1, ()), ()), ()))⟩
section
variable (c_ref25_In : T_ref25_In)
@[reducible] def ref38_Elapsed_X : Ctx := ⟨look tab, pick1 [(56, .spec (ref25_In_S c_ref25_In))], false⟩
def ref38_Elapsed_s {β : Type} (drift : Int) (d : Int) (k : (Int → Int → Option β)) : Option β :=
  c_ref25_In drift (0 : Int) (500000 : Int) (fun (rIn : Bool) =>
  cond (!rIn)
  (k (0 : Int) (0 : Int))
  (c_ref25_In d (0 : Int) (8589934592 : Int) (fun (rIn2 : Bool) =>
  cond (!rIn2)
  (k (0 : Int) (0 : Int))
  (cond (!decide ((IntKind.i64.wrap ((1000000 : Int) + drift)) = 0))
  (cond (!decide ((IntKind.i64.wrap ((1000000 : Int) - drift)) = 0))
  (let low : Int := (IntKind.i64.wrap (Int.tdiv (IntKind.i64.wrap (d * (1000000 : Int))) (IntKind.i64.wrap ((1000000 : Int) + drift))));
  let high : Int := (IntKind.i64.wrap (Int.tdiv (IntKind.i64.wrap ((IntKind.i64.wrap ((IntKind.i64.wrap ((IntKind.i64.wrap (d * (1000000 : Int))) + (1000000 : Int))) - drift)) - (1 : Int))) (IntKind.i64.wrap ((1000000 : Int) - drift))));
  k low high)
  none)
  none))))
theorem ref38_Elapsed_ok' (hΓ : ΓOk Try.prog (ref38_Elapsed_X c_ref25_In).Γ) : SpecOk Try.prog 32 (ref38_Elapsed_S (ref38_Elapsed_s c_ref25_In)) :=
  spec_exec (X := (ref38_Elapsed_X c_ref25_In)) (Λ := pick1 []) (rs := [.tmp 4, .tmp 5]) (c := bodyOf Try.f32) mixed tab_ok hΓ Try.func32 (by kernel_rfl) (by kernel_rfl) (by kernel_rfl) (by kernel_rfl) CutsOk_nil (fun x k r h => Eq.trans (b := (ref38_Elapsed_S (ref38_Elapsed_s c_ref25_In)).run x k) (by kernel_rfl) h)
end
theorem ref38_Elapsed_Γ : ΓOk Try.prog (pick1 [(56, .spec (ref25_In_S ref25_In))]) := (ΓOk_cons ref25_In_ok ΓOk_nil)
def ref38_Elapsed : T_ref38_Elapsed := ref38_Elapsed_s ref25_In
theorem ref38_Elapsed_ok : SpecOk Try.prog 32 (ref38_Elapsed_S ref38_Elapsed) := ref38_Elapsed_ok' ref25_In ref38_Elapsed_Γ

/-- pagewatch/pagewatchref38.From -/
abbrev T_ref38_From := {β : Type} → (List UInt8 × Int) → (Int × (Int × (Int × Int))) → Int → ((Int × Int) → Option β) → Option β
def ref38_From_S (c : T_ref38_From) : Spec :=
  ⟨[(true, [.data (.prod .str (.int .i64))]), (true, [.data (.prod (.int .i64) (.prod (.int .i64) (.prod (.int .i64) (.int .i64))))]), (false, [.data (.int .i64)])], [], [(true, [.data (.prod (.int .i64) (.int .i64))])], [], fun x k => c x.1.1.1 x.1.2.1.1 x.1.2.2.1.1 (fun r0 => k (((r0, ()), ()), ()))⟩
section
variable (c_ref25_In : T_ref25_In) (c_ref38_Elapsed : T_ref38_Elapsed)
@[reducible] def ref38_From_X : Ctx := ⟨look tab, pick1 [(56, .spec (ref25_In_S c_ref25_In)), (32, .spec (ref38_Elapsed_S c_ref38_Elapsed))], false⟩
def ref38_From_s {β : Type} (h : (List UInt8 × Int)) (s : (Int × (Int × (Int × Int)))) (clock : Int) (k : ((Int × Int) → Option β)) : Option β :=
  c_ref25_In h.2 (0 : Int) (500000 : Int) (fun (rIn : Bool) =>
  cond (!rIn)
  (k ((-1099511627776 : Int), (1099511627776 : Int)))
  (c_ref25_In s.2.1 (0 : Int) (8589934592 : Int) (fun (rIn2 : Bool) =>
  cond (!rIn2)
  (k ((-1099511627776 : Int), (1099511627776 : Int)))
  (c_ref25_In s.2.2.1 (0 : Int) s.2.2.2 (fun (rIn3 : Bool) =>
  cond (!rIn3)
  (k ((-1099511627776 : Int), (1099511627776 : Int)))
  (cond (decide ((8589934592 : Int) < s.2.2.2))
  (k ((-1099511627776 : Int), (1099511627776 : Int)))
  (c_ref25_In clock (0 : Int) (8589934592 : Int) (fun (rIn4 : Bool) =>
  cond (!rIn4)
  (k ((-1099511627776 : Int), (1099511627776 : Int)))
  (cond (decide (s.2.1 ≤ clock))
  (c_ref38_Elapsed h.2 (IntKind.i64.wrap (clock - s.2.1)) (fun (rElapsed : Int) (rElapsed2 : Int) =>
  k ((IntKind.i64.wrap (s.2.2.1 + rElapsed)), (IntKind.i64.wrap (s.2.2.2 + rElapsed2)))))
  (c_ref38_Elapsed h.2 (IntKind.i64.wrap (s.2.1 - clock)) (fun (rElapsed : Int) (rElapsed2 : Int) =>
  k ((IntKind.i64.wrap (s.2.2.1 - rElapsed2)), (IntKind.i64.wrap (s.2.2.2 - rElapsed))))))))))))))
theorem ref38_From_ok' (hΓ : ΓOk Try.prog (ref38_From_X c_ref25_In c_ref38_Elapsed).Γ) : SpecOk Try.prog 33 (ref38_From_S (ref38_From_s c_ref25_In c_ref38_Elapsed)) :=
  spec_exec (X := (ref38_From_X c_ref25_In c_ref38_Elapsed)) (Λ := pick1 []) (rs := [.cell 6 45]) (c := bodyOf Try.f33) mixed tab_ok hΓ Try.func33 (by kernel_rfl) (by kernel_rfl) (by kernel_rfl) (by kernel_rfl) CutsOk_nil (fun x k r h => Eq.trans (b := (ref38_From_S (ref38_From_s c_ref25_In c_ref38_Elapsed)).run x k) (by kernel_rfl) h)
end
theorem ref38_From_Γ : ΓOk Try.prog (pick1 [(56, .spec (ref25_In_S ref25_In)), (32, .spec (ref38_Elapsed_S ref38_Elapsed))]) := (ΓOk_cons ref25_In_ok (ΓOk_cons ref38_Elapsed_ok ΓOk_nil))
def ref38_From : T_ref38_From := ref38_From_s ref25_In ref38_Elapsed
theorem ref38_From_ok : SpecOk Try.prog 33 (ref38_From_S ref38_From) := ref38_From_ok' ref25_In ref38_Elapsed ref38_From_Γ

/-- pagewatch/pagewatchref38.Shift -/
abbrev T_ref38_Shift := {β : Type} → (Int × Int) → Int → ((Int × Int) → Option β) → Option β
def ref38_Shift_S (c : T_ref38_Shift) : Spec :=
  ⟨[(true, [.data (.prod (.int .i64) (.int .i64))]), (false, [.data (.int .i64)])], [], [(true, [.data (.prod (.int .i64) (.int .i64))])], [], fun x k => c x.1.1.1 x.1.2.1.1 (fun r0 => k (((r0, ()), ()), ()))⟩
section
variable (c_ref25_In : T_ref25_In) (c_ref38_end : T_ref38_end)
@[reducible] def ref38_Shift_X : Ctx := ⟨look tab, pick1 [(56, .spec (ref25_In_S c_ref25_In)), (57, .spec (ref38_end_S c_ref38_end))], false⟩
def ref38_Shift_s {β : Type} (a : (Int × Int)) (d : Int) (k : ((Int × Int) → Option β)) : Option β :=
  c_ref25_In a.1 (-1099511627776 : Int) (1099511627776 : Int) (fun (rIn : Bool) =>
  cond (!rIn)
  (k a)
  (c_ref25_In a.2 (-1099511627776 : Int) (1099511627776 : Int) (fun (rIn2 : Bool) =>
  cond (!rIn2)
  (k a)
  (c_ref25_In d (-1099511627776 : Int) (1099511627776 : Int) (fun (rIn3 : Bool) =>
  cond (!rIn3)
  (k a)
  (c_ref38_end a.1 d (fun (rend : Int) =>
  c_ref38_end a.2 d (fun (rend2 : Int) =>
  k (rend, rend2)))))))))
theorem ref38_Shift_ok' (hΓ : ΓOk Try.prog (ref38_Shift_X c_ref25_In c_ref38_end).Γ) : SpecOk Try.prog 38 (ref38_Shift_S (ref38_Shift_s c_ref25_In c_ref38_end)) :=
  spec_exec (X := (ref38_Shift_X c_ref25_In c_ref38_end)) (Λ := pick1 []) (rs := [.cell 4 45]) (c := bodyOf Try.f38) mixed tab_ok hΓ Try.func38 (by kernel_rfl) (by kernel_rfl) (by kernel_rfl) (by kernel_rfl) CutsOk_nil (fun x k r h => Eq.trans (b := (ref38_Shift_S (ref38_Shift_s c_ref25_In c_ref38_end)).run x k) (by kernel_rfl) h)
end
theorem ref38_Shift_Γ : ΓOk Try.prog (pick1 [(56, .spec (ref25_In_S ref25_In)), (57, .spec (ref38_end_S ref38_end))]) := (ΓOk_cons ref25_In_ok (ΓOk_cons ref38_end_ok ΓOk_nil))
def ref38_Shift : T_ref38_Shift := ref38_Shift_s ref25_In ref38_end
theorem ref38_Shift_ok : SpecOk Try.prog 38 (ref38_Shift_S ref38_Shift) := ref38_Shift_ok' ref25_In ref38_end ref38_Shift_Γ

/-- pagewatch/order.Fits$1 -/
abbrev T_order_Fits_f1 := {β : Type} → Int → (Bool → Option β) → Option β
def order_Fits_f1_S (c : T_order_Fits_f1) : Spec :=
  ⟨[(false, [.data (.int .i64)])], [], [(false, [.data .bool])], [], fun x k => c x.1.1.1 (fun r0 => k (((r0, ()), ()), ()))⟩
section
variable (c_order_in : T_order_in)
@[reducible] def order_Fits_f1_X : Ctx := ⟨look tab, pick1 [(67, .spec (order_in_S c_order_in))], false⟩
def order_Fits_f1_s {β : Type} (t : Int) (k : (Bool → Option β)) : Option β :=
  c_order_in t (0 : Int) (8589934592 : Int) (fun (rin : Bool) =>
  k (!rin))
theorem order_Fits_f1_ok' (hΓ : ΓOk Try.prog (order_Fits_f1_X c_order_in).Γ) : SpecOk Try.prog 66 (order_Fits_f1_S (order_Fits_f1_s c_order_in)) :=
  spec_exec (X := (order_Fits_f1_X c_order_in)) (Λ := pick1 []) (rs := [.tmp 2]) (c := bodyOf Try.f66) mixed tab_ok hΓ Try.func66 (by kernel_rfl) (by kernel_rfl) (by kernel_rfl) (by kernel_rfl) CutsOk_nil (fun x k r h => Eq.trans (b := (order_Fits_f1_S (order_Fits_f1_s c_order_in)).run x k) (by kernel_rfl) h)
end
theorem order_Fits_f1_Γ : ΓOk Try.prog (pick1 [(67, .spec (order_in_S order_in))]) := (ΓOk_cons order_in_ok ΓOk_nil)
def order_Fits_f1 : T_order_Fits_f1 := order_Fits_f1_s order_in
theorem order_Fits_f1_ok : SpecOk Try.prog 66 (order_Fits_f1_S order_Fits_f1) := order_Fits_f1_ok' order_in order_Fits_f1_Γ

/-- slices.Contains[[]int,int] -/
abbrev T_slices_Contains_int_int := {β : Type} → (List Int) → Int → (Bool → Option β) → Option β
def slices_Contains_int_int_S (c : T_slices_Contains_int_int) : Spec :=
  ⟨[(false, [.data (.slice (.int .i64))]), (false, [.data (.int .i64)])], [], [(false, [.data .bool])], [], fun x k => c x.1.1.1 x.1.2.1.1 (fun r0 => k (((r0, ()), ()), ()))⟩
section
variable (c_slices_Index_int_int : T_slices_Index_int_int)
@[reducible] def slices_Contains_int_int_X : Ctx := ⟨look tab, pick1 [(80, .spec (slices_Index_int_int_S c_slices_Index_int_int))], false⟩
def slices_Contains_int_int_s {β : Type} (s : List Int) (v : Int) (k : (Bool → Option β)) : Option β :=
  c_slices_Index_int_int s v (fun (rIndexintint : Int) =>
  let t : Bool := (decide ((0 : Int) ≤ rIndexintint));
  k t)
theorem slices_Contains_int_int_ok' (hΓ : ΓOk Try.prog (slices_Contains_int_int_X c_slices_Index_int_int).Γ) : SpecOk Try.prog 70 (slices_Contains_int_int_S (slices_Contains_int_int_s c_slices_Index_int_int)) :=
  spec_exec (X := (slices_Contains_int_int_X c_slices_Index_int_int)) (Λ := pick1 []) (rs := [.tmp 4]) (c := bodyOf Try.f70) mixed tab_ok hΓ Try.func70 (by kernel_rfl) (by kernel_rfl) (by kernel_rfl) (by kernel_rfl) CutsOk_nil (fun x k r h => Eq.trans (b := (slices_Contains_int_int_S (slices_Contains_int_int_s c_slices_Index_int_int)).run x k) (by kernel_rfl) h)
end
theorem slices_Contains_int_int_Γ : ΓOk Try.prog (pick1 [(80, .spec (slices_Index_int_int_S slices_Index_int_int))]) := (ΓOk_cons slices_Index_int_int_ok ΓOk_nil)
def slices_Contains_int_int : T_slices_Contains_int_int := slices_Contains_int_int_s slices_Index_int_int
theorem slices_Contains_int_int_ok : SpecOk Try.prog 70 (slices_Contains_int_int_S slices_Contains_int_int) := slices_Contains_int_int_ok' slices_Index_int_int slices_Contains_int_int_Γ

/-- pagewatch/order.pair -/
abbrev T_order_pair := {β : Type} → api_Record → Int → Int → ((List (Int × (Int × Int))) → Option β) → Option β
def order_pair_S (c : T_order_pair) : Spec :=
  ⟨[(true, [.data y_api_Record]), (false, [.data (.int .i64)]), (false, [.data (.int .i64)])], [], [(false, [.rowh 0])], [.row 101 (.prod (.int .i64) (.prod (.int .i64) (.int .i64)))], fun x k => c x.1.1.1 x.1.2.1.1 x.1.2.2.1.1 (fun r0 => k (((), ()), (r0, ())))⟩
noncomputable def order_pair_p1_code : Code := codeAt 15 (bodyOf Try.f73)
abbrev order_pair_p1_K1 (β : Type) := (List (Int × (Int × Int))) → Option β
abbrev order_pair_p1_T := {β : Type} → order_pair_p1_K1 β → Int → Int → (List (List UInt8 × Int)) → (List (Int × (Int × (Int × Int)))) → (List api_Event) → (List (Int × (Int × Int))) → Int → Int → (List UInt8) → Int → Int → (List UInt8) → Option β
def order_pair_p1_v : View := ⟨0, [1, 2, 3, 7, 8], [(false, [.data (.int .i64)]), (false, [.data (.int .i64)]), (false, [.ptr 0 0]), (false, [.ptr 1 0]), (false, [.ptr 2 0])], [.cells 41 [.data (.slice (.prod .str (.int .i64))), .data (.slice (.prod (.int .i64) (.prod (.int .i64) (.prod (.int .i64) (.int .i64))))), .data (.slice y_api_Event), .data (.slice (.prod (.int .i64) (.prod (.int .i64) (.int .i64))))], .cells 65 [.data (.int .i64), .data (.int .i64), .data .str], .cells 65 [.data (.int .i64), .data (.int .i64), .data .str]]⟩
def order_pair_p1_o : List (AExit × View) := [(.ret, ⟨0, [6], [(false, [.rowh 0])], [.row 101 (.prod (.int .i64) (.prod (.int .i64) (.int .i64)))]⟩)]
@[reducible] def order_pair_p1_G (p : order_pair_p1_T) {β : Type} (d : order_pair_p1_v.den) (ks : Outs.K β order_pair_p1_o) : Option β :=
  p (fun a0 => ks.1 (((), ()), (a0, ()))) d.1.1.1 d.1.2.1.1 d.2.1.1 d.2.1.2.1 d.2.1.2.2.1 d.2.1.2.2.2.1 d.2.2.1.1 d.2.2.1.2.1 d.2.2.1.2.2.1 d.2.2.2.1.1 d.2.2.2.1.2.1 d.2.2.2.1.2.2.1
section
variable (c_clock_Elapsed : T_clock_Elapsed)
@[reducible] def order_pair_X : Ctx := ⟨look tab, pick1 [(15, .spec (clock_Elapsed_S c_clock_Elapsed))], false⟩
def order_pair_p1_s {β : Type} (k1 : order_pair_p1_K1 β) (i_ : Int) (j : Int) (r_ : List (List UInt8 × Int)) (r_2 : List (Int × (Int × (Int × Int)))) (r_3 : List api_Event) (r_4 : List (Int × (Int × Int))) (a : Int) (a2 : Int) (a3 : List UInt8) (b : Int) (b2 : Int) (b3 : List UInt8) : Option β :=
  cond (decide (0 ≤ a) && decide (a < (List.length r_ : Int)))
  (let e : (List UInt8 × Int) := List.getD r_ (Int.toNat a) (([] : List UInt8), (0 : Int));
  c_clock_Elapsed e.2 (IntKind.i64.wrap (b2 - a2)) (fun (rElapsed : Int) (rElapsed2 : Int) =>
  let l : List (Int × (Int × Int)) := ([((IntKind.i64.wrap (i_ + (1 : Int))), ((IntKind.i64.wrap (j + (1 : Int))), rElapsed2)), ((IntKind.i64.wrap (j + (1 : Int))), ((IntKind.i64.wrap (i_ + (1 : Int))), (IntKind.i64.wrap (0 - rElapsed))))] : List (Int × (Int × Int)));
  k1 l))
  none
def order_pair_p1_u {β : Type} (k1 : order_pair_p1_K1 β) (i_ : Int) (j : Int) (r_ : List (List UInt8 × Int)) (r_2 : List (Int × (Int × (Int × Int)))) (r_3 : List api_Event) (r_4 : List (Int × (Int × Int))) (a : Int) (a2 : Int) (a3 : List UInt8) (b : Int) (b2 : Int) (b3 : List UInt8) : Option β := order_pair_p1_s c_clock_Elapsed k1 i_ j r_ r_2 r_3 r_4 a a2 a3 b b2 b3
theorem order_pair_p1_ok' (hΓ : ΓOk Try.prog (order_pair_X c_clock_Elapsed).Γ) : PieceOk Try.prog 60 0 order_pair_p1_code order_pair_p1_v order_pair_p1_o (order_pair_p1_G (order_pair_p1_u c_clock_Elapsed)) :=
  piece_exec (X := (order_pair_X c_clock_Elapsed)) (p := 15) (Λ := pick1 []) mixed tab_ok hΓ (by kernel_rfl) CutsOk_nil (fun d ks r h => Eq.trans (b := order_pair_p1_G (order_pair_p1_u c_clock_Elapsed) d ks) (by kernel_rfl) h)
def order_pair_s (p1 : order_pair_p1_T) {β : Type} (r_ : api_Record) (i_ : Int) (j : Int) (k : ((List (Int × (Int × Int))) → Option β)) : Option β :=
  cond (decide (0 ≤ i_) && decide (i_ < (List.length r_.2.2.1 : Int)))
  (let e : api_Event := List.getD r_.2.2.1 (Int.toNat i_) ((0 : Int), ((0 : Int), ([] : List UInt8)));
  cond (decide (0 ≤ j) && decide (j < (List.length r_.2.2.1 : Int)))
  (let e2 : api_Event := List.getD r_.2.2.1 (Int.toNat j) ((0 : Int), ((0 : Int), ([] : List UInt8)));
  cond (decide (e2.2.1 < e.2.1))
  (p1 (fun (t6 : List (Int × (Int × Int))) =>
  k t6) j i_ r_.1 r_.2.1 r_.2.2.1 r_.2.2.2 e2.1 e2.2.1 e2.2.2 e.1 e.2.1 e.2.2)
  (p1 (fun (t6 : List (Int × (Int × Int))) =>
  k t6) i_ j r_.1 r_.2.1 r_.2.2.1 r_.2.2.2 e.1 e.2.1 e.2.2 e2.1 e2.2.1 e2.2.2))
  none)
  none
theorem order_pair_ok' (hΓ : ΓOk Try.prog (order_pair_X c_clock_Elapsed).Γ) (p1 : order_pair_p1_T) (hp1 : PieceOk Try.prog 60 0 order_pair_p1_code order_pair_p1_v order_pair_p1_o (order_pair_p1_G p1)) : SpecOk Try.prog 73 (order_pair_S (order_pair_s p1)) :=
  spec_exec (X := (order_pair_X c_clock_Elapsed)) (Λ := pick1 [(15, pieceCut order_pair_p1_v order_pair_p1_o (order_pair_p1_G p1))]) (rs := [.tmp 6]) (c := bodyOf Try.f73) mixed tab_ok hΓ Try.func73 (by kernel_rfl) (by kernel_rfl) (by kernel_rfl) (by kernel_rfl) (CutsOk_cons (q := 15) (c' := order_pair_p1_code) (by kernel_rfl) rfl hp1 CutsOk_nil) (fun x k r h => Eq.trans (b := (order_pair_S (order_pair_s p1)).run x k) (by kernel_rfl) h)
end
theorem order_pair_Γ : ΓOk Try.prog (pick1 [(15, .spec (clock_Elapsed_S clock_Elapsed))]) := (ΓOk_cons clock_Elapsed_ok ΓOk_nil)
def order_pair_p1 : order_pair_p1_T := order_pair_p1_u clock_Elapsed
theorem order_pair_p1_ok : PieceOk Try.prog 60 0 order_pair_p1_code order_pair_p1_v order_pair_p1_o (order_pair_p1_G order_pair_p1) := order_pair_p1_ok' clock_Elapsed order_pair_Γ
def order_pair : T_order_pair := order_pair_s order_pair_p1
theorem order_pair_ok : SpecOk Try.prog 73 (order_pair_S order_pair) := order_pair_ok' clock_Elapsed order_pair_Γ order_pair_p1 order_pair_p1_ok

/-- pagewatch/constraint.Fits$1 -/
abbrev T_constraint_Fits_f1 := {β : Type} → Int → (Bool → Option β) → Option β
def constraint_Fits_f1_S (c : T_constraint_Fits_f1) : Spec :=
  ⟨[(false, [.data (.int .i64)])], [], [(false, [.data .bool])], [], fun x k => c x.1.1.1 (fun r0 => k (((r0, ()), ()), ()))⟩
section
variable (c_constraint_in : T_constraint_in)
@[reducible] def constraint_Fits_f1_X : Ctx := ⟨look tab, pick1 [(77, .spec (constraint_in_S c_constraint_in))], false⟩
def constraint_Fits_f1_s {β : Type} (v : Int) (k : (Bool → Option β)) : Option β :=
  c_constraint_in v (-1099511627776 : Int) (1099511627776 : Int) (fun (rin : Bool) =>
  k (!rin))
theorem constraint_Fits_f1_ok' (hΓ : ΓOk Try.prog (constraint_Fits_f1_X c_constraint_in).Γ) : SpecOk Try.prog 76 (constraint_Fits_f1_S (constraint_Fits_f1_s c_constraint_in)) :=
  spec_exec (X := (constraint_Fits_f1_X c_constraint_in)) (Λ := pick1 []) (rs := [.tmp 2]) (c := bodyOf Try.f76) mixed tab_ok hΓ Try.func76 (by kernel_rfl) (by kernel_rfl) (by kernel_rfl) (by kernel_rfl) CutsOk_nil (fun x k r h => Eq.trans (b := (constraint_Fits_f1_S (constraint_Fits_f1_s c_constraint_in)).run x k) (by kernel_rfl) h)
end
theorem constraint_Fits_f1_Γ : ΓOk Try.prog (pick1 [(77, .spec (constraint_in_S constraint_in))]) := (ΓOk_cons constraint_in_ok ΓOk_nil)
def constraint_Fits_f1 : T_constraint_Fits_f1 := constraint_Fits_f1_s constraint_in
theorem constraint_Fits_f1_ok : SpecOk Try.prog 76 (constraint_Fits_f1_S constraint_Fits_f1) := constraint_Fits_f1_ok' constraint_in constraint_Fits_f1_Γ

/-- pagewatch/pagewatchlaw38.sane -/
abbrev T_law38_sane := {β : Type} → (Bool → Option β) → Option β
def law38_sane_S (c : T_law38_sane) : Spec :=
  ⟨[], [], [(false, [.data .bool])], [], fun x k => c  (fun r0 => k (((r0, ()), ()), ()))⟩
section
variable (c_clock_Elapsed : T_clock_Elapsed) (c_clock_From : T_clock_From)
@[reducible] def law38_sane_X : Ctx := ⟨look tab, pick1 [(15, .spec (clock_Elapsed_S c_clock_Elapsed)), (26, .spec (clock_From_S c_clock_From))], false⟩
def law38_sane_s {β : Type} (k : (Bool → Option β)) : Option β :=
  c_clock_Elapsed (100000 : Int) (100 : Int) (fun (rElapsed : Int) (rElapsed2 : Int) =>
  c_clock_From (([] : List UInt8), (100000 : Int)) ((0 : Int), ((1000 : Int), ((5000 : Int), (5010 : Int)))) (1100 : Int) (fun (rFrom : (Int × Int)) =>
  cond (decide (rElapsed = (90 : Int)))
  (cond (decide (rElapsed2 = (112 : Int)))
  (cond (decide (rFrom.1 = (5090 : Int)))
  (let t : Bool := (decide (rFrom.2 = (5122 : Int)));
  k t)
  (k false))
  (k false))
  (k false)))
theorem law38_sane_ok' (hΓ : ΓOk Try.prog (law38_sane_X c_clock_Elapsed c_clock_From).Γ) : SpecOk Try.prog 16 (law38_sane_S (law38_sane_s c_clock_Elapsed c_clock_From)) :=
  spec_exec (X := (law38_sane_X c_clock_Elapsed c_clock_From)) (Λ := pick1 []) (rs := [.tmp 0]) (c := bodyOf Try.f16) mixed tab_ok hΓ Try.func16 (by kernel_rfl) (by kernel_rfl) (by kernel_rfl) (by kernel_rfl) CutsOk_nil (fun x k r h => Eq.trans (b := (law38_sane_S (law38_sane_s c_clock_Elapsed c_clock_From)).run x k) (by kernel_rfl) h)
end
theorem law38_sane_Γ : ΓOk Try.prog (pick1 [(15, .spec (clock_Elapsed_S clock_Elapsed)), (26, .spec (clock_From_S clock_From))]) := (ΓOk_cons clock_Elapsed_ok (ΓOk_cons clock_From_ok ΓOk_nil))
def law38_sane : T_law38_sane := law38_sane_s clock_Elapsed clock_From
theorem law38_sane_ok : SpecOk Try.prog 16 (law38_sane_S law38_sane) := law38_sane_ok' clock_Elapsed clock_From law38_sane_Γ

/-- pagewatch/clock.When -/
abbrev T_clock_When := {β : Type} → api_Record → Int → Int → ((Int × Int) → Bool → Option β) → Option β
def clock_When_S (c : T_clock_When) : Spec :=
  ⟨[(true, [.data y_api_Record]), (false, [.data (.int .i64)]), (false, [.data (.int .i64)])], [], [(true, [.data (.prod (.int .i64) (.int .i64))]), (false, [.data .bool])], [], fun x k => c x.1.1.1 x.1.2.1.1 x.1.2.2.1.1 (fun r0 r1 => k (((r0, ()), (r1, ()), ()), ()))⟩
noncomputable def clock_When_p1_code : Code := codeAt 122 (bodyOf Try.f24)
abbrev clock_When_p1_K1 (β : Type) := Int → Int → Int → Int → Option β
abbrev clock_When_p1_T := {β : Type} → clock_When_p1_K1 β → Int → Int → (List (Int × (Int × (Int × Int)))) → Int → Int → (List (List UInt8 × Int)) → (List (Int × (Int × (Int × Int)))) → (List api_Event) → (List (Int × (Int × Int))) → Int → Int → Int → Int → Option β
def clock_When_p1_v : View := ⟨0, [1, 2, 3, 6, 8, 31, 32, 33], [(false, [.data (.int .i64)]), (false, [.data (.int .i64)]), (false, [.ptr 0 0]), (false, [.ptr 1 0]), (false, [.ptr 2 0]), (false, [.data (.slice (.prod (.int .i64) (.prod (.int .i64) (.prod (.int .i64) (.int .i64)))))]), (false, [.data (.int .i64)]), (false, [.data (.int .i64)])], [.cells 41 [.data (.slice (.prod .str (.int .i64))), .data (.slice (.prod (.int .i64) (.prod (.int .i64) (.prod (.int .i64) (.int .i64))))), .data (.slice y_api_Event), .data (.slice (.prod (.int .i64) (.prod (.int .i64) (.int .i64))))], .cells 45 [.data (.int .i64), .data (.int .i64)], .cells 45 [.data (.int .i64), .data (.int .i64)]]⟩
def clock_When_p1_o : List (AExit × View) := [(.exit 0, ⟨0, [6, 8], [(false, [.ptr 0 0]), (false, [.ptr 1 0])], [.cells 45 [.data (.int .i64), .data (.int .i64)], .cells 45 [.data (.int .i64), .data (.int .i64)]]⟩)]
@[reducible] def clock_When_p1_G (p : clock_When_p1_T) {β : Type} (d : clock_When_p1_v.den) (ks : Outs.K β clock_When_p1_o) : Option β :=
  p (fun a0 a1 a2 a3 => ks.1 (((), (), ()), ((a0, a1, ()), (a2, a3, ()), ()))) d.1.1.1 d.1.2.1.1 d.1.2.2.2.2.2.1.1 d.1.2.2.2.2.2.2.1.1 d.1.2.2.2.2.2.2.2.1.1 d.2.1.1 d.2.1.2.1 d.2.1.2.2.1 d.2.1.2.2.2.1 d.2.2.1.1 d.2.2.1.2.1 d.2.2.2.1.1 d.2.2.2.1.2.1
section
variable (c_clock_Empty : T_clock_Empty) (c_clock_From : T_clock_From) (c_clock_Meet : T_clock_Meet) (c_clock_Valid : T_clock_Valid) (c_clock_in : T_clock_in) (c_clock_instant : T_clock_instant)
@[reducible] def clock_When_X : Ctx := ⟨look tab, pick1 [(36, .spec (clock_Empty_S c_clock_Empty)), (26, .spec (clock_From_S c_clock_From)), (34, .spec (clock_Meet_S c_clock_Meet)), (29, .spec (clock_Valid_S c_clock_Valid)), (50, .spec (clock_in_S c_clock_in)), (51, .spec (clock_instant_S c_clock_instant))], false⟩
def clock_When_p1_s {β : Type} (rec : Int → Int → (List (Int × (Int × (Int × Int)))) → Int → Int → (List (List UInt8 × Int)) → (List (Int × (Int × (Int × Int)))) → (List api_Event) → (List (Int × (Int × Int))) → Int → Int → Int → Int → Option β) (k1 : clock_When_p1_K1 β) (host : Int) (clock : Int) (t31 : List (Int × (Int × (Int × Int)))) (t32 : Int) (t33 : Int) (r_ : List (List UInt8 × Int)) (r_2 : List (Int × (Int × (Int × Int)))) (r_3 : List api_Event) (r_4 : List (Int × (Int × Int))) (t6 : Int) (t62 : Int) (out : Int) (out2 : Int) : Option β :=
  cond (decide (t33 < t32))
  (cond (decide (0 ≤ t33) && decide (t33 < (List.length t31 : Int)))
  (let e : (Int × (Int × (Int × Int))) := List.getD t31 (Int.toNat t33) ((0 : Int), ((0 : Int), ((0 : Int), (0 : Int))));
  cond (decide (e.1 = host))
  (cond (decide (0 ≤ host) && decide (host < (List.length r_ : Int)))
  (let e2 : (List UInt8 × Int) := List.getD r_ (Int.toNat host) (([] : List UInt8), (0 : Int));
  c_clock_From e2 e clock (fun (rFrom : (Int × Int)) =>
  c_clock_Meet (out, out2) rFrom (fun (rMeet : (Int × Int)) =>
  rec host clock t31 t32 (IntKind.i64.wrap (t33 + (1 : Int))) r_ r_2 r_3 r_4 t6 t62 rMeet.1 rMeet.2)))
  none)
  (rec host clock t31 t32 (IntKind.i64.wrap (t33 + (1 : Int))) r_ r_2 r_3 r_4 t6 t62 out out2))
  none)
  (k1 t6 t62 out out2)
def clock_When_p1_l {β : Type} : Nat → clock_When_p1_K1 β → Int → Int → (List (Int × (Int × (Int × Int)))) → Int → Int → (List (List UInt8 × Int)) → (List (Int × (Int × (Int × Int)))) → (List api_Event) → (List (Int × (Int × Int))) → Int → Int → Int → Int → Option β
  | 0 => fun _ _ _ _ _ _ _ _ _ _ _ _ _ _ => none
  | i + 1 => fun k1 host clock t31 t32 t33 r_ r_2 r_3 r_4 t6 t62 out out2 => clock_When_p1_s c_clock_From c_clock_Meet (clock_When_p1_l i k1) k1 host clock t31 t32 t33 r_ r_2 r_3 r_4 t6 t62 out out2
theorem clock_When_p1_ok' (hΓ : ΓOk Try.prog (clock_When_X c_clock_Empty c_clock_From c_clock_Meet c_clock_Valid c_clock_in c_clock_instant).Γ) (i : Nat) : PieceOk Try.prog 56 0 clock_When_p1_code clock_When_p1_v clock_When_p1_o (clock_When_p1_G (clock_When_p1_l c_clock_From c_clock_Meet i)) := by
  rw [show clock_When_p1_code = .loop (loopBody clock_When_p1_code) by kernel_rfl]
  exact piece_loop (X := (clock_When_X c_clock_Empty c_clock_From c_clock_Meet c_clock_Valid c_clock_in c_clock_instant)) (p := 1) (Λ := pick1 []) (G := fun i => @fun β d ks => clock_When_p1_G (clock_When_p1_l c_clock_From c_clock_Meet i) d ks) mixed tab_ok hΓ rfl (by kernel_rfl) CutsOk_nil (fun _ _ => rfl) (fun i => @fun β d ks r h => Eq.trans (b := clock_When_p1_G (clock_When_p1_l c_clock_From c_clock_Meet (i + 1)) d ks) (by kernel_rfl) h) i
def clock_When_s (p1 : clock_When_p1_T) {β : Type} (r_ : api_Record) (host : Int) (clock : Int) (k : ((Int × Int) → Bool → Option β)) : Option β :=
  c_clock_Valid r_ (fun (rValid : Bool) =>
  cond (!rValid)
  (k ((0 : Int), (0 : Int)) false)
  (c_clock_in host (0 : Int) (IntKind.i64.wrap ((List.length r_.1 : Int) - (1 : Int))) (fun (rin : Bool) =>
  cond (!rin)
  (k ((0 : Int), (0 : Int)) false)
  (c_clock_instant clock (fun (rinstant : Bool) =>
  cond (!rinstant)
  (k ((0 : Int), (0 : Int)) false)
  (p1 (fun (t6 : Int) (t62 : Int) (out : Int) (out2 : Int) =>
  c_clock_Empty (out, out2) (fun (rEmpty : Bool) =>
  k (out, out2) (!rEmpty))) host clock r_.2.1 (List.length r_.2.1 : Int) (0 : Int) r_.1 r_.2.1 r_.2.2.1 r_.2.2.2 (0 : Int) (0 : Int) (0 : Int) (8589934592 : Int)))))))
theorem clock_When_ok' (hΓ : ΓOk Try.prog (clock_When_X c_clock_Empty c_clock_From c_clock_Meet c_clock_Valid c_clock_in c_clock_instant).Γ) (p1 : clock_When_p1_T) (hp1 : PieceOk Try.prog 56 0 clock_When_p1_code clock_When_p1_v clock_When_p1_o (clock_When_p1_G p1)) : SpecOk Try.prog 24 (clock_When_S (clock_When_s c_clock_Empty c_clock_Valid c_clock_in c_clock_instant p1)) :=
  spec_exec (X := (clock_When_X c_clock_Empty c_clock_From c_clock_Meet c_clock_Valid c_clock_in c_clock_instant)) (Λ := pick1 [(122, pieceCut clock_When_p1_v clock_When_p1_o (clock_When_p1_G p1))]) (rs := [.cell 6 45, .tmp 7]) (c := bodyOf Try.f24) mixed tab_ok hΓ Try.func24 (by kernel_rfl) (by kernel_rfl) (by kernel_rfl) (by kernel_rfl) (CutsOk_cons (q := 122) (c' := clock_When_p1_code) (by kernel_rfl) rfl hp1 CutsOk_nil) (fun x k r h => Eq.trans (b := (clock_When_S (clock_When_s c_clock_Empty c_clock_Valid c_clock_in c_clock_instant p1)).run x k) (by kernel_rfl) h)
end
theorem clock_When_Γ : ΓOk Try.prog (pick1 [(36, .spec (clock_Empty_S clock_Empty)), (26, .spec (clock_From_S clock_From)), (34, .spec (clock_Meet_S clock_Meet)), (29, .spec (clock_Valid_S clock_Valid)), (50, .spec (clock_in_S clock_in)), (51, .spec (clock_instant_S clock_instant))]) := (ΓOk_cons clock_Empty_ok (ΓOk_cons clock_From_ok (ΓOk_cons clock_Meet_ok (ΓOk_cons clock_Valid_ok (ΓOk_cons clock_in_ok (ΓOk_cons clock_instant_ok ΓOk_nil))))))
def clock_When_p1_n (m : Nat) : clock_When_p1_T := clock_When_p1_l clock_From clock_Meet m
theorem clock_When_p1_step {β : Type} (i : Nat) (k1 host clock t31 t32 t33 r_ r_2 r_3 r_4 t6 t62 out out2) : (clock_When_p1_n (i + 1) k1 host clock t31 t32 t33 r_ r_2 r_3 r_4 t6 t62 out out2 : Option β) = clock_When_p1_s clock_From clock_Meet (clock_When_p1_n i k1) k1 host clock t31 t32 t33 r_ r_2 r_3 r_4 t6 t62 out out2 := rfl
def clock_When_p1 : clock_When_p1_T := clock_When_p1_n fuel
theorem clock_When_p1_ok : PieceOk Try.prog 56 0 clock_When_p1_code clock_When_p1_v clock_When_p1_o (clock_When_p1_G clock_When_p1) := clock_When_p1_ok' clock_Empty clock_From clock_Meet clock_Valid clock_in clock_instant clock_When_Γ fuel
def clock_When : T_clock_When := clock_When_s clock_Empty clock_Valid clock_in clock_instant clock_When_p1
theorem clock_When_ok : SpecOk Try.prog 24 (clock_When_S clock_When) := clock_When_ok' clock_Empty clock_From clock_Meet clock_Valid clock_in clock_instant clock_When_Γ clock_When_p1 clock_When_p1_ok

/-- pagewatch/pagewatchref38.When -/
abbrev T_ref38_When := {β : Type} → api_Record → Int → Int → ((Int × Int) → Bool → Option β) → Option β
def ref38_When_S (c : T_ref38_When) : Spec :=
  ⟨[(true, [.data y_api_Record]), (false, [.data (.int .i64)]), (false, [.data (.int .i64)])], [], [(true, [.data (.prod (.int .i64) (.int .i64))]), (false, [.data .bool])], [], fun x k => c x.1.1.1 x.1.2.1.1 x.1.2.2.1.1 (fun r0 r1 => k (((r0, ()), (r1, ()), ()), ()))⟩
noncomputable def ref38_When_p1_code : Code := codeAt 122 (bodyOf Try.f31)
abbrev ref38_When_p1_K1 (β : Type) := Int → Int → Int → Int → Option β
abbrev ref38_When_p1_T := {β : Type} → ref38_When_p1_K1 β → Int → Int → Int → (List (List UInt8 × Int)) → (List (Int × (Int × (Int × Int)))) → (List api_Event) → (List (Int × (Int × Int))) → Int → Int → Int → Int → Option β
def ref38_When_p1_v : View := ⟨0, [1, 2, 3, 6, 8, 9], [(false, [.data (.int .i64)]), (false, [.data (.int .i64)]), (false, [.ptr 0 0]), (false, [.ptr 1 0]), (false, [.ptr 2 0]), (false, [.data (.int .i64)])], [.cells 41 [.data (.slice (.prod .str (.int .i64))), .data (.slice (.prod (.int .i64) (.prod (.int .i64) (.prod (.int .i64) (.int .i64))))), .data (.slice y_api_Event), .data (.slice (.prod (.int .i64) (.prod (.int .i64) (.int .i64))))], .cells 45 [.data (.int .i64), .data (.int .i64)], .cells 45 [.data (.int .i64), .data (.int .i64)]]⟩
def ref38_When_p1_o : List (AExit × View) := [(.exit 0, ⟨0, [6, 8], [(false, [.ptr 0 0]), (false, [.ptr 1 0])], [.cells 45 [.data (.int .i64), .data (.int .i64)], .cells 45 [.data (.int .i64), .data (.int .i64)]]⟩)]
@[reducible] def ref38_When_p1_G (p : ref38_When_p1_T) {β : Type} (d : ref38_When_p1_v.den) (ks : Outs.K β ref38_When_p1_o) : Option β :=
  p (fun a0 a1 a2 a3 => ks.1 (((), (), ()), ((a0, a1, ()), (a2, a3, ()), ()))) d.1.1.1 d.1.2.1.1 d.1.2.2.2.2.2.1.1 d.2.1.1 d.2.1.2.1 d.2.1.2.2.1 d.2.1.2.2.2.1 d.2.2.1.1 d.2.2.1.2.1 d.2.2.2.1.1 d.2.2.2.1.2.1
section
variable (c_ref25_In : T_ref25_In) (c_ref38_Empty : T_ref38_Empty) (c_ref38_From : T_ref38_From) (c_ref38_Meet : T_ref38_Meet) (c_ref38_Valid : T_ref38_Valid)
@[reducible] def ref38_When_X : Ctx := ⟨look tab, pick1 [(56, .spec (ref25_In_S c_ref25_In)), (37, .spec (ref38_Empty_S c_ref38_Empty)), (33, .spec (ref38_From_S c_ref38_From)), (35, .spec (ref38_Meet_S c_ref38_Meet)), (30, .spec (ref38_Valid_S c_ref38_Valid))], false⟩
def ref38_When_p1_s {β : Type} (rec : Int → Int → Int → (List (List UInt8 × Int)) → (List (Int × (Int × (Int × Int)))) → (List api_Event) → (List (Int × (Int × Int))) → Int → Int → Int → Int → Option β) (k1 : ref38_When_p1_K1 β) (host : Int) (clock : Int) (i_ : Int) (r_ : List (List UInt8 × Int)) (r_2 : List (Int × (Int × (Int × Int)))) (r_3 : List api_Event) (r_4 : List (Int × (Int × Int))) (t6 : Int) (t62 : Int) (out : Int) (out2 : Int) : Option β :=
  cond (decide (i_ < (List.length r_2 : Int)))
  (cond (decide (0 ≤ i_) && decide (i_ < (List.length r_2 : Int)))
  (let e : (Int × (Int × (Int × Int))) := List.getD r_2 (Int.toNat i_) ((0 : Int), ((0 : Int), ((0 : Int), (0 : Int))));
  cond (decide (e.1 = host))
  (cond (decide (0 ≤ host) && decide (host < (List.length r_ : Int)))
  (let e2 : (List UInt8 × Int) := List.getD r_ (Int.toNat host) (([] : List UInt8), (0 : Int));
  cond (decide (0 ≤ i_) && decide (i_ < (List.length r_2 : Int)))
  (let e3 : (Int × (Int × (Int × Int))) := List.getD r_2 (Int.toNat i_) ((0 : Int), ((0 : Int), ((0 : Int), (0 : Int))));
  c_ref38_From e2 e3 clock (fun (rFrom : (Int × Int)) =>
  c_ref38_Meet (out, out2) rFrom (fun (rMeet : (Int × Int)) =>
  let i_2 : Int := (IntKind.i64.wrap (i_ + (1 : Int)));
  rec host clock i_2 r_ r_2 r_3 r_4 t6 t62 rMeet.1 rMeet.2)))
  none)
  none)
  (let i_2 : Int := (IntKind.i64.wrap (i_ + (1 : Int)));
  rec host clock i_2 r_ r_2 r_3 r_4 t6 t62 out out2))
  none)
  (k1 t6 t62 out out2)
def ref38_When_p1_l {β : Type} : Nat → ref38_When_p1_K1 β → Int → Int → Int → (List (List UInt8 × Int)) → (List (Int × (Int × (Int × Int)))) → (List api_Event) → (List (Int × (Int × Int))) → Int → Int → Int → Int → Option β
  | 0 => fun _ _ _ _ _ _ _ _ _ _ _ _ => none
  | i + 1 => fun k1 host clock i_ r_ r_2 r_3 r_4 t6 t62 out out2 => ref38_When_p1_s c_ref38_From c_ref38_Meet (ref38_When_p1_l i k1) k1 host clock i_ r_ r_2 r_3 r_4 t6 t62 out out2
theorem ref38_When_p1_ok' (hΓ : ΓOk Try.prog (ref38_When_X c_ref25_In c_ref38_Empty c_ref38_From c_ref38_Meet c_ref38_Valid).Γ) (i : Nat) : PieceOk Try.prog 62 0 ref38_When_p1_code ref38_When_p1_v ref38_When_p1_o (ref38_When_p1_G (ref38_When_p1_l c_ref38_From c_ref38_Meet i)) := by
  rw [show ref38_When_p1_code = .loop (loopBody ref38_When_p1_code) by kernel_rfl]
  exact piece_loop (X := (ref38_When_X c_ref25_In c_ref38_Empty c_ref38_From c_ref38_Meet c_ref38_Valid)) (p := 1) (Λ := pick1 []) (G := fun i => @fun β d ks => ref38_When_p1_G (ref38_When_p1_l c_ref38_From c_ref38_Meet i) d ks) mixed tab_ok hΓ rfl (by kernel_rfl) CutsOk_nil (fun _ _ => rfl) (fun i => @fun β d ks r h => Eq.trans (b := ref38_When_p1_G (ref38_When_p1_l c_ref38_From c_ref38_Meet (i + 1)) d ks) (by kernel_rfl) h) i
def ref38_When_s (p1 : ref38_When_p1_T) {β : Type} (r_ : api_Record) (host : Int) (clock : Int) (k : ((Int × Int) → Bool → Option β)) : Option β :=
  c_ref38_Valid r_ (fun (rValid : Bool) =>
  cond (!rValid)
  (k ((0 : Int), (0 : Int)) false)
  (c_ref25_In host (0 : Int) (IntKind.i64.wrap ((List.length r_.1 : Int) - (1 : Int))) (fun (rIn : Bool) =>
  cond (!rIn)
  (k ((0 : Int), (0 : Int)) false)
  (c_ref25_In clock (0 : Int) (8589934592 : Int) (fun (rIn2 : Bool) =>
  cond (!rIn2)
  (k ((0 : Int), (0 : Int)) false)
  (p1 (fun (t6 : Int) (t62 : Int) (out : Int) (out2 : Int) =>
  c_ref38_Empty (out, out2) (fun (rEmpty : Bool) =>
  k (out, out2) (!rEmpty))) host clock (0 : Int) r_.1 r_.2.1 r_.2.2.1 r_.2.2.2 (0 : Int) (0 : Int) (0 : Int) (8589934592 : Int)))))))
theorem ref38_When_ok' (hΓ : ΓOk Try.prog (ref38_When_X c_ref25_In c_ref38_Empty c_ref38_From c_ref38_Meet c_ref38_Valid).Γ) (p1 : ref38_When_p1_T) (hp1 : PieceOk Try.prog 62 0 ref38_When_p1_code ref38_When_p1_v ref38_When_p1_o (ref38_When_p1_G p1)) : SpecOk Try.prog 31 (ref38_When_S (ref38_When_s c_ref25_In c_ref38_Empty c_ref38_Valid p1)) :=
  spec_exec (X := (ref38_When_X c_ref25_In c_ref38_Empty c_ref38_From c_ref38_Meet c_ref38_Valid)) (Λ := pick1 [(122, pieceCut ref38_When_p1_v ref38_When_p1_o (ref38_When_p1_G p1))]) (rs := [.cell 6 45, .tmp 7]) (c := bodyOf Try.f31) mixed tab_ok hΓ Try.func31 (by kernel_rfl) (by kernel_rfl) (by kernel_rfl) (by kernel_rfl) (CutsOk_cons (q := 122) (c' := ref38_When_p1_code) (by kernel_rfl) rfl hp1 CutsOk_nil) (fun x k r h => Eq.trans (b := (ref38_When_S (ref38_When_s c_ref25_In c_ref38_Empty c_ref38_Valid p1)).run x k) (by kernel_rfl) h)
end
theorem ref38_When_Γ : ΓOk Try.prog (pick1 [(56, .spec (ref25_In_S ref25_In)), (37, .spec (ref38_Empty_S ref38_Empty)), (33, .spec (ref38_From_S ref38_From)), (35, .spec (ref38_Meet_S ref38_Meet)), (30, .spec (ref38_Valid_S ref38_Valid))]) := (ΓOk_cons ref25_In_ok (ΓOk_cons ref38_Empty_ok (ΓOk_cons ref38_From_ok (ΓOk_cons ref38_Meet_ok (ΓOk_cons ref38_Valid_ok ΓOk_nil)))))
def ref38_When_p1_n (m : Nat) : ref38_When_p1_T := ref38_When_p1_l ref38_From ref38_Meet m
theorem ref38_When_p1_step {β : Type} (i : Nat) (k1 host clock i_ r_ r_2 r_3 r_4 t6 t62 out out2) : (ref38_When_p1_n (i + 1) k1 host clock i_ r_ r_2 r_3 r_4 t6 t62 out out2 : Option β) = ref38_When_p1_s ref38_From ref38_Meet (ref38_When_p1_n i k1) k1 host clock i_ r_ r_2 r_3 r_4 t6 t62 out out2 := rfl
def ref38_When_p1 : ref38_When_p1_T := ref38_When_p1_n fuel
theorem ref38_When_p1_ok : PieceOk Try.prog 62 0 ref38_When_p1_code ref38_When_p1_v ref38_When_p1_o (ref38_When_p1_G ref38_When_p1) := ref38_When_p1_ok' ref25_In ref38_Empty ref38_From ref38_Meet ref38_Valid ref38_When_Γ fuel
def ref38_When : T_ref38_When := ref38_When_s ref25_In ref38_Empty ref38_Valid ref38_When_p1
theorem ref38_When_ok : SpecOk Try.prog 31 (ref38_When_S ref38_When) := ref38_When_ok' ref25_In ref38_Empty ref38_From ref38_Meet ref38_Valid ref38_When_Γ ref38_When_p1 ref38_When_p1_ok

/-- pagewatch/order.Constraints -/
abbrev T_order_Constraints := {β : Type} → api_Record → (Bool → (List (Int × (Int × Int))) → Option β) → Option β
def order_Constraints_S (c : T_order_Constraints) : Spec :=
  ⟨[(true, [.data y_api_Record])], [], [(false, [.rowh 0]), (false, [.data .bool])], [.row 101 (.prod (.int .i64) (.prod (.int .i64) (.int .i64)))], fun x k => c x.1.1.1 (fun r0 r1 => k (((), (r0, ()), ()), (r1, ())))⟩
noncomputable def order_Constraints_p1_code : Code := codeAt 122 (bodyOf Try.f64)
noncomputable def order_Constraints_p3_code : Code := codeAt 250 (bodyOf Try.f64)
noncomputable def order_Constraints_p4_code : Code := codeAt 506 (bodyOf Try.f64)
noncomputable def order_Constraints_p2_code : Code := codeAt 230 (loopBody order_Constraints_p3_code)
abbrev order_Constraints_p1_K1 (β : Type) := Bool → (List (Int × (Int × Int))) → Option β
abbrev order_Constraints_p1_K2 (β : Type) := (List (List UInt8 × Int)) → (List (Int × (Int × (Int × Int)))) → (List api_Event) → (List (Int × (Int × Int))) → (List (Int × (Int × Int))) → Option β
abbrev order_Constraints_p1_T := {β : Type} → order_Constraints_p1_K1 β → order_Constraints_p1_K2 β → (List api_Event) → Int → Int → (List (List UInt8 × Int)) → (List (Int × (Int × (Int × Int)))) → (List api_Event) → (List (Int × (Int × Int))) → (List (Int × (Int × Int))) → Option β
def order_Constraints_p1_v : View := ⟨0, [1, 4, 18, 19, 20], [(false, [.ptr 0 0]), (false, [.rowh 1]), (false, [.data (.slice y_api_Event)]), (false, [.data (.int .i64)]), (false, [.data (.int .i64)])], [.cells 41 [.data (.slice (.prod .str (.int .i64))), .data (.slice (.prod (.int .i64) (.prod (.int .i64) (.prod (.int .i64) (.int .i64))))), .data (.slice y_api_Event), .data (.slice (.prod (.int .i64) (.prod (.int .i64) (.int .i64))))], .row 101 (.prod (.int .i64) (.prod (.int .i64) (.int .i64)))]⟩
def order_Constraints_p1_o : List (AExit × View) := [(.ret, ⟨0, [2, 3], [(false, [.rowh 0]), (false, [.data .bool])], [.row 101 (.prod (.int .i64) (.prod (.int .i64) (.int .i64)))]⟩), (.exit 0, ⟨0, [1, 4], [(false, [.ptr 0 0]), (false, [.rowh 1])], [.cells 41 [.data (.slice (.prod .str (.int .i64))), .data (.slice (.prod (.int .i64) (.prod (.int .i64) (.prod (.int .i64) (.int .i64))))), .data (.slice y_api_Event), .data (.slice (.prod (.int .i64) (.prod (.int .i64) (.int .i64))))], .row 101 (.prod (.int .i64) (.prod (.int .i64) (.int .i64)))]⟩)]
@[reducible] def order_Constraints_p1_G (p : order_Constraints_p1_T) {β : Type} (d : order_Constraints_p1_v.den) (ks : Outs.K β order_Constraints_p1_o) : Option β :=
  p (fun a0 a1 => ks.1 (((), (a0, ()), ()), (a1, ()))) (fun a0 a1 a2 a3 a4 => ks.2.1 (((), (), ()), ((a0, a1, a2, a3, ()), a4, ()))) d.1.2.2.1.1 d.1.2.2.2.1.1 d.1.2.2.2.2.1.1 d.2.1.1 d.2.1.2.1 d.2.1.2.2.1 d.2.1.2.2.2.1 d.2.2.1
abbrev order_Constraints_p2_K1 (β : Type) := (List api_Event) → Int → Int → (List (List UInt8 × Int)) → (List (Int × (Int × (Int × Int)))) → (List api_Event) → (List (Int × (Int × Int))) → (List (Int × (Int × Int))) → Option β
abbrev order_Constraints_p2_T := {β : Type} → order_Constraints_p2_K1 β → Int → Int → (List api_Event) → Int → Int → (List (List UInt8 × Int)) → (List (Int × (Int × (Int × Int)))) → (List api_Event) → (List (Int × (Int × Int))) → (List (Int × (Int × Int))) → Int → Int → (List UInt8) → Option β
def order_Constraints_p2_v : View := ⟨0, [1, 4, 9, 10, 11, 52, 53, 54], [(false, [.ptr 0 0]), (false, [.rowh 1]), (false, [.data (.int .i64)]), (false, [.ptr 2 0]), (false, [.data (.int .i64)]), (false, [.data (.slice y_api_Event)]), (false, [.data (.int .i64)]), (false, [.data (.int .i64)])], [.cells 41 [.data (.slice (.prod .str (.int .i64))), .data (.slice (.prod (.int .i64) (.prod (.int .i64) (.prod (.int .i64) (.int .i64))))), .data (.slice y_api_Event), .data (.slice (.prod (.int .i64) (.prod (.int .i64) (.int .i64))))], .row 101 (.prod (.int .i64) (.prod (.int .i64) (.int .i64))), .cells 65 [.data (.int .i64), .data (.int .i64), .data .str]]⟩
def order_Constraints_p2_o : List (AExit × View) := [(.exit 4, ⟨0, [1, 4, 52, 53, 54], [(false, [.ptr 0 0]), (false, [.rowh 1]), (false, [.data (.slice y_api_Event)]), (false, [.data (.int .i64)]), (false, [.data (.int .i64)])], [.cells 41 [.data (.slice (.prod .str (.int .i64))), .data (.slice (.prod (.int .i64) (.prod (.int .i64) (.prod (.int .i64) (.int .i64))))), .data (.slice y_api_Event), .data (.slice (.prod (.int .i64) (.prod (.int .i64) (.int .i64))))], .row 101 (.prod (.int .i64) (.prod (.int .i64) (.int .i64)))]⟩)]
@[reducible] def order_Constraints_p2_G (p : order_Constraints_p2_T) {β : Type} (d : order_Constraints_p2_v.den) (ks : Outs.K β order_Constraints_p2_o) : Option β :=
  p (fun a0 a1 a2 a3 a4 a5 a6 a7 => ks.1 (((), (), (a0, ()), (a1, ()), (a2, ()), ()), ((a3, a4, a5, a6, ()), a7, ()))) d.1.2.2.1.1 d.1.2.2.2.2.1.1 d.1.2.2.2.2.2.1.1 d.1.2.2.2.2.2.2.1.1 d.1.2.2.2.2.2.2.2.1.1 d.2.1.1 d.2.1.2.1 d.2.1.2.2.1 d.2.1.2.2.2.1 d.2.2.1 d.2.2.2.1.1 d.2.2.2.1.2.1 d.2.2.2.1.2.2.1
abbrev order_Constraints_p3_K1 (β : Type) := (List (List UInt8 × Int)) → (List (Int × (Int × (Int × Int)))) → (List api_Event) → (List (Int × (Int × Int))) → (List (Int × (Int × Int))) → Option β
abbrev order_Constraints_p3_T := {β : Type} → order_Constraints_p3_K1 β → (List api_Event) → Int → Int → (List (List UInt8 × Int)) → (List (Int × (Int × (Int × Int)))) → (List api_Event) → (List (Int × (Int × Int))) → (List (Int × (Int × Int))) → Option β
def order_Constraints_p3_v : View := ⟨0, [1, 4, 52, 53, 54], [(false, [.ptr 0 0]), (false, [.rowh 1]), (false, [.data (.slice y_api_Event)]), (false, [.data (.int .i64)]), (false, [.data (.int .i64)])], [.cells 41 [.data (.slice (.prod .str (.int .i64))), .data (.slice (.prod (.int .i64) (.prod (.int .i64) (.prod (.int .i64) (.int .i64))))), .data (.slice y_api_Event), .data (.slice (.prod (.int .i64) (.prod (.int .i64) (.int .i64))))], .row 101 (.prod (.int .i64) (.prod (.int .i64) (.int .i64)))]⟩
def order_Constraints_p3_o : List (AExit × View) := [(.exit 2, ⟨0, [1, 4], [(false, [.ptr 0 0]), (false, [.rowh 1])], [.cells 41 [.data (.slice (.prod .str (.int .i64))), .data (.slice (.prod (.int .i64) (.prod (.int .i64) (.prod (.int .i64) (.int .i64))))), .data (.slice y_api_Event), .data (.slice (.prod (.int .i64) (.prod (.int .i64) (.int .i64))))], .row 101 (.prod (.int .i64) (.prod (.int .i64) (.int .i64)))]⟩)]
@[reducible] def order_Constraints_p3_G (p : order_Constraints_p3_T) {β : Type} (d : order_Constraints_p3_v.den) (ks : Outs.K β order_Constraints_p3_o) : Option β :=
  p (fun a0 a1 a2 a3 a4 => ks.1 (((), (), ()), ((a0, a1, a2, a3, ()), a4, ()))) d.1.2.2.1.1 d.1.2.2.2.1.1 d.1.2.2.2.2.1.1 d.2.1.1 d.2.1.2.1 d.2.1.2.2.1 d.2.1.2.2.2.1 d.2.2.1
abbrev order_Constraints_p4_K1 (β : Type) := (List (Int × (Int × Int))) → Option β
abbrev order_Constraints_p4_T := {β : Type} → order_Constraints_p4_K1 β → (List (Int × (Int × Int))) → Int → Int → (List (Int × (Int × Int))) → Option β
def order_Constraints_p4_v : View := ⟨0, [4, 85, 86, 87], [(false, [.rowh 0]), (false, [.data (.slice (.prod (.int .i64) (.prod (.int .i64) (.int .i64))))]), (false, [.data (.int .i64)]), (false, [.data (.int .i64)])], [.row 101 (.prod (.int .i64) (.prod (.int .i64) (.int .i64)))]⟩
def order_Constraints_p4_o : List (AExit × View) := [(.exit 6, ⟨0, [4], [(false, [.rowh 0])], [.row 101 (.prod (.int .i64) (.prod (.int .i64) (.int .i64)))]⟩)]
@[reducible] def order_Constraints_p4_G (p : order_Constraints_p4_T) {β : Type} (d : order_Constraints_p4_v.den) (ks : Outs.K β order_Constraints_p4_o) : Option β :=
  p (fun a0 => ks.1 (((), ()), (a0, ()))) d.1.2.1.1 d.1.2.2.1.1 d.1.2.2.2.1.1 d.2.1
section
variable (c_clock_Valid : T_clock_Valid) (c_clock_When : T_clock_When) (c_order_pair : T_order_pair)
@[reducible] def order_Constraints_X : Ctx := ⟨look tab, pick1 [(29, .spec (clock_Valid_S c_clock_Valid)), (24, .spec (clock_When_S c_clock_When)), (73, .spec (order_pair_S c_order_pair))], false⟩
def order_Constraints_p1_s {β : Type} (rec : (List api_Event) → Int → Int → (List (List UInt8 × Int)) → (List (Int × (Int × (Int × Int)))) → (List api_Event) → (List (Int × (Int × Int))) → (List (Int × (Int × Int))) → Option β) (k1 : order_Constraints_p1_K1 β) (k2 : order_Constraints_p1_K2 β) (t18 : List api_Event) (t19 : Int) (t20 : Int) (r_ : List (List UInt8 × Int)) (r_2 : List (Int × (Int × (Int × Int)))) (r_3 : List api_Event) (r_4 : List (Int × (Int × Int))) (out : List (Int × (Int × Int))) : Option β :=
  cond (decide (t20 < t19))
  (cond (decide (0 ≤ t20) && decide (t20 < (List.length t18 : Int)))
  (let e : api_Event := List.getD t18 (Int.toNat t20) ((0 : Int), ((0 : Int), ([] : List UInt8)));
  c_clock_When (r_, (r_2, (r_3, r_4))) e.1 e.2.1 (fun (rWhen : (Int × Int)) (rWhen2 : Bool) =>
  cond (!rWhen2)
  (k1 false ([] : List (Int × (Int × Int))))
  (let l : List (Int × (Int × Int)) := ([((0 : Int), ((IntKind.i64.wrap (t20 + (1 : Int))), rWhen.2)), ((IntKind.i64.wrap (t20 + (1 : Int))), ((0 : Int), (IntKind.i64.wrap (0 - rWhen.1))))] : List (Int × (Int × Int)));
  cond (decide ((List.length out + List.length l) * 24 ≤ roomMax))
  (let l2 : List (Int × (Int × Int)) := (out ++ l);
  rec t18 t19 (IntKind.i64.wrap (t20 + (1 : Int))) r_ r_2 r_3 r_4 l2)
  none)))
  none)
  (k2 r_ r_2 r_3 r_4 out)
def order_Constraints_p1_l {β : Type} : Nat → order_Constraints_p1_K1 β → order_Constraints_p1_K2 β → (List api_Event) → Int → Int → (List (List UInt8 × Int)) → (List (Int × (Int × (Int × Int)))) → (List api_Event) → (List (Int × (Int × Int))) → (List (Int × (Int × Int))) → Option β
  | 0 => fun _ _ _ _ _ _ _ _ _ _ => none
  | i + 1 => fun k1 k2 t18 t19 t20 r_ r_2 r_3 r_4 out => order_Constraints_p1_s c_clock_When (order_Constraints_p1_l i k1 k2) k1 k2 t18 t19 t20 r_ r_2 r_3 r_4 out
theorem order_Constraints_p1_ok' (hΓ : ΓOk Try.prog (order_Constraints_X c_clock_Valid c_clock_When c_order_pair).Γ) (i : Nat) : PieceOk Try.prog 106 0 order_Constraints_p1_code order_Constraints_p1_v order_Constraints_p1_o (order_Constraints_p1_G (order_Constraints_p1_l c_clock_When i)) := by
  rw [show order_Constraints_p1_code = .loop (loopBody order_Constraints_p1_code) by kernel_rfl]
  exact piece_loop (X := (order_Constraints_X c_clock_Valid c_clock_When c_order_pair)) (p := 1) (Λ := pick1 []) (G := fun i => @fun β d ks => order_Constraints_p1_G (order_Constraints_p1_l c_clock_When i) d ks) mixed tab_ok hΓ rfl (by kernel_rfl) CutsOk_nil (fun _ _ => rfl) (fun i => @fun β d ks r h => Eq.trans (b := order_Constraints_p1_G (order_Constraints_p1_l c_clock_When (i + 1)) d ks) (by kernel_rfl) h) i
def order_Constraints_p2_s {β : Type} (rec : Int → Int → (List api_Event) → Int → Int → (List (List UInt8 × Int)) → (List (Int × (Int × (Int × Int)))) → (List api_Event) → (List (Int × (Int × Int))) → (List (Int × (Int × Int))) → Int → Int → (List UInt8) → Option β) (k1 : order_Constraints_p2_K1 β) (i_ : Int) (j : Int) (t52 : List api_Event) (t53 : Int) (t54 : Int) (r_ : List (List UInt8 × Int)) (r_2 : List (Int × (Int × (Int × Int)))) (r_3 : List api_Event) (r_4 : List (Int × (Int × Int))) (out : List (Int × (Int × Int))) (a : Int) (a2 : Int) (a3 : List UInt8) : Option β :=
  cond (decide (j < (List.length r_3 : Int)))
  (cond (decide (0 ≤ j) && decide (j < (List.length r_3 : Int)))
  (let e : api_Event := List.getD r_3 (Int.toNat j) ((0 : Int), ((0 : Int), ([] : List UInt8)));
  cond (decide (e.1 = a))
  (c_order_pair (r_, (r_2, (r_3, r_4))) i_ j (fun (lrpair : List (Int × (Int × Int))) =>
  cond (decide ((List.length out + List.length lrpair) * 24 ≤ roomMax))
  (let l : List (Int × (Int × Int)) := (out ++ lrpair);
  let j2 : Int := (IntKind.i64.wrap (j + (1 : Int)));
  rec i_ j2 t52 t53 t54 r_ r_2 r_3 r_4 l a a2 a3)
  none))
  (let j2 : Int := (IntKind.i64.wrap (j + (1 : Int)));
  rec i_ j2 t52 t53 t54 r_ r_2 r_3 r_4 out a a2 a3))
  none)
  (k1 t52 t53 t54 r_ r_2 r_3 r_4 out)
def order_Constraints_p2_l {β : Type} : Nat → order_Constraints_p2_K1 β → Int → Int → (List api_Event) → Int → Int → (List (List UInt8 × Int)) → (List (Int × (Int × (Int × Int)))) → (List api_Event) → (List (Int × (Int × Int))) → (List (Int × (Int × Int))) → Int → Int → (List UInt8) → Option β
  | 0 => fun _ _ _ _ _ _ _ _ _ _ _ _ _ _ => none
  | i + 1 => fun k1 i_ j t52 t53 t54 r_ r_2 r_3 r_4 out a a2 a3 => order_Constraints_p2_s c_order_pair (order_Constraints_p2_l i k1) k1 i_ j t52 t53 t54 r_ r_2 r_3 r_4 out a a2 a3
theorem order_Constraints_p2_ok' (hΓ : ΓOk Try.prog (order_Constraints_X c_clock_Valid c_clock_When c_order_pair).Γ) (i : Nat) : PieceOk Try.prog 106 0 order_Constraints_p2_code order_Constraints_p2_v order_Constraints_p2_o (order_Constraints_p2_G (order_Constraints_p2_l c_order_pair i)) := by
  rw [show order_Constraints_p2_code = .loop (loopBody order_Constraints_p2_code) by kernel_rfl]
  exact piece_loop (X := (order_Constraints_X c_clock_Valid c_clock_When c_order_pair)) (p := 1) (Λ := pick1 []) (G := fun i => @fun β d ks => order_Constraints_p2_G (order_Constraints_p2_l c_order_pair i) d ks) mixed tab_ok hΓ rfl (by kernel_rfl) CutsOk_nil (fun _ _ => rfl) (fun i => @fun β d ks r h => Eq.trans (b := order_Constraints_p2_G (order_Constraints_p2_l c_order_pair (i + 1)) d ks) (by kernel_rfl) h) i
def order_Constraints_p3_s (p2 : order_Constraints_p2_T) {β : Type} (rec : (List api_Event) → Int → Int → (List (List UInt8 × Int)) → (List (Int × (Int × (Int × Int)))) → (List api_Event) → (List (Int × (Int × Int))) → (List (Int × (Int × Int))) → Option β) (k1 : order_Constraints_p3_K1 β) (t52 : List api_Event) (t53 : Int) (t54 : Int) (r_ : List (List UInt8 × Int)) (r_2 : List (Int × (Int × (Int × Int)))) (r_3 : List api_Event) (r_4 : List (Int × (Int × Int))) (out : List (Int × (Int × Int))) : Option β :=
  cond (decide (t54 < t53))
  (cond (decide (0 ≤ t54) && decide (t54 < (List.length t52 : Int)))
  (let e : api_Event := List.getD t52 (Int.toNat t54) ((0 : Int), ((0 : Int), ([] : List UInt8)));
  let j : Int := (IntKind.i64.wrap (t54 + (1 : Int)));
  p2 (fun (t522 : List api_Event) (t532 : Int) (t542 : Int) (r_5 : List (List UInt8 × Int)) (r_6 : List (Int × (Int × (Int × Int)))) (r_7 : List api_Event) (r_8 : List (Int × (Int × Int))) (out2 : List (Int × (Int × Int))) =>
  rec t522 t532 (IntKind.i64.wrap (t542 + (1 : Int))) r_5 r_6 r_7 r_8 out2) t54 j t52 t53 t54 r_ r_2 r_3 r_4 out e.1 e.2.1 e.2.2)
  none)
  (k1 r_ r_2 r_3 r_4 out)
def order_Constraints_p3_l (p2 : order_Constraints_p2_T) {β : Type} : Nat → order_Constraints_p3_K1 β → (List api_Event) → Int → Int → (List (List UInt8 × Int)) → (List (Int × (Int × (Int × Int)))) → (List api_Event) → (List (Int × (Int × Int))) → (List (Int × (Int × Int))) → Option β
  | 0 => fun _ _ _ _ _ _ _ _ _ => none
  | i + 1 => fun k1 t52 t53 t54 r_ r_2 r_3 r_4 out => order_Constraints_p3_s p2 (order_Constraints_p3_l p2 i k1) k1 t52 t53 t54 r_ r_2 r_3 r_4 out
theorem order_Constraints_p3_ok' (hΓ : ΓOk Try.prog (order_Constraints_X c_clock_Valid c_clock_When c_order_pair).Γ) (p2 : order_Constraints_p2_T) (hp2 : PieceOk Try.prog 106 0 order_Constraints_p2_code order_Constraints_p2_v order_Constraints_p2_o (order_Constraints_p2_G p2)) (i : Nat) : PieceOk Try.prog 106 0 order_Constraints_p3_code order_Constraints_p3_v order_Constraints_p3_o (order_Constraints_p3_G (order_Constraints_p3_l p2 i)) := by
  rw [show order_Constraints_p3_code = .loop (loopBody order_Constraints_p3_code) by kernel_rfl]
  exact piece_loop (X := (order_Constraints_X c_clock_Valid c_clock_When c_order_pair)) (p := 1) (Λ := pick1 [(230, pieceCut order_Constraints_p2_v order_Constraints_p2_o (order_Constraints_p2_G p2))]) (G := fun i => @fun β d ks => order_Constraints_p3_G (order_Constraints_p3_l p2 i) d ks) mixed tab_ok hΓ rfl (by kernel_rfl) (CutsOk_cons (q := 230) (c' := order_Constraints_p2_code) (by kernel_rfl) rfl hp2 CutsOk_nil) (fun _ _ => rfl) (fun i => @fun β d ks r h => Eq.trans (b := order_Constraints_p3_G (order_Constraints_p3_l p2 (i + 1)) d ks) (by kernel_rfl) h) i
def order_Constraints_p4_s {β : Type} (rec : (List (Int × (Int × Int))) → Int → Int → (List (Int × (Int × Int))) → Option β) (k1 : order_Constraints_p4_K1 β) (t85 : List (Int × (Int × Int))) (t86 : Int) (t87 : Int) (out : List (Int × (Int × Int))) : Option β :=
  cond (decide (t87 < t86))
  (cond (decide (0 ≤ t87) && decide (t87 < (List.length t85 : Int)))
  (let e : (Int × (Int × Int)) := List.getD t85 (Int.toNat t87) ((0 : Int), ((0 : Int), (0 : Int)));
  let l : List (Int × (Int × Int)) := ([((IntKind.i64.wrap (e.2.1 + (1 : Int))), ((IntKind.i64.wrap (e.1 + (1 : Int))), (IntKind.i64.wrap (0 - e.2.2))))] : List (Int × (Int × Int)));
  cond (decide ((List.length out + List.length l) * 24 ≤ roomMax))
  (let l2 : List (Int × (Int × Int)) := (out ++ l);
  rec t85 t86 (IntKind.i64.wrap (t87 + (1 : Int))) l2)
  none)
  none)
  (k1 out)
def order_Constraints_p4_l {β : Type} : Nat → order_Constraints_p4_K1 β → (List (Int × (Int × Int))) → Int → Int → (List (Int × (Int × Int))) → Option β
  | 0 => fun _ _ _ _ _ => none
  | i + 1 => fun k1 t85 t86 t87 out => order_Constraints_p4_s (order_Constraints_p4_l i k1) k1 t85 t86 t87 out
theorem order_Constraints_p4_ok' (hΓ : ΓOk Try.prog (order_Constraints_X c_clock_Valid c_clock_When c_order_pair).Γ) (i : Nat) : PieceOk Try.prog 106 0 order_Constraints_p4_code order_Constraints_p4_v order_Constraints_p4_o (order_Constraints_p4_G (order_Constraints_p4_l i)) := by
  rw [show order_Constraints_p4_code = .loop (loopBody order_Constraints_p4_code) by kernel_rfl]
  exact piece_loop (X := (order_Constraints_X c_clock_Valid c_clock_When c_order_pair)) (p := 1) (Λ := pick1 []) (G := fun i => @fun β d ks => order_Constraints_p4_G (order_Constraints_p4_l i) d ks) mixed tab_ok hΓ rfl (by kernel_rfl) CutsOk_nil (fun _ _ => rfl) (fun i => @fun β d ks r h => Eq.trans (b := order_Constraints_p4_G (order_Constraints_p4_l (i + 1)) d ks) (by kernel_rfl) h) i
def order_Constraints_s (p1 : order_Constraints_p1_T) (p3 : order_Constraints_p3_T) (p4 : order_Constraints_p4_T) {β : Type} (r_ : api_Record) (k : (Bool → (List (Int × (Int × Int))) → Option β)) : Option β :=
  c_clock_Valid r_ (fun (rValid : Bool) =>
  cond (!rValid)
  (k false ([] : List (Int × (Int × Int))))
  (p1 (fun (t3 : Bool) (t2 : List (Int × (Int × Int))) =>
  k t3 t2) (fun (r_2 : List (List UInt8 × Int)) (r_3 : List (Int × (Int × (Int × Int)))) (r_4 : List api_Event) (r_5 : List (Int × (Int × Int))) (out : List (Int × (Int × Int))) =>
  p3 (fun (r_6 : List (List UInt8 × Int)) (r_7 : List (Int × (Int × (Int × Int)))) (r_8 : List api_Event) (r_9 : List (Int × (Int × Int))) (out2 : List (Int × (Int × Int))) =>
  p4 (fun (out3 : List (Int × (Int × Int))) =>
  k true out3) r_9 (List.length r_9 : Int) (0 : Int) out2) r_4 (List.length r_4 : Int) (0 : Int) r_2 r_3 r_4 r_5 out) r_.2.2.1 (List.length r_.2.2.1 : Int) (0 : Int) r_.1 r_.2.1 r_.2.2.1 r_.2.2.2 ([] : List (Int × (Int × Int)))))
theorem order_Constraints_ok' (hΓ : ΓOk Try.prog (order_Constraints_X c_clock_Valid c_clock_When c_order_pair).Γ) (p1 : order_Constraints_p1_T) (p3 : order_Constraints_p3_T) (p4 : order_Constraints_p4_T) (hp1 : PieceOk Try.prog 106 0 order_Constraints_p1_code order_Constraints_p1_v order_Constraints_p1_o (order_Constraints_p1_G p1)) (hp3 : PieceOk Try.prog 106 0 order_Constraints_p3_code order_Constraints_p3_v order_Constraints_p3_o (order_Constraints_p3_G p3)) (hp4 : PieceOk Try.prog 106 0 order_Constraints_p4_code order_Constraints_p4_v order_Constraints_p4_o (order_Constraints_p4_G p4)) : SpecOk Try.prog 64 (order_Constraints_S (order_Constraints_s c_clock_Valid p1 p3 p4)) :=
  spec_exec (X := (order_Constraints_X c_clock_Valid c_clock_When c_order_pair)) (Λ := pick1 [(122, pieceCut order_Constraints_p1_v order_Constraints_p1_o (order_Constraints_p1_G p1)), (250, pieceCut order_Constraints_p3_v order_Constraints_p3_o (order_Constraints_p3_G p3)), (506, pieceCut order_Constraints_p4_v order_Constraints_p4_o (order_Constraints_p4_G p4))]) (rs := [.tmp 2, .tmp 3]) (c := bodyOf Try.f64) mixed tab_ok hΓ Try.func64 (by kernel_rfl) (by kernel_rfl) (by kernel_rfl) (by kernel_rfl) (CutsOk_cons (q := 122) (c' := order_Constraints_p1_code) (by kernel_rfl) rfl hp1 (CutsOk_cons (q := 250) (c' := order_Constraints_p3_code) (by kernel_rfl) rfl hp3 (CutsOk_cons (q := 506) (c' := order_Constraints_p4_code) (by kernel_rfl) rfl hp4 CutsOk_nil))) (fun x k r h => Eq.trans (b := (order_Constraints_S (order_Constraints_s c_clock_Valid p1 p3 p4)).run x k) (by kernel_rfl) h)
end
theorem order_Constraints_Γ : ΓOk Try.prog (pick1 [(29, .spec (clock_Valid_S clock_Valid)), (24, .spec (clock_When_S clock_When)), (73, .spec (order_pair_S order_pair))]) := (ΓOk_cons clock_Valid_ok (ΓOk_cons clock_When_ok (ΓOk_cons order_pair_ok ΓOk_nil)))
def order_Constraints_p1_n (m : Nat) : order_Constraints_p1_T := order_Constraints_p1_l clock_When m
theorem order_Constraints_p1_step {β : Type} (i : Nat) (k1 k2 t18 t19 t20 r_ r_2 r_3 r_4 out) : (order_Constraints_p1_n (i + 1) k1 k2 t18 t19 t20 r_ r_2 r_3 r_4 out : Option β) = order_Constraints_p1_s clock_When (order_Constraints_p1_n i k1 k2) k1 k2 t18 t19 t20 r_ r_2 r_3 r_4 out := rfl
def order_Constraints_p1 : order_Constraints_p1_T := order_Constraints_p1_n fuel
theorem order_Constraints_p1_ok : PieceOk Try.prog 106 0 order_Constraints_p1_code order_Constraints_p1_v order_Constraints_p1_o (order_Constraints_p1_G order_Constraints_p1) := order_Constraints_p1_ok' clock_Valid clock_When order_pair order_Constraints_Γ fuel
def order_Constraints_p2_n (m : Nat) : order_Constraints_p2_T := order_Constraints_p2_l order_pair m
theorem order_Constraints_p2_step {β : Type} (i : Nat) (k1 i_ j t52 t53 t54 r_ r_2 r_3 r_4 out a a2 a3) : (order_Constraints_p2_n (i + 1) k1 i_ j t52 t53 t54 r_ r_2 r_3 r_4 out a a2 a3 : Option β) = order_Constraints_p2_s order_pair (order_Constraints_p2_n i k1) k1 i_ j t52 t53 t54 r_ r_2 r_3 r_4 out a a2 a3 := rfl
def order_Constraints_p2 : order_Constraints_p2_T := order_Constraints_p2_n fuel
theorem order_Constraints_p2_ok : PieceOk Try.prog 106 0 order_Constraints_p2_code order_Constraints_p2_v order_Constraints_p2_o (order_Constraints_p2_G order_Constraints_p2) := order_Constraints_p2_ok' clock_Valid clock_When order_pair order_Constraints_Γ fuel
def order_Constraints_p3_n (m : Nat) : order_Constraints_p3_T := order_Constraints_p3_l order_Constraints_p2 m
theorem order_Constraints_p3_step {β : Type} (i : Nat) (k1 t52 t53 t54 r_ r_2 r_3 r_4 out) : (order_Constraints_p3_n (i + 1) k1 t52 t53 t54 r_ r_2 r_3 r_4 out : Option β) = order_Constraints_p3_s order_Constraints_p2 (order_Constraints_p3_n i k1) k1 t52 t53 t54 r_ r_2 r_3 r_4 out := rfl
def order_Constraints_p3 : order_Constraints_p3_T := order_Constraints_p3_n fuel
theorem order_Constraints_p3_ok : PieceOk Try.prog 106 0 order_Constraints_p3_code order_Constraints_p3_v order_Constraints_p3_o (order_Constraints_p3_G order_Constraints_p3) := order_Constraints_p3_ok' clock_Valid clock_When order_pair order_Constraints_Γ order_Constraints_p2 order_Constraints_p2_ok fuel
def order_Constraints_p4_n (m : Nat) : order_Constraints_p4_T := order_Constraints_p4_l m
theorem order_Constraints_p4_step {β : Type} (i : Nat) (k1 t85 t86 t87 out) : (order_Constraints_p4_n (i + 1) k1 t85 t86 t87 out : Option β) = order_Constraints_p4_s (order_Constraints_p4_n i k1) k1 t85 t86 t87 out := rfl
def order_Constraints_p4 : order_Constraints_p4_T := order_Constraints_p4_n fuel
theorem order_Constraints_p4_ok : PieceOk Try.prog 106 0 order_Constraints_p4_code order_Constraints_p4_v order_Constraints_p4_o (order_Constraints_p4_G order_Constraints_p4) := order_Constraints_p4_ok' clock_Valid clock_When order_pair order_Constraints_Γ fuel
def order_Constraints : T_order_Constraints := order_Constraints_s clock_Valid order_Constraints_p1 order_Constraints_p3 order_Constraints_p4
theorem order_Constraints_ok : SpecOk Try.prog 64 (order_Constraints_S order_Constraints) := order_Constraints_ok' clock_Valid clock_When order_pair order_Constraints_Γ order_Constraints_p1 order_Constraints_p3 order_Constraints_p4 order_Constraints_p1_ok order_Constraints_p3_ok order_Constraints_p4_ok

/-- pagewatch/pagewatchlaw38.ClockMoves -/
abbrev T_law38_ClockMoves := {β : Type} → (List Int) → Int → (Bool → Option β) → Option β
def law38_ClockMoves_S (c : T_law38_ClockMoves) : Spec :=
  ⟨[(false, [.data (.slice (.int .i64))]), (false, [.data (.int .u16)])], [], [(false, [.data .bool])], [], fun x k => c x.1.1.1 x.1.2.1.1 (fun r0 => k (((r0, ()), ()), ()))⟩
noncomputable def law38_ClockMoves_p1_code : Code := codeAt 2042 (bodyOf Try.f5)
abbrev law38_ClockMoves_p1_K1 (β : Type) := Bool → Option β
abbrev law38_ClockMoves_p1_K2 (β : Type) := Int → Int → (List (List UInt8 × Int)) → (List (Int × (Int × (Int × Int)))) → (List api_Event) → (List (Int × (Int × Int))) → (List (List UInt8 × Int)) → (List (Int × (Int × (Int × Int)))) → (List api_Event) → (List (Int × (Int × Int))) → Option β
abbrev law38_ClockMoves_p1_T := {β : Type} → law38_ClockMoves_p1_K1 β → law38_ClockMoves_p1_K2 β → Int → Int → (List (Int × (Int × (Int × Int)))) → Int → Int → (List (List UInt8 × Int)) → (List (Int × (Int × (Int × Int)))) → (List api_Event) → (List (Int × (Int × Int))) → (List (List UInt8 × Int)) → (List (Int × (Int × (Int × Int)))) → (List api_Event) → (List (Int × (Int × Int))) → Option β
def law38_ClockMoves_p1_v : View := ⟨0, [6, 8, 9, 10, 38, 39, 40], [(false, [.ptr 0 0]), (false, [.data (.int .i64)]), (false, [.data (.int .i64)]), (false, [.ptr 1 0]), (false, [.data (.slice (.prod (.int .i64) (.prod (.int .i64) (.prod (.int .i64) (.int .i64)))))]), (false, [.data (.int .i64)]), (false, [.data (.int .i64)])], [.cells 41 [.data (.slice (.prod .str (.int .i64))), .data (.slice (.prod (.int .i64) (.prod (.int .i64) (.prod (.int .i64) (.int .i64))))), .data (.slice y_api_Event), .data (.slice (.prod (.int .i64) (.prod (.int .i64) (.int .i64))))], .cells 41 [.data (.slice (.prod .str (.int .i64))), .rowh 2, .rowh 3, .rowh 4], .row 43 (.prod (.int .i64) (.prod (.int .i64) (.prod (.int .i64) (.int .i64)))), .row 65 y_api_Event, .row 67 (.prod (.int .i64) (.prod (.int .i64) (.int .i64)))]⟩
def law38_ClockMoves_p1_o : List (AExit × View) := [(.ret, ⟨0, [4], [(false, [.data .bool])], []⟩), (.exit 0, ⟨0, [6, 8, 9, 10], [(false, [.ptr 0 0]), (false, [.data (.int .i64)]), (false, [.data (.int .i64)]), (false, [.ptr 1 0])], [.cells 41 [.data (.slice (.prod .str (.int .i64))), .data (.slice (.prod (.int .i64) (.prod (.int .i64) (.prod (.int .i64) (.int .i64))))), .data (.slice y_api_Event), .data (.slice (.prod (.int .i64) (.prod (.int .i64) (.int .i64))))], .cells 41 [.data (.slice (.prod .str (.int .i64))), .rowh 2, .rowh 3, .rowh 4], .row 43 (.prod (.int .i64) (.prod (.int .i64) (.prod (.int .i64) (.int .i64)))), .row 65 y_api_Event, .row 67 (.prod (.int .i64) (.prod (.int .i64) (.int .i64)))]⟩)]
@[reducible] def law38_ClockMoves_p1_G (p : law38_ClockMoves_p1_T) {β : Type} (d : law38_ClockMoves_p1_v.den) (ks : Outs.K β law38_ClockMoves_p1_o) : Option β :=
  p (fun a0 => ks.1 (((a0, ()), ()), ())) (fun a0 a1 a2 a3 a4 a5 a6 a7 a8 a9 => ks.2.1 (((), (a0, ()), (a1, ()), (), ()), ((a2, a3, a4, a5, ()), (a6, ()), a7, a8, a9, ()))) d.1.2.1.1 d.1.2.2.1.1 d.1.2.2.2.2.1.1 d.1.2.2.2.2.2.1.1 d.1.2.2.2.2.2.2.1.1 d.2.1.1 d.2.1.2.1 d.2.1.2.2.1 d.2.1.2.2.2.1 d.2.2.1.1 d.2.2.2.1 d.2.2.2.2.1 d.2.2.2.2.2.1
section
variable (c_clock_From : T_clock_From) (c_clock_Shift : T_clock_Shift) (c_clock_When : T_clock_When) (c_law38_sane : T_law38_sane) (c_made_Dice_Next : T_made_Dice_Next) (c_made_Dice_Record : T_made_Dice_Record) (c_made_Light : T_made_Light) (c_made_Roll : T_made_Roll)
@[reducible] def law38_ClockMoves_X : Ctx := ⟨look tab, pick1 [(26, .spec (clock_From_S c_clock_From)), (27, .spec (clock_Shift_S c_clock_Shift)), (24, .spec (clock_When_S c_clock_When)), (16, .spec (law38_sane_S c_law38_sane)), (20, .spec (made_Dice_Next_S c_made_Dice_Next)), (25, .spec (made_Dice_Record_S c_made_Dice_Record)), (17, .spec (made_Light_S c_made_Light)), (18, .spec (made_Roll_S c_made_Roll))], false⟩
def law38_ClockMoves_p1_s {β : Type} (rec : Int → Int → (List (Int × (Int × (Int × Int)))) → Int → Int → (List (List UInt8 × Int)) → (List (Int × (Int × (Int × Int)))) → (List api_Event) → (List (Int × (Int × Int))) → (List (List UInt8 × Int)) → (List (Int × (Int × (Int × Int)))) → (List api_Event) → (List (Int × (Int × Int))) → Option β) (k1 : law38_ClockMoves_p1_K1 β) (k2 : law38_ClockMoves_p1_K2 β) (by_ : Int) (c : Int) (t38 : List (Int × (Int × (Int × Int)))) (t39 : Int) (t40 : Int) (r_ : List (List UInt8 × Int)) (r_2 : List (Int × (Int × (Int × Int)))) (r_3 : List api_Event) (r_4 : List (Int × (Int × Int))) (moved : List (List UInt8 × Int)) (b2_ : List (Int × (Int × (Int × Int)))) (b3_ : List api_Event) (b4_ : List (Int × (Int × Int))) : Option β :=
  cond (decide (t40 < t39))
  (cond (decide (0 ≤ t40) && decide (t40 < (List.length t38 : Int)))
  (let e : (Int × (Int × (Int × Int))) := List.getD t38 (Int.toNat t40) ((0 : Int), ((0 : Int), ((0 : Int), (0 : Int))));
  cond (decide (0 ≤ e.1) && decide (e.1 < (List.length r_ : Int)))
  (let e2 : (List UInt8 × Int) := List.getD r_ (Int.toNat e.1) (([] : List UInt8), (0 : Int));
  c_clock_From e2 e e.2.1 (fun (rFrom : (Int × Int)) =>
  cond (!(decide (rFrom.1 = e.2.2.1) && (decide (rFrom.2 = e.2.2.2) && true)))
  (k1 false)
  (cond (decide (e.1 = (0 : Int)))
  (let l : List (Int × (Int × (Int × Int))) := ([((0 : Int), (e.2.1, ((IntKind.i64.wrap (e.2.2.1 + by_)), (IntKind.i64.wrap (e.2.2.2 + by_)))))] : List (Int × (Int × (Int × Int))));
  cond (decide ((List.length b2_ + List.length l) * 32 ≤ roomMax))
  (let l2 : List (Int × (Int × (Int × Int))) := (b2_ ++ l);
  rec by_ c t38 t39 (IntKind.i64.wrap (t40 + (1 : Int))) r_ r_2 r_3 r_4 moved l2 b3_ b4_)
  none)
  (rec by_ c t38 t39 (IntKind.i64.wrap (t40 + (1 : Int))) r_ r_2 r_3 r_4 moved b2_ b3_ b4_))))
  none)
  none)
  (k2 by_ c r_ r_2 r_3 r_4 moved b2_ b3_ b4_)
def law38_ClockMoves_p1_l {β : Type} : Nat → law38_ClockMoves_p1_K1 β → law38_ClockMoves_p1_K2 β → Int → Int → (List (Int × (Int × (Int × Int)))) → Int → Int → (List (List UInt8 × Int)) → (List (Int × (Int × (Int × Int)))) → (List api_Event) → (List (Int × (Int × Int))) → (List (List UInt8 × Int)) → (List (Int × (Int × (Int × Int)))) → (List api_Event) → (List (Int × (Int × Int))) → Option β
  | 0 => fun _ _ _ _ _ _ _ _ _ _ _ _ _ _ _ => none
  | i + 1 => fun k1 k2 by_ c t38 t39 t40 r_ r_2 r_3 r_4 moved b2_ b3_ b4_ => law38_ClockMoves_p1_s c_clock_From (law38_ClockMoves_p1_l i k1 k2) k1 k2 by_ c t38 t39 t40 r_ r_2 r_3 r_4 moved b2_ b3_ b4_
theorem law38_ClockMoves_p1_ok' (hΓ : ΓOk Try.prog (law38_ClockMoves_X c_clock_From c_clock_Shift c_clock_When c_law38_sane c_made_Dice_Next c_made_Dice_Record c_made_Light c_made_Roll).Γ) (i : Nat) : PieceOk Try.prog 122 0 law38_ClockMoves_p1_code law38_ClockMoves_p1_v law38_ClockMoves_p1_o (law38_ClockMoves_p1_G (law38_ClockMoves_p1_l c_clock_From i)) := by
  rw [show law38_ClockMoves_p1_code = .loop (loopBody law38_ClockMoves_p1_code) by kernel_rfl]
  exact piece_loop (X := (law38_ClockMoves_X c_clock_From c_clock_Shift c_clock_When c_law38_sane c_made_Dice_Next c_made_Dice_Record c_made_Light c_made_Roll)) (p := 1) (Λ := pick1 []) (G := fun i => @fun β d ks => law38_ClockMoves_p1_G (law38_ClockMoves_p1_l c_clock_From i) d ks) mixed tab_ok hΓ rfl (by kernel_rfl) CutsOk_nil (fun _ _ => rfl) (fun i => @fun β d ks r h => Eq.trans (b := law38_ClockMoves_p1_G (law38_ClockMoves_p1_l c_clock_From (i + 1)) d ks) (by kernel_rfl) h) i
def law38_ClockMoves_s (p1 : law38_ClockMoves_p1_T) {β : Type} (t : List Int) (n : Int) (k : (Bool → Option β)) : Option β :=
  c_made_Light t (fun (rLight : Bool) =>
  cond (!rLight)
  (c_law38_sane  (fun (rsane : Bool) =>
  k rsane))
  (c_made_Roll t (fun (mrRoll : (List Int × Int)) =>
  c_made_Dice_Record (2 : Int) mrRoll (fun (rRecord : api_Record) (mrRecord : (List Int × Int)) (lrRecord : List Int) =>
  c_made_Dice_Next (400 : Int) mrRecord (fun (rNext : Int) (mrNext : (List Int × Int)) =>
  let c : Int := (IntKind.i64.wrap ((864000 : Int) + rNext));
  p1 (fun (t4 : Bool) =>
  k t4) (fun (by_ : Int) (c2 : Int) (r_ : List (List UInt8 × Int)) (r_2 : List (Int × (Int × (Int × Int)))) (r_3 : List api_Event) (r_4 : List (Int × (Int × Int))) (moved : List (List UInt8 × Int)) (b2_ : List (Int × (Int × (Int × Int)))) (b3_ : List api_Event) (b4_ : List (Int × (Int × Int))) =>
  c_clock_When (r_, (r_2, (r_3, r_4))) (0 : Int) c2 (fun (rWhen : (Int × Int)) (rWhen2 : Bool) =>
  c_clock_When (moved, (b2_, (b3_, b4_))) (0 : Int) c2 (fun (rWhen3 : (Int × Int)) (rWhen4 : Bool) =>
  cond (!rWhen2)
  (k false)
  (cond (!rWhen4)
  (k false)
  (cond (decide ((List.length b2_ : Int) = (0 : Int)))
  (cond (decide (rWhen.1 = rWhen3.1) && (decide (rWhen.2 = rWhen3.2) && true))
  (cond (decide (rWhen.1 = (0 : Int)) && (decide (rWhen.2 = (8589934592 : Int)) && true))
  (c_law38_sane  (fun (rsane : Bool) =>
  k rsane))
  (k false))
  (k false))
  (c_clock_Shift rWhen by_ (fun (rShift : (Int × Int)) =>
  cond (decide (rWhen3.1 = rShift.1) && (decide (rWhen3.2 = rShift.2) && true))
  (c_law38_sane  (fun (rsane : Bool) =>
  k rsane))
  (k false)))))))) (IntKind.i64.wrap n) c rRecord.2.1 (List.length rRecord.2.1 : Int) (0 : Int) rRecord.1 rRecord.2.1 rRecord.2.2.1 rRecord.2.2.2 rRecord.1 ([] : List (Int × (Int × (Int × Int)))) ([] : List api_Event) ([] : List (Int × (Int × Int))))))))
theorem law38_ClockMoves_ok' (hΓ : ΓOk Try.prog (law38_ClockMoves_X c_clock_From c_clock_Shift c_clock_When c_law38_sane c_made_Dice_Next c_made_Dice_Record c_made_Light c_made_Roll).Γ) (p1 : law38_ClockMoves_p1_T) (hp1 : PieceOk Try.prog 122 0 law38_ClockMoves_p1_code law38_ClockMoves_p1_v law38_ClockMoves_p1_o (law38_ClockMoves_p1_G p1)) : SpecOk Try.prog 5 (law38_ClockMoves_S (law38_ClockMoves_s c_clock_Shift c_clock_When c_law38_sane c_made_Dice_Next c_made_Dice_Record c_made_Light c_made_Roll p1)) :=
  spec_exec (X := (law38_ClockMoves_X c_clock_From c_clock_Shift c_clock_When c_law38_sane c_made_Dice_Next c_made_Dice_Record c_made_Light c_made_Roll)) (Λ := pick1 [(2042, pieceCut law38_ClockMoves_p1_v law38_ClockMoves_p1_o (law38_ClockMoves_p1_G p1))]) (rs := [.tmp 4]) (c := bodyOf Try.f5) mixed tab_ok hΓ Try.func5 (by kernel_rfl) (by kernel_rfl) (by kernel_rfl) (by kernel_rfl) (CutsOk_cons (q := 2042) (c' := law38_ClockMoves_p1_code) (by kernel_rfl) rfl hp1 CutsOk_nil) (fun x k r h => Eq.trans (b := (law38_ClockMoves_S (law38_ClockMoves_s c_clock_Shift c_clock_When c_law38_sane c_made_Dice_Next c_made_Dice_Record c_made_Light c_made_Roll p1)).run x k) (by kernel_rfl) h)
end
theorem law38_ClockMoves_Γ : ΓOk Try.prog (pick1 [(26, .spec (clock_From_S clock_From)), (27, .spec (clock_Shift_S clock_Shift)), (24, .spec (clock_When_S clock_When)), (16, .spec (law38_sane_S law38_sane)), (20, .spec (made_Dice_Next_S made_Dice_Next)), (25, .spec (made_Dice_Record_S made_Dice_Record)), (17, .spec (made_Light_S made_Light)), (18, .spec (made_Roll_S made_Roll))]) := (ΓOk_cons clock_From_ok (ΓOk_cons clock_Shift_ok (ΓOk_cons clock_When_ok (ΓOk_cons law38_sane_ok (ΓOk_cons made_Dice_Next_ok (ΓOk_cons made_Dice_Record_ok (ΓOk_cons made_Light_ok (ΓOk_cons made_Roll_ok ΓOk_nil))))))))
def law38_ClockMoves_p1_n (m : Nat) : law38_ClockMoves_p1_T := law38_ClockMoves_p1_l clock_From m
theorem law38_ClockMoves_p1_step {β : Type} (i : Nat) (k1 k2 by_ c t38 t39 t40 r_ r_2 r_3 r_4 moved b2_ b3_ b4_) : (law38_ClockMoves_p1_n (i + 1) k1 k2 by_ c t38 t39 t40 r_ r_2 r_3 r_4 moved b2_ b3_ b4_ : Option β) = law38_ClockMoves_p1_s clock_From (law38_ClockMoves_p1_n i k1 k2) k1 k2 by_ c t38 t39 t40 r_ r_2 r_3 r_4 moved b2_ b3_ b4_ := rfl
def law38_ClockMoves_p1 : law38_ClockMoves_p1_T := law38_ClockMoves_p1_n fuel
theorem law38_ClockMoves_p1_ok : PieceOk Try.prog 122 0 law38_ClockMoves_p1_code law38_ClockMoves_p1_v law38_ClockMoves_p1_o (law38_ClockMoves_p1_G law38_ClockMoves_p1) := law38_ClockMoves_p1_ok' clock_From clock_Shift clock_When law38_sane made_Dice_Next made_Dice_Record made_Light made_Roll law38_ClockMoves_Γ fuel
def law38_ClockMoves : T_law38_ClockMoves := law38_ClockMoves_s clock_Shift clock_When law38_sane made_Dice_Next made_Dice_Record made_Light made_Roll law38_ClockMoves_p1
theorem law38_ClockMoves_ok : SpecOk Try.prog 5 (law38_ClockMoves_S law38_ClockMoves) := law38_ClockMoves_ok' clock_From clock_Shift clock_When law38_sane made_Dice_Next made_Dice_Record made_Light made_Roll law38_ClockMoves_Γ law38_ClockMoves_p1 law38_ClockMoves_p1_ok
end
end Go.Lift
