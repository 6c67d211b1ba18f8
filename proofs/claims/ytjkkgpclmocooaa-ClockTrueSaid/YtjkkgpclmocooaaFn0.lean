import Derived.Test.YtjkkgpclmocooaaLiftY
import Derived.Test.YtjkkgpclmocooaaProg
namespace Go.Lift
open Go.Proofs
noncomputable section
set_option maxRecDepth 100000
set_option linter.unusedVariables false

abbrev api_Event := (Int × (Int × List UInt8))
abbrev y_api_Event : Ty := (.prod (.int .i64) (.prod (.int .i64) .str))
abbrev api_Record := (List (List UInt8 × Int) × (List (Int × (Int × (Int × Int))) × (List api_Event × List (Int × (Int × Int)))))
abbrev y_api_Record : Ty := (.prod (.slice (.prod .str (.int .i64))) (.prod (.slice (.prod (.int .i64) (.prod (.int .i64) (.prod (.int .i64) (.int .i64))))) (.prod (.slice y_api_Event) (.slice (.prod (.int .i64) (.prod (.int .i64) (.int .i64)))))))

def tab : List (Nat × TI) := [
  (3, ⟨false, 1, 8, [.int .i64 (0 : Int)], [], none, none, (some (.int .i64)), (some .i64), false, false, none, none⟩),
  (4, ⟨false, 1, 1, [.bool false], [], none, none, (some .bool), none, true, false, none, none⟩),
  (9, ⟨false, 1, 16, [.str ([] : List UInt8)], [], none, none, (some .str), none, false, true, none, none⟩),
  (27, ⟨false, 1, 24, [.nils], [], (some 3), none, (some (.slice (.int .i64))), none, false, false, none, none⟩),
  (28, ⟨false, 1, 2, [.int .u16 (0 : Int)], [], none, none, (some (.int .u16)), (some .u16), false, false, none, none⟩),
  (35, ⟨true, 2, 24, [.str ([] : List UInt8), .int .i64 (0 : Int)], [(0, 1, false), (1, 1, false)], none, none, (some (.prod .str (.int .i64))), none, false, false, (some [.s, .i]), none⟩),
  (36, ⟨false, 1, 24, [.nils], [], (some 35), none, (some (.slice (.prod .str (.int .i64)))), none, false, false, none, none⟩),
  (37, ⟨false, 1, 24, [.nils], [], (some 43), none, (some (.slice (.prod (.int .i64) (.prod (.int .i64) (.prod (.int .i64) (.int .i64)))))), none, false, false, none, none⟩),
  (38, ⟨false, 1, 24, [.nils], [], (some 65), none, (some (.slice y_api_Event)), none, false, false, none, none⟩),
  (39, ⟨false, 1, 24, [.nils], [], (some 67), none, (some (.slice (.prod (.int .i64) (.prod (.int .i64) (.int .i64))))), none, false, false, none, none⟩),
  (41, ⟨true, 4, 96, [.nils, .nils, .nils, .nils], [(0, 1, false), (1, 1, false), (2, 1, false), (3, 1, false)], none, none, (some y_api_Record), none, false, false, none, none⟩),
  (43, ⟨true, 4, 32, [.int .i64 (0 : Int), .int .i64 (0 : Int), .int .i64 (0 : Int), .int .i64 (0 : Int)], [(0, 1, false), (1, 1, false), (2, 1, false), (3, 1, false)], none, none, (some (.prod (.int .i64) (.prod (.int .i64) (.prod (.int .i64) (.int .i64))))), none, false, false, (some [.i, .i, .i, .i]), none⟩),
  (45, ⟨true, 2, 16, [.int .i64 (0 : Int), .int .i64 (0 : Int)], [(0, 1, false), (1, 1, false)], none, none, (some (.prod (.int .i64) (.int .i64))), none, false, false, (some [.i, .i]), none⟩),
  (54, ⟨false, 1, 24, [.nils], [], (some 41), none, (some (.slice y_api_Record)), none, false, false, none, none⟩),
  (56, ⟨true, 2, 16, [.int .i64 (0 : Int), .int .i64 (0 : Int)], [], (some 3), (some 2), (some (.prod (.int .i64) (.int .i64))), none, false, false, (some [.i, .i]), none⟩),
  (57, ⟨false, 1, 24, [.nils], [], (some 56), none, (some (.slice (.prod (.int .i64) (.int .i64)))), none, false, false, none, none⟩),
  (65, ⟨true, 3, 32, [.int .i64 (0 : Int), .int .i64 (0 : Int), .str ([] : List UInt8)], [(0, 1, false), (1, 1, false), (2, 1, false)], none, none, (some y_api_Event), none, false, false, (some [.i, .i, .s]), none⟩),
  (67, ⟨true, 3, 24, [.int .i64 (0 : Int), .int .i64 (0 : Int), .int .i64 (0 : Int)], [(0, 1, false), (1, 1, false), (2, 1, false)], none, none, (some (.prod (.int .i64) (.prod (.int .i64) (.int .i64)))), none, false, false, (some [.i, .i, .i]), none⟩),
  (90, ⟨true, 2, 32, [.nils, .int .i64 (0 : Int)], [(0, 1, false), (1, 1, false)], none, none, (some (.prod (.slice (.int .i64)) (.int .i64))), none, false, false, none, none⟩),
  (91, ⟨false, 1, 24, [.nils], [], (some 9), none, (some (.slice .str)), none, false, false, none, none⟩)]

theorem tab_ok : TOk Try.prog (look tab) := TOk_of (by kernel_rfl)
theorem mixed : Try.prog.follows .mixedOrders = true := by kernel_rfl

/-- pagewatch/pagewatchmade.Light -/
abbrev T_made_Light := {β : Type} → (List Int) → (Bool → Option β) → Option β
def made_Light_S (c : T_made_Light) : Spec :=
  ⟨[(false, [.data (.slice (.int .i64))])], [], [(false, [.data .bool])], [], fun x k => c x.1.1.1 (fun r0 => k (((r0, ()), ()), ()))⟩
section
@[reducible] def made_Light_X : Ctx := ⟨look tab, pick1 []⟩
def made_Light_s {β : Type} (l : List Int) (k : (Bool → Option β)) : Option β :=
  let t : Bool := (decide ((List.length l : Int) ≤ (500 : Int)));
  k t
theorem made_Light_ok' (hΓ : ΓOk Try.prog made_Light_X.Γ) : SpecOk Try.prog 18 (made_Light_S (made_Light_s)) :=
  spec_exec (X := made_Light_X) (Λ := pick1 []) (rs := [.tmp 2]) (c := bodyOf Try.f18) mixed tab_ok hΓ Try.func18 (by kernel_rfl) (by kernel_rfl) (by kernel_rfl) (by kernel_rfl) CutsOk_nil (fun x k r h => Eq.trans (b := (made_Light_S (made_Light_s)).run x k) (by kernel_rfl) h)
end
theorem made_Light_Γ : ΓOk Try.prog (pick1 []) := ΓOk_nil
def made_Light : T_made_Light := made_Light_s
theorem made_Light_ok : SpecOk Try.prog 18 (made_Light_S made_Light) := made_Light_ok' made_Light_Γ

/-- pagewatch/pagewatchmade.Roll -/
abbrev T_made_Roll := {β : Type} → (List Int) → ((List Int × Int) → Option β) → Option β
def made_Roll_S (c : T_made_Roll) : Spec :=
  ⟨[(false, [.data (.slice (.int .i64))])], [], [(false, [.ptr 0 0])], [.cells 90 [.data (.prod (.slice (.int .i64)) (.int .i64))]], fun x k => c x.1.1.1 (fun r0 => k (((), ()), ((r0, ()), ())))⟩
section
@[reducible] def made_Roll_X : Ctx := ⟨look tab, pick1 []⟩
def made_Roll_s {β : Type} (l : List Int) (k : ((List Int × Int) → Option β)) : Option β :=
  k (l, (0 : Int))
theorem made_Roll_ok' (hΓ : ΓOk Try.prog made_Roll_X.Γ) : SpecOk Try.prog 19 (made_Roll_S (made_Roll_s)) :=
  spec_exec (X := made_Roll_X) (Λ := pick1 []) (rs := [.tmp 2]) (c := bodyOf Try.f19) mixed tab_ok hΓ Try.func19 (by kernel_rfl) (by kernel_rfl) (by kernel_rfl) (by kernel_rfl) CutsOk_nil (fun x k r h => Eq.trans (b := (made_Roll_S (made_Roll_s)).run x k) (by kernel_rfl) h)
end
theorem made_Roll_Γ : ΓOk Try.prog (pick1 []) := ΓOk_nil
def made_Roll : T_made_Roll := made_Roll_s
theorem made_Roll_ok : SpecOk Try.prog 19 (made_Roll_S made_Roll) := made_Roll_ok' made_Roll_Γ

/-- (*pagewatch/pagewatchmade.Dice).Next -/
abbrev T_made_Dice_Next := {β : Type} → Int → (List Int × Int) → (Int → (List Int × Int) → Option β) → Option β
def made_Dice_Next_S (c : T_made_Dice_Next) : Spec :=
  ⟨[(false, [.ptr 0 0]), (false, [.data (.int .i64)])], [.cells 90 [.data (.prod (.slice (.int .i64)) (.int .i64))]], [(false, [.data (.int .i64)])], [.cells 90 [.data (.prod (.slice (.int .i64)) (.int .i64))]], fun x k => c x.1.2.1.1 x.2.1.1 (fun r0 r1 => k (((r0, ()), ()), ((r1, ()), ())))⟩
section
@[reducible] def made_Dice_Next_X : Ctx := ⟨look tab, pick1 []⟩
def made_Dice_Next_s {β : Type} (n : Int) (d : (List Int × Int)) (k : (Int → (List Int × Int) → Option β)) : Option β :=
  cond (decide ((List.length d.1 : Int) ≤ d.2))
  (k (0 : Int) d)
  (cond (decide (n < (1 : Int)))
  (k (0 : Int) d)
  (cond (decide (0 ≤ d.2) && decide (d.2 < (List.length d.1 : Int)))
  (let e : Int := List.getD d.1 (Int.toNat d.2) (0 : Int);
  cond (!decide (n = 0))
  (cond (decide ((Int.tmod e n) < (0 : Int)))
  (let x : Int := (IntKind.i64.wrap ((Int.tmod e n) + n));
  k x (d.1, (IntKind.i64.wrap (d.2 + (1 : Int)))))
  (k (Int.tmod e n) (d.1, (IntKind.i64.wrap (d.2 + (1 : Int))))))
  none)
  none))
theorem made_Dice_Next_ok' (hΓ : ΓOk Try.prog made_Dice_Next_X.Γ) : SpecOk Try.prog 21 (made_Dice_Next_S (made_Dice_Next_s)) :=
  spec_exec (X := made_Dice_Next_X) (Λ := pick1 []) (rs := [.tmp 4]) (c := bodyOf Try.f21) mixed tab_ok hΓ Try.func21 (by kernel_rfl) (by kernel_rfl) (by kernel_rfl) (by kernel_rfl) CutsOk_nil (fun x k r h => Eq.trans (b := (made_Dice_Next_S (made_Dice_Next_s)).run x k) (by kernel_rfl) h)
end
theorem made_Dice_Next_Γ : ΓOk Try.prog (pick1 []) := ΓOk_nil
def made_Dice_Next : T_made_Dice_Next := made_Dice_Next_s
theorem made_Dice_Next_ok : SpecOk Try.prog 21 (made_Dice_Next_S made_Dice_Next) := made_Dice_Next_ok' made_Dice_Next_Γ

/-- pagewatch/pagewatchlaw38.ClockTrue$1 -/
abbrev T_law38_ClockTrue_f1 := {β : Type} → Int → Int → Int → (Int → Int → Int → Option β) → Option β
def law38_ClockTrue_f1_S (c : T_law38_ClockTrue_f1) : Spec :=
  ⟨[(false, [.data (.int .i64)]), (false, [.ptr 0 0]), (false, [.ptr 1 0])], [.cells 3 [.data (.int .i64)], .cells 3 [.data (.int .i64)]], [(false, [.data (.int .i64)])], [.cells 3 [.data (.int .i64)], .cells 3 [.data (.int .i64)]], fun x k => c x.1.1.1 x.2.1.1 x.2.2.1.1 (fun r0 r1 r2 => k (((r0, ()), ()), ((r1, ()), (r2, ()), ())))⟩
section
@[reducible] def law38_ClockTrue_f1_X : Ctx := ⟨look tab, pick1 []⟩
def law38_ClockTrue_f1_s {β : Type} (at_ : Int) (t1 : Int) (t2 : Int) (k : (Int → Int → Int → Option β)) : Option β :=
  cond (!decide ((1000000 : Int) = 0))
  (let t : Int := (IntKind.i64.wrap ((5000 : Int) + (IntKind.i64.wrap (Int.tdiv (IntKind.i64.wrap ((IntKind.i64.wrap (at_ - t1)) * t2)) (1000000 : Int)))));
  k t t1 t2)
  none
theorem law38_ClockTrue_f1_ok' (hΓ : ΓOk Try.prog law38_ClockTrue_f1_X.Γ) : SpecOk Try.prog 22 (law38_ClockTrue_f1_S (law38_ClockTrue_f1_s)) :=
  spec_exec (X := law38_ClockTrue_f1_X) (Λ := pick1 []) (rs := [.tmp 4]) (c := bodyOf Try.f22) mixed tab_ok hΓ Try.func22 (by kernel_rfl) (by kernel_rfl) (by kernel_rfl) (by kernel_rfl) CutsOk_nil (fun x k r h => Eq.trans (b := (law38_ClockTrue_f1_S (law38_ClockTrue_f1_s)).run x k) (by kernel_rfl) h)
end
theorem law38_ClockTrue_f1_Γ : ΓOk Try.prog (pick1 []) := ΓOk_nil
def law38_ClockTrue_f1 : T_law38_ClockTrue_f1 := law38_ClockTrue_f1_s
theorem law38_ClockTrue_f1_ok : SpecOk Try.prog 22 (law38_ClockTrue_f1_S law38_ClockTrue_f1) := law38_ClockTrue_f1_ok' law38_ClockTrue_f1_Γ

/-- pagewatch/pagewatchlaw38.ClockTrue$2 -/
abbrev T_law38_ClockTrue_f2 := {β : Type} → Int → Int → Int → (Int → Int → Int → Option β) → Option β
def law38_ClockTrue_f2_S (c : T_law38_ClockTrue_f2) : Spec :=
  ⟨[(false, [.data (.int .i64)]), (false, [.ptr 0 0]), (false, [.ptr 1 0])], [.cells 3 [.data (.int .i64)], .cells 3 [.data (.int .i64)]], [(false, [.data (.int .i64)])], [.cells 3 [.data (.int .i64)], .cells 3 [.data (.int .i64)]], fun x k => c x.1.1.1 x.2.1.1 x.2.2.1.1 (fun r0 r1 r2 => k (((r0, ()), ()), ((r1, ()), (r2, ()), ())))⟩
section
@[reducible] def law38_ClockTrue_f2_X : Ctx := ⟨look tab, pick1 []⟩
def law38_ClockTrue_f2_s {β : Type} (at_ : Int) (t1 : Int) (t2 : Int) (k : (Int → Int → Int → Option β)) : Option β :=
  cond (!decide ((1000000 : Int) = 0))
  (let t : Int := (IntKind.i64.wrap ((5000 : Int) + (IntKind.i64.wrap ((IntKind.i64.wrap (Int.tdiv (IntKind.i64.wrap (at_ - t1)) (1000000 : Int))) * t2))));
  k t t1 t2)
  none
theorem law38_ClockTrue_f2_ok' (hΓ : ΓOk Try.prog law38_ClockTrue_f2_X.Γ) : SpecOk Try.prog 23 (law38_ClockTrue_f2_S (law38_ClockTrue_f2_s)) :=
  spec_exec (X := law38_ClockTrue_f2_X) (Λ := pick1 []) (rs := [.tmp 4]) (c := bodyOf Try.f23) mixed tab_ok hΓ Try.func23 (by kernel_rfl) (by kernel_rfl) (by kernel_rfl) (by kernel_rfl) CutsOk_nil (fun x k r h => Eq.trans (b := (law38_ClockTrue_f2_S (law38_ClockTrue_f2_s)).run x k) (by kernel_rfl) h)
end
theorem law38_ClockTrue_f2_Γ : ΓOk Try.prog (pick1 []) := ΓOk_nil
def law38_ClockTrue_f2 : T_law38_ClockTrue_f2 := law38_ClockTrue_f2_s
theorem law38_ClockTrue_f2_ok : SpecOk Try.prog 23 (law38_ClockTrue_f2_S law38_ClockTrue_f2) := law38_ClockTrue_f2_ok' law38_ClockTrue_f2_Γ

/-- pagewatch/pagewatchlaw38.ClockTrue$3 -/
abbrev T_law38_ClockTrue_f3 := {β : Type} → Int → Int → Int → (Int → Int → Int → Option β) → Option β
def law38_ClockTrue_f3_S (c : T_law38_ClockTrue_f3) : Spec :=
  ⟨[(false, [.data (.int .i64)]), (false, [.ptr 0 0]), (false, [.ptr 1 0])], [.cells 3 [.data (.int .i64)], .cells 3 [.data (.int .i64)]], [(false, [.data (.int .i64)])], [.cells 3 [.data (.int .i64)], .cells 3 [.data (.int .i64)]], fun x k => c x.1.1.1 x.2.1.1 x.2.2.1.1 (fun r0 r1 r2 => k (((r0, ()), ()), ((r1, ()), (r2, ()), ())))⟩
section
@[reducible] def law38_ClockTrue_f3_X : Ctx := ⟨look tab, pick1 []⟩
def law38_ClockTrue_f3_s {β : Type} (k_ : Int) (t1 : Int) (t2 : Int) (k : (Int → Int → Int → Option β)) : Option β :=
  let t : Int := (IntKind.i64.wrap (t1 + (IntKind.i64.wrap (k_ * t2))));
  k t t1 t2
theorem law38_ClockTrue_f3_ok' (hΓ : ΓOk Try.prog law38_ClockTrue_f3_X.Γ) : SpecOk Try.prog 24 (law38_ClockTrue_f3_S (law38_ClockTrue_f3_s)) :=
  spec_exec (X := law38_ClockTrue_f3_X) (Λ := pick1 []) (rs := [.tmp 4]) (c := bodyOf Try.f24) mixed tab_ok hΓ Try.func24 (by kernel_rfl) (by kernel_rfl) (by kernel_rfl) (by kernel_rfl) CutsOk_nil (fun x k r h => Eq.trans (b := (law38_ClockTrue_f3_S (law38_ClockTrue_f3_s)).run x k) (by kernel_rfl) h)
end
theorem law38_ClockTrue_f3_Γ : ΓOk Try.prog (pick1 []) := ΓOk_nil
def law38_ClockTrue_f3 : T_law38_ClockTrue_f3 := law38_ClockTrue_f3_s
theorem law38_ClockTrue_f3_ok : SpecOk Try.prog 24 (law38_ClockTrue_f3_S law38_ClockTrue_f3) := law38_ClockTrue_f3_ok' law38_ClockTrue_f3_Γ

/-- pagewatch/clock.Meet -/
abbrev T_clock_Meet := {β : Type} → (Int × Int) → (Int × Int) → ((Int × Int) → Option β) → Option β
def clock_Meet_S (c : T_clock_Meet) : Spec :=
  ⟨[(true, [.data (.prod (.int .i64) (.int .i64))]), (true, [.data (.prod (.int .i64) (.int .i64))])], [], [(true, [.data (.prod (.int .i64) (.int .i64))])], [], fun x k => c x.1.1.1 x.1.2.1.1 (fun r0 => k (((r0, ()), ()), ()))⟩
section
@[reducible] def clock_Meet_X : Ctx := ⟨look tab, pick1 []⟩
def clock_Meet_s {β : Type} (a : (Int × Int)) (b : (Int × Int)) (k : ((Int × Int) → Option β)) : Option β :=
  k ((if b.1 > a.1 then b.1 else a.1), (if b.2 < a.2 then b.2 else a.2))
theorem clock_Meet_ok' (hΓ : ΓOk Try.prog clock_Meet_X.Γ) : SpecOk Try.prog 35 (clock_Meet_S (clock_Meet_s)) :=
  spec_exec (X := clock_Meet_X) (Λ := pick1 []) (rs := [.cell 4 45]) (c := bodyOf Try.f35) mixed tab_ok hΓ Try.func35 (by kernel_rfl) (by kernel_rfl) (by kernel_rfl) (by kernel_rfl) CutsOk_nil (fun x k r h => Eq.trans (b := (clock_Meet_S (clock_Meet_s)).run x k) (by kernel_rfl) h)
end
theorem clock_Meet_Γ : ΓOk Try.prog (pick1 []) := ΓOk_nil
def clock_Meet : T_clock_Meet := clock_Meet_s
theorem clock_Meet_ok : SpecOk Try.prog 35 (clock_Meet_S clock_Meet) := clock_Meet_ok' clock_Meet_Γ

/-- pagewatch/pagewatchref38.Meet -/
abbrev T_ref38_Meet := {β : Type} → (Int × Int) → (Int × Int) → ((Int × Int) → Option β) → Option β
def ref38_Meet_S (c : T_ref38_Meet) : Spec :=
  ⟨[(true, [.data (.prod (.int .i64) (.int .i64))]), (true, [.data (.prod (.int .i64) (.int .i64))])], [], [(true, [.data (.prod (.int .i64) (.int .i64))])], [], fun x k => c x.1.1.1 x.1.2.1.1 (fun r0 => k (((r0, ()), ()), ()))⟩
section
@[reducible] def ref38_Meet_X : Ctx := ⟨look tab, pick1 []⟩
def ref38_Meet_s {β : Type} (a : (Int × Int)) (b : (Int × Int)) (k : ((Int × Int) → Option β)) : Option β :=
  k ((if b.1 > a.1 then b.1 else a.1), (if b.2 < a.2 then b.2 else a.2))
theorem ref38_Meet_ok' (hΓ : ΓOk Try.prog ref38_Meet_X.Γ) : SpecOk Try.prog 36 (ref38_Meet_S (ref38_Meet_s)) :=
  spec_exec (X := ref38_Meet_X) (Λ := pick1 []) (rs := [.cell 4 45]) (c := bodyOf Try.f36) mixed tab_ok hΓ Try.func36 (by kernel_rfl) (by kernel_rfl) (by kernel_rfl) (by kernel_rfl) CutsOk_nil (fun x k r h => Eq.trans (b := (ref38_Meet_S (ref38_Meet_s)).run x k) (by kernel_rfl) h)
end
theorem ref38_Meet_Γ : ΓOk Try.prog (pick1 []) := ΓOk_nil
def ref38_Meet : T_ref38_Meet := ref38_Meet_s
theorem ref38_Meet_ok : SpecOk Try.prog 36 (ref38_Meet_S ref38_Meet) := ref38_Meet_ok' ref38_Meet_Γ

/-- pagewatch/clock.Empty -/
abbrev T_clock_Empty := {β : Type} → (Int × Int) → (Bool → Option β) → Option β
def clock_Empty_S (c : T_clock_Empty) : Spec :=
  ⟨[(true, [.data (.prod (.int .i64) (.int .i64))])], [], [(false, [.data .bool])], [], fun x k => c x.1.1.1 (fun r0 => k (((r0, ()), ()), ()))⟩
section
@[reducible] def clock_Empty_X : Ctx := ⟨look tab, pick1 []⟩
def clock_Empty_s {β : Type} (a : (Int × Int)) (k : (Bool → Option β)) : Option β :=
  k (decide (a.2 < a.1))
theorem clock_Empty_ok' (hΓ : ΓOk Try.prog clock_Empty_X.Γ) : SpecOk Try.prog 37 (clock_Empty_S (clock_Empty_s)) :=
  spec_exec (X := clock_Empty_X) (Λ := pick1 []) (rs := [.tmp 2]) (c := bodyOf Try.f37) mixed tab_ok hΓ Try.func37 (by kernel_rfl) (by kernel_rfl) (by kernel_rfl) (by kernel_rfl) CutsOk_nil (fun x k r h => Eq.trans (b := (clock_Empty_S (clock_Empty_s)).run x k) (by kernel_rfl) h)
end
theorem clock_Empty_Γ : ΓOk Try.prog (pick1 []) := ΓOk_nil
def clock_Empty : T_clock_Empty := clock_Empty_s
theorem clock_Empty_ok : SpecOk Try.prog 37 (clock_Empty_S clock_Empty) := clock_Empty_ok' clock_Empty_Γ

/-- pagewatch/pagewatchref38.Empty -/
abbrev T_ref38_Empty := {β : Type} → (Int × Int) → (Bool → Option β) → Option β
def ref38_Empty_S (c : T_ref38_Empty) : Spec :=
  ⟨[(true, [.data (.prod (.int .i64) (.int .i64))])], [], [(false, [.data .bool])], [], fun x k => c x.1.1.1 (fun r0 => k (((r0, ()), ()), ()))⟩
section
@[reducible] def ref38_Empty_X : Ctx := ⟨look tab, pick1 []⟩
def ref38_Empty_s {β : Type} (a : (Int × Int)) (k : (Bool → Option β)) : Option β :=
  k (decide (a.2 < a.1))
theorem ref38_Empty_ok' (hΓ : ΓOk Try.prog ref38_Empty_X.Γ) : SpecOk Try.prog 38 (ref38_Empty_S (ref38_Empty_s)) :=
  spec_exec (X := ref38_Empty_X) (Λ := pick1 []) (rs := [.tmp 2]) (c := bodyOf Try.f38) mixed tab_ok hΓ Try.func38 (by kernel_rfl) (by kernel_rfl) (by kernel_rfl) (by kernel_rfl) CutsOk_nil (fun x k r h => Eq.trans (b := (ref38_Empty_S (ref38_Empty_s)).run x k) (by kernel_rfl) h)
end
theorem ref38_Empty_Γ : ΓOk Try.prog (pick1 []) := ΓOk_nil
def ref38_Empty : T_ref38_Empty := ref38_Empty_s
theorem ref38_Empty_ok : SpecOk Try.prog 38 (ref38_Empty_S ref38_Empty) := ref38_Empty_ok' ref38_Empty_Γ

/-- pagewatch/clock.in -/
abbrev T_clock_in := {β : Type} → Int → Int → Int → (Bool → Option β) → Option β
def clock_in_S (c : T_clock_in) : Spec :=
  ⟨[(false, [.data (.int .i64)]), (false, [.data (.int .i64)]), (false, [.data (.int .i64)])], [], [(false, [.data .bool])], [], fun x k => c x.1.1.1 x.1.2.1.1 x.1.2.2.1.1 (fun r0 => k (((r0, ()), ()), ()))⟩
section
@[reducible] def clock_in_X : Ctx := ⟨look tab, pick1 []⟩
def clock_in_s {β : Type} (n : Int) (low : Int) (high : Int) (k : (Bool → Option β)) : Option β :=
  cond (decide (low ≤ n))
  (k (decide (n ≤ high)))
  (k false)
theorem clock_in_ok' (hΓ : ΓOk Try.prog clock_in_X.Γ) : SpecOk Try.prog 63 (clock_in_S (clock_in_s)) :=
  spec_exec (X := clock_in_X) (Λ := pick1 []) (rs := [.tmp 6]) (c := bodyOf Try.f63) mixed tab_ok hΓ Try.func63 (by kernel_rfl) (by kernel_rfl) (by kernel_rfl) (by kernel_rfl) CutsOk_nil (fun x k r h => Eq.trans (b := (clock_in_S (clock_in_s)).run x k) (by kernel_rfl) h)
end
theorem clock_in_Γ : ΓOk Try.prog (pick1 []) := ΓOk_nil
def clock_in : T_clock_in := clock_in_s
theorem clock_in_ok : SpecOk Try.prog 63 (clock_in_S clock_in) := clock_in_ok' clock_in_Γ

/-- pagewatch/clock.instant -/
abbrev T_clock_instant := {β : Type} → Int → (Bool → Option β) → Option β
def clock_instant_S (c : T_clock_instant) : Spec :=
  ⟨[(false, [.data (.int .i64)])], [], [(false, [.data .bool])], [], fun x k => c x.1.1.1 (fun r0 => k (((r0, ()), ()), ()))⟩
section
variable (c_clock_in : T_clock_in)
@[reducible] def clock_instant_X : Ctx := ⟨look tab, pick1 [(63, clock_in_S c_clock_in)]⟩
def clock_instant_s {β : Type} (n : Int) (k : (Bool → Option β)) : Option β :=
  c_clock_in n (0 : Int) (8589934592 : Int) (fun (rin : Bool) =>
  k rin)
theorem clock_instant_ok' (hΓ : ΓOk Try.prog (clock_instant_X c_clock_in).Γ) : SpecOk Try.prog 64 (clock_instant_S (clock_instant_s c_clock_in)) :=
  spec_exec (X := (clock_instant_X c_clock_in)) (Λ := pick1 []) (rs := [.tmp 2]) (c := bodyOf Try.f64) mixed tab_ok hΓ Try.func64 (by kernel_rfl) (by kernel_rfl) (by kernel_rfl) (by kernel_rfl) CutsOk_nil (fun x k r h => Eq.trans (b := (clock_instant_S (clock_instant_s c_clock_in)).run x k) (by kernel_rfl) h)
end
theorem clock_instant_Γ : ΓOk Try.prog (pick1 [(63, clock_in_S clock_in)]) := (ΓOk_cons clock_in_ok ΓOk_nil)
def clock_instant : T_clock_instant := clock_instant_s clock_in
theorem clock_instant_ok : SpecOk Try.prog 64 (clock_instant_S clock_instant) := clock_instant_ok' clock_in clock_instant_Γ

/-- pagewatch/clock.Elapsed$1 -/
abbrev T_clock_Elapsed_f1 := {β : Type} → Int → Int → (Int → Option β) → Option β
def clock_Elapsed_f1_S (c : T_clock_Elapsed_f1) : Spec :=
  ⟨[(false, [.data (.int .i64)]), (false, [.data (.int .i64)])], [], [(false, [.data (.int .i64)])], [], fun x k => c x.1.1.1 x.1.2.1.1 (fun r0 => k (((r0, ()), ()), ()))⟩
section
@[reducible] def clock_Elapsed_f1_X : Ctx := ⟨look tab, pick1 []⟩
def clock_Elapsed_f1_s {β : Type} (a : Int) (b : Int) (k : (Int → Option β)) : Option β :=
  cond (!decide (b = 0))
  (let t : Int := (IntKind.i64.wrap (Int.tdiv (IntKind.i64.wrap ((IntKind.i64.wrap (a + b)) - (1 : Int))) b));
  k t)
  none
theorem clock_Elapsed_f1_ok' (hΓ : ΓOk Try.prog clock_Elapsed_f1_X.Γ) : SpecOk Try.prog 65 (clock_Elapsed_f1_S (clock_Elapsed_f1_s)) :=
  spec_exec (X := clock_Elapsed_f1_X) (Λ := pick1 []) (rs := [.tmp 4]) (c := bodyOf Try.f65) mixed tab_ok hΓ Try.func65 (by kernel_rfl) (by kernel_rfl) (by kernel_rfl) (by kernel_rfl) CutsOk_nil (fun x k r h => Eq.trans (b := (clock_Elapsed_f1_S (clock_Elapsed_f1_s)).run x k) (by kernel_rfl) h)
end
theorem clock_Elapsed_f1_Γ : ΓOk Try.prog (pick1 []) := ΓOk_nil
def clock_Elapsed_f1 : T_clock_Elapsed_f1 := clock_Elapsed_f1_s
theorem clock_Elapsed_f1_ok : SpecOk Try.prog 65 (clock_Elapsed_f1_S clock_Elapsed_f1) := clock_Elapsed_f1_ok' clock_Elapsed_f1_Γ

/-- pagewatch/clock.compared -/
abbrev T_clock_compared := {β : Type} → (Int × (Int × (Int × Int))) → (Bool → Option β) → Option β
def clock_compared_S (c : T_clock_compared) : Spec :=
  ⟨[(true, [.data (.prod (.int .i64) (.prod (.int .i64) (.prod (.int .i64) (.int .i64))))])], [], [(false, [.data .bool])], [], fun x k => c x.1.1.1 (fun r0 => k (((r0, ()), ()), ()))⟩
section
variable (c_clock_instant : T_clock_instant)
@[reducible] def clock_compared_X : Ctx := ⟨look tab, pick1 [(64, clock_instant_S c_clock_instant)]⟩
def clock_compared_s {β : Type} (s : (Int × (Int × (Int × Int)))) (k : (Bool → Option β)) : Option β :=
  c_clock_instant s.2.1 (fun (rinstant : Bool) =>
  cond rinstant
  (c_clock_instant s.2.2.1 (fun (rinstant2 : Bool) =>
  cond rinstant2
  (c_clock_instant s.2.2.2 (fun (rinstant3 : Bool) =>
  cond rinstant3
  (let t : Bool := (decide (s.2.2.1 ≤ s.2.2.2));
  k t)
  (k false)))
  (k false)))
  (k false))
theorem clock_compared_ok' (hΓ : ΓOk Try.prog (clock_compared_X c_clock_instant).Γ) : SpecOk Try.prog 66 (clock_compared_S (clock_compared_s c_clock_instant)) :=
  spec_exec (X := (clock_compared_X c_clock_instant)) (Λ := pick1 []) (rs := [.tmp 2]) (c := bodyOf Try.f66) mixed tab_ok hΓ Try.func66 (by kernel_rfl) (by kernel_rfl) (by kernel_rfl) (by kernel_rfl) CutsOk_nil (fun x k r h => Eq.trans (b := (clock_compared_S (clock_compared_s c_clock_instant)).run x k) (by kernel_rfl) h)
end
theorem clock_compared_Γ : ΓOk Try.prog (pick1 [(64, clock_instant_S clock_instant)]) := (ΓOk_cons clock_instant_ok ΓOk_nil)
def clock_compared : T_clock_compared := clock_compared_s clock_instant
theorem clock_compared_ok : SpecOk Try.prog 66 (clock_compared_S clock_compared) := clock_compared_ok' clock_instant clock_compared_Γ

/-- pagewatch/clock.bound -/
abbrev T_clock_bound := {β : Type} → Int → (Bool → Option β) → Option β
def clock_bound_S (c : T_clock_bound) : Spec :=
  ⟨[(false, [.data (.int .i64)])], [], [(false, [.data .bool])], [], fun x k => c x.1.1.1 (fun r0 => k (((r0, ()), ()), ()))⟩
section
variable (c_clock_in : T_clock_in)
@[reducible] def clock_bound_X : Ctx := ⟨look tab, pick1 [(63, clock_in_S c_clock_in)]⟩
def clock_bound_s {β : Type} (n : Int) (k : (Bool → Option β)) : Option β :=
  c_clock_in n (-1099511627776 : Int) (1099511627776 : Int) (fun (rin : Bool) =>
  k rin)
theorem clock_bound_ok' (hΓ : ΓOk Try.prog (clock_bound_X c_clock_in).Γ) : SpecOk Try.prog 67 (clock_bound_S (clock_bound_s c_clock_in)) :=
  spec_exec (X := (clock_bound_X c_clock_in)) (Λ := pick1 []) (rs := [.tmp 2]) (c := bodyOf Try.f67) mixed tab_ok hΓ Try.func67 (by kernel_rfl) (by kernel_rfl) (by kernel_rfl) (by kernel_rfl) CutsOk_nil (fun x k r h => Eq.trans (b := (clock_bound_S (clock_bound_s c_clock_in)).run x k) (by kernel_rfl) h)
end
theorem clock_bound_Γ : ΓOk Try.prog (pick1 [(63, clock_in_S clock_in)]) := (ΓOk_cons clock_in_ok ΓOk_nil)
def clock_bound : T_clock_bound := clock_bound_s clock_in
theorem clock_bound_ok : SpecOk Try.prog 67 (clock_bound_S clock_bound) := clock_bound_ok' clock_in clock_bound_Γ

/-- pagewatch/clock.moved -/
abbrev T_clock_moved := {β : Type} → Int → Int → (Int → Option β) → Option β
def clock_moved_S (c : T_clock_moved) : Spec :=
  ⟨[(false, [.data (.int .i64)]), (false, [.data (.int .i64)])], [], [(false, [.data (.int .i64)])], [], fun x k => c x.1.1.1 x.1.2.1.1 (fun r0 => k (((r0, ()), ()), ()))⟩
section
@[reducible] def clock_moved_X : Ctx := ⟨look tab, pick1 []⟩
def clock_moved_s {β : Type} (x : Int) (d : Int) (k : (Int → Option β)) : Option β :=
  cond (decide (x = (-1099511627776 : Int)))
  (k x)
  (cond (decide (x = (1099511627776 : Int)))
  (k x)
  (let t : Int := (if (1099511627776 : Int) < (if (-1099511627776 : Int) > (IntKind.i64.wrap (x + d)) then (-1099511627776 : Int) else (IntKind.i64.wrap (x + d))) then (1099511627776 : Int) else (if (-1099511627776 : Int) > (IntKind.i64.wrap (x + d)) then (-1099511627776 : Int) else (IntKind.i64.wrap (x + d))));
  k t))
theorem clock_moved_ok' (hΓ : ΓOk Try.prog clock_moved_X.Γ) : SpecOk Try.prog 68 (clock_moved_S (clock_moved_s)) :=
  spec_exec (X := clock_moved_X) (Λ := pick1 []) (rs := [.tmp 4]) (c := bodyOf Try.f68) mixed tab_ok hΓ Try.func68 (by kernel_rfl) (by kernel_rfl) (by kernel_rfl) (by kernel_rfl) CutsOk_nil (fun x k r h => Eq.trans (b := (clock_moved_S (clock_moved_s)).run x k) (by kernel_rfl) h)
end
theorem clock_moved_Γ : ΓOk Try.prog (pick1 []) := ΓOk_nil
def clock_moved : T_clock_moved := clock_moved_s
theorem clock_moved_ok : SpecOk Try.prog 68 (clock_moved_S clock_moved) := clock_moved_ok' clock_moved_Γ

/-- pagewatch/pagewatchref25.In -/
abbrev T_ref25_In := {β : Type} → Int → Int → Int → (Bool → Option β) → Option β
def ref25_In_S (c : T_ref25_In) : Spec :=
  ⟨[(false, [.data (.int .i64)]), (false, [.data (.int .i64)]), (false, [.data (.int .i64)])], [], [(false, [.data .bool])], [], fun x k => c x.1.1.1 x.1.2.1.1 x.1.2.2.1.1 (fun r0 => k (((r0, ()), ()), ()))⟩
section
@[reducible] def ref25_In_X : Ctx := ⟨look tab, pick1 []⟩
def ref25_In_s {β : Type} (n : Int) (lo : Int) (hi : Int) (k : (Bool → Option β)) : Option β :=
  cond (decide (lo ≤ n))
  (k (decide (n ≤ hi)))
  (k false)
theorem ref25_In_ok' (hΓ : ΓOk Try.prog ref25_In_X.Γ) : SpecOk Try.prog 69 (ref25_In_S (ref25_In_s)) :=
  spec_exec (X := ref25_In_X) (Λ := pick1 []) (rs := [.tmp 6]) (c := bodyOf Try.f69) mixed tab_ok hΓ Try.func69 (by kernel_rfl) (by kernel_rfl) (by kernel_rfl) (by kernel_rfl) CutsOk_nil (fun x k r h => Eq.trans (b := (ref25_In_S (ref25_In_s)).run x k) (by kernel_rfl) h)
end
theorem ref25_In_Γ : ΓOk Try.prog (pick1 []) := ΓOk_nil
def ref25_In : T_ref25_In := ref25_In_s
theorem ref25_In_ok : SpecOk Try.prog 69 (ref25_In_S ref25_In) := ref25_In_ok' ref25_In_Γ

/-- pagewatch/pagewatchref38.end -/
abbrev T_ref38_end := {β : Type} → Int → Int → (Int → Option β) → Option β
def ref38_end_S (c : T_ref38_end) : Spec :=
  ⟨[(false, [.data (.int .i64)]), (false, [.data (.int .i64)])], [], [(false, [.data (.int .i64)])], [], fun x k => c x.1.1.1 x.1.2.1.1 (fun r0 => k (((r0, ()), ()), ()))⟩
section
@[reducible] def ref38_end_X : Ctx := ⟨look tab, pick1 []⟩
def ref38_end_s {β : Type} (x : Int) (d : Int) (k : (Int → Option β)) : Option β :=
  cond (decide (x = (-1099511627776 : Int)))
  (k x)
  (cond (decide (x = (1099511627776 : Int)))
  (k x)
  (let t : Int := (if (1099511627776 : Int) < (if (-1099511627776 : Int) > (IntKind.i64.wrap (x + d)) then (-1099511627776 : Int) else (IntKind.i64.wrap (x + d))) then (1099511627776 : Int) else (if (-1099511627776 : Int) > (IntKind.i64.wrap (x + d)) then (-1099511627776 : Int) else (IntKind.i64.wrap (x + d))));
  k t))
theorem ref38_end_ok' (hΓ : ΓOk Try.prog ref38_end_X.Γ) : SpecOk Try.prog 70 (ref38_end_S (ref38_end_s)) :=
  spec_exec (X := ref38_end_X) (Λ := pick1 []) (rs := [.tmp 4]) (c := bodyOf Try.f70) mixed tab_ok hΓ Try.func70 (by kernel_rfl) (by kernel_rfl) (by kernel_rfl) (by kernel_rfl) CutsOk_nil (fun x k r h => Eq.trans (b := (ref38_end_S (ref38_end_s)).run x k) (by kernel_rfl) h)
end
theorem ref38_end_Γ : ΓOk Try.prog (pick1 []) := ΓOk_nil
def ref38_end : T_ref38_end := ref38_end_s
theorem ref38_end_ok : SpecOk Try.prog 70 (ref38_end_S ref38_end) := ref38_end_ok' ref38_end_Γ

/-- pagewatch/clock.Elapsed -/
abbrev T_clock_Elapsed := {β : Type} → Int → Int → (Int → Int → Option β) → Option β
def clock_Elapsed_S (c : T_clock_Elapsed) : Spec :=
  ⟨[(false, [.data (.int .i64)]), (false, [.data (.int .i64)])], [], [(false, [.data (.int .i64)]), (false, [.data (.int .i64)])], [], fun x k => c x.1.1.1 x.1.2.1.1 (fun r0 r1 => k (((r0, ()), (r1, ()), ()), ()))⟩
section
variable (c_clock_Elapsed_f1 : T_clock_Elapsed_f1) (c_clock_in : T_clock_in) (c_clock_instant : T_clock_instant)
@[reducible] def clock_Elapsed_X : Ctx := ⟨look tab, pick1 [(65, clock_Elapsed_f1_S c_clock_Elapsed_f1), (63, clock_in_S c_clock_in), (64, clock_instant_S c_clock_instant)]⟩
def clock_Elapsed_s {β : Type} (drift : Int) (d : Int) (k : (Int → Int → Option β)) : Option β :=
  c_clock_in drift (0 : Int) (500000 : Int) (fun (rin : Bool) =>
  cond (!rin)
  (k (0 : Int) (0 : Int))
  (c_clock_instant d (fun (rinstant : Bool) =>
  cond (!rinstant)
  (k (0 : Int) (0 : Int))
  (cond (!decide ((IntKind.i64.wrap ((1000000 : Int) + drift)) = 0))
  (c_clock_Elapsed_f1 (IntKind.i64.wrap (d * (1000000 : Int))) (IntKind.i64.wrap ((1000000 : Int) - drift)) (fun (rElapsed1 : Int) =>
  let low : Int := (IntKind.i64.wrap (Int.tdiv (IntKind.i64.wrap (d * (1000000 : Int))) (IntKind.i64.wrap ((1000000 : Int) + drift))));
  k low rElapsed1))
  none))))
theorem clock_Elapsed_ok' (hΓ : ΓOk Try.prog (clock_Elapsed_X c_clock_Elapsed_f1 c_clock_in c_clock_instant).Γ) : SpecOk Try.prog 16 (clock_Elapsed_S (clock_Elapsed_s c_clock_Elapsed_f1 c_clock_in c_clock_instant)) :=
  spec_exec (X := (clock_Elapsed_X c_clock_Elapsed_f1 c_clock_in c_clock_instant)) (Λ := pick1 []) (rs := [.tmp 4, .tmp 5]) (c := bodyOf Try.f16) mixed tab_ok hΓ Try.func16 (by kernel_rfl) (by kernel_rfl) (by kernel_rfl) (by kernel_rfl) CutsOk_nil (fun x k r h => Eq.trans (b := (clock_Elapsed_S (clock_Elapsed_s c_clock_Elapsed_f1 c_clock_in c_clock_instant)).run x k) (by kernel_rfl) h)
end
theorem clock_Elapsed_Γ : ΓOk Try.prog (pick1 [(65, clock_Elapsed_f1_S clock_Elapsed_f1), (63, clock_in_S clock_in), (64, clock_instant_S clock_instant)]) := (ΓOk_cons clock_Elapsed_f1_ok (ΓOk_cons clock_in_ok (ΓOk_cons clock_instant_ok ΓOk_nil)))
def clock_Elapsed : T_clock_Elapsed := clock_Elapsed_s clock_Elapsed_f1 clock_in clock_instant
theorem clock_Elapsed_ok : SpecOk Try.prog 16 (clock_Elapsed_S clock_Elapsed) := clock_Elapsed_ok' clock_Elapsed_f1 clock_in clock_instant clock_Elapsed_Γ

/-- (*pagewatch/pagewatchmade.Dice).One -/
abbrev T_made_Dice_One := {β : Type} → (List Int) → (List Int × Int) → (Int → (List Int × Int) → Option β) → Option β
def made_Dice_One_S (c : T_made_Dice_One) : Spec :=
  ⟨[(false, [.ptr 0 0]), (false, [.data (.slice (.int .i64))])], [.cells 90 [.data (.prod (.slice (.int .i64)) (.int .i64))]], [(false, [.data (.int .i64)])], [.cells 90 [.data (.prod (.slice (.int .i64)) (.int .i64))]], fun x k => c x.1.2.1.1 x.2.1.1 (fun r0 r1 => k (((r0, ()), ()), ((r1, ()), ())))⟩
section
variable (c_made_Dice_Next : T_made_Dice_Next)
@[reducible] def made_Dice_One_X : Ctx := ⟨look tab, pick1 [(21, made_Dice_Next_S c_made_Dice_Next)]⟩
def made_Dice_One_s {β : Type} (l : List Int) (d : (List Int × Int)) (k : (Int → (List Int × Int) → Option β)) : Option β :=
  c_made_Dice_Next (List.length l : Int) d (fun (rNext : Int) (mrNext : (List Int × Int)) =>
  cond (decide (0 ≤ rNext) && decide (rNext < (List.length l : Int)))
  (let e : Int := List.getD l (Int.toNat rNext) (0 : Int);
  k e mrNext)
  none)
theorem made_Dice_One_ok' (hΓ : ΓOk Try.prog (made_Dice_One_X c_made_Dice_Next).Γ) : SpecOk Try.prog 20 (made_Dice_One_S (made_Dice_One_s c_made_Dice_Next)) :=
  spec_exec (X := (made_Dice_One_X c_made_Dice_Next)) (Λ := pick1 []) (rs := [.tmp 4]) (c := bodyOf Try.f20) mixed tab_ok hΓ Try.func20 (by kernel_rfl) (by kernel_rfl) (by kernel_rfl) (by kernel_rfl) CutsOk_nil (fun x k r h => Eq.trans (b := (made_Dice_One_S (made_Dice_One_s c_made_Dice_Next)).run x k) (by kernel_rfl) h)
end
theorem made_Dice_One_Γ : ΓOk Try.prog (pick1 [(21, made_Dice_Next_S made_Dice_Next)]) := (ΓOk_cons made_Dice_Next_ok ΓOk_nil)
def made_Dice_One : T_made_Dice_One := made_Dice_One_s made_Dice_Next
theorem made_Dice_One_ok : SpecOk Try.prog 20 (made_Dice_One_S made_Dice_One) := made_Dice_One_ok' made_Dice_Next made_Dice_One_Γ

/-- (*pagewatch/pagewatchmade.Dice).Record -/
abbrev T_made_Dice_Record := {β : Type} → Int → (List Int × Int) → (api_Record → (List Int × Int) → (List Int) → Option β) → Option β
def made_Dice_Record_S (c : T_made_Dice_Record) : Spec :=
  ⟨[(false, [.ptr 0 0]), (false, [.data (.int .i64)])], [.cells 90 [.data (.prod (.slice (.int .i64)) (.int .i64))]], [(true, [.data y_api_Record]), (false, [.rowh 1])], [.cells 90 [.data (.prod (.slice (.int .i64)) (.int .i64))], .row 3 (.int .i64)], fun x k => c x.1.2.1.1 x.2.1.1 (fun r0 r1 r2 => k (((r0, ()), (), ()), ((r1, ()), r2, ())))⟩
noncomputable def made_Dice_Record_p1_code : Code := codeAt 122 (bodyOf Try.f26)
noncomputable def made_Dice_Record_p2_code : Code := codeAt 250 (bodyOf Try.f26)
noncomputable def made_Dice_Record_p3_code : Code := codeAt 1018 (bodyOf Try.f26)
noncomputable def made_Dice_Record_p5_code : Code := codeAt 2042 (bodyOf Try.f26)
noncomputable def made_Dice_Record_p4_code : Code := codeAt 51 (loopBody made_Dice_Record_p5_code)
abbrev made_Dice_Record_p1_K1 (β : Type) := Int → (List Int) → Int → (List Int) → (List (List UInt8 × Int)) → (List (Int × (Int × (Int × Int)))) → (List api_Event) → (List (Int × (Int × Int))) → (List (List UInt8 × Int)) → (List (Int × (Int × (Int × Int)))) → (List api_Event) → (List (Int × (Int × Int))) → Option β
abbrev made_Dice_Record_p1_T := {β : Type} → made_Dice_Record_p1_K1 β → Int → Int → (List Int) → Int → (List Int) → (List (List UInt8 × Int)) → (List (Int × (Int × (Int × Int)))) → (List api_Event) → (List (Int × (Int × Int))) → (List (List UInt8 × Int)) → (List (Int × (Int × (Int × Int)))) → (List api_Event) → (List (Int × (Int × Int))) → Option β
def made_Dice_Record_p1_v : View := ⟨1, [0, 1, 4, 6, 7, 8], [(false, [.ptr 0 0]), (false, [.data (.int .i64)]), (false, [.ptr 1 0]), (false, [.ptr 2 0]), (false, [.rowh 3]), (false, [.data (.int .i64)])], [.cells 90 [.data (.slice (.int .i64)), .data (.int .i64)], .cells 41 [.rowh 4, .rowh 5, .rowh 6, .rowh 7], .cells 41 [.rowh 8, .rowh 9, .rowh 10, .rowh 11], .row 3 (.int .i64), .row 35 (.prod .str (.int .i64)), .row 43 (.prod (.int .i64) (.prod (.int .i64) (.prod (.int .i64) (.int .i64)))), .row 65 y_api_Event, .row 67 (.prod (.int .i64) (.prod (.int .i64) (.int .i64))), .row 35 (.prod .str (.int .i64)), .row 43 (.prod (.int .i64) (.prod (.int .i64) (.prod (.int .i64) (.int .i64)))), .row 65 y_api_Event, .row 67 (.prod (.int .i64) (.prod (.int .i64) (.int .i64)))]⟩
def made_Dice_Record_p1_o : List (AExit × View) := [(.exit 0, ⟨1, [0, 1, 4, 6, 7], [(false, [.ptr 0 0]), (false, [.data (.int .i64)]), (false, [.ptr 1 0]), (false, [.ptr 2 0]), (false, [.rowh 3])], [.cells 90 [.data (.slice (.int .i64)), .data (.int .i64)], .cells 41 [.rowh 4, .rowh 5, .rowh 6, .rowh 7], .cells 41 [.rowh 8, .rowh 9, .rowh 10, .rowh 11], .row 3 (.int .i64), .row 35 (.prod .str (.int .i64)), .row 43 (.prod (.int .i64) (.prod (.int .i64) (.prod (.int .i64) (.int .i64)))), .row 65 y_api_Event, .row 67 (.prod (.int .i64) (.prod (.int .i64) (.int .i64))), .row 35 (.prod .str (.int .i64)), .row 43 (.prod (.int .i64) (.prod (.int .i64) (.prod (.int .i64) (.int .i64)))), .row 65 y_api_Event, .row 67 (.prod (.int .i64) (.prod (.int .i64) (.int .i64)))]⟩)]
@[reducible] def made_Dice_Record_p1_G (p : made_Dice_Record_p1_T) {β : Type} (d : made_Dice_Record_p1_v.den) (ks : Outs.K β made_Dice_Record_p1_o) : Option β :=
  p (fun a0 a1 a2 a3 a4 a5 a6 a7 a8 a9 a10 a11 => ks.1 (((), (a0, ()), (), (), (), ()), ((a1, a2, ()), (), (), a3, a4, a5, a6, a7, a8, a9, a10, a11, ()))) d.1.2.1.1 d.1.2.2.2.2.2.1.1 d.2.1.1 d.2.1.2.1 d.2.2.2.2.1 d.2.2.2.2.2.1 d.2.2.2.2.2.2.1 d.2.2.2.2.2.2.2.1 d.2.2.2.2.2.2.2.2.1 d.2.2.2.2.2.2.2.2.2.1 d.2.2.2.2.2.2.2.2.2.2.1 d.2.2.2.2.2.2.2.2.2.2.2.1 d.2.2.2.2.2.2.2.2.2.2.2.2.1
abbrev made_Dice_Record_p2_K1 (β : Type) := Int → (List Int) → Int → (List Int) → (List (List UInt8 × Int)) → (List (Int × (Int × (Int × Int)))) → (List api_Event) → (List (Int × (Int × Int))) → (List (List UInt8 × Int)) → (List (Int × (Int × (Int × Int)))) → (List api_Event) → (List (Int × (Int × Int))) → Option β
abbrev made_Dice_Record_p2_T := {β : Type} → made_Dice_Record_p2_K1 β → Int → Int → (List Int) → Int → (List Int) → (List (List UInt8 × Int)) → (List (Int × (Int × (Int × Int)))) → (List api_Event) → (List (Int × (Int × Int))) → (List (List UInt8 × Int)) → (List (Int × (Int × (Int × Int)))) → (List api_Event) → (List (Int × (Int × Int))) → Option β
def made_Dice_Record_p2_v : View := ⟨1, [0, 1, 4, 6, 7, 9], [(false, [.ptr 0 0]), (false, [.data (.int .i64)]), (false, [.ptr 1 0]), (false, [.ptr 2 0]), (false, [.rowh 3]), (false, [.data (.int .i64)])], [.cells 90 [.data (.slice (.int .i64)), .data (.int .i64)], .cells 41 [.rowh 4, .rowh 5, .rowh 6, .rowh 7], .cells 41 [.rowh 8, .rowh 9, .rowh 10, .rowh 11], .row 3 (.int .i64), .row 35 (.prod .str (.int .i64)), .row 43 (.prod (.int .i64) (.prod (.int .i64) (.prod (.int .i64) (.int .i64)))), .row 65 y_api_Event, .row 67 (.prod (.int .i64) (.prod (.int .i64) (.int .i64))), .row 35 (.prod .str (.int .i64)), .row 43 (.prod (.int .i64) (.prod (.int .i64) (.prod (.int .i64) (.int .i64)))), .row 65 y_api_Event, .row 67 (.prod (.int .i64) (.prod (.int .i64) (.int .i64)))]⟩
def made_Dice_Record_p2_o : List (AExit × View) := [(.exit 2, ⟨1, [0, 1, 4, 6, 7], [(false, [.ptr 0 0]), (false, [.data (.int .i64)]), (false, [.ptr 1 0]), (false, [.ptr 2 0]), (false, [.rowh 3])], [.cells 90 [.data (.slice (.int .i64)), .data (.int .i64)], .cells 41 [.rowh 4, .rowh 5, .rowh 6, .rowh 7], .cells 41 [.rowh 8, .rowh 9, .rowh 10, .rowh 11], .row 3 (.int .i64), .row 35 (.prod .str (.int .i64)), .row 43 (.prod (.int .i64) (.prod (.int .i64) (.prod (.int .i64) (.int .i64)))), .row 65 y_api_Event, .row 67 (.prod (.int .i64) (.prod (.int .i64) (.int .i64))), .row 35 (.prod .str (.int .i64)), .row 43 (.prod (.int .i64) (.prod (.int .i64) (.prod (.int .i64) (.int .i64)))), .row 65 y_api_Event, .row 67 (.prod (.int .i64) (.prod (.int .i64) (.int .i64)))]⟩)]
@[reducible] def made_Dice_Record_p2_G (p : made_Dice_Record_p2_T) {β : Type} (d : made_Dice_Record_p2_v.den) (ks : Outs.K β made_Dice_Record_p2_o) : Option β :=
  p (fun a0 a1 a2 a3 a4 a5 a6 a7 a8 a9 a10 a11 => ks.1 (((), (a0, ()), (), (), (), ()), ((a1, a2, ()), (), (), a3, a4, a5, a6, a7, a8, a9, a10, a11, ()))) d.1.2.1.1 d.1.2.2.2.2.2.1.1 d.2.1.1 d.2.1.2.1 d.2.2.2.2.1 d.2.2.2.2.2.1 d.2.2.2.2.2.2.1 d.2.2.2.2.2.2.2.1 d.2.2.2.2.2.2.2.2.1 d.2.2.2.2.2.2.2.2.2.1 d.2.2.2.2.2.2.2.2.2.2.1 d.2.2.2.2.2.2.2.2.2.2.2.1 d.2.2.2.2.2.2.2.2.2.2.2.2.1
abbrev made_Dice_Record_p3_K1 (β : Type) := (List Int) → Int → (List Int) → (List (List UInt8 × Int)) → (List (Int × (Int × (Int × Int)))) → (List api_Event) → (List (Int × (Int × Int))) → (List (List UInt8 × Int)) → (List (Int × (Int × (Int × Int)))) → (List api_Event) → (List (Int × (Int × Int))) → Option β
abbrev made_Dice_Record_p3_T := {β : Type} → made_Dice_Record_p3_K1 β → Int → (List Int) → Int → (List Int) → (List Int) → (List (List UInt8 × Int)) → (List (Int × (Int × (Int × Int)))) → (List api_Event) → (List (Int × (Int × Int))) → (List (List UInt8 × Int)) → (List (Int × (Int × (Int × Int)))) → (List api_Event) → (List (Int × (Int × Int))) → Option β
def made_Dice_Record_p3_v : View := ⟨1, [0, 4, 6, 7, 12, 13], [(false, [.ptr 0 0]), (false, [.ptr 1 0]), (false, [.ptr 2 0]), (false, [.rowh 3]), (false, [.rowh 4]), (false, [.data (.int .i64)])], [.cells 90 [.data (.slice (.int .i64)), .data (.int .i64)], .cells 41 [.rowh 5, .rowh 6, .rowh 7, .rowh 8], .cells 41 [.rowh 9, .rowh 10, .rowh 11, .rowh 12], .row 3 (.int .i64), .row 3 (.int .i64), .row 35 (.prod .str (.int .i64)), .row 43 (.prod (.int .i64) (.prod (.int .i64) (.prod (.int .i64) (.int .i64)))), .row 65 y_api_Event, .row 67 (.prod (.int .i64) (.prod (.int .i64) (.int .i64))), .row 35 (.prod .str (.int .i64)), .row 43 (.prod (.int .i64) (.prod (.int .i64) (.prod (.int .i64) (.int .i64)))), .row 65 y_api_Event, .row 67 (.prod (.int .i64) (.prod (.int .i64) (.int .i64)))]⟩
def made_Dice_Record_p3_o : List (AExit × View) := [(.exit 4, ⟨1, [0, 4, 6, 12], [(false, [.ptr 0 0]), (false, [.ptr 1 0]), (false, [.ptr 2 0]), (false, [.rowh 3])], [.cells 90 [.data (.slice (.int .i64)), .data (.int .i64)], .cells 41 [.rowh 4, .rowh 5, .rowh 6, .rowh 7], .cells 41 [.rowh 8, .rowh 9, .rowh 10, .rowh 11], .row 3 (.int .i64), .row 35 (.prod .str (.int .i64)), .row 43 (.prod (.int .i64) (.prod (.int .i64) (.prod (.int .i64) (.int .i64)))), .row 65 y_api_Event, .row 67 (.prod (.int .i64) (.prod (.int .i64) (.int .i64))), .row 35 (.prod .str (.int .i64)), .row 43 (.prod (.int .i64) (.prod (.int .i64) (.prod (.int .i64) (.int .i64)))), .row 65 y_api_Event, .row 67 (.prod (.int .i64) (.prod (.int .i64) (.int .i64)))]⟩)]
@[reducible] def made_Dice_Record_p3_G (p : made_Dice_Record_p3_T) {β : Type} (d : made_Dice_Record_p3_v.den) (ks : Outs.K β made_Dice_Record_p3_o) : Option β :=
  p (fun a0 a1 a2 a3 a4 a5 a6 a7 a8 a9 a10 => ks.1 (((), (), (), (), ()), ((a0, a1, ()), (), (), a2, a3, a4, a5, a6, a7, a8, a9, a10, ()))) d.1.2.2.2.2.2.1.1 d.2.1.1 d.2.1.2.1 d.2.2.2.2.1 d.2.2.2.2.2.1 d.2.2.2.2.2.2.1 d.2.2.2.2.2.2.2.1 d.2.2.2.2.2.2.2.2.1 d.2.2.2.2.2.2.2.2.2.1 d.2.2.2.2.2.2.2.2.2.2.1 d.2.2.2.2.2.2.2.2.2.2.2.1 d.2.2.2.2.2.2.2.2.2.2.2.2.1 d.2.2.2.2.2.2.2.2.2.2.2.2.2.1
abbrev made_Dice_Record_p4_K1 (β : Type) := Int → (List Int) → Int → (List Int) → (List (List UInt8 × Int)) → (List (Int × (Int × (Int × Int)))) → (List api_Event) → (List (Int × (Int × Int))) → (List (List UInt8 × Int)) → (List (Int × (Int × (Int × Int)))) → (List api_Event) → (List (Int × (Int × Int))) → Option β
abbrev made_Dice_Record_p4_T := {β : Type} → made_Dice_Record_p4_K1 β → Int → Int → Int → Bool → (List Int) → Int → (List Int) → (List (List UInt8 × Int)) → (List (Int × (Int × (Int × Int)))) → (List api_Event) → (List (Int × (Int × Int))) → (List (List UInt8 × Int)) → (List (Int × (Int × (Int × Int)))) → (List api_Event) → (List (Int × (Int × Int))) → Option β
def made_Dice_Record_p4_v : View := ⟨1, [0, 4, 6, 12, 16, 17, 18, 154], [(false, [.ptr 0 0]), (false, [.ptr 1 0]), (false, [.ptr 2 0]), (false, [.rowh 3]), (false, [.data (.int .i64)]), (false, [.data (.int .i64)]), (false, [.data (.int .i64)]), (false, [.data .bool])], [.cells 90 [.data (.slice (.int .i64)), .data (.int .i64)], .cells 41 [.rowh 4, .rowh 5, .rowh 6, .rowh 7], .cells 41 [.rowh 8, .rowh 9, .rowh 10, .rowh 11], .row 3 (.int .i64), .row 35 (.prod .str (.int .i64)), .row 43 (.prod (.int .i64) (.prod (.int .i64) (.prod (.int .i64) (.int .i64)))), .row 65 y_api_Event, .row 67 (.prod (.int .i64) (.prod (.int .i64) (.int .i64))), .row 35 (.prod .str (.int .i64)), .row 43 (.prod (.int .i64) (.prod (.int .i64) (.prod (.int .i64) (.int .i64)))), .row 65 y_api_Event, .row 67 (.prod (.int .i64) (.prod (.int .i64) (.int .i64)))]⟩
def made_Dice_Record_p4_o : List (AExit × View) := [(.normal, ⟨1, [0, 4, 6, 12, 16], [(false, [.ptr 0 0]), (false, [.ptr 1 0]), (false, [.ptr 2 0]), (false, [.rowh 3]), (false, [.data (.int .i64)])], [.cells 90 [.data (.slice (.int .i64)), .data (.int .i64)], .cells 41 [.rowh 4, .rowh 5, .rowh 6, .rowh 7], .cells 41 [.rowh 8, .rowh 9, .rowh 10, .rowh 11], .row 3 (.int .i64), .row 35 (.prod .str (.int .i64)), .row 43 (.prod (.int .i64) (.prod (.int .i64) (.prod (.int .i64) (.int .i64)))), .row 65 y_api_Event, .row 67 (.prod (.int .i64) (.prod (.int .i64) (.int .i64))), .row 35 (.prod .str (.int .i64)), .row 43 (.prod (.int .i64) (.prod (.int .i64) (.prod (.int .i64) (.int .i64)))), .row 65 y_api_Event, .row 67 (.prod (.int .i64) (.prod (.int .i64) (.int .i64)))]⟩)]
@[reducible] def made_Dice_Record_p4_G (p : made_Dice_Record_p4_T) {β : Type} (d : made_Dice_Record_p4_v.den) (ks : Outs.K β made_Dice_Record_p4_o) : Option β :=
  p (fun a0 a1 a2 a3 a4 a5 a6 a7 a8 a9 a10 a11 => ks.1 (((), (), (), (), (a0, ()), ()), ((a1, a2, ()), (), (), a3, a4, a5, a6, a7, a8, a9, a10, a11, ()))) d.1.2.2.2.2.1.1 d.1.2.2.2.2.2.1.1 d.1.2.2.2.2.2.2.1.1 d.1.2.2.2.2.2.2.2.1.1 d.2.1.1 d.2.1.2.1 d.2.2.2.2.1 d.2.2.2.2.2.1 d.2.2.2.2.2.2.1 d.2.2.2.2.2.2.2.1 d.2.2.2.2.2.2.2.2.1 d.2.2.2.2.2.2.2.2.2.1 d.2.2.2.2.2.2.2.2.2.2.1 d.2.2.2.2.2.2.2.2.2.2.2.1 d.2.2.2.2.2.2.2.2.2.2.2.2.1
abbrev made_Dice_Record_p5_K1 (β : Type) := (List Int) → Int → (List Int) → (List (List UInt8 × Int)) → (List (Int × (Int × (Int × Int)))) → (List api_Event) → (List (Int × (Int × Int))) → (List (List UInt8 × Int)) → (List (Int × (Int × (Int × Int)))) → (List api_Event) → (List (Int × (Int × Int))) → Option β
abbrev made_Dice_Record_p5_T := {β : Type} → made_Dice_Record_p5_K1 β → Int → (List Int) → Int → (List Int) → (List (List UInt8 × Int)) → (List (Int × (Int × (Int × Int)))) → (List api_Event) → (List (Int × (Int × Int))) → (List (List UInt8 × Int)) → (List (Int × (Int × (Int × Int)))) → (List api_Event) → (List (Int × (Int × Int))) → Option β
def made_Dice_Record_p5_v : View := ⟨1, [0, 4, 6, 12, 16], [(false, [.ptr 0 0]), (false, [.ptr 1 0]), (false, [.ptr 2 0]), (false, [.rowh 3]), (false, [.data (.int .i64)])], [.cells 90 [.data (.slice (.int .i64)), .data (.int .i64)], .cells 41 [.rowh 4, .rowh 5, .rowh 6, .rowh 7], .cells 41 [.rowh 8, .rowh 9, .rowh 10, .rowh 11], .row 3 (.int .i64), .row 35 (.prod .str (.int .i64)), .row 43 (.prod (.int .i64) (.prod (.int .i64) (.prod (.int .i64) (.int .i64)))), .row 65 y_api_Event, .row 67 (.prod (.int .i64) (.prod (.int .i64) (.int .i64))), .row 35 (.prod .str (.int .i64)), .row 43 (.prod (.int .i64) (.prod (.int .i64) (.prod (.int .i64) (.int .i64)))), .row 65 y_api_Event, .row 67 (.prod (.int .i64) (.prod (.int .i64) (.int .i64)))]⟩
def made_Dice_Record_p5_o : List (AExit × View) := [(.exit 6, ⟨1, [4, 6, 12], [(false, [.ptr 1 0]), (false, [.ptr 2 0]), (false, [.rowh 3])], [.cells 90 [.data (.slice (.int .i64)), .data (.int .i64)], .cells 41 [.rowh 4, .rowh 5, .rowh 6, .rowh 7], .cells 41 [.rowh 8, .rowh 9, .rowh 10, .rowh 11], .row 3 (.int .i64), .row 35 (.prod .str (.int .i64)), .row 43 (.prod (.int .i64) (.prod (.int .i64) (.prod (.int .i64) (.int .i64)))), .row 65 y_api_Event, .row 67 (.prod (.int .i64) (.prod (.int .i64) (.int .i64))), .row 35 (.prod .str (.int .i64)), .row 43 (.prod (.int .i64) (.prod (.int .i64) (.prod (.int .i64) (.int .i64)))), .row 65 y_api_Event, .row 67 (.prod (.int .i64) (.prod (.int .i64) (.int .i64)))]⟩)]
@[reducible] def made_Dice_Record_p5_G (p : made_Dice_Record_p5_T) {β : Type} (d : made_Dice_Record_p5_v.den) (ks : Outs.K β made_Dice_Record_p5_o) : Option β :=
  p (fun a0 a1 a2 a3 a4 a5 a6 a7 a8 a9 a10 => ks.1 (((), (), (), ()), ((a0, a1, ()), (), (), a2, a3, a4, a5, a6, a7, a8, a9, a10, ()))) d.1.2.2.2.2.1.1 d.2.1.1 d.2.1.2.1 d.2.2.2.2.1 d.2.2.2.2.2.1 d.2.2.2.2.2.2.1 d.2.2.2.2.2.2.2.1 d.2.2.2.2.2.2.2.2.1 d.2.2.2.2.2.2.2.2.2.1 d.2.2.2.2.2.2.2.2.2.2.1 d.2.2.2.2.2.2.2.2.2.2.2.1 d.2.2.2.2.2.2.2.2.2.2.2.2.1
section
variable (c_made_Dice_Next : T_made_Dice_Next) (c_made_Dice_One : T_made_Dice_One)
@[reducible] def made_Dice_Record_X : Ctx := ⟨look tab, pick1 [(21, made_Dice_Next_S c_made_Dice_Next), (20, made_Dice_One_S c_made_Dice_One)]⟩
def made_Dice_Record_p1_s {β : Type} (rec : Int → Int → (List Int) → Int → (List Int) → (List (List UInt8 × Int)) → (List (Int × (Int × (Int × Int)))) → (List api_Event) → (List (Int × (Int × Int))) → (List (List UInt8 × Int)) → (List (Int × (Int × (Int × Int)))) → (List api_Event) → (List (Int × (Int × Int))) → Option β) (k1 : made_Dice_Record_p1_K1 β) (n : Int) (i_ : Int) (d : List Int) (d2 : Int) (ahead : List Int) (b4_ : List (List UInt8 × Int)) (b5_ : List (Int × (Int × (Int × Int)))) (b6_ : List api_Event) (b7_ : List (Int × (Int × Int))) (b8_ : List (List UInt8 × Int)) (b9_ : List (Int × (Int × (Int × Int)))) (b10_ : List api_Event) (b11_ : List (Int × (Int × Int))) : Option β :=
  cond (decide ((0 : Int) < i_))
  (let l : List (List UInt8) := ([([100, 98] : List UInt8), ([119, 101, 98] : List UInt8), ([108, 98] : List UInt8)] : List (List UInt8));
  cond (decide (0 ≤ (List.length b8_ : Int)) && decide ((List.length b8_ : Int) < (List.length l : Int)))
  (let l2 : List Int := ([(0 : Int), (0 : Int), (100 : Int), (50000 : Int), (500000 : Int)] : List Int);
  c_made_Dice_One l2 (d, d2) (fun (rOne : Int) (mrOne : (List Int × Int)) =>
  let l3 : List (List UInt8 × Int) := ([((List.getD l (Int.toNat (List.length b8_ : Int)) ([] : List UInt8)), rOne)] : List (List UInt8 × Int));
  cond (decide ((List.length b8_ + List.length l3) * 24 ≤ roomMax))
  (let l4 : List (List UInt8 × Int) := (b8_ ++ l3);
  let l5 : List Int := ([(0 : Int), (7 : Int), (100 : Int)] : List Int);
  c_made_Dice_One l5 mrOne (fun (rOne2 : Int) (mrOne2 : (List Int × Int)) =>
  let l6 : List Int := ([rOne2] : List Int);
  cond (decide ((List.length ahead + List.length l6) * 8 ≤ roomMax))
  (let l7 : List Int := (ahead ++ l6);
  let i_2 : Int := (IntKind.i64.wrap (i_ - (1 : Int)));
  rec n i_2 mrOne2.1 mrOne2.2 l7 b4_ b5_ b6_ b7_ l4 b9_ b10_ b11_)
  none))
  none))
  none)
  (k1 n d d2 ahead b4_ b5_ b6_ b7_ b8_ b9_ b10_ b11_)
def made_Dice_Record_p1_l {β : Type} : Nat → made_Dice_Record_p1_K1 β → Int → Int → (List Int) → Int → (List Int) → (List (List UInt8 × Int)) → (List (Int × (Int × (Int × Int)))) → (List api_Event) → (List (Int × (Int × Int))) → (List (List UInt8 × Int)) → (List (Int × (Int × (Int × Int)))) → (List api_Event) → (List (Int × (Int × Int))) → Option β
  | 0 => fun _ _ _ _ _ _ _ _ _ _ _ _ _ _ => none
  | i + 1 => fun k1 n i_ d d2 ahead b4_ b5_ b6_ b7_ b8_ b9_ b10_ b11_ => made_Dice_Record_p1_s c_made_Dice_One (made_Dice_Record_p1_l i k1) k1 n i_ d d2 ahead b4_ b5_ b6_ b7_ b8_ b9_ b10_ b11_
theorem made_Dice_Record_p1_ok' (hΓ : ΓOk Try.prog (made_Dice_Record_X c_made_Dice_Next c_made_Dice_One).Γ) (i : Nat) : PieceOk Try.prog 177 1 made_Dice_Record_p1_code made_Dice_Record_p1_v made_Dice_Record_p1_o (made_Dice_Record_p1_G (made_Dice_Record_p1_l c_made_Dice_One i)) := by
  rw [show made_Dice_Record_p1_code = .loop (loopBody made_Dice_Record_p1_code) by kernel_rfl]
  exact piece_loop (X := (made_Dice_Record_X c_made_Dice_Next c_made_Dice_One)) (p := 1) (Λ := pick1 []) (G := fun i => @fun β d ks => made_Dice_Record_p1_G (made_Dice_Record_p1_l c_made_Dice_One i) d ks) mixed tab_ok hΓ rfl (by kernel_rfl) CutsOk_nil (fun _ _ => rfl) (fun i => @fun β d ks r h => Eq.trans (b := made_Dice_Record_p1_G (made_Dice_Record_p1_l c_made_Dice_One (i + 1)) d ks) (by kernel_rfl) h) i
def made_Dice_Record_p2_s {β : Type} (rec : Int → Int → (List Int) → Int → (List Int) → (List (List UInt8 × Int)) → (List (Int × (Int × (Int × Int)))) → (List api_Event) → (List (Int × (Int × Int))) → (List (List UInt8 × Int)) → (List (Int × (Int × (Int × Int)))) → (List api_Event) → (List (Int × (Int × Int))) → Option β) (k1 : made_Dice_Record_p2_K1 β) (n : Int) (i_ : Int) (d : List Int) (d2 : Int) (ahead : List Int) (b4_ : List (List UInt8 × Int)) (b5_ : List (Int × (Int × (Int × Int)))) (b6_ : List api_Event) (b7_ : List (Int × (Int × Int))) (b8_ : List (List UInt8 × Int)) (b9_ : List (Int × (Int × (Int × Int)))) (b10_ : List api_Event) (b11_ : List (Int × (Int × Int))) : Option β :=
  cond (decide ((0 : Int) < i_))
  (c_made_Dice_Next (List.length b8_ : Int) (d, d2) (fun (rNext : Int) (mrNext : (List Int × Int)) =>
  c_made_Dice_Next (400 : Int) mrNext (fun (rNext2 : Int) (mrNext2 : (List Int × Int)) =>
  let t : Int := (IntKind.i64.wrap ((864000 : Int) + rNext2));
  cond (decide (0 ≤ rNext) && decide (rNext < (List.length ahead : Int)))
  (let l : List Int := ([(0 : Int), (3 : Int), (20 : Int)] : List Int);
  c_made_Dice_One l mrNext2 (fun (rOne : Int) (mrOne : (List Int × Int)) =>
  let l2 : List Int := ([(0 : Int), (2 : Int), (15 : Int)] : List Int);
  c_made_Dice_One l2 mrOne (fun (rOne2 : Int) (mrOne2 : (List Int × Int)) =>
  let l3 : List (Int × (Int × (Int × Int))) := ([(rNext, ((IntKind.i64.wrap (t + (List.getD ahead (Int.toNat rNext) (0 : Int)))), ((IntKind.i64.wrap (t - rOne)), (IntKind.i64.wrap (t + rOne2)))))] : List (Int × (Int × (Int × Int))));
  cond (decide ((List.length b9_ + List.length l3) * 32 ≤ roomMax))
  (let l4 : List (Int × (Int × (Int × Int))) := (b9_ ++ l3);
  let i_2 : Int := (IntKind.i64.wrap (i_ - (1 : Int)));
  rec n i_2 mrOne2.1 mrOne2.2 ahead b4_ b5_ b6_ b7_ b8_ l4 b10_ b11_)
  none)))
  none)))
  (k1 n d d2 ahead b4_ b5_ b6_ b7_ b8_ b9_ b10_ b11_)
def made_Dice_Record_p2_l {β : Type} : Nat → made_Dice_Record_p2_K1 β → Int → Int → (List Int) → Int → (List Int) → (List (List UInt8 × Int)) → (List (Int × (Int × (Int × Int)))) → (List api_Event) → (List (Int × (Int × Int))) → (List (List UInt8 × Int)) → (List (Int × (Int × (Int × Int)))) → (List api_Event) → (List (Int × (Int × Int))) → Option β
  | 0 => fun _ _ _ _ _ _ _ _ _ _ _ _ _ _ => none
  | i + 1 => fun k1 n i_ d d2 ahead b4_ b5_ b6_ b7_ b8_ b9_ b10_ b11_ => made_Dice_Record_p2_s c_made_Dice_Next c_made_Dice_One (made_Dice_Record_p2_l i k1) k1 n i_ d d2 ahead b4_ b5_ b6_ b7_ b8_ b9_ b10_ b11_
theorem made_Dice_Record_p2_ok' (hΓ : ΓOk Try.prog (made_Dice_Record_X c_made_Dice_Next c_made_Dice_One).Γ) (i : Nat) : PieceOk Try.prog 177 1 made_Dice_Record_p2_code made_Dice_Record_p2_v made_Dice_Record_p2_o (made_Dice_Record_p2_G (made_Dice_Record_p2_l c_made_Dice_Next c_made_Dice_One i)) := by
  rw [show made_Dice_Record_p2_code = .loop (loopBody made_Dice_Record_p2_code) by kernel_rfl]
  exact piece_loop (X := (made_Dice_Record_X c_made_Dice_Next c_made_Dice_One)) (p := 1) (Λ := pick1 []) (G := fun i => @fun β d ks => made_Dice_Record_p2_G (made_Dice_Record_p2_l c_made_Dice_Next c_made_Dice_One i) d ks) mixed tab_ok hΓ rfl (by kernel_rfl) CutsOk_nil (fun _ _ => rfl) (fun i => @fun β d ks r h => Eq.trans (b := made_Dice_Record_p2_G (made_Dice_Record_p2_l c_made_Dice_Next c_made_Dice_One (i + 1)) d ks) (by kernel_rfl) h) i
def made_Dice_Record_p3_s {β : Type} (rec : Int → (List Int) → Int → (List Int) → (List Int) → (List (List UInt8 × Int)) → (List (Int × (Int × (Int × Int)))) → (List api_Event) → (List (Int × (Int × Int))) → (List (List UInt8 × Int)) → (List (Int × (Int × (Int × Int)))) → (List api_Event) → (List (Int × (Int × Int))) → Option β) (k1 : made_Dice_Record_p3_K1 β) (i_ : Int) (d : List Int) (d2 : Int) (ahead : List Int) (times : List Int) (b5_ : List (List UInt8 × Int)) (b6_ : List (Int × (Int × (Int × Int)))) (b7_ : List api_Event) (b8_ : List (Int × (Int × Int))) (b9_ : List (List UInt8 × Int)) (b10_ : List (Int × (Int × (Int × Int)))) (b11_ : List api_Event) (b12_ : List (Int × (Int × Int))) : Option β :=
  cond (decide ((0 : Int) < i_))
  (c_made_Dice_Next (List.length b9_ : Int) (d, d2) (fun (rNext : Int) (mrNext : (List Int × Int)) =>
  c_made_Dice_Next (300 : Int) mrNext (fun (rNext2 : Int) (mrNext2 : (List Int × Int)) =>
  let t : Int := (IntKind.i64.wrap ((864000 : Int) + rNext2));
  cond (decide (0 ≤ rNext) && decide (rNext < (List.length ahead : Int)))
  (let l : List (List UInt8) := ([([117, 112] : List UInt8), ([100, 111, 119, 110] : List UInt8), ([115, 108, 111, 119] : List UInt8)] : List (List UInt8));
  c_made_Dice_Next (3 : Int) mrNext2 (fun (rNext3 : Int) (mrNext3 : (List Int × Int)) =>
  cond (decide (0 ≤ rNext3) && decide (rNext3 < (List.length l : Int)))
  (let l2 : List api_Event := ([(rNext, ((IntKind.i64.wrap (t + (List.getD ahead (Int.toNat rNext) (0 : Int)))), (List.getD l (Int.toNat rNext3) ([] : List UInt8))))] : List api_Event);
  cond (decide ((List.length b11_ + List.length l2) * 32 ≤ roomMax))
  (let l3 : List api_Event := (b11_ ++ l2);
  let l4 : List Int := ([t] : List Int);
  cond (decide ((List.length times + List.length l4) * 8 ≤ roomMax))
  (let l5 : List Int := (times ++ l4);
  let i_2 : Int := (IntKind.i64.wrap (i_ - (1 : Int)));
  rec i_2 mrNext3.1 mrNext3.2 ahead l5 b5_ b6_ b7_ b8_ b9_ b10_ l3 b12_)
  none)
  none)
  none))
  none)))
  (k1 d d2 times b5_ b6_ b7_ b8_ b9_ b10_ b11_ b12_)
def made_Dice_Record_p3_l {β : Type} : Nat → made_Dice_Record_p3_K1 β → Int → (List Int) → Int → (List Int) → (List Int) → (List (List UInt8 × Int)) → (List (Int × (Int × (Int × Int)))) → (List api_Event) → (List (Int × (Int × Int))) → (List (List UInt8 × Int)) → (List (Int × (Int × (Int × Int)))) → (List api_Event) → (List (Int × (Int × Int))) → Option β
  | 0 => fun _ _ _ _ _ _ _ _ _ _ _ _ _ _ => none
  | i + 1 => fun k1 i_ d d2 ahead times b5_ b6_ b7_ b8_ b9_ b10_ b11_ b12_ => made_Dice_Record_p3_s c_made_Dice_Next (made_Dice_Record_p3_l i k1) k1 i_ d d2 ahead times b5_ b6_ b7_ b8_ b9_ b10_ b11_ b12_
theorem made_Dice_Record_p3_ok' (hΓ : ΓOk Try.prog (made_Dice_Record_X c_made_Dice_Next c_made_Dice_One).Γ) (i : Nat) : PieceOk Try.prog 177 1 made_Dice_Record_p3_code made_Dice_Record_p3_v made_Dice_Record_p3_o (made_Dice_Record_p3_G (made_Dice_Record_p3_l c_made_Dice_Next i)) := by
  rw [show made_Dice_Record_p3_code = .loop (loopBody made_Dice_Record_p3_code) by kernel_rfl]
  exact piece_loop (X := (made_Dice_Record_X c_made_Dice_Next c_made_Dice_One)) (p := 1) (Λ := pick1 []) (G := fun i => @fun β d ks => made_Dice_Record_p3_G (made_Dice_Record_p3_l c_made_Dice_Next i) d ks) mixed tab_ok hΓ rfl (by kernel_rfl) CutsOk_nil (fun _ _ => rfl) (fun i => @fun β d ks r h => Eq.trans (b := made_Dice_Record_p3_G (made_Dice_Record_p3_l c_made_Dice_Next (i + 1)) d ks) (by kernel_rfl) h) i
def made_Dice_Record_p4_s {β : Type} (k1 : made_Dice_Record_p4_K1 β) (i_ : Int) (a : Int) (b : Int) (t154 : Bool) (d : List Int) (d2 : Int) (times : List Int) (b4_ : List (List UInt8 × Int)) (b5_ : List (Int × (Int × (Int × Int)))) (b6_ : List api_Event) (b7_ : List (Int × (Int × Int))) (b8_ : List (List UInt8 × Int)) (b9_ : List (Int × (Int × (Int × Int)))) (b10_ : List api_Event) (b11_ : List (Int × (Int × Int))) : Option β :=
  cond t154
  (cond (decide (0 ≤ b) && decide (b < (List.length times : Int)))
  (cond (decide (0 ≤ a) && decide (a < (List.length times : Int)))
  (c_made_Dice_Next (IntKind.i64.wrap ((IntKind.i64.wrap ((List.getD times (Int.toNat b) (0 : Int)) - (List.getD times (Int.toNat a) (0 : Int)))) + (1 : Int))) (d, d2) (fun (rNext : Int) (mrNext : (List Int × Int)) =>
  let l : List (Int × (Int × Int)) := ([(a, (b, rNext))] : List (Int × (Int × Int)));
  cond (decide ((List.length b11_ + List.length l) * 24 ≤ roomMax))
  (let l2 : List (Int × (Int × Int)) := (b11_ ++ l);
  k1 i_ mrNext.1 mrNext.2 times b4_ b5_ b6_ b7_ b8_ b9_ b10_ l2)
  none))
  none)
  none)
  (k1 i_ d d2 times b4_ b5_ b6_ b7_ b8_ b9_ b10_ b11_)
def made_Dice_Record_p4_u {β : Type} (k1 : made_Dice_Record_p4_K1 β) (i_ : Int) (a : Int) (b : Int) (t154 : Bool) (d : List Int) (d2 : Int) (times : List Int) (b4_ : List (List UInt8 × Int)) (b5_ : List (Int × (Int × (Int × Int)))) (b6_ : List api_Event) (b7_ : List (Int × (Int × Int))) (b8_ : List (List UInt8 × Int)) (b9_ : List (Int × (Int × (Int × Int)))) (b10_ : List api_Event) (b11_ : List (Int × (Int × Int))) : Option β := made_Dice_Record_p4_s c_made_Dice_Next k1 i_ a b t154 d d2 times b4_ b5_ b6_ b7_ b8_ b9_ b10_ b11_
theorem made_Dice_Record_p4_ok' (hΓ : ΓOk Try.prog (made_Dice_Record_X c_made_Dice_Next c_made_Dice_One).Γ) : PieceOk Try.prog 177 1 made_Dice_Record_p4_code made_Dice_Record_p4_v made_Dice_Record_p4_o (made_Dice_Record_p4_G (made_Dice_Record_p4_u c_made_Dice_Next)) :=
  piece_exec (X := (made_Dice_Record_X c_made_Dice_Next c_made_Dice_One)) (p := 51) (Λ := pick1 []) mixed tab_ok hΓ (by kernel_rfl) CutsOk_nil (fun d ks r h => Eq.trans (b := made_Dice_Record_p4_G (made_Dice_Record_p4_u c_made_Dice_Next) d ks) (by kernel_rfl) h)
def made_Dice_Record_p5_s (p4 : made_Dice_Record_p4_T) {β : Type} (rec : Int → (List Int) → Int → (List Int) → (List (List UInt8 × Int)) → (List (Int × (Int × (Int × Int)))) → (List api_Event) → (List (Int × (Int × Int))) → (List (List UInt8 × Int)) → (List (Int × (Int × (Int × Int)))) → (List api_Event) → (List (Int × (Int × Int))) → Option β) (k1 : made_Dice_Record_p5_K1 β) (i_ : Int) (d : List Int) (d2 : Int) (times : List Int) (b4_ : List (List UInt8 × Int)) (b5_ : List (Int × (Int × (Int × Int)))) (b6_ : List api_Event) (b7_ : List (Int × (Int × Int))) (b8_ : List (List UInt8 × Int)) (b9_ : List (Int × (Int × (Int × Int)))) (b10_ : List api_Event) (b11_ : List (Int × (Int × Int))) : Option β :=
  cond (decide ((0 : Int) < i_))
  (cond (decide ((1 : Int) < (List.length times : Int)))
  (c_made_Dice_Next (List.length times : Int) (d, d2) (fun (rNext : Int) (mrNext : (List Int × Int)) =>
  c_made_Dice_Next (List.length times : Int) mrNext (fun (rNext2 : Int) (mrNext2 : (List Int × Int)) =>
  cond (!decide (rNext = rNext2))
  (cond (decide (0 ≤ rNext) && decide (rNext < (List.length times : Int)))
  (cond (decide (0 ≤ rNext2) && decide (rNext2 < (List.length times : Int)))
  (p4 (fun (i_2 : Int) (d3 : List Int) (d4 : Int) (times2 : List Int) (b4_2 : List (List UInt8 × Int)) (b5_2 : List (Int × (Int × (Int × Int)))) (b6_2 : List api_Event) (b7_2 : List (Int × (Int × Int))) (b8_2 : List (List UInt8 × Int)) (b9_2 : List (Int × (Int × (Int × Int)))) (b10_2 : List api_Event) (b11_2 : List (Int × (Int × Int))) =>
  let i_3 : Int := (IntKind.i64.wrap (i_2 - (1 : Int)));
  rec i_3 d3 d4 times2 b4_2 b5_2 b6_2 b7_2 b8_2 b9_2 b10_2 b11_2) i_ rNext rNext2 (decide ((List.getD times (Int.toNat rNext) (0 : Int)) ≤ (List.getD times (Int.toNat rNext2) (0 : Int)))) mrNext2.1 mrNext2.2 times b4_ b5_ b6_ b7_ b8_ b9_ b10_ b11_)
  none)
  none)
  (p4 (fun (i_2 : Int) (d3 : List Int) (d4 : Int) (times2 : List Int) (b4_2 : List (List UInt8 × Int)) (b5_2 : List (Int × (Int × (Int × Int)))) (b6_2 : List api_Event) (b7_2 : List (Int × (Int × Int))) (b8_2 : List (List UInt8 × Int)) (b9_2 : List (Int × (Int × (Int × Int)))) (b10_2 : List api_Event) (b11_2 : List (Int × (Int × Int))) =>
  let i_3 : Int := (IntKind.i64.wrap (i_2 - (1 : Int)));
  rec i_3 d3 d4 times2 b4_2 b5_2 b6_2 b7_2 b8_2 b9_2 b10_2 b11_2) i_ rNext rNext2 false mrNext2.1 mrNext2.2 times b4_ b5_ b6_ b7_ b8_ b9_ b10_ b11_))))
  (k1 d d2 times b4_ b5_ b6_ b7_ b8_ b9_ b10_ b11_))
  (k1 d d2 times b4_ b5_ b6_ b7_ b8_ b9_ b10_ b11_)
def made_Dice_Record_p5_l (p4 : made_Dice_Record_p4_T) {β : Type} : Nat → made_Dice_Record_p5_K1 β → Int → (List Int) → Int → (List Int) → (List (List UInt8 × Int)) → (List (Int × (Int × (Int × Int)))) → (List api_Event) → (List (Int × (Int × Int))) → (List (List UInt8 × Int)) → (List (Int × (Int × (Int × Int)))) → (List api_Event) → (List (Int × (Int × Int))) → Option β
  | 0 => fun _ _ _ _ _ _ _ _ _ _ _ _ _ => none
  | i + 1 => fun k1 i_ d d2 times b4_ b5_ b6_ b7_ b8_ b9_ b10_ b11_ => made_Dice_Record_p5_s c_made_Dice_Next p4 (made_Dice_Record_p5_l p4 i k1) k1 i_ d d2 times b4_ b5_ b6_ b7_ b8_ b9_ b10_ b11_
theorem made_Dice_Record_p5_ok' (hΓ : ΓOk Try.prog (made_Dice_Record_X c_made_Dice_Next c_made_Dice_One).Γ) (p4 : made_Dice_Record_p4_T) (hp4 : PieceOk Try.prog 177 1 made_Dice_Record_p4_code made_Dice_Record_p4_v made_Dice_Record_p4_o (made_Dice_Record_p4_G p4)) (i : Nat) : PieceOk Try.prog 177 1 made_Dice_Record_p5_code made_Dice_Record_p5_v made_Dice_Record_p5_o (made_Dice_Record_p5_G (made_Dice_Record_p5_l c_made_Dice_Next p4 i)) := by
  rw [show made_Dice_Record_p5_code = .loop (loopBody made_Dice_Record_p5_code) by kernel_rfl]
  exact piece_loop (X := (made_Dice_Record_X c_made_Dice_Next c_made_Dice_One)) (p := 1) (Λ := pick1 [(51, pieceCut made_Dice_Record_p4_v made_Dice_Record_p4_o (made_Dice_Record_p4_G p4))]) (G := fun i => @fun β d ks => made_Dice_Record_p5_G (made_Dice_Record_p5_l c_made_Dice_Next p4 i) d ks) mixed tab_ok hΓ rfl (by kernel_rfl) (CutsOk_cons (q := 51) (c' := made_Dice_Record_p4_code) (by kernel_rfl) rfl hp4 CutsOk_nil) (fun _ _ => rfl) (fun i => @fun β d ks r h => Eq.trans (b := made_Dice_Record_p5_G (made_Dice_Record_p5_l c_made_Dice_Next p4 (i + 1)) d ks) (by kernel_rfl) h) i
def made_Dice_Record_s (p1 : made_Dice_Record_p1_T) (p2 : made_Dice_Record_p2_T) (p3 : made_Dice_Record_p3_T) (p5 : made_Dice_Record_p5_T) {β : Type} (n : Int) (d : (List Int × Int)) (k : (api_Record → (List Int × Int) → (List Int) → Option β)) : Option β :=
  c_made_Dice_Next (3 : Int) d (fun (rNext : Int) (mrNext : (List Int × Int)) =>
  let i_ : Int := (IntKind.i64.wrap ((1 : Int) + rNext));
  p1 (fun (n2 : Int) (d2 : List Int) (d3 : Int) (ahead : List Int) (b4_ : List (List UInt8 × Int)) (b5_ : List (Int × (Int × (Int × Int)))) (b6_ : List api_Event) (b7_ : List (Int × (Int × Int))) (b8_ : List (List UInt8 × Int)) (b9_ : List (Int × (Int × (Int × Int)))) (b10_ : List api_Event) (b11_ : List (Int × (Int × Int))) =>
  c_made_Dice_Next (5 : Int) (d2, d3) (fun (rNext2 : Int) (mrNext2 : (List Int × Int)) =>
  p2 (fun (n3 : Int) (d4 : List Int) (d5 : Int) (ahead2 : List Int) (b4_2 : List (List UInt8 × Int)) (b5_2 : List (Int × (Int × (Int × Int)))) (b6_2 : List api_Event) (b7_2 : List (Int × (Int × Int))) (b8_2 : List (List UInt8 × Int)) (b9_2 : List (Int × (Int × (Int × Int)))) (b10_2 : List api_Event) (b11_2 : List (Int × (Int × Int))) =>
  c_made_Dice_Next (IntKind.i64.wrap (n3 + (1 : Int))) (d4, d5) (fun (rNext3 : Int) (mrNext3 : (List Int × Int)) =>
  p3 (fun (d6 : List Int) (d7 : Int) (times : List Int) (b4_3 : List (List UInt8 × Int)) (b5_3 : List (Int × (Int × (Int × Int)))) (b6_3 : List api_Event) (b7_3 : List (Int × (Int × Int))) (b8_3 : List (List UInt8 × Int)) (b9_3 : List (Int × (Int × (Int × Int)))) (b10_3 : List api_Event) (b11_3 : List (Int × (Int × Int))) =>
  c_made_Dice_Next (4 : Int) (d6, d7) (fun (rNext4 : Int) (mrNext4 : (List Int × Int)) =>
  p5 (fun (b0_ : List Int) (b0_2 : Int) (times2 : List Int) (b4_4 : List (List UInt8 × Int)) (b5_4 : List (Int × (Int × (Int × Int)))) (b6_4 : List api_Event) (b7_4 : List (Int × (Int × Int))) (b8_4 : List (List UInt8 × Int)) (b9_4 : List (Int × (Int × (Int × Int)))) (b10_4 : List api_Event) (b11_4 : List (Int × (Int × Int))) =>
  k (b8_4, (b9_4, (b10_4, b11_4))) (b0_, b0_2) times2) rNext4 mrNext4.1 mrNext4.2 times b4_3 b5_3 b6_3 b7_3 b8_3 b9_3 b10_3 b11_3)) rNext3 mrNext3.1 mrNext3.2 ahead2 ([] : List Int) b4_2 b5_2 b6_2 b7_2 b8_2 b9_2 b10_2 b11_2)) n2 rNext2 mrNext2.1 mrNext2.2 ahead b4_ b5_ b6_ b7_ b8_ b9_ b10_ b11_)) n i_ mrNext.1 mrNext.2 ([] : List Int) ([] : List (List UInt8 × Int)) ([] : List (Int × (Int × (Int × Int)))) ([] : List api_Event) ([] : List (Int × (Int × Int))) ([] : List (List UInt8 × Int)) ([] : List (Int × (Int × (Int × Int)))) ([] : List api_Event) ([] : List (Int × (Int × Int))))
theorem made_Dice_Record_ok' (hΓ : ΓOk Try.prog (made_Dice_Record_X c_made_Dice_Next c_made_Dice_One).Γ) (p1 : made_Dice_Record_p1_T) (p2 : made_Dice_Record_p2_T) (p3 : made_Dice_Record_p3_T) (p5 : made_Dice_Record_p5_T) (hp1 : PieceOk Try.prog 177 1 made_Dice_Record_p1_code made_Dice_Record_p1_v made_Dice_Record_p1_o (made_Dice_Record_p1_G p1)) (hp2 : PieceOk Try.prog 177 1 made_Dice_Record_p2_code made_Dice_Record_p2_v made_Dice_Record_p2_o (made_Dice_Record_p2_G p2)) (hp3 : PieceOk Try.prog 177 1 made_Dice_Record_p3_code made_Dice_Record_p3_v made_Dice_Record_p3_o (made_Dice_Record_p3_G p3)) (hp5 : PieceOk Try.prog 177 1 made_Dice_Record_p5_code made_Dice_Record_p5_v made_Dice_Record_p5_o (made_Dice_Record_p5_G p5)) : SpecOk Try.prog 26 (made_Dice_Record_S (made_Dice_Record_s c_made_Dice_Next p1 p2 p3 p5)) :=
  spec_exec (X := (made_Dice_Record_X c_made_Dice_Next c_made_Dice_One)) (Λ := pick1 [(122, pieceCut made_Dice_Record_p1_v made_Dice_Record_p1_o (made_Dice_Record_p1_G p1)), (250, pieceCut made_Dice_Record_p2_v made_Dice_Record_p2_o (made_Dice_Record_p2_G p2)), (1018, pieceCut made_Dice_Record_p3_v made_Dice_Record_p3_o (made_Dice_Record_p3_G p3)), (2042, pieceCut made_Dice_Record_p5_v made_Dice_Record_p5_o (made_Dice_Record_p5_G p5))]) (rs := [.cell 4 41, .tmp 5]) (c := bodyOf Try.f26) mixed tab_ok hΓ Try.func26 (by kernel_rfl) (by kernel_rfl) (by kernel_rfl) (by kernel_rfl) (CutsOk_cons (q := 122) (c' := made_Dice_Record_p1_code) (by kernel_rfl) rfl hp1 (CutsOk_cons (q := 250) (c' := made_Dice_Record_p2_code) (by kernel_rfl) rfl hp2 (CutsOk_cons (q := 1018) (c' := made_Dice_Record_p3_code) (by kernel_rfl) rfl hp3 (CutsOk_cons (q := 2042) (c' := made_Dice_Record_p5_code) (by kernel_rfl) rfl hp5 CutsOk_nil)))) (fun x k r h => Eq.trans (b := (made_Dice_Record_S (made_Dice_Record_s c_made_Dice_Next p1 p2 p3 p5)).run x k) (by kernel_rfl) h)
end
theorem made_Dice_Record_Γ : ΓOk Try.prog (pick1 [(21, made_Dice_Next_S made_Dice_Next), (20, made_Dice_One_S made_Dice_One)]) := (ΓOk_cons made_Dice_Next_ok (ΓOk_cons made_Dice_One_ok ΓOk_nil))
def made_Dice_Record_p1_n (m : Nat) : made_Dice_Record_p1_T := made_Dice_Record_p1_l made_Dice_One m
theorem made_Dice_Record_p1_step {β : Type} (i : Nat) (k1 n i_ d d2 ahead b4_ b5_ b6_ b7_ b8_ b9_ b10_ b11_) : (made_Dice_Record_p1_n (i + 1) k1 n i_ d d2 ahead b4_ b5_ b6_ b7_ b8_ b9_ b10_ b11_ : Option β) = made_Dice_Record_p1_s made_Dice_One (made_Dice_Record_p1_n i k1) k1 n i_ d d2 ahead b4_ b5_ b6_ b7_ b8_ b9_ b10_ b11_ := rfl
def made_Dice_Record_p1 : made_Dice_Record_p1_T := made_Dice_Record_p1_n fuel
theorem made_Dice_Record_p1_ok : PieceOk Try.prog 177 1 made_Dice_Record_p1_code made_Dice_Record_p1_v made_Dice_Record_p1_o (made_Dice_Record_p1_G made_Dice_Record_p1) := made_Dice_Record_p1_ok' made_Dice_Next made_Dice_One made_Dice_Record_Γ fuel
def made_Dice_Record_p2_n (m : Nat) : made_Dice_Record_p2_T := made_Dice_Record_p2_l made_Dice_Next made_Dice_One m
theorem made_Dice_Record_p2_step {β : Type} (i : Nat) (k1 n i_ d d2 ahead b4_ b5_ b6_ b7_ b8_ b9_ b10_ b11_) : (made_Dice_Record_p2_n (i + 1) k1 n i_ d d2 ahead b4_ b5_ b6_ b7_ b8_ b9_ b10_ b11_ : Option β) = made_Dice_Record_p2_s made_Dice_Next made_Dice_One (made_Dice_Record_p2_n i k1) k1 n i_ d d2 ahead b4_ b5_ b6_ b7_ b8_ b9_ b10_ b11_ := rfl
def made_Dice_Record_p2 : made_Dice_Record_p2_T := made_Dice_Record_p2_n fuel
theorem made_Dice_Record_p2_ok : PieceOk Try.prog 177 1 made_Dice_Record_p2_code made_Dice_Record_p2_v made_Dice_Record_p2_o (made_Dice_Record_p2_G made_Dice_Record_p2) := made_Dice_Record_p2_ok' made_Dice_Next made_Dice_One made_Dice_Record_Γ fuel
def made_Dice_Record_p3_n (m : Nat) : made_Dice_Record_p3_T := made_Dice_Record_p3_l made_Dice_Next m
theorem made_Dice_Record_p3_step {β : Type} (i : Nat) (k1 i_ d d2 ahead times b5_ b6_ b7_ b8_ b9_ b10_ b11_ b12_) : (made_Dice_Record_p3_n (i + 1) k1 i_ d d2 ahead times b5_ b6_ b7_ b8_ b9_ b10_ b11_ b12_ : Option β) = made_Dice_Record_p3_s made_Dice_Next (made_Dice_Record_p3_n i k1) k1 i_ d d2 ahead times b5_ b6_ b7_ b8_ b9_ b10_ b11_ b12_ := rfl
def made_Dice_Record_p3 : made_Dice_Record_p3_T := made_Dice_Record_p3_n fuel
theorem made_Dice_Record_p3_ok : PieceOk Try.prog 177 1 made_Dice_Record_p3_code made_Dice_Record_p3_v made_Dice_Record_p3_o (made_Dice_Record_p3_G made_Dice_Record_p3) := made_Dice_Record_p3_ok' made_Dice_Next made_Dice_One made_Dice_Record_Γ fuel
def made_Dice_Record_p4 : made_Dice_Record_p4_T := made_Dice_Record_p4_u made_Dice_Next
theorem made_Dice_Record_p4_ok : PieceOk Try.prog 177 1 made_Dice_Record_p4_code made_Dice_Record_p4_v made_Dice_Record_p4_o (made_Dice_Record_p4_G made_Dice_Record_p4) := made_Dice_Record_p4_ok' made_Dice_Next made_Dice_One made_Dice_Record_Γ
def made_Dice_Record_p5_n (m : Nat) : made_Dice_Record_p5_T := made_Dice_Record_p5_l made_Dice_Next made_Dice_Record_p4 m
theorem made_Dice_Record_p5_step {β : Type} (i : Nat) (k1 i_ d d2 times b4_ b5_ b6_ b7_ b8_ b9_ b10_ b11_) : (made_Dice_Record_p5_n (i + 1) k1 i_ d d2 times b4_ b5_ b6_ b7_ b8_ b9_ b10_ b11_ : Option β) = made_Dice_Record_p5_s made_Dice_Next made_Dice_Record_p4 (made_Dice_Record_p5_n i k1) k1 i_ d d2 times b4_ b5_ b6_ b7_ b8_ b9_ b10_ b11_ := rfl
def made_Dice_Record_p5 : made_Dice_Record_p5_T := made_Dice_Record_p5_n fuel
theorem made_Dice_Record_p5_ok : PieceOk Try.prog 177 1 made_Dice_Record_p5_code made_Dice_Record_p5_v made_Dice_Record_p5_o (made_Dice_Record_p5_G made_Dice_Record_p5) := made_Dice_Record_p5_ok' made_Dice_Next made_Dice_One made_Dice_Record_Γ made_Dice_Record_p4 made_Dice_Record_p4_ok fuel
def made_Dice_Record : T_made_Dice_Record := made_Dice_Record_s made_Dice_Next made_Dice_Record_p1 made_Dice_Record_p2 made_Dice_Record_p3 made_Dice_Record_p5
theorem made_Dice_Record_ok : SpecOk Try.prog 26 (made_Dice_Record_S made_Dice_Record) := made_Dice_Record_ok' made_Dice_Next made_Dice_One made_Dice_Record_Γ made_Dice_Record_p1 made_Dice_Record_p2 made_Dice_Record_p3 made_Dice_Record_p5 made_Dice_Record_p1_ok made_Dice_Record_p2_ok made_Dice_Record_p3_ok made_Dice_Record_p5_ok

/-- pagewatch/clock.From -/
abbrev T_clock_From := {β : Type} → (List UInt8 × Int) → (Int × (Int × (Int × Int))) → Int → ((Int × Int) → Option β) → Option β
def clock_From_S (c : T_clock_From) : Spec :=
  ⟨[(true, [.data (.prod .str (.int .i64))]), (true, [.data (.prod (.int .i64) (.prod (.int .i64) (.prod (.int .i64) (.int .i64))))]), (false, [.data (.int .i64)])], [], [(true, [.data (.prod (.int .i64) (.int .i64))])], [], fun x k => c x.1.1.1 x.1.2.1.1 x.1.2.2.1.1 (fun r0 => k (((r0, ()), ()), ()))⟩
section
variable (c_clock_Elapsed : T_clock_Elapsed) (c_clock_compared : T_clock_compared) (c_clock_in : T_clock_in) (c_clock_instant : T_clock_instant)
@[reducible] def clock_From_X : Ctx := ⟨look tab, pick1 [(16, clock_Elapsed_S c_clock_Elapsed), (66, clock_compared_S c_clock_compared), (63, clock_in_S c_clock_in), (64, clock_instant_S c_clock_instant)]⟩
def clock_From_s {β : Type} (h : (List UInt8 × Int)) (s : (Int × (Int × (Int × Int)))) (clock : Int) (k : ((Int × Int) → Option β)) : Option β :=
  c_clock_in h.2 (0 : Int) (500000 : Int) (fun (rin : Bool) =>
  cond (!rin)
  (k ((-1099511627776 : Int), (1099511627776 : Int)))
  (c_clock_compared s (fun (rcompared : Bool) =>
  cond (!rcompared)
  (k ((-1099511627776 : Int), (1099511627776 : Int)))
  (c_clock_instant clock (fun (rinstant : Bool) =>
  cond (!rinstant)
  (k ((-1099511627776 : Int), (1099511627776 : Int)))
  (cond (decide (s.2.1 ≤ clock))
  (c_clock_Elapsed h.2 (IntKind.i64.wrap (clock - s.2.1)) (fun (rElapsed : Int) (rElapsed2 : Int) =>
  k ((IntKind.i64.wrap (s.2.2.1 + rElapsed)), (IntKind.i64.wrap (s.2.2.2 + rElapsed2)))))
  (c_clock_Elapsed h.2 (IntKind.i64.wrap (s.2.1 - clock)) (fun (rElapsed : Int) (rElapsed2 : Int) =>
  k ((IntKind.i64.wrap (s.2.2.1 - rElapsed2)), (IntKind.i64.wrap (s.2.2.2 - rElapsed)))))))))))
theorem clock_From_ok' (hΓ : ΓOk Try.prog (clock_From_X c_clock_Elapsed c_clock_compared c_clock_in c_clock_instant).Γ) : SpecOk Try.prog 27 (clock_From_S (clock_From_s c_clock_Elapsed c_clock_compared c_clock_in c_clock_instant)) :=
  spec_exec (X := (clock_From_X c_clock_Elapsed c_clock_compared c_clock_in c_clock_instant)) (Λ := pick1 []) (rs := [.cell 6 45]) (c := bodyOf Try.f27) mixed tab_ok hΓ Try.func27 (by kernel_rfl) (by kernel_rfl) (by kernel_rfl) (by kernel_rfl) CutsOk_nil (fun x k r h => Eq.trans (b := (clock_From_S (clock_From_s c_clock_Elapsed c_clock_compared c_clock_in c_clock_instant)).run x k) (by kernel_rfl) h)
end
theorem clock_From_Γ : ΓOk Try.prog (pick1 [(16, clock_Elapsed_S clock_Elapsed), (66, clock_compared_S clock_compared), (63, clock_in_S clock_in), (64, clock_instant_S clock_instant)]) := (ΓOk_cons clock_Elapsed_ok (ΓOk_cons clock_compared_ok (ΓOk_cons clock_in_ok (ΓOk_cons clock_instant_ok ΓOk_nil))))
def clock_From : T_clock_From := clock_From_s clock_Elapsed clock_compared clock_in clock_instant
theorem clock_From_ok : SpecOk Try.prog 27 (clock_From_S clock_From) := clock_From_ok' clock_Elapsed clock_compared clock_in clock_instant clock_From_Γ

/-- pagewatch/clock.Shift -/
abbrev T_clock_Shift := {β : Type} → (Int × Int) → Int → ((Int × Int) → Option β) → Option β
def clock_Shift_S (c : T_clock_Shift) : Spec :=
  ⟨[(true, [.data (.prod (.int .i64) (.int .i64))]), (false, [.data (.int .i64)])], [], [(true, [.data (.prod (.int .i64) (.int .i64))])], [], fun x k => c x.1.1.1 x.1.2.1.1 (fun r0 => k (((r0, ()), ()), ()))⟩
section
variable (c_clock_bound : T_clock_bound) (c_clock_moved : T_clock_moved)
@[reducible] def clock_Shift_X : Ctx := ⟨look tab, pick1 [(67, clock_bound_S c_clock_bound), (68, clock_moved_S c_clock_moved)]⟩
def clock_Shift_s {β : Type} (a : (Int × Int)) (d : Int) (k : ((Int × Int) → Option β)) : Option β :=
  c_clock_bound a.1 (fun (rbound : Bool) =>
  cond (!rbound)
  (k a)
  (c_clock_bound a.2 (fun (rbound2 : Bool) =>
  cond (!rbound2)
  (k a)
  (c_clock_bound d (fun (rbound3 : Bool) =>
  cond (!rbound3)
  (k a)
  (c_clock_moved a.1 d (fun (rmoved : Int) =>
  c_clock_moved a.2 d (fun (rmoved2 : Int) =>
  k (rmoved, rmoved2)))))))))
theorem clock_Shift_ok' (hΓ : ΓOk Try.prog (clock_Shift_X c_clock_bound c_clock_moved).Γ) : SpecOk Try.prog 28 (clock_Shift_S (clock_Shift_s c_clock_bound c_clock_moved)) :=
  spec_exec (X := (clock_Shift_X c_clock_bound c_clock_moved)) (Λ := pick1 []) (rs := [.cell 4 45]) (c := bodyOf Try.f28) mixed tab_ok hΓ Try.func28 (by kernel_rfl) (by kernel_rfl) (by kernel_rfl) (by kernel_rfl) CutsOk_nil (fun x k r h => Eq.trans (b := (clock_Shift_S (clock_Shift_s c_clock_bound c_clock_moved)).run x k) (by kernel_rfl) h)
end
theorem clock_Shift_Γ : ΓOk Try.prog (pick1 [(67, clock_bound_S clock_bound), (68, clock_moved_S clock_moved)]) := (ΓOk_cons clock_bound_ok (ΓOk_cons clock_moved_ok ΓOk_nil))
def clock_Shift : T_clock_Shift := clock_Shift_s clock_bound clock_moved
theorem clock_Shift_ok : SpecOk Try.prog 28 (clock_Shift_S clock_Shift) := clock_Shift_ok' clock_bound clock_moved clock_Shift_Γ

/-- (*pagewatch/pagewatchmade.Dice).OddRecord -/
abbrev T_made_Dice_OddRecord := {β : Type} → api_Record → (List Int × Int) → (api_Record → (List Int × Int) → Option β) → Option β
def made_Dice_OddRecord_S (c : T_made_Dice_OddRecord) : Spec :=
  ⟨[(false, [.ptr 0 0]), (true, [.data y_api_Record])], [.cells 90 [.data (.prod (.slice (.int .i64)) (.int .i64))]], [(true, [.data y_api_Record])], [.cells 90 [.data (.prod (.slice (.int .i64)) (.int .i64))]], fun x k => c x.1.2.1.1 x.2.1.1 (fun r0 r1 => k (((r0, ()), ()), ((r1, ()), ())))⟩
noncomputable def made_Dice_OddRecord_p1_code : Code := codeAt 7551 (bodyOf Try.f29)
abbrev made_Dice_OddRecord_p1_K1 (β : Type) := (List Int) → Int → (List (List UInt8 × Int)) → (List (Int × (Int × (Int × Int)))) → (List api_Event) → (List (Int × (Int × Int))) → (List (List UInt8 × Int)) → (List (Int × (Int × (Int × Int)))) → (List api_Event) → (List (Int × (Int × Int))) → Option β
abbrev made_Dice_OddRecord_p1_T := {β : Type} → made_Dice_OddRecord_p1_K1 β → Bool → (List Int) → Int → (List (List UInt8 × Int)) → (List (Int × (Int × (Int × Int)))) → (List api_Event) → (List (Int × (Int × Int))) → (List (List UInt8 × Int)) → (List (Int × (Int × (Int × Int)))) → (List api_Event) → (List (Int × (Int × Int))) → Option β
def made_Dice_OddRecord_p1_v : View := ⟨1, [0, 4, 5, 64], [(false, [.ptr 0 0]), (false, [.ptr 1 0]), (false, [.ptr 2 0]), (false, [.data .bool])], [.cells 90 [.data (.slice (.int .i64)), .data (.int .i64)], .cells 41 [.rowh 7, .rowh 8, .rowh 9, .rowh 10], .cells 41 [.rowh 3, .rowh 4, .rowh 5, .rowh 6], .row 35 (.prod .str (.int .i64)), .row 43 (.prod (.int .i64) (.prod (.int .i64) (.prod (.int .i64) (.int .i64)))), .row 65 y_api_Event, .row 67 (.prod (.int .i64) (.prod (.int .i64) (.int .i64))), .row 35 (.prod .str (.int .i64)), .row 43 (.prod (.int .i64) (.prod (.int .i64) (.prod (.int .i64) (.int .i64)))), .row 65 y_api_Event, .row 67 (.prod (.int .i64) (.prod (.int .i64) (.int .i64)))]⟩
def made_Dice_OddRecord_p1_o : List (AExit × View) := [(.normal, ⟨1, [4, 5], [(false, [.ptr 1 0]), (false, [.ptr 2 0])], [.cells 90 [.data (.slice (.int .i64)), .data (.int .i64)], .cells 41 [.rowh 3, .rowh 4, .rowh 5, .rowh 6], .cells 41 [.rowh 7, .rowh 8, .rowh 9, .rowh 10], .row 35 (.prod .str (.int .i64)), .row 43 (.prod (.int .i64) (.prod (.int .i64) (.prod (.int .i64) (.int .i64)))), .row 65 y_api_Event, .row 67 (.prod (.int .i64) (.prod (.int .i64) (.int .i64))), .row 35 (.prod .str (.int .i64)), .row 43 (.prod (.int .i64) (.prod (.int .i64) (.prod (.int .i64) (.int .i64)))), .row 65 y_api_Event, .row 67 (.prod (.int .i64) (.prod (.int .i64) (.int .i64)))]⟩)]
@[reducible] def made_Dice_OddRecord_p1_G (p : made_Dice_OddRecord_p1_T) {β : Type} (d : made_Dice_OddRecord_p1_v.den) (ks : Outs.K β made_Dice_OddRecord_p1_o) : Option β :=
  p (fun a0 a1 a2 a3 a4 a5 a6 a7 a8 a9 => ks.1 (((), (), ()), ((a0, a1, ()), (), (), a2, a3, a4, a5, a6, a7, a8, a9, ()))) d.1.2.2.2.1.1 d.2.1.1 d.2.1.2.1 d.2.2.2.2.1 d.2.2.2.2.2.1 d.2.2.2.2.2.2.1 d.2.2.2.2.2.2.2.1 d.2.2.2.2.2.2.2.2.1 d.2.2.2.2.2.2.2.2.2.1 d.2.2.2.2.2.2.2.2.2.2.1 d.2.2.2.2.2.2.2.2.2.2.2.1
section
variable (c_made_Dice_Next : T_made_Dice_Next) (c_made_Dice_One : T_made_Dice_One)
@[reducible] def made_Dice_OddRecord_X : Ctx := ⟨look tab, pick1 [(21, made_Dice_Next_S c_made_Dice_Next), (20, made_Dice_One_S c_made_Dice_One)]⟩
def made_Dice_OddRecord_p1_s {β : Type} (k1 : made_Dice_OddRecord_p1_K1 β) (t64 : Bool) (d : List Int) (d2 : Int) (b3_ : List (List UInt8 × Int)) (b4_ : List (Int × (Int × (Int × Int)))) (b5_ : List api_Event) (b6_ : List (Int × (Int × Int))) (b7_ : List (List UInt8 × Int)) (b8_ : List (Int × (Int × (Int × Int)))) (b9_ : List api_Event) (b10_ : List (Int × (Int × Int))) : Option β :=
  cond t64
  (c_made_Dice_Next (5 : Int) (d, d2) (fun (rNext : Int) (mrNext : (List Int × Int)) =>
  c_made_Dice_Next (5 : Int) mrNext (fun (rNext2 : Int) (mrNext2 : (List Int × Int)) =>
  let l : List Int := ([(-1 : Int), (0 : Int), (1 : Int), (100 : Int), (400 : Int)] : List Int);
  c_made_Dice_One l mrNext2 (fun (rOne : Int) (mrOne : (List Int × Int)) =>
  let l2 : List (Int × (Int × Int)) := ([((IntKind.i64.wrap (rNext - (1 : Int))), (rNext2, rOne))] : List (Int × (Int × Int)));
  cond (decide ((List.length b6_ + List.length l2) * 24 ≤ roomMax))
  (let l3 : List (Int × (Int × Int)) := (b6_ ++ l2);
  k1 mrOne.1 mrOne.2 b7_ b8_ b9_ b10_ b3_ b4_ b5_ l3)
  none))))
  (k1 d d2 b7_ b8_ b9_ b10_ b3_ b4_ b5_ b6_)
def made_Dice_OddRecord_p1_u {β : Type} (k1 : made_Dice_OddRecord_p1_K1 β) (t64 : Bool) (d : List Int) (d2 : Int) (b3_ : List (List UInt8 × Int)) (b4_ : List (Int × (Int × (Int × Int)))) (b5_ : List api_Event) (b6_ : List (Int × (Int × Int))) (b7_ : List (List UInt8 × Int)) (b8_ : List (Int × (Int × (Int × Int)))) (b9_ : List api_Event) (b10_ : List (Int × (Int × Int))) : Option β := made_Dice_OddRecord_p1_s c_made_Dice_Next c_made_Dice_One k1 t64 d d2 b3_ b4_ b5_ b6_ b7_ b8_ b9_ b10_
theorem made_Dice_OddRecord_p1_ok' (hΓ : ΓOk Try.prog (made_Dice_OddRecord_X c_made_Dice_Next c_made_Dice_One).Γ) : PieceOk Try.prog 82 1 made_Dice_OddRecord_p1_code made_Dice_OddRecord_p1_v made_Dice_OddRecord_p1_o (made_Dice_OddRecord_p1_G (made_Dice_OddRecord_p1_u c_made_Dice_Next c_made_Dice_One)) :=
  piece_exec (X := (made_Dice_OddRecord_X c_made_Dice_Next c_made_Dice_One)) (p := 7551) (Λ := pick1 []) mixed tab_ok hΓ (by kernel_rfl) CutsOk_nil (fun d ks r h => Eq.trans (b := made_Dice_OddRecord_p1_G (made_Dice_OddRecord_p1_u c_made_Dice_Next c_made_Dice_One) d ks) (by kernel_rfl) h)
def made_Dice_OddRecord_s (p1 : made_Dice_OddRecord_p1_T) {β : Type} (r : api_Record) (d : (List Int × Int)) (k : (api_Record → (List Int × Int) → Option β)) : Option β :=
  cond (decide (List.length r.1 * 24 ≤ roomMax))
  (cond (decide (List.length r.2.1 * 32 ≤ roomMax))
  (cond (decide (List.length r.2.2.1 * 32 ≤ roomMax))
  (cond (decide (List.length r.2.2.2 * 24 ≤ roomMax))
  (c_made_Dice_Next (7 : Int) d (fun (rNext : Int) (mrNext : (List Int × Int)) =>
  let t : Bool := (decide (rNext = (0 : Int)));
  cond t
  (let l : List Int := ([(-1 : Int), (500001 : Int)] : List Int);
  c_made_Dice_One l mrNext (fun (rOne : Int) (mrOne : (List Int × Int)) =>
  cond (decide (0 ≤ (0 : Int)) && decide ((0 : Int) < (List.length r.1 : Int)))
  (let l2 : List (List UInt8 × Int) := (List.set r.1 (Int.toNat (0 : Int)) ((List.getD r.1 (Int.toNat (0 : Int)) (([] : List UInt8), (0 : Int))).1, rOne));
  k (l2, r.2) mrOne)
  none))
  (let t2 : Bool := (decide (rNext = (1 : Int)));
  cond t2
  (c_made_Dice_Next (4 : Int) mrNext (fun (rNext2 : Int) (mrNext2 : (List Int × Int)) =>
  c_made_Dice_Next (300 : Int) mrNext2 (fun (rNext3 : Int) (mrNext3 : (List Int × Int)) =>
  c_made_Dice_Next (300 : Int) mrNext3 (fun (rNext4 : Int) (mrNext4 : (List Int × Int)) =>
  c_made_Dice_Next (300 : Int) mrNext4 (fun (rNext5 : Int) (mrNext5 : (List Int × Int)) =>
  let l : List (Int × (Int × (Int × Int))) := ([((IntKind.i64.wrap (rNext2 - (1 : Int))), ((IntKind.i64.wrap ((864000 : Int) + rNext3)), ((IntKind.i64.wrap ((864000 : Int) + rNext4)), (IntKind.i64.wrap ((864000 : Int) + rNext5)))))] : List (Int × (Int × (Int × Int))));
  cond (decide ((List.length r.2.1 + List.length l) * 32 ≤ roomMax))
  (let l2 : List (Int × (Int × (Int × Int))) := (r.2.1 ++ l);
  k (r.1, (l2, r.2.2)) mrNext5)
  none)))))
  (let t3 : Bool := (decide (rNext = (2 : Int)));
  cond t3
  (c_made_Dice_Next (4 : Int) mrNext (fun (rNext2 : Int) (mrNext2 : (List Int × Int)) =>
  let l : List Int := ([(-1 : Int), (0 : Int), (864000 : Int), (8589934592 : Int), (8589934593 : Int)] : List Int);
  c_made_Dice_One l mrNext2 (fun (rOne : Int) (mrOne : (List Int × Int)) =>
  let l2 : List api_Event := ([((IntKind.i64.wrap (rNext2 - (1 : Int))), (rOne, ([] : List UInt8)))] : List api_Event);
  cond (decide ((List.length r.2.2.1 + List.length l2) * 32 ≤ roomMax))
  (let l3 : List api_Event := (r.2.2.1 ++ l2);
  k (r.1, (r.2.1, (l3, r.2.2.2))) mrOne)
  none)))
  (let t4 : Bool := (decide (rNext = (3 : Int)));
  cond t4
  (p1 (fun (b0_ : List Int) (b0_2 : Int) (b3_ : List (List UInt8 × Int)) (b4_ : List (Int × (Int × (Int × Int)))) (b5_ : List api_Event) (b6_ : List (Int × (Int × Int))) (b7_ : List (List UInt8 × Int)) (b8_ : List (Int × (Int × (Int × Int)))) (b9_ : List api_Event) (b10_ : List (Int × (Int × Int))) =>
  k (b7_, (b8_, (b9_, b10_))) (b0_, b0_2)) t4 mrNext.1 mrNext.2 r.1 r.2.1 r.2.2.1 r.2.2.2 ([] : List (List UInt8 × Int)) ([] : List (Int × (Int × (Int × Int)))) ([] : List api_Event) ([] : List (Int × (Int × Int))))
  (let t5 : Bool := (decide (rNext = (4 : Int)));
  p1 (fun (b0_ : List Int) (b0_2 : Int) (b3_ : List (List UInt8 × Int)) (b4_ : List (Int × (Int × (Int × Int)))) (b5_ : List api_Event) (b6_ : List (Int × (Int × Int))) (b7_ : List (List UInt8 × Int)) (b8_ : List (Int × (Int × (Int × Int)))) (b9_ : List api_Event) (b10_ : List (Int × (Int × Int))) =>
  k (b7_, (b8_, (b9_, b10_))) (b0_, b0_2)) t5 mrNext.1 mrNext.2 r.1 r.2.1 r.2.2.1 r.2.2.2 ([] : List (List UInt8 × Int)) ([] : List (Int × (Int × (Int × Int)))) ([] : List api_Event) ([] : List (Int × (Int × Int)))))))))
  none)
  none)
  none)
  none
theorem made_Dice_OddRecord_ok' (hΓ : ΓOk Try.prog (made_Dice_OddRecord_X c_made_Dice_Next c_made_Dice_One).Γ) (p1 : made_Dice_OddRecord_p1_T) (hp1 : PieceOk Try.prog 82 1 made_Dice_OddRecord_p1_code made_Dice_OddRecord_p1_v made_Dice_OddRecord_p1_o (made_Dice_OddRecord_p1_G p1)) : SpecOk Try.prog 29 (made_Dice_OddRecord_S (made_Dice_OddRecord_s c_made_Dice_Next c_made_Dice_One p1)) :=
  spec_exec (X := (made_Dice_OddRecord_X c_made_Dice_Next c_made_Dice_One)) (Λ := pick1 [(7551, pieceCut made_Dice_OddRecord_p1_v made_Dice_OddRecord_p1_o (made_Dice_OddRecord_p1_G p1))]) (rs := [.cell 4 41]) (c := bodyOf Try.f29) mixed tab_ok hΓ Try.func29 (by kernel_rfl) (by kernel_rfl) (by kernel_rfl) (by kernel_rfl) (CutsOk_cons (q := 7551) (c' := made_Dice_OddRecord_p1_code) (by kernel_rfl) rfl hp1 CutsOk_nil) (fun x k r h => Eq.trans (b := (made_Dice_OddRecord_S (made_Dice_OddRecord_s c_made_Dice_Next c_made_Dice_One p1)).run x k) (by kernel_rfl) h)
end
theorem made_Dice_OddRecord_Γ : ΓOk Try.prog (pick1 [(21, made_Dice_Next_S made_Dice_Next), (20, made_Dice_One_S made_Dice_One)]) := (ΓOk_cons made_Dice_Next_ok (ΓOk_cons made_Dice_One_ok ΓOk_nil))
def made_Dice_OddRecord_p1 : made_Dice_OddRecord_p1_T := made_Dice_OddRecord_p1_u made_Dice_Next made_Dice_One
theorem made_Dice_OddRecord_p1_ok : PieceOk Try.prog 82 1 made_Dice_OddRecord_p1_code made_Dice_OddRecord_p1_v made_Dice_OddRecord_p1_o (made_Dice_OddRecord_p1_G made_Dice_OddRecord_p1) := made_Dice_OddRecord_p1_ok' made_Dice_Next made_Dice_One made_Dice_OddRecord_Γ
def made_Dice_OddRecord : T_made_Dice_OddRecord := made_Dice_OddRecord_s made_Dice_Next made_Dice_One made_Dice_OddRecord_p1
theorem made_Dice_OddRecord_ok : SpecOk Try.prog 29 (made_Dice_OddRecord_S made_Dice_OddRecord) := made_Dice_OddRecord_ok' made_Dice_Next made_Dice_One made_Dice_OddRecord_Γ made_Dice_OddRecord_p1 made_Dice_OddRecord_p1_ok

/-- pagewatch/clock.Valid -/
abbrev T_clock_Valid := {β : Type} → api_Record → (Bool → Option β) → Option β
def clock_Valid_S (c : T_clock_Valid) : Spec :=
  ⟨[(true, [.data y_api_Record])], [], [(false, [.data .bool])], [], fun x k => c x.1.1.1 (fun r0 => k (((r0, ()), ()), ()))⟩
noncomputable def clock_Valid_p1_code : Code := codeAt 58 (bodyOf Try.f30)
noncomputable def clock_Valid_p2_code : Code := codeAt 122 (bodyOf Try.f30)
noncomputable def clock_Valid_p3_code : Code := codeAt 250 (bodyOf Try.f30)
noncomputable def clock_Valid_p4_code : Code := codeAt 506 (bodyOf Try.f30)
abbrev clock_Valid_p1_K1 (β : Type) := Bool → Option β
abbrev clock_Valid_p1_K2 (β : Type) := (List (List UInt8 × Int)) → (List (Int × (Int × (Int × Int)))) → (List api_Event) → (List (Int × (Int × Int))) → Option β
abbrev clock_Valid_p1_T := {β : Type} → clock_Valid_p1_K1 β → clock_Valid_p1_K2 β → (List (List UInt8 × Int)) → Int → Int → (List (List UInt8 × Int)) → (List (Int × (Int × (Int × Int)))) → (List api_Event) → (List (Int × (Int × Int))) → Option β
def clock_Valid_p1_v : View := ⟨0, [1, 34, 35, 36], [(false, [.ptr 0 0]), (false, [.data (.slice (.prod .str (.int .i64)))]), (false, [.data (.int .i64)]), (false, [.data (.int .i64)])], [.cells 41 [.data (.slice (.prod .str (.int .i64))), .data (.slice (.prod (.int .i64) (.prod (.int .i64) (.prod (.int .i64) (.int .i64))))), .data (.slice y_api_Event), .data (.slice (.prod (.int .i64) (.prod (.int .i64) (.int .i64))))]]⟩
def clock_Valid_p1_o : List (AExit × View) := [(.ret, ⟨0, [2], [(false, [.data .bool])], []⟩), (.exit 0, ⟨0, [1], [(false, [.ptr 0 0])], [.cells 41 [.data (.slice (.prod .str (.int .i64))), .data (.slice (.prod (.int .i64) (.prod (.int .i64) (.prod (.int .i64) (.int .i64))))), .data (.slice y_api_Event), .data (.slice (.prod (.int .i64) (.prod (.int .i64) (.int .i64))))]]⟩)]
@[reducible] def clock_Valid_p1_G (p : clock_Valid_p1_T) {β : Type} (d : clock_Valid_p1_v.den) (ks : Outs.K β clock_Valid_p1_o) : Option β :=
  p (fun a0 => ks.1 (((a0, ()), ()), ())) (fun a0 a1 a2 a3 => ks.2.1 (((), ()), ((a0, a1, a2, a3, ()), ()))) d.1.2.1.1 d.1.2.2.1.1 d.1.2.2.2.1.1 d.2.1.1 d.2.1.2.1 d.2.1.2.2.1 d.2.1.2.2.2.1
abbrev clock_Valid_p2_K1 (β : Type) := Bool → Option β
abbrev clock_Valid_p2_K2 (β : Type) := (List (List UInt8 × Int)) → (List (Int × (Int × (Int × Int)))) → (List api_Event) → (List (Int × (Int × Int))) → Option β
abbrev clock_Valid_p2_T := {β : Type} → clock_Valid_p2_K1 β → clock_Valid_p2_K2 β → (List (Int × (Int × (Int × Int)))) → Int → Int → (List (List UInt8 × Int)) → (List (Int × (Int × (Int × Int)))) → (List api_Event) → (List (Int × (Int × Int))) → Option β
def clock_Valid_p2_v : View := ⟨0, [1, 46, 47, 48], [(false, [.ptr 0 0]), (false, [.data (.slice (.prod (.int .i64) (.prod (.int .i64) (.prod (.int .i64) (.int .i64)))))]), (false, [.data (.int .i64)]), (false, [.data (.int .i64)])], [.cells 41 [.data (.slice (.prod .str (.int .i64))), .data (.slice (.prod (.int .i64) (.prod (.int .i64) (.prod (.int .i64) (.int .i64))))), .data (.slice y_api_Event), .data (.slice (.prod (.int .i64) (.prod (.int .i64) (.int .i64))))]]⟩
def clock_Valid_p2_o : List (AExit × View) := [(.ret, ⟨0, [2], [(false, [.data .bool])], []⟩), (.exit 2, ⟨0, [1], [(false, [.ptr 0 0])], [.cells 41 [.data (.slice (.prod .str (.int .i64))), .data (.slice (.prod (.int .i64) (.prod (.int .i64) (.prod (.int .i64) (.int .i64))))), .data (.slice y_api_Event), .data (.slice (.prod (.int .i64) (.prod (.int .i64) (.int .i64))))]]⟩)]
@[reducible] def clock_Valid_p2_G (p : clock_Valid_p2_T) {β : Type} (d : clock_Valid_p2_v.den) (ks : Outs.K β clock_Valid_p2_o) : Option β :=
  p (fun a0 => ks.1 (((a0, ()), ()), ())) (fun a0 a1 a2 a3 => ks.2.1 (((), ()), ((a0, a1, a2, a3, ()), ()))) d.1.2.1.1 d.1.2.2.1.1 d.1.2.2.2.1.1 d.2.1.1 d.2.1.2.1 d.2.1.2.2.1 d.2.1.2.2.2.1
abbrev clock_Valid_p3_K1 (β : Type) := Bool → Option β
abbrev clock_Valid_p3_K2 (β : Type) := (List (List UInt8 × Int)) → (List (Int × (Int × (Int × Int)))) → (List api_Event) → (List (Int × (Int × Int))) → Option β
abbrev clock_Valid_p3_T := {β : Type} → clock_Valid_p3_K1 β → clock_Valid_p3_K2 β → (List api_Event) → Int → Int → (List (List UInt8 × Int)) → (List (Int × (Int × (Int × Int)))) → (List api_Event) → (List (Int × (Int × Int))) → Option β
def clock_Valid_p3_v : View := ⟨0, [1, 67, 68, 69], [(false, [.ptr 0 0]), (false, [.data (.slice y_api_Event)]), (false, [.data (.int .i64)]), (false, [.data (.int .i64)])], [.cells 41 [.data (.slice (.prod .str (.int .i64))), .data (.slice (.prod (.int .i64) (.prod (.int .i64) (.prod (.int .i64) (.int .i64))))), .data (.slice y_api_Event), .data (.slice (.prod (.int .i64) (.prod (.int .i64) (.int .i64))))]]⟩
def clock_Valid_p3_o : List (AExit × View) := [(.ret, ⟨0, [2], [(false, [.data .bool])], []⟩), (.exit 4, ⟨0, [1], [(false, [.ptr 0 0])], [.cells 41 [.data (.slice (.prod .str (.int .i64))), .data (.slice (.prod (.int .i64) (.prod (.int .i64) (.prod (.int .i64) (.int .i64))))), .data (.slice y_api_Event), .data (.slice (.prod (.int .i64) (.prod (.int .i64) (.int .i64))))]]⟩)]
@[reducible] def clock_Valid_p3_G (p : clock_Valid_p3_T) {β : Type} (d : clock_Valid_p3_v.den) (ks : Outs.K β clock_Valid_p3_o) : Option β :=
  p (fun a0 => ks.1 (((a0, ()), ()), ())) (fun a0 a1 a2 a3 => ks.2.1 (((), ()), ((a0, a1, a2, a3, ()), ()))) d.1.2.1.1 d.1.2.2.1.1 d.1.2.2.2.1.1 d.2.1.1 d.2.1.2.1 d.2.1.2.2.1 d.2.1.2.2.2.1
abbrev clock_Valid_p4_K1 (β : Type) := Bool → Option β
abbrev clock_Valid_p4_K2 (β : Type) := Unit → Option β
abbrev clock_Valid_p4_T := {β : Type} → clock_Valid_p4_K1 β → clock_Valid_p4_K2 β → (List (Int × (Int × Int))) → Int → Int → (List (List UInt8 × Int)) → (List (Int × (Int × (Int × Int)))) → (List api_Event) → (List (Int × (Int × Int))) → Option β
def clock_Valid_p4_v : View := ⟨0, [1, 89, 90, 91], [(false, [.ptr 0 0]), (false, [.data (.slice (.prod (.int .i64) (.prod (.int .i64) (.int .i64))))]), (false, [.data (.int .i64)]), (false, [.data (.int .i64)])], [.cells 41 [.data (.slice (.prod .str (.int .i64))), .data (.slice (.prod (.int .i64) (.prod (.int .i64) (.prod (.int .i64) (.int .i64))))), .data (.slice y_api_Event), .data (.slice (.prod (.int .i64) (.prod (.int .i64) (.int .i64))))]]⟩
def clock_Valid_p4_o : List (AExit × View) := [(.ret, ⟨0, [2], [(false, [.data .bool])], []⟩), (.exit 6, ⟨0, [], [], []⟩)]
@[reducible] def clock_Valid_p4_G (p : clock_Valid_p4_T) {β : Type} (d : clock_Valid_p4_v.den) (ks : Outs.K β clock_Valid_p4_o) : Option β :=
  p (fun a0 => ks.1 (((a0, ()), ()), ())) (fun _ => ks.2.1 ((), ())) d.1.2.1.1 d.1.2.2.1.1 d.1.2.2.2.1.1 d.2.1.1 d.2.1.2.1 d.2.1.2.2.1 d.2.1.2.2.2.1
section
variable (c_clock_compared : T_clock_compared) (c_clock_in : T_clock_in) (c_clock_instant : T_clock_instant)
@[reducible] def clock_Valid_X : Ctx := ⟨look tab, pick1 [(66, clock_compared_S c_clock_compared), (63, clock_in_S c_clock_in), (64, clock_instant_S c_clock_instant)]⟩
def clock_Valid_p1_s {β : Type} (rec : (List (List UInt8 × Int)) → Int → Int → (List (List UInt8 × Int)) → (List (Int × (Int × (Int × Int)))) → (List api_Event) → (List (Int × (Int × Int))) → Option β) (k1 : clock_Valid_p1_K1 β) (k2 : clock_Valid_p1_K2 β) (t34 : List (List UInt8 × Int)) (t35 : Int) (t36 : Int) (r : List (List UInt8 × Int)) (r2 : List (Int × (Int × (Int × Int)))) (r3 : List api_Event) (r4 : List (Int × (Int × Int))) : Option β :=
  cond (decide (t36 < t35))
  (cond (decide (0 ≤ t36) && decide (t36 < (List.length t34 : Int)))
  (let e : (List UInt8 × Int) := List.getD t34 (Int.toNat t36) (([] : List UInt8), (0 : Int));
  c_clock_in e.2 (0 : Int) (500000 : Int) (fun (rin : Bool) =>
  cond (!rin)
  (k1 false)
  (rec t34 t35 (IntKind.i64.wrap (t36 + (1 : Int))) r r2 r3 r4)))
  none)
  (k2 r r2 r3 r4)
def clock_Valid_p1_l {β : Type} : Nat → clock_Valid_p1_K1 β → clock_Valid_p1_K2 β → (List (List UInt8 × Int)) → Int → Int → (List (List UInt8 × Int)) → (List (Int × (Int × (Int × Int)))) → (List api_Event) → (List (Int × (Int × Int))) → Option β
  | 0 => fun _ _ _ _ _ _ _ _ _ => none
  | i + 1 => fun k1 k2 t34 t35 t36 r r2 r3 r4 => clock_Valid_p1_s c_clock_in (clock_Valid_p1_l i k1 k2) k1 k2 t34 t35 t36 r r2 r3 r4
theorem clock_Valid_p1_ok' (hΓ : ΓOk Try.prog (clock_Valid_X c_clock_compared c_clock_in c_clock_instant).Γ) (i : Nat) : PieceOk Try.prog 127 0 clock_Valid_p1_code clock_Valid_p1_v clock_Valid_p1_o (clock_Valid_p1_G (clock_Valid_p1_l c_clock_in i)) := by
  rw [show clock_Valid_p1_code = .loop (loopBody clock_Valid_p1_code) by kernel_rfl]
  exact piece_loop (X := (clock_Valid_X c_clock_compared c_clock_in c_clock_instant)) (p := 1) (Λ := pick1 []) (G := fun i => @fun β d ks => clock_Valid_p1_G (clock_Valid_p1_l c_clock_in i) d ks) mixed tab_ok hΓ rfl (by kernel_rfl) CutsOk_nil (fun _ _ => rfl) (fun i => @fun β d ks r h => Eq.trans (b := clock_Valid_p1_G (clock_Valid_p1_l c_clock_in (i + 1)) d ks) (by kernel_rfl) h) i
def clock_Valid_p2_s {β : Type} (rec : (List (Int × (Int × (Int × Int)))) → Int → Int → (List (List UInt8 × Int)) → (List (Int × (Int × (Int × Int)))) → (List api_Event) → (List (Int × (Int × Int))) → Option β) (k1 : clock_Valid_p2_K1 β) (k2 : clock_Valid_p2_K2 β) (t46 : List (Int × (Int × (Int × Int)))) (t47 : Int) (t48 : Int) (r : List (List UInt8 × Int)) (r2 : List (Int × (Int × (Int × Int)))) (r3 : List api_Event) (r4 : List (Int × (Int × Int))) : Option β :=
  cond (decide (t48 < t47))
  (cond (decide (0 ≤ t48) && decide (t48 < (List.length t46 : Int)))
  (let e : (Int × (Int × (Int × Int))) := List.getD t46 (Int.toNat t48) ((0 : Int), ((0 : Int), ((0 : Int), (0 : Int))));
  c_clock_in e.1 (0 : Int) (IntKind.i64.wrap ((List.length r : Int) - (1 : Int))) (fun (rin : Bool) =>
  cond (!rin)
  (k1 false)
  (c_clock_compared e (fun (rcompared : Bool) =>
  cond (!rcompared)
  (k1 false)
  (rec t46 t47 (IntKind.i64.wrap (t48 + (1 : Int))) r r2 r3 r4)))))
  none)
  (k2 r r2 r3 r4)
def clock_Valid_p2_l {β : Type} : Nat → clock_Valid_p2_K1 β → clock_Valid_p2_K2 β → (List (Int × (Int × (Int × Int)))) → Int → Int → (List (List UInt8 × Int)) → (List (Int × (Int × (Int × Int)))) → (List api_Event) → (List (Int × (Int × Int))) → Option β
  | 0 => fun _ _ _ _ _ _ _ _ _ => none
  | i + 1 => fun k1 k2 t46 t47 t48 r r2 r3 r4 => clock_Valid_p2_s c_clock_compared c_clock_in (clock_Valid_p2_l i k1 k2) k1 k2 t46 t47 t48 r r2 r3 r4
theorem clock_Valid_p2_ok' (hΓ : ΓOk Try.prog (clock_Valid_X c_clock_compared c_clock_in c_clock_instant).Γ) (i : Nat) : PieceOk Try.prog 127 0 clock_Valid_p2_code clock_Valid_p2_v clock_Valid_p2_o (clock_Valid_p2_G (clock_Valid_p2_l c_clock_compared c_clock_in i)) := by
  rw [show clock_Valid_p2_code = .loop (loopBody clock_Valid_p2_code) by kernel_rfl]
  exact piece_loop (X := (clock_Valid_X c_clock_compared c_clock_in c_clock_instant)) (p := 1) (Λ := pick1 []) (G := fun i => @fun β d ks => clock_Valid_p2_G (clock_Valid_p2_l c_clock_compared c_clock_in i) d ks) mixed tab_ok hΓ rfl (by kernel_rfl) CutsOk_nil (fun _ _ => rfl) (fun i => @fun β d ks r h => Eq.trans (b := clock_Valid_p2_G (clock_Valid_p2_l c_clock_compared c_clock_in (i + 1)) d ks) (by kernel_rfl) h) i
def clock_Valid_p3_s {β : Type} (rec : (List api_Event) → Int → Int → (List (List UInt8 × Int)) → (List (Int × (Int × (Int × Int)))) → (List api_Event) → (List (Int × (Int × Int))) → Option β) (k1 : clock_Valid_p3_K1 β) (k2 : clock_Valid_p3_K2 β) (t67 : List api_Event) (t68 : Int) (t69 : Int) (r : List (List UInt8 × Int)) (r2 : List (Int × (Int × (Int × Int)))) (r3 : List api_Event) (r4 : List (Int × (Int × Int))) : Option β :=
  cond (decide (t69 < t68))
  (cond (decide (0 ≤ t69) && decide (t69 < (List.length t67 : Int)))
  (let e : api_Event := List.getD t67 (Int.toNat t69) ((0 : Int), ((0 : Int), ([] : List UInt8)));
  c_clock_in e.1 (0 : Int) (IntKind.i64.wrap ((List.length r : Int) - (1 : Int))) (fun (rin : Bool) =>
  cond (!rin)
  (k1 false)
  (c_clock_instant e.2.1 (fun (rinstant : Bool) =>
  cond (!rinstant)
  (k1 false)
  (rec t67 t68 (IntKind.i64.wrap (t69 + (1 : Int))) r r2 r3 r4)))))
  none)
  (k2 r r2 r3 r4)
def clock_Valid_p3_l {β : Type} : Nat → clock_Valid_p3_K1 β → clock_Valid_p3_K2 β → (List api_Event) → Int → Int → (List (List UInt8 × Int)) → (List (Int × (Int × (Int × Int)))) → (List api_Event) → (List (Int × (Int × Int))) → Option β
  | 0 => fun _ _ _ _ _ _ _ _ _ => none
  | i + 1 => fun k1 k2 t67 t68 t69 r r2 r3 r4 => clock_Valid_p3_s c_clock_in c_clock_instant (clock_Valid_p3_l i k1 k2) k1 k2 t67 t68 t69 r r2 r3 r4
theorem clock_Valid_p3_ok' (hΓ : ΓOk Try.prog (clock_Valid_X c_clock_compared c_clock_in c_clock_instant).Γ) (i : Nat) : PieceOk Try.prog 127 0 clock_Valid_p3_code clock_Valid_p3_v clock_Valid_p3_o (clock_Valid_p3_G (clock_Valid_p3_l c_clock_in c_clock_instant i)) := by
  rw [show clock_Valid_p3_code = .loop (loopBody clock_Valid_p3_code) by kernel_rfl]
  exact piece_loop (X := (clock_Valid_X c_clock_compared c_clock_in c_clock_instant)) (p := 1) (Λ := pick1 []) (G := fun i => @fun β d ks => clock_Valid_p3_G (clock_Valid_p3_l c_clock_in c_clock_instant i) d ks) mixed tab_ok hΓ rfl (by kernel_rfl) CutsOk_nil (fun _ _ => rfl) (fun i => @fun β d ks r h => Eq.trans (b := clock_Valid_p3_G (clock_Valid_p3_l c_clock_in c_clock_instant (i + 1)) d ks) (by kernel_rfl) h) i
def clock_Valid_p4_s {β : Type} (rec : (List (Int × (Int × Int))) → Int → Int → (List (List UInt8 × Int)) → (List (Int × (Int × (Int × Int)))) → (List api_Event) → (List (Int × (Int × Int))) → Option β) (k1 : clock_Valid_p4_K1 β) (k2 : clock_Valid_p4_K2 β) (t89 : List (Int × (Int × Int))) (t90 : Int) (t91 : Int) (r : List (List UInt8 × Int)) (r2 : List (Int × (Int × (Int × Int)))) (r3 : List api_Event) (r4 : List (Int × (Int × Int))) : Option β :=
  cond (decide (t91 < t90))
  (cond (decide (0 ≤ t91) && decide (t91 < (List.length t89 : Int)))
  (let e : (Int × (Int × Int)) := List.getD t89 (Int.toNat t91) ((0 : Int), ((0 : Int), (0 : Int)));
  c_clock_in e.1 (0 : Int) (IntKind.i64.wrap ((List.length r3 : Int) - (1 : Int))) (fun (rin : Bool) =>
  cond (!rin)
  (k1 false)
  (c_clock_in e.2.1 (0 : Int) (IntKind.i64.wrap ((List.length r3 : Int) - (1 : Int))) (fun (rin2 : Bool) =>
  cond (!rin2)
  (k1 false)
  (cond (decide (e.1 = e.2.1))
  (k1 false)
  (c_clock_instant e.2.2 (fun (rinstant : Bool) =>
  cond (!rinstant)
  (k1 false)
  (rec t89 t90 (IntKind.i64.wrap (t91 + (1 : Int))) r r2 r3 r4))))))))
  none)
  (k2 ())
def clock_Valid_p4_l {β : Type} : Nat → clock_Valid_p4_K1 β → clock_Valid_p4_K2 β → (List (Int × (Int × Int))) → Int → Int → (List (List UInt8 × Int)) → (List (Int × (Int × (Int × Int)))) → (List api_Event) → (List (Int × (Int × Int))) → Option β
  | 0 => fun _ _ _ _ _ _ _ _ _ => none
  | i + 1 => fun k1 k2 t89 t90 t91 r r2 r3 r4 => clock_Valid_p4_s c_clock_in c_clock_instant (clock_Valid_p4_l i k1 k2) k1 k2 t89 t90 t91 r r2 r3 r4
theorem clock_Valid_p4_ok' (hΓ : ΓOk Try.prog (clock_Valid_X c_clock_compared c_clock_in c_clock_instant).Γ) (i : Nat) : PieceOk Try.prog 127 0 clock_Valid_p4_code clock_Valid_p4_v clock_Valid_p4_o (clock_Valid_p4_G (clock_Valid_p4_l c_clock_in c_clock_instant i)) := by
  rw [show clock_Valid_p4_code = .loop (loopBody clock_Valid_p4_code) by kernel_rfl]
  exact piece_loop (X := (clock_Valid_X c_clock_compared c_clock_in c_clock_instant)) (p := 1) (Λ := pick1 []) (G := fun i => @fun β d ks => clock_Valid_p4_G (clock_Valid_p4_l c_clock_in c_clock_instant i) d ks) mixed tab_ok hΓ rfl (by kernel_rfl) CutsOk_nil (fun _ _ => rfl) (fun i => @fun β d ks r h => Eq.trans (b := clock_Valid_p4_G (clock_Valid_p4_l c_clock_in c_clock_instant (i + 1)) d ks) (by kernel_rfl) h) i
def clock_Valid_s (p1 : clock_Valid_p1_T) (p2 : clock_Valid_p2_T) (p3 : clock_Valid_p3_T) (p4 : clock_Valid_p4_T) {β : Type} (r : api_Record) (k : (Bool → Option β)) : Option β :=
  cond (decide ((8 : Int) < (List.length r.1 : Int)))
  (k false)
  (cond (decide ((64 : Int) < (List.length r.2.1 : Int)))
  (k false)
  (cond (decide ((40 : Int) < (List.length r.2.2.1 : Int)))
  (k false)
  (cond (decide ((64 : Int) < (List.length r.2.2.2 : Int)))
  (k false)
  (p1 (fun (t2 : Bool) =>
  k t2) (fun (r2 : List (List UInt8 × Int)) (r3 : List (Int × (Int × (Int × Int)))) (r4 : List api_Event) (r5 : List (Int × (Int × Int))) =>
  p2 (fun (t2 : Bool) =>
  k t2) (fun (r6 : List (List UInt8 × Int)) (r7 : List (Int × (Int × (Int × Int)))) (r8 : List api_Event) (r9 : List (Int × (Int × Int))) =>
  p3 (fun (t2 : Bool) =>
  k t2) (fun (r10 : List (List UInt8 × Int)) (r11 : List (Int × (Int × (Int × Int)))) (r12 : List api_Event) (r13 : List (Int × (Int × Int))) =>
  p4 (fun (t2 : Bool) =>
  k t2) (fun (_ : Unit) =>
  k true) r13 (List.length r13 : Int) (0 : Int) r10 r11 r12 r13) r8 (List.length r8 : Int) (0 : Int) r6 r7 r8 r9) r3 (List.length r3 : Int) (0 : Int) r2 r3 r4 r5) r.1 (List.length r.1 : Int) (0 : Int) r.1 r.2.1 r.2.2.1 r.2.2.2))))
theorem clock_Valid_ok' (hΓ : ΓOk Try.prog (clock_Valid_X c_clock_compared c_clock_in c_clock_instant).Γ) (p1 : clock_Valid_p1_T) (p2 : clock_Valid_p2_T) (p3 : clock_Valid_p3_T) (p4 : clock_Valid_p4_T) (hp1 : PieceOk Try.prog 127 0 clock_Valid_p1_code clock_Valid_p1_v clock_Valid_p1_o (clock_Valid_p1_G p1)) (hp2 : PieceOk Try.prog 127 0 clock_Valid_p2_code clock_Valid_p2_v clock_Valid_p2_o (clock_Valid_p2_G p2)) (hp3 : PieceOk Try.prog 127 0 clock_Valid_p3_code clock_Valid_p3_v clock_Valid_p3_o (clock_Valid_p3_G p3)) (hp4 : PieceOk Try.prog 127 0 clock_Valid_p4_code clock_Valid_p4_v clock_Valid_p4_o (clock_Valid_p4_G p4)) : SpecOk Try.prog 30 (clock_Valid_S (clock_Valid_s p1 p2 p3 p4)) :=
  spec_exec (X := (clock_Valid_X c_clock_compared c_clock_in c_clock_instant)) (Λ := pick1 [(58, pieceCut clock_Valid_p1_v clock_Valid_p1_o (clock_Valid_p1_G p1)), (122, pieceCut clock_Valid_p2_v clock_Valid_p2_o (clock_Valid_p2_G p2)), (250, pieceCut clock_Valid_p3_v clock_Valid_p3_o (clock_Valid_p3_G p3)), (506, pieceCut clock_Valid_p4_v clock_Valid_p4_o (clock_Valid_p4_G p4))]) (rs := [.tmp 2]) (c := bodyOf Try.f30) mixed tab_ok hΓ Try.func30 (by kernel_rfl) (by kernel_rfl) (by kernel_rfl) (by kernel_rfl) (CutsOk_cons (q := 58) (c' := clock_Valid_p1_code) (by kernel_rfl) rfl hp1 (CutsOk_cons (q := 122) (c' := clock_Valid_p2_code) (by kernel_rfl) rfl hp2 (CutsOk_cons (q := 250) (c' := clock_Valid_p3_code) (by kernel_rfl) rfl hp3 (CutsOk_cons (q := 506) (c' := clock_Valid_p4_code) (by kernel_rfl) rfl hp4 CutsOk_nil)))) (fun x k r h => Eq.trans (b := (clock_Valid_S (clock_Valid_s p1 p2 p3 p4)).run x k) (by kernel_rfl) h)
end
theorem clock_Valid_Γ : ΓOk Try.prog (pick1 [(66, clock_compared_S clock_compared), (63, clock_in_S clock_in), (64, clock_instant_S clock_instant)]) := (ΓOk_cons clock_compared_ok (ΓOk_cons clock_in_ok (ΓOk_cons clock_instant_ok ΓOk_nil)))
def clock_Valid_p1_n (m : Nat) : clock_Valid_p1_T := clock_Valid_p1_l clock_in m
theorem clock_Valid_p1_step {β : Type} (i : Nat) (k1 k2 t34 t35 t36 r r2 r3 r4) : (clock_Valid_p1_n (i + 1) k1 k2 t34 t35 t36 r r2 r3 r4 : Option β) = clock_Valid_p1_s clock_in (clock_Valid_p1_n i k1 k2) k1 k2 t34 t35 t36 r r2 r3 r4 := rfl
def clock_Valid_p1 : clock_Valid_p1_T := clock_Valid_p1_n fuel
theorem clock_Valid_p1_ok : PieceOk Try.prog 127 0 clock_Valid_p1_code clock_Valid_p1_v clock_Valid_p1_o (clock_Valid_p1_G clock_Valid_p1) := clock_Valid_p1_ok' clock_compared clock_in clock_instant clock_Valid_Γ fuel
def clock_Valid_p2_n (m : Nat) : clock_Valid_p2_T := clock_Valid_p2_l clock_compared clock_in m
theorem clock_Valid_p2_step {β : Type} (i : Nat) (k1 k2 t46 t47 t48 r r2 r3 r4) : (clock_Valid_p2_n (i + 1) k1 k2 t46 t47 t48 r r2 r3 r4 : Option β) = clock_Valid_p2_s clock_compared clock_in (clock_Valid_p2_n i k1 k2) k1 k2 t46 t47 t48 r r2 r3 r4 := rfl
def clock_Valid_p2 : clock_Valid_p2_T := clock_Valid_p2_n fuel
theorem clock_Valid_p2_ok : PieceOk Try.prog 127 0 clock_Valid_p2_code clock_Valid_p2_v clock_Valid_p2_o (clock_Valid_p2_G clock_Valid_p2) := clock_Valid_p2_ok' clock_compared clock_in clock_instant clock_Valid_Γ fuel
def clock_Valid_p3_n (m : Nat) : clock_Valid_p3_T := clock_Valid_p3_l clock_in clock_instant m
theorem clock_Valid_p3_step {β : Type} (i : Nat) (k1 k2 t67 t68 t69 r r2 r3 r4) : (clock_Valid_p3_n (i + 1) k1 k2 t67 t68 t69 r r2 r3 r4 : Option β) = clock_Valid_p3_s clock_in clock_instant (clock_Valid_p3_n i k1 k2) k1 k2 t67 t68 t69 r r2 r3 r4 := rfl
def clock_Valid_p3 : clock_Valid_p3_T := clock_Valid_p3_n fuel
theorem clock_Valid_p3_ok : PieceOk Try.prog 127 0 clock_Valid_p3_code clock_Valid_p3_v clock_Valid_p3_o (clock_Valid_p3_G clock_Valid_p3) := clock_Valid_p3_ok' clock_compared clock_in clock_instant clock_Valid_Γ fuel
def clock_Valid_p4_n (m : Nat) : clock_Valid_p4_T := clock_Valid_p4_l clock_in clock_instant m
theorem clock_Valid_p4_step {β : Type} (i : Nat) (k1 k2 t89 t90 t91 r r2 r3 r4) : (clock_Valid_p4_n (i + 1) k1 k2 t89 t90 t91 r r2 r3 r4 : Option β) = clock_Valid_p4_s clock_in clock_instant (clock_Valid_p4_n i k1 k2) k1 k2 t89 t90 t91 r r2 r3 r4 := rfl
def clock_Valid_p4 : clock_Valid_p4_T := clock_Valid_p4_n fuel
theorem clock_Valid_p4_ok : PieceOk Try.prog 127 0 clock_Valid_p4_code clock_Valid_p4_v clock_Valid_p4_o (clock_Valid_p4_G clock_Valid_p4) := clock_Valid_p4_ok' clock_compared clock_in clock_instant clock_Valid_Γ fuel
def clock_Valid : T_clock_Valid := clock_Valid_s clock_Valid_p1 clock_Valid_p2 clock_Valid_p3 clock_Valid_p4
theorem clock_Valid_ok : SpecOk Try.prog 30 (clock_Valid_S clock_Valid) := clock_Valid_ok' clock_compared clock_in clock_instant clock_Valid_Γ clock_Valid_p1 clock_Valid_p2 clock_Valid_p3 clock_Valid_p4 clock_Valid_p1_ok clock_Valid_p2_ok clock_Valid_p3_ok clock_Valid_p4_ok

/-- pagewatch/pagewatchref38.Valid -/
abbrev T_ref38_Valid := {β : Type} → api_Record → (Bool → Option β) → Option β
def ref38_Valid_S (c : T_ref38_Valid) : Spec :=
  ⟨[(true, [.data y_api_Record])], [], [(false, [.data .bool])], [], fun x k => c x.1.1.1 (fun r0 => k (((r0, ()), ()), ()))⟩
noncomputable def ref38_Valid_p1_code : Code := codeAt 58 (bodyOf Try.f31)
noncomputable def ref38_Valid_p2_code : Code := codeAt 122 (bodyOf Try.f31)
noncomputable def ref38_Valid_p3_code : Code := codeAt 250 (bodyOf Try.f31)
noncomputable def ref38_Valid_p4_code : Code := codeAt 506 (bodyOf Try.f31)
abbrev ref38_Valid_p1_K1 (β : Type) := Bool → Option β
abbrev ref38_Valid_p1_K2 (β : Type) := (List (List UInt8 × Int)) → (List (Int × (Int × (Int × Int)))) → (List api_Event) → (List (Int × (Int × Int))) → Option β
abbrev ref38_Valid_p1_T := {β : Type} → ref38_Valid_p1_K1 β → ref38_Valid_p1_K2 β → Int → (List (List UInt8 × Int)) → (List (Int × (Int × (Int × Int)))) → (List api_Event) → (List (Int × (Int × Int))) → Option β
def ref38_Valid_p1_v : View := ⟨0, [1, 3], [(false, [.ptr 0 0]), (false, [.data (.int .i64)])], [.cells 41 [.data (.slice (.prod .str (.int .i64))), .data (.slice (.prod (.int .i64) (.prod (.int .i64) (.prod (.int .i64) (.int .i64))))), .data (.slice y_api_Event), .data (.slice (.prod (.int .i64) (.prod (.int .i64) (.int .i64))))]]⟩
def ref38_Valid_p1_o : List (AExit × View) := [(.ret, ⟨0, [2], [(false, [.data .bool])], []⟩), (.exit 0, ⟨0, [1], [(false, [.ptr 0 0])], [.cells 41 [.data (.slice (.prod .str (.int .i64))), .data (.slice (.prod (.int .i64) (.prod (.int .i64) (.prod (.int .i64) (.int .i64))))), .data (.slice y_api_Event), .data (.slice (.prod (.int .i64) (.prod (.int .i64) (.int .i64))))]]⟩)]
@[reducible] def ref38_Valid_p1_G (p : ref38_Valid_p1_T) {β : Type} (d : ref38_Valid_p1_v.den) (ks : Outs.K β ref38_Valid_p1_o) : Option β :=
  p (fun a0 => ks.1 (((a0, ()), ()), ())) (fun a0 a1 a2 a3 => ks.2.1 (((), ()), ((a0, a1, a2, a3, ()), ()))) d.1.2.1.1 d.2.1.1 d.2.1.2.1 d.2.1.2.2.1 d.2.1.2.2.2.1
abbrev ref38_Valid_p2_K1 (β : Type) := Bool → Option β
abbrev ref38_Valid_p2_K2 (β : Type) := (List (List UInt8 × Int)) → (List (Int × (Int × (Int × Int)))) → (List api_Event) → (List (Int × (Int × Int))) → Option β
abbrev ref38_Valid_p2_T := {β : Type} → ref38_Valid_p2_K1 β → ref38_Valid_p2_K2 β → Int → (List (List UInt8 × Int)) → (List (Int × (Int × (Int × Int)))) → (List api_Event) → (List (Int × (Int × Int))) → Option β
def ref38_Valid_p2_v : View := ⟨0, [1, 4], [(false, [.ptr 0 0]), (false, [.data (.int .i64)])], [.cells 41 [.data (.slice (.prod .str (.int .i64))), .data (.slice (.prod (.int .i64) (.prod (.int .i64) (.prod (.int .i64) (.int .i64))))), .data (.slice y_api_Event), .data (.slice (.prod (.int .i64) (.prod (.int .i64) (.int .i64))))]]⟩
def ref38_Valid_p2_o : List (AExit × View) := [(.ret, ⟨0, [2], [(false, [.data .bool])], []⟩), (.exit 2, ⟨0, [1], [(false, [.ptr 0 0])], [.cells 41 [.data (.slice (.prod .str (.int .i64))), .data (.slice (.prod (.int .i64) (.prod (.int .i64) (.prod (.int .i64) (.int .i64))))), .data (.slice y_api_Event), .data (.slice (.prod (.int .i64) (.prod (.int .i64) (.int .i64))))]]⟩)]
@[reducible] def ref38_Valid_p2_G (p : ref38_Valid_p2_T) {β : Type} (d : ref38_Valid_p2_v.den) (ks : Outs.K β ref38_Valid_p2_o) : Option β :=
  p (fun a0 => ks.1 (((a0, ()), ()), ())) (fun a0 a1 a2 a3 => ks.2.1 (((), ()), ((a0, a1, a2, a3, ()), ()))) d.1.2.1.1 d.2.1.1 d.2.1.2.1 d.2.1.2.2.1 d.2.1.2.2.2.1
abbrev ref38_Valid_p3_K1 (β : Type) := Bool → Option β
abbrev ref38_Valid_p3_K2 (β : Type) := (List (List UInt8 × Int)) → (List (Int × (Int × (Int × Int)))) → (List api_Event) → (List (Int × (Int × Int))) → Option β
abbrev ref38_Valid_p3_T := {β : Type} → ref38_Valid_p3_K1 β → ref38_Valid_p3_K2 β → Int → (List (List UInt8 × Int)) → (List (Int × (Int × (Int × Int)))) → (List api_Event) → (List (Int × (Int × Int))) → Option β
def ref38_Valid_p3_v : View := ⟨0, [1, 6], [(false, [.ptr 0 0]), (false, [.data (.int .i64)])], [.cells 41 [.data (.slice (.prod .str (.int .i64))), .data (.slice (.prod (.int .i64) (.prod (.int .i64) (.prod (.int .i64) (.int .i64))))), .data (.slice y_api_Event), .data (.slice (.prod (.int .i64) (.prod (.int .i64) (.int .i64))))]]⟩
def ref38_Valid_p3_o : List (AExit × View) := [(.ret, ⟨0, [2], [(false, [.data .bool])], []⟩), (.exit 4, ⟨0, [1], [(false, [.ptr 0 0])], [.cells 41 [.data (.slice (.prod .str (.int .i64))), .data (.slice (.prod (.int .i64) (.prod (.int .i64) (.prod (.int .i64) (.int .i64))))), .data (.slice y_api_Event), .data (.slice (.prod (.int .i64) (.prod (.int .i64) (.int .i64))))]]⟩)]
@[reducible] def ref38_Valid_p3_G (p : ref38_Valid_p3_T) {β : Type} (d : ref38_Valid_p3_v.den) (ks : Outs.K β ref38_Valid_p3_o) : Option β :=
  p (fun a0 => ks.1 (((a0, ()), ()), ())) (fun a0 a1 a2 a3 => ks.2.1 (((), ()), ((a0, a1, a2, a3, ()), ()))) d.1.2.1.1 d.2.1.1 d.2.1.2.1 d.2.1.2.2.1 d.2.1.2.2.2.1
abbrev ref38_Valid_p4_K1 (β : Type) := Bool → Option β
abbrev ref38_Valid_p4_K2 (β : Type) := Unit → Option β
abbrev ref38_Valid_p4_T := {β : Type} → ref38_Valid_p4_K1 β → ref38_Valid_p4_K2 β → Int → (List (List UInt8 × Int)) → (List (Int × (Int × (Int × Int)))) → (List api_Event) → (List (Int × (Int × Int))) → Option β
def ref38_Valid_p4_v : View := ⟨0, [1, 8], [(false, [.ptr 0 0]), (false, [.data (.int .i64)])], [.cells 41 [.data (.slice (.prod .str (.int .i64))), .data (.slice (.prod (.int .i64) (.prod (.int .i64) (.prod (.int .i64) (.int .i64))))), .data (.slice y_api_Event), .data (.slice (.prod (.int .i64) (.prod (.int .i64) (.int .i64))))]]⟩
def ref38_Valid_p4_o : List (AExit × View) := [(.ret, ⟨0, [2], [(false, [.data .bool])], []⟩), (.exit 6, ⟨0, [], [], []⟩)]
@[reducible] def ref38_Valid_p4_G (p : ref38_Valid_p4_T) {β : Type} (d : ref38_Valid_p4_v.den) (ks : Outs.K β ref38_Valid_p4_o) : Option β :=
  p (fun a0 => ks.1 (((a0, ()), ()), ())) (fun _ => ks.2.1 ((), ())) d.1.2.1.1 d.2.1.1 d.2.1.2.1 d.2.1.2.2.1 d.2.1.2.2.2.1
section
variable (c_ref25_In : T_ref25_In)
@[reducible] def ref38_Valid_X : Ctx := ⟨look tab, pick1 [(69, ref25_In_S c_ref25_In)]⟩
def ref38_Valid_p1_s {β : Type} (rec : Int → (List (List UInt8 × Int)) → (List (Int × (Int × (Int × Int)))) → (List api_Event) → (List (Int × (Int × Int))) → Option β) (k1 : ref38_Valid_p1_K1 β) (k2 : ref38_Valid_p1_K2 β) (i_ : Int) (r : List (List UInt8 × Int)) (r2 : List (Int × (Int × (Int × Int)))) (r3 : List api_Event) (r4 : List (Int × (Int × Int))) : Option β :=
  cond (decide (i_ < (List.length r : Int)))
  (cond (decide (0 ≤ i_) && decide (i_ < (List.length r : Int)))
  (let e : (List UInt8 × Int) := List.getD r (Int.toNat i_) (([] : List UInt8), (0 : Int));
  c_ref25_In e.2 (0 : Int) (500000 : Int) (fun (rIn : Bool) =>
  cond (!rIn)
  (k1 false)
  (let i_2 : Int := (IntKind.i64.wrap (i_ + (1 : Int)));
  rec i_2 r r2 r3 r4)))
  none)
  (k2 r r2 r3 r4)
def ref38_Valid_p1_l {β : Type} : Nat → ref38_Valid_p1_K1 β → ref38_Valid_p1_K2 β → Int → (List (List UInt8 × Int)) → (List (Int × (Int × (Int × Int)))) → (List api_Event) → (List (Int × (Int × Int))) → Option β
  | 0 => fun _ _ _ _ _ _ _ => none
  | i + 1 => fun k1 k2 i_ r r2 r3 r4 => ref38_Valid_p1_s c_ref25_In (ref38_Valid_p1_l i k1 k2) k1 k2 i_ r r2 r3 r4
theorem ref38_Valid_p1_ok' (hΓ : ΓOk Try.prog (ref38_Valid_X c_ref25_In).Γ) (i : Nat) : PieceOk Try.prog 155 0 ref38_Valid_p1_code ref38_Valid_p1_v ref38_Valid_p1_o (ref38_Valid_p1_G (ref38_Valid_p1_l c_ref25_In i)) := by
  rw [show ref38_Valid_p1_code = .loop (loopBody ref38_Valid_p1_code) by kernel_rfl]
  exact piece_loop (X := (ref38_Valid_X c_ref25_In)) (p := 1) (Λ := pick1 []) (G := fun i => @fun β d ks => ref38_Valid_p1_G (ref38_Valid_p1_l c_ref25_In i) d ks) mixed tab_ok hΓ rfl (by kernel_rfl) CutsOk_nil (fun _ _ => rfl) (fun i => @fun β d ks r h => Eq.trans (b := ref38_Valid_p1_G (ref38_Valid_p1_l c_ref25_In (i + 1)) d ks) (by kernel_rfl) h) i
def ref38_Valid_p2_s {β : Type} (rec : Int → (List (List UInt8 × Int)) → (List (Int × (Int × (Int × Int)))) → (List api_Event) → (List (Int × (Int × Int))) → Option β) (k1 : ref38_Valid_p2_K1 β) (k2 : ref38_Valid_p2_K2 β) (i_ : Int) (r : List (List UInt8 × Int)) (r2 : List (Int × (Int × (Int × Int)))) (r3 : List api_Event) (r4 : List (Int × (Int × Int))) : Option β :=
  cond (decide (i_ < (List.length r2 : Int)))
  (cond (decide (0 ≤ i_) && decide (i_ < (List.length r2 : Int)))
  (let e : (Int × (Int × (Int × Int))) := List.getD r2 (Int.toNat i_) ((0 : Int), ((0 : Int), ((0 : Int), (0 : Int))));
  c_ref25_In e.1 (0 : Int) (IntKind.i64.wrap ((List.length r : Int) - (1 : Int))) (fun (rIn : Bool) =>
  cond (!rIn)
  (k1 false)
  (c_ref25_In e.2.1 (0 : Int) (8589934592 : Int) (fun (rIn2 : Bool) =>
  cond (!rIn2)
  (k1 false)
  (c_ref25_In e.2.2.1 (0 : Int) e.2.2.2 (fun (rIn3 : Bool) =>
  cond (!rIn3)
  (k1 false)
  (cond (decide ((8589934592 : Int) < e.2.2.2))
  (k1 false)
  (let i_2 : Int := (IntKind.i64.wrap (i_ + (1 : Int)));
  rec i_2 r r2 r3 r4))))))))
  none)
  (k2 r r2 r3 r4)
def ref38_Valid_p2_l {β : Type} : Nat → ref38_Valid_p2_K1 β → ref38_Valid_p2_K2 β → Int → (List (List UInt8 × Int)) → (List (Int × (Int × (Int × Int)))) → (List api_Event) → (List (Int × (Int × Int))) → Option β
  | 0 => fun _ _ _ _ _ _ _ => none
  | i + 1 => fun k1 k2 i_ r r2 r3 r4 => ref38_Valid_p2_s c_ref25_In (ref38_Valid_p2_l i k1 k2) k1 k2 i_ r r2 r3 r4
theorem ref38_Valid_p2_ok' (hΓ : ΓOk Try.prog (ref38_Valid_X c_ref25_In).Γ) (i : Nat) : PieceOk Try.prog 155 0 ref38_Valid_p2_code ref38_Valid_p2_v ref38_Valid_p2_o (ref38_Valid_p2_G (ref38_Valid_p2_l c_ref25_In i)) := by
  rw [show ref38_Valid_p2_code = .loop (loopBody ref38_Valid_p2_code) by kernel_rfl]
  exact piece_loop (X := (ref38_Valid_X c_ref25_In)) (p := 1) (Λ := pick1 []) (G := fun i => @fun β d ks => ref38_Valid_p2_G (ref38_Valid_p2_l c_ref25_In i) d ks) mixed tab_ok hΓ rfl (by kernel_rfl) CutsOk_nil (fun _ _ => rfl) (fun i => @fun β d ks r h => Eq.trans (b := ref38_Valid_p2_G (ref38_Valid_p2_l c_ref25_In (i + 1)) d ks) (by kernel_rfl) h) i
def ref38_Valid_p3_s {β : Type} (rec : Int → (List (List UInt8 × Int)) → (List (Int × (Int × (Int × Int)))) → (List api_Event) → (List (Int × (Int × Int))) → Option β) (k1 : ref38_Valid_p3_K1 β) (k2 : ref38_Valid_p3_K2 β) (i_ : Int) (r : List (List UInt8 × Int)) (r2 : List (Int × (Int × (Int × Int)))) (r3 : List api_Event) (r4 : List (Int × (Int × Int))) : Option β :=
  cond (decide (i_ < (List.length r3 : Int)))
  (cond (decide (0 ≤ i_) && decide (i_ < (List.length r3 : Int)))
  (let e : api_Event := List.getD r3 (Int.toNat i_) ((0 : Int), ((0 : Int), ([] : List UInt8)));
  c_ref25_In e.1 (0 : Int) (IntKind.i64.wrap ((List.length r : Int) - (1 : Int))) (fun (rIn : Bool) =>
  cond (!rIn)
  (k1 false)
  (c_ref25_In e.2.1 (0 : Int) (8589934592 : Int) (fun (rIn2 : Bool) =>
  cond (!rIn2)
  (k1 false)
  (let i_2 : Int := (IntKind.i64.wrap (i_ + (1 : Int)));
  rec i_2 r r2 r3 r4)))))
  none)
  (k2 r r2 r3 r4)
def ref38_Valid_p3_l {β : Type} : Nat → ref38_Valid_p3_K1 β → ref38_Valid_p3_K2 β → Int → (List (List UInt8 × Int)) → (List (Int × (Int × (Int × Int)))) → (List api_Event) → (List (Int × (Int × Int))) → Option β
  | 0 => fun _ _ _ _ _ _ _ => none
  | i + 1 => fun k1 k2 i_ r r2 r3 r4 => ref38_Valid_p3_s c_ref25_In (ref38_Valid_p3_l i k1 k2) k1 k2 i_ r r2 r3 r4
theorem ref38_Valid_p3_ok' (hΓ : ΓOk Try.prog (ref38_Valid_X c_ref25_In).Γ) (i : Nat) : PieceOk Try.prog 155 0 ref38_Valid_p3_code ref38_Valid_p3_v ref38_Valid_p3_o (ref38_Valid_p3_G (ref38_Valid_p3_l c_ref25_In i)) := by
  rw [show ref38_Valid_p3_code = .loop (loopBody ref38_Valid_p3_code) by kernel_rfl]
  exact piece_loop (X := (ref38_Valid_X c_ref25_In)) (p := 1) (Λ := pick1 []) (G := fun i => @fun β d ks => ref38_Valid_p3_G (ref38_Valid_p3_l c_ref25_In i) d ks) mixed tab_ok hΓ rfl (by kernel_rfl) CutsOk_nil (fun _ _ => rfl) (fun i => @fun β d ks r h => Eq.trans (b := ref38_Valid_p3_G (ref38_Valid_p3_l c_ref25_In (i + 1)) d ks) (by kernel_rfl) h) i
def ref38_Valid_p4_s {β : Type} (rec : Int → (List (List UInt8 × Int)) → (List (Int × (Int × (Int × Int)))) → (List api_Event) → (List (Int × (Int × Int))) → Option β) (k1 : ref38_Valid_p4_K1 β) (k2 : ref38_Valid_p4_K2 β) (i_ : Int) (r : List (List UInt8 × Int)) (r2 : List (Int × (Int × (Int × Int)))) (r3 : List api_Event) (r4 : List (Int × (Int × Int))) : Option β :=
  cond (decide (i_ < (List.length r4 : Int)))
  (cond (decide (0 ≤ i_) && decide (i_ < (List.length r4 : Int)))
  (let e : (Int × (Int × Int)) := List.getD r4 (Int.toNat i_) ((0 : Int), ((0 : Int), (0 : Int)));
  c_ref25_In e.1 (0 : Int) (IntKind.i64.wrap ((List.length r3 : Int) - (1 : Int))) (fun (rIn : Bool) =>
  cond (!rIn)
  (k1 false)
  (c_ref25_In e.2.1 (0 : Int) (IntKind.i64.wrap ((List.length r3 : Int) - (1 : Int))) (fun (rIn2 : Bool) =>
  cond (!rIn2)
  (k1 false)
  (cond (decide (e.1 = e.2.1))
  (k1 false)
  (c_ref25_In e.2.2 (0 : Int) (8589934592 : Int) (fun (rIn3 : Bool) =>
  cond (!rIn3)
  (k1 false)
  (let i_2 : Int := (IntKind.i64.wrap (i_ + (1 : Int)));
  rec i_2 r r2 r3 r4))))))))
  none)
  (k2 ())
def ref38_Valid_p4_l {β : Type} : Nat → ref38_Valid_p4_K1 β → ref38_Valid_p4_K2 β → Int → (List (List UInt8 × Int)) → (List (Int × (Int × (Int × Int)))) → (List api_Event) → (List (Int × (Int × Int))) → Option β
  | 0 => fun _ _ _ _ _ _ _ => none
  | i + 1 => fun k1 k2 i_ r r2 r3 r4 => ref38_Valid_p4_s c_ref25_In (ref38_Valid_p4_l i k1 k2) k1 k2 i_ r r2 r3 r4
theorem ref38_Valid_p4_ok' (hΓ : ΓOk Try.prog (ref38_Valid_X c_ref25_In).Γ) (i : Nat) : PieceOk Try.prog 155 0 ref38_Valid_p4_code ref38_Valid_p4_v ref38_Valid_p4_o (ref38_Valid_p4_G (ref38_Valid_p4_l c_ref25_In i)) := by
  rw [show ref38_Valid_p4_code = .loop (loopBody ref38_Valid_p4_code) by kernel_rfl]
  exact piece_loop (X := (ref38_Valid_X c_ref25_In)) (p := 1) (Λ := pick1 []) (G := fun i => @fun β d ks => ref38_Valid_p4_G (ref38_Valid_p4_l c_ref25_In i) d ks) mixed tab_ok hΓ rfl (by kernel_rfl) CutsOk_nil (fun _ _ => rfl) (fun i => @fun β d ks r h => Eq.trans (b := ref38_Valid_p4_G (ref38_Valid_p4_l c_ref25_In (i + 1)) d ks) (by kernel_rfl) h) i
def ref38_Valid_s (p1 : ref38_Valid_p1_T) (p2 : ref38_Valid_p2_T) (p3 : ref38_Valid_p3_T) (p4 : ref38_Valid_p4_T) {β : Type} (r : api_Record) (k : (Bool → Option β)) : Option β :=
  cond (decide ((8 : Int) < (List.length r.1 : Int)))
  (k false)
  (cond (decide ((64 : Int) < (List.length r.2.1 : Int)))
  (k false)
  (cond (decide ((40 : Int) < (List.length r.2.2.1 : Int)))
  (k false)
  (cond (decide ((64 : Int) < (List.length r.2.2.2 : Int)))
  (k false)
  (p1 (fun (t2 : Bool) =>
  k t2) (fun (r2 : List (List UInt8 × Int)) (r3 : List (Int × (Int × (Int × Int)))) (r4 : List api_Event) (r5 : List (Int × (Int × Int))) =>
  p2 (fun (t2 : Bool) =>
  k t2) (fun (r6 : List (List UInt8 × Int)) (r7 : List (Int × (Int × (Int × Int)))) (r8 : List api_Event) (r9 : List (Int × (Int × Int))) =>
  p3 (fun (t2 : Bool) =>
  k t2) (fun (r10 : List (List UInt8 × Int)) (r11 : List (Int × (Int × (Int × Int)))) (r12 : List api_Event) (r13 : List (Int × (Int × Int))) =>
  p4 (fun (t2 : Bool) =>
  k t2) (fun (_ : Unit) =>
  k true) (0 : Int) r10 r11 r12 r13) (0 : Int) r6 r7 r8 r9) (0 : Int) r2 r3 r4 r5) (0 : Int) r.1 r.2.1 r.2.2.1 r.2.2.2))))
theorem ref38_Valid_ok' (hΓ : ΓOk Try.prog (ref38_Valid_X c_ref25_In).Γ) (p1 : ref38_Valid_p1_T) (p2 : ref38_Valid_p2_T) (p3 : ref38_Valid_p3_T) (p4 : ref38_Valid_p4_T) (hp1 : PieceOk Try.prog 155 0 ref38_Valid_p1_code ref38_Valid_p1_v ref38_Valid_p1_o (ref38_Valid_p1_G p1)) (hp2 : PieceOk Try.prog 155 0 ref38_Valid_p2_code ref38_Valid_p2_v ref38_Valid_p2_o (ref38_Valid_p2_G p2)) (hp3 : PieceOk Try.prog 155 0 ref38_Valid_p3_code ref38_Valid_p3_v ref38_Valid_p3_o (ref38_Valid_p3_G p3)) (hp4 : PieceOk Try.prog 155 0 ref38_Valid_p4_code ref38_Valid_p4_v ref38_Valid_p4_o (ref38_Valid_p4_G p4)) : SpecOk Try.prog 31 (ref38_Valid_S (ref38_Valid_s p1 p2 p3 p4)) :=
  spec_exec (X := (ref38_Valid_X c_ref25_In)) (Λ := pick1 [(58, pieceCut ref38_Valid_p1_v ref38_Valid_p1_o (ref38_Valid_p1_G p1)), (122, pieceCut ref38_Valid_p2_v ref38_Valid_p2_o (ref38_Valid_p2_G p2)), (250, pieceCut ref38_Valid_p3_v ref38_Valid_p3_o (ref38_Valid_p3_G p3)), (506, pieceCut ref38_Valid_p4_v ref38_Valid_p4_o (ref38_Valid_p4_G p4))]) (rs := [.tmp 2]) (c := bodyOf Try.f31) mixed tab_ok hΓ Try.func31 (by kernel_rfl) (by kernel_rfl) (by kernel_rfl) (by kernel_rfl) (CutsOk_cons (q := 58) (c' := ref38_Valid_p1_code) (by kernel_rfl) rfl hp1 (CutsOk_cons (q := 122) (c' := ref38_Valid_p2_code) (by kernel_rfl) rfl hp2 (CutsOk_cons (q := 250) (c' := ref38_Valid_p3_code) (by kernel_rfl) rfl hp3 (CutsOk_cons (q := 506) (c' := ref38_Valid_p4_code) (by kernel_rfl) rfl hp4 CutsOk_nil)))) (fun x k r h => Eq.trans (b := (ref38_Valid_S (ref38_Valid_s p1 p2 p3 p4)).run x k) (by kernel_rfl) h)
end
theorem ref38_Valid_Γ : ΓOk Try.prog (pick1 [(69, ref25_In_S ref25_In)]) := (ΓOk_cons ref25_In_ok ΓOk_nil)
def ref38_Valid_p1_n (m : Nat) : ref38_Valid_p1_T := ref38_Valid_p1_l ref25_In m
theorem ref38_Valid_p1_step {β : Type} (i : Nat) (k1 k2 i_ r r2 r3 r4) : (ref38_Valid_p1_n (i + 1) k1 k2 i_ r r2 r3 r4 : Option β) = ref38_Valid_p1_s ref25_In (ref38_Valid_p1_n i k1 k2) k1 k2 i_ r r2 r3 r4 := rfl
def ref38_Valid_p1 : ref38_Valid_p1_T := ref38_Valid_p1_n fuel
theorem ref38_Valid_p1_ok : PieceOk Try.prog 155 0 ref38_Valid_p1_code ref38_Valid_p1_v ref38_Valid_p1_o (ref38_Valid_p1_G ref38_Valid_p1) := ref38_Valid_p1_ok' ref25_In ref38_Valid_Γ fuel
def ref38_Valid_p2_n (m : Nat) : ref38_Valid_p2_T := ref38_Valid_p2_l ref25_In m
theorem ref38_Valid_p2_step {β : Type} (i : Nat) (k1 k2 i_ r r2 r3 r4) : (ref38_Valid_p2_n (i + 1) k1 k2 i_ r r2 r3 r4 : Option β) = ref38_Valid_p2_s ref25_In (ref38_Valid_p2_n i k1 k2) k1 k2 i_ r r2 r3 r4 := rfl
def ref38_Valid_p2 : ref38_Valid_p2_T := ref38_Valid_p2_n fuel
theorem ref38_Valid_p2_ok : PieceOk Try.prog 155 0 ref38_Valid_p2_code ref38_Valid_p2_v ref38_Valid_p2_o (ref38_Valid_p2_G ref38_Valid_p2) := ref38_Valid_p2_ok' ref25_In ref38_Valid_Γ fuel
def ref38_Valid_p3_n (m : Nat) : ref38_Valid_p3_T := ref38_Valid_p3_l ref25_In m
theorem ref38_Valid_p3_step {β : Type} (i : Nat) (k1 k2 i_ r r2 r3 r4) : (ref38_Valid_p3_n (i + 1) k1 k2 i_ r r2 r3 r4 : Option β) = ref38_Valid_p3_s ref25_In (ref38_Valid_p3_n i k1 k2) k1 k2 i_ r r2 r3 r4 := rfl
def ref38_Valid_p3 : ref38_Valid_p3_T := ref38_Valid_p3_n fuel
theorem ref38_Valid_p3_ok : PieceOk Try.prog 155 0 ref38_Valid_p3_code ref38_Valid_p3_v ref38_Valid_p3_o (ref38_Valid_p3_G ref38_Valid_p3) := ref38_Valid_p3_ok' ref25_In ref38_Valid_Γ fuel
def ref38_Valid_p4_n (m : Nat) : ref38_Valid_p4_T := ref38_Valid_p4_l ref25_In m
theorem ref38_Valid_p4_step {β : Type} (i : Nat) (k1 k2 i_ r r2 r3 r4) : (ref38_Valid_p4_n (i + 1) k1 k2 i_ r r2 r3 r4 : Option β) = ref38_Valid_p4_s ref25_In (ref38_Valid_p4_n i k1 k2) k1 k2 i_ r r2 r3 r4 := rfl
def ref38_Valid_p4 : ref38_Valid_p4_T := ref38_Valid_p4_n fuel
theorem ref38_Valid_p4_ok : PieceOk Try.prog 155 0 ref38_Valid_p4_code ref38_Valid_p4_v ref38_Valid_p4_o (ref38_Valid_p4_G ref38_Valid_p4) := ref38_Valid_p4_ok' ref25_In ref38_Valid_Γ fuel
def ref38_Valid : T_ref38_Valid := ref38_Valid_s ref38_Valid_p1 ref38_Valid_p2 ref38_Valid_p3 ref38_Valid_p4
theorem ref38_Valid_ok : SpecOk Try.prog 31 (ref38_Valid_S ref38_Valid) := ref38_Valid_ok' ref25_In ref38_Valid_Γ ref38_Valid_p1 ref38_Valid_p2 ref38_Valid_p3 ref38_Valid_p4 ref38_Valid_p1_ok ref38_Valid_p2_ok ref38_Valid_p3_ok ref38_Valid_p4_ok

/-- pagewatch/pagewatchref38.Elapsed -/
abbrev T_ref38_Elapsed := {β : Type} → Int → Int → (Int → Int → Option β) → Option β
def ref38_Elapsed_S (c : T_ref38_Elapsed) : Spec :=
  ⟨[(false, [.data (.int .i64)]), (false, [.data (.int .i64)])], [], [(false, [.data (.int .i64)]), (false, [.data (.int .i64)])], [], fun x k => c x.1.1.1 x.1.2.1.1 (fun r0 r1 => k (((r0, ()), (r1, ()), ()), ()))⟩
section
variable (c_ref25_In : T_ref25_In)
@[reducible] def ref38_Elapsed_X : Ctx := ⟨look tab, pick1 [(69, ref25_In_S c_ref25_In)]⟩
def ref38_Elapsed_s {β : Type} (drift : Int) (d : Int) (k : (Int → Int → Option β)) : Option β :=
  c_ref25_In drift (0 : Int) (500000 : Int) (fun (rIn : Bool) =>
  cond (!rIn)
  (k (0 : Int) (0 : Int))
  (c_ref25_In d (0 : Int) (8589934592 : Int) (fun (rIn2 : Bool) =>
  cond (!rIn2)
  (k (0 : Int) (0 : Int))
  (cond (!decide ((IntKind.i64.wrap ((1000000 : Int) + drift)) = 0))
  (cond (!decide ((IntKind.i64.wrap ((1000000 : Int) - drift)) = 0))
  (let low : Int := (IntKind.i64.wrap (Int.tdiv (IntKind.i64.wrap (d * (1000000 : Int))) (IntKind.i64.wrap ((1000000 : Int) + drift))));
  let high : Int := (IntKind.i64.wrap (Int.tdiv (IntKind.i64.wrap ((IntKind.i64.wrap ((IntKind.i64.wrap ((IntKind.i64.wrap (d * (1000000 : Int))) + (1000000 : Int))) - drift)) - (1 : Int))) (IntKind.i64.wrap ((1000000 : Int) - drift))));
  k low high)
  none)
  none))))
theorem ref38_Elapsed_ok' (hΓ : ΓOk Try.prog (ref38_Elapsed_X c_ref25_In).Γ) : SpecOk Try.prog 33 (ref38_Elapsed_S (ref38_Elapsed_s c_ref25_In)) :=
  spec_exec (X := (ref38_Elapsed_X c_ref25_In)) (Λ := pick1 []) (rs := [.tmp 4, .tmp 5]) (c := bodyOf Try.f33) mixed tab_ok hΓ Try.func33 (by kernel_rfl) (by kernel_rfl) (by kernel_rfl) (by kernel_rfl) CutsOk_nil (fun x k r h => Eq.trans (b := (ref38_Elapsed_S (ref38_Elapsed_s c_ref25_In)).run x k) (by kernel_rfl) h)
end
theorem ref38_Elapsed_Γ : ΓOk Try.prog (pick1 [(69, ref25_In_S ref25_In)]) := (ΓOk_cons ref25_In_ok ΓOk_nil)
def ref38_Elapsed : T_ref38_Elapsed := ref38_Elapsed_s ref25_In
theorem ref38_Elapsed_ok : SpecOk Try.prog 33 (ref38_Elapsed_S ref38_Elapsed) := ref38_Elapsed_ok' ref25_In ref38_Elapsed_Γ

/-- pagewatch/pagewatchref38.From -/
abbrev T_ref38_From := {β : Type} → (List UInt8 × Int) → (Int × (Int × (Int × Int))) → Int → ((Int × Int) → Option β) → Option β
def ref38_From_S (c : T_ref38_From) : Spec :=
  ⟨[(true, [.data (.prod .str (.int .i64))]), (true, [.data (.prod (.int .i64) (.prod (.int .i64) (.prod (.int .i64) (.int .i64))))]), (false, [.data (.int .i64)])], [], [(true, [.data (.prod (.int .i64) (.int .i64))])], [], fun x k => c x.1.1.1 x.1.2.1.1 x.1.2.2.1.1 (fun r0 => k (((r0, ()), ()), ()))⟩
section
variable (c_ref25_In : T_ref25_In) (c_ref38_Elapsed : T_ref38_Elapsed)
@[reducible] def ref38_From_X : Ctx := ⟨look tab, pick1 [(69, ref25_In_S c_ref25_In), (33, ref38_Elapsed_S c_ref38_Elapsed)]⟩
def ref38_From_s {β : Type} (h : (List UInt8 × Int)) (s : (Int × (Int × (Int × Int)))) (clock : Int) (k : ((Int × Int) → Option β)) : Option β :=
  c_ref25_In h.2 (0 : Int) (500000 : Int) (fun (rIn : Bool) =>
  cond (!rIn)
  (k ((-1099511627776 : Int), (1099511627776 : Int)))
  (c_ref25_In s.2.1 (0 : Int) (8589934592 : Int) (fun (rIn2 : Bool) =>
  cond (!rIn2)
  (k ((-1099511627776 : Int), (1099511627776 : Int)))
  (c_ref25_In s.2.2.1 (0 : Int) s.2.2.2 (fun (rIn3 : Bool) =>
  cond (!rIn3)
  (k ((-1099511627776 : Int), (1099511627776 : Int)))
  (cond (decide ((8589934592 : Int) < s.2.2.2))
  (k ((-1099511627776 : Int), (1099511627776 : Int)))
  (c_ref25_In clock (0 : Int) (8589934592 : Int) (fun (rIn4 : Bool) =>
  cond (!rIn4)
  (k ((-1099511627776 : Int), (1099511627776 : Int)))
  (cond (decide (s.2.1 ≤ clock))
  (c_ref38_Elapsed h.2 (IntKind.i64.wrap (clock - s.2.1)) (fun (rElapsed : Int) (rElapsed2 : Int) =>
  k ((IntKind.i64.wrap (s.2.2.1 + rElapsed)), (IntKind.i64.wrap (s.2.2.2 + rElapsed2)))))
  (c_ref38_Elapsed h.2 (IntKind.i64.wrap (s.2.1 - clock)) (fun (rElapsed : Int) (rElapsed2 : Int) =>
  k ((IntKind.i64.wrap (s.2.2.1 - rElapsed2)), (IntKind.i64.wrap (s.2.2.2 - rElapsed))))))))))))))
theorem ref38_From_ok' (hΓ : ΓOk Try.prog (ref38_From_X c_ref25_In c_ref38_Elapsed).Γ) : SpecOk Try.prog 34 (ref38_From_S (ref38_From_s c_ref25_In c_ref38_Elapsed)) :=
  spec_exec (X := (ref38_From_X c_ref25_In c_ref38_Elapsed)) (Λ := pick1 []) (rs := [.cell 6 45]) (c := bodyOf Try.f34) mixed tab_ok hΓ Try.func34 (by kernel_rfl) (by kernel_rfl) (by kernel_rfl) (by kernel_rfl) CutsOk_nil (fun x k r h => Eq.trans (b := (ref38_From_S (ref38_From_s c_ref25_In c_ref38_Elapsed)).run x k) (by kernel_rfl) h)
end
theorem ref38_From_Γ : ΓOk Try.prog (pick1 [(69, ref25_In_S ref25_In), (33, ref38_Elapsed_S ref38_Elapsed)]) := (ΓOk_cons ref25_In_ok (ΓOk_cons ref38_Elapsed_ok ΓOk_nil))
def ref38_From : T_ref38_From := ref38_From_s ref25_In ref38_Elapsed
theorem ref38_From_ok : SpecOk Try.prog 34 (ref38_From_S ref38_From) := ref38_From_ok' ref25_In ref38_Elapsed ref38_From_Γ

/-- pagewatch/pagewatchref38.Shift -/
abbrev T_ref38_Shift := {β : Type} → (Int × Int) → Int → ((Int × Int) → Option β) → Option β
def ref38_Shift_S (c : T_ref38_Shift) : Spec :=
  ⟨[(true, [.data (.prod (.int .i64) (.int .i64))]), (false, [.data (.int .i64)])], [], [(true, [.data (.prod (.int .i64) (.int .i64))])], [], fun x k => c x.1.1.1 x.1.2.1.1 (fun r0 => k (((r0, ()), ()), ()))⟩
section
variable (c_ref25_In : T_ref25_In) (c_ref38_end : T_ref38_end)
@[reducible] def ref38_Shift_X : Ctx := ⟨look tab, pick1 [(69, ref25_In_S c_ref25_In), (70, ref38_end_S c_ref38_end)]⟩
def ref38_Shift_s {β : Type} (a : (Int × Int)) (d : Int) (k : ((Int × Int) → Option β)) : Option β :=
  c_ref25_In a.1 (-1099511627776 : Int) (1099511627776 : Int) (fun (rIn : Bool) =>
  cond (!rIn)
  (k a)
  (c_ref25_In a.2 (-1099511627776 : Int) (1099511627776 : Int) (fun (rIn2 : Bool) =>
  cond (!rIn2)
  (k a)
  (c_ref25_In d (-1099511627776 : Int) (1099511627776 : Int) (fun (rIn3 : Bool) =>
  cond (!rIn3)
  (k a)
  (c_ref38_end a.1 d (fun (rend : Int) =>
  c_ref38_end a.2 d (fun (rend2 : Int) =>
  k (rend, rend2)))))))))
theorem ref38_Shift_ok' (hΓ : ΓOk Try.prog (ref38_Shift_X c_ref25_In c_ref38_end).Γ) : SpecOk Try.prog 39 (ref38_Shift_S (ref38_Shift_s c_ref25_In c_ref38_end)) :=
  spec_exec (X := (ref38_Shift_X c_ref25_In c_ref38_end)) (Λ := pick1 []) (rs := [.cell 4 45]) (c := bodyOf Try.f39) mixed tab_ok hΓ Try.func39 (by kernel_rfl) (by kernel_rfl) (by kernel_rfl) (by kernel_rfl) CutsOk_nil (fun x k r h => Eq.trans (b := (ref38_Shift_S (ref38_Shift_s c_ref25_In c_ref38_end)).run x k) (by kernel_rfl) h)
end
theorem ref38_Shift_Γ : ΓOk Try.prog (pick1 [(69, ref25_In_S ref25_In), (70, ref38_end_S ref38_end)]) := (ΓOk_cons ref25_In_ok (ΓOk_cons ref38_end_ok ΓOk_nil))
def ref38_Shift : T_ref38_Shift := ref38_Shift_s ref25_In ref38_end
theorem ref38_Shift_ok : SpecOk Try.prog 39 (ref38_Shift_S ref38_Shift) := ref38_Shift_ok' ref25_In ref38_end ref38_Shift_Γ

/-- pagewatch/pagewatchlaw38.sane -/
abbrev T_law38_sane := {β : Type} → (Bool → Option β) → Option β
def law38_sane_S (c : T_law38_sane) : Spec :=
  ⟨[], [], [(false, [.data .bool])], [], fun x k => c  (fun r0 => k (((r0, ()), ()), ()))⟩
section
variable (c_clock_Elapsed : T_clock_Elapsed) (c_clock_From : T_clock_From)
@[reducible] def law38_sane_X : Ctx := ⟨look tab, pick1 [(16, clock_Elapsed_S c_clock_Elapsed), (27, clock_From_S c_clock_From)]⟩
def law38_sane_s {β : Type} (k : (Bool → Option β)) : Option β :=
  c_clock_Elapsed (100000 : Int) (100 : Int) (fun (rElapsed : Int) (rElapsed2 : Int) =>
  c_clock_From (([] : List UInt8), (100000 : Int)) ((0 : Int), ((1000 : Int), ((5000 : Int), (5010 : Int)))) (1100 : Int) (fun (rFrom : (Int × Int)) =>
  cond (decide (rElapsed = (90 : Int)))
  (cond (decide (rElapsed2 = (112 : Int)))
  (cond (decide (rFrom.1 = (5090 : Int)))
  (let t : Bool := (decide (rFrom.2 = (5122 : Int)));
  k t)
  (k false))
  (k false))
  (k false)))
theorem law38_sane_ok' (hΓ : ΓOk Try.prog (law38_sane_X c_clock_Elapsed c_clock_From).Γ) : SpecOk Try.prog 17 (law38_sane_S (law38_sane_s c_clock_Elapsed c_clock_From)) :=
  spec_exec (X := (law38_sane_X c_clock_Elapsed c_clock_From)) (Λ := pick1 []) (rs := [.tmp 0]) (c := bodyOf Try.f17) mixed tab_ok hΓ Try.func17 (by kernel_rfl) (by kernel_rfl) (by kernel_rfl) (by kernel_rfl) CutsOk_nil (fun x k r h => Eq.trans (b := (law38_sane_S (law38_sane_s c_clock_Elapsed c_clock_From)).run x k) (by kernel_rfl) h)
end
theorem law38_sane_Γ : ΓOk Try.prog (pick1 [(16, clock_Elapsed_S clock_Elapsed), (27, clock_From_S clock_From)]) := (ΓOk_cons clock_Elapsed_ok (ΓOk_cons clock_From_ok ΓOk_nil))
def law38_sane : T_law38_sane := law38_sane_s clock_Elapsed clock_From
theorem law38_sane_ok : SpecOk Try.prog 17 (law38_sane_S law38_sane) := law38_sane_ok' clock_Elapsed clock_From law38_sane_Γ

/-- pagewatch/clock.When -/
abbrev T_clock_When := {β : Type} → api_Record → Int → Int → ((Int × Int) → Bool → Option β) → Option β
def clock_When_S (c : T_clock_When) : Spec :=
  ⟨[(true, [.data y_api_Record]), (false, [.data (.int .i64)]), (false, [.data (.int .i64)])], [], [(true, [.data (.prod (.int .i64) (.int .i64))]), (false, [.data .bool])], [], fun x k => c x.1.1.1 x.1.2.1.1 x.1.2.2.1.1 (fun r0 r1 => k (((r0, ()), (r1, ()), ()), ()))⟩
noncomputable def clock_When_p1_code : Code := codeAt 122 (bodyOf Try.f25)
abbrev clock_When_p1_K1 (β : Type) := Int → Int → Int → Int → Option β
abbrev clock_When_p1_T := {β : Type} → clock_When_p1_K1 β → Int → Int → (List (Int × (Int × (Int × Int)))) → Int → Int → (List (List UInt8 × Int)) → (List (Int × (Int × (Int × Int)))) → (List api_Event) → (List (Int × (Int × Int))) → Int → Int → Int → Int → Option β
def clock_When_p1_v : View := ⟨0, [1, 2, 3, 6, 8, 31, 32, 33], [(false, [.data (.int .i64)]), (false, [.data (.int .i64)]), (false, [.ptr 0 0]), (false, [.ptr 1 0]), (false, [.ptr 2 0]), (false, [.data (.slice (.prod (.int .i64) (.prod (.int .i64) (.prod (.int .i64) (.int .i64)))))]), (false, [.data (.int .i64)]), (false, [.data (.int .i64)])], [.cells 41 [.data (.slice (.prod .str (.int .i64))), .data (.slice (.prod (.int .i64) (.prod (.int .i64) (.prod (.int .i64) (.int .i64))))), .data (.slice y_api_Event), .data (.slice (.prod (.int .i64) (.prod (.int .i64) (.int .i64))))], .cells 45 [.data (.int .i64), .data (.int .i64)], .cells 45 [.data (.int .i64), .data (.int .i64)]]⟩
def clock_When_p1_o : List (AExit × View) := [(.exit 0, ⟨0, [6, 8], [(false, [.ptr 0 0]), (false, [.ptr 1 0])], [.cells 45 [.data (.int .i64), .data (.int .i64)], .cells 45 [.data (.int .i64), .data (.int .i64)]]⟩)]
@[reducible] def clock_When_p1_G (p : clock_When_p1_T) {β : Type} (d : clock_When_p1_v.den) (ks : Outs.K β clock_When_p1_o) : Option β :=
  p (fun a0 a1 a2 a3 => ks.1 (((), (), ()), ((a0, a1, ()), (a2, a3, ()), ()))) d.1.1.1 d.1.2.1.1 d.1.2.2.2.2.2.1.1 d.1.2.2.2.2.2.2.1.1 d.1.2.2.2.2.2.2.2.1.1 d.2.1.1 d.2.1.2.1 d.2.1.2.2.1 d.2.1.2.2.2.1 d.2.2.1.1 d.2.2.1.2.1 d.2.2.2.1.1 d.2.2.2.1.2.1
section
variable (c_clock_Empty : T_clock_Empty) (c_clock_From : T_clock_From) (c_clock_Meet : T_clock_Meet) (c_clock_Valid : T_clock_Valid) (c_clock_in : T_clock_in) (c_clock_instant : T_clock_instant)
@[reducible] def clock_When_X : Ctx := ⟨look tab, pick1 [(37, clock_Empty_S c_clock_Empty), (27, clock_From_S c_clock_From), (35, clock_Meet_S c_clock_Meet), (30, clock_Valid_S c_clock_Valid), (63, clock_in_S c_clock_in), (64, clock_instant_S c_clock_instant)]⟩
def clock_When_p1_s {β : Type} (rec : Int → Int → (List (Int × (Int × (Int × Int)))) → Int → Int → (List (List UInt8 × Int)) → (List (Int × (Int × (Int × Int)))) → (List api_Event) → (List (Int × (Int × Int))) → Int → Int → Int → Int → Option β) (k1 : clock_When_p1_K1 β) (host : Int) (clock : Int) (t31 : List (Int × (Int × (Int × Int)))) (t32 : Int) (t33 : Int) (r : List (List UInt8 × Int)) (r2 : List (Int × (Int × (Int × Int)))) (r3 : List api_Event) (r4 : List (Int × (Int × Int))) (t6 : Int) (t62 : Int) (out : Int) (out2 : Int) : Option β :=
  cond (decide (t33 < t32))
  (cond (decide (0 ≤ t33) && decide (t33 < (List.length t31 : Int)))
  (let e : (Int × (Int × (Int × Int))) := List.getD t31 (Int.toNat t33) ((0 : Int), ((0 : Int), ((0 : Int), (0 : Int))));
  cond (decide (e.1 = host))
  (cond (decide (0 ≤ host) && decide (host < (List.length r : Int)))
  (let e2 : (List UInt8 × Int) := List.getD r (Int.toNat host) (([] : List UInt8), (0 : Int));
  c_clock_From e2 e clock (fun (rFrom : (Int × Int)) =>
  c_clock_Meet (out, out2) rFrom (fun (rMeet : (Int × Int)) =>
  rec host clock t31 t32 (IntKind.i64.wrap (t33 + (1 : Int))) r r2 r3 r4 t6 t62 rMeet.1 rMeet.2)))
  none)
  (rec host clock t31 t32 (IntKind.i64.wrap (t33 + (1 : Int))) r r2 r3 r4 t6 t62 out out2))
  none)
  (k1 t6 t62 out out2)
def clock_When_p1_l {β : Type} : Nat → clock_When_p1_K1 β → Int → Int → (List (Int × (Int × (Int × Int)))) → Int → Int → (List (List UInt8 × Int)) → (List (Int × (Int × (Int × Int)))) → (List api_Event) → (List (Int × (Int × Int))) → Int → Int → Int → Int → Option β
  | 0 => fun _ _ _ _ _ _ _ _ _ _ _ _ _ _ => none
  | i + 1 => fun k1 host clock t31 t32 t33 r r2 r3 r4 t6 t62 out out2 => clock_When_p1_s c_clock_From c_clock_Meet (clock_When_p1_l i k1) k1 host clock t31 t32 t33 r r2 r3 r4 t6 t62 out out2
theorem clock_When_p1_ok' (hΓ : ΓOk Try.prog (clock_When_X c_clock_Empty c_clock_From c_clock_Meet c_clock_Valid c_clock_in c_clock_instant).Γ) (i : Nat) : PieceOk Try.prog 56 0 clock_When_p1_code clock_When_p1_v clock_When_p1_o (clock_When_p1_G (clock_When_p1_l c_clock_From c_clock_Meet i)) := by
  rw [show clock_When_p1_code = .loop (loopBody clock_When_p1_code) by kernel_rfl]
  exact piece_loop (X := (clock_When_X c_clock_Empty c_clock_From c_clock_Meet c_clock_Valid c_clock_in c_clock_instant)) (p := 1) (Λ := pick1 []) (G := fun i => @fun β d ks => clock_When_p1_G (clock_When_p1_l c_clock_From c_clock_Meet i) d ks) mixed tab_ok hΓ rfl (by kernel_rfl) CutsOk_nil (fun _ _ => rfl) (fun i => @fun β d ks r h => Eq.trans (b := clock_When_p1_G (clock_When_p1_l c_clock_From c_clock_Meet (i + 1)) d ks) (by kernel_rfl) h) i
def clock_When_s (p1 : clock_When_p1_T) {β : Type} (r : api_Record) (host : Int) (clock : Int) (k : ((Int × Int) → Bool → Option β)) : Option β :=
  c_clock_Valid r (fun (rValid : Bool) =>
  cond (!rValid)
  (k ((0 : Int), (0 : Int)) false)
  (c_clock_in host (0 : Int) (IntKind.i64.wrap ((List.length r.1 : Int) - (1 : Int))) (fun (rin : Bool) =>
  cond (!rin)
  (k ((0 : Int), (0 : Int)) false)
  (c_clock_instant clock (fun (rinstant : Bool) =>
  cond (!rinstant)
  (k ((0 : Int), (0 : Int)) false)
  (p1 (fun (t6 : Int) (t62 : Int) (out : Int) (out2 : Int) =>
  c_clock_Empty (out, out2) (fun (rEmpty : Bool) =>
  k (out, out2) (!rEmpty))) host clock r.2.1 (List.length r.2.1 : Int) (0 : Int) r.1 r.2.1 r.2.2.1 r.2.2.2 (0 : Int) (0 : Int) (0 : Int) (8589934592 : Int)))))))
theorem clock_When_ok' (hΓ : ΓOk Try.prog (clock_When_X c_clock_Empty c_clock_From c_clock_Meet c_clock_Valid c_clock_in c_clock_instant).Γ) (p1 : clock_When_p1_T) (hp1 : PieceOk Try.prog 56 0 clock_When_p1_code clock_When_p1_v clock_When_p1_o (clock_When_p1_G p1)) : SpecOk Try.prog 25 (clock_When_S (clock_When_s c_clock_Empty c_clock_Valid c_clock_in c_clock_instant p1)) :=
  spec_exec (X := (clock_When_X c_clock_Empty c_clock_From c_clock_Meet c_clock_Valid c_clock_in c_clock_instant)) (Λ := pick1 [(122, pieceCut clock_When_p1_v clock_When_p1_o (clock_When_p1_G p1))]) (rs := [.cell 6 45, .tmp 7]) (c := bodyOf Try.f25) mixed tab_ok hΓ Try.func25 (by kernel_rfl) (by kernel_rfl) (by kernel_rfl) (by kernel_rfl) (CutsOk_cons (q := 122) (c' := clock_When_p1_code) (by kernel_rfl) rfl hp1 CutsOk_nil) (fun x k r h => Eq.trans (b := (clock_When_S (clock_When_s c_clock_Empty c_clock_Valid c_clock_in c_clock_instant p1)).run x k) (by kernel_rfl) h)
end
theorem clock_When_Γ : ΓOk Try.prog (pick1 [(37, clock_Empty_S clock_Empty), (27, clock_From_S clock_From), (35, clock_Meet_S clock_Meet), (30, clock_Valid_S clock_Valid), (63, clock_in_S clock_in), (64, clock_instant_S clock_instant)]) := (ΓOk_cons clock_Empty_ok (ΓOk_cons clock_From_ok (ΓOk_cons clock_Meet_ok (ΓOk_cons clock_Valid_ok (ΓOk_cons clock_in_ok (ΓOk_cons clock_instant_ok ΓOk_nil))))))
def clock_When_p1_n (m : Nat) : clock_When_p1_T := clock_When_p1_l clock_From clock_Meet m
theorem clock_When_p1_step {β : Type} (i : Nat) (k1 host clock t31 t32 t33 r r2 r3 r4 t6 t62 out out2) : (clock_When_p1_n (i + 1) k1 host clock t31 t32 t33 r r2 r3 r4 t6 t62 out out2 : Option β) = clock_When_p1_s clock_From clock_Meet (clock_When_p1_n i k1) k1 host clock t31 t32 t33 r r2 r3 r4 t6 t62 out out2 := rfl
def clock_When_p1 : clock_When_p1_T := clock_When_p1_n fuel
theorem clock_When_p1_ok : PieceOk Try.prog 56 0 clock_When_p1_code clock_When_p1_v clock_When_p1_o (clock_When_p1_G clock_When_p1) := clock_When_p1_ok' clock_Empty clock_From clock_Meet clock_Valid clock_in clock_instant clock_When_Γ fuel
def clock_When : T_clock_When := clock_When_s clock_Empty clock_Valid clock_in clock_instant clock_When_p1
theorem clock_When_ok : SpecOk Try.prog 25 (clock_When_S clock_When) := clock_When_ok' clock_Empty clock_From clock_Meet clock_Valid clock_in clock_instant clock_When_Γ clock_When_p1 clock_When_p1_ok

/-- pagewatch/pagewatchref38.When -/
abbrev T_ref38_When := {β : Type} → api_Record → Int → Int → ((Int × Int) → Bool → Option β) → Option β
def ref38_When_S (c : T_ref38_When) : Spec :=
  ⟨[(true, [.data y_api_Record]), (false, [.data (.int .i64)]), (false, [.data (.int .i64)])], [], [(true, [.data (.prod (.int .i64) (.int .i64))]), (false, [.data .bool])], [], fun x k => c x.1.1.1 x.1.2.1.1 x.1.2.2.1.1 (fun r0 r1 => k (((r0, ()), (r1, ()), ()), ()))⟩
noncomputable def ref38_When_p1_code : Code := codeAt 122 (bodyOf Try.f32)
abbrev ref38_When_p1_K1 (β : Type) := Int → Int → Int → Int → Option β
abbrev ref38_When_p1_T := {β : Type} → ref38_When_p1_K1 β → Int → Int → Int → (List (List UInt8 × Int)) → (List (Int × (Int × (Int × Int)))) → (List api_Event) → (List (Int × (Int × Int))) → Int → Int → Int → Int → Option β
def ref38_When_p1_v : View := ⟨0, [1, 2, 3, 6, 8, 9], [(false, [.data (.int .i64)]), (false, [.data (.int .i64)]), (false, [.ptr 0 0]), (false, [.ptr 1 0]), (false, [.ptr 2 0]), (false, [.data (.int .i64)])], [.cells 41 [.data (.slice (.prod .str (.int .i64))), .data (.slice (.prod (.int .i64) (.prod (.int .i64) (.prod (.int .i64) (.int .i64))))), .data (.slice y_api_Event), .data (.slice (.prod (.int .i64) (.prod (.int .i64) (.int .i64))))], .cells 45 [.data (.int .i64), .data (.int .i64)], .cells 45 [.data (.int .i64), .data (.int .i64)]]⟩
def ref38_When_p1_o : List (AExit × View) := [(.exit 0, ⟨0, [6, 8], [(false, [.ptr 0 0]), (false, [.ptr 1 0])], [.cells 45 [.data (.int .i64), .data (.int .i64)], .cells 45 [.data (.int .i64), .data (.int .i64)]]⟩)]
@[reducible] def ref38_When_p1_G (p : ref38_When_p1_T) {β : Type} (d : ref38_When_p1_v.den) (ks : Outs.K β ref38_When_p1_o) : Option β :=
  p (fun a0 a1 a2 a3 => ks.1 (((), (), ()), ((a0, a1, ()), (a2, a3, ()), ()))) d.1.1.1 d.1.2.1.1 d.1.2.2.2.2.2.1.1 d.2.1.1 d.2.1.2.1 d.2.1.2.2.1 d.2.1.2.2.2.1 d.2.2.1.1 d.2.2.1.2.1 d.2.2.2.1.1 d.2.2.2.1.2.1
section
variable (c_ref25_In : T_ref25_In) (c_ref38_Empty : T_ref38_Empty) (c_ref38_From : T_ref38_From) (c_ref38_Meet : T_ref38_Meet) (c_ref38_Valid : T_ref38_Valid)
@[reducible] def ref38_When_X : Ctx := ⟨look tab, pick1 [(69, ref25_In_S c_ref25_In), (38, ref38_Empty_S c_ref38_Empty), (34, ref38_From_S c_ref38_From), (36, ref38_Meet_S c_ref38_Meet), (31, ref38_Valid_S c_ref38_Valid)]⟩
def ref38_When_p1_s {β : Type} (rec : Int → Int → Int → (List (List UInt8 × Int)) → (List (Int × (Int × (Int × Int)))) → (List api_Event) → (List (Int × (Int × Int))) → Int → Int → Int → Int → Option β) (k1 : ref38_When_p1_K1 β) (host : Int) (clock : Int) (i_ : Int) (r : List (List UInt8 × Int)) (r2 : List (Int × (Int × (Int × Int)))) (r3 : List api_Event) (r4 : List (Int × (Int × Int))) (t6 : Int) (t62 : Int) (out : Int) (out2 : Int) : Option β :=
  cond (decide (i_ < (List.length r2 : Int)))
  (cond (decide (0 ≤ i_) && decide (i_ < (List.length r2 : Int)))
  (let e : (Int × (Int × (Int × Int))) := List.getD r2 (Int.toNat i_) ((0 : Int), ((0 : Int), ((0 : Int), (0 : Int))));
  cond (decide (e.1 = host))
  (cond (decide (0 ≤ host) && decide (host < (List.length r : Int)))
  (let e2 : (List UInt8 × Int) := List.getD r (Int.toNat host) (([] : List UInt8), (0 : Int));
  cond (decide (0 ≤ i_) && decide (i_ < (List.length r2 : Int)))
  (let e3 : (Int × (Int × (Int × Int))) := List.getD r2 (Int.toNat i_) ((0 : Int), ((0 : Int), ((0 : Int), (0 : Int))));
  c_ref38_From e2 e3 clock (fun (rFrom : (Int × Int)) =>
  c_ref38_Meet (out, out2) rFrom (fun (rMeet : (Int × Int)) =>
  let i_2 : Int := (IntKind.i64.wrap (i_ + (1 : Int)));
  rec host clock i_2 r r2 r3 r4 t6 t62 rMeet.1 rMeet.2)))
  none)
  none)
  (let i_2 : Int := (IntKind.i64.wrap (i_ + (1 : Int)));
  rec host clock i_2 r r2 r3 r4 t6 t62 out out2))
  none)
  (k1 t6 t62 out out2)
def ref38_When_p1_l {β : Type} : Nat → ref38_When_p1_K1 β → Int → Int → Int → (List (List UInt8 × Int)) → (List (Int × (Int × (Int × Int)))) → (List api_Event) → (List (Int × (Int × Int))) → Int → Int → Int → Int → Option β
  | 0 => fun _ _ _ _ _ _ _ _ _ _ _ _ => none
  | i + 1 => fun k1 host clock i_ r r2 r3 r4 t6 t62 out out2 => ref38_When_p1_s c_ref38_From c_ref38_Meet (ref38_When_p1_l i k1) k1 host clock i_ r r2 r3 r4 t6 t62 out out2
theorem ref38_When_p1_ok' (hΓ : ΓOk Try.prog (ref38_When_X c_ref25_In c_ref38_Empty c_ref38_From c_ref38_Meet c_ref38_Valid).Γ) (i : Nat) : PieceOk Try.prog 62 0 ref38_When_p1_code ref38_When_p1_v ref38_When_p1_o (ref38_When_p1_G (ref38_When_p1_l c_ref38_From c_ref38_Meet i)) := by
  rw [show ref38_When_p1_code = .loop (loopBody ref38_When_p1_code) by kernel_rfl]
  exact piece_loop (X := (ref38_When_X c_ref25_In c_ref38_Empty c_ref38_From c_ref38_Meet c_ref38_Valid)) (p := 1) (Λ := pick1 []) (G := fun i => @fun β d ks => ref38_When_p1_G (ref38_When_p1_l c_ref38_From c_ref38_Meet i) d ks) mixed tab_ok hΓ rfl (by kernel_rfl) CutsOk_nil (fun _ _ => rfl) (fun i => @fun β d ks r h => Eq.trans (b := ref38_When_p1_G (ref38_When_p1_l c_ref38_From c_ref38_Meet (i + 1)) d ks) (by kernel_rfl) h) i
def ref38_When_s (p1 : ref38_When_p1_T) {β : Type} (r : api_Record) (host : Int) (clock : Int) (k : ((Int × Int) → Bool → Option β)) : Option β :=
  c_ref38_Valid r (fun (rValid : Bool) =>
  cond (!rValid)
  (k ((0 : Int), (0 : Int)) false)
  (c_ref25_In host (0 : Int) (IntKind.i64.wrap ((List.length r.1 : Int) - (1 : Int))) (fun (rIn : Bool) =>
  cond (!rIn)
  (k ((0 : Int), (0 : Int)) false)
  (c_ref25_In clock (0 : Int) (8589934592 : Int) (fun (rIn2 : Bool) =>
  cond (!rIn2)
  (k ((0 : Int), (0 : Int)) false)
  (p1 (fun (t6 : Int) (t62 : Int) (out : Int) (out2 : Int) =>
  c_ref38_Empty (out, out2) (fun (rEmpty : Bool) =>
  k (out, out2) (!rEmpty))) host clock (0 : Int) r.1 r.2.1 r.2.2.1 r.2.2.2 (0 : Int) (0 : Int) (0 : Int) (8589934592 : Int)))))))
theorem ref38_When_ok' (hΓ : ΓOk Try.prog (ref38_When_X c_ref25_In c_ref38_Empty c_ref38_From c_ref38_Meet c_ref38_Valid).Γ) (p1 : ref38_When_p1_T) (hp1 : PieceOk Try.prog 62 0 ref38_When_p1_code ref38_When_p1_v ref38_When_p1_o (ref38_When_p1_G p1)) : SpecOk Try.prog 32 (ref38_When_S (ref38_When_s c_ref25_In c_ref38_Empty c_ref38_Valid p1)) :=
  spec_exec (X := (ref38_When_X c_ref25_In c_ref38_Empty c_ref38_From c_ref38_Meet c_ref38_Valid)) (Λ := pick1 [(122, pieceCut ref38_When_p1_v ref38_When_p1_o (ref38_When_p1_G p1))]) (rs := [.cell 6 45, .tmp 7]) (c := bodyOf Try.f32) mixed tab_ok hΓ Try.func32 (by kernel_rfl) (by kernel_rfl) (by kernel_rfl) (by kernel_rfl) (CutsOk_cons (q := 122) (c' := ref38_When_p1_code) (by kernel_rfl) rfl hp1 CutsOk_nil) (fun x k r h => Eq.trans (b := (ref38_When_S (ref38_When_s c_ref25_In c_ref38_Empty c_ref38_Valid p1)).run x k) (by kernel_rfl) h)
end
theorem ref38_When_Γ : ΓOk Try.prog (pick1 [(69, ref25_In_S ref25_In), (38, ref38_Empty_S ref38_Empty), (34, ref38_From_S ref38_From), (36, ref38_Meet_S ref38_Meet), (31, ref38_Valid_S ref38_Valid)]) := (ΓOk_cons ref25_In_ok (ΓOk_cons ref38_Empty_ok (ΓOk_cons ref38_From_ok (ΓOk_cons ref38_Meet_ok (ΓOk_cons ref38_Valid_ok ΓOk_nil)))))
def ref38_When_p1_n (m : Nat) : ref38_When_p1_T := ref38_When_p1_l ref38_From ref38_Meet m
theorem ref38_When_p1_step {β : Type} (i : Nat) (k1 host clock i_ r r2 r3 r4 t6 t62 out out2) : (ref38_When_p1_n (i + 1) k1 host clock i_ r r2 r3 r4 t6 t62 out out2 : Option β) = ref38_When_p1_s ref38_From ref38_Meet (ref38_When_p1_n i k1) k1 host clock i_ r r2 r3 r4 t6 t62 out out2 := rfl
def ref38_When_p1 : ref38_When_p1_T := ref38_When_p1_n fuel
theorem ref38_When_p1_ok : PieceOk Try.prog 62 0 ref38_When_p1_code ref38_When_p1_v ref38_When_p1_o (ref38_When_p1_G ref38_When_p1) := ref38_When_p1_ok' ref25_In ref38_Empty ref38_From ref38_Meet ref38_Valid ref38_When_Γ fuel
def ref38_When : T_ref38_When := ref38_When_s ref25_In ref38_Empty ref38_Valid ref38_When_p1
theorem ref38_When_ok : SpecOk Try.prog 32 (ref38_When_S ref38_When) := ref38_When_ok' ref25_In ref38_Empty ref38_From ref38_Meet ref38_Valid ref38_When_Γ ref38_When_p1 ref38_When_p1_ok

/-- pagewatch/pagewatchlaw38.ClockTrue -/
abbrev T_law38_ClockTrue := {β : Type} → (List Int) → Int → (Bool → Option β) → Option β
def law38_ClockTrue_S (c : T_law38_ClockTrue) : Spec :=
  ⟨[(false, [.data (.slice (.int .i64))]), (false, [.data (.int .u16)])], [], [(false, [.data .bool])], [], fun x k => c x.1.1.1 x.1.2.1.1 (fun r0 => k (((r0, ()), ()), ()))⟩
noncomputable def law38_ClockTrue_p1_code : Code := codeAt 65530 (bodyOf Try.f4)
noncomputable def law38_ClockTrue_p2_code : Code := codeAt 2047 (bodyOf Try.f4)
noncomputable def law38_ClockTrue_p3_code : Code := codeAt 65530 (bodyOf Try.f4)
noncomputable def law38_ClockTrue_p4_code : Code := codeAt 2047 (bodyOf Try.f4)
abbrev law38_ClockTrue_p1_K1 (β : Type) := Int → Int → Int → Int → (List (List UInt8 × Int)) → (List (Int × (Int × (Int × Int)))) → (List api_Event) → (List (Int × (Int × Int))) → Option β
abbrev law38_ClockTrue_p1_T := {β : Type} → law38_ClockTrue_p1_K1 β → Int → Int → (List Int) → Int → Int → Int → Int → (List (List UInt8 × Int)) → (List (Int × (Int × (Int × Int)))) → (List api_Event) → (List (Int × (Int × Int))) → Option β
def law38_ClockTrue_p1_v : View := ⟨0, [1, 5, 9, 11, 12, 13], [(false, [.data (.int .u16)]), (false, [.ptr 0 0]), (false, [.fn 23 [1, 2]]), (false, [.fn 24 [1, 3]]), (false, [.ptr 4 0]), (false, [.data (.int .i64)])], [.cells 90 [.data (.slice (.int .i64)), .data (.int .i64)], .cells 3 [.data (.int .i64)], .cells 3 [.data (.int .i64)], .cells 3 [.data (.int .i64)], .cells 41 [.rowh 5, .rowh 6, .rowh 7, .rowh 8], .row 35 (.prod .str (.int .i64)), .row 43 (.prod (.int .i64) (.prod (.int .i64) (.prod (.int .i64) (.int .i64)))), .row 65 y_api_Event, .row 67 (.prod (.int .i64) (.prod (.int .i64) (.int .i64)))]⟩
def law38_ClockTrue_p1_o : List (AExit × View) := [(.exit 0, ⟨0, [1, 9, 11, 12], [(false, [.data (.int .u16)]), (false, [.fn 23 [0, 1]]), (false, [.fn 24 [0, 2]]), (false, [.ptr 3 0])], [.cells 3 [.data (.int .i64)], .cells 3 [.data (.int .i64)], .cells 3 [.data (.int .i64)], .cells 41 [.rowh 4, .rowh 5, .rowh 6, .rowh 7], .row 35 (.prod .str (.int .i64)), .row 43 (.prod (.int .i64) (.prod (.int .i64) (.prod (.int .i64) (.int .i64)))), .row 65 y_api_Event, .row 67 (.prod (.int .i64) (.prod (.int .i64) (.int .i64)))]⟩)]
@[reducible] def law38_ClockTrue_p1_G (p : law38_ClockTrue_p1_T) {β : Type} (d : law38_ClockTrue_p1_v.den) (ks : Outs.K β law38_ClockTrue_p1_o) : Option β :=
  p (fun a0 a1 a2 a3 a4 a5 a6 a7 => ks.1 (((a0, ()), (), (), (), ()), ((a1, ()), (a2, ()), (a3, ()), (), a4, a5, a6, a7, ()))) d.1.1.1 d.1.2.2.2.2.2.1.1 d.2.1.1 d.2.1.2.1 d.2.2.1.1 d.2.2.2.1.1 d.2.2.2.2.1.1 d.2.2.2.2.2.2.1 d.2.2.2.2.2.2.2.1 d.2.2.2.2.2.2.2.2.1 d.2.2.2.2.2.2.2.2.2.1
abbrev law38_ClockTrue_p2_K1 (β : Type) := Bool → Option β
abbrev law38_ClockTrue_p2_T := {β : Type} → law38_ClockTrue_p2_K1 β → Int → Int → (List Int) → Int → Int → Int → Int → Option β
def law38_ClockTrue_p2_v : View := ⟨0, [1, 5, 6, 8, 9, 10], [(false, [.data (.int .u16)]), (false, [.ptr 0 0]), (false, [.data (.int .i64)]), (false, [.ptr 1 0]), (false, [.fn 23 [1, 2]]), (false, [.ptr 3 0])], [.cells 90 [.data (.slice (.int .i64)), .data (.int .i64)], .cells 3 [.data (.int .i64)], .cells 3 [.data (.int .i64)], .cells 3 [.data (.int .i64)]]⟩
def law38_ClockTrue_p2_o : List (AExit × View) := [(.ret, ⟨0, [4], [(false, [.data .bool])], []⟩)]
@[reducible] def law38_ClockTrue_p2_G (p : law38_ClockTrue_p2_T) {β : Type} (d : law38_ClockTrue_p2_v.den) (ks : Outs.K β law38_ClockTrue_p2_o) : Option β :=
  p (fun a0 => ks.1 (((a0, ()), ()), ())) d.1.1.1 d.1.2.2.1.1 d.2.1.1 d.2.1.2.1 d.2.2.1.1 d.2.2.2.1.1 d.2.2.2.2.1.1
abbrev law38_ClockTrue_p3_K1 (β : Type) := Int → Int → Int → Int → (List (List UInt8 × Int)) → (List (Int × (Int × (Int × Int)))) → (List api_Event) → (List (Int × (Int × Int))) → Option β
abbrev law38_ClockTrue_p3_T := {β : Type} → law38_ClockTrue_p3_K1 β → Int → Int → (List Int) → Int → Int → Int → Int → (List (List UInt8 × Int)) → (List (Int × (Int × (Int × Int)))) → (List api_Event) → (List (Int × (Int × Int))) → Option β
def law38_ClockTrue_p3_v : View := ⟨0, [1, 5, 9, 11, 12, 13], [(false, [.data (.int .u16)]), (false, [.ptr 0 0]), (false, [.fn 22 [1, 2]]), (false, [.fn 24 [1, 3]]), (false, [.ptr 4 0]), (false, [.data (.int .i64)])], [.cells 90 [.data (.slice (.int .i64)), .data (.int .i64)], .cells 3 [.data (.int .i64)], .cells 3 [.data (.int .i64)], .cells 3 [.data (.int .i64)], .cells 41 [.rowh 5, .rowh 6, .rowh 7, .rowh 8], .row 35 (.prod .str (.int .i64)), .row 43 (.prod (.int .i64) (.prod (.int .i64) (.prod (.int .i64) (.int .i64)))), .row 65 y_api_Event, .row 67 (.prod (.int .i64) (.prod (.int .i64) (.int .i64)))]⟩
def law38_ClockTrue_p3_o : List (AExit × View) := [(.exit 0, ⟨0, [1, 9, 11, 12], [(false, [.data (.int .u16)]), (false, [.fn 22 [0, 1]]), (false, [.fn 24 [0, 2]]), (false, [.ptr 3 0])], [.cells 3 [.data (.int .i64)], .cells 3 [.data (.int .i64)], .cells 3 [.data (.int .i64)], .cells 41 [.rowh 4, .rowh 5, .rowh 6, .rowh 7], .row 35 (.prod .str (.int .i64)), .row 43 (.prod (.int .i64) (.prod (.int .i64) (.prod (.int .i64) (.int .i64)))), .row 65 y_api_Event, .row 67 (.prod (.int .i64) (.prod (.int .i64) (.int .i64)))]⟩)]
@[reducible] def law38_ClockTrue_p3_G (p : law38_ClockTrue_p3_T) {β : Type} (d : law38_ClockTrue_p3_v.den) (ks : Outs.K β law38_ClockTrue_p3_o) : Option β :=
  p (fun a0 a1 a2 a3 a4 a5 a6 a7 => ks.1 (((a0, ()), (), (), (), ()), ((a1, ()), (a2, ()), (a3, ()), (), a4, a5, a6, a7, ()))) d.1.1.1 d.1.2.2.2.2.2.1.1 d.2.1.1 d.2.1.2.1 d.2.2.1.1 d.2.2.2.1.1 d.2.2.2.2.1.1 d.2.2.2.2.2.2.1 d.2.2.2.2.2.2.2.1 d.2.2.2.2.2.2.2.2.1 d.2.2.2.2.2.2.2.2.2.1
abbrev law38_ClockTrue_p4_K1 (β : Type) := Bool → Option β
abbrev law38_ClockTrue_p4_T := {β : Type} → law38_ClockTrue_p4_K1 β → Int → Int → (List Int) → Int → Int → Int → Int → Option β
def law38_ClockTrue_p4_v : View := ⟨0, [1, 5, 6, 8, 9, 10], [(false, [.data (.int .u16)]), (false, [.ptr 0 0]), (false, [.data (.int .i64)]), (false, [.ptr 1 0]), (false, [.fn 22 [1, 2]]), (false, [.ptr 3 0])], [.cells 90 [.data (.slice (.int .i64)), .data (.int .i64)], .cells 3 [.data (.int .i64)], .cells 3 [.data (.int .i64)], .cells 3 [.data (.int .i64)]]⟩
def law38_ClockTrue_p4_o : List (AExit × View) := [(.ret, ⟨0, [4], [(false, [.data .bool])], []⟩)]
@[reducible] def law38_ClockTrue_p4_G (p : law38_ClockTrue_p4_T) {β : Type} (d : law38_ClockTrue_p4_v.den) (ks : Outs.K β law38_ClockTrue_p4_o) : Option β :=
  p (fun a0 => ks.1 (((a0, ()), ()), ())) d.1.1.1 d.1.2.2.1.1 d.2.1.1 d.2.1.2.1 d.2.2.1.1 d.2.2.2.1.1 d.2.2.2.2.1.1
section
variable (c_clock_When : T_clock_When) (c_law38_ClockTrue_f1 : T_law38_ClockTrue_f1) (c_law38_ClockTrue_f2 : T_law38_ClockTrue_f2) (c_law38_ClockTrue_f3 : T_law38_ClockTrue_f3) (c_law38_sane : T_law38_sane) (c_made_Dice_Next : T_made_Dice_Next) (c_made_Dice_One : T_made_Dice_One) (c_made_Light : T_made_Light) (c_made_Roll : T_made_Roll)
@[reducible] def law38_ClockTrue_X : Ctx := ⟨look tab, pick1 [(25, clock_When_S c_clock_When), (22, law38_ClockTrue_f1_S c_law38_ClockTrue_f1), (23, law38_ClockTrue_f2_S c_law38_ClockTrue_f2), (24, law38_ClockTrue_f3_S c_law38_ClockTrue_f3), (17, law38_sane_S c_law38_sane), (21, made_Dice_Next_S c_made_Dice_Next), (20, made_Dice_One_S c_made_Dice_One), (18, made_Light_S c_made_Light), (19, made_Roll_S c_made_Roll)]⟩
def law38_ClockTrue_p1_s {β : Type} (rec : Int → Int → (List Int) → Int → Int → Int → Int → (List (List UInt8 × Int)) → (List (Int × (Int × (Int × Int)))) → (List api_Event) → (List (Int × (Int × Int))) → Option β) (k1 : law38_ClockTrue_p1_K1 β) (n : Int) (i_ : Int) (d : List Int) (d2 : Int) (b1_ : Int) (b2_ : Int) (b3_ : Int) (b5_ : List (List UInt8 × Int)) (b6_ : List (Int × (Int × (Int × Int)))) (b7_ : List api_Event) (b8_ : List (Int × (Int × Int))) : Option β :=
  cond (decide ((0 : Int) < i_))
  (c_made_Dice_Next (300 : Int) (d, d2) (fun (rNext : Int) (mrNext : (List Int × Int)) =>
  c_law38_ClockTrue_f3 rNext b1_ b3_ (fun (rClockTrue3 : Int) (mrClockTrue3 : Int) (mrClockTrue32 : Int) =>
  c_law38_ClockTrue_f2 rClockTrue3 mrClockTrue3 b2_ (fun (rClockTrue2 : Int) (mrClockTrue2 : Int) (mrClockTrue22 : Int) =>
  c_made_Dice_Next (9 : Int) mrNext (fun (rNext2 : Int) (mrNext2 : (List Int × Int)) =>
  c_made_Dice_Next (9 : Int) mrNext2 (fun (rNext3 : Int) (mrNext3 : (List Int × Int)) =>
  let l : List (Int × (Int × (Int × Int))) := ([((0 : Int), (rClockTrue2, ((IntKind.i64.wrap (rClockTrue3 - rNext2)), (IntKind.i64.wrap (rClockTrue3 + rNext3)))))] : List (Int × (Int × (Int × Int))));
  cond (decide ((List.length b6_ + List.length l) * 32 ≤ roomMax))
  (let l2 : List (Int × (Int × (Int × Int))) := (b6_ ++ l);
  let i_2 : Int := (IntKind.i64.wrap (i_ - (1 : Int)));
  rec n i_2 mrNext3.1 mrNext3.2 mrClockTrue2 mrClockTrue22 mrClockTrue32 b5_ l2 b7_ b8_)
  none))))))
  (k1 n b1_ b2_ b3_ b5_ b6_ b7_ b8_)
def law38_ClockTrue_p1_l {β : Type} : Nat → law38_ClockTrue_p1_K1 β → Int → Int → (List Int) → Int → Int → Int → Int → (List (List UInt8 × Int)) → (List (Int × (Int × (Int × Int)))) → (List api_Event) → (List (Int × (Int × Int))) → Option β
  | 0 => fun _ _ _ _ _ _ _ _ _ _ _ _ => none
  | i + 1 => fun k1 n i_ d d2 b1_ b2_ b3_ b5_ b6_ b7_ b8_ => law38_ClockTrue_p1_s c_law38_ClockTrue_f2 c_law38_ClockTrue_f3 c_made_Dice_Next (law38_ClockTrue_p1_l i k1) k1 n i_ d d2 b1_ b2_ b3_ b5_ b6_ b7_ b8_
theorem law38_ClockTrue_p1_ok' (hΓ : ΓOk Try.prog (law38_ClockTrue_X c_clock_When c_law38_ClockTrue_f1 c_law38_ClockTrue_f2 c_law38_ClockTrue_f3 c_law38_sane c_made_Dice_Next c_made_Dice_One c_made_Light c_made_Roll).Γ) (i : Nat) : PieceOk Try.prog 102 0 law38_ClockTrue_p1_code law38_ClockTrue_p1_v law38_ClockTrue_p1_o (law38_ClockTrue_p1_G (law38_ClockTrue_p1_l c_law38_ClockTrue_f2 c_law38_ClockTrue_f3 c_made_Dice_Next i)) := by
  rw [show law38_ClockTrue_p1_code = .loop (loopBody law38_ClockTrue_p1_code) by kernel_rfl]
  exact piece_loop (X := (law38_ClockTrue_X c_clock_When c_law38_ClockTrue_f1 c_law38_ClockTrue_f2 c_law38_ClockTrue_f3 c_law38_sane c_made_Dice_Next c_made_Dice_One c_made_Light c_made_Roll)) (p := 1) (Λ := pick1 []) (G := fun i => @fun β d ks => law38_ClockTrue_p1_G (law38_ClockTrue_p1_l c_law38_ClockTrue_f2 c_law38_ClockTrue_f3 c_made_Dice_Next i) d ks) mixed tab_ok hΓ rfl (by kernel_rfl) CutsOk_nil (fun _ _ => rfl) (fun i => @fun β d ks r h => Eq.trans (b := law38_ClockTrue_p1_G (law38_ClockTrue_p1_l c_law38_ClockTrue_f2 c_law38_ClockTrue_f3 c_made_Dice_Next (i + 1)) d ks) (by kernel_rfl) h) i
def law38_ClockTrue_p2_s (p1 : law38_ClockTrue_p1_T) {β : Type} (k1 : law38_ClockTrue_p2_K1 β) (n : Int) (drift : Int) (d : List Int) (d2 : Int) (start : Int) (b2_ : Int) (step : Int) : Option β :=
  let l : List (List UInt8 × Int) := ([(([104] : List UInt8), drift)] : List (List UInt8 × Int));
  c_made_Dice_Next (4 : Int) (d, d2) (fun (rNext : Int) (mrNext : (List Int × Int)) =>
  p1 (fun (n2 : Int) (b0_ : Int) (b1_ : Int) (b2_2 : Int) (b4_ : List (List UInt8 × Int)) (b5_ : List (Int × (Int × (Int × Int)))) (b6_ : List api_Event) (b7_ : List (Int × (Int × Int))) =>
  cond (!decide ((300 : Int) = 0))
  (c_law38_ClockTrue_f3 (Int.tmod (IntKind.i64.wrap n2) (300 : Int)) b0_ b2_2 (fun (rClockTrue3 : Int) (mrClockTrue3 : Int) (mrClockTrue32 : Int) =>
  c_law38_ClockTrue_f2 rClockTrue3 mrClockTrue3 b1_ (fun (rClockTrue2 : Int) (mrClockTrue2 : Int) (mrClockTrue22 : Int) =>
  c_clock_When (b4_, (b5_, (b6_, b7_))) (0 : Int) rClockTrue2 (fun (rWhen : (Int × Int)) (rWhen2 : Bool) =>
  cond rWhen2
  (cond (decide (rWhen.1 ≤ rClockTrue3))
  (cond (decide (rClockTrue3 ≤ rWhen.2))
  (c_law38_sane  (fun (rsane : Bool) =>
  k1 rsane))
  (k1 false))
  (k1 false))
  (k1 false)))))
  none) n rNext mrNext.1 mrNext.2 start b2_ step l ([] : List (Int × (Int × (Int × Int)))) ([] : List api_Event) ([] : List (Int × (Int × Int))))
def law38_ClockTrue_p2_u (p1 : law38_ClockTrue_p1_T) {β : Type} (k1 : law38_ClockTrue_p2_K1 β) (n : Int) (drift : Int) (d : List Int) (d2 : Int) (start : Int) (b2_ : Int) (step : Int) : Option β := law38_ClockTrue_p2_s c_clock_When c_law38_ClockTrue_f2 c_law38_ClockTrue_f3 c_law38_sane c_made_Dice_Next p1 k1 n drift d d2 start b2_ step
theorem law38_ClockTrue_p2_ok' (hΓ : ΓOk Try.prog (law38_ClockTrue_X c_clock_When c_law38_ClockTrue_f1 c_law38_ClockTrue_f2 c_law38_ClockTrue_f3 c_law38_sane c_made_Dice_Next c_made_Dice_One c_made_Light c_made_Roll).Γ) (p1 : law38_ClockTrue_p1_T) (hp1 : PieceOk Try.prog 102 0 law38_ClockTrue_p1_code law38_ClockTrue_p1_v law38_ClockTrue_p1_o (law38_ClockTrue_p1_G p1)) : PieceOk Try.prog 102 0 law38_ClockTrue_p2_code law38_ClockTrue_p2_v law38_ClockTrue_p2_o (law38_ClockTrue_p2_G (law38_ClockTrue_p2_u c_clock_When c_law38_ClockTrue_f2 c_law38_ClockTrue_f3 c_law38_sane c_made_Dice_Next p1)) :=
  piece_exec (X := (law38_ClockTrue_X c_clock_When c_law38_ClockTrue_f1 c_law38_ClockTrue_f2 c_law38_ClockTrue_f3 c_law38_sane c_made_Dice_Next c_made_Dice_One c_made_Light c_made_Roll)) (p := 2047) (Λ := pick1 [(65530, pieceCut law38_ClockTrue_p1_v law38_ClockTrue_p1_o (law38_ClockTrue_p1_G p1))]) mixed tab_ok hΓ (by kernel_rfl) (CutsOk_cons (q := 65530) (c' := law38_ClockTrue_p1_code) (by kernel_rfl) rfl hp1 CutsOk_nil) (fun d ks r h => Eq.trans (b := law38_ClockTrue_p2_G (law38_ClockTrue_p2_u c_clock_When c_law38_ClockTrue_f2 c_law38_ClockTrue_f3 c_law38_sane c_made_Dice_Next p1) d ks) (by kernel_rfl) h)
def law38_ClockTrue_p3_s {β : Type} (rec : Int → Int → (List Int) → Int → Int → Int → Int → (List (List UInt8 × Int)) → (List (Int × (Int × (Int × Int)))) → (List api_Event) → (List (Int × (Int × Int))) → Option β) (k1 : law38_ClockTrue_p3_K1 β) (n : Int) (i_ : Int) (d : List Int) (d2 : Int) (b1_ : Int) (b2_ : Int) (b3_ : Int) (b5_ : List (List UInt8 × Int)) (b6_ : List (Int × (Int × (Int × Int)))) (b7_ : List api_Event) (b8_ : List (Int × (Int × Int))) : Option β :=
  cond (decide ((0 : Int) < i_))
  (c_made_Dice_Next (300 : Int) (d, d2) (fun (rNext : Int) (mrNext : (List Int × Int)) =>
  c_law38_ClockTrue_f3 rNext b1_ b3_ (fun (rClockTrue3 : Int) (mrClockTrue3 : Int) (mrClockTrue32 : Int) =>
  c_law38_ClockTrue_f1 rClockTrue3 mrClockTrue3 b2_ (fun (rClockTrue1 : Int) (mrClockTrue1 : Int) (mrClockTrue12 : Int) =>
  c_made_Dice_Next (9 : Int) mrNext (fun (rNext2 : Int) (mrNext2 : (List Int × Int)) =>
  c_made_Dice_Next (9 : Int) mrNext2 (fun (rNext3 : Int) (mrNext3 : (List Int × Int)) =>
  let l : List (Int × (Int × (Int × Int))) := ([((0 : Int), (rClockTrue1, ((IntKind.i64.wrap (rClockTrue3 - rNext2)), (IntKind.i64.wrap (rClockTrue3 + rNext3)))))] : List (Int × (Int × (Int × Int))));
  cond (decide ((List.length b6_ + List.length l) * 32 ≤ roomMax))
  (let l2 : List (Int × (Int × (Int × Int))) := (b6_ ++ l);
  let i_2 : Int := (IntKind.i64.wrap (i_ - (1 : Int)));
  rec n i_2 mrNext3.1 mrNext3.2 mrClockTrue1 mrClockTrue12 mrClockTrue32 b5_ l2 b7_ b8_)
  none))))))
  (k1 n b1_ b2_ b3_ b5_ b6_ b7_ b8_)
def law38_ClockTrue_p3_l {β : Type} : Nat → law38_ClockTrue_p3_K1 β → Int → Int → (List Int) → Int → Int → Int → Int → (List (List UInt8 × Int)) → (List (Int × (Int × (Int × Int)))) → (List api_Event) → (List (Int × (Int × Int))) → Option β
  | 0 => fun _ _ _ _ _ _ _ _ _ _ _ _ => none
  | i + 1 => fun k1 n i_ d d2 b1_ b2_ b3_ b5_ b6_ b7_ b8_ => law38_ClockTrue_p3_s c_law38_ClockTrue_f1 c_law38_ClockTrue_f3 c_made_Dice_Next (law38_ClockTrue_p3_l i k1) k1 n i_ d d2 b1_ b2_ b3_ b5_ b6_ b7_ b8_
theorem law38_ClockTrue_p3_ok' (hΓ : ΓOk Try.prog (law38_ClockTrue_X c_clock_When c_law38_ClockTrue_f1 c_law38_ClockTrue_f2 c_law38_ClockTrue_f3 c_law38_sane c_made_Dice_Next c_made_Dice_One c_made_Light c_made_Roll).Γ) (i : Nat) : PieceOk Try.prog 102 0 law38_ClockTrue_p3_code law38_ClockTrue_p3_v law38_ClockTrue_p3_o (law38_ClockTrue_p3_G (law38_ClockTrue_p3_l c_law38_ClockTrue_f1 c_law38_ClockTrue_f3 c_made_Dice_Next i)) := by
  rw [show law38_ClockTrue_p3_code = .loop (loopBody law38_ClockTrue_p3_code) by kernel_rfl]
  exact piece_loop (X := (law38_ClockTrue_X c_clock_When c_law38_ClockTrue_f1 c_law38_ClockTrue_f2 c_law38_ClockTrue_f3 c_law38_sane c_made_Dice_Next c_made_Dice_One c_made_Light c_made_Roll)) (p := 1) (Λ := pick1 []) (G := fun i => @fun β d ks => law38_ClockTrue_p3_G (law38_ClockTrue_p3_l c_law38_ClockTrue_f1 c_law38_ClockTrue_f3 c_made_Dice_Next i) d ks) mixed tab_ok hΓ rfl (by kernel_rfl) CutsOk_nil (fun _ _ => rfl) (fun i => @fun β d ks r h => Eq.trans (b := law38_ClockTrue_p3_G (law38_ClockTrue_p3_l c_law38_ClockTrue_f1 c_law38_ClockTrue_f3 c_made_Dice_Next (i + 1)) d ks) (by kernel_rfl) h) i
def law38_ClockTrue_p4_s (p3 : law38_ClockTrue_p3_T) {β : Type} (k1 : law38_ClockTrue_p4_K1 β) (n : Int) (drift : Int) (d : List Int) (d2 : Int) (start : Int) (b2_ : Int) (step : Int) : Option β :=
  let l : List (List UInt8 × Int) := ([(([104] : List UInt8), drift)] : List (List UInt8 × Int));
  c_made_Dice_Next (4 : Int) (d, d2) (fun (rNext : Int) (mrNext : (List Int × Int)) =>
  p3 (fun (n2 : Int) (b0_ : Int) (b1_ : Int) (b2_2 : Int) (b4_ : List (List UInt8 × Int)) (b5_ : List (Int × (Int × (Int × Int)))) (b6_ : List api_Event) (b7_ : List (Int × (Int × Int))) =>
  cond (!decide ((300 : Int) = 0))
  (c_law38_ClockTrue_f3 (Int.tmod (IntKind.i64.wrap n2) (300 : Int)) b0_ b2_2 (fun (rClockTrue3 : Int) (mrClockTrue3 : Int) (mrClockTrue32 : Int) =>
  c_law38_ClockTrue_f1 rClockTrue3 mrClockTrue3 b1_ (fun (rClockTrue1 : Int) (mrClockTrue1 : Int) (mrClockTrue12 : Int) =>
  c_clock_When (b4_, (b5_, (b6_, b7_))) (0 : Int) rClockTrue1 (fun (rWhen : (Int × Int)) (rWhen2 : Bool) =>
  cond rWhen2
  (cond (decide (rWhen.1 ≤ rClockTrue3))
  (cond (decide (rClockTrue3 ≤ rWhen.2))
  (c_law38_sane  (fun (rsane : Bool) =>
  k1 rsane))
  (k1 false))
  (k1 false))
  (k1 false)))))
  none) n rNext mrNext.1 mrNext.2 start b2_ step l ([] : List (Int × (Int × (Int × Int)))) ([] : List api_Event) ([] : List (Int × (Int × Int))))
def law38_ClockTrue_p4_u (p3 : law38_ClockTrue_p3_T) {β : Type} (k1 : law38_ClockTrue_p4_K1 β) (n : Int) (drift : Int) (d : List Int) (d2 : Int) (start : Int) (b2_ : Int) (step : Int) : Option β := law38_ClockTrue_p4_s c_clock_When c_law38_ClockTrue_f1 c_law38_ClockTrue_f3 c_law38_sane c_made_Dice_Next p3 k1 n drift d d2 start b2_ step
theorem law38_ClockTrue_p4_ok' (hΓ : ΓOk Try.prog (law38_ClockTrue_X c_clock_When c_law38_ClockTrue_f1 c_law38_ClockTrue_f2 c_law38_ClockTrue_f3 c_law38_sane c_made_Dice_Next c_made_Dice_One c_made_Light c_made_Roll).Γ) (p3 : law38_ClockTrue_p3_T) (hp3 : PieceOk Try.prog 102 0 law38_ClockTrue_p3_code law38_ClockTrue_p3_v law38_ClockTrue_p3_o (law38_ClockTrue_p3_G p3)) : PieceOk Try.prog 102 0 law38_ClockTrue_p4_code law38_ClockTrue_p4_v law38_ClockTrue_p4_o (law38_ClockTrue_p4_G (law38_ClockTrue_p4_u c_clock_When c_law38_ClockTrue_f1 c_law38_ClockTrue_f3 c_law38_sane c_made_Dice_Next p3)) :=
  piece_exec (X := (law38_ClockTrue_X c_clock_When c_law38_ClockTrue_f1 c_law38_ClockTrue_f2 c_law38_ClockTrue_f3 c_law38_sane c_made_Dice_Next c_made_Dice_One c_made_Light c_made_Roll)) (p := 2047) (Λ := pick1 [(65530, pieceCut law38_ClockTrue_p3_v law38_ClockTrue_p3_o (law38_ClockTrue_p3_G p3))]) mixed tab_ok hΓ (by kernel_rfl) (CutsOk_cons (q := 65530) (c' := law38_ClockTrue_p3_code) (by kernel_rfl) rfl hp3 CutsOk_nil) (fun d ks r h => Eq.trans (b := law38_ClockTrue_p4_G (law38_ClockTrue_p4_u c_clock_When c_law38_ClockTrue_f1 c_law38_ClockTrue_f3 c_law38_sane c_made_Dice_Next p3) d ks) (by kernel_rfl) h)
def law38_ClockTrue_s (p2 : law38_ClockTrue_p2_T) (p4 : law38_ClockTrue_p4_T) {β : Type} (t : List Int) (n : Int) (k : (Bool → Option β)) : Option β :=
  c_made_Light t (fun (rLight : Bool) =>
  cond (!rLight)
  (c_law38_sane  (fun (rsane : Bool) =>
  k rsane))
  (c_made_Roll t (fun (mrRoll : (List Int × Int)) =>
  let l : List Int := ([(0 : Int), (100 : Int), (50000 : Int), (500000 : Int)] : List Int);
  c_made_Dice_One l mrRoll (fun (rOne : Int) (mrOne : (List Int × Int)) =>
  c_made_Dice_Next (IntKind.i64.wrap ((IntKind.i64.wrap ((2 : Int) * rOne)) + (1 : Int))) mrOne (fun (rNext : Int) (mrNext : (List Int × Int)) =>
  cond (!decide ((IntKind.i64.wrap ((IntKind.i64.wrap ((1000000 : Int) - rOne)) + rNext)) = (1000000 : Int)))
  (cond (!decide ((IntKind.i64.wrap ((IntKind.i64.wrap ((1000000 : Int) - rOne)) + rNext)) = (1000000 : Int)))
  (p2 (fun (t4 : Bool) =>
  k t4) n rOne mrNext.1 mrNext.2 (864000 : Int) (IntKind.i64.wrap ((IntKind.i64.wrap ((1000000 : Int) - rOne)) + rNext)) (1000000 : Int))
  (p2 (fun (t4 : Bool) =>
  k t4) n rOne mrNext.1 mrNext.2 (864000 : Int) (IntKind.i64.wrap ((IntKind.i64.wrap ((1000000 : Int) - rOne)) + rNext)) (1 : Int)))
  (cond (!decide ((IntKind.i64.wrap ((IntKind.i64.wrap ((1000000 : Int) - rOne)) + rNext)) = (1000000 : Int)))
  (p4 (fun (t4 : Bool) =>
  k t4) n rOne mrNext.1 mrNext.2 (864000 : Int) (IntKind.i64.wrap ((IntKind.i64.wrap ((1000000 : Int) - rOne)) + rNext)) (1000000 : Int))
  (p4 (fun (t4 : Bool) =>
  k t4) n rOne mrNext.1 mrNext.2 (864000 : Int) (IntKind.i64.wrap ((IntKind.i64.wrap ((1000000 : Int) - rOne)) + rNext)) (1 : Int))))))))
theorem law38_ClockTrue_ok' (hΓ : ΓOk Try.prog (law38_ClockTrue_X c_clock_When c_law38_ClockTrue_f1 c_law38_ClockTrue_f2 c_law38_ClockTrue_f3 c_law38_sane c_made_Dice_Next c_made_Dice_One c_made_Light c_made_Roll).Γ) (p2 : law38_ClockTrue_p2_T) (p4 : law38_ClockTrue_p4_T) (hp2 : PieceOk Try.prog 102 0 law38_ClockTrue_p2_code law38_ClockTrue_p2_v law38_ClockTrue_p2_o (law38_ClockTrue_p2_G p2)) (hp4 : PieceOk Try.prog 102 0 law38_ClockTrue_p4_code law38_ClockTrue_p4_v law38_ClockTrue_p4_o (law38_ClockTrue_p4_G p4)) : SpecOk Try.prog 4 (law38_ClockTrue_S (law38_ClockTrue_s c_law38_sane c_made_Dice_Next c_made_Dice_One c_made_Light c_made_Roll p2 p4)) :=
  spec_exec (X := (law38_ClockTrue_X c_clock_When c_law38_ClockTrue_f1 c_law38_ClockTrue_f2 c_law38_ClockTrue_f3 c_law38_sane c_made_Dice_Next c_made_Dice_One c_made_Light c_made_Roll)) (Λ := pick1 [(2047, altCut law38_ClockTrue_p2_v law38_ClockTrue_p2_o (law38_ClockTrue_p2_G p2) (pieceCut law38_ClockTrue_p4_v law38_ClockTrue_p4_o (law38_ClockTrue_p4_G p4)))]) (rs := [.tmp 4]) (c := bodyOf Try.f4) mixed tab_ok hΓ Try.func4 (by kernel_rfl) (by kernel_rfl) (by kernel_rfl) (by kernel_rfl) (CutsOk_two (q := 2047) (c' := law38_ClockTrue_p2_code) (by kernel_rfl) rfl hp2 rfl hp4 CutsOk_nil) (fun x k r h => Eq.trans (b := (law38_ClockTrue_S (law38_ClockTrue_s c_law38_sane c_made_Dice_Next c_made_Dice_One c_made_Light c_made_Roll p2 p4)).run x k) (by kernel_rfl) h)
end
theorem law38_ClockTrue_Γ : ΓOk Try.prog (pick1 [(25, clock_When_S clock_When), (22, law38_ClockTrue_f1_S law38_ClockTrue_f1), (23, law38_ClockTrue_f2_S law38_ClockTrue_f2), (24, law38_ClockTrue_f3_S law38_ClockTrue_f3), (17, law38_sane_S law38_sane), (21, made_Dice_Next_S made_Dice_Next), (20, made_Dice_One_S made_Dice_One), (18, made_Light_S made_Light), (19, made_Roll_S made_Roll)]) := (ΓOk_cons clock_When_ok (ΓOk_cons law38_ClockTrue_f1_ok (ΓOk_cons law38_ClockTrue_f2_ok (ΓOk_cons law38_ClockTrue_f3_ok (ΓOk_cons law38_sane_ok (ΓOk_cons made_Dice_Next_ok (ΓOk_cons made_Dice_One_ok (ΓOk_cons made_Light_ok (ΓOk_cons made_Roll_ok ΓOk_nil)))))))))
def law38_ClockTrue_p1_n (m : Nat) : law38_ClockTrue_p1_T := law38_ClockTrue_p1_l law38_ClockTrue_f2 law38_ClockTrue_f3 made_Dice_Next m
theorem law38_ClockTrue_p1_step {β : Type} (i : Nat) (k1 n i_ d d2 b1_ b2_ b3_ b5_ b6_ b7_ b8_) : (law38_ClockTrue_p1_n (i + 1) k1 n i_ d d2 b1_ b2_ b3_ b5_ b6_ b7_ b8_ : Option β) = law38_ClockTrue_p1_s law38_ClockTrue_f2 law38_ClockTrue_f3 made_Dice_Next (law38_ClockTrue_p1_n i k1) k1 n i_ d d2 b1_ b2_ b3_ b5_ b6_ b7_ b8_ := rfl
def law38_ClockTrue_p1 : law38_ClockTrue_p1_T := law38_ClockTrue_p1_n fuel
theorem law38_ClockTrue_p1_ok : PieceOk Try.prog 102 0 law38_ClockTrue_p1_code law38_ClockTrue_p1_v law38_ClockTrue_p1_o (law38_ClockTrue_p1_G law38_ClockTrue_p1) := law38_ClockTrue_p1_ok' clock_When law38_ClockTrue_f1 law38_ClockTrue_f2 law38_ClockTrue_f3 law38_sane made_Dice_Next made_Dice_One made_Light made_Roll law38_ClockTrue_Γ fuel
def law38_ClockTrue_p2 : law38_ClockTrue_p2_T := law38_ClockTrue_p2_u clock_When law38_ClockTrue_f2 law38_ClockTrue_f3 law38_sane made_Dice_Next law38_ClockTrue_p1
theorem law38_ClockTrue_p2_ok : PieceOk Try.prog 102 0 law38_ClockTrue_p2_code law38_ClockTrue_p2_v law38_ClockTrue_p2_o (law38_ClockTrue_p2_G law38_ClockTrue_p2) := law38_ClockTrue_p2_ok' clock_When law38_ClockTrue_f1 law38_ClockTrue_f2 law38_ClockTrue_f3 law38_sane made_Dice_Next made_Dice_One made_Light made_Roll law38_ClockTrue_Γ law38_ClockTrue_p1 law38_ClockTrue_p1_ok
def law38_ClockTrue_p3_n (m : Nat) : law38_ClockTrue_p3_T := law38_ClockTrue_p3_l law38_ClockTrue_f1 law38_ClockTrue_f3 made_Dice_Next m
theorem law38_ClockTrue_p3_step {β : Type} (i : Nat) (k1 n i_ d d2 b1_ b2_ b3_ b5_ b6_ b7_ b8_) : (law38_ClockTrue_p3_n (i + 1) k1 n i_ d d2 b1_ b2_ b3_ b5_ b6_ b7_ b8_ : Option β) = law38_ClockTrue_p3_s law38_ClockTrue_f1 law38_ClockTrue_f3 made_Dice_Next (law38_ClockTrue_p3_n i k1) k1 n i_ d d2 b1_ b2_ b3_ b5_ b6_ b7_ b8_ := rfl
def law38_ClockTrue_p3 : law38_ClockTrue_p3_T := law38_ClockTrue_p3_n fuel
theorem law38_ClockTrue_p3_ok : PieceOk Try.prog 102 0 law38_ClockTrue_p3_code law38_ClockTrue_p3_v law38_ClockTrue_p3_o (law38_ClockTrue_p3_G law38_ClockTrue_p3) := law38_ClockTrue_p3_ok' clock_When law38_ClockTrue_f1 law38_ClockTrue_f2 law38_ClockTrue_f3 law38_sane made_Dice_Next made_Dice_One made_Light made_Roll law38_ClockTrue_Γ fuel
def law38_ClockTrue_p4 : law38_ClockTrue_p4_T := law38_ClockTrue_p4_u clock_When law38_ClockTrue_f1 law38_ClockTrue_f3 law38_sane made_Dice_Next law38_ClockTrue_p3
theorem law38_ClockTrue_p4_ok : PieceOk Try.prog 102 0 law38_ClockTrue_p4_code law38_ClockTrue_p4_v law38_ClockTrue_p4_o (law38_ClockTrue_p4_G law38_ClockTrue_p4) := law38_ClockTrue_p4_ok' clock_When law38_ClockTrue_f1 law38_ClockTrue_f2 law38_ClockTrue_f3 law38_sane made_Dice_Next made_Dice_One made_Light made_Roll law38_ClockTrue_Γ law38_ClockTrue_p3 law38_ClockTrue_p3_ok
def law38_ClockTrue : T_law38_ClockTrue := law38_ClockTrue_s law38_sane made_Dice_Next made_Dice_One made_Light made_Roll law38_ClockTrue_p2 law38_ClockTrue_p4
theorem law38_ClockTrue_ok : SpecOk Try.prog 4 (law38_ClockTrue_S law38_ClockTrue) := law38_ClockTrue_ok' clock_When law38_ClockTrue_f1 law38_ClockTrue_f2 law38_ClockTrue_f3 law38_sane made_Dice_Next made_Dice_One made_Light made_Roll law38_ClockTrue_Γ law38_ClockTrue_p2 law38_ClockTrue_p4 law38_ClockTrue_p2_ok law38_ClockTrue_p4_ok

/-- pagewatch/pagewatchlaw38.ClockMoves -/
abbrev T_law38_ClockMoves := {β : Type} → (List Int) → Int → (Bool → Option β) → Option β
def law38_ClockMoves_S (c : T_law38_ClockMoves) : Spec :=
  ⟨[(false, [.data (.slice (.int .i64))]), (false, [.data (.int .u16)])], [], [(false, [.data .bool])], [], fun x k => c x.1.1.1 x.1.2.1.1 (fun r0 => k (((r0, ()), ()), ()))⟩
noncomputable def law38_ClockMoves_p1_code : Code := codeAt 2042 (bodyOf Try.f5)
abbrev law38_ClockMoves_p1_K1 (β : Type) := Bool → Option β
abbrev law38_ClockMoves_p1_K2 (β : Type) := Int → Int → (List (List UInt8 × Int)) → (List (Int × (Int × (Int × Int)))) → (List api_Event) → (List (Int × (Int × Int))) → (List (List UInt8 × Int)) → (List (Int × (Int × (Int × Int)))) → (List api_Event) → (List (Int × (Int × Int))) → Option β
abbrev law38_ClockMoves_p1_T := {β : Type} → law38_ClockMoves_p1_K1 β → law38_ClockMoves_p1_K2 β → Int → Int → (List (Int × (Int × (Int × Int)))) → Int → Int → (List (List UInt8 × Int)) → (List (Int × (Int × (Int × Int)))) → (List api_Event) → (List (Int × (Int × Int))) → (List (List UInt8 × Int)) → (List (Int × (Int × (Int × Int)))) → (List api_Event) → (List (Int × (Int × Int))) → Option β
def law38_ClockMoves_p1_v : View := ⟨0, [6, 8, 9, 10, 38, 39, 40], [(false, [.ptr 0 0]), (false, [.data (.int .i64)]), (false, [.data (.int .i64)]), (false, [.ptr 1 0]), (false, [.data (.slice (.prod (.int .i64) (.prod (.int .i64) (.prod (.int .i64) (.int .i64)))))]), (false, [.data (.int .i64)]), (false, [.data (.int .i64)])], [.cells 41 [.data (.slice (.prod .str (.int .i64))), .data (.slice (.prod (.int .i64) (.prod (.int .i64) (.prod (.int .i64) (.int .i64))))), .data (.slice y_api_Event), .data (.slice (.prod (.int .i64) (.prod (.int .i64) (.int .i64))))], .cells 41 [.data (.slice (.prod .str (.int .i64))), .rowh 2, .rowh 3, .rowh 4], .row 43 (.prod (.int .i64) (.prod (.int .i64) (.prod (.int .i64) (.int .i64)))), .row 65 y_api_Event, .row 67 (.prod (.int .i64) (.prod (.int .i64) (.int .i64)))]⟩
def law38_ClockMoves_p1_o : List (AExit × View) := [(.ret, ⟨0, [4], [(false, [.data .bool])], []⟩), (.exit 0, ⟨0, [6, 8, 9, 10], [(false, [.ptr 0 0]), (false, [.data (.int .i64)]), (false, [.data (.int .i64)]), (false, [.ptr 1 0])], [.cells 41 [.data (.slice (.prod .str (.int .i64))), .data (.slice (.prod (.int .i64) (.prod (.int .i64) (.prod (.int .i64) (.int .i64))))), .data (.slice y_api_Event), .data (.slice (.prod (.int .i64) (.prod (.int .i64) (.int .i64))))], .cells 41 [.data (.slice (.prod .str (.int .i64))), .rowh 2, .rowh 3, .rowh 4], .row 43 (.prod (.int .i64) (.prod (.int .i64) (.prod (.int .i64) (.int .i64)))), .row 65 y_api_Event, .row 67 (.prod (.int .i64) (.prod (.int .i64) (.int .i64)))]⟩)]
@[reducible] def law38_ClockMoves_p1_G (p : law38_ClockMoves_p1_T) {β : Type} (d : law38_ClockMoves_p1_v.den) (ks : Outs.K β law38_ClockMoves_p1_o) : Option β :=
  p (fun a0 => ks.1 (((a0, ()), ()), ())) (fun a0 a1 a2 a3 a4 a5 a6 a7 a8 a9 => ks.2.1 (((), (a0, ()), (a1, ()), (), ()), ((a2, a3, a4, a5, ()), (a6, ()), a7, a8, a9, ()))) d.1.2.1.1 d.1.2.2.1.1 d.1.2.2.2.2.1.1 d.1.2.2.2.2.2.1.1 d.1.2.2.2.2.2.2.1.1 d.2.1.1 d.2.1.2.1 d.2.1.2.2.1 d.2.1.2.2.2.1 d.2.2.1.1 d.2.2.2.1 d.2.2.2.2.1 d.2.2.2.2.2.1
section
variable (c_clock_From : T_clock_From) (c_clock_Shift : T_clock_Shift) (c_clock_When : T_clock_When) (c_law38_sane : T_law38_sane) (c_made_Dice_Next : T_made_Dice_Next) (c_made_Dice_Record : T_made_Dice_Record) (c_made_Light : T_made_Light) (c_made_Roll : T_made_Roll)
@[reducible] def law38_ClockMoves_X : Ctx := ⟨look tab, pick1 [(27, clock_From_S c_clock_From), (28, clock_Shift_S c_clock_Shift), (25, clock_When_S c_clock_When), (17, law38_sane_S c_law38_sane), (21, made_Dice_Next_S c_made_Dice_Next), (26, made_Dice_Record_S c_made_Dice_Record), (18, made_Light_S c_made_Light), (19, made_Roll_S c_made_Roll)]⟩
def law38_ClockMoves_p1_s {β : Type} (rec : Int → Int → (List (Int × (Int × (Int × Int)))) → Int → Int → (List (List UInt8 × Int)) → (List (Int × (Int × (Int × Int)))) → (List api_Event) → (List (Int × (Int × Int))) → (List (List UInt8 × Int)) → (List (Int × (Int × (Int × Int)))) → (List api_Event) → (List (Int × (Int × Int))) → Option β) (k1 : law38_ClockMoves_p1_K1 β) (k2 : law38_ClockMoves_p1_K2 β) (by_ : Int) (c : Int) (t38 : List (Int × (Int × (Int × Int)))) (t39 : Int) (t40 : Int) (r : List (List UInt8 × Int)) (r2 : List (Int × (Int × (Int × Int)))) (r3 : List api_Event) (r4 : List (Int × (Int × Int))) (moved : List (List UInt8 × Int)) (b2_ : List (Int × (Int × (Int × Int)))) (b3_ : List api_Event) (b4_ : List (Int × (Int × Int))) : Option β :=
  cond (decide (t40 < t39))
  (cond (decide (0 ≤ t40) && decide (t40 < (List.length t38 : Int)))
  (let e : (Int × (Int × (Int × Int))) := List.getD t38 (Int.toNat t40) ((0 : Int), ((0 : Int), ((0 : Int), (0 : Int))));
  cond (decide (0 ≤ e.1) && decide (e.1 < (List.length r : Int)))
  (let e2 : (List UInt8 × Int) := List.getD r (Int.toNat e.1) (([] : List UInt8), (0 : Int));
  c_clock_From e2 e e.2.1 (fun (rFrom : (Int × Int)) =>
  cond (!(decide (rFrom.1 = e.2.2.1) && (decide (rFrom.2 = e.2.2.2) && true)))
  (k1 false)
  (cond (decide (e.1 = (0 : Int)))
  (let l : List (Int × (Int × (Int × Int))) := ([((0 : Int), (e.2.1, ((IntKind.i64.wrap (e.2.2.1 + by_)), (IntKind.i64.wrap (e.2.2.2 + by_)))))] : List (Int × (Int × (Int × Int))));
  cond (decide ((List.length b2_ + List.length l) * 32 ≤ roomMax))
  (let l2 : List (Int × (Int × (Int × Int))) := (b2_ ++ l);
  rec by_ c t38 t39 (IntKind.i64.wrap (t40 + (1 : Int))) r r2 r3 r4 moved l2 b3_ b4_)
  none)
  (rec by_ c t38 t39 (IntKind.i64.wrap (t40 + (1 : Int))) r r2 r3 r4 moved b2_ b3_ b4_))))
  none)
  none)
  (k2 by_ c r r2 r3 r4 moved b2_ b3_ b4_)
def law38_ClockMoves_p1_l {β : Type} : Nat → law38_ClockMoves_p1_K1 β → law38_ClockMoves_p1_K2 β → Int → Int → (List (Int × (Int × (Int × Int)))) → Int → Int → (List (List UInt8 × Int)) → (List (Int × (Int × (Int × Int)))) → (List api_Event) → (List (Int × (Int × Int))) → (List (List UInt8 × Int)) → (List (Int × (Int × (Int × Int)))) → (List api_Event) → (List (Int × (Int × Int))) → Option β
  | 0 => fun _ _ _ _ _ _ _ _ _ _ _ _ _ _ _ => none
  | i + 1 => fun k1 k2 by_ c t38 t39 t40 r r2 r3 r4 moved b2_ b3_ b4_ => law38_ClockMoves_p1_s c_clock_From (law38_ClockMoves_p1_l i k1 k2) k1 k2 by_ c t38 t39 t40 r r2 r3 r4 moved b2_ b3_ b4_
theorem law38_ClockMoves_p1_ok' (hΓ : ΓOk Try.prog (law38_ClockMoves_X c_clock_From c_clock_Shift c_clock_When c_law38_sane c_made_Dice_Next c_made_Dice_Record c_made_Light c_made_Roll).Γ) (i : Nat) : PieceOk Try.prog 122 0 law38_ClockMoves_p1_code law38_ClockMoves_p1_v law38_ClockMoves_p1_o (law38_ClockMoves_p1_G (law38_ClockMoves_p1_l c_clock_From i)) := by
  rw [show law38_ClockMoves_p1_code = .loop (loopBody law38_ClockMoves_p1_code) by kernel_rfl]
  exact piece_loop (X := (law38_ClockMoves_X c_clock_From c_clock_Shift c_clock_When c_law38_sane c_made_Dice_Next c_made_Dice_Record c_made_Light c_made_Roll)) (p := 1) (Λ := pick1 []) (G := fun i => @fun β d ks => law38_ClockMoves_p1_G (law38_ClockMoves_p1_l c_clock_From i) d ks) mixed tab_ok hΓ rfl (by kernel_rfl) CutsOk_nil (fun _ _ => rfl) (fun i => @fun β d ks r h => Eq.trans (b := law38_ClockMoves_p1_G (law38_ClockMoves_p1_l c_clock_From (i + 1)) d ks) (by kernel_rfl) h) i
def law38_ClockMoves_s (p1 : law38_ClockMoves_p1_T) {β : Type} (t : List Int) (n : Int) (k : (Bool → Option β)) : Option β :=
  c_made_Light t (fun (rLight : Bool) =>
  cond (!rLight)
  (c_law38_sane  (fun (rsane : Bool) =>
  k rsane))
  (c_made_Roll t (fun (mrRoll : (List Int × Int)) =>
  c_made_Dice_Record (2 : Int) mrRoll (fun (rRecord : api_Record) (mrRecord : (List Int × Int)) (lrRecord : List Int) =>
  c_made_Dice_Next (400 : Int) mrRecord (fun (rNext : Int) (mrNext : (List Int × Int)) =>
  let c : Int := (IntKind.i64.wrap ((864000 : Int) + rNext));
  p1 (fun (t4 : Bool) =>
  k t4) (fun (by_ : Int) (c2 : Int) (r : List (List UInt8 × Int)) (r2 : List (Int × (Int × (Int × Int)))) (r3 : List api_Event) (r4 : List (Int × (Int × Int))) (moved : List (List UInt8 × Int)) (b2_ : List (Int × (Int × (Int × Int)))) (b3_ : List api_Event) (b4_ : List (Int × (Int × Int))) =>
  c_clock_When (r, (r2, (r3, r4))) (0 : Int) c2 (fun (rWhen : (Int × Int)) (rWhen2 : Bool) =>
  c_clock_When (moved, (b2_, (b3_, b4_))) (0 : Int) c2 (fun (rWhen3 : (Int × Int)) (rWhen4 : Bool) =>
  cond (!rWhen2)
  (k false)
  (cond (!rWhen4)
  (k false)
  (cond (decide ((List.length b2_ : Int) = (0 : Int)))
  (cond (decide (rWhen.1 = rWhen3.1) && (decide (rWhen.2 = rWhen3.2) && true))
  (cond (decide (rWhen.1 = (0 : Int)) && (decide (rWhen.2 = (8589934592 : Int)) && true))
  (c_law38_sane  (fun (rsane : Bool) =>
  k rsane))
  (k false))
  (k false))
  (c_clock_Shift rWhen by_ (fun (rShift : (Int × Int)) =>
  cond (decide (rWhen3.1 = rShift.1) && (decide (rWhen3.2 = rShift.2) && true))
  (c_law38_sane  (fun (rsane : Bool) =>
  k rsane))
  (k false)))))))) (IntKind.i64.wrap n) c rRecord.2.1 (List.length rRecord.2.1 : Int) (0 : Int) rRecord.1 rRecord.2.1 rRecord.2.2.1 rRecord.2.2.2 rRecord.1 ([] : List (Int × (Int × (Int × Int)))) ([] : List api_Event) ([] : List (Int × (Int × Int))))))))
theorem law38_ClockMoves_ok' (hΓ : ΓOk Try.prog (law38_ClockMoves_X c_clock_From c_clock_Shift c_clock_When c_law38_sane c_made_Dice_Next c_made_Dice_Record c_made_Light c_made_Roll).Γ) (p1 : law38_ClockMoves_p1_T) (hp1 : PieceOk Try.prog 122 0 law38_ClockMoves_p1_code law38_ClockMoves_p1_v law38_ClockMoves_p1_o (law38_ClockMoves_p1_G p1)) : SpecOk Try.prog 5 (law38_ClockMoves_S (law38_ClockMoves_s c_clock_Shift c_clock_When c_law38_sane c_made_Dice_Next c_made_Dice_Record c_made_Light c_made_Roll p1)) :=
  spec_exec (X := (law38_ClockMoves_X c_clock_From c_clock_Shift c_clock_When c_law38_sane c_made_Dice_Next c_made_Dice_Record c_made_Light c_made_Roll)) (Λ := pick1 [(2042, pieceCut law38_ClockMoves_p1_v law38_ClockMoves_p1_o (law38_ClockMoves_p1_G p1))]) (rs := [.tmp 4]) (c := bodyOf Try.f5) mixed tab_ok hΓ Try.func5 (by kernel_rfl) (by kernel_rfl) (by kernel_rfl) (by kernel_rfl) (CutsOk_cons (q := 2042) (c' := law38_ClockMoves_p1_code) (by kernel_rfl) rfl hp1 CutsOk_nil) (fun x k r h => Eq.trans (b := (law38_ClockMoves_S (law38_ClockMoves_s c_clock_Shift c_clock_When c_law38_sane c_made_Dice_Next c_made_Dice_Record c_made_Light c_made_Roll p1)).run x k) (by kernel_rfl) h)
end
theorem law38_ClockMoves_Γ : ΓOk Try.prog (pick1 [(27, clock_From_S clock_From), (28, clock_Shift_S clock_Shift), (25, clock_When_S clock_When), (17, law38_sane_S law38_sane), (21, made_Dice_Next_S made_Dice_Next), (26, made_Dice_Record_S made_Dice_Record), (18, made_Light_S made_Light), (19, made_Roll_S made_Roll)]) := (ΓOk_cons clock_From_ok (ΓOk_cons clock_Shift_ok (ΓOk_cons clock_When_ok (ΓOk_cons law38_sane_ok (ΓOk_cons made_Dice_Next_ok (ΓOk_cons made_Dice_Record_ok (ΓOk_cons made_Light_ok (ΓOk_cons made_Roll_ok ΓOk_nil))))))))
def law38_ClockMoves_p1_n (m : Nat) : law38_ClockMoves_p1_T := law38_ClockMoves_p1_l clock_From m
theorem law38_ClockMoves_p1_step {β : Type} (i : Nat) (k1 k2 by_ c t38 t39 t40 r r2 r3 r4 moved b2_ b3_ b4_) : (law38_ClockMoves_p1_n (i + 1) k1 k2 by_ c t38 t39 t40 r r2 r3 r4 moved b2_ b3_ b4_ : Option β) = law38_ClockMoves_p1_s clock_From (law38_ClockMoves_p1_n i k1 k2) k1 k2 by_ c t38 t39 t40 r r2 r3 r4 moved b2_ b3_ b4_ := rfl
def law38_ClockMoves_p1 : law38_ClockMoves_p1_T := law38_ClockMoves_p1_n fuel
theorem law38_ClockMoves_p1_ok : PieceOk Try.prog 122 0 law38_ClockMoves_p1_code law38_ClockMoves_p1_v law38_ClockMoves_p1_o (law38_ClockMoves_p1_G law38_ClockMoves_p1) := law38_ClockMoves_p1_ok' clock_From clock_Shift clock_When law38_sane made_Dice_Next made_Dice_Record made_Light made_Roll law38_ClockMoves_Γ fuel
def law38_ClockMoves : T_law38_ClockMoves := law38_ClockMoves_s clock_Shift clock_When law38_sane made_Dice_Next made_Dice_Record made_Light made_Roll law38_ClockMoves_p1
theorem law38_ClockMoves_ok : SpecOk Try.prog 5 (law38_ClockMoves_S law38_ClockMoves) := law38_ClockMoves_ok' clock_From clock_Shift clock_When law38_sane made_Dice_Next made_Dice_Record made_Light made_Roll law38_ClockMoves_Γ law38_ClockMoves_p1 law38_ClockMoves_p1_ok

/-- pagewatch/pagewatchlaw38.ClockExact -/
abbrev T_law38_ClockExact := {β : Type} → (List Int) → api_Record → (List UInt8 × Int) → (Int × (Int × (Int × Int))) → (Int × Int) → (Int × Int) → Int → Int → (Bool → Option β) → Option β
def law38_ClockExact_S (c : T_law38_ClockExact) : Spec :=
  ⟨[(false, [.data (.slice (.int .i64))]), (true, [.data y_api_Record]), (true, [.data (.prod .str (.int .i64))]), (true, [.data (.prod (.int .i64) (.prod (.int .i64) (.prod (.int .i64) (.int .i64))))]), (true, [.data (.prod (.int .i64) (.int .i64))]), (true, [.data (.prod (.int .i64) (.int .i64))]), (false, [.data (.int .i64)]), (false, [.data (.int .i64)])], [], [(false, [.data .bool])], [], fun x k => c x.1.1.1 x.1.2.1.1 x.1.2.2.1.1 x.1.2.2.2.1.1 x.1.2.2.2.2.1.1 x.1.2.2.2.2.2.1.1 x.1.2.2.2.2.2.2.1.1 x.1.2.2.2.2.2.2.2.1.1 (fun r0 => k (((r0, ()), ()), ()))⟩
noncomputable def law38_ClockExact_p2_code : Code := codeAt 250 (bodyOf Try.f6)
noncomputable def law38_ClockExact_p3_code : Code := codeAt 1018 (bodyOf Try.f6)
noncomputable def law38_ClockExact_p1_code : Code := codeAt 462 (loopBody law38_ClockExact_p2_code)
abbrev law38_ClockExact_p1_K1 (β : Type) := Bool → Option β
abbrev law38_ClockExact_p1_K2 (β : Type) := Int → Int → Int → Int → (List UInt8) → Int → Int → Int → Int → Int → Int → Int → Int → Int → (List Int) → Int → (List api_Record) → Option β
abbrev law38_ClockExact_p1_T := {β : Type} → law38_ClockExact_p1_K1 β → law38_ClockExact_p1_K2 β → Int → Int → Int → Int → Int → Int → (List UInt8) → Int → Int → Int → Int → Int → Int → Int → Int → Int → (List Int) → Int → (List (List UInt8 × Int)) → (List (Int × (Int × (Int × Int)))) → (List api_Event) → (List (Int × (Int × Int))) → (List api_Record) → (List (Int × Int)) → Option β
def law38_ClockExact_p1_v : View := ⟨0, [6, 7, 10, 11, 12, 13, 17, 21, 75, 76, 77, 100, 101, 102], [(false, [.data (.int .i64)]), (false, [.data (.int .i64)]), (false, [.ptr 0 0]), (false, [.ptr 1 0]), (false, [.ptr 2 0]), (false, [.ptr 3 0]), (false, [.ptr 4 0]), (false, [.ptr 5 0]), (false, [.rowh 6]), (false, [.data (.int .i64)]), (false, [.data (.int .i64)]), (false, [.rowh 7]), (false, [.data (.int .i64)]), (false, [.data (.int .i64)])], [.cells 35 [.data .str, .data (.int .i64)], .cells 43 [.data (.int .i64), .data (.int .i64), .data (.int .i64), .data (.int .i64)], .cells 45 [.data (.int .i64), .data (.int .i64)], .cells 45 [.data (.int .i64), .data (.int .i64)], .cells 90 [.data (.slice (.int .i64)), .data (.int .i64)], .cells 41 [.data (.slice (.prod .str (.int .i64))), .data (.slice (.prod (.int .i64) (.prod (.int .i64) (.prod (.int .i64) (.int .i64))))), .data (.slice y_api_Event), .data (.slice (.prod (.int .i64) (.prod (.int .i64) (.int .i64))))], .row 41 y_api_Record, .row 56 (.prod (.int .i64) (.int .i64))]⟩
def law38_ClockExact_p1_o : List (AExit × View) := [(.ret, ⟨0, [16], [(false, [.data .bool])], []⟩), (.exit 2, ⟨0, [6, 7, 10, 11, 12, 13, 17, 75, 76, 77], [(false, [.data (.int .i64)]), (false, [.data (.int .i64)]), (false, [.ptr 0 0]), (false, [.ptr 1 0]), (false, [.ptr 2 0]), (false, [.ptr 3 0]), (false, [.ptr 4 0]), (false, [.rowh 5]), (false, [.data (.int .i64)]), (false, [.data (.int .i64)])], [.cells 35 [.data .str, .data (.int .i64)], .cells 43 [.data (.int .i64), .data (.int .i64), .data (.int .i64), .data (.int .i64)], .cells 45 [.data (.int .i64), .data (.int .i64)], .cells 45 [.data (.int .i64), .data (.int .i64)], .cells 90 [.data (.slice (.int .i64)), .data (.int .i64)], .row 41 y_api_Record]⟩)]
@[reducible] def law38_ClockExact_p1_G (p : law38_ClockExact_p1_T) {β : Type} (d : law38_ClockExact_p1_v.den) (ks : Outs.K β law38_ClockExact_p1_o) : Option β :=
  p (fun a0 => ks.1 (((a0, ()), ()), ())) (fun a0 a1 a2 a3 a4 a5 a6 a7 a8 a9 a10 a11 a12 a13 a14 a15 a16 => ks.2.1 (((a0, ()), (a1, ()), (), (), (), (), (), (), (a2, ()), (a3, ()), ()), ((a4, a5, ()), (a6, a7, a8, a9, ()), (a10, a11, ()), (a12, a13, ()), (a14, a15, ()), a16, ()))) d.1.1.1 d.1.2.1.1 d.1.2.2.2.2.2.2.2.2.2.1.1 d.1.2.2.2.2.2.2.2.2.2.2.1.1 d.1.2.2.2.2.2.2.2.2.2.2.2.2.1.1 d.1.2.2.2.2.2.2.2.2.2.2.2.2.2.1.1 d.2.1.1 d.2.1.2.1 d.2.2.1.1 d.2.2.1.2.1 d.2.2.1.2.2.1 d.2.2.1.2.2.2.1 d.2.2.2.1.1 d.2.2.2.1.2.1 d.2.2.2.2.1.1 d.2.2.2.2.1.2.1 d.2.2.2.2.2.1.1 d.2.2.2.2.2.1.2.1 d.2.2.2.2.2.2.1.1 d.2.2.2.2.2.2.1.2.1 d.2.2.2.2.2.2.1.2.2.1 d.2.2.2.2.2.2.1.2.2.2.1 d.2.2.2.2.2.2.2.1 d.2.2.2.2.2.2.2.2.1
abbrev law38_ClockExact_p2_K1 (β : Type) := Bool → Option β
abbrev law38_ClockExact_p2_K2 (β : Type) := Int → Int → (List UInt8) → Int → Int → Int → Int → Int → Int → Int → Int → Int → (List Int) → Int → Option β
abbrev law38_ClockExact_p2_T := {β : Type} → law38_ClockExact_p2_K1 β → law38_ClockExact_p2_K2 β → Int → Int → Int → Int → (List UInt8) → Int → Int → Int → Int → Int → Int → Int → Int → Int → (List Int) → Int → (List api_Record) → Option β
def law38_ClockExact_p2_v : View := ⟨0, [6, 7, 10, 11, 12, 13, 17, 75, 76, 77], [(false, [.data (.int .i64)]), (false, [.data (.int .i64)]), (false, [.ptr 0 0]), (false, [.ptr 1 0]), (false, [.ptr 2 0]), (false, [.ptr 3 0]), (false, [.ptr 4 0]), (false, [.rowh 5]), (false, [.data (.int .i64)]), (false, [.data (.int .i64)])], [.cells 35 [.data .str, .data (.int .i64)], .cells 43 [.data (.int .i64), .data (.int .i64), .data (.int .i64), .data (.int .i64)], .cells 45 [.data (.int .i64), .data (.int .i64)], .cells 45 [.data (.int .i64), .data (.int .i64)], .cells 90 [.data (.slice (.int .i64)), .data (.int .i64)], .row 41 y_api_Record]⟩
def law38_ClockExact_p2_o : List (AExit × View) := [(.ret, ⟨0, [16], [(false, [.data .bool])], []⟩), (.exit 0, ⟨0, [6, 7, 10, 11, 12, 13, 17], [(false, [.data (.int .i64)]), (false, [.data (.int .i64)]), (false, [.ptr 0 0]), (false, [.ptr 1 0]), (false, [.ptr 2 0]), (false, [.ptr 3 0]), (false, [.ptr 4 0])], [.cells 35 [.data .str, .data (.int .i64)], .cells 43 [.data (.int .i64), .data (.int .i64), .data (.int .i64), .data (.int .i64)], .cells 45 [.data (.int .i64), .data (.int .i64)], .cells 45 [.data (.int .i64), .data (.int .i64)], .cells 90 [.data (.slice (.int .i64)), .data (.int .i64)]]⟩)]
@[reducible] def law38_ClockExact_p2_G (p : law38_ClockExact_p2_T) {β : Type} (d : law38_ClockExact_p2_v.den) (ks : Outs.K β law38_ClockExact_p2_o) : Option β :=
  p (fun a0 => ks.1 (((a0, ()), ()), ())) (fun a0 a1 a2 a3 a4 a5 a6 a7 a8 a9 a10 a11 a12 a13 => ks.2.1 (((a0, ()), (a1, ()), (), (), (), (), (), ()), ((a2, a3, ()), (a4, a5, a6, a7, ()), (a8, a9, ()), (a10, a11, ()), (a12, a13, ()), ()))) d.1.1.1 d.1.2.1.1 d.1.2.2.2.2.2.2.2.2.1.1 d.1.2.2.2.2.2.2.2.2.2.1.1 d.2.1.1 d.2.1.2.1 d.2.2.1.1 d.2.2.1.2.1 d.2.2.1.2.2.1 d.2.2.1.2.2.2.1 d.2.2.2.1.1 d.2.2.2.1.2.1 d.2.2.2.2.1.1 d.2.2.2.2.1.2.1 d.2.2.2.2.2.1.1 d.2.2.2.2.2.1.2.1 d.2.2.2.2.2.2.1
abbrev law38_ClockExact_p3_K1 (β : Type) := Bool → Option β
abbrev law38_ClockExact_p3_K2 (β : Type) := Int → Int → (List UInt8) → Int → Int → Int → Int → Int → Int → Int → Int → Int → (List Int) → Int → Option β
abbrev law38_ClockExact_p3_T := {β : Type} → law38_ClockExact_p3_K1 β → law38_ClockExact_p3_K2 β → Int → Int → Int → Int → (List UInt8) → Int → Int → Int → Int → Int → Int → Int → Int → Int → (List Int) → Int → (List (Int × Int)) → Option β
def law38_ClockExact_p3_v : View := ⟨0, [6, 10, 11, 12, 13, 17, 28, 149, 150, 151], [(false, [.data (.int .i64)]), (false, [.ptr 0 0]), (false, [.ptr 1 0]), (false, [.ptr 2 0]), (false, [.ptr 3 0]), (false, [.ptr 4 0]), (false, [.data (.int .i64)]), (false, [.rowh 5]), (false, [.data (.int .i64)]), (false, [.data (.int .i64)])], [.cells 35 [.data .str, .data (.int .i64)], .cells 43 [.data (.int .i64), .data (.int .i64), .data (.int .i64), .data (.int .i64)], .cells 45 [.data (.int .i64), .data (.int .i64)], .cells 45 [.data (.int .i64), .data (.int .i64)], .cells 90 [.data (.slice (.int .i64)), .data (.int .i64)], .row 56 (.prod (.int .i64) (.int .i64))]⟩
def law38_ClockExact_p3_o : List (AExit × View) := [(.ret, ⟨0, [16], [(false, [.data .bool])], []⟩), (.exit 4, ⟨0, [6, 10, 11, 12, 13, 17, 28], [(false, [.data (.int .i64)]), (false, [.ptr 0 0]), (false, [.ptr 1 0]), (false, [.ptr 2 0]), (false, [.ptr 3 0]), (false, [.ptr 4 0]), (false, [.data (.int .i64)])], [.cells 35 [.data .str, .data (.int .i64)], .cells 43 [.data (.int .i64), .data (.int .i64), .data (.int .i64), .data (.int .i64)], .cells 45 [.data (.int .i64), .data (.int .i64)], .cells 45 [.data (.int .i64), .data (.int .i64)], .cells 90 [.data (.slice (.int .i64)), .data (.int .i64)]]⟩)]
@[reducible] def law38_ClockExact_p3_G (p : law38_ClockExact_p3_T) {β : Type} (d : law38_ClockExact_p3_v.den) (ks : Outs.K β law38_ClockExact_p3_o) : Option β :=
  p (fun a0 => ks.1 (((a0, ()), ()), ())) (fun a0 a1 a2 a3 a4 a5 a6 a7 a8 a9 a10 a11 a12 a13 => ks.2.1 (((a0, ()), (), (), (), (), (), (a1, ()), ()), ((a2, a3, ()), (a4, a5, a6, a7, ()), (a8, a9, ()), (a10, a11, ()), (a12, a13, ()), ()))) d.1.1.1 d.1.2.2.2.2.2.2.1.1 d.1.2.2.2.2.2.2.2.2.1.1 d.1.2.2.2.2.2.2.2.2.2.1.1 d.2.1.1 d.2.1.2.1 d.2.2.1.1 d.2.2.1.2.1 d.2.2.1.2.2.1 d.2.2.1.2.2.2.1 d.2.2.2.1.1 d.2.2.2.1.2.1 d.2.2.2.2.1.1 d.2.2.2.2.1.2.1 d.2.2.2.2.2.1.1 d.2.2.2.2.2.1.2.1 d.2.2.2.2.2.2.1
section
variable (c_clock_Elapsed : T_clock_Elapsed) (c_clock_Empty : T_clock_Empty) (c_clock_From : T_clock_From) (c_clock_Meet : T_clock_Meet) (c_clock_Shift : T_clock_Shift) (c_clock_Valid : T_clock_Valid) (c_clock_When : T_clock_When) (c_law38_sane : T_law38_sane) (c_made_Dice_Next : T_made_Dice_Next) (c_made_Dice_OddRecord : T_made_Dice_OddRecord) (c_made_Dice_One : T_made_Dice_One) (c_made_Dice_Record : T_made_Dice_Record) (c_made_Light : T_made_Light) (c_made_Roll : T_made_Roll) (c_ref38_Elapsed : T_ref38_Elapsed) (c_ref38_Empty : T_ref38_Empty) (c_ref38_From : T_ref38_From) (c_ref38_Meet : T_ref38_Meet) (c_ref38_Shift : T_ref38_Shift) (c_ref38_Valid : T_ref38_Valid) (c_ref38_When : T_ref38_When)
@[reducible] def law38_ClockExact_X : Ctx := ⟨look tab, pick1 [(16, clock_Elapsed_S c_clock_Elapsed), (37, clock_Empty_S c_clock_Empty), (27, clock_From_S c_clock_From), (35, clock_Meet_S c_clock_Meet), (28, clock_Shift_S c_clock_Shift), (30, clock_Valid_S c_clock_Valid), (25, clock_When_S c_clock_When), (17, law38_sane_S c_law38_sane), (21, made_Dice_Next_S c_made_Dice_Next), (29, made_Dice_OddRecord_S c_made_Dice_OddRecord), (20, made_Dice_One_S c_made_Dice_One), (26, made_Dice_Record_S c_made_Dice_Record), (18, made_Light_S c_made_Light), (19, made_Roll_S c_made_Roll), (33, ref38_Elapsed_S c_ref38_Elapsed), (38, ref38_Empty_S c_ref38_Empty), (34, ref38_From_S c_ref38_From), (36, ref38_Meet_S c_ref38_Meet), (39, ref38_Shift_S c_ref38_Shift), (31, ref38_Valid_S c_ref38_Valid), (32, ref38_When_S c_ref38_When)]⟩
def law38_ClockExact_p1_s {β : Type} (rec : Int → Int → Int → Int → Int → Int → (List UInt8) → Int → Int → Int → Int → Int → Int → Int → Int → Int → (List Int) → Int → (List (List UInt8 × Int)) → (List (Int × (Int × (Int × Int)))) → (List api_Event) → (List (Int × (Int × Int))) → (List api_Record) → (List (Int × Int)) → Option β) (k1 : law38_ClockExact_p1_K1 β) (k2 : law38_ClockExact_p1_K2 β) (n : Int) (m : Int) (t76 : Int) (t77 : Int) (t101 : Int) (t102 : Int) (h : List UInt8) (h2 : Int) (s : Int) (s2 : Int) (s3 : Int) (s4 : Int) (a : Int) (a2 : Int) (b : Int) (b2 : Int) (d : List Int) (d2 : Int) (x : List (List UInt8 × Int)) (x2 : List (Int × (Int × (Int × Int)))) (x3 : List api_Event) (x4 : List (Int × (Int × Int))) (t75 : List api_Record) (t100 : List (Int × Int)) : Option β :=
  cond (decide (t102 < t101))
  (cond (decide (0 ≤ t102) && decide (t102 < (List.length t100 : Int)))
  (c_clock_When (x, (x2, (x3, x4))) ((List.getD t100 (Int.toNat t102) ((0 : Int), (0 : Int))).1) ((List.getD t100 (Int.toNat t102) ((0 : Int), (0 : Int))).2) (fun (rWhen : (Int × Int)) (rWhen2 : Bool) =>
  c_ref38_When (x, (x2, (x3, x4))) ((List.getD t100 (Int.toNat t102) ((0 : Int), (0 : Int))).1) ((List.getD t100 (Int.toNat t102) ((0 : Int), (0 : Int))).2) (fun (rWhen3 : (Int × Int)) (rWhen4 : Bool) =>
  cond (!(decide (rWhen.1 = rWhen3.1) && (decide (rWhen.2 = rWhen3.2) && true)))
  (k1 false)
  (cond (!(rWhen2 == rWhen4))
  (k1 false)
  (rec n m t76 t77 t101 (IntKind.i64.wrap (t102 + (1 : Int))) h h2 s s2 s3 s4 a a2 b b2 d d2 x x2 x3 x4 t75 t100)))))
  none)
  (k2 n m t76 t77 h h2 s s2 s3 s4 a a2 b b2 d d2 t75)
def law38_ClockExact_p1_l {β : Type} : Nat → law38_ClockExact_p1_K1 β → law38_ClockExact_p1_K2 β → Int → Int → Int → Int → Int → Int → (List UInt8) → Int → Int → Int → Int → Int → Int → Int → Int → Int → (List Int) → Int → (List (List UInt8 × Int)) → (List (Int × (Int × (Int × Int)))) → (List api_Event) → (List (Int × (Int × Int))) → (List api_Record) → (List (Int × Int)) → Option β
  | 0 => fun _ _ _ _ _ _ _ _ _ _ _ _ _ _ _ _ _ _ _ _ _ _ _ _ _ _ => none
  | i + 1 => fun k1 k2 n m t76 t77 t101 t102 h h2 s s2 s3 s4 a a2 b b2 d d2 x x2 x3 x4 t75 t100 => law38_ClockExact_p1_s c_clock_When c_ref38_When (law38_ClockExact_p1_l i k1 k2) k1 k2 n m t76 t77 t101 t102 h h2 s s2 s3 s4 a a2 b b2 d d2 x x2 x3 x4 t75 t100
theorem law38_ClockExact_p1_ok' (hΓ : ΓOk Try.prog (law38_ClockExact_X c_clock_Elapsed c_clock_Empty c_clock_From c_clock_Meet c_clock_Shift c_clock_Valid c_clock_When c_law38_sane c_made_Dice_Next c_made_Dice_OddRecord c_made_Dice_One c_made_Dice_Record c_made_Light c_made_Roll c_ref38_Elapsed c_ref38_Empty c_ref38_From c_ref38_Meet c_ref38_Shift c_ref38_Valid c_ref38_When).Γ) (i : Nat) : PieceOk Try.prog 273 0 law38_ClockExact_p1_code law38_ClockExact_p1_v law38_ClockExact_p1_o (law38_ClockExact_p1_G (law38_ClockExact_p1_l c_clock_When c_ref38_When i)) := by
  rw [show law38_ClockExact_p1_code = .loop (loopBody law38_ClockExact_p1_code) by kernel_rfl]
  exact piece_loop (X := (law38_ClockExact_X c_clock_Elapsed c_clock_Empty c_clock_From c_clock_Meet c_clock_Shift c_clock_Valid c_clock_When c_law38_sane c_made_Dice_Next c_made_Dice_OddRecord c_made_Dice_One c_made_Dice_Record c_made_Light c_made_Roll c_ref38_Elapsed c_ref38_Empty c_ref38_From c_ref38_Meet c_ref38_Shift c_ref38_Valid c_ref38_When)) (p := 1) (Λ := pick1 []) (G := fun i => @fun β d ks => law38_ClockExact_p1_G (law38_ClockExact_p1_l c_clock_When c_ref38_When i) d ks) mixed tab_ok hΓ rfl (by kernel_rfl) CutsOk_nil (fun _ _ => rfl) (fun i => @fun β d ks r h => Eq.trans (b := law38_ClockExact_p1_G (law38_ClockExact_p1_l c_clock_When c_ref38_When (i + 1)) d ks) (by kernel_rfl) h) i
def law38_ClockExact_p2_s (p1 : law38_ClockExact_p1_T) {β : Type} (rec : Int → Int → Int → Int → (List UInt8) → Int → Int → Int → Int → Int → Int → Int → Int → Int → (List Int) → Int → (List api_Record) → Option β) (k1 : law38_ClockExact_p2_K1 β) (k2 : law38_ClockExact_p2_K2 β) (n : Int) (m : Int) (t76 : Int) (t77 : Int) (h : List UInt8) (h2 : Int) (s : Int) (s2 : Int) (s3 : Int) (s4 : Int) (a : Int) (a2 : Int) (b : Int) (b2 : Int) (d : List Int) (d2 : Int) (t75 : List api_Record) : Option β :=
  cond (decide (t77 < t76))
  (cond (decide (0 ≤ t77) && decide (t77 < (List.length t75 : Int)))
  (c_clock_Valid ((List.getD t75 (Int.toNat t77) (([] : List (List UInt8 × Int)), (([] : List (Int × (Int × (Int × Int)))), (([] : List api_Event), ([] : List (Int × (Int × Int))))))).1, (((List.getD t75 (Int.toNat t77) (([] : List (List UInt8 × Int)), (([] : List (Int × (Int × (Int × Int)))), (([] : List api_Event), ([] : List (Int × (Int × Int))))))).2).1, (((List.getD t75 (Int.toNat t77) (([] : List (List UInt8 × Int)), (([] : List (Int × (Int × (Int × Int)))), (([] : List api_Event), ([] : List (Int × (Int × Int))))))).2).2))) (fun (rValid : Bool) =>
  c_ref38_Valid ((List.getD t75 (Int.toNat t77) (([] : List (List UInt8 × Int)), (([] : List (Int × (Int × (Int × Int)))), (([] : List api_Event), ([] : List (Int × (Int × Int))))))).1, (((List.getD t75 (Int.toNat t77) (([] : List (List UInt8 × Int)), (([] : List (Int × (Int × (Int × Int)))), (([] : List api_Event), ([] : List (Int × (Int × Int))))))).2).1, (((List.getD t75 (Int.toNat t77) (([] : List (List UInt8 × Int)), (([] : List (Int × (Int × (Int × Int)))), (([] : List api_Event), ([] : List (Int × (Int × Int))))))).2).2))) (fun (rValid2 : Bool) =>
  cond (!(rValid == rValid2))
  (k1 false)
  (c_made_Dice_Next (4 : Int) (d, d2) (fun (rNext : Int) (mrNext : (List Int × Int)) =>
  c_made_Dice_Next (500 : Int) mrNext (fun (rNext2 : Int) (mrNext2 : (List Int × Int)) =>
  let l : List Int := ([(-1 : Int), (0 : Int), (8589934592 : Int), (8589934593 : Int)] : List Int);
  c_made_Dice_One l mrNext2 (fun (rOne : Int) (mrOne : (List Int × Int)) =>
  let l2 : List (Int × Int) := ([(n, m), ((IntKind.i64.wrap (rNext - (1 : Int))), (IntKind.i64.wrap ((864000 : Int) + rNext2))), ((0 : Int), rOne)] : List (Int × Int));
  p1 (fun (t16 : Bool) =>
  k1 t16) (fun (n2 : Int) (m2 : Int) (t762 : Int) (t772 : Int) (h3 : List UInt8) (h4 : Int) (s5 : Int) (s6 : Int) (s7 : Int) (s8 : Int) (a3 : Int) (a4 : Int) (b3 : Int) (b4 : Int) (d3 : List Int) (d4 : Int) (t752 : List api_Record) =>
  rec n2 m2 t762 (IntKind.i64.wrap (t772 + (1 : Int))) h3 h4 s5 s6 s7 s8 a3 a4 b3 b4 d3 d4 t752) n m t76 t77 (List.length l2 : Int) (0 : Int) h h2 s s2 s3 s4 a a2 b b2 mrOne.1 mrOne.2 ((List.getD t75 (Int.toNat t77) (([] : List (List UInt8 × Int)), (([] : List (Int × (Int × (Int × Int)))), (([] : List api_Event), ([] : List (Int × (Int × Int))))))).1) (((List.getD t75 (Int.toNat t77) (([] : List (List UInt8 × Int)), (([] : List (Int × (Int × (Int × Int)))), (([] : List api_Event), ([] : List (Int × (Int × Int))))))).2).1) ((((List.getD t75 (Int.toNat t77) (([] : List (List UInt8 × Int)), (([] : List (Int × (Int × (Int × Int)))), (([] : List api_Event), ([] : List (Int × (Int × Int))))))).2).2).1) ((((List.getD t75 (Int.toNat t77) (([] : List (List UInt8 × Int)), (([] : List (Int × (Int × (Int × Int)))), (([] : List api_Event), ([] : List (Int × (Int × Int))))))).2).2).2) t75 l2)))))))
  none)
  (k2 n m h h2 s s2 s3 s4 a a2 b b2 d d2)
def law38_ClockExact_p2_l (p1 : law38_ClockExact_p1_T) {β : Type} : Nat → law38_ClockExact_p2_K1 β → law38_ClockExact_p2_K2 β → Int → Int → Int → Int → (List UInt8) → Int → Int → Int → Int → Int → Int → Int → Int → Int → (List Int) → Int → (List api_Record) → Option β
  | 0 => fun _ _ _ _ _ _ _ _ _ _ _ _ _ _ _ _ _ _ _ => none
  | i + 1 => fun k1 k2 n m t76 t77 h h2 s s2 s3 s4 a a2 b b2 d d2 t75 => law38_ClockExact_p2_s c_clock_Valid c_made_Dice_Next c_made_Dice_One c_ref38_Valid p1 (law38_ClockExact_p2_l p1 i k1 k2) k1 k2 n m t76 t77 h h2 s s2 s3 s4 a a2 b b2 d d2 t75
theorem law38_ClockExact_p2_ok' (hΓ : ΓOk Try.prog (law38_ClockExact_X c_clock_Elapsed c_clock_Empty c_clock_From c_clock_Meet c_clock_Shift c_clock_Valid c_clock_When c_law38_sane c_made_Dice_Next c_made_Dice_OddRecord c_made_Dice_One c_made_Dice_Record c_made_Light c_made_Roll c_ref38_Elapsed c_ref38_Empty c_ref38_From c_ref38_Meet c_ref38_Shift c_ref38_Valid c_ref38_When).Γ) (p1 : law38_ClockExact_p1_T) (hp1 : PieceOk Try.prog 273 0 law38_ClockExact_p1_code law38_ClockExact_p1_v law38_ClockExact_p1_o (law38_ClockExact_p1_G p1)) (i : Nat) : PieceOk Try.prog 273 0 law38_ClockExact_p2_code law38_ClockExact_p2_v law38_ClockExact_p2_o (law38_ClockExact_p2_G (law38_ClockExact_p2_l c_clock_Valid c_made_Dice_Next c_made_Dice_One c_ref38_Valid p1 i)) := by
  rw [show law38_ClockExact_p2_code = .loop (loopBody law38_ClockExact_p2_code) by kernel_rfl]
  exact piece_loop (X := (law38_ClockExact_X c_clock_Elapsed c_clock_Empty c_clock_From c_clock_Meet c_clock_Shift c_clock_Valid c_clock_When c_law38_sane c_made_Dice_Next c_made_Dice_OddRecord c_made_Dice_One c_made_Dice_Record c_made_Light c_made_Roll c_ref38_Elapsed c_ref38_Empty c_ref38_From c_ref38_Meet c_ref38_Shift c_ref38_Valid c_ref38_When)) (p := 1) (Λ := pick1 [(462, pieceCut law38_ClockExact_p1_v law38_ClockExact_p1_o (law38_ClockExact_p1_G p1))]) (G := fun i => @fun β d ks => law38_ClockExact_p2_G (law38_ClockExact_p2_l c_clock_Valid c_made_Dice_Next c_made_Dice_One c_ref38_Valid p1 i) d ks) mixed tab_ok hΓ rfl (by kernel_rfl) (CutsOk_cons (q := 462) (c' := law38_ClockExact_p1_code) (by kernel_rfl) rfl hp1 CutsOk_nil) (fun _ _ => rfl) (fun i => @fun β d ks r h => Eq.trans (b := law38_ClockExact_p2_G (law38_ClockExact_p2_l c_clock_Valid c_made_Dice_Next c_made_Dice_One c_ref38_Valid p1 (i + 1)) d ks) (by kernel_rfl) h) i
def law38_ClockExact_p3_s {β : Type} (rec : Int → Int → Int → Int → (List UInt8) → Int → Int → Int → Int → Int → Int → Int → Int → Int → (List Int) → Int → (List (Int × Int)) → Option β) (k1 : law38_ClockExact_p3_K1 β) (k2 : law38_ClockExact_p3_K2 β) (n : Int) (drift : Int) (t150 : Int) (t151 : Int) (h : List UInt8) (h2 : Int) (s : Int) (s2 : Int) (s3 : Int) (s4 : Int) (a : Int) (a2 : Int) (b : Int) (b2 : Int) (d : List Int) (d2 : Int) (t149 : List (Int × Int)) : Option β :=
  cond (decide (t151 < t150))
  (cond (decide (0 ≤ t151) && decide (t151 < (List.length t149 : Int)))
  (c_clock_Elapsed ((List.getD t149 (Int.toNat t151) ((0 : Int), (0 : Int))).1) ((List.getD t149 (Int.toNat t151) ((0 : Int), (0 : Int))).2) (fun (rElapsed : Int) (rElapsed2 : Int) =>
  c_ref38_Elapsed ((List.getD t149 (Int.toNat t151) ((0 : Int), (0 : Int))).1) ((List.getD t149 (Int.toNat t151) ((0 : Int), (0 : Int))).2) (fun (rElapsed3 : Int) (rElapsed4 : Int) =>
  cond (!decide (rElapsed = rElapsed3))
  (k1 false)
  (cond (!decide (rElapsed2 = rElapsed4))
  (k1 false)
  (rec n drift t150 (IntKind.i64.wrap (t151 + (1 : Int))) h h2 s s2 s3 s4 a a2 b b2 d d2 t149)))))
  none)
  (k2 n drift h h2 s s2 s3 s4 a a2 b b2 d d2)
def law38_ClockExact_p3_l {β : Type} : Nat → law38_ClockExact_p3_K1 β → law38_ClockExact_p3_K2 β → Int → Int → Int → Int → (List UInt8) → Int → Int → Int → Int → Int → Int → Int → Int → Int → (List Int) → Int → (List (Int × Int)) → Option β
  | 0 => fun _ _ _ _ _ _ _ _ _ _ _ _ _ _ _ _ _ _ _ => none
  | i + 1 => fun k1 k2 n drift t150 t151 h h2 s s2 s3 s4 a a2 b b2 d d2 t149 => law38_ClockExact_p3_s c_clock_Elapsed c_ref38_Elapsed (law38_ClockExact_p3_l i k1 k2) k1 k2 n drift t150 t151 h h2 s s2 s3 s4 a a2 b b2 d d2 t149
theorem law38_ClockExact_p3_ok' (hΓ : ΓOk Try.prog (law38_ClockExact_X c_clock_Elapsed c_clock_Empty c_clock_From c_clock_Meet c_clock_Shift c_clock_Valid c_clock_When c_law38_sane c_made_Dice_Next c_made_Dice_OddRecord c_made_Dice_One c_made_Dice_Record c_made_Light c_made_Roll c_ref38_Elapsed c_ref38_Empty c_ref38_From c_ref38_Meet c_ref38_Shift c_ref38_Valid c_ref38_When).Γ) (i : Nat) : PieceOk Try.prog 273 0 law38_ClockExact_p3_code law38_ClockExact_p3_v law38_ClockExact_p3_o (law38_ClockExact_p3_G (law38_ClockExact_p3_l c_clock_Elapsed c_ref38_Elapsed i)) := by
  rw [show law38_ClockExact_p3_code = .loop (loopBody law38_ClockExact_p3_code) by kernel_rfl]
  exact piece_loop (X := (law38_ClockExact_X c_clock_Elapsed c_clock_Empty c_clock_From c_clock_Meet c_clock_Shift c_clock_Valid c_clock_When c_law38_sane c_made_Dice_Next c_made_Dice_OddRecord c_made_Dice_One c_made_Dice_Record c_made_Light c_made_Roll c_ref38_Elapsed c_ref38_Empty c_ref38_From c_ref38_Meet c_ref38_Shift c_ref38_Valid c_ref38_When)) (p := 1) (Λ := pick1 []) (G := fun i => @fun β d ks => law38_ClockExact_p3_G (law38_ClockExact_p3_l c_clock_Elapsed c_ref38_Elapsed i) d ks) mixed tab_ok hΓ rfl (by kernel_rfl) CutsOk_nil (fun _ _ => rfl) (fun i => @fun β d ks r h => Eq.trans (b := law38_ClockExact_p3_G (law38_ClockExact_p3_l c_clock_Elapsed c_ref38_Elapsed (i + 1)) d ks) (by kernel_rfl) h) i
def law38_ClockExact_s (p2 : law38_ClockExact_p2_T) (p3 : law38_ClockExact_p3_T) {β : Type} (t : List Int) (raw : api_Record) (h : (List UInt8 × Int)) (s : (Int × (Int × (Int × Int)))) (a : (Int × Int)) (b : (Int × Int)) (n : Int) (m : Int) (k : (Bool → Option β)) : Option β :=
  c_made_Light t (fun (rLight : Bool) =>
  cond (!rLight)
  (c_law38_sane  (fun (rsane : Bool) =>
  k rsane))
  (cond (decide ((100 : Int) < (IntKind.i64.wrap ((IntKind.i64.wrap ((IntKind.i64.wrap ((List.length raw.1 : Int) + (List.length raw.2.1 : Int))) + (List.length raw.2.2.1 : Int))) + (List.length raw.2.2.2 : Int)))))
  (c_law38_sane  (fun (rsane : Bool) =>
  k rsane))
  (c_made_Roll t (fun (mrRoll : (List Int × Int)) =>
  c_made_Dice_Record (6 : Int) mrRoll (fun (rRecord : api_Record) (mrRecord : (List Int × Int)) (lrRecord : List Int) =>
  c_made_Dice_OddRecord rRecord mrRecord (fun (rOddRecord : api_Record) (mrOddRecord : (List Int × Int)) =>
  let l : List api_Record := ([rRecord, rOddRecord, raw] : List api_Record);
  p2 (fun (t16 : Bool) =>
  k t16) (fun (n2 : Int) (m2 : Int) (h2 : List UInt8) (h3 : Int) (s2 : Int) (s3 : Int) (s4 : Int) (s5 : Int) (a2 : Int) (a3 : Int) (b2 : Int) (b3 : Int) (d : List Int) (d2 : Int) =>
  let l2 : List Int := ([(0 : Int), (1 : Int), (100 : Int), (500000 : Int), (500001 : Int), (-1 : Int)] : List Int);
  c_made_Dice_One l2 (d, d2) (fun (rOne : Int) (mrOne : (List Int × Int)) =>
  let l3 : List Int := ([(0 : Int), (1 : Int), (77 : Int), (8589934592 : Int), (8589934593 : Int), (-1 : Int)] : List Int);
  c_made_Dice_One l3 mrOne (fun (rOne2 : Int) (mrOne2 : (List Int × Int)) =>
  let l4 : List (Int × Int) := ([(n2, m2), (rOne, rOne2), (rOne, m2)] : List (Int × Int));
  p3 (fun (t16 : Bool) =>
  k t16) (fun (n3 : Int) (drift : Int) (h4 : List UInt8) (h5 : Int) (s6 : Int) (s7 : Int) (s8 : Int) (s9 : Int) (a4 : Int) (a5 : Int) (b4 : Int) (b5 : Int) (d3 : List Int) (d4 : Int) =>
  let l5 : List Int := ([(0 : Int), (100 : Int), (864000 : Int), (-1 : Int)] : List Int);
  c_made_Dice_One l5 (d3, d4) (fun (rOne3 : Int) (mrOne3 : (List Int × Int)) =>
  let l6 : List Int := ([(0 : Int), (50 : Int), (864000 : Int)] : List Int);
  c_made_Dice_One l6 mrOne3 (fun (rOne4 : Int) (mrOne4 : (List Int × Int)) =>
  let l7 : List Int := ([(0 : Int), (50 : Int), (90 : Int), (864009 : Int), (8589934593 : Int)] : List Int);
  c_made_Dice_One l7 mrOne4 (fun (rOne5 : Int) (mrOne5 : (List Int × Int)) =>
  let l8 : List Int := ([(0 : Int), (90 : Int), (864070 : Int), (8589934592 : Int)] : List Int);
  c_made_Dice_One l8 mrOne5 (fun (rOne6 : Int) (mrOne6 : (List Int × Int)) =>
  let l9 : List Int := ([(0 : Int), (-1099511627776 : Int), (5 : Int), (-1099511627775 : Int)] : List Int);
  c_made_Dice_One l9 mrOne6 (fun (rOne7 : Int) (mrOne7 : (List Int × Int)) =>
  let l10 : List Int := ([(9 : Int), (1099511627776 : Int), (1099511627775 : Int), (-9 : Int)] : List Int);
  c_made_Dice_One l10 mrOne7 (fun (rOne8 : Int) (mrOne8 : (List Int × Int)) =>
  let l11 : List Int := ([(0 : Int), (5 : Int), (-5 : Int), (1099511627776 : Int), (-1099511627776 : Int), (1099511627777 : Int)] : List Int);
  c_made_Dice_One l11 mrOne8 (fun (rOne9 : Int) (mrOne9 : (List Int × Int)) =>
  c_clock_From (h4, h5) (s6, (s7, (s8, s9))) n3 (fun (rFrom : (Int × Int)) =>
  c_ref38_From (h4, h5) (s6, (s7, (s8, s9))) n3 (fun (rFrom2 : (Int × Int)) =>
  cond (decide (rFrom.1 = rFrom2.1) && (decide (rFrom.2 = rFrom2.2) && true))
  (c_clock_From (([] : List UInt8), drift) ((0 : Int), (rOne3, (rOne4, rOne5))) rOne6 (fun (rFrom3 : (Int × Int)) =>
  c_ref38_From (([] : List UInt8), drift) ((0 : Int), (rOne3, (rOne4, rOne5))) rOne6 (fun (rFrom4 : (Int × Int)) =>
  cond (decide (rFrom3.1 = rFrom4.1) && (decide (rFrom3.2 = rFrom4.2) && true))
  (c_clock_From (([] : List UInt8), drift) (s6, (s7, (s8, s9))) rOne6 (fun (rFrom5 : (Int × Int)) =>
  c_ref38_From (([] : List UInt8), drift) (s6, (s7, (s8, s9))) rOne6 (fun (rFrom6 : (Int × Int)) =>
  cond (decide (rFrom5.1 = rFrom6.1) && (decide (rFrom5.2 = rFrom6.2) && true))
  (c_clock_Meet (a4, a5) (b4, b5) (fun (rMeet : (Int × Int)) =>
  c_ref38_Meet (a4, a5) (b4, b5) (fun (rMeet2 : (Int × Int)) =>
  cond (decide (rMeet.1 = rMeet2.1) && (decide (rMeet.2 = rMeet2.2) && true))
  (c_clock_Empty (a4, a5) (fun (rEmpty : Bool) =>
  c_ref38_Empty (a4, a5) (fun (rEmpty2 : Bool) =>
  cond (rEmpty == rEmpty2)
  (c_clock_Shift (a4, a5) n3 (fun (rShift : (Int × Int)) =>
  c_ref38_Shift (a4, a5) n3 (fun (rShift2 : (Int × Int)) =>
  cond (decide (rShift.1 = rShift2.1) && (decide (rShift.2 = rShift2.2) && true))
  (c_clock_Shift (rOne7, rOne8) rOne9 (fun (rShift3 : (Int × Int)) =>
  c_ref38_Shift (rOne7, rOne8) rOne9 (fun (rShift4 : (Int × Int)) =>
  cond (decide (rShift3.1 = rShift4.1) && (decide (rShift3.2 = rShift4.2) && true))
  (c_law38_sane  (fun (rsane : Bool) =>
  k rsane))
  (k false))))
  (k false))))
  (k false))))
  (k false))))
  (k false))))
  (k false))))
  (k false))))))))))) n2 rOne (List.length l4 : Int) (0 : Int) h2 h3 s2 s3 s4 s5 a2 a3 b2 b3 mrOne2.1 mrOne2.2 l4))) n m (List.length l : Int) (0 : Int) h.1 h.2 s.1 s.2.1 s.2.2.1 s.2.2.2 a.1 a.2 b.1 b.2 mrOddRecord.1 mrOddRecord.2 l))))))
theorem law38_ClockExact_ok' (hΓ : ΓOk Try.prog (law38_ClockExact_X c_clock_Elapsed c_clock_Empty c_clock_From c_clock_Meet c_clock_Shift c_clock_Valid c_clock_When c_law38_sane c_made_Dice_Next c_made_Dice_OddRecord c_made_Dice_One c_made_Dice_Record c_made_Light c_made_Roll c_ref38_Elapsed c_ref38_Empty c_ref38_From c_ref38_Meet c_ref38_Shift c_ref38_Valid c_ref38_When).Γ) (p2 : law38_ClockExact_p2_T) (p3 : law38_ClockExact_p3_T) (hp2 : PieceOk Try.prog 273 0 law38_ClockExact_p2_code law38_ClockExact_p2_v law38_ClockExact_p2_o (law38_ClockExact_p2_G p2)) (hp3 : PieceOk Try.prog 273 0 law38_ClockExact_p3_code law38_ClockExact_p3_v law38_ClockExact_p3_o (law38_ClockExact_p3_G p3)) : SpecOk Try.prog 6 (law38_ClockExact_S (law38_ClockExact_s c_clock_Empty c_clock_From c_clock_Meet c_clock_Shift c_law38_sane c_made_Dice_OddRecord c_made_Dice_One c_made_Dice_Record c_made_Light c_made_Roll c_ref38_Empty c_ref38_From c_ref38_Meet c_ref38_Shift p2 p3)) :=
  spec_exec (X := (law38_ClockExact_X c_clock_Elapsed c_clock_Empty c_clock_From c_clock_Meet c_clock_Shift c_clock_Valid c_clock_When c_law38_sane c_made_Dice_Next c_made_Dice_OddRecord c_made_Dice_One c_made_Dice_Record c_made_Light c_made_Roll c_ref38_Elapsed c_ref38_Empty c_ref38_From c_ref38_Meet c_ref38_Shift c_ref38_Valid c_ref38_When)) (Λ := pick1 [(250, pieceCut law38_ClockExact_p2_v law38_ClockExact_p2_o (law38_ClockExact_p2_G p2)), (1018, pieceCut law38_ClockExact_p3_v law38_ClockExact_p3_o (law38_ClockExact_p3_G p3))]) (rs := [.tmp 16]) (c := bodyOf Try.f6) mixed tab_ok hΓ Try.func6 (by kernel_rfl) (by kernel_rfl) (by kernel_rfl) (by kernel_rfl) (CutsOk_cons (q := 250) (c' := law38_ClockExact_p2_code) (by kernel_rfl) rfl hp2 (CutsOk_cons (q := 1018) (c' := law38_ClockExact_p3_code) (by kernel_rfl) rfl hp3 CutsOk_nil)) (fun x k r h => Eq.trans (b := (law38_ClockExact_S (law38_ClockExact_s c_clock_Empty c_clock_From c_clock_Meet c_clock_Shift c_law38_sane c_made_Dice_OddRecord c_made_Dice_One c_made_Dice_Record c_made_Light c_made_Roll c_ref38_Empty c_ref38_From c_ref38_Meet c_ref38_Shift p2 p3)).run x k) (by kernel_rfl) h)
end
theorem law38_ClockExact_Γ : ΓOk Try.prog (pick1 [(16, clock_Elapsed_S clock_Elapsed), (37, clock_Empty_S clock_Empty), (27, clock_From_S clock_From), (35, clock_Meet_S clock_Meet), (28, clock_Shift_S clock_Shift), (30, clock_Valid_S clock_Valid), (25, clock_When_S clock_When), (17, law38_sane_S law38_sane), (21, made_Dice_Next_S made_Dice_Next), (29, made_Dice_OddRecord_S made_Dice_OddRecord), (20, made_Dice_One_S made_Dice_One), (26, made_Dice_Record_S made_Dice_Record), (18, made_Light_S made_Light), (19, made_Roll_S made_Roll), (33, ref38_Elapsed_S ref38_Elapsed), (38, ref38_Empty_S ref38_Empty), (34, ref38_From_S ref38_From), (36, ref38_Meet_S ref38_Meet), (39, ref38_Shift_S ref38_Shift), (31, ref38_Valid_S ref38_Valid), (32, ref38_When_S ref38_When)]) := (ΓOk_cons clock_Elapsed_ok (ΓOk_cons clock_Empty_ok (ΓOk_cons clock_From_ok (ΓOk_cons clock_Meet_ok (ΓOk_cons clock_Shift_ok (ΓOk_cons clock_Valid_ok (ΓOk_cons clock_When_ok (ΓOk_cons law38_sane_ok (ΓOk_cons made_Dice_Next_ok (ΓOk_cons made_Dice_OddRecord_ok (ΓOk_cons made_Dice_One_ok (ΓOk_cons made_Dice_Record_ok (ΓOk_cons made_Light_ok (ΓOk_cons made_Roll_ok (ΓOk_cons ref38_Elapsed_ok (ΓOk_cons ref38_Empty_ok (ΓOk_cons ref38_From_ok (ΓOk_cons ref38_Meet_ok (ΓOk_cons ref38_Shift_ok (ΓOk_cons ref38_Valid_ok (ΓOk_cons ref38_When_ok ΓOk_nil)))))))))))))))))))))
def law38_ClockExact_p1_n (m : Nat) : law38_ClockExact_p1_T := law38_ClockExact_p1_l clock_When ref38_When m
theorem law38_ClockExact_p1_step {β : Type} (i : Nat) (k1 k2 n m t76 t77 t101 t102 h h2 s s2 s3 s4 a a2 b b2 d d2 x x2 x3 x4 t75 t100) : (law38_ClockExact_p1_n (i + 1) k1 k2 n m t76 t77 t101 t102 h h2 s s2 s3 s4 a a2 b b2 d d2 x x2 x3 x4 t75 t100 : Option β) = law38_ClockExact_p1_s clock_When ref38_When (law38_ClockExact_p1_n i k1 k2) k1 k2 n m t76 t77 t101 t102 h h2 s s2 s3 s4 a a2 b b2 d d2 x x2 x3 x4 t75 t100 := rfl
def law38_ClockExact_p1 : law38_ClockExact_p1_T := law38_ClockExact_p1_n fuel
theorem law38_ClockExact_p1_ok : PieceOk Try.prog 273 0 law38_ClockExact_p1_code law38_ClockExact_p1_v law38_ClockExact_p1_o (law38_ClockExact_p1_G law38_ClockExact_p1) := law38_ClockExact_p1_ok' clock_Elapsed clock_Empty clock_From clock_Meet clock_Shift clock_Valid clock_When law38_sane made_Dice_Next made_Dice_OddRecord made_Dice_One made_Dice_Record made_Light made_Roll ref38_Elapsed ref38_Empty ref38_From ref38_Meet ref38_Shift ref38_Valid ref38_When law38_ClockExact_Γ fuel
def law38_ClockExact_p2_n (m : Nat) : law38_ClockExact_p2_T := law38_ClockExact_p2_l clock_Valid made_Dice_Next made_Dice_One ref38_Valid law38_ClockExact_p1 m
theorem law38_ClockExact_p2_step {β : Type} (i : Nat) (k1 k2 n m t76 t77 h h2 s s2 s3 s4 a a2 b b2 d d2 t75) : (law38_ClockExact_p2_n (i + 1) k1 k2 n m t76 t77 h h2 s s2 s3 s4 a a2 b b2 d d2 t75 : Option β) = law38_ClockExact_p2_s clock_Valid made_Dice_Next made_Dice_One ref38_Valid law38_ClockExact_p1 (law38_ClockExact_p2_n i k1 k2) k1 k2 n m t76 t77 h h2 s s2 s3 s4 a a2 b b2 d d2 t75 := rfl
def law38_ClockExact_p2 : law38_ClockExact_p2_T := law38_ClockExact_p2_n fuel
theorem law38_ClockExact_p2_ok : PieceOk Try.prog 273 0 law38_ClockExact_p2_code law38_ClockExact_p2_v law38_ClockExact_p2_o (law38_ClockExact_p2_G law38_ClockExact_p2) := law38_ClockExact_p2_ok' clock_Elapsed clock_Empty clock_From clock_Meet clock_Shift clock_Valid clock_When law38_sane made_Dice_Next made_Dice_OddRecord made_Dice_One made_Dice_Record made_Light made_Roll ref38_Elapsed ref38_Empty ref38_From ref38_Meet ref38_Shift ref38_Valid ref38_When law38_ClockExact_Γ law38_ClockExact_p1 law38_ClockExact_p1_ok fuel
def law38_ClockExact_p3_n (m : Nat) : law38_ClockExact_p3_T := law38_ClockExact_p3_l clock_Elapsed ref38_Elapsed m
theorem law38_ClockExact_p3_step {β : Type} (i : Nat) (k1 k2 n drift t150 t151 h h2 s s2 s3 s4 a a2 b b2 d d2 t149) : (law38_ClockExact_p3_n (i + 1) k1 k2 n drift t150 t151 h h2 s s2 s3 s4 a a2 b b2 d d2 t149 : Option β) = law38_ClockExact_p3_s clock_Elapsed ref38_Elapsed (law38_ClockExact_p3_n i k1 k2) k1 k2 n drift t150 t151 h h2 s s2 s3 s4 a a2 b b2 d d2 t149 := rfl
def law38_ClockExact_p3 : law38_ClockExact_p3_T := law38_ClockExact_p3_n fuel
theorem law38_ClockExact_p3_ok : PieceOk Try.prog 273 0 law38_ClockExact_p3_code law38_ClockExact_p3_v law38_ClockExact_p3_o (law38_ClockExact_p3_G law38_ClockExact_p3) := law38_ClockExact_p3_ok' clock_Elapsed clock_Empty clock_From clock_Meet clock_Shift clock_Valid clock_When law38_sane made_Dice_Next made_Dice_OddRecord made_Dice_One made_Dice_Record made_Light made_Roll ref38_Elapsed ref38_Empty ref38_From ref38_Meet ref38_Shift ref38_Valid ref38_When law38_ClockExact_Γ fuel
def law38_ClockExact : T_law38_ClockExact := law38_ClockExact_s clock_Empty clock_From clock_Meet clock_Shift law38_sane made_Dice_OddRecord made_Dice_One made_Dice_Record made_Light made_Roll ref38_Empty ref38_From ref38_Meet ref38_Shift law38_ClockExact_p2 law38_ClockExact_p3
theorem law38_ClockExact_ok : SpecOk Try.prog 6 (law38_ClockExact_S law38_ClockExact) := law38_ClockExact_ok' clock_Elapsed clock_Empty clock_From clock_Meet clock_Shift clock_Valid clock_When law38_sane made_Dice_Next made_Dice_OddRecord made_Dice_One made_Dice_Record made_Light made_Roll ref38_Elapsed ref38_Empty ref38_From ref38_Meet ref38_Shift ref38_Valid ref38_When law38_ClockExact_Γ law38_ClockExact_p2 law38_ClockExact_p3 law38_ClockExact_p2_ok law38_ClockExact_p3_ok

/-- pagewatch/pagewatchlaw38.ClockMore -/
abbrev T_law38_ClockMore := {β : Type} → (List Int) → (Bool → Option β) → Option β
def law38_ClockMore_S (c : T_law38_ClockMore) : Spec :=
  ⟨[(false, [.data (.slice (.int .i64))])], [], [(false, [.data .bool])], [], fun x k => c x.1.1.1 (fun r0 => k (((r0, ()), ()), ()))⟩
section
variable (c_clock_Empty : T_clock_Empty) (c_clock_From : T_clock_From) (c_clock_Meet : T_clock_Meet) (c_clock_Shift : T_clock_Shift) (c_clock_When : T_clock_When) (c_law38_sane : T_law38_sane) (c_made_Dice_Next : T_made_Dice_Next) (c_made_Dice_Record : T_made_Dice_Record) (c_made_Light : T_made_Light) (c_made_Roll : T_made_Roll)
@[reducible] def law38_ClockMore_X : Ctx := ⟨look tab, pick1 [(37, clock_Empty_S c_clock_Empty), (27, clock_From_S c_clock_From), (35, clock_Meet_S c_clock_Meet), (28, clock_Shift_S c_clock_Shift), (25, clock_When_S c_clock_When), (17, law38_sane_S c_law38_sane), (21, made_Dice_Next_S c_made_Dice_Next), (26, made_Dice_Record_S c_made_Dice_Record), (18, made_Light_S c_made_Light), (19, made_Roll_S c_made_Roll)]⟩
def law38_ClockMore_s {β : Type} (t : List Int) (k : (Bool → Option β)) : Option β :=
  c_made_Light t (fun (rLight : Bool) =>
  cond (!rLight)
  (c_law38_sane  (fun (rsane : Bool) =>
  k rsane))
  (c_made_Roll t (fun (mrRoll : (List Int × Int)) =>
  c_made_Dice_Record (3 : Int) mrRoll (fun (rRecord : api_Record) (mrRecord : (List Int × Int)) (lrRecord : List Int) =>
  c_made_Dice_Next (500 : Int) mrRecord (fun (rNext : Int) (mrNext : (List Int × Int)) =>
  let c : Int := (IntKind.i64.wrap ((864000 : Int) + rNext));
  c_clock_When rRecord (0 : Int) c (fun (rWhen : (Int × Int)) (rWhen2 : Bool) =>
  c_made_Dice_Next (500 : Int) mrNext (fun (rNext2 : Int) (mrNext2 : (List Int × Int)) =>
  c_made_Dice_Next (200 : Int) mrNext2 (fun (rNext3 : Int) (mrNext3 : (List Int × Int)) =>
  c_made_Dice_Next (200 : Int) mrNext3 (fun (rNext4 : Int) (mrNext4 : (List Int × Int)) =>
  cond (decide (List.length rRecord.2.1 * 32 ≤ roomMax))
  (let l : List (Int × (Int × (Int × Int))) := ([((0 : Int), ((IntKind.i64.wrap ((864000 : Int) + rNext2)), ((IntKind.i64.wrap ((864000 : Int) + rNext3)), (IntKind.i64.wrap ((864300 : Int) + rNext4)))))] : List (Int × (Int × (Int × Int))));
  cond (decide ((List.length rRecord.2.1 + List.length l) * 32 ≤ roomMax))
  (let l2 : List (Int × (Int × (Int × Int))) := (rRecord.2.1 ++ l);
  c_clock_When (rRecord.1, (l2, rRecord.2.2)) (0 : Int) c (fun (rWhen3 : (Int × Int)) (rWhen4 : Bool) =>
  cond (!rWhen2)
  (k false)
  (cond (decide (0 ≤ (0 : Int)) && decide ((0 : Int) < (List.length rRecord.1 : Int)))
  (let e : (List UInt8 × Int) := List.getD rRecord.1 (Int.toNat (0 : Int)) (([] : List UInt8), (0 : Int));
  c_clock_From e ((0 : Int), ((IntKind.i64.wrap ((864000 : Int) + rNext2)), ((IntKind.i64.wrap ((864000 : Int) + rNext3)), (IntKind.i64.wrap ((864300 : Int) + rNext4))))) c (fun (rFrom : (Int × Int)) =>
  c_clock_Meet rWhen rFrom (fun (rMeet : (Int × Int)) =>
  c_made_Dice_Next (50 : Int) mrNext4 (fun (rNext5 : Int) (mrNext5 : (List Int × Int)) =>
  let k_ : Int := (IntKind.i64.wrap (rNext5 - (25 : Int)));
  c_clock_Shift rWhen k_ (fun (rShift : (Int × Int)) =>
  c_clock_Shift rMeet k_ (fun (rShift2 : (Int × Int)) =>
  c_clock_Meet rShift rShift2 (fun (rMeet2 : (Int × Int)) =>
  cond (decide (rWhen3.1 = rMeet.1) && (decide (rWhen3.2 = rMeet.2) && true))
  (c_clock_Empty rMeet (fun (rEmpty : Bool) =>
  cond (rWhen4 == (!rEmpty))
  (cond (decide (rWhen.1 ≤ rWhen3.1))
  (cond (decide (rWhen3.2 ≤ rWhen.2))
  (c_clock_Shift rMeet k_ (fun (rShift3 : (Int × Int)) =>
  cond (decide (rMeet2.1 = rShift3.1) && (decide (rMeet2.2 = rShift3.2) && true))
  (c_law38_sane  (fun (rsane : Bool) =>
  k rsane))
  (k false)))
  (k false))
  (k false))
  (k false)))
  (k false))))))))
  none)))
  none)
  none)))))))))
theorem law38_ClockMore_ok' (hΓ : ΓOk Try.prog (law38_ClockMore_X c_clock_Empty c_clock_From c_clock_Meet c_clock_Shift c_clock_When c_law38_sane c_made_Dice_Next c_made_Dice_Record c_made_Light c_made_Roll).Γ) : SpecOk Try.prog 7 (law38_ClockMore_S (law38_ClockMore_s c_clock_Empty c_clock_From c_clock_Meet c_clock_Shift c_clock_When c_law38_sane c_made_Dice_Next c_made_Dice_Record c_made_Light c_made_Roll)) :=
  spec_exec (X := (law38_ClockMore_X c_clock_Empty c_clock_From c_clock_Meet c_clock_Shift c_clock_When c_law38_sane c_made_Dice_Next c_made_Dice_Record c_made_Light c_made_Roll)) (Λ := pick1 []) (rs := [.tmp 2]) (c := bodyOf Try.f7) mixed tab_ok hΓ Try.func7 (by kernel_rfl) (by kernel_rfl) (by kernel_rfl) (by kernel_rfl) CutsOk_nil (fun x k r h => Eq.trans (b := (law38_ClockMore_S (law38_ClockMore_s c_clock_Empty c_clock_From c_clock_Meet c_clock_Shift c_clock_When c_law38_sane c_made_Dice_Next c_made_Dice_Record c_made_Light c_made_Roll)).run x k) (by kernel_rfl) h)
end
theorem law38_ClockMore_Γ : ΓOk Try.prog (pick1 [(37, clock_Empty_S clock_Empty), (27, clock_From_S clock_From), (35, clock_Meet_S clock_Meet), (28, clock_Shift_S clock_Shift), (25, clock_When_S clock_When), (17, law38_sane_S law38_sane), (21, made_Dice_Next_S made_Dice_Next), (26, made_Dice_Record_S made_Dice_Record), (18, made_Light_S made_Light), (19, made_Roll_S made_Roll)]) := (ΓOk_cons clock_Empty_ok (ΓOk_cons clock_From_ok (ΓOk_cons clock_Meet_ok (ΓOk_cons clock_Shift_ok (ΓOk_cons clock_When_ok (ΓOk_cons law38_sane_ok (ΓOk_cons made_Dice_Next_ok (ΓOk_cons made_Dice_Record_ok (ΓOk_cons made_Light_ok (ΓOk_cons made_Roll_ok ΓOk_nil))))))))))
def law38_ClockMore : T_law38_ClockMore := law38_ClockMore_s clock_Empty clock_From clock_Meet clock_Shift clock_When law38_sane made_Dice_Next made_Dice_Record made_Light made_Roll
theorem law38_ClockMore_ok : SpecOk Try.prog 7 (law38_ClockMore_S law38_ClockMore) := law38_ClockMore_ok' clock_Empty clock_From clock_Meet clock_Shift clock_When law38_sane made_Dice_Next made_Dice_Record made_Light made_Roll law38_ClockMore_Γ
end
end Go.Lift
