/- Part8: Fn0, LBase, LDelMath, LDelivery, LDelRef, LDelFn, LDelRun, LDelRun2, LDice, LDice1, LDelMade, LDelBound, LDelRuns, LDelReaches. -/
import Derived.Test.YtagpoimmbikajaaProg
import Derived.Test.YtagpoimmbikajaaPart7
namespace Go.Lift
open Go.Proofs
noncomputable section
set_option maxRecDepth 100000
set_option linter.unusedVariables false

abbrev zq0 := (Bool × (Int × (Int × Int)))
abbrev zq1 : Ty := (.prod .bool (.prod (.int .i64) (.prod (.int .i64) (.int .i64))))
abbrev zq2 := (Int × (Int × (Int × (Int × (Int × Int)))))
abbrev zq3 : Ty := (.prod (.int .i64) (.prod (.int .i64) (.prod (.int .i64) (.prod (.int .i64) (.prod (.int .i64) (.int .i64))))))

def tab : List (Nat × TI) := [
  (3, ⟨false, 1, 8, [.int .i64 (0 : Int)], [], none, none, (some (.int .i64)), (some .i64), false, false, none, none⟩),
  (4, ⟨false, 1, 1, [.bool false], [], none, none, (some .bool), none, true, false, none, none⟩),
  (22, ⟨false, 1, 24, [.nils], [], (some 3), none, (some (.slice (.int .i64))), none, false, false, none, none⟩),
  (23, ⟨false, 1, 4, [.int .u32 (0 : Int)], [], none, none, (some (.int .u32)), (some .u32), false, false, none, none⟩),
  (27, ⟨false, 1, 24, [.nils], [], (some 36), none, (some (.slice (.prod (.int .i64) (.prod (.int .i64) (.prod (.int .i64) (.int .i64)))))), none, false, false, none, none⟩),
  (29, ⟨true, 2, 32, [.int .i64 (0 : Int), .nils], [(0, 1, false), (1, 1, false)], none, none, (some (.prod (.int .i64) (.slice (.prod (.int .i64) (.prod (.int .i64) (.prod (.int .i64) (.int .i64))))))), none, false, false, none, none⟩),
  (33, ⟨false, 1, 24, [.nils], [], (some 39), none, (some (.slice (.prod (.int .i64) (.prod (.int .i64) (.int .i64))))), none, false, false, none, none⟩),
  (36, ⟨true, 4, 32, [.int .i64 (0 : Int), .int .i64 (0 : Int), .int .i64 (0 : Int), .int .i64 (0 : Int)], [(0, 1, false), (1, 1, false), (2, 1, false), (3, 1, false)], none, none, (some (.prod (.int .i64) (.prod (.int .i64) (.prod (.int .i64) (.int .i64))))), none, false, false, (some [.i, .i, .i, .i]), none⟩),
  (39, ⟨true, 3, 24, [.int .i64 (0 : Int), .int .i64 (0 : Int), .int .i64 (0 : Int)], [(0, 1, false), (1, 1, false), (2, 1, false)], none, none, (some (.prod (.int .i64) (.prod (.int .i64) (.int .i64)))), none, false, false, (some [.i, .i, .i]), none⟩),
  (42, ⟨false, 1, 24, [.nils], [], (some 44), none, (some (.slice (.slice zq1))), none, false, false, none, none⟩),
  (44, ⟨false, 1, 24, [.nils], [], (some 75), none, (some (.slice zq1)), none, false, false, none, none⟩),
  (75, ⟨true, 4, 32, [.bool false, .int .i64 (0 : Int), .int .i64 (0 : Int), .int .i64 (0 : Int)], [(0, 1, false), (1, 1, false), (2, 1, false), (3, 1, false)], none, none, (some zq1), none, false, false, (some [.b, .i, .i, .i]), none⟩),
  (77, ⟨true, 2, 32, [.nils, .int .i64 (0 : Int)], [(0, 1, false), (1, 1, false)], none, none, (some (.prod (.slice (.int .i64)) (.int .i64))), none, false, false, none, none⟩)]

theorem tab_ok : TOk Try.prog (look tab) := TOk_of (by kernel_rfl)
theorem mixed : Try.prog.follows .mixedOrders = true := by kernel_rfl

/-- pagewatch/pagewatchmade.Light -/
abbrev zq4 := {β : Type} → (List Int) → (Bool → Option β) → Option β
def zq5 (c : zq4) : Spec :=
  ⟨[(false, [.data (.slice (.int .i64))])], [], [(false, [.data .bool])], [], fun x k => c x.1.1.1 (fun r0 => k (((r0, ()), ()), ()))⟩
section
@[reducible] def made_Light_X : Ctx := ⟨look tab, pick1 [], false, false, false, false⟩
def zq6 {β : Type} (l : List Int) (k : (Bool → Option β)) : Option β :=
  let t : Bool := (decide ((List.length l : Int) ≤ (500 : Int)));
  k t
theorem zq7 (hΓ : ΓOk Try.prog made_Light_X.Γ) : SpecOk Try.prog 9 (zq5 (zq6)) :=
  spec_exec (X := made_Light_X) (Λ := pick1 []) (rs := [.tmp 2]) (c := bodyOf Try.f9) mixed tab_ok hΓ Try.func9 (by kernel_rfl) (by kernel_rfl) (by kernel_rfl) (by kernel_rfl) CutsOk_nil (fun x k r h => Eq.trans (b := (zq5 (zq6)).run x k) (by kernel_rfl) h)
end
theorem zq8Γ : ΓOk Try.prog (pick1 []) := ΓOk_nil
def zq9 : zq4 := zq6
theorem zqa : SpecOk Try.prog 9 (zq5 zq9) := zq7 zq8Γ

/-- pagewatch/pagewatchmade.Roll -/
abbrev zqb := {β : Type} → (List Int) → ((List Int × Int) → Option β) → Option β
def zqc (c : zqb) : Spec :=
  ⟨[(false, [.data (.slice (.int .i64))])], [], [(false, [.ptr 0 0])], [.cells 77 [.data (.prod (.slice (.int .i64)) (.int .i64))]], fun x k => c x.1.1.1 (fun r0 => k (((), ()), ((r0, ()), ())))⟩
section
@[reducible] def made_Roll_X : Ctx := ⟨look tab, pick1 [], false, false, false, false⟩
def zqd {β : Type} (l : List Int) (k : ((List Int × Int) → Option β)) : Option β :=
  k (l, (0 : Int))
theorem zqe (hΓ : ΓOk Try.prog made_Roll_X.Γ) : SpecOk Try.prog 11 (zqc (zqd)) :=
  spec_exec (X := made_Roll_X) (Λ := pick1 []) (rs := [.tmp 2]) (c := bodyOf Try.f11) mixed tab_ok hΓ Try.func11 (by kernel_rfl) (by kernel_rfl) (by kernel_rfl) (by kernel_rfl) CutsOk_nil (fun x k r h => Eq.trans (b := (zqc (zqd)).run x k) (by kernel_rfl) h)
end
theorem zqfΓ : ΓOk Try.prog (pick1 []) := ΓOk_nil
def zqg : zqb := zqd
theorem zqh : SpecOk Try.prog 11 (zqc zqg) := zqe zqfΓ

/-- (*pagewatch/pagewatchmade.Dice).Next -/
abbrev zqi := {β : Type} → Int → (List Int × Int) → (Int → (List Int × Int) → Option β) → Option β
def zqj (c : zqi) : Spec :=
  ⟨[(false, [.ptr 0 0]), (false, [.data (.int .i64)])], [.cells 77 [.data (.prod (.slice (.int .i64)) (.int .i64))]], [(false, [.data (.int .i64)])], [.cells 77 [.data (.prod (.slice (.int .i64)) (.int .i64))]], fun x k => c x.1.2.1.1 x.2.1.1 (fun r0 r1 => k (((r0, ()), ()), ((r1, ()), ())))⟩
section
@[reducible] def made_Dice_Next_X : Ctx := ⟨look tab, pick1 [], false, false, false, false⟩
def zqk {β : Type} (n : Int) (d : (List Int × Int)) (k : (Int → (List Int × Int) → Option β)) : Option β :=
  cond (decide ((List.length d.1 : Int) ≤ d.2))
  (k (0 : Int) d)
  (cond (decide (n < (1 : Int)))
  (k (0 : Int) d)
  (cond (decide (0 ≤ d.2) && decide (d.2 < (List.length d.1 : Int)))
  (let e : Int := List.getD d.1 (Int.toNat d.2) (0 : Int);
  cond (!decide (n = 0))
  (cond (decide ((Int.tmod e n) < (0 : Int)))
  (let x : Int := (IntKind.i64.wrap ((Int.tmod e n) + n));
  k x (d.1, (IntKind.i64.wrap (d.2 + (1 : Int)))))
  (k (Int.tmod e n) (d.1, (IntKind.i64.wrap (d.2 + (1 : Int))))))
  none)
  none))
theorem zql (hΓ : ΓOk Try.prog made_Dice_Next_X.Γ) : SpecOk Try.prog 14 (zqj (zqk)) :=
  spec_exec (X := made_Dice_Next_X) (Λ := pick1 []) (rs := [.tmp 4]) (c := bodyOf Try.f14) mixed tab_ok hΓ Try.func14 (by kernel_rfl) (by kernel_rfl) (by kernel_rfl) (by kernel_rfl) CutsOk_nil (fun x k r h => Eq.trans (b := (zqj (zqk)).run x k) (by kernel_rfl) h)
end
theorem zqmΓ : ΓOk Try.prog (pick1 []) := ΓOk_nil
def zqn : zqi := zqk
theorem zqo : SpecOk Try.prog 14 (zqj zqn) := zql zqmΓ

/-- (*pagewatch/pagewatchmade.Dice).One -/
abbrev zqp := {β : Type} → (List Int) → (List Int × Int) → (Int → (List Int × Int) → Option β) → Option β
def zqq (c : zqp) : Spec :=
  ⟨[(false, [.ptr 0 0]), (false, [.data (.slice (.int .i64))])], [.cells 77 [.data (.prod (.slice (.int .i64)) (.int .i64))]], [(false, [.data (.int .i64)])], [.cells 77 [.data (.prod (.slice (.int .i64)) (.int .i64))]], fun x k => c x.1.2.1.1 x.2.1.1 (fun r0 r1 => k (((r0, ()), ()), ((r1, ()), ())))⟩
section
variable (c_made_Dice_Next : zqi)
@[reducible] def made_Dice_One_X : Ctx := ⟨look tab, pick1 [(14, .spec (zqj c_made_Dice_Next))], false, false, false, false⟩
def zqr {β : Type} (l : List Int) (d : (List Int × Int)) (k : (Int → (List Int × Int) → Option β)) : Option β :=
  c_made_Dice_Next (List.length l : Int) d (fun (rNext : Int) (mrNext : (List Int × Int)) =>
  cond (decide (0 ≤ rNext) && decide (rNext < (List.length l : Int)))
  (let e : Int := List.getD l (Int.toNat rNext) (0 : Int);
  k e mrNext)
  none)
theorem zqs (hΓ : ΓOk Try.prog (made_Dice_One_X c_made_Dice_Next).Γ) : SpecOk Try.prog 28 (zqq (zqr c_made_Dice_Next)) :=
  spec_exec (X := (made_Dice_One_X c_made_Dice_Next)) (Λ := pick1 []) (rs := [.tmp 4]) (c := bodyOf Try.f28) mixed tab_ok hΓ Try.func28 (by kernel_rfl) (by kernel_rfl) (by kernel_rfl) (by kernel_rfl) CutsOk_nil (fun x k r h => Eq.trans (b := (zqq (zqr c_made_Dice_Next)).run x k) (by kernel_rfl) h)
end
theorem zqtΓ : ΓOk Try.prog (pick1 [(14, .spec (zqj zqn))]) := (ΓOk_cons zqo ΓOk_nil)
def zqu : zqp := zqr zqn
theorem zqv : SpecOk Try.prog 28 (zqq zqu) := zqs zqn zqtΓ

/-- (*pagewatch/pagewatchmade.Dice).Channel -/
abbrev zqw := {β : Type} → (List Int × Int) → ((Int × (Int × (Int × Int))) → (List Int × Int) → Option β) → Option β
def zqx (c : zqw) : Spec :=
  ⟨[(false, [.ptr 0 0])], [.cells 77 [.data (.prod (.slice (.int .i64)) (.int .i64))]], [(true, [.data (.prod (.int .i64) (.prod (.int .i64) (.prod (.int .i64) (.int .i64))))])], [.cells 77 [.data (.prod (.slice (.int .i64)) (.int .i64))]], fun x k => c x.2.1.1 (fun r0 r1 => k (((r0, ()), ()), ((r1, ()), ())))⟩
section
variable (c_made_Dice_Next : zqi) (c_made_Dice_One : zqp)
@[reducible] def made_Dice_Channel_X : Ctx := ⟨look tab, pick1 [(14, .spec (zqj c_made_Dice_Next)), (28, .spec (zqq c_made_Dice_One))], false, false, false, false⟩
def zqy {β : Type} (d : (List Int × Int)) (k : ((Int × (Int × (Int × Int))) → (List Int × Int) → Option β)) : Option β :=
  c_made_Dice_Next (3 : Int) d (fun (rNext : Int) (mrNext : (List Int × Int)) =>
  let l : List Int := ([(0 : Int), (30 : Int), (60 : Int), (3600 : Int)] : List Int);
  c_made_Dice_One l mrNext (fun (rOne : Int) (mrOne : (List Int × Int)) =>
  c_made_Dice_Next (4 : Int) mrOne (fun (rNext2 : Int) (mrNext2 : (List Int × Int)) =>
  let l2 : List Int := ([(1 : Int), (30 : Int), (60 : Int), (120 : Int)] : List Int);
  c_made_Dice_One l2 mrNext2 (fun (rOne2 : Int) (mrOne2 : (List Int × Int)) =>
  k (rNext, (rOne, ((IntKind.i64.wrap ((1 : Int) + rNext2)), rOne2))) mrOne2))))
theorem zqz (hΓ : ΓOk Try.prog (made_Dice_Channel_X c_made_Dice_Next c_made_Dice_One).Γ) : SpecOk Try.prog 38 (zqx (zqy c_made_Dice_Next c_made_Dice_One)) :=
  spec_exec (X := (made_Dice_Channel_X c_made_Dice_Next c_made_Dice_One)) (Λ := pick1 []) (rs := [.cell 2 36]) (c := bodyOf Try.f38) mixed tab_ok hΓ Try.func38 (by kernel_rfl) (by kernel_rfl) (by kernel_rfl) (by kernel_rfl) CutsOk_nil (fun x k r h => Eq.trans (b := (zqx (zqy c_made_Dice_Next c_made_Dice_One)).run x k) (by kernel_rfl) h)
end
theorem zq10Γ : ΓOk Try.prog (pick1 [(14, .spec (zqj zqn)), (28, .spec (zqq zqu))]) := (ΓOk_cons zqo (ΓOk_cons zqv ΓOk_nil))
def zq11 : zqw := zqy zqn zqu
theorem zq12 : SpecOk Try.prog 38 (zqx zq11) := zqz zqn zqu zq10Γ

/-- pagewatch/delivery.in -/
abbrev zq13 := {β : Type} → Int → Int → Int → (Bool → Option β) → Option β
def zq14 (c : zq13) : Spec :=
  ⟨[(false, [.data (.int .i64)]), (false, [.data (.int .i64)]), (false, [.data (.int .i64)])], [], [(false, [.data .bool])], [], fun x k => c x.1.1.1 x.1.2.1.1 x.1.2.2.1.1 (fun r0 => k (((r0, ()), ()), ()))⟩
section
@[reducible] def delivery_in_X : Ctx := ⟨look tab, pick1 [], false, false, false, false⟩
def zq15 {β : Type} (n : Int) (low : Int) (high : Int) (k : (Bool → Option β)) : Option β :=
  cond (decide (low ≤ n))
  (k (decide (n ≤ high)))
  (k false)
theorem zq16 (hΓ : ΓOk Try.prog delivery_in_X.Γ) : SpecOk Try.prog 39 (zq14 (zq15)) :=
  spec_exec (X := delivery_in_X) (Λ := pick1 []) (rs := [.tmp 6]) (c := bodyOf Try.f39) mixed tab_ok hΓ Try.func39 (by kernel_rfl) (by kernel_rfl) (by kernel_rfl) (by kernel_rfl) CutsOk_nil (fun x k r h => Eq.trans (b := (zq14 (zq15)).run x k) (by kernel_rfl) h)
end
theorem zq17Γ : ΓOk Try.prog (pick1 []) := ΓOk_nil
def zq18 : zq13 := zq15
theorem zq19 : SpecOk Try.prog 39 (zq14 zq18) := zq16 zq17Γ

/-- (*pagewatch/pagewatchmade.Dice).Fate -/
abbrev zq1a := {β : Type} → (List Int × Int) → (zq0 → (List Int × Int) → Option β) → Option β
def zq1b (c : zq1a) : Spec :=
  ⟨[(false, [.ptr 0 0])], [.cells 77 [.data (.prod (.slice (.int .i64)) (.int .i64))]], [(true, [.data zq1])], [.cells 77 [.data (.prod (.slice (.int .i64)) (.int .i64))]], fun x k => c x.2.1.1 (fun r0 r1 => k (((r0, ()), ()), ((r1, ()), ())))⟩
section
variable (c_made_Dice_Next : zqi) (c_made_Dice_One : zqp)
@[reducible] def made_Dice_Fate_X : Ctx := ⟨look tab, pick1 [(14, .spec (zqj c_made_Dice_Next)), (28, .spec (zqq c_made_Dice_One))], false, false, false, false⟩
def zq1c {β : Type} (d : (List Int × Int)) (k : (zq0 → (List Int × Int) → Option β)) : Option β :=
  c_made_Dice_Next (3 : Int) d (fun (rNext : Int) (mrNext : (List Int × Int)) =>
  let l : List Int := ([(0 : Int), (5 : Int), (30 : Int), (31 : Int), (200 : Int), (86400 : Int), (86401 : Int)] : List Int);
  c_made_Dice_One l mrNext (fun (rOne : Int) (mrOne : (List Int × Int)) =>
  let l2 : List Int := ([(0 : Int), (0 : Int), (7 : Int), (100 : Int), (-1 : Int)] : List Int);
  c_made_Dice_One l2 mrOne (fun (rOne2 : Int) (mrOne2 : (List Int × Int)) =>
  let l3 : List Int := ([(-1 : Int), (0 : Int), (10 : Int), (90 : Int), (-2 : Int)] : List Int);
  c_made_Dice_One l3 mrOne2 (fun (rOne3 : Int) (mrOne3 : (List Int × Int)) =>
  k ((decide (rNext = (0 : Int))), (rOne, (rOne2, rOne3))) mrOne3))))
theorem zq1d (hΓ : ΓOk Try.prog (made_Dice_Fate_X c_made_Dice_Next c_made_Dice_One).Γ) : SpecOk Try.prog 43 (zq1b (zq1c c_made_Dice_Next c_made_Dice_One)) :=
  spec_exec (X := (made_Dice_Fate_X c_made_Dice_Next c_made_Dice_One)) (Λ := pick1 []) (rs := [.cell 2 75]) (c := bodyOf Try.f43) mixed tab_ok hΓ Try.func43 (by kernel_rfl) (by kernel_rfl) (by kernel_rfl) (by kernel_rfl) CutsOk_nil (fun x k r h => Eq.trans (b := (zq1b (zq1c c_made_Dice_Next c_made_Dice_One)).run x k) (by kernel_rfl) h)
end
theorem zq1eΓ : ΓOk Try.prog (pick1 [(14, .spec (zqj zqn)), (28, .spec (zqq zqu))]) := (ΓOk_cons zqo (ΓOk_cons zqv ΓOk_nil))
def zq1f : zq1a := zq1c zqn zqu
theorem zq1g : SpecOk Try.prog 43 (zq1b zq1f) := zq1d zqn zqu zq1eΓ

/-- pagewatch/delivery.Run$1 -/
abbrev zq1h := {β : Type} → Int → (Int × (Int × Int)) → (Bool → (Int × (Int × Int)) → Option β) → Option β
def zq1i (c : zq1h) : Spec :=
  ⟨[(false, [.data (.int .i64)]), (false, [.ptr 0 0])], [.cells 39 [.data (.prod (.int .i64) (.prod (.int .i64) (.int .i64)))]], [(false, [.data .bool])], [.cells 39 [.data (.prod (.int .i64) (.prod (.int .i64) (.int .i64)))]], fun x k => c x.1.1.1 x.2.1.1 (fun r0 r1 => k (((r0, ()), ()), ((r1, ()), ())))⟩
section
@[reducible] def delivery_Run_f1_X : Ctx := ⟨look tab, pick1 [], false, false, false, false⟩
def zq1j {β : Type} (t : Int) (t1 : (Int × (Int × Int))) (k : (Bool → (Int × (Int × Int)) → Option β)) : Option β :=
  k (decide (t ≤ t1.2.2)) t1
theorem zq1k (hΓ : ΓOk Try.prog delivery_Run_f1_X.Γ) : SpecOk Try.prog 45 (zq1i (zq1j)) :=
  spec_exec (X := delivery_Run_f1_X) (Λ := pick1 []) (rs := [.tmp 3]) (c := bodyOf Try.f45) mixed tab_ok hΓ Try.func45 (by kernel_rfl) (by kernel_rfl) (by kernel_rfl) (by kernel_rfl) CutsOk_nil (fun x k r h => Eq.trans (b := (zq1i (zq1j)).run x k) (by kernel_rfl) h)
end
theorem zq1lΓ : ΓOk Try.prog (pick1 []) := ΓOk_nil
def zq1m : zq1h := zq1j
theorem zq1n : SpecOk Try.prog 45 (zq1i zq1m) := zq1k zq1lΓ

/-- slices.Sort[[]int,int] -/
def zq1o : Shelf.Ren :=
      { 
      f := fun x =>
        match x with
        | 189 => 49
        | 125 => 66
        | 257 => 70
        | 128 => 81
        | 129 => 82
        | 294 => 83
        | 295 => 84
        | 296 => 85
        | 297 => 86
        | 298 => 87
        | 299 => 88
        | 216 => 89
        | 300 => 90
        | 301 => 91
        | 328 => 97
        | 329 => 93
        | 330 => 94
        | 331 => 98
        | 332 => 99
        | 215 => 100
        | 343 => 102
        | n => n,
      t := fun x =>
        match x with
        | 28 => 22
        | 3 => 3
        | 46 => 97
        | 0 => 0
        | 51 => 23
        | 53 => 111
        | 4 => 4
        | 183 => 104
        | 182 => 103
        | 131 => 66
        | 5 => 5
        | 9 => 9
        | 218 => 118
        | 222 => 122
        | 228 => 126
        | 229 => 127
        | n => n,
      g := fun x => x }
theorem zq1p : Go.Proofs.Lays.n189 Try.prog zq1o :=
  { mixed := by kernel_rfl,
    f125 := Eq.trans Try.func66 (congrArg some (by kernel_rfl)),
    f128 := Eq.trans Try.func81 (congrArg some (by kernel_rfl)),
    f129 := Eq.trans Try.func82 (congrArg some (by kernel_rfl)),
    f189 := Eq.trans Try.func49 (congrArg some (by kernel_rfl)),
    f215 := Eq.trans Try.func100 (congrArg some (by kernel_rfl)),
    f216 := Eq.trans Try.func89 (congrArg some (by kernel_rfl)),
    f257 := Eq.trans Try.func70 (congrArg some (by kernel_rfl)),
    f294 := Eq.trans Try.func83 (congrArg some (by kernel_rfl)),
    f295 := Eq.trans Try.func84 (congrArg some (by kernel_rfl)),
    f296 := Eq.trans Try.func85 (congrArg some (by kernel_rfl)),
    f297 := Eq.trans Try.func86 (congrArg some (by kernel_rfl)),
    f298 := Eq.trans Try.func87 (congrArg some (by kernel_rfl)),
    f299 := Eq.trans Try.func88 (congrArg some (by kernel_rfl)),
    f300 := Eq.trans Try.func90 (congrArg some (by kernel_rfl)),
    f301 := Eq.trans Try.func91 (congrArg some (by kernel_rfl)),
    f328 := Eq.trans Try.func97 (congrArg some (by kernel_rfl)),
    f329 := Eq.trans Try.func93 (congrArg some (by kernel_rfl)),
    f330 := Eq.trans Try.func94 (congrArg some (by kernel_rfl)),
    f331 := Eq.trans Try.func98 (congrArg some (by kernel_rfl)),
    f332 := Eq.trans Try.func99 (congrArg some (by kernel_rfl)),
    f343 := Eq.trans Try.func102 (congrArg some (by kernel_rfl)),
    t0 := Try.underlying0,
    a0 := Try.isAgg0,
    z0 := Try.sizeOf0,
    v0 := Try.zeroValue0,
    t3 := Try.underlying3,
    a3 := Try.isAgg3,
    z3 := Try.sizeOf3,
    v3 := Try.zeroValue3,
    t4 := Try.underlying4,
    a4 := Try.isAgg4,
    z4 := Try.sizeOf4,
    v4 := Try.zeroValue4,
    t5 := Try.underlying5,
    a5 := Try.isAgg5,
    z5 := Try.sizeOf5,
    v5 := Try.zeroValue5,
    t9 := Try.underlying9,
    a9 := Try.isAgg9,
    z9 := Try.sizeOf9,
    v9 := Try.zeroValue9,
    t28 := Try.underlying22,
    a28 := Try.isAgg22,
    z28 := Try.sizeOf22,
    v28 := Try.zeroValue22,
    t46 := Try.underlying97,
    a46 := Try.isAgg97,
    z46 := Try.sizeOf97,
    v46 := Try.zeroValue97,
    t51 := Try.underlying23,
    a51 := Try.isAgg23,
    z51 := Try.sizeOf23,
    v51 := Try.zeroValue23,
    t53 := Try.underlying111,
    a53 := Try.isAgg111,
    z53 := Try.sizeOf111,
    v53 := Try.zeroValue111,
    t131 := Try.underlying66,
    a131 := Try.isAgg66,
    z131 := Try.sizeOf66,
    v131 := Try.zeroValue66,
    t182 := Try.underlying103,
    a182 := Try.isAgg103,
    z182 := Try.sizeOf103,
    v182 := Try.zeroValue103,
    t183 := Try.underlying104,
    a183 := Try.isAgg104,
    z183 := Try.sizeOf104,
    v183 := Try.zeroValue104,
    t218 := Try.underlying118,
    a218 := Try.isAgg118,
    z218 := Try.sizeOf118,
    v218 := Try.zeroValue118,
    t222 := Try.underlying122,
    a222 := Try.isAgg122,
    z222 := Try.sizeOf122,
    v222 := Try.zeroValue122,
    t228 := Try.underlying126,
    a228 := Try.isAgg126,
    z228 := Try.sizeOf126,
    v228 := Try.zeroValue126,
    t229 := Try.underlying127,
    a229 := Try.isAgg127,
    z229 := Try.sizeOf127,
    v229 := Try.zeroValue127 }
def zq1q : RowF := sortF 3
theorem zq1r : RowOk Try.prog 49 zq1q :=
  sort_rowok zq1p rfl ⟨_, Try.func49, by kernel_rfl, by kernel_rfl⟩

/-- pagewatch/pagewatchref25.In -/
abbrev zq1s := {β : Type} → Int → Int → Int → (Bool → Option β) → Option β
def zq1t (c : zq1s) : Spec :=
  ⟨[(false, [.data (.int .i64)]), (false, [.data (.int .i64)]), (false, [.data (.int .i64)])], [], [(false, [.data .bool])], [], fun x k => c x.1.1.1 x.1.2.1.1 x.1.2.2.1.1 (fun r0 => k (((r0, ()), ()), ()))⟩
section
@[reducible] def ref25_In_X : Ctx := ⟨look tab, pick1 [], false, false, false, false⟩
def zq1u {β : Type} (n : Int) (lo : Int) (hi : Int) (k : (Bool → Option β)) : Option β :=
  cond (decide (lo ≤ n))
  (k (decide (n ≤ hi)))
  (k false)
theorem zq1v (hΓ : ΓOk Try.prog ref25_In_X.Γ) : SpecOk Try.prog 56 (zq1t (zq1u)) :=
  spec_exec (X := ref25_In_X) (Λ := pick1 []) (rs := [.tmp 6]) (c := bodyOf Try.f56) mixed tab_ok hΓ Try.func56 (by kernel_rfl) (by kernel_rfl) (by kernel_rfl) (by kernel_rfl) CutsOk_nil (fun x k r h => Eq.trans (b := (zq1t (zq1u)).run x k) (by kernel_rfl) h)
end
theorem zq1wΓ : ΓOk Try.prog (pick1 []) := ΓOk_nil
def zq1x : zq1s := zq1u
theorem zq1y : SpecOk Try.prog 56 (zq1t zq1x) := zq1v zq1wΓ

/-- pagewatch/pagewatchref27.ahead -/
abbrev zq1z := {β : Type} → (Int × (Int × Int)) → (Int × (Int × Int)) → (Bool → Option β) → Option β
def zq20 (c : zq1z) : Spec :=
  ⟨[(true, [.data (.prod (.int .i64) (.prod (.int .i64) (.int .i64)))]), (true, [.data (.prod (.int .i64) (.prod (.int .i64) (.int .i64)))])], [], [(false, [.data .bool])], [], fun x k => c x.1.1.1 x.1.2.1.1 (fun r0 => k (((r0, ()), ()), ()))⟩
section
@[reducible] def ref27_ahead_X : Ctx := ⟨look tab, pick1 [], false, false, false, false⟩
def zq21 {β : Type} (a : (Int × (Int × Int))) (b : (Int × (Int × Int))) (k : (Bool → Option β)) : Option β :=
  cond (!decide (a.2.2 = b.2.2))
  (k (decide (a.2.2 < b.2.2)))
  (cond (!decide (a.1 = b.1))
  (k (decide (a.1 < b.1)))
  (k (decide (a.2.1 < b.2.1))))
theorem zq22 (hΓ : ΓOk Try.prog ref27_ahead_X.Γ) : SpecOk Try.prog 57 (zq20 (zq21)) :=
  spec_exec (X := ref27_ahead_X) (Λ := pick1 []) (rs := [.tmp 4]) (c := bodyOf Try.f57) mixed tab_ok hΓ Try.func57 (by kernel_rfl) (by kernel_rfl) (by kernel_rfl) (by kernel_rfl) CutsOk_nil (fun x k r h => Eq.trans (b := (zq20 (zq21)).run x k) (by kernel_rfl) h)
end
theorem zq23Γ : ΓOk Try.prog (pick1 []) := ΓOk_nil
def zq24 : zq1z := zq21
theorem zq25 : SpecOk Try.prog 57 (zq20 zq24) := zq22 zq23Γ

/-- pagewatch/delivery.person -/
abbrev zq26 := {β : Type} → Int → (Bool → Option β) → Option β
def zq27 (c : zq26) : Spec :=
  ⟨[(false, [.data (.int .i64)])], [], [(false, [.data .bool])], [], fun x k => c x.1.1.1 (fun r0 => k (((r0, ()), ()), ()))⟩
section
variable (c_delivery_in : zq13)
@[reducible] def delivery_person_X : Ctx := ⟨look tab, pick1 [(39, .spec (zq14 c_delivery_in))], false, false, false, false⟩
def zq28 {β : Type} (n : Int) (k : (Bool → Option β)) : Option β :=
  c_delivery_in n (0 : Int) (31 : Int) (fun (rin : Bool) =>
  k rin)
theorem zq29 (hΓ : ΓOk Try.prog (delivery_person_X c_delivery_in).Γ) : SpecOk Try.prog 60 (zq27 (zq28 c_delivery_in)) :=
  spec_exec (X := (delivery_person_X c_delivery_in)) (Λ := pick1 []) (rs := [.tmp 2]) (c := bodyOf Try.f60) mixed tab_ok hΓ Try.func60 (by kernel_rfl) (by kernel_rfl) (by kernel_rfl) (by kernel_rfl) CutsOk_nil (fun x k r h => Eq.trans (b := (zq27 (zq28 c_delivery_in)).run x k) (by kernel_rfl) h)
end
theorem zq2aΓ : ΓOk Try.prog (pick1 [(39, .spec (zq14 zq18))]) := (ΓOk_cons zq19 ΓOk_nil)
def zq2b : zq26 := zq28 zq18
theorem zq2c : SpecOk Try.prog 60 (zq27 zq2b) := zq29 zq18 zq2aΓ

/-- pagewatch/channel.in -/
abbrev zq2d := {β : Type} → Int → Int → Int → (Bool → Option β) → Option β
def zq2e (c : zq2d) : Spec :=
  ⟨[(false, [.data (.int .i64)]), (false, [.data (.int .i64)]), (false, [.data (.int .i64)])], [], [(false, [.data .bool])], [], fun x k => c x.1.1.1 x.1.2.1.1 x.1.2.2.1.1 (fun r0 => k (((r0, ()), ()), ()))⟩
section
@[reducible] def channel_in_X : Ctx := ⟨look tab, pick1 [], false, false, false, false⟩
def zq2f {β : Type} (n : Int) (low : Int) (high : Int) (k : (Bool → Option β)) : Option β :=
  cond (decide (low ≤ n))
  (k (decide (n ≤ high)))
  (k false)
theorem zq2g (hΓ : ΓOk Try.prog channel_in_X.Γ) : SpecOk Try.prog 68 (zq2e (zq2f)) :=
  spec_exec (X := channel_in_X) (Λ := pick1 []) (rs := [.tmp 6]) (c := bodyOf Try.f68) mixed tab_ok hΓ Try.func68 (by kernel_rfl) (by kernel_rfl) (by kernel_rfl) (by kernel_rfl) CutsOk_nil (fun x k r h => Eq.trans (b := (zq2e (zq2f)).run x k) (by kernel_rfl) h)
end
theorem zq2hΓ : ΓOk Try.prog (pick1 []) := ΓOk_nil
def zq2i : zq2d := zq2f
theorem zq2j : SpecOk Try.prog 68 (zq2e zq2i) := zq2g zq2hΓ

/-- pagewatch/channel.ValidFate -/
abbrev zq2k := {β : Type} → zq0 → (Bool → Option β) → Option β
def zq2l (c : zq2k) : Spec :=
  ⟨[(true, [.data zq1])], [], [(false, [.data .bool])], [], fun x k => c x.1.1.1 (fun r0 => k (((r0, ()), ()), ()))⟩
section
variable (c_channel_in : zq2d)
@[reducible] def channel_ValidFate_X : Ctx := ⟨look tab, pick1 [(68, .spec (zq2e c_channel_in))], false, false, false, false⟩
def zq2m {β : Type} (f : zq0) (k : (Bool → Option β)) : Option β :=
  c_channel_in f.2.1 (0 : Int) (86400 : Int) (fun (rin : Bool) =>
  cond rin
  (c_channel_in f.2.2.1 (0 : Int) (86400 : Int) (fun (rin2 : Bool) =>
  cond rin2
  (c_channel_in f.2.2.2 (-1 : Int) (86400 : Int) (fun (rin3 : Bool) =>
  k rin3))
  (k false)))
  (k false))
theorem zq2n (hΓ : ΓOk Try.prog (channel_ValidFate_X c_channel_in).Γ) : SpecOk Try.prog 69 (zq2l (zq2m c_channel_in)) :=
  spec_exec (X := (channel_ValidFate_X c_channel_in)) (Λ := pick1 []) (rs := [.tmp 2]) (c := bodyOf Try.f69) mixed tab_ok hΓ Try.func69 (by kernel_rfl) (by kernel_rfl) (by kernel_rfl) (by kernel_rfl) CutsOk_nil (fun x k r h => Eq.trans (b := (zq2l (zq2m c_channel_in)).run x k) (by kernel_rfl) h)
end
theorem zq2oΓ : ΓOk Try.prog (pick1 [(68, .spec (zq2e zq2i))]) := (ΓOk_cons zq2j ΓOk_nil)
def zq2p : zq2k := zq2m zq2i
theorem zq2q : SpecOk Try.prog 69 (zq2l zq2p) := zq2n zq2i zq2oΓ

/-- pagewatch/pagewatchref26.ValidFate -/
abbrev zq2r := {β : Type} → zq0 → (Bool → Option β) → Option β
def zq2s (c : zq2r) : Spec :=
  ⟨[(true, [.data zq1])], [], [(false, [.data .bool])], [], fun x k => c x.1.1.1 (fun r0 => k (((r0, ()), ()), ()))⟩
section
variable (c_ref25_In : zq1s)
@[reducible] def ref26_ValidFate_X : Ctx := ⟨look tab, pick1 [(56, .spec (zq1t c_ref25_In))], false, false, false, false⟩
def zq2t {β : Type} (f : zq0) (k : (Bool → Option β)) : Option β :=
  c_ref25_In f.2.1 (0 : Int) (86400 : Int) (fun (rIn : Bool) =>
  cond rIn
  (c_ref25_In f.2.2.1 (0 : Int) (86400 : Int) (fun (rIn2 : Bool) =>
  cond rIn2
  (c_ref25_In f.2.2.2 (-1 : Int) (86400 : Int) (fun (rIn3 : Bool) =>
  k rIn3))
  (k false)))
  (k false))
theorem zq2u (hΓ : ΓOk Try.prog (ref26_ValidFate_X c_ref25_In).Γ) : SpecOk Try.prog 71 (zq2s (zq2t c_ref25_In)) :=
  spec_exec (X := (ref26_ValidFate_X c_ref25_In)) (Λ := pick1 []) (rs := [.tmp 2]) (c := bodyOf Try.f71) mixed tab_ok hΓ Try.func71 (by kernel_rfl) (by kernel_rfl) (by kernel_rfl) (by kernel_rfl) CutsOk_nil (fun x k r h => Eq.trans (b := (zq2s (zq2t c_ref25_In)).run x k) (by kernel_rfl) h)
end
theorem zq2vΓ : ΓOk Try.prog (pick1 [(56, .spec (zq1t zq1x))]) := (ΓOk_cons zq1y ΓOk_nil)
def zq2w : zq2r := zq2t zq1x
theorem zq2x : SpecOk Try.prog 71 (zq2s zq2w) := zq2u zq1x zq2vΓ

/-- (*pagewatch/pagewatchmade.Dice).Person -/
abbrev zq2y := {β : Type} → Int → (List Int × Int) → ((Int × List (Int × (Int × (Int × Int)))) → (List Int × Int) → Option β) → Option β
def zq2z (c : zq2y) : Spec :=
  ⟨[(false, [.ptr 0 0]), (false, [.data (.int .i64)])], [.cells 77 [.data (.prod (.slice (.int .i64)) (.int .i64))]], [(true, [.data (.prod (.int .i64) (.slice (.prod (.int .i64) (.prod (.int .i64) (.prod (.int .i64) (.int .i64))))))])], [.cells 77 [.data (.prod (.slice (.int .i64)) (.int .i64))]], fun x k => c x.1.2.1.1 x.2.1.1 (fun r0 r1 => k (((r0, ()), ()), ((r1, ()), ())))⟩
noncomputable def made_Dice_Person_p1_code : Code := codeAt 58 (bodyOf Try.f12)
abbrev zq30 (β : Type) := (List Int) → Int → Int → Int → (List (Int × (Int × (Int × Int)))) → (List (Int × (Int × (Int × Int)))) → Option β
abbrev zq31 := {β : Type} → zq30 β → Int → (List Int) → Int → Int → Int → (List (Int × (Int × (Int × Int)))) → (List (Int × (Int × (Int × Int)))) → Option β
def zq32 : View := ⟨1, [0, 4, 5, 6], [(false, [.ptr 0 0]), (false, [.ptr 1 0]), (false, [.ptr 2 0]), (false, [.data (.int .i64)])], [.cells 77 [.data (.slice (.int .i64)), .data (.int .i64)], .cells 29 [.data (.int .i64), .rowh 3], .cells 29 [.data (.int .i64), .rowh 4], .row 36 (.prod (.int .i64) (.prod (.int .i64) (.prod (.int .i64) (.int .i64)))), .row 36 (.prod (.int .i64) (.prod (.int .i64) (.prod (.int .i64) (.int .i64))))]⟩
def zq33 : List (AExit × View) := [(.exit 0, ⟨1, [4, 5], [(false, [.ptr 1 0]), (false, [.ptr 2 0])], [.cells 77 [.data (.slice (.int .i64)), .data (.int .i64)], .cells 29 [.data (.int .i64), .rowh 3], .cells 29 [.data (.int .i64), .rowh 4], .row 36 (.prod (.int .i64) (.prod (.int .i64) (.prod (.int .i64) (.int .i64)))), .row 36 (.prod (.int .i64) (.prod (.int .i64) (.prod (.int .i64) (.int .i64))))]⟩)]
@[reducible] def made_Dice_Person_p1_G (p : zq31) {β : Type} (d : zq32.den) (ks : Outs.K β zq33) : Option β :=
  p (fun a0 a1 a2 a3 a4 a5 => ks.1 (((), (), ()), ((a0, a1, ()), (a2, ()), (a3, ()), a4, a5, ()))) d.1.2.2.2.1.1 d.2.1.1 d.2.1.2.1 d.2.2.1.1 d.2.2.2.1.1 d.2.2.2.2.1 d.2.2.2.2.2.1
section
variable (c_made_Dice_Channel : zqw) (c_made_Dice_Next : zqi)
@[reducible] def made_Dice_Person_X : Ctx := ⟨look tab, pick1 [(38, .spec (zqx c_made_Dice_Channel)), (14, .spec (zqj c_made_Dice_Next))], false, false, false, false⟩
def zq34 {β : Type} (rec : Int → (List Int) → Int → Int → Int → (List (Int × (Int × (Int × Int)))) → (List (Int × (Int × (Int × Int)))) → Option β) (k1 : zq30 β) (i_ : Int) (d : List Int) (d2 : Int) (t4 : Int) (p_ : Int) (b3_ : List (Int × (Int × (Int × Int)))) (b4_ : List (Int × (Int × (Int × Int)))) : Option β :=
  cond (decide ((0 : Int) < i_))
  (c_made_Dice_Channel (d, d2) (fun (rChannel : (Int × (Int × (Int × Int)))) (mrChannel : (List Int × Int)) =>
  let l : List (Int × (Int × (Int × Int))) := ([rChannel] : List (Int × (Int × (Int × Int))));
  cond (decide ((List.length b4_ + List.length l) * 32 ≤ roomMax))
  (let l2 : List (Int × (Int × (Int × Int))) := (b4_ ++ l);
  let i_2 : Int := (IntKind.i64.wrap (i_ - (1 : Int)));
  rec i_2 mrChannel.1 mrChannel.2 t4 p_ b3_ l2)
  none))
  (k1 d d2 t4 p_ b3_ b4_)
def zq35 {β : Type} : Nat → zq30 β → Int → (List Int) → Int → Int → Int → (List (Int × (Int × (Int × Int)))) → (List (Int × (Int × (Int × Int)))) → Option β
  | 0 => fun _ _ _ _ _ _ _ _ => none
  | i + 1 => fun k1 i_ d d2 t4 p_ b3_ b4_ => zq34 c_made_Dice_Channel (zq35 i k1) k1 i_ d d2 t4 p_ b3_ b4_
theorem zq36 (hΓ : ΓOk Try.prog (made_Dice_Person_X c_made_Dice_Channel c_made_Dice_Next).Γ) (i : Nat) : PieceOk Try.prog 23 1 made_Dice_Person_p1_code zq32 zq33 (made_Dice_Person_p1_G (zq35 c_made_Dice_Channel i)) := by
  rw [show made_Dice_Person_p1_code = .loop (loopBody made_Dice_Person_p1_code) by kernel_rfl]
  exact piece_loop (X := (made_Dice_Person_X c_made_Dice_Channel c_made_Dice_Next)) (p := 1) (Λ := pick1 []) (G := fun i => @fun β d ks => made_Dice_Person_p1_G (zq35 c_made_Dice_Channel i) d ks) mixed tab_ok hΓ rfl (by kernel_rfl) CutsOk_nil (fun _ _ => rfl) (fun i => @fun β d ks r h => Eq.trans (b := made_Dice_Person_p1_G (zq35 c_made_Dice_Channel (i + 1)) d ks) (by kernel_rfl) h) i
def zq37 (p1 : zq31) {β : Type} (person : Int) (d : (List Int × Int)) (k : ((Int × List (Int × (Int × (Int × Int)))) → (List Int × Int) → Option β)) : Option β :=
  c_made_Dice_Next (4 : Int) d (fun (rNext : Int) (mrNext : (List Int × Int)) =>
  p1 (fun (b0_ : List Int) (b0_2 : Int) (t4 : Int) (p_ : Int) (b3_ : List (Int × (Int × (Int × Int)))) (b4_ : List (Int × (Int × (Int × Int)))) =>
  k (p_, b4_) (b0_, b0_2)) rNext mrNext.1 mrNext.2 (0 : Int) person ([] : List (Int × (Int × (Int × Int)))) ([] : List (Int × (Int × (Int × Int)))))
theorem zq38 (hΓ : ΓOk Try.prog (made_Dice_Person_X c_made_Dice_Channel c_made_Dice_Next).Γ) (p1 : zq31) (hp1 : PieceOk Try.prog 23 1 made_Dice_Person_p1_code zq32 zq33 (made_Dice_Person_p1_G p1)) : SpecOk Try.prog 12 (zq2z (zq37 c_made_Dice_Next p1)) :=
  spec_exec (X := (made_Dice_Person_X c_made_Dice_Channel c_made_Dice_Next)) (Λ := pick1 [(58, pieceCut zq32 zq33 (made_Dice_Person_p1_G p1))]) (rs := [.cell 4 29]) (c := bodyOf Try.f12) mixed tab_ok hΓ Try.func12 (by kernel_rfl) (by kernel_rfl) (by kernel_rfl) (by kernel_rfl) (CutsOk_cons (q := 58) (c' := made_Dice_Person_p1_code) (by kernel_rfl) rfl hp1 CutsOk_nil) (fun x k r h => Eq.trans (b := (zq2z (zq37 c_made_Dice_Next p1)).run x k) (by kernel_rfl) h)
end
theorem zq39Γ : ΓOk Try.prog (pick1 [(38, .spec (zqx zq11)), (14, .spec (zqj zqn))]) := (ΓOk_cons zq12 (ΓOk_cons zqo ΓOk_nil))
def zq3a (m : Nat) : zq31 := zq35 zq11 m
theorem zq3b {β : Type} (i : Nat) (k1 i_ d d2 t4 p_ b3_ b4_) : (zq3a (i + 1) k1 i_ d d2 t4 p_ b3_ b4_ : Option β) = zq34 zq11 (zq3a i k1) k1 i_ d d2 t4 p_ b3_ b4_ := rfl
def zq3c : zq31 := zq3a fuel
theorem zq3d : PieceOk Try.prog 23 1 made_Dice_Person_p1_code zq32 zq33 (made_Dice_Person_p1_G zq3c) := zq36 zq11 zqn zq39Γ fuel
def zq3e : zq2y := zq37 zqn zq3c
theorem zq3f : SpecOk Try.prog 12 (zq2z zq3e) := zq38 zq11 zqn zq39Γ zq3c zq3d

/-- (*pagewatch/pagewatchmade.Dice).Fates -/
abbrev zq3g := {β : Type} → (List Int × Int) → ((List Int × Int) → (List zq0) → Option β) → Option β
def zq3h (c : zq3g) : Spec :=
  ⟨[(false, [.ptr 0 0])], [.cells 77 [.data (.prod (.slice (.int .i64)) (.int .i64))]], [(false, [.rowh 1])], [.cells 77 [.data (.prod (.slice (.int .i64)) (.int .i64))], .row 75 zq1], fun x k => c x.2.1.1 (fun r0 r1 => k (((), ()), ((r0, ()), r1, ())))⟩
noncomputable def made_Dice_Fates_p1_code : Code := codeAt 58 (bodyOf Try.f15)
abbrev zq3i (β : Type) := (List Int) → Int → (List zq0) → Option β
abbrev zq3j := {β : Type} → zq3i β → Int → (List Int) → Int → (List zq0) → Option β
def zq3k : View := ⟨1, [0, 3, 4], [(false, [.ptr 0 0]), (false, [.rowh 1]), (false, [.data (.int .i64)])], [.cells 77 [.data (.slice (.int .i64)), .data (.int .i64)], .row 75 zq1]⟩
def zq3l : List (AExit × View) := [(.exit 0, ⟨1, [3], [(false, [.rowh 1])], [.cells 77 [.data (.slice (.int .i64)), .data (.int .i64)], .row 75 zq1]⟩)]
@[reducible] def made_Dice_Fates_p1_G (p : zq3j) {β : Type} (d : zq3k.den) (ks : Outs.K β zq3l) : Option β :=
  p (fun a0 a1 a2 => ks.1 (((), ()), ((a0, a1, ()), a2, ()))) d.1.2.2.1.1 d.2.1.1 d.2.1.2.1 d.2.2.1
section
variable (c_made_Dice_Fate : zq1a) (c_made_Dice_Next : zqi)
@[reducible] def made_Dice_Fates_X : Ctx := ⟨look tab, pick1 [(43, .spec (zq1b c_made_Dice_Fate)), (14, .spec (zqj c_made_Dice_Next))], false, false, false, false⟩
def zq3m {β : Type} (rec : Int → (List Int) → Int → (List zq0) → Option β) (k1 : zq3i β) (i_ : Int) (d : List Int) (d2 : Int) (out : List zq0) : Option β :=
  cond (decide ((0 : Int) < i_))
  (c_made_Dice_Fate (d, d2) (fun (rFate : zq0) (mrFate : (List Int × Int)) =>
  let l : List zq0 := ([rFate] : List zq0);
  cond (decide ((List.length out + List.length l) * 32 ≤ roomMax))
  (let l2 : List zq0 := (out ++ l);
  let i_2 : Int := (IntKind.i64.wrap (i_ - (1 : Int)));
  rec i_2 mrFate.1 mrFate.2 l2)
  none))
  (k1 d d2 out)
def zq3n {β : Type} : Nat → zq3i β → Int → (List Int) → Int → (List zq0) → Option β
  | 0 => fun _ _ _ _ _ => none
  | i + 1 => fun k1 i_ d d2 out => zq3m c_made_Dice_Fate (zq3n i k1) k1 i_ d d2 out
theorem zq3o (hΓ : ΓOk Try.prog (made_Dice_Fates_X c_made_Dice_Fate c_made_Dice_Next).Γ) (i : Nat) : PieceOk Try.prog 17 1 made_Dice_Fates_p1_code zq3k zq3l (made_Dice_Fates_p1_G (zq3n c_made_Dice_Fate i)) := by
  rw [show made_Dice_Fates_p1_code = .loop (loopBody made_Dice_Fates_p1_code) by kernel_rfl]
  exact piece_loop (X := (made_Dice_Fates_X c_made_Dice_Fate c_made_Dice_Next)) (p := 1) (Λ := pick1 []) (G := fun i => @fun β d ks => made_Dice_Fates_p1_G (zq3n c_made_Dice_Fate i) d ks) mixed tab_ok hΓ rfl (by kernel_rfl) CutsOk_nil (fun _ _ => rfl) (fun i => @fun β d ks r h => Eq.trans (b := made_Dice_Fates_p1_G (zq3n c_made_Dice_Fate (i + 1)) d ks) (by kernel_rfl) h) i
def zq3p (p1 : zq3j) {β : Type} (d : (List Int × Int)) (k : ((List Int × Int) → (List zq0) → Option β)) : Option β :=
  c_made_Dice_Next (5 : Int) d (fun (rNext : Int) (mrNext : (List Int × Int)) =>
  p1 (fun (b0_ : List Int) (b0_2 : Int) (out : List zq0) =>
  k (b0_, b0_2) out) rNext mrNext.1 mrNext.2 ([] : List zq0))
theorem zq3q (hΓ : ΓOk Try.prog (made_Dice_Fates_X c_made_Dice_Fate c_made_Dice_Next).Γ) (p1 : zq3j) (hp1 : PieceOk Try.prog 17 1 made_Dice_Fates_p1_code zq3k zq3l (made_Dice_Fates_p1_G p1)) : SpecOk Try.prog 15 (zq3h (zq3p c_made_Dice_Next p1)) :=
  spec_exec (X := (made_Dice_Fates_X c_made_Dice_Fate c_made_Dice_Next)) (Λ := pick1 [(58, pieceCut zq3k zq3l (made_Dice_Fates_p1_G p1))]) (rs := [.tmp 2]) (c := bodyOf Try.f15) mixed tab_ok hΓ Try.func15 (by kernel_rfl) (by kernel_rfl) (by kernel_rfl) (by kernel_rfl) (CutsOk_cons (q := 58) (c' := made_Dice_Fates_p1_code) (by kernel_rfl) rfl hp1 CutsOk_nil) (fun x k r h => Eq.trans (b := (zq3h (zq3p c_made_Dice_Next p1)).run x k) (by kernel_rfl) h)
end
theorem zq3rΓ : ΓOk Try.prog (pick1 [(43, .spec (zq1b zq1f)), (14, .spec (zqj zqn))]) := (ΓOk_cons zq1g (ΓOk_cons zqo ΓOk_nil))
def zq3s (m : Nat) : zq3j := zq3n zq1f m
theorem zq3t {β : Type} (i : Nat) (k1 i_ d d2 out) : (zq3s (i + 1) k1 i_ d d2 out : Option β) = zq3m zq1f (zq3s i k1) k1 i_ d d2 out := rfl
def zq3u : zq3j := zq3s fuel
theorem zq3v : PieceOk Try.prog 17 1 made_Dice_Fates_p1_code zq3k zq3l (made_Dice_Fates_p1_G zq3u) := zq3o zq1f zqn zq3rΓ fuel
def zq3w : zq3g := zq3p zqn zq3u
theorem zq3x : SpecOk Try.prog 15 (zq3h zq3w) := zq3q zq1f zqn zq3rΓ zq3u zq3v

/-- pagewatch/channel.Fates -/
abbrev zq3y := {β : Type} → (List zq0) → Int → (zq0 → Option β) → Option β
def zq3z (c : zq3y) : Spec :=
  ⟨[(false, [.data (.slice zq1)]), (false, [.data (.int .i64)])], [], [(true, [.data zq1])], [], fun x k => c x.1.1.1 x.1.2.1.1 (fun r0 => k (((r0, ()), ()), ()))⟩
section
variable (c_channel_ValidFate : zq2k) (c_channel_in : zq2d)
@[reducible] def channel_Fates_X : Ctx := ⟨look tab, pick1 [(69, .spec (zq2l c_channel_ValidFate)), (68, .spec (zq2e c_channel_in))], false, false, false, false⟩
def zq40 {β : Type} (l : List zq0) (k_ : Int) (k : (zq0 → Option β)) : Option β :=
  c_channel_in k_ (0 : Int) (IntKind.i64.wrap ((List.length l : Int) - (1 : Int))) (fun (rin : Bool) =>
  cond rin
  (cond (decide (0 ≤ k_) && decide (k_ < (List.length l : Int)))
  (let e : zq0 := List.getD l (Int.toNat k_) (false, ((0 : Int), ((0 : Int), (0 : Int))));
  c_channel_ValidFate e (fun (rValidFate : Bool) =>
  cond rValidFate
  (cond (decide (0 ≤ k_) && decide (k_ < (List.length l : Int)))
  (let e2 : zq0 := List.getD l (Int.toNat k_) (false, ((0 : Int), ((0 : Int), (0 : Int))));
  k e2)
  none)
  (k (true, ((0 : Int), ((0 : Int), (0 : Int)))))))
  none)
  (k (true, ((0 : Int), ((0 : Int), (0 : Int))))))
theorem zq41 (hΓ : ΓOk Try.prog (channel_Fates_X c_channel_ValidFate c_channel_in).Γ) : SpecOk Try.prog 46 (zq3z (zq40 c_channel_ValidFate c_channel_in)) :=
  spec_exec (X := (channel_Fates_X c_channel_ValidFate c_channel_in)) (Λ := pick1 []) (rs := [.cell 4 75]) (c := bodyOf Try.f46) mixed tab_ok hΓ Try.func46 (by kernel_rfl) (by kernel_rfl) (by kernel_rfl) (by kernel_rfl) CutsOk_nil (fun x k r h => Eq.trans (b := (zq3z (zq40 c_channel_ValidFate c_channel_in)).run x k) (by kernel_rfl) h)
end
theorem zq42Γ : ΓOk Try.prog (pick1 [(69, .spec (zq2l zq2p)), (68, .spec (zq2e zq2i))]) := (ΓOk_cons zq2q (ΓOk_cons zq2j ΓOk_nil))
def zq43 : zq3y := zq40 zq2p zq2i
theorem zq44 : SpecOk Try.prog 46 (zq3z zq43) := zq41 zq2p zq2i zq42Γ

/-- pagewatch/channel.Arrivals -/
abbrev zq45 := {β : Type} → Int → zq0 → ((List Int) → Option β) → Option β
def zq46 (c : zq45) : Spec :=
  ⟨[(false, [.data (.int .i64)]), (true, [.data zq1])], [], [(false, [.rowh 0])], [.row 3 (.int .i64)], fun x k => c x.1.1.1 x.1.2.1.1 (fun r0 => k (((), ()), (r0, ())))⟩
section
variable (c_channel_ValidFate : zq2k) (c_channel_in : zq2d)
@[reducible] def channel_Arrivals_X : Ctx := ⟨look tab, pick1 [(69, .spec (zq2l c_channel_ValidFate)), (68, .spec (zq2e c_channel_in))], false, false, false, false⟩
def zq47 {β : Type} (at_ : Int) (f : zq0) (k : ((List Int) → Option β)) : Option β :=
  c_channel_in at_ (0 : Int) (8589956192 : Int) (fun (rin : Bool) =>
  cond (!rin)
  (k ([] : List Int))
  (c_channel_ValidFate f (fun (rValidFate : Bool) =>
  cond (!rValidFate)
  (k ([] : List Int))
  (cond f.1
  (k ([] : List Int))
  (let l : List Int := ([(IntKind.i64.wrap (at_ + f.2.1))] : List Int);
  cond (!decide (f.2.2.1 = (0 : Int)))
  (let l2 : List Int := ([(IntKind.i64.wrap ((IntKind.i64.wrap (at_ + f.2.1)) + f.2.2.1))] : List Int);
  cond (decide ((List.length l + List.length l2) * 8 ≤ roomMax))
  (let l3 : List Int := (l ++ l2);
  k l3)
  none)
  (k l))))))
theorem zq48 (hΓ : ΓOk Try.prog (channel_Arrivals_X c_channel_ValidFate c_channel_in).Γ) : SpecOk Try.prog 47 (zq46 (zq47 c_channel_ValidFate c_channel_in)) :=
  spec_exec (X := (channel_Arrivals_X c_channel_ValidFate c_channel_in)) (Λ := pick1 []) (rs := [.tmp 4]) (c := bodyOf Try.f47) mixed tab_ok hΓ Try.func47 (by kernel_rfl) (by kernel_rfl) (by kernel_rfl) (by kernel_rfl) CutsOk_nil (fun x k r h => Eq.trans (b := (zq46 (zq47 c_channel_ValidFate c_channel_in)).run x k) (by kernel_rfl) h)
end
theorem zq49Γ : ΓOk Try.prog (pick1 [(69, .spec (zq2l zq2p)), (68, .spec (zq2e zq2i))]) := (ΓOk_cons zq2q (ΓOk_cons zq2j ΓOk_nil))
def zq4a : zq45 := zq47 zq2p zq2i
theorem zq4b : SpecOk Try.prog 47 (zq46 zq4a) := zq48 zq2p zq2i zq49Γ

/-- pagewatch/channel.Receipts -/
abbrev zq4c := {β : Type} → Int → zq0 → ((List Int) → Option β) → Option β
def zq4d (c : zq4c) : Spec :=
  ⟨[(false, [.data (.int .i64)]), (true, [.data zq1])], [], [(false, [.rowh 0])], [.row 3 (.int .i64)], fun x k => c x.1.1.1 x.1.2.1.1 (fun r0 => k (((), ()), (r0, ())))⟩
noncomputable def channel_Receipts_p1_code : Code := codeAt 122 (bodyOf Try.f48)
abbrev zq4e (β : Type) := (List Int) → Option β
abbrev zq4f := {β : Type} → zq4e β → Int → Int → Bool → Int → Int → Int → (List Int) → Option β
def zq4g : View := ⟨0, [3, 5, 14, 15], [(false, [.ptr 0 0]), (false, [.rowh 1]), (false, [.data (.int .i64)]), (false, [.data (.int .i64)])], [.cells 75 [.data .bool, .data (.int .i64), .data (.int .i64), .data (.int .i64)], .row 3 (.int .i64)]⟩
def zq4h : List (AExit × View) := [(.exit 0, ⟨0, [5], [(false, [.rowh 0])], [.row 3 (.int .i64)]⟩)]
@[reducible] def channel_Receipts_p1_G (p : zq4f) {β : Type} (d : zq4g.den) (ks : Outs.K β zq4h) : Option β :=
  p (fun a0 => ks.1 (((), ()), (a0, ()))) d.1.2.2.1.1 d.1.2.2.2.1.1 d.2.1.1 d.2.1.2.1 d.2.1.2.2.1 d.2.1.2.2.2.1 d.2.2.1
section
variable (c_channel_Arrivals : zq45)
@[reducible] def channel_Receipts_X : Ctx := ⟨look tab, pick1 [(47, .spec (zq46 c_channel_Arrivals))], false, false, false, false⟩
def zq4i {β : Type} (rec : Int → Int → Bool → Int → Int → Int → (List Int) → Option β) (k1 : zq4e β) (t14 : Int) (t15 : Int) (f : Bool) (f2 : Int) (f3 : Int) (f4 : Int) (out : List Int) : Option β :=
  cond (decide (t15 < t14))
  (cond (decide (0 ≤ t15) && decide (t15 < (List.length out : Int)))
  (cond (decide (0 ≤ t15) && decide (t15 < (List.length out : Int)))
  (let l : List Int := (List.set out (Int.toNat t15) (IntKind.i64.wrap ((List.getD out (Int.toNat t15) (0 : Int)) + f4)));
  rec t14 (IntKind.i64.wrap (t15 + (1 : Int))) f f2 f3 f4 l)
  none)
  none)
  (k1 out)
def zq4j {β : Type} : Nat → zq4e β → Int → Int → Bool → Int → Int → Int → (List Int) → Option β
  | 0 => fun _ _ _ _ _ _ _ _ => none
  | i + 1 => fun k1 t14 t15 f f2 f3 f4 out => zq4i (zq4j i k1) k1 t14 t15 f f2 f3 f4 out
theorem zq4k (hΓ : ΓOk Try.prog (channel_Receipts_X c_channel_Arrivals).Γ) (i : Nat) : PieceOk Try.prog 28 0 channel_Receipts_p1_code zq4g zq4h (channel_Receipts_p1_G (zq4j i)) := by
  rw [show channel_Receipts_p1_code = .loop (loopBody channel_Receipts_p1_code) by kernel_rfl]
  exact piece_loop (X := (channel_Receipts_X c_channel_Arrivals)) (p := 1) (Λ := pick1 []) (G := fun i => @fun β d ks => channel_Receipts_p1_G (zq4j i) d ks) mixed tab_ok hΓ rfl (by kernel_rfl) CutsOk_nil (fun _ _ => rfl) (fun i => @fun β d ks r h => Eq.trans (b := channel_Receipts_p1_G (zq4j (i + 1)) d ks) (by kernel_rfl) h) i
def zq4l (p1 : zq4f) {β : Type} (at_ : Int) (f : zq0) (k : ((List Int) → Option β)) : Option β :=
  c_channel_Arrivals at_ f (fun (lrArrivals : List Int) =>
  cond (decide (f.2.2.2 = (-1 : Int)))
  (k ([] : List Int))
  (p1 (fun (out : List Int) =>
  k out) (List.length lrArrivals : Int) (0 : Int) f.1 f.2.1 f.2.2.1 f.2.2.2 lrArrivals))
theorem zq4m (hΓ : ΓOk Try.prog (channel_Receipts_X c_channel_Arrivals).Γ) (p1 : zq4f) (hp1 : PieceOk Try.prog 28 0 channel_Receipts_p1_code zq4g zq4h (channel_Receipts_p1_G p1)) : SpecOk Try.prog 48 (zq4d (zq4l c_channel_Arrivals p1)) :=
  spec_exec (X := (channel_Receipts_X c_channel_Arrivals)) (Λ := pick1 [(122, pieceCut zq4g zq4h (channel_Receipts_p1_G p1))]) (rs := [.tmp 4]) (c := bodyOf Try.f48) mixed tab_ok hΓ Try.func48 (by kernel_rfl) (by kernel_rfl) (by kernel_rfl) (by kernel_rfl) (CutsOk_cons (q := 122) (c' := channel_Receipts_p1_code) (by kernel_rfl) rfl hp1 CutsOk_nil) (fun x k r h => Eq.trans (b := (zq4d (zq4l c_channel_Arrivals p1)).run x k) (by kernel_rfl) h)
end
theorem zq4nΓ : ΓOk Try.prog (pick1 [(47, .spec (zq46 zq4a))]) := (ΓOk_cons zq4b ΓOk_nil)
def zq4o (m : Nat) : zq4f := zq4j m
theorem zq4p {β : Type} (i : Nat) (k1 t14 t15 f f2 f3 f4 out) : (zq4o (i + 1) k1 t14 t15 f f2 f3 f4 out : Option β) = zq4i (zq4o i k1) k1 t14 t15 f f2 f3 f4 out := rfl
def zq4q : zq4f := zq4o fuel
theorem zq4r : PieceOk Try.prog 28 0 channel_Receipts_p1_code zq4g zq4h (channel_Receipts_p1_G zq4q) := zq4k zq4a zq4nΓ fuel
def zq4s : zq4c := zq4l zq4a zq4q
theorem zq4t : SpecOk Try.prog 48 (zq4d zq4s) := zq4m zq4a zq4nΓ zq4q zq4r

/-- pagewatch/pagewatchref26.Fates -/
abbrev zq4u := {β : Type} → (List zq0) → Int → (zq0 → Option β) → Option β
def zq4v (c : zq4u) : Spec :=
  ⟨[(false, [.data (.slice zq1)]), (false, [.data (.int .i64)])], [], [(true, [.data zq1])], [], fun x k => c x.1.1.1 x.1.2.1.1 (fun r0 => k (((r0, ()), ()), ()))⟩
section
variable (c_ref26_ValidFate : zq2r)
@[reducible] def ref26_Fates_X : Ctx := ⟨look tab, pick1 [(71, .spec (zq2s c_ref26_ValidFate))], false, false, false, false⟩
def zq4w {β : Type} (l : List zq0) (k_ : Int) (k : (zq0 → Option β)) : Option β :=
  cond (decide (k_ < (0 : Int)))
  (k (true, ((0 : Int), ((0 : Int), (0 : Int)))))
  (cond (decide ((List.length l : Int) ≤ k_))
  (k (true, ((0 : Int), ((0 : Int), (0 : Int)))))
  (cond (decide (0 ≤ k_) && decide (k_ < (List.length l : Int)))
  (let e : zq0 := List.getD l (Int.toNat k_) (false, ((0 : Int), ((0 : Int), (0 : Int))));
  c_ref26_ValidFate e (fun (rValidFate : Bool) =>
  cond (!rValidFate)
  (k (true, ((0 : Int), ((0 : Int), (0 : Int)))))
  (cond (decide (0 ≤ k_) && decide (k_ < (List.length l : Int)))
  (let e2 : zq0 := List.getD l (Int.toNat k_) (false, ((0 : Int), ((0 : Int), (0 : Int))));
  k e2)
  none)))
  none))
theorem zq4x (hΓ : ΓOk Try.prog (ref26_Fates_X c_ref26_ValidFate).Γ) : SpecOk Try.prog 50 (zq4v (zq4w c_ref26_ValidFate)) :=
  spec_exec (X := (ref26_Fates_X c_ref26_ValidFate)) (Λ := pick1 []) (rs := [.cell 4 75]) (c := bodyOf Try.f50) mixed tab_ok hΓ Try.func50 (by kernel_rfl) (by kernel_rfl) (by kernel_rfl) (by kernel_rfl) CutsOk_nil (fun x k r h => Eq.trans (b := (zq4v (zq4w c_ref26_ValidFate)).run x k) (by kernel_rfl) h)
end
theorem zq4yΓ : ΓOk Try.prog (pick1 [(71, .spec (zq2s zq2w))]) := (ΓOk_cons zq2x ΓOk_nil)
def zq4z : zq4u := zq4w zq2w
theorem zq50 : SpecOk Try.prog 50 (zq4v zq4z) := zq4x zq2w zq4yΓ

/-- pagewatch/pagewatchref26.Valid -/
abbrev zq51 := {β : Type} → (Int × (Int × (Int × Int))) → (Bool → Option β) → Option β
def zq52 (c : zq51) : Spec :=
  ⟨[(true, [.data (.prod (.int .i64) (.prod (.int .i64) (.prod (.int .i64) (.int .i64))))])], [], [(false, [.data .bool])], [], fun x k => c x.1.1.1 (fun r0 => k (((r0, ()), ()), ()))⟩
section
variable (c_ref25_In : zq1s)
@[reducible] def ref26_Valid_X : Ctx := ⟨look tab, pick1 [(56, .spec (zq1t c_ref25_In))], false, false, false, false⟩
def zq53 {β : Type} (ch : (Int × (Int × (Int × Int)))) (k : (Bool → Option β)) : Option β :=
  c_ref25_In ch.1 (0 : Int) (2 : Int) (fun (rIn : Bool) =>
  cond rIn
  (c_ref25_In ch.2.1 (0 : Int) (3600 : Int) (fun (rIn2 : Bool) =>
  cond rIn2
  (c_ref25_In ch.2.2.1 (1 : Int) (6 : Int) (fun (rIn3 : Bool) =>
  cond rIn3
  (c_ref25_In ch.2.2.2 (1 : Int) (3600 : Int) (fun (rIn4 : Bool) =>
  k rIn4))
  (k false)))
  (k false)))
  (k false))
theorem zq54 (hΓ : ΓOk Try.prog (ref26_Valid_X c_ref25_In).Γ) : SpecOk Try.prog 54 (zq52 (zq53 c_ref25_In)) :=
  spec_exec (X := (ref26_Valid_X c_ref25_In)) (Λ := pick1 []) (rs := [.tmp 2]) (c := bodyOf Try.f54) mixed tab_ok hΓ Try.func54 (by kernel_rfl) (by kernel_rfl) (by kernel_rfl) (by kernel_rfl) CutsOk_nil (fun x k r h => Eq.trans (b := (zq52 (zq53 c_ref25_In)).run x k) (by kernel_rfl) h)
end
theorem zq55Γ : ΓOk Try.prog (pick1 [(56, .spec (zq1t zq1x))]) := (ΓOk_cons zq1y ΓOk_nil)
def zq56 : zq51 := zq53 zq1x
theorem zq57 : SpecOk Try.prog 54 (zq52 zq56) := zq54 zq1x zq55Γ

/-- pagewatch/channel.Valid -/
abbrev zq58 := {β : Type} → (Int × (Int × (Int × Int))) → (Bool → Option β) → Option β
def zq59 (c : zq58) : Spec :=
  ⟨[(true, [.data (.prod (.int .i64) (.prod (.int .i64) (.prod (.int .i64) (.int .i64))))])], [], [(false, [.data .bool])], [], fun x k => c x.1.1.1 (fun r0 => k (((r0, ()), ()), ()))⟩
section
variable (c_channel_in : zq2d)
@[reducible] def channel_Valid_X : Ctx := ⟨look tab, pick1 [(68, .spec (zq2e c_channel_in))], false, false, false, false⟩
def zq5a {β : Type} (ch : (Int × (Int × (Int × Int)))) (k : (Bool → Option β)) : Option β :=
  c_channel_in ch.1 (0 : Int) (2 : Int) (fun (rin : Bool) =>
  cond rin
  (c_channel_in ch.2.1 (0 : Int) (3600 : Int) (fun (rin2 : Bool) =>
  cond rin2
  (c_channel_in ch.2.2.1 (1 : Int) (6 : Int) (fun (rin3 : Bool) =>
  cond rin3
  (c_channel_in ch.2.2.2 (1 : Int) (3600 : Int) (fun (rin4 : Bool) =>
  k rin4))
  (k false)))
  (k false)))
  (k false))
theorem zq5b (hΓ : ΓOk Try.prog (channel_Valid_X c_channel_in).Γ) : SpecOk Try.prog 63 (zq59 (zq5a c_channel_in)) :=
  spec_exec (X := (channel_Valid_X c_channel_in)) (Λ := pick1 []) (rs := [.tmp 2]) (c := bodyOf Try.f63) mixed tab_ok hΓ Try.func63 (by kernel_rfl) (by kernel_rfl) (by kernel_rfl) (by kernel_rfl) CutsOk_nil (fun x k r h => Eq.trans (b := (zq59 (zq5a c_channel_in)).run x k) (by kernel_rfl) h)
end
theorem zq5cΓ : ΓOk Try.prog (pick1 [(68, .spec (zq2e zq2i))]) := (ΓOk_cons zq2j ΓOk_nil)
def zq5d : zq58 := zq5a zq2i
theorem zq5e : SpecOk Try.prog 63 (zq59 zq5d) := zq5b zq2i zq5cΓ

/-- pagewatch/pagewatchref26.Works -/
abbrev zq5f := {β : Type} → (Int × (Int × (Int × Int))) → (List zq0) → (Bool → Option β) → Option β
def zq5g (c : zq5f) : Spec :=
  ⟨[(true, [.data (.prod (.int .i64) (.prod (.int .i64) (.prod (.int .i64) (.int .i64))))]), (false, [.data (.slice zq1)])], [], [(false, [.data .bool])], [], fun x k => c x.1.1.1 x.1.2.1.1 (fun r0 => k (((r0, ()), ()), ()))⟩
noncomputable def ref26_Works_p1_code : Code := codeAt 58 (bodyOf Try.f19)
abbrev zq5h (β : Type) := Bool → Option β
abbrev zq5i (β : Type) := Unit → Option β
abbrev zq5j := {β : Type} → zq5h β → zq5i β → (List zq0) → Int → Int → Int → Int → Int → Option β
def zq5k : View := ⟨0, [1, 2, 5], [(false, [.data (.slice zq1)]), (false, [.ptr 0 0]), (false, [.data (.int .i64)])], [.cells 36 [.data (.int .i64), .data (.int .i64), .data (.int .i64), .data (.int .i64)]]⟩
def zq5l : List (AExit × View) := [(.ret, ⟨0, [4], [(false, [.data .bool])], []⟩), (.exit 0, ⟨0, [], [], []⟩)]
@[reducible] def ref26_Works_p1_G (p : zq5j) {β : Type} (d : zq5k.den) (ks : Outs.K β zq5l) : Option β :=
  p (fun a0 => ks.1 (((a0, ()), ()), ())) (fun _ => ks.2.1 ((), ())) d.1.1.1 d.1.2.2.1.1 d.2.1.1 d.2.1.2.1 d.2.1.2.2.1 d.2.1.2.2.2.1
section
variable (c_ref26_Fates : zq4u) (c_ref26_Valid : zq51)
@[reducible] def ref26_Works_X : Ctx := ⟨look tab, pick1 [(50, .spec (zq4v c_ref26_Fates)), (54, .spec (zq52 c_ref26_Valid))], false, false, false, false⟩
def zq5m {β : Type} (rec : (List zq0) → Int → Int → Int → Int → Int → Option β) (k1 : zq5h β) (k2 : zq5i β) (l : List zq0) (i_ : Int) (ch : Int) (ch2 : Int) (ch3 : Int) (ch4 : Int) : Option β :=
  cond (decide (i_ < ch3))
  (c_ref26_Fates l i_ (fun (rFates : zq0) =>
  cond (!rFates.1)
  (cond (decide (rFates.2.1 ≤ ch2))
  (k1 true)
  (let i_2 : Int := (IntKind.i64.wrap (i_ + (1 : Int)));
  rec l i_2 ch ch2 ch3 ch4))
  (let i_2 : Int := (IntKind.i64.wrap (i_ + (1 : Int)));
  rec l i_2 ch ch2 ch3 ch4)))
  (k2 ())
def zq5n {β : Type} : Nat → zq5h β → zq5i β → (List zq0) → Int → Int → Int → Int → Int → Option β
  | 0 => fun _ _ _ _ _ _ _ _ => none
  | i + 1 => fun k1 k2 l i_ ch ch2 ch3 ch4 => zq5m c_ref26_Fates (zq5n i k1 k2) k1 k2 l i_ ch ch2 ch3 ch4
theorem zq5o (hΓ : ΓOk Try.prog (ref26_Works_X c_ref26_Fates c_ref26_Valid).Γ) (i : Nat) : PieceOk Try.prog 29 0 ref26_Works_p1_code zq5k zq5l (ref26_Works_p1_G (zq5n c_ref26_Fates i)) := by
  rw [show ref26_Works_p1_code = .loop (loopBody ref26_Works_p1_code) by kernel_rfl]
  exact piece_loop (X := (ref26_Works_X c_ref26_Fates c_ref26_Valid)) (p := 1) (Λ := pick1 []) (G := fun i => @fun β d ks => ref26_Works_p1_G (zq5n c_ref26_Fates i) d ks) mixed tab_ok hΓ rfl (by kernel_rfl) CutsOk_nil (fun _ _ => rfl) (fun i => @fun β d ks r h => Eq.trans (b := ref26_Works_p1_G (zq5n c_ref26_Fates (i + 1)) d ks) (by kernel_rfl) h) i
def zq5p (p1 : zq5j) {β : Type} (ch : (Int × (Int × (Int × Int)))) (l : List zq0) (k : (Bool → Option β)) : Option β :=
  c_ref26_Valid ch (fun (rValid : Bool) =>
  cond (!rValid)
  (k false)
  (p1 (fun (t4 : Bool) =>
  k t4) (fun (_ : Unit) =>
  k false) l (0 : Int) ch.1 ch.2.1 ch.2.2.1 ch.2.2.2))
theorem zq5q (hΓ : ΓOk Try.prog (ref26_Works_X c_ref26_Fates c_ref26_Valid).Γ) (p1 : zq5j) (hp1 : PieceOk Try.prog 29 0 ref26_Works_p1_code zq5k zq5l (ref26_Works_p1_G p1)) : SpecOk Try.prog 19 (zq5g (zq5p c_ref26_Valid p1)) :=
  spec_exec (X := (ref26_Works_X c_ref26_Fates c_ref26_Valid)) (Λ := pick1 [(58, pieceCut zq5k zq5l (ref26_Works_p1_G p1))]) (rs := [.tmp 4]) (c := bodyOf Try.f19) mixed tab_ok hΓ Try.func19 (by kernel_rfl) (by kernel_rfl) (by kernel_rfl) (by kernel_rfl) (CutsOk_cons (q := 58) (c' := ref26_Works_p1_code) (by kernel_rfl) rfl hp1 CutsOk_nil) (fun x k r h => Eq.trans (b := (zq5g (zq5p c_ref26_Valid p1)).run x k) (by kernel_rfl) h)
end
theorem zq5rΓ : ΓOk Try.prog (pick1 [(50, .spec (zq4v zq4z)), (54, .spec (zq52 zq56))]) := (ΓOk_cons zq50 (ΓOk_cons zq57 ΓOk_nil))
def zq5s (m : Nat) : zq5j := zq5n zq4z m
theorem zq5t {β : Type} (i : Nat) (k1 k2 l i_ ch ch2 ch3 ch4) : (zq5s (i + 1) k1 k2 l i_ ch ch2 ch3 ch4 : Option β) = zq5m zq4z (zq5s i k1 k2) k1 k2 l i_ ch ch2 ch3 ch4 := rfl
def zq5u : zq5j := zq5s fuel
theorem zq5v : PieceOk Try.prog 29 0 ref26_Works_p1_code zq5k zq5l (ref26_Works_p1_G zq5u) := zq5o zq4z zq56 zq5rΓ fuel
def zq5w : zq5f := zq5p zq56 zq5u
theorem zq5x : SpecOk Try.prog 19 (zq5g zq5w) := zq5q zq4z zq56 zq5rΓ zq5u zq5v

/-- pagewatch/pagewatchref27.Valid -/
abbrev zq5y := {β : Type} → (Int × List (Int × (Int × (Int × Int)))) → (Bool → Option β) → Option β
def zq5z (c : zq5y) : Spec :=
  ⟨[(true, [.data (.prod (.int .i64) (.slice (.prod (.int .i64) (.prod (.int .i64) (.prod (.int .i64) (.int .i64))))))])], [], [(false, [.data .bool])], [], fun x k => c x.1.1.1 (fun r0 => k (((r0, ()), ()), ()))⟩
noncomputable def ref27_Valid_p1_code : Code := codeAt 58 (bodyOf Try.f32)
abbrev zq60 (β : Type) := Bool → Option β
abbrev zq61 (β : Type) := Unit → Option β
abbrev zq62 := {β : Type} → zq60 β → zq61 β → Int → Int → (List (Int × (Int × (Int × Int)))) → Option β
def zq63 : View := ⟨0, [1, 3], [(false, [.ptr 0 0]), (false, [.data (.int .i64)])], [.cells 29 [.data (.int .i64), .data (.slice (.prod (.int .i64) (.prod (.int .i64) (.prod (.int .i64) (.int .i64)))))]]⟩
def zq64 : List (AExit × View) := [(.ret, ⟨0, [2], [(false, [.data .bool])], []⟩), (.exit 0, ⟨0, [], [], []⟩)]
@[reducible] def ref27_Valid_p1_G (p : zq62) {β : Type} (d : zq63.den) (ks : Outs.K β zq64) : Option β :=
  p (fun a0 => ks.1 (((a0, ()), ()), ())) (fun _ => ks.2.1 ((), ())) d.1.2.1.1 d.2.1.1 d.2.1.2.1
section
variable (c_ref25_In : zq1s) (c_ref26_Valid : zq51)
@[reducible] def ref27_Valid_X : Ctx := ⟨look tab, pick1 [(56, .spec (zq1t c_ref25_In)), (54, .spec (zq52 c_ref26_Valid))], false, false, false, false⟩
def zq65 {β : Type} (rec : Int → Int → (List (Int × (Int × (Int × Int)))) → Option β) (k1 : zq60 β) (k2 : zq61 β) (i_ : Int) (p_ : Int) (p_2 : List (Int × (Int × (Int × Int)))) : Option β :=
  cond (decide (i_ < (List.length p_2 : Int)))
  (cond (decide (0 ≤ i_) && decide (i_ < (List.length p_2 : Int)))
  (let e : (Int × (Int × (Int × Int))) := List.getD p_2 (Int.toNat i_) ((0 : Int), ((0 : Int), ((0 : Int), (0 : Int))));
  c_ref26_Valid e (fun (rValid : Bool) =>
  cond (!rValid)
  (k1 false)
  (let i_2 : Int := (IntKind.i64.wrap (i_ + (1 : Int)));
  rec i_2 p_ p_2)))
  none)
  (k2 ())
def zq66 {β : Type} : Nat → zq60 β → zq61 β → Int → Int → (List (Int × (Int × (Int × Int)))) → Option β
  | 0 => fun _ _ _ _ _ => none
  | i + 1 => fun k1 k2 i_ p_ p_2 => zq65 c_ref26_Valid (zq66 i k1 k2) k1 k2 i_ p_ p_2
theorem zq67 (hΓ : ΓOk Try.prog (ref27_Valid_X c_ref25_In c_ref26_Valid).Γ) (i : Nat) : PieceOk Try.prog 28 0 ref27_Valid_p1_code zq63 zq64 (ref27_Valid_p1_G (zq66 c_ref26_Valid i)) := by
  rw [show ref27_Valid_p1_code = .loop (loopBody ref27_Valid_p1_code) by kernel_rfl]
  exact piece_loop (X := (ref27_Valid_X c_ref25_In c_ref26_Valid)) (p := 1) (Λ := pick1 []) (G := fun i => @fun β d ks => ref27_Valid_p1_G (zq66 c_ref26_Valid i) d ks) mixed tab_ok hΓ rfl (by kernel_rfl) CutsOk_nil (fun _ _ => rfl) (fun i => @fun β d ks r h => Eq.trans (b := ref27_Valid_p1_G (zq66 c_ref26_Valid (i + 1)) d ks) (by kernel_rfl) h) i
def zq68 (p1 : zq62) {β : Type} (p_ : (Int × List (Int × (Int × (Int × Int))))) (k : (Bool → Option β)) : Option β :=
  c_ref25_In p_.1 (0 : Int) (31 : Int) (fun (rIn : Bool) =>
  cond (!rIn)
  (k false)
  (cond (decide ((4 : Int) < (List.length p_.2 : Int)))
  (k false)
  (p1 (fun (t2 : Bool) =>
  k t2) (fun (_ : Unit) =>
  k true) (0 : Int) p_.1 p_.2)))
theorem zq69 (hΓ : ΓOk Try.prog (ref27_Valid_X c_ref25_In c_ref26_Valid).Γ) (p1 : zq62) (hp1 : PieceOk Try.prog 28 0 ref27_Valid_p1_code zq63 zq64 (ref27_Valid_p1_G p1)) : SpecOk Try.prog 32 (zq5z (zq68 c_ref25_In p1)) :=
  spec_exec (X := (ref27_Valid_X c_ref25_In c_ref26_Valid)) (Λ := pick1 [(58, pieceCut zq63 zq64 (ref27_Valid_p1_G p1))]) (rs := [.tmp 2]) (c := bodyOf Try.f32) mixed tab_ok hΓ Try.func32 (by kernel_rfl) (by kernel_rfl) (by kernel_rfl) (by kernel_rfl) (CutsOk_cons (q := 58) (c' := ref27_Valid_p1_code) (by kernel_rfl) rfl hp1 CutsOk_nil) (fun x k r h => Eq.trans (b := (zq5z (zq68 c_ref25_In p1)).run x k) (by kernel_rfl) h)
end
theorem zq6aΓ : ΓOk Try.prog (pick1 [(56, .spec (zq1t zq1x)), (54, .spec (zq52 zq56))]) := (ΓOk_cons zq1y (ΓOk_cons zq57 ΓOk_nil))
def zq6b (m : Nat) : zq62 := zq66 zq56 m
theorem zq6c {β : Type} (i : Nat) (k1 k2 i_ p_ p_2) : (zq6b (i + 1) k1 k2 i_ p_ p_2 : Option β) = zq65 zq56 (zq6b i k1 k2) k1 k2 i_ p_ p_2 := rfl
def zq6d : zq62 := zq6b fuel
theorem zq6e : PieceOk Try.prog 28 0 ref27_Valid_p1_code zq63 zq64 (ref27_Valid_p1_G zq6d) := zq67 zq1x zq56 zq6aΓ fuel
def zq6f : zq5y := zq68 zq1x zq6d
theorem zq6g : SpecOk Try.prog 32 (zq5z zq6f) := zq69 zq1x zq56 zq6aΓ zq6d zq6e

/-- pagewatch/channel.Worst -/
abbrev zq6h := {β : Type} → (Int × (Int × (Int × Int))) → (Int → Option β) → Option β
def zq6i (c : zq6h) : Spec :=
  ⟨[(true, [.data (.prod (.int .i64) (.prod (.int .i64) (.prod (.int .i64) (.int .i64))))])], [], [(false, [.data (.int .i64)])], [], fun x k => c x.1.1.1 (fun r0 => k (((r0, ()), ()), ()))⟩
section
variable (c_channel_Valid : zq58)
@[reducible] def channel_Worst_X : Ctx := ⟨look tab, pick1 [(63, .spec (zq59 c_channel_Valid))], false, false, false, false⟩
def zq6j {β : Type} (ch : (Int × (Int × (Int × Int)))) (k : (Int → Option β)) : Option β :=
  c_channel_Valid ch (fun (rValid : Bool) =>
  cond (!rValid)
  (k (0 : Int))
  (let t : Int := (IntKind.i64.wrap ((IntKind.i64.wrap ((IntKind.i64.wrap (ch.2.2.1 - (1 : Int))) * ch.2.2.2)) + ch.2.1));
  k t))
theorem zq6k (hΓ : ΓOk Try.prog (channel_Worst_X c_channel_Valid).Γ) : SpecOk Try.prog 55 (zq6i (zq6j c_channel_Valid)) :=
  spec_exec (X := (channel_Worst_X c_channel_Valid)) (Λ := pick1 []) (rs := [.tmp 2]) (c := bodyOf Try.f55) mixed tab_ok hΓ Try.func55 (by kernel_rfl) (by kernel_rfl) (by kernel_rfl) (by kernel_rfl) CutsOk_nil (fun x k r h => Eq.trans (b := (zq6i (zq6j c_channel_Valid)).run x k) (by kernel_rfl) h)
end
theorem zq6lΓ : ΓOk Try.prog (pick1 [(63, .spec (zq59 zq5d))]) := (ΓOk_cons zq5e ΓOk_nil)
def zq6m : zq6h := zq6j zq5d
theorem zq6n : SpecOk Try.prog 55 (zq6i zq6m) := zq6k zq5d zq6lΓ

/-- pagewatch/delivery.Valid$1 -/
abbrev zq6o := {β : Type} → (Int × (Int × (Int × Int))) → (Bool → Option β) → Option β
def zq6p (c : zq6o) : Spec :=
  ⟨[(true, [.data (.prod (.int .i64) (.prod (.int .i64) (.prod (.int .i64) (.int .i64))))])], [], [(false, [.data .bool])], [], fun x k => c x.1.1.1 (fun r0 => k (((r0, ()), ()), ()))⟩
section
variable (c_channel_Valid : zq58)
@[reducible] def delivery_Valid_f1_X : Ctx := ⟨look tab, pick1 [(63, .spec (zq59 c_channel_Valid))], false, false, false, false⟩
def zq6q {β : Type} (ch : (Int × (Int × (Int × Int)))) (k : (Bool → Option β)) : Option β :=
  c_channel_Valid ch (fun (rValid : Bool) =>
  k (!rValid))
theorem zq6r (hΓ : ΓOk Try.prog (delivery_Valid_f1_X c_channel_Valid).Γ) : SpecOk Try.prog 62 (zq6p (zq6q c_channel_Valid)) :=
  spec_exec (X := (delivery_Valid_f1_X c_channel_Valid)) (Λ := pick1 []) (rs := [.tmp 2]) (c := bodyOf Try.f62) mixed tab_ok hΓ Try.func62 (by kernel_rfl) (by kernel_rfl) (by kernel_rfl) (by kernel_rfl) CutsOk_nil (fun x k r h => Eq.trans (b := (zq6p (zq6q c_channel_Valid)).run x k) (by kernel_rfl) h)
end
theorem zq6sΓ : ΓOk Try.prog (pick1 [(63, .spec (zq59 zq5d))]) := (ΓOk_cons zq5e ΓOk_nil)
def zq6t : zq6o := zq6q zq5d
theorem zq6u : SpecOk Try.prog 62 (zq6p zq6t) := zq6r zq5d zq6sΓ

/-- pagewatch/pagewatchref27.Plan -/
abbrev zq6v := {β : Type} → (Int × List (Int × (Int × (Int × Int)))) → Int → ((List (Int × (Int × Int))) → Option β) → Option β
def zq6w (c : zq6v) : Spec :=
  ⟨[(true, [.data (.prod (.int .i64) (.slice (.prod (.int .i64) (.prod (.int .i64) (.prod (.int .i64) (.int .i64))))))]), (false, [.data (.int .i64)])], [], [(false, [.rowh 0])], [.row 39 (.prod (.int .i64) (.prod (.int .i64) (.int .i64)))], fun x k => c x.1.1.1 x.1.2.1.1 (fun r0 => k (((), ()), (r0, ())))⟩
noncomputable def ref27_Plan_p3_code : Code := codeAt 122 (bodyOf Try.f21)
noncomputable def ref27_Plan_p2_code : Code := codeAt 50 (loopBody ref27_Plan_p3_code)
noncomputable def ref27_Plan_p1_code : Code := codeAt 204 (loopBody ref27_Plan_p2_code)
abbrev zq6x (β : Type) := Int → Int → Int → Int → Int → (List (Int × (Int × (Int × Int)))) → (List (Int × (Int × Int))) → Int → Int → Int → Option β
abbrev zq6y := {β : Type} → zq6x β → Int → Int → Int → Int → Int → (List (Int × (Int × (Int × Int)))) → (List (Int × (Int × Int))) → Int → Int → Int → Option β
def zq6z : View := ⟨0, [1, 2, 5, 6, 7, 8, 9], [(false, [.data (.int .i64)]), (false, [.ptr 0 0]), (false, [.rowh 1]), (false, [.data (.int .i64)]), (false, [.data (.int .i64)]), (false, [.ptr 2 0]), (false, [.data (.int .i64)])], [.cells 29 [.data (.int .i64), .data (.slice (.prod (.int .i64) (.prod (.int .i64) (.prod (.int .i64) (.int .i64)))))], .row 39 (.prod (.int .i64) (.prod (.int .i64) (.int .i64))), .cells 39 [.data (.int .i64), .data (.int .i64), .data (.int .i64)]]⟩
def zq70 : List (AExit × View) := [(.exit 4, ⟨0, [1, 2, 5, 6, 7, 8, 9], [(false, [.data (.int .i64)]), (false, [.ptr 0 0]), (false, [.rowh 1]), (false, [.data (.int .i64)]), (false, [.data (.int .i64)]), (false, [.ptr 2 0]), (false, [.data (.int .i64)])], [.cells 29 [.data (.int .i64), .data (.slice (.prod (.int .i64) (.prod (.int .i64) (.prod (.int .i64) (.int .i64)))))], .row 39 (.prod (.int .i64) (.prod (.int .i64) (.int .i64))), .cells 39 [.data (.int .i64), .data (.int .i64), .data (.int .i64)]]⟩)]
@[reducible] def ref27_Plan_p1_G (p : zq6y) {β : Type} (d : zq6z.den) (ks : Outs.K β zq70) : Option β :=
  p (fun a0 a1 a2 a3 a4 a5 a6 a7 a8 a9 => ks.1 (((a0, ()), (), (), (a1, ()), (a2, ()), (), (a3, ()), ()), ((a4, a5, ()), a6, (a7, a8, a9, ()), ()))) d.1.1.1 d.1.2.2.2.1.1 d.1.2.2.2.2.1.1 d.1.2.2.2.2.2.2.1.1 d.2.1.1 d.2.1.2.1 d.2.2.1 d.2.2.2.1.1 d.2.2.2.1.2.1 d.2.2.2.1.2.2.1
abbrev zq71 (β : Type) := Int → Int → Int → (List (Int × (Int × (Int × Int)))) → (List (Int × (Int × Int))) → Option β
abbrev zq72 := {β : Type} → zq71 β → Int → Int → Int → Int → (List (Int × (Int × (Int × Int)))) → (List (Int × (Int × Int))) → Option β
def zq73 : View := ⟨0, [1, 2, 5, 6, 7], [(false, [.data (.int .i64)]), (false, [.ptr 0 0]), (false, [.rowh 1]), (false, [.data (.int .i64)]), (false, [.data (.int .i64)])], [.cells 29 [.data (.int .i64), .data (.slice (.prod (.int .i64) (.prod (.int .i64) (.prod (.int .i64) (.int .i64)))))], .row 39 (.prod (.int .i64) (.prod (.int .i64) (.int .i64)))]⟩
def zq74 : List (AExit × View) := [(.exit 2, ⟨0, [1, 2, 5, 6], [(false, [.data (.int .i64)]), (false, [.ptr 0 0]), (false, [.rowh 1]), (false, [.data (.int .i64)])], [.cells 29 [.data (.int .i64), .data (.slice (.prod (.int .i64) (.prod (.int .i64) (.prod (.int .i64) (.int .i64)))))], .row 39 (.prod (.int .i64) (.prod (.int .i64) (.int .i64)))]⟩)]
@[reducible] def ref27_Plan_p2_G (p : zq72) {β : Type} (d : zq73.den) (ks : Outs.K β zq74) : Option β :=
  p (fun a0 a1 a2 a3 a4 => ks.1 (((a0, ()), (), (), (a1, ()), ()), ((a2, a3, ()), a4, ()))) d.1.1.1 d.1.2.2.2.1.1 d.1.2.2.2.2.1.1 d.2.1.1 d.2.1.2.1 d.2.2.1
abbrev zq75 (β : Type) := (List (Int × (Int × Int))) → Option β
abbrev zq76 := {β : Type} → zq75 β → Int → Int → Int → (List (Int × (Int × (Int × Int)))) → (List (Int × (Int × Int))) → Option β
def zq77 : View := ⟨0, [1, 2, 5, 6], [(false, [.data (.int .i64)]), (false, [.ptr 0 0]), (false, [.rowh 1]), (false, [.data (.int .i64)])], [.cells 29 [.data (.int .i64), .data (.slice (.prod (.int .i64) (.prod (.int .i64) (.prod (.int .i64) (.int .i64)))))], .row 39 (.prod (.int .i64) (.prod (.int .i64) (.int .i64)))]⟩
def zq78 : List (AExit × View) := [(.exit 0, ⟨0, [5], [(false, [.rowh 0])], [.row 39 (.prod (.int .i64) (.prod (.int .i64) (.int .i64)))]⟩)]
@[reducible] def ref27_Plan_p3_G (p : zq76) {β : Type} (d : zq77.den) (ks : Outs.K β zq78) : Option β :=
  p (fun a0 => ks.1 (((), ()), (a0, ()))) d.1.1.1 d.1.2.2.2.1.1 d.2.1.1 d.2.1.2.1 d.2.2.1
section
variable (c_ref25_In : zq1s) (c_ref27_Valid : zq5y) (c_ref27_ahead : zq1z)
@[reducible] def ref27_Plan_X : Ctx := ⟨look tab, pick1 [(56, .spec (zq1t c_ref25_In)), (32, .spec (zq5z c_ref27_Valid)), (57, .spec (zq20 c_ref27_ahead))], false, false, false, false⟩
def zq79 {β : Type} (rec : Int → Int → Int → Int → Int → (List (Int × (Int × (Int × Int)))) → (List (Int × (Int × Int))) → Int → Int → Int → Option β) (k1 : zq6x β) (start : Int) (c : Int) (i_ : Int) (k_ : Int) (p_ : Int) (p_2 : List (Int × (Int × (Int × Int)))) (out : List (Int × (Int × Int))) (x : Int) (x2 : Int) (x3 : Int) : Option β :=
  cond (decide ((0 : Int) < k_))
  (cond (decide (0 ≤ (IntKind.i64.wrap (k_ - (1 : Int)))) && decide ((IntKind.i64.wrap (k_ - (1 : Int))) < (List.length out : Int)))
  (c_ref27_ahead (x, (x2, x3)) ((List.getD out (Int.toNat (IntKind.i64.wrap (k_ - (1 : Int)))) ((0 : Int), ((0 : Int), (0 : Int)))).1, ((List.getD out (Int.toNat (IntKind.i64.wrap (k_ - (1 : Int)))) ((0 : Int), ((0 : Int), (0 : Int)))).2)) (fun (rahead : Bool) =>
  cond rahead
  (let k_2 : Int := (IntKind.i64.wrap (k_ - (1 : Int)));
  rec start c i_ k_2 p_ p_2 out x x2 x3)
  (k1 start c i_ k_ p_ p_2 out x x2 x3)))
  none)
  (k1 start c i_ k_ p_ p_2 out x x2 x3)
def zq7a {β : Type} : Nat → zq6x β → Int → Int → Int → Int → Int → (List (Int × (Int × (Int × Int)))) → (List (Int × (Int × Int))) → Int → Int → Int → Option β
  | 0 => fun _ _ _ _ _ _ _ _ _ _ _ => none
  | i + 1 => fun k1 start c i_ k_ p_ p_2 out x x2 x3 => zq79 c_ref27_ahead (zq7a i k1) k1 start c i_ k_ p_ p_2 out x x2 x3
theorem zq7b (hΓ : ΓOk Try.prog (ref27_Plan_X c_ref25_In c_ref27_Valid c_ref27_ahead).Γ) (i : Nat) : PieceOk Try.prog 80 0 ref27_Plan_p1_code zq6z zq70 (ref27_Plan_p1_G (zq7a c_ref27_ahead i)) := by
  rw [show ref27_Plan_p1_code = .loop (loopBody ref27_Plan_p1_code) by kernel_rfl]
  exact piece_loop (X := (ref27_Plan_X c_ref25_In c_ref27_Valid c_ref27_ahead)) (p := 1) (Λ := pick1 []) (G := fun i => @fun β d ks => ref27_Plan_p1_G (zq7a c_ref27_ahead i) d ks) mixed tab_ok hΓ rfl (by kernel_rfl) CutsOk_nil (fun _ _ => rfl) (fun i => @fun β d ks r h => Eq.trans (b := ref27_Plan_p1_G (zq7a c_ref27_ahead (i + 1)) d ks) (by kernel_rfl) h) i
def zq7c (p1 : zq6y) {β : Type} (rec : Int → Int → Int → Int → (List (Int × (Int × (Int × Int)))) → (List (Int × (Int × Int))) → Option β) (k1 : zq71 β) (start : Int) (c : Int) (i_ : Int) (p_ : Int) (p_2 : List (Int × (Int × (Int × Int)))) (out : List (Int × (Int × Int))) : Option β :=
  cond (decide (0 ≤ c) && decide (c < (List.length p_2 : Int)))
  (let e : (Int × (Int × (Int × Int))) := List.getD p_2 (Int.toNat c) ((0 : Int), ((0 : Int), ((0 : Int), (0 : Int))));
  cond (decide (i_ < e.2.2.1))
  (cond (decide (0 ≤ c) && decide (c < (List.length p_2 : Int)))
  (let e2 : (Int × (Int × (Int × Int))) := List.getD p_2 (Int.toNat c) ((0 : Int), ((0 : Int), ((0 : Int), (0 : Int))));
  p1 (fun (start2 : Int) (c2 : Int) (i_2 : Int) (k_ : Int) (p_3 : Int) (p_4 : List (Int × (Int × (Int × Int)))) (out2 : List (Int × (Int × Int))) (x : Int) (x2 : Int) (x3 : Int) =>
  let l : List (Int × (Int × Int)) := ([(x, (x2, x3))] : List (Int × (Int × Int)));
  cond (decide ((List.length out2 + List.length l) * 24 ≤ roomMax))
  (let l2 : List (Int × (Int × Int)) := (out2 ++ l);
  cond (decide (0 ≤ (IntKind.i64.wrap (k_ + (1 : Int)))) && (decide ((IntKind.i64.wrap (k_ + (1 : Int))) ≤ (List.length l2 : Int)) && decide ((List.length l2 : Int) ≤ (List.length l2 : Int))))
  (cond (decide (0 ≤ k_) && (decide (k_ ≤ (List.length l2 : Int)) && decide ((List.length l2 : Int) ≤ (List.length l2 : Int))))
  (let l3 : List (Int × (Int × Int)) := (List.take (Int.toNat (IntKind.i64.wrap (k_ + (1 : Int)))) l2 ++ (List.take ((List.length l2) - (Int.toNat (IntKind.i64.wrap (k_ + (1 : Int))))) (List.drop (Int.toNat k_) (List.take (List.length l2) l2)) ++ List.drop ((Int.toNat (IntKind.i64.wrap (k_ + (1 : Int)))) + (Nat.min (List.length (List.drop (Int.toNat k_) (List.take (List.length l2) l2))) ((List.length l2) - (Int.toNat (IntKind.i64.wrap (k_ + (1 : Int))))))) l2));
  cond (decide (0 ≤ k_) && decide (k_ < (List.length l3 : Int)))
  (let l4 : List (Int × (Int × Int)) := (List.set l3 (Int.toNat k_) (x, (x2, x3)));
  let i_3 : Int := (IntKind.i64.wrap (i_2 + (1 : Int)));
  rec start2 c2 i_3 p_3 p_4 l4)
  none)
  none)
  none)
  none) start c i_ (List.length out : Int) p_ p_2 out c i_ (IntKind.i64.wrap (start + (IntKind.i64.wrap (i_ * e2.2.2.2)))))
  none)
  (k1 start c p_ p_2 out))
  none
def zq7d (p1 : zq6y) {β : Type} : Nat → zq71 β → Int → Int → Int → Int → (List (Int × (Int × (Int × Int)))) → (List (Int × (Int × Int))) → Option β
  | 0 => fun _ _ _ _ _ _ _ => none
  | i + 1 => fun k1 start c i_ p_ p_2 out => zq7c p1 (zq7d p1 i k1) k1 start c i_ p_ p_2 out
theorem zq7e (hΓ : ΓOk Try.prog (ref27_Plan_X c_ref25_In c_ref27_Valid c_ref27_ahead).Γ) (p1 : zq6y) (hp1 : PieceOk Try.prog 80 0 ref27_Plan_p1_code zq6z zq70 (ref27_Plan_p1_G p1)) (i : Nat) : PieceOk Try.prog 80 0 ref27_Plan_p2_code zq73 zq74 (ref27_Plan_p2_G (zq7d p1 i)) := by
  rw [show ref27_Plan_p2_code = .loop (loopBody ref27_Plan_p2_code) by kernel_rfl]
  exact piece_loop (X := (ref27_Plan_X c_ref25_In c_ref27_Valid c_ref27_ahead)) (p := 1) (Λ := pick1 [(204, pieceCut zq6z zq70 (ref27_Plan_p1_G p1))]) (G := fun i => @fun β d ks => ref27_Plan_p2_G (zq7d p1 i) d ks) mixed tab_ok hΓ rfl (by kernel_rfl) (CutsOk_cons (q := 204) (c' := ref27_Plan_p1_code) (by kernel_rfl) rfl hp1 CutsOk_nil) (fun _ _ => rfl) (fun i => @fun β d ks r h => Eq.trans (b := ref27_Plan_p2_G (zq7d p1 (i + 1)) d ks) (by kernel_rfl) h) i
def zq7f (p2 : zq72) {β : Type} (rec : Int → Int → Int → (List (Int × (Int × (Int × Int)))) → (List (Int × (Int × Int))) → Option β) (k1 : zq75 β) (start : Int) (c : Int) (p_ : Int) (p_2 : List (Int × (Int × (Int × Int)))) (out : List (Int × (Int × Int))) : Option β :=
  cond (decide (c < (List.length p_2 : Int)))
  (p2 (fun (start2 : Int) (c2 : Int) (p_3 : Int) (p_4 : List (Int × (Int × (Int × Int)))) (out2 : List (Int × (Int × Int))) =>
  let c3 : Int := (IntKind.i64.wrap (c2 + (1 : Int)));
  rec start2 c3 p_3 p_4 out2) start c (0 : Int) p_ p_2 out)
  (k1 out)
def zq7g (p2 : zq72) {β : Type} : Nat → zq75 β → Int → Int → Int → (List (Int × (Int × (Int × Int)))) → (List (Int × (Int × Int))) → Option β
  | 0 => fun _ _ _ _ _ _ => none
  | i + 1 => fun k1 start c p_ p_2 out => zq7f p2 (zq7g p2 i k1) k1 start c p_ p_2 out
theorem zq7h (hΓ : ΓOk Try.prog (ref27_Plan_X c_ref25_In c_ref27_Valid c_ref27_ahead).Γ) (p2 : zq72) (hp2 : PieceOk Try.prog 80 0 ref27_Plan_p2_code zq73 zq74 (ref27_Plan_p2_G p2)) (i : Nat) : PieceOk Try.prog 80 0 ref27_Plan_p3_code zq77 zq78 (ref27_Plan_p3_G (zq7g p2 i)) := by
  rw [show ref27_Plan_p3_code = .loop (loopBody ref27_Plan_p3_code) by kernel_rfl]
  exact piece_loop (X := (ref27_Plan_X c_ref25_In c_ref27_Valid c_ref27_ahead)) (p := 1) (Λ := pick1 [(50, pieceCut zq73 zq74 (ref27_Plan_p2_G p2))]) (G := fun i => @fun β d ks => ref27_Plan_p3_G (zq7g p2 i) d ks) mixed tab_ok hΓ rfl (by kernel_rfl) (CutsOk_cons (q := 50) (c' := ref27_Plan_p2_code) (by kernel_rfl) rfl hp2 CutsOk_nil) (fun _ _ => rfl) (fun i => @fun β d ks r h => Eq.trans (b := ref27_Plan_p3_G (zq7g p2 (i + 1)) d ks) (by kernel_rfl) h) i
def zq7i (p3 : zq76) {β : Type} (p_ : (Int × List (Int × (Int × (Int × Int))))) (start : Int) (k : ((List (Int × (Int × Int))) → Option β)) : Option β :=
  c_ref27_Valid p_ (fun (rValid : Bool) =>
  cond (!rValid)
  (k ([] : List (Int × (Int × Int))))
  (c_ref25_In start (0 : Int) (8589934592 : Int) (fun (rIn : Bool) =>
  cond (!rIn)
  (k ([] : List (Int × (Int × Int))))
  (p3 (fun (out : List (Int × (Int × Int))) =>
  k out) start (0 : Int) p_.1 p_.2 ([] : List (Int × (Int × Int)))))))
theorem zq7j (hΓ : ΓOk Try.prog (ref27_Plan_X c_ref25_In c_ref27_Valid c_ref27_ahead).Γ) (p3 : zq76) (hp3 : PieceOk Try.prog 80 0 ref27_Plan_p3_code zq77 zq78 (ref27_Plan_p3_G p3)) : SpecOk Try.prog 21 (zq6w (zq7i c_ref25_In c_ref27_Valid p3)) :=
  spec_exec (X := (ref27_Plan_X c_ref25_In c_ref27_Valid c_ref27_ahead)) (Λ := pick1 [(122, pieceCut zq77 zq78 (ref27_Plan_p3_G p3))]) (rs := [.tmp 4]) (c := bodyOf Try.f21) mixed tab_ok hΓ Try.func21 (by kernel_rfl) (by kernel_rfl) (by kernel_rfl) (by kernel_rfl) (CutsOk_cons (q := 122) (c' := ref27_Plan_p3_code) (by kernel_rfl) rfl hp3 CutsOk_nil) (fun x k r h => Eq.trans (b := (zq6w (zq7i c_ref25_In c_ref27_Valid p3)).run x k) (by kernel_rfl) h)
end
theorem zq7kΓ : ΓOk Try.prog (pick1 [(56, .spec (zq1t zq1x)), (32, .spec (zq5z zq6f)), (57, .spec (zq20 zq24))]) := (ΓOk_cons zq1y (ΓOk_cons zq6g (ΓOk_cons zq25 ΓOk_nil)))
def zq7l (m : Nat) : zq6y := zq7a zq24 m
theorem zq7m {β : Type} (i : Nat) (k1 start c i_ k_ p_ p_2 out x x2 x3) : (zq7l (i + 1) k1 start c i_ k_ p_ p_2 out x x2 x3 : Option β) = zq79 zq24 (zq7l i k1) k1 start c i_ k_ p_ p_2 out x x2 x3 := rfl
def zq7n : zq6y := zq7l fuel
theorem zq7o : PieceOk Try.prog 80 0 ref27_Plan_p1_code zq6z zq70 (ref27_Plan_p1_G zq7n) := zq7b zq1x zq6f zq24 zq7kΓ fuel
def zq7p (m : Nat) : zq72 := zq7d zq7n m
theorem zq7q {β : Type} (i : Nat) (k1 start c i_ p_ p_2 out) : (zq7p (i + 1) k1 start c i_ p_ p_2 out : Option β) = zq7c zq7n (zq7p i k1) k1 start c i_ p_ p_2 out := rfl
def zq7r : zq72 := zq7p fuel
theorem zq7s : PieceOk Try.prog 80 0 ref27_Plan_p2_code zq73 zq74 (ref27_Plan_p2_G zq7r) := zq7e zq1x zq6f zq24 zq7kΓ zq7n zq7o fuel
def zq7t (m : Nat) : zq76 := zq7g zq7r m
theorem zq7u {β : Type} (i : Nat) (k1 start c p_ p_2 out) : (zq7t (i + 1) k1 start c p_ p_2 out : Option β) = zq7f zq7r (zq7t i k1) k1 start c p_ p_2 out := rfl
def zq7v : zq76 := zq7t fuel
theorem zq7w : PieceOk Try.prog 80 0 ref27_Plan_p3_code zq77 zq78 (ref27_Plan_p3_G zq7v) := zq7h zq1x zq6f zq24 zq7kΓ zq7r zq7s fuel
def zq7x : zq6v := zq7i zq1x zq6f zq7v
theorem zq7y : SpecOk Try.prog 21 (zq6w zq7x) := zq7j zq1x zq6f zq24 zq7kΓ zq7v zq7w

/-- slices.IndexFunc[[]pagewatch/api.Channel,pagewatch/api.Channel] -/
abbrev zq7z := {β : Type} → (List (Int × (Int × (Int × Int)))) → (Int → Option β) → Option β
def zq80 (c : zq7z) : Spec :=
  ⟨[(false, [.data (.slice (.prod (.int .i64) (.prod (.int .i64) (.prod (.int .i64) (.int .i64)))))]), (false, [.fn 62 []])], [], [(false, [.data (.int .i64)])], [], fun x k => c x.1.1.1 (fun r0 => k (((r0, ()), ()), ()))⟩
noncomputable def slices_IndexFunc_api_Channel_api_Channel_vdelivery_Valid_f1_p1_code : Code := codeAt 26 (bodyOf Try.f72)
abbrev zq81 (β : Type) := Int → Option β
abbrev zq82 (β : Type) := Unit → Option β
abbrev zq83 := {β : Type} → zq81 β → zq82 β → (List (Int × (Int × (Int × Int)))) → Int → Int → Option β
def zq84 : View := ⟨0, [0, 1, 7, 8], [(false, [.data (.slice (.prod (.int .i64) (.prod (.int .i64) (.prod (.int .i64) (.int .i64)))))]), (false, [.fn 62 []]), (false, [.data (.int .i64)]), (false, [.data (.int .i64)])], []⟩
def zq85 : List (AExit × View) := [(.ret, ⟨0, [4], [(false, [.data (.int .i64)])], []⟩), (.exit 0, ⟨0, [], [], []⟩)]
@[reducible] def slices_IndexFunc_api_Channel_api_Channel_vdelivery_Valid_f1_p1_G (p : zq83) {β : Type} (d : zq84.den) (ks : Outs.K β zq85) : Option β :=
  p (fun a0 => ks.1 (((a0, ()), ()), ())) (fun _ => ks.2.1 ((), ())) d.1.1.1 d.1.2.2.1.1 d.1.2.2.2.1.1
section
variable (c_delivery_Valid_f1 : zq6o)
@[reducible] def slices_IndexFunc_api_Channel_api_Channel_vdelivery_Valid_f1_X : Ctx := ⟨look tab, pick1 [(62, .spec (zq6p c_delivery_Valid_f1))], false, false, false, false⟩
def zq86 {β : Type} (rec : (List (Int × (Int × (Int × Int)))) → Int → Int → Option β) (k1 : zq81 β) (k2 : zq82 β) (s : List (Int × (Int × (Int × Int)))) (t7 : Int) (t8 : Int) : Option β :=
  cond (decide (t8 < t7))
  (cond (decide (0 ≤ t8) && decide (t8 < (List.length s : Int)))
  (let e : (Int × (Int × (Int × Int))) := List.getD s (Int.toNat t8) ((0 : Int), ((0 : Int), ((0 : Int), (0 : Int))));
  c_delivery_Valid_f1 e (fun (rValid1 : Bool) =>
  cond rValid1
  (k1 t8)
  (rec s t7 (IntKind.i64.wrap (t8 + (1 : Int))))))
  none)
  (k2 ())
def zq87 {β : Type} : Nat → zq81 β → zq82 β → (List (Int × (Int × (Int × Int)))) → Int → Int → Option β
  | 0 => fun _ _ _ _ _ => none
  | i + 1 => fun k1 k2 s t7 t8 => zq86 c_delivery_Valid_f1 (zq87 i k1 k2) k1 k2 s t7 t8
theorem zq88 (hΓ : ΓOk Try.prog (slices_IndexFunc_api_Channel_api_Channel_vdelivery_Valid_f1_X c_delivery_Valid_f1).Γ) (i : Nat) : PieceOk Try.prog 19 0 slices_IndexFunc_api_Channel_api_Channel_vdelivery_Valid_f1_p1_code zq84 zq85 (slices_IndexFunc_api_Channel_api_Channel_vdelivery_Valid_f1_p1_G (zq87 c_delivery_Valid_f1 i)) := by
  rw [show slices_IndexFunc_api_Channel_api_Channel_vdelivery_Valid_f1_p1_code = .loop (loopBody slices_IndexFunc_api_Channel_api_Channel_vdelivery_Valid_f1_p1_code) by kernel_rfl]
  exact piece_loop (X := (slices_IndexFunc_api_Channel_api_Channel_vdelivery_Valid_f1_X c_delivery_Valid_f1)) (p := 1) (Λ := pick1 []) (G := fun i => @fun β d ks => slices_IndexFunc_api_Channel_api_Channel_vdelivery_Valid_f1_p1_G (zq87 c_delivery_Valid_f1 i) d ks) mixed tab_ok hΓ rfl (by kernel_rfl) CutsOk_nil (fun _ _ => rfl) (fun i => @fun β d ks r h => Eq.trans (b := slices_IndexFunc_api_Channel_api_Channel_vdelivery_Valid_f1_p1_G (zq87 c_delivery_Valid_f1 (i + 1)) d ks) (by kernel_rfl) h) i
def zq89 (p1 : zq83) {β : Type} (s : List (Int × (Int × (Int × Int)))) (k : (Int → Option β)) : Option β :=
  p1 (fun (t4 : Int) =>
  k t4) (fun (_ : Unit) =>
  k (-1 : Int)) s (List.length s : Int) (0 : Int)
theorem zq8a (hΓ : ΓOk Try.prog (slices_IndexFunc_api_Channel_api_Channel_vdelivery_Valid_f1_X c_delivery_Valid_f1).Γ) (p1 : zq83) (hp1 : PieceOk Try.prog 19 0 slices_IndexFunc_api_Channel_api_Channel_vdelivery_Valid_f1_p1_code zq84 zq85 (slices_IndexFunc_api_Channel_api_Channel_vdelivery_Valid_f1_p1_G p1)) : SpecOk Try.prog 72 (zq80 (zq89 p1)) :=
  spec_exec (X := (slices_IndexFunc_api_Channel_api_Channel_vdelivery_Valid_f1_X c_delivery_Valid_f1)) (Λ := pick1 [(26, pieceCut zq84 zq85 (slices_IndexFunc_api_Channel_api_Channel_vdelivery_Valid_f1_p1_G p1))]) (rs := [.tmp 4]) (c := bodyOf Try.f72) mixed tab_ok hΓ Try.func72 (by kernel_rfl) (by kernel_rfl) (by kernel_rfl) (by kernel_rfl) (CutsOk_cons (q := 26) (c' := slices_IndexFunc_api_Channel_api_Channel_vdelivery_Valid_f1_p1_code) (by kernel_rfl) rfl hp1 CutsOk_nil) (fun x k r h => Eq.trans (b := (zq80 (zq89 p1)).run x k) (by kernel_rfl) h)
end
theorem zq8bΓ : ΓOk Try.prog (pick1 [(62, .spec (zq6p zq6t))]) := (ΓOk_cons zq6u ΓOk_nil)
def zq8c (m : Nat) : zq83 := zq87 zq6t m
theorem zq8d {β : Type} (i : Nat) (k1 k2 s t7 t8) : (zq8c (i + 1) k1 k2 s t7 t8 : Option β) = zq86 zq6t (zq8c i k1 k2) k1 k2 s t7 t8 := rfl
def zq8e : zq83 := zq8c fuel
theorem zq8f : PieceOk Try.prog 19 0 slices_IndexFunc_api_Channel_api_Channel_vdelivery_Valid_f1_p1_code zq84 zq85 (slices_IndexFunc_api_Channel_api_Channel_vdelivery_Valid_f1_p1_G zq8e) := zq88 zq6t zq8bΓ fuel
def zq8g : zq7z := zq89 zq8e
theorem zq8h : SpecOk Try.prog 72 (zq80 zq8g) := zq8a zq6t zq8bΓ zq8e zq8f

/-- slices.ContainsFunc[[]pagewatch/api.Channel,pagewatch/api.Channel] -/
abbrev zq8i := {β : Type} → (List (Int × (Int × (Int × Int)))) → (Bool → Option β) → Option β
def zq8j (c : zq8i) : Spec :=
  ⟨[(false, [.data (.slice (.prod (.int .i64) (.prod (.int .i64) (.prod (.int .i64) (.int .i64)))))]), (false, [.fn 62 []])], [], [(false, [.data .bool])], [], fun x k => c x.1.1.1 (fun r0 => k (((r0, ()), ()), ()))⟩
section
variable (c_slices_IndexFunc_api_Channel_api_Channel_vdelivery_Valid_f1 : zq7z)
@[reducible] def slices_ContainsFunc_api_Channel_api_Channel_vdelivery_Valid_f1_X : Ctx := ⟨look tab, pick1 [(72, .spec (zq80 c_slices_IndexFunc_api_Channel_api_Channel_vdelivery_Valid_f1))], false, false, false, false⟩
def zq8k {β : Type} (s : List (Int × (Int × (Int × Int)))) (k : (Bool → Option β)) : Option β :=
  c_slices_IndexFunc_api_Channel_api_Channel_vdelivery_Valid_f1 s (fun (rChannel : Int) =>
  let t : Bool := (decide ((0 : Int) ≤ rChannel));
  k t)
theorem zq8l (hΓ : ΓOk Try.prog (slices_ContainsFunc_api_Channel_api_Channel_vdelivery_Valid_f1_X c_slices_IndexFunc_api_Channel_api_Channel_vdelivery_Valid_f1).Γ) : SpecOk Try.prog 61 (zq8j (zq8k c_slices_IndexFunc_api_Channel_api_Channel_vdelivery_Valid_f1)) :=
  spec_exec (X := (slices_ContainsFunc_api_Channel_api_Channel_vdelivery_Valid_f1_X c_slices_IndexFunc_api_Channel_api_Channel_vdelivery_Valid_f1)) (Λ := pick1 []) (rs := [.tmp 4]) (c := bodyOf Try.f61) mixed tab_ok hΓ Try.func61 (by kernel_rfl) (by kernel_rfl) (by kernel_rfl) (by kernel_rfl) CutsOk_nil (fun x k r h => Eq.trans (b := (zq8j (zq8k c_slices_IndexFunc_api_Channel_api_Channel_vdelivery_Valid_f1)).run x k) (by kernel_rfl) h)
end
theorem zq8mΓ : ΓOk Try.prog (pick1 [(72, .spec (zq80 zq8g))]) := (ΓOk_cons zq8h ΓOk_nil)
def zq8n : zq8i := zq8k zq8g
theorem zq8o : SpecOk Try.prog 61 (zq8j zq8n) := zq8l zq8g zq8mΓ

/-- pagewatch/delivery.Valid -/
abbrev zq8p := {β : Type} → (Int × List (Int × (Int × (Int × Int)))) → (Bool → Option β) → Option β
def zq8q (c : zq8p) : Spec :=
  ⟨[(true, [.data (.prod (.int .i64) (.slice (.prod (.int .i64) (.prod (.int .i64) (.prod (.int .i64) (.int .i64))))))])], [], [(false, [.data .bool])], [], fun x k => c x.1.1.1 (fun r0 => k (((r0, ()), ()), ()))⟩
section
variable (c_delivery_person : zq26) (c_slices_ContainsFunc_api_Channel_api_Channel_vdelivery_Valid_f1 : zq8i)
@[reducible] def delivery_Valid_X : Ctx := ⟨look tab, pick1 [(60, .spec (zq27 c_delivery_person)), (61, .spec (zq8j c_slices_ContainsFunc_api_Channel_api_Channel_vdelivery_Valid_f1))], false, false, false, false⟩
def zq8r {β : Type} (p_ : (Int × List (Int × (Int × (Int × Int))))) (k : (Bool → Option β)) : Option β :=
  c_delivery_person p_.1 (fun (rperson : Bool) =>
  cond rperson
  (cond (decide ((List.length p_.2 : Int) ≤ (4 : Int)))
  (c_slices_ContainsFunc_api_Channel_api_Channel_vdelivery_Valid_f1 p_.2 (fun (rChannel : Bool) =>
  k (!rChannel)))
  (k false))
  (k false))
theorem zq8s (hΓ : ΓOk Try.prog (delivery_Valid_X c_delivery_person c_slices_ContainsFunc_api_Channel_api_Channel_vdelivery_Valid_f1).Γ) : SpecOk Try.prog 31 (zq8q (zq8r c_delivery_person c_slices_ContainsFunc_api_Channel_api_Channel_vdelivery_Valid_f1)) :=
  spec_exec (X := (delivery_Valid_X c_delivery_person c_slices_ContainsFunc_api_Channel_api_Channel_vdelivery_Valid_f1)) (Λ := pick1 []) (rs := [.tmp 2]) (c := bodyOf Try.f31) mixed tab_ok hΓ Try.func31 (by kernel_rfl) (by kernel_rfl) (by kernel_rfl) (by kernel_rfl) CutsOk_nil (fun x k r h => Eq.trans (b := (zq8q (zq8r c_delivery_person c_slices_ContainsFunc_api_Channel_api_Channel_vdelivery_Valid_f1)).run x k) (by kernel_rfl) h)
end
theorem zq8tΓ : ΓOk Try.prog (pick1 [(60, .spec (zq27 zq2b)), (61, .spec (zq8j zq8n))]) := (ΓOk_cons zq2c (ΓOk_cons zq8o ΓOk_nil))
def zq8u : zq8p := zq8r zq2b zq8n
theorem zq8v : SpecOk Try.prog 31 (zq8q zq8u) := zq8s zq2b zq8n zq8tΓ

/-- pagewatch/delivery.Bound -/
abbrev zq8w := {β : Type} → (Int × List (Int × (Int × (Int × Int)))) → (Int → Option β) → Option β
def zq8x (c : zq8w) : Spec :=
  ⟨[(true, [.data (.prod (.int .i64) (.slice (.prod (.int .i64) (.prod (.int .i64) (.prod (.int .i64) (.int .i64))))))])], [], [(false, [.data (.int .i64)])], [], fun x k => c x.1.1.1 (fun r0 => k (((r0, ()), ()), ()))⟩
noncomputable def delivery_Bound_p1_code : Code := codeAt 58 (bodyOf Try.f20)
abbrev zq8y (β : Type) := Int → Option β
abbrev zq8z := {β : Type} → zq8y β → Int → (List (Int × (Int × (Int × Int)))) → Int → Int → Int → (List (Int × (Int × (Int × Int)))) → Option β
def zq90 : View := ⟨0, [1, 3, 7, 8, 9], [(false, [.ptr 0 0]), (false, [.data (.int .i64)]), (false, [.data (.slice (.prod (.int .i64) (.prod (.int .i64) (.prod (.int .i64) (.int .i64)))))]), (false, [.data (.int .i64)]), (false, [.data (.int .i64)])], [.cells 29 [.data (.int .i64), .data (.slice (.prod (.int .i64) (.prod (.int .i64) (.prod (.int .i64) (.int .i64)))))]]⟩
def zq91 : List (AExit × View) := [(.exit 0, ⟨0, [3], [(false, [.data (.int .i64)])], []⟩)]
@[reducible] def delivery_Bound_p1_G (p : zq8z) {β : Type} (d : zq90.den) (ks : Outs.K β zq91) : Option β :=
  p (fun a0 => ks.1 (((a0, ()), ()), ())) d.1.2.1.1 d.1.2.2.1.1 d.1.2.2.2.1.1 d.1.2.2.2.2.1.1 d.2.1.1 d.2.1.2.1
section
variable (c_channel_Worst : zq6h) (c_delivery_Valid : zq8p)
@[reducible] def delivery_Bound_X : Ctx := ⟨look tab, pick1 [(55, .spec (zq6i c_channel_Worst)), (31, .spec (zq8q c_delivery_Valid))], false, false, false, false⟩
def zq92 {β : Type} (rec : Int → (List (Int × (Int × (Int × Int)))) → Int → Int → Int → (List (Int × (Int × (Int × Int)))) → Option β) (k1 : zq8y β) (most : Int) (t7 : List (Int × (Int × (Int × Int)))) (t8 : Int) (t9 : Int) (p_ : Int) (p_2 : List (Int × (Int × (Int × Int)))) : Option β :=
  cond (decide (t9 < t8))
  (cond (decide (0 ≤ t9) && decide (t9 < (List.length t7 : Int)))
  (let e : (Int × (Int × (Int × Int))) := List.getD t7 (Int.toNat t9) ((0 : Int), ((0 : Int), ((0 : Int), (0 : Int))));
  c_delivery_Valid (p_, p_2) (fun (rValid : Bool) =>
  cond rValid
  (c_channel_Worst e (fun (rWorst : Int) =>
  let most2 : Int := (if rWorst > most then rWorst else most);
  rec most2 t7 t8 (IntKind.i64.wrap (t9 + (1 : Int))) p_ p_2))
  (rec most t7 t8 (IntKind.i64.wrap (t9 + (1 : Int))) p_ p_2)))
  none)
  (k1 most)
def zq93 {β : Type} : Nat → zq8y β → Int → (List (Int × (Int × (Int × Int)))) → Int → Int → Int → (List (Int × (Int × (Int × Int)))) → Option β
  | 0 => fun _ _ _ _ _ _ _ => none
  | i + 1 => fun k1 most t7 t8 t9 p_ p_2 => zq92 c_channel_Worst c_delivery_Valid (zq93 i k1) k1 most t7 t8 t9 p_ p_2
theorem zq94 (hΓ : ΓOk Try.prog (delivery_Bound_X c_channel_Worst c_delivery_Valid).Γ) (i : Nat) : PieceOk Try.prog 21 0 delivery_Bound_p1_code zq90 zq91 (delivery_Bound_p1_G (zq93 c_channel_Worst c_delivery_Valid i)) := by
  rw [show delivery_Bound_p1_code = .loop (loopBody delivery_Bound_p1_code) by kernel_rfl]
  exact piece_loop (X := (delivery_Bound_X c_channel_Worst c_delivery_Valid)) (p := 1) (Λ := pick1 []) (G := fun i => @fun β d ks => delivery_Bound_p1_G (zq93 c_channel_Worst c_delivery_Valid i) d ks) mixed tab_ok hΓ rfl (by kernel_rfl) CutsOk_nil (fun _ _ => rfl) (fun i => @fun β d ks r h => Eq.trans (b := delivery_Bound_p1_G (zq93 c_channel_Worst c_delivery_Valid (i + 1)) d ks) (by kernel_rfl) h) i
def zq95 (p1 : zq8z) {β : Type} (p_ : (Int × List (Int × (Int × (Int × Int))))) (k : (Int → Option β)) : Option β :=
  p1 (fun (most : Int) =>
  k most) (0 : Int) p_.2 (List.length p_.2 : Int) (0 : Int) p_.1 p_.2
theorem zq96 (hΓ : ΓOk Try.prog (delivery_Bound_X c_channel_Worst c_delivery_Valid).Γ) (p1 : zq8z) (hp1 : PieceOk Try.prog 21 0 delivery_Bound_p1_code zq90 zq91 (delivery_Bound_p1_G p1)) : SpecOk Try.prog 20 (zq8x (zq95 p1)) :=
  spec_exec (X := (delivery_Bound_X c_channel_Worst c_delivery_Valid)) (Λ := pick1 [(58, pieceCut zq90 zq91 (delivery_Bound_p1_G p1))]) (rs := [.tmp 2]) (c := bodyOf Try.f20) mixed tab_ok hΓ Try.func20 (by kernel_rfl) (by kernel_rfl) (by kernel_rfl) (by kernel_rfl) (CutsOk_cons (q := 58) (c' := delivery_Bound_p1_code) (by kernel_rfl) rfl hp1 CutsOk_nil) (fun x k r h => Eq.trans (b := (zq8x (zq95 p1)).run x k) (by kernel_rfl) h)
end
theorem zq97Γ : ΓOk Try.prog (pick1 [(55, .spec (zq6i zq6m)), (31, .spec (zq8q zq8u))]) := (ΓOk_cons zq6n (ΓOk_cons zq8v ΓOk_nil))
def zq98 (m : Nat) : zq8z := zq93 zq6m zq8u m
theorem zq99 {β : Type} (i : Nat) (k1 most t7 t8 t9 p_ p_2) : (zq98 (i + 1) k1 most t7 t8 t9 p_ p_2 : Option β) = zq92 zq6m zq8u (zq98 i k1) k1 most t7 t8 t9 p_ p_2 := rfl
def zq9a : zq8z := zq98 fuel
theorem zq9b : PieceOk Try.prog 21 0 delivery_Bound_p1_code zq90 zq91 (delivery_Bound_p1_G zq9a) := zq94 zq6m zq8u zq97Γ fuel
def zq9c : zq8w := zq95 zq9a
theorem zq9d : SpecOk Try.prog 20 (zq8x zq9c) := zq96 zq6m zq8u zq97Γ zq9a zq9b

/-- slices.SortFunc[[]pagewatch/api.Attempt,pagewatch/api.Attempt] with pagewatch/delivery.Plan$1 -/
def zq9e : Shelf.Ren :=
      { 
      f := fun x =>
        match x with
        | 6 => 40
        | 15 => 66
        | 14 => 65
        | 28 => 81
        | 29 => 82
        | 20 => 73
        | 21 => 74
        | 22 => 75
        | 23 => 76
        | 24 => 77
        | 25 => 78
        | 26 => 79
        | 27 => 80
        | 46 => 92
        | 47 => 93
        | 48 => 94
        | 49 => 95
        | 50 => 96
        | 57 => 101
        | n => n,
      t := fun x =>
        match x with
        | 22 => 33
        | 24 => 39
        | 25 => 81
        | 3 => 3
        | 39 => 97
        | 0 => 0
        | 53 => 23
        | 55 => 111
        | 4 => 4
        | 46 => 104
        | 45 => 103
        | 50 => 66
        | 5 => 5
        | 9 => 9
        | 66 => 118
        | 70 => 122
        | 76 => 126
        | 77 => 127
        | n => n,
      g := fun x => x }
theorem zq9f : Go.Proofs.SlLaysF0.n6 Try.prog zq9e :=
  { mixed := by kernel_rfl,
    f6 := Exists.intro "slices.SortFunc[[]pagewatch/api.Attempt,pagewatch/api.Attempt]" ⟨of_decide_eq_true (by kernel_rfl), Eq.trans Try.func40 (congrArg some (by kernel_rfl))⟩,
    f14 := Exists.intro "slices.pdqsortCmpFunc[pagewatch/api.Attempt]" ⟨of_decide_eq_true (by kernel_rfl), Eq.trans Try.func65 (congrArg some (by kernel_rfl))⟩,
    f15 := Eq.trans Try.func66 (congrArg some (by kernel_rfl)),
    f20 := Exists.intro "slices.insertionSortCmpFunc[pagewatch/api.Attempt]" ⟨of_decide_eq_true (by kernel_rfl), Eq.trans Try.func73 (congrArg some (by kernel_rfl))⟩,
    f21 := Exists.intro "slices.heapSortCmpFunc[pagewatch/api.Attempt]" ⟨of_decide_eq_true (by kernel_rfl), Eq.trans Try.func74 (congrArg some (by kernel_rfl))⟩,
    f22 := Exists.intro "slices.breakPatternsCmpFunc[pagewatch/api.Attempt]" ⟨of_decide_eq_true (by kernel_rfl), Eq.trans Try.func75 (congrArg some (by kernel_rfl))⟩,
    f23 := Exists.intro "slices.choosePivotCmpFunc[pagewatch/api.Attempt]" ⟨of_decide_eq_true (by kernel_rfl), Eq.trans Try.func76 (congrArg some (by kernel_rfl))⟩,
    f24 := Exists.intro "slices.reverseRangeCmpFunc[pagewatch/api.Attempt]" ⟨of_decide_eq_true (by kernel_rfl), Eq.trans Try.func77 (congrArg some (by kernel_rfl))⟩,
    f25 := Exists.intro "slices.partialInsertionSortCmpFunc[pagewatch/api.Attempt]" ⟨of_decide_eq_true (by kernel_rfl), Eq.trans Try.func78 (congrArg some (by kernel_rfl))⟩,
    f26 := Exists.intro "slices.partitionEqualCmpFunc[pagewatch/api.Attempt]" ⟨of_decide_eq_true (by kernel_rfl), Eq.trans Try.func79 (congrArg some (by kernel_rfl))⟩,
    f27 := Exists.intro "slices.partitionCmpFunc[pagewatch/api.Attempt]" ⟨of_decide_eq_true (by kernel_rfl), Eq.trans Try.func80 (congrArg some (by kernel_rfl))⟩,
    f28 := Eq.trans Try.func81 (congrArg some (by kernel_rfl)),
    f29 := Eq.trans Try.func82 (congrArg some (by kernel_rfl)),
    f46 := Exists.intro "slices.siftDownCmpFunc[pagewatch/api.Attempt]" ⟨of_decide_eq_true (by kernel_rfl), Eq.trans Try.func92 (congrArg some (by kernel_rfl))⟩,
    f47 := Eq.trans Try.func93 (congrArg some (by kernel_rfl)),
    f48 := Eq.trans Try.func94 (congrArg some (by kernel_rfl)),
    f49 := Exists.intro "slices.medianAdjacentCmpFunc[pagewatch/api.Attempt]" ⟨of_decide_eq_true (by kernel_rfl), Eq.trans Try.func95 (congrArg some (by kernel_rfl))⟩,
    f50 := Exists.intro "slices.medianCmpFunc[pagewatch/api.Attempt]" ⟨of_decide_eq_true (by kernel_rfl), Eq.trans Try.func96 (congrArg some (by kernel_rfl))⟩,
    f57 := Exists.intro "slices.order2CmpFunc[pagewatch/api.Attempt]" ⟨of_decide_eq_true (by kernel_rfl), Eq.trans Try.func101 (congrArg some (by kernel_rfl))⟩,
    t0 := Try.underlying0,
    a0 := Try.isAgg0,
    z0 := Try.sizeOf0,
    v0 := Try.zeroValue0,
    t3 := Try.underlying3,
    a3 := Try.isAgg3,
    z3 := Try.sizeOf3,
    v3 := Try.zeroValue3,
    t4 := Try.underlying4,
    a4 := Try.isAgg4,
    z4 := Try.sizeOf4,
    v4 := Try.zeroValue4,
    t5 := Try.underlying5,
    a5 := Try.isAgg5,
    z5 := Try.sizeOf5,
    v5 := Try.zeroValue5,
    t9 := Try.underlying9,
    a9 := Try.isAgg9,
    z9 := Try.sizeOf9,
    v9 := Try.zeroValue9,
    t22 := Try.underlying33,
    a22 := Try.isAgg33,
    z22 := Try.sizeOf33,
    v22 := Try.zeroValue33,
    t25 := Try.underlying81,
    a25 := Try.isAgg81,
    z25 := Try.sizeOf81,
    v25 := Try.zeroValue81,
    t39 := Try.underlying97,
    a39 := Try.isAgg97,
    z39 := Try.sizeOf97,
    v39 := Try.zeroValue97,
    t45 := Try.underlying103,
    a45 := Try.isAgg103,
    z45 := Try.sizeOf103,
    v45 := Try.zeroValue103,
    t46 := Try.underlying104,
    a46 := Try.isAgg104,
    z46 := Try.sizeOf104,
    v46 := Try.zeroValue104,
    t50 := Try.underlying66,
    a50 := Try.isAgg66,
    z50 := Try.sizeOf66,
    v50 := Try.zeroValue66,
    t53 := Try.underlying23,
    a53 := Try.isAgg23,
    z53 := Try.sizeOf23,
    v53 := Try.zeroValue23,
    t55 := Try.underlying111,
    a55 := Try.isAgg111,
    z55 := Try.sizeOf111,
    v55 := Try.zeroValue111,
    t66 := Try.underlying118,
    a66 := Try.isAgg118,
    z66 := Try.sizeOf118,
    v66 := Try.zeroValue118,
    t70 := Try.underlying122,
    a70 := Try.isAgg122,
    z70 := Try.sizeOf122,
    v70 := Try.zeroValue122,
    t76 := Try.underlying126,
    a76 := Try.isAgg126,
    z76 := Try.sizeOf126,
    v76 := Try.zeroValue126,
    t77 := Try.underlying127,
    a77 := Try.isAgg127,
    z77 := Try.sizeOf127,
    v77 := Try.zeroValue127 }
def zq9g (x y z : Int) : Int := if x ≠ 0 then x else if y ≠ 0 then y else z
def zq9h : (Int × Int × Int) → Bool := fun x => (decide (0 ≤ x.1) && decide (x.1 ≤ 4611686018427387904)) && (decide (0 ≤ x.2.1) && decide (x.2.1 ≤ 4611686018427387904)) && (decide (0 ≤ x.2.2) && decide (x.2.2 ≤ 4611686018427387904))
def zq9i : (Int × Int × Int) → (Int × Int × Int) → Int := fun x y => zq9g (x.2.2 - y.2.2) (x.1 - y.1) (x.2.1 - y.2.1)
def zq9j : List (Int × Int × Int) → List (Int × Int × Int) := sortRun zq9h ((0, 0, 0) : Int × Int × Int) rfl zq9i

set_option maxHeartbeats 1000000 in
theorem zq9k (b cap : Nat) (x y z : Int) (w : World) (hx : w.cell? ⟨b, 0, none⟩ = some (.int .i64 x)) (hy : w.cell? ⟨b, 1, none⟩ = some (.int .i64 y)) (hz : w.cell? ⟨b, 2, none⟩ = some (.int .i64 z)) :
    Calls Try.prog 42 #[.slice (some ⟨b, 0, none⟩) 3 cap] w fun e w' => e = .returned (.int .i64 (zq9g x y z)) ∧ w' = w := by
  go_enter Try.func42, Try.ntmps42
  go_wp2
  go_loop [8] (fun i => (i = .int .i64 0 ∨ (i = .int .i64 1 ∧ x = 0) ∨ (i = .int .i64 2 ∧ x = 0 ∧ y = 0) ∨ (i = .int .i64 3 ∧ x = 0 ∧ y = 0 ∧ z = 0))) (fun i => match i with | .int _ n => 3 - n.toNat | _ => 0)
  case atStart => exact .inl rfl
  case round =>
    rcases hrel with rfl | ⟨rfl, rfl⟩ | ⟨rfl, rfl, rfl⟩ | ⟨rfl, rfl, rfl, rfl⟩
    · go_wp2
      · rename_i hne _
        have hn : x ≠ 0 := by simpa using hne
        have e : zq9g x y z = x := by unfold zq9g; rw [if_pos hn]
        rw [e]
        go_ret
        exact ⟨rfl, rfl⟩
      · rename_i he
        have hn : x = 0 := by simpa using he
        exact ⟨.inr (.inl ⟨rfl, hn⟩), by decide⟩
    · go_wp2
      · rename_i hne _
        have hn : y ≠ 0 := by simpa using hne
        have e : zq9g 0 y z = y := by unfold zq9g; rw [if_neg (by simp), if_pos hn]
        rw [e]
        go_ret
        exact ⟨rfl, rfl⟩
      · rename_i he
        have hn : y = 0 := by simpa using he
        exact ⟨.inr (.inr (.inl ⟨rfl, trivial, hn⟩)), by decide⟩
    · go_wp2
      · rename_i hne _
        have hn : z ≠ 0 := by simpa using hne
        have e : zq9g 0 0 z = z := by unfold zq9g; rw [if_neg (by simp), if_neg (by simp)]
        rw [e]
        go_ret
        exact ⟨rfl, rfl⟩
      · rename_i he
        have hn : z = 0 := by simpa using he
        exact ⟨.inr (.inr (.inr ⟨rfl, trivial, trivial, hn⟩)), by decide⟩
    · go_wp2
      go_ret
      exact ⟨rfl, rfl⟩

set_option maxHeartbeats 1000000 in
theorem zq9l (a0 a1 a2 b0 b1 b2 : Int) (W : World) (h1 : Go.RowKit.wrap64 (a2 - b2) = a2 - b2) (h2 : Go.RowKit.wrap64 (a0 - b0) = a0 - b0) (h3 : Go.RowKit.wrap64 (a1 - b1) = a1 - b1) :
    Calls Try.prog 41 #[.agg #[.int .i64 a0, .int .i64 a1, .int .i64 a2], .agg #[.int .i64 b0, .int .i64 b1, .int .i64 b2]] W fun e w' => e = .returned (.int .i64 (zq9g (a2 - b2) (a0 - b0) (a1 - b1))) ∧ ∃ q os', w' = Go.Sort.grow (W.drewN q) os' := by
  go_enter Try.func41, Try.ntmps41
  have hcall : ∀ (o1 o2 : Obj), Calls Try.prog 42 #[.slice (some ⟨W.heap.size + 1 + 1, 0, none⟩) 3 3] (((W.alloc o1).alloc o2).alloc (.cells #[.int .i64 (a2 - b2), .int .i64 (a0 - b0), .int .i64 (a1 - b1)] 3)) fun e w' => e = .returned (.int .i64 (zq9g (a2 - b2) (a0 - b0) (a1 - b1))) ∧ w' = (((W.alloc o1).alloc o2).alloc (.cells #[.int .i64 (a2 - b2), .int .i64 (a0 - b0), .int .i64 (a1 - b1)] 3)) := fun o1 o2 =>
    zq9k _ _ _ _ _ _ (by go_simp) (by go_simp) (by go_simp)
  go_wp2_with (refine (hcall _ _).mono ?_; rintro e w' ⟨rfl, rfl⟩)
  go_ret
  exact ⟨rfl, 0, _, by rw [Go.Sort.alloc_eq_grow, Go.Sort.alloc_eq_grow, Go.Sort.alloc_eq_grow, Go.Sort.grow_grow, Go.Sort.grow_grow]; rfl⟩
theorem zq9m (x y : Int × Int × Int) (hx : zq9h x = true) (hy : zq9h y = true) (W : World) : Calls Try.prog 41 #[.agg (encT (.prod (.int .i64) (.prod (.int .i64) (.int .i64))) x).toArray, .agg (encT (.prod (.int .i64) (.prod (.int .i64) (.int .i64))) y).toArray] W fun e w' => e = .returned (.int .i64 (zq9i x y)) ∧ ∃ q os', w' = Go.Sort.grow (W.drewN q) os' := by
  obtain ⟨a0, a1, a2⟩ := x
  obtain ⟨b0, b1, b2⟩ := y
  simp only [zq9h, Bool.and_eq_true, decide_eq_true_eq] at hx hy
  obtain ⟨⟨⟨p1, p2⟩, p3, p4⟩, p5, p6⟩ := hx
  obtain ⟨⟨⟨q1, q2⟩, q3, q4⟩, q5, q6⟩ := hy
  exact zq9l a0 a1 a2 b0 b1 b2 W (by unfold Go.RowKit.wrap64; omega) (by unfold Go.RowKit.wrap64; omega) (by unfold Go.RowKit.wrap64; omega)
theorem zq9n : Go.Sort.SWO (Go.Proofs.ltOf fun (x y : {x : Int × Int × Int // zq9h x = true}) => zq9i x.1 y.1) := by
  have key : ∀ a b : Int × Int × Int, zq9i a b < 0 ↔ (a.2.2 < b.2.2 ∨ (a.2.2 = b.2.2 ∧ (a.1 < b.1 ∨ (a.1 = b.1 ∧ a.2.1 < b.2.1)))) := by
    intro a b
    unfold zq9i zq9g
    split
    · omega
    · split <;> omega
  constructor
  · intro x
    refine decide_eq_false ?_
    rw [key]
    omega
  · intro x y z h1 h2
    have h1 := of_decide_eq_true h1
    have h2 := of_decide_eq_true h2
    rw [key] at h1 h2
    refine decide_eq_true ?_
    rw [key]
    omega
  · intro x y z h1 h2
    have h1 := of_decide_eq_false h1
    have h2 := of_decide_eq_false h2
    rw [key] at h1 h2
    refine decide_eq_false ?_
    rw [key]
    omega
def zq9o : RowF := ⟨39, (.prod (.int .i64) (.prod (.int .i64) (.int .i64))), false, fun l => List.all l zq9h && decide (List.length l < 4611686018427387904), zq9j, some 41⟩
theorem zq9p : RowOk Try.prog 40 zq9o :=
  sortFunc_rowok (t := 39) (e := (.prod (.int .i64) (.prod (.int .i64) (.int .i64)))) (good := zq9h) (d0 := ((0, 0, 0) : Int × Int × Int)) (h0 := rfl) (cf := zq9i) (g := 41) rfl (by decide) zq9f rfl Try.isAgg39 Try.sizeOf39 zq9n (Go.Proofs.enters_of Try.func41 (by kernel_rfl) rfl) zq9m ⟨_, Try.func40, by kernel_rfl, by kernel_rfl⟩

/-- pagewatch/delivery.Plan -/
abbrev zq9q := {β : Type} → (Int × List (Int × (Int × (Int × Int)))) → Int → ((List (Int × (Int × Int))) → Option β) → Option β
def zq9r (c : zq9q) : Spec :=
  ⟨[(true, [.data (.prod (.int .i64) (.slice (.prod (.int .i64) (.prod (.int .i64) (.prod (.int .i64) (.int .i64))))))]), (false, [.data (.int .i64)])], [], [(false, [.rowh 0])], [.row 39 (.prod (.int .i64) (.prod (.int .i64) (.int .i64)))], fun x k => c x.1.1.1 x.1.2.1.1 (fun r0 => k (((), ()), (r0, ())))⟩
noncomputable def delivery_Plan_p2_code : Code := codeAt 122 (bodyOf Try.f13)
noncomputable def delivery_Plan_p1_code : Code := codeAt 230 (loopBody delivery_Plan_p2_code)
abbrev zq9s (β : Type) := Int → (List (Int × (Int × (Int × Int)))) → Int → Int → (List (Int × (Int × Int))) → Option β
abbrev zq9t := {β : Type} → zq9s β → Int → Int → (List (Int × (Int × (Int × Int)))) → Int → Int → Int → Int → (List (Int × (Int × Int))) → Int → Int → Int → Int → Option β
def zq9u : View := ⟨0, [1, 5, 6, 7, 18, 19, 20, 26, 27], [(false, [.data (.int .i64)]), (false, [.rowh 0]), (false, [.data (.int .i64)]), (false, [.ptr 1 0]), (false, [.data (.slice (.prod (.int .i64) (.prod (.int .i64) (.prod (.int .i64) (.int .i64)))))]), (false, [.data (.int .i64)]), (false, [.data (.int .i64)]), (false, [.data (.int .i64)]), (false, [.data (.int .i64)])], [.row 39 (.prod (.int .i64) (.prod (.int .i64) (.int .i64))), .cells 36 [.data (.int .i64), .data (.int .i64), .data (.int .i64), .data (.int .i64)]]⟩
def zq9v : List (AExit × View) := [(.exit 2, ⟨0, [1, 5, 18, 19, 20], [(false, [.data (.int .i64)]), (false, [.rowh 0]), (false, [.data (.slice (.prod (.int .i64) (.prod (.int .i64) (.prod (.int .i64) (.int .i64)))))]), (false, [.data (.int .i64)]), (false, [.data (.int .i64)])], [.row 39 (.prod (.int .i64) (.prod (.int .i64) (.int .i64)))]⟩)]
@[reducible] def delivery_Plan_p1_G (p : zq9t) {β : Type} (d : zq9u.den) (ks : Outs.K β zq9v) : Option β :=
  p (fun a0 a1 a2 a3 a4 => ks.1 (((a0, ()), (), (a1, ()), (a2, ()), (a3, ()), ()), (a4, ()))) d.1.1.1 d.1.2.2.1.1 d.1.2.2.2.2.1.1 d.1.2.2.2.2.2.1.1 d.1.2.2.2.2.2.2.1.1 d.1.2.2.2.2.2.2.2.1.1 d.1.2.2.2.2.2.2.2.2.1.1 d.2.1 d.2.2.1.1 d.2.2.1.2.1 d.2.2.1.2.2.1 d.2.2.1.2.2.2.1
abbrev zq9w (β : Type) := (List (Int × (Int × Int))) → Option β
abbrev zq9x := {β : Type} → zq9w β → Int → (List (Int × (Int × (Int × Int)))) → Int → Int → (List (Int × (Int × Int))) → Option β
def zq9y : View := ⟨0, [1, 5, 18, 19, 20], [(false, [.data (.int .i64)]), (false, [.rowh 0]), (false, [.data (.slice (.prod (.int .i64) (.prod (.int .i64) (.prod (.int .i64) (.int .i64)))))]), (false, [.data (.int .i64)]), (false, [.data (.int .i64)])], [.row 39 (.prod (.int .i64) (.prod (.int .i64) (.int .i64)))]⟩
def zq9z : List (AExit × View) := [(.exit 0, ⟨0, [5], [(false, [.rowh 0])], [.row 39 (.prod (.int .i64) (.prod (.int .i64) (.int .i64)))]⟩)]
@[reducible] def delivery_Plan_p2_G (p : zq9x) {β : Type} (d : zq9y.den) (ks : Outs.K β zq9z) : Option β :=
  p (fun a0 => ks.1 (((), ()), (a0, ()))) d.1.1.1 d.1.2.2.1.1 d.1.2.2.2.1.1 d.1.2.2.2.2.1.1 d.2.1
section
variable (c_delivery_Valid : zq8p) (c_delivery_in : zq13)
@[reducible] def delivery_Plan_X : Ctx := ⟨look tab, pick1 [(31, .spec (zq8q c_delivery_Valid)), (39, .spec (zq14 c_delivery_in)), (40, .rows zq9o)], false, false, false, false⟩
def zqa0 {β : Type} (rec : Int → Int → (List (Int × (Int × (Int × Int)))) → Int → Int → Int → Int → (List (Int × (Int × Int))) → Int → Int → Int → Int → Option β) (k1 : zq9s β) (start : Int) (c : Int) (t18 : List (Int × (Int × (Int × Int)))) (t19 : Int) (t20 : Int) (t26 : Int) (t27 : Int) (out : List (Int × (Int × Int))) (ch : Int) (ch2 : Int) (ch3 : Int) (ch4 : Int) : Option β :=
  cond (decide (t27 < t26))
  (let l : List (Int × (Int × Int)) := ([(c, (t27, (IntKind.i64.wrap (start + (IntKind.i64.wrap (t27 * ch4))))))] : List (Int × (Int × Int)));
  cond (decide ((List.length out + List.length l) * 24 ≤ roomMax))
  (let l2 : List (Int × (Int × Int)) := (out ++ l);
  rec start c t18 t19 t20 t26 (IntKind.i64.wrap (t27 + (1 : Int))) l2 ch ch2 ch3 ch4)
  none)
  (k1 start t18 t19 t20 out)
def zqa1 {β : Type} : Nat → zq9s β → Int → Int → (List (Int × (Int × (Int × Int)))) → Int → Int → Int → Int → (List (Int × (Int × Int))) → Int → Int → Int → Int → Option β
  | 0 => fun _ _ _ _ _ _ _ _ _ _ _ _ _ => none
  | i + 1 => fun k1 start c t18 t19 t20 t26 t27 out ch ch2 ch3 ch4 => zqa0 (zqa1 i k1) k1 start c t18 t19 t20 t26 t27 out ch ch2 ch3 ch4
theorem zqa2 (hΓ : ΓOk Try.prog (delivery_Plan_X c_delivery_Valid c_delivery_in).Γ) (i : Nat) : PieceOk Try.prog 47 0 delivery_Plan_p1_code zq9u zq9v (delivery_Plan_p1_G (zqa1 i)) := by
  rw [show delivery_Plan_p1_code = .loop (loopBody delivery_Plan_p1_code) by kernel_rfl]
  exact piece_loop (X := (delivery_Plan_X c_delivery_Valid c_delivery_in)) (p := 1) (Λ := pick1 []) (G := fun i => @fun β d ks => delivery_Plan_p1_G (zqa1 i) d ks) mixed tab_ok hΓ rfl (by kernel_rfl) CutsOk_nil (fun _ _ => rfl) (fun i => @fun β d ks r h => Eq.trans (b := delivery_Plan_p1_G (zqa1 (i + 1)) d ks) (by kernel_rfl) h) i
def zqa3 (p1 : zq9t) {β : Type} (rec : Int → (List (Int × (Int × (Int × Int)))) → Int → Int → (List (Int × (Int × Int))) → Option β) (k1 : zq9w β) (start : Int) (t18 : List (Int × (Int × (Int × Int)))) (t19 : Int) (t20 : Int) (out : List (Int × (Int × Int))) : Option β :=
  cond (decide (t20 < t19))
  (cond (decide (0 ≤ t20) && decide (t20 < (List.length t18 : Int)))
  (let e : (Int × (Int × (Int × Int))) := List.getD t18 (Int.toNat t20) ((0 : Int), ((0 : Int), ((0 : Int), (0 : Int))));
  p1 (fun (start2 : Int) (t182 : List (Int × (Int × (Int × Int)))) (t192 : Int) (t202 : Int) (out2 : List (Int × (Int × Int))) =>
  rec start2 t182 t192 (IntKind.i64.wrap (t202 + (1 : Int))) out2) start t20 t18 t19 t20 e.2.2.1 (0 : Int) out e.1 e.2.1 e.2.2.1 e.2.2.2)
  none)
  (k1 out)
def zqa4 (p1 : zq9t) {β : Type} : Nat → zq9w β → Int → (List (Int × (Int × (Int × Int)))) → Int → Int → (List (Int × (Int × Int))) → Option β
  | 0 => fun _ _ _ _ _ _ => none
  | i + 1 => fun k1 start t18 t19 t20 out => zqa3 p1 (zqa4 p1 i k1) k1 start t18 t19 t20 out
theorem zqa5 (hΓ : ΓOk Try.prog (delivery_Plan_X c_delivery_Valid c_delivery_in).Γ) (p1 : zq9t) (hp1 : PieceOk Try.prog 47 0 delivery_Plan_p1_code zq9u zq9v (delivery_Plan_p1_G p1)) (i : Nat) : PieceOk Try.prog 47 0 delivery_Plan_p2_code zq9y zq9z (delivery_Plan_p2_G (zqa4 p1 i)) := by
  rw [show delivery_Plan_p2_code = .loop (loopBody delivery_Plan_p2_code) by kernel_rfl]
  exact piece_loop (X := (delivery_Plan_X c_delivery_Valid c_delivery_in)) (p := 1) (Λ := pick1 [(230, pieceCut zq9u zq9v (delivery_Plan_p1_G p1))]) (G := fun i => @fun β d ks => delivery_Plan_p2_G (zqa4 p1 i) d ks) mixed tab_ok hΓ rfl (by kernel_rfl) (CutsOk_cons (q := 230) (c' := delivery_Plan_p1_code) (by kernel_rfl) rfl hp1 CutsOk_nil) (fun _ _ => rfl) (fun i => @fun β d ks r h => Eq.trans (b := delivery_Plan_p2_G (zqa4 p1 (i + 1)) d ks) (by kernel_rfl) h) i
def zqa6 (p2 : zq9x) {β : Type} (p_ : (Int × List (Int × (Int × (Int × Int))))) (start : Int) (k : ((List (Int × (Int × Int))) → Option β)) : Option β :=
  c_delivery_Valid p_ (fun (rValid : Bool) =>
  cond (!rValid)
  (k ([] : List (Int × (Int × Int))))
  (c_delivery_in start (0 : Int) (8589934592 : Int) (fun (rin : Bool) =>
  cond (!rin)
  (k ([] : List (Int × (Int × Int))))
  (p2 (fun (out : List (Int × (Int × Int))) =>
  cond ((List.all out zq9h) && decide (List.length out < 4611686018427387904))
  (let l : List (Int × (Int × Int)) := (zq9j out);
  k l)
  none) start p_.2 (List.length p_.2 : Int) (0 : Int) ([] : List (Int × (Int × Int)))))))
theorem zqa7 (hΓ : ΓOk Try.prog (delivery_Plan_X c_delivery_Valid c_delivery_in).Γ) (p2 : zq9x) (hp2 : PieceOk Try.prog 47 0 delivery_Plan_p2_code zq9y zq9z (delivery_Plan_p2_G p2)) : SpecOk Try.prog 13 (zq9r (zqa6 c_delivery_Valid c_delivery_in p2)) :=
  spec_exec (X := (delivery_Plan_X c_delivery_Valid c_delivery_in)) (Λ := pick1 [(122, pieceCut zq9y zq9z (delivery_Plan_p2_G p2))]) (rs := [.tmp 4]) (c := bodyOf Try.f13) mixed tab_ok hΓ Try.func13 (by kernel_rfl) (by kernel_rfl) (by kernel_rfl) (by kernel_rfl) (CutsOk_cons (q := 122) (c' := delivery_Plan_p2_code) (by kernel_rfl) rfl hp2 CutsOk_nil) (fun x k r h => Eq.trans (b := (zq9r (zqa6 c_delivery_Valid c_delivery_in p2)).run x k) (by kernel_rfl) h)
end
theorem zqa8Γ : ΓOk Try.prog (pick1 [(31, .spec (zq8q zq8u)), (39, .spec (zq14 zq18)), (40, .rows zq9o)]) := (ΓOk_cons zq8v (ΓOk_cons zq19 (ΓOk_row zq9p ΓOk_nil)))
def zqa9 (m : Nat) : zq9t := zqa1 m
theorem zqaa {β : Type} (i : Nat) (k1 start c t18 t19 t20 t26 t27 out ch ch2 ch3 ch4) : (zqa9 (i + 1) k1 start c t18 t19 t20 t26 t27 out ch ch2 ch3 ch4 : Option β) = zqa0 (zqa9 i k1) k1 start c t18 t19 t20 t26 t27 out ch ch2 ch3 ch4 := rfl
def zqab : zq9t := zqa9 fuel
theorem zqac : PieceOk Try.prog 47 0 delivery_Plan_p1_code zq9u zq9v (delivery_Plan_p1_G zqab) := zqa2 zq8u zq18 zqa8Γ fuel
def zqad (m : Nat) : zq9x := zqa4 zqab m
theorem zqae {β : Type} (i : Nat) (k1 start t18 t19 t20 out) : (zqad (i + 1) k1 start t18 t19 t20 out : Option β) = zqa3 zqab (zqad i k1) k1 start t18 t19 t20 out := rfl
def zqaf : zq9x := zqad fuel
theorem zqag : PieceOk Try.prog 47 0 delivery_Plan_p2_code zq9y zq9z (delivery_Plan_p2_G zqaf) := zqa5 zq8u zq18 zqa8Γ zqab zqac fuel
def zqah : zq9q := zqa6 zq8u zq18 zqaf
theorem zqai : SpecOk Try.prog 13 (zq9r zqah) := zqa7 zq8u zq18 zqa8Γ zqaf zqag

/-- slices.IndexFunc[[]int,int] -/
abbrev zqaj := {β : Type} → (List Int) → (Int × (Int × Int)) → (Int → (Int × (Int × Int)) → Option β) → Option β
def zqak (c : zqaj) : Spec :=
  ⟨[(false, [.data (.slice (.int .i64))]), (false, [.fn 45 [0]])], [.cells 39 [.data (.prod (.int .i64) (.prod (.int .i64) (.int .i64)))]], [(false, [.data (.int .i64)])], [.cells 39 [.data (.prod (.int .i64) (.prod (.int .i64) (.int .i64)))]], fun x k => c x.1.1.1 x.2.1.1 (fun r0 r1 => k (((r0, ()), ()), ((r1, ()), ())))⟩
noncomputable def slices_IndexFunc_int_int_vdelivery_Run_f1_p1_code : Code := codeAt 26 (bodyOf Try.f67)
abbrev zqal (β : Type) := Int → Int → Int → Int → Option β
abbrev zqam (β : Type) := Int → Int → Int → Option β
abbrev zqan := {β : Type} → zqal β → zqam β → (List Int) → Int → Int → Int → Int → Int → Option β
def zqao : View := ⟨1, [0, 1, 7, 8], [(false, [.data (.slice (.int .i64))]), (false, [.fn 45 [0]]), (false, [.data (.int .i64)]), (false, [.data (.int .i64)])], [.cells 39 [.data (.int .i64), .data (.int .i64), .data (.int .i64)]]⟩
def zqap : List (AExit × View) := [(.ret, ⟨1, [4], [(false, [.data (.int .i64)])], [.cells 39 [.data (.int .i64), .data (.int .i64), .data (.int .i64)]]⟩), (.exit 0, ⟨1, [], [], [.cells 39 [.data (.int .i64), .data (.int .i64), .data (.int .i64)]]⟩)]
@[reducible] def slices_IndexFunc_int_int_vdelivery_Run_f1_p1_G (p : zqan) {β : Type} (d : zqao.den) (ks : Outs.K β zqap) : Option β :=
  p (fun a0 a1 a2 a3 => ks.1 (((a0, ()), ()), ((a1, a2, a3, ()), ()))) (fun a0 a1 a2 => ks.2.1 ((), ((a0, a1, a2, ()), ()))) d.1.1.1 d.1.2.2.1.1 d.1.2.2.2.1.1 d.2.1.1 d.2.1.2.1 d.2.1.2.2.1
section
variable (c_delivery_Run_f1 : zq1h)
@[reducible] def slices_IndexFunc_int_int_vdelivery_Run_f1_X : Ctx := ⟨look tab, pick1 [(45, .spec (zq1i c_delivery_Run_f1))], false, false, false, false⟩
def zqaq {β : Type} (rec : (List Int) → Int → Int → Int → Int → Int → Option β) (k1 : zqal β) (k2 : zqam β) (s : List Int) (t7 : Int) (t8 : Int) (b0_ : Int) (b0_2 : Int) (b0_3 : Int) : Option β :=
  cond (decide (t8 < t7))
  (cond (decide (0 ≤ t8) && decide (t8 < (List.length s : Int)))
  (let e : Int := List.getD s (Int.toNat t8) (0 : Int);
  c_delivery_Run_f1 e (b0_, (b0_2, b0_3)) (fun (rRun1 : Bool) (mrRun1 : (Int × (Int × Int))) =>
  cond rRun1
  (k1 t8 mrRun1.1 mrRun1.2.1 mrRun1.2.2)
  (rec s t7 (IntKind.i64.wrap (t8 + (1 : Int))) mrRun1.1 mrRun1.2.1 mrRun1.2.2)))
  none)
  (k2 b0_ b0_2 b0_3)
def zqar {β : Type} : Nat → zqal β → zqam β → (List Int) → Int → Int → Int → Int → Int → Option β
  | 0 => fun _ _ _ _ _ _ _ _ => none
  | i + 1 => fun k1 k2 s t7 t8 b0_ b0_2 b0_3 => zqaq c_delivery_Run_f1 (zqar i k1 k2) k1 k2 s t7 t8 b0_ b0_2 b0_3
theorem zqas (hΓ : ΓOk Try.prog (slices_IndexFunc_int_int_vdelivery_Run_f1_X c_delivery_Run_f1).Γ) (i : Nat) : PieceOk Try.prog 19 1 slices_IndexFunc_int_int_vdelivery_Run_f1_p1_code zqao zqap (slices_IndexFunc_int_int_vdelivery_Run_f1_p1_G (zqar c_delivery_Run_f1 i)) := by
  rw [show slices_IndexFunc_int_int_vdelivery_Run_f1_p1_code = .loop (loopBody slices_IndexFunc_int_int_vdelivery_Run_f1_p1_code) by kernel_rfl]
  exact piece_loop (X := (slices_IndexFunc_int_int_vdelivery_Run_f1_X c_delivery_Run_f1)) (p := 1) (Λ := pick1 []) (G := fun i => @fun β d ks => slices_IndexFunc_int_int_vdelivery_Run_f1_p1_G (zqar c_delivery_Run_f1 i) d ks) mixed tab_ok hΓ rfl (by kernel_rfl) CutsOk_nil (fun _ _ => rfl) (fun i => @fun β d ks r h => Eq.trans (b := slices_IndexFunc_int_int_vdelivery_Run_f1_p1_G (zqar c_delivery_Run_f1 (i + 1)) d ks) (by kernel_rfl) h) i
def zqat (p1 : zqan) {β : Type} (s : List Int) (b0_ : (Int × (Int × Int))) (k : (Int → (Int × (Int × Int)) → Option β)) : Option β :=
  p1 (fun (t4 : Int) (b0_2 : Int) (b0_3 : Int) (b0_4 : Int) =>
  k t4 (b0_2, (b0_3, b0_4))) (fun (b0_2 : Int) (b0_3 : Int) (b0_4 : Int) =>
  k (-1 : Int) (b0_2, (b0_3, b0_4))) s (List.length s : Int) (0 : Int) b0_.1 b0_.2.1 b0_.2.2
theorem zqau (hΓ : ΓOk Try.prog (slices_IndexFunc_int_int_vdelivery_Run_f1_X c_delivery_Run_f1).Γ) (p1 : zqan) (hp1 : PieceOk Try.prog 19 1 slices_IndexFunc_int_int_vdelivery_Run_f1_p1_code zqao zqap (slices_IndexFunc_int_int_vdelivery_Run_f1_p1_G p1)) : SpecOk Try.prog 67 (zqak (zqat p1)) :=
  spec_exec (X := (slices_IndexFunc_int_int_vdelivery_Run_f1_X c_delivery_Run_f1)) (Λ := pick1 [(26, pieceCut zqao zqap (slices_IndexFunc_int_int_vdelivery_Run_f1_p1_G p1))]) (rs := [.tmp 4]) (c := bodyOf Try.f67) mixed tab_ok hΓ Try.func67 (by kernel_rfl) (by kernel_rfl) (by kernel_rfl) (by kernel_rfl) (CutsOk_cons (q := 26) (c' := slices_IndexFunc_int_int_vdelivery_Run_f1_p1_code) (by kernel_rfl) rfl hp1 CutsOk_nil) (fun x k r h => Eq.trans (b := (zqak (zqat p1)).run x k) (by kernel_rfl) h)
end
theorem zqavΓ : ΓOk Try.prog (pick1 [(45, .spec (zq1i zq1m))]) := (ΓOk_cons zq1n ΓOk_nil)
def zqaw (m : Nat) : zqan := zqar zq1m m
theorem zqax {β : Type} (i : Nat) (k1 k2 s t7 t8 b0_ b0_2 b0_3) : (zqaw (i + 1) k1 k2 s t7 t8 b0_ b0_2 b0_3 : Option β) = zqaq zq1m (zqaw i k1 k2) k1 k2 s t7 t8 b0_ b0_2 b0_3 := rfl
def zqay : zqan := zqaw fuel
theorem zqaz : PieceOk Try.prog 19 1 slices_IndexFunc_int_int_vdelivery_Run_f1_p1_code zqao zqap (slices_IndexFunc_int_int_vdelivery_Run_f1_p1_G zqay) := zqas zq1m zqavΓ fuel
def zqb0 : zqaj := zqat zqay
theorem zqb1 : SpecOk Try.prog 67 (zqak zqb0) := zqau zq1m zqavΓ zqay zqaz

/-- slices.ContainsFunc[[]int,int] -/
abbrev zqb2 := {β : Type} → (List Int) → (Int × (Int × Int)) → (Bool → (Int × (Int × Int)) → Option β) → Option β
def zqb3 (c : zqb2) : Spec :=
  ⟨[(false, [.data (.slice (.int .i64))]), (false, [.fn 45 [0]])], [.cells 39 [.data (.prod (.int .i64) (.prod (.int .i64) (.int .i64)))]], [(false, [.data .bool])], [.cells 39 [.data (.prod (.int .i64) (.prod (.int .i64) (.int .i64)))]], fun x k => c x.1.1.1 x.2.1.1 (fun r0 r1 => k (((r0, ()), ()), ((r1, ()), ())))⟩
section
variable (c_slices_IndexFunc_int_int_vdelivery_Run_f1 : zqaj)
@[reducible] def slices_ContainsFunc_int_int_vdelivery_Run_f1_X : Ctx := ⟨look tab, pick1 [(67, .spec (zqak c_slices_IndexFunc_int_int_vdelivery_Run_f1))], false, false, false, false⟩
def zqb4 {β : Type} (s : List Int) (b0_ : (Int × (Int × Int))) (k : (Bool → (Int × (Int × Int)) → Option β)) : Option β :=
  c_slices_IndexFunc_int_int_vdelivery_Run_f1 s b0_ (fun (rIndexFuncintint : Int) (mrIndexFuncintint : (Int × (Int × Int))) =>
  let t : Bool := (decide ((0 : Int) ≤ rIndexFuncintint));
  k t mrIndexFuncintint)
theorem zqb5 (hΓ : ΓOk Try.prog (slices_ContainsFunc_int_int_vdelivery_Run_f1_X c_slices_IndexFunc_int_int_vdelivery_Run_f1).Γ) : SpecOk Try.prog 44 (zqb3 (zqb4 c_slices_IndexFunc_int_int_vdelivery_Run_f1)) :=
  spec_exec (X := (slices_ContainsFunc_int_int_vdelivery_Run_f1_X c_slices_IndexFunc_int_int_vdelivery_Run_f1)) (Λ := pick1 []) (rs := [.tmp 4]) (c := bodyOf Try.f44) mixed tab_ok hΓ Try.func44 (by kernel_rfl) (by kernel_rfl) (by kernel_rfl) (by kernel_rfl) CutsOk_nil (fun x k r h => Eq.trans (b := (zqb3 (zqb4 c_slices_IndexFunc_int_int_vdelivery_Run_f1)).run x k) (by kernel_rfl) h)
end
theorem zqb6Γ : ΓOk Try.prog (pick1 [(67, .spec (zqak zqb0))]) := (ΓOk_cons zqb1 ΓOk_nil)
def zqb7 : zqb2 := zqb4 zqb0
theorem zqb8 : SpecOk Try.prog 44 (zqb3 zqb7) := zqb5 zqb0 zqb6Γ

/-- pagewatch/delivery.Run -/
abbrev zqb9 := {β : Type} → (Int × List (Int × (Int × (Int × Int)))) → Int → (List (List zq0)) → (Int → (List Int) → (List Int) → Option β) → Option β
def zqba (c : zqb9) : Spec :=
  ⟨[(true, [.data (.prod (.int .i64) (.slice (.prod (.int .i64) (.prod (.int .i64) (.prod (.int .i64) (.int .i64))))))]), (false, [.data (.int .i64)]), (false, [.data (.slice (.slice zq1))])], [], [(false, [.rowh 0]), (false, [.rowh 1]), (false, [.data (.int .i64)])], [.row 3 (.int .i64), .row 3 (.int .i64)], fun x k => c x.1.1.1 x.1.2.1.1 x.1.2.2.1.1 (fun r0 r1 r2 => k (((), (), (r0, ()), ()), (r1, r2, ())))⟩
noncomputable def delivery_Run_p3_code : Code := codeAt 58 (bodyOf Try.f16)
noncomputable def delivery_Run_p1_code : Code := codeAt 463 (loopBody delivery_Run_p3_code)
noncomputable def delivery_Run_p2_code : Code := codeAt 115 (loopBody delivery_Run_p3_code)
abbrev zqbb (β : Type) := (List (List zq0)) → Int → Int → Int → (List Int) → (List Int) → (List (Int × (Int × Int))) → Option β
abbrev zqbc := {β : Type} → zqbb β → (List (List zq0)) → Int → (List zq0) → Int → Int → (List Int) → (List Int) → (List (Int × (Int × Int))) → Int → Int → Int → Option β
def zqbd : View := ⟨0, [2, 6, 7, 8, 9, 11, 12, 17, 18, 19], [(false, [.data (.slice (.slice zq1))]), (false, [.rowh 0]), (false, [.rowh 1]), (false, [.data (.int .i64)]), (false, [.rowh 2]), (false, [.ptr 3 0]), (false, [.data (.slice zq1)]), (false, [.rowh 2]), (false, [.data (.int .i64)]), (false, [.data (.int .i64)])], [.row 3 (.int .i64), .row 3 (.int .i64), .row 39 (.prod (.int .i64) (.prod (.int .i64) (.int .i64))), .cells 39 [.data (.int .i64), .data (.int .i64), .data (.int .i64)]]⟩
def zqbe : List (AExit × View) := [(.normal, ⟨0, [2, 6, 7, 8, 9, 17, 18, 19], [(false, [.data (.slice (.slice zq1))]), (false, [.rowh 0]), (false, [.rowh 1]), (false, [.data (.int .i64)]), (false, [.rowh 2]), (false, [.rowh 2]), (false, [.data (.int .i64)]), (false, [.data (.int .i64)])], [.row 3 (.int .i64), .row 3 (.int .i64), .row 39 (.prod (.int .i64) (.prod (.int .i64) (.int .i64)))]⟩)]
@[reducible] def delivery_Run_p1_G (p : zqbc) {β : Type} (d : zqbd.den) (ks : Outs.K β zqbe) : Option β :=
  p (fun a0 a1 a2 a3 a4 a5 a6 => ks.1 (((a0, ()), (), (), (a1, ()), (), (), (a2, ()), (a3, ()), ()), (a4, a5, a6, ()))) d.1.1.1 d.1.2.2.2.1.1 d.1.2.2.2.2.2.2.1.1 d.1.2.2.2.2.2.2.2.2.1.1 d.1.2.2.2.2.2.2.2.2.2.1.1 d.2.1 d.2.2.1 d.2.2.2.1 d.2.2.2.2.1.1 d.2.2.2.2.1.2.1 d.2.2.2.2.1.2.2.1
abbrev zqbf (β : Type) := (List (List zq0)) → Int → Int → Int → (List Int) → (List Int) → (List (Int × (Int × Int))) → Option β
abbrev zqbg := {β : Type} → zqbf β → (List (List zq0)) → Int → Int → Int → (List Int) → (List Int) → (List (Int × (Int × Int))) → Int → Int → Int → Option β
def zqbh : View := ⟨0, [2, 6, 7, 8, 9, 11, 17, 18, 19], [(false, [.data (.slice (.slice zq1))]), (false, [.rowh 0]), (false, [.rowh 1]), (false, [.data (.int .i64)]), (false, [.rowh 2]), (false, [.ptr 3 0]), (false, [.rowh 2]), (false, [.data (.int .i64)]), (false, [.data (.int .i64)])], [.row 3 (.int .i64), .row 3 (.int .i64), .row 39 (.prod (.int .i64) (.prod (.int .i64) (.int .i64))), .cells 39 [.data (.int .i64), .data (.int .i64), .data (.int .i64)]]⟩
def zqbi : List (AExit × View) := [(.normal, ⟨0, [2, 6, 7, 8, 9, 17, 18, 19], [(false, [.data (.slice (.slice zq1))]), (false, [.rowh 0]), (false, [.rowh 1]), (false, [.data (.int .i64)]), (false, [.rowh 2]), (false, [.rowh 2]), (false, [.data (.int .i64)]), (false, [.data (.int .i64)])], [.row 3 (.int .i64), .row 3 (.int .i64), .row 39 (.prod (.int .i64) (.prod (.int .i64) (.int .i64)))]⟩)]
@[reducible] def delivery_Run_p2_G (p : zqbg) {β : Type} (d : zqbh.den) (ks : Outs.K β zqbi) : Option β :=
  p (fun a0 a1 a2 a3 a4 a5 a6 => ks.1 (((a0, ()), (), (), (a1, ()), (), (), (a2, ()), (a3, ()), ()), (a4, a5, a6, ()))) d.1.1.1 d.1.2.2.2.1.1 d.1.2.2.2.2.2.2.2.1.1 d.1.2.2.2.2.2.2.2.2.1.1 d.2.1 d.2.2.1 d.2.2.2.1 d.2.2.2.2.1.1 d.2.2.2.2.1.2.1 d.2.2.2.2.1.2.2.1
abbrev zqbj (β : Type) := Int → (List Int) → (List Int) → Option β
abbrev zqbk := {β : Type} → zqbj β → (List (List zq0)) → Int → Int → Int → (List Int) → (List Int) → (List (Int × (Int × Int))) → Option β
def zqbl : View := ⟨0, [2, 6, 7, 8, 9, 17, 18, 19], [(false, [.data (.slice (.slice zq1))]), (false, [.rowh 0]), (false, [.rowh 1]), (false, [.data (.int .i64)]), (false, [.rowh 2]), (false, [.rowh 2]), (false, [.data (.int .i64)]), (false, [.data (.int .i64)])], [.row 3 (.int .i64), .row 3 (.int .i64), .row 39 (.prod (.int .i64) (.prod (.int .i64) (.int .i64)))]⟩
def zqbm : List (AExit × View) := [(.exit 0, ⟨0, [6, 7, 8], [(false, [.rowh 0]), (false, [.rowh 1]), (false, [.data (.int .i64)])], [.row 3 (.int .i64), .row 3 (.int .i64)]⟩)]
@[reducible] def delivery_Run_p3_G (p : zqbk) {β : Type} (d : zqbl.den) (ks : Outs.K β zqbm) : Option β :=
  p (fun a0 a1 a2 => ks.1 (((), (), (a0, ()), ()), (a1, a2, ()))) d.1.1.1 d.1.2.2.2.1.1 d.1.2.2.2.2.2.2.1.1 d.1.2.2.2.2.2.2.2.1.1 d.2.1 d.2.2.1 d.2.2.2.1
section
variable (c_channel_Arrivals : zq45) (c_channel_Fates : zq3y) (c_channel_Receipts : zq4c) (c_delivery_Plan : zq9q) (c_slices_ContainsFunc_int_int_vdelivery_Run_f1 : zqb2)
@[reducible] def delivery_Run_X : Ctx := ⟨look tab, pick1 [(47, .spec (zq46 c_channel_Arrivals)), (46, .spec (zq3z c_channel_Fates)), (48, .spec (zq4d c_channel_Receipts)), (13, .spec (zq9r c_delivery_Plan)), (44, .spec (zqb3 c_slices_ContainsFunc_int_int_vdelivery_Run_f1)), (49, .rows zq1q)], false, false, false, false⟩
def zqbn {β : Type} (k1 : zqbb β) (fates : List (List zq0)) (sent : Int) (f : List zq0) (t18 : Int) (t19 : Int) (arrivals : List Int) (receipts : List Int) (l : List (Int × (Int × Int))) (a : Int) (a2 : Int) (a3 : Int) : Option β :=
  c_channel_Fates f a2 (fun (rFates : zq0) =>
  c_channel_Arrivals a3 rFates (fun (lrArrivals : List Int) =>
  cond (decide ((List.length arrivals + List.length lrArrivals) * 8 ≤ roomMax))
  (let l2 : List Int := (arrivals ++ lrArrivals);
  c_channel_Receipts a3 rFates (fun (lrReceipts : List Int) =>
  cond (decide ((List.length receipts + List.length lrReceipts) * 8 ≤ roomMax))
  (let l3 : List Int := (receipts ++ lrReceipts);
  let sent2 : Int := (IntKind.i64.wrap (sent + (1 : Int)));
  k1 fates sent2 t18 t19 l2 l3 l)
  none))
  none))
def zqbo {β : Type} (k1 : zqbb β) (fates : List (List zq0)) (sent : Int) (f : List zq0) (t18 : Int) (t19 : Int) (arrivals : List Int) (receipts : List Int) (l : List (Int × (Int × Int))) (a : Int) (a2 : Int) (a3 : Int) : Option β := zqbn c_channel_Arrivals c_channel_Fates c_channel_Receipts k1 fates sent f t18 t19 arrivals receipts l a a2 a3
theorem zqbp (hΓ : ΓOk Try.prog (delivery_Run_X c_channel_Arrivals c_channel_Fates c_channel_Receipts c_delivery_Plan c_slices_ContainsFunc_int_int_vdelivery_Run_f1).Γ) : PieceOk Try.prog 76 0 delivery_Run_p1_code zqbd zqbe (delivery_Run_p1_G (zqbo c_channel_Arrivals c_channel_Fates c_channel_Receipts)) :=
  piece_exec (X := (delivery_Run_X c_channel_Arrivals c_channel_Fates c_channel_Receipts c_delivery_Plan c_slices_ContainsFunc_int_int_vdelivery_Run_f1)) (p := 463) (Λ := pick1 []) mixed tab_ok hΓ (by kernel_rfl) CutsOk_nil (fun d ks r h => Eq.trans (b := delivery_Run_p1_G (zqbo c_channel_Arrivals c_channel_Fates c_channel_Receipts) d ks) (by kernel_rfl) h)
def zqbq (p1 : zqbc) {β : Type} (k1 : zqbf β) (fates : List (List zq0)) (sent : Int) (t18 : Int) (t19 : Int) (arrivals : List Int) (receipts : List Int) (l : List (Int × (Int × Int))) (a : Int) (a2 : Int) (a3 : Int) : Option β :=
  cond (decide (a < (List.length fates : Int)))
  (cond (decide (0 ≤ a) && decide (a < (List.length fates : Int)))
  (let e : List zq0 := List.getD fates (Int.toNat a) ([] : List zq0);
  p1 (fun (fates2 : List (List zq0)) (sent2 : Int) (t182 : Int) (t192 : Int) (arrivals2 : List Int) (receipts2 : List Int) (l2 : List (Int × (Int × Int))) =>
  k1 fates2 sent2 t182 t192 arrivals2 receipts2 l2) fates sent e t18 t19 arrivals receipts l a a2 a3)
  none)
  (p1 (fun (fates2 : List (List zq0)) (sent2 : Int) (t182 : Int) (t192 : Int) (arrivals2 : List Int) (receipts2 : List Int) (l2 : List (Int × (Int × Int))) =>
  k1 fates2 sent2 t182 t192 arrivals2 receipts2 l2) fates sent ([] : List zq0) t18 t19 arrivals receipts l a a2 a3)
def zqbr (p1 : zqbc) {β : Type} (k1 : zqbf β) (fates : List (List zq0)) (sent : Int) (t18 : Int) (t19 : Int) (arrivals : List Int) (receipts : List Int) (l : List (Int × (Int × Int))) (a : Int) (a2 : Int) (a3 : Int) : Option β := zqbq p1 k1 fates sent t18 t19 arrivals receipts l a a2 a3
theorem zqbs (hΓ : ΓOk Try.prog (delivery_Run_X c_channel_Arrivals c_channel_Fates c_channel_Receipts c_delivery_Plan c_slices_ContainsFunc_int_int_vdelivery_Run_f1).Γ) (p1 : zqbc) (hp1 : PieceOk Try.prog 76 0 delivery_Run_p1_code zqbd zqbe (delivery_Run_p1_G p1)) : PieceOk Try.prog 76 0 delivery_Run_p2_code zqbh zqbi (delivery_Run_p2_G (zqbr p1)) :=
  piece_exec (X := (delivery_Run_X c_channel_Arrivals c_channel_Fates c_channel_Receipts c_delivery_Plan c_slices_ContainsFunc_int_int_vdelivery_Run_f1)) (p := 115) (Λ := pick1 [(463, pieceCut zqbd zqbe (delivery_Run_p1_G p1))]) mixed tab_ok hΓ (by kernel_rfl) (CutsOk_cons (q := 463) (c' := delivery_Run_p1_code) (by kernel_rfl) rfl hp1 CutsOk_nil) (fun d ks r h => Eq.trans (b := delivery_Run_p2_G (zqbr p1) d ks) (by kernel_rfl) h)
def zqbt (p2 : zqbg) {β : Type} (rec : (List (List zq0)) → Int → Int → Int → (List Int) → (List Int) → (List (Int × (Int × Int))) → Option β) (k1 : zqbj β) (fates : List (List zq0)) (sent : Int) (t18 : Int) (t19 : Int) (arrivals : List Int) (receipts : List Int) (l : List (Int × (Int × Int))) : Option β :=
  cond (decide (t19 < t18))
  (cond (decide (0 ≤ t19) && decide (t19 < (List.length l : Int)))
  (cond (decide (t19 = (0 : Int)))
  (c_slices_ContainsFunc_int_int_vdelivery_Run_f1 receipts ((List.getD l (Int.toNat t19) ((0 : Int), ((0 : Int), (0 : Int)))).1, ((List.getD l (Int.toNat t19) ((0 : Int), ((0 : Int), (0 : Int)))).2)) (fun (rContainsFuncintint : Bool) (mrContainsFuncintint : (Int × (Int × Int))) =>
  cond rContainsFuncintint
  (k1 sent arrivals receipts)
  (p2 (fun (fates2 : List (List zq0)) (sent2 : Int) (t182 : Int) (t192 : Int) (arrivals2 : List Int) (receipts2 : List Int) (l2 : List (Int × (Int × Int))) =>
  rec fates2 sent2 t182 (IntKind.i64.wrap (t192 + (1 : Int))) arrivals2 receipts2 l2) fates sent t18 t19 arrivals receipts l mrContainsFuncintint.1 mrContainsFuncintint.2.1 mrContainsFuncintint.2.2)))
  (cond (decide (0 ≤ (IntKind.i64.wrap (t19 - (1 : Int)))) && decide ((IntKind.i64.wrap (t19 - (1 : Int))) < (List.length l : Int)))
  (cond (!decide ((((List.getD l (Int.toNat (IntKind.i64.wrap (t19 - (1 : Int)))) ((0 : Int), ((0 : Int), (0 : Int)))).2).2) = (((List.getD l (Int.toNat t19) ((0 : Int), ((0 : Int), (0 : Int)))).2).2)))
  (c_slices_ContainsFunc_int_int_vdelivery_Run_f1 receipts ((List.getD l (Int.toNat t19) ((0 : Int), ((0 : Int), (0 : Int)))).1, ((List.getD l (Int.toNat t19) ((0 : Int), ((0 : Int), (0 : Int)))).2)) (fun (rContainsFuncintint : Bool) (mrContainsFuncintint : (Int × (Int × Int))) =>
  cond rContainsFuncintint
  (k1 sent arrivals receipts)
  (p2 (fun (fates2 : List (List zq0)) (sent2 : Int) (t182 : Int) (t192 : Int) (arrivals2 : List Int) (receipts2 : List Int) (l2 : List (Int × (Int × Int))) =>
  rec fates2 sent2 t182 (IntKind.i64.wrap (t192 + (1 : Int))) arrivals2 receipts2 l2) fates sent t18 t19 arrivals receipts l mrContainsFuncintint.1 mrContainsFuncintint.2.1 mrContainsFuncintint.2.2)))
  (p2 (fun (fates2 : List (List zq0)) (sent2 : Int) (t182 : Int) (t192 : Int) (arrivals2 : List Int) (receipts2 : List Int) (l2 : List (Int × (Int × Int))) =>
  rec fates2 sent2 t182 (IntKind.i64.wrap (t192 + (1 : Int))) arrivals2 receipts2 l2) fates sent t18 t19 arrivals receipts l ((List.getD l (Int.toNat t19) ((0 : Int), ((0 : Int), (0 : Int)))).1) (((List.getD l (Int.toNat t19) ((0 : Int), ((0 : Int), (0 : Int)))).2).1) (((List.getD l (Int.toNat t19) ((0 : Int), ((0 : Int), (0 : Int)))).2).2)))
  none))
  none)
  (k1 sent arrivals receipts)
def zqbu (p2 : zqbg) {β : Type} : Nat → zqbj β → (List (List zq0)) → Int → Int → Int → (List Int) → (List Int) → (List (Int × (Int × Int))) → Option β
  | 0 => fun _ _ _ _ _ _ _ _ => none
  | i + 1 => fun k1 fates sent t18 t19 arrivals receipts l => zqbt c_slices_ContainsFunc_int_int_vdelivery_Run_f1 p2 (zqbu p2 i k1) k1 fates sent t18 t19 arrivals receipts l
theorem zqbv (hΓ : ΓOk Try.prog (delivery_Run_X c_channel_Arrivals c_channel_Fates c_channel_Receipts c_delivery_Plan c_slices_ContainsFunc_int_int_vdelivery_Run_f1).Γ) (p2 : zqbg) (hp2 : PieceOk Try.prog 76 0 delivery_Run_p2_code zqbh zqbi (delivery_Run_p2_G p2)) (i : Nat) : PieceOk Try.prog 76 0 delivery_Run_p3_code zqbl zqbm (delivery_Run_p3_G (zqbu c_slices_ContainsFunc_int_int_vdelivery_Run_f1 p2 i)) := by
  rw [show delivery_Run_p3_code = .loop (loopBody delivery_Run_p3_code) by kernel_rfl]
  exact piece_loop (X := (delivery_Run_X c_channel_Arrivals c_channel_Fates c_channel_Receipts c_delivery_Plan c_slices_ContainsFunc_int_int_vdelivery_Run_f1)) (p := 1) (Λ := pick1 [(115, pieceCut zqbh zqbi (delivery_Run_p2_G p2))]) (G := fun i => @fun β d ks => delivery_Run_p3_G (zqbu c_slices_ContainsFunc_int_int_vdelivery_Run_f1 p2 i) d ks) mixed tab_ok hΓ rfl (by kernel_rfl) (CutsOk_cons (q := 115) (c' := delivery_Run_p2_code) (by kernel_rfl) rfl hp2 CutsOk_nil) (fun _ _ => rfl) (fun i => @fun β d ks r h => Eq.trans (b := delivery_Run_p3_G (zqbu c_slices_ContainsFunc_int_int_vdelivery_Run_f1 p2 (i + 1)) d ks) (by kernel_rfl) h) i
def zqbw (p3 : zqbk) {β : Type} (p_ : (Int × List (Int × (Int × (Int × Int))))) (start : Int) (fates : List (List zq0)) (k : (Int → (List Int) → (List Int) → Option β)) : Option β :=
  c_delivery_Plan p_ start (fun (lrPlan : List (Int × (Int × Int))) =>
  p3 (fun (sent : Int) (arrivals : List Int) (receipts : List Int) =>
  cond (decide (List.length arrivals < 4611686018427387904))
  (let l : List Int := (sortInts arrivals);
  cond (decide (List.length receipts < 4611686018427387904))
  (let l2 : List Int := (sortInts receipts);
  k sent l l2)
  none)
  none) fates (0 : Int) (List.length lrPlan : Int) (0 : Int) ([] : List Int) ([] : List Int) lrPlan)
theorem zqbx (hΓ : ΓOk Try.prog (delivery_Run_X c_channel_Arrivals c_channel_Fates c_channel_Receipts c_delivery_Plan c_slices_ContainsFunc_int_int_vdelivery_Run_f1).Γ) (p3 : zqbk) (hp3 : PieceOk Try.prog 76 0 delivery_Run_p3_code zqbl zqbm (delivery_Run_p3_G p3)) : SpecOk Try.prog 16 (zqba (zqbw c_delivery_Plan p3)) :=
  spec_exec (X := (delivery_Run_X c_channel_Arrivals c_channel_Fates c_channel_Receipts c_delivery_Plan c_slices_ContainsFunc_int_int_vdelivery_Run_f1)) (Λ := pick1 [(58, pieceCut zqbl zqbm (delivery_Run_p3_G p3))]) (rs := [.tmp 6, .tmp 7, .tmp 8]) (c := bodyOf Try.f16) mixed tab_ok hΓ Try.func16 (by kernel_rfl) (by kernel_rfl) (by kernel_rfl) (by kernel_rfl) (CutsOk_cons (q := 58) (c' := delivery_Run_p3_code) (by kernel_rfl) rfl hp3 CutsOk_nil) (fun x k r h => Eq.trans (b := (zqba (zqbw c_delivery_Plan p3)).run x k) (by kernel_rfl) h)
end
theorem zqbyΓ : ΓOk Try.prog (pick1 [(47, .spec (zq46 zq4a)), (46, .spec (zq3z zq43)), (48, .spec (zq4d zq4s)), (13, .spec (zq9r zqah)), (44, .spec (zqb3 zqb7)), (49, .rows zq1q)]) := (ΓOk_cons zq4b (ΓOk_cons zq44 (ΓOk_cons zq4t (ΓOk_cons zqai (ΓOk_cons zqb8 (ΓOk_row zq1r ΓOk_nil))))))
def zqbz : zqbc := zqbo zq4a zq43 zq4s
theorem zqc0 : PieceOk Try.prog 76 0 delivery_Run_p1_code zqbd zqbe (delivery_Run_p1_G zqbz) := zqbp zq4a zq43 zq4s zqah zqb7 zqbyΓ
def zqc1 : zqbg := zqbr zqbz
theorem zqc2 : PieceOk Try.prog 76 0 delivery_Run_p2_code zqbh zqbi (delivery_Run_p2_G zqc1) := zqbs zq4a zq43 zq4s zqah zqb7 zqbyΓ zqbz zqc0
def zqc3 (m : Nat) : zqbk := zqbu zqb7 zqc1 m
theorem zqc4 {β : Type} (i : Nat) (k1 fates sent t18 t19 arrivals receipts l) : (zqc3 (i + 1) k1 fates sent t18 t19 arrivals receipts l : Option β) = zqbt zqb7 zqc1 (zqc3 i k1) k1 fates sent t18 t19 arrivals receipts l := rfl
def zqc5 : zqbk := zqc3 fuel
theorem zqc6 : PieceOk Try.prog 76 0 delivery_Run_p3_code zqbl zqbm (delivery_Run_p3_G zqc5) := zqbv zq4a zq43 zq4s zqah zqb7 zqbyΓ zqc1 zqc2 fuel
def zqc7 : zqb9 := zqbw zqah zqc5
theorem zqc8 : SpecOk Try.prog 16 (zqba zqc7) := zqbx zq4a zq43 zq4s zqah zqb7 zqbyΓ zqc5 zqc6

/-- pagewatch/pagewatchlaw27.sane -/
abbrev zqc9 := {β : Type} → (Bool → Option β) → Option β
def zqca (c : zqc9) : Spec :=
  ⟨[], [], [(false, [.data .bool])], [], fun x k => c  (fun r0 => k (((r0, ()), ()), ()))⟩
section
variable (c_delivery_Plan : zq9q) (c_delivery_Run : zqb9)
@[reducible] def law27_sane_X : Ctx := ⟨look tab, pick1 [(13, .spec (zq9r c_delivery_Plan)), (16, .spec (zqba c_delivery_Run))], false, false, false, false⟩
def zqcb {β : Type} (k : (Bool → Option β)) : Option β :=
  let l : List (Int × (Int × (Int × Int))) := ([((0 : Int), ((9 : Int), ((2 : Int), (60 : Int)))), ((0 : Int), ((9 : Int), ((2 : Int), (90 : Int))))] : List (Int × (Int × (Int × Int))));
  c_delivery_Plan ((0 : Int), l) (0 : Int) (fun (lrPlan : List (Int × (Int × Int))) =>
  let l2 : List zq0 := ([(false, ((30 : Int), ((0 : Int), (0 : Int))))] : List zq0);
  let l3 : List (List zq0) := ([l2] : List (List zq0));
  c_delivery_Run ((0 : Int), l) (0 : Int) l3 (fun (rRun : Int) (lrRun : List Int) (lrRun2 : List Int) =>
  cond (decide ((List.length lrPlan : Int) = (4 : Int)))
  (cond (decide (0 ≤ (2 : Int)) && decide ((2 : Int) < (List.length lrPlan : Int)))
  (cond (decide ((((List.getD lrPlan (Int.toNat (2 : Int)) ((0 : Int), ((0 : Int), (0 : Int)))).2).2) = (60 : Int)))
  (cond (decide (0 ≤ (3 : Int)) && decide ((3 : Int) < (List.length lrPlan : Int)))
  (cond (decide ((((List.getD lrPlan (Int.toNat (3 : Int)) ((0 : Int), ((0 : Int), (0 : Int)))).2).2) = (90 : Int)))
  (cond (decide (rRun = (2 : Int)))
  (cond (decide ((List.length lrRun2 : Int) = (1 : Int)))
  (cond (decide (0 ≤ (0 : Int)) && decide ((0 : Int) < (List.length lrRun2 : Int)))
  (let t : Bool := (decide ((List.getD lrRun2 (Int.toNat (0 : Int)) (0 : Int)) = (30 : Int)));
  k t)
  none)
  (k false))
  (k false))
  (k false))
  none)
  (k false))
  none)
  (k false)))
theorem zqcc (hΓ : ΓOk Try.prog (law27_sane_X c_delivery_Plan c_delivery_Run).Γ) : SpecOk Try.prog 10 (zqca (zqcb c_delivery_Plan c_delivery_Run)) :=
  spec_exec (X := (law27_sane_X c_delivery_Plan c_delivery_Run)) (Λ := pick1 []) (rs := [.tmp 0]) (c := bodyOf Try.f10) mixed tab_ok hΓ Try.func10 (by kernel_rfl) (by kernel_rfl) (by kernel_rfl) (by kernel_rfl) CutsOk_nil (fun x k r h => Eq.trans (b := (zqca (zqcb c_delivery_Plan c_delivery_Run)).run x k) (by kernel_rfl) h)
end
theorem zqcdΓ : ΓOk Try.prog (pick1 [(13, .spec (zq9r zqah)), (16, .spec (zqba zqc7))]) := (ΓOk_cons zqai (ΓOk_cons zqc8 ΓOk_nil))
def zqce : zqc9 := zqcb zqah zqc7
theorem zqcf : SpecOk Try.prog 10 (zqca zqce) := zqcc zqah zqc7 zqcdΓ

/-- pagewatch/pagewatchlaw27.DeliveryReaches -/
abbrev zqcg := {β : Type} → (List Int) → Int → (Bool → Option β) → Option β
def zqch (c : zqcg) : Spec :=
  ⟨[(false, [.data (.slice (.int .i64))]), (false, [.data (.int .u32)])], [], [(false, [.data .bool])], [], fun x k => c x.1.1.1 x.1.2.1.1 (fun r0 => k (((r0, ()), ()), ()))⟩
noncomputable def law27_DeliveryReaches_p1_code : Code := codeAt 1018 (bodyOf Try.f5)
noncomputable def law27_DeliveryReaches_p2_code : Code := codeAt 16378 (bodyOf Try.f5)
noncomputable def law27_DeliveryReaches_p3_code : Code := codeAt 1023 (bodyOf Try.f5)
abbrev zqci (β : Type) := Int → Bool → Int → (List (Int × (Int × (Int × Int)))) → (List (List zq0)) → Option β
abbrev zqcj := {β : Type} → zqci β → Int → Bool → (List (Int × (Int × (Int × Int)))) → Int → Int → (List Int) → Int → Int → (List (Int × (Int × (Int × Int)))) → (List (List zq0)) → Option β
def zqck : View := ⟨0, [1, 5, 6, 7, 8, 28, 29, 30], [(false, [.data (.int .u32)]), (false, [.ptr 0 0]), (false, [.ptr 1 0]), (false, [.data .bool]), (false, [.rowh 2]), (false, [.data (.slice (.prod (.int .i64) (.prod (.int .i64) (.prod (.int .i64) (.int .i64)))))]), (false, [.data (.int .i64)]), (false, [.data (.int .i64)])], [.cells 77 [.data (.slice (.int .i64)), .data (.int .i64)], .cells 29 [.data (.int .i64), .data (.slice (.prod (.int .i64) (.prod (.int .i64) (.prod (.int .i64) (.int .i64)))))], .row 44 (.slice zq1)]⟩
def zqcl : List (AExit × View) := [(.exit 0, ⟨0, [1, 6, 7, 8], [(false, [.data (.int .u32)]), (false, [.ptr 0 0]), (false, [.data .bool]), (false, [.rowh 1])], [.cells 29 [.data (.int .i64), .data (.slice (.prod (.int .i64) (.prod (.int .i64) (.prod (.int .i64) (.int .i64)))))], .row 44 (.slice zq1)]⟩)]
@[reducible] def law27_DeliveryReaches_p1_G (p : zqcj) {β : Type} (d : zqck.den) (ks : Outs.K β zqcl) : Option β :=
  p (fun a0 a1 a2 a3 a4 => ks.1 (((a0, ()), (), (a1, ()), (), ()), ((a2, a3, ()), a4, ()))) d.1.1.1 d.1.2.2.2.1.1 d.1.2.2.2.2.2.1.1 d.1.2.2.2.2.2.2.1.1 d.1.2.2.2.2.2.2.2.1.1 d.2.1.1 d.2.1.2.1 d.2.2.1.1 d.2.2.1.2.1 d.2.2.2.1
abbrev zqcm (β : Type) := Bool → Option β
abbrev zqcn (β : Type) := (List Int) → (List Int) → Int → (List (Int × (Int × Int))) → Option β
abbrev zqco := {β : Type} → zqcm β → zqcn β → (List Int) → (List Int) → Int → (List (Int × (Int × Int))) → Int → Option β
def zqcp : View := ⟨0, [12, 13, 14, 15, 16], [(false, [.data (.slice (.int .i64))]), (false, [.data (.slice (.int .i64))]), (false, [.data (.int .i64)]), (false, [.data (.slice (.prod (.int .i64) (.prod (.int .i64) (.int .i64))))]), (false, [.data (.int .i64)])], []⟩
def zqcq : List (AExit × View) := [(.ret, ⟨0, [4], [(false, [.data .bool])], []⟩), (.exit 2, ⟨0, [12, 13, 14, 15], [(false, [.data (.slice (.int .i64))]), (false, [.data (.slice (.int .i64))]), (false, [.data (.int .i64)]), (false, [.data (.slice (.prod (.int .i64) (.prod (.int .i64) (.int .i64))))])], []⟩)]
@[reducible] def law27_DeliveryReaches_p2_G (p : zqco) {β : Type} (d : zqcp.den) (ks : Outs.K β zqcq) : Option β :=
  p (fun a0 => ks.1 (((a0, ()), ()), ())) (fun a0 a1 a2 a3 => ks.2.1 (((a0, ()), (a1, ()), (a2, ()), (a3, ()), ()), ())) d.1.1.1 d.1.2.1.1 d.1.2.2.1.1 d.1.2.2.2.1.1 d.1.2.2.2.2.1.1
abbrev zqcr (β : Type) := Bool → Option β
abbrev zqcs := {β : Type} → zqcr β → Int → (List Int) → (List Int) → Int → Int → (List (Int × (Int × (Int × Int)))) → Option β
def zqct : View := ⟨0, [1, 6, 12, 13, 14], [(false, [.data (.int .u32)]), (false, [.ptr 0 0]), (false, [.data (.slice (.int .i64))]), (false, [.data (.slice (.int .i64))]), (false, [.data (.int .i64)])], [.cells 29 [.data (.int .i64), .data (.slice (.prod (.int .i64) (.prod (.int .i64) (.prod (.int .i64) (.int .i64)))))]]⟩
def zqcu : List (AExit × View) := [(.ret, ⟨0, [4], [(false, [.data .bool])], []⟩)]
@[reducible] def law27_DeliveryReaches_p3_G (p : zqcs) {β : Type} (d : zqct.den) (ks : Outs.K β zqcu) : Option β :=
  p (fun a0 => ks.1 (((a0, ()), ()), ())) d.1.1.1 d.1.2.2.1.1 d.1.2.2.2.1.1 d.1.2.2.2.2.1.1 d.2.1.1 d.2.1.2.1
section
variable (c_delivery_Bound : zq8w) (c_delivery_Run : zqb9) (c_law27_sane : zqc9) (c_made_Dice_Fates : zq3g) (c_made_Dice_Next : zqi) (c_made_Dice_Person : zq2y) (c_made_Light : zq4) (c_made_Roll : zqb) (c_ref26_Works : zq5f) (c_ref27_Plan : zq6v)
@[reducible] def law27_DeliveryReaches_X : Ctx := ⟨look tab, pick1 [(20, .spec (zq8x c_delivery_Bound)), (16, .spec (zqba c_delivery_Run)), (10, .spec (zqca c_law27_sane)), (15, .spec (zq3h c_made_Dice_Fates)), (14, .spec (zqj c_made_Dice_Next)), (12, .spec (zq2z c_made_Dice_Person)), (9, .spec (zq5 c_made_Light)), (11, .spec (zqc c_made_Roll)), (19, .spec (zq5g c_ref26_Works)), (21, .spec (zq6w c_ref27_Plan))], false, false, true, false⟩
def zqcv {β : Type} (rec : Int → Bool → (List (Int × (Int × (Int × Int)))) → Int → Int → (List Int) → Int → Int → (List (Int × (Int × (Int × Int)))) → (List (List zq0)) → Option β) (k1 : zqci β) (start : Int) (works : Bool) (t28 : List (Int × (Int × (Int × Int)))) (t29 : Int) (t30 : Int) (d : List Int) (d2 : Int) (p_ : Int) (p_2 : List (Int × (Int × (Int × Int)))) (l : List (List zq0)) : Option β :=
  cond (decide (t30 < t29))
  (cond (decide (0 ≤ t30) && decide (t30 < (List.length t28 : Int)))
  (let e : (Int × (Int × (Int × Int))) := List.getD t28 (Int.toNat t30) ((0 : Int), ((0 : Int), ((0 : Int), (0 : Int))));
  c_made_Dice_Fates (d, d2) (fun (mrFates : (List Int × Int)) (lrFates : List zq0) =>
  let l2 : List (List zq0) := ([lrFates] : List (List zq0));
  cond (decide ((List.length l + List.length l2) * 24 ≤ roomMax))
  (let l3 : List (List zq0) := (l ++ l2);
  cond works
  (rec start true t28 t29 (IntKind.i64.wrap (t30 + (1 : Int))) mrFates.1 mrFates.2 p_ p_2 l3)
  (c_ref26_Works e lrFates (fun (rWorks : Bool) =>
  rec start rWorks t28 t29 (IntKind.i64.wrap (t30 + (1 : Int))) mrFates.1 mrFates.2 p_ p_2 l3)))
  none))
  none)
  (k1 start works p_ p_2 l)
def zqcw {β : Type} : Nat → zqci β → Int → Bool → (List (Int × (Int × (Int × Int)))) → Int → Int → (List Int) → Int → Int → (List (Int × (Int × (Int × Int)))) → (List (List zq0)) → Option β
  | 0 => fun _ _ _ _ _ _ _ _ _ _ _ => none
  | i + 1 => fun k1 start works t28 t29 t30 d d2 p_ p_2 l => zqcv c_made_Dice_Fates c_ref26_Works (zqcw i k1) k1 start works t28 t29 t30 d d2 p_ p_2 l
theorem zqcx (hΓ : ΓOk Try.prog (law27_DeliveryReaches_X c_delivery_Bound c_delivery_Run c_law27_sane c_made_Dice_Fates c_made_Dice_Next c_made_Dice_Person c_made_Light c_made_Roll c_ref26_Works c_ref27_Plan).Γ) (i : Nat) : PieceOk Try.prog 124 0 law27_DeliveryReaches_p1_code zqck zqcl (law27_DeliveryReaches_p1_G (zqcw c_made_Dice_Fates c_ref26_Works i)) := by
  rw [show law27_DeliveryReaches_p1_code = .loop (loopBody law27_DeliveryReaches_p1_code) by kernel_rfl]
  exact piece_loop (X := (law27_DeliveryReaches_X c_delivery_Bound c_delivery_Run c_law27_sane c_made_Dice_Fates c_made_Dice_Next c_made_Dice_Person c_made_Light c_made_Roll c_ref26_Works c_ref27_Plan)) (p := 1) (Λ := pick1 []) (G := fun i => @fun β d ks => law27_DeliveryReaches_p1_G (zqcw c_made_Dice_Fates c_ref26_Works i) d ks) mixed tab_ok hΓ rfl (by kernel_rfl) CutsOk_nil (fun _ _ => rfl) (fun i => @fun β d ks r h => Eq.trans (b := law27_DeliveryReaches_p1_G (zqcw c_made_Dice_Fates c_ref26_Works (i + 1)) d ks) (by kernel_rfl) h) i
def zqcy {β : Type} (rec : (List Int) → (List Int) → Int → (List (Int × (Int × Int))) → Int → Option β) (k1 : zqcm β) (k2 : zqcn β) (a : List Int) (r_ : List Int) (sent : Int) (plan : List (Int × (Int × Int))) (i_ : Int) : Option β :=
  cond (decide (i_ < (List.length plan : Int)))
  (cond (decide ((List.length r_ : Int) = (0 : Int)))
  (k1 false)
  (cond (decide (0 ≤ (0 : Int)) && decide ((0 : Int) < (List.length r_ : Int)))
  (let e : Int := List.getD r_ (Int.toNat (0 : Int)) (0 : Int);
  cond (decide (0 ≤ i_) && decide (i_ < (List.length plan : Int)))
  (let e2 : (Int × (Int × Int)) := List.getD plan (Int.toNat i_) ((0 : Int), ((0 : Int), (0 : Int)));
  cond (decide (e2.2.2 < e))
  (k1 false)
  (let i_2 : Int := (IntKind.i64.wrap (i_ + (1 : Int)));
  rec a r_ sent plan i_2))
  none)
  none))
  (k2 a r_ sent plan)
def zqcz {β : Type} : Nat → zqcm β → zqcn β → (List Int) → (List Int) → Int → (List (Int × (Int × Int))) → Int → Option β
  | 0 => fun _ _ _ _ _ _ _ => none
  | i + 1 => fun k1 k2 a r_ sent plan i_ => zqcy (zqcz i k1 k2) k1 k2 a r_ sent plan i_
theorem zqd0 (hΓ : ΓOk Try.prog (law27_DeliveryReaches_X c_delivery_Bound c_delivery_Run c_law27_sane c_made_Dice_Fates c_made_Dice_Next c_made_Dice_Person c_made_Light c_made_Roll c_ref26_Works c_ref27_Plan).Γ) (i : Nat) : PieceOk Try.prog 124 0 law27_DeliveryReaches_p2_code zqcp zqcq (law27_DeliveryReaches_p2_G (zqcz i)) := by
  rw [show law27_DeliveryReaches_p2_code = .loop (loopBody law27_DeliveryReaches_p2_code) by kernel_rfl]
  exact piece_loop (X := (law27_DeliveryReaches_X c_delivery_Bound c_delivery_Run c_law27_sane c_made_Dice_Fates c_made_Dice_Next c_made_Dice_Person c_made_Light c_made_Roll c_ref26_Works c_ref27_Plan)) (p := 1) (Λ := pick1 []) (G := fun i => @fun β d ks => law27_DeliveryReaches_p2_G (zqcz i) d ks) mixed tab_ok hΓ rfl (by kernel_rfl) CutsOk_nil (fun _ _ => rfl) (fun i => @fun β d ks r h => Eq.trans (b := law27_DeliveryReaches_p2_G (zqcz (i + 1)) d ks) (by kernel_rfl) h) i
def zqd1 (p2 : zqco) {β : Type} (k1 : zqcr β) (start : Int) (a : List Int) (r_ : List Int) (sent : Int) (p_ : Int) (p_2 : List (Int × (Int × (Int × Int)))) : Option β :=
  c_ref27_Plan (p_, p_2) (IntKind.i64.wrap start) (fun (lrPlan : List (Int × (Int × Int))) =>
  p2 (fun (t4 : Bool) =>
  k1 t4) (fun (a2 : List Int) (r_2 : List Int) (sent2 : Int) (plan : List (Int × (Int × Int))) =>
  cond (decide (sent2 ≤ (List.length plan : Int)))
  (cond (decide ((List.length r_2 : Int) = (0 : Int)))
  (c_law27_sane  (fun (rsane : Bool) =>
  k1 rsane))
  (cond (decide ((0 : Int) < (List.length a2 : Int)))
  (cond (decide (0 ≤ (0 : Int)) && decide ((0 : Int) < (List.length a2 : Int)))
  (let e : Int := List.getD a2 (Int.toNat (0 : Int)) (0 : Int);
  cond (decide (0 ≤ (0 : Int)) && decide ((0 : Int) < (List.length r_2 : Int)))
  (let e2 : Int := List.getD r_2 (Int.toNat (0 : Int)) (0 : Int);
  cond (decide (e ≤ e2))
  (c_law27_sane  (fun (rsane : Bool) =>
  k1 rsane))
  (k1 false))
  none)
  none)
  (k1 false)))
  (k1 false)) a r_ sent lrPlan sent)
def zqd2 (p2 : zqco) {β : Type} (k1 : zqcr β) (start : Int) (a : List Int) (r_ : List Int) (sent : Int) (p_ : Int) (p_2 : List (Int × (Int × (Int × Int)))) : Option β := zqd1 c_law27_sane c_ref27_Plan p2 k1 start a r_ sent p_ p_2
theorem zqd3 (hΓ : ΓOk Try.prog (law27_DeliveryReaches_X c_delivery_Bound c_delivery_Run c_law27_sane c_made_Dice_Fates c_made_Dice_Next c_made_Dice_Person c_made_Light c_made_Roll c_ref26_Works c_ref27_Plan).Γ) (p2 : zqco) (hp2 : PieceOk Try.prog 124 0 law27_DeliveryReaches_p2_code zqcp zqcq (law27_DeliveryReaches_p2_G p2)) : PieceOk Try.prog 124 0 law27_DeliveryReaches_p3_code zqct zqcu (law27_DeliveryReaches_p3_G (zqd2 c_law27_sane c_ref27_Plan p2)) :=
  piece_exec (X := (law27_DeliveryReaches_X c_delivery_Bound c_delivery_Run c_law27_sane c_made_Dice_Fates c_made_Dice_Next c_made_Dice_Person c_made_Light c_made_Roll c_ref26_Works c_ref27_Plan)) (p := 1023) (Λ := pick1 [(16378, pieceCut zqcp zqcq (law27_DeliveryReaches_p2_G p2))]) mixed tab_ok hΓ (by kernel_rfl) (CutsOk_cons (q := 16378) (c' := law27_DeliveryReaches_p2_code) (by kernel_rfl) rfl hp2 CutsOk_nil) (fun d ks r h => Eq.trans (b := law27_DeliveryReaches_p3_G (zqd2 c_law27_sane c_ref27_Plan p2) d ks) (by kernel_rfl) h)
def zqd4 (p1 : zqcj) (p3 : zqcs) {β : Type} (t : List Int) (start : Int) (k : (Bool → Option β)) : Option β :=
  c_made_Light t (fun (rLight : Bool) =>
  cond (!rLight)
  (c_law27_sane  (fun (rsane : Bool) =>
  k rsane))
  (c_made_Roll t (fun (mrRoll : (List Int × Int)) =>
  c_made_Dice_Next (4 : Int) mrRoll (fun (rNext : Int) (mrNext : (List Int × Int)) =>
  c_made_Dice_Person rNext mrNext (fun (rPerson : (Int × List (Int × (Int × (Int × Int))))) (mrPerson : (List Int × Int)) =>
  p1 (fun (start2 : Int) (works : Bool) (p_ : Int) (p_2 : List (Int × (Int × (Int × Int)))) (l : List (List zq0)) =>
  c_delivery_Run (p_, p_2) (IntKind.i64.wrap start2) l (fun (rRun : Int) (lrRun : List Int) (lrRun2 : List Int) =>
  cond works
  (cond (decide ((List.length lrRun : Int) = (0 : Int)))
  (k false)
  (cond (decide (0 ≤ (0 : Int)) && decide ((0 : Int) < (List.length lrRun : Int)))
  (let e : Int := List.getD lrRun (Int.toNat (0 : Int)) (0 : Int);
  c_delivery_Bound (p_, p_2) (fun (rBound : Int) =>
  cond (decide ((IntKind.i64.wrap ((IntKind.i64.wrap start2) + rBound)) < e))
  (k false)
  (p3 (fun (t4 : Bool) =>
  k t4) start2 lrRun lrRun2 rRun p_ p_2)))
  none))
  (p3 (fun (t4 : Bool) =>
  k t4) start2 lrRun lrRun2 rRun p_ p_2))) start false rPerson.2 (List.length rPerson.2 : Int) (0 : Int) mrPerson.1 mrPerson.2 rPerson.1 rPerson.2 ([] : List (List zq0)))))))
theorem zqd5 (hΓ : ΓOk Try.prog (law27_DeliveryReaches_X c_delivery_Bound c_delivery_Run c_law27_sane c_made_Dice_Fates c_made_Dice_Next c_made_Dice_Person c_made_Light c_made_Roll c_ref26_Works c_ref27_Plan).Γ) (p1 : zqcj) (p3 : zqcs) (hp1 : PieceOk Try.prog 124 0 law27_DeliveryReaches_p1_code zqck zqcl (law27_DeliveryReaches_p1_G p1)) (hp3 : PieceOk Try.prog 124 0 law27_DeliveryReaches_p3_code zqct zqcu (law27_DeliveryReaches_p3_G p3)) : SpecOk Try.prog 5 (zqch (zqd4 c_delivery_Bound c_delivery_Run c_law27_sane c_made_Dice_Next c_made_Dice_Person c_made_Light c_made_Roll p1 p3)) :=
  spec_exec (X := (law27_DeliveryReaches_X c_delivery_Bound c_delivery_Run c_law27_sane c_made_Dice_Fates c_made_Dice_Next c_made_Dice_Person c_made_Light c_made_Roll c_ref26_Works c_ref27_Plan)) (Λ := pick1 [(1018, pieceCut zqck zqcl (law27_DeliveryReaches_p1_G p1)), (1023, pieceCut zqct zqcu (law27_DeliveryReaches_p3_G p3))]) (rs := [.tmp 4]) (c := bodyOf Try.f5) mixed tab_ok hΓ Try.func5 (by kernel_rfl) (by kernel_rfl) (by kernel_rfl) (by kernel_rfl) (CutsOk_cons (q := 1018) (c' := law27_DeliveryReaches_p1_code) (by kernel_rfl) rfl hp1 (CutsOk_cons (q := 1023) (c' := law27_DeliveryReaches_p3_code) (by kernel_rfl) rfl hp3 CutsOk_nil)) (fun x k r h => Eq.trans (b := (zqch (zqd4 c_delivery_Bound c_delivery_Run c_law27_sane c_made_Dice_Next c_made_Dice_Person c_made_Light c_made_Roll p1 p3)).run x k) (by kernel_rfl) h)
end
theorem zqd6Γ : ΓOk Try.prog (pick1 [(20, .spec (zq8x zq9c)), (16, .spec (zqba zqc7)), (10, .spec (zqca zqce)), (15, .spec (zq3h zq3w)), (14, .spec (zqj zqn)), (12, .spec (zq2z zq3e)), (9, .spec (zq5 zq9)), (11, .spec (zqc zqg)), (19, .spec (zq5g zq5w)), (21, .spec (zq6w zq7x))]) := (ΓOk_cons zq9d (ΓOk_cons zqc8 (ΓOk_cons zqcf (ΓOk_cons zq3x (ΓOk_cons zqo (ΓOk_cons zq3f (ΓOk_cons zqa (ΓOk_cons zqh (ΓOk_cons zq5x (ΓOk_cons zq7y ΓOk_nil))))))))))
def zqd7 (m : Nat) : zqcj := zqcw zq3w zq5w m
theorem zqd8 {β : Type} (i : Nat) (k1 start works t28 t29 t30 d d2 p_ p_2 l) : (zqd7 (i + 1) k1 start works t28 t29 t30 d d2 p_ p_2 l : Option β) = zqcv zq3w zq5w (zqd7 i k1) k1 start works t28 t29 t30 d d2 p_ p_2 l := rfl
def zqd9 : zqcj := zqd7 fuel
theorem zqda : PieceOk Try.prog 124 0 law27_DeliveryReaches_p1_code zqck zqcl (law27_DeliveryReaches_p1_G zqd9) := zqcx zq9c zqc7 zqce zq3w zqn zq3e zq9 zqg zq5w zq7x zqd6Γ fuel
def zqdb (m : Nat) : zqco := zqcz m
theorem zqdc {β : Type} (i : Nat) (k1 k2 a r_ sent plan i_) : (zqdb (i + 1) k1 k2 a r_ sent plan i_ : Option β) = zqcy (zqdb i k1 k2) k1 k2 a r_ sent plan i_ := rfl
def zqdd : zqco := zqdb fuel
theorem zqde : PieceOk Try.prog 124 0 law27_DeliveryReaches_p2_code zqcp zqcq (law27_DeliveryReaches_p2_G zqdd) := zqd0 zq9c zqc7 zqce zq3w zqn zq3e zq9 zqg zq5w zq7x zqd6Γ fuel
def zqdf : zqcs := zqd2 zqce zq7x zqdd
theorem zqdg : PieceOk Try.prog 124 0 law27_DeliveryReaches_p3_code zqct zqcu (law27_DeliveryReaches_p3_G zqdf) := zqd3 zq9c zqc7 zqce zq3w zqn zq3e zq9 zqg zq5w zq7x zqd6Γ zqdd zqde
def zqdh : zqcg := zqd4 zq9c zqc7 zqce zqn zq3e zq9 zqg zqd9 zqdf
theorem zqdi : SpecOk Try.prog 5 (zqch zqdh) := zqd5 zq9c zqc7 zqce zq3w zqn zq3e zq9 zqg zq5w zq7x zqd6Γ zqd9 zqdf zqda zqdg
end
end Go.Lift
/- Plain lemmas about functional forms: tests that are known, loops. -/
namespace Go.Lift
open Go.RowKit Go.IntWalk

section
variable {β : Type}
/-! ### Tests -/
theorem c_inb {i n : Int} {a b : Option β} (h : 0 ≤ i ∧ i < n) : cond (decide (0 ≤ i) && decide (i < n)) a b = a := by
  rw [decide_eq_true h.1, decide_eq_true h.2]; rfl
theorem c_room {n : Nat} {a b : Option β} (h : n ≤ 140737488355328) : cond (decide (n ≤ roomMax)) a b = a := by
  rw [decide_eq_true (p := n ≤ roomMax) h]; rfl
theorem c_pos {p : Prop} [Decidable p] {a b : Option β} (h : p) : cond (decide p) a b = a := by rw [decide_eq_true h]; rfl
theorem c_neg {p : Prop} [Decidable p] {a b : Option β} (h : ¬ p) : cond (decide p) a b = b := by rw [decide_eq_false h]; rfl
theorem c_npos {p : Prop} [Decidable p] {a b : Option β} (h : p) : cond (!decide p) a b = b := by rw [decide_eq_true h]; rfl
theorem c_nneg {p : Prop} [Decidable p] {a b : Option β} (h : ¬ p) : cond (!decide p) a b = a := by rw [decide_eq_false h]; rfl
theorem k_eq {γ : Type} {k : γ → Option β} {x y : γ} (h : x = y) : k x = k y := by rw [h]

/-! ### Loops over the numbers from 0 on -/
/-- A walk over a list that may end early. -/
def walk {α σ ε : Type} (g : Nat → α → σ → ε ⊕ σ) : List α → Nat → σ → ε ⊕ σ
  | [], _, s => .inr s
  | x :: r, j, s =>
    match g j x s with
    | .inl e => .inl e
    | .inr s' => walk g r (j + 1) s'

def sumK {ε σ : Type} (E : ε → Option β) (K : σ → Option β) : ε ⊕ σ → Option β
  | .inl e => E e
  | .inr s => K s

theorem walk_loop {α σ ε : Type} (F : Nat → Int → σ → Option β) (g : Nat → α → σ → ε ⊕ σ) (E : ε → Option β) (K : σ → Option β) (d : α) (xs : List α)
    (h1 : ∀ (m i : Nat) s, i < xs.length → F (m + 1) (i : Int) s = sumK E (fun s' => F m ((i : Int) + 1) s') (g i (xs.getD i d) s))
    (h2 : ∀ (m : Nat) s, F (m + 1) (xs.length : Int) s = K s) :
    ∀ (r : List α) (j fuel : Nat) (s : σ), xs.drop j = r → j + r.length = xs.length → r.length < fuel → F fuel (j : Int) s = sumK E K (walk g r j s)
  | r, j, 0, s, _, _, h => absurd h (Nat.not_lt_zero _)
  | [], j, m + 1, s, hd, hj, _ => by
    simp only [List.length_nil, Nat.add_zero] at hj
    subst hj
    rw [h2]; rfl
  | x :: r, j, m + 1, s, hd, hj, hm => by
    simp only [List.length_cons] at hj hm
    have h3 : j < xs.length := by omega
    have hx : xs.getD j d = x := by
      rw [List.drop_eq_getElem_cons h3] at hd
      injection hd with hd1 hd2
      simp [List.getD, h3, hd1]
    have hr : xs.drop (j + 1) = r := by
      rw [List.drop_eq_getElem_cons h3] at hd
      injection hd with hd1 hd2
    rw [h1 m j s h3, hx, walk]
    cases hg : g j x s with
    | inl e => rfl
    | inr s' =>
      simp only [sumK]
      exact walk_loop F g E K d xs h1 h2 r (j + 1) m s' hr (by omega) (by omega)

theorem walk_loop0 {α σ ε : Type} (F : Nat → Int → σ → Option β) (g : Nat → α → σ → ε ⊕ σ) (E : ε → Option β) (K : σ → Option β) (d : α) (xs : List α) (s : σ) (n : Nat) (hn : xs.length < n)
    (h1 : ∀ (m i : Nat) s, i < xs.length → F (m + 1) (i : Int) s = sumK E (fun s' => F m ((i : Int) + 1) s') (g i (xs.getD i d) s))
    (h2 : ∀ (m : Nat) s, F (m + 1) (xs.length : Int) s = K s) : F n 0 s = sumK E K (walk g xs 0 s) :=
  walk_loop F g E K d xs h1 h2 xs 0 n s rfl (by simp) hn

/-- A loop that only looks: every element, or out. -/
theorem check_loop {α : Type} (F : Nat → Int → Option β) (p : α → Bool) (E K : Option β) (d : α) (xs : List α) (n : Nat) (hn : xs.length < n)
    (h1 : ∀ (m i : Nat), i < xs.length → F (m + 1) (i : Int) = cond (p (xs.getD i d)) (F m ((i : Int) + 1)) E)
    (h2 : ∀ (m : Nat), F (m + 1) (xs.length : Int) = K) : F n 0 = cond (xs.all p) K E := by
  have h := walk_loop0 (ε := Unit) (fun m i (_ : Unit) => F m i) (fun _ x s => cond (p x) (.inr s) (.inl ())) (fun _ => E) (fun _ => K) d xs () n hn
    (fun m i s hi => by rw [h1 m i hi]; cases p (xs.getD i d) <;> rfl) (fun m s => h2 m)
  rw [h]
  have key : ∀ (l : List α) (j : Nat), sumK (fun _ => E) (fun _ => K) (walk (ε := Unit) (fun _ x (s : Unit) => cond (p x) (.inr s) (.inl ())) l j ()) = cond (l.all p) K E := by
    intro l
    induction l with
    | nil => intro j; rfl
    | cons x l ih =>
      intro j
      simp only [walk, List.all_cons]
      cases p x with
      | true => simpa using ih (j + 1)
      | false => rfl
  exact key xs 0

/-- A loop that goes through all elements. -/
theorem fold_loop {α σ : Type} (F : Nat → Int → σ → Option β) (g : σ → α → σ) (K : σ → Option β) (d : α) (xs : List α) (s : σ) (n : Nat) (hn : xs.length < n)
    (h1 : ∀ (m i : Nat) s, i < xs.length → F (m + 1) (i : Int) s = F m ((i : Int) + 1) (g s (xs.getD i d)))
    (h2 : ∀ (m : Nat) s, F (m + 1) (xs.length : Int) s = K s) : F n 0 s = K (xs.foldl g s) := by
  have h := walk_loop0 (ε := Empty) F (fun _ x s => .inr (g s x)) (fun e => e.elim) K d xs s n hn (fun m i s hi => h1 m i s hi) h2
  rw [h]
  have key : ∀ (l : List α) (j : Nat) (s : σ), sumK (fun e : Empty => e.elim) K (walk (fun _ x s => .inr (g s x)) l j s) = K (l.foldl g s) := by
    intro l
    induction l with
    | nil => intro j s; rfl
    | cons x l ih => intro j s; exact ih (j + 1) (g s x)
  exact key xs 0 s

end
end Go.Lift

/- Attempts in their order: the plain side of the laws of chapter 27. -/
namespace Go.Lift
set_option linter.unusedVariables false
set_option linter.unusedSimpArgs false

/-- An attempt: its channel, its try, its instant. -/
abbrev Att := Int × Int × Int
abbrev at0 : Att := (0, 0, 0)
def attLt (a b : Att) : Prop := a.2.2 < b.2.2 ∨ (a.2.2 = b.2.2 ∧ (a.1 < b.1 ∨ (a.1 = b.1 ∧ a.2.1 < b.2.1)))
instance (a b : Att) : Decidable (attLt a b) := by unfold attLt; infer_instance
theorem attLt_irr (a : Att) : ¬ attLt a a := by unfold attLt; omega
theorem attLt_trans {a b c : Att} (h1 : attLt a b) (h2 : attLt b c) : attLt a c := by unfold attLt at *; omega
theorem attLt_anti {a b : Att} (h1 : ¬ attLt a b) (h2 : ¬ attLt b a) : a = b := by
  obtain ⟨a1, a2, a3⟩ := a
  obtain ⟨b1, b2, b3⟩ := b
  unfold attLt at *
  simp only at h1 h2
  simp only [Prod.mk.injEq]
  omega
/-- Not behind. -/
def attLe (a b : Att) : Prop := ¬ attLt b a
theorem attLe_at {a b : Att} (h : attLe a b) : a.2.2 ≤ b.2.2 := by unfold attLe attLt at h; omega

/-- Into its place. -/
def insA : List Att → Att → List Att
  | [], x => [x]
  | y :: l, x => if attLt x y then x :: y :: l else y :: insA l x
def sortA (l : List Att) : List Att := l.foldl insA []

abbrev AscA (l : List Att) : Prop := l.Pairwise attLe

theorem insA_perm : ∀ (l : List Att) (x : Att), (insA l x).Perm (x :: l)
  | [], x => List.Perm.refl _
  | y :: l, x => by
    unfold insA
    split
    · exact List.Perm.refl _
    · exact ((insA_perm l x).cons y).trans (List.Perm.swap x y l)
theorem insA_asc : ∀ {l : List Att} {x : Att}, AscA l → AscA (insA l x)
  | [], x, _ => by simp [insA]
  | y :: l, x, h => by
    obtain ⟨h1, h2⟩ := List.pairwise_cons.1 h
    unfold insA
    split
    · rename_i hx
      refine List.pairwise_cons.2 ⟨fun z hz => ?_, h⟩
      rcases List.mem_cons.1 hz with rfl | hz
      · exact fun hh => attLt_irr _ (attLt_trans hx hh)
      · have := h1 z hz
        intro hh
        exact this (attLt_trans hh hx)
    · rename_i hx
      refine List.pairwise_cons.2 ⟨fun z hz => ?_, insA_asc h2⟩
      rcases List.mem_cons.1 ((insA_perm l x).mem_iff.1 hz) with rfl | hz
      · exact hx
      · exact h1 z hz
theorem fold_ins_perm : ∀ (l a : List Att), (l.foldl insA a).Perm (a ++ l)
  | [], a => by simp
  | x :: l, a => by
    have h1 := fold_ins_perm l (insA a x)
    refine h1.trans ?_
    have h2 := (insA_perm a x).append_right l
    refine h2.trans ?_
    simp only [List.cons_append]
    exact (List.perm_middle (a := x) (l₁ := a) (l₂ := l)).symm
theorem fold_ins_asc : ∀ (l : List Att) {a : List Att}, AscA a → AscA (l.foldl insA a)
  | [], a, h => h
  | x :: l, a, h => fold_ins_asc l (insA_asc h)
theorem sortA_perm (l : List Att) : (sortA l).Perm l := fold_ins_perm l []
theorem sortA_asc (l : List Att) : AscA (sortA l) := fold_ins_asc l .nil
theorem sortA_len (l : List Att) : (sortA l).length = l.length := (sortA_perm l).length_eq
theorem asc_unique {a b : List Att} (ha : AscA a) (hb : AscA b) (h : a.Perm b) : a = b :=
  List.Perm.eq_of_pairwise (fun x y _ _ h1 h2 => attLt_anti h2 h1) ha hb h

/-- The place of an insertion: behind all that x does not go ahead of. -/
theorem insA_append {a b : List Att} {x : Att} (ha : ∀ y ∈ a, ¬ attLt x y) (hb : ∀ y ∈ b, attLt x y) : insA (a ++ b) x = a ++ x :: b := by
  induction a with
  | nil =>
    cases b with
    | nil => rfl
    | cons y b => simp [insA, hb y (by simp)]
  | cons y a ih =>
    simp only [List.cons_append, insA]
    rw [if_neg (ha y (by simp)), ih fun z hz => ha z (by simp [hz])]

/-- Channels: their kind, latency, number of tries and pause. -/
abbrev Chan := Int × Int × Int × Int
def triesOf (start : Int) (c : Nat) (ch : Chan) : List Att := (List.range ch.2.2.1.toNat).map fun (i : Nat) => ((c : Int), (i : Int), start + (i : Int) * ch.2.2.2)
def rawFrom (start : Int) : Nat → List Chan → List Att
  | _, [] => []
  | c, ch :: l => triesOf start c ch ++ rawFrom start (c + 1) l
theorem triesOf_len (start : Int) (c : Nat) (ch : Chan) : (triesOf start c ch).length = ch.2.2.1.toNat := by simp [triesOf]
theorem rawFrom_append (start : Int) : ∀ (c : Nat) (a b : List Chan), rawFrom start c (a ++ b) = rawFrom start c a ++ rawFrom start (c + a.length) b
  | c, [], b => rfl
  | c, ch :: a, b => by
    simp only [List.cons_append, rawFrom, rawFrom_append start (c + 1) a b, List.append_assoc, List.length_cons]
    rw [show c + 1 + a.length = c + (a.length + 1) by omega]
end Go.Lift

/- Chapter 27 in plain Lean: channels, profiles, plans; code and reference. -/
namespace Go.Lift
open Go.RowKit Go.IntWalk
noncomputable section
set_option linter.unusedVariables false
set_option linter.unusedSimpArgs false
set_option maxRecDepth 10000

abbrev Prof := Int × List Chan
abbrev ch0 : Chan := (0, 0, 0, 0)

section
variable {β : Type}
theorem c_andk {b q : Bool} {k : Bool → Option β} {X : Option β} (h : b = true → X = k q) : cond b X (k false) = k (b && q) := by
  cases b with
  | false => rfl
  | true => exact h rfl
theorem c_nandk {b q : Bool} {k : Bool → Option β} {X : Option β} (h : b = true → X = k q) : cond (!b) (k false) X = k (b && q) := by
  cases b with
  | false => rfl
  | true => exact h rfl
theorem c_ff' {b : Bool} {x y : Option β} (h : b = false) : cond b x y = y := by rw [h]; rfl
theorem c_tt' {b : Bool} {x y : Option β} (h : b = true) : cond b x y = x := by rw [h]; rfl
end

def inB (n lo hi : Int) : Bool := decide (lo ≤ n) && decide (n ≤ hi)
theorem inB_iff {n lo hi : Int} : inB n lo hi = true ↔ lo ≤ n ∧ n ≤ hi := by simp [inB]
def chanV (c : Chan) : Bool := inB c.1 0 2 && (inB c.2.1 0 3600 && (inB c.2.2.1 1 6 && inB c.2.2.2 1 3600))
def profV (p : Prof) : Bool := inB p.1 0 31 && (decide ((p.2.length : Int) ≤ 4) && p.2.all chanV)
def planOf (p : Prof) (start : Int) : List Att := cond (profV p && inB start 0 8589934592) (sortA (rawFrom start 0 p.2)) []

structure ChanOk (c : Chan) : Prop where
  l1 : 0 ≤ c.2.1
  l2 : c.2.1 ≤ 3600
  t1 : 1 ≤ c.2.2.1
  t2 : c.2.2.1 ≤ 6
  p1 : 1 ≤ c.2.2.2
  p2 : c.2.2.2 ≤ 3600
theorem chanV_ok {c : Chan} (h : chanV c = true) : ChanOk c := by
  unfold chanV at h
  simp only [Bool.and_eq_true, inB_iff] at h
  exact ⟨h.2.1.1, h.2.1.2, h.2.2.1.1, h.2.2.1.2, h.2.2.2.1, h.2.2.2.2⟩
structure ProfOk (p : Prof) : Prop where
  who : 0 ≤ p.1 ∧ p.1 ≤ 31
  few : p.2.length ≤ 4
  all : ∀ c ∈ p.2, chanV c = true
theorem profV_ok {p : Prof} (h : profV p = true) : ProfOk p := by
  unfold profV at h
  simp only [Bool.and_eq_true, inB_iff, decide_eq_true_eq, List.all_eq_true] at h
  exact ⟨h.1, by omega, h.2.2⟩

section
variable {β : Type}
theorem d_in (n lo hi : Int) (k : Bool → Option β) : zq18 n lo hi k = k (inB n lo hi) := by
  unfold zq18 zq15
  exact c_andk fun _ => rfl
theorem ch_in (n lo hi : Int) (k : Bool → Option β) : zq2i n lo hi k = k (inB n lo hi) := by
  unfold zq2i zq2f
  exact c_andk fun _ => rfl
theorem r_in (n lo hi : Int) (k : Bool → Option β) : zq1x n lo hi k = k (inB n lo hi) := by
  unfold zq1x zq1u
  exact c_andk fun _ => rfl
theorem ch_valid (c : Chan) (k : Bool → Option β) : zq5d c k = k (chanV c) := by
  unfold zq5d zq5a
  refine (ch_in _ _ _ _).trans ?_
  refine c_andk fun _ => ?_
  refine (ch_in _ _ _ _).trans ?_
  refine c_andk fun _ => ?_
  refine (ch_in _ _ _ _).trans ?_
  refine c_andk fun _ => ?_
  exact ch_in _ _ _ _
theorem r26_valid (c : Chan) (k : Bool → Option β) : zq56 c k = k (chanV c) := by
  unfold zq56 zq53
  refine (r_in _ _ _ _).trans ?_
  refine c_andk fun _ => ?_
  refine (r_in _ _ _ _).trans ?_
  refine c_andk fun _ => ?_
  refine (r_in _ _ _ _).trans ?_
  refine c_andk fun _ => ?_
  exact r_in _ _ _ _

theorem d_index {l : List Chan} (hl : l.length ≤ 4) (k1 : zq81 β) (k2 : zq82 β) (E : Option β) (hE : ∀ i : Nat, k1 (i : Int) = E) :
    zq8e k1 k2 l (l.length : Int) 0 = cond (l.all chanV) (k2 ()) E := by
  refine check_loop (fun m i => zq8c m k1 k2 l (l.length : Int) i) chanV E (k2 ()) ch0 l fuel (lt_fuel (by omega)) (fun m i hi => ?_) (fun m => ?_)
  · simp only [zq8d, zq86, Int.toNat_natCast]
    refine (c_pos (by omega)).trans ?_
    refine (c_inb (by omega)).trans ?_
    unfold zq6t zq6q
    refine (ch_valid _ _).trans ?_
    rw [i64_in ((i : Int) + 1) (by omega)]
    cases chanV (l.getD i ch0) with
    | true => rfl
    | false => exact hE i
  · simp only [zq8d, zq86]
    rw [c_neg (by omega)]

theorem d_contains {l : List Chan} (hl : l.length ≤ 4) (k : Bool → Option β) : zq8n l k = k (!l.all chanV) := by
  unfold zq8n zq8k zq8g zq89
  refine (d_index hl _ _ (k true) fun i => ?_).trans ?_
  · show k (decide ((0 : Int) ≤ (i : Int))) = k true
    rw [decide_eq_true (by omega)]
  · cases l.all chanV <;> rfl

theorem d_valid (p : Prof) (k : Bool → Option β) : zq8u p k = k (profV p) := by
  unfold zq8u zq8r zq2b zq28
  refine (d_in _ _ _ _).trans ?_
  refine c_andk fun _ => ?_
  refine c_andk fun h => ?_
  have h := of_decide_eq_true h
  refine (d_contains (by omega) _).trans ?_
  show k (!!p.2.all chanV) = _
  rw [Bool.not_not]

theorem r27_valid (p : Prof) (k : Bool → Option β) : zq6f p k = k (profV p) := by
  unfold zq6f zq68
  refine (r_in _ _ _ _).trans ?_
  refine c_nandk fun _ => ?_
  by_cases h : (p.2.length : Int) ≤ 4
  · refine (c_neg (by omega)).trans ?_
    rw [decide_eq_true h, Bool.true_and]
    refine (check_loop (fun m i => zq6b m (fun t2 => k t2) (fun _ => k true) i p.1 p.2) chanV (k false) (k true) ch0 p.2 fuel (lt_fuel (by omega)) (fun m i hi => ?_) (fun m => ?_)).trans ?_
    · simp only [zq6c, zq65, Int.toNat_natCast]
      refine (c_pos (by omega)).trans ?_
      refine (c_inb (by omega)).trans ?_
      refine (r26_valid _ _).trans ?_
      rw [i64_in ((i : Int) + 1) (by omega)]
      cases chanV (p.2.getD i ch0) <;> rfl
    · simp only [zq6c, zq65]
      rw [c_neg (by omega)]
    · cases p.2.all chanV <;> rfl
  · refine (c_pos (by omega)).trans ?_
    rw [decide_eq_false h]
    rfl
end

/-! ### Plans -/
theorem rawFrom_len {start : Int} : ∀ {l : List Chan} {c : Nat}, (∀ x ∈ l, chanV x = true) → (rawFrom start c l).length ≤ 6 * l.length
  | [], c, _ => by simp [rawFrom]
  | ch :: l, c, h => by
    have h1 := rawFrom_len (start := start) (l := l) (c := c + 1) fun x hx => h x (by simp [hx])
    have h2 := chanV_ok (h ch (by simp))
    have a := h2.t2
    simp only [rawFrom, List.length_append, triesOf_len, List.length_cons]
    omega

structure AttOk (start : Int) (n : Nat) (a : Att) : Prop where
  c1 : 0 ≤ a.1
  c2 : a.1 < n
  i1 : 0 ≤ a.2.1
  i2 : a.2.1 < 6
  s1 : start ≤ a.2.2
  s2 : a.2.2 ≤ start + 21600

theorem triesOf_ok {start : Int} {c n : Nat} {ch : Chan} (h : chanV ch = true) (hc : c < n) : ∀ a ∈ triesOf start c ch, AttOk start n a := by
  intro a ha
  have q := chanV_ok h
  have q1 := q.t1; have q2 := q.t2; have q3 := q.p1; have q4 := q.p2
  unfold triesOf at ha
  obtain ⟨i, hi, rfl⟩ := List.mem_map.1 ha
  have hi := List.mem_range.1 hi
  have m1 : 0 ≤ (i : Int) * ch.2.2.2 := Int.mul_nonneg (by omega) (by omega)
  have m2 : (i : Int) * ch.2.2.2 ≤ 6 * 3600 := Int.mul_le_mul (by omega) (by omega) (by omega) (by omega)
  exact ⟨by show (0 : Int) ≤ c; omega, by show (c : Int) < n; omega, by show (0 : Int) ≤ i; omega, by show (i : Int) < 6; omega, by show start ≤ start + i * ch.2.2.2; omega, by show start + i * ch.2.2.2 ≤ _; omega⟩
theorem rawFrom_ok {start : Int} : ∀ {l : List Chan} {c n : Nat}, (∀ x ∈ l, chanV x = true) → c + l.length ≤ n → ∀ a ∈ rawFrom start c l, AttOk start n a
  | [], c, n, _, _, a, ha => by simp [rawFrom] at ha
  | ch :: l, c, n, h, hn, a, ha => by
    simp only [List.length_cons] at hn
    simp only [rawFrom, List.mem_append] at ha
    rcases ha with ha | ha
    · exact triesOf_ok (h ch (by simp)) (by omega) a ha
    · exact rawFrom_ok (fun x hx => h x (by simp [hx])) (by omega) a ha

theorem planOf_len (p : Prof) (start : Int) : (planOf p start).length ≤ 24 := by
  unfold planOf
  cases h : profV p with
  | false => simp
  | true =>
    have q := profV_ok h
    have := q.few
    cases inB start 0 8589934592 with
    | false => simp
    | true =>
      simp only [Bool.and_self, cond_true, sortA_len]
      have := rawFrom_len (start := start) (c := 0) q.all
      omega
theorem planOf_ok {p : Prof} {start : Int} : ∀ a ∈ planOf p start, AttOk start 4 a ∧ 0 ≤ start ∧ start ≤ 8589934592 := by
  intro a ha
  unfold planOf at ha
  cases h : profV p with
  | false => rw [h] at ha; simp at ha
  | true =>
    have q := profV_ok h
    cases h2 : inB start 0 8589934592 with
    | false => rw [h2] at ha; simp at ha
    | true =>
      rw [h, h2] at ha
      simp only [Bool.and_self, cond_true] at ha
      exact ⟨rawFrom_ok q.all (by have := q.few; omega) a ((sortA_perm _).mem_iff.1 ha), inB_iff.1 h2⟩
theorem planOf_asc (p : Prof) (start : Int) : AscA (planOf p start) := by
  unfold planOf
  cases profV p && inB start 0 8589934592 with
  | false => exact .nil
  | true => exact sortA_asc _

theorem cmp_att_lt (a b : Att) : zq9i a b < 0 ↔ attLt a b := by
  unfold zq9i zq9g attLt
  split
  · omega
  · split <;> omega

/-- The code's sort is the sort. -/
theorem att_run {l : List Att} (h : ∀ x ∈ l, zq9h x = true) : zq9j l = sortA l := by
  obtain ⟨h1, h2⟩ := sortRun_good (d0 := ((0, 0, 0) : Int × Int × Int)) (h0 := rfl) zq9n h
  have hlen : (zq9j l).length = l.length := h1.length_eq
  refine asc_unique ?_ (sortA_asc l) (h1.trans (sortA_perm l).symm)
  refine List.pairwise_iff_getElem.2 fun i j hi hj hij => ?_
  have h3 := h2 i j hij (by omega)
  intro hlt
  have e : ∀ q, (hq : q < (zq9j l).length) → (zq9j l).getD q ((0, 0, 0) : Int × Int × Int) = (zq9j l)[q] := fun q hq => by simp [List.getD, hq]
  refine h3 ?_
  show zq9i ((zq9j l).getD j _) ((zq9j l).getD i _) < 0
  rw [e i hi, e j hj, cmp_att_lt]
  exact hlt

theorem att_good {start : Int} {n : Nat} {a : Att} (h : AttOk start n a) (hn : n ≤ 4) (h0 : 0 ≤ start ∧ start ≤ 8589934592) : zq9h a = true := by
  obtain ⟨a1, a2, a3, a4, a5, a6⟩ := h
  unfold zq9h
  simp only [Bool.and_eq_true, decide_eq_true_eq]
  omega

section
variable {β : Type}
theorem range_map_succ {α : Type} (f : Nat → α) (n : Nat) : (List.range (n + 1)).map f = (List.range n).map f ++ [f n] := by
  rw [List.range_succ, List.map_append]; rfl

/-- The first i tries. -/
def someTries (start : Int) (c : Nat) (ch : Chan) (i : Nat) : List Att := (List.range i).map fun (i : Nat) => ((c : Int), (i : Int), start + (i : Int) * ch.2.2.2)
theorem someTries_len (start : Int) (c : Nat) (ch : Chan) (i : Nat) : (someTries start c ch i).length = i := by simp [someTries]
theorem someTries_all (start : Int) (c : Nat) (ch : Chan) : someTries start c ch ch.2.2.1.toNat = triesOf start c ch := rfl
theorem someTries_succ (start : Int) (c : Nat) (ch : Chan) (i : Nat) : someTries start c ch (i + 1) = someTries start c ch i ++ [((c : Int), (i : Int), start + (i : Int) * ch.2.2.2)] := range_map_succ _ _
theorem try_wrap {start : Int} {i : Nat} {ch : Chan} (h0 : 0 ≤ start ∧ start ≤ 8589934592) (hch : ChanOk ch) (hi : i < 6) : IntKind.i64.wrap (start + IntKind.i64.wrap ((i : Int) * ch.2.2.2)) = start + (i : Int) * ch.2.2.2 := by
  have q3 := hch.p1; have q4 := hch.p2
  have m1 : 0 ≤ (i : Int) * ch.2.2.2 := Int.mul_nonneg (by omega) (by omega)
  have m2 : (i : Int) * ch.2.2.2 ≤ 6 * 3600 := Int.mul_le_mul (by omega) (by omega) (by omega) (by omega)
  rw [i64_in ((i : Int) * ch.2.2.2) (by omega), i64_in _ (by omega)]

theorem d_plan1 {start : Int} {ch : Chan} (h0 : 0 ≤ start ∧ start ≤ 8589934592) (hch : ChanOk ch) (c : Nat) (t18 : List Chan) (t19 t20 : Int) (out : List Att) (hout : out.length ≤ 100) (k1 : zq9s β) :
    zqab k1 start c t18 t19 t20 ch.2.2.1 0 out ch.1 ch.2.1 ch.2.2.1 ch.2.2.2 = k1 start t18 t19 t20 (out ++ triesOf start c ch) := by
  have q1 := hch.t1; have q2 := hch.t2
  have key : ∀ (j i : Nat) (m : Nat), i + j = ch.2.2.1.toNat → j < m → zqa9 m k1 start c t18 t19 t20 ch.2.2.1 (i : Int) (out ++ someTries start c ch i) ch.1 ch.2.1 ch.2.2.1 ch.2.2.2 = k1 start t18 t19 t20 (out ++ triesOf start c ch) := by
    intro j
    induction j with
    | zero =>
      intro i m hi hm
      obtain ⟨m, rfl⟩ : ∃ m', m = m' + 1 := ⟨m - 1, by omega⟩
      simp only [zqaa, zqa0]
      refine (c_neg (by omega)).trans ?_
      have : i = ch.2.2.1.toNat := by omega
      rw [this, someTries_all]
    | succ j ih =>
      intro i m hi hm
      obtain ⟨m, rfl⟩ : ∃ m', m = m' + 1 := ⟨m - 1, by omega⟩
      simp only [zqaa, zqa0]
      refine (c_pos (by omega)).trans ?_
      have hl := someTries_len start c ch i
      refine (c_room (by simp only [List.length_append, List.length_cons, List.length_nil]; omega)).trans ?_
      rw [try_wrap h0 hch (by omega), i64_in ((i : Int) + 1) (by omega), List.append_assoc, ← someTries_succ]
      exact ih (i + 1) m (by omega) (by omega)
  have h := key ch.2.2.1.toNat 0 fuel (by omega) (lt_fuel (by omega))
  simp only [someTries, List.range_zero, List.map_nil, List.append_nil] at h
  exact h

theorem rawFrom_snoc {start : Int} {l : List Chan} {i : Nat} (hi : i < l.length) : rawFrom start 0 (l.take (i + 1)) = rawFrom start 0 (l.take i) ++ triesOf start i (l.getD i ch0) := by
  rw [List.take_add_one, List.getElem?_eq_getElem hi, Option.toList_some, rawFrom_append]
  have : l.getD i ch0 = l[i] := by simp [List.getD, hi]
  rw [this]
  simp only [rawFrom, List.append_nil, List.length_take, Nat.zero_add]
  rw [show min i l.length = i by omega]
theorem take_all {l : List Chan} {p : Chan → Bool} (h : ∀ x ∈ l, p x = true) (i : Nat) : ∀ x ∈ l.take i, p x = true := fun x hx => h x (List.mem_of_mem_take hx)
theorem getD_all {l : List Chan} (h : ∀ x ∈ l, chanV x = true) {i : Nat} (hi : i < l.length) : chanV (l.getD i ch0) = true := by
  have : l.getD i ch0 = l[i] := by simp [List.getD, hi]
  rw [this]
  exact h _ (List.getElem_mem hi)

theorem d_plan2 {start : Int} {l : List Chan} (h0 : 0 ≤ start ∧ start ≤ 8589934592) (hl : l.length ≤ 4) (h : ∀ x ∈ l, chanV x = true) (k1 : zq9w β) :
    zqaf k1 start l (l.length : Int) 0 [] = k1 (rawFrom start 0 l) := by
  have key : ∀ (j i : Nat) (m : Nat), i + j = l.length → j < m → zqad m k1 start l (l.length : Int) (i : Int) (rawFrom start 0 (l.take i)) = k1 (rawFrom start 0 l) := by
    intro j
    induction j with
    | zero =>
      intro i m hi hm
      obtain ⟨m, rfl⟩ : ∃ m', m = m' + 1 := ⟨m - 1, by omega⟩
      simp only [zqae, zqa3]
      refine (c_neg (by omega)).trans ?_
      rw [List.take_of_length_le (by omega)]
    | succ j ih =>
      intro i m hi hm
      obtain ⟨m, rfl⟩ : ∃ m', m = m' + 1 := ⟨m - 1, by omega⟩
      simp only [zqae, zqa3, Int.toNat_natCast]
      refine (c_pos (by omega)).trans ?_
      refine (c_inb (by omega)).trans ?_
      have hlen := rawFrom_len (start := start) (c := 0) (take_all h i)
      have hlt : (l.take i).length ≤ 4 := by simp only [List.length_take]; omega
      refine (d_plan1 h0 (chanV_ok (getD_all h (by omega))) i l _ _ _ (by omega) _).trans ?_
      rw [i64_in ((i : Int) + 1) (by omega), ← rawFrom_snoc (by omega)]
      exact ih (i + 1) m (by omega) (by omega)
  exact key l.length 0 fuel (by omega) (lt_fuel (by omega))

theorem d_plan (p : Prof) (start : Int) (k : List Att → Option β) : zqah p start k = k (planOf p start) := by
  unfold zqah zqa6 planOf
  refine (d_valid _ _).trans ?_
  cases hv : profV p with
  | false => rfl
  | true =>
    refine (c_ff' rfl).trans ?_
    refine (d_in _ _ _ _).trans ?_
    cases hs : inB start 0 8589934592 with
    | false => rfl
    | true =>
      refine (c_ff' rfl).trans ?_
      have q := profV_ok hv
      have h0 := inB_iff.1 hs
      have few := q.few
      refine (d_plan2 h0 few q.all _).trans ?_
      have hok := rawFrom_ok (start := start) (c := 0) (n := 4) q.all (by omega)
      have hg : ∀ x ∈ rawFrom start 0 p.2, zq9h x = true := fun x hx => att_good (hok x hx) (by omega) h0
      have hlen := rawFrom_len (start := start) (c := 0) q.all
      refine (c_tt' (by rw [List.all_eq_true.2 hg, decide_eq_true (by omega)]; rfl)).trans ?_
      show k (zq9j _) = _
      rw [att_run hg]
      rfl
end
end
end Go.Lift

/- The reference's plan of chapter 27: sorting by insertion. -/
namespace Go.Lift
open Go.RowKit Go.IntWalk
noncomputable section
set_option linter.unusedVariables false
set_option linter.unusedSimpArgs false
set_option maxRecDepth 10000

theorem attLt_le {x y z : Att} (h1 : attLt x y) (h2 : attLe y z) : attLt x z := by unfold attLe attLt at *; omega

/-- A list written over its own part by one place, and the place filled. -/
theorem shift_ins {α : Type} (a b : List α) (x : α) (l2 : List α) (h : l2 = a ++ b ++ [x]) (q : List α)
    (hq : q = List.take (a.length + 1) l2 ++ (List.take (l2.length - (a.length + 1)) (List.drop a.length (List.take l2.length l2)) ++ List.drop (a.length + 1 + Nat.min (List.length (List.drop a.length (List.take l2.length l2))) (l2.length - (a.length + 1))) l2)) :
    q.length = l2.length ∧ List.set q a.length x = a ++ x :: b := by
  obtain ⟨y, r, hy⟩ : ∃ y r, b ++ [x] = y :: r := by
    cases b with
    | nil => exact ⟨_, _, rfl⟩
    | cons y b => exact ⟨_, _, rfl⟩
  have hl : l2.length = a.length + b.length + 1 := by rw [h]; simp; omega
  have e1 : List.take (a.length + 1) l2 = a ++ [y] := by
    rw [h, List.append_assoc, hy, List.take_append, List.take_of_length_le (by omega)]
    simp
  have e2 : List.drop a.length (List.take l2.length l2) = b ++ [x] := by
    rw [List.take_length, h, List.append_assoc, List.drop_left]
  have e3 : List.take (l2.length - (a.length + 1)) (b ++ [x]) = b := by
    rw [hl, show a.length + b.length + 1 - (a.length + 1) = b.length by omega, List.take_left]
  have e4 : List.drop (a.length + 1 + Nat.min (List.length (b ++ [x])) (l2.length - (a.length + 1))) l2 = [] := by
    refine List.drop_eq_nil_of_le ?_
    have : Nat.min (List.length (b ++ [x])) (l2.length - (a.length + 1)) = b.length := by
      rw [List.length_append, List.length_cons, List.length_nil, hl]
      show min _ _ = _
      omega
    rw [this, hl]
    omega
  rw [e1, e2, e3, e4, List.append_nil] at hq
  subst hq
  refine ⟨by rw [hl]; simp; omega, ?_⟩
  rw [List.append_assoc, List.set_append_right _ _ (Nat.le_refl _), Nat.sub_self]
  rfl

section
theorem r_ahead {β : Type} (x y : Att) (k : Bool → Option β) : zq24 x y k = k (decide (attLt x y)) := by
  unfold zq24 zq21
  by_cases h1 : x.2.2 = y.2.2
  · refine (c_npos h1).trans ?_
    by_cases h2 : x.1 = y.1
    · refine (c_npos h2).trans (k_eq ?_)
      congr 1
      exact propext ⟨fun h => by unfold attLt; omega, fun h => by unfold attLt at h; omega⟩
    · refine (c_nneg h2).trans (k_eq ?_)
      congr 1
      exact propext ⟨fun h => by unfold attLt; omega, fun h => by unfold attLt at h; omega⟩
  · refine (c_nneg h1).trans (k_eq ?_)
    congr 1
    exact propext ⟨fun h => by unfold attLt; omega, fun h => by unfold attLt at h; omega⟩

theorem r_plan1 (start c i_ p_ : Int) (p2 : List Chan) {out : List Att} (hs : AscA out) (hl : out.length ≤ 100) (x : Att) :
    ∃ a b, out = a ++ b ∧ (∀ y ∈ a, ¬ attLt x y) ∧ (∀ y ∈ b, attLt x y) ∧ ∀ {β : Type} (k1 : zq6x β), zq7n k1 start c i_ (out.length : Int) p_ p2 out x.1 x.2.1 x.2.2 = k1 start c i_ (a.length : Int) p_ p2 out x.1 x.2.1 x.2.2 := by
  have key : ∀ (n m : Nat), n ≤ out.length → n < m → (∀ y ∈ out.drop n, attLt x y) → ∃ a b, out = a ++ b ∧ (∀ y ∈ a, ¬ attLt x y) ∧ (∀ y ∈ b, attLt x y) ∧ ∀ {β : Type} (k1 : zq6x β), zq7l m k1 start c i_ (n : Int) p_ p2 out x.1 x.2.1 x.2.2 = k1 start c i_ (a.length : Int) p_ p2 out x.1 x.2.1 x.2.2 := by
    intro n
    induction n with
    | zero =>
      intro m _ hm hd
      obtain ⟨m, rfl⟩ : ∃ m', m = m' + 1 := ⟨m - 1, by omega⟩
      refine ⟨[], out, rfl, by simp, by simpa using hd, fun k1 => ?_⟩
      simp only [zq7m, zq79]
      exact c_neg (by omega)
    | succ n ih =>
      intro m hn hm hd
      obtain ⟨m, rfl⟩ : ∃ m', m = m' + 1 := ⟨m - 1, by omega⟩
      have hlt : n < out.length := by omega
      have eg : out.getD n at0 = out[n] := by simp [List.getD, hlt]
      have e1 : IntKind.i64.wrap (((n + 1 : Nat) : Int) - 1) = (n : Int) := by rw [i64_in _ (by omega)]; omega
      by_cases hx : attLt x out[n]
      · obtain ⟨a, b, h1, h2, h3, h4⟩ := ih m (by omega) (by omega) (fun y hy => by
          rw [List.drop_eq_getElem_cons hlt] at hy
          rcases List.mem_cons.1 hy with rfl | hy
          · exact hx
          · exact hd y hy)
        refine ⟨a, b, h1, h2, h3, fun k1 => ?_⟩
        simp only [zq7m, zq79, e1, Int.toNat_natCast]
        refine (c_pos (by omega)).trans ?_
        refine (c_inb (by omega)).trans ?_
        refine (r_ahead x (out.getD n at0) _).trans ?_
        rw [eg]
        refine (c_pos hx).trans ?_
        exact h4 k1
      · refine ⟨out.take (n + 1), out.drop (n + 1), (List.take_append_drop _ _).symm, fun y hy hlt2 => ?_, hd, fun k1 => ?_⟩
        · rw [List.take_add_one, List.getElem?_eq_getElem hlt, Option.toList_some] at hy
          rcases List.mem_append.1 hy with hy | hy
          · obtain ⟨q, hq, rfl⟩ := List.getElem_of_mem hy
            have hq' : q < n := by simp only [List.length_take] at hq; omega
            rw [List.getElem_take] at hlt2
            exact hx (attLt_le hlt2 (List.pairwise_iff_getElem.1 hs q n (by omega) hlt hq'))
          · rw [List.mem_singleton.1 hy] at hlt2
            exact hx hlt2
        · simp only [zq7m, zq79, e1, Int.toNat_natCast]
          refine (c_pos (by omega)).trans ?_
          refine (c_inb (by omega)).trans ?_
          refine (r_ahead x (out.getD n at0) _).trans ?_
          rw [eg]
          refine (c_neg hx).trans ?_
          rw [List.length_take, show min (n + 1) out.length = n + 1 by omega]
  exact key out.length fuel (Nat.le_refl _) (lt_fuel (by omega)) (by simp)

variable {β : Type}
theorem r_plan2 {start : Int} {p_ : Int} {p2 : List Chan} {c : Nat} (h0 : 0 ≤ start ∧ start ≤ 8589934592) (hc : c < p2.length) (hlp : p2.length ≤ 4) (hch : chanV (p2.getD c ch0) = true) {out : List Att} (hs : AscA out) (hl : out.length ≤ 50) (k1 : zq71 β) :
    zq7r k1 start (c : Int) 0 p_ p2 out = k1 start (c : Int) p_ p2 ((triesOf start c (p2.getD c ch0)).foldl insA out) := by
  generalize hch' : p2.getD c ch0 = ch at hch
  have q := chanV_ok hch
  have q1 := q.t1; have q2 := q.t2
  have key : ∀ (j i : Nat) (m : Nat), i + j = ch.2.2.1.toNat → j < m → zq7p m k1 start (c : Int) (i : Int) p_ p2 ((someTries start c ch i).foldl insA out) = k1 start (c : Int) p_ p2 ((triesOf start c ch).foldl insA out) := by
    intro j
    induction j with
    | zero =>
      intro i m hi hm
      obtain ⟨m, rfl⟩ : ∃ m', m = m' + 1 := ⟨m - 1, by omega⟩
      simp only [zq7q, zq7c, Int.toNat_natCast, hch']
      refine (c_inb (by omega)).trans ?_
      refine (c_neg (by omega)).trans ?_
      have : i = ch.2.2.1.toNat := by omega
      rw [this, someTries_all]
    | succ j ih =>
      intro i m hi hm
      obtain ⟨m, rfl⟩ : ∃ m', m = m' + 1 := ⟨m - 1, by omega⟩
      have hlen : ((someTries start c ch i).foldl insA out).length = out.length + i := by
        rw [(fold_ins_perm _ _).length_eq, List.length_append, someTries_len]
      have hasc : AscA ((someTries start c ch i).foldl insA out) := fold_ins_asc _ hs
      have hnext := ih (i + 1) m (by omega) (by omega)
      rw [someTries_succ, List.foldl_append] at hnext
      simp only [List.foldl_cons, List.foldl_nil] at hnext
      generalize (someTries start c ch i).foldl insA out = w at hlen hasc hnext ⊢
      obtain ⟨a, b, h1, h2, h3, h4⟩ := r_plan1 start (c : Int) (i : Int) p_ p2 hasc (by omega) ((c : Int), (i : Int), start + (i : Int) * ch.2.2.2)
      simp only [zq7q, zq7c, Int.toNat_natCast, hch']
      refine (c_inb (by omega)).trans ?_
      refine (c_pos (by omega)).trans ?_
      refine (c_inb (by omega)).trans ?_
      rw [try_wrap h0 q (by omega)]
      refine (h4 _).trans ?_
      have hab : w.length = a.length + b.length := by rw [h1, List.length_append]
      refine (c_room (by simp only [List.length_cons, List.length_nil]; omega)).trans ?_
      have e1 : IntKind.i64.wrap ((a.length : Int) + 1) = ((a.length + 1 : Nat) : Int) := by rw [i64_in _ (by omega)]; omega
      simp only [e1, Int.toNat_natCast]
      have hl2 : (w ++ [((c : Int), (i : Int), start + (i : Int) * ch.2.2.2)]).length = a.length + b.length + 1 := by simp; omega
      refine (c_tt' (by simp only [Bool.and_eq_true, decide_eq_true_eq]; omega)).trans ?_
      refine (c_tt' (by simp only [Bool.and_eq_true, decide_eq_true_eq]; omega)).trans ?_
      obtain ⟨g1, g2⟩ := shift_ins a b ((c : Int), (i : Int), start + (i : Int) * ch.2.2.2) (w ++ [((c : Int), (i : Int), start + (i : Int) * ch.2.2.2)]) (by rw [h1]) _ rfl
      refine (c_inb (by omega)).trans ?_
      rw [g2, i64_in ((i : Int) + 1) (by omega), ← insA_append h2 h3, ← h1]
      exact hnext
  exact key ch.2.2.1.toNat 0 fuel (by omega) (lt_fuel (by omega))

theorem r_plan3 {start : Int} {p_ : Int} {p2 : List Chan} (h0 : 0 ≤ start ∧ start ≤ 8589934592) (hlp : p2.length ≤ 4) (h : ∀ x ∈ p2, chanV x = true) (k1 : zq75 β) :
    zq7v k1 start 0 p_ p2 [] = k1 (sortA (rawFrom start 0 p2)) := by
  have key : ∀ (j i : Nat) (m : Nat), i + j = p2.length → j < m → zq7t m k1 start (i : Int) p_ p2 (sortA (rawFrom start 0 (p2.take i))) = k1 (sortA (rawFrom start 0 p2)) := by
    intro j
    induction j with
    | zero =>
      intro i m hi hm
      obtain ⟨m, rfl⟩ : ∃ m', m = m' + 1 := ⟨m - 1, by omega⟩
      simp only [zq7u, zq7f]
      refine (c_neg (by omega)).trans ?_
      rw [List.take_of_length_le (by omega)]
    | succ j ih =>
      intro i m hi hm
      obtain ⟨m, rfl⟩ : ∃ m', m = m' + 1 := ⟨m - 1, by omega⟩
      simp only [zq7u, zq7f]
      refine (c_pos (by omega)).trans ?_
      have hlen := rawFrom_len (start := start) (c := 0) (take_all h i)
      have hlt : (p2.take i).length ≤ 4 := by simp only [List.length_take]; omega
      refine (r_plan2 h0 (by omega) hlp (getD_all h (by omega)) (sortA_asc _) (by rw [sortA_len]; omega) _).trans ?_
      rw [i64_in ((i : Int) + 1) (by omega)]
      have := ih (i + 1) m (by omega) (by omega)
      rw [rawFrom_snoc (by omega)] at this
      unfold sortA at this ⊢
      rw [List.foldl_append] at this
      exact this
  exact key p2.length 0 fuel (by omega) (lt_fuel (by omega))

theorem r_plan (p : Prof) (start : Int) (k : List Att → Option β) : zq7x p start k = k (planOf p start) := by
  unfold zq7x zq7i planOf
  refine (r27_valid _ _).trans ?_
  cases hv : profV p with
  | false => rfl
  | true =>
    refine (c_ff' rfl).trans ?_
    refine (r_in _ _ _ _).trans ?_
    cases hs : inB start 0 8589934592 with
    | false => rfl
    | true =>
      refine (c_ff' rfl).trans ?_
      have q := profV_ok hv
      exact r_plan3 (inB_iff.1 hs) q.few q.all _
end
end
end Go.Lift

/- Contacts of chapter 27, function by function; code and reference. -/
namespace Go.Lift
open Go.RowKit Go.IntWalk
noncomputable section
set_option linter.unusedVariables false
set_option linter.unusedSimpArgs false
set_option maxRecDepth 10000

/-- A contact: page, step, person, start, what is sent, when it was reached. -/
abbrev Cont := Int × Int × Int × Int × Int × Int
abbrev Cont.start (c : Cont) : Int := c.2.2.2.1
abbrev Cont.sent (c : Cont) : Int := c.2.2.2.2.1
abbrev Cont.reached (c : Cont) : Int := c.2.2.2.2.2
section
variable {β : Type}
end
end
end Go.Lift

/- What becomes of a contact (chapter 27): attempts, arrivals, receipts; code and reference. -/
namespace Go.Lift
open Go.RowKit Go.IntWalk
noncomputable section
set_option linter.unusedVariables false
set_option linter.unusedSimpArgs false
set_option maxRecDepth 10000

/-! ### Sorted numbers -/
theorem sI_sorted (l : List Int) : (sortInts l).Pairwise (fun x y => x ≤ y) := by
  have := List.pairwise_mergeSort (le := fun x y : Int => decide (x ≤ y)) (fun a b c h1 h2 => by simp at *; omega) (fun a b => by simp; omega) l
  exact this.imp fun h => by simpa using h
theorem sI_perm (l : List Int) : (sortInts l).Perm l := List.mergeSort_perm l _
/-! ### Fates -/
/-- A fate: lost, delay, copy, receipt. -/
abbrev Fate := Bool × Int × Int × Int
abbrev lostF : Fate := (true, 0, 0, 0)
def fateV (f : Fate) : Bool := inB f.2.1 0 86400 && (inB f.2.2.1 0 86400 && inB f.2.2.2 (-1) 86400)
def fateOf (l : List Fate) (k : Int) : Fate :=
  cond (inB k 0 ((l.length : Int) - 1)) (cond (fateV (l.getD k.toNat (false, 0, 0, 0))) (l.getD k.toNat (false, 0, 0, 0)) lostF) lostF
def arrOf (t : Int) (f : Fate) : List Int :=
  cond (inB t 0 8589956192) (cond (fateV f) (cond f.1 [] (cond (decide (f.2.2.1 = 0)) [t + f.2.1] [t + f.2.1, t + f.2.1 + f.2.2.1])) []) []
def recOf (t : Int) (f : Fate) : List Int := cond (decide (f.2.2.2 = -1)) [] ((arrOf t f).map (· + f.2.2.2))

theorem arrOf_len (t : Int) (f : Fate) : (arrOf t f).length ≤ 2 := by
  unfold arrOf
  cases inB t 0 8589956192 <;> cases fateV f <;> cases f.1 <;> cases decide (f.2.2.1 = 0) <;> simp
theorem recOf_len (t : Int) (f : Fate) : (recOf t f).length ≤ 2 := by
  unfold recOf
  have := arrOf_len t f
  cases decide (f.2.2.2 = -1) <;> simp [this]
theorem arrOf_bd {t : Int} {f : Fate} : ∀ x ∈ arrOf t f, 0 ≤ x ∧ x ≤ 9000000000 ∧ fateV f = true := by
  intro x hx
  unfold arrOf at hx
  cases h1 : inB t 0 8589956192 with
  | false => rw [h1] at hx; simp at hx
  | true =>
    cases h2 : fateV f with
    | false => rw [h1, h2] at hx; simp at hx
    | true =>
      have g1 := inB_iff.1 h1
      have g2 := h2
      unfold fateV at g2
      simp only [Bool.and_eq_true, inB_iff] at g2
      rw [h1, h2] at hx
      simp only [cond_true] at hx
      cases h3 : f.1 with
      | true => rw [h3] at hx; simp at hx
      | false =>
        rw [h3] at hx
        simp only [cond_false] at hx
        cases h4 : decide (f.2.2.1 = 0) with
        | true =>
          rw [h4] at hx
          simp only [cond_true, List.mem_singleton] at hx
          exact ⟨by omega, by omega, rfl⟩
        | false =>
          rw [h4] at hx
          simp only [cond_false, List.mem_cons, List.not_mem_nil, or_false] at hx
          exact ⟨by omega, by omega, rfl⟩

section
variable {β : Type}
theorem ch_vfate (f : Fate) (k : Bool → Option β) : zq2p f k = k (fateV f) := by
  unfold zq2p zq2m
  refine (ch_in _ _ _ _).trans ?_
  refine c_andk fun _ => ?_
  refine (ch_in _ _ _ _).trans ?_
  refine c_andk fun _ => ?_
  exact ch_in _ _ _ _
theorem r26_vfate (f : Fate) (k : Bool → Option β) : zq2w f k = k (fateV f) := by
  unfold zq2w zq2t
  refine (r_in _ _ _ _).trans ?_
  refine c_andk fun _ => ?_
  refine (r_in _ _ _ _).trans ?_
  refine c_andk fun _ => ?_
  exact r_in _ _ _ _

theorem ch_fates {l : List Fate} (hl : l.length ≤ 9223372036854775807) (i : Int) (k : Fate → Option β) : zq43 l i k = k (fateOf l i) := by
  unfold zq43 zq40 fateOf
  rw [i64_in ((l.length : Int) - 1) (by omega)]
  refine (ch_in _ _ _ _).trans ?_
  cases h : inB i 0 ((l.length : Int) - 1) with
  | false => rfl
  | true =>
    have h := inB_iff.1 h
    refine (c_tt' rfl).trans ?_
    refine (c_inb (by omega)).trans ?_
    refine (ch_vfate _ _).trans ?_
    simp only [cond_true]
    cases fateV (l.getD i.toNat (false, 0, 0, 0)) with
    | false => rfl
    | true => exact c_inb (by omega)
theorem r26_fates {l : List Fate} (i : Int) (k : Fate → Option β) : zq4z l i k = k (fateOf l i) := by
  unfold zq4z zq4w fateOf
  by_cases h0 : i < 0
  · refine (c_pos h0).trans ?_
    have : inB i 0 ((l.length : Int) - 1) = false := by unfold inB; rw [decide_eq_false (by omega)]; rfl
    rw [this]; rfl
  · refine (c_neg h0).trans ?_
    by_cases h1 : (l.length : Int) ≤ i
    · refine (c_pos h1).trans ?_
      have : inB i 0 ((l.length : Int) - 1) = false := by unfold inB; rw [decide_eq_false (show ¬ i ≤ (l.length : Int) - 1 by omega), Bool.and_false]
      rw [this]; rfl
    · refine (c_neg h1).trans ?_
      have : inB i 0 ((l.length : Int) - 1) = true := inB_iff.2 (by omega)
      rw [this]
      refine (c_inb (by omega)).trans ?_
      refine (r26_vfate _ _).trans ?_
      simp only [cond_true]
      cases fateV (l.getD i.toNat (false, 0, 0, 0)) with
      | false => rfl
      | true => exact c_inb (by omega)

theorem ch_arrivals (t : Int) (f : Fate) (k : List Int → Option β) : zq4a t f k = k (arrOf t f) := by
  unfold zq4a zq47 arrOf
  refine (ch_in _ _ _ _).trans ?_
  cases h1 : inB t 0 8589956192 with
  | false => rfl
  | true =>
    refine (c_ff' rfl).trans ?_
    refine (ch_vfate _ _).trans ?_
    cases h2 : fateV f with
    | false => rfl
    | true =>
      have g1 := inB_iff.1 h1
      unfold fateV at h2
      simp only [Bool.and_eq_true, inB_iff] at h2
      refine (c_ff' rfl).trans ?_
      simp only [cond_true]
      cases h3 : f.1 with
      | true => rfl
      | false =>
        refine (c_ff' rfl).trans ?_
        rw [i64_in (t + f.2.1) (by omega), i64_in (t + f.2.1 + f.2.2.1) (by omega)]
        by_cases h4 : f.2.2.1 = 0
        · refine (c_npos h4).trans ?_
          rw [decide_eq_true h4]; rfl
        · refine (c_nneg h4).trans ?_
          rw [decide_eq_false h4]
          exact c_room (by simp)
theorem ch_receipts (t : Int) (f : Fate) (k : List Int → Option β) : zq4s t f k = k (recOf t f) := by
  unfold zq4s zq4l recOf
  refine (ch_arrivals _ _ _).trans ?_
  by_cases h : f.2.2.2 = -1
  · refine (c_pos h).trans ?_
    rw [decide_eq_true h]; rfl
  · refine (c_neg h).trans ?_
    rw [decide_eq_false h]
    have hlen := arrOf_len t f
    have hbd : ∀ x ∈ arrOf t f, IntKind.i64.wrap (x + f.2.2.2) = x + f.2.2.2 := by
      intro x hx
      obtain ⟨a1, a2, a3⟩ := arrOf_bd x hx
      unfold fateV at a3
      simp only [Bool.and_eq_true, inB_iff] at a3
      exact i64_in _ (by omega)
    generalize arrOf t f = l at hlen hbd
    have key : ∀ (r pre : List Int) (m : Nat) (k1 : zq4e β), l = pre ++ r → r.length < m →
        zq4o m k1 (l.length : Int) (pre.length : Int) f.1 f.2.1 f.2.2.1 f.2.2.2 (pre.map (· + f.2.2.2) ++ r) = k1 (l.map (· + f.2.2.2)) := by
      intro r
      induction r with
      | nil =>
        intro pre m k1 hp hm
        obtain ⟨m, rfl⟩ : ∃ m', m = m' + 1 := ⟨m - 1, by simp at hm; omega⟩
        rw [List.append_nil] at hp
        subst hp
        simp only [zq4p, zq4i]
        refine (c_neg (by omega)).trans ?_
        rw [List.append_nil]
      | cons x r ih =>
        intro pre m k1 hp hm
        obtain ⟨m, rfl⟩ : ∃ m', m = m' + 1 := ⟨m - 1, by simp at hm; omega⟩
        have hl : l.length = pre.length + (r.length + 1) := by rw [hp]; simp
        have ho : (pre.map (· + f.2.2.2) ++ x :: r).length = l.length := by simp [hl]
        have hg : (pre.map (· + f.2.2.2) ++ x :: r).getD pre.length (0 : Int) = x := by simp [List.getD]
        simp only [zq4p, zq4i, Int.toNat_natCast]
        refine (c_pos (by omega)).trans ?_
        refine (c_inb (by omega)).trans ?_
        refine (c_inb (by omega)).trans ?_
        rw [hg, hbd x (by rw [hp]; simp), i64_in ((pre.length : Int) + 1) (by omega)]
        have := ih (pre ++ [x]) m k1 (by rw [hp]; simp) (by simp at hm; omega)
        simp only [List.length_append, List.length_cons, List.length_nil, List.map_append, List.map_cons, List.map_nil, List.append_assoc, List.cons_append, List.nil_append] at this
        rw [← this]
        congr 1
        rw [List.set_append_right _ _ (by simp)]
        simp
    exact key l [] fuel _ rfl (lt_fuel (by omega))
/-! ### The reference's insertion -/
end
end
end Go.Lift

/- The run of a contact (chapter 27), code and reference; bounds; equal lists; the examples. -/
namespace Go.Lift
open Go.RowKit Go.IntWalk
noncomputable section
set_option linter.unusedVariables false
set_option linter.unusedSimpArgs false
set_option maxRecDepth 10000

abbrev RunS := List Int × List Int × Nat
def runStep (fates : List (List Fate)) (a : Att) (s : RunS) : RunS :=
  (s.1 ++ arrOf a.2.2 (fateOf (fates.getD a.1.toNat []) a.2.1), s.2.1 ++ recOf a.2.2 (fateOf (fates.getD a.1.toNat []) a.2.1), s.2.2 + 1)
def runStop (prev : Option Int) (a : Att) (s : RunS) : Bool := !decide (prev = some a.2.2) && s.2.1.any fun t => decide (t ≤ a.2.2)
def runGo (fates : List (List Fate)) : List Att → Option Int → RunS → RunS
  | [], _, s => s
  | a :: l, prev, s => cond (runStop prev a s) s (runGo fates l (some a.2.2) (runStep fates a s))
def runD (p : Prof) (start : Int) (fates : List (List Fate)) : RunS := runGo fates (planOf p start) none ([], [], 0)

theorem runStep_len (fates : List (List Fate)) (a : Att) (s : RunS) : (runStep fates a s).1.length ≤ s.1.length + 2 ∧ (runStep fates a s).2.1.length ≤ s.2.1.length + 2 := by
  unfold runStep
  have h1 := arrOf_len a.2.2 (fateOf (fates.getD a.1.toNat []) a.2.1)
  have h2 := recOf_len a.2.2 (fateOf (fates.getD a.1.toNat []) a.2.1)
  simp only [List.length_append]
  omega

abbrev lastAt (pre : List Att) : Option Int := pre.getLast?.map fun a => a.2.2

section
variable {β : Type}
theorem d_index2 {l : List Int} (hl : l.length ≤ 1000) (a : Att) (k1 : zqal β) (k2 : zqam β) (E : Option β) (hE : ∀ i : Nat, k1 (i : Int) a.1 a.2.1 a.2.2 = E) :
    zqay k1 k2 l (l.length : Int) 0 a.1 a.2.1 a.2.2 = cond (l.all fun t => !decide (t ≤ a.2.2)) (k2 a.1 a.2.1 a.2.2) E := by
  refine check_loop (fun m i => zqaw m k1 k2 l (l.length : Int) i a.1 a.2.1 a.2.2) (fun t => !decide (t ≤ a.2.2)) E (k2 a.1 a.2.1 a.2.2) 0 l fuel (lt_fuel (by omega)) (fun m i hi => ?_) (fun m => ?_)
  · simp only [zqax, zqaq, Int.toNat_natCast]
    refine (c_pos (by omega)).trans ?_
    refine (c_inb (by omega)).trans ?_
    unfold zq1m zq1j
    rw [i64_in ((i : Int) + 1) (by omega)]
    cases decide (l.getD i 0 ≤ a.2.2) with
    | true => exact hE i
    | false => rfl
  · simp only [zqax, zqaq]
    rw [c_neg (by omega)]
theorem d_contains2 {l : List Int} (hl : l.length ≤ 1000) (a : Att) (k : Bool → Att → Option β) : zqb7 l a k = k (l.any fun t => decide (t ≤ a.2.2)) a := by
  unfold zqb7 zqb4 zqb0 zqat
  refine (d_index2 hl a _ _ (k true a) fun i => ?_).trans ?_
  · show k (decide ((0 : Int) ≤ (i : Int))) a = k true a
    rw [decide_eq_true (by omega)]
  · have : (l.any fun t => decide (t ≤ a.2.2)) = !(l.all fun t => !decide (t ≤ a.2.2)) := by simp [List.any_eq_not_all_not]
    rw [this]
    cases (l.all fun t => !decide (t ≤ a.2.2)) <;> rfl

theorem d_run1 {fates : List (List Fate)} {f : List Fate} (hf : f.length ≤ 9223372036854775807) {sent t18 t19 : Int} {s : RunS} (hs1 : s.1.length ≤ 100) (hs2 : s.2.1.length ≤ 100) (hs : s.2.2 ≤ 100) (l : List Att) (a : Att) (k1 : zqbb β) :
    zqbz k1 fates (s.2.2 : Int) f t18 t19 s.1 s.2.1 l a.1 a.2.1 a.2.2 = k1 fates ((s.2.2 + 1 : Nat) : Int) t18 t19 (s.1 ++ arrOf a.2.2 (fateOf f a.2.1)) (s.2.1 ++ recOf a.2.2 (fateOf f a.2.1)) l := by
  unfold zqbz zqbo zqbn
  have h1 := arrOf_len a.2.2 (fateOf f a.2.1)
  have h2 := recOf_len a.2.2 (fateOf f a.2.1)
  refine (ch_fates hf _ _).trans ?_
  refine (ch_arrivals _ _ _).trans ?_
  refine (c_room (by omega)).trans ?_
  refine (ch_receipts _ _ _).trans ?_
  refine (c_room (by omega)).trans ?_
  rw [i64_in ((s.2.2 : Int) + 1) (by omega)]
  rfl
theorem getD_len {fates : List (List Fate)} (hf : ∀ f ∈ fates, f.length ≤ 9223372036854775807) (i : Nat) : (fates.getD i []).length ≤ 9223372036854775807 := by
  by_cases h : i < fates.length
  · have : fates.getD i [] = fates[i] := by simp [List.getD, h]
    rw [this]; exact hf _ (List.getElem_mem h)
  · have : fates.getD i [] = [] := by simp [List.getD, h]
    rw [this]; simp
theorem d_run2 {fates : List (List Fate)} (hf : ∀ f ∈ fates, f.length ≤ 9223372036854775807) {t18 t19 : Int} {s : RunS} (hs1 : s.1.length ≤ 100) (hs2 : s.2.1.length ≤ 100) (hs : s.2.2 ≤ 100) (l : List Att) (a : Att) (ha : 0 ≤ a.1) (k1 : zqbf β) :
    zqc1 k1 fates (s.2.2 : Int) t18 t19 s.1 s.2.1 l a.1 a.2.1 a.2.2 = k1 fates ((runStep fates a s).2.2 : Int) t18 t19 (runStep fates a s).1 (runStep fates a s).2.1 l := by
  unfold zqc1 zqbr zqbq
  by_cases h : a.1 < (fates.length : Int)
  · refine (c_pos h).trans ?_
    refine (c_inb (by omega)).trans ?_
    exact d_run1 (sent := 0) (getD_len hf _) hs1 hs2 hs l a _
  · refine (c_neg h).trans ?_
    have : fates.getD a.1.toNat [] = [] := by
      have : ¬ a.1.toNat < fates.length := by omega
      simp [List.getD, this]
    unfold runStep
    rw [this]
    exact d_run1 (sent := 0) (by simp) hs1 hs2 hs l a _

theorem d_run3 {fates : List (List Fate)} (hf : ∀ f ∈ fates, f.length ≤ 9223372036854775807) {l : List Att} (hl : l.length ≤ 24) (hok : ∀ a ∈ l, 0 ≤ a.1) :
    ∀ (r pre : List Att) (m : Nat) (s : RunS) (k1 : zqbj β), l = pre ++ r → r.length < m → s.1.length ≤ 2 * pre.length → s.2.1.length ≤ 2 * pre.length → s.2.2 ≤ pre.length →
      zqc3 m k1 fates (s.2.2 : Int) (l.length : Int) (pre.length : Int) s.1 s.2.1 l = k1 ((runGo fates r (lastAt pre) s).2.2 : Int) (runGo fates r (lastAt pre) s).1 (runGo fates r (lastAt pre) s).2.1 := by
  intro r
  induction r with
  | nil =>
    intro pre m s k1 hp hm _ _ _
    obtain ⟨m, rfl⟩ : ∃ m', m = m' + 1 := ⟨m - 1, by simp at hm; omega⟩
    rw [List.append_nil] at hp
    subst hp
    simp only [zqc4, zqbt]
    exact c_neg (by omega)
  | cons x r ih =>
    intro pre m s k1 hp hm h1 h2 h3
    obtain ⟨m, rfl⟩ : ∃ m', m = m' + 1 := ⟨m - 1, by simp at hm; omega⟩
    have hlen : l.length = pre.length + (r.length + 1) := by rw [hp]; simp
    have hg : l.getD pre.length ((0 : Int), ((0 : Int), (0 : Int))) = x := by rw [hp]; simp [List.getD]
    have hx0 : 0 ≤ x.1 := hok x (by rw [hp]; simp)
    have hnext : ∀ k1 : zqbj β, zqc3 m k1 fates ((runStep fates x s).2.2 : Int) (l.length : Int) ((pre.length : Int) + 1) (runStep fates x s).1 (runStep fates x s).2.1 l = k1 ((runGo fates r (some x.2.2) (runStep fates x s)).2.2 : Int) (runGo fates r (some x.2.2) (runStep fates x s)).1 (runGo fates r (some x.2.2) (runStep fates x s)).2.1 := by
      intro k1
      have g := runStep_len fates x s
      have := ih (pre ++ [x]) m (runStep fates x s) k1 (by rw [hp]; simp) (by simp at hm; omega) (by rw [List.length_append, List.length_singleton]; omega) (by rw [List.length_append, List.length_singleton]; omega) (by rw [List.length_append, List.length_singleton]; show s.2.2 + 1 ≤ _; omega)
      have e : lastAt (pre ++ [x]) = some x.2.2 := by simp [lastAt]
      rw [e, List.length_append, List.length_singleton] at this
      exact this
    simp only [zqc4, zqbt, Int.toNat_natCast, hg]
    refine (c_pos (by omega)).trans ?_
    refine (c_inb (by omega)).trans ?_
    have hstep : ∀ (b : Bool), cond b (k1 (s.2.2 : Int) s.1 s.2.1) (zqc1 (fun fates2 sent2 t182 t192 arrivals2 receipts2 l2 => zqc3 m k1 fates2 sent2 t182 (IntKind.i64.wrap (t192 + (1 : Int))) arrivals2 receipts2 l2) fates (s.2.2 : Int) (l.length : Int) (pre.length : Int) s.1 s.2.1 l x.1 x.2.1 x.2.2) =
        k1 ((cond b s (runGo fates r (some x.2.2) (runStep fates x s))).2.2 : Int) (cond b s (runGo fates r (some x.2.2) (runStep fates x s))).1 (cond b s (runGo fates r (some x.2.2) (runStep fates x s))).2.1 := by
      intro b
      cases b with
      | true => rfl
      | false =>
        refine (d_run2 hf (by omega) (by omega) (by omega) l x hx0 _).trans ?_
        rw [i64_in ((pre.length : Int) + 1) (by omega)]
        exact hnext k1
    rcases List.eq_nil_or_concat pre with rfl | ⟨pre', y, rfl⟩
    · refine (c_pos (by simp)).trans ?_
      refine (d_contains2 (by omega) x _).trans ?_
      refine (hstep _).trans ?_
      rfl
    · rw [List.concat_eq_append] at *
      have hy : l.getD pre'.length ((0 : Int), ((0 : Int), (0 : Int))) = y := by rw [hp]; simp [List.getD]
      have hpl : (pre' ++ [y]).length = pre'.length + 1 := by simp
      refine (c_neg (by omega)).trans ?_
      rw [i64_in (((pre' ++ [y]).length : Int) - 1) (by omega), show (((pre' ++ [y]).length : Int) - 1) = (pre'.length : Int) by omega]
      refine (c_inb (by omega)).trans ?_
      simp only [Int.toNat_natCast, hy]
      have hlast : lastAt (pre' ++ [y]) = some y.2.2 := by simp [lastAt]
      by_cases he : y.2.2 = x.2.2
      · refine (c_npos he).trans ?_
        refine (hstep false).trans ?_
        have : runGo fates (x :: r) (lastAt (pre' ++ [y])) s = runGo fates r (some x.2.2) (runStep fates x s) := by
          rw [runGo, runStop, hlast, he]
          simp
        rw [this]
        rfl
      · refine (c_nneg he).trans ?_
        refine (d_contains2 (by omega) x _).trans ?_
        refine (hstep _).trans ?_
        have : runGo fates (x :: r) (lastAt (pre' ++ [y])) s = cond (s.2.1.any fun t => decide (t ≤ x.2.2)) s (runGo fates r (some x.2.2) (runStep fates x s)) := by
          rw [runGo, runStop, hlast]
          rw [decide_eq_false (show ¬ (some y.2.2 : Option Int) = some x.2.2 by simpa using he)]
          rfl
        rw [this]

theorem runGo_len (fates : List (List Fate)) : ∀ (l : List Att) (prev : Option Int) (s : RunS), (runGo fates l prev s).1.length ≤ s.1.length + 2 * l.length ∧ (runGo fates l prev s).2.1.length ≤ s.2.1.length + 2 * l.length
  | [], prev, s => by simp [runGo]
  | a :: l, prev, s => by
    unfold runGo
    have h1 := runGo_len fates l (some a.2.2) (runStep fates a s)
    have h2 := runStep_len fates a s
    simp only [List.length_cons]
    cases runStop prev a s with
    | true => simp only [cond_true]; omega
    | false => simp only [cond_false]; omega

theorem d_run (p : Prof) (start : Int) {fates : List (List Fate)} (hf : ∀ f ∈ fates, f.length ≤ 9223372036854775807) (k : Int → List Int → List Int → Option β) :
    zqc7 p start fates k = k ((runD p start fates).2.2 : Int) (sortInts (runD p start fates).1) (sortInts (runD p start fates).2.1) := by
  unfold zqc7 zqbw
  refine (d_plan _ _ _).trans ?_
  have hl := planOf_len p start
  have g := runGo_len fates (planOf p start) none ([], [], 0)
  refine (d_run3 hf hl (fun a ha => (planOf_ok a ha).1.c1) (planOf p start) [] fuel ([], [], 0) _ rfl (lt_fuel (by omega)) (by simp) (by simp) (by simp)).trans ?_
  simp only [List.length_nil] at g
  refine (c_pos (show _ < 4611686018427387904 by show (runGo fates (planOf p start) none ([], [], 0)).1.length < _; omega)).trans ?_
  exact c_pos (show _ < 4611686018427387904 by show (runGo fates (planOf p start) none ([], [], 0)).2.1.length < _; omega)

/-! ### The reference's run -/
/-! ### Equal lists -/
/-! ### The examples -/
theorem sane27 (k : Bool → Option β) : zqce k = k true := by
  unfold zqce zqcb
  refine (d_plan _ _ _).trans ?_
  refine (d_run _ _ (by simp) _).trans ?_
  have e1 : planOf (0, [(0, 9, 2, 60), (0, 9, 2, 90)]) 0 = [(0, 0, 0), (1, 0, 0), (0, 1, 60), (1, 1, 90)] := by decide +kernel
  have e2 : runD (0, [(0, 9, 2, 60), (0, 9, 2, 90)]) 0 [[(false, 30, 0, 0)]] = ([30], [30], 2) := by
    unfold runD
    rw [e1]
    decide +kernel
  have e3 : sortInts [30] = [30] := by simp [sortInts, List.mergeSort]
  rw [e1, e2]
  simp only [e3]
  rfl
end
end
end Go.Lift

/- The dice in plain Lean. -/
namespace Go.Lift
open Go.RowKit Go.IntWalk
noncomputable section
set_option linter.unusedVariables false
set_option linter.unusedSimpArgs false

abbrev Dice := List Int × Int
def DiceOk (d : Dice) : Prop := 0 ≤ d.2 ∧ d.2 ≤ d.1.length ∧ d.1.length ≤ 500

theorem light_eq {β : Type} (l : List Int) (k : Bool → Option β) : zq9 l k = k (decide ((l.length : Int) ≤ 500)) := by
  simp only [zq9, zq6]
theorem roll_eq {β : Type} (l : List Int) (k : Dice → Option β) : zqg l k = k (l, 0) := by
  simp only [zqg, zqd]
theorem roll_ok {l : List Int} (h : (l.length : Int) ≤ 500) : DiceOk (l, 0) := ⟨by simp, by simp, by show l.length ≤ 500; omega⟩

theorem next_ok {n : Int} {d : Dice} (hd : DiceOk d) (hn : 1 ≤ n ∧ n ≤ 4611686018427387904) :
    ∃ x d', 0 ≤ x ∧ x < n ∧ DiceOk d' ∧ ∀ {β : Type} (k : Int → Dice → Option β), zqn n d k = k x d' := by
  obtain ⟨h1, h2, h3⟩ := hd
  by_cases ha : (d.1.length : Int) ≤ d.2
  · exact ⟨0, d, by omega, by omega, ⟨h1, h2, h3⟩, fun k => by simp (disch := omega) only [zqn, zqk, c_pos]⟩
  · generalize hv : List.getD d.1 (Int.toNat d.2) (0 : Int) = v
    have hm1 := Int.tmod_lt_of_pos v (show 0 < n by omega)
    have hm2 : -n < Int.tmod v n := by
      have h5 := Int.tmod_lt_of_pos (-v) (show 0 < n by omega)
      rw [Int.neg_tmod] at h5
      omega
    have hd' : DiceOk (d.1, d.2 + 1) := ⟨by show (0 : Int) ≤ d.2 + 1; omega, by show d.2 + 1 ≤ (d.1.length : Int); omega, h3⟩
    by_cases hc : Int.tmod v n < 0
    · refine ⟨Int.tmod v n + n, (d.1, d.2 + 1), by omega, by omega, hd', fun k => ?_⟩
      simp (disch := omega) only [zqn, zqk, hv, c_pos, c_neg, c_inb, c_nneg, i64_in]
    · refine ⟨Int.tmod v n, (d.1, d.2 + 1), by omega, by omega, hd', fun k => ?_⟩
      simp (disch := omega) only [zqn, zqk, hv, c_pos, c_neg, c_inb, c_nneg, i64_in]

end
end Go.Lift

/- The dice in plain Lean: one of several numbers. -/
namespace Go.Lift
open Go.RowKit Go.IntWalk
noncomputable section
set_option linter.unusedVariables false
set_option linter.unusedSimpArgs false

theorem one_ok {l : List Int} {d : Dice} (hl : 0 < l.length) (hlen : l.length ≤ 1000000) (hd : DiceOk d) :
    ∃ x d', x ∈ l ∧ DiceOk d' ∧ ∀ {β : Type} (k : Int → Dice → Option β), zqu l d k = k x d' := by
  obtain ⟨x, d', h1, h2, hd', hf⟩ := next_ok (n := (l.length : Int)) hd (by omega)
  have hxn : x.toNat < l.length := by omega
  refine ⟨l.getD x.toNat 0, d', ?_, hd', fun k => ?_⟩
  · simp [List.getD, hxn]
  · simp (disch := omega) only [zqu, zqr, hf, c_inb]
end
end Go.Lift

/- Drawn persons, fates and contacts (chapter 27). -/
namespace Go.Lift
open Go.RowKit Go.IntWalk
noncomputable section
set_option linter.unusedVariables false
set_option linter.unusedSimpArgs false
set_option maxRecDepth 10000

theorem channel_ok {d : Dice} (hd : DiceOk d) : ∃ c d', chanV c = true ∧ DiceOk d' ∧ ∀ {β : Type} (k : Chan → Dice → Option β), zq11 d k = k c d' := by
  obtain ⟨x1, d1, a1, a2, hd1, f1⟩ := next_ok (n := 3) hd (by omega)
  obtain ⟨x2, d2, m2, hd2, f2⟩ := one_ok (l := [(0 : Int), 30, 60, 3600]) (by simp) (by simp) hd1
  obtain ⟨x3, d3, b1, b2, hd3, f3⟩ := next_ok (n := 4) hd2 (by omega)
  obtain ⟨x4, d4, m4, hd4, f4⟩ := one_ok (l := [(1 : Int), 30, 60, 120]) (by simp) (by simp) hd3
  simp only [List.mem_cons, List.not_mem_nil, or_false] at m2 m4
  refine ⟨(x1, x2, 1 + x3, x4), d4, ?_, hd4, fun k => ?_⟩
  · unfold chanV
    simp only [Bool.and_eq_true, inB_iff]
    omega
  · unfold zq11 zqy
    refine (f1 _).trans ?_
    refine (f2 _).trans ?_
    refine (f3 _).trans ?_
    refine (f4 _).trans ?_
    rw [i64_in (1 + x3) (by omega)]

theorem person_ok {who : Int} (hw : 0 ≤ who ∧ who ≤ 31) {d : Dice} (hd : DiceOk d) :
    ∃ p d', profV p = true ∧ p.1 = who ∧ p.2.length ≤ 3 ∧ DiceOk d' ∧ ∀ {β : Type} (k : Prof → Dice → Option β), zq3e who d k = k p d' := by
  obtain ⟨x1, d1, a1, a2, hd1, f1⟩ := next_ok (n := 4) hd (by omega)
  have key : ∀ (n : Nat) (m : Nat) (d : Dice) (l : List Chan), n < m → n ≤ 3 → l.length + n ≤ 3 → (∀ c ∈ l, chanV c = true) → DiceOk d → ∃ l' d', l'.length ≤ 3 ∧ (∀ c ∈ l', chanV c = true) ∧ DiceOk d' ∧
      ∀ {β : Type} (k1 : zq30 β), zq3a m k1 (n : Int) d.1 d.2 0 who [] l = k1 d'.1 d'.2 0 who [] l' := by
    intro n
    induction n with
    | zero =>
      intro m d l hm hn hl hv hd
      obtain ⟨m, rfl⟩ : ∃ m', m = m' + 1 := ⟨m - 1, by omega⟩
      refine ⟨l, d, by omega, hv, hd, fun k1 => ?_⟩
      simp only [zq3b, zq34]
      exact c_neg (by omega)
    | succ n ih =>
      intro m d l hm hn hl hv hd
      obtain ⟨m, rfl⟩ : ∃ m', m = m' + 1 := ⟨m - 1, by omega⟩
      obtain ⟨c, d1, hc, hd1, fc⟩ := channel_ok hd
      obtain ⟨l', d', h1, h2, h3, h4⟩ := ih m d1 (l ++ [c]) (by omega) (by omega) (by simp; omega) (fun x hx => by
        rcases List.mem_append.1 hx with hx | hx
        · exact hv x hx
        · rw [List.mem_singleton.1 hx]; exact hc) hd1
      refine ⟨l', d', h1, h2, h3, fun k1 => ?_⟩
      simp only [zq3b, zq34]
      refine (c_pos (by omega)).trans ?_
      refine (fc _).trans ?_
      refine (c_room (by simp only [List.length_cons, List.length_nil]; omega)).trans ?_
      rw [show IntKind.i64.wrap (((n + 1 : Nat) : Int) - 1) = (n : Int) by rw [i64_in _ (by omega)]; omega]
      exact h4 k1
  obtain ⟨l', d', h1, h2, h3, h4⟩ := key x1.toNat fuel d1 [] (lt_fuel (by omega)) (by omega) (by simp; omega) (by simp) hd1
  refine ⟨(who, l'), d', ?_, rfl, h1, h3, fun k => ?_⟩
  · unfold profV
    simp only [Bool.and_eq_true, inB_iff, decide_eq_true_eq, List.all_eq_true]
    exact ⟨hw, by omega, h2⟩
  · unfold zq3e zq37
    refine (f1 _).trans ?_
    rw [show ((x1.toNat : Nat) : Int) = x1 by omega] at h4
    exact h4 _

/-! ### Contacts -/
end
end Go.Lift

/- Bounds of profiles (chapter 27), drawn fates. -/
namespace Go.Lift
open Go.RowKit Go.IntWalk
noncomputable section
set_option linter.unusedVariables false
set_option linter.unusedSimpArgs false
set_option maxRecDepth 10000

def worstC (c : Chan) : Int := cond (chanV c) ((c.2.2.1 - 1) * c.2.2.2 + c.2.1) 0
def maxW (m : Int) (c : Chan) : Int := if worstC c > m then worstC c else m
def boundD (p : Prof) : Int := cond (profV p) (p.2.foldl maxW 0) 0

theorem worst_bd {c : Chan} (h : chanV c = true) : 0 ≤ (c.2.2.1 - 1) * c.2.2.2 ∧ (c.2.2.1 - 1) * c.2.2.2 ≤ 18000 := by
  have q := chanV_ok h
  have q1 := q.t1; have q2 := q.t2; have q3 := q.p1; have q4 := q.p2
  exact ⟨Int.mul_nonneg (by omega) (by omega), by
    have : (c.2.2.1 - 1) * c.2.2.2 ≤ 5 * 3600 := Int.mul_le_mul (by omega) (by omega) (by omega) (by omega)
    omega⟩
theorem worstC_bd (c : Chan) : 0 ≤ worstC c ∧ worstC c ≤ 21600 := by
  unfold worstC
  cases h : chanV c with
  | false => simp
  | true =>
    have q := chanV_ok h
    have q1 := q.l1; have q2 := q.l2
    have := worst_bd h
    simp only [cond_true]
    omega

section
variable {β : Type}
theorem ch_worst (c : Chan) (k : Int → Option β) : zq6m c k = k (worstC c) := by
  unfold zq6m zq6j worstC
  refine (ch_valid _ _).trans ?_
  cases h : chanV c with
  | false => rfl
  | true =>
    have q := chanV_ok h
    have q1 := q.l1; have q2 := q.l2; have q3 := q.t1; have q4 := q.t2
    have := worst_bd h
    refine (c_ff' rfl).trans ?_
    rw [i64_in (c.2.2.1 - 1) (by omega), i64_in ((c.2.2.1 - 1) * c.2.2.2) (by omega), i64_in ((c.2.2.1 - 1) * c.2.2.2 + c.2.1) (by omega)]
    rfl
theorem d_bound (p : Prof) (hl : p.2.length ≤ 1000) (k : Int → Option β) : zq9c p k = k (boundD p) := by
  unfold zq9c zq95 boundD
  refine (fold_loop (fun m i most => zq98 m (fun most => k most) most p.2 (p.2.length : Int) i p.1 p.2) (fun m c => cond (profV p) (maxW m c) m) (fun m => k m) ch0 p.2 0 fuel (lt_fuel (by omega)) (fun m i s hi => ?_) (fun m s => ?_)).trans ?_
  · simp only [zq99, zq92, Int.toNat_natCast]
    refine (c_pos (by omega)).trans ?_
    refine (c_inb (by omega)).trans ?_
    refine (d_valid p _).trans ?_
    rw [i64_in ((i : Int) + 1) (by omega)]
    cases profV p with
    | false => rfl
    | true => exact ch_worst _ _
  · simp only [zq99, zq92]
    exact c_neg (by omega)
  · cases profV p with
    | true => rfl
    | false =>
      have : ∀ (l : List Chan) (m : Int), l.foldl (fun m c => cond false (maxW m c) m) m = m := by
        intro l
        induction l with
        | nil => intro m; rfl
        | cons x l ih => intro m; exact ih m
      exact k_eq (this _ _)
end

/-! ### Drawn fates -/
theorem fate_ok {d : Dice} (hd : DiceOk d) : ∃ f d', DiceOk d' ∧ ∀ {β : Type} (k : Fate → Dice → Option β), zq1f d k = k f d' := by
  obtain ⟨x1, d1, a1, a2, hd1, f1⟩ := next_ok (n := 3) hd (by omega)
  obtain ⟨x2, d2, m2, hd2, f2⟩ := one_ok (l := [(0 : Int), 5, 30, 31, 200, 86400, 86401]) (by simp) (by simp) hd1
  obtain ⟨x3, d3, m3, hd3, f3⟩ := one_ok (l := [(0 : Int), 0, 7, 100, -1]) (by simp) (by simp) hd2
  obtain ⟨x4, d4, m4, hd4, f4⟩ := one_ok (l := [(-1 : Int), 0, 10, 90, -2]) (by simp) (by simp) hd3
  refine ⟨(decide (x1 = 0), x2, x3, x4), d4, hd4, fun k => ?_⟩
  unfold zq1f zq1c
  refine (f1 _).trans ?_
  refine (f2 _).trans ?_
  refine (f3 _).trans ?_
  exact f4 _
theorem fates_ok {d : Dice} (hd : DiceOk d) : ∃ l d', l.length ≤ 4 ∧ DiceOk d' ∧ ∀ {β : Type} (k : Dice → List Fate → Option β), zq3w d k = k d' l := by
  obtain ⟨x1, d1, a1, a2, hd1, f1⟩ := next_ok (n := 5) hd (by omega)
  have key : ∀ (n : Nat) (m : Nat) (d : Dice) (l : List Fate), n < m → l.length + n ≤ 4 → DiceOk d → ∃ l' d', l'.length ≤ 4 ∧ DiceOk d' ∧
      ∀ {β : Type} (k1 : zq3i β), zq3s m k1 (n : Int) d.1 d.2 l = k1 d'.1 d'.2 l' := by
    intro n
    induction n with
    | zero =>
      intro m d l hm hl hd
      obtain ⟨m, rfl⟩ : ∃ m', m = m' + 1 := ⟨m - 1, by omega⟩
      refine ⟨l, d, by omega, hd, fun k1 => ?_⟩
      simp only [zq3t, zq3m]
      exact c_neg (by omega)
    | succ n ih =>
      intro m d l hm hl hd
      obtain ⟨m, rfl⟩ : ∃ m', m = m' + 1 := ⟨m - 1, by omega⟩
      obtain ⟨c, d1, hd1, fc⟩ := fate_ok hd
      obtain ⟨l', d', h1, h3, h4⟩ := ih m d1 (l ++ [c]) (by omega) (by simp; omega) hd1
      refine ⟨l', d', h1, h3, fun k1 => ?_⟩
      simp only [zq3t, zq3m]
      refine (c_pos (by omega)).trans ?_
      refine (fc _).trans ?_
      refine (c_room (by simp only [List.length_cons, List.length_nil]; omega)).trans ?_
      rw [show IntKind.i64.wrap (((n + 1 : Nat) : Int) - 1) = (n : Int) by rw [i64_in _ (by omega)]; omega]
      exact h4 k1
  obtain ⟨l', d', h1, h3, h4⟩ := key x1.toNat fuel d1 [] (lt_fuel (by omega)) (by simp; omega) hd1
  refine ⟨l', d', h1, h3, fun k => ?_⟩
  unfold zq3w zq3p
  refine (f1 _).trans ?_
  rw [show ((x1.toNat : Nat) : Int) = x1 by omega] at h4
  exact h4 _
end
end Go.Lift

/- DeliveryRuns: what becomes of a contact, for any fates: code and reference agree. -/
namespace Go.Lift
open Go.RowKit Go.IntWalk
noncomputable section
set_option linter.unusedVariables false
set_option linter.unusedSimpArgs false
set_option maxRecDepth 10000

abbrev FatesOk (fates : List (List Fate)) : Prop := ∀ f ∈ fates, f.length ≤ 9223372036854775807

end
end Go.Lift

/- DeliveryReaches: a channel that works reaches the person within the profile's bound. -/
namespace Go.Lift
open Go.RowKit Go.IntWalk
noncomputable section
set_option linter.unusedVariables false
set_option linter.unusedSimpArgs false
set_option maxRecDepth 10000

def arrA (fates : List (List Fate)) (a : Att) : List Int := arrOf a.2.2 (fateOf (fates.getD a.1.toNat []) a.2.1)
def recA (fates : List (List Fate)) (a : Att) : List Int := recOf a.2.2 (fateOf (fates.getD a.1.toNat []) a.2.1)

/-- A run makes the first attempts, up to one before which a receipt had come. -/
theorem runGo_spec (fates : List (List Fate)) : ∀ (l : List Att) (prev : Option Int) (s : RunS), ∃ j, j ≤ l.length ∧
    runGo fates l prev s = (s.1 ++ (l.take j).flatMap (arrA fates), s.2.1 ++ (l.take j).flatMap (recA fates), s.2.2 + j) ∧
    (∀ h : j < l.length, ∃ t ∈ s.2.1 ++ (l.take j).flatMap (recA fates), t ≤ (l[j]).2.2)
  | [], prev, s => ⟨0, Nat.le_refl _, by simp [runGo], fun h => absurd h (Nat.not_lt_zero _)⟩
  | a :: l, prev, s => by
    unfold runGo
    cases hs : runStop prev a s with
    | true =>
      refine ⟨0, Nat.zero_le _, by simp, fun h => ?_⟩
      unfold runStop at hs
      simp only [Bool.and_eq_true, List.any_eq_true, decide_eq_true_eq] at hs
      obtain ⟨t, h1, h2⟩ := hs.2
      exact ⟨t, by simpa using h1, by simpa using h2⟩
    | false =>
      obtain ⟨j, h1, h2, h3⟩ := runGo_spec fates l (some a.2.2) (runStep fates a s)
      refine ⟨j + 1, by simp; omega, ?_, fun h => ?_⟩
      · simp only [cond_false]
        rw [h2]
        unfold runStep arrA recA
        simp only [List.take_succ_cons, List.flatMap_cons, List.append_assoc, Prod.mk.injEq, true_and]
        omega
      · have h' : j < l.length := by simp at h; omega
        obtain ⟨t, g1, g2⟩ := h3 h'
        refine ⟨t, ?_, by simpa using g2⟩
        simp only [List.take_succ_cons, List.flatMap_cons]
        unfold runStep at g1
        simpa [recA, List.append_assoc] using g1

/-- Each receipt comes at or behind an arrival. -/
theorem rec_arr {t : Int} {f : Fate} : ∀ x ∈ recOf t f, ∃ y ∈ arrOf t f, y ≤ x := by
  intro x hx
  unfold recOf at hx
  by_cases h : f.2.2.2 = -1
  · rw [decide_eq_true h] at hx; simp at hx
  · rw [decide_eq_false h] at hx
    simp only [cond_false, List.mem_map] at hx
    obtain ⟨y, hy, rfl⟩ := hx
    obtain ⟨b1, b2, b3⟩ := arrOf_bd y hy
    unfold fateV at b3
    simp only [Bool.and_eq_true, inB_iff] at b3
    exact ⟨y, hy, by omega⟩

theorem recs_arrs {fates : List (List Fate)} {l : List Att} : ∀ x ∈ l.flatMap (recA fates), ∃ y ∈ l.flatMap (arrA fates), y ≤ x := by
  intro x hx
  obtain ⟨a, ha, hx⟩ := List.mem_flatMap.1 hx
  obtain ⟨y, hy, hle⟩ := rec_arr x hx
  exact ⟨y, List.mem_flatMap.2 ⟨a, ha, hy⟩, hle⟩

/-- A fate that arrives in time. -/
def goodF (c : Chan) (f : Fate) : Bool := !f.1 && decide (f.2.1 ≤ c.2.1)
def worksC (c : Chan) (l : List Fate) : Bool := chanV c && (List.range c.2.2.1.toNat).any fun (i : Nat) => goodF c (fateOf l i)

section
variable {β : Type}
theorem r26_works (c : Chan) (l : List Fate) (k : Bool → Option β) : zq5w c l k = k (worksC c l) := by
  unfold zq5w zq5p worksC
  refine (r26_valid _ _).trans ?_
  cases hv : chanV c with
  | false => rfl
  | true =>
    have q := chanV_ok hv
    have q1 := q.t1; have q2 := q.t2
    refine (c_ff' rfl).trans ?_
    rw [Bool.true_and]
    have key : ∀ (j i : Nat) (m : Nat) (k1 : zq5h β) (k2 : zq5i β), i + j = c.2.2.1.toNat → j < m → zq5s m k1 k2 l (i : Int) c.1 c.2.1 c.2.2.1 c.2.2.2 = cond ((List.range' i j).any fun (i : Nat) => goodF c (fateOf l i)) (k1 true) (k2 ()) := by
      intro j
      induction j with
      | zero =>
        intro i m k1 k2 hi hm
        obtain ⟨m, rfl⟩ : ∃ m', m = m' + 1 := ⟨m - 1, by omega⟩
        simp only [zq5t, zq5m]
        exact c_neg (by omega)
      | succ j ih =>
        intro i m k1 k2 hi hm
        obtain ⟨m, rfl⟩ : ∃ m', m = m' + 1 := ⟨m - 1, by omega⟩
        simp only [zq5t, zq5m]
        refine (c_pos (by omega)).trans ?_
        refine (r26_fates _ _).trans ?_
        rw [i64_in ((i : Int) + 1) (by omega), List.range'_succ, List.any_cons]
        have hn := ih (i + 1) m k1 k2 (by omega) (by omega)
        unfold goodF at hn ⊢
        cases h1 : (fateOf l (i : Int)).1 with
        | true => exact hn
        | false =>
          refine (c_tt' rfl).trans ?_
          by_cases h2 : (fateOf l (i : Int)).2.1 ≤ c.2.1
          · refine (c_pos h2).trans ?_
            rw [decide_eq_true h2]; rfl
          · refine (c_neg h2).trans ?_
            rw [decide_eq_false h2]
            exact hn
    refine (key c.2.2.1.toNat 0 fuel _ _ (by omega) (lt_fuel (by omega))).trans ?_
    rw [List.range_eq_range']
    cases (List.range' 0 c.2.2.1.toNat).any fun (i : Nat) => goodF c (fateOf l i) <;> rfl
end

/-- A good fate's arrival. -/
theorem good_arr {c : Chan} {f : Fate} {t : Int} (hg : goodF c f = true) (hv : fateV f = true) (ht : 0 ≤ t ∧ t ≤ 8589956192) : ∃ y ∈ arrOf t f, y ≤ t + c.2.1 := by
  unfold goodF at hg
  simp only [Bool.and_eq_true, Bool.not_eq_true', decide_eq_true_eq] at hg
  unfold arrOf
  rw [inB_iff.2 ht, hv, hg.1]
  simp only [cond_true, cond_false]
  refine ⟨t + f.2.1, ?_, by omega⟩
  cases decide (f.2.2.1 = 0) <;> simp
theorem fateOf_good {c : Chan} {l : List Fate} {i : Int} (h : goodF c (fateOf l i) = true) : fateV (fateOf l i) = true := by
  unfold fateOf at h ⊢
  cases h1 : inB i 0 ((l.length : Int) - 1) with
  | false => rw [h1] at h; simp [goodF, lostF] at h
  | true =>
    rw [h1] at h
    simp only [cond_true] at h ⊢
    cases h2 : fateV (l.getD i.toNat (false, 0, 0, 0)) with
    | false => rw [h2] at h; simp [goodF, lostF] at h
    | true => simp only [cond_true]; exact h2

theorem maxW_ge : ∀ (l : List Chan) (m : Int), m ≤ l.foldl maxW m ∧ ∀ c ∈ l, worstC c ≤ l.foldl maxW m
  | [], m => by simp
  | x :: l, m => by
    obtain ⟨h1, h2⟩ := maxW_ge l (maxW m x)
    have h3 : m ≤ maxW m x ∧ worstC x ≤ maxW m x := by unfold maxW; split <;> omega
    simp only [List.foldl_cons]
    refine ⟨by omega, fun c hc => ?_⟩
    rcases List.mem_cons.1 hc with rfl | hc
    · omega
    · exact h2 c hc
theorem maxW_bd : ∀ (l : List Chan) (m : Int), 0 ≤ m ∧ m ≤ 21600 → 0 ≤ l.foldl maxW m ∧ l.foldl maxW m ≤ 21600
  | [], m, h => h
  | x :: l, m, h => maxW_bd l (maxW m x) (by have := worstC_bd x; unfold maxW; split <;> omega)
theorem boundD_bd (p : Prof) : 0 ≤ boundD p ∧ boundD p ≤ 21600 := by
  unfold boundD
  cases profV p with
  | false => simp
  | true => exact maxW_bd _ _ (by omega)

theorem mem_raw {start : Int} : ∀ {l : List Chan} {c j : Nat} {i : Nat}, j < l.length → i < (l.getD j ch0).2.2.1.toNat → (((c + j : Nat) : Int), (i : Int), start + (i : Int) * (l.getD j ch0).2.2.2) ∈ rawFrom start c l
  | ch :: l, c, 0, i, _, hi => by
    simp only [rawFrom, List.mem_append]
    refine .inl ?_
    unfold triesOf
    exact List.mem_map.2 ⟨i, List.mem_range.2 hi, rfl⟩
  | ch :: l, c, j + 1, i, hj, hi => by
    simp only [rawFrom, List.mem_append]
    refine .inr ?_
    have := mem_raw (start := start) (l := l) (c := c + 1) (j := j) (i := i) (by simp at hj; omega) hi
    rw [show c + (j + 1) = c + 1 + j by omega]
    exact this

/-- The great law: a channel that works reaches. -/
theorem works_reach {p : Prof} (hp : profV p = true) {start : Int} (hs : 0 ≤ start ∧ start ≤ 8589934592) {fates : List (List Fate)} {j : Nat} (hj : j < p.2.length) (hw : worksC (p.2.getD j ch0) (fates.getD j []) = true) :
    ∃ y ∈ (runD p start fates).1, y ≤ start + boundD p := by
  have hpl : planOf p start = sortA (rawFrom start 0 p.2) := by unfold planOf; rw [hp, inB_iff.2 hs]; rfl
  unfold worksC at hw
  simp only [Bool.and_eq_true, List.any_eq_true] at hw
  obtain ⟨hv, i, hi, hg⟩ := hw
  have hi := List.mem_range.1 hi
  have q := chanV_ok hv
  have q1 := q.t1; have q2 := q.t2; have q3 := q.p1; have q4 := q.p2; have q5 := q.l1
  have hmem : ((j : Int), (i : Int), start + (i : Int) * (p.2.getD j ch0).2.2.2) ∈ planOf p start := by
    rw [hpl]
    refine (sortA_perm _).mem_iff.2 ?_
    have := mem_raw (start := start) (l := p.2) (c := 0) hj hi
    rw [Nat.zero_add] at this
    exact this
  have hworst : start + (i : Int) * (p.2.getD j ch0).2.2.2 + (p.2.getD j ch0).2.1 ≤ start + boundD p := by
    have h1 : worstC (p.2.getD j ch0) ≤ boundD p := by
      unfold boundD
      rw [hp]
      have : p.2.getD j ch0 = p.2[j] := by simp [List.getD, hj]
      rw [this]
      exact (maxW_ge p.2 0).2 _ (List.getElem_mem hj)
    have h2 : worstC (p.2.getD j ch0) = ((p.2.getD j ch0).2.2.1 - 1) * (p.2.getD j ch0).2.2.2 + (p.2.getD j ch0).2.1 := by unfold worstC; rw [hv]; rfl
    have h3 : (i : Int) * (p.2.getD j ch0).2.2.2 ≤ ((p.2.getD j ch0).2.2.1 - 1) * (p.2.getD j ch0).2.2.2 := Int.mul_le_mul_of_nonneg_right (by omega) (by omega)
    omega
  have hat := (planOf_ok _ hmem).1
  have hs1 : start ≤ start + (i : Int) * (p.2.getD j ch0).2.2.2 := hat.s1
  have hs2 : start + (i : Int) * (p.2.getD j ch0).2.2.2 ≤ start + 21600 := hat.s2
  obtain ⟨n, hn1, hn2, hn3⟩ := runGo_spec fates (planOf p start) none ([], [], 0)
  have hrun : runD p start fates = ([] ++ ((planOf p start).take n).flatMap (arrA fates), [] ++ ((planOf p start).take n).flatMap (recA fates), 0 + n) := hn2
  rw [hrun]
  simp only [List.nil_append] at hn3 ⊢
  by_cases hin : ((j : Int), (i : Int), start + (i : Int) * (p.2.getD j ch0).2.2.2) ∈ (planOf p start).take n
  · obtain ⟨y, hy, hle⟩ := good_arr (t := start + (i : Int) * (p.2.getD j ch0).2.2.2) hg (fateOf_good hg) (by omega)
    refine ⟨y, List.mem_flatMap.2 ⟨_, hin, ?_⟩, by omega⟩
    unfold arrA
    simpa using hy
  · obtain ⟨m, hm, hme⟩ := List.getElem_of_mem hmem
    have hnm : n ≤ m := by
      rcases Nat.lt_or_ge m n with h | h
      · exfalso
        refine hin ?_
        rw [← hme]
        have : m < ((planOf p start).take n).length := by rw [List.length_take]; omega
        have e := List.getElem_mem this
        rwa [List.getElem_take] at e
      · exact h
    obtain ⟨t, ht1, ht2⟩ := hn3 (by omega)
    obtain ⟨y, hy, hle⟩ := recs_arrs t ht1
    refine ⟨y, hy, ?_⟩
    have hasc := planOf_asc p start
    have : (planOf p start)[n].2.2 ≤ (planOf p start)[m].2.2 := by
      rcases Nat.lt_or_ge n m with h | h
      · exact attLe_at (List.pairwise_iff_getElem.1 hasc n m (by omega) hm h)
      · have : n = m := by omega
        subst this; exact Int.le_refl _
    rw [hme] at this
    have : (planOf p start)[n].2.2 ≤ start + (i : Int) * (p.2.getD j ch0).2.2.2 := this
    omega

/-! ### The law's loops -/
theorem sI_head {l : List Int} {y : Int} (hy : y ∈ l) : 0 < (sortInts l).length ∧ (sortInts l).getD 0 0 ≤ y := by
  have hs := sI_sorted l
  have hm := (sI_perm l).mem_iff.2 hy
  cases hq : sortInts l with
  | nil => rw [hq] at hm; cases hm
  | cons x r =>
    rw [hq] at hm hs
    refine ⟨by simp, ?_⟩
    show x ≤ y
    rcases List.mem_cons.1 hm with rfl | h
    · exact Int.le_refl _
    · exact (List.pairwise_cons.1 hs).1 y h
theorem sI_head_mem {l : List Int} (h : 0 < (sortInts l).length) : (sortInts l).getD 0 0 ∈ l := by
  have : (sortInts l).getD 0 0 = (sortInts l)[0] := by simp only [List.getD, List.getElem?_eq_getElem h]; rfl
  rw [this]
  exact (sI_perm l).mem_iff.1 (List.getElem_mem h)

theorem reach1 {start : Int} {p : Prof} (hp : p.2.length ≤ 4) {d : Dice} (hd : DiceOk d) :
    ∃ w l, FatesOk l ∧ (w = true → ∃ j, j < p.2.length ∧ worksC (p.2.getD j ch0) (l.getD j []) = true) ∧ ∀ {β : Type} (k1 : zqci β), zqd9 k1 start false p.2 (p.2.length : Int) 0 d.1 d.2 p.1 p.2 [] = k1 start w p.1 p.2 l := by
  have key : ∀ (j i : Nat) (m : Nat) (d : Dice) (w : Bool) (l : List (List Fate)), i + j = p.2.length → j < m → l.length = i → FatesOk l → DiceOk d → (w = true → ∃ j, j < l.length ∧ worksC (p.2.getD j ch0) (l.getD j []) = true) →
      ∃ w' l', FatesOk l' ∧ (w' = true → ∃ j, j < p.2.length ∧ worksC (p.2.getD j ch0) (l'.getD j []) = true) ∧ ∀ {β : Type} (k1 : zqci β),
      zqd7 m k1 start w p.2 (p.2.length : Int) (i : Int) d.1 d.2 p.1 p.2 l = k1 start w' p.1 p.2 l' := by
    intro j
    induction j with
    | zero =>
      intro i m d w l hi hm hl ho hd hw
      obtain ⟨m, rfl⟩ : ∃ m', m = m' + 1 := ⟨m - 1, by omega⟩
      refine ⟨w, l, ho, fun h => by obtain ⟨j, h1, h2⟩ := hw h; exact ⟨j, by omega, h2⟩, fun k1 => ?_⟩
      simp only [zqd8, zqcv]
      exact c_neg (by omega)
    | succ j ih =>
      intro i m d w l hi hm hl ho hd hw
      obtain ⟨m, rfl⟩ : ∃ m', m = m' + 1 := ⟨m - 1, by omega⟩
      obtain ⟨f, d1, hf, hd1, ff⟩ := fates_ok hd
      have hlen : (l ++ [f]).length = i + 1 := by simp; omega
      have hgl : ∀ q, q < l.length → (l ++ [f]).getD q [] = l.getD q [] := fun q hq => by simp [List.getD, List.getElem?_append_left hq]
      have hgn : (l ++ [f]).getD i [] = f := by subst hl; simp [List.getD]
      have hw' : (w || worksC (p.2.getD i ch0) f) = true → ∃ j, j < (l ++ [f]).length ∧ worksC (p.2.getD j ch0) ((l ++ [f]).getD j []) = true := by
        intro h
        rcases Bool.or_eq_true_iff.1 h with h | h
        · obtain ⟨q, h1, h2⟩ := hw h
          exact ⟨q, by omega, by rw [hgl q h1]; exact h2⟩
        · exact ⟨i, by omega, by rw [hgn]; exact h⟩
      obtain ⟨w', l', h1, h2, h3⟩ := ih (i + 1) m d1 (w || worksC (p.2.getD i ch0) f) (l ++ [f]) (by omega) (by omega) hlen (fun x hx => by
        rcases List.mem_append.1 hx with hx | hx
        · exact ho x hx
        · rw [List.mem_singleton.1 hx]; omega) hd1 hw'
      refine ⟨w', l', h1, h2, fun k1 => ?_⟩
      have h3 := h3 k1
      simp only [zqd8, zqcv, Int.toNat_natCast]
      refine (c_pos (by omega)).trans ?_
      refine (c_inb (by omega)).trans ?_
      refine (ff _).trans ?_
      refine (c_room (by simp only [List.length_cons, List.length_nil]; omega)).trans ?_
      rw [i64_in ((i : Int) + 1) (by omega)]
      cases w with
      | true => exact h3
      | false =>
        refine (c_ff' rfl).trans ?_
        refine (r26_works _ _ _).trans ?_
        exact h3
  exact key p.2.length 0 fuel d false [] (by omega) (lt_fuel (by omega)) rfl (fun f hf => by simp at hf) hd (by simp)

theorem reach2 {β : Type} {a : List Int} {r : List Int} {sent : Int} {plan : List Att} (hl : plan.length ≤ 24) (i : Nat) (h : ∀ x ∈ plan.drop i, 0 < r.length ∧ r.getD 0 0 ≤ x.2.2) (k1 : zqcm β) (k2 : zqcn β) :
    zqdd k1 k2 a r sent plan (i : Int) = k2 a r sent plan := by
  have key : ∀ (j i : Nat) (m : Nat), plan.length ≤ i + j → j < m → (∀ x ∈ plan.drop i, 0 < r.length ∧ r.getD 0 0 ≤ x.2.2) → zqdb m k1 k2 a r sent plan (i : Int) = k2 a r sent plan := by
    intro j
    induction j with
    | zero =>
      intro i m hi hm h
      obtain ⟨m, rfl⟩ : ∃ m', m = m' + 1 := ⟨m - 1, by omega⟩
      simp only [zqdc, zqcy]
      exact c_neg (by omega)
    | succ j ih =>
      intro i m hi hm h
      obtain ⟨m, rfl⟩ : ∃ m', m = m' + 1 := ⟨m - 1, by omega⟩
      simp only [zqdc, zqcy, Int.toNat_natCast, Int.toNat_zero]
      by_cases hlt : i < plan.length
      · have hd := List.drop_eq_getElem_cons hlt
        have hx := h plan[i] (by rw [hd]; exact List.mem_cons_self)
        have e : plan.getD i ((0 : Int), ((0 : Int), (0 : Int))) = plan[i] := by simp [List.getD, hlt]
        refine (c_pos (by omega)).trans ?_
        refine (c_neg (by omega)).trans ?_
        refine (c_inb (by omega)).trans ?_
        refine (c_inb (by omega)).trans ?_
        simp only [e]
        refine (c_neg (by omega)).trans ?_
        rw [i64_in ((i : Int) + 1) (by omega)]
        exact ih (i + 1) m (by omega) (by omega) fun x hx => h x (by rw [hd]; exact List.mem_cons_of_mem _ hx)
      · exact c_neg (by omega)
  exact key plan.length i fuel (by omega) (lt_fuel (by omega)) h

theorem reach3 {β : Type} {p : Prof} {start : Int} (hs : 0 ≤ start ∧ start ≤ 4294967295) (fates : List (List Fate)) (k1 : zqcr β) :
    zqdf k1 start (sortInts (runD p start fates).1) (sortInts (runD p start fates).2.1) ((runD p start fates).2.2 : Int) p.1 p.2 = k1 true := by
  obtain ⟨n, hn1, hn2, hn3⟩ := runGo_spec fates (planOf p start) none ([], [], 0)
  have hrun : runD p start fates = ([] ++ ((planOf p start).take n).flatMap (arrA fates), [] ++ ((planOf p start).take n).flatMap (recA fates), 0 + n) := hn2
  have hpl := planOf_len p start
  have hasc := planOf_asc p start
  rw [hrun]
  simp only [List.nil_append, Nat.zero_add] at hn3 ⊢
  generalize hA : ((planOf p start).take n).flatMap (arrA fates) = A
  generalize hR : ((planOf p start).take n).flatMap (recA fates) = R at hn3
  have hRA : ∀ x ∈ R, ∃ y ∈ A, y ≤ x := by rw [← hA, ← hR]; exact recs_arrs
  unfold zqdf zqd2 zqd1
  rw [i64_in start (by omega)]
  refine (r_plan p _ _).trans ?_
  refine (reach2 hpl n (fun x hx => ?_) _ _).trans ?_
  · obtain ⟨m, hm, rfl⟩ := List.getElem_of_mem hx
    rw [List.length_drop] at hm
    rw [List.getElem_drop]
    obtain ⟨t, ht1, ht2⟩ := hn3 (by omega)
    obtain ⟨g1, g2⟩ := sI_head ht1
    refine ⟨g1, ?_⟩
    have : (planOf p start)[n].2.2 ≤ (planOf p start)[n + m].2.2 := by
      rcases Nat.eq_zero_or_pos m with h | h
      · subst h; exact Int.le_refl _
      · exact attLe_at (List.pairwise_iff_getElem.1 hasc n (n + m) (by omega) (by omega) (by omega))
    omega
  · refine (c_pos (by omega)).trans ?_
    by_cases h0 : ((sortInts R).length : Int) = 0
    · refine (c_pos h0).trans ?_
      exact sane27 _
    · refine (c_neg h0).trans ?_
      have hr := sI_head_mem (l := R) (by omega)
      obtain ⟨y, hy, hle⟩ := hRA _ hr
      obtain ⟨g1, g2⟩ := sI_head hy
      refine (c_pos (by omega)).trans ?_
      refine (c_inb (by omega)).trans ?_
      refine (c_inb (by omega)).trans ?_
      refine (c_pos (by simp only [Int.toNat_zero]; omega)).trans ?_
      exact sane27 _

theorem deliveryReaches {β : Type} (t : List Int) {start : Int} (hs : 0 ≤ start ∧ start ≤ 4294967295) (k : Bool → Option β) : zqdh t start k = k true := by
  unfold zqdh zqd4
  refine (light_eq t _).trans ?_
  by_cases hl : (t.length : Int) ≤ 500
  · rw [decide_eq_true hl]
    refine (c_ff' rfl).trans ?_
    obtain ⟨x1, d1, a1, a2, hd1, f1⟩ := next_ok (n := 4) (roll_ok hl) (by omega)
    obtain ⟨p, d2, hp, hp1, hp2, hd2, f2⟩ := person_ok (who := x1) (by omega) hd1
    obtain ⟨w, l, hlo, hw, f3⟩ := reach1 (start := start) (p := p) (by omega) hd2
    refine (roll_eq t _).trans ?_
    refine (f1 _).trans ?_
    refine (f2 _).trans ?_
    refine (f3 _).trans ?_
    rw [i64_in start (by omega)]
    refine (d_run p start hlo _).trans ?_
    cases w with
    | false => exact reach3 hs l _
    | true =>
      obtain ⟨j, hj, hwk⟩ := hw rfl
      obtain ⟨y, hy, hle⟩ := works_reach (start := start) hp (by omega) hj hwk
      obtain ⟨g1, g2⟩ := sI_head hy
      have hb := boundD_bd p
      refine (c_tt' rfl).trans ?_
      refine (c_neg (by omega)).trans ?_
      refine (c_inb (by omega)).trans ?_
      refine (d_bound p (by omega) _).trans ?_
      rw [i64_in (start + boundD p) (by omega)]
      refine (c_neg (by simp only [Int.toNat_zero]; omega)).trans ?_
      exact reach3 hs l _
  · rw [decide_eq_false hl]
    refine (c_tt' rfl).trans ?_
    exact sane27 _
end
end Go.Lift

