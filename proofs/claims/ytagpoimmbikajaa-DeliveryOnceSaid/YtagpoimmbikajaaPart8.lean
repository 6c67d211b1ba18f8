/- Part8: Fn0, LBase, LDelMath, LDelivery, LDelRef, LDelFn, LDelRun, LDelRun2, LDice, LDice1, LDelMade, LDelSends, LDelOnce. -/
import Derived.Test.YtagpoimmbikajaaProg
import Derived.Test.YtagpoimmbikajaaPart7
namespace Go.Lift
open Go.Proofs
noncomputable section
set_option maxRecDepth 100000
set_option linter.unusedVariables false

abbrev zq0 := (Bool × (Int × (Int × Int)))
abbrev zq1 : Ty := (.prod .bool (.prod (.int .i64) (.prod (.int .i64) (.int .i64))))
abbrev zq2 := (Int × (Int × (Int × (Int × (Int × Int)))))
abbrev zq3 : Ty := (.prod (.int .i64) (.prod (.int .i64) (.prod (.int .i64) (.prod (.int .i64) (.prod (.int .i64) (.int .i64))))))

def tab : List (Nat × TI) := [
  (3, ⟨false, 1, 8, [.int .i64 (0 : Int)], [], none, none, (some (.int .i64)), (some .i64), false, false, none, none⟩),
  (4, ⟨false, 1, 1, [.bool false], [], none, none, (some .bool), none, true, false, none, none⟩),
  (22, ⟨false, 1, 24, [.nils], [], (some 3), none, (some (.slice (.int .i64))), none, false, false, none, none⟩),
  (27, ⟨false, 1, 24, [.nils], [], (some 36), none, (some (.slice (.prod (.int .i64) (.prod (.int .i64) (.prod (.int .i64) (.int .i64)))))), none, false, false, none, none⟩),
  (29, ⟨true, 2, 32, [.int .i64 (0 : Int), .nils], [(0, 1, false), (1, 1, false)], none, none, (some (.prod (.int .i64) (.slice (.prod (.int .i64) (.prod (.int .i64) (.prod (.int .i64) (.int .i64))))))), none, false, false, none, none⟩),
  (33, ⟨false, 1, 24, [.nils], [], (some 39), none, (some (.slice (.prod (.int .i64) (.prod (.int .i64) (.int .i64))))), none, false, false, none, none⟩),
  (36, ⟨true, 4, 32, [.int .i64 (0 : Int), .int .i64 (0 : Int), .int .i64 (0 : Int), .int .i64 (0 : Int)], [(0, 1, false), (1, 1, false), (2, 1, false), (3, 1, false)], none, none, (some (.prod (.int .i64) (.prod (.int .i64) (.prod (.int .i64) (.int .i64))))), none, false, false, (some [.i, .i, .i, .i]), none⟩),
  (39, ⟨true, 3, 24, [.int .i64 (0 : Int), .int .i64 (0 : Int), .int .i64 (0 : Int)], [(0, 1, false), (1, 1, false), (2, 1, false)], none, none, (some (.prod (.int .i64) (.prod (.int .i64) (.int .i64)))), none, false, false, (some [.i, .i, .i]), none⟩),
  (42, ⟨false, 1, 24, [.nils], [], (some 44), none, (some (.slice (.slice zq1))), none, false, false, none, none⟩),
  (44, ⟨false, 1, 24, [.nils], [], (some 75), none, (some (.slice zq1)), none, false, false, none, none⟩),
  (55, ⟨true, 6, 48, [.int .i64 (0 : Int), .int .i64 (0 : Int), .int .i64 (0 : Int), .int .i64 (0 : Int), .int .i64 (0 : Int), .int .i64 (0 : Int)], [(0, 1, false), (1, 1, false), (2, 1, false), (3, 1, false), (4, 1, false), (5, 1, false)], none, none, (some zq3), none, false, false, (some [.i, .i, .i, .i, .i, .i]), none⟩),
  (75, ⟨true, 4, 32, [.bool false, .int .i64 (0 : Int), .int .i64 (0 : Int), .int .i64 (0 : Int)], [(0, 1, false), (1, 1, false), (2, 1, false), (3, 1, false)], none, none, (some zq1), none, false, false, (some [.b, .i, .i, .i]), none⟩),
  (77, ⟨true, 2, 32, [.nils, .int .i64 (0 : Int)], [(0, 1, false), (1, 1, false)], none, none, (some (.prod (.slice (.int .i64)) (.int .i64))), none, false, false, none, none⟩)]

theorem tab_ok : TOk Try.prog (look tab) := TOk_of (by kernel_rfl)
theorem mixed : Try.prog.follows .mixedOrders = true := by kernel_rfl

/-- pagewatch/pagewatchmade.Light -/
abbrev zq4 := {β : Type} → (List Int) → (Bool → Option β) → Option β
def zq5 (c : zq4) : Spec :=
  ⟨[(false, [.data (.slice (.int .i64))])], [], [(false, [.data .bool])], [], fun x k => c x.1.1.1 (fun r0 => k (((r0, ()), ()), ()))⟩
section
@[reducible] def made_Light_X : Ctx := ⟨look tab, pick1 [], false, false, false, false⟩
def zq6 {β : Type} (l : List Int) (k : (Bool → Option β)) : Option β :=
  let t : Bool := (decide ((List.length l : Int) ≤ (500 : Int)));
  k t
theorem zq7 (hΓ : ΓOk Try.prog made_Light_X.Γ) : SpecOk Try.prog 9 (zq5 (zq6)) :=
  spec_exec (X := made_Light_X) (Λ := pick1 []) (rs := [.tmp 2]) (c := bodyOf Try.f9) mixed tab_ok hΓ Try.func9 (by kernel_rfl) (by kernel_rfl) (by kernel_rfl) (by kernel_rfl) CutsOk_nil (fun x k r h => Eq.trans (b := (zq5 (zq6)).run x k) (by kernel_rfl) h)
end
theorem zq8Γ : ΓOk Try.prog (pick1 []) := ΓOk_nil
def zq9 : zq4 := zq6
theorem zqa : SpecOk Try.prog 9 (zq5 zq9) := zq7 zq8Γ

/-- pagewatch/pagewatchmade.Roll -/
abbrev zqb := {β : Type} → (List Int) → ((List Int × Int) → Option β) → Option β
def zqc (c : zqb) : Spec :=
  ⟨[(false, [.data (.slice (.int .i64))])], [], [(false, [.ptr 0 0])], [.cells 77 [.data (.prod (.slice (.int .i64)) (.int .i64))]], fun x k => c x.1.1.1 (fun r0 => k (((), ()), ((r0, ()), ())))⟩
section
@[reducible] def made_Roll_X : Ctx := ⟨look tab, pick1 [], false, false, false, false⟩
def zqd {β : Type} (l : List Int) (k : ((List Int × Int) → Option β)) : Option β :=
  k (l, (0 : Int))
theorem zqe (hΓ : ΓOk Try.prog made_Roll_X.Γ) : SpecOk Try.prog 11 (zqc (zqd)) :=
  spec_exec (X := made_Roll_X) (Λ := pick1 []) (rs := [.tmp 2]) (c := bodyOf Try.f11) mixed tab_ok hΓ Try.func11 (by kernel_rfl) (by kernel_rfl) (by kernel_rfl) (by kernel_rfl) CutsOk_nil (fun x k r h => Eq.trans (b := (zqc (zqd)).run x k) (by kernel_rfl) h)
end
theorem zqfΓ : ΓOk Try.prog (pick1 []) := ΓOk_nil
def zqg : zqb := zqd
theorem zqh : SpecOk Try.prog 11 (zqc zqg) := zqe zqfΓ

/-- (*pagewatch/pagewatchmade.Dice).Next -/
abbrev zqi := {β : Type} → Int → (List Int × Int) → (Int → (List Int × Int) → Option β) → Option β
def zqj (c : zqi) : Spec :=
  ⟨[(false, [.ptr 0 0]), (false, [.data (.int .i64)])], [.cells 77 [.data (.prod (.slice (.int .i64)) (.int .i64))]], [(false, [.data (.int .i64)])], [.cells 77 [.data (.prod (.slice (.int .i64)) (.int .i64))]], fun x k => c x.1.2.1.1 x.2.1.1 (fun r0 r1 => k (((r0, ()), ()), ((r1, ()), ())))⟩
section
@[reducible] def made_Dice_Next_X : Ctx := ⟨look tab, pick1 [], false, false, false, false⟩
def zqk {β : Type} (n : Int) (d : (List Int × Int)) (k : (Int → (List Int × Int) → Option β)) : Option β :=
  cond (decide ((List.length d.1 : Int) ≤ d.2))
  (k (0 : Int) d)
  (cond (decide (n < (1 : Int)))
  (k (0 : Int) d)
  (cond (decide (0 ≤ d.2) && decide (d.2 < (List.length d.1 : Int)))
  (let e : Int := List.getD d.1 (Int.toNat d.2) (0 : Int);
  cond (!decide (n = 0))
  (cond (decide ((Int.tmod e n) < (0 : Int)))
  (let x : Int := (IntKind.i64.wrap ((Int.tmod e n) + n));
  k x (d.1, (IntKind.i64.wrap (d.2 + (1 : Int)))))
  (k (Int.tmod e n) (d.1, (IntKind.i64.wrap (d.2 + (1 : Int))))))
  none)
  none))
theorem zql (hΓ : ΓOk Try.prog made_Dice_Next_X.Γ) : SpecOk Try.prog 14 (zqj (zqk)) :=
  spec_exec (X := made_Dice_Next_X) (Λ := pick1 []) (rs := [.tmp 4]) (c := bodyOf Try.f14) mixed tab_ok hΓ Try.func14 (by kernel_rfl) (by kernel_rfl) (by kernel_rfl) (by kernel_rfl) CutsOk_nil (fun x k r h => Eq.trans (b := (zqj (zqk)).run x k) (by kernel_rfl) h)
end
theorem zqmΓ : ΓOk Try.prog (pick1 []) := ΓOk_nil
def zqn : zqi := zqk
theorem zqo : SpecOk Try.prog 14 (zqj zqn) := zql zqmΓ

/-- (*pagewatch/pagewatchmade.Dice).One -/
abbrev zqp := {β : Type} → (List Int) → (List Int × Int) → (Int → (List Int × Int) → Option β) → Option β
def zqq (c : zqp) : Spec :=
  ⟨[(false, [.ptr 0 0]), (false, [.data (.slice (.int .i64))])], [.cells 77 [.data (.prod (.slice (.int .i64)) (.int .i64))]], [(false, [.data (.int .i64)])], [.cells 77 [.data (.prod (.slice (.int .i64)) (.int .i64))]], fun x k => c x.1.2.1.1 x.2.1.1 (fun r0 r1 => k (((r0, ()), ()), ((r1, ()), ())))⟩
section
variable (c_made_Dice_Next : zqi)
@[reducible] def made_Dice_One_X : Ctx := ⟨look tab, pick1 [(14, .spec (zqj c_made_Dice_Next))], false, false, false, false⟩
def zqr {β : Type} (l : List Int) (d : (List Int × Int)) (k : (Int → (List Int × Int) → Option β)) : Option β :=
  c_made_Dice_Next (List.length l : Int) d (fun (rNext : Int) (mrNext : (List Int × Int)) =>
  cond (decide (0 ≤ rNext) && decide (rNext < (List.length l : Int)))
  (let e : Int := List.getD l (Int.toNat rNext) (0 : Int);
  k e mrNext)
  none)
theorem zqs (hΓ : ΓOk Try.prog (made_Dice_One_X c_made_Dice_Next).Γ) : SpecOk Try.prog 28 (zqq (zqr c_made_Dice_Next)) :=
  spec_exec (X := (made_Dice_One_X c_made_Dice_Next)) (Λ := pick1 []) (rs := [.tmp 4]) (c := bodyOf Try.f28) mixed tab_ok hΓ Try.func28 (by kernel_rfl) (by kernel_rfl) (by kernel_rfl) (by kernel_rfl) CutsOk_nil (fun x k r h => Eq.trans (b := (zqq (zqr c_made_Dice_Next)).run x k) (by kernel_rfl) h)
end
theorem zqtΓ : ΓOk Try.prog (pick1 [(14, .spec (zqj zqn))]) := (ΓOk_cons zqo ΓOk_nil)
def zqu : zqp := zqr zqn
theorem zqv : SpecOk Try.prog 28 (zqq zqu) := zqs zqn zqtΓ

/-- (*pagewatch/pagewatchmade.Dice).Channel -/
abbrev zqw := {β : Type} → (List Int × Int) → ((Int × (Int × (Int × Int))) → (List Int × Int) → Option β) → Option β
def zqx (c : zqw) : Spec :=
  ⟨[(false, [.ptr 0 0])], [.cells 77 [.data (.prod (.slice (.int .i64)) (.int .i64))]], [(true, [.data (.prod (.int .i64) (.prod (.int .i64) (.prod (.int .i64) (.int .i64))))])], [.cells 77 [.data (.prod (.slice (.int .i64)) (.int .i64))]], fun x k => c x.2.1.1 (fun r0 r1 => k (((r0, ()), ()), ((r1, ()), ())))⟩
section
variable (c_made_Dice_Next : zqi) (c_made_Dice_One : zqp)
@[reducible] def made_Dice_Channel_X : Ctx := ⟨look tab, pick1 [(14, .spec (zqj c_made_Dice_Next)), (28, .spec (zqq c_made_Dice_One))], false, false, false, false⟩
def zqy {β : Type} (d : (List Int × Int)) (k : ((Int × (Int × (Int × Int))) → (List Int × Int) → Option β)) : Option β :=
  c_made_Dice_Next (3 : Int) d (fun (rNext : Int) (mrNext : (List Int × Int)) =>
  let l : List Int := ([(0 : Int), (30 : Int), (60 : Int), (3600 : Int)] : List Int);
  c_made_Dice_One l mrNext (fun (rOne : Int) (mrOne : (List Int × Int)) =>
  c_made_Dice_Next (4 : Int) mrOne (fun (rNext2 : Int) (mrNext2 : (List Int × Int)) =>
  let l2 : List Int := ([(1 : Int), (30 : Int), (60 : Int), (120 : Int)] : List Int);
  c_made_Dice_One l2 mrNext2 (fun (rOne2 : Int) (mrOne2 : (List Int × Int)) =>
  k (rNext, (rOne, ((IntKind.i64.wrap ((1 : Int) + rNext2)), rOne2))) mrOne2))))
theorem zqz (hΓ : ΓOk Try.prog (made_Dice_Channel_X c_made_Dice_Next c_made_Dice_One).Γ) : SpecOk Try.prog 38 (zqx (zqy c_made_Dice_Next c_made_Dice_One)) :=
  spec_exec (X := (made_Dice_Channel_X c_made_Dice_Next c_made_Dice_One)) (Λ := pick1 []) (rs := [.cell 2 36]) (c := bodyOf Try.f38) mixed tab_ok hΓ Try.func38 (by kernel_rfl) (by kernel_rfl) (by kernel_rfl) (by kernel_rfl) CutsOk_nil (fun x k r h => Eq.trans (b := (zqx (zqy c_made_Dice_Next c_made_Dice_One)).run x k) (by kernel_rfl) h)
end
theorem zq10Γ : ΓOk Try.prog (pick1 [(14, .spec (zqj zqn)), (28, .spec (zqq zqu))]) := (ΓOk_cons zqo (ΓOk_cons zqv ΓOk_nil))
def zq11 : zqw := zqy zqn zqu
theorem zq12 : SpecOk Try.prog 38 (zqx zq11) := zqz zqn zqu zq10Γ

/-- pagewatch/delivery.in -/
abbrev zq13 := {β : Type} → Int → Int → Int → (Bool → Option β) → Option β
def zq14 (c : zq13) : Spec :=
  ⟨[(false, [.data (.int .i64)]), (false, [.data (.int .i64)]), (false, [.data (.int .i64)])], [], [(false, [.data .bool])], [], fun x k => c x.1.1.1 x.1.2.1.1 x.1.2.2.1.1 (fun r0 => k (((r0, ()), ()), ()))⟩
section
@[reducible] def delivery_in_X : Ctx := ⟨look tab, pick1 [], false, false, false, false⟩
def zq15 {β : Type} (n : Int) (low : Int) (high : Int) (k : (Bool → Option β)) : Option β :=
  cond (decide (low ≤ n))
  (k (decide (n ≤ high)))
  (k false)
theorem zq16 (hΓ : ΓOk Try.prog delivery_in_X.Γ) : SpecOk Try.prog 39 (zq14 (zq15)) :=
  spec_exec (X := delivery_in_X) (Λ := pick1 []) (rs := [.tmp 6]) (c := bodyOf Try.f39) mixed tab_ok hΓ Try.func39 (by kernel_rfl) (by kernel_rfl) (by kernel_rfl) (by kernel_rfl) CutsOk_nil (fun x k r h => Eq.trans (b := (zq14 (zq15)).run x k) (by kernel_rfl) h)
end
theorem zq17Γ : ΓOk Try.prog (pick1 []) := ΓOk_nil
def zq18 : zq13 := zq15
theorem zq19 : SpecOk Try.prog 39 (zq14 zq18) := zq16 zq17Γ

/-- pagewatch/delivery.Run$1 -/
abbrev zq1a := {β : Type} → Int → (Int × (Int × Int)) → (Bool → (Int × (Int × Int)) → Option β) → Option β
def zq1b (c : zq1a) : Spec :=
  ⟨[(false, [.data (.int .i64)]), (false, [.ptr 0 0])], [.cells 39 [.data (.prod (.int .i64) (.prod (.int .i64) (.int .i64)))]], [(false, [.data .bool])], [.cells 39 [.data (.prod (.int .i64) (.prod (.int .i64) (.int .i64)))]], fun x k => c x.1.1.1 x.2.1.1 (fun r0 r1 => k (((r0, ()), ()), ((r1, ()), ())))⟩
section
@[reducible] def delivery_Run_f1_X : Ctx := ⟨look tab, pick1 [], false, false, false, false⟩
def zq1c {β : Type} (t : Int) (t1 : (Int × (Int × Int))) (k : (Bool → (Int × (Int × Int)) → Option β)) : Option β :=
  k (decide (t ≤ t1.2.2)) t1
theorem zq1d (hΓ : ΓOk Try.prog delivery_Run_f1_X.Γ) : SpecOk Try.prog 45 (zq1b (zq1c)) :=
  spec_exec (X := delivery_Run_f1_X) (Λ := pick1 []) (rs := [.tmp 3]) (c := bodyOf Try.f45) mixed tab_ok hΓ Try.func45 (by kernel_rfl) (by kernel_rfl) (by kernel_rfl) (by kernel_rfl) CutsOk_nil (fun x k r h => Eq.trans (b := (zq1b (zq1c)).run x k) (by kernel_rfl) h)
end
theorem zq1eΓ : ΓOk Try.prog (pick1 []) := ΓOk_nil
def zq1f : zq1a := zq1c
theorem zq1g : SpecOk Try.prog 45 (zq1b zq1f) := zq1d zq1eΓ

/-- slices.Sort[[]int,int] -/
def zq1h : Shelf.Ren :=
      { 
      f := fun x =>
        match x with
        | 189 => 49
        | 125 => 66
        | 257 => 70
        | 128 => 81
        | 129 => 82
        | 294 => 83
        | 295 => 84
        | 296 => 85
        | 297 => 86
        | 298 => 87
        | 299 => 88
        | 216 => 89
        | 300 => 90
        | 301 => 91
        | 328 => 97
        | 329 => 93
        | 330 => 94
        | 331 => 98
        | 332 => 99
        | 215 => 100
        | 343 => 102
        | n => n,
      t := fun x =>
        match x with
        | 28 => 22
        | 3 => 3
        | 46 => 97
        | 0 => 0
        | 51 => 23
        | 53 => 111
        | 4 => 4
        | 183 => 104
        | 182 => 103
        | 131 => 66
        | 5 => 5
        | 9 => 9
        | 218 => 118
        | 222 => 122
        | 228 => 126
        | 229 => 127
        | n => n,
      g := fun x => x }
theorem zq1i : Go.Proofs.Lays.n189 Try.prog zq1h :=
  { mixed := by kernel_rfl,
    f125 := Eq.trans Try.func66 (congrArg some (by kernel_rfl)),
    f128 := Eq.trans Try.func81 (congrArg some (by kernel_rfl)),
    f129 := Eq.trans Try.func82 (congrArg some (by kernel_rfl)),
    f189 := Eq.trans Try.func49 (congrArg some (by kernel_rfl)),
    f215 := Eq.trans Try.func100 (congrArg some (by kernel_rfl)),
    f216 := Eq.trans Try.func89 (congrArg some (by kernel_rfl)),
    f257 := Eq.trans Try.func70 (congrArg some (by kernel_rfl)),
    f294 := Eq.trans Try.func83 (congrArg some (by kernel_rfl)),
    f295 := Eq.trans Try.func84 (congrArg some (by kernel_rfl)),
    f296 := Eq.trans Try.func85 (congrArg some (by kernel_rfl)),
    f297 := Eq.trans Try.func86 (congrArg some (by kernel_rfl)),
    f298 := Eq.trans Try.func87 (congrArg some (by kernel_rfl)),
    f299 := Eq.trans Try.func88 (congrArg some (by kernel_rfl)),
    f300 := Eq.trans Try.func90 (congrArg some (by kernel_rfl)),
    f301 := Eq.trans Try.func91 (congrArg some (by kernel_rfl)),
    f328 := Eq.trans Try.func97 (congrArg some (by kernel_rfl)),
    f329 := Eq.trans Try.func93 (congrArg some (by kernel_rfl)),
    f330 := Eq.trans Try.func94 (congrArg some (by kernel_rfl)),
    f331 := Eq.trans Try.func98 (congrArg some (by kernel_rfl)),
    f332 := Eq.trans Try.func99 (congrArg some (by kernel_rfl)),
    f343 := Eq.trans Try.func102 (congrArg some (by kernel_rfl)),
    t0 := Try.underlying0,
    a0 := Try.isAgg0,
    z0 := Try.sizeOf0,
    v0 := Try.zeroValue0,
    t3 := Try.underlying3,
    a3 := Try.isAgg3,
    z3 := Try.sizeOf3,
    v3 := Try.zeroValue3,
    t4 := Try.underlying4,
    a4 := Try.isAgg4,
    z4 := Try.sizeOf4,
    v4 := Try.zeroValue4,
    t5 := Try.underlying5,
    a5 := Try.isAgg5,
    z5 := Try.sizeOf5,
    v5 := Try.zeroValue5,
    t9 := Try.underlying9,
    a9 := Try.isAgg9,
    z9 := Try.sizeOf9,
    v9 := Try.zeroValue9,
    t28 := Try.underlying22,
    a28 := Try.isAgg22,
    z28 := Try.sizeOf22,
    v28 := Try.zeroValue22,
    t46 := Try.underlying97,
    a46 := Try.isAgg97,
    z46 := Try.sizeOf97,
    v46 := Try.zeroValue97,
    t51 := Try.underlying23,
    a51 := Try.isAgg23,
    z51 := Try.sizeOf23,
    v51 := Try.zeroValue23,
    t53 := Try.underlying111,
    a53 := Try.isAgg111,
    z53 := Try.sizeOf111,
    v53 := Try.zeroValue111,
    t131 := Try.underlying66,
    a131 := Try.isAgg66,
    z131 := Try.sizeOf66,
    v131 := Try.zeroValue66,
    t182 := Try.underlying103,
    a182 := Try.isAgg103,
    z182 := Try.sizeOf103,
    v182 := Try.zeroValue103,
    t183 := Try.underlying104,
    a183 := Try.isAgg104,
    z183 := Try.sizeOf104,
    v183 := Try.zeroValue104,
    t218 := Try.underlying118,
    a218 := Try.isAgg118,
    z218 := Try.sizeOf118,
    v218 := Try.zeroValue118,
    t222 := Try.underlying122,
    a222 := Try.isAgg122,
    z222 := Try.sizeOf122,
    v222 := Try.zeroValue122,
    t228 := Try.underlying126,
    a228 := Try.isAgg126,
    z228 := Try.sizeOf126,
    v228 := Try.zeroValue126,
    t229 := Try.underlying127,
    a229 := Try.isAgg127,
    z229 := Try.sizeOf127,
    v229 := Try.zeroValue127 }
def zq1j : RowF := sortF 3
theorem zq1k : RowOk Try.prog 49 zq1j :=
  sort_rowok zq1i rfl ⟨_, Try.func49, by kernel_rfl, by kernel_rfl⟩

/-- pagewatch/pagewatchref25.In -/
abbrev zq1l := {β : Type} → Int → Int → Int → (Bool → Option β) → Option β
def zq1m (c : zq1l) : Spec :=
  ⟨[(false, [.data (.int .i64)]), (false, [.data (.int .i64)]), (false, [.data (.int .i64)])], [], [(false, [.data .bool])], [], fun x k => c x.1.1.1 x.1.2.1.1 x.1.2.2.1.1 (fun r0 => k (((r0, ()), ()), ()))⟩
section
@[reducible] def ref25_In_X : Ctx := ⟨look tab, pick1 [], false, false, false, false⟩
def zq1n {β : Type} (n : Int) (lo : Int) (hi : Int) (k : (Bool → Option β)) : Option β :=
  cond (decide (lo ≤ n))
  (k (decide (n ≤ hi)))
  (k false)
theorem zq1o (hΓ : ΓOk Try.prog ref25_In_X.Γ) : SpecOk Try.prog 56 (zq1m (zq1n)) :=
  spec_exec (X := ref25_In_X) (Λ := pick1 []) (rs := [.tmp 6]) (c := bodyOf Try.f56) mixed tab_ok hΓ Try.func56 (by kernel_rfl) (by kernel_rfl) (by kernel_rfl) (by kernel_rfl) CutsOk_nil (fun x k r h => Eq.trans (b := (zq1m (zq1n)).run x k) (by kernel_rfl) h)
end
theorem zq1pΓ : ΓOk Try.prog (pick1 []) := ΓOk_nil
def zq1q : zq1l := zq1n
theorem zq1r : SpecOk Try.prog 56 (zq1m zq1q) := zq1o zq1pΓ

/-- pagewatch/pagewatchref27.ahead -/
abbrev zq1s := {β : Type} → (Int × (Int × Int)) → (Int × (Int × Int)) → (Bool → Option β) → Option β
def zq1t (c : zq1s) : Spec :=
  ⟨[(true, [.data (.prod (.int .i64) (.prod (.int .i64) (.int .i64)))]), (true, [.data (.prod (.int .i64) (.prod (.int .i64) (.int .i64)))])], [], [(false, [.data .bool])], [], fun x k => c x.1.1.1 x.1.2.1.1 (fun r0 => k (((r0, ()), ()), ()))⟩
section
@[reducible] def ref27_ahead_X : Ctx := ⟨look tab, pick1 [], false, false, false, false⟩
def zq1u {β : Type} (a : (Int × (Int × Int))) (b : (Int × (Int × Int))) (k : (Bool → Option β)) : Option β :=
  cond (!decide (a.2.2 = b.2.2))
  (k (decide (a.2.2 < b.2.2)))
  (cond (!decide (a.1 = b.1))
  (k (decide (a.1 < b.1)))
  (k (decide (a.2.1 < b.2.1))))
theorem zq1v (hΓ : ΓOk Try.prog ref27_ahead_X.Γ) : SpecOk Try.prog 57 (zq1t (zq1u)) :=
  spec_exec (X := ref27_ahead_X) (Λ := pick1 []) (rs := [.tmp 4]) (c := bodyOf Try.f57) mixed tab_ok hΓ Try.func57 (by kernel_rfl) (by kernel_rfl) (by kernel_rfl) (by kernel_rfl) CutsOk_nil (fun x k r h => Eq.trans (b := (zq1t (zq1u)).run x k) (by kernel_rfl) h)
end
theorem zq1wΓ : ΓOk Try.prog (pick1 []) := ΓOk_nil
def zq1x : zq1s := zq1u
theorem zq1y : SpecOk Try.prog 57 (zq1t zq1x) := zq1v zq1wΓ

/-- pagewatch/pagewatchref27.right -/
abbrev zq1z := {β : Type} → Int → Int → Int → Int → (Bool → Option β) → Option β
def zq20 (c : zq1z) : Spec :=
  ⟨[(false, [.data (.int .i64)]), (false, [.data (.int .i64)]), (false, [.data (.int .i64)]), (false, [.data (.int .i64)])], [], [(false, [.data .bool])], [], fun x k => c x.1.1.1 x.1.2.1.1 x.1.2.2.1.1 x.1.2.2.2.1.1 (fun r0 => k (((r0, ()), ()), ()))⟩
section
variable (c_ref25_In : zq1l)
@[reducible] def ref27_right_X : Ctx := ⟨look tab, pick1 [(56, .spec (zq1m c_ref25_In))], false, false, false, false⟩
def zq21 {β : Type} (page : Int) (step : Int) (person : Int) (start : Int) (k : (Bool → Option β)) : Option β :=
  cond (decide ((1 : Int) ≤ page))
  (cond (decide ((-1 : Int) ≤ step))
  (c_ref25_In person (0 : Int) (31 : Int) (fun (rIn : Bool) =>
  cond rIn
  (c_ref25_In start (0 : Int) (8589934592 : Int) (fun (rIn2 : Bool) =>
  k rIn2))
  (k false)))
  (k false))
  (k false)
theorem zq22 (hΓ : ΓOk Try.prog (ref27_right_X c_ref25_In).Γ) : SpecOk Try.prog 58 (zq20 (zq21 c_ref25_In)) :=
  spec_exec (X := (ref27_right_X c_ref25_In)) (Λ := pick1 []) (rs := [.tmp 8]) (c := bodyOf Try.f58) mixed tab_ok hΓ Try.func58 (by kernel_rfl) (by kernel_rfl) (by kernel_rfl) (by kernel_rfl) CutsOk_nil (fun x k r h => Eq.trans (b := (zq20 (zq21 c_ref25_In)).run x k) (by kernel_rfl) h)
end
theorem zq23Γ : ΓOk Try.prog (pick1 [(56, .spec (zq1m zq1q))]) := (ΓOk_cons zq1r ΓOk_nil)
def zq24 : zq1z := zq21 zq1q
theorem zq25 : SpecOk Try.prog 58 (zq20 zq24) := zq22 zq1q zq23Γ

/-- pagewatch/delivery.person -/
abbrev zq26 := {β : Type} → Int → (Bool → Option β) → Option β
def zq27 (c : zq26) : Spec :=
  ⟨[(false, [.data (.int .i64)])], [], [(false, [.data .bool])], [], fun x k => c x.1.1.1 (fun r0 => k (((r0, ()), ()), ()))⟩
section
variable (c_delivery_in : zq13)
@[reducible] def delivery_person_X : Ctx := ⟨look tab, pick1 [(39, .spec (zq14 c_delivery_in))], false, false, false, false⟩
def zq28 {β : Type} (n : Int) (k : (Bool → Option β)) : Option β :=
  c_delivery_in n (0 : Int) (31 : Int) (fun (rin : Bool) =>
  k rin)
theorem zq29 (hΓ : ΓOk Try.prog (delivery_person_X c_delivery_in).Γ) : SpecOk Try.prog 60 (zq27 (zq28 c_delivery_in)) :=
  spec_exec (X := (delivery_person_X c_delivery_in)) (Λ := pick1 []) (rs := [.tmp 2]) (c := bodyOf Try.f60) mixed tab_ok hΓ Try.func60 (by kernel_rfl) (by kernel_rfl) (by kernel_rfl) (by kernel_rfl) CutsOk_nil (fun x k r h => Eq.trans (b := (zq27 (zq28 c_delivery_in)).run x k) (by kernel_rfl) h)
end
theorem zq2aΓ : ΓOk Try.prog (pick1 [(39, .spec (zq14 zq18))]) := (ΓOk_cons zq19 ΓOk_nil)
def zq2b : zq26 := zq28 zq18
theorem zq2c : SpecOk Try.prog 60 (zq27 zq2b) := zq29 zq18 zq2aΓ

/-- pagewatch/channel.in -/
abbrev zq2d := {β : Type} → Int → Int → Int → (Bool → Option β) → Option β
def zq2e (c : zq2d) : Spec :=
  ⟨[(false, [.data (.int .i64)]), (false, [.data (.int .i64)]), (false, [.data (.int .i64)])], [], [(false, [.data .bool])], [], fun x k => c x.1.1.1 x.1.2.1.1 x.1.2.2.1.1 (fun r0 => k (((r0, ()), ()), ()))⟩
section
@[reducible] def channel_in_X : Ctx := ⟨look tab, pick1 [], false, false, false, false⟩
def zq2f {β : Type} (n : Int) (low : Int) (high : Int) (k : (Bool → Option β)) : Option β :=
  cond (decide (low ≤ n))
  (k (decide (n ≤ high)))
  (k false)
theorem zq2g (hΓ : ΓOk Try.prog channel_in_X.Γ) : SpecOk Try.prog 68 (zq2e (zq2f)) :=
  spec_exec (X := channel_in_X) (Λ := pick1 []) (rs := [.tmp 6]) (c := bodyOf Try.f68) mixed tab_ok hΓ Try.func68 (by kernel_rfl) (by kernel_rfl) (by kernel_rfl) (by kernel_rfl) CutsOk_nil (fun x k r h => Eq.trans (b := (zq2e (zq2f)).run x k) (by kernel_rfl) h)
end
theorem zq2hΓ : ΓOk Try.prog (pick1 []) := ΓOk_nil
def zq2i : zq2d := zq2f
theorem zq2j : SpecOk Try.prog 68 (zq2e zq2i) := zq2g zq2hΓ

/-- pagewatch/channel.ValidFate -/
abbrev zq2k := {β : Type} → zq0 → (Bool → Option β) → Option β
def zq2l (c : zq2k) : Spec :=
  ⟨[(true, [.data zq1])], [], [(false, [.data .bool])], [], fun x k => c x.1.1.1 (fun r0 => k (((r0, ()), ()), ()))⟩
section
variable (c_channel_in : zq2d)
@[reducible] def channel_ValidFate_X : Ctx := ⟨look tab, pick1 [(68, .spec (zq2e c_channel_in))], false, false, false, false⟩
def zq2m {β : Type} (f : zq0) (k : (Bool → Option β)) : Option β :=
  c_channel_in f.2.1 (0 : Int) (86400 : Int) (fun (rin : Bool) =>
  cond rin
  (c_channel_in f.2.2.1 (0 : Int) (86400 : Int) (fun (rin2 : Bool) =>
  cond rin2
  (c_channel_in f.2.2.2 (-1 : Int) (86400 : Int) (fun (rin3 : Bool) =>
  k rin3))
  (k false)))
  (k false))
theorem zq2n (hΓ : ΓOk Try.prog (channel_ValidFate_X c_channel_in).Γ) : SpecOk Try.prog 69 (zq2l (zq2m c_channel_in)) :=
  spec_exec (X := (channel_ValidFate_X c_channel_in)) (Λ := pick1 []) (rs := [.tmp 2]) (c := bodyOf Try.f69) mixed tab_ok hΓ Try.func69 (by kernel_rfl) (by kernel_rfl) (by kernel_rfl) (by kernel_rfl) CutsOk_nil (fun x k r h => Eq.trans (b := (zq2l (zq2m c_channel_in)).run x k) (by kernel_rfl) h)
end
theorem zq2oΓ : ΓOk Try.prog (pick1 [(68, .spec (zq2e zq2i))]) := (ΓOk_cons zq2j ΓOk_nil)
def zq2p : zq2k := zq2m zq2i
theorem zq2q : SpecOk Try.prog 69 (zq2l zq2p) := zq2n zq2i zq2oΓ

/-- (*pagewatch/pagewatchmade.Dice).Person -/
abbrev zq2r := {β : Type} → Int → (List Int × Int) → ((Int × List (Int × (Int × (Int × Int)))) → (List Int × Int) → Option β) → Option β
def zq2s (c : zq2r) : Spec :=
  ⟨[(false, [.ptr 0 0]), (false, [.data (.int .i64)])], [.cells 77 [.data (.prod (.slice (.int .i64)) (.int .i64))]], [(true, [.data (.prod (.int .i64) (.slice (.prod (.int .i64) (.prod (.int .i64) (.prod (.int .i64) (.int .i64))))))])], [.cells 77 [.data (.prod (.slice (.int .i64)) (.int .i64))]], fun x k => c x.1.2.1.1 x.2.1.1 (fun r0 r1 => k (((r0, ()), ()), ((r1, ()), ())))⟩
noncomputable def made_Dice_Person_p1_code : Code := codeAt 58 (bodyOf Try.f12)
abbrev zq2t (β : Type) := (List Int) → Int → Int → Int → (List (Int × (Int × (Int × Int)))) → (List (Int × (Int × (Int × Int)))) → Option β
abbrev zq2u := {β : Type} → zq2t β → Int → (List Int) → Int → Int → Int → (List (Int × (Int × (Int × Int)))) → (List (Int × (Int × (Int × Int)))) → Option β
def zq2v : View := ⟨1, [0, 4, 5, 6], [(false, [.ptr 0 0]), (false, [.ptr 1 0]), (false, [.ptr 2 0]), (false, [.data (.int .i64)])], [.cells 77 [.data (.slice (.int .i64)), .data (.int .i64)], .cells 29 [.data (.int .i64), .rowh 3], .cells 29 [.data (.int .i64), .rowh 4], .row 36 (.prod (.int .i64) (.prod (.int .i64) (.prod (.int .i64) (.int .i64)))), .row 36 (.prod (.int .i64) (.prod (.int .i64) (.prod (.int .i64) (.int .i64))))]⟩
def zq2w : List (AExit × View) := [(.exit 0, ⟨1, [4, 5], [(false, [.ptr 1 0]), (false, [.ptr 2 0])], [.cells 77 [.data (.slice (.int .i64)), .data (.int .i64)], .cells 29 [.data (.int .i64), .rowh 3], .cells 29 [.data (.int .i64), .rowh 4], .row 36 (.prod (.int .i64) (.prod (.int .i64) (.prod (.int .i64) (.int .i64)))), .row 36 (.prod (.int .i64) (.prod (.int .i64) (.prod (.int .i64) (.int .i64))))]⟩)]
@[reducible] def made_Dice_Person_p1_G (p : zq2u) {β : Type} (d : zq2v.den) (ks : Outs.K β zq2w) : Option β :=
  p (fun a0 a1 a2 a3 a4 a5 => ks.1 (((), (), ()), ((a0, a1, ()), (a2, ()), (a3, ()), a4, a5, ()))) d.1.2.2.2.1.1 d.2.1.1 d.2.1.2.1 d.2.2.1.1 d.2.2.2.1.1 d.2.2.2.2.1 d.2.2.2.2.2.1
section
variable (c_made_Dice_Channel : zqw) (c_made_Dice_Next : zqi)
@[reducible] def made_Dice_Person_X : Ctx := ⟨look tab, pick1 [(38, .spec (zqx c_made_Dice_Channel)), (14, .spec (zqj c_made_Dice_Next))], false, false, false, false⟩
def zq2x {β : Type} (rec : Int → (List Int) → Int → Int → Int → (List (Int × (Int × (Int × Int)))) → (List (Int × (Int × (Int × Int)))) → Option β) (k1 : zq2t β) (i_ : Int) (d : List Int) (d2 : Int) (t4 : Int) (p_ : Int) (b3_ : List (Int × (Int × (Int × Int)))) (b4_ : List (Int × (Int × (Int × Int)))) : Option β :=
  cond (decide ((0 : Int) < i_))
  (c_made_Dice_Channel (d, d2) (fun (rChannel : (Int × (Int × (Int × Int)))) (mrChannel : (List Int × Int)) =>
  let l : List (Int × (Int × (Int × Int))) := ([rChannel] : List (Int × (Int × (Int × Int))));
  cond (decide ((List.length b4_ + List.length l) * 32 ≤ roomMax))
  (let l2 : List (Int × (Int × (Int × Int))) := (b4_ ++ l);
  let i_2 : Int := (IntKind.i64.wrap (i_ - (1 : Int)));
  rec i_2 mrChannel.1 mrChannel.2 t4 p_ b3_ l2)
  none))
  (k1 d d2 t4 p_ b3_ b4_)
def zq2y {β : Type} : Nat → zq2t β → Int → (List Int) → Int → Int → Int → (List (Int × (Int × (Int × Int)))) → (List (Int × (Int × (Int × Int)))) → Option β
  | 0 => fun _ _ _ _ _ _ _ _ => none
  | i + 1 => fun k1 i_ d d2 t4 p_ b3_ b4_ => zq2x c_made_Dice_Channel (zq2y i k1) k1 i_ d d2 t4 p_ b3_ b4_
theorem zq2z (hΓ : ΓOk Try.prog (made_Dice_Person_X c_made_Dice_Channel c_made_Dice_Next).Γ) (i : Nat) : PieceOk Try.prog 23 1 made_Dice_Person_p1_code zq2v zq2w (made_Dice_Person_p1_G (zq2y c_made_Dice_Channel i)) := by
  rw [show made_Dice_Person_p1_code = .loop (loopBody made_Dice_Person_p1_code) by kernel_rfl]
  exact piece_loop (X := (made_Dice_Person_X c_made_Dice_Channel c_made_Dice_Next)) (p := 1) (Λ := pick1 []) (G := fun i => @fun β d ks => made_Dice_Person_p1_G (zq2y c_made_Dice_Channel i) d ks) mixed tab_ok hΓ rfl (by kernel_rfl) CutsOk_nil (fun _ _ => rfl) (fun i => @fun β d ks r h => Eq.trans (b := made_Dice_Person_p1_G (zq2y c_made_Dice_Channel (i + 1)) d ks) (by kernel_rfl) h) i
def zq30 (p1 : zq2u) {β : Type} (person : Int) (d : (List Int × Int)) (k : ((Int × List (Int × (Int × (Int × Int)))) → (List Int × Int) → Option β)) : Option β :=
  c_made_Dice_Next (4 : Int) d (fun (rNext : Int) (mrNext : (List Int × Int)) =>
  p1 (fun (b0_ : List Int) (b0_2 : Int) (t4 : Int) (p_ : Int) (b3_ : List (Int × (Int × (Int × Int)))) (b4_ : List (Int × (Int × (Int × Int)))) =>
  k (p_, b4_) (b0_, b0_2)) rNext mrNext.1 mrNext.2 (0 : Int) person ([] : List (Int × (Int × (Int × Int)))) ([] : List (Int × (Int × (Int × Int)))))
theorem zq31 (hΓ : ΓOk Try.prog (made_Dice_Person_X c_made_Dice_Channel c_made_Dice_Next).Γ) (p1 : zq2u) (hp1 : PieceOk Try.prog 23 1 made_Dice_Person_p1_code zq2v zq2w (made_Dice_Person_p1_G p1)) : SpecOk Try.prog 12 (zq2s (zq30 c_made_Dice_Next p1)) :=
  spec_exec (X := (made_Dice_Person_X c_made_Dice_Channel c_made_Dice_Next)) (Λ := pick1 [(58, pieceCut zq2v zq2w (made_Dice_Person_p1_G p1))]) (rs := [.cell 4 29]) (c := bodyOf Try.f12) mixed tab_ok hΓ Try.func12 (by kernel_rfl) (by kernel_rfl) (by kernel_rfl) (by kernel_rfl) (CutsOk_cons (q := 58) (c' := made_Dice_Person_p1_code) (by kernel_rfl) rfl hp1 CutsOk_nil) (fun x k r h => Eq.trans (b := (zq2s (zq30 c_made_Dice_Next p1)).run x k) (by kernel_rfl) h)
end
theorem zq32Γ : ΓOk Try.prog (pick1 [(38, .spec (zqx zq11)), (14, .spec (zqj zqn))]) := (ΓOk_cons zq12 (ΓOk_cons zqo ΓOk_nil))
def zq33 (m : Nat) : zq2u := zq2y zq11 m
theorem zq34 {β : Type} (i : Nat) (k1 i_ d d2 t4 p_ b3_ b4_) : (zq33 (i + 1) k1 i_ d d2 t4 p_ b3_ b4_ : Option β) = zq2x zq11 (zq33 i k1) k1 i_ d d2 t4 p_ b3_ b4_ := rfl
def zq35 : zq2u := zq33 fuel
theorem zq36 : PieceOk Try.prog 23 1 made_Dice_Person_p1_code zq2v zq2w (made_Dice_Person_p1_G zq35) := zq2z zq11 zqn zq32Γ fuel
def zq37 : zq2r := zq30 zqn zq35
theorem zq38 : SpecOk Try.prog 12 (zq2s zq37) := zq31 zq11 zqn zq32Γ zq35 zq36

/-- pagewatch/pagewatchref27.New -/
abbrev zq39 := {β : Type} → Int → Int → Int → Int → (zq2 → Int → Option β) → Option β
def zq3a (c : zq39) : Spec :=
  ⟨[(false, [.data (.int .i64)]), (false, [.data (.int .i64)]), (false, [.data (.int .i64)]), (false, [.data (.int .i64)])], [], [(true, [.data zq3]), (false, [.data (.int .i64)])], [], fun x k => c x.1.1.1 x.1.2.1.1 x.1.2.2.1.1 x.1.2.2.2.1.1 (fun r0 r1 => k (((r0, ()), (r1, ()), ()), ()))⟩
section
variable (c_ref27_right : zq1z)
@[reducible] def ref27_New_X : Ctx := ⟨look tab, pick1 [(58, .spec (zq20 c_ref27_right))], false, false, false, false⟩
def zq3b {β : Type} (page : Int) (step : Int) (person : Int) (start : Int) (k : (zq2 → Int → Option β)) : Option β :=
  c_ref27_right page step person start (fun (rright : Bool) =>
  cond (!rright)
  (k ((0 : Int), ((0 : Int), ((0 : Int), ((0 : Int), ((0 : Int), (0 : Int)))))) (1 : Int))
  (k (page, (step, (person, (start, ((0 : Int), (-1 : Int)))))) (0 : Int)))
theorem zq3c (hΓ : ΓOk Try.prog (ref27_New_X c_ref27_right).Γ) : SpecOk Try.prog 37 (zq3a (zq3b c_ref27_right)) :=
  spec_exec (X := (ref27_New_X c_ref27_right)) (Λ := pick1 []) (rs := [.cell 8 55, .tmp 9]) (c := bodyOf Try.f37) mixed tab_ok hΓ Try.func37 (by kernel_rfl) (by kernel_rfl) (by kernel_rfl) (by kernel_rfl) CutsOk_nil (fun x k r h => Eq.trans (b := (zq3a (zq3b c_ref27_right)).run x k) (by kernel_rfl) h)
end
theorem zq3dΓ : ΓOk Try.prog (pick1 [(58, .spec (zq20 zq24))]) := (ΓOk_cons zq25 ΓOk_nil)
def zq3e : zq39 := zq3b zq24
theorem zq3f : SpecOk Try.prog 37 (zq3a zq3e) := zq3c zq24 zq3dΓ

/-- pagewatch/channel.Fates -/
abbrev zq3g := {β : Type} → (List zq0) → Int → (zq0 → Option β) → Option β
def zq3h (c : zq3g) : Spec :=
  ⟨[(false, [.data (.slice zq1)]), (false, [.data (.int .i64)])], [], [(true, [.data zq1])], [], fun x k => c x.1.1.1 x.1.2.1.1 (fun r0 => k (((r0, ()), ()), ()))⟩
section
variable (c_channel_ValidFate : zq2k) (c_channel_in : zq2d)
@[reducible] def channel_Fates_X : Ctx := ⟨look tab, pick1 [(69, .spec (zq2l c_channel_ValidFate)), (68, .spec (zq2e c_channel_in))], false, false, false, false⟩
def zq3i {β : Type} (l : List zq0) (k_ : Int) (k : (zq0 → Option β)) : Option β :=
  c_channel_in k_ (0 : Int) (IntKind.i64.wrap ((List.length l : Int) - (1 : Int))) (fun (rin : Bool) =>
  cond rin
  (cond (decide (0 ≤ k_) && decide (k_ < (List.length l : Int)))
  (let e : zq0 := List.getD l (Int.toNat k_) (false, ((0 : Int), ((0 : Int), (0 : Int))));
  c_channel_ValidFate e (fun (rValidFate : Bool) =>
  cond rValidFate
  (cond (decide (0 ≤ k_) && decide (k_ < (List.length l : Int)))
  (let e2 : zq0 := List.getD l (Int.toNat k_) (false, ((0 : Int), ((0 : Int), (0 : Int))));
  k e2)
  none)
  (k (true, ((0 : Int), ((0 : Int), (0 : Int)))))))
  none)
  (k (true, ((0 : Int), ((0 : Int), (0 : Int))))))
theorem zq3j (hΓ : ΓOk Try.prog (channel_Fates_X c_channel_ValidFate c_channel_in).Γ) : SpecOk Try.prog 46 (zq3h (zq3i c_channel_ValidFate c_channel_in)) :=
  spec_exec (X := (channel_Fates_X c_channel_ValidFate c_channel_in)) (Λ := pick1 []) (rs := [.cell 4 75]) (c := bodyOf Try.f46) mixed tab_ok hΓ Try.func46 (by kernel_rfl) (by kernel_rfl) (by kernel_rfl) (by kernel_rfl) CutsOk_nil (fun x k r h => Eq.trans (b := (zq3h (zq3i c_channel_ValidFate c_channel_in)).run x k) (by kernel_rfl) h)
end
theorem zq3kΓ : ΓOk Try.prog (pick1 [(69, .spec (zq2l zq2p)), (68, .spec (zq2e zq2i))]) := (ΓOk_cons zq2q (ΓOk_cons zq2j ΓOk_nil))
def zq3l : zq3g := zq3i zq2p zq2i
theorem zq3m : SpecOk Try.prog 46 (zq3h zq3l) := zq3j zq2p zq2i zq3kΓ

/-- pagewatch/channel.Arrivals -/
abbrev zq3n := {β : Type} → Int → zq0 → ((List Int) → Option β) → Option β
def zq3o (c : zq3n) : Spec :=
  ⟨[(false, [.data (.int .i64)]), (true, [.data zq1])], [], [(false, [.rowh 0])], [.row 3 (.int .i64)], fun x k => c x.1.1.1 x.1.2.1.1 (fun r0 => k (((), ()), (r0, ())))⟩
section
variable (c_channel_ValidFate : zq2k) (c_channel_in : zq2d)
@[reducible] def channel_Arrivals_X : Ctx := ⟨look tab, pick1 [(69, .spec (zq2l c_channel_ValidFate)), (68, .spec (zq2e c_channel_in))], false, false, false, false⟩
def zq3p {β : Type} (at_ : Int) (f : zq0) (k : ((List Int) → Option β)) : Option β :=
  c_channel_in at_ (0 : Int) (8589956192 : Int) (fun (rin : Bool) =>
  cond (!rin)
  (k ([] : List Int))
  (c_channel_ValidFate f (fun (rValidFate : Bool) =>
  cond (!rValidFate)
  (k ([] : List Int))
  (cond f.1
  (k ([] : List Int))
  (let l : List Int := ([(IntKind.i64.wrap (at_ + f.2.1))] : List Int);
  cond (!decide (f.2.2.1 = (0 : Int)))
  (let l2 : List Int := ([(IntKind.i64.wrap ((IntKind.i64.wrap (at_ + f.2.1)) + f.2.2.1))] : List Int);
  cond (decide ((List.length l + List.length l2) * 8 ≤ roomMax))
  (let l3 : List Int := (l ++ l2);
  k l3)
  none)
  (k l))))))
theorem zq3q (hΓ : ΓOk Try.prog (channel_Arrivals_X c_channel_ValidFate c_channel_in).Γ) : SpecOk Try.prog 47 (zq3o (zq3p c_channel_ValidFate c_channel_in)) :=
  spec_exec (X := (channel_Arrivals_X c_channel_ValidFate c_channel_in)) (Λ := pick1 []) (rs := [.tmp 4]) (c := bodyOf Try.f47) mixed tab_ok hΓ Try.func47 (by kernel_rfl) (by kernel_rfl) (by kernel_rfl) (by kernel_rfl) CutsOk_nil (fun x k r h => Eq.trans (b := (zq3o (zq3p c_channel_ValidFate c_channel_in)).run x k) (by kernel_rfl) h)
end
theorem zq3rΓ : ΓOk Try.prog (pick1 [(69, .spec (zq2l zq2p)), (68, .spec (zq2e zq2i))]) := (ΓOk_cons zq2q (ΓOk_cons zq2j ΓOk_nil))
def zq3s : zq3n := zq3p zq2p zq2i
theorem zq3t : SpecOk Try.prog 47 (zq3o zq3s) := zq3q zq2p zq2i zq3rΓ

/-- pagewatch/channel.Receipts -/
abbrev zq3u := {β : Type} → Int → zq0 → ((List Int) → Option β) → Option β
def zq3v (c : zq3u) : Spec :=
  ⟨[(false, [.data (.int .i64)]), (true, [.data zq1])], [], [(false, [.rowh 0])], [.row 3 (.int .i64)], fun x k => c x.1.1.1 x.1.2.1.1 (fun r0 => k (((), ()), (r0, ())))⟩
noncomputable def channel_Receipts_p1_code : Code := codeAt 122 (bodyOf Try.f48)
abbrev zq3w (β : Type) := (List Int) → Option β
abbrev zq3x := {β : Type} → zq3w β → Int → Int → Bool → Int → Int → Int → (List Int) → Option β
def zq3y : View := ⟨0, [3, 5, 14, 15], [(false, [.ptr 0 0]), (false, [.rowh 1]), (false, [.data (.int .i64)]), (false, [.data (.int .i64)])], [.cells 75 [.data .bool, .data (.int .i64), .data (.int .i64), .data (.int .i64)], .row 3 (.int .i64)]⟩
def zq3z : List (AExit × View) := [(.exit 0, ⟨0, [5], [(false, [.rowh 0])], [.row 3 (.int .i64)]⟩)]
@[reducible] def channel_Receipts_p1_G (p : zq3x) {β : Type} (d : zq3y.den) (ks : Outs.K β zq3z) : Option β :=
  p (fun a0 => ks.1 (((), ()), (a0, ()))) d.1.2.2.1.1 d.1.2.2.2.1.1 d.2.1.1 d.2.1.2.1 d.2.1.2.2.1 d.2.1.2.2.2.1 d.2.2.1
section
variable (c_channel_Arrivals : zq3n)
@[reducible] def channel_Receipts_X : Ctx := ⟨look tab, pick1 [(47, .spec (zq3o c_channel_Arrivals))], false, false, false, false⟩
def zq40 {β : Type} (rec : Int → Int → Bool → Int → Int → Int → (List Int) → Option β) (k1 : zq3w β) (t14 : Int) (t15 : Int) (f : Bool) (f2 : Int) (f3 : Int) (f4 : Int) (out : List Int) : Option β :=
  cond (decide (t15 < t14))
  (cond (decide (0 ≤ t15) && decide (t15 < (List.length out : Int)))
  (cond (decide (0 ≤ t15) && decide (t15 < (List.length out : Int)))
  (let l : List Int := (List.set out (Int.toNat t15) (IntKind.i64.wrap ((List.getD out (Int.toNat t15) (0 : Int)) + f4)));
  rec t14 (IntKind.i64.wrap (t15 + (1 : Int))) f f2 f3 f4 l)
  none)
  none)
  (k1 out)
def zq41 {β : Type} : Nat → zq3w β → Int → Int → Bool → Int → Int → Int → (List Int) → Option β
  | 0 => fun _ _ _ _ _ _ _ _ => none
  | i + 1 => fun k1 t14 t15 f f2 f3 f4 out => zq40 (zq41 i k1) k1 t14 t15 f f2 f3 f4 out
theorem zq42 (hΓ : ΓOk Try.prog (channel_Receipts_X c_channel_Arrivals).Γ) (i : Nat) : PieceOk Try.prog 28 0 channel_Receipts_p1_code zq3y zq3z (channel_Receipts_p1_G (zq41 i)) := by
  rw [show channel_Receipts_p1_code = .loop (loopBody channel_Receipts_p1_code) by kernel_rfl]
  exact piece_loop (X := (channel_Receipts_X c_channel_Arrivals)) (p := 1) (Λ := pick1 []) (G := fun i => @fun β d ks => channel_Receipts_p1_G (zq41 i) d ks) mixed tab_ok hΓ rfl (by kernel_rfl) CutsOk_nil (fun _ _ => rfl) (fun i => @fun β d ks r h => Eq.trans (b := channel_Receipts_p1_G (zq41 (i + 1)) d ks) (by kernel_rfl) h) i
def zq43 (p1 : zq3x) {β : Type} (at_ : Int) (f : zq0) (k : ((List Int) → Option β)) : Option β :=
  c_channel_Arrivals at_ f (fun (lrArrivals : List Int) =>
  cond (decide (f.2.2.2 = (-1 : Int)))
  (k ([] : List Int))
  (p1 (fun (out : List Int) =>
  k out) (List.length lrArrivals : Int) (0 : Int) f.1 f.2.1 f.2.2.1 f.2.2.2 lrArrivals))
theorem zq44 (hΓ : ΓOk Try.prog (channel_Receipts_X c_channel_Arrivals).Γ) (p1 : zq3x) (hp1 : PieceOk Try.prog 28 0 channel_Receipts_p1_code zq3y zq3z (channel_Receipts_p1_G p1)) : SpecOk Try.prog 48 (zq3v (zq43 c_channel_Arrivals p1)) :=
  spec_exec (X := (channel_Receipts_X c_channel_Arrivals)) (Λ := pick1 [(122, pieceCut zq3y zq3z (channel_Receipts_p1_G p1))]) (rs := [.tmp 4]) (c := bodyOf Try.f48) mixed tab_ok hΓ Try.func48 (by kernel_rfl) (by kernel_rfl) (by kernel_rfl) (by kernel_rfl) (CutsOk_cons (q := 122) (c' := channel_Receipts_p1_code) (by kernel_rfl) rfl hp1 CutsOk_nil) (fun x k r h => Eq.trans (b := (zq3v (zq43 c_channel_Arrivals p1)).run x k) (by kernel_rfl) h)
end
theorem zq45Γ : ΓOk Try.prog (pick1 [(47, .spec (zq3o zq3s))]) := (ΓOk_cons zq3t ΓOk_nil)
def zq46 (m : Nat) : zq3x := zq41 m
theorem zq47 {β : Type} (i : Nat) (k1 t14 t15 f f2 f3 f4 out) : (zq46 (i + 1) k1 t14 t15 f f2 f3 f4 out : Option β) = zq40 (zq46 i k1) k1 t14 t15 f f2 f3 f4 out := rfl
def zq48 : zq3x := zq46 fuel
theorem zq49 : PieceOk Try.prog 28 0 channel_Receipts_p1_code zq3y zq3z (channel_Receipts_p1_G zq48) := zq42 zq3s zq45Γ fuel
def zq4a : zq3u := zq43 zq3s zq48
theorem zq4b : SpecOk Try.prog 48 (zq3v zq4a) := zq44 zq3s zq45Γ zq48 zq49

/-- pagewatch/pagewatchref26.Valid -/
abbrev zq4c := {β : Type} → (Int × (Int × (Int × Int))) → (Bool → Option β) → Option β
def zq4d (c : zq4c) : Spec :=
  ⟨[(true, [.data (.prod (.int .i64) (.prod (.int .i64) (.prod (.int .i64) (.int .i64))))])], [], [(false, [.data .bool])], [], fun x k => c x.1.1.1 (fun r0 => k (((r0, ()), ()), ()))⟩
section
variable (c_ref25_In : zq1l)
@[reducible] def ref26_Valid_X : Ctx := ⟨look tab, pick1 [(56, .spec (zq1m c_ref25_In))], false, false, false, false⟩
def zq4e {β : Type} (ch : (Int × (Int × (Int × Int)))) (k : (Bool → Option β)) : Option β :=
  c_ref25_In ch.1 (0 : Int) (2 : Int) (fun (rIn : Bool) =>
  cond rIn
  (c_ref25_In ch.2.1 (0 : Int) (3600 : Int) (fun (rIn2 : Bool) =>
  cond rIn2
  (c_ref25_In ch.2.2.1 (1 : Int) (6 : Int) (fun (rIn3 : Bool) =>
  cond rIn3
  (c_ref25_In ch.2.2.2 (1 : Int) (3600 : Int) (fun (rIn4 : Bool) =>
  k rIn4))
  (k false)))
  (k false)))
  (k false))
theorem zq4f (hΓ : ΓOk Try.prog (ref26_Valid_X c_ref25_In).Γ) : SpecOk Try.prog 54 (zq4d (zq4e c_ref25_In)) :=
  spec_exec (X := (ref26_Valid_X c_ref25_In)) (Λ := pick1 []) (rs := [.tmp 2]) (c := bodyOf Try.f54) mixed tab_ok hΓ Try.func54 (by kernel_rfl) (by kernel_rfl) (by kernel_rfl) (by kernel_rfl) CutsOk_nil (fun x k r h => Eq.trans (b := (zq4d (zq4e c_ref25_In)).run x k) (by kernel_rfl) h)
end
theorem zq4gΓ : ΓOk Try.prog (pick1 [(56, .spec (zq1m zq1q))]) := (ΓOk_cons zq1r ΓOk_nil)
def zq4h : zq4c := zq4e zq1q
theorem zq4i : SpecOk Try.prog 54 (zq4d zq4h) := zq4f zq1q zq4gΓ

/-- pagewatch/delivery.numbers -/
abbrev zq4j := {β : Type} → zq2 → (Bool → Option β) → Option β
def zq4k (c : zq4j) : Spec :=
  ⟨[(true, [.data zq3])], [], [(false, [.data .bool])], [], fun x k => c x.1.1.1 (fun r0 => k (((r0, ()), ()), ()))⟩
section
variable (c_delivery_in : zq13) (c_delivery_person : zq26)
@[reducible] def delivery_numbers_X : Ctx := ⟨look tab, pick1 [(39, .spec (zq14 c_delivery_in)), (60, .spec (zq27 c_delivery_person))], false, false, false, false⟩
def zq4l {β : Type} (c : zq2) (k : (Bool → Option β)) : Option β :=
  cond (decide ((1 : Int) ≤ c.1))
  (cond (decide ((-1 : Int) ≤ c.2.1))
  (c_delivery_person c.2.2.1 (fun (rperson : Bool) =>
  cond rperson
  (c_delivery_in c.2.2.2.1 (0 : Int) (8589934592 : Int) (fun (rin : Bool) =>
  k rin))
  (k false)))
  (k false))
  (k false)
theorem zq4m (hΓ : ΓOk Try.prog (delivery_numbers_X c_delivery_in c_delivery_person).Γ) : SpecOk Try.prog 59 (zq4k (zq4l c_delivery_in c_delivery_person)) :=
  spec_exec (X := (delivery_numbers_X c_delivery_in c_delivery_person)) (Λ := pick1 []) (rs := [.tmp 2]) (c := bodyOf Try.f59) mixed tab_ok hΓ Try.func59 (by kernel_rfl) (by kernel_rfl) (by kernel_rfl) (by kernel_rfl) CutsOk_nil (fun x k r h => Eq.trans (b := (zq4k (zq4l c_delivery_in c_delivery_person)).run x k) (by kernel_rfl) h)
end
theorem zq4nΓ : ΓOk Try.prog (pick1 [(39, .spec (zq14 zq18)), (60, .spec (zq27 zq2b))]) := (ΓOk_cons zq19 (ΓOk_cons zq2c ΓOk_nil))
def zq4o : zq4j := zq4l zq18 zq2b
theorem zq4p : SpecOk Try.prog 59 (zq4k zq4o) := zq4m zq18 zq2b zq4nΓ

/-- pagewatch/channel.Valid -/
abbrev zq4q := {β : Type} → (Int × (Int × (Int × Int))) → (Bool → Option β) → Option β
def zq4r (c : zq4q) : Spec :=
  ⟨[(true, [.data (.prod (.int .i64) (.prod (.int .i64) (.prod (.int .i64) (.int .i64))))])], [], [(false, [.data .bool])], [], fun x k => c x.1.1.1 (fun r0 => k (((r0, ()), ()), ()))⟩
section
variable (c_channel_in : zq2d)
@[reducible] def channel_Valid_X : Ctx := ⟨look tab, pick1 [(68, .spec (zq2e c_channel_in))], false, false, false, false⟩
def zq4s {β : Type} (ch : (Int × (Int × (Int × Int)))) (k : (Bool → Option β)) : Option β :=
  c_channel_in ch.1 (0 : Int) (2 : Int) (fun (rin : Bool) =>
  cond rin
  (c_channel_in ch.2.1 (0 : Int) (3600 : Int) (fun (rin2 : Bool) =>
  cond rin2
  (c_channel_in ch.2.2.1 (1 : Int) (6 : Int) (fun (rin3 : Bool) =>
  cond rin3
  (c_channel_in ch.2.2.2 (1 : Int) (3600 : Int) (fun (rin4 : Bool) =>
  k rin4))
  (k false)))
  (k false)))
  (k false))
theorem zq4t (hΓ : ΓOk Try.prog (channel_Valid_X c_channel_in).Γ) : SpecOk Try.prog 63 (zq4r (zq4s c_channel_in)) :=
  spec_exec (X := (channel_Valid_X c_channel_in)) (Λ := pick1 []) (rs := [.tmp 2]) (c := bodyOf Try.f63) mixed tab_ok hΓ Try.func63 (by kernel_rfl) (by kernel_rfl) (by kernel_rfl) (by kernel_rfl) CutsOk_nil (fun x k r h => Eq.trans (b := (zq4r (zq4s c_channel_in)).run x k) (by kernel_rfl) h)
end
theorem zq4uΓ : ΓOk Try.prog (pick1 [(68, .spec (zq2e zq2i))]) := (ΓOk_cons zq2j ΓOk_nil)
def zq4v : zq4q := zq4s zq2i
theorem zq4w : SpecOk Try.prog 63 (zq4r zq4v) := zq4t zq2i zq4uΓ

/-- pagewatch/pagewatchref27.Valid -/
abbrev zq4x := {β : Type} → (Int × List (Int × (Int × (Int × Int)))) → (Bool → Option β) → Option β
def zq4y (c : zq4x) : Spec :=
  ⟨[(true, [.data (.prod (.int .i64) (.slice (.prod (.int .i64) (.prod (.int .i64) (.prod (.int .i64) (.int .i64))))))])], [], [(false, [.data .bool])], [], fun x k => c x.1.1.1 (fun r0 => k (((r0, ()), ()), ()))⟩
noncomputable def ref27_Valid_p1_code : Code := codeAt 58 (bodyOf Try.f32)
abbrev zq4z (β : Type) := Bool → Option β
abbrev zq50 (β : Type) := Unit → Option β
abbrev zq51 := {β : Type} → zq4z β → zq50 β → Int → Int → (List (Int × (Int × (Int × Int)))) → Option β
def zq52 : View := ⟨0, [1, 3], [(false, [.ptr 0 0]), (false, [.data (.int .i64)])], [.cells 29 [.data (.int .i64), .data (.slice (.prod (.int .i64) (.prod (.int .i64) (.prod (.int .i64) (.int .i64)))))]]⟩
def zq53 : List (AExit × View) := [(.ret, ⟨0, [2], [(false, [.data .bool])], []⟩), (.exit 0, ⟨0, [], [], []⟩)]
@[reducible] def ref27_Valid_p1_G (p : zq51) {β : Type} (d : zq52.den) (ks : Outs.K β zq53) : Option β :=
  p (fun a0 => ks.1 (((a0, ()), ()), ())) (fun _ => ks.2.1 ((), ())) d.1.2.1.1 d.2.1.1 d.2.1.2.1
section
variable (c_ref25_In : zq1l) (c_ref26_Valid : zq4c)
@[reducible] def ref27_Valid_X : Ctx := ⟨look tab, pick1 [(56, .spec (zq1m c_ref25_In)), (54, .spec (zq4d c_ref26_Valid))], false, false, false, false⟩
def zq54 {β : Type} (rec : Int → Int → (List (Int × (Int × (Int × Int)))) → Option β) (k1 : zq4z β) (k2 : zq50 β) (i_ : Int) (p_ : Int) (p_2 : List (Int × (Int × (Int × Int)))) : Option β :=
  cond (decide (i_ < (List.length p_2 : Int)))
  (cond (decide (0 ≤ i_) && decide (i_ < (List.length p_2 : Int)))
  (let e : (Int × (Int × (Int × Int))) := List.getD p_2 (Int.toNat i_) ((0 : Int), ((0 : Int), ((0 : Int), (0 : Int))));
  c_ref26_Valid e (fun (rValid : Bool) =>
  cond (!rValid)
  (k1 false)
  (let i_2 : Int := (IntKind.i64.wrap (i_ + (1 : Int)));
  rec i_2 p_ p_2)))
  none)
  (k2 ())
def zq55 {β : Type} : Nat → zq4z β → zq50 β → Int → Int → (List (Int × (Int × (Int × Int)))) → Option β
  | 0 => fun _ _ _ _ _ => none
  | i + 1 => fun k1 k2 i_ p_ p_2 => zq54 c_ref26_Valid (zq55 i k1 k2) k1 k2 i_ p_ p_2
theorem zq56 (hΓ : ΓOk Try.prog (ref27_Valid_X c_ref25_In c_ref26_Valid).Γ) (i : Nat) : PieceOk Try.prog 28 0 ref27_Valid_p1_code zq52 zq53 (ref27_Valid_p1_G (zq55 c_ref26_Valid i)) := by
  rw [show ref27_Valid_p1_code = .loop (loopBody ref27_Valid_p1_code) by kernel_rfl]
  exact piece_loop (X := (ref27_Valid_X c_ref25_In c_ref26_Valid)) (p := 1) (Λ := pick1 []) (G := fun i => @fun β d ks => ref27_Valid_p1_G (zq55 c_ref26_Valid i) d ks) mixed tab_ok hΓ rfl (by kernel_rfl) CutsOk_nil (fun _ _ => rfl) (fun i => @fun β d ks r h => Eq.trans (b := ref27_Valid_p1_G (zq55 c_ref26_Valid (i + 1)) d ks) (by kernel_rfl) h) i
def zq57 (p1 : zq51) {β : Type} (p_ : (Int × List (Int × (Int × (Int × Int))))) (k : (Bool → Option β)) : Option β :=
  c_ref25_In p_.1 (0 : Int) (31 : Int) (fun (rIn : Bool) =>
  cond (!rIn)
  (k false)
  (cond (decide ((4 : Int) < (List.length p_.2 : Int)))
  (k false)
  (p1 (fun (t2 : Bool) =>
  k t2) (fun (_ : Unit) =>
  k true) (0 : Int) p_.1 p_.2)))
theorem zq58 (hΓ : ΓOk Try.prog (ref27_Valid_X c_ref25_In c_ref26_Valid).Γ) (p1 : zq51) (hp1 : PieceOk Try.prog 28 0 ref27_Valid_p1_code zq52 zq53 (ref27_Valid_p1_G p1)) : SpecOk Try.prog 32 (zq4y (zq57 c_ref25_In p1)) :=
  spec_exec (X := (ref27_Valid_X c_ref25_In c_ref26_Valid)) (Λ := pick1 [(58, pieceCut zq52 zq53 (ref27_Valid_p1_G p1))]) (rs := [.tmp 2]) (c := bodyOf Try.f32) mixed tab_ok hΓ Try.func32 (by kernel_rfl) (by kernel_rfl) (by kernel_rfl) (by kernel_rfl) (CutsOk_cons (q := 58) (c' := ref27_Valid_p1_code) (by kernel_rfl) rfl hp1 CutsOk_nil) (fun x k r h => Eq.trans (b := (zq4y (zq57 c_ref25_In p1)).run x k) (by kernel_rfl) h)
end
theorem zq59Γ : ΓOk Try.prog (pick1 [(56, .spec (zq1m zq1q)), (54, .spec (zq4d zq4h))]) := (ΓOk_cons zq1r (ΓOk_cons zq4i ΓOk_nil))
def zq5a (m : Nat) : zq51 := zq55 zq4h m
theorem zq5b {β : Type} (i : Nat) (k1 k2 i_ p_ p_2) : (zq5a (i + 1) k1 k2 i_ p_ p_2 : Option β) = zq54 zq4h (zq5a i k1 k2) k1 k2 i_ p_ p_2 := rfl
def zq5c : zq51 := zq5a fuel
theorem zq5d : PieceOk Try.prog 28 0 ref27_Valid_p1_code zq52 zq53 (ref27_Valid_p1_G zq5c) := zq56 zq1q zq4h zq59Γ fuel
def zq5e : zq4x := zq57 zq1q zq5c
theorem zq5f : SpecOk Try.prog 32 (zq4y zq5e) := zq58 zq1q zq4h zq59Γ zq5c zq5d

/-- pagewatch/delivery.Valid$1 -/
abbrev zq5g := {β : Type} → (Int × (Int × (Int × Int))) → (Bool → Option β) → Option β
def zq5h (c : zq5g) : Spec :=
  ⟨[(true, [.data (.prod (.int .i64) (.prod (.int .i64) (.prod (.int .i64) (.int .i64))))])], [], [(false, [.data .bool])], [], fun x k => c x.1.1.1 (fun r0 => k (((r0, ()), ()), ()))⟩
section
variable (c_channel_Valid : zq4q)
@[reducible] def delivery_Valid_f1_X : Ctx := ⟨look tab, pick1 [(63, .spec (zq4r c_channel_Valid))], false, false, false, false⟩
def zq5i {β : Type} (ch : (Int × (Int × (Int × Int)))) (k : (Bool → Option β)) : Option β :=
  c_channel_Valid ch (fun (rValid : Bool) =>
  k (!rValid))
theorem zq5j (hΓ : ΓOk Try.prog (delivery_Valid_f1_X c_channel_Valid).Γ) : SpecOk Try.prog 62 (zq5h (zq5i c_channel_Valid)) :=
  spec_exec (X := (delivery_Valid_f1_X c_channel_Valid)) (Λ := pick1 []) (rs := [.tmp 2]) (c := bodyOf Try.f62) mixed tab_ok hΓ Try.func62 (by kernel_rfl) (by kernel_rfl) (by kernel_rfl) (by kernel_rfl) CutsOk_nil (fun x k r h => Eq.trans (b := (zq5h (zq5i c_channel_Valid)).run x k) (by kernel_rfl) h)
end
theorem zq5kΓ : ΓOk Try.prog (pick1 [(63, .spec (zq4r zq4v))]) := (ΓOk_cons zq4w ΓOk_nil)
def zq5l : zq5g := zq5i zq4v
theorem zq5m : SpecOk Try.prog 62 (zq5h zq5l) := zq5j zq4v zq5kΓ

/-- pagewatch/pagewatchref27.Plan -/
abbrev zq5n := {β : Type} → (Int × List (Int × (Int × (Int × Int)))) → Int → ((List (Int × (Int × Int))) → Option β) → Option β
def zq5o (c : zq5n) : Spec :=
  ⟨[(true, [.data (.prod (.int .i64) (.slice (.prod (.int .i64) (.prod (.int .i64) (.prod (.int .i64) (.int .i64))))))]), (false, [.data (.int .i64)])], [], [(false, [.rowh 0])], [.row 39 (.prod (.int .i64) (.prod (.int .i64) (.int .i64)))], fun x k => c x.1.1.1 x.1.2.1.1 (fun r0 => k (((), ()), (r0, ())))⟩
noncomputable def ref27_Plan_p3_code : Code := codeAt 122 (bodyOf Try.f21)
noncomputable def ref27_Plan_p2_code : Code := codeAt 50 (loopBody ref27_Plan_p3_code)
noncomputable def ref27_Plan_p1_code : Code := codeAt 204 (loopBody ref27_Plan_p2_code)
abbrev zq5p (β : Type) := Int → Int → Int → Int → Int → (List (Int × (Int × (Int × Int)))) → (List (Int × (Int × Int))) → Int → Int → Int → Option β
abbrev zq5q := {β : Type} → zq5p β → Int → Int → Int → Int → Int → (List (Int × (Int × (Int × Int)))) → (List (Int × (Int × Int))) → Int → Int → Int → Option β
def zq5r : View := ⟨0, [1, 2, 5, 6, 7, 8, 9], [(false, [.data (.int .i64)]), (false, [.ptr 0 0]), (false, [.rowh 1]), (false, [.data (.int .i64)]), (false, [.data (.int .i64)]), (false, [.ptr 2 0]), (false, [.data (.int .i64)])], [.cells 29 [.data (.int .i64), .data (.slice (.prod (.int .i64) (.prod (.int .i64) (.prod (.int .i64) (.int .i64)))))], .row 39 (.prod (.int .i64) (.prod (.int .i64) (.int .i64))), .cells 39 [.data (.int .i64), .data (.int .i64), .data (.int .i64)]]⟩
def zq5s : List (AExit × View) := [(.exit 4, ⟨0, [1, 2, 5, 6, 7, 8, 9], [(false, [.data (.int .i64)]), (false, [.ptr 0 0]), (false, [.rowh 1]), (false, [.data (.int .i64)]), (false, [.data (.int .i64)]), (false, [.ptr 2 0]), (false, [.data (.int .i64)])], [.cells 29 [.data (.int .i64), .data (.slice (.prod (.int .i64) (.prod (.int .i64) (.prod (.int .i64) (.int .i64)))))], .row 39 (.prod (.int .i64) (.prod (.int .i64) (.int .i64))), .cells 39 [.data (.int .i64), .data (.int .i64), .data (.int .i64)]]⟩)]
@[reducible] def ref27_Plan_p1_G (p : zq5q) {β : Type} (d : zq5r.den) (ks : Outs.K β zq5s) : Option β :=
  p (fun a0 a1 a2 a3 a4 a5 a6 a7 a8 a9 => ks.1 (((a0, ()), (), (), (a1, ()), (a2, ()), (), (a3, ()), ()), ((a4, a5, ()), a6, (a7, a8, a9, ()), ()))) d.1.1.1 d.1.2.2.2.1.1 d.1.2.2.2.2.1.1 d.1.2.2.2.2.2.2.1.1 d.2.1.1 d.2.1.2.1 d.2.2.1 d.2.2.2.1.1 d.2.2.2.1.2.1 d.2.2.2.1.2.2.1
abbrev zq5t (β : Type) := Int → Int → Int → (List (Int × (Int × (Int × Int)))) → (List (Int × (Int × Int))) → Option β
abbrev zq5u := {β : Type} → zq5t β → Int → Int → Int → Int → (List (Int × (Int × (Int × Int)))) → (List (Int × (Int × Int))) → Option β
def zq5v : View := ⟨0, [1, 2, 5, 6, 7], [(false, [.data (.int .i64)]), (false, [.ptr 0 0]), (false, [.rowh 1]), (false, [.data (.int .i64)]), (false, [.data (.int .i64)])], [.cells 29 [.data (.int .i64), .data (.slice (.prod (.int .i64) (.prod (.int .i64) (.prod (.int .i64) (.int .i64)))))], .row 39 (.prod (.int .i64) (.prod (.int .i64) (.int .i64)))]⟩
def zq5w : List (AExit × View) := [(.exit 2, ⟨0, [1, 2, 5, 6], [(false, [.data (.int .i64)]), (false, [.ptr 0 0]), (false, [.rowh 1]), (false, [.data (.int .i64)])], [.cells 29 [.data (.int .i64), .data (.slice (.prod (.int .i64) (.prod (.int .i64) (.prod (.int .i64) (.int .i64)))))], .row 39 (.prod (.int .i64) (.prod (.int .i64) (.int .i64)))]⟩)]
@[reducible] def ref27_Plan_p2_G (p : zq5u) {β : Type} (d : zq5v.den) (ks : Outs.K β zq5w) : Option β :=
  p (fun a0 a1 a2 a3 a4 => ks.1 (((a0, ()), (), (), (a1, ()), ()), ((a2, a3, ()), a4, ()))) d.1.1.1 d.1.2.2.2.1.1 d.1.2.2.2.2.1.1 d.2.1.1 d.2.1.2.1 d.2.2.1
abbrev zq5x (β : Type) := (List (Int × (Int × Int))) → Option β
abbrev zq5y := {β : Type} → zq5x β → Int → Int → Int → (List (Int × (Int × (Int × Int)))) → (List (Int × (Int × Int))) → Option β
def zq5z : View := ⟨0, [1, 2, 5, 6], [(false, [.data (.int .i64)]), (false, [.ptr 0 0]), (false, [.rowh 1]), (false, [.data (.int .i64)])], [.cells 29 [.data (.int .i64), .data (.slice (.prod (.int .i64) (.prod (.int .i64) (.prod (.int .i64) (.int .i64)))))], .row 39 (.prod (.int .i64) (.prod (.int .i64) (.int .i64)))]⟩
def zq60 : List (AExit × View) := [(.exit 0, ⟨0, [5], [(false, [.rowh 0])], [.row 39 (.prod (.int .i64) (.prod (.int .i64) (.int .i64)))]⟩)]
@[reducible] def ref27_Plan_p3_G (p : zq5y) {β : Type} (d : zq5z.den) (ks : Outs.K β zq60) : Option β :=
  p (fun a0 => ks.1 (((), ()), (a0, ()))) d.1.1.1 d.1.2.2.2.1.1 d.2.1.1 d.2.1.2.1 d.2.2.1
section
variable (c_ref25_In : zq1l) (c_ref27_Valid : zq4x) (c_ref27_ahead : zq1s)
@[reducible] def ref27_Plan_X : Ctx := ⟨look tab, pick1 [(56, .spec (zq1m c_ref25_In)), (32, .spec (zq4y c_ref27_Valid)), (57, .spec (zq1t c_ref27_ahead))], false, false, false, false⟩
def zq61 {β : Type} (rec : Int → Int → Int → Int → Int → (List (Int × (Int × (Int × Int)))) → (List (Int × (Int × Int))) → Int → Int → Int → Option β) (k1 : zq5p β) (start : Int) (c : Int) (i_ : Int) (k_ : Int) (p_ : Int) (p_2 : List (Int × (Int × (Int × Int)))) (out : List (Int × (Int × Int))) (x : Int) (x2 : Int) (x3 : Int) : Option β :=
  cond (decide ((0 : Int) < k_))
  (cond (decide (0 ≤ (IntKind.i64.wrap (k_ - (1 : Int)))) && decide ((IntKind.i64.wrap (k_ - (1 : Int))) < (List.length out : Int)))
  (c_ref27_ahead (x, (x2, x3)) ((List.getD out (Int.toNat (IntKind.i64.wrap (k_ - (1 : Int)))) ((0 : Int), ((0 : Int), (0 : Int)))).1, ((List.getD out (Int.toNat (IntKind.i64.wrap (k_ - (1 : Int)))) ((0 : Int), ((0 : Int), (0 : Int)))).2)) (fun (rahead : Bool) =>
  cond rahead
  (let k_2 : Int := (IntKind.i64.wrap (k_ - (1 : Int)));
  rec start c i_ k_2 p_ p_2 out x x2 x3)
  (k1 start c i_ k_ p_ p_2 out x x2 x3)))
  none)
  (k1 start c i_ k_ p_ p_2 out x x2 x3)
def zq62 {β : Type} : Nat → zq5p β → Int → Int → Int → Int → Int → (List (Int × (Int × (Int × Int)))) → (List (Int × (Int × Int))) → Int → Int → Int → Option β
  | 0 => fun _ _ _ _ _ _ _ _ _ _ _ => none
  | i + 1 => fun k1 start c i_ k_ p_ p_2 out x x2 x3 => zq61 c_ref27_ahead (zq62 i k1) k1 start c i_ k_ p_ p_2 out x x2 x3
theorem zq63 (hΓ : ΓOk Try.prog (ref27_Plan_X c_ref25_In c_ref27_Valid c_ref27_ahead).Γ) (i : Nat) : PieceOk Try.prog 80 0 ref27_Plan_p1_code zq5r zq5s (ref27_Plan_p1_G (zq62 c_ref27_ahead i)) := by
  rw [show ref27_Plan_p1_code = .loop (loopBody ref27_Plan_p1_code) by kernel_rfl]
  exact piece_loop (X := (ref27_Plan_X c_ref25_In c_ref27_Valid c_ref27_ahead)) (p := 1) (Λ := pick1 []) (G := fun i => @fun β d ks => ref27_Plan_p1_G (zq62 c_ref27_ahead i) d ks) mixed tab_ok hΓ rfl (by kernel_rfl) CutsOk_nil (fun _ _ => rfl) (fun i => @fun β d ks r h => Eq.trans (b := ref27_Plan_p1_G (zq62 c_ref27_ahead (i + 1)) d ks) (by kernel_rfl) h) i
def zq64 (p1 : zq5q) {β : Type} (rec : Int → Int → Int → Int → (List (Int × (Int × (Int × Int)))) → (List (Int × (Int × Int))) → Option β) (k1 : zq5t β) (start : Int) (c : Int) (i_ : Int) (p_ : Int) (p_2 : List (Int × (Int × (Int × Int)))) (out : List (Int × (Int × Int))) : Option β :=
  cond (decide (0 ≤ c) && decide (c < (List.length p_2 : Int)))
  (let e : (Int × (Int × (Int × Int))) := List.getD p_2 (Int.toNat c) ((0 : Int), ((0 : Int), ((0 : Int), (0 : Int))));
  cond (decide (i_ < e.2.2.1))
  (cond (decide (0 ≤ c) && decide (c < (List.length p_2 : Int)))
  (let e2 : (Int × (Int × (Int × Int))) := List.getD p_2 (Int.toNat c) ((0 : Int), ((0 : Int), ((0 : Int), (0 : Int))));
  p1 (fun (start2 : Int) (c2 : Int) (i_2 : Int) (k_ : Int) (p_3 : Int) (p_4 : List (Int × (Int × (Int × Int)))) (out2 : List (Int × (Int × Int))) (x : Int) (x2 : Int) (x3 : Int) =>
  let l : List (Int × (Int × Int)) := ([(x, (x2, x3))] : List (Int × (Int × Int)));
  cond (decide ((List.length out2 + List.length l) * 24 ≤ roomMax))
  (let l2 : List (Int × (Int × Int)) := (out2 ++ l);
  cond (decide (0 ≤ (IntKind.i64.wrap (k_ + (1 : Int)))) && (decide ((IntKind.i64.wrap (k_ + (1 : Int))) ≤ (List.length l2 : Int)) && decide ((List.length l2 : Int) ≤ (List.length l2 : Int))))
  (cond (decide (0 ≤ k_) && (decide (k_ ≤ (List.length l2 : Int)) && decide ((List.length l2 : Int) ≤ (List.length l2 : Int))))
  (let l3 : List (Int × (Int × Int)) := (List.take (Int.toNat (IntKind.i64.wrap (k_ + (1 : Int)))) l2 ++ (List.take ((List.length l2) - (Int.toNat (IntKind.i64.wrap (k_ + (1 : Int))))) (List.drop (Int.toNat k_) (List.take (List.length l2) l2)) ++ List.drop ((Int.toNat (IntKind.i64.wrap (k_ + (1 : Int)))) + (Nat.min (List.length (List.drop (Int.toNat k_) (List.take (List.length l2) l2))) ((List.length l2) - (Int.toNat (IntKind.i64.wrap (k_ + (1 : Int))))))) l2));
  cond (decide (0 ≤ k_) && decide (k_ < (List.length l3 : Int)))
  (let l4 : List (Int × (Int × Int)) := (List.set l3 (Int.toNat k_) (x, (x2, x3)));
  let i_3 : Int := (IntKind.i64.wrap (i_2 + (1 : Int)));
  rec start2 c2 i_3 p_3 p_4 l4)
  none)
  none)
  none)
  none) start c i_ (List.length out : Int) p_ p_2 out c i_ (IntKind.i64.wrap (start + (IntKind.i64.wrap (i_ * e2.2.2.2)))))
  none)
  (k1 start c p_ p_2 out))
  none
def zq65 (p1 : zq5q) {β : Type} : Nat → zq5t β → Int → Int → Int → Int → (List (Int × (Int × (Int × Int)))) → (List (Int × (Int × Int))) → Option β
  | 0 => fun _ _ _ _ _ _ _ => none
  | i + 1 => fun k1 start c i_ p_ p_2 out => zq64 p1 (zq65 p1 i k1) k1 start c i_ p_ p_2 out
theorem zq66 (hΓ : ΓOk Try.prog (ref27_Plan_X c_ref25_In c_ref27_Valid c_ref27_ahead).Γ) (p1 : zq5q) (hp1 : PieceOk Try.prog 80 0 ref27_Plan_p1_code zq5r zq5s (ref27_Plan_p1_G p1)) (i : Nat) : PieceOk Try.prog 80 0 ref27_Plan_p2_code zq5v zq5w (ref27_Plan_p2_G (zq65 p1 i)) := by
  rw [show ref27_Plan_p2_code = .loop (loopBody ref27_Plan_p2_code) by kernel_rfl]
  exact piece_loop (X := (ref27_Plan_X c_ref25_In c_ref27_Valid c_ref27_ahead)) (p := 1) (Λ := pick1 [(204, pieceCut zq5r zq5s (ref27_Plan_p1_G p1))]) (G := fun i => @fun β d ks => ref27_Plan_p2_G (zq65 p1 i) d ks) mixed tab_ok hΓ rfl (by kernel_rfl) (CutsOk_cons (q := 204) (c' := ref27_Plan_p1_code) (by kernel_rfl) rfl hp1 CutsOk_nil) (fun _ _ => rfl) (fun i => @fun β d ks r h => Eq.trans (b := ref27_Plan_p2_G (zq65 p1 (i + 1)) d ks) (by kernel_rfl) h) i
def zq67 (p2 : zq5u) {β : Type} (rec : Int → Int → Int → (List (Int × (Int × (Int × Int)))) → (List (Int × (Int × Int))) → Option β) (k1 : zq5x β) (start : Int) (c : Int) (p_ : Int) (p_2 : List (Int × (Int × (Int × Int)))) (out : List (Int × (Int × Int))) : Option β :=
  cond (decide (c < (List.length p_2 : Int)))
  (p2 (fun (start2 : Int) (c2 : Int) (p_3 : Int) (p_4 : List (Int × (Int × (Int × Int)))) (out2 : List (Int × (Int × Int))) =>
  let c3 : Int := (IntKind.i64.wrap (c2 + (1 : Int)));
  rec start2 c3 p_3 p_4 out2) start c (0 : Int) p_ p_2 out)
  (k1 out)
def zq68 (p2 : zq5u) {β : Type} : Nat → zq5x β → Int → Int → Int → (List (Int × (Int × (Int × Int)))) → (List (Int × (Int × Int))) → Option β
  | 0 => fun _ _ _ _ _ _ => none
  | i + 1 => fun k1 start c p_ p_2 out => zq67 p2 (zq68 p2 i k1) k1 start c p_ p_2 out
theorem zq69 (hΓ : ΓOk Try.prog (ref27_Plan_X c_ref25_In c_ref27_Valid c_ref27_ahead).Γ) (p2 : zq5u) (hp2 : PieceOk Try.prog 80 0 ref27_Plan_p2_code zq5v zq5w (ref27_Plan_p2_G p2)) (i : Nat) : PieceOk Try.prog 80 0 ref27_Plan_p3_code zq5z zq60 (ref27_Plan_p3_G (zq68 p2 i)) := by
  rw [show ref27_Plan_p3_code = .loop (loopBody ref27_Plan_p3_code) by kernel_rfl]
  exact piece_loop (X := (ref27_Plan_X c_ref25_In c_ref27_Valid c_ref27_ahead)) (p := 1) (Λ := pick1 [(50, pieceCut zq5v zq5w (ref27_Plan_p2_G p2))]) (G := fun i => @fun β d ks => ref27_Plan_p3_G (zq68 p2 i) d ks) mixed tab_ok hΓ rfl (by kernel_rfl) (CutsOk_cons (q := 50) (c' := ref27_Plan_p2_code) (by kernel_rfl) rfl hp2 CutsOk_nil) (fun _ _ => rfl) (fun i => @fun β d ks r h => Eq.trans (b := ref27_Plan_p3_G (zq68 p2 (i + 1)) d ks) (by kernel_rfl) h) i
def zq6a (p3 : zq5y) {β : Type} (p_ : (Int × List (Int × (Int × (Int × Int))))) (start : Int) (k : ((List (Int × (Int × Int))) → Option β)) : Option β :=
  c_ref27_Valid p_ (fun (rValid : Bool) =>
  cond (!rValid)
  (k ([] : List (Int × (Int × Int))))
  (c_ref25_In start (0 : Int) (8589934592 : Int) (fun (rIn : Bool) =>
  cond (!rIn)
  (k ([] : List (Int × (Int × Int))))
  (p3 (fun (out : List (Int × (Int × Int))) =>
  k out) start (0 : Int) p_.1 p_.2 ([] : List (Int × (Int × Int)))))))
theorem zq6b (hΓ : ΓOk Try.prog (ref27_Plan_X c_ref25_In c_ref27_Valid c_ref27_ahead).Γ) (p3 : zq5y) (hp3 : PieceOk Try.prog 80 0 ref27_Plan_p3_code zq5z zq60 (ref27_Plan_p3_G p3)) : SpecOk Try.prog 21 (zq5o (zq6a c_ref25_In c_ref27_Valid p3)) :=
  spec_exec (X := (ref27_Plan_X c_ref25_In c_ref27_Valid c_ref27_ahead)) (Λ := pick1 [(122, pieceCut zq5z zq60 (ref27_Plan_p3_G p3))]) (rs := [.tmp 4]) (c := bodyOf Try.f21) mixed tab_ok hΓ Try.func21 (by kernel_rfl) (by kernel_rfl) (by kernel_rfl) (by kernel_rfl) (CutsOk_cons (q := 122) (c' := ref27_Plan_p3_code) (by kernel_rfl) rfl hp3 CutsOk_nil) (fun x k r h => Eq.trans (b := (zq5o (zq6a c_ref25_In c_ref27_Valid p3)).run x k) (by kernel_rfl) h)
end
theorem zq6cΓ : ΓOk Try.prog (pick1 [(56, .spec (zq1m zq1q)), (32, .spec (zq4y zq5e)), (57, .spec (zq1t zq1x))]) := (ΓOk_cons zq1r (ΓOk_cons zq5f (ΓOk_cons zq1y ΓOk_nil)))
def zq6d (m : Nat) : zq5q := zq62 zq1x m
theorem zq6e {β : Type} (i : Nat) (k1 start c i_ k_ p_ p_2 out x x2 x3) : (zq6d (i + 1) k1 start c i_ k_ p_ p_2 out x x2 x3 : Option β) = zq61 zq1x (zq6d i k1) k1 start c i_ k_ p_ p_2 out x x2 x3 := rfl
def zq6f : zq5q := zq6d fuel
theorem zq6g : PieceOk Try.prog 80 0 ref27_Plan_p1_code zq5r zq5s (ref27_Plan_p1_G zq6f) := zq63 zq1q zq5e zq1x zq6cΓ fuel
def zq6h (m : Nat) : zq5u := zq65 zq6f m
theorem zq6i {β : Type} (i : Nat) (k1 start c i_ p_ p_2 out) : (zq6h (i + 1) k1 start c i_ p_ p_2 out : Option β) = zq64 zq6f (zq6h i k1) k1 start c i_ p_ p_2 out := rfl
def zq6j : zq5u := zq6h fuel
theorem zq6k : PieceOk Try.prog 80 0 ref27_Plan_p2_code zq5v zq5w (ref27_Plan_p2_G zq6j) := zq66 zq1q zq5e zq1x zq6cΓ zq6f zq6g fuel
def zq6l (m : Nat) : zq5y := zq68 zq6j m
theorem zq6m {β : Type} (i : Nat) (k1 start c p_ p_2 out) : (zq6l (i + 1) k1 start c p_ p_2 out : Option β) = zq67 zq6j (zq6l i k1) k1 start c p_ p_2 out := rfl
def zq6n : zq5y := zq6l fuel
theorem zq6o : PieceOk Try.prog 80 0 ref27_Plan_p3_code zq5z zq60 (ref27_Plan_p3_G zq6n) := zq69 zq1q zq5e zq1x zq6cΓ zq6j zq6k fuel
def zq6p : zq5n := zq6a zq1q zq5e zq6n
theorem zq6q : SpecOk Try.prog 21 (zq5o zq6p) := zq6b zq1q zq5e zq1x zq6cΓ zq6n zq6o

/-- pagewatch/pagewatchref27.Check -/
abbrev zq6r := {β : Type} → (Int × List (Int × (Int × (Int × Int)))) → zq2 → (Bool → Option β) → Option β
def zq6s (c : zq6r) : Spec :=
  ⟨[(true, [.data (.prod (.int .i64) (.slice (.prod (.int .i64) (.prod (.int .i64) (.prod (.int .i64) (.int .i64))))))]), (true, [.data zq3])], [], [(false, [.data .bool])], [], fun x k => c x.1.1.1 x.1.2.1.1 (fun r0 => k (((r0, ()), ()), ()))⟩
section
variable (c_ref25_In : zq1l) (c_ref27_Plan : zq5n) (c_ref27_Valid : zq4x) (c_ref27_right : zq1z)
@[reducible] def ref27_Check_X : Ctx := ⟨look tab, pick1 [(56, .spec (zq1m c_ref25_In)), (21, .spec (zq5o c_ref27_Plan)), (32, .spec (zq4y c_ref27_Valid)), (58, .spec (zq20 c_ref27_right))], false, false, false, false⟩
def zq6t {β : Type} (p_ : (Int × List (Int × (Int × (Int × Int))))) (c : zq2) (k : (Bool → Option β)) : Option β :=
  c_ref27_Valid p_ (fun (rValid : Bool) =>
  cond rValid
  (c_ref27_right c.1 c.2.1 c.2.2.1 c.2.2.2.1 (fun (rright : Bool) =>
  cond rright
  (cond (decide (c.2.2.1 = p_.1))
  (c_ref27_Plan p_ c.2.2.2.1 (fun (lrPlan : List (Int × (Int × Int))) =>
  c_ref25_In c.2.2.2.2.1 (0 : Int) (List.length lrPlan : Int) (fun (rIn : Bool) =>
  cond rIn
  (cond (decide (c.2.2.2.2.2 = (-1 : Int)))
  (k true)
  (cond (decide (c.2.2.2.1 ≤ c.2.2.2.2.2))
  (let t : Bool := (decide ((0 : Int) < c.2.2.2.2.1));
  k t)
  (k false)))
  (k false))))
  (k false))
  (k false)))
  (k false))
theorem zq6u (hΓ : ΓOk Try.prog (ref27_Check_X c_ref25_In c_ref27_Plan c_ref27_Valid c_ref27_right).Γ) : SpecOk Try.prog 25 (zq6s (zq6t c_ref25_In c_ref27_Plan c_ref27_Valid c_ref27_right)) :=
  spec_exec (X := (ref27_Check_X c_ref25_In c_ref27_Plan c_ref27_Valid c_ref27_right)) (Λ := pick1 []) (rs := [.tmp 4]) (c := bodyOf Try.f25) mixed tab_ok hΓ Try.func25 (by kernel_rfl) (by kernel_rfl) (by kernel_rfl) (by kernel_rfl) CutsOk_nil (fun x k r h => Eq.trans (b := (zq6s (zq6t c_ref25_In c_ref27_Plan c_ref27_Valid c_ref27_right)).run x k) (by kernel_rfl) h)
end
theorem zq6vΓ : ΓOk Try.prog (pick1 [(56, .spec (zq1m zq1q)), (21, .spec (zq5o zq6p)), (32, .spec (zq4y zq5e)), (58, .spec (zq20 zq24))]) := (ΓOk_cons zq1r (ΓOk_cons zq6q (ΓOk_cons zq5f (ΓOk_cons zq25 ΓOk_nil))))
def zq6w : zq6r := zq6t zq1q zq6p zq5e zq24
theorem zq6x : SpecOk Try.prog 25 (zq6s zq6w) := zq6u zq1q zq6p zq5e zq24 zq6vΓ

/-- pagewatch/pagewatchref27.Next -/
abbrev zq6y := {β : Type} → (Int × List (Int × (Int × (Int × Int)))) → zq2 → (Int → Bool → Option β) → Option β
def zq6z (c : zq6y) : Spec :=
  ⟨[(true, [.data (.prod (.int .i64) (.slice (.prod (.int .i64) (.prod (.int .i64) (.prod (.int .i64) (.int .i64))))))]), (true, [.data zq3])], [], [(false, [.data (.int .i64)]), (false, [.data .bool])], [], fun x k => c x.1.1.1 x.1.2.1.1 (fun r0 r1 => k (((r0, ()), (r1, ()), ()), ()))⟩
section
variable (c_ref27_Check : zq6r) (c_ref27_Plan : zq5n)
@[reducible] def ref27_Next_X : Ctx := ⟨look tab, pick1 [(25, .spec (zq6s c_ref27_Check)), (21, .spec (zq5o c_ref27_Plan))], false, false, false, false⟩
def zq70 {β : Type} (p_ : (Int × List (Int × (Int × (Int × Int))))) (c : zq2) (k : (Int → Bool → Option β)) : Option β :=
  c_ref27_Check p_ c (fun (rCheck : Bool) =>
  cond (!rCheck)
  (k (0 : Int) false)
  (cond (!decide (c.2.2.2.2.2 = (-1 : Int)))
  (k (0 : Int) false)
  (c_ref27_Plan p_ c.2.2.2.1 (fun (lrPlan : List (Int × (Int × Int))) =>
  cond (decide (c.2.2.2.2.1 < (List.length lrPlan : Int)))
  (cond (decide (0 ≤ c.2.2.2.2.1) && decide (c.2.2.2.2.1 < (List.length lrPlan : Int)))
  (let t : Int := ((List.getD lrPlan (Int.toNat c.2.2.2.2.1) ((0 : Int), ((0 : Int), (0 : Int)))).2).2;
  k t true)
  none)
  (k (0 : Int) false)))))
theorem zq71 (hΓ : ΓOk Try.prog (ref27_Next_X c_ref27_Check c_ref27_Plan).Γ) : SpecOk Try.prog 29 (zq6z (zq70 c_ref27_Check c_ref27_Plan)) :=
  spec_exec (X := (ref27_Next_X c_ref27_Check c_ref27_Plan)) (Λ := pick1 []) (rs := [.tmp 4, .tmp 5]) (c := bodyOf Try.f29) mixed tab_ok hΓ Try.func29 (by kernel_rfl) (by kernel_rfl) (by kernel_rfl) (by kernel_rfl) CutsOk_nil (fun x k r h => Eq.trans (b := (zq6z (zq70 c_ref27_Check c_ref27_Plan)).run x k) (by kernel_rfl) h)
end
theorem zq72Γ : ΓOk Try.prog (pick1 [(25, .spec (zq6s zq6w)), (21, .spec (zq5o zq6p))]) := (ΓOk_cons zq6x (ΓOk_cons zq6q ΓOk_nil))
def zq73 : zq6y := zq70 zq6w zq6p
theorem zq74 : SpecOk Try.prog 29 (zq6z zq73) := zq71 zq6w zq6p zq72Γ

/-- pagewatch/pagewatchref27.Send -/
abbrev zq75 := {β : Type} → (Int × List (Int × (Int × (Int × Int)))) → zq2 → Int → (zq2 → Int → (List (Int × (Int × Int))) → Option β) → Option β
def zq76 (c : zq75) : Spec :=
  ⟨[(true, [.data (.prod (.int .i64) (.slice (.prod (.int .i64) (.prod (.int .i64) (.prod (.int .i64) (.int .i64))))))]), (true, [.data zq3]), (false, [.data (.int .i64)])], [], [(true, [.data zq3]), (false, [.rowh 0]), (false, [.data (.int .i64)])], [.row 39 (.prod (.int .i64) (.prod (.int .i64) (.int .i64)))], fun x k => c x.1.1.1 x.1.2.1.1 x.1.2.2.1.1 (fun r0 r1 r2 => k (((r0, ()), (), (r1, ()), ()), (r2, ())))⟩
noncomputable def ref27_Send_p1_code : Code := codeAt 62 (bodyOf Try.f34)
abbrev zq77 (β : Type) := Int → Int → Int → Int → Int → Int → Int → (List (Int × (Int × Int))) → Option β
abbrev zq78 := {β : Type} → zq77 β → Int → Int → (List (Int × (Int × (Int × Int)))) → Int → Int → Int → Int → Int → Int → Int → Int → Int → Int → Int → Int → (List (Int × (Int × Int))) → (List (Int × (Int × Int))) → Option β
def zq79 : View := ⟨0, [2, 3, 4, 6, 9, 10], [(false, [.data (.int .i64)]), (false, [.ptr 0 0]), (false, [.ptr 1 0]), (false, [.ptr 2 0]), (false, [.rowh 3]), (false, [.rowh 4])], [.cells 29 [.data (.int .i64), .data (.slice (.prod (.int .i64) (.prod (.int .i64) (.prod (.int .i64) (.int .i64)))))], .cells 55 [.data (.int .i64), .data (.int .i64), .data (.int .i64), .data (.int .i64), .data (.int .i64), .data (.int .i64)], .cells 55 [.data (.int .i64), .data (.int .i64), .data (.int .i64), .data (.int .i64), .data (.int .i64), .data (.int .i64)], .row 39 (.prod (.int .i64) (.prod (.int .i64) (.int .i64))), .row 39 (.prod (.int .i64) (.prod (.int .i64) (.int .i64)))]⟩
def zq7a : List (AExit × View) := [(.ret, ⟨0, [6, 7, 8], [(false, [.ptr 0 0]), (false, [.rowh 1]), (false, [.data (.int .i64)])], [.cells 55 [.data (.int .i64), .data (.int .i64), .data (.int .i64), .data (.int .i64), .data (.int .i64), .data (.int .i64)], .row 39 (.prod (.int .i64) (.prod (.int .i64) (.int .i64)))]⟩)]
@[reducible] def ref27_Send_p1_G (p : zq78) {β : Type} (d : zq79.den) (ks : Outs.K β zq7a) : Option β :=
  p (fun a0 a1 a2 a3 a4 a5 a6 a7 => ks.1 (((), (), (a0, ()), ()), ((a1, a2, a3, a4, a5, a6, ()), a7, ()))) d.1.1.1 d.2.1.1 d.2.1.2.1 d.2.2.1.1 d.2.2.1.2.1 d.2.2.1.2.2.1 d.2.2.1.2.2.2.1 d.2.2.1.2.2.2.2.1 d.2.2.1.2.2.2.2.2.1 d.2.2.2.1.1 d.2.2.2.1.2.1 d.2.2.2.1.2.2.1 d.2.2.2.1.2.2.2.1 d.2.2.2.1.2.2.2.2.1 d.2.2.2.1.2.2.2.2.2.1 d.2.2.2.2.1 d.2.2.2.2.2.1
section
variable (c_ref27_Check : zq6r) (c_ref27_Next : zq6y) (c_ref27_Plan : zq5n)
@[reducible] def ref27_Send_X : Ctx := ⟨look tab, pick1 [(25, .spec (zq6s c_ref27_Check)), (29, .spec (zq6z c_ref27_Next)), (21, .spec (zq5o c_ref27_Plan))], false, false, false, false⟩
def zq7b {β : Type} (rec : Int → Int → (List (Int × (Int × (Int × Int)))) → Int → Int → Int → Int → Int → Int → Int → Int → Int → Int → Int → Int → (List (Int × (Int × Int))) → (List (Int × (Int × Int))) → Option β) (k1 : zq77 β) (now : Int) (p_ : Int) (p_2 : List (Int × (Int × (Int × Int)))) (c : Int) (c2 : Int) (c3 : Int) (c4 : Int) (c5 : Int) (c6 : Int) (t6 : Int) (t62 : Int) (t63 : Int) (t64 : Int) (t65 : Int) (t66 : Int) (out : List (Int × (Int × Int))) (l : List (Int × (Int × Int))) : Option β :=
  c_ref27_Next (p_, p_2) (c, (c2, (c3, (c4, (c5, c6))))) (fun (rNext : Int) (rNext2 : Bool) =>
  cond (!rNext2)
  (k1 (0 : Int) c c2 c3 c4 c5 c6 out)
  (cond (decide (now < rNext))
  (k1 (0 : Int) c c2 c3 c4 c5 c6 out)
  (cond (decide (0 ≤ c5) && decide (c5 < (List.length l : Int)))
  (let l2 : List (Int × (Int × Int)) := ([((List.getD l (Int.toNat c5) ((0 : Int), ((0 : Int), (0 : Int)))).1, ((List.getD l (Int.toNat c5) ((0 : Int), ((0 : Int), (0 : Int)))).2))] : List (Int × (Int × Int)));
  cond (decide ((List.length out + List.length l2) * 24 ≤ roomMax))
  (let l3 : List (Int × (Int × Int)) := (out ++ l2);
  rec now p_ p_2 c c2 c3 c4 (IntKind.i64.wrap (c5 + (1 : Int))) c6 t6 t62 t63 t64 t65 t66 l3 l)
  none)
  none)))
def zq7c {β : Type} : Nat → zq77 β → Int → Int → (List (Int × (Int × (Int × Int)))) → Int → Int → Int → Int → Int → Int → Int → Int → Int → Int → Int → Int → (List (Int × (Int × Int))) → (List (Int × (Int × Int))) → Option β
  | 0 => fun _ _ _ _ _ _ _ _ _ _ _ _ _ _ _ _ _ _ => none
  | i + 1 => fun k1 now p_ p_2 c c2 c3 c4 c5 c6 t6 t62 t63 t64 t65 t66 out l => zq7b c_ref27_Next (zq7c i k1) k1 now p_ p_2 c c2 c3 c4 c5 c6 t6 t62 t63 t64 t65 t66 out l
theorem zq7d (hΓ : ΓOk Try.prog (ref27_Send_X c_ref27_Check c_ref27_Next c_ref27_Plan).Γ) (i : Nat) : PieceOk Try.prog 49 0 ref27_Send_p1_code zq79 zq7a (ref27_Send_p1_G (zq7c c_ref27_Next i)) := by
  rw [show ref27_Send_p1_code = .loop (loopBody ref27_Send_p1_code) by kernel_rfl]
  exact piece_loop (X := (ref27_Send_X c_ref27_Check c_ref27_Next c_ref27_Plan)) (p := 1) (Λ := pick1 []) (G := fun i => @fun β d ks => ref27_Send_p1_G (zq7c c_ref27_Next i) d ks) mixed tab_ok hΓ rfl (by kernel_rfl) CutsOk_nil (fun _ _ => rfl) (fun i => @fun β d ks r h => Eq.trans (b := ref27_Send_p1_G (zq7c c_ref27_Next (i + 1)) d ks) (by kernel_rfl) h) i
def zq7e (p1 : zq78) {β : Type} (p_ : (Int × List (Int × (Int × (Int × Int))))) (c : zq2) (now : Int) (k : (zq2 → Int → (List (Int × (Int × Int))) → Option β)) : Option β :=
  c_ref27_Check p_ c (fun (rCheck : Bool) =>
  cond (!rCheck)
  (k ((0 : Int), ((0 : Int), ((0 : Int), ((0 : Int), ((0 : Int), (0 : Int)))))) (8 : Int) ([] : List (Int × (Int × Int))))
  (c_ref27_Plan p_ c.2.2.2.1 (fun (lrPlan : List (Int × (Int × Int))) =>
  p1 (fun (t8 : Int) (t6 : Int) (t62 : Int) (t63 : Int) (t64 : Int) (t65 : Int) (t66 : Int) (t7 : List (Int × (Int × Int))) =>
  k (t6, (t62, (t63, (t64, (t65, t66))))) t8 t7) now p_.1 p_.2 c.1 c.2.1 c.2.2.1 c.2.2.2.1 c.2.2.2.2.1 c.2.2.2.2.2 (0 : Int) (0 : Int) (0 : Int) (0 : Int) (0 : Int) (0 : Int) ([] : List (Int × (Int × Int))) lrPlan)))
theorem zq7f (hΓ : ΓOk Try.prog (ref27_Send_X c_ref27_Check c_ref27_Next c_ref27_Plan).Γ) (p1 : zq78) (hp1 : PieceOk Try.prog 49 0 ref27_Send_p1_code zq79 zq7a (ref27_Send_p1_G p1)) : SpecOk Try.prog 34 (zq76 (zq7e c_ref27_Check c_ref27_Plan p1)) :=
  spec_exec (X := (ref27_Send_X c_ref27_Check c_ref27_Next c_ref27_Plan)) (Λ := pick1 [(62, pieceCut zq79 zq7a (ref27_Send_p1_G p1))]) (rs := [.cell 6 55, .tmp 7, .tmp 8]) (c := bodyOf Try.f34) mixed tab_ok hΓ Try.func34 (by kernel_rfl) (by kernel_rfl) (by kernel_rfl) (by kernel_rfl) (CutsOk_cons (q := 62) (c' := ref27_Send_p1_code) (by kernel_rfl) rfl hp1 CutsOk_nil) (fun x k r h => Eq.trans (b := (zq76 (zq7e c_ref27_Check c_ref27_Plan p1)).run x k) (by kernel_rfl) h)
end
theorem zq7gΓ : ΓOk Try.prog (pick1 [(25, .spec (zq6s zq6w)), (29, .spec (zq6z zq73)), (21, .spec (zq5o zq6p))]) := (ΓOk_cons zq6x (ΓOk_cons zq74 (ΓOk_cons zq6q ΓOk_nil)))
def zq7h (m : Nat) : zq78 := zq7c zq73 m
theorem zq7i {β : Type} (i : Nat) (k1 now p_ p_2 c c2 c3 c4 c5 c6 t6 t62 t63 t64 t65 t66 out l) : (zq7h (i + 1) k1 now p_ p_2 c c2 c3 c4 c5 c6 t6 t62 t63 t64 t65 t66 out l : Option β) = zq7b zq73 (zq7h i k1) k1 now p_ p_2 c c2 c3 c4 c5 c6 t6 t62 t63 t64 t65 t66 out l := rfl
def zq7j : zq78 := zq7h fuel
theorem zq7k : PieceOk Try.prog 49 0 ref27_Send_p1_code zq79 zq7a (ref27_Send_p1_G zq7j) := zq7d zq6w zq73 zq6p zq7gΓ fuel
def zq7l : zq75 := zq7e zq6w zq6p zq7j
theorem zq7m : SpecOk Try.prog 34 (zq76 zq7l) := zq7f zq6w zq73 zq6p zq7gΓ zq7j zq7k

/-- pagewatch/pagewatchref27.Receipt -/
abbrev zq7n := {β : Type} → (Int × List (Int × (Int × (Int × Int)))) → zq2 → Int → Int → (zq2 → Int → Option β) → Option β
def zq7o (c : zq7n) : Spec :=
  ⟨[(true, [.data (.prod (.int .i64) (.slice (.prod (.int .i64) (.prod (.int .i64) (.prod (.int .i64) (.int .i64))))))]), (true, [.data zq3]), (false, [.data (.int .i64)]), (false, [.data (.int .i64)])], [], [(true, [.data zq3]), (false, [.data (.int .i64)])], [], fun x k => c x.1.1.1 x.1.2.1.1 x.1.2.2.1.1 x.1.2.2.2.1.1 (fun r0 r1 => k (((r0, ()), (r1, ()), ()), ()))⟩
section
variable (c_ref25_In : zq1l) (c_ref27_Check : zq6r) (c_ref27_Plan : zq5n)
@[reducible] def ref27_Receipt_X : Ctx := ⟨look tab, pick1 [(56, .spec (zq1m c_ref25_In)), (25, .spec (zq6s c_ref27_Check)), (21, .spec (zq5o c_ref27_Plan))], false, false, false, false⟩
def zq7p {β : Type} (p_ : (Int × List (Int × (Int × (Int × Int))))) (c : zq2) (attempt : Int) (at_ : Int) (k : (zq2 → Int → Option β)) : Option β :=
  c_ref27_Check p_ c (fun (rCheck : Bool) =>
  cond (!rCheck)
  (k ((0 : Int), ((0 : Int), ((0 : Int), ((0 : Int), ((0 : Int), (0 : Int)))))) (8 : Int))
  (c_ref25_In attempt (0 : Int) (IntKind.i64.wrap (c.2.2.2.2.1 - (1 : Int))) (fun (rIn : Bool) =>
  cond (!rIn)
  (k ((0 : Int), ((0 : Int), ((0 : Int), ((0 : Int), ((0 : Int), (0 : Int)))))) (3 : Int))
  (c_ref27_Plan p_ c.2.2.2.1 (fun (lrPlan : List (Int × (Int × Int))) =>
  cond (decide (0 ≤ attempt) && decide (attempt < (List.length lrPlan : Int)))
  (cond (decide (at_ < (((List.getD lrPlan (Int.toNat attempt) ((0 : Int), ((0 : Int), (0 : Int)))).2).2)))
  (k ((0 : Int), ((0 : Int), ((0 : Int), ((0 : Int), ((0 : Int), (0 : Int)))))) (6 : Int))
  (let t : Bool := (decide ((8590193792 : Int) < at_));
  cond t
  (k ((0 : Int), ((0 : Int), ((0 : Int), ((0 : Int), ((0 : Int), (0 : Int)))))) (6 : Int))
  (cond (decide (c.2.2.2.2.2 = (-1 : Int)))
  (k (c.1, (c.2.1, (c.2.2.1, (c.2.2.2.1, (c.2.2.2.2.1, at_))))) (0 : Int))
  (cond (decide (at_ < c.2.2.2.2.2))
  (k (c.1, (c.2.1, (c.2.2.1, (c.2.2.2.1, (c.2.2.2.2.1, at_))))) (0 : Int))
  (k c (0 : Int))))))
  none)))))
theorem zq7q (hΓ : ΓOk Try.prog (ref27_Receipt_X c_ref25_In c_ref27_Check c_ref27_Plan).Γ) : SpecOk Try.prog 35 (zq7o (zq7p c_ref25_In c_ref27_Check c_ref27_Plan)) :=
  spec_exec (X := (ref27_Receipt_X c_ref25_In c_ref27_Check c_ref27_Plan)) (Λ := pick1 []) (rs := [.cell 8 55, .tmp 9]) (c := bodyOf Try.f35) mixed tab_ok hΓ Try.func35 (by kernel_rfl) (by kernel_rfl) (by kernel_rfl) (by kernel_rfl) CutsOk_nil (fun x k r h => Eq.trans (b := (zq7o (zq7p c_ref25_In c_ref27_Check c_ref27_Plan)).run x k) (by kernel_rfl) h)
end
theorem zq7rΓ : ΓOk Try.prog (pick1 [(56, .spec (zq1m zq1q)), (25, .spec (zq6s zq6w)), (21, .spec (zq5o zq6p))]) := (ΓOk_cons zq1r (ΓOk_cons zq6x (ΓOk_cons zq6q ΓOk_nil)))
def zq7s : zq7n := zq7p zq1q zq6w zq6p
theorem zq7t : SpecOk Try.prog 35 (zq7o zq7s) := zq7q zq1q zq6w zq6p zq7rΓ

/-- slices.IndexFunc[[]pagewatch/api.Channel,pagewatch/api.Channel] -/
abbrev zq7u := {β : Type} → (List (Int × (Int × (Int × Int)))) → (Int → Option β) → Option β
def zq7v (c : zq7u) : Spec :=
  ⟨[(false, [.data (.slice (.prod (.int .i64) (.prod (.int .i64) (.prod (.int .i64) (.int .i64)))))]), (false, [.fn 62 []])], [], [(false, [.data (.int .i64)])], [], fun x k => c x.1.1.1 (fun r0 => k (((r0, ()), ()), ()))⟩
noncomputable def slices_IndexFunc_api_Channel_api_Channel_vdelivery_Valid_f1_p1_code : Code := codeAt 26 (bodyOf Try.f72)
abbrev zq7w (β : Type) := Int → Option β
abbrev zq7x (β : Type) := Unit → Option β
abbrev zq7y := {β : Type} → zq7w β → zq7x β → (List (Int × (Int × (Int × Int)))) → Int → Int → Option β
def zq7z : View := ⟨0, [0, 1, 7, 8], [(false, [.data (.slice (.prod (.int .i64) (.prod (.int .i64) (.prod (.int .i64) (.int .i64)))))]), (false, [.fn 62 []]), (false, [.data (.int .i64)]), (false, [.data (.int .i64)])], []⟩
def zq80 : List (AExit × View) := [(.ret, ⟨0, [4], [(false, [.data (.int .i64)])], []⟩), (.exit 0, ⟨0, [], [], []⟩)]
@[reducible] def slices_IndexFunc_api_Channel_api_Channel_vdelivery_Valid_f1_p1_G (p : zq7y) {β : Type} (d : zq7z.den) (ks : Outs.K β zq80) : Option β :=
  p (fun a0 => ks.1 (((a0, ()), ()), ())) (fun _ => ks.2.1 ((), ())) d.1.1.1 d.1.2.2.1.1 d.1.2.2.2.1.1
section
variable (c_delivery_Valid_f1 : zq5g)
@[reducible] def slices_IndexFunc_api_Channel_api_Channel_vdelivery_Valid_f1_X : Ctx := ⟨look tab, pick1 [(62, .spec (zq5h c_delivery_Valid_f1))], false, false, false, false⟩
def zq81 {β : Type} (rec : (List (Int × (Int × (Int × Int)))) → Int → Int → Option β) (k1 : zq7w β) (k2 : zq7x β) (s : List (Int × (Int × (Int × Int)))) (t7 : Int) (t8 : Int) : Option β :=
  cond (decide (t8 < t7))
  (cond (decide (0 ≤ t8) && decide (t8 < (List.length s : Int)))
  (let e : (Int × (Int × (Int × Int))) := List.getD s (Int.toNat t8) ((0 : Int), ((0 : Int), ((0 : Int), (0 : Int))));
  c_delivery_Valid_f1 e (fun (rValid1 : Bool) =>
  cond rValid1
  (k1 t8)
  (rec s t7 (IntKind.i64.wrap (t8 + (1 : Int))))))
  none)
  (k2 ())
def zq82 {β : Type} : Nat → zq7w β → zq7x β → (List (Int × (Int × (Int × Int)))) → Int → Int → Option β
  | 0 => fun _ _ _ _ _ => none
  | i + 1 => fun k1 k2 s t7 t8 => zq81 c_delivery_Valid_f1 (zq82 i k1 k2) k1 k2 s t7 t8
theorem zq83 (hΓ : ΓOk Try.prog (slices_IndexFunc_api_Channel_api_Channel_vdelivery_Valid_f1_X c_delivery_Valid_f1).Γ) (i : Nat) : PieceOk Try.prog 19 0 slices_IndexFunc_api_Channel_api_Channel_vdelivery_Valid_f1_p1_code zq7z zq80 (slices_IndexFunc_api_Channel_api_Channel_vdelivery_Valid_f1_p1_G (zq82 c_delivery_Valid_f1 i)) := by
  rw [show slices_IndexFunc_api_Channel_api_Channel_vdelivery_Valid_f1_p1_code = .loop (loopBody slices_IndexFunc_api_Channel_api_Channel_vdelivery_Valid_f1_p1_code) by kernel_rfl]
  exact piece_loop (X := (slices_IndexFunc_api_Channel_api_Channel_vdelivery_Valid_f1_X c_delivery_Valid_f1)) (p := 1) (Λ := pick1 []) (G := fun i => @fun β d ks => slices_IndexFunc_api_Channel_api_Channel_vdelivery_Valid_f1_p1_G (zq82 c_delivery_Valid_f1 i) d ks) mixed tab_ok hΓ rfl (by kernel_rfl) CutsOk_nil (fun _ _ => rfl) (fun i => @fun β d ks r h => Eq.trans (b := slices_IndexFunc_api_Channel_api_Channel_vdelivery_Valid_f1_p1_G (zq82 c_delivery_Valid_f1 (i + 1)) d ks) (by kernel_rfl) h) i
def zq84 (p1 : zq7y) {β : Type} (s : List (Int × (Int × (Int × Int)))) (k : (Int → Option β)) : Option β :=
  p1 (fun (t4 : Int) =>
  k t4) (fun (_ : Unit) =>
  k (-1 : Int)) s (List.length s : Int) (0 : Int)
theorem zq85 (hΓ : ΓOk Try.prog (slices_IndexFunc_api_Channel_api_Channel_vdelivery_Valid_f1_X c_delivery_Valid_f1).Γ) (p1 : zq7y) (hp1 : PieceOk Try.prog 19 0 slices_IndexFunc_api_Channel_api_Channel_vdelivery_Valid_f1_p1_code zq7z zq80 (slices_IndexFunc_api_Channel_api_Channel_vdelivery_Valid_f1_p1_G p1)) : SpecOk Try.prog 72 (zq7v (zq84 p1)) :=
  spec_exec (X := (slices_IndexFunc_api_Channel_api_Channel_vdelivery_Valid_f1_X c_delivery_Valid_f1)) (Λ := pick1 [(26, pieceCut zq7z zq80 (slices_IndexFunc_api_Channel_api_Channel_vdelivery_Valid_f1_p1_G p1))]) (rs := [.tmp 4]) (c := bodyOf Try.f72) mixed tab_ok hΓ Try.func72 (by kernel_rfl) (by kernel_rfl) (by kernel_rfl) (by kernel_rfl) (CutsOk_cons (q := 26) (c' := slices_IndexFunc_api_Channel_api_Channel_vdelivery_Valid_f1_p1_code) (by kernel_rfl) rfl hp1 CutsOk_nil) (fun x k r h => Eq.trans (b := (zq7v (zq84 p1)).run x k) (by kernel_rfl) h)
end
theorem zq86Γ : ΓOk Try.prog (pick1 [(62, .spec (zq5h zq5l))]) := (ΓOk_cons zq5m ΓOk_nil)
def zq87 (m : Nat) : zq7y := zq82 zq5l m
theorem zq88 {β : Type} (i : Nat) (k1 k2 s t7 t8) : (zq87 (i + 1) k1 k2 s t7 t8 : Option β) = zq81 zq5l (zq87 i k1 k2) k1 k2 s t7 t8 := rfl
def zq89 : zq7y := zq87 fuel
theorem zq8a : PieceOk Try.prog 19 0 slices_IndexFunc_api_Channel_api_Channel_vdelivery_Valid_f1_p1_code zq7z zq80 (slices_IndexFunc_api_Channel_api_Channel_vdelivery_Valid_f1_p1_G zq89) := zq83 zq5l zq86Γ fuel
def zq8b : zq7u := zq84 zq89
theorem zq8c : SpecOk Try.prog 72 (zq7v zq8b) := zq85 zq5l zq86Γ zq89 zq8a

/-- pagewatch/pagewatchlaw27.contact -/
abbrev zq8d := {β : Type} → (Int × List (Int × (Int × (Int × Int)))) → (List Int × Int) → (zq2 → Int → (List Int × Int) → Option β) → Option β
def zq8e (c : zq8d) : Spec :=
  ⟨[(false, [.ptr 0 0]), (true, [.data (.prod (.int .i64) (.slice (.prod (.int .i64) (.prod (.int .i64) (.prod (.int .i64) (.int .i64))))))])], [.cells 77 [.data (.prod (.slice (.int .i64)) (.int .i64))]], [(true, [.data zq3]), (false, [.data (.int .i64)])], [.cells 77 [.data (.prod (.slice (.int .i64)) (.int .i64))]], fun x k => c x.1.2.1.1 x.2.1.1 (fun r0 r1 r2 => k (((r0, ()), (r1, ()), ()), ((r2, ()), ())))⟩
noncomputable def law27_contact_p2_code : Code := codeAt 122 (bodyOf Try.f22)
noncomputable def law27_contact_p1_code : Code := codeAt 51 (loopBody law27_contact_p2_code)
abbrev zq8f (β : Type) := Int → Int → (List Int) → Int → Int → (List (Int × (Int × (Int × Int)))) → Int → Int → Int → Int → Int → Int → Int → Int → Int → Int → Int → Int → Option β
abbrev zq8g := {β : Type} → zq8f β → Int → Int → (List Int) → Int → Int → (List (Int × (Int × (Int × Int)))) → Int → Int → Int → Int → Int → Int → Int → Int → Int → Int → Int → Int → Option β
def zq8h : View := ⟨1, [0, 3, 4, 6, 7, 9], [(false, [.ptr 0 0]), (false, [.ptr 1 0]), (false, [.ptr 2 0]), (false, [.data (.int .i64)]), (false, [.ptr 3 0]), (false, [.data (.int .i64)])], [.cells 77 [.data (.slice (.int .i64)), .data (.int .i64)], .cells 29 [.data (.int .i64), .data (.slice (.prod (.int .i64) (.prod (.int .i64) (.prod (.int .i64) (.int .i64)))))], .cells 55 [.data (.int .i64), .data (.int .i64), .data (.int .i64), .data (.int .i64), .data (.int .i64), .data (.int .i64)], .cells 55 [.data (.int .i64), .data (.int .i64), .data (.int .i64), .data (.int .i64), .data (.int .i64), .data (.int .i64)]]⟩
def zq8i : List (AExit × View) := [(.normal, ⟨1, [0, 3, 4, 6, 7, 9], [(false, [.ptr 0 0]), (false, [.ptr 1 0]), (false, [.ptr 2 0]), (false, [.data (.int .i64)]), (false, [.ptr 3 0]), (false, [.data (.int .i64)])], [.cells 77 [.data (.slice (.int .i64)), .data (.int .i64)], .cells 29 [.data (.int .i64), .data (.slice (.prod (.int .i64) (.prod (.int .i64) (.prod (.int .i64) (.int .i64)))))], .cells 55 [.data (.int .i64), .data (.int .i64), .data (.int .i64), .data (.int .i64), .data (.int .i64), .data (.int .i64)], .cells 55 [.data (.int .i64), .data (.int .i64), .data (.int .i64), .data (.int .i64), .data (.int .i64), .data (.int .i64)]]⟩)]
@[reducible] def law27_contact_p1_G (p : zq8g) {β : Type} (d : zq8h.den) (ks : Outs.K β zq8i) : Option β :=
  p (fun a0 a1 a2 a3 a4 a5 a6 a7 a8 a9 a10 a11 a12 a13 a14 a15 a16 a17 => ks.1 (((), (), (), (a0, ()), (), (a1, ()), ()), ((a2, a3, ()), (a4, a5, ()), (a6, a7, a8, a9, a10, a11, ()), (a12, a13, a14, a15, a16, a17, ()), ()))) d.1.2.2.2.1.1 d.1.2.2.2.2.2.1.1 d.2.1.1 d.2.1.2.1 d.2.2.1.1 d.2.2.1.2.1 d.2.2.2.1.1 d.2.2.2.1.2.1 d.2.2.2.1.2.2.1 d.2.2.2.1.2.2.2.1 d.2.2.2.1.2.2.2.2.1 d.2.2.2.1.2.2.2.2.2.1 d.2.2.2.2.1.1 d.2.2.2.2.1.2.1 d.2.2.2.2.1.2.2.1 d.2.2.2.2.1.2.2.2.1 d.2.2.2.2.1.2.2.2.2.1 d.2.2.2.2.1.2.2.2.2.2.1
abbrev zq8j (β : Type) := Int → (List Int) → Int → Int → Int → Int → Int → Int → Int → Int → Int → Int → Int → Int → Int → Option β
abbrev zq8k := {β : Type} → zq8j β → Int → Int → (List Int) → Int → Int → (List (Int × (Int × (Int × Int)))) → Int → Int → Int → Int → Int → Int → Int → Int → Int → Int → Int → Int → Option β
def zq8l : View := ⟨1, [0, 3, 4, 6, 7, 9], [(false, [.ptr 0 0]), (false, [.ptr 1 0]), (false, [.ptr 2 0]), (false, [.data (.int .i64)]), (false, [.ptr 3 0]), (false, [.data (.int .i64)])], [.cells 77 [.data (.slice (.int .i64)), .data (.int .i64)], .cells 29 [.data (.int .i64), .data (.slice (.prod (.int .i64) (.prod (.int .i64) (.prod (.int .i64) (.int .i64)))))], .cells 55 [.data (.int .i64), .data (.int .i64), .data (.int .i64), .data (.int .i64), .data (.int .i64), .data (.int .i64)], .cells 55 [.data (.int .i64), .data (.int .i64), .data (.int .i64), .data (.int .i64), .data (.int .i64), .data (.int .i64)]]⟩
def zq8m : List (AExit × View) := [(.exit 0, ⟨1, [4, 6, 7], [(false, [.ptr 1 0]), (false, [.data (.int .i64)]), (false, [.ptr 2 0])], [.cells 77 [.data (.slice (.int .i64)), .data (.int .i64)], .cells 55 [.data (.int .i64), .data (.int .i64), .data (.int .i64), .data (.int .i64), .data (.int .i64), .data (.int .i64)], .cells 55 [.data (.int .i64), .data (.int .i64), .data (.int .i64), .data (.int .i64), .data (.int .i64), .data (.int .i64)]]⟩)]
@[reducible] def law27_contact_p2_G (p : zq8k) {β : Type} (d : zq8l.den) (ks : Outs.K β zq8m) : Option β :=
  p (fun a0 a1 a2 a3 a4 a5 a6 a7 a8 a9 a10 a11 a12 a13 a14 => ks.1 (((), (a0, ()), (), ()), ((a1, a2, ()), (a3, a4, a5, a6, a7, a8, ()), (a9, a10, a11, a12, a13, a14, ()), ()))) d.1.2.2.2.1.1 d.1.2.2.2.2.2.1.1 d.2.1.1 d.2.1.2.1 d.2.2.1.1 d.2.2.1.2.1 d.2.2.2.1.1 d.2.2.2.1.2.1 d.2.2.2.1.2.2.1 d.2.2.2.1.2.2.2.1 d.2.2.2.1.2.2.2.2.1 d.2.2.2.1.2.2.2.2.2.1 d.2.2.2.2.1.1 d.2.2.2.2.1.2.1 d.2.2.2.2.1.2.2.1 d.2.2.2.2.1.2.2.2.1 d.2.2.2.2.1.2.2.2.2.1 d.2.2.2.2.1.2.2.2.2.2.1
section
variable (c_made_Dice_Next : zqi) (c_made_Dice_One : zqp) (c_ref27_New : zq39) (c_ref27_Receipt : zq7n) (c_ref27_Send : zq75)
@[reducible] def law27_contact_X : Ctx := ⟨look tab, pick1 [(14, .spec (zqj c_made_Dice_Next)), (28, .spec (zqq c_made_Dice_One)), (37, .spec (zq3a c_ref27_New)), (35, .spec (zq7o c_ref27_Receipt)), (34, .spec (zq76 c_ref27_Send))], false, false, false, false⟩
def zq8n {β : Type} (k1 : zq8f β) (now : Int) (i_ : Int) (d : List Int) (d2 : Int) (p_ : Int) (p_2 : List (Int × (Int × (Int × Int)))) (t4 : Int) (t42 : Int) (t43 : Int) (t44 : Int) (t45 : Int) (t46 : Int) (c : Int) (c2 : Int) (c3 : Int) (c4 : Int) (c5 : Int) (c6 : Int) : Option β :=
  c_made_Dice_Next (3 : Int) (d, d2) (fun (rNext : Int) (mrNext : (List Int × Int)) =>
  cond (decide (rNext = (0 : Int)))
  (c_made_Dice_Next (5 : Int) mrNext (fun (rNext2 : Int) (mrNext2 : (List Int × Int)) =>
  c_ref27_Receipt (p_, p_2) (c, (c2, (c3, (c4, (c5, c6))))) rNext2 now (fun (rReceipt : zq2) (rReceipt2 : Int) =>
  cond (decide (rReceipt2 = (0 : Int)))
  (k1 now i_ mrNext2.1 mrNext2.2 p_ p_2 t4 t42 t43 t44 t45 t46 rReceipt.1 rReceipt.2.1 rReceipt.2.2.1 rReceipt.2.2.2.1 rReceipt.2.2.2.2.1 rReceipt.2.2.2.2.2)
  (k1 now i_ mrNext2.1 mrNext2.2 p_ p_2 t4 t42 t43 t44 t45 t46 c c2 c3 c4 c5 c6))))
  (k1 now i_ mrNext.1 mrNext.2 p_ p_2 t4 t42 t43 t44 t45 t46 c c2 c3 c4 c5 c6))
def zq8o {β : Type} (k1 : zq8f β) (now : Int) (i_ : Int) (d : List Int) (d2 : Int) (p_ : Int) (p_2 : List (Int × (Int × (Int × Int)))) (t4 : Int) (t42 : Int) (t43 : Int) (t44 : Int) (t45 : Int) (t46 : Int) (c : Int) (c2 : Int) (c3 : Int) (c4 : Int) (c5 : Int) (c6 : Int) : Option β := zq8n c_made_Dice_Next c_ref27_Receipt k1 now i_ d d2 p_ p_2 t4 t42 t43 t44 t45 t46 c c2 c3 c4 c5 c6
theorem zq8p (hΓ : ΓOk Try.prog (law27_contact_X c_made_Dice_Next c_made_Dice_One c_ref27_New c_ref27_Receipt c_ref27_Send).Γ) : PieceOk Try.prog 70 1 law27_contact_p1_code zq8h zq8i (law27_contact_p1_G (zq8o c_made_Dice_Next c_ref27_Receipt)) :=
  piece_exec (X := (law27_contact_X c_made_Dice_Next c_made_Dice_One c_ref27_New c_ref27_Receipt c_ref27_Send)) (p := 51) (Λ := pick1 []) mixed tab_ok hΓ (by kernel_rfl) CutsOk_nil (fun d ks r h => Eq.trans (b := law27_contact_p1_G (zq8o c_made_Dice_Next c_ref27_Receipt) d ks) (by kernel_rfl) h)
def zq8q (p1 : zq8g) {β : Type} (rec : Int → Int → (List Int) → Int → Int → (List (Int × (Int × (Int × Int)))) → Int → Int → Int → Int → Int → Int → Int → Int → Int → Int → Int → Int → Option β) (k1 : zq8j β) (now : Int) (i_ : Int) (d : List Int) (d2 : Int) (p_ : Int) (p_2 : List (Int × (Int × (Int × Int)))) (t4 : Int) (t42 : Int) (t43 : Int) (t44 : Int) (t45 : Int) (t46 : Int) (c : Int) (c2 : Int) (c3 : Int) (c4 : Int) (c5 : Int) (c6 : Int) : Option β :=
  cond (decide ((0 : Int) < i_))
  (let l : List Int := ([(0 : Int), (1 : Int), (30 : Int), (60 : Int)] : List Int);
  c_made_Dice_One l (d, d2) (fun (rOne : Int) (mrOne : (List Int × Int)) =>
  let now2 : Int := (IntKind.i64.wrap (now + rOne));
  c_ref27_Send (p_, p_2) (c, (c2, (c3, (c4, (c5, c6))))) now2 (fun (rSend : zq2) (rSend2 : Int) (lrSend : List (Int × (Int × Int))) =>
  cond (decide (rSend2 = (0 : Int)))
  (p1 (fun (now3 : Int) (i_2 : Int) (d3 : List Int) (d4 : Int) (p_3 : Int) (p_4 : List (Int × (Int × (Int × Int)))) (t47 : Int) (t48 : Int) (t49 : Int) (t410 : Int) (t411 : Int) (t412 : Int) (c7 : Int) (c8 : Int) (c9 : Int) (c10 : Int) (c11 : Int) (c12 : Int) =>
  let i_3 : Int := (IntKind.i64.wrap (i_2 - (1 : Int)));
  rec now3 i_3 d3 d4 p_3 p_4 t47 t48 t49 t410 t411 t412 c7 c8 c9 c10 c11 c12) now2 i_ mrOne.1 mrOne.2 p_ p_2 t4 t42 t43 t44 t45 t46 rSend.1 rSend.2.1 rSend.2.2.1 rSend.2.2.2.1 rSend.2.2.2.2.1 rSend.2.2.2.2.2)
  (p1 (fun (now3 : Int) (i_2 : Int) (d3 : List Int) (d4 : Int) (p_3 : Int) (p_4 : List (Int × (Int × (Int × Int)))) (t47 : Int) (t48 : Int) (t49 : Int) (t410 : Int) (t411 : Int) (t412 : Int) (c7 : Int) (c8 : Int) (c9 : Int) (c10 : Int) (c11 : Int) (c12 : Int) =>
  let i_3 : Int := (IntKind.i64.wrap (i_2 - (1 : Int)));
  rec now3 i_3 d3 d4 p_3 p_4 t47 t48 t49 t410 t411 t412 c7 c8 c9 c10 c11 c12) now2 i_ mrOne.1 mrOne.2 p_ p_2 t4 t42 t43 t44 t45 t46 c c2 c3 c4 c5 c6))))
  (k1 now d d2 t4 t42 t43 t44 t45 t46 c c2 c3 c4 c5 c6)
def zq8r (p1 : zq8g) {β : Type} : Nat → zq8j β → Int → Int → (List Int) → Int → Int → (List (Int × (Int × (Int × Int)))) → Int → Int → Int → Int → Int → Int → Int → Int → Int → Int → Int → Int → Option β
  | 0 => fun _ _ _ _ _ _ _ _ _ _ _ _ _ _ _ _ _ _ _ => none
  | i + 1 => fun k1 now i_ d d2 p_ p_2 t4 t42 t43 t44 t45 t46 c c2 c3 c4 c5 c6 => zq8q c_made_Dice_One c_ref27_Send p1 (zq8r p1 i k1) k1 now i_ d d2 p_ p_2 t4 t42 t43 t44 t45 t46 c c2 c3 c4 c5 c6
theorem zq8s (hΓ : ΓOk Try.prog (law27_contact_X c_made_Dice_Next c_made_Dice_One c_ref27_New c_ref27_Receipt c_ref27_Send).Γ) (p1 : zq8g) (hp1 : PieceOk Try.prog 70 1 law27_contact_p1_code zq8h zq8i (law27_contact_p1_G p1)) (i : Nat) : PieceOk Try.prog 70 1 law27_contact_p2_code zq8l zq8m (law27_contact_p2_G (zq8r c_made_Dice_One c_ref27_Send p1 i)) := by
  rw [show law27_contact_p2_code = .loop (loopBody law27_contact_p2_code) by kernel_rfl]
  exact piece_loop (X := (law27_contact_X c_made_Dice_Next c_made_Dice_One c_ref27_New c_ref27_Receipt c_ref27_Send)) (p := 1) (Λ := pick1 [(51, pieceCut zq8h zq8i (law27_contact_p1_G p1))]) (G := fun i => @fun β d ks => law27_contact_p2_G (zq8r c_made_Dice_One c_ref27_Send p1 i) d ks) mixed tab_ok hΓ rfl (by kernel_rfl) (CutsOk_cons (q := 51) (c' := law27_contact_p1_code) (by kernel_rfl) rfl hp1 CutsOk_nil) (fun _ _ => rfl) (fun i => @fun β d ks r h => Eq.trans (b := law27_contact_p2_G (zq8r c_made_Dice_One c_ref27_Send p1 (i + 1)) d ks) (by kernel_rfl) h) i
def zq8t (p2 : zq8k) {β : Type} (p_ : (Int × List (Int × (Int × (Int × Int))))) (d : (List Int × Int)) (k : (zq2 → Int → (List Int × Int) → Option β)) : Option β :=
  c_made_Dice_Next (100 : Int) d (fun (rNext : Int) (mrNext : (List Int × Int)) =>
  let now : Int := (IntKind.i64.wrap ((864000 : Int) + rNext));
  c_made_Dice_Next (3 : Int) mrNext (fun (rNext2 : Int) (mrNext2 : (List Int × Int)) =>
  c_made_Dice_Next (4 : Int) mrNext2 (fun (rNext3 : Int) (mrNext3 : (List Int × Int)) =>
  c_ref27_New (IntKind.i64.wrap ((1 : Int) + rNext2)) (IntKind.i64.wrap (rNext3 - (1 : Int))) p_.1 now (fun (rNew : zq2) (rNew2 : Int) =>
  c_made_Dice_Next (5 : Int) mrNext3 (fun (rNext4 : Int) (mrNext4 : (List Int × Int)) =>
  p2 (fun (now2 : Int) (b0_ : List Int) (b0_2 : Int) (t4 : Int) (t42 : Int) (t43 : Int) (t44 : Int) (t45 : Int) (t46 : Int) (c : Int) (c2 : Int) (c3 : Int) (c4 : Int) (c5 : Int) (c6 : Int) =>
  k (c, (c2, (c3, (c4, (c5, c6))))) now2 (b0_, b0_2)) now rNext4 mrNext4.1 mrNext4.2 p_.1 p_.2 (0 : Int) (0 : Int) (0 : Int) (0 : Int) (0 : Int) (0 : Int) rNew.1 rNew.2.1 rNew.2.2.1 rNew.2.2.2.1 rNew.2.2.2.2.1 rNew.2.2.2.2.2)))))
theorem zq8u (hΓ : ΓOk Try.prog (law27_contact_X c_made_Dice_Next c_made_Dice_One c_ref27_New c_ref27_Receipt c_ref27_Send).Γ) (p2 : zq8k) (hp2 : PieceOk Try.prog 70 1 law27_contact_p2_code zq8l zq8m (law27_contact_p2_G p2)) : SpecOk Try.prog 22 (zq8e (zq8t c_made_Dice_Next c_ref27_New p2)) :=
  spec_exec (X := (law27_contact_X c_made_Dice_Next c_made_Dice_One c_ref27_New c_ref27_Receipt c_ref27_Send)) (Λ := pick1 [(122, pieceCut zq8l zq8m (law27_contact_p2_G p2))]) (rs := [.cell 4 55, .tmp 5]) (c := bodyOf Try.f22) mixed tab_ok hΓ Try.func22 (by kernel_rfl) (by kernel_rfl) (by kernel_rfl) (by kernel_rfl) (CutsOk_cons (q := 122) (c' := law27_contact_p2_code) (by kernel_rfl) rfl hp2 CutsOk_nil) (fun x k r h => Eq.trans (b := (zq8e (zq8t c_made_Dice_Next c_ref27_New p2)).run x k) (by kernel_rfl) h)
end
theorem zq8vΓ : ΓOk Try.prog (pick1 [(14, .spec (zqj zqn)), (28, .spec (zqq zqu)), (37, .spec (zq3a zq3e)), (35, .spec (zq7o zq7s)), (34, .spec (zq76 zq7l))]) := (ΓOk_cons zqo (ΓOk_cons zqv (ΓOk_cons zq3f (ΓOk_cons zq7t (ΓOk_cons zq7m ΓOk_nil)))))
def zq8w : zq8g := zq8o zqn zq7s
theorem zq8x : PieceOk Try.prog 70 1 law27_contact_p1_code zq8h zq8i (law27_contact_p1_G zq8w) := zq8p zqn zqu zq3e zq7s zq7l zq8vΓ
def zq8y (m : Nat) : zq8k := zq8r zqu zq7l zq8w m
theorem zq8z {β : Type} (i : Nat) (k1 now i_ d d2 p_ p_2 t4 t42 t43 t44 t45 t46 c c2 c3 c4 c5 c6) : (zq8y (i + 1) k1 now i_ d d2 p_ p_2 t4 t42 t43 t44 t45 t46 c c2 c3 c4 c5 c6 : Option β) = zq8q zqu zq7l zq8w (zq8y i k1) k1 now i_ d d2 p_ p_2 t4 t42 t43 t44 t45 t46 c c2 c3 c4 c5 c6 := rfl
def zq90 : zq8k := zq8y fuel
theorem zq91 : PieceOk Try.prog 70 1 law27_contact_p2_code zq8l zq8m (law27_contact_p2_G zq90) := zq8s zqn zqu zq3e zq7s zq7l zq8vΓ zq8w zq8x fuel
def zq92 : zq8d := zq8t zqn zq3e zq90
theorem zq93 : SpecOk Try.prog 22 (zq8e zq92) := zq8u zqn zqu zq3e zq7s zq7l zq8vΓ zq90 zq91

/-- slices.ContainsFunc[[]pagewatch/api.Channel,pagewatch/api.Channel] -/
abbrev zq94 := {β : Type} → (List (Int × (Int × (Int × Int)))) → (Bool → Option β) → Option β
def zq95 (c : zq94) : Spec :=
  ⟨[(false, [.data (.slice (.prod (.int .i64) (.prod (.int .i64) (.prod (.int .i64) (.int .i64)))))]), (false, [.fn 62 []])], [], [(false, [.data .bool])], [], fun x k => c x.1.1.1 (fun r0 => k (((r0, ()), ()), ()))⟩
section
variable (c_slices_IndexFunc_api_Channel_api_Channel_vdelivery_Valid_f1 : zq7u)
@[reducible] def slices_ContainsFunc_api_Channel_api_Channel_vdelivery_Valid_f1_X : Ctx := ⟨look tab, pick1 [(72, .spec (zq7v c_slices_IndexFunc_api_Channel_api_Channel_vdelivery_Valid_f1))], false, false, false, false⟩
def zq96 {β : Type} (s : List (Int × (Int × (Int × Int)))) (k : (Bool → Option β)) : Option β :=
  c_slices_IndexFunc_api_Channel_api_Channel_vdelivery_Valid_f1 s (fun (rChannel : Int) =>
  let t : Bool := (decide ((0 : Int) ≤ rChannel));
  k t)
theorem zq97 (hΓ : ΓOk Try.prog (slices_ContainsFunc_api_Channel_api_Channel_vdelivery_Valid_f1_X c_slices_IndexFunc_api_Channel_api_Channel_vdelivery_Valid_f1).Γ) : SpecOk Try.prog 61 (zq95 (zq96 c_slices_IndexFunc_api_Channel_api_Channel_vdelivery_Valid_f1)) :=
  spec_exec (X := (slices_ContainsFunc_api_Channel_api_Channel_vdelivery_Valid_f1_X c_slices_IndexFunc_api_Channel_api_Channel_vdelivery_Valid_f1)) (Λ := pick1 []) (rs := [.tmp 4]) (c := bodyOf Try.f61) mixed tab_ok hΓ Try.func61 (by kernel_rfl) (by kernel_rfl) (by kernel_rfl) (by kernel_rfl) CutsOk_nil (fun x k r h => Eq.trans (b := (zq95 (zq96 c_slices_IndexFunc_api_Channel_api_Channel_vdelivery_Valid_f1)).run x k) (by kernel_rfl) h)
end
theorem zq98Γ : ΓOk Try.prog (pick1 [(72, .spec (zq7v zq8b))]) := (ΓOk_cons zq8c ΓOk_nil)
def zq99 : zq94 := zq96 zq8b
theorem zq9a : SpecOk Try.prog 61 (zq95 zq99) := zq97 zq8b zq98Γ

/-- pagewatch/delivery.Valid -/
abbrev zq9b := {β : Type} → (Int × List (Int × (Int × (Int × Int)))) → (Bool → Option β) → Option β
def zq9c (c : zq9b) : Spec :=
  ⟨[(true, [.data (.prod (.int .i64) (.slice (.prod (.int .i64) (.prod (.int .i64) (.prod (.int .i64) (.int .i64))))))])], [], [(false, [.data .bool])], [], fun x k => c x.1.1.1 (fun r0 => k (((r0, ()), ()), ()))⟩
section
variable (c_delivery_person : zq26) (c_slices_ContainsFunc_api_Channel_api_Channel_vdelivery_Valid_f1 : zq94)
@[reducible] def delivery_Valid_X : Ctx := ⟨look tab, pick1 [(60, .spec (zq27 c_delivery_person)), (61, .spec (zq95 c_slices_ContainsFunc_api_Channel_api_Channel_vdelivery_Valid_f1))], false, false, false, false⟩
def zq9d {β : Type} (p_ : (Int × List (Int × (Int × (Int × Int))))) (k : (Bool → Option β)) : Option β :=
  c_delivery_person p_.1 (fun (rperson : Bool) =>
  cond rperson
  (cond (decide ((List.length p_.2 : Int) ≤ (4 : Int)))
  (c_slices_ContainsFunc_api_Channel_api_Channel_vdelivery_Valid_f1 p_.2 (fun (rChannel : Bool) =>
  k (!rChannel)))
  (k false))
  (k false))
theorem zq9e (hΓ : ΓOk Try.prog (delivery_Valid_X c_delivery_person c_slices_ContainsFunc_api_Channel_api_Channel_vdelivery_Valid_f1).Γ) : SpecOk Try.prog 31 (zq9c (zq9d c_delivery_person c_slices_ContainsFunc_api_Channel_api_Channel_vdelivery_Valid_f1)) :=
  spec_exec (X := (delivery_Valid_X c_delivery_person c_slices_ContainsFunc_api_Channel_api_Channel_vdelivery_Valid_f1)) (Λ := pick1 []) (rs := [.tmp 2]) (c := bodyOf Try.f31) mixed tab_ok hΓ Try.func31 (by kernel_rfl) (by kernel_rfl) (by kernel_rfl) (by kernel_rfl) CutsOk_nil (fun x k r h => Eq.trans (b := (zq9c (zq9d c_delivery_person c_slices_ContainsFunc_api_Channel_api_Channel_vdelivery_Valid_f1)).run x k) (by kernel_rfl) h)
end
theorem zq9fΓ : ΓOk Try.prog (pick1 [(60, .spec (zq27 zq2b)), (61, .spec (zq95 zq99))]) := (ΓOk_cons zq2c (ΓOk_cons zq9a ΓOk_nil))
def zq9g : zq9b := zq9d zq2b zq99
theorem zq9h : SpecOk Try.prog 31 (zq9c zq9g) := zq9e zq2b zq99 zq9fΓ

/-- slices.SortFunc[[]pagewatch/api.Attempt,pagewatch/api.Attempt] with pagewatch/delivery.Plan$1 -/
def zq9i : Shelf.Ren :=
      { 
      f := fun x =>
        match x with
        | 6 => 40
        | 15 => 66
        | 14 => 65
        | 28 => 81
        | 29 => 82
        | 20 => 73
        | 21 => 74
        | 22 => 75
        | 23 => 76
        | 24 => 77
        | 25 => 78
        | 26 => 79
        | 27 => 80
        | 46 => 92
        | 47 => 93
        | 48 => 94
        | 49 => 95
        | 50 => 96
        | 57 => 101
        | n => n,
      t := fun x =>
        match x with
        | 22 => 33
        | 24 => 39
        | 25 => 81
        | 3 => 3
        | 39 => 97
        | 0 => 0
        | 53 => 23
        | 55 => 111
        | 4 => 4
        | 46 => 104
        | 45 => 103
        | 50 => 66
        | 5 => 5
        | 9 => 9
        | 66 => 118
        | 70 => 122
        | 76 => 126
        | 77 => 127
        | n => n,
      g := fun x => x }
theorem zq9j : Go.Proofs.SlLaysF0.n6 Try.prog zq9i :=
  { mixed := by kernel_rfl,
    f6 := Exists.intro "slices.SortFunc[[]pagewatch/api.Attempt,pagewatch/api.Attempt]" ⟨of_decide_eq_true (by kernel_rfl), Eq.trans Try.func40 (congrArg some (by kernel_rfl))⟩,
    f14 := Exists.intro "slices.pdqsortCmpFunc[pagewatch/api.Attempt]" ⟨of_decide_eq_true (by kernel_rfl), Eq.trans Try.func65 (congrArg some (by kernel_rfl))⟩,
    f15 := Eq.trans Try.func66 (congrArg some (by kernel_rfl)),
    f20 := Exists.intro "slices.insertionSortCmpFunc[pagewatch/api.Attempt]" ⟨of_decide_eq_true (by kernel_rfl), Eq.trans Try.func73 (congrArg some (by kernel_rfl))⟩,
    f21 := Exists.intro "slices.heapSortCmpFunc[pagewatch/api.Attempt]" ⟨of_decide_eq_true (by kernel_rfl), Eq.trans Try.func74 (congrArg some (by kernel_rfl))⟩,
    f22 := Exists.intro "slices.breakPatternsCmpFunc[pagewatch/api.Attempt]" ⟨of_decide_eq_true (by kernel_rfl), Eq.trans Try.func75 (congrArg some (by kernel_rfl))⟩,
    f23 := Exists.intro "slices.choosePivotCmpFunc[pagewatch/api.Attempt]" ⟨of_decide_eq_true (by kernel_rfl), Eq.trans Try.func76 (congrArg some (by kernel_rfl))⟩,
    f24 := Exists.intro "slices.reverseRangeCmpFunc[pagewatch/api.Attempt]" ⟨of_decide_eq_true (by kernel_rfl), Eq.trans Try.func77 (congrArg some (by kernel_rfl))⟩,
    f25 := Exists.intro "slices.partialInsertionSortCmpFunc[pagewatch/api.Attempt]" ⟨of_decide_eq_true (by kernel_rfl), Eq.trans Try.func78 (congrArg some (by kernel_rfl))⟩,
    f26 := Exists.intro "slices.partitionEqualCmpFunc[pagewatch/api.Attempt]" ⟨of_decide_eq_true (by kernel_rfl), Eq.trans Try.func79 (congrArg some (by kernel_rfl))⟩,
    f27 := Exists.intro "slices.partitionCmpFunc[pagewatch/api.Attempt]" ⟨of_decide_eq_true (by kernel_rfl), Eq.trans Try.func80 (congrArg some (by kernel_rfl))⟩,
    f28 := Eq.trans Try.func81 (congrArg some (by kernel_rfl)),
    f29 := Eq.trans Try.func82 (congrArg some (by kernel_rfl)),
    f46 := Exists.intro "slices.siftDownCmpFunc[pagewatch/api.Attempt]" ⟨of_decide_eq_true (by kernel_rfl), Eq.trans Try.func92 (congrArg some (by kernel_rfl))⟩,
    f47 := Eq.trans Try.func93 (congrArg some (by kernel_rfl)),
    f48 := Eq.trans Try.func94 (congrArg some (by kernel_rfl)),
    f49 := Exists.intro "slices.medianAdjacentCmpFunc[pagewatch/api.Attempt]" ⟨of_decide_eq_true (by kernel_rfl), Eq.trans Try.func95 (congrArg some (by kernel_rfl))⟩,
    f50 := Exists.intro "slices.medianCmpFunc[pagewatch/api.Attempt]" ⟨of_decide_eq_true (by kernel_rfl), Eq.trans Try.func96 (congrArg some (by kernel_rfl))⟩,
    f57 := Exists.intro "slices.order2CmpFunc[pagewatch/api.Attempt]" ⟨of_decide_eq_true (by kernel_rfl), Eq.trans Try.func101 (congrArg some (by kernel_rfl))⟩,
    t0 := Try.underlying0,
    a0 := Try.isAgg0,
    z0 := Try.sizeOf0,
    v0 := Try.zeroValue0,
    t3 := Try.underlying3,
    a3 := Try.isAgg3,
    z3 := Try.sizeOf3,
    v3 := Try.zeroValue3,
    t4 := Try.underlying4,
    a4 := Try.isAgg4,
    z4 := Try.sizeOf4,
    v4 := Try.zeroValue4,
    t5 := Try.underlying5,
    a5 := Try.isAgg5,
    z5 := Try.sizeOf5,
    v5 := Try.zeroValue5,
    t9 := Try.underlying9,
    a9 := Try.isAgg9,
    z9 := Try.sizeOf9,
    v9 := Try.zeroValue9,
    t22 := Try.underlying33,
    a22 := Try.isAgg33,
    z22 := Try.sizeOf33,
    v22 := Try.zeroValue33,
    t25 := Try.underlying81,
    a25 := Try.isAgg81,
    z25 := Try.sizeOf81,
    v25 := Try.zeroValue81,
    t39 := Try.underlying97,
    a39 := Try.isAgg97,
    z39 := Try.sizeOf97,
    v39 := Try.zeroValue97,
    t45 := Try.underlying103,
    a45 := Try.isAgg103,
    z45 := Try.sizeOf103,
    v45 := Try.zeroValue103,
    t46 := Try.underlying104,
    a46 := Try.isAgg104,
    z46 := Try.sizeOf104,
    v46 := Try.zeroValue104,
    t50 := Try.underlying66,
    a50 := Try.isAgg66,
    z50 := Try.sizeOf66,
    v50 := Try.zeroValue66,
    t53 := Try.underlying23,
    a53 := Try.isAgg23,
    z53 := Try.sizeOf23,
    v53 := Try.zeroValue23,
    t55 := Try.underlying111,
    a55 := Try.isAgg111,
    z55 := Try.sizeOf111,
    v55 := Try.zeroValue111,
    t66 := Try.underlying118,
    a66 := Try.isAgg118,
    z66 := Try.sizeOf118,
    v66 := Try.zeroValue118,
    t70 := Try.underlying122,
    a70 := Try.isAgg122,
    z70 := Try.sizeOf122,
    v70 := Try.zeroValue122,
    t76 := Try.underlying126,
    a76 := Try.isAgg126,
    z76 := Try.sizeOf126,
    v76 := Try.zeroValue126,
    t77 := Try.underlying127,
    a77 := Try.isAgg127,
    z77 := Try.sizeOf127,
    v77 := Try.zeroValue127 }
def zq9k (x y z : Int) : Int := if x ≠ 0 then x else if y ≠ 0 then y else z
def zq9l : (Int × Int × Int) → Bool := fun x => (decide (0 ≤ x.1) && decide (x.1 ≤ 4611686018427387904)) && (decide (0 ≤ x.2.1) && decide (x.2.1 ≤ 4611686018427387904)) && (decide (0 ≤ x.2.2) && decide (x.2.2 ≤ 4611686018427387904))
def zq9m : (Int × Int × Int) → (Int × Int × Int) → Int := fun x y => zq9k (x.2.2 - y.2.2) (x.1 - y.1) (x.2.1 - y.2.1)
def zq9n : List (Int × Int × Int) → List (Int × Int × Int) := sortRun zq9l ((0, 0, 0) : Int × Int × Int) rfl zq9m

set_option maxHeartbeats 1000000 in
theorem zq9o (b cap : Nat) (x y z : Int) (w : World) (hx : w.cell? ⟨b, 0, none⟩ = some (.int .i64 x)) (hy : w.cell? ⟨b, 1, none⟩ = some (.int .i64 y)) (hz : w.cell? ⟨b, 2, none⟩ = some (.int .i64 z)) :
    Calls Try.prog 42 #[.slice (some ⟨b, 0, none⟩) 3 cap] w fun e w' => e = .returned (.int .i64 (zq9k x y z)) ∧ w' = w := by
  go_enter Try.func42, Try.ntmps42
  go_wp2
  go_loop [8] (fun i => (i = .int .i64 0 ∨ (i = .int .i64 1 ∧ x = 0) ∨ (i = .int .i64 2 ∧ x = 0 ∧ y = 0) ∨ (i = .int .i64 3 ∧ x = 0 ∧ y = 0 ∧ z = 0))) (fun i => match i with | .int _ n => 3 - n.toNat | _ => 0)
  case atStart => exact .inl rfl
  case round =>
    rcases hrel with rfl | ⟨rfl, rfl⟩ | ⟨rfl, rfl, rfl⟩ | ⟨rfl, rfl, rfl, rfl⟩
    · go_wp2
      · rename_i hne _
        have hn : x ≠ 0 := by simpa using hne
        have e : zq9k x y z = x := by unfold zq9k; rw [if_pos hn]
        rw [e]
        go_ret
        exact ⟨rfl, rfl⟩
      · rename_i he
        have hn : x = 0 := by simpa using he
        exact ⟨.inr (.inl ⟨rfl, hn⟩), by decide⟩
    · go_wp2
      · rename_i hne _
        have hn : y ≠ 0 := by simpa using hne
        have e : zq9k 0 y z = y := by unfold zq9k; rw [if_neg (by simp), if_pos hn]
        rw [e]
        go_ret
        exact ⟨rfl, rfl⟩
      · rename_i he
        have hn : y = 0 := by simpa using he
        exact ⟨.inr (.inr (.inl ⟨rfl, trivial, hn⟩)), by decide⟩
    · go_wp2
      · rename_i hne _
        have hn : z ≠ 0 := by simpa using hne
        have e : zq9k 0 0 z = z := by unfold zq9k; rw [if_neg (by simp), if_neg (by simp)]
        rw [e]
        go_ret
        exact ⟨rfl, rfl⟩
      · rename_i he
        have hn : z = 0 := by simpa using he
        exact ⟨.inr (.inr (.inr ⟨rfl, trivial, trivial, hn⟩)), by decide⟩
    · go_wp2
      go_ret
      exact ⟨rfl, rfl⟩

set_option maxHeartbeats 1000000 in
theorem zq9p (a0 a1 a2 b0 b1 b2 : Int) (W : World) (h1 : Go.RowKit.wrap64 (a2 - b2) = a2 - b2) (h2 : Go.RowKit.wrap64 (a0 - b0) = a0 - b0) (h3 : Go.RowKit.wrap64 (a1 - b1) = a1 - b1) :
    Calls Try.prog 41 #[.agg #[.int .i64 a0, .int .i64 a1, .int .i64 a2], .agg #[.int .i64 b0, .int .i64 b1, .int .i64 b2]] W fun e w' => e = .returned (.int .i64 (zq9k (a2 - b2) (a0 - b0) (a1 - b1))) ∧ ∃ q os', w' = Go.Sort.grow (W.drewN q) os' := by
  go_enter Try.func41, Try.ntmps41
  have hcall : ∀ (o1 o2 : Obj), Calls Try.prog 42 #[.slice (some ⟨W.heap.size + 1 + 1, 0, none⟩) 3 3] (((W.alloc o1).alloc o2).alloc (.cells #[.int .i64 (a2 - b2), .int .i64 (a0 - b0), .int .i64 (a1 - b1)] 3)) fun e w' => e = .returned (.int .i64 (zq9k (a2 - b2) (a0 - b0) (a1 - b1))) ∧ w' = (((W.alloc o1).alloc o2).alloc (.cells #[.int .i64 (a2 - b2), .int .i64 (a0 - b0), .int .i64 (a1 - b1)] 3)) := fun o1 o2 =>
    zq9o _ _ _ _ _ _ (by go_simp) (by go_simp) (by go_simp)
  go_wp2_with (refine (hcall _ _).mono ?_; rintro e w' ⟨rfl, rfl⟩)
  go_ret
  exact ⟨rfl, 0, _, by rw [Go.Sort.alloc_eq_grow, Go.Sort.alloc_eq_grow, Go.Sort.alloc_eq_grow, Go.Sort.grow_grow, Go.Sort.grow_grow]; rfl⟩
theorem zq9q (x y : Int × Int × Int) (hx : zq9l x = true) (hy : zq9l y = true) (W : World) : Calls Try.prog 41 #[.agg (encT (.prod (.int .i64) (.prod (.int .i64) (.int .i64))) x).toArray, .agg (encT (.prod (.int .i64) (.prod (.int .i64) (.int .i64))) y).toArray] W fun e w' => e = .returned (.int .i64 (zq9m x y)) ∧ ∃ q os', w' = Go.Sort.grow (W.drewN q) os' := by
  obtain ⟨a0, a1, a2⟩ := x
  obtain ⟨b0, b1, b2⟩ := y
  simp only [zq9l, Bool.and_eq_true, decide_eq_true_eq] at hx hy
  obtain ⟨⟨⟨p1, p2⟩, p3, p4⟩, p5, p6⟩ := hx
  obtain ⟨⟨⟨q1, q2⟩, q3, q4⟩, q5, q6⟩ := hy
  exact zq9p a0 a1 a2 b0 b1 b2 W (by unfold Go.RowKit.wrap64; omega) (by unfold Go.RowKit.wrap64; omega) (by unfold Go.RowKit.wrap64; omega)
theorem zq9r : Go.Sort.SWO (Go.Proofs.ltOf fun (x y : {x : Int × Int × Int // zq9l x = true}) => zq9m x.1 y.1) := by
  have key : ∀ a b : Int × Int × Int, zq9m a b < 0 ↔ (a.2.2 < b.2.2 ∨ (a.2.2 = b.2.2 ∧ (a.1 < b.1 ∨ (a.1 = b.1 ∧ a.2.1 < b.2.1)))) := by
    intro a b
    unfold zq9m zq9k
    split
    · omega
    · split <;> omega
  constructor
  · intro x
    refine decide_eq_false ?_
    rw [key]
    omega
  · intro x y z h1 h2
    have h1 := of_decide_eq_true h1
    have h2 := of_decide_eq_true h2
    rw [key] at h1 h2
    refine decide_eq_true ?_
    rw [key]
    omega
  · intro x y z h1 h2
    have h1 := of_decide_eq_false h1
    have h2 := of_decide_eq_false h2
    rw [key] at h1 h2
    refine decide_eq_false ?_
    rw [key]
    omega
def zq9s : RowF := ⟨39, (.prod (.int .i64) (.prod (.int .i64) (.int .i64))), false, fun l => List.all l zq9l && decide (List.length l < 4611686018427387904), zq9n, some 41⟩
theorem zq9t : RowOk Try.prog 40 zq9s :=
  sortFunc_rowok (t := 39) (e := (.prod (.int .i64) (.prod (.int .i64) (.int .i64)))) (good := zq9l) (d0 := ((0, 0, 0) : Int × Int × Int)) (h0 := rfl) (cf := zq9m) (g := 41) rfl (by decide) zq9j rfl Try.isAgg39 Try.sizeOf39 zq9r (Go.Proofs.enters_of Try.func41 (by kernel_rfl) rfl) zq9q ⟨_, Try.func40, by kernel_rfl, by kernel_rfl⟩

/-- pagewatch/delivery.Plan -/
abbrev zq9u := {β : Type} → (Int × List (Int × (Int × (Int × Int)))) → Int → ((List (Int × (Int × Int))) → Option β) → Option β
def zq9v (c : zq9u) : Spec :=
  ⟨[(true, [.data (.prod (.int .i64) (.slice (.prod (.int .i64) (.prod (.int .i64) (.prod (.int .i64) (.int .i64))))))]), (false, [.data (.int .i64)])], [], [(false, [.rowh 0])], [.row 39 (.prod (.int .i64) (.prod (.int .i64) (.int .i64)))], fun x k => c x.1.1.1 x.1.2.1.1 (fun r0 => k (((), ()), (r0, ())))⟩
noncomputable def delivery_Plan_p2_code : Code := codeAt 122 (bodyOf Try.f13)
noncomputable def delivery_Plan_p1_code : Code := codeAt 230 (loopBody delivery_Plan_p2_code)
abbrev zq9w (β : Type) := Int → (List (Int × (Int × (Int × Int)))) → Int → Int → (List (Int × (Int × Int))) → Option β
abbrev zq9x := {β : Type} → zq9w β → Int → Int → (List (Int × (Int × (Int × Int)))) → Int → Int → Int → Int → (List (Int × (Int × Int))) → Int → Int → Int → Int → Option β
def zq9y : View := ⟨0, [1, 5, 6, 7, 18, 19, 20, 26, 27], [(false, [.data (.int .i64)]), (false, [.rowh 0]), (false, [.data (.int .i64)]), (false, [.ptr 1 0]), (false, [.data (.slice (.prod (.int .i64) (.prod (.int .i64) (.prod (.int .i64) (.int .i64)))))]), (false, [.data (.int .i64)]), (false, [.data (.int .i64)]), (false, [.data (.int .i64)]), (false, [.data (.int .i64)])], [.row 39 (.prod (.int .i64) (.prod (.int .i64) (.int .i64))), .cells 36 [.data (.int .i64), .data (.int .i64), .data (.int .i64), .data (.int .i64)]]⟩
def zq9z : List (AExit × View) := [(.exit 2, ⟨0, [1, 5, 18, 19, 20], [(false, [.data (.int .i64)]), (false, [.rowh 0]), (false, [.data (.slice (.prod (.int .i64) (.prod (.int .i64) (.prod (.int .i64) (.int .i64)))))]), (false, [.data (.int .i64)]), (false, [.data (.int .i64)])], [.row 39 (.prod (.int .i64) (.prod (.int .i64) (.int .i64)))]⟩)]
@[reducible] def delivery_Plan_p1_G (p : zq9x) {β : Type} (d : zq9y.den) (ks : Outs.K β zq9z) : Option β :=
  p (fun a0 a1 a2 a3 a4 => ks.1 (((a0, ()), (), (a1, ()), (a2, ()), (a3, ()), ()), (a4, ()))) d.1.1.1 d.1.2.2.1.1 d.1.2.2.2.2.1.1 d.1.2.2.2.2.2.1.1 d.1.2.2.2.2.2.2.1.1 d.1.2.2.2.2.2.2.2.1.1 d.1.2.2.2.2.2.2.2.2.1.1 d.2.1 d.2.2.1.1 d.2.2.1.2.1 d.2.2.1.2.2.1 d.2.2.1.2.2.2.1
abbrev zqa0 (β : Type) := (List (Int × (Int × Int))) → Option β
abbrev zqa1 := {β : Type} → zqa0 β → Int → (List (Int × (Int × (Int × Int)))) → Int → Int → (List (Int × (Int × Int))) → Option β
def zqa2 : View := ⟨0, [1, 5, 18, 19, 20], [(false, [.data (.int .i64)]), (false, [.rowh 0]), (false, [.data (.slice (.prod (.int .i64) (.prod (.int .i64) (.prod (.int .i64) (.int .i64)))))]), (false, [.data (.int .i64)]), (false, [.data (.int .i64)])], [.row 39 (.prod (.int .i64) (.prod (.int .i64) (.int .i64)))]⟩
def zqa3 : List (AExit × View) := [(.exit 0, ⟨0, [5], [(false, [.rowh 0])], [.row 39 (.prod (.int .i64) (.prod (.int .i64) (.int .i64)))]⟩)]
@[reducible] def delivery_Plan_p2_G (p : zqa1) {β : Type} (d : zqa2.den) (ks : Outs.K β zqa3) : Option β :=
  p (fun a0 => ks.1 (((), ()), (a0, ()))) d.1.1.1 d.1.2.2.1.1 d.1.2.2.2.1.1 d.1.2.2.2.2.1.1 d.2.1
section
variable (c_delivery_Valid : zq9b) (c_delivery_in : zq13)
@[reducible] def delivery_Plan_X : Ctx := ⟨look tab, pick1 [(31, .spec (zq9c c_delivery_Valid)), (39, .spec (zq14 c_delivery_in)), (40, .rows zq9s)], false, false, false, false⟩
def zqa4 {β : Type} (rec : Int → Int → (List (Int × (Int × (Int × Int)))) → Int → Int → Int → Int → (List (Int × (Int × Int))) → Int → Int → Int → Int → Option β) (k1 : zq9w β) (start : Int) (c : Int) (t18 : List (Int × (Int × (Int × Int)))) (t19 : Int) (t20 : Int) (t26 : Int) (t27 : Int) (out : List (Int × (Int × Int))) (ch : Int) (ch2 : Int) (ch3 : Int) (ch4 : Int) : Option β :=
  cond (decide (t27 < t26))
  (let l : List (Int × (Int × Int)) := ([(c, (t27, (IntKind.i64.wrap (start + (IntKind.i64.wrap (t27 * ch4))))))] : List (Int × (Int × Int)));
  cond (decide ((List.length out + List.length l) * 24 ≤ roomMax))
  (let l2 : List (Int × (Int × Int)) := (out ++ l);
  rec start c t18 t19 t20 t26 (IntKind.i64.wrap (t27 + (1 : Int))) l2 ch ch2 ch3 ch4)
  none)
  (k1 start t18 t19 t20 out)
def zqa5 {β : Type} : Nat → zq9w β → Int → Int → (List (Int × (Int × (Int × Int)))) → Int → Int → Int → Int → (List (Int × (Int × Int))) → Int → Int → Int → Int → Option β
  | 0 => fun _ _ _ _ _ _ _ _ _ _ _ _ _ => none
  | i + 1 => fun k1 start c t18 t19 t20 t26 t27 out ch ch2 ch3 ch4 => zqa4 (zqa5 i k1) k1 start c t18 t19 t20 t26 t27 out ch ch2 ch3 ch4
theorem zqa6 (hΓ : ΓOk Try.prog (delivery_Plan_X c_delivery_Valid c_delivery_in).Γ) (i : Nat) : PieceOk Try.prog 47 0 delivery_Plan_p1_code zq9y zq9z (delivery_Plan_p1_G (zqa5 i)) := by
  rw [show delivery_Plan_p1_code = .loop (loopBody delivery_Plan_p1_code) by kernel_rfl]
  exact piece_loop (X := (delivery_Plan_X c_delivery_Valid c_delivery_in)) (p := 1) (Λ := pick1 []) (G := fun i => @fun β d ks => delivery_Plan_p1_G (zqa5 i) d ks) mixed tab_ok hΓ rfl (by kernel_rfl) CutsOk_nil (fun _ _ => rfl) (fun i => @fun β d ks r h => Eq.trans (b := delivery_Plan_p1_G (zqa5 (i + 1)) d ks) (by kernel_rfl) h) i
def zqa7 (p1 : zq9x) {β : Type} (rec : Int → (List (Int × (Int × (Int × Int)))) → Int → Int → (List (Int × (Int × Int))) → Option β) (k1 : zqa0 β) (start : Int) (t18 : List (Int × (Int × (Int × Int)))) (t19 : Int) (t20 : Int) (out : List (Int × (Int × Int))) : Option β :=
  cond (decide (t20 < t19))
  (cond (decide (0 ≤ t20) && decide (t20 < (List.length t18 : Int)))
  (let e : (Int × (Int × (Int × Int))) := List.getD t18 (Int.toNat t20) ((0 : Int), ((0 : Int), ((0 : Int), (0 : Int))));
  p1 (fun (start2 : Int) (t182 : List (Int × (Int × (Int × Int)))) (t192 : Int) (t202 : Int) (out2 : List (Int × (Int × Int))) =>
  rec start2 t182 t192 (IntKind.i64.wrap (t202 + (1 : Int))) out2) start t20 t18 t19 t20 e.2.2.1 (0 : Int) out e.1 e.2.1 e.2.2.1 e.2.2.2)
  none)
  (k1 out)
def zqa8 (p1 : zq9x) {β : Type} : Nat → zqa0 β → Int → (List (Int × (Int × (Int × Int)))) → Int → Int → (List (Int × (Int × Int))) → Option β
  | 0 => fun _ _ _ _ _ _ => none
  | i + 1 => fun k1 start t18 t19 t20 out => zqa7 p1 (zqa8 p1 i k1) k1 start t18 t19 t20 out
theorem zqa9 (hΓ : ΓOk Try.prog (delivery_Plan_X c_delivery_Valid c_delivery_in).Γ) (p1 : zq9x) (hp1 : PieceOk Try.prog 47 0 delivery_Plan_p1_code zq9y zq9z (delivery_Plan_p1_G p1)) (i : Nat) : PieceOk Try.prog 47 0 delivery_Plan_p2_code zqa2 zqa3 (delivery_Plan_p2_G (zqa8 p1 i)) := by
  rw [show delivery_Plan_p2_code = .loop (loopBody delivery_Plan_p2_code) by kernel_rfl]
  exact piece_loop (X := (delivery_Plan_X c_delivery_Valid c_delivery_in)) (p := 1) (Λ := pick1 [(230, pieceCut zq9y zq9z (delivery_Plan_p1_G p1))]) (G := fun i => @fun β d ks => delivery_Plan_p2_G (zqa8 p1 i) d ks) mixed tab_ok hΓ rfl (by kernel_rfl) (CutsOk_cons (q := 230) (c' := delivery_Plan_p1_code) (by kernel_rfl) rfl hp1 CutsOk_nil) (fun _ _ => rfl) (fun i => @fun β d ks r h => Eq.trans (b := delivery_Plan_p2_G (zqa8 p1 (i + 1)) d ks) (by kernel_rfl) h) i
def zqaa (p2 : zqa1) {β : Type} (p_ : (Int × List (Int × (Int × (Int × Int))))) (start : Int) (k : ((List (Int × (Int × Int))) → Option β)) : Option β :=
  c_delivery_Valid p_ (fun (rValid : Bool) =>
  cond (!rValid)
  (k ([] : List (Int × (Int × Int))))
  (c_delivery_in start (0 : Int) (8589934592 : Int) (fun (rin : Bool) =>
  cond (!rin)
  (k ([] : List (Int × (Int × Int))))
  (p2 (fun (out : List (Int × (Int × Int))) =>
  cond ((List.all out zq9l) && decide (List.length out < 4611686018427387904))
  (let l : List (Int × (Int × Int)) := (zq9n out);
  k l)
  none) start p_.2 (List.length p_.2 : Int) (0 : Int) ([] : List (Int × (Int × Int)))))))
theorem zqab (hΓ : ΓOk Try.prog (delivery_Plan_X c_delivery_Valid c_delivery_in).Γ) (p2 : zqa1) (hp2 : PieceOk Try.prog 47 0 delivery_Plan_p2_code zqa2 zqa3 (delivery_Plan_p2_G p2)) : SpecOk Try.prog 13 (zq9v (zqaa c_delivery_Valid c_delivery_in p2)) :=
  spec_exec (X := (delivery_Plan_X c_delivery_Valid c_delivery_in)) (Λ := pick1 [(122, pieceCut zqa2 zqa3 (delivery_Plan_p2_G p2))]) (rs := [.tmp 4]) (c := bodyOf Try.f13) mixed tab_ok hΓ Try.func13 (by kernel_rfl) (by kernel_rfl) (by kernel_rfl) (by kernel_rfl) (CutsOk_cons (q := 122) (c' := delivery_Plan_p2_code) (by kernel_rfl) rfl hp2 CutsOk_nil) (fun x k r h => Eq.trans (b := (zq9v (zqaa c_delivery_Valid c_delivery_in p2)).run x k) (by kernel_rfl) h)
end
theorem zqacΓ : ΓOk Try.prog (pick1 [(31, .spec (zq9c zq9g)), (39, .spec (zq14 zq18)), (40, .rows zq9s)]) := (ΓOk_cons zq9h (ΓOk_cons zq19 (ΓOk_row zq9t ΓOk_nil)))
def zqad (m : Nat) : zq9x := zqa5 m
theorem zqae {β : Type} (i : Nat) (k1 start c t18 t19 t20 t26 t27 out ch ch2 ch3 ch4) : (zqad (i + 1) k1 start c t18 t19 t20 t26 t27 out ch ch2 ch3 ch4 : Option β) = zqa4 (zqad i k1) k1 start c t18 t19 t20 t26 t27 out ch ch2 ch3 ch4 := rfl
def zqaf : zq9x := zqad fuel
theorem zqag : PieceOk Try.prog 47 0 delivery_Plan_p1_code zq9y zq9z (delivery_Plan_p1_G zqaf) := zqa6 zq9g zq18 zqacΓ fuel
def zqah (m : Nat) : zqa1 := zqa8 zqaf m
theorem zqai {β : Type} (i : Nat) (k1 start t18 t19 t20 out) : (zqah (i + 1) k1 start t18 t19 t20 out : Option β) = zqa7 zqaf (zqah i k1) k1 start t18 t19 t20 out := rfl
def zqaj : zqa1 := zqah fuel
theorem zqak : PieceOk Try.prog 47 0 delivery_Plan_p2_code zqa2 zqa3 (delivery_Plan_p2_G zqaj) := zqa9 zq9g zq18 zqacΓ zqaf zqag fuel
def zqal : zq9u := zqaa zq9g zq18 zqaj
theorem zqam : SpecOk Try.prog 13 (zq9v zqal) := zqab zq9g zq18 zqacΓ zqaj zqak

/-- pagewatch/delivery.Check -/
abbrev zqan := {β : Type} → (Int × List (Int × (Int × (Int × Int)))) → zq2 → (Bool → Option β) → Option β
def zqao (c : zqan) : Spec :=
  ⟨[(true, [.data (.prod (.int .i64) (.slice (.prod (.int .i64) (.prod (.int .i64) (.prod (.int .i64) (.int .i64))))))]), (true, [.data zq3])], [], [(false, [.data .bool])], [], fun x k => c x.1.1.1 x.1.2.1.1 (fun r0 => k (((r0, ()), ()), ()))⟩
section
variable (c_delivery_Plan : zq9u) (c_delivery_Valid : zq9b) (c_delivery_in : zq13) (c_delivery_numbers : zq4j)
@[reducible] def delivery_Check_X : Ctx := ⟨look tab, pick1 [(13, .spec (zq9v c_delivery_Plan)), (31, .spec (zq9c c_delivery_Valid)), (39, .spec (zq14 c_delivery_in)), (59, .spec (zq4k c_delivery_numbers))], false, false, false, false⟩
def zqap {β : Type} (p_ : (Int × List (Int × (Int × (Int × Int))))) (c : zq2) (k : (Bool → Option β)) : Option β :=
  c_delivery_Valid p_ (fun (rValid : Bool) =>
  cond rValid
  (c_delivery_numbers c (fun (rnumbers : Bool) =>
  cond rnumbers
  (cond (decide (c.2.2.1 = p_.1))
  (c_delivery_Plan p_ c.2.2.2.1 (fun (lrPlan : List (Int × (Int × Int))) =>
  c_delivery_in c.2.2.2.2.1 (0 : Int) (List.length lrPlan : Int) (fun (rin : Bool) =>
  cond rin
  (cond (decide (c.2.2.2.2.2 = (-1 : Int)))
  (k true)
  (cond (!decide (c.2.2.2.2.1 = (0 : Int)))
  (let t : Bool := (decide (c.2.2.2.1 ≤ c.2.2.2.2.2));
  k t)
  (k false)))
  (k false))))
  (k false))
  (k false)))
  (k false))
theorem zqaq (hΓ : ΓOk Try.prog (delivery_Check_X c_delivery_Plan c_delivery_Valid c_delivery_in c_delivery_numbers).Γ) : SpecOk Try.prog 30 (zqao (zqap c_delivery_Plan c_delivery_Valid c_delivery_in c_delivery_numbers)) :=
  spec_exec (X := (delivery_Check_X c_delivery_Plan c_delivery_Valid c_delivery_in c_delivery_numbers)) (Λ := pick1 []) (rs := [.tmp 4]) (c := bodyOf Try.f30) mixed tab_ok hΓ Try.func30 (by kernel_rfl) (by kernel_rfl) (by kernel_rfl) (by kernel_rfl) CutsOk_nil (fun x k r h => Eq.trans (b := (zqao (zqap c_delivery_Plan c_delivery_Valid c_delivery_in c_delivery_numbers)).run x k) (by kernel_rfl) h)
end
theorem zqarΓ : ΓOk Try.prog (pick1 [(13, .spec (zq9v zqal)), (31, .spec (zq9c zq9g)), (39, .spec (zq14 zq18)), (59, .spec (zq4k zq4o))]) := (ΓOk_cons zqam (ΓOk_cons zq9h (ΓOk_cons zq19 (ΓOk_cons zq4p ΓOk_nil))))
def zqas : zqan := zqap zqal zq9g zq18 zq4o
theorem zqat : SpecOk Try.prog 30 (zqao zqas) := zqaq zqal zq9g zq18 zq4o zqarΓ

/-- pagewatch/delivery.Send -/
abbrev zqau := {β : Type} → (Int × List (Int × (Int × (Int × Int)))) → zq2 → Int → (zq2 → Int → (List (Int × (Int × Int))) → Option β) → Option β
def zqav (c : zqau) : Spec :=
  ⟨[(true, [.data (.prod (.int .i64) (.slice (.prod (.int .i64) (.prod (.int .i64) (.prod (.int .i64) (.int .i64))))))]), (true, [.data zq3]), (false, [.data (.int .i64)])], [], [(true, [.data zq3]), (false, [.rowh 0]), (false, [.data (.int .i64)])], [.row 39 (.prod (.int .i64) (.prod (.int .i64) (.int .i64)))], fun x k => c x.1.1.1 x.1.2.1.1 x.1.2.2.1.1 (fun r0 r1 r2 => k (((r0, ()), (), (r1, ()), ()), (r2, ())))⟩
noncomputable def delivery_Send_p1_code : Code := codeAt 122 (bodyOf Try.f23)
abbrev zqaw (β : Type) := Int → Int → Int → Int → Int → Int → Int → Int → Int → Int → Int → Int → (List (Int × (Int × Int))) → Option β
abbrev zqax := {β : Type} → zqaw β → Int → (List (Int × (Int × Int))) → Int → Int → Int → Int → Int → Int → Int → Int → Int → Int → Int → Int → Int → Int → (List (Int × (Int × Int))) → Option β
def zqay : View := ⟨0, [2, 4, 6, 9, 23, 24, 25], [(false, [.data (.int .i64)]), (false, [.ptr 0 0]), (false, [.ptr 1 0]), (false, [.rowh 2]), (false, [.data (.slice (.prod (.int .i64) (.prod (.int .i64) (.int .i64))))]), (false, [.data (.int .i64)]), (false, [.data (.int .i64)])], [.cells 55 [.data (.int .i64), .data (.int .i64), .data (.int .i64), .data (.int .i64), .data (.int .i64), .data (.int .i64)], .cells 55 [.data (.int .i64), .data (.int .i64), .data (.int .i64), .data (.int .i64), .data (.int .i64), .data (.int .i64)], .row 39 (.prod (.int .i64) (.prod (.int .i64) (.int .i64)))]⟩
def zqaz : List (AExit × View) := [(.exit 0, ⟨0, [4, 6, 9], [(false, [.ptr 0 0]), (false, [.ptr 1 0]), (false, [.rowh 2])], [.cells 55 [.data (.int .i64), .data (.int .i64), .data (.int .i64), .data (.int .i64), .data (.int .i64), .data (.int .i64)], .cells 55 [.data (.int .i64), .data (.int .i64), .data (.int .i64), .data (.int .i64), .data (.int .i64), .data (.int .i64)], .row 39 (.prod (.int .i64) (.prod (.int .i64) (.int .i64)))]⟩)]
@[reducible] def delivery_Send_p1_G (p : zqax) {β : Type} (d : zqay.den) (ks : Outs.K β zqaz) : Option β :=
  p (fun a0 a1 a2 a3 a4 a5 a6 a7 a8 a9 a10 a11 a12 => ks.1 (((), (), (), ()), ((a0, a1, a2, a3, a4, a5, ()), (a6, a7, a8, a9, a10, a11, ()), a12, ()))) d.1.1.1 d.1.2.2.2.2.1.1 d.1.2.2.2.2.2.1.1 d.1.2.2.2.2.2.2.1.1 d.2.1.1 d.2.1.2.1 d.2.1.2.2.1 d.2.1.2.2.2.1 d.2.1.2.2.2.2.1 d.2.1.2.2.2.2.2.1 d.2.2.1.1 d.2.2.1.2.1 d.2.2.1.2.2.1 d.2.2.1.2.2.2.1 d.2.2.1.2.2.2.2.1 d.2.2.1.2.2.2.2.2.1 d.2.2.2.1
section
variable (c_delivery_Check : zqan) (c_delivery_Plan : zq9u)
@[reducible] def delivery_Send_X : Ctx := ⟨look tab, pick1 [(30, .spec (zqao c_delivery_Check)), (13, .spec (zq9v c_delivery_Plan))], false, false, false, true⟩
def zqb0 {β : Type} (rec : Int → (List (Int × (Int × Int))) → Int → Int → Int → Int → Int → Int → Int → Int → Int → Int → Int → Int → Int → Int → (List (Int × (Int × Int))) → Option β) (k1 : zqaw β) (now : Int) (t23 : List (Int × (Int × Int))) (t24 : Int) (t25 : Int) (c : Int) (c2 : Int) (c3 : Int) (c4 : Int) (c5 : Int) (c6 : Int) (t6 : Int) (t62 : Int) (t63 : Int) (t64 : Int) (t65 : Int) (t66 : Int) (out : List (Int × (Int × Int))) : Option β :=
  cond (decide (t25 < t24))
  (cond (decide (0 ≤ t25) && decide (t25 < (List.length t23 : Int)))
  (let e : (Int × (Int × Int)) := List.getD t23 (Int.toNat t25) ((0 : Int), ((0 : Int), (0 : Int)));
  cond (!decide (c6 = (-1 : Int)))
  (k1 c c2 c3 c4 c5 c6 t6 t62 t63 t64 t65 t66 out)
  (cond (decide (now < e.2.2))
  (k1 c c2 c3 c4 c5 c6 t6 t62 t63 t64 t65 t66 out)
  (let l : List (Int × (Int × Int)) := ([e] : List (Int × (Int × Int)));
  cond (decide ((List.length out + List.length l) * 24 ≤ roomMax))
  (let l2 : List (Int × (Int × Int)) := (out ++ l);
  rec now t23 t24 (IntKind.i64.wrap (t25 + (1 : Int))) c c2 c3 c4 (IntKind.i64.wrap (c5 + (1 : Int))) c6 t6 t62 t63 t64 t65 t66 l2)
  none)))
  none)
  (k1 c c2 c3 c4 c5 c6 t6 t62 t63 t64 t65 t66 out)
def zqb1 {β : Type} : Nat → zqaw β → Int → (List (Int × (Int × Int))) → Int → Int → Int → Int → Int → Int → Int → Int → Int → Int → Int → Int → Int → Int → (List (Int × (Int × Int))) → Option β
  | 0 => fun _ _ _ _ _ _ _ _ _ _ _ _ _ _ _ _ _ _ => none
  | i + 1 => fun k1 now t23 t24 t25 c c2 c3 c4 c5 c6 t6 t62 t63 t64 t65 t66 out => zqb0 (zqb1 i k1) k1 now t23 t24 t25 c c2 c3 c4 c5 c6 t6 t62 t63 t64 t65 t66 out
theorem zqb2 (hΓ : ΓOk Try.prog (delivery_Send_X c_delivery_Check c_delivery_Plan).Γ) (i : Nat) : PieceOk Try.prog 49 0 delivery_Send_p1_code zqay zqaz (delivery_Send_p1_G (zqb1 i)) := by
  rw [show delivery_Send_p1_code = .loop (loopBody delivery_Send_p1_code) by kernel_rfl]
  exact piece_loop (X := (delivery_Send_X c_delivery_Check c_delivery_Plan)) (p := 1) (Λ := pick1 []) (G := fun i => @fun β d ks => delivery_Send_p1_G (zqb1 i) d ks) mixed tab_ok hΓ rfl (by kernel_rfl) CutsOk_nil (fun _ _ => rfl) (fun i => @fun β d ks r h => Eq.trans (b := delivery_Send_p1_G (zqb1 (i + 1)) d ks) (by kernel_rfl) h) i
def zqb3 (p1 : zqax) {β : Type} (p_ : (Int × List (Int × (Int × (Int × Int))))) (c : zq2) (now : Int) (k : (zq2 → Int → (List (Int × (Int × Int))) → Option β)) : Option β :=
  c_delivery_Check p_ c (fun (rCheck : Bool) =>
  cond (!rCheck)
  (k ((0 : Int), ((0 : Int), ((0 : Int), ((0 : Int), ((0 : Int), (0 : Int)))))) (8 : Int) ([] : List (Int × (Int × Int))))
  (c_delivery_Plan p_ c.2.2.2.1 (fun (lrPlan : List (Int × (Int × Int))) =>
  cond (decide (0 ≤ c.2.2.2.2.1) && (decide (c.2.2.2.2.1 ≤ (List.length lrPlan : Int)) && decide ((List.length lrPlan : Int) ≤ (List.length lrPlan : Int))))
  (p1 (fun (c2 : Int) (c3 : Int) (c4 : Int) (c5 : Int) (c6 : Int) (c7 : Int) (t6 : Int) (t62 : Int) (t63 : Int) (t64 : Int) (t65 : Int) (t66 : Int) (out : List (Int × (Int × Int))) =>
  k (c2, (c3, (c4, (c5, (c6, c7))))) (0 : Int) out) now (List.drop (Int.toNat c.2.2.2.2.1) (List.take (Int.toNat (List.length lrPlan : Int)) lrPlan)) (List.length (List.drop (Int.toNat c.2.2.2.2.1) (List.take (Int.toNat (List.length lrPlan : Int)) lrPlan)) : Int) (0 : Int) c.1 c.2.1 c.2.2.1 c.2.2.2.1 c.2.2.2.2.1 c.2.2.2.2.2 (0 : Int) (0 : Int) (0 : Int) (0 : Int) (0 : Int) (0 : Int) ([] : List (Int × (Int × Int))))
  none)))
theorem zqb4 (hΓ : ΓOk Try.prog (delivery_Send_X c_delivery_Check c_delivery_Plan).Γ) (p1 : zqax) (hp1 : PieceOk Try.prog 49 0 delivery_Send_p1_code zqay zqaz (delivery_Send_p1_G p1)) : SpecOk Try.prog 23 (zqav (zqb3 c_delivery_Check c_delivery_Plan p1)) :=
  spec_exec (X := (delivery_Send_X c_delivery_Check c_delivery_Plan)) (Λ := pick1 [(122, pieceCut zqay zqaz (delivery_Send_p1_G p1))]) (rs := [.cell 6 55, .tmp 7, .tmp 8]) (c := bodyOf Try.f23) mixed tab_ok hΓ Try.func23 (by kernel_rfl) (by kernel_rfl) (by kernel_rfl) (by kernel_rfl) (CutsOk_cons (q := 122) (c' := delivery_Send_p1_code) (by kernel_rfl) rfl hp1 CutsOk_nil) (fun x k r h => Eq.trans (b := (zqav (zqb3 c_delivery_Check c_delivery_Plan p1)).run x k) (by kernel_rfl) h)
end
theorem zqb5Γ : ΓOk Try.prog (pick1 [(30, .spec (zqao zqas)), (13, .spec (zq9v zqal))]) := (ΓOk_cons zqat (ΓOk_cons zqam ΓOk_nil))
def zqb6 (m : Nat) : zqax := zqb1 m
theorem zqb7 {β : Type} (i : Nat) (k1 now t23 t24 t25 c c2 c3 c4 c5 c6 t6 t62 t63 t64 t65 t66 out) : (zqb6 (i + 1) k1 now t23 t24 t25 c c2 c3 c4 c5 c6 t6 t62 t63 t64 t65 t66 out : Option β) = zqb0 (zqb6 i k1) k1 now t23 t24 t25 c c2 c3 c4 c5 c6 t6 t62 t63 t64 t65 t66 out := rfl
def zqb8 : zqax := zqb6 fuel
theorem zqb9 : PieceOk Try.prog 49 0 delivery_Send_p1_code zqay zqaz (delivery_Send_p1_G zqb8) := zqb2 zqas zqal zqb5Γ fuel
def zqba : zqau := zqb3 zqas zqal zqb8
theorem zqbb : SpecOk Try.prog 23 (zqav zqba) := zqb4 zqas zqal zqb5Γ zqb8 zqb9

/-- pagewatch/delivery.Receipt -/
abbrev zqbc := {β : Type} → (Int × List (Int × (Int × (Int × Int)))) → zq2 → Int → Int → (zq2 → Int → Option β) → Option β
def zqbd (c : zqbc) : Spec :=
  ⟨[(true, [.data (.prod (.int .i64) (.slice (.prod (.int .i64) (.prod (.int .i64) (.prod (.int .i64) (.int .i64))))))]), (true, [.data zq3]), (false, [.data (.int .i64)]), (false, [.data (.int .i64)])], [], [(true, [.data zq3]), (false, [.data (.int .i64)])], [], fun x k => c x.1.1.1 x.1.2.1.1 x.1.2.2.1.1 x.1.2.2.2.1.1 (fun r0 r1 => k (((r0, ()), (r1, ()), ()), ()))⟩
section
variable (c_delivery_Check : zqan) (c_delivery_Plan : zq9u) (c_delivery_in : zq13)
@[reducible] def delivery_Receipt_X : Ctx := ⟨look tab, pick1 [(30, .spec (zqao c_delivery_Check)), (13, .spec (zq9v c_delivery_Plan)), (39, .spec (zq14 c_delivery_in))], false, false, false, false⟩
def zqbe {β : Type} (p_ : (Int × List (Int × (Int × (Int × Int))))) (c : zq2) (attempt : Int) (at_ : Int) (k : (zq2 → Int → Option β)) : Option β :=
  c_delivery_Check p_ c (fun (rCheck : Bool) =>
  cond (!rCheck)
  (k ((0 : Int), ((0 : Int), ((0 : Int), ((0 : Int), ((0 : Int), (0 : Int)))))) (8 : Int))
  (c_delivery_in attempt (0 : Int) (IntKind.i64.wrap (c.2.2.2.2.1 - (1 : Int))) (fun (rin : Bool) =>
  cond (!rin)
  (k ((0 : Int), ((0 : Int), ((0 : Int), ((0 : Int), ((0 : Int), (0 : Int)))))) (3 : Int))
  (c_delivery_Plan p_ c.2.2.2.1 (fun (lrPlan : List (Int × (Int × Int))) =>
  cond (decide (0 ≤ attempt) && decide (attempt < (List.length lrPlan : Int)))
  (c_delivery_in at_ (((List.getD lrPlan (Int.toNat attempt) ((0 : Int), ((0 : Int), (0 : Int)))).2).2) (8590193792 : Int) (fun (rin2 : Bool) =>
  cond (!rin2)
  (k ((0 : Int), ((0 : Int), ((0 : Int), ((0 : Int), ((0 : Int), (0 : Int)))))) (6 : Int))
  (cond (decide (c.2.2.2.2.2 = (-1 : Int)))
  (k (c.1, (c.2.1, (c.2.2.1, (c.2.2.2.1, (c.2.2.2.2.1, at_))))) (0 : Int))
  (cond (decide (at_ < c.2.2.2.2.2))
  (k (c.1, (c.2.1, (c.2.2.1, (c.2.2.2.1, (c.2.2.2.2.1, at_))))) (0 : Int))
  (k c (0 : Int))))))
  none)))))
theorem zqbf (hΓ : ΓOk Try.prog (delivery_Receipt_X c_delivery_Check c_delivery_Plan c_delivery_in).Γ) : SpecOk Try.prog 26 (zqbd (zqbe c_delivery_Check c_delivery_Plan c_delivery_in)) :=
  spec_exec (X := (delivery_Receipt_X c_delivery_Check c_delivery_Plan c_delivery_in)) (Λ := pick1 []) (rs := [.cell 8 55, .tmp 9]) (c := bodyOf Try.f26) mixed tab_ok hΓ Try.func26 (by kernel_rfl) (by kernel_rfl) (by kernel_rfl) (by kernel_rfl) CutsOk_nil (fun x k r h => Eq.trans (b := (zqbd (zqbe c_delivery_Check c_delivery_Plan c_delivery_in)).run x k) (by kernel_rfl) h)
end
theorem zqbgΓ : ΓOk Try.prog (pick1 [(30, .spec (zqao zqas)), (13, .spec (zq9v zqal)), (39, .spec (zq14 zq18))]) := (ΓOk_cons zqat (ΓOk_cons zqam (ΓOk_cons zq19 ΓOk_nil)))
def zqbh : zqbc := zqbe zqas zqal zq18
theorem zqbi : SpecOk Try.prog 26 (zqbd zqbh) := zqbf zqas zqal zq18 zqbgΓ

/-- pagewatch/delivery.Next -/
abbrev zqbj := {β : Type} → (Int × List (Int × (Int × (Int × Int)))) → zq2 → (Int → Bool → Option β) → Option β
def zqbk (c : zqbj) : Spec :=
  ⟨[(true, [.data (.prod (.int .i64) (.slice (.prod (.int .i64) (.prod (.int .i64) (.prod (.int .i64) (.int .i64))))))]), (true, [.data zq3])], [], [(false, [.data (.int .i64)]), (false, [.data .bool])], [], fun x k => c x.1.1.1 x.1.2.1.1 (fun r0 r1 => k (((r0, ()), (r1, ()), ()), ()))⟩
section
variable (c_delivery_Check : zqan) (c_delivery_Plan : zq9u)
@[reducible] def delivery_Next_X : Ctx := ⟨look tab, pick1 [(30, .spec (zqao c_delivery_Check)), (13, .spec (zq9v c_delivery_Plan))], false, false, false, false⟩
def zqbl {β : Type} (p_ : (Int × List (Int × (Int × (Int × Int))))) (c : zq2) (k : (Int → Bool → Option β)) : Option β :=
  c_delivery_Check p_ c (fun (rCheck : Bool) =>
  cond (!rCheck)
  (k (0 : Int) false)
  (cond (!decide (c.2.2.2.2.2 = (-1 : Int)))
  (k (0 : Int) false)
  (c_delivery_Plan p_ c.2.2.2.1 (fun (lrPlan : List (Int × (Int × Int))) =>
  cond (decide (c.2.2.2.2.1 = (List.length lrPlan : Int)))
  (k (0 : Int) false)
  (cond (decide (0 ≤ c.2.2.2.2.1) && decide (c.2.2.2.2.1 < (List.length lrPlan : Int)))
  (let t : Int := ((List.getD lrPlan (Int.toNat c.2.2.2.2.1) ((0 : Int), ((0 : Int), (0 : Int)))).2).2;
  k t true)
  none)))))
theorem zqbm (hΓ : ΓOk Try.prog (delivery_Next_X c_delivery_Check c_delivery_Plan).Γ) : SpecOk Try.prog 27 (zqbk (zqbl c_delivery_Check c_delivery_Plan)) :=
  spec_exec (X := (delivery_Next_X c_delivery_Check c_delivery_Plan)) (Λ := pick1 []) (rs := [.tmp 4, .tmp 5]) (c := bodyOf Try.f27) mixed tab_ok hΓ Try.func27 (by kernel_rfl) (by kernel_rfl) (by kernel_rfl) (by kernel_rfl) CutsOk_nil (fun x k r h => Eq.trans (b := (zqbk (zqbl c_delivery_Check c_delivery_Plan)).run x k) (by kernel_rfl) h)
end
theorem zqbnΓ : ΓOk Try.prog (pick1 [(30, .spec (zqao zqas)), (13, .spec (zq9v zqal))]) := (ΓOk_cons zqat (ΓOk_cons zqam ΓOk_nil))
def zqbo : zqbj := zqbl zqas zqal
theorem zqbp : SpecOk Try.prog 27 (zqbk zqbo) := zqbm zqas zqal zqbnΓ

/-- slices.IndexFunc[[]int,int] -/
abbrev zqbq := {β : Type} → (List Int) → (Int × (Int × Int)) → (Int → (Int × (Int × Int)) → Option β) → Option β
def zqbr (c : zqbq) : Spec :=
  ⟨[(false, [.data (.slice (.int .i64))]), (false, [.fn 45 [0]])], [.cells 39 [.data (.prod (.int .i64) (.prod (.int .i64) (.int .i64)))]], [(false, [.data (.int .i64)])], [.cells 39 [.data (.prod (.int .i64) (.prod (.int .i64) (.int .i64)))]], fun x k => c x.1.1.1 x.2.1.1 (fun r0 r1 => k (((r0, ()), ()), ((r1, ()), ())))⟩
noncomputable def slices_IndexFunc_int_int_vdelivery_Run_f1_p1_code : Code := codeAt 26 (bodyOf Try.f67)
abbrev zqbs (β : Type) := Int → Int → Int → Int → Option β
abbrev zqbt (β : Type) := Int → Int → Int → Option β
abbrev zqbu := {β : Type} → zqbs β → zqbt β → (List Int) → Int → Int → Int → Int → Int → Option β
def zqbv : View := ⟨1, [0, 1, 7, 8], [(false, [.data (.slice (.int .i64))]), (false, [.fn 45 [0]]), (false, [.data (.int .i64)]), (false, [.data (.int .i64)])], [.cells 39 [.data (.int .i64), .data (.int .i64), .data (.int .i64)]]⟩
def zqbw : List (AExit × View) := [(.ret, ⟨1, [4], [(false, [.data (.int .i64)])], [.cells 39 [.data (.int .i64), .data (.int .i64), .data (.int .i64)]]⟩), (.exit 0, ⟨1, [], [], [.cells 39 [.data (.int .i64), .data (.int .i64), .data (.int .i64)]]⟩)]
@[reducible] def slices_IndexFunc_int_int_vdelivery_Run_f1_p1_G (p : zqbu) {β : Type} (d : zqbv.den) (ks : Outs.K β zqbw) : Option β :=
  p (fun a0 a1 a2 a3 => ks.1 (((a0, ()), ()), ((a1, a2, a3, ()), ()))) (fun a0 a1 a2 => ks.2.1 ((), ((a0, a1, a2, ()), ()))) d.1.1.1 d.1.2.2.1.1 d.1.2.2.2.1.1 d.2.1.1 d.2.1.2.1 d.2.1.2.2.1
section
variable (c_delivery_Run_f1 : zq1a)
@[reducible] def slices_IndexFunc_int_int_vdelivery_Run_f1_X : Ctx := ⟨look tab, pick1 [(45, .spec (zq1b c_delivery_Run_f1))], false, false, false, false⟩
def zqbx {β : Type} (rec : (List Int) → Int → Int → Int → Int → Int → Option β) (k1 : zqbs β) (k2 : zqbt β) (s : List Int) (t7 : Int) (t8 : Int) (b0_ : Int) (b0_2 : Int) (b0_3 : Int) : Option β :=
  cond (decide (t8 < t7))
  (cond (decide (0 ≤ t8) && decide (t8 < (List.length s : Int)))
  (let e : Int := List.getD s (Int.toNat t8) (0 : Int);
  c_delivery_Run_f1 e (b0_, (b0_2, b0_3)) (fun (rRun1 : Bool) (mrRun1 : (Int × (Int × Int))) =>
  cond rRun1
  (k1 t8 mrRun1.1 mrRun1.2.1 mrRun1.2.2)
  (rec s t7 (IntKind.i64.wrap (t8 + (1 : Int))) mrRun1.1 mrRun1.2.1 mrRun1.2.2)))
  none)
  (k2 b0_ b0_2 b0_3)
def zqby {β : Type} : Nat → zqbs β → zqbt β → (List Int) → Int → Int → Int → Int → Int → Option β
  | 0 => fun _ _ _ _ _ _ _ _ => none
  | i + 1 => fun k1 k2 s t7 t8 b0_ b0_2 b0_3 => zqbx c_delivery_Run_f1 (zqby i k1 k2) k1 k2 s t7 t8 b0_ b0_2 b0_3
theorem zqbz (hΓ : ΓOk Try.prog (slices_IndexFunc_int_int_vdelivery_Run_f1_X c_delivery_Run_f1).Γ) (i : Nat) : PieceOk Try.prog 19 1 slices_IndexFunc_int_int_vdelivery_Run_f1_p1_code zqbv zqbw (slices_IndexFunc_int_int_vdelivery_Run_f1_p1_G (zqby c_delivery_Run_f1 i)) := by
  rw [show slices_IndexFunc_int_int_vdelivery_Run_f1_p1_code = .loop (loopBody slices_IndexFunc_int_int_vdelivery_Run_f1_p1_code) by kernel_rfl]
  exact piece_loop (X := (slices_IndexFunc_int_int_vdelivery_Run_f1_X c_delivery_Run_f1)) (p := 1) (Λ := pick1 []) (G := fun i => @fun β d ks => slices_IndexFunc_int_int_vdelivery_Run_f1_p1_G (zqby c_delivery_Run_f1 i) d ks) mixed tab_ok hΓ rfl (by kernel_rfl) CutsOk_nil (fun _ _ => rfl) (fun i => @fun β d ks r h => Eq.trans (b := slices_IndexFunc_int_int_vdelivery_Run_f1_p1_G (zqby c_delivery_Run_f1 (i + 1)) d ks) (by kernel_rfl) h) i
def zqc0 (p1 : zqbu) {β : Type} (s : List Int) (b0_ : (Int × (Int × Int))) (k : (Int → (Int × (Int × Int)) → Option β)) : Option β :=
  p1 (fun (t4 : Int) (b0_2 : Int) (b0_3 : Int) (b0_4 : Int) =>
  k t4 (b0_2, (b0_3, b0_4))) (fun (b0_2 : Int) (b0_3 : Int) (b0_4 : Int) =>
  k (-1 : Int) (b0_2, (b0_3, b0_4))) s (List.length s : Int) (0 : Int) b0_.1 b0_.2.1 b0_.2.2
theorem zqc1 (hΓ : ΓOk Try.prog (slices_IndexFunc_int_int_vdelivery_Run_f1_X c_delivery_Run_f1).Γ) (p1 : zqbu) (hp1 : PieceOk Try.prog 19 1 slices_IndexFunc_int_int_vdelivery_Run_f1_p1_code zqbv zqbw (slices_IndexFunc_int_int_vdelivery_Run_f1_p1_G p1)) : SpecOk Try.prog 67 (zqbr (zqc0 p1)) :=
  spec_exec (X := (slices_IndexFunc_int_int_vdelivery_Run_f1_X c_delivery_Run_f1)) (Λ := pick1 [(26, pieceCut zqbv zqbw (slices_IndexFunc_int_int_vdelivery_Run_f1_p1_G p1))]) (rs := [.tmp 4]) (c := bodyOf Try.f67) mixed tab_ok hΓ Try.func67 (by kernel_rfl) (by kernel_rfl) (by kernel_rfl) (by kernel_rfl) (CutsOk_cons (q := 26) (c' := slices_IndexFunc_int_int_vdelivery_Run_f1_p1_code) (by kernel_rfl) rfl hp1 CutsOk_nil) (fun x k r h => Eq.trans (b := (zqbr (zqc0 p1)).run x k) (by kernel_rfl) h)
end
theorem zqc2Γ : ΓOk Try.prog (pick1 [(45, .spec (zq1b zq1f))]) := (ΓOk_cons zq1g ΓOk_nil)
def zqc3 (m : Nat) : zqbu := zqby zq1f m
theorem zqc4 {β : Type} (i : Nat) (k1 k2 s t7 t8 b0_ b0_2 b0_3) : (zqc3 (i + 1) k1 k2 s t7 t8 b0_ b0_2 b0_3 : Option β) = zqbx zq1f (zqc3 i k1 k2) k1 k2 s t7 t8 b0_ b0_2 b0_3 := rfl
def zqc5 : zqbu := zqc3 fuel
theorem zqc6 : PieceOk Try.prog 19 1 slices_IndexFunc_int_int_vdelivery_Run_f1_p1_code zqbv zqbw (slices_IndexFunc_int_int_vdelivery_Run_f1_p1_G zqc5) := zqbz zq1f zqc2Γ fuel
def zqc7 : zqbq := zqc0 zqc5
theorem zqc8 : SpecOk Try.prog 67 (zqbr zqc7) := zqc1 zq1f zqc2Γ zqc5 zqc6

/-- slices.ContainsFunc[[]int,int] -/
abbrev zqc9 := {β : Type} → (List Int) → (Int × (Int × Int)) → (Bool → (Int × (Int × Int)) → Option β) → Option β
def zqca (c : zqc9) : Spec :=
  ⟨[(false, [.data (.slice (.int .i64))]), (false, [.fn 45 [0]])], [.cells 39 [.data (.prod (.int .i64) (.prod (.int .i64) (.int .i64)))]], [(false, [.data .bool])], [.cells 39 [.data (.prod (.int .i64) (.prod (.int .i64) (.int .i64)))]], fun x k => c x.1.1.1 x.2.1.1 (fun r0 r1 => k (((r0, ()), ()), ((r1, ()), ())))⟩
section
variable (c_slices_IndexFunc_int_int_vdelivery_Run_f1 : zqbq)
@[reducible] def slices_ContainsFunc_int_int_vdelivery_Run_f1_X : Ctx := ⟨look tab, pick1 [(67, .spec (zqbr c_slices_IndexFunc_int_int_vdelivery_Run_f1))], false, false, false, false⟩
def zqcb {β : Type} (s : List Int) (b0_ : (Int × (Int × Int))) (k : (Bool → (Int × (Int × Int)) → Option β)) : Option β :=
  c_slices_IndexFunc_int_int_vdelivery_Run_f1 s b0_ (fun (rIndexFuncintint : Int) (mrIndexFuncintint : (Int × (Int × Int))) =>
  let t : Bool := (decide ((0 : Int) ≤ rIndexFuncintint));
  k t mrIndexFuncintint)
theorem zqcc (hΓ : ΓOk Try.prog (slices_ContainsFunc_int_int_vdelivery_Run_f1_X c_slices_IndexFunc_int_int_vdelivery_Run_f1).Γ) : SpecOk Try.prog 44 (zqca (zqcb c_slices_IndexFunc_int_int_vdelivery_Run_f1)) :=
  spec_exec (X := (slices_ContainsFunc_int_int_vdelivery_Run_f1_X c_slices_IndexFunc_int_int_vdelivery_Run_f1)) (Λ := pick1 []) (rs := [.tmp 4]) (c := bodyOf Try.f44) mixed tab_ok hΓ Try.func44 (by kernel_rfl) (by kernel_rfl) (by kernel_rfl) (by kernel_rfl) CutsOk_nil (fun x k r h => Eq.trans (b := (zqca (zqcb c_slices_IndexFunc_int_int_vdelivery_Run_f1)).run x k) (by kernel_rfl) h)
end
theorem zqcdΓ : ΓOk Try.prog (pick1 [(67, .spec (zqbr zqc7))]) := (ΓOk_cons zqc8 ΓOk_nil)
def zqce : zqc9 := zqcb zqc7
theorem zqcf : SpecOk Try.prog 44 (zqca zqce) := zqcc zqc7 zqcdΓ

/-- pagewatch/delivery.Run -/
abbrev zqcg := {β : Type} → (Int × List (Int × (Int × (Int × Int)))) → Int → (List (List zq0)) → (Int → (List Int) → (List Int) → Option β) → Option β
def zqch (c : zqcg) : Spec :=
  ⟨[(true, [.data (.prod (.int .i64) (.slice (.prod (.int .i64) (.prod (.int .i64) (.prod (.int .i64) (.int .i64))))))]), (false, [.data (.int .i64)]), (false, [.data (.slice (.slice zq1))])], [], [(false, [.rowh 0]), (false, [.rowh 1]), (false, [.data (.int .i64)])], [.row 3 (.int .i64), .row 3 (.int .i64)], fun x k => c x.1.1.1 x.1.2.1.1 x.1.2.2.1.1 (fun r0 r1 r2 => k (((), (), (r0, ()), ()), (r1, r2, ())))⟩
noncomputable def delivery_Run_p3_code : Code := codeAt 58 (bodyOf Try.f16)
noncomputable def delivery_Run_p1_code : Code := codeAt 463 (loopBody delivery_Run_p3_code)
noncomputable def delivery_Run_p2_code : Code := codeAt 115 (loopBody delivery_Run_p3_code)
abbrev zqci (β : Type) := (List (List zq0)) → Int → Int → Int → (List Int) → (List Int) → (List (Int × (Int × Int))) → Option β
abbrev zqcj := {β : Type} → zqci β → (List (List zq0)) → Int → (List zq0) → Int → Int → (List Int) → (List Int) → (List (Int × (Int × Int))) → Int → Int → Int → Option β
def zqck : View := ⟨0, [2, 6, 7, 8, 9, 11, 12, 17, 18, 19], [(false, [.data (.slice (.slice zq1))]), (false, [.rowh 0]), (false, [.rowh 1]), (false, [.data (.int .i64)]), (false, [.rowh 2]), (false, [.ptr 3 0]), (false, [.data (.slice zq1)]), (false, [.rowh 2]), (false, [.data (.int .i64)]), (false, [.data (.int .i64)])], [.row 3 (.int .i64), .row 3 (.int .i64), .row 39 (.prod (.int .i64) (.prod (.int .i64) (.int .i64))), .cells 39 [.data (.int .i64), .data (.int .i64), .data (.int .i64)]]⟩
def zqcl : List (AExit × View) := [(.normal, ⟨0, [2, 6, 7, 8, 9, 17, 18, 19], [(false, [.data (.slice (.slice zq1))]), (false, [.rowh 0]), (false, [.rowh 1]), (false, [.data (.int .i64)]), (false, [.rowh 2]), (false, [.rowh 2]), (false, [.data (.int .i64)]), (false, [.data (.int .i64)])], [.row 3 (.int .i64), .row 3 (.int .i64), .row 39 (.prod (.int .i64) (.prod (.int .i64) (.int .i64)))]⟩)]
@[reducible] def delivery_Run_p1_G (p : zqcj) {β : Type} (d : zqck.den) (ks : Outs.K β zqcl) : Option β :=
  p (fun a0 a1 a2 a3 a4 a5 a6 => ks.1 (((a0, ()), (), (), (a1, ()), (), (), (a2, ()), (a3, ()), ()), (a4, a5, a6, ()))) d.1.1.1 d.1.2.2.2.1.1 d.1.2.2.2.2.2.2.1.1 d.1.2.2.2.2.2.2.2.2.1.1 d.1.2.2.2.2.2.2.2.2.2.1.1 d.2.1 d.2.2.1 d.2.2.2.1 d.2.2.2.2.1.1 d.2.2.2.2.1.2.1 d.2.2.2.2.1.2.2.1
abbrev zqcm (β : Type) := (List (List zq0)) → Int → Int → Int → (List Int) → (List Int) → (List (Int × (Int × Int))) → Option β
abbrev zqcn := {β : Type} → zqcm β → (List (List zq0)) → Int → Int → Int → (List Int) → (List Int) → (List (Int × (Int × Int))) → Int → Int → Int → Option β
def zqco : View := ⟨0, [2, 6, 7, 8, 9, 11, 17, 18, 19], [(false, [.data (.slice (.slice zq1))]), (false, [.rowh 0]), (false, [.rowh 1]), (false, [.data (.int .i64)]), (false, [.rowh 2]), (false, [.ptr 3 0]), (false, [.rowh 2]), (false, [.data (.int .i64)]), (false, [.data (.int .i64)])], [.row 3 (.int .i64), .row 3 (.int .i64), .row 39 (.prod (.int .i64) (.prod (.int .i64) (.int .i64))), .cells 39 [.data (.int .i64), .data (.int .i64), .data (.int .i64)]]⟩
def zqcp : List (AExit × View) := [(.normal, ⟨0, [2, 6, 7, 8, 9, 17, 18, 19], [(false, [.data (.slice (.slice zq1))]), (false, [.rowh 0]), (false, [.rowh 1]), (false, [.data (.int .i64)]), (false, [.rowh 2]), (false, [.rowh 2]), (false, [.data (.int .i64)]), (false, [.data (.int .i64)])], [.row 3 (.int .i64), .row 3 (.int .i64), .row 39 (.prod (.int .i64) (.prod (.int .i64) (.int .i64)))]⟩)]
@[reducible] def delivery_Run_p2_G (p : zqcn) {β : Type} (d : zqco.den) (ks : Outs.K β zqcp) : Option β :=
  p (fun a0 a1 a2 a3 a4 a5 a6 => ks.1 (((a0, ()), (), (), (a1, ()), (), (), (a2, ()), (a3, ()), ()), (a4, a5, a6, ()))) d.1.1.1 d.1.2.2.2.1.1 d.1.2.2.2.2.2.2.2.1.1 d.1.2.2.2.2.2.2.2.2.1.1 d.2.1 d.2.2.1 d.2.2.2.1 d.2.2.2.2.1.1 d.2.2.2.2.1.2.1 d.2.2.2.2.1.2.2.1
abbrev zqcq (β : Type) := Int → (List Int) → (List Int) → Option β
abbrev zqcr := {β : Type} → zqcq β → (List (List zq0)) → Int → Int → Int → (List Int) → (List Int) → (List (Int × (Int × Int))) → Option β
def zqcs : View := ⟨0, [2, 6, 7, 8, 9, 17, 18, 19], [(false, [.data (.slice (.slice zq1))]), (false, [.rowh 0]), (false, [.rowh 1]), (false, [.data (.int .i64)]), (false, [.rowh 2]), (false, [.rowh 2]), (false, [.data (.int .i64)]), (false, [.data (.int .i64)])], [.row 3 (.int .i64), .row 3 (.int .i64), .row 39 (.prod (.int .i64) (.prod (.int .i64) (.int .i64)))]⟩
def zqct : List (AExit × View) := [(.exit 0, ⟨0, [6, 7, 8], [(false, [.rowh 0]), (false, [.rowh 1]), (false, [.data (.int .i64)])], [.row 3 (.int .i64), .row 3 (.int .i64)]⟩)]
@[reducible] def delivery_Run_p3_G (p : zqcr) {β : Type} (d : zqcs.den) (ks : Outs.K β zqct) : Option β :=
  p (fun a0 a1 a2 => ks.1 (((), (), (a0, ()), ()), (a1, a2, ()))) d.1.1.1 d.1.2.2.2.1.1 d.1.2.2.2.2.2.2.1.1 d.1.2.2.2.2.2.2.2.1.1 d.2.1 d.2.2.1 d.2.2.2.1
section
variable (c_channel_Arrivals : zq3n) (c_channel_Fates : zq3g) (c_channel_Receipts : zq3u) (c_delivery_Plan : zq9u) (c_slices_ContainsFunc_int_int_vdelivery_Run_f1 : zqc9)
@[reducible] def delivery_Run_X : Ctx := ⟨look tab, pick1 [(47, .spec (zq3o c_channel_Arrivals)), (46, .spec (zq3h c_channel_Fates)), (48, .spec (zq3v c_channel_Receipts)), (13, .spec (zq9v c_delivery_Plan)), (44, .spec (zqca c_slices_ContainsFunc_int_int_vdelivery_Run_f1)), (49, .rows zq1j)], false, false, false, false⟩
def zqcu {β : Type} (k1 : zqci β) (fates : List (List zq0)) (sent : Int) (f : List zq0) (t18 : Int) (t19 : Int) (arrivals : List Int) (receipts : List Int) (l : List (Int × (Int × Int))) (a : Int) (a2 : Int) (a3 : Int) : Option β :=
  c_channel_Fates f a2 (fun (rFates : zq0) =>
  c_channel_Arrivals a3 rFates (fun (lrArrivals : List Int) =>
  cond (decide ((List.length arrivals + List.length lrArrivals) * 8 ≤ roomMax))
  (let l2 : List Int := (arrivals ++ lrArrivals);
  c_channel_Receipts a3 rFates (fun (lrReceipts : List Int) =>
  cond (decide ((List.length receipts + List.length lrReceipts) * 8 ≤ roomMax))
  (let l3 : List Int := (receipts ++ lrReceipts);
  let sent2 : Int := (IntKind.i64.wrap (sent + (1 : Int)));
  k1 fates sent2 t18 t19 l2 l3 l)
  none))
  none))
def zqcv {β : Type} (k1 : zqci β) (fates : List (List zq0)) (sent : Int) (f : List zq0) (t18 : Int) (t19 : Int) (arrivals : List Int) (receipts : List Int) (l : List (Int × (Int × Int))) (a : Int) (a2 : Int) (a3 : Int) : Option β := zqcu c_channel_Arrivals c_channel_Fates c_channel_Receipts k1 fates sent f t18 t19 arrivals receipts l a a2 a3
theorem zqcw (hΓ : ΓOk Try.prog (delivery_Run_X c_channel_Arrivals c_channel_Fates c_channel_Receipts c_delivery_Plan c_slices_ContainsFunc_int_int_vdelivery_Run_f1).Γ) : PieceOk Try.prog 76 0 delivery_Run_p1_code zqck zqcl (delivery_Run_p1_G (zqcv c_channel_Arrivals c_channel_Fates c_channel_Receipts)) :=
  piece_exec (X := (delivery_Run_X c_channel_Arrivals c_channel_Fates c_channel_Receipts c_delivery_Plan c_slices_ContainsFunc_int_int_vdelivery_Run_f1)) (p := 463) (Λ := pick1 []) mixed tab_ok hΓ (by kernel_rfl) CutsOk_nil (fun d ks r h => Eq.trans (b := delivery_Run_p1_G (zqcv c_channel_Arrivals c_channel_Fates c_channel_Receipts) d ks) (by kernel_rfl) h)
def zqcx (p1 : zqcj) {β : Type} (k1 : zqcm β) (fates : List (List zq0)) (sent : Int) (t18 : Int) (t19 : Int) (arrivals : List Int) (receipts : List Int) (l : List (Int × (Int × Int))) (a : Int) (a2 : Int) (a3 : Int) : Option β :=
  cond (decide (a < (List.length fates : Int)))
  (cond (decide (0 ≤ a) && decide (a < (List.length fates : Int)))
  (let e : List zq0 := List.getD fates (Int.toNat a) ([] : List zq0);
  p1 (fun (fates2 : List (List zq0)) (sent2 : Int) (t182 : Int) (t192 : Int) (arrivals2 : List Int) (receipts2 : List Int) (l2 : List (Int × (Int × Int))) =>
  k1 fates2 sent2 t182 t192 arrivals2 receipts2 l2) fates sent e t18 t19 arrivals receipts l a a2 a3)
  none)
  (p1 (fun (fates2 : List (List zq0)) (sent2 : Int) (t182 : Int) (t192 : Int) (arrivals2 : List Int) (receipts2 : List Int) (l2 : List (Int × (Int × Int))) =>
  k1 fates2 sent2 t182 t192 arrivals2 receipts2 l2) fates sent ([] : List zq0) t18 t19 arrivals receipts l a a2 a3)
def zqcy (p1 : zqcj) {β : Type} (k1 : zqcm β) (fates : List (List zq0)) (sent : Int) (t18 : Int) (t19 : Int) (arrivals : List Int) (receipts : List Int) (l : List (Int × (Int × Int))) (a : Int) (a2 : Int) (a3 : Int) : Option β := zqcx p1 k1 fates sent t18 t19 arrivals receipts l a a2 a3
theorem zqcz (hΓ : ΓOk Try.prog (delivery_Run_X c_channel_Arrivals c_channel_Fates c_channel_Receipts c_delivery_Plan c_slices_ContainsFunc_int_int_vdelivery_Run_f1).Γ) (p1 : zqcj) (hp1 : PieceOk Try.prog 76 0 delivery_Run_p1_code zqck zqcl (delivery_Run_p1_G p1)) : PieceOk Try.prog 76 0 delivery_Run_p2_code zqco zqcp (delivery_Run_p2_G (zqcy p1)) :=
  piece_exec (X := (delivery_Run_X c_channel_Arrivals c_channel_Fates c_channel_Receipts c_delivery_Plan c_slices_ContainsFunc_int_int_vdelivery_Run_f1)) (p := 115) (Λ := pick1 [(463, pieceCut zqck zqcl (delivery_Run_p1_G p1))]) mixed tab_ok hΓ (by kernel_rfl) (CutsOk_cons (q := 463) (c' := delivery_Run_p1_code) (by kernel_rfl) rfl hp1 CutsOk_nil) (fun d ks r h => Eq.trans (b := delivery_Run_p2_G (zqcy p1) d ks) (by kernel_rfl) h)
def zqd0 (p2 : zqcn) {β : Type} (rec : (List (List zq0)) → Int → Int → Int → (List Int) → (List Int) → (List (Int × (Int × Int))) → Option β) (k1 : zqcq β) (fates : List (List zq0)) (sent : Int) (t18 : Int) (t19 : Int) (arrivals : List Int) (receipts : List Int) (l : List (Int × (Int × Int))) : Option β :=
  cond (decide (t19 < t18))
  (cond (decide (0 ≤ t19) && decide (t19 < (List.length l : Int)))
  (cond (decide (t19 = (0 : Int)))
  (c_slices_ContainsFunc_int_int_vdelivery_Run_f1 receipts ((List.getD l (Int.toNat t19) ((0 : Int), ((0 : Int), (0 : Int)))).1, ((List.getD l (Int.toNat t19) ((0 : Int), ((0 : Int), (0 : Int)))).2)) (fun (rContainsFuncintint : Bool) (mrContainsFuncintint : (Int × (Int × Int))) =>
  cond rContainsFuncintint
  (k1 sent arrivals receipts)
  (p2 (fun (fates2 : List (List zq0)) (sent2 : Int) (t182 : Int) (t192 : Int) (arrivals2 : List Int) (receipts2 : List Int) (l2 : List (Int × (Int × Int))) =>
  rec fates2 sent2 t182 (IntKind.i64.wrap (t192 + (1 : Int))) arrivals2 receipts2 l2) fates sent t18 t19 arrivals receipts l mrContainsFuncintint.1 mrContainsFuncintint.2.1 mrContainsFuncintint.2.2)))
  (cond (decide (0 ≤ (IntKind.i64.wrap (t19 - (1 : Int)))) && decide ((IntKind.i64.wrap (t19 - (1 : Int))) < (List.length l : Int)))
  (cond (!decide ((((List.getD l (Int.toNat (IntKind.i64.wrap (t19 - (1 : Int)))) ((0 : Int), ((0 : Int), (0 : Int)))).2).2) = (((List.getD l (Int.toNat t19) ((0 : Int), ((0 : Int), (0 : Int)))).2).2)))
  (c_slices_ContainsFunc_int_int_vdelivery_Run_f1 receipts ((List.getD l (Int.toNat t19) ((0 : Int), ((0 : Int), (0 : Int)))).1, ((List.getD l (Int.toNat t19) ((0 : Int), ((0 : Int), (0 : Int)))).2)) (fun (rContainsFuncintint : Bool) (mrContainsFuncintint : (Int × (Int × Int))) =>
  cond rContainsFuncintint
  (k1 sent arrivals receipts)
  (p2 (fun (fates2 : List (List zq0)) (sent2 : Int) (t182 : Int) (t192 : Int) (arrivals2 : List Int) (receipts2 : List Int) (l2 : List (Int × (Int × Int))) =>
  rec fates2 sent2 t182 (IntKind.i64.wrap (t192 + (1 : Int))) arrivals2 receipts2 l2) fates sent t18 t19 arrivals receipts l mrContainsFuncintint.1 mrContainsFuncintint.2.1 mrContainsFuncintint.2.2)))
  (p2 (fun (fates2 : List (List zq0)) (sent2 : Int) (t182 : Int) (t192 : Int) (arrivals2 : List Int) (receipts2 : List Int) (l2 : List (Int × (Int × Int))) =>
  rec fates2 sent2 t182 (IntKind.i64.wrap (t192 + (1 : Int))) arrivals2 receipts2 l2) fates sent t18 t19 arrivals receipts l ((List.getD l (Int.toNat t19) ((0 : Int), ((0 : Int), (0 : Int)))).1) (((List.getD l (Int.toNat t19) ((0 : Int), ((0 : Int), (0 : Int)))).2).1) (((List.getD l (Int.toNat t19) ((0 : Int), ((0 : Int), (0 : Int)))).2).2)))
  none))
  none)
  (k1 sent arrivals receipts)
def zqd1 (p2 : zqcn) {β : Type} : Nat → zqcq β → (List (List zq0)) → Int → Int → Int → (List Int) → (List Int) → (List (Int × (Int × Int))) → Option β
  | 0 => fun _ _ _ _ _ _ _ _ => none
  | i + 1 => fun k1 fates sent t18 t19 arrivals receipts l => zqd0 c_slices_ContainsFunc_int_int_vdelivery_Run_f1 p2 (zqd1 p2 i k1) k1 fates sent t18 t19 arrivals receipts l
theorem zqd2 (hΓ : ΓOk Try.prog (delivery_Run_X c_channel_Arrivals c_channel_Fates c_channel_Receipts c_delivery_Plan c_slices_ContainsFunc_int_int_vdelivery_Run_f1).Γ) (p2 : zqcn) (hp2 : PieceOk Try.prog 76 0 delivery_Run_p2_code zqco zqcp (delivery_Run_p2_G p2)) (i : Nat) : PieceOk Try.prog 76 0 delivery_Run_p3_code zqcs zqct (delivery_Run_p3_G (zqd1 c_slices_ContainsFunc_int_int_vdelivery_Run_f1 p2 i)) := by
  rw [show delivery_Run_p3_code = .loop (loopBody delivery_Run_p3_code) by kernel_rfl]
  exact piece_loop (X := (delivery_Run_X c_channel_Arrivals c_channel_Fates c_channel_Receipts c_delivery_Plan c_slices_ContainsFunc_int_int_vdelivery_Run_f1)) (p := 1) (Λ := pick1 [(115, pieceCut zqco zqcp (delivery_Run_p2_G p2))]) (G := fun i => @fun β d ks => delivery_Run_p3_G (zqd1 c_slices_ContainsFunc_int_int_vdelivery_Run_f1 p2 i) d ks) mixed tab_ok hΓ rfl (by kernel_rfl) (CutsOk_cons (q := 115) (c' := delivery_Run_p2_code) (by kernel_rfl) rfl hp2 CutsOk_nil) (fun _ _ => rfl) (fun i => @fun β d ks r h => Eq.trans (b := delivery_Run_p3_G (zqd1 c_slices_ContainsFunc_int_int_vdelivery_Run_f1 p2 (i + 1)) d ks) (by kernel_rfl) h) i
def zqd3 (p3 : zqcr) {β : Type} (p_ : (Int × List (Int × (Int × (Int × Int))))) (start : Int) (fates : List (List zq0)) (k : (Int → (List Int) → (List Int) → Option β)) : Option β :=
  c_delivery_Plan p_ start (fun (lrPlan : List (Int × (Int × Int))) =>
  p3 (fun (sent : Int) (arrivals : List Int) (receipts : List Int) =>
  cond (decide (List.length arrivals < 4611686018427387904))
  (let l : List Int := (sortInts arrivals);
  cond (decide (List.length receipts < 4611686018427387904))
  (let l2 : List Int := (sortInts receipts);
  k sent l l2)
  none)
  none) fates (0 : Int) (List.length lrPlan : Int) (0 : Int) ([] : List Int) ([] : List Int) lrPlan)
theorem zqd4 (hΓ : ΓOk Try.prog (delivery_Run_X c_channel_Arrivals c_channel_Fates c_channel_Receipts c_delivery_Plan c_slices_ContainsFunc_int_int_vdelivery_Run_f1).Γ) (p3 : zqcr) (hp3 : PieceOk Try.prog 76 0 delivery_Run_p3_code zqcs zqct (delivery_Run_p3_G p3)) : SpecOk Try.prog 16 (zqch (zqd3 c_delivery_Plan p3)) :=
  spec_exec (X := (delivery_Run_X c_channel_Arrivals c_channel_Fates c_channel_Receipts c_delivery_Plan c_slices_ContainsFunc_int_int_vdelivery_Run_f1)) (Λ := pick1 [(58, pieceCut zqcs zqct (delivery_Run_p3_G p3))]) (rs := [.tmp 6, .tmp 7, .tmp 8]) (c := bodyOf Try.f16) mixed tab_ok hΓ Try.func16 (by kernel_rfl) (by kernel_rfl) (by kernel_rfl) (by kernel_rfl) (CutsOk_cons (q := 58) (c' := delivery_Run_p3_code) (by kernel_rfl) rfl hp3 CutsOk_nil) (fun x k r h => Eq.trans (b := (zqch (zqd3 c_delivery_Plan p3)).run x k) (by kernel_rfl) h)
end
theorem zqd5Γ : ΓOk Try.prog (pick1 [(47, .spec (zq3o zq3s)), (46, .spec (zq3h zq3l)), (48, .spec (zq3v zq4a)), (13, .spec (zq9v zqal)), (44, .spec (zqca zqce)), (49, .rows zq1j)]) := (ΓOk_cons zq3t (ΓOk_cons zq3m (ΓOk_cons zq4b (ΓOk_cons zqam (ΓOk_cons zqcf (ΓOk_row zq1k ΓOk_nil))))))
def zqd6 : zqcj := zqcv zq3s zq3l zq4a
theorem zqd7 : PieceOk Try.prog 76 0 delivery_Run_p1_code zqck zqcl (delivery_Run_p1_G zqd6) := zqcw zq3s zq3l zq4a zqal zqce zqd5Γ
def zqd8 : zqcn := zqcy zqd6
theorem zqd9 : PieceOk Try.prog 76 0 delivery_Run_p2_code zqco zqcp (delivery_Run_p2_G zqd8) := zqcz zq3s zq3l zq4a zqal zqce zqd5Γ zqd6 zqd7
def zqda (m : Nat) : zqcr := zqd1 zqce zqd8 m
theorem zqdb {β : Type} (i : Nat) (k1 fates sent t18 t19 arrivals receipts l) : (zqda (i + 1) k1 fates sent t18 t19 arrivals receipts l : Option β) = zqd0 zqce zqd8 (zqda i k1) k1 fates sent t18 t19 arrivals receipts l := rfl
def zqdc : zqcr := zqda fuel
theorem zqdd : PieceOk Try.prog 76 0 delivery_Run_p3_code zqcs zqct (delivery_Run_p3_G zqdc) := zqd2 zq3s zq3l zq4a zqal zqce zqd5Γ zqd8 zqd9 fuel
def zqde : zqcg := zqd3 zqal zqdc
theorem zqdf : SpecOk Try.prog 16 (zqch zqde) := zqd4 zq3s zq3l zq4a zqal zqce zqd5Γ zqdc zqdd

/-- pagewatch/pagewatchlaw27.sane -/
abbrev zqdg := {β : Type} → (Bool → Option β) → Option β
def zqdh (c : zqdg) : Spec :=
  ⟨[], [], [(false, [.data .bool])], [], fun x k => c  (fun r0 => k (((r0, ()), ()), ()))⟩
section
variable (c_delivery_Plan : zq9u) (c_delivery_Run : zqcg)
@[reducible] def law27_sane_X : Ctx := ⟨look tab, pick1 [(13, .spec (zq9v c_delivery_Plan)), (16, .spec (zqch c_delivery_Run))], false, false, false, false⟩
def zqdi {β : Type} (k : (Bool → Option β)) : Option β :=
  let l : List (Int × (Int × (Int × Int))) := ([((0 : Int), ((9 : Int), ((2 : Int), (60 : Int)))), ((0 : Int), ((9 : Int), ((2 : Int), (90 : Int))))] : List (Int × (Int × (Int × Int))));
  c_delivery_Plan ((0 : Int), l) (0 : Int) (fun (lrPlan : List (Int × (Int × Int))) =>
  let l2 : List zq0 := ([(false, ((30 : Int), ((0 : Int), (0 : Int))))] : List zq0);
  let l3 : List (List zq0) := ([l2] : List (List zq0));
  c_delivery_Run ((0 : Int), l) (0 : Int) l3 (fun (rRun : Int) (lrRun : List Int) (lrRun2 : List Int) =>
  cond (decide ((List.length lrPlan : Int) = (4 : Int)))
  (cond (decide (0 ≤ (2 : Int)) && decide ((2 : Int) < (List.length lrPlan : Int)))
  (cond (decide ((((List.getD lrPlan (Int.toNat (2 : Int)) ((0 : Int), ((0 : Int), (0 : Int)))).2).2) = (60 : Int)))
  (cond (decide (0 ≤ (3 : Int)) && decide ((3 : Int) < (List.length lrPlan : Int)))
  (cond (decide ((((List.getD lrPlan (Int.toNat (3 : Int)) ((0 : Int), ((0 : Int), (0 : Int)))).2).2) = (90 : Int)))
  (cond (decide (rRun = (2 : Int)))
  (cond (decide ((List.length lrRun2 : Int) = (1 : Int)))
  (cond (decide (0 ≤ (0 : Int)) && decide ((0 : Int) < (List.length lrRun2 : Int)))
  (let t : Bool := (decide ((List.getD lrRun2 (Int.toNat (0 : Int)) (0 : Int)) = (30 : Int)));
  k t)
  none)
  (k false))
  (k false))
  (k false))
  none)
  (k false))
  none)
  (k false)))
theorem zqdj (hΓ : ΓOk Try.prog (law27_sane_X c_delivery_Plan c_delivery_Run).Γ) : SpecOk Try.prog 10 (zqdh (zqdi c_delivery_Plan c_delivery_Run)) :=
  spec_exec (X := (law27_sane_X c_delivery_Plan c_delivery_Run)) (Λ := pick1 []) (rs := [.tmp 0]) (c := bodyOf Try.f10) mixed tab_ok hΓ Try.func10 (by kernel_rfl) (by kernel_rfl) (by kernel_rfl) (by kernel_rfl) CutsOk_nil (fun x k r h => Eq.trans (b := (zqdh (zqdi c_delivery_Plan c_delivery_Run)).run x k) (by kernel_rfl) h)
end
theorem zqdkΓ : ΓOk Try.prog (pick1 [(13, .spec (zq9v zqal)), (16, .spec (zqch zqde))]) := (ΓOk_cons zqam (ΓOk_cons zqdf ΓOk_nil))
def zqdl : zqdg := zqdi zqal zqde
theorem zqdm : SpecOk Try.prog 10 (zqdh zqdl) := zqdj zqal zqde zqdkΓ

/-- pagewatch/pagewatchlaw27.DeliveryOnce -/
abbrev zqdn := {β : Type} → (List Int) → (Bool → Option β) → Option β
def zqdo (c : zqdn) : Spec :=
  ⟨[(false, [.data (.slice (.int .i64))])], [], [(false, [.data .bool])], [], fun x k => c x.1.1.1 (fun r0 => k (((r0, ()), ()), ()))⟩
noncomputable def law27_DeliveryOnce_p1_code : Code := codeAt 2042 (bodyOf Try.f7)
abbrev zqdp (β : Type) := Bool → Option β
abbrev zqdq (β : Type) := Int → Int → (List (Int × (Int × (Int × Int)))) → Int → Int → Int → Int → Int → Int → Option β
abbrev zqdr := {β : Type} → zqdp β → zqdq β → Int → Int → Int → (List Int) → Int → Int → (List (Int × (Int × (Int × Int)))) → Int → Int → Int → Int → Int → Int → Option β
def zqds : View := ⟨0, [3, 4, 5, 6, 7, 8], [(false, [.ptr 0 0]), (false, [.ptr 1 0]), (false, [.ptr 2 0]), (false, [.data (.int .i64)]), (false, [.data (.int .i64)]), (false, [.data (.int .i64)])], [.cells 77 [.data (.slice (.int .i64)), .data (.int .i64)], .cells 29 [.data (.int .i64), .data (.slice (.prod (.int .i64) (.prod (.int .i64) (.prod (.int .i64) (.int .i64)))))], .cells 55 [.data (.int .i64), .data (.int .i64), .data (.int .i64), .data (.int .i64), .data (.int .i64), .data (.int .i64)]]⟩
def zqdt : List (AExit × View) := [(.ret, ⟨0, [2], [(false, [.data .bool])], []⟩), (.exit 0, ⟨0, [4, 5, 6], [(false, [.ptr 0 0]), (false, [.ptr 1 0]), (false, [.data (.int .i64)])], [.cells 29 [.data (.int .i64), .data (.slice (.prod (.int .i64) (.prod (.int .i64) (.prod (.int .i64) (.int .i64)))))], .cells 55 [.data (.int .i64), .data (.int .i64), .data (.int .i64), .data (.int .i64), .data (.int .i64), .data (.int .i64)]]⟩)]
@[reducible] def law27_DeliveryOnce_p1_G (p : zqdr) {β : Type} (d : zqds.den) (ks : Outs.K β zqdt) : Option β :=
  p (fun a0 => ks.1 (((a0, ()), ()), ())) (fun a0 a1 a2 a3 a4 a5 a6 a7 a8 => ks.2.1 (((), (), (a0, ()), ()), ((a1, a2, ()), (a3, a4, a5, a6, a7, a8, ()), ()))) d.1.2.2.2.1.1 d.1.2.2.2.2.1.1 d.1.2.2.2.2.2.1.1 d.2.1.1 d.2.1.2.1 d.2.2.1.1 d.2.2.1.2.1 d.2.2.2.1.1 d.2.2.2.1.2.1 d.2.2.2.1.2.2.1 d.2.2.2.1.2.2.2.1 d.2.2.2.1.2.2.2.2.1 d.2.2.2.1.2.2.2.2.2.1
section
variable (c_delivery_Next : zqbj) (c_delivery_Receipt : zqbc) (c_delivery_Send : zqau) (c_law27_contact : zq8d) (c_law27_sane : zqdg) (c_made_Dice_Next : zqi) (c_made_Dice_Person : zq2r) (c_made_Light : zq4) (c_made_Roll : zqb)
@[reducible] def law27_DeliveryOnce_X : Ctx := ⟨look tab, pick1 [(27, .spec (zqbk c_delivery_Next)), (26, .spec (zqbd c_delivery_Receipt)), (23, .spec (zqav c_delivery_Send)), (22, .spec (zq8e c_law27_contact)), (10, .spec (zqdh c_law27_sane)), (14, .spec (zqj c_made_Dice_Next)), (12, .spec (zq2s c_made_Dice_Person)), (9, .spec (zq5 c_made_Light)), (11, .spec (zqc c_made_Roll))], false, false, false, false⟩
def zqdu {β : Type} (rec : Int → Int → Int → (List Int) → Int → Int → (List (Int × (Int × (Int × Int)))) → Int → Int → Int → Int → Int → Int → Option β) (k1 : zqdp β) (k2 : zqdq β) (now : Int) (least : Int) (i_ : Int) (d : List Int) (d2 : Int) (p_ : Int) (p_2 : List (Int × (Int × (Int × Int)))) (c : Int) (c2 : Int) (c3 : Int) (c4 : Int) (c5 : Int) (c6 : Int) : Option β :=
  cond (decide (i_ < (4 : Int)))
  (c_made_Dice_Next c5 (d, d2) (fun (rNext : Int) (mrNext : (List Int × Int)) =>
  c_made_Dice_Next (90 : Int) mrNext (fun (rNext2 : Int) (mrNext2 : (List Int × Int)) =>
  let at_ : Int := (IntKind.i64.wrap (now + rNext2));
  c_delivery_Receipt (p_, p_2) (c, (c2, (c3, (c4, (c5, c6))))) rNext at_ (fun (rReceipt : zq2) (rReceipt2 : Int) =>
  c_delivery_Receipt (p_, p_2) rReceipt rNext at_ (fun (rReceipt3 : zq2) (rReceipt4 : Int) =>
  cond (!decide (rReceipt2 = (0 : Int)))
  (k1 false)
  (cond (!decide (rReceipt4 = (0 : Int)))
  (k1 false)
  (cond (!(decide (rReceipt.1 = rReceipt3.1) && (decide (rReceipt.2.1 = rReceipt3.2.1) && (decide (rReceipt.2.2.1 = rReceipt3.2.2.1) && (decide (rReceipt.2.2.2.1 = rReceipt3.2.2.2.1) && (decide (rReceipt.2.2.2.2.1 = rReceipt3.2.2.2.2.1) && (decide (rReceipt.2.2.2.2.2 = rReceipt3.2.2.2.2.2) && true)))))))
  (k1 false)
  (cond (decide (least = (-1 : Int)))
  (cond (!decide (rReceipt.2.2.2.2.2 = at_))
  (k1 false)
  (let i_2 : Int := (IntKind.i64.wrap (i_ + (1 : Int)));
  rec now at_ i_2 mrNext2.1 mrNext2.2 p_ p_2 rReceipt.1 rReceipt.2.1 rReceipt.2.2.1 rReceipt.2.2.2.1 rReceipt.2.2.2.2.1 rReceipt.2.2.2.2.2))
  (cond (decide (at_ < least))
  (cond (!decide (rReceipt.2.2.2.2.2 = at_))
  (k1 false)
  (let i_2 : Int := (IntKind.i64.wrap (i_ + (1 : Int)));
  rec now at_ i_2 mrNext2.1 mrNext2.2 p_ p_2 rReceipt.1 rReceipt.2.1 rReceipt.2.2.1 rReceipt.2.2.2.1 rReceipt.2.2.2.2.1 rReceipt.2.2.2.2.2))
  (cond (!decide (rReceipt.2.2.2.2.2 = least))
  (k1 false)
  (let i_2 : Int := (IntKind.i64.wrap (i_ + (1 : Int)));
  rec now least i_2 mrNext2.1 mrNext2.2 p_ p_2 rReceipt.1 rReceipt.2.1 rReceipt.2.2.1 rReceipt.2.2.2.1 rReceipt.2.2.2.2.1 rReceipt.2.2.2.2.2)))))))))))
  (k2 now p_ p_2 c c2 c3 c4 c5 c6)
def zqdv {β : Type} : Nat → zqdp β → zqdq β → Int → Int → Int → (List Int) → Int → Int → (List (Int × (Int × (Int × Int)))) → Int → Int → Int → Int → Int → Int → Option β
  | 0 => fun _ _ _ _ _ _ _ _ _ _ _ _ _ _ _ => none
  | i + 1 => fun k1 k2 now least i_ d d2 p_ p_2 c c2 c3 c4 c5 c6 => zqdu c_delivery_Receipt c_made_Dice_Next (zqdv i k1 k2) k1 k2 now least i_ d d2 p_ p_2 c c2 c3 c4 c5 c6
theorem zqdw (hΓ : ΓOk Try.prog (law27_DeliveryOnce_X c_delivery_Next c_delivery_Receipt c_delivery_Send c_law27_contact c_law27_sane c_made_Dice_Next c_made_Dice_Person c_made_Light c_made_Roll).Γ) (i : Nat) : PieceOk Try.prog 128 0 law27_DeliveryOnce_p1_code zqds zqdt (law27_DeliveryOnce_p1_G (zqdv c_delivery_Receipt c_made_Dice_Next i)) := by
  rw [show law27_DeliveryOnce_p1_code = .loop (loopBody law27_DeliveryOnce_p1_code) by kernel_rfl]
  exact piece_loop (X := (law27_DeliveryOnce_X c_delivery_Next c_delivery_Receipt c_delivery_Send c_law27_contact c_law27_sane c_made_Dice_Next c_made_Dice_Person c_made_Light c_made_Roll)) (p := 1) (Λ := pick1 []) (G := fun i => @fun β d ks => law27_DeliveryOnce_p1_G (zqdv c_delivery_Receipt c_made_Dice_Next i) d ks) mixed tab_ok hΓ rfl (by kernel_rfl) CutsOk_nil (fun _ _ => rfl) (fun i => @fun β d ks r h => Eq.trans (b := law27_DeliveryOnce_p1_G (zqdv c_delivery_Receipt c_made_Dice_Next (i + 1)) d ks) (by kernel_rfl) h) i
def zqdx (p1 : zqdr) {β : Type} (t : List Int) (k : (Bool → Option β)) : Option β :=
  c_made_Light t (fun (rLight : Bool) =>
  cond (!rLight)
  (c_law27_sane  (fun (rsane : Bool) =>
  k rsane))
  (c_made_Roll t (fun (mrRoll : (List Int × Int)) =>
  c_made_Dice_Next (4 : Int) mrRoll (fun (rNext : Int) (mrNext : (List Int × Int)) =>
  c_made_Dice_Person rNext mrNext (fun (rPerson : (Int × List (Int × (Int × (Int × Int))))) (mrPerson : (List Int × Int)) =>
  c_law27_contact rPerson mrPerson (fun (rcontact : zq2) (rcontact2 : Int) (mrcontact : (List Int × Int)) =>
  cond (decide (rcontact.2.2.2.2.1 = (0 : Int)))
  (c_law27_sane  (fun (rsane : Bool) =>
  k rsane))
  (p1 (fun (t2 : Bool) =>
  k t2) (fun (now : Int) (p_ : Int) (p_2 : List (Int × (Int × (Int × Int)))) (c : Int) (c2 : Int) (c3 : Int) (c4 : Int) (c5 : Int) (c6 : Int) =>
  c_delivery_Send (p_, p_2) (c, (c2, (c3, (c4, (c5, c6))))) (IntKind.i64.wrap (now + (99999 : Int))) (fun (rSend : zq2) (rSend2 : Int) (lrSend : List (Int × (Int × Int))) =>
  c_delivery_Next (p_, p_2) (c, (c2, (c3, (c4, (c5, c6))))) (fun (rNext2 : Int) (rNext3 : Bool) =>
  cond (decide (rSend2 = (0 : Int)))
  (cond (decide (rSend.1 = c) && (decide (rSend.2.1 = c2) && (decide (rSend.2.2.1 = c3) && (decide (rSend.2.2.2.1 = c4) && (decide (rSend.2.2.2.2.1 = c5) && (decide (rSend.2.2.2.2.2 = c6) && true))))))
  (cond (decide ((List.length lrSend : Int) = (0 : Int)))
  (cond (!rNext3)
  (c_law27_sane  (fun (rsane : Bool) =>
  k rsane))
  (k false))
  (k false))
  (k false))
  (k false)))) rcontact2 rcontact.2.2.2.2.2 (0 : Int) mrcontact.1 mrcontact.2 rPerson.1 rPerson.2 rcontact.1 rcontact.2.1 rcontact.2.2.1 rcontact.2.2.2.1 rcontact.2.2.2.2.1 rcontact.2.2.2.2.2)))))))
theorem zqdy (hΓ : ΓOk Try.prog (law27_DeliveryOnce_X c_delivery_Next c_delivery_Receipt c_delivery_Send c_law27_contact c_law27_sane c_made_Dice_Next c_made_Dice_Person c_made_Light c_made_Roll).Γ) (p1 : zqdr) (hp1 : PieceOk Try.prog 128 0 law27_DeliveryOnce_p1_code zqds zqdt (law27_DeliveryOnce_p1_G p1)) : SpecOk Try.prog 7 (zqdo (zqdx c_delivery_Next c_delivery_Send c_law27_contact c_law27_sane c_made_Dice_Next c_made_Dice_Person c_made_Light c_made_Roll p1)) :=
  spec_exec (X := (law27_DeliveryOnce_X c_delivery_Next c_delivery_Receipt c_delivery_Send c_law27_contact c_law27_sane c_made_Dice_Next c_made_Dice_Person c_made_Light c_made_Roll)) (Λ := pick1 [(2042, pieceCut zqds zqdt (law27_DeliveryOnce_p1_G p1))]) (rs := [.tmp 2]) (c := bodyOf Try.f7) mixed tab_ok hΓ Try.func7 (by kernel_rfl) (by kernel_rfl) (by kernel_rfl) (by kernel_rfl) (CutsOk_cons (q := 2042) (c' := law27_DeliveryOnce_p1_code) (by kernel_rfl) rfl hp1 CutsOk_nil) (fun x k r h => Eq.trans (b := (zqdo (zqdx c_delivery_Next c_delivery_Send c_law27_contact c_law27_sane c_made_Dice_Next c_made_Dice_Person c_made_Light c_made_Roll p1)).run x k) (by kernel_rfl) h)
end
theorem zqdzΓ : ΓOk Try.prog (pick1 [(27, .spec (zqbk zqbo)), (26, .spec (zqbd zqbh)), (23, .spec (zqav zqba)), (22, .spec (zq8e zq92)), (10, .spec (zqdh zqdl)), (14, .spec (zqj zqn)), (12, .spec (zq2s zq37)), (9, .spec (zq5 zq9)), (11, .spec (zqc zqg))]) := (ΓOk_cons zqbp (ΓOk_cons zqbi (ΓOk_cons zqbb (ΓOk_cons zq93 (ΓOk_cons zqdm (ΓOk_cons zqo (ΓOk_cons zq38 (ΓOk_cons zqa (ΓOk_cons zqh ΓOk_nil)))))))))
def zqe0 (m : Nat) : zqdr := zqdv zqbh zqn m
theorem zqe1 {β : Type} (i : Nat) (k1 k2 now least i_ d d2 p_ p_2 c c2 c3 c4 c5 c6) : (zqe0 (i + 1) k1 k2 now least i_ d d2 p_ p_2 c c2 c3 c4 c5 c6 : Option β) = zqdu zqbh zqn (zqe0 i k1 k2) k1 k2 now least i_ d d2 p_ p_2 c c2 c3 c4 c5 c6 := rfl
def zqe2 : zqdr := zqe0 fuel
theorem zqe3 : PieceOk Try.prog 128 0 law27_DeliveryOnce_p1_code zqds zqdt (law27_DeliveryOnce_p1_G zqe2) := zqdw zqbo zqbh zqba zq92 zqdl zqn zq37 zq9 zqg zqdzΓ fuel
def zqe4 : zqdn := zqdx zqbo zqba zq92 zqdl zqn zq37 zq9 zqg zqe2
theorem zqe5 : SpecOk Try.prog 7 (zqdo zqe4) := zqdy zqbo zqbh zqba zq92 zqdl zqn zq37 zq9 zqg zqdzΓ zqe2 zqe3
end
end Go.Lift
/- Plain lemmas about functional forms: tests that are known, loops. -/
namespace Go.Lift
open Go.RowKit Go.IntWalk

section
variable {β : Type}
/-! ### Tests -/
theorem c_inb {i n : Int} {a b : Option β} (h : 0 ≤ i ∧ i < n) : cond (decide (0 ≤ i) && decide (i < n)) a b = a := by
  rw [decide_eq_true h.1, decide_eq_true h.2]; rfl
theorem c_room {n : Nat} {a b : Option β} (h : n ≤ 140737488355328) : cond (decide (n ≤ roomMax)) a b = a := by
  rw [decide_eq_true (p := n ≤ roomMax) h]; rfl
theorem c_pos {p : Prop} [Decidable p] {a b : Option β} (h : p) : cond (decide p) a b = a := by rw [decide_eq_true h]; rfl
theorem c_neg {p : Prop} [Decidable p] {a b : Option β} (h : ¬ p) : cond (decide p) a b = b := by rw [decide_eq_false h]; rfl
theorem c_npos {p : Prop} [Decidable p] {a b : Option β} (h : p) : cond (!decide p) a b = b := by rw [decide_eq_true h]; rfl
theorem c_nneg {p : Prop} [Decidable p] {a b : Option β} (h : ¬ p) : cond (!decide p) a b = a := by rw [decide_eq_false h]; rfl
theorem k_eq {γ : Type} {k : γ → Option β} {x y : γ} (h : x = y) : k x = k y := by rw [h]

/-! ### Loops over the numbers from 0 on -/
/-- A walk over a list that may end early. -/
def walk {α σ ε : Type} (g : Nat → α → σ → ε ⊕ σ) : List α → Nat → σ → ε ⊕ σ
  | [], _, s => .inr s
  | x :: r, j, s =>
    match g j x s with
    | .inl e => .inl e
    | .inr s' => walk g r (j + 1) s'

def sumK {ε σ : Type} (E : ε → Option β) (K : σ → Option β) : ε ⊕ σ → Option β
  | .inl e => E e
  | .inr s => K s

theorem walk_loop {α σ ε : Type} (F : Nat → Int → σ → Option β) (g : Nat → α → σ → ε ⊕ σ) (E : ε → Option β) (K : σ → Option β) (d : α) (xs : List α)
    (h1 : ∀ (m i : Nat) s, i < xs.length → F (m + 1) (i : Int) s = sumK E (fun s' => F m ((i : Int) + 1) s') (g i (xs.getD i d) s))
    (h2 : ∀ (m : Nat) s, F (m + 1) (xs.length : Int) s = K s) :
    ∀ (r : List α) (j fuel : Nat) (s : σ), xs.drop j = r → j + r.length = xs.length → r.length < fuel → F fuel (j : Int) s = sumK E K (walk g r j s)
  | r, j, 0, s, _, _, h => absurd h (Nat.not_lt_zero _)
  | [], j, m + 1, s, hd, hj, _ => by
    simp only [List.length_nil, Nat.add_zero] at hj
    subst hj
    rw [h2]; rfl
  | x :: r, j, m + 1, s, hd, hj, hm => by
    simp only [List.length_cons] at hj hm
    have h3 : j < xs.length := by omega
    have hx : xs.getD j d = x := by
      rw [List.drop_eq_getElem_cons h3] at hd
      injection hd with hd1 hd2
      simp [List.getD, h3, hd1]
    have hr : xs.drop (j + 1) = r := by
      rw [List.drop_eq_getElem_cons h3] at hd
      injection hd with hd1 hd2
    rw [h1 m j s h3, hx, walk]
    cases hg : g j x s with
    | inl e => rfl
    | inr s' =>
      simp only [sumK]
      exact walk_loop F g E K d xs h1 h2 r (j + 1) m s' hr (by omega) (by omega)

theorem walk_loop0 {α σ ε : Type} (F : Nat → Int → σ → Option β) (g : Nat → α → σ → ε ⊕ σ) (E : ε → Option β) (K : σ → Option β) (d : α) (xs : List α) (s : σ) (n : Nat) (hn : xs.length < n)
    (h1 : ∀ (m i : Nat) s, i < xs.length → F (m + 1) (i : Int) s = sumK E (fun s' => F m ((i : Int) + 1) s') (g i (xs.getD i d) s))
    (h2 : ∀ (m : Nat) s, F (m + 1) (xs.length : Int) s = K s) : F n 0 s = sumK E K (walk g xs 0 s) :=
  walk_loop F g E K d xs h1 h2 xs 0 n s rfl (by simp) hn

/-- A loop that only looks: every element, or out. -/
theorem check_loop {α : Type} (F : Nat → Int → Option β) (p : α → Bool) (E K : Option β) (d : α) (xs : List α) (n : Nat) (hn : xs.length < n)
    (h1 : ∀ (m i : Nat), i < xs.length → F (m + 1) (i : Int) = cond (p (xs.getD i d)) (F m ((i : Int) + 1)) E)
    (h2 : ∀ (m : Nat), F (m + 1) (xs.length : Int) = K) : F n 0 = cond (xs.all p) K E := by
  have h := walk_loop0 (ε := Unit) (fun m i (_ : Unit) => F m i) (fun _ x s => cond (p x) (.inr s) (.inl ())) (fun _ => E) (fun _ => K) d xs () n hn
    (fun m i s hi => by rw [h1 m i hi]; cases p (xs.getD i d) <;> rfl) (fun m s => h2 m)
  rw [h]
  have key : ∀ (l : List α) (j : Nat), sumK (fun _ => E) (fun _ => K) (walk (ε := Unit) (fun _ x (s : Unit) => cond (p x) (.inr s) (.inl ())) l j ()) = cond (l.all p) K E := by
    intro l
    induction l with
    | nil => intro j; rfl
    | cons x l ih =>
      intro j
      simp only [walk, List.all_cons]
      cases p x with
      | true => simpa using ih (j + 1)
      | false => rfl
  exact key xs 0

end
end Go.Lift

/- Attempts in their order: the plain side of the laws of chapter 27. -/
namespace Go.Lift
set_option linter.unusedVariables false
set_option linter.unusedSimpArgs false

/-- An attempt: its channel, its try, its instant. -/
abbrev Att := Int × Int × Int
abbrev at0 : Att := (0, 0, 0)
def attLt (a b : Att) : Prop := a.2.2 < b.2.2 ∨ (a.2.2 = b.2.2 ∧ (a.1 < b.1 ∨ (a.1 = b.1 ∧ a.2.1 < b.2.1)))
instance (a b : Att) : Decidable (attLt a b) := by unfold attLt; infer_instance
theorem attLt_irr (a : Att) : ¬ attLt a a := by unfold attLt; omega
theorem attLt_trans {a b c : Att} (h1 : attLt a b) (h2 : attLt b c) : attLt a c := by unfold attLt at *; omega
theorem attLt_anti {a b : Att} (h1 : ¬ attLt a b) (h2 : ¬ attLt b a) : a = b := by
  obtain ⟨a1, a2, a3⟩ := a
  obtain ⟨b1, b2, b3⟩ := b
  unfold attLt at *
  simp only at h1 h2
  simp only [Prod.mk.injEq]
  omega
/-- Not behind. -/
def attLe (a b : Att) : Prop := ¬ attLt b a
/-- Into its place. -/
def insA : List Att → Att → List Att
  | [], x => [x]
  | y :: l, x => if attLt x y then x :: y :: l else y :: insA l x
def sortA (l : List Att) : List Att := l.foldl insA []

abbrev AscA (l : List Att) : Prop := l.Pairwise attLe

theorem insA_perm : ∀ (l : List Att) (x : Att), (insA l x).Perm (x :: l)
  | [], x => List.Perm.refl _
  | y :: l, x => by
    unfold insA
    split
    · exact List.Perm.refl _
    · exact ((insA_perm l x).cons y).trans (List.Perm.swap x y l)
theorem insA_asc : ∀ {l : List Att} {x : Att}, AscA l → AscA (insA l x)
  | [], x, _ => by simp [insA]
  | y :: l, x, h => by
    obtain ⟨h1, h2⟩ := List.pairwise_cons.1 h
    unfold insA
    split
    · rename_i hx
      refine List.pairwise_cons.2 ⟨fun z hz => ?_, h⟩
      rcases List.mem_cons.1 hz with rfl | hz
      · exact fun hh => attLt_irr _ (attLt_trans hx hh)
      · have := h1 z hz
        intro hh
        exact this (attLt_trans hh hx)
    · rename_i hx
      refine List.pairwise_cons.2 ⟨fun z hz => ?_, insA_asc h2⟩
      rcases List.mem_cons.1 ((insA_perm l x).mem_iff.1 hz) with rfl | hz
      · exact hx
      · exact h1 z hz
theorem fold_ins_perm : ∀ (l a : List Att), (l.foldl insA a).Perm (a ++ l)
  | [], a => by simp
  | x :: l, a => by
    have h1 := fold_ins_perm l (insA a x)
    refine h1.trans ?_
    have h2 := (insA_perm a x).append_right l
    refine h2.trans ?_
    simp only [List.cons_append]
    exact (List.perm_middle (a := x) (l₁ := a) (l₂ := l)).symm
theorem fold_ins_asc : ∀ (l : List Att) {a : List Att}, AscA a → AscA (l.foldl insA a)
  | [], a, h => h
  | x :: l, a, h => fold_ins_asc l (insA_asc h)
theorem sortA_perm (l : List Att) : (sortA l).Perm l := fold_ins_perm l []
theorem sortA_asc (l : List Att) : AscA (sortA l) := fold_ins_asc l .nil
theorem sortA_len (l : List Att) : (sortA l).length = l.length := (sortA_perm l).length_eq
theorem asc_unique {a b : List Att} (ha : AscA a) (hb : AscA b) (h : a.Perm b) : a = b :=
  List.Perm.eq_of_pairwise (fun x y _ _ h1 h2 => attLt_anti h2 h1) ha hb h

/-- The place of an insertion: behind all that x does not go ahead of. -/
theorem insA_append {a b : List Att} {x : Att} (ha : ∀ y ∈ a, ¬ attLt x y) (hb : ∀ y ∈ b, attLt x y) : insA (a ++ b) x = a ++ x :: b := by
  induction a with
  | nil =>
    cases b with
    | nil => rfl
    | cons y b => simp [insA, hb y (by simp)]
  | cons y a ih =>
    simp only [List.cons_append, insA]
    rw [if_neg (ha y (by simp)), ih fun z hz => ha z (by simp [hz])]

/-- Channels: their kind, latency, number of tries and pause. -/
abbrev Chan := Int × Int × Int × Int
def triesOf (start : Int) (c : Nat) (ch : Chan) : List Att := (List.range ch.2.2.1.toNat).map fun (i : Nat) => ((c : Int), (i : Int), start + (i : Int) * ch.2.2.2)
def rawFrom (start : Int) : Nat → List Chan → List Att
  | _, [] => []
  | c, ch :: l => triesOf start c ch ++ rawFrom start (c + 1) l
theorem triesOf_len (start : Int) (c : Nat) (ch : Chan) : (triesOf start c ch).length = ch.2.2.1.toNat := by simp [triesOf]
theorem rawFrom_append (start : Int) : ∀ (c : Nat) (a b : List Chan), rawFrom start c (a ++ b) = rawFrom start c a ++ rawFrom start (c + a.length) b
  | c, [], b => rfl
  | c, ch :: a, b => by
    simp only [List.cons_append, rawFrom, rawFrom_append start (c + 1) a b, List.append_assoc, List.length_cons]
    rw [show c + 1 + a.length = c + (a.length + 1) by omega]
end Go.Lift

/- Chapter 27 in plain Lean: channels, profiles, plans; code and reference. -/
namespace Go.Lift
open Go.RowKit Go.IntWalk
noncomputable section
set_option linter.unusedVariables false
set_option linter.unusedSimpArgs false
set_option maxRecDepth 10000

abbrev Prof := Int × List Chan
abbrev ch0 : Chan := (0, 0, 0, 0)

section
variable {β : Type}
theorem c_andk {b q : Bool} {k : Bool → Option β} {X : Option β} (h : b = true → X = k q) : cond b X (k false) = k (b && q) := by
  cases b with
  | false => rfl
  | true => exact h rfl
theorem c_nandk {b q : Bool} {k : Bool → Option β} {X : Option β} (h : b = true → X = k q) : cond (!b) (k false) X = k (b && q) := by
  cases b with
  | false => rfl
  | true => exact h rfl
theorem c_ff' {b : Bool} {x y : Option β} (h : b = false) : cond b x y = y := by rw [h]; rfl
theorem c_tt' {b : Bool} {x y : Option β} (h : b = true) : cond b x y = x := by rw [h]; rfl
end

def inB (n lo hi : Int) : Bool := decide (lo ≤ n) && decide (n ≤ hi)
theorem inB_iff {n lo hi : Int} : inB n lo hi = true ↔ lo ≤ n ∧ n ≤ hi := by simp [inB]
def chanV (c : Chan) : Bool := inB c.1 0 2 && (inB c.2.1 0 3600 && (inB c.2.2.1 1 6 && inB c.2.2.2 1 3600))
def profV (p : Prof) : Bool := inB p.1 0 31 && (decide ((p.2.length : Int) ≤ 4) && p.2.all chanV)
def planOf (p : Prof) (start : Int) : List Att := cond (profV p && inB start 0 8589934592) (sortA (rawFrom start 0 p.2)) []

structure ChanOk (c : Chan) : Prop where
  l1 : 0 ≤ c.2.1
  l2 : c.2.1 ≤ 3600
  t1 : 1 ≤ c.2.2.1
  t2 : c.2.2.1 ≤ 6
  p1 : 1 ≤ c.2.2.2
  p2 : c.2.2.2 ≤ 3600
theorem chanV_ok {c : Chan} (h : chanV c = true) : ChanOk c := by
  unfold chanV at h
  simp only [Bool.and_eq_true, inB_iff] at h
  exact ⟨h.2.1.1, h.2.1.2, h.2.2.1.1, h.2.2.1.2, h.2.2.2.1, h.2.2.2.2⟩
structure ProfOk (p : Prof) : Prop where
  who : 0 ≤ p.1 ∧ p.1 ≤ 31
  few : p.2.length ≤ 4
  all : ∀ c ∈ p.2, chanV c = true
theorem profV_ok {p : Prof} (h : profV p = true) : ProfOk p := by
  unfold profV at h
  simp only [Bool.and_eq_true, inB_iff, decide_eq_true_eq, List.all_eq_true] at h
  exact ⟨h.1, by omega, h.2.2⟩

section
variable {β : Type}
theorem d_in (n lo hi : Int) (k : Bool → Option β) : zq18 n lo hi k = k (inB n lo hi) := by
  unfold zq18 zq15
  exact c_andk fun _ => rfl
theorem ch_in (n lo hi : Int) (k : Bool → Option β) : zq2i n lo hi k = k (inB n lo hi) := by
  unfold zq2i zq2f
  exact c_andk fun _ => rfl
theorem r_in (n lo hi : Int) (k : Bool → Option β) : zq1q n lo hi k = k (inB n lo hi) := by
  unfold zq1q zq1n
  exact c_andk fun _ => rfl
theorem ch_valid (c : Chan) (k : Bool → Option β) : zq4v c k = k (chanV c) := by
  unfold zq4v zq4s
  refine (ch_in _ _ _ _).trans ?_
  refine c_andk fun _ => ?_
  refine (ch_in _ _ _ _).trans ?_
  refine c_andk fun _ => ?_
  refine (ch_in _ _ _ _).trans ?_
  refine c_andk fun _ => ?_
  exact ch_in _ _ _ _
theorem r26_valid (c : Chan) (k : Bool → Option β) : zq4h c k = k (chanV c) := by
  unfold zq4h zq4e
  refine (r_in _ _ _ _).trans ?_
  refine c_andk fun _ => ?_
  refine (r_in _ _ _ _).trans ?_
  refine c_andk fun _ => ?_
  refine (r_in _ _ _ _).trans ?_
  refine c_andk fun _ => ?_
  exact r_in _ _ _ _

theorem d_index {l : List Chan} (hl : l.length ≤ 4) (k1 : zq7w β) (k2 : zq7x β) (E : Option β) (hE : ∀ i : Nat, k1 (i : Int) = E) :
    zq89 k1 k2 l (l.length : Int) 0 = cond (l.all chanV) (k2 ()) E := by
  refine check_loop (fun m i => zq87 m k1 k2 l (l.length : Int) i) chanV E (k2 ()) ch0 l fuel (lt_fuel (by omega)) (fun m i hi => ?_) (fun m => ?_)
  · simp only [zq88, zq81, Int.toNat_natCast]
    refine (c_pos (by omega)).trans ?_
    refine (c_inb (by omega)).trans ?_
    unfold zq5l zq5i
    refine (ch_valid _ _).trans ?_
    rw [i64_in ((i : Int) + 1) (by omega)]
    cases chanV (l.getD i ch0) with
    | true => rfl
    | false => exact hE i
  · simp only [zq88, zq81]
    rw [c_neg (by omega)]

theorem d_contains {l : List Chan} (hl : l.length ≤ 4) (k : Bool → Option β) : zq99 l k = k (!l.all chanV) := by
  unfold zq99 zq96 zq8b zq84
  refine (d_index hl _ _ (k true) fun i => ?_).trans ?_
  · show k (decide ((0 : Int) ≤ (i : Int))) = k true
    rw [decide_eq_true (by omega)]
  · cases l.all chanV <;> rfl

theorem d_valid (p : Prof) (k : Bool → Option β) : zq9g p k = k (profV p) := by
  unfold zq9g zq9d zq2b zq28
  refine (d_in _ _ _ _).trans ?_
  refine c_andk fun _ => ?_
  refine c_andk fun h => ?_
  have h := of_decide_eq_true h
  refine (d_contains (by omega) _).trans ?_
  show k (!!p.2.all chanV) = _
  rw [Bool.not_not]

theorem r27_valid (p : Prof) (k : Bool → Option β) : zq5e p k = k (profV p) := by
  unfold zq5e zq57
  refine (r_in _ _ _ _).trans ?_
  refine c_nandk fun _ => ?_
  by_cases h : (p.2.length : Int) ≤ 4
  · refine (c_neg (by omega)).trans ?_
    rw [decide_eq_true h, Bool.true_and]
    refine (check_loop (fun m i => zq5a m (fun t2 => k t2) (fun _ => k true) i p.1 p.2) chanV (k false) (k true) ch0 p.2 fuel (lt_fuel (by omega)) (fun m i hi => ?_) (fun m => ?_)).trans ?_
    · simp only [zq5b, zq54, Int.toNat_natCast]
      refine (c_pos (by omega)).trans ?_
      refine (c_inb (by omega)).trans ?_
      refine (r26_valid _ _).trans ?_
      rw [i64_in ((i : Int) + 1) (by omega)]
      cases chanV (p.2.getD i ch0) <;> rfl
    · simp only [zq5b, zq54]
      rw [c_neg (by omega)]
    · cases p.2.all chanV <;> rfl
  · refine (c_pos (by omega)).trans ?_
    rw [decide_eq_false h]
    rfl
end

/-! ### Plans -/
theorem rawFrom_len {start : Int} : ∀ {l : List Chan} {c : Nat}, (∀ x ∈ l, chanV x = true) → (rawFrom start c l).length ≤ 6 * l.length
  | [], c, _ => by simp [rawFrom]
  | ch :: l, c, h => by
    have h1 := rawFrom_len (start := start) (l := l) (c := c + 1) fun x hx => h x (by simp [hx])
    have h2 := chanV_ok (h ch (by simp))
    have a := h2.t2
    simp only [rawFrom, List.length_append, triesOf_len, List.length_cons]
    omega

structure AttOk (start : Int) (n : Nat) (a : Att) : Prop where
  c1 : 0 ≤ a.1
  c2 : a.1 < n
  i1 : 0 ≤ a.2.1
  i2 : a.2.1 < 6
  s1 : start ≤ a.2.2
  s2 : a.2.2 ≤ start + 21600

theorem triesOf_ok {start : Int} {c n : Nat} {ch : Chan} (h : chanV ch = true) (hc : c < n) : ∀ a ∈ triesOf start c ch, AttOk start n a := by
  intro a ha
  have q := chanV_ok h
  have q1 := q.t1; have q2 := q.t2; have q3 := q.p1; have q4 := q.p2
  unfold triesOf at ha
  obtain ⟨i, hi, rfl⟩ := List.mem_map.1 ha
  have hi := List.mem_range.1 hi
  have m1 : 0 ≤ (i : Int) * ch.2.2.2 := Int.mul_nonneg (by omega) (by omega)
  have m2 : (i : Int) * ch.2.2.2 ≤ 6 * 3600 := Int.mul_le_mul (by omega) (by omega) (by omega) (by omega)
  exact ⟨by show (0 : Int) ≤ c; omega, by show (c : Int) < n; omega, by show (0 : Int) ≤ i; omega, by show (i : Int) < 6; omega, by show start ≤ start + i * ch.2.2.2; omega, by show start + i * ch.2.2.2 ≤ _; omega⟩
theorem rawFrom_ok {start : Int} : ∀ {l : List Chan} {c n : Nat}, (∀ x ∈ l, chanV x = true) → c + l.length ≤ n → ∀ a ∈ rawFrom start c l, AttOk start n a
  | [], c, n, _, _, a, ha => by simp [rawFrom] at ha
  | ch :: l, c, n, h, hn, a, ha => by
    simp only [List.length_cons] at hn
    simp only [rawFrom, List.mem_append] at ha
    rcases ha with ha | ha
    · exact triesOf_ok (h ch (by simp)) (by omega) a ha
    · exact rawFrom_ok (fun x hx => h x (by simp [hx])) (by omega) a ha

theorem planOf_len (p : Prof) (start : Int) : (planOf p start).length ≤ 24 := by
  unfold planOf
  cases h : profV p with
  | false => simp
  | true =>
    have q := profV_ok h
    have := q.few
    cases inB start 0 8589934592 with
    | false => simp
    | true =>
      simp only [Bool.and_self, cond_true, sortA_len]
      have := rawFrom_len (start := start) (c := 0) q.all
      omega
theorem planOf_ok {p : Prof} {start : Int} : ∀ a ∈ planOf p start, AttOk start 4 a ∧ 0 ≤ start ∧ start ≤ 8589934592 := by
  intro a ha
  unfold planOf at ha
  cases h : profV p with
  | false => rw [h] at ha; simp at ha
  | true =>
    have q := profV_ok h
    cases h2 : inB start 0 8589934592 with
    | false => rw [h2] at ha; simp at ha
    | true =>
      rw [h, h2] at ha
      simp only [Bool.and_self, cond_true] at ha
      exact ⟨rawFrom_ok q.all (by have := q.few; omega) a ((sortA_perm _).mem_iff.1 ha), inB_iff.1 h2⟩
theorem cmp_att_lt (a b : Att) : zq9m a b < 0 ↔ attLt a b := by
  unfold zq9m zq9k attLt
  split
  · omega
  · split <;> omega

/-- The code's sort is the sort. -/
theorem att_run {l : List Att} (h : ∀ x ∈ l, zq9l x = true) : zq9n l = sortA l := by
  obtain ⟨h1, h2⟩ := sortRun_good (d0 := ((0, 0, 0) : Int × Int × Int)) (h0 := rfl) zq9r h
  have hlen : (zq9n l).length = l.length := h1.length_eq
  refine asc_unique ?_ (sortA_asc l) (h1.trans (sortA_perm l).symm)
  refine List.pairwise_iff_getElem.2 fun i j hi hj hij => ?_
  have h3 := h2 i j hij (by omega)
  intro hlt
  have e : ∀ q, (hq : q < (zq9n l).length) → (zq9n l).getD q ((0, 0, 0) : Int × Int × Int) = (zq9n l)[q] := fun q hq => by simp [List.getD, hq]
  refine h3 ?_
  show zq9m ((zq9n l).getD j _) ((zq9n l).getD i _) < 0
  rw [e i hi, e j hj, cmp_att_lt]
  exact hlt

theorem att_good {start : Int} {n : Nat} {a : Att} (h : AttOk start n a) (hn : n ≤ 4) (h0 : 0 ≤ start ∧ start ≤ 8589934592) : zq9l a = true := by
  obtain ⟨a1, a2, a3, a4, a5, a6⟩ := h
  unfold zq9l
  simp only [Bool.and_eq_true, decide_eq_true_eq]
  omega

section
variable {β : Type}
theorem range_map_succ {α : Type} (f : Nat → α) (n : Nat) : (List.range (n + 1)).map f = (List.range n).map f ++ [f n] := by
  rw [List.range_succ, List.map_append]; rfl

/-- The first i tries. -/
def someTries (start : Int) (c : Nat) (ch : Chan) (i : Nat) : List Att := (List.range i).map fun (i : Nat) => ((c : Int), (i : Int), start + (i : Int) * ch.2.2.2)
theorem someTries_len (start : Int) (c : Nat) (ch : Chan) (i : Nat) : (someTries start c ch i).length = i := by simp [someTries]
theorem someTries_all (start : Int) (c : Nat) (ch : Chan) : someTries start c ch ch.2.2.1.toNat = triesOf start c ch := rfl
theorem someTries_succ (start : Int) (c : Nat) (ch : Chan) (i : Nat) : someTries start c ch (i + 1) = someTries start c ch i ++ [((c : Int), (i : Int), start + (i : Int) * ch.2.2.2)] := range_map_succ _ _
theorem try_wrap {start : Int} {i : Nat} {ch : Chan} (h0 : 0 ≤ start ∧ start ≤ 8589934592) (hch : ChanOk ch) (hi : i < 6) : IntKind.i64.wrap (start + IntKind.i64.wrap ((i : Int) * ch.2.2.2)) = start + (i : Int) * ch.2.2.2 := by
  have q3 := hch.p1; have q4 := hch.p2
  have m1 : 0 ≤ (i : Int) * ch.2.2.2 := Int.mul_nonneg (by omega) (by omega)
  have m2 : (i : Int) * ch.2.2.2 ≤ 6 * 3600 := Int.mul_le_mul (by omega) (by omega) (by omega) (by omega)
  rw [i64_in ((i : Int) * ch.2.2.2) (by omega), i64_in _ (by omega)]

theorem d_plan1 {start : Int} {ch : Chan} (h0 : 0 ≤ start ∧ start ≤ 8589934592) (hch : ChanOk ch) (c : Nat) (t18 : List Chan) (t19 t20 : Int) (out : List Att) (hout : out.length ≤ 100) (k1 : zq9w β) :
    zqaf k1 start c t18 t19 t20 ch.2.2.1 0 out ch.1 ch.2.1 ch.2.2.1 ch.2.2.2 = k1 start t18 t19 t20 (out ++ triesOf start c ch) := by
  have q1 := hch.t1; have q2 := hch.t2
  have key : ∀ (j i : Nat) (m : Nat), i + j = ch.2.2.1.toNat → j < m → zqad m k1 start c t18 t19 t20 ch.2.2.1 (i : Int) (out ++ someTries start c ch i) ch.1 ch.2.1 ch.2.2.1 ch.2.2.2 = k1 start t18 t19 t20 (out ++ triesOf start c ch) := by
    intro j
    induction j with
    | zero =>
      intro i m hi hm
      obtain ⟨m, rfl⟩ : ∃ m', m = m' + 1 := ⟨m - 1, by omega⟩
      simp only [zqae, zqa4]
      refine (c_neg (by omega)).trans ?_
      have : i = ch.2.2.1.toNat := by omega
      rw [this, someTries_all]
    | succ j ih =>
      intro i m hi hm
      obtain ⟨m, rfl⟩ : ∃ m', m = m' + 1 := ⟨m - 1, by omega⟩
      simp only [zqae, zqa4]
      refine (c_pos (by omega)).trans ?_
      have hl := someTries_len start c ch i
      refine (c_room (by simp only [List.length_append, List.length_cons, List.length_nil]; omega)).trans ?_
      rw [try_wrap h0 hch (by omega), i64_in ((i : Int) + 1) (by omega), List.append_assoc, ← someTries_succ]
      exact ih (i + 1) m (by omega) (by omega)
  have h := key ch.2.2.1.toNat 0 fuel (by omega) (lt_fuel (by omega))
  simp only [someTries, List.range_zero, List.map_nil, List.append_nil] at h
  exact h

theorem rawFrom_snoc {start : Int} {l : List Chan} {i : Nat} (hi : i < l.length) : rawFrom start 0 (l.take (i + 1)) = rawFrom start 0 (l.take i) ++ triesOf start i (l.getD i ch0) := by
  rw [List.take_add_one, List.getElem?_eq_getElem hi, Option.toList_some, rawFrom_append]
  have : l.getD i ch0 = l[i] := by simp [List.getD, hi]
  rw [this]
  simp only [rawFrom, List.append_nil, List.length_take, Nat.zero_add]
  rw [show min i l.length = i by omega]
theorem take_all {l : List Chan} {p : Chan → Bool} (h : ∀ x ∈ l, p x = true) (i : Nat) : ∀ x ∈ l.take i, p x = true := fun x hx => h x (List.mem_of_mem_take hx)
theorem getD_all {l : List Chan} (h : ∀ x ∈ l, chanV x = true) {i : Nat} (hi : i < l.length) : chanV (l.getD i ch0) = true := by
  have : l.getD i ch0 = l[i] := by simp [List.getD, hi]
  rw [this]
  exact h _ (List.getElem_mem hi)

theorem d_plan2 {start : Int} {l : List Chan} (h0 : 0 ≤ start ∧ start ≤ 8589934592) (hl : l.length ≤ 4) (h : ∀ x ∈ l, chanV x = true) (k1 : zqa0 β) :
    zqaj k1 start l (l.length : Int) 0 [] = k1 (rawFrom start 0 l) := by
  have key : ∀ (j i : Nat) (m : Nat), i + j = l.length → j < m → zqah m k1 start l (l.length : Int) (i : Int) (rawFrom start 0 (l.take i)) = k1 (rawFrom start 0 l) := by
    intro j
    induction j with
    | zero =>
      intro i m hi hm
      obtain ⟨m, rfl⟩ : ∃ m', m = m' + 1 := ⟨m - 1, by omega⟩
      simp only [zqai, zqa7]
      refine (c_neg (by omega)).trans ?_
      rw [List.take_of_length_le (by omega)]
    | succ j ih =>
      intro i m hi hm
      obtain ⟨m, rfl⟩ : ∃ m', m = m' + 1 := ⟨m - 1, by omega⟩
      simp only [zqai, zqa7, Int.toNat_natCast]
      refine (c_pos (by omega)).trans ?_
      refine (c_inb (by omega)).trans ?_
      have hlen := rawFrom_len (start := start) (c := 0) (take_all h i)
      have hlt : (l.take i).length ≤ 4 := by simp only [List.length_take]; omega
      refine (d_plan1 h0 (chanV_ok (getD_all h (by omega))) i l _ _ _ (by omega) _).trans ?_
      rw [i64_in ((i : Int) + 1) (by omega), ← rawFrom_snoc (by omega)]
      exact ih (i + 1) m (by omega) (by omega)
  exact key l.length 0 fuel (by omega) (lt_fuel (by omega))

theorem d_plan (p : Prof) (start : Int) (k : List Att → Option β) : zqal p start k = k (planOf p start) := by
  unfold zqal zqaa planOf
  refine (d_valid _ _).trans ?_
  cases hv : profV p with
  | false => rfl
  | true =>
    refine (c_ff' rfl).trans ?_
    refine (d_in _ _ _ _).trans ?_
    cases hs : inB start 0 8589934592 with
    | false => rfl
    | true =>
      refine (c_ff' rfl).trans ?_
      have q := profV_ok hv
      have h0 := inB_iff.1 hs
      have few := q.few
      refine (d_plan2 h0 few q.all _).trans ?_
      have hok := rawFrom_ok (start := start) (c := 0) (n := 4) q.all (by omega)
      have hg : ∀ x ∈ rawFrom start 0 p.2, zq9l x = true := fun x hx => att_good (hok x hx) (by omega) h0
      have hlen := rawFrom_len (start := start) (c := 0) q.all
      refine (c_tt' (by rw [List.all_eq_true.2 hg, decide_eq_true (by omega)]; rfl)).trans ?_
      show k (zq9n _) = _
      rw [att_run hg]
      rfl
end
end
end Go.Lift

/- The reference's plan of chapter 27: sorting by insertion. -/
namespace Go.Lift
open Go.RowKit Go.IntWalk
noncomputable section
set_option linter.unusedVariables false
set_option linter.unusedSimpArgs false
set_option maxRecDepth 10000

theorem attLt_le {x y z : Att} (h1 : attLt x y) (h2 : attLe y z) : attLt x z := by unfold attLe attLt at *; omega

/-- A list written over its own part by one place, and the place filled. -/
theorem shift_ins {α : Type} (a b : List α) (x : α) (l2 : List α) (h : l2 = a ++ b ++ [x]) (q : List α)
    (hq : q = List.take (a.length + 1) l2 ++ (List.take (l2.length - (a.length + 1)) (List.drop a.length (List.take l2.length l2)) ++ List.drop (a.length + 1 + Nat.min (List.length (List.drop a.length (List.take l2.length l2))) (l2.length - (a.length + 1))) l2)) :
    q.length = l2.length ∧ List.set q a.length x = a ++ x :: b := by
  obtain ⟨y, r, hy⟩ : ∃ y r, b ++ [x] = y :: r := by
    cases b with
    | nil => exact ⟨_, _, rfl⟩
    | cons y b => exact ⟨_, _, rfl⟩
  have hl : l2.length = a.length + b.length + 1 := by rw [h]; simp; omega
  have e1 : List.take (a.length + 1) l2 = a ++ [y] := by
    rw [h, List.append_assoc, hy, List.take_append, List.take_of_length_le (by omega)]
    simp
  have e2 : List.drop a.length (List.take l2.length l2) = b ++ [x] := by
    rw [List.take_length, h, List.append_assoc, List.drop_left]
  have e3 : List.take (l2.length - (a.length + 1)) (b ++ [x]) = b := by
    rw [hl, show a.length + b.length + 1 - (a.length + 1) = b.length by omega, List.take_left]
  have e4 : List.drop (a.length + 1 + Nat.min (List.length (b ++ [x])) (l2.length - (a.length + 1))) l2 = [] := by
    refine List.drop_eq_nil_of_le ?_
    have : Nat.min (List.length (b ++ [x])) (l2.length - (a.length + 1)) = b.length := by
      rw [List.length_append, List.length_cons, List.length_nil, hl]
      show min _ _ = _
      omega
    rw [this, hl]
    omega
  rw [e1, e2, e3, e4, List.append_nil] at hq
  subst hq
  refine ⟨by rw [hl]; simp; omega, ?_⟩
  rw [List.append_assoc, List.set_append_right _ _ (Nat.le_refl _), Nat.sub_self]
  rfl

section
theorem r_ahead {β : Type} (x y : Att) (k : Bool → Option β) : zq1x x y k = k (decide (attLt x y)) := by
  unfold zq1x zq1u
  by_cases h1 : x.2.2 = y.2.2
  · refine (c_npos h1).trans ?_
    by_cases h2 : x.1 = y.1
    · refine (c_npos h2).trans (k_eq ?_)
      congr 1
      exact propext ⟨fun h => by unfold attLt; omega, fun h => by unfold attLt at h; omega⟩
    · refine (c_nneg h2).trans (k_eq ?_)
      congr 1
      exact propext ⟨fun h => by unfold attLt; omega, fun h => by unfold attLt at h; omega⟩
  · refine (c_nneg h1).trans (k_eq ?_)
    congr 1
    exact propext ⟨fun h => by unfold attLt; omega, fun h => by unfold attLt at h; omega⟩

theorem r_plan1 (start c i_ p_ : Int) (p2 : List Chan) {out : List Att} (hs : AscA out) (hl : out.length ≤ 100) (x : Att) :
    ∃ a b, out = a ++ b ∧ (∀ y ∈ a, ¬ attLt x y) ∧ (∀ y ∈ b, attLt x y) ∧ ∀ {β : Type} (k1 : zq5p β), zq6f k1 start c i_ (out.length : Int) p_ p2 out x.1 x.2.1 x.2.2 = k1 start c i_ (a.length : Int) p_ p2 out x.1 x.2.1 x.2.2 := by
  have key : ∀ (n m : Nat), n ≤ out.length → n < m → (∀ y ∈ out.drop n, attLt x y) → ∃ a b, out = a ++ b ∧ (∀ y ∈ a, ¬ attLt x y) ∧ (∀ y ∈ b, attLt x y) ∧ ∀ {β : Type} (k1 : zq5p β), zq6d m k1 start c i_ (n : Int) p_ p2 out x.1 x.2.1 x.2.2 = k1 start c i_ (a.length : Int) p_ p2 out x.1 x.2.1 x.2.2 := by
    intro n
    induction n with
    | zero =>
      intro m _ hm hd
      obtain ⟨m, rfl⟩ : ∃ m', m = m' + 1 := ⟨m - 1, by omega⟩
      refine ⟨[], out, rfl, by simp, by simpa using hd, fun k1 => ?_⟩
      simp only [zq6e, zq61]
      exact c_neg (by omega)
    | succ n ih =>
      intro m hn hm hd
      obtain ⟨m, rfl⟩ : ∃ m', m = m' + 1 := ⟨m - 1, by omega⟩
      have hlt : n < out.length := by omega
      have eg : out.getD n at0 = out[n] := by simp [List.getD, hlt]
      have e1 : IntKind.i64.wrap (((n + 1 : Nat) : Int) - 1) = (n : Int) := by rw [i64_in _ (by omega)]; omega
      by_cases hx : attLt x out[n]
      · obtain ⟨a, b, h1, h2, h3, h4⟩ := ih m (by omega) (by omega) (fun y hy => by
          rw [List.drop_eq_getElem_cons hlt] at hy
          rcases List.mem_cons.1 hy with rfl | hy
          · exact hx
          · exact hd y hy)
        refine ⟨a, b, h1, h2, h3, fun k1 => ?_⟩
        simp only [zq6e, zq61, e1, Int.toNat_natCast]
        refine (c_pos (by omega)).trans ?_
        refine (c_inb (by omega)).trans ?_
        refine (r_ahead x (out.getD n at0) _).trans ?_
        rw [eg]
        refine (c_pos hx).trans ?_
        exact h4 k1
      · refine ⟨out.take (n + 1), out.drop (n + 1), (List.take_append_drop _ _).symm, fun y hy hlt2 => ?_, hd, fun k1 => ?_⟩
        · rw [List.take_add_one, List.getElem?_eq_getElem hlt, Option.toList_some] at hy
          rcases List.mem_append.1 hy with hy | hy
          · obtain ⟨q, hq, rfl⟩ := List.getElem_of_mem hy
            have hq' : q < n := by simp only [List.length_take] at hq; omega
            rw [List.getElem_take] at hlt2
            exact hx (attLt_le hlt2 (List.pairwise_iff_getElem.1 hs q n (by omega) hlt hq'))
          · rw [List.mem_singleton.1 hy] at hlt2
            exact hx hlt2
        · simp only [zq6e, zq61, e1, Int.toNat_natCast]
          refine (c_pos (by omega)).trans ?_
          refine (c_inb (by omega)).trans ?_
          refine (r_ahead x (out.getD n at0) _).trans ?_
          rw [eg]
          refine (c_neg hx).trans ?_
          rw [List.length_take, show min (n + 1) out.length = n + 1 by omega]
  exact key out.length fuel (Nat.le_refl _) (lt_fuel (by omega)) (by simp)

variable {β : Type}
theorem r_plan2 {start : Int} {p_ : Int} {p2 : List Chan} {c : Nat} (h0 : 0 ≤ start ∧ start ≤ 8589934592) (hc : c < p2.length) (hlp : p2.length ≤ 4) (hch : chanV (p2.getD c ch0) = true) {out : List Att} (hs : AscA out) (hl : out.length ≤ 50) (k1 : zq5t β) :
    zq6j k1 start (c : Int) 0 p_ p2 out = k1 start (c : Int) p_ p2 ((triesOf start c (p2.getD c ch0)).foldl insA out) := by
  generalize hch' : p2.getD c ch0 = ch at hch
  have q := chanV_ok hch
  have q1 := q.t1; have q2 := q.t2
  have key : ∀ (j i : Nat) (m : Nat), i + j = ch.2.2.1.toNat → j < m → zq6h m k1 start (c : Int) (i : Int) p_ p2 ((someTries start c ch i).foldl insA out) = k1 start (c : Int) p_ p2 ((triesOf start c ch).foldl insA out) := by
    intro j
    induction j with
    | zero =>
      intro i m hi hm
      obtain ⟨m, rfl⟩ : ∃ m', m = m' + 1 := ⟨m - 1, by omega⟩
      simp only [zq6i, zq64, Int.toNat_natCast, hch']
      refine (c_inb (by omega)).trans ?_
      refine (c_neg (by omega)).trans ?_
      have : i = ch.2.2.1.toNat := by omega
      rw [this, someTries_all]
    | succ j ih =>
      intro i m hi hm
      obtain ⟨m, rfl⟩ : ∃ m', m = m' + 1 := ⟨m - 1, by omega⟩
      have hlen : ((someTries start c ch i).foldl insA out).length = out.length + i := by
        rw [(fold_ins_perm _ _).length_eq, List.length_append, someTries_len]
      have hasc : AscA ((someTries start c ch i).foldl insA out) := fold_ins_asc _ hs
      have hnext := ih (i + 1) m (by omega) (by omega)
      rw [someTries_succ, List.foldl_append] at hnext
      simp only [List.foldl_cons, List.foldl_nil] at hnext
      generalize (someTries start c ch i).foldl insA out = w at hlen hasc hnext ⊢
      obtain ⟨a, b, h1, h2, h3, h4⟩ := r_plan1 start (c : Int) (i : Int) p_ p2 hasc (by omega) ((c : Int), (i : Int), start + (i : Int) * ch.2.2.2)
      simp only [zq6i, zq64, Int.toNat_natCast, hch']
      refine (c_inb (by omega)).trans ?_
      refine (c_pos (by omega)).trans ?_
      refine (c_inb (by omega)).trans ?_
      rw [try_wrap h0 q (by omega)]
      refine (h4 _).trans ?_
      have hab : w.length = a.length + b.length := by rw [h1, List.length_append]
      refine (c_room (by simp only [List.length_cons, List.length_nil]; omega)).trans ?_
      have e1 : IntKind.i64.wrap ((a.length : Int) + 1) = ((a.length + 1 : Nat) : Int) := by rw [i64_in _ (by omega)]; omega
      simp only [e1, Int.toNat_natCast]
      have hl2 : (w ++ [((c : Int), (i : Int), start + (i : Int) * ch.2.2.2)]).length = a.length + b.length + 1 := by simp; omega
      refine (c_tt' (by simp only [Bool.and_eq_true, decide_eq_true_eq]; omega)).trans ?_
      refine (c_tt' (by simp only [Bool.and_eq_true, decide_eq_true_eq]; omega)).trans ?_
      obtain ⟨g1, g2⟩ := shift_ins a b ((c : Int), (i : Int), start + (i : Int) * ch.2.2.2) (w ++ [((c : Int), (i : Int), start + (i : Int) * ch.2.2.2)]) (by rw [h1]) _ rfl
      refine (c_inb (by omega)).trans ?_
      rw [g2, i64_in ((i : Int) + 1) (by omega), ← insA_append h2 h3, ← h1]
      exact hnext
  exact key ch.2.2.1.toNat 0 fuel (by omega) (lt_fuel (by omega))

theorem r_plan3 {start : Int} {p_ : Int} {p2 : List Chan} (h0 : 0 ≤ start ∧ start ≤ 8589934592) (hlp : p2.length ≤ 4) (h : ∀ x ∈ p2, chanV x = true) (k1 : zq5x β) :
    zq6n k1 start 0 p_ p2 [] = k1 (sortA (rawFrom start 0 p2)) := by
  have key : ∀ (j i : Nat) (m : Nat), i + j = p2.length → j < m → zq6l m k1 start (i : Int) p_ p2 (sortA (rawFrom start 0 (p2.take i))) = k1 (sortA (rawFrom start 0 p2)) := by
    intro j
    induction j with
    | zero =>
      intro i m hi hm
      obtain ⟨m, rfl⟩ : ∃ m', m = m' + 1 := ⟨m - 1, by omega⟩
      simp only [zq6m, zq67]
      refine (c_neg (by omega)).trans ?_
      rw [List.take_of_length_le (by omega)]
    | succ j ih =>
      intro i m hi hm
      obtain ⟨m, rfl⟩ : ∃ m', m = m' + 1 := ⟨m - 1, by omega⟩
      simp only [zq6m, zq67]
      refine (c_pos (by omega)).trans ?_
      have hlen := rawFrom_len (start := start) (c := 0) (take_all h i)
      have hlt : (p2.take i).length ≤ 4 := by simp only [List.length_take]; omega
      refine (r_plan2 h0 (by omega) hlp (getD_all h (by omega)) (sortA_asc _) (by rw [sortA_len]; omega) _).trans ?_
      rw [i64_in ((i : Int) + 1) (by omega)]
      have := ih (i + 1) m (by omega) (by omega)
      rw [rawFrom_snoc (by omega)] at this
      unfold sortA at this ⊢
      rw [List.foldl_append] at this
      exact this
  exact key p2.length 0 fuel (by omega) (lt_fuel (by omega))

theorem r_plan (p : Prof) (start : Int) (k : List Att → Option β) : zq6p p start k = k (planOf p start) := by
  unfold zq6p zq6a planOf
  refine (r27_valid _ _).trans ?_
  cases hv : profV p with
  | false => rfl
  | true =>
    refine (c_ff' rfl).trans ?_
    refine (r_in _ _ _ _).trans ?_
    cases hs : inB start 0 8589934592 with
    | false => rfl
    | true =>
      refine (c_ff' rfl).trans ?_
      have q := profV_ok hv
      exact r_plan3 (inB_iff.1 hs) q.few q.all _
end
end
end Go.Lift

/- Contacts of chapter 27, function by function; code and reference. -/
namespace Go.Lift
open Go.RowKit Go.IntWalk
noncomputable section
set_option linter.unusedVariables false
set_option linter.unusedSimpArgs false
set_option maxRecDepth 10000

/-- A contact: page, step, person, start, what is sent, when it was reached. -/
abbrev Cont := Int × Int × Int × Int × Int × Int
abbrev cont0 : Cont := (0, 0, 0, 0, 0, 0)
abbrev Cont.start (c : Cont) : Int := c.2.2.2.1
abbrev Cont.sent (c : Cont) : Int := c.2.2.2.2.1
abbrev Cont.reached (c : Cont) : Int := c.2.2.2.2.2
def rightV (page step person start : Int) : Bool := decide (1 ≤ page) && (decide (-1 ≤ step) && (inB person 0 31 && inB start 0 8589934592))
def contV (c : Cont) : Bool := rightV c.1 c.2.1 c.2.2.1 c.2.2.2.1
def checkD (p : Prof) (c : Cont) : Bool :=
  profV p && (contV c && (decide (c.2.2.1 = p.1) && (inB c.2.2.2.2.1 0 (planOf p c.2.2.2.1).length && (decide (c.2.2.2.2.2 = -1) || (!decide (c.2.2.2.2.1 = 0) && decide (c.2.2.2.1 ≤ c.2.2.2.2.2))))))
def newD (page step person start : Int) : Cont × Int := cond (rightV page step person start) ((page, step, person, start, 0, -1), 0) (cont0, 1)
def nextD (p : Prof) (c : Cont) : Int × Bool :=
  cond (checkD p c && (decide (c.2.2.2.2.2 = -1) && decide (c.2.2.2.2.1 < (planOf p c.2.2.2.1).length))) (((planOf p c.2.2.2.1).getD c.2.2.2.2.1.toNat at0).2.2, true) (0, false)
/-- What is due. -/
def dueD (p : Prof) (c : Cont) (now : Int) : List Att :=
  cond (decide (c.2.2.2.2.2 = -1)) (((planOf p c.2.2.2.1).drop c.2.2.2.2.1.toNat).takeWhile fun a => decide (a.2.2 ≤ now)) []
def sentD (p : Prof) (c : Cont) (now : Int) : Cont := (c.1, c.2.1, c.2.2.1, c.2.2.2.1, c.2.2.2.2.1 + (dueD p c now).length, c.2.2.2.2.2)
def recvD (p : Prof) (c : Cont) (attempt at_ : Int) : Cont × Int :=
  cond (checkD p c)
    (cond (inB attempt 0 (c.2.2.2.2.1 - 1))
      (cond (inB at_ ((planOf p c.2.2.2.1).getD attempt.toNat at0).2.2 8590193792)
        (cond (decide (c.2.2.2.2.2 = -1) || decide (at_ < c.2.2.2.2.2)) ((c.1, c.2.1, c.2.2.1, c.2.2.2.1, c.2.2.2.2.1, at_), 0) (c, 0))
        (cont0, 6))
      (cont0, 3))
    (cont0, 8)

structure CheckOk (p : Prof) (c : Cont) : Prop where
  prof : ProfOk p
  nums : contV c = true
  who : c.2.2.1 = p.1
  st : 0 ≤ c.2.2.2.1 ∧ c.2.2.2.1 ≤ 8589934592
  s1 : 0 ≤ c.2.2.2.2.1
  s2 : c.2.2.2.2.1 ≤ (planOf p c.2.2.2.1).length
  s3 : c.2.2.2.2.1 ≤ 24
  reach : c.2.2.2.2.2 = -1 ∨ (c.2.2.2.2.1 ≠ 0 ∧ c.2.2.2.1 ≤ c.2.2.2.2.2)
theorem checkD_ok {p : Prof} {c : Cont} (h : checkD p c = true) : CheckOk p c := by
  unfold checkD at h
  simp only [Bool.and_eq_true, Bool.or_eq_true, Bool.not_eq_true', decide_eq_true_eq, decide_eq_false_iff_not, inB_iff] at h
  obtain ⟨h1, h2, h3, ⟨h4, h5⟩, h6⟩ := h
  have h7 := h2
  unfold contV rightV at h7
  simp only [Bool.and_eq_true, decide_eq_true_eq, inB_iff] at h7
  have := planOf_len p c.2.2.2.1
  exact ⟨profV_ok h1, h2, h3, h7.2.2.2, h4, h5, by omega, h6⟩
theorem checkD_iff {p : Prof} {c : Cont} : checkD p c = true ↔ profV p = true ∧ contV c = true ∧ c.2.2.1 = p.1 ∧ (0 ≤ c.2.2.2.2.1 ∧ c.2.2.2.2.1 ≤ (planOf p c.2.2.2.1).length) ∧ (c.2.2.2.2.2 = -1 ∨ (c.2.2.2.2.1 ≠ 0 ∧ c.2.2.2.1 ≤ c.2.2.2.2.2)) := by
  unfold checkD
  simp only [Bool.and_eq_true, Bool.or_eq_true, Bool.not_eq_true', decide_eq_true_eq, decide_eq_false_iff_not, inB_iff]
  try exact Iff.rfl

theorem fuel_succ : ∃ m, fuel = m + 1 := ⟨18446744073709551615, rfl⟩

section
variable {β : Type}
theorem d_numbers (c : Cont) (k : Bool → Option β) : zq4o c k = k (contV c) := by
  unfold zq4o zq4l contV rightV
  refine c_andk fun _ => ?_
  refine c_andk fun _ => ?_
  unfold zq2b zq28
  refine (d_in _ _ _ _).trans ?_
  refine c_andk fun _ => ?_
  exact d_in _ _ _ _
theorem r_right (page step person start : Int) (k : Bool → Option β) : zq24 page step person start k = k (rightV page step person start) := by
  unfold zq24 zq21 rightV
  refine c_andk fun _ => ?_
  refine c_andk fun _ => ?_
  refine (r_in _ _ _ _).trans ?_
  refine c_andk fun _ => ?_
  exact r_in _ _ _ _
theorem r_new (page step person start : Int) (k : Cont → Int → Option β) : zq3e page step person start k = k (newD page step person start).1 (newD page step person start).2 := by
  unfold zq3e zq3b newD
  refine (r_right _ _ _ _ _).trans ?_
  cases rightV page step person start <;> rfl

theorem d_check (p : Prof) (c : Cont) (k : Bool → Option β) : zqas p c k = k (checkD p c) := by
  unfold zqas zqap checkD
  refine (d_valid _ _).trans ?_
  refine c_andk fun _ => ?_
  refine (d_numbers _ _).trans ?_
  refine c_andk fun _ => ?_
  refine c_andk fun _ => ?_
  refine (d_plan _ _ _).trans ?_
  refine (d_in _ _ _ _).trans ?_
  refine c_andk fun _ => ?_
  by_cases h : c.2.2.2.2.2 = -1
  · refine (c_pos h).trans ?_
    rw [decide_eq_true h]; rfl
  · refine (c_neg h).trans ?_
    rw [decide_eq_false h, Bool.false_or]
    exact c_andk fun _ => rfl
theorem r_check (p : Prof) (c : Cont) (k : Bool → Option β) : zq6w p c k = k (checkD p c) := by
  unfold zq6w zq6t checkD
  refine (r27_valid _ _).trans ?_
  refine c_andk fun _ => ?_
  refine (r_right _ _ _ _ _).trans ?_
  refine c_andk fun _ => ?_
  refine c_andk fun _ => ?_
  refine (r_plan _ _ _).trans ?_
  refine (r_in _ _ _ _).trans ?_
  refine c_andk fun hin => ?_
  have hin := inB_iff.1 hin
  by_cases h : c.2.2.2.2.2 = -1
  · refine (c_pos h).trans ?_
    rw [decide_eq_true h]; rfl
  · refine (c_neg h).trans ?_
    rw [decide_eq_false h, Bool.false_or, Bool.and_comm]
    refine c_andk fun _ => k_eq ?_
    by_cases h0 : c.2.2.2.2.1 = 0
    · rw [decide_eq_true h0, decide_eq_false (by omega)]; rfl
    · rw [decide_eq_false h0, decide_eq_true (show 0 < c.2.2.2.2.1 by omega)]; rfl

theorem d_next (p : Prof) (c : Cont) (k : Int → Bool → Option β) : zqbo p c k = k (nextD p c).1 (nextD p c).2 := by
  unfold zqbo zqbl nextD
  refine (d_check _ _ _).trans ?_
  cases hc : checkD p c with
  | false => rfl
  | true =>
    have q := checkD_ok hc
    have q1 := q.s1; have q2 := q.s2
    refine (c_ff' rfl).trans ?_
    by_cases h : c.2.2.2.2.2 = -1
    · refine (c_npos h).trans ?_
      refine (d_plan _ _ _).trans ?_
      rw [decide_eq_true h]
      by_cases hl : c.2.2.2.2.1 = (planOf p c.2.2.2.1).length
      · refine (c_pos hl).trans ?_
        rw [decide_eq_false (by omega)]; rfl
      · refine (c_neg hl).trans ?_
        rw [decide_eq_true (show c.2.2.2.2.1 < (planOf p c.2.2.2.1).length by omega)]
        refine (c_tt' (by rw [decide_eq_true q1]; rfl)).trans ?_
        rfl
    · refine (c_nneg h).trans ?_
      rw [decide_eq_false h]; rfl
theorem r_next (p : Prof) (c : Cont) (k : Int → Bool → Option β) : zq73 p c k = k (nextD p c).1 (nextD p c).2 := by
  unfold zq73 zq70 nextD
  refine (r_check _ _ _).trans ?_
  cases hc : checkD p c with
  | false => rfl
  | true =>
    have q := checkD_ok hc
    have q1 := q.s1; have q2 := q.s2
    refine (c_ff' rfl).trans ?_
    by_cases h : c.2.2.2.2.2 = -1
    · refine (c_npos h).trans ?_
      refine (r_plan _ _ _).trans ?_
      rw [decide_eq_true h]
      by_cases hl : c.2.2.2.2.1 < (planOf p c.2.2.2.1).length
      · refine (c_pos hl).trans ?_
        rw [decide_eq_true hl]
        refine (c_tt' (by rw [decide_eq_true q1]; rfl)).trans ?_
        rfl
      · refine (c_neg hl).trans ?_
        rw [decide_eq_false hl]; rfl
    · refine (c_nneg h).trans ?_
      rw [decide_eq_false h]; rfl

theorem d_send (p : Prof) (c : Cont) (now : Int) (k : Cont → Int → List Att → Option β) :
    zqba p c now k = cond (checkD p c) (k (sentD p c now) 0 (dueD p c now)) (k cont0 8 []) := by
  unfold zqba zqb3
  refine (d_check _ _ _).trans ?_
  cases hc : checkD p c with
  | false => rfl
  | true =>
    have q := checkD_ok hc
    have q1 := q.s1; have q2 := q.s2; have q3 := q.s3
    refine (c_ff' rfl).trans ?_
    refine (d_plan _ _ _).trans ?_
    have hlen := planOf_len p c.2.2.2.1
    refine (c_tt' (by simp only [Bool.and_eq_true, decide_eq_true_eq]; omega)).trans ?_
    rw [Int.toNat_natCast, List.take_length]
    generalize ht : (planOf p c.2.2.2.1).drop c.2.2.2.2.1.toNat = t
    have htl : t.length ≤ 24 := by rw [← ht, List.length_drop]; omega
    have key : ∀ (r pre : List Att) (m : Nat) (k1 : zqaw β), t = pre ++ r → r.length < m → c.2.2.2.2.2 = -1 →
        zqb6 m k1 now t (t.length : Int) (pre.length : Int) c.1 c.2.1 c.2.2.1 c.2.2.2.1 (c.2.2.2.2.1 + pre.length) c.2.2.2.2.2 0 0 0 0 0 0 pre =
          k1 c.1 c.2.1 c.2.2.1 c.2.2.2.1 (c.2.2.2.2.1 + (pre ++ r.takeWhile fun a => decide (a.2.2 ≤ now)).length) c.2.2.2.2.2 0 0 0 0 0 0 (pre ++ r.takeWhile fun a => decide (a.2.2 ≤ now)) := by
      intro r
      induction r with
      | nil =>
        intro pre m k1 hpre hm hr
        obtain ⟨m, rfl⟩ : ∃ m', m = m' + 1 := ⟨m - 1, by simp at hm; omega⟩
        simp only [zqb7, zqb0]
        rw [List.append_nil] at hpre
        refine (c_neg (by rw [hpre]; omega)).trans ?_
        simp
      | cons x r ih =>
        intro pre m k1 hpre hm hr
        obtain ⟨m, rfl⟩ : ∃ m', m = m' + 1 := ⟨m - 1, by simp at hm; omega⟩
        have hl : t.length = pre.length + (r.length + 1) := by rw [hpre]; simp
        have hg : t.getD pre.length ((0 : Int), ((0 : Int), (0 : Int))) = x := by rw [hpre]; simp [List.getD]
        simp only [zqb7, zqb0, Int.toNat_natCast]
        refine (c_pos (by omega)).trans ?_
        refine (c_inb (by omega)).trans ?_
        refine (c_npos hr).trans ?_
        simp only [hg]
        by_cases hx : now < x.2.2
        · refine (c_pos hx).trans ?_
          rw [List.takeWhile_cons_of_neg (by simp; omega)]
          simp
        · refine (c_neg hx).trans ?_
          refine (c_room (by simp only [List.length_cons, List.length_nil]; omega)).trans ?_
          rw [List.takeWhile_cons_of_pos (by simp; omega)]
          have := ih (pre ++ [x]) m k1 (by rw [hpre]; simp) (by simp at hm; omega) hr
          simp only [List.length_append, List.length_cons, List.length_nil, List.append_assoc, List.cons_append, List.nil_append] at this ⊢
          rw [← this, i64_in ((pre.length : Int) + 1) (by omega), i64_in (c.2.2.2.2.1 + (pre.length : Int) + 1) (by omega)]
          congr 1
          omega
    by_cases hr : c.2.2.2.2.2 = -1
    · have h0 := fun k1 => key t [] fuel k1 rfl (lt_fuel (by omega)) hr
      simp only [List.length_nil, List.nil_append, Int.natCast_zero, Int.add_zero] at h0
      refine (h0 _).trans ?_
      unfold sentD dueD
      rw [decide_eq_true hr, ht]
      rfl
    · have : ∀ k1 : zqaw β, zqb8 k1 now t (t.length : Int) 0 c.1 c.2.1 c.2.2.1 c.2.2.2.1 c.2.2.2.2.1 c.2.2.2.2.2 0 0 0 0 0 0 [] = k1 c.1 c.2.1 c.2.2.1 c.2.2.2.1 c.2.2.2.2.1 c.2.2.2.2.2 0 0 0 0 0 0 [] := by
        intro k1
        obtain ⟨m, hm⟩ := fuel_succ
        unfold zqb8
        rw [hm]
        simp only [zqb7, zqb0]
        cases ht : t with
        | nil => exact c_neg (by simp)
        | cons x r =>
          refine (c_pos (by simp)).trans ?_
          refine (c_inb (by simp)).trans ?_
          exact c_nneg hr
      refine (this _).trans ?_
      unfold sentD dueD
      rw [decide_eq_false hr]
      simp

theorem r_send (p : Prof) (c : Cont) (now : Int) (k : Cont → Int → List Att → Option β) :
    zq7l p c now k = cond (checkD p c) (k (sentD p c now) 0 (dueD p c now)) (k cont0 8 []) := by
  unfold zq7l zq7e
  refine (r_check _ _ _).trans ?_
  cases hc : checkD p c with
  | false => rfl
  | true =>
    have q := checkD_ok hc
    have q1 := q.s1; have q2 := q.s2; have q3 := q.s3
    refine (c_ff' rfl).trans ?_
    refine (r_plan _ _ _).trans ?_
    have hlen := planOf_len p c.2.2.2.1
    generalize ht : (planOf p c.2.2.2.1).drop c.2.2.2.2.1.toNat = t
    have htl : t.length + c.2.2.2.2.1.toNat = (planOf p c.2.2.2.1).length := by rw [← ht, List.length_drop]; omega
    have key : ∀ (r pre : List Att) (m : Nat) (k1 : zq77 β), t = pre ++ r → r.length < m → c.2.2.2.2.2 = -1 →
        zq7h m k1 now p.1 p.2 c.1 c.2.1 c.2.2.1 c.2.2.2.1 (c.2.2.2.2.1 + pre.length) c.2.2.2.2.2 0 0 0 0 0 0 pre (planOf p c.2.2.2.1) =
          k1 0 c.1 c.2.1 c.2.2.1 c.2.2.2.1 (c.2.2.2.2.1 + (pre ++ r.takeWhile fun a => decide (a.2.2 ≤ now)).length) c.2.2.2.2.2 (pre ++ r.takeWhile fun a => decide (a.2.2 ≤ now)) := by
      intro r
      induction r with
      | nil =>
        intro pre m k1 hpre hm hr
        obtain ⟨m, rfl⟩ : ∃ m', m = m' + 1 := ⟨m - 1, by simp at hm; omega⟩
        rw [List.append_nil] at hpre
        subst hpre
        simp only [zq7i, zq7b]
        refine (r_next p (c.1, c.2.1, c.2.2.1, c.2.2.2.1, c.2.2.2.2.1 + (t.length : Int), c.2.2.2.2.2) _).trans ?_
        have : nextD p (c.1, c.2.1, c.2.2.1, c.2.2.2.1, c.2.2.2.2.1 + (t.length : Int), c.2.2.2.2.2) = (0, false) := by
          unfold nextD
          simp only
          rw [decide_eq_false (show ¬ c.2.2.2.2.1 + (t.length : Int) < (planOf p c.2.2.2.1).length by omega)]
          simp
        rw [this]
        refine (c_tt' rfl).trans ?_
        simp
      | cons x r ih =>
        intro pre m k1 hpre hm hr
        obtain ⟨m, rfl⟩ : ∃ m', m = m' + 1 := ⟨m - 1, by simp at hm; omega⟩
        have hl : t.length = pre.length + (r.length + 1) := by rw [hpre]; simp
        have hg : (planOf p c.2.2.2.1).getD (c.2.2.2.2.1 + (pre.length : Int)).toNat at0 = x := by
          have h1 : t[pre.length]? = some x := by rw [hpre]; simp
          rw [← ht, List.getElem?_drop] at h1
          rw [show (c.2.2.2.2.1 + (pre.length : Int)).toNat = c.2.2.2.2.1.toNat + pre.length by omega, List.getD, h1]
          rfl
        simp only [zq7i, zq7b]
        refine (r_next p (c.1, c.2.1, c.2.2.1, c.2.2.2.1, c.2.2.2.2.1 + (pre.length : Int), c.2.2.2.2.2) _).trans ?_
        have : nextD p (c.1, c.2.1, c.2.2.1, c.2.2.2.1, c.2.2.2.2.1 + (pre.length : Int), c.2.2.2.2.2) = (x.2.2, true) := by
          have hck : checkD p (c.1, c.2.1, c.2.2.1, c.2.2.2.1, c.2.2.2.2.1 + (pre.length : Int), c.2.2.2.2.2) = true := by
            obtain ⟨a1, a2, a3, a4, a5⟩ := checkD_iff.1 hc
            exact checkD_iff.2 ⟨a1, a2, a3, ⟨by show 0 ≤ c.2.2.2.2.1 + (pre.length : Int); omega, by show c.2.2.2.2.1 + (pre.length : Int) ≤ (planOf p c.2.2.2.1).length; omega⟩, .inl hr⟩
          unfold nextD
          simp only
          rw [hck, decide_eq_true hr, decide_eq_true (show c.2.2.2.2.1 + (pre.length : Int) < (planOf p c.2.2.2.1).length by omega), hg]
          rfl
        rw [this]
        refine (c_ff' rfl).trans ?_
        by_cases hx : now < x.2.2
        · refine (c_pos hx).trans ?_
          rw [List.takeWhile_cons_of_neg (by simp; omega)]
          simp
        · refine (c_neg hx).trans ?_
          refine (c_inb (by omega)).trans ?_
          refine (c_room (by simp only [List.length_cons, List.length_nil]; omega)).trans ?_
          rw [List.takeWhile_cons_of_pos (by simp; omega)]
          have := ih (pre ++ [x]) m k1 (by rw [hpre]; simp) (by simp at hm; omega) hr
          simp only [List.length_append, List.length_cons, List.length_nil, List.append_assoc, List.cons_append, List.nil_append] at this ⊢
          rw [← this, i64_in (c.2.2.2.2.1 + (pre.length : Int) + 1) (by omega)]
          have e : ((planOf p c.2.2.2.1).getD (c.2.2.2.2.1 + (pre.length : Int)).toNat ((0 : Int), ((0 : Int), (0 : Int)))) = x := hg
          rw [e]
          congr 1
          omega
    by_cases hr : c.2.2.2.2.2 = -1
    · have h0 := fun k1 => key t [] fuel k1 rfl (lt_fuel (by omega)) hr
      simp only [List.length_nil, List.nil_append, Int.natCast_zero, Int.add_zero] at h0
      refine (h0 _).trans ?_
      unfold sentD dueD
      rw [decide_eq_true hr, ht]
      rfl
    · have : ∀ k1 : zq77 β, zq7j k1 now p.1 p.2 c.1 c.2.1 c.2.2.1 c.2.2.2.1 c.2.2.2.2.1 c.2.2.2.2.2 0 0 0 0 0 0 [] (planOf p c.2.2.2.1) = k1 0 c.1 c.2.1 c.2.2.1 c.2.2.2.1 c.2.2.2.2.1 c.2.2.2.2.2 [] := by
        intro k1
        obtain ⟨m, hm⟩ := fuel_succ
        unfold zq7j
        rw [hm]
        simp only [zq7i, zq7b]
        refine (r_next p c _).trans ?_
        have : nextD p c = (0, false) := by
          unfold nextD
          rw [decide_eq_false hr]
          simp
        rw [this]
        exact c_tt' rfl
      refine (this _).trans ?_
      unfold sentD dueD
      rw [decide_eq_false hr]
      simp

theorem d_receipt (p : Prof) (c : Cont) (attempt at_ : Int) (k : Cont → Int → Option β) :
    zqbh p c attempt at_ k = k (recvD p c attempt at_).1 (recvD p c attempt at_).2 := by
  unfold zqbh zqbe recvD
  refine (d_check _ _ _).trans ?_
  cases hc : checkD p c with
  | false => rfl
  | true =>
    have q := checkD_ok hc
    have q1 := q.s1; have q2 := q.s2; have q3 := q.s3
    refine (c_ff' rfl).trans ?_
    rw [i64_in (c.2.2.2.2.1 - 1) (by omega)]
    refine (d_in _ _ _ _).trans ?_
    cases ha : inB attempt 0 (c.2.2.2.2.1 - 1) with
    | false => rfl
    | true =>
      have ha := inB_iff.1 ha
      refine (c_ff' rfl).trans ?_
      refine (d_plan _ _ _).trans ?_
      refine (c_inb (by omega)).trans ?_
      refine (d_in _ _ _ _).trans ?_
      simp only [cond_true]
      cases inB at_ ((planOf p c.2.2.2.1).getD attempt.toNat at0).2.2 8590193792 with
      | false => rfl
      | true =>
        refine (c_ff' rfl).trans ?_
        by_cases h1 : c.2.2.2.2.2 = -1
        · refine (c_pos h1).trans ?_
          rw [decide_eq_true h1]; rfl
        · refine (c_neg h1).trans ?_
          rw [decide_eq_false h1]
          by_cases h2 : at_ < c.2.2.2.2.2
          · refine (c_pos h2).trans ?_
            rw [decide_eq_true h2]; rfl
          · refine (c_neg h2).trans ?_
            rw [decide_eq_false h2]; rfl
theorem r_receipt (p : Prof) (c : Cont) (attempt at_ : Int) (k : Cont → Int → Option β) :
    zq7s p c attempt at_ k = k (recvD p c attempt at_).1 (recvD p c attempt at_).2 := by
  unfold zq7s zq7p recvD
  refine (r_check _ _ _).trans ?_
  cases hc : checkD p c with
  | false => rfl
  | true =>
    have q := checkD_ok hc
    have q1 := q.s1; have q2 := q.s2; have q3 := q.s3
    refine (c_ff' rfl).trans ?_
    rw [i64_in (c.2.2.2.2.1 - 1) (by omega)]
    refine (r_in _ _ _ _).trans ?_
    cases ha : inB attempt 0 (c.2.2.2.2.1 - 1) with
    | false => rfl
    | true =>
      have ha := inB_iff.1 ha
      refine (c_ff' rfl).trans ?_
      refine (r_plan _ _ _).trans ?_
      refine (c_inb (by omega)).trans ?_
      simp only [cond_true]
      unfold inB
      by_cases g1 : ((planOf p c.2.2.2.1).getD attempt.toNat at0).2.2 ≤ at_
      · refine (c_neg (show ¬ at_ < ((planOf p c.2.2.2.1).getD attempt.toNat at0).2.2 by omega)).trans ?_
        rw [decide_eq_true g1]
        by_cases g2 : at_ ≤ 8590193792
        · refine (c_neg (by omega)).trans ?_
          rw [decide_eq_true g2]
          by_cases h1 : c.2.2.2.2.2 = -1
          · refine (c_pos h1).trans ?_
            rw [decide_eq_true h1]; rfl
          · refine (c_neg h1).trans ?_
            rw [decide_eq_false h1]
            by_cases h2 : at_ < c.2.2.2.2.2
            · refine (c_pos h2).trans ?_
              rw [decide_eq_true h2]; rfl
            · refine (c_neg h2).trans ?_
              rw [decide_eq_false h2]; rfl
        · refine (c_pos (by omega)).trans ?_
          rw [decide_eq_false g2]; rfl
      · refine (c_pos (show at_ < ((planOf p c.2.2.2.1).getD attempt.toNat at0).2.2 by omega)).trans ?_
        rw [decide_eq_false g1]; rfl
end
end
end Go.Lift

/- What becomes of a contact (chapter 27): attempts, arrivals, receipts; code and reference. -/
namespace Go.Lift
open Go.RowKit Go.IntWalk
noncomputable section
set_option linter.unusedVariables false
set_option linter.unusedSimpArgs false
set_option maxRecDepth 10000

/-! ### Sorted numbers -/
/-! ### Fates -/
/-- A fate: lost, delay, copy, receipt. -/
abbrev Fate := Bool × Int × Int × Int
abbrev lostF : Fate := (true, 0, 0, 0)
def fateV (f : Fate) : Bool := inB f.2.1 0 86400 && (inB f.2.2.1 0 86400 && inB f.2.2.2 (-1) 86400)
def fateOf (l : List Fate) (k : Int) : Fate :=
  cond (inB k 0 ((l.length : Int) - 1)) (cond (fateV (l.getD k.toNat (false, 0, 0, 0))) (l.getD k.toNat (false, 0, 0, 0)) lostF) lostF
def arrOf (t : Int) (f : Fate) : List Int :=
  cond (inB t 0 8589956192) (cond (fateV f) (cond f.1 [] (cond (decide (f.2.2.1 = 0)) [t + f.2.1] [t + f.2.1, t + f.2.1 + f.2.2.1])) []) []
def recOf (t : Int) (f : Fate) : List Int := cond (decide (f.2.2.2 = -1)) [] ((arrOf t f).map (· + f.2.2.2))

theorem arrOf_len (t : Int) (f : Fate) : (arrOf t f).length ≤ 2 := by
  unfold arrOf
  cases inB t 0 8589956192 <;> cases fateV f <;> cases f.1 <;> cases decide (f.2.2.1 = 0) <;> simp
theorem recOf_len (t : Int) (f : Fate) : (recOf t f).length ≤ 2 := by
  unfold recOf
  have := arrOf_len t f
  cases decide (f.2.2.2 = -1) <;> simp [this]
theorem arrOf_bd {t : Int} {f : Fate} : ∀ x ∈ arrOf t f, 0 ≤ x ∧ x ≤ 9000000000 ∧ fateV f = true := by
  intro x hx
  unfold arrOf at hx
  cases h1 : inB t 0 8589956192 with
  | false => rw [h1] at hx; simp at hx
  | true =>
    cases h2 : fateV f with
    | false => rw [h1, h2] at hx; simp at hx
    | true =>
      have g1 := inB_iff.1 h1
      have g2 := h2
      unfold fateV at g2
      simp only [Bool.and_eq_true, inB_iff] at g2
      rw [h1, h2] at hx
      simp only [cond_true] at hx
      cases h3 : f.1 with
      | true => rw [h3] at hx; simp at hx
      | false =>
        rw [h3] at hx
        simp only [cond_false] at hx
        cases h4 : decide (f.2.2.1 = 0) with
        | true =>
          rw [h4] at hx
          simp only [cond_true, List.mem_singleton] at hx
          exact ⟨by omega, by omega, rfl⟩
        | false =>
          rw [h4] at hx
          simp only [cond_false, List.mem_cons, List.not_mem_nil, or_false] at hx
          exact ⟨by omega, by omega, rfl⟩

section
variable {β : Type}
theorem ch_vfate (f : Fate) (k : Bool → Option β) : zq2p f k = k (fateV f) := by
  unfold zq2p zq2m
  refine (ch_in _ _ _ _).trans ?_
  refine c_andk fun _ => ?_
  refine (ch_in _ _ _ _).trans ?_
  refine c_andk fun _ => ?_
  exact ch_in _ _ _ _
theorem ch_fates {l : List Fate} (hl : l.length ≤ 9223372036854775807) (i : Int) (k : Fate → Option β) : zq3l l i k = k (fateOf l i) := by
  unfold zq3l zq3i fateOf
  rw [i64_in ((l.length : Int) - 1) (by omega)]
  refine (ch_in _ _ _ _).trans ?_
  cases h : inB i 0 ((l.length : Int) - 1) with
  | false => rfl
  | true =>
    have h := inB_iff.1 h
    refine (c_tt' rfl).trans ?_
    refine (c_inb (by omega)).trans ?_
    refine (ch_vfate _ _).trans ?_
    simp only [cond_true]
    cases fateV (l.getD i.toNat (false, 0, 0, 0)) with
    | false => rfl
    | true => exact c_inb (by omega)
theorem ch_arrivals (t : Int) (f : Fate) (k : List Int → Option β) : zq3s t f k = k (arrOf t f) := by
  unfold zq3s zq3p arrOf
  refine (ch_in _ _ _ _).trans ?_
  cases h1 : inB t 0 8589956192 with
  | false => rfl
  | true =>
    refine (c_ff' rfl).trans ?_
    refine (ch_vfate _ _).trans ?_
    cases h2 : fateV f with
    | false => rfl
    | true =>
      have g1 := inB_iff.1 h1
      unfold fateV at h2
      simp only [Bool.and_eq_true, inB_iff] at h2
      refine (c_ff' rfl).trans ?_
      simp only [cond_true]
      cases h3 : f.1 with
      | true => rfl
      | false =>
        refine (c_ff' rfl).trans ?_
        rw [i64_in (t + f.2.1) (by omega), i64_in (t + f.2.1 + f.2.2.1) (by omega)]
        by_cases h4 : f.2.2.1 = 0
        · refine (c_npos h4).trans ?_
          rw [decide_eq_true h4]; rfl
        · refine (c_nneg h4).trans ?_
          rw [decide_eq_false h4]
          exact c_room (by simp)
theorem ch_receipts (t : Int) (f : Fate) (k : List Int → Option β) : zq4a t f k = k (recOf t f) := by
  unfold zq4a zq43 recOf
  refine (ch_arrivals _ _ _).trans ?_
  by_cases h : f.2.2.2 = -1
  · refine (c_pos h).trans ?_
    rw [decide_eq_true h]; rfl
  · refine (c_neg h).trans ?_
    rw [decide_eq_false h]
    have hlen := arrOf_len t f
    have hbd : ∀ x ∈ arrOf t f, IntKind.i64.wrap (x + f.2.2.2) = x + f.2.2.2 := by
      intro x hx
      obtain ⟨a1, a2, a3⟩ := arrOf_bd x hx
      unfold fateV at a3
      simp only [Bool.and_eq_true, inB_iff] at a3
      exact i64_in _ (by omega)
    generalize arrOf t f = l at hlen hbd
    have key : ∀ (r pre : List Int) (m : Nat) (k1 : zq3w β), l = pre ++ r → r.length < m →
        zq46 m k1 (l.length : Int) (pre.length : Int) f.1 f.2.1 f.2.2.1 f.2.2.2 (pre.map (· + f.2.2.2) ++ r) = k1 (l.map (· + f.2.2.2)) := by
      intro r
      induction r with
      | nil =>
        intro pre m k1 hp hm
        obtain ⟨m, rfl⟩ : ∃ m', m = m' + 1 := ⟨m - 1, by simp at hm; omega⟩
        rw [List.append_nil] at hp
        subst hp
        simp only [zq47, zq40]
        refine (c_neg (by omega)).trans ?_
        rw [List.append_nil]
      | cons x r ih =>
        intro pre m k1 hp hm
        obtain ⟨m, rfl⟩ : ∃ m', m = m' + 1 := ⟨m - 1, by simp at hm; omega⟩
        have hl : l.length = pre.length + (r.length + 1) := by rw [hp]; simp
        have ho : (pre.map (· + f.2.2.2) ++ x :: r).length = l.length := by simp [hl]
        have hg : (pre.map (· + f.2.2.2) ++ x :: r).getD pre.length (0 : Int) = x := by simp [List.getD]
        simp only [zq47, zq40, Int.toNat_natCast]
        refine (c_pos (by omega)).trans ?_
        refine (c_inb (by omega)).trans ?_
        refine (c_inb (by omega)).trans ?_
        rw [hg, hbd x (by rw [hp]; simp), i64_in ((pre.length : Int) + 1) (by omega)]
        have := ih (pre ++ [x]) m k1 (by rw [hp]; simp) (by simp at hm; omega)
        simp only [List.length_append, List.length_cons, List.length_nil, List.map_append, List.map_cons, List.map_nil, List.append_assoc, List.cons_append, List.nil_append] at this
        rw [← this]
        congr 1
        rw [List.set_append_right _ _ (by simp)]
        simp
    exact key l [] fuel _ rfl (lt_fuel (by omega))
/-! ### The reference's insertion -/
end
end
end Go.Lift

/- The run of a contact (chapter 27), code and reference; bounds; equal lists; the examples. -/
namespace Go.Lift
open Go.RowKit Go.IntWalk
noncomputable section
set_option linter.unusedVariables false
set_option linter.unusedSimpArgs false
set_option maxRecDepth 10000

abbrev RunS := List Int × List Int × Nat
def runStep (fates : List (List Fate)) (a : Att) (s : RunS) : RunS :=
  (s.1 ++ arrOf a.2.2 (fateOf (fates.getD a.1.toNat []) a.2.1), s.2.1 ++ recOf a.2.2 (fateOf (fates.getD a.1.toNat []) a.2.1), s.2.2 + 1)
def runStop (prev : Option Int) (a : Att) (s : RunS) : Bool := !decide (prev = some a.2.2) && s.2.1.any fun t => decide (t ≤ a.2.2)
def runGo (fates : List (List Fate)) : List Att → Option Int → RunS → RunS
  | [], _, s => s
  | a :: l, prev, s => cond (runStop prev a s) s (runGo fates l (some a.2.2) (runStep fates a s))
def runD (p : Prof) (start : Int) (fates : List (List Fate)) : RunS := runGo fates (planOf p start) none ([], [], 0)

theorem runStep_len (fates : List (List Fate)) (a : Att) (s : RunS) : (runStep fates a s).1.length ≤ s.1.length + 2 ∧ (runStep fates a s).2.1.length ≤ s.2.1.length + 2 := by
  unfold runStep
  have h1 := arrOf_len a.2.2 (fateOf (fates.getD a.1.toNat []) a.2.1)
  have h2 := recOf_len a.2.2 (fateOf (fates.getD a.1.toNat []) a.2.1)
  simp only [List.length_append]
  omega

abbrev lastAt (pre : List Att) : Option Int := pre.getLast?.map fun a => a.2.2

section
variable {β : Type}
theorem d_index2 {l : List Int} (hl : l.length ≤ 1000) (a : Att) (k1 : zqbs β) (k2 : zqbt β) (E : Option β) (hE : ∀ i : Nat, k1 (i : Int) a.1 a.2.1 a.2.2 = E) :
    zqc5 k1 k2 l (l.length : Int) 0 a.1 a.2.1 a.2.2 = cond (l.all fun t => !decide (t ≤ a.2.2)) (k2 a.1 a.2.1 a.2.2) E := by
  refine check_loop (fun m i => zqc3 m k1 k2 l (l.length : Int) i a.1 a.2.1 a.2.2) (fun t => !decide (t ≤ a.2.2)) E (k2 a.1 a.2.1 a.2.2) 0 l fuel (lt_fuel (by omega)) (fun m i hi => ?_) (fun m => ?_)
  · simp only [zqc4, zqbx, Int.toNat_natCast]
    refine (c_pos (by omega)).trans ?_
    refine (c_inb (by omega)).trans ?_
    unfold zq1f zq1c
    rw [i64_in ((i : Int) + 1) (by omega)]
    cases decide (l.getD i 0 ≤ a.2.2) with
    | true => exact hE i
    | false => rfl
  · simp only [zqc4, zqbx]
    rw [c_neg (by omega)]
theorem d_contains2 {l : List Int} (hl : l.length ≤ 1000) (a : Att) (k : Bool → Att → Option β) : zqce l a k = k (l.any fun t => decide (t ≤ a.2.2)) a := by
  unfold zqce zqcb zqc7 zqc0
  refine (d_index2 hl a _ _ (k true a) fun i => ?_).trans ?_
  · show k (decide ((0 : Int) ≤ (i : Int))) a = k true a
    rw [decide_eq_true (by omega)]
  · have : (l.any fun t => decide (t ≤ a.2.2)) = !(l.all fun t => !decide (t ≤ a.2.2)) := by simp [List.any_eq_not_all_not]
    rw [this]
    cases (l.all fun t => !decide (t ≤ a.2.2)) <;> rfl

theorem d_run1 {fates : List (List Fate)} {f : List Fate} (hf : f.length ≤ 9223372036854775807) {sent t18 t19 : Int} {s : RunS} (hs1 : s.1.length ≤ 100) (hs2 : s.2.1.length ≤ 100) (hs : s.2.2 ≤ 100) (l : List Att) (a : Att) (k1 : zqci β) :
    zqd6 k1 fates (s.2.2 : Int) f t18 t19 s.1 s.2.1 l a.1 a.2.1 a.2.2 = k1 fates ((s.2.2 + 1 : Nat) : Int) t18 t19 (s.1 ++ arrOf a.2.2 (fateOf f a.2.1)) (s.2.1 ++ recOf a.2.2 (fateOf f a.2.1)) l := by
  unfold zqd6 zqcv zqcu
  have h1 := arrOf_len a.2.2 (fateOf f a.2.1)
  have h2 := recOf_len a.2.2 (fateOf f a.2.1)
  refine (ch_fates hf _ _).trans ?_
  refine (ch_arrivals _ _ _).trans ?_
  refine (c_room (by omega)).trans ?_
  refine (ch_receipts _ _ _).trans ?_
  refine (c_room (by omega)).trans ?_
  rw [i64_in ((s.2.2 : Int) + 1) (by omega)]
  rfl
theorem getD_len {fates : List (List Fate)} (hf : ∀ f ∈ fates, f.length ≤ 9223372036854775807) (i : Nat) : (fates.getD i []).length ≤ 9223372036854775807 := by
  by_cases h : i < fates.length
  · have : fates.getD i [] = fates[i] := by simp [List.getD, h]
    rw [this]; exact hf _ (List.getElem_mem h)
  · have : fates.getD i [] = [] := by simp [List.getD, h]
    rw [this]; simp
theorem d_run2 {fates : List (List Fate)} (hf : ∀ f ∈ fates, f.length ≤ 9223372036854775807) {t18 t19 : Int} {s : RunS} (hs1 : s.1.length ≤ 100) (hs2 : s.2.1.length ≤ 100) (hs : s.2.2 ≤ 100) (l : List Att) (a : Att) (ha : 0 ≤ a.1) (k1 : zqcm β) :
    zqd8 k1 fates (s.2.2 : Int) t18 t19 s.1 s.2.1 l a.1 a.2.1 a.2.2 = k1 fates ((runStep fates a s).2.2 : Int) t18 t19 (runStep fates a s).1 (runStep fates a s).2.1 l := by
  unfold zqd8 zqcy zqcx
  by_cases h : a.1 < (fates.length : Int)
  · refine (c_pos h).trans ?_
    refine (c_inb (by omega)).trans ?_
    exact d_run1 (sent := 0) (getD_len hf _) hs1 hs2 hs l a _
  · refine (c_neg h).trans ?_
    have : fates.getD a.1.toNat [] = [] := by
      have : ¬ a.1.toNat < fates.length := by omega
      simp [List.getD, this]
    unfold runStep
    rw [this]
    exact d_run1 (sent := 0) (by simp) hs1 hs2 hs l a _

theorem d_run3 {fates : List (List Fate)} (hf : ∀ f ∈ fates, f.length ≤ 9223372036854775807) {l : List Att} (hl : l.length ≤ 24) (hok : ∀ a ∈ l, 0 ≤ a.1) :
    ∀ (r pre : List Att) (m : Nat) (s : RunS) (k1 : zqcq β), l = pre ++ r → r.length < m → s.1.length ≤ 2 * pre.length → s.2.1.length ≤ 2 * pre.length → s.2.2 ≤ pre.length →
      zqda m k1 fates (s.2.2 : Int) (l.length : Int) (pre.length : Int) s.1 s.2.1 l = k1 ((runGo fates r (lastAt pre) s).2.2 : Int) (runGo fates r (lastAt pre) s).1 (runGo fates r (lastAt pre) s).2.1 := by
  intro r
  induction r with
  | nil =>
    intro pre m s k1 hp hm _ _ _
    obtain ⟨m, rfl⟩ : ∃ m', m = m' + 1 := ⟨m - 1, by simp at hm; omega⟩
    rw [List.append_nil] at hp
    subst hp
    simp only [zqdb, zqd0]
    exact c_neg (by omega)
  | cons x r ih =>
    intro pre m s k1 hp hm h1 h2 h3
    obtain ⟨m, rfl⟩ : ∃ m', m = m' + 1 := ⟨m - 1, by simp at hm; omega⟩
    have hlen : l.length = pre.length + (r.length + 1) := by rw [hp]; simp
    have hg : l.getD pre.length ((0 : Int), ((0 : Int), (0 : Int))) = x := by rw [hp]; simp [List.getD]
    have hx0 : 0 ≤ x.1 := hok x (by rw [hp]; simp)
    have hnext : ∀ k1 : zqcq β, zqda m k1 fates ((runStep fates x s).2.2 : Int) (l.length : Int) ((pre.length : Int) + 1) (runStep fates x s).1 (runStep fates x s).2.1 l = k1 ((runGo fates r (some x.2.2) (runStep fates x s)).2.2 : Int) (runGo fates r (some x.2.2) (runStep fates x s)).1 (runGo fates r (some x.2.2) (runStep fates x s)).2.1 := by
      intro k1
      have g := runStep_len fates x s
      have := ih (pre ++ [x]) m (runStep fates x s) k1 (by rw [hp]; simp) (by simp at hm; omega) (by rw [List.length_append, List.length_singleton]; omega) (by rw [List.length_append, List.length_singleton]; omega) (by rw [List.length_append, List.length_singleton]; show s.2.2 + 1 ≤ _; omega)
      have e : lastAt (pre ++ [x]) = some x.2.2 := by simp [lastAt]
      rw [e, List.length_append, List.length_singleton] at this
      exact this
    simp only [zqdb, zqd0, Int.toNat_natCast, hg]
    refine (c_pos (by omega)).trans ?_
    refine (c_inb (by omega)).trans ?_
    have hstep : ∀ (b : Bool), cond b (k1 (s.2.2 : Int) s.1 s.2.1) (zqd8 (fun fates2 sent2 t182 t192 arrivals2 receipts2 l2 => zqda m k1 fates2 sent2 t182 (IntKind.i64.wrap (t192 + (1 : Int))) arrivals2 receipts2 l2) fates (s.2.2 : Int) (l.length : Int) (pre.length : Int) s.1 s.2.1 l x.1 x.2.1 x.2.2) =
        k1 ((cond b s (runGo fates r (some x.2.2) (runStep fates x s))).2.2 : Int) (cond b s (runGo fates r (some x.2.2) (runStep fates x s))).1 (cond b s (runGo fates r (some x.2.2) (runStep fates x s))).2.1 := by
      intro b
      cases b with
      | true => rfl
      | false =>
        refine (d_run2 hf (by omega) (by omega) (by omega) l x hx0 _).trans ?_
        rw [i64_in ((pre.length : Int) + 1) (by omega)]
        exact hnext k1
    rcases List.eq_nil_or_concat pre with rfl | ⟨pre', y, rfl⟩
    · refine (c_pos (by simp)).trans ?_
      refine (d_contains2 (by omega) x _).trans ?_
      refine (hstep _).trans ?_
      rfl
    · rw [List.concat_eq_append] at *
      have hy : l.getD pre'.length ((0 : Int), ((0 : Int), (0 : Int))) = y := by rw [hp]; simp [List.getD]
      have hpl : (pre' ++ [y]).length = pre'.length + 1 := by simp
      refine (c_neg (by omega)).trans ?_
      rw [i64_in (((pre' ++ [y]).length : Int) - 1) (by omega), show (((pre' ++ [y]).length : Int) - 1) = (pre'.length : Int) by omega]
      refine (c_inb (by omega)).trans ?_
      simp only [Int.toNat_natCast, hy]
      have hlast : lastAt (pre' ++ [y]) = some y.2.2 := by simp [lastAt]
      by_cases he : y.2.2 = x.2.2
      · refine (c_npos he).trans ?_
        refine (hstep false).trans ?_
        have : runGo fates (x :: r) (lastAt (pre' ++ [y])) s = runGo fates r (some x.2.2) (runStep fates x s) := by
          rw [runGo, runStop, hlast, he]
          simp
        rw [this]
        rfl
      · refine (c_nneg he).trans ?_
        refine (d_contains2 (by omega) x _).trans ?_
        refine (hstep _).trans ?_
        have : runGo fates (x :: r) (lastAt (pre' ++ [y])) s = cond (s.2.1.any fun t => decide (t ≤ x.2.2)) s (runGo fates r (some x.2.2) (runStep fates x s)) := by
          rw [runGo, runStop, hlast]
          rw [decide_eq_false (show ¬ (some y.2.2 : Option Int) = some x.2.2 by simpa using he)]
          rfl
        rw [this]

theorem runGo_len (fates : List (List Fate)) : ∀ (l : List Att) (prev : Option Int) (s : RunS), (runGo fates l prev s).1.length ≤ s.1.length + 2 * l.length ∧ (runGo fates l prev s).2.1.length ≤ s.2.1.length + 2 * l.length
  | [], prev, s => by simp [runGo]
  | a :: l, prev, s => by
    unfold runGo
    have h1 := runGo_len fates l (some a.2.2) (runStep fates a s)
    have h2 := runStep_len fates a s
    simp only [List.length_cons]
    cases runStop prev a s with
    | true => simp only [cond_true]; omega
    | false => simp only [cond_false]; omega

theorem d_run (p : Prof) (start : Int) {fates : List (List Fate)} (hf : ∀ f ∈ fates, f.length ≤ 9223372036854775807) (k : Int → List Int → List Int → Option β) :
    zqde p start fates k = k ((runD p start fates).2.2 : Int) (sortInts (runD p start fates).1) (sortInts (runD p start fates).2.1) := by
  unfold zqde zqd3
  refine (d_plan _ _ _).trans ?_
  have hl := planOf_len p start
  have g := runGo_len fates (planOf p start) none ([], [], 0)
  refine (d_run3 hf hl (fun a ha => (planOf_ok a ha).1.c1) (planOf p start) [] fuel ([], [], 0) _ rfl (lt_fuel (by omega)) (by simp) (by simp) (by simp)).trans ?_
  simp only [List.length_nil] at g
  refine (c_pos (show _ < 4611686018427387904 by show (runGo fates (planOf p start) none ([], [], 0)).1.length < _; omega)).trans ?_
  exact c_pos (show _ < 4611686018427387904 by show (runGo fates (planOf p start) none ([], [], 0)).2.1.length < _; omega)

/-! ### The reference's run -/
/-! ### Equal lists -/
/-! ### The examples -/
theorem sane27 (k : Bool → Option β) : zqdl k = k true := by
  unfold zqdl zqdi
  refine (d_plan _ _ _).trans ?_
  refine (d_run _ _ (by simp) _).trans ?_
  have e1 : planOf (0, [(0, 9, 2, 60), (0, 9, 2, 90)]) 0 = [(0, 0, 0), (1, 0, 0), (0, 1, 60), (1, 1, 90)] := by decide +kernel
  have e2 : runD (0, [(0, 9, 2, 60), (0, 9, 2, 90)]) 0 [[(false, 30, 0, 0)]] = ([30], [30], 2) := by
    unfold runD
    rw [e1]
    decide +kernel
  have e3 : sortInts [30] = [30] := by simp [sortInts, List.mergeSort]
  rw [e1, e2]
  simp only [e3]
  rfl
end
end
end Go.Lift

/- The dice in plain Lean. -/
namespace Go.Lift
open Go.RowKit Go.IntWalk
noncomputable section
set_option linter.unusedVariables false
set_option linter.unusedSimpArgs false

abbrev Dice := List Int × Int
def DiceOk (d : Dice) : Prop := 0 ≤ d.2 ∧ d.2 ≤ d.1.length ∧ d.1.length ≤ 500

theorem light_eq {β : Type} (l : List Int) (k : Bool → Option β) : zq9 l k = k (decide ((l.length : Int) ≤ 500)) := by
  simp only [zq9, zq6]
theorem roll_eq {β : Type} (l : List Int) (k : Dice → Option β) : zqg l k = k (l, 0) := by
  simp only [zqg, zqd]
theorem roll_ok {l : List Int} (h : (l.length : Int) ≤ 500) : DiceOk (l, 0) := ⟨by simp, by simp, by show l.length ≤ 500; omega⟩

theorem next_ok {n : Int} {d : Dice} (hd : DiceOk d) (hn : 1 ≤ n ∧ n ≤ 4611686018427387904) :
    ∃ x d', 0 ≤ x ∧ x < n ∧ DiceOk d' ∧ ∀ {β : Type} (k : Int → Dice → Option β), zqn n d k = k x d' := by
  obtain ⟨h1, h2, h3⟩ := hd
  by_cases ha : (d.1.length : Int) ≤ d.2
  · exact ⟨0, d, by omega, by omega, ⟨h1, h2, h3⟩, fun k => by simp (disch := omega) only [zqn, zqk, c_pos]⟩
  · generalize hv : List.getD d.1 (Int.toNat d.2) (0 : Int) = v
    have hm1 := Int.tmod_lt_of_pos v (show 0 < n by omega)
    have hm2 : -n < Int.tmod v n := by
      have h5 := Int.tmod_lt_of_pos (-v) (show 0 < n by omega)
      rw [Int.neg_tmod] at h5
      omega
    have hd' : DiceOk (d.1, d.2 + 1) := ⟨by show (0 : Int) ≤ d.2 + 1; omega, by show d.2 + 1 ≤ (d.1.length : Int); omega, h3⟩
    by_cases hc : Int.tmod v n < 0
    · refine ⟨Int.tmod v n + n, (d.1, d.2 + 1), by omega, by omega, hd', fun k => ?_⟩
      simp (disch := omega) only [zqn, zqk, hv, c_pos, c_neg, c_inb, c_nneg, i64_in]
    · refine ⟨Int.tmod v n, (d.1, d.2 + 1), by omega, by omega, hd', fun k => ?_⟩
      simp (disch := omega) only [zqn, zqk, hv, c_pos, c_neg, c_inb, c_nneg, i64_in]

end
end Go.Lift

/- The dice in plain Lean: one of several numbers. -/
namespace Go.Lift
open Go.RowKit Go.IntWalk
noncomputable section
set_option linter.unusedVariables false
set_option linter.unusedSimpArgs false

theorem one_ok {l : List Int} {d : Dice} (hl : 0 < l.length) (hlen : l.length ≤ 1000000) (hd : DiceOk d) :
    ∃ x d', x ∈ l ∧ DiceOk d' ∧ ∀ {β : Type} (k : Int → Dice → Option β), zqu l d k = k x d' := by
  obtain ⟨x, d', h1, h2, hd', hf⟩ := next_ok (n := (l.length : Int)) hd (by omega)
  have hxn : x.toNat < l.length := by omega
  refine ⟨l.getD x.toNat 0, d', ?_, hd', fun k => ?_⟩
  · simp [List.getD, hxn]
  · simp (disch := omega) only [zqu, zqr, hf, c_inb]
end
end Go.Lift

/- Drawn persons, fates and contacts (chapter 27). -/
namespace Go.Lift
open Go.RowKit Go.IntWalk
noncomputable section
set_option linter.unusedVariables false
set_option linter.unusedSimpArgs false
set_option maxRecDepth 10000

theorem channel_ok {d : Dice} (hd : DiceOk d) : ∃ c d', chanV c = true ∧ DiceOk d' ∧ ∀ {β : Type} (k : Chan → Dice → Option β), zq11 d k = k c d' := by
  obtain ⟨x1, d1, a1, a2, hd1, f1⟩ := next_ok (n := 3) hd (by omega)
  obtain ⟨x2, d2, m2, hd2, f2⟩ := one_ok (l := [(0 : Int), 30, 60, 3600]) (by simp) (by simp) hd1
  obtain ⟨x3, d3, b1, b2, hd3, f3⟩ := next_ok (n := 4) hd2 (by omega)
  obtain ⟨x4, d4, m4, hd4, f4⟩ := one_ok (l := [(1 : Int), 30, 60, 120]) (by simp) (by simp) hd3
  simp only [List.mem_cons, List.not_mem_nil, or_false] at m2 m4
  refine ⟨(x1, x2, 1 + x3, x4), d4, ?_, hd4, fun k => ?_⟩
  · unfold chanV
    simp only [Bool.and_eq_true, inB_iff]
    omega
  · unfold zq11 zqy
    refine (f1 _).trans ?_
    refine (f2 _).trans ?_
    refine (f3 _).trans ?_
    refine (f4 _).trans ?_
    rw [i64_in (1 + x3) (by omega)]

theorem person_ok {who : Int} (hw : 0 ≤ who ∧ who ≤ 31) {d : Dice} (hd : DiceOk d) :
    ∃ p d', profV p = true ∧ p.1 = who ∧ p.2.length ≤ 3 ∧ DiceOk d' ∧ ∀ {β : Type} (k : Prof → Dice → Option β), zq37 who d k = k p d' := by
  obtain ⟨x1, d1, a1, a2, hd1, f1⟩ := next_ok (n := 4) hd (by omega)
  have key : ∀ (n : Nat) (m : Nat) (d : Dice) (l : List Chan), n < m → n ≤ 3 → l.length + n ≤ 3 → (∀ c ∈ l, chanV c = true) → DiceOk d → ∃ l' d', l'.length ≤ 3 ∧ (∀ c ∈ l', chanV c = true) ∧ DiceOk d' ∧
      ∀ {β : Type} (k1 : zq2t β), zq33 m k1 (n : Int) d.1 d.2 0 who [] l = k1 d'.1 d'.2 0 who [] l' := by
    intro n
    induction n with
    | zero =>
      intro m d l hm hn hl hv hd
      obtain ⟨m, rfl⟩ : ∃ m', m = m' + 1 := ⟨m - 1, by omega⟩
      refine ⟨l, d, by omega, hv, hd, fun k1 => ?_⟩
      simp only [zq34, zq2x]
      exact c_neg (by omega)
    | succ n ih =>
      intro m d l hm hn hl hv hd
      obtain ⟨m, rfl⟩ : ∃ m', m = m' + 1 := ⟨m - 1, by omega⟩
      obtain ⟨c, d1, hc, hd1, fc⟩ := channel_ok hd
      obtain ⟨l', d', h1, h2, h3, h4⟩ := ih m d1 (l ++ [c]) (by omega) (by omega) (by simp; omega) (fun x hx => by
        rcases List.mem_append.1 hx with hx | hx
        · exact hv x hx
        · rw [List.mem_singleton.1 hx]; exact hc) hd1
      refine ⟨l', d', h1, h2, h3, fun k1 => ?_⟩
      simp only [zq34, zq2x]
      refine (c_pos (by omega)).trans ?_
      refine (fc _).trans ?_
      refine (c_room (by simp only [List.length_cons, List.length_nil]; omega)).trans ?_
      rw [show IntKind.i64.wrap (((n + 1 : Nat) : Int) - 1) = (n : Int) by rw [i64_in _ (by omega)]; omega]
      exact h4 k1
  obtain ⟨l', d', h1, h2, h3, h4⟩ := key x1.toNat fuel d1 [] (lt_fuel (by omega)) (by omega) (by simp; omega) (by simp) hd1
  refine ⟨(who, l'), d', ?_, rfl, h1, h3, fun k => ?_⟩
  · unfold profV
    simp only [Bool.and_eq_true, inB_iff, decide_eq_true_eq, List.all_eq_true]
    exact ⟨hw, by omega, h2⟩
  · unfold zq37 zq30
    refine (f1 _).trans ?_
    rw [show ((x1.toNat : Nat) : Int) = x1 by omega] at h4
    exact h4 _

/-! ### Contacts -/
/-- A contact that stands, and what was sent was due. -/
structure CI (p : Prof) (c : Cont) (now : Int) : Prop where
  ck : checkD p c = true
  due : ∀ i : Nat, (i : Int) < c.2.2.2.2.1 → ((planOf p c.2.2.2.1).getD i at0).2.2 ≤ now

theorem CI.later {p : Prof} {c : Cont} {now now' : Int} (h : CI p c now) (hle : now ≤ now') : CI p c now' := ⟨h.ck, fun i hi => by have := h.due i hi; omega⟩

theorem sentD_check {p : Prof} {c : Cont} (h : checkD p c = true) (now : Int) : checkD p (sentD p c now) = true := by
  obtain ⟨a1, a2, a3, ⟨a4, a5⟩, a6⟩ := checkD_iff.1 h
  have hlen : (dueD p c now).length ≤ (planOf p c.2.2.2.1).length - c.2.2.2.2.1.toNat := by
    unfold dueD
    cases decide (c.2.2.2.2.2 = -1) with
    | false => simp
    | true =>
      have := (List.takeWhile_sublist (l := (planOf p c.2.2.2.1).drop c.2.2.2.2.1.toNat) fun a => decide (a.2.2 ≤ now)).length_le
      rw [List.length_drop] at this
      exact this
  refine checkD_iff.2 ⟨a1, a2, a3, ⟨by show 0 ≤ c.2.2.2.2.1 + _; omega, by show c.2.2.2.2.1 + ((dueD p c now).length : Int) ≤ ((planOf p c.2.2.2.1).length : Int); omega⟩, ?_⟩
  rcases a6 with a6 | ⟨a6, a7⟩
  · exact .inl a6
  · exact .inr ⟨by show c.2.2.2.2.1 + _ ≠ 0; omega, a7⟩

theorem getD_takeWhile {l : List Att} {q : Att → Bool} {i : Nat} (hi : i < (l.takeWhile q).length) : q (l.getD i at0) = true := by
  have h1 : (l.takeWhile q)[i]? = l[i]? := by
    have h2 := List.takeWhile_append_dropWhile (p := q) (l := l)
    have h3 : l[i]? = (l.takeWhile q ++ l.dropWhile q)[i]? := by rw [h2]
    rw [h3, List.getElem?_append_left hi]
  have h2 : l.getD i at0 = (l.takeWhile q)[i] := by
    rw [List.getD, ← h1, List.getElem?_eq_getElem hi]; rfl
  rw [h2]
  exact List.all_eq_true.1 (List.all_takeWhile (p := q) (l := l)) _ (List.getElem_mem hi)

theorem CI.send {p : Prof} {c : Cont} {now : Int} (h : CI p c now) : CI p (sentD p c now) now := by
  refine ⟨sentD_check h.ck now, fun i hi => ?_⟩
  have q := checkD_ok h.ck
  have q1 := q.s1
  have hi : (i : Int) < c.2.2.2.2.1 + ((dueD p c now).length : Int) := hi
  show ((planOf p c.2.2.2.1).getD i at0).2.2 ≤ now
  by_cases h1 : (i : Int) < c.2.2.2.2.1
  · exact h.due i h1
  · unfold dueD at hi
    cases h2 : decide (c.2.2.2.2.2 = -1) with
    | false => rw [h2] at hi; simp at hi; omega
    | true =>
      rw [h2] at hi
      simp only [cond_true] at hi
      obtain ⟨j, rfl⟩ : ∃ j, i = c.2.2.2.2.1.toNat + j := ⟨i - c.2.2.2.2.1.toNat, by omega⟩
      have hj : j < (((planOf p c.2.2.2.1).drop c.2.2.2.2.1.toNat).takeWhile fun a => decide (a.2.2 ≤ now)).length := by omega
      have := getD_takeWhile hj
      have e : ((planOf p c.2.2.2.1).drop c.2.2.2.2.1.toNat).getD j at0 = (planOf p c.2.2.2.1).getD (c.2.2.2.2.1.toNat + j) at0 := by
        simp [List.getD, List.getElem?_drop]
      rw [e] at this
      exact of_decide_eq_true this

theorem recv_ok {p : Prof} {c : Cont} {a t : Int} (h : checkD p c = true) (h0 : (recvD p c a t).2 = 0) :
    ∃ r, (recvD p c a t).1 = (c.1, c.2.1, c.2.2.1, c.2.2.2.1, c.2.2.2.2.1, r) ∧ checkD p (c.1, c.2.1, c.2.2.1, c.2.2.2.1, c.2.2.2.2.1, r) = true := by
  unfold recvD at h0 ⊢
  rw [h] at h0 ⊢
  simp only [cond_true] at h0 ⊢
  cases h1 : inB a 0 (c.2.2.2.2.1 - 1) with
  | false => rw [h1] at h0; simp at h0
  | true =>
    rw [h1] at h0
    simp only [cond_true] at h0 ⊢
    cases h2 : inB t ((planOf p c.2.2.2.1).getD a.toNat at0).2.2 8590193792 with
    | false => rw [h2] at h0; simp at h0
    | true =>
      simp only [cond_true]
      have g1 := inB_iff.1 h1
      have g2 := inB_iff.1 h2
      obtain ⟨a1, a2, a3, ⟨a4, a5⟩, a6⟩ := checkD_iff.1 h
      have hlt : a.toNat < (planOf p c.2.2.2.1).length := by omega
      have e : (planOf p c.2.2.2.1).getD a.toNat at0 = (planOf p c.2.2.2.1)[a.toNat] := by simp [List.getD, hlt]
      have hst := (planOf_ok _ (List.getElem_mem hlt)).1.s1
      rw [← e] at hst
      cases hb : (decide (c.2.2.2.2.2 = -1) || decide (t < c.2.2.2.2.2)) with
      | true => exact ⟨t, rfl, checkD_iff.2 ⟨a1, a2, a3, ⟨a4, a5⟩, .inr ⟨by show c.2.2.2.2.1 ≠ 0; omega, by show c.2.2.2.1 ≤ t; omega⟩⟩⟩
      | false => exact ⟨c.2.2.2.2.2, rfl, h⟩

theorem CI.recv {p : Prof} {c : Cont} {now a t : Int} (h : CI p c now) (h0 : (recvD p c a t).2 = 0) : CI p (recvD p c a t).1 now := by
  obtain ⟨r, h1, h2⟩ := recv_ok h.ck h0
  rw [h1]
  exact ⟨h2, h.due⟩

theorem newD_check {p : Prof} (hp : profV p = true) {page step start : Int} (h1 : 1 ≤ page) (h2 : -1 ≤ step) (h3 : 0 ≤ start ∧ start ≤ 8589934592) :
    newD page step p.1 start = ((page, step, p.1, start, 0, -1), 0) ∧ CI p (page, step, p.1, start, 0, -1) start := by
  have q := (profV_ok hp).who
  have hr : rightV page step p.1 start = true := by
    unfold rightV
    simp only [Bool.and_eq_true, decide_eq_true_eq, inB_iff]
    exact ⟨h1, h2, q, h3⟩
  refine ⟨by unfold newD; rw [hr]; rfl, checkD_iff.2 ⟨hp, hr, rfl, ⟨Int.le_refl _, by show (0 : Int) ≤ (planOf p start).length; omega⟩, .inl rfl⟩, fun i hi => ?_⟩
  have : (i : Int) < 0 := hi
  omega

theorem contact1 {p : Prof} {c : Cont} {now : Int} (h : CI p c now) {d : Dice} (hd : DiceOk d) (i_ : Int) (a1 a2 a3 a4 a5 a6 : Int) :
    ∃ c' d', CI p c' now ∧ DiceOk d' ∧ ∀ {β : Type} (k1 : zq8f β), zq8w k1 now i_ d.1 d.2 p.1 p.2 a1 a2 a3 a4 a5 a6 c.1 c.2.1 c.2.2.1 c.2.2.2.1 c.2.2.2.2.1 c.2.2.2.2.2 =
      k1 now i_ d'.1 d'.2 p.1 p.2 a1 a2 a3 a4 a5 a6 c'.1 c'.2.1 c'.2.2.1 c'.2.2.2.1 c'.2.2.2.2.1 c'.2.2.2.2.2 := by
  obtain ⟨x1, d1, _, _, hd1, f1⟩ := next_ok (n := 3) hd (by omega)
  by_cases hx : x1 = 0
  · obtain ⟨x2, d2, _, _, hd2, f2⟩ := next_ok (n := 5) hd1 (by omega)
    by_cases he : (recvD p c x2 now).2 = 0
    · refine ⟨_, d2, h.recv he, hd2, fun k1 => ?_⟩
      unfold zq8w zq8o zq8n
      refine (f1 _).trans ?_
      refine (c_pos hx).trans ?_
      refine (f2 _).trans ?_
      refine (r_receipt p c x2 now _).trans ?_
      exact c_pos he
    · refine ⟨c, d2, h, hd2, fun k1 => ?_⟩
      unfold zq8w zq8o zq8n
      refine (f1 _).trans ?_
      refine (c_pos hx).trans ?_
      refine (f2 _).trans ?_
      refine (r_receipt p c x2 now _).trans ?_
      exact c_neg he
  · refine ⟨c, d1, h, hd1, fun k1 => ?_⟩
    unfold zq8w zq8o zq8n
    refine (f1 _).trans ?_
    exact c_neg hx

theorem contact_ok {p : Prof} (hp : profV p = true) {d : Dice} (hd : DiceOk d) :
    ∃ c now d', CI p c now ∧ (864000 ≤ now ∧ now ≤ 865000) ∧ DiceOk d' ∧ ∀ {β : Type} (k : Cont → Int → Dice → Option β), zq92 p d k = k c now d' := by
  obtain ⟨x1, d1, a1, a2, hd1, f1⟩ := next_ok (n := 100) hd (by omega)
  obtain ⟨x2, d2, b1, b2, hd2, f2⟩ := next_ok (n := 3) hd1 (by omega)
  obtain ⟨x3, d3, c1, c2, hd3, f3⟩ := next_ok (n := 4) hd2 (by omega)
  obtain ⟨x4, d4, e1, e2, hd4, f4⟩ := next_ok (n := 5) hd3 (by omega)
  obtain ⟨hn1, hn2⟩ := newD_check hp (page := 1 + x2) (step := x3 - 1) (start := 864000 + x1) (by omega) (by omega) (by omega)
  have key : ∀ (n : Nat) (m : Nat) (d : Dice) (c : Cont) (now : Int), n < m → n ≤ 4 → CI p c now → 864000 ≤ now → now ≤ 864100 + 60 * (4 - (n : Int)) → DiceOk d → ∃ c' now' d', CI p c' now' ∧ (864000 ≤ now' ∧ now' ≤ 865000) ∧ DiceOk d' ∧
      ∀ {β : Type} (k1 : zq8j β), zq8y m k1 now (n : Int) d.1 d.2 p.1 p.2 0 0 0 0 0 0 c.1 c.2.1 c.2.2.1 c.2.2.2.1 c.2.2.2.2.1 c.2.2.2.2.2 = k1 now' d'.1 d'.2 0 0 0 0 0 0 c'.1 c'.2.1 c'.2.2.1 c'.2.2.2.1 c'.2.2.2.2.1 c'.2.2.2.2.2 := by
    intro n
    induction n with
    | zero =>
      intro m d c now hm hn hc h1 h2 hd
      obtain ⟨m, rfl⟩ : ∃ m', m = m' + 1 := ⟨m - 1, by omega⟩
      refine ⟨c, now, d, hc, by omega, hd, fun k1 => ?_⟩
      simp only [zq8z, zq8q]
      exact c_neg (by omega)
    | succ n ih =>
      intro m d c now hm hn hc h1 h2 hd
      obtain ⟨m, rfl⟩ : ∃ m', m = m' + 1 := ⟨m - 1, by omega⟩
      obtain ⟨y, d1, my, hd1, fy⟩ := one_ok (l := [(0 : Int), 1, 30, 60]) (by simp) (by simp) hd
      simp only [List.mem_cons, List.not_mem_nil, or_false] at my
      have hc2 := (hc.later (now' := now + y) (by omega)).send
      obtain ⟨c', d2, hc', hd2, f2⟩ := contact1 hc2 hd1 ((n + 1 : Nat) : Int) 0 0 0 0 0 0
      obtain ⟨c'', now', d', g1, g2, g3, g4⟩ := ih m d2 c' (now + y) (by omega) (by omega) hc' (by omega) (by omega) hd2
      refine ⟨c'', now', d', g1, g2, g3, fun k1 => ?_⟩
      simp only [zq8z, zq8q]
      refine (c_pos (by omega)).trans ?_
      refine (fy _).trans ?_
      rw [i64_in (now + y) (by omega)]
      refine (r_send p c (now + y) _).trans ?_
      refine (c_tt' hc.ck).trans ?_
      refine (c_pos rfl).trans ?_
      refine (f2 _).trans ?_
      rw [show IntKind.i64.wrap (((n + 1 : Nat) : Int) - 1) = (n : Int) by rw [i64_in _ (by omega)]; omega]
      exact g4 k1
  obtain ⟨c', now', d', g1, g2, g3, g4⟩ := key x4.toNat fuel d4 _ (864000 + x1) (lt_fuel (by omega)) (by omega) hn2 (by omega) (by omega) hd4
  refine ⟨c', now', d', g1, g2, g3, fun k => ?_⟩
  unfold zq92 zq8t
  refine (f1 _).trans ?_
  rw [i64_in (864000 + x1) (by omega)]
  refine (f2 _).trans ?_
  refine (f3 _).trans ?_
  rw [i64_in (1 + x2) (by omega), i64_in (x3 - 1) (by omega)]
  refine (r_new _ _ _ _ _).trans ?_
  rw [hn1]
  refine (f4 _).trans ?_
  rw [show ((x4.toNat : Nat) : Int) = x4 by omega] at g4
  exact g4 _
end
end Go.Lift

/- DeliverySends: sending at two instants is sending at the later one. -/
namespace Go.Lift
open Go.RowKit Go.IntWalk
noncomputable section
set_option linter.unusedVariables false
set_option linter.unusedSimpArgs false
set_option maxRecDepth 10000

theorem eq6_true {x y : Cont} (h : x = y) : (decide (x.1 = y.1) && (decide (x.2.1 = y.2.1) && (decide (x.2.2.1 = y.2.2.1) && (decide (x.2.2.2.1 = y.2.2.2.1) && (decide (x.2.2.2.2.1 = y.2.2.2.2.1) && (decide (x.2.2.2.2.2 = y.2.2.2.2.2) && true)))))) = true := by subst h; simp

end
end Go.Lift

/- DeliveryOnce: a receipt counts once. -/
namespace Go.Lift
open Go.RowKit Go.IntWalk
noncomputable section
set_option linter.unusedVariables false
set_option linter.unusedSimpArgs false
set_option maxRecDepth 10000

def leastR (r t : Int) : Int := if r = -1 ∨ t < r then t else r
abbrev withR (c : Cont) (r : Int) : Cont := (c.1, c.2.1, c.2.2.1, c.2.2.2.1, c.2.2.2.2.1, r)

theorem recv_due {p : Prof} {c : Cont} {now a t : Int} (h : CI p c now) (ha : 0 ≤ a ∧ a < c.2.2.2.2.1) (ht : now ≤ t ∧ t ≤ 8590193792) :
    recvD p c a t = (withR c (leastR c.2.2.2.2.2 t), 0) := by
  unfold recvD
  rw [h.ck, inB_iff.2 (show 0 ≤ a ∧ a ≤ c.2.2.2.2.1 - 1 by omega)]
  have := h.due a.toNat (by omega)
  rw [inB_iff.2 (show ((planOf p c.2.2.2.1).getD a.toNat at0).2.2 ≤ t ∧ t ≤ 8590193792 by omega)]
  simp only [cond_true]
  unfold leastR
  by_cases h1 : c.2.2.2.2.2 = -1
  · rw [decide_eq_true h1, if_pos (.inl h1)]; rfl
  · rw [decide_eq_false h1]
    by_cases h2 : t < c.2.2.2.2.2
    · rw [decide_eq_true h2, if_pos (.inr h2)]; rfl
    · rw [decide_eq_false h2, if_neg (by omega)]; rfl

theorem leastR_twice (r t : Int) : leastR (leastR r t) t = leastR r t := by
  unfold leastR
  by_cases h : r = -1 ∨ t < r
  · rw [if_pos h]
    split <;> rfl
  · rw [if_neg h, if_neg h]

theorem once_loop {β : Type} {p : Prof} {now : Int} (hnow : 864000 ≤ now ∧ now ≤ 865000) (k1 : zqdp β) (k2 : zqdq β) (R : Option β)
    (hk : ∀ c : Cont, CI p c now → c.2.2.2.2.2 ≠ -1 → k2 now p.1 p.2 c.1 c.2.1 c.2.2.1 c.2.2.2.1 c.2.2.2.2.1 c.2.2.2.2.2 = R) :
    ∀ (j i : Nat) (m : Nat) (c : Cont) (d : Dice), i + j = 4 → j < m → CI p c now → c.2.2.2.2.1 ≠ 0 → (i ≠ 0 → c.2.2.2.2.2 ≠ -1) → DiceOk d →
      zqe0 m k1 k2 now c.2.2.2.2.2 (i : Int) d.1 d.2 p.1 p.2 c.1 c.2.1 c.2.2.1 c.2.2.2.1 c.2.2.2.2.1 c.2.2.2.2.2 = R := by
  intro j
  induction j with
  | zero =>
    intro i m c d hi hm hc h0 hr hd
    obtain ⟨m, rfl⟩ : ∃ m', m = m' + 1 := ⟨m - 1, by omega⟩
    simp only [zqe1, zqdu]
    refine (c_neg (by omega)).trans ?_
    exact hk c hc (hr (by omega))
  | succ j ih =>
    intro i m c d hi hm hc h0 hr hd
    obtain ⟨m, rfl⟩ : ∃ m', m = m' + 1 := ⟨m - 1, by omega⟩
    have q := checkD_ok hc.ck
    have q1 := q.s1; have q3 := q.s3; have q4 := q.reach; have q5 := q.st
    obtain ⟨a, d1, a1, a2, hd1, f1⟩ := next_ok (n := c.2.2.2.2.1) hd (by omega)
    obtain ⟨t, d2, t1, t2, hd2, f2⟩ := next_ok (n := 90) hd1 (by omega)
    have e1 := recv_due hc (a := a) (t := now + t) (by omega) (by omega)
    have hc1 : CI p (withR c (leastR c.2.2.2.2.2 (now + t))) now := by
      have := hc.recv (a := a) (t := now + t) (by rw [e1])
      rw [e1] at this
      exact this
    have e2 : recvD p (withR c (leastR c.2.2.2.2.2 (now + t))) a (now + t) = (withR c (leastR c.2.2.2.2.2 (now + t)), 0) := by
      rw [recv_due hc1 (a := a) (t := now + t) (by show 0 ≤ a ∧ a < c.2.2.2.2.1; omega) (by omega)]
      show (withR c (leastR (leastR c.2.2.2.2.2 (now + t)) (now + t)), (0 : Int)) = _
      rw [leastR_twice]
    have hne : leastR c.2.2.2.2.2 (now + t) ≠ -1 := by
      unfold leastR
      split <;> omega
    have hnext := ih (i + 1) m (withR c (leastR c.2.2.2.2.2 (now + t))) d2 (by omega) (by omega) hc1 h0 (fun _ => hne) hd2
    simp only [zqe1, zqdu]
    refine (c_pos (by omega)).trans ?_
    refine (f1 _).trans ?_
    refine (f2 _).trans ?_
    rw [i64_in (now + t) (by omega)]
    refine (d_receipt p c a (now + t) _).trans ?_
    rw [e1]
    refine (d_receipt p _ a (now + t) _).trans ?_
    rw [e2]
    refine (c_npos rfl).trans ?_
    refine (c_npos rfl).trans ?_
    refine (c_ff' (by rw [eq6_true rfl]; rfl)).trans ?_
    rw [i64_in ((i : Int) + 1) (by omega)]
    by_cases g1 : c.2.2.2.2.2 = -1
    · refine (c_pos g1).trans ?_
      have e : leastR c.2.2.2.2.2 (now + t) = now + t := by unfold leastR; rw [if_pos (.inl g1)]
      rw [e] at hnext ⊢
      refine (c_npos rfl).trans ?_
      exact hnext
    · refine (c_neg g1).trans ?_
      by_cases g2 : now + t < c.2.2.2.2.2
      · refine (c_pos g2).trans ?_
        have e : leastR c.2.2.2.2.2 (now + t) = now + t := by unfold leastR; rw [if_pos (.inr g2)]
        rw [e] at hnext ⊢
        refine (c_npos rfl).trans ?_
        exact hnext
      · refine (c_neg g2).trans ?_
        have e : leastR c.2.2.2.2.2 (now + t) = c.2.2.2.2.2 := by unfold leastR; rw [if_neg (by omega)]
        rw [e] at hnext ⊢
        refine (c_npos rfl).trans ?_
        exact hnext

theorem deliveryOnce {β : Type} (t : List Int) (k : Bool → Option β) : zqe4 t k = k true := by
  unfold zqe4 zqdx
  refine (light_eq t _).trans ?_
  by_cases hl : (t.length : Int) ≤ 500
  · rw [decide_eq_true hl]
    refine (c_ff' rfl).trans ?_
    obtain ⟨x1, d1, a1, a2, hd1, f1⟩ := next_ok (n := 4) (roll_ok hl) (by omega)
    obtain ⟨p, d2, hp, hp1, hp2, hd2, f2⟩ := person_ok (who := x1) (by omega) hd1
    obtain ⟨c, now, d3, hc, hnow, hd3, f3⟩ := contact_ok hp hd2
    refine (roll_eq t _).trans ?_
    refine (f1 _).trans ?_
    refine (f2 _).trans ?_
    refine (f3 _).trans ?_
    by_cases h0 : c.2.2.2.2.1 = 0
    · refine (c_pos h0).trans ?_
      exact sane27 _
    · refine (c_neg h0).trans ?_
      refine once_loop (p := p) hnow _ _ (k true) (fun c hc hr => ?_) 4 0 fuel c d3 rfl (lt_fuel (by omega)) hc h0 (fun h => absurd rfl h) hd3
      have hck := hc.ck
      refine (d_send p c _ _).trans ?_
      refine (c_tt' hck).trans ?_
      refine (d_next p c _).trans ?_
      have e1 : ∀ n, dueD p c n = [] := by intro n; unfold dueD; rw [decide_eq_false hr]; rfl
      have e2 : ∀ n, sentD p c n = c := by intro n; unfold sentD; rw [e1]; simp
      have e3 : nextD p c = (0, false) := by unfold nextD; rw [decide_eq_false hr]; simp
      rw [e1, e2, e3]
      refine (c_pos rfl).trans ?_
      refine (c_tt' (eq6_true rfl)).trans ?_
      refine (c_pos rfl).trans ?_
      refine (c_tt' rfl).trans ?_
      exact sane27 _
  · rw [decide_eq_false hl]
    refine (c_tt' rfl).trans ?_
    exact sane27 _
end
end Go.Lift

