/- Part8: Fn0, LBase, LDelMath, LDelivery, LDelFn, LDelRun, LDelRun2, LDice, LDice1, LDelMade, LDelPlans. -/
import Derived.Test.YtagpoimmbikajaaProg
import Derived.Test.YtagpoimmbikajaaPart7
namespace Go.Lift
open Go.Proofs
noncomputable section
set_option maxRecDepth 100000
set_option linter.unusedVariables false

abbrev zq0 := (Bool × (Int × (Int × Int)))
abbrev zq1 : Ty := (.prod .bool (.prod (.int .i64) (.prod (.int .i64) (.int .i64))))
abbrev zq2 := (Int × (Int × (Int × (Int × (Int × Int)))))
abbrev zq3 : Ty := (.prod (.int .i64) (.prod (.int .i64) (.prod (.int .i64) (.prod (.int .i64) (.prod (.int .i64) (.int .i64))))))

def tab : List (Nat × TI) := [
  (3, ⟨false, 1, 8, [.int .i64 (0 : Int)], [], none, none, (some (.int .i64)), (some .i64), false, false, none, none⟩),
  (4, ⟨false, 1, 1, [.bool false], [], none, none, (some .bool), none, true, false, none, none⟩),
  (22, ⟨false, 1, 24, [.nils], [], (some 3), none, (some (.slice (.int .i64))), none, false, false, none, none⟩),
  (23, ⟨false, 1, 4, [.int .u32 (0 : Int)], [], none, none, (some (.int .u32)), (some .u32), false, false, none, none⟩),
  (24, ⟨false, 1, 2, [.int .u16 (0 : Int)], [], none, none, (some (.int .u16)), (some .u16), false, false, none, none⟩),
  (27, ⟨false, 1, 24, [.nils], [], (some 36), none, (some (.slice (.prod (.int .i64) (.prod (.int .i64) (.prod (.int .i64) (.int .i64)))))), none, false, false, none, none⟩),
  (29, ⟨true, 2, 32, [.int .i64 (0 : Int), .nils], [(0, 1, false), (1, 1, false)], none, none, (some (.prod (.int .i64) (.slice (.prod (.int .i64) (.prod (.int .i64) (.prod (.int .i64) (.int .i64))))))), none, false, false, none, none⟩),
  (33, ⟨false, 1, 24, [.nils], [], (some 39), none, (some (.slice (.prod (.int .i64) (.prod (.int .i64) (.int .i64))))), none, false, false, none, none⟩),
  (36, ⟨true, 4, 32, [.int .i64 (0 : Int), .int .i64 (0 : Int), .int .i64 (0 : Int), .int .i64 (0 : Int)], [(0, 1, false), (1, 1, false), (2, 1, false), (3, 1, false)], none, none, (some (.prod (.int .i64) (.prod (.int .i64) (.prod (.int .i64) (.int .i64))))), none, false, false, (some [.i, .i, .i, .i]), none⟩),
  (37, ⟨false, 1, 8, [.junk], [], none, none, none, none, false, false, none, (some (40, 4))⟩),
  (39, ⟨true, 3, 24, [.int .i64 (0 : Int), .int .i64 (0 : Int), .int .i64 (0 : Int)], [(0, 1, false), (1, 1, false), (2, 1, false)], none, none, (some (.prod (.int .i64) (.prod (.int .i64) (.int .i64)))), none, false, false, (some [.i, .i, .i]), none⟩),
  (40, ⟨true, 2, 16, [.int .i64 (0 : Int), .int .i64 (0 : Int)], [], (some 3), (some 2), (some (.prod (.int .i64) (.int .i64))), none, false, false, (some [.i, .i]), none⟩),
  (42, ⟨false, 1, 24, [.nils], [], (some 44), none, (some (.slice (.slice zq1))), none, false, false, none, none⟩),
  (44, ⟨false, 1, 24, [.nils], [], (some 75), none, (some (.slice zq1)), none, false, false, none, none⟩),
  (75, ⟨true, 4, 32, [.bool false, .int .i64 (0 : Int), .int .i64 (0 : Int), .int .i64 (0 : Int)], [(0, 1, false), (1, 1, false), (2, 1, false), (3, 1, false)], none, none, (some zq1), none, false, false, (some [.b, .i, .i, .i]), none⟩),
  (77, ⟨true, 2, 32, [.nils, .int .i64 (0 : Int)], [(0, 1, false), (1, 1, false)], none, none, (some (.prod (.slice (.int .i64)) (.int .i64))), none, false, false, none, none⟩)]

theorem tab_ok : TOk Try.prog (look tab) := TOk_of (by kernel_rfl)
theorem mixed : Try.prog.follows .mixedOrders = true := by kernel_rfl

/-- pagewatch/pagewatchmade.Light -/
abbrev zq4 := {β : Type} → (List Int) → (Bool → Option β) → Option β
def zq5 (c : zq4) : Spec :=
  ⟨[(false, [.data (.slice (.int .i64))])], [], [(false, [.data .bool])], [], fun x k => c x.1.1.1 (fun r0 => k (((r0, ()), ()), ()))⟩
section
@[reducible] def made_Light_X : Ctx := ⟨look tab, pick1 [], false, false, false, false⟩
def zq6 {β : Type} (l : List Int) (k : (Bool → Option β)) : Option β :=
  let t : Bool := (decide ((List.length l : Int) ≤ (500 : Int)));
  k t
theorem zq7 (hΓ : ΓOk Try.prog made_Light_X.Γ) : SpecOk Try.prog 9 (zq5 (zq6)) :=
  spec_exec (X := made_Light_X) (Λ := pick1 []) (rs := [.tmp 2]) (c := bodyOf Try.f9) mixed tab_ok hΓ Try.func9 (by kernel_rfl) (by kernel_rfl) (by kernel_rfl) (by kernel_rfl) CutsOk_nil (fun x k r h => Eq.trans (b := (zq5 (zq6)).run x k) (by kernel_rfl) h)
end
theorem zq8Γ : ΓOk Try.prog (pick1 []) := ΓOk_nil
def zq9 : zq4 := zq6
theorem zqa : SpecOk Try.prog 9 (zq5 zq9) := zq7 zq8Γ

/-- pagewatch/pagewatchmade.Roll -/
abbrev zqb := {β : Type} → (List Int) → ((List Int × Int) → Option β) → Option β
def zqc (c : zqb) : Spec :=
  ⟨[(false, [.data (.slice (.int .i64))])], [], [(false, [.ptr 0 0])], [.cells 77 [.data (.prod (.slice (.int .i64)) (.int .i64))]], fun x k => c x.1.1.1 (fun r0 => k (((), ()), ((r0, ()), ())))⟩
section
@[reducible] def made_Roll_X : Ctx := ⟨look tab, pick1 [], false, false, false, false⟩
def zqd {β : Type} (l : List Int) (k : ((List Int × Int) → Option β)) : Option β :=
  k (l, (0 : Int))
theorem zqe (hΓ : ΓOk Try.prog made_Roll_X.Γ) : SpecOk Try.prog 11 (zqc (zqd)) :=
  spec_exec (X := made_Roll_X) (Λ := pick1 []) (rs := [.tmp 2]) (c := bodyOf Try.f11) mixed tab_ok hΓ Try.func11 (by kernel_rfl) (by kernel_rfl) (by kernel_rfl) (by kernel_rfl) CutsOk_nil (fun x k r h => Eq.trans (b := (zqc (zqd)).run x k) (by kernel_rfl) h)
end
theorem zqfΓ : ΓOk Try.prog (pick1 []) := ΓOk_nil
def zqg : zqb := zqd
theorem zqh : SpecOk Try.prog 11 (zqc zqg) := zqe zqfΓ

/-- (*pagewatch/pagewatchmade.Dice).Next -/
abbrev zqi := {β : Type} → Int → (List Int × Int) → (Int → (List Int × Int) → Option β) → Option β
def zqj (c : zqi) : Spec :=
  ⟨[(false, [.ptr 0 0]), (false, [.data (.int .i64)])], [.cells 77 [.data (.prod (.slice (.int .i64)) (.int .i64))]], [(false, [.data (.int .i64)])], [.cells 77 [.data (.prod (.slice (.int .i64)) (.int .i64))]], fun x k => c x.1.2.1.1 x.2.1.1 (fun r0 r1 => k (((r0, ()), ()), ((r1, ()), ())))⟩
section
@[reducible] def made_Dice_Next_X : Ctx := ⟨look tab, pick1 [], false, false, false, false⟩
def zqk {β : Type} (n : Int) (d : (List Int × Int)) (k : (Int → (List Int × Int) → Option β)) : Option β :=
  cond (decide ((List.length d.1 : Int) ≤ d.2))
  (k (0 : Int) d)
  (cond (decide (n < (1 : Int)))
  (k (0 : Int) d)
  (cond (decide (0 ≤ d.2) && decide (d.2 < (List.length d.1 : Int)))
  (let e : Int := List.getD d.1 (Int.toNat d.2) (0 : Int);
  cond (!decide (n = 0))
  (cond (decide ((Int.tmod e n) < (0 : Int)))
  (let x : Int := (IntKind.i64.wrap ((Int.tmod e n) + n));
  k x (d.1, (IntKind.i64.wrap (d.2 + (1 : Int)))))
  (k (Int.tmod e n) (d.1, (IntKind.i64.wrap (d.2 + (1 : Int))))))
  none)
  none))
theorem zql (hΓ : ΓOk Try.prog made_Dice_Next_X.Γ) : SpecOk Try.prog 14 (zqj (zqk)) :=
  spec_exec (X := made_Dice_Next_X) (Λ := pick1 []) (rs := [.tmp 4]) (c := bodyOf Try.f14) mixed tab_ok hΓ Try.func14 (by kernel_rfl) (by kernel_rfl) (by kernel_rfl) (by kernel_rfl) CutsOk_nil (fun x k r h => Eq.trans (b := (zqj (zqk)).run x k) (by kernel_rfl) h)
end
theorem zqmΓ : ΓOk Try.prog (pick1 []) := ΓOk_nil
def zqn : zqi := zqk
theorem zqo : SpecOk Try.prog 14 (zqj zqn) := zql zqmΓ

/-- (*pagewatch/pagewatchmade.Dice).One -/
abbrev zqp := {β : Type} → (List Int) → (List Int × Int) → (Int → (List Int × Int) → Option β) → Option β
def zqq (c : zqp) : Spec :=
  ⟨[(false, [.ptr 0 0]), (false, [.data (.slice (.int .i64))])], [.cells 77 [.data (.prod (.slice (.int .i64)) (.int .i64))]], [(false, [.data (.int .i64)])], [.cells 77 [.data (.prod (.slice (.int .i64)) (.int .i64))]], fun x k => c x.1.2.1.1 x.2.1.1 (fun r0 r1 => k (((r0, ()), ()), ((r1, ()), ())))⟩
section
variable (c_made_Dice_Next : zqi)
@[reducible] def made_Dice_One_X : Ctx := ⟨look tab, pick1 [(14, .spec (zqj c_made_Dice_Next))], false, false, false, false⟩
def zqr {β : Type} (l : List Int) (d : (List Int × Int)) (k : (Int → (List Int × Int) → Option β)) : Option β :=
  c_made_Dice_Next (List.length l : Int) d (fun (rNext : Int) (mrNext : (List Int × Int)) =>
  cond (decide (0 ≤ rNext) && decide (rNext < (List.length l : Int)))
  (let e : Int := List.getD l (Int.toNat rNext) (0 : Int);
  k e mrNext)
  none)
theorem zqs (hΓ : ΓOk Try.prog (made_Dice_One_X c_made_Dice_Next).Γ) : SpecOk Try.prog 28 (zqq (zqr c_made_Dice_Next)) :=
  spec_exec (X := (made_Dice_One_X c_made_Dice_Next)) (Λ := pick1 []) (rs := [.tmp 4]) (c := bodyOf Try.f28) mixed tab_ok hΓ Try.func28 (by kernel_rfl) (by kernel_rfl) (by kernel_rfl) (by kernel_rfl) CutsOk_nil (fun x k r h => Eq.trans (b := (zqq (zqr c_made_Dice_Next)).run x k) (by kernel_rfl) h)
end
theorem zqtΓ : ΓOk Try.prog (pick1 [(14, .spec (zqj zqn))]) := (ΓOk_cons zqo ΓOk_nil)
def zqu : zqp := zqr zqn
theorem zqv : SpecOk Try.prog 28 (zqq zqu) := zqs zqn zqtΓ

/-- (*pagewatch/pagewatchmade.Dice).Channel -/
abbrev zqw := {β : Type} → (List Int × Int) → ((Int × (Int × (Int × Int))) → (List Int × Int) → Option β) → Option β
def zqx (c : zqw) : Spec :=
  ⟨[(false, [.ptr 0 0])], [.cells 77 [.data (.prod (.slice (.int .i64)) (.int .i64))]], [(true, [.data (.prod (.int .i64) (.prod (.int .i64) (.prod (.int .i64) (.int .i64))))])], [.cells 77 [.data (.prod (.slice (.int .i64)) (.int .i64))]], fun x k => c x.2.1.1 (fun r0 r1 => k (((r0, ()), ()), ((r1, ()), ())))⟩
section
variable (c_made_Dice_Next : zqi) (c_made_Dice_One : zqp)
@[reducible] def made_Dice_Channel_X : Ctx := ⟨look tab, pick1 [(14, .spec (zqj c_made_Dice_Next)), (28, .spec (zqq c_made_Dice_One))], false, false, false, false⟩
def zqy {β : Type} (d : (List Int × Int)) (k : ((Int × (Int × (Int × Int))) → (List Int × Int) → Option β)) : Option β :=
  c_made_Dice_Next (3 : Int) d (fun (rNext : Int) (mrNext : (List Int × Int)) =>
  let l : List Int := ([(0 : Int), (30 : Int), (60 : Int), (3600 : Int)] : List Int);
  c_made_Dice_One l mrNext (fun (rOne : Int) (mrOne : (List Int × Int)) =>
  c_made_Dice_Next (4 : Int) mrOne (fun (rNext2 : Int) (mrNext2 : (List Int × Int)) =>
  let l2 : List Int := ([(1 : Int), (30 : Int), (60 : Int), (120 : Int)] : List Int);
  c_made_Dice_One l2 mrNext2 (fun (rOne2 : Int) (mrOne2 : (List Int × Int)) =>
  k (rNext, (rOne, ((IntKind.i64.wrap ((1 : Int) + rNext2)), rOne2))) mrOne2))))
theorem zqz (hΓ : ΓOk Try.prog (made_Dice_Channel_X c_made_Dice_Next c_made_Dice_One).Γ) : SpecOk Try.prog 38 (zqx (zqy c_made_Dice_Next c_made_Dice_One)) :=
  spec_exec (X := (made_Dice_Channel_X c_made_Dice_Next c_made_Dice_One)) (Λ := pick1 []) (rs := [.cell 2 36]) (c := bodyOf Try.f38) mixed tab_ok hΓ Try.func38 (by kernel_rfl) (by kernel_rfl) (by kernel_rfl) (by kernel_rfl) CutsOk_nil (fun x k r h => Eq.trans (b := (zqx (zqy c_made_Dice_Next c_made_Dice_One)).run x k) (by kernel_rfl) h)
end
theorem zq10Γ : ΓOk Try.prog (pick1 [(14, .spec (zqj zqn)), (28, .spec (zqq zqu))]) := (ΓOk_cons zqo (ΓOk_cons zqv ΓOk_nil))
def zq11 : zqw := zqy zqn zqu
theorem zq12 : SpecOk Try.prog 38 (zqx zq11) := zqz zqn zqu zq10Γ

/-- pagewatch/delivery.in -/
abbrev zq13 := {β : Type} → Int → Int → Int → (Bool → Option β) → Option β
def zq14 (c : zq13) : Spec :=
  ⟨[(false, [.data (.int .i64)]), (false, [.data (.int .i64)]), (false, [.data (.int .i64)])], [], [(false, [.data .bool])], [], fun x k => c x.1.1.1 x.1.2.1.1 x.1.2.2.1.1 (fun r0 => k (((r0, ()), ()), ()))⟩
section
@[reducible] def delivery_in_X : Ctx := ⟨look tab, pick1 [], false, false, false, false⟩
def zq15 {β : Type} (n : Int) (low : Int) (high : Int) (k : (Bool → Option β)) : Option β :=
  cond (decide (low ≤ n))
  (k (decide (n ≤ high)))
  (k false)
theorem zq16 (hΓ : ΓOk Try.prog delivery_in_X.Γ) : SpecOk Try.prog 39 (zq14 (zq15)) :=
  spec_exec (X := delivery_in_X) (Λ := pick1 []) (rs := [.tmp 6]) (c := bodyOf Try.f39) mixed tab_ok hΓ Try.func39 (by kernel_rfl) (by kernel_rfl) (by kernel_rfl) (by kernel_rfl) CutsOk_nil (fun x k r h => Eq.trans (b := (zq14 (zq15)).run x k) (by kernel_rfl) h)
end
theorem zq17Γ : ΓOk Try.prog (pick1 []) := ΓOk_nil
def zq18 : zq13 := zq15
theorem zq19 : SpecOk Try.prog 39 (zq14 zq18) := zq16 zq17Γ

/-- pagewatch/delivery.Run$1 -/
abbrev zq1a := {β : Type} → Int → (Int × (Int × Int)) → (Bool → (Int × (Int × Int)) → Option β) → Option β
def zq1b (c : zq1a) : Spec :=
  ⟨[(false, [.data (.int .i64)]), (false, [.ptr 0 0])], [.cells 39 [.data (.prod (.int .i64) (.prod (.int .i64) (.int .i64)))]], [(false, [.data .bool])], [.cells 39 [.data (.prod (.int .i64) (.prod (.int .i64) (.int .i64)))]], fun x k => c x.1.1.1 x.2.1.1 (fun r0 r1 => k (((r0, ()), ()), ((r1, ()), ())))⟩
section
@[reducible] def delivery_Run_f1_X : Ctx := ⟨look tab, pick1 [], false, false, false, false⟩
def zq1c {β : Type} (t : Int) (t1 : (Int × (Int × Int))) (k : (Bool → (Int × (Int × Int)) → Option β)) : Option β :=
  k (decide (t ≤ t1.2.2)) t1
theorem zq1d (hΓ : ΓOk Try.prog delivery_Run_f1_X.Γ) : SpecOk Try.prog 45 (zq1b (zq1c)) :=
  spec_exec (X := delivery_Run_f1_X) (Λ := pick1 []) (rs := [.tmp 3]) (c := bodyOf Try.f45) mixed tab_ok hΓ Try.func45 (by kernel_rfl) (by kernel_rfl) (by kernel_rfl) (by kernel_rfl) CutsOk_nil (fun x k r h => Eq.trans (b := (zq1b (zq1c)).run x k) (by kernel_rfl) h)
end
theorem zq1eΓ : ΓOk Try.prog (pick1 []) := ΓOk_nil
def zq1f : zq1a := zq1c
theorem zq1g : SpecOk Try.prog 45 (zq1b zq1f) := zq1d zq1eΓ

/-- slices.Sort[[]int,int] -/
def zq1h : Shelf.Ren :=
      { 
      f := fun x =>
        match x with
        | 189 => 49
        | 125 => 66
        | 257 => 70
        | 128 => 81
        | 129 => 82
        | 294 => 83
        | 295 => 84
        | 296 => 85
        | 297 => 86
        | 298 => 87
        | 299 => 88
        | 216 => 89
        | 300 => 90
        | 301 => 91
        | 328 => 97
        | 329 => 93
        | 330 => 94
        | 331 => 98
        | 332 => 99
        | 215 => 100
        | 343 => 102
        | n => n,
      t := fun x =>
        match x with
        | 28 => 22
        | 3 => 3
        | 46 => 97
        | 0 => 0
        | 51 => 23
        | 53 => 111
        | 4 => 4
        | 183 => 104
        | 182 => 103
        | 131 => 66
        | 5 => 5
        | 9 => 9
        | 218 => 118
        | 222 => 122
        | 228 => 126
        | 229 => 127
        | n => n,
      g := fun x => x }
theorem zq1i : Go.Proofs.Lays.n189 Try.prog zq1h :=
  { mixed := by kernel_rfl,
    f125 := Eq.trans Try.func66 (congrArg some (by kernel_rfl)),
    f128 := Eq.trans Try.func81 (congrArg some (by kernel_rfl)),
    f129 := Eq.trans Try.func82 (congrArg some (by kernel_rfl)),
    f189 := Eq.trans Try.func49 (congrArg some (by kernel_rfl)),
    f215 := Eq.trans Try.func100 (congrArg some (by kernel_rfl)),
    f216 := Eq.trans Try.func89 (congrArg some (by kernel_rfl)),
    f257 := Eq.trans Try.func70 (congrArg some (by kernel_rfl)),
    f294 := Eq.trans Try.func83 (congrArg some (by kernel_rfl)),
    f295 := Eq.trans Try.func84 (congrArg some (by kernel_rfl)),
    f296 := Eq.trans Try.func85 (congrArg some (by kernel_rfl)),
    f297 := Eq.trans Try.func86 (congrArg some (by kernel_rfl)),
    f298 := Eq.trans Try.func87 (congrArg some (by kernel_rfl)),
    f299 := Eq.trans Try.func88 (congrArg some (by kernel_rfl)),
    f300 := Eq.trans Try.func90 (congrArg some (by kernel_rfl)),
    f301 := Eq.trans Try.func91 (congrArg some (by kernel_rfl)),
    f328 := Eq.trans Try.func97 (congrArg some (by kernel_rfl)),
    f329 := Eq.trans Try.func93 (congrArg some (by kernel_rfl)),
    f330 := Eq.trans Try.func94 (congrArg some (by kernel_rfl)),
    f331 := Eq.trans Try.func98 (congrArg some (by kernel_rfl)),
    f332 := Eq.trans Try.func99 (congrArg some (by kernel_rfl)),
    f343 := Eq.trans Try.func102 (congrArg some (by kernel_rfl)),
    t0 := Try.underlying0,
    a0 := Try.isAgg0,
    z0 := Try.sizeOf0,
    v0 := Try.zeroValue0,
    t3 := Try.underlying3,
    a3 := Try.isAgg3,
    z3 := Try.sizeOf3,
    v3 := Try.zeroValue3,
    t4 := Try.underlying4,
    a4 := Try.isAgg4,
    z4 := Try.sizeOf4,
    v4 := Try.zeroValue4,
    t5 := Try.underlying5,
    a5 := Try.isAgg5,
    z5 := Try.sizeOf5,
    v5 := Try.zeroValue5,
    t9 := Try.underlying9,
    a9 := Try.isAgg9,
    z9 := Try.sizeOf9,
    v9 := Try.zeroValue9,
    t28 := Try.underlying22,
    a28 := Try.isAgg22,
    z28 := Try.sizeOf22,
    v28 := Try.zeroValue22,
    t46 := Try.underlying97,
    a46 := Try.isAgg97,
    z46 := Try.sizeOf97,
    v46 := Try.zeroValue97,
    t51 := Try.underlying23,
    a51 := Try.isAgg23,
    z51 := Try.sizeOf23,
    v51 := Try.zeroValue23,
    t53 := Try.underlying111,
    a53 := Try.isAgg111,
    z53 := Try.sizeOf111,
    v53 := Try.zeroValue111,
    t131 := Try.underlying66,
    a131 := Try.isAgg66,
    z131 := Try.sizeOf66,
    v131 := Try.zeroValue66,
    t182 := Try.underlying103,
    a182 := Try.isAgg103,
    z182 := Try.sizeOf103,
    v182 := Try.zeroValue103,
    t183 := Try.underlying104,
    a183 := Try.isAgg104,
    z183 := Try.sizeOf104,
    v183 := Try.zeroValue104,
    t218 := Try.underlying118,
    a218 := Try.isAgg118,
    z218 := Try.sizeOf118,
    v218 := Try.zeroValue118,
    t222 := Try.underlying122,
    a222 := Try.isAgg122,
    z222 := Try.sizeOf122,
    v222 := Try.zeroValue122,
    t228 := Try.underlying126,
    a228 := Try.isAgg126,
    z228 := Try.sizeOf126,
    v228 := Try.zeroValue126,
    t229 := Try.underlying127,
    a229 := Try.isAgg127,
    z229 := Try.sizeOf127,
    v229 := Try.zeroValue127 }
def zq1j : RowF := sortF 3
theorem zq1k : RowOk Try.prog 49 zq1j :=
  sort_rowok zq1i rfl ⟨_, Try.func49, by kernel_rfl, by kernel_rfl⟩

/-- pagewatch/delivery.person -/
abbrev zq1l := {β : Type} → Int → (Bool → Option β) → Option β
def zq1m (c : zq1l) : Spec :=
  ⟨[(false, [.data (.int .i64)])], [], [(false, [.data .bool])], [], fun x k => c x.1.1.1 (fun r0 => k (((r0, ()), ()), ()))⟩
section
variable (c_delivery_in : zq13)
@[reducible] def delivery_person_X : Ctx := ⟨look tab, pick1 [(39, .spec (zq14 c_delivery_in))], false, false, false, false⟩
def zq1n {β : Type} (n : Int) (k : (Bool → Option β)) : Option β :=
  c_delivery_in n (0 : Int) (31 : Int) (fun (rin : Bool) =>
  k rin)
theorem zq1o (hΓ : ΓOk Try.prog (delivery_person_X c_delivery_in).Γ) : SpecOk Try.prog 60 (zq1m (zq1n c_delivery_in)) :=
  spec_exec (X := (delivery_person_X c_delivery_in)) (Λ := pick1 []) (rs := [.tmp 2]) (c := bodyOf Try.f60) mixed tab_ok hΓ Try.func60 (by kernel_rfl) (by kernel_rfl) (by kernel_rfl) (by kernel_rfl) CutsOk_nil (fun x k r h => Eq.trans (b := (zq1m (zq1n c_delivery_in)).run x k) (by kernel_rfl) h)
end
theorem zq1pΓ : ΓOk Try.prog (pick1 [(39, .spec (zq14 zq18))]) := (ΓOk_cons zq19 ΓOk_nil)
def zq1q : zq1l := zq1n zq18
theorem zq1r : SpecOk Try.prog 60 (zq1m zq1q) := zq1o zq18 zq1pΓ

/-- pagewatch/channel.in -/
abbrev zq1s := {β : Type} → Int → Int → Int → (Bool → Option β) → Option β
def zq1t (c : zq1s) : Spec :=
  ⟨[(false, [.data (.int .i64)]), (false, [.data (.int .i64)]), (false, [.data (.int .i64)])], [], [(false, [.data .bool])], [], fun x k => c x.1.1.1 x.1.2.1.1 x.1.2.2.1.1 (fun r0 => k (((r0, ()), ()), ()))⟩
section
@[reducible] def channel_in_X : Ctx := ⟨look tab, pick1 [], false, false, false, false⟩
def zq1u {β : Type} (n : Int) (low : Int) (high : Int) (k : (Bool → Option β)) : Option β :=
  cond (decide (low ≤ n))
  (k (decide (n ≤ high)))
  (k false)
theorem zq1v (hΓ : ΓOk Try.prog channel_in_X.Γ) : SpecOk Try.prog 68 (zq1t (zq1u)) :=
  spec_exec (X := channel_in_X) (Λ := pick1 []) (rs := [.tmp 6]) (c := bodyOf Try.f68) mixed tab_ok hΓ Try.func68 (by kernel_rfl) (by kernel_rfl) (by kernel_rfl) (by kernel_rfl) CutsOk_nil (fun x k r h => Eq.trans (b := (zq1t (zq1u)).run x k) (by kernel_rfl) h)
end
theorem zq1wΓ : ΓOk Try.prog (pick1 []) := ΓOk_nil
def zq1x : zq1s := zq1u
theorem zq1y : SpecOk Try.prog 68 (zq1t zq1x) := zq1v zq1wΓ

/-- pagewatch/channel.ValidFate -/
abbrev zq1z := {β : Type} → zq0 → (Bool → Option β) → Option β
def zq20 (c : zq1z) : Spec :=
  ⟨[(true, [.data zq1])], [], [(false, [.data .bool])], [], fun x k => c x.1.1.1 (fun r0 => k (((r0, ()), ()), ()))⟩
section
variable (c_channel_in : zq1s)
@[reducible] def channel_ValidFate_X : Ctx := ⟨look tab, pick1 [(68, .spec (zq1t c_channel_in))], false, false, false, false⟩
def zq21 {β : Type} (f : zq0) (k : (Bool → Option β)) : Option β :=
  c_channel_in f.2.1 (0 : Int) (86400 : Int) (fun (rin : Bool) =>
  cond rin
  (c_channel_in f.2.2.1 (0 : Int) (86400 : Int) (fun (rin2 : Bool) =>
  cond rin2
  (c_channel_in f.2.2.2 (-1 : Int) (86400 : Int) (fun (rin3 : Bool) =>
  k rin3))
  (k false)))
  (k false))
theorem zq22 (hΓ : ΓOk Try.prog (channel_ValidFate_X c_channel_in).Γ) : SpecOk Try.prog 69 (zq20 (zq21 c_channel_in)) :=
  spec_exec (X := (channel_ValidFate_X c_channel_in)) (Λ := pick1 []) (rs := [.tmp 2]) (c := bodyOf Try.f69) mixed tab_ok hΓ Try.func69 (by kernel_rfl) (by kernel_rfl) (by kernel_rfl) (by kernel_rfl) CutsOk_nil (fun x k r h => Eq.trans (b := (zq20 (zq21 c_channel_in)).run x k) (by kernel_rfl) h)
end
theorem zq23Γ : ΓOk Try.prog (pick1 [(68, .spec (zq1t zq1x))]) := (ΓOk_cons zq1y ΓOk_nil)
def zq24 : zq1z := zq21 zq1x
theorem zq25 : SpecOk Try.prog 69 (zq20 zq24) := zq22 zq1x zq23Γ

/-- (*pagewatch/pagewatchmade.Dice).Person -/
abbrev zq26 := {β : Type} → Int → (List Int × Int) → ((Int × List (Int × (Int × (Int × Int)))) → (List Int × Int) → Option β) → Option β
def zq27 (c : zq26) : Spec :=
  ⟨[(false, [.ptr 0 0]), (false, [.data (.int .i64)])], [.cells 77 [.data (.prod (.slice (.int .i64)) (.int .i64))]], [(true, [.data (.prod (.int .i64) (.slice (.prod (.int .i64) (.prod (.int .i64) (.prod (.int .i64) (.int .i64))))))])], [.cells 77 [.data (.prod (.slice (.int .i64)) (.int .i64))]], fun x k => c x.1.2.1.1 x.2.1.1 (fun r0 r1 => k (((r0, ()), ()), ((r1, ()), ())))⟩
noncomputable def made_Dice_Person_p1_code : Code := codeAt 58 (bodyOf Try.f12)
abbrev zq28 (β : Type) := (List Int) → Int → Int → Int → (List (Int × (Int × (Int × Int)))) → (List (Int × (Int × (Int × Int)))) → Option β
abbrev zq29 := {β : Type} → zq28 β → Int → (List Int) → Int → Int → Int → (List (Int × (Int × (Int × Int)))) → (List (Int × (Int × (Int × Int)))) → Option β
def zq2a : View := ⟨1, [0, 4, 5, 6], [(false, [.ptr 0 0]), (false, [.ptr 1 0]), (false, [.ptr 2 0]), (false, [.data (.int .i64)])], [.cells 77 [.data (.slice (.int .i64)), .data (.int .i64)], .cells 29 [.data (.int .i64), .rowh 3], .cells 29 [.data (.int .i64), .rowh 4], .row 36 (.prod (.int .i64) (.prod (.int .i64) (.prod (.int .i64) (.int .i64)))), .row 36 (.prod (.int .i64) (.prod (.int .i64) (.prod (.int .i64) (.int .i64))))]⟩
def zq2b : List (AExit × View) := [(.exit 0, ⟨1, [4, 5], [(false, [.ptr 1 0]), (false, [.ptr 2 0])], [.cells 77 [.data (.slice (.int .i64)), .data (.int .i64)], .cells 29 [.data (.int .i64), .rowh 3], .cells 29 [.data (.int .i64), .rowh 4], .row 36 (.prod (.int .i64) (.prod (.int .i64) (.prod (.int .i64) (.int .i64)))), .row 36 (.prod (.int .i64) (.prod (.int .i64) (.prod (.int .i64) (.int .i64))))]⟩)]
@[reducible] def made_Dice_Person_p1_G (p : zq29) {β : Type} (d : zq2a.den) (ks : Outs.K β zq2b) : Option β :=
  p (fun a0 a1 a2 a3 a4 a5 => ks.1 (((), (), ()), ((a0, a1, ()), (a2, ()), (a3, ()), a4, a5, ()))) d.1.2.2.2.1.1 d.2.1.1 d.2.1.2.1 d.2.2.1.1 d.2.2.2.1.1 d.2.2.2.2.1 d.2.2.2.2.2.1
section
variable (c_made_Dice_Channel : zqw) (c_made_Dice_Next : zqi)
@[reducible] def made_Dice_Person_X : Ctx := ⟨look tab, pick1 [(38, .spec (zqx c_made_Dice_Channel)), (14, .spec (zqj c_made_Dice_Next))], false, false, false, false⟩
def zq2c {β : Type} (rec : Int → (List Int) → Int → Int → Int → (List (Int × (Int × (Int × Int)))) → (List (Int × (Int × (Int × Int)))) → Option β) (k1 : zq28 β) (i_ : Int) (d : List Int) (d2 : Int) (t4 : Int) (p_ : Int) (b3_ : List (Int × (Int × (Int × Int)))) (b4_ : List (Int × (Int × (Int × Int)))) : Option β :=
  cond (decide ((0 : Int) < i_))
  (c_made_Dice_Channel (d, d2) (fun (rChannel : (Int × (Int × (Int × Int)))) (mrChannel : (List Int × Int)) =>
  let l : List (Int × (Int × (Int × Int))) := ([rChannel] : List (Int × (Int × (Int × Int))));
  cond (decide ((List.length b4_ + List.length l) * 32 ≤ roomMax))
  (let l2 : List (Int × (Int × (Int × Int))) := (b4_ ++ l);
  let i_2 : Int := (IntKind.i64.wrap (i_ - (1 : Int)));
  rec i_2 mrChannel.1 mrChannel.2 t4 p_ b3_ l2)
  none))
  (k1 d d2 t4 p_ b3_ b4_)
def zq2d {β : Type} : Nat → zq28 β → Int → (List Int) → Int → Int → Int → (List (Int × (Int × (Int × Int)))) → (List (Int × (Int × (Int × Int)))) → Option β
  | 0 => fun _ _ _ _ _ _ _ _ => none
  | i + 1 => fun k1 i_ d d2 t4 p_ b3_ b4_ => zq2c c_made_Dice_Channel (zq2d i k1) k1 i_ d d2 t4 p_ b3_ b4_
theorem zq2e (hΓ : ΓOk Try.prog (made_Dice_Person_X c_made_Dice_Channel c_made_Dice_Next).Γ) (i : Nat) : PieceOk Try.prog 23 1 made_Dice_Person_p1_code zq2a zq2b (made_Dice_Person_p1_G (zq2d c_made_Dice_Channel i)) := by
  rw [show made_Dice_Person_p1_code = .loop (loopBody made_Dice_Person_p1_code) by kernel_rfl]
  exact piece_loop (X := (made_Dice_Person_X c_made_Dice_Channel c_made_Dice_Next)) (p := 1) (Λ := pick1 []) (G := fun i => @fun β d ks => made_Dice_Person_p1_G (zq2d c_made_Dice_Channel i) d ks) mixed tab_ok hΓ rfl (by kernel_rfl) CutsOk_nil (fun _ _ => rfl) (fun i => @fun β d ks r h => Eq.trans (b := made_Dice_Person_p1_G (zq2d c_made_Dice_Channel (i + 1)) d ks) (by kernel_rfl) h) i
def zq2f (p1 : zq29) {β : Type} (person : Int) (d : (List Int × Int)) (k : ((Int × List (Int × (Int × (Int × Int)))) → (List Int × Int) → Option β)) : Option β :=
  c_made_Dice_Next (4 : Int) d (fun (rNext : Int) (mrNext : (List Int × Int)) =>
  p1 (fun (b0_ : List Int) (b0_2 : Int) (t4 : Int) (p_ : Int) (b3_ : List (Int × (Int × (Int × Int)))) (b4_ : List (Int × (Int × (Int × Int)))) =>
  k (p_, b4_) (b0_, b0_2)) rNext mrNext.1 mrNext.2 (0 : Int) person ([] : List (Int × (Int × (Int × Int)))) ([] : List (Int × (Int × (Int × Int)))))
theorem zq2g (hΓ : ΓOk Try.prog (made_Dice_Person_X c_made_Dice_Channel c_made_Dice_Next).Γ) (p1 : zq29) (hp1 : PieceOk Try.prog 23 1 made_Dice_Person_p1_code zq2a zq2b (made_Dice_Person_p1_G p1)) : SpecOk Try.prog 12 (zq27 (zq2f c_made_Dice_Next p1)) :=
  spec_exec (X := (made_Dice_Person_X c_made_Dice_Channel c_made_Dice_Next)) (Λ := pick1 [(58, pieceCut zq2a zq2b (made_Dice_Person_p1_G p1))]) (rs := [.cell 4 29]) (c := bodyOf Try.f12) mixed tab_ok hΓ Try.func12 (by kernel_rfl) (by kernel_rfl) (by kernel_rfl) (by kernel_rfl) (CutsOk_cons (q := 58) (c' := made_Dice_Person_p1_code) (by kernel_rfl) rfl hp1 CutsOk_nil) (fun x k r h => Eq.trans (b := (zq27 (zq2f c_made_Dice_Next p1)).run x k) (by kernel_rfl) h)
end
theorem zq2hΓ : ΓOk Try.prog (pick1 [(38, .spec (zqx zq11)), (14, .spec (zqj zqn))]) := (ΓOk_cons zq12 (ΓOk_cons zqo ΓOk_nil))
def zq2i (m : Nat) : zq29 := zq2d zq11 m
theorem zq2j {β : Type} (i : Nat) (k1 i_ d d2 t4 p_ b3_ b4_) : (zq2i (i + 1) k1 i_ d d2 t4 p_ b3_ b4_ : Option β) = zq2c zq11 (zq2i i k1) k1 i_ d d2 t4 p_ b3_ b4_ := rfl
def zq2k : zq29 := zq2i fuel
theorem zq2l : PieceOk Try.prog 23 1 made_Dice_Person_p1_code zq2a zq2b (made_Dice_Person_p1_G zq2k) := zq2e zq11 zqn zq2hΓ fuel
def zq2m : zq26 := zq2f zqn zq2k
theorem zq2n : SpecOk Try.prog 12 (zq27 zq2m) := zq2g zq11 zqn zq2hΓ zq2k zq2l

/-- pagewatch/channel.Fates -/
abbrev zq2o := {β : Type} → (List zq0) → Int → (zq0 → Option β) → Option β
def zq2p (c : zq2o) : Spec :=
  ⟨[(false, [.data (.slice zq1)]), (false, [.data (.int .i64)])], [], [(true, [.data zq1])], [], fun x k => c x.1.1.1 x.1.2.1.1 (fun r0 => k (((r0, ()), ()), ()))⟩
section
variable (c_channel_ValidFate : zq1z) (c_channel_in : zq1s)
@[reducible] def channel_Fates_X : Ctx := ⟨look tab, pick1 [(69, .spec (zq20 c_channel_ValidFate)), (68, .spec (zq1t c_channel_in))], false, false, false, false⟩
def zq2q {β : Type} (l : List zq0) (k_ : Int) (k : (zq0 → Option β)) : Option β :=
  c_channel_in k_ (0 : Int) (IntKind.i64.wrap ((List.length l : Int) - (1 : Int))) (fun (rin : Bool) =>
  cond rin
  (cond (decide (0 ≤ k_) && decide (k_ < (List.length l : Int)))
  (let e : zq0 := List.getD l (Int.toNat k_) (false, ((0 : Int), ((0 : Int), (0 : Int))));
  c_channel_ValidFate e (fun (rValidFate : Bool) =>
  cond rValidFate
  (cond (decide (0 ≤ k_) && decide (k_ < (List.length l : Int)))
  (let e2 : zq0 := List.getD l (Int.toNat k_) (false, ((0 : Int), ((0 : Int), (0 : Int))));
  k e2)
  none)
  (k (true, ((0 : Int), ((0 : Int), (0 : Int)))))))
  none)
  (k (true, ((0 : Int), ((0 : Int), (0 : Int))))))
theorem zq2r (hΓ : ΓOk Try.prog (channel_Fates_X c_channel_ValidFate c_channel_in).Γ) : SpecOk Try.prog 46 (zq2p (zq2q c_channel_ValidFate c_channel_in)) :=
  spec_exec (X := (channel_Fates_X c_channel_ValidFate c_channel_in)) (Λ := pick1 []) (rs := [.cell 4 75]) (c := bodyOf Try.f46) mixed tab_ok hΓ Try.func46 (by kernel_rfl) (by kernel_rfl) (by kernel_rfl) (by kernel_rfl) CutsOk_nil (fun x k r h => Eq.trans (b := (zq2p (zq2q c_channel_ValidFate c_channel_in)).run x k) (by kernel_rfl) h)
end
theorem zq2sΓ : ΓOk Try.prog (pick1 [(69, .spec (zq20 zq24)), (68, .spec (zq1t zq1x))]) := (ΓOk_cons zq25 (ΓOk_cons zq1y ΓOk_nil))
def zq2t : zq2o := zq2q zq24 zq1x
theorem zq2u : SpecOk Try.prog 46 (zq2p zq2t) := zq2r zq24 zq1x zq2sΓ

/-- pagewatch/channel.Arrivals -/
abbrev zq2v := {β : Type} → Int → zq0 → ((List Int) → Option β) → Option β
def zq2w (c : zq2v) : Spec :=
  ⟨[(false, [.data (.int .i64)]), (true, [.data zq1])], [], [(false, [.rowh 0])], [.row 3 (.int .i64)], fun x k => c x.1.1.1 x.1.2.1.1 (fun r0 => k (((), ()), (r0, ())))⟩
section
variable (c_channel_ValidFate : zq1z) (c_channel_in : zq1s)
@[reducible] def channel_Arrivals_X : Ctx := ⟨look tab, pick1 [(69, .spec (zq20 c_channel_ValidFate)), (68, .spec (zq1t c_channel_in))], false, false, false, false⟩
def zq2x {β : Type} (at_ : Int) (f : zq0) (k : ((List Int) → Option β)) : Option β :=
  c_channel_in at_ (0 : Int) (8589956192 : Int) (fun (rin : Bool) =>
  cond (!rin)
  (k ([] : List Int))
  (c_channel_ValidFate f (fun (rValidFate : Bool) =>
  cond (!rValidFate)
  (k ([] : List Int))
  (cond f.1
  (k ([] : List Int))
  (let l : List Int := ([(IntKind.i64.wrap (at_ + f.2.1))] : List Int);
  cond (!decide (f.2.2.1 = (0 : Int)))
  (let l2 : List Int := ([(IntKind.i64.wrap ((IntKind.i64.wrap (at_ + f.2.1)) + f.2.2.1))] : List Int);
  cond (decide ((List.length l + List.length l2) * 8 ≤ roomMax))
  (let l3 : List Int := (l ++ l2);
  k l3)
  none)
  (k l))))))
theorem zq2y (hΓ : ΓOk Try.prog (channel_Arrivals_X c_channel_ValidFate c_channel_in).Γ) : SpecOk Try.prog 47 (zq2w (zq2x c_channel_ValidFate c_channel_in)) :=
  spec_exec (X := (channel_Arrivals_X c_channel_ValidFate c_channel_in)) (Λ := pick1 []) (rs := [.tmp 4]) (c := bodyOf Try.f47) mixed tab_ok hΓ Try.func47 (by kernel_rfl) (by kernel_rfl) (by kernel_rfl) (by kernel_rfl) CutsOk_nil (fun x k r h => Eq.trans (b := (zq2w (zq2x c_channel_ValidFate c_channel_in)).run x k) (by kernel_rfl) h)
end
theorem zq2zΓ : ΓOk Try.prog (pick1 [(69, .spec (zq20 zq24)), (68, .spec (zq1t zq1x))]) := (ΓOk_cons zq25 (ΓOk_cons zq1y ΓOk_nil))
def zq30 : zq2v := zq2x zq24 zq1x
theorem zq31 : SpecOk Try.prog 47 (zq2w zq30) := zq2y zq24 zq1x zq2zΓ

/-- pagewatch/channel.Receipts -/
abbrev zq32 := {β : Type} → Int → zq0 → ((List Int) → Option β) → Option β
def zq33 (c : zq32) : Spec :=
  ⟨[(false, [.data (.int .i64)]), (true, [.data zq1])], [], [(false, [.rowh 0])], [.row 3 (.int .i64)], fun x k => c x.1.1.1 x.1.2.1.1 (fun r0 => k (((), ()), (r0, ())))⟩
noncomputable def channel_Receipts_p1_code : Code := codeAt 122 (bodyOf Try.f48)
abbrev zq34 (β : Type) := (List Int) → Option β
abbrev zq35 := {β : Type} → zq34 β → Int → Int → Bool → Int → Int → Int → (List Int) → Option β
def zq36 : View := ⟨0, [3, 5, 14, 15], [(false, [.ptr 0 0]), (false, [.rowh 1]), (false, [.data (.int .i64)]), (false, [.data (.int .i64)])], [.cells 75 [.data .bool, .data (.int .i64), .data (.int .i64), .data (.int .i64)], .row 3 (.int .i64)]⟩
def zq37 : List (AExit × View) := [(.exit 0, ⟨0, [5], [(false, [.rowh 0])], [.row 3 (.int .i64)]⟩)]
@[reducible] def channel_Receipts_p1_G (p : zq35) {β : Type} (d : zq36.den) (ks : Outs.K β zq37) : Option β :=
  p (fun a0 => ks.1 (((), ()), (a0, ()))) d.1.2.2.1.1 d.1.2.2.2.1.1 d.2.1.1 d.2.1.2.1 d.2.1.2.2.1 d.2.1.2.2.2.1 d.2.2.1
section
variable (c_channel_Arrivals : zq2v)
@[reducible] def channel_Receipts_X : Ctx := ⟨look tab, pick1 [(47, .spec (zq2w c_channel_Arrivals))], false, false, false, false⟩
def zq38 {β : Type} (rec : Int → Int → Bool → Int → Int → Int → (List Int) → Option β) (k1 : zq34 β) (t14 : Int) (t15 : Int) (f : Bool) (f2 : Int) (f3 : Int) (f4 : Int) (out : List Int) : Option β :=
  cond (decide (t15 < t14))
  (cond (decide (0 ≤ t15) && decide (t15 < (List.length out : Int)))
  (cond (decide (0 ≤ t15) && decide (t15 < (List.length out : Int)))
  (let l : List Int := (List.set out (Int.toNat t15) (IntKind.i64.wrap ((List.getD out (Int.toNat t15) (0 : Int)) + f4)));
  rec t14 (IntKind.i64.wrap (t15 + (1 : Int))) f f2 f3 f4 l)
  none)
  none)
  (k1 out)
def zq39 {β : Type} : Nat → zq34 β → Int → Int → Bool → Int → Int → Int → (List Int) → Option β
  | 0 => fun _ _ _ _ _ _ _ _ => none
  | i + 1 => fun k1 t14 t15 f f2 f3 f4 out => zq38 (zq39 i k1) k1 t14 t15 f f2 f3 f4 out
theorem zq3a (hΓ : ΓOk Try.prog (channel_Receipts_X c_channel_Arrivals).Γ) (i : Nat) : PieceOk Try.prog 28 0 channel_Receipts_p1_code zq36 zq37 (channel_Receipts_p1_G (zq39 i)) := by
  rw [show channel_Receipts_p1_code = .loop (loopBody channel_Receipts_p1_code) by kernel_rfl]
  exact piece_loop (X := (channel_Receipts_X c_channel_Arrivals)) (p := 1) (Λ := pick1 []) (G := fun i => @fun β d ks => channel_Receipts_p1_G (zq39 i) d ks) mixed tab_ok hΓ rfl (by kernel_rfl) CutsOk_nil (fun _ _ => rfl) (fun i => @fun β d ks r h => Eq.trans (b := channel_Receipts_p1_G (zq39 (i + 1)) d ks) (by kernel_rfl) h) i
def zq3b (p1 : zq35) {β : Type} (at_ : Int) (f : zq0) (k : ((List Int) → Option β)) : Option β :=
  c_channel_Arrivals at_ f (fun (lrArrivals : List Int) =>
  cond (decide (f.2.2.2 = (-1 : Int)))
  (k ([] : List Int))
  (p1 (fun (out : List Int) =>
  k out) (List.length lrArrivals : Int) (0 : Int) f.1 f.2.1 f.2.2.1 f.2.2.2 lrArrivals))
theorem zq3c (hΓ : ΓOk Try.prog (channel_Receipts_X c_channel_Arrivals).Γ) (p1 : zq35) (hp1 : PieceOk Try.prog 28 0 channel_Receipts_p1_code zq36 zq37 (channel_Receipts_p1_G p1)) : SpecOk Try.prog 48 (zq33 (zq3b c_channel_Arrivals p1)) :=
  spec_exec (X := (channel_Receipts_X c_channel_Arrivals)) (Λ := pick1 [(122, pieceCut zq36 zq37 (channel_Receipts_p1_G p1))]) (rs := [.tmp 4]) (c := bodyOf Try.f48) mixed tab_ok hΓ Try.func48 (by kernel_rfl) (by kernel_rfl) (by kernel_rfl) (by kernel_rfl) (CutsOk_cons (q := 122) (c' := channel_Receipts_p1_code) (by kernel_rfl) rfl hp1 CutsOk_nil) (fun x k r h => Eq.trans (b := (zq33 (zq3b c_channel_Arrivals p1)).run x k) (by kernel_rfl) h)
end
theorem zq3dΓ : ΓOk Try.prog (pick1 [(47, .spec (zq2w zq30))]) := (ΓOk_cons zq31 ΓOk_nil)
def zq3e (m : Nat) : zq35 := zq39 m
theorem zq3f {β : Type} (i : Nat) (k1 t14 t15 f f2 f3 f4 out) : (zq3e (i + 1) k1 t14 t15 f f2 f3 f4 out : Option β) = zq38 (zq3e i k1) k1 t14 t15 f f2 f3 f4 out := rfl
def zq3g : zq35 := zq3e fuel
theorem zq3h : PieceOk Try.prog 28 0 channel_Receipts_p1_code zq36 zq37 (channel_Receipts_p1_G zq3g) := zq3a zq30 zq3dΓ fuel
def zq3i : zq32 := zq3b zq30 zq3g
theorem zq3j : SpecOk Try.prog 48 (zq33 zq3i) := zq3c zq30 zq3dΓ zq3g zq3h

/-- pagewatch/channel.Valid -/
abbrev zq3k := {β : Type} → (Int × (Int × (Int × Int))) → (Bool → Option β) → Option β
def zq3l (c : zq3k) : Spec :=
  ⟨[(true, [.data (.prod (.int .i64) (.prod (.int .i64) (.prod (.int .i64) (.int .i64))))])], [], [(false, [.data .bool])], [], fun x k => c x.1.1.1 (fun r0 => k (((r0, ()), ()), ()))⟩
section
variable (c_channel_in : zq1s)
@[reducible] def channel_Valid_X : Ctx := ⟨look tab, pick1 [(68, .spec (zq1t c_channel_in))], false, false, false, false⟩
def zq3m {β : Type} (ch : (Int × (Int × (Int × Int)))) (k : (Bool → Option β)) : Option β :=
  c_channel_in ch.1 (0 : Int) (2 : Int) (fun (rin : Bool) =>
  cond rin
  (c_channel_in ch.2.1 (0 : Int) (3600 : Int) (fun (rin2 : Bool) =>
  cond rin2
  (c_channel_in ch.2.2.1 (1 : Int) (6 : Int) (fun (rin3 : Bool) =>
  cond rin3
  (c_channel_in ch.2.2.2 (1 : Int) (3600 : Int) (fun (rin4 : Bool) =>
  k rin4))
  (k false)))
  (k false)))
  (k false))
theorem zq3n (hΓ : ΓOk Try.prog (channel_Valid_X c_channel_in).Γ) : SpecOk Try.prog 63 (zq3l (zq3m c_channel_in)) :=
  spec_exec (X := (channel_Valid_X c_channel_in)) (Λ := pick1 []) (rs := [.tmp 2]) (c := bodyOf Try.f63) mixed tab_ok hΓ Try.func63 (by kernel_rfl) (by kernel_rfl) (by kernel_rfl) (by kernel_rfl) CutsOk_nil (fun x k r h => Eq.trans (b := (zq3l (zq3m c_channel_in)).run x k) (by kernel_rfl) h)
end
theorem zq3oΓ : ΓOk Try.prog (pick1 [(68, .spec (zq1t zq1x))]) := (ΓOk_cons zq1y ΓOk_nil)
def zq3p : zq3k := zq3m zq1x
theorem zq3q : SpecOk Try.prog 63 (zq3l zq3p) := zq3n zq1x zq3oΓ

/-- pagewatch/delivery.Valid$1 -/
abbrev zq3r := {β : Type} → (Int × (Int × (Int × Int))) → (Bool → Option β) → Option β
def zq3s (c : zq3r) : Spec :=
  ⟨[(true, [.data (.prod (.int .i64) (.prod (.int .i64) (.prod (.int .i64) (.int .i64))))])], [], [(false, [.data .bool])], [], fun x k => c x.1.1.1 (fun r0 => k (((r0, ()), ()), ()))⟩
section
variable (c_channel_Valid : zq3k)
@[reducible] def delivery_Valid_f1_X : Ctx := ⟨look tab, pick1 [(63, .spec (zq3l c_channel_Valid))], false, false, false, false⟩
def zq3t {β : Type} (ch : (Int × (Int × (Int × Int)))) (k : (Bool → Option β)) : Option β :=
  c_channel_Valid ch (fun (rValid : Bool) =>
  k (!rValid))
theorem zq3u (hΓ : ΓOk Try.prog (delivery_Valid_f1_X c_channel_Valid).Γ) : SpecOk Try.prog 62 (zq3s (zq3t c_channel_Valid)) :=
  spec_exec (X := (delivery_Valid_f1_X c_channel_Valid)) (Λ := pick1 []) (rs := [.tmp 2]) (c := bodyOf Try.f62) mixed tab_ok hΓ Try.func62 (by kernel_rfl) (by kernel_rfl) (by kernel_rfl) (by kernel_rfl) CutsOk_nil (fun x k r h => Eq.trans (b := (zq3s (zq3t c_channel_Valid)).run x k) (by kernel_rfl) h)
end
theorem zq3vΓ : ΓOk Try.prog (pick1 [(63, .spec (zq3l zq3p))]) := (ΓOk_cons zq3q ΓOk_nil)
def zq3w : zq3r := zq3t zq3p
theorem zq3x : SpecOk Try.prog 62 (zq3s zq3w) := zq3u zq3p zq3vΓ

/-- slices.IndexFunc[[]pagewatch/api.Channel,pagewatch/api.Channel] -/
abbrev zq3y := {β : Type} → (List (Int × (Int × (Int × Int)))) → (Int → Option β) → Option β
def zq3z (c : zq3y) : Spec :=
  ⟨[(false, [.data (.slice (.prod (.int .i64) (.prod (.int .i64) (.prod (.int .i64) (.int .i64)))))]), (false, [.fn 62 []])], [], [(false, [.data (.int .i64)])], [], fun x k => c x.1.1.1 (fun r0 => k (((r0, ()), ()), ()))⟩
noncomputable def slices_IndexFunc_api_Channel_api_Channel_vdelivery_Valid_f1_p1_code : Code := codeAt 26 (bodyOf Try.f72)
abbrev zq40 (β : Type) := Int → Option β
abbrev zq41 (β : Type) := Unit → Option β
abbrev zq42 := {β : Type} → zq40 β → zq41 β → (List (Int × (Int × (Int × Int)))) → Int → Int → Option β
def zq43 : View := ⟨0, [0, 1, 7, 8], [(false, [.data (.slice (.prod (.int .i64) (.prod (.int .i64) (.prod (.int .i64) (.int .i64)))))]), (false, [.fn 62 []]), (false, [.data (.int .i64)]), (false, [.data (.int .i64)])], []⟩
def zq44 : List (AExit × View) := [(.ret, ⟨0, [4], [(false, [.data (.int .i64)])], []⟩), (.exit 0, ⟨0, [], [], []⟩)]
@[reducible] def slices_IndexFunc_api_Channel_api_Channel_vdelivery_Valid_f1_p1_G (p : zq42) {β : Type} (d : zq43.den) (ks : Outs.K β zq44) : Option β :=
  p (fun a0 => ks.1 (((a0, ()), ()), ())) (fun _ => ks.2.1 ((), ())) d.1.1.1 d.1.2.2.1.1 d.1.2.2.2.1.1
section
variable (c_delivery_Valid_f1 : zq3r)
@[reducible] def slices_IndexFunc_api_Channel_api_Channel_vdelivery_Valid_f1_X : Ctx := ⟨look tab, pick1 [(62, .spec (zq3s c_delivery_Valid_f1))], false, false, false, false⟩
def zq45 {β : Type} (rec : (List (Int × (Int × (Int × Int)))) → Int → Int → Option β) (k1 : zq40 β) (k2 : zq41 β) (s : List (Int × (Int × (Int × Int)))) (t7 : Int) (t8 : Int) : Option β :=
  cond (decide (t8 < t7))
  (cond (decide (0 ≤ t8) && decide (t8 < (List.length s : Int)))
  (let e : (Int × (Int × (Int × Int))) := List.getD s (Int.toNat t8) ((0 : Int), ((0 : Int), ((0 : Int), (0 : Int))));
  c_delivery_Valid_f1 e (fun (rValid1 : Bool) =>
  cond rValid1
  (k1 t8)
  (rec s t7 (IntKind.i64.wrap (t8 + (1 : Int))))))
  none)
  (k2 ())
def zq46 {β : Type} : Nat → zq40 β → zq41 β → (List (Int × (Int × (Int × Int)))) → Int → Int → Option β
  | 0 => fun _ _ _ _ _ => none
  | i + 1 => fun k1 k2 s t7 t8 => zq45 c_delivery_Valid_f1 (zq46 i k1 k2) k1 k2 s t7 t8
theorem zq47 (hΓ : ΓOk Try.prog (slices_IndexFunc_api_Channel_api_Channel_vdelivery_Valid_f1_X c_delivery_Valid_f1).Γ) (i : Nat) : PieceOk Try.prog 19 0 slices_IndexFunc_api_Channel_api_Channel_vdelivery_Valid_f1_p1_code zq43 zq44 (slices_IndexFunc_api_Channel_api_Channel_vdelivery_Valid_f1_p1_G (zq46 c_delivery_Valid_f1 i)) := by
  rw [show slices_IndexFunc_api_Channel_api_Channel_vdelivery_Valid_f1_p1_code = .loop (loopBody slices_IndexFunc_api_Channel_api_Channel_vdelivery_Valid_f1_p1_code) by kernel_rfl]
  exact piece_loop (X := (slices_IndexFunc_api_Channel_api_Channel_vdelivery_Valid_f1_X c_delivery_Valid_f1)) (p := 1) (Λ := pick1 []) (G := fun i => @fun β d ks => slices_IndexFunc_api_Channel_api_Channel_vdelivery_Valid_f1_p1_G (zq46 c_delivery_Valid_f1 i) d ks) mixed tab_ok hΓ rfl (by kernel_rfl) CutsOk_nil (fun _ _ => rfl) (fun i => @fun β d ks r h => Eq.trans (b := slices_IndexFunc_api_Channel_api_Channel_vdelivery_Valid_f1_p1_G (zq46 c_delivery_Valid_f1 (i + 1)) d ks) (by kernel_rfl) h) i
def zq48 (p1 : zq42) {β : Type} (s : List (Int × (Int × (Int × Int)))) (k : (Int → Option β)) : Option β :=
  p1 (fun (t4 : Int) =>
  k t4) (fun (_ : Unit) =>
  k (-1 : Int)) s (List.length s : Int) (0 : Int)
theorem zq49 (hΓ : ΓOk Try.prog (slices_IndexFunc_api_Channel_api_Channel_vdelivery_Valid_f1_X c_delivery_Valid_f1).Γ) (p1 : zq42) (hp1 : PieceOk Try.prog 19 0 slices_IndexFunc_api_Channel_api_Channel_vdelivery_Valid_f1_p1_code zq43 zq44 (slices_IndexFunc_api_Channel_api_Channel_vdelivery_Valid_f1_p1_G p1)) : SpecOk Try.prog 72 (zq3z (zq48 p1)) :=
  spec_exec (X := (slices_IndexFunc_api_Channel_api_Channel_vdelivery_Valid_f1_X c_delivery_Valid_f1)) (Λ := pick1 [(26, pieceCut zq43 zq44 (slices_IndexFunc_api_Channel_api_Channel_vdelivery_Valid_f1_p1_G p1))]) (rs := [.tmp 4]) (c := bodyOf Try.f72) mixed tab_ok hΓ Try.func72 (by kernel_rfl) (by kernel_rfl) (by kernel_rfl) (by kernel_rfl) (CutsOk_cons (q := 26) (c' := slices_IndexFunc_api_Channel_api_Channel_vdelivery_Valid_f1_p1_code) (by kernel_rfl) rfl hp1 CutsOk_nil) (fun x k r h => Eq.trans (b := (zq3z (zq48 p1)).run x k) (by kernel_rfl) h)
end
theorem zq4aΓ : ΓOk Try.prog (pick1 [(62, .spec (zq3s zq3w))]) := (ΓOk_cons zq3x ΓOk_nil)
def zq4b (m : Nat) : zq42 := zq46 zq3w m
theorem zq4c {β : Type} (i : Nat) (k1 k2 s t7 t8) : (zq4b (i + 1) k1 k2 s t7 t8 : Option β) = zq45 zq3w (zq4b i k1 k2) k1 k2 s t7 t8 := rfl
def zq4d : zq42 := zq4b fuel
theorem zq4e : PieceOk Try.prog 19 0 slices_IndexFunc_api_Channel_api_Channel_vdelivery_Valid_f1_p1_code zq43 zq44 (slices_IndexFunc_api_Channel_api_Channel_vdelivery_Valid_f1_p1_G zq4d) := zq47 zq3w zq4aΓ fuel
def zq4f : zq3y := zq48 zq4d
theorem zq4g : SpecOk Try.prog 72 (zq3z zq4f) := zq49 zq3w zq4aΓ zq4d zq4e

/-- slices.ContainsFunc[[]pagewatch/api.Channel,pagewatch/api.Channel] -/
abbrev zq4h := {β : Type} → (List (Int × (Int × (Int × Int)))) → (Bool → Option β) → Option β
def zq4i (c : zq4h) : Spec :=
  ⟨[(false, [.data (.slice (.prod (.int .i64) (.prod (.int .i64) (.prod (.int .i64) (.int .i64)))))]), (false, [.fn 62 []])], [], [(false, [.data .bool])], [], fun x k => c x.1.1.1 (fun r0 => k (((r0, ()), ()), ()))⟩
section
variable (c_slices_IndexFunc_api_Channel_api_Channel_vdelivery_Valid_f1 : zq3y)
@[reducible] def slices_ContainsFunc_api_Channel_api_Channel_vdelivery_Valid_f1_X : Ctx := ⟨look tab, pick1 [(72, .spec (zq3z c_slices_IndexFunc_api_Channel_api_Channel_vdelivery_Valid_f1))], false, false, false, false⟩
def zq4j {β : Type} (s : List (Int × (Int × (Int × Int)))) (k : (Bool → Option β)) : Option β :=
  c_slices_IndexFunc_api_Channel_api_Channel_vdelivery_Valid_f1 s (fun (rChannel : Int) =>
  let t : Bool := (decide ((0 : Int) ≤ rChannel));
  k t)
theorem zq4k (hΓ : ΓOk Try.prog (slices_ContainsFunc_api_Channel_api_Channel_vdelivery_Valid_f1_X c_slices_IndexFunc_api_Channel_api_Channel_vdelivery_Valid_f1).Γ) : SpecOk Try.prog 61 (zq4i (zq4j c_slices_IndexFunc_api_Channel_api_Channel_vdelivery_Valid_f1)) :=
  spec_exec (X := (slices_ContainsFunc_api_Channel_api_Channel_vdelivery_Valid_f1_X c_slices_IndexFunc_api_Channel_api_Channel_vdelivery_Valid_f1)) (Λ := pick1 []) (rs := [.tmp 4]) (c := bodyOf Try.f61) mixed tab_ok hΓ Try.func61 (by kernel_rfl) (by kernel_rfl) (by kernel_rfl) (by kernel_rfl) CutsOk_nil (fun x k r h => Eq.trans (b := (zq4i (zq4j c_slices_IndexFunc_api_Channel_api_Channel_vdelivery_Valid_f1)).run x k) (by kernel_rfl) h)
end
theorem zq4lΓ : ΓOk Try.prog (pick1 [(72, .spec (zq3z zq4f))]) := (ΓOk_cons zq4g ΓOk_nil)
def zq4m : zq4h := zq4j zq4f
theorem zq4n : SpecOk Try.prog 61 (zq4i zq4m) := zq4k zq4f zq4lΓ

/-- pagewatch/delivery.Valid -/
abbrev zq4o := {β : Type} → (Int × List (Int × (Int × (Int × Int)))) → (Bool → Option β) → Option β
def zq4p (c : zq4o) : Spec :=
  ⟨[(true, [.data (.prod (.int .i64) (.slice (.prod (.int .i64) (.prod (.int .i64) (.prod (.int .i64) (.int .i64))))))])], [], [(false, [.data .bool])], [], fun x k => c x.1.1.1 (fun r0 => k (((r0, ()), ()), ()))⟩
section
variable (c_delivery_person : zq1l) (c_slices_ContainsFunc_api_Channel_api_Channel_vdelivery_Valid_f1 : zq4h)
@[reducible] def delivery_Valid_X : Ctx := ⟨look tab, pick1 [(60, .spec (zq1m c_delivery_person)), (61, .spec (zq4i c_slices_ContainsFunc_api_Channel_api_Channel_vdelivery_Valid_f1))], false, false, false, false⟩
def zq4q {β : Type} (p_ : (Int × List (Int × (Int × (Int × Int))))) (k : (Bool → Option β)) : Option β :=
  c_delivery_person p_.1 (fun (rperson : Bool) =>
  cond rperson
  (cond (decide ((List.length p_.2 : Int) ≤ (4 : Int)))
  (c_slices_ContainsFunc_api_Channel_api_Channel_vdelivery_Valid_f1 p_.2 (fun (rChannel : Bool) =>
  k (!rChannel)))
  (k false))
  (k false))
theorem zq4r (hΓ : ΓOk Try.prog (delivery_Valid_X c_delivery_person c_slices_ContainsFunc_api_Channel_api_Channel_vdelivery_Valid_f1).Γ) : SpecOk Try.prog 31 (zq4p (zq4q c_delivery_person c_slices_ContainsFunc_api_Channel_api_Channel_vdelivery_Valid_f1)) :=
  spec_exec (X := (delivery_Valid_X c_delivery_person c_slices_ContainsFunc_api_Channel_api_Channel_vdelivery_Valid_f1)) (Λ := pick1 []) (rs := [.tmp 2]) (c := bodyOf Try.f31) mixed tab_ok hΓ Try.func31 (by kernel_rfl) (by kernel_rfl) (by kernel_rfl) (by kernel_rfl) CutsOk_nil (fun x k r h => Eq.trans (b := (zq4p (zq4q c_delivery_person c_slices_ContainsFunc_api_Channel_api_Channel_vdelivery_Valid_f1)).run x k) (by kernel_rfl) h)
end
theorem zq4sΓ : ΓOk Try.prog (pick1 [(60, .spec (zq1m zq1q)), (61, .spec (zq4i zq4m))]) := (ΓOk_cons zq1r (ΓOk_cons zq4n ΓOk_nil))
def zq4t : zq4o := zq4q zq1q zq4m
theorem zq4u : SpecOk Try.prog 31 (zq4p zq4t) := zq4r zq1q zq4m zq4sΓ

/-- slices.SortFunc[[]pagewatch/api.Attempt,pagewatch/api.Attempt] with pagewatch/delivery.Plan$1 -/
def zq4v : Shelf.Ren :=
      { 
      f := fun x =>
        match x with
        | 6 => 40
        | 15 => 66
        | 14 => 65
        | 28 => 81
        | 29 => 82
        | 20 => 73
        | 21 => 74
        | 22 => 75
        | 23 => 76
        | 24 => 77
        | 25 => 78
        | 26 => 79
        | 27 => 80
        | 46 => 92
        | 47 => 93
        | 48 => 94
        | 49 => 95
        | 50 => 96
        | 57 => 101
        | n => n,
      t := fun x =>
        match x with
        | 22 => 33
        | 24 => 39
        | 25 => 81
        | 3 => 3
        | 39 => 97
        | 0 => 0
        | 53 => 23
        | 55 => 111
        | 4 => 4
        | 46 => 104
        | 45 => 103
        | 50 => 66
        | 5 => 5
        | 9 => 9
        | 66 => 118
        | 70 => 122
        | 76 => 126
        | 77 => 127
        | n => n,
      g := fun x => x }
theorem zq4w : Go.Proofs.SlLaysF0.n6 Try.prog zq4v :=
  { mixed := by kernel_rfl,
    f6 := Exists.intro "slices.SortFunc[[]pagewatch/api.Attempt,pagewatch/api.Attempt]" ⟨of_decide_eq_true (by kernel_rfl), Eq.trans Try.func40 (congrArg some (by kernel_rfl))⟩,
    f14 := Exists.intro "slices.pdqsortCmpFunc[pagewatch/api.Attempt]" ⟨of_decide_eq_true (by kernel_rfl), Eq.trans Try.func65 (congrArg some (by kernel_rfl))⟩,
    f15 := Eq.trans Try.func66 (congrArg some (by kernel_rfl)),
    f20 := Exists.intro "slices.insertionSortCmpFunc[pagewatch/api.Attempt]" ⟨of_decide_eq_true (by kernel_rfl), Eq.trans Try.func73 (congrArg some (by kernel_rfl))⟩,
    f21 := Exists.intro "slices.heapSortCmpFunc[pagewatch/api.Attempt]" ⟨of_decide_eq_true (by kernel_rfl), Eq.trans Try.func74 (congrArg some (by kernel_rfl))⟩,
    f22 := Exists.intro "slices.breakPatternsCmpFunc[pagewatch/api.Attempt]" ⟨of_decide_eq_true (by kernel_rfl), Eq.trans Try.func75 (congrArg some (by kernel_rfl))⟩,
    f23 := Exists.intro "slices.choosePivotCmpFunc[pagewatch/api.Attempt]" ⟨of_decide_eq_true (by kernel_rfl), Eq.trans Try.func76 (congrArg some (by kernel_rfl))⟩,
    f24 := Exists.intro "slices.reverseRangeCmpFunc[pagewatch/api.Attempt]" ⟨of_decide_eq_true (by kernel_rfl), Eq.trans Try.func77 (congrArg some (by kernel_rfl))⟩,
    f25 := Exists.intro "slices.partialInsertionSortCmpFunc[pagewatch/api.Attempt]" ⟨of_decide_eq_true (by kernel_rfl), Eq.trans Try.func78 (congrArg some (by kernel_rfl))⟩,
    f26 := Exists.intro "slices.partitionEqualCmpFunc[pagewatch/api.Attempt]" ⟨of_decide_eq_true (by kernel_rfl), Eq.trans Try.func79 (congrArg some (by kernel_rfl))⟩,
    f27 := Exists.intro "slices.partitionCmpFunc[pagewatch/api.Attempt]" ⟨of_decide_eq_true (by kernel_rfl), Eq.trans Try.func80 (congrArg some (by kernel_rfl))⟩,
    f28 := Eq.trans Try.func81 (congrArg some (by kernel_rfl)),
    f29 := Eq.trans Try.func82 (congrArg some (by kernel_rfl)),
    f46 := Exists.intro "slices.siftDownCmpFunc[pagewatch/api.Attempt]" ⟨of_decide_eq_true (by kernel_rfl), Eq.trans Try.func92 (congrArg some (by kernel_rfl))⟩,
    f47 := Eq.trans Try.func93 (congrArg some (by kernel_rfl)),
    f48 := Eq.trans Try.func94 (congrArg some (by kernel_rfl)),
    f49 := Exists.intro "slices.medianAdjacentCmpFunc[pagewatch/api.Attempt]" ⟨of_decide_eq_true (by kernel_rfl), Eq.trans Try.func95 (congrArg some (by kernel_rfl))⟩,
    f50 := Exists.intro "slices.medianCmpFunc[pagewatch/api.Attempt]" ⟨of_decide_eq_true (by kernel_rfl), Eq.trans Try.func96 (congrArg some (by kernel_rfl))⟩,
    f57 := Exists.intro "slices.order2CmpFunc[pagewatch/api.Attempt]" ⟨of_decide_eq_true (by kernel_rfl), Eq.trans Try.func101 (congrArg some (by kernel_rfl))⟩,
    t0 := Try.underlying0,
    a0 := Try.isAgg0,
    z0 := Try.sizeOf0,
    v0 := Try.zeroValue0,
    t3 := Try.underlying3,
    a3 := Try.isAgg3,
    z3 := Try.sizeOf3,
    v3 := Try.zeroValue3,
    t4 := Try.underlying4,
    a4 := Try.isAgg4,
    z4 := Try.sizeOf4,
    v4 := Try.zeroValue4,
    t5 := Try.underlying5,
    a5 := Try.isAgg5,
    z5 := Try.sizeOf5,
    v5 := Try.zeroValue5,
    t9 := Try.underlying9,
    a9 := Try.isAgg9,
    z9 := Try.sizeOf9,
    v9 := Try.zeroValue9,
    t22 := Try.underlying33,
    a22 := Try.isAgg33,
    z22 := Try.sizeOf33,
    v22 := Try.zeroValue33,
    t25 := Try.underlying81,
    a25 := Try.isAgg81,
    z25 := Try.sizeOf81,
    v25 := Try.zeroValue81,
    t39 := Try.underlying97,
    a39 := Try.isAgg97,
    z39 := Try.sizeOf97,
    v39 := Try.zeroValue97,
    t45 := Try.underlying103,
    a45 := Try.isAgg103,
    z45 := Try.sizeOf103,
    v45 := Try.zeroValue103,
    t46 := Try.underlying104,
    a46 := Try.isAgg104,
    z46 := Try.sizeOf104,
    v46 := Try.zeroValue104,
    t50 := Try.underlying66,
    a50 := Try.isAgg66,
    z50 := Try.sizeOf66,
    v50 := Try.zeroValue66,
    t53 := Try.underlying23,
    a53 := Try.isAgg23,
    z53 := Try.sizeOf23,
    v53 := Try.zeroValue23,
    t55 := Try.underlying111,
    a55 := Try.isAgg111,
    z55 := Try.sizeOf111,
    v55 := Try.zeroValue111,
    t66 := Try.underlying118,
    a66 := Try.isAgg118,
    z66 := Try.sizeOf118,
    v66 := Try.zeroValue118,
    t70 := Try.underlying122,
    a70 := Try.isAgg122,
    z70 := Try.sizeOf122,
    v70 := Try.zeroValue122,
    t76 := Try.underlying126,
    a76 := Try.isAgg126,
    z76 := Try.sizeOf126,
    v76 := Try.zeroValue126,
    t77 := Try.underlying127,
    a77 := Try.isAgg127,
    z77 := Try.sizeOf127,
    v77 := Try.zeroValue127 }
def zq4x (x y z : Int) : Int := if x ≠ 0 then x else if y ≠ 0 then y else z
def zq4y : (Int × Int × Int) → Bool := fun x => (decide (0 ≤ x.1) && decide (x.1 ≤ 4611686018427387904)) && (decide (0 ≤ x.2.1) && decide (x.2.1 ≤ 4611686018427387904)) && (decide (0 ≤ x.2.2) && decide (x.2.2 ≤ 4611686018427387904))
def zq4z : (Int × Int × Int) → (Int × Int × Int) → Int := fun x y => zq4x (x.2.2 - y.2.2) (x.1 - y.1) (x.2.1 - y.2.1)
def zq50 : List (Int × Int × Int) → List (Int × Int × Int) := sortRun zq4y ((0, 0, 0) : Int × Int × Int) rfl zq4z

set_option maxHeartbeats 1000000 in
theorem zq51 (b cap : Nat) (x y z : Int) (w : World) (hx : w.cell? ⟨b, 0, none⟩ = some (.int .i64 x)) (hy : w.cell? ⟨b, 1, none⟩ = some (.int .i64 y)) (hz : w.cell? ⟨b, 2, none⟩ = some (.int .i64 z)) :
    Calls Try.prog 42 #[.slice (some ⟨b, 0, none⟩) 3 cap] w fun e w' => e = .returned (.int .i64 (zq4x x y z)) ∧ w' = w := by
  go_enter Try.func42, Try.ntmps42
  go_wp2
  go_loop [8] (fun i => (i = .int .i64 0 ∨ (i = .int .i64 1 ∧ x = 0) ∨ (i = .int .i64 2 ∧ x = 0 ∧ y = 0) ∨ (i = .int .i64 3 ∧ x = 0 ∧ y = 0 ∧ z = 0))) (fun i => match i with | .int _ n => 3 - n.toNat | _ => 0)
  case atStart => exact .inl rfl
  case round =>
    rcases hrel with rfl | ⟨rfl, rfl⟩ | ⟨rfl, rfl, rfl⟩ | ⟨rfl, rfl, rfl, rfl⟩
    · go_wp2
      · rename_i hne _
        have hn : x ≠ 0 := by simpa using hne
        have e : zq4x x y z = x := by unfold zq4x; rw [if_pos hn]
        rw [e]
        go_ret
        exact ⟨rfl, rfl⟩
      · rename_i he
        have hn : x = 0 := by simpa using he
        exact ⟨.inr (.inl ⟨rfl, hn⟩), by decide⟩
    · go_wp2
      · rename_i hne _
        have hn : y ≠ 0 := by simpa using hne
        have e : zq4x 0 y z = y := by unfold zq4x; rw [if_neg (by simp), if_pos hn]
        rw [e]
        go_ret
        exact ⟨rfl, rfl⟩
      · rename_i he
        have hn : y = 0 := by simpa using he
        exact ⟨.inr (.inr (.inl ⟨rfl, trivial, hn⟩)), by decide⟩
    · go_wp2
      · rename_i hne _
        have hn : z ≠ 0 := by simpa using hne
        have e : zq4x 0 0 z = z := by unfold zq4x; rw [if_neg (by simp), if_neg (by simp)]
        rw [e]
        go_ret
        exact ⟨rfl, rfl⟩
      · rename_i he
        have hn : z = 0 := by simpa using he
        exact ⟨.inr (.inr (.inr ⟨rfl, trivial, trivial, hn⟩)), by decide⟩
    · go_wp2
      go_ret
      exact ⟨rfl, rfl⟩

set_option maxHeartbeats 1000000 in
theorem zq52 (a0 a1 a2 b0 b1 b2 : Int) (W : World) (h1 : Go.RowKit.wrap64 (a2 - b2) = a2 - b2) (h2 : Go.RowKit.wrap64 (a0 - b0) = a0 - b0) (h3 : Go.RowKit.wrap64 (a1 - b1) = a1 - b1) :
    Calls Try.prog 41 #[.agg #[.int .i64 a0, .int .i64 a1, .int .i64 a2], .agg #[.int .i64 b0, .int .i64 b1, .int .i64 b2]] W fun e w' => e = .returned (.int .i64 (zq4x (a2 - b2) (a0 - b0) (a1 - b1))) ∧ ∃ q os', w' = Go.Sort.grow (W.drewN q) os' := by
  go_enter Try.func41, Try.ntmps41
  have hcall : ∀ (o1 o2 : Obj), Calls Try.prog 42 #[.slice (some ⟨W.heap.size + 1 + 1, 0, none⟩) 3 3] (((W.alloc o1).alloc o2).alloc (.cells #[.int .i64 (a2 - b2), .int .i64 (a0 - b0), .int .i64 (a1 - b1)] 3)) fun e w' => e = .returned (.int .i64 (zq4x (a2 - b2) (a0 - b0) (a1 - b1))) ∧ w' = (((W.alloc o1).alloc o2).alloc (.cells #[.int .i64 (a2 - b2), .int .i64 (a0 - b0), .int .i64 (a1 - b1)] 3)) := fun o1 o2 =>
    zq51 _ _ _ _ _ _ (by go_simp) (by go_simp) (by go_simp)
  go_wp2_with (refine (hcall _ _).mono ?_; rintro e w' ⟨rfl, rfl⟩)
  go_ret
  exact ⟨rfl, 0, _, by rw [Go.Sort.alloc_eq_grow, Go.Sort.alloc_eq_grow, Go.Sort.alloc_eq_grow, Go.Sort.grow_grow, Go.Sort.grow_grow]; rfl⟩
theorem zq53 (x y : Int × Int × Int) (hx : zq4y x = true) (hy : zq4y y = true) (W : World) : Calls Try.prog 41 #[.agg (encT (.prod (.int .i64) (.prod (.int .i64) (.int .i64))) x).toArray, .agg (encT (.prod (.int .i64) (.prod (.int .i64) (.int .i64))) y).toArray] W fun e w' => e = .returned (.int .i64 (zq4z x y)) ∧ ∃ q os', w' = Go.Sort.grow (W.drewN q) os' := by
  obtain ⟨a0, a1, a2⟩ := x
  obtain ⟨b0, b1, b2⟩ := y
  simp only [zq4y, Bool.and_eq_true, decide_eq_true_eq] at hx hy
  obtain ⟨⟨⟨p1, p2⟩, p3, p4⟩, p5, p6⟩ := hx
  obtain ⟨⟨⟨q1, q2⟩, q3, q4⟩, q5, q6⟩ := hy
  exact zq52 a0 a1 a2 b0 b1 b2 W (by unfold Go.RowKit.wrap64; omega) (by unfold Go.RowKit.wrap64; omega) (by unfold Go.RowKit.wrap64; omega)
theorem zq54 : Go.Sort.SWO (Go.Proofs.ltOf fun (x y : {x : Int × Int × Int // zq4y x = true}) => zq4z x.1 y.1) := by
  have key : ∀ a b : Int × Int × Int, zq4z a b < 0 ↔ (a.2.2 < b.2.2 ∨ (a.2.2 = b.2.2 ∧ (a.1 < b.1 ∨ (a.1 = b.1 ∧ a.2.1 < b.2.1)))) := by
    intro a b
    unfold zq4z zq4x
    split
    · omega
    · split <;> omega
  constructor
  · intro x
    refine decide_eq_false ?_
    rw [key]
    omega
  · intro x y z h1 h2
    have h1 := of_decide_eq_true h1
    have h2 := of_decide_eq_true h2
    rw [key] at h1 h2
    refine decide_eq_true ?_
    rw [key]
    omega
  · intro x y z h1 h2
    have h1 := of_decide_eq_false h1
    have h2 := of_decide_eq_false h2
    rw [key] at h1 h2
    refine decide_eq_false ?_
    rw [key]
    omega
def zq55 : RowF := ⟨39, (.prod (.int .i64) (.prod (.int .i64) (.int .i64))), false, fun l => List.all l zq4y && decide (List.length l < 4611686018427387904), zq50, some 41⟩
theorem zq56 : RowOk Try.prog 40 zq55 :=
  sortFunc_rowok (t := 39) (e := (.prod (.int .i64) (.prod (.int .i64) (.int .i64)))) (good := zq4y) (d0 := ((0, 0, 0) : Int × Int × Int)) (h0 := rfl) (cf := zq4z) (g := 41) rfl (by decide) zq4w rfl Try.isAgg39 Try.sizeOf39 zq54 (Go.Proofs.enters_of Try.func41 (by kernel_rfl) rfl) zq53 ⟨_, Try.func40, by kernel_rfl, by kernel_rfl⟩

/-- pagewatch/delivery.Plan -/
abbrev zq57 := {β : Type} → (Int × List (Int × (Int × (Int × Int)))) → Int → ((List (Int × (Int × Int))) → Option β) → Option β
def zq58 (c : zq57) : Spec :=
  ⟨[(true, [.data (.prod (.int .i64) (.slice (.prod (.int .i64) (.prod (.int .i64) (.prod (.int .i64) (.int .i64))))))]), (false, [.data (.int .i64)])], [], [(false, [.rowh 0])], [.row 39 (.prod (.int .i64) (.prod (.int .i64) (.int .i64)))], fun x k => c x.1.1.1 x.1.2.1.1 (fun r0 => k (((), ()), (r0, ())))⟩
noncomputable def delivery_Plan_p2_code : Code := codeAt 122 (bodyOf Try.f13)
noncomputable def delivery_Plan_p1_code : Code := codeAt 230 (loopBody delivery_Plan_p2_code)
abbrev zq59 (β : Type) := Int → (List (Int × (Int × (Int × Int)))) → Int → Int → (List (Int × (Int × Int))) → Option β
abbrev zq5a := {β : Type} → zq59 β → Int → Int → (List (Int × (Int × (Int × Int)))) → Int → Int → Int → Int → (List (Int × (Int × Int))) → Int → Int → Int → Int → Option β
def zq5b : View := ⟨0, [1, 5, 6, 7, 18, 19, 20, 26, 27], [(false, [.data (.int .i64)]), (false, [.rowh 0]), (false, [.data (.int .i64)]), (false, [.ptr 1 0]), (false, [.data (.slice (.prod (.int .i64) (.prod (.int .i64) (.prod (.int .i64) (.int .i64)))))]), (false, [.data (.int .i64)]), (false, [.data (.int .i64)]), (false, [.data (.int .i64)]), (false, [.data (.int .i64)])], [.row 39 (.prod (.int .i64) (.prod (.int .i64) (.int .i64))), .cells 36 [.data (.int .i64), .data (.int .i64), .data (.int .i64), .data (.int .i64)]]⟩
def zq5c : List (AExit × View) := [(.exit 2, ⟨0, [1, 5, 18, 19, 20], [(false, [.data (.int .i64)]), (false, [.rowh 0]), (false, [.data (.slice (.prod (.int .i64) (.prod (.int .i64) (.prod (.int .i64) (.int .i64)))))]), (false, [.data (.int .i64)]), (false, [.data (.int .i64)])], [.row 39 (.prod (.int .i64) (.prod (.int .i64) (.int .i64)))]⟩)]
@[reducible] def delivery_Plan_p1_G (p : zq5a) {β : Type} (d : zq5b.den) (ks : Outs.K β zq5c) : Option β :=
  p (fun a0 a1 a2 a3 a4 => ks.1 (((a0, ()), (), (a1, ()), (a2, ()), (a3, ()), ()), (a4, ()))) d.1.1.1 d.1.2.2.1.1 d.1.2.2.2.2.1.1 d.1.2.2.2.2.2.1.1 d.1.2.2.2.2.2.2.1.1 d.1.2.2.2.2.2.2.2.1.1 d.1.2.2.2.2.2.2.2.2.1.1 d.2.1 d.2.2.1.1 d.2.2.1.2.1 d.2.2.1.2.2.1 d.2.2.1.2.2.2.1
abbrev zq5d (β : Type) := (List (Int × (Int × Int))) → Option β
abbrev zq5e := {β : Type} → zq5d β → Int → (List (Int × (Int × (Int × Int)))) → Int → Int → (List (Int × (Int × Int))) → Option β
def zq5f : View := ⟨0, [1, 5, 18, 19, 20], [(false, [.data (.int .i64)]), (false, [.rowh 0]), (false, [.data (.slice (.prod (.int .i64) (.prod (.int .i64) (.prod (.int .i64) (.int .i64)))))]), (false, [.data (.int .i64)]), (false, [.data (.int .i64)])], [.row 39 (.prod (.int .i64) (.prod (.int .i64) (.int .i64)))]⟩
def zq5g : List (AExit × View) := [(.exit 0, ⟨0, [5], [(false, [.rowh 0])], [.row 39 (.prod (.int .i64) (.prod (.int .i64) (.int .i64)))]⟩)]
@[reducible] def delivery_Plan_p2_G (p : zq5e) {β : Type} (d : zq5f.den) (ks : Outs.K β zq5g) : Option β :=
  p (fun a0 => ks.1 (((), ()), (a0, ()))) d.1.1.1 d.1.2.2.1.1 d.1.2.2.2.1.1 d.1.2.2.2.2.1.1 d.2.1
section
variable (c_delivery_Valid : zq4o) (c_delivery_in : zq13)
@[reducible] def delivery_Plan_X : Ctx := ⟨look tab, pick1 [(31, .spec (zq4p c_delivery_Valid)), (39, .spec (zq14 c_delivery_in)), (40, .rows zq55)], false, false, false, false⟩
def zq5h {β : Type} (rec : Int → Int → (List (Int × (Int × (Int × Int)))) → Int → Int → Int → Int → (List (Int × (Int × Int))) → Int → Int → Int → Int → Option β) (k1 : zq59 β) (start : Int) (c : Int) (t18 : List (Int × (Int × (Int × Int)))) (t19 : Int) (t20 : Int) (t26 : Int) (t27 : Int) (out : List (Int × (Int × Int))) (ch : Int) (ch2 : Int) (ch3 : Int) (ch4 : Int) : Option β :=
  cond (decide (t27 < t26))
  (let l : List (Int × (Int × Int)) := ([(c, (t27, (IntKind.i64.wrap (start + (IntKind.i64.wrap (t27 * ch4))))))] : List (Int × (Int × Int)));
  cond (decide ((List.length out + List.length l) * 24 ≤ roomMax))
  (let l2 : List (Int × (Int × Int)) := (out ++ l);
  rec start c t18 t19 t20 t26 (IntKind.i64.wrap (t27 + (1 : Int))) l2 ch ch2 ch3 ch4)
  none)
  (k1 start t18 t19 t20 out)
def zq5i {β : Type} : Nat → zq59 β → Int → Int → (List (Int × (Int × (Int × Int)))) → Int → Int → Int → Int → (List (Int × (Int × Int))) → Int → Int → Int → Int → Option β
  | 0 => fun _ _ _ _ _ _ _ _ _ _ _ _ _ => none
  | i + 1 => fun k1 start c t18 t19 t20 t26 t27 out ch ch2 ch3 ch4 => zq5h (zq5i i k1) k1 start c t18 t19 t20 t26 t27 out ch ch2 ch3 ch4
theorem zq5j (hΓ : ΓOk Try.prog (delivery_Plan_X c_delivery_Valid c_delivery_in).Γ) (i : Nat) : PieceOk Try.prog 47 0 delivery_Plan_p1_code zq5b zq5c (delivery_Plan_p1_G (zq5i i)) := by
  rw [show delivery_Plan_p1_code = .loop (loopBody delivery_Plan_p1_code) by kernel_rfl]
  exact piece_loop (X := (delivery_Plan_X c_delivery_Valid c_delivery_in)) (p := 1) (Λ := pick1 []) (G := fun i => @fun β d ks => delivery_Plan_p1_G (zq5i i) d ks) mixed tab_ok hΓ rfl (by kernel_rfl) CutsOk_nil (fun _ _ => rfl) (fun i => @fun β d ks r h => Eq.trans (b := delivery_Plan_p1_G (zq5i (i + 1)) d ks) (by kernel_rfl) h) i
def zq5k (p1 : zq5a) {β : Type} (rec : Int → (List (Int × (Int × (Int × Int)))) → Int → Int → (List (Int × (Int × Int))) → Option β) (k1 : zq5d β) (start : Int) (t18 : List (Int × (Int × (Int × Int)))) (t19 : Int) (t20 : Int) (out : List (Int × (Int × Int))) : Option β :=
  cond (decide (t20 < t19))
  (cond (decide (0 ≤ t20) && decide (t20 < (List.length t18 : Int)))
  (let e : (Int × (Int × (Int × Int))) := List.getD t18 (Int.toNat t20) ((0 : Int), ((0 : Int), ((0 : Int), (0 : Int))));
  p1 (fun (start2 : Int) (t182 : List (Int × (Int × (Int × Int)))) (t192 : Int) (t202 : Int) (out2 : List (Int × (Int × Int))) =>
  rec start2 t182 t192 (IntKind.i64.wrap (t202 + (1 : Int))) out2) start t20 t18 t19 t20 e.2.2.1 (0 : Int) out e.1 e.2.1 e.2.2.1 e.2.2.2)
  none)
  (k1 out)
def zq5l (p1 : zq5a) {β : Type} : Nat → zq5d β → Int → (List (Int × (Int × (Int × Int)))) → Int → Int → (List (Int × (Int × Int))) → Option β
  | 0 => fun _ _ _ _ _ _ => none
  | i + 1 => fun k1 start t18 t19 t20 out => zq5k p1 (zq5l p1 i k1) k1 start t18 t19 t20 out
theorem zq5m (hΓ : ΓOk Try.prog (delivery_Plan_X c_delivery_Valid c_delivery_in).Γ) (p1 : zq5a) (hp1 : PieceOk Try.prog 47 0 delivery_Plan_p1_code zq5b zq5c (delivery_Plan_p1_G p1)) (i : Nat) : PieceOk Try.prog 47 0 delivery_Plan_p2_code zq5f zq5g (delivery_Plan_p2_G (zq5l p1 i)) := by
  rw [show delivery_Plan_p2_code = .loop (loopBody delivery_Plan_p2_code) by kernel_rfl]
  exact piece_loop (X := (delivery_Plan_X c_delivery_Valid c_delivery_in)) (p := 1) (Λ := pick1 [(230, pieceCut zq5b zq5c (delivery_Plan_p1_G p1))]) (G := fun i => @fun β d ks => delivery_Plan_p2_G (zq5l p1 i) d ks) mixed tab_ok hΓ rfl (by kernel_rfl) (CutsOk_cons (q := 230) (c' := delivery_Plan_p1_code) (by kernel_rfl) rfl hp1 CutsOk_nil) (fun _ _ => rfl) (fun i => @fun β d ks r h => Eq.trans (b := delivery_Plan_p2_G (zq5l p1 (i + 1)) d ks) (by kernel_rfl) h) i
def zq5n (p2 : zq5e) {β : Type} (p_ : (Int × List (Int × (Int × (Int × Int))))) (start : Int) (k : ((List (Int × (Int × Int))) → Option β)) : Option β :=
  c_delivery_Valid p_ (fun (rValid : Bool) =>
  cond (!rValid)
  (k ([] : List (Int × (Int × Int))))
  (c_delivery_in start (0 : Int) (8589934592 : Int) (fun (rin : Bool) =>
  cond (!rin)
  (k ([] : List (Int × (Int × Int))))
  (p2 (fun (out : List (Int × (Int × Int))) =>
  cond ((List.all out zq4y) && decide (List.length out < 4611686018427387904))
  (let l : List (Int × (Int × Int)) := (zq50 out);
  k l)
  none) start p_.2 (List.length p_.2 : Int) (0 : Int) ([] : List (Int × (Int × Int)))))))
theorem zq5o (hΓ : ΓOk Try.prog (delivery_Plan_X c_delivery_Valid c_delivery_in).Γ) (p2 : zq5e) (hp2 : PieceOk Try.prog 47 0 delivery_Plan_p2_code zq5f zq5g (delivery_Plan_p2_G p2)) : SpecOk Try.prog 13 (zq58 (zq5n c_delivery_Valid c_delivery_in p2)) :=
  spec_exec (X := (delivery_Plan_X c_delivery_Valid c_delivery_in)) (Λ := pick1 [(122, pieceCut zq5f zq5g (delivery_Plan_p2_G p2))]) (rs := [.tmp 4]) (c := bodyOf Try.f13) mixed tab_ok hΓ Try.func13 (by kernel_rfl) (by kernel_rfl) (by kernel_rfl) (by kernel_rfl) (CutsOk_cons (q := 122) (c' := delivery_Plan_p2_code) (by kernel_rfl) rfl hp2 CutsOk_nil) (fun x k r h => Eq.trans (b := (zq58 (zq5n c_delivery_Valid c_delivery_in p2)).run x k) (by kernel_rfl) h)
end
theorem zq5pΓ : ΓOk Try.prog (pick1 [(31, .spec (zq4p zq4t)), (39, .spec (zq14 zq18)), (40, .rows zq55)]) := (ΓOk_cons zq4u (ΓOk_cons zq19 (ΓOk_row zq56 ΓOk_nil)))
def zq5q (m : Nat) : zq5a := zq5i m
theorem zq5r {β : Type} (i : Nat) (k1 start c t18 t19 t20 t26 t27 out ch ch2 ch3 ch4) : (zq5q (i + 1) k1 start c t18 t19 t20 t26 t27 out ch ch2 ch3 ch4 : Option β) = zq5h (zq5q i k1) k1 start c t18 t19 t20 t26 t27 out ch ch2 ch3 ch4 := rfl
def zq5s : zq5a := zq5q fuel
theorem zq5t : PieceOk Try.prog 47 0 delivery_Plan_p1_code zq5b zq5c (delivery_Plan_p1_G zq5s) := zq5j zq4t zq18 zq5pΓ fuel
def zq5u (m : Nat) : zq5e := zq5l zq5s m
theorem zq5v {β : Type} (i : Nat) (k1 start t18 t19 t20 out) : (zq5u (i + 1) k1 start t18 t19 t20 out : Option β) = zq5k zq5s (zq5u i k1) k1 start t18 t19 t20 out := rfl
def zq5w : zq5e := zq5u fuel
theorem zq5x : PieceOk Try.prog 47 0 delivery_Plan_p2_code zq5f zq5g (delivery_Plan_p2_G zq5w) := zq5m zq4t zq18 zq5pΓ zq5s zq5t fuel
def zq5y : zq57 := zq5n zq4t zq18 zq5w
theorem zq5z : SpecOk Try.prog 13 (zq58 zq5y) := zq5o zq4t zq18 zq5pΓ zq5w zq5x

/-- slices.IndexFunc[[]int,int] -/
abbrev zq60 := {β : Type} → (List Int) → (Int × (Int × Int)) → (Int → (Int × (Int × Int)) → Option β) → Option β
def zq61 (c : zq60) : Spec :=
  ⟨[(false, [.data (.slice (.int .i64))]), (false, [.fn 45 [0]])], [.cells 39 [.data (.prod (.int .i64) (.prod (.int .i64) (.int .i64)))]], [(false, [.data (.int .i64)])], [.cells 39 [.data (.prod (.int .i64) (.prod (.int .i64) (.int .i64)))]], fun x k => c x.1.1.1 x.2.1.1 (fun r0 r1 => k (((r0, ()), ()), ((r1, ()), ())))⟩
noncomputable def slices_IndexFunc_int_int_vdelivery_Run_f1_p1_code : Code := codeAt 26 (bodyOf Try.f67)
abbrev zq62 (β : Type) := Int → Int → Int → Int → Option β
abbrev zq63 (β : Type) := Int → Int → Int → Option β
abbrev zq64 := {β : Type} → zq62 β → zq63 β → (List Int) → Int → Int → Int → Int → Int → Option β
def zq65 : View := ⟨1, [0, 1, 7, 8], [(false, [.data (.slice (.int .i64))]), (false, [.fn 45 [0]]), (false, [.data (.int .i64)]), (false, [.data (.int .i64)])], [.cells 39 [.data (.int .i64), .data (.int .i64), .data (.int .i64)]]⟩
def zq66 : List (AExit × View) := [(.ret, ⟨1, [4], [(false, [.data (.int .i64)])], [.cells 39 [.data (.int .i64), .data (.int .i64), .data (.int .i64)]]⟩), (.exit 0, ⟨1, [], [], [.cells 39 [.data (.int .i64), .data (.int .i64), .data (.int .i64)]]⟩)]
@[reducible] def slices_IndexFunc_int_int_vdelivery_Run_f1_p1_G (p : zq64) {β : Type} (d : zq65.den) (ks : Outs.K β zq66) : Option β :=
  p (fun a0 a1 a2 a3 => ks.1 (((a0, ()), ()), ((a1, a2, a3, ()), ()))) (fun a0 a1 a2 => ks.2.1 ((), ((a0, a1, a2, ()), ()))) d.1.1.1 d.1.2.2.1.1 d.1.2.2.2.1.1 d.2.1.1 d.2.1.2.1 d.2.1.2.2.1
section
variable (c_delivery_Run_f1 : zq1a)
@[reducible] def slices_IndexFunc_int_int_vdelivery_Run_f1_X : Ctx := ⟨look tab, pick1 [(45, .spec (zq1b c_delivery_Run_f1))], false, false, false, false⟩
def zq67 {β : Type} (rec : (List Int) → Int → Int → Int → Int → Int → Option β) (k1 : zq62 β) (k2 : zq63 β) (s : List Int) (t7 : Int) (t8 : Int) (b0_ : Int) (b0_2 : Int) (b0_3 : Int) : Option β :=
  cond (decide (t8 < t7))
  (cond (decide (0 ≤ t8) && decide (t8 < (List.length s : Int)))
  (let e : Int := List.getD s (Int.toNat t8) (0 : Int);
  c_delivery_Run_f1 e (b0_, (b0_2, b0_3)) (fun (rRun1 : Bool) (mrRun1 : (Int × (Int × Int))) =>
  cond rRun1
  (k1 t8 mrRun1.1 mrRun1.2.1 mrRun1.2.2)
  (rec s t7 (IntKind.i64.wrap (t8 + (1 : Int))) mrRun1.1 mrRun1.2.1 mrRun1.2.2)))
  none)
  (k2 b0_ b0_2 b0_3)
def zq68 {β : Type} : Nat → zq62 β → zq63 β → (List Int) → Int → Int → Int → Int → Int → Option β
  | 0 => fun _ _ _ _ _ _ _ _ => none
  | i + 1 => fun k1 k2 s t7 t8 b0_ b0_2 b0_3 => zq67 c_delivery_Run_f1 (zq68 i k1 k2) k1 k2 s t7 t8 b0_ b0_2 b0_3
theorem zq69 (hΓ : ΓOk Try.prog (slices_IndexFunc_int_int_vdelivery_Run_f1_X c_delivery_Run_f1).Γ) (i : Nat) : PieceOk Try.prog 19 1 slices_IndexFunc_int_int_vdelivery_Run_f1_p1_code zq65 zq66 (slices_IndexFunc_int_int_vdelivery_Run_f1_p1_G (zq68 c_delivery_Run_f1 i)) := by
  rw [show slices_IndexFunc_int_int_vdelivery_Run_f1_p1_code = .loop (loopBody slices_IndexFunc_int_int_vdelivery_Run_f1_p1_code) by kernel_rfl]
  exact piece_loop (X := (slices_IndexFunc_int_int_vdelivery_Run_f1_X c_delivery_Run_f1)) (p := 1) (Λ := pick1 []) (G := fun i => @fun β d ks => slices_IndexFunc_int_int_vdelivery_Run_f1_p1_G (zq68 c_delivery_Run_f1 i) d ks) mixed tab_ok hΓ rfl (by kernel_rfl) CutsOk_nil (fun _ _ => rfl) (fun i => @fun β d ks r h => Eq.trans (b := slices_IndexFunc_int_int_vdelivery_Run_f1_p1_G (zq68 c_delivery_Run_f1 (i + 1)) d ks) (by kernel_rfl) h) i
def zq6a (p1 : zq64) {β : Type} (s : List Int) (b0_ : (Int × (Int × Int))) (k : (Int → (Int × (Int × Int)) → Option β)) : Option β :=
  p1 (fun (t4 : Int) (b0_2 : Int) (b0_3 : Int) (b0_4 : Int) =>
  k t4 (b0_2, (b0_3, b0_4))) (fun (b0_2 : Int) (b0_3 : Int) (b0_4 : Int) =>
  k (-1 : Int) (b0_2, (b0_3, b0_4))) s (List.length s : Int) (0 : Int) b0_.1 b0_.2.1 b0_.2.2
theorem zq6b (hΓ : ΓOk Try.prog (slices_IndexFunc_int_int_vdelivery_Run_f1_X c_delivery_Run_f1).Γ) (p1 : zq64) (hp1 : PieceOk Try.prog 19 1 slices_IndexFunc_int_int_vdelivery_Run_f1_p1_code zq65 zq66 (slices_IndexFunc_int_int_vdelivery_Run_f1_p1_G p1)) : SpecOk Try.prog 67 (zq61 (zq6a p1)) :=
  spec_exec (X := (slices_IndexFunc_int_int_vdelivery_Run_f1_X c_delivery_Run_f1)) (Λ := pick1 [(26, pieceCut zq65 zq66 (slices_IndexFunc_int_int_vdelivery_Run_f1_p1_G p1))]) (rs := [.tmp 4]) (c := bodyOf Try.f67) mixed tab_ok hΓ Try.func67 (by kernel_rfl) (by kernel_rfl) (by kernel_rfl) (by kernel_rfl) (CutsOk_cons (q := 26) (c' := slices_IndexFunc_int_int_vdelivery_Run_f1_p1_code) (by kernel_rfl) rfl hp1 CutsOk_nil) (fun x k r h => Eq.trans (b := (zq61 (zq6a p1)).run x k) (by kernel_rfl) h)
end
theorem zq6cΓ : ΓOk Try.prog (pick1 [(45, .spec (zq1b zq1f))]) := (ΓOk_cons zq1g ΓOk_nil)
def zq6d (m : Nat) : zq64 := zq68 zq1f m
theorem zq6e {β : Type} (i : Nat) (k1 k2 s t7 t8 b0_ b0_2 b0_3) : (zq6d (i + 1) k1 k2 s t7 t8 b0_ b0_2 b0_3 : Option β) = zq67 zq1f (zq6d i k1 k2) k1 k2 s t7 t8 b0_ b0_2 b0_3 := rfl
def zq6f : zq64 := zq6d fuel
theorem zq6g : PieceOk Try.prog 19 1 slices_IndexFunc_int_int_vdelivery_Run_f1_p1_code zq65 zq66 (slices_IndexFunc_int_int_vdelivery_Run_f1_p1_G zq6f) := zq69 zq1f zq6cΓ fuel
def zq6h : zq60 := zq6a zq6f
theorem zq6i : SpecOk Try.prog 67 (zq61 zq6h) := zq6b zq1f zq6cΓ zq6f zq6g

/-- slices.ContainsFunc[[]int,int] -/
abbrev zq6j := {β : Type} → (List Int) → (Int × (Int × Int)) → (Bool → (Int × (Int × Int)) → Option β) → Option β
def zq6k (c : zq6j) : Spec :=
  ⟨[(false, [.data (.slice (.int .i64))]), (false, [.fn 45 [0]])], [.cells 39 [.data (.prod (.int .i64) (.prod (.int .i64) (.int .i64)))]], [(false, [.data .bool])], [.cells 39 [.data (.prod (.int .i64) (.prod (.int .i64) (.int .i64)))]], fun x k => c x.1.1.1 x.2.1.1 (fun r0 r1 => k (((r0, ()), ()), ((r1, ()), ())))⟩
section
variable (c_slices_IndexFunc_int_int_vdelivery_Run_f1 : zq60)
@[reducible] def slices_ContainsFunc_int_int_vdelivery_Run_f1_X : Ctx := ⟨look tab, pick1 [(67, .spec (zq61 c_slices_IndexFunc_int_int_vdelivery_Run_f1))], false, false, false, false⟩
def zq6l {β : Type} (s : List Int) (b0_ : (Int × (Int × Int))) (k : (Bool → (Int × (Int × Int)) → Option β)) : Option β :=
  c_slices_IndexFunc_int_int_vdelivery_Run_f1 s b0_ (fun (rIndexFuncintint : Int) (mrIndexFuncintint : (Int × (Int × Int))) =>
  let t : Bool := (decide ((0 : Int) ≤ rIndexFuncintint));
  k t mrIndexFuncintint)
theorem zq6m (hΓ : ΓOk Try.prog (slices_ContainsFunc_int_int_vdelivery_Run_f1_X c_slices_IndexFunc_int_int_vdelivery_Run_f1).Γ) : SpecOk Try.prog 44 (zq6k (zq6l c_slices_IndexFunc_int_int_vdelivery_Run_f1)) :=
  spec_exec (X := (slices_ContainsFunc_int_int_vdelivery_Run_f1_X c_slices_IndexFunc_int_int_vdelivery_Run_f1)) (Λ := pick1 []) (rs := [.tmp 4]) (c := bodyOf Try.f44) mixed tab_ok hΓ Try.func44 (by kernel_rfl) (by kernel_rfl) (by kernel_rfl) (by kernel_rfl) CutsOk_nil (fun x k r h => Eq.trans (b := (zq6k (zq6l c_slices_IndexFunc_int_int_vdelivery_Run_f1)).run x k) (by kernel_rfl) h)
end
theorem zq6nΓ : ΓOk Try.prog (pick1 [(67, .spec (zq61 zq6h))]) := (ΓOk_cons zq6i ΓOk_nil)
def zq6o : zq6j := zq6l zq6h
theorem zq6p : SpecOk Try.prog 44 (zq6k zq6o) := zq6m zq6h zq6nΓ

/-- pagewatch/delivery.Run -/
abbrev zq6q := {β : Type} → (Int × List (Int × (Int × (Int × Int)))) → Int → (List (List zq0)) → (Int → (List Int) → (List Int) → Option β) → Option β
def zq6r (c : zq6q) : Spec :=
  ⟨[(true, [.data (.prod (.int .i64) (.slice (.prod (.int .i64) (.prod (.int .i64) (.prod (.int .i64) (.int .i64))))))]), (false, [.data (.int .i64)]), (false, [.data (.slice (.slice zq1))])], [], [(false, [.rowh 0]), (false, [.rowh 1]), (false, [.data (.int .i64)])], [.row 3 (.int .i64), .row 3 (.int .i64)], fun x k => c x.1.1.1 x.1.2.1.1 x.1.2.2.1.1 (fun r0 r1 r2 => k (((), (), (r0, ()), ()), (r1, r2, ())))⟩
noncomputable def delivery_Run_p3_code : Code := codeAt 58 (bodyOf Try.f16)
noncomputable def delivery_Run_p1_code : Code := codeAt 463 (loopBody delivery_Run_p3_code)
noncomputable def delivery_Run_p2_code : Code := codeAt 115 (loopBody delivery_Run_p3_code)
abbrev zq6s (β : Type) := (List (List zq0)) → Int → Int → Int → (List Int) → (List Int) → (List (Int × (Int × Int))) → Option β
abbrev zq6t := {β : Type} → zq6s β → (List (List zq0)) → Int → (List zq0) → Int → Int → (List Int) → (List Int) → (List (Int × (Int × Int))) → Int → Int → Int → Option β
def zq6u : View := ⟨0, [2, 6, 7, 8, 9, 11, 12, 17, 18, 19], [(false, [.data (.slice (.slice zq1))]), (false, [.rowh 0]), (false, [.rowh 1]), (false, [.data (.int .i64)]), (false, [.rowh 2]), (false, [.ptr 3 0]), (false, [.data (.slice zq1)]), (false, [.rowh 2]), (false, [.data (.int .i64)]), (false, [.data (.int .i64)])], [.row 3 (.int .i64), .row 3 (.int .i64), .row 39 (.prod (.int .i64) (.prod (.int .i64) (.int .i64))), .cells 39 [.data (.int .i64), .data (.int .i64), .data (.int .i64)]]⟩
def zq6v : List (AExit × View) := [(.normal, ⟨0, [2, 6, 7, 8, 9, 17, 18, 19], [(false, [.data (.slice (.slice zq1))]), (false, [.rowh 0]), (false, [.rowh 1]), (false, [.data (.int .i64)]), (false, [.rowh 2]), (false, [.rowh 2]), (false, [.data (.int .i64)]), (false, [.data (.int .i64)])], [.row 3 (.int .i64), .row 3 (.int .i64), .row 39 (.prod (.int .i64) (.prod (.int .i64) (.int .i64)))]⟩)]
@[reducible] def delivery_Run_p1_G (p : zq6t) {β : Type} (d : zq6u.den) (ks : Outs.K β zq6v) : Option β :=
  p (fun a0 a1 a2 a3 a4 a5 a6 => ks.1 (((a0, ()), (), (), (a1, ()), (), (), (a2, ()), (a3, ()), ()), (a4, a5, a6, ()))) d.1.1.1 d.1.2.2.2.1.1 d.1.2.2.2.2.2.2.1.1 d.1.2.2.2.2.2.2.2.2.1.1 d.1.2.2.2.2.2.2.2.2.2.1.1 d.2.1 d.2.2.1 d.2.2.2.1 d.2.2.2.2.1.1 d.2.2.2.2.1.2.1 d.2.2.2.2.1.2.2.1
abbrev zq6w (β : Type) := (List (List zq0)) → Int → Int → Int → (List Int) → (List Int) → (List (Int × (Int × Int))) → Option β
abbrev zq6x := {β : Type} → zq6w β → (List (List zq0)) → Int → Int → Int → (List Int) → (List Int) → (List (Int × (Int × Int))) → Int → Int → Int → Option β
def zq6y : View := ⟨0, [2, 6, 7, 8, 9, 11, 17, 18, 19], [(false, [.data (.slice (.slice zq1))]), (false, [.rowh 0]), (false, [.rowh 1]), (false, [.data (.int .i64)]), (false, [.rowh 2]), (false, [.ptr 3 0]), (false, [.rowh 2]), (false, [.data (.int .i64)]), (false, [.data (.int .i64)])], [.row 3 (.int .i64), .row 3 (.int .i64), .row 39 (.prod (.int .i64) (.prod (.int .i64) (.int .i64))), .cells 39 [.data (.int .i64), .data (.int .i64), .data (.int .i64)]]⟩
def zq6z : List (AExit × View) := [(.normal, ⟨0, [2, 6, 7, 8, 9, 17, 18, 19], [(false, [.data (.slice (.slice zq1))]), (false, [.rowh 0]), (false, [.rowh 1]), (false, [.data (.int .i64)]), (false, [.rowh 2]), (false, [.rowh 2]), (false, [.data (.int .i64)]), (false, [.data (.int .i64)])], [.row 3 (.int .i64), .row 3 (.int .i64), .row 39 (.prod (.int .i64) (.prod (.int .i64) (.int .i64)))]⟩)]
@[reducible] def delivery_Run_p2_G (p : zq6x) {β : Type} (d : zq6y.den) (ks : Outs.K β zq6z) : Option β :=
  p (fun a0 a1 a2 a3 a4 a5 a6 => ks.1 (((a0, ()), (), (), (a1, ()), (), (), (a2, ()), (a3, ()), ()), (a4, a5, a6, ()))) d.1.1.1 d.1.2.2.2.1.1 d.1.2.2.2.2.2.2.2.1.1 d.1.2.2.2.2.2.2.2.2.1.1 d.2.1 d.2.2.1 d.2.2.2.1 d.2.2.2.2.1.1 d.2.2.2.2.1.2.1 d.2.2.2.2.1.2.2.1
abbrev zq70 (β : Type) := Int → (List Int) → (List Int) → Option β
abbrev zq71 := {β : Type} → zq70 β → (List (List zq0)) → Int → Int → Int → (List Int) → (List Int) → (List (Int × (Int × Int))) → Option β
def zq72 : View := ⟨0, [2, 6, 7, 8, 9, 17, 18, 19], [(false, [.data (.slice (.slice zq1))]), (false, [.rowh 0]), (false, [.rowh 1]), (false, [.data (.int .i64)]), (false, [.rowh 2]), (false, [.rowh 2]), (false, [.data (.int .i64)]), (false, [.data (.int .i64)])], [.row 3 (.int .i64), .row 3 (.int .i64), .row 39 (.prod (.int .i64) (.prod (.int .i64) (.int .i64)))]⟩
def zq73 : List (AExit × View) := [(.exit 0, ⟨0, [6, 7, 8], [(false, [.rowh 0]), (false, [.rowh 1]), (false, [.data (.int .i64)])], [.row 3 (.int .i64), .row 3 (.int .i64)]⟩)]
@[reducible] def delivery_Run_p3_G (p : zq71) {β : Type} (d : zq72.den) (ks : Outs.K β zq73) : Option β :=
  p (fun a0 a1 a2 => ks.1 (((), (), (a0, ()), ()), (a1, a2, ()))) d.1.1.1 d.1.2.2.2.1.1 d.1.2.2.2.2.2.2.1.1 d.1.2.2.2.2.2.2.2.1.1 d.2.1 d.2.2.1 d.2.2.2.1
section
variable (c_channel_Arrivals : zq2v) (c_channel_Fates : zq2o) (c_channel_Receipts : zq32) (c_delivery_Plan : zq57) (c_slices_ContainsFunc_int_int_vdelivery_Run_f1 : zq6j)
@[reducible] def delivery_Run_X : Ctx := ⟨look tab, pick1 [(47, .spec (zq2w c_channel_Arrivals)), (46, .spec (zq2p c_channel_Fates)), (48, .spec (zq33 c_channel_Receipts)), (13, .spec (zq58 c_delivery_Plan)), (44, .spec (zq6k c_slices_ContainsFunc_int_int_vdelivery_Run_f1)), (49, .rows zq1j)], false, false, false, false⟩
def zq74 {β : Type} (k1 : zq6s β) (fates : List (List zq0)) (sent : Int) (f : List zq0) (t18 : Int) (t19 : Int) (arrivals : List Int) (receipts : List Int) (l : List (Int × (Int × Int))) (a : Int) (a2 : Int) (a3 : Int) : Option β :=
  c_channel_Fates f a2 (fun (rFates : zq0) =>
  c_channel_Arrivals a3 rFates (fun (lrArrivals : List Int) =>
  cond (decide ((List.length arrivals + List.length lrArrivals) * 8 ≤ roomMax))
  (let l2 : List Int := (arrivals ++ lrArrivals);
  c_channel_Receipts a3 rFates (fun (lrReceipts : List Int) =>
  cond (decide ((List.length receipts + List.length lrReceipts) * 8 ≤ roomMax))
  (let l3 : List Int := (receipts ++ lrReceipts);
  let sent2 : Int := (IntKind.i64.wrap (sent + (1 : Int)));
  k1 fates sent2 t18 t19 l2 l3 l)
  none))
  none))
def zq75 {β : Type} (k1 : zq6s β) (fates : List (List zq0)) (sent : Int) (f : List zq0) (t18 : Int) (t19 : Int) (arrivals : List Int) (receipts : List Int) (l : List (Int × (Int × Int))) (a : Int) (a2 : Int) (a3 : Int) : Option β := zq74 c_channel_Arrivals c_channel_Fates c_channel_Receipts k1 fates sent f t18 t19 arrivals receipts l a a2 a3
theorem zq76 (hΓ : ΓOk Try.prog (delivery_Run_X c_channel_Arrivals c_channel_Fates c_channel_Receipts c_delivery_Plan c_slices_ContainsFunc_int_int_vdelivery_Run_f1).Γ) : PieceOk Try.prog 76 0 delivery_Run_p1_code zq6u zq6v (delivery_Run_p1_G (zq75 c_channel_Arrivals c_channel_Fates c_channel_Receipts)) :=
  piece_exec (X := (delivery_Run_X c_channel_Arrivals c_channel_Fates c_channel_Receipts c_delivery_Plan c_slices_ContainsFunc_int_int_vdelivery_Run_f1)) (p := 463) (Λ := pick1 []) mixed tab_ok hΓ (by kernel_rfl) CutsOk_nil (fun d ks r h => Eq.trans (b := delivery_Run_p1_G (zq75 c_channel_Arrivals c_channel_Fates c_channel_Receipts) d ks) (by kernel_rfl) h)
def zq77 (p1 : zq6t) {β : Type} (k1 : zq6w β) (fates : List (List zq0)) (sent : Int) (t18 : Int) (t19 : Int) (arrivals : List Int) (receipts : List Int) (l : List (Int × (Int × Int))) (a : Int) (a2 : Int) (a3 : Int) : Option β :=
  cond (decide (a < (List.length fates : Int)))
  (cond (decide (0 ≤ a) && decide (a < (List.length fates : Int)))
  (let e : List zq0 := List.getD fates (Int.toNat a) ([] : List zq0);
  p1 (fun (fates2 : List (List zq0)) (sent2 : Int) (t182 : Int) (t192 : Int) (arrivals2 : List Int) (receipts2 : List Int) (l2 : List (Int × (Int × Int))) =>
  k1 fates2 sent2 t182 t192 arrivals2 receipts2 l2) fates sent e t18 t19 arrivals receipts l a a2 a3)
  none)
  (p1 (fun (fates2 : List (List zq0)) (sent2 : Int) (t182 : Int) (t192 : Int) (arrivals2 : List Int) (receipts2 : List Int) (l2 : List (Int × (Int × Int))) =>
  k1 fates2 sent2 t182 t192 arrivals2 receipts2 l2) fates sent ([] : List zq0) t18 t19 arrivals receipts l a a2 a3)
def zq78 (p1 : zq6t) {β : Type} (k1 : zq6w β) (fates : List (List zq0)) (sent : Int) (t18 : Int) (t19 : Int) (arrivals : List Int) (receipts : List Int) (l : List (Int × (Int × Int))) (a : Int) (a2 : Int) (a3 : Int) : Option β := zq77 p1 k1 fates sent t18 t19 arrivals receipts l a a2 a3
theorem zq79 (hΓ : ΓOk Try.prog (delivery_Run_X c_channel_Arrivals c_channel_Fates c_channel_Receipts c_delivery_Plan c_slices_ContainsFunc_int_int_vdelivery_Run_f1).Γ) (p1 : zq6t) (hp1 : PieceOk Try.prog 76 0 delivery_Run_p1_code zq6u zq6v (delivery_Run_p1_G p1)) : PieceOk Try.prog 76 0 delivery_Run_p2_code zq6y zq6z (delivery_Run_p2_G (zq78 p1)) :=
  piece_exec (X := (delivery_Run_X c_channel_Arrivals c_channel_Fates c_channel_Receipts c_delivery_Plan c_slices_ContainsFunc_int_int_vdelivery_Run_f1)) (p := 115) (Λ := pick1 [(463, pieceCut zq6u zq6v (delivery_Run_p1_G p1))]) mixed tab_ok hΓ (by kernel_rfl) (CutsOk_cons (q := 463) (c' := delivery_Run_p1_code) (by kernel_rfl) rfl hp1 CutsOk_nil) (fun d ks r h => Eq.trans (b := delivery_Run_p2_G (zq78 p1) d ks) (by kernel_rfl) h)
def zq7a (p2 : zq6x) {β : Type} (rec : (List (List zq0)) → Int → Int → Int → (List Int) → (List Int) → (List (Int × (Int × Int))) → Option β) (k1 : zq70 β) (fates : List (List zq0)) (sent : Int) (t18 : Int) (t19 : Int) (arrivals : List Int) (receipts : List Int) (l : List (Int × (Int × Int))) : Option β :=
  cond (decide (t19 < t18))
  (cond (decide (0 ≤ t19) && decide (t19 < (List.length l : Int)))
  (cond (decide (t19 = (0 : Int)))
  (c_slices_ContainsFunc_int_int_vdelivery_Run_f1 receipts ((List.getD l (Int.toNat t19) ((0 : Int), ((0 : Int), (0 : Int)))).1, ((List.getD l (Int.toNat t19) ((0 : Int), ((0 : Int), (0 : Int)))).2)) (fun (rContainsFuncintint : Bool) (mrContainsFuncintint : (Int × (Int × Int))) =>
  cond rContainsFuncintint
  (k1 sent arrivals receipts)
  (p2 (fun (fates2 : List (List zq0)) (sent2 : Int) (t182 : Int) (t192 : Int) (arrivals2 : List Int) (receipts2 : List Int) (l2 : List (Int × (Int × Int))) =>
  rec fates2 sent2 t182 (IntKind.i64.wrap (t192 + (1 : Int))) arrivals2 receipts2 l2) fates sent t18 t19 arrivals receipts l mrContainsFuncintint.1 mrContainsFuncintint.2.1 mrContainsFuncintint.2.2)))
  (cond (decide (0 ≤ (IntKind.i64.wrap (t19 - (1 : Int)))) && decide ((IntKind.i64.wrap (t19 - (1 : Int))) < (List.length l : Int)))
  (cond (!decide ((((List.getD l (Int.toNat (IntKind.i64.wrap (t19 - (1 : Int)))) ((0 : Int), ((0 : Int), (0 : Int)))).2).2) = (((List.getD l (Int.toNat t19) ((0 : Int), ((0 : Int), (0 : Int)))).2).2)))
  (c_slices_ContainsFunc_int_int_vdelivery_Run_f1 receipts ((List.getD l (Int.toNat t19) ((0 : Int), ((0 : Int), (0 : Int)))).1, ((List.getD l (Int.toNat t19) ((0 : Int), ((0 : Int), (0 : Int)))).2)) (fun (rContainsFuncintint : Bool) (mrContainsFuncintint : (Int × (Int × Int))) =>
  cond rContainsFuncintint
  (k1 sent arrivals receipts)
  (p2 (fun (fates2 : List (List zq0)) (sent2 : Int) (t182 : Int) (t192 : Int) (arrivals2 : List Int) (receipts2 : List Int) (l2 : List (Int × (Int × Int))) =>
  rec fates2 sent2 t182 (IntKind.i64.wrap (t192 + (1 : Int))) arrivals2 receipts2 l2) fates sent t18 t19 arrivals receipts l mrContainsFuncintint.1 mrContainsFuncintint.2.1 mrContainsFuncintint.2.2)))
  (p2 (fun (fates2 : List (List zq0)) (sent2 : Int) (t182 : Int) (t192 : Int) (arrivals2 : List Int) (receipts2 : List Int) (l2 : List (Int × (Int × Int))) =>
  rec fates2 sent2 t182 (IntKind.i64.wrap (t192 + (1 : Int))) arrivals2 receipts2 l2) fates sent t18 t19 arrivals receipts l ((List.getD l (Int.toNat t19) ((0 : Int), ((0 : Int), (0 : Int)))).1) (((List.getD l (Int.toNat t19) ((0 : Int), ((0 : Int), (0 : Int)))).2).1) (((List.getD l (Int.toNat t19) ((0 : Int), ((0 : Int), (0 : Int)))).2).2)))
  none))
  none)
  (k1 sent arrivals receipts)
def zq7b (p2 : zq6x) {β : Type} : Nat → zq70 β → (List (List zq0)) → Int → Int → Int → (List Int) → (List Int) → (List (Int × (Int × Int))) → Option β
  | 0 => fun _ _ _ _ _ _ _ _ => none
  | i + 1 => fun k1 fates sent t18 t19 arrivals receipts l => zq7a c_slices_ContainsFunc_int_int_vdelivery_Run_f1 p2 (zq7b p2 i k1) k1 fates sent t18 t19 arrivals receipts l
theorem zq7c (hΓ : ΓOk Try.prog (delivery_Run_X c_channel_Arrivals c_channel_Fates c_channel_Receipts c_delivery_Plan c_slices_ContainsFunc_int_int_vdelivery_Run_f1).Γ) (p2 : zq6x) (hp2 : PieceOk Try.prog 76 0 delivery_Run_p2_code zq6y zq6z (delivery_Run_p2_G p2)) (i : Nat) : PieceOk Try.prog 76 0 delivery_Run_p3_code zq72 zq73 (delivery_Run_p3_G (zq7b c_slices_ContainsFunc_int_int_vdelivery_Run_f1 p2 i)) := by
  rw [show delivery_Run_p3_code = .loop (loopBody delivery_Run_p3_code) by kernel_rfl]
  exact piece_loop (X := (delivery_Run_X c_channel_Arrivals c_channel_Fates c_channel_Receipts c_delivery_Plan c_slices_ContainsFunc_int_int_vdelivery_Run_f1)) (p := 1) (Λ := pick1 [(115, pieceCut zq6y zq6z (delivery_Run_p2_G p2))]) (G := fun i => @fun β d ks => delivery_Run_p3_G (zq7b c_slices_ContainsFunc_int_int_vdelivery_Run_f1 p2 i) d ks) mixed tab_ok hΓ rfl (by kernel_rfl) (CutsOk_cons (q := 115) (c' := delivery_Run_p2_code) (by kernel_rfl) rfl hp2 CutsOk_nil) (fun _ _ => rfl) (fun i => @fun β d ks r h => Eq.trans (b := delivery_Run_p3_G (zq7b c_slices_ContainsFunc_int_int_vdelivery_Run_f1 p2 (i + 1)) d ks) (by kernel_rfl) h) i
def zq7d (p3 : zq71) {β : Type} (p_ : (Int × List (Int × (Int × (Int × Int))))) (start : Int) (fates : List (List zq0)) (k : (Int → (List Int) → (List Int) → Option β)) : Option β :=
  c_delivery_Plan p_ start (fun (lrPlan : List (Int × (Int × Int))) =>
  p3 (fun (sent : Int) (arrivals : List Int) (receipts : List Int) =>
  cond (decide (List.length arrivals < 4611686018427387904))
  (let l : List Int := (sortInts arrivals);
  cond (decide (List.length receipts < 4611686018427387904))
  (let l2 : List Int := (sortInts receipts);
  k sent l l2)
  none)
  none) fates (0 : Int) (List.length lrPlan : Int) (0 : Int) ([] : List Int) ([] : List Int) lrPlan)
theorem zq7e (hΓ : ΓOk Try.prog (delivery_Run_X c_channel_Arrivals c_channel_Fates c_channel_Receipts c_delivery_Plan c_slices_ContainsFunc_int_int_vdelivery_Run_f1).Γ) (p3 : zq71) (hp3 : PieceOk Try.prog 76 0 delivery_Run_p3_code zq72 zq73 (delivery_Run_p3_G p3)) : SpecOk Try.prog 16 (zq6r (zq7d c_delivery_Plan p3)) :=
  spec_exec (X := (delivery_Run_X c_channel_Arrivals c_channel_Fates c_channel_Receipts c_delivery_Plan c_slices_ContainsFunc_int_int_vdelivery_Run_f1)) (Λ := pick1 [(58, pieceCut zq72 zq73 (delivery_Run_p3_G p3))]) (rs := [.tmp 6, .tmp 7, .tmp 8]) (c := bodyOf Try.f16) mixed tab_ok hΓ Try.func16 (by kernel_rfl) (by kernel_rfl) (by kernel_rfl) (by kernel_rfl) (CutsOk_cons (q := 58) (c' := delivery_Run_p3_code) (by kernel_rfl) rfl hp3 CutsOk_nil) (fun x k r h => Eq.trans (b := (zq6r (zq7d c_delivery_Plan p3)).run x k) (by kernel_rfl) h)
end
theorem zq7fΓ : ΓOk Try.prog (pick1 [(47, .spec (zq2w zq30)), (46, .spec (zq2p zq2t)), (48, .spec (zq33 zq3i)), (13, .spec (zq58 zq5y)), (44, .spec (zq6k zq6o)), (49, .rows zq1j)]) := (ΓOk_cons zq31 (ΓOk_cons zq2u (ΓOk_cons zq3j (ΓOk_cons zq5z (ΓOk_cons zq6p (ΓOk_row zq1k ΓOk_nil))))))
def zq7g : zq6t := zq75 zq30 zq2t zq3i
theorem zq7h : PieceOk Try.prog 76 0 delivery_Run_p1_code zq6u zq6v (delivery_Run_p1_G zq7g) := zq76 zq30 zq2t zq3i zq5y zq6o zq7fΓ
def zq7i : zq6x := zq78 zq7g
theorem zq7j : PieceOk Try.prog 76 0 delivery_Run_p2_code zq6y zq6z (delivery_Run_p2_G zq7i) := zq79 zq30 zq2t zq3i zq5y zq6o zq7fΓ zq7g zq7h
def zq7k (m : Nat) : zq71 := zq7b zq6o zq7i m
theorem zq7l {β : Type} (i : Nat) (k1 fates sent t18 t19 arrivals receipts l) : (zq7k (i + 1) k1 fates sent t18 t19 arrivals receipts l : Option β) = zq7a zq6o zq7i (zq7k i k1) k1 fates sent t18 t19 arrivals receipts l := rfl
def zq7m : zq71 := zq7k fuel
theorem zq7n : PieceOk Try.prog 76 0 delivery_Run_p3_code zq72 zq73 (delivery_Run_p3_G zq7m) := zq7c zq30 zq2t zq3i zq5y zq6o zq7fΓ zq7i zq7j fuel
def zq7o : zq6q := zq7d zq5y zq7m
theorem zq7p : SpecOk Try.prog 16 (zq6r zq7o) := zq7e zq30 zq2t zq3i zq5y zq6o zq7fΓ zq7m zq7n

/-- pagewatch/pagewatchlaw27.sane -/
abbrev zq7q := {β : Type} → (Bool → Option β) → Option β
def zq7r (c : zq7q) : Spec :=
  ⟨[], [], [(false, [.data .bool])], [], fun x k => c  (fun r0 => k (((r0, ()), ()), ()))⟩
section
variable (c_delivery_Plan : zq57) (c_delivery_Run : zq6q)
@[reducible] def law27_sane_X : Ctx := ⟨look tab, pick1 [(13, .spec (zq58 c_delivery_Plan)), (16, .spec (zq6r c_delivery_Run))], false, false, false, false⟩
def zq7s {β : Type} (k : (Bool → Option β)) : Option β :=
  let l : List (Int × (Int × (Int × Int))) := ([((0 : Int), ((9 : Int), ((2 : Int), (60 : Int)))), ((0 : Int), ((9 : Int), ((2 : Int), (90 : Int))))] : List (Int × (Int × (Int × Int))));
  c_delivery_Plan ((0 : Int), l) (0 : Int) (fun (lrPlan : List (Int × (Int × Int))) =>
  let l2 : List zq0 := ([(false, ((30 : Int), ((0 : Int), (0 : Int))))] : List zq0);
  let l3 : List (List zq0) := ([l2] : List (List zq0));
  c_delivery_Run ((0 : Int), l) (0 : Int) l3 (fun (rRun : Int) (lrRun : List Int) (lrRun2 : List Int) =>
  cond (decide ((List.length lrPlan : Int) = (4 : Int)))
  (cond (decide (0 ≤ (2 : Int)) && decide ((2 : Int) < (List.length lrPlan : Int)))
  (cond (decide ((((List.getD lrPlan (Int.toNat (2 : Int)) ((0 : Int), ((0 : Int), (0 : Int)))).2).2) = (60 : Int)))
  (cond (decide (0 ≤ (3 : Int)) && decide ((3 : Int) < (List.length lrPlan : Int)))
  (cond (decide ((((List.getD lrPlan (Int.toNat (3 : Int)) ((0 : Int), ((0 : Int), (0 : Int)))).2).2) = (90 : Int)))
  (cond (decide (rRun = (2 : Int)))
  (cond (decide ((List.length lrRun2 : Int) = (1 : Int)))
  (cond (decide (0 ≤ (0 : Int)) && decide ((0 : Int) < (List.length lrRun2 : Int)))
  (let t : Bool := (decide ((List.getD lrRun2 (Int.toNat (0 : Int)) (0 : Int)) = (30 : Int)));
  k t)
  none)
  (k false))
  (k false))
  (k false))
  none)
  (k false))
  none)
  (k false)))
theorem zq7t (hΓ : ΓOk Try.prog (law27_sane_X c_delivery_Plan c_delivery_Run).Γ) : SpecOk Try.prog 10 (zq7r (zq7s c_delivery_Plan c_delivery_Run)) :=
  spec_exec (X := (law27_sane_X c_delivery_Plan c_delivery_Run)) (Λ := pick1 []) (rs := [.tmp 0]) (c := bodyOf Try.f10) mixed tab_ok hΓ Try.func10 (by kernel_rfl) (by kernel_rfl) (by kernel_rfl) (by kernel_rfl) CutsOk_nil (fun x k r h => Eq.trans (b := (zq7r (zq7s c_delivery_Plan c_delivery_Run)).run x k) (by kernel_rfl) h)
end
theorem zq7uΓ : ΓOk Try.prog (pick1 [(13, .spec (zq58 zq5y)), (16, .spec (zq6r zq7o))]) := (ΓOk_cons zq5z (ΓOk_cons zq7p ΓOk_nil))
def zq7v : zq7q := zq7s zq5y zq7o
theorem zq7w : SpecOk Try.prog 10 (zq7r zq7v) := zq7t zq5y zq7o zq7uΓ

/-- pagewatch/pagewatchlaw27.DeliveryPlans -/
abbrev zq7x := {β : Type} → (List Int) → Int → Int → (Bool → Option β) → Option β
def zq7y (c : zq7x) : Spec :=
  ⟨[(false, [.data (.slice (.int .i64))]), (false, [.data (.int .u32)]), (false, [.data (.int .u16)])], [], [(false, [.data .bool])], [], fun x k => c x.1.1.1 x.1.2.1.1 x.1.2.2.1.1 (fun r0 => k (((r0, ()), ()), ()))⟩
noncomputable def law27_DeliveryPlans_p1_code : Code := codeAt 1018 (bodyOf Try.f3)
noncomputable def law27_DeliveryPlans_p3_code : Code := codeAt 8186 (bodyOf Try.f3)
noncomputable def law27_DeliveryPlans_p2_code : Code := codeAt 231 (loopBody law27_DeliveryPlans_p3_code)
abbrev zq7z (β : Type) := Int → Int → Int → Int → (List (Int × (Int × (Int × Int)))) → (List (Int × (Int × Int))) → (List (Int × (Int × Int))) → Option β
abbrev zq80 := {β : Type} → zq7z β → Int → Int → Int → (List (Int × (Int × (Int × Int)))) → Int → Int → Int → (List (Int × (Int × (Int × Int)))) → (List (Int × (Int × Int))) → (List (Int × (Int × Int))) → Option β
def zq81 : View := ⟨0, [1, 2, 7, 8, 9, 10, 36, 37, 38], [(false, [.data (.int .u32)]), (false, [.data (.int .u16)]), (false, [.ptr 0 0]), (false, [.rowh 1]), (false, [.rowh 2]), (false, [.data (.int .i64)]), (false, [.data (.slice (.prod (.int .i64) (.prod (.int .i64) (.prod (.int .i64) (.int .i64)))))]), (false, [.data (.int .i64)]), (false, [.data (.int .i64)])], [.cells 29 [.data (.int .i64), .data (.slice (.prod (.int .i64) (.prod (.int .i64) (.prod (.int .i64) (.int .i64)))))], .row 39 (.prod (.int .i64) (.prod (.int .i64) (.int .i64))), .row 39 (.prod (.int .i64) (.prod (.int .i64) (.int .i64)))]⟩
def zq82 : List (AExit × View) := [(.exit 0, ⟨0, [1, 2, 7, 8, 9, 10], [(false, [.data (.int .u32)]), (false, [.data (.int .u16)]), (false, [.ptr 0 0]), (false, [.rowh 1]), (false, [.rowh 2]), (false, [.data (.int .i64)])], [.cells 29 [.data (.int .i64), .data (.slice (.prod (.int .i64) (.prod (.int .i64) (.prod (.int .i64) (.int .i64)))))], .row 39 (.prod (.int .i64) (.prod (.int .i64) (.int .i64))), .row 39 (.prod (.int .i64) (.prod (.int .i64) (.int .i64)))]⟩)]
@[reducible] def law27_DeliveryPlans_p1_G (p : zq80) {β : Type} (d : zq81.den) (ks : Outs.K β zq82) : Option β :=
  p (fun a0 a1 a2 a3 a4 a5 a6 => ks.1 (((a0, ()), (a1, ()), (), (), (), (a2, ()), ()), ((a3, a4, ()), a5, a6, ()))) d.1.1.1 d.1.2.1.1 d.1.2.2.2.2.2.1.1 d.1.2.2.2.2.2.2.1.1 d.1.2.2.2.2.2.2.2.1.1 d.1.2.2.2.2.2.2.2.2.1.1 d.2.1.1 d.2.1.2.1 d.2.2.1 d.2.2.2.1
abbrev zq83 (β : Type) := Bool → Option β
abbrev zq84 (β : Type) := Int → Int → Int → Int → Int → (List (Int × (Int × (Int × Int)))) → (List (Int × (Int × Int))) → (List (Int × (Int × Int))) → (List ((Int × Int) × Bool)) → Option β
abbrev zq85 := {β : Type} → zq83 β → zq84 β → Int → Int → Int → Int → Int → Int → (List (Int × (Int × (Int × Int)))) → (List (Int × (Int × Int))) → (List (Int × (Int × Int))) → (List ((Int × Int) × Bool)) → Int → Int → Int → Int → Int → Option β
def zq86 : View := ⟨0, [1, 2, 7, 8, 9, 13, 14, 15, 16, 58, 59, 60], [(false, [.data (.int .u32)]), (false, [.data (.int .u16)]), (false, [.ptr 0 0]), (false, [.rowh 1]), (false, [.rowh 2]), (false, [.maph 3]), (false, [.data (.int .i64)]), (false, [.ptr 4 0]), (false, [.ptr 5 0]), (false, [.rowh 1]), (false, [.data (.int .i64)]), (false, [.data (.int .i64)])], [.cells 29 [.data (.int .i64), .data (.slice (.prod (.int .i64) (.prod (.int .i64) (.prod (.int .i64) (.int .i64)))))], .row 39 (.prod (.int .i64) (.prod (.int .i64) (.int .i64))), .row 39 (.prod (.int .i64) (.prod (.int .i64) (.int .i64))), .map 37 (.prod (.int .i64) (.int .i64)) .bool false, .cells 39 [.data (.int .i64), .data (.int .i64), .data (.int .i64)], .cells 40 [.data (.int .i64), .data (.int .i64)]]⟩
def zq87 : List (AExit × View) := [(.ret, ⟨0, [6], [(false, [.data .bool])], []⟩), (.normal, ⟨0, [1, 2, 7, 8, 9, 13, 58, 59, 60], [(false, [.data (.int .u32)]), (false, [.data (.int .u16)]), (false, [.ptr 0 0]), (false, [.rowh 1]), (false, [.rowh 2]), (false, [.maph 3]), (false, [.rowh 1]), (false, [.data (.int .i64)]), (false, [.data (.int .i64)])], [.cells 29 [.data (.int .i64), .data (.slice (.prod (.int .i64) (.prod (.int .i64) (.prod (.int .i64) (.int .i64)))))], .row 39 (.prod (.int .i64) (.prod (.int .i64) (.int .i64))), .row 39 (.prod (.int .i64) (.prod (.int .i64) (.int .i64))), .map 37 (.prod (.int .i64) (.int .i64)) .bool false]⟩)]
@[reducible] def law27_DeliveryPlans_p2_G (p : zq85) {β : Type} (d : zq86.den) (ks : Outs.K β zq87) : Option β :=
  p (fun a0 => ks.1 (((a0, ()), ()), ())) (fun a0 a1 a2 a3 a4 a5 a6 a7 a8 => ks.2.1 (((a0, ()), (a1, ()), (), (), (), (), (), (a2, ()), (a3, ()), ()), ((a4, a5, ()), a6, a7, a8, ()))) d.1.1.1 d.1.2.1.1 d.1.2.2.2.2.2.2.1.1 d.1.2.2.2.2.2.2.2.2.2.2.1.1 d.1.2.2.2.2.2.2.2.2.2.2.2.1.1 d.2.1.1 d.2.1.2.1 d.2.2.1 d.2.2.2.1 d.2.2.2.2.1 d.2.2.2.2.2.1.1 d.2.2.2.2.2.1.2.1 d.2.2.2.2.2.1.2.2.1 d.2.2.2.2.2.2.1.1 d.2.2.2.2.2.2.1.2.1
abbrev zq88 (β : Type) := Bool → Option β
abbrev zq89 (β : Type) := Unit → Option β
abbrev zq8a := {β : Type} → zq88 β → zq89 β → Int → Int → Int → Int → Int → (List (Int × (Int × (Int × Int)))) → (List (Int × (Int × Int))) → (List (Int × (Int × Int))) → (List ((Int × Int) × Bool)) → Option β
def zq8b : View := ⟨0, [1, 2, 7, 8, 9, 13, 58, 59, 60], [(false, [.data (.int .u32)]), (false, [.data (.int .u16)]), (false, [.ptr 0 0]), (false, [.rowh 1]), (false, [.rowh 2]), (false, [.maph 3]), (false, [.rowh 1]), (false, [.data (.int .i64)]), (false, [.data (.int .i64)])], [.cells 29 [.data (.int .i64), .data (.slice (.prod (.int .i64) (.prod (.int .i64) (.prod (.int .i64) (.int .i64)))))], .row 39 (.prod (.int .i64) (.prod (.int .i64) (.int .i64))), .row 39 (.prod (.int .i64) (.prod (.int .i64) (.int .i64))), .map 37 (.prod (.int .i64) (.int .i64)) .bool false]⟩
def zq8c : List (AExit × View) := [(.ret, ⟨0, [6], [(false, [.data .bool])], []⟩), (.exit 2, ⟨0, [], [], []⟩)]
@[reducible] def law27_DeliveryPlans_p3_G (p : zq8a) {β : Type} (d : zq8b.den) (ks : Outs.K β zq8c) : Option β :=
  p (fun a0 => ks.1 (((a0, ()), ()), ())) (fun _ => ks.2.1 ((), ())) d.1.1.1 d.1.2.1.1 d.1.2.2.2.2.2.2.2.1.1 d.1.2.2.2.2.2.2.2.2.1.1 d.2.1.1 d.2.1.2.1 d.2.2.1 d.2.2.2.1 d.2.2.2.2.1
section
variable (c_delivery_Plan : zq57) (c_law27_sane : zq7q) (c_made_Dice_Person : zq26) (c_made_Light : zq4) (c_made_Roll : zqb)
@[reducible] def law27_DeliveryPlans_X : Ctx := ⟨look tab, pick1 [(13, .spec (zq58 c_delivery_Plan)), (10, .spec (zq7r c_law27_sane)), (12, .spec (zq27 c_made_Dice_Person)), (9, .spec (zq5 c_made_Light)), (11, .spec (zqc c_made_Roll))], false, false, false, false⟩
def zq8d {β : Type} (rec : Int → Int → Int → (List (Int × (Int × (Int × Int)))) → Int → Int → Int → (List (Int × (Int × (Int × Int)))) → (List (Int × (Int × Int))) → (List (Int × (Int × Int))) → Option β) (k1 : zq7z β) (start : Int) (later : Int) (n : Int) (t36 : List (Int × (Int × (Int × Int)))) (t37 : Int) (t38 : Int) (p_ : Int) (p_2 : List (Int × (Int × (Int × Int)))) (l : List (Int × (Int × Int))) (m : List (Int × (Int × Int))) : Option β :=
  cond (decide (t38 < t37))
  (cond (decide (0 ≤ t38) && decide (t38 < (List.length t36 : Int)))
  (let e : (Int × (Int × (Int × Int))) := List.getD t36 (Int.toNat t38) ((0 : Int), ((0 : Int), ((0 : Int), (0 : Int))));
  let n2 : Int := (IntKind.i64.wrap (n + e.2.2.1));
  rec start later n2 t36 t37 (IntKind.i64.wrap (t38 + (1 : Int))) p_ p_2 l m)
  none)
  (k1 start later n p_ p_2 l m)
def zq8e {β : Type} : Nat → zq7z β → Int → Int → Int → (List (Int × (Int × (Int × Int)))) → Int → Int → Int → (List (Int × (Int × (Int × Int)))) → (List (Int × (Int × Int))) → (List (Int × (Int × Int))) → Option β
  | 0 => fun _ _ _ _ _ _ _ _ _ _ _ => none
  | i + 1 => fun k1 start later n t36 t37 t38 p_ p_2 l m => zq8d (zq8e i k1) k1 start later n t36 t37 t38 p_ p_2 l m
theorem zq8f (hΓ : ΓOk Try.prog (law27_DeliveryPlans_X c_delivery_Plan c_law27_sane c_made_Dice_Person c_made_Light c_made_Roll).Γ) (i : Nat) : PieceOk Try.prog 155 0 law27_DeliveryPlans_p1_code zq81 zq82 (law27_DeliveryPlans_p1_G (zq8e i)) := by
  rw [show law27_DeliveryPlans_p1_code = .loop (loopBody law27_DeliveryPlans_p1_code) by kernel_rfl]
  exact piece_loop (X := (law27_DeliveryPlans_X c_delivery_Plan c_law27_sane c_made_Dice_Person c_made_Light c_made_Roll)) (p := 1) (Λ := pick1 []) (G := fun i => @fun β d ks => law27_DeliveryPlans_p1_G (zq8e i) d ks) mixed tab_ok hΓ rfl (by kernel_rfl) CutsOk_nil (fun _ _ => rfl) (fun i => @fun β d ks r h => Eq.trans (b := law27_DeliveryPlans_p1_G (zq8e (i + 1)) d ks) (by kernel_rfl) h) i
def zq8g {β : Type} (k1 : zq83 β) (k2 : zq84 β) (start : Int) (later : Int) (i_ : Int) (t59 : Int) (t60 : Int) (p_ : Int) (p_2 : List (Int × (Int × (Int × Int)))) (l : List (Int × (Int × Int))) (m : List (Int × (Int × Int))) (seen : List ((Int × Int) × Bool)) (a : Int) (a2 : Int) (a3 : Int) (k_ : Int) (k_2 : Int) : Option β :=
  let m_ : List ((Int × Int) × Bool) := (mPut (.prod (.int .i64) (.int .i64)) seen (k_, k_2) true);
  cond (decide (0 ≤ i_) && decide (i_ < (List.length m : Int)))
  (cond (!(decide ((List.getD m (Int.toNat i_) ((0 : Int), ((0 : Int), (0 : Int)))).1 = a) && (decide (((List.getD m (Int.toNat i_) ((0 : Int), ((0 : Int), (0 : Int)))).2).1 = a2) && (decide (((List.getD m (Int.toNat i_) ((0 : Int), ((0 : Int), (0 : Int)))).2).2 = (IntKind.i64.wrap (a3 + (IntKind.i64.wrap later)))) && true))))
  (k1 false)
  (k2 start later t59 t60 p_ p_2 l m m_))
  none
def zq8h {β : Type} (k1 : zq83 β) (k2 : zq84 β) (start : Int) (later : Int) (i_ : Int) (t59 : Int) (t60 : Int) (p_ : Int) (p_2 : List (Int × (Int × (Int × Int)))) (l : List (Int × (Int × Int))) (m : List (Int × (Int × Int))) (seen : List ((Int × Int) × Bool)) (a : Int) (a2 : Int) (a3 : Int) (k_ : Int) (k_2 : Int) : Option β := zq8g k1 k2 start later i_ t59 t60 p_ p_2 l m seen a a2 a3 k_ k_2
theorem zq8i (hΓ : ΓOk Try.prog (law27_DeliveryPlans_X c_delivery_Plan c_law27_sane c_made_Dice_Person c_made_Light c_made_Roll).Γ) : PieceOk Try.prog 155 0 law27_DeliveryPlans_p2_code zq86 zq87 (law27_DeliveryPlans_p2_G (zq8h)) :=
  piece_exec (X := (law27_DeliveryPlans_X c_delivery_Plan c_law27_sane c_made_Dice_Person c_made_Light c_made_Roll)) (p := 231) (Λ := pick1 []) mixed tab_ok hΓ (by kernel_rfl) CutsOk_nil (fun d ks r h => Eq.trans (b := law27_DeliveryPlans_p2_G (zq8h) d ks) (by kernel_rfl) h)
def zq8j (p2 : zq85) {β : Type} (rec : Int → Int → Int → Int → Int → (List (Int × (Int × (Int × Int)))) → (List (Int × (Int × Int))) → (List (Int × (Int × Int))) → (List ((Int × Int) × Bool)) → Option β) (k1 : zq88 β) (k2 : zq89 β) (start : Int) (later : Int) (t59 : Int) (t60 : Int) (p_ : Int) (p_2 : List (Int × (Int × (Int × Int)))) (l : List (Int × (Int × Int))) (m : List (Int × (Int × Int))) (seen : List ((Int × Int) × Bool)) : Option β :=
  cond (decide (t60 < t59))
  (cond (decide (0 ≤ t60) && decide (t60 < (List.length l : Int)))
  (cond (decide (((List.getD l (Int.toNat t60) ((0 : Int), ((0 : Int), (0 : Int)))).1) < (0 : Int)))
  (k1 false)
  (cond (decide ((List.length p_2 : Int) ≤ ((List.getD l (Int.toNat t60) ((0 : Int), ((0 : Int), (0 : Int)))).1)))
  (k1 false)
  (cond (decide ((((List.getD l (Int.toNat t60) ((0 : Int), ((0 : Int), (0 : Int)))).2).1) < (0 : Int)))
  (k1 false)
  (cond (decide (0 ≤ (List.getD l (Int.toNat t60) ((0 : Int), ((0 : Int), (0 : Int)))).1) && decide ((List.getD l (Int.toNat t60) ((0 : Int), ((0 : Int), (0 : Int)))).1 < (List.length p_2 : Int)))
  (let e : (Int × (Int × (Int × Int))) := List.getD p_2 (Int.toNat ((List.getD l (Int.toNat t60) ((0 : Int), ((0 : Int), (0 : Int)))).1)) ((0 : Int), ((0 : Int), ((0 : Int), (0 : Int))));
  cond (decide (e.2.2.1 ≤ (((List.getD l (Int.toNat t60) ((0 : Int), ((0 : Int), (0 : Int)))).2).1)))
  (k1 false)
  (let g : Bool := (mGet (.prod (.int .i64) (.int .i64)) seen ((List.getD l (Int.toNat t60) ((0 : Int), ((0 : Int), (0 : Int)))).1, ((List.getD l (Int.toNat t60) ((0 : Int), ((0 : Int), (0 : Int)))).2).1) false);
  cond g
  (k1 false)
  (cond (decide (0 ≤ (List.getD l (Int.toNat t60) ((0 : Int), ((0 : Int), (0 : Int)))).1) && decide ((List.getD l (Int.toNat t60) ((0 : Int), ((0 : Int), (0 : Int)))).1 < (List.length p_2 : Int)))
  (let e2 : (Int × (Int × (Int × Int))) := List.getD p_2 (Int.toNat ((List.getD l (Int.toNat t60) ((0 : Int), ((0 : Int), (0 : Int)))).1)) ((0 : Int), ((0 : Int), ((0 : Int), (0 : Int))));
  cond (!decide ((((List.getD l (Int.toNat t60) ((0 : Int), ((0 : Int), (0 : Int)))).2).2) = (IntKind.i64.wrap ((IntKind.i64.wrap start) + (IntKind.i64.wrap ((((List.getD l (Int.toNat t60) ((0 : Int), ((0 : Int), (0 : Int)))).2).1) * e2.2.2.2))))))
  (k1 false)
  (cond (decide ((0 : Int) < t60))
  (cond (decide (0 ≤ (IntKind.i64.wrap (t60 - (1 : Int)))) && decide ((IntKind.i64.wrap (t60 - (1 : Int))) < (List.length l : Int)))
  (cond (decide ((((List.getD l (Int.toNat t60) ((0 : Int), ((0 : Int), (0 : Int)))).2).2) < (((List.getD l (Int.toNat (IntKind.i64.wrap (t60 - (1 : Int)))) ((0 : Int), ((0 : Int), (0 : Int)))).2).2)))
  (k1 false)
  (p2 (fun (t6 : Bool) =>
  k1 t6) (fun (start2 : Int) (later2 : Int) (t592 : Int) (t602 : Int) (p_3 : Int) (p_4 : List (Int × (Int × (Int × Int)))) (l2 : List (Int × (Int × Int))) (m2 : List (Int × (Int × Int))) (seen2 : List ((Int × Int) × Bool)) =>
  rec start2 later2 t592 (IntKind.i64.wrap (t602 + (1 : Int))) p_3 p_4 l2 m2 seen2) start later t60 t59 t60 p_ p_2 l m seen ((List.getD l (Int.toNat t60) ((0 : Int), ((0 : Int), (0 : Int)))).1) (((List.getD l (Int.toNat t60) ((0 : Int), ((0 : Int), (0 : Int)))).2).1) (((List.getD l (Int.toNat t60) ((0 : Int), ((0 : Int), (0 : Int)))).2).2) ((List.getD l (Int.toNat t60) ((0 : Int), ((0 : Int), (0 : Int)))).1) (((List.getD l (Int.toNat t60) ((0 : Int), ((0 : Int), (0 : Int)))).2).1)))
  none)
  (p2 (fun (t6 : Bool) =>
  k1 t6) (fun (start2 : Int) (later2 : Int) (t592 : Int) (t602 : Int) (p_3 : Int) (p_4 : List (Int × (Int × (Int × Int)))) (l2 : List (Int × (Int × Int))) (m2 : List (Int × (Int × Int))) (seen2 : List ((Int × Int) × Bool)) =>
  rec start2 later2 t592 (IntKind.i64.wrap (t602 + (1 : Int))) p_3 p_4 l2 m2 seen2) start later t60 t59 t60 p_ p_2 l m seen ((List.getD l (Int.toNat t60) ((0 : Int), ((0 : Int), (0 : Int)))).1) (((List.getD l (Int.toNat t60) ((0 : Int), ((0 : Int), (0 : Int)))).2).1) (((List.getD l (Int.toNat t60) ((0 : Int), ((0 : Int), (0 : Int)))).2).2) ((List.getD l (Int.toNat t60) ((0 : Int), ((0 : Int), (0 : Int)))).1) (((List.getD l (Int.toNat t60) ((0 : Int), ((0 : Int), (0 : Int)))).2).1))))
  none)))
  none))))
  none)
  (k2 ())
def zq8k (p2 : zq85) {β : Type} : Nat → zq88 β → zq89 β → Int → Int → Int → Int → Int → (List (Int × (Int × (Int × Int)))) → (List (Int × (Int × Int))) → (List (Int × (Int × Int))) → (List ((Int × Int) × Bool)) → Option β
  | 0 => fun _ _ _ _ _ _ _ _ _ _ _ => none
  | i + 1 => fun k1 k2 start later t59 t60 p_ p_2 l m seen => zq8j p2 (zq8k p2 i k1 k2) k1 k2 start later t59 t60 p_ p_2 l m seen
theorem zq8l (hΓ : ΓOk Try.prog (law27_DeliveryPlans_X c_delivery_Plan c_law27_sane c_made_Dice_Person c_made_Light c_made_Roll).Γ) (p2 : zq85) (hp2 : PieceOk Try.prog 155 0 law27_DeliveryPlans_p2_code zq86 zq87 (law27_DeliveryPlans_p2_G p2)) (i : Nat) : PieceOk Try.prog 155 0 law27_DeliveryPlans_p3_code zq8b zq8c (law27_DeliveryPlans_p3_G (zq8k p2 i)) := by
  rw [show law27_DeliveryPlans_p3_code = .loop (loopBody law27_DeliveryPlans_p3_code) by kernel_rfl]
  exact piece_loop (X := (law27_DeliveryPlans_X c_delivery_Plan c_law27_sane c_made_Dice_Person c_made_Light c_made_Roll)) (p := 1) (Λ := pick1 [(231, pieceCut zq86 zq87 (law27_DeliveryPlans_p2_G p2))]) (G := fun i => @fun β d ks => law27_DeliveryPlans_p3_G (zq8k p2 i) d ks) mixed tab_ok hΓ rfl (by kernel_rfl) (CutsOk_cons (q := 231) (c' := law27_DeliveryPlans_p2_code) (by kernel_rfl) rfl hp2 CutsOk_nil) (fun _ _ => rfl) (fun i => @fun β d ks r h => Eq.trans (b := law27_DeliveryPlans_p3_G (zq8k p2 (i + 1)) d ks) (by kernel_rfl) h) i
def zq8m (p1 : zq80) (p3 : zq8a) {β : Type} (t : List Int) (start : Int) (later : Int) (k : (Bool → Option β)) : Option β :=
  c_made_Light t (fun (rLight : Bool) =>
  cond (!rLight)
  (c_law27_sane  (fun (rsane : Bool) =>
  k rsane))
  (c_made_Roll t (fun (mrRoll : (List Int × Int)) =>
  c_made_Dice_Person (2 : Int) mrRoll (fun (rPerson : (Int × List (Int × (Int × (Int × Int))))) (mrPerson : (List Int × Int)) =>
  c_delivery_Plan rPerson (IntKind.i64.wrap start) (fun (lrPlan : List (Int × (Int × Int))) =>
  c_delivery_Plan rPerson (IntKind.i64.wrap ((IntKind.i64.wrap start) + (IntKind.i64.wrap later))) (fun (lrPlan2 : List (Int × (Int × Int))) =>
  p1 (fun (start2 : Int) (later2 : Int) (n : Int) (p_ : Int) (p_2 : List (Int × (Int × (Int × Int)))) (l : List (Int × (Int × Int))) (m : List (Int × (Int × Int))) =>
  cond (!decide ((List.length l : Int) = n))
  (k false)
  (cond (!decide ((List.length m : Int) = n))
  (k false)
  (let m_ : List ((Int × Int) × Bool) := ([] : List ((Int × Int) × Bool));
  p3 (fun (t6 : Bool) =>
  k t6) (fun (_ : Unit) =>
  c_law27_sane  (fun (rsane : Bool) =>
  k rsane)) start2 later2 (List.length l : Int) (0 : Int) p_ p_2 l m m_))) start later (0 : Int) rPerson.2 (List.length rPerson.2 : Int) (0 : Int) rPerson.1 rPerson.2 lrPlan lrPlan2))))))
theorem zq8n (hΓ : ΓOk Try.prog (law27_DeliveryPlans_X c_delivery_Plan c_law27_sane c_made_Dice_Person c_made_Light c_made_Roll).Γ) (p1 : zq80) (p3 : zq8a) (hp1 : PieceOk Try.prog 155 0 law27_DeliveryPlans_p1_code zq81 zq82 (law27_DeliveryPlans_p1_G p1)) (hp3 : PieceOk Try.prog 155 0 law27_DeliveryPlans_p3_code zq8b zq8c (law27_DeliveryPlans_p3_G p3)) : SpecOk Try.prog 3 (zq7y (zq8m c_delivery_Plan c_law27_sane c_made_Dice_Person c_made_Light c_made_Roll p1 p3)) :=
  spec_exec (X := (law27_DeliveryPlans_X c_delivery_Plan c_law27_sane c_made_Dice_Person c_made_Light c_made_Roll)) (Λ := pick1 [(1018, pieceCut zq81 zq82 (law27_DeliveryPlans_p1_G p1)), (8186, pieceCut zq8b zq8c (law27_DeliveryPlans_p3_G p3))]) (rs := [.tmp 6]) (c := bodyOf Try.f3) mixed tab_ok hΓ Try.func3 (by kernel_rfl) (by kernel_rfl) (by kernel_rfl) (by kernel_rfl) (CutsOk_cons (q := 1018) (c' := law27_DeliveryPlans_p1_code) (by kernel_rfl) rfl hp1 (CutsOk_cons (q := 8186) (c' := law27_DeliveryPlans_p3_code) (by kernel_rfl) rfl hp3 CutsOk_nil)) (fun x k r h => Eq.trans (b := (zq7y (zq8m c_delivery_Plan c_law27_sane c_made_Dice_Person c_made_Light c_made_Roll p1 p3)).run x k) (by kernel_rfl) h)
end
theorem zq8oΓ : ΓOk Try.prog (pick1 [(13, .spec (zq58 zq5y)), (10, .spec (zq7r zq7v)), (12, .spec (zq27 zq2m)), (9, .spec (zq5 zq9)), (11, .spec (zqc zqg))]) := (ΓOk_cons zq5z (ΓOk_cons zq7w (ΓOk_cons zq2n (ΓOk_cons zqa (ΓOk_cons zqh ΓOk_nil)))))
def zq8p (m : Nat) : zq80 := zq8e m
theorem zq8q {β : Type} (i : Nat) (k1 start later n t36 t37 t38 p_ p_2 l m) : (zq8p (i + 1) k1 start later n t36 t37 t38 p_ p_2 l m : Option β) = zq8d (zq8p i k1) k1 start later n t36 t37 t38 p_ p_2 l m := rfl
def zq8r : zq80 := zq8p fuel
theorem zq8s : PieceOk Try.prog 155 0 law27_DeliveryPlans_p1_code zq81 zq82 (law27_DeliveryPlans_p1_G zq8r) := zq8f zq5y zq7v zq2m zq9 zqg zq8oΓ fuel
def zq8t : zq85 := zq8h
theorem zq8u : PieceOk Try.prog 155 0 law27_DeliveryPlans_p2_code zq86 zq87 (law27_DeliveryPlans_p2_G zq8t) := zq8i zq5y zq7v zq2m zq9 zqg zq8oΓ
def zq8v (m : Nat) : zq8a := zq8k zq8t m
theorem zq8w {β : Type} (i : Nat) (k1 k2 start later t59 t60 p_ p_2 l m seen) : (zq8v (i + 1) k1 k2 start later t59 t60 p_ p_2 l m seen : Option β) = zq8j zq8t (zq8v i k1 k2) k1 k2 start later t59 t60 p_ p_2 l m seen := rfl
def zq8x : zq8a := zq8v fuel
theorem zq8y : PieceOk Try.prog 155 0 law27_DeliveryPlans_p3_code zq8b zq8c (law27_DeliveryPlans_p3_G zq8x) := zq8l zq5y zq7v zq2m zq9 zqg zq8oΓ zq8t zq8u fuel
def zq8z : zq7x := zq8m zq5y zq7v zq2m zq9 zqg zq8r zq8x
theorem zq90 : SpecOk Try.prog 3 (zq7y zq8z) := zq8n zq5y zq7v zq2m zq9 zqg zq8oΓ zq8r zq8x zq8s zq8y
end
end Go.Lift
/- Plain lemmas about functional forms: tests that are known, loops. -/
namespace Go.Lift
open Go.RowKit Go.IntWalk

section
variable {β : Type}
/-! ### Tests -/
theorem c_inb {i n : Int} {a b : Option β} (h : 0 ≤ i ∧ i < n) : cond (decide (0 ≤ i) && decide (i < n)) a b = a := by
  rw [decide_eq_true h.1, decide_eq_true h.2]; rfl
theorem c_room {n : Nat} {a b : Option β} (h : n ≤ 140737488355328) : cond (decide (n ≤ roomMax)) a b = a := by
  rw [decide_eq_true (p := n ≤ roomMax) h]; rfl
theorem c_pos {p : Prop} [Decidable p] {a b : Option β} (h : p) : cond (decide p) a b = a := by rw [decide_eq_true h]; rfl
theorem c_neg {p : Prop} [Decidable p] {a b : Option β} (h : ¬ p) : cond (decide p) a b = b := by rw [decide_eq_false h]; rfl
theorem c_npos {p : Prop} [Decidable p] {a b : Option β} (h : p) : cond (!decide p) a b = b := by rw [decide_eq_true h]; rfl
theorem c_nneg {p : Prop} [Decidable p] {a b : Option β} (h : ¬ p) : cond (!decide p) a b = a := by rw [decide_eq_false h]; rfl
/-! ### Loops over the numbers from 0 on -/
/-- A walk over a list that may end early. -/
def walk {α σ ε : Type} (g : Nat → α → σ → ε ⊕ σ) : List α → Nat → σ → ε ⊕ σ
  | [], _, s => .inr s
  | x :: r, j, s =>
    match g j x s with
    | .inl e => .inl e
    | .inr s' => walk g r (j + 1) s'

def sumK {ε σ : Type} (E : ε → Option β) (K : σ → Option β) : ε ⊕ σ → Option β
  | .inl e => E e
  | .inr s => K s

theorem walk_loop {α σ ε : Type} (F : Nat → Int → σ → Option β) (g : Nat → α → σ → ε ⊕ σ) (E : ε → Option β) (K : σ → Option β) (d : α) (xs : List α)
    (h1 : ∀ (m i : Nat) s, i < xs.length → F (m + 1) (i : Int) s = sumK E (fun s' => F m ((i : Int) + 1) s') (g i (xs.getD i d) s))
    (h2 : ∀ (m : Nat) s, F (m + 1) (xs.length : Int) s = K s) :
    ∀ (r : List α) (j fuel : Nat) (s : σ), xs.drop j = r → j + r.length = xs.length → r.length < fuel → F fuel (j : Int) s = sumK E K (walk g r j s)
  | r, j, 0, s, _, _, h => absurd h (Nat.not_lt_zero _)
  | [], j, m + 1, s, hd, hj, _ => by
    simp only [List.length_nil, Nat.add_zero] at hj
    subst hj
    rw [h2]; rfl
  | x :: r, j, m + 1, s, hd, hj, hm => by
    simp only [List.length_cons] at hj hm
    have h3 : j < xs.length := by omega
    have hx : xs.getD j d = x := by
      rw [List.drop_eq_getElem_cons h3] at hd
      injection hd with hd1 hd2
      simp [List.getD, h3, hd1]
    have hr : xs.drop (j + 1) = r := by
      rw [List.drop_eq_getElem_cons h3] at hd
      injection hd with hd1 hd2
    rw [h1 m j s h3, hx, walk]
    cases hg : g j x s with
    | inl e => rfl
    | inr s' =>
      simp only [sumK]
      exact walk_loop F g E K d xs h1 h2 r (j + 1) m s' hr (by omega) (by omega)

theorem walk_loop0 {α σ ε : Type} (F : Nat → Int → σ → Option β) (g : Nat → α → σ → ε ⊕ σ) (E : ε → Option β) (K : σ → Option β) (d : α) (xs : List α) (s : σ) (n : Nat) (hn : xs.length < n)
    (h1 : ∀ (m i : Nat) s, i < xs.length → F (m + 1) (i : Int) s = sumK E (fun s' => F m ((i : Int) + 1) s') (g i (xs.getD i d) s))
    (h2 : ∀ (m : Nat) s, F (m + 1) (xs.length : Int) s = K s) : F n 0 s = sumK E K (walk g xs 0 s) :=
  walk_loop F g E K d xs h1 h2 xs 0 n s rfl (by simp) hn

/-- A loop that only looks: every element, or out. -/
theorem check_loop {α : Type} (F : Nat → Int → Option β) (p : α → Bool) (E K : Option β) (d : α) (xs : List α) (n : Nat) (hn : xs.length < n)
    (h1 : ∀ (m i : Nat), i < xs.length → F (m + 1) (i : Int) = cond (p (xs.getD i d)) (F m ((i : Int) + 1)) E)
    (h2 : ∀ (m : Nat), F (m + 1) (xs.length : Int) = K) : F n 0 = cond (xs.all p) K E := by
  have h := walk_loop0 (ε := Unit) (fun m i (_ : Unit) => F m i) (fun _ x s => cond (p x) (.inr s) (.inl ())) (fun _ => E) (fun _ => K) d xs () n hn
    (fun m i s hi => by rw [h1 m i hi]; cases p (xs.getD i d) <;> rfl) (fun m s => h2 m)
  rw [h]
  have key : ∀ (l : List α) (j : Nat), sumK (fun _ => E) (fun _ => K) (walk (ε := Unit) (fun _ x (s : Unit) => cond (p x) (.inr s) (.inl ())) l j ()) = cond (l.all p) K E := by
    intro l
    induction l with
    | nil => intro j; rfl
    | cons x l ih =>
      intro j
      simp only [walk, List.all_cons]
      cases p x with
      | true => simpa using ih (j + 1)
      | false => rfl
  exact key xs 0

/-- A loop that goes through all elements, with an invariant. -/
theorem fold_loopI {α σ : Type} (I : Nat → σ → Prop) (F : Nat → Int → σ → Option β) (g : σ → α → σ) (K : σ → Option β) (d : α) (xs : List α) (s : σ) (n : Nat) (hn : xs.length < n) (h0 : I 0 s)
    (hI : ∀ (i : Nat) s, i < xs.length → I i s → I (i + 1) (g s (xs.getD i d)))
    (h1 : ∀ (m i : Nat) s, i < xs.length → I i s → F (m + 1) (i : Int) s = F m ((i : Int) + 1) (g s (xs.getD i d)))
    (h2 : ∀ (m : Nat) s, I xs.length s → F (m + 1) (xs.length : Int) s = K s) : F n 0 s = K (xs.foldl g s) := by
  have key : ∀ (r : List α) (j fuel : Nat) (s : σ), xs.drop j = r → j + r.length = xs.length → r.length < fuel → I j s → F fuel (j : Int) s = K (r.foldl g s) := by
    intro r
    induction r with
    | nil =>
      intro j fuel s hd hj hf hs
      obtain ⟨m, rfl⟩ : ∃ m, fuel = m + 1 := ⟨fuel - 1, by omega⟩
      simp only [List.length_nil, Nat.add_zero] at hj
      subst hj
      exact h2 m s hs
    | cons x r ih =>
      intro j fuel s hd hj hf hs
      obtain ⟨m, rfl⟩ : ∃ m, fuel = m + 1 := ⟨fuel - 1, by omega⟩
      simp only [List.length_cons] at hj hf
      have h3 : j < xs.length := by omega
      have hx : xs.getD j d = x := by
        rw [List.drop_eq_getElem_cons h3] at hd
        injection hd with hd1 hd2
        simp [List.getD, h3, hd1]
      have hr : xs.drop (j + 1) = r := by
        rw [List.drop_eq_getElem_cons h3] at hd
        injection hd with hd1 hd2
      rw [h1 m j s h3 hs, hx]
      have := hI j s h3 hs
      rw [hx] at this
      exact ih (j + 1) m (g s x) hr (by omega) (by omega) this
  exact key xs 0 n s rfl (by simp) hn h0

end
end Go.Lift

/- Attempts in their order: the plain side of the laws of chapter 27. -/
namespace Go.Lift
set_option linter.unusedVariables false
set_option linter.unusedSimpArgs false

/-- An attempt: its channel, its try, its instant. -/
abbrev Att := Int × Int × Int
abbrev at0 : Att := (0, 0, 0)
def attLt (a b : Att) : Prop := a.2.2 < b.2.2 ∨ (a.2.2 = b.2.2 ∧ (a.1 < b.1 ∨ (a.1 = b.1 ∧ a.2.1 < b.2.1)))
instance (a b : Att) : Decidable (attLt a b) := by unfold attLt; infer_instance
theorem attLt_irr (a : Att) : ¬ attLt a a := by unfold attLt; omega
theorem attLt_trans {a b c : Att} (h1 : attLt a b) (h2 : attLt b c) : attLt a c := by unfold attLt at *; omega
theorem attLt_anti {a b : Att} (h1 : ¬ attLt a b) (h2 : ¬ attLt b a) : a = b := by
  obtain ⟨a1, a2, a3⟩ := a
  obtain ⟨b1, b2, b3⟩ := b
  unfold attLt at *
  simp only at h1 h2
  simp only [Prod.mk.injEq]
  omega
/-- Not behind. -/
def attLe (a b : Att) : Prop := ¬ attLt b a
theorem attLe_at {a b : Att} (h : attLe a b) : a.2.2 ≤ b.2.2 := by unfold attLe attLt at h; omega

/-- Into its place. -/
def insA : List Att → Att → List Att
  | [], x => [x]
  | y :: l, x => if attLt x y then x :: y :: l else y :: insA l x
def sortA (l : List Att) : List Att := l.foldl insA []

abbrev AscA (l : List Att) : Prop := l.Pairwise attLe

theorem insA_perm : ∀ (l : List Att) (x : Att), (insA l x).Perm (x :: l)
  | [], x => List.Perm.refl _
  | y :: l, x => by
    unfold insA
    split
    · exact List.Perm.refl _
    · exact ((insA_perm l x).cons y).trans (List.Perm.swap x y l)
theorem insA_asc : ∀ {l : List Att} {x : Att}, AscA l → AscA (insA l x)
  | [], x, _ => by simp [insA]
  | y :: l, x, h => by
    obtain ⟨h1, h2⟩ := List.pairwise_cons.1 h
    unfold insA
    split
    · rename_i hx
      refine List.pairwise_cons.2 ⟨fun z hz => ?_, h⟩
      rcases List.mem_cons.1 hz with rfl | hz
      · exact fun hh => attLt_irr _ (attLt_trans hx hh)
      · have := h1 z hz
        intro hh
        exact this (attLt_trans hh hx)
    · rename_i hx
      refine List.pairwise_cons.2 ⟨fun z hz => ?_, insA_asc h2⟩
      rcases List.mem_cons.1 ((insA_perm l x).mem_iff.1 hz) with rfl | hz
      · exact hx
      · exact h1 z hz
theorem fold_ins_perm : ∀ (l a : List Att), (l.foldl insA a).Perm (a ++ l)
  | [], a => by simp
  | x :: l, a => by
    have h1 := fold_ins_perm l (insA a x)
    refine h1.trans ?_
    have h2 := (insA_perm a x).append_right l
    refine h2.trans ?_
    simp only [List.cons_append]
    exact (List.perm_middle (a := x) (l₁ := a) (l₂ := l)).symm
theorem fold_ins_asc : ∀ (l : List Att) {a : List Att}, AscA a → AscA (l.foldl insA a)
  | [], a, h => h
  | x :: l, a, h => fold_ins_asc l (insA_asc h)
theorem sortA_perm (l : List Att) : (sortA l).Perm l := fold_ins_perm l []
theorem sortA_asc (l : List Att) : AscA (sortA l) := fold_ins_asc l .nil
theorem sortA_len (l : List Att) : (sortA l).length = l.length := (sortA_perm l).length_eq
theorem asc_unique {a b : List Att} (ha : AscA a) (hb : AscA b) (h : a.Perm b) : a = b :=
  List.Perm.eq_of_pairwise (fun x y _ _ h1 h2 => attLt_anti h2 h1) ha hb h

/-- Channels: their kind, latency, number of tries and pause. -/
abbrev Chan := Int × Int × Int × Int
def triesOf (start : Int) (c : Nat) (ch : Chan) : List Att := (List.range ch.2.2.1.toNat).map fun (i : Nat) => ((c : Int), (i : Int), start + (i : Int) * ch.2.2.2)
def rawFrom (start : Int) : Nat → List Chan → List Att
  | _, [] => []
  | c, ch :: l => triesOf start c ch ++ rawFrom start (c + 1) l
theorem triesOf_len (start : Int) (c : Nat) (ch : Chan) : (triesOf start c ch).length = ch.2.2.1.toNat := by simp [triesOf]
theorem rawFrom_append (start : Int) : ∀ (c : Nat) (a b : List Chan), rawFrom start c (a ++ b) = rawFrom start c a ++ rawFrom start (c + a.length) b
  | c, [], b => rfl
  | c, ch :: a, b => by
    simp only [List.cons_append, rawFrom, rawFrom_append start (c + 1) a b, List.append_assoc, List.length_cons]
    rw [show c + 1 + a.length = c + (a.length + 1) by omega]
end Go.Lift

/- Chapter 27 in plain Lean: channels, profiles, plans; code and reference. -/
namespace Go.Lift
open Go.RowKit Go.IntWalk
noncomputable section
set_option linter.unusedVariables false
set_option linter.unusedSimpArgs false
set_option maxRecDepth 10000

abbrev Prof := Int × List Chan
abbrev ch0 : Chan := (0, 0, 0, 0)

section
variable {β : Type}
theorem c_andk {b q : Bool} {k : Bool → Option β} {X : Option β} (h : b = true → X = k q) : cond b X (k false) = k (b && q) := by
  cases b with
  | false => rfl
  | true => exact h rfl
theorem c_ff' {b : Bool} {x y : Option β} (h : b = false) : cond b x y = y := by rw [h]; rfl
theorem c_tt' {b : Bool} {x y : Option β} (h : b = true) : cond b x y = x := by rw [h]; rfl
end

def inB (n lo hi : Int) : Bool := decide (lo ≤ n) && decide (n ≤ hi)
theorem inB_iff {n lo hi : Int} : inB n lo hi = true ↔ lo ≤ n ∧ n ≤ hi := by simp [inB]
def chanV (c : Chan) : Bool := inB c.1 0 2 && (inB c.2.1 0 3600 && (inB c.2.2.1 1 6 && inB c.2.2.2 1 3600))
def profV (p : Prof) : Bool := inB p.1 0 31 && (decide ((p.2.length : Int) ≤ 4) && p.2.all chanV)
def planOf (p : Prof) (start : Int) : List Att := cond (profV p && inB start 0 8589934592) (sortA (rawFrom start 0 p.2)) []

structure ChanOk (c : Chan) : Prop where
  l1 : 0 ≤ c.2.1
  l2 : c.2.1 ≤ 3600
  t1 : 1 ≤ c.2.2.1
  t2 : c.2.2.1 ≤ 6
  p1 : 1 ≤ c.2.2.2
  p2 : c.2.2.2 ≤ 3600
theorem chanV_ok {c : Chan} (h : chanV c = true) : ChanOk c := by
  unfold chanV at h
  simp only [Bool.and_eq_true, inB_iff] at h
  exact ⟨h.2.1.1, h.2.1.2, h.2.2.1.1, h.2.2.1.2, h.2.2.2.1, h.2.2.2.2⟩
structure ProfOk (p : Prof) : Prop where
  who : 0 ≤ p.1 ∧ p.1 ≤ 31
  few : p.2.length ≤ 4
  all : ∀ c ∈ p.2, chanV c = true
theorem profV_ok {p : Prof} (h : profV p = true) : ProfOk p := by
  unfold profV at h
  simp only [Bool.and_eq_true, inB_iff, decide_eq_true_eq, List.all_eq_true] at h
  exact ⟨h.1, by omega, h.2.2⟩

section
variable {β : Type}
theorem d_in (n lo hi : Int) (k : Bool → Option β) : zq18 n lo hi k = k (inB n lo hi) := by
  unfold zq18 zq15
  exact c_andk fun _ => rfl
theorem ch_in (n lo hi : Int) (k : Bool → Option β) : zq1x n lo hi k = k (inB n lo hi) := by
  unfold zq1x zq1u
  exact c_andk fun _ => rfl
theorem ch_valid (c : Chan) (k : Bool → Option β) : zq3p c k = k (chanV c) := by
  unfold zq3p zq3m
  refine (ch_in _ _ _ _).trans ?_
  refine c_andk fun _ => ?_
  refine (ch_in _ _ _ _).trans ?_
  refine c_andk fun _ => ?_
  refine (ch_in _ _ _ _).trans ?_
  refine c_andk fun _ => ?_
  exact ch_in _ _ _ _
theorem d_index {l : List Chan} (hl : l.length ≤ 4) (k1 : zq40 β) (k2 : zq41 β) (E : Option β) (hE : ∀ i : Nat, k1 (i : Int) = E) :
    zq4d k1 k2 l (l.length : Int) 0 = cond (l.all chanV) (k2 ()) E := by
  refine check_loop (fun m i => zq4b m k1 k2 l (l.length : Int) i) chanV E (k2 ()) ch0 l fuel (lt_fuel (by omega)) (fun m i hi => ?_) (fun m => ?_)
  · simp only [zq4c, zq45, Int.toNat_natCast]
    refine (c_pos (by omega)).trans ?_
    refine (c_inb (by omega)).trans ?_
    unfold zq3w zq3t
    refine (ch_valid _ _).trans ?_
    rw [i64_in ((i : Int) + 1) (by omega)]
    cases chanV (l.getD i ch0) with
    | true => rfl
    | false => exact hE i
  · simp only [zq4c, zq45]
    rw [c_neg (by omega)]

theorem d_contains {l : List Chan} (hl : l.length ≤ 4) (k : Bool → Option β) : zq4m l k = k (!l.all chanV) := by
  unfold zq4m zq4j zq4f zq48
  refine (d_index hl _ _ (k true) fun i => ?_).trans ?_
  · show k (decide ((0 : Int) ≤ (i : Int))) = k true
    rw [decide_eq_true (by omega)]
  · cases l.all chanV <;> rfl

theorem d_valid (p : Prof) (k : Bool → Option β) : zq4t p k = k (profV p) := by
  unfold zq4t zq4q zq1q zq1n
  refine (d_in _ _ _ _).trans ?_
  refine c_andk fun _ => ?_
  refine c_andk fun h => ?_
  have h := of_decide_eq_true h
  refine (d_contains (by omega) _).trans ?_
  show k (!!p.2.all chanV) = _
  rw [Bool.not_not]

end

/-! ### Plans -/
theorem rawFrom_len {start : Int} : ∀ {l : List Chan} {c : Nat}, (∀ x ∈ l, chanV x = true) → (rawFrom start c l).length ≤ 6 * l.length
  | [], c, _ => by simp [rawFrom]
  | ch :: l, c, h => by
    have h1 := rawFrom_len (start := start) (l := l) (c := c + 1) fun x hx => h x (by simp [hx])
    have h2 := chanV_ok (h ch (by simp))
    have a := h2.t2
    simp only [rawFrom, List.length_append, triesOf_len, List.length_cons]
    omega

structure AttOk (start : Int) (n : Nat) (a : Att) : Prop where
  c1 : 0 ≤ a.1
  c2 : a.1 < n
  i1 : 0 ≤ a.2.1
  i2 : a.2.1 < 6
  s1 : start ≤ a.2.2
  s2 : a.2.2 ≤ start + 21600

theorem triesOf_ok {start : Int} {c n : Nat} {ch : Chan} (h : chanV ch = true) (hc : c < n) : ∀ a ∈ triesOf start c ch, AttOk start n a := by
  intro a ha
  have q := chanV_ok h
  have q1 := q.t1; have q2 := q.t2; have q3 := q.p1; have q4 := q.p2
  unfold triesOf at ha
  obtain ⟨i, hi, rfl⟩ := List.mem_map.1 ha
  have hi := List.mem_range.1 hi
  have m1 : 0 ≤ (i : Int) * ch.2.2.2 := Int.mul_nonneg (by omega) (by omega)
  have m2 : (i : Int) * ch.2.2.2 ≤ 6 * 3600 := Int.mul_le_mul (by omega) (by omega) (by omega) (by omega)
  exact ⟨by show (0 : Int) ≤ c; omega, by show (c : Int) < n; omega, by show (0 : Int) ≤ i; omega, by show (i : Int) < 6; omega, by show start ≤ start + i * ch.2.2.2; omega, by show start + i * ch.2.2.2 ≤ _; omega⟩
theorem rawFrom_ok {start : Int} : ∀ {l : List Chan} {c n : Nat}, (∀ x ∈ l, chanV x = true) → c + l.length ≤ n → ∀ a ∈ rawFrom start c l, AttOk start n a
  | [], c, n, _, _, a, ha => by simp [rawFrom] at ha
  | ch :: l, c, n, h, hn, a, ha => by
    simp only [List.length_cons] at hn
    simp only [rawFrom, List.mem_append] at ha
    rcases ha with ha | ha
    · exact triesOf_ok (h ch (by simp)) (by omega) a ha
    · exact rawFrom_ok (fun x hx => h x (by simp [hx])) (by omega) a ha

theorem planOf_len (p : Prof) (start : Int) : (planOf p start).length ≤ 24 := by
  unfold planOf
  cases h : profV p with
  | false => simp
  | true =>
    have q := profV_ok h
    have := q.few
    cases inB start 0 8589934592 with
    | false => simp
    | true =>
      simp only [Bool.and_self, cond_true, sortA_len]
      have := rawFrom_len (start := start) (c := 0) q.all
      omega
theorem planOf_ok {p : Prof} {start : Int} : ∀ a ∈ planOf p start, AttOk start 4 a ∧ 0 ≤ start ∧ start ≤ 8589934592 := by
  intro a ha
  unfold planOf at ha
  cases h : profV p with
  | false => rw [h] at ha; simp at ha
  | true =>
    have q := profV_ok h
    cases h2 : inB start 0 8589934592 with
    | false => rw [h2] at ha; simp at ha
    | true =>
      rw [h, h2] at ha
      simp only [Bool.and_self, cond_true] at ha
      exact ⟨rawFrom_ok q.all (by have := q.few; omega) a ((sortA_perm _).mem_iff.1 ha), inB_iff.1 h2⟩
theorem planOf_asc (p : Prof) (start : Int) : AscA (planOf p start) := by
  unfold planOf
  cases profV p && inB start 0 8589934592 with
  | false => exact .nil
  | true => exact sortA_asc _

theorem cmp_att_lt (a b : Att) : zq4z a b < 0 ↔ attLt a b := by
  unfold zq4z zq4x attLt
  split
  · omega
  · split <;> omega

/-- The code's sort is the sort. -/
theorem att_run {l : List Att} (h : ∀ x ∈ l, zq4y x = true) : zq50 l = sortA l := by
  obtain ⟨h1, h2⟩ := sortRun_good (d0 := ((0, 0, 0) : Int × Int × Int)) (h0 := rfl) zq54 h
  have hlen : (zq50 l).length = l.length := h1.length_eq
  refine asc_unique ?_ (sortA_asc l) (h1.trans (sortA_perm l).symm)
  refine List.pairwise_iff_getElem.2 fun i j hi hj hij => ?_
  have h3 := h2 i j hij (by omega)
  intro hlt
  have e : ∀ q, (hq : q < (zq50 l).length) → (zq50 l).getD q ((0, 0, 0) : Int × Int × Int) = (zq50 l)[q] := fun q hq => by simp [List.getD, hq]
  refine h3 ?_
  show zq4z ((zq50 l).getD j _) ((zq50 l).getD i _) < 0
  rw [e i hi, e j hj, cmp_att_lt]
  exact hlt

theorem att_good {start : Int} {n : Nat} {a : Att} (h : AttOk start n a) (hn : n ≤ 4) (h0 : 0 ≤ start ∧ start ≤ 8589934592) : zq4y a = true := by
  obtain ⟨a1, a2, a3, a4, a5, a6⟩ := h
  unfold zq4y
  simp only [Bool.and_eq_true, decide_eq_true_eq]
  omega

section
variable {β : Type}
theorem range_map_succ {α : Type} (f : Nat → α) (n : Nat) : (List.range (n + 1)).map f = (List.range n).map f ++ [f n] := by
  rw [List.range_succ, List.map_append]; rfl

/-- The first i tries. -/
def someTries (start : Int) (c : Nat) (ch : Chan) (i : Nat) : List Att := (List.range i).map fun (i : Nat) => ((c : Int), (i : Int), start + (i : Int) * ch.2.2.2)
theorem someTries_len (start : Int) (c : Nat) (ch : Chan) (i : Nat) : (someTries start c ch i).length = i := by simp [someTries]
theorem someTries_all (start : Int) (c : Nat) (ch : Chan) : someTries start c ch ch.2.2.1.toNat = triesOf start c ch := rfl
theorem someTries_succ (start : Int) (c : Nat) (ch : Chan) (i : Nat) : someTries start c ch (i + 1) = someTries start c ch i ++ [((c : Int), (i : Int), start + (i : Int) * ch.2.2.2)] := range_map_succ _ _
theorem try_wrap {start : Int} {i : Nat} {ch : Chan} (h0 : 0 ≤ start ∧ start ≤ 8589934592) (hch : ChanOk ch) (hi : i < 6) : IntKind.i64.wrap (start + IntKind.i64.wrap ((i : Int) * ch.2.2.2)) = start + (i : Int) * ch.2.2.2 := by
  have q3 := hch.p1; have q4 := hch.p2
  have m1 : 0 ≤ (i : Int) * ch.2.2.2 := Int.mul_nonneg (by omega) (by omega)
  have m2 : (i : Int) * ch.2.2.2 ≤ 6 * 3600 := Int.mul_le_mul (by omega) (by omega) (by omega) (by omega)
  rw [i64_in ((i : Int) * ch.2.2.2) (by omega), i64_in _ (by omega)]

theorem d_plan1 {start : Int} {ch : Chan} (h0 : 0 ≤ start ∧ start ≤ 8589934592) (hch : ChanOk ch) (c : Nat) (t18 : List Chan) (t19 t20 : Int) (out : List Att) (hout : out.length ≤ 100) (k1 : zq59 β) :
    zq5s k1 start c t18 t19 t20 ch.2.2.1 0 out ch.1 ch.2.1 ch.2.2.1 ch.2.2.2 = k1 start t18 t19 t20 (out ++ triesOf start c ch) := by
  have q1 := hch.t1; have q2 := hch.t2
  have key : ∀ (j i : Nat) (m : Nat), i + j = ch.2.2.1.toNat → j < m → zq5q m k1 start c t18 t19 t20 ch.2.2.1 (i : Int) (out ++ someTries start c ch i) ch.1 ch.2.1 ch.2.2.1 ch.2.2.2 = k1 start t18 t19 t20 (out ++ triesOf start c ch) := by
    intro j
    induction j with
    | zero =>
      intro i m hi hm
      obtain ⟨m, rfl⟩ : ∃ m', m = m' + 1 := ⟨m - 1, by omega⟩
      simp only [zq5r, zq5h]
      refine (c_neg (by omega)).trans ?_
      have : i = ch.2.2.1.toNat := by omega
      rw [this, someTries_all]
    | succ j ih =>
      intro i m hi hm
      obtain ⟨m, rfl⟩ : ∃ m', m = m' + 1 := ⟨m - 1, by omega⟩
      simp only [zq5r, zq5h]
      refine (c_pos (by omega)).trans ?_
      have hl := someTries_len start c ch i
      refine (c_room (by simp only [List.length_append, List.length_cons, List.length_nil]; omega)).trans ?_
      rw [try_wrap h0 hch (by omega), i64_in ((i : Int) + 1) (by omega), List.append_assoc, ← someTries_succ]
      exact ih (i + 1) m (by omega) (by omega)
  have h := key ch.2.2.1.toNat 0 fuel (by omega) (lt_fuel (by omega))
  simp only [someTries, List.range_zero, List.map_nil, List.append_nil] at h
  exact h

theorem rawFrom_snoc {start : Int} {l : List Chan} {i : Nat} (hi : i < l.length) : rawFrom start 0 (l.take (i + 1)) = rawFrom start 0 (l.take i) ++ triesOf start i (l.getD i ch0) := by
  rw [List.take_add_one, List.getElem?_eq_getElem hi, Option.toList_some, rawFrom_append]
  have : l.getD i ch0 = l[i] := by simp [List.getD, hi]
  rw [this]
  simp only [rawFrom, List.append_nil, List.length_take, Nat.zero_add]
  rw [show min i l.length = i by omega]
theorem take_all {l : List Chan} {p : Chan → Bool} (h : ∀ x ∈ l, p x = true) (i : Nat) : ∀ x ∈ l.take i, p x = true := fun x hx => h x (List.mem_of_mem_take hx)
theorem getD_all {l : List Chan} (h : ∀ x ∈ l, chanV x = true) {i : Nat} (hi : i < l.length) : chanV (l.getD i ch0) = true := by
  have : l.getD i ch0 = l[i] := by simp [List.getD, hi]
  rw [this]
  exact h _ (List.getElem_mem hi)

theorem d_plan2 {start : Int} {l : List Chan} (h0 : 0 ≤ start ∧ start ≤ 8589934592) (hl : l.length ≤ 4) (h : ∀ x ∈ l, chanV x = true) (k1 : zq5d β) :
    zq5w k1 start l (l.length : Int) 0 [] = k1 (rawFrom start 0 l) := by
  have key : ∀ (j i : Nat) (m : Nat), i + j = l.length → j < m → zq5u m k1 start l (l.length : Int) (i : Int) (rawFrom start 0 (l.take i)) = k1 (rawFrom start 0 l) := by
    intro j
    induction j with
    | zero =>
      intro i m hi hm
      obtain ⟨m, rfl⟩ : ∃ m', m = m' + 1 := ⟨m - 1, by omega⟩
      simp only [zq5v, zq5k]
      refine (c_neg (by omega)).trans ?_
      rw [List.take_of_length_le (by omega)]
    | succ j ih =>
      intro i m hi hm
      obtain ⟨m, rfl⟩ : ∃ m', m = m' + 1 := ⟨m - 1, by omega⟩
      simp only [zq5v, zq5k, Int.toNat_natCast]
      refine (c_pos (by omega)).trans ?_
      refine (c_inb (by omega)).trans ?_
      have hlen := rawFrom_len (start := start) (c := 0) (take_all h i)
      have hlt : (l.take i).length ≤ 4 := by simp only [List.length_take]; omega
      refine (d_plan1 h0 (chanV_ok (getD_all h (by omega))) i l _ _ _ (by omega) _).trans ?_
      rw [i64_in ((i : Int) + 1) (by omega), ← rawFrom_snoc (by omega)]
      exact ih (i + 1) m (by omega) (by omega)
  exact key l.length 0 fuel (by omega) (lt_fuel (by omega))

theorem d_plan (p : Prof) (start : Int) (k : List Att → Option β) : zq5y p start k = k (planOf p start) := by
  unfold zq5y zq5n planOf
  refine (d_valid _ _).trans ?_
  cases hv : profV p with
  | false => rfl
  | true =>
    refine (c_ff' rfl).trans ?_
    refine (d_in _ _ _ _).trans ?_
    cases hs : inB start 0 8589934592 with
    | false => rfl
    | true =>
      refine (c_ff' rfl).trans ?_
      have q := profV_ok hv
      have h0 := inB_iff.1 hs
      have few := q.few
      refine (d_plan2 h0 few q.all _).trans ?_
      have hok := rawFrom_ok (start := start) (c := 0) (n := 4) q.all (by omega)
      have hg : ∀ x ∈ rawFrom start 0 p.2, zq4y x = true := fun x hx => att_good (hok x hx) (by omega) h0
      have hlen := rawFrom_len (start := start) (c := 0) q.all
      refine (c_tt' (by rw [List.all_eq_true.2 hg, decide_eq_true (by omega)]; rfl)).trans ?_
      show k (zq50 _) = _
      rw [att_run hg]
      rfl
end
end
end Go.Lift

/- Contacts of chapter 27, function by function; code and reference. -/
namespace Go.Lift
open Go.RowKit Go.IntWalk
noncomputable section
set_option linter.unusedVariables false
set_option linter.unusedSimpArgs false
set_option maxRecDepth 10000

/-- A contact: page, step, person, start, what is sent, when it was reached. -/
abbrev Cont := Int × Int × Int × Int × Int × Int
abbrev Cont.start (c : Cont) : Int := c.2.2.2.1
abbrev Cont.sent (c : Cont) : Int := c.2.2.2.2.1
abbrev Cont.reached (c : Cont) : Int := c.2.2.2.2.2
def rightV (page step person start : Int) : Bool := decide (1 ≤ page) && (decide (-1 ≤ step) && (inB person 0 31 && inB start 0 8589934592))
def contV (c : Cont) : Bool := rightV c.1 c.2.1 c.2.2.1 c.2.2.2.1
def checkD (p : Prof) (c : Cont) : Bool :=
  profV p && (contV c && (decide (c.2.2.1 = p.1) && (inB c.2.2.2.2.1 0 (planOf p c.2.2.2.1).length && (decide (c.2.2.2.2.2 = -1) || (!decide (c.2.2.2.2.1 = 0) && decide (c.2.2.2.1 ≤ c.2.2.2.2.2))))))
section
variable {β : Type}
end
end
end Go.Lift

/- What becomes of a contact (chapter 27): attempts, arrivals, receipts; code and reference. -/
namespace Go.Lift
open Go.RowKit Go.IntWalk
noncomputable section
set_option linter.unusedVariables false
set_option linter.unusedSimpArgs false
set_option maxRecDepth 10000

/-! ### Sorted numbers -/
/-! ### Fates -/
/-- A fate: lost, delay, copy, receipt. -/
abbrev Fate := Bool × Int × Int × Int
abbrev lostF : Fate := (true, 0, 0, 0)
def fateV (f : Fate) : Bool := inB f.2.1 0 86400 && (inB f.2.2.1 0 86400 && inB f.2.2.2 (-1) 86400)
def fateOf (l : List Fate) (k : Int) : Fate :=
  cond (inB k 0 ((l.length : Int) - 1)) (cond (fateV (l.getD k.toNat (false, 0, 0, 0))) (l.getD k.toNat (false, 0, 0, 0)) lostF) lostF
def arrOf (t : Int) (f : Fate) : List Int :=
  cond (inB t 0 8589956192) (cond (fateV f) (cond f.1 [] (cond (decide (f.2.2.1 = 0)) [t + f.2.1] [t + f.2.1, t + f.2.1 + f.2.2.1])) []) []
def recOf (t : Int) (f : Fate) : List Int := cond (decide (f.2.2.2 = -1)) [] ((arrOf t f).map (· + f.2.2.2))

theorem arrOf_len (t : Int) (f : Fate) : (arrOf t f).length ≤ 2 := by
  unfold arrOf
  cases inB t 0 8589956192 <;> cases fateV f <;> cases f.1 <;> cases decide (f.2.2.1 = 0) <;> simp
theorem recOf_len (t : Int) (f : Fate) : (recOf t f).length ≤ 2 := by
  unfold recOf
  have := arrOf_len t f
  cases decide (f.2.2.2 = -1) <;> simp [this]
theorem arrOf_bd {t : Int} {f : Fate} : ∀ x ∈ arrOf t f, 0 ≤ x ∧ x ≤ 9000000000 ∧ fateV f = true := by
  intro x hx
  unfold arrOf at hx
  cases h1 : inB t 0 8589956192 with
  | false => rw [h1] at hx; simp at hx
  | true =>
    cases h2 : fateV f with
    | false => rw [h1, h2] at hx; simp at hx
    | true =>
      have g1 := inB_iff.1 h1
      have g2 := h2
      unfold fateV at g2
      simp only [Bool.and_eq_true, inB_iff] at g2
      rw [h1, h2] at hx
      simp only [cond_true] at hx
      cases h3 : f.1 with
      | true => rw [h3] at hx; simp at hx
      | false =>
        rw [h3] at hx
        simp only [cond_false] at hx
        cases h4 : decide (f.2.2.1 = 0) with
        | true =>
          rw [h4] at hx
          simp only [cond_true, List.mem_singleton] at hx
          exact ⟨by omega, by omega, rfl⟩
        | false =>
          rw [h4] at hx
          simp only [cond_false, List.mem_cons, List.not_mem_nil, or_false] at hx
          exact ⟨by omega, by omega, rfl⟩

section
variable {β : Type}
theorem ch_vfate (f : Fate) (k : Bool → Option β) : zq24 f k = k (fateV f) := by
  unfold zq24 zq21
  refine (ch_in _ _ _ _).trans ?_
  refine c_andk fun _ => ?_
  refine (ch_in _ _ _ _).trans ?_
  refine c_andk fun _ => ?_
  exact ch_in _ _ _ _
theorem ch_fates {l : List Fate} (hl : l.length ≤ 9223372036854775807) (i : Int) (k : Fate → Option β) : zq2t l i k = k (fateOf l i) := by
  unfold zq2t zq2q fateOf
  rw [i64_in ((l.length : Int) - 1) (by omega)]
  refine (ch_in _ _ _ _).trans ?_
  cases h : inB i 0 ((l.length : Int) - 1) with
  | false => rfl
  | true =>
    have h := inB_iff.1 h
    refine (c_tt' rfl).trans ?_
    refine (c_inb (by omega)).trans ?_
    refine (ch_vfate _ _).trans ?_
    simp only [cond_true]
    cases fateV (l.getD i.toNat (false, 0, 0, 0)) with
    | false => rfl
    | true => exact c_inb (by omega)
theorem ch_arrivals (t : Int) (f : Fate) (k : List Int → Option β) : zq30 t f k = k (arrOf t f) := by
  unfold zq30 zq2x arrOf
  refine (ch_in _ _ _ _).trans ?_
  cases h1 : inB t 0 8589956192 with
  | false => rfl
  | true =>
    refine (c_ff' rfl).trans ?_
    refine (ch_vfate _ _).trans ?_
    cases h2 : fateV f with
    | false => rfl
    | true =>
      have g1 := inB_iff.1 h1
      unfold fateV at h2
      simp only [Bool.and_eq_true, inB_iff] at h2
      refine (c_ff' rfl).trans ?_
      simp only [cond_true]
      cases h3 : f.1 with
      | true => rfl
      | false =>
        refine (c_ff' rfl).trans ?_
        rw [i64_in (t + f.2.1) (by omega), i64_in (t + f.2.1 + f.2.2.1) (by omega)]
        by_cases h4 : f.2.2.1 = 0
        · refine (c_npos h4).trans ?_
          rw [decide_eq_true h4]; rfl
        · refine (c_nneg h4).trans ?_
          rw [decide_eq_false h4]
          exact c_room (by simp)
theorem ch_receipts (t : Int) (f : Fate) (k : List Int → Option β) : zq3i t f k = k (recOf t f) := by
  unfold zq3i zq3b recOf
  refine (ch_arrivals _ _ _).trans ?_
  by_cases h : f.2.2.2 = -1
  · refine (c_pos h).trans ?_
    rw [decide_eq_true h]; rfl
  · refine (c_neg h).trans ?_
    rw [decide_eq_false h]
    have hlen := arrOf_len t f
    have hbd : ∀ x ∈ arrOf t f, IntKind.i64.wrap (x + f.2.2.2) = x + f.2.2.2 := by
      intro x hx
      obtain ⟨a1, a2, a3⟩ := arrOf_bd x hx
      unfold fateV at a3
      simp only [Bool.and_eq_true, inB_iff] at a3
      exact i64_in _ (by omega)
    generalize arrOf t f = l at hlen hbd
    have key : ∀ (r pre : List Int) (m : Nat) (k1 : zq34 β), l = pre ++ r → r.length < m →
        zq3e m k1 (l.length : Int) (pre.length : Int) f.1 f.2.1 f.2.2.1 f.2.2.2 (pre.map (· + f.2.2.2) ++ r) = k1 (l.map (· + f.2.2.2)) := by
      intro r
      induction r with
      | nil =>
        intro pre m k1 hp hm
        obtain ⟨m, rfl⟩ : ∃ m', m = m' + 1 := ⟨m - 1, by simp at hm; omega⟩
        rw [List.append_nil] at hp
        subst hp
        simp only [zq3f, zq38]
        refine (c_neg (by omega)).trans ?_
        rw [List.append_nil]
      | cons x r ih =>
        intro pre m k1 hp hm
        obtain ⟨m, rfl⟩ : ∃ m', m = m' + 1 := ⟨m - 1, by simp at hm; omega⟩
        have hl : l.length = pre.length + (r.length + 1) := by rw [hp]; simp
        have ho : (pre.map (· + f.2.2.2) ++ x :: r).length = l.length := by simp [hl]
        have hg : (pre.map (· + f.2.2.2) ++ x :: r).getD pre.length (0 : Int) = x := by simp [List.getD]
        simp only [zq3f, zq38, Int.toNat_natCast]
        refine (c_pos (by omega)).trans ?_
        refine (c_inb (by omega)).trans ?_
        refine (c_inb (by omega)).trans ?_
        rw [hg, hbd x (by rw [hp]; simp), i64_in ((pre.length : Int) + 1) (by omega)]
        have := ih (pre ++ [x]) m k1 (by rw [hp]; simp) (by simp at hm; omega)
        simp only [List.length_append, List.length_cons, List.length_nil, List.map_append, List.map_cons, List.map_nil, List.append_assoc, List.cons_append, List.nil_append] at this
        rw [← this]
        congr 1
        rw [List.set_append_right _ _ (by simp)]
        simp
    exact key l [] fuel _ rfl (lt_fuel (by omega))
/-! ### The reference's insertion -/
end
end
end Go.Lift

/- The run of a contact (chapter 27), code and reference; bounds; equal lists; the examples. -/
namespace Go.Lift
open Go.RowKit Go.IntWalk
noncomputable section
set_option linter.unusedVariables false
set_option linter.unusedSimpArgs false
set_option maxRecDepth 10000

abbrev RunS := List Int × List Int × Nat
def runStep (fates : List (List Fate)) (a : Att) (s : RunS) : RunS :=
  (s.1 ++ arrOf a.2.2 (fateOf (fates.getD a.1.toNat []) a.2.1), s.2.1 ++ recOf a.2.2 (fateOf (fates.getD a.1.toNat []) a.2.1), s.2.2 + 1)
def runStop (prev : Option Int) (a : Att) (s : RunS) : Bool := !decide (prev = some a.2.2) && s.2.1.any fun t => decide (t ≤ a.2.2)
def runGo (fates : List (List Fate)) : List Att → Option Int → RunS → RunS
  | [], _, s => s
  | a :: l, prev, s => cond (runStop prev a s) s (runGo fates l (some a.2.2) (runStep fates a s))
def runD (p : Prof) (start : Int) (fates : List (List Fate)) : RunS := runGo fates (planOf p start) none ([], [], 0)

theorem runStep_len (fates : List (List Fate)) (a : Att) (s : RunS) : (runStep fates a s).1.length ≤ s.1.length + 2 ∧ (runStep fates a s).2.1.length ≤ s.2.1.length + 2 := by
  unfold runStep
  have h1 := arrOf_len a.2.2 (fateOf (fates.getD a.1.toNat []) a.2.1)
  have h2 := recOf_len a.2.2 (fateOf (fates.getD a.1.toNat []) a.2.1)
  simp only [List.length_append]
  omega

abbrev lastAt (pre : List Att) : Option Int := pre.getLast?.map fun a => a.2.2

section
variable {β : Type}
theorem d_index2 {l : List Int} (hl : l.length ≤ 1000) (a : Att) (k1 : zq62 β) (k2 : zq63 β) (E : Option β) (hE : ∀ i : Nat, k1 (i : Int) a.1 a.2.1 a.2.2 = E) :
    zq6f k1 k2 l (l.length : Int) 0 a.1 a.2.1 a.2.2 = cond (l.all fun t => !decide (t ≤ a.2.2)) (k2 a.1 a.2.1 a.2.2) E := by
  refine check_loop (fun m i => zq6d m k1 k2 l (l.length : Int) i a.1 a.2.1 a.2.2) (fun t => !decide (t ≤ a.2.2)) E (k2 a.1 a.2.1 a.2.2) 0 l fuel (lt_fuel (by omega)) (fun m i hi => ?_) (fun m => ?_)
  · simp only [zq6e, zq67, Int.toNat_natCast]
    refine (c_pos (by omega)).trans ?_
    refine (c_inb (by omega)).trans ?_
    unfold zq1f zq1c
    rw [i64_in ((i : Int) + 1) (by omega)]
    cases decide (l.getD i 0 ≤ a.2.2) with
    | true => exact hE i
    | false => rfl
  · simp only [zq6e, zq67]
    rw [c_neg (by omega)]
theorem d_contains2 {l : List Int} (hl : l.length ≤ 1000) (a : Att) (k : Bool → Att → Option β) : zq6o l a k = k (l.any fun t => decide (t ≤ a.2.2)) a := by
  unfold zq6o zq6l zq6h zq6a
  refine (d_index2 hl a _ _ (k true a) fun i => ?_).trans ?_
  · show k (decide ((0 : Int) ≤ (i : Int))) a = k true a
    rw [decide_eq_true (by omega)]
  · have : (l.any fun t => decide (t ≤ a.2.2)) = !(l.all fun t => !decide (t ≤ a.2.2)) := by simp [List.any_eq_not_all_not]
    rw [this]
    cases (l.all fun t => !decide (t ≤ a.2.2)) <;> rfl

theorem d_run1 {fates : List (List Fate)} {f : List Fate} (hf : f.length ≤ 9223372036854775807) {sent t18 t19 : Int} {s : RunS} (hs1 : s.1.length ≤ 100) (hs2 : s.2.1.length ≤ 100) (hs : s.2.2 ≤ 100) (l : List Att) (a : Att) (k1 : zq6s β) :
    zq7g k1 fates (s.2.2 : Int) f t18 t19 s.1 s.2.1 l a.1 a.2.1 a.2.2 = k1 fates ((s.2.2 + 1 : Nat) : Int) t18 t19 (s.1 ++ arrOf a.2.2 (fateOf f a.2.1)) (s.2.1 ++ recOf a.2.2 (fateOf f a.2.1)) l := by
  unfold zq7g zq75 zq74
  have h1 := arrOf_len a.2.2 (fateOf f a.2.1)
  have h2 := recOf_len a.2.2 (fateOf f a.2.1)
  refine (ch_fates hf _ _).trans ?_
  refine (ch_arrivals _ _ _).trans ?_
  refine (c_room (by omega)).trans ?_
  refine (ch_receipts _ _ _).trans ?_
  refine (c_room (by omega)).trans ?_
  rw [i64_in ((s.2.2 : Int) + 1) (by omega)]
  rfl
theorem getD_len {fates : List (List Fate)} (hf : ∀ f ∈ fates, f.length ≤ 9223372036854775807) (i : Nat) : (fates.getD i []).length ≤ 9223372036854775807 := by
  by_cases h : i < fates.length
  · have : fates.getD i [] = fates[i] := by simp [List.getD, h]
    rw [this]; exact hf _ (List.getElem_mem h)
  · have : fates.getD i [] = [] := by simp [List.getD, h]
    rw [this]; simp
theorem d_run2 {fates : List (List Fate)} (hf : ∀ f ∈ fates, f.length ≤ 9223372036854775807) {t18 t19 : Int} {s : RunS} (hs1 : s.1.length ≤ 100) (hs2 : s.2.1.length ≤ 100) (hs : s.2.2 ≤ 100) (l : List Att) (a : Att) (ha : 0 ≤ a.1) (k1 : zq6w β) :
    zq7i k1 fates (s.2.2 : Int) t18 t19 s.1 s.2.1 l a.1 a.2.1 a.2.2 = k1 fates ((runStep fates a s).2.2 : Int) t18 t19 (runStep fates a s).1 (runStep fates a s).2.1 l := by
  unfold zq7i zq78 zq77
  by_cases h : a.1 < (fates.length : Int)
  · refine (c_pos h).trans ?_
    refine (c_inb (by omega)).trans ?_
    exact d_run1 (sent := 0) (getD_len hf _) hs1 hs2 hs l a _
  · refine (c_neg h).trans ?_
    have : fates.getD a.1.toNat [] = [] := by
      have : ¬ a.1.toNat < fates.length := by omega
      simp [List.getD, this]
    unfold runStep
    rw [this]
    exact d_run1 (sent := 0) (by simp) hs1 hs2 hs l a _

theorem d_run3 {fates : List (List Fate)} (hf : ∀ f ∈ fates, f.length ≤ 9223372036854775807) {l : List Att} (hl : l.length ≤ 24) (hok : ∀ a ∈ l, 0 ≤ a.1) :
    ∀ (r pre : List Att) (m : Nat) (s : RunS) (k1 : zq70 β), l = pre ++ r → r.length < m → s.1.length ≤ 2 * pre.length → s.2.1.length ≤ 2 * pre.length → s.2.2 ≤ pre.length →
      zq7k m k1 fates (s.2.2 : Int) (l.length : Int) (pre.length : Int) s.1 s.2.1 l = k1 ((runGo fates r (lastAt pre) s).2.2 : Int) (runGo fates r (lastAt pre) s).1 (runGo fates r (lastAt pre) s).2.1 := by
  intro r
  induction r with
  | nil =>
    intro pre m s k1 hp hm _ _ _
    obtain ⟨m, rfl⟩ : ∃ m', m = m' + 1 := ⟨m - 1, by simp at hm; omega⟩
    rw [List.append_nil] at hp
    subst hp
    simp only [zq7l, zq7a]
    exact c_neg (by omega)
  | cons x r ih =>
    intro pre m s k1 hp hm h1 h2 h3
    obtain ⟨m, rfl⟩ : ∃ m', m = m' + 1 := ⟨m - 1, by simp at hm; omega⟩
    have hlen : l.length = pre.length + (r.length + 1) := by rw [hp]; simp
    have hg : l.getD pre.length ((0 : Int), ((0 : Int), (0 : Int))) = x := by rw [hp]; simp [List.getD]
    have hx0 : 0 ≤ x.1 := hok x (by rw [hp]; simp)
    have hnext : ∀ k1 : zq70 β, zq7k m k1 fates ((runStep fates x s).2.2 : Int) (l.length : Int) ((pre.length : Int) + 1) (runStep fates x s).1 (runStep fates x s).2.1 l = k1 ((runGo fates r (some x.2.2) (runStep fates x s)).2.2 : Int) (runGo fates r (some x.2.2) (runStep fates x s)).1 (runGo fates r (some x.2.2) (runStep fates x s)).2.1 := by
      intro k1
      have g := runStep_len fates x s
      have := ih (pre ++ [x]) m (runStep fates x s) k1 (by rw [hp]; simp) (by simp at hm; omega) (by rw [List.length_append, List.length_singleton]; omega) (by rw [List.length_append, List.length_singleton]; omega) (by rw [List.length_append, List.length_singleton]; show s.2.2 + 1 ≤ _; omega)
      have e : lastAt (pre ++ [x]) = some x.2.2 := by simp [lastAt]
      rw [e, List.length_append, List.length_singleton] at this
      exact this
    simp only [zq7l, zq7a, Int.toNat_natCast, hg]
    refine (c_pos (by omega)).trans ?_
    refine (c_inb (by omega)).trans ?_
    have hstep : ∀ (b : Bool), cond b (k1 (s.2.2 : Int) s.1 s.2.1) (zq7i (fun fates2 sent2 t182 t192 arrivals2 receipts2 l2 => zq7k m k1 fates2 sent2 t182 (IntKind.i64.wrap (t192 + (1 : Int))) arrivals2 receipts2 l2) fates (s.2.2 : Int) (l.length : Int) (pre.length : Int) s.1 s.2.1 l x.1 x.2.1 x.2.2) =
        k1 ((cond b s (runGo fates r (some x.2.2) (runStep fates x s))).2.2 : Int) (cond b s (runGo fates r (some x.2.2) (runStep fates x s))).1 (cond b s (runGo fates r (some x.2.2) (runStep fates x s))).2.1 := by
      intro b
      cases b with
      | true => rfl
      | false =>
        refine (d_run2 hf (by omega) (by omega) (by omega) l x hx0 _).trans ?_
        rw [i64_in ((pre.length : Int) + 1) (by omega)]
        exact hnext k1
    rcases List.eq_nil_or_concat pre with rfl | ⟨pre', y, rfl⟩
    · refine (c_pos (by simp)).trans ?_
      refine (d_contains2 (by omega) x _).trans ?_
      refine (hstep _).trans ?_
      rfl
    · rw [List.concat_eq_append] at *
      have hy : l.getD pre'.length ((0 : Int), ((0 : Int), (0 : Int))) = y := by rw [hp]; simp [List.getD]
      have hpl : (pre' ++ [y]).length = pre'.length + 1 := by simp
      refine (c_neg (by omega)).trans ?_
      rw [i64_in (((pre' ++ [y]).length : Int) - 1) (by omega), show (((pre' ++ [y]).length : Int) - 1) = (pre'.length : Int) by omega]
      refine (c_inb (by omega)).trans ?_
      simp only [Int.toNat_natCast, hy]
      have hlast : lastAt (pre' ++ [y]) = some y.2.2 := by simp [lastAt]
      by_cases he : y.2.2 = x.2.2
      · refine (c_npos he).trans ?_
        refine (hstep false).trans ?_
        have : runGo fates (x :: r) (lastAt (pre' ++ [y])) s = runGo fates r (some x.2.2) (runStep fates x s) := by
          rw [runGo, runStop, hlast, he]
          simp
        rw [this]
        rfl
      · refine (c_nneg he).trans ?_
        refine (d_contains2 (by omega) x _).trans ?_
        refine (hstep _).trans ?_
        have : runGo fates (x :: r) (lastAt (pre' ++ [y])) s = cond (s.2.1.any fun t => decide (t ≤ x.2.2)) s (runGo fates r (some x.2.2) (runStep fates x s)) := by
          rw [runGo, runStop, hlast]
          rw [decide_eq_false (show ¬ (some y.2.2 : Option Int) = some x.2.2 by simpa using he)]
          rfl
        rw [this]

theorem runGo_len (fates : List (List Fate)) : ∀ (l : List Att) (prev : Option Int) (s : RunS), (runGo fates l prev s).1.length ≤ s.1.length + 2 * l.length ∧ (runGo fates l prev s).2.1.length ≤ s.2.1.length + 2 * l.length
  | [], prev, s => by simp [runGo]
  | a :: l, prev, s => by
    unfold runGo
    have h1 := runGo_len fates l (some a.2.2) (runStep fates a s)
    have h2 := runStep_len fates a s
    simp only [List.length_cons]
    cases runStop prev a s with
    | true => simp only [cond_true]; omega
    | false => simp only [cond_false]; omega

theorem d_run (p : Prof) (start : Int) {fates : List (List Fate)} (hf : ∀ f ∈ fates, f.length ≤ 9223372036854775807) (k : Int → List Int → List Int → Option β) :
    zq7o p start fates k = k ((runD p start fates).2.2 : Int) (sortInts (runD p start fates).1) (sortInts (runD p start fates).2.1) := by
  unfold zq7o zq7d
  refine (d_plan _ _ _).trans ?_
  have hl := planOf_len p start
  have g := runGo_len fates (planOf p start) none ([], [], 0)
  refine (d_run3 hf hl (fun a ha => (planOf_ok a ha).1.c1) (planOf p start) [] fuel ([], [], 0) _ rfl (lt_fuel (by omega)) (by simp) (by simp) (by simp)).trans ?_
  simp only [List.length_nil] at g
  refine (c_pos (show _ < 4611686018427387904 by show (runGo fates (planOf p start) none ([], [], 0)).1.length < _; omega)).trans ?_
  exact c_pos (show _ < 4611686018427387904 by show (runGo fates (planOf p start) none ([], [], 0)).2.1.length < _; omega)

/-! ### The reference's run -/
/-! ### Equal lists -/
/-! ### The examples -/
theorem sane27 (k : Bool → Option β) : zq7v k = k true := by
  unfold zq7v zq7s
  refine (d_plan _ _ _).trans ?_
  refine (d_run _ _ (by simp) _).trans ?_
  have e1 : planOf (0, [(0, 9, 2, 60), (0, 9, 2, 90)]) 0 = [(0, 0, 0), (1, 0, 0), (0, 1, 60), (1, 1, 90)] := by decide +kernel
  have e2 : runD (0, [(0, 9, 2, 60), (0, 9, 2, 90)]) 0 [[(false, 30, 0, 0)]] = ([30], [30], 2) := by
    unfold runD
    rw [e1]
    decide +kernel
  have e3 : sortInts [30] = [30] := by simp [sortInts, List.mergeSort]
  rw [e1, e2]
  simp only [e3]
  rfl
end
end
end Go.Lift

/- The dice in plain Lean. -/
namespace Go.Lift
open Go.RowKit Go.IntWalk
noncomputable section
set_option linter.unusedVariables false
set_option linter.unusedSimpArgs false

abbrev Dice := List Int × Int
def DiceOk (d : Dice) : Prop := 0 ≤ d.2 ∧ d.2 ≤ d.1.length ∧ d.1.length ≤ 500

theorem light_eq {β : Type} (l : List Int) (k : Bool → Option β) : zq9 l k = k (decide ((l.length : Int) ≤ 500)) := by
  simp only [zq9, zq6]
theorem roll_eq {β : Type} (l : List Int) (k : Dice → Option β) : zqg l k = k (l, 0) := by
  simp only [zqg, zqd]
theorem roll_ok {l : List Int} (h : (l.length : Int) ≤ 500) : DiceOk (l, 0) := ⟨by simp, by simp, by show l.length ≤ 500; omega⟩

theorem next_ok {n : Int} {d : Dice} (hd : DiceOk d) (hn : 1 ≤ n ∧ n ≤ 4611686018427387904) :
    ∃ x d', 0 ≤ x ∧ x < n ∧ DiceOk d' ∧ ∀ {β : Type} (k : Int → Dice → Option β), zqn n d k = k x d' := by
  obtain ⟨h1, h2, h3⟩ := hd
  by_cases ha : (d.1.length : Int) ≤ d.2
  · exact ⟨0, d, by omega, by omega, ⟨h1, h2, h3⟩, fun k => by simp (disch := omega) only [zqn, zqk, c_pos]⟩
  · generalize hv : List.getD d.1 (Int.toNat d.2) (0 : Int) = v
    have hm1 := Int.tmod_lt_of_pos v (show 0 < n by omega)
    have hm2 : -n < Int.tmod v n := by
      have h5 := Int.tmod_lt_of_pos (-v) (show 0 < n by omega)
      rw [Int.neg_tmod] at h5
      omega
    have hd' : DiceOk (d.1, d.2 + 1) := ⟨by show (0 : Int) ≤ d.2 + 1; omega, by show d.2 + 1 ≤ (d.1.length : Int); omega, h3⟩
    by_cases hc : Int.tmod v n < 0
    · refine ⟨Int.tmod v n + n, (d.1, d.2 + 1), by omega, by omega, hd', fun k => ?_⟩
      simp (disch := omega) only [zqn, zqk, hv, c_pos, c_neg, c_inb, c_nneg, i64_in]
    · refine ⟨Int.tmod v n, (d.1, d.2 + 1), by omega, by omega, hd', fun k => ?_⟩
      simp (disch := omega) only [zqn, zqk, hv, c_pos, c_neg, c_inb, c_nneg, i64_in]

end
end Go.Lift

/- The dice in plain Lean: one of several numbers. -/
namespace Go.Lift
open Go.RowKit Go.IntWalk
noncomputable section
set_option linter.unusedVariables false
set_option linter.unusedSimpArgs false

theorem one_ok {l : List Int} {d : Dice} (hl : 0 < l.length) (hlen : l.length ≤ 1000000) (hd : DiceOk d) :
    ∃ x d', x ∈ l ∧ DiceOk d' ∧ ∀ {β : Type} (k : Int → Dice → Option β), zqu l d k = k x d' := by
  obtain ⟨x, d', h1, h2, hd', hf⟩ := next_ok (n := (l.length : Int)) hd (by omega)
  have hxn : x.toNat < l.length := by omega
  refine ⟨l.getD x.toNat 0, d', ?_, hd', fun k => ?_⟩
  · simp [List.getD, hxn]
  · simp (disch := omega) only [zqu, zqr, hf, c_inb]
end
end Go.Lift

/- Drawn persons, fates and contacts (chapter 27). -/
namespace Go.Lift
open Go.RowKit Go.IntWalk
noncomputable section
set_option linter.unusedVariables false
set_option linter.unusedSimpArgs false
set_option maxRecDepth 10000

theorem channel_ok {d : Dice} (hd : DiceOk d) : ∃ c d', chanV c = true ∧ DiceOk d' ∧ ∀ {β : Type} (k : Chan → Dice → Option β), zq11 d k = k c d' := by
  obtain ⟨x1, d1, a1, a2, hd1, f1⟩ := next_ok (n := 3) hd (by omega)
  obtain ⟨x2, d2, m2, hd2, f2⟩ := one_ok (l := [(0 : Int), 30, 60, 3600]) (by simp) (by simp) hd1
  obtain ⟨x3, d3, b1, b2, hd3, f3⟩ := next_ok (n := 4) hd2 (by omega)
  obtain ⟨x4, d4, m4, hd4, f4⟩ := one_ok (l := [(1 : Int), 30, 60, 120]) (by simp) (by simp) hd3
  simp only [List.mem_cons, List.not_mem_nil, or_false] at m2 m4
  refine ⟨(x1, x2, 1 + x3, x4), d4, ?_, hd4, fun k => ?_⟩
  · unfold chanV
    simp only [Bool.and_eq_true, inB_iff]
    omega
  · unfold zq11 zqy
    refine (f1 _).trans ?_
    refine (f2 _).trans ?_
    refine (f3 _).trans ?_
    refine (f4 _).trans ?_
    rw [i64_in (1 + x3) (by omega)]

theorem person_ok {who : Int} (hw : 0 ≤ who ∧ who ≤ 31) {d : Dice} (hd : DiceOk d) :
    ∃ p d', profV p = true ∧ p.1 = who ∧ p.2.length ≤ 3 ∧ DiceOk d' ∧ ∀ {β : Type} (k : Prof → Dice → Option β), zq2m who d k = k p d' := by
  obtain ⟨x1, d1, a1, a2, hd1, f1⟩ := next_ok (n := 4) hd (by omega)
  have key : ∀ (n : Nat) (m : Nat) (d : Dice) (l : List Chan), n < m → n ≤ 3 → l.length + n ≤ 3 → (∀ c ∈ l, chanV c = true) → DiceOk d → ∃ l' d', l'.length ≤ 3 ∧ (∀ c ∈ l', chanV c = true) ∧ DiceOk d' ∧
      ∀ {β : Type} (k1 : zq28 β), zq2i m k1 (n : Int) d.1 d.2 0 who [] l = k1 d'.1 d'.2 0 who [] l' := by
    intro n
    induction n with
    | zero =>
      intro m d l hm hn hl hv hd
      obtain ⟨m, rfl⟩ : ∃ m', m = m' + 1 := ⟨m - 1, by omega⟩
      refine ⟨l, d, by omega, hv, hd, fun k1 => ?_⟩
      simp only [zq2j, zq2c]
      exact c_neg (by omega)
    | succ n ih =>
      intro m d l hm hn hl hv hd
      obtain ⟨m, rfl⟩ : ∃ m', m = m' + 1 := ⟨m - 1, by omega⟩
      obtain ⟨c, d1, hc, hd1, fc⟩ := channel_ok hd
      obtain ⟨l', d', h1, h2, h3, h4⟩ := ih m d1 (l ++ [c]) (by omega) (by omega) (by simp; omega) (fun x hx => by
        rcases List.mem_append.1 hx with hx | hx
        · exact hv x hx
        · rw [List.mem_singleton.1 hx]; exact hc) hd1
      refine ⟨l', d', h1, h2, h3, fun k1 => ?_⟩
      simp only [zq2j, zq2c]
      refine (c_pos (by omega)).trans ?_
      refine (fc _).trans ?_
      refine (c_room (by simp only [List.length_cons, List.length_nil]; omega)).trans ?_
      rw [show IntKind.i64.wrap (((n + 1 : Nat) : Int) - 1) = (n : Int) by rw [i64_in _ (by omega)]; omega]
      exact h4 k1
  obtain ⟨l', d', h1, h2, h3, h4⟩ := key x1.toNat fuel d1 [] (lt_fuel (by omega)) (by omega) (by simp; omega) (by simp) hd1
  refine ⟨(who, l'), d', ?_, rfl, h1, h3, fun k => ?_⟩
  · unfold profV
    simp only [Bool.and_eq_true, inB_iff, decide_eq_true_eq, List.all_eq_true]
    exact ⟨hw, by omega, h2⟩
  · unfold zq2m zq2f
    refine (f1 _).trans ?_
    rw [show ((x1.toNat : Nat) : Int) = x1 by omega] at h4
    exact h4 _

/-! ### Contacts -/
/-- A contact that stands, and what was sent was due. -/
structure CI (p : Prof) (c : Cont) (now : Int) : Prop where
  ck : checkD p c = true
  due : ∀ i : Nat, (i : Int) < c.2.2.2.2.1 → ((planOf p c.2.2.2.1).getD i at0).2.2 ≤ now

theorem CI.later {p : Prof} {c : Cont} {now now' : Int} (h : CI p c now) (hle : now ≤ now') : CI p c now' := ⟨h.ck, fun i hi => by have := h.due i hi; omega⟩

end
end Go.Lift

/- DeliveryPlans: a plan has each try of each channel once, at its time, ascending; a later start moves it as a whole. -/
namespace Go.Lift
open Go.RowKit Go.IntWalk
noncomputable section
set_option linter.unusedVariables false
set_option linter.unusedSimpArgs false
set_option maxRecDepth 10000

/-! ### A map with pairs as keys -/
abbrev KT : Ty := .prod (.int .i64) (.int .i64)
abbrev eqK (x y : Int × Int) : Bool := decide (x.1 = y.1) && decide (x.2 = y.2)
theorem eqK_iff {x y : Int × Int} : eqK x y = true ↔ x = y := by
  obtain ⟨a, b⟩ := x
  obtain ⟨c, d⟩ := y
  simp [eqK]
theorem mget_mput : ∀ (m : List ((Int × Int) × Bool)) (x y : Int × Int), mGet KT (mPut KT m x true) y false = (eqK x y || mGet KT m y false)
  | [], x, y => by
    show cond (eqK x y) true false = _
    cases eqK x y <;> rfl
  | z :: r, x, y => by
    show mGet KT (cond (eqK z.1 x) ((x, true) :: r) (z :: mPut KT r x true)) y false = (eqK x y || cond (eqK z.1 y) z.2 (mGet KT r y false))
    cases h : eqK z.1 x with
    | true =>
      have e := eqK_iff.1 h
      rw [e]
      show cond (eqK x y) true (mGet KT r y false) = _
      cases eqK x y <;> rfl
    | false =>
      show cond (eqK z.1 y) z.2 (mGet KT (mPut KT r x true) y false) = _
      rw [mget_mput r x y]
      cases h2 : eqK z.1 y with
      | false => rfl
      | true =>
        have e := eqK_iff.1 h2
        have : eqK x y = false := by
          cases h3 : eqK x y with
          | false => rfl
          | true =>
            rw [eqK_iff.1 h3, e, eqK_iff.2 rfl] at h
            cases h
        rw [this]; rfl
def seenOf (ks : List (Int × Int)) : List ((Int × Int) × Bool) := ks.foldl (fun m x => mPut KT m x true) []
theorem seenOf_snoc (ks : List (Int × Int)) (x : Int × Int) : seenOf (ks ++ [x]) = mPut KT (seenOf ks) x true := by
  unfold seenOf; rw [List.foldl_append]; rfl
theorem seenOf_get (ks : List (Int × Int)) (y : Int × Int) (h : y ∉ ks) : mGet KT (seenOf ks) y false = false := by
  have key : ∀ (ks : List (Int × Int)) (m : List ((Int × Int) × Bool)), mGet KT m y false = false → y ∉ ks → mGet KT (ks.foldl (fun m x => mPut KT m x true) m) y false = false := by
    intro ks
    induction ks with
    | nil => intro m h _; exact h
    | cons x ks ih =>
      intro m h hy
      refine ih _ ?_ fun h => hy (by simp [h])
      rw [mget_mput, h]
      have : eqK x y = false := by
        cases h3 : eqK x y with
        | false => rfl
        | true => exact absurd (by rw [eqK_iff.1 h3]; simp) hy
      rw [this]; rfl
  exact key ks [] rfl h

/-! ### What a plan has -/
abbrev keyA (a : Att) : Int × Int := (a.1, a.2.1)
theorem raw_mem {start : Int} : ∀ {l : List Chan} {c : Nat} {a : Att}, a ∈ rawFrom start c l → ∃ j i : Nat, j < l.length ∧ i < (l.getD j ch0).2.2.1.toNat ∧ a = (((c + j : Nat) : Int), (i : Int), start + (i : Int) * (l.getD j ch0).2.2.2)
  | [], c, a, h => by simp [rawFrom] at h
  | ch :: l, c, a, h => by
    simp only [rawFrom, List.mem_append] at h
    rcases h with h | h
    · unfold triesOf at h
      obtain ⟨i, hi, rfl⟩ := List.mem_map.1 h
      exact ⟨0, i, by simp, List.mem_range.1 hi, rfl⟩
    · obtain ⟨j, i, h1, h2, h3⟩ := raw_mem h
      refine ⟨j + 1, i, by simp; omega, h2, ?_⟩
      rw [h3, show c + 1 + j = c + (j + 1) by omega]
      rfl
theorem raw_nodup {start : Int} : ∀ {l : List Chan} {c : Nat}, ((rawFrom start c l).map keyA).Nodup
  | [], c => by simp [rawFrom]
  | ch :: l, c => by
    simp only [rawFrom, List.map_append]
    refine List.nodup_append.2 ⟨?_, raw_nodup, ?_⟩
    · unfold triesOf
      rw [List.map_map]
      refine List.Pairwise.map _ (R := fun a b => a ≠ b) ?_ List.nodup_range
      intro a b hab he
      have : ((a : Int)) = (b : Int) := congrArg Prod.snd he
      omega
    · intro x hx y hy he
      subst he
      obtain ⟨a, ha, rfl⟩ := List.mem_map.1 hx
      obtain ⟨b, hb, heb⟩ := List.mem_map.1 hy
      unfold triesOf at ha
      obtain ⟨i, _, rfl⟩ := List.mem_map.1 ha
      obtain ⟨j, i2, _, _, rfl⟩ := raw_mem hb
      have : (((c + 1 + j : Nat)) : Int) = (c : Int) := congrArg Prod.fst heb
      omega
def triesSum (l : List Chan) : Int := l.foldl (fun n c => n + c.2.2.1) 0
theorem tries_from : ∀ (l : List Chan) (n : Int), l.foldl (fun n c => n + c.2.2.1) n = n + triesSum l
  | [], n => by simp [triesSum]
  | c :: l, n => by
    unfold triesSum
    simp only [List.foldl_cons]
    rw [tries_from l, tries_from l (0 + c.2.2.1)]
    omega
theorem raw_count {start : Int} : ∀ {l : List Chan} {c : Nat}, (∀ x ∈ l, chanV x = true) → ((rawFrom start c l).length : Int) = triesSum l
  | [], c, _ => rfl
  | ch :: l, c, h => by
    have h1 := raw_count (start := start) (l := l) (c := c + 1) fun x hx => h x (by simp [hx])
    have h2 := (chanV_ok (h ch (by simp))).t1
    simp only [rawFrom, List.length_append, triesOf_len]
    have : triesSum (ch :: l) = ch.2.2.1 + triesSum l := by
      show List.foldl _ (0 + ch.2.2.1) l = _
      rw [tries_from]; omega
    omega

/-- Moved in time. -/
abbrev moveA (n : Int) (a : Att) : Att := (a.1, a.2.1, a.2.2 + n)
theorem raw_move (start n : Int) : ∀ (l : List Chan) (c : Nat), rawFrom (start + n) c l = (rawFrom start c l).map (moveA n)
  | [], c => rfl
  | ch :: l, c => by
    simp only [rawFrom, List.map_append]
    rw [raw_move start n l (c + 1)]
    congr 1
    unfold triesOf
    rw [List.map_map]
    refine List.map_congr_left fun i _ => ?_
    show ((c : Int), (i : Int), start + n + (i : Int) * ch.2.2.2) = ((c : Int), (i : Int), start + (i : Int) * ch.2.2.2 + n)
    simp only [Prod.mk.injEq, true_and]
    omega
theorem sort_move (n : Int) (l : List Att) : sortA (l.map (moveA n)) = (sortA l).map (moveA n) := by
  refine asc_unique (sortA_asc _) ?_ ((sortA_perm _).trans ((sortA_perm l).symm.map _))
  refine List.Pairwise.map _ (fun a b h => ?_) (sortA_asc l)
  unfold attLe attLt at h ⊢
  simp only
  omega

theorem plan1 {β : Type} {start later : Int} {p : Prof} (hp : ∀ x ∈ p.2, chanV x = true) (hl : p.2.length ≤ 4) {l m : List Att} (k1 : zq7z β) :
    zq8r k1 start later 0 p.2 (p.2.length : Int) 0 p.1 p.2 l m = k1 start later (triesSum p.2) p.1 p.2 l m := by
  refine fold_loopI (fun i n => 0 ≤ n ∧ n ≤ 6 * (i : Int)) (fun q i n => zq8p q k1 start later n p.2 (p.2.length : Int) i p.1 p.2 l m) (fun n c => n + c.2.2.1) (fun n => k1 start later n p.1 p.2 l m) ch0 p.2 0 fuel (lt_fuel (by omega)) (by omega) (fun i n hi h => ?_) (fun q i n hi h => ?_) (fun q n h => ?_)
  · have q := chanV_ok (getD_all hp hi)
    have q1 := q.t1; have q2 := q.t2
    omega
  · have q := chanV_ok (getD_all hp hi)
    have q1 := q.t1; have q2 := q.t2
    simp only [zq8q, zq8d, Int.toNat_natCast]
    refine (c_pos (by omega)).trans ?_
    refine (c_inb (by omega)).trans ?_
    rw [i64_in ((i : Int) + 1) (by omega)]
    have e : IntKind.i64.wrap (n + (p.2.getD i ch0).2.2.1) = n + (p.2.getD i ch0).2.2.1 := i64_in _ (by omega)
    rw [e]
  · simp only [zq8q, zq8d]
    exact c_neg (by omega)

theorem plan3 {β : Type} {start later : Int} (hs : 0 ≤ start ∧ start ≤ 4294967295) (hla : 0 ≤ later ∧ later ≤ 65535) {p : Prof} (hp : ∀ x ∈ p.2, chanV x = true) (hl : p.2.length ≤ 4) {l : List Att} (hlen : l.length ≤ 24)
    (hmem : ∀ a ∈ l, a ∈ rawFrom start 0 p.2) (hnd : (l.map keyA).Nodup) (hasc : AscA l) (k1 : zq88 β) (k2 : zq89 β) :
    zq8x k1 k2 start later (l.length : Int) 0 p.1 p.2 l (l.map (moveA later)) [] = k2 () := by
  have key : ∀ (r pre : List Att) (q : Nat), l = pre ++ r → r.length < q → zq8v q k1 k2 start later (l.length : Int) (pre.length : Int) p.1 p.2 l (l.map (moveA later)) (seenOf (pre.map keyA)) = k2 () := by
    intro r
    induction r with
    | nil =>
      intro pre q he hq
      obtain ⟨q, rfl⟩ : ∃ q', q = q' + 1 := ⟨q - 1, by simp at hq; omega⟩
      rw [List.append_nil] at he
      subst he
      simp only [zq8w, zq8j]
      exact c_neg (by omega)
    | cons a r ih =>
      intro pre q he hq
      obtain ⟨q, rfl⟩ : ∃ q', q = q' + 1 := ⟨q - 1, by simp at hq; omega⟩
      have hn := ih (pre ++ [a]) q (by rw [he]; simp) (by simp at hq; omega)
      rw [List.map_append, List.map_cons, List.map_nil, seenOf_snoc, List.length_append, List.length_singleton] at hn
      have hll : l.length = pre.length + (r.length + 1) := by rw [he]; simp
      have hg : l.getD pre.length ((0 : Int), ((0 : Int), (0 : Int))) = a := by rw [he]; simp [List.getD]
      have hg2 : (l.map (moveA later)).getD pre.length ((0 : Int), ((0 : Int), (0 : Int))) = moveA later a := by rw [he]; simp [List.getD]
      obtain ⟨j, i, h1, h2, h3⟩ := raw_mem (hmem a (by rw [he]; simp))
      rw [Nat.zero_add] at h3
      have ea1 : a.1 = (j : Int) := by rw [h3]
      have ea2 : a.2.1 = (i : Int) := by rw [h3]
      have ea3 : a.2.2 = start + (i : Int) * (p.2.getD j ch0).2.2.2 := by rw [h3]
      have qc := chanV_ok (getD_all hp h1)
      have q1 := qc.t1; have q2 := qc.t2; have q3 := qc.p1; have q4 := qc.p2
      have hw := try_wrap (start := start) (i := i) (by omega) qc (by omega)
      have hseen : mGet KT (seenOf (pre.map keyA)) (a.1, a.2.1) false = false := by
        refine seenOf_get _ _ fun hin => ?_
        rw [he, List.map_append, List.map_cons] at hnd
        exact (List.nodup_append.1 hnd).2.2 _ hin _ (by simp) rfl
      have m1 : 0 ≤ (i : Int) * (p.2.getD j ch0).2.2.2 := Int.mul_nonneg (by omega) (by omega)
      have m2 : (i : Int) * (p.2.getD j ch0).2.2.2 ≤ 6 * 3600 := Int.mul_le_mul (by omega) (by omega) (by omega) (by omega)
      have hp2 : ∀ (k1 : zq83 β) (k2 : zq84 β), zq8t k1 k2 start later (pre.length : Int) (l.length : Int) (pre.length : Int) p.1 p.2 l (l.map (moveA later)) (seenOf (pre.map keyA)) a.1 a.2.1 a.2.2 a.1 a.2.1 =
          k2 start later (l.length : Int) (pre.length : Int) p.1 p.2 l (l.map (moveA later)) (mPut KT (seenOf (pre.map keyA)) (a.1, a.2.1) true) := by
        intro k1 k2
        unfold zq8t zq8h zq8g
        simp only [Int.toNat_natCast, hg2]
        refine (c_inb (by rw [List.length_map]; omega)).trans ?_
        rw [i64_in later (by omega), i64_in (a.2.2 + later) (by omega)]
        exact c_ff' (by simp)
      have hfin : zq8t (fun t6 => k1 t6) (fun start2 later2 t592 t602 p_3 p_4 l2 m2 seen2 => zq8v q k1 k2 start2 later2 t592 (IntKind.i64.wrap (t602 + (1 : Int))) p_3 p_4 l2 m2 seen2) start later (pre.length : Int) (l.length : Int) (pre.length : Int) p.1 p.2 l (l.map (moveA later)) (seenOf (pre.map keyA)) a.1 a.2.1 a.2.2 a.1 a.2.1 = k2 () := by
        refine (hp2 _ _).trans ?_
        rw [i64_in ((pre.length : Int) + 1) (by omega)]
        exact hn
      simp only [zq8w, zq8j, Int.toNat_natCast, hg]
      refine (c_pos (by omega)).trans ?_
      refine (c_inb (by omega)).trans ?_
      refine (c_neg (by omega)).trans ?_
      refine (c_neg (by omega)).trans ?_
      refine (c_neg (by omega)).trans ?_
      refine (c_inb (by omega)).trans ?_
      have ech : p.2.getD a.1.toNat ((0 : Int), ((0 : Int), ((0 : Int), (0 : Int)))) = p.2.getD j ch0 := by rw [ea1, Int.toNat_natCast]
      simp only [ech]
      refine (c_neg (by omega)).trans ?_
      refine (c_ff' hseen).trans ?_
      refine (c_inb (by omega)).trans ?_
      refine (c_npos (by rw [i64_in start (by omega), ea2, hw]; exact ea3)).trans ?_
      rcases List.eq_nil_or_concat pre with hpre | ⟨pre', y, hpre⟩
      · refine (c_neg (by rw [hpre]; simp)).trans ?_
        exact hfin
      · rw [List.concat_eq_append] at hpre
        have hpl : pre.length = pre'.length + 1 := by rw [hpre]; simp
        have hy : l.getD pre'.length ((0 : Int), ((0 : Int), (0 : Int))) = y := by rw [he, hpre]; simp [List.getD]
        have hle : y.2.2 ≤ a.2.2 := by
          rw [he, hpre, List.append_assoc] at hasc
          have h5 := (List.pairwise_append.1 hasc).2.1
          exact attLe_at ((List.pairwise_cons.1 h5).1 a (by simp))
        refine (c_pos (by omega)).trans ?_
        rw [i64_in ((pre.length : Int) - 1) (by omega), show ((pre.length : Int) - 1) = (pre'.length : Int) by omega]
        refine (c_inb (by omega)).trans ?_
        simp only [Int.toNat_natCast, hy]
        refine (c_neg (by omega)).trans ?_
        exact hfin
  exact key l [] fuel rfl (lt_fuel (by omega))

theorem deliveryPlans {β : Type} (t : List Int) {start later : Int} (hs : 0 ≤ start ∧ start ≤ 4294967295) (hla : 0 ≤ later ∧ later ≤ 65535) (k : Bool → Option β) : zq8z t start later k = k true := by
  unfold zq8z zq8m
  refine (light_eq t _).trans ?_
  by_cases hl : (t.length : Int) ≤ 500
  · rw [decide_eq_true hl]
    refine (c_ff' rfl).trans ?_
    obtain ⟨p, d2, hp, hp1, hp2, hd2, f2⟩ := person_ok (who := 2) (by omega) (roll_ok hl)
    have hpo := profV_ok hp
    have hall := hpo.all
    have e1 : planOf p start = sortA (rawFrom start 0 p.2) := by unfold planOf; rw [hp, inB_iff.2 (by omega)]; rfl
    have e2 : planOf p (start + later) = (planOf p start).map (moveA later) := by
      rw [e1, ← sort_move, ← raw_move]
      unfold planOf; rw [hp, inB_iff.2 (by omega)]; rfl
    have hlen : ((planOf p start).length : Int) = triesSum p.2 := by rw [e1, sortA_len]; exact raw_count hall
    have hpl := planOf_len p start
    refine (roll_eq t _).trans ?_
    refine (f2 _).trans ?_
    rw [i64_in start (by omega), i64_in later (by omega), i64_in (start + later) (by omega)]
    refine (d_plan _ _ _).trans ?_
    refine (d_plan _ _ _).trans ?_
    rw [e2]
    refine (plan1 hall (by omega) _).trans ?_
    refine (c_npos hlen).trans ?_
    refine (c_npos (by rw [List.length_map]; exact hlen)).trans ?_
    refine (plan3 hs hla hall (by omega) hpl (fun a ha => ?_) ?_ (planOf_asc p start) _ _).trans ?_
    · rw [e1] at ha; exact (sortA_perm _).mem_iff.1 ha
    · rw [e1]; exact ((sortA_perm _).map keyA).nodup_iff.2 raw_nodup
    · exact sane27 _
  · rw [decide_eq_false hl]
    refine (c_tt' rfl).trans ?_
    exact sane27 _
end
end Go.Lift

