/- Part6: Fn0, LBase, LDice, LLexWords, LLexSane, LLexBack. -/
import Derived.Test.YtjkjicgdffnmbaaGreatDoorProg
import Derived.KernelRfl
import Derived.Test.YtjkjicgdffnmbaaGreatDoorPart5
namespace Go.Lift
open Go.Proofs
noncomputable section
set_option maxRecDepth 100000
set_option linter.unusedVariables false

abbrev zq0 := (Int × (List UInt8 × Int))
abbrev zq1 : Ty := (.prod (.int .i64) (.prod .str (.int .i64)))

def tab : List (Nat × TI) := [
  (3, ⟨false, 1, 8, [.int .i64 (0 : Int)], [], none, none, (some (.int .i64)), (some .i64), false, false, none, none⟩),
  (4, ⟨false, 1, 1, [.bool false], [], none, none, (some .bool), none, true, false, none, none⟩),
  (5, ⟨false, 1, 1, [.int .u8 (0 : Int)], [], none, none, (some (.int .u8)), (some .u8), false, false, none, none⟩),
  (9, ⟨false, 1, 16, [.str ([] : List UInt8)], [], none, none, (some .str), none, false, true, none, none⟩),
  (23, ⟨true, 3, 32, [.int .i64 (0 : Int), .str ([] : List UInt8), .int .i64 (0 : Int)], [(0, 1, false), (1, 1, false), (2, 1, false)], none, none, (some zq1), none, false, false, (some [.i, .s, .i]), none⟩),
  (24, ⟨false, 1, 24, [.nils], [], (some 3), none, (some (.slice (.int .i64))), none, false, false, none, none⟩),
  (30, ⟨false, 1, 24, [.nils], [], (some 9), none, (some (.slice .str)), none, false, false, none, none⟩),
  (36, ⟨false, 1, 24, [.nils], [], (some 23), none, (some (.slice zq1)), none, false, false, none, none⟩),
  (48, ⟨true, 2, 32, [.nils, .int .i64 (0 : Int)], [(0, 1, false), (1, 1, false)], none, none, (some (.prod (.slice (.int .i64)) (.int .i64))), none, false, false, none, none⟩),
  (68, ⟨true, 3, 24, [.int .i64 (0 : Int), .int .i64 (0 : Int), .int .i64 (0 : Int)], [(0, 1, false), (1, 1, false), (2, 1, false)], none, none, (some (.prod (.int .i64) (.prod (.int .i64) (.int .i64)))), none, false, false, (some [.i, .i, .i]), none⟩),
  (80, ⟨false, 1, 16, [.err true], [], none, none, (some .err), none, false, false, none, none⟩),
  (135, ⟨true, 12, 96, [.int .i64 (0 : Int), .int .i64 (0 : Int), .int .i64 (0 : Int), .int .i64 (0 : Int), .int .i64 (0 : Int), .int .i64 (0 : Int), .int .i64 (0 : Int), .int .i64 (0 : Int), .int .i64 (0 : Int), .int .i64 (0 : Int), .int .i64 (0 : Int), .int .i64 (0 : Int)], [], (some 3), (some 12), (some (.prod (.int .i64) (.prod (.int .i64) (.prod (.int .i64) (.prod (.int .i64) (.prod (.int .i64) (.prod (.int .i64) (.prod (.int .i64) (.prod (.int .i64) (.prod (.int .i64) (.prod (.int .i64) (.prod (.int .i64) (.int .i64))))))))))))), none, false, false, (some [.i, .i, .i, .i, .i, .i, .i, .i, .i, .i, .i, .i]), none⟩)]

theorem tab_ok : TOk Tryz.prog (look tab) := TOk_of (by kernel_rfl)
theorem mixed : Tryz.prog.follows .mixedOrders = true := by kernel_rfl

/-- pagewatch/pagewatchmade.Light -/
abbrev zq2 := {β : Type} → (List Int) → (Bool → Option β) → Option β
def zq3 (c : zq2) : Spec :=
  ⟨[(false, [.data (.slice (.int .i64))])], [], [(false, [.data .bool])], [], fun x k => c x.1.1.1 (fun r0 => k (((r0, ()), ()), ()))⟩
section
@[reducible] def made_Light_X : Ctx := ⟨look tab, pick1 [], false, false, false, false⟩
def zq4 {β : Type} (l : List Int) (k : (Bool → Option β)) : Option β :=
  let t : Bool := (decide ((List.length l : Int) ≤ (500 : Int)));
  k t
theorem zq5 (hΓ : ΓOk Tryz.prog made_Light_X.Γ) : SpecOk Tryz.prog 6 (zq3 (zq4)) :=
  spec_exec (X := made_Light_X) (Λ := pick1 []) (rs := [.tmp 2]) (c := bodyOf Tryz.f6) mixed tab_ok hΓ Tryz.func6 (by kernel_rfl) (by kernel_rfl) (by kernel_rfl) (by kernel_rfl) CutsOk_nil (fun x k r h => Eq.trans (b := (zq3 (zq4)).run x k) (by kernel_rfl) h)
end
theorem zq6Γ : ΓOk Tryz.prog (pick1 []) := ΓOk_nil
def zq7 : zq2 := zq4
theorem zq8 : SpecOk Tryz.prog 6 (zq3 zq7) := zq5 zq6Γ

/-- pagewatch/pagewatchmade.Roll -/
abbrev zq9 := {β : Type} → (List Int) → ((List Int × Int) → Option β) → Option β
def zqa (c : zq9) : Spec :=
  ⟨[(false, [.data (.slice (.int .i64))])], [], [(false, [.ptr 0 0])], [.cells 48 [.data (.prod (.slice (.int .i64)) (.int .i64))]], fun x k => c x.1.1.1 (fun r0 => k (((), ()), ((r0, ()), ())))⟩
section
@[reducible] def made_Roll_X : Ctx := ⟨look tab, pick1 [], false, false, false, false⟩
def zqb {β : Type} (l : List Int) (k : ((List Int × Int) → Option β)) : Option β :=
  k (l, (0 : Int))
theorem zqc (hΓ : ΓOk Tryz.prog made_Roll_X.Γ) : SpecOk Tryz.prog 8 (zqa (zqb)) :=
  spec_exec (X := made_Roll_X) (Λ := pick1 []) (rs := [.tmp 2]) (c := bodyOf Tryz.f8) mixed tab_ok hΓ Tryz.func8 (by kernel_rfl) (by kernel_rfl) (by kernel_rfl) (by kernel_rfl) CutsOk_nil (fun x k r h => Eq.trans (b := (zqa (zqb)).run x k) (by kernel_rfl) h)
end
theorem zqdΓ : ΓOk Tryz.prog (pick1 []) := ΓOk_nil
def zqe : zq9 := zqb
theorem zqf : SpecOk Tryz.prog 8 (zqa zqe) := zqc zqdΓ

/-- (*pagewatch/pagewatchmade.Dice).Next -/
abbrev zqg := {β : Type} → Int → (List Int × Int) → (Int → (List Int × Int) → Option β) → Option β
def zqh (c : zqg) : Spec :=
  ⟨[(false, [.ptr 0 0]), (false, [.data (.int .i64)])], [.cells 48 [.data (.prod (.slice (.int .i64)) (.int .i64))]], [(false, [.data (.int .i64)])], [.cells 48 [.data (.prod (.slice (.int .i64)) (.int .i64))]], fun x k => c x.1.2.1.1 x.2.1.1 (fun r0 r1 => k (((r0, ()), ()), ((r1, ()), ())))⟩
section
@[reducible] def made_Dice_Next_X : Ctx := ⟨look tab, pick1 [], false, false, false, false⟩
def zqi {β : Type} (n : Int) (d : (List Int × Int)) (k : (Int → (List Int × Int) → Option β)) : Option β :=
  cond (decide ((List.length d.1 : Int) ≤ d.2))
  (k (0 : Int) d)
  (cond (decide (n < (1 : Int)))
  (k (0 : Int) d)
  (cond (decide (0 ≤ d.2) && decide (d.2 < (List.length d.1 : Int)))
  (let e : Int := List.getD d.1 (Int.toNat d.2) (0 : Int);
  cond (!decide (n = 0))
  (cond (decide ((Int.tmod e n) < (0 : Int)))
  (let x : Int := (IntKind.i64.wrap ((Int.tmod e n) + n));
  k x (d.1, (IntKind.i64.wrap (d.2 + (1 : Int)))))
  (k (Int.tmod e n) (d.1, (IntKind.i64.wrap (d.2 + (1 : Int))))))
  none)
  none))
theorem zqj (hΓ : ΓOk Tryz.prog made_Dice_Next_X.Γ) : SpecOk Tryz.prog 9 (zqh (zqi)) :=
  spec_exec (X := made_Dice_Next_X) (Λ := pick1 []) (rs := [.tmp 4]) (c := bodyOf Tryz.f9) mixed tab_ok hΓ Tryz.func9 (by kernel_rfl) (by kernel_rfl) (by kernel_rfl) (by kernel_rfl) CutsOk_nil (fun x k r h => Eq.trans (b := (zqh (zqi)).run x k) (by kernel_rfl) h)
end
theorem zqkΓ : ΓOk Tryz.prog (pick1 []) := ΓOk_nil
def zql : zqg := zqi
theorem zqm : SpecOk Tryz.prog 9 (zqh zql) := zqj zqkΓ

/-- pagewatch/pagewatchlaw06.words -/
abbrev zqn := {β : Type} → ((List (List UInt8)) → Option β) → Option β
def zqo (c : zqn) : Spec :=
  ⟨[], [], [(false, [.rowh 0])], [.row 9 .str], fun x k => c  (fun r0 => k (((), ()), (r0, ())))⟩
section
@[reducible] def law06_words_X : Ctx := ⟨look tab, pick1 [], false, false, false, false⟩
def zqp {β : Type} (k : ((List (List UInt8)) → Option β)) : Option β :=
  let l : List (List UInt8) := ([([97] : List UInt8), ([122, 57, 95, 45] : List UInt8), ([65] : List UInt8), ([57, 97] : List UInt8), ([48] : List UInt8), ([48, 48] : List UInt8), ([55] : List UInt8), ([57, 57, 57, 57, 57, 57, 57, 57, 57] : List UInt8), ([49, 48, 48, 48, 48, 48, 48, 48, 48, 48] : List UInt8), ([48, 49] : List UInt8), ([50, 52, 58, 48, 48] : List UInt8), ([50, 52, 58, 48, 48, 58, 48, 49] : List UInt8), ([50, 51, 58, 53, 57, 58, 53, 57] : List UInt8), ([49, 50, 58, 54, 48] : List UInt8), ([49, 58, 48, 48] : List UInt8), ([50, 48, 50, 54, 45, 48, 50, 45, 50, 56] : List UInt8), ([50, 48, 50, 54, 45, 48, 50, 45, 50, 57] : List UInt8), ([50, 48, 50, 52, 45, 48, 50, 45, 50, 57] : List UInt8), ([49, 57, 54, 57, 45, 49, 50, 45, 51, 49] : List UInt8), ([50, 50, 52, 48, 45, 49, 50, 45, 51, 49] : List UInt8), ([50, 50, 52, 49, 45, 48, 49, 45, 48, 49] : List UInt8), ([43, 49, 56, 58, 48, 48] : List UInt8), ([43, 49, 56, 58, 48, 49] : List UInt8), ([45, 48, 48, 58, 48, 48] : List UInt8), ([45, 49, 55, 58, 53, 57] : List UInt8), ([43, 49, 58, 48, 48] : List UInt8), ([50, 48, 50, 54, 45, 48, 49, 45, 48, 49, 84, 48, 48, 58, 48, 48, 58, 48, 48, 90] : List UInt8), ([50, 48, 50, 54, 45, 48, 49, 45, 48, 49, 84, 50, 52, 58, 48, 48, 58, 48, 48, 90] : List UInt8), ([50, 48, 50, 54, 45, 49, 51, 45, 48, 49, 84, 48, 48, 58, 48, 48, 58, 48, 48, 90] : List UInt8), ([50, 48, 50, 54, 45, 48, 49, 45, 48, 49, 116, 48, 48, 58, 48, 48, 58, 48, 48, 90] : List UInt8), ([97, 98, 99, 100, 101, 102, 103, 104, 105, 106, 107, 108, 109, 110, 111, 112, 113, 114, 115, 116, 117, 118, 119, 120] : List UInt8), ([97, 98, 99, 100, 101, 102, 103, 104, 105, 106, 107, 108, 109, 110, 111, 112, 113, 114, 115, 116, 117, 118, 119, 120, 121] : List UInt8), ([] : List UInt8), ([35] : List UInt8), ([97, 35, 98] : List UInt8), ([110, 111, 98, 111, 100, 121] : List UInt8)] : List (List UInt8));
  k l
theorem zqq (hΓ : ΓOk Tryz.prog law06_words_X.Γ) : SpecOk Tryz.prog 10 (zqo (zqp)) :=
  spec_exec (X := law06_words_X) (Λ := pick1 []) (rs := [.tmp 0]) (c := bodyOf Tryz.f10) mixed tab_ok hΓ Tryz.func10 (by kernel_rfl) (by kernel_rfl) (by kernel_rfl) (by kernel_rfl) CutsOk_nil (fun x k r h => Eq.trans (b := (zqo (zqp)).run x k) (by kernel_rfl) h)
end
theorem zqrΓ : ΓOk Tryz.prog (pick1 []) := ΓOk_nil
def zqs : zqn := zqp
theorem zqt : SpecOk Tryz.prog 10 (zqo zqs) := zqq zqrΓ

/-- strings.Cut -/
def zqu : Shelf.Ren :=
      { 
      f := fun x =>
        match x with
        | 145 => 26
        | 220 => 44
        | 219 => 61
        | 217 => 72
        | 225 => 73
        | 224 => 74
        | 267 => 75
        | 266 => 90
        | 314 => 91
        | n => n,
      t := fun x =>
        match x with
        | 9 => 9
        | 4 => 4
        | 59 => 53
        | 3 => 3
        | 5 => 5
        | 46 => 98
        | 146 => 119
        | 51 => 88
        | n => n,
      g := fun x =>
        match x with
        | 1 => 2
        | n => n }
theorem zqv : Go.Proofs.Lays.n145 Tryz.prog zqu :=
  { mixed := by kernel_rfl,
    f145 := Eq.trans Tryz.func26 (congrArg some (by kernel_rfl)),
    f217 := Eq.trans Tryz.func72 (congrArg some (by kernel_rfl)),
    f219 := Eq.trans Tryz.func61 (congrArg some (by kernel_rfl)),
    f220 := Eq.trans Tryz.func44 (congrArg some (by kernel_rfl)),
    f224 := Eq.trans Tryz.func74 (congrArg some (by kernel_rfl)),
    f225 := Eq.trans Tryz.func73 (congrArg some (by kernel_rfl)),
    f266 := Eq.trans Tryz.func90 (congrArg some (by kernel_rfl)),
    f267 := Eq.trans Tryz.func75 (congrArg some (by kernel_rfl)),
    f314 := Eq.trans Tryz.func91 (congrArg some (by kernel_rfl)),
    t3 := Tryz.underlying3,
    a3 := Tryz.isAgg3,
    z3 := Tryz.sizeOf3,
    v3 := Tryz.zeroValue3,
    t4 := Tryz.underlying4,
    a4 := Tryz.isAgg4,
    z4 := Tryz.sizeOf4,
    v4 := Tryz.zeroValue4,
    t5 := Tryz.underlying5,
    a5 := Tryz.isAgg5,
    z5 := Tryz.sizeOf5,
    v5 := Tryz.zeroValue5,
    t9 := Tryz.underlying9,
    a9 := Tryz.isAgg9,
    z9 := Tryz.sizeOf9,
    v9 := Tryz.zeroValue9,
    t46 := Tryz.underlying98,
    a46 := Tryz.isAgg98,
    z46 := Tryz.sizeOf98,
    v46 := Tryz.zeroValue98,
    t51 := Tryz.underlying88,
    a51 := Tryz.isAgg88,
    z51 := Tryz.sizeOf88,
    v51 := Tryz.zeroValue88,
    t59 := Tryz.underlying53,
    a59 := Tryz.isAgg53,
    z59 := Tryz.sizeOf53,
    v59 := Tryz.zeroValue53,
    t146 := Tryz.underlying119,
    a146 := Tryz.isAgg119,
    z146 := Tryz.sizeOf119,
    v146 := Tryz.zeroValue119,
    g1 := by kernel_rfl }
abbrev zqw := cutT
def zqx (c : zqw) : Spec := cutS c
def zqy : zqw := fun x y k => cutF x y k
theorem zqz : SpecOk Tryz.prog 26 (zqx zqy) :=
  cut_ok zqv rfl (of_decide_eq_true (by kernel_rfl)) (fun w0 h0 => Go.Proofs.cell_of_shapedOpen_int (P := Tryz.prog) (g := 2) (t := 3) (zero := #[.int .i64 0]) h0 (of_decide_eq_true (by kernel_rfl)) (by kernel_rfl) rfl (by kernel_rfl) (by kernel_rfl) Tryz.underlying3) ⟨_, Tryz.func26, by kernel_rfl, by kernel_rfl⟩

/-- strings.Fields -/
def zq10 : Shelf.Ren :=
      { 
      f := fun x =>
        match x with
        | 157 => 27
        | 229 => 45
        | 199 => 46
        | 261 => 62
        | 311 => 76
        | 312 => 77
        | n => n,
      t := fun x =>
        match x with
        | 9 => 9
        | 31 => 30
        | 3 => 3
        | 5 => 5
        | 4 => 4
        | 119 => 69
        | 0 => 0
        | 40 => 71
        | 152 => 85
        | 21 => 21
        | 154 => 87
        | 51 => 88
        | 141 => 90
        | 196 => 102
        | 193 => 99
        | 198 => 105
        | 49 => 103
        | 194 => 100
        | 201 => 108
        | 226 => 121
        | 46 => 98
        | 227 => 122
        | n => n,
      g := fun x =>
        match x with
        | 0 => 0
        | 6 => 1
        | n => n }
theorem zq11 : Go.Proofs.Lays.n157 Tryz.prog zq10 :=
  { mixed := by kernel_rfl,
    f157 := Eq.trans Tryz.func27 (congrArg some (by kernel_rfl)),
    f199 := Eq.trans Tryz.func46 (congrArg some (by kernel_rfl)),
    f229 := Eq.trans Tryz.func45 (congrArg some (by kernel_rfl)),
    f261 := Eq.trans Tryz.func62 (congrArg some (by kernel_rfl)),
    f311 := Eq.trans Tryz.func76 (congrArg some (by kernel_rfl)),
    f312 := Eq.trans Tryz.func77 (congrArg some (by kernel_rfl)),
    t0 := Tryz.underlying0,
    a0 := Tryz.isAgg0,
    z0 := Tryz.sizeOf0,
    v0 := Tryz.zeroValue0,
    t3 := Tryz.underlying3,
    a3 := Tryz.isAgg3,
    z3 := Tryz.sizeOf3,
    v3 := Tryz.zeroValue3,
    t4 := Tryz.underlying4,
    a4 := Tryz.isAgg4,
    z4 := Tryz.sizeOf4,
    v4 := Tryz.zeroValue4,
    t5 := Tryz.underlying5,
    a5 := Tryz.isAgg5,
    z5 := Tryz.sizeOf5,
    v5 := Tryz.zeroValue5,
    t9 := Tryz.underlying9,
    a9 := Tryz.isAgg9,
    z9 := Tryz.sizeOf9,
    v9 := Tryz.zeroValue9,
    t21 := Tryz.underlying21,
    a21 := Tryz.isAgg21,
    z21 := Tryz.sizeOf21,
    v21 := Tryz.zeroValue21,
    t31 := Tryz.underlying30,
    a31 := Tryz.isAgg30,
    z31 := Tryz.sizeOf30,
    v31 := Tryz.zeroValue30,
    t40 := Tryz.underlying71,
    a40 := Tryz.isAgg71,
    z40 := Tryz.sizeOf71,
    v40 := Tryz.zeroValue71,
    t46 := Tryz.underlying98,
    a46 := Tryz.isAgg98,
    z46 := Tryz.sizeOf98,
    v46 := Tryz.zeroValue98,
    t49 := Tryz.underlying103,
    a49 := Tryz.isAgg103,
    z49 := Tryz.sizeOf103,
    v49 := Tryz.zeroValue103,
    t51 := Tryz.underlying88,
    a51 := Tryz.isAgg88,
    z51 := Tryz.sizeOf88,
    v51 := Tryz.zeroValue88,
    t119 := Tryz.underlying69,
    a119 := Tryz.isAgg69,
    z119 := Tryz.sizeOf69,
    t141 := Tryz.underlying90,
    a141 := Tryz.isAgg90,
    z141 := Tryz.sizeOf90,
    v141 := Tryz.zeroValue90,
    t152 := Tryz.underlying85,
    a152 := Tryz.isAgg85,
    z152 := Tryz.sizeOf85,
    v152 := Tryz.zeroValue85,
    t154 := Tryz.underlying87,
    a154 := Tryz.isAgg87,
    z154 := Tryz.sizeOf87,
    v154 := Tryz.zeroValue87,
    t193 := Tryz.underlying99,
    a193 := Tryz.isAgg99,
    z193 := Tryz.sizeOf99,
    v193 := Tryz.zeroValue99,
    t194 := Tryz.underlying100,
    a194 := Tryz.isAgg100,
    z194 := Tryz.sizeOf100,
    v194 := Tryz.zeroValue100,
    t196 := Tryz.underlying102,
    a196 := Tryz.isAgg102,
    z196 := Tryz.sizeOf102,
    v196 := Tryz.zeroValue102,
    t198 := Tryz.underlying105,
    a198 := Tryz.isAgg105,
    z198 := Tryz.sizeOf105,
    v198 := Tryz.zeroValue105,
    t201 := Tryz.underlying108,
    a201 := Tryz.isAgg108,
    z201 := Tryz.sizeOf108,
    v201 := Tryz.zeroValue108,
    t226 := Tryz.underlying121,
    a226 := Tryz.isAgg121,
    z226 := Tryz.sizeOf121,
    v226 := Tryz.zeroValue121,
    t227 := Tryz.underlying122,
    a227 := Tryz.isAgg122,
    z227 := Tryz.sizeOf122,
    v227 := Tryz.zeroValue122,
    g0 := by kernel_rfl,
    g6 := by kernel_rfl }
abbrev zq12 := fieldsT
def zq13 (c : zq12) : Spec := fieldsRS 9 c
def zq14 : zq12 := fun x k => fieldsF x k
theorem zq15 : SpecOk Tryz.prog 27 (zq13 zq14) :=
  fields_ok zq11 rfl rfl (by kernel_rfl) (by kernel_rfl) (by kernel_rfl) (by kernel_rfl) ⟨_, Tryz.func27, by kernel_rfl, by kernel_rfl⟩

/-- pagewatch/lexer.small -/
abbrev zq16 := {β : Type} → Int → (Bool → Option β) → Option β
def zq17 (c : zq16) : Spec :=
  ⟨[(false, [.data (.int .u8)])], [], [(false, [.data .bool])], [], fun x k => c x.1.1.1 (fun r0 => k (((r0, ()), ()), ()))⟩
section
@[reducible] def lexer_small_X : Ctx := ⟨look tab, pick1 [], false, false, false, false⟩
def zq18 {β : Type} (c : Int) (k : (Bool → Option β)) : Option β :=
  cond (decide ((97 : Int) ≤ c))
  (let t : Bool := (decide (c ≤ (122 : Int)));
  k t)
  (k false)
theorem zq19 (hΓ : ΓOk Tryz.prog lexer_small_X.Γ) : SpecOk Tryz.prog 29 (zq17 (zq18)) :=
  spec_exec (X := lexer_small_X) (Λ := pick1 []) (rs := [.tmp 2]) (c := bodyOf Tryz.f29) mixed tab_ok hΓ Tryz.func29 (by kernel_rfl) (by kernel_rfl) (by kernel_rfl) (by kernel_rfl) CutsOk_nil (fun x k r h => Eq.trans (b := (zq17 (zq18)).run x k) (by kernel_rfl) h)
end
theorem zq1aΓ : ΓOk Tryz.prog (pick1 []) := ΓOk_nil
def zq1b : zq16 := zq18
theorem zq1c : SpecOk Tryz.prog 29 (zq17 zq1b) := zq19 zq1aΓ

/-- pagewatch/lexer.digit -/
abbrev zq1d := {β : Type} → Int → (Bool → Option β) → Option β
def zq1e (c : zq1d) : Spec :=
  ⟨[(false, [.data (.int .u8)])], [], [(false, [.data .bool])], [], fun x k => c x.1.1.1 (fun r0 => k (((r0, ()), ()), ()))⟩
section
@[reducible] def lexer_digit_X : Ctx := ⟨look tab, pick1 [], false, false, false, false⟩
def zq1f {β : Type} (c : Int) (k : (Bool → Option β)) : Option β :=
  cond (decide ((48 : Int) ≤ c))
  (let t : Bool := (decide (c ≤ (57 : Int)));
  k t)
  (k false)
theorem zq1g (hΓ : ΓOk Tryz.prog lexer_digit_X.Γ) : SpecOk Tryz.prog 30 (zq1e (zq1f)) :=
  spec_exec (X := lexer_digit_X) (Λ := pick1 []) (rs := [.tmp 2]) (c := bodyOf Tryz.f30) mixed tab_ok hΓ Tryz.func30 (by kernel_rfl) (by kernel_rfl) (by kernel_rfl) (by kernel_rfl) CutsOk_nil (fun x k r h => Eq.trans (b := (zq1e (zq1f)).run x k) (by kernel_rfl) h)
end
theorem zq1hΓ : ΓOk Tryz.prog (pick1 []) := ΓOk_nil
def zq1i : zq1d := zq1f
theorem zq1j : SpecOk Tryz.prog 30 (zq1e zq1i) := zq1g zq1hΓ

/-- strings.Contains -/
def zq1k : Shelf.Ren :=
      { 
      f := fun x =>
        match x with
        | 144 => 38
        | 143 => 54
        | 219 => 61
        | 217 => 72
        | 225 => 73
        | 224 => 74
        | 267 => 75
        | 266 => 90
        | 314 => 91
        | n => n,
      t := fun x =>
        match x with
        | 9 => 9
        | 4 => 4
        | 3 => 3
        | 5 => 5
        | 46 => 98
        | 146 => 119
        | 51 => 88
        | n => n,
      g := fun x =>
        match x with
        | 1 => 2
        | n => n }
theorem zq1l : Go.Proofs.Lays.n144 Tryz.prog zq1k :=
  { mixed := by kernel_rfl,
    f143 := Eq.trans Tryz.func54 (congrArg some (by kernel_rfl)),
    f144 := Eq.trans Tryz.func38 (congrArg some (by kernel_rfl)),
    f217 := Eq.trans Tryz.func72 (congrArg some (by kernel_rfl)),
    f219 := Eq.trans Tryz.func61 (congrArg some (by kernel_rfl)),
    f224 := Eq.trans Tryz.func74 (congrArg some (by kernel_rfl)),
    f225 := Eq.trans Tryz.func73 (congrArg some (by kernel_rfl)),
    f266 := Eq.trans Tryz.func90 (congrArg some (by kernel_rfl)),
    f267 := Eq.trans Tryz.func75 (congrArg some (by kernel_rfl)),
    f314 := Eq.trans Tryz.func91 (congrArg some (by kernel_rfl)),
    t3 := Tryz.underlying3,
    a3 := Tryz.isAgg3,
    z3 := Tryz.sizeOf3,
    v3 := Tryz.zeroValue3,
    t4 := Tryz.underlying4,
    a4 := Tryz.isAgg4,
    z4 := Tryz.sizeOf4,
    v4 := Tryz.zeroValue4,
    t5 := Tryz.underlying5,
    a5 := Tryz.isAgg5,
    z5 := Tryz.sizeOf5,
    v5 := Tryz.zeroValue5,
    t9 := Tryz.underlying9,
    a9 := Tryz.isAgg9,
    z9 := Tryz.sizeOf9,
    v9 := Tryz.zeroValue9,
    t46 := Tryz.underlying98,
    a46 := Tryz.isAgg98,
    z46 := Tryz.sizeOf98,
    v46 := Tryz.zeroValue98,
    t51 := Tryz.underlying88,
    a51 := Tryz.isAgg88,
    z51 := Tryz.sizeOf88,
    v51 := Tryz.zeroValue88,
    t146 := Tryz.underlying119,
    a146 := Tryz.isAgg119,
    z146 := Tryz.sizeOf119,
    v146 := Tryz.zeroValue119,
    g1 := by kernel_rfl }
abbrev zq1m := containsT
def zq1n (c : zq1m) : Spec := containsS c
def zq1o : zq1m := fun x y k => containsF x y k
theorem zq1p : SpecOk Tryz.prog 38 (zq1n zq1o) :=
  contains_ok zq1l rfl (of_decide_eq_true (by kernel_rfl)) (fun w0 h0 => Go.Proofs.cell_of_shapedOpen_int (P := Tryz.prog) (g := 2) (t := 3) (zero := #[.int .i64 0]) h0 (of_decide_eq_true (by kernel_rfl)) (by kernel_rfl) rfl (by kernel_rfl) (by kernel_rfl) Tryz.underlying3) ⟨_, Tryz.func38, by kernel_rfl, by kernel_rfl⟩

/-- strconv.Itoa -/
def zq1q : Shelf.Ren :=
      { 
      f := fun x =>
        match x with
        | 171 => 47
        | 243 => 63
        | 246 => 78
        | 283 => 92
        | 284 => 93
        | 285 => 94
        | 286 => 95
        | 129 => 111
        | 317 => 110
        | 318 => 112
        | 319 => 113
        | 320 => 114
        | 337 => 123
        | 338 => 124
        | n => n,
      t := fun x =>
        match x with
        | 3 => 3
        | 9 => 9
        | 2 => 2
        | 4 => 4
        | 171 => 123
        | 0 => 0
        | 53 => 74
        | 37 => 92
        | 5 => 5
        | 173 => 126
        | 212 => 144
        | 51 => 88
        | 20 => 20
        | 213 => 145
        | 46 => 98
        | 232 => 162
        | 233 => 163
        | n => n,
      g := fun x =>
        match x with
        | 17 => 5
        | 18 => 8
        | 19 => 9
        | n => n }
theorem zq1r : Go.Proofs.LaysM.n171 Tryz.prog zq1q :=
  { mixed := by kernel_rfl,
    f129 := Eq.trans Tryz.func111 (congrArg some (by kernel_rfl)),
    f171 := Eq.trans Tryz.func47 (congrArg some (by kernel_rfl)),
    f243 := Eq.trans Tryz.func63 (congrArg some (by kernel_rfl)),
    f246 := Eq.trans Tryz.func78 (congrArg some (by kernel_rfl)),
    f283 := Eq.trans Tryz.func92 (congrArg some (by kernel_rfl)),
    f284 := Eq.trans Tryz.func93 (congrArg some (by kernel_rfl)),
    f285 := Eq.trans Tryz.func94 (congrArg some (by kernel_rfl)),
    f286 := Eq.trans Tryz.func95 (congrArg some (by kernel_rfl)),
    f317 := Eq.trans Tryz.func110 (congrArg some (by kernel_rfl)),
    f318 := Eq.trans Tryz.func112 (congrArg some (by kernel_rfl)),
    f319 := Eq.trans Tryz.func113 (congrArg some (by kernel_rfl)),
    f320 := Eq.trans Tryz.func114 (congrArg some (by kernel_rfl)),
    f337 := Eq.trans Tryz.func123 (congrArg some (by kernel_rfl)),
    f338 := Eq.trans Tryz.func124 (congrArg some (by kernel_rfl)),
    t0 := Tryz.underlying0,
    a0 := Tryz.isAgg0,
    z0 := Tryz.sizeOf0,
    v0 := Tryz.zeroValue0,
    t2 := Tryz.underlying2,
    a2 := Tryz.isAgg2,
    z2 := Tryz.sizeOf2,
    v2 := Tryz.zeroValue2,
    t3 := Tryz.underlying3,
    a3 := Tryz.isAgg3,
    z3 := Tryz.sizeOf3,
    v3 := Tryz.zeroValue3,
    t4 := Tryz.underlying4,
    a4 := Tryz.isAgg4,
    z4 := Tryz.sizeOf4,
    v4 := Tryz.zeroValue4,
    t5 := Tryz.underlying5,
    a5 := Tryz.isAgg5,
    z5 := Tryz.sizeOf5,
    v5 := Tryz.zeroValue5,
    t9 := Tryz.underlying9,
    a9 := Tryz.isAgg9,
    z9 := Tryz.sizeOf9,
    v9 := Tryz.zeroValue9,
    t20 := Tryz.underlying20,
    a20 := Tryz.isAgg20,
    z20 := Tryz.sizeOf20,
    v20 := Tryz.zeroValue20,
    t37 := Tryz.underlying92,
    a37 := Tryz.isAgg92,
    z37 := Tryz.sizeOf92,
    v37 := Tryz.zeroValue92,
    t46 := Tryz.underlying98,
    a46 := Tryz.isAgg98,
    z46 := Tryz.sizeOf98,
    v46 := Tryz.zeroValue98,
    t51 := Tryz.underlying88,
    a51 := Tryz.isAgg88,
    z51 := Tryz.sizeOf88,
    v51 := Tryz.zeroValue88,
    t53 := Tryz.underlying74,
    a53 := Tryz.isAgg74,
    z53 := Tryz.sizeOf74,
    v53 := Tryz.zeroValue74,
    t171 := Tryz.underlying123,
    a171 := Tryz.isAgg123,
    z171 := Tryz.sizeOf123,
    v171 := Tryz.zeroValue123,
    t173 := Tryz.underlying126,
    a173 := Tryz.isAgg126,
    z173 := Tryz.sizeOf126,
    v173 := Tryz.zeroValue126,
    t212 := Tryz.underlying144,
    a212 := Tryz.isAgg144,
    z212 := Tryz.sizeOf144,
    v212 := Tryz.zeroValue144,
    t213 := Tryz.underlying145,
    a213 := Tryz.isAgg145,
    z213 := Tryz.sizeOf145,
    t232 := Tryz.underlying162,
    a232 := Tryz.isAgg162,
    z232 := Tryz.sizeOf162,
    v232 := Tryz.zeroValue162,
    t233 := Tryz.underlying163,
    a233 := Tryz.isAgg163,
    z233 := Tryz.sizeOf163,
    v233 := Tryz.zeroValue163,
    g17 := by kernel_rfl,
    g18 := by kernel_rfl,
    g19 := by kernel_rfl,
    i0 := by kernel_rfl,
    i2 := by kernel_rfl,
    i3 := by kernel_rfl,
    i4 := by kernel_rfl,
    i5 := by kernel_rfl,
    i9 := by kernel_rfl,
    i20 := by kernel_rfl,
    i37 := by kernel_rfl,
    i46 := by kernel_rfl,
    i51 := by kernel_rfl,
    i53 := by kernel_rfl,
    i171 := by kernel_rfl,
    i173 := by kernel_rfl,
    i212 := by kernel_rfl,
    i232 := by kernel_rfl,
    i233 := by kernel_rfl,
    m17 := by kernel_rfl,
    m18 := by kernel_rfl,
    m19 := by kernel_rfl }
abbrev zq1s := itoaT
def zq1t (c : zq1s) : Spec := itoaS c
def zq1u : zq1s := fun x k => itoaF x k
theorem zq1v : SpecOk Tryz.prog 47 (zq1t zq1u) :=
  itoa_ok zq1r rfl (g := 5) (by kernel_rfl) ⟨_, Tryz.func47, by kernel_rfl, by kernel_rfl⟩

/-- strings.Split -/
def zq1w : Shelf.Ren :=
      { 
      f := fun x =>
        match x with
        | 146 => 57
        | 221 => 68
        | 268 => 83
        | 138 => 84
        | 143 => 54
        | 195 => 104
        | 197 => 105
        | 218 => 106
        | 219 => 61
        | 260 => 120
        | 217 => 72
        | 225 => 73
        | 224 => 74
        | 267 => 75
        | 266 => 90
        | 314 => 91
        | n => n,
      t := fun x =>
        match x with
        | 9 => 9
        | 31 => 30
        | 3 => 3
        | 4 => 4
        | 0 => 0
        | 105 => 136
        | 21 => 21
        | 5 => 5
        | 46 => 98
        | 119 => 69
        | 139 => 161
        | 138 => 160
        | 146 => 119
        | 51 => 88
        | n => n,
      g := fun x =>
        match x with
        | 1 => 2
        | 3 => 6
        | 4 => 7
        | n => n }
theorem zq1x : Go.Proofs.Lays.n146 Tryz.prog zq1w :=
  { mixed := by kernel_rfl,
    f138 := Eq.trans Tryz.func84 (congrArg some (by kernel_rfl)),
    f143 := Eq.trans Tryz.func54 (congrArg some (by kernel_rfl)),
    f146 := Eq.trans Tryz.func57 (congrArg some (by kernel_rfl)),
    f195 := Eq.trans Tryz.func104 (congrArg some (by kernel_rfl)),
    f197 := Eq.trans Tryz.func105 (congrArg some (by kernel_rfl)),
    f217 := Eq.trans Tryz.func72 (congrArg some (by kernel_rfl)),
    f218 := Eq.trans Tryz.func106 (congrArg some (by kernel_rfl)),
    f219 := Eq.trans Tryz.func61 (congrArg some (by kernel_rfl)),
    f221 := Eq.trans Tryz.func68 (congrArg some (by kernel_rfl)),
    f224 := Eq.trans Tryz.func74 (congrArg some (by kernel_rfl)),
    f225 := Eq.trans Tryz.func73 (congrArg some (by kernel_rfl)),
    f260 := Eq.trans Tryz.func120 (congrArg some (by kernel_rfl)),
    f266 := Eq.trans Tryz.func90 (congrArg some (by kernel_rfl)),
    f267 := Eq.trans Tryz.func75 (congrArg some (by kernel_rfl)),
    f268 := Eq.trans Tryz.func83 (congrArg some (by kernel_rfl)),
    f314 := Eq.trans Tryz.func91 (congrArg some (by kernel_rfl)),
    t0 := Tryz.underlying0,
    a0 := Tryz.isAgg0,
    z0 := Tryz.sizeOf0,
    v0 := Tryz.zeroValue0,
    t3 := Tryz.underlying3,
    a3 := Tryz.isAgg3,
    z3 := Tryz.sizeOf3,
    v3 := Tryz.zeroValue3,
    t4 := Tryz.underlying4,
    a4 := Tryz.isAgg4,
    z4 := Tryz.sizeOf4,
    v4 := Tryz.zeroValue4,
    t5 := Tryz.underlying5,
    a5 := Tryz.isAgg5,
    z5 := Tryz.sizeOf5,
    v5 := Tryz.zeroValue5,
    t9 := Tryz.underlying9,
    a9 := Tryz.isAgg9,
    z9 := Tryz.sizeOf9,
    v9 := Tryz.zeroValue9,
    t21 := Tryz.underlying21,
    a21 := Tryz.isAgg21,
    z21 := Tryz.sizeOf21,
    v21 := Tryz.zeroValue21,
    t31 := Tryz.underlying30,
    a31 := Tryz.isAgg30,
    z31 := Tryz.sizeOf30,
    v31 := Tryz.zeroValue30,
    t46 := Tryz.underlying98,
    a46 := Tryz.isAgg98,
    z46 := Tryz.sizeOf98,
    v46 := Tryz.zeroValue98,
    t51 := Tryz.underlying88,
    a51 := Tryz.isAgg88,
    z51 := Tryz.sizeOf88,
    v51 := Tryz.zeroValue88,
    t105 := Tryz.underlying136,
    a105 := Tryz.isAgg136,
    z105 := Tryz.sizeOf136,
    v105 := Tryz.zeroValue136,
    t119 := Tryz.underlying69,
    a119 := Tryz.isAgg69,
    z119 := Tryz.sizeOf69,
    t138 := Tryz.underlying160,
    a138 := Tryz.isAgg160,
    z138 := Tryz.sizeOf160,
    v138 := Tryz.zeroValue160,
    t139 := Tryz.underlying161,
    a139 := Tryz.isAgg161,
    z139 := Tryz.sizeOf161,
    v139 := Tryz.zeroValue161,
    t146 := Tryz.underlying119,
    a146 := Tryz.isAgg119,
    z146 := Tryz.sizeOf119,
    v146 := Tryz.zeroValue119,
    g1 := by kernel_rfl,
    g3 := by kernel_rfl,
    g4 := by kernel_rfl }
abbrev zq1y := splitT
def zq1z (c : zq1y) : Spec := splitRS 9 c
def zq20 : zq1y := fun x y k => splitF x y k
theorem zq21 : SpecOk Tryz.prog 57 (zq1z zq20) :=
  splitR_ok zq1x rfl rfl (by kernel_rfl) (of_decide_eq_true (by kernel_rfl)) (fun w0 h0 => Go.Proofs.cell_of_shapedOpen_int (P := Tryz.prog) (g := 2) (t := 3) (zero := #[.int .i64 0]) h0 (of_decide_eq_true (by kernel_rfl)) (by kernel_rfl) rfl (by kernel_rfl) (by kernel_rfl) Tryz.underlying3) ⟨_, Tryz.func57, by kernel_rfl, by kernel_rfl⟩

/-- strconv.Atoi -/
def zq22 : Shelf.Ren :=
      { 
      f := fun x =>
        match x with
        | 172 => 58
        | 244 => 69
        | 245 => 70
        | 247 => 85
        | 279 => 86
        | 280 => 87
        | 281 => 88
        | 282 => 89
        | 287 => 107
        | 316 => 108
        | 171 => 47
        | 205 => 109
        | 321 => 121
        | 322 => 122
        | 243 => 63
        | 246 => 78
        | 283 => 92
        | 284 => 93
        | 285 => 94
        | 286 => 95
        | 129 => 111
        | 317 => 110
        | 318 => 112
        | 319 => 113
        | 320 => 114
        | 337 => 123
        | 338 => 124
        | n => n,
      t := fun x =>
        match x with
        | 9 => 9
        | 3 => 3
        | 75 => 80
        | 76 => 81
        | 4 => 4
        | 5 => 5
        | 167 => 113
        | 37 => 92
        | 0 => 0
        | 85 => 114
        | 2 => 2
        | 168 => 116
        | 53 => 74
        | 175 => 138
        | 46 => 98
        | 210 => 141
        | 127 => 150
        | 145 => 154
        | 143 => 152
        | 21 => 21
        | 171 => 123
        | 173 => 126
        | 212 => 144
        | 51 => 88
        | 20 => 20
        | 213 => 145
        | 232 => 162
        | 233 => 163
        | 80 => 134
        | n => n,
      g := fun x =>
        match x with
        | 15 => 3
        | 16 => 4
        | 17 => 5
        | 18 => 8
        | 19 => 9
        | n => n }
theorem zq23 : Go.Proofs.LaysC.n172 Tryz.prog zq22 :=
  { mixed := by kernel_rfl,
    f129 := Eq.trans Tryz.func111 (congrArg some (by kernel_rfl)),
    f171 := Eq.trans Tryz.func47 (congrArg some (by kernel_rfl)),
    f172 := Eq.trans Tryz.func58 (congrArg some (by kernel_rfl)),
    f205 := Eq.trans Tryz.func109 (congrArg some (by kernel_rfl)),
    f243 := Eq.trans Tryz.func63 (congrArg some (by kernel_rfl)),
    f244 := Eq.trans Tryz.func69 (congrArg some (by kernel_rfl)),
    f245 := Eq.trans Tryz.func70 (congrArg some (by kernel_rfl)),
    f246 := Eq.trans Tryz.func78 (congrArg some (by kernel_rfl)),
    f247 := Eq.trans Tryz.func85 (congrArg some (by kernel_rfl)),
    f279 := Eq.trans Tryz.func86 (congrArg some (by kernel_rfl)),
    f280 := Eq.trans Tryz.func87 (congrArg some (by kernel_rfl)),
    f281 := Eq.trans Tryz.func88 (congrArg some (by kernel_rfl)),
    f282 := Eq.trans Tryz.func89 (congrArg some (by kernel_rfl)),
    f283 := Eq.trans Tryz.func92 (congrArg some (by kernel_rfl)),
    f284 := Eq.trans Tryz.func93 (congrArg some (by kernel_rfl)),
    f285 := Eq.trans Tryz.func94 (congrArg some (by kernel_rfl)),
    f286 := Eq.trans Tryz.func95 (congrArg some (by kernel_rfl)),
    f287 := Eq.trans Tryz.func107 (congrArg some (by kernel_rfl)),
    f316 := Eq.trans Tryz.func108 (congrArg some (by kernel_rfl)),
    f317 := Eq.trans Tryz.func110 (congrArg some (by kernel_rfl)),
    f318 := Eq.trans Tryz.func112 (congrArg some (by kernel_rfl)),
    f319 := Eq.trans Tryz.func113 (congrArg some (by kernel_rfl)),
    f320 := Eq.trans Tryz.func114 (congrArg some (by kernel_rfl)),
    f321 := Eq.trans Tryz.func121 (congrArg some (by kernel_rfl)),
    f322 := Eq.trans Tryz.func122 (congrArg some (by kernel_rfl)),
    f337 := Eq.trans Tryz.func123 (congrArg some (by kernel_rfl)),
    f338 := Eq.trans Tryz.func124 (congrArg some (by kernel_rfl)),
    t0 := Tryz.underlying0,
    a0 := Tryz.isAgg0,
    z0 := Tryz.sizeOf0,
    v0 := Tryz.zeroValue0,
    t2 := Tryz.underlying2,
    a2 := Tryz.isAgg2,
    z2 := Tryz.sizeOf2,
    v2 := Tryz.zeroValue2,
    t3 := Tryz.underlying3,
    a3 := Tryz.isAgg3,
    z3 := Tryz.sizeOf3,
    v3 := Tryz.zeroValue3,
    t4 := Tryz.underlying4,
    a4 := Tryz.isAgg4,
    z4 := Tryz.sizeOf4,
    v4 := Tryz.zeroValue4,
    t5 := Tryz.underlying5,
    a5 := Tryz.isAgg5,
    z5 := Tryz.sizeOf5,
    v5 := Tryz.zeroValue5,
    t9 := Tryz.underlying9,
    a9 := Tryz.isAgg9,
    z9 := Tryz.sizeOf9,
    v9 := Tryz.zeroValue9,
    t20 := Tryz.underlying20,
    a20 := Tryz.isAgg20,
    z20 := Tryz.sizeOf20,
    v20 := Tryz.zeroValue20,
    t21 := Tryz.underlying21,
    a21 := Tryz.isAgg21,
    z21 := Tryz.sizeOf21,
    v21 := Tryz.zeroValue21,
    t37 := Tryz.underlying92,
    a37 := Tryz.isAgg92,
    z37 := Tryz.sizeOf92,
    v37 := Tryz.zeroValue92,
    t46 := Tryz.underlying98,
    a46 := Tryz.isAgg98,
    z46 := Tryz.sizeOf98,
    v46 := Tryz.zeroValue98,
    t51 := Tryz.underlying88,
    a51 := Tryz.isAgg88,
    z51 := Tryz.sizeOf88,
    v51 := Tryz.zeroValue88,
    t53 := Tryz.underlying74,
    a53 := Tryz.isAgg74,
    z53 := Tryz.sizeOf74,
    v53 := Tryz.zeroValue74,
    t75 := Tryz.underlying80,
    a75 := Tryz.isAgg80,
    z75 := Tryz.sizeOf80,
    v75 := Tryz.zeroValue80,
    t76 := Tryz.underlying81,
    a76 := Tryz.isAgg81,
    z76 := Tryz.sizeOf81,
    v76 := Tryz.zeroValue81,
    t85 := Tryz.underlying114,
    a85 := Tryz.isAgg114,
    z85 := Tryz.sizeOf114,
    v85 := Tryz.zeroValue114,
    t127 := Tryz.underlying150,
    a127 := Tryz.isAgg150,
    z127 := Tryz.sizeOf150,
    v127 := Tryz.zeroValue150,
    t143 := Tryz.underlying152,
    a143 := Tryz.isAgg152,
    z143 := Tryz.sizeOf152,
    v143 := Tryz.zeroValue152,
    t145 := Tryz.underlying154,
    a145 := Tryz.isAgg154,
    z145 := Tryz.sizeOf154,
    v145 := Tryz.zeroValue154,
    t167 := Tryz.underlying113,
    a167 := Tryz.isAgg113,
    z167 := Tryz.sizeOf113,
    v167 := Tryz.zeroValue113,
    t168 := Tryz.underlying116,
    a168 := Tryz.isAgg116,
    z168 := Tryz.sizeOf116,
    v168 := Tryz.zeroValue116,
    t171 := Tryz.underlying123,
    a171 := Tryz.isAgg123,
    z171 := Tryz.sizeOf123,
    v171 := Tryz.zeroValue123,
    t173 := Tryz.underlying126,
    a173 := Tryz.isAgg126,
    z173 := Tryz.sizeOf126,
    v173 := Tryz.zeroValue126,
    t175 := Tryz.underlying138,
    a175 := Tryz.isAgg138,
    z175 := Tryz.sizeOf138,
    v175 := Tryz.zeroValue138,
    t210 := Tryz.underlying141,
    a210 := Tryz.isAgg141,
    z210 := Tryz.sizeOf141,
    v210 := Tryz.zeroValue141,
    t212 := Tryz.underlying144,
    a212 := Tryz.isAgg144,
    z212 := Tryz.sizeOf144,
    v212 := Tryz.zeroValue144,
    t213 := Tryz.underlying145,
    a213 := Tryz.isAgg145,
    z213 := Tryz.sizeOf145,
    t232 := Tryz.underlying162,
    a232 := Tryz.isAgg162,
    z232 := Tryz.sizeOf162,
    v232 := Tryz.zeroValue162,
    t233 := Tryz.underlying163,
    a233 := Tryz.isAgg163,
    z233 := Tryz.sizeOf163,
    v233 := Tryz.zeroValue163,
    g15 := by kernel_rfl,
    g16 := by kernel_rfl,
    g17 := by kernel_rfl,
    g18 := by kernel_rfl,
    g19 := by kernel_rfl,
    t80 := Tryz.underlying134,
    a80 := Tryz.isAgg134,
    z80 := Tryz.sizeOf134,
    v80 := Tryz.zeroValue134,
    i0 := by kernel_rfl,
    i2 := by kernel_rfl,
    i3 := by kernel_rfl,
    i4 := by kernel_rfl,
    i5 := by kernel_rfl,
    i9 := by kernel_rfl,
    i20 := by kernel_rfl,
    i21 := by kernel_rfl,
    i37 := by kernel_rfl,
    i46 := by kernel_rfl,
    i51 := by kernel_rfl,
    i53 := by kernel_rfl,
    i75 := by kernel_rfl,
    i76 := by kernel_rfl,
    i80 := by kernel_rfl,
    i85 := by kernel_rfl,
    i127 := by kernel_rfl,
    i143 := by kernel_rfl,
    i145 := by kernel_rfl,
    i167 := by kernel_rfl,
    i168 := by kernel_rfl,
    i171 := by kernel_rfl,
    i173 := by kernel_rfl,
    i175 := by kernel_rfl,
    i210 := by kernel_rfl,
    i212 := by kernel_rfl,
    i232 := by kernel_rfl,
    i233 := by kernel_rfl,
    m15 := by kernel_rfl,
    m16 := by kernel_rfl,
    m17 := by kernel_rfl,
    m18 := by kernel_rfl,
    m19 := by kernel_rfl,
    c0 := by kernel_rfl,
    c2 := by kernel_rfl,
    c3 := by kernel_rfl,
    c4 := by kernel_rfl,
    c5 := by kernel_rfl,
    c9 := by kernel_rfl,
    c20 := by kernel_rfl,
    c21 := by kernel_rfl,
    c37 := by kernel_rfl,
    c46 := by kernel_rfl,
    c51 := by kernel_rfl,
    c53 := by kernel_rfl,
    c75 := by kernel_rfl,
    c76 := by kernel_rfl,
    c80 := by kernel_rfl,
    c85 := by kernel_rfl,
    c127 := by kernel_rfl,
    c143 := by kernel_rfl,
    c145 := by kernel_rfl,
    c167 := by kernel_rfl,
    c168 := by kernel_rfl,
    c171 := by kernel_rfl,
    c173 := by kernel_rfl,
    c175 := by kernel_rfl,
    c210 := by kernel_rfl,
    c212 := by kernel_rfl,
    c213 := by kernel_rfl,
    c232 := by kernel_rfl,
    c233 := by kernel_rfl }
abbrev zq24 := atoiT
def zq25 (c : zq24) : Spec := atoiS c
def zq26 : zq24 := fun x k => atoiF x k
theorem zq27 : SpecOk Tryz.prog 58 (zq25 zq26) :=
  atoi_ok zq23 rfl (by kernel_rfl) (by kernel_rfl) ⟨_, Tryz.func58, by kernel_rfl, by kernel_rfl⟩

/-- strings.Repeat -/
def zq28 : Shelf.Ren :=
      { 
      f := fun x =>
        match x with
        | 105 => 79
        | 212 => 96
        | 99 => 97
        | 165 => 98
        | 166 => 99
        | 170 => 100
        | 169 => 101
        | 263 => 115
        | 264 => 116
        | 206 => 117
        | 240 => 118
        | 241 => 119
        | 276 => 125
        | 277 => 126
        | n => n,
      t := fun x =>
        match x with
        | 9 => 9
        | 3 => 3
        | 4 => 4
        | 20 => 20
        | 0 => 0
        | 46 => 98
        | 109 => 128
        | 5 => 5
        | 72 => 132
        | 76 => 81
        | 51 => 88
        | 146 => 119
        | 53 => 74
        | 148 => 148
        | 70 => 130
        | 37 => 92
        | 75 => 80
        | 127 => 150
        | 164 => 156
        | 80 => 134
        | n => n,
      g := fun x => x }
theorem zq29 : Go.Proofs.Lays.n105 Tryz.prog zq28 :=
  { mixed := by kernel_rfl,
    f99 := Eq.trans Tryz.func97 (congrArg some (by kernel_rfl)),
    f105 := Eq.trans Tryz.func79 (congrArg some (by kernel_rfl)),
    f165 := Eq.trans Tryz.func98 (congrArg some (by kernel_rfl)),
    f166 := Eq.trans Tryz.func99 (congrArg some (by kernel_rfl)),
    f169 := Eq.trans Tryz.func101 (congrArg some (by kernel_rfl)),
    f170 := Eq.trans Tryz.func100 (congrArg some (by kernel_rfl)),
    f206 := Eq.trans Tryz.func117 (congrArg some (by kernel_rfl)),
    f212 := Eq.trans Tryz.func96 (congrArg some (by kernel_rfl)),
    f240 := Eq.trans Tryz.func118 (congrArg some (by kernel_rfl)),
    f241 := Eq.trans Tryz.func119 (congrArg some (by kernel_rfl)),
    f263 := Eq.trans Tryz.func115 (congrArg some (by kernel_rfl)),
    f264 := Eq.trans Tryz.func116 (congrArg some (by kernel_rfl)),
    f276 := Eq.trans Tryz.func125 (congrArg some (by kernel_rfl)),
    f277 := Eq.trans Tryz.func126 (congrArg some (by kernel_rfl)),
    t0 := Tryz.underlying0,
    a0 := Tryz.isAgg0,
    z0 := Tryz.sizeOf0,
    v0 := Tryz.zeroValue0,
    t3 := Tryz.underlying3,
    a3 := Tryz.isAgg3,
    z3 := Tryz.sizeOf3,
    v3 := Tryz.zeroValue3,
    t4 := Tryz.underlying4,
    a4 := Tryz.isAgg4,
    z4 := Tryz.sizeOf4,
    v4 := Tryz.zeroValue4,
    t5 := Tryz.underlying5,
    a5 := Tryz.isAgg5,
    z5 := Tryz.sizeOf5,
    v5 := Tryz.zeroValue5,
    t9 := Tryz.underlying9,
    a9 := Tryz.isAgg9,
    z9 := Tryz.sizeOf9,
    v9 := Tryz.zeroValue9,
    t20 := Tryz.underlying20,
    a20 := Tryz.isAgg20,
    z20 := Tryz.sizeOf20,
    v20 := Tryz.zeroValue20,
    t37 := Tryz.underlying92,
    a37 := Tryz.isAgg92,
    z37 := Tryz.sizeOf92,
    v37 := Tryz.zeroValue92,
    t46 := Tryz.underlying98,
    a46 := Tryz.isAgg98,
    z46 := Tryz.sizeOf98,
    v46 := Tryz.zeroValue98,
    t51 := Tryz.underlying88,
    a51 := Tryz.isAgg88,
    z51 := Tryz.sizeOf88,
    v51 := Tryz.zeroValue88,
    t53 := Tryz.underlying74,
    a53 := Tryz.isAgg74,
    z53 := Tryz.sizeOf74,
    v53 := Tryz.zeroValue74,
    t70 := Tryz.underlying130,
    a70 := Tryz.isAgg130,
    z70 := Tryz.sizeOf130,
    v70 := Tryz.zeroValue130,
    t72 := Tryz.underlying132,
    a72 := Tryz.isAgg132,
    z72 := Tryz.sizeOf132,
    v72 := Tryz.zeroValue132,
    t75 := Tryz.underlying80,
    a75 := Tryz.isAgg80,
    z75 := Tryz.sizeOf80,
    v75 := Tryz.zeroValue80,
    t76 := Tryz.underlying81,
    a76 := Tryz.isAgg81,
    z76 := Tryz.sizeOf81,
    v76 := Tryz.zeroValue81,
    t109 := Tryz.underlying128,
    a109 := Tryz.isAgg128,
    z109 := Tryz.sizeOf128,
    v109 := Tryz.zeroValue128,
    t127 := Tryz.underlying150,
    a127 := Tryz.isAgg150,
    z127 := Tryz.sizeOf150,
    v127 := Tryz.zeroValue150,
    t146 := Tryz.underlying119,
    a146 := Tryz.isAgg119,
    z146 := Tryz.sizeOf119,
    v146 := Tryz.zeroValue119,
    t148 := Tryz.underlying148,
    a148 := Tryz.isAgg148,
    z148 := Tryz.sizeOf148,
    v148 := Tryz.zeroValue148,
    t164 := Tryz.underlying156,
    a164 := Tryz.isAgg156,
    z164 := Tryz.sizeOf156,
    v164 := Tryz.zeroValue156 }
abbrev zq2a := repeatT
def zq2b (c : zq2a) : Spec := repeatS c
def zq2c : zq2a := fun x y k => repeatF x y k
theorem zq2d : SpecOk Tryz.prog 79 (zq2b zq2c) :=
  repeat_ok zq29 { sizeBuilder := by kernel_rfl, liesBuilder := by kernel_rfl, t5 := Tryz.underlying5, a5 := Tryz.isAgg5, z5 := Tryz.sizeOf5, v5 := Tryz.zeroValue5, infoByte := by kernel_rfl, cellsByte := by kernel_rfl, sizeByte := by kernel_rfl, neB5 := by decide } rfl ⟨_, Tryz.func79, by kernel_rfl, by kernel_rfl⟩

/-- pagewatch/civil.floor -/
abbrev zq2e := {β : Type} → Int → Int → (Int → Option β) → Option β
def zq2f (c : zq2e) : Spec :=
  ⟨[(false, [.data (.int .i64)]), (false, [.data (.int .i64)])], [], [(false, [.data (.int .i64)])], [], fun x k => c x.1.1.1 x.1.2.1.1 (fun r0 => k (((r0, ()), ()), ()))⟩
section
@[reducible] def civil_floor_X : Ctx := ⟨look tab, pick1 [], false, false, false, false⟩
def zq2g {β : Type} (a : Int) (b : Int) (k : (Int → Option β)) : Option β :=
  cond (!decide (b = 0))
  (let q : Int := (IntKind.i64.wrap (Int.tdiv a b));
  cond (!decide (b = 0))
  (cond (decide ((Int.tmod a b) < (0 : Int)))
  (let q2 : Int := (IntKind.i64.wrap (q - (1 : Int)));
  k q2)
  (k q))
  none)
  none
theorem zq2h (hΓ : ΓOk Tryz.prog civil_floor_X.Γ) : SpecOk Tryz.prog 102 (zq2f (zq2g)) :=
  spec_exec (X := civil_floor_X) (Λ := pick1 []) (rs := [.tmp 4]) (c := bodyOf Tryz.f102) mixed tab_ok hΓ Tryz.func102 (by kernel_rfl) (by kernel_rfl) (by kernel_rfl) (by kernel_rfl) CutsOk_nil (fun x k r h => Eq.trans (b := (zq2f (zq2g)).run x k) (by kernel_rfl) h)
end
theorem zq2iΓ : ΓOk Tryz.prog (pick1 []) := ΓOk_nil
def zq2j : zq2e := zq2g
theorem zq2k : SpecOk Tryz.prog 102 (zq2f zq2j) := zq2h zq2iΓ

/-- pagewatch/civil.Leap -/
abbrev zq2l := {β : Type} → Int → (Bool → Option β) → Option β
def zq2m (c : zq2l) : Spec :=
  ⟨[(false, [.data (.int .i64)])], [], [(false, [.data .bool])], [], fun x k => c x.1.1.1 (fun r0 => k (((r0, ()), ()), ()))⟩
section
@[reducible] def civil_Leap_X : Ctx := ⟨look tab, pick1 [], false, false, false, false⟩
def zq2n {β : Type} (year : Int) (k : (Bool → Option β)) : Option β :=
  cond (!decide ((4 : Int) = 0))
  (cond (decide ((Int.tmod year (4 : Int)) = (0 : Int)))
  (cond (!decide ((100 : Int) = 0))
  (cond (!decide ((Int.tmod year (100 : Int)) = (0 : Int)))
  (k true)
  (cond (!decide ((400 : Int) = 0))
  (let t : Bool := (decide ((Int.tmod year (400 : Int)) = (0 : Int)));
  k t)
  none))
  none)
  (k false))
  none
theorem zq2o (hΓ : ΓOk Tryz.prog civil_Leap_X.Γ) : SpecOk Tryz.prog 103 (zq2m (zq2n)) :=
  spec_exec (X := civil_Leap_X) (Λ := pick1 []) (rs := [.tmp 2]) (c := bodyOf Tryz.f103) mixed tab_ok hΓ Tryz.func103 (by kernel_rfl) (by kernel_rfl) (by kernel_rfl) (by kernel_rfl) CutsOk_nil (fun x k r h => Eq.trans (b := (zq2m (zq2n)).run x k) (by kernel_rfl) h)
end
theorem zq2pΓ : ΓOk Tryz.prog (pick1 []) := ΓOk_nil
def zq2q : zq2l := zq2n
theorem zq2r : SpecOk Tryz.prog 103 (zq2m zq2q) := zq2o zq2pΓ

/-- pagewatch/lexer.Name -/
abbrev zq2s := {β : Type} → (List UInt8) → (Bool → Option β) → Option β
def zq2t (c : zq2s) : Spec :=
  ⟨[(false, [.data .str])], [], [(false, [.data .bool])], [], fun x k => c x.1.1.1 (fun r0 => k (((r0, ()), ()), ()))⟩
noncomputable def lexer_Name_p1_code : Code := codeAt 58 (bodyOf Tryz.f16)
abbrev zq2u (β : Type) := Bool → Option β
abbrev zq2v (β : Type) := Unit → Option β
abbrev zq2w := {β : Type} → zq2u β → zq2v β → (List UInt8) → Int → Int → Option β
def zq2x : View := ⟨0, [0, 19, 20], [(false, [.data .str]), (false, [.data (.int .i64)]), (false, [.data (.int .i64)])], []⟩
def zq2y : List (AExit × View) := [(.ret, ⟨0, [2], [(false, [.data .bool])], []⟩), (.exit 0, ⟨0, [], [], []⟩)]
@[reducible] def lexer_Name_p1_G (p : zq2w) {β : Type} (d : zq2x.den) (ks : Outs.K β zq2y) : Option β :=
  p (fun a0 => ks.1 (((a0, ()), ()), ())) (fun _ => ks.2.1 ((), ())) d.1.1.1 d.1.2.1.1 d.1.2.2.1.1
section
variable (c_lexer_digit : zq1d) (c_lexer_small : zq16)
@[reducible] def lexer_Name_X : Ctx := ⟨look tab, pick1 [(30, .spec (zq1e c_lexer_digit)), (29, .spec (zq17 c_lexer_small))], false, false, false, false⟩
def zq2z {β : Type} (rec : (List UInt8) → Int → Int → Option β) (k1 : zq2u β) (k2 : zq2v β) (s : List UInt8) (t19 : Int) (t20 : Int) : Option β :=
  cond (decide (t20 < t19))
  (cond (decide (0 ≤ t20) && decide (t20 < (List.length s : Int)))
  (let c : Int := ((List.getD s (Int.toNat t20) 0).toNat : Int);
  c_lexer_small c (fun (rsmall : Bool) =>
  cond (!rsmall)
  (c_lexer_digit c (fun (rdigit : Bool) =>
  cond (!rdigit)
  (cond (!decide (c = (95 : Int)))
  (cond (!decide (c = (45 : Int)))
  (k1 false)
  (rec s t19 (IntKind.i64.wrap (t20 + (1 : Int)))))
  (rec s t19 (IntKind.i64.wrap (t20 + (1 : Int)))))
  (rec s t19 (IntKind.i64.wrap (t20 + (1 : Int))))))
  (rec s t19 (IntKind.i64.wrap (t20 + (1 : Int))))))
  none)
  (k2 ())
def zq30 {β : Type} : Nat → zq2u β → zq2v β → (List UInt8) → Int → Int → Option β
  | 0 => fun _ _ _ _ _ => none
  | i + 1 => fun k1 k2 s t19 t20 => zq2z c_lexer_digit c_lexer_small (zq30 i k1 k2) k1 k2 s t19 t20
theorem zq31 (hΓ : ΓOk Tryz.prog (lexer_Name_X c_lexer_digit c_lexer_small).Γ) (i : Nat) : PieceOk Tryz.prog 43 0 lexer_Name_p1_code zq2x zq2y (lexer_Name_p1_G (zq30 c_lexer_digit c_lexer_small i)) := by
  rw [show lexer_Name_p1_code = .loop (loopBody lexer_Name_p1_code) by kernel_rfl]
  exact piece_loop (X := (lexer_Name_X c_lexer_digit c_lexer_small)) (p := 1) (Λ := pick1 []) (G := fun i => @fun β d ks => lexer_Name_p1_G (zq30 c_lexer_digit c_lexer_small i) d ks) mixed tab_ok hΓ rfl (by kernel_rfl) CutsOk_nil (fun _ _ => rfl) (fun i => @fun β d ks r h => Eq.trans (b := lexer_Name_p1_G (zq30 c_lexer_digit c_lexer_small (i + 1)) d ks) (by kernel_rfl) h) i
def zq32 (p1 : zq2w) {β : Type} (s : List UInt8) (k : (Bool → Option β)) : Option β :=
  cond (decide (s = ([] : List UInt8)))
  (k false)
  (cond (decide ((24 : Int) < (List.length s : Int)))
  (k false)
  (cond (decide (0 ≤ (0 : Int)) && decide ((0 : Int) < (List.length s : Int)))
  (c_lexer_small ((List.getD s (Int.toNat (0 : Int)) 0).toNat : Int) (fun (rsmall : Bool) =>
  cond (!rsmall)
  (k false)
  (p1 (fun (t2 : Bool) =>
  k t2) (fun (_ : Unit) =>
  k true) s (List.length s : Int) (0 : Int))))
  none))
theorem zq33 (hΓ : ΓOk Tryz.prog (lexer_Name_X c_lexer_digit c_lexer_small).Γ) (p1 : zq2w) (hp1 : PieceOk Tryz.prog 43 0 lexer_Name_p1_code zq2x zq2y (lexer_Name_p1_G p1)) : SpecOk Tryz.prog 16 (zq2t (zq32 c_lexer_small p1)) :=
  spec_exec (X := (lexer_Name_X c_lexer_digit c_lexer_small)) (Λ := pick1 [(58, pieceCut zq2x zq2y (lexer_Name_p1_G p1))]) (rs := [.tmp 2]) (c := bodyOf Tryz.f16) mixed tab_ok hΓ Tryz.func16 (by kernel_rfl) (by kernel_rfl) (by kernel_rfl) (by kernel_rfl) (CutsOk_cons (q := 58) (c' := lexer_Name_p1_code) (by kernel_rfl) rfl hp1 CutsOk_nil) (fun x k r h => Eq.trans (b := (zq2t (zq32 c_lexer_small p1)).run x k) (by kernel_rfl) h)
end
theorem zq34Γ : ΓOk Tryz.prog (pick1 [(30, .spec (zq1e zq1i)), (29, .spec (zq17 zq1b))]) := (ΓOk_cons zq1j (ΓOk_cons zq1c ΓOk_nil))
def zq35 (m : Nat) : zq2w := zq30 zq1i zq1b m
theorem zq36 {β : Type} (i : Nat) (k1 k2 s t19 t20) : (zq35 (i + 1) k1 k2 s t19 t20 : Option β) = zq2z zq1i zq1b (zq35 i k1 k2) k1 k2 s t19 t20 := rfl
def zq37 : zq2w := zq35 fuel
theorem zq38 : PieceOk Tryz.prog 43 0 lexer_Name_p1_code zq2x zq2y (lexer_Name_p1_G zq37) := zq31 zq1i zq1b zq34Γ fuel
def zq39 : zq2s := zq32 zq1b zq37
theorem zq3a : SpecOk Tryz.prog 16 (zq2t zq39) := zq33 zq1i zq1b zq34Γ zq37 zq38

/-- pagewatch/lexer.number -/
abbrev zq3b := {β : Type} → (List UInt8) → (Int → Bool → Option β) → Option β
def zq3c (c : zq3b) : Spec :=
  ⟨[(false, [.data .str])], [], [(false, [.data (.int .i64)]), (false, [.data .bool])], [], fun x k => c x.1.1.1 (fun r0 r1 => k (((r0, ()), (r1, ()), ()), ()))⟩
noncomputable def lexer_number_p1_code : Code := codeAt 26 (bodyOf Tryz.f42)
abbrev zq3d (β : Type) := Int → Bool → Option β
abbrev zq3e (β : Type) := (List UInt8) → Option β
abbrev zq3f := {β : Type} → zq3d β → zq3e β → (List UInt8) → Int → Int → Option β
def zq3g : View := ⟨0, [0, 8, 9], [(false, [.data .str]), (false, [.data (.int .i64)]), (false, [.data (.int .i64)])], []⟩
def zq3h : List (AExit × View) := [(.ret, ⟨0, [2, 3], [(false, [.data (.int .i64)]), (false, [.data .bool])], []⟩), (.exit 0, ⟨0, [0], [(false, [.data .str])], []⟩)]
@[reducible] def lexer_number_p1_G (p : zq3f) {β : Type} (d : zq3g.den) (ks : Outs.K β zq3h) : Option β :=
  p (fun a0 a1 => ks.1 (((a0, ()), (a1, ()), ()), ())) (fun a0 => ks.2.1 (((a0, ()), ()), ())) d.1.1.1 d.1.2.1.1 d.1.2.2.1.1
section
variable (c_lexer_digit : zq1d) (c_strconv_Atoi : zq24)
@[reducible] def lexer_number_X : Ctx := ⟨look tab, pick1 [(30, .spec (zq1e c_lexer_digit)), (58, .spec (zq25 c_strconv_Atoi))], false, false, false, false⟩
def zq3i {β : Type} (rec : (List UInt8) → Int → Int → Option β) (k1 : zq3d β) (k2 : zq3e β) (s : List UInt8) (t8 : Int) (t9 : Int) : Option β :=
  cond (decide (t9 < t8))
  (cond (decide (0 ≤ t9) && decide (t9 < (List.length s : Int)))
  (c_lexer_digit ((List.getD s (Int.toNat t9) 0).toNat : Int) (fun (rdigit : Bool) =>
  cond (!rdigit)
  (k1 (0 : Int) false)
  (rec s t8 (IntKind.i64.wrap (t9 + (1 : Int))))))
  none)
  (k2 s)
def zq3j {β : Type} : Nat → zq3d β → zq3e β → (List UInt8) → Int → Int → Option β
  | 0 => fun _ _ _ _ _ => none
  | i + 1 => fun k1 k2 s t8 t9 => zq3i c_lexer_digit (zq3j i k1 k2) k1 k2 s t8 t9
theorem zq3k (hΓ : ΓOk Tryz.prog (lexer_number_X c_lexer_digit c_strconv_Atoi).Γ) (i : Nat) : PieceOk Tryz.prog 31 0 lexer_number_p1_code zq3g zq3h (lexer_number_p1_G (zq3j c_lexer_digit i)) := by
  rw [show lexer_number_p1_code = .loop (loopBody lexer_number_p1_code) by kernel_rfl]
  exact piece_loop (X := (lexer_number_X c_lexer_digit c_strconv_Atoi)) (p := 1) (Λ := pick1 []) (G := fun i => @fun β d ks => lexer_number_p1_G (zq3j c_lexer_digit i) d ks) mixed tab_ok hΓ rfl (by kernel_rfl) CutsOk_nil (fun _ _ => rfl) (fun i => @fun β d ks r h => Eq.trans (b := lexer_number_p1_G (zq3j c_lexer_digit (i + 1)) d ks) (by kernel_rfl) h) i
def zq3l (p1 : zq3f) {β : Type} (s : List UInt8) (k : (Int → Bool → Option β)) : Option β :=
  p1 (fun (t2 : Int) (t3 : Bool) =>
  k t2 t3) (fun (s2 : List UInt8) =>
  c_strconv_Atoi s2 (fun (rAtoi : Int) (rAtoi2 : Bool) =>
  cond rAtoi2
  (let t : Bool := (decide ((List.length s2 : Int) ≤ (9 : Int)));
  k rAtoi t)
  (k rAtoi false))) s (List.length s : Int) (0 : Int)
theorem zq3m (hΓ : ΓOk Tryz.prog (lexer_number_X c_lexer_digit c_strconv_Atoi).Γ) (p1 : zq3f) (hp1 : PieceOk Tryz.prog 31 0 lexer_number_p1_code zq3g zq3h (lexer_number_p1_G p1)) : SpecOk Tryz.prog 42 (zq3c (zq3l c_strconv_Atoi p1)) :=
  spec_exec (X := (lexer_number_X c_lexer_digit c_strconv_Atoi)) (Λ := pick1 [(26, pieceCut zq3g zq3h (lexer_number_p1_G p1))]) (rs := [.tmp 2, .tmp 3]) (c := bodyOf Tryz.f42) mixed tab_ok hΓ Tryz.func42 (by kernel_rfl) (by kernel_rfl) (by kernel_rfl) (by kernel_rfl) (CutsOk_cons (q := 26) (c' := lexer_number_p1_code) (by kernel_rfl) rfl hp1 CutsOk_nil) (fun x k r h => Eq.trans (b := (zq3c (zq3l c_strconv_Atoi p1)).run x k) (by kernel_rfl) h)
end
theorem zq3nΓ : ΓOk Tryz.prog (pick1 [(30, .spec (zq1e zq1i)), (58, .spec (zq25 zq26))]) := (ΓOk_cons zq1j (ΓOk_cons zq27 ΓOk_nil))
def zq3o (m : Nat) : zq3f := zq3j zq1i m
theorem zq3p {β : Type} (i : Nat) (k1 k2 s t8 t9) : (zq3o (i + 1) k1 k2 s t8 t9 : Option β) = zq3i zq1i (zq3o i k1 k2) k1 k2 s t8 t9 := rfl
def zq3q : zq3f := zq3o fuel
theorem zq3r : PieceOk Tryz.prog 31 0 lexer_number_p1_code zq3g zq3h (lexer_number_p1_G zq3q) := zq3k zq1i zq26 zq3nΓ fuel
def zq3s : zq3b := zq3l zq26 zq3q
theorem zq3t : SpecOk Tryz.prog 42 (zq3c zq3s) := zq3m zq1i zq26 zq3nΓ zq3q zq3r

/-- pagewatch/lexer.two -/
abbrev zq3u := {β : Type} → (List UInt8) → (Int → Bool → Option β) → Option β
def zq3v (c : zq3u) : Spec :=
  ⟨[(false, [.data .str])], [], [(false, [.data (.int .i64)]), (false, [.data .bool])], [], fun x k => c x.1.1.1 (fun r0 r1 => k (((r0, ()), (r1, ()), ()), ()))⟩
section
variable (c_lexer_number : zq3b)
@[reducible] def lexer_two_X : Ctx := ⟨look tab, pick1 [(42, .spec (zq3c c_lexer_number))], false, false, false, false⟩
def zq3w {β : Type} (s : List UInt8) (k : (Int → Bool → Option β)) : Option β :=
  c_lexer_number s (fun (rnumber : Int) (rnumber2 : Bool) =>
  cond rnumber2
  (let t : Bool := (decide ((List.length s : Int) = (2 : Int)));
  k rnumber t)
  (k rnumber false))
theorem zq3x (hΓ : ΓOk Tryz.prog (lexer_two_X c_lexer_number).Γ) : SpecOk Tryz.prog 55 (zq3v (zq3w c_lexer_number)) :=
  spec_exec (X := (lexer_two_X c_lexer_number)) (Λ := pick1 []) (rs := [.tmp 2, .tmp 3]) (c := bodyOf Tryz.f55) mixed tab_ok hΓ Tryz.func55 (by kernel_rfl) (by kernel_rfl) (by kernel_rfl) (by kernel_rfl) CutsOk_nil (fun x k r h => Eq.trans (b := (zq3v (zq3w c_lexer_number)).run x k) (by kernel_rfl) h)
end
theorem zq3yΓ : ΓOk Tryz.prog (pick1 [(42, .spec (zq3c zq3s))]) := (ΓOk_cons zq3t ΓOk_nil)
def zq3z : zq3u := zq3w zq3s
theorem zq40 : SpecOk Tryz.prog 55 (zq3v zq3z) := zq3x zq3s zq3yΓ

/-- pagewatch/lexer.digits -/
abbrev zq41 := {β : Type} → Int → Int → ((List UInt8) → Option β) → Option β
def zq42 (c : zq41) : Spec :=
  ⟨[(false, [.data (.int .i64)]), (false, [.data (.int .i64)])], [], [(false, [.data .str])], [], fun x k => c x.1.1.1 x.1.2.1.1 (fun r0 => k (((r0, ()), ()), ()))⟩
section
variable (c_strconv_Itoa : zq1s) (c_strings_Repeat : zq2a)
@[reducible] def lexer_digits_X : Ctx := ⟨look tab, pick1 [(47, .spec (zq1t c_strconv_Itoa)), (79, .spec (zq2b c_strings_Repeat))], false, false, false, false⟩
def zq43 {β : Type} (x : Int) (n : Int) (k : ((List UInt8) → Option β)) : Option β :=
  c_strconv_Itoa x (fun (rItoa : List UInt8) =>
  c_strings_Repeat ([48] : List UInt8) (if (IntKind.i64.wrap (n - (List.length rItoa : Int))) > (0 : Int) then (IntKind.i64.wrap (n - (List.length rItoa : Int))) else (0 : Int)) (fun (rRepeat : List UInt8) =>
  cond (decide (List.length rRepeat + List.length rItoa ≤ 9223372036854775807))
  (k (rRepeat ++ rItoa))
  none))
theorem zq44 (hΓ : ΓOk Tryz.prog (lexer_digits_X c_strconv_Itoa c_strings_Repeat).Γ) : SpecOk Tryz.prog 64 (zq42 (zq43 c_strconv_Itoa c_strings_Repeat)) :=
  spec_exec (X := (lexer_digits_X c_strconv_Itoa c_strings_Repeat)) (Λ := pick1 []) (rs := [.tmp 4]) (c := bodyOf Tryz.f64) mixed tab_ok hΓ Tryz.func64 (by kernel_rfl) (by kernel_rfl) (by kernel_rfl) (by kernel_rfl) CutsOk_nil (fun x k r h => Eq.trans (b := (zq42 (zq43 c_strconv_Itoa c_strings_Repeat)).run x k) (by kernel_rfl) h)
end
theorem zq45Γ : ΓOk Tryz.prog (pick1 [(47, .spec (zq1t zq1u)), (79, .spec (zq2b zq2c))]) := (ΓOk_cons zq1v (ΓOk_cons zq2d ΓOk_nil))
def zq46 : zq41 := zq43 zq1u zq2c
theorem zq47 : SpecOk Tryz.prog 64 (zq42 zq46) := zq44 zq1u zq2c zq45Γ

/-- pagewatch/civil.count -/
abbrev zq48 := {β : Type} → Int → (Int → Option β) → Option β
def zq49 (c : zq48) : Spec :=
  ⟨[(false, [.data (.int .i64)])], [], [(false, [.data (.int .i64)])], [], fun x k => c x.1.1.1 (fun r0 => k (((r0, ()), ()), ()))⟩
section
variable (c_civil_floor : zq2e)
@[reducible] def civil_count_X : Ctx := ⟨look tab, pick1 [(102, .spec (zq2f c_civil_floor))], false, false, false, false⟩
def zq4a {β : Type} (year : Int) (k : (Int → Option β)) : Option β :=
  let y : Int := (IntKind.i64.wrap (year - (1 : Int)));
  c_civil_floor y (4 : Int) (fun (rfloor : Int) =>
  c_civil_floor y (100 : Int) (fun (rfloor2 : Int) =>
  c_civil_floor y (400 : Int) (fun (rfloor3 : Int) =>
  let t : Int := (IntKind.i64.wrap ((IntKind.i64.wrap ((IntKind.i64.wrap ((IntKind.i64.wrap ((IntKind.i64.wrap ((365 : Int) * (IntKind.i64.wrap (year - (1970 : Int))))) + rfloor)) - rfloor2)) + rfloor3)) - (477 : Int)));
  k t)))
theorem zq4b (hΓ : ΓOk Tryz.prog (civil_count_X c_civil_floor).Γ) : SpecOk Tryz.prog 80 (zq49 (zq4a c_civil_floor)) :=
  spec_exec (X := (civil_count_X c_civil_floor)) (Λ := pick1 []) (rs := [.tmp 2]) (c := bodyOf Tryz.f80) mixed tab_ok hΓ Tryz.func80 (by kernel_rfl) (by kernel_rfl) (by kernel_rfl) (by kernel_rfl) CutsOk_nil (fun x k r h => Eq.trans (b := (zq49 (zq4a c_civil_floor)).run x k) (by kernel_rfl) h)
end
theorem zq4cΓ : ΓOk Tryz.prog (pick1 [(102, .spec (zq2f zq2j))]) := (ΓOk_cons zq2k ΓOk_nil)
def zq4d : zq48 := zq4a zq2j
theorem zq4e : SpecOk Tryz.prog 80 (zq49 zq4d) := zq4b zq2j zq4cΓ

/-- pagewatch/civil.year -/
abbrev zq4f := {β : Type} → Int → (Int → Option β) → Option β
def zq4g (c : zq4f) : Spec :=
  ⟨[(false, [.data (.int .i64)])], [], [(false, [.data (.int .i64)])], [], fun x k => c x.1.1.1 (fun r0 => k (((r0, ()), ()), ()))⟩
noncomputable def civil_year_p1_code : Code := codeAt 28 (bodyOf Tryz.f81)
abbrev zq4h (β : Type) := Int → Option β
abbrev zq4i := {β : Type} → zq4h β → Int → Int → Option β
def zq4j : View := ⟨0, [0, 3], [(false, [.data (.int .i64)]), (false, [.data (.int .i64)])], []⟩
def zq4k : List (AExit × View) := [(.exit 0, ⟨0, [3], [(false, [.data (.int .i64)])], []⟩)]
@[reducible] def civil_year_p1_G (p : zq4i) {β : Type} (d : zq4j.den) (ks : Outs.K β zq4k) : Option β :=
  p (fun a0 => ks.1 (((a0, ()), ()), ())) d.1.1.1 d.1.2.1.1
section
variable (c_civil_count : zq48) (c_civil_floor : zq2e)
@[reducible] def civil_year_X : Ctx := ⟨look tab, pick1 [(80, .spec (zq49 c_civil_count)), (102, .spec (zq2f c_civil_floor))], false, false, false, false⟩
def zq4l {β : Type} (rec : Int → Int → Option β) (k1 : zq4h β) (day : Int) (y : Int) : Option β :=
  c_civil_count (IntKind.i64.wrap (y + (1 : Int))) (fun (rcount : Int) =>
  cond (decide (rcount ≤ day))
  (let y2 : Int := (IntKind.i64.wrap (y + (1 : Int)));
  rec day y2)
  (k1 y))
def zq4m {β : Type} : Nat → zq4h β → Int → Int → Option β
  | 0 => fun _ _ _ => none
  | i + 1 => fun k1 day y => zq4l c_civil_count (zq4m i k1) k1 day y
theorem zq4n (hΓ : ΓOk Tryz.prog (civil_year_X c_civil_count c_civil_floor).Γ) (i : Nat) : PieceOk Tryz.prog 15 0 civil_year_p1_code zq4j zq4k (civil_year_p1_G (zq4m c_civil_count i)) := by
  rw [show civil_year_p1_code = .loop (loopBody civil_year_p1_code) by kernel_rfl]
  exact piece_loop (X := (civil_year_X c_civil_count c_civil_floor)) (p := 1) (Λ := pick1 []) (G := fun i => @fun β d ks => civil_year_p1_G (zq4m c_civil_count i) d ks) mixed tab_ok hΓ rfl (by kernel_rfl) CutsOk_nil (fun _ _ => rfl) (fun i => @fun β d ks r h => Eq.trans (b := civil_year_p1_G (zq4m c_civil_count (i + 1)) d ks) (by kernel_rfl) h) i
def zq4o (p1 : zq4i) {β : Type} (day : Int) (k : (Int → Option β)) : Option β :=
  c_civil_floor day (366 : Int) (fun (rfloor : Int) =>
  let y : Int := (IntKind.i64.wrap ((1970 : Int) + rfloor));
  p1 (fun (y2 : Int) =>
  k y2) day y)
theorem zq4p (hΓ : ΓOk Tryz.prog (civil_year_X c_civil_count c_civil_floor).Γ) (p1 : zq4i) (hp1 : PieceOk Tryz.prog 15 0 civil_year_p1_code zq4j zq4k (civil_year_p1_G p1)) : SpecOk Tryz.prog 81 (zq4g (zq4o c_civil_floor p1)) :=
  spec_exec (X := (civil_year_X c_civil_count c_civil_floor)) (Λ := pick1 [(28, pieceCut zq4j zq4k (civil_year_p1_G p1))]) (rs := [.tmp 2]) (c := bodyOf Tryz.f81) mixed tab_ok hΓ Tryz.func81 (by kernel_rfl) (by kernel_rfl) (by kernel_rfl) (by kernel_rfl) (CutsOk_cons (q := 28) (c' := civil_year_p1_code) (by kernel_rfl) rfl hp1 CutsOk_nil) (fun x k r h => Eq.trans (b := (zq4g (zq4o c_civil_floor p1)).run x k) (by kernel_rfl) h)
end
theorem zq4qΓ : ΓOk Tryz.prog (pick1 [(80, .spec (zq49 zq4d)), (102, .spec (zq2f zq2j))]) := (ΓOk_cons zq4e (ΓOk_cons zq2k ΓOk_nil))
def zq4r (m : Nat) : zq4i := zq4m zq4d m
theorem zq4s {β : Type} (i : Nat) (k1 day y) : (zq4r (i + 1) k1 day y : Option β) = zq4l zq4d (zq4r i k1) k1 day y := rfl
def zq4t : zq4i := zq4r fuel
theorem zq4u : PieceOk Tryz.prog 15 0 civil_year_p1_code zq4j zq4k (civil_year_p1_G zq4t) := zq4n zq4d zq2j zq4qΓ fuel
def zq4v : zq4f := zq4o zq2j zq4t
theorem zq4w : SpecOk Tryz.prog 81 (zq4g zq4v) := zq4p zq4d zq2j zq4qΓ zq4t zq4u

/-- pagewatch/civil.Days -/
abbrev zq4x := {β : Type} → Int → Int → (Int → Option β) → Option β
def zq4y (c : zq4x) : Spec :=
  ⟨[(false, [.data (.int .i64)]), (false, [.data (.int .i64)])], [], [(false, [.data (.int .i64)])], [], fun x k => c x.1.1.1 x.1.2.1.1 (fun r0 => k (((r0, ()), ()), ()))⟩
section
variable (c_civil_Leap : zq2l)
@[reducible] def civil_Days_X : Ctx := ⟨look tab, pick1 [(103, .spec (zq2m c_civil_Leap))], false, false, false, false⟩
def zq4z {β : Type} (year : Int) (month : Int) (k : (Int → Option β)) : Option β :=
  cond (decide (month < (1 : Int)))
  (k (0 : Int))
  (cond (decide ((12 : Int) < month))
  (k (0 : Int))
  (cond (decide (month = (2 : Int)))
  (c_civil_Leap year (fun (rLeap : Bool) =>
  cond rLeap
  (k (29 : Int))
  (cond (decide ((IntKind.i64.wrap (month - (1 : Int))) = (0 : Int)))
  (k (31 : Int))
  (cond (decide ((IntKind.i64.wrap (month - (1 : Int))) = (1 : Int)))
  (k (28 : Int))
  (cond (decide ((IntKind.i64.wrap (month - (1 : Int))) = (2 : Int)))
  (k (31 : Int))
  (cond (decide ((IntKind.i64.wrap (month - (1 : Int))) = (3 : Int)))
  (k (30 : Int))
  (cond (decide ((IntKind.i64.wrap (month - (1 : Int))) = (4 : Int)))
  (k (31 : Int))
  (cond (decide ((IntKind.i64.wrap (month - (1 : Int))) = (5 : Int)))
  (k (30 : Int))
  (cond (decide ((IntKind.i64.wrap (month - (1 : Int))) = (6 : Int)))
  (k (31 : Int))
  (cond (decide ((IntKind.i64.wrap (month - (1 : Int))) = (7 : Int)))
  (k (31 : Int))
  (cond (decide ((IntKind.i64.wrap (month - (1 : Int))) = (8 : Int)))
  (k (30 : Int))
  (cond (decide ((IntKind.i64.wrap (month - (1 : Int))) = (9 : Int)))
  (k (31 : Int))
  (cond (decide ((IntKind.i64.wrap (month - (1 : Int))) = (10 : Int)))
  (k (30 : Int))
  (cond (decide ((IntKind.i64.wrap (month - (1 : Int))) = (11 : Int)))
  (k (31 : Int))
  (none)))))))))))))))
  (cond (decide ((IntKind.i64.wrap (month - (1 : Int))) = (0 : Int)))
  (k (31 : Int))
  (cond (decide ((IntKind.i64.wrap (month - (1 : Int))) = (1 : Int)))
  (k (28 : Int))
  (cond (decide ((IntKind.i64.wrap (month - (1 : Int))) = (2 : Int)))
  (k (31 : Int))
  (cond (decide ((IntKind.i64.wrap (month - (1 : Int))) = (3 : Int)))
  (k (30 : Int))
  (cond (decide ((IntKind.i64.wrap (month - (1 : Int))) = (4 : Int)))
  (k (31 : Int))
  (cond (decide ((IntKind.i64.wrap (month - (1 : Int))) = (5 : Int)))
  (k (30 : Int))
  (cond (decide ((IntKind.i64.wrap (month - (1 : Int))) = (6 : Int)))
  (k (31 : Int))
  (cond (decide ((IntKind.i64.wrap (month - (1 : Int))) = (7 : Int)))
  (k (31 : Int))
  (cond (decide ((IntKind.i64.wrap (month - (1 : Int))) = (8 : Int)))
  (k (30 : Int))
  (cond (decide ((IntKind.i64.wrap (month - (1 : Int))) = (9 : Int)))
  (k (31 : Int))
  (cond (decide ((IntKind.i64.wrap (month - (1 : Int))) = (10 : Int)))
  (k (30 : Int))
  (cond (decide ((IntKind.i64.wrap (month - (1 : Int))) = (11 : Int)))
  (k (31 : Int))
  (none)))))))))))))))
theorem zq50 (hΓ : ΓOk Tryz.prog (civil_Days_X c_civil_Leap).Γ) : SpecOk Tryz.prog 82 (zq4y (zq4z c_civil_Leap)) :=
  spec_exec (X := (civil_Days_X c_civil_Leap)) (Λ := pick1 []) (rs := [.tmp 4]) (c := bodyOf Tryz.f82) mixed tab_ok hΓ Tryz.func82 (by kernel_rfl) (by kernel_rfl) (by kernel_rfl) (by kernel_rfl) CutsOk_nil (fun x k r h => Eq.trans (b := (zq4y (zq4z c_civil_Leap)).run x k) (by kernel_rfl) h)
end
theorem zq51Γ : ΓOk Tryz.prog (pick1 [(103, .spec (zq2m zq2q))]) := (ΓOk_cons zq2r ΓOk_nil)
def zq52 : zq4x := zq4z zq2q
theorem zq53 : SpecOk Tryz.prog 82 (zq4y zq52) := zq50 zq2q zq51Γ

/-- pagewatch/lexer.clock -/
abbrev zq54 := {β : Type} → (List UInt8) → (Int → Bool → Option β) → Option β
def zq55 (c : zq54) : Spec :=
  ⟨[(false, [.data .str])], [], [(false, [.data (.int .i64)]), (false, [.data .bool])], [], fun x k => c x.1.1.1 (fun r0 r1 => k (((r0, ()), (r1, ()), ()), ()))⟩
noncomputable def lexer_clock_p1_code : Code := codeAt 250 (bodyOf Tryz.f41)
abbrev zq56 (β : Type) := Int → Bool → Option β
abbrev zq57 (β : Type) := Int → Option β
abbrev zq58 := {β : Type} → zq56 β → zq57 β → Int → Int → Int → (List (List UInt8)) → Option β
def zq59 : View := ⟨0, [5, 23, 24, 25], [(false, [.data (.int .i64)]), (false, [.rowh 0]), (false, [.data (.int .i64)]), (false, [.data (.int .i64)])], [.row 9 .str]⟩
def zq5a : List (AExit × View) := [(.ret, ⟨0, [2, 3], [(false, [.data (.int .i64)]), (false, [.data .bool])], []⟩), (.exit 0, ⟨0, [5], [(false, [.data (.int .i64)])], []⟩)]
@[reducible] def lexer_clock_p1_G (p : zq58) {β : Type} (d : zq59.den) (ks : Outs.K β zq5a) : Option β :=
  p (fun a0 a1 => ks.1 (((a0, ()), (a1, ()), ()), ())) (fun a0 => ks.2.1 (((a0, ()), ()), ())) d.1.1.1 d.1.2.2.1.1 d.1.2.2.2.1.1 d.2.1
section
variable (c_lexer_two : zq3u) (c_strings_Split : zq1y)
@[reducible] def lexer_clock_X : Ctx := ⟨look tab, pick1 [(55, .spec (zq3v c_lexer_two)), (57, .spec (zq1z c_strings_Split))], false, true, false, false⟩
def zq5b {β : Type} (rec : Int → Int → Int → (List (List UInt8)) → Option β) (k1 : zq56 β) (k2 : zq57 β) (n : Int) (t24 : Int) (t25 : Int) (t23 : List (List UInt8)) : Option β :=
  cond (decide (t25 < t24))
  (cond (decide (0 ≤ t25) && decide (t25 < (List.length t23 : Int)))
  (let x : List UInt8 := (List.getD t23 (Int.toNat t25) ([] : List UInt8));
  c_lexer_two x (fun (rtwo : Int) (rtwo2 : Bool) =>
  cond (!rtwo2)
  (k1 (0 : Int) false)
  (cond (decide ((0 : Int) < t25))
  (cond (decide ((59 : Int) < rtwo))
  (k1 (0 : Int) false)
  (let n2 : Int := (IntKind.i64.wrap ((IntKind.i64.wrap ((60 : Int) * n)) + rtwo));
  rec n2 t24 (IntKind.i64.wrap (t25 + (1 : Int))) t23))
  (let n2 : Int := (IntKind.i64.wrap ((IntKind.i64.wrap ((60 : Int) * n)) + rtwo));
  rec n2 t24 (IntKind.i64.wrap (t25 + (1 : Int))) t23))))
  none)
  (k2 n)
def zq5c {β : Type} : Nat → zq56 β → zq57 β → Int → Int → Int → (List (List UInt8)) → Option β
  | 0 => fun _ _ _ _ _ _ => none
  | i + 1 => fun k1 k2 n t24 t25 t23 => zq5b c_lexer_two (zq5c i k1 k2) k1 k2 n t24 t25 t23
theorem zq5d (hΓ : ΓOk Tryz.prog (lexer_clock_X c_lexer_two c_strings_Split).Γ) (i : Nat) : PieceOk Tryz.prog 53 0 lexer_clock_p1_code zq59 zq5a (lexer_clock_p1_G (zq5c c_lexer_two i)) := by
  rw [show lexer_clock_p1_code = .loop (loopBody lexer_clock_p1_code) by kernel_rfl]
  exact piece_loop (X := (lexer_clock_X c_lexer_two c_strings_Split)) (p := 1) (Λ := pick1 []) (G := fun i => @fun β d ks => lexer_clock_p1_G (zq5c c_lexer_two i) d ks) mixed tab_ok hΓ rfl (by kernel_rfl) CutsOk_nil (fun _ _ => rfl) (fun i => @fun β d ks r h => Eq.trans (b := lexer_clock_p1_G (zq5c c_lexer_two (i + 1)) d ks) (by kernel_rfl) h) i
def zq5e (p1 : zq58) {β : Type} (s : List UInt8) (k : (Int → Bool → Option β)) : Option β :=
  c_strings_Split s ([58] : List UInt8) (fun (lrSplit : List (List UInt8)) =>
  cond (decide ((List.length lrSplit : Int) < (2 : Int)))
  (k (0 : Int) false)
  (cond (decide ((3 : Int) < (List.length lrSplit : Int)))
  (k (0 : Int) false)
  (let l : List (List UInt8) := ([([48, 48] : List UInt8)] : List (List UInt8));
  cond (decide ((List.length lrSplit + List.length l) * 16 ≤ roomMax))
  (let l2 : List (List UInt8) := (lrSplit ++ l);
  cond (decide (0 ≤ (3 : Int)) && decide ((3 : Int) ≤ (List.length l2 : Int)))
  (let l3 : List (List UInt8) := (List.take (Int.toNat (3 : Int)) l2);
  p1 (fun (t2 : Int) (t3 : Bool) =>
  k t2 t3) (fun (n : Int) =>
  let t : Bool := (decide (n ≤ (86400 : Int)));
  k n t) (0 : Int) (List.length l3 : Int) (0 : Int) l3)
  none)
  none)))
theorem zq5f (hΓ : ΓOk Tryz.prog (lexer_clock_X c_lexer_two c_strings_Split).Γ) (p1 : zq58) (hp1 : PieceOk Tryz.prog 53 0 lexer_clock_p1_code zq59 zq5a (lexer_clock_p1_G p1)) : SpecOk Tryz.prog 41 (zq55 (zq5e c_strings_Split p1)) :=
  spec_exec (X := (lexer_clock_X c_lexer_two c_strings_Split)) (Λ := pick1 [(250, pieceCut zq59 zq5a (lexer_clock_p1_G p1))]) (rs := [.tmp 2, .tmp 3]) (c := bodyOf Tryz.f41) mixed tab_ok hΓ Tryz.func41 (by kernel_rfl) (by kernel_rfl) (by kernel_rfl) (by kernel_rfl) (CutsOk_cons (q := 250) (c' := lexer_clock_p1_code) (by kernel_rfl) rfl hp1 CutsOk_nil) (fun x k r h => Eq.trans (b := (zq55 (zq5e c_strings_Split p1)).run x k) (by kernel_rfl) h)
end
theorem zq5gΓ : ΓOk Tryz.prog (pick1 [(55, .spec (zq3v zq3z)), (57, .spec (zq1z zq20))]) := (ΓOk_cons zq40 (ΓOk_cons zq21 ΓOk_nil))
def zq5h (m : Nat) : zq58 := zq5c zq3z m
theorem zq5i {β : Type} (i : Nat) (k1 k2 n t24 t25 t23) : (zq5h (i + 1) k1 k2 n t24 t25 t23 : Option β) = zq5b zq3z (zq5h i k1 k2) k1 k2 n t24 t25 t23 := rfl
def zq5j : zq58 := zq5h fuel
theorem zq5k : PieceOk Tryz.prog 53 0 lexer_clock_p1_code zq59 zq5a (lexer_clock_p1_G zq5j) := zq5d zq3z zq20 zq5gΓ fuel
def zq5l : zq54 := zq5e zq20 zq5j
theorem zq5m : SpecOk Tryz.prog 41 (zq55 zq5l) := zq5f zq3z zq20 zq5gΓ zq5j zq5k

/-- pagewatch/lexer.hours -/
abbrev zq5n := {β : Type} → Int → Bool → ((List UInt8) → Option β) → Option β
def zq5o (c : zq5n) : Spec :=
  ⟨[(false, [.data (.int .i64)]), (false, [.data .bool])], [], [(false, [.data .str])], [], fun x k => c x.1.1.1 x.1.2.1.1 (fun r0 => k (((r0, ()), ()), ()))⟩
section
variable (c_lexer_digits : zq41)
@[reducible] def lexer_hours_X : Ctx := ⟨look tab, pick1 [(64, .spec (zq42 c_lexer_digits))], false, false, false, false⟩
def zq5p {β : Type} (n : Int) (seconds : Bool) (k : ((List UInt8) → Option β)) : Option β :=
  cond (!decide ((3600 : Int) = 0))
  (c_lexer_digits (IntKind.i64.wrap (Int.tdiv n (3600 : Int))) (2 : Int) (fun (rdigits : List UInt8) =>
  cond (decide (List.length rdigits + List.length ([58] : List UInt8) ≤ 9223372036854775807))
  (cond (!decide ((60 : Int) = 0))
  (cond (!decide ((60 : Int) = 0))
  (c_lexer_digits (Int.tmod (IntKind.i64.wrap (Int.tdiv n (60 : Int))) (60 : Int)) (2 : Int) (fun (rdigits2 : List UInt8) =>
  cond (decide (List.length (rdigits ++ ([58] : List UInt8)) + List.length rdigits2 ≤ 9223372036854775807))
  (let s : List UInt8 := ((rdigits ++ ([58] : List UInt8)) ++ rdigits2);
  cond seconds
  (cond (!decide ((60 : Int) = 0))
  (c_lexer_digits (Int.tmod n (60 : Int)) (2 : Int) (fun (rdigits3 : List UInt8) =>
  cond (decide (List.length ([58] : List UInt8) + List.length rdigits3 ≤ 9223372036854775807))
  (cond (decide (List.length s + List.length (([58] : List UInt8) ++ rdigits3) ≤ 9223372036854775807))
  (let s2 : List UInt8 := (s ++ (([58] : List UInt8) ++ rdigits3));
  k s2)
  none)
  none))
  none)
  (k s))
  none))
  none)
  none)
  none))
  none
theorem zq5q (hΓ : ΓOk Tryz.prog (lexer_hours_X c_lexer_digits).Γ) : SpecOk Tryz.prog 48 (zq5o (zq5p c_lexer_digits)) :=
  spec_exec (X := (lexer_hours_X c_lexer_digits)) (Λ := pick1 []) (rs := [.tmp 4]) (c := bodyOf Tryz.f48) mixed tab_ok hΓ Tryz.func48 (by kernel_rfl) (by kernel_rfl) (by kernel_rfl) (by kernel_rfl) CutsOk_nil (fun x k r h => Eq.trans (b := (zq5o (zq5p c_lexer_digits)).run x k) (by kernel_rfl) h)
end
theorem zq5rΓ : ΓOk Tryz.prog (pick1 [(64, .spec (zq42 zq46))]) := (ΓOk_cons zq47 ΓOk_nil)
def zq5s : zq5n := zq5p zq46
theorem zq5t : SpecOk Tryz.prog 48 (zq5o zq5s) := zq5q zq46 zq5rΓ

/-- pagewatch/civil.DateOf -/
abbrev zq5u := {β : Type} → Int → ((Int × (Int × Int)) → Int → Option β) → Option β
def zq5v (c : zq5u) : Spec :=
  ⟨[(false, [.data (.int .i64)])], [], [(true, [.data (.prod (.int .i64) (.prod (.int .i64) (.int .i64)))]), (false, [.data (.int .i64)])], [], fun x k => c x.1.1.1 (fun r0 r1 => k (((r0, ()), (r1, ()), ()), ()))⟩
noncomputable def civil_DateOf_p1_code : Code := codeAt 124 (bodyOf Tryz.f65)
abbrev zq5w (β : Type) := Int → Int → Int → Int → Int → Int → Int → Option β
abbrev zq5x := {β : Type} → zq5w β → Int → Int → Int → Int → Int → Int → Int → Option β
def zq5y : View := ⟨0, [2, 4, 5], [(false, [.ptr 0 0]), (false, [.ptr 1 0]), (false, [.data (.int .i64)])], [.cells 68 [.data (.int .i64), .data (.int .i64), .data (.int .i64)], .cells 68 [.data (.int .i64), .data (.int .i64), .data (.int .i64)]]⟩
def zq5z : List (AExit × View) := [(.exit 0, ⟨0, [2, 4, 5], [(false, [.ptr 0 0]), (false, [.ptr 1 0]), (false, [.data (.int .i64)])], [.cells 68 [.data (.int .i64), .data (.int .i64), .data (.int .i64)], .cells 68 [.data (.int .i64), .data (.int .i64), .data (.int .i64)]]⟩)]
@[reducible] def civil_DateOf_p1_G (p : zq5x) {β : Type} (d : zq5y.den) (ks : Outs.K β zq5z) : Option β :=
  p (fun a0 a1 a2 a3 a4 a5 a6 => ks.1 (((), (), (a0, ()), ()), ((a1, a2, a3, ()), (a4, a5, a6, ()), ()))) d.1.2.2.1.1 d.2.1.1 d.2.1.2.1 d.2.1.2.2.1 d.2.2.1.1 d.2.2.1.2.1 d.2.2.1.2.2.1
section
variable (c_civil_Days : zq4x) (c_civil_count : zq48) (c_civil_year : zq4f)
@[reducible] def civil_DateOf_X : Ctx := ⟨look tab, pick1 [(82, .spec (zq4y c_civil_Days)), (80, .spec (zq49 c_civil_count)), (81, .spec (zq4g c_civil_year))], false, false, false, false⟩
def zq60 {β : Type} (rec : Int → Int → Int → Int → Int → Int → Int → Option β) (k1 : zq5w β) (rest : Int) (t2 : Int) (t22 : Int) (t23 : Int) (d : Int) (d2 : Int) (d3 : Int) : Option β :=
  c_civil_Days d d2 (fun (rDays : Int) =>
  cond (decide (rDays ≤ rest))
  (c_civil_Days d d2 (fun (rDays2 : Int) =>
  let rest2 : Int := (IntKind.i64.wrap (rest - rDays2));
  rec rest2 t2 t22 t23 d (IntKind.i64.wrap (d2 + (1 : Int))) d3))
  (k1 rest t2 t22 t23 d d2 d3))
def zq61 {β : Type} : Nat → zq5w β → Int → Int → Int → Int → Int → Int → Int → Option β
  | 0 => fun _ _ _ _ _ _ _ _ => none
  | i + 1 => fun k1 rest t2 t22 t23 d d2 d3 => zq60 c_civil_Days (zq61 i k1) k1 rest t2 t22 t23 d d2 d3
theorem zq62 (hΓ : ΓOk Tryz.prog (civil_DateOf_X c_civil_Days c_civil_count c_civil_year).Γ) (i : Nat) : PieceOk Tryz.prog 45 0 civil_DateOf_p1_code zq5y zq5z (civil_DateOf_p1_G (zq61 c_civil_Days i)) := by
  rw [show civil_DateOf_p1_code = .loop (loopBody civil_DateOf_p1_code) by kernel_rfl]
  exact piece_loop (X := (civil_DateOf_X c_civil_Days c_civil_count c_civil_year)) (p := 1) (Λ := pick1 []) (G := fun i => @fun β d ks => civil_DateOf_p1_G (zq61 c_civil_Days i) d ks) mixed tab_ok hΓ rfl (by kernel_rfl) CutsOk_nil (fun _ _ => rfl) (fun i => @fun β d ks r h => Eq.trans (b := civil_DateOf_p1_G (zq61 c_civil_Days (i + 1)) d ks) (by kernel_rfl) h) i
def zq63 (p1 : zq5x) {β : Type} (day : Int) (k : ((Int × (Int × Int)) → Int → Option β)) : Option β :=
  c_civil_count (1970 : Int) (fun (rcount : Int) =>
  cond (decide (day < rcount))
  (k ((0 : Int), ((0 : Int), (0 : Int))) (1 : Int))
  (c_civil_count (2241 : Int) (fun (rcount2 : Int) =>
  cond (decide (rcount2 ≤ day))
  (k ((0 : Int), ((0 : Int), (0 : Int))) (1 : Int))
  (c_civil_year day (fun (ryear : Int) =>
  c_civil_count ryear (fun (rcount3 : Int) =>
  let rest : Int := (IntKind.i64.wrap (day - rcount3));
  p1 (fun (rest2 : Int) (t2 : Int) (t22 : Int) (t23 : Int) (d : Int) (d2 : Int) (d3 : Int) =>
  k (d, (d2, (IntKind.i64.wrap (rest2 + (1 : Int))))) (0 : Int)) rest (0 : Int) (0 : Int) (0 : Int) ryear (1 : Int) (0 : Int)))))))
theorem zq64 (hΓ : ΓOk Tryz.prog (civil_DateOf_X c_civil_Days c_civil_count c_civil_year).Γ) (p1 : zq5x) (hp1 : PieceOk Tryz.prog 45 0 civil_DateOf_p1_code zq5y zq5z (civil_DateOf_p1_G p1)) : SpecOk Tryz.prog 65 (zq5v (zq63 c_civil_count c_civil_year p1)) :=
  spec_exec (X := (civil_DateOf_X c_civil_Days c_civil_count c_civil_year)) (Λ := pick1 [(124, pieceCut zq5y zq5z (civil_DateOf_p1_G p1))]) (rs := [.cell 2 68, .tmp 3]) (c := bodyOf Tryz.f65) mixed tab_ok hΓ Tryz.func65 (by kernel_rfl) (by kernel_rfl) (by kernel_rfl) (by kernel_rfl) (CutsOk_cons (q := 124) (c' := civil_DateOf_p1_code) (by kernel_rfl) rfl hp1 CutsOk_nil) (fun x k r h => Eq.trans (b := (zq5v (zq63 c_civil_count c_civil_year p1)).run x k) (by kernel_rfl) h)
end
theorem zq65Γ : ΓOk Tryz.prog (pick1 [(82, .spec (zq4y zq52)), (80, .spec (zq49 zq4d)), (81, .spec (zq4g zq4v))]) := (ΓOk_cons zq53 (ΓOk_cons zq4e (ΓOk_cons zq4w ΓOk_nil)))
def zq66 (m : Nat) : zq5x := zq61 zq52 m
theorem zq67 {β : Type} (i : Nat) (k1 rest t2 t22 t23 d d2 d3) : (zq66 (i + 1) k1 rest t2 t22 t23 d d2 d3 : Option β) = zq60 zq52 (zq66 i k1) k1 rest t2 t22 t23 d d2 d3 := rfl
def zq68 : zq5x := zq66 fuel
theorem zq69 : PieceOk Tryz.prog 45 0 civil_DateOf_p1_code zq5y zq5z (civil_DateOf_p1_G zq68) := zq62 zq52 zq4d zq4v zq65Γ fuel
def zq6a : zq5u := zq63 zq4d zq4v zq68
theorem zq6b : SpecOk Tryz.prog 65 (zq5v zq6a) := zq64 zq52 zq4d zq4v zq65Γ zq68 zq69

/-- pagewatch/civil.Valid -/
abbrev zq6c := {β : Type} → (Int × (Int × Int)) → (Bool → Option β) → Option β
def zq6d (c : zq6c) : Spec :=
  ⟨[(true, [.data (.prod (.int .i64) (.prod (.int .i64) (.int .i64)))])], [], [(false, [.data .bool])], [], fun x k => c x.1.1.1 (fun r0 => k (((r0, ()), ()), ()))⟩
section
variable (c_civil_Days : zq4x)
@[reducible] def civil_Valid_X : Ctx := ⟨look tab, pick1 [(82, .spec (zq4y c_civil_Days))], false, false, false, false⟩
def zq6e {β : Type} (d : (Int × (Int × Int))) (k : (Bool → Option β)) : Option β :=
  cond (decide ((1970 : Int) ≤ d.1))
  (cond (decide (d.1 ≤ (2240 : Int)))
  (cond (decide ((1 : Int) ≤ d.2.2))
  (c_civil_Days d.1 d.2.1 (fun (rDays : Int) =>
  k (decide (d.2.2 ≤ rDays))))
  (k false))
  (k false))
  (k false)
theorem zq6f (hΓ : ΓOk Tryz.prog (civil_Valid_X c_civil_Days).Γ) : SpecOk Tryz.prog 66 (zq6d (zq6e c_civil_Days)) :=
  spec_exec (X := (civil_Valid_X c_civil_Days)) (Λ := pick1 []) (rs := [.tmp 2]) (c := bodyOf Tryz.f66) mixed tab_ok hΓ Tryz.func66 (by kernel_rfl) (by kernel_rfl) (by kernel_rfl) (by kernel_rfl) CutsOk_nil (fun x k r h => Eq.trans (b := (zq6d (zq6e c_civil_Days)).run x k) (by kernel_rfl) h)
end
theorem zq6gΓ : ΓOk Tryz.prog (pick1 [(82, .spec (zq4y zq52))]) := (ΓOk_cons zq53 ΓOk_nil)
def zq6h : zq6c := zq6e zq52
theorem zq6i : SpecOk Tryz.prog 66 (zq6d zq6h) := zq6f zq52 zq6gΓ

/-- pagewatch/civil.number -/
abbrev zq6j := {β : Type} → (Int × (Int × Int)) → (Int → Option β) → Option β
def zq6k (c : zq6j) : Spec :=
  ⟨[(true, [.data (.prod (.int .i64) (.prod (.int .i64) (.int .i64)))])], [], [(false, [.data (.int .i64)])], [], fun x k => c x.1.1.1 (fun r0 => k (((r0, ()), ()), ()))⟩
noncomputable def civil_number_p1_code : Code := codeAt 58 (bodyOf Tryz.f67)
abbrev zq6l (β : Type) := Int → Option β
abbrev zq6m := {β : Type} → zq6l β → Int → Int → Int → Int → Int → Option β
def zq6n : View := ⟨0, [1, 3, 4], [(false, [.ptr 0 0]), (false, [.data (.int .i64)]), (false, [.data (.int .i64)])], [.cells 68 [.data (.int .i64), .data (.int .i64), .data (.int .i64)]]⟩
def zq6o : List (AExit × View) := [(.exit 0, ⟨0, [3], [(false, [.data (.int .i64)])], []⟩)]
@[reducible] def civil_number_p1_G (p : zq6m) {β : Type} (d : zq6n.den) (ks : Outs.K β zq6o) : Option β :=
  p (fun a0 => ks.1 (((a0, ()), ()), ())) d.1.2.1.1 d.1.2.2.1.1 d.2.1.1 d.2.1.2.1 d.2.1.2.2.1
section
variable (c_civil_Days : zq4x) (c_civil_count : zq48)
@[reducible] def civil_number_X : Ctx := ⟨look tab, pick1 [(82, .spec (zq4y c_civil_Days)), (80, .spec (zq49 c_civil_count))], false, false, false, false⟩
def zq6p {β : Type} (rec : Int → Int → Int → Int → Int → Option β) (k1 : zq6l β) (n : Int) (m : Int) (d : Int) (d2 : Int) (d3 : Int) : Option β :=
  cond (decide (m < d2))
  (c_civil_Days d m (fun (rDays : Int) =>
  let n2 : Int := (IntKind.i64.wrap (n + rDays));
  let m2 : Int := (IntKind.i64.wrap (m + (1 : Int)));
  rec n2 m2 d d2 d3))
  (k1 n)
def zq6q {β : Type} : Nat → zq6l β → Int → Int → Int → Int → Int → Option β
  | 0 => fun _ _ _ _ _ _ => none
  | i + 1 => fun k1 n m d d2 d3 => zq6p c_civil_Days (zq6q i k1) k1 n m d d2 d3
theorem zq6r (hΓ : ΓOk Tryz.prog (civil_number_X c_civil_Days c_civil_count).Γ) (i : Nat) : PieceOk Tryz.prog 25 0 civil_number_p1_code zq6n zq6o (civil_number_p1_G (zq6q c_civil_Days i)) := by
  rw [show civil_number_p1_code = .loop (loopBody civil_number_p1_code) by kernel_rfl]
  exact piece_loop (X := (civil_number_X c_civil_Days c_civil_count)) (p := 1) (Λ := pick1 []) (G := fun i => @fun β d ks => civil_number_p1_G (zq6q c_civil_Days i) d ks) mixed tab_ok hΓ rfl (by kernel_rfl) CutsOk_nil (fun _ _ => rfl) (fun i => @fun β d ks r h => Eq.trans (b := civil_number_p1_G (zq6q c_civil_Days (i + 1)) d ks) (by kernel_rfl) h) i
def zq6s (p1 : zq6m) {β : Type} (d : (Int × (Int × Int))) (k : (Int → Option β)) : Option β :=
  c_civil_count d.1 (fun (rcount : Int) =>
  let n : Int := (IntKind.i64.wrap ((IntKind.i64.wrap (rcount + d.2.2)) - (1 : Int)));
  p1 (fun (n2 : Int) =>
  k n2) n (1 : Int) d.1 d.2.1 d.2.2)
theorem zq6t (hΓ : ΓOk Tryz.prog (civil_number_X c_civil_Days c_civil_count).Γ) (p1 : zq6m) (hp1 : PieceOk Tryz.prog 25 0 civil_number_p1_code zq6n zq6o (civil_number_p1_G p1)) : SpecOk Tryz.prog 67 (zq6k (zq6s c_civil_count p1)) :=
  spec_exec (X := (civil_number_X c_civil_Days c_civil_count)) (Λ := pick1 [(58, pieceCut zq6n zq6o (civil_number_p1_G p1))]) (rs := [.tmp 2]) (c := bodyOf Tryz.f67) mixed tab_ok hΓ Tryz.func67 (by kernel_rfl) (by kernel_rfl) (by kernel_rfl) (by kernel_rfl) (CutsOk_cons (q := 58) (c' := civil_number_p1_code) (by kernel_rfl) rfl hp1 CutsOk_nil) (fun x k r h => Eq.trans (b := (zq6k (zq6s c_civil_count p1)).run x k) (by kernel_rfl) h)
end
theorem zq6uΓ : ΓOk Tryz.prog (pick1 [(82, .spec (zq4y zq52)), (80, .spec (zq49 zq4d))]) := (ΓOk_cons zq53 (ΓOk_cons zq4e ΓOk_nil))
def zq6v (m : Nat) : zq6m := zq6q zq52 m
theorem zq6w {β : Type} (i : Nat) (k1 n m d d2 d3) : (zq6v (i + 1) k1 n m d d2 d3 : Option β) = zq6p zq52 (zq6v i k1) k1 n m d d2 d3 := rfl
def zq6x : zq6m := zq6v fuel
theorem zq6y : PieceOk Tryz.prog 25 0 civil_number_p1_code zq6n zq6o (civil_number_p1_G zq6x) := zq6r zq52 zq4d zq6uΓ fuel
def zq6z : zq6j := zq6s zq4d zq6x
theorem zq70 : SpecOk Tryz.prog 67 (zq6k zq6z) := zq6t zq52 zq4d zq6uΓ zq6x zq6y

/-- pagewatch/lexer.offset -/
abbrev zq71 := {β : Type} → (List UInt8) → (Int → Bool → Option β) → Option β
def zq72 (c : zq71) : Spec :=
  ⟨[(false, [.data .str])], [], [(false, [.data (.int .i64)]), (false, [.data .bool])], [], fun x k => c x.1.1.1 (fun r0 r1 => k (((r0, ()), (r1, ()), ()), ()))⟩
noncomputable def lexer_offset_p1_code : Code := codeAt 15 (bodyOf Tryz.f37)
abbrev zq73 (β : Type) := Int → Bool → Option β
abbrev zq74 := {β : Type} → zq73 β → (List UInt8) → Int → Bool → Option β
def zq75 : View := ⟨0, [0, 4, 5], [(false, [.data .str]), (false, [.data (.int .i64)]), (false, [.data .bool])], []⟩
def zq76 : List (AExit × View) := [(.ret, ⟨0, [2, 3], [(false, [.data (.int .i64)]), (false, [.data .bool])], []⟩)]
@[reducible] def lexer_offset_p1_G (p : zq74) {β : Type} (d : zq75.den) (ks : Outs.K β zq76) : Option β :=
  p (fun a0 a1 => ks.1 (((a0, ()), (a1, ()), ()), ())) d.1.1.1 d.1.2.1.1 d.1.2.2.1.1
section
variable (c_lexer_clock : zq54)
@[reducible] def lexer_offset_X : Ctx := ⟨look tab, pick1 [(41, .spec (zq55 c_lexer_clock))], false, false, false, false⟩
def zq77 {β : Type} (k1 : zq73 β) (s : List UInt8) (n : Int) (ok : Bool) : Option β :=
  cond ok
  (cond (decide ((List.length s : Int) = (6 : Int)))
  (cond (decide ((-64800 : Int) ≤ n))
  (let t : Bool := (decide (n ≤ (64800 : Int)));
  k1 n t)
  (k1 n false))
  (k1 n false))
  (k1 n false)
def zq78 {β : Type} (k1 : zq73 β) (s : List UInt8) (n : Int) (ok : Bool) : Option β := zq77 k1 s n ok
theorem zq79 (hΓ : ΓOk Tryz.prog (lexer_offset_X c_lexer_clock).Γ) : PieceOk Tryz.prog 32 0 lexer_offset_p1_code zq75 zq76 (lexer_offset_p1_G (zq78)) :=
  piece_exec (X := (lexer_offset_X c_lexer_clock)) (p := 15) (Λ := pick1 []) mixed tab_ok hΓ (by kernel_rfl) CutsOk_nil (fun d ks r h => Eq.trans (b := lexer_offset_p1_G (zq78) d ks) (by kernel_rfl) h)
def zq7a (p1 : zq74) {β : Type} (s : List UInt8) (k : (Int → Bool → Option β)) : Option β :=
  cond (decide (0 ≤ (1 : Int)) && (decide ((1 : Int) ≤ (List.length s : Int)) && decide ((List.length s : Int) ≤ (List.length s : Int))))
  (c_lexer_clock (List.drop (Int.toNat (1 : Int)) (List.take (Int.toNat (List.length s : Int)) s)) (fun (rclock : Int) (rclock2 : Bool) =>
  cond (decide (0 ≤ (0 : Int)) && decide ((0 : Int) < (List.length s : Int)))
  (cond (decide (((List.getD s (Int.toNat (0 : Int)) 0).toNat : Int) = (45 : Int)))
  (let n : Int := (IntKind.i64.wrap (0 - rclock));
  p1 (fun (t2 : Int) (t3 : Bool) =>
  k t2 t3) s n rclock2)
  (p1 (fun (t2 : Int) (t3 : Bool) =>
  k t2 t3) s rclock rclock2))
  none))
  none
theorem zq7b (hΓ : ΓOk Tryz.prog (lexer_offset_X c_lexer_clock).Γ) (p1 : zq74) (hp1 : PieceOk Tryz.prog 32 0 lexer_offset_p1_code zq75 zq76 (lexer_offset_p1_G p1)) : SpecOk Tryz.prog 37 (zq72 (zq7a c_lexer_clock p1)) :=
  spec_exec (X := (lexer_offset_X c_lexer_clock)) (Λ := pick1 [(15, pieceCut zq75 zq76 (lexer_offset_p1_G p1))]) (rs := [.tmp 2, .tmp 3]) (c := bodyOf Tryz.f37) mixed tab_ok hΓ Tryz.func37 (by kernel_rfl) (by kernel_rfl) (by kernel_rfl) (by kernel_rfl) (CutsOk_cons (q := 15) (c' := lexer_offset_p1_code) (by kernel_rfl) rfl hp1 CutsOk_nil) (fun x k r h => Eq.trans (b := (zq72 (zq7a c_lexer_clock p1)).run x k) (by kernel_rfl) h)
end
theorem zq7cΓ : ΓOk Tryz.prog (pick1 [(41, .spec (zq55 zq5l))]) := (ΓOk_cons zq5m ΓOk_nil)
def zq7d : zq74 := zq78
theorem zq7e : PieceOk Tryz.prog 32 0 lexer_offset_p1_code zq75 zq76 (lexer_offset_p1_G zq7d) := zq79 zq5l zq7cΓ
def zq7f : zq71 := zq7a zq5l zq7d
theorem zq7g : SpecOk Tryz.prog 37 (zq72 zq7f) := zq7b zq5l zq7cΓ zq7d zq7e

/-- pagewatch/lexer.dated -/
abbrev zq7h := {β : Type} → Int → ((List UInt8) → Bool → Option β) → Option β
def zq7i (c : zq7h) : Spec :=
  ⟨[(false, [.data (.int .i64)])], [], [(false, [.data .str]), (false, [.data .bool])], [], fun x k => c x.1.1.1 (fun r0 r1 => k (((r0, ()), (r1, ()), ()), ()))⟩
section
variable (c_civil_DateOf : zq5u) (c_lexer_digits : zq41)
@[reducible] def lexer_dated_X : Ctx := ⟨look tab, pick1 [(65, .spec (zq5v c_civil_DateOf)), (64, .spec (zq42 c_lexer_digits))], false, false, false, false⟩
def zq7j {β : Type} (day : Int) (k : ((List UInt8) → Bool → Option β)) : Option β :=
  c_civil_DateOf day (fun (rDateOf : (Int × (Int × Int))) (rDateOf2 : Int) =>
  c_lexer_digits rDateOf.1 (4 : Int) (fun (rdigits : List UInt8) =>
  cond (decide (List.length rdigits + List.length ([45] : List UInt8) ≤ 9223372036854775807))
  (c_lexer_digits rDateOf.2.1 (2 : Int) (fun (rdigits2 : List UInt8) =>
  cond (decide (List.length (rdigits ++ ([45] : List UInt8)) + List.length rdigits2 ≤ 9223372036854775807))
  (cond (decide (List.length ((rdigits ++ ([45] : List UInt8)) ++ rdigits2) + List.length ([45] : List UInt8) ≤ 9223372036854775807))
  (c_lexer_digits rDateOf.2.2 (2 : Int) (fun (rdigits3 : List UInt8) =>
  cond (decide (List.length (((rdigits ++ ([45] : List UInt8)) ++ rdigits2) ++ ([45] : List UInt8)) + List.length rdigits3 ≤ 9223372036854775807))
  (let t : List UInt8 := ((((rdigits ++ ([45] : List UInt8)) ++ rdigits2) ++ ([45] : List UInt8)) ++ rdigits3);
  let t2 : Bool := (decide (rDateOf2 = (0 : Int)));
  k t t2)
  none))
  none)
  none))
  none))
theorem zq7k (hΓ : ΓOk Tryz.prog (lexer_dated_X c_civil_DateOf c_lexer_digits).Γ) : SpecOk Tryz.prog 49 (zq7i (zq7j c_civil_DateOf c_lexer_digits)) :=
  spec_exec (X := (lexer_dated_X c_civil_DateOf c_lexer_digits)) (Λ := pick1 []) (rs := [.tmp 2, .tmp 3]) (c := bodyOf Tryz.f49) mixed tab_ok hΓ Tryz.func49 (by kernel_rfl) (by kernel_rfl) (by kernel_rfl) (by kernel_rfl) CutsOk_nil (fun x k r h => Eq.trans (b := (zq7i (zq7j c_civil_DateOf c_lexer_digits)).run x k) (by kernel_rfl) h)
end
theorem zq7lΓ : ΓOk Tryz.prog (pick1 [(65, .spec (zq5v zq6a)), (64, .spec (zq42 zq46))]) := (ΓOk_cons zq6b (ΓOk_cons zq47 ΓOk_nil))
def zq7m : zq7h := zq7j zq6a zq46
theorem zq7n : SpecOk Tryz.prog 49 (zq7i zq7m) := zq7k zq6a zq46 zq7lΓ

/-- pagewatch/civil.Day -/
abbrev zq7o := {β : Type} → (Int × (Int × Int)) → (Int → Int → Option β) → Option β
def zq7p (c : zq7o) : Spec :=
  ⟨[(true, [.data (.prod (.int .i64) (.prod (.int .i64) (.int .i64)))])], [], [(false, [.data (.int .i64)]), (false, [.data (.int .i64)])], [], fun x k => c x.1.1.1 (fun r0 r1 => k (((r0, ()), (r1, ()), ()), ()))⟩
section
variable (c_civil_Valid : zq6c) (c_civil_number : zq6j)
@[reducible] def civil_Day_X : Ctx := ⟨look tab, pick1 [(66, .spec (zq6d c_civil_Valid)), (67, .spec (zq6k c_civil_number))], false, false, false, false⟩
def zq7q {β : Type} (d : (Int × (Int × Int))) (k : (Int → Int → Option β)) : Option β :=
  c_civil_Valid d (fun (rValid : Bool) =>
  cond (!rValid)
  (k (0 : Int) (1 : Int))
  (c_civil_number d (fun (rnumber : Int) =>
  k rnumber (0 : Int))))
theorem zq7r (hΓ : ΓOk Tryz.prog (civil_Day_X c_civil_Valid c_civil_number).Γ) : SpecOk Tryz.prog 56 (zq7p (zq7q c_civil_Valid c_civil_number)) :=
  spec_exec (X := (civil_Day_X c_civil_Valid c_civil_number)) (Λ := pick1 []) (rs := [.tmp 2, .tmp 3]) (c := bodyOf Tryz.f56) mixed tab_ok hΓ Tryz.func56 (by kernel_rfl) (by kernel_rfl) (by kernel_rfl) (by kernel_rfl) CutsOk_nil (fun x k r h => Eq.trans (b := (zq7p (zq7q c_civil_Valid c_civil_number)).run x k) (by kernel_rfl) h)
end
theorem zq7sΓ : ΓOk Tryz.prog (pick1 [(66, .spec (zq6d zq6h)), (67, .spec (zq6k zq6z))]) := (ΓOk_cons zq6i (ΓOk_cons zq70 ΓOk_nil))
def zq7t : zq7o := zq7q zq6h zq6z
theorem zq7u : SpecOk Tryz.prog 56 (zq7p zq7t) := zq7r zq6h zq6z zq7sΓ

/-- pagewatch/lexer.text -/
abbrev zq7v := {β : Type} → zq0 → ((List UInt8) → Bool → Option β) → Option β
def zq7w (c : zq7v) : Spec :=
  ⟨[(true, [.data zq1])], [], [(false, [.data .str]), (false, [.data .bool])], [], fun x k => c x.1.1.1 (fun r0 r1 => k (((r0, ()), (r1, ()), ()), ()))⟩
noncomputable def lexer_text_p1_code : Code := codeAt 861 (bodyOf Tryz.f32)
noncomputable def lexer_text_p2_code : Code := codeAt 27643 (bodyOf Tryz.f32)
abbrev zq7x (β : Type) := (List UInt8) → Bool → Option β
abbrev zq7y := {β : Type} → zq7x β → Bool → Int → (List UInt8) → Int → Option β
def zq7z : View := ⟨0, [1, 4], [(false, [.ptr 0 0]), (false, [.data .bool])], [.cells 23 [.data (.int .i64), .data .str, .data (.int .i64)]]⟩
def zq80 : List (AExit × View) := [(.ret, ⟨0, [2, 3], [(false, [.data .str]), (false, [.data .bool])], []⟩)]
@[reducible] def lexer_text_p1_G (p : zq7y) {β : Type} (d : zq7z.den) (ks : Outs.K β zq80) : Option β :=
  p (fun a0 a1 => ks.1 (((a0, ()), (a1, ()), ()), ())) d.1.2.1.1 d.2.1.1 d.2.1.2.1 d.2.1.2.2.1
abbrev zq81 (β : Type) := (List UInt8) → Bool → Option β
abbrev zq82 := {β : Type} → zq81 β → Int → (List UInt8) → Option β
def zq83 : View := ⟨0, [5, 6], [(false, [.data (.int .i64)]), (false, [.data .str])], []⟩
def zq84 : List (AExit × View) := [(.ret, ⟨0, [2, 3], [(false, [.data .str]), (false, [.data .bool])], []⟩)]
@[reducible] def lexer_text_p2_G (p : zq82) {β : Type} (d : zq83.den) (ks : Outs.K β zq84) : Option β :=
  p (fun a0 a1 => ks.1 (((a0, ()), (a1, ()), ()), ())) d.1.1.1 d.1.2.1.1
section
variable (c_lexer_dated : zq7h) (c_lexer_hours : zq5n) (c_strconv_Itoa : zq1s)
@[reducible] def lexer_text_X : Ctx := ⟨look tab, pick1 [(49, .spec (zq7i c_lexer_dated)), (48, .spec (zq5o c_lexer_hours)), (47, .spec (zq1t c_strconv_Itoa))], false, false, false, false⟩
def zq85 {β : Type} (k1 : zq7x β) (ok : Bool) (t : Int) (t2 : List UInt8) (t3 : Int) : Option β :=
  cond (!decide ((60 : Int) = 0))
  (c_lexer_hours t3 (!decide ((Int.tmod t3 (60 : Int)) = (0 : Int))) (fun (rhours : List UInt8) =>
  k1 rhours ok))
  none
def zq86 {β : Type} (k1 : zq7x β) (ok : Bool) (t : Int) (t2 : List UInt8) (t3 : Int) : Option β := zq85 c_lexer_hours k1 ok t t2 t3
theorem zq87 (hΓ : ΓOk Tryz.prog (lexer_text_X c_lexer_dated c_lexer_hours c_strconv_Itoa).Γ) : PieceOk Tryz.prog 95 0 lexer_text_p1_code zq7z zq80 (lexer_text_p1_G (zq86 c_lexer_hours)) :=
  piece_exec (X := (lexer_text_X c_lexer_dated c_lexer_hours c_strconv_Itoa)) (p := 861) (Λ := pick1 []) mixed tab_ok hΓ (by kernel_rfl) CutsOk_nil (fun d ks r h => Eq.trans (b := lexer_text_p1_G (zq86 c_lexer_hours) d ks) (by kernel_rfl) h)
def zq88 {β : Type} (k1 : zq81 β) (n : Int) (sign : List UInt8) : Option β :=
  c_lexer_hours n false (fun (rhours : List UInt8) =>
  cond (decide (List.length sign + List.length rhours ≤ 9223372036854775807))
  (cond (decide ((0 : Int) ≤ n))
  (cond (decide (n ≤ (64800 : Int)))
  (cond (!decide ((60 : Int) = 0))
  (let t : Bool := (decide ((Int.tmod n (60 : Int)) = (0 : Int)));
  k1 (sign ++ rhours) t)
  none)
  (k1 (sign ++ rhours) false))
  (k1 (sign ++ rhours) false))
  none)
def zq89 {β : Type} (k1 : zq81 β) (n : Int) (sign : List UInt8) : Option β := zq88 c_lexer_hours k1 n sign
theorem zq8a (hΓ : ΓOk Tryz.prog (lexer_text_X c_lexer_dated c_lexer_hours c_strconv_Itoa).Γ) : PieceOk Tryz.prog 95 0 lexer_text_p2_code zq83 zq84 (lexer_text_p2_G (zq89 c_lexer_hours)) :=
  piece_exec (X := (lexer_text_X c_lexer_dated c_lexer_hours c_strconv_Itoa)) (p := 27643) (Λ := pick1 []) mixed tab_ok hΓ (by kernel_rfl) CutsOk_nil (fun d ks r h => Eq.trans (b := lexer_text_p2_G (zq89 c_lexer_hours) d ks) (by kernel_rfl) h)
def zq8b (p1 : zq7y) (p2 : zq82) {β : Type} (t : zq0) (k : ((List UInt8) → Bool → Option β)) : Option β :=
  let t2 : Bool := (decide (t.1 = (1 : Int)));
  cond t2
  (c_strconv_Itoa t.2.2 (fun (rItoa : List UInt8) =>
  cond (decide ((0 : Int) ≤ t.2.2))
  (let t3 : Bool := (decide (t.2.2 ≤ (999999999 : Int)));
  k rItoa t3)
  (k rItoa false)))
  (let t3 : Bool := (decide (t.1 = (2 : Int)));
  cond t3
  (cond (decide ((0 : Int) ≤ t.2.2))
  (let ok : Bool := (decide (t.2.2 ≤ (86400 : Int)));
  p1 (fun (t22 : List UInt8) (t32 : Bool) =>
  k t22 t32) ok t.1 t.2.1 t.2.2)
  (p1 (fun (t22 : List UInt8) (t32 : Bool) =>
  k t22 t32) false t.1 t.2.1 t.2.2))
  (let t4 : Bool := (decide (t.1 = (3 : Int)));
  cond t4
  (c_lexer_dated t.2.2 (fun (rdated : List UInt8) (rdated2 : Bool) =>
  k rdated rdated2))
  (let t5 : Bool := (decide (t.1 = (4 : Int)));
  cond t5
  (cond (decide (t.2.2 < (0 : Int)))
  (let n : Int := (IntKind.i64.wrap (0 - t.2.2));
  p2 (fun (t22 : List UInt8) (t32 : Bool) =>
  k t22 t32) n ([45] : List UInt8))
  (p2 (fun (t22 : List UInt8) (t32 : Bool) =>
  k t22 t32) t.2.2 ([43] : List UInt8)))
  (let t6 : Bool := (decide (t.1 = (5 : Int)));
  cond t6
  (cond (!decide ((86400 : Int) = 0))
  (c_lexer_dated (IntKind.i64.wrap (Int.tdiv t.2.2 (86400 : Int))) (fun (rdated : List UInt8) (rdated2 : Bool) =>
  cond (decide (List.length rdated + List.length ([84] : List UInt8) ≤ 9223372036854775807))
  (cond (!decide ((86400 : Int) = 0))
  (c_lexer_hours (Int.tmod t.2.2 (86400 : Int)) true (fun (rhours : List UInt8) =>
  cond (decide (List.length (rdated ++ ([84] : List UInt8)) + List.length rhours ≤ 9223372036854775807))
  (cond (decide (List.length ((rdated ++ ([84] : List UInt8)) ++ rhours) + List.length ([90] : List UInt8) ≤ 9223372036854775807))
  (cond rdated2
  (let t7 : List UInt8 := (((rdated ++ ([84] : List UInt8)) ++ rhours) ++ ([90] : List UInt8));
  let t8 : Bool := (decide ((0 : Int) ≤ t.2.2));
  k t7 t8)
  (let t7 : List UInt8 := (((rdated ++ ([84] : List UInt8)) ++ rhours) ++ ([90] : List UInt8));
  k t7 false))
  none)
  none))
  none)
  none))
  none)
  (k ([] : List UInt8) false)))))
theorem zq8c (hΓ : ΓOk Tryz.prog (lexer_text_X c_lexer_dated c_lexer_hours c_strconv_Itoa).Γ) (p1 : zq7y) (p2 : zq82) (hp1 : PieceOk Tryz.prog 95 0 lexer_text_p1_code zq7z zq80 (lexer_text_p1_G p1)) (hp2 : PieceOk Tryz.prog 95 0 lexer_text_p2_code zq83 zq84 (lexer_text_p2_G p2)) : SpecOk Tryz.prog 32 (zq7w (zq8b c_lexer_dated c_lexer_hours c_strconv_Itoa p1 p2)) :=
  spec_exec (X := (lexer_text_X c_lexer_dated c_lexer_hours c_strconv_Itoa)) (Λ := pick1 [(861, pieceCut zq7z zq80 (lexer_text_p1_G p1)), (27643, pieceCut zq83 zq84 (lexer_text_p2_G p2))]) (rs := [.tmp 2, .tmp 3]) (c := bodyOf Tryz.f32) mixed tab_ok hΓ Tryz.func32 (by kernel_rfl) (by kernel_rfl) (by kernel_rfl) (by kernel_rfl) (CutsOk_cons (q := 861) (c' := lexer_text_p1_code) (by kernel_rfl) rfl hp1 (CutsOk_cons (q := 27643) (c' := lexer_text_p2_code) (by kernel_rfl) rfl hp2 CutsOk_nil)) (fun x k r h => Eq.trans (b := (zq7w (zq8b c_lexer_dated c_lexer_hours c_strconv_Itoa p1 p2)).run x k) (by kernel_rfl) h)
end
theorem zq8dΓ : ΓOk Tryz.prog (pick1 [(49, .spec (zq7i zq7m)), (48, .spec (zq5o zq5s)), (47, .spec (zq1t zq1u))]) := (ΓOk_cons zq7n (ΓOk_cons zq5t (ΓOk_cons zq1v ΓOk_nil)))
def zq8e : zq7y := zq86 zq5s
theorem zq8f : PieceOk Tryz.prog 95 0 lexer_text_p1_code zq7z zq80 (lexer_text_p1_G zq8e) := zq87 zq7m zq5s zq1u zq8dΓ
def zq8g : zq82 := zq89 zq5s
theorem zq8h : PieceOk Tryz.prog 95 0 lexer_text_p2_code zq83 zq84 (lexer_text_p2_G zq8g) := zq8a zq7m zq5s zq1u zq8dΓ
def zq8i : zq7v := zq8b zq7m zq5s zq1u zq8e zq8g
theorem zq8j : SpecOk Tryz.prog 32 (zq7w zq8i) := zq8c zq7m zq5s zq1u zq8dΓ zq8e zq8g zq8f zq8h

/-- pagewatch/lexer.date -/
abbrev zq8k := {β : Type} → (List UInt8) → (Int → Bool → Option β) → Option β
def zq8l (c : zq8k) : Spec :=
  ⟨[(false, [.data .str])], [], [(false, [.data (.int .i64)]), (false, [.data .bool])], [], fun x k => c x.1.1.1 (fun r0 r1 => k (((r0, ()), (r1, ()), ()), ()))⟩
section
variable (c_civil_Day : zq7o) (c_lexer_number : zq3b) (c_lexer_two : zq3u)
@[reducible] def lexer_date_X : Ctx := ⟨look tab, pick1 [(56, .spec (zq7p c_civil_Day)), (42, .spec (zq3c c_lexer_number)), (55, .spec (zq3v c_lexer_two))], false, false, false, false⟩
def zq8m {β : Type} (s : List UInt8) (k : (Int → Bool → Option β)) : Option β :=
  cond (!decide ((List.length s : Int) = (10 : Int)))
  (k (0 : Int) false)
  (cond (decide (0 ≤ (4 : Int)) && decide ((4 : Int) < (List.length s : Int)))
  (cond (!decide (((List.getD s (Int.toNat (4 : Int)) 0).toNat : Int) = (45 : Int)))
  (k (0 : Int) false)
  (cond (decide (0 ≤ (7 : Int)) && decide ((7 : Int) < (List.length s : Int)))
  (cond (!decide (((List.getD s (Int.toNat (7 : Int)) 0).toNat : Int) = (45 : Int)))
  (k (0 : Int) false)
  (cond (decide (0 ≤ (0 : Int)) && (decide ((0 : Int) ≤ (4 : Int)) && decide ((4 : Int) ≤ (List.length s : Int))))
  (c_lexer_number (List.drop (Int.toNat (0 : Int)) (List.take (Int.toNat (4 : Int)) s)) (fun (rnumber : Int) (rnumber2 : Bool) =>
  cond (decide (0 ≤ (5 : Int)) && (decide ((5 : Int) ≤ (7 : Int)) && decide ((7 : Int) ≤ (List.length s : Int))))
  (c_lexer_two (List.drop (Int.toNat (5 : Int)) (List.take (Int.toNat (7 : Int)) s)) (fun (rtwo : Int) (rtwo2 : Bool) =>
  cond (decide (0 ≤ (8 : Int)) && (decide ((8 : Int) ≤ (List.length s : Int)) && decide ((List.length s : Int) ≤ (List.length s : Int))))
  (c_lexer_two (List.drop (Int.toNat (8 : Int)) (List.take (Int.toNat (List.length s : Int)) s)) (fun (rtwo3 : Int) (rtwo4 : Bool) =>
  c_civil_Day (rnumber, (rtwo, rtwo3)) (fun (rDay : Int) (rDay2 : Int) =>
  cond rnumber2
  (cond rtwo2
  (cond rtwo4
  (let t : Bool := (decide (rDay2 = (0 : Int)));
  k rDay t)
  (k rDay false))
  (k rDay false))
  (k rDay false))))
  none))
  none))
  none))
  none))
  none)
theorem zq8n (hΓ : ΓOk Tryz.prog (lexer_date_X c_civil_Day c_lexer_number c_lexer_two).Γ) : SpecOk Tryz.prog 40 (zq8l (zq8m c_civil_Day c_lexer_number c_lexer_two)) :=
  spec_exec (X := (lexer_date_X c_civil_Day c_lexer_number c_lexer_two)) (Λ := pick1 []) (rs := [.tmp 2, .tmp 3]) (c := bodyOf Tryz.f40) mixed tab_ok hΓ Tryz.func40 (by kernel_rfl) (by kernel_rfl) (by kernel_rfl) (by kernel_rfl) CutsOk_nil (fun x k r h => Eq.trans (b := (zq8l (zq8m c_civil_Day c_lexer_number c_lexer_two)).run x k) (by kernel_rfl) h)
end
theorem zq8oΓ : ΓOk Tryz.prog (pick1 [(56, .spec (zq7p zq7t)), (42, .spec (zq3c zq3s)), (55, .spec (zq3v zq3z))]) := (ΓOk_cons zq7u (ΓOk_cons zq3t (ΓOk_cons zq40 ΓOk_nil)))
def zq8p : zq8k := zq8m zq7t zq3s zq3z
theorem zq8q : SpecOk Tryz.prog 40 (zq8l zq8p) := zq8n zq7t zq3s zq3z zq8oΓ

/-- pagewatch/lexer.Text -/
abbrev zq8r := {β : Type} → zq0 → ((List UInt8) → Int → Option β) → Option β
def zq8s (c : zq8r) : Spec :=
  ⟨[(true, [.data zq1])], [], [(false, [.data .str]), (false, [.data (.int .i64)])], [], fun x k => c x.1.1.1 (fun r0 r1 => k (((r0, ()), (r1, ()), ()), ()))⟩
section
variable (c_lexer_Name : zq2s) (c_lexer_text : zq7v)
@[reducible] def lexer_Text_X : Ctx := ⟨look tab, pick1 [(16, .spec (zq2t c_lexer_Name)), (32, .spec (zq7w c_lexer_text))], false, false, false, false⟩
def zq8t {β : Type} (t : zq0) (k : ((List UInt8) → Int → Option β)) : Option β :=
  cond (decide (t.1 = (0 : Int)))
  (c_lexer_Name t.2.1 (fun (rName : Bool) =>
  cond (!rName)
  (k ([] : List UInt8) (8 : Int))
  (cond (!decide (t.2.2 = (0 : Int)))
  (k ([] : List UInt8) (8 : Int))
  (k t.2.1 (0 : Int)))))
  (c_lexer_text t (fun (rtext : List UInt8) (rtext2 : Bool) =>
  cond (!rtext2)
  (k ([] : List UInt8) (8 : Int))
  (cond (!decide (t.2.1 = ([] : List UInt8)))
  (k ([] : List UInt8) (8 : Int))
  (k rtext (0 : Int)))))
theorem zq8u (hΓ : ΓOk Tryz.prog (lexer_Text_X c_lexer_Name c_lexer_text).Γ) : SpecOk Tryz.prog 19 (zq8s (zq8t c_lexer_Name c_lexer_text)) :=
  spec_exec (X := (lexer_Text_X c_lexer_Name c_lexer_text)) (Λ := pick1 []) (rs := [.tmp 2, .tmp 3]) (c := bodyOf Tryz.f19) mixed tab_ok hΓ Tryz.func19 (by kernel_rfl) (by kernel_rfl) (by kernel_rfl) (by kernel_rfl) CutsOk_nil (fun x k r h => Eq.trans (b := (zq8s (zq8t c_lexer_Name c_lexer_text)).run x k) (by kernel_rfl) h)
end
theorem zq8vΓ : ΓOk Tryz.prog (pick1 [(16, .spec (zq2t zq39)), (32, .spec (zq7w zq8i))]) := (ΓOk_cons zq3a (ΓOk_cons zq8j ΓOk_nil))
def zq8w : zq8r := zq8t zq39 zq8i
theorem zq8x : SpecOk Tryz.prog 19 (zq8s zq8w) := zq8u zq39 zq8i zq8vΓ

/-- pagewatch/lexer.instant -/
abbrev zq8y := {β : Type} → (List UInt8) → (Int → Bool → Option β) → Option β
def zq8z (c : zq8y) : Spec :=
  ⟨[(false, [.data .str])], [], [(false, [.data (.int .i64)]), (false, [.data .bool])], [], fun x k => c x.1.1.1 (fun r0 r1 => k (((r0, ()), (r1, ()), ()), ()))⟩
section
variable (c_lexer_clock : zq54) (c_lexer_date : zq8k)
@[reducible] def lexer_instant_X : Ctx := ⟨look tab, pick1 [(41, .spec (zq55 c_lexer_clock)), (40, .spec (zq8l c_lexer_date))], false, false, false, false⟩
def zq90 {β : Type} (s : List UInt8) (k : (Int → Bool → Option β)) : Option β :=
  cond (!decide ((List.length s : Int) = (20 : Int)))
  (k (0 : Int) false)
  (cond (decide (0 ≤ (10 : Int)) && decide ((10 : Int) < (List.length s : Int)))
  (cond (!decide (((List.getD s (Int.toNat (10 : Int)) 0).toNat : Int) = (84 : Int)))
  (k (0 : Int) false)
  (cond (decide (0 ≤ (19 : Int)) && decide ((19 : Int) < (List.length s : Int)))
  (cond (!decide (((List.getD s (Int.toNat (19 : Int)) 0).toNat : Int) = (90 : Int)))
  (k (0 : Int) false)
  (cond (decide (0 ≤ (0 : Int)) && (decide ((0 : Int) ≤ (10 : Int)) && decide ((10 : Int) ≤ (List.length s : Int))))
  (c_lexer_date (List.drop (Int.toNat (0 : Int)) (List.take (Int.toNat (10 : Int)) s)) (fun (rdate : Int) (rdate2 : Bool) =>
  cond (decide (0 ≤ (11 : Int)) && (decide ((11 : Int) ≤ (19 : Int)) && decide ((19 : Int) ≤ (List.length s : Int))))
  (c_lexer_clock (List.drop (Int.toNat (11 : Int)) (List.take (Int.toNat (19 : Int)) s)) (fun (rclock : Int) (rclock2 : Bool) =>
  cond rdate2
  (cond rclock2
  (let t : Int := (IntKind.i64.wrap ((IntKind.i64.wrap (rdate * (86400 : Int))) + rclock));
  let t2 : Bool := (decide (rclock < (86400 : Int)));
  k t t2)
  (let t : Int := (IntKind.i64.wrap ((IntKind.i64.wrap (rdate * (86400 : Int))) + rclock));
  k t false))
  (let t : Int := (IntKind.i64.wrap ((IntKind.i64.wrap (rdate * (86400 : Int))) + rclock));
  k t false)))
  none))
  none))
  none))
  none)
theorem zq91 (hΓ : ΓOk Tryz.prog (lexer_instant_X c_lexer_clock c_lexer_date).Γ) : SpecOk Tryz.prog 39 (zq8z (zq90 c_lexer_clock c_lexer_date)) :=
  spec_exec (X := (lexer_instant_X c_lexer_clock c_lexer_date)) (Λ := pick1 []) (rs := [.tmp 2, .tmp 3]) (c := bodyOf Tryz.f39) mixed tab_ok hΓ Tryz.func39 (by kernel_rfl) (by kernel_rfl) (by kernel_rfl) (by kernel_rfl) CutsOk_nil (fun x k r h => Eq.trans (b := (zq8z (zq90 c_lexer_clock c_lexer_date)).run x k) (by kernel_rfl) h)
end
theorem zq92Γ : ΓOk Tryz.prog (pick1 [(41, .spec (zq55 zq5l)), (40, .spec (zq8l zq8p))]) := (ΓOk_cons zq5m (ΓOk_cons zq8q ΓOk_nil))
def zq93 : zq8y := zq90 zq5l zq8p
theorem zq94 : SpecOk Tryz.prog 39 (zq8z zq93) := zq91 zq5l zq8p zq92Γ

/-- pagewatch/lexer.form -/
abbrev zq95 := {β : Type} → (List UInt8) → (Int → Int → Bool → Option β) → Option β
def zq96 (c : zq95) : Spec :=
  ⟨[(false, [.data .str])], [], [(false, [.data (.int .i64)]), (false, [.data (.int .i64)]), (false, [.data .bool])], [], fun x k => c x.1.1.1 (fun r0 r1 r2 => k (((r0, ()), (r1, ()), (r2, ()), ()), ()))⟩
noncomputable def lexer_form_p1_code : Code := codeAt 7 (bodyOf Tryz.f21)
noncomputable def lexer_form_p2_code : Code := codeAt 215 (bodyOf Tryz.f21)
abbrev zq97 (β : Type) := Int → Int → Bool → Option β
abbrev zq98 := {β : Type} → zq97 β → (List UInt8) → Option β
def zq99 : View := ⟨0, [0], [(false, [.data .str])], []⟩
def zq9a : List (AExit × View) := [(.ret, ⟨0, [2, 3, 4], [(false, [.data (.int .i64)]), (false, [.data (.int .i64)]), (false, [.data .bool])], []⟩)]
@[reducible] def lexer_form_p1_G (p : zq98) {β : Type} (d : zq99.den) (ks : Outs.K β zq9a) : Option β :=
  p (fun a0 a1 a2 => ks.1 (((a0, ()), (a1, ()), (a2, ()), ()), ())) d.1.1.1
abbrev zq9b (β : Type) := Int → Int → Bool → Option β
abbrev zq9c (β : Type) := (List UInt8) → Option β
abbrev zq9d := {β : Type} → zq9b β → zq9c β → (List UInt8) → Bool → Option β
def zq9e : View := ⟨0, [0, 23], [(false, [.data .str]), (false, [.data .bool])], []⟩
def zq9f : List (AExit × View) := [(.ret, ⟨0, [2, 3, 4], [(false, [.data (.int .i64)]), (false, [.data (.int .i64)]), (false, [.data .bool])], []⟩), (.normal, ⟨0, [0], [(false, [.data .str])], []⟩)]
@[reducible] def lexer_form_p2_G (p : zq9d) {β : Type} (d : zq9e.den) (ks : Outs.K β zq9f) : Option β :=
  p (fun a0 a1 a2 => ks.1 (((a0, ()), (a1, ()), (a2, ()), ()), ())) (fun a0 => ks.2.1 (((a0, ()), ()), ())) d.1.1.1 d.1.2.1.1
section
variable (c_lexer_Name : zq2s) (c_lexer_clock : zq54) (c_lexer_date : zq8k) (c_lexer_instant : zq8y) (c_lexer_number : zq3b) (c_lexer_offset : zq71) (c_lexer_small : zq16) (c_strings_Contains : zq1m)
@[reducible] def lexer_form_X : Ctx := ⟨look tab, pick1 [(16, .spec (zq2t c_lexer_Name)), (41, .spec (zq55 c_lexer_clock)), (40, .spec (zq8l c_lexer_date)), (39, .spec (zq8z c_lexer_instant)), (42, .spec (zq3c c_lexer_number)), (37, .spec (zq72 c_lexer_offset)), (29, .spec (zq17 c_lexer_small)), (38, .spec (zq1n c_strings_Contains))], false, false, false, false⟩
def zq9g {β : Type} (k1 : zq97 β) (s : List UInt8) : Option β :=
  c_lexer_number s (fun (rnumber : Int) (rnumber2 : Bool) =>
  cond rnumber2
  (cond (decide (0 ≤ (0 : Int)) && decide ((0 : Int) < (List.length s : Int)))
  (cond (!decide (((List.getD s (Int.toNat (0 : Int)) 0).toNat : Int) = (48 : Int)))
  (k1 (1 : Int) rnumber true)
  (let t : Bool := (decide (s = ([48] : List UInt8)));
  k1 (1 : Int) rnumber t))
  none)
  (k1 (1 : Int) rnumber false))
def zq9h {β : Type} (k1 : zq97 β) (s : List UInt8) : Option β := zq9g c_lexer_number k1 s
theorem zq9i (hΓ : ΓOk Tryz.prog (lexer_form_X c_lexer_Name c_lexer_clock c_lexer_date c_lexer_instant c_lexer_number c_lexer_offset c_lexer_small c_strings_Contains).Γ) : PieceOk Tryz.prog 83 0 lexer_form_p1_code zq99 zq9a (lexer_form_p1_G (zq9h c_lexer_number)) :=
  piece_exec (X := (lexer_form_X c_lexer_Name c_lexer_clock c_lexer_date c_lexer_instant c_lexer_number c_lexer_offset c_lexer_small c_strings_Contains)) (p := 7) (Λ := pick1 []) mixed tab_ok hΓ (by kernel_rfl) CutsOk_nil (fun d ks r h => Eq.trans (b := lexer_form_p1_G (zq9h c_lexer_number) d ks) (by kernel_rfl) h)
def zq9j {β : Type} (k1 : zq9b β) (k2 : zq9c β) (s : List UInt8) (t23 : Bool) : Option β :=
  cond t23
  (c_lexer_offset s (fun (roffset : Int) (roffset2 : Bool) =>
  k1 (4 : Int) roffset roffset2))
  (c_strings_Contains s ([84] : List UInt8) (fun (rContains : Bool) =>
  cond rContains
  (c_lexer_instant s (fun (rinstant : Int) (rinstant2 : Bool) =>
  k1 (5 : Int) rinstant rinstant2))
  (c_strings_Contains s ([45] : List UInt8) (fun (rContains2 : Bool) =>
  cond rContains2
  (c_lexer_date s (fun (rdate : Int) (rdate2 : Bool) =>
  k1 (3 : Int) rdate rdate2))
  (c_strings_Contains s ([58] : List UInt8) (fun (rContains3 : Bool) =>
  cond rContains3
  (c_lexer_clock s (fun (rclock : Int) (rclock2 : Bool) =>
  k1 (2 : Int) rclock rclock2))
  (k2 s)))))))
def zq9k {β : Type} (k1 : zq9b β) (k2 : zq9c β) (s : List UInt8) (t23 : Bool) : Option β := zq9j c_lexer_clock c_lexer_date c_lexer_instant c_lexer_offset c_strings_Contains k1 k2 s t23
theorem zq9l (hΓ : ΓOk Tryz.prog (lexer_form_X c_lexer_Name c_lexer_clock c_lexer_date c_lexer_instant c_lexer_number c_lexer_offset c_lexer_small c_strings_Contains).Γ) : PieceOk Tryz.prog 83 0 lexer_form_p2_code zq9e zq9f (lexer_form_p2_G (zq9k c_lexer_clock c_lexer_date c_lexer_instant c_lexer_offset c_strings_Contains)) :=
  piece_exec (X := (lexer_form_X c_lexer_Name c_lexer_clock c_lexer_date c_lexer_instant c_lexer_number c_lexer_offset c_lexer_small c_strings_Contains)) (p := 215) (Λ := pick1 []) mixed tab_ok hΓ (by kernel_rfl) CutsOk_nil (fun d ks r h => Eq.trans (b := lexer_form_p2_G (zq9k c_lexer_clock c_lexer_date c_lexer_instant c_lexer_offset c_strings_Contains) d ks) (by kernel_rfl) h)
def zq9m (p1 : zq98) (p2 : zq9d) {β : Type} (s : List UInt8) (k : (Int → Int → Bool → Option β)) : Option β :=
  cond (decide (0 ≤ (0 : Int)) && decide ((0 : Int) < (List.length s : Int)))
  (let c : Int := ((List.getD s (Int.toNat (0 : Int)) 0).toNat : Int);
  c_lexer_small c (fun (rsmall : Bool) =>
  cond rsmall
  (c_lexer_Name s (fun (rName : Bool) =>
  k (0 : Int) (0 : Int) rName))
  (cond (decide (c = (43 : Int)))
  (p2 (fun (t2 : Int) (t3 : Int) (t4 : Bool) =>
  k t2 t3 t4) (fun (s2 : List UInt8) =>
  p1 (fun (t2 : Int) (t3 : Int) (t4 : Bool) =>
  k t2 t3 t4) s2) s true)
  (let t : Bool := (decide (c = (45 : Int)));
  p2 (fun (t2 : Int) (t3 : Int) (t4 : Bool) =>
  k t2 t3 t4) (fun (s2 : List UInt8) =>
  p1 (fun (t2 : Int) (t3 : Int) (t4 : Bool) =>
  k t2 t3 t4) s2) s t))))
  none
theorem zq9n (hΓ : ΓOk Tryz.prog (lexer_form_X c_lexer_Name c_lexer_clock c_lexer_date c_lexer_instant c_lexer_number c_lexer_offset c_lexer_small c_strings_Contains).Γ) (p1 : zq98) (p2 : zq9d) (hp1 : PieceOk Tryz.prog 83 0 lexer_form_p1_code zq99 zq9a (lexer_form_p1_G p1)) (hp2 : PieceOk Tryz.prog 83 0 lexer_form_p2_code zq9e zq9f (lexer_form_p2_G p2)) : SpecOk Tryz.prog 21 (zq96 (zq9m c_lexer_Name c_lexer_small p1 p2)) :=
  spec_exec (X := (lexer_form_X c_lexer_Name c_lexer_clock c_lexer_date c_lexer_instant c_lexer_number c_lexer_offset c_lexer_small c_strings_Contains)) (Λ := pick1 [(7, pieceCut zq99 zq9a (lexer_form_p1_G p1)), (215, pieceCut zq9e zq9f (lexer_form_p2_G p2))]) (rs := [.tmp 2, .tmp 3, .tmp 4]) (c := bodyOf Tryz.f21) mixed tab_ok hΓ Tryz.func21 (by kernel_rfl) (by kernel_rfl) (by kernel_rfl) (by kernel_rfl) (CutsOk_cons (q := 7) (c' := lexer_form_p1_code) (by kernel_rfl) rfl hp1 (CutsOk_cons (q := 215) (c' := lexer_form_p2_code) (by kernel_rfl) rfl hp2 CutsOk_nil)) (fun x k r h => Eq.trans (b := (zq96 (zq9m c_lexer_Name c_lexer_small p1 p2)).run x k) (by kernel_rfl) h)
end
theorem zq9oΓ : ΓOk Tryz.prog (pick1 [(16, .spec (zq2t zq39)), (41, .spec (zq55 zq5l)), (40, .spec (zq8l zq8p)), (39, .spec (zq8z zq93)), (42, .spec (zq3c zq3s)), (37, .spec (zq72 zq7f)), (29, .spec (zq17 zq1b)), (38, .spec (zq1n zq1o))]) := (ΓOk_cons zq3a (ΓOk_cons zq5m (ΓOk_cons zq8q (ΓOk_cons zq94 (ΓOk_cons zq3t (ΓOk_cons zq7g (ΓOk_cons zq1c (ΓOk_cons zq1p ΓOk_nil))))))))
def zq9p : zq98 := zq9h zq3s
theorem zq9q : PieceOk Tryz.prog 83 0 lexer_form_p1_code zq99 zq9a (lexer_form_p1_G zq9p) := zq9i zq39 zq5l zq8p zq93 zq3s zq7f zq1b zq1o zq9oΓ
def zq9r : zq9d := zq9k zq5l zq8p zq93 zq7f zq1o
theorem zq9s : PieceOk Tryz.prog 83 0 lexer_form_p2_code zq9e zq9f (lexer_form_p2_G zq9r) := zq9l zq39 zq5l zq8p zq93 zq3s zq7f zq1b zq1o zq9oΓ
def zq9t : zq95 := zq9m zq39 zq1b zq9p zq9r
theorem zq9u : SpecOk Tryz.prog 21 (zq96 zq9t) := zq9n zq39 zq5l zq8p zq93 zq3s zq7f zq1b zq1o zq9oΓ zq9p zq9r zq9q zq9s

/-- pagewatch/lexer.Token -/
abbrev zq9v := {β : Type} → (List UInt8) → (zq0 → Int → Option β) → Option β
def zq9w (c : zq9v) : Spec :=
  ⟨[(false, [.data .str])], [], [(true, [.data zq1]), (false, [.data (.int .i64)])], [], fun x k => c x.1.1.1 (fun r0 r1 => k (((r0, ()), (r1, ()), ()), ()))⟩
section
variable (c_lexer_form : zq95)
@[reducible] def lexer_Token_X : Ctx := ⟨look tab, pick1 [(21, .spec (zq96 c_lexer_form))], false, false, false, false⟩
def zq9x {β : Type} (word : List UInt8) (k : (zq0 → Int → Option β)) : Option β :=
  cond (decide (word = ([] : List UInt8)))
  (k ((0 : Int), (([] : List UInt8), (0 : Int))) (2 : Int))
  (c_lexer_form word (fun (rform : Int) (rform2 : Int) (rform3 : Bool) =>
  cond (!rform3)
  (k ((0 : Int), (([] : List UInt8), (0 : Int))) (2 : Int))
  (let t : Bool := (decide (rform = (0 : Int)));
  cond t
  (k (rform, (word, (0 : Int))) (0 : Int))
  (k (rform, (([] : List UInt8), rform2)) (0 : Int)))))
theorem zq9y (hΓ : ΓOk Tryz.prog (lexer_Token_X c_lexer_form).Γ) : SpecOk Tryz.prog 11 (zq9w (zq9x c_lexer_form)) :=
  spec_exec (X := (lexer_Token_X c_lexer_form)) (Λ := pick1 []) (rs := [.cell 2 23, .tmp 3]) (c := bodyOf Tryz.f11) mixed tab_ok hΓ Tryz.func11 (by kernel_rfl) (by kernel_rfl) (by kernel_rfl) (by kernel_rfl) CutsOk_nil (fun x k r h => Eq.trans (b := (zq9w (zq9x c_lexer_form)).run x k) (by kernel_rfl) h)
end
theorem zq9zΓ : ΓOk Tryz.prog (pick1 [(21, .spec (zq96 zq9t))]) := (ΓOk_cons zq9u ΓOk_nil)
def zqa0 : zq9v := zq9x zq9t
theorem zqa1 : SpecOk Tryz.prog 11 (zq9w zqa0) := zq9y zq9t zq9zΓ

/-- pagewatch/lexer.Line -/
abbrev zqa2 := {β : Type} → (List UInt8) → (Int → (List zq0) → Option β) → Option β
def zqa3 (c : zqa2) : Spec :=
  ⟨[(false, [.data .str])], [], [(false, [.rowh 0]), (false, [.data (.int .i64)])], [.row 23 zq1], fun x k => c x.1.1.1 (fun r0 r1 => k (((), (r0, ()), ()), (r1, ())))⟩
noncomputable def lexer_Line_p1_code : Code := codeAt 58 (bodyOf Tryz.f13)
noncomputable def lexer_Line_p2_code : Code := codeAt 506 (bodyOf Tryz.f13)
abbrev zqa4 (β : Type) := Int → (List zq0) → Option β
abbrev zqa5 (β : Type) := (List UInt8) → Option β
abbrev zqa6 := {β : Type} → zqa4 β → zqa5 β → (List UInt8) → Int → Int → Option β
def zqa7 : View := ⟨0, [0, 14, 15], [(false, [.data .str]), (false, [.data (.int .i64)]), (false, [.data (.int .i64)])], []⟩
def zqa8 : List (AExit × View) := [(.ret, ⟨0, [2, 3], [(false, [.rowh 0]), (false, [.data (.int .i64)])], [.row 23 zq1]⟩), (.exit 0, ⟨0, [0], [(false, [.data .str])], []⟩)]
@[reducible] def lexer_Line_p1_G (p : zqa6) {β : Type} (d : zqa7.den) (ks : Outs.K β zqa8) : Option β :=
  p (fun a0 a1 => ks.1 (((), (a0, ()), ()), (a1, ()))) (fun a0 => ks.2.1 (((a0, ()), ()), ())) d.1.1.1 d.1.2.1.1 d.1.2.2.1.1
abbrev zqa9 (β : Type) := Int → (List zq0) → Option β
abbrev zqaa (β : Type) := (List zq0) → Option β
abbrev zqab := {β : Type} → zqa9 β → zqaa β → Int → Int → (List zq0) → (List (List UInt8)) → Option β
def zqac : View := ⟨0, [5, 36, 37, 38], [(false, [.rowh 0]), (false, [.rowh 1]), (false, [.data (.int .i64)]), (false, [.data (.int .i64)])], [.row 23 zq1, .row 9 .str]⟩
def zqad : List (AExit × View) := [(.ret, ⟨0, [2, 3], [(false, [.rowh 0]), (false, [.data (.int .i64)])], [.row 23 zq1]⟩), (.exit 2, ⟨0, [5], [(false, [.rowh 0])], [.row 23 zq1]⟩)]
@[reducible] def lexer_Line_p2_G (p : zqab) {β : Type} (d : zqac.den) (ks : Outs.K β zqad) : Option β :=
  p (fun a0 a1 => ks.1 (((), (a0, ()), ()), (a1, ()))) (fun a0 => ks.2.1 (((), ()), (a0, ()))) d.1.2.2.1.1 d.1.2.2.2.1.1 d.2.1 d.2.2.1
section
variable (c_lexer_Token : zq9v) (c_strings_Cut : zqw) (c_strings_Fields : zq12)
@[reducible] def lexer_Line_X : Ctx := ⟨look tab, pick1 [(11, .spec (zq9w c_lexer_Token)), (26, .spec (zqx c_strings_Cut)), (27, .spec (zq13 c_strings_Fields))], false, false, false, false⟩
def zqae {β : Type} (rec : (List UInt8) → Int → Int → Option β) (k1 : zqa4 β) (k2 : zqa5 β) (text : List UInt8) (t14 : Int) (t15 : Int) : Option β :=
  cond (decide (t15 < t14))
  (cond (decide (0 ≤ t15) && decide (t15 < (List.length text : Int)))
  (cond (decide (((List.getD text (Int.toNat t15) 0).toNat : Int) < (32 : Int)))
  (k1 (2 : Int) ([] : List zq0))
  (cond (decide (0 ≤ t15) && decide (t15 < (List.length text : Int)))
  (cond (decide ((126 : Int) < ((List.getD text (Int.toNat t15) 0).toNat : Int)))
  (k1 (2 : Int) ([] : List zq0))
  (rec text t14 (IntKind.i64.wrap (t15 + (1 : Int)))))
  none))
  none)
  (k2 text)
def zqaf {β : Type} : Nat → zqa4 β → zqa5 β → (List UInt8) → Int → Int → Option β
  | 0 => fun _ _ _ _ _ => none
  | i + 1 => fun k1 k2 text t14 t15 => zqae (zqaf i k1 k2) k1 k2 text t14 t15
theorem zqag (hΓ : ΓOk Tryz.prog (lexer_Line_X c_lexer_Token c_strings_Cut c_strings_Fields).Γ) (i : Nat) : PieceOk Tryz.prog 56 0 lexer_Line_p1_code zqa7 zqa8 (lexer_Line_p1_G (zqaf i)) := by
  rw [show lexer_Line_p1_code = .loop (loopBody lexer_Line_p1_code) by kernel_rfl]
  exact piece_loop (X := (lexer_Line_X c_lexer_Token c_strings_Cut c_strings_Fields)) (p := 1) (Λ := pick1 []) (G := fun i => @fun β d ks => lexer_Line_p1_G (zqaf i) d ks) mixed tab_ok hΓ rfl (by kernel_rfl) CutsOk_nil (fun _ _ => rfl) (fun i => @fun β d ks r h => Eq.trans (b := lexer_Line_p1_G (zqaf (i + 1)) d ks) (by kernel_rfl) h) i
def zqah {β : Type} (rec : Int → Int → (List zq0) → (List (List UInt8)) → Option β) (k1 : zqa9 β) (k2 : zqaa β) (t37 : Int) (t38 : Int) (out : List zq0) (t36 : List (List UInt8)) : Option β :=
  cond (decide (t38 < t37))
  (cond (decide (0 ≤ t38) && decide (t38 < (List.length t36 : Int)))
  (let w : List UInt8 := (List.getD t36 (Int.toNat t38) ([] : List UInt8));
  c_lexer_Token w (fun (rToken : zq0) (rToken2 : Int) =>
  cond (!decide (rToken2 = (0 : Int)))
  (k1 rToken2 ([] : List zq0))
  (let l : List zq0 := ([rToken] : List zq0);
  cond (decide ((List.length out + List.length l) * 32 ≤ roomMax))
  (let l2 : List zq0 := (out ++ l);
  rec t37 (IntKind.i64.wrap (t38 + (1 : Int))) l2 t36)
  none)))
  none)
  (k2 out)
def zqai {β : Type} : Nat → zqa9 β → zqaa β → Int → Int → (List zq0) → (List (List UInt8)) → Option β
  | 0 => fun _ _ _ _ _ _ => none
  | i + 1 => fun k1 k2 t37 t38 out t36 => zqah c_lexer_Token (zqai i k1 k2) k1 k2 t37 t38 out t36
theorem zqaj (hΓ : ΓOk Tryz.prog (lexer_Line_X c_lexer_Token c_strings_Cut c_strings_Fields).Γ) (i : Nat) : PieceOk Tryz.prog 56 0 lexer_Line_p2_code zqac zqad (lexer_Line_p2_G (zqai c_lexer_Token i)) := by
  rw [show lexer_Line_p2_code = .loop (loopBody lexer_Line_p2_code) by kernel_rfl]
  exact piece_loop (X := (lexer_Line_X c_lexer_Token c_strings_Cut c_strings_Fields)) (p := 1) (Λ := pick1 []) (G := fun i => @fun β d ks => lexer_Line_p2_G (zqai c_lexer_Token i) d ks) mixed tab_ok hΓ rfl (by kernel_rfl) CutsOk_nil (fun _ _ => rfl) (fun i => @fun β d ks r h => Eq.trans (b := lexer_Line_p2_G (zqai c_lexer_Token (i + 1)) d ks) (by kernel_rfl) h) i
def zqak (p1 : zqa6) (p2 : zqab) {β : Type} (text : List UInt8) (k : (Int → (List zq0) → Option β)) : Option β :=
  cond (decide ((512 : Int) < (List.length text : Int)))
  (k (5 : Int) ([] : List zq0))
  (p1 (fun (t3 : Int) (t2 : List zq0) =>
  k t3 t2) (fun (text2 : List UInt8) =>
  c_strings_Cut text2 ([35] : List UInt8) (fun (rCut : List UInt8) (rCut2 : List UInt8) (rCut3 : Bool) =>
  c_strings_Fields rCut (fun (lrFields : List (List UInt8)) =>
  p2 (fun (t3 : Int) (t2 : List zq0) =>
  k t3 t2) (fun (out : List zq0) =>
  k (0 : Int) out) (List.length lrFields : Int) (0 : Int) ([] : List zq0) lrFields))) text (List.length text : Int) (0 : Int))
theorem zqal (hΓ : ΓOk Tryz.prog (lexer_Line_X c_lexer_Token c_strings_Cut c_strings_Fields).Γ) (p1 : zqa6) (p2 : zqab) (hp1 : PieceOk Tryz.prog 56 0 lexer_Line_p1_code zqa7 zqa8 (lexer_Line_p1_G p1)) (hp2 : PieceOk Tryz.prog 56 0 lexer_Line_p2_code zqac zqad (lexer_Line_p2_G p2)) : SpecOk Tryz.prog 13 (zqa3 (zqak c_strings_Cut c_strings_Fields p1 p2)) :=
  spec_exec (X := (lexer_Line_X c_lexer_Token c_strings_Cut c_strings_Fields)) (Λ := pick1 [(58, pieceCut zqa7 zqa8 (lexer_Line_p1_G p1)), (506, pieceCut zqac zqad (lexer_Line_p2_G p2))]) (rs := [.tmp 2, .tmp 3]) (c := bodyOf Tryz.f13) mixed tab_ok hΓ Tryz.func13 (by kernel_rfl) (by kernel_rfl) (by kernel_rfl) (by kernel_rfl) (CutsOk_cons (q := 58) (c' := lexer_Line_p1_code) (by kernel_rfl) rfl hp1 (CutsOk_cons (q := 506) (c' := lexer_Line_p2_code) (by kernel_rfl) rfl hp2 CutsOk_nil)) (fun x k r h => Eq.trans (b := (zqa3 (zqak c_strings_Cut c_strings_Fields p1 p2)).run x k) (by kernel_rfl) h)
end
theorem zqamΓ : ΓOk Tryz.prog (pick1 [(11, .spec (zq9w zqa0)), (26, .spec (zqx zqy)), (27, .spec (zq13 zq14))]) := (ΓOk_cons zqa1 (ΓOk_cons zqz (ΓOk_cons zq15 ΓOk_nil)))
def zqan (m : Nat) : zqa6 := zqaf m
theorem zqao {β : Type} (i : Nat) (k1 k2 text t14 t15) : (zqan (i + 1) k1 k2 text t14 t15 : Option β) = zqae (zqan i k1 k2) k1 k2 text t14 t15 := rfl
def zqap : zqa6 := zqan fuel
theorem zqaq : PieceOk Tryz.prog 56 0 lexer_Line_p1_code zqa7 zqa8 (lexer_Line_p1_G zqap) := zqag zqa0 zqy zq14 zqamΓ fuel
def zqar (m : Nat) : zqab := zqai zqa0 m
theorem zqas {β : Type} (i : Nat) (k1 k2 t37 t38 out t36) : (zqar (i + 1) k1 k2 t37 t38 out t36 : Option β) = zqah zqa0 (zqar i k1 k2) k1 k2 t37 t38 out t36 := rfl
def zqat : zqab := zqar fuel
theorem zqau : PieceOk Tryz.prog 56 0 lexer_Line_p2_code zqac zqad (lexer_Line_p2_G zqat) := zqaj zqa0 zqy zq14 zqamΓ fuel
def zqav : zqa2 := zqak zqy zq14 zqap zqat
theorem zqaw : SpecOk Tryz.prog 13 (zqa3 zqav) := zqal zqa0 zqy zq14 zqamΓ zqap zqat zqaq zqau

/-- pagewatch/pagewatchlaw06.sane -/
abbrev zqax := {β : Type} → (Bool → Option β) → Option β
def zqay (c : zqax) : Spec :=
  ⟨[], [], [(false, [.data .bool])], [], fun x k => c  (fun r0 => k (((r0, ()), ()), ()))⟩
section
variable (c_lexer_Line : zqa2) (c_lexer_Text : zq8r) (c_lexer_Token : zq9v)
@[reducible] def law06_sane_X : Ctx := ⟨look tab, pick1 [(13, .spec (zqa3 c_lexer_Line)), (19, .spec (zq8s c_lexer_Text)), (11, .spec (zq9w c_lexer_Token))], false, false, false, false⟩
def zqaz {β : Type} (k : (Bool → Option β)) : Option β :=
  c_lexer_Token ([50, 48, 50, 54, 45, 48, 51, 45, 50, 57, 84, 48, 49, 58, 48, 48, 58, 48, 48, 90] : List UInt8) (fun (rToken : zq0) (rToken2 : Int) =>
  c_lexer_Token ([50, 52, 58, 48, 48] : List UInt8) (fun (rToken3 : zq0) (rToken4 : Int) =>
  c_lexer_Token ([50, 52, 58, 48, 49] : List UInt8) (fun (rToken5 : zq0) (rToken6 : Int) =>
  c_lexer_Line ([97, 32, 35, 32, 98] : List UInt8) (fun (rLine : Int) (lrLine : List zq0) =>
  c_lexer_Text ((4 : Int), (([] : List UInt8), (-5400 : Int))) (fun (rText : List UInt8) (rText2 : Int) =>
  cond (decide (rToken2 = (0 : Int)))
  (cond (decide (rToken4 = (0 : Int)))
  (cond (decide (rToken6 = (2 : Int)))
  (cond (decide (rLine = (0 : Int)))
  (cond (decide (rText2 = (0 : Int)))
  (cond (decide (rToken.1 = (5 : Int)) && (decide (rToken.2.1 = ([] : List UInt8)) && (decide (rToken.2.2 = (1774746000 : Int)) && true)))
  (cond (decide (rToken3.2.2 = (86400 : Int)))
  (cond (decide ((List.length lrLine : Int) = (1 : Int)))
  (let t : Bool := (decide (rText = ([45, 48, 49, 58, 51, 48] : List UInt8)));
  k t)
  (k false))
  (k false))
  (k false))
  (k false))
  (k false))
  (k false))
  (k false))
  (k false))))))
theorem zqb0 (hΓ : ΓOk Tryz.prog (law06_sane_X c_lexer_Line c_lexer_Text c_lexer_Token).Γ) : SpecOk Tryz.prog 7 (zqay (zqaz c_lexer_Line c_lexer_Text c_lexer_Token)) :=
  spec_exec (X := (law06_sane_X c_lexer_Line c_lexer_Text c_lexer_Token)) (Λ := pick1 []) (rs := [.tmp 0]) (c := bodyOf Tryz.f7) mixed tab_ok hΓ Tryz.func7 (by kernel_rfl) (by kernel_rfl) (by kernel_rfl) (by kernel_rfl) CutsOk_nil (fun x k r h => Eq.trans (b := (zqay (zqaz c_lexer_Line c_lexer_Text c_lexer_Token)).run x k) (by kernel_rfl) h)
end
theorem zqb1Γ : ΓOk Tryz.prog (pick1 [(13, .spec (zqa3 zqav)), (19, .spec (zq8s zq8w)), (11, .spec (zq9w zqa0))]) := (ΓOk_cons zqaw (ΓOk_cons zq8x (ΓOk_cons zqa1 ΓOk_nil)))
def zqb2 : zqax := zqaz zqav zq8w zqa0
theorem zqb3 : SpecOk Tryz.prog 7 (zqay zqb2) := zqb0 zqav zq8w zqa0 zqb1Γ

/-- pagewatch/pagewatchlaw06.LexerBack -/
abbrev zqb4 := {β : Type} → (List Int) → (Bool → Option β) → Option β
def zqb5 (c : zqb4) : Spec :=
  ⟨[(false, [.data (.slice (.int .i64))])], [], [(false, [.data .bool])], [], fun x k => c x.1.1.1 (fun r0 => k (((r0, ()), ()), ()))⟩
noncomputable def law06_LexerBack_p1_code : Code := codeAt 250 (bodyOf Tryz.f4)
abbrev zqb6 (β : Type) := Bool → Option β
abbrev zqb7 (β : Type) := Unit → Option β
abbrev zqb8 := {β : Type} → zqb6 β → zqb7 β → Int → (List Int) → Int → (List (List UInt8)) → Option β
def zqb9 : View := ⟨0, [3, 4, 5], [(false, [.ptr 0 0]), (false, [.rowh 1]), (false, [.data (.int .i64)])], [.cells 48 [.data (.slice (.int .i64)), .data (.int .i64)], .row 9 .str]⟩
def zqba : List (AExit × View) := [(.ret, ⟨0, [2], [(false, [.data .bool])], []⟩), (.exit 0, ⟨0, [], [], []⟩)]
@[reducible] def law06_LexerBack_p1_G (p : zqb8) {β : Type} (d : zqb9.den) (ks : Outs.K β zqba) : Option β :=
  p (fun a0 => ks.1 (((a0, ()), ()), ())) (fun _ => ks.2.1 ((), ())) d.1.2.2.1.1 d.2.1.1 d.2.1.2.1 d.2.2.1
section
variable (c_law06_sane : zqax) (c_law06_words : zqn) (c_lexer_Text : zq8r) (c_lexer_Token : zq9v) (c_made_Dice_Next : zqg) (c_made_Light : zq2) (c_made_Roll : zq9)
@[reducible] def law06_LexerBack_X : Ctx := ⟨look tab, pick1 [(7, .spec (zqay c_law06_sane)), (10, .spec (zqo c_law06_words)), (19, .spec (zq8s c_lexer_Text)), (11, .spec (zq9w c_lexer_Token)), (9, .spec (zqh c_made_Dice_Next)), (6, .spec (zq3 c_made_Light)), (8, .spec (zqa c_made_Roll))], false, false, false, false⟩
def zqbb {β : Type} (rec : Int → (List Int) → Int → (List (List UInt8)) → Option β) (k1 : zqb6 β) (k2 : zqb7 β) (i_ : Int) (d : List Int) (d2 : Int) (l : List (List UInt8)) : Option β :=
  cond (decide (i_ < (10 : Int)))
  (c_made_Dice_Next (List.length l : Int) (d, d2) (fun (rNext : Int) (mrNext : (List Int × Int)) =>
  cond (decide (0 ≤ rNext) && decide (rNext < (List.length l : Int)))
  (let w : List UInt8 := (List.getD l (Int.toNat rNext) ([] : List UInt8));
  c_lexer_Token w (fun (rToken : zq0) (rToken2 : Int) =>
  cond (!decide (rToken2 = (0 : Int)))
  (cond (!decide (rToken2 = (2 : Int)))
  (k1 false)
  (let i_2 : Int := (IntKind.i64.wrap (i_ + (1 : Int)));
  rec i_2 mrNext.1 mrNext.2 l))
  (c_lexer_Text rToken (fun (rText : List UInt8) (rText2 : Int) =>
  c_lexer_Token rText (fun (rToken3 : zq0) (rToken4 : Int) =>
  cond (!decide (rText2 = (0 : Int)))
  (k1 false)
  (cond (!decide (rToken4 = (0 : Int)))
  (k1 false)
  (cond (!(decide (rToken3.1 = rToken.1) && (decide (rToken3.2.1 = rToken.2.1) && (decide (rToken3.2.2 = rToken.2.2) && true))))
  (k1 false)
  (cond (decide ((List.length w : Int) < (List.length rText : Int)))
  (k1 false)
  (let i_2 : Int := (IntKind.i64.wrap (i_ + (1 : Int)));
  rec i_2 mrNext.1 mrNext.2 l)))))))))
  none))
  (k2 ())
def zqbc {β : Type} : Nat → zqb6 β → zqb7 β → Int → (List Int) → Int → (List (List UInt8)) → Option β
  | 0 => fun _ _ _ _ _ _ => none
  | i + 1 => fun k1 k2 i_ d d2 l => zqbb c_lexer_Text c_lexer_Token c_made_Dice_Next (zqbc i k1 k2) k1 k2 i_ d d2 l
theorem zqbd (hΓ : ΓOk Tryz.prog (law06_LexerBack_X c_law06_sane c_law06_words c_lexer_Text c_lexer_Token c_made_Dice_Next c_made_Light c_made_Roll).Γ) (i : Nat) : PieceOk Tryz.prog 69 0 law06_LexerBack_p1_code zqb9 zqba (law06_LexerBack_p1_G (zqbc c_lexer_Text c_lexer_Token c_made_Dice_Next i)) := by
  rw [show law06_LexerBack_p1_code = .loop (loopBody law06_LexerBack_p1_code) by kernel_rfl]
  exact piece_loop (X := (law06_LexerBack_X c_law06_sane c_law06_words c_lexer_Text c_lexer_Token c_made_Dice_Next c_made_Light c_made_Roll)) (p := 1) (Λ := pick1 []) (G := fun i => @fun β d ks => law06_LexerBack_p1_G (zqbc c_lexer_Text c_lexer_Token c_made_Dice_Next i) d ks) mixed tab_ok hΓ rfl (by kernel_rfl) CutsOk_nil (fun _ _ => rfl) (fun i => @fun β d ks r h => Eq.trans (b := law06_LexerBack_p1_G (zqbc c_lexer_Text c_lexer_Token c_made_Dice_Next (i + 1)) d ks) (by kernel_rfl) h) i
def zqbe (p1 : zqb8) {β : Type} (t : List Int) (k : (Bool → Option β)) : Option β :=
  c_made_Light t (fun (rLight : Bool) =>
  cond (!rLight)
  (c_law06_sane  (fun (rsane : Bool) =>
  k rsane))
  (c_made_Roll t (fun (mrRoll : (List Int × Int)) =>
  c_law06_words  (fun (lrwords : List (List UInt8)) =>
  p1 (fun (t2 : Bool) =>
  k t2) (fun (_ : Unit) =>
  c_law06_sane  (fun (rsane : Bool) =>
  k rsane)) (0 : Int) mrRoll.1 mrRoll.2 lrwords))))
theorem zqbf (hΓ : ΓOk Tryz.prog (law06_LexerBack_X c_law06_sane c_law06_words c_lexer_Text c_lexer_Token c_made_Dice_Next c_made_Light c_made_Roll).Γ) (p1 : zqb8) (hp1 : PieceOk Tryz.prog 69 0 law06_LexerBack_p1_code zqb9 zqba (law06_LexerBack_p1_G p1)) : SpecOk Tryz.prog 4 (zqb5 (zqbe c_law06_sane c_law06_words c_made_Light c_made_Roll p1)) :=
  spec_exec (X := (law06_LexerBack_X c_law06_sane c_law06_words c_lexer_Text c_lexer_Token c_made_Dice_Next c_made_Light c_made_Roll)) (Λ := pick1 [(250, pieceCut zqb9 zqba (law06_LexerBack_p1_G p1))]) (rs := [.tmp 2]) (c := bodyOf Tryz.f4) mixed tab_ok hΓ Tryz.func4 (by kernel_rfl) (by kernel_rfl) (by kernel_rfl) (by kernel_rfl) (CutsOk_cons (q := 250) (c' := law06_LexerBack_p1_code) (by kernel_rfl) rfl hp1 CutsOk_nil) (fun x k r h => Eq.trans (b := (zqb5 (zqbe c_law06_sane c_law06_words c_made_Light c_made_Roll p1)).run x k) (by kernel_rfl) h)
end
theorem zqbgΓ : ΓOk Tryz.prog (pick1 [(7, .spec (zqay zqb2)), (10, .spec (zqo zqs)), (19, .spec (zq8s zq8w)), (11, .spec (zq9w zqa0)), (9, .spec (zqh zql)), (6, .spec (zq3 zq7)), (8, .spec (zqa zqe))]) := (ΓOk_cons zqb3 (ΓOk_cons zqt (ΓOk_cons zq8x (ΓOk_cons zqa1 (ΓOk_cons zqm (ΓOk_cons zq8 (ΓOk_cons zqf ΓOk_nil)))))))
def zqbh (m : Nat) : zqb8 := zqbc zq8w zqa0 zql m
theorem zqbi {β : Type} (i : Nat) (k1 k2 i_ d d2 l) : (zqbh (i + 1) k1 k2 i_ d d2 l : Option β) = zqbb zq8w zqa0 zql (zqbh i k1 k2) k1 k2 i_ d d2 l := rfl
def zqbj : zqb8 := zqbh fuel
theorem zqbk : PieceOk Tryz.prog 69 0 law06_LexerBack_p1_code zqb9 zqba (law06_LexerBack_p1_G zqbj) := zqbd zqb2 zqs zq8w zqa0 zql zq7 zqe zqbgΓ fuel
def zqbl : zqb4 := zqbe zqb2 zqs zq7 zqe zqbj
theorem zqbm : SpecOk Tryz.prog 4 (zqb5 zqbl) := zqbf zqb2 zqs zq8w zqa0 zql zq7 zqe zqbgΓ zqbj zqbk
end
end Go.Lift
/- Plain lemmas about functional forms: tests that are known, loops. -/
namespace Go.Lift
open Go.RowKit Go.IntWalk

section
variable {β : Type}
/-! ### Tests -/
theorem c_inb {i n : Int} {a b : Option β} (h : 0 ≤ i ∧ i < n) : cond (decide (0 ≤ i) && decide (i < n)) a b = a := by
  rw [decide_eq_true h.1, decide_eq_true h.2]; rfl
theorem c_pos {p : Prop} [Decidable p] {a b : Option β} (h : p) : cond (decide p) a b = a := by rw [decide_eq_true h]; rfl
theorem c_neg {p : Prop} [Decidable p] {a b : Option β} (h : ¬ p) : cond (decide p) a b = b := by rw [decide_eq_false h]; rfl
theorem c_npos {p : Prop} [Decidable p] {a b : Option β} (h : p) : cond (!decide p) a b = b := by rw [decide_eq_true h]; rfl
theorem c_nneg {p : Prop} [Decidable p] {a b : Option β} (h : ¬ p) : cond (!decide p) a b = a := by rw [decide_eq_false h]; rfl
/-! ### Loops over the numbers from 0 on -/
end
end Go.Lift

/- The dice in plain Lean. -/
namespace Go.Lift
open Go.RowKit Go.IntWalk
noncomputable section
set_option linter.unusedVariables false
set_option linter.unusedSimpArgs false

abbrev Dice := List Int × Int
def DiceOk (d : Dice) : Prop := 0 ≤ d.2 ∧ d.2 ≤ d.1.length ∧ d.1.length ≤ 500

theorem light_eq {β : Type} (l : List Int) (k : Bool → Option β) : zq7 l k = k (decide ((l.length : Int) ≤ 500)) := by
  simp only [zq7, zq4]
theorem roll_eq {β : Type} (l : List Int) (k : Dice → Option β) : zqe l k = k (l, 0) := by
  simp only [zqe, zqb]
theorem roll_ok {l : List Int} (h : (l.length : Int) ≤ 500) : DiceOk (l, 0) := ⟨by simp, by simp, by show l.length ≤ 500; omega⟩

theorem next_ok {n : Int} {d : Dice} (hd : DiceOk d) (hn : 1 ≤ n ∧ n ≤ 4611686018427387904) :
    ∃ x d', 0 ≤ x ∧ x < n ∧ DiceOk d' ∧ ∀ {β : Type} (k : Int → Dice → Option β), zql n d k = k x d' := by
  obtain ⟨h1, h2, h3⟩ := hd
  by_cases ha : (d.1.length : Int) ≤ d.2
  · exact ⟨0, d, by omega, by omega, ⟨h1, h2, h3⟩, fun k => by simp (disch := omega) only [zql, zqi, c_pos]⟩
  · generalize hv : List.getD d.1 (Int.toNat d.2) (0 : Int) = v
    have hm1 := Int.tmod_lt_of_pos v (show 0 < n by omega)
    have hm2 : -n < Int.tmod v n := by
      have h5 := Int.tmod_lt_of_pos (-v) (show 0 < n by omega)
      rw [Int.neg_tmod] at h5
      omega
    have hd' : DiceOk (d.1, d.2 + 1) := ⟨by show (0 : Int) ≤ d.2 + 1; omega, by show d.2 + 1 ≤ (d.1.length : Int); omega, h3⟩
    by_cases hc : Int.tmod v n < 0
    · refine ⟨Int.tmod v n + n, (d.1, d.2 + 1), by omega, by omega, hd', fun k => ?_⟩
      simp (disch := omega) only [zql, zqi, hv, c_pos, c_neg, c_inb, c_nneg, i64_in]
    · refine ⟨Int.tmod v n, (d.1, d.2 + 1), by omega, by omega, hd', fun k => ?_⟩
      simp (disch := omega) only [zql, zqi, hv, c_pos, c_neg, c_inb, c_nneg, i64_in]

end
end Go.Lift

/- The words of chapter 6's laws, one by one: what the code's Token and Text make of them. -/
namespace Go.Lift
noncomputable section
set_option maxRecDepth 100000
set_option linter.unusedVariables false

/-- A token: its kind, its text, its number. -/
abbrev Tok := Int × List UInt8 × Int
/-- What becomes of a word: the token, and the token's word. -/
structure WordIs (w : List UInt8) (t : Tok) (s : List UInt8) : Prop where
  tok : ∀ {β : Type} (k : Tok → Int → Option β), zqa0 w k = k t 0
  txt : ∀ {β : Type} (k : List UInt8 → Int → Option β), zq8w t k = k s 0
  back : ∀ {β : Type} (k : Tok → Int → Option β), zqa0 s k = k t 0
  short : s.length ≤ w.length
def WordNot (w : List UInt8) : Prop := ∀ {β : Type} (k : Tok → Int → Option β), zqa0 w k = k (0, [], 0) 2
def WordOk (w : List UInt8) : Prop := (∃ t s, WordIs w t s ∧ w ≠ [] ∧ ∀ c ∈ w, 33 ≤ c.toNat ∧ c.toNat ≤ 126 ∧ c ≠ 35) ∨ WordNot w

theorem word0 : WordIs [97] (0, [97], 0) [97] := ⟨fun k => by kernel_rfl, fun k => by kernel_rfl, fun k => by kernel_rfl, by decide⟩
theorem word1 : WordIs [122, 57, 95, 45] (0, [122, 57, 95, 45], 0) [122, 57, 95, 45] := ⟨fun k => by kernel_rfl, fun k => by kernel_rfl, fun k => by kernel_rfl, by decide⟩
theorem word2 : WordNot [65] := fun k => by kernel_rfl
theorem word3 : WordNot [57, 97] := fun k => by kernel_rfl
theorem word4 : WordIs [48] (1, [], 0) [48] := ⟨fun k => by kernel_rfl, fun k => by kernel_rfl, fun k => by kernel_rfl, by decide⟩
theorem word5 : WordNot [48, 48] := fun k => by kernel_rfl
theorem word6 : WordIs [55] (1, [], 7) [55] := ⟨fun k => by kernel_rfl, fun k => by kernel_rfl, fun k => by kernel_rfl, by decide⟩
theorem word7 : WordIs [57, 57, 57, 57, 57, 57, 57, 57, 57] (1, [], 999999999) [57, 57, 57, 57, 57, 57, 57, 57, 57] := ⟨fun k => by kernel_rfl, fun k => by kernel_rfl, fun k => by kernel_rfl, by decide⟩
theorem word8 : WordNot [49, 48, 48, 48, 48, 48, 48, 48, 48, 48] := fun k => by kernel_rfl
theorem word9 : WordNot [48, 49] := fun k => by kernel_rfl
theorem word10 : WordIs [50, 52, 58, 48, 48] (2, [], 86400) [50, 52, 58, 48, 48] := ⟨fun k => by kernel_rfl, fun k => by kernel_rfl, fun k => by kernel_rfl, by decide⟩
theorem word11 : WordNot [50, 52, 58, 48, 48, 58, 48, 49] := fun k => by kernel_rfl
theorem word12 : WordIs [50, 51, 58, 53, 57, 58, 53, 57] (2, [], 86399) [50, 51, 58, 53, 57, 58, 53, 57] := ⟨fun k => by kernel_rfl, fun k => by kernel_rfl, fun k => by kernel_rfl, by decide⟩
theorem word13 : WordNot [49, 50, 58, 54, 48] := fun k => by kernel_rfl
theorem word14 : WordNot [49, 58, 48, 48] := fun k => by kernel_rfl
theorem word15 : WordIs [50, 48, 50, 54, 45, 48, 50, 45, 50, 56] (3, [], 20512) [50, 48, 50, 54, 45, 48, 50, 45, 50, 56] := ⟨fun k => by kernel_rfl, fun k => by kernel_rfl, fun k => by kernel_rfl, by decide⟩
theorem word16 : WordNot [50, 48, 50, 54, 45, 48, 50, 45, 50, 57] := fun k => by kernel_rfl
theorem word17 : WordIs [50, 48, 50, 52, 45, 48, 50, 45, 50, 57] (3, [], 19782) [50, 48, 50, 52, 45, 48, 50, 45, 50, 57] := ⟨fun k => by kernel_rfl, fun k => by kernel_rfl, fun k => by kernel_rfl, by decide⟩
theorem word18 : WordNot [49, 57, 54, 57, 45, 49, 50, 45, 51, 49] := fun k => by kernel_rfl
theorem word19 : WordIs [50, 50, 52, 48, 45, 49, 50, 45, 51, 49] (3, [], 98980) [50, 50, 52, 48, 45, 49, 50, 45, 51, 49] := ⟨fun k => by kernel_rfl, fun k => by kernel_rfl, fun k => by kernel_rfl, by decide⟩
theorem word20 : WordNot [50, 50, 52, 49, 45, 48, 49, 45, 48, 49] := fun k => by kernel_rfl
theorem word21 : WordIs [43, 49, 56, 58, 48, 48] (4, [], 64800) [43, 49, 56, 58, 48, 48] := ⟨fun k => by kernel_rfl, fun k => by kernel_rfl, fun k => by kernel_rfl, by decide⟩
theorem word22 : WordNot [43, 49, 56, 58, 48, 49] := fun k => by kernel_rfl
theorem word23 : WordIs [45, 48, 48, 58, 48, 48] (4, [], 0) [43, 48, 48, 58, 48, 48] := ⟨fun k => by kernel_rfl, fun k => by kernel_rfl, fun k => by kernel_rfl, by decide⟩
theorem word24 : WordIs [45, 49, 55, 58, 53, 57] (4, [], -64740) [45, 49, 55, 58, 53, 57] := ⟨fun k => by kernel_rfl, fun k => by kernel_rfl, fun k => by kernel_rfl, by decide⟩
theorem word25 : WordNot [43, 49, 58, 48, 48] := fun k => by kernel_rfl
theorem word26 : WordIs [50, 48, 50, 54, 45, 48, 49, 45, 48, 49, 84, 48, 48, 58, 48, 48, 58, 48, 48, 90] (5, [], 1767225600) [50, 48, 50, 54, 45, 48, 49, 45, 48, 49, 84, 48, 48, 58, 48, 48, 58, 48, 48, 90] := ⟨fun k => by kernel_rfl, fun k => by kernel_rfl, fun k => by kernel_rfl, by decide⟩
theorem word27 : WordNot [50, 48, 50, 54, 45, 48, 49, 45, 48, 49, 84, 50, 52, 58, 48, 48, 58, 48, 48, 90] := fun k => by kernel_rfl
theorem word28 : WordNot [50, 48, 50, 54, 45, 49, 51, 45, 48, 49, 84, 48, 48, 58, 48, 48, 58, 48, 48, 90] := fun k => by kernel_rfl
theorem word29 : WordNot [50, 48, 50, 54, 45, 48, 49, 45, 48, 49, 116, 48, 48, 58, 48, 48, 58, 48, 48, 90] := fun k => by kernel_rfl
theorem word30 : WordIs [97, 98, 99, 100, 101, 102, 103, 104, 105, 106, 107, 108, 109, 110, 111, 112, 113, 114, 115, 116, 117, 118, 119, 120] (0, [97, 98, 99, 100, 101, 102, 103, 104, 105, 106, 107, 108, 109, 110, 111, 112, 113, 114, 115, 116, 117, 118, 119, 120], 0) [97, 98, 99, 100, 101, 102, 103, 104, 105, 106, 107, 108, 109, 110, 111, 112, 113, 114, 115, 116, 117, 118, 119, 120] := ⟨fun k => by kernel_rfl, fun k => by kernel_rfl, fun k => by kernel_rfl, by decide⟩
theorem word31 : WordNot [97, 98, 99, 100, 101, 102, 103, 104, 105, 106, 107, 108, 109, 110, 111, 112, 113, 114, 115, 116, 117, 118, 119, 120, 121] := fun k => by kernel_rfl
theorem word32 : WordNot [] := fun k => by kernel_rfl
theorem word33 : WordNot [35] := fun k => by kernel_rfl
theorem word34 : WordNot [97, 35, 98] := fun k => by kernel_rfl
theorem word35 : WordIs [110, 111, 98, 111, 100, 121] (0, [110, 111, 98, 111, 100, 121], 0) [110, 111, 98, 111, 100, 121] := ⟨fun k => by kernel_rfl, fun k => by kernel_rfl, fun k => by kernel_rfl, by decide⟩
def words06 : List (List UInt8) := [[97], [122, 57, 95, 45], [65], [57, 97], [48], [48, 48], [55], [57, 57, 57, 57, 57, 57, 57, 57, 57], [49, 48, 48, 48, 48, 48, 48, 48, 48, 48], [48, 49], [50, 52, 58, 48, 48], [50, 52, 58, 48, 48, 58, 48, 49], [50, 51, 58, 53, 57, 58, 53, 57], [49, 50, 58, 54, 48], [49, 58, 48, 48], [50, 48, 50, 54, 45, 48, 50, 45, 50, 56], [50, 48, 50, 54, 45, 48, 50, 45, 50, 57], [50, 48, 50, 52, 45, 48, 50, 45, 50, 57], [49, 57, 54, 57, 45, 49, 50, 45, 51, 49], [50, 50, 52, 48, 45, 49, 50, 45, 51, 49], [50, 50, 52, 49, 45, 48, 49, 45, 48, 49], [43, 49, 56, 58, 48, 48], [43, 49, 56, 58, 48, 49], [45, 48, 48, 58, 48, 48], [45, 49, 55, 58, 53, 57], [43, 49, 58, 48, 48], [50, 48, 50, 54, 45, 48, 49, 45, 48, 49, 84, 48, 48, 58, 48, 48, 58, 48, 48, 90], [50, 48, 50, 54, 45, 48, 49, 45, 48, 49, 84, 50, 52, 58, 48, 48, 58, 48, 48, 90], [50, 48, 50, 54, 45, 49, 51, 45, 48, 49, 84, 48, 48, 58, 48, 48, 58, 48, 48, 90], [50, 48, 50, 54, 45, 48, 49, 45, 48, 49, 116, 48, 48, 58, 48, 48, 58, 48, 48, 90], [97, 98, 99, 100, 101, 102, 103, 104, 105, 106, 107, 108, 109, 110, 111, 112, 113, 114, 115, 116, 117, 118, 119, 120], [97, 98, 99, 100, 101, 102, 103, 104, 105, 106, 107, 108, 109, 110, 111, 112, 113, 114, 115, 116, 117, 118, 119, 120, 121], [], [35], [97, 35, 98], [110, 111, 98, 111, 100, 121]]
theorem words_eq {β : Type} (k : List (List UInt8) → Option β) : zqs k = k words06 := by kernel_rfl
theorem words_ok : ∀ w ∈ words06, WordOk w := by
  intro w hw
  simp only [words06, List.mem_cons, List.not_mem_nil, or_false] at hw
  rcases hw with rfl | rfl | rfl | rfl | rfl | rfl | rfl | rfl | rfl | rfl | rfl | rfl | rfl | rfl | rfl | rfl | rfl | rfl | rfl | rfl | rfl | rfl | rfl | rfl | rfl | rfl | rfl | rfl | rfl | rfl | rfl | rfl | rfl | rfl | rfl | rfl
  · exact .inl ⟨_, _, word0, by decide, by decide⟩
  · exact .inl ⟨_, _, word1, by decide, by decide⟩
  · exact .inr word2
  · exact .inr word3
  · exact .inl ⟨_, _, word4, by decide, by decide⟩
  · exact .inr word5
  · exact .inl ⟨_, _, word6, by decide, by decide⟩
  · exact .inl ⟨_, _, word7, by decide, by decide⟩
  · exact .inr word8
  · exact .inr word9
  · exact .inl ⟨_, _, word10, by decide, by decide⟩
  · exact .inr word11
  · exact .inl ⟨_, _, word12, by decide, by decide⟩
  · exact .inr word13
  · exact .inr word14
  · exact .inl ⟨_, _, word15, by decide, by decide⟩
  · exact .inr word16
  · exact .inl ⟨_, _, word17, by decide, by decide⟩
  · exact .inr word18
  · exact .inl ⟨_, _, word19, by decide, by decide⟩
  · exact .inr word20
  · exact .inl ⟨_, _, word21, by decide, by decide⟩
  · exact .inr word22
  · exact .inl ⟨_, _, word23, by decide, by decide⟩
  · exact .inl ⟨_, _, word24, by decide, by decide⟩
  · exact .inr word25
  · exact .inl ⟨_, _, word26, by decide, by decide⟩
  · exact .inr word27
  · exact .inr word28
  · exact .inr word29
  · exact .inl ⟨_, _, word30, by decide, by decide⟩
  · exact .inr word31
  · exact .inr word32
  · exact .inr word33
  · exact .inr word34
  · exact .inl ⟨_, _, word35, by decide, by decide⟩
end
end Go.Lift

/- The examples of chapter 6. -/
namespace Go.Lift
noncomputable section
set_option maxRecDepth 100000
theorem sane06 {β : Type} (k : Bool → Option β) : zqb2 k = k true := by kernel_rfl
end
end Go.Lift

/- LexerBack: a word that is written from a token is read as this token, and is a shortest one. -/
namespace Go.Lift
open Go.RowKit Go.IntWalk
noncomputable section
set_option linter.unusedVariables false
set_option linter.unusedSimpArgs false
set_option maxRecDepth 10000

section
variable {β : Type}
theorem x_f {b : Bool} {x y : Option β} (h : b = false) : cond b x y = y := by rw [h]; rfl
theorem x_t {b : Bool} {x y : Option β} (h : b = true) : cond b x y = x := by rw [h]; rfl
theorem eqTok {x y : Tok} (h : x = y) : (decide (x.1 = y.1) && (decide (x.2.1 = y.2.1) && (decide (x.2.2 = y.2.2) && true))) = true := by subst h; simp
theorem words_len : words06.length = 36 := rfl
theorem words_get {i : Nat} (h : i < 36) : WordOk (words06.getD i []) := by
  have h : i < words06.length := h
  have : words06.getD i [] = words06[i] := by simp [List.getD, h]
  rw [this]
  exact words_ok _ (List.getElem_mem h)

theorem back_loop (k1 : zqb6 β) (k2 : zqb7 β) : ∀ (j i m : Nat) (d : Dice), i + j = 10 → j < m → DiceOk d → zqbh m k1 k2 (i : Int) d.1 d.2 words06 = k2 () := by
  intro j
  induction j with
  | zero =>
    intro i m d hi hm hd
    obtain ⟨m, rfl⟩ : ∃ m', m = m' + 1 := ⟨m - 1, by omega⟩
    simp only [zqbi, zqbb]
    exact c_neg (by omega)
  | succ j ih =>
    intro i m d hi hm hd
    obtain ⟨m, rfl⟩ : ∃ m', m = m' + 1 := ⟨m - 1, by omega⟩
    have hl : (words06.length : Int) = 36 := by rw [words_len]; rfl
    obtain ⟨x, d', a1, a2, hd', f⟩ := next_ok (n := (words06.length : Int)) hd (by omega)
    have hn := ih (i + 1) m d' (by omega) (by omega) hd'
    simp only [zqbi, zqbb]
    refine (c_pos (by omega)).trans ?_
    refine (f _).trans ?_
    refine (c_inb (by omega)).trans ?_
    rw [i64_in ((i : Int) + 1) (by omega)]
    generalize hw : words06.getD x.toNat ([] : List UInt8) = w
    have hok : WordOk w := by rw [← hw]; exact words_get (by omega)
    rcases hok with ⟨t, s, h, _, _⟩ | h
    · refine (h.tok _).trans ?_
      refine (c_npos rfl).trans ?_
      refine (h.txt _).trans ?_
      refine (h.back _).trans ?_
      refine (c_npos rfl).trans ?_
      refine (c_npos rfl).trans ?_
      refine (x_f (by rw [eqTok rfl]; rfl)).trans ?_
      have := h.short
      refine (c_neg (by omega)).trans ?_
      exact hn
    · refine (h _).trans ?_
      refine (c_nneg (by decide)).trans ?_
      refine (c_npos rfl).trans ?_
      exact hn

theorem lexerBack (t : List Int) (k : Bool → Option β) : zqbl t k = k true := by
  unfold zqbl zqbe
  refine (light_eq t _).trans ?_
  by_cases hl : (t.length : Int) ≤ 500
  · rw [decide_eq_true hl]
    refine (x_f rfl).trans ?_
    refine (roll_eq t _).trans ?_
    refine (words_eq _).trans ?_
    refine (back_loop _ _ 10 0 fuel (t, 0) rfl (lt_fuel (by omega)) (roll_ok hl)).trans ?_
    exact sane06 _
  · rw [decide_eq_false hl]
    refine (x_t rfl).trans ?_
    exact sane06 _
end
end
end Go.Lift

