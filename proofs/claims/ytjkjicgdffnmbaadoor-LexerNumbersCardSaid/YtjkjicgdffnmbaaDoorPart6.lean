/- Part6: Fn0, LBase, LCivil, LStr, LNum, LLexNum, LLexNum2, LLexSane, LLexNumbers. -/
import Derived.Test.YtjkjicgdffnmbaaDoorProg
import Derived.KernelRfl
import Derived.Test.YtjkjicgdffnmbaaDoorPart5
namespace Go.Lift
open Go.Proofs
noncomputable section
set_option maxRecDepth 100000
set_option linter.unusedVariables false

abbrev zq0 := (Int × (List UInt8 × Int))
abbrev zq1 : Ty := (.prod (.int .i64) (.prod .str (.int .i64)))

def tab : List (Nat × TI) := [
  (3, ⟨false, 1, 8, [.int .i64 (0 : Int)], [], none, none, (some (.int .i64)), (some .i64), false, false, none, none⟩),
  (4, ⟨false, 1, 1, [.bool false], [], none, none, (some .bool), none, true, false, none, none⟩),
  (5, ⟨false, 1, 1, [.int .u8 (0 : Int)], [], none, none, (some (.int .u8)), (some .u8), false, false, none, none⟩),
  (9, ⟨false, 1, 16, [.str ([] : List UInt8)], [], none, none, (some .str), none, false, true, none, none⟩),
  (24, ⟨true, 3, 32, [.int .i64 (0 : Int), .str ([] : List UInt8), .int .i64 (0 : Int)], [(0, 1, false), (1, 1, false), (2, 1, false)], none, none, (some zq1), none, false, false, (some [.i, .s, .i]), none⟩),
  (25, ⟨true, 15, 160, [.int .i64 (0 : Int), .str ([] : List UInt8), .int .i64 (0 : Int), .int .i64 (0 : Int), .str ([] : List UInt8), .int .i64 (0 : Int), .int .i64 (0 : Int), .str ([] : List UInt8), .int .i64 (0 : Int), .int .i64 (0 : Int), .str ([] : List UInt8), .int .i64 (0 : Int), .int .i64 (0 : Int), .str ([] : List UInt8), .int .i64 (0 : Int)], [], (some 24), (some 5), (some (.prod zq1 (.prod zq1 (.prod zq1 (.prod zq1 zq1))))), none, false, false, none, none⟩),
  (39, ⟨false, 1, 24, [.nils], [], (some 24), none, (some (.slice zq1)), none, false, false, none, none⟩),
  (50, ⟨false, 1, 24, [.nils], [], (some 9), none, (some (.slice .str)), none, false, false, none, none⟩),
  (54, ⟨true, 3, 24, [.int .i64 (0 : Int), .int .i64 (0 : Int), .int .i64 (0 : Int)], [(0, 1, false), (1, 1, false), (2, 1, false)], none, none, (some (.prod (.int .i64) (.prod (.int .i64) (.int .i64)))), none, false, false, (some [.i, .i, .i]), none⟩),
  (62, ⟨false, 1, 16, [.err true], [], none, none, (some .err), none, false, false, none, none⟩),
  (97, ⟨true, 12, 96, [.int .i64 (0 : Int), .int .i64 (0 : Int), .int .i64 (0 : Int), .int .i64 (0 : Int), .int .i64 (0 : Int), .int .i64 (0 : Int), .int .i64 (0 : Int), .int .i64 (0 : Int), .int .i64 (0 : Int), .int .i64 (0 : Int), .int .i64 (0 : Int), .int .i64 (0 : Int)], [], (some 3), (some 12), (some (.prod (.int .i64) (.prod (.int .i64) (.prod (.int .i64) (.prod (.int .i64) (.prod (.int .i64) (.prod (.int .i64) (.prod (.int .i64) (.prod (.int .i64) (.prod (.int .i64) (.prod (.int .i64) (.prod (.int .i64) (.int .i64))))))))))))), none, false, false, (some [.i, .i, .i, .i, .i, .i, .i, .i, .i, .i, .i, .i]), none⟩)]

theorem tab_ok : TOk Tryd.prog (look tab) := TOk_of (by kernel_rfl)
theorem mixed : Tryd.prog.follows .mixedOrders = true := by kernel_rfl

/-- pagewatch/pagewatchmade.Mod -/
abbrev zq2 := {β : Type} → Int → Int → (Int → Option β) → Option β
def zq3 (c : zq2) : Spec :=
  ⟨[(false, [.data (.int .i64)]), (false, [.data (.int .i64)])], [], [(false, [.data (.int .i64)])], [], fun x k => c x.1.1.1 x.1.2.1.1 (fun r0 => k (((r0, ()), ()), ()))⟩
section
@[reducible] def made_Mod_X : Ctx := ⟨look tab, pick1 [], false, false, false, false⟩
def zq4 {β : Type} (x : Int) (n : Int) (k : (Int → Option β)) : Option β :=
  cond (!decide (n = 0))
  (cond (!decide (n = 0))
  (let t : Int := (Int.tmod (IntKind.i64.wrap ((Int.tmod x n) + n)) n);
  k t)
  none)
  none
theorem zq5 (hΓ : ΓOk Tryd.prog made_Mod_X.Γ) : SpecOk Tryd.prog 4 (zq3 (zq4)) :=
  spec_exec (X := made_Mod_X) (Λ := pick1 []) (rs := [.tmp 4]) (c := bodyOf Tryd.f4) mixed tab_ok hΓ Tryd.func4 (by kernel_rfl) (by kernel_rfl) (by kernel_rfl) (by kernel_rfl) CutsOk_nil (fun x k r h => Eq.trans (b := (zq3 (zq4)).run x k) (by kernel_rfl) h)
end
theorem zq6Γ : ΓOk Tryd.prog (pick1 []) := ΓOk_nil
def zq7 : zq2 := zq4
theorem zq8 : SpecOk Tryd.prog 4 (zq3 zq7) := zq5 zq6Γ

/-- pagewatch/lexer.small -/
abbrev zq9 := {β : Type} → Int → (Bool → Option β) → Option β
def zqa (c : zq9) : Spec :=
  ⟨[(false, [.data (.int .u8)])], [], [(false, [.data .bool])], [], fun x k => c x.1.1.1 (fun r0 => k (((r0, ()), ()), ()))⟩
section
@[reducible] def lexer_small_X : Ctx := ⟨look tab, pick1 [], false, false, false, false⟩
def zqb {β : Type} (c : Int) (k : (Bool → Option β)) : Option β :=
  cond (decide ((97 : Int) ≤ c))
  (let t : Bool := (decide (c ≤ (122 : Int)));
  k t)
  (k false)
theorem zqc (hΓ : ΓOk Tryd.prog lexer_small_X.Γ) : SpecOk Tryd.prog 11 (zqa (zqb)) :=
  spec_exec (X := lexer_small_X) (Λ := pick1 []) (rs := [.tmp 2]) (c := bodyOf Tryd.f11) mixed tab_ok hΓ Tryd.func11 (by kernel_rfl) (by kernel_rfl) (by kernel_rfl) (by kernel_rfl) CutsOk_nil (fun x k r h => Eq.trans (b := (zqa (zqb)).run x k) (by kernel_rfl) h)
end
theorem zqdΓ : ΓOk Tryd.prog (pick1 []) := ΓOk_nil
def zqe : zq9 := zqb
theorem zqf : SpecOk Tryd.prog 11 (zqa zqe) := zqc zqdΓ

/-- pagewatch/lexer.digit -/
abbrev zqg := {β : Type} → Int → (Bool → Option β) → Option β
def zqh (c : zqg) : Spec :=
  ⟨[(false, [.data (.int .u8)])], [], [(false, [.data .bool])], [], fun x k => c x.1.1.1 (fun r0 => k (((r0, ()), ()), ()))⟩
section
@[reducible] def lexer_digit_X : Ctx := ⟨look tab, pick1 [], false, false, false, false⟩
def zqi {β : Type} (c : Int) (k : (Bool → Option β)) : Option β :=
  cond (decide ((48 : Int) ≤ c))
  (let t : Bool := (decide (c ≤ (57 : Int)));
  k t)
  (k false)
theorem zqj (hΓ : ΓOk Tryd.prog lexer_digit_X.Γ) : SpecOk Tryd.prog 12 (zqh (zqi)) :=
  spec_exec (X := lexer_digit_X) (Λ := pick1 []) (rs := [.tmp 2]) (c := bodyOf Tryd.f12) mixed tab_ok hΓ Tryd.func12 (by kernel_rfl) (by kernel_rfl) (by kernel_rfl) (by kernel_rfl) CutsOk_nil (fun x k r h => Eq.trans (b := (zqh (zqi)).run x k) (by kernel_rfl) h)
end
theorem zqkΓ : ΓOk Tryd.prog (pick1 []) := ΓOk_nil
def zql : zqg := zqi
theorem zqm : SpecOk Tryd.prog 12 (zqh zql) := zqj zqkΓ

/-- strconv.Itoa -/
def zqn : Shelf.Ren :=
      { 
      f := fun x =>
        match x with
        | 171 => 14
        | 243 => 25
        | 246 => 36
        | 283 => 48
        | 284 => 49
        | 285 => 50
        | 286 => 51
        | 129 => 74
        | 317 => 73
        | 318 => 75
        | 319 => 76
        | 320 => 77
        | 337 => 91
        | 338 => 92
        | n => n,
      t := fun x =>
        match x with
        | 3 => 3
        | 9 => 9
        | 2 => 2
        | 4 => 4
        | 171 => 81
        | 0 => 0
        | 53 => 82
        | 37 => 85
        | 5 => 5
        | 173 => 86
        | 212 => 119
        | 51 => 78
        | 20 => 20
        | 213 => 120
        | 46 => 88
        | 232 => 147
        | 233 => 148
        | n => n,
      g := fun x =>
        match x with
        | 17 => 3
        | 18 => 6
        | 19 => 7
        | n => n }
theorem zqo : Go.Proofs.LaysM.n171 Tryd.prog zqn :=
  { mixed := by kernel_rfl,
    f129 := Eq.trans Tryd.func74 (congrArg some (by kernel_rfl)),
    f171 := Eq.trans Tryd.func14 (congrArg some (by kernel_rfl)),
    f243 := Eq.trans Tryd.func25 (congrArg some (by kernel_rfl)),
    f246 := Eq.trans Tryd.func36 (congrArg some (by kernel_rfl)),
    f283 := Eq.trans Tryd.func48 (congrArg some (by kernel_rfl)),
    f284 := Eq.trans Tryd.func49 (congrArg some (by kernel_rfl)),
    f285 := Eq.trans Tryd.func50 (congrArg some (by kernel_rfl)),
    f286 := Eq.trans Tryd.func51 (congrArg some (by kernel_rfl)),
    f317 := Eq.trans Tryd.func73 (congrArg some (by kernel_rfl)),
    f318 := Eq.trans Tryd.func75 (congrArg some (by kernel_rfl)),
    f319 := Eq.trans Tryd.func76 (congrArg some (by kernel_rfl)),
    f320 := Eq.trans Tryd.func77 (congrArg some (by kernel_rfl)),
    f337 := Eq.trans Tryd.func91 (congrArg some (by kernel_rfl)),
    f338 := Eq.trans Tryd.func92 (congrArg some (by kernel_rfl)),
    t0 := Tryd.underlying0,
    a0 := Tryd.isAgg0,
    z0 := Tryd.sizeOf0,
    v0 := Tryd.zeroValue0,
    t2 := Tryd.underlying2,
    a2 := Tryd.isAgg2,
    z2 := Tryd.sizeOf2,
    v2 := Tryd.zeroValue2,
    t3 := Tryd.underlying3,
    a3 := Tryd.isAgg3,
    z3 := Tryd.sizeOf3,
    v3 := Tryd.zeroValue3,
    t4 := Tryd.underlying4,
    a4 := Tryd.isAgg4,
    z4 := Tryd.sizeOf4,
    v4 := Tryd.zeroValue4,
    t5 := Tryd.underlying5,
    a5 := Tryd.isAgg5,
    z5 := Tryd.sizeOf5,
    v5 := Tryd.zeroValue5,
    t9 := Tryd.underlying9,
    a9 := Tryd.isAgg9,
    z9 := Tryd.sizeOf9,
    v9 := Tryd.zeroValue9,
    t20 := Tryd.underlying20,
    a20 := Tryd.isAgg20,
    z20 := Tryd.sizeOf20,
    v20 := Tryd.zeroValue20,
    t37 := Tryd.underlying85,
    a37 := Tryd.isAgg85,
    z37 := Tryd.sizeOf85,
    v37 := Tryd.zeroValue85,
    t46 := Tryd.underlying88,
    a46 := Tryd.isAgg88,
    z46 := Tryd.sizeOf88,
    v46 := Tryd.zeroValue88,
    t51 := Tryd.underlying78,
    a51 := Tryd.isAgg78,
    z51 := Tryd.sizeOf78,
    v51 := Tryd.zeroValue78,
    t53 := Tryd.underlying82,
    a53 := Tryd.isAgg82,
    z53 := Tryd.sizeOf82,
    v53 := Tryd.zeroValue82,
    t171 := Tryd.underlying81,
    a171 := Tryd.isAgg81,
    z171 := Tryd.sizeOf81,
    v171 := Tryd.zeroValue81,
    t173 := Tryd.underlying86,
    a173 := Tryd.isAgg86,
    z173 := Tryd.sizeOf86,
    v173 := Tryd.zeroValue86,
    t212 := Tryd.underlying119,
    a212 := Tryd.isAgg119,
    z212 := Tryd.sizeOf119,
    v212 := Tryd.zeroValue119,
    t213 := Tryd.underlying120,
    a213 := Tryd.isAgg120,
    z213 := Tryd.sizeOf120,
    t232 := Tryd.underlying147,
    a232 := Tryd.isAgg147,
    z232 := Tryd.sizeOf147,
    v232 := Tryd.zeroValue147,
    t233 := Tryd.underlying148,
    a233 := Tryd.isAgg148,
    z233 := Tryd.sizeOf148,
    v233 := Tryd.zeroValue148,
    g17 := by kernel_rfl,
    g18 := by kernel_rfl,
    g19 := by kernel_rfl,
    i0 := by kernel_rfl,
    i2 := by kernel_rfl,
    i3 := by kernel_rfl,
    i4 := by kernel_rfl,
    i5 := by kernel_rfl,
    i9 := by kernel_rfl,
    i20 := by kernel_rfl,
    i37 := by kernel_rfl,
    i46 := by kernel_rfl,
    i51 := by kernel_rfl,
    i53 := by kernel_rfl,
    i171 := by kernel_rfl,
    i173 := by kernel_rfl,
    i212 := by kernel_rfl,
    i232 := by kernel_rfl,
    i233 := by kernel_rfl,
    m17 := by kernel_rfl,
    m18 := by kernel_rfl,
    m19 := by kernel_rfl }
abbrev zqp := itoaT
def zqq (c : zqp) : Spec := itoaS c
def zqr : zqp := fun x k => itoaF x k
theorem zqs : SpecOk Tryd.prog 14 (zqq zqr) :=
  itoa_ok zqo rfl (g := 3) (by kernel_rfl) ⟨_, Tryd.func14, by kernel_rfl, by kernel_rfl⟩

/-- strings.Contains -/
def zqt : Shelf.Ren :=
      { 
      f := fun x =>
        match x with
        | 144 => 18
        | 143 => 28
        | 219 => 41
        | 217 => 60
        | 225 => 61
        | 224 => 62
        | 267 => 63
        | 266 => 83
        | 314 => 84
        | n => n,
      t := fun x =>
        match x with
        | 9 => 9
        | 4 => 4
        | 3 => 3
        | 5 => 5
        | 46 => 88
        | 146 => 122
        | 51 => 78
        | n => n,
      g := fun x =>
        match x with
        | 1 => 2
        | n => n }
theorem zqu : Go.Proofs.Lays.n144 Tryd.prog zqt :=
  { mixed := by kernel_rfl,
    f143 := Eq.trans Tryd.func28 (congrArg some (by kernel_rfl)),
    f144 := Eq.trans Tryd.func18 (congrArg some (by kernel_rfl)),
    f217 := Eq.trans Tryd.func60 (congrArg some (by kernel_rfl)),
    f219 := Eq.trans Tryd.func41 (congrArg some (by kernel_rfl)),
    f224 := Eq.trans Tryd.func62 (congrArg some (by kernel_rfl)),
    f225 := Eq.trans Tryd.func61 (congrArg some (by kernel_rfl)),
    f266 := Eq.trans Tryd.func83 (congrArg some (by kernel_rfl)),
    f267 := Eq.trans Tryd.func63 (congrArg some (by kernel_rfl)),
    f314 := Eq.trans Tryd.func84 (congrArg some (by kernel_rfl)),
    t3 := Tryd.underlying3,
    a3 := Tryd.isAgg3,
    z3 := Tryd.sizeOf3,
    v3 := Tryd.zeroValue3,
    t4 := Tryd.underlying4,
    a4 := Tryd.isAgg4,
    z4 := Tryd.sizeOf4,
    v4 := Tryd.zeroValue4,
    t5 := Tryd.underlying5,
    a5 := Tryd.isAgg5,
    z5 := Tryd.sizeOf5,
    v5 := Tryd.zeroValue5,
    t9 := Tryd.underlying9,
    a9 := Tryd.isAgg9,
    z9 := Tryd.sizeOf9,
    v9 := Tryd.zeroValue9,
    t46 := Tryd.underlying88,
    a46 := Tryd.isAgg88,
    z46 := Tryd.sizeOf88,
    v46 := Tryd.zeroValue88,
    t51 := Tryd.underlying78,
    a51 := Tryd.isAgg78,
    z51 := Tryd.sizeOf78,
    v51 := Tryd.zeroValue78,
    t146 := Tryd.underlying122,
    a146 := Tryd.isAgg122,
    z146 := Tryd.sizeOf122,
    v146 := Tryd.zeroValue122,
    g1 := by kernel_rfl }
abbrev zqv := containsT
def zqw (c : zqv) : Spec := containsS c
def zqx : zqv := fun x y k => containsF x y k
theorem zqy : SpecOk Tryd.prog 18 (zqw zqx) :=
  contains_ok zqu rfl (of_decide_eq_true (by kernel_rfl)) (fun w0 h0 => Go.Proofs.cell_of_shapedOpen_int (P := Tryd.prog) (g := 2) (t := 3) (zero := #[.int .i64 0]) h0 (of_decide_eq_true (by kernel_rfl)) (by kernel_rfl) rfl (by kernel_rfl) (by kernel_rfl) Tryd.underlying3) ⟨_, Tryd.func18, by kernel_rfl, by kernel_rfl⟩

/-- strings.Cut -/
def zqz : Shelf.Ren :=
      { 
      f := fun x =>
        match x with
        | 145 => 23
        | 220 => 33
        | 219 => 41
        | 217 => 60
        | 225 => 61
        | 224 => 62
        | 267 => 63
        | 266 => 83
        | 314 => 84
        | n => n,
      t := fun x =>
        match x with
        | 9 => 9
        | 4 => 4
        | 59 => 48
        | 3 => 3
        | 5 => 5
        | 46 => 88
        | 146 => 122
        | 51 => 78
        | n => n,
      g := fun x =>
        match x with
        | 1 => 2
        | n => n }
theorem zq10 : Go.Proofs.Lays.n145 Tryd.prog zqz :=
  { mixed := by kernel_rfl,
    f145 := Eq.trans Tryd.func23 (congrArg some (by kernel_rfl)),
    f217 := Eq.trans Tryd.func60 (congrArg some (by kernel_rfl)),
    f219 := Eq.trans Tryd.func41 (congrArg some (by kernel_rfl)),
    f220 := Eq.trans Tryd.func33 (congrArg some (by kernel_rfl)),
    f224 := Eq.trans Tryd.func62 (congrArg some (by kernel_rfl)),
    f225 := Eq.trans Tryd.func61 (congrArg some (by kernel_rfl)),
    f266 := Eq.trans Tryd.func83 (congrArg some (by kernel_rfl)),
    f267 := Eq.trans Tryd.func63 (congrArg some (by kernel_rfl)),
    f314 := Eq.trans Tryd.func84 (congrArg some (by kernel_rfl)),
    t3 := Tryd.underlying3,
    a3 := Tryd.isAgg3,
    z3 := Tryd.sizeOf3,
    v3 := Tryd.zeroValue3,
    t4 := Tryd.underlying4,
    a4 := Tryd.isAgg4,
    z4 := Tryd.sizeOf4,
    v4 := Tryd.zeroValue4,
    t5 := Tryd.underlying5,
    a5 := Tryd.isAgg5,
    z5 := Tryd.sizeOf5,
    v5 := Tryd.zeroValue5,
    t9 := Tryd.underlying9,
    a9 := Tryd.isAgg9,
    z9 := Tryd.sizeOf9,
    v9 := Tryd.zeroValue9,
    t46 := Tryd.underlying88,
    a46 := Tryd.isAgg88,
    z46 := Tryd.sizeOf88,
    v46 := Tryd.zeroValue88,
    t51 := Tryd.underlying78,
    a51 := Tryd.isAgg78,
    z51 := Tryd.sizeOf78,
    v51 := Tryd.zeroValue78,
    t59 := Tryd.underlying48,
    a59 := Tryd.isAgg48,
    z59 := Tryd.sizeOf48,
    v59 := Tryd.zeroValue48,
    t146 := Tryd.underlying122,
    a146 := Tryd.isAgg122,
    z146 := Tryd.sizeOf122,
    v146 := Tryd.zeroValue122,
    g1 := by kernel_rfl }
abbrev zq11 := cutT
def zq12 (c : zq11) : Spec := cutS c
def zq13 : zq11 := fun x y k => cutF x y k
theorem zq14 : SpecOk Tryd.prog 23 (zq12 zq13) :=
  cut_ok zq10 rfl (of_decide_eq_true (by kernel_rfl)) (fun w0 h0 => Go.Proofs.cell_of_shapedOpen_int (P := Tryd.prog) (g := 2) (t := 3) (zero := #[.int .i64 0]) h0 (of_decide_eq_true (by kernel_rfl)) (by kernel_rfl) rfl (by kernel_rfl) (by kernel_rfl) Tryd.underlying3) ⟨_, Tryd.func23, by kernel_rfl, by kernel_rfl⟩

/-- strings.Fields -/
def zq15 : Shelf.Ren :=
      { 
      f := fun x =>
        match x with
        | 157 => 24
        | 229 => 34
        | 199 => 35
        | 261 => 47
        | 311 => 71
        | 312 => 72
        | n => n,
      t := fun x =>
        match x with
        | 9 => 9
        | 31 => 50
        | 3 => 3
        | 5 => 5
        | 4 => 4
        | 119 => 65
        | 0 => 0
        | 40 => 67
        | 152 => 75
        | 21 => 21
        | 154 => 77
        | 51 => 78
        | 141 => 80
        | 196 => 110
        | 193 => 107
        | 198 => 113
        | 49 => 111
        | 194 => 108
        | 201 => 116
        | 226 => 137
        | 46 => 88
        | 227 => 138
        | n => n,
      g := fun x =>
        match x with
        | 0 => 0
        | 6 => 1
        | n => n }
theorem zq16 : Go.Proofs.Lays.n157 Tryd.prog zq15 :=
  { mixed := by kernel_rfl,
    f157 := Eq.trans Tryd.func24 (congrArg some (by kernel_rfl)),
    f199 := Eq.trans Tryd.func35 (congrArg some (by kernel_rfl)),
    f229 := Eq.trans Tryd.func34 (congrArg some (by kernel_rfl)),
    f261 := Eq.trans Tryd.func47 (congrArg some (by kernel_rfl)),
    f311 := Eq.trans Tryd.func71 (congrArg some (by kernel_rfl)),
    f312 := Eq.trans Tryd.func72 (congrArg some (by kernel_rfl)),
    t0 := Tryd.underlying0,
    a0 := Tryd.isAgg0,
    z0 := Tryd.sizeOf0,
    v0 := Tryd.zeroValue0,
    t3 := Tryd.underlying3,
    a3 := Tryd.isAgg3,
    z3 := Tryd.sizeOf3,
    v3 := Tryd.zeroValue3,
    t4 := Tryd.underlying4,
    a4 := Tryd.isAgg4,
    z4 := Tryd.sizeOf4,
    v4 := Tryd.zeroValue4,
    t5 := Tryd.underlying5,
    a5 := Tryd.isAgg5,
    z5 := Tryd.sizeOf5,
    v5 := Tryd.zeroValue5,
    t9 := Tryd.underlying9,
    a9 := Tryd.isAgg9,
    z9 := Tryd.sizeOf9,
    v9 := Tryd.zeroValue9,
    t21 := Tryd.underlying21,
    a21 := Tryd.isAgg21,
    z21 := Tryd.sizeOf21,
    v21 := Tryd.zeroValue21,
    t31 := Tryd.underlying50,
    a31 := Tryd.isAgg50,
    z31 := Tryd.sizeOf50,
    v31 := Tryd.zeroValue50,
    t40 := Tryd.underlying67,
    a40 := Tryd.isAgg67,
    z40 := Tryd.sizeOf67,
    v40 := Tryd.zeroValue67,
    t46 := Tryd.underlying88,
    a46 := Tryd.isAgg88,
    z46 := Tryd.sizeOf88,
    v46 := Tryd.zeroValue88,
    t49 := Tryd.underlying111,
    a49 := Tryd.isAgg111,
    z49 := Tryd.sizeOf111,
    v49 := Tryd.zeroValue111,
    t51 := Tryd.underlying78,
    a51 := Tryd.isAgg78,
    z51 := Tryd.sizeOf78,
    v51 := Tryd.zeroValue78,
    t119 := Tryd.underlying65,
    a119 := Tryd.isAgg65,
    z119 := Tryd.sizeOf65,
    t141 := Tryd.underlying80,
    a141 := Tryd.isAgg80,
    z141 := Tryd.sizeOf80,
    v141 := Tryd.zeroValue80,
    t152 := Tryd.underlying75,
    a152 := Tryd.isAgg75,
    z152 := Tryd.sizeOf75,
    v152 := Tryd.zeroValue75,
    t154 := Tryd.underlying77,
    a154 := Tryd.isAgg77,
    z154 := Tryd.sizeOf77,
    v154 := Tryd.zeroValue77,
    t193 := Tryd.underlying107,
    a193 := Tryd.isAgg107,
    z193 := Tryd.sizeOf107,
    v193 := Tryd.zeroValue107,
    t194 := Tryd.underlying108,
    a194 := Tryd.isAgg108,
    z194 := Tryd.sizeOf108,
    v194 := Tryd.zeroValue108,
    t196 := Tryd.underlying110,
    a196 := Tryd.isAgg110,
    z196 := Tryd.sizeOf110,
    v196 := Tryd.zeroValue110,
    t198 := Tryd.underlying113,
    a198 := Tryd.isAgg113,
    z198 := Tryd.sizeOf113,
    v198 := Tryd.zeroValue113,
    t201 := Tryd.underlying116,
    a201 := Tryd.isAgg116,
    z201 := Tryd.sizeOf116,
    v201 := Tryd.zeroValue116,
    t226 := Tryd.underlying137,
    a226 := Tryd.isAgg137,
    z226 := Tryd.sizeOf137,
    v226 := Tryd.zeroValue137,
    t227 := Tryd.underlying138,
    a227 := Tryd.isAgg138,
    z227 := Tryd.sizeOf138,
    v227 := Tryd.zeroValue138,
    g0 := by kernel_rfl,
    g6 := by kernel_rfl }
abbrev zq17 := fieldsT
def zq18 (c : zq17) : Spec := fieldsRS 9 c
def zq19 : zq17 := fun x k => fieldsF x k
theorem zq1a : SpecOk Tryd.prog 24 (zq18 zq19) :=
  fields_ok zq16 rfl rfl (by kernel_rfl) (by kernel_rfl) (by kernel_rfl) (by kernel_rfl) ⟨_, Tryd.func24, by kernel_rfl, by kernel_rfl⟩

/-- strings.Split -/
def zq1b : Shelf.Ren :=
      { 
      f := fun x =>
        match x with
        | 146 => 31
        | 221 => 44
        | 268 => 64
        | 138 => 65
        | 143 => 28
        | 195 => 85
        | 197 => 86
        | 218 => 87
        | 219 => 41
        | 260 => 95
        | 217 => 60
        | 225 => 61
        | 224 => 62
        | 267 => 63
        | 266 => 83
        | 314 => 84
        | n => n,
      t := fun x =>
        match x with
        | 9 => 9
        | 31 => 50
        | 3 => 3
        | 4 => 4
        | 0 => 0
        | 105 => 129
        | 21 => 21
        | 5 => 5
        | 46 => 88
        | 119 => 65
        | 139 => 151
        | 138 => 150
        | 146 => 122
        | 51 => 78
        | n => n,
      g := fun x =>
        match x with
        | 1 => 2
        | 3 => 8
        | 4 => 9
        | n => n }
theorem zq1c : Go.Proofs.Lays.n146 Tryd.prog zq1b :=
  { mixed := by kernel_rfl,
    f138 := Eq.trans Tryd.func65 (congrArg some (by kernel_rfl)),
    f143 := Eq.trans Tryd.func28 (congrArg some (by kernel_rfl)),
    f146 := Eq.trans Tryd.func31 (congrArg some (by kernel_rfl)),
    f195 := Eq.trans Tryd.func85 (congrArg some (by kernel_rfl)),
    f197 := Eq.trans Tryd.func86 (congrArg some (by kernel_rfl)),
    f217 := Eq.trans Tryd.func60 (congrArg some (by kernel_rfl)),
    f218 := Eq.trans Tryd.func87 (congrArg some (by kernel_rfl)),
    f219 := Eq.trans Tryd.func41 (congrArg some (by kernel_rfl)),
    f221 := Eq.trans Tryd.func44 (congrArg some (by kernel_rfl)),
    f224 := Eq.trans Tryd.func62 (congrArg some (by kernel_rfl)),
    f225 := Eq.trans Tryd.func61 (congrArg some (by kernel_rfl)),
    f260 := Eq.trans Tryd.func95 (congrArg some (by kernel_rfl)),
    f266 := Eq.trans Tryd.func83 (congrArg some (by kernel_rfl)),
    f267 := Eq.trans Tryd.func63 (congrArg some (by kernel_rfl)),
    f268 := Eq.trans Tryd.func64 (congrArg some (by kernel_rfl)),
    f314 := Eq.trans Tryd.func84 (congrArg some (by kernel_rfl)),
    t0 := Tryd.underlying0,
    a0 := Tryd.isAgg0,
    z0 := Tryd.sizeOf0,
    v0 := Tryd.zeroValue0,
    t3 := Tryd.underlying3,
    a3 := Tryd.isAgg3,
    z3 := Tryd.sizeOf3,
    v3 := Tryd.zeroValue3,
    t4 := Tryd.underlying4,
    a4 := Tryd.isAgg4,
    z4 := Tryd.sizeOf4,
    v4 := Tryd.zeroValue4,
    t5 := Tryd.underlying5,
    a5 := Tryd.isAgg5,
    z5 := Tryd.sizeOf5,
    v5 := Tryd.zeroValue5,
    t9 := Tryd.underlying9,
    a9 := Tryd.isAgg9,
    z9 := Tryd.sizeOf9,
    v9 := Tryd.zeroValue9,
    t21 := Tryd.underlying21,
    a21 := Tryd.isAgg21,
    z21 := Tryd.sizeOf21,
    v21 := Tryd.zeroValue21,
    t31 := Tryd.underlying50,
    a31 := Tryd.isAgg50,
    z31 := Tryd.sizeOf50,
    v31 := Tryd.zeroValue50,
    t46 := Tryd.underlying88,
    a46 := Tryd.isAgg88,
    z46 := Tryd.sizeOf88,
    v46 := Tryd.zeroValue88,
    t51 := Tryd.underlying78,
    a51 := Tryd.isAgg78,
    z51 := Tryd.sizeOf78,
    v51 := Tryd.zeroValue78,
    t105 := Tryd.underlying129,
    a105 := Tryd.isAgg129,
    z105 := Tryd.sizeOf129,
    v105 := Tryd.zeroValue129,
    t119 := Tryd.underlying65,
    a119 := Tryd.isAgg65,
    z119 := Tryd.sizeOf65,
    t138 := Tryd.underlying150,
    a138 := Tryd.isAgg150,
    z138 := Tryd.sizeOf150,
    v138 := Tryd.zeroValue150,
    t139 := Tryd.underlying151,
    a139 := Tryd.isAgg151,
    z139 := Tryd.sizeOf151,
    v139 := Tryd.zeroValue151,
    t146 := Tryd.underlying122,
    a146 := Tryd.isAgg122,
    z146 := Tryd.sizeOf122,
    v146 := Tryd.zeroValue122,
    g1 := by kernel_rfl,
    g3 := by kernel_rfl,
    g4 := by kernel_rfl }
abbrev zq1d := splitT
def zq1e (c : zq1d) : Spec := splitRS 9 c
def zq1f : zq1d := fun x y k => splitF x y k
theorem zq1g : SpecOk Tryd.prog 31 (zq1e zq1f) :=
  splitR_ok zq1c rfl rfl (by kernel_rfl) (of_decide_eq_true (by kernel_rfl)) (fun w0 h0 => Go.Proofs.cell_of_shapedOpen_int (P := Tryd.prog) (g := 2) (t := 3) (zero := #[.int .i64 0]) h0 (of_decide_eq_true (by kernel_rfl)) (by kernel_rfl) rfl (by kernel_rfl) (by kernel_rfl) Tryd.underlying3) ⟨_, Tryd.func31, by kernel_rfl, by kernel_rfl⟩

/-- strconv.Atoi -/
def zq1h : Shelf.Ren :=
      { 
      f := fun x =>
        match x with
        | 172 => 32
        | 244 => 45
        | 245 => 46
        | 247 => 66
        | 279 => 67
        | 280 => 68
        | 281 => 69
        | 282 => 70
        | 287 => 88
        | 316 => 89
        | 171 => 14
        | 205 => 90
        | 321 => 96
        | 322 => 97
        | 243 => 25
        | 246 => 36
        | 283 => 48
        | 284 => 49
        | 285 => 50
        | 286 => 51
        | 129 => 74
        | 317 => 73
        | 318 => 75
        | 319 => 76
        | 320 => 77
        | 337 => 91
        | 338 => 92
        | n => n,
      t := fun x =>
        match x with
        | 9 => 9
        | 3 => 3
        | 75 => 62
        | 76 => 63
        | 4 => 4
        | 5 => 5
        | 167 => 101
        | 37 => 85
        | 0 => 0
        | 85 => 102
        | 2 => 2
        | 168 => 104
        | 53 => 82
        | 175 => 131
        | 46 => 88
        | 210 => 135
        | 127 => 126
        | 145 => 146
        | 143 => 144
        | 21 => 21
        | 171 => 81
        | 173 => 86
        | 212 => 119
        | 51 => 78
        | 20 => 20
        | 213 => 120
        | 232 => 147
        | 233 => 148
        | 80 => 96
        | n => n,
      g := fun x =>
        match x with
        | 15 => 4
        | 16 => 5
        | 17 => 3
        | 18 => 6
        | 19 => 7
        | n => n }
theorem zq1i : Go.Proofs.LaysC.n172 Tryd.prog zq1h :=
  { mixed := by kernel_rfl,
    f129 := Eq.trans Tryd.func74 (congrArg some (by kernel_rfl)),
    f171 := Eq.trans Tryd.func14 (congrArg some (by kernel_rfl)),
    f172 := Eq.trans Tryd.func32 (congrArg some (by kernel_rfl)),
    f205 := Eq.trans Tryd.func90 (congrArg some (by kernel_rfl)),
    f243 := Eq.trans Tryd.func25 (congrArg some (by kernel_rfl)),
    f244 := Eq.trans Tryd.func45 (congrArg some (by kernel_rfl)),
    f245 := Eq.trans Tryd.func46 (congrArg some (by kernel_rfl)),
    f246 := Eq.trans Tryd.func36 (congrArg some (by kernel_rfl)),
    f247 := Eq.trans Tryd.func66 (congrArg some (by kernel_rfl)),
    f279 := Eq.trans Tryd.func67 (congrArg some (by kernel_rfl)),
    f280 := Eq.trans Tryd.func68 (congrArg some (by kernel_rfl)),
    f281 := Eq.trans Tryd.func69 (congrArg some (by kernel_rfl)),
    f282 := Eq.trans Tryd.func70 (congrArg some (by kernel_rfl)),
    f283 := Eq.trans Tryd.func48 (congrArg some (by kernel_rfl)),
    f284 := Eq.trans Tryd.func49 (congrArg some (by kernel_rfl)),
    f285 := Eq.trans Tryd.func50 (congrArg some (by kernel_rfl)),
    f286 := Eq.trans Tryd.func51 (congrArg some (by kernel_rfl)),
    f287 := Eq.trans Tryd.func88 (congrArg some (by kernel_rfl)),
    f316 := Eq.trans Tryd.func89 (congrArg some (by kernel_rfl)),
    f317 := Eq.trans Tryd.func73 (congrArg some (by kernel_rfl)),
    f318 := Eq.trans Tryd.func75 (congrArg some (by kernel_rfl)),
    f319 := Eq.trans Tryd.func76 (congrArg some (by kernel_rfl)),
    f320 := Eq.trans Tryd.func77 (congrArg some (by kernel_rfl)),
    f321 := Eq.trans Tryd.func96 (congrArg some (by kernel_rfl)),
    f322 := Eq.trans Tryd.func97 (congrArg some (by kernel_rfl)),
    f337 := Eq.trans Tryd.func91 (congrArg some (by kernel_rfl)),
    f338 := Eq.trans Tryd.func92 (congrArg some (by kernel_rfl)),
    t0 := Tryd.underlying0,
    a0 := Tryd.isAgg0,
    z0 := Tryd.sizeOf0,
    v0 := Tryd.zeroValue0,
    t2 := Tryd.underlying2,
    a2 := Tryd.isAgg2,
    z2 := Tryd.sizeOf2,
    v2 := Tryd.zeroValue2,
    t3 := Tryd.underlying3,
    a3 := Tryd.isAgg3,
    z3 := Tryd.sizeOf3,
    v3 := Tryd.zeroValue3,
    t4 := Tryd.underlying4,
    a4 := Tryd.isAgg4,
    z4 := Tryd.sizeOf4,
    v4 := Tryd.zeroValue4,
    t5 := Tryd.underlying5,
    a5 := Tryd.isAgg5,
    z5 := Tryd.sizeOf5,
    v5 := Tryd.zeroValue5,
    t9 := Tryd.underlying9,
    a9 := Tryd.isAgg9,
    z9 := Tryd.sizeOf9,
    v9 := Tryd.zeroValue9,
    t20 := Tryd.underlying20,
    a20 := Tryd.isAgg20,
    z20 := Tryd.sizeOf20,
    v20 := Tryd.zeroValue20,
    t21 := Tryd.underlying21,
    a21 := Tryd.isAgg21,
    z21 := Tryd.sizeOf21,
    v21 := Tryd.zeroValue21,
    t37 := Tryd.underlying85,
    a37 := Tryd.isAgg85,
    z37 := Tryd.sizeOf85,
    v37 := Tryd.zeroValue85,
    t46 := Tryd.underlying88,
    a46 := Tryd.isAgg88,
    z46 := Tryd.sizeOf88,
    v46 := Tryd.zeroValue88,
    t51 := Tryd.underlying78,
    a51 := Tryd.isAgg78,
    z51 := Tryd.sizeOf78,
    v51 := Tryd.zeroValue78,
    t53 := Tryd.underlying82,
    a53 := Tryd.isAgg82,
    z53 := Tryd.sizeOf82,
    v53 := Tryd.zeroValue82,
    t75 := Tryd.underlying62,
    a75 := Tryd.isAgg62,
    z75 := Tryd.sizeOf62,
    v75 := Tryd.zeroValue62,
    t76 := Tryd.underlying63,
    a76 := Tryd.isAgg63,
    z76 := Tryd.sizeOf63,
    v76 := Tryd.zeroValue63,
    t85 := Tryd.underlying102,
    a85 := Tryd.isAgg102,
    z85 := Tryd.sizeOf102,
    v85 := Tryd.zeroValue102,
    t127 := Tryd.underlying126,
    a127 := Tryd.isAgg126,
    z127 := Tryd.sizeOf126,
    v127 := Tryd.zeroValue126,
    t143 := Tryd.underlying144,
    a143 := Tryd.isAgg144,
    z143 := Tryd.sizeOf144,
    v143 := Tryd.zeroValue144,
    t145 := Tryd.underlying146,
    a145 := Tryd.isAgg146,
    z145 := Tryd.sizeOf146,
    v145 := Tryd.zeroValue146,
    t167 := Tryd.underlying101,
    a167 := Tryd.isAgg101,
    z167 := Tryd.sizeOf101,
    v167 := Tryd.zeroValue101,
    t168 := Tryd.underlying104,
    a168 := Tryd.isAgg104,
    z168 := Tryd.sizeOf104,
    v168 := Tryd.zeroValue104,
    t171 := Tryd.underlying81,
    a171 := Tryd.isAgg81,
    z171 := Tryd.sizeOf81,
    v171 := Tryd.zeroValue81,
    t173 := Tryd.underlying86,
    a173 := Tryd.isAgg86,
    z173 := Tryd.sizeOf86,
    v173 := Tryd.zeroValue86,
    t175 := Tryd.underlying131,
    a175 := Tryd.isAgg131,
    z175 := Tryd.sizeOf131,
    v175 := Tryd.zeroValue131,
    t210 := Tryd.underlying135,
    a210 := Tryd.isAgg135,
    z210 := Tryd.sizeOf135,
    v210 := Tryd.zeroValue135,
    t212 := Tryd.underlying119,
    a212 := Tryd.isAgg119,
    z212 := Tryd.sizeOf119,
    v212 := Tryd.zeroValue119,
    t213 := Tryd.underlying120,
    a213 := Tryd.isAgg120,
    z213 := Tryd.sizeOf120,
    t232 := Tryd.underlying147,
    a232 := Tryd.isAgg147,
    z232 := Tryd.sizeOf147,
    v232 := Tryd.zeroValue147,
    t233 := Tryd.underlying148,
    a233 := Tryd.isAgg148,
    z233 := Tryd.sizeOf148,
    v233 := Tryd.zeroValue148,
    g15 := by kernel_rfl,
    g16 := by kernel_rfl,
    g17 := by kernel_rfl,
    g18 := by kernel_rfl,
    g19 := by kernel_rfl,
    t80 := Tryd.underlying96,
    a80 := Tryd.isAgg96,
    z80 := Tryd.sizeOf96,
    v80 := Tryd.zeroValue96,
    i0 := by kernel_rfl,
    i2 := by kernel_rfl,
    i3 := by kernel_rfl,
    i4 := by kernel_rfl,
    i5 := by kernel_rfl,
    i9 := by kernel_rfl,
    i20 := by kernel_rfl,
    i21 := by kernel_rfl,
    i37 := by kernel_rfl,
    i46 := by kernel_rfl,
    i51 := by kernel_rfl,
    i53 := by kernel_rfl,
    i75 := by kernel_rfl,
    i76 := by kernel_rfl,
    i80 := by kernel_rfl,
    i85 := by kernel_rfl,
    i127 := by kernel_rfl,
    i143 := by kernel_rfl,
    i145 := by kernel_rfl,
    i167 := by kernel_rfl,
    i168 := by kernel_rfl,
    i171 := by kernel_rfl,
    i173 := by kernel_rfl,
    i175 := by kernel_rfl,
    i210 := by kernel_rfl,
    i212 := by kernel_rfl,
    i232 := by kernel_rfl,
    i233 := by kernel_rfl,
    m15 := by kernel_rfl,
    m16 := by kernel_rfl,
    m17 := by kernel_rfl,
    m18 := by kernel_rfl,
    m19 := by kernel_rfl,
    c0 := by kernel_rfl,
    c2 := by kernel_rfl,
    c3 := by kernel_rfl,
    c4 := by kernel_rfl,
    c5 := by kernel_rfl,
    c9 := by kernel_rfl,
    c20 := by kernel_rfl,
    c21 := by kernel_rfl,
    c37 := by kernel_rfl,
    c46 := by kernel_rfl,
    c51 := by kernel_rfl,
    c53 := by kernel_rfl,
    c75 := by kernel_rfl,
    c76 := by kernel_rfl,
    c80 := by kernel_rfl,
    c85 := by kernel_rfl,
    c127 := by kernel_rfl,
    c143 := by kernel_rfl,
    c145 := by kernel_rfl,
    c167 := by kernel_rfl,
    c168 := by kernel_rfl,
    c171 := by kernel_rfl,
    c173 := by kernel_rfl,
    c175 := by kernel_rfl,
    c210 := by kernel_rfl,
    c212 := by kernel_rfl,
    c213 := by kernel_rfl,
    c232 := by kernel_rfl,
    c233 := by kernel_rfl }
abbrev zq1j := atoiT
def zq1k (c : zq1j) : Spec := atoiS c
def zq1l : zq1j := fun x k => atoiF x k
theorem zq1m : SpecOk Tryd.prog 32 (zq1k zq1l) :=
  atoi_ok zq1i rfl (by kernel_rfl) (by kernel_rfl) ⟨_, Tryd.func32, by kernel_rfl, by kernel_rfl⟩

/-- strings.Repeat -/
def zq1n : Shelf.Ren :=
      { 
      f := fun x =>
        match x with
        | 105 => 37
        | 212 => 52
        | 99 => 53
        | 165 => 54
        | 166 => 55
        | 170 => 56
        | 169 => 57
        | 263 => 78
        | 264 => 79
        | 206 => 80
        | 240 => 81
        | 241 => 82
        | 276 => 93
        | 277 => 94
        | n => n,
      t := fun x =>
        match x with
        | 9 => 9
        | 3 => 3
        | 4 => 4
        | 20 => 20
        | 0 => 0
        | 46 => 88
        | 109 => 89
        | 5 => 5
        | 72 => 93
        | 76 => 63
        | 51 => 78
        | 146 => 122
        | 53 => 82
        | 148 => 124
        | 70 => 91
        | 37 => 85
        | 75 => 62
        | 127 => 126
        | 164 => 140
        | 80 => 96
        | n => n,
      g := fun x => x }
theorem zq1o : Go.Proofs.Lays.n105 Tryd.prog zq1n :=
  { mixed := by kernel_rfl,
    f99 := Eq.trans Tryd.func53 (congrArg some (by kernel_rfl)),
    f105 := Eq.trans Tryd.func37 (congrArg some (by kernel_rfl)),
    f165 := Eq.trans Tryd.func54 (congrArg some (by kernel_rfl)),
    f166 := Eq.trans Tryd.func55 (congrArg some (by kernel_rfl)),
    f169 := Eq.trans Tryd.func57 (congrArg some (by kernel_rfl)),
    f170 := Eq.trans Tryd.func56 (congrArg some (by kernel_rfl)),
    f206 := Eq.trans Tryd.func80 (congrArg some (by kernel_rfl)),
    f212 := Eq.trans Tryd.func52 (congrArg some (by kernel_rfl)),
    f240 := Eq.trans Tryd.func81 (congrArg some (by kernel_rfl)),
    f241 := Eq.trans Tryd.func82 (congrArg some (by kernel_rfl)),
    f263 := Eq.trans Tryd.func78 (congrArg some (by kernel_rfl)),
    f264 := Eq.trans Tryd.func79 (congrArg some (by kernel_rfl)),
    f276 := Eq.trans Tryd.func93 (congrArg some (by kernel_rfl)),
    f277 := Eq.trans Tryd.func94 (congrArg some (by kernel_rfl)),
    t0 := Tryd.underlying0,
    a0 := Tryd.isAgg0,
    z0 := Tryd.sizeOf0,
    v0 := Tryd.zeroValue0,
    t3 := Tryd.underlying3,
    a3 := Tryd.isAgg3,
    z3 := Tryd.sizeOf3,
    v3 := Tryd.zeroValue3,
    t4 := Tryd.underlying4,
    a4 := Tryd.isAgg4,
    z4 := Tryd.sizeOf4,
    v4 := Tryd.zeroValue4,
    t5 := Tryd.underlying5,
    a5 := Tryd.isAgg5,
    z5 := Tryd.sizeOf5,
    v5 := Tryd.zeroValue5,
    t9 := Tryd.underlying9,
    a9 := Tryd.isAgg9,
    z9 := Tryd.sizeOf9,
    v9 := Tryd.zeroValue9,
    t20 := Tryd.underlying20,
    a20 := Tryd.isAgg20,
    z20 := Tryd.sizeOf20,
    v20 := Tryd.zeroValue20,
    t37 := Tryd.underlying85,
    a37 := Tryd.isAgg85,
    z37 := Tryd.sizeOf85,
    v37 := Tryd.zeroValue85,
    t46 := Tryd.underlying88,
    a46 := Tryd.isAgg88,
    z46 := Tryd.sizeOf88,
    v46 := Tryd.zeroValue88,
    t51 := Tryd.underlying78,
    a51 := Tryd.isAgg78,
    z51 := Tryd.sizeOf78,
    v51 := Tryd.zeroValue78,
    t53 := Tryd.underlying82,
    a53 := Tryd.isAgg82,
    z53 := Tryd.sizeOf82,
    v53 := Tryd.zeroValue82,
    t70 := Tryd.underlying91,
    a70 := Tryd.isAgg91,
    z70 := Tryd.sizeOf91,
    v70 := Tryd.zeroValue91,
    t72 := Tryd.underlying93,
    a72 := Tryd.isAgg93,
    z72 := Tryd.sizeOf93,
    v72 := Tryd.zeroValue93,
    t75 := Tryd.underlying62,
    a75 := Tryd.isAgg62,
    z75 := Tryd.sizeOf62,
    v75 := Tryd.zeroValue62,
    t76 := Tryd.underlying63,
    a76 := Tryd.isAgg63,
    z76 := Tryd.sizeOf63,
    v76 := Tryd.zeroValue63,
    t109 := Tryd.underlying89,
    a109 := Tryd.isAgg89,
    z109 := Tryd.sizeOf89,
    v109 := Tryd.zeroValue89,
    t127 := Tryd.underlying126,
    a127 := Tryd.isAgg126,
    z127 := Tryd.sizeOf126,
    v127 := Tryd.zeroValue126,
    t146 := Tryd.underlying122,
    a146 := Tryd.isAgg122,
    z146 := Tryd.sizeOf122,
    v146 := Tryd.zeroValue122,
    t148 := Tryd.underlying124,
    a148 := Tryd.isAgg124,
    z148 := Tryd.sizeOf124,
    v148 := Tryd.zeroValue124,
    t164 := Tryd.underlying140,
    a164 := Tryd.isAgg140,
    z164 := Tryd.sizeOf140,
    v164 := Tryd.zeroValue140 }
abbrev zq1p := repeatT
def zq1q (c : zq1p) : Spec := repeatS c
def zq1r : zq1p := fun x y k => repeatF x y k
theorem zq1s : SpecOk Tryd.prog 37 (zq1q zq1r) :=
  repeat_ok zq1o { sizeBuilder := by kernel_rfl, liesBuilder := by kernel_rfl, t5 := Tryd.underlying5, a5 := Tryd.isAgg5, z5 := Tryd.sizeOf5, v5 := Tryd.zeroValue5, infoByte := by kernel_rfl, cellsByte := by kernel_rfl, sizeByte := by kernel_rfl, neB5 := by decide } rfl ⟨_, Tryd.func37, by kernel_rfl, by kernel_rfl⟩

/-- pagewatch/civil.floor -/
abbrev zq1t := {β : Type} → Int → Int → (Int → Option β) → Option β
def zq1u (c : zq1t) : Spec :=
  ⟨[(false, [.data (.int .i64)]), (false, [.data (.int .i64)])], [], [(false, [.data (.int .i64)])], [], fun x k => c x.1.1.1 x.1.2.1.1 (fun r0 => k (((r0, ()), ()), ()))⟩
section
@[reducible] def civil_floor_X : Ctx := ⟨look tab, pick1 [], false, false, false, false⟩
def zq1v {β : Type} (a : Int) (b : Int) (k : (Int → Option β)) : Option β :=
  cond (!decide (b = 0))
  (let q : Int := (IntKind.i64.wrap (Int.tdiv a b));
  cond (!decide (b = 0))
  (cond (decide ((Int.tmod a b) < (0 : Int)))
  (let q2 : Int := (IntKind.i64.wrap (q - (1 : Int)));
  k q2)
  (k q))
  none)
  none
theorem zq1w (hΓ : ΓOk Tryd.prog civil_floor_X.Γ) : SpecOk Tryd.prog 58 (zq1u (zq1v)) :=
  spec_exec (X := civil_floor_X) (Λ := pick1 []) (rs := [.tmp 4]) (c := bodyOf Tryd.f58) mixed tab_ok hΓ Tryd.func58 (by kernel_rfl) (by kernel_rfl) (by kernel_rfl) (by kernel_rfl) CutsOk_nil (fun x k r h => Eq.trans (b := (zq1u (zq1v)).run x k) (by kernel_rfl) h)
end
theorem zq1xΓ : ΓOk Tryd.prog (pick1 []) := ΓOk_nil
def zq1y : zq1t := zq1v
theorem zq1z : SpecOk Tryd.prog 58 (zq1u zq1y) := zq1w zq1xΓ

/-- pagewatch/civil.Leap -/
abbrev zq20 := {β : Type} → Int → (Bool → Option β) → Option β
def zq21 (c : zq20) : Spec :=
  ⟨[(false, [.data (.int .i64)])], [], [(false, [.data .bool])], [], fun x k => c x.1.1.1 (fun r0 => k (((r0, ()), ()), ()))⟩
section
@[reducible] def civil_Leap_X : Ctx := ⟨look tab, pick1 [], false, false, false, false⟩
def zq22 {β : Type} (year : Int) (k : (Bool → Option β)) : Option β :=
  cond (!decide ((4 : Int) = 0))
  (cond (decide ((Int.tmod year (4 : Int)) = (0 : Int)))
  (cond (!decide ((100 : Int) = 0))
  (cond (!decide ((Int.tmod year (100 : Int)) = (0 : Int)))
  (k true)
  (cond (!decide ((400 : Int) = 0))
  (let t : Bool := (decide ((Int.tmod year (400 : Int)) = (0 : Int)));
  k t)
  none))
  none)
  (k false))
  none
theorem zq23 (hΓ : ΓOk Tryd.prog civil_Leap_X.Γ) : SpecOk Tryd.prog 59 (zq21 (zq22)) :=
  spec_exec (X := civil_Leap_X) (Λ := pick1 []) (rs := [.tmp 2]) (c := bodyOf Tryd.f59) mixed tab_ok hΓ Tryd.func59 (by kernel_rfl) (by kernel_rfl) (by kernel_rfl) (by kernel_rfl) CutsOk_nil (fun x k r h => Eq.trans (b := (zq21 (zq22)).run x k) (by kernel_rfl) h)
end
theorem zq24Γ : ΓOk Tryd.prog (pick1 []) := ΓOk_nil
def zq25 : zq20 := zq22
theorem zq26 : SpecOk Tryd.prog 59 (zq21 zq25) := zq23 zq24Γ

/-- pagewatch/lexer.Name -/
abbrev zq27 := {β : Type} → (List UInt8) → (Bool → Option β) → Option β
def zq28 (c : zq27) : Spec :=
  ⟨[(false, [.data .str])], [], [(false, [.data .bool])], [], fun x k => c x.1.1.1 (fun r0 => k (((r0, ()), ()), ()))⟩
noncomputable def lexer_Name_p1_code : Code := codeAt 58 (bodyOf Tryd.f7)
abbrev zq29 (β : Type) := Bool → Option β
abbrev zq2a (β : Type) := Unit → Option β
abbrev zq2b := {β : Type} → zq29 β → zq2a β → (List UInt8) → Int → Int → Option β
def zq2c : View := ⟨0, [0, 19, 20], [(false, [.data .str]), (false, [.data (.int .i64)]), (false, [.data (.int .i64)])], []⟩
def zq2d : List (AExit × View) := [(.ret, ⟨0, [2], [(false, [.data .bool])], []⟩), (.exit 0, ⟨0, [], [], []⟩)]
@[reducible] def lexer_Name_p1_G (p : zq2b) {β : Type} (d : zq2c.den) (ks : Outs.K β zq2d) : Option β :=
  p (fun a0 => ks.1 (((a0, ()), ()), ())) (fun _ => ks.2.1 ((), ())) d.1.1.1 d.1.2.1.1 d.1.2.2.1.1
section
variable (c_lexer_digit : zqg) (c_lexer_small : zq9)
@[reducible] def lexer_Name_X : Ctx := ⟨look tab, pick1 [(12, .spec (zqh c_lexer_digit)), (11, .spec (zqa c_lexer_small))], false, false, false, false⟩
def zq2e {β : Type} (rec : (List UInt8) → Int → Int → Option β) (k1 : zq29 β) (k2 : zq2a β) (s : List UInt8) (t19 : Int) (t20 : Int) : Option β :=
  cond (decide (t20 < t19))
  (cond (decide (0 ≤ t20) && decide (t20 < (List.length s : Int)))
  (let c : Int := ((List.getD s (Int.toNat t20) 0).toNat : Int);
  c_lexer_small c (fun (rsmall : Bool) =>
  cond (!rsmall)
  (c_lexer_digit c (fun (rdigit : Bool) =>
  cond (!rdigit)
  (cond (!decide (c = (95 : Int)))
  (cond (!decide (c = (45 : Int)))
  (k1 false)
  (rec s t19 (IntKind.i64.wrap (t20 + (1 : Int)))))
  (rec s t19 (IntKind.i64.wrap (t20 + (1 : Int)))))
  (rec s t19 (IntKind.i64.wrap (t20 + (1 : Int))))))
  (rec s t19 (IntKind.i64.wrap (t20 + (1 : Int))))))
  none)
  (k2 ())
def zq2f {β : Type} : Nat → zq29 β → zq2a β → (List UInt8) → Int → Int → Option β
  | 0 => fun _ _ _ _ _ => none
  | i + 1 => fun k1 k2 s t19 t20 => zq2e c_lexer_digit c_lexer_small (zq2f i k1 k2) k1 k2 s t19 t20
theorem zq2g (hΓ : ΓOk Tryd.prog (lexer_Name_X c_lexer_digit c_lexer_small).Γ) (i : Nat) : PieceOk Tryd.prog 43 0 lexer_Name_p1_code zq2c zq2d (lexer_Name_p1_G (zq2f c_lexer_digit c_lexer_small i)) := by
  rw [show lexer_Name_p1_code = .loop (loopBody lexer_Name_p1_code) by kernel_rfl]
  exact piece_loop (X := (lexer_Name_X c_lexer_digit c_lexer_small)) (p := 1) (Λ := pick1 []) (G := fun i => @fun β d ks => lexer_Name_p1_G (zq2f c_lexer_digit c_lexer_small i) d ks) mixed tab_ok hΓ rfl (by kernel_rfl) CutsOk_nil (fun _ _ => rfl) (fun i => @fun β d ks r h => Eq.trans (b := lexer_Name_p1_G (zq2f c_lexer_digit c_lexer_small (i + 1)) d ks) (by kernel_rfl) h) i
def zq2h (p1 : zq2b) {β : Type} (s : List UInt8) (k : (Bool → Option β)) : Option β :=
  cond (decide (s = ([] : List UInt8)))
  (k false)
  (cond (decide ((24 : Int) < (List.length s : Int)))
  (k false)
  (cond (decide (0 ≤ (0 : Int)) && decide ((0 : Int) < (List.length s : Int)))
  (c_lexer_small ((List.getD s (Int.toNat (0 : Int)) 0).toNat : Int) (fun (rsmall : Bool) =>
  cond (!rsmall)
  (k false)
  (p1 (fun (t2 : Bool) =>
  k t2) (fun (_ : Unit) =>
  k true) s (List.length s : Int) (0 : Int))))
  none))
theorem zq2i (hΓ : ΓOk Tryd.prog (lexer_Name_X c_lexer_digit c_lexer_small).Γ) (p1 : zq2b) (hp1 : PieceOk Tryd.prog 43 0 lexer_Name_p1_code zq2c zq2d (lexer_Name_p1_G p1)) : SpecOk Tryd.prog 7 (zq28 (zq2h c_lexer_small p1)) :=
  spec_exec (X := (lexer_Name_X c_lexer_digit c_lexer_small)) (Λ := pick1 [(58, pieceCut zq2c zq2d (lexer_Name_p1_G p1))]) (rs := [.tmp 2]) (c := bodyOf Tryd.f7) mixed tab_ok hΓ Tryd.func7 (by kernel_rfl) (by kernel_rfl) (by kernel_rfl) (by kernel_rfl) (CutsOk_cons (q := 58) (c' := lexer_Name_p1_code) (by kernel_rfl) rfl hp1 CutsOk_nil) (fun x k r h => Eq.trans (b := (zq28 (zq2h c_lexer_small p1)).run x k) (by kernel_rfl) h)
end
theorem zq2jΓ : ΓOk Tryd.prog (pick1 [(12, .spec (zqh zql)), (11, .spec (zqa zqe))]) := (ΓOk_cons zqm (ΓOk_cons zqf ΓOk_nil))
def zq2k (m : Nat) : zq2b := zq2f zql zqe m
theorem zq2l {β : Type} (i : Nat) (k1 k2 s t19 t20) : (zq2k (i + 1) k1 k2 s t19 t20 : Option β) = zq2e zql zqe (zq2k i k1 k2) k1 k2 s t19 t20 := rfl
def zq2m : zq2b := zq2k fuel
theorem zq2n : PieceOk Tryd.prog 43 0 lexer_Name_p1_code zq2c zq2d (lexer_Name_p1_G zq2m) := zq2g zql zqe zq2jΓ fuel
def zq2o : zq27 := zq2h zqe zq2m
theorem zq2p : SpecOk Tryd.prog 7 (zq28 zq2o) := zq2i zql zqe zq2jΓ zq2m zq2n

/-- pagewatch/lexer.number -/
abbrev zq2q := {β : Type} → (List UInt8) → (Int → Bool → Option β) → Option β
def zq2r (c : zq2q) : Spec :=
  ⟨[(false, [.data .str])], [], [(false, [.data (.int .i64)]), (false, [.data .bool])], [], fun x k => c x.1.1.1 (fun r0 r1 => k (((r0, ()), (r1, ()), ()), ()))⟩
noncomputable def lexer_number_p1_code : Code := codeAt 26 (bodyOf Tryd.f22)
abbrev zq2s (β : Type) := Int → Bool → Option β
abbrev zq2t (β : Type) := (List UInt8) → Option β
abbrev zq2u := {β : Type} → zq2s β → zq2t β → (List UInt8) → Int → Int → Option β
def zq2v : View := ⟨0, [0, 8, 9], [(false, [.data .str]), (false, [.data (.int .i64)]), (false, [.data (.int .i64)])], []⟩
def zq2w : List (AExit × View) := [(.ret, ⟨0, [2, 3], [(false, [.data (.int .i64)]), (false, [.data .bool])], []⟩), (.exit 0, ⟨0, [0], [(false, [.data .str])], []⟩)]
@[reducible] def lexer_number_p1_G (p : zq2u) {β : Type} (d : zq2v.den) (ks : Outs.K β zq2w) : Option β :=
  p (fun a0 a1 => ks.1 (((a0, ()), (a1, ()), ()), ())) (fun a0 => ks.2.1 (((a0, ()), ()), ())) d.1.1.1 d.1.2.1.1 d.1.2.2.1.1
section
variable (c_lexer_digit : zqg) (c_strconv_Atoi : zq1j)
@[reducible] def lexer_number_X : Ctx := ⟨look tab, pick1 [(12, .spec (zqh c_lexer_digit)), (32, .spec (zq1k c_strconv_Atoi))], false, false, false, false⟩
def zq2x {β : Type} (rec : (List UInt8) → Int → Int → Option β) (k1 : zq2s β) (k2 : zq2t β) (s : List UInt8) (t8 : Int) (t9 : Int) : Option β :=
  cond (decide (t9 < t8))
  (cond (decide (0 ≤ t9) && decide (t9 < (List.length s : Int)))
  (c_lexer_digit ((List.getD s (Int.toNat t9) 0).toNat : Int) (fun (rdigit : Bool) =>
  cond (!rdigit)
  (k1 (0 : Int) false)
  (rec s t8 (IntKind.i64.wrap (t9 + (1 : Int))))))
  none)
  (k2 s)
def zq2y {β : Type} : Nat → zq2s β → zq2t β → (List UInt8) → Int → Int → Option β
  | 0 => fun _ _ _ _ _ => none
  | i + 1 => fun k1 k2 s t8 t9 => zq2x c_lexer_digit (zq2y i k1 k2) k1 k2 s t8 t9
theorem zq2z (hΓ : ΓOk Tryd.prog (lexer_number_X c_lexer_digit c_strconv_Atoi).Γ) (i : Nat) : PieceOk Tryd.prog 31 0 lexer_number_p1_code zq2v zq2w (lexer_number_p1_G (zq2y c_lexer_digit i)) := by
  rw [show lexer_number_p1_code = .loop (loopBody lexer_number_p1_code) by kernel_rfl]
  exact piece_loop (X := (lexer_number_X c_lexer_digit c_strconv_Atoi)) (p := 1) (Λ := pick1 []) (G := fun i => @fun β d ks => lexer_number_p1_G (zq2y c_lexer_digit i) d ks) mixed tab_ok hΓ rfl (by kernel_rfl) CutsOk_nil (fun _ _ => rfl) (fun i => @fun β d ks r h => Eq.trans (b := lexer_number_p1_G (zq2y c_lexer_digit (i + 1)) d ks) (by kernel_rfl) h) i
def zq30 (p1 : zq2u) {β : Type} (s : List UInt8) (k : (Int → Bool → Option β)) : Option β :=
  p1 (fun (t2 : Int) (t3 : Bool) =>
  k t2 t3) (fun (s2 : List UInt8) =>
  c_strconv_Atoi s2 (fun (rAtoi : Int) (rAtoi2 : Bool) =>
  cond rAtoi2
  (let t : Bool := (decide ((List.length s2 : Int) ≤ (9 : Int)));
  k rAtoi t)
  (k rAtoi false))) s (List.length s : Int) (0 : Int)
theorem zq31 (hΓ : ΓOk Tryd.prog (lexer_number_X c_lexer_digit c_strconv_Atoi).Γ) (p1 : zq2u) (hp1 : PieceOk Tryd.prog 31 0 lexer_number_p1_code zq2v zq2w (lexer_number_p1_G p1)) : SpecOk Tryd.prog 22 (zq2r (zq30 c_strconv_Atoi p1)) :=
  spec_exec (X := (lexer_number_X c_lexer_digit c_strconv_Atoi)) (Λ := pick1 [(26, pieceCut zq2v zq2w (lexer_number_p1_G p1))]) (rs := [.tmp 2, .tmp 3]) (c := bodyOf Tryd.f22) mixed tab_ok hΓ Tryd.func22 (by kernel_rfl) (by kernel_rfl) (by kernel_rfl) (by kernel_rfl) (CutsOk_cons (q := 26) (c' := lexer_number_p1_code) (by kernel_rfl) rfl hp1 CutsOk_nil) (fun x k r h => Eq.trans (b := (zq2r (zq30 c_strconv_Atoi p1)).run x k) (by kernel_rfl) h)
end
theorem zq32Γ : ΓOk Tryd.prog (pick1 [(12, .spec (zqh zql)), (32, .spec (zq1k zq1l))]) := (ΓOk_cons zqm (ΓOk_cons zq1m ΓOk_nil))
def zq33 (m : Nat) : zq2u := zq2y zql m
theorem zq34 {β : Type} (i : Nat) (k1 k2 s t8 t9) : (zq33 (i + 1) k1 k2 s t8 t9 : Option β) = zq2x zql (zq33 i k1 k2) k1 k2 s t8 t9 := rfl
def zq35 : zq2u := zq33 fuel
theorem zq36 : PieceOk Tryd.prog 31 0 lexer_number_p1_code zq2v zq2w (lexer_number_p1_G zq35) := zq2z zql zq1l zq32Γ fuel
def zq37 : zq2q := zq30 zq1l zq35
theorem zq38 : SpecOk Tryd.prog 22 (zq2r zq37) := zq31 zql zq1l zq32Γ zq35 zq36

/-- pagewatch/lexer.digits -/
abbrev zq39 := {β : Type} → Int → Int → ((List UInt8) → Option β) → Option β
def zq3a (c : zq39) : Spec :=
  ⟨[(false, [.data (.int .i64)]), (false, [.data (.int .i64)])], [], [(false, [.data .str])], [], fun x k => c x.1.1.1 x.1.2.1.1 (fun r0 => k (((r0, ()), ()), ()))⟩
section
variable (c_strconv_Itoa : zqp) (c_strings_Repeat : zq1p)
@[reducible] def lexer_digits_X : Ctx := ⟨look tab, pick1 [(14, .spec (zqq c_strconv_Itoa)), (37, .spec (zq1q c_strings_Repeat))], false, false, false, false⟩
def zq3b {β : Type} (x : Int) (n : Int) (k : ((List UInt8) → Option β)) : Option β :=
  c_strconv_Itoa x (fun (rItoa : List UInt8) =>
  c_strings_Repeat ([48] : List UInt8) (if (IntKind.i64.wrap (n - (List.length rItoa : Int))) > (0 : Int) then (IntKind.i64.wrap (n - (List.length rItoa : Int))) else (0 : Int)) (fun (rRepeat : List UInt8) =>
  cond (decide (List.length rRepeat + List.length rItoa ≤ 9223372036854775807))
  (k (rRepeat ++ rItoa))
  none))
theorem zq3c (hΓ : ΓOk Tryd.prog (lexer_digits_X c_strconv_Itoa c_strings_Repeat).Γ) : SpecOk Tryd.prog 26 (zq3a (zq3b c_strconv_Itoa c_strings_Repeat)) :=
  spec_exec (X := (lexer_digits_X c_strconv_Itoa c_strings_Repeat)) (Λ := pick1 []) (rs := [.tmp 4]) (c := bodyOf Tryd.f26) mixed tab_ok hΓ Tryd.func26 (by kernel_rfl) (by kernel_rfl) (by kernel_rfl) (by kernel_rfl) CutsOk_nil (fun x k r h => Eq.trans (b := (zq3a (zq3b c_strconv_Itoa c_strings_Repeat)).run x k) (by kernel_rfl) h)
end
theorem zq3dΓ : ΓOk Tryd.prog (pick1 [(14, .spec (zqq zqr)), (37, .spec (zq1q zq1r))]) := (ΓOk_cons zqs (ΓOk_cons zq1s ΓOk_nil))
def zq3e : zq39 := zq3b zqr zq1r
theorem zq3f : SpecOk Tryd.prog 26 (zq3a zq3e) := zq3c zqr zq1r zq3dΓ

/-- pagewatch/lexer.two -/
abbrev zq3g := {β : Type} → (List UInt8) → (Int → Bool → Option β) → Option β
def zq3h (c : zq3g) : Spec :=
  ⟨[(false, [.data .str])], [], [(false, [.data (.int .i64)]), (false, [.data .bool])], [], fun x k => c x.1.1.1 (fun r0 r1 => k (((r0, ()), (r1, ()), ()), ()))⟩
section
variable (c_lexer_number : zq2q)
@[reducible] def lexer_two_X : Ctx := ⟨look tab, pick1 [(22, .spec (zq2r c_lexer_number))], false, false, false, false⟩
def zq3i {β : Type} (s : List UInt8) (k : (Int → Bool → Option β)) : Option β :=
  c_lexer_number s (fun (rnumber : Int) (rnumber2 : Bool) =>
  cond rnumber2
  (let t : Bool := (decide ((List.length s : Int) = (2 : Int)));
  k rnumber t)
  (k rnumber false))
theorem zq3j (hΓ : ΓOk Tryd.prog (lexer_two_X c_lexer_number).Γ) : SpecOk Tryd.prog 29 (zq3h (zq3i c_lexer_number)) :=
  spec_exec (X := (lexer_two_X c_lexer_number)) (Λ := pick1 []) (rs := [.tmp 2, .tmp 3]) (c := bodyOf Tryd.f29) mixed tab_ok hΓ Tryd.func29 (by kernel_rfl) (by kernel_rfl) (by kernel_rfl) (by kernel_rfl) CutsOk_nil (fun x k r h => Eq.trans (b := (zq3h (zq3i c_lexer_number)).run x k) (by kernel_rfl) h)
end
theorem zq3kΓ : ΓOk Tryd.prog (pick1 [(22, .spec (zq2r zq37))]) := (ΓOk_cons zq38 ΓOk_nil)
def zq3l : zq3g := zq3i zq37
theorem zq3m : SpecOk Tryd.prog 29 (zq3h zq3l) := zq3j zq37 zq3kΓ

/-- pagewatch/civil.count -/
abbrev zq3n := {β : Type} → Int → (Int → Option β) → Option β
def zq3o (c : zq3n) : Spec :=
  ⟨[(false, [.data (.int .i64)])], [], [(false, [.data (.int .i64)])], [], fun x k => c x.1.1.1 (fun r0 => k (((r0, ()), ()), ()))⟩
section
variable (c_civil_floor : zq1t)
@[reducible] def civil_count_X : Ctx := ⟨look tab, pick1 [(58, .spec (zq1u c_civil_floor))], false, false, false, false⟩
def zq3p {β : Type} (year : Int) (k : (Int → Option β)) : Option β :=
  let y : Int := (IntKind.i64.wrap (year - (1 : Int)));
  c_civil_floor y (4 : Int) (fun (rfloor : Int) =>
  c_civil_floor y (100 : Int) (fun (rfloor2 : Int) =>
  c_civil_floor y (400 : Int) (fun (rfloor3 : Int) =>
  let t : Int := (IntKind.i64.wrap ((IntKind.i64.wrap ((IntKind.i64.wrap ((IntKind.i64.wrap ((IntKind.i64.wrap ((365 : Int) * (IntKind.i64.wrap (year - (1970 : Int))))) + rfloor)) - rfloor2)) + rfloor3)) - (477 : Int)));
  k t)))
theorem zq3q (hΓ : ΓOk Tryd.prog (civil_count_X c_civil_floor).Γ) : SpecOk Tryd.prog 38 (zq3o (zq3p c_civil_floor)) :=
  spec_exec (X := (civil_count_X c_civil_floor)) (Λ := pick1 []) (rs := [.tmp 2]) (c := bodyOf Tryd.f38) mixed tab_ok hΓ Tryd.func38 (by kernel_rfl) (by kernel_rfl) (by kernel_rfl) (by kernel_rfl) CutsOk_nil (fun x k r h => Eq.trans (b := (zq3o (zq3p c_civil_floor)).run x k) (by kernel_rfl) h)
end
theorem zq3rΓ : ΓOk Tryd.prog (pick1 [(58, .spec (zq1u zq1y))]) := (ΓOk_cons zq1z ΓOk_nil)
def zq3s : zq3n := zq3p zq1y
theorem zq3t : SpecOk Tryd.prog 38 (zq3o zq3s) := zq3q zq1y zq3rΓ

/-- pagewatch/civil.year -/
abbrev zq3u := {β : Type} → Int → (Int → Option β) → Option β
def zq3v (c : zq3u) : Spec :=
  ⟨[(false, [.data (.int .i64)])], [], [(false, [.data (.int .i64)])], [], fun x k => c x.1.1.1 (fun r0 => k (((r0, ()), ()), ()))⟩
noncomputable def civil_year_p1_code : Code := codeAt 28 (bodyOf Tryd.f39)
abbrev zq3w (β : Type) := Int → Option β
abbrev zq3x := {β : Type} → zq3w β → Int → Int → Option β
def zq3y : View := ⟨0, [0, 3], [(false, [.data (.int .i64)]), (false, [.data (.int .i64)])], []⟩
def zq3z : List (AExit × View) := [(.exit 0, ⟨0, [3], [(false, [.data (.int .i64)])], []⟩)]
@[reducible] def civil_year_p1_G (p : zq3x) {β : Type} (d : zq3y.den) (ks : Outs.K β zq3z) : Option β :=
  p (fun a0 => ks.1 (((a0, ()), ()), ())) d.1.1.1 d.1.2.1.1
section
variable (c_civil_count : zq3n) (c_civil_floor : zq1t)
@[reducible] def civil_year_X : Ctx := ⟨look tab, pick1 [(38, .spec (zq3o c_civil_count)), (58, .spec (zq1u c_civil_floor))], false, false, false, false⟩
def zq40 {β : Type} (rec : Int → Int → Option β) (k1 : zq3w β) (day : Int) (y : Int) : Option β :=
  c_civil_count (IntKind.i64.wrap (y + (1 : Int))) (fun (rcount : Int) =>
  cond (decide (rcount ≤ day))
  (let y2 : Int := (IntKind.i64.wrap (y + (1 : Int)));
  rec day y2)
  (k1 y))
def zq41 {β : Type} : Nat → zq3w β → Int → Int → Option β
  | 0 => fun _ _ _ => none
  | i + 1 => fun k1 day y => zq40 c_civil_count (zq41 i k1) k1 day y
theorem zq42 (hΓ : ΓOk Tryd.prog (civil_year_X c_civil_count c_civil_floor).Γ) (i : Nat) : PieceOk Tryd.prog 15 0 civil_year_p1_code zq3y zq3z (civil_year_p1_G (zq41 c_civil_count i)) := by
  rw [show civil_year_p1_code = .loop (loopBody civil_year_p1_code) by kernel_rfl]
  exact piece_loop (X := (civil_year_X c_civil_count c_civil_floor)) (p := 1) (Λ := pick1 []) (G := fun i => @fun β d ks => civil_year_p1_G (zq41 c_civil_count i) d ks) mixed tab_ok hΓ rfl (by kernel_rfl) CutsOk_nil (fun _ _ => rfl) (fun i => @fun β d ks r h => Eq.trans (b := civil_year_p1_G (zq41 c_civil_count (i + 1)) d ks) (by kernel_rfl) h) i
def zq43 (p1 : zq3x) {β : Type} (day : Int) (k : (Int → Option β)) : Option β :=
  c_civil_floor day (366 : Int) (fun (rfloor : Int) =>
  let y : Int := (IntKind.i64.wrap ((1970 : Int) + rfloor));
  p1 (fun (y2 : Int) =>
  k y2) day y)
theorem zq44 (hΓ : ΓOk Tryd.prog (civil_year_X c_civil_count c_civil_floor).Γ) (p1 : zq3x) (hp1 : PieceOk Tryd.prog 15 0 civil_year_p1_code zq3y zq3z (civil_year_p1_G p1)) : SpecOk Tryd.prog 39 (zq3v (zq43 c_civil_floor p1)) :=
  spec_exec (X := (civil_year_X c_civil_count c_civil_floor)) (Λ := pick1 [(28, pieceCut zq3y zq3z (civil_year_p1_G p1))]) (rs := [.tmp 2]) (c := bodyOf Tryd.f39) mixed tab_ok hΓ Tryd.func39 (by kernel_rfl) (by kernel_rfl) (by kernel_rfl) (by kernel_rfl) (CutsOk_cons (q := 28) (c' := civil_year_p1_code) (by kernel_rfl) rfl hp1 CutsOk_nil) (fun x k r h => Eq.trans (b := (zq3v (zq43 c_civil_floor p1)).run x k) (by kernel_rfl) h)
end
theorem zq45Γ : ΓOk Tryd.prog (pick1 [(38, .spec (zq3o zq3s)), (58, .spec (zq1u zq1y))]) := (ΓOk_cons zq3t (ΓOk_cons zq1z ΓOk_nil))
def zq46 (m : Nat) : zq3x := zq41 zq3s m
theorem zq47 {β : Type} (i : Nat) (k1 day y) : (zq46 (i + 1) k1 day y : Option β) = zq40 zq3s (zq46 i k1) k1 day y := rfl
def zq48 : zq3x := zq46 fuel
theorem zq49 : PieceOk Tryd.prog 15 0 civil_year_p1_code zq3y zq3z (civil_year_p1_G zq48) := zq42 zq3s zq1y zq45Γ fuel
def zq4a : zq3u := zq43 zq1y zq48
theorem zq4b : SpecOk Tryd.prog 39 (zq3v zq4a) := zq44 zq3s zq1y zq45Γ zq48 zq49

/-- pagewatch/civil.Days -/
abbrev zq4c := {β : Type} → Int → Int → (Int → Option β) → Option β
def zq4d (c : zq4c) : Spec :=
  ⟨[(false, [.data (.int .i64)]), (false, [.data (.int .i64)])], [], [(false, [.data (.int .i64)])], [], fun x k => c x.1.1.1 x.1.2.1.1 (fun r0 => k (((r0, ()), ()), ()))⟩
section
variable (c_civil_Leap : zq20)
@[reducible] def civil_Days_X : Ctx := ⟨look tab, pick1 [(59, .spec (zq21 c_civil_Leap))], false, false, false, false⟩
def zq4e {β : Type} (year : Int) (month : Int) (k : (Int → Option β)) : Option β :=
  cond (decide (month < (1 : Int)))
  (k (0 : Int))
  (cond (decide ((12 : Int) < month))
  (k (0 : Int))
  (cond (decide (month = (2 : Int)))
  (c_civil_Leap year (fun (rLeap : Bool) =>
  cond rLeap
  (k (29 : Int))
  (cond (decide ((IntKind.i64.wrap (month - (1 : Int))) = (0 : Int)))
  (k (31 : Int))
  (cond (decide ((IntKind.i64.wrap (month - (1 : Int))) = (1 : Int)))
  (k (28 : Int))
  (cond (decide ((IntKind.i64.wrap (month - (1 : Int))) = (2 : Int)))
  (k (31 : Int))
  (cond (decide ((IntKind.i64.wrap (month - (1 : Int))) = (3 : Int)))
  (k (30 : Int))
  (cond (decide ((IntKind.i64.wrap (month - (1 : Int))) = (4 : Int)))
  (k (31 : Int))
  (cond (decide ((IntKind.i64.wrap (month - (1 : Int))) = (5 : Int)))
  (k (30 : Int))
  (cond (decide ((IntKind.i64.wrap (month - (1 : Int))) = (6 : Int)))
  (k (31 : Int))
  (cond (decide ((IntKind.i64.wrap (month - (1 : Int))) = (7 : Int)))
  (k (31 : Int))
  (cond (decide ((IntKind.i64.wrap (month - (1 : Int))) = (8 : Int)))
  (k (30 : Int))
  (cond (decide ((IntKind.i64.wrap (month - (1 : Int))) = (9 : Int)))
  (k (31 : Int))
  (cond (decide ((IntKind.i64.wrap (month - (1 : Int))) = (10 : Int)))
  (k (30 : Int))
  (cond (decide ((IntKind.i64.wrap (month - (1 : Int))) = (11 : Int)))
  (k (31 : Int))
  (none)))))))))))))))
  (cond (decide ((IntKind.i64.wrap (month - (1 : Int))) = (0 : Int)))
  (k (31 : Int))
  (cond (decide ((IntKind.i64.wrap (month - (1 : Int))) = (1 : Int)))
  (k (28 : Int))
  (cond (decide ((IntKind.i64.wrap (month - (1 : Int))) = (2 : Int)))
  (k (31 : Int))
  (cond (decide ((IntKind.i64.wrap (month - (1 : Int))) = (3 : Int)))
  (k (30 : Int))
  (cond (decide ((IntKind.i64.wrap (month - (1 : Int))) = (4 : Int)))
  (k (31 : Int))
  (cond (decide ((IntKind.i64.wrap (month - (1 : Int))) = (5 : Int)))
  (k (30 : Int))
  (cond (decide ((IntKind.i64.wrap (month - (1 : Int))) = (6 : Int)))
  (k (31 : Int))
  (cond (decide ((IntKind.i64.wrap (month - (1 : Int))) = (7 : Int)))
  (k (31 : Int))
  (cond (decide ((IntKind.i64.wrap (month - (1 : Int))) = (8 : Int)))
  (k (30 : Int))
  (cond (decide ((IntKind.i64.wrap (month - (1 : Int))) = (9 : Int)))
  (k (31 : Int))
  (cond (decide ((IntKind.i64.wrap (month - (1 : Int))) = (10 : Int)))
  (k (30 : Int))
  (cond (decide ((IntKind.i64.wrap (month - (1 : Int))) = (11 : Int)))
  (k (31 : Int))
  (none)))))))))))))))
theorem zq4f (hΓ : ΓOk Tryd.prog (civil_Days_X c_civil_Leap).Γ) : SpecOk Tryd.prog 40 (zq4d (zq4e c_civil_Leap)) :=
  spec_exec (X := (civil_Days_X c_civil_Leap)) (Λ := pick1 []) (rs := [.tmp 4]) (c := bodyOf Tryd.f40) mixed tab_ok hΓ Tryd.func40 (by kernel_rfl) (by kernel_rfl) (by kernel_rfl) (by kernel_rfl) CutsOk_nil (fun x k r h => Eq.trans (b := (zq4d (zq4e c_civil_Leap)).run x k) (by kernel_rfl) h)
end
theorem zq4gΓ : ΓOk Tryd.prog (pick1 [(59, .spec (zq21 zq25))]) := (ΓOk_cons zq26 ΓOk_nil)
def zq4h : zq4c := zq4e zq25
theorem zq4i : SpecOk Tryd.prog 40 (zq4d zq4h) := zq4f zq25 zq4gΓ

/-- pagewatch/civil.Valid -/
abbrev zq4j := {β : Type} → (Int × (Int × Int)) → (Bool → Option β) → Option β
def zq4k (c : zq4j) : Spec :=
  ⟨[(true, [.data (.prod (.int .i64) (.prod (.int .i64) (.int .i64)))])], [], [(false, [.data .bool])], [], fun x k => c x.1.1.1 (fun r0 => k (((r0, ()), ()), ()))⟩
section
variable (c_civil_Days : zq4c)
@[reducible] def civil_Valid_X : Ctx := ⟨look tab, pick1 [(40, .spec (zq4d c_civil_Days))], false, false, false, false⟩
def zq4l {β : Type} (d : (Int × (Int × Int))) (k : (Bool → Option β)) : Option β :=
  cond (decide ((1970 : Int) ≤ d.1))
  (cond (decide (d.1 ≤ (2240 : Int)))
  (cond (decide ((1 : Int) ≤ d.2.2))
  (c_civil_Days d.1 d.2.1 (fun (rDays : Int) =>
  k (decide (d.2.2 ≤ rDays))))
  (k false))
  (k false))
  (k false)
theorem zq4m (hΓ : ΓOk Tryd.prog (civil_Valid_X c_civil_Days).Γ) : SpecOk Tryd.prog 42 (zq4k (zq4l c_civil_Days)) :=
  spec_exec (X := (civil_Valid_X c_civil_Days)) (Λ := pick1 []) (rs := [.tmp 2]) (c := bodyOf Tryd.f42) mixed tab_ok hΓ Tryd.func42 (by kernel_rfl) (by kernel_rfl) (by kernel_rfl) (by kernel_rfl) CutsOk_nil (fun x k r h => Eq.trans (b := (zq4k (zq4l c_civil_Days)).run x k) (by kernel_rfl) h)
end
theorem zq4nΓ : ΓOk Tryd.prog (pick1 [(40, .spec (zq4d zq4h))]) := (ΓOk_cons zq4i ΓOk_nil)
def zq4o : zq4j := zq4l zq4h
theorem zq4p : SpecOk Tryd.prog 42 (zq4k zq4o) := zq4m zq4h zq4nΓ

/-- pagewatch/civil.number -/
abbrev zq4q := {β : Type} → (Int × (Int × Int)) → (Int → Option β) → Option β
def zq4r (c : zq4q) : Spec :=
  ⟨[(true, [.data (.prod (.int .i64) (.prod (.int .i64) (.int .i64)))])], [], [(false, [.data (.int .i64)])], [], fun x k => c x.1.1.1 (fun r0 => k (((r0, ()), ()), ()))⟩
noncomputable def civil_number_p1_code : Code := codeAt 58 (bodyOf Tryd.f43)
abbrev zq4s (β : Type) := Int → Option β
abbrev zq4t := {β : Type} → zq4s β → Int → Int → Int → Int → Int → Option β
def zq4u : View := ⟨0, [1, 3, 4], [(false, [.ptr 0 0]), (false, [.data (.int .i64)]), (false, [.data (.int .i64)])], [.cells 54 [.data (.int .i64), .data (.int .i64), .data (.int .i64)]]⟩
def zq4v : List (AExit × View) := [(.exit 0, ⟨0, [3], [(false, [.data (.int .i64)])], []⟩)]
@[reducible] def civil_number_p1_G (p : zq4t) {β : Type} (d : zq4u.den) (ks : Outs.K β zq4v) : Option β :=
  p (fun a0 => ks.1 (((a0, ()), ()), ())) d.1.2.1.1 d.1.2.2.1.1 d.2.1.1 d.2.1.2.1 d.2.1.2.2.1
section
variable (c_civil_Days : zq4c) (c_civil_count : zq3n)
@[reducible] def civil_number_X : Ctx := ⟨look tab, pick1 [(40, .spec (zq4d c_civil_Days)), (38, .spec (zq3o c_civil_count))], false, false, false, false⟩
def zq4w {β : Type} (rec : Int → Int → Int → Int → Int → Option β) (k1 : zq4s β) (n : Int) (m : Int) (d : Int) (d2 : Int) (d3 : Int) : Option β :=
  cond (decide (m < d2))
  (c_civil_Days d m (fun (rDays : Int) =>
  let n2 : Int := (IntKind.i64.wrap (n + rDays));
  let m2 : Int := (IntKind.i64.wrap (m + (1 : Int)));
  rec n2 m2 d d2 d3))
  (k1 n)
def zq4x {β : Type} : Nat → zq4s β → Int → Int → Int → Int → Int → Option β
  | 0 => fun _ _ _ _ _ _ => none
  | i + 1 => fun k1 n m d d2 d3 => zq4w c_civil_Days (zq4x i k1) k1 n m d d2 d3
theorem zq4y (hΓ : ΓOk Tryd.prog (civil_number_X c_civil_Days c_civil_count).Γ) (i : Nat) : PieceOk Tryd.prog 25 0 civil_number_p1_code zq4u zq4v (civil_number_p1_G (zq4x c_civil_Days i)) := by
  rw [show civil_number_p1_code = .loop (loopBody civil_number_p1_code) by kernel_rfl]
  exact piece_loop (X := (civil_number_X c_civil_Days c_civil_count)) (p := 1) (Λ := pick1 []) (G := fun i => @fun β d ks => civil_number_p1_G (zq4x c_civil_Days i) d ks) mixed tab_ok hΓ rfl (by kernel_rfl) CutsOk_nil (fun _ _ => rfl) (fun i => @fun β d ks r h => Eq.trans (b := civil_number_p1_G (zq4x c_civil_Days (i + 1)) d ks) (by kernel_rfl) h) i
def zq4z (p1 : zq4t) {β : Type} (d : (Int × (Int × Int))) (k : (Int → Option β)) : Option β :=
  c_civil_count d.1 (fun (rcount : Int) =>
  let n : Int := (IntKind.i64.wrap ((IntKind.i64.wrap (rcount + d.2.2)) - (1 : Int)));
  p1 (fun (n2 : Int) =>
  k n2) n (1 : Int) d.1 d.2.1 d.2.2)
theorem zq50 (hΓ : ΓOk Tryd.prog (civil_number_X c_civil_Days c_civil_count).Γ) (p1 : zq4t) (hp1 : PieceOk Tryd.prog 25 0 civil_number_p1_code zq4u zq4v (civil_number_p1_G p1)) : SpecOk Tryd.prog 43 (zq4r (zq4z c_civil_count p1)) :=
  spec_exec (X := (civil_number_X c_civil_Days c_civil_count)) (Λ := pick1 [(58, pieceCut zq4u zq4v (civil_number_p1_G p1))]) (rs := [.tmp 2]) (c := bodyOf Tryd.f43) mixed tab_ok hΓ Tryd.func43 (by kernel_rfl) (by kernel_rfl) (by kernel_rfl) (by kernel_rfl) (CutsOk_cons (q := 58) (c' := civil_number_p1_code) (by kernel_rfl) rfl hp1 CutsOk_nil) (fun x k r h => Eq.trans (b := (zq4r (zq4z c_civil_count p1)).run x k) (by kernel_rfl) h)
end
theorem zq51Γ : ΓOk Tryd.prog (pick1 [(40, .spec (zq4d zq4h)), (38, .spec (zq3o zq3s))]) := (ΓOk_cons zq4i (ΓOk_cons zq3t ΓOk_nil))
def zq52 (m : Nat) : zq4t := zq4x zq4h m
theorem zq53 {β : Type} (i : Nat) (k1 n m d d2 d3) : (zq52 (i + 1) k1 n m d d2 d3 : Option β) = zq4w zq4h (zq52 i k1) k1 n m d d2 d3 := rfl
def zq54 : zq4t := zq52 fuel
theorem zq55 : PieceOk Tryd.prog 25 0 civil_number_p1_code zq4u zq4v (civil_number_p1_G zq54) := zq4y zq4h zq3s zq51Γ fuel
def zq56 : zq4q := zq4z zq3s zq54
theorem zq57 : SpecOk Tryd.prog 43 (zq4r zq56) := zq50 zq4h zq3s zq51Γ zq54 zq55

/-- pagewatch/lexer.hours -/
abbrev zq58 := {β : Type} → Int → Bool → ((List UInt8) → Option β) → Option β
def zq59 (c : zq58) : Spec :=
  ⟨[(false, [.data (.int .i64)]), (false, [.data .bool])], [], [(false, [.data .str])], [], fun x k => c x.1.1.1 x.1.2.1.1 (fun r0 => k (((r0, ()), ()), ()))⟩
section
variable (c_lexer_digits : zq39)
@[reducible] def lexer_hours_X : Ctx := ⟨look tab, pick1 [(26, .spec (zq3a c_lexer_digits))], false, false, false, false⟩
def zq5a {β : Type} (n : Int) (seconds : Bool) (k : ((List UInt8) → Option β)) : Option β :=
  cond (!decide ((3600 : Int) = 0))
  (c_lexer_digits (IntKind.i64.wrap (Int.tdiv n (3600 : Int))) (2 : Int) (fun (rdigits : List UInt8) =>
  cond (decide (List.length rdigits + List.length ([58] : List UInt8) ≤ 9223372036854775807))
  (cond (!decide ((60 : Int) = 0))
  (cond (!decide ((60 : Int) = 0))
  (c_lexer_digits (Int.tmod (IntKind.i64.wrap (Int.tdiv n (60 : Int))) (60 : Int)) (2 : Int) (fun (rdigits2 : List UInt8) =>
  cond (decide (List.length (rdigits ++ ([58] : List UInt8)) + List.length rdigits2 ≤ 9223372036854775807))
  (let s : List UInt8 := ((rdigits ++ ([58] : List UInt8)) ++ rdigits2);
  cond seconds
  (cond (!decide ((60 : Int) = 0))
  (c_lexer_digits (Int.tmod n (60 : Int)) (2 : Int) (fun (rdigits3 : List UInt8) =>
  cond (decide (List.length ([58] : List UInt8) + List.length rdigits3 ≤ 9223372036854775807))
  (cond (decide (List.length s + List.length (([58] : List UInt8) ++ rdigits3) ≤ 9223372036854775807))
  (let s2 : List UInt8 := (s ++ (([58] : List UInt8) ++ rdigits3));
  k s2)
  none)
  none))
  none)
  (k s))
  none))
  none)
  none)
  none))
  none
theorem zq5b (hΓ : ΓOk Tryd.prog (lexer_hours_X c_lexer_digits).Γ) : SpecOk Tryd.prog 15 (zq59 (zq5a c_lexer_digits)) :=
  spec_exec (X := (lexer_hours_X c_lexer_digits)) (Λ := pick1 []) (rs := [.tmp 4]) (c := bodyOf Tryd.f15) mixed tab_ok hΓ Tryd.func15 (by kernel_rfl) (by kernel_rfl) (by kernel_rfl) (by kernel_rfl) CutsOk_nil (fun x k r h => Eq.trans (b := (zq59 (zq5a c_lexer_digits)).run x k) (by kernel_rfl) h)
end
theorem zq5cΓ : ΓOk Tryd.prog (pick1 [(26, .spec (zq3a zq3e))]) := (ΓOk_cons zq3f ΓOk_nil)
def zq5d : zq58 := zq5a zq3e
theorem zq5e : SpecOk Tryd.prog 15 (zq59 zq5d) := zq5b zq3e zq5cΓ

/-- pagewatch/lexer.clock -/
abbrev zq5f := {β : Type} → (List UInt8) → (Int → Bool → Option β) → Option β
def zq5g (c : zq5f) : Spec :=
  ⟨[(false, [.data .str])], [], [(false, [.data (.int .i64)]), (false, [.data .bool])], [], fun x k => c x.1.1.1 (fun r0 r1 => k (((r0, ()), (r1, ()), ()), ()))⟩
noncomputable def lexer_clock_p1_code : Code := codeAt 250 (bodyOf Tryd.f21)
abbrev zq5h (β : Type) := Int → Bool → Option β
abbrev zq5i (β : Type) := Int → Option β
abbrev zq5j := {β : Type} → zq5h β → zq5i β → Int → Int → Int → (List (List UInt8)) → Option β
def zq5k : View := ⟨0, [5, 23, 24, 25], [(false, [.data (.int .i64)]), (false, [.rowh 0]), (false, [.data (.int .i64)]), (false, [.data (.int .i64)])], [.row 9 .str]⟩
def zq5l : List (AExit × View) := [(.ret, ⟨0, [2, 3], [(false, [.data (.int .i64)]), (false, [.data .bool])], []⟩), (.exit 0, ⟨0, [5], [(false, [.data (.int .i64)])], []⟩)]
@[reducible] def lexer_clock_p1_G (p : zq5j) {β : Type} (d : zq5k.den) (ks : Outs.K β zq5l) : Option β :=
  p (fun a0 a1 => ks.1 (((a0, ()), (a1, ()), ()), ())) (fun a0 => ks.2.1 (((a0, ()), ()), ())) d.1.1.1 d.1.2.2.1.1 d.1.2.2.2.1.1 d.2.1
section
variable (c_lexer_two : zq3g) (c_strings_Split : zq1d)
@[reducible] def lexer_clock_X : Ctx := ⟨look tab, pick1 [(29, .spec (zq3h c_lexer_two)), (31, .spec (zq1e c_strings_Split))], false, true, false, false⟩
def zq5m {β : Type} (rec : Int → Int → Int → (List (List UInt8)) → Option β) (k1 : zq5h β) (k2 : zq5i β) (n : Int) (t24 : Int) (t25 : Int) (t23 : List (List UInt8)) : Option β :=
  cond (decide (t25 < t24))
  (cond (decide (0 ≤ t25) && decide (t25 < (List.length t23 : Int)))
  (let x : List UInt8 := (List.getD t23 (Int.toNat t25) ([] : List UInt8));
  c_lexer_two x (fun (rtwo : Int) (rtwo2 : Bool) =>
  cond (!rtwo2)
  (k1 (0 : Int) false)
  (cond (decide ((0 : Int) < t25))
  (cond (decide ((59 : Int) < rtwo))
  (k1 (0 : Int) false)
  (let n2 : Int := (IntKind.i64.wrap ((IntKind.i64.wrap ((60 : Int) * n)) + rtwo));
  rec n2 t24 (IntKind.i64.wrap (t25 + (1 : Int))) t23))
  (let n2 : Int := (IntKind.i64.wrap ((IntKind.i64.wrap ((60 : Int) * n)) + rtwo));
  rec n2 t24 (IntKind.i64.wrap (t25 + (1 : Int))) t23))))
  none)
  (k2 n)
def zq5n {β : Type} : Nat → zq5h β → zq5i β → Int → Int → Int → (List (List UInt8)) → Option β
  | 0 => fun _ _ _ _ _ _ => none
  | i + 1 => fun k1 k2 n t24 t25 t23 => zq5m c_lexer_two (zq5n i k1 k2) k1 k2 n t24 t25 t23
theorem zq5o (hΓ : ΓOk Tryd.prog (lexer_clock_X c_lexer_two c_strings_Split).Γ) (i : Nat) : PieceOk Tryd.prog 53 0 lexer_clock_p1_code zq5k zq5l (lexer_clock_p1_G (zq5n c_lexer_two i)) := by
  rw [show lexer_clock_p1_code = .loop (loopBody lexer_clock_p1_code) by kernel_rfl]
  exact piece_loop (X := (lexer_clock_X c_lexer_two c_strings_Split)) (p := 1) (Λ := pick1 []) (G := fun i => @fun β d ks => lexer_clock_p1_G (zq5n c_lexer_two i) d ks) mixed tab_ok hΓ rfl (by kernel_rfl) CutsOk_nil (fun _ _ => rfl) (fun i => @fun β d ks r h => Eq.trans (b := lexer_clock_p1_G (zq5n c_lexer_two (i + 1)) d ks) (by kernel_rfl) h) i
def zq5p (p1 : zq5j) {β : Type} (s : List UInt8) (k : (Int → Bool → Option β)) : Option β :=
  c_strings_Split s ([58] : List UInt8) (fun (lrSplit : List (List UInt8)) =>
  cond (decide ((List.length lrSplit : Int) < (2 : Int)))
  (k (0 : Int) false)
  (cond (decide ((3 : Int) < (List.length lrSplit : Int)))
  (k (0 : Int) false)
  (let l : List (List UInt8) := ([([48, 48] : List UInt8)] : List (List UInt8));
  cond (decide ((List.length lrSplit + List.length l) * 16 ≤ roomMax))
  (let l2 : List (List UInt8) := (lrSplit ++ l);
  cond (decide (0 ≤ (3 : Int)) && decide ((3 : Int) ≤ (List.length l2 : Int)))
  (let l3 : List (List UInt8) := (List.take (Int.toNat (3 : Int)) l2);
  p1 (fun (t2 : Int) (t3 : Bool) =>
  k t2 t3) (fun (n : Int) =>
  let t : Bool := (decide (n ≤ (86400 : Int)));
  k n t) (0 : Int) (List.length l3 : Int) (0 : Int) l3)
  none)
  none)))
theorem zq5q (hΓ : ΓOk Tryd.prog (lexer_clock_X c_lexer_two c_strings_Split).Γ) (p1 : zq5j) (hp1 : PieceOk Tryd.prog 53 0 lexer_clock_p1_code zq5k zq5l (lexer_clock_p1_G p1)) : SpecOk Tryd.prog 21 (zq5g (zq5p c_strings_Split p1)) :=
  spec_exec (X := (lexer_clock_X c_lexer_two c_strings_Split)) (Λ := pick1 [(250, pieceCut zq5k zq5l (lexer_clock_p1_G p1))]) (rs := [.tmp 2, .tmp 3]) (c := bodyOf Tryd.f21) mixed tab_ok hΓ Tryd.func21 (by kernel_rfl) (by kernel_rfl) (by kernel_rfl) (by kernel_rfl) (CutsOk_cons (q := 250) (c' := lexer_clock_p1_code) (by kernel_rfl) rfl hp1 CutsOk_nil) (fun x k r h => Eq.trans (b := (zq5g (zq5p c_strings_Split p1)).run x k) (by kernel_rfl) h)
end
theorem zq5rΓ : ΓOk Tryd.prog (pick1 [(29, .spec (zq3h zq3l)), (31, .spec (zq1e zq1f))]) := (ΓOk_cons zq3m (ΓOk_cons zq1g ΓOk_nil))
def zq5s (m : Nat) : zq5j := zq5n zq3l m
theorem zq5t {β : Type} (i : Nat) (k1 k2 n t24 t25 t23) : (zq5s (i + 1) k1 k2 n t24 t25 t23 : Option β) = zq5m zq3l (zq5s i k1 k2) k1 k2 n t24 t25 t23 := rfl
def zq5u : zq5j := zq5s fuel
theorem zq5v : PieceOk Tryd.prog 53 0 lexer_clock_p1_code zq5k zq5l (lexer_clock_p1_G zq5u) := zq5o zq3l zq1f zq5rΓ fuel
def zq5w : zq5f := zq5p zq1f zq5u
theorem zq5x : SpecOk Tryd.prog 21 (zq5g zq5w) := zq5q zq3l zq1f zq5rΓ zq5u zq5v

/-- pagewatch/civil.DateOf -/
abbrev zq5y := {β : Type} → Int → ((Int × (Int × Int)) → Int → Option β) → Option β
def zq5z (c : zq5y) : Spec :=
  ⟨[(false, [.data (.int .i64)])], [], [(true, [.data (.prod (.int .i64) (.prod (.int .i64) (.int .i64)))]), (false, [.data (.int .i64)])], [], fun x k => c x.1.1.1 (fun r0 r1 => k (((r0, ()), (r1, ()), ()), ()))⟩
noncomputable def civil_DateOf_p1_code : Code := codeAt 124 (bodyOf Tryd.f27)
abbrev zq60 (β : Type) := Int → Int → Int → Int → Int → Int → Int → Option β
abbrev zq61 := {β : Type} → zq60 β → Int → Int → Int → Int → Int → Int → Int → Option β
def zq62 : View := ⟨0, [2, 4, 5], [(false, [.ptr 0 0]), (false, [.ptr 1 0]), (false, [.data (.int .i64)])], [.cells 54 [.data (.int .i64), .data (.int .i64), .data (.int .i64)], .cells 54 [.data (.int .i64), .data (.int .i64), .data (.int .i64)]]⟩
def zq63 : List (AExit × View) := [(.exit 0, ⟨0, [2, 4, 5], [(false, [.ptr 0 0]), (false, [.ptr 1 0]), (false, [.data (.int .i64)])], [.cells 54 [.data (.int .i64), .data (.int .i64), .data (.int .i64)], .cells 54 [.data (.int .i64), .data (.int .i64), .data (.int .i64)]]⟩)]
@[reducible] def civil_DateOf_p1_G (p : zq61) {β : Type} (d : zq62.den) (ks : Outs.K β zq63) : Option β :=
  p (fun a0 a1 a2 a3 a4 a5 a6 => ks.1 (((), (), (a0, ()), ()), ((a1, a2, a3, ()), (a4, a5, a6, ()), ()))) d.1.2.2.1.1 d.2.1.1 d.2.1.2.1 d.2.1.2.2.1 d.2.2.1.1 d.2.2.1.2.1 d.2.2.1.2.2.1
section
variable (c_civil_Days : zq4c) (c_civil_count : zq3n) (c_civil_year : zq3u)
@[reducible] def civil_DateOf_X : Ctx := ⟨look tab, pick1 [(40, .spec (zq4d c_civil_Days)), (38, .spec (zq3o c_civil_count)), (39, .spec (zq3v c_civil_year))], false, false, false, false⟩
def zq64 {β : Type} (rec : Int → Int → Int → Int → Int → Int → Int → Option β) (k1 : zq60 β) (rest : Int) (t2 : Int) (t22 : Int) (t23 : Int) (d : Int) (d2 : Int) (d3 : Int) : Option β :=
  c_civil_Days d d2 (fun (rDays : Int) =>
  cond (decide (rDays ≤ rest))
  (c_civil_Days d d2 (fun (rDays2 : Int) =>
  let rest2 : Int := (IntKind.i64.wrap (rest - rDays2));
  rec rest2 t2 t22 t23 d (IntKind.i64.wrap (d2 + (1 : Int))) d3))
  (k1 rest t2 t22 t23 d d2 d3))
def zq65 {β : Type} : Nat → zq60 β → Int → Int → Int → Int → Int → Int → Int → Option β
  | 0 => fun _ _ _ _ _ _ _ _ => none
  | i + 1 => fun k1 rest t2 t22 t23 d d2 d3 => zq64 c_civil_Days (zq65 i k1) k1 rest t2 t22 t23 d d2 d3
theorem zq66 (hΓ : ΓOk Tryd.prog (civil_DateOf_X c_civil_Days c_civil_count c_civil_year).Γ) (i : Nat) : PieceOk Tryd.prog 45 0 civil_DateOf_p1_code zq62 zq63 (civil_DateOf_p1_G (zq65 c_civil_Days i)) := by
  rw [show civil_DateOf_p1_code = .loop (loopBody civil_DateOf_p1_code) by kernel_rfl]
  exact piece_loop (X := (civil_DateOf_X c_civil_Days c_civil_count c_civil_year)) (p := 1) (Λ := pick1 []) (G := fun i => @fun β d ks => civil_DateOf_p1_G (zq65 c_civil_Days i) d ks) mixed tab_ok hΓ rfl (by kernel_rfl) CutsOk_nil (fun _ _ => rfl) (fun i => @fun β d ks r h => Eq.trans (b := civil_DateOf_p1_G (zq65 c_civil_Days (i + 1)) d ks) (by kernel_rfl) h) i
def zq67 (p1 : zq61) {β : Type} (day : Int) (k : ((Int × (Int × Int)) → Int → Option β)) : Option β :=
  c_civil_count (1970 : Int) (fun (rcount : Int) =>
  cond (decide (day < rcount))
  (k ((0 : Int), ((0 : Int), (0 : Int))) (1 : Int))
  (c_civil_count (2241 : Int) (fun (rcount2 : Int) =>
  cond (decide (rcount2 ≤ day))
  (k ((0 : Int), ((0 : Int), (0 : Int))) (1 : Int))
  (c_civil_year day (fun (ryear : Int) =>
  c_civil_count ryear (fun (rcount3 : Int) =>
  let rest : Int := (IntKind.i64.wrap (day - rcount3));
  p1 (fun (rest2 : Int) (t2 : Int) (t22 : Int) (t23 : Int) (d : Int) (d2 : Int) (d3 : Int) =>
  k (d, (d2, (IntKind.i64.wrap (rest2 + (1 : Int))))) (0 : Int)) rest (0 : Int) (0 : Int) (0 : Int) ryear (1 : Int) (0 : Int)))))))
theorem zq68 (hΓ : ΓOk Tryd.prog (civil_DateOf_X c_civil_Days c_civil_count c_civil_year).Γ) (p1 : zq61) (hp1 : PieceOk Tryd.prog 45 0 civil_DateOf_p1_code zq62 zq63 (civil_DateOf_p1_G p1)) : SpecOk Tryd.prog 27 (zq5z (zq67 c_civil_count c_civil_year p1)) :=
  spec_exec (X := (civil_DateOf_X c_civil_Days c_civil_count c_civil_year)) (Λ := pick1 [(124, pieceCut zq62 zq63 (civil_DateOf_p1_G p1))]) (rs := [.cell 2 54, .tmp 3]) (c := bodyOf Tryd.f27) mixed tab_ok hΓ Tryd.func27 (by kernel_rfl) (by kernel_rfl) (by kernel_rfl) (by kernel_rfl) (CutsOk_cons (q := 124) (c' := civil_DateOf_p1_code) (by kernel_rfl) rfl hp1 CutsOk_nil) (fun x k r h => Eq.trans (b := (zq5z (zq67 c_civil_count c_civil_year p1)).run x k) (by kernel_rfl) h)
end
theorem zq69Γ : ΓOk Tryd.prog (pick1 [(40, .spec (zq4d zq4h)), (38, .spec (zq3o zq3s)), (39, .spec (zq3v zq4a))]) := (ΓOk_cons zq4i (ΓOk_cons zq3t (ΓOk_cons zq4b ΓOk_nil)))
def zq6a (m : Nat) : zq61 := zq65 zq4h m
theorem zq6b {β : Type} (i : Nat) (k1 rest t2 t22 t23 d d2 d3) : (zq6a (i + 1) k1 rest t2 t22 t23 d d2 d3 : Option β) = zq64 zq4h (zq6a i k1) k1 rest t2 t22 t23 d d2 d3 := rfl
def zq6c : zq61 := zq6a fuel
theorem zq6d : PieceOk Tryd.prog 45 0 civil_DateOf_p1_code zq62 zq63 (civil_DateOf_p1_G zq6c) := zq66 zq4h zq3s zq4a zq69Γ fuel
def zq6e : zq5y := zq67 zq3s zq4a zq6c
theorem zq6f : SpecOk Tryd.prog 27 (zq5z zq6e) := zq68 zq4h zq3s zq4a zq69Γ zq6c zq6d

/-- pagewatch/civil.Day -/
abbrev zq6g := {β : Type} → (Int × (Int × Int)) → (Int → Int → Option β) → Option β
def zq6h (c : zq6g) : Spec :=
  ⟨[(true, [.data (.prod (.int .i64) (.prod (.int .i64) (.int .i64)))])], [], [(false, [.data (.int .i64)]), (false, [.data (.int .i64)])], [], fun x k => c x.1.1.1 (fun r0 r1 => k (((r0, ()), (r1, ()), ()), ()))⟩
section
variable (c_civil_Valid : zq4j) (c_civil_number : zq4q)
@[reducible] def civil_Day_X : Ctx := ⟨look tab, pick1 [(42, .spec (zq4k c_civil_Valid)), (43, .spec (zq4r c_civil_number))], false, false, false, false⟩
def zq6i {β : Type} (d : (Int × (Int × Int))) (k : (Int → Int → Option β)) : Option β :=
  c_civil_Valid d (fun (rValid : Bool) =>
  cond (!rValid)
  (k (0 : Int) (1 : Int))
  (c_civil_number d (fun (rnumber : Int) =>
  k rnumber (0 : Int))))
theorem zq6j (hΓ : ΓOk Tryd.prog (civil_Day_X c_civil_Valid c_civil_number).Γ) : SpecOk Tryd.prog 30 (zq6h (zq6i c_civil_Valid c_civil_number)) :=
  spec_exec (X := (civil_Day_X c_civil_Valid c_civil_number)) (Λ := pick1 []) (rs := [.tmp 2, .tmp 3]) (c := bodyOf Tryd.f30) mixed tab_ok hΓ Tryd.func30 (by kernel_rfl) (by kernel_rfl) (by kernel_rfl) (by kernel_rfl) CutsOk_nil (fun x k r h => Eq.trans (b := (zq6h (zq6i c_civil_Valid c_civil_number)).run x k) (by kernel_rfl) h)
end
theorem zq6kΓ : ΓOk Tryd.prog (pick1 [(42, .spec (zq4k zq4o)), (43, .spec (zq4r zq56))]) := (ΓOk_cons zq4p (ΓOk_cons zq57 ΓOk_nil))
def zq6l : zq6g := zq6i zq4o zq56
theorem zq6m : SpecOk Tryd.prog 30 (zq6h zq6l) := zq6j zq4o zq56 zq6kΓ

/-- pagewatch/lexer.dated -/
abbrev zq6n := {β : Type} → Int → ((List UInt8) → Bool → Option β) → Option β
def zq6o (c : zq6n) : Spec :=
  ⟨[(false, [.data (.int .i64)])], [], [(false, [.data .str]), (false, [.data .bool])], [], fun x k => c x.1.1.1 (fun r0 r1 => k (((r0, ()), (r1, ()), ()), ()))⟩
section
variable (c_civil_DateOf : zq5y) (c_lexer_digits : zq39)
@[reducible] def lexer_dated_X : Ctx := ⟨look tab, pick1 [(27, .spec (zq5z c_civil_DateOf)), (26, .spec (zq3a c_lexer_digits))], false, false, false, false⟩
def zq6p {β : Type} (day : Int) (k : ((List UInt8) → Bool → Option β)) : Option β :=
  c_civil_DateOf day (fun (rDateOf : (Int × (Int × Int))) (rDateOf2 : Int) =>
  c_lexer_digits rDateOf.1 (4 : Int) (fun (rdigits : List UInt8) =>
  cond (decide (List.length rdigits + List.length ([45] : List UInt8) ≤ 9223372036854775807))
  (c_lexer_digits rDateOf.2.1 (2 : Int) (fun (rdigits2 : List UInt8) =>
  cond (decide (List.length (rdigits ++ ([45] : List UInt8)) + List.length rdigits2 ≤ 9223372036854775807))
  (cond (decide (List.length ((rdigits ++ ([45] : List UInt8)) ++ rdigits2) + List.length ([45] : List UInt8) ≤ 9223372036854775807))
  (c_lexer_digits rDateOf.2.2 (2 : Int) (fun (rdigits3 : List UInt8) =>
  cond (decide (List.length (((rdigits ++ ([45] : List UInt8)) ++ rdigits2) ++ ([45] : List UInt8)) + List.length rdigits3 ≤ 9223372036854775807))
  (let t : List UInt8 := ((((rdigits ++ ([45] : List UInt8)) ++ rdigits2) ++ ([45] : List UInt8)) ++ rdigits3);
  let t2 : Bool := (decide (rDateOf2 = (0 : Int)));
  k t t2)
  none))
  none)
  none))
  none))
theorem zq6q (hΓ : ΓOk Tryd.prog (lexer_dated_X c_civil_DateOf c_lexer_digits).Γ) : SpecOk Tryd.prog 16 (zq6o (zq6p c_civil_DateOf c_lexer_digits)) :=
  spec_exec (X := (lexer_dated_X c_civil_DateOf c_lexer_digits)) (Λ := pick1 []) (rs := [.tmp 2, .tmp 3]) (c := bodyOf Tryd.f16) mixed tab_ok hΓ Tryd.func16 (by kernel_rfl) (by kernel_rfl) (by kernel_rfl) (by kernel_rfl) CutsOk_nil (fun x k r h => Eq.trans (b := (zq6o (zq6p c_civil_DateOf c_lexer_digits)).run x k) (by kernel_rfl) h)
end
theorem zq6rΓ : ΓOk Tryd.prog (pick1 [(27, .spec (zq5z zq6e)), (26, .spec (zq3a zq3e))]) := (ΓOk_cons zq6f (ΓOk_cons zq3f ΓOk_nil))
def zq6s : zq6n := zq6p zq6e zq3e
theorem zq6t : SpecOk Tryd.prog 16 (zq6o zq6s) := zq6q zq6e zq3e zq6rΓ

/-- pagewatch/lexer.offset -/
abbrev zq6u := {β : Type} → (List UInt8) → (Int → Bool → Option β) → Option β
def zq6v (c : zq6u) : Spec :=
  ⟨[(false, [.data .str])], [], [(false, [.data (.int .i64)]), (false, [.data .bool])], [], fun x k => c x.1.1.1 (fun r0 r1 => k (((r0, ()), (r1, ()), ()), ()))⟩
noncomputable def lexer_offset_p1_code : Code := codeAt 15 (bodyOf Tryd.f17)
abbrev zq6w (β : Type) := Int → Bool → Option β
abbrev zq6x := {β : Type} → zq6w β → (List UInt8) → Int → Bool → Option β
def zq6y : View := ⟨0, [0, 4, 5], [(false, [.data .str]), (false, [.data (.int .i64)]), (false, [.data .bool])], []⟩
def zq6z : List (AExit × View) := [(.ret, ⟨0, [2, 3], [(false, [.data (.int .i64)]), (false, [.data .bool])], []⟩)]
@[reducible] def lexer_offset_p1_G (p : zq6x) {β : Type} (d : zq6y.den) (ks : Outs.K β zq6z) : Option β :=
  p (fun a0 a1 => ks.1 (((a0, ()), (a1, ()), ()), ())) d.1.1.1 d.1.2.1.1 d.1.2.2.1.1
section
variable (c_lexer_clock : zq5f)
@[reducible] def lexer_offset_X : Ctx := ⟨look tab, pick1 [(21, .spec (zq5g c_lexer_clock))], false, false, false, false⟩
def zq70 {β : Type} (k1 : zq6w β) (s : List UInt8) (n : Int) (ok : Bool) : Option β :=
  cond ok
  (cond (decide ((List.length s : Int) = (6 : Int)))
  (cond (decide ((-64800 : Int) ≤ n))
  (let t : Bool := (decide (n ≤ (64800 : Int)));
  k1 n t)
  (k1 n false))
  (k1 n false))
  (k1 n false)
def zq71 {β : Type} (k1 : zq6w β) (s : List UInt8) (n : Int) (ok : Bool) : Option β := zq70 k1 s n ok
theorem zq72 (hΓ : ΓOk Tryd.prog (lexer_offset_X c_lexer_clock).Γ) : PieceOk Tryd.prog 32 0 lexer_offset_p1_code zq6y zq6z (lexer_offset_p1_G (zq71)) :=
  piece_exec (X := (lexer_offset_X c_lexer_clock)) (p := 15) (Λ := pick1 []) mixed tab_ok hΓ (by kernel_rfl) CutsOk_nil (fun d ks r h => Eq.trans (b := lexer_offset_p1_G (zq71) d ks) (by kernel_rfl) h)
def zq73 (p1 : zq6x) {β : Type} (s : List UInt8) (k : (Int → Bool → Option β)) : Option β :=
  cond (decide (0 ≤ (1 : Int)) && (decide ((1 : Int) ≤ (List.length s : Int)) && decide ((List.length s : Int) ≤ (List.length s : Int))))
  (c_lexer_clock (List.drop (Int.toNat (1 : Int)) (List.take (Int.toNat (List.length s : Int)) s)) (fun (rclock : Int) (rclock2 : Bool) =>
  cond (decide (0 ≤ (0 : Int)) && decide ((0 : Int) < (List.length s : Int)))
  (cond (decide (((List.getD s (Int.toNat (0 : Int)) 0).toNat : Int) = (45 : Int)))
  (let n : Int := (IntKind.i64.wrap (0 - rclock));
  p1 (fun (t2 : Int) (t3 : Bool) =>
  k t2 t3) s n rclock2)
  (p1 (fun (t2 : Int) (t3 : Bool) =>
  k t2 t3) s rclock rclock2))
  none))
  none
theorem zq74 (hΓ : ΓOk Tryd.prog (lexer_offset_X c_lexer_clock).Γ) (p1 : zq6x) (hp1 : PieceOk Tryd.prog 32 0 lexer_offset_p1_code zq6y zq6z (lexer_offset_p1_G p1)) : SpecOk Tryd.prog 17 (zq6v (zq73 c_lexer_clock p1)) :=
  spec_exec (X := (lexer_offset_X c_lexer_clock)) (Λ := pick1 [(15, pieceCut zq6y zq6z (lexer_offset_p1_G p1))]) (rs := [.tmp 2, .tmp 3]) (c := bodyOf Tryd.f17) mixed tab_ok hΓ Tryd.func17 (by kernel_rfl) (by kernel_rfl) (by kernel_rfl) (by kernel_rfl) (CutsOk_cons (q := 15) (c' := lexer_offset_p1_code) (by kernel_rfl) rfl hp1 CutsOk_nil) (fun x k r h => Eq.trans (b := (zq6v (zq73 c_lexer_clock p1)).run x k) (by kernel_rfl) h)
end
theorem zq75Γ : ΓOk Tryd.prog (pick1 [(21, .spec (zq5g zq5w))]) := (ΓOk_cons zq5x ΓOk_nil)
def zq76 : zq6x := zq71
theorem zq77 : PieceOk Tryd.prog 32 0 lexer_offset_p1_code zq6y zq6z (lexer_offset_p1_G zq76) := zq72 zq5w zq75Γ
def zq78 : zq6u := zq73 zq5w zq76
theorem zq79 : SpecOk Tryd.prog 17 (zq6v zq78) := zq74 zq5w zq75Γ zq76 zq77

/-- pagewatch/lexer.date -/
abbrev zq7a := {β : Type} → (List UInt8) → (Int → Bool → Option β) → Option β
def zq7b (c : zq7a) : Spec :=
  ⟨[(false, [.data .str])], [], [(false, [.data (.int .i64)]), (false, [.data .bool])], [], fun x k => c x.1.1.1 (fun r0 r1 => k (((r0, ()), (r1, ()), ()), ()))⟩
section
variable (c_civil_Day : zq6g) (c_lexer_number : zq2q) (c_lexer_two : zq3g)
@[reducible] def lexer_date_X : Ctx := ⟨look tab, pick1 [(30, .spec (zq6h c_civil_Day)), (22, .spec (zq2r c_lexer_number)), (29, .spec (zq3h c_lexer_two))], false, false, false, false⟩
def zq7c {β : Type} (s : List UInt8) (k : (Int → Bool → Option β)) : Option β :=
  cond (!decide ((List.length s : Int) = (10 : Int)))
  (k (0 : Int) false)
  (cond (decide (0 ≤ (4 : Int)) && decide ((4 : Int) < (List.length s : Int)))
  (cond (!decide (((List.getD s (Int.toNat (4 : Int)) 0).toNat : Int) = (45 : Int)))
  (k (0 : Int) false)
  (cond (decide (0 ≤ (7 : Int)) && decide ((7 : Int) < (List.length s : Int)))
  (cond (!decide (((List.getD s (Int.toNat (7 : Int)) 0).toNat : Int) = (45 : Int)))
  (k (0 : Int) false)
  (cond (decide (0 ≤ (0 : Int)) && (decide ((0 : Int) ≤ (4 : Int)) && decide ((4 : Int) ≤ (List.length s : Int))))
  (c_lexer_number (List.drop (Int.toNat (0 : Int)) (List.take (Int.toNat (4 : Int)) s)) (fun (rnumber : Int) (rnumber2 : Bool) =>
  cond (decide (0 ≤ (5 : Int)) && (decide ((5 : Int) ≤ (7 : Int)) && decide ((7 : Int) ≤ (List.length s : Int))))
  (c_lexer_two (List.drop (Int.toNat (5 : Int)) (List.take (Int.toNat (7 : Int)) s)) (fun (rtwo : Int) (rtwo2 : Bool) =>
  cond (decide (0 ≤ (8 : Int)) && (decide ((8 : Int) ≤ (List.length s : Int)) && decide ((List.length s : Int) ≤ (List.length s : Int))))
  (c_lexer_two (List.drop (Int.toNat (8 : Int)) (List.take (Int.toNat (List.length s : Int)) s)) (fun (rtwo3 : Int) (rtwo4 : Bool) =>
  c_civil_Day (rnumber, (rtwo, rtwo3)) (fun (rDay : Int) (rDay2 : Int) =>
  cond rnumber2
  (cond rtwo2
  (cond rtwo4
  (let t : Bool := (decide (rDay2 = (0 : Int)));
  k rDay t)
  (k rDay false))
  (k rDay false))
  (k rDay false))))
  none))
  none))
  none))
  none))
  none)
theorem zq7d (hΓ : ΓOk Tryd.prog (lexer_date_X c_civil_Day c_lexer_number c_lexer_two).Γ) : SpecOk Tryd.prog 20 (zq7b (zq7c c_civil_Day c_lexer_number c_lexer_two)) :=
  spec_exec (X := (lexer_date_X c_civil_Day c_lexer_number c_lexer_two)) (Λ := pick1 []) (rs := [.tmp 2, .tmp 3]) (c := bodyOf Tryd.f20) mixed tab_ok hΓ Tryd.func20 (by kernel_rfl) (by kernel_rfl) (by kernel_rfl) (by kernel_rfl) CutsOk_nil (fun x k r h => Eq.trans (b := (zq7b (zq7c c_civil_Day c_lexer_number c_lexer_two)).run x k) (by kernel_rfl) h)
end
theorem zq7eΓ : ΓOk Tryd.prog (pick1 [(30, .spec (zq6h zq6l)), (22, .spec (zq2r zq37)), (29, .spec (zq3h zq3l))]) := (ΓOk_cons zq6m (ΓOk_cons zq38 (ΓOk_cons zq3m ΓOk_nil)))
def zq7f : zq7a := zq7c zq6l zq37 zq3l
theorem zq7g : SpecOk Tryd.prog 20 (zq7b zq7f) := zq7d zq6l zq37 zq3l zq7eΓ

/-- pagewatch/lexer.text -/
abbrev zq7h := {β : Type} → zq0 → ((List UInt8) → Bool → Option β) → Option β
def zq7i (c : zq7h) : Spec :=
  ⟨[(true, [.data zq1])], [], [(false, [.data .str]), (false, [.data .bool])], [], fun x k => c x.1.1.1 (fun r0 r1 => k (((r0, ()), (r1, ()), ()), ()))⟩
noncomputable def lexer_text_p1_code : Code := codeAt 861 (bodyOf Tryd.f9)
noncomputable def lexer_text_p2_code : Code := codeAt 27643 (bodyOf Tryd.f9)
abbrev zq7j (β : Type) := (List UInt8) → Bool → Option β
abbrev zq7k := {β : Type} → zq7j β → Bool → Int → (List UInt8) → Int → Option β
def zq7l : View := ⟨0, [1, 4], [(false, [.ptr 0 0]), (false, [.data .bool])], [.cells 24 [.data (.int .i64), .data .str, .data (.int .i64)]]⟩
def zq7m : List (AExit × View) := [(.ret, ⟨0, [2, 3], [(false, [.data .str]), (false, [.data .bool])], []⟩)]
@[reducible] def lexer_text_p1_G (p : zq7k) {β : Type} (d : zq7l.den) (ks : Outs.K β zq7m) : Option β :=
  p (fun a0 a1 => ks.1 (((a0, ()), (a1, ()), ()), ())) d.1.2.1.1 d.2.1.1 d.2.1.2.1 d.2.1.2.2.1
abbrev zq7n (β : Type) := (List UInt8) → Bool → Option β
abbrev zq7o := {β : Type} → zq7n β → Int → (List UInt8) → Option β
def zq7p : View := ⟨0, [5, 6], [(false, [.data (.int .i64)]), (false, [.data .str])], []⟩
def zq7q : List (AExit × View) := [(.ret, ⟨0, [2, 3], [(false, [.data .str]), (false, [.data .bool])], []⟩)]
@[reducible] def lexer_text_p2_G (p : zq7o) {β : Type} (d : zq7p.den) (ks : Outs.K β zq7q) : Option β :=
  p (fun a0 a1 => ks.1 (((a0, ()), (a1, ()), ()), ())) d.1.1.1 d.1.2.1.1
section
variable (c_lexer_dated : zq6n) (c_lexer_hours : zq58) (c_strconv_Itoa : zqp)
@[reducible] def lexer_text_X : Ctx := ⟨look tab, pick1 [(16, .spec (zq6o c_lexer_dated)), (15, .spec (zq59 c_lexer_hours)), (14, .spec (zqq c_strconv_Itoa))], false, false, false, false⟩
def zq7r {β : Type} (k1 : zq7j β) (ok : Bool) (t : Int) (t2 : List UInt8) (t3 : Int) : Option β :=
  cond (!decide ((60 : Int) = 0))
  (c_lexer_hours t3 (!decide ((Int.tmod t3 (60 : Int)) = (0 : Int))) (fun (rhours : List UInt8) =>
  k1 rhours ok))
  none
def zq7s {β : Type} (k1 : zq7j β) (ok : Bool) (t : Int) (t2 : List UInt8) (t3 : Int) : Option β := zq7r c_lexer_hours k1 ok t t2 t3
theorem zq7t (hΓ : ΓOk Tryd.prog (lexer_text_X c_lexer_dated c_lexer_hours c_strconv_Itoa).Γ) : PieceOk Tryd.prog 95 0 lexer_text_p1_code zq7l zq7m (lexer_text_p1_G (zq7s c_lexer_hours)) :=
  piece_exec (X := (lexer_text_X c_lexer_dated c_lexer_hours c_strconv_Itoa)) (p := 861) (Λ := pick1 []) mixed tab_ok hΓ (by kernel_rfl) CutsOk_nil (fun d ks r h => Eq.trans (b := lexer_text_p1_G (zq7s c_lexer_hours) d ks) (by kernel_rfl) h)
def zq7u {β : Type} (k1 : zq7n β) (n : Int) (sign : List UInt8) : Option β :=
  c_lexer_hours n false (fun (rhours : List UInt8) =>
  cond (decide (List.length sign + List.length rhours ≤ 9223372036854775807))
  (cond (decide ((0 : Int) ≤ n))
  (cond (decide (n ≤ (64800 : Int)))
  (cond (!decide ((60 : Int) = 0))
  (let t : Bool := (decide ((Int.tmod n (60 : Int)) = (0 : Int)));
  k1 (sign ++ rhours) t)
  none)
  (k1 (sign ++ rhours) false))
  (k1 (sign ++ rhours) false))
  none)
def zq7v {β : Type} (k1 : zq7n β) (n : Int) (sign : List UInt8) : Option β := zq7u c_lexer_hours k1 n sign
theorem zq7w (hΓ : ΓOk Tryd.prog (lexer_text_X c_lexer_dated c_lexer_hours c_strconv_Itoa).Γ) : PieceOk Tryd.prog 95 0 lexer_text_p2_code zq7p zq7q (lexer_text_p2_G (zq7v c_lexer_hours)) :=
  piece_exec (X := (lexer_text_X c_lexer_dated c_lexer_hours c_strconv_Itoa)) (p := 27643) (Λ := pick1 []) mixed tab_ok hΓ (by kernel_rfl) CutsOk_nil (fun d ks r h => Eq.trans (b := lexer_text_p2_G (zq7v c_lexer_hours) d ks) (by kernel_rfl) h)
def zq7x (p1 : zq7k) (p2 : zq7o) {β : Type} (t : zq0) (k : ((List UInt8) → Bool → Option β)) : Option β :=
  let t2 : Bool := (decide (t.1 = (1 : Int)));
  cond t2
  (c_strconv_Itoa t.2.2 (fun (rItoa : List UInt8) =>
  cond (decide ((0 : Int) ≤ t.2.2))
  (let t3 : Bool := (decide (t.2.2 ≤ (999999999 : Int)));
  k rItoa t3)
  (k rItoa false)))
  (let t3 : Bool := (decide (t.1 = (2 : Int)));
  cond t3
  (cond (decide ((0 : Int) ≤ t.2.2))
  (let ok : Bool := (decide (t.2.2 ≤ (86400 : Int)));
  p1 (fun (t22 : List UInt8) (t32 : Bool) =>
  k t22 t32) ok t.1 t.2.1 t.2.2)
  (p1 (fun (t22 : List UInt8) (t32 : Bool) =>
  k t22 t32) false t.1 t.2.1 t.2.2))
  (let t4 : Bool := (decide (t.1 = (3 : Int)));
  cond t4
  (c_lexer_dated t.2.2 (fun (rdated : List UInt8) (rdated2 : Bool) =>
  k rdated rdated2))
  (let t5 : Bool := (decide (t.1 = (4 : Int)));
  cond t5
  (cond (decide (t.2.2 < (0 : Int)))
  (let n : Int := (IntKind.i64.wrap (0 - t.2.2));
  p2 (fun (t22 : List UInt8) (t32 : Bool) =>
  k t22 t32) n ([45] : List UInt8))
  (p2 (fun (t22 : List UInt8) (t32 : Bool) =>
  k t22 t32) t.2.2 ([43] : List UInt8)))
  (let t6 : Bool := (decide (t.1 = (5 : Int)));
  cond t6
  (cond (!decide ((86400 : Int) = 0))
  (c_lexer_dated (IntKind.i64.wrap (Int.tdiv t.2.2 (86400 : Int))) (fun (rdated : List UInt8) (rdated2 : Bool) =>
  cond (decide (List.length rdated + List.length ([84] : List UInt8) ≤ 9223372036854775807))
  (cond (!decide ((86400 : Int) = 0))
  (c_lexer_hours (Int.tmod t.2.2 (86400 : Int)) true (fun (rhours : List UInt8) =>
  cond (decide (List.length (rdated ++ ([84] : List UInt8)) + List.length rhours ≤ 9223372036854775807))
  (cond (decide (List.length ((rdated ++ ([84] : List UInt8)) ++ rhours) + List.length ([90] : List UInt8) ≤ 9223372036854775807))
  (cond rdated2
  (let t7 : List UInt8 := (((rdated ++ ([84] : List UInt8)) ++ rhours) ++ ([90] : List UInt8));
  let t8 : Bool := (decide ((0 : Int) ≤ t.2.2));
  k t7 t8)
  (let t7 : List UInt8 := (((rdated ++ ([84] : List UInt8)) ++ rhours) ++ ([90] : List UInt8));
  k t7 false))
  none)
  none))
  none)
  none))
  none)
  (k ([] : List UInt8) false)))))
theorem zq7y (hΓ : ΓOk Tryd.prog (lexer_text_X c_lexer_dated c_lexer_hours c_strconv_Itoa).Γ) (p1 : zq7k) (p2 : zq7o) (hp1 : PieceOk Tryd.prog 95 0 lexer_text_p1_code zq7l zq7m (lexer_text_p1_G p1)) (hp2 : PieceOk Tryd.prog 95 0 lexer_text_p2_code zq7p zq7q (lexer_text_p2_G p2)) : SpecOk Tryd.prog 9 (zq7i (zq7x c_lexer_dated c_lexer_hours c_strconv_Itoa p1 p2)) :=
  spec_exec (X := (lexer_text_X c_lexer_dated c_lexer_hours c_strconv_Itoa)) (Λ := pick1 [(861, pieceCut zq7l zq7m (lexer_text_p1_G p1)), (27643, pieceCut zq7p zq7q (lexer_text_p2_G p2))]) (rs := [.tmp 2, .tmp 3]) (c := bodyOf Tryd.f9) mixed tab_ok hΓ Tryd.func9 (by kernel_rfl) (by kernel_rfl) (by kernel_rfl) (by kernel_rfl) (CutsOk_cons (q := 861) (c' := lexer_text_p1_code) (by kernel_rfl) rfl hp1 (CutsOk_cons (q := 27643) (c' := lexer_text_p2_code) (by kernel_rfl) rfl hp2 CutsOk_nil)) (fun x k r h => Eq.trans (b := (zq7i (zq7x c_lexer_dated c_lexer_hours c_strconv_Itoa p1 p2)).run x k) (by kernel_rfl) h)
end
theorem zq7zΓ : ΓOk Tryd.prog (pick1 [(16, .spec (zq6o zq6s)), (15, .spec (zq59 zq5d)), (14, .spec (zqq zqr))]) := (ΓOk_cons zq6t (ΓOk_cons zq5e (ΓOk_cons zqs ΓOk_nil)))
def zq80 : zq7k := zq7s zq5d
theorem zq81 : PieceOk Tryd.prog 95 0 lexer_text_p1_code zq7l zq7m (lexer_text_p1_G zq80) := zq7t zq6s zq5d zqr zq7zΓ
def zq82 : zq7o := zq7v zq5d
theorem zq83 : PieceOk Tryd.prog 95 0 lexer_text_p2_code zq7p zq7q (lexer_text_p2_G zq82) := zq7w zq6s zq5d zqr zq7zΓ
def zq84 : zq7h := zq7x zq6s zq5d zqr zq80 zq82
theorem zq85 : SpecOk Tryd.prog 9 (zq7i zq84) := zq7y zq6s zq5d zqr zq7zΓ zq80 zq82 zq81 zq83

/-- pagewatch/lexer.instant -/
abbrev zq86 := {β : Type} → (List UInt8) → (Int → Bool → Option β) → Option β
def zq87 (c : zq86) : Spec :=
  ⟨[(false, [.data .str])], [], [(false, [.data (.int .i64)]), (false, [.data .bool])], [], fun x k => c x.1.1.1 (fun r0 r1 => k (((r0, ()), (r1, ()), ()), ()))⟩
section
variable (c_lexer_clock : zq5f) (c_lexer_date : zq7a)
@[reducible] def lexer_instant_X : Ctx := ⟨look tab, pick1 [(21, .spec (zq5g c_lexer_clock)), (20, .spec (zq7b c_lexer_date))], false, false, false, false⟩
def zq88 {β : Type} (s : List UInt8) (k : (Int → Bool → Option β)) : Option β :=
  cond (!decide ((List.length s : Int) = (20 : Int)))
  (k (0 : Int) false)
  (cond (decide (0 ≤ (10 : Int)) && decide ((10 : Int) < (List.length s : Int)))
  (cond (!decide (((List.getD s (Int.toNat (10 : Int)) 0).toNat : Int) = (84 : Int)))
  (k (0 : Int) false)
  (cond (decide (0 ≤ (19 : Int)) && decide ((19 : Int) < (List.length s : Int)))
  (cond (!decide (((List.getD s (Int.toNat (19 : Int)) 0).toNat : Int) = (90 : Int)))
  (k (0 : Int) false)
  (cond (decide (0 ≤ (0 : Int)) && (decide ((0 : Int) ≤ (10 : Int)) && decide ((10 : Int) ≤ (List.length s : Int))))
  (c_lexer_date (List.drop (Int.toNat (0 : Int)) (List.take (Int.toNat (10 : Int)) s)) (fun (rdate : Int) (rdate2 : Bool) =>
  cond (decide (0 ≤ (11 : Int)) && (decide ((11 : Int) ≤ (19 : Int)) && decide ((19 : Int) ≤ (List.length s : Int))))
  (c_lexer_clock (List.drop (Int.toNat (11 : Int)) (List.take (Int.toNat (19 : Int)) s)) (fun (rclock : Int) (rclock2 : Bool) =>
  cond rdate2
  (cond rclock2
  (let t : Int := (IntKind.i64.wrap ((IntKind.i64.wrap (rdate * (86400 : Int))) + rclock));
  let t2 : Bool := (decide (rclock < (86400 : Int)));
  k t t2)
  (let t : Int := (IntKind.i64.wrap ((IntKind.i64.wrap (rdate * (86400 : Int))) + rclock));
  k t false))
  (let t : Int := (IntKind.i64.wrap ((IntKind.i64.wrap (rdate * (86400 : Int))) + rclock));
  k t false)))
  none))
  none))
  none))
  none)
theorem zq89 (hΓ : ΓOk Tryd.prog (lexer_instant_X c_lexer_clock c_lexer_date).Γ) : SpecOk Tryd.prog 19 (zq87 (zq88 c_lexer_clock c_lexer_date)) :=
  spec_exec (X := (lexer_instant_X c_lexer_clock c_lexer_date)) (Λ := pick1 []) (rs := [.tmp 2, .tmp 3]) (c := bodyOf Tryd.f19) mixed tab_ok hΓ Tryd.func19 (by kernel_rfl) (by kernel_rfl) (by kernel_rfl) (by kernel_rfl) CutsOk_nil (fun x k r h => Eq.trans (b := (zq87 (zq88 c_lexer_clock c_lexer_date)).run x k) (by kernel_rfl) h)
end
theorem zq8aΓ : ΓOk Tryd.prog (pick1 [(21, .spec (zq5g zq5w)), (20, .spec (zq7b zq7f))]) := (ΓOk_cons zq5x (ΓOk_cons zq7g ΓOk_nil))
def zq8b : zq86 := zq88 zq5w zq7f
theorem zq8c : SpecOk Tryd.prog 19 (zq87 zq8b) := zq89 zq5w zq7f zq8aΓ

/-- pagewatch/lexer.Text -/
abbrev zq8d := {β : Type} → zq0 → ((List UInt8) → Int → Option β) → Option β
def zq8e (c : zq8d) : Spec :=
  ⟨[(true, [.data zq1])], [], [(false, [.data .str]), (false, [.data (.int .i64)])], [], fun x k => c x.1.1.1 (fun r0 r1 => k (((r0, ()), (r1, ()), ()), ()))⟩
section
variable (c_lexer_Name : zq27) (c_lexer_text : zq7h)
@[reducible] def lexer_Text_X : Ctx := ⟨look tab, pick1 [(7, .spec (zq28 c_lexer_Name)), (9, .spec (zq7i c_lexer_text))], false, false, false, false⟩
def zq8f {β : Type} (t : zq0) (k : ((List UInt8) → Int → Option β)) : Option β :=
  cond (decide (t.1 = (0 : Int)))
  (c_lexer_Name t.2.1 (fun (rName : Bool) =>
  cond (!rName)
  (k ([] : List UInt8) (8 : Int))
  (cond (!decide (t.2.2 = (0 : Int)))
  (k ([] : List UInt8) (8 : Int))
  (k t.2.1 (0 : Int)))))
  (c_lexer_text t (fun (rtext : List UInt8) (rtext2 : Bool) =>
  cond (!rtext2)
  (k ([] : List UInt8) (8 : Int))
  (cond (!decide (t.2.1 = ([] : List UInt8)))
  (k ([] : List UInt8) (8 : Int))
  (k rtext (0 : Int)))))
theorem zq8g (hΓ : ΓOk Tryd.prog (lexer_Text_X c_lexer_Name c_lexer_text).Γ) : SpecOk Tryd.prog 5 (zq8e (zq8f c_lexer_Name c_lexer_text)) :=
  spec_exec (X := (lexer_Text_X c_lexer_Name c_lexer_text)) (Λ := pick1 []) (rs := [.tmp 2, .tmp 3]) (c := bodyOf Tryd.f5) mixed tab_ok hΓ Tryd.func5 (by kernel_rfl) (by kernel_rfl) (by kernel_rfl) (by kernel_rfl) CutsOk_nil (fun x k r h => Eq.trans (b := (zq8e (zq8f c_lexer_Name c_lexer_text)).run x k) (by kernel_rfl) h)
end
theorem zq8hΓ : ΓOk Tryd.prog (pick1 [(7, .spec (zq28 zq2o)), (9, .spec (zq7i zq84))]) := (ΓOk_cons zq2p (ΓOk_cons zq85 ΓOk_nil))
def zq8i : zq8d := zq8f zq2o zq84
theorem zq8j : SpecOk Tryd.prog 5 (zq8e zq8i) := zq8g zq2o zq84 zq8hΓ

/-- pagewatch/lexer.form -/
abbrev zq8k := {β : Type} → (List UInt8) → (Int → Int → Bool → Option β) → Option β
def zq8l (c : zq8k) : Spec :=
  ⟨[(false, [.data .str])], [], [(false, [.data (.int .i64)]), (false, [.data (.int .i64)]), (false, [.data .bool])], [], fun x k => c x.1.1.1 (fun r0 r1 r2 => k (((r0, ()), (r1, ()), (r2, ()), ()), ()))⟩
noncomputable def lexer_form_p1_code : Code := codeAt 7 (bodyOf Tryd.f10)
noncomputable def lexer_form_p2_code : Code := codeAt 215 (bodyOf Tryd.f10)
abbrev zq8m (β : Type) := Int → Int → Bool → Option β
abbrev zq8n := {β : Type} → zq8m β → (List UInt8) → Option β
def zq8o : View := ⟨0, [0], [(false, [.data .str])], []⟩
def zq8p : List (AExit × View) := [(.ret, ⟨0, [2, 3, 4], [(false, [.data (.int .i64)]), (false, [.data (.int .i64)]), (false, [.data .bool])], []⟩)]
@[reducible] def lexer_form_p1_G (p : zq8n) {β : Type} (d : zq8o.den) (ks : Outs.K β zq8p) : Option β :=
  p (fun a0 a1 a2 => ks.1 (((a0, ()), (a1, ()), (a2, ()), ()), ())) d.1.1.1
abbrev zq8q (β : Type) := Int → Int → Bool → Option β
abbrev zq8r (β : Type) := (List UInt8) → Option β
abbrev zq8s := {β : Type} → zq8q β → zq8r β → (List UInt8) → Bool → Option β
def zq8t : View := ⟨0, [0, 23], [(false, [.data .str]), (false, [.data .bool])], []⟩
def zq8u : List (AExit × View) := [(.ret, ⟨0, [2, 3, 4], [(false, [.data (.int .i64)]), (false, [.data (.int .i64)]), (false, [.data .bool])], []⟩), (.normal, ⟨0, [0], [(false, [.data .str])], []⟩)]
@[reducible] def lexer_form_p2_G (p : zq8s) {β : Type} (d : zq8t.den) (ks : Outs.K β zq8u) : Option β :=
  p (fun a0 a1 a2 => ks.1 (((a0, ()), (a1, ()), (a2, ()), ()), ())) (fun a0 => ks.2.1 (((a0, ()), ()), ())) d.1.1.1 d.1.2.1.1
section
variable (c_lexer_Name : zq27) (c_lexer_clock : zq5f) (c_lexer_date : zq7a) (c_lexer_instant : zq86) (c_lexer_number : zq2q) (c_lexer_offset : zq6u) (c_lexer_small : zq9) (c_strings_Contains : zqv)
@[reducible] def lexer_form_X : Ctx := ⟨look tab, pick1 [(7, .spec (zq28 c_lexer_Name)), (21, .spec (zq5g c_lexer_clock)), (20, .spec (zq7b c_lexer_date)), (19, .spec (zq87 c_lexer_instant)), (22, .spec (zq2r c_lexer_number)), (17, .spec (zq6v c_lexer_offset)), (11, .spec (zqa c_lexer_small)), (18, .spec (zqw c_strings_Contains))], false, false, false, false⟩
def zq8v {β : Type} (k1 : zq8m β) (s : List UInt8) : Option β :=
  c_lexer_number s (fun (rnumber : Int) (rnumber2 : Bool) =>
  cond rnumber2
  (cond (decide (0 ≤ (0 : Int)) && decide ((0 : Int) < (List.length s : Int)))
  (cond (!decide (((List.getD s (Int.toNat (0 : Int)) 0).toNat : Int) = (48 : Int)))
  (k1 (1 : Int) rnumber true)
  (let t : Bool := (decide (s = ([48] : List UInt8)));
  k1 (1 : Int) rnumber t))
  none)
  (k1 (1 : Int) rnumber false))
def zq8w {β : Type} (k1 : zq8m β) (s : List UInt8) : Option β := zq8v c_lexer_number k1 s
theorem zq8x (hΓ : ΓOk Tryd.prog (lexer_form_X c_lexer_Name c_lexer_clock c_lexer_date c_lexer_instant c_lexer_number c_lexer_offset c_lexer_small c_strings_Contains).Γ) : PieceOk Tryd.prog 83 0 lexer_form_p1_code zq8o zq8p (lexer_form_p1_G (zq8w c_lexer_number)) :=
  piece_exec (X := (lexer_form_X c_lexer_Name c_lexer_clock c_lexer_date c_lexer_instant c_lexer_number c_lexer_offset c_lexer_small c_strings_Contains)) (p := 7) (Λ := pick1 []) mixed tab_ok hΓ (by kernel_rfl) CutsOk_nil (fun d ks r h => Eq.trans (b := lexer_form_p1_G (zq8w c_lexer_number) d ks) (by kernel_rfl) h)
def zq8y {β : Type} (k1 : zq8q β) (k2 : zq8r β) (s : List UInt8) (t23 : Bool) : Option β :=
  cond t23
  (c_lexer_offset s (fun (roffset : Int) (roffset2 : Bool) =>
  k1 (4 : Int) roffset roffset2))
  (c_strings_Contains s ([84] : List UInt8) (fun (rContains : Bool) =>
  cond rContains
  (c_lexer_instant s (fun (rinstant : Int) (rinstant2 : Bool) =>
  k1 (5 : Int) rinstant rinstant2))
  (c_strings_Contains s ([45] : List UInt8) (fun (rContains2 : Bool) =>
  cond rContains2
  (c_lexer_date s (fun (rdate : Int) (rdate2 : Bool) =>
  k1 (3 : Int) rdate rdate2))
  (c_strings_Contains s ([58] : List UInt8) (fun (rContains3 : Bool) =>
  cond rContains3
  (c_lexer_clock s (fun (rclock : Int) (rclock2 : Bool) =>
  k1 (2 : Int) rclock rclock2))
  (k2 s)))))))
def zq8z {β : Type} (k1 : zq8q β) (k2 : zq8r β) (s : List UInt8) (t23 : Bool) : Option β := zq8y c_lexer_clock c_lexer_date c_lexer_instant c_lexer_offset c_strings_Contains k1 k2 s t23
theorem zq90 (hΓ : ΓOk Tryd.prog (lexer_form_X c_lexer_Name c_lexer_clock c_lexer_date c_lexer_instant c_lexer_number c_lexer_offset c_lexer_small c_strings_Contains).Γ) : PieceOk Tryd.prog 83 0 lexer_form_p2_code zq8t zq8u (lexer_form_p2_G (zq8z c_lexer_clock c_lexer_date c_lexer_instant c_lexer_offset c_strings_Contains)) :=
  piece_exec (X := (lexer_form_X c_lexer_Name c_lexer_clock c_lexer_date c_lexer_instant c_lexer_number c_lexer_offset c_lexer_small c_strings_Contains)) (p := 215) (Λ := pick1 []) mixed tab_ok hΓ (by kernel_rfl) CutsOk_nil (fun d ks r h => Eq.trans (b := lexer_form_p2_G (zq8z c_lexer_clock c_lexer_date c_lexer_instant c_lexer_offset c_strings_Contains) d ks) (by kernel_rfl) h)
def zq91 (p1 : zq8n) (p2 : zq8s) {β : Type} (s : List UInt8) (k : (Int → Int → Bool → Option β)) : Option β :=
  cond (decide (0 ≤ (0 : Int)) && decide ((0 : Int) < (List.length s : Int)))
  (let c : Int := ((List.getD s (Int.toNat (0 : Int)) 0).toNat : Int);
  c_lexer_small c (fun (rsmall : Bool) =>
  cond rsmall
  (c_lexer_Name s (fun (rName : Bool) =>
  k (0 : Int) (0 : Int) rName))
  (cond (decide (c = (43 : Int)))
  (p2 (fun (t2 : Int) (t3 : Int) (t4 : Bool) =>
  k t2 t3 t4) (fun (s2 : List UInt8) =>
  p1 (fun (t2 : Int) (t3 : Int) (t4 : Bool) =>
  k t2 t3 t4) s2) s true)
  (let t : Bool := (decide (c = (45 : Int)));
  p2 (fun (t2 : Int) (t3 : Int) (t4 : Bool) =>
  k t2 t3 t4) (fun (s2 : List UInt8) =>
  p1 (fun (t2 : Int) (t3 : Int) (t4 : Bool) =>
  k t2 t3 t4) s2) s t))))
  none
theorem zq92 (hΓ : ΓOk Tryd.prog (lexer_form_X c_lexer_Name c_lexer_clock c_lexer_date c_lexer_instant c_lexer_number c_lexer_offset c_lexer_small c_strings_Contains).Γ) (p1 : zq8n) (p2 : zq8s) (hp1 : PieceOk Tryd.prog 83 0 lexer_form_p1_code zq8o zq8p (lexer_form_p1_G p1)) (hp2 : PieceOk Tryd.prog 83 0 lexer_form_p2_code zq8t zq8u (lexer_form_p2_G p2)) : SpecOk Tryd.prog 10 (zq8l (zq91 c_lexer_Name c_lexer_small p1 p2)) :=
  spec_exec (X := (lexer_form_X c_lexer_Name c_lexer_clock c_lexer_date c_lexer_instant c_lexer_number c_lexer_offset c_lexer_small c_strings_Contains)) (Λ := pick1 [(7, pieceCut zq8o zq8p (lexer_form_p1_G p1)), (215, pieceCut zq8t zq8u (lexer_form_p2_G p2))]) (rs := [.tmp 2, .tmp 3, .tmp 4]) (c := bodyOf Tryd.f10) mixed tab_ok hΓ Tryd.func10 (by kernel_rfl) (by kernel_rfl) (by kernel_rfl) (by kernel_rfl) (CutsOk_cons (q := 7) (c' := lexer_form_p1_code) (by kernel_rfl) rfl hp1 (CutsOk_cons (q := 215) (c' := lexer_form_p2_code) (by kernel_rfl) rfl hp2 CutsOk_nil)) (fun x k r h => Eq.trans (b := (zq8l (zq91 c_lexer_Name c_lexer_small p1 p2)).run x k) (by kernel_rfl) h)
end
theorem zq93Γ : ΓOk Tryd.prog (pick1 [(7, .spec (zq28 zq2o)), (21, .spec (zq5g zq5w)), (20, .spec (zq7b zq7f)), (19, .spec (zq87 zq8b)), (22, .spec (zq2r zq37)), (17, .spec (zq6v zq78)), (11, .spec (zqa zqe)), (18, .spec (zqw zqx))]) := (ΓOk_cons zq2p (ΓOk_cons zq5x (ΓOk_cons zq7g (ΓOk_cons zq8c (ΓOk_cons zq38 (ΓOk_cons zq79 (ΓOk_cons zqf (ΓOk_cons zqy ΓOk_nil))))))))
def zq94 : zq8n := zq8w zq37
theorem zq95 : PieceOk Tryd.prog 83 0 lexer_form_p1_code zq8o zq8p (lexer_form_p1_G zq94) := zq8x zq2o zq5w zq7f zq8b zq37 zq78 zqe zqx zq93Γ
def zq96 : zq8s := zq8z zq5w zq7f zq8b zq78 zqx
theorem zq97 : PieceOk Tryd.prog 83 0 lexer_form_p2_code zq8t zq8u (lexer_form_p2_G zq96) := zq90 zq2o zq5w zq7f zq8b zq37 zq78 zqe zqx zq93Γ
def zq98 : zq8k := zq91 zq2o zqe zq94 zq96
theorem zq99 : SpecOk Tryd.prog 10 (zq8l zq98) := zq92 zq2o zq5w zq7f zq8b zq37 zq78 zqe zqx zq93Γ zq94 zq96 zq95 zq97

/-- pagewatch/lexer.Token -/
abbrev zq9a := {β : Type} → (List UInt8) → (zq0 → Int → Option β) → Option β
def zq9b (c : zq9a) : Spec :=
  ⟨[(false, [.data .str])], [], [(true, [.data zq1]), (false, [.data (.int .i64)])], [], fun x k => c x.1.1.1 (fun r0 r1 => k (((r0, ()), (r1, ()), ()), ()))⟩
section
variable (c_lexer_form : zq8k)
@[reducible] def lexer_Token_X : Ctx := ⟨look tab, pick1 [(10, .spec (zq8l c_lexer_form))], false, false, false, false⟩
def zq9c {β : Type} (word : List UInt8) (k : (zq0 → Int → Option β)) : Option β :=
  cond (decide (word = ([] : List UInt8)))
  (k ((0 : Int), (([] : List UInt8), (0 : Int))) (2 : Int))
  (c_lexer_form word (fun (rform : Int) (rform2 : Int) (rform3 : Bool) =>
  cond (!rform3)
  (k ((0 : Int), (([] : List UInt8), (0 : Int))) (2 : Int))
  (let t : Bool := (decide (rform = (0 : Int)));
  cond t
  (k (rform, (word, (0 : Int))) (0 : Int))
  (k (rform, (([] : List UInt8), rform2)) (0 : Int)))))
theorem zq9d (hΓ : ΓOk Tryd.prog (lexer_Token_X c_lexer_form).Γ) : SpecOk Tryd.prog 6 (zq9b (zq9c c_lexer_form)) :=
  spec_exec (X := (lexer_Token_X c_lexer_form)) (Λ := pick1 []) (rs := [.cell 2 24, .tmp 3]) (c := bodyOf Tryd.f6) mixed tab_ok hΓ Tryd.func6 (by kernel_rfl) (by kernel_rfl) (by kernel_rfl) (by kernel_rfl) CutsOk_nil (fun x k r h => Eq.trans (b := (zq9b (zq9c c_lexer_form)).run x k) (by kernel_rfl) h)
end
theorem zq9eΓ : ΓOk Tryd.prog (pick1 [(10, .spec (zq8l zq98))]) := (ΓOk_cons zq99 ΓOk_nil)
def zq9f : zq9a := zq9c zq98
theorem zq9g : SpecOk Tryd.prog 6 (zq9b zq9f) := zq9d zq98 zq9eΓ

/-- pagewatch/lexer.Line -/
abbrev zq9h := {β : Type} → (List UInt8) → (Int → (List zq0) → Option β) → Option β
def zq9i (c : zq9h) : Spec :=
  ⟨[(false, [.data .str])], [], [(false, [.rowh 0]), (false, [.data (.int .i64)])], [.row 24 zq1], fun x k => c x.1.1.1 (fun r0 r1 => k (((), (r0, ()), ()), (r1, ())))⟩
noncomputable def lexer_Line_p1_code : Code := codeAt 58 (bodyOf Tryd.f13)
noncomputable def lexer_Line_p2_code : Code := codeAt 506 (bodyOf Tryd.f13)
abbrev zq9j (β : Type) := Int → (List zq0) → Option β
abbrev zq9k (β : Type) := (List UInt8) → Option β
abbrev zq9l := {β : Type} → zq9j β → zq9k β → (List UInt8) → Int → Int → Option β
def zq9m : View := ⟨0, [0, 14, 15], [(false, [.data .str]), (false, [.data (.int .i64)]), (false, [.data (.int .i64)])], []⟩
def zq9n : List (AExit × View) := [(.ret, ⟨0, [2, 3], [(false, [.rowh 0]), (false, [.data (.int .i64)])], [.row 24 zq1]⟩), (.exit 0, ⟨0, [0], [(false, [.data .str])], []⟩)]
@[reducible] def lexer_Line_p1_G (p : zq9l) {β : Type} (d : zq9m.den) (ks : Outs.K β zq9n) : Option β :=
  p (fun a0 a1 => ks.1 (((), (a0, ()), ()), (a1, ()))) (fun a0 => ks.2.1 (((a0, ()), ()), ())) d.1.1.1 d.1.2.1.1 d.1.2.2.1.1
abbrev zq9o (β : Type) := Int → (List zq0) → Option β
abbrev zq9p (β : Type) := (List zq0) → Option β
abbrev zq9q := {β : Type} → zq9o β → zq9p β → Int → Int → (List zq0) → (List (List UInt8)) → Option β
def zq9r : View := ⟨0, [5, 36, 37, 38], [(false, [.rowh 0]), (false, [.rowh 1]), (false, [.data (.int .i64)]), (false, [.data (.int .i64)])], [.row 24 zq1, .row 9 .str]⟩
def zq9s : List (AExit × View) := [(.ret, ⟨0, [2, 3], [(false, [.rowh 0]), (false, [.data (.int .i64)])], [.row 24 zq1]⟩), (.exit 2, ⟨0, [5], [(false, [.rowh 0])], [.row 24 zq1]⟩)]
@[reducible] def lexer_Line_p2_G (p : zq9q) {β : Type} (d : zq9r.den) (ks : Outs.K β zq9s) : Option β :=
  p (fun a0 a1 => ks.1 (((), (a0, ()), ()), (a1, ()))) (fun a0 => ks.2.1 (((), ()), (a0, ()))) d.1.2.2.1.1 d.1.2.2.2.1.1 d.2.1 d.2.2.1
section
variable (c_lexer_Token : zq9a) (c_strings_Cut : zq11) (c_strings_Fields : zq17)
@[reducible] def lexer_Line_X : Ctx := ⟨look tab, pick1 [(6, .spec (zq9b c_lexer_Token)), (23, .spec (zq12 c_strings_Cut)), (24, .spec (zq18 c_strings_Fields))], false, false, false, false⟩
def zq9t {β : Type} (rec : (List UInt8) → Int → Int → Option β) (k1 : zq9j β) (k2 : zq9k β) (text : List UInt8) (t14 : Int) (t15 : Int) : Option β :=
  cond (decide (t15 < t14))
  (cond (decide (0 ≤ t15) && decide (t15 < (List.length text : Int)))
  (cond (decide (((List.getD text (Int.toNat t15) 0).toNat : Int) < (32 : Int)))
  (k1 (2 : Int) ([] : List zq0))
  (cond (decide (0 ≤ t15) && decide (t15 < (List.length text : Int)))
  (cond (decide ((126 : Int) < ((List.getD text (Int.toNat t15) 0).toNat : Int)))
  (k1 (2 : Int) ([] : List zq0))
  (rec text t14 (IntKind.i64.wrap (t15 + (1 : Int)))))
  none))
  none)
  (k2 text)
def zq9u {β : Type} : Nat → zq9j β → zq9k β → (List UInt8) → Int → Int → Option β
  | 0 => fun _ _ _ _ _ => none
  | i + 1 => fun k1 k2 text t14 t15 => zq9t (zq9u i k1 k2) k1 k2 text t14 t15
theorem zq9v (hΓ : ΓOk Tryd.prog (lexer_Line_X c_lexer_Token c_strings_Cut c_strings_Fields).Γ) (i : Nat) : PieceOk Tryd.prog 56 0 lexer_Line_p1_code zq9m zq9n (lexer_Line_p1_G (zq9u i)) := by
  rw [show lexer_Line_p1_code = .loop (loopBody lexer_Line_p1_code) by kernel_rfl]
  exact piece_loop (X := (lexer_Line_X c_lexer_Token c_strings_Cut c_strings_Fields)) (p := 1) (Λ := pick1 []) (G := fun i => @fun β d ks => lexer_Line_p1_G (zq9u i) d ks) mixed tab_ok hΓ rfl (by kernel_rfl) CutsOk_nil (fun _ _ => rfl) (fun i => @fun β d ks r h => Eq.trans (b := lexer_Line_p1_G (zq9u (i + 1)) d ks) (by kernel_rfl) h) i
def zq9w {β : Type} (rec : Int → Int → (List zq0) → (List (List UInt8)) → Option β) (k1 : zq9o β) (k2 : zq9p β) (t37 : Int) (t38 : Int) (out : List zq0) (t36 : List (List UInt8)) : Option β :=
  cond (decide (t38 < t37))
  (cond (decide (0 ≤ t38) && decide (t38 < (List.length t36 : Int)))
  (let w : List UInt8 := (List.getD t36 (Int.toNat t38) ([] : List UInt8));
  c_lexer_Token w (fun (rToken : zq0) (rToken2 : Int) =>
  cond (!decide (rToken2 = (0 : Int)))
  (k1 rToken2 ([] : List zq0))
  (let l : List zq0 := ([rToken] : List zq0);
  cond (decide ((List.length out + List.length l) * 32 ≤ roomMax))
  (let l2 : List zq0 := (out ++ l);
  rec t37 (IntKind.i64.wrap (t38 + (1 : Int))) l2 t36)
  none)))
  none)
  (k2 out)
def zq9x {β : Type} : Nat → zq9o β → zq9p β → Int → Int → (List zq0) → (List (List UInt8)) → Option β
  | 0 => fun _ _ _ _ _ _ => none
  | i + 1 => fun k1 k2 t37 t38 out t36 => zq9w c_lexer_Token (zq9x i k1 k2) k1 k2 t37 t38 out t36
theorem zq9y (hΓ : ΓOk Tryd.prog (lexer_Line_X c_lexer_Token c_strings_Cut c_strings_Fields).Γ) (i : Nat) : PieceOk Tryd.prog 56 0 lexer_Line_p2_code zq9r zq9s (lexer_Line_p2_G (zq9x c_lexer_Token i)) := by
  rw [show lexer_Line_p2_code = .loop (loopBody lexer_Line_p2_code) by kernel_rfl]
  exact piece_loop (X := (lexer_Line_X c_lexer_Token c_strings_Cut c_strings_Fields)) (p := 1) (Λ := pick1 []) (G := fun i => @fun β d ks => lexer_Line_p2_G (zq9x c_lexer_Token i) d ks) mixed tab_ok hΓ rfl (by kernel_rfl) CutsOk_nil (fun _ _ => rfl) (fun i => @fun β d ks r h => Eq.trans (b := lexer_Line_p2_G (zq9x c_lexer_Token (i + 1)) d ks) (by kernel_rfl) h) i
def zq9z (p1 : zq9l) (p2 : zq9q) {β : Type} (text : List UInt8) (k : (Int → (List zq0) → Option β)) : Option β :=
  cond (decide ((512 : Int) < (List.length text : Int)))
  (k (5 : Int) ([] : List zq0))
  (p1 (fun (t3 : Int) (t2 : List zq0) =>
  k t3 t2) (fun (text2 : List UInt8) =>
  c_strings_Cut text2 ([35] : List UInt8) (fun (rCut : List UInt8) (rCut2 : List UInt8) (rCut3 : Bool) =>
  c_strings_Fields rCut (fun (lrFields : List (List UInt8)) =>
  p2 (fun (t3 : Int) (t2 : List zq0) =>
  k t3 t2) (fun (out : List zq0) =>
  k (0 : Int) out) (List.length lrFields : Int) (0 : Int) ([] : List zq0) lrFields))) text (List.length text : Int) (0 : Int))
theorem zqa0 (hΓ : ΓOk Tryd.prog (lexer_Line_X c_lexer_Token c_strings_Cut c_strings_Fields).Γ) (p1 : zq9l) (p2 : zq9q) (hp1 : PieceOk Tryd.prog 56 0 lexer_Line_p1_code zq9m zq9n (lexer_Line_p1_G p1)) (hp2 : PieceOk Tryd.prog 56 0 lexer_Line_p2_code zq9r zq9s (lexer_Line_p2_G p2)) : SpecOk Tryd.prog 13 (zq9i (zq9z c_strings_Cut c_strings_Fields p1 p2)) :=
  spec_exec (X := (lexer_Line_X c_lexer_Token c_strings_Cut c_strings_Fields)) (Λ := pick1 [(58, pieceCut zq9m zq9n (lexer_Line_p1_G p1)), (506, pieceCut zq9r zq9s (lexer_Line_p2_G p2))]) (rs := [.tmp 2, .tmp 3]) (c := bodyOf Tryd.f13) mixed tab_ok hΓ Tryd.func13 (by kernel_rfl) (by kernel_rfl) (by kernel_rfl) (by kernel_rfl) (CutsOk_cons (q := 58) (c' := lexer_Line_p1_code) (by kernel_rfl) rfl hp1 (CutsOk_cons (q := 506) (c' := lexer_Line_p2_code) (by kernel_rfl) rfl hp2 CutsOk_nil)) (fun x k r h => Eq.trans (b := (zq9i (zq9z c_strings_Cut c_strings_Fields p1 p2)).run x k) (by kernel_rfl) h)
end
theorem zqa1Γ : ΓOk Tryd.prog (pick1 [(6, .spec (zq9b zq9f)), (23, .spec (zq12 zq13)), (24, .spec (zq18 zq19))]) := (ΓOk_cons zq9g (ΓOk_cons zq14 (ΓOk_cons zq1a ΓOk_nil)))
def zqa2 (m : Nat) : zq9l := zq9u m
theorem zqa3 {β : Type} (i : Nat) (k1 k2 text t14 t15) : (zqa2 (i + 1) k1 k2 text t14 t15 : Option β) = zq9t (zqa2 i k1 k2) k1 k2 text t14 t15 := rfl
def zqa4 : zq9l := zqa2 fuel
theorem zqa5 : PieceOk Tryd.prog 56 0 lexer_Line_p1_code zq9m zq9n (lexer_Line_p1_G zqa4) := zq9v zq9f zq13 zq19 zqa1Γ fuel
def zqa6 (m : Nat) : zq9q := zq9x zq9f m
theorem zqa7 {β : Type} (i : Nat) (k1 k2 t37 t38 out t36) : (zqa6 (i + 1) k1 k2 t37 t38 out t36 : Option β) = zq9w zq9f (zqa6 i k1 k2) k1 k2 t37 t38 out t36 := rfl
def zqa8 : zq9q := zqa6 fuel
theorem zqa9 : PieceOk Tryd.prog 56 0 lexer_Line_p2_code zq9r zq9s (lexer_Line_p2_G zqa8) := zq9y zq9f zq13 zq19 zqa1Γ fuel
def zqaa : zq9h := zq9z zq13 zq19 zqa4 zqa8
theorem zqab : SpecOk Tryd.prog 13 (zq9i zqaa) := zqa0 zq9f zq13 zq19 zqa1Γ zqa4 zqa8 zqa5 zqa9

/-- pagewatch/pagewatchlaw06.sane -/
abbrev zqac := {β : Type} → (Bool → Option β) → Option β
def zqad (c : zqac) : Spec :=
  ⟨[], [], [(false, [.data .bool])], [], fun x k => c  (fun r0 => k (((r0, ()), ()), ()))⟩
section
variable (c_lexer_Line : zq9h) (c_lexer_Text : zq8d) (c_lexer_Token : zq9a)
@[reducible] def law06_sane_X : Ctx := ⟨look tab, pick1 [(13, .spec (zq9i c_lexer_Line)), (5, .spec (zq8e c_lexer_Text)), (6, .spec (zq9b c_lexer_Token))], false, false, false, false⟩
def zqae {β : Type} (k : (Bool → Option β)) : Option β :=
  c_lexer_Token ([50, 48, 50, 54, 45, 48, 51, 45, 50, 57, 84, 48, 49, 58, 48, 48, 58, 48, 48, 90] : List UInt8) (fun (rToken : zq0) (rToken2 : Int) =>
  c_lexer_Token ([50, 52, 58, 48, 48] : List UInt8) (fun (rToken3 : zq0) (rToken4 : Int) =>
  c_lexer_Token ([50, 52, 58, 48, 49] : List UInt8) (fun (rToken5 : zq0) (rToken6 : Int) =>
  c_lexer_Line ([97, 32, 35, 32, 98] : List UInt8) (fun (rLine : Int) (lrLine : List zq0) =>
  c_lexer_Text ((4 : Int), (([] : List UInt8), (-5400 : Int))) (fun (rText : List UInt8) (rText2 : Int) =>
  cond (decide (rToken2 = (0 : Int)))
  (cond (decide (rToken4 = (0 : Int)))
  (cond (decide (rToken6 = (2 : Int)))
  (cond (decide (rLine = (0 : Int)))
  (cond (decide (rText2 = (0 : Int)))
  (cond (decide (rToken.1 = (5 : Int)) && (decide (rToken.2.1 = ([] : List UInt8)) && (decide (rToken.2.2 = (1774746000 : Int)) && true)))
  (cond (decide (rToken3.2.2 = (86400 : Int)))
  (cond (decide ((List.length lrLine : Int) = (1 : Int)))
  (let t : Bool := (decide (rText = ([45, 48, 49, 58, 51, 48] : List UInt8)));
  k t)
  (k false))
  (k false))
  (k false))
  (k false))
  (k false))
  (k false))
  (k false))
  (k false))))))
theorem zqaf (hΓ : ΓOk Tryd.prog (law06_sane_X c_lexer_Line c_lexer_Text c_lexer_Token).Γ) : SpecOk Tryd.prog 8 (zqad (zqae c_lexer_Line c_lexer_Text c_lexer_Token)) :=
  spec_exec (X := (law06_sane_X c_lexer_Line c_lexer_Text c_lexer_Token)) (Λ := pick1 []) (rs := [.tmp 0]) (c := bodyOf Tryd.f8) mixed tab_ok hΓ Tryd.func8 (by kernel_rfl) (by kernel_rfl) (by kernel_rfl) (by kernel_rfl) CutsOk_nil (fun x k r h => Eq.trans (b := (zqad (zqae c_lexer_Line c_lexer_Text c_lexer_Token)).run x k) (by kernel_rfl) h)
end
theorem zqagΓ : ΓOk Tryd.prog (pick1 [(13, .spec (zq9i zqaa)), (5, .spec (zq8e zq8i)), (6, .spec (zq9b zq9f))]) := (ΓOk_cons zqab (ΓOk_cons zq8j (ΓOk_cons zq9g ΓOk_nil)))
def zqah : zqac := zqae zqaa zq8i zq9f
theorem zqai : SpecOk Tryd.prog 8 (zqad zqah) := zqaf zqaa zq8i zq9f zqagΓ

/-- pagewatch/pagewatchlaw06.LexerNumbers -/
abbrev zqaj := {β : Type} → Int → Int → Int → Int → Int → (Bool → Option β) → Option β
def zqak (c : zqaj) : Spec :=
  ⟨[(false, [.data (.int .i64)]), (false, [.data (.int .i64)]), (false, [.data (.int .i64)]), (false, [.data (.int .i64)]), (false, [.data (.int .i64)])], [], [(false, [.data .bool])], [], fun x k => c x.1.1.1 x.1.2.1.1 x.1.2.2.1.1 x.1.2.2.2.1.1 x.1.2.2.2.2.1.1 (fun r0 => k (((r0, ()), ()), ()))⟩
noncomputable def law06_LexerNumbers_p1_code : Code := codeAt 58 (bodyOf Tryd.f3)
abbrev zqal (β : Type) := Bool → Option β
abbrev zqam (β : Type) := Unit → Option β
abbrev zqan := {β : Type} → zqal β → zqam β → Int → (List UInt8) → Int → Int → (List UInt8) → Int → Int → (List UInt8) → Int → Int → (List UInt8) → Int → Int → (List UInt8) → Int → Int → Option β
def zqao : View := ⟨0, [57, 58], [(true, [.data (.int .i64), .data .str, .data (.int .i64), .data (.int .i64), .data .str, .data (.int .i64), .data (.int .i64), .data .str, .data (.int .i64), .data (.int .i64), .data .str, .data (.int .i64), .data (.int .i64), .data .str, .data (.int .i64)]), (false, [.data (.int .i64)])], []⟩
def zqap : List (AExit × View) := [(.ret, ⟨0, [10], [(false, [.data .bool])], []⟩), (.exit 0, ⟨0, [], [], []⟩)]
@[reducible] def law06_LexerNumbers_p1_G (p : zqan) {β : Type} (d : zqao.den) (ks : Outs.K β zqap) : Option β :=
  p (fun a0 => ks.1 (((a0, ()), ()), ())) (fun _ => ks.2.1 ((), ())) d.1.1.1 d.1.1.2.1 d.1.1.2.2.1 d.1.1.2.2.2.1 d.1.1.2.2.2.2.1 d.1.1.2.2.2.2.2.1 d.1.1.2.2.2.2.2.2.1 d.1.1.2.2.2.2.2.2.2.1 d.1.1.2.2.2.2.2.2.2.2.1 d.1.1.2.2.2.2.2.2.2.2.2.1 d.1.1.2.2.2.2.2.2.2.2.2.2.1 d.1.1.2.2.2.2.2.2.2.2.2.2.2.1 d.1.1.2.2.2.2.2.2.2.2.2.2.2.2.1 d.1.1.2.2.2.2.2.2.2.2.2.2.2.2.2.1 d.1.1.2.2.2.2.2.2.2.2.2.2.2.2.2.2.1 d.1.2.1.1
section
variable (c_law06_sane : zqac) (c_lexer_Name : zq27) (c_lexer_Text : zq8d) (c_lexer_Token : zq9a) (c_made_Mod : zq2)
@[reducible] def law06_LexerNumbers_X : Ctx := ⟨look tab, pick1 [(8, .spec (zqad c_law06_sane)), (7, .spec (zq28 c_lexer_Name)), (5, .spec (zq8e c_lexer_Text)), (6, .spec (zq9b c_lexer_Token)), (4, .spec (zq3 c_made_Mod))], false, false, false, false⟩
def zqaq {β : Type} (rec : Int → (List UInt8) → Int → Int → (List UInt8) → Int → Int → (List UInt8) → Int → Int → (List UInt8) → Int → Int → (List UInt8) → Int → Int → Option β) (k1 : zqal β) (k2 : zqam β) (t57 : Int) (t572 : List UInt8) (t573 : Int) (t574 : Int) (t575 : List UInt8) (t576 : Int) (t577 : Int) (t578 : List UInt8) (t579 : Int) (t5710 : Int) (t5711 : List UInt8) (t5712 : Int) (t5713 : Int) (t5714 : List UInt8) (t5715 : Int) (t58 : Int) : Option β :=
  cond (decide (t58 < (5 : Int)))
  (cond (decide (0 ≤ t58) && decide (t58 < (List.length ([(t57, (t572, t573)), (t574, (t575, t576)), (t577, (t578, t579)), (t5710, (t5711, t5712)), (t5713, (t5714, t5715))] : List zq0) : Int)))
  (let e : zq0 := List.getD ([(t57, (t572, t573)), (t574, (t575, t576)), (t577, (t578, t579)), (t5710, (t5711, t5712)), (t5713, (t5714, t5715))] : List zq0) (Int.toNat t58) ((0 : Int), (([] : List UInt8), (0 : Int)));
  c_lexer_Text e (fun (rText : List UInt8) (rText2 : Int) =>
  c_lexer_Token rText (fun (rToken : zq0) (rToken2 : Int) =>
  cond (!decide (rText2 = (0 : Int)))
  (k1 false)
  (cond (!decide (rToken2 = (0 : Int)))
  (k1 false)
  (cond (!(decide (rToken.1 = e.1) && (decide (rToken.2.1 = e.2.1) && (decide (rToken.2.2 = e.2.2) && true))))
  (k1 false)
  (c_lexer_Name rText (fun (rName : Bool) =>
  cond rName
  (k1 false)
  (rec t57 t572 t573 t574 t575 t576 t577 t578 t579 t5710 t5711 t5712 t5713 t5714 t5715 (IntKind.i64.wrap (t58 + (1 : Int)))))))))))
  none)
  (k2 ())
def zqar {β : Type} : Nat → zqal β → zqam β → Int → (List UInt8) → Int → Int → (List UInt8) → Int → Int → (List UInt8) → Int → Int → (List UInt8) → Int → Int → (List UInt8) → Int → Int → Option β
  | 0 => fun _ _ _ _ _ _ _ _ _ _ _ _ _ _ _ _ _ _ => none
  | i + 1 => fun k1 k2 t57 t572 t573 t574 t575 t576 t577 t578 t579 t5710 t5711 t5712 t5713 t5714 t5715 t58 => zqaq c_lexer_Name c_lexer_Text c_lexer_Token (zqar i k1 k2) k1 k2 t57 t572 t573 t574 t575 t576 t577 t578 t579 t5710 t5711 t5712 t5713 t5714 t5715 t58
theorem zqas (hΓ : ΓOk Tryd.prog (law06_LexerNumbers_X c_law06_sane c_lexer_Name c_lexer_Text c_lexer_Token c_made_Mod).Γ) (i : Nat) : PieceOk Tryd.prog 88 0 law06_LexerNumbers_p1_code zqao zqap (law06_LexerNumbers_p1_G (zqar c_lexer_Name c_lexer_Text c_lexer_Token i)) := by
  rw [show law06_LexerNumbers_p1_code = .loop (loopBody law06_LexerNumbers_p1_code) by kernel_rfl]
  exact piece_loop (X := (law06_LexerNumbers_X c_law06_sane c_lexer_Name c_lexer_Text c_lexer_Token c_made_Mod)) (p := 1) (Λ := pick1 []) (G := fun i => @fun β d ks => law06_LexerNumbers_p1_G (zqar c_lexer_Name c_lexer_Text c_lexer_Token i) d ks) mixed tab_ok hΓ rfl (by kernel_rfl) CutsOk_nil (fun _ _ => rfl) (fun i => @fun β d ks r h => Eq.trans (b := law06_LexerNumbers_p1_G (zqar c_lexer_Name c_lexer_Text c_lexer_Token (i + 1)) d ks) (by kernel_rfl) h) i
def zqat (p1 : zqan) {β : Type} (n : Int) (h : Int) (m : Int) (s : Int) (day : Int) (k : (Bool → Option β)) : Option β :=
  c_made_Mod n (1000000000 : Int) (fun (rMod : Int) =>
  c_made_Mod h (24 : Int) (fun (rMod2 : Int) =>
  c_made_Mod m (60 : Int) (fun (rMod3 : Int) =>
  c_made_Mod s (60 : Int) (fun (rMod4 : Int) =>
  c_made_Mod day (98980 : Int) (fun (rMod5 : Int) =>
  cond (!decide ((18 : Int) = 0))
  (p1 (fun (t10 : Bool) =>
  k t10) (fun (_ : Unit) =>
  c_law06_sane  (fun (rsane : Bool) =>
  k rsane)) (1 : Int) ([] : List UInt8) rMod (2 : Int) ([] : List UInt8) (IntKind.i64.wrap ((IntKind.i64.wrap ((IntKind.i64.wrap (rMod2 * (3600 : Int))) + (IntKind.i64.wrap (rMod3 * (60 : Int))))) + rMod4)) (3 : Int) ([] : List UInt8) rMod5 (5 : Int) ([] : List UInt8) (IntKind.i64.wrap ((IntKind.i64.wrap ((IntKind.i64.wrap ((IntKind.i64.wrap (rMod5 * (86400 : Int))) + (IntKind.i64.wrap (rMod2 * (3600 : Int))))) + (IntKind.i64.wrap (rMod3 * (60 : Int))))) + rMod4)) (4 : Int) ([] : List UInt8) (IntKind.i64.wrap ((IntKind.i64.wrap ((Int.tmod rMod2 (18 : Int)) * (3600 : Int))) + (IntKind.i64.wrap (rMod3 * (60 : Int))))) (0 : Int))
  none)))))
theorem zqau (hΓ : ΓOk Tryd.prog (law06_LexerNumbers_X c_law06_sane c_lexer_Name c_lexer_Text c_lexer_Token c_made_Mod).Γ) (p1 : zqan) (hp1 : PieceOk Tryd.prog 88 0 law06_LexerNumbers_p1_code zqao zqap (law06_LexerNumbers_p1_G p1)) : SpecOk Tryd.prog 3 (zqak (zqat c_law06_sane c_made_Mod p1)) :=
  spec_exec (X := (law06_LexerNumbers_X c_law06_sane c_lexer_Name c_lexer_Text c_lexer_Token c_made_Mod)) (Λ := pick1 [(58, pieceCut zqao zqap (law06_LexerNumbers_p1_G p1))]) (rs := [.tmp 10]) (c := bodyOf Tryd.f3) mixed tab_ok hΓ Tryd.func3 (by kernel_rfl) (by kernel_rfl) (by kernel_rfl) (by kernel_rfl) (CutsOk_cons (q := 58) (c' := law06_LexerNumbers_p1_code) (by kernel_rfl) rfl hp1 CutsOk_nil) (fun x k r h => Eq.trans (b := (zqak (zqat c_law06_sane c_made_Mod p1)).run x k) (by kernel_rfl) h)
end
theorem zqavΓ : ΓOk Tryd.prog (pick1 [(8, .spec (zqad zqah)), (7, .spec (zq28 zq2o)), (5, .spec (zq8e zq8i)), (6, .spec (zq9b zq9f)), (4, .spec (zq3 zq7))]) := (ΓOk_cons zqai (ΓOk_cons zq2p (ΓOk_cons zq8j (ΓOk_cons zq9g (ΓOk_cons zq8 ΓOk_nil)))))
def zqaw (m : Nat) : zqan := zqar zq2o zq8i zq9f m
theorem zqax {β : Type} (i : Nat) (k1 k2 t57 t572 t573 t574 t575 t576 t577 t578 t579 t5710 t5711 t5712 t5713 t5714 t5715 t58) : (zqaw (i + 1) k1 k2 t57 t572 t573 t574 t575 t576 t577 t578 t579 t5710 t5711 t5712 t5713 t5714 t5715 t58 : Option β) = zqaq zq2o zq8i zq9f (zqaw i k1 k2) k1 k2 t57 t572 t573 t574 t575 t576 t577 t578 t579 t5710 t5711 t5712 t5713 t5714 t5715 t58 := rfl
def zqay : zqan := zqaw fuel
theorem zqaz : PieceOk Tryd.prog 88 0 law06_LexerNumbers_p1_code zqao zqap (law06_LexerNumbers_p1_G zqay) := zqas zqah zq2o zq8i zq9f zq7 zqavΓ fuel
def zqb0 : zqaj := zqat zqah zq7 zqay
theorem zqb1 : SpecOk Tryd.prog 3 (zqak zqb0) := zqau zqah zq2o zq8i zq9f zq7 zqavΓ zqay zqaz
end
end Go.Lift
/- Plain lemmas about functional forms: tests that are known, loops. -/
namespace Go.Lift
open Go.RowKit Go.IntWalk

section
variable {β : Type}
/-! ### Tests -/
theorem c_inb {i n : Int} {a b : Option β} (h : 0 ≤ i ∧ i < n) : cond (decide (0 ≤ i) && decide (i < n)) a b = a := by
  rw [decide_eq_true h.1, decide_eq_true h.2]; rfl
theorem c_room {n : Nat} {a b : Option β} (h : n ≤ 140737488355328) : cond (decide (n ≤ roomMax)) a b = a := by
  rw [decide_eq_true (p := n ≤ roomMax) h]; rfl
theorem c_pos {p : Prop} [Decidable p] {a b : Option β} (h : p) : cond (decide p) a b = a := by rw [decide_eq_true h]; rfl
theorem c_neg {p : Prop} [Decidable p] {a b : Option β} (h : ¬ p) : cond (decide p) a b = b := by rw [decide_eq_false h]; rfl
theorem c_npos {p : Prop} [Decidable p] {a b : Option β} (h : p) : cond (!decide p) a b = b := by rw [decide_eq_true h]; rfl
theorem c_nneg {p : Prop} [Decidable p] {a b : Option β} (h : ¬ p) : cond (!decide p) a b = a := by rw [decide_eq_false h]; rfl
theorem c_t {a b : Option β} : cond true a b = a := rfl
theorem c_f {a b : Option β} : cond false a b = b := rfl
theorem c_p2 {p q : Prop} [Decidable p] [Decidable q] {a b : Option β} (hp : p) (hq : q) : cond (decide p && decide q) a b = a := by rw [decide_eq_true hp, decide_eq_true hq]; rfl
theorem c_p3 {p q r : Prop} [Decidable p] [Decidable q] [Decidable r] {a b : Option β} (hp : p) (hq : q) (hr : r) : cond (decide p && (decide q && decide r)) a b = a := by rw [decide_eq_true hp, decide_eq_true hq, decide_eq_true hr]; rfl
theorem k_eq {γ : Type} {k : γ → Option β} {x y : γ} (h : x = y) : k x = k y := by rw [h]

/-! ### Loops over the numbers from 0 on -/
end
end Go.Lift

/- Days and dates (chapter 1): what the code makes of the days of the platform's years. -/
namespace Go.Lift
open Go.RowKit Go.IntWalk
noncomputable section
set_option linter.unusedVariables false
set_option linter.unusedSimpArgs false
set_option maxRecDepth 10000

abbrev leapP (y : Int) : Prop := y % 4 = 0 ∧ (y % 100 ≠ 0 ∨ y % 400 = 0)
def daysL (lp : Prop) [Decidable lp] (m : Int) : Int :=
  if m < 1 then 0 else if 12 < m then 0 else if m = 2 then (if lp then 29 else 28) else if m = 4 ∨ m = 6 ∨ m = 9 ∨ m = 11 then 30 else 31
def cntN (y : Int) : Int := 365 * (y - 1970) + (y - 1) / 4 - (y - 1) / 100 + (y - 1) / 400 - 477
def sumM (lp : Prop) [Decidable lp] : Nat → Int
  | 0 => 0
  | n + 1 => sumM lp n + daysL lp ((n : Int) + 1)

section
variable {β : Type}
theorem civ_leap {y : Int} (hy : 0 ≤ y) (k : Bool → Option β) : zq25 y k = k (decide (leapP y)) := by
  have e1 : Int.tmod y 4 = y % 4 := Int.tmod_eq_emod_of_nonneg hy
  have e2 : Int.tmod y 100 = y % 100 := Int.tmod_eq_emod_of_nonneg hy
  have e3 : Int.tmod y 400 = y % 400 := Int.tmod_eq_emod_of_nonneg hy
  unfold zq25 zq22
  rw [e1, e2, e3]
  refine (c_nneg (by decide)).trans ?_
  by_cases h1 : y % 4 = 0
  · refine (c_pos h1).trans ?_
    refine (c_nneg (by decide)).trans ?_
    by_cases h2 : y % 100 = 0
    · refine (c_npos h2).trans ?_
      refine (c_nneg (by decide)).trans ?_
      exact k_eq (decide_eq_decide.2 ⟨fun h => ⟨h1, .inr h⟩, fun h => by rcases h.2 with h | h; exact absurd h2 h; exact h⟩)
    · refine (c_nneg h2).trans ?_
      exact k_eq (decide_eq_true (p := leapP y) ⟨h1, .inl h2⟩).symm
  · refine (c_neg h1).trans ?_
    exact k_eq (decide_eq_false (p := leapP y) fun h => h1 h.1).symm

theorem civ_days {y : Int} (hy : 0 ≤ y) (m : Int) (k : Int → Option β) : zq4h y m k = k (daysL (leapP y) m) := by
  by_cases h1 : m < 1
  · unfold zq4h zq4e
    refine (c_pos h1).trans (k_eq ?_)
    unfold daysL
    rw [if_pos h1]
  · by_cases h2 : 12 < m
    · unfold zq4h zq4e
      refine (c_neg h1).trans ((c_pos h2).trans (k_eq ?_))
      unfold daysL
      rw [if_neg h1, if_pos h2]
    · have hm : m = 1 ∨ m = 2 ∨ m = 3 ∨ m = 4 ∨ m = 5 ∨ m = 6 ∨ m = 7 ∨ m = 8 ∨ m = 9 ∨ m = 10 ∨ m = 11 ∨ m = 12 := by omega
      rcases hm with rfl | rfl | rfl | rfl | rfl | rfl | rfl | rfl | rfl | rfl | rfl | rfl
      · exact (show zq4h y 1 k = k (daysL (leapP y) 1) by kernel_rfl)
      · unfold zq4h zq4e
        refine (c_neg h1).trans ((c_neg h2).trans ((c_pos rfl).trans ?_))
        refine (civ_leap hy _).trans ?_
        unfold daysL
        rw [if_neg h1, if_neg h2, if_pos rfl]
        by_cases h : leapP y
        · rw [decide_eq_true h, if_pos h]
          rfl
        · rw [decide_eq_false h, if_neg h]
          rfl
      · exact (show zq4h y 3 k = k (daysL (leapP y) 3) by kernel_rfl)
      · exact (show zq4h y 4 k = k (daysL (leapP y) 4) by kernel_rfl)
      · exact (show zq4h y 5 k = k (daysL (leapP y) 5) by kernel_rfl)
      · exact (show zq4h y 6 k = k (daysL (leapP y) 6) by kernel_rfl)
      · exact (show zq4h y 7 k = k (daysL (leapP y) 7) by kernel_rfl)
      · exact (show zq4h y 8 k = k (daysL (leapP y) 8) by kernel_rfl)
      · exact (show zq4h y 9 k = k (daysL (leapP y) 9) by kernel_rfl)
      · exact (show zq4h y 10 k = k (daysL (leapP y) 10) by kernel_rfl)
      · exact (show zq4h y 11 k = k (daysL (leapP y) 11) by kernel_rfl)
      · exact (show zq4h y 12 k = k (daysL (leapP y) 12) by kernel_rfl)

theorem civ_floor {a b : Int} (ha : 0 ≤ a ∧ a ≤ 1000000000) (hb : 0 < b ∧ b ≤ 1000000000) (k : Int → Option β) : zq1y a b k = k (a / b) := by
  have e1 : Int.tdiv a b = a / b := Int.tdiv_eq_ediv_of_nonneg ha.1
  have e2 : Int.tmod a b = a % b := Int.tmod_eq_emod_of_nonneg ha.1
  have e3 := Int.emod_nonneg a (show b ≠ 0 by omega)
  have e4 := Int.ediv_nonneg ha.1 (show 0 ≤ b by omega)
  have e5 := Int.ediv_le_self b ha.1
  unfold zq1y zq1v
  refine (c_nneg (by omega)).trans ?_
  refine (c_nneg (by omega)).trans ?_
  refine (c_neg (by omega)).trans ?_
  rw [e1, i64_in _ (by omega)]

theorem civ_count {y : Int} (hy : 1 ≤ y ∧ y ≤ 1000000) (k : Int → Option β) : zq3s y k = k (cntN y) := by
  unfold zq3s zq3p
  simp only
  rw [i64_in (y - 1) (by omega)]
  refine (civ_floor (by omega) (by omega) _).trans ?_
  refine (civ_floor (by omega) (by omega) _).trans ?_
  refine (civ_floor (by omega) (by omega) _).trans ?_
  rw [i64_in (y - 1970) (by omega), i64_in (365 * (y - 1970)) (by omega), i64_in (365 * (y - 1970) + (y - 1) / 4) (by omega), i64_in (365 * (y - 1970) + (y - 1) / 4 - (y - 1) / 100) (by omega),
    i64_in (365 * (y - 1970) + (y - 1) / 4 - (y - 1) / 100 + (y - 1) / 400) (by omega), i64_in (365 * (y - 1970) + (y - 1) / 4 - (y - 1) / 100 + (y - 1) / 400 - 477) (by omega)]
  rfl

theorem cnt_next {y : Int} (hy : 1 ≤ y) : cntN (y + 1) = cntN y + (if leapP y then 366 else 365) := by
  unfold cntN
  split <;> omega

theorem civ_year {day : Int} (h : 0 ≤ day ∧ day < 98981) : ∃ y, (1970 ≤ y ∧ y ≤ 2240) ∧ cntN y ≤ day ∧ day < cntN (y + 1) ∧ ∀ {β : Type} (k : Int → Option β), zq4a day k = k y := by
  have last : cntN 2241 = 98981 := by decide
  have key : ∀ (n m : Nat) (y : Int), y + n = 2240 → n < m → 1970 ≤ y → cntN y ≤ day → ∃ y', (1970 ≤ y' ∧ y' ≤ 2240) ∧ cntN y' ≤ day ∧ day < cntN (y' + 1) ∧
      ∀ {β : Type} (k1 : zq3w β), zq46 m k1 day y = k1 y' := by
    intro n
    induction n with
    | zero =>
      intro m y hy hm h0 hc
      obtain ⟨m, rfl⟩ : ∃ m', m = m' + 1 := ⟨m - 1, by omega⟩
      have hy : y = 2240 := by omega
      subst hy
      refine ⟨2240, by omega, hc, by rw [show (2240 : Int) + 1 = 2241 from rfl, last]; omega, fun k1 => ?_⟩
      simp only [zq47, zq40]
      rw [show IntKind.i64.wrap ((2240 : Int) + 1) = 2241 by decide]
      refine (civ_count (by omega) _).trans ?_
      exact c_neg (by rw [last]; omega)
    | succ n ih =>
      intro m y hy hm h0 hc
      obtain ⟨m, rfl⟩ : ∃ m', m = m' + 1 := ⟨m - 1, by omega⟩
      by_cases hn : cntN (y + 1) ≤ day
      · obtain ⟨y', h1, h2, h3, h4⟩ := ih m (y + 1) (by omega) (by omega) (by omega) hn
        refine ⟨y', h1, h2, h3, fun k1 => ?_⟩
        simp only [zq47, zq40]
        rw [i64_in (y + 1) (by omega)]
        refine (civ_count (by omega) _).trans ?_
        refine (c_pos hn).trans ?_
        exact h4 k1
      · refine ⟨y, by omega, hc, by omega, fun k1 => ?_⟩
        simp only [zq47, zq40]
        rw [i64_in (y + 1) (by omega)]
        refine (civ_count (by omega) _).trans ?_
        exact c_neg hn
  have hq : ∀ q : Fin 271, cntN (1970 + (q.val : Int)) ≤ 366 * (q.val : Int) := by decide +kernel
  have h0 : cntN (1970 + day / 366) ≤ day := by
    have := hq ⟨(day / 366).toNat, by omega⟩
    simp only at this
    rw [show (((day / 366).toNat : Nat) : Int) = day / 366 by omega] at this
    omega
  obtain ⟨y', h1, h2, h3, h4⟩ := key (2240 - (1970 + day / 366)).toNat fuel (1970 + day / 366) (by omega) (lt_fuel (by omega)) (by omega) h0
  refine ⟨y', h1, h2, h3, fun k => ?_⟩
  unfold zq4a zq43
  refine (civ_floor (by omega) (by omega) _).trans ?_
  simp only
  rw [i64_in (1970 + day / 366) (by omega)]
  exact h4 _

theorem daysL_b (lp : Prop) [Decidable lp] (m : Int) : 0 ≤ daysL lp m ∧ daysL lp m ≤ 31 := by
  unfold daysL
  repeat' split
  all_goals omega
theorem sumM_b (lp : Prop) [Decidable lp] (n : Nat) : 0 ≤ sumM lp n ∧ sumM lp n ≤ 31 * (n : Int) := by
  induction n with
  | zero => exact ⟨Int.le_refl _, Int.le_refl _⟩
  | succ n ih =>
    have := daysL_b lp ((n : Int) + 1)
    show 0 ≤ sumM lp n + daysL lp ((n : Int) + 1) ∧ sumM lp n + daysL lp ((n : Int) + 1) ≤ 31 * ((n + 1 : Nat) : Int)
    omega
theorem sumM_12 (lp : Prop) [Decidable lp] : sumM lp 12 = if lp then 366 else 365 := by
  by_cases h : lp
  · simp [sumM, daysL, h]
  · simp [sumM, daysL, h]

theorem civ_months {y : Int} (hy : 0 ≤ y) (a b c d3 : Int) : ∀ (j f n : Nat) (r : Int), n + j = 12 → j < f → 0 ≤ r → r < sumM (leapP y) 12 - sumM (leapP y) n →
    ∃ (n' : Nat) (r' : Int), n' < 12 ∧ 0 ≤ r' ∧ r' < daysL (leapP y) ((n' : Int) + 1) ∧ sumM (leapP y) n' + r' = sumM (leapP y) n + r ∧
      ∀ {β : Type} (k1 : zq60 β), zq6a f k1 r a b c y ((n : Int) + 1) d3 = k1 r' a b c y ((n' : Int) + 1) d3 := by
  intro j
  induction j with
  | zero =>
    intro f n r hn hf h0 h1
    obtain rfl : n = 12 := by omega
    omega
  | succ j ih =>
    intro f n r hn hf h0 h1
    obtain ⟨f, rfl⟩ : ∃ f', f = f' + 1 := ⟨f - 1, by omega⟩
    have hd := daysL_b (leapP y) ((n : Int) + 1)
    have hb := sumM_b (leapP y) n
    have h12 := sumM_b (leapP y) 12
    by_cases hr : daysL (leapP y) ((n : Int) + 1) ≤ r
    · have hs : sumM (leapP y) (n + 1) = sumM (leapP y) n + daysL (leapP y) ((n : Int) + 1) := rfl
      obtain ⟨n', r', g1, g2, g3, g4, g5⟩ := ih f (n + 1) (r - daysL (leapP y) ((n : Int) + 1)) (by omega) (by omega) (by omega) (by omega)
      refine ⟨n', r', g1, g2, g3, by omega, fun k1 => ?_⟩
      simp only [zq6b, zq64]
      refine (civ_days hy _ _).trans ?_
      refine (c_pos hr).trans ?_
      refine (civ_days hy _ _).trans ?_
      rw [i64_in (r - daysL (leapP y) ((n : Int) + 1)) (by omega), i64_in ((n : Int) + 1 + 1) (by omega)]
      have := g5 k1
      rwa [show ((n + 1 : Nat) : Int) = (n : Int) + 1 by omega] at this
    · refine ⟨n, r, by omega, h0, by omega, rfl, fun k1 => ?_⟩
      simp only [zq6b, zq64]
      refine (civ_days hy _ _).trans ?_
      exact c_neg hr

theorem civ_number {y : Int} (hy : 0 ≤ y) (M d3 : Int) : ∀ (j f n : Nat) (s : Int), (n : Int) + 1 + j = M → M ≤ 12 → j < f → 0 ≤ s + 1000 → s + 31 * (j : Int) ≤ 1000000 →
    ∀ {β : Type} (k1 : zq4s β), zq52 f k1 s ((n : Int) + 1) y M d3 = k1 (s + (sumM (leapP y) (n + j) - sumM (leapP y) n)) := by
  intro j
  induction j with
  | zero =>
    intro f n s hn hM hf h0 h1 β k1
    obtain ⟨f, rfl⟩ : ∃ f', f = f' + 1 := ⟨f - 1, by omega⟩
    simp only [zq53, zq4w]
    refine (c_neg (by omega)).trans ?_
    exact k_eq (by show s = s + (sumM (leapP y) n - sumM (leapP y) n); omega)
  | succ j ih =>
    intro f n s hn hM hf h0 h1 β k1
    obtain ⟨f, rfl⟩ : ∃ f', f = f' + 1 := ⟨f - 1, by omega⟩
    have hd := daysL_b (leapP y) ((n : Int) + 1)
    simp only [zq53, zq4w]
    refine (c_pos (by omega)).trans ?_
    refine (civ_days hy _ _).trans ?_
    rw [i64_in (s + daysL (leapP y) ((n : Int) + 1)) (by omega), i64_in ((n : Int) + 1 + 1) (by omega)]
    have := ih f (n + 1) (s + daysL (leapP y) ((n : Int) + 1)) (by omega) hM (by omega) (by omega) (by omega) k1
    rw [show ((n + 1 : Nat) : Int) = (n : Int) + 1 by omega] at this
    refine this.trans (k_eq ?_)
    have hs : sumM (leapP y) (n + 1) = sumM (leapP y) n + daysL (leapP y) ((n : Int) + 1) := rfl
    rw [show n + 1 + j = n + (j + 1) by omega]
    omega

/-- A day's date, and that date's day. -/
structure DateIs (day y m d : Int) : Prop where
  yr : 1970 ≤ y ∧ y ≤ 2240
  mo : 1 ≤ m ∧ m ≤ 12
  dd : 1 ≤ d ∧ d ≤ 31
  of : ∀ {β : Type} (k : Int × Int × Int → Int → Option β), zq6e day k = k (y, m, d) 0
  day : ∀ {β : Type} (k : Int → Int → Option β), zq6l (y, m, d) k = k day 0

theorem date_ok {day : Int} (h : 0 ≤ day ∧ day < 98981) : ∃ y m d, DateIs day y m d := by
  obtain ⟨y, hy, h1, h2, h3⟩ := civ_year h
  have hn := cnt_next (y := y) (by omega)
  rw [← sumM_12] at hn
  have hc : cntN 1970 = 0 := by decide
  have hc2 : cntN 2241 = 98981 := by decide
  have hb12 := sumM_b (leapP y) 12
  have h0 : 0 ≤ cntN y := by
    unfold cntN
    omega
  obtain ⟨n', r', g1, g2, g3, g4, g5⟩ := civ_months (y := y) (by omega) 0 0 0 0 12 fuel 0 (day - cntN y) rfl (lt_fuel (by omega)) (by omega) (by show day - cntN y < sumM (leapP y) 12 - 0; omega)
  have hd := daysL_b (leapP y) ((n' : Int) + 1)
  have hs0 : sumM (leapP y) 0 = 0 := rfl
  refine ⟨y, (n' : Int) + 1, r' + 1, hy, by omega, by omega, fun k => ?_, fun k => ?_⟩
  · unfold zq6e zq67
    refine (civ_count (by omega) _).trans ?_
    refine (c_neg (by rw [hc]; omega)).trans ?_
    refine (civ_count (by omega) _).trans ?_
    refine (c_neg (by rw [hc2]; omega)).trans ?_
    refine (h3 _).trans ?_
    refine (civ_count (by omega) _).trans ?_
    simp only
    rw [i64_in (day - cntN y) (by omega)]
    refine (g5 _).trans ?_
    rw [i64_in (r' + 1) (by omega)]
  · unfold zq6l zq6i
    have hv : ∀ {β : Type} (k : Bool → Option β), zq4o (y, (n' : Int) + 1, r' + 1) k = k true := by
      intro β k
      unfold zq4o zq4l
      refine (c_pos hy.1).trans ?_
      refine (c_pos hy.2).trans ?_
      refine (c_pos (by show (1 : Int) ≤ r' + 1; omega)).trans ?_
      refine (civ_days (by show 0 ≤ y; omega) _ _).trans ?_
      exact k_eq (decide_eq_true (by show r' + 1 ≤ daysL (leapP y) ((n' : Int) + 1); omega))
    refine (hv _).trans ?_
    show zq56 (y, (n' : Int) + 1, r' + 1) _ = _
    unfold zq56 zq4z
    refine (civ_count (y := y) (by omega) _).trans ?_
    simp only
    rw [i64_in (cntN y + (r' + 1)) (by omega), i64_in (cntN y + (r' + 1) - 1) (by omega)]
    refine (civ_number (y := y) (by omega) ((n' : Int) + 1) (r' + 1) n' fuel 0 (cntN y + (r' + 1) - 1) (by omega) (by omega) (lt_fuel (by omega)) (by omega) (by omega) _).trans ?_
    rw [Nat.zero_add, hs0]
    have e : cntN y + (r' + 1) - 1 + (sumM (leapP y) n' - 0) = day := by omega
    rw [e]

end
end
end Go.Lift

/- Texts in plain Lean: where a byte stands, how a text is cut at a byte. -/
namespace Go.Lift
set_option linter.unusedVariables false
set_option linter.unusedSimpArgs false

section
variable {b : UInt8}
theorem ix_no : ∀ {l : List UInt8}, (∀ c ∈ l, c ≠ b) → Lib.index l [b] = -1
  | [], _ => rfl
  | c :: l, h => by
    have h1 := ix_no (l := l) fun x hx => h x (by simp [hx])
    have h2 := h c (by simp)
    unfold Lib.index
    rw [h1]
    have : List.isPrefixOf [b] (c :: l) = false := by
      simp [List.isPrefixOf]
      exact fun e => h2 e.symm
    rw [this]
    rfl
theorem ix_at : ∀ {l : List UInt8} (r : List UInt8), (∀ c ∈ l, c ≠ b) → Lib.index (l ++ b :: r) [b] = (l.length : Int)
  | [], r, _ => by
    show Lib.index (b :: r) [b] = 0
    unfold Lib.index
    simp [List.isPrefixOf]
  | c :: l, r, h => by
    have h1 := ix_at (l := l) r fun x hx => h x (by simp [hx])
    have h2 := h c (by simp)
    rw [List.cons_append]
    unfold Lib.index
    rw [h1]
    have : List.isPrefixOf [b] (c :: (l ++ b :: r)) = false := by
      simp [List.isPrefixOf]
      exact fun e => h2 e.symm
    rw [this]
    have h3 : ((l.length : Int) == -1) = false := by rw [beq_eq_false_iff_ne]; omega
    simp [h3]
theorem has_iff (l : List UInt8) : Lib.contains l [b] = decide (b ∈ l) := by
  unfold Lib.contains
  by_cases h : b ∈ l
  · obtain ⟨p, q, rfl, hp⟩ := List.eq_append_cons_of_mem h
    rw [ix_at q (fun c hc (e : c = b) => hp (e ▸ hc)), decide_eq_true h, decide_eq_true (by omega)]
  · rw [ix_no (fun c hc (e : c = b) => h (e ▸ hc)), decide_eq_false h]
    rfl
theorem split_no {l : List UInt8} (h : ∀ c ∈ l, c ≠ b) : splitL l [b] = [l] := by
  have hi := ix_no h
  unfold splitL
  rw [Lib.splitB_data]
  show Lib.splitK [b] 0 (Lib.count l [b]) l = [l]
  rw [Lib.count_miss hi]
  rfl
theorem split_at {l : List UInt8} (r : List UInt8) (h : ∀ c ∈ l, c ≠ b) : splitL (l ++ b :: r) [b] = l :: splitL r [b] := by
  have hi := ix_at r h
  have hd : (l ++ b :: r).drop (l.length + 1) = r := by
    rw [show l ++ b :: r = (l ++ [b]) ++ r by simp]
    exact List.drop_left' (by simp)
  unfold splitL
  rw [Lib.splitB_data, Lib.splitB_data]
  show Lib.splitK [b] 0 (Lib.count (l ++ b :: r) [b]) (l ++ b :: r) = l :: Lib.splitK [b] 0 (Lib.count r [b]) r
  rw [Lib.count_hit (i := l.length) (by simp) hi, Nat.add_comm]
  show Lib.splitK [b] 0 (Lib.count ((l ++ b :: r).drop (l.length + 1)) [b] + 1) (l ++ b :: r) = _
  rw [hd]
  rw [Lib.splitK, hi, if_neg (by rw [beq_iff_eq]; omega)]
  show (l ++ b :: r).take (l.length : Int).toNat :: Lib.splitK [b] 0 (Lib.count r [b]) ((l ++ b :: r).drop ((l.length : Int).toNat + 1)) = _
  rw [Int.toNat_natCast, hd, List.take_left]
end
end Go.Lift

/- Texts of numbers in plain Lean: digits, what they spell, how they are read. -/
namespace Go.Lift
open Go.RowKit Go.IntWalk
noncomputable section
set_option linter.unusedVariables false
set_option linter.unusedSimpArgs false
set_option maxRecDepth 10000

def IsDig (c : UInt8) : Prop := 48 ≤ c.toNat ∧ c.toNat ≤ 57
def valF (a : Nat) (l : List UInt8) : Nat := l.foldl (fun a c => a * 10 + (c.toNat - 48)) a

theorem valF_ge : ∀ (l : List UInt8) (a : Nat), a ≤ valF a l
  | [], a => Nat.le_refl _
  | c :: r, a => by
    have := valF_ge r (a * 10 + (c.toNat - 48))
    show a ≤ valF (a * 10 + (c.toNat - 48)) r
    omega

theorem dig_toNat {m : Nat} (h : m < 10) : (UInt8.ofNat (48 + m)).toNat = 48 + m := by
  rw [UInt8.toNat_ofNat']
  omega

theorem dec_dig : ∀ (u : Nat), (∀ c ∈ Lib.decDigits u, IsDig c) ∧ valF 0 (Lib.decDigits u) = u ∧ Lib.decDigits u ≠ [] := by
  intro u
  induction u using Nat.strongRecOn with
  | _ u ih =>
    rw [Lib.decDigits]
    split
    · rename_i h
      refine ⟨fun c hc => ?_, ?_, by simp⟩
      · simp only [List.mem_singleton] at hc
        subst hc
        unfold IsDig
        rw [dig_toNat h]
        omega
      · show 0 * 10 + ((UInt8.ofNat (48 + u)).toNat - 48) = u
        rw [dig_toNat h]
        omega
    · rename_i h
      obtain ⟨h1, h2, h3⟩ := ih (u / 10) (by omega)
      refine ⟨fun c hc => ?_, ?_, by simp⟩
      · rcases List.mem_append.1 hc with hc | hc
        · exact h1 c hc
        · simp only [List.mem_singleton] at hc
          subst hc
          unfold IsDig
          rw [dig_toNat (by omega)]
          omega
      · unfold valF at h2 ⊢
        rw [List.foldl_append, h2]
        show u / 10 * 10 + ((UInt8.ofNat (48 + u % 10)).toNat - 48) = u
        rw [dig_toNat (by omega)]
        omega

theorem parseUint_ok : ∀ (l : List UInt8) (a : Nat), (∀ c ∈ l, IsDig c) → valF a l ≤ 4611686018427387904 → Lib.parseUint10 a l = .ok (valF a l)
  | [], a, _, _ => rfl
  | c :: r, a, hd, hv => by
    have hc := hd c (by simp)
    unfold IsDig at hc
    have hv' : valF (a * 10 + (c.toNat - 48)) r ≤ 4611686018427387904 := hv
    have := valF_ge r (a * 10 + (c.toNat - 48))
    unfold Lib.parseUint10
    rw [if_pos hc, if_neg (by omega), if_neg (by omega), parseUint_ok r _ (fun c h => hd c (by simp [h])) hv']
    rfl

end
end Go.Lift

/- The words of numbers, clocks, dates, offsets and instants (chapter 6): what is written is read again. -/
namespace Go.Lift
open Go.RowKit Go.IntWalk
noncomputable section
set_option linter.unusedVariables false
set_option linter.unusedSimpArgs false
set_option maxRecDepth 10000

/-! ### Numbers of n digits -/
def IsNum (n : Nat) (x : Int) (s : List UInt8) : Prop := s.length = n ∧ (∀ c ∈ s, IsDig c) ∧ (valF 0 s : Int) = x

theorem valF_app (a : Nat) (l r : List UInt8) : valF a (l ++ r) = valF (valF a l) r := by unfold valF; rw [List.foldl_append]
theorem valF_lt : ∀ (l : List UInt8) (a : Nat), (∀ c ∈ l, IsDig c) → valF a l < (a + 1) * 10 ^ l.length
  | [], a, _ => by show a < (a + 1) * 1; omega
  | c :: r, a, h => by
    have hc := h c (by simp)
    unfold IsDig at hc
    have := valF_lt r (a * 10 + (c.toNat - 48)) fun x hx => h x (by simp [hx])
    have h2 : (a * 10 + (c.toNat - 48) + 1) * 10 ^ r.length ≤ ((a + 1) * 10) * 10 ^ r.length := Nat.mul_le_mul_right _ (by omega)
    show valF (a * 10 + (c.toNat - 48)) r < (a + 1) * 10 ^ (r.length + 1)
    rw [Nat.pow_succ, Nat.mul_comm (10 ^ r.length) 10, ← Nat.mul_assoc]
    omega
theorem dec_len : ∀ (n u : Nat), u < 10 ^ (n + 1) → (Lib.decDigits u).length ≤ n + 1
  | 0, u, h => by
    rw [Lib.decDigits, dif_pos (show u < 10 by omega)]
    simp
  | n + 1, u, h => by
    rw [Lib.decDigits]
    split
    · simp
    · have := dec_len n (u / 10) (by rw [Nat.pow_succ] at h; omega)
      rw [List.length_append, List.length_singleton]
      omega
theorem dec_head : ∀ (u : Nat), 0 < u → ∃ c r, Lib.decDigits u = c :: r ∧ c.toNat ≠ 48 := by
  intro u
  induction u using Nat.strongRecOn with
  | _ u ih =>
    intro hu
    rw [Lib.decDigits]
    split
    · rename_i h
      exact ⟨_, [], rfl, by rw [dig_toNat h]; omega⟩
    · rename_i h
      obtain ⟨c, r, h1, h2⟩ := ih (u / 10) (by omega) (by omega)
      exact ⟨c, r ++ _, by rw [h1]; rfl, h2⟩
theorem atoi_digs {s : List UInt8} (h : ∀ c ∈ s, IsDig c) (hn : s ≠ []) (hv : valF 0 s ≤ 4611686018427387904) : atoiV s = ((valF 0 s : Int), true) := by
  have hm : Lib.parseMag s = .ok (valF 0 s) := by
    unfold Lib.parseMag
    rw [if_neg hn, parseUint_ok _ 0 h hv]
  have key : Lib.atoiAll s = .ok (valF 0 s : Int) := by
    cases s with
    | nil => exact absurd rfl hn
    | cons c r =>
      have hc := h c (by simp)
      unfold IsDig at hc
      unfold Lib.atoiAll
      simp only
      rw [if_neg (by omega), hm]
      have hneg : ¬ (c.toNat = 45) := by omega
      simp only [hneg, not_false_eq_true, true_and, false_and, if_false]
      rw [if_neg (by omega)]
  unfold atoiV
  rw [key]
theorem repeatL_one (b : UInt8) : ∀ n, Lib.repeatL [b] n = List.replicate n b
  | 0 => rfl
  | n + 1 => by rw [Lib.repeatL, repeatL_one b n]; rfl
theorem valF_zeros : ∀ n, valF 0 (List.replicate n 48) = 0
  | 0 => rfl
  | n + 1 => by
    rw [List.replicate_succ]
    exact valF_zeros n
theorem len2 {s : List UInt8} (h : s.length = 2) : ∃ a b, s = [a, b] := by
  match s, h with
  | [a, b], _ => exact ⟨a, b, rfl⟩
theorem len4 {s : List UInt8} (h : s.length = 4) : ∃ a b c d, s = [a, b, c, d] := by
  match s, h with
  | [a, b, c, d], _ => exact ⟨a, b, c, d, rfl⟩
theorem num_b {n : Nat} {x : Int} {s : List UInt8} (h : IsNum n x s) : 0 ≤ x ∧ x < 10 ^ n := by
  obtain ⟨h1, h2, h3⟩ := h
  have := valF_lt s 0 h2
  rw [h1, Nat.zero_add, Nat.one_mul] at this
  rw [← h3]
  exact ⟨by omega, by exact_mod_cast this⟩
theorem num2_b {x : Int} {s : List UInt8} (h : IsNum 2 x s) : 0 ≤ x ∧ x ≤ 99 := by
  have := num_b h
  omega

section
variable {β : Type}

theorem lex_digits {x : Int} {n : Nat} (hn : 1 ≤ n ∧ n ≤ 4) (hx : 0 ≤ x ∧ x < 10 ^ n) : ∃ s, IsNum n x s ∧ ∀ {β : Type} (k : List UInt8 → Option β), zq3e x (n : Int) k = k s := by
  obtain ⟨m, rfl⟩ : ∃ m, n = m + 1 := ⟨n - 1, by omega⟩
  have hu : x.toNat < 10 ^ (m + 1) := by
    have := hx.2
    have e : ((10 : Int) ^ (m + 1)) = ((10 ^ (m + 1) : Nat) : Int) := by norm_cast
    rw [e] at this
    omega
  have hp : 10 ^ (m + 1) ≤ 10 ^ 4 := Nat.pow_le_pow_right (by omega) hn.2
  have hlen := dec_len m x.toNat hu
  obtain ⟨h1, h2, h3⟩ := dec_dig x.toNat
  have hi : Lib.itoa x = Lib.decDigits x.toNat := by
    unfold Lib.itoa
    rw [if_neg (by omega)]
  refine ⟨List.replicate (m + 1 - (Lib.decDigits x.toNat).length) 48 ++ Lib.decDigits x.toNat, ⟨?_, fun c hc => ?_, ?_⟩, fun k => ?_⟩
  · rw [List.length_append, List.length_replicate]
    omega
  · rcases List.mem_append.1 hc with hc | hc
    · rw [List.eq_of_mem_replicate hc]
      unfold IsDig
      decide
    · exact h1 c hc
  · rw [valF_app, valF_zeros, h2]
    omega
  · have hl1 : 0 < (Lib.decDigits x.toNat).length := List.length_pos_iff.2 h3
    unfold zq3e zq3b zqr itoaF
    refine (c_p2 (by omega) (by omega)).trans ?_
    rw [hi]
    dsimp only
    rw [i64_in (((m + 1 : Nat) : Int) - ((Lib.decDigits x.toNat).length : Int)) (by omega)]
    have e : (if (((m + 1 : Nat) : Int) - ((Lib.decDigits x.toNat).length : Int)) > (0 : Int) then (((m + 1 : Nat) : Int) - ((Lib.decDigits x.toNat).length : Int)) else (0 : Int)) = ((m + 1 - (Lib.decDigits x.toNat).length : Nat) : Int) := by
      split <;> omega
    rw [e]
    unfold zq1r repeatF
    rw [Int.toNat_natCast, repeatL_one]
    refine (c_p3 (by omega) (by omega) (by rw [List.length_singleton]; omega)).trans ?_
    exact c_pos (by rw [List.length_replicate]; omega)

theorem lex_digit {c : UInt8} (h : IsDig c) (k : Bool → Option β) : zql (c.toNat : Int) k = k true := by
  unfold IsDig at h
  unfold zql zqi
  refine (c_pos (by omega)).trans ?_
  exact k_eq (decide_eq_true (by omega))

theorem lex_number {s : List UInt8} (h : ∀ c ∈ s, IsDig c) (hn : s ≠ []) (hl : s.length ≤ 9) (k : Int → Bool → Option β) : zq37 s k = k (valF 0 s : Int) true := by
  have hv : valF 0 s ≤ 4611686018427387904 := by
    have h1 := valF_lt s 0 h
    have h2 : 10 ^ s.length ≤ 10 ^ 9 := Nat.pow_le_pow_right (by omega) hl
    omega
  have key : ∀ (j i m : Nat), i + j = s.length → j < m → ∀ (k1 : zq2s β) (k2 : zq2t β), zq33 m k1 k2 s (s.length : Int) (i : Int) = k2 s := by
    intro j
    induction j with
    | zero =>
      intro i m hi hm k1 k2
      obtain ⟨m, rfl⟩ : ∃ m', m = m' + 1 := ⟨m - 1, by omega⟩
      simp only [zq34, zq2x]
      exact c_neg (by omega)
    | succ j ih =>
      intro i m hi hm k1 k2
      obtain ⟨m, rfl⟩ : ∃ m', m = m' + 1 := ⟨m - 1, by omega⟩
      simp only [zq34, zq2x]
      refine (c_pos (by omega)).trans ?_
      refine (c_inb (by omega)).trans ?_
      have hlt : i < s.length := by omega
      have hd : IsDig (List.getD s (Int.toNat (i : Int)) 0) := by
        rw [Int.toNat_natCast, List.getD_eq_getElem?_getD, List.getElem?_eq_getElem hlt]
        exact h _ (List.getElem_mem hlt)
      refine (lex_digit hd _).trans ?_
      rw [i64_in ((i : Int) + 1) (by omega)]
      exact ih (i + 1) m (by omega) (by omega) k1 k2
  unfold zq37 zq30
  refine (key s.length 0 fuel (by omega) (lt_fuel (by omega)) _ _).trans ?_
  unfold zq1l atoiF
  refine (c_pos (by omega)).trans ?_
  rw [atoi_digs h hn hv]
  refine c_t.trans ?_
  exact congrFun (congrArg k rfl) _ |>.trans (by rw [decide_eq_true (show ((s.length : Int) ≤ 9) by omega)])

theorem lex_two {x : Int} {s : List UInt8} (h : IsNum 2 x s) (k : Int → Bool → Option β) : zq3l s k = k x true := by
  obtain ⟨h1, h2, h3⟩ := h
  unfold zq3l zq3i
  refine (lex_number h2 (by intro e; rw [e] at h1; simp at h1) (by omega) _).trans ?_
  refine c_t.trans ?_
  rw [h3, h1]
  rfl

theorem fuel_4 : ∃ m, fuel = m + 4 := ⟨fuel - 4, by have := lt_fuel (n := 4) (by omega); omega⟩

theorem clk_loop {a b c : Int} {A B C : List UInt8} (hA : IsNum 2 a A) (hB : IsNum 2 b B) (hC : IsNum 2 c C) (hb : b ≤ 59) (hc : c ≤ 59) (k1 : zq5h β) (k2 : zq5i β) :
    zq5u k1 k2 0 3 0 [A, B, C] = k2 (60 * (60 * a + b) + c) := by
  have ha' := num2_b hA
  have hb' := num2_b hB
  have hc' := num2_b hC
  unfold zq5u
  obtain ⟨m, hm⟩ := fuel_4
  rw [hm]
  simp only [zq5t, zq5m]
  refine (c_pos (by decide)).trans ?_
  refine (c_inb (by simp only [List.length_cons, List.length_nil]; omega)).trans ?_
  refine (lex_two hA _).trans ?_
  refine c_f.trans ?_
  refine (c_neg (by decide)).trans ?_
  rw [show IntKind.i64.wrap (60 * (0 : Int)) = 0 by decide, show IntKind.i64.wrap ((0 : Int) + a) = a by rw [i64_in _ (by omega)]; omega, show IntKind.i64.wrap ((0 : Int) + 1) = 1 by decide]
  refine (c_pos (by decide)).trans ?_
  refine (c_inb (by simp only [List.length_cons, List.length_nil]; omega)).trans ?_
  refine (lex_two hB _).trans ?_
  refine c_f.trans ?_
  refine (c_pos (by decide)).trans ?_
  refine (c_neg (by omega)).trans ?_
  rw [i64_in (60 * a) (by omega), i64_in (60 * a + b) (by omega), show IntKind.i64.wrap ((1 : Int) + 1) = 2 by decide]
  refine (c_pos (by decide)).trans ?_
  refine (c_inb (by simp only [List.length_cons, List.length_nil]; omega)).trans ?_
  refine (lex_two hC _).trans ?_
  refine c_f.trans ?_
  refine (c_pos (by decide)).trans ?_
  refine (c_neg (by omega)).trans ?_
  rw [i64_in (60 * (60 * a + b)) (by omega), i64_in (60 * (60 * a + b) + c) (by omega), show IntKind.i64.wrap ((2 : Int) + 1) = 3 by decide]
  exact c_neg (by decide)

theorem dig_ne {b : UInt8} (hb : b.toNat < 48 ∨ 57 < b.toNat) {s : List UInt8} (h : ∀ c ∈ s, IsDig c) : ∀ c ∈ s, c ≠ b := by
  intro c hc e
  have := h c hc
  unfold IsDig at this
  rw [e] at this
  omega

theorem lex_clock2 {a b : Int} {A B : List UInt8} (hA : IsNum 2 a A) (hB : IsNum 2 b B) (hb : b ≤ 59) (hs : 3600 * a + 60 * b ≤ 86400) (k : Int → Bool → Option β) :
    zq5w (A ++ 58 :: B) k = k (3600 * a + 60 * b) true := by
  have ha' := num2_b hA
  have hb' := num2_b hB
  have hC : IsNum 2 0 [48, 48] := ⟨rfl, by intro c hc; simp at hc; subst hc; unfold IsDig; decide, rfl⟩
  have e := split_at (b := 58) B (dig_ne (by decide) hA.2.1)
  rw [split_no (dig_ne (by decide) hB.2.1)] at e
  unfold zq5w zq5p zq1f splitF
  refine (c_p2 (by rw [List.length_append, List.length_cons, hA.1, hB.1]; decide) (by decide)).trans ?_
  rw [e]
  refine (c_neg (by simp only [List.length_cons, List.length_nil]; omega)).trans ?_
  refine (c_neg (by simp only [List.length_cons, List.length_nil]; omega)).trans ?_
  refine (c_room (by simp only [List.length_cons, List.length_nil]; omega)).trans ?_
  refine (c_p2 (by omega) (by simp only [List.length_append, List.length_cons, List.length_nil]; omega)).trans ?_
  refine (clk_loop hA hB hC hb (by omega) _ _).trans ?_
  show k _ (decide _) = _
  rw [show 60 * (60 * a + b) + 0 = 3600 * a + 60 * b by omega, decide_eq_true (by omega)]

theorem lex_clock3 {a b c : Int} {A B C : List UInt8} (hA : IsNum 2 a A) (hB : IsNum 2 b B) (hC : IsNum 2 c C) (hb : b ≤ 59) (hc : c ≤ 59) (hs : 3600 * a + 60 * b + c ≤ 86400) (k : Int → Bool → Option β) :
    zq5w (A ++ 58 :: (B ++ 58 :: C)) k = k (3600 * a + 60 * b + c) true := by
  have ha' := num2_b hA
  have hb' := num2_b hB
  have hc' := num2_b hC
  have e := split_at (b := 58) (B ++ 58 :: C) (dig_ne (by decide) hA.2.1)
  rw [split_at (b := 58) C (dig_ne (by decide) hB.2.1), split_no (dig_ne (by decide) hC.2.1)] at e
  unfold zq5w zq5p zq1f splitF
  refine (c_p2 (by simp only [List.length_append, List.length_cons, hA.1, hB.1, hC.1]; decide) (by decide)).trans ?_
  rw [e]
  refine (c_neg (by simp only [List.length_cons, List.length_nil]; omega)).trans ?_
  refine (c_neg (by simp only [List.length_cons, List.length_nil]; omega)).trans ?_
  refine (c_room (by simp only [List.length_cons, List.length_nil]; omega)).trans ?_
  refine (c_p2 (by omega) (by simp only [List.length_append, List.length_cons, List.length_nil]; omega)).trans ?_
  refine (clk_loop hA hB hC hb hc _ _).trans ?_
  show k _ (decide _) = _
  rw [show 60 * (60 * a + b) + c = 3600 * a + 60 * b + c by omega, decide_eq_true (by omega)]

theorem lex_date {y m d day : Int} {Y M D : List UInt8} (hY : IsNum 4 y Y) (hM : IsNum 2 m M) (hD : IsNum 2 d D) (h : ∀ {β : Type} (k : Int → Int → Option β), zq6l (y, m, d) k = k day 0) (k : Int → Bool → Option β) :
    zq7f (Y ++ 45 :: (M ++ 45 :: D)) k = k day true := by
  obtain ⟨y1, y2, y3, y4, rfl⟩ := len4 hY.1
  obtain ⟨m1, m2, rfl⟩ := len2 hM.1
  obtain ⟨d1, d2, rfl⟩ := len2 hD.1
  unfold zq7f zq7c
  refine (c_npos rfl).trans ?_
  refine (c_inb (by simp only [List.length_cons, List.length_append, List.length_nil]; omega)).trans ?_
  refine (c_npos rfl).trans ?_
  refine (c_inb (by simp only [List.length_cons, List.length_append, List.length_nil]; omega)).trans ?_
  refine (c_npos rfl).trans ?_
  refine (c_p3 (by decide) (by decide) (by simp only [List.length_cons, List.length_append, List.length_nil]; omega)).trans ?_
  refine (lex_number (s := [y1, y2, y3, y4]) hY.2.1 (by simp) (by simp) _).trans ?_
  refine (c_p3 (by decide) (by decide) (by simp only [List.length_cons, List.length_append, List.length_nil]; omega)).trans ?_
  refine (lex_two (s := [m1, m2]) hM _).trans ?_
  refine (c_p3 (by decide) (by simp only [List.length_cons, List.length_append, List.length_nil]; omega) (by omega)).trans ?_
  refine (lex_two (s := [d1, d2]) hD _).trans ?_
  rw [hY.2.2]
  refine (h _).trans ?_
  rfl

theorem lex_offset {a b : Int} {A B : List UInt8} {g : UInt8} (hA : IsNum 2 a A) (hB : IsNum 2 b B) (hb : b ≤ 59) (hs : 3600 * a + 60 * b ≤ 64800) (k : Int → Bool → Option β) :
    zq78 (g :: (A ++ 58 :: B)) k = k (if g = 45 then -(3600 * a + 60 * b) else 3600 * a + 60 * b) true := by
  have ha' := num2_b hA
  have hb' := num2_b hB
  have hl : (g :: (A ++ 58 :: B)).length = 6 := by simp only [List.length_cons, List.length_append, hA.1, hB.1]
  unfold zq78 zq73
  refine (c_p3 (by decide) (by rw [hl]; decide) (by omega)).trans ?_
  have e : List.drop (Int.toNat 1) (List.take (Int.toNat ((g :: (A ++ 58 :: B)).length : Int)) (g :: (A ++ 58 :: B))) = A ++ 58 :: B := by
    rw [Int.toNat_natCast, List.take_length]
    rfl
  rw [e]
  refine (lex_clock2 hA hB hb (by omega) _).trans ?_
  refine (c_inb (by rw [hl]; decide)).trans ?_
  by_cases hg : g = 45
  · subst hg
    refine (c_pos rfl).trans ?_
    rw [i64_in (0 - (3600 * a + 60 * b)) (by omega), if_pos rfl]
    unfold zq76 zq71 zq70
    refine c_t.trans ?_
    refine (c_pos (by rw [hl]; rfl)).trans ?_
    refine (c_pos (by omega)).trans ?_
    show k _ (decide _) = _
    rw [decide_eq_true (by omega), show 0 - (3600 * a + 60 * b) = -(3600 * a + 60 * b) by omega]
  · refine (c_neg (fun e => hg ?_)).trans ?_
    · have : g.toNat = 45 := by
        have e : ((g.toNat : Nat) : Int) = 45 := e
        omega
      exact UInt8.toNat_inj.1 this
    · rw [if_neg hg]
      unfold zq76 zq71 zq70
      refine c_t.trans ?_
      refine (c_pos (by rw [hl]; rfl)).trans ?_
      refine (c_pos (by omega)).trans ?_
      show k _ (decide _) = _
      rw [decide_eq_true (by omega)]

theorem lex_instant {y m d day a b c : Int} {Y M D A B C : List UInt8} (hY : IsNum 4 y Y) (hM : IsNum 2 m M) (hD : IsNum 2 d D) (h : ∀ {β : Type} (k : Int → Int → Option β), zq6l (y, m, d) k = k day 0)
    (hd : 0 ≤ day ∧ day ≤ 100000) (hA : IsNum 2 a A) (hB : IsNum 2 b B) (hC : IsNum 2 c C) (ha : a ≤ 23) (hb : b ≤ 59) (hc : c ≤ 59) (k : Int → Bool → Option β) :
    zq8b (Y ++ 45 :: (M ++ 45 :: (D ++ 84 :: (A ++ 58 :: (B ++ 58 :: (C ++ [90])))))) k = k (day * 86400 + (3600 * a + 60 * b + c)) true := by
  have ha' := num2_b hA
  have hb' := num2_b hB
  have hc' := num2_b hC
  have e1 := fun k => lex_date (β := β) hY hM hD h k
  have e2 := fun k => lex_clock3 (β := β) hA hB hC hb hc (by omega) k
  obtain ⟨y1, y2, y3, y4, rfl⟩ := len4 hY.1
  obtain ⟨m1, m2, rfl⟩ := len2 hM.1
  obtain ⟨d1, d2, rfl⟩ := len2 hD.1
  obtain ⟨a1, a2, rfl⟩ := len2 hA.1
  obtain ⟨b1, b2, rfl⟩ := len2 hB.1
  obtain ⟨c1, c2, rfl⟩ := len2 hC.1
  unfold zq8b zq88
  refine (c_npos rfl).trans ?_
  refine (c_inb (by simp only [List.length_cons, List.length_append, List.length_nil]; omega)).trans ?_
  refine (c_npos rfl).trans ?_
  refine (c_inb (by simp only [List.length_cons, List.length_append, List.length_nil]; omega)).trans ?_
  refine (c_npos rfl).trans ?_
  refine (c_p3 (by decide) (by decide) (by simp only [List.length_cons, List.length_append, List.length_nil]; omega)).trans ?_
  refine (e1 _).trans ?_
  refine (c_p3 (by decide) (by decide) (by simp only [List.length_cons, List.length_append, List.length_nil]; omega)).trans ?_
  refine (e2 _).trans ?_
  refine c_t.trans ?_
  refine c_t.trans ?_
  show k _ (decide _) = _
  rw [i64_in (day * 86400) (by omega), i64_in (day * 86400 + (3600 * a + 60 * b + c)) (by omega), decide_eq_true (by omega)]
end
end
end Go.Lift

/- Tokens and their words (chapter 6): each right token has a word, which is read as this token. -/
namespace Go.Lift
open Go.RowKit Go.IntWalk
noncomputable section
set_option linter.unusedVariables false
set_option linter.unusedSimpArgs false
set_option maxRecDepth 10000

section
variable {β : Type}
theorem lex_small_no {c : Int} (h : c < 97) (k : Bool → Option β) : zqe c k = k false := by
  unfold zqe zqb
  exact c_neg (by omega)
theorem lex_name_no {g : UInt8} {r : List UInt8} (hg : g.toNat < 97) (hl : r.length ≤ 23) (k : Bool → Option β) : zq2o (g :: r) k = k false := by
  unfold zq2o zq2h
  refine (c_neg (by simp)).trans ?_
  refine (c_neg (by rw [List.length_cons]; omega)).trans ?_
  refine (c_inb (by rw [List.length_cons]; omega)).trans ?_
  refine (lex_small_no (by show ((g.toNat : Nat) : Int) < 97; omega) _).trans ?_
  rfl
theorem lex_has {s : List UInt8} (b : UInt8) (hl : s.length < 1000) (k : Bool → Option β) : zqx s [b] k = k (decide (b ∈ s)) := by
  unfold zqx containsF
  rw [has_iff]
  exact c_pos (by omega)
theorem form_not0 {c : UInt8} {r : List UInt8} (hc : c.toNat < 97 ∧ c.toNat ≠ 43 ∧ c.toNat ≠ 45) (hl : (c :: r).length < 1000) (k : Int → Int → Bool → Option β) :
    zq98 (c :: r) k = cond (decide (84 ∈ c :: r)) (zq8b (c :: r) fun n ok => k 5 n ok) (cond (decide (45 ∈ c :: r)) (zq7f (c :: r) fun n ok => k 3 n ok)
      (cond (decide (58 ∈ c :: r)) (zq5w (c :: r) fun n ok => k 2 n ok) (zq94 (fun a b d => k a b d) (c :: r)))) := by
  unfold zq98 zq91
  refine (c_inb (by rw [List.length_cons]; omega)).trans ?_
  refine (lex_small_no (by show ((c.toNat : Nat) : Int) < 97; omega) _).trans ?_
  refine c_f.trans ?_
  refine (c_neg (by show ¬ ((c.toNat : Nat) : Int) = 43; omega)).trans ?_
  dsimp only
  rw [decide_eq_false (show ¬ (((List.getD (c :: r) (Int.toNat 0) 0).toNat : Nat) : Int) = 45 by show ¬ ((c.toNat : Nat) : Int) = 45; omega)]
  unfold zq96 zq8z zq8y
  refine c_f.trans ?_
  refine (lex_has 84 hl _).trans ?_
  congr 1
  refine (lex_has 45 hl _).trans ?_
  congr 1
  refine (lex_has 58 hl _).trans ?_
  rfl
/-- A word that begins neither with a letter nor with a sign. -/
def HeadOk (s : List UInt8) : Prop := ∃ c r, s = c :: r ∧ c.toNat < 97 ∧ c.toNat ≠ 43 ∧ c.toNat ≠ 45
theorem HeadOk.app {p : List UInt8} (h : HeadOk p) (q : List UInt8) : HeadOk (p ++ q) := by
  obtain ⟨c, r, rfl, h⟩ := h
  exact ⟨c, r ++ q, rfl, h⟩
theorem form_not {s : List UInt8} (h : HeadOk s) (hl : s.length < 1000) (k : Int → Int → Bool → Option β) :
    zq98 s k = cond (decide (84 ∈ s)) (zq8b s fun n ok => k 5 n ok) (cond (decide (45 ∈ s)) (zq7f s fun n ok => k 3 n ok)
      (cond (decide (58 ∈ s)) (zq5w s fun n ok => k 2 n ok) (zq94 (fun a b d => k a b d) s))) := by
  obtain ⟨c, r, rfl, h⟩ := h
  exact form_not0 h hl k
theorem name_not {s : List UInt8} (h : HeadOk s) (hl : s.length ≤ 20) (k : Bool → Option β) : zq2o s k = k false := by
  obtain ⟨c, r, rfl, h⟩ := h
  exact lex_name_no h.1 (by rw [List.length_cons] at hl; omega) k
theorem form_sign {c : UInt8} {r : List UInt8} (hc : c.toNat = 43 ∨ c.toNat = 45) (k : Int → Int → Bool → Option β) : zq98 (c :: r) k = zq78 (c :: r) fun n ok => k 4 n ok := by
  unfold zq98 zq91
  refine (c_inb (by rw [List.length_cons]; omega)).trans ?_
  refine (lex_small_no (by show ((c.toNat : Nat) : Int) < 97; omega) _).trans ?_
  refine c_f.trans ?_
  by_cases h : c.toNat = 43
  · refine (c_pos (by show ((c.toNat : Nat) : Int) = 43; omega)).trans ?_
    unfold zq96 zq8z zq8y
    exact c_t
  · refine (c_neg (by show ¬ ((c.toNat : Nat) : Int) = 43; omega)).trans ?_
    dsimp only
    rw [decide_eq_true (show (((List.getD (c :: r) (Int.toNat 0) 0).toNat : Nat) : Int) = 45 by show ((c.toNat : Nat) : Int) = 45; omega)]
    unfold zq96 zq8z zq8y
    exact c_t
theorem tok_of {s : List UInt8} {kind n : Int} (hs : s ≠ []) (hk : kind ≠ 0) (h : ∀ {β : Type} (k : Int → Int → Bool → Option β), zq98 s k = k kind n true) (k : Int × List UInt8 × Int → Int → Option β) :
    zq9f s k = k (kind, [], n) 0 := by
  unfold zq9f zq9c
  refine (c_neg hs).trans ?_
  refine (h _).trans ?_
  refine c_f.trans ?_
  dsimp only
  rw [decide_eq_false hk]
  rfl

/-- The word s of the token t. -/
structure TokText (t : Int × List UInt8 × Int) (s : List UInt8) : Prop where
  txt : ∀ {β : Type} (k : List UInt8 → Int → Option β), zq8i t k = k s 0
  tok : ∀ {β : Type} (k : Int × List UInt8 × Int → Int → Option β), zq9f s k = k t 0
  nam : ∀ {β : Type} (k : Bool → Option β), zq2o s k = k false
  ne : s ≠ []
  ch : ∀ c ∈ s, 43 ≤ c.toNat ∧ c.toNat ≤ 90
  len : s.length ≤ 20

theorem dig_ch {s : List UInt8} (h : ∀ c ∈ s, IsDig c) : ∀ c ∈ s, 43 ≤ c.toNat ∧ c.toNat ≤ 90 := fun c hc => by
  have := h c hc
  unfold IsDig at this
  omega
theorem ch_app {p q : List UInt8} {b : UInt8} (hp : ∀ c ∈ p, 43 ≤ c.toNat ∧ c.toNat ≤ 90) (hb : 43 ≤ b.toNat ∧ b.toNat ≤ 90) (hq : ∀ c ∈ q, 43 ≤ c.toNat ∧ c.toNat ≤ 90) : ∀ c ∈ p ++ b :: q, 43 ≤ c.toNat ∧ c.toNat ≤ 90 := by
  intro c hc
  rcases List.mem_append.1 hc with hc | hc
  · exact hp c hc
  · rcases List.mem_cons.1 hc with rfl | hc
    · exact hb
    · exact hq c hc
theorem no_app {p q : List UInt8} {a b : UInt8} (hp : ∀ c ∈ p, c ≠ a) (hb : b ≠ a) (hq : ∀ c ∈ q, c ≠ a) : ∀ c ∈ p ++ b :: q, c ≠ a := by
  intro c hc
  rcases List.mem_append.1 hc with hc | hc
  · exact hp c hc
  · rcases List.mem_cons.1 hc with rfl | hc
    · exact hb
    · exact hq c hc
theorem no_mem {s : List UInt8} {a : UInt8} (h : ∀ c ∈ s, c ≠ a) : decide (a ∈ s) = false := decide_eq_false fun hm => h a hm rfl
theorem yes_mem {p q : List UInt8} {a : UInt8} : decide (a ∈ p ++ a :: q) = true := decide_eq_true (by simp)
theorem head_dig {n : Nat} {x : Int} {s : List UInt8} (h : IsNum (n + 1) x s) : HeadOk s := by
  match s, h with
  | [], h => exact absurd h.1 (by simp)
  | c :: r, h =>
    have := h.2.1 c (by simp)
    unfold IsDig at this
    exact ⟨c, r, rfl, by omega, by omega, by omega⟩

/-! ### What Text writes -/
theorem lex_hours {n : Int} (hn : 0 ≤ n ∧ n ≤ 300000) : ∃ A B C, IsNum 2 (n / 3600) A ∧ IsNum 2 (n / 60 % 60) B ∧ IsNum 2 (n % 60) C ∧
    ∀ {β : Type} (sec : Bool) (k : List UInt8 → Option β), zq5d n sec k = k (cond sec (A ++ 58 :: (B ++ 58 :: C)) (A ++ 58 :: B)) := by
  obtain ⟨A, hA, fA⟩ := lex_digits (x := n / 3600) (n := 2) (by omega) (by omega)
  obtain ⟨B, hB, fB⟩ := lex_digits (x := n / 60 % 60) (n := 2) (by omega) (by omega)
  obtain ⟨C, hC, fC⟩ := lex_digits (x := n % 60) (n := 2) (by omega) (by omega)
  have e1 : Int.tdiv n 3600 = n / 3600 := Int.tdiv_eq_ediv_of_nonneg hn.1
  have e2 : Int.tdiv n 60 = n / 60 := Int.tdiv_eq_ediv_of_nonneg hn.1
  have e3 : Int.tmod (n / 60) 60 = n / 60 % 60 := Int.tmod_eq_emod_of_nonneg (by omega)
  have e4 : Int.tmod n 60 = n % 60 := Int.tmod_eq_emod_of_nonneg hn.1
  refine ⟨A, B, C, hA, hB, hC, fun sec k => ?_⟩
  unfold zq5d zq5a
  refine (c_nneg (by decide)).trans ?_
  rw [e1, i64_in (n / 3600) (by omega)]
  refine (fA _).trans ?_
  refine (c_pos (by rw [hA.1]; decide)).trans ?_
  refine (c_nneg (by decide)).trans ?_
  refine (c_nneg (by decide)).trans ?_
  rw [e2, i64_in (n / 60) (by omega), e3]
  refine (fB _).trans ?_
  refine (c_pos (by rw [List.length_append, hA.1, hB.1]; decide)).trans ?_
  cases sec with
  | false =>
    refine c_f.trans ?_
    exact k_eq (by simp)
  | true =>
    refine c_t.trans ?_
    refine (c_nneg (by decide)).trans ?_
    rw [e4]
    refine (fC _).trans ?_
    refine (c_pos (by rw [hC.1]; decide)).trans ?_
    refine (c_pos (by simp only [List.length_append, hA.1, hB.1, hC.1]; decide)).trans ?_
    exact k_eq (by simp)
theorem lex_dated {day : Int} (h : 0 ≤ day ∧ day < 98981) : ∃ y m d Y M D, IsNum 4 y Y ∧ IsNum 2 m M ∧ IsNum 2 d D ∧ (∀ {β : Type} (k : Int → Int → Option β), zq6l (y, m, d) k = k day 0) ∧
    ∀ {β : Type} (k : List UInt8 → Bool → Option β), zq6s day k = k (Y ++ 45 :: (M ++ 45 :: D)) true := by
  obtain ⟨y, m, d, q⟩ := date_ok h
  have q1 := q.yr
  have q2 := q.mo
  have q3 := q.dd
  obtain ⟨Y, hY, fY⟩ := lex_digits (x := y) (n := 4) (by omega) (by omega)
  obtain ⟨M, hM, fM⟩ := lex_digits (x := m) (n := 2) (by omega) (by omega)
  obtain ⟨D, hD, fD⟩ := lex_digits (x := d) (n := 2) (by omega) (by omega)
  refine ⟨y, m, d, Y, M, D, hY, hM, hD, q.day, fun k => ?_⟩
  unfold zq6s zq6p
  refine (q.of _).trans ?_
  refine (fY _).trans ?_
  refine (c_pos (by rw [hY.1]; decide)).trans ?_
  refine (fM _).trans ?_
  refine (c_pos (by simp only [List.length_append, hY.1, hM.1]; decide)).trans ?_
  refine (c_pos (by simp only [List.length_append, hY.1, hM.1]; decide)).trans ?_
  refine (fD _).trans ?_
  refine (c_pos (by simp only [List.length_append, hY.1, hM.1, hD.1]; decide)).trans ?_
  show k _ (decide _) = _
  rw [decide_eq_true (by rfl)]
  simp
theorem text_of {t : Int × List UInt8 × Int} {s : List UInt8} (h0 : t.1 ≠ 0) (h1 : t.2.1 = []) (h : ∀ {β : Type} (k : List UInt8 → Bool → Option β), zq84 t k = k s true) (k : List UInt8 → Int → Option β) : zq8i t k = k s 0 := by
  unfold zq8i zq8f
  refine (c_neg h0).trans ?_
  refine (h _).trans ?_
  refine c_f.trans ?_
  exact c_npos h1

/-! ### The kinds one by one -/
theorem tt_number {n : Int} (hn : 0 ≤ n ∧ n ≤ 999999999) : ∃ s, TokText (1, [], n) s := by
  obtain ⟨h1, h2, h3⟩ := dec_dig n.toNat
  have hlen := dec_len 8 n.toNat (by omega)
  have hi : Lib.itoa n = Lib.decDigits n.toNat := by
    unfold Lib.itoa
    rw [if_neg (by omega)]
  have hhead : ∃ c r, Lib.decDigits n.toNat = c :: r ∧ (c.toNat ≠ 48 ∨ Lib.decDigits n.toNat = [48]) := by
    by_cases h : n.toNat = 0
    · rw [h]
      exact ⟨48, [], by rw [Lib.decDigits, dif_pos (by omega)]; rfl, .inr (by rw [Lib.decDigits, dif_pos (by omega)]; rfl)⟩
    · obtain ⟨c, r, h4, h5⟩ := dec_head n.toNat (by omega)
      exact ⟨c, r, h4, .inl h5⟩
  obtain ⟨c, r, e, hz⟩ := hhead
  have hc := h1 c (by rw [e]; simp)
  unfold IsDig at hc
  refine ⟨Lib.decDigits n.toNat, text_of (by show (1 : Int) ≠ 0; decide) rfl fun k => ?_, tok_of h3 (by decide) fun k => ?_, fun k => ?_, h3, dig_ch h1, by omega⟩
  · unfold zq84 zq7x zqr itoaF
    refine c_t.trans ?_
    refine (c_p2 (by show -9223372036854775808 ≤ n; omega) (by show n ≤ 9223372036854775807; omega)).trans ?_
    refine (c_pos (by show 0 ≤ n; omega)).trans ?_
    show k _ (decide _) = _
    rw [decide_eq_true (by show n ≤ 999999999; omega)]
    show k (Lib.itoa n) true = _
    rw [hi]
  · refine (form_not ⟨c, r, e, by omega, by omega, by omega⟩ (by omega) _).trans ?_
    rw [no_mem (dig_ne (by decide) h1), no_mem (dig_ne (by decide) h1), no_mem (dig_ne (by decide) h1)]
    refine c_f.trans (c_f.trans (c_f.trans ?_))
    unfold zq94 zq8w zq8v
    refine (lex_number h1 h3 (by omega) _).trans ?_
    refine c_t.trans ?_
    refine (c_inb (by have := List.length_pos_iff.2 h3; omega)).trans ?_
    rw [show ((valF 0 (Lib.decDigits n.toNat) : Nat) : Int) = n by rw [h2]; omega]
    by_cases h0 : c.toNat = 48
    · refine (c_npos (by rw [e]; show ((c.toNat : Nat) : Int) = 48; omega)).trans ?_
      rcases hz with hz | hz
      · exact absurd h0 hz
      · show k _ _ (decide _) = _
        rw [decide_eq_true hz]
    · exact c_nneg (by rw [e]; show ¬ ((c.toNat : Nat) : Int) = 48; omega)
  · exact name_not ⟨c, r, e, by omega, by omega, by omega⟩ (by omega) k

theorem tt_clock {n : Int} (hn : 0 ≤ n ∧ n ≤ 86400) : ∃ s, TokText (2, [], n) s := by
  obtain ⟨A, B, C, hA, hB, hC, f⟩ := lex_hours (n := n) (by omega)
  have ha := head_dig hA
  have e4 : Int.tmod n 60 = n % 60 := Int.tmod_eq_emod_of_nonneg hn.1
  have ht : ∀ {β : Type} (k : List UInt8 → Bool → Option β), zq84 (2, [], n) k = zq5d n (!decide (n % 60 = 0)) fun s => k s true := by
    intro β k
    unfold zq84 zq7x
    refine c_f.trans (c_t.trans ?_)
    refine (c_pos (by show 0 ≤ n; omega)).trans ?_
    unfold zq80 zq7s zq7r
    refine (c_nneg (by decide)).trans ?_
    dsimp only
    rw [e4, decide_eq_true (show n ≤ 86400 by omega)]
  have nA := dig_ne (b := 84) (by decide) hA.2.1
  have nB := dig_ne (b := 84) (by decide) hB.2.1
  have nC := dig_ne (b := 84) (by decide) hC.2.1
  have mA := dig_ne (b := 45) (by decide) hA.2.1
  have mB := dig_ne (b := 45) (by decide) hB.2.1
  have mC := dig_ne (b := 45) (by decide) hC.2.1
  have lA := hA.1
  by_cases h0 : n % 60 = 0
  · refine ⟨A ++ 58 :: B, text_of (by show (2 : Int) ≠ 0; decide) rfl fun k => ?_, tok_of (by simp) (by decide) fun k => ?_, fun k => name_not (ha.app _) (by simp only [List.length_append, List.length_cons, hB.1, lA]; omega) k, by simp,
      ch_app (dig_ch hA.2.1) (by decide) (dig_ch hB.2.1), by simp only [List.length_append, List.length_cons, hB.1, lA]; omega⟩
    · refine (ht k).trans ((f _ _).trans ?_)
      rw [decide_eq_true h0]
      rfl
    · refine (form_not (ha.app _) (by simp only [List.length_append, List.length_cons, hB.1, lA]; omega) _).trans ?_
      have x1 := no_mem (no_app nA (show (58 : UInt8) ≠ 84 by decide) nB)
      have x2 := no_mem (no_app mA (show (58 : UInt8) ≠ 45 by decide) mB)
      have x3 := yes_mem (p := A) (q := B) (a := 58)
      rw [x1, x2, x3]
      refine c_f.trans (c_f.trans (c_t.trans ?_))
      refine (lex_clock2 hA hB (by omega) (by omega) _).trans ?_
      rw [show 3600 * (n / 3600) + 60 * (n / 60 % 60) = n by omega]
  · refine ⟨A ++ 58 :: (B ++ 58 :: C), text_of (by show (2 : Int) ≠ 0; decide) rfl fun k => ?_, tok_of (by simp) (by decide) fun k => ?_, fun k => name_not (ha.app _) (by simp only [List.length_append, List.length_cons, hB.1, hC.1, lA]; omega) k, by simp,
      ch_app (dig_ch hA.2.1) (by decide) (ch_app (dig_ch hB.2.1) (by decide) (dig_ch hC.2.1)), by simp only [List.length_append, List.length_cons, hB.1, hC.1, lA]; omega⟩
    · refine (ht k).trans ((f _ _).trans ?_)
      rw [decide_eq_false h0]
      rfl
    · refine (form_not (ha.app _) (by simp only [List.length_append, List.length_cons, hB.1, hC.1, lA]; omega) _).trans ?_
      have x1 := no_mem (no_app nA (show (58 : UInt8) ≠ 84 by decide) (no_app nB (show (58 : UInt8) ≠ 84 by decide) nC))
      have x2 := no_mem (no_app mA (show (58 : UInt8) ≠ 45 by decide) (no_app mB (show (58 : UInt8) ≠ 45 by decide) mC))
      have x3 := yes_mem (p := A) (q := B ++ 58 :: C) (a := 58)
      rw [x1, x2, x3]
      refine c_f.trans (c_f.trans (c_t.trans ?_))
      refine (lex_clock3 hA hB hC (by omega) (by omega) (by omega) _).trans ?_
      rw [show 3600 * (n / 3600) + 60 * (n / 60 % 60) + n % 60 = n by omega]

theorem tt_date {n : Int} (hn : 0 ≤ n ∧ n < 98981) : ∃ s, TokText (3, [], n) s := by
  obtain ⟨y, m, d, Y, M, D, hY, hM, hD, hq, f⟩ := lex_dated hn
  have ha := head_dig hY
  have lY := hY.1
  refine ⟨Y ++ 45 :: (M ++ 45 :: D), text_of (by show (3 : Int) ≠ 0; decide) rfl fun k => ?_, tok_of (by simp) (by decide) fun k => ?_, fun k => name_not (ha.app _) (by simp only [List.length_append, List.length_cons, hM.1, hD.1, lY]; omega) k, by simp,
    ch_app (dig_ch hY.2.1) (by decide) (ch_app (dig_ch hM.2.1) (by decide) (dig_ch hD.2.1)), by simp only [List.length_append, List.length_cons, hM.1, hD.1, lY]; omega⟩
  · unfold zq84 zq7x
    refine c_f.trans (c_f.trans (c_t.trans ?_))
    exact f _
  · refine (form_not (ha.app _) (by simp only [List.length_append, List.length_cons, hM.1, hD.1, lY]; omega) _).trans ?_
    have x1 := no_mem (no_app (dig_ne (b := 84) (by decide) hY.2.1) (show (45 : UInt8) ≠ 84 by decide) (no_app (dig_ne (b := 84) (by decide) hM.2.1) (show (45 : UInt8) ≠ 84 by decide) (dig_ne (b := 84) (by decide) hD.2.1)))
    have x2 := yes_mem (p := Y) (q := M ++ 45 :: D) (a := 45)
    rw [x1, x2]
    refine c_f.trans (c_t.trans ?_)
    exact lex_date hY hM hD hq _

theorem tt_offset {n : Int} (hn : -64800 ≤ n ∧ n ≤ 64800) (h60 : n % 60 = 0) : ∃ s, TokText (4, [], n) s := by
  have key : ∀ (p : Int) (g : UInt8), 0 ≤ p → p ≤ 64800 → p % 60 = 0 → (g = 43 ∧ n = p ∧ 0 ≤ n) ∨ (g = 45 ∧ n = -p ∧ n < 0) → ∃ s, TokText (4, [], n) s := by
    intro p g hp1 hp2 hp3 hg
    obtain ⟨A, B, C, hA, hB, hC, f⟩ := lex_hours (n := p) (by omega)
    have hg2 : g.toNat = 43 ∨ g.toNat = 45 := by rcases hg with ⟨rfl, _⟩ | ⟨rfl, _⟩ <;> decide
    have e4 : Int.tmod p 60 = p % 60 := Int.tmod_eq_emod_of_nonneg hp1
    have hp : ∀ {β : Type} (k1 : zq7n β), zq82 k1 p [g] = k1 (g :: (A ++ 58 :: B)) true := by
      intro β k1
      unfold zq82 zq7v zq7u
      refine (f false _).trans ?_
      refine (c_pos (by simp only [List.length_append, List.length_cons, cond_false, hA.1, hB.1]; decide)).trans ?_
      refine (c_pos hp1).trans ?_
      refine (c_pos hp2).trans ?_
      refine (c_nneg (by decide)).trans ?_
      show k1 _ (decide _) = _
      rw [e4, decide_eq_true hp3]
      rfl
    refine ⟨g :: (A ++ 58 :: B), text_of (by show (4 : Int) ≠ 0; decide) rfl fun k => ?_, tok_of (by simp) (by decide) fun k => ?_, fun k => lex_name_no (by omega) (by simp only [List.length_append, List.length_cons, hA.1, hB.1]; decide) k, by simp,
      fun c hc => ?_, by simp only [List.length_append, List.length_cons, hA.1, hB.1]; decide⟩
    · unfold zq84 zq7x
      refine c_f.trans (c_f.trans (c_f.trans (c_t.trans ?_)))
      rcases hg with ⟨rfl, rfl, h⟩ | ⟨rfl, rfl, h⟩
      · refine (c_neg (by show ¬ n < 0; omega)).trans ?_
        exact hp _
      · refine (c_pos (by show -p < 0; omega)).trans ?_
        dsimp only
        rw [show IntKind.i64.wrap (0 - -p) = p by rw [i64_in _ (by omega)]; omega]
        exact hp _
    · refine (form_sign hg2 _).trans ?_
      refine (lex_offset hA hB (by omega) (by omega) _).trans ?_
      rcases hg with ⟨rfl, rfl, h⟩ | ⟨rfl, rfl, h⟩
      · rw [if_neg (by decide), show 3600 * (n / 3600) + 60 * (n / 60 % 60) = n by omega]
      · rw [if_pos rfl, show 3600 * (p / 3600) + 60 * (p / 60 % 60) = p by omega]
    · rcases List.mem_cons.1 hc with rfl | hc
      · omega
      · exact ch_app (dig_ch hA.2.1) (by decide) (dig_ch hB.2.1) c hc
  by_cases h : n < 0
  · exact key (-n) 45 (by omega) (by omega) (by omega) (.inr ⟨rfl, by omega, h⟩)
  · exact key n 43 (by omega) (by omega) h60 (.inl ⟨rfl, rfl, by omega⟩)

theorem tt_instant {n : Int} (hn : 0 ≤ n ∧ n < 98981 * 86400) : ∃ s, TokText (5, [], n) s := by
  obtain ⟨y, m, d, Y, M, D, hY, hM, hD, hq, f⟩ := lex_dated (day := n / 86400) (by omega)
  obtain ⟨A, B, C, hA, hB, hC, f2⟩ := lex_hours (n := n % 86400) (by omega)
  have ha := head_dig hY
  have lY := hY.1
  have e1 : Int.tdiv n 86400 = n / 86400 := Int.tdiv_eq_ediv_of_nonneg hn.1
  have e2 : Int.tmod n 86400 = n % 86400 := Int.tmod_eq_emod_of_nonneg hn.1
  refine ⟨Y ++ 45 :: (M ++ 45 :: (D ++ 84 :: (A ++ 58 :: (B ++ 58 :: (C ++ [90]))))), text_of (by show (5 : Int) ≠ 0; decide) rfl fun k => ?_, tok_of (by simp) (by decide) fun k => ?_,
    fun k => name_not (ha.app _) (by simp only [List.length_append, List.length_cons, List.length_nil, hM.1, hD.1, hA.1, hB.1, hC.1, lY]; omega) k, by simp,
    ch_app (dig_ch hY.2.1) (by decide) (ch_app (dig_ch hM.2.1) (by decide) (ch_app (dig_ch hD.2.1) (by decide) (ch_app (dig_ch hA.2.1) (by decide) (ch_app (dig_ch hB.2.1) (by decide) (ch_app (dig_ch hC.2.1) (by decide) (by simp)))))),
    by simp only [List.length_append, List.length_cons, List.length_nil, hM.1, hD.1, hA.1, hB.1, hC.1, lY]; omega⟩
  · unfold zq84 zq7x
    refine c_f.trans (c_f.trans (c_f.trans (c_f.trans (c_t.trans ?_))))
    refine (c_nneg (by decide)).trans ?_
    dsimp only
    rw [e1, i64_in (n / 86400) (by omega)]
    refine (f _).trans ?_
    refine (c_pos (by simp only [List.length_append, List.length_cons, List.length_nil, hM.1, hD.1, lY]; omega)).trans ?_
    refine (c_nneg (by decide)).trans ?_
    rw [e2]
    refine (f2 true _).trans ?_
    refine (c_pos (by simp only [List.length_append, List.length_cons, List.length_nil, cond_true, hM.1, hD.1, hA.1, hB.1, hC.1, lY]; omega)).trans ?_
    refine (c_pos (by simp only [List.length_append, List.length_cons, List.length_nil, cond_true, hM.1, hD.1, hA.1, hB.1, hC.1, lY]; omega)).trans ?_
    refine c_t.trans ?_
    show k _ (decide _) = _
    rw [decide_eq_true hn.1]
    simp
  · refine (form_not (ha.app _) (by simp only [List.length_append, List.length_cons, List.length_nil, hM.1, hD.1, hA.1, hB.1, hC.1, lY]; omega) _).trans ?_
    have x1 : decide (84 ∈ Y ++ 45 :: (M ++ 45 :: (D ++ 84 :: (A ++ 58 :: (B ++ 58 :: (C ++ [90])))))) = true := decide_eq_true (by simp)
    rw [x1]
    refine c_t.trans ?_
    refine (lex_instant hY hM hD hq (by omega) hA hB hC (by omega) (by omega) (by omega) _).trans ?_
    rw [show n / 86400 * 86400 + (3600 * (n % 86400 / 3600) + 60 * (n % 86400 / 60 % 60) + n % 86400 % 60) = n by omega]
end
end
end Go.Lift

/- The examples of chapter 6. -/
namespace Go.Lift
noncomputable section
set_option maxRecDepth 100000
theorem sane06 {β : Type} (k : Bool → Option β) : zqah k = k true := by kernel_rfl
end
end Go.Lift

/- LexerNumbers: the values of numbers, clocks, dates, offsets and instants that are made of their parts. -/
namespace Go.Lift
open Go.RowKit Go.IntWalk
noncomputable section
set_option linter.unusedVariables false
set_option linter.unusedSimpArgs false
set_option maxRecDepth 10000

section
variable {β : Type}
theorem mod_ok (x : Int) {n : Int} (hn : 1 ≤ n ∧ n ≤ 1000000000) : ∃ r, 0 ≤ r ∧ r < n ∧ ∀ {β : Type} (k : Int → Option β), zq7 x n k = k r := by
  have h1 := Int.tmod_lt_of_pos x (show 0 < n by omega)
  have h2 : -n < Int.tmod x n := by
    have h5 := Int.tmod_lt_of_pos (-x) (show 0 < n by omega)
    rw [Int.neg_tmod] at h5
    omega
  refine ⟨Int.tmod (Int.tmod x n + n) n, Int.tmod_nonneg _ (by omega), Int.tmod_lt_of_pos _ (by omega), fun k => ?_⟩
  unfold zq7 zq4
  refine (c_nneg (by omega)).trans ?_
  refine (c_nneg (by omega)).trans ?_
  dsimp only
  rw [i64_in (Int.tmod x n + n) (by omega)]

theorem num_step {t : Int × List UInt8 × Int} {s : List UInt8} (h : TokText t s) (A B : Option β) :
    zq8i t (fun rText rText2 => zq9f rText fun rToken rToken2 => cond (!decide (rText2 = 0)) A (cond (!decide (rToken2 = 0)) A
      (cond (!(decide (rToken.1 = t.1) && (decide (rToken.2.1 = t.2.1) && (decide (rToken.2.2 = t.2.2) && true)))) A (zq2o rText fun rName => cond rName A B)))) = B := by
  refine (h.txt _).trans ?_
  refine (h.tok _).trans ?_
  refine (c_npos rfl).trans ?_
  refine (c_npos rfl).trans ?_
  have e : (decide (t.1 = t.1) && (decide (t.2.1 = t.2.1) && (decide (t.2.2 = t.2.2) && true))) = true := by simp
  rw [e]
  refine c_f.trans ?_
  refine (h.nam _).trans ?_
  exact c_f

theorem fuel_6 : ∃ m, fuel = m + 6 := ⟨fuel - 6, by have := lt_fuel (n := 6) (by omega); omega⟩

theorem num_loop {n1 n2 n3 n4 n5 : Int} {s1 s2 s3 s4 s5 : List UInt8} (h1 : TokText (1, [], n1) s1) (h2 : TokText (2, [], n2) s2) (h3 : TokText (3, [], n3) s3) (h4 : TokText (5, [], n4) s4) (h5 : TokText (4, [], n5) s5)
    (k1 : zqal β) (k2 : zqam β) : zqay k1 k2 1 [] n1 2 [] n2 3 [] n3 5 [] n4 4 [] n5 0 = k2 () := by
  unfold zqay
  obtain ⟨m, hm⟩ := fuel_6
  rw [hm]
  simp only [zqax, zqaq]
  refine (c_pos (by decide)).trans ?_
  refine (c_inb (by simp only [List.length_cons, List.length_nil]; omega)).trans ?_
  refine (num_step h1 _ _).trans ?_
  rw [show IntKind.i64.wrap ((0 : Int) + 1) = 1 by decide]
  refine (c_pos (by decide)).trans ?_
  refine (c_inb (by simp only [List.length_cons, List.length_nil]; omega)).trans ?_
  refine (num_step h2 _ _).trans ?_
  rw [show IntKind.i64.wrap ((1 : Int) + 1) = 2 by decide]
  refine (c_pos (by decide)).trans ?_
  refine (c_inb (by simp only [List.length_cons, List.length_nil]; omega)).trans ?_
  refine (num_step h3 _ _).trans ?_
  rw [show IntKind.i64.wrap ((2 : Int) + 1) = 3 by decide]
  refine (c_pos (by decide)).trans ?_
  refine (c_inb (by simp only [List.length_cons, List.length_nil]; omega)).trans ?_
  refine (num_step h4 _ _).trans ?_
  rw [show IntKind.i64.wrap ((3 : Int) + 1) = 4 by decide]
  refine (c_pos (by decide)).trans ?_
  refine (c_inb (by simp only [List.length_cons, List.length_nil]; omega)).trans ?_
  refine (num_step h5 _ _).trans ?_
  rw [show IntKind.i64.wrap ((4 : Int) + 1) = 5 by decide]
  exact c_neg (by decide)

theorem lexerNumbers (n h m s day : Int) (k : Bool → Option β) : zqb0 n h m s day k = k true := by
  obtain ⟨n', n1, n2, fn⟩ := mod_ok n (n := 1000000000) (by omega)
  obtain ⟨h', h1, h2, fh⟩ := mod_ok h (n := 24) (by omega)
  obtain ⟨m', m1, m2, fm⟩ := mod_ok m (n := 60) (by omega)
  obtain ⟨s', s1, s2, fs⟩ := mod_ok s (n := 60) (by omega)
  obtain ⟨d', d1, d2, fd⟩ := mod_ok day (n := 98980) (by omega)
  have e : Int.tmod h' 18 = h' % 18 := Int.tmod_eq_emod_of_nonneg h1
  unfold zqb0 zqat
  refine (fn _).trans ?_
  refine (fh _).trans ?_
  refine (fm _).trans ?_
  refine (fs _).trans ?_
  refine (fd _).trans ?_
  refine (c_nneg (by decide)).trans ?_
  rw [e, i64_in (h' * 3600) (by omega), i64_in (m' * 60) (by omega), i64_in (h' * 3600 + m' * 60) (by omega), i64_in (h' * 3600 + m' * 60 + s') (by omega), i64_in (d' * 86400) (by omega),
    i64_in (d' * 86400 + h' * 3600) (by omega), i64_in (d' * 86400 + h' * 3600 + m' * 60) (by omega), i64_in (d' * 86400 + h' * 3600 + m' * 60 + s') (by omega), i64_in (h' % 18 * 3600) (by omega), i64_in (h' % 18 * 3600 + m' * 60) (by omega)]
  obtain ⟨x1, g1⟩ := tt_number (n := n') (by omega)
  obtain ⟨x2, g2⟩ := tt_clock (n := h' * 3600 + m' * 60 + s') (by omega)
  obtain ⟨x3, g3⟩ := tt_date (n := d') (by omega)
  obtain ⟨x4, g4⟩ := tt_instant (n := d' * 86400 + h' * 3600 + m' * 60 + s') (by omega)
  obtain ⟨x5, g5⟩ := tt_offset (n := h' % 18 * 3600 + m' * 60) (by omega) (by omega)
  refine (num_loop g1 g2 g3 g4 g5 _ _).trans ?_
  exact sane06 _
end
end
end Go.Lift

