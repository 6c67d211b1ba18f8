/- Part6: Fn0, LBase, LRatio, LRat, LRat3, LRatFn, LRatFn2, LRatSane, LRatFn3, LRatRef, LRatOrder, LRatRef2, LRatNum, LRatParse, LRatTexts. -/
import Derived.Test.YtaecjejknbbndaaDoorProg
import Derived.KernelRfl
import Derived.Test.YtaecjejknbbndaaDoorPart5
namespace Go.Lift
open Go.Proofs
noncomputable section
set_option maxRecDepth 100000
set_option linter.unusedVariables false



def tab : List (Nat × TI) := [
  (3, ⟨false, 1, 8, [.int .i64 (0 : Int)], [], none, none, (some (.int .i64)), (some .i64), false, false, none, none⟩),
  (4, ⟨false, 1, 1, [.bool false], [], none, none, (some .bool), none, true, false, none, none⟩),
  (5, ⟨false, 1, 1, [.int .u8 (0 : Int)], [], none, none, (some (.int .u8)), (some .u8), false, false, none, none⟩),
  (9, ⟨false, 1, 16, [.str ([] : List UInt8)], [], none, none, (some .str), none, false, true, none, none⟩),
  (24, ⟨true, 2, 16, [.int .i64 (0 : Int), .int .i64 (0 : Int)], [(0, 1, false), (1, 1, false)], none, none, (some (.prod (.int .i64) (.int .i64))), none, false, false, (some [.i, .i]), none⟩),
  (27, ⟨true, 6, 96, [.str ([] : List UInt8), .str ([] : List UInt8), .str ([] : List UInt8), .str ([] : List UInt8), .str ([] : List UInt8), .str ([] : List UInt8)], [], (some 9), (some 6), (some (.prod .str (.prod .str (.prod .str (.prod .str (.prod .str .str)))))), none, false, false, (some [.s, .s, .s, .s, .s, .s]), none⟩),
  (46, ⟨false, 1, 16, [.err true], [], none, none, (some .err), none, false, false, none, none⟩),
  (55, ⟨false, 1, 8, [.int .u64 (0 : Int)], [], none, none, (some (.int .u64)), (some .u64), false, false, none, none⟩),
  (62, ⟨false, 1, 24, [.nils], [], (some 5), none, (some (.slice (.int .u8))), none, false, false, none, none⟩)]

theorem tab_ok : TOk Tryd.prog (look tab) := TOk_of (by kernel_rfl)
theorem mixed : Tryd.prog.follows .mixedOrders = true := by kernel_rfl

/-- pagewatch/pagewatchmade.Mod -/
abbrev zq0 := {β : Type} → Int → Int → (Int → Option β) → Option β
def zq1 (c : zq0) : Spec :=
  ⟨[(false, [.data (.int .i64)]), (false, [.data (.int .i64)])], [], [(false, [.data (.int .i64)])], [], fun x k => c x.1.1.1 x.1.2.1.1 (fun r0 => k (((r0, ()), ()), ()))⟩
section
@[reducible] def made_Mod_X : Ctx := ⟨look tab, pick1 [], false, false, false⟩
def zq2 {β : Type} (x : Int) (n : Int) (k : (Int → Option β)) : Option β :=
  cond (!decide (n = 0))
  (cond (!decide (n = 0))
  (let t : Int := (Int.tmod (IntKind.i64.wrap ((Int.tmod x n) + n)) n);
  k t)
  none)
  none
theorem zq3 (hΓ : ΓOk Tryd.prog made_Mod_X.Γ) : SpecOk Tryd.prog 18 (zq1 (zq2)) :=
  spec_exec (X := made_Mod_X) (Λ := pick1 []) (rs := [.tmp 4]) (c := bodyOf Tryd.f18) mixed tab_ok hΓ Tryd.func18 (by kernel_rfl) (by kernel_rfl) (by kernel_rfl) (by kernel_rfl) CutsOk_nil (fun x k r h => Eq.trans (b := (zq1 (zq2)).run x k) (by kernel_rfl) h)
end
theorem zq4Γ : ΓOk Tryd.prog (pick1 []) := ΓOk_nil
def zq5 : zq0 := zq2
theorem zq6 : SpecOk Tryd.prog 18 (zq1 zq5) := zq3 zq4Γ

/-- strconv.Itoa -/
def zq7 : Shelf.Ren :=
      { 
      f := fun x =>
        match x with
        | 171 => 29
        | 243 => 46
        | 246 => 52
        | 283 => 59
        | 284 => 60
        | 285 => 61
        | 286 => 62
        | 129 => 71
        | 317 => 70
        | 318 => 72
        | 319 => 73
        | 320 => 74
        | 337 => 79
        | 338 => 80
        | n => n,
      t := fun x =>
        match x with
        | 3 => 3
        | 9 => 9
        | 2 => 2
        | 4 => 4
        | 171 => 69
        | 0 => 0
        | 53 => 55
        | 37 => 62
        | 5 => 5
        | 173 => 72
        | 212 => 82
        | 51 => 83
        | 20 => 20
        | 213 => 84
        | 46 => 68
        | 232 => 95
        | 233 => 96
        | n => n,
      g := fun x =>
        match x with
        | 17 => 3
        | 18 => 4
        | 19 => 5
        | n => n }
theorem zq8 : Go.Proofs.LaysM.n171 Tryd.prog zq7 :=
  { mixed := by kernel_rfl,
    f129 := Eq.trans Tryd.func71 (congrArg some (by kernel_rfl)),
    f171 := Eq.trans Tryd.func29 (congrArg some (by kernel_rfl)),
    f243 := Eq.trans Tryd.func46 (congrArg some (by kernel_rfl)),
    f246 := Eq.trans Tryd.func52 (congrArg some (by kernel_rfl)),
    f283 := Eq.trans Tryd.func59 (congrArg some (by kernel_rfl)),
    f284 := Eq.trans Tryd.func60 (congrArg some (by kernel_rfl)),
    f285 := Eq.trans Tryd.func61 (congrArg some (by kernel_rfl)),
    f286 := Eq.trans Tryd.func62 (congrArg some (by kernel_rfl)),
    f317 := Eq.trans Tryd.func70 (congrArg some (by kernel_rfl)),
    f318 := Eq.trans Tryd.func72 (congrArg some (by kernel_rfl)),
    f319 := Eq.trans Tryd.func73 (congrArg some (by kernel_rfl)),
    f320 := Eq.trans Tryd.func74 (congrArg some (by kernel_rfl)),
    f337 := Eq.trans Tryd.func79 (congrArg some (by kernel_rfl)),
    f338 := Eq.trans Tryd.func80 (congrArg some (by kernel_rfl)),
    t0 := Tryd.underlying0,
    a0 := Tryd.isAgg0,
    z0 := Tryd.sizeOf0,
    v0 := Tryd.zeroValue0,
    t2 := Tryd.underlying2,
    a2 := Tryd.isAgg2,
    z2 := Tryd.sizeOf2,
    v2 := Tryd.zeroValue2,
    t3 := Tryd.underlying3,
    a3 := Tryd.isAgg3,
    z3 := Tryd.sizeOf3,
    v3 := Tryd.zeroValue3,
    t4 := Tryd.underlying4,
    a4 := Tryd.isAgg4,
    z4 := Tryd.sizeOf4,
    v4 := Tryd.zeroValue4,
    t5 := Tryd.underlying5,
    a5 := Tryd.isAgg5,
    z5 := Tryd.sizeOf5,
    v5 := Tryd.zeroValue5,
    t9 := Tryd.underlying9,
    a9 := Tryd.isAgg9,
    z9 := Tryd.sizeOf9,
    v9 := Tryd.zeroValue9,
    t20 := Tryd.underlying20,
    a20 := Tryd.isAgg20,
    z20 := Tryd.sizeOf20,
    v20 := Tryd.zeroValue20,
    t37 := Tryd.underlying62,
    a37 := Tryd.isAgg62,
    z37 := Tryd.sizeOf62,
    v37 := Tryd.zeroValue62,
    t46 := Tryd.underlying68,
    a46 := Tryd.isAgg68,
    z46 := Tryd.sizeOf68,
    v46 := Tryd.zeroValue68,
    t51 := Tryd.underlying83,
    a51 := Tryd.isAgg83,
    z51 := Tryd.sizeOf83,
    v51 := Tryd.zeroValue83,
    t53 := Tryd.underlying55,
    a53 := Tryd.isAgg55,
    z53 := Tryd.sizeOf55,
    v53 := Tryd.zeroValue55,
    t171 := Tryd.underlying69,
    a171 := Tryd.isAgg69,
    z171 := Tryd.sizeOf69,
    v171 := Tryd.zeroValue69,
    t173 := Tryd.underlying72,
    a173 := Tryd.isAgg72,
    z173 := Tryd.sizeOf72,
    v173 := Tryd.zeroValue72,
    t212 := Tryd.underlying82,
    a212 := Tryd.isAgg82,
    z212 := Tryd.sizeOf82,
    v212 := Tryd.zeroValue82,
    t213 := Tryd.underlying84,
    a213 := Tryd.isAgg84,
    z213 := Tryd.sizeOf84,
    t232 := Tryd.underlying95,
    a232 := Tryd.isAgg95,
    z232 := Tryd.sizeOf95,
    v232 := Tryd.zeroValue95,
    t233 := Tryd.underlying96,
    a233 := Tryd.isAgg96,
    z233 := Tryd.sizeOf96,
    v233 := Tryd.zeroValue96,
    g17 := by kernel_rfl,
    g18 := by kernel_rfl,
    g19 := by kernel_rfl,
    i0 := by kernel_rfl,
    i2 := by kernel_rfl,
    i3 := by kernel_rfl,
    i4 := by kernel_rfl,
    i5 := by kernel_rfl,
    i9 := by kernel_rfl,
    i20 := by kernel_rfl,
    i37 := by kernel_rfl,
    i46 := by kernel_rfl,
    i51 := by kernel_rfl,
    i53 := by kernel_rfl,
    i171 := by kernel_rfl,
    i173 := by kernel_rfl,
    i212 := by kernel_rfl,
    i232 := by kernel_rfl,
    i233 := by kernel_rfl,
    m17 := by kernel_rfl,
    m18 := by kernel_rfl,
    m19 := by kernel_rfl }
abbrev zq9 := itoaT
def zqa (c : zq9) : Spec := itoaS c
def zqb : zq9 := fun x k => itoaF x k
theorem zqc : SpecOk Tryd.prog 29 (zqa zqb) :=
  itoa_ok zq8 rfl (g := 3) (by kernel_rfl) ⟨_, Tryd.func29, by kernel_rfl, by kernel_rfl⟩

/-- strings.Cut -/
def zqd : Shelf.Ren :=
      { 
      f := fun x =>
        match x with
        | 145 => 30
        | 220 => 47
        | 219 => 53
        | 217 => 63
        | 225 => 64
        | 224 => 65
        | 267 => 66
        | 266 => 75
        | 314 => 76
        | n => n,
      t := fun x =>
        match x with
        | 9 => 9
        | 4 => 4
        | 59 => 43
        | 3 => 3
        | 5 => 5
        | 46 => 68
        | 146 => 86
        | 51 => 83
        | n => n,
      g := fun x =>
        match x with
        | 1 => 0
        | n => n }
theorem zqe : Go.Proofs.Lays.n145 Tryd.prog zqd :=
  { mixed := by kernel_rfl,
    f145 := Eq.trans Tryd.func30 (congrArg some (by kernel_rfl)),
    f217 := Eq.trans Tryd.func63 (congrArg some (by kernel_rfl)),
    f219 := Eq.trans Tryd.func53 (congrArg some (by kernel_rfl)),
    f220 := Eq.trans Tryd.func47 (congrArg some (by kernel_rfl)),
    f224 := Eq.trans Tryd.func65 (congrArg some (by kernel_rfl)),
    f225 := Eq.trans Tryd.func64 (congrArg some (by kernel_rfl)),
    f266 := Eq.trans Tryd.func75 (congrArg some (by kernel_rfl)),
    f267 := Eq.trans Tryd.func66 (congrArg some (by kernel_rfl)),
    f314 := Eq.trans Tryd.func76 (congrArg some (by kernel_rfl)),
    t3 := Tryd.underlying3,
    a3 := Tryd.isAgg3,
    z3 := Tryd.sizeOf3,
    v3 := Tryd.zeroValue3,
    t4 := Tryd.underlying4,
    a4 := Tryd.isAgg4,
    z4 := Tryd.sizeOf4,
    v4 := Tryd.zeroValue4,
    t5 := Tryd.underlying5,
    a5 := Tryd.isAgg5,
    z5 := Tryd.sizeOf5,
    v5 := Tryd.zeroValue5,
    t9 := Tryd.underlying9,
    a9 := Tryd.isAgg9,
    z9 := Tryd.sizeOf9,
    v9 := Tryd.zeroValue9,
    t46 := Tryd.underlying68,
    a46 := Tryd.isAgg68,
    z46 := Tryd.sizeOf68,
    v46 := Tryd.zeroValue68,
    t51 := Tryd.underlying83,
    a51 := Tryd.isAgg83,
    z51 := Tryd.sizeOf83,
    v51 := Tryd.zeroValue83,
    t59 := Tryd.underlying43,
    a59 := Tryd.isAgg43,
    z59 := Tryd.sizeOf43,
    v59 := Tryd.zeroValue43,
    t146 := Tryd.underlying86,
    a146 := Tryd.isAgg86,
    z146 := Tryd.sizeOf86,
    v146 := Tryd.zeroValue86,
    g1 := by kernel_rfl }
abbrev zqf := cutT
def zqg (c : zqf) : Spec := cutS c
def zqh : zqf := fun x y k => cutF x y k
theorem zqi : SpecOk Tryd.prog 30 (zqg zqh) :=
  cut_ok zqe rfl (of_decide_eq_true (by kernel_rfl)) (fun w0 h0 => Go.Proofs.cell_of_shapedOpen_int (P := Tryd.prog) (g := 0) (t := 3) (zero := #[.int .i64 0]) h0 (of_decide_eq_true (by kernel_rfl)) (by kernel_rfl) rfl (by kernel_rfl) (by kernel_rfl) Tryd.underlying3) ⟨_, Tryd.func30, by kernel_rfl, by kernel_rfl⟩

/-- strconv.Atoi -/
def zqj : Shelf.Ren :=
      { 
      f := fun x =>
        match x with
        | 172 => 31
        | 244 => 48
        | 245 => 49
        | 247 => 54
        | 279 => 55
        | 280 => 56
        | 281 => 57
        | 282 => 58
        | 287 => 67
        | 316 => 68
        | 171 => 29
        | 205 => 69
        | 321 => 77
        | 322 => 78
        | 243 => 46
        | 246 => 52
        | 283 => 59
        | 284 => 60
        | 285 => 61
        | 286 => 62
        | 129 => 71
        | 317 => 70
        | 318 => 72
        | 319 => 73
        | 320 => 74
        | 337 => 79
        | 338 => 80
        | n => n,
      t := fun x =>
        match x with
        | 9 => 9
        | 3 => 3
        | 75 => 46
        | 76 => 47
        | 4 => 4
        | 5 => 5
        | 167 => 61
        | 37 => 62
        | 0 => 0
        | 85 => 63
        | 2 => 2
        | 168 => 65
        | 53 => 55
        | 175 => 75
        | 46 => 68
        | 210 => 79
        | 127 => 90
        | 145 => 93
        | 143 => 91
        | 21 => 21
        | 171 => 69
        | 173 => 72
        | 212 => 82
        | 51 => 83
        | 20 => 20
        | 213 => 84
        | 232 => 95
        | 233 => 96
        | 80 => 97
        | n => n,
      g := fun x =>
        match x with
        | 15 => 1
        | 16 => 2
        | 17 => 3
        | 18 => 4
        | 19 => 5
        | n => n }
theorem zqk : Go.Proofs.LaysC.n172 Tryd.prog zqj :=
  { mixed := by kernel_rfl,
    f129 := Eq.trans Tryd.func71 (congrArg some (by kernel_rfl)),
    f171 := Eq.trans Tryd.func29 (congrArg some (by kernel_rfl)),
    f172 := Eq.trans Tryd.func31 (congrArg some (by kernel_rfl)),
    f205 := Eq.trans Tryd.func69 (congrArg some (by kernel_rfl)),
    f243 := Eq.trans Tryd.func46 (congrArg some (by kernel_rfl)),
    f244 := Eq.trans Tryd.func48 (congrArg some (by kernel_rfl)),
    f245 := Eq.trans Tryd.func49 (congrArg some (by kernel_rfl)),
    f246 := Eq.trans Tryd.func52 (congrArg some (by kernel_rfl)),
    f247 := Eq.trans Tryd.func54 (congrArg some (by kernel_rfl)),
    f279 := Eq.trans Tryd.func55 (congrArg some (by kernel_rfl)),
    f280 := Eq.trans Tryd.func56 (congrArg some (by kernel_rfl)),
    f281 := Eq.trans Tryd.func57 (congrArg some (by kernel_rfl)),
    f282 := Eq.trans Tryd.func58 (congrArg some (by kernel_rfl)),
    f283 := Eq.trans Tryd.func59 (congrArg some (by kernel_rfl)),
    f284 := Eq.trans Tryd.func60 (congrArg some (by kernel_rfl)),
    f285 := Eq.trans Tryd.func61 (congrArg some (by kernel_rfl)),
    f286 := Eq.trans Tryd.func62 (congrArg some (by kernel_rfl)),
    f287 := Eq.trans Tryd.func67 (congrArg some (by kernel_rfl)),
    f316 := Eq.trans Tryd.func68 (congrArg some (by kernel_rfl)),
    f317 := Eq.trans Tryd.func70 (congrArg some (by kernel_rfl)),
    f318 := Eq.trans Tryd.func72 (congrArg some (by kernel_rfl)),
    f319 := Eq.trans Tryd.func73 (congrArg some (by kernel_rfl)),
    f320 := Eq.trans Tryd.func74 (congrArg some (by kernel_rfl)),
    f321 := Eq.trans Tryd.func77 (congrArg some (by kernel_rfl)),
    f322 := Eq.trans Tryd.func78 (congrArg some (by kernel_rfl)),
    f337 := Eq.trans Tryd.func79 (congrArg some (by kernel_rfl)),
    f338 := Eq.trans Tryd.func80 (congrArg some (by kernel_rfl)),
    t0 := Tryd.underlying0,
    a0 := Tryd.isAgg0,
    z0 := Tryd.sizeOf0,
    v0 := Tryd.zeroValue0,
    t2 := Tryd.underlying2,
    a2 := Tryd.isAgg2,
    z2 := Tryd.sizeOf2,
    v2 := Tryd.zeroValue2,
    t3 := Tryd.underlying3,
    a3 := Tryd.isAgg3,
    z3 := Tryd.sizeOf3,
    v3 := Tryd.zeroValue3,
    t4 := Tryd.underlying4,
    a4 := Tryd.isAgg4,
    z4 := Tryd.sizeOf4,
    v4 := Tryd.zeroValue4,
    t5 := Tryd.underlying5,
    a5 := Tryd.isAgg5,
    z5 := Tryd.sizeOf5,
    v5 := Tryd.zeroValue5,
    t9 := Tryd.underlying9,
    a9 := Tryd.isAgg9,
    z9 := Tryd.sizeOf9,
    v9 := Tryd.zeroValue9,
    t20 := Tryd.underlying20,
    a20 := Tryd.isAgg20,
    z20 := Tryd.sizeOf20,
    v20 := Tryd.zeroValue20,
    t21 := Tryd.underlying21,
    a21 := Tryd.isAgg21,
    z21 := Tryd.sizeOf21,
    v21 := Tryd.zeroValue21,
    t37 := Tryd.underlying62,
    a37 := Tryd.isAgg62,
    z37 := Tryd.sizeOf62,
    v37 := Tryd.zeroValue62,
    t46 := Tryd.underlying68,
    a46 := Tryd.isAgg68,
    z46 := Tryd.sizeOf68,
    v46 := Tryd.zeroValue68,
    t51 := Tryd.underlying83,
    a51 := Tryd.isAgg83,
    z51 := Tryd.sizeOf83,
    v51 := Tryd.zeroValue83,
    t53 := Tryd.underlying55,
    a53 := Tryd.isAgg55,
    z53 := Tryd.sizeOf55,
    v53 := Tryd.zeroValue55,
    t75 := Tryd.underlying46,
    a75 := Tryd.isAgg46,
    z75 := Tryd.sizeOf46,
    v75 := Tryd.zeroValue46,
    t76 := Tryd.underlying47,
    a76 := Tryd.isAgg47,
    z76 := Tryd.sizeOf47,
    v76 := Tryd.zeroValue47,
    t85 := Tryd.underlying63,
    a85 := Tryd.isAgg63,
    z85 := Tryd.sizeOf63,
    v85 := Tryd.zeroValue63,
    t127 := Tryd.underlying90,
    a127 := Tryd.isAgg90,
    z127 := Tryd.sizeOf90,
    v127 := Tryd.zeroValue90,
    t143 := Tryd.underlying91,
    a143 := Tryd.isAgg91,
    z143 := Tryd.sizeOf91,
    v143 := Tryd.zeroValue91,
    t145 := Tryd.underlying93,
    a145 := Tryd.isAgg93,
    z145 := Tryd.sizeOf93,
    v145 := Tryd.zeroValue93,
    t167 := Tryd.underlying61,
    a167 := Tryd.isAgg61,
    z167 := Tryd.sizeOf61,
    v167 := Tryd.zeroValue61,
    t168 := Tryd.underlying65,
    a168 := Tryd.isAgg65,
    z168 := Tryd.sizeOf65,
    v168 := Tryd.zeroValue65,
    t171 := Tryd.underlying69,
    a171 := Tryd.isAgg69,
    z171 := Tryd.sizeOf69,
    v171 := Tryd.zeroValue69,
    t173 := Tryd.underlying72,
    a173 := Tryd.isAgg72,
    z173 := Tryd.sizeOf72,
    v173 := Tryd.zeroValue72,
    t175 := Tryd.underlying75,
    a175 := Tryd.isAgg75,
    z175 := Tryd.sizeOf75,
    v175 := Tryd.zeroValue75,
    t210 := Tryd.underlying79,
    a210 := Tryd.isAgg79,
    z210 := Tryd.sizeOf79,
    v210 := Tryd.zeroValue79,
    t212 := Tryd.underlying82,
    a212 := Tryd.isAgg82,
    z212 := Tryd.sizeOf82,
    v212 := Tryd.zeroValue82,
    t213 := Tryd.underlying84,
    a213 := Tryd.isAgg84,
    z213 := Tryd.sizeOf84,
    t232 := Tryd.underlying95,
    a232 := Tryd.isAgg95,
    z232 := Tryd.sizeOf95,
    v232 := Tryd.zeroValue95,
    t233 := Tryd.underlying96,
    a233 := Tryd.isAgg96,
    z233 := Tryd.sizeOf96,
    v233 := Tryd.zeroValue96,
    g15 := by kernel_rfl,
    g16 := by kernel_rfl,
    g17 := by kernel_rfl,
    g18 := by kernel_rfl,
    g19 := by kernel_rfl,
    t80 := Tryd.underlying97,
    a80 := Tryd.isAgg97,
    z80 := Tryd.sizeOf97,
    v80 := Tryd.zeroValue97,
    i0 := by kernel_rfl,
    i2 := by kernel_rfl,
    i3 := by kernel_rfl,
    i4 := by kernel_rfl,
    i5 := by kernel_rfl,
    i9 := by kernel_rfl,
    i20 := by kernel_rfl,
    i21 := by kernel_rfl,
    i37 := by kernel_rfl,
    i46 := by kernel_rfl,
    i51 := by kernel_rfl,
    i53 := by kernel_rfl,
    i75 := by kernel_rfl,
    i76 := by kernel_rfl,
    i80 := by kernel_rfl,
    i85 := by kernel_rfl,
    i127 := by kernel_rfl,
    i143 := by kernel_rfl,
    i145 := by kernel_rfl,
    i167 := by kernel_rfl,
    i168 := by kernel_rfl,
    i171 := by kernel_rfl,
    i173 := by kernel_rfl,
    i175 := by kernel_rfl,
    i210 := by kernel_rfl,
    i212 := by kernel_rfl,
    i232 := by kernel_rfl,
    i233 := by kernel_rfl,
    m15 := by kernel_rfl,
    m16 := by kernel_rfl,
    m17 := by kernel_rfl,
    m18 := by kernel_rfl,
    m19 := by kernel_rfl,
    c0 := by kernel_rfl,
    c2 := by kernel_rfl,
    c3 := by kernel_rfl,
    c4 := by kernel_rfl,
    c5 := by kernel_rfl,
    c9 := by kernel_rfl,
    c20 := by kernel_rfl,
    c21 := by kernel_rfl,
    c37 := by kernel_rfl,
    c46 := by kernel_rfl,
    c51 := by kernel_rfl,
    c53 := by kernel_rfl,
    c75 := by kernel_rfl,
    c76 := by kernel_rfl,
    c80 := by kernel_rfl,
    c85 := by kernel_rfl,
    c127 := by kernel_rfl,
    c143 := by kernel_rfl,
    c145 := by kernel_rfl,
    c167 := by kernel_rfl,
    c168 := by kernel_rfl,
    c171 := by kernel_rfl,
    c173 := by kernel_rfl,
    c175 := by kernel_rfl,
    c210 := by kernel_rfl,
    c212 := by kernel_rfl,
    c213 := by kernel_rfl,
    c232 := by kernel_rfl,
    c233 := by kernel_rfl }
abbrev zql := atoiT
def zqm (c : zql) : Spec := atoiS c
def zqn : zql := fun x k => atoiF x k
theorem zqo : SpecOk Tryd.prog 31 (zqm zqn) :=
  atoi_ok zqk rfl (by kernel_rfl) (by kernel_rfl) ⟨_, Tryd.func31, by kernel_rfl, by kernel_rfl⟩

/-- pagewatch/pagewatchref02.number -/
abbrev zqp := {β : Type} → (List UInt8) → (Int → Option β) → Option β
def zqq (c : zqp) : Spec :=
  ⟨[(false, [.data .str])], [], [(false, [.data (.int .i64)])], [], fun x k => c x.1.1.1 (fun r0 => k (((r0, ()), ()), ()))⟩
noncomputable def ref02_number_p1_code : Code := codeAt 58 (bodyOf Tryd.f32)
abbrev zqr (β : Type) := Int → Option β
abbrev zqs (β : Type) := Int → Option β
abbrev zqt := {β : Type} → zqr β → zqs β → (List UInt8) → Int → Int → Option β
def zqu : View := ⟨0, [0, 3, 4], [(false, [.data .str]), (false, [.data (.int .i64)]), (false, [.data (.int .i64)])], []⟩
def zqv : List (AExit × View) := [(.ret, ⟨0, [2], [(false, [.data (.int .i64)])], []⟩), (.exit 0, ⟨0, [3], [(false, [.data (.int .i64)])], []⟩)]
@[reducible] def ref02_number_p1_G (p : zqt) {β : Type} (d : zqu.den) (ks : Outs.K β zqv) : Option β :=
  p (fun a0 => ks.1 (((a0, ()), ()), ())) (fun a0 => ks.2.1 (((a0, ()), ()), ())) d.1.1.1 d.1.2.1.1 d.1.2.2.1.1
section
@[reducible] def ref02_number_X : Ctx := ⟨look tab, pick1 [], false, false, false⟩
def zqw {β : Type} (rec : (List UInt8) → Int → Int → Option β) (k1 : zqr β) (k2 : zqs β) (s : List UInt8) (n : Int) (i_ : Int) : Option β :=
  cond (decide (i_ < (List.length s : Int)))
  (cond (decide (0 ≤ i_) && decide (i_ < (List.length s : Int)))
  (cond (decide (((List.getD s (Int.toNat i_) 0).toNat : Int) < (48 : Int)))
  (k1 (-1 : Int))
  (cond (decide (0 ≤ i_) && decide (i_ < (List.length s : Int)))
  (cond (decide ((57 : Int) < ((List.getD s (Int.toNat i_) 0).toNat : Int)))
  (k1 (-1 : Int))
  (cond (decide (0 ≤ i_) && decide (i_ < (List.length s : Int)))
  (cond (!decide ((10 : Int) = 0))
  (cond (decide ((IntKind.i64.wrap (Int.tdiv (IntKind.i64.wrap ((4611686018427387904 : Int) - (IntKind.i64.wrap (IntKind.u8.wrap (((List.getD s (Int.toNat i_) 0).toNat : Int) - (48 : Int)))))) (10 : Int))) < n))
  (k1 (-1 : Int))
  (cond (decide (0 ≤ i_) && decide (i_ < (List.length s : Int)))
  (let n2 : Int := (IntKind.i64.wrap ((IntKind.i64.wrap ((10 : Int) * n)) + (IntKind.i64.wrap (IntKind.u8.wrap (((List.getD s (Int.toNat i_) 0).toNat : Int) - (48 : Int))))));
  let i_2 : Int := (IntKind.i64.wrap (i_ + (1 : Int)));
  rec s n2 i_2)
  none))
  none)
  none))
  none))
  none)
  (k2 n)
def zqx {β : Type} : Nat → zqr β → zqs β → (List UInt8) → Int → Int → Option β
  | 0 => fun _ _ _ _ _ => none
  | i + 1 => fun k1 k2 s n i_ => zqw (zqx i k1 k2) k1 k2 s n i_
theorem zqy (hΓ : ΓOk Tryd.prog ref02_number_X.Γ) (i : Nat) : PieceOk Tryd.prog 41 0 ref02_number_p1_code zqu zqv (ref02_number_p1_G (zqx i)) := by
  rw [show ref02_number_p1_code = .loop (loopBody ref02_number_p1_code) by kernel_rfl]
  exact piece_loop (X := ref02_number_X) (p := 1) (Λ := pick1 []) (G := fun i => @fun β d ks => ref02_number_p1_G (zqx i) d ks) mixed tab_ok hΓ rfl (by kernel_rfl) CutsOk_nil (fun _ _ => rfl) (fun i => @fun β d ks r h => Eq.trans (b := ref02_number_p1_G (zqx (i + 1)) d ks) (by kernel_rfl) h) i
def zqz (p1 : zqt) {β : Type} (s : List UInt8) (k : (Int → Option β)) : Option β :=
  p1 (fun (t2 : Int) =>
  k t2) (fun (n : Int) =>
  k n) s (0 : Int) (0 : Int)
theorem zq10 (hΓ : ΓOk Tryd.prog ref02_number_X.Γ) (p1 : zqt) (hp1 : PieceOk Tryd.prog 41 0 ref02_number_p1_code zqu zqv (ref02_number_p1_G p1)) : SpecOk Tryd.prog 32 (zqq (zqz p1)) :=
  spec_exec (X := ref02_number_X) (Λ := pick1 [(58, pieceCut zqu zqv (ref02_number_p1_G p1))]) (rs := [.tmp 2]) (c := bodyOf Tryd.f32) mixed tab_ok hΓ Tryd.func32 (by kernel_rfl) (by kernel_rfl) (by kernel_rfl) (by kernel_rfl) (CutsOk_cons (q := 58) (c' := ref02_number_p1_code) (by kernel_rfl) rfl hp1 CutsOk_nil) (fun x k r h => Eq.trans (b := (zqq (zqz p1)).run x k) (by kernel_rfl) h)
end
theorem zq11Γ : ΓOk Tryd.prog (pick1 []) := ΓOk_nil
def zq12 (m : Nat) : zqt := zqx m
theorem zq13 {β : Type} (i : Nat) (k1 k2 s n i_) : (zq12 (i + 1) k1 k2 s n i_ : Option β) = zqw (zq12 i k1 k2) k1 k2 s n i_ := rfl
def zq14 : zqt := zq12 fuel
theorem zq15 : PieceOk Tryd.prog 41 0 ref02_number_p1_code zqu zqv (ref02_number_p1_G zq14) := zqy zq11Γ fuel
def zq16 : zqp := zqz zq14
theorem zq17 : SpecOk Tryd.prog 32 (zqq zq16) := zq10 zq11Γ zq14 zq15

/-- pagewatch/ratio.gcd -/
abbrev zq18 := {β : Type} → Int → Int → (Int → Option β) → Option β
def zq19 (c : zq18) : Spec :=
  ⟨[(false, [.data (.int .i64)]), (false, [.data (.int .i64)])], [], [(false, [.data (.int .i64)])], [], fun x k => c x.1.1.1 x.1.2.1.1 (fun r0 => k (((r0, ()), ()), ()))⟩
noncomputable def ratio_gcd_p1_code : Code := codeAt 12 (bodyOf Tryd.f33)
abbrev zq1a (β : Type) := Int → Option β
abbrev zq1b := {β : Type} → zq1a β → Int → Int → Option β
def zq1c : View := ⟨0, [0, 1], [(false, [.data (.int .i64)]), (false, [.data (.int .i64)])], []⟩
def zq1d : List (AExit × View) := [(.exit 0, ⟨0, [0], [(false, [.data (.int .i64)])], []⟩)]
@[reducible] def ratio_gcd_p1_G (p : zq1b) {β : Type} (d : zq1c.den) (ks : Outs.K β zq1d) : Option β :=
  p (fun a0 => ks.1 (((a0, ()), ()), ())) d.1.1.1 d.1.2.1.1
section
@[reducible] def ratio_gcd_X : Ctx := ⟨look tab, pick1 [], false, false, false⟩
def zq1e {β : Type} (rec : Int → Int → Option β) (k1 : zq1a β) (a : Int) (b : Int) : Option β :=
  cond (!decide (b = (0 : Int)))
  (cond (!decide (b = 0))
  (rec b (Int.tmod a b))
  none)
  (k1 a)
def zq1f {β : Type} : Nat → zq1a β → Int → Int → Option β
  | 0 => fun _ _ _ => none
  | i + 1 => fun k1 a b => zq1e (zq1f i k1) k1 a b
theorem zq1g (hΓ : ΓOk Tryd.prog ratio_gcd_X.Γ) (i : Nat) : PieceOk Tryd.prog 12 0 ratio_gcd_p1_code zq1c zq1d (ratio_gcd_p1_G (zq1f i)) := by
  rw [show ratio_gcd_p1_code = .loop (loopBody ratio_gcd_p1_code) by kernel_rfl]
  exact piece_loop (X := ratio_gcd_X) (p := 1) (Λ := pick1 []) (G := fun i => @fun β d ks => ratio_gcd_p1_G (zq1f i) d ks) mixed tab_ok hΓ rfl (by kernel_rfl) CutsOk_nil (fun _ _ => rfl) (fun i => @fun β d ks r h => Eq.trans (b := ratio_gcd_p1_G (zq1f (i + 1)) d ks) (by kernel_rfl) h) i
def zq1h (p1 : zq1b) {β : Type} (a : Int) (b : Int) (k : (Int → Option β)) : Option β :=
  p1 (fun (a2 : Int) =>
  k a2) a b
theorem zq1i (hΓ : ΓOk Tryd.prog ratio_gcd_X.Γ) (p1 : zq1b) (hp1 : PieceOk Tryd.prog 12 0 ratio_gcd_p1_code zq1c zq1d (ratio_gcd_p1_G p1)) : SpecOk Tryd.prog 33 (zq19 (zq1h p1)) :=
  spec_exec (X := ratio_gcd_X) (Λ := pick1 [(12, pieceCut zq1c zq1d (ratio_gcd_p1_G p1))]) (rs := [.tmp 4]) (c := bodyOf Tryd.f33) mixed tab_ok hΓ Tryd.func33 (by kernel_rfl) (by kernel_rfl) (by kernel_rfl) (by kernel_rfl) (CutsOk_cons (q := 12) (c' := ratio_gcd_p1_code) (by kernel_rfl) rfl hp1 CutsOk_nil) (fun x k r h => Eq.trans (b := (zq19 (zq1h p1)).run x k) (by kernel_rfl) h)
end
theorem zq1jΓ : ΓOk Tryd.prog (pick1 []) := ΓOk_nil
def zq1k (m : Nat) : zq1b := zq1f m
theorem zq1l {β : Type} (i : Nat) (k1 a b) : (zq1k (i + 1) k1 a b : Option β) = zq1e (zq1k i k1) k1 a b := rfl
def zq1m : zq1b := zq1k fuel
theorem zq1n : PieceOk Tryd.prog 12 0 ratio_gcd_p1_code zq1c zq1d (ratio_gcd_p1_G zq1m) := zq1g zq1jΓ fuel
def zq1o : zq18 := zq1h zq1m
theorem zq1p : SpecOk Tryd.prog 33 (zq19 zq1o) := zq1i zq1jΓ zq1m zq1n

/-- pagewatch/ratio.plus -/
abbrev zq1q := {β : Type} → Int → Int → (Int → Bool → Option β) → Option β
def zq1r (c : zq1q) : Spec :=
  ⟨[(false, [.data (.int .i64)]), (false, [.data (.int .i64)])], [], [(false, [.data (.int .i64)]), (false, [.data .bool])], [], fun x k => c x.1.1.1 x.1.2.1.1 (fun r0 r1 => k (((r0, ()), (r1, ()), ()), ()))⟩
section
@[reducible] def ratio_plus_X : Ctx := ⟨look tab, pick1 [], false, false, false⟩
def zq1s {β : Type} (a : Int) (b : Int) (k : (Int → Bool → Option β)) : Option β :=
  cond (decide ((0 : Int) < a))
  (cond (decide ((IntKind.i64.wrap ((4611686018427387904 : Int) - a)) < b))
  (k (0 : Int) false)
  (cond (decide (a < (0 : Int)))
  (cond (decide (b < (IntKind.i64.wrap ((-4611686018427387904 : Int) - a))))
  (k (0 : Int) false)
  (let t : Int := (IntKind.i64.wrap (a + b));
  k t true))
  (let t : Int := (IntKind.i64.wrap (a + b));
  k t true)))
  (cond (decide (a < (0 : Int)))
  (cond (decide (b < (IntKind.i64.wrap ((-4611686018427387904 : Int) - a))))
  (k (0 : Int) false)
  (let t : Int := (IntKind.i64.wrap (a + b));
  k t true))
  (let t : Int := (IntKind.i64.wrap (a + b));
  k t true))
theorem zq1t (hΓ : ΓOk Tryd.prog ratio_plus_X.Γ) : SpecOk Tryd.prog 35 (zq1r (zq1s)) :=
  spec_exec (X := ratio_plus_X) (Λ := pick1 []) (rs := [.tmp 4, .tmp 5]) (c := bodyOf Tryd.f35) mixed tab_ok hΓ Tryd.func35 (by kernel_rfl) (by kernel_rfl) (by kernel_rfl) (by kernel_rfl) CutsOk_nil (fun x k r h => Eq.trans (b := (zq1r (zq1s)).run x k) (by kernel_rfl) h)
end
theorem zq1uΓ : ΓOk Tryd.prog (pick1 []) := ΓOk_nil
def zq1v : zq1q := zq1s
theorem zq1w : SpecOk Tryd.prog 35 (zq1r zq1v) := zq1t zq1uΓ

/-- pagewatch/ratio.within -/
abbrev zq1x := {β : Type} → Int → (Bool → Option β) → Option β
def zq1y (c : zq1x) : Spec :=
  ⟨[(false, [.data (.int .i64)])], [], [(false, [.data .bool])], [], fun x k => c x.1.1.1 (fun r0 => k (((r0, ()), ()), ()))⟩
section
@[reducible] def ratio_within_X : Ctx := ⟨look tab, pick1 [], false, false, false⟩
def zq1z {β : Type} (n : Int) (k : (Bool → Option β)) : Option β :=
  cond (decide ((-4611686018427387904 : Int) ≤ n))
  (let t : Bool := (decide (n ≤ (4611686018427387904 : Int)));
  k t)
  (k false)
theorem zq20 (hΓ : ΓOk Tryd.prog ratio_within_X.Γ) : SpecOk Tryd.prog 36 (zq1y (zq1z)) :=
  spec_exec (X := ratio_within_X) (Λ := pick1 []) (rs := [.tmp 2]) (c := bodyOf Tryd.f36) mixed tab_ok hΓ Tryd.func36 (by kernel_rfl) (by kernel_rfl) (by kernel_rfl) (by kernel_rfl) CutsOk_nil (fun x k r h => Eq.trans (b := (zq1y (zq1z)).run x k) (by kernel_rfl) h)
end
theorem zq21Γ : ΓOk Tryd.prog (pick1 []) := ΓOk_nil
def zq22 : zq1x := zq1z
theorem zq23 : SpecOk Tryd.prog 36 (zq1y zq22) := zq20 zq21Γ

/-- pagewatch/ratio.size -/
abbrev zq24 := {β : Type} → Int → (Int → Option β) → Option β
def zq25 (c : zq24) : Spec :=
  ⟨[(false, [.data (.int .i64)])], [], [(false, [.data (.int .i64)])], [], fun x k => c x.1.1.1 (fun r0 => k (((r0, ()), ()), ()))⟩
section
@[reducible] def ratio_size_X : Ctx := ⟨look tab, pick1 [], false, false, false⟩
def zq26 {β : Type} (n : Int) (k : (Int → Option β)) : Option β :=
  cond (decide (n < (0 : Int)))
  (let t : Int := (IntKind.i64.wrap (0 - n));
  k t)
  (k n)
theorem zq27 (hΓ : ΓOk Tryd.prog ratio_size_X.Γ) : SpecOk Tryd.prog 37 (zq25 (zq26)) :=
  spec_exec (X := ratio_size_X) (Λ := pick1 []) (rs := [.tmp 2]) (c := bodyOf Tryd.f37) mixed tab_ok hΓ Tryd.func37 (by kernel_rfl) (by kernel_rfl) (by kernel_rfl) (by kernel_rfl) CutsOk_nil (fun x k r h => Eq.trans (b := (zq25 (zq26)).run x k) (by kernel_rfl) h)
end
theorem zq28Γ : ΓOk Tryd.prog (pick1 []) := ΓOk_nil
def zq29 : zq24 := zq26
theorem zq2a : SpecOk Tryd.prog 37 (zq25 zq29) := zq27 zq28Γ

/-- pagewatch/pagewatchref02.gcd -/
abbrev zq2b := {β : Type} → Int → Int → (Int → Option β) → Option β
def zq2c (c : zq2b) : Spec :=
  ⟨[(false, [.data (.int .i64)]), (false, [.data (.int .i64)])], [], [(false, [.data (.int .i64)])], [], fun x k => c x.1.1.1 x.1.2.1.1 (fun r0 => k (((r0, ()), ()), ()))⟩
noncomputable def ref02_gcd_p1_code : Code := codeAt 12 (bodyOf Tryd.f40)
abbrev zq2d (β : Type) := Int → Option β
abbrev zq2e := {β : Type} → zq2d β → Int → Int → Option β
def zq2f : View := ⟨0, [0, 1], [(false, [.data (.int .i64)]), (false, [.data (.int .i64)])], []⟩
def zq2g : List (AExit × View) := [(.exit 0, ⟨0, [0], [(false, [.data (.int .i64)])], []⟩)]
@[reducible] def ref02_gcd_p1_G (p : zq2e) {β : Type} (d : zq2f.den) (ks : Outs.K β zq2g) : Option β :=
  p (fun a0 => ks.1 (((a0, ()), ()), ())) d.1.1.1 d.1.2.1.1
section
@[reducible] def ref02_gcd_X : Ctx := ⟨look tab, pick1 [], false, false, false⟩
def zq2h {β : Type} (rec : Int → Int → Option β) (k1 : zq2d β) (a : Int) (b : Int) : Option β :=
  cond (!decide (b = (0 : Int)))
  (cond (!decide (b = 0))
  (rec b (Int.tmod a b))
  none)
  (k1 a)
def zq2i {β : Type} : Nat → zq2d β → Int → Int → Option β
  | 0 => fun _ _ _ => none
  | i + 1 => fun k1 a b => zq2h (zq2i i k1) k1 a b
theorem zq2j (hΓ : ΓOk Tryd.prog ref02_gcd_X.Γ) (i : Nat) : PieceOk Tryd.prog 12 0 ref02_gcd_p1_code zq2f zq2g (ref02_gcd_p1_G (zq2i i)) := by
  rw [show ref02_gcd_p1_code = .loop (loopBody ref02_gcd_p1_code) by kernel_rfl]
  exact piece_loop (X := ref02_gcd_X) (p := 1) (Λ := pick1 []) (G := fun i => @fun β d ks => ref02_gcd_p1_G (zq2i i) d ks) mixed tab_ok hΓ rfl (by kernel_rfl) CutsOk_nil (fun _ _ => rfl) (fun i => @fun β d ks r h => Eq.trans (b := ref02_gcd_p1_G (zq2i (i + 1)) d ks) (by kernel_rfl) h) i
def zq2k (p1 : zq2e) {β : Type} (a : Int) (b : Int) (k : (Int → Option β)) : Option β :=
  p1 (fun (a2 : Int) =>
  k a2) a b
theorem zq2l (hΓ : ΓOk Tryd.prog ref02_gcd_X.Γ) (p1 : zq2e) (hp1 : PieceOk Tryd.prog 12 0 ref02_gcd_p1_code zq2f zq2g (ref02_gcd_p1_G p1)) : SpecOk Tryd.prog 40 (zq2c (zq2k p1)) :=
  spec_exec (X := ref02_gcd_X) (Λ := pick1 [(12, pieceCut zq2f zq2g (ref02_gcd_p1_G p1))]) (rs := [.tmp 4]) (c := bodyOf Tryd.f40) mixed tab_ok hΓ Tryd.func40 (by kernel_rfl) (by kernel_rfl) (by kernel_rfl) (by kernel_rfl) (CutsOk_cons (q := 12) (c' := ref02_gcd_p1_code) (by kernel_rfl) rfl hp1 CutsOk_nil) (fun x k r h => Eq.trans (b := (zq2c (zq2k p1)).run x k) (by kernel_rfl) h)
end
theorem zq2mΓ : ΓOk Tryd.prog (pick1 []) := ΓOk_nil
def zq2n (m : Nat) : zq2e := zq2i m
theorem zq2o {β : Type} (i : Nat) (k1 a b) : (zq2n (i + 1) k1 a b : Option β) = zq2h (zq2n i k1) k1 a b := rfl
def zq2p : zq2e := zq2n fuel
theorem zq2q : PieceOk Tryd.prog 12 0 ref02_gcd_p1_code zq2f zq2g (ref02_gcd_p1_G zq2p) := zq2j zq2mΓ fuel
def zq2r : zq2b := zq2k zq2p
theorem zq2s : SpecOk Tryd.prog 40 (zq2c zq2r) := zq2l zq2mΓ zq2p zq2q

/-- pagewatch/pagewatchref02.size -/
abbrev zq2t := {β : Type} → Int → (Int → Option β) → Option β
def zq2u (c : zq2t) : Spec :=
  ⟨[(false, [.data (.int .i64)])], [], [(false, [.data (.int .i64)])], [], fun x k => c x.1.1.1 (fun r0 => k (((r0, ()), ()), ()))⟩
section
@[reducible] def ref02_size_X : Ctx := ⟨look tab, pick1 [], false, false, false⟩
def zq2v {β : Type} (n : Int) (k : (Int → Option β)) : Option β :=
  cond (decide (n < (0 : Int)))
  (let t : Int := (IntKind.i64.wrap (0 - n));
  k t)
  (k n)
theorem zq2w (hΓ : ΓOk Tryd.prog ref02_size_X.Γ) : SpecOk Tryd.prog 42 (zq2u (zq2v)) :=
  spec_exec (X := ref02_size_X) (Λ := pick1 []) (rs := [.tmp 2]) (c := bodyOf Tryd.f42) mixed tab_ok hΓ Tryd.func42 (by kernel_rfl) (by kernel_rfl) (by kernel_rfl) (by kernel_rfl) CutsOk_nil (fun x k r h => Eq.trans (b := (zq2u (zq2v)).run x k) (by kernel_rfl) h)
end
theorem zq2xΓ : ΓOk Tryd.prog (pick1 []) := ΓOk_nil
def zq2y : zq2t := zq2v
theorem zq2z : SpecOk Tryd.prog 42 (zq2u zq2y) := zq2w zq2xΓ

/-- pagewatch/pagewatchref02.in -/
abbrev zq30 := {β : Type} → Int → (Bool → Option β) → Option β
def zq31 (c : zq30) : Spec :=
  ⟨[(false, [.data (.int .i64)])], [], [(false, [.data .bool])], [], fun x k => c x.1.1.1 (fun r0 => k (((r0, ()), ()), ()))⟩
section
@[reducible] def ref02_in_X : Ctx := ⟨look tab, pick1 [], false, false, false⟩
def zq32 {β : Type} (n : Int) (k : (Bool → Option β)) : Option β :=
  cond (decide ((-4611686018427387904 : Int) ≤ n))
  (let t : Bool := (decide (n ≤ (4611686018427387904 : Int)));
  k t)
  (k false)
theorem zq33 (hΓ : ΓOk Tryd.prog ref02_in_X.Γ) : SpecOk Tryd.prog 44 (zq31 (zq32)) :=
  spec_exec (X := ref02_in_X) (Λ := pick1 []) (rs := [.tmp 2]) (c := bodyOf Tryd.f44) mixed tab_ok hΓ Tryd.func44 (by kernel_rfl) (by kernel_rfl) (by kernel_rfl) (by kernel_rfl) CutsOk_nil (fun x k r h => Eq.trans (b := (zq31 (zq32)).run x k) (by kernel_rfl) h)
end
theorem zq34Γ : ΓOk Tryd.prog (pick1 []) := ΓOk_nil
def zq35 : zq30 := zq32
theorem zq36 : SpecOk Tryd.prog 44 (zq31 zq35) := zq33 zq34Γ

/-- math/bits.Mul64 -/
abbrev zq37 := {β : Type} → Int → Int → (Int → Int → Option β) → Option β
def zq38 (c : zq37) : Spec :=
  ⟨[(false, [.data (.int .u64)]), (false, [.data (.int .u64)])], [], [(false, [.data (.int .u64)]), (false, [.data (.int .u64)])], [], fun x k => c x.1.1.1 x.1.2.1.1 (fun r0 r1 => k (((r0, ()), (r1, ()), ()), ()))⟩
section
@[reducible] def math_bits_Mul64_X : Ctx := ⟨look tab, pick1 [], false, false, false⟩
def zq39 {β : Type} (x : Int) (y : Int) (k : (Int → Int → Option β)) : Option β :=
  let x0 : Int := (bitsOf .and .u64 x (4294967295 : Int));
  cond (decide (0 ≤ (32 : Int)))
  (let x1 : Int := (shiftOf .shr .u64 x (32 : Int));
  let y0 : Int := (bitsOf .and .u64 y (4294967295 : Int));
  cond (decide (0 ≤ (32 : Int)))
  (let y1 : Int := (shiftOf .shr .u64 y (32 : Int));
  let w0 : Int := (IntKind.u64.wrap (x0 * y0));
  cond (decide (0 ≤ (32 : Int)))
  (let t : Int := (IntKind.u64.wrap ((IntKind.u64.wrap (x1 * y0)) + (shiftOf .shr .u64 w0 (32 : Int))));
  let w1 : Int := (bitsOf .and .u64 t (4294967295 : Int));
  cond (decide (0 ≤ (32 : Int)))
  (let w2 : Int := (shiftOf .shr .u64 t (32 : Int));
  let w12 : Int := (IntKind.u64.wrap (w1 + (IntKind.u64.wrap (x0 * y1))));
  cond (decide (0 ≤ (32 : Int)))
  (let hi : Int := (IntKind.u64.wrap ((IntKind.u64.wrap ((IntKind.u64.wrap (x1 * y1)) + w2)) + (shiftOf .shr .u64 w12 (32 : Int))));
  let lo : Int := (IntKind.u64.wrap (x * y));
  k hi lo)
  none)
  none)
  none)
  none)
  none
theorem zq3a (hΓ : ΓOk Tryd.prog math_bits_Mul64_X.Γ) : SpecOk Tryd.prog 50 (zq38 (zq39)) :=
  spec_exec (X := math_bits_Mul64_X) (Λ := pick1 []) (rs := [.tmp 4, .tmp 5]) (c := bodyOf Tryd.f50) mixed tab_ok hΓ Tryd.func50 (by kernel_rfl) (by kernel_rfl) (by kernel_rfl) (by kernel_rfl) CutsOk_nil (fun x k r h => Eq.trans (b := (zq38 (zq39)).run x k) (by kernel_rfl) h)
end
theorem zq3bΓ : ΓOk Tryd.prog (pick1 []) := ΓOk_nil
def zq3c : zq37 := zq39
theorem zq3d : SpecOk Tryd.prog 50 (zq38 zq3c) := zq3a zq3bΓ

/-- pagewatch/pagewatchref02.digits -/
abbrev zq3e := {β : Type} → Int → ((List UInt8) → Option β) → Option β
def zq3f (c : zq3e) : Spec :=
  ⟨[(false, [.data (.int .u64)])], [], [(false, [.data .str])], [], fun x k => c x.1.1.1 (fun r0 => k (((r0, ()), ()), ()))⟩
section
variable (c_ref02_digits : zq3e)
@[reducible] def ref02_digits_X : Ctx := ⟨look tab, pick1 [(51, .spec (zq3f c_ref02_digits))], false, false, false⟩
def zq3g {β : Type} (n : Int) (k : ((List UInt8) → Option β)) : Option β :=
  cond (!decide ((10 : Int) = 0))
  (let l : List Int := ([(IntKind.u8.wrap (IntKind.u64.wrap ((48 : Int) + (Int.tmod n (10 : Int)))))] : List Int);
  cond (decide (n < (10 : Int)))
  (k (strOf l))
  (cond (!decide ((10 : Int) = 0))
  (c_ref02_digits (IntKind.u64.wrap (Int.tdiv n (10 : Int))) (fun (rdigits : List UInt8) =>
  cond (decide (List.length rdigits + List.length (strOf l) ≤ 9223372036854775807))
  (k (rdigits ++ (strOf l)))
  none))
  none))
  none
theorem zq3h (hΓ : ΓOk Tryd.prog (ref02_digits_X c_ref02_digits).Γ) : SpecOk Tryd.prog 51 (zq3f (zq3g c_ref02_digits)) :=
  spec_exec (X := (ref02_digits_X c_ref02_digits)) (Λ := pick1 []) (rs := [.tmp 2]) (c := bodyOf Tryd.f51) mixed tab_ok hΓ Tryd.func51 (by kernel_rfl) (by kernel_rfl) (by kernel_rfl) (by kernel_rfl) CutsOk_nil (fun x k r h => Eq.trans (b := (zq3f (zq3g c_ref02_digits)).run x k) (by kernel_rfl) h)
end
theorem zq3iΓ (me : zq3e) (hme : SpecOk Tryd.prog 51 (zq3f me)) : ΓOk Tryd.prog (pick1 [(51, .spec (zq3f me))]) := (ΓOk_cons hme ΓOk_nil)
def zq3j : Nat → zq3e
  | 0 => fun _ _ => none
  | i + 1 => zq3g (zq3j i)
theorem zq3k : ∀ i, SpecOk Tryd.prog 51 (zq3f (zq3j i))
  | 0 => SpecOk.never ⟨_, Tryd.func51, by kernel_rfl, by kernel_rfl⟩ (fun _ _ => rfl)
  | i + 1 =>
    have hme := zq3k i
    have me_ok := hme
    zq3h (zq3j i) (zq3iΓ (zq3j i) hme)
theorem zq3l {β : Type} (i : Nat) (n k) : (zq3j (i + 1) n k : Option β) = zq3g (zq3j i) n k := rfl
def zq3m : zq3e := zq3j fuel
theorem zq3n : SpecOk Tryd.prog 51 (zq3f zq3m) := zq3k fuel

/-- pagewatch/ratio.Valid -/
abbrev zq3o := {β : Type} → (Int × Int) → (Bool → Option β) → Option β
def zq3p (c : zq3o) : Spec :=
  ⟨[(true, [.data (.prod (.int .i64) (.int .i64))])], [], [(false, [.data .bool])], [], fun x k => c x.1.1.1 (fun r0 => k (((r0, ()), ()), ()))⟩
section
variable (c_ratio_gcd : zq18) (c_ratio_size : zq24) (c_ratio_within : zq1x)
@[reducible] def ratio_Valid_X : Ctx := ⟨look tab, pick1 [(33, .spec (zq19 c_ratio_gcd)), (37, .spec (zq25 c_ratio_size)), (36, .spec (zq1y c_ratio_within))], false, false, false⟩
def zq3q {β : Type} (r_ : (Int × Int)) (k : (Bool → Option β)) : Option β :=
  cond (decide ((1 : Int) ≤ r_.2))
  (cond (decide (r_.2 ≤ (4611686018427387904 : Int)))
  (c_ratio_within r_.1 (fun (rwithin : Bool) =>
  cond rwithin
  (c_ratio_size r_.1 (fun (rsize : Int) =>
  c_ratio_gcd rsize r_.2 (fun (rgcd : Int) =>
  let t : Bool := (decide (rgcd = (1 : Int)));
  k t)))
  (k false)))
  (k false))
  (k false)
theorem zq3r (hΓ : ΓOk Tryd.prog (ratio_Valid_X c_ratio_gcd c_ratio_size c_ratio_within).Γ) : SpecOk Tryd.prog 15 (zq3p (zq3q c_ratio_gcd c_ratio_size c_ratio_within)) :=
  spec_exec (X := (ratio_Valid_X c_ratio_gcd c_ratio_size c_ratio_within)) (Λ := pick1 []) (rs := [.tmp 2]) (c := bodyOf Tryd.f15) mixed tab_ok hΓ Tryd.func15 (by kernel_rfl) (by kernel_rfl) (by kernel_rfl) (by kernel_rfl) CutsOk_nil (fun x k r h => Eq.trans (b := (zq3p (zq3q c_ratio_gcd c_ratio_size c_ratio_within)).run x k) (by kernel_rfl) h)
end
theorem zq3sΓ : ΓOk Tryd.prog (pick1 [(33, .spec (zq19 zq1o)), (37, .spec (zq25 zq29)), (36, .spec (zq1y zq22))]) := (ΓOk_cons zq1p (ΓOk_cons zq2a (ΓOk_cons zq23 ΓOk_nil)))
def zq3t : zq3o := zq3q zq1o zq29 zq22
theorem zq3u : SpecOk Tryd.prog 15 (zq3p zq3t) := zq3r zq1o zq29 zq22 zq3sΓ

/-- pagewatch/pagewatchref02.Valid -/
abbrev zq3v := {β : Type} → (Int × Int) → (Bool → Option β) → Option β
def zq3w (c : zq3v) : Spec :=
  ⟨[(true, [.data (.prod (.int .i64) (.int .i64))])], [], [(false, [.data .bool])], [], fun x k => c x.1.1.1 (fun r0 => k (((r0, ()), ()), ()))⟩
section
variable (c_ref02_gcd : zq2b) (c_ref02_in : zq30) (c_ref02_size : zq2t)
@[reducible] def ref02_Valid_X : Ctx := ⟨look tab, pick1 [(40, .spec (zq2c c_ref02_gcd)), (44, .spec (zq31 c_ref02_in)), (42, .spec (zq2u c_ref02_size))], false, false, false⟩
def zq3x {β : Type} (r_ : (Int × Int)) (k : (Bool → Option β)) : Option β :=
  c_ref02_in r_.1 (fun (rin : Bool) =>
  cond rin
  (cond (decide ((1 : Int) ≤ r_.2))
  (cond (decide (r_.2 ≤ (4611686018427387904 : Int)))
  (c_ref02_size r_.1 (fun (rsize : Int) =>
  c_ref02_gcd rsize r_.2 (fun (rgcd : Int) =>
  let t : Bool := (decide (rgcd = (1 : Int)));
  k t)))
  (k false))
  (k false))
  (k false))
theorem zq3y (hΓ : ΓOk Tryd.prog (ref02_Valid_X c_ref02_gcd c_ref02_in c_ref02_size).Γ) : SpecOk Tryd.prog 25 (zq3w (zq3x c_ref02_gcd c_ref02_in c_ref02_size)) :=
  spec_exec (X := (ref02_Valid_X c_ref02_gcd c_ref02_in c_ref02_size)) (Λ := pick1 []) (rs := [.tmp 2]) (c := bodyOf Tryd.f25) mixed tab_ok hΓ Tryd.func25 (by kernel_rfl) (by kernel_rfl) (by kernel_rfl) (by kernel_rfl) CutsOk_nil (fun x k r h => Eq.trans (b := (zq3w (zq3x c_ref02_gcd c_ref02_in c_ref02_size)).run x k) (by kernel_rfl) h)
end
theorem zq3zΓ : ΓOk Tryd.prog (pick1 [(40, .spec (zq2c zq2r)), (44, .spec (zq31 zq35)), (42, .spec (zq2u zq2y))]) := (ΓOk_cons zq2s (ΓOk_cons zq36 (ΓOk_cons zq2z ΓOk_nil)))
def zq40 : zq3v := zq3x zq2r zq35 zq2y
theorem zq41 : SpecOk Tryd.prog 25 (zq3w zq40) := zq3y zq2r zq35 zq2y zq3zΓ

/-- pagewatch/ratio.New -/
abbrev zq42 := {β : Type} → Int → Int → ((Int × Int) → Int → Option β) → Option β
def zq43 (c : zq42) : Spec :=
  ⟨[(false, [.data (.int .i64)]), (false, [.data (.int .i64)])], [], [(true, [.data (.prod (.int .i64) (.int .i64))]), (false, [.data (.int .i64)])], [], fun x k => c x.1.1.1 x.1.2.1.1 (fun r0 r1 => k (((r0, ()), (r1, ()), ()), ()))⟩
section
variable (c_ratio_gcd : zq18) (c_ratio_size : zq24) (c_ratio_within : zq1x)
@[reducible] def ratio_New_X : Ctx := ⟨look tab, pick1 [(33, .spec (zq19 c_ratio_gcd)), (37, .spec (zq25 c_ratio_size)), (36, .spec (zq1y c_ratio_within))], false, false, false⟩
def zq44 {β : Type} (num : Int) (den : Int) (k : ((Int × Int) → Int → Option β)) : Option β :=
  cond (decide (den < (1 : Int)))
  (k ((0 : Int), (0 : Int)) (1 : Int))
  (cond (decide ((4611686018427387904 : Int) < den))
  (k ((0 : Int), (0 : Int)) (1 : Int))
  (c_ratio_within num (fun (rwithin : Bool) =>
  cond (!rwithin)
  (k ((0 : Int), (0 : Int)) (1 : Int))
  (c_ratio_size num (fun (rsize : Int) =>
  c_ratio_gcd rsize den (fun (rgcd : Int) =>
  cond (!decide (rgcd = 0))
  (cond (!decide (rgcd = 0))
  (k ((IntKind.i64.wrap (Int.tdiv num rgcd)), (IntKind.i64.wrap (Int.tdiv den rgcd))) (0 : Int))
  none)
  none))))))
theorem zq45 (hΓ : ΓOk Tryd.prog (ratio_New_X c_ratio_gcd c_ratio_size c_ratio_within).Γ) : SpecOk Tryd.prog 27 (zq43 (zq44 c_ratio_gcd c_ratio_size c_ratio_within)) :=
  spec_exec (X := (ratio_New_X c_ratio_gcd c_ratio_size c_ratio_within)) (Λ := pick1 []) (rs := [.cell 4 24, .tmp 5]) (c := bodyOf Tryd.f27) mixed tab_ok hΓ Tryd.func27 (by kernel_rfl) (by kernel_rfl) (by kernel_rfl) (by kernel_rfl) CutsOk_nil (fun x k r h => Eq.trans (b := (zq43 (zq44 c_ratio_gcd c_ratio_size c_ratio_within)).run x k) (by kernel_rfl) h)
end
theorem zq46Γ : ΓOk Tryd.prog (pick1 [(33, .spec (zq19 zq1o)), (37, .spec (zq25 zq29)), (36, .spec (zq1y zq22))]) := (ΓOk_cons zq1p (ΓOk_cons zq2a (ΓOk_cons zq23 ΓOk_nil)))
def zq47 : zq42 := zq44 zq1o zq29 zq22
theorem zq48 : SpecOk Tryd.prog 27 (zq43 zq47) := zq45 zq1o zq29 zq22 zq46Γ

/-- pagewatch/pagewatchref02.New -/
abbrev zq49 := {β : Type} → Int → Int → ((Int × Int) → Int → Option β) → Option β
def zq4a (c : zq49) : Spec :=
  ⟨[(false, [.data (.int .i64)]), (false, [.data (.int .i64)])], [], [(true, [.data (.prod (.int .i64) (.int .i64))]), (false, [.data (.int .i64)])], [], fun x k => c x.1.1.1 x.1.2.1.1 (fun r0 r1 => k (((r0, ()), (r1, ()), ()), ()))⟩
section
variable (c_ref02_gcd : zq2b) (c_ref02_in : zq30) (c_ref02_size : zq2t)
@[reducible] def ref02_New_X : Ctx := ⟨look tab, pick1 [(40, .spec (zq2c c_ref02_gcd)), (44, .spec (zq31 c_ref02_in)), (42, .spec (zq2u c_ref02_size))], false, false, false⟩
def zq4b {β : Type} (num : Int) (den : Int) (k : ((Int × Int) → Int → Option β)) : Option β :=
  c_ref02_in num (fun (rin : Bool) =>
  cond (!rin)
  (k ((0 : Int), (0 : Int)) (1 : Int))
  (cond (decide (den < (1 : Int)))
  (k ((0 : Int), (0 : Int)) (1 : Int))
  (cond (decide ((4611686018427387904 : Int) < den))
  (k ((0 : Int), (0 : Int)) (1 : Int))
  (c_ref02_size num (fun (rsize : Int) =>
  c_ref02_gcd rsize den (fun (rgcd : Int) =>
  cond (!decide (rgcd = 0))
  (cond (!decide (rgcd = 0))
  (k ((IntKind.i64.wrap (Int.tdiv num rgcd)), (IntKind.i64.wrap (Int.tdiv den rgcd))) (0 : Int))
  none)
  none))))))
theorem zq4c (hΓ : ΓOk Tryd.prog (ref02_New_X c_ref02_gcd c_ref02_in c_ref02_size).Γ) : SpecOk Tryd.prog 28 (zq4a (zq4b c_ref02_gcd c_ref02_in c_ref02_size)) :=
  spec_exec (X := (ref02_New_X c_ref02_gcd c_ref02_in c_ref02_size)) (Λ := pick1 []) (rs := [.cell 4 24, .tmp 5]) (c := bodyOf Tryd.f28) mixed tab_ok hΓ Tryd.func28 (by kernel_rfl) (by kernel_rfl) (by kernel_rfl) (by kernel_rfl) CutsOk_nil (fun x k r h => Eq.trans (b := (zq4a (zq4b c_ref02_gcd c_ref02_in c_ref02_size)).run x k) (by kernel_rfl) h)
end
theorem zq4dΓ : ΓOk Tryd.prog (pick1 [(40, .spec (zq2c zq2r)), (44, .spec (zq31 zq35)), (42, .spec (zq2u zq2y))]) := (ΓOk_cons zq2s (ΓOk_cons zq36 (ΓOk_cons zq2z ΓOk_nil)))
def zq4e : zq49 := zq4b zq2r zq35 zq2y
theorem zq4f : SpecOk Tryd.prog 28 (zq4a zq4e) := zq4c zq2r zq35 zq2y zq4dΓ

/-- pagewatch/ratio.times -/
abbrev zq4g := {β : Type} → Int → Int → (Int → Bool → Option β) → Option β
def zq4h (c : zq4g) : Spec :=
  ⟨[(false, [.data (.int .i64)]), (false, [.data (.int .i64)])], [], [(false, [.data (.int .i64)]), (false, [.data .bool])], [], fun x k => c x.1.1.1 x.1.2.1.1 (fun r0 r1 => k (((r0, ()), (r1, ()), ()), ()))⟩
section
variable (c_math_bits_Mul64 : zq37) (c_ratio_size : zq24)
@[reducible] def ratio_times_X : Ctx := ⟨look tab, pick1 [(50, .spec (zq38 c_math_bits_Mul64)), (37, .spec (zq25 c_ratio_size))], false, false, false⟩
def zq4i {β : Type} (a : Int) (b : Int) (k : (Int → Bool → Option β)) : Option β :=
  c_ratio_size a (fun (rsize : Int) =>
  c_ratio_size b (fun (rsize2 : Int) =>
  c_math_bits_Mul64 (IntKind.u64.wrap rsize) (IntKind.u64.wrap rsize2) (fun (rMul64 : Int) (rMul642 : Int) =>
  cond (!decide (rMul64 = (0 : Int)))
  (k (0 : Int) false)
  (cond (decide ((4611686018427387904 : Int) < rMul642))
  (k (0 : Int) false)
  (cond (!((decide (a < (0 : Int))) == (decide (b < (0 : Int)))))
  (let t : Int := (IntKind.i64.wrap (0 - (IntKind.i64.wrap rMul642)));
  k t true)
  (let t : Int := (IntKind.i64.wrap rMul642);
  k t true))))))
theorem zq4j (hΓ : ΓOk Tryd.prog (ratio_times_X c_math_bits_Mul64 c_ratio_size).Γ) : SpecOk Tryd.prog 34 (zq4h (zq4i c_math_bits_Mul64 c_ratio_size)) :=
  spec_exec (X := (ratio_times_X c_math_bits_Mul64 c_ratio_size)) (Λ := pick1 []) (rs := [.tmp 4, .tmp 5]) (c := bodyOf Tryd.f34) mixed tab_ok hΓ Tryd.func34 (by kernel_rfl) (by kernel_rfl) (by kernel_rfl) (by kernel_rfl) CutsOk_nil (fun x k r h => Eq.trans (b := (zq4h (zq4i c_math_bits_Mul64 c_ratio_size)).run x k) (by kernel_rfl) h)
end
theorem zq4kΓ : ΓOk Tryd.prog (pick1 [(50, .spec (zq38 zq3c)), (37, .spec (zq25 zq29))]) := (ΓOk_cons zq3d (ΓOk_cons zq2a ΓOk_nil))
def zq4l : zq4g := zq4i zq3c zq29
theorem zq4m : SpecOk Tryd.prog 34 (zq4h zq4l) := zq4j zq3c zq29 zq4kΓ

/-- pagewatch/ratio.product -/
abbrev zq4n := {β : Type} → (Int × Int) → (Int × Int) → ((Int × Int) → Int → Option β) → Option β
def zq4o (c : zq4n) : Spec :=
  ⟨[(true, [.data (.prod (.int .i64) (.int .i64))]), (true, [.data (.prod (.int .i64) (.int .i64))])], [], [(true, [.data (.prod (.int .i64) (.int .i64))]), (false, [.data (.int .i64)])], [], fun x k => c x.1.1.1 x.1.2.1.1 (fun r0 r1 => k (((r0, ()), (r1, ()), ()), ()))⟩
section
variable (c_ratio_gcd : zq18) (c_ratio_size : zq24) (c_ratio_times : zq4g)
@[reducible] def ratio_product_X : Ctx := ⟨look tab, pick1 [(33, .spec (zq19 c_ratio_gcd)), (37, .spec (zq25 c_ratio_size)), (34, .spec (zq4h c_ratio_times))], false, false, false⟩
def zq4p {β : Type} (a : (Int × Int)) (b : (Int × Int)) (k : ((Int × Int) → Int → Option β)) : Option β :=
  c_ratio_size a.1 (fun (rsize : Int) =>
  c_ratio_gcd rsize b.2 (fun (rgcd : Int) =>
  c_ratio_size b.1 (fun (rsize2 : Int) =>
  c_ratio_gcd rsize2 a.2 (fun (rgcd2 : Int) =>
  cond (!decide (rgcd = 0))
  (cond (!decide (rgcd2 = 0))
  (c_ratio_times (IntKind.i64.wrap (Int.tdiv a.1 rgcd)) (IntKind.i64.wrap (Int.tdiv b.1 rgcd2)) (fun (rtimes : Int) (rtimes2 : Bool) =>
  cond (!decide (rgcd2 = 0))
  (cond (!decide (rgcd = 0))
  (c_ratio_times (IntKind.i64.wrap (Int.tdiv a.2 rgcd2)) (IntKind.i64.wrap (Int.tdiv b.2 rgcd)) (fun (rtimes3 : Int) (rtimes4 : Bool) =>
  cond (!rtimes2)
  (k ((0 : Int), (0 : Int)) (5 : Int))
  (cond (!rtimes4)
  (k ((0 : Int), (0 : Int)) (5 : Int))
  (k (rtimes, rtimes3) (0 : Int)))))
  none)
  none))
  none)
  none))))
theorem zq4q (hΓ : ΓOk Tryd.prog (ratio_product_X c_ratio_gcd c_ratio_size c_ratio_times).Γ) : SpecOk Tryd.prog 38 (zq4o (zq4p c_ratio_gcd c_ratio_size c_ratio_times)) :=
  spec_exec (X := (ratio_product_X c_ratio_gcd c_ratio_size c_ratio_times)) (Λ := pick1 []) (rs := [.cell 4 24, .tmp 5]) (c := bodyOf Tryd.f38) mixed tab_ok hΓ Tryd.func38 (by kernel_rfl) (by kernel_rfl) (by kernel_rfl) (by kernel_rfl) CutsOk_nil (fun x k r h => Eq.trans (b := (zq4o (zq4p c_ratio_gcd c_ratio_size c_ratio_times)).run x k) (by kernel_rfl) h)
end
theorem zq4rΓ : ΓOk Tryd.prog (pick1 [(33, .spec (zq19 zq1o)), (37, .spec (zq25 zq29)), (34, .spec (zq4h zq4l))]) := (ΓOk_cons zq1p (ΓOk_cons zq2a (ΓOk_cons zq4m ΓOk_nil)))
def zq4s : zq4n := zq4p zq1o zq29 zq4l
theorem zq4t : SpecOk Tryd.prog 38 (zq4o zq4s) := zq4q zq1o zq29 zq4l zq4rΓ

/-- pagewatch/pagewatchref02.Decimal -/
abbrev zq4u := {β : Type} → Int → ((List UInt8) → Option β) → Option β
def zq4v (c : zq4u) : Spec :=
  ⟨[(false, [.data (.int .i64)])], [], [(false, [.data .str])], [], fun x k => c x.1.1.1 (fun r0 => k (((r0, ()), ()), ()))⟩
section
variable (c_ref02_digits : zq3e)
@[reducible] def ref02_Decimal_X : Ctx := ⟨look tab, pick1 [(51, .spec (zq3f c_ref02_digits))], false, false, false⟩
def zq4w {β : Type} (n : Int) (k : ((List UInt8) → Option β)) : Option β :=
  cond (decide (n < (0 : Int)))
  (c_ref02_digits (IntKind.u64.wrap ((IntKind.u64.wrap (IntKind.i64.wrap (0 - (IntKind.i64.wrap (n + (1 : Int)))))) + (1 : Int))) (fun (rdigits : List UInt8) =>
  cond (decide (List.length ([45] : List UInt8) + List.length rdigits ≤ 9223372036854775807))
  (let t : List UInt8 := (([45] : List UInt8) ++ rdigits);
  k t)
  none))
  (c_ref02_digits (IntKind.u64.wrap n) (fun (rdigits : List UInt8) =>
  k rdigits))
theorem zq4x (hΓ : ΓOk Tryd.prog (ref02_Decimal_X c_ref02_digits).Γ) : SpecOk Tryd.prog 45 (zq4v (zq4w c_ref02_digits)) :=
  spec_exec (X := (ref02_Decimal_X c_ref02_digits)) (Λ := pick1 []) (rs := [.tmp 2]) (c := bodyOf Tryd.f45) mixed tab_ok hΓ Tryd.func45 (by kernel_rfl) (by kernel_rfl) (by kernel_rfl) (by kernel_rfl) CutsOk_nil (fun x k r h => Eq.trans (b := (zq4v (zq4w c_ref02_digits)).run x k) (by kernel_rfl) h)
end
theorem zq4yΓ : ΓOk Tryd.prog (pick1 [(51, .spec (zq3f zq3m))]) := (ΓOk_cons zq3n ΓOk_nil)
def zq4z : zq4u := zq4w zq3m
theorem zq50 : SpecOk Tryd.prog 45 (zq4v zq4z) := zq4x zq3m zq4yΓ

/-- pagewatch/pagewatchlaw02.draw -/
abbrev zq51 := {β : Type} → Int → Int → ((Int × Int) → Option β) → Option β
def zq52 (c : zq51) : Spec :=
  ⟨[(false, [.data (.int .i64)]), (false, [.data (.int .i64)])], [], [(true, [.data (.prod (.int .i64) (.int .i64))])], [], fun x k => c x.1.1.1 x.1.2.1.1 (fun r0 => k (((r0, ()), ()), ()))⟩
section
variable (c_made_Mod : zq0) (c_ref02_New : zq49)
@[reducible] def law02_draw_X : Ctx := ⟨look tab, pick1 [(18, .spec (zq1 c_made_Mod)), (28, .spec (zq4a c_ref02_New))], false, false, false⟩
def zq53 {β : Type} (n : Int) (d : Int) (k : ((Int × Int) → Option β)) : Option β :=
  c_made_Mod n (5 : Int) (fun (rMod : Int) =>
  let t : Bool := (decide (rMod = (0 : Int)));
  cond t
  (c_made_Mod d (9 : Int) (fun (rMod2 : Int) =>
  c_made_Mod n (7 : Int) (fun (rMod3 : Int) =>
  c_ref02_New (IntKind.i64.wrap ((4611686018427387904 : Int) - rMod2)) (IntKind.i64.wrap ((1 : Int) + rMod3)) (fun (rNew : (Int × Int)) (rNew2 : Int) =>
  k rNew))))
  (let t2 : Bool := (decide (rMod = (1 : Int)));
  cond t2
  (c_made_Mod n (99 : Int) (fun (rMod2 : Int) =>
  c_made_Mod d (9 : Int) (fun (rMod3 : Int) =>
  c_ref02_New (IntKind.i64.wrap (rMod2 - (49 : Int))) (IntKind.i64.wrap ((4611686018427387904 : Int) - rMod3)) (fun (rNew : (Int × Int)) (rNew2 : Int) =>
  k rNew))))
  (c_made_Mod n (201 : Int) (fun (rMod2 : Int) =>
  c_made_Mod d (60 : Int) (fun (rMod3 : Int) =>
  c_ref02_New (IntKind.i64.wrap (rMod2 - (100 : Int))) (IntKind.i64.wrap ((1 : Int) + rMod3)) (fun (rNew : (Int × Int)) (rNew2 : Int) =>
  k rNew))))))
theorem zq54 (hΓ : ΓOk Tryd.prog (law02_draw_X c_made_Mod c_ref02_New).Γ) : SpecOk Tryd.prog 9 (zq52 (zq53 c_made_Mod c_ref02_New)) :=
  spec_exec (X := (law02_draw_X c_made_Mod c_ref02_New)) (Λ := pick1 []) (rs := [.cell 4 24]) (c := bodyOf Tryd.f9) mixed tab_ok hΓ Tryd.func9 (by kernel_rfl) (by kernel_rfl) (by kernel_rfl) (by kernel_rfl) CutsOk_nil (fun x k r h => Eq.trans (b := (zq52 (zq53 c_made_Mod c_ref02_New)).run x k) (by kernel_rfl) h)
end
theorem zq55Γ : ΓOk Tryd.prog (pick1 [(18, .spec (zq1 zq5)), (28, .spec (zq4a zq4e))]) := (ΓOk_cons zq6 (ΓOk_cons zq4f ΓOk_nil))
def zq56 : zq51 := zq53 zq5 zq4e
theorem zq57 : SpecOk Tryd.prog 9 (zq52 zq56) := zq54 zq5 zq4e zq55Γ

/-- pagewatch/ratio.Text -/
abbrev zq58 := {β : Type} → (Int × Int) → ((List UInt8) → Option β) → Option β
def zq59 (c : zq58) : Spec :=
  ⟨[(true, [.data (.prod (.int .i64) (.int .i64))])], [], [(false, [.data .str])], [], fun x k => c x.1.1.1 (fun r0 => k (((r0, ()), ()), ()))⟩
section
variable (c_ratio_Valid : zq3o) (c_strconv_Itoa : zq9)
@[reducible] def ratio_Text_X : Ctx := ⟨look tab, pick1 [(15, .spec (zq3p c_ratio_Valid)), (29, .spec (zqa c_strconv_Itoa))], false, false, false⟩
def zq5a {β : Type} (r_ : (Int × Int)) (k : ((List UInt8) → Option β)) : Option β :=
  c_ratio_Valid r_ (fun (rValid : Bool) =>
  cond (!rValid)
  (k ([] : List UInt8))
  (let t : Bool := (decide (r_.2 = (1 : Int)));
  cond t
  (c_strconv_Itoa r_.1 (fun (rItoa : List UInt8) =>
  k rItoa))
  (c_strconv_Itoa r_.1 (fun (rItoa : List UInt8) =>
  cond (decide (List.length rItoa + List.length ([47] : List UInt8) ≤ 9223372036854775807))
  (c_strconv_Itoa r_.2 (fun (rItoa2 : List UInt8) =>
  cond (decide (List.length (rItoa ++ ([47] : List UInt8)) + List.length rItoa2 ≤ 9223372036854775807))
  (let t2 : List UInt8 := ((rItoa ++ ([47] : List UInt8)) ++ rItoa2);
  k t2)
  none))
  none))))
theorem zq5b (hΓ : ΓOk Tryd.prog (ratio_Text_X c_ratio_Valid c_strconv_Itoa).Γ) : SpecOk Tryd.prog 10 (zq59 (zq5a c_ratio_Valid c_strconv_Itoa)) :=
  spec_exec (X := (ratio_Text_X c_ratio_Valid c_strconv_Itoa)) (Λ := pick1 []) (rs := [.tmp 2]) (c := bodyOf Tryd.f10) mixed tab_ok hΓ Tryd.func10 (by kernel_rfl) (by kernel_rfl) (by kernel_rfl) (by kernel_rfl) CutsOk_nil (fun x k r h => Eq.trans (b := (zq59 (zq5a c_ratio_Valid c_strconv_Itoa)).run x k) (by kernel_rfl) h)
end
theorem zq5cΓ : ΓOk Tryd.prog (pick1 [(15, .spec (zq3p zq3t)), (29, .spec (zqa zqb))]) := (ΓOk_cons zq3u (ΓOk_cons zqc ΓOk_nil))
def zq5d : zq58 := zq5a zq3t zqb
theorem zq5e : SpecOk Tryd.prog 10 (zq59 zq5d) := zq5b zq3t zqb zq5cΓ

/-- pagewatch/ratio.Parse -/
abbrev zq5f := {β : Type} → (List UInt8) → ((Int × Int) → Int → Option β) → Option β
def zq5g (c : zq5f) : Spec :=
  ⟨[(false, [.data .str])], [], [(true, [.data (.prod (.int .i64) (.int .i64))]), (false, [.data (.int .i64)])], [], fun x k => c x.1.1.1 (fun r0 r1 => k (((r0, ()), (r1, ()), ()), ()))⟩
noncomputable def ratio_Parse_p1_code : Code := codeAt 127 (bodyOf Tryd.f11)
abbrev zq5h (β : Type) := Int → Int → Int → Option β
abbrev zq5i := {β : Type} → zq5h β → (List UInt8) → Bool → Bool → Int → Int → Int → Int → Option β
def zq5j : View := ⟨0, [0, 2, 7, 8, 9], [(false, [.data .str]), (false, [.ptr 0 0]), (false, [.ptr 1 0]), (false, [.data .err]), (false, [.data .err])], [.cells 24 [.data (.int .i64), .data (.int .i64)], .cells 24 [.data (.int .i64), .data (.int .i64)]]⟩
def zq5k : List (AExit × View) := [(.ret, ⟨0, [2, 3], [(false, [.ptr 0 0]), (false, [.data (.int .i64)])], [.cells 24 [.data (.int .i64), .data (.int .i64)]]⟩)]
@[reducible] def ratio_Parse_p1_G (p : zq5i) {β : Type} (d : zq5j.den) (ks : Outs.K β zq5k) : Option β :=
  p (fun a0 a1 a2 => ks.1 (((), (a0, ()), ()), ((a1, a2, ()), ()))) d.1.1.1 d.1.2.2.2.1.1 d.1.2.2.2.2.1.1 d.2.1.1 d.2.1.2.1 d.2.2.1.1 d.2.2.1.2.1
section
variable (c_ratio_Text : zq58) (c_strconv_Atoi : zql) (c_strings_Cut : zqf)
@[reducible] def ratio_Parse_X : Ctx := ⟨look tab, pick1 [(10, .spec (zq59 c_ratio_Text)), (31, .spec (zqm c_strconv_Atoi)), (30, .spec (zqg c_strings_Cut))], false, false, false⟩
def zq5l {β : Type} (k1 : zq5h β) (text : List UInt8) (e : Bool) (f : Bool) (t2 : Int) (t22 : Int) (r_ : Int) (r_2 : Int) : Option β :=
  cond (!e)
  (k1 (2 : Int) (0 : Int) (0 : Int))
  (cond (!f)
  (k1 (2 : Int) (0 : Int) (0 : Int))
  (cond (decide (text = ([] : List UInt8)))
  (k1 (2 : Int) (0 : Int) (0 : Int))
  (c_ratio_Text (r_, r_2) (fun (rText : List UInt8) =>
  cond (!decide (rText = text))
  (k1 (2 : Int) (0 : Int) (0 : Int))
  (k1 (0 : Int) r_ r_2)))))
def zq5m {β : Type} (k1 : zq5h β) (text : List UInt8) (e : Bool) (f : Bool) (t2 : Int) (t22 : Int) (r_ : Int) (r_2 : Int) : Option β := zq5l c_ratio_Text k1 text e f t2 t22 r_ r_2
theorem zq5n (hΓ : ΓOk Tryd.prog (ratio_Parse_X c_ratio_Text c_strconv_Atoi c_strings_Cut).Γ) : PieceOk Tryd.prog 48 0 ratio_Parse_p1_code zq5j zq5k (ratio_Parse_p1_G (zq5m c_ratio_Text)) :=
  piece_exec (X := (ratio_Parse_X c_ratio_Text c_strconv_Atoi c_strings_Cut)) (p := 127) (Λ := pick1 []) mixed tab_ok hΓ (by kernel_rfl) CutsOk_nil (fun d ks r h => Eq.trans (b := ratio_Parse_p1_G (zq5m c_ratio_Text) d ks) (by kernel_rfl) h)
def zq5o (p1 : zq5i) {β : Type} (text : List UInt8) (k : ((Int × Int) → Int → Option β)) : Option β :=
  c_strings_Cut text ([47] : List UInt8) (fun (rCut : List UInt8) (rCut2 : List UInt8) (rCut3 : Bool) =>
  c_strconv_Atoi rCut (fun (rAtoi : Int) (rAtoi2 : Bool) =>
  cond rCut3
  (c_strconv_Atoi rCut2 (fun (rAtoi3 : Int) (rAtoi4 : Bool) =>
  p1 (fun (t3 : Int) (t2 : Int) (t22 : Int) =>
  k (t2, t22) t3) text rAtoi2 rAtoi4 (0 : Int) (0 : Int) rAtoi rAtoi3))
  (p1 (fun (t3 : Int) (t2 : Int) (t22 : Int) =>
  k (t2, t22) t3) text rAtoi2 true (0 : Int) (0 : Int) rAtoi (1 : Int))))
theorem zq5p (hΓ : ΓOk Tryd.prog (ratio_Parse_X c_ratio_Text c_strconv_Atoi c_strings_Cut).Γ) (p1 : zq5i) (hp1 : PieceOk Tryd.prog 48 0 ratio_Parse_p1_code zq5j zq5k (ratio_Parse_p1_G p1)) : SpecOk Tryd.prog 11 (zq5g (zq5o c_strconv_Atoi c_strings_Cut p1)) :=
  spec_exec (X := (ratio_Parse_X c_ratio_Text c_strconv_Atoi c_strings_Cut)) (Λ := pick1 [(127, pieceCut zq5j zq5k (ratio_Parse_p1_G p1))]) (rs := [.cell 2 24, .tmp 3]) (c := bodyOf Tryd.f11) mixed tab_ok hΓ Tryd.func11 (by kernel_rfl) (by kernel_rfl) (by kernel_rfl) (by kernel_rfl) (CutsOk_cons (q := 127) (c' := ratio_Parse_p1_code) (by kernel_rfl) rfl hp1 CutsOk_nil) (fun x k r h => Eq.trans (b := (zq5g (zq5o c_strconv_Atoi c_strings_Cut p1)).run x k) (by kernel_rfl) h)
end
theorem zq5qΓ : ΓOk Tryd.prog (pick1 [(10, .spec (zq59 zq5d)), (31, .spec (zqm zqn)), (30, .spec (zqg zqh))]) := (ΓOk_cons zq5e (ΓOk_cons zqo (ΓOk_cons zqi ΓOk_nil)))
def zq5r : zq5i := zq5m zq5d
theorem zq5s : PieceOk Tryd.prog 48 0 ratio_Parse_p1_code zq5j zq5k (ratio_Parse_p1_G zq5r) := zq5n zq5d zqn zqh zq5qΓ
def zq5t : zq5f := zq5o zqn zqh zq5r
theorem zq5u : SpecOk Tryd.prog 11 (zq5g zq5t) := zq5p zq5d zqn zqh zq5qΓ zq5r zq5s

/-- pagewatch/ratio.Add -/
abbrev zq5v := {β : Type} → (Int × Int) → (Int × Int) → ((Int × Int) → Int → Option β) → Option β
def zq5w (c : zq5v) : Spec :=
  ⟨[(true, [.data (.prod (.int .i64) (.int .i64))]), (true, [.data (.prod (.int .i64) (.int .i64))])], [], [(true, [.data (.prod (.int .i64) (.int .i64))]), (false, [.data (.int .i64)])], [], fun x k => c x.1.1.1 x.1.2.1.1 (fun r0 r1 => k (((r0, ()), (r1, ()), ()), ()))⟩
section
variable (c_ratio_New : zq42) (c_ratio_Valid : zq3o) (c_ratio_gcd : zq18) (c_ratio_plus : zq1q) (c_ratio_times : zq4g)
@[reducible] def ratio_Add_X : Ctx := ⟨look tab, pick1 [(27, .spec (zq43 c_ratio_New)), (15, .spec (zq3p c_ratio_Valid)), (33, .spec (zq19 c_ratio_gcd)), (35, .spec (zq1r c_ratio_plus)), (34, .spec (zq4h c_ratio_times))], false, false, false⟩
def zq5x {β : Type} (a : (Int × Int)) (b : (Int × Int)) (k : ((Int × Int) → Int → Option β)) : Option β :=
  c_ratio_Valid a (fun (rValid : Bool) =>
  cond (!rValid)
  (k ((0 : Int), (0 : Int)) (8 : Int))
  (c_ratio_Valid b (fun (rValid2 : Bool) =>
  cond (!rValid2)
  (k ((0 : Int), (0 : Int)) (8 : Int))
  (c_ratio_gcd a.2 b.2 (fun (rgcd : Int) =>
  cond (!decide (rgcd = 0))
  (c_ratio_times a.1 (IntKind.i64.wrap (Int.tdiv b.2 rgcd)) (fun (rtimes : Int) (rtimes2 : Bool) =>
  cond (!decide (rgcd = 0))
  (c_ratio_times b.1 (IntKind.i64.wrap (Int.tdiv a.2 rgcd)) (fun (rtimes3 : Int) (rtimes4 : Bool) =>
  cond (!decide (rgcd = 0))
  (c_ratio_times (IntKind.i64.wrap (Int.tdiv a.2 rgcd)) b.2 (fun (rtimes5 : Int) (rtimes6 : Bool) =>
  cond (!rtimes2)
  (k ((0 : Int), (0 : Int)) (5 : Int))
  (cond (!rtimes4)
  (k ((0 : Int), (0 : Int)) (5 : Int))
  (cond (!rtimes6)
  (k ((0 : Int), (0 : Int)) (5 : Int))
  (c_ratio_plus rtimes rtimes3 (fun (rplus : Int) (rplus2 : Bool) =>
  cond (!rplus2)
  (k ((0 : Int), (0 : Int)) (5 : Int))
  (c_ratio_New rplus rtimes5 (fun (rNew : (Int × Int)) (rNew2 : Int) =>
  k rNew rNew2))))))))
  none))
  none))
  none)))))
theorem zq5y (hΓ : ΓOk Tryd.prog (ratio_Add_X c_ratio_New c_ratio_Valid c_ratio_gcd c_ratio_plus c_ratio_times).Γ) : SpecOk Tryd.prog 13 (zq5w (zq5x c_ratio_New c_ratio_Valid c_ratio_gcd c_ratio_plus c_ratio_times)) :=
  spec_exec (X := (ratio_Add_X c_ratio_New c_ratio_Valid c_ratio_gcd c_ratio_plus c_ratio_times)) (Λ := pick1 []) (rs := [.cell 4 24, .tmp 5]) (c := bodyOf Tryd.f13) mixed tab_ok hΓ Tryd.func13 (by kernel_rfl) (by kernel_rfl) (by kernel_rfl) (by kernel_rfl) CutsOk_nil (fun x k r h => Eq.trans (b := (zq5w (zq5x c_ratio_New c_ratio_Valid c_ratio_gcd c_ratio_plus c_ratio_times)).run x k) (by kernel_rfl) h)
end
theorem zq5zΓ : ΓOk Tryd.prog (pick1 [(27, .spec (zq43 zq47)), (15, .spec (zq3p zq3t)), (33, .spec (zq19 zq1o)), (35, .spec (zq1r zq1v)), (34, .spec (zq4h zq4l))]) := (ΓOk_cons zq48 (ΓOk_cons zq3u (ΓOk_cons zq1p (ΓOk_cons zq1w (ΓOk_cons zq4m ΓOk_nil)))))
def zq60 : zq5v := zq5x zq47 zq3t zq1o zq1v zq4l
theorem zq61 : SpecOk Tryd.prog 13 (zq5w zq60) := zq5y zq47 zq3t zq1o zq1v zq4l zq5zΓ

/-- pagewatch/ratio.Mul -/
abbrev zq62 := {β : Type} → (Int × Int) → (Int × Int) → ((Int × Int) → Int → Option β) → Option β
def zq63 (c : zq62) : Spec :=
  ⟨[(true, [.data (.prod (.int .i64) (.int .i64))]), (true, [.data (.prod (.int .i64) (.int .i64))])], [], [(true, [.data (.prod (.int .i64) (.int .i64))]), (false, [.data (.int .i64)])], [], fun x k => c x.1.1.1 x.1.2.1.1 (fun r0 r1 => k (((r0, ()), (r1, ()), ()), ()))⟩
section
variable (c_ratio_Valid : zq3o) (c_ratio_product : zq4n)
@[reducible] def ratio_Mul_X : Ctx := ⟨look tab, pick1 [(15, .spec (zq3p c_ratio_Valid)), (38, .spec (zq4o c_ratio_product))], false, false, false⟩
def zq64 {β : Type} (a : (Int × Int)) (b : (Int × Int)) (k : ((Int × Int) → Int → Option β)) : Option β :=
  c_ratio_Valid a (fun (rValid : Bool) =>
  cond (!rValid)
  (k ((0 : Int), (0 : Int)) (8 : Int))
  (c_ratio_Valid b (fun (rValid2 : Bool) =>
  cond (!rValid2)
  (k ((0 : Int), (0 : Int)) (8 : Int))
  (c_ratio_product a b (fun (rproduct : (Int × Int)) (rproduct2 : Int) =>
  k rproduct rproduct2)))))
theorem zq65 (hΓ : ΓOk Tryd.prog (ratio_Mul_X c_ratio_Valid c_ratio_product).Γ) : SpecOk Tryd.prog 16 (zq63 (zq64 c_ratio_Valid c_ratio_product)) :=
  spec_exec (X := (ratio_Mul_X c_ratio_Valid c_ratio_product)) (Λ := pick1 []) (rs := [.cell 4 24, .tmp 5]) (c := bodyOf Tryd.f16) mixed tab_ok hΓ Tryd.func16 (by kernel_rfl) (by kernel_rfl) (by kernel_rfl) (by kernel_rfl) CutsOk_nil (fun x k r h => Eq.trans (b := (zq63 (zq64 c_ratio_Valid c_ratio_product)).run x k) (by kernel_rfl) h)
end
theorem zq66Γ : ΓOk Tryd.prog (pick1 [(15, .spec (zq3p zq3t)), (38, .spec (zq4o zq4s))]) := (ΓOk_cons zq3u (ΓOk_cons zq4t ΓOk_nil))
def zq67 : zq62 := zq64 zq3t zq4s
theorem zq68 : SpecOk Tryd.prog 16 (zq63 zq67) := zq65 zq3t zq4s zq66Γ

/-- pagewatch/pagewatchref02.Text -/
abbrev zq69 := {β : Type} → (Int × Int) → ((List UInt8) → Option β) → Option β
def zq6a (c : zq69) : Spec :=
  ⟨[(true, [.data (.prod (.int .i64) (.int .i64))])], [], [(false, [.data .str])], [], fun x k => c x.1.1.1 (fun r0 => k (((r0, ()), ()), ()))⟩
section
variable (c_ref02_Decimal : zq4u) (c_ref02_Valid : zq3v)
@[reducible] def ref02_Text_X : Ctx := ⟨look tab, pick1 [(45, .spec (zq4v c_ref02_Decimal)), (25, .spec (zq3w c_ref02_Valid))], false, false, false⟩
def zq6b {β : Type} (r_ : (Int × Int)) (k : ((List UInt8) → Option β)) : Option β :=
  c_ref02_Valid r_ (fun (rValid : Bool) =>
  cond (!rValid)
  (k ([] : List UInt8))
  (let t : Bool := (decide (r_.2 = (1 : Int)));
  cond t
  (c_ref02_Decimal r_.1 (fun (rDecimal : List UInt8) =>
  k rDecimal))
  (c_ref02_Decimal r_.1 (fun (rDecimal : List UInt8) =>
  cond (decide (List.length rDecimal + List.length ([47] : List UInt8) ≤ 9223372036854775807))
  (c_ref02_Decimal r_.2 (fun (rDecimal2 : List UInt8) =>
  cond (decide (List.length (rDecimal ++ ([47] : List UInt8)) + List.length rDecimal2 ≤ 9223372036854775807))
  (let t2 : List UInt8 := ((rDecimal ++ ([47] : List UInt8)) ++ rDecimal2);
  k t2)
  none))
  none))))
theorem zq6c (hΓ : ΓOk Tryd.prog (ref02_Text_X c_ref02_Decimal c_ref02_Valid).Γ) : SpecOk Tryd.prog 26 (zq6a (zq6b c_ref02_Decimal c_ref02_Valid)) :=
  spec_exec (X := (ref02_Text_X c_ref02_Decimal c_ref02_Valid)) (Λ := pick1 []) (rs := [.tmp 2]) (c := bodyOf Tryd.f26) mixed tab_ok hΓ Tryd.func26 (by kernel_rfl) (by kernel_rfl) (by kernel_rfl) (by kernel_rfl) CutsOk_nil (fun x k r h => Eq.trans (b := (zq6a (zq6b c_ref02_Decimal c_ref02_Valid)).run x k) (by kernel_rfl) h)
end
theorem zq6dΓ : ΓOk Tryd.prog (pick1 [(45, .spec (zq4v zq4z)), (25, .spec (zq3w zq40))]) := (ΓOk_cons zq50 (ΓOk_cons zq41 ΓOk_nil))
def zq6e : zq69 := zq6b zq4z zq40
theorem zq6f : SpecOk Tryd.prog 26 (zq6a zq6e) := zq6c zq4z zq40 zq6dΓ

/-- pagewatch/pagewatchlaw02.sane -/
abbrev zq6g := {β : Type} → (Bool → Option β) → Option β
def zq6h (c : zq6g) : Spec :=
  ⟨[], [], [(false, [.data .bool])], [], fun x k => c  (fun r0 => k (((r0, ()), ()), ()))⟩
section
variable (c_ratio_Add : zq5v) (c_ratio_Mul : zq62) (c_ratio_Parse : zq5f) (c_ratio_Text : zq58)
@[reducible] def law02_sane_X : Ctx := ⟨look tab, pick1 [(13, .spec (zq5w c_ratio_Add)), (16, .spec (zq63 c_ratio_Mul)), (11, .spec (zq5g c_ratio_Parse)), (10, .spec (zq59 c_ratio_Text))], false, false, false⟩
def zq6i {β : Type} (k : (Bool → Option β)) : Option β :=
  c_ratio_Add ((1 : Int), (6 : Int)) ((1 : Int), (3 : Int)) (fun (rAdd : (Int × Int)) (rAdd2 : Int) =>
  c_ratio_Mul ((4611686018427387904 : Int), (1 : Int)) ((2 : Int), (1 : Int)) (fun (rMul : (Int × Int)) (rMul2 : Int) =>
  c_ratio_Parse ([50, 47, 52] : List UInt8) (fun (rParse : (Int × Int)) (rParse2 : Int) =>
  cond (decide (rAdd2 = (0 : Int)))
  (cond (decide (rAdd.1 = (1 : Int)) && (decide (rAdd.2 = (2 : Int)) && true))
  (cond (decide (rMul2 = (5 : Int)))
  (cond (decide (rParse2 = (2 : Int)))
  (c_ratio_Text rAdd (fun (rText : List UInt8) =>
  let t : Bool := (decide (rText = ([49, 47, 50] : List UInt8)));
  k t))
  (k false))
  (k false))
  (k false))
  (k false))))
theorem zq6j (hΓ : ΓOk Tryd.prog (law02_sane_X c_ratio_Add c_ratio_Mul c_ratio_Parse c_ratio_Text).Γ) : SpecOk Tryd.prog 8 (zq6h (zq6i c_ratio_Add c_ratio_Mul c_ratio_Parse c_ratio_Text)) :=
  spec_exec (X := (law02_sane_X c_ratio_Add c_ratio_Mul c_ratio_Parse c_ratio_Text)) (Λ := pick1 []) (rs := [.tmp 0]) (c := bodyOf Tryd.f8) mixed tab_ok hΓ Tryd.func8 (by kernel_rfl) (by kernel_rfl) (by kernel_rfl) (by kernel_rfl) CutsOk_nil (fun x k r h => Eq.trans (b := (zq6h (zq6i c_ratio_Add c_ratio_Mul c_ratio_Parse c_ratio_Text)).run x k) (by kernel_rfl) h)
end
theorem zq6kΓ : ΓOk Tryd.prog (pick1 [(13, .spec (zq5w zq60)), (16, .spec (zq63 zq67)), (11, .spec (zq5g zq5t)), (10, .spec (zq59 zq5d))]) := (ΓOk_cons zq61 (ΓOk_cons zq68 (ΓOk_cons zq5u (ΓOk_cons zq5e ΓOk_nil))))
def zq6l : zq6g := zq6i zq60 zq67 zq5t zq5d
theorem zq6m : SpecOk Tryd.prog 8 (zq6h zq6l) := zq6j zq60 zq67 zq5t zq5d zq6kΓ

/-- pagewatch/pagewatchref02.Parse -/
abbrev zq6n := {β : Type} → (List UInt8) → ((Int × Int) → Int → Option β) → Option β
def zq6o (c : zq6n) : Spec :=
  ⟨[(false, [.data .str])], [], [(true, [.data (.prod (.int .i64) (.int .i64))]), (false, [.data (.int .i64)])], [], fun x k => c x.1.1.1 (fun r0 r1 => k (((r0, ()), (r1, ()), ()), ()))⟩
noncomputable def ref02_Parse_p1_code : Code := codeAt 58 (bodyOf Tryd.f12)
noncomputable def ref02_Parse_p2_code : Code := codeAt 63 (bodyOf Tryd.f12)
abbrev zq6p (β : Type) := (List UInt8) → (List UInt8) → Int → Int → Int → Option β
abbrev zq6q := {β : Type} → zq6p β → (List UInt8) → (List UInt8) → Int → Int → Int → Int → Option β
def zq6r : View := ⟨0, [0, 2, 4, 5, 6], [(false, [.data .str]), (false, [.ptr 0 0]), (false, [.data .str]), (false, [.data (.int .i64)]), (false, [.data (.int .i64)])], [.cells 24 [.data (.int .i64), .data (.int .i64)]]⟩
def zq6s : List (AExit × View) := [(.exit 0, ⟨0, [0, 2, 4, 5], [(false, [.data .str]), (false, [.ptr 0 0]), (false, [.data .str]), (false, [.data (.int .i64)])], [.cells 24 [.data (.int .i64), .data (.int .i64)]]⟩)]
@[reducible] def ref02_Parse_p1_G (p : zq6q) {β : Type} (d : zq6r.den) (ks : Outs.K β zq6s) : Option β :=
  p (fun a0 a1 a2 a3 a4 => ks.1 (((a0, ()), (), (a1, ()), (a2, ()), ()), ((a3, a4, ()), ()))) d.1.1.1 d.1.2.2.1.1 d.1.2.2.2.1.1 d.1.2.2.2.2.1.1 d.2.1.1 d.2.1.2.1
abbrev zq6t (β : Type) := Int → Int → Int → Option β
abbrev zq6u := {β : Type} → zq6t β → (List UInt8) → (List UInt8) → Int → Int → Int → Int → Option β
def zq6v : View := ⟨0, [0, 2, 4, 5, 7], [(false, [.data .str]), (false, [.ptr 0 0]), (false, [.data .str]), (false, [.data (.int .i64)]), (false, [.data (.int .i64)])], [.cells 24 [.data (.int .i64), .data (.int .i64)]]⟩
def zq6w : List (AExit × View) := [(.ret, ⟨0, [2, 3], [(false, [.ptr 0 0]), (false, [.data (.int .i64)])], [.cells 24 [.data (.int .i64), .data (.int .i64)]]⟩)]
@[reducible] def ref02_Parse_p2_G (p : zq6u) {β : Type} (d : zq6v.den) (ks : Outs.K β zq6w) : Option β :=
  p (fun a0 a1 a2 => ks.1 (((), (a0, ()), ()), ((a1, a2, ()), ()))) d.1.1.1 d.1.2.2.1.1 d.1.2.2.2.1.1 d.1.2.2.2.2.1.1 d.2.1.1 d.2.1.2.1
section
variable (c_ref02_Text : zq69) (c_ref02_number : zqp)
@[reducible] def ref02_Parse_X : Ctx := ⟨look tab, pick1 [(26, .spec (zq6a c_ref02_Text)), (32, .spec (zqq c_ref02_number))], false, false, false⟩
def zq6x {β : Type} (rec : (List UInt8) → (List UInt8) → Int → Int → Int → Int → Option β) (k1 : zq6p β) (text : List UInt8) (s : List UInt8) (den : Int) (i_ : Int) (t2 : Int) (t22 : Int) : Option β :=
  cond (decide (i_ < (List.length text : Int)))
  (cond (decide (0 ≤ i_) && decide (i_ < (List.length text : Int)))
  (cond (decide (((List.getD text (Int.toNat i_) 0).toNat : Int) = (47 : Int)))
  (cond (decide (0 ≤ (0 : Int)) && (decide ((0 : Int) ≤ i_) && decide (i_ ≤ (List.length text : Int))))
  (cond (decide (0 ≤ (IntKind.i64.wrap (i_ + (1 : Int)))) && (decide ((IntKind.i64.wrap (i_ + (1 : Int))) ≤ (List.length text : Int)) && decide ((List.length text : Int) ≤ (List.length text : Int))))
  (c_ref02_number (List.drop (Int.toNat (IntKind.i64.wrap (i_ + (1 : Int)))) (List.take (Int.toNat (List.length text : Int)) text)) (fun (rnumber : Int) =>
  let s2 : List UInt8 := (List.drop (Int.toNat (0 : Int)) (List.take (Int.toNat i_) text));
  k1 text s2 rnumber t2 t22))
  none)
  none)
  (let i_2 : Int := (IntKind.i64.wrap (i_ + (1 : Int)));
  rec text s den i_2 t2 t22))
  none)
  (k1 text s den t2 t22)
def zq6y {β : Type} : Nat → zq6p β → (List UInt8) → (List UInt8) → Int → Int → Int → Int → Option β
  | 0 => fun _ _ _ _ _ _ _ => none
  | i + 1 => fun k1 text s den i_ t2 t22 => zq6x c_ref02_number (zq6y i k1) k1 text s den i_ t2 t22
theorem zq6z (hΓ : ΓOk Tryd.prog (ref02_Parse_X c_ref02_Text c_ref02_number).Γ) (i : Nat) : PieceOk Tryd.prog 53 0 ref02_Parse_p1_code zq6r zq6s (ref02_Parse_p1_G (zq6y c_ref02_number i)) := by
  rw [show ref02_Parse_p1_code = .loop (loopBody ref02_Parse_p1_code) by kernel_rfl]
  exact piece_loop (X := (ref02_Parse_X c_ref02_Text c_ref02_number)) (p := 1) (Λ := pick1 []) (G := fun i => @fun β d ks => ref02_Parse_p1_G (zq6y c_ref02_number i) d ks) mixed tab_ok hΓ rfl (by kernel_rfl) CutsOk_nil (fun _ _ => rfl) (fun i => @fun β d ks r h => Eq.trans (b := ref02_Parse_p1_G (zq6y c_ref02_number (i + 1)) d ks) (by kernel_rfl) h) i
def zq70 {β : Type} (k1 : zq6t β) (text : List UInt8) (s : List UInt8) (den : Int) (sign : Int) (t2 : Int) (t22 : Int) : Option β :=
  c_ref02_number s (fun (rnumber : Int) =>
  cond (decide (text = ([] : List UInt8)))
  (k1 (2 : Int) (0 : Int) (0 : Int))
  (c_ref02_Text ((IntKind.i64.wrap (sign * rnumber)), den) (fun (rText : List UInt8) =>
  cond (!decide (rText = text))
  (k1 (2 : Int) (0 : Int) (0 : Int))
  (k1 (0 : Int) (IntKind.i64.wrap (sign * rnumber)) den))))
def zq71 {β : Type} (k1 : zq6t β) (text : List UInt8) (s : List UInt8) (den : Int) (sign : Int) (t2 : Int) (t22 : Int) : Option β := zq70 c_ref02_Text c_ref02_number k1 text s den sign t2 t22
theorem zq72 (hΓ : ΓOk Tryd.prog (ref02_Parse_X c_ref02_Text c_ref02_number).Γ) : PieceOk Tryd.prog 53 0 ref02_Parse_p2_code zq6v zq6w (ref02_Parse_p2_G (zq71 c_ref02_Text c_ref02_number)) :=
  piece_exec (X := (ref02_Parse_X c_ref02_Text c_ref02_number)) (p := 63) (Λ := pick1 []) mixed tab_ok hΓ (by kernel_rfl) CutsOk_nil (fun d ks r h => Eq.trans (b := ref02_Parse_p2_G (zq71 c_ref02_Text c_ref02_number) d ks) (by kernel_rfl) h)
def zq73 (p1 : zq6q) (p2 : zq6u) {β : Type} (text : List UInt8) (k : ((Int × Int) → Int → Option β)) : Option β :=
  p1 (fun (text2 : List UInt8) (s : List UInt8) (den : Int) (t2 : Int) (t22 : Int) =>
  cond (!decide (s = ([] : List UInt8)))
  (cond (decide (0 ≤ (0 : Int)) && decide ((0 : Int) < (List.length s : Int)))
  (cond (decide (((List.getD s (Int.toNat (0 : Int)) 0).toNat : Int) = (45 : Int)))
  (cond (decide (0 ≤ (1 : Int)) && (decide ((1 : Int) ≤ (List.length s : Int)) && decide ((List.length s : Int) ≤ (List.length s : Int))))
  (let s2 : List UInt8 := (List.drop (Int.toNat (1 : Int)) (List.take (Int.toNat (List.length s : Int)) s));
  p2 (fun (t3 : Int) (t23 : Int) (t24 : Int) =>
  k (t23, t24) t3) text2 s2 den (-1 : Int) t2 t22)
  none)
  (p2 (fun (t3 : Int) (t23 : Int) (t24 : Int) =>
  k (t23, t24) t3) text2 s den (1 : Int) t2 t22))
  none)
  (p2 (fun (t3 : Int) (t23 : Int) (t24 : Int) =>
  k (t23, t24) t3) text2 s den (1 : Int) t2 t22)) text text (1 : Int) (0 : Int) (0 : Int) (0 : Int)
theorem zq74 (hΓ : ΓOk Tryd.prog (ref02_Parse_X c_ref02_Text c_ref02_number).Γ) (p1 : zq6q) (p2 : zq6u) (hp1 : PieceOk Tryd.prog 53 0 ref02_Parse_p1_code zq6r zq6s (ref02_Parse_p1_G p1)) (hp2 : PieceOk Tryd.prog 53 0 ref02_Parse_p2_code zq6v zq6w (ref02_Parse_p2_G p2)) : SpecOk Tryd.prog 12 (zq6o (zq73 p1 p2)) :=
  spec_exec (X := (ref02_Parse_X c_ref02_Text c_ref02_number)) (Λ := pick1 [(58, pieceCut zq6r zq6s (ref02_Parse_p1_G p1)), (63, pieceCut zq6v zq6w (ref02_Parse_p2_G p2))]) (rs := [.cell 2 24, .tmp 3]) (c := bodyOf Tryd.f12) mixed tab_ok hΓ Tryd.func12 (by kernel_rfl) (by kernel_rfl) (by kernel_rfl) (by kernel_rfl) (CutsOk_cons (q := 58) (c' := ref02_Parse_p1_code) (by kernel_rfl) rfl hp1 (CutsOk_cons (q := 63) (c' := ref02_Parse_p2_code) (by kernel_rfl) rfl hp2 CutsOk_nil)) (fun x k r h => Eq.trans (b := (zq6o (zq73 p1 p2)).run x k) (by kernel_rfl) h)
end
theorem zq75Γ : ΓOk Tryd.prog (pick1 [(26, .spec (zq6a zq6e)), (32, .spec (zqq zq16))]) := (ΓOk_cons zq6f (ΓOk_cons zq17 ΓOk_nil))
def zq76 (m : Nat) : zq6q := zq6y zq16 m
theorem zq77 {β : Type} (i : Nat) (k1 text s den i_ t2 t22) : (zq76 (i + 1) k1 text s den i_ t2 t22 : Option β) = zq6x zq16 (zq76 i k1) k1 text s den i_ t2 t22 := rfl
def zq78 : zq6q := zq76 fuel
theorem zq79 : PieceOk Tryd.prog 53 0 ref02_Parse_p1_code zq6r zq6s (ref02_Parse_p1_G zq78) := zq6z zq6e zq16 zq75Γ fuel
def zq7a : zq6u := zq71 zq6e zq16
theorem zq7b : PieceOk Tryd.prog 53 0 ref02_Parse_p2_code zq6v zq6w (ref02_Parse_p2_G zq7a) := zq72 zq6e zq16 zq75Γ
def zq7c : zq6n := zq73 zq78 zq7a
theorem zq7d : SpecOk Tryd.prog 12 (zq6o zq7c) := zq74 zq6e zq16 zq75Γ zq78 zq7a zq79 zq7b

/-- pagewatch/pagewatchlaw02.RatioTexts -/
abbrev zq7e := {β : Type} → (List UInt8) → Int → Int → (Bool → Option β) → Option β
def zq7f (c : zq7e) : Spec :=
  ⟨[(false, [.data .str]), (false, [.data (.int .i64)]), (false, [.data (.int .i64)])], [], [(false, [.data .bool])], [], fun x k => c x.1.1.1 x.1.2.1.1 x.1.2.2.1.1 (fun r0 => k (((r0, ()), ()), ()))⟩
noncomputable def law02_RatioTexts_p1_code : Code := codeAt 250 (bodyOf Tryd.f3)
abbrev zq7g (β : Type) := Bool → Option β
abbrev zq7h (β : Type) := (List UInt8) → Int → Int → Option β
abbrev zq7i := {β : Type} → zq7g β → zq7h β → (List UInt8) → (List UInt8) → (List UInt8) → (List UInt8) → (List UInt8) → (List UInt8) → (List UInt8) → Int → Int → Int → Option β
def zq7j : View := ⟨0, [7, 8, 36, 37], [(false, [.ptr 0 0]), (false, [.data .str]), (true, [.data .str, .data .str, .data .str, .data .str, .data .str, .data .str]), (false, [.data (.int .i64)])], [.cells 24 [.data (.int .i64), .data (.int .i64)]]⟩
def zq7k : List (AExit × View) := [(.ret, ⟨0, [6], [(false, [.data .bool])], []⟩), (.exit 0, ⟨0, [7, 8], [(false, [.ptr 0 0]), (false, [.data .str])], [.cells 24 [.data (.int .i64), .data (.int .i64)]]⟩)]
@[reducible] def law02_RatioTexts_p1_G (p : zq7i) {β : Type} (d : zq7j.den) (ks : Outs.K β zq7k) : Option β :=
  p (fun a0 => ks.1 (((a0, ()), ()), ())) (fun a0 a1 a2 => ks.2.1 (((), (a0, ()), ()), ((a1, a2, ()), ()))) d.1.2.1.1 d.1.2.2.1.1 d.1.2.2.1.2.1 d.1.2.2.1.2.2.1 d.1.2.2.1.2.2.2.1 d.1.2.2.1.2.2.2.2.1 d.1.2.2.1.2.2.2.2.2.1 d.1.2.2.2.1.1 d.2.1.1 d.2.1.2.1
section
variable (c_law02_draw : zq51) (c_law02_sane : zq6g) (c_ratio_Parse : zq5f) (c_ratio_Text : zq58) (c_ref02_Parse : zq6n)
@[reducible] def law02_RatioTexts_X : Ctx := ⟨look tab, pick1 [(9, .spec (zq52 c_law02_draw)), (8, .spec (zq6h c_law02_sane)), (11, .spec (zq5g c_ratio_Parse)), (10, .spec (zq59 c_ratio_Text)), (12, .spec (zq6o c_ref02_Parse))], false, false, false⟩
def zq7l {β : Type} (rec : (List UInt8) → (List UInt8) → (List UInt8) → (List UInt8) → (List UInt8) → (List UInt8) → (List UInt8) → Int → Int → Int → Option β) (k1 : zq7g β) (k2 : zq7h β) (s : List UInt8) (t36 : List UInt8) (t362 : List UInt8) (t363 : List UInt8) (t364 : List UInt8) (t365 : List UInt8) (t366 : List UInt8) (t37 : Int) (x : Int) (x2 : Int) : Option β :=
  cond (decide (t37 < (6 : Int)))
  (cond (decide (0 ≤ t37) && decide (t37 < (List.length ([t36, t362, t363, t364, t365, t366] : List (List UInt8)) : Int)))
  (let e : List UInt8 := List.getD ([t36, t362, t363, t364, t365, t366] : List (List UInt8)) (Int.toNat t37) ([] : List UInt8);
  c_ratio_Parse e (fun (rParse : (Int × Int)) (rParse2 : Int) =>
  c_ref02_Parse e (fun (rParse3 : (Int × Int)) (rParse4 : Int) =>
  cond (!(decide (rParse.1 = rParse3.1) && (decide (rParse.2 = rParse3.2) && true)))
  (k1 false)
  (cond (!decide (rParse2 = rParse4))
  (k1 false)
  (rec s t36 t362 t363 t364 t365 t366 (IntKind.i64.wrap (t37 + (1 : Int))) x x2)))))
  none)
  (k2 s x x2)
def zq7m {β : Type} : Nat → zq7g β → zq7h β → (List UInt8) → (List UInt8) → (List UInt8) → (List UInt8) → (List UInt8) → (List UInt8) → (List UInt8) → Int → Int → Int → Option β
  | 0 => fun _ _ _ _ _ _ _ _ _ _ _ _ => none
  | i + 1 => fun k1 k2 s t36 t362 t363 t364 t365 t366 t37 x x2 => zq7l c_ratio_Parse c_ref02_Parse (zq7m i k1 k2) k1 k2 s t36 t362 t363 t364 t365 t366 t37 x x2
theorem zq7n (hΓ : ΓOk Tryd.prog (law02_RatioTexts_X c_law02_draw c_law02_sane c_ratio_Parse c_ratio_Text c_ref02_Parse).Γ) (i : Nat) : PieceOk Tryd.prog 74 0 law02_RatioTexts_p1_code zq7j zq7k (law02_RatioTexts_p1_G (zq7m c_ratio_Parse c_ref02_Parse i)) := by
  rw [show law02_RatioTexts_p1_code = .loop (loopBody law02_RatioTexts_p1_code) by kernel_rfl]
  exact piece_loop (X := (law02_RatioTexts_X c_law02_draw c_law02_sane c_ratio_Parse c_ratio_Text c_ref02_Parse)) (p := 1) (Λ := pick1 []) (G := fun i => @fun β d ks => law02_RatioTexts_p1_G (zq7m c_ratio_Parse c_ref02_Parse i) d ks) mixed tab_ok hΓ rfl (by kernel_rfl) CutsOk_nil (fun _ _ => rfl) (fun i => @fun β d ks r h => Eq.trans (b := law02_RatioTexts_p1_G (zq7m c_ratio_Parse c_ref02_Parse (i + 1)) d ks) (by kernel_rfl) h) i
def zq7o (p1 : zq7i) {β : Type} (text : List UInt8) (num : Int) (den : Int) (k : (Bool → Option β)) : Option β :=
  cond (decide ((100 : Int) < (List.length text : Int)))
  (c_law02_sane  (fun (rsane : Bool) =>
  k rsane))
  (c_law02_draw num den (fun (rdraw : (Int × Int)) =>
  c_ratio_Text rdraw (fun (rText : List UInt8) =>
  cond (decide (List.length rText + List.length ([47, 49] : List UInt8) ≤ 9223372036854775807))
  (cond (decide (List.length ([43] : List UInt8) + List.length rText ≤ 9223372036854775807))
  (cond (decide (List.length ([45] : List UInt8) + List.length rText ≤ 9223372036854775807))
  (cond (decide (List.length ([48] : List UInt8) + List.length rText ≤ 9223372036854775807))
  (p1 (fun (t6 : Bool) =>
  k t6) (fun (s : List UInt8) (x : Int) (x2 : Int) =>
  c_ratio_Parse s (fun (rParse : (Int × Int)) (rParse2 : Int) =>
  cond (decide (rParse2 = (0 : Int)))
  (cond (decide (rParse.1 = x) && (decide (rParse.2 = x2) && true))
  (c_law02_sane  (fun (rsane : Bool) =>
  k rsane))
  (k false))
  (k false))) rText text rText (rText ++ ([47, 49] : List UInt8)) (([43] : List UInt8) ++ rText) (([45] : List UInt8) ++ rText) (([48] : List UInt8) ++ rText) (0 : Int) rdraw.1 rdraw.2)
  none)
  none)
  none)
  none)))
theorem zq7p (hΓ : ΓOk Tryd.prog (law02_RatioTexts_X c_law02_draw c_law02_sane c_ratio_Parse c_ratio_Text c_ref02_Parse).Γ) (p1 : zq7i) (hp1 : PieceOk Tryd.prog 74 0 law02_RatioTexts_p1_code zq7j zq7k (law02_RatioTexts_p1_G p1)) : SpecOk Tryd.prog 3 (zq7f (zq7o c_law02_draw c_law02_sane c_ratio_Parse c_ratio_Text p1)) :=
  spec_exec (X := (law02_RatioTexts_X c_law02_draw c_law02_sane c_ratio_Parse c_ratio_Text c_ref02_Parse)) (Λ := pick1 [(250, pieceCut zq7j zq7k (law02_RatioTexts_p1_G p1))]) (rs := [.tmp 6]) (c := bodyOf Tryd.f3) mixed tab_ok hΓ Tryd.func3 (by kernel_rfl) (by kernel_rfl) (by kernel_rfl) (by kernel_rfl) (CutsOk_cons (q := 250) (c' := law02_RatioTexts_p1_code) (by kernel_rfl) rfl hp1 CutsOk_nil) (fun x k r h => Eq.trans (b := (zq7f (zq7o c_law02_draw c_law02_sane c_ratio_Parse c_ratio_Text p1)).run x k) (by kernel_rfl) h)
end
theorem zq7qΓ : ΓOk Tryd.prog (pick1 [(9, .spec (zq52 zq56)), (8, .spec (zq6h zq6l)), (11, .spec (zq5g zq5t)), (10, .spec (zq59 zq5d)), (12, .spec (zq6o zq7c))]) := (ΓOk_cons zq57 (ΓOk_cons zq6m (ΓOk_cons zq5u (ΓOk_cons zq5e (ΓOk_cons zq7d ΓOk_nil)))))
def zq7r (m : Nat) : zq7i := zq7m zq5t zq7c m
theorem zq7s {β : Type} (i : Nat) (k1 k2 s t36 t362 t363 t364 t365 t366 t37 x x2) : (zq7r (i + 1) k1 k2 s t36 t362 t363 t364 t365 t366 t37 x x2 : Option β) = zq7l zq5t zq7c (zq7r i k1 k2) k1 k2 s t36 t362 t363 t364 t365 t366 t37 x x2 := rfl
def zq7t : zq7i := zq7r fuel
theorem zq7u : PieceOk Tryd.prog 74 0 law02_RatioTexts_p1_code zq7j zq7k (law02_RatioTexts_p1_G zq7t) := zq7n zq56 zq6l zq5t zq5d zq7c zq7qΓ fuel
def zq7v : zq7e := zq7o zq56 zq6l zq5t zq5d zq7t
theorem zq7w : SpecOk Tryd.prog 3 (zq7f zq7v) := zq7p zq56 zq6l zq5t zq5d zq7c zq7qΓ zq7t zq7u
end
end Go.Lift
/- Plain lemmas about functional forms: tests that are known, loops. -/
namespace Go.Lift
open Go.RowKit Go.IntWalk

section
variable {β : Type}
/-! ### Tests -/
theorem c_inb {i n : Int} {a b : Option β} (h : 0 ≤ i ∧ i < n) : cond (decide (0 ≤ i) && decide (i < n)) a b = a := by
  rw [decide_eq_true h.1, decide_eq_true h.2]; rfl
theorem c_pos {p : Prop} [Decidable p] {a b : Option β} (h : p) : cond (decide p) a b = a := by rw [decide_eq_true h]; rfl
theorem c_neg {p : Prop} [Decidable p] {a b : Option β} (h : ¬ p) : cond (decide p) a b = b := by rw [decide_eq_false h]; rfl
theorem c_npos {p : Prop} [Decidable p] {a b : Option β} (h : p) : cond (!decide p) a b = b := by rw [decide_eq_true h]; rfl
theorem c_nneg {p : Prop} [Decidable p] {a b : Option β} (h : ¬ p) : cond (!decide p) a b = a := by rw [decide_eq_false h]; rfl
theorem c_f {a b : Option β} : cond false a b = b := rfl
theorem k_eq {γ : Type} {k : γ → Option β} {x y : γ} (h : x = y) : k x = k y := by rw [h]

/-! ### Loops over the numbers from 0 on -/
end
end Go.Lift

/- Ratios in plain Lean: the greatest common divisor, New, Less. -/
namespace Go.Lift
open Go.RowKit Go.IntWalk
noncomputable section
set_option linter.unusedVariables false
set_option linter.unusedSimpArgs false
set_option maxRecDepth 10000

theorem tmod_nat {a b : Int} (ha : 0 ≤ a) (hb : 0 < b) : Int.tmod a b = ((a.toNat % b.toNat : Nat) : Int) := by
  obtain ⟨m, rfl⟩ := Int.eq_ofNat_of_zero_le ha
  obtain ⟨n, rfl⟩ := Int.eq_ofNat_of_zero_le (Int.le_of_lt hb)
  simp [Int.tmod]

/-- The greatest common divisor. -/
def gcdI (a b : Int) : Int := (Nat.gcd a.toNat b.toNat : Nat)

theorem gcdI_zero {a : Int} (ha : 0 ≤ a) : gcdI a 0 = a := by
  simp [gcdI]
  omega

theorem gcdI_step {a b : Int} (ha : 0 ≤ a) (hb : 0 < b) : gcdI b (Int.tmod a b) = gcdI a b := by
  have h := tmod_nat ha hb
  unfold gcdI
  rw [h, Int.toNat_natCast, Nat.gcd_comm b.toNat, ← Nat.gcd_rec, Nat.gcd_comm]

theorem gcdI_pos {a b : Int} (hb : 0 < b) : 1 ≤ gcdI a b := by
  have : 0 < Nat.gcd a.toNat b.toNat := Nat.gcd_pos_of_pos_right _ (by omega)
  unfold gcdI
  omega

theorem gcdI_le {a b : Int} (hb : 0 < b) : gcdI a b ≤ b := by
  have : Nat.gcd a.toNat b.toNat ≤ b.toNat := Nat.gcd_le_right _ (by omega)
  unfold gcdI
  omega

theorem ref02_gcd_n {β : Type} : ∀ (N : Nat) (a b : Int) (f : Nat), 0 ≤ a → 0 ≤ b → b.toNat ≤ N → N < f → ∀ k1 : Int → Option β, zq2n f k1 a b = k1 (gcdI a b) := by
  intro N
  induction N with
  | zero =>
    intro a b f ha hb hN hf k1
    obtain ⟨f, rfl⟩ : ∃ f', f = f' + 1 := ⟨f - 1, by omega⟩
    have : b = 0 := by omega
    subst this
    rw [zq2o, gcdI_zero ha]
    unfold zq2h
    exact c_npos rfl
  | succ N ih =>
    intro a b f ha hb hN hf k1
    obtain ⟨f, rfl⟩ : ∃ f', f = f' + 1 := ⟨f - 1, by omega⟩
    rw [zq2o]
    unfold zq2h
    by_cases h0 : b = 0
    · subst h0
      rw [gcdI_zero ha]
      exact c_npos rfl
    · have hb0 : 0 < b := by omega
      have h1 := tmod_nat ha hb0
      have h2 : a.toNat % b.toNat < b.toNat := Nat.mod_lt _ (by omega)
      refine (c_nneg h0).trans ?_
      refine (c_nneg h0).trans ?_
      refine (ih b (Int.tmod a b) f hb (by omega) (by omega) (by omega) k1).trans ?_
      rw [gcdI_step ha hb0]

theorem ref02_gcd_eq {β : Type} {a b : Int} (ha : 0 ≤ a) (hb : 0 ≤ b) (hb2 : b ≤ 9223372036854775807) (k : Int → Option β) : zq2r a b k = k (gcdI a b) := by
  unfold zq2r zq2k zq2p
  exact ref02_gcd_n b.toNat a b fuel ha hb (Nat.le_refl _) (lt_fuel (by omega)) _

theorem ref02_size_eq {β : Type} {n : Int} (h : -9223372036854775807 ≤ n ∧ n ≤ 9223372036854775807) (k : Int → Option β) : zq2y n k = k (n.natAbs : Int) := by
  unfold zq2y zq2v
  by_cases hn : n < 0
  · refine (c_pos hn).trans (k_eq ?_)
    rw [i64_in _ (by omega)]
    omega
  · refine (c_neg hn).trans (k_eq ?_)
    omega

theorem ref02_in_eq {β : Type} (n : Int) (k : Bool → Option β) : zq35 n k = k (decide (-4611686018427387904 ≤ n ∧ n ≤ 4611686018427387904)) := by
  unfold zq35 zq32
  by_cases h1 : -4611686018427387904 ≤ n
  · refine (c_pos h1).trans (k_eq ?_)
    by_cases h2 : n ≤ 4611686018427387904
    · rw [decide_eq_true h2, decide_eq_true (show _ ∧ _ from ⟨h1, h2⟩)]
    · rw [decide_eq_false h2, decide_eq_false (show ¬ (_ ∧ _) from fun h => h2 h.2)]
  · refine (c_neg h1).trans (k_eq ?_)
    rw [decide_eq_false (show ¬ (_ ∧ _) from fun h => h1 h.1)]

theorem ref02_New_eq {β : Type} {num den : Int} (h : -4611686018427387904 ≤ num ∧ num ≤ 4611686018427387904) (hd : 1 ≤ den ∧ den ≤ 4611686018427387904) (k : Int × Int → Int → Option β) :
    zq4e num den k = k (num.tdiv (gcdI num.natAbs den), den.tdiv (gcdI num.natAbs den)) 0 := by
  have hg := gcdI_pos (a := (num.natAbs : Int)) (b := den) (by omega)
  have hg2 := gcdI_le (a := (num.natAbs : Int)) (b := den) (by omega)
  have w1 : IntKind.i64.wrap (num.tdiv (gcdI num.natAbs den)) = num.tdiv (gcdI num.natAbs den) := by
    refine i64_in _ ?_
    have h1 : (num.tdiv (gcdI num.natAbs den)).natAbs = num.natAbs / (gcdI num.natAbs den).natAbs := Int.natAbs_tdiv _ _
    have h2 : num.natAbs / (gcdI num.natAbs den).natAbs ≤ num.natAbs := Nat.div_le_self _ _
    omega
  have w2 : IntKind.i64.wrap (den.tdiv (gcdI num.natAbs den)) = den.tdiv (gcdI num.natAbs den) := by
    refine i64_in _ ?_
    have h1 : (den.tdiv (gcdI num.natAbs den)).natAbs = den.natAbs / (gcdI num.natAbs den).natAbs := Int.natAbs_tdiv _ _
    have h2 : den.natAbs / (gcdI num.natAbs den).natAbs ≤ den.natAbs := Nat.div_le_self _ _
    omega
  unfold zq4e zq4b
  refine (ref02_in_eq num _).trans ?_
  rw [decide_eq_true h]
  simp only [Bool.not_true, c_f]
  refine (c_neg (by omega)).trans ?_
  refine (c_neg (by omega)).trans ?_
  refine (ref02_size_eq (by omega) _).trans ?_
  refine (ref02_gcd_eq (by omega) (by omega) (by omega) _).trans ?_
  refine (c_nneg (by omega)).trans ?_
  refine (c_nneg (by omega)).trans ?_
  rw [w1, w2]

theorem ratio_gcd_n {β : Type} : ∀ (N : Nat) (a b : Int) (f : Nat), 0 ≤ a → 0 ≤ b → b.toNat ≤ N → N < f → ∀ k1 : Int → Option β, zq1k f k1 a b = k1 (gcdI a b) := by
  intro N
  induction N with
  | zero =>
    intro a b f ha hb hN hf k1
    obtain ⟨f, rfl⟩ : ∃ f', f = f' + 1 := ⟨f - 1, by omega⟩
    have : b = 0 := by omega
    subst this
    rw [zq1l, gcdI_zero ha]
    unfold zq1e
    exact c_npos rfl
  | succ N ih =>
    intro a b f ha hb hN hf k1
    obtain ⟨f, rfl⟩ : ∃ f', f = f' + 1 := ⟨f - 1, by omega⟩
    rw [zq1l]
    unfold zq1e
    by_cases h0 : b = 0
    · subst h0
      rw [gcdI_zero ha]
      exact c_npos rfl
    · have hb0 : 0 < b := by omega
      have h1 := tmod_nat ha hb0
      have h2 : a.toNat % b.toNat < b.toNat := Nat.mod_lt _ (by omega)
      refine (c_nneg h0).trans ?_
      refine (c_nneg h0).trans ?_
      refine (ih b (Int.tmod a b) f hb (by omega) (by omega) (by omega) k1).trans ?_
      rw [gcdI_step ha hb0]

theorem ratio_gcd_eq {β : Type} {a b : Int} (ha : 0 ≤ a) (hb : 0 ≤ b) (hb2 : b ≤ 9223372036854775807) (k : Int → Option β) : zq1o a b k = k (gcdI a b) := by
  unfold zq1o zq1h zq1m
  exact ratio_gcd_n b.toNat a b fuel ha hb (Nat.le_refl _) (lt_fuel (by omega)) _

theorem ratio_size_eq {β : Type} {n : Int} (h : -9223372036854775807 ≤ n ∧ n ≤ 9223372036854775807) (k : Int → Option β) : zq29 n k = k (n.natAbs : Int) := by
  unfold zq29 zq26
  by_cases hn : n < 0
  · refine (c_pos hn).trans (k_eq ?_)
    rw [i64_in _ (by omega)]
    omega
  · refine (c_neg hn).trans (k_eq ?_)
    omega

theorem ratio_within_eq {β : Type} (n : Int) (k : Bool → Option β) : zq22 n k = k (decide (-4611686018427387904 ≤ n ∧ n ≤ 4611686018427387904)) := by
  unfold zq22 zq1z
  by_cases h1 : -4611686018427387904 ≤ n
  · refine (c_pos h1).trans (k_eq ?_)
    by_cases h2 : n ≤ 4611686018427387904
    · rw [decide_eq_true h2, decide_eq_true (show _ ∧ _ from ⟨h1, h2⟩)]
    · rw [decide_eq_false h2, decide_eq_false (show ¬ (_ ∧ _) from fun h => h2 h.2)]
  · refine (c_neg h1).trans (k_eq ?_)
    rw [decide_eq_false (show ¬ (_ ∧ _) from fun h => h1 h.1)]

end
end Go.Lift

/- Exact rational numbers: plain arithmetic for the chapter 2. -/
namespace Go.Lift
noncomputable section
set_option linter.unusedVariables false
set_option linter.unusedSimpArgs false

abbrev Rat2 := Int × Int
abbrev RM : Int := 4611686018427387904
def inR (n : Int) : Bool := decide (-RM ≤ n) && decide (n ≤ RM)
theorem inR_iff {n : Int} : inR n = true ↔ -RM ≤ n ∧ n ≤ RM := by simp [inR]
/-- In lowest terms, whatever the size. -/
structure Low (r : Rat2) : Prop where
  den : 1 ≤ r.2
  cop : Int.gcd r.1 r.2 = 1
def validQ (r : Rat2) : Bool := decide (1 ≤ r.2) && (decide (r.2 ≤ RM) && (inR r.1 && decide (Int.gcd r.1 r.2 = 1)))
theorem validQ_iff {r : Rat2} : validQ r = true ↔ Low r ∧ r.2 ≤ RM ∧ -RM ≤ r.1 ∧ r.1 ≤ RM := by
  simp only [validQ, Bool.and_eq_true, decide_eq_true_eq, inR_iff]
  exact ⟨fun h => ⟨⟨h.1, h.2.2.2⟩, h.2.1, h.2.2.1⟩, fun h => ⟨h.1.den, h.2.1, h.2.2, h.1.cop⟩⟩

/-! ### New -/
def redQ (n d : Int) : Rat2 := (n / Int.gcd n d, d / Int.gcd n d)
theorem gcd_pos' {n d : Int} (hd : 1 ≤ d) : 0 < (Int.gcd n d : Int) := by
  have : 0 < Int.gcd n d := Int.gcd_pos_of_ne_zero_right n (by omega)
  omega
theorem redQ_low {n d : Int} (hd : 1 ≤ d) : Low (redQ n d) := by
  have hg := gcd_pos' (n := n) hd
  constructor
  · unfold redQ
    simp only
    have h2 : (Int.gcd n d : Int) ∣ d := Int.gcd_dvd_right ..
    obtain ⟨c, hc⟩ := h2
    have hc1 : 1 ≤ c := by
      refine Classical.byContradiction fun hn => ?_
      have : (Int.gcd n d : Int) * c ≤ (Int.gcd n d : Int) * 0 := Int.mul_le_mul_of_nonneg_left (by omega) (by omega)
      omega
    have : d / (Int.gcd n d : Int) = c := by
      conv => lhs; lhs; rw [hc]
      exact Int.mul_ediv_cancel_left c (by omega)
    omega
  · unfold redQ
    exact Int.gcd_ediv_gcd_ediv_gcd (by omega)
/-- What two numbers are made of. -/
theorem gcd_parts {n d : Int} (hd : d ≠ 0) : ∃ g A B : Int, 0 < g ∧ (Int.gcd n d : Int) = g ∧ n = g * A ∧ d = g * B ∧ n / (Int.gcd n d : Int) = A ∧ d / (Int.gcd n d : Int) = B ∧ Int.gcd A B = 1 := by
  have hg : 0 < (Int.gcd n d : Int) := by
    have := Int.gcd_pos_of_ne_zero_right n hd
    omega
  obtain ⟨a, ha⟩ : (Int.gcd n d : Int) ∣ n := Int.gcd_dvd_left ..
  obtain ⟨c, hc⟩ : (Int.gcd n d : Int) ∣ d := Int.gcd_dvd_right ..
  have e1 : n / (Int.gcd n d : Int) = a := by
    conv => lhs; lhs; rw [ha]
    exact Int.mul_ediv_cancel_left a (by omega)
  have e2 : d / (Int.gcd n d : Int) = c := by
    conv => lhs; lhs; rw [hc]
    exact Int.mul_ediv_cancel_left c (by omega)
  have e3 := Int.gcd_ediv_gcd_ediv_gcd (i := n) (j := d) (by omega)
  rw [e1, e2] at e3
  exact ⟨_, a, c, hg, rfl, ha, hc, e1, e2, e3⟩

theorem pos_of_mul {g B : Int} (hg : 0 < g) (h : 1 ≤ g * B) : 1 ≤ B := by
  refine Classical.byContradiction fun hn => ?_
  have : g * B ≤ g * 0 := Int.mul_le_mul_of_nonneg_left (by omega) (by omega)
  omega

/-! ### Products -/
/-! ### Sums -/
theorem redQ_bd {n d : Int} (hd : 1 ≤ d) (hn : inR n = true) (hD : inR d = true) : validQ (redQ n d) = true := by
  rw [validQ_iff]
  refine ⟨redQ_low hd, ?_⟩
  obtain ⟨g, A, B, hg, eg, e1, e2, e3, e4, c1⟩ := gcd_parts (n := n) (d := d) (by omega)
  have hB : 1 ≤ B := pos_of_mul hg (by omega)
  rw [inR_iff] at hn hD
  unfold redQ
  rw [e3, e4]
  simp only
  have b1 : 1 * B ≤ g * B := Int.mul_le_mul_of_nonneg_right (by omega) (by omega)
  refine ⟨by omega, ?_⟩
  rcases Int.le_total 0 A with h | h
  · have : 1 * A ≤ g * A := Int.mul_le_mul_of_nonneg_right (by omega) h
    omega
  · have : 1 * (-A) ≤ g * (-A) := Int.mul_le_mul_of_nonneg_right (by omega) (by omega)
    simp only [Int.mul_neg] at this
    omega

/-! ### Quotients -/
/-! ### The order -/
end
end Go.Lift

/- Exact rational numbers: small numbers; ratios that are drawn. -/
namespace Go.Lift
noncomputable section
set_option linter.unusedVariables false
set_option linter.unusedSimpArgs false

/-- The statements' own remainder. -/
theorem mod_bd (x : Int) {n : Int} (hn : 0 < n) : 0 ≤ Int.tmod (Int.tmod x n + n) n ∧ Int.tmod (Int.tmod x n + n) n < n := by
  have h1 : -n < Int.tmod x n := by
    rcases Int.le_total 0 x with h | h
    · have := Int.tmod_nonneg n h
      omega
    · have e : Int.tmod x n = -Int.tmod (-x) n := by rw [Int.neg_tmod]; omega
      have := Int.tmod_lt_of_pos (-x) hn
      omega
  exact ⟨Int.tmod_nonneg n (by omega), Int.tmod_lt_of_pos _ hn⟩

end
end Go.Lift

/- The code's ratios, function by function: what each one computes, for all inputs. -/
namespace Go.Lift
open Go.RowKit Go.IntWalk
noncomputable section
set_option linter.unusedVariables false
set_option linter.unusedSimpArgs false
set_option maxRecDepth 10000

theorem u64_mod (n : Int) : IntKind.u64.wrap n = n % 18446744073709551616 := by
  unfold IntKind.wrap
  simp [IntKind.signed, IntKind.bits]

theorem u64_nat {n : Nat} (h : n < 18446744073709551616) : IntKind.u64.wrap (n : Int) = n := by rw [u64_mod]; omega

theorem gcdI_gcd {n d : Int} (hd : 0 ≤ d) : gcdI (n.natAbs : Int) d = (Int.gcd n d : Int) := by
  unfold gcdI
  rw [Int.toNat_natCast]
  have : d.toNat = d.natAbs := by omega
  rw [this]
  rfl

theorem tdiv_gcdl (n d : Int) : Int.tdiv n (Int.gcd n d : Int) = n / (Int.gcd n d : Int) := Int.tdiv_eq_ediv_of_dvd (Int.gcd_dvd_left ..)
theorem tdiv_gcdr (n d : Int) : Int.tdiv d (Int.gcd n d : Int) = d / (Int.gcd n d : Int) := Int.tdiv_eq_ediv_of_dvd (Int.gcd_dvd_right ..)

theorem ratio_Valid_eq {β : Type} (r : Int × Int) (k : Bool → Option β) : zq3t r k = k (validQ r) := by
  unfold zq3t zq3q validQ
  by_cases h1 : 1 ≤ r.2
  · refine (c_pos h1).trans ?_
    by_cases h2 : r.2 ≤ 4611686018427387904
    · refine (c_pos h2).trans ?_
      refine (ratio_within_eq _ _).trans ?_
      by_cases h3 : -4611686018427387904 ≤ r.1 ∧ r.1 ≤ 4611686018427387904
      · refine (c_pos h3).trans ?_
        refine (ratio_size_eq (by omega) _).trans ?_
        refine (ratio_gcd_eq (by omega) (by omega) (by omega) _).trans (k_eq ?_)
        rw [gcdI_gcd (by omega), decide_eq_true h1, decide_eq_true (show r.2 ≤ RM from h2), inR_iff.2 h3]
        simp only [Bool.true_and]
        congr 1
        exact propext ⟨fun h => by omega, fun h => by omega⟩
      · refine (c_neg h3).trans (k_eq ?_)
        have : inR r.1 = false := by
          cases h : inR r.1 with
          | false => rfl
          | true => exact absurd (inR_iff.1 h) h3
        rw [this]; simp
    · refine (c_neg h2).trans (k_eq ?_)
      rw [decide_eq_false (show ¬ r.2 ≤ RM from h2)]; simp
  · refine (c_neg h1).trans (k_eq ?_)
    rw [decide_eq_false h1]; simp

end
end Go.Lift

/- The code's ratios: sums, products, quotients, which is less. -/
namespace Go.Lift
open Go.RowKit Go.IntWalk
noncomputable section
set_option linter.unusedVariables false
set_option linter.unusedSimpArgs false
set_option maxRecDepth 10000

theorem c_tt {β : Type} {p : Bool} {a b : Option β} (h : p = true) : cond p a b = a := by subst h; rfl
theorem c_ff {β : Type} {p : Bool} {a b : Option β} (h : p = false) : cond p a b = b := by subst h; rfl

structure VB (a : Rat2) : Prop where
  low : Low a
  d1 : 1 ≤ a.2
  d2 : a.2 ≤ 4611686018427387904
  n1 : -4611686018427387904 ≤ a.1
  n2 : a.1 ≤ 4611686018427387904

theorem vb {a : Rat2} (h : validQ a = true) : VB a := by
  obtain ⟨l, h1, h2, h3⟩ := validQ_iff.1 h
  exact ⟨l, l.den, h1, h2, h3⟩

end
end Go.Lift

/- The examples of the chapter on ratios. -/
namespace Go.Lift
noncomputable section
set_option maxRecDepth 100000
theorem law02_sane_eq {β : Type} (k : Bool → Option β) : zq6l k = k true := by kernel_rfl
end
end Go.Lift

/- The code's ratios: which is less; ratios that are drawn. -/
namespace Go.Lift
open Go.RowKit Go.IntWalk
noncomputable section
set_option linter.unusedVariables false
set_option linter.unusedSimpArgs false
set_option maxRecDepth 10000

/-- The remainder that is not negative. -/
def modI (x n : Int) : Int := Int.tmod (Int.tmod x n + n) n
theorem modI_bd (x : Int) {n : Int} (hn : 0 < n) : 0 ≤ modI x n ∧ modI x n < n := mod_bd x hn
theorem made_Mod_eq2 {β : Type} (x : Int) {n : Int} (hn : 0 < n) (hn2 : n ≤ 1000000) (k : Int → Option β) : zq5 x n k = k (modI x n) := by
  have h1 : Int.tmod x n < n := Int.tmod_lt_of_pos _ hn
  have h2 : -n < Int.tmod x n := by
    have := Int.tmod_lt_of_pos (-x) hn
    rw [Int.neg_tmod] at this
    omega
  unfold zq5 zq2
  rw [i64_in _ (by omega)]
  refine (c_nneg (by omega)).trans ?_
  exact c_nneg (by omega)

theorem ref02_New_red {β : Type} {num den : Int} (h : -4611686018427387904 ≤ num ∧ num ≤ 4611686018427387904) (hd : 1 ≤ den ∧ den ≤ 4611686018427387904) (k : Int × Int → Int → Option β) : zq4e num den k = k (redQ num den) 0 := by
  rw [ref02_New_eq h hd, gcdI_gcd (by omega), tdiv_gcdl, tdiv_gcdr]
  rfl
theorem redQ_valid {num den : Int} (h : -4611686018427387904 ≤ num ∧ num ≤ 4611686018427387904) (hd : 1 ≤ den ∧ den ≤ 4611686018427387904) : validQ (redQ num den) = true :=
  redQ_bd hd.1 (inR_iff.2 h) (inR_iff.2 ⟨by simp only [RM]; omega, hd.2⟩)

theorem draw_eq (n d : Int) : ∃ x : Rat2, validQ x = true ∧ ∀ (β : Type) (k : Rat2 → Option β), zq56 n d k = k x := by
  have m5 := modI_bd n (n := 5) (by decide)
  have m9 := modI_bd d (n := 9) (by decide)
  have m7 := modI_bd n (n := 7) (by decide)
  have m99 := modI_bd n (n := 99) (by decide)
  have m201 := modI_bd n (n := 201) (by decide)
  have m60 := modI_bd d (n := 60) (by decide)
  by_cases h0 : modI n 5 = 0
  · refine ⟨redQ (4611686018427387904 - modI d 9) (1 + modI n 7), redQ_valid (by omega) (by omega), fun β k => ?_⟩
    unfold zq56 zq53
    refine (made_Mod_eq2 _ (by decide) (by decide) _).trans ?_
    refine (c_pos h0).trans ?_
    refine (made_Mod_eq2 _ (by decide) (by decide) _).trans ?_
    refine (made_Mod_eq2 _ (by decide) (by decide) _).trans ?_
    rw [i64_in _ (by omega), i64_in _ (by omega)]
    exact ref02_New_red (by omega) (by omega) _
  · by_cases h1 : modI n 5 = 1
    · refine ⟨redQ (modI n 99 - 49) (4611686018427387904 - modI d 9), redQ_valid (by omega) (by omega), fun β k => ?_⟩
      unfold zq56 zq53
      refine (made_Mod_eq2 _ (by decide) (by decide) _).trans ?_
      refine (c_neg h0).trans ?_
      refine (c_pos h1).trans ?_
      refine (made_Mod_eq2 _ (by decide) (by decide) _).trans ?_
      refine (made_Mod_eq2 _ (by decide) (by decide) _).trans ?_
      rw [i64_in _ (by omega), i64_in _ (by omega)]
      exact ref02_New_red (by omega) (by omega) _
    · refine ⟨redQ (modI n 201 - 100) (1 + modI d 60), redQ_valid (by omega) (by omega), fun β k => ?_⟩
      unfold zq56 zq53
      refine (made_Mod_eq2 _ (by decide) (by decide) _).trans ?_
      refine (c_neg h0).trans ?_
      refine (c_neg h1).trans ?_
      refine (made_Mod_eq2 _ (by decide) (by decide) _).trans ?_
      refine (made_Mod_eq2 _ (by decide) (by decide) _).trans ?_
      rw [i64_in _ (by omega), i64_in _ (by omega)]
      exact ref02_New_red (by omega) (by omega) _
end
end Go.Lift

/- The reference's ratios compute the same. -/
namespace Go.Lift
open Go.RowKit Go.IntWalk
noncomputable section
set_option linter.unusedVariables false
set_option linter.unusedSimpArgs false
set_option maxRecDepth 10000

theorem ref02_Valid_eq {β : Type} (r : Int × Int) (k : Bool → Option β) : zq40 r k = k (validQ r) := by
  unfold zq40 zq3x validQ
  refine (ref02_in_eq _ _).trans ?_
  by_cases h3 : -4611686018427387904 ≤ r.1 ∧ r.1 ≤ 4611686018427387904
  · refine (c_pos h3).trans ?_
    rw [inR_iff.2 h3]
    by_cases h1 : 1 ≤ r.2
    · refine (c_pos h1).trans ?_
      by_cases h2 : r.2 ≤ 4611686018427387904
      · refine (c_pos h2).trans ?_
        refine (ref02_size_eq (by omega) _).trans ?_
        refine (ref02_gcd_eq (by omega) (by omega) (by omega) _).trans (k_eq ?_)
        rw [gcdI_gcd (by omega), decide_eq_true h1, decide_eq_true (show r.2 ≤ RM from h2)]
        simp only [Bool.true_and]
        congr 1
        exact propext ⟨fun h => by omega, fun h => by omega⟩
      · refine (c_neg h2).trans (k_eq ?_)
        rw [decide_eq_false (show ¬ r.2 ≤ RM from h2)]; simp
    · refine (c_neg h1).trans (k_eq ?_)
      rw [decide_eq_false h1]; simp
  · refine (c_neg h3).trans (k_eq ?_)
    have : inR r.1 = false := by
      cases h : inR r.1 with
      | false => rfl
      | true => exact absurd (inR_iff.1 h) h3
    rw [this]; simp

end
end Go.Lift

/- RatioOrder: one of less, equal, greater; transitive; the order of the differences. -/
namespace Go.Lift
open Go.RowKit Go.IntWalk
noncomputable section
set_option linter.unusedVariables false
set_option maxRecDepth 10000

theorem eq2_iff (x y : Rat2) : (decide (x.1 = y.1) && (decide (x.2 = y.2) && true)) = decide (x = y) := by
  obtain ⟨x1, x2⟩ := x
  obtain ⟨y1, y2⟩ := y
  simp only [Bool.and_true, ← Bool.decide_and, Prod.mk.injEq]

end
end Go.Lift

/- The reference's ratios: differences, quotients, which is less, texts. -/
namespace Go.Lift
open Go.RowKit Go.IntWalk
noncomputable section
set_option linter.unusedVariables false
set_option linter.unusedSimpArgs false
set_option maxRecDepth 10000

/-! ### Texts -/
theorem digit_str (m : Nat) (h : m < 10) : strOf [(IntKind.u8.wrap (IntKind.u64.wrap ((48 : Int) + (m : Int))))] = [UInt8.ofNat (48 + m)] := by
  rw [u64_mod, show ((48 : Int) + m) % 18446744073709551616 = 48 + m by omega, u8_in _ (by omega)]
  show [UInt8.ofNat (((48 : Int) + m).toNat)] = _
  rw [show ((48 : Int) + m).toNat = 48 + m by omega]

theorem nDig_le : ∀ (d u : Nat), u < 10 ^ d → 1 ≤ d → (Lib.decDigits u).length ≤ d
  | 0, u, _, h1 => absurd h1 (by decide)
  | d + 1, u, h, _ => by
    rw [Lib.decDigits]
    split
    · simp
    · rename_i h10
      cases d with
      | zero => exact absurd h h10
      | succ d =>
        have := nDig_le (d + 1) (u / 10) (by rw [Nat.pow_succ] at h; omega) (by omega)
        simp only [List.length_append, List.length_singleton]
        omega

theorem decLen {u : Nat} (h : u < 18446744073709551616) : (Lib.decDigits u).length ≤ 20 := nDig_le 20 u (by omega) (by decide)

theorem digits_n {β : Type} : ∀ (N u f : Nat), u ≤ N → u < 18446744073709551616 → N < f → ∀ k : List UInt8 → Option β, zq3j f (u : Int) k = k (Lib.decDigits u)
  | N, u, 0, _, _, h => absurd h (Nat.not_lt_zero _)
  | N, u, f + 1, hN, hu, hf => fun k => by
    rw [zq3l]
    unfold zq3g
    refine (c_nneg (by decide)).trans ?_
    have hm : Int.tmod (u : Int) 10 = ((u % 10 : Nat) : Int) := by simp [Int.tmod]
    simp only [hm]
    rw [digit_str (u % 10) (by omega)]
    by_cases h : u < 10
    · refine (c_pos (by omega)).trans (k_eq ?_)
      rw [Lib.decDigits, dif_pos h, show u % 10 = u by omega]
    · refine (c_neg (by omega)).trans ?_
      refine (c_nneg (by decide)).trans ?_
      have hd : Int.tdiv (u : Int) 10 = ((u / 10 : Nat) : Int) := by simp [Int.tdiv]
      rw [hd, u64_nat (by omega)]
      refine (digits_n (N - 1) (u / 10) f (by omega) (by omega) (by omega) _).trans ?_
      have := decLen (u := u / 10) (by omega)
      refine (c_pos (by simp only [List.length_singleton]; omega)).trans (k_eq ?_)
      conv => rhs; rw [Lib.decDigits, dif_neg h]

theorem ref02_digits_eq {β : Type} {u : Nat} (hu : u < 18446744073709551616) (k : List UInt8 → Option β) : zq3m (u : Int) k = k (Lib.decDigits u) := by
  by_cases h : u < 18446744073709551615
  · exact digits_n u u fuel (Nat.le_refl _) hu (lt_fuel (by omega)) k
  · have : u = 18446744073709551615 := by omega
    subst this
    exact digits_n 18446744073709551615 _ fuel (Nat.le_refl _) hu (lt_fuel (by omega)) k

theorem ref02_Decimal_eq {β : Type} {n : Int} (h : -9223372036854775807 ≤ n ∧ n ≤ 9223372036854775807) (k : List UInt8 → Option β) : zq4z n k = k (Lib.itoa n) := by
  unfold zq4z zq4w Lib.itoa
  by_cases hn : n < 0
  · refine (c_pos hn).trans ?_
    rw [if_pos hn, i64_in (n + 1) (by omega), i64_in (0 - (n + 1)) (by omega), u64_mod, u64_mod, show ((0 - (n + 1)) % 18446744073709551616 + 1) % 18446744073709551616 = ((n.natAbs : Nat) : Int) by omega]
    refine (ref02_digits_eq (by omega) _).trans ?_
    have := decLen (u := n.natAbs) (by omega)
    exact c_pos (by simp only [List.length_singleton]; omega)
  · refine (c_neg hn).trans ?_
    rw [if_neg hn, u64_mod, show n % 18446744073709551616 = ((n.toNat : Nat) : Int) by omega]
    exact ref02_digits_eq (by omega) _

theorem itoaLen {n : Int} (h : -9223372036854775807 ≤ n ∧ n ≤ 9223372036854775807) : (Lib.itoa n).length ≤ 21 := by
  unfold Lib.itoa
  split
  · have := decLen (u := n.natAbs) (by omega)
    simp only [List.length_cons]
    omega
  · have := decLen (u := n.toNat) (by omega)
    omega

theorem strconv_Itoa_eq {β : Type} {n : Int} (h : -9223372036854775807 ≤ n ∧ n ≤ 9223372036854775807) (k : List UInt8 → Option β) : zqb n k = k (Lib.itoa n) := by
  unfold zqb itoaF
  rw [decide_eq_true (show -9223372036854775808 ≤ n by omega), decide_eq_true (show n ≤ 9223372036854775807 by omega)]
  rfl

/-- A ratio's text. -/
def textR (r : Rat2) : List UInt8 := if validQ r then (if r.2 = 1 then Lib.itoa r.1 else (Lib.itoa r.1 ++ [47]) ++ Lib.itoa r.2) else []

theorem ratio_Text_eq {β : Type} (r : Rat2) (k : List UInt8 → Option β) : zq5d r k = k (textR r) := by
  unfold zq5d zq5a textR
  refine (ratio_Valid_eq _ _).trans ?_
  cases va : validQ r with
  | false => rfl
  | true =>
    refine (c_ff rfl).trans ?_
    rw [if_pos rfl]
    have A := vb va
    have a1 := A.d1; have a2 := A.d2; have a3 := A.n1; have a4 := A.n2
    have l1 := itoaLen (n := r.1) (by omega)
    have l2 := itoaLen (n := r.2) (by omega)
    by_cases h : r.2 = 1
    · refine (c_pos h).trans ?_
      rw [if_pos h]
      exact strconv_Itoa_eq (by omega) _
    · refine (c_neg h).trans ?_
      rw [if_neg h]
      refine (strconv_Itoa_eq (by omega) _).trans ?_
      refine (c_pos (by simp only [List.length_singleton]; omega)).trans ?_
      refine (strconv_Itoa_eq (by omega) _).trans ?_
      exact c_pos (by simp only [List.length_append, List.length_singleton]; omega)

theorem ref02_Text_eq {β : Type} (r : Rat2) (k : List UInt8 → Option β) : zq6e r k = k (textR r) := by
  unfold zq6e zq6b textR
  refine (ref02_Valid_eq _ _).trans ?_
  cases va : validQ r with
  | false => rfl
  | true =>
    refine (c_ff rfl).trans ?_
    rw [if_pos rfl]
    have A := vb va
    have a1 := A.d1; have a2 := A.d2; have a3 := A.n1; have a4 := A.n2
    have l1 := itoaLen (n := r.1) (by omega)
    have l2 := itoaLen (n := r.2) (by omega)
    by_cases h : r.2 = 1
    · refine (c_pos h).trans ?_
      rw [if_pos h]
      exact ref02_Decimal_eq (by omega) _
    · refine (c_neg h).trans ?_
      rw [if_neg h]
      refine (ref02_Decimal_eq (by omega) _).trans ?_
      refine (c_pos (by simp only [List.length_singleton]; omega)).trans ?_
      refine (ref02_Decimal_eq (by omega) _).trans ?_
      exact c_pos (by simp only [List.length_append, List.length_singleton]; omega)
end
end Go.Lift

/- Texts of numbers: digits, what they spell, how they are read. -/
namespace Go.Lift
open Go.RowKit Go.IntWalk
noncomputable section
set_option linter.unusedVariables false
set_option linter.unusedSimpArgs false
set_option maxRecDepth 10000

def IsDig (c : UInt8) : Prop := 48 ≤ c.toNat ∧ c.toNat ≤ 57
def valF (a : Nat) (l : List UInt8) : Nat := l.foldl (fun a c => a * 10 + (c.toNat - 48)) a

theorem valF_ge : ∀ (l : List UInt8) (a : Nat), a ≤ valF a l
  | [], a => Nat.le_refl _
  | c :: r, a => by
    have := valF_ge r (a * 10 + (c.toNat - 48))
    show a ≤ valF (a * 10 + (c.toNat - 48)) r
    omega

theorem dig_toNat {m : Nat} (h : m < 10) : (UInt8.ofNat (48 + m)).toNat = 48 + m := by
  rw [UInt8.toNat_ofNat']
  omega

theorem dec_dig : ∀ (u : Nat), (∀ c ∈ Lib.decDigits u, IsDig c) ∧ valF 0 (Lib.decDigits u) = u ∧ Lib.decDigits u ≠ [] := by
  intro u
  induction u using Nat.strongRecOn with
  | _ u ih =>
    rw [Lib.decDigits]
    split
    · rename_i h
      refine ⟨fun c hc => ?_, ?_, by simp⟩
      · simp only [List.mem_singleton] at hc
        subst hc
        unfold IsDig
        rw [dig_toNat h]
        omega
      · show 0 * 10 + ((UInt8.ofNat (48 + u)).toNat - 48) = u
        rw [dig_toNat h]
        omega
    · rename_i h
      obtain ⟨h1, h2, h3⟩ := ih (u / 10) (by omega)
      refine ⟨fun c hc => ?_, ?_, by simp⟩
      · rcases List.mem_append.1 hc with hc | hc
        · exact h1 c hc
        · simp only [List.mem_singleton] at hc
          subst hc
          unfold IsDig
          rw [dig_toNat (by omega)]
          omega
      · unfold valF at h2 ⊢
        rw [List.foldl_append, h2]
        show u / 10 * 10 + ((UInt8.ofNat (48 + u % 10)).toNat - 48) = u
        rw [dig_toNat (by omega)]
        omega

theorem parseUint_ok : ∀ (l : List UInt8) (a : Nat), (∀ c ∈ l, IsDig c) → valF a l ≤ 4611686018427387904 → Lib.parseUint10 a l = .ok (valF a l)
  | [], a, _, _ => rfl
  | c :: r, a, hd, hv => by
    have hc := hd c (by simp)
    unfold IsDig at hc
    have hv' : valF (a * 10 + (c.toNat - 48)) r ≤ 4611686018427387904 := hv
    have := valF_ge r (a * 10 + (c.toNat - 48))
    unfold Lib.parseUint10
    rw [if_pos hc, if_neg (by omega), if_neg (by omega), parseUint_ok r _ (fun c h => hd c (by simp [h])) hv']
    rfl

theorem atoi_itoa {n : Int} (h : -4611686018427387904 ≤ n ∧ n ≤ 4611686018427387904) : atoiV (Lib.itoa n) = (n, true) := by
  have key : Lib.atoiAll (Lib.itoa n) = .ok n := by
    unfold Lib.itoa
    split
    · rename_i hn
      obtain ⟨h1, h2, h3⟩ := dec_dig n.natAbs
      unfold Lib.atoiAll
      simp only
      have e : (45 : UInt8).toNat = 45 := rfl
      rw [if_pos (.inr e)]
      have hm : Lib.parseMag (Lib.decDigits n.natAbs) = .ok n.natAbs := by
        unfold Lib.parseMag
        rw [if_neg h3, parseUint_ok _ 0 h1 (by rw [h2]; omega), h2]
      rw [hm]
      simp only [e, not_true_eq_false, false_and, if_false, true_and, if_true]
      rw [if_neg (by omega)]
      congr 1
      omega
    · rename_i hn
      obtain ⟨h1, h2, h3⟩ := dec_dig n.toNat
      have hm : Lib.parseMag (Lib.decDigits n.toNat) = .ok n.toNat := by
        unfold Lib.parseMag
        rw [if_neg h3, parseUint_ok _ 0 h1 (by rw [h2]; omega), h2]
      cases hl : Lib.decDigits n.toNat with
      | nil => exact absurd hl h3
      | cons c r =>
        have hc := h1 c (by rw [hl]; simp)
        unfold IsDig at hc
        unfold Lib.atoiAll
        simp only
        rw [if_neg (by omega), ← hl, hm]
        have hneg : ¬ (c.toNat = 45) := by omega
        simp only [hneg, not_false_eq_true, true_and, false_and, if_false]
        rw [if_neg (by omega)]
        congr 1
        omega
  unfold atoiV
  rw [key]

/-- What the reference's reader of numbers gives. -/
def numF (n : Int) : List UInt8 → Int
  | [] => n
  | c :: r => if (c.toNat : Int) < 48 then -1 else if 57 < (c.toNat : Int) then -1 else if (4611686018427387904 - ((c.toNat : Int) - 48)) / 10 < n then -1 else numF (10 * n + ((c.toNat : Int) - 48)) r

theorem numF_val : ∀ (l : List UInt8) (a : Nat), (∀ c ∈ l, IsDig c) → valF a l ≤ 4611686018427387904 → numF a l = (valF a l : Int)
  | [], a, _, _ => rfl
  | c :: r, a, hd, hv => by
    have hc := hd c (by simp)
    unfold IsDig at hc
    have hv' : valF (a * 10 + (c.toNat - 48)) r ≤ 4611686018427387904 := hv
    have := valF_ge r (a * 10 + (c.toNat - 48))
    have e : (10 * (a : Int) + ((c.toNat : Int) - 48)) = ((a * 10 + (c.toNat - 48) : Nat) : Int) := by omega
    unfold numF
    rw [if_neg (by omega), if_neg (by omega), if_neg (by omega), e, numF_val r _ (fun c h => hd c (by simp [h])) hv']
    rfl

theorem number_n {β : Type} {s : List UInt8} (hs : s.length ≤ 1000) (k : Int → Option β) : ∀ (f : Nat) (rest : List UInt8) (i : Nat) (n : Int), s.drop i = rest → i ≤ s.length → s.length - i < f → 0 ≤ n → n ≤ 4611686018427387904 →
    zq12 f k k s n (i : Int) = k (numF n rest)
  | 0, rest, i, n, _, _, h, _, _ => absurd h (Nat.not_lt_zero _)
  | f + 1, [], i, n, hr, hi, hf, h0, h1 => by
    have : s.length ≤ i := by simpa using hr
    unfold zq12 zqx zqw
    exact c_neg (by omega)
  | f + 1, c :: r, i, n, hr, hi, hf, h0, h1 => by
    have hlt : i < s.length := by
      rcases Nat.lt_or_ge i s.length with h | h
      · exact h
      · rw [List.drop_eq_nil_of_le h] at hr; cases hr
    have hget : List.getD s (Int.toNat (i : Int)) 0 = c := by
      have : s[i]? = some c := by
        have := congrArg (·[0]?) hr
        simpa using this
      rw [Int.toNat_natCast, List.getD_eq_getElem?_getD, this]
      rfl
    have hdrop : s.drop (i + 1) = r := by
      rw [← List.drop_drop, hr]
      rfl
    have hb := c.toNat_lt
    unfold zq12 zqx zqw numF
    rw [hget]
    refine (c_pos (by omega)).trans ?_
    refine (c_inb (by omega)).trans ?_
    by_cases g1 : (c.toNat : Int) < 48
    · refine (c_pos g1).trans ?_
      rw [if_pos g1]
    · refine (c_neg g1).trans ?_
      rw [if_neg g1]
      refine (c_inb (by omega)).trans ?_
      by_cases g2 : (57 : Int) < (c.toNat : Int)
      · refine (c_pos g2).trans ?_
        rw [if_pos g2]
      · refine (c_neg g2).trans ?_
        rw [if_neg g2]
        refine (c_inb (by omega)).trans ?_
        refine (c_nneg (by decide)).trans ?_
        have w1 : IntKind.u8.wrap ((c.toNat : Int) - 48) = (c.toNat : Int) - 48 := u8_in _ (by omega)
        have w2 : IntKind.i64.wrap ((c.toNat : Int) - 48) = (c.toNat : Int) - 48 := i64_in _ (by omega)
        have w3 : IntKind.i64.wrap (4611686018427387904 - ((c.toNat : Int) - 48)) = 4611686018427387904 - ((c.toNat : Int) - 48) := i64_in _ (by omega)
        have w4 : Int.tdiv (4611686018427387904 - ((c.toNat : Int) - 48)) 10 = (4611686018427387904 - ((c.toNat : Int) - 48)) / 10 := Int.tdiv_eq_ediv_of_nonneg (by omega)
        rw [w1, w2, w3, w4, i64_in ((4611686018427387904 - ((c.toNat : Int) - 48)) / 10) (by omega)]
        by_cases g3 : (4611686018427387904 - ((c.toNat : Int) - 48)) / 10 < n
        · refine (c_pos g3).trans ?_
          rw [if_pos g3]
        · refine (c_neg g3).trans ?_
          rw [if_neg g3]
          refine (c_inb (by omega)).trans ?_
          rw [i64_in (10 * n) (by omega), i64_in (10 * n + ((c.toNat : Int) - 48)) (by omega), i64_in ((i : Int) + 1) (by omega)]
          exact number_n hs k f r (i + 1) _ hdrop (by omega) (by omega) (by omega) (by omega)

theorem ref02_number_eq {β : Type} {s : List UInt8} (hs : s.length ≤ 1000) (k : Int → Option β) : zq16 s k = k (numF 0 s) := by
  unfold zq16 zqz zq14
  exact number_n hs k fuel s 0 0 rfl (Nat.zero_le _) (lt_fuel (by omega)) (by decide) (by decide)
end
end Go.Lift

/- Ratios are read from texts: the code and the reference. -/
namespace Go.Lift
open Go.RowKit Go.IntWalk
noncomputable section
set_option linter.unusedVariables false
set_option linter.unusedSimpArgs false
set_option maxRecDepth 10000

/-! ### The code -/
def codeR (text : List UInt8) : Rat2 := ((atoiV (Lib.cut text [47]).1).1, if (Lib.cut text [47]).2.2 = true then (atoiV (Lib.cut text [47]).2.1).1 else 1)
def codeOk (text : List UInt8) : Bool := (atoiV (Lib.cut text [47]).1).2 && (if (Lib.cut text [47]).2.2 = true then (atoiV (Lib.cut text [47]).2.1).2 else true)

theorem cut_len (s sep : List UInt8) : (Lib.cut s sep).1.length ≤ s.length ∧ (Lib.cut s sep).2.1.length ≤ s.length := by
  unfold Lib.cut
  split
  · simp only [List.length_take, List.length_drop]
    omega
  · simp

theorem Atoi_eq {β : Type} {s : List UInt8} (hs : s.length ≤ 1000) (k : Int → Bool → Option β) : zqn s k = k (atoiV s).1 (atoiV s).2 := by
  unfold zqn atoiF
  exact c_pos (by omega)

theorem Parse_end {β : Type} (text : List UInt8) (e f : Bool) (r : Rat2) (k : Rat2 → Int → Option β) :
    zq5r (fun t3 t2 t22 => k (t2, t22) t3) text e f 0 0 r.1 r.2 = cond ((e && f) && (!decide (text = []) && decide (textR r = text))) (k r 0) (k (0, 0) 2) := by
  unfold zq5r zq5m zq5l
  cases e with
  | false => rfl
  | true =>
    refine (c_ff rfl).trans ?_
    cases f with
    | false => rfl
    | true =>
      refine (c_ff rfl).trans ?_
      by_cases h : text = []
      · refine (c_pos h).trans ?_
        rw [decide_eq_true h]
        rfl
      · refine (c_neg h).trans ?_
        refine (ratio_Text_eq _ _).trans ?_
        rw [decide_eq_false h]
        by_cases h2 : textR r = text
        · refine (c_npos h2).trans ?_
          rw [decide_eq_true h2]
          rfl
        · refine (c_nneg h2).trans ?_
          rw [decide_eq_false h2]
          rfl

theorem ratio_Parse_eq {β : Type} {text : List UInt8} (ht : text.length ≤ 1000) (k : Rat2 → Int → Option β) :
    zq5t text k = cond (codeOk text && (!decide (text = []) && decide (textR (codeR text) = text))) (k (codeR text) 0) (k (0, 0) 2) := by
  have hl := cut_len text [47]
  unfold zq5t zq5o zqh cutF
  refine (c_pos (by omega)).trans ?_
  refine (Atoi_eq (by omega) _).trans ?_
  unfold codeOk codeR
  cases hc : (Lib.cut text [47]).2.2 with
  | true =>
    refine (c_tt rfl).trans ?_
    refine (Atoi_eq (by omega) _).trans ?_
    exact Parse_end text _ _ ((atoiV (Lib.cut text [47]).1).1, (atoiV (Lib.cut text [47]).2.1).1) k
  | false =>
    refine (c_ff rfl).trans ?_
    exact Parse_end text _ _ ((atoiV (Lib.cut text [47]).1).1, 1) k

/-! ### The reference -/
def spF (text pre : List UInt8) : List UInt8 → List UInt8 × Int
  | [] => (text, 1)
  | c :: r => if (c.toNat : Int) = 47 then (pre, numF 0 r) else spF text (pre ++ [c]) r
def signV (s : List UInt8) : Int := if ((List.getD s 0 0).toNat : Int) = 45 then IntKind.i64.wrap (-1 * numF 0 (s.drop 1)) else IntKind.i64.wrap (1 * numF 0 s)
def refR (text : List UInt8) : Rat2 := (signV (spF text [] text).1, (spF text [] text).2)

theorem spF_len : ∀ (l text pre : List UInt8), (spF text pre l).1.length ≤ max text.length (pre.length + l.length)
  | [], text, pre => by simp only [spF]; omega
  | c :: r, text, pre => by
    unfold spF
    split
    · simp only [List.length_cons]; omega
    · have := spF_len r text (pre ++ [c])
      simp only [List.length_append, List.length_cons, List.length_nil] at this ⊢
      omega

theorem sp_n {β : Type} {text : List UInt8} (ht : text.length ≤ 1000) (k1 : List UInt8 → List UInt8 → Int → Int → Int → Option β) : ∀ (f : Nat) (rest pre : List UInt8), text = pre ++ rest → rest.length < f →
    zq76 f k1 text text 1 (pre.length : Int) 0 0 = k1 text (spF text pre rest).1 (spF text pre rest).2 0 0
  | 0, rest, pre, _, h => absurd h (Nat.not_lt_zero _)
  | f + 1, [], pre, he, hf => by
    have hl : text.length = pre.length := by rw [he]; simp
    unfold zq76 zq6y zq6x spF
    exact c_neg (by omega)
  | f + 1, c :: r, pre, he, hf => by
    have hl : text.length = pre.length + (r.length + 1) := by rw [he]; simp
    have hget : List.getD text (Int.toNat (pre.length : Int)) 0 = c := by
      rw [Int.toNat_natCast, List.getD_eq_getElem?_getD, he, List.getElem?_append_right (Nat.le_refl _)]
      simp
    unfold zq76 zq6y zq6x spF
    rw [hget]
    refine (c_pos (by omega)).trans ?_
    refine (c_inb (by omega)).trans ?_
    rw [i64_in ((pre.length : Int) + 1) (by omega)]
    by_cases h : (c.toNat : Int) = 47
    · refine (c_pos h).trans ?_
      rw [if_pos h]
      refine (c_tt (by simp only [Bool.and_eq_true, decide_eq_true_eq]; omega)).trans ?_
      refine (c_tt (by simp only [Bool.and_eq_true, decide_eq_true_eq]; omega)).trans ?_
      have e1 : List.drop (Int.toNat ((pre.length : Int) + 1)) (List.take (Int.toNat (text.length : Int)) text) = r := by
        rw [show Int.toNat ((pre.length : Int) + 1) = pre.length + 1 by omega, Int.toNat_natCast, List.take_length, he, ← List.drop_drop, List.drop_left]
        rfl
      have e2 : List.drop (Int.toNat (0 : Int)) (List.take (Int.toNat (pre.length : Int)) text) = pre := by
        rw [Int.toNat_natCast, he, List.take_left]
        rfl
      rw [e1, e2]
      exact ref02_number_eq (by omega) _
    · refine (c_neg h).trans ?_
      rw [if_neg h]
      have := sp_n ht k1 f r (pre ++ [c]) (by rw [he]; simp) (by simpa using hf)
      rw [show (((pre ++ [c]).length : Nat) : Int) = (pre.length : Int) + 1 by simp] at this
      exact this

theorem Parse2_end {β : Type} {text s : List UInt8} (hs : s.length ≤ 1000) (den sign : Int) (k : Rat2 → Int → Option β) :
    zq7a (fun t3 t23 t24 => k (t23, t24) t3) text s den sign 0 0 = cond (!decide (text = []) && decide (textR (IntKind.i64.wrap (sign * numF 0 s), den) = text)) (k (IntKind.i64.wrap (sign * numF 0 s), den) 0) (k (0, 0) 2) := by
  unfold zq7a zq71 zq70
  refine (ref02_number_eq hs _).trans ?_
  by_cases h : text = []
  · refine (c_pos h).trans ?_
    rw [decide_eq_true h]
    rfl
  · refine (c_neg h).trans ?_
    refine (ref02_Text_eq _ _).trans ?_
    rw [decide_eq_false h]
    by_cases h2 : textR (IntKind.i64.wrap (sign * numF 0 s), den) = text
    · refine (c_npos h2).trans ?_
      rw [decide_eq_true h2]
      rfl
    · refine (c_nneg h2).trans ?_
      rw [decide_eq_false h2]
      rfl

theorem ref02_Parse_eq {β : Type} {text : List UInt8} (ht : text.length ≤ 1000) (k : Rat2 → Int → Option β) :
    zq7c text k = cond (!decide (text = []) && decide (textR (refR text) = text)) (k (refR text) 0) (k (0, 0) 2) := by
  unfold zq7c zq73 zq78
  refine (sp_n ht _ fuel text [] rfl (lt_fuel (by omega))).trans ?_
  have hl := spF_len text text []
  simp only [List.length_nil] at hl
  unfold refR
  generalize spF text [] text = sp at *
  obtain ⟨s, den⟩ := sp
  simp only at hl ⊢
  unfold signV
  by_cases h : s = []
  · subst h
    refine (c_npos rfl).trans ?_
    rw [if_neg (by decide)]
    exact Parse2_end (by simp) den 1 k
  · refine (c_nneg h).trans ?_
    have hpos : 0 < s.length := List.length_pos_iff.2 h
    refine (c_inb (by omega)).trans ?_
    by_cases h2 : ((List.getD s 0 0).toNat : Int) = 45
    · refine (c_pos h2).trans ?_
      rw [if_pos h2]
      refine (c_tt (by simp only [Bool.and_eq_true, decide_eq_true_eq]; omega)).trans ?_
      have e : List.drop (Int.toNat (1 : Int)) (List.take (Int.toNat (s.length : Int)) s) = s.drop 1 := by
        rw [Int.toNat_natCast, List.take_length]
        rfl
      rw [e]
      exact Parse2_end (by simp only [List.length_drop]; omega) den (-1) k
    · refine (c_neg h2).trans ?_
      rw [if_neg h2]
      exact Parse2_end (by omega) den 1 k
end
end Go.Lift

/- RatioTexts: which texts are read, and as what. -/
namespace Go.Lift
open Go.RowKit Go.IntWalk
noncomputable section
set_option linter.unusedVariables false
set_option linter.unusedSimpArgs false
set_option maxRecDepth 10000

def No47 (l : List UInt8) : Prop := ∀ c ∈ l, c ≠ 47

theorem ne47 {c : UInt8} (h : c.toNat ≠ 47) : c ≠ 47 := fun e => h (by rw [e]; rfl)
theorem ne47' {c : UInt8} (h : c ≠ 47) : ¬ ((c.toNat : Int) = 47) := fun e => h (UInt8.toNat_inj.1 (by show c.toNat = 47; omega))

theorem itoa_no (n : Int) : No47 (Lib.itoa n) := by
  intro c hc
  unfold Lib.itoa at hc
  split at hc
  · rcases List.mem_cons.1 hc with rfl | hc
    · decide
    · have := (dec_dig n.natAbs).1 c hc
      unfold IsDig at this
      exact ne47 (by omega)
  · have := (dec_dig n.toNat).1 c hc
    unfold IsDig at this
    exact ne47 (by omega)

theorem idx_none : ∀ {l : List UInt8}, No47 l → Lib.index l [47] = -1
  | [], _ => rfl
  | c :: r, h => by
    have h1 : c ≠ 47 := h c (by simp)
    have h2 := idx_none (l := r) fun c hc => h c (by simp [hc])
    unfold Lib.index
    have h3 : ¬ ((47 : UInt8) = c) := fun e => h1 e.symm
    rw [h2]
    simp [List.isPrefixOf, h3]

theorem idx_hit : ∀ {a b : List UInt8}, No47 a → Lib.index (a ++ 47 :: b) [47] = a.length
  | [], b, _ => by
    show Lib.index (47 :: b) [47] = _
    unfold Lib.index
    simp [List.isPrefixOf]
  | c :: r, b, h => by
    have h1 : c ≠ 47 := h c (by simp)
    have h2 := idx_hit (a := r) (b := b) fun c hc => h c (by simp [hc])
    show Lib.index (c :: (r ++ 47 :: b)) [47] = _
    unfold Lib.index
    have h3 : ¬ ((47 : UInt8) = c) := fun e => h1 e.symm
    rw [h2]
    have h4 : ¬ ((r.length : Int) = -1) := by omega
    simp [List.isPrefixOf, h3, h4]

theorem cut_none {l : List UInt8} (h : No47 l) : Lib.cut l [47] = (l, [], false) := by
  unfold Lib.cut
  rw [idx_none h]
  rfl

theorem cut_hit {a b : List UInt8} (h : No47 a) : Lib.cut (a ++ 47 :: b) [47] = (a, b, true) := by
  unfold Lib.cut
  rw [idx_hit h, if_pos (by omega), Int.toNat_natCast, List.take_left]
  congr 2
  rw [← List.drop_drop, List.drop_left]
  rfl

theorem sp_none : ∀ {l : List UInt8} (text pre : List UInt8), No47 l → spF text pre l = (text, 1)
  | [], _, _, _ => rfl
  | c :: r, text, pre, h => by
    unfold spF
    rw [if_neg (ne47' (h c (by simp)))]
    exact sp_none text (pre ++ [c]) fun c hc => h c (by simp [hc])

theorem sp_hit : ∀ {a : List UInt8} (b text pre : List UInt8), No47 a → spF text pre (a ++ 47 :: b) = (pre ++ a, numF 0 b)
  | [], b, text, pre, _ => by
    show spF text pre (47 :: b) = _
    unfold spF
    refine (if_pos rfl).trans ?_
    rw [List.append_nil]
  | c :: r, b, text, pre, h => by
    show spF text pre (c :: (r ++ 47 :: b)) = _
    unfold spF
    rw [if_neg (ne47' (h c (by simp))), sp_hit b text (pre ++ [c]) fun c hc => h c (by simp [hc])]
    simp

theorem num_dec {u : Nat} (h : u ≤ 4611686018427387904) : numF 0 (Lib.decDigits u) = u := by
  obtain ⟨h1, h2, _⟩ := dec_dig u
  have := numF_val (Lib.decDigits u) 0 h1 (by rw [h2]; exact h)
  rw [h2] at this
  exact this

theorem sign_itoa {n : Int} (h : -4611686018427387904 ≤ n ∧ n ≤ 4611686018427387904) : signV (Lib.itoa n) = n := by
  unfold Lib.itoa signV
  by_cases hn : n < 0
  · rw [if_pos hn]
    refine (if_pos rfl).trans ?_
    rw [List.drop_one, List.tail_cons, num_dec (by omega), i64_in _ (by omega)]
    omega
  · rw [if_neg hn]
    obtain ⟨h1, h2, h3⟩ := dec_dig n.toNat
    have hne : ¬ (((List.getD (Lib.decDigits n.toNat) 0 0).toNat : Int) = 45) := by
      cases hl : Lib.decDigits n.toNat with
      | nil => exact absurd hl h3
      | cons c r =>
        have := h1 c (by rw [hl]; simp)
        unfold IsDig at this
        show ¬ ((c.toNat : Int) = 45)
        omega
    rw [if_neg hne, num_dec (by omega), i64_in _ (by omega)]
    omega

theorem itoa_ne (n : Int) : Lib.itoa n ≠ [] := by
  unfold Lib.itoa
  split
  · simp
  · exact (dec_dig _).2.2

theorem read_back {q : Rat2} (hq : validQ q = true) : codeOk (textR q) = true ∧ codeR (textR q) = q ∧ refR (textR q) = q ∧ textR q ≠ [] := by
  have Q := vb hq
  have q1 := Q.d1; have q2 := Q.d2; have q3 := Q.n1; have q4 := Q.n2
  unfold textR
  rw [if_pos hq]
  by_cases h : q.2 = 1
  · rw [if_pos h]
    unfold codeOk codeR refR
    rw [cut_none (itoa_no q.1), sp_none _ _ (itoa_no q.1), atoi_itoa ⟨q3, q4⟩]
    refine ⟨rfl, ?_, ?_, itoa_ne _⟩
    · exact Prod.ext rfl h.symm
    · exact Prod.ext (sign_itoa ⟨q3, q4⟩) h.symm
  · rw [if_neg h]
    have e : (Lib.itoa q.1 ++ [47]) ++ Lib.itoa q.2 = Lib.itoa q.1 ++ 47 :: Lib.itoa q.2 := by simp
    rw [e]
    unfold codeOk codeR refR
    rw [cut_hit (itoa_no q.1), sp_hit _ _ _ (itoa_no q.1)]
    simp only [if_true, List.nil_append]
    rw [atoi_itoa ⟨q3, q4⟩, atoi_itoa (n := q.2) ⟨by omega, q2⟩]
    refine ⟨rfl, rfl, ?_, by simp⟩
    refine Prod.ext (sign_itoa ⟨q3, q4⟩) ?_
    show numF 0 (Lib.itoa q.2) = q.2
    unfold Lib.itoa
    rw [if_neg (by omega), num_dec (by omega)]
    omega

theorem textR_valid {q : Rat2} (h : textR q ≠ []) : validQ q = true := by
  cases hq : validQ q with
  | true => rfl
  | false => exact absurd (by unfold textR; rw [hq]; rfl) h

theorem parse_both {text : List UInt8} (ht : text.length ≤ 1000) : ∃ (r : Rat2) (e : Int), (∀ (β : Type) (k : Rat2 → Int → Option β), zq5t text k = k r e) ∧ (∀ (β : Type) (k : Rat2 → Int → Option β), zq7c text k = k r e) ∧
    ∀ q, validQ q = true → textR q = text → r = q ∧ e = 0 := by
  by_cases h : ∃ q, validQ q = true ∧ textR q = text
  · obtain ⟨q, hq, rfl⟩ := h
    obtain ⟨h1, h2, h3, h4⟩ := read_back hq
    refine ⟨q, 0, fun β k => ?_, fun β k => ?_, fun q' hq' he => ⟨?_, rfl⟩⟩
    · rw [ratio_Parse_eq ht, h1, h2, decide_eq_false h4, decide_eq_true rfl]
      rfl
    · rw [ref02_Parse_eq ht, h3, decide_eq_false h4, decide_eq_true rfl]
      rfl
    · have := (read_back hq').2.1
      rw [he, h2] at this
      exact this
  · refine ⟨(0, 0), 2, fun β k => ?_, fun β k => ?_, fun q hq he => absurd ⟨q, hq, he⟩ h⟩
    · rw [ratio_Parse_eq ht]
      refine c_ff ?_
      by_cases h1 : text = []
      · rw [decide_eq_true h1]; simp
      · by_cases h2 : textR (codeR text) = text
        · exact absurd ⟨_, textR_valid (by rw [h2]; exact h1), h2⟩ h
        · rw [decide_eq_false h2]; simp
    · rw [ref02_Parse_eq ht]
      refine c_ff ?_
      by_cases h1 : text = []
      · rw [decide_eq_true h1]; simp
      · by_cases h2 : textR (refR text) = text
        · exact absurd ⟨_, textR_valid (by rw [h2]; exact h1), h2⟩ h
        · rw [decide_eq_false h2]; simp

theorem texts_step {β : Type} (f : Nat) (k1 : zq7g β) (k2 : zq7h β) (s t1 t2 t3 t4 t5 t6 : List UInt8) (i x x2 : Int) (h0 : 0 ≤ i) (h6 : i < 6) (hl : ∀ c ∈ [t1, t2, t3, t4, t5, t6], c.length ≤ 1000) :
    zq7r (f + 1) k1 k2 s t1 t2 t3 t4 t5 t6 i x x2 = zq7r f k1 k2 s t1 t2 t3 t4 t5 t6 (i + 1) x x2 := by
  have hm : (List.getD [t1, t2, t3, t4, t5, t6] (Int.toNat i) []).length ≤ 1000 := by
    rw [List.getD_eq_getElem?_getD]
    cases hg : ([t1, t2, t3, t4, t5, t6] : List (List UInt8))[Int.toNat i]? with
    | none => simp
    | some c => exact hl c (List.mem_of_getElem? hg)
  obtain ⟨r, e, p1, p2, _⟩ := parse_both hm
  conv => lhs; unfold zq7r zq7m zq7l
  refine (c_pos h6).trans ?_
  refine (c_inb (by simp only [List.length_cons, List.length_nil]; omega)).trans ?_
  simp only
  generalize List.getD _ (Int.toNat i) _ = t at *
  refine (p1 _ _).trans ?_
  refine (p2 _ _).trans ?_
  refine (c_ff (by rw [eq2_iff]; simp)).trans ?_
  refine (c_ff (by simp)).trans ?_
  rw [i64_in (i + 1) (by omega)]
  rfl

theorem texts_end {β : Type} (f : Nat) (k1 : zq7g β) (k2 : zq7h β) (s t1 t2 t3 t4 t5 t6 : List UInt8) (x x2 : Int) :
    zq7r (f + 1) k1 k2 s t1 t2 t3 t4 t5 t6 6 x x2 = k2 s x x2 := by
  unfold zq7r zq7m zq7l
  exact c_neg (by decide)

theorem textLen {q : Rat2} (hq : validQ q = true) : (textR q).length ≤ 43 := by
  have Q := vb hq
  have q1 := Q.d1; have q2 := Q.d2; have q3 := Q.n1; have q4 := Q.n2
  have l1 := itoaLen (n := q.1) (by omega)
  have l2 := itoaLen (n := q.2) (by omega)
  unfold textR
  rw [if_pos hq]
  split
  · omega
  · simp only [List.length_append, List.length_cons, List.length_nil]
    omega

theorem law_texts {β : Type} (text : List UInt8) (num den : Int) (k : Bool → Option β) : zq7v text num den k = k true := by
  obtain ⟨x, hx, dx⟩ := draw_eq num den
  have hxl := textLen hx
  unfold zq7v zq7o
  by_cases h : (100 : Int) < (text.length : Int)
  · exact (c_pos h).trans (law02_sane_eq _)
  · refine (c_neg h).trans ?_
    refine (dx _ _).trans ?_
    refine (ratio_Text_eq _ _).trans ?_
    refine (c_pos (by simp only [List.length_cons, List.length_nil]; omega)).trans ?_
    refine (c_pos (by simp only [List.length_cons, List.length_nil]; omega)).trans ?_
    refine (c_pos (by simp only [List.length_cons, List.length_nil]; omega)).trans ?_
    refine (c_pos (by simp only [List.length_cons, List.length_nil]; omega)).trans ?_
    have hl : ∀ c ∈ [text, textR x, textR x ++ ([47, 49] : List UInt8), ([43] : List UInt8) ++ textR x, ([45] : List UInt8) ++ textR x, ([48] : List UInt8) ++ textR x], c.length ≤ 1000 := by
      intro c hc
      simp only [List.mem_cons, List.not_mem_nil, or_false] at hc
      rcases hc with rfl | rfl | rfl | rfl | rfl | rfl <;> (try simp only [List.length_append, List.length_cons, List.length_nil]) <;> omega
    unfold zq7t
    rw [show fuel = 18446744073709551609 + 1 + 1 + 1 + 1 + 1 + 1 + 1 from rfl]
    refine (texts_step _ _ _ _ _ _ _ _ _ _ 0 _ _ (by decide) (by decide) hl).trans ?_
    refine (texts_step _ _ _ _ _ _ _ _ _ _ (0 + 1) _ _ (by decide) (by decide) hl).trans ?_
    refine (texts_step _ _ _ _ _ _ _ _ _ _ (0 + 1 + 1) _ _ (by decide) (by decide) hl).trans ?_
    refine (texts_step _ _ _ _ _ _ _ _ _ _ (0 + 1 + 1 + 1) _ _ (by decide) (by decide) hl).trans ?_
    refine (texts_step _ _ _ _ _ _ _ _ _ _ (0 + 1 + 1 + 1 + 1) _ _ (by decide) (by decide) hl).trans ?_
    refine (texts_step _ _ _ _ _ _ _ _ _ _ (0 + 1 + 1 + 1 + 1 + 1) _ _ (by decide) (by decide) hl).trans ?_
    refine (texts_end _ _ _ _ _ _ _ _ _ _ _ _).trans ?_
    obtain ⟨r, e, p1, _, p3⟩ := parse_both (text := textR x) (by omega)
    obtain ⟨rfl, rfl⟩ := p3 x hx rfl
    refine (p1 _ _).trans ?_
    refine (c_pos rfl).trans ?_
    refine (c_tt (by rw [eq2_iff]; simp)).trans ?_
    exact law02_sane_eq _
end
end Go.Lift

