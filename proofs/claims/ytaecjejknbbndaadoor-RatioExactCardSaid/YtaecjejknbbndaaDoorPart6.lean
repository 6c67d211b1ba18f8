/- Part6: Fn0, LBase, LRatio, LRat, LRat2, LRat3, LRatFn, LRatFn2, LRatSane, LRatFn3, LRatRef, LRatOrder, LRatRef2, LRatExact. -/
import Derived.Test.YtaecjejknbbndaaDoorProg
import Derived.KernelRfl
import Derived.Test.YtaecjejknbbndaaDoorPart5
namespace Go.Lift
open Go.Proofs
noncomputable section
set_option maxRecDepth 100000
set_option linter.unusedVariables false



def tab : List (Nat × TI) := [
  (3, ⟨false, 1, 8, [.int .i64 (0 : Int)], [], none, none, (some (.int .i64)), (some .i64), false, false, none, none⟩),
  (4, ⟨false, 1, 1, [.bool false], [], none, none, (some .bool), none, true, false, none, none⟩),
  (5, ⟨false, 1, 1, [.int .u8 (0 : Int)], [], none, none, (some (.int .u8)), (some .u8), false, false, none, none⟩),
  (9, ⟨false, 1, 16, [.str ([] : List UInt8)], [], none, none, (some .str), none, false, true, none, none⟩),
  (24, ⟨true, 2, 16, [.int .i64 (0 : Int), .int .i64 (0 : Int)], [(0, 1, false), (1, 1, false)], none, none, (some (.prod (.int .i64) (.int .i64))), none, false, false, (some [.i, .i]), none⟩),
  (38, ⟨true, 4, 32, [.int .i64 (0 : Int), .int .i64 (0 : Int), .int .i64 (0 : Int), .int .i64 (0 : Int)], [], (some 24), (some 2), (some (.prod (.prod (.int .i64) (.int .i64)) (.prod (.int .i64) (.int .i64)))), none, false, false, none, none⟩),
  (39, ⟨true, 16, 128, [.int .i64 (0 : Int), .int .i64 (0 : Int), .int .i64 (0 : Int), .int .i64 (0 : Int), .int .i64 (0 : Int), .int .i64 (0 : Int), .int .i64 (0 : Int), .int .i64 (0 : Int), .int .i64 (0 : Int), .int .i64 (0 : Int), .int .i64 (0 : Int), .int .i64 (0 : Int), .int .i64 (0 : Int), .int .i64 (0 : Int), .int .i64 (0 : Int), .int .i64 (0 : Int)], [], (some 38), (some 4), (some (.prod (.prod (.prod (.int .i64) (.int .i64)) (.prod (.int .i64) (.int .i64))) (.prod (.prod (.prod (.int .i64) (.int .i64)) (.prod (.int .i64) (.int .i64))) (.prod (.prod (.prod (.int .i64) (.int .i64)) (.prod (.int .i64) (.int .i64))) (.prod (.prod (.int .i64) (.int .i64)) (.prod (.int .i64) (.int .i64))))))), none, false, false, none, none⟩),
  (46, ⟨false, 1, 16, [.err true], [], none, none, (some .err), none, false, false, none, none⟩),
  (55, ⟨false, 1, 8, [.int .u64 (0 : Int)], [], none, none, (some (.int .u64)), (some .u64), false, false, none, none⟩),
  (62, ⟨false, 1, 24, [.nils], [], (some 5), none, (some (.slice (.int .u8))), none, false, false, none, none⟩)]

theorem tab_ok : TOk Tryd.prog (look tab) := TOk_of (by kernel_rfl)
theorem mixed : Tryd.prog.follows .mixedOrders = true := by kernel_rfl

/-- pagewatch/pagewatchmade.Mod -/
abbrev zq0 := {β : Type} → Int → Int → (Int → Option β) → Option β
def zq1 (c : zq0) : Spec :=
  ⟨[(false, [.data (.int .i64)]), (false, [.data (.int .i64)])], [], [(false, [.data (.int .i64)])], [], fun x k => c x.1.1.1 x.1.2.1.1 (fun r0 => k (((r0, ()), ()), ()))⟩
section
@[reducible] def made_Mod_X : Ctx := ⟨look tab, pick1 [], false, false, false⟩
def zq2 {β : Type} (x : Int) (n : Int) (k : (Int → Option β)) : Option β :=
  cond (!decide (n = 0))
  (cond (!decide (n = 0))
  (let t : Int := (Int.tmod (IntKind.i64.wrap ((Int.tmod x n) + n)) n);
  k t)
  none)
  none
theorem zq3 (hΓ : ΓOk Tryd.prog made_Mod_X.Γ) : SpecOk Tryd.prog 18 (zq1 (zq2)) :=
  spec_exec (X := made_Mod_X) (Λ := pick1 []) (rs := [.tmp 4]) (c := bodyOf Tryd.f18) mixed tab_ok hΓ Tryd.func18 (by kernel_rfl) (by kernel_rfl) (by kernel_rfl) (by kernel_rfl) CutsOk_nil (fun x k r h => Eq.trans (b := (zq1 (zq2)).run x k) (by kernel_rfl) h)
end
theorem zq4Γ : ΓOk Tryd.prog (pick1 []) := ΓOk_nil
def zq5 : zq0 := zq2
theorem zq6 : SpecOk Tryd.prog 18 (zq1 zq5) := zq3 zq4Γ

/-- strconv.Itoa -/
def zq7 : Shelf.Ren :=
      { 
      f := fun x =>
        match x with
        | 171 => 29
        | 243 => 46
        | 246 => 52
        | 283 => 59
        | 284 => 60
        | 285 => 61
        | 286 => 62
        | 129 => 71
        | 317 => 70
        | 318 => 72
        | 319 => 73
        | 320 => 74
        | 337 => 79
        | 338 => 80
        | n => n,
      t := fun x =>
        match x with
        | 3 => 3
        | 9 => 9
        | 2 => 2
        | 4 => 4
        | 171 => 69
        | 0 => 0
        | 53 => 55
        | 37 => 62
        | 5 => 5
        | 173 => 72
        | 212 => 82
        | 51 => 83
        | 20 => 20
        | 213 => 84
        | 46 => 68
        | 232 => 95
        | 233 => 96
        | n => n,
      g := fun x =>
        match x with
        | 17 => 3
        | 18 => 4
        | 19 => 5
        | n => n }
theorem zq8 : Go.Proofs.LaysM.n171 Tryd.prog zq7 :=
  { mixed := by kernel_rfl,
    f129 := Eq.trans Tryd.func71 (congrArg some (by kernel_rfl)),
    f171 := Eq.trans Tryd.func29 (congrArg some (by kernel_rfl)),
    f243 := Eq.trans Tryd.func46 (congrArg some (by kernel_rfl)),
    f246 := Eq.trans Tryd.func52 (congrArg some (by kernel_rfl)),
    f283 := Eq.trans Tryd.func59 (congrArg some (by kernel_rfl)),
    f284 := Eq.trans Tryd.func60 (congrArg some (by kernel_rfl)),
    f285 := Eq.trans Tryd.func61 (congrArg some (by kernel_rfl)),
    f286 := Eq.trans Tryd.func62 (congrArg some (by kernel_rfl)),
    f317 := Eq.trans Tryd.func70 (congrArg some (by kernel_rfl)),
    f318 := Eq.trans Tryd.func72 (congrArg some (by kernel_rfl)),
    f319 := Eq.trans Tryd.func73 (congrArg some (by kernel_rfl)),
    f320 := Eq.trans Tryd.func74 (congrArg some (by kernel_rfl)),
    f337 := Eq.trans Tryd.func79 (congrArg some (by kernel_rfl)),
    f338 := Eq.trans Tryd.func80 (congrArg some (by kernel_rfl)),
    t0 := Tryd.underlying0,
    a0 := Tryd.isAgg0,
    z0 := Tryd.sizeOf0,
    v0 := Tryd.zeroValue0,
    t2 := Tryd.underlying2,
    a2 := Tryd.isAgg2,
    z2 := Tryd.sizeOf2,
    v2 := Tryd.zeroValue2,
    t3 := Tryd.underlying3,
    a3 := Tryd.isAgg3,
    z3 := Tryd.sizeOf3,
    v3 := Tryd.zeroValue3,
    t4 := Tryd.underlying4,
    a4 := Tryd.isAgg4,
    z4 := Tryd.sizeOf4,
    v4 := Tryd.zeroValue4,
    t5 := Tryd.underlying5,
    a5 := Tryd.isAgg5,
    z5 := Tryd.sizeOf5,
    v5 := Tryd.zeroValue5,
    t9 := Tryd.underlying9,
    a9 := Tryd.isAgg9,
    z9 := Tryd.sizeOf9,
    v9 := Tryd.zeroValue9,
    t20 := Tryd.underlying20,
    a20 := Tryd.isAgg20,
    z20 := Tryd.sizeOf20,
    v20 := Tryd.zeroValue20,
    t37 := Tryd.underlying62,
    a37 := Tryd.isAgg62,
    z37 := Tryd.sizeOf62,
    v37 := Tryd.zeroValue62,
    t46 := Tryd.underlying68,
    a46 := Tryd.isAgg68,
    z46 := Tryd.sizeOf68,
    v46 := Tryd.zeroValue68,
    t51 := Tryd.underlying83,
    a51 := Tryd.isAgg83,
    z51 := Tryd.sizeOf83,
    v51 := Tryd.zeroValue83,
    t53 := Tryd.underlying55,
    a53 := Tryd.isAgg55,
    z53 := Tryd.sizeOf55,
    v53 := Tryd.zeroValue55,
    t171 := Tryd.underlying69,
    a171 := Tryd.isAgg69,
    z171 := Tryd.sizeOf69,
    v171 := Tryd.zeroValue69,
    t173 := Tryd.underlying72,
    a173 := Tryd.isAgg72,
    z173 := Tryd.sizeOf72,
    v173 := Tryd.zeroValue72,
    t212 := Tryd.underlying82,
    a212 := Tryd.isAgg82,
    z212 := Tryd.sizeOf82,
    v212 := Tryd.zeroValue82,
    t213 := Tryd.underlying84,
    a213 := Tryd.isAgg84,
    z213 := Tryd.sizeOf84,
    t232 := Tryd.underlying95,
    a232 := Tryd.isAgg95,
    z232 := Tryd.sizeOf95,
    v232 := Tryd.zeroValue95,
    t233 := Tryd.underlying96,
    a233 := Tryd.isAgg96,
    z233 := Tryd.sizeOf96,
    v233 := Tryd.zeroValue96,
    g17 := by kernel_rfl,
    g18 := by kernel_rfl,
    g19 := by kernel_rfl,
    i0 := by kernel_rfl,
    i2 := by kernel_rfl,
    i3 := by kernel_rfl,
    i4 := by kernel_rfl,
    i5 := by kernel_rfl,
    i9 := by kernel_rfl,
    i20 := by kernel_rfl,
    i37 := by kernel_rfl,
    i46 := by kernel_rfl,
    i51 := by kernel_rfl,
    i53 := by kernel_rfl,
    i171 := by kernel_rfl,
    i173 := by kernel_rfl,
    i212 := by kernel_rfl,
    i232 := by kernel_rfl,
    i233 := by kernel_rfl,
    m17 := by kernel_rfl,
    m18 := by kernel_rfl,
    m19 := by kernel_rfl }
abbrev zq9 := itoaT
def zqa (c : zq9) : Spec := itoaS c
def zqb : zq9 := fun x k => itoaF x k
theorem zqc : SpecOk Tryd.prog 29 (zqa zqb) :=
  itoa_ok zq8 rfl (g := 3) (by kernel_rfl) ⟨_, Tryd.func29, by kernel_rfl, by kernel_rfl⟩

/-- strings.Cut -/
def zqd : Shelf.Ren :=
      { 
      f := fun x =>
        match x with
        | 145 => 30
        | 220 => 47
        | 219 => 53
        | 217 => 63
        | 225 => 64
        | 224 => 65
        | 267 => 66
        | 266 => 75
        | 314 => 76
        | n => n,
      t := fun x =>
        match x with
        | 9 => 9
        | 4 => 4
        | 59 => 43
        | 3 => 3
        | 5 => 5
        | 46 => 68
        | 146 => 86
        | 51 => 83
        | n => n,
      g := fun x =>
        match x with
        | 1 => 0
        | n => n }
theorem zqe : Go.Proofs.Lays.n145 Tryd.prog zqd :=
  { mixed := by kernel_rfl,
    f145 := Eq.trans Tryd.func30 (congrArg some (by kernel_rfl)),
    f217 := Eq.trans Tryd.func63 (congrArg some (by kernel_rfl)),
    f219 := Eq.trans Tryd.func53 (congrArg some (by kernel_rfl)),
    f220 := Eq.trans Tryd.func47 (congrArg some (by kernel_rfl)),
    f224 := Eq.trans Tryd.func65 (congrArg some (by kernel_rfl)),
    f225 := Eq.trans Tryd.func64 (congrArg some (by kernel_rfl)),
    f266 := Eq.trans Tryd.func75 (congrArg some (by kernel_rfl)),
    f267 := Eq.trans Tryd.func66 (congrArg some (by kernel_rfl)),
    f314 := Eq.trans Tryd.func76 (congrArg some (by kernel_rfl)),
    t3 := Tryd.underlying3,
    a3 := Tryd.isAgg3,
    z3 := Tryd.sizeOf3,
    v3 := Tryd.zeroValue3,
    t4 := Tryd.underlying4,
    a4 := Tryd.isAgg4,
    z4 := Tryd.sizeOf4,
    v4 := Tryd.zeroValue4,
    t5 := Tryd.underlying5,
    a5 := Tryd.isAgg5,
    z5 := Tryd.sizeOf5,
    v5 := Tryd.zeroValue5,
    t9 := Tryd.underlying9,
    a9 := Tryd.isAgg9,
    z9 := Tryd.sizeOf9,
    v9 := Tryd.zeroValue9,
    t46 := Tryd.underlying68,
    a46 := Tryd.isAgg68,
    z46 := Tryd.sizeOf68,
    v46 := Tryd.zeroValue68,
    t51 := Tryd.underlying83,
    a51 := Tryd.isAgg83,
    z51 := Tryd.sizeOf83,
    v51 := Tryd.zeroValue83,
    t59 := Tryd.underlying43,
    a59 := Tryd.isAgg43,
    z59 := Tryd.sizeOf43,
    v59 := Tryd.zeroValue43,
    t146 := Tryd.underlying86,
    a146 := Tryd.isAgg86,
    z146 := Tryd.sizeOf86,
    v146 := Tryd.zeroValue86,
    g1 := by kernel_rfl }
abbrev zqf := cutT
def zqg (c : zqf) : Spec := cutS c
def zqh : zqf := fun x y k => cutF x y k
theorem zqi : SpecOk Tryd.prog 30 (zqg zqh) :=
  cut_ok zqe rfl (of_decide_eq_true (by kernel_rfl)) (fun w0 h0 => Go.Proofs.cell_of_shapedOpen_int (P := Tryd.prog) (g := 0) (t := 3) (zero := #[.int .i64 0]) h0 (of_decide_eq_true (by kernel_rfl)) (by kernel_rfl) rfl (by kernel_rfl) (by kernel_rfl) Tryd.underlying3) ⟨_, Tryd.func30, by kernel_rfl, by kernel_rfl⟩

/-- strconv.Atoi -/
def zqj : Shelf.Ren :=
      { 
      f := fun x =>
        match x with
        | 172 => 31
        | 244 => 48
        | 245 => 49
        | 247 => 54
        | 279 => 55
        | 280 => 56
        | 281 => 57
        | 282 => 58
        | 287 => 67
        | 316 => 68
        | 171 => 29
        | 205 => 69
        | 321 => 77
        | 322 => 78
        | 243 => 46
        | 246 => 52
        | 283 => 59
        | 284 => 60
        | 285 => 61
        | 286 => 62
        | 129 => 71
        | 317 => 70
        | 318 => 72
        | 319 => 73
        | 320 => 74
        | 337 => 79
        | 338 => 80
        | n => n,
      t := fun x =>
        match x with
        | 9 => 9
        | 3 => 3
        | 75 => 46
        | 76 => 47
        | 4 => 4
        | 5 => 5
        | 167 => 61
        | 37 => 62
        | 0 => 0
        | 85 => 63
        | 2 => 2
        | 168 => 65
        | 53 => 55
        | 175 => 75
        | 46 => 68
        | 210 => 79
        | 127 => 90
        | 145 => 93
        | 143 => 91
        | 21 => 21
        | 171 => 69
        | 173 => 72
        | 212 => 82
        | 51 => 83
        | 20 => 20
        | 213 => 84
        | 232 => 95
        | 233 => 96
        | 80 => 97
        | n => n,
      g := fun x =>
        match x with
        | 15 => 1
        | 16 => 2
        | 17 => 3
        | 18 => 4
        | 19 => 5
        | n => n }
theorem zqk : Go.Proofs.LaysC.n172 Tryd.prog zqj :=
  { mixed := by kernel_rfl,
    f129 := Eq.trans Tryd.func71 (congrArg some (by kernel_rfl)),
    f171 := Eq.trans Tryd.func29 (congrArg some (by kernel_rfl)),
    f172 := Eq.trans Tryd.func31 (congrArg some (by kernel_rfl)),
    f205 := Eq.trans Tryd.func69 (congrArg some (by kernel_rfl)),
    f243 := Eq.trans Tryd.func46 (congrArg some (by kernel_rfl)),
    f244 := Eq.trans Tryd.func48 (congrArg some (by kernel_rfl)),
    f245 := Eq.trans Tryd.func49 (congrArg some (by kernel_rfl)),
    f246 := Eq.trans Tryd.func52 (congrArg some (by kernel_rfl)),
    f247 := Eq.trans Tryd.func54 (congrArg some (by kernel_rfl)),
    f279 := Eq.trans Tryd.func55 (congrArg some (by kernel_rfl)),
    f280 := Eq.trans Tryd.func56 (congrArg some (by kernel_rfl)),
    f281 := Eq.trans Tryd.func57 (congrArg some (by kernel_rfl)),
    f282 := Eq.trans Tryd.func58 (congrArg some (by kernel_rfl)),
    f283 := Eq.trans Tryd.func59 (congrArg some (by kernel_rfl)),
    f284 := Eq.trans Tryd.func60 (congrArg some (by kernel_rfl)),
    f285 := Eq.trans Tryd.func61 (congrArg some (by kernel_rfl)),
    f286 := Eq.trans Tryd.func62 (congrArg some (by kernel_rfl)),
    f287 := Eq.trans Tryd.func67 (congrArg some (by kernel_rfl)),
    f316 := Eq.trans Tryd.func68 (congrArg some (by kernel_rfl)),
    f317 := Eq.trans Tryd.func70 (congrArg some (by kernel_rfl)),
    f318 := Eq.trans Tryd.func72 (congrArg some (by kernel_rfl)),
    f319 := Eq.trans Tryd.func73 (congrArg some (by kernel_rfl)),
    f320 := Eq.trans Tryd.func74 (congrArg some (by kernel_rfl)),
    f321 := Eq.trans Tryd.func77 (congrArg some (by kernel_rfl)),
    f322 := Eq.trans Tryd.func78 (congrArg some (by kernel_rfl)),
    f337 := Eq.trans Tryd.func79 (congrArg some (by kernel_rfl)),
    f338 := Eq.trans Tryd.func80 (congrArg some (by kernel_rfl)),
    t0 := Tryd.underlying0,
    a0 := Tryd.isAgg0,
    z0 := Tryd.sizeOf0,
    v0 := Tryd.zeroValue0,
    t2 := Tryd.underlying2,
    a2 := Tryd.isAgg2,
    z2 := Tryd.sizeOf2,
    v2 := Tryd.zeroValue2,
    t3 := Tryd.underlying3,
    a3 := Tryd.isAgg3,
    z3 := Tryd.sizeOf3,
    v3 := Tryd.zeroValue3,
    t4 := Tryd.underlying4,
    a4 := Tryd.isAgg4,
    z4 := Tryd.sizeOf4,
    v4 := Tryd.zeroValue4,
    t5 := Tryd.underlying5,
    a5 := Tryd.isAgg5,
    z5 := Tryd.sizeOf5,
    v5 := Tryd.zeroValue5,
    t9 := Tryd.underlying9,
    a9 := Tryd.isAgg9,
    z9 := Tryd.sizeOf9,
    v9 := Tryd.zeroValue9,
    t20 := Tryd.underlying20,
    a20 := Tryd.isAgg20,
    z20 := Tryd.sizeOf20,
    v20 := Tryd.zeroValue20,
    t21 := Tryd.underlying21,
    a21 := Tryd.isAgg21,
    z21 := Tryd.sizeOf21,
    v21 := Tryd.zeroValue21,
    t37 := Tryd.underlying62,
    a37 := Tryd.isAgg62,
    z37 := Tryd.sizeOf62,
    v37 := Tryd.zeroValue62,
    t46 := Tryd.underlying68,
    a46 := Tryd.isAgg68,
    z46 := Tryd.sizeOf68,
    v46 := Tryd.zeroValue68,
    t51 := Tryd.underlying83,
    a51 := Tryd.isAgg83,
    z51 := Tryd.sizeOf83,
    v51 := Tryd.zeroValue83,
    t53 := Tryd.underlying55,
    a53 := Tryd.isAgg55,
    z53 := Tryd.sizeOf55,
    v53 := Tryd.zeroValue55,
    t75 := Tryd.underlying46,
    a75 := Tryd.isAgg46,
    z75 := Tryd.sizeOf46,
    v75 := Tryd.zeroValue46,
    t76 := Tryd.underlying47,
    a76 := Tryd.isAgg47,
    z76 := Tryd.sizeOf47,
    v76 := Tryd.zeroValue47,
    t85 := Tryd.underlying63,
    a85 := Tryd.isAgg63,
    z85 := Tryd.sizeOf63,
    v85 := Tryd.zeroValue63,
    t127 := Tryd.underlying90,
    a127 := Tryd.isAgg90,
    z127 := Tryd.sizeOf90,
    v127 := Tryd.zeroValue90,
    t143 := Tryd.underlying91,
    a143 := Tryd.isAgg91,
    z143 := Tryd.sizeOf91,
    v143 := Tryd.zeroValue91,
    t145 := Tryd.underlying93,
    a145 := Tryd.isAgg93,
    z145 := Tryd.sizeOf93,
    v145 := Tryd.zeroValue93,
    t167 := Tryd.underlying61,
    a167 := Tryd.isAgg61,
    z167 := Tryd.sizeOf61,
    v167 := Tryd.zeroValue61,
    t168 := Tryd.underlying65,
    a168 := Tryd.isAgg65,
    z168 := Tryd.sizeOf65,
    v168 := Tryd.zeroValue65,
    t171 := Tryd.underlying69,
    a171 := Tryd.isAgg69,
    z171 := Tryd.sizeOf69,
    v171 := Tryd.zeroValue69,
    t173 := Tryd.underlying72,
    a173 := Tryd.isAgg72,
    z173 := Tryd.sizeOf72,
    v173 := Tryd.zeroValue72,
    t175 := Tryd.underlying75,
    a175 := Tryd.isAgg75,
    z175 := Tryd.sizeOf75,
    v175 := Tryd.zeroValue75,
    t210 := Tryd.underlying79,
    a210 := Tryd.isAgg79,
    z210 := Tryd.sizeOf79,
    v210 := Tryd.zeroValue79,
    t212 := Tryd.underlying82,
    a212 := Tryd.isAgg82,
    z212 := Tryd.sizeOf82,
    v212 := Tryd.zeroValue82,
    t213 := Tryd.underlying84,
    a213 := Tryd.isAgg84,
    z213 := Tryd.sizeOf84,
    t232 := Tryd.underlying95,
    a232 := Tryd.isAgg95,
    z232 := Tryd.sizeOf95,
    v232 := Tryd.zeroValue95,
    t233 := Tryd.underlying96,
    a233 := Tryd.isAgg96,
    z233 := Tryd.sizeOf96,
    v233 := Tryd.zeroValue96,
    g15 := by kernel_rfl,
    g16 := by kernel_rfl,
    g17 := by kernel_rfl,
    g18 := by kernel_rfl,
    g19 := by kernel_rfl,
    t80 := Tryd.underlying97,
    a80 := Tryd.isAgg97,
    z80 := Tryd.sizeOf97,
    v80 := Tryd.zeroValue97,
    i0 := by kernel_rfl,
    i2 := by kernel_rfl,
    i3 := by kernel_rfl,
    i4 := by kernel_rfl,
    i5 := by kernel_rfl,
    i9 := by kernel_rfl,
    i20 := by kernel_rfl,
    i21 := by kernel_rfl,
    i37 := by kernel_rfl,
    i46 := by kernel_rfl,
    i51 := by kernel_rfl,
    i53 := by kernel_rfl,
    i75 := by kernel_rfl,
    i76 := by kernel_rfl,
    i80 := by kernel_rfl,
    i85 := by kernel_rfl,
    i127 := by kernel_rfl,
    i143 := by kernel_rfl,
    i145 := by kernel_rfl,
    i167 := by kernel_rfl,
    i168 := by kernel_rfl,
    i171 := by kernel_rfl,
    i173 := by kernel_rfl,
    i175 := by kernel_rfl,
    i210 := by kernel_rfl,
    i212 := by kernel_rfl,
    i232 := by kernel_rfl,
    i233 := by kernel_rfl,
    m15 := by kernel_rfl,
    m16 := by kernel_rfl,
    m17 := by kernel_rfl,
    m18 := by kernel_rfl,
    m19 := by kernel_rfl,
    c0 := by kernel_rfl,
    c2 := by kernel_rfl,
    c3 := by kernel_rfl,
    c4 := by kernel_rfl,
    c5 := by kernel_rfl,
    c9 := by kernel_rfl,
    c20 := by kernel_rfl,
    c21 := by kernel_rfl,
    c37 := by kernel_rfl,
    c46 := by kernel_rfl,
    c51 := by kernel_rfl,
    c53 := by kernel_rfl,
    c75 := by kernel_rfl,
    c76 := by kernel_rfl,
    c80 := by kernel_rfl,
    c85 := by kernel_rfl,
    c127 := by kernel_rfl,
    c143 := by kernel_rfl,
    c145 := by kernel_rfl,
    c167 := by kernel_rfl,
    c168 := by kernel_rfl,
    c171 := by kernel_rfl,
    c173 := by kernel_rfl,
    c175 := by kernel_rfl,
    c210 := by kernel_rfl,
    c212 := by kernel_rfl,
    c213 := by kernel_rfl,
    c232 := by kernel_rfl,
    c233 := by kernel_rfl }
abbrev zql := atoiT
def zqm (c : zql) : Spec := atoiS c
def zqn : zql := fun x k => atoiF x k
theorem zqo : SpecOk Tryd.prog 31 (zqm zqn) :=
  atoi_ok zqk rfl (by kernel_rfl) (by kernel_rfl) ⟨_, Tryd.func31, by kernel_rfl, by kernel_rfl⟩

/-- pagewatch/ratio.gcd -/
abbrev zqp := {β : Type} → Int → Int → (Int → Option β) → Option β
def zqq (c : zqp) : Spec :=
  ⟨[(false, [.data (.int .i64)]), (false, [.data (.int .i64)])], [], [(false, [.data (.int .i64)])], [], fun x k => c x.1.1.1 x.1.2.1.1 (fun r0 => k (((r0, ()), ()), ()))⟩
noncomputable def ratio_gcd_p1_code : Code := codeAt 12 (bodyOf Tryd.f33)
abbrev zqr (β : Type) := Int → Option β
abbrev zqs := {β : Type} → zqr β → Int → Int → Option β
def zqt : View := ⟨0, [0, 1], [(false, [.data (.int .i64)]), (false, [.data (.int .i64)])], []⟩
def zqu : List (AExit × View) := [(.exit 0, ⟨0, [0], [(false, [.data (.int .i64)])], []⟩)]
@[reducible] def ratio_gcd_p1_G (p : zqs) {β : Type} (d : zqt.den) (ks : Outs.K β zqu) : Option β :=
  p (fun a0 => ks.1 (((a0, ()), ()), ())) d.1.1.1 d.1.2.1.1
section
@[reducible] def ratio_gcd_X : Ctx := ⟨look tab, pick1 [], false, false, false⟩
def zqv {β : Type} (rec : Int → Int → Option β) (k1 : zqr β) (a : Int) (b : Int) : Option β :=
  cond (!decide (b = (0 : Int)))
  (cond (!decide (b = 0))
  (rec b (Int.tmod a b))
  none)
  (k1 a)
def zqw {β : Type} : Nat → zqr β → Int → Int → Option β
  | 0 => fun _ _ _ => none
  | i + 1 => fun k1 a b => zqv (zqw i k1) k1 a b
theorem zqx (hΓ : ΓOk Tryd.prog ratio_gcd_X.Γ) (i : Nat) : PieceOk Tryd.prog 12 0 ratio_gcd_p1_code zqt zqu (ratio_gcd_p1_G (zqw i)) := by
  rw [show ratio_gcd_p1_code = .loop (loopBody ratio_gcd_p1_code) by kernel_rfl]
  exact piece_loop (X := ratio_gcd_X) (p := 1) (Λ := pick1 []) (G := fun i => @fun β d ks => ratio_gcd_p1_G (zqw i) d ks) mixed tab_ok hΓ rfl (by kernel_rfl) CutsOk_nil (fun _ _ => rfl) (fun i => @fun β d ks r h => Eq.trans (b := ratio_gcd_p1_G (zqw (i + 1)) d ks) (by kernel_rfl) h) i
def zqy (p1 : zqs) {β : Type} (a : Int) (b : Int) (k : (Int → Option β)) : Option β :=
  p1 (fun (a2 : Int) =>
  k a2) a b
theorem zqz (hΓ : ΓOk Tryd.prog ratio_gcd_X.Γ) (p1 : zqs) (hp1 : PieceOk Tryd.prog 12 0 ratio_gcd_p1_code zqt zqu (ratio_gcd_p1_G p1)) : SpecOk Tryd.prog 33 (zqq (zqy p1)) :=
  spec_exec (X := ratio_gcd_X) (Λ := pick1 [(12, pieceCut zqt zqu (ratio_gcd_p1_G p1))]) (rs := [.tmp 4]) (c := bodyOf Tryd.f33) mixed tab_ok hΓ Tryd.func33 (by kernel_rfl) (by kernel_rfl) (by kernel_rfl) (by kernel_rfl) (CutsOk_cons (q := 12) (c' := ratio_gcd_p1_code) (by kernel_rfl) rfl hp1 CutsOk_nil) (fun x k r h => Eq.trans (b := (zqq (zqy p1)).run x k) (by kernel_rfl) h)
end
theorem zq10Γ : ΓOk Tryd.prog (pick1 []) := ΓOk_nil
def zq11 (m : Nat) : zqs := zqw m
theorem zq12 {β : Type} (i : Nat) (k1 a b) : (zq11 (i + 1) k1 a b : Option β) = zqv (zq11 i k1) k1 a b := rfl
def zq13 : zqs := zq11 fuel
theorem zq14 : PieceOk Tryd.prog 12 0 ratio_gcd_p1_code zqt zqu (ratio_gcd_p1_G zq13) := zqx zq10Γ fuel
def zq15 : zqp := zqy zq13
theorem zq16 : SpecOk Tryd.prog 33 (zqq zq15) := zqz zq10Γ zq13 zq14

/-- pagewatch/ratio.plus -/
abbrev zq17 := {β : Type} → Int → Int → (Int → Bool → Option β) → Option β
def zq18 (c : zq17) : Spec :=
  ⟨[(false, [.data (.int .i64)]), (false, [.data (.int .i64)])], [], [(false, [.data (.int .i64)]), (false, [.data .bool])], [], fun x k => c x.1.1.1 x.1.2.1.1 (fun r0 r1 => k (((r0, ()), (r1, ()), ()), ()))⟩
section
@[reducible] def ratio_plus_X : Ctx := ⟨look tab, pick1 [], false, false, false⟩
def zq19 {β : Type} (a : Int) (b : Int) (k : (Int → Bool → Option β)) : Option β :=
  cond (decide ((0 : Int) < a))
  (cond (decide ((IntKind.i64.wrap ((4611686018427387904 : Int) - a)) < b))
  (k (0 : Int) false)
  (cond (decide (a < (0 : Int)))
  (cond (decide (b < (IntKind.i64.wrap ((-4611686018427387904 : Int) - a))))
  (k (0 : Int) false)
  (let t : Int := (IntKind.i64.wrap (a + b));
  k t true))
  (let t : Int := (IntKind.i64.wrap (a + b));
  k t true)))
  (cond (decide (a < (0 : Int)))
  (cond (decide (b < (IntKind.i64.wrap ((-4611686018427387904 : Int) - a))))
  (k (0 : Int) false)
  (let t : Int := (IntKind.i64.wrap (a + b));
  k t true))
  (let t : Int := (IntKind.i64.wrap (a + b));
  k t true))
theorem zq1a (hΓ : ΓOk Tryd.prog ratio_plus_X.Γ) : SpecOk Tryd.prog 35 (zq18 (zq19)) :=
  spec_exec (X := ratio_plus_X) (Λ := pick1 []) (rs := [.tmp 4, .tmp 5]) (c := bodyOf Tryd.f35) mixed tab_ok hΓ Tryd.func35 (by kernel_rfl) (by kernel_rfl) (by kernel_rfl) (by kernel_rfl) CutsOk_nil (fun x k r h => Eq.trans (b := (zq18 (zq19)).run x k) (by kernel_rfl) h)
end
theorem zq1bΓ : ΓOk Tryd.prog (pick1 []) := ΓOk_nil
def zq1c : zq17 := zq19
theorem zq1d : SpecOk Tryd.prog 35 (zq18 zq1c) := zq1a zq1bΓ

/-- pagewatch/ratio.within -/
abbrev zq1e := {β : Type} → Int → (Bool → Option β) → Option β
def zq1f (c : zq1e) : Spec :=
  ⟨[(false, [.data (.int .i64)])], [], [(false, [.data .bool])], [], fun x k => c x.1.1.1 (fun r0 => k (((r0, ()), ()), ()))⟩
section
@[reducible] def ratio_within_X : Ctx := ⟨look tab, pick1 [], false, false, false⟩
def zq1g {β : Type} (n : Int) (k : (Bool → Option β)) : Option β :=
  cond (decide ((-4611686018427387904 : Int) ≤ n))
  (let t : Bool := (decide (n ≤ (4611686018427387904 : Int)));
  k t)
  (k false)
theorem zq1h (hΓ : ΓOk Tryd.prog ratio_within_X.Γ) : SpecOk Tryd.prog 36 (zq1f (zq1g)) :=
  spec_exec (X := ratio_within_X) (Λ := pick1 []) (rs := [.tmp 2]) (c := bodyOf Tryd.f36) mixed tab_ok hΓ Tryd.func36 (by kernel_rfl) (by kernel_rfl) (by kernel_rfl) (by kernel_rfl) CutsOk_nil (fun x k r h => Eq.trans (b := (zq1f (zq1g)).run x k) (by kernel_rfl) h)
end
theorem zq1iΓ : ΓOk Tryd.prog (pick1 []) := ΓOk_nil
def zq1j : zq1e := zq1g
theorem zq1k : SpecOk Tryd.prog 36 (zq1f zq1j) := zq1h zq1iΓ

/-- pagewatch/ratio.size -/
abbrev zq1l := {β : Type} → Int → (Int → Option β) → Option β
def zq1m (c : zq1l) : Spec :=
  ⟨[(false, [.data (.int .i64)])], [], [(false, [.data (.int .i64)])], [], fun x k => c x.1.1.1 (fun r0 => k (((r0, ()), ()), ()))⟩
section
@[reducible] def ratio_size_X : Ctx := ⟨look tab, pick1 [], false, false, false⟩
def zq1n {β : Type} (n : Int) (k : (Int → Option β)) : Option β :=
  cond (decide (n < (0 : Int)))
  (let t : Int := (IntKind.i64.wrap (0 - n));
  k t)
  (k n)
theorem zq1o (hΓ : ΓOk Tryd.prog ratio_size_X.Γ) : SpecOk Tryd.prog 37 (zq1m (zq1n)) :=
  spec_exec (X := ratio_size_X) (Λ := pick1 []) (rs := [.tmp 2]) (c := bodyOf Tryd.f37) mixed tab_ok hΓ Tryd.func37 (by kernel_rfl) (by kernel_rfl) (by kernel_rfl) (by kernel_rfl) CutsOk_nil (fun x k r h => Eq.trans (b := (zq1m (zq1n)).run x k) (by kernel_rfl) h)
end
theorem zq1pΓ : ΓOk Tryd.prog (pick1 []) := ΓOk_nil
def zq1q : zq1l := zq1n
theorem zq1r : SpecOk Tryd.prog 37 (zq1m zq1q) := zq1o zq1pΓ

/-- pagewatch/pagewatchref02.gcd -/
abbrev zq1s := {β : Type} → Int → Int → (Int → Option β) → Option β
def zq1t (c : zq1s) : Spec :=
  ⟨[(false, [.data (.int .i64)]), (false, [.data (.int .i64)])], [], [(false, [.data (.int .i64)])], [], fun x k => c x.1.1.1 x.1.2.1.1 (fun r0 => k (((r0, ()), ()), ()))⟩
noncomputable def ref02_gcd_p1_code : Code := codeAt 12 (bodyOf Tryd.f40)
abbrev zq1u (β : Type) := Int → Option β
abbrev zq1v := {β : Type} → zq1u β → Int → Int → Option β
def zq1w : View := ⟨0, [0, 1], [(false, [.data (.int .i64)]), (false, [.data (.int .i64)])], []⟩
def zq1x : List (AExit × View) := [(.exit 0, ⟨0, [0], [(false, [.data (.int .i64)])], []⟩)]
@[reducible] def ref02_gcd_p1_G (p : zq1v) {β : Type} (d : zq1w.den) (ks : Outs.K β zq1x) : Option β :=
  p (fun a0 => ks.1 (((a0, ()), ()), ())) d.1.1.1 d.1.2.1.1
section
@[reducible] def ref02_gcd_X : Ctx := ⟨look tab, pick1 [], false, false, false⟩
def zq1y {β : Type} (rec : Int → Int → Option β) (k1 : zq1u β) (a : Int) (b : Int) : Option β :=
  cond (!decide (b = (0 : Int)))
  (cond (!decide (b = 0))
  (rec b (Int.tmod a b))
  none)
  (k1 a)
def zq1z {β : Type} : Nat → zq1u β → Int → Int → Option β
  | 0 => fun _ _ _ => none
  | i + 1 => fun k1 a b => zq1y (zq1z i k1) k1 a b
theorem zq20 (hΓ : ΓOk Tryd.prog ref02_gcd_X.Γ) (i : Nat) : PieceOk Tryd.prog 12 0 ref02_gcd_p1_code zq1w zq1x (ref02_gcd_p1_G (zq1z i)) := by
  rw [show ref02_gcd_p1_code = .loop (loopBody ref02_gcd_p1_code) by kernel_rfl]
  exact piece_loop (X := ref02_gcd_X) (p := 1) (Λ := pick1 []) (G := fun i => @fun β d ks => ref02_gcd_p1_G (zq1z i) d ks) mixed tab_ok hΓ rfl (by kernel_rfl) CutsOk_nil (fun _ _ => rfl) (fun i => @fun β d ks r h => Eq.trans (b := ref02_gcd_p1_G (zq1z (i + 1)) d ks) (by kernel_rfl) h) i
def zq21 (p1 : zq1v) {β : Type} (a : Int) (b : Int) (k : (Int → Option β)) : Option β :=
  p1 (fun (a2 : Int) =>
  k a2) a b
theorem zq22 (hΓ : ΓOk Tryd.prog ref02_gcd_X.Γ) (p1 : zq1v) (hp1 : PieceOk Tryd.prog 12 0 ref02_gcd_p1_code zq1w zq1x (ref02_gcd_p1_G p1)) : SpecOk Tryd.prog 40 (zq1t (zq21 p1)) :=
  spec_exec (X := ref02_gcd_X) (Λ := pick1 [(12, pieceCut zq1w zq1x (ref02_gcd_p1_G p1))]) (rs := [.tmp 4]) (c := bodyOf Tryd.f40) mixed tab_ok hΓ Tryd.func40 (by kernel_rfl) (by kernel_rfl) (by kernel_rfl) (by kernel_rfl) (CutsOk_cons (q := 12) (c' := ref02_gcd_p1_code) (by kernel_rfl) rfl hp1 CutsOk_nil) (fun x k r h => Eq.trans (b := (zq1t (zq21 p1)).run x k) (by kernel_rfl) h)
end
theorem zq23Γ : ΓOk Tryd.prog (pick1 []) := ΓOk_nil
def zq24 (m : Nat) : zq1v := zq1z m
theorem zq25 {β : Type} (i : Nat) (k1 a b) : (zq24 (i + 1) k1 a b : Option β) = zq1y (zq24 i k1) k1 a b := rfl
def zq26 : zq1v := zq24 fuel
theorem zq27 : PieceOk Tryd.prog 12 0 ref02_gcd_p1_code zq1w zq1x (ref02_gcd_p1_G zq26) := zq20 zq23Γ fuel
def zq28 : zq1s := zq21 zq26
theorem zq29 : SpecOk Tryd.prog 40 (zq1t zq28) := zq22 zq23Γ zq26 zq27

/-- pagewatch/pagewatchref02.size -/
abbrev zq2a := {β : Type} → Int → (Int → Option β) → Option β
def zq2b (c : zq2a) : Spec :=
  ⟨[(false, [.data (.int .i64)])], [], [(false, [.data (.int .i64)])], [], fun x k => c x.1.1.1 (fun r0 => k (((r0, ()), ()), ()))⟩
section
@[reducible] def ref02_size_X : Ctx := ⟨look tab, pick1 [], false, false, false⟩
def zq2c {β : Type} (n : Int) (k : (Int → Option β)) : Option β :=
  cond (decide (n < (0 : Int)))
  (let t : Int := (IntKind.i64.wrap (0 - n));
  k t)
  (k n)
theorem zq2d (hΓ : ΓOk Tryd.prog ref02_size_X.Γ) : SpecOk Tryd.prog 42 (zq2b (zq2c)) :=
  spec_exec (X := ref02_size_X) (Λ := pick1 []) (rs := [.tmp 2]) (c := bodyOf Tryd.f42) mixed tab_ok hΓ Tryd.func42 (by kernel_rfl) (by kernel_rfl) (by kernel_rfl) (by kernel_rfl) CutsOk_nil (fun x k r h => Eq.trans (b := (zq2b (zq2c)).run x k) (by kernel_rfl) h)
end
theorem zq2eΓ : ΓOk Tryd.prog (pick1 []) := ΓOk_nil
def zq2f : zq2a := zq2c
theorem zq2g : SpecOk Tryd.prog 42 (zq2b zq2f) := zq2d zq2eΓ

/-- pagewatch/pagewatchref02.less -/
abbrev zq2h := {β : Type} → Int → Int → Int → Int → (Bool → Option β) → Option β
def zq2i (c : zq2h) : Spec :=
  ⟨[(false, [.data (.int .i64)]), (false, [.data (.int .i64)]), (false, [.data (.int .i64)]), (false, [.data (.int .i64)])], [], [(false, [.data .bool])], [], fun x k => c x.1.1.1 x.1.2.1.1 x.1.2.2.1.1 x.1.2.2.2.1.1 (fun r0 => k (((r0, ()), ()), ()))⟩
section
variable (c_ref02_less : zq2h)
@[reducible] def ref02_less_X : Ctx := ⟨look tab, pick1 [(43, .spec (zq2i c_ref02_less))], false, false, false⟩
def zq2j {β : Type} (a : Int) (b : Int) (c : Int) (d : Int) (k : (Bool → Option β)) : Option β :=
  cond (!decide (b = 0))
  (cond (!decide (d = 0))
  (cond (!decide ((IntKind.i64.wrap (Int.tdiv a b)) = (IntKind.i64.wrap (Int.tdiv c d))))
  (cond (!decide (b = 0))
  (cond (!decide (d = 0))
  (let t : Bool := (decide ((IntKind.i64.wrap (Int.tdiv a b)) < (IntKind.i64.wrap (Int.tdiv c d))));
  k t)
  none)
  none)
  (cond (!decide (b = 0))
  (cond (!decide (d = 0))
  (let t : Bool := (decide ((Int.tmod c d) = (0 : Int)));
  cond t
  (k false)
  (let t2 : Bool := (decide ((Int.tmod a b) = (0 : Int)));
  cond t2
  (k true)
  (c_ref02_less d (Int.tmod c d) b (Int.tmod a b) (fun (rless : Bool) =>
  k rless))))
  none)
  none))
  none)
  none
theorem zq2k (hΓ : ΓOk Tryd.prog (ref02_less_X c_ref02_less).Γ) : SpecOk Tryd.prog 43 (zq2i (zq2j c_ref02_less)) :=
  spec_exec (X := (ref02_less_X c_ref02_less)) (Λ := pick1 []) (rs := [.tmp 8]) (c := bodyOf Tryd.f43) mixed tab_ok hΓ Tryd.func43 (by kernel_rfl) (by kernel_rfl) (by kernel_rfl) (by kernel_rfl) CutsOk_nil (fun x k r h => Eq.trans (b := (zq2i (zq2j c_ref02_less)).run x k) (by kernel_rfl) h)
end
theorem zq2lΓ (me : zq2h) (hme : SpecOk Tryd.prog 43 (zq2i me)) : ΓOk Tryd.prog (pick1 [(43, .spec (zq2i me))]) := (ΓOk_cons hme ΓOk_nil)
def zq2m : Nat → zq2h
  | 0 => fun _ _ _ _ _ => none
  | i + 1 => zq2j (zq2m i)
theorem zq2n : ∀ i, SpecOk Tryd.prog 43 (zq2i (zq2m i))
  | 0 => SpecOk.never ⟨_, Tryd.func43, by kernel_rfl, by kernel_rfl⟩ (fun _ _ => rfl)
  | i + 1 =>
    have hme := zq2n i
    have me_ok := hme
    zq2k (zq2m i) (zq2lΓ (zq2m i) hme)
theorem zq2o {β : Type} (i : Nat) (a b c d k) : (zq2m (i + 1) a b c d k : Option β) = zq2j (zq2m i) a b c d k := rfl
def zq2p : zq2h := zq2m fuel
theorem zq2q : SpecOk Tryd.prog 43 (zq2i zq2p) := zq2n fuel

/-- pagewatch/pagewatchref02.in -/
abbrev zq2r := {β : Type} → Int → (Bool → Option β) → Option β
def zq2s (c : zq2r) : Spec :=
  ⟨[(false, [.data (.int .i64)])], [], [(false, [.data .bool])], [], fun x k => c x.1.1.1 (fun r0 => k (((r0, ()), ()), ()))⟩
section
@[reducible] def ref02_in_X : Ctx := ⟨look tab, pick1 [], false, false, false⟩
def zq2t {β : Type} (n : Int) (k : (Bool → Option β)) : Option β :=
  cond (decide ((-4611686018427387904 : Int) ≤ n))
  (let t : Bool := (decide (n ≤ (4611686018427387904 : Int)));
  k t)
  (k false)
theorem zq2u (hΓ : ΓOk Tryd.prog ref02_in_X.Γ) : SpecOk Tryd.prog 44 (zq2s (zq2t)) :=
  spec_exec (X := ref02_in_X) (Λ := pick1 []) (rs := [.tmp 2]) (c := bodyOf Tryd.f44) mixed tab_ok hΓ Tryd.func44 (by kernel_rfl) (by kernel_rfl) (by kernel_rfl) (by kernel_rfl) CutsOk_nil (fun x k r h => Eq.trans (b := (zq2s (zq2t)).run x k) (by kernel_rfl) h)
end
theorem zq2vΓ : ΓOk Tryd.prog (pick1 []) := ΓOk_nil
def zq2w : zq2r := zq2t
theorem zq2x : SpecOk Tryd.prog 44 (zq2s zq2w) := zq2u zq2vΓ

/-- math/bits.Mul64 -/
abbrev zq2y := {β : Type} → Int → Int → (Int → Int → Option β) → Option β
def zq2z (c : zq2y) : Spec :=
  ⟨[(false, [.data (.int .u64)]), (false, [.data (.int .u64)])], [], [(false, [.data (.int .u64)]), (false, [.data (.int .u64)])], [], fun x k => c x.1.1.1 x.1.2.1.1 (fun r0 r1 => k (((r0, ()), (r1, ()), ()), ()))⟩
section
@[reducible] def math_bits_Mul64_X : Ctx := ⟨look tab, pick1 [], false, false, false⟩
def zq30 {β : Type} (x : Int) (y : Int) (k : (Int → Int → Option β)) : Option β :=
  let x0 : Int := (bitsOf .and .u64 x (4294967295 : Int));
  cond (decide (0 ≤ (32 : Int)))
  (let x1 : Int := (shiftOf .shr .u64 x (32 : Int));
  let y0 : Int := (bitsOf .and .u64 y (4294967295 : Int));
  cond (decide (0 ≤ (32 : Int)))
  (let y1 : Int := (shiftOf .shr .u64 y (32 : Int));
  let w0 : Int := (IntKind.u64.wrap (x0 * y0));
  cond (decide (0 ≤ (32 : Int)))
  (let t : Int := (IntKind.u64.wrap ((IntKind.u64.wrap (x1 * y0)) + (shiftOf .shr .u64 w0 (32 : Int))));
  let w1 : Int := (bitsOf .and .u64 t (4294967295 : Int));
  cond (decide (0 ≤ (32 : Int)))
  (let w2 : Int := (shiftOf .shr .u64 t (32 : Int));
  let w12 : Int := (IntKind.u64.wrap (w1 + (IntKind.u64.wrap (x0 * y1))));
  cond (decide (0 ≤ (32 : Int)))
  (let hi : Int := (IntKind.u64.wrap ((IntKind.u64.wrap ((IntKind.u64.wrap (x1 * y1)) + w2)) + (shiftOf .shr .u64 w12 (32 : Int))));
  let lo : Int := (IntKind.u64.wrap (x * y));
  k hi lo)
  none)
  none)
  none)
  none)
  none
theorem zq31 (hΓ : ΓOk Tryd.prog math_bits_Mul64_X.Γ) : SpecOk Tryd.prog 50 (zq2z (zq30)) :=
  spec_exec (X := math_bits_Mul64_X) (Λ := pick1 []) (rs := [.tmp 4, .tmp 5]) (c := bodyOf Tryd.f50) mixed tab_ok hΓ Tryd.func50 (by kernel_rfl) (by kernel_rfl) (by kernel_rfl) (by kernel_rfl) CutsOk_nil (fun x k r h => Eq.trans (b := (zq2z (zq30)).run x k) (by kernel_rfl) h)
end
theorem zq32Γ : ΓOk Tryd.prog (pick1 []) := ΓOk_nil
def zq33 : zq2y := zq30
theorem zq34 : SpecOk Tryd.prog 50 (zq2z zq33) := zq31 zq32Γ

/-- pagewatch/pagewatchref02.digits -/
abbrev zq35 := {β : Type} → Int → ((List UInt8) → Option β) → Option β
def zq36 (c : zq35) : Spec :=
  ⟨[(false, [.data (.int .u64)])], [], [(false, [.data .str])], [], fun x k => c x.1.1.1 (fun r0 => k (((r0, ()), ()), ()))⟩
section
variable (c_ref02_digits : zq35)
@[reducible] def ref02_digits_X : Ctx := ⟨look tab, pick1 [(51, .spec (zq36 c_ref02_digits))], false, false, false⟩
def zq37 {β : Type} (n : Int) (k : ((List UInt8) → Option β)) : Option β :=
  cond (!decide ((10 : Int) = 0))
  (let l : List Int := ([(IntKind.u8.wrap (IntKind.u64.wrap ((48 : Int) + (Int.tmod n (10 : Int)))))] : List Int);
  cond (decide (n < (10 : Int)))
  (k (strOf l))
  (cond (!decide ((10 : Int) = 0))
  (c_ref02_digits (IntKind.u64.wrap (Int.tdiv n (10 : Int))) (fun (rdigits : List UInt8) =>
  cond (decide (List.length rdigits + List.length (strOf l) ≤ 9223372036854775807))
  (k (rdigits ++ (strOf l)))
  none))
  none))
  none
theorem zq38 (hΓ : ΓOk Tryd.prog (ref02_digits_X c_ref02_digits).Γ) : SpecOk Tryd.prog 51 (zq36 (zq37 c_ref02_digits)) :=
  spec_exec (X := (ref02_digits_X c_ref02_digits)) (Λ := pick1 []) (rs := [.tmp 2]) (c := bodyOf Tryd.f51) mixed tab_ok hΓ Tryd.func51 (by kernel_rfl) (by kernel_rfl) (by kernel_rfl) (by kernel_rfl) CutsOk_nil (fun x k r h => Eq.trans (b := (zq36 (zq37 c_ref02_digits)).run x k) (by kernel_rfl) h)
end
theorem zq39Γ (me : zq35) (hme : SpecOk Tryd.prog 51 (zq36 me)) : ΓOk Tryd.prog (pick1 [(51, .spec (zq36 me))]) := (ΓOk_cons hme ΓOk_nil)
def zq3a : Nat → zq35
  | 0 => fun _ _ => none
  | i + 1 => zq37 (zq3a i)
theorem zq3b : ∀ i, SpecOk Tryd.prog 51 (zq36 (zq3a i))
  | 0 => SpecOk.never ⟨_, Tryd.func51, by kernel_rfl, by kernel_rfl⟩ (fun _ _ => rfl)
  | i + 1 =>
    have hme := zq3b i
    have me_ok := hme
    zq38 (zq3a i) (zq39Γ (zq3a i) hme)
theorem zq3c {β : Type} (i : Nat) (n k) : (zq3a (i + 1) n k : Option β) = zq37 (zq3a i) n k := rfl
def zq3d : zq35 := zq3a fuel
theorem zq3e : SpecOk Tryd.prog 51 (zq36 zq3d) := zq3b fuel

/-- pagewatch/ratio.Valid -/
abbrev zq3f := {β : Type} → (Int × Int) → (Bool → Option β) → Option β
def zq3g (c : zq3f) : Spec :=
  ⟨[(true, [.data (.prod (.int .i64) (.int .i64))])], [], [(false, [.data .bool])], [], fun x k => c x.1.1.1 (fun r0 => k (((r0, ()), ()), ()))⟩
section
variable (c_ratio_gcd : zqp) (c_ratio_size : zq1l) (c_ratio_within : zq1e)
@[reducible] def ratio_Valid_X : Ctx := ⟨look tab, pick1 [(33, .spec (zqq c_ratio_gcd)), (37, .spec (zq1m c_ratio_size)), (36, .spec (zq1f c_ratio_within))], false, false, false⟩
def zq3h {β : Type} (r_ : (Int × Int)) (k : (Bool → Option β)) : Option β :=
  cond (decide ((1 : Int) ≤ r_.2))
  (cond (decide (r_.2 ≤ (4611686018427387904 : Int)))
  (c_ratio_within r_.1 (fun (rwithin : Bool) =>
  cond rwithin
  (c_ratio_size r_.1 (fun (rsize : Int) =>
  c_ratio_gcd rsize r_.2 (fun (rgcd : Int) =>
  let t : Bool := (decide (rgcd = (1 : Int)));
  k t)))
  (k false)))
  (k false))
  (k false)
theorem zq3i (hΓ : ΓOk Tryd.prog (ratio_Valid_X c_ratio_gcd c_ratio_size c_ratio_within).Γ) : SpecOk Tryd.prog 15 (zq3g (zq3h c_ratio_gcd c_ratio_size c_ratio_within)) :=
  spec_exec (X := (ratio_Valid_X c_ratio_gcd c_ratio_size c_ratio_within)) (Λ := pick1 []) (rs := [.tmp 2]) (c := bodyOf Tryd.f15) mixed tab_ok hΓ Tryd.func15 (by kernel_rfl) (by kernel_rfl) (by kernel_rfl) (by kernel_rfl) CutsOk_nil (fun x k r h => Eq.trans (b := (zq3g (zq3h c_ratio_gcd c_ratio_size c_ratio_within)).run x k) (by kernel_rfl) h)
end
theorem zq3jΓ : ΓOk Tryd.prog (pick1 [(33, .spec (zqq zq15)), (37, .spec (zq1m zq1q)), (36, .spec (zq1f zq1j))]) := (ΓOk_cons zq16 (ΓOk_cons zq1r (ΓOk_cons zq1k ΓOk_nil)))
def zq3k : zq3f := zq3h zq15 zq1q zq1j
theorem zq3l : SpecOk Tryd.prog 15 (zq3g zq3k) := zq3i zq15 zq1q zq1j zq3jΓ

/-- pagewatch/pagewatchref02.Valid -/
abbrev zq3m := {β : Type} → (Int × Int) → (Bool → Option β) → Option β
def zq3n (c : zq3m) : Spec :=
  ⟨[(true, [.data (.prod (.int .i64) (.int .i64))])], [], [(false, [.data .bool])], [], fun x k => c x.1.1.1 (fun r0 => k (((r0, ()), ()), ()))⟩
section
variable (c_ref02_gcd : zq1s) (c_ref02_in : zq2r) (c_ref02_size : zq2a)
@[reducible] def ref02_Valid_X : Ctx := ⟨look tab, pick1 [(40, .spec (zq1t c_ref02_gcd)), (44, .spec (zq2s c_ref02_in)), (42, .spec (zq2b c_ref02_size))], false, false, false⟩
def zq3o {β : Type} (r_ : (Int × Int)) (k : (Bool → Option β)) : Option β :=
  c_ref02_in r_.1 (fun (rin : Bool) =>
  cond rin
  (cond (decide ((1 : Int) ≤ r_.2))
  (cond (decide (r_.2 ≤ (4611686018427387904 : Int)))
  (c_ref02_size r_.1 (fun (rsize : Int) =>
  c_ref02_gcd rsize r_.2 (fun (rgcd : Int) =>
  let t : Bool := (decide (rgcd = (1 : Int)));
  k t)))
  (k false))
  (k false))
  (k false))
theorem zq3p (hΓ : ΓOk Tryd.prog (ref02_Valid_X c_ref02_gcd c_ref02_in c_ref02_size).Γ) : SpecOk Tryd.prog 25 (zq3n (zq3o c_ref02_gcd c_ref02_in c_ref02_size)) :=
  spec_exec (X := (ref02_Valid_X c_ref02_gcd c_ref02_in c_ref02_size)) (Λ := pick1 []) (rs := [.tmp 2]) (c := bodyOf Tryd.f25) mixed tab_ok hΓ Tryd.func25 (by kernel_rfl) (by kernel_rfl) (by kernel_rfl) (by kernel_rfl) CutsOk_nil (fun x k r h => Eq.trans (b := (zq3n (zq3o c_ref02_gcd c_ref02_in c_ref02_size)).run x k) (by kernel_rfl) h)
end
theorem zq3qΓ : ΓOk Tryd.prog (pick1 [(40, .spec (zq1t zq28)), (44, .spec (zq2s zq2w)), (42, .spec (zq2b zq2f))]) := (ΓOk_cons zq29 (ΓOk_cons zq2x (ΓOk_cons zq2g ΓOk_nil)))
def zq3r : zq3m := zq3o zq28 zq2w zq2f
theorem zq3s : SpecOk Tryd.prog 25 (zq3n zq3r) := zq3p zq28 zq2w zq2f zq3qΓ

/-- pagewatch/ratio.New -/
abbrev zq3t := {β : Type} → Int → Int → ((Int × Int) → Int → Option β) → Option β
def zq3u (c : zq3t) : Spec :=
  ⟨[(false, [.data (.int .i64)]), (false, [.data (.int .i64)])], [], [(true, [.data (.prod (.int .i64) (.int .i64))]), (false, [.data (.int .i64)])], [], fun x k => c x.1.1.1 x.1.2.1.1 (fun r0 r1 => k (((r0, ()), (r1, ()), ()), ()))⟩
section
variable (c_ratio_gcd : zqp) (c_ratio_size : zq1l) (c_ratio_within : zq1e)
@[reducible] def ratio_New_X : Ctx := ⟨look tab, pick1 [(33, .spec (zqq c_ratio_gcd)), (37, .spec (zq1m c_ratio_size)), (36, .spec (zq1f c_ratio_within))], false, false, false⟩
def zq3v {β : Type} (num : Int) (den : Int) (k : ((Int × Int) → Int → Option β)) : Option β :=
  cond (decide (den < (1 : Int)))
  (k ((0 : Int), (0 : Int)) (1 : Int))
  (cond (decide ((4611686018427387904 : Int) < den))
  (k ((0 : Int), (0 : Int)) (1 : Int))
  (c_ratio_within num (fun (rwithin : Bool) =>
  cond (!rwithin)
  (k ((0 : Int), (0 : Int)) (1 : Int))
  (c_ratio_size num (fun (rsize : Int) =>
  c_ratio_gcd rsize den (fun (rgcd : Int) =>
  cond (!decide (rgcd = 0))
  (cond (!decide (rgcd = 0))
  (k ((IntKind.i64.wrap (Int.tdiv num rgcd)), (IntKind.i64.wrap (Int.tdiv den rgcd))) (0 : Int))
  none)
  none))))))
theorem zq3w (hΓ : ΓOk Tryd.prog (ratio_New_X c_ratio_gcd c_ratio_size c_ratio_within).Γ) : SpecOk Tryd.prog 27 (zq3u (zq3v c_ratio_gcd c_ratio_size c_ratio_within)) :=
  spec_exec (X := (ratio_New_X c_ratio_gcd c_ratio_size c_ratio_within)) (Λ := pick1 []) (rs := [.cell 4 24, .tmp 5]) (c := bodyOf Tryd.f27) mixed tab_ok hΓ Tryd.func27 (by kernel_rfl) (by kernel_rfl) (by kernel_rfl) (by kernel_rfl) CutsOk_nil (fun x k r h => Eq.trans (b := (zq3u (zq3v c_ratio_gcd c_ratio_size c_ratio_within)).run x k) (by kernel_rfl) h)
end
theorem zq3xΓ : ΓOk Tryd.prog (pick1 [(33, .spec (zqq zq15)), (37, .spec (zq1m zq1q)), (36, .spec (zq1f zq1j))]) := (ΓOk_cons zq16 (ΓOk_cons zq1r (ΓOk_cons zq1k ΓOk_nil)))
def zq3y : zq3t := zq3v zq15 zq1q zq1j
theorem zq3z : SpecOk Tryd.prog 27 (zq3u zq3y) := zq3w zq15 zq1q zq1j zq3xΓ

/-- pagewatch/pagewatchref02.New -/
abbrev zq40 := {β : Type} → Int → Int → ((Int × Int) → Int → Option β) → Option β
def zq41 (c : zq40) : Spec :=
  ⟨[(false, [.data (.int .i64)]), (false, [.data (.int .i64)])], [], [(true, [.data (.prod (.int .i64) (.int .i64))]), (false, [.data (.int .i64)])], [], fun x k => c x.1.1.1 x.1.2.1.1 (fun r0 r1 => k (((r0, ()), (r1, ()), ()), ()))⟩
section
variable (c_ref02_gcd : zq1s) (c_ref02_in : zq2r) (c_ref02_size : zq2a)
@[reducible] def ref02_New_X : Ctx := ⟨look tab, pick1 [(40, .spec (zq1t c_ref02_gcd)), (44, .spec (zq2s c_ref02_in)), (42, .spec (zq2b c_ref02_size))], false, false, false⟩
def zq42 {β : Type} (num : Int) (den : Int) (k : ((Int × Int) → Int → Option β)) : Option β :=
  c_ref02_in num (fun (rin : Bool) =>
  cond (!rin)
  (k ((0 : Int), (0 : Int)) (1 : Int))
  (cond (decide (den < (1 : Int)))
  (k ((0 : Int), (0 : Int)) (1 : Int))
  (cond (decide ((4611686018427387904 : Int) < den))
  (k ((0 : Int), (0 : Int)) (1 : Int))
  (c_ref02_size num (fun (rsize : Int) =>
  c_ref02_gcd rsize den (fun (rgcd : Int) =>
  cond (!decide (rgcd = 0))
  (cond (!decide (rgcd = 0))
  (k ((IntKind.i64.wrap (Int.tdiv num rgcd)), (IntKind.i64.wrap (Int.tdiv den rgcd))) (0 : Int))
  none)
  none))))))
theorem zq43 (hΓ : ΓOk Tryd.prog (ref02_New_X c_ref02_gcd c_ref02_in c_ref02_size).Γ) : SpecOk Tryd.prog 28 (zq41 (zq42 c_ref02_gcd c_ref02_in c_ref02_size)) :=
  spec_exec (X := (ref02_New_X c_ref02_gcd c_ref02_in c_ref02_size)) (Λ := pick1 []) (rs := [.cell 4 24, .tmp 5]) (c := bodyOf Tryd.f28) mixed tab_ok hΓ Tryd.func28 (by kernel_rfl) (by kernel_rfl) (by kernel_rfl) (by kernel_rfl) CutsOk_nil (fun x k r h => Eq.trans (b := (zq41 (zq42 c_ref02_gcd c_ref02_in c_ref02_size)).run x k) (by kernel_rfl) h)
end
theorem zq44Γ : ΓOk Tryd.prog (pick1 [(40, .spec (zq1t zq28)), (44, .spec (zq2s zq2w)), (42, .spec (zq2b zq2f))]) := (ΓOk_cons zq29 (ΓOk_cons zq2x (ΓOk_cons zq2g ΓOk_nil)))
def zq45 : zq40 := zq42 zq28 zq2w zq2f
theorem zq46 : SpecOk Tryd.prog 28 (zq41 zq45) := zq43 zq28 zq2w zq2f zq44Γ

/-- pagewatch/ratio.times -/
abbrev zq47 := {β : Type} → Int → Int → (Int → Bool → Option β) → Option β
def zq48 (c : zq47) : Spec :=
  ⟨[(false, [.data (.int .i64)]), (false, [.data (.int .i64)])], [], [(false, [.data (.int .i64)]), (false, [.data .bool])], [], fun x k => c x.1.1.1 x.1.2.1.1 (fun r0 r1 => k (((r0, ()), (r1, ()), ()), ()))⟩
section
variable (c_math_bits_Mul64 : zq2y) (c_ratio_size : zq1l)
@[reducible] def ratio_times_X : Ctx := ⟨look tab, pick1 [(50, .spec (zq2z c_math_bits_Mul64)), (37, .spec (zq1m c_ratio_size))], false, false, false⟩
def zq49 {β : Type} (a : Int) (b : Int) (k : (Int → Bool → Option β)) : Option β :=
  c_ratio_size a (fun (rsize : Int) =>
  c_ratio_size b (fun (rsize2 : Int) =>
  c_math_bits_Mul64 (IntKind.u64.wrap rsize) (IntKind.u64.wrap rsize2) (fun (rMul64 : Int) (rMul642 : Int) =>
  cond (!decide (rMul64 = (0 : Int)))
  (k (0 : Int) false)
  (cond (decide ((4611686018427387904 : Int) < rMul642))
  (k (0 : Int) false)
  (cond (!((decide (a < (0 : Int))) == (decide (b < (0 : Int)))))
  (let t : Int := (IntKind.i64.wrap (0 - (IntKind.i64.wrap rMul642)));
  k t true)
  (let t : Int := (IntKind.i64.wrap rMul642);
  k t true))))))
theorem zq4a (hΓ : ΓOk Tryd.prog (ratio_times_X c_math_bits_Mul64 c_ratio_size).Γ) : SpecOk Tryd.prog 34 (zq48 (zq49 c_math_bits_Mul64 c_ratio_size)) :=
  spec_exec (X := (ratio_times_X c_math_bits_Mul64 c_ratio_size)) (Λ := pick1 []) (rs := [.tmp 4, .tmp 5]) (c := bodyOf Tryd.f34) mixed tab_ok hΓ Tryd.func34 (by kernel_rfl) (by kernel_rfl) (by kernel_rfl) (by kernel_rfl) CutsOk_nil (fun x k r h => Eq.trans (b := (zq48 (zq49 c_math_bits_Mul64 c_ratio_size)).run x k) (by kernel_rfl) h)
end
theorem zq4bΓ : ΓOk Tryd.prog (pick1 [(50, .spec (zq2z zq33)), (37, .spec (zq1m zq1q))]) := (ΓOk_cons zq34 (ΓOk_cons zq1r ΓOk_nil))
def zq4c : zq47 := zq49 zq33 zq1q
theorem zq4d : SpecOk Tryd.prog 34 (zq48 zq4c) := zq4a zq33 zq1q zq4bΓ

/-- pagewatch/ratio.product -/
abbrev zq4e := {β : Type} → (Int × Int) → (Int × Int) → ((Int × Int) → Int → Option β) → Option β
def zq4f (c : zq4e) : Spec :=
  ⟨[(true, [.data (.prod (.int .i64) (.int .i64))]), (true, [.data (.prod (.int .i64) (.int .i64))])], [], [(true, [.data (.prod (.int .i64) (.int .i64))]), (false, [.data (.int .i64)])], [], fun x k => c x.1.1.1 x.1.2.1.1 (fun r0 r1 => k (((r0, ()), (r1, ()), ()), ()))⟩
section
variable (c_ratio_gcd : zqp) (c_ratio_size : zq1l) (c_ratio_times : zq47)
@[reducible] def ratio_product_X : Ctx := ⟨look tab, pick1 [(33, .spec (zqq c_ratio_gcd)), (37, .spec (zq1m c_ratio_size)), (34, .spec (zq48 c_ratio_times))], false, false, false⟩
def zq4g {β : Type} (a : (Int × Int)) (b : (Int × Int)) (k : ((Int × Int) → Int → Option β)) : Option β :=
  c_ratio_size a.1 (fun (rsize : Int) =>
  c_ratio_gcd rsize b.2 (fun (rgcd : Int) =>
  c_ratio_size b.1 (fun (rsize2 : Int) =>
  c_ratio_gcd rsize2 a.2 (fun (rgcd2 : Int) =>
  cond (!decide (rgcd = 0))
  (cond (!decide (rgcd2 = 0))
  (c_ratio_times (IntKind.i64.wrap (Int.tdiv a.1 rgcd)) (IntKind.i64.wrap (Int.tdiv b.1 rgcd2)) (fun (rtimes : Int) (rtimes2 : Bool) =>
  cond (!decide (rgcd2 = 0))
  (cond (!decide (rgcd = 0))
  (c_ratio_times (IntKind.i64.wrap (Int.tdiv a.2 rgcd2)) (IntKind.i64.wrap (Int.tdiv b.2 rgcd)) (fun (rtimes3 : Int) (rtimes4 : Bool) =>
  cond (!rtimes2)
  (k ((0 : Int), (0 : Int)) (5 : Int))
  (cond (!rtimes4)
  (k ((0 : Int), (0 : Int)) (5 : Int))
  (k (rtimes, rtimes3) (0 : Int)))))
  none)
  none))
  none)
  none))))
theorem zq4h (hΓ : ΓOk Tryd.prog (ratio_product_X c_ratio_gcd c_ratio_size c_ratio_times).Γ) : SpecOk Tryd.prog 38 (zq4f (zq4g c_ratio_gcd c_ratio_size c_ratio_times)) :=
  spec_exec (X := (ratio_product_X c_ratio_gcd c_ratio_size c_ratio_times)) (Λ := pick1 []) (rs := [.cell 4 24, .tmp 5]) (c := bodyOf Tryd.f38) mixed tab_ok hΓ Tryd.func38 (by kernel_rfl) (by kernel_rfl) (by kernel_rfl) (by kernel_rfl) CutsOk_nil (fun x k r h => Eq.trans (b := (zq4f (zq4g c_ratio_gcd c_ratio_size c_ratio_times)).run x k) (by kernel_rfl) h)
end
theorem zq4iΓ : ΓOk Tryd.prog (pick1 [(33, .spec (zqq zq15)), (37, .spec (zq1m zq1q)), (34, .spec (zq48 zq4c))]) := (ΓOk_cons zq16 (ΓOk_cons zq1r (ΓOk_cons zq4d ΓOk_nil)))
def zq4j : zq4e := zq4g zq15 zq1q zq4c
theorem zq4k : SpecOk Tryd.prog 38 (zq4f zq4j) := zq4h zq15 zq1q zq4c zq4iΓ

/-- pagewatch/ratio.below -/
abbrev zq4l := {β : Type} → Int → Int → Int → Int → (Bool → Option β) → Option β
def zq4m (c : zq4l) : Spec :=
  ⟨[(false, [.data (.int .i64)]), (false, [.data (.int .i64)]), (false, [.data (.int .i64)]), (false, [.data (.int .i64)])], [], [(false, [.data .bool])], [], fun x k => c x.1.1.1 x.1.2.1.1 x.1.2.2.1.1 x.1.2.2.2.1.1 (fun r0 => k (((r0, ()), ()), ()))⟩
section
variable (c_math_bits_Mul64 : zq2y)
@[reducible] def ratio_below_X : Ctx := ⟨look tab, pick1 [(50, .spec (zq2z c_math_bits_Mul64))], false, false, false⟩
def zq4n {β : Type} (a : Int) (b : Int) (c : Int) (d : Int) (k : (Bool → Option β)) : Option β :=
  c_math_bits_Mul64 (IntKind.u64.wrap a) (IntKind.u64.wrap b) (fun (rMul64 : Int) (rMul642 : Int) =>
  c_math_bits_Mul64 (IntKind.u64.wrap c) (IntKind.u64.wrap d) (fun (rMul643 : Int) (rMul644 : Int) =>
  cond (decide (rMul64 < rMul643))
  (k true)
  (cond (decide (rMul64 = rMul643))
  (let t : Bool := (decide (rMul642 < rMul644));
  k t)
  (k false))))
theorem zq4o (hΓ : ΓOk Tryd.prog (ratio_below_X c_math_bits_Mul64).Γ) : SpecOk Tryd.prog 39 (zq4m (zq4n c_math_bits_Mul64)) :=
  spec_exec (X := (ratio_below_X c_math_bits_Mul64)) (Λ := pick1 []) (rs := [.tmp 8]) (c := bodyOf Tryd.f39) mixed tab_ok hΓ Tryd.func39 (by kernel_rfl) (by kernel_rfl) (by kernel_rfl) (by kernel_rfl) CutsOk_nil (fun x k r h => Eq.trans (b := (zq4m (zq4n c_math_bits_Mul64)).run x k) (by kernel_rfl) h)
end
theorem zq4pΓ : ΓOk Tryd.prog (pick1 [(50, .spec (zq2z zq33))]) := (ΓOk_cons zq34 ΓOk_nil)
def zq4q : zq4l := zq4n zq33
theorem zq4r : SpecOk Tryd.prog 39 (zq4m zq4q) := zq4o zq33 zq4pΓ

/-- pagewatch/pagewatchref02.product -/
abbrev zq4s := {β : Type} → Int → Int → (Int → Bool → Option β) → Option β
def zq4t (c : zq4s) : Spec :=
  ⟨[(false, [.data (.int .i64)]), (false, [.data (.int .i64)])], [], [(false, [.data (.int .i64)]), (false, [.data .bool])], [], fun x k => c x.1.1.1 x.1.2.1.1 (fun r0 r1 => k (((r0, ()), (r1, ()), ()), ()))⟩
section
variable (c_ref02_size : zq2a)
@[reducible] def ref02_product_X : Ctx := ⟨look tab, pick1 [(42, .spec (zq2b c_ref02_size))], false, false, false⟩
def zq4u {β : Type} (a : Int) (b : Int) (k : (Int → Bool → Option β)) : Option β :=
  cond (decide (a = (0 : Int)))
  (k (0 : Int) true)
  (cond (decide (b = (0 : Int)))
  (k (0 : Int) true)
  (c_ref02_size a (fun (rsize : Int) =>
  c_ref02_size b (fun (rsize2 : Int) =>
  cond (!decide (rsize2 = 0))
  (cond (decide ((IntKind.i64.wrap (Int.tdiv (4611686018427387904 : Int) rsize2)) < rsize))
  (k (0 : Int) false)
  (let t : Int := (IntKind.i64.wrap (a * b));
  k t true))
  none))))
theorem zq4v (hΓ : ΓOk Tryd.prog (ref02_product_X c_ref02_size).Γ) : SpecOk Tryd.prog 41 (zq4t (zq4u c_ref02_size)) :=
  spec_exec (X := (ref02_product_X c_ref02_size)) (Λ := pick1 []) (rs := [.tmp 4, .tmp 5]) (c := bodyOf Tryd.f41) mixed tab_ok hΓ Tryd.func41 (by kernel_rfl) (by kernel_rfl) (by kernel_rfl) (by kernel_rfl) CutsOk_nil (fun x k r h => Eq.trans (b := (zq4t (zq4u c_ref02_size)).run x k) (by kernel_rfl) h)
end
theorem zq4wΓ : ΓOk Tryd.prog (pick1 [(42, .spec (zq2b zq2f))]) := (ΓOk_cons zq2g ΓOk_nil)
def zq4x : zq4s := zq4u zq2f
theorem zq4y : SpecOk Tryd.prog 41 (zq4t zq4x) := zq4v zq2f zq4wΓ

/-- pagewatch/pagewatchref02.Decimal -/
abbrev zq4z := {β : Type} → Int → ((List UInt8) → Option β) → Option β
def zq50 (c : zq4z) : Spec :=
  ⟨[(false, [.data (.int .i64)])], [], [(false, [.data .str])], [], fun x k => c x.1.1.1 (fun r0 => k (((r0, ()), ()), ()))⟩
section
variable (c_ref02_digits : zq35)
@[reducible] def ref02_Decimal_X : Ctx := ⟨look tab, pick1 [(51, .spec (zq36 c_ref02_digits))], false, false, false⟩
def zq51 {β : Type} (n : Int) (k : ((List UInt8) → Option β)) : Option β :=
  cond (decide (n < (0 : Int)))
  (c_ref02_digits (IntKind.u64.wrap ((IntKind.u64.wrap (IntKind.i64.wrap (0 - (IntKind.i64.wrap (n + (1 : Int)))))) + (1 : Int))) (fun (rdigits : List UInt8) =>
  cond (decide (List.length ([45] : List UInt8) + List.length rdigits ≤ 9223372036854775807))
  (let t : List UInt8 := (([45] : List UInt8) ++ rdigits);
  k t)
  none))
  (c_ref02_digits (IntKind.u64.wrap n) (fun (rdigits : List UInt8) =>
  k rdigits))
theorem zq52 (hΓ : ΓOk Tryd.prog (ref02_Decimal_X c_ref02_digits).Γ) : SpecOk Tryd.prog 45 (zq50 (zq51 c_ref02_digits)) :=
  spec_exec (X := (ref02_Decimal_X c_ref02_digits)) (Λ := pick1 []) (rs := [.tmp 2]) (c := bodyOf Tryd.f45) mixed tab_ok hΓ Tryd.func45 (by kernel_rfl) (by kernel_rfl) (by kernel_rfl) (by kernel_rfl) CutsOk_nil (fun x k r h => Eq.trans (b := (zq50 (zq51 c_ref02_digits)).run x k) (by kernel_rfl) h)
end
theorem zq53Γ : ΓOk Tryd.prog (pick1 [(51, .spec (zq36 zq3d))]) := (ΓOk_cons zq3e ΓOk_nil)
def zq54 : zq4z := zq51 zq3d
theorem zq55 : SpecOk Tryd.prog 45 (zq50 zq54) := zq52 zq3d zq53Γ

/-- pagewatch/pagewatchlaw02.draw -/
abbrev zq56 := {β : Type} → Int → Int → ((Int × Int) → Option β) → Option β
def zq57 (c : zq56) : Spec :=
  ⟨[(false, [.data (.int .i64)]), (false, [.data (.int .i64)])], [], [(true, [.data (.prod (.int .i64) (.int .i64))])], [], fun x k => c x.1.1.1 x.1.2.1.1 (fun r0 => k (((r0, ()), ()), ()))⟩
section
variable (c_made_Mod : zq0) (c_ref02_New : zq40)
@[reducible] def law02_draw_X : Ctx := ⟨look tab, pick1 [(18, .spec (zq1 c_made_Mod)), (28, .spec (zq41 c_ref02_New))], false, false, false⟩
def zq58 {β : Type} (n : Int) (d : Int) (k : ((Int × Int) → Option β)) : Option β :=
  c_made_Mod n (5 : Int) (fun (rMod : Int) =>
  let t : Bool := (decide (rMod = (0 : Int)));
  cond t
  (c_made_Mod d (9 : Int) (fun (rMod2 : Int) =>
  c_made_Mod n (7 : Int) (fun (rMod3 : Int) =>
  c_ref02_New (IntKind.i64.wrap ((4611686018427387904 : Int) - rMod2)) (IntKind.i64.wrap ((1 : Int) + rMod3)) (fun (rNew : (Int × Int)) (rNew2 : Int) =>
  k rNew))))
  (let t2 : Bool := (decide (rMod = (1 : Int)));
  cond t2
  (c_made_Mod n (99 : Int) (fun (rMod2 : Int) =>
  c_made_Mod d (9 : Int) (fun (rMod3 : Int) =>
  c_ref02_New (IntKind.i64.wrap (rMod2 - (49 : Int))) (IntKind.i64.wrap ((4611686018427387904 : Int) - rMod3)) (fun (rNew : (Int × Int)) (rNew2 : Int) =>
  k rNew))))
  (c_made_Mod n (201 : Int) (fun (rMod2 : Int) =>
  c_made_Mod d (60 : Int) (fun (rMod3 : Int) =>
  c_ref02_New (IntKind.i64.wrap (rMod2 - (100 : Int))) (IntKind.i64.wrap ((1 : Int) + rMod3)) (fun (rNew : (Int × Int)) (rNew2 : Int) =>
  k rNew))))))
theorem zq59 (hΓ : ΓOk Tryd.prog (law02_draw_X c_made_Mod c_ref02_New).Γ) : SpecOk Tryd.prog 9 (zq57 (zq58 c_made_Mod c_ref02_New)) :=
  spec_exec (X := (law02_draw_X c_made_Mod c_ref02_New)) (Λ := pick1 []) (rs := [.cell 4 24]) (c := bodyOf Tryd.f9) mixed tab_ok hΓ Tryd.func9 (by kernel_rfl) (by kernel_rfl) (by kernel_rfl) (by kernel_rfl) CutsOk_nil (fun x k r h => Eq.trans (b := (zq57 (zq58 c_made_Mod c_ref02_New)).run x k) (by kernel_rfl) h)
end
theorem zq5aΓ : ΓOk Tryd.prog (pick1 [(18, .spec (zq1 zq5)), (28, .spec (zq41 zq45))]) := (ΓOk_cons zq6 (ΓOk_cons zq46 ΓOk_nil))
def zq5b : zq56 := zq58 zq5 zq45
theorem zq5c : SpecOk Tryd.prog 9 (zq57 zq5b) := zq59 zq5 zq45 zq5aΓ

/-- pagewatch/ratio.Text -/
abbrev zq5d := {β : Type} → (Int × Int) → ((List UInt8) → Option β) → Option β
def zq5e (c : zq5d) : Spec :=
  ⟨[(true, [.data (.prod (.int .i64) (.int .i64))])], [], [(false, [.data .str])], [], fun x k => c x.1.1.1 (fun r0 => k (((r0, ()), ()), ()))⟩
section
variable (c_ratio_Valid : zq3f) (c_strconv_Itoa : zq9)
@[reducible] def ratio_Text_X : Ctx := ⟨look tab, pick1 [(15, .spec (zq3g c_ratio_Valid)), (29, .spec (zqa c_strconv_Itoa))], false, false, false⟩
def zq5f {β : Type} (r_ : (Int × Int)) (k : ((List UInt8) → Option β)) : Option β :=
  c_ratio_Valid r_ (fun (rValid : Bool) =>
  cond (!rValid)
  (k ([] : List UInt8))
  (let t : Bool := (decide (r_.2 = (1 : Int)));
  cond t
  (c_strconv_Itoa r_.1 (fun (rItoa : List UInt8) =>
  k rItoa))
  (c_strconv_Itoa r_.1 (fun (rItoa : List UInt8) =>
  cond (decide (List.length rItoa + List.length ([47] : List UInt8) ≤ 9223372036854775807))
  (c_strconv_Itoa r_.2 (fun (rItoa2 : List UInt8) =>
  cond (decide (List.length (rItoa ++ ([47] : List UInt8)) + List.length rItoa2 ≤ 9223372036854775807))
  (let t2 : List UInt8 := ((rItoa ++ ([47] : List UInt8)) ++ rItoa2);
  k t2)
  none))
  none))))
theorem zq5g (hΓ : ΓOk Tryd.prog (ratio_Text_X c_ratio_Valid c_strconv_Itoa).Γ) : SpecOk Tryd.prog 10 (zq5e (zq5f c_ratio_Valid c_strconv_Itoa)) :=
  spec_exec (X := (ratio_Text_X c_ratio_Valid c_strconv_Itoa)) (Λ := pick1 []) (rs := [.tmp 2]) (c := bodyOf Tryd.f10) mixed tab_ok hΓ Tryd.func10 (by kernel_rfl) (by kernel_rfl) (by kernel_rfl) (by kernel_rfl) CutsOk_nil (fun x k r h => Eq.trans (b := (zq5e (zq5f c_ratio_Valid c_strconv_Itoa)).run x k) (by kernel_rfl) h)
end
theorem zq5hΓ : ΓOk Tryd.prog (pick1 [(15, .spec (zq3g zq3k)), (29, .spec (zqa zqb))]) := (ΓOk_cons zq3l (ΓOk_cons zqc ΓOk_nil))
def zq5i : zq5d := zq5f zq3k zqb
theorem zq5j : SpecOk Tryd.prog 10 (zq5e zq5i) := zq5g zq3k zqb zq5hΓ

/-- pagewatch/ratio.Parse -/
abbrev zq5k := {β : Type} → (List UInt8) → ((Int × Int) → Int → Option β) → Option β
def zq5l (c : zq5k) : Spec :=
  ⟨[(false, [.data .str])], [], [(true, [.data (.prod (.int .i64) (.int .i64))]), (false, [.data (.int .i64)])], [], fun x k => c x.1.1.1 (fun r0 r1 => k (((r0, ()), (r1, ()), ()), ()))⟩
noncomputable def ratio_Parse_p1_code : Code := codeAt 127 (bodyOf Tryd.f11)
abbrev zq5m (β : Type) := Int → Int → Int → Option β
abbrev zq5n := {β : Type} → zq5m β → (List UInt8) → Bool → Bool → Int → Int → Int → Int → Option β
def zq5o : View := ⟨0, [0, 2, 7, 8, 9], [(false, [.data .str]), (false, [.ptr 0 0]), (false, [.ptr 1 0]), (false, [.data .err]), (false, [.data .err])], [.cells 24 [.data (.int .i64), .data (.int .i64)], .cells 24 [.data (.int .i64), .data (.int .i64)]]⟩
def zq5p : List (AExit × View) := [(.ret, ⟨0, [2, 3], [(false, [.ptr 0 0]), (false, [.data (.int .i64)])], [.cells 24 [.data (.int .i64), .data (.int .i64)]]⟩)]
@[reducible] def ratio_Parse_p1_G (p : zq5n) {β : Type} (d : zq5o.den) (ks : Outs.K β zq5p) : Option β :=
  p (fun a0 a1 a2 => ks.1 (((), (a0, ()), ()), ((a1, a2, ()), ()))) d.1.1.1 d.1.2.2.2.1.1 d.1.2.2.2.2.1.1 d.2.1.1 d.2.1.2.1 d.2.2.1.1 d.2.2.1.2.1
section
variable (c_ratio_Text : zq5d) (c_strconv_Atoi : zql) (c_strings_Cut : zqf)
@[reducible] def ratio_Parse_X : Ctx := ⟨look tab, pick1 [(10, .spec (zq5e c_ratio_Text)), (31, .spec (zqm c_strconv_Atoi)), (30, .spec (zqg c_strings_Cut))], false, false, false⟩
def zq5q {β : Type} (k1 : zq5m β) (text : List UInt8) (e : Bool) (f : Bool) (t2 : Int) (t22 : Int) (r_ : Int) (r_2 : Int) : Option β :=
  cond (!e)
  (k1 (2 : Int) (0 : Int) (0 : Int))
  (cond (!f)
  (k1 (2 : Int) (0 : Int) (0 : Int))
  (cond (decide (text = ([] : List UInt8)))
  (k1 (2 : Int) (0 : Int) (0 : Int))
  (c_ratio_Text (r_, r_2) (fun (rText : List UInt8) =>
  cond (!decide (rText = text))
  (k1 (2 : Int) (0 : Int) (0 : Int))
  (k1 (0 : Int) r_ r_2)))))
def zq5r {β : Type} (k1 : zq5m β) (text : List UInt8) (e : Bool) (f : Bool) (t2 : Int) (t22 : Int) (r_ : Int) (r_2 : Int) : Option β := zq5q c_ratio_Text k1 text e f t2 t22 r_ r_2
theorem zq5s (hΓ : ΓOk Tryd.prog (ratio_Parse_X c_ratio_Text c_strconv_Atoi c_strings_Cut).Γ) : PieceOk Tryd.prog 48 0 ratio_Parse_p1_code zq5o zq5p (ratio_Parse_p1_G (zq5r c_ratio_Text)) :=
  piece_exec (X := (ratio_Parse_X c_ratio_Text c_strconv_Atoi c_strings_Cut)) (p := 127) (Λ := pick1 []) mixed tab_ok hΓ (by kernel_rfl) CutsOk_nil (fun d ks r h => Eq.trans (b := ratio_Parse_p1_G (zq5r c_ratio_Text) d ks) (by kernel_rfl) h)
def zq5t (p1 : zq5n) {β : Type} (text : List UInt8) (k : ((Int × Int) → Int → Option β)) : Option β :=
  c_strings_Cut text ([47] : List UInt8) (fun (rCut : List UInt8) (rCut2 : List UInt8) (rCut3 : Bool) =>
  c_strconv_Atoi rCut (fun (rAtoi : Int) (rAtoi2 : Bool) =>
  cond rCut3
  (c_strconv_Atoi rCut2 (fun (rAtoi3 : Int) (rAtoi4 : Bool) =>
  p1 (fun (t3 : Int) (t2 : Int) (t22 : Int) =>
  k (t2, t22) t3) text rAtoi2 rAtoi4 (0 : Int) (0 : Int) rAtoi rAtoi3))
  (p1 (fun (t3 : Int) (t2 : Int) (t22 : Int) =>
  k (t2, t22) t3) text rAtoi2 true (0 : Int) (0 : Int) rAtoi (1 : Int))))
theorem zq5u (hΓ : ΓOk Tryd.prog (ratio_Parse_X c_ratio_Text c_strconv_Atoi c_strings_Cut).Γ) (p1 : zq5n) (hp1 : PieceOk Tryd.prog 48 0 ratio_Parse_p1_code zq5o zq5p (ratio_Parse_p1_G p1)) : SpecOk Tryd.prog 11 (zq5l (zq5t c_strconv_Atoi c_strings_Cut p1)) :=
  spec_exec (X := (ratio_Parse_X c_ratio_Text c_strconv_Atoi c_strings_Cut)) (Λ := pick1 [(127, pieceCut zq5o zq5p (ratio_Parse_p1_G p1))]) (rs := [.cell 2 24, .tmp 3]) (c := bodyOf Tryd.f11) mixed tab_ok hΓ Tryd.func11 (by kernel_rfl) (by kernel_rfl) (by kernel_rfl) (by kernel_rfl) (CutsOk_cons (q := 127) (c' := ratio_Parse_p1_code) (by kernel_rfl) rfl hp1 CutsOk_nil) (fun x k r h => Eq.trans (b := (zq5l (zq5t c_strconv_Atoi c_strings_Cut p1)).run x k) (by kernel_rfl) h)
end
theorem zq5vΓ : ΓOk Tryd.prog (pick1 [(10, .spec (zq5e zq5i)), (31, .spec (zqm zqn)), (30, .spec (zqg zqh))]) := (ΓOk_cons zq5j (ΓOk_cons zqo (ΓOk_cons zqi ΓOk_nil)))
def zq5w : zq5n := zq5r zq5i
theorem zq5x : PieceOk Tryd.prog 48 0 ratio_Parse_p1_code zq5o zq5p (ratio_Parse_p1_G zq5w) := zq5s zq5i zqn zqh zq5vΓ
def zq5y : zq5k := zq5t zqn zqh zq5w
theorem zq5z : SpecOk Tryd.prog 11 (zq5l zq5y) := zq5u zq5i zqn zqh zq5vΓ zq5w zq5x

/-- pagewatch/ratio.Add -/
abbrev zq60 := {β : Type} → (Int × Int) → (Int × Int) → ((Int × Int) → Int → Option β) → Option β
def zq61 (c : zq60) : Spec :=
  ⟨[(true, [.data (.prod (.int .i64) (.int .i64))]), (true, [.data (.prod (.int .i64) (.int .i64))])], [], [(true, [.data (.prod (.int .i64) (.int .i64))]), (false, [.data (.int .i64)])], [], fun x k => c x.1.1.1 x.1.2.1.1 (fun r0 r1 => k (((r0, ()), (r1, ()), ()), ()))⟩
section
variable (c_ratio_New : zq3t) (c_ratio_Valid : zq3f) (c_ratio_gcd : zqp) (c_ratio_plus : zq17) (c_ratio_times : zq47)
@[reducible] def ratio_Add_X : Ctx := ⟨look tab, pick1 [(27, .spec (zq3u c_ratio_New)), (15, .spec (zq3g c_ratio_Valid)), (33, .spec (zqq c_ratio_gcd)), (35, .spec (zq18 c_ratio_plus)), (34, .spec (zq48 c_ratio_times))], false, false, false⟩
def zq62 {β : Type} (a : (Int × Int)) (b : (Int × Int)) (k : ((Int × Int) → Int → Option β)) : Option β :=
  c_ratio_Valid a (fun (rValid : Bool) =>
  cond (!rValid)
  (k ((0 : Int), (0 : Int)) (8 : Int))
  (c_ratio_Valid b (fun (rValid2 : Bool) =>
  cond (!rValid2)
  (k ((0 : Int), (0 : Int)) (8 : Int))
  (c_ratio_gcd a.2 b.2 (fun (rgcd : Int) =>
  cond (!decide (rgcd = 0))
  (c_ratio_times a.1 (IntKind.i64.wrap (Int.tdiv b.2 rgcd)) (fun (rtimes : Int) (rtimes2 : Bool) =>
  cond (!decide (rgcd = 0))
  (c_ratio_times b.1 (IntKind.i64.wrap (Int.tdiv a.2 rgcd)) (fun (rtimes3 : Int) (rtimes4 : Bool) =>
  cond (!decide (rgcd = 0))
  (c_ratio_times (IntKind.i64.wrap (Int.tdiv a.2 rgcd)) b.2 (fun (rtimes5 : Int) (rtimes6 : Bool) =>
  cond (!rtimes2)
  (k ((0 : Int), (0 : Int)) (5 : Int))
  (cond (!rtimes4)
  (k ((0 : Int), (0 : Int)) (5 : Int))
  (cond (!rtimes6)
  (k ((0 : Int), (0 : Int)) (5 : Int))
  (c_ratio_plus rtimes rtimes3 (fun (rplus : Int) (rplus2 : Bool) =>
  cond (!rplus2)
  (k ((0 : Int), (0 : Int)) (5 : Int))
  (c_ratio_New rplus rtimes5 (fun (rNew : (Int × Int)) (rNew2 : Int) =>
  k rNew rNew2))))))))
  none))
  none))
  none)))))
theorem zq63 (hΓ : ΓOk Tryd.prog (ratio_Add_X c_ratio_New c_ratio_Valid c_ratio_gcd c_ratio_plus c_ratio_times).Γ) : SpecOk Tryd.prog 13 (zq61 (zq62 c_ratio_New c_ratio_Valid c_ratio_gcd c_ratio_plus c_ratio_times)) :=
  spec_exec (X := (ratio_Add_X c_ratio_New c_ratio_Valid c_ratio_gcd c_ratio_plus c_ratio_times)) (Λ := pick1 []) (rs := [.cell 4 24, .tmp 5]) (c := bodyOf Tryd.f13) mixed tab_ok hΓ Tryd.func13 (by kernel_rfl) (by kernel_rfl) (by kernel_rfl) (by kernel_rfl) CutsOk_nil (fun x k r h => Eq.trans (b := (zq61 (zq62 c_ratio_New c_ratio_Valid c_ratio_gcd c_ratio_plus c_ratio_times)).run x k) (by kernel_rfl) h)
end
theorem zq64Γ : ΓOk Tryd.prog (pick1 [(27, .spec (zq3u zq3y)), (15, .spec (zq3g zq3k)), (33, .spec (zqq zq15)), (35, .spec (zq18 zq1c)), (34, .spec (zq48 zq4c))]) := (ΓOk_cons zq3z (ΓOk_cons zq3l (ΓOk_cons zq16 (ΓOk_cons zq1d (ΓOk_cons zq4d ΓOk_nil)))))
def zq65 : zq60 := zq62 zq3y zq3k zq15 zq1c zq4c
theorem zq66 : SpecOk Tryd.prog 13 (zq61 zq65) := zq63 zq3y zq3k zq15 zq1c zq4c zq64Γ

/-- pagewatch/ratio.Sub -/
abbrev zq67 := {β : Type} → (Int × Int) → (Int × Int) → ((Int × Int) → Int → Option β) → Option β
def zq68 (c : zq67) : Spec :=
  ⟨[(true, [.data (.prod (.int .i64) (.int .i64))]), (true, [.data (.prod (.int .i64) (.int .i64))])], [], [(true, [.data (.prod (.int .i64) (.int .i64))]), (false, [.data (.int .i64)])], [], fun x k => c x.1.1.1 x.1.2.1.1 (fun r0 r1 => k (((r0, ()), (r1, ()), ()), ()))⟩
section
variable (c_ratio_Add : zq60) (c_ratio_Valid : zq3f)
@[reducible] def ratio_Sub_X : Ctx := ⟨look tab, pick1 [(13, .spec (zq61 c_ratio_Add)), (15, .spec (zq3g c_ratio_Valid))], false, false, false⟩
def zq69 {β : Type} (a : (Int × Int)) (b : (Int × Int)) (k : ((Int × Int) → Int → Option β)) : Option β :=
  c_ratio_Valid a (fun (rValid : Bool) =>
  cond (!rValid)
  (k ((0 : Int), (0 : Int)) (8 : Int))
  (c_ratio_Valid b (fun (rValid2 : Bool) =>
  cond (!rValid2)
  (k ((0 : Int), (0 : Int)) (8 : Int))
  (c_ratio_Add a ((IntKind.i64.wrap (0 - b.1)), b.2) (fun (rAdd : (Int × Int)) (rAdd2 : Int) =>
  k rAdd rAdd2)))))
theorem zq6a (hΓ : ΓOk Tryd.prog (ratio_Sub_X c_ratio_Add c_ratio_Valid).Γ) : SpecOk Tryd.prog 14 (zq68 (zq69 c_ratio_Add c_ratio_Valid)) :=
  spec_exec (X := (ratio_Sub_X c_ratio_Add c_ratio_Valid)) (Λ := pick1 []) (rs := [.cell 4 24, .tmp 5]) (c := bodyOf Tryd.f14) mixed tab_ok hΓ Tryd.func14 (by kernel_rfl) (by kernel_rfl) (by kernel_rfl) (by kernel_rfl) CutsOk_nil (fun x k r h => Eq.trans (b := (zq68 (zq69 c_ratio_Add c_ratio_Valid)).run x k) (by kernel_rfl) h)
end
theorem zq6bΓ : ΓOk Tryd.prog (pick1 [(13, .spec (zq61 zq65)), (15, .spec (zq3g zq3k))]) := (ΓOk_cons zq66 (ΓOk_cons zq3l ΓOk_nil))
def zq6c : zq67 := zq69 zq65 zq3k
theorem zq6d : SpecOk Tryd.prog 14 (zq68 zq6c) := zq6a zq65 zq3k zq6bΓ

/-- pagewatch/ratio.Mul -/
abbrev zq6e := {β : Type} → (Int × Int) → (Int × Int) → ((Int × Int) → Int → Option β) → Option β
def zq6f (c : zq6e) : Spec :=
  ⟨[(true, [.data (.prod (.int .i64) (.int .i64))]), (true, [.data (.prod (.int .i64) (.int .i64))])], [], [(true, [.data (.prod (.int .i64) (.int .i64))]), (false, [.data (.int .i64)])], [], fun x k => c x.1.1.1 x.1.2.1.1 (fun r0 r1 => k (((r0, ()), (r1, ()), ()), ()))⟩
section
variable (c_ratio_Valid : zq3f) (c_ratio_product : zq4e)
@[reducible] def ratio_Mul_X : Ctx := ⟨look tab, pick1 [(15, .spec (zq3g c_ratio_Valid)), (38, .spec (zq4f c_ratio_product))], false, false, false⟩
def zq6g {β : Type} (a : (Int × Int)) (b : (Int × Int)) (k : ((Int × Int) → Int → Option β)) : Option β :=
  c_ratio_Valid a (fun (rValid : Bool) =>
  cond (!rValid)
  (k ((0 : Int), (0 : Int)) (8 : Int))
  (c_ratio_Valid b (fun (rValid2 : Bool) =>
  cond (!rValid2)
  (k ((0 : Int), (0 : Int)) (8 : Int))
  (c_ratio_product a b (fun (rproduct : (Int × Int)) (rproduct2 : Int) =>
  k rproduct rproduct2)))))
theorem zq6h (hΓ : ΓOk Tryd.prog (ratio_Mul_X c_ratio_Valid c_ratio_product).Γ) : SpecOk Tryd.prog 16 (zq6f (zq6g c_ratio_Valid c_ratio_product)) :=
  spec_exec (X := (ratio_Mul_X c_ratio_Valid c_ratio_product)) (Λ := pick1 []) (rs := [.cell 4 24, .tmp 5]) (c := bodyOf Tryd.f16) mixed tab_ok hΓ Tryd.func16 (by kernel_rfl) (by kernel_rfl) (by kernel_rfl) (by kernel_rfl) CutsOk_nil (fun x k r h => Eq.trans (b := (zq6f (zq6g c_ratio_Valid c_ratio_product)).run x k) (by kernel_rfl) h)
end
theorem zq6iΓ : ΓOk Tryd.prog (pick1 [(15, .spec (zq3g zq3k)), (38, .spec (zq4f zq4j))]) := (ΓOk_cons zq3l (ΓOk_cons zq4k ΓOk_nil))
def zq6j : zq6e := zq6g zq3k zq4j
theorem zq6k : SpecOk Tryd.prog 16 (zq6f zq6j) := zq6h zq3k zq4j zq6iΓ

/-- pagewatch/ratio.Div -/
abbrev zq6l := {β : Type} → (Int × Int) → (Int × Int) → ((Int × Int) → Int → Option β) → Option β
def zq6m (c : zq6l) : Spec :=
  ⟨[(true, [.data (.prod (.int .i64) (.int .i64))]), (true, [.data (.prod (.int .i64) (.int .i64))])], [], [(true, [.data (.prod (.int .i64) (.int .i64))]), (false, [.data (.int .i64)])], [], fun x k => c x.1.1.1 x.1.2.1.1 (fun r0 r1 => k (((r0, ()), (r1, ()), ()), ()))⟩
noncomputable def ratio_Div_p1_code : Code := codeAt 7 (bodyOf Tryd.f17)
noncomputable def ratio_Div_p2_code : Code := codeAt 25 (bodyOf Tryd.f17)
abbrev zq6n (β : Type) := Int → Int → Int → Option β
abbrev zq6o := {β : Type} → zq6n β → Int → Int → Int → Int → Int → Int → Option β
def zq6p : View := ⟨0, [2, 3, 4], [(false, [.ptr 0 0]), (false, [.ptr 1 0]), (false, [.ptr 2 0])], [.cells 24 [.data (.int .i64), .data (.int .i64)], .cells 24 [.data (.int .i64), .data (.int .i64)], .cells 24 [.data (.int .i64), .data (.int .i64)]]⟩
def zq6q : List (AExit × View) := [(.ret, ⟨0, [4, 5], [(false, [.ptr 0 0]), (false, [.data (.int .i64)])], [.cells 24 [.data (.int .i64), .data (.int .i64)]]⟩)]
@[reducible] def ratio_Div_p1_G (p : zq6o) {β : Type} (d : zq6p.den) (ks : Outs.K β zq6q) : Option β :=
  p (fun a0 a1 a2 => ks.1 (((), (a0, ()), ()), ((a1, a2, ()), ()))) d.2.1.1 d.2.1.2.1 d.2.2.1.1 d.2.2.1.2.1 d.2.2.2.1.1 d.2.2.2.1.2.1
abbrev zq6r (β : Type) := Int → Int → Int → Option β
abbrev zq6s (β : Type) := Int → Int → Int → Int → Int → Int → Option β
abbrev zq6t := {β : Type} → zq6r β → zq6s β → Bool → Int → Int → Int → Int → Int → Int → Option β
def zq6u : View := ⟨0, [2, 3, 4, 7], [(false, [.ptr 0 0]), (false, [.ptr 1 0]), (false, [.ptr 2 0]), (false, [.data .bool])], [.cells 24 [.data (.int .i64), .data (.int .i64)], .cells 24 [.data (.int .i64), .data (.int .i64)], .cells 24 [.data (.int .i64), .data (.int .i64)]]⟩
def zq6v : List (AExit × View) := [(.ret, ⟨0, [4, 5], [(false, [.ptr 0 0]), (false, [.data (.int .i64)])], [.cells 24 [.data (.int .i64), .data (.int .i64)]]⟩), (.normal, ⟨0, [2, 3, 4], [(false, [.ptr 0 0]), (false, [.ptr 1 0]), (false, [.ptr 2 0])], [.cells 24 [.data (.int .i64), .data (.int .i64)], .cells 24 [.data (.int .i64), .data (.int .i64)], .cells 24 [.data (.int .i64), .data (.int .i64)]]⟩)]
@[reducible] def ratio_Div_p2_G (p : zq6t) {β : Type} (d : zq6u.den) (ks : Outs.K β zq6v) : Option β :=
  p (fun a0 a1 a2 => ks.1 (((), (a0, ()), ()), ((a1, a2, ()), ()))) (fun a0 a1 a2 a3 a4 a5 => ks.2.1 (((), (), (), ()), ((a0, a1, ()), (a2, a3, ()), (a4, a5, ()), ()))) d.1.2.2.2.1.1 d.2.1.1 d.2.1.2.1 d.2.2.1.1 d.2.2.1.2.1 d.2.2.2.1.1 d.2.2.2.1.2.1
section
variable (c_ratio_Valid : zq3f) (c_ratio_product : zq4e) (c_ratio_size : zq1l)
@[reducible] def ratio_Div_X : Ctx := ⟨look tab, pick1 [(15, .spec (zq3g c_ratio_Valid)), (38, .spec (zq4f c_ratio_product)), (37, .spec (zq1m c_ratio_size))], false, false, false⟩
def zq6w {β : Type} (k1 : zq6n β) (a : Int) (a2 : Int) (b : Int) (b2 : Int) (t4 : Int) (t42 : Int) : Option β :=
  c_ratio_size b (fun (rsize : Int) =>
  cond (decide (b < (0 : Int)))
  (c_ratio_product (a, a2) ((IntKind.i64.wrap (0 - b2)), rsize) (fun (rproduct : (Int × Int)) (rproduct2 : Int) =>
  k1 rproduct2 rproduct.1 rproduct.2))
  (c_ratio_product (a, a2) (b2, rsize) (fun (rproduct : (Int × Int)) (rproduct2 : Int) =>
  k1 rproduct2 rproduct.1 rproduct.2)))
def zq6x {β : Type} (k1 : zq6n β) (a : Int) (a2 : Int) (b : Int) (b2 : Int) (t4 : Int) (t42 : Int) : Option β := zq6w c_ratio_product c_ratio_size k1 a a2 b b2 t4 t42
theorem zq6y (hΓ : ΓOk Tryd.prog (ratio_Div_X c_ratio_Valid c_ratio_product c_ratio_size).Γ) : PieceOk Tryd.prog 40 0 ratio_Div_p1_code zq6p zq6q (ratio_Div_p1_G (zq6x c_ratio_product c_ratio_size)) :=
  piece_exec (X := (ratio_Div_X c_ratio_Valid c_ratio_product c_ratio_size)) (p := 7) (Λ := pick1 []) mixed tab_ok hΓ (by kernel_rfl) CutsOk_nil (fun d ks r h => Eq.trans (b := ratio_Div_p1_G (zq6x c_ratio_product c_ratio_size) d ks) (by kernel_rfl) h)
def zq6z {β : Type} (k1 : zq6r β) (k2 : zq6s β) (t7 : Bool) (a : Int) (a2 : Int) (b : Int) (b2 : Int) (t4 : Int) (t42 : Int) : Option β :=
  cond t7
  (k1 (8 : Int) (0 : Int) (0 : Int))
  (cond (decide (b = (0 : Int)))
  (k1 (1 : Int) (0 : Int) (0 : Int))
  (k2 a a2 b b2 t4 t42))
def zq70 {β : Type} (k1 : zq6r β) (k2 : zq6s β) (t7 : Bool) (a : Int) (a2 : Int) (b : Int) (b2 : Int) (t4 : Int) (t42 : Int) : Option β := zq6z k1 k2 t7 a a2 b b2 t4 t42
theorem zq71 (hΓ : ΓOk Tryd.prog (ratio_Div_X c_ratio_Valid c_ratio_product c_ratio_size).Γ) : PieceOk Tryd.prog 40 0 ratio_Div_p2_code zq6u zq6v (ratio_Div_p2_G (zq70)) :=
  piece_exec (X := (ratio_Div_X c_ratio_Valid c_ratio_product c_ratio_size)) (p := 25) (Λ := pick1 []) mixed tab_ok hΓ (by kernel_rfl) CutsOk_nil (fun d ks r h => Eq.trans (b := ratio_Div_p2_G (zq70) d ks) (by kernel_rfl) h)
def zq72 (p1 : zq6o) (p2 : zq6t) {β : Type} (a : (Int × Int)) (b : (Int × Int)) (k : ((Int × Int) → Int → Option β)) : Option β :=
  c_ratio_Valid a (fun (rValid : Bool) =>
  cond (!rValid)
  (p2 (fun (t5 : Int) (t4 : Int) (t42 : Int) =>
  k (t4, t42) t5) (fun (a2 : Int) (a3 : Int) (b2 : Int) (b3 : Int) (t4 : Int) (t42 : Int) =>
  p1 (fun (t5 : Int) (t43 : Int) (t44 : Int) =>
  k (t43, t44) t5) a2 a3 b2 b3 t4 t42) true a.1 a.2 b.1 b.2 (0 : Int) (0 : Int))
  (c_ratio_Valid b (fun (rValid2 : Bool) =>
  p2 (fun (t5 : Int) (t4 : Int) (t42 : Int) =>
  k (t4, t42) t5) (fun (a2 : Int) (a3 : Int) (b2 : Int) (b3 : Int) (t4 : Int) (t42 : Int) =>
  p1 (fun (t5 : Int) (t43 : Int) (t44 : Int) =>
  k (t43, t44) t5) a2 a3 b2 b3 t4 t42) (!rValid2) a.1 a.2 b.1 b.2 (0 : Int) (0 : Int))))
theorem zq73 (hΓ : ΓOk Tryd.prog (ratio_Div_X c_ratio_Valid c_ratio_product c_ratio_size).Γ) (p1 : zq6o) (p2 : zq6t) (hp1 : PieceOk Tryd.prog 40 0 ratio_Div_p1_code zq6p zq6q (ratio_Div_p1_G p1)) (hp2 : PieceOk Tryd.prog 40 0 ratio_Div_p2_code zq6u zq6v (ratio_Div_p2_G p2)) : SpecOk Tryd.prog 17 (zq6m (zq72 c_ratio_Valid p1 p2)) :=
  spec_exec (X := (ratio_Div_X c_ratio_Valid c_ratio_product c_ratio_size)) (Λ := pick1 [(7, pieceCut zq6p zq6q (ratio_Div_p1_G p1)), (25, pieceCut zq6u zq6v (ratio_Div_p2_G p2))]) (rs := [.cell 4 24, .tmp 5]) (c := bodyOf Tryd.f17) mixed tab_ok hΓ Tryd.func17 (by kernel_rfl) (by kernel_rfl) (by kernel_rfl) (by kernel_rfl) (CutsOk_cons (q := 7) (c' := ratio_Div_p1_code) (by kernel_rfl) rfl hp1 (CutsOk_cons (q := 25) (c' := ratio_Div_p2_code) (by kernel_rfl) rfl hp2 CutsOk_nil)) (fun x k r h => Eq.trans (b := (zq6m (zq72 c_ratio_Valid p1 p2)).run x k) (by kernel_rfl) h)
end
theorem zq74Γ : ΓOk Tryd.prog (pick1 [(15, .spec (zq3g zq3k)), (38, .spec (zq4f zq4j)), (37, .spec (zq1m zq1q))]) := (ΓOk_cons zq3l (ΓOk_cons zq4k (ΓOk_cons zq1r ΓOk_nil)))
def zq75 : zq6o := zq6x zq4j zq1q
theorem zq76 : PieceOk Tryd.prog 40 0 ratio_Div_p1_code zq6p zq6q (ratio_Div_p1_G zq75) := zq6y zq3k zq4j zq1q zq74Γ
def zq77 : zq6t := zq70
theorem zq78 : PieceOk Tryd.prog 40 0 ratio_Div_p2_code zq6u zq6v (ratio_Div_p2_G zq77) := zq71 zq3k zq4j zq1q zq74Γ
def zq79 : zq6l := zq72 zq3k zq75 zq77
theorem zq7a : SpecOk Tryd.prog 17 (zq6m zq79) := zq73 zq3k zq4j zq1q zq74Γ zq75 zq77 zq76 zq78

/-- pagewatch/ratio.Less -/
abbrev zq7b := {β : Type} → (Int × Int) → (Int × Int) → (Bool → Option β) → Option β
def zq7c (c : zq7b) : Spec :=
  ⟨[(true, [.data (.prod (.int .i64) (.int .i64))]), (true, [.data (.prod (.int .i64) (.int .i64))])], [], [(false, [.data .bool])], [], fun x k => c x.1.1.1 x.1.2.1.1 (fun r0 => k (((r0, ()), ()), ()))⟩
noncomputable def ratio_Less_p1_code : Code := codeAt 7 (bodyOf Tryd.f19)
noncomputable def ratio_Less_p2_code : Code := codeAt 103 (bodyOf Tryd.f19)
noncomputable def ratio_Less_p3_code : Code := codeAt 25 (bodyOf Tryd.f19)
abbrev zq7d (β : Type) := Bool → Option β
abbrev zq7e := {β : Type} → zq7d β → Int → Int → Int → Int → Option β
def zq7f : View := ⟨0, [2, 3], [(false, [.ptr 0 0]), (false, [.ptr 1 0])], [.cells 24 [.data (.int .i64), .data (.int .i64)], .cells 24 [.data (.int .i64), .data (.int .i64)]]⟩
def zq7g : List (AExit × View) := [(.ret, ⟨0, [4], [(false, [.data .bool])], []⟩)]
@[reducible] def ratio_Less_p1_G (p : zq7e) {β : Type} (d : zq7f.den) (ks : Outs.K β zq7g) : Option β :=
  p (fun a0 => ks.1 (((a0, ()), ()), ())) d.2.1.1 d.2.1.2.1 d.2.2.1.1 d.2.2.1.2.1
abbrev zq7h (β : Type) := Bool → Option β
abbrev zq7i (β : Type) := Int → Int → Int → Int → Option β
abbrev zq7j := {β : Type} → zq7h β → zq7i β → Bool → Int → Int → Int → Int → Option β
def zq7k : View := ⟨0, [2, 3, 14], [(false, [.ptr 0 0]), (false, [.ptr 1 0]), (false, [.data .bool])], [.cells 24 [.data (.int .i64), .data (.int .i64)], .cells 24 [.data (.int .i64), .data (.int .i64)]]⟩
def zq7l : List (AExit × View) := [(.ret, ⟨0, [4], [(false, [.data .bool])], []⟩), (.normal, ⟨0, [2, 3], [(false, [.ptr 0 0]), (false, [.ptr 1 0])], [.cells 24 [.data (.int .i64), .data (.int .i64)], .cells 24 [.data (.int .i64), .data (.int .i64)]]⟩)]
@[reducible] def ratio_Less_p2_G (p : zq7j) {β : Type} (d : zq7k.den) (ks : Outs.K β zq7l) : Option β :=
  p (fun a0 => ks.1 (((a0, ()), ()), ())) (fun a0 a1 a2 a3 => ks.2.1 (((), (), ()), ((a0, a1, ()), (a2, a3, ()), ()))) d.1.2.2.1.1 d.2.1.1 d.2.1.2.1 d.2.2.1.1 d.2.2.1.2.1
abbrev zq7m (β : Type) := Bool → Option β
abbrev zq7n (β : Type) := Int → Int → Int → Int → Option β
abbrev zq7o := {β : Type} → zq7m β → zq7n β → Bool → Int → Int → Int → Int → Option β
def zq7p : View := ⟨0, [2, 3, 5], [(false, [.ptr 0 0]), (false, [.ptr 1 0]), (false, [.data .bool])], [.cells 24 [.data (.int .i64), .data (.int .i64)], .cells 24 [.data (.int .i64), .data (.int .i64)]]⟩
def zq7q : List (AExit × View) := [(.ret, ⟨0, [4], [(false, [.data .bool])], []⟩), (.normal, ⟨0, [2, 3], [(false, [.ptr 0 0]), (false, [.ptr 1 0])], [.cells 24 [.data (.int .i64), .data (.int .i64)], .cells 24 [.data (.int .i64), .data (.int .i64)]]⟩)]
@[reducible] def ratio_Less_p3_G (p : zq7o) {β : Type} (d : zq7p.den) (ks : Outs.K β zq7q) : Option β :=
  p (fun a0 => ks.1 (((a0, ()), ()), ())) (fun a0 a1 a2 a3 => ks.2.1 (((), (), ()), ((a0, a1, ()), (a2, a3, ()), ()))) d.1.2.2.1.1 d.2.1.1 d.2.1.2.1 d.2.2.1.1 d.2.2.1.2.1
section
variable (c_ratio_Valid : zq3f) (c_ratio_below : zq4l)
@[reducible] def ratio_Less_X : Ctx := ⟨look tab, pick1 [(15, .spec (zq3g c_ratio_Valid)), (39, .spec (zq4m c_ratio_below))], false, false, false⟩
def zq7r {β : Type} (k1 : zq7d β) (a : Int) (a2 : Int) (b : Int) (b2 : Int) : Option β :=
  c_ratio_below a b2 b a2 (fun (rbelow : Bool) =>
  k1 rbelow)
def zq7s {β : Type} (k1 : zq7d β) (a : Int) (a2 : Int) (b : Int) (b2 : Int) : Option β := zq7r c_ratio_below k1 a a2 b b2
theorem zq7t (hΓ : ΓOk Tryd.prog (ratio_Less_X c_ratio_Valid c_ratio_below).Γ) : PieceOk Tryd.prog 57 0 ratio_Less_p1_code zq7f zq7g (ratio_Less_p1_G (zq7s c_ratio_below)) :=
  piece_exec (X := (ratio_Less_X c_ratio_Valid c_ratio_below)) (p := 7) (Λ := pick1 []) mixed tab_ok hΓ (by kernel_rfl) CutsOk_nil (fun d ks r h => Eq.trans (b := ratio_Less_p1_G (zq7s c_ratio_below) d ks) (by kernel_rfl) h)
def zq7u {β : Type} (k1 : zq7h β) (k2 : zq7i β) (t14 : Bool) (a : Int) (a2 : Int) (b : Int) (b2 : Int) : Option β :=
  cond t14
  (c_ratio_below (IntKind.i64.wrap (0 - b)) a2 (IntKind.i64.wrap (0 - a)) b2 (fun (rbelow : Bool) =>
  k1 rbelow))
  (cond (decide (a < (0 : Int)))
  (k1 (decide (a < b)))
  (cond (decide (b < (0 : Int)))
  (k1 (decide (a < b)))
  (k2 a a2 b b2)))
def zq7v {β : Type} (k1 : zq7h β) (k2 : zq7i β) (t14 : Bool) (a : Int) (a2 : Int) (b : Int) (b2 : Int) : Option β := zq7u c_ratio_below k1 k2 t14 a a2 b b2
theorem zq7w (hΓ : ΓOk Tryd.prog (ratio_Less_X c_ratio_Valid c_ratio_below).Γ) : PieceOk Tryd.prog 57 0 ratio_Less_p2_code zq7k zq7l (ratio_Less_p2_G (zq7v c_ratio_below)) :=
  piece_exec (X := (ratio_Less_X c_ratio_Valid c_ratio_below)) (p := 103) (Λ := pick1 []) mixed tab_ok hΓ (by kernel_rfl) CutsOk_nil (fun d ks r h => Eq.trans (b := ratio_Less_p2_G (zq7v c_ratio_below) d ks) (by kernel_rfl) h)
def zq7x (p2 : zq7j) {β : Type} (k1 : zq7m β) (k2 : zq7n β) (t5 : Bool) (a : Int) (a2 : Int) (b : Int) (b2 : Int) : Option β :=
  cond t5
  (k1 false)
  (cond (decide (a < (0 : Int)))
  (p2 (fun (t4 : Bool) =>
  k1 t4) (fun (a3 : Int) (a4 : Int) (b3 : Int) (b4 : Int) =>
  k2 a3 a4 b3 b4) (decide (b < (0 : Int))) a a2 b b2)
  (p2 (fun (t4 : Bool) =>
  k1 t4) (fun (a3 : Int) (a4 : Int) (b3 : Int) (b4 : Int) =>
  k2 a3 a4 b3 b4) false a a2 b b2))
def zq7y (p2 : zq7j) {β : Type} (k1 : zq7m β) (k2 : zq7n β) (t5 : Bool) (a : Int) (a2 : Int) (b : Int) (b2 : Int) : Option β := zq7x p2 k1 k2 t5 a a2 b b2
theorem zq7z (hΓ : ΓOk Tryd.prog (ratio_Less_X c_ratio_Valid c_ratio_below).Γ) (p2 : zq7j) (hp2 : PieceOk Tryd.prog 57 0 ratio_Less_p2_code zq7k zq7l (ratio_Less_p2_G p2)) : PieceOk Tryd.prog 57 0 ratio_Less_p3_code zq7p zq7q (ratio_Less_p3_G (zq7y p2)) :=
  piece_exec (X := (ratio_Less_X c_ratio_Valid c_ratio_below)) (p := 25) (Λ := pick1 [(103, pieceCut zq7k zq7l (ratio_Less_p2_G p2))]) mixed tab_ok hΓ (by kernel_rfl) (CutsOk_cons (q := 103) (c' := ratio_Less_p2_code) (by kernel_rfl) rfl hp2 CutsOk_nil) (fun d ks r h => Eq.trans (b := ratio_Less_p3_G (zq7y p2) d ks) (by kernel_rfl) h)
def zq80 (p1 : zq7e) (p3 : zq7o) {β : Type} (a : (Int × Int)) (b : (Int × Int)) (k : (Bool → Option β)) : Option β :=
  c_ratio_Valid a (fun (rValid : Bool) =>
  cond (!rValid)
  (p3 (fun (t4 : Bool) =>
  k t4) (fun (a2 : Int) (a3 : Int) (b2 : Int) (b3 : Int) =>
  p1 (fun (t4 : Bool) =>
  k t4) a2 a3 b2 b3) true a.1 a.2 b.1 b.2)
  (c_ratio_Valid b (fun (rValid2 : Bool) =>
  p3 (fun (t4 : Bool) =>
  k t4) (fun (a2 : Int) (a3 : Int) (b2 : Int) (b3 : Int) =>
  p1 (fun (t4 : Bool) =>
  k t4) a2 a3 b2 b3) (!rValid2) a.1 a.2 b.1 b.2)))
theorem zq81 (hΓ : ΓOk Tryd.prog (ratio_Less_X c_ratio_Valid c_ratio_below).Γ) (p1 : zq7e) (p3 : zq7o) (hp1 : PieceOk Tryd.prog 57 0 ratio_Less_p1_code zq7f zq7g (ratio_Less_p1_G p1)) (hp3 : PieceOk Tryd.prog 57 0 ratio_Less_p3_code zq7p zq7q (ratio_Less_p3_G p3)) : SpecOk Tryd.prog 19 (zq7c (zq80 c_ratio_Valid p1 p3)) :=
  spec_exec (X := (ratio_Less_X c_ratio_Valid c_ratio_below)) (Λ := pick1 [(7, pieceCut zq7f zq7g (ratio_Less_p1_G p1)), (25, pieceCut zq7p zq7q (ratio_Less_p3_G p3))]) (rs := [.tmp 4]) (c := bodyOf Tryd.f19) mixed tab_ok hΓ Tryd.func19 (by kernel_rfl) (by kernel_rfl) (by kernel_rfl) (by kernel_rfl) (CutsOk_cons (q := 7) (c' := ratio_Less_p1_code) (by kernel_rfl) rfl hp1 (CutsOk_cons (q := 25) (c' := ratio_Less_p3_code) (by kernel_rfl) rfl hp3 CutsOk_nil)) (fun x k r h => Eq.trans (b := (zq7c (zq80 c_ratio_Valid p1 p3)).run x k) (by kernel_rfl) h)
end
theorem zq82Γ : ΓOk Tryd.prog (pick1 [(15, .spec (zq3g zq3k)), (39, .spec (zq4m zq4q))]) := (ΓOk_cons zq3l (ΓOk_cons zq4r ΓOk_nil))
def zq83 : zq7e := zq7s zq4q
theorem zq84 : PieceOk Tryd.prog 57 0 ratio_Less_p1_code zq7f zq7g (ratio_Less_p1_G zq83) := zq7t zq3k zq4q zq82Γ
def zq85 : zq7j := zq7v zq4q
theorem zq86 : PieceOk Tryd.prog 57 0 ratio_Less_p2_code zq7k zq7l (ratio_Less_p2_G zq85) := zq7w zq3k zq4q zq82Γ
def zq87 : zq7o := zq7y zq85
theorem zq88 : PieceOk Tryd.prog 57 0 ratio_Less_p3_code zq7p zq7q (ratio_Less_p3_G zq87) := zq7z zq3k zq4q zq82Γ zq85 zq86
def zq89 : zq7b := zq80 zq3k zq83 zq87
theorem zq8a : SpecOk Tryd.prog 19 (zq7c zq89) := zq81 zq3k zq4q zq82Γ zq83 zq87 zq84 zq88

/-- pagewatch/pagewatchref02.Add -/
abbrev zq8b := {β : Type} → (Int × Int) → (Int × Int) → ((Int × Int) → Int → Option β) → Option β
def zq8c (c : zq8b) : Spec :=
  ⟨[(true, [.data (.prod (.int .i64) (.int .i64))]), (true, [.data (.prod (.int .i64) (.int .i64))])], [], [(true, [.data (.prod (.int .i64) (.int .i64))]), (false, [.data (.int .i64)])], [], fun x k => c x.1.1.1 x.1.2.1.1 (fun r0 r1 => k (((r0, ()), (r1, ()), ()), ()))⟩
noncomputable def ref02_Add_p1_code : Code := codeAt 255 (bodyOf Tryd.f20)
abbrev zq8d (β : Type) := Int → Int → Int → Option β
abbrev zq8e := {β : Type} → zq8d β → Int → Int → Int → Int → Int → Option β
def zq8f : View := ⟨0, [4, 7, 9, 11], [(false, [.ptr 0 0]), (false, [.data (.int .i64)]), (false, [.data (.int .i64)]), (false, [.data (.int .i64)])], [.cells 24 [.data (.int .i64), .data (.int .i64)]]⟩
def zq8g : List (AExit × View) := [(.ret, ⟨0, [4, 5], [(false, [.ptr 0 0]), (false, [.data (.int .i64)])], [.cells 24 [.data (.int .i64), .data (.int .i64)]]⟩)]
@[reducible] def ref02_Add_p1_G (p : zq8e) {β : Type} (d : zq8f.den) (ks : Outs.K β zq8g) : Option β :=
  p (fun a0 a1 a2 => ks.1 (((), (a0, ()), ()), ((a1, a2, ()), ()))) d.1.2.1.1 d.1.2.2.1.1 d.1.2.2.2.1.1 d.2.1.1 d.2.1.2.1
section
variable (c_ref02_New : zq40) (c_ref02_Valid : zq3m) (c_ref02_gcd : zq1s) (c_ref02_product : zq4s)
@[reducible] def ref02_Add_X : Ctx := ⟨look tab, pick1 [(28, .spec (zq41 c_ref02_New)), (25, .spec (zq3n c_ref02_Valid)), (40, .spec (zq1t c_ref02_gcd)), (41, .spec (zq4t c_ref02_product))], false, false, false⟩
def zq8h {β : Type} (k1 : zq8d β) (x : Int) (y : Int) (d : Int) (t4 : Int) (t42 : Int) : Option β :=
  c_ref02_New (IntKind.i64.wrap (x + y)) d (fun (rNew : (Int × Int)) (rNew2 : Int) =>
  k1 rNew2 rNew.1 rNew.2)
def zq8i {β : Type} (k1 : zq8d β) (x : Int) (y : Int) (d : Int) (t4 : Int) (t42 : Int) : Option β := zq8h c_ref02_New k1 x y d t4 t42
theorem zq8j (hΓ : ΓOk Tryd.prog (ref02_Add_X c_ref02_New c_ref02_Valid c_ref02_gcd c_ref02_product).Γ) : PieceOk Tryd.prog 95 0 ref02_Add_p1_code zq8f zq8g (ref02_Add_p1_G (zq8i c_ref02_New)) :=
  piece_exec (X := (ref02_Add_X c_ref02_New c_ref02_Valid c_ref02_gcd c_ref02_product)) (p := 255) (Λ := pick1 []) mixed tab_ok hΓ (by kernel_rfl) CutsOk_nil (fun d ks r h => Eq.trans (b := ref02_Add_p1_G (zq8i c_ref02_New) d ks) (by kernel_rfl) h)
def zq8k (p1 : zq8e) {β : Type} (a : (Int × Int)) (b : (Int × Int)) (k : ((Int × Int) → Int → Option β)) : Option β :=
  c_ref02_Valid a (fun (rValid : Bool) =>
  cond (!rValid)
  (k ((0 : Int), (0 : Int)) (8 : Int))
  (c_ref02_Valid b (fun (rValid2 : Bool) =>
  cond (!rValid2)
  (k ((0 : Int), (0 : Int)) (8 : Int))
  (c_ref02_gcd a.2 b.2 (fun (rgcd : Int) =>
  cond (!decide (rgcd = 0))
  (c_ref02_product a.1 (IntKind.i64.wrap (Int.tdiv b.2 rgcd)) (fun (rproduct : Int) (rproduct2 : Bool) =>
  cond (!decide (rgcd = 0))
  (c_ref02_product b.1 (IntKind.i64.wrap (Int.tdiv a.2 rgcd)) (fun (rproduct3 : Int) (rproduct4 : Bool) =>
  cond (!decide (rgcd = 0))
  (c_ref02_product (IntKind.i64.wrap (Int.tdiv a.2 rgcd)) b.2 (fun (rproduct5 : Int) (rproduct6 : Bool) =>
  cond (!rproduct2)
  (k ((0 : Int), (0 : Int)) (5 : Int))
  (cond (!rproduct4)
  (k ((0 : Int), (0 : Int)) (5 : Int))
  (cond (!rproduct6)
  (k ((0 : Int), (0 : Int)) (5 : Int))
  (cond (decide ((0 : Int) < rproduct))
  (cond (decide ((IntKind.i64.wrap ((4611686018427387904 : Int) - rproduct)) < rproduct3))
  (k ((0 : Int), (0 : Int)) (5 : Int))
  (cond (decide (rproduct < (0 : Int)))
  (cond (decide (rproduct3 < (IntKind.i64.wrap ((-4611686018427387904 : Int) - rproduct))))
  (k ((0 : Int), (0 : Int)) (5 : Int))
  (p1 (fun (t5 : Int) (t4 : Int) (t42 : Int) =>
  k (t4, t42) t5) rproduct rproduct3 rproduct5 (0 : Int) (0 : Int)))
  (p1 (fun (t5 : Int) (t4 : Int) (t42 : Int) =>
  k (t4, t42) t5) rproduct rproduct3 rproduct5 (0 : Int) (0 : Int))))
  (cond (decide (rproduct < (0 : Int)))
  (cond (decide (rproduct3 < (IntKind.i64.wrap ((-4611686018427387904 : Int) - rproduct))))
  (k ((0 : Int), (0 : Int)) (5 : Int))
  (p1 (fun (t5 : Int) (t4 : Int) (t42 : Int) =>
  k (t4, t42) t5) rproduct rproduct3 rproduct5 (0 : Int) (0 : Int)))
  (p1 (fun (t5 : Int) (t4 : Int) (t42 : Int) =>
  k (t4, t42) t5) rproduct rproduct3 rproduct5 (0 : Int) (0 : Int))))))))
  none))
  none))
  none)))))
theorem zq8l (hΓ : ΓOk Tryd.prog (ref02_Add_X c_ref02_New c_ref02_Valid c_ref02_gcd c_ref02_product).Γ) (p1 : zq8e) (hp1 : PieceOk Tryd.prog 95 0 ref02_Add_p1_code zq8f zq8g (ref02_Add_p1_G p1)) : SpecOk Tryd.prog 20 (zq8c (zq8k c_ref02_Valid c_ref02_gcd c_ref02_product p1)) :=
  spec_exec (X := (ref02_Add_X c_ref02_New c_ref02_Valid c_ref02_gcd c_ref02_product)) (Λ := pick1 [(255, pieceCut zq8f zq8g (ref02_Add_p1_G p1))]) (rs := [.cell 4 24, .tmp 5]) (c := bodyOf Tryd.f20) mixed tab_ok hΓ Tryd.func20 (by kernel_rfl) (by kernel_rfl) (by kernel_rfl) (by kernel_rfl) (CutsOk_cons (q := 255) (c' := ref02_Add_p1_code) (by kernel_rfl) rfl hp1 CutsOk_nil) (fun x k r h => Eq.trans (b := (zq8c (zq8k c_ref02_Valid c_ref02_gcd c_ref02_product p1)).run x k) (by kernel_rfl) h)
end
theorem zq8mΓ : ΓOk Tryd.prog (pick1 [(28, .spec (zq41 zq45)), (25, .spec (zq3n zq3r)), (40, .spec (zq1t zq28)), (41, .spec (zq4t zq4x))]) := (ΓOk_cons zq46 (ΓOk_cons zq3s (ΓOk_cons zq29 (ΓOk_cons zq4y ΓOk_nil))))
def zq8n : zq8e := zq8i zq45
theorem zq8o : PieceOk Tryd.prog 95 0 ref02_Add_p1_code zq8f zq8g (ref02_Add_p1_G zq8n) := zq8j zq45 zq3r zq28 zq4x zq8mΓ
def zq8p : zq8b := zq8k zq3r zq28 zq4x zq8n
theorem zq8q : SpecOk Tryd.prog 20 (zq8c zq8p) := zq8l zq45 zq3r zq28 zq4x zq8mΓ zq8n zq8o

/-- pagewatch/pagewatchref02.Sub -/
abbrev zq8r := {β : Type} → (Int × Int) → (Int × Int) → ((Int × Int) → Int → Option β) → Option β
def zq8s (c : zq8r) : Spec :=
  ⟨[(true, [.data (.prod (.int .i64) (.int .i64))]), (true, [.data (.prod (.int .i64) (.int .i64))])], [], [(true, [.data (.prod (.int .i64) (.int .i64))]), (false, [.data (.int .i64)])], [], fun x k => c x.1.1.1 x.1.2.1.1 (fun r0 r1 => k (((r0, ()), (r1, ()), ()), ()))⟩
section
variable (c_ref02_Add : zq8b) (c_ref02_Valid : zq3m)
@[reducible] def ref02_Sub_X : Ctx := ⟨look tab, pick1 [(20, .spec (zq8c c_ref02_Add)), (25, .spec (zq3n c_ref02_Valid))], false, false, false⟩
def zq8t {β : Type} (a : (Int × Int)) (b : (Int × Int)) (k : ((Int × Int) → Int → Option β)) : Option β :=
  c_ref02_Valid b (fun (rValid : Bool) =>
  cond (!rValid)
  (k ((0 : Int), (0 : Int)) (8 : Int))
  (c_ref02_Add a ((IntKind.i64.wrap (0 - b.1)), b.2) (fun (rAdd : (Int × Int)) (rAdd2 : Int) =>
  k rAdd rAdd2)))
theorem zq8u (hΓ : ΓOk Tryd.prog (ref02_Sub_X c_ref02_Add c_ref02_Valid).Γ) : SpecOk Tryd.prog 21 (zq8s (zq8t c_ref02_Add c_ref02_Valid)) :=
  spec_exec (X := (ref02_Sub_X c_ref02_Add c_ref02_Valid)) (Λ := pick1 []) (rs := [.cell 4 24, .tmp 5]) (c := bodyOf Tryd.f21) mixed tab_ok hΓ Tryd.func21 (by kernel_rfl) (by kernel_rfl) (by kernel_rfl) (by kernel_rfl) CutsOk_nil (fun x k r h => Eq.trans (b := (zq8s (zq8t c_ref02_Add c_ref02_Valid)).run x k) (by kernel_rfl) h)
end
theorem zq8vΓ : ΓOk Tryd.prog (pick1 [(20, .spec (zq8c zq8p)), (25, .spec (zq3n zq3r))]) := (ΓOk_cons zq8q (ΓOk_cons zq3s ΓOk_nil))
def zq8w : zq8r := zq8t zq8p zq3r
theorem zq8x : SpecOk Tryd.prog 21 (zq8s zq8w) := zq8u zq8p zq3r zq8vΓ

/-- pagewatch/pagewatchref02.Mul -/
abbrev zq8y := {β : Type} → (Int × Int) → (Int × Int) → ((Int × Int) → Int → Option β) → Option β
def zq8z (c : zq8y) : Spec :=
  ⟨[(true, [.data (.prod (.int .i64) (.int .i64))]), (true, [.data (.prod (.int .i64) (.int .i64))])], [], [(true, [.data (.prod (.int .i64) (.int .i64))]), (false, [.data (.int .i64)])], [], fun x k => c x.1.1.1 x.1.2.1.1 (fun r0 r1 => k (((r0, ()), (r1, ()), ()), ()))⟩
section
variable (c_ref02_New : zq40) (c_ref02_Valid : zq3m) (c_ref02_gcd : zq1s) (c_ref02_product : zq4s) (c_ref02_size : zq2a)
@[reducible] def ref02_Mul_X : Ctx := ⟨look tab, pick1 [(28, .spec (zq41 c_ref02_New)), (25, .spec (zq3n c_ref02_Valid)), (40, .spec (zq1t c_ref02_gcd)), (41, .spec (zq4t c_ref02_product)), (42, .spec (zq2b c_ref02_size))], false, false, false⟩
def zq90 {β : Type} (a : (Int × Int)) (b : (Int × Int)) (k : ((Int × Int) → Int → Option β)) : Option β :=
  c_ref02_Valid a (fun (rValid : Bool) =>
  cond (!rValid)
  (k ((0 : Int), (0 : Int)) (8 : Int))
  (c_ref02_Valid b (fun (rValid2 : Bool) =>
  cond (!rValid2)
  (k ((0 : Int), (0 : Int)) (8 : Int))
  (c_ref02_size a.1 (fun (rsize : Int) =>
  c_ref02_gcd rsize b.2 (fun (rgcd : Int) =>
  c_ref02_size b.1 (fun (rsize2 : Int) =>
  c_ref02_gcd rsize2 a.2 (fun (rgcd2 : Int) =>
  cond (!decide (rgcd = 0))
  (cond (!decide (rgcd2 = 0))
  (c_ref02_product (IntKind.i64.wrap (Int.tdiv a.1 rgcd)) (IntKind.i64.wrap (Int.tdiv b.1 rgcd2)) (fun (rproduct : Int) (rproduct2 : Bool) =>
  cond (!decide (rgcd2 = 0))
  (cond (!decide (rgcd = 0))
  (c_ref02_product (IntKind.i64.wrap (Int.tdiv a.2 rgcd2)) (IntKind.i64.wrap (Int.tdiv b.2 rgcd)) (fun (rproduct3 : Int) (rproduct4 : Bool) =>
  cond (!rproduct2)
  (k ((0 : Int), (0 : Int)) (5 : Int))
  (cond (!rproduct4)
  (k ((0 : Int), (0 : Int)) (5 : Int))
  (c_ref02_New rproduct rproduct3 (fun (rNew : (Int × Int)) (rNew2 : Int) =>
  k rNew rNew2)))))
  none)
  none))
  none)
  none))))))))
theorem zq91 (hΓ : ΓOk Tryd.prog (ref02_Mul_X c_ref02_New c_ref02_Valid c_ref02_gcd c_ref02_product c_ref02_size).Γ) : SpecOk Tryd.prog 22 (zq8z (zq90 c_ref02_New c_ref02_Valid c_ref02_gcd c_ref02_product c_ref02_size)) :=
  spec_exec (X := (ref02_Mul_X c_ref02_New c_ref02_Valid c_ref02_gcd c_ref02_product c_ref02_size)) (Λ := pick1 []) (rs := [.cell 4 24, .tmp 5]) (c := bodyOf Tryd.f22) mixed tab_ok hΓ Tryd.func22 (by kernel_rfl) (by kernel_rfl) (by kernel_rfl) (by kernel_rfl) CutsOk_nil (fun x k r h => Eq.trans (b := (zq8z (zq90 c_ref02_New c_ref02_Valid c_ref02_gcd c_ref02_product c_ref02_size)).run x k) (by kernel_rfl) h)
end
theorem zq92Γ : ΓOk Tryd.prog (pick1 [(28, .spec (zq41 zq45)), (25, .spec (zq3n zq3r)), (40, .spec (zq1t zq28)), (41, .spec (zq4t zq4x)), (42, .spec (zq2b zq2f))]) := (ΓOk_cons zq46 (ΓOk_cons zq3s (ΓOk_cons zq29 (ΓOk_cons zq4y (ΓOk_cons zq2g ΓOk_nil)))))
def zq93 : zq8y := zq90 zq45 zq3r zq28 zq4x zq2f
theorem zq94 : SpecOk Tryd.prog 22 (zq8z zq93) := zq91 zq45 zq3r zq28 zq4x zq2f zq92Γ

/-- pagewatch/pagewatchref02.Div -/
abbrev zq95 := {β : Type} → (Int × Int) → (Int × Int) → ((Int × Int) → Int → Option β) → Option β
def zq96 (c : zq95) : Spec :=
  ⟨[(true, [.data (.prod (.int .i64) (.int .i64))]), (true, [.data (.prod (.int .i64) (.int .i64))])], [], [(true, [.data (.prod (.int .i64) (.int .i64))]), (false, [.data (.int .i64)])], [], fun x k => c x.1.1.1 x.1.2.1.1 (fun r0 r1 => k (((r0, ()), (r1, ()), ()), ()))⟩
section
variable (c_ref02_Mul : zq8y) (c_ref02_Valid : zq3m)
@[reducible] def ref02_Div_X : Ctx := ⟨look tab, pick1 [(22, .spec (zq8z c_ref02_Mul)), (25, .spec (zq3n c_ref02_Valid))], false, false, false⟩
def zq97 {β : Type} (a : (Int × Int)) (b : (Int × Int)) (k : ((Int × Int) → Int → Option β)) : Option β :=
  c_ref02_Valid a (fun (rValid : Bool) =>
  cond (!rValid)
  (k ((0 : Int), (0 : Int)) (8 : Int))
  (c_ref02_Valid b (fun (rValid2 : Bool) =>
  cond (!rValid2)
  (k ((0 : Int), (0 : Int)) (8 : Int))
  (let t : Bool := (decide (b.1 = (0 : Int)));
  cond t
  (k ((0 : Int), (0 : Int)) (1 : Int))
  (let t2 : Bool := (decide (b.1 < (0 : Int)));
  cond t2
  (c_ref02_Mul a ((IntKind.i64.wrap (0 - b.2)), (IntKind.i64.wrap (0 - b.1))) (fun (rMul : (Int × Int)) (rMul2 : Int) =>
  k rMul rMul2))
  (c_ref02_Mul a (b.2, b.1) (fun (rMul : (Int × Int)) (rMul2 : Int) =>
  k rMul rMul2)))))))
theorem zq98 (hΓ : ΓOk Tryd.prog (ref02_Div_X c_ref02_Mul c_ref02_Valid).Γ) : SpecOk Tryd.prog 23 (zq96 (zq97 c_ref02_Mul c_ref02_Valid)) :=
  spec_exec (X := (ref02_Div_X c_ref02_Mul c_ref02_Valid)) (Λ := pick1 []) (rs := [.cell 4 24, .tmp 5]) (c := bodyOf Tryd.f23) mixed tab_ok hΓ Tryd.func23 (by kernel_rfl) (by kernel_rfl) (by kernel_rfl) (by kernel_rfl) CutsOk_nil (fun x k r h => Eq.trans (b := (zq96 (zq97 c_ref02_Mul c_ref02_Valid)).run x k) (by kernel_rfl) h)
end
theorem zq99Γ : ΓOk Tryd.prog (pick1 [(22, .spec (zq8z zq93)), (25, .spec (zq3n zq3r))]) := (ΓOk_cons zq94 (ΓOk_cons zq3s ΓOk_nil))
def zq9a : zq95 := zq97 zq93 zq3r
theorem zq9b : SpecOk Tryd.prog 23 (zq96 zq9a) := zq98 zq93 zq3r zq99Γ

/-- pagewatch/pagewatchref02.Less -/
abbrev zq9c := {β : Type} → (Int × Int) → (Int × Int) → (Bool → Option β) → Option β
def zq9d (c : zq9c) : Spec :=
  ⟨[(true, [.data (.prod (.int .i64) (.int .i64))]), (true, [.data (.prod (.int .i64) (.int .i64))])], [], [(false, [.data .bool])], [], fun x k => c x.1.1.1 x.1.2.1.1 (fun r0 => k (((r0, ()), ()), ()))⟩
noncomputable def ref02_Less_p1_code : Code := codeAt 7 (bodyOf Tryd.f24)
noncomputable def ref02_Less_p2_code : Code := codeAt 103 (bodyOf Tryd.f24)
noncomputable def ref02_Less_p3_code : Code := codeAt 25 (bodyOf Tryd.f24)
abbrev zq9e (β : Type) := Bool → Option β
abbrev zq9f := {β : Type} → zq9e β → Int → Int → Int → Int → Option β
def zq9g : View := ⟨0, [2, 3], [(false, [.ptr 0 0]), (false, [.ptr 1 0])], [.cells 24 [.data (.int .i64), .data (.int .i64)], .cells 24 [.data (.int .i64), .data (.int .i64)]]⟩
def zq9h : List (AExit × View) := [(.ret, ⟨0, [4], [(false, [.data .bool])], []⟩)]
@[reducible] def ref02_Less_p1_G (p : zq9f) {β : Type} (d : zq9g.den) (ks : Outs.K β zq9h) : Option β :=
  p (fun a0 => ks.1 (((a0, ()), ()), ())) d.2.1.1 d.2.1.2.1 d.2.2.1.1 d.2.2.1.2.1
abbrev zq9i (β : Type) := Bool → Option β
abbrev zq9j (β : Type) := Int → Int → Int → Int → Option β
abbrev zq9k := {β : Type} → zq9i β → zq9j β → Bool → Int → Int → Int → Int → Option β
def zq9l : View := ⟨0, [2, 3, 14], [(false, [.ptr 0 0]), (false, [.ptr 1 0]), (false, [.data .bool])], [.cells 24 [.data (.int .i64), .data (.int .i64)], .cells 24 [.data (.int .i64), .data (.int .i64)]]⟩
def zq9m : List (AExit × View) := [(.ret, ⟨0, [4], [(false, [.data .bool])], []⟩), (.normal, ⟨0, [2, 3], [(false, [.ptr 0 0]), (false, [.ptr 1 0])], [.cells 24 [.data (.int .i64), .data (.int .i64)], .cells 24 [.data (.int .i64), .data (.int .i64)]]⟩)]
@[reducible] def ref02_Less_p2_G (p : zq9k) {β : Type} (d : zq9l.den) (ks : Outs.K β zq9m) : Option β :=
  p (fun a0 => ks.1 (((a0, ()), ()), ())) (fun a0 a1 a2 a3 => ks.2.1 (((), (), ()), ((a0, a1, ()), (a2, a3, ()), ()))) d.1.2.2.1.1 d.2.1.1 d.2.1.2.1 d.2.2.1.1 d.2.2.1.2.1
abbrev zq9n (β : Type) := Bool → Option β
abbrev zq9o (β : Type) := Int → Int → Int → Int → Option β
abbrev zq9p := {β : Type} → zq9n β → zq9o β → Bool → Int → Int → Int → Int → Option β
def zq9q : View := ⟨0, [2, 3, 5], [(false, [.ptr 0 0]), (false, [.ptr 1 0]), (false, [.data .bool])], [.cells 24 [.data (.int .i64), .data (.int .i64)], .cells 24 [.data (.int .i64), .data (.int .i64)]]⟩
def zq9r : List (AExit × View) := [(.ret, ⟨0, [4], [(false, [.data .bool])], []⟩), (.normal, ⟨0, [2, 3], [(false, [.ptr 0 0]), (false, [.ptr 1 0])], [.cells 24 [.data (.int .i64), .data (.int .i64)], .cells 24 [.data (.int .i64), .data (.int .i64)]]⟩)]
@[reducible] def ref02_Less_p3_G (p : zq9p) {β : Type} (d : zq9q.den) (ks : Outs.K β zq9r) : Option β :=
  p (fun a0 => ks.1 (((a0, ()), ()), ())) (fun a0 a1 a2 a3 => ks.2.1 (((), (), ()), ((a0, a1, ()), (a2, a3, ()), ()))) d.1.2.2.1.1 d.2.1.1 d.2.1.2.1 d.2.2.1.1 d.2.2.1.2.1
section
variable (c_ref02_Valid : zq3m) (c_ref02_less : zq2h)
@[reducible] def ref02_Less_X : Ctx := ⟨look tab, pick1 [(25, .spec (zq3n c_ref02_Valid)), (43, .spec (zq2i c_ref02_less))], false, false, false⟩
def zq9s {β : Type} (k1 : zq9e β) (a : Int) (a2 : Int) (b : Int) (b2 : Int) : Option β :=
  c_ref02_less a a2 b b2 (fun (rless : Bool) =>
  k1 rless)
def zq9t {β : Type} (k1 : zq9e β) (a : Int) (a2 : Int) (b : Int) (b2 : Int) : Option β := zq9s c_ref02_less k1 a a2 b b2
theorem zq9u (hΓ : ΓOk Tryd.prog (ref02_Less_X c_ref02_Valid c_ref02_less).Γ) : PieceOk Tryd.prog 57 0 ref02_Less_p1_code zq9g zq9h (ref02_Less_p1_G (zq9t c_ref02_less)) :=
  piece_exec (X := (ref02_Less_X c_ref02_Valid c_ref02_less)) (p := 7) (Λ := pick1 []) mixed tab_ok hΓ (by kernel_rfl) CutsOk_nil (fun d ks r h => Eq.trans (b := ref02_Less_p1_G (zq9t c_ref02_less) d ks) (by kernel_rfl) h)
def zq9v {β : Type} (k1 : zq9i β) (k2 : zq9j β) (t14 : Bool) (a : Int) (a2 : Int) (b : Int) (b2 : Int) : Option β :=
  cond t14
  (c_ref02_less (IntKind.i64.wrap (0 - b)) b2 (IntKind.i64.wrap (0 - a)) a2 (fun (rless : Bool) =>
  k1 rless))
  (cond (decide (a < (0 : Int)))
  (k1 (decide (a < b)))
  (cond (decide (b < (0 : Int)))
  (k1 (decide (a < b)))
  (k2 a a2 b b2)))
def zq9w {β : Type} (k1 : zq9i β) (k2 : zq9j β) (t14 : Bool) (a : Int) (a2 : Int) (b : Int) (b2 : Int) : Option β := zq9v c_ref02_less k1 k2 t14 a a2 b b2
theorem zq9x (hΓ : ΓOk Tryd.prog (ref02_Less_X c_ref02_Valid c_ref02_less).Γ) : PieceOk Tryd.prog 57 0 ref02_Less_p2_code zq9l zq9m (ref02_Less_p2_G (zq9w c_ref02_less)) :=
  piece_exec (X := (ref02_Less_X c_ref02_Valid c_ref02_less)) (p := 103) (Λ := pick1 []) mixed tab_ok hΓ (by kernel_rfl) CutsOk_nil (fun d ks r h => Eq.trans (b := ref02_Less_p2_G (zq9w c_ref02_less) d ks) (by kernel_rfl) h)
def zq9y (p2 : zq9k) {β : Type} (k1 : zq9n β) (k2 : zq9o β) (t5 : Bool) (a : Int) (a2 : Int) (b : Int) (b2 : Int) : Option β :=
  cond t5
  (k1 false)
  (cond (decide (a < (0 : Int)))
  (p2 (fun (t4 : Bool) =>
  k1 t4) (fun (a3 : Int) (a4 : Int) (b3 : Int) (b4 : Int) =>
  k2 a3 a4 b3 b4) (decide (b < (0 : Int))) a a2 b b2)
  (p2 (fun (t4 : Bool) =>
  k1 t4) (fun (a3 : Int) (a4 : Int) (b3 : Int) (b4 : Int) =>
  k2 a3 a4 b3 b4) false a a2 b b2))
def zq9z (p2 : zq9k) {β : Type} (k1 : zq9n β) (k2 : zq9o β) (t5 : Bool) (a : Int) (a2 : Int) (b : Int) (b2 : Int) : Option β := zq9y p2 k1 k2 t5 a a2 b b2
theorem zqa0 (hΓ : ΓOk Tryd.prog (ref02_Less_X c_ref02_Valid c_ref02_less).Γ) (p2 : zq9k) (hp2 : PieceOk Tryd.prog 57 0 ref02_Less_p2_code zq9l zq9m (ref02_Less_p2_G p2)) : PieceOk Tryd.prog 57 0 ref02_Less_p3_code zq9q zq9r (ref02_Less_p3_G (zq9z p2)) :=
  piece_exec (X := (ref02_Less_X c_ref02_Valid c_ref02_less)) (p := 25) (Λ := pick1 [(103, pieceCut zq9l zq9m (ref02_Less_p2_G p2))]) mixed tab_ok hΓ (by kernel_rfl) (CutsOk_cons (q := 103) (c' := ref02_Less_p2_code) (by kernel_rfl) rfl hp2 CutsOk_nil) (fun d ks r h => Eq.trans (b := ref02_Less_p3_G (zq9z p2) d ks) (by kernel_rfl) h)
def zqa1 (p1 : zq9f) (p3 : zq9p) {β : Type} (a : (Int × Int)) (b : (Int × Int)) (k : (Bool → Option β)) : Option β :=
  c_ref02_Valid a (fun (rValid : Bool) =>
  cond (!rValid)
  (p3 (fun (t4 : Bool) =>
  k t4) (fun (a2 : Int) (a3 : Int) (b2 : Int) (b3 : Int) =>
  p1 (fun (t4 : Bool) =>
  k t4) a2 a3 b2 b3) true a.1 a.2 b.1 b.2)
  (c_ref02_Valid b (fun (rValid2 : Bool) =>
  p3 (fun (t4 : Bool) =>
  k t4) (fun (a2 : Int) (a3 : Int) (b2 : Int) (b3 : Int) =>
  p1 (fun (t4 : Bool) =>
  k t4) a2 a3 b2 b3) (!rValid2) a.1 a.2 b.1 b.2)))
theorem zqa2 (hΓ : ΓOk Tryd.prog (ref02_Less_X c_ref02_Valid c_ref02_less).Γ) (p1 : zq9f) (p3 : zq9p) (hp1 : PieceOk Tryd.prog 57 0 ref02_Less_p1_code zq9g zq9h (ref02_Less_p1_G p1)) (hp3 : PieceOk Tryd.prog 57 0 ref02_Less_p3_code zq9q zq9r (ref02_Less_p3_G p3)) : SpecOk Tryd.prog 24 (zq9d (zqa1 c_ref02_Valid p1 p3)) :=
  spec_exec (X := (ref02_Less_X c_ref02_Valid c_ref02_less)) (Λ := pick1 [(7, pieceCut zq9g zq9h (ref02_Less_p1_G p1)), (25, pieceCut zq9q zq9r (ref02_Less_p3_G p3))]) (rs := [.tmp 4]) (c := bodyOf Tryd.f24) mixed tab_ok hΓ Tryd.func24 (by kernel_rfl) (by kernel_rfl) (by kernel_rfl) (by kernel_rfl) (CutsOk_cons (q := 7) (c' := ref02_Less_p1_code) (by kernel_rfl) rfl hp1 (CutsOk_cons (q := 25) (c' := ref02_Less_p3_code) (by kernel_rfl) rfl hp3 CutsOk_nil)) (fun x k r h => Eq.trans (b := (zq9d (zqa1 c_ref02_Valid p1 p3)).run x k) (by kernel_rfl) h)
end
theorem zqa3Γ : ΓOk Tryd.prog (pick1 [(25, .spec (zq3n zq3r)), (43, .spec (zq2i zq2p))]) := (ΓOk_cons zq3s (ΓOk_cons zq2q ΓOk_nil))
def zqa4 : zq9f := zq9t zq2p
theorem zqa5 : PieceOk Tryd.prog 57 0 ref02_Less_p1_code zq9g zq9h (ref02_Less_p1_G zqa4) := zq9u zq3r zq2p zqa3Γ
def zqa6 : zq9k := zq9w zq2p
theorem zqa7 : PieceOk Tryd.prog 57 0 ref02_Less_p2_code zq9l zq9m (ref02_Less_p2_G zqa6) := zq9x zq3r zq2p zqa3Γ
def zqa8 : zq9p := zq9z zqa6
theorem zqa9 : PieceOk Tryd.prog 57 0 ref02_Less_p3_code zq9q zq9r (ref02_Less_p3_G zqa8) := zqa0 zq3r zq2p zqa3Γ zqa6 zqa7
def zqaa : zq9c := zqa1 zq3r zqa4 zqa8
theorem zqab : SpecOk Tryd.prog 24 (zq9d zqaa) := zqa2 zq3r zq2p zqa3Γ zqa4 zqa8 zqa5 zqa9

/-- pagewatch/pagewatchref02.Text -/
abbrev zqac := {β : Type} → (Int × Int) → ((List UInt8) → Option β) → Option β
def zqad (c : zqac) : Spec :=
  ⟨[(true, [.data (.prod (.int .i64) (.int .i64))])], [], [(false, [.data .str])], [], fun x k => c x.1.1.1 (fun r0 => k (((r0, ()), ()), ()))⟩
section
variable (c_ref02_Decimal : zq4z) (c_ref02_Valid : zq3m)
@[reducible] def ref02_Text_X : Ctx := ⟨look tab, pick1 [(45, .spec (zq50 c_ref02_Decimal)), (25, .spec (zq3n c_ref02_Valid))], false, false, false⟩
def zqae {β : Type} (r_ : (Int × Int)) (k : ((List UInt8) → Option β)) : Option β :=
  c_ref02_Valid r_ (fun (rValid : Bool) =>
  cond (!rValid)
  (k ([] : List UInt8))
  (let t : Bool := (decide (r_.2 = (1 : Int)));
  cond t
  (c_ref02_Decimal r_.1 (fun (rDecimal : List UInt8) =>
  k rDecimal))
  (c_ref02_Decimal r_.1 (fun (rDecimal : List UInt8) =>
  cond (decide (List.length rDecimal + List.length ([47] : List UInt8) ≤ 9223372036854775807))
  (c_ref02_Decimal r_.2 (fun (rDecimal2 : List UInt8) =>
  cond (decide (List.length (rDecimal ++ ([47] : List UInt8)) + List.length rDecimal2 ≤ 9223372036854775807))
  (let t2 : List UInt8 := ((rDecimal ++ ([47] : List UInt8)) ++ rDecimal2);
  k t2)
  none))
  none))))
theorem zqaf (hΓ : ΓOk Tryd.prog (ref02_Text_X c_ref02_Decimal c_ref02_Valid).Γ) : SpecOk Tryd.prog 26 (zqad (zqae c_ref02_Decimal c_ref02_Valid)) :=
  spec_exec (X := (ref02_Text_X c_ref02_Decimal c_ref02_Valid)) (Λ := pick1 []) (rs := [.tmp 2]) (c := bodyOf Tryd.f26) mixed tab_ok hΓ Tryd.func26 (by kernel_rfl) (by kernel_rfl) (by kernel_rfl) (by kernel_rfl) CutsOk_nil (fun x k r h => Eq.trans (b := (zqad (zqae c_ref02_Decimal c_ref02_Valid)).run x k) (by kernel_rfl) h)
end
theorem zqagΓ : ΓOk Tryd.prog (pick1 [(45, .spec (zq50 zq54)), (25, .spec (zq3n zq3r))]) := (ΓOk_cons zq55 (ΓOk_cons zq3s ΓOk_nil))
def zqah : zqac := zqae zq54 zq3r
theorem zqai : SpecOk Tryd.prog 26 (zqad zqah) := zqaf zq54 zq3r zqagΓ

/-- pagewatch/pagewatchlaw02.sane -/
abbrev zqaj := {β : Type} → (Bool → Option β) → Option β
def zqak (c : zqaj) : Spec :=
  ⟨[], [], [(false, [.data .bool])], [], fun x k => c  (fun r0 => k (((r0, ()), ()), ()))⟩
section
variable (c_ratio_Add : zq60) (c_ratio_Mul : zq6e) (c_ratio_Parse : zq5k) (c_ratio_Text : zq5d)
@[reducible] def law02_sane_X : Ctx := ⟨look tab, pick1 [(13, .spec (zq61 c_ratio_Add)), (16, .spec (zq6f c_ratio_Mul)), (11, .spec (zq5l c_ratio_Parse)), (10, .spec (zq5e c_ratio_Text))], false, false, false⟩
def zqal {β : Type} (k : (Bool → Option β)) : Option β :=
  c_ratio_Add ((1 : Int), (6 : Int)) ((1 : Int), (3 : Int)) (fun (rAdd : (Int × Int)) (rAdd2 : Int) =>
  c_ratio_Mul ((4611686018427387904 : Int), (1 : Int)) ((2 : Int), (1 : Int)) (fun (rMul : (Int × Int)) (rMul2 : Int) =>
  c_ratio_Parse ([50, 47, 52] : List UInt8) (fun (rParse : (Int × Int)) (rParse2 : Int) =>
  cond (decide (rAdd2 = (0 : Int)))
  (cond (decide (rAdd.1 = (1 : Int)) && (decide (rAdd.2 = (2 : Int)) && true))
  (cond (decide (rMul2 = (5 : Int)))
  (cond (decide (rParse2 = (2 : Int)))
  (c_ratio_Text rAdd (fun (rText : List UInt8) =>
  let t : Bool := (decide (rText = ([49, 47, 50] : List UInt8)));
  k t))
  (k false))
  (k false))
  (k false))
  (k false))))
theorem zqam (hΓ : ΓOk Tryd.prog (law02_sane_X c_ratio_Add c_ratio_Mul c_ratio_Parse c_ratio_Text).Γ) : SpecOk Tryd.prog 8 (zqak (zqal c_ratio_Add c_ratio_Mul c_ratio_Parse c_ratio_Text)) :=
  spec_exec (X := (law02_sane_X c_ratio_Add c_ratio_Mul c_ratio_Parse c_ratio_Text)) (Λ := pick1 []) (rs := [.tmp 0]) (c := bodyOf Tryd.f8) mixed tab_ok hΓ Tryd.func8 (by kernel_rfl) (by kernel_rfl) (by kernel_rfl) (by kernel_rfl) CutsOk_nil (fun x k r h => Eq.trans (b := (zqak (zqal c_ratio_Add c_ratio_Mul c_ratio_Parse c_ratio_Text)).run x k) (by kernel_rfl) h)
end
theorem zqanΓ : ΓOk Tryd.prog (pick1 [(13, .spec (zq61 zq65)), (16, .spec (zq6f zq6j)), (11, .spec (zq5l zq5y)), (10, .spec (zq5e zq5i))]) := (ΓOk_cons zq66 (ΓOk_cons zq6k (ΓOk_cons zq5z (ΓOk_cons zq5j ΓOk_nil))))
def zqao : zqaj := zqal zq65 zq6j zq5y zq5i
theorem zqap : SpecOk Tryd.prog 8 (zqak zqao) := zqam zq65 zq6j zq5y zq5i zqanΓ

/-- pagewatch/pagewatchlaw02.RatioExact -/
abbrev zqaq := {β : Type} → (Int × Int) → (Int × Int) → Int → Int → (Bool → Option β) → Option β
def zqar (c : zqaq) : Spec :=
  ⟨[(true, [.data (.prod (.int .i64) (.int .i64))]), (true, [.data (.prod (.int .i64) (.int .i64))]), (false, [.data (.int .i64)]), (false, [.data (.int .i64)])], [], [(false, [.data .bool])], [], fun x k => c x.1.1.1 x.1.2.1.1 x.1.2.2.1.1 x.1.2.2.2.1.1 (fun r0 => k (((r0, ()), ()), ()))⟩
noncomputable def law02_RatioExact_p1_code : Code := codeAt 58 (bodyOf Tryd.f7)
abbrev zqas (β : Type) := Bool → Option β
abbrev zqat (β : Type) := Int → Int → Option β
abbrev zqau := {β : Type} → zqas β → zqat β → Int → Int → Int → Int → Int → Int → Int → Int → Int → Int → Int → Int → Int → Int → Int → Int → Int → Int → Int → Option β
def zqav : View := ⟨0, [2, 3, 39, 40], [(false, [.data (.int .i64)]), (false, [.data (.int .i64)]), (true, [.data (.int .i64), .data (.int .i64), .data (.int .i64), .data (.int .i64), .data (.int .i64), .data (.int .i64), .data (.int .i64), .data (.int .i64), .data (.int .i64), .data (.int .i64), .data (.int .i64), .data (.int .i64), .data (.int .i64), .data (.int .i64), .data (.int .i64), .data (.int .i64)]), (false, [.data (.int .i64)])], []⟩
def zqaw : List (AExit × View) := [(.ret, ⟨0, [8], [(false, [.data .bool])], []⟩), (.exit 0, ⟨0, [2, 3], [(false, [.data (.int .i64)]), (false, [.data (.int .i64)])], []⟩)]
@[reducible] def law02_RatioExact_p1_G (p : zqau) {β : Type} (d : zqav.den) (ks : Outs.K β zqaw) : Option β :=
  p (fun a0 => ks.1 (((a0, ()), ()), ())) (fun a0 a1 => ks.2.1 (((a0, ()), (a1, ()), ()), ())) d.1.1.1 d.1.2.1.1 d.1.2.2.1.1 d.1.2.2.1.2.1 d.1.2.2.1.2.2.1 d.1.2.2.1.2.2.2.1 d.1.2.2.1.2.2.2.2.1 d.1.2.2.1.2.2.2.2.2.1 d.1.2.2.1.2.2.2.2.2.2.1 d.1.2.2.1.2.2.2.2.2.2.2.1 d.1.2.2.1.2.2.2.2.2.2.2.2.1 d.1.2.2.1.2.2.2.2.2.2.2.2.2.1 d.1.2.2.1.2.2.2.2.2.2.2.2.2.2.1 d.1.2.2.1.2.2.2.2.2.2.2.2.2.2.2.1 d.1.2.2.1.2.2.2.2.2.2.2.2.2.2.2.2.1 d.1.2.2.1.2.2.2.2.2.2.2.2.2.2.2.2.2.1 d.1.2.2.1.2.2.2.2.2.2.2.2.2.2.2.2.2.2.1 d.1.2.2.1.2.2.2.2.2.2.2.2.2.2.2.2.2.2.2.1 d.1.2.2.2.1.1
section
variable (c_law02_draw : zq56) (c_law02_sane : zqaj) (c_ratio_Add : zq60) (c_ratio_Div : zq6l) (c_ratio_Less : zq7b) (c_ratio_Mul : zq6e) (c_ratio_New : zq3t) (c_ratio_Sub : zq67) (c_ratio_Text : zq5d) (c_ratio_Valid : zq3f) (c_ref02_Add : zq8b) (c_ref02_Div : zq95) (c_ref02_Less : zq9c) (c_ref02_Mul : zq8y) (c_ref02_New : zq40) (c_ref02_Sub : zq8r) (c_ref02_Text : zqac) (c_ref02_Valid : zq3m)
@[reducible] def law02_RatioExact_X : Ctx := ⟨look tab, pick1 [(9, .spec (zq57 c_law02_draw)), (8, .spec (zqak c_law02_sane)), (13, .spec (zq61 c_ratio_Add)), (17, .spec (zq6m c_ratio_Div)), (19, .spec (zq7c c_ratio_Less)), (16, .spec (zq6f c_ratio_Mul)), (27, .spec (zq3u c_ratio_New)), (14, .spec (zq68 c_ratio_Sub)), (10, .spec (zq5e c_ratio_Text)), (15, .spec (zq3g c_ratio_Valid)), (20, .spec (zq8c c_ref02_Add)), (23, .spec (zq96 c_ref02_Div)), (24, .spec (zq9d c_ref02_Less)), (22, .spec (zq8z c_ref02_Mul)), (28, .spec (zq41 c_ref02_New)), (21, .spec (zq8s c_ref02_Sub)), (26, .spec (zqad c_ref02_Text)), (25, .spec (zq3n c_ref02_Valid))], false, false, false⟩
def zqax {β : Type} (rec : Int → Int → Int → Int → Int → Int → Int → Int → Int → Int → Int → Int → Int → Int → Int → Int → Int → Int → Int → Option β) (k1 : zqas β) (k2 : zqat β) (num : Int) (den : Int) (t39 : Int) (t392 : Int) (t393 : Int) (t394 : Int) (t395 : Int) (t396 : Int) (t397 : Int) (t398 : Int) (t399 : Int) (t3910 : Int) (t3911 : Int) (t3912 : Int) (t3913 : Int) (t3914 : Int) (t3915 : Int) (t3916 : Int) (t40 : Int) : Option β :=
  cond (decide (t40 < (4 : Int)))
  (cond (decide (0 ≤ t40) && decide (t40 < (List.length ([((t39, t392), (t393, t394)), ((t395, t396), (t397, t398)), ((t399, t3910), (t3911, t3912)), ((t3913, t3914), (t3915, t3916))] : List ((Int × Int) × (Int × Int))) : Int)))
  (let e : ((Int × Int) × (Int × Int)) := List.getD ([((t39, t392), (t393, t394)), ((t395, t396), (t397, t398)), ((t399, t3910), (t3911, t3912)), ((t3913, t3914), (t3915, t3916))] : List ((Int × Int) × (Int × Int))) (Int.toNat t40) (((0 : Int), (0 : Int)), ((0 : Int), (0 : Int)));
  c_ratio_Add e.1 e.2 (fun (rAdd : (Int × Int)) (rAdd2 : Int) =>
  c_ref02_Add e.1 e.2 (fun (rAdd3 : (Int × Int)) (rAdd4 : Int) =>
  cond (!(decide (rAdd.1 = rAdd3.1) && (decide (rAdd.2 = rAdd3.2) && true)))
  (k1 false)
  (cond (!decide (rAdd2 = rAdd4))
  (k1 false)
  (c_ratio_Sub e.1 e.2 (fun (rSub : (Int × Int)) (rSub2 : Int) =>
  c_ref02_Sub e.1 e.2 (fun (rSub3 : (Int × Int)) (rSub4 : Int) =>
  cond (!(decide (rSub.1 = rSub3.1) && (decide (rSub.2 = rSub3.2) && true)))
  (k1 false)
  (cond (!decide (rSub2 = rSub4))
  (k1 false)
  (c_ratio_Mul e.1 e.2 (fun (rMul : (Int × Int)) (rMul2 : Int) =>
  c_ref02_Mul e.1 e.2 (fun (rMul3 : (Int × Int)) (rMul4 : Int) =>
  cond (!(decide (rMul.1 = rMul3.1) && (decide (rMul.2 = rMul3.2) && true)))
  (k1 false)
  (cond (!decide (rMul2 = rMul4))
  (k1 false)
  (c_ratio_Div e.1 e.2 (fun (rDiv : (Int × Int)) (rDiv2 : Int) =>
  c_ref02_Div e.1 e.2 (fun (rDiv3 : (Int × Int)) (rDiv4 : Int) =>
  cond (!(decide (rDiv.1 = rDiv3.1) && (decide (rDiv.2 = rDiv3.2) && true)))
  (k1 false)
  (cond (!decide (rDiv2 = rDiv4))
  (k1 false)
  (c_ratio_Less e.1 e.2 (fun (rLess : Bool) =>
  c_ref02_Less e.1 e.2 (fun (rLess2 : Bool) =>
  cond (!(rLess == rLess2))
  (k1 false)
  (c_ratio_Valid e.1 (fun (rValid : Bool) =>
  c_ref02_Valid e.1 (fun (rValid2 : Bool) =>
  cond (!(rValid == rValid2))
  (k1 false)
  (c_ratio_Text e.1 (fun (rText : List UInt8) =>
  c_ref02_Text e.1 (fun (rText2 : List UInt8) =>
  cond (!decide (rText = rText2))
  (k1 false)
  (rec num den t39 t392 t393 t394 t395 t396 t397 t398 t399 t3910 t3911 t3912 t3913 t3914 t3915 t3916 (IntKind.i64.wrap (t40 + (1 : Int)))))))))))))))))))))))))))))
  none)
  (k2 num den)
def zqay {β : Type} : Nat → zqas β → zqat β → Int → Int → Int → Int → Int → Int → Int → Int → Int → Int → Int → Int → Int → Int → Int → Int → Int → Int → Int → Option β
  | 0 => fun _ _ _ _ _ _ _ _ _ _ _ _ _ _ _ _ _ _ _ _ _ => none
  | i + 1 => fun k1 k2 num den t39 t392 t393 t394 t395 t396 t397 t398 t399 t3910 t3911 t3912 t3913 t3914 t3915 t3916 t40 => zqax c_ratio_Add c_ratio_Div c_ratio_Less c_ratio_Mul c_ratio_Sub c_ratio_Text c_ratio_Valid c_ref02_Add c_ref02_Div c_ref02_Less c_ref02_Mul c_ref02_Sub c_ref02_Text c_ref02_Valid (zqay i k1 k2) k1 k2 num den t39 t392 t393 t394 t395 t396 t397 t398 t399 t3910 t3911 t3912 t3913 t3914 t3915 t3916 t40
theorem zqaz (hΓ : ΓOk Tryd.prog (law02_RatioExact_X c_law02_draw c_law02_sane c_ratio_Add c_ratio_Div c_ratio_Less c_ratio_Mul c_ratio_New c_ratio_Sub c_ratio_Text c_ratio_Valid c_ref02_Add c_ref02_Div c_ref02_Less c_ref02_Mul c_ref02_New c_ref02_Sub c_ref02_Text c_ref02_Valid).Γ) (i : Nat) : PieceOk Tryd.prog 194 0 law02_RatioExact_p1_code zqav zqaw (law02_RatioExact_p1_G (zqay c_ratio_Add c_ratio_Div c_ratio_Less c_ratio_Mul c_ratio_Sub c_ratio_Text c_ratio_Valid c_ref02_Add c_ref02_Div c_ref02_Less c_ref02_Mul c_ref02_Sub c_ref02_Text c_ref02_Valid i)) := by
  rw [show law02_RatioExact_p1_code = .loop (loopBody law02_RatioExact_p1_code) by kernel_rfl]
  exact piece_loop (X := (law02_RatioExact_X c_law02_draw c_law02_sane c_ratio_Add c_ratio_Div c_ratio_Less c_ratio_Mul c_ratio_New c_ratio_Sub c_ratio_Text c_ratio_Valid c_ref02_Add c_ref02_Div c_ref02_Less c_ref02_Mul c_ref02_New c_ref02_Sub c_ref02_Text c_ref02_Valid)) (p := 1) (Λ := pick1 []) (G := fun i => @fun β d ks => law02_RatioExact_p1_G (zqay c_ratio_Add c_ratio_Div c_ratio_Less c_ratio_Mul c_ratio_Sub c_ratio_Text c_ratio_Valid c_ref02_Add c_ref02_Div c_ref02_Less c_ref02_Mul c_ref02_Sub c_ref02_Text c_ref02_Valid i) d ks) mixed tab_ok hΓ rfl (by kernel_rfl) CutsOk_nil (fun _ _ => rfl) (fun i => @fun β d ks r h => Eq.trans (b := law02_RatioExact_p1_G (zqay c_ratio_Add c_ratio_Div c_ratio_Less c_ratio_Mul c_ratio_Sub c_ratio_Text c_ratio_Valid c_ref02_Add c_ref02_Div c_ref02_Less c_ref02_Mul c_ref02_Sub c_ref02_Text c_ref02_Valid (i + 1)) d ks) (by kernel_rfl) h) i
def zqb0 (p1 : zqau) {β : Type} (a : (Int × Int)) (b : (Int × Int)) (num : Int) (den : Int) (k : (Bool → Option β)) : Option β :=
  c_law02_draw num den (fun (rdraw : (Int × Int)) =>
  c_law02_draw den num (fun (rdraw2 : (Int × Int)) =>
  p1 (fun (t8 : Bool) =>
  k t8) (fun (num2 : Int) (den2 : Int) =>
  c_ratio_New num2 den2 (fun (rNew : (Int × Int)) (rNew2 : Int) =>
  c_ref02_New num2 den2 (fun (rNew3 : (Int × Int)) (rNew4 : Int) =>
  cond (decide (rNew.1 = rNew3.1) && (decide (rNew.2 = rNew3.2) && true))
  (cond (decide (rNew2 = rNew4))
  (c_law02_sane  (fun (rsane : Bool) =>
  k rsane))
  (k false))
  (k false)))) num den a.1 a.2 b.1 b.2 rdraw.1 rdraw.2 rdraw2.1 rdraw2.2 rdraw.1 rdraw.2 a.1 a.2 rdraw2.1 rdraw2.2 rdraw.1 rdraw.2 (0 : Int)))
theorem zqb1 (hΓ : ΓOk Tryd.prog (law02_RatioExact_X c_law02_draw c_law02_sane c_ratio_Add c_ratio_Div c_ratio_Less c_ratio_Mul c_ratio_New c_ratio_Sub c_ratio_Text c_ratio_Valid c_ref02_Add c_ref02_Div c_ref02_Less c_ref02_Mul c_ref02_New c_ref02_Sub c_ref02_Text c_ref02_Valid).Γ) (p1 : zqau) (hp1 : PieceOk Tryd.prog 194 0 law02_RatioExact_p1_code zqav zqaw (law02_RatioExact_p1_G p1)) : SpecOk Tryd.prog 7 (zqar (zqb0 c_law02_draw c_law02_sane c_ratio_New c_ref02_New p1)) :=
  spec_exec (X := (law02_RatioExact_X c_law02_draw c_law02_sane c_ratio_Add c_ratio_Div c_ratio_Less c_ratio_Mul c_ratio_New c_ratio_Sub c_ratio_Text c_ratio_Valid c_ref02_Add c_ref02_Div c_ref02_Less c_ref02_Mul c_ref02_New c_ref02_Sub c_ref02_Text c_ref02_Valid)) (Λ := pick1 [(58, pieceCut zqav zqaw (law02_RatioExact_p1_G p1))]) (rs := [.tmp 8]) (c := bodyOf Tryd.f7) mixed tab_ok hΓ Tryd.func7 (by kernel_rfl) (by kernel_rfl) (by kernel_rfl) (by kernel_rfl) (CutsOk_cons (q := 58) (c' := law02_RatioExact_p1_code) (by kernel_rfl) rfl hp1 CutsOk_nil) (fun x k r h => Eq.trans (b := (zqar (zqb0 c_law02_draw c_law02_sane c_ratio_New c_ref02_New p1)).run x k) (by kernel_rfl) h)
end
theorem zqb2Γ : ΓOk Tryd.prog (pick1 [(9, .spec (zq57 zq5b)), (8, .spec (zqak zqao)), (13, .spec (zq61 zq65)), (17, .spec (zq6m zq79)), (19, .spec (zq7c zq89)), (16, .spec (zq6f zq6j)), (27, .spec (zq3u zq3y)), (14, .spec (zq68 zq6c)), (10, .spec (zq5e zq5i)), (15, .spec (zq3g zq3k)), (20, .spec (zq8c zq8p)), (23, .spec (zq96 zq9a)), (24, .spec (zq9d zqaa)), (22, .spec (zq8z zq93)), (28, .spec (zq41 zq45)), (21, .spec (zq8s zq8w)), (26, .spec (zqad zqah)), (25, .spec (zq3n zq3r))]) := (ΓOk_cons zq5c (ΓOk_cons zqap (ΓOk_cons zq66 (ΓOk_cons zq7a (ΓOk_cons zq8a (ΓOk_cons zq6k (ΓOk_cons zq3z (ΓOk_cons zq6d (ΓOk_cons zq5j (ΓOk_cons zq3l (ΓOk_cons zq8q (ΓOk_cons zq9b (ΓOk_cons zqab (ΓOk_cons zq94 (ΓOk_cons zq46 (ΓOk_cons zq8x (ΓOk_cons zqai (ΓOk_cons zq3s ΓOk_nil))))))))))))))))))
def zqb3 (m : Nat) : zqau := zqay zq65 zq79 zq89 zq6j zq6c zq5i zq3k zq8p zq9a zqaa zq93 zq8w zqah zq3r m
theorem zqb4 {β : Type} (i : Nat) (k1 k2 num den t39 t392 t393 t394 t395 t396 t397 t398 t399 t3910 t3911 t3912 t3913 t3914 t3915 t3916 t40) : (zqb3 (i + 1) k1 k2 num den t39 t392 t393 t394 t395 t396 t397 t398 t399 t3910 t3911 t3912 t3913 t3914 t3915 t3916 t40 : Option β) = zqax zq65 zq79 zq89 zq6j zq6c zq5i zq3k zq8p zq9a zqaa zq93 zq8w zqah zq3r (zqb3 i k1 k2) k1 k2 num den t39 t392 t393 t394 t395 t396 t397 t398 t399 t3910 t3911 t3912 t3913 t3914 t3915 t3916 t40 := rfl
def zqb5 : zqau := zqb3 fuel
theorem zqb6 : PieceOk Tryd.prog 194 0 law02_RatioExact_p1_code zqav zqaw (law02_RatioExact_p1_G zqb5) := zqaz zq5b zqao zq65 zq79 zq89 zq6j zq3y zq6c zq5i zq3k zq8p zq9a zqaa zq93 zq45 zq8w zqah zq3r zqb2Γ fuel
def zqb7 : zqaq := zqb0 zq5b zqao zq3y zq45 zqb5
theorem zqb8 : SpecOk Tryd.prog 7 (zqar zqb7) := zqb1 zq5b zqao zq65 zq79 zq89 zq6j zq3y zq6c zq5i zq3k zq8p zq9a zqaa zq93 zq45 zq8w zqah zq3r zqb2Γ zqb5 zqb6
end
end Go.Lift
/- Plain lemmas about functional forms: tests that are known, loops. -/
namespace Go.Lift
open Go.RowKit Go.IntWalk

section
variable {β : Type}
/-! ### Tests -/
theorem c_inb {i n : Int} {a b : Option β} (h : 0 ≤ i ∧ i < n) : cond (decide (0 ≤ i) && decide (i < n)) a b = a := by
  rw [decide_eq_true h.1, decide_eq_true h.2]; rfl
theorem c_pos {p : Prop} [Decidable p] {a b : Option β} (h : p) : cond (decide p) a b = a := by rw [decide_eq_true h]; rfl
theorem c_neg {p : Prop} [Decidable p] {a b : Option β} (h : ¬ p) : cond (decide p) a b = b := by rw [decide_eq_false h]; rfl
theorem c_npos {p : Prop} [Decidable p] {a b : Option β} (h : p) : cond (!decide p) a b = b := by rw [decide_eq_true h]; rfl
theorem c_nneg {p : Prop} [Decidable p] {a b : Option β} (h : ¬ p) : cond (!decide p) a b = a := by rw [decide_eq_false h]; rfl
theorem c_t {a b : Option β} : cond true a b = a := rfl
theorem c_f {a b : Option β} : cond false a b = b := rfl
theorem k_eq {γ : Type} {k : γ → Option β} {x y : γ} (h : x = y) : k x = k y := by rw [h]

/-! ### Loops over the numbers from 0 on -/
end
end Go.Lift

/- Ratios in plain Lean: the greatest common divisor, New, Less. -/
namespace Go.Lift
open Go.RowKit Go.IntWalk
noncomputable section
set_option linter.unusedVariables false
set_option linter.unusedSimpArgs false
set_option maxRecDepth 10000

theorem tmod_nat {a b : Int} (ha : 0 ≤ a) (hb : 0 < b) : Int.tmod a b = ((a.toNat % b.toNat : Nat) : Int) := by
  obtain ⟨m, rfl⟩ := Int.eq_ofNat_of_zero_le ha
  obtain ⟨n, rfl⟩ := Int.eq_ofNat_of_zero_le (Int.le_of_lt hb)
  simp [Int.tmod]

/-- The greatest common divisor. -/
def gcdI (a b : Int) : Int := (Nat.gcd a.toNat b.toNat : Nat)

theorem gcdI_zero {a : Int} (ha : 0 ≤ a) : gcdI a 0 = a := by
  simp [gcdI]
  omega

theorem gcdI_step {a b : Int} (ha : 0 ≤ a) (hb : 0 < b) : gcdI b (Int.tmod a b) = gcdI a b := by
  have h := tmod_nat ha hb
  unfold gcdI
  rw [h, Int.toNat_natCast, Nat.gcd_comm b.toNat, ← Nat.gcd_rec, Nat.gcd_comm]

theorem gcdI_pos {a b : Int} (hb : 0 < b) : 1 ≤ gcdI a b := by
  have : 0 < Nat.gcd a.toNat b.toNat := Nat.gcd_pos_of_pos_right _ (by omega)
  unfold gcdI
  omega

theorem gcdI_le {a b : Int} (hb : 0 < b) : gcdI a b ≤ b := by
  have : Nat.gcd a.toNat b.toNat ≤ b.toNat := Nat.gcd_le_right _ (by omega)
  unfold gcdI
  omega

theorem ref02_gcd_n {β : Type} : ∀ (N : Nat) (a b : Int) (f : Nat), 0 ≤ a → 0 ≤ b → b.toNat ≤ N → N < f → ∀ k1 : Int → Option β, zq24 f k1 a b = k1 (gcdI a b) := by
  intro N
  induction N with
  | zero =>
    intro a b f ha hb hN hf k1
    obtain ⟨f, rfl⟩ : ∃ f', f = f' + 1 := ⟨f - 1, by omega⟩
    have : b = 0 := by omega
    subst this
    rw [zq25, gcdI_zero ha]
    unfold zq1y
    exact c_npos rfl
  | succ N ih =>
    intro a b f ha hb hN hf k1
    obtain ⟨f, rfl⟩ : ∃ f', f = f' + 1 := ⟨f - 1, by omega⟩
    rw [zq25]
    unfold zq1y
    by_cases h0 : b = 0
    · subst h0
      rw [gcdI_zero ha]
      exact c_npos rfl
    · have hb0 : 0 < b := by omega
      have h1 := tmod_nat ha hb0
      have h2 : a.toNat % b.toNat < b.toNat := Nat.mod_lt _ (by omega)
      refine (c_nneg h0).trans ?_
      refine (c_nneg h0).trans ?_
      refine (ih b (Int.tmod a b) f hb (by omega) (by omega) (by omega) k1).trans ?_
      rw [gcdI_step ha hb0]

theorem ref02_gcd_eq {β : Type} {a b : Int} (ha : 0 ≤ a) (hb : 0 ≤ b) (hb2 : b ≤ 9223372036854775807) (k : Int → Option β) : zq28 a b k = k (gcdI a b) := by
  unfold zq28 zq21 zq26
  exact ref02_gcd_n b.toNat a b fuel ha hb (Nat.le_refl _) (lt_fuel (by omega)) _

theorem ref02_size_eq {β : Type} {n : Int} (h : -9223372036854775807 ≤ n ∧ n ≤ 9223372036854775807) (k : Int → Option β) : zq2f n k = k (n.natAbs : Int) := by
  unfold zq2f zq2c
  by_cases hn : n < 0
  · refine (c_pos hn).trans (k_eq ?_)
    rw [i64_in _ (by omega)]
    omega
  · refine (c_neg hn).trans (k_eq ?_)
    omega

theorem ref02_in_eq {β : Type} (n : Int) (k : Bool → Option β) : zq2w n k = k (decide (-4611686018427387904 ≤ n ∧ n ≤ 4611686018427387904)) := by
  unfold zq2w zq2t
  by_cases h1 : -4611686018427387904 ≤ n
  · refine (c_pos h1).trans (k_eq ?_)
    by_cases h2 : n ≤ 4611686018427387904
    · rw [decide_eq_true h2, decide_eq_true (show _ ∧ _ from ⟨h1, h2⟩)]
    · rw [decide_eq_false h2, decide_eq_false (show ¬ (_ ∧ _) from fun h => h2 h.2)]
  · refine (c_neg h1).trans (k_eq ?_)
    rw [decide_eq_false (show ¬ (_ ∧ _) from fun h => h1 h.1)]

theorem ref02_New_eq {β : Type} {num den : Int} (h : -4611686018427387904 ≤ num ∧ num ≤ 4611686018427387904) (hd : 1 ≤ den ∧ den ≤ 4611686018427387904) (k : Int × Int → Int → Option β) :
    zq45 num den k = k (num.tdiv (gcdI num.natAbs den), den.tdiv (gcdI num.natAbs den)) 0 := by
  have hg := gcdI_pos (a := (num.natAbs : Int)) (b := den) (by omega)
  have hg2 := gcdI_le (a := (num.natAbs : Int)) (b := den) (by omega)
  have w1 : IntKind.i64.wrap (num.tdiv (gcdI num.natAbs den)) = num.tdiv (gcdI num.natAbs den) := by
    refine i64_in _ ?_
    have h1 : (num.tdiv (gcdI num.natAbs den)).natAbs = num.natAbs / (gcdI num.natAbs den).natAbs := Int.natAbs_tdiv _ _
    have h2 : num.natAbs / (gcdI num.natAbs den).natAbs ≤ num.natAbs := Nat.div_le_self _ _
    omega
  have w2 : IntKind.i64.wrap (den.tdiv (gcdI num.natAbs den)) = den.tdiv (gcdI num.natAbs den) := by
    refine i64_in _ ?_
    have h1 : (den.tdiv (gcdI num.natAbs den)).natAbs = den.natAbs / (gcdI num.natAbs den).natAbs := Int.natAbs_tdiv _ _
    have h2 : den.natAbs / (gcdI num.natAbs den).natAbs ≤ den.natAbs := Nat.div_le_self _ _
    omega
  unfold zq45 zq42
  refine (ref02_in_eq num _).trans ?_
  rw [decide_eq_true h]
  simp only [Bool.not_true, c_f]
  refine (c_neg (by omega)).trans ?_
  refine (c_neg (by omega)).trans ?_
  refine (ref02_size_eq (by omega) _).trans ?_
  refine (ref02_gcd_eq (by omega) (by omega) (by omega) _).trans ?_
  refine (c_nneg (by omega)).trans ?_
  refine (c_nneg (by omega)).trans ?_
  rw [w1, w2]

theorem ratio_gcd_n {β : Type} : ∀ (N : Nat) (a b : Int) (f : Nat), 0 ≤ a → 0 ≤ b → b.toNat ≤ N → N < f → ∀ k1 : Int → Option β, zq11 f k1 a b = k1 (gcdI a b) := by
  intro N
  induction N with
  | zero =>
    intro a b f ha hb hN hf k1
    obtain ⟨f, rfl⟩ : ∃ f', f = f' + 1 := ⟨f - 1, by omega⟩
    have : b = 0 := by omega
    subst this
    rw [zq12, gcdI_zero ha]
    unfold zqv
    exact c_npos rfl
  | succ N ih =>
    intro a b f ha hb hN hf k1
    obtain ⟨f, rfl⟩ : ∃ f', f = f' + 1 := ⟨f - 1, by omega⟩
    rw [zq12]
    unfold zqv
    by_cases h0 : b = 0
    · subst h0
      rw [gcdI_zero ha]
      exact c_npos rfl
    · have hb0 : 0 < b := by omega
      have h1 := tmod_nat ha hb0
      have h2 : a.toNat % b.toNat < b.toNat := Nat.mod_lt _ (by omega)
      refine (c_nneg h0).trans ?_
      refine (c_nneg h0).trans ?_
      refine (ih b (Int.tmod a b) f hb (by omega) (by omega) (by omega) k1).trans ?_
      rw [gcdI_step ha hb0]

theorem ratio_gcd_eq {β : Type} {a b : Int} (ha : 0 ≤ a) (hb : 0 ≤ b) (hb2 : b ≤ 9223372036854775807) (k : Int → Option β) : zq15 a b k = k (gcdI a b) := by
  unfold zq15 zqy zq13
  exact ratio_gcd_n b.toNat a b fuel ha hb (Nat.le_refl _) (lt_fuel (by omega)) _

theorem ratio_size_eq {β : Type} {n : Int} (h : -9223372036854775807 ≤ n ∧ n ≤ 9223372036854775807) (k : Int → Option β) : zq1q n k = k (n.natAbs : Int) := by
  unfold zq1q zq1n
  by_cases hn : n < 0
  · refine (c_pos hn).trans (k_eq ?_)
    rw [i64_in _ (by omega)]
    omega
  · refine (c_neg hn).trans (k_eq ?_)
    omega

theorem ratio_within_eq {β : Type} (n : Int) (k : Bool → Option β) : zq1j n k = k (decide (-4611686018427387904 ≤ n ∧ n ≤ 4611686018427387904)) := by
  unfold zq1j zq1g
  by_cases h1 : -4611686018427387904 ≤ n
  · refine (c_pos h1).trans (k_eq ?_)
    by_cases h2 : n ≤ 4611686018427387904
    · rw [decide_eq_true h2, decide_eq_true (show _ ∧ _ from ⟨h1, h2⟩)]
    · rw [decide_eq_false h2, decide_eq_false (show ¬ (_ ∧ _) from fun h => h2 h.2)]
  · refine (c_neg h1).trans (k_eq ?_)
    rw [decide_eq_false (show ¬ (_ ∧ _) from fun h => h1 h.1)]

theorem ratio_New_eq {β : Type} {num den : Int} (h : -4611686018427387904 ≤ num ∧ num ≤ 4611686018427387904) (hd : 1 ≤ den ∧ den ≤ 4611686018427387904) (k : Int × Int → Int → Option β) :
    zq3y num den k = k (num.tdiv (gcdI num.natAbs den), den.tdiv (gcdI num.natAbs den)) 0 := by
  have hg := gcdI_pos (a := (num.natAbs : Int)) (b := den) (by omega)
  have hg2 := gcdI_le (a := (num.natAbs : Int)) (b := den) (by omega)
  have w1 : IntKind.i64.wrap (num.tdiv (gcdI num.natAbs den)) = num.tdiv (gcdI num.natAbs den) := by
    refine i64_in _ ?_
    have h1 : (num.tdiv (gcdI num.natAbs den)).natAbs = num.natAbs / (gcdI num.natAbs den).natAbs := Int.natAbs_tdiv _ _
    have h2 : num.natAbs / (gcdI num.natAbs den).natAbs ≤ num.natAbs := Nat.div_le_self _ _
    omega
  have w2 : IntKind.i64.wrap (den.tdiv (gcdI num.natAbs den)) = den.tdiv (gcdI num.natAbs den) := by
    refine i64_in _ ?_
    have h1 : (den.tdiv (gcdI num.natAbs den)).natAbs = den.natAbs / (gcdI num.natAbs den).natAbs := Int.natAbs_tdiv _ _
    have h2 : den.natAbs / (gcdI num.natAbs den).natAbs ≤ den.natAbs := Nat.div_le_self _ _
    omega
  unfold zq3y zq3v
  refine (c_neg (by omega)).trans ?_
  refine (c_neg (by omega)).trans ?_
  refine (ratio_within_eq num _).trans ?_
  rw [decide_eq_true h]
  simp only [Bool.not_true, c_f]
  refine (ratio_size_eq (by omega) _).trans ?_
  refine (ratio_gcd_eq (by omega) (by omega) (by omega) _).trans ?_
  refine (c_nneg (by omega)).trans ?_
  refine (c_nneg (by omega)).trans ?_
  rw [w1, w2]


/-- Which of two fractions is less. -/
theorem frac_lt {a b c d : Int} (ha : 0 ≤ a) (hb : 1 ≤ b) (hc : 0 ≤ c) (hd : 1 ≤ d) (h : a / b < c / d) : a * d < c * b := by
  have h1 : a < b * (c / d) := by
    have q1 := Int.lt_mul_ediv_self_add (x := a) (k := b) (by omega)
    have q2 : b * (a / b) + b ≤ b * (c / d) := by
      have : b * (a / b) + b = b * (a / b + 1) := by rw [Int.mul_add, Int.mul_one]
      rw [this]
      exact Int.mul_le_mul_of_nonneg_left (by omega) (by omega)
    omega
  have h2 : d * (c / d) ≤ c := Int.mul_ediv_self_le (by omega)
  calc a * d < b * (c / d) * d := Int.mul_lt_mul_of_pos_right h1 (by omega)
    _ = d * (c / d) * b := by rw [Int.mul_assoc, Int.mul_comm, Int.mul_comm (c / d) d]
    _ ≤ c * b := Int.mul_le_mul_of_nonneg_right h2 (by omega)

theorem frac_eq {a b c d : Int} (h : a / b = c / d) : a * d < c * b ↔ a % b * d < c % d * b := by
  have h1 := Int.emod_add_mul_ediv a b
  have h2 := Int.emod_add_mul_ediv c d
  have e1 : a * d = a % b * d + b * d * (a / b) := by
    conv => lhs; rw [← h1]
    rw [Int.add_mul, Int.mul_assoc b, Int.mul_comm (a / b) d, ← Int.mul_assoc]
  have e2 : c * b = c % d * b + b * d * (c / d) := by
    conv => lhs; rw [← h2]
    rw [Int.add_mul, Int.mul_assoc d, Int.mul_comm (c / d) b, ← Int.mul_assoc, Int.mul_comm d b]
  rw [e1, e2, h]
  omega

theorem less_n {β : Type} : ∀ (N : Nat) (a b c d : Int) (f : Nat), 0 ≤ a → a ≤ 4611686018427387904 → 1 ≤ b → b ≤ 4611686018427387904 → 0 ≤ c → c ≤ 4611686018427387904 → 1 ≤ d → d ≤ 4611686018427387904 → (b + d).toNat ≤ N → N < f →
    ∀ k : Bool → Option β, zq2m f a b c d k = k (decide (a * d < c * b)) := by
  intro N
  induction N with
  | zero => intro a b c d f _ _ hb _ _ _ hd _ h; omega
  | succ N ih =>
    intro a b c d f ha ha2 hb hb2 hc hc2 hd hd2 hN hf k
    obtain ⟨f, rfl⟩ : ∃ f', f = f' + 1 := ⟨f - 1, by omega⟩
    have t1 : Int.tdiv a b = a / b := Int.tdiv_eq_ediv_of_nonneg ha
    have t2 : Int.tdiv c d = c / d := Int.tdiv_eq_ediv_of_nonneg hc
    have t3 : Int.tmod a b = a % b := Int.tmod_eq_emod_of_nonneg ha
    have t4 : Int.tmod c d = c % d := Int.tmod_eq_emod_of_nonneg hc
    have q1 : 0 ≤ a / b := Int.ediv_nonneg ha (by omega)
    have q2 : 0 ≤ c / d := Int.ediv_nonneg hc (by omega)
    have q3 : a / b ≤ a := Int.ediv_le_self _ ha
    have q4 : c / d ≤ c := Int.ediv_le_self _ hc
    have w1 : IntKind.i64.wrap (a / b) = a / b := i64_in _ (by omega)
    have w2 : IntKind.i64.wrap (c / d) = c / d := i64_in _ (by omega)
    have m1 : 0 ≤ a % b := Int.emod_nonneg _ (by omega)
    have m2 : a % b < b := Int.emod_lt_of_pos _ (by omega)
    have m3 : 0 ≤ c % d := Int.emod_nonneg _ (by omega)
    have m4 : c % d < d := Int.emod_lt_of_pos _ (by omega)
    rw [zq2o]
    unfold zq2j
    refine (c_nneg (by omega)).trans ?_
    refine (c_nneg (by omega)).trans ?_
    simp only [t1, t2, t3, t4, w1, w2]
    by_cases hq : a / b = c / d
    · refine (c_npos hq).trans ?_
      refine (c_nneg (by omega)).trans ?_
      refine (c_nneg (by omega)).trans ?_
      have hiff := frac_eq hq
      by_cases h0 : c % d = 0
      · refine (c_pos h0).trans (k_eq ?_)
        have : ¬ a * d < c * b := by
          rw [hiff, h0]
          have := Int.mul_nonneg m1 (show 0 ≤ d by omega)
          omega
        rw [decide_eq_false this]
      · refine (c_neg h0).trans ?_
        by_cases h1 : a % b = 0
        · refine (c_pos h1).trans (k_eq ?_)
          have : a * d < c * b := by
            rw [hiff, h1]
            have := Int.mul_pos (show 0 < c % d by omega) (show 0 < b by omega)
            omega
          rw [decide_eq_true this]
        · refine (c_neg h1).trans ?_
          refine (ih d (c % d) b (a % b) f (by omega) hd2 (by omega) (by omega) (by omega) hb2 (by omega) (by omega) (by omega) (by omega) k).trans (k_eq ?_)
          have : (d * (a % b) < b * (c % d)) = (a * d < c * b) := by
            rw [propext hiff, Int.mul_comm d, Int.mul_comm b]
          simp only [this]
    · refine (c_nneg hq).trans ?_
      refine (c_nneg (by omega)).trans ?_
      refine (c_nneg (by omega)).trans (k_eq ?_)
      by_cases hlt : a / b < c / d
      · rw [decide_eq_true hlt, decide_eq_true (frac_lt ha hb hc hd hlt)]
      · have h2 := frac_lt hc hd ha hb (show c / d < a / b by omega)
        rw [decide_eq_false hlt, decide_eq_false (by omega)]

theorem less_ok {β : Type} {a b c d : Int} (ha : 0 ≤ a) (ha2 : a ≤ 4611686018427387904) (hb : 1 ≤ b) (hb2 : b ≤ 4611686018427387904) (hc : 0 ≤ c) (hc2 : c ≤ 4611686018427387904) (hd : 1 ≤ d) (hd2 : d ≤ 4611686018427387904) (k : Bool → Option β) :
    zq2p a b c d k = k (decide (a * d < c * b)) := by
  unfold zq2p
  exact less_n (b + d).toNat a b c d fuel ha ha2 hb hb2 hc hc2 hd hd2 (Nat.le_refl _) (lt_fuel (by omega)) k
end
end Go.Lift

/- Exact rational numbers: plain arithmetic for the chapter 2. -/
namespace Go.Lift
noncomputable section
set_option linter.unusedVariables false
set_option linter.unusedSimpArgs false

abbrev Rat2 := Int × Int
abbrev RM : Int := 4611686018427387904
def inR (n : Int) : Bool := decide (-RM ≤ n) && decide (n ≤ RM)
theorem inR_iff {n : Int} : inR n = true ↔ -RM ≤ n ∧ n ≤ RM := by simp [inR]
/-- In lowest terms, whatever the size. -/
structure Low (r : Rat2) : Prop where
  den : 1 ≤ r.2
  cop : Int.gcd r.1 r.2 = 1
def validQ (r : Rat2) : Bool := decide (1 ≤ r.2) && (decide (r.2 ≤ RM) && (inR r.1 && decide (Int.gcd r.1 r.2 = 1)))
theorem validQ_iff {r : Rat2} : validQ r = true ↔ Low r ∧ r.2 ≤ RM ∧ -RM ≤ r.1 ∧ r.1 ≤ RM := by
  simp only [validQ, Bool.and_eq_true, decide_eq_true_eq, inR_iff]
  exact ⟨fun h => ⟨⟨h.1, h.2.2.2⟩, h.2.1, h.2.2.1⟩, fun h => ⟨h.1.den, h.2.1, h.2.2, h.1.cop⟩⟩

theorem cop_mul {k m n : Int} (h1 : Int.gcd k m = 1) (h2 : Int.gcd k n = 1) : Int.gcd k (m * n) = 1 := by
  have h := Int.gcd_mul_right_dvd_mul_gcd k m n
  rw [h1, h2] at h
  exact Nat.dvd_one.1 h
theorem cop_sub {a b c d : Int} (h : Int.gcd (c * a) (d * b) = 1) : Int.gcd a b = 1 := by
  have h1 : Int.gcd a b ∣ Int.gcd (c * a) b := Int.gcd_dvd_gcd_mul_left_left a b c
  have h2 : Int.gcd (c * a) b ∣ Int.gcd (c * a) (d * b) := Int.gcd_dvd_gcd_mul_left_right (c * a) b d
  have h3 := Nat.dvd_trans h1 h2
  rw [h] at h3
  exact Nat.dvd_one.1 h3

/-! ### New -/
def redQ (n d : Int) : Rat2 := (n / Int.gcd n d, d / Int.gcd n d)
theorem gcd_pos' {n d : Int} (hd : 1 ≤ d) : 0 < (Int.gcd n d : Int) := by
  have : 0 < Int.gcd n d := Int.gcd_pos_of_ne_zero_right n (by omega)
  omega
theorem redQ_low {n d : Int} (hd : 1 ≤ d) : Low (redQ n d) := by
  have hg := gcd_pos' (n := n) hd
  constructor
  · unfold redQ
    simp only
    have h2 : (Int.gcd n d : Int) ∣ d := Int.gcd_dvd_right ..
    obtain ⟨c, hc⟩ := h2
    have hc1 : 1 ≤ c := by
      refine Classical.byContradiction fun hn => ?_
      have : (Int.gcd n d : Int) * c ≤ (Int.gcd n d : Int) * 0 := Int.mul_le_mul_of_nonneg_left (by omega) (by omega)
      omega
    have : d / (Int.gcd n d : Int) = c := by
      conv => lhs; lhs; rw [hc]
      exact Int.mul_ediv_cancel_left c (by omega)
    omega
  · unfold redQ
    exact Int.gcd_ediv_gcd_ediv_gcd (by omega)
/-- What two numbers are made of. -/
theorem gcd_parts {n d : Int} (hd : d ≠ 0) : ∃ g A B : Int, 0 < g ∧ (Int.gcd n d : Int) = g ∧ n = g * A ∧ d = g * B ∧ n / (Int.gcd n d : Int) = A ∧ d / (Int.gcd n d : Int) = B ∧ Int.gcd A B = 1 := by
  have hg : 0 < (Int.gcd n d : Int) := by
    have := Int.gcd_pos_of_ne_zero_right n hd
    omega
  obtain ⟨a, ha⟩ : (Int.gcd n d : Int) ∣ n := Int.gcd_dvd_left ..
  obtain ⟨c, hc⟩ : (Int.gcd n d : Int) ∣ d := Int.gcd_dvd_right ..
  have e1 : n / (Int.gcd n d : Int) = a := by
    conv => lhs; lhs; rw [ha]
    exact Int.mul_ediv_cancel_left a (by omega)
  have e2 : d / (Int.gcd n d : Int) = c := by
    conv => lhs; lhs; rw [hc]
    exact Int.mul_ediv_cancel_left c (by omega)
  have e3 := Int.gcd_ediv_gcd_ediv_gcd (i := n) (j := d) (by omega)
  rw [e1, e2] at e3
  exact ⟨_, a, c, hg, rfl, ha, hc, e1, e2, e3⟩

theorem pos_of_mul {g B : Int} (hg : 0 < g) (h : 1 ≤ g * B) : 1 ≤ B := by
  refine Classical.byContradiction fun hn => ?_
  have : g * B ≤ g * 0 := Int.mul_le_mul_of_nonneg_left (by omega) (by omega)
  omega

/-! ### Products -/
def prodQ (a b : Rat2) : Rat2 :=
  ((a.1 / (Int.gcd a.1 b.2 : Int)) * (b.1 / (Int.gcd b.1 a.2 : Int)), (a.2 / (Int.gcd b.1 a.2 : Int)) * (b.2 / (Int.gcd a.1 b.2 : Int)))

theorem prodQ_ok {a b : Rat2} (ha : Low a) (hb : Low b) : Low (prodQ a b) ∧ (prodQ a b).1 * (a.2 * b.2) = (a.1 * b.1) * (prodQ a b).2 := by
  have da := ha.den
  have db := hb.den
  obtain ⟨g, A, B, hg, eg, e1, e2, e3, e4, c1⟩ := gcd_parts (n := a.1) (d := b.2) (by omega)
  obtain ⟨h, C, D, hh, eh, f1, f2, f3, f4, c2⟩ := gcd_parts (n := b.1) (d := a.2) (by omega)
  have hB : 1 ≤ B := pos_of_mul hg (by omega)
  have hD : 1 ≤ D := pos_of_mul hh (by omega)
  have c3 : Int.gcd A D = 1 := by
    have := ha.cop
    rw [e1, f2] at this
    exact cop_sub this
  have c4 : Int.gcd C B = 1 := by
    have := hb.cop
    rw [f1, e2] at this
    exact cop_sub this
  have e : prodQ a b = (A * C, D * B) := by
    unfold prodQ
    rw [e3, e4, f3, f4]
  rw [e]
  refine ⟨⟨?_, ?_⟩, ?_⟩
  · show 1 ≤ D * B
    have : 1 * 1 ≤ D * B := Int.mul_le_mul hD hB (by omega) (by omega)
    omega
  · show Int.gcd (A * C) (D * B) = 1
    rw [Int.gcd_comm]
    refine cop_mul ?_ ?_
    · rw [Int.gcd_comm]
      exact cop_mul c3 c1
    · rw [Int.gcd_comm]
      exact cop_mul c2 c4
  · show A * C * (a.2 * b.2) = a.1 * b.1 * (D * B)
    rw [e1, f1, e2, f2]
    simp only [Int.mul_assoc, Int.mul_comm, Int.mul_left_comm]

/-! ### Sums -/
def sumX (a b : Rat2) : Int := a.1 * (b.2 / (Int.gcd a.2 b.2 : Int))
def sumY (a b : Rat2) : Int := b.1 * (a.2 / (Int.gcd a.2 b.2 : Int))
def sumD (a b : Rat2) : Int := (a.2 / (Int.gcd a.2 b.2 : Int)) * b.2
theorem sum_ok {a b : Rat2} (ha : 1 ≤ a.2) (hb : 1 ≤ b.2) : 1 ≤ sumD a b ∧ (sumX a b + sumY a b) * (a.2 * b.2) = (a.1 * b.2 + b.1 * a.2) * sumD a b := by
  obtain ⟨g, A, B, hg, eg, e1, e2, e3, e4, c1⟩ := gcd_parts (n := a.2) (d := b.2) (by omega)
  have hA : 1 ≤ A := pos_of_mul hg (by omega)
  unfold sumX sumY sumD
  rw [e3, e4]
  constructor
  · have : 1 * 1 ≤ A * b.2 := Int.mul_le_mul hA hb (by omega) (by omega)
    omega
  · rw [e1, e2, Int.add_mul, Int.add_mul]
    simp only [Int.mul_assoc, Int.mul_comm, Int.mul_left_comm]

/-- The functions of the package, with their error numbers. -/
def addR (a b : Rat2) : Rat2 × Int :=
  if validQ a && validQ b then
    if inR (sumX a b) && (inR (sumY a b) && (inR (sumD a b) && inR (sumX a b + sumY a b))) then (redQ (sumX a b + sumY a b) (sumD a b), 0) else ((0, 0), 5)
  else ((0, 0), 8)
def subR (a b : Rat2) : Rat2 × Int := if validQ a && validQ b then addR a (-b.1, b.2) else ((0, 0), 8)
def prodR (a b : Rat2) : Rat2 × Int := if inR (prodQ a b).1 && inR (prodQ a b).2 then (prodQ a b, 0) else ((0, 0), 5)
def mulR (a b : Rat2) : Rat2 × Int := if validQ a && validQ b then prodR a b else ((0, 0), 8)
def invQ (b : Rat2) : Rat2 := if b.1 < 0 then (-b.2, -b.1) else (b.2, b.1)
def divR (a b : Rat2) : Rat2 × Int := if validQ a && validQ b then (if b.1 = 0 then ((0, 0), 1) else prodR a (invQ b)) else ((0, 0), 8)
def lessR (a b : Rat2) : Bool := validQ a && (validQ b && decide (a.1 * b.2 < b.1 * a.2))

theorem redQ_bd {n d : Int} (hd : 1 ≤ d) (hn : inR n = true) (hD : inR d = true) : validQ (redQ n d) = true := by
  rw [validQ_iff]
  refine ⟨redQ_low hd, ?_⟩
  obtain ⟨g, A, B, hg, eg, e1, e2, e3, e4, c1⟩ := gcd_parts (n := n) (d := d) (by omega)
  have hB : 1 ≤ B := pos_of_mul hg (by omega)
  rw [inR_iff] at hn hD
  unfold redQ
  rw [e3, e4]
  simp only
  have b1 : 1 * B ≤ g * B := Int.mul_le_mul_of_nonneg_right (by omega) (by omega)
  refine ⟨by omega, ?_⟩
  rcases Int.le_total 0 A with h | h
  · have : 1 * A ≤ g * A := Int.mul_le_mul_of_nonneg_right (by omega) h
    omega
  · have : 1 * (-A) ≤ g * (-A) := Int.mul_le_mul_of_nonneg_right (by omega) (by omega)
    simp only [Int.mul_neg] at this
    omega

/-! ### Quotients -/
theorem invQ_low {b : Rat2} (hb : Low b) (h : b.1 ≠ 0) : Low (invQ b) := by
  have d := hb.den
  unfold invQ
  split
  · refine ⟨by simp only; omega, ?_⟩
    show Int.gcd (-b.2) (-b.1) = 1
    rw [Int.neg_gcd, Int.gcd_neg, Int.gcd_comm]
    exact hb.cop
  · refine ⟨by simp only; omega, ?_⟩
    show Int.gcd b.2 b.1 = 1
    rw [Int.gcd_comm]
    exact hb.cop
/-! ### The order -/
end
end Go.Lift

/- Exact rational numbers: how the reference compares and multiplies; products of 128 bits. -/
namespace Go.Lift
noncomputable section
set_option linter.unusedVariables false
set_option linter.unusedSimpArgs false

/-- The reference's product of two numbers: whether its size is within the limit. -/
theorem prod_limit {a b M : Int} (ha : a ≠ 0) (hb : b ≠ 0) (hM : 0 ≤ M) : (¬ (a.natAbs : Int) > M / (b.natAbs : Int)) ↔ ((a * b).natAbs : Int) ≤ M := by
  have hb' : 0 < (b.natAbs : Int) := by omega
  rw [Int.natAbs_mul]
  constructor
  · intro h
    have h1 : (a.natAbs : Int) ≤ M / (b.natAbs : Int) := by omega
    have := (Int.le_ediv_iff_mul_le hb').1 h1
    rw [Int.natCast_mul]
    exact this
  · intro h
    rw [Int.natCast_mul] at h
    have := (Int.le_ediv_iff_mul_le hb').2 h
    omega
/-- The high half of a product of two numbers of 64 bits, as the library makes it. -/
theorem mul_hi {x y : Nat} :
    (x / 4294967296) * (y / 4294967296) + ((x / 4294967296) * (y % 4294967296) + (x % 4294967296) * (y % 4294967296) / 4294967296) / 4294967296 +
      (((x / 4294967296) * (y % 4294967296) + (x % 4294967296) * (y % 4294967296) / 4294967296) % 4294967296 + (x % 4294967296) * (y / 4294967296)) / 4294967296 = x * y / 18446744073709551616 := by
  have ex := Nat.div_add_mod x 4294967296
  have ey := Nat.div_add_mod y 4294967296
  generalize x / 4294967296 = x1 at *
  generalize x % 4294967296 = x0 at *
  generalize y / 4294967296 = y1 at *
  generalize y % 4294967296 = y0 at *
  have e : x * y = 18446744073709551616 * (x1 * y1) + 4294967296 * (x1 * y0) + 4294967296 * (x0 * y1) + x0 * y0 := by
    rw [← ex, ← ey, Nat.add_mul, Nat.mul_add, Nat.mul_add]
    have a1 : 4294967296 * x1 * (4294967296 * y1) = 18446744073709551616 * (x1 * y1) := by
      rw [Nat.mul_mul_mul_comm]
    have a2 : 4294967296 * x1 * y0 = 4294967296 * (x1 * y0) := Nat.mul_assoc ..
    have a3 : x0 * (4294967296 * y1) = 4294967296 * (x0 * y1) := Nat.mul_left_comm ..
    rw [a1, a2, a3]
    omega
  rw [e]
  generalize x1 * y1 = p
  generalize x1 * y0 = q
  generalize x0 * y1 = r
  generalize x0 * y0 = s
  omega

/-- Products of 128 bits compare as the products do. -/
theorem hilo_lt {p q : Nat} : (p / 18446744073709551616 < q / 18446744073709551616 ∨ (p / 18446744073709551616 = q / 18446744073709551616 ∧ p % 18446744073709551616 < q % 18446744073709551616)) ↔ p < q := by omega
end
end Go.Lift

/- Exact rational numbers: small numbers; ratios that are drawn. -/
namespace Go.Lift
noncomputable section
set_option linter.unusedVariables false
set_option linter.unusedSimpArgs false

/-- The statements' own remainder. -/
theorem mod_bd (x : Int) {n : Int} (hn : 0 < n) : 0 ≤ Int.tmod (Int.tmod x n + n) n ∧ Int.tmod (Int.tmod x n + n) n < n := by
  have h1 : -n < Int.tmod x n := by
    rcases Int.le_total 0 x with h | h
    · have := Int.tmod_nonneg n h
      omega
    · have e : Int.tmod x n = -Int.tmod (-x) n := by rw [Int.neg_tmod]; omega
      have := Int.tmod_lt_of_pos (-x) hn
      omega
  exact ⟨Int.tmod_nonneg n (by omega), Int.tmod_lt_of_pos _ hn⟩

def newR (n d : Int) : Rat2 × Int := if inR n && (decide (1 ≤ d) && decide (d ≤ RM)) then (redQ n d, 0) else ((0, 0), 1)
end
end Go.Lift

/- The code's ratios, function by function: what each one computes, for all inputs. -/
namespace Go.Lift
open Go.RowKit Go.IntWalk
noncomputable section
set_option linter.unusedVariables false
set_option linter.unusedSimpArgs false
set_option maxRecDepth 10000

theorem u64_mod (n : Int) : IntKind.u64.wrap n = n % 18446744073709551616 := by
  unfold IntKind.wrap
  simp [IntKind.signed, IntKind.bits]

theorem bits_lo (x : Nat) : bitsOf .and .u64 (x : Int) 4294967295 = ((x % 4294967296 : Nat) : Int) := by
  show IntKind.u64.wrap _ = _
  rw [u64_mod]
  have h : (BitVec.ofInt 64 (x : Int) &&& BitVec.ofInt 64 4294967295).toNat = x % 4294967296 := by
    rw [BitVec.toNat_and]
    have e1 : (BitVec.ofInt 64 (x : Int)).toNat = x % 2 ^ 64 := by simp [BitVec.toNat_ofInt]
    have e2 : (BitVec.ofInt 64 4294967295).toNat = 2 ^ 32 - 1 := by decide
    rw [e1, e2, Nat.and_two_pow_sub_one_eq_mod]
    omega
  show ((BitVec.ofInt 64 (x : Int) &&& BitVec.ofInt 64 4294967295).toNat : Int) % _ = _
  rw [h]
  omega

theorem bits_hi (x : Nat) : shiftOf .shr .u64 (x : Int) 32 = ((x / 4294967296 : Nat) : Int) := by
  show Int.fdiv (x : Int) (2 ^ 32) = _
  rw [Int.fdiv_eq_ediv_of_nonneg _ (by decide)]
  norm_cast

theorem u64_nat {n : Nat} (h : n < 18446744073709551616) : IntKind.u64.wrap (n : Int) = n := by rw [u64_mod]; omega

theorem mul64_eq {β : Type} {x y : Nat} (hx : x < 18446744073709551616) (hy : y < 18446744073709551616) (k : Int → Int → Option β) :
    zq33 (x : Int) (y : Int) k = k ((x * y / 18446744073709551616 : Nat) : Int) ((x * y % 18446744073709551616 : Nat) : Int) := by
  have hm := mul_hi (x := x) (y := y)
  have lo : ∀ n : Nat, n % 4294967296 < 4294967296 := fun n => Nat.mod_lt _ (by decide)
  have hi : ∀ n : Nat, n < 18446744073709551616 → n / 4294967296 < 4294967296 := fun n h => by omega
  have mm : ∀ a b : Nat, a < 4294967296 → b < 4294967296 → a * b ≤ 4294967295 * 4294967295 := fun a b h1 h2 => Nat.mul_le_mul (by omega) (by omega)
  have b00 := mm _ _ (lo x) (lo y)
  have b10 := mm _ _ (hi x hx) (lo y)
  have b01 := mm _ _ (lo x) (hi y hy)
  have b11 := mm _ _ (hi x hx) (hi y hy)
  unfold zq33 zq30
  simp only [bits_lo, bits_hi, c_pos (show (0 : Int) ≤ 32 by decide), ← Int.natCast_mul]
  rw [u64_nat (n := x % 4294967296 * (y % 4294967296)) (by omega), u64_nat (n := x / 4294967296 * (y % 4294967296)) (by omega), u64_nat (n := x % 4294967296 * (y / 4294967296)) (by omega), u64_nat (n := x / 4294967296 * (y / 4294967296)) (by omega)]
  simp only [bits_lo, bits_hi, ← Int.natCast_add]
  rw [u64_nat (n := x / 4294967296 * (y % 4294967296) + x % 4294967296 * (y % 4294967296) / 4294967296) (by omega)]
  simp only [bits_lo, bits_hi, ← Int.natCast_add]
  have hT : x / 4294967296 * (y % 4294967296) + x % 4294967296 * (y % 4294967296) / 4294967296 < 18446744073709551616 := by omega
  generalize x / 4294967296 * (y % 4294967296) + x % 4294967296 * (y % 4294967296) / 4294967296 = T at *
  have hW : T % 4294967296 + x % 4294967296 * (y / 4294967296) < 18446744073709551616 := by omega
  rw [u64_nat hW]
  simp only [bits_lo, bits_hi, ← Int.natCast_add]
  generalize hW' : (T % 4294967296 + x % 4294967296 * (y / 4294967296)) / 4294967296 = W at *
  have hxy : x * y < 18446744073709551616 * 18446744073709551616 := by
    rcases Nat.eq_zero_or_pos x with rfl | h
    · omega
    · exact Nat.lt_of_le_of_lt (Nat.mul_le_mul (Nat.le_of_lt_succ (Nat.lt_succ_of_lt hx)) (Nat.le_of_lt_succ (Nat.lt_succ_of_lt hy)) |> fun _ => Nat.mul_le_mul (Nat.le_pred_of_lt hx) (Nat.le_pred_of_lt hy)) (by decide)
  have hq : x * y / 18446744073709551616 < 18446744073709551616 := Nat.div_lt_of_lt_mul hxy
  rw [u64_nat (n := x / 4294967296 * (y / 4294967296) + T / 4294967296) (by omega)]
  simp only [← Int.natCast_add]
  rw [u64_nat (by omega), u64_mod, hm]
  rfl

theorem gcdI_gcd {n d : Int} (hd : 0 ≤ d) : gcdI (n.natAbs : Int) d = (Int.gcd n d : Int) := by
  unfold gcdI
  rw [Int.toNat_natCast]
  have : d.toNat = d.natAbs := by omega
  rw [this]
  rfl

theorem tdiv_gcdl (n d : Int) : Int.tdiv n (Int.gcd n d : Int) = n / (Int.gcd n d : Int) := Int.tdiv_eq_ediv_of_dvd (Int.gcd_dvd_left ..)
theorem tdiv_gcdr (n d : Int) : Int.tdiv d (Int.gcd n d : Int) = d / (Int.gcd n d : Int) := Int.tdiv_eq_ediv_of_dvd (Int.gcd_dvd_right ..)

/-- A quotient by a divisor is no greater. -/
theorem quo_bd {n g : Int} (hg : 0 < g) (h : g ∣ n) {M : Int} (h1 : -M ≤ n) (h2 : n ≤ M) : -M ≤ n / g ∧ n / g ≤ M := by
  obtain ⟨q, rfl⟩ := h
  rw [Int.mul_ediv_cancel_left _ (by omega)]
  have hM : 0 ≤ M := by omega
  rcases Int.le_total 0 q with hq | hq
  · have : q ≤ g * q := by
      have := Int.mul_le_mul_of_nonneg_right (show 1 ≤ g by omega) hq
      omega
    exact ⟨by omega, by omega⟩
  · have : g * q ≤ q := by
      have := Int.mul_le_mul_of_nonpos_right (show 1 ≤ g by omega) hq
      omega
    exact ⟨by omega, by omega⟩

theorem quo_pos {n g : Int} (hg : 0 < g) (h : g ∣ n) (h1 : 1 ≤ n) : 1 ≤ n / g := by
  obtain ⟨q, rfl⟩ := h
  rw [Int.mul_ediv_cancel_left _ (by omega)]
  exact pos_of_mul hg h1

theorem ratio_Valid_eq {β : Type} (r : Int × Int) (k : Bool → Option β) : zq3k r k = k (validQ r) := by
  unfold zq3k zq3h validQ
  by_cases h1 : 1 ≤ r.2
  · refine (c_pos h1).trans ?_
    by_cases h2 : r.2 ≤ 4611686018427387904
    · refine (c_pos h2).trans ?_
      refine (ratio_within_eq _ _).trans ?_
      by_cases h3 : -4611686018427387904 ≤ r.1 ∧ r.1 ≤ 4611686018427387904
      · refine (c_pos h3).trans ?_
        refine (ratio_size_eq (by omega) _).trans ?_
        refine (ratio_gcd_eq (by omega) (by omega) (by omega) _).trans (k_eq ?_)
        rw [gcdI_gcd (by omega), decide_eq_true h1, decide_eq_true (show r.2 ≤ RM from h2), inR_iff.2 h3]
        simp only [Bool.true_and]
        congr 1
        exact propext ⟨fun h => by omega, fun h => by omega⟩
      · refine (c_neg h3).trans (k_eq ?_)
        have : inR r.1 = false := by
          cases h : inR r.1 with
          | false => rfl
          | true => exact absurd (inR_iff.1 h) h3
        rw [this]; simp
    · refine (c_neg h2).trans (k_eq ?_)
      rw [decide_eq_false (show ¬ r.2 ≤ RM from h2)]; simp
  · refine (c_neg h1).trans (k_eq ?_)
    rw [decide_eq_false h1]; simp

theorem natAbs_mul_cast (a b : Int) : (((a.natAbs * b.natAbs : Nat) : Int)) = if (decide (a < 0)) == (decide (b < 0)) then a * b else -(a * b) := by
  rw [Int.natCast_mul]
  by_cases ha : a < 0 <;> by_cases hb : b < 0
  · simp only [ha, hb, decide_true, beq_self_eq_true, if_true]
    rw [show (a.natAbs : Int) = -a by omega, show (b.natAbs : Int) = -b by omega, Int.neg_mul_neg]
  · simp only [ha, hb, decide_true, decide_false]
    rw [show (a.natAbs : Int) = -a by omega, show (b.natAbs : Int) = b by omega, Int.neg_mul]
    simp
  · simp only [ha, hb, decide_true, decide_false]
    rw [show (a.natAbs : Int) = a by omega, show (b.natAbs : Int) = -b by omega, Int.mul_neg]
    simp
  · simp only [ha, hb, decide_false, beq_self_eq_true, if_true]
    rw [show (a.natAbs : Int) = a by omega, show (b.natAbs : Int) = b by omega]

theorem inR_abs {a b : Int} : inR (a * b) = decide (a.natAbs * b.natAbs ≤ 4611686018427387904) := by
  have h : (a * b).natAbs = a.natAbs * b.natAbs := Int.natAbs_mul a b
  rw [← h]
  unfold inR
  rw [← Bool.decide_and]
  congr 1
  exact propext ⟨fun h => by have h1 := h.1; have h2 := h.2; simp only [RM] at h1 h2; omega, fun h => by simp only [RM]; omega⟩

theorem ratio_times_eq {β : Type} {a b : Int} (ha : -RM ≤ a ∧ a ≤ RM) (hb : -RM ≤ b ∧ b ≤ RM) (k : Int → Bool → Option β) : zq4c a b k = cond (inR (a * b)) (k (a * b) true) (k 0 false) := by
  have ha' : -4611686018427387904 ≤ a ∧ a ≤ 4611686018427387904 := ha
  have hb' : -4611686018427387904 ≤ b ∧ b ≤ 4611686018427387904 := hb
  unfold zq4c zq49
  refine (ratio_size_eq (by omega) _).trans ?_
  refine (ratio_size_eq (by omega) _).trans ?_
  rw [u64_nat (by omega), u64_nat (by omega)]
  refine (mul64_eq (by omega) (by omega) _).trans ?_
  have hc := natAbs_mul_cast a b
  rw [inR_abs]
  generalize hp : a.natAbs * b.natAbs = p at *
  by_cases hle : p ≤ 4611686018427387904
  · rw [decide_eq_true hle, c_t]
    have e1 : p / 18446744073709551616 = 0 := by omega
    have e2 : p % 18446744073709551616 = p := by omega
    rw [e1, e2]
    refine (c_npos rfl).trans ?_
    refine (c_neg (by omega)).trans ?_
    have w : IntKind.i64.wrap (p : Int) = p := i64_in _ (by omega)
    cases hs : (decide (a < 0)) == (decide (b < 0)) with
    | true =>
      rw [hs, if_pos rfl] at hc
      simp only [Bool.not_true, c_f]
      rw [w, hc]
    | false =>
      rw [hs] at hc
      simp only [Bool.false_eq_true, if_false] at hc
      simp only [Bool.not_false, c_t]
      rw [w, i64_in _ (by omega), hc]
      congr 1
      omega
  · rw [decide_eq_false hle, c_f]
    by_cases h0 : ((p / 18446744073709551616 : Nat) : Int) = 0
    · refine (c_npos h0).trans ?_
      exact c_pos (by omega)
    · exact c_nneg h0

theorem ratio_plus_eq {β : Type} {a b : Int} (ha : inR a = true) (hb : inR b = true) (k : Int → Bool → Option β) : zq1c a b k = cond (inR (a + b)) (k (a + b) true) (k 0 false) := by
  have ha' : -4611686018427387904 ≤ a ∧ a ≤ 4611686018427387904 := inR_iff.1 ha
  have hb' : -4611686018427387904 ≤ b ∧ b ≤ 4611686018427387904 := inR_iff.1 hb
  have hin : inR (a + b) = decide (-4611686018427387904 ≤ a + b ∧ a + b ≤ 4611686018427387904) := by
    unfold inR
    rw [← Bool.decide_and]
  rw [hin]
  have w3 : -4611686018427387904 ≤ a + b ∧ a + b ≤ 4611686018427387904 → IntKind.i64.wrap (a + b) = a + b := fun h => i64_in _ (by omega)
  unfold zq1c zq19
  by_cases h1 : 0 < a
  · refine (c_pos h1).trans ?_
    rw [i64_in (4611686018427387904 - a) (by omega)]
    by_cases h2 : 4611686018427387904 - a < b
    · refine (c_pos h2).trans ?_
      exact (c_neg (by omega)).symm
    · refine (c_neg h2).trans ?_
      refine (c_neg (by omega)).trans ?_
      rw [w3 (by omega)]
      exact (c_pos (by omega)).symm
  · refine (c_neg h1).trans ?_
    by_cases h2 : a < 0
    · refine (c_pos h2).trans ?_
      rw [i64_in (-4611686018427387904 - a) (by omega)]
      by_cases h3 : b < -4611686018427387904 - a
      · refine (c_pos h3).trans ?_
        exact (c_neg (by omega)).symm
      · refine (c_neg h3).trans ?_
        rw [w3 (by omega)]
        exact (c_pos (by omega)).symm
    · refine (c_neg h2).trans ?_
      rw [w3 (by omega)]
      exact (c_pos (by omega)).symm
end
end Go.Lift

/- The code's ratios: sums, products, quotients, which is less. -/
namespace Go.Lift
open Go.RowKit Go.IntWalk
noncomputable section
set_option linter.unusedVariables false
set_option linter.unusedSimpArgs false
set_option maxRecDepth 10000

theorem gcdI_gcd' {n d : Int} (hn : 0 ≤ n) (hd : 0 ≤ d) : gcdI n d = (Int.gcd n d : Int) := by
  have := gcdI_gcd (n := n) hd
  rwa [show (n.natAbs : Int) = n by omega] at this

theorem c_tt {β : Type} {p : Bool} {a b : Option β} (h : p = true) : cond p a b = a := by subst h; rfl
theorem c_ff {β : Type} {p : Bool} {a b : Option β} (h : p = false) : cond p a b = b := by subst h; rfl

structure VB (a : Rat2) : Prop where
  low : Low a
  d1 : 1 ≤ a.2
  d2 : a.2 ≤ 4611686018427387904
  n1 : -4611686018427387904 ≤ a.1
  n2 : a.1 ≤ 4611686018427387904

theorem vb {a : Rat2} (h : validQ a = true) : VB a := by
  obtain ⟨l, h1, h2, h3⟩ := validQ_iff.1 h
  exact ⟨l, l.den, h1, h2, h3⟩

theorem ratio_Add_eq {β : Type} (a b : Rat2) (k : Rat2 → Int → Option β) : zq65 a b k = k (addR a b).1 (addR a b).2 := by
  unfold zq65 zq62 addR
  refine (ratio_Valid_eq _ _).trans ?_
  cases va : validQ a with
  | false => rfl
  | true =>
    simp only [Bool.not_true, c_f, Bool.true_and]
    refine (ratio_Valid_eq _ _).trans ?_
    cases vb' : validQ b with
    | false => rfl
    | true =>
      simp only [Bool.not_true, c_f, if_true]
      have A := vb va
      have B := vb vb'
      have a1 := A.d1; have a2 := A.d2; have a3 := A.n1; have a4 := A.n2
      have b1 := B.d1; have b2 := B.d2; have b3 := B.n1; have b4 := B.n2
      refine (ratio_gcd_eq (by omega) (by omega) (by omega) _).trans ?_
      rw [gcdI_gcd' (by omega) (by omega)]
      have hg : 0 < (Int.gcd a.2 b.2 : Int) := gcd_pos' b1
      have q1 := quo_bd hg (Int.gcd_dvd_right ..) (M := 4611686018427387904) (n := b.2) (by omega) (by omega)
      have q2 := quo_bd hg (Int.gcd_dvd_left ..) (M := 4611686018427387904) (n := a.2) (by omega) (by omega)
      have p1 := quo_pos hg (Int.gcd_dvd_right ..) (n := b.2) (by omega)
      have p2 := quo_pos hg (Int.gcd_dvd_left ..) (n := a.2) (by omega)
      simp only [tdiv_gcdr, tdiv_gcdl, i64_in (b.2 / (Int.gcd a.2 b.2 : Int)) (by omega), i64_in (a.2 / (Int.gcd a.2 b.2 : Int)) (by omega)]
      have hg0 : ¬ ((Int.gcd a.2 b.2 : Int) = 0) := by omega
      have t1 : ∀ k : Int → Bool → Option β, zq4c a.1 (b.2 / (Int.gcd a.2 b.2 : Int)) k = cond (inR (sumX a b)) (k (sumX a b) true) (k 0 false) := fun k => ratio_times_eq ⟨a3, a4⟩ q1 k
      have t2 : ∀ k : Int → Bool → Option β, zq4c b.1 (a.2 / (Int.gcd a.2 b.2 : Int)) k = cond (inR (sumY a b)) (k (sumY a b) true) (k 0 false) := fun k => ratio_times_eq ⟨b3, b4⟩ q2 k
      have t3 : ∀ k : Int → Bool → Option β, zq4c (a.2 / (Int.gcd a.2 b.2 : Int)) b.2 k = cond (inR (sumD a b)) (k (sumD a b) true) (k 0 false) := fun k => ratio_times_eq q2 ⟨by simp only [RM]; omega, b2⟩ k
      simp only [t1, t2, t3, c_nneg hg0]
      by_cases h1 : inR (sumX a b) = true
      · refine (c_tt h1).trans ?_
        by_cases h2 : inR (sumY a b) = true
        · refine (c_tt h2).trans ?_
          by_cases h3 : inR (sumD a b) = true
          · refine (c_tt h3).trans ?_
            refine (c_ff rfl).trans ?_
            refine (c_ff rfl).trans ?_
            refine (c_ff rfl).trans ?_
            refine (ratio_plus_eq h1 h2 _).trans ?_
            by_cases h4 : inR (sumX a b + sumY a b) = true
            · refine (c_tt h4).trans ?_
              refine (c_ff rfl).trans ?_
              have hd1 := (sum_ok (a := a) (b := b) a1 b1).1
              have hd2 := inR_iff.1 h3
              refine (ratio_New_eq (inR_iff.1 h4) ⟨hd1, hd2.2⟩ _).trans ?_
              rw [gcdI_gcd (by omega), tdiv_gcdl, tdiv_gcdr, h1, h2, h3, h4]
              rfl
            · refine (c_ff (by simpa using h4)).trans ?_
              refine (c_tt rfl).trans ?_
              simp [h4]
          · refine (c_ff (by simpa using h3)).trans ?_
            refine (c_ff rfl).trans ?_
            refine (c_ff rfl).trans ?_
            refine (c_tt rfl).trans ?_
            simp [h3]
        · refine (c_ff (by simpa using h2)).trans ?_
          by_cases h3 : inR (sumD a b) = true
          · refine (c_tt h3).trans ?_
            refine (c_ff rfl).trans ?_
            refine (c_tt rfl).trans ?_
            simp [h2]
          · refine (c_ff (by simpa using h3)).trans ?_
            refine (c_ff rfl).trans ?_
            refine (c_tt rfl).trans ?_
            simp [h2]
      · refine (c_ff (by simpa using h1)).trans ?_
        by_cases h2 : inR (sumY a b) = true
        · refine (c_tt h2).trans ?_
          by_cases h3 : inR (sumD a b) = true
          · refine (c_tt h3).trans ?_
            refine (c_tt rfl).trans ?_
            simp [h1]
          · refine (c_ff (by simpa using h3)).trans ?_
            refine (c_tt rfl).trans ?_
            simp [h1]
        · refine (c_ff (by simpa using h2)).trans ?_
          by_cases h3 : inR (sumD a b) = true
          · refine (c_tt h3).trans ?_
            refine (c_tt rfl).trans ?_
            simp [h1]
          · refine (c_ff (by simpa using h3)).trans ?_
            refine (c_tt rfl).trans ?_
            simp [h1]

theorem ratio_product_eq {β : Type} {a b : Rat2} (A : VB a) (B : VB b) (k : Rat2 → Int → Option β) : zq4j a b k = k (prodR a b).1 (prodR a b).2 := by
  have a1 := A.d1; have a2 := A.d2; have a3 := A.n1; have a4 := A.n2
  have b1 := B.d1; have b2 := B.d2; have b3 := B.n1; have b4 := B.n2
  unfold zq4j zq4g prodR
  refine (ratio_size_eq (by omega) _).trans ?_
  refine (ratio_gcd_eq (by omega) (by omega) (by omega) _).trans ?_
  refine (ratio_size_eq (by omega) _).trans ?_
  refine (ratio_gcd_eq (by omega) (by omega) (by omega) _).trans ?_
  rw [gcdI_gcd (by omega), gcdI_gcd (by omega)]
  have hg : 0 < (Int.gcd a.1 b.2 : Int) := gcd_pos' b1
  have hh : 0 < (Int.gcd b.1 a.2 : Int) := gcd_pos' a1
  have q1 := quo_bd hg (Int.gcd_dvd_left ..) (M := 4611686018427387904) (n := a.1) (by omega) (by omega)
  have q2 := quo_bd hh (Int.gcd_dvd_left ..) (M := 4611686018427387904) (n := b.1) (by omega) (by omega)
  have q3 := quo_bd hh (Int.gcd_dvd_right ..) (M := 4611686018427387904) (n := a.2) (by omega) (by omega)
  have q4 := quo_bd hg (Int.gcd_dvd_right ..) (M := 4611686018427387904) (n := b.2) (by omega) (by omega)
  simp only [tdiv_gcdr, tdiv_gcdl, i64_in (a.1 / (Int.gcd a.1 b.2 : Int)) (by omega), i64_in (b.1 / (Int.gcd b.1 a.2 : Int)) (by omega), i64_in (a.2 / (Int.gcd b.1 a.2 : Int)) (by omega), i64_in (b.2 / (Int.gcd a.1 b.2 : Int)) (by omega)]
  have t1 : ∀ k : Int → Bool → Option β, zq4c (a.1 / (Int.gcd a.1 b.2 : Int)) (b.1 / (Int.gcd b.1 a.2 : Int)) k = cond (inR (prodQ a b).1) (k (prodQ a b).1 true) (k 0 false) := fun k => ratio_times_eq q1 q2 k
  have t2 : ∀ k : Int → Bool → Option β, zq4c (a.2 / (Int.gcd b.1 a.2 : Int)) (b.2 / (Int.gcd a.1 b.2 : Int)) k = cond (inR (prodQ a b).2) (k (prodQ a b).2 true) (k 0 false) := fun k => ratio_times_eq q3 q4 k
  simp only [t1, t2, c_nneg (show ¬ ((Int.gcd a.1 b.2 : Int) = 0) by omega), c_nneg (show ¬ ((Int.gcd b.1 a.2 : Int) = 0) by omega)]
  cases h1 : inR (prodQ a b).1 <;> cases h2 : inR (prodQ a b).2 <;> rfl

theorem ratio_Mul_eq {β : Type} (a b : Rat2) (k : Rat2 → Int → Option β) : zq6j a b k = k (mulR a b).1 (mulR a b).2 := by
  unfold zq6j zq6g mulR
  refine (ratio_Valid_eq _ _).trans ?_
  cases va : validQ a with
  | false => rfl
  | true =>
    refine (ratio_Valid_eq _ _).trans ?_
    cases vb' : validQ b with
    | false => rfl
    | true => exact ratio_product_eq (vb va) (vb vb') k

theorem inv_vb {b : Rat2} (B : VB b) (h : b.1 ≠ 0) : VB (invQ b) := by
  have b1 := B.d1; have b2 := B.d2; have b3 := B.n1; have b4 := B.n2
  refine ⟨invQ_low B.low h, (invQ_low B.low h).den, ?_, ?_, ?_⟩ <;> unfold invQ <;> split <;> simp only <;> omega

theorem ratio_Div_eq {β : Type} (a b : Rat2) (k : Rat2 → Int → Option β) : zq79 a b k = k (divR a b).1 (divR a b).2 := by
  unfold zq79 zq72 divR
  refine (ratio_Valid_eq _ _).trans ?_
  cases va : validQ a with
  | false => rfl
  | true =>
    refine (ratio_Valid_eq _ _).trans ?_
    cases vb' : validQ b with
    | false => rfl
    | true =>
      have B := vb vb'
      have b1 := B.d1; have b2 := B.d2; have b3 := B.n1; have b4 := B.n2
      simp only [Bool.not_true, Bool.and_self, if_true]
      unfold zq77 zq70 zq6z
      by_cases h0 : b.1 = 0
      · refine (c_pos h0).trans ?_
        rw [if_pos h0]
      · refine (c_neg h0).trans ?_
        rw [if_neg h0]
        unfold zq75 zq6x zq6w
        refine (ratio_size_eq (by omega) _).trans ?_
        have hI := inv_vb B h0
        by_cases hn : b.1 < 0
        · refine (c_pos hn).trans ?_
          have e : ((IntKind.i64.wrap (0 - b.2)), (b.1.natAbs : Int)) = invQ b := by
            unfold invQ
            rw [if_pos hn, i64_in _ (by omega)]
            exact Prod.ext (by simp only; omega) (by simp only; omega)
          rw [e]
          exact ratio_product_eq (vb va) hI _
        · refine (c_neg hn).trans ?_
          have e : (b.2, (b.1.natAbs : Int)) = invQ b := by
            unfold invQ
            rw [if_neg hn]
            exact Prod.ext rfl (by simp only; omega)
          rw [e]
          exact ratio_product_eq (vb va) hI _

theorem ratio_Sub_eq {β : Type} (a b : Rat2) (k : Rat2 → Int → Option β) : zq6c a b k = k (subR a b).1 (subR a b).2 := by
  unfold zq6c zq69 subR
  refine (ratio_Valid_eq _ _).trans ?_
  cases va : validQ a with
  | false => rfl
  | true =>
    refine (ratio_Valid_eq _ _).trans ?_
    cases vb' : validQ b with
    | false => rfl
    | true =>
      have B := vb vb'
      have b3 := B.n1; have b4 := B.n2
      simp only [Bool.not_true, Bool.and_self, if_true, c_f]
      rw [i64_in (0 - b.1) (by omega), show 0 - b.1 = -b.1 by omega]
      exact ratio_Add_eq _ _ _

theorem ratio_below_eq {β : Type} {a b c d : Int} (ha : 0 ≤ a ∧ a ≤ 4611686018427387904) (hb : 0 ≤ b ∧ b ≤ 4611686018427387904) (hc : 0 ≤ c ∧ c ≤ 4611686018427387904) (hd : 0 ≤ d ∧ d ≤ 4611686018427387904) (k : Bool → Option β) :
    zq4q a b c d k = k (decide (a * b < c * d)) := by
  obtain ⟨x, rfl⟩ := Int.eq_ofNat_of_zero_le ha.1
  obtain ⟨y, rfl⟩ := Int.eq_ofNat_of_zero_le hb.1
  obtain ⟨z, rfl⟩ := Int.eq_ofNat_of_zero_le hc.1
  obtain ⟨w, rfl⟩ := Int.eq_ofNat_of_zero_le hd.1
  unfold zq4q zq4n
  rw [u64_nat (by omega), u64_nat (by omega), u64_nat (by omega), u64_nat (by omega)]
  refine (mul64_eq (by omega) (by omega) _).trans ?_
  refine (mul64_eq (by omega) (by omega) _).trans ?_
  have h := @hilo_lt (x * y) (z * w)
  rw [← Int.natCast_mul, ← Int.natCast_mul]
  by_cases h1 : x * y / 18446744073709551616 < z * w / 18446744073709551616
  · refine (c_pos (by omega)).trans (k_eq ?_)
    exact (decide_eq_true (by have := h.1 (.inl h1); omega)).symm
  · refine (c_neg (by omega)).trans ?_
    by_cases h2 : x * y / 18446744073709551616 = z * w / 18446744073709551616
    · refine (c_pos (by omega)).trans (k_eq ?_)
      congr 1
      exact propext ⟨fun q => by have := h.1 (.inr ⟨h2, by omega⟩); omega, fun q => by
        rcases h.2 (by omega) with q1 | q1
        · exact absurd q1 h1
        · omega⟩
    · refine (c_neg (by omega)).trans (k_eq ?_)
      exact (decide_eq_false fun q => by
        rcases h.2 (by omega) with q1 | q1
        · exact h1 q1
        · exact h2 q1.1).symm
end
end Go.Lift

/- The examples of the chapter on ratios. -/
namespace Go.Lift
noncomputable section
set_option maxRecDepth 100000
theorem law02_sane_eq {β : Type} (k : Bool → Option β) : zqao k = k true := by kernel_rfl
end
end Go.Lift

/- The code's ratios: which is less; ratios that are drawn. -/
namespace Go.Lift
open Go.RowKit Go.IntWalk
noncomputable section
set_option linter.unusedVariables false
set_option linter.unusedSimpArgs false
set_option maxRecDepth 10000

theorem ratio_Less_eq {β : Type} (a b : Rat2) (k : Bool → Option β) : zq89 a b k = k (lessR a b) := by
  unfold zq89 zq80 lessR
  refine (ratio_Valid_eq _ _).trans ?_
  cases va : validQ a with
  | false => rfl
  | true =>
    refine (c_ff rfl).trans ?_
    refine (ratio_Valid_eq _ _).trans ?_
    cases vb' : validQ b with
    | false => rfl
    | true =>
      have A := vb va
      have B := vb vb'
      have a1 := A.d1; have a2 := A.d2; have a3 := A.n1; have a4 := A.n2
      have b1 := B.d1; have b2 := B.d2; have b3 := B.n1; have b4 := B.n2
      simp only [Bool.true_and]
      unfold zq87 zq7y zq7x
      refine (c_ff rfl).trans ?_
      by_cases ha : a.1 < 0
      · refine (c_pos ha).trans ?_
        unfold zq85 zq7v zq7u
        by_cases hb : b.1 < 0
        · refine (c_pos hb).trans ?_
          rw [i64_in (0 - b.1) (by omega), i64_in (0 - a.1) (by omega)]
          refine (ratio_below_eq (by omega) (by omega) (by omega) (by omega) _).trans (k_eq ?_)
          rw [show 0 - b.1 = -b.1 by omega, show 0 - a.1 = -a.1 by omega, Int.neg_mul, Int.neg_mul]
          congr 1
          exact propext ⟨fun h => by omega, fun h => by omega⟩
        · refine (c_neg hb).trans ?_
          refine (c_pos ha).trans (k_eq ?_)
          have h1 : a.1 * b.2 < 0 := Int.mul_neg_of_neg_of_pos ha (by omega)
          have h2 : 0 ≤ b.1 * a.2 := Int.mul_nonneg (by omega) (by omega)
          rw [decide_eq_true (show a.1 < b.1 by omega), decide_eq_true (show a.1 * b.2 < b.1 * a.2 by omega)]
      · refine (c_neg ha).trans ?_
        unfold zq85 zq7v zq7u
        refine (c_ff rfl).trans ?_
        refine (c_neg ha).trans ?_
        by_cases hb : b.1 < 0
        · refine (c_pos hb).trans (k_eq ?_)
          have h1 : b.1 * a.2 < 0 := Int.mul_neg_of_neg_of_pos hb (by omega)
          have h2 : 0 ≤ a.1 * b.2 := Int.mul_nonneg (by omega) (by omega)
          rw [decide_eq_false (show ¬ a.1 < b.1 by omega), decide_eq_false (show ¬ a.1 * b.2 < b.1 * a.2 by omega)]
        · refine (c_neg hb).trans ?_
          unfold zq83 zq7s zq7r
          exact ratio_below_eq (by omega) (by omega) (by omega) (by omega) _

/-- The remainder that is not negative. -/
def modI (x n : Int) : Int := Int.tmod (Int.tmod x n + n) n
theorem modI_bd (x : Int) {n : Int} (hn : 0 < n) : 0 ≤ modI x n ∧ modI x n < n := mod_bd x hn
theorem made_Mod_eq2 {β : Type} (x : Int) {n : Int} (hn : 0 < n) (hn2 : n ≤ 1000000) (k : Int → Option β) : zq5 x n k = k (modI x n) := by
  have h1 : Int.tmod x n < n := Int.tmod_lt_of_pos _ hn
  have h2 : -n < Int.tmod x n := by
    have := Int.tmod_lt_of_pos (-x) hn
    rw [Int.neg_tmod] at this
    omega
  unfold zq5 zq2
  rw [i64_in _ (by omega)]
  refine (c_nneg (by omega)).trans ?_
  exact c_nneg (by omega)

theorem ref02_New_red {β : Type} {num den : Int} (h : -4611686018427387904 ≤ num ∧ num ≤ 4611686018427387904) (hd : 1 ≤ den ∧ den ≤ 4611686018427387904) (k : Int × Int → Int → Option β) : zq45 num den k = k (redQ num den) 0 := by
  rw [ref02_New_eq h hd, gcdI_gcd (by omega), tdiv_gcdl, tdiv_gcdr]
  rfl
theorem redQ_valid {num den : Int} (h : -4611686018427387904 ≤ num ∧ num ≤ 4611686018427387904) (hd : 1 ≤ den ∧ den ≤ 4611686018427387904) : validQ (redQ num den) = true :=
  redQ_bd hd.1 (inR_iff.2 h) (inR_iff.2 ⟨by simp only [RM]; omega, hd.2⟩)

theorem draw_eq (n d : Int) : ∃ x : Rat2, validQ x = true ∧ ∀ (β : Type) (k : Rat2 → Option β), zq5b n d k = k x := by
  have m5 := modI_bd n (n := 5) (by decide)
  have m9 := modI_bd d (n := 9) (by decide)
  have m7 := modI_bd n (n := 7) (by decide)
  have m99 := modI_bd n (n := 99) (by decide)
  have m201 := modI_bd n (n := 201) (by decide)
  have m60 := modI_bd d (n := 60) (by decide)
  by_cases h0 : modI n 5 = 0
  · refine ⟨redQ (4611686018427387904 - modI d 9) (1 + modI n 7), redQ_valid (by omega) (by omega), fun β k => ?_⟩
    unfold zq5b zq58
    refine (made_Mod_eq2 _ (by decide) (by decide) _).trans ?_
    refine (c_pos h0).trans ?_
    refine (made_Mod_eq2 _ (by decide) (by decide) _).trans ?_
    refine (made_Mod_eq2 _ (by decide) (by decide) _).trans ?_
    rw [i64_in _ (by omega), i64_in _ (by omega)]
    exact ref02_New_red (by omega) (by omega) _
  · by_cases h1 : modI n 5 = 1
    · refine ⟨redQ (modI n 99 - 49) (4611686018427387904 - modI d 9), redQ_valid (by omega) (by omega), fun β k => ?_⟩
      unfold zq5b zq58
      refine (made_Mod_eq2 _ (by decide) (by decide) _).trans ?_
      refine (c_neg h0).trans ?_
      refine (c_pos h1).trans ?_
      refine (made_Mod_eq2 _ (by decide) (by decide) _).trans ?_
      refine (made_Mod_eq2 _ (by decide) (by decide) _).trans ?_
      rw [i64_in _ (by omega), i64_in _ (by omega)]
      exact ref02_New_red (by omega) (by omega) _
    · refine ⟨redQ (modI n 201 - 100) (1 + modI d 60), redQ_valid (by omega) (by omega), fun β k => ?_⟩
      unfold zq5b zq58
      refine (made_Mod_eq2 _ (by decide) (by decide) _).trans ?_
      refine (c_neg h0).trans ?_
      refine (c_neg h1).trans ?_
      refine (made_Mod_eq2 _ (by decide) (by decide) _).trans ?_
      refine (made_Mod_eq2 _ (by decide) (by decide) _).trans ?_
      rw [i64_in _ (by omega), i64_in _ (by omega)]
      exact ref02_New_red (by omega) (by omega) _
end
end Go.Lift

/- The reference's ratios compute the same. -/
namespace Go.Lift
open Go.RowKit Go.IntWalk
noncomputable section
set_option linter.unusedVariables false
set_option linter.unusedSimpArgs false
set_option maxRecDepth 10000

theorem ref02_Valid_eq {β : Type} (r : Int × Int) (k : Bool → Option β) : zq3r r k = k (validQ r) := by
  unfold zq3r zq3o validQ
  refine (ref02_in_eq _ _).trans ?_
  by_cases h3 : -4611686018427387904 ≤ r.1 ∧ r.1 ≤ 4611686018427387904
  · refine (c_pos h3).trans ?_
    rw [inR_iff.2 h3]
    by_cases h1 : 1 ≤ r.2
    · refine (c_pos h1).trans ?_
      by_cases h2 : r.2 ≤ 4611686018427387904
      · refine (c_pos h2).trans ?_
        refine (ref02_size_eq (by omega) _).trans ?_
        refine (ref02_gcd_eq (by omega) (by omega) (by omega) _).trans (k_eq ?_)
        rw [gcdI_gcd (by omega), decide_eq_true h1, decide_eq_true (show r.2 ≤ RM from h2)]
        simp only [Bool.true_and]
        congr 1
        exact propext ⟨fun h => by omega, fun h => by omega⟩
      · refine (c_neg h2).trans (k_eq ?_)
        rw [decide_eq_false (show ¬ r.2 ≤ RM from h2)]; simp
    · refine (c_neg h1).trans (k_eq ?_)
      rw [decide_eq_false h1]; simp
  · refine (c_neg h3).trans (k_eq ?_)
    have : inR r.1 = false := by
      cases h : inR r.1 with
      | false => rfl
      | true => exact absurd (inR_iff.1 h) h3
    rw [this]; simp

theorem ref02_product_eq {β : Type} {a b : Int} (ha : -RM ≤ a ∧ a ≤ RM) (hb : -RM ≤ b ∧ b ≤ RM) (k : Int → Bool → Option β) : zq4x a b k = cond (inR (a * b)) (k (a * b) true) (k 0 false) := by
  have ha' : -4611686018427387904 ≤ a ∧ a ≤ 4611686018427387904 := ha
  have hb' : -4611686018427387904 ≤ b ∧ b ≤ 4611686018427387904 := hb
  unfold zq4x zq4u
  by_cases h0 : a = 0
  · subst h0
    refine (c_pos rfl).trans ?_
    rw [Int.zero_mul]
    exact (c_tt (by decide)).symm
  · refine (c_neg h0).trans ?_
    by_cases h1 : b = 0
    · subst h1
      refine (c_pos rfl).trans ?_
      rw [Int.mul_zero]
      exact (c_tt (by decide)).symm
    · refine (c_neg h1).trans ?_
      refine (ref02_size_eq (by omega) _).trans ?_
      refine (ref02_size_eq (by omega) _).trans ?_
      refine (c_nneg (by omega)).trans ?_
      have hp := prod_limit (a := a) (b := b) (M := 4611686018427387904) h0 h1 (by decide)
      have hq0 : 0 ≤ (4611686018427387904 : Int) / (b.natAbs : Int) := Int.ediv_nonneg (by decide) (by omega)
      have hq1 : (4611686018427387904 : Int) / (b.natAbs : Int) ≤ 4611686018427387904 := Int.ediv_le_self _ (by decide)
      rw [Int.tdiv_eq_ediv_of_nonneg (by decide), i64_in ((4611686018427387904 : Int) / (b.natAbs : Int)) (by omega)]
      by_cases h2 : (4611686018427387904 : Int) / (b.natAbs : Int) < (a.natAbs : Int)
      · refine (c_pos h2).trans ?_
        refine (c_ff ?_).symm
        cases h : inR (a * b) with
        | false => rfl
        | true =>
          have h3 : -4611686018427387904 ≤ a * b ∧ a * b ≤ 4611686018427387904 := inR_iff.1 h
          exact absurd (show (a.natAbs : Int) > _ from h2) (hp.2 (by omega))
      · refine (c_neg h2).trans ?_
        have h3 := hp.1 (by omega)
        have h4 : inR (a * b) = true := inR_iff.2 ⟨by simp only [RM]; omega, by simp only [RM]; omega⟩
        rw [h4, i64_in _ (by omega)]
        rfl

theorem ref02_Add_eq {β : Type} (a b : Rat2) (k : Rat2 → Int → Option β) : zq8p a b k = k (addR a b).1 (addR a b).2 := by
  unfold zq8p zq8k addR
  refine (ref02_Valid_eq _ _).trans ?_
  cases va : validQ a with
  | false => rfl
  | true =>
    refine (c_ff rfl).trans ?_
    refine (ref02_Valid_eq _ _).trans ?_
    cases vb' : validQ b with
    | false => rfl
    | true =>
      refine (c_ff rfl).trans ?_
      simp only [Bool.true_and, if_true]
      have A := vb va
      have B := vb vb'
      have a1 := A.d1; have a2 := A.d2; have a3 := A.n1; have a4 := A.n2
      have b1 := B.d1; have b2 := B.d2; have b3 := B.n1; have b4 := B.n2
      refine (ref02_gcd_eq (by omega) (by omega) (by omega) _).trans ?_
      rw [gcdI_gcd' (by omega) (by omega)]
      have hg : 0 < (Int.gcd a.2 b.2 : Int) := gcd_pos' b1
      have q1 := quo_bd hg (Int.gcd_dvd_right ..) (M := 4611686018427387904) (n := b.2) (by omega) (by omega)
      have q2 := quo_bd hg (Int.gcd_dvd_left ..) (M := 4611686018427387904) (n := a.2) (by omega) (by omega)
      simp only [tdiv_gcdr, tdiv_gcdl, i64_in (b.2 / (Int.gcd a.2 b.2 : Int)) (by omega), i64_in (a.2 / (Int.gcd a.2 b.2 : Int)) (by omega)]
      have hg0 : ¬ ((Int.gcd a.2 b.2 : Int) = 0) := by omega
      have t1 : ∀ k : Int → Bool → Option β, zq4x a.1 (b.2 / (Int.gcd a.2 b.2 : Int)) k = cond (inR (sumX a b)) (k (sumX a b) true) (k 0 false) := fun k => ref02_product_eq ⟨a3, a4⟩ q1 k
      have t2 : ∀ k : Int → Bool → Option β, zq4x b.1 (a.2 / (Int.gcd a.2 b.2 : Int)) k = cond (inR (sumY a b)) (k (sumY a b) true) (k 0 false) := fun k => ref02_product_eq ⟨b3, b4⟩ q2 k
      have t3 : ∀ k : Int → Bool → Option β, zq4x (a.2 / (Int.gcd a.2 b.2 : Int)) b.2 k = cond (inR (sumD a b)) (k (sumD a b) true) (k 0 false) := fun k => ref02_product_eq q2 ⟨by simp only [RM]; omega, b2⟩ k
      simp only [t1, t2, t3, c_nneg hg0]
      by_cases h1 : inR (sumX a b) = true
      · refine (c_tt h1).trans ?_
        by_cases h2 : inR (sumY a b) = true
        · refine (c_tt h2).trans ?_
          by_cases h3 : inR (sumD a b) = true
          · refine (c_tt h3).trans ?_
            refine (c_ff rfl).trans ?_
            refine (c_ff rfl).trans ?_
            refine (c_ff rfl).trans ?_
            have x1 := (inR_iff.1 h1).1; have x2 := (inR_iff.1 h1).2
            have y1 := (inR_iff.1 h2).1; have y2 := (inR_iff.1 h2).2
            simp only [RM] at x1 x2 y1 y2
            have hd1 := (sum_ok (a := a) (b := b) a1 b1).1
            have hd2 := inR_iff.1 h3
            by_cases h4 : inR (sumX a b + sumY a b) = true
            · have s1 := (inR_iff.1 h4).1; have s2 := (inR_iff.1 h4).2
              simp only [RM] at s1 s2
              have fin : (zq8n (fun t5 t4 t42 => k (t4, t42) t5) (sumX a b) (sumY a b) (sumD a b) 0 0) = k (redQ (sumX a b + sumY a b) (sumD a b)) 0 := by
                unfold zq8n zq8i zq8h
                rw [i64_in _ (by omega)]
                exact ref02_New_red ⟨s1, s2⟩ ⟨hd1, hd2.2⟩ _
              have e : (if (inR (sumX a b) && (inR (sumY a b) && (inR (sumD a b) && inR (sumX a b + sumY a b)))) = true then ((redQ (sumX a b + sumY a b) (sumD a b), (0 : Int)) : Rat2 × Int) else ((0, 0), 5)) = (redQ (sumX a b + sumY a b) (sumD a b), 0) := if_pos (by rw [h1, h2, h3, h4]; rfl)
              rw [e]
              by_cases g1 : 0 < sumX a b
              · refine (c_pos g1).trans ?_
                rw [i64_in (4611686018427387904 - sumX a b) (by omega)]
                refine (c_neg (by omega)).trans ?_
                exact (c_neg (by omega)).trans fin
              · refine (c_neg g1).trans ?_
                by_cases g2 : sumX a b < 0
                · refine (c_pos g2).trans ?_
                  rw [i64_in (-4611686018427387904 - sumX a b) (by omega)]
                  exact (c_neg (by omega)).trans fin
                · exact (c_neg g2).trans fin
            · have e : (if (inR (sumX a b) && (inR (sumY a b) && (inR (sumD a b) && inR (sumX a b + sumY a b)))) = true then ((redQ (sumX a b + sumY a b) (sumD a b), (0 : Int)) : Rat2 × Int) else ((0, 0), 5)) = ((0, 0), 5) := if_neg (by simp [h4])
              rw [e]
              have s : ¬ (-4611686018427387904 ≤ sumX a b + sumY a b ∧ sumX a b + sumY a b ≤ 4611686018427387904) := fun h => h4 (inR_iff.2 h)
              by_cases g1 : 0 < sumX a b
              · refine (c_pos g1).trans ?_
                rw [i64_in (4611686018427387904 - sumX a b) (by omega)]
                exact c_pos (by omega)
              · refine (c_neg g1).trans ?_
                by_cases g2 : sumX a b < 0
                · refine (c_pos g2).trans ?_
                  rw [i64_in (-4611686018427387904 - sumX a b) (by omega)]
                  exact c_pos (by omega)
                · exact absurd ⟨by omega, by omega⟩ s
          · refine (c_ff (by simpa using h3)).trans ?_
            refine (c_ff rfl).trans ?_
            refine (c_ff rfl).trans ?_
            refine (c_tt rfl).trans ?_
            simp [h3]
        · refine (c_ff (by simpa using h2)).trans ?_
          by_cases h3 : inR (sumD a b) = true
          · refine (c_tt h3).trans ?_
            refine (c_ff rfl).trans ?_
            refine (c_tt rfl).trans ?_
            simp [h2]
          · refine (c_ff (by simpa using h3)).trans ?_
            refine (c_ff rfl).trans ?_
            refine (c_tt rfl).trans ?_
            simp [h2]
      · refine (c_ff (by simpa using h1)).trans ?_
        by_cases h2 : inR (sumY a b) = true
        · refine (c_tt h2).trans ?_
          by_cases h3 : inR (sumD a b) = true
          · refine (c_tt h3).trans ?_
            refine (c_tt rfl).trans ?_
            simp [h1]
          · refine (c_ff (by simpa using h3)).trans ?_
            refine (c_tt rfl).trans ?_
            simp [h1]
        · refine (c_ff (by simpa using h2)).trans ?_
          by_cases h3 : inR (sumD a b) = true
          · refine (c_tt h3).trans ?_
            refine (c_tt rfl).trans ?_
            simp [h1]
          · refine (c_ff (by simpa using h3)).trans ?_
            refine (c_tt rfl).trans ?_
            simp [h1]

theorem redQ_self {a : Rat2} (h : Low a) : redQ a.1 a.2 = a := by
  unfold redQ
  rw [h.cop]
  simp

theorem ref02_Mul_eq {β : Type} (a b : Rat2) (k : Rat2 → Int → Option β) : zq93 a b k = k (mulR a b).1 (mulR a b).2 := by
  unfold zq93 zq90 mulR
  refine (ref02_Valid_eq _ _).trans ?_
  cases va : validQ a with
  | false => rfl
  | true =>
    refine (c_ff rfl).trans ?_
    refine (ref02_Valid_eq _ _).trans ?_
    cases vb' : validQ b with
    | false => rfl
    | true =>
      refine (c_ff rfl).trans ?_
      simp only [Bool.and_self, if_true]
      have A := vb va
      have B := vb vb'
      have a1 := A.d1; have a2 := A.d2; have a3 := A.n1; have a4 := A.n2
      have b1 := B.d1; have b2 := B.d2; have b3 := B.n1; have b4 := B.n2
      refine (ref02_size_eq (by omega) _).trans ?_
      refine (ref02_gcd_eq (by omega) (by omega) (by omega) _).trans ?_
      refine (ref02_size_eq (by omega) _).trans ?_
      refine (ref02_gcd_eq (by omega) (by omega) (by omega) _).trans ?_
      rw [gcdI_gcd (by omega), gcdI_gcd (by omega)]
      have hg : 0 < (Int.gcd a.1 b.2 : Int) := gcd_pos' b1
      have hh : 0 < (Int.gcd b.1 a.2 : Int) := gcd_pos' a1
      have q1 := quo_bd hg (Int.gcd_dvd_left ..) (M := 4611686018427387904) (n := a.1) (by omega) (by omega)
      have q2 := quo_bd hh (Int.gcd_dvd_left ..) (M := 4611686018427387904) (n := b.1) (by omega) (by omega)
      have q3 := quo_bd hh (Int.gcd_dvd_right ..) (M := 4611686018427387904) (n := a.2) (by omega) (by omega)
      have q4 := quo_bd hg (Int.gcd_dvd_right ..) (M := 4611686018427387904) (n := b.2) (by omega) (by omega)
      simp only [tdiv_gcdr, tdiv_gcdl, i64_in (a.1 / (Int.gcd a.1 b.2 : Int)) (by omega), i64_in (b.1 / (Int.gcd b.1 a.2 : Int)) (by omega), i64_in (a.2 / (Int.gcd b.1 a.2 : Int)) (by omega), i64_in (b.2 / (Int.gcd a.1 b.2 : Int)) (by omega)]
      have t1 : ∀ k : Int → Bool → Option β, zq4x (a.1 / (Int.gcd a.1 b.2 : Int)) (b.1 / (Int.gcd b.1 a.2 : Int)) k = cond (inR (prodQ a b).1) (k (prodQ a b).1 true) (k 0 false) := fun k => ref02_product_eq q1 q2 k
      have t2 : ∀ k : Int → Bool → Option β, zq4x (a.2 / (Int.gcd b.1 a.2 : Int)) (b.2 / (Int.gcd a.1 b.2 : Int)) k = cond (inR (prodQ a b).2) (k (prodQ a b).2 true) (k 0 false) := fun k => ref02_product_eq q3 q4 k
      simp only [t1, t2, c_nneg (show ¬ ((Int.gcd a.1 b.2 : Int) = 0) by omega), c_nneg (show ¬ ((Int.gcd b.1 a.2 : Int) = 0) by omega)]
      have L := (prodQ_ok A.low B.low).1
      unfold prodR
      by_cases h1 : inR (prodQ a b).1 = true
      · refine (c_tt h1).trans ?_
        by_cases h2 : inR (prodQ a b).2 = true
        · refine (c_tt h2).trans ?_
          refine (c_ff rfl).trans ?_
          refine (c_ff rfl).trans ?_
          refine (ref02_New_red (inR_iff.1 h1) ⟨L.den, (inR_iff.1 h2).2⟩ _).trans ?_
          rw [redQ_self L, h1, h2]
          rfl
        · refine (c_ff (by simpa using h2)).trans ?_
          refine (c_ff rfl).trans ?_
          refine (c_tt rfl).trans ?_
          simp [h2]
      · refine (c_ff (by simpa using h1)).trans ?_
        by_cases h2 : inR (prodQ a b).2 = true
        · refine (c_tt h2).trans ?_
          refine (c_tt rfl).trans ?_
          simp [h1]
        · refine (c_ff (by simpa using h2)).trans ?_
          refine (c_tt rfl).trans ?_
          simp [h1]
end
end Go.Lift

/- RatioOrder: one of less, equal, greater; transitive; the order of the differences. -/
namespace Go.Lift
open Go.RowKit Go.IntWalk
noncomputable section
set_option linter.unusedVariables false
set_option maxRecDepth 10000

theorem eq2_iff (x y : Rat2) : (decide (x.1 = y.1) && (decide (x.2 = y.2) && true)) = decide (x = y) := by
  obtain ⟨x1, x2⟩ := x
  obtain ⟨y1, y2⟩ := y
  simp only [Bool.and_true, ← Bool.decide_and, Prod.mk.injEq]

end
end Go.Lift

/- The reference's ratios: differences, quotients, which is less, texts. -/
namespace Go.Lift
open Go.RowKit Go.IntWalk
noncomputable section
set_option linter.unusedVariables false
set_option linter.unusedSimpArgs false
set_option maxRecDepth 10000

theorem ref02_Sub_eq {β : Type} (a b : Rat2) (k : Rat2 → Int → Option β) : zq8w a b k = k (subR a b).1 (subR a b).2 := by
  unfold zq8w zq8t subR
  refine (ref02_Valid_eq _ _).trans ?_
  cases vb' : validQ b with
  | false =>
    refine (c_tt rfl).trans ?_
    simp
  | true =>
    refine (c_ff rfl).trans ?_
    have B := vb vb'
    have b3 := B.n1; have b4 := B.n2
    rw [i64_in (0 - b.1) (by omega), show 0 - b.1 = -b.1 by omega]
    refine (ref02_Add_eq _ _ _).trans ?_
    cases va : validQ a with
    | true => simp
    | false => simp [addR, va]

theorem validQ_of {a : Rat2} (A : VB a) : validQ a = true := validQ_iff.2 ⟨A.low, A.d2, A.n1, A.n2⟩

theorem ref02_Div_eq {β : Type} (a b : Rat2) (k : Rat2 → Int → Option β) : zq9a a b k = k (divR a b).1 (divR a b).2 := by
  unfold zq9a zq97 divR
  refine (ref02_Valid_eq _ _).trans ?_
  cases va : validQ a with
  | false => rfl
  | true =>
    refine (c_ff rfl).trans ?_
    refine (ref02_Valid_eq _ _).trans ?_
    cases vb' : validQ b with
    | false => rfl
    | true =>
      have B := vb vb'
      have b1 := B.d1; have b2 := B.d2; have b3 := B.n1; have b4 := B.n2
      refine (c_ff rfl).trans ?_
      simp only [Bool.and_self, if_true]
      by_cases h0 : b.1 = 0
      · refine (c_pos h0).trans ?_
        rw [if_pos h0]
      · refine (c_neg h0).trans ?_
        rw [if_neg h0]
        have hI := inv_vb B h0
        have hm : mulR a (invQ b) = prodR a (invQ b) := by unfold mulR; rw [va, validQ_of hI]; rfl
        by_cases hn : b.1 < 0
        · refine (c_pos hn).trans ?_
          have e : ((IntKind.i64.wrap (0 - b.2)), (IntKind.i64.wrap (0 - b.1))) = invQ b := by
            unfold invQ
            rw [if_pos hn, i64_in _ (by omega), i64_in _ (by omega)]
            exact Prod.ext (by simp only; omega) (by simp only; omega)
          rw [e]
          refine (ref02_Mul_eq _ _ _).trans ?_
          rw [hm]
        · refine (c_neg hn).trans ?_
          have e : (b.2, b.1) = invQ b := by
            unfold invQ
            rw [if_neg hn]
          rw [e]
          refine (ref02_Mul_eq _ _ _).trans ?_
          rw [hm]

theorem ref02_Less_eq {β : Type} (a b : Rat2) (k : Bool → Option β) : zqaa a b k = k (lessR a b) := by
  unfold zqaa zqa1 lessR
  refine (ref02_Valid_eq _ _).trans ?_
  cases va : validQ a with
  | false => rfl
  | true =>
    refine (c_ff rfl).trans ?_
    refine (ref02_Valid_eq _ _).trans ?_
    cases vb' : validQ b with
    | false => rfl
    | true =>
      have A := vb va
      have B := vb vb'
      have a1 := A.d1; have a2 := A.d2; have a3 := A.n1; have a4 := A.n2
      have b1 := B.d1; have b2 := B.d2; have b3 := B.n1; have b4 := B.n2
      simp only [Bool.true_and]
      unfold zqa8 zq9z zq9y
      refine (c_ff rfl).trans ?_
      by_cases ha : a.1 < 0
      · refine (c_pos ha).trans ?_
        unfold zqa6 zq9w zq9v
        by_cases hb : b.1 < 0
        · refine (c_pos hb).trans ?_
          rw [i64_in (0 - b.1) (by omega), i64_in (0 - a.1) (by omega)]
          refine (less_ok (by omega) (by omega) b1 b2 (by omega) (by omega) a1 a2 _).trans (k_eq ?_)
          rw [show 0 - b.1 = -b.1 by omega, show 0 - a.1 = -a.1 by omega, Int.neg_mul, Int.neg_mul]
          congr 1
          exact propext ⟨fun h => by omega, fun h => by omega⟩
        · refine (c_neg hb).trans ?_
          refine (c_pos ha).trans (k_eq ?_)
          have h1 : a.1 * b.2 < 0 := Int.mul_neg_of_neg_of_pos ha (by omega)
          have h2 : 0 ≤ b.1 * a.2 := Int.mul_nonneg (by omega) (by omega)
          rw [decide_eq_true (show a.1 < b.1 by omega), decide_eq_true (show a.1 * b.2 < b.1 * a.2 by omega)]
      · refine (c_neg ha).trans ?_
        unfold zqa6 zq9w zq9v
        refine (c_ff rfl).trans ?_
        refine (c_neg ha).trans ?_
        by_cases hb : b.1 < 0
        · refine (c_pos hb).trans (k_eq ?_)
          have h1 : b.1 * a.2 < 0 := Int.mul_neg_of_neg_of_pos hb (by omega)
          have h2 : 0 ≤ a.1 * b.2 := Int.mul_nonneg (by omega) (by omega)
          rw [decide_eq_false (show ¬ a.1 < b.1 by omega), decide_eq_false (show ¬ a.1 * b.2 < b.1 * a.2 by omega)]
        · refine (c_neg hb).trans ?_
          unfold zqa4 zq9t zq9s
          exact less_ok (by omega) (by omega) a1 a2 (by omega) (by omega) b1 b2 _

/-! ### Texts -/
theorem digit_str (m : Nat) (h : m < 10) : strOf [(IntKind.u8.wrap (IntKind.u64.wrap ((48 : Int) + (m : Int))))] = [UInt8.ofNat (48 + m)] := by
  rw [u64_mod, show ((48 : Int) + m) % 18446744073709551616 = 48 + m by omega, u8_in _ (by omega)]
  show [UInt8.ofNat (((48 : Int) + m).toNat)] = _
  rw [show ((48 : Int) + m).toNat = 48 + m by omega]

theorem nDig_le : ∀ (d u : Nat), u < 10 ^ d → 1 ≤ d → (Lib.decDigits u).length ≤ d
  | 0, u, _, h1 => absurd h1 (by decide)
  | d + 1, u, h, _ => by
    rw [Lib.decDigits]
    split
    · simp
    · rename_i h10
      cases d with
      | zero => exact absurd h h10
      | succ d =>
        have := nDig_le (d + 1) (u / 10) (by rw [Nat.pow_succ] at h; omega) (by omega)
        simp only [List.length_append, List.length_singleton]
        omega

theorem decLen {u : Nat} (h : u < 18446744073709551616) : (Lib.decDigits u).length ≤ 20 := nDig_le 20 u (by omega) (by decide)

theorem digits_n {β : Type} : ∀ (N u f : Nat), u ≤ N → u < 18446744073709551616 → N < f → ∀ k : List UInt8 → Option β, zq3a f (u : Int) k = k (Lib.decDigits u)
  | N, u, 0, _, _, h => absurd h (Nat.not_lt_zero _)
  | N, u, f + 1, hN, hu, hf => fun k => by
    rw [zq3c]
    unfold zq37
    refine (c_nneg (by decide)).trans ?_
    have hm : Int.tmod (u : Int) 10 = ((u % 10 : Nat) : Int) := by simp [Int.tmod]
    simp only [hm]
    rw [digit_str (u % 10) (by omega)]
    by_cases h : u < 10
    · refine (c_pos (by omega)).trans (k_eq ?_)
      rw [Lib.decDigits, dif_pos h, show u % 10 = u by omega]
    · refine (c_neg (by omega)).trans ?_
      refine (c_nneg (by decide)).trans ?_
      have hd : Int.tdiv (u : Int) 10 = ((u / 10 : Nat) : Int) := by simp [Int.tdiv]
      rw [hd, u64_nat (by omega)]
      refine (digits_n (N - 1) (u / 10) f (by omega) (by omega) (by omega) _).trans ?_
      have := decLen (u := u / 10) (by omega)
      refine (c_pos (by simp only [List.length_singleton]; omega)).trans (k_eq ?_)
      conv => rhs; rw [Lib.decDigits, dif_neg h]

theorem ref02_digits_eq {β : Type} {u : Nat} (hu : u < 18446744073709551616) (k : List UInt8 → Option β) : zq3d (u : Int) k = k (Lib.decDigits u) := by
  by_cases h : u < 18446744073709551615
  · exact digits_n u u fuel (Nat.le_refl _) hu (lt_fuel (by omega)) k
  · have : u = 18446744073709551615 := by omega
    subst this
    exact digits_n 18446744073709551615 _ fuel (Nat.le_refl _) hu (lt_fuel (by omega)) k

theorem ref02_Decimal_eq {β : Type} {n : Int} (h : -9223372036854775807 ≤ n ∧ n ≤ 9223372036854775807) (k : List UInt8 → Option β) : zq54 n k = k (Lib.itoa n) := by
  unfold zq54 zq51 Lib.itoa
  by_cases hn : n < 0
  · refine (c_pos hn).trans ?_
    rw [if_pos hn, i64_in (n + 1) (by omega), i64_in (0 - (n + 1)) (by omega), u64_mod, u64_mod, show ((0 - (n + 1)) % 18446744073709551616 + 1) % 18446744073709551616 = ((n.natAbs : Nat) : Int) by omega]
    refine (ref02_digits_eq (by omega) _).trans ?_
    have := decLen (u := n.natAbs) (by omega)
    exact c_pos (by simp only [List.length_singleton]; omega)
  · refine (c_neg hn).trans ?_
    rw [if_neg hn, u64_mod, show n % 18446744073709551616 = ((n.toNat : Nat) : Int) by omega]
    exact ref02_digits_eq (by omega) _

theorem itoaLen {n : Int} (h : -9223372036854775807 ≤ n ∧ n ≤ 9223372036854775807) : (Lib.itoa n).length ≤ 21 := by
  unfold Lib.itoa
  split
  · have := decLen (u := n.natAbs) (by omega)
    simp only [List.length_cons]
    omega
  · have := decLen (u := n.toNat) (by omega)
    omega

theorem strconv_Itoa_eq {β : Type} {n : Int} (h : -9223372036854775807 ≤ n ∧ n ≤ 9223372036854775807) (k : List UInt8 → Option β) : zqb n k = k (Lib.itoa n) := by
  unfold zqb itoaF
  rw [decide_eq_true (show -9223372036854775808 ≤ n by omega), decide_eq_true (show n ≤ 9223372036854775807 by omega)]
  rfl

/-- A ratio's text. -/
def textR (r : Rat2) : List UInt8 := if validQ r then (if r.2 = 1 then Lib.itoa r.1 else (Lib.itoa r.1 ++ [47]) ++ Lib.itoa r.2) else []

theorem ratio_Text_eq {β : Type} (r : Rat2) (k : List UInt8 → Option β) : zq5i r k = k (textR r) := by
  unfold zq5i zq5f textR
  refine (ratio_Valid_eq _ _).trans ?_
  cases va : validQ r with
  | false => rfl
  | true =>
    refine (c_ff rfl).trans ?_
    rw [if_pos rfl]
    have A := vb va
    have a1 := A.d1; have a2 := A.d2; have a3 := A.n1; have a4 := A.n2
    have l1 := itoaLen (n := r.1) (by omega)
    have l2 := itoaLen (n := r.2) (by omega)
    by_cases h : r.2 = 1
    · refine (c_pos h).trans ?_
      rw [if_pos h]
      exact strconv_Itoa_eq (by omega) _
    · refine (c_neg h).trans ?_
      rw [if_neg h]
      refine (strconv_Itoa_eq (by omega) _).trans ?_
      refine (c_pos (by simp only [List.length_singleton]; omega)).trans ?_
      refine (strconv_Itoa_eq (by omega) _).trans ?_
      exact c_pos (by simp only [List.length_append, List.length_singleton]; omega)

theorem ref02_Text_eq {β : Type} (r : Rat2) (k : List UInt8 → Option β) : zqah r k = k (textR r) := by
  unfold zqah zqae textR
  refine (ref02_Valid_eq _ _).trans ?_
  cases va : validQ r with
  | false => rfl
  | true =>
    refine (c_ff rfl).trans ?_
    rw [if_pos rfl]
    have A := vb va
    have a1 := A.d1; have a2 := A.d2; have a3 := A.n1; have a4 := A.n2
    have l1 := itoaLen (n := r.1) (by omega)
    have l2 := itoaLen (n := r.2) (by omega)
    by_cases h : r.2 = 1
    · refine (c_pos h).trans ?_
      rw [if_pos h]
      exact ref02_Decimal_eq (by omega) _
    · refine (c_neg h).trans ?_
      rw [if_neg h]
      refine (ref02_Decimal_eq (by omega) _).trans ?_
      refine (c_pos (by simp only [List.length_singleton]; omega)).trans ?_
      refine (ref02_Decimal_eq (by omega) _).trans ?_
      exact c_pos (by simp only [List.length_append, List.length_singleton]; omega)
end
end Go.Lift

/- RatioExact: the code's results are the reference's, for any ratios and numbers. -/
namespace Go.Lift
open Go.RowKit Go.IntWalk
noncomputable section
set_option linter.unusedVariables false
set_option linter.unusedSimpArgs false
set_option maxRecDepth 10000

theorem New_all {β : Type} (n d : Int) (k : Rat2 → Int → Option β) : zq3y n d k = k (newR n d).1 (newR n d).2 ∧ zq45 n d k = k (newR n d).1 (newR n d).2 := by
  unfold newR
  by_cases h1 : 1 ≤ d
  · by_cases h2 : d ≤ 4611686018427387904
    · by_cases h3 : -4611686018427387904 ≤ n ∧ n ≤ 4611686018427387904
      · rw [inR_iff.2 h3, decide_eq_true h1, decide_eq_true (show d ≤ RM from h2)]
        refine ⟨?_, ref02_New_red h3 ⟨h1, h2⟩ k⟩
        rw [ratio_New_eq h3 ⟨h1, h2⟩, gcdI_gcd (by omega), tdiv_gcdl, tdiv_gcdr]
        rfl
      · have hr : inR n = false := by
          cases h : inR n with
          | false => rfl
          | true => exact absurd (inR_iff.1 h) h3
        rw [hr]
        constructor
        · unfold zq3y zq3v
          refine (c_neg (by omega)).trans ?_
          refine (c_neg (by omega)).trans ?_
          refine (ratio_within_eq _ _).trans ?_
          exact c_nneg h3
        · unfold zq45 zq42
          refine (ref02_in_eq _ _).trans ?_
          exact c_nneg h3
    · have e : decide (d ≤ RM) = false := decide_eq_false h2
      rw [e]
      constructor
      · unfold zq3y zq3v
        refine (c_neg (by omega)).trans ?_
        refine (c_pos (by omega)).trans ?_
        simp
      · unfold zq45 zq42
        refine (ref02_in_eq _ _).trans ?_
        by_cases h3 : -4611686018427387904 ≤ n ∧ n ≤ 4611686018427387904
        · refine (c_npos h3).trans ?_
          refine (c_neg (by omega)).trans ?_
          refine (c_pos (by omega)).trans ?_
          simp
        · refine (c_nneg h3).trans ?_
          simp
  · rw [decide_eq_false h1]
    constructor
    · unfold zq3y zq3v
      refine (c_pos (by omega)).trans ?_
      simp
    · unfold zq45 zq42
      refine (ref02_in_eq _ _).trans ?_
      by_cases h3 : -4611686018427387904 ≤ n ∧ n ≤ 4611686018427387904
      · refine (c_npos h3).trans ?_
        refine (c_pos (by omega)).trans ?_
        simp
      · refine (c_nneg h3).trans ?_
        simp

theorem exact_step {β : Type} (f : Nat) (k1 : zqas β) (k2 : zqat β) (num den : Int) (a1 a2 a3 a4 a5 a6 a7 a8 b1 b2 b3 b4 b5 b6 b7 b8 i : Int) (h0 : 0 ≤ i) (h4 : i < 4) :
    zqb3 (f + 1) k1 k2 num den a1 a2 a3 a4 a5 a6 a7 a8 b1 b2 b3 b4 b5 b6 b7 b8 i = zqb3 f k1 k2 num den a1 a2 a3 a4 a5 a6 a7 a8 b1 b2 b3 b4 b5 b6 b7 b8 (i + 1) := by
  show zqax _ _ _ _ _ _ _ _ _ _ _ _ _ _ _ _ _ _ _ _ _ _ _ _ _ _ _ _ _ _ _ _ _ _ _ _ = _
  unfold zqax
  refine (c_pos h4).trans ?_
  refine (c_inb (by simp only [List.length_cons, List.length_nil]; omega)).trans ?_
  simp only
  generalize List.getD _ (Int.toNat i) _ = e
  refine (ratio_Add_eq _ _ _).trans ?_
  refine (ref02_Add_eq _ _ _).trans ?_
  refine (c_ff (by rw [eq2_iff]; simp)).trans ?_
  refine (c_ff (by simp)).trans ?_
  refine (ratio_Sub_eq _ _ _).trans ?_
  refine (ref02_Sub_eq _ _ _).trans ?_
  refine (c_ff (by rw [eq2_iff]; simp)).trans ?_
  refine (c_ff (by simp)).trans ?_
  refine (ratio_Mul_eq _ _ _).trans ?_
  refine (ref02_Mul_eq _ _ _).trans ?_
  refine (c_ff (by rw [eq2_iff]; simp)).trans ?_
  refine (c_ff (by simp)).trans ?_
  refine (ratio_Div_eq _ _ _).trans ?_
  refine (ref02_Div_eq _ _ _).trans ?_
  refine (c_ff (by rw [eq2_iff]; simp)).trans ?_
  refine (c_ff (by simp)).trans ?_
  refine (ratio_Less_eq _ _ _).trans ?_
  refine (ref02_Less_eq _ _ _).trans ?_
  refine (c_ff (by simp)).trans ?_
  refine (ratio_Valid_eq _ _).trans ?_
  refine (ref02_Valid_eq _ _).trans ?_
  refine (c_ff (by simp)).trans ?_
  refine (ratio_Text_eq _ _).trans ?_
  refine (ref02_Text_eq _ _).trans ?_
  refine (c_ff (by simp)).trans ?_
  rw [i64_in (i + 1) (by omega)]
  rfl

theorem exact_end {β : Type} (f : Nat) (k1 : zqas β) (k2 : zqat β) (num den : Int) (a1 a2 a3 a4 a5 a6 a7 a8 b1 b2 b3 b4 b5 b6 b7 b8 : Int) :
    zqb3 (f + 1) k1 k2 num den a1 a2 a3 a4 a5 a6 a7 a8 b1 b2 b3 b4 b5 b6 b7 b8 4 = k2 num den := by
  unfold zqb3 zqay zqax
  exact c_neg (by decide)

theorem law_exact02 {β : Type} (a b : Rat2) (num den : Int) (k : Bool → Option β) : zqb7 a b num den k = k true := by
  obtain ⟨x, hx, dx⟩ := draw_eq num den
  obtain ⟨y, hy, dy⟩ := draw_eq den num
  unfold zqb7 zqb0
  refine (dx _ _).trans ?_
  refine (dy _ _).trans ?_
  unfold zqb5
  rw [show fuel = 18446744073709551611 + 1 + 1 + 1 + 1 + 1 from rfl]
  refine (exact_step _ _ _ _ _ _ _ _ _ _ _ _ _ _ _ _ _ _ _ _ _ 0 (by decide) (by decide)).trans ?_
  refine (exact_step _ _ _ _ _ _ _ _ _ _ _ _ _ _ _ _ _ _ _ _ _ (0 + 1) (by decide) (by decide)).trans ?_
  refine (exact_step _ _ _ _ _ _ _ _ _ _ _ _ _ _ _ _ _ _ _ _ _ (0 + 1 + 1) (by decide) (by decide)).trans ?_
  refine (exact_step _ _ _ _ _ _ _ _ _ _ _ _ _ _ _ _ _ _ _ _ _ (0 + 1 + 1 + 1) (by decide) (by decide)).trans ?_
  refine (exact_end _ _ _ _ _ _ _ _ _ _ _ _ _ _ _ _ _ _ _ _ _).trans ?_
  refine (New_all _ _ _).1.trans ?_
  refine (New_all _ _ _).2.trans ?_
  refine (c_tt (by rw [eq2_iff]; simp)).trans ?_
  refine (c_pos rfl).trans ?_
  exact law02_sane_eq _
end
end Go.Lift

