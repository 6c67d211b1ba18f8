/- Part6: Fn0, LBase, LRatio, LRat, LRat2, LRat3, LRatFn, LRatFn2, LRatSane, LRatFn3, LRatOrder. -/
import Derived.Test.YtaecjejknbbndaaDoorProg
import Derived.KernelRfl
import Derived.Test.YtaecjejknbbndaaDoorPart5
namespace Go.Lift
open Go.Proofs
noncomputable section
set_option maxRecDepth 100000
set_option linter.unusedVariables false



def tab : List (Nat × TI) := [
  (3, ⟨false, 1, 8, [.int .i64 (0 : Int)], [], none, none, (some (.int .i64)), (some .i64), false, false, none, none⟩),
  (4, ⟨false, 1, 1, [.bool false], [], none, none, (some .bool), none, true, false, none, none⟩),
  (9, ⟨false, 1, 16, [.str ([] : List UInt8)], [], none, none, (some .str), none, false, true, none, none⟩),
  (24, ⟨true, 2, 16, [.int .i64 (0 : Int), .int .i64 (0 : Int)], [(0, 1, false), (1, 1, false)], none, none, (some (.prod (.int .i64) (.int .i64))), none, false, false, (some [.i, .i]), none⟩),
  (46, ⟨false, 1, 16, [.err true], [], none, none, (some .err), none, false, false, none, none⟩),
  (55, ⟨false, 1, 8, [.int .u64 (0 : Int)], [], none, none, (some (.int .u64)), (some .u64), false, false, none, none⟩)]

theorem tab_ok : TOk Tryd.prog (look tab) := TOk_of (by kernel_rfl)
theorem mixed : Tryd.prog.follows .mixedOrders = true := by kernel_rfl

/-- pagewatch/pagewatchmade.Mod -/
abbrev zq0 := {β : Type} → Int → Int → (Int → Option β) → Option β
def zq1 (c : zq0) : Spec :=
  ⟨[(false, [.data (.int .i64)]), (false, [.data (.int .i64)])], [], [(false, [.data (.int .i64)])], [], fun x k => c x.1.1.1 x.1.2.1.1 (fun r0 => k (((r0, ()), ()), ()))⟩
section
@[reducible] def made_Mod_X : Ctx := ⟨look tab, pick1 [], false, false, false⟩
def zq2 {β : Type} (x : Int) (n : Int) (k : (Int → Option β)) : Option β :=
  cond (!decide (n = 0))
  (cond (!decide (n = 0))
  (let t : Int := (Int.tmod (IntKind.i64.wrap ((Int.tmod x n) + n)) n);
  k t)
  none)
  none
theorem zq3 (hΓ : ΓOk Tryd.prog made_Mod_X.Γ) : SpecOk Tryd.prog 18 (zq1 (zq2)) :=
  spec_exec (X := made_Mod_X) (Λ := pick1 []) (rs := [.tmp 4]) (c := bodyOf Tryd.f18) mixed tab_ok hΓ Tryd.func18 (by kernel_rfl) (by kernel_rfl) (by kernel_rfl) (by kernel_rfl) CutsOk_nil (fun x k r h => Eq.trans (b := (zq1 (zq2)).run x k) (by kernel_rfl) h)
end
theorem zq4Γ : ΓOk Tryd.prog (pick1 []) := ΓOk_nil
def zq5 : zq0 := zq2
theorem zq6 : SpecOk Tryd.prog 18 (zq1 zq5) := zq3 zq4Γ

/-- strconv.Itoa -/
def zq7 : Shelf.Ren :=
      { 
      f := fun x =>
        match x with
        | 171 => 29
        | 243 => 46
        | 246 => 52
        | 283 => 59
        | 284 => 60
        | 285 => 61
        | 286 => 62
        | 129 => 71
        | 317 => 70
        | 318 => 72
        | 319 => 73
        | 320 => 74
        | 337 => 79
        | 338 => 80
        | n => n,
      t := fun x =>
        match x with
        | 3 => 3
        | 9 => 9
        | 2 => 2
        | 4 => 4
        | 171 => 69
        | 0 => 0
        | 53 => 55
        | 37 => 62
        | 5 => 5
        | 173 => 72
        | 212 => 82
        | 51 => 83
        | 20 => 20
        | 213 => 84
        | 46 => 68
        | 232 => 95
        | 233 => 96
        | n => n,
      g := fun x =>
        match x with
        | 17 => 3
        | 18 => 4
        | 19 => 5
        | n => n }
theorem zq8 : Go.Proofs.LaysM.n171 Tryd.prog zq7 :=
  { mixed := by kernel_rfl,
    f129 := Eq.trans Tryd.func71 (congrArg some (by kernel_rfl)),
    f171 := Eq.trans Tryd.func29 (congrArg some (by kernel_rfl)),
    f243 := Eq.trans Tryd.func46 (congrArg some (by kernel_rfl)),
    f246 := Eq.trans Tryd.func52 (congrArg some (by kernel_rfl)),
    f283 := Eq.trans Tryd.func59 (congrArg some (by kernel_rfl)),
    f284 := Eq.trans Tryd.func60 (congrArg some (by kernel_rfl)),
    f285 := Eq.trans Tryd.func61 (congrArg some (by kernel_rfl)),
    f286 := Eq.trans Tryd.func62 (congrArg some (by kernel_rfl)),
    f317 := Eq.trans Tryd.func70 (congrArg some (by kernel_rfl)),
    f318 := Eq.trans Tryd.func72 (congrArg some (by kernel_rfl)),
    f319 := Eq.trans Tryd.func73 (congrArg some (by kernel_rfl)),
    f320 := Eq.trans Tryd.func74 (congrArg some (by kernel_rfl)),
    f337 := Eq.trans Tryd.func79 (congrArg some (by kernel_rfl)),
    f338 := Eq.trans Tryd.func80 (congrArg some (by kernel_rfl)),
    t0 := Tryd.underlying0,
    a0 := Tryd.isAgg0,
    z0 := Tryd.sizeOf0,
    v0 := Tryd.zeroValue0,
    t2 := Tryd.underlying2,
    a2 := Tryd.isAgg2,
    z2 := Tryd.sizeOf2,
    v2 := Tryd.zeroValue2,
    t3 := Tryd.underlying3,
    a3 := Tryd.isAgg3,
    z3 := Tryd.sizeOf3,
    v3 := Tryd.zeroValue3,
    t4 := Tryd.underlying4,
    a4 := Tryd.isAgg4,
    z4 := Tryd.sizeOf4,
    v4 := Tryd.zeroValue4,
    t5 := Tryd.underlying5,
    a5 := Tryd.isAgg5,
    z5 := Tryd.sizeOf5,
    v5 := Tryd.zeroValue5,
    t9 := Tryd.underlying9,
    a9 := Tryd.isAgg9,
    z9 := Tryd.sizeOf9,
    v9 := Tryd.zeroValue9,
    t20 := Tryd.underlying20,
    a20 := Tryd.isAgg20,
    z20 := Tryd.sizeOf20,
    v20 := Tryd.zeroValue20,
    t37 := Tryd.underlying62,
    a37 := Tryd.isAgg62,
    z37 := Tryd.sizeOf62,
    v37 := Tryd.zeroValue62,
    t46 := Tryd.underlying68,
    a46 := Tryd.isAgg68,
    z46 := Tryd.sizeOf68,
    v46 := Tryd.zeroValue68,
    t51 := Tryd.underlying83,
    a51 := Tryd.isAgg83,
    z51 := Tryd.sizeOf83,
    v51 := Tryd.zeroValue83,
    t53 := Tryd.underlying55,
    a53 := Tryd.isAgg55,
    z53 := Tryd.sizeOf55,
    v53 := Tryd.zeroValue55,
    t171 := Tryd.underlying69,
    a171 := Tryd.isAgg69,
    z171 := Tryd.sizeOf69,
    v171 := Tryd.zeroValue69,
    t173 := Tryd.underlying72,
    a173 := Tryd.isAgg72,
    z173 := Tryd.sizeOf72,
    v173 := Tryd.zeroValue72,
    t212 := Tryd.underlying82,
    a212 := Tryd.isAgg82,
    z212 := Tryd.sizeOf82,
    v212 := Tryd.zeroValue82,
    t213 := Tryd.underlying84,
    a213 := Tryd.isAgg84,
    z213 := Tryd.sizeOf84,
    t232 := Tryd.underlying95,
    a232 := Tryd.isAgg95,
    z232 := Tryd.sizeOf95,
    v232 := Tryd.zeroValue95,
    t233 := Tryd.underlying96,
    a233 := Tryd.isAgg96,
    z233 := Tryd.sizeOf96,
    v233 := Tryd.zeroValue96,
    g17 := by kernel_rfl,
    g18 := by kernel_rfl,
    g19 := by kernel_rfl,
    i0 := by kernel_rfl,
    i2 := by kernel_rfl,
    i3 := by kernel_rfl,
    i4 := by kernel_rfl,
    i5 := by kernel_rfl,
    i9 := by kernel_rfl,
    i20 := by kernel_rfl,
    i37 := by kernel_rfl,
    i46 := by kernel_rfl,
    i51 := by kernel_rfl,
    i53 := by kernel_rfl,
    i171 := by kernel_rfl,
    i173 := by kernel_rfl,
    i212 := by kernel_rfl,
    i232 := by kernel_rfl,
    i233 := by kernel_rfl,
    m17 := by kernel_rfl,
    m18 := by kernel_rfl,
    m19 := by kernel_rfl }
abbrev zq9 := itoaT
def zqa (c : zq9) : Spec := itoaS c
def zqb : zq9 := fun x k => itoaF x k
theorem zqc : SpecOk Tryd.prog 29 (zqa zqb) :=
  itoa_ok zq8 rfl (g := 3) (by kernel_rfl) ⟨_, Tryd.func29, by kernel_rfl, by kernel_rfl⟩

/-- strings.Cut -/
def zqd : Shelf.Ren :=
      { 
      f := fun x =>
        match x with
        | 145 => 30
        | 220 => 47
        | 219 => 53
        | 217 => 63
        | 225 => 64
        | 224 => 65
        | 267 => 66
        | 266 => 75
        | 314 => 76
        | n => n,
      t := fun x =>
        match x with
        | 9 => 9
        | 4 => 4
        | 59 => 43
        | 3 => 3
        | 5 => 5
        | 46 => 68
        | 146 => 86
        | 51 => 83
        | n => n,
      g := fun x =>
        match x with
        | 1 => 0
        | n => n }
theorem zqe : Go.Proofs.Lays.n145 Tryd.prog zqd :=
  { mixed := by kernel_rfl,
    f145 := Eq.trans Tryd.func30 (congrArg some (by kernel_rfl)),
    f217 := Eq.trans Tryd.func63 (congrArg some (by kernel_rfl)),
    f219 := Eq.trans Tryd.func53 (congrArg some (by kernel_rfl)),
    f220 := Eq.trans Tryd.func47 (congrArg some (by kernel_rfl)),
    f224 := Eq.trans Tryd.func65 (congrArg some (by kernel_rfl)),
    f225 := Eq.trans Tryd.func64 (congrArg some (by kernel_rfl)),
    f266 := Eq.trans Tryd.func75 (congrArg some (by kernel_rfl)),
    f267 := Eq.trans Tryd.func66 (congrArg some (by kernel_rfl)),
    f314 := Eq.trans Tryd.func76 (congrArg some (by kernel_rfl)),
    t3 := Tryd.underlying3,
    a3 := Tryd.isAgg3,
    z3 := Tryd.sizeOf3,
    v3 := Tryd.zeroValue3,
    t4 := Tryd.underlying4,
    a4 := Tryd.isAgg4,
    z4 := Tryd.sizeOf4,
    v4 := Tryd.zeroValue4,
    t5 := Tryd.underlying5,
    a5 := Tryd.isAgg5,
    z5 := Tryd.sizeOf5,
    v5 := Tryd.zeroValue5,
    t9 := Tryd.underlying9,
    a9 := Tryd.isAgg9,
    z9 := Tryd.sizeOf9,
    v9 := Tryd.zeroValue9,
    t46 := Tryd.underlying68,
    a46 := Tryd.isAgg68,
    z46 := Tryd.sizeOf68,
    v46 := Tryd.zeroValue68,
    t51 := Tryd.underlying83,
    a51 := Tryd.isAgg83,
    z51 := Tryd.sizeOf83,
    v51 := Tryd.zeroValue83,
    t59 := Tryd.underlying43,
    a59 := Tryd.isAgg43,
    z59 := Tryd.sizeOf43,
    v59 := Tryd.zeroValue43,
    t146 := Tryd.underlying86,
    a146 := Tryd.isAgg86,
    z146 := Tryd.sizeOf86,
    v146 := Tryd.zeroValue86,
    g1 := by kernel_rfl }
abbrev zqf := cutT
def zqg (c : zqf) : Spec := cutS c
def zqh : zqf := fun x y k => cutF x y k
theorem zqi : SpecOk Tryd.prog 30 (zqg zqh) :=
  cut_ok zqe rfl (of_decide_eq_true (by kernel_rfl)) (fun w0 h0 => Go.Proofs.cell_of_shapedOpen_int (P := Tryd.prog) (g := 0) (t := 3) (zero := #[.int .i64 0]) h0 (of_decide_eq_true (by kernel_rfl)) (by kernel_rfl) rfl (by kernel_rfl) (by kernel_rfl) Tryd.underlying3) ⟨_, Tryd.func30, by kernel_rfl, by kernel_rfl⟩

/-- strconv.Atoi -/
def zqj : Shelf.Ren :=
      { 
      f := fun x =>
        match x with
        | 172 => 31
        | 244 => 48
        | 245 => 49
        | 247 => 54
        | 279 => 55
        | 280 => 56
        | 281 => 57
        | 282 => 58
        | 287 => 67
        | 316 => 68
        | 171 => 29
        | 205 => 69
        | 321 => 77
        | 322 => 78
        | 243 => 46
        | 246 => 52
        | 283 => 59
        | 284 => 60
        | 285 => 61
        | 286 => 62
        | 129 => 71
        | 317 => 70
        | 318 => 72
        | 319 => 73
        | 320 => 74
        | 337 => 79
        | 338 => 80
        | n => n,
      t := fun x =>
        match x with
        | 9 => 9
        | 3 => 3
        | 75 => 46
        | 76 => 47
        | 4 => 4
        | 5 => 5
        | 167 => 61
        | 37 => 62
        | 0 => 0
        | 85 => 63
        | 2 => 2
        | 168 => 65
        | 53 => 55
        | 175 => 75
        | 46 => 68
        | 210 => 79
        | 127 => 90
        | 145 => 93
        | 143 => 91
        | 21 => 21
        | 171 => 69
        | 173 => 72
        | 212 => 82
        | 51 => 83
        | 20 => 20
        | 213 => 84
        | 232 => 95
        | 233 => 96
        | 80 => 97
        | n => n,
      g := fun x =>
        match x with
        | 15 => 1
        | 16 => 2
        | 17 => 3
        | 18 => 4
        | 19 => 5
        | n => n }
theorem zqk : Go.Proofs.LaysC.n172 Tryd.prog zqj :=
  { mixed := by kernel_rfl,
    f129 := Eq.trans Tryd.func71 (congrArg some (by kernel_rfl)),
    f171 := Eq.trans Tryd.func29 (congrArg some (by kernel_rfl)),
    f172 := Eq.trans Tryd.func31 (congrArg some (by kernel_rfl)),
    f205 := Eq.trans Tryd.func69 (congrArg some (by kernel_rfl)),
    f243 := Eq.trans Tryd.func46 (congrArg some (by kernel_rfl)),
    f244 := Eq.trans Tryd.func48 (congrArg some (by kernel_rfl)),
    f245 := Eq.trans Tryd.func49 (congrArg some (by kernel_rfl)),
    f246 := Eq.trans Tryd.func52 (congrArg some (by kernel_rfl)),
    f247 := Eq.trans Tryd.func54 (congrArg some (by kernel_rfl)),
    f279 := Eq.trans Tryd.func55 (congrArg some (by kernel_rfl)),
    f280 := Eq.trans Tryd.func56 (congrArg some (by kernel_rfl)),
    f281 := Eq.trans Tryd.func57 (congrArg some (by kernel_rfl)),
    f282 := Eq.trans Tryd.func58 (congrArg some (by kernel_rfl)),
    f283 := Eq.trans Tryd.func59 (congrArg some (by kernel_rfl)),
    f284 := Eq.trans Tryd.func60 (congrArg some (by kernel_rfl)),
    f285 := Eq.trans Tryd.func61 (congrArg some (by kernel_rfl)),
    f286 := Eq.trans Tryd.func62 (congrArg some (by kernel_rfl)),
    f287 := Eq.trans Tryd.func67 (congrArg some (by kernel_rfl)),
    f316 := Eq.trans Tryd.func68 (congrArg some (by kernel_rfl)),
    f317 := Eq.trans Tryd.func70 (congrArg some (by kernel_rfl)),
    f318 := Eq.trans Tryd.func72 (congrArg some (by kernel_rfl)),
    f319 := Eq.trans Tryd.func73 (congrArg some (by kernel_rfl)),
    f320 := Eq.trans Tryd.func74 (congrArg some (by kernel_rfl)),
    f321 := Eq.trans Tryd.func77 (congrArg some (by kernel_rfl)),
    f322 := Eq.trans Tryd.func78 (congrArg some (by kernel_rfl)),
    f337 := Eq.trans Tryd.func79 (congrArg some (by kernel_rfl)),
    f338 := Eq.trans Tryd.func80 (congrArg some (by kernel_rfl)),
    t0 := Tryd.underlying0,
    a0 := Tryd.isAgg0,
    z0 := Tryd.sizeOf0,
    v0 := Tryd.zeroValue0,
    t2 := Tryd.underlying2,
    a2 := Tryd.isAgg2,
    z2 := Tryd.sizeOf2,
    v2 := Tryd.zeroValue2,
    t3 := Tryd.underlying3,
    a3 := Tryd.isAgg3,
    z3 := Tryd.sizeOf3,
    v3 := Tryd.zeroValue3,
    t4 := Tryd.underlying4,
    a4 := Tryd.isAgg4,
    z4 := Tryd.sizeOf4,
    v4 := Tryd.zeroValue4,
    t5 := Tryd.underlying5,
    a5 := Tryd.isAgg5,
    z5 := Tryd.sizeOf5,
    v5 := Tryd.zeroValue5,
    t9 := Tryd.underlying9,
    a9 := Tryd.isAgg9,
    z9 := Tryd.sizeOf9,
    v9 := Tryd.zeroValue9,
    t20 := Tryd.underlying20,
    a20 := Tryd.isAgg20,
    z20 := Tryd.sizeOf20,
    v20 := Tryd.zeroValue20,
    t21 := Tryd.underlying21,
    a21 := Tryd.isAgg21,
    z21 := Tryd.sizeOf21,
    v21 := Tryd.zeroValue21,
    t37 := Tryd.underlying62,
    a37 := Tryd.isAgg62,
    z37 := Tryd.sizeOf62,
    v37 := Tryd.zeroValue62,
    t46 := Tryd.underlying68,
    a46 := Tryd.isAgg68,
    z46 := Tryd.sizeOf68,
    v46 := Tryd.zeroValue68,
    t51 := Tryd.underlying83,
    a51 := Tryd.isAgg83,
    z51 := Tryd.sizeOf83,
    v51 := Tryd.zeroValue83,
    t53 := Tryd.underlying55,
    a53 := Tryd.isAgg55,
    z53 := Tryd.sizeOf55,
    v53 := Tryd.zeroValue55,
    t75 := Tryd.underlying46,
    a75 := Tryd.isAgg46,
    z75 := Tryd.sizeOf46,
    v75 := Tryd.zeroValue46,
    t76 := Tryd.underlying47,
    a76 := Tryd.isAgg47,
    z76 := Tryd.sizeOf47,
    v76 := Tryd.zeroValue47,
    t85 := Tryd.underlying63,
    a85 := Tryd.isAgg63,
    z85 := Tryd.sizeOf63,
    v85 := Tryd.zeroValue63,
    t127 := Tryd.underlying90,
    a127 := Tryd.isAgg90,
    z127 := Tryd.sizeOf90,
    v127 := Tryd.zeroValue90,
    t143 := Tryd.underlying91,
    a143 := Tryd.isAgg91,
    z143 := Tryd.sizeOf91,
    v143 := Tryd.zeroValue91,
    t145 := Tryd.underlying93,
    a145 := Tryd.isAgg93,
    z145 := Tryd.sizeOf93,
    v145 := Tryd.zeroValue93,
    t167 := Tryd.underlying61,
    a167 := Tryd.isAgg61,
    z167 := Tryd.sizeOf61,
    v167 := Tryd.zeroValue61,
    t168 := Tryd.underlying65,
    a168 := Tryd.isAgg65,
    z168 := Tryd.sizeOf65,
    v168 := Tryd.zeroValue65,
    t171 := Tryd.underlying69,
    a171 := Tryd.isAgg69,
    z171 := Tryd.sizeOf69,
    v171 := Tryd.zeroValue69,
    t173 := Tryd.underlying72,
    a173 := Tryd.isAgg72,
    z173 := Tryd.sizeOf72,
    v173 := Tryd.zeroValue72,
    t175 := Tryd.underlying75,
    a175 := Tryd.isAgg75,
    z175 := Tryd.sizeOf75,
    v175 := Tryd.zeroValue75,
    t210 := Tryd.underlying79,
    a210 := Tryd.isAgg79,
    z210 := Tryd.sizeOf79,
    v210 := Tryd.zeroValue79,
    t212 := Tryd.underlying82,
    a212 := Tryd.isAgg82,
    z212 := Tryd.sizeOf82,
    v212 := Tryd.zeroValue82,
    t213 := Tryd.underlying84,
    a213 := Tryd.isAgg84,
    z213 := Tryd.sizeOf84,
    t232 := Tryd.underlying95,
    a232 := Tryd.isAgg95,
    z232 := Tryd.sizeOf95,
    v232 := Tryd.zeroValue95,
    t233 := Tryd.underlying96,
    a233 := Tryd.isAgg96,
    z233 := Tryd.sizeOf96,
    v233 := Tryd.zeroValue96,
    g15 := by kernel_rfl,
    g16 := by kernel_rfl,
    g17 := by kernel_rfl,
    g18 := by kernel_rfl,
    g19 := by kernel_rfl,
    t80 := Tryd.underlying97,
    a80 := Tryd.isAgg97,
    z80 := Tryd.sizeOf97,
    v80 := Tryd.zeroValue97,
    i0 := by kernel_rfl,
    i2 := by kernel_rfl,
    i3 := by kernel_rfl,
    i4 := by kernel_rfl,
    i5 := by kernel_rfl,
    i9 := by kernel_rfl,
    i20 := by kernel_rfl,
    i21 := by kernel_rfl,
    i37 := by kernel_rfl,
    i46 := by kernel_rfl,
    i51 := by kernel_rfl,
    i53 := by kernel_rfl,
    i75 := by kernel_rfl,
    i76 := by kernel_rfl,
    i80 := by kernel_rfl,
    i85 := by kernel_rfl,
    i127 := by kernel_rfl,
    i143 := by kernel_rfl,
    i145 := by kernel_rfl,
    i167 := by kernel_rfl,
    i168 := by kernel_rfl,
    i171 := by kernel_rfl,
    i173 := by kernel_rfl,
    i175 := by kernel_rfl,
    i210 := by kernel_rfl,
    i212 := by kernel_rfl,
    i232 := by kernel_rfl,
    i233 := by kernel_rfl,
    m15 := by kernel_rfl,
    m16 := by kernel_rfl,
    m17 := by kernel_rfl,
    m18 := by kernel_rfl,
    m19 := by kernel_rfl,
    c0 := by kernel_rfl,
    c2 := by kernel_rfl,
    c3 := by kernel_rfl,
    c4 := by kernel_rfl,
    c5 := by kernel_rfl,
    c9 := by kernel_rfl,
    c20 := by kernel_rfl,
    c21 := by kernel_rfl,
    c37 := by kernel_rfl,
    c46 := by kernel_rfl,
    c51 := by kernel_rfl,
    c53 := by kernel_rfl,
    c75 := by kernel_rfl,
    c76 := by kernel_rfl,
    c80 := by kernel_rfl,
    c85 := by kernel_rfl,
    c127 := by kernel_rfl,
    c143 := by kernel_rfl,
    c145 := by kernel_rfl,
    c167 := by kernel_rfl,
    c168 := by kernel_rfl,
    c171 := by kernel_rfl,
    c173 := by kernel_rfl,
    c175 := by kernel_rfl,
    c210 := by kernel_rfl,
    c212 := by kernel_rfl,
    c213 := by kernel_rfl,
    c232 := by kernel_rfl,
    c233 := by kernel_rfl }
abbrev zql := atoiT
def zqm (c : zql) : Spec := atoiS c
def zqn : zql := fun x k => atoiF x k
theorem zqo : SpecOk Tryd.prog 31 (zqm zqn) :=
  atoi_ok zqk rfl (by kernel_rfl) (by kernel_rfl) ⟨_, Tryd.func31, by kernel_rfl, by kernel_rfl⟩

/-- pagewatch/ratio.gcd -/
abbrev zqp := {β : Type} → Int → Int → (Int → Option β) → Option β
def zqq (c : zqp) : Spec :=
  ⟨[(false, [.data (.int .i64)]), (false, [.data (.int .i64)])], [], [(false, [.data (.int .i64)])], [], fun x k => c x.1.1.1 x.1.2.1.1 (fun r0 => k (((r0, ()), ()), ()))⟩
noncomputable def ratio_gcd_p1_code : Code := codeAt 12 (bodyOf Tryd.f33)
abbrev zqr (β : Type) := Int → Option β
abbrev zqs := {β : Type} → zqr β → Int → Int → Option β
def zqt : View := ⟨0, [0, 1], [(false, [.data (.int .i64)]), (false, [.data (.int .i64)])], []⟩
def zqu : List (AExit × View) := [(.exit 0, ⟨0, [0], [(false, [.data (.int .i64)])], []⟩)]
@[reducible] def ratio_gcd_p1_G (p : zqs) {β : Type} (d : zqt.den) (ks : Outs.K β zqu) : Option β :=
  p (fun a0 => ks.1 (((a0, ()), ()), ())) d.1.1.1 d.1.2.1.1
section
@[reducible] def ratio_gcd_X : Ctx := ⟨look tab, pick1 [], false, false, false⟩
def zqv {β : Type} (rec : Int → Int → Option β) (k1 : zqr β) (a : Int) (b : Int) : Option β :=
  cond (!decide (b = (0 : Int)))
  (cond (!decide (b = 0))
  (rec b (Int.tmod a b))
  none)
  (k1 a)
def zqw {β : Type} : Nat → zqr β → Int → Int → Option β
  | 0 => fun _ _ _ => none
  | i + 1 => fun k1 a b => zqv (zqw i k1) k1 a b
theorem zqx (hΓ : ΓOk Tryd.prog ratio_gcd_X.Γ) (i : Nat) : PieceOk Tryd.prog 12 0 ratio_gcd_p1_code zqt zqu (ratio_gcd_p1_G (zqw i)) := by
  rw [show ratio_gcd_p1_code = .loop (loopBody ratio_gcd_p1_code) by kernel_rfl]
  exact piece_loop (X := ratio_gcd_X) (p := 1) (Λ := pick1 []) (G := fun i => @fun β d ks => ratio_gcd_p1_G (zqw i) d ks) mixed tab_ok hΓ rfl (by kernel_rfl) CutsOk_nil (fun _ _ => rfl) (fun i => @fun β d ks r h => Eq.trans (b := ratio_gcd_p1_G (zqw (i + 1)) d ks) (by kernel_rfl) h) i
def zqy (p1 : zqs) {β : Type} (a : Int) (b : Int) (k : (Int → Option β)) : Option β :=
  p1 (fun (a2 : Int) =>
  k a2) a b
theorem zqz (hΓ : ΓOk Tryd.prog ratio_gcd_X.Γ) (p1 : zqs) (hp1 : PieceOk Tryd.prog 12 0 ratio_gcd_p1_code zqt zqu (ratio_gcd_p1_G p1)) : SpecOk Tryd.prog 33 (zqq (zqy p1)) :=
  spec_exec (X := ratio_gcd_X) (Λ := pick1 [(12, pieceCut zqt zqu (ratio_gcd_p1_G p1))]) (rs := [.tmp 4]) (c := bodyOf Tryd.f33) mixed tab_ok hΓ Tryd.func33 (by kernel_rfl) (by kernel_rfl) (by kernel_rfl) (by kernel_rfl) (CutsOk_cons (q := 12) (c' := ratio_gcd_p1_code) (by kernel_rfl) rfl hp1 CutsOk_nil) (fun x k r h => Eq.trans (b := (zqq (zqy p1)).run x k) (by kernel_rfl) h)
end
theorem zq10Γ : ΓOk Tryd.prog (pick1 []) := ΓOk_nil
def zq11 (m : Nat) : zqs := zqw m
theorem zq12 {β : Type} (i : Nat) (k1 a b) : (zq11 (i + 1) k1 a b : Option β) = zqv (zq11 i k1) k1 a b := rfl
def zq13 : zqs := zq11 fuel
theorem zq14 : PieceOk Tryd.prog 12 0 ratio_gcd_p1_code zqt zqu (ratio_gcd_p1_G zq13) := zqx zq10Γ fuel
def zq15 : zqp := zqy zq13
theorem zq16 : SpecOk Tryd.prog 33 (zqq zq15) := zqz zq10Γ zq13 zq14

/-- pagewatch/ratio.plus -/
abbrev zq17 := {β : Type} → Int → Int → (Int → Bool → Option β) → Option β
def zq18 (c : zq17) : Spec :=
  ⟨[(false, [.data (.int .i64)]), (false, [.data (.int .i64)])], [], [(false, [.data (.int .i64)]), (false, [.data .bool])], [], fun x k => c x.1.1.1 x.1.2.1.1 (fun r0 r1 => k (((r0, ()), (r1, ()), ()), ()))⟩
section
@[reducible] def ratio_plus_X : Ctx := ⟨look tab, pick1 [], false, false, false⟩
def zq19 {β : Type} (a : Int) (b : Int) (k : (Int → Bool → Option β)) : Option β :=
  cond (decide ((0 : Int) < a))
  (cond (decide ((IntKind.i64.wrap ((4611686018427387904 : Int) - a)) < b))
  (k (0 : Int) false)
  (cond (decide (a < (0 : Int)))
  (cond (decide (b < (IntKind.i64.wrap ((-4611686018427387904 : Int) - a))))
  (k (0 : Int) false)
  (let t : Int := (IntKind.i64.wrap (a + b));
  k t true))
  (let t : Int := (IntKind.i64.wrap (a + b));
  k t true)))
  (cond (decide (a < (0 : Int)))
  (cond (decide (b < (IntKind.i64.wrap ((-4611686018427387904 : Int) - a))))
  (k (0 : Int) false)
  (let t : Int := (IntKind.i64.wrap (a + b));
  k t true))
  (let t : Int := (IntKind.i64.wrap (a + b));
  k t true))
theorem zq1a (hΓ : ΓOk Tryd.prog ratio_plus_X.Γ) : SpecOk Tryd.prog 35 (zq18 (zq19)) :=
  spec_exec (X := ratio_plus_X) (Λ := pick1 []) (rs := [.tmp 4, .tmp 5]) (c := bodyOf Tryd.f35) mixed tab_ok hΓ Tryd.func35 (by kernel_rfl) (by kernel_rfl) (by kernel_rfl) (by kernel_rfl) CutsOk_nil (fun x k r h => Eq.trans (b := (zq18 (zq19)).run x k) (by kernel_rfl) h)
end
theorem zq1bΓ : ΓOk Tryd.prog (pick1 []) := ΓOk_nil
def zq1c : zq17 := zq19
theorem zq1d : SpecOk Tryd.prog 35 (zq18 zq1c) := zq1a zq1bΓ

/-- pagewatch/ratio.within -/
abbrev zq1e := {β : Type} → Int → (Bool → Option β) → Option β
def zq1f (c : zq1e) : Spec :=
  ⟨[(false, [.data (.int .i64)])], [], [(false, [.data .bool])], [], fun x k => c x.1.1.1 (fun r0 => k (((r0, ()), ()), ()))⟩
section
@[reducible] def ratio_within_X : Ctx := ⟨look tab, pick1 [], false, false, false⟩
def zq1g {β : Type} (n : Int) (k : (Bool → Option β)) : Option β :=
  cond (decide ((-4611686018427387904 : Int) ≤ n))
  (let t : Bool := (decide (n ≤ (4611686018427387904 : Int)));
  k t)
  (k false)
theorem zq1h (hΓ : ΓOk Tryd.prog ratio_within_X.Γ) : SpecOk Tryd.prog 36 (zq1f (zq1g)) :=
  spec_exec (X := ratio_within_X) (Λ := pick1 []) (rs := [.tmp 2]) (c := bodyOf Tryd.f36) mixed tab_ok hΓ Tryd.func36 (by kernel_rfl) (by kernel_rfl) (by kernel_rfl) (by kernel_rfl) CutsOk_nil (fun x k r h => Eq.trans (b := (zq1f (zq1g)).run x k) (by kernel_rfl) h)
end
theorem zq1iΓ : ΓOk Tryd.prog (pick1 []) := ΓOk_nil
def zq1j : zq1e := zq1g
theorem zq1k : SpecOk Tryd.prog 36 (zq1f zq1j) := zq1h zq1iΓ

/-- pagewatch/ratio.size -/
abbrev zq1l := {β : Type} → Int → (Int → Option β) → Option β
def zq1m (c : zq1l) : Spec :=
  ⟨[(false, [.data (.int .i64)])], [], [(false, [.data (.int .i64)])], [], fun x k => c x.1.1.1 (fun r0 => k (((r0, ()), ()), ()))⟩
section
@[reducible] def ratio_size_X : Ctx := ⟨look tab, pick1 [], false, false, false⟩
def zq1n {β : Type} (n : Int) (k : (Int → Option β)) : Option β :=
  cond (decide (n < (0 : Int)))
  (let t : Int := (IntKind.i64.wrap (0 - n));
  k t)
  (k n)
theorem zq1o (hΓ : ΓOk Tryd.prog ratio_size_X.Γ) : SpecOk Tryd.prog 37 (zq1m (zq1n)) :=
  spec_exec (X := ratio_size_X) (Λ := pick1 []) (rs := [.tmp 2]) (c := bodyOf Tryd.f37) mixed tab_ok hΓ Tryd.func37 (by kernel_rfl) (by kernel_rfl) (by kernel_rfl) (by kernel_rfl) CutsOk_nil (fun x k r h => Eq.trans (b := (zq1m (zq1n)).run x k) (by kernel_rfl) h)
end
theorem zq1pΓ : ΓOk Tryd.prog (pick1 []) := ΓOk_nil
def zq1q : zq1l := zq1n
theorem zq1r : SpecOk Tryd.prog 37 (zq1m zq1q) := zq1o zq1pΓ

/-- pagewatch/pagewatchref02.gcd -/
abbrev zq1s := {β : Type} → Int → Int → (Int → Option β) → Option β
def zq1t (c : zq1s) : Spec :=
  ⟨[(false, [.data (.int .i64)]), (false, [.data (.int .i64)])], [], [(false, [.data (.int .i64)])], [], fun x k => c x.1.1.1 x.1.2.1.1 (fun r0 => k (((r0, ()), ()), ()))⟩
noncomputable def ref02_gcd_p1_code : Code := codeAt 12 (bodyOf Tryd.f40)
abbrev zq1u (β : Type) := Int → Option β
abbrev zq1v := {β : Type} → zq1u β → Int → Int → Option β
def zq1w : View := ⟨0, [0, 1], [(false, [.data (.int .i64)]), (false, [.data (.int .i64)])], []⟩
def zq1x : List (AExit × View) := [(.exit 0, ⟨0, [0], [(false, [.data (.int .i64)])], []⟩)]
@[reducible] def ref02_gcd_p1_G (p : zq1v) {β : Type} (d : zq1w.den) (ks : Outs.K β zq1x) : Option β :=
  p (fun a0 => ks.1 (((a0, ()), ()), ())) d.1.1.1 d.1.2.1.1
section
@[reducible] def ref02_gcd_X : Ctx := ⟨look tab, pick1 [], false, false, false⟩
def zq1y {β : Type} (rec : Int → Int → Option β) (k1 : zq1u β) (a : Int) (b : Int) : Option β :=
  cond (!decide (b = (0 : Int)))
  (cond (!decide (b = 0))
  (rec b (Int.tmod a b))
  none)
  (k1 a)
def zq1z {β : Type} : Nat → zq1u β → Int → Int → Option β
  | 0 => fun _ _ _ => none
  | i + 1 => fun k1 a b => zq1y (zq1z i k1) k1 a b
theorem zq20 (hΓ : ΓOk Tryd.prog ref02_gcd_X.Γ) (i : Nat) : PieceOk Tryd.prog 12 0 ref02_gcd_p1_code zq1w zq1x (ref02_gcd_p1_G (zq1z i)) := by
  rw [show ref02_gcd_p1_code = .loop (loopBody ref02_gcd_p1_code) by kernel_rfl]
  exact piece_loop (X := ref02_gcd_X) (p := 1) (Λ := pick1 []) (G := fun i => @fun β d ks => ref02_gcd_p1_G (zq1z i) d ks) mixed tab_ok hΓ rfl (by kernel_rfl) CutsOk_nil (fun _ _ => rfl) (fun i => @fun β d ks r h => Eq.trans (b := ref02_gcd_p1_G (zq1z (i + 1)) d ks) (by kernel_rfl) h) i
def zq21 (p1 : zq1v) {β : Type} (a : Int) (b : Int) (k : (Int → Option β)) : Option β :=
  p1 (fun (a2 : Int) =>
  k a2) a b
theorem zq22 (hΓ : ΓOk Tryd.prog ref02_gcd_X.Γ) (p1 : zq1v) (hp1 : PieceOk Tryd.prog 12 0 ref02_gcd_p1_code zq1w zq1x (ref02_gcd_p1_G p1)) : SpecOk Tryd.prog 40 (zq1t (zq21 p1)) :=
  spec_exec (X := ref02_gcd_X) (Λ := pick1 [(12, pieceCut zq1w zq1x (ref02_gcd_p1_G p1))]) (rs := [.tmp 4]) (c := bodyOf Tryd.f40) mixed tab_ok hΓ Tryd.func40 (by kernel_rfl) (by kernel_rfl) (by kernel_rfl) (by kernel_rfl) (CutsOk_cons (q := 12) (c' := ref02_gcd_p1_code) (by kernel_rfl) rfl hp1 CutsOk_nil) (fun x k r h => Eq.trans (b := (zq1t (zq21 p1)).run x k) (by kernel_rfl) h)
end
theorem zq23Γ : ΓOk Tryd.prog (pick1 []) := ΓOk_nil
def zq24 (m : Nat) : zq1v := zq1z m
theorem zq25 {β : Type} (i : Nat) (k1 a b) : (zq24 (i + 1) k1 a b : Option β) = zq1y (zq24 i k1) k1 a b := rfl
def zq26 : zq1v := zq24 fuel
theorem zq27 : PieceOk Tryd.prog 12 0 ref02_gcd_p1_code zq1w zq1x (ref02_gcd_p1_G zq26) := zq20 zq23Γ fuel
def zq28 : zq1s := zq21 zq26
theorem zq29 : SpecOk Tryd.prog 40 (zq1t zq28) := zq22 zq23Γ zq26 zq27

/-- pagewatch/pagewatchref02.size -/
abbrev zq2a := {β : Type} → Int → (Int → Option β) → Option β
def zq2b (c : zq2a) : Spec :=
  ⟨[(false, [.data (.int .i64)])], [], [(false, [.data (.int .i64)])], [], fun x k => c x.1.1.1 (fun r0 => k (((r0, ()), ()), ()))⟩
section
@[reducible] def ref02_size_X : Ctx := ⟨look tab, pick1 [], false, false, false⟩
def zq2c {β : Type} (n : Int) (k : (Int → Option β)) : Option β :=
  cond (decide (n < (0 : Int)))
  (let t : Int := (IntKind.i64.wrap (0 - n));
  k t)
  (k n)
theorem zq2d (hΓ : ΓOk Tryd.prog ref02_size_X.Γ) : SpecOk Tryd.prog 42 (zq2b (zq2c)) :=
  spec_exec (X := ref02_size_X) (Λ := pick1 []) (rs := [.tmp 2]) (c := bodyOf Tryd.f42) mixed tab_ok hΓ Tryd.func42 (by kernel_rfl) (by kernel_rfl) (by kernel_rfl) (by kernel_rfl) CutsOk_nil (fun x k r h => Eq.trans (b := (zq2b (zq2c)).run x k) (by kernel_rfl) h)
end
theorem zq2eΓ : ΓOk Tryd.prog (pick1 []) := ΓOk_nil
def zq2f : zq2a := zq2c
theorem zq2g : SpecOk Tryd.prog 42 (zq2b zq2f) := zq2d zq2eΓ

/-- pagewatch/pagewatchref02.in -/
abbrev zq2h := {β : Type} → Int → (Bool → Option β) → Option β
def zq2i (c : zq2h) : Spec :=
  ⟨[(false, [.data (.int .i64)])], [], [(false, [.data .bool])], [], fun x k => c x.1.1.1 (fun r0 => k (((r0, ()), ()), ()))⟩
section
@[reducible] def ref02_in_X : Ctx := ⟨look tab, pick1 [], false, false, false⟩
def zq2j {β : Type} (n : Int) (k : (Bool → Option β)) : Option β :=
  cond (decide ((-4611686018427387904 : Int) ≤ n))
  (let t : Bool := (decide (n ≤ (4611686018427387904 : Int)));
  k t)
  (k false)
theorem zq2k (hΓ : ΓOk Tryd.prog ref02_in_X.Γ) : SpecOk Tryd.prog 44 (zq2i (zq2j)) :=
  spec_exec (X := ref02_in_X) (Λ := pick1 []) (rs := [.tmp 2]) (c := bodyOf Tryd.f44) mixed tab_ok hΓ Tryd.func44 (by kernel_rfl) (by kernel_rfl) (by kernel_rfl) (by kernel_rfl) CutsOk_nil (fun x k r h => Eq.trans (b := (zq2i (zq2j)).run x k) (by kernel_rfl) h)
end
theorem zq2lΓ : ΓOk Tryd.prog (pick1 []) := ΓOk_nil
def zq2m : zq2h := zq2j
theorem zq2n : SpecOk Tryd.prog 44 (zq2i zq2m) := zq2k zq2lΓ

/-- math/bits.Mul64 -/
abbrev zq2o := {β : Type} → Int → Int → (Int → Int → Option β) → Option β
def zq2p (c : zq2o) : Spec :=
  ⟨[(false, [.data (.int .u64)]), (false, [.data (.int .u64)])], [], [(false, [.data (.int .u64)]), (false, [.data (.int .u64)])], [], fun x k => c x.1.1.1 x.1.2.1.1 (fun r0 r1 => k (((r0, ()), (r1, ()), ()), ()))⟩
section
@[reducible] def math_bits_Mul64_X : Ctx := ⟨look tab, pick1 [], false, false, false⟩
def zq2q {β : Type} (x : Int) (y : Int) (k : (Int → Int → Option β)) : Option β :=
  let x0 : Int := (bitsOf .and .u64 x (4294967295 : Int));
  cond (decide (0 ≤ (32 : Int)))
  (let x1 : Int := (shiftOf .shr .u64 x (32 : Int));
  let y0 : Int := (bitsOf .and .u64 y (4294967295 : Int));
  cond (decide (0 ≤ (32 : Int)))
  (let y1 : Int := (shiftOf .shr .u64 y (32 : Int));
  let w0 : Int := (IntKind.u64.wrap (x0 * y0));
  cond (decide (0 ≤ (32 : Int)))
  (let t : Int := (IntKind.u64.wrap ((IntKind.u64.wrap (x1 * y0)) + (shiftOf .shr .u64 w0 (32 : Int))));
  let w1 : Int := (bitsOf .and .u64 t (4294967295 : Int));
  cond (decide (0 ≤ (32 : Int)))
  (let w2 : Int := (shiftOf .shr .u64 t (32 : Int));
  let w12 : Int := (IntKind.u64.wrap (w1 + (IntKind.u64.wrap (x0 * y1))));
  cond (decide (0 ≤ (32 : Int)))
  (let hi : Int := (IntKind.u64.wrap ((IntKind.u64.wrap ((IntKind.u64.wrap (x1 * y1)) + w2)) + (shiftOf .shr .u64 w12 (32 : Int))));
  let lo : Int := (IntKind.u64.wrap (x * y));
  k hi lo)
  none)
  none)
  none)
  none)
  none
theorem zq2r (hΓ : ΓOk Tryd.prog math_bits_Mul64_X.Γ) : SpecOk Tryd.prog 50 (zq2p (zq2q)) :=
  spec_exec (X := math_bits_Mul64_X) (Λ := pick1 []) (rs := [.tmp 4, .tmp 5]) (c := bodyOf Tryd.f50) mixed tab_ok hΓ Tryd.func50 (by kernel_rfl) (by kernel_rfl) (by kernel_rfl) (by kernel_rfl) CutsOk_nil (fun x k r h => Eq.trans (b := (zq2p (zq2q)).run x k) (by kernel_rfl) h)
end
theorem zq2sΓ : ΓOk Tryd.prog (pick1 []) := ΓOk_nil
def zq2t : zq2o := zq2q
theorem zq2u : SpecOk Tryd.prog 50 (zq2p zq2t) := zq2r zq2sΓ

/-- pagewatch/ratio.Valid -/
abbrev zq2v := {β : Type} → (Int × Int) → (Bool → Option β) → Option β
def zq2w (c : zq2v) : Spec :=
  ⟨[(true, [.data (.prod (.int .i64) (.int .i64))])], [], [(false, [.data .bool])], [], fun x k => c x.1.1.1 (fun r0 => k (((r0, ()), ()), ()))⟩
section
variable (c_ratio_gcd : zqp) (c_ratio_size : zq1l) (c_ratio_within : zq1e)
@[reducible] def ratio_Valid_X : Ctx := ⟨look tab, pick1 [(33, .spec (zqq c_ratio_gcd)), (37, .spec (zq1m c_ratio_size)), (36, .spec (zq1f c_ratio_within))], false, false, false⟩
def zq2x {β : Type} (r_ : (Int × Int)) (k : (Bool → Option β)) : Option β :=
  cond (decide ((1 : Int) ≤ r_.2))
  (cond (decide (r_.2 ≤ (4611686018427387904 : Int)))
  (c_ratio_within r_.1 (fun (rwithin : Bool) =>
  cond rwithin
  (c_ratio_size r_.1 (fun (rsize : Int) =>
  c_ratio_gcd rsize r_.2 (fun (rgcd : Int) =>
  let t : Bool := (decide (rgcd = (1 : Int)));
  k t)))
  (k false)))
  (k false))
  (k false)
theorem zq2y (hΓ : ΓOk Tryd.prog (ratio_Valid_X c_ratio_gcd c_ratio_size c_ratio_within).Γ) : SpecOk Tryd.prog 15 (zq2w (zq2x c_ratio_gcd c_ratio_size c_ratio_within)) :=
  spec_exec (X := (ratio_Valid_X c_ratio_gcd c_ratio_size c_ratio_within)) (Λ := pick1 []) (rs := [.tmp 2]) (c := bodyOf Tryd.f15) mixed tab_ok hΓ Tryd.func15 (by kernel_rfl) (by kernel_rfl) (by kernel_rfl) (by kernel_rfl) CutsOk_nil (fun x k r h => Eq.trans (b := (zq2w (zq2x c_ratio_gcd c_ratio_size c_ratio_within)).run x k) (by kernel_rfl) h)
end
theorem zq2zΓ : ΓOk Tryd.prog (pick1 [(33, .spec (zqq zq15)), (37, .spec (zq1m zq1q)), (36, .spec (zq1f zq1j))]) := (ΓOk_cons zq16 (ΓOk_cons zq1r (ΓOk_cons zq1k ΓOk_nil)))
def zq30 : zq2v := zq2x zq15 zq1q zq1j
theorem zq31 : SpecOk Tryd.prog 15 (zq2w zq30) := zq2y zq15 zq1q zq1j zq2zΓ

/-- pagewatch/ratio.New -/
abbrev zq32 := {β : Type} → Int → Int → ((Int × Int) → Int → Option β) → Option β
def zq33 (c : zq32) : Spec :=
  ⟨[(false, [.data (.int .i64)]), (false, [.data (.int .i64)])], [], [(true, [.data (.prod (.int .i64) (.int .i64))]), (false, [.data (.int .i64)])], [], fun x k => c x.1.1.1 x.1.2.1.1 (fun r0 r1 => k (((r0, ()), (r1, ()), ()), ()))⟩
section
variable (c_ratio_gcd : zqp) (c_ratio_size : zq1l) (c_ratio_within : zq1e)
@[reducible] def ratio_New_X : Ctx := ⟨look tab, pick1 [(33, .spec (zqq c_ratio_gcd)), (37, .spec (zq1m c_ratio_size)), (36, .spec (zq1f c_ratio_within))], false, false, false⟩
def zq34 {β : Type} (num : Int) (den : Int) (k : ((Int × Int) → Int → Option β)) : Option β :=
  cond (decide (den < (1 : Int)))
  (k ((0 : Int), (0 : Int)) (1 : Int))
  (cond (decide ((4611686018427387904 : Int) < den))
  (k ((0 : Int), (0 : Int)) (1 : Int))
  (c_ratio_within num (fun (rwithin : Bool) =>
  cond (!rwithin)
  (k ((0 : Int), (0 : Int)) (1 : Int))
  (c_ratio_size num (fun (rsize : Int) =>
  c_ratio_gcd rsize den (fun (rgcd : Int) =>
  cond (!decide (rgcd = 0))
  (cond (!decide (rgcd = 0))
  (k ((IntKind.i64.wrap (Int.tdiv num rgcd)), (IntKind.i64.wrap (Int.tdiv den rgcd))) (0 : Int))
  none)
  none))))))
theorem zq35 (hΓ : ΓOk Tryd.prog (ratio_New_X c_ratio_gcd c_ratio_size c_ratio_within).Γ) : SpecOk Tryd.prog 27 (zq33 (zq34 c_ratio_gcd c_ratio_size c_ratio_within)) :=
  spec_exec (X := (ratio_New_X c_ratio_gcd c_ratio_size c_ratio_within)) (Λ := pick1 []) (rs := [.cell 4 24, .tmp 5]) (c := bodyOf Tryd.f27) mixed tab_ok hΓ Tryd.func27 (by kernel_rfl) (by kernel_rfl) (by kernel_rfl) (by kernel_rfl) CutsOk_nil (fun x k r h => Eq.trans (b := (zq33 (zq34 c_ratio_gcd c_ratio_size c_ratio_within)).run x k) (by kernel_rfl) h)
end
theorem zq36Γ : ΓOk Tryd.prog (pick1 [(33, .spec (zqq zq15)), (37, .spec (zq1m zq1q)), (36, .spec (zq1f zq1j))]) := (ΓOk_cons zq16 (ΓOk_cons zq1r (ΓOk_cons zq1k ΓOk_nil)))
def zq37 : zq32 := zq34 zq15 zq1q zq1j
theorem zq38 : SpecOk Tryd.prog 27 (zq33 zq37) := zq35 zq15 zq1q zq1j zq36Γ

/-- pagewatch/pagewatchref02.New -/
abbrev zq39 := {β : Type} → Int → Int → ((Int × Int) → Int → Option β) → Option β
def zq3a (c : zq39) : Spec :=
  ⟨[(false, [.data (.int .i64)]), (false, [.data (.int .i64)])], [], [(true, [.data (.prod (.int .i64) (.int .i64))]), (false, [.data (.int .i64)])], [], fun x k => c x.1.1.1 x.1.2.1.1 (fun r0 r1 => k (((r0, ()), (r1, ()), ()), ()))⟩
section
variable (c_ref02_gcd : zq1s) (c_ref02_in : zq2h) (c_ref02_size : zq2a)
@[reducible] def ref02_New_X : Ctx := ⟨look tab, pick1 [(40, .spec (zq1t c_ref02_gcd)), (44, .spec (zq2i c_ref02_in)), (42, .spec (zq2b c_ref02_size))], false, false, false⟩
def zq3b {β : Type} (num : Int) (den : Int) (k : ((Int × Int) → Int → Option β)) : Option β :=
  c_ref02_in num (fun (rin : Bool) =>
  cond (!rin)
  (k ((0 : Int), (0 : Int)) (1 : Int))
  (cond (decide (den < (1 : Int)))
  (k ((0 : Int), (0 : Int)) (1 : Int))
  (cond (decide ((4611686018427387904 : Int) < den))
  (k ((0 : Int), (0 : Int)) (1 : Int))
  (c_ref02_size num (fun (rsize : Int) =>
  c_ref02_gcd rsize den (fun (rgcd : Int) =>
  cond (!decide (rgcd = 0))
  (cond (!decide (rgcd = 0))
  (k ((IntKind.i64.wrap (Int.tdiv num rgcd)), (IntKind.i64.wrap (Int.tdiv den rgcd))) (0 : Int))
  none)
  none))))))
theorem zq3c (hΓ : ΓOk Tryd.prog (ref02_New_X c_ref02_gcd c_ref02_in c_ref02_size).Γ) : SpecOk Tryd.prog 28 (zq3a (zq3b c_ref02_gcd c_ref02_in c_ref02_size)) :=
  spec_exec (X := (ref02_New_X c_ref02_gcd c_ref02_in c_ref02_size)) (Λ := pick1 []) (rs := [.cell 4 24, .tmp 5]) (c := bodyOf Tryd.f28) mixed tab_ok hΓ Tryd.func28 (by kernel_rfl) (by kernel_rfl) (by kernel_rfl) (by kernel_rfl) CutsOk_nil (fun x k r h => Eq.trans (b := (zq3a (zq3b c_ref02_gcd c_ref02_in c_ref02_size)).run x k) (by kernel_rfl) h)
end
theorem zq3dΓ : ΓOk Tryd.prog (pick1 [(40, .spec (zq1t zq28)), (44, .spec (zq2i zq2m)), (42, .spec (zq2b zq2f))]) := (ΓOk_cons zq29 (ΓOk_cons zq2n (ΓOk_cons zq2g ΓOk_nil)))
def zq3e : zq39 := zq3b zq28 zq2m zq2f
theorem zq3f : SpecOk Tryd.prog 28 (zq3a zq3e) := zq3c zq28 zq2m zq2f zq3dΓ

/-- pagewatch/ratio.times -/
abbrev zq3g := {β : Type} → Int → Int → (Int → Bool → Option β) → Option β
def zq3h (c : zq3g) : Spec :=
  ⟨[(false, [.data (.int .i64)]), (false, [.data (.int .i64)])], [], [(false, [.data (.int .i64)]), (false, [.data .bool])], [], fun x k => c x.1.1.1 x.1.2.1.1 (fun r0 r1 => k (((r0, ()), (r1, ()), ()), ()))⟩
section
variable (c_math_bits_Mul64 : zq2o) (c_ratio_size : zq1l)
@[reducible] def ratio_times_X : Ctx := ⟨look tab, pick1 [(50, .spec (zq2p c_math_bits_Mul64)), (37, .spec (zq1m c_ratio_size))], false, false, false⟩
def zq3i {β : Type} (a : Int) (b : Int) (k : (Int → Bool → Option β)) : Option β :=
  c_ratio_size a (fun (rsize : Int) =>
  c_ratio_size b (fun (rsize2 : Int) =>
  c_math_bits_Mul64 (IntKind.u64.wrap rsize) (IntKind.u64.wrap rsize2) (fun (rMul64 : Int) (rMul642 : Int) =>
  cond (!decide (rMul64 = (0 : Int)))
  (k (0 : Int) false)
  (cond (decide ((4611686018427387904 : Int) < rMul642))
  (k (0 : Int) false)
  (cond (!((decide (a < (0 : Int))) == (decide (b < (0 : Int)))))
  (let t : Int := (IntKind.i64.wrap (0 - (IntKind.i64.wrap rMul642)));
  k t true)
  (let t : Int := (IntKind.i64.wrap rMul642);
  k t true))))))
theorem zq3j (hΓ : ΓOk Tryd.prog (ratio_times_X c_math_bits_Mul64 c_ratio_size).Γ) : SpecOk Tryd.prog 34 (zq3h (zq3i c_math_bits_Mul64 c_ratio_size)) :=
  spec_exec (X := (ratio_times_X c_math_bits_Mul64 c_ratio_size)) (Λ := pick1 []) (rs := [.tmp 4, .tmp 5]) (c := bodyOf Tryd.f34) mixed tab_ok hΓ Tryd.func34 (by kernel_rfl) (by kernel_rfl) (by kernel_rfl) (by kernel_rfl) CutsOk_nil (fun x k r h => Eq.trans (b := (zq3h (zq3i c_math_bits_Mul64 c_ratio_size)).run x k) (by kernel_rfl) h)
end
theorem zq3kΓ : ΓOk Tryd.prog (pick1 [(50, .spec (zq2p zq2t)), (37, .spec (zq1m zq1q))]) := (ΓOk_cons zq2u (ΓOk_cons zq1r ΓOk_nil))
def zq3l : zq3g := zq3i zq2t zq1q
theorem zq3m : SpecOk Tryd.prog 34 (zq3h zq3l) := zq3j zq2t zq1q zq3kΓ

/-- pagewatch/ratio.product -/
abbrev zq3n := {β : Type} → (Int × Int) → (Int × Int) → ((Int × Int) → Int → Option β) → Option β
def zq3o (c : zq3n) : Spec :=
  ⟨[(true, [.data (.prod (.int .i64) (.int .i64))]), (true, [.data (.prod (.int .i64) (.int .i64))])], [], [(true, [.data (.prod (.int .i64) (.int .i64))]), (false, [.data (.int .i64)])], [], fun x k => c x.1.1.1 x.1.2.1.1 (fun r0 r1 => k (((r0, ()), (r1, ()), ()), ()))⟩
section
variable (c_ratio_gcd : zqp) (c_ratio_size : zq1l) (c_ratio_times : zq3g)
@[reducible] def ratio_product_X : Ctx := ⟨look tab, pick1 [(33, .spec (zqq c_ratio_gcd)), (37, .spec (zq1m c_ratio_size)), (34, .spec (zq3h c_ratio_times))], false, false, false⟩
def zq3p {β : Type} (a : (Int × Int)) (b : (Int × Int)) (k : ((Int × Int) → Int → Option β)) : Option β :=
  c_ratio_size a.1 (fun (rsize : Int) =>
  c_ratio_gcd rsize b.2 (fun (rgcd : Int) =>
  c_ratio_size b.1 (fun (rsize2 : Int) =>
  c_ratio_gcd rsize2 a.2 (fun (rgcd2 : Int) =>
  cond (!decide (rgcd = 0))
  (cond (!decide (rgcd2 = 0))
  (c_ratio_times (IntKind.i64.wrap (Int.tdiv a.1 rgcd)) (IntKind.i64.wrap (Int.tdiv b.1 rgcd2)) (fun (rtimes : Int) (rtimes2 : Bool) =>
  cond (!decide (rgcd2 = 0))
  (cond (!decide (rgcd = 0))
  (c_ratio_times (IntKind.i64.wrap (Int.tdiv a.2 rgcd2)) (IntKind.i64.wrap (Int.tdiv b.2 rgcd)) (fun (rtimes3 : Int) (rtimes4 : Bool) =>
  cond (!rtimes2)
  (k ((0 : Int), (0 : Int)) (5 : Int))
  (cond (!rtimes4)
  (k ((0 : Int), (0 : Int)) (5 : Int))
  (k (rtimes, rtimes3) (0 : Int)))))
  none)
  none))
  none)
  none))))
theorem zq3q (hΓ : ΓOk Tryd.prog (ratio_product_X c_ratio_gcd c_ratio_size c_ratio_times).Γ) : SpecOk Tryd.prog 38 (zq3o (zq3p c_ratio_gcd c_ratio_size c_ratio_times)) :=
  spec_exec (X := (ratio_product_X c_ratio_gcd c_ratio_size c_ratio_times)) (Λ := pick1 []) (rs := [.cell 4 24, .tmp 5]) (c := bodyOf Tryd.f38) mixed tab_ok hΓ Tryd.func38 (by kernel_rfl) (by kernel_rfl) (by kernel_rfl) (by kernel_rfl) CutsOk_nil (fun x k r h => Eq.trans (b := (zq3o (zq3p c_ratio_gcd c_ratio_size c_ratio_times)).run x k) (by kernel_rfl) h)
end
theorem zq3rΓ : ΓOk Tryd.prog (pick1 [(33, .spec (zqq zq15)), (37, .spec (zq1m zq1q)), (34, .spec (zq3h zq3l))]) := (ΓOk_cons zq16 (ΓOk_cons zq1r (ΓOk_cons zq3m ΓOk_nil)))
def zq3s : zq3n := zq3p zq15 zq1q zq3l
theorem zq3t : SpecOk Tryd.prog 38 (zq3o zq3s) := zq3q zq15 zq1q zq3l zq3rΓ

/-- pagewatch/ratio.below -/
abbrev zq3u := {β : Type} → Int → Int → Int → Int → (Bool → Option β) → Option β
def zq3v (c : zq3u) : Spec :=
  ⟨[(false, [.data (.int .i64)]), (false, [.data (.int .i64)]), (false, [.data (.int .i64)]), (false, [.data (.int .i64)])], [], [(false, [.data .bool])], [], fun x k => c x.1.1.1 x.1.2.1.1 x.1.2.2.1.1 x.1.2.2.2.1.1 (fun r0 => k (((r0, ()), ()), ()))⟩
section
variable (c_math_bits_Mul64 : zq2o)
@[reducible] def ratio_below_X : Ctx := ⟨look tab, pick1 [(50, .spec (zq2p c_math_bits_Mul64))], false, false, false⟩
def zq3w {β : Type} (a : Int) (b : Int) (c : Int) (d : Int) (k : (Bool → Option β)) : Option β :=
  c_math_bits_Mul64 (IntKind.u64.wrap a) (IntKind.u64.wrap b) (fun (rMul64 : Int) (rMul642 : Int) =>
  c_math_bits_Mul64 (IntKind.u64.wrap c) (IntKind.u64.wrap d) (fun (rMul643 : Int) (rMul644 : Int) =>
  cond (decide (rMul64 < rMul643))
  (k true)
  (cond (decide (rMul64 = rMul643))
  (let t : Bool := (decide (rMul642 < rMul644));
  k t)
  (k false))))
theorem zq3x (hΓ : ΓOk Tryd.prog (ratio_below_X c_math_bits_Mul64).Γ) : SpecOk Tryd.prog 39 (zq3v (zq3w c_math_bits_Mul64)) :=
  spec_exec (X := (ratio_below_X c_math_bits_Mul64)) (Λ := pick1 []) (rs := [.tmp 8]) (c := bodyOf Tryd.f39) mixed tab_ok hΓ Tryd.func39 (by kernel_rfl) (by kernel_rfl) (by kernel_rfl) (by kernel_rfl) CutsOk_nil (fun x k r h => Eq.trans (b := (zq3v (zq3w c_math_bits_Mul64)).run x k) (by kernel_rfl) h)
end
theorem zq3yΓ : ΓOk Tryd.prog (pick1 [(50, .spec (zq2p zq2t))]) := (ΓOk_cons zq2u ΓOk_nil)
def zq3z : zq3u := zq3w zq2t
theorem zq40 : SpecOk Tryd.prog 39 (zq3v zq3z) := zq3x zq2t zq3yΓ

/-- pagewatch/pagewatchlaw02.draw -/
abbrev zq41 := {β : Type} → Int → Int → ((Int × Int) → Option β) → Option β
def zq42 (c : zq41) : Spec :=
  ⟨[(false, [.data (.int .i64)]), (false, [.data (.int .i64)])], [], [(true, [.data (.prod (.int .i64) (.int .i64))])], [], fun x k => c x.1.1.1 x.1.2.1.1 (fun r0 => k (((r0, ()), ()), ()))⟩
section
variable (c_made_Mod : zq0) (c_ref02_New : zq39)
@[reducible] def law02_draw_X : Ctx := ⟨look tab, pick1 [(18, .spec (zq1 c_made_Mod)), (28, .spec (zq3a c_ref02_New))], false, false, false⟩
def zq43 {β : Type} (n : Int) (d : Int) (k : ((Int × Int) → Option β)) : Option β :=
  c_made_Mod n (5 : Int) (fun (rMod : Int) =>
  let t : Bool := (decide (rMod = (0 : Int)));
  cond t
  (c_made_Mod d (9 : Int) (fun (rMod2 : Int) =>
  c_made_Mod n (7 : Int) (fun (rMod3 : Int) =>
  c_ref02_New (IntKind.i64.wrap ((4611686018427387904 : Int) - rMod2)) (IntKind.i64.wrap ((1 : Int) + rMod3)) (fun (rNew : (Int × Int)) (rNew2 : Int) =>
  k rNew))))
  (let t2 : Bool := (decide (rMod = (1 : Int)));
  cond t2
  (c_made_Mod n (99 : Int) (fun (rMod2 : Int) =>
  c_made_Mod d (9 : Int) (fun (rMod3 : Int) =>
  c_ref02_New (IntKind.i64.wrap (rMod2 - (49 : Int))) (IntKind.i64.wrap ((4611686018427387904 : Int) - rMod3)) (fun (rNew : (Int × Int)) (rNew2 : Int) =>
  k rNew))))
  (c_made_Mod n (201 : Int) (fun (rMod2 : Int) =>
  c_made_Mod d (60 : Int) (fun (rMod3 : Int) =>
  c_ref02_New (IntKind.i64.wrap (rMod2 - (100 : Int))) (IntKind.i64.wrap ((1 : Int) + rMod3)) (fun (rNew : (Int × Int)) (rNew2 : Int) =>
  k rNew))))))
theorem zq44 (hΓ : ΓOk Tryd.prog (law02_draw_X c_made_Mod c_ref02_New).Γ) : SpecOk Tryd.prog 9 (zq42 (zq43 c_made_Mod c_ref02_New)) :=
  spec_exec (X := (law02_draw_X c_made_Mod c_ref02_New)) (Λ := pick1 []) (rs := [.cell 4 24]) (c := bodyOf Tryd.f9) mixed tab_ok hΓ Tryd.func9 (by kernel_rfl) (by kernel_rfl) (by kernel_rfl) (by kernel_rfl) CutsOk_nil (fun x k r h => Eq.trans (b := (zq42 (zq43 c_made_Mod c_ref02_New)).run x k) (by kernel_rfl) h)
end
theorem zq45Γ : ΓOk Tryd.prog (pick1 [(18, .spec (zq1 zq5)), (28, .spec (zq3a zq3e))]) := (ΓOk_cons zq6 (ΓOk_cons zq3f ΓOk_nil))
def zq46 : zq41 := zq43 zq5 zq3e
theorem zq47 : SpecOk Tryd.prog 9 (zq42 zq46) := zq44 zq5 zq3e zq45Γ

/-- pagewatch/ratio.Text -/
abbrev zq48 := {β : Type} → (Int × Int) → ((List UInt8) → Option β) → Option β
def zq49 (c : zq48) : Spec :=
  ⟨[(true, [.data (.prod (.int .i64) (.int .i64))])], [], [(false, [.data .str])], [], fun x k => c x.1.1.1 (fun r0 => k (((r0, ()), ()), ()))⟩
section
variable (c_ratio_Valid : zq2v) (c_strconv_Itoa : zq9)
@[reducible] def ratio_Text_X : Ctx := ⟨look tab, pick1 [(15, .spec (zq2w c_ratio_Valid)), (29, .spec (zqa c_strconv_Itoa))], false, false, false⟩
def zq4a {β : Type} (r_ : (Int × Int)) (k : ((List UInt8) → Option β)) : Option β :=
  c_ratio_Valid r_ (fun (rValid : Bool) =>
  cond (!rValid)
  (k ([] : List UInt8))
  (let t : Bool := (decide (r_.2 = (1 : Int)));
  cond t
  (c_strconv_Itoa r_.1 (fun (rItoa : List UInt8) =>
  k rItoa))
  (c_strconv_Itoa r_.1 (fun (rItoa : List UInt8) =>
  cond (decide (List.length rItoa + List.length ([47] : List UInt8) ≤ 9223372036854775807))
  (c_strconv_Itoa r_.2 (fun (rItoa2 : List UInt8) =>
  cond (decide (List.length (rItoa ++ ([47] : List UInt8)) + List.length rItoa2 ≤ 9223372036854775807))
  (let t2 : List UInt8 := ((rItoa ++ ([47] : List UInt8)) ++ rItoa2);
  k t2)
  none))
  none))))
theorem zq4b (hΓ : ΓOk Tryd.prog (ratio_Text_X c_ratio_Valid c_strconv_Itoa).Γ) : SpecOk Tryd.prog 10 (zq49 (zq4a c_ratio_Valid c_strconv_Itoa)) :=
  spec_exec (X := (ratio_Text_X c_ratio_Valid c_strconv_Itoa)) (Λ := pick1 []) (rs := [.tmp 2]) (c := bodyOf Tryd.f10) mixed tab_ok hΓ Tryd.func10 (by kernel_rfl) (by kernel_rfl) (by kernel_rfl) (by kernel_rfl) CutsOk_nil (fun x k r h => Eq.trans (b := (zq49 (zq4a c_ratio_Valid c_strconv_Itoa)).run x k) (by kernel_rfl) h)
end
theorem zq4cΓ : ΓOk Tryd.prog (pick1 [(15, .spec (zq2w zq30)), (29, .spec (zqa zqb))]) := (ΓOk_cons zq31 (ΓOk_cons zqc ΓOk_nil))
def zq4d : zq48 := zq4a zq30 zqb
theorem zq4e : SpecOk Tryd.prog 10 (zq49 zq4d) := zq4b zq30 zqb zq4cΓ

/-- pagewatch/ratio.Parse -/
abbrev zq4f := {β : Type} → (List UInt8) → ((Int × Int) → Int → Option β) → Option β
def zq4g (c : zq4f) : Spec :=
  ⟨[(false, [.data .str])], [], [(true, [.data (.prod (.int .i64) (.int .i64))]), (false, [.data (.int .i64)])], [], fun x k => c x.1.1.1 (fun r0 r1 => k (((r0, ()), (r1, ()), ()), ()))⟩
noncomputable def ratio_Parse_p1_code : Code := codeAt 127 (bodyOf Tryd.f11)
abbrev zq4h (β : Type) := Int → Int → Int → Option β
abbrev zq4i := {β : Type} → zq4h β → (List UInt8) → Bool → Bool → Int → Int → Int → Int → Option β
def zq4j : View := ⟨0, [0, 2, 7, 8, 9], [(false, [.data .str]), (false, [.ptr 0 0]), (false, [.ptr 1 0]), (false, [.data .err]), (false, [.data .err])], [.cells 24 [.data (.int .i64), .data (.int .i64)], .cells 24 [.data (.int .i64), .data (.int .i64)]]⟩
def zq4k : List (AExit × View) := [(.ret, ⟨0, [2, 3], [(false, [.ptr 0 0]), (false, [.data (.int .i64)])], [.cells 24 [.data (.int .i64), .data (.int .i64)]]⟩)]
@[reducible] def ratio_Parse_p1_G (p : zq4i) {β : Type} (d : zq4j.den) (ks : Outs.K β zq4k) : Option β :=
  p (fun a0 a1 a2 => ks.1 (((), (a0, ()), ()), ((a1, a2, ()), ()))) d.1.1.1 d.1.2.2.2.1.1 d.1.2.2.2.2.1.1 d.2.1.1 d.2.1.2.1 d.2.2.1.1 d.2.2.1.2.1
section
variable (c_ratio_Text : zq48) (c_strconv_Atoi : zql) (c_strings_Cut : zqf)
@[reducible] def ratio_Parse_X : Ctx := ⟨look tab, pick1 [(10, .spec (zq49 c_ratio_Text)), (31, .spec (zqm c_strconv_Atoi)), (30, .spec (zqg c_strings_Cut))], false, false, false⟩
def zq4l {β : Type} (k1 : zq4h β) (text : List UInt8) (e : Bool) (f : Bool) (t2 : Int) (t22 : Int) (r_ : Int) (r_2 : Int) : Option β :=
  cond (!e)
  (k1 (2 : Int) (0 : Int) (0 : Int))
  (cond (!f)
  (k1 (2 : Int) (0 : Int) (0 : Int))
  (cond (decide (text = ([] : List UInt8)))
  (k1 (2 : Int) (0 : Int) (0 : Int))
  (c_ratio_Text (r_, r_2) (fun (rText : List UInt8) =>
  cond (!decide (rText = text))
  (k1 (2 : Int) (0 : Int) (0 : Int))
  (k1 (0 : Int) r_ r_2)))))
def zq4m {β : Type} (k1 : zq4h β) (text : List UInt8) (e : Bool) (f : Bool) (t2 : Int) (t22 : Int) (r_ : Int) (r_2 : Int) : Option β := zq4l c_ratio_Text k1 text e f t2 t22 r_ r_2
theorem zq4n (hΓ : ΓOk Tryd.prog (ratio_Parse_X c_ratio_Text c_strconv_Atoi c_strings_Cut).Γ) : PieceOk Tryd.prog 48 0 ratio_Parse_p1_code zq4j zq4k (ratio_Parse_p1_G (zq4m c_ratio_Text)) :=
  piece_exec (X := (ratio_Parse_X c_ratio_Text c_strconv_Atoi c_strings_Cut)) (p := 127) (Λ := pick1 []) mixed tab_ok hΓ (by kernel_rfl) CutsOk_nil (fun d ks r h => Eq.trans (b := ratio_Parse_p1_G (zq4m c_ratio_Text) d ks) (by kernel_rfl) h)
def zq4o (p1 : zq4i) {β : Type} (text : List UInt8) (k : ((Int × Int) → Int → Option β)) : Option β :=
  c_strings_Cut text ([47] : List UInt8) (fun (rCut : List UInt8) (rCut2 : List UInt8) (rCut3 : Bool) =>
  c_strconv_Atoi rCut (fun (rAtoi : Int) (rAtoi2 : Bool) =>
  cond rCut3
  (c_strconv_Atoi rCut2 (fun (rAtoi3 : Int) (rAtoi4 : Bool) =>
  p1 (fun (t3 : Int) (t2 : Int) (t22 : Int) =>
  k (t2, t22) t3) text rAtoi2 rAtoi4 (0 : Int) (0 : Int) rAtoi rAtoi3))
  (p1 (fun (t3 : Int) (t2 : Int) (t22 : Int) =>
  k (t2, t22) t3) text rAtoi2 true (0 : Int) (0 : Int) rAtoi (1 : Int))))
theorem zq4p (hΓ : ΓOk Tryd.prog (ratio_Parse_X c_ratio_Text c_strconv_Atoi c_strings_Cut).Γ) (p1 : zq4i) (hp1 : PieceOk Tryd.prog 48 0 ratio_Parse_p1_code zq4j zq4k (ratio_Parse_p1_G p1)) : SpecOk Tryd.prog 11 (zq4g (zq4o c_strconv_Atoi c_strings_Cut p1)) :=
  spec_exec (X := (ratio_Parse_X c_ratio_Text c_strconv_Atoi c_strings_Cut)) (Λ := pick1 [(127, pieceCut zq4j zq4k (ratio_Parse_p1_G p1))]) (rs := [.cell 2 24, .tmp 3]) (c := bodyOf Tryd.f11) mixed tab_ok hΓ Tryd.func11 (by kernel_rfl) (by kernel_rfl) (by kernel_rfl) (by kernel_rfl) (CutsOk_cons (q := 127) (c' := ratio_Parse_p1_code) (by kernel_rfl) rfl hp1 CutsOk_nil) (fun x k r h => Eq.trans (b := (zq4g (zq4o c_strconv_Atoi c_strings_Cut p1)).run x k) (by kernel_rfl) h)
end
theorem zq4qΓ : ΓOk Tryd.prog (pick1 [(10, .spec (zq49 zq4d)), (31, .spec (zqm zqn)), (30, .spec (zqg zqh))]) := (ΓOk_cons zq4e (ΓOk_cons zqo (ΓOk_cons zqi ΓOk_nil)))
def zq4r : zq4i := zq4m zq4d
theorem zq4s : PieceOk Tryd.prog 48 0 ratio_Parse_p1_code zq4j zq4k (ratio_Parse_p1_G zq4r) := zq4n zq4d zqn zqh zq4qΓ
def zq4t : zq4f := zq4o zqn zqh zq4r
theorem zq4u : SpecOk Tryd.prog 11 (zq4g zq4t) := zq4p zq4d zqn zqh zq4qΓ zq4r zq4s

/-- pagewatch/ratio.Add -/
abbrev zq4v := {β : Type} → (Int × Int) → (Int × Int) → ((Int × Int) → Int → Option β) → Option β
def zq4w (c : zq4v) : Spec :=
  ⟨[(true, [.data (.prod (.int .i64) (.int .i64))]), (true, [.data (.prod (.int .i64) (.int .i64))])], [], [(true, [.data (.prod (.int .i64) (.int .i64))]), (false, [.data (.int .i64)])], [], fun x k => c x.1.1.1 x.1.2.1.1 (fun r0 r1 => k (((r0, ()), (r1, ()), ()), ()))⟩
section
variable (c_ratio_New : zq32) (c_ratio_Valid : zq2v) (c_ratio_gcd : zqp) (c_ratio_plus : zq17) (c_ratio_times : zq3g)
@[reducible] def ratio_Add_X : Ctx := ⟨look tab, pick1 [(27, .spec (zq33 c_ratio_New)), (15, .spec (zq2w c_ratio_Valid)), (33, .spec (zqq c_ratio_gcd)), (35, .spec (zq18 c_ratio_plus)), (34, .spec (zq3h c_ratio_times))], false, false, false⟩
def zq4x {β : Type} (a : (Int × Int)) (b : (Int × Int)) (k : ((Int × Int) → Int → Option β)) : Option β :=
  c_ratio_Valid a (fun (rValid : Bool) =>
  cond (!rValid)
  (k ((0 : Int), (0 : Int)) (8 : Int))
  (c_ratio_Valid b (fun (rValid2 : Bool) =>
  cond (!rValid2)
  (k ((0 : Int), (0 : Int)) (8 : Int))
  (c_ratio_gcd a.2 b.2 (fun (rgcd : Int) =>
  cond (!decide (rgcd = 0))
  (c_ratio_times a.1 (IntKind.i64.wrap (Int.tdiv b.2 rgcd)) (fun (rtimes : Int) (rtimes2 : Bool) =>
  cond (!decide (rgcd = 0))
  (c_ratio_times b.1 (IntKind.i64.wrap (Int.tdiv a.2 rgcd)) (fun (rtimes3 : Int) (rtimes4 : Bool) =>
  cond (!decide (rgcd = 0))
  (c_ratio_times (IntKind.i64.wrap (Int.tdiv a.2 rgcd)) b.2 (fun (rtimes5 : Int) (rtimes6 : Bool) =>
  cond (!rtimes2)
  (k ((0 : Int), (0 : Int)) (5 : Int))
  (cond (!rtimes4)
  (k ((0 : Int), (0 : Int)) (5 : Int))
  (cond (!rtimes6)
  (k ((0 : Int), (0 : Int)) (5 : Int))
  (c_ratio_plus rtimes rtimes3 (fun (rplus : Int) (rplus2 : Bool) =>
  cond (!rplus2)
  (k ((0 : Int), (0 : Int)) (5 : Int))
  (c_ratio_New rplus rtimes5 (fun (rNew : (Int × Int)) (rNew2 : Int) =>
  k rNew rNew2))))))))
  none))
  none))
  none)))))
theorem zq4y (hΓ : ΓOk Tryd.prog (ratio_Add_X c_ratio_New c_ratio_Valid c_ratio_gcd c_ratio_plus c_ratio_times).Γ) : SpecOk Tryd.prog 13 (zq4w (zq4x c_ratio_New c_ratio_Valid c_ratio_gcd c_ratio_plus c_ratio_times)) :=
  spec_exec (X := (ratio_Add_X c_ratio_New c_ratio_Valid c_ratio_gcd c_ratio_plus c_ratio_times)) (Λ := pick1 []) (rs := [.cell 4 24, .tmp 5]) (c := bodyOf Tryd.f13) mixed tab_ok hΓ Tryd.func13 (by kernel_rfl) (by kernel_rfl) (by kernel_rfl) (by kernel_rfl) CutsOk_nil (fun x k r h => Eq.trans (b := (zq4w (zq4x c_ratio_New c_ratio_Valid c_ratio_gcd c_ratio_plus c_ratio_times)).run x k) (by kernel_rfl) h)
end
theorem zq4zΓ : ΓOk Tryd.prog (pick1 [(27, .spec (zq33 zq37)), (15, .spec (zq2w zq30)), (33, .spec (zqq zq15)), (35, .spec (zq18 zq1c)), (34, .spec (zq3h zq3l))]) := (ΓOk_cons zq38 (ΓOk_cons zq31 (ΓOk_cons zq16 (ΓOk_cons zq1d (ΓOk_cons zq3m ΓOk_nil)))))
def zq50 : zq4v := zq4x zq37 zq30 zq15 zq1c zq3l
theorem zq51 : SpecOk Tryd.prog 13 (zq4w zq50) := zq4y zq37 zq30 zq15 zq1c zq3l zq4zΓ

/-- pagewatch/ratio.Sub -/
abbrev zq52 := {β : Type} → (Int × Int) → (Int × Int) → ((Int × Int) → Int → Option β) → Option β
def zq53 (c : zq52) : Spec :=
  ⟨[(true, [.data (.prod (.int .i64) (.int .i64))]), (true, [.data (.prod (.int .i64) (.int .i64))])], [], [(true, [.data (.prod (.int .i64) (.int .i64))]), (false, [.data (.int .i64)])], [], fun x k => c x.1.1.1 x.1.2.1.1 (fun r0 r1 => k (((r0, ()), (r1, ()), ()), ()))⟩
section
variable (c_ratio_Add : zq4v) (c_ratio_Valid : zq2v)
@[reducible] def ratio_Sub_X : Ctx := ⟨look tab, pick1 [(13, .spec (zq4w c_ratio_Add)), (15, .spec (zq2w c_ratio_Valid))], false, false, false⟩
def zq54 {β : Type} (a : (Int × Int)) (b : (Int × Int)) (k : ((Int × Int) → Int → Option β)) : Option β :=
  c_ratio_Valid a (fun (rValid : Bool) =>
  cond (!rValid)
  (k ((0 : Int), (0 : Int)) (8 : Int))
  (c_ratio_Valid b (fun (rValid2 : Bool) =>
  cond (!rValid2)
  (k ((0 : Int), (0 : Int)) (8 : Int))
  (c_ratio_Add a ((IntKind.i64.wrap (0 - b.1)), b.2) (fun (rAdd : (Int × Int)) (rAdd2 : Int) =>
  k rAdd rAdd2)))))
theorem zq55 (hΓ : ΓOk Tryd.prog (ratio_Sub_X c_ratio_Add c_ratio_Valid).Γ) : SpecOk Tryd.prog 14 (zq53 (zq54 c_ratio_Add c_ratio_Valid)) :=
  spec_exec (X := (ratio_Sub_X c_ratio_Add c_ratio_Valid)) (Λ := pick1 []) (rs := [.cell 4 24, .tmp 5]) (c := bodyOf Tryd.f14) mixed tab_ok hΓ Tryd.func14 (by kernel_rfl) (by kernel_rfl) (by kernel_rfl) (by kernel_rfl) CutsOk_nil (fun x k r h => Eq.trans (b := (zq53 (zq54 c_ratio_Add c_ratio_Valid)).run x k) (by kernel_rfl) h)
end
theorem zq56Γ : ΓOk Tryd.prog (pick1 [(13, .spec (zq4w zq50)), (15, .spec (zq2w zq30))]) := (ΓOk_cons zq51 (ΓOk_cons zq31 ΓOk_nil))
def zq57 : zq52 := zq54 zq50 zq30
theorem zq58 : SpecOk Tryd.prog 14 (zq53 zq57) := zq55 zq50 zq30 zq56Γ

/-- pagewatch/ratio.Mul -/
abbrev zq59 := {β : Type} → (Int × Int) → (Int × Int) → ((Int × Int) → Int → Option β) → Option β
def zq5a (c : zq59) : Spec :=
  ⟨[(true, [.data (.prod (.int .i64) (.int .i64))]), (true, [.data (.prod (.int .i64) (.int .i64))])], [], [(true, [.data (.prod (.int .i64) (.int .i64))]), (false, [.data (.int .i64)])], [], fun x k => c x.1.1.1 x.1.2.1.1 (fun r0 r1 => k (((r0, ()), (r1, ()), ()), ()))⟩
section
variable (c_ratio_Valid : zq2v) (c_ratio_product : zq3n)
@[reducible] def ratio_Mul_X : Ctx := ⟨look tab, pick1 [(15, .spec (zq2w c_ratio_Valid)), (38, .spec (zq3o c_ratio_product))], false, false, false⟩
def zq5b {β : Type} (a : (Int × Int)) (b : (Int × Int)) (k : ((Int × Int) → Int → Option β)) : Option β :=
  c_ratio_Valid a (fun (rValid : Bool) =>
  cond (!rValid)
  (k ((0 : Int), (0 : Int)) (8 : Int))
  (c_ratio_Valid b (fun (rValid2 : Bool) =>
  cond (!rValid2)
  (k ((0 : Int), (0 : Int)) (8 : Int))
  (c_ratio_product a b (fun (rproduct : (Int × Int)) (rproduct2 : Int) =>
  k rproduct rproduct2)))))
theorem zq5c (hΓ : ΓOk Tryd.prog (ratio_Mul_X c_ratio_Valid c_ratio_product).Γ) : SpecOk Tryd.prog 16 (zq5a (zq5b c_ratio_Valid c_ratio_product)) :=
  spec_exec (X := (ratio_Mul_X c_ratio_Valid c_ratio_product)) (Λ := pick1 []) (rs := [.cell 4 24, .tmp 5]) (c := bodyOf Tryd.f16) mixed tab_ok hΓ Tryd.func16 (by kernel_rfl) (by kernel_rfl) (by kernel_rfl) (by kernel_rfl) CutsOk_nil (fun x k r h => Eq.trans (b := (zq5a (zq5b c_ratio_Valid c_ratio_product)).run x k) (by kernel_rfl) h)
end
theorem zq5dΓ : ΓOk Tryd.prog (pick1 [(15, .spec (zq2w zq30)), (38, .spec (zq3o zq3s))]) := (ΓOk_cons zq31 (ΓOk_cons zq3t ΓOk_nil))
def zq5e : zq59 := zq5b zq30 zq3s
theorem zq5f : SpecOk Tryd.prog 16 (zq5a zq5e) := zq5c zq30 zq3s zq5dΓ

/-- pagewatch/ratio.Less -/
abbrev zq5g := {β : Type} → (Int × Int) → (Int × Int) → (Bool → Option β) → Option β
def zq5h (c : zq5g) : Spec :=
  ⟨[(true, [.data (.prod (.int .i64) (.int .i64))]), (true, [.data (.prod (.int .i64) (.int .i64))])], [], [(false, [.data .bool])], [], fun x k => c x.1.1.1 x.1.2.1.1 (fun r0 => k (((r0, ()), ()), ()))⟩
noncomputable def ratio_Less_p1_code : Code := codeAt 7 (bodyOf Tryd.f19)
noncomputable def ratio_Less_p2_code : Code := codeAt 103 (bodyOf Tryd.f19)
noncomputable def ratio_Less_p3_code : Code := codeAt 25 (bodyOf Tryd.f19)
abbrev zq5i (β : Type) := Bool → Option β
abbrev zq5j := {β : Type} → zq5i β → Int → Int → Int → Int → Option β
def zq5k : View := ⟨0, [2, 3], [(false, [.ptr 0 0]), (false, [.ptr 1 0])], [.cells 24 [.data (.int .i64), .data (.int .i64)], .cells 24 [.data (.int .i64), .data (.int .i64)]]⟩
def zq5l : List (AExit × View) := [(.ret, ⟨0, [4], [(false, [.data .bool])], []⟩)]
@[reducible] def ratio_Less_p1_G (p : zq5j) {β : Type} (d : zq5k.den) (ks : Outs.K β zq5l) : Option β :=
  p (fun a0 => ks.1 (((a0, ()), ()), ())) d.2.1.1 d.2.1.2.1 d.2.2.1.1 d.2.2.1.2.1
abbrev zq5m (β : Type) := Bool → Option β
abbrev zq5n (β : Type) := Int → Int → Int → Int → Option β
abbrev zq5o := {β : Type} → zq5m β → zq5n β → Bool → Int → Int → Int → Int → Option β
def zq5p : View := ⟨0, [2, 3, 14], [(false, [.ptr 0 0]), (false, [.ptr 1 0]), (false, [.data .bool])], [.cells 24 [.data (.int .i64), .data (.int .i64)], .cells 24 [.data (.int .i64), .data (.int .i64)]]⟩
def zq5q : List (AExit × View) := [(.ret, ⟨0, [4], [(false, [.data .bool])], []⟩), (.normal, ⟨0, [2, 3], [(false, [.ptr 0 0]), (false, [.ptr 1 0])], [.cells 24 [.data (.int .i64), .data (.int .i64)], .cells 24 [.data (.int .i64), .data (.int .i64)]]⟩)]
@[reducible] def ratio_Less_p2_G (p : zq5o) {β : Type} (d : zq5p.den) (ks : Outs.K β zq5q) : Option β :=
  p (fun a0 => ks.1 (((a0, ()), ()), ())) (fun a0 a1 a2 a3 => ks.2.1 (((), (), ()), ((a0, a1, ()), (a2, a3, ()), ()))) d.1.2.2.1.1 d.2.1.1 d.2.1.2.1 d.2.2.1.1 d.2.2.1.2.1
abbrev zq5r (β : Type) := Bool → Option β
abbrev zq5s (β : Type) := Int → Int → Int → Int → Option β
abbrev zq5t := {β : Type} → zq5r β → zq5s β → Bool → Int → Int → Int → Int → Option β
def zq5u : View := ⟨0, [2, 3, 5], [(false, [.ptr 0 0]), (false, [.ptr 1 0]), (false, [.data .bool])], [.cells 24 [.data (.int .i64), .data (.int .i64)], .cells 24 [.data (.int .i64), .data (.int .i64)]]⟩
def zq5v : List (AExit × View) := [(.ret, ⟨0, [4], [(false, [.data .bool])], []⟩), (.normal, ⟨0, [2, 3], [(false, [.ptr 0 0]), (false, [.ptr 1 0])], [.cells 24 [.data (.int .i64), .data (.int .i64)], .cells 24 [.data (.int .i64), .data (.int .i64)]]⟩)]
@[reducible] def ratio_Less_p3_G (p : zq5t) {β : Type} (d : zq5u.den) (ks : Outs.K β zq5v) : Option β :=
  p (fun a0 => ks.1 (((a0, ()), ()), ())) (fun a0 a1 a2 a3 => ks.2.1 (((), (), ()), ((a0, a1, ()), (a2, a3, ()), ()))) d.1.2.2.1.1 d.2.1.1 d.2.1.2.1 d.2.2.1.1 d.2.2.1.2.1
section
variable (c_ratio_Valid : zq2v) (c_ratio_below : zq3u)
@[reducible] def ratio_Less_X : Ctx := ⟨look tab, pick1 [(15, .spec (zq2w c_ratio_Valid)), (39, .spec (zq3v c_ratio_below))], false, false, false⟩
def zq5w {β : Type} (k1 : zq5i β) (a : Int) (a2 : Int) (b : Int) (b2 : Int) : Option β :=
  c_ratio_below a b2 b a2 (fun (rbelow : Bool) =>
  k1 rbelow)
def zq5x {β : Type} (k1 : zq5i β) (a : Int) (a2 : Int) (b : Int) (b2 : Int) : Option β := zq5w c_ratio_below k1 a a2 b b2
theorem zq5y (hΓ : ΓOk Tryd.prog (ratio_Less_X c_ratio_Valid c_ratio_below).Γ) : PieceOk Tryd.prog 57 0 ratio_Less_p1_code zq5k zq5l (ratio_Less_p1_G (zq5x c_ratio_below)) :=
  piece_exec (X := (ratio_Less_X c_ratio_Valid c_ratio_below)) (p := 7) (Λ := pick1 []) mixed tab_ok hΓ (by kernel_rfl) CutsOk_nil (fun d ks r h => Eq.trans (b := ratio_Less_p1_G (zq5x c_ratio_below) d ks) (by kernel_rfl) h)
def zq5z {β : Type} (k1 : zq5m β) (k2 : zq5n β) (t14 : Bool) (a : Int) (a2 : Int) (b : Int) (b2 : Int) : Option β :=
  cond t14
  (c_ratio_below (IntKind.i64.wrap (0 - b)) a2 (IntKind.i64.wrap (0 - a)) b2 (fun (rbelow : Bool) =>
  k1 rbelow))
  (cond (decide (a < (0 : Int)))
  (k1 (decide (a < b)))
  (cond (decide (b < (0 : Int)))
  (k1 (decide (a < b)))
  (k2 a a2 b b2)))
def zq60 {β : Type} (k1 : zq5m β) (k2 : zq5n β) (t14 : Bool) (a : Int) (a2 : Int) (b : Int) (b2 : Int) : Option β := zq5z c_ratio_below k1 k2 t14 a a2 b b2
theorem zq61 (hΓ : ΓOk Tryd.prog (ratio_Less_X c_ratio_Valid c_ratio_below).Γ) : PieceOk Tryd.prog 57 0 ratio_Less_p2_code zq5p zq5q (ratio_Less_p2_G (zq60 c_ratio_below)) :=
  piece_exec (X := (ratio_Less_X c_ratio_Valid c_ratio_below)) (p := 103) (Λ := pick1 []) mixed tab_ok hΓ (by kernel_rfl) CutsOk_nil (fun d ks r h => Eq.trans (b := ratio_Less_p2_G (zq60 c_ratio_below) d ks) (by kernel_rfl) h)
def zq62 (p2 : zq5o) {β : Type} (k1 : zq5r β) (k2 : zq5s β) (t5 : Bool) (a : Int) (a2 : Int) (b : Int) (b2 : Int) : Option β :=
  cond t5
  (k1 false)
  (cond (decide (a < (0 : Int)))
  (p2 (fun (t4 : Bool) =>
  k1 t4) (fun (a3 : Int) (a4 : Int) (b3 : Int) (b4 : Int) =>
  k2 a3 a4 b3 b4) (decide (b < (0 : Int))) a a2 b b2)
  (p2 (fun (t4 : Bool) =>
  k1 t4) (fun (a3 : Int) (a4 : Int) (b3 : Int) (b4 : Int) =>
  k2 a3 a4 b3 b4) false a a2 b b2))
def zq63 (p2 : zq5o) {β : Type} (k1 : zq5r β) (k2 : zq5s β) (t5 : Bool) (a : Int) (a2 : Int) (b : Int) (b2 : Int) : Option β := zq62 p2 k1 k2 t5 a a2 b b2
theorem zq64 (hΓ : ΓOk Tryd.prog (ratio_Less_X c_ratio_Valid c_ratio_below).Γ) (p2 : zq5o) (hp2 : PieceOk Tryd.prog 57 0 ratio_Less_p2_code zq5p zq5q (ratio_Less_p2_G p2)) : PieceOk Tryd.prog 57 0 ratio_Less_p3_code zq5u zq5v (ratio_Less_p3_G (zq63 p2)) :=
  piece_exec (X := (ratio_Less_X c_ratio_Valid c_ratio_below)) (p := 25) (Λ := pick1 [(103, pieceCut zq5p zq5q (ratio_Less_p2_G p2))]) mixed tab_ok hΓ (by kernel_rfl) (CutsOk_cons (q := 103) (c' := ratio_Less_p2_code) (by kernel_rfl) rfl hp2 CutsOk_nil) (fun d ks r h => Eq.trans (b := ratio_Less_p3_G (zq63 p2) d ks) (by kernel_rfl) h)
def zq65 (p1 : zq5j) (p3 : zq5t) {β : Type} (a : (Int × Int)) (b : (Int × Int)) (k : (Bool → Option β)) : Option β :=
  c_ratio_Valid a (fun (rValid : Bool) =>
  cond (!rValid)
  (p3 (fun (t4 : Bool) =>
  k t4) (fun (a2 : Int) (a3 : Int) (b2 : Int) (b3 : Int) =>
  p1 (fun (t4 : Bool) =>
  k t4) a2 a3 b2 b3) true a.1 a.2 b.1 b.2)
  (c_ratio_Valid b (fun (rValid2 : Bool) =>
  p3 (fun (t4 : Bool) =>
  k t4) (fun (a2 : Int) (a3 : Int) (b2 : Int) (b3 : Int) =>
  p1 (fun (t4 : Bool) =>
  k t4) a2 a3 b2 b3) (!rValid2) a.1 a.2 b.1 b.2)))
theorem zq66 (hΓ : ΓOk Tryd.prog (ratio_Less_X c_ratio_Valid c_ratio_below).Γ) (p1 : zq5j) (p3 : zq5t) (hp1 : PieceOk Tryd.prog 57 0 ratio_Less_p1_code zq5k zq5l (ratio_Less_p1_G p1)) (hp3 : PieceOk Tryd.prog 57 0 ratio_Less_p3_code zq5u zq5v (ratio_Less_p3_G p3)) : SpecOk Tryd.prog 19 (zq5h (zq65 c_ratio_Valid p1 p3)) :=
  spec_exec (X := (ratio_Less_X c_ratio_Valid c_ratio_below)) (Λ := pick1 [(7, pieceCut zq5k zq5l (ratio_Less_p1_G p1)), (25, pieceCut zq5u zq5v (ratio_Less_p3_G p3))]) (rs := [.tmp 4]) (c := bodyOf Tryd.f19) mixed tab_ok hΓ Tryd.func19 (by kernel_rfl) (by kernel_rfl) (by kernel_rfl) (by kernel_rfl) (CutsOk_cons (q := 7) (c' := ratio_Less_p1_code) (by kernel_rfl) rfl hp1 (CutsOk_cons (q := 25) (c' := ratio_Less_p3_code) (by kernel_rfl) rfl hp3 CutsOk_nil)) (fun x k r h => Eq.trans (b := (zq5h (zq65 c_ratio_Valid p1 p3)).run x k) (by kernel_rfl) h)
end
theorem zq67Γ : ΓOk Tryd.prog (pick1 [(15, .spec (zq2w zq30)), (39, .spec (zq3v zq3z))]) := (ΓOk_cons zq31 (ΓOk_cons zq40 ΓOk_nil))
def zq68 : zq5j := zq5x zq3z
theorem zq69 : PieceOk Tryd.prog 57 0 ratio_Less_p1_code zq5k zq5l (ratio_Less_p1_G zq68) := zq5y zq30 zq3z zq67Γ
def zq6a : zq5o := zq60 zq3z
theorem zq6b : PieceOk Tryd.prog 57 0 ratio_Less_p2_code zq5p zq5q (ratio_Less_p2_G zq6a) := zq61 zq30 zq3z zq67Γ
def zq6c : zq5t := zq63 zq6a
theorem zq6d : PieceOk Tryd.prog 57 0 ratio_Less_p3_code zq5u zq5v (ratio_Less_p3_G zq6c) := zq64 zq30 zq3z zq67Γ zq6a zq6b
def zq6e : zq5g := zq65 zq30 zq68 zq6c
theorem zq6f : SpecOk Tryd.prog 19 (zq5h zq6e) := zq66 zq30 zq3z zq67Γ zq68 zq6c zq69 zq6d

/-- pagewatch/pagewatchlaw02.sane -/
abbrev zq6g := {β : Type} → (Bool → Option β) → Option β
def zq6h (c : zq6g) : Spec :=
  ⟨[], [], [(false, [.data .bool])], [], fun x k => c  (fun r0 => k (((r0, ()), ()), ()))⟩
section
variable (c_ratio_Add : zq4v) (c_ratio_Mul : zq59) (c_ratio_Parse : zq4f) (c_ratio_Text : zq48)
@[reducible] def law02_sane_X : Ctx := ⟨look tab, pick1 [(13, .spec (zq4w c_ratio_Add)), (16, .spec (zq5a c_ratio_Mul)), (11, .spec (zq4g c_ratio_Parse)), (10, .spec (zq49 c_ratio_Text))], false, false, false⟩
def zq6i {β : Type} (k : (Bool → Option β)) : Option β :=
  c_ratio_Add ((1 : Int), (6 : Int)) ((1 : Int), (3 : Int)) (fun (rAdd : (Int × Int)) (rAdd2 : Int) =>
  c_ratio_Mul ((4611686018427387904 : Int), (1 : Int)) ((2 : Int), (1 : Int)) (fun (rMul : (Int × Int)) (rMul2 : Int) =>
  c_ratio_Parse ([50, 47, 52] : List UInt8) (fun (rParse : (Int × Int)) (rParse2 : Int) =>
  cond (decide (rAdd2 = (0 : Int)))
  (cond (decide (rAdd.1 = (1 : Int)) && (decide (rAdd.2 = (2 : Int)) && true))
  (cond (decide (rMul2 = (5 : Int)))
  (cond (decide (rParse2 = (2 : Int)))
  (c_ratio_Text rAdd (fun (rText : List UInt8) =>
  let t : Bool := (decide (rText = ([49, 47, 50] : List UInt8)));
  k t))
  (k false))
  (k false))
  (k false))
  (k false))))
theorem zq6j (hΓ : ΓOk Tryd.prog (law02_sane_X c_ratio_Add c_ratio_Mul c_ratio_Parse c_ratio_Text).Γ) : SpecOk Tryd.prog 8 (zq6h (zq6i c_ratio_Add c_ratio_Mul c_ratio_Parse c_ratio_Text)) :=
  spec_exec (X := (law02_sane_X c_ratio_Add c_ratio_Mul c_ratio_Parse c_ratio_Text)) (Λ := pick1 []) (rs := [.tmp 0]) (c := bodyOf Tryd.f8) mixed tab_ok hΓ Tryd.func8 (by kernel_rfl) (by kernel_rfl) (by kernel_rfl) (by kernel_rfl) CutsOk_nil (fun x k r h => Eq.trans (b := (zq6h (zq6i c_ratio_Add c_ratio_Mul c_ratio_Parse c_ratio_Text)).run x k) (by kernel_rfl) h)
end
theorem zq6kΓ : ΓOk Tryd.prog (pick1 [(13, .spec (zq4w zq50)), (16, .spec (zq5a zq5e)), (11, .spec (zq4g zq4t)), (10, .spec (zq49 zq4d))]) := (ΓOk_cons zq51 (ΓOk_cons zq5f (ΓOk_cons zq4u (ΓOk_cons zq4e ΓOk_nil))))
def zq6l : zq6g := zq6i zq50 zq5e zq4t zq4d
theorem zq6m : SpecOk Tryd.prog 8 (zq6h zq6l) := zq6j zq50 zq5e zq4t zq4d zq6kΓ

/-- pagewatch/pagewatchlaw02.RatioOrder -/
abbrev zq6n := {β : Type} → Int → Int → Int → Int → Int → (Bool → Option β) → Option β
def zq6o (c : zq6n) : Spec :=
  ⟨[(false, [.data (.int .i64)]), (false, [.data (.int .i64)]), (false, [.data (.int .i64)]), (false, [.data (.int .i64)]), (false, [.data (.int .i64)])], [], [(false, [.data .bool])], [], fun x k => c x.1.1.1 x.1.2.1.1 x.1.2.2.1.1 x.1.2.2.2.1.1 x.1.2.2.2.2.1.1 (fun r0 => k (((r0, ()), ()), ()))⟩
noncomputable def law02_RatioOrder_p1_code : Code := codeAt 31 (bodyOf Tryd.f6)
abbrev zq6p (β : Type) := Bool → Option β
abbrev zq6q := {β : Type} → zq6p β → Bool → Int → Int → Int → Int → Option β
def zq6r : View := ⟨0, [11, 12, 14], [(false, [.ptr 0 0]), (false, [.ptr 1 0]), (false, [.data .bool])], [.cells 24 [.data (.int .i64), .data (.int .i64)], .cells 24 [.data (.int .i64), .data (.int .i64)]]⟩
def zq6s : List (AExit × View) := [(.ret, ⟨0, [10], [(false, [.data .bool])], []⟩)]
@[reducible] def law02_RatioOrder_p1_G (p : zq6q) {β : Type} (d : zq6r.den) (ks : Outs.K β zq6s) : Option β :=
  p (fun a0 => ks.1 (((a0, ()), ()), ())) d.1.2.2.1.1 d.2.1.1 d.2.1.2.1 d.2.2.1.1 d.2.2.1.2.1
section
variable (c_law02_draw : zq41) (c_law02_sane : zq6g) (c_ratio_Less : zq5g) (c_ratio_Sub : zq52)
@[reducible] def law02_RatioOrder_X : Ctx := ⟨look tab, pick1 [(9, .spec (zq42 c_law02_draw)), (8, .spec (zq6h c_law02_sane)), (19, .spec (zq5h c_ratio_Less)), (14, .spec (zq53 c_ratio_Sub))], false, false, false⟩
def zq6t {β : Type} (k1 : zq6p β) (less : Bool) (x : Int) (x2 : Int) (y : Int) (y2 : Int) : Option β :=
  c_ratio_Sub (y, y2) (x, x2) (fun (rSub : (Int × Int)) (rSub2 : Int) =>
  cond (!decide (rSub2 = (0 : Int)))
  (c_law02_sane  (fun (rsane : Bool) =>
  k1 rsane))
  (cond ((decide ((0 : Int) < rSub.1)) == less)
  (c_law02_sane  (fun (rsane : Bool) =>
  k1 rsane))
  (k1 false)))
def zq6u {β : Type} (k1 : zq6p β) (less : Bool) (x : Int) (x2 : Int) (y : Int) (y2 : Int) : Option β := zq6t c_law02_sane c_ratio_Sub k1 less x x2 y y2
theorem zq6v (hΓ : ΓOk Tryd.prog (law02_RatioOrder_X c_law02_draw c_law02_sane c_ratio_Less c_ratio_Sub).Γ) : PieceOk Tryd.prog 81 0 law02_RatioOrder_p1_code zq6r zq6s (law02_RatioOrder_p1_G (zq6u c_law02_sane c_ratio_Sub)) :=
  piece_exec (X := (law02_RatioOrder_X c_law02_draw c_law02_sane c_ratio_Less c_ratio_Sub)) (p := 31) (Λ := pick1 []) mixed tab_ok hΓ (by kernel_rfl) CutsOk_nil (fun d ks r h => Eq.trans (b := law02_RatioOrder_p1_G (zq6u c_law02_sane c_ratio_Sub) d ks) (by kernel_rfl) h)
def zq6w (p1 : zq6q) {β : Type} (a : Int) (b : Int) (c : Int) (d : Int) (n : Int) (k : (Bool → Option β)) : Option β :=
  c_law02_draw a b (fun (rdraw : (Int × Int)) =>
  c_law02_draw c d (fun (rdraw2 : (Int × Int)) =>
  c_law02_draw n a (fun (rdraw3 : (Int × Int)) =>
  c_ratio_Less rdraw rdraw2 (fun (rLess : Bool) =>
  c_ratio_Less rdraw2 rdraw (fun (rLess2 : Bool) =>
  cond rLess
  (cond rLess2
  (k false)
  (cond (!rLess)
  (cond (!((decide (rdraw.1 = rdraw2.1) && (decide (rdraw.2 = rdraw2.2) && true)) == (!rLess2)))
  (k false)
  (cond rLess
  (c_ratio_Less rdraw2 rdraw3 (fun (rLess3 : Bool) =>
  cond rLess3
  (c_ratio_Less rdraw rdraw3 (fun (rLess4 : Bool) =>
  cond (!rLess4)
  (k false)
  (p1 (fun (t10 : Bool) =>
  k t10) rLess rdraw.1 rdraw.2 rdraw2.1 rdraw2.2)))
  (p1 (fun (t10 : Bool) =>
  k t10) rLess rdraw.1 rdraw.2 rdraw2.1 rdraw2.2)))
  (p1 (fun (t10 : Bool) =>
  k t10) rLess rdraw.1 rdraw.2 rdraw2.1 rdraw2.2)))
  (cond (!((decide (rdraw.1 = rdraw2.1) && (decide (rdraw.2 = rdraw2.2) && true)) == false))
  (k false)
  (cond rLess
  (c_ratio_Less rdraw2 rdraw3 (fun (rLess3 : Bool) =>
  cond rLess3
  (c_ratio_Less rdraw rdraw3 (fun (rLess4 : Bool) =>
  cond (!rLess4)
  (k false)
  (p1 (fun (t10 : Bool) =>
  k t10) rLess rdraw.1 rdraw.2 rdraw2.1 rdraw2.2)))
  (p1 (fun (t10 : Bool) =>
  k t10) rLess rdraw.1 rdraw.2 rdraw2.1 rdraw2.2)))
  (p1 (fun (t10 : Bool) =>
  k t10) rLess rdraw.1 rdraw.2 rdraw2.1 rdraw2.2)))))
  (cond (!rLess)
  (cond (!((decide (rdraw.1 = rdraw2.1) && (decide (rdraw.2 = rdraw2.2) && true)) == (!rLess2)))
  (k false)
  (cond rLess
  (c_ratio_Less rdraw2 rdraw3 (fun (rLess3 : Bool) =>
  cond rLess3
  (c_ratio_Less rdraw rdraw3 (fun (rLess4 : Bool) =>
  cond (!rLess4)
  (k false)
  (p1 (fun (t10 : Bool) =>
  k t10) rLess rdraw.1 rdraw.2 rdraw2.1 rdraw2.2)))
  (p1 (fun (t10 : Bool) =>
  k t10) rLess rdraw.1 rdraw.2 rdraw2.1 rdraw2.2)))
  (p1 (fun (t10 : Bool) =>
  k t10) rLess rdraw.1 rdraw.2 rdraw2.1 rdraw2.2)))
  (cond (!((decide (rdraw.1 = rdraw2.1) && (decide (rdraw.2 = rdraw2.2) && true)) == false))
  (k false)
  (cond rLess
  (c_ratio_Less rdraw2 rdraw3 (fun (rLess3 : Bool) =>
  cond rLess3
  (c_ratio_Less rdraw rdraw3 (fun (rLess4 : Bool) =>
  cond (!rLess4)
  (k false)
  (p1 (fun (t10 : Bool) =>
  k t10) rLess rdraw.1 rdraw.2 rdraw2.1 rdraw2.2)))
  (p1 (fun (t10 : Bool) =>
  k t10) rLess rdraw.1 rdraw.2 rdraw2.1 rdraw2.2)))
  (p1 (fun (t10 : Bool) =>
  k t10) rLess rdraw.1 rdraw.2 rdraw2.1 rdraw2.2)))))))))
theorem zq6x (hΓ : ΓOk Tryd.prog (law02_RatioOrder_X c_law02_draw c_law02_sane c_ratio_Less c_ratio_Sub).Γ) (p1 : zq6q) (hp1 : PieceOk Tryd.prog 81 0 law02_RatioOrder_p1_code zq6r zq6s (law02_RatioOrder_p1_G p1)) : SpecOk Tryd.prog 6 (zq6o (zq6w c_law02_draw c_ratio_Less p1)) :=
  spec_exec (X := (law02_RatioOrder_X c_law02_draw c_law02_sane c_ratio_Less c_ratio_Sub)) (Λ := pick1 [(31, pieceCut zq6r zq6s (law02_RatioOrder_p1_G p1))]) (rs := [.tmp 10]) (c := bodyOf Tryd.f6) mixed tab_ok hΓ Tryd.func6 (by kernel_rfl) (by kernel_rfl) (by kernel_rfl) (by kernel_rfl) (CutsOk_cons (q := 31) (c' := law02_RatioOrder_p1_code) (by kernel_rfl) rfl hp1 CutsOk_nil) (fun x k r h => Eq.trans (b := (zq6o (zq6w c_law02_draw c_ratio_Less p1)).run x k) (by kernel_rfl) h)
end
theorem zq6yΓ : ΓOk Tryd.prog (pick1 [(9, .spec (zq42 zq46)), (8, .spec (zq6h zq6l)), (19, .spec (zq5h zq6e)), (14, .spec (zq53 zq57))]) := (ΓOk_cons zq47 (ΓOk_cons zq6m (ΓOk_cons zq6f (ΓOk_cons zq58 ΓOk_nil))))
def zq6z : zq6q := zq6u zq6l zq57
theorem zq70 : PieceOk Tryd.prog 81 0 law02_RatioOrder_p1_code zq6r zq6s (law02_RatioOrder_p1_G zq6z) := zq6v zq46 zq6l zq6e zq57 zq6yΓ
def zq71 : zq6n := zq6w zq46 zq6e zq6z
theorem zq72 : SpecOk Tryd.prog 6 (zq6o zq71) := zq6x zq46 zq6l zq6e zq57 zq6yΓ zq6z zq70
end
end Go.Lift
/- Plain lemmas about functional forms: tests that are known, loops. -/
namespace Go.Lift
open Go.RowKit Go.IntWalk

section
variable {β : Type}
/-! ### Tests -/
theorem c_pos {p : Prop} [Decidable p] {a b : Option β} (h : p) : cond (decide p) a b = a := by rw [decide_eq_true h]; rfl
theorem c_neg {p : Prop} [Decidable p] {a b : Option β} (h : ¬ p) : cond (decide p) a b = b := by rw [decide_eq_false h]; rfl
theorem c_npos {p : Prop} [Decidable p] {a b : Option β} (h : p) : cond (!decide p) a b = b := by rw [decide_eq_true h]; rfl
theorem c_nneg {p : Prop} [Decidable p] {a b : Option β} (h : ¬ p) : cond (!decide p) a b = a := by rw [decide_eq_false h]; rfl
theorem c_t {a b : Option β} : cond true a b = a := rfl
theorem c_f {a b : Option β} : cond false a b = b := rfl
theorem k_eq {γ : Type} {k : γ → Option β} {x y : γ} (h : x = y) : k x = k y := by rw [h]

/-! ### Loops over the numbers from 0 on -/
end
end Go.Lift

/- Ratios in plain Lean: the greatest common divisor, New, Less. -/
namespace Go.Lift
open Go.RowKit Go.IntWalk
noncomputable section
set_option linter.unusedVariables false
set_option linter.unusedSimpArgs false
set_option maxRecDepth 10000

theorem tmod_nat {a b : Int} (ha : 0 ≤ a) (hb : 0 < b) : Int.tmod a b = ((a.toNat % b.toNat : Nat) : Int) := by
  obtain ⟨m, rfl⟩ := Int.eq_ofNat_of_zero_le ha
  obtain ⟨n, rfl⟩ := Int.eq_ofNat_of_zero_le (Int.le_of_lt hb)
  simp [Int.tmod]

/-- The greatest common divisor. -/
def gcdI (a b : Int) : Int := (Nat.gcd a.toNat b.toNat : Nat)

theorem gcdI_zero {a : Int} (ha : 0 ≤ a) : gcdI a 0 = a := by
  simp [gcdI]
  omega

theorem gcdI_step {a b : Int} (ha : 0 ≤ a) (hb : 0 < b) : gcdI b (Int.tmod a b) = gcdI a b := by
  have h := tmod_nat ha hb
  unfold gcdI
  rw [h, Int.toNat_natCast, Nat.gcd_comm b.toNat, ← Nat.gcd_rec, Nat.gcd_comm]

theorem gcdI_pos {a b : Int} (hb : 0 < b) : 1 ≤ gcdI a b := by
  have : 0 < Nat.gcd a.toNat b.toNat := Nat.gcd_pos_of_pos_right _ (by omega)
  unfold gcdI
  omega

theorem gcdI_le {a b : Int} (hb : 0 < b) : gcdI a b ≤ b := by
  have : Nat.gcd a.toNat b.toNat ≤ b.toNat := Nat.gcd_le_right _ (by omega)
  unfold gcdI
  omega

theorem ref02_gcd_n {β : Type} : ∀ (N : Nat) (a b : Int) (f : Nat), 0 ≤ a → 0 ≤ b → b.toNat ≤ N → N < f → ∀ k1 : Int → Option β, zq24 f k1 a b = k1 (gcdI a b) := by
  intro N
  induction N with
  | zero =>
    intro a b f ha hb hN hf k1
    obtain ⟨f, rfl⟩ : ∃ f', f = f' + 1 := ⟨f - 1, by omega⟩
    have : b = 0 := by omega
    subst this
    rw [zq25, gcdI_zero ha]
    unfold zq1y
    exact c_npos rfl
  | succ N ih =>
    intro a b f ha hb hN hf k1
    obtain ⟨f, rfl⟩ : ∃ f', f = f' + 1 := ⟨f - 1, by omega⟩
    rw [zq25]
    unfold zq1y
    by_cases h0 : b = 0
    · subst h0
      rw [gcdI_zero ha]
      exact c_npos rfl
    · have hb0 : 0 < b := by omega
      have h1 := tmod_nat ha hb0
      have h2 : a.toNat % b.toNat < b.toNat := Nat.mod_lt _ (by omega)
      refine (c_nneg h0).trans ?_
      refine (c_nneg h0).trans ?_
      refine (ih b (Int.tmod a b) f hb (by omega) (by omega) (by omega) k1).trans ?_
      rw [gcdI_step ha hb0]

theorem ref02_gcd_eq {β : Type} {a b : Int} (ha : 0 ≤ a) (hb : 0 ≤ b) (hb2 : b ≤ 9223372036854775807) (k : Int → Option β) : zq28 a b k = k (gcdI a b) := by
  unfold zq28 zq21 zq26
  exact ref02_gcd_n b.toNat a b fuel ha hb (Nat.le_refl _) (lt_fuel (by omega)) _

theorem ref02_size_eq {β : Type} {n : Int} (h : -9223372036854775807 ≤ n ∧ n ≤ 9223372036854775807) (k : Int → Option β) : zq2f n k = k (n.natAbs : Int) := by
  unfold zq2f zq2c
  by_cases hn : n < 0
  · refine (c_pos hn).trans (k_eq ?_)
    rw [i64_in _ (by omega)]
    omega
  · refine (c_neg hn).trans (k_eq ?_)
    omega

theorem ref02_in_eq {β : Type} (n : Int) (k : Bool → Option β) : zq2m n k = k (decide (-4611686018427387904 ≤ n ∧ n ≤ 4611686018427387904)) := by
  unfold zq2m zq2j
  by_cases h1 : -4611686018427387904 ≤ n
  · refine (c_pos h1).trans (k_eq ?_)
    by_cases h2 : n ≤ 4611686018427387904
    · rw [decide_eq_true h2, decide_eq_true (show _ ∧ _ from ⟨h1, h2⟩)]
    · rw [decide_eq_false h2, decide_eq_false (show ¬ (_ ∧ _) from fun h => h2 h.2)]
  · refine (c_neg h1).trans (k_eq ?_)
    rw [decide_eq_false (show ¬ (_ ∧ _) from fun h => h1 h.1)]

theorem ref02_New_eq {β : Type} {num den : Int} (h : -4611686018427387904 ≤ num ∧ num ≤ 4611686018427387904) (hd : 1 ≤ den ∧ den ≤ 4611686018427387904) (k : Int × Int → Int → Option β) :
    zq3e num den k = k (num.tdiv (gcdI num.natAbs den), den.tdiv (gcdI num.natAbs den)) 0 := by
  have hg := gcdI_pos (a := (num.natAbs : Int)) (b := den) (by omega)
  have hg2 := gcdI_le (a := (num.natAbs : Int)) (b := den) (by omega)
  have w1 : IntKind.i64.wrap (num.tdiv (gcdI num.natAbs den)) = num.tdiv (gcdI num.natAbs den) := by
    refine i64_in _ ?_
    have h1 : (num.tdiv (gcdI num.natAbs den)).natAbs = num.natAbs / (gcdI num.natAbs den).natAbs := Int.natAbs_tdiv _ _
    have h2 : num.natAbs / (gcdI num.natAbs den).natAbs ≤ num.natAbs := Nat.div_le_self _ _
    omega
  have w2 : IntKind.i64.wrap (den.tdiv (gcdI num.natAbs den)) = den.tdiv (gcdI num.natAbs den) := by
    refine i64_in _ ?_
    have h1 : (den.tdiv (gcdI num.natAbs den)).natAbs = den.natAbs / (gcdI num.natAbs den).natAbs := Int.natAbs_tdiv _ _
    have h2 : den.natAbs / (gcdI num.natAbs den).natAbs ≤ den.natAbs := Nat.div_le_self _ _
    omega
  unfold zq3e zq3b
  refine (ref02_in_eq num _).trans ?_
  rw [decide_eq_true h]
  simp only [Bool.not_true, c_f]
  refine (c_neg (by omega)).trans ?_
  refine (c_neg (by omega)).trans ?_
  refine (ref02_size_eq (by omega) _).trans ?_
  refine (ref02_gcd_eq (by omega) (by omega) (by omega) _).trans ?_
  refine (c_nneg (by omega)).trans ?_
  refine (c_nneg (by omega)).trans ?_
  rw [w1, w2]

theorem ratio_gcd_n {β : Type} : ∀ (N : Nat) (a b : Int) (f : Nat), 0 ≤ a → 0 ≤ b → b.toNat ≤ N → N < f → ∀ k1 : Int → Option β, zq11 f k1 a b = k1 (gcdI a b) := by
  intro N
  induction N with
  | zero =>
    intro a b f ha hb hN hf k1
    obtain ⟨f, rfl⟩ : ∃ f', f = f' + 1 := ⟨f - 1, by omega⟩
    have : b = 0 := by omega
    subst this
    rw [zq12, gcdI_zero ha]
    unfold zqv
    exact c_npos rfl
  | succ N ih =>
    intro a b f ha hb hN hf k1
    obtain ⟨f, rfl⟩ : ∃ f', f = f' + 1 := ⟨f - 1, by omega⟩
    rw [zq12]
    unfold zqv
    by_cases h0 : b = 0
    · subst h0
      rw [gcdI_zero ha]
      exact c_npos rfl
    · have hb0 : 0 < b := by omega
      have h1 := tmod_nat ha hb0
      have h2 : a.toNat % b.toNat < b.toNat := Nat.mod_lt _ (by omega)
      refine (c_nneg h0).trans ?_
      refine (c_nneg h0).trans ?_
      refine (ih b (Int.tmod a b) f hb (by omega) (by omega) (by omega) k1).trans ?_
      rw [gcdI_step ha hb0]

theorem ratio_gcd_eq {β : Type} {a b : Int} (ha : 0 ≤ a) (hb : 0 ≤ b) (hb2 : b ≤ 9223372036854775807) (k : Int → Option β) : zq15 a b k = k (gcdI a b) := by
  unfold zq15 zqy zq13
  exact ratio_gcd_n b.toNat a b fuel ha hb (Nat.le_refl _) (lt_fuel (by omega)) _

theorem ratio_size_eq {β : Type} {n : Int} (h : -9223372036854775807 ≤ n ∧ n ≤ 9223372036854775807) (k : Int → Option β) : zq1q n k = k (n.natAbs : Int) := by
  unfold zq1q zq1n
  by_cases hn : n < 0
  · refine (c_pos hn).trans (k_eq ?_)
    rw [i64_in _ (by omega)]
    omega
  · refine (c_neg hn).trans (k_eq ?_)
    omega

theorem ratio_within_eq {β : Type} (n : Int) (k : Bool → Option β) : zq1j n k = k (decide (-4611686018427387904 ≤ n ∧ n ≤ 4611686018427387904)) := by
  unfold zq1j zq1g
  by_cases h1 : -4611686018427387904 ≤ n
  · refine (c_pos h1).trans (k_eq ?_)
    by_cases h2 : n ≤ 4611686018427387904
    · rw [decide_eq_true h2, decide_eq_true (show _ ∧ _ from ⟨h1, h2⟩)]
    · rw [decide_eq_false h2, decide_eq_false (show ¬ (_ ∧ _) from fun h => h2 h.2)]
  · refine (c_neg h1).trans (k_eq ?_)
    rw [decide_eq_false (show ¬ (_ ∧ _) from fun h => h1 h.1)]

theorem ratio_New_eq {β : Type} {num den : Int} (h : -4611686018427387904 ≤ num ∧ num ≤ 4611686018427387904) (hd : 1 ≤ den ∧ den ≤ 4611686018427387904) (k : Int × Int → Int → Option β) :
    zq37 num den k = k (num.tdiv (gcdI num.natAbs den), den.tdiv (gcdI num.natAbs den)) 0 := by
  have hg := gcdI_pos (a := (num.natAbs : Int)) (b := den) (by omega)
  have hg2 := gcdI_le (a := (num.natAbs : Int)) (b := den) (by omega)
  have w1 : IntKind.i64.wrap (num.tdiv (gcdI num.natAbs den)) = num.tdiv (gcdI num.natAbs den) := by
    refine i64_in _ ?_
    have h1 : (num.tdiv (gcdI num.natAbs den)).natAbs = num.natAbs / (gcdI num.natAbs den).natAbs := Int.natAbs_tdiv _ _
    have h2 : num.natAbs / (gcdI num.natAbs den).natAbs ≤ num.natAbs := Nat.div_le_self _ _
    omega
  have w2 : IntKind.i64.wrap (den.tdiv (gcdI num.natAbs den)) = den.tdiv (gcdI num.natAbs den) := by
    refine i64_in _ ?_
    have h1 : (den.tdiv (gcdI num.natAbs den)).natAbs = den.natAbs / (gcdI num.natAbs den).natAbs := Int.natAbs_tdiv _ _
    have h2 : den.natAbs / (gcdI num.natAbs den).natAbs ≤ den.natAbs := Nat.div_le_self _ _
    omega
  unfold zq37 zq34
  refine (c_neg (by omega)).trans ?_
  refine (c_neg (by omega)).trans ?_
  refine (ratio_within_eq num _).trans ?_
  rw [decide_eq_true h]
  simp only [Bool.not_true, c_f]
  refine (ratio_size_eq (by omega) _).trans ?_
  refine (ratio_gcd_eq (by omega) (by omega) (by omega) _).trans ?_
  refine (c_nneg (by omega)).trans ?_
  refine (c_nneg (by omega)).trans ?_
  rw [w1, w2]


end
end Go.Lift

/- Exact rational numbers: plain arithmetic for the chapter 2. -/
namespace Go.Lift
noncomputable section
set_option linter.unusedVariables false
set_option linter.unusedSimpArgs false

abbrev Rat2 := Int × Int
abbrev RM : Int := 4611686018427387904
def inR (n : Int) : Bool := decide (-RM ≤ n) && decide (n ≤ RM)
theorem inR_iff {n : Int} : inR n = true ↔ -RM ≤ n ∧ n ≤ RM := by simp [inR]
/-- In lowest terms, whatever the size. -/
structure Low (r : Rat2) : Prop where
  den : 1 ≤ r.2
  cop : Int.gcd r.1 r.2 = 1
def validQ (r : Rat2) : Bool := decide (1 ≤ r.2) && (decide (r.2 ≤ RM) && (inR r.1 && decide (Int.gcd r.1 r.2 = 1)))
theorem validQ_iff {r : Rat2} : validQ r = true ↔ Low r ∧ r.2 ≤ RM ∧ -RM ≤ r.1 ∧ r.1 ≤ RM := by
  simp only [validQ, Bool.and_eq_true, decide_eq_true_eq, inR_iff]
  exact ⟨fun h => ⟨⟨h.1, h.2.2.2⟩, h.2.1, h.2.2.1⟩, fun h => ⟨h.1.den, h.2.1, h.2.2, h.1.cop⟩⟩

theorem cop_dvd {k n m : Int} (h : Int.gcd k n = 1) (hd : k ∣ n * m) : k ∣ m := by
  have h1 := Int.dvd_gcd_mul_iff_dvd_mul.2 hd
  rw [h] at h1
  simpa using h1
/-- A fraction has one form in lowest terms. -/
theorem Low.uniq {a b : Rat2} (ha : Low a) (hb : Low b) (h : a.1 * b.2 = b.1 * a.2) : a = b := by
  have h1 : a.2 ∣ b.2 := by
    have : a.2 ∣ a.1 * b.2 := ⟨b.1, by rw [h, Int.mul_comm]⟩
    exact cop_dvd (by rw [Int.gcd_comm]; exact ha.cop) this
  have h2 : b.2 ∣ a.2 := by
    have : b.2 ∣ b.1 * a.2 := ⟨a.1, by rw [← h, Int.mul_comm]⟩
    exact cop_dvd (by rw [Int.gcd_comm]; exact hb.cop) this
  have hd : a.2 = b.2 := Int.le_antisymm (Int.le_of_dvd (by have := hb.den; omega) h1) (Int.le_of_dvd (by have := ha.den; omega) h2)
  have hn : a.1 = b.1 := by
    rw [hd] at h
    exact Int.eq_of_mul_eq_mul_right (by have := hb.den; omega) h
  exact Prod.ext hn hd

/-! ### New -/
def redQ (n d : Int) : Rat2 := (n / Int.gcd n d, d / Int.gcd n d)
theorem gcd_pos' {n d : Int} (hd : 1 ≤ d) : 0 < (Int.gcd n d : Int) := by
  have : 0 < Int.gcd n d := Int.gcd_pos_of_ne_zero_right n (by omega)
  omega
theorem redQ_low {n d : Int} (hd : 1 ≤ d) : Low (redQ n d) := by
  have hg := gcd_pos' (n := n) hd
  constructor
  · unfold redQ
    simp only
    have h2 : (Int.gcd n d : Int) ∣ d := Int.gcd_dvd_right ..
    obtain ⟨c, hc⟩ := h2
    have hc1 : 1 ≤ c := by
      refine Classical.byContradiction fun hn => ?_
      have : (Int.gcd n d : Int) * c ≤ (Int.gcd n d : Int) * 0 := Int.mul_le_mul_of_nonneg_left (by omega) (by omega)
      omega
    have : d / (Int.gcd n d : Int) = c := by
      conv => lhs; lhs; rw [hc]
      exact Int.mul_ediv_cancel_left c (by omega)
    omega
  · unfold redQ
    exact Int.gcd_ediv_gcd_ediv_gcd (by omega)
theorem redQ_val {n d : Int} (hd : 1 ≤ d) : (redQ n d).1 * d = n * (redQ n d).2 := by
  have hg := gcd_pos' (n := n) hd
  obtain ⟨a, ha⟩ : (Int.gcd n d : Int) ∣ n := Int.gcd_dvd_left ..
  obtain ⟨c, hc⟩ : (Int.gcd n d : Int) ∣ d := Int.gcd_dvd_right ..
  have e1 : n / (Int.gcd n d : Int) = a := by
    conv => lhs; lhs; rw [ha]
    exact Int.mul_ediv_cancel_left a (by omega)
  have e2 : d / (Int.gcd n d : Int) = c := by
    conv => lhs; lhs; rw [hc]
    exact Int.mul_ediv_cancel_left c (by omega)
  unfold redQ
  simp only [e1, e2]
  generalize (Int.gcd n d : Int) = g at *
  rw [hc, ha, Int.mul_comm g a, Int.mul_assoc]

/-- What two numbers are made of. -/
theorem gcd_parts {n d : Int} (hd : d ≠ 0) : ∃ g A B : Int, 0 < g ∧ (Int.gcd n d : Int) = g ∧ n = g * A ∧ d = g * B ∧ n / (Int.gcd n d : Int) = A ∧ d / (Int.gcd n d : Int) = B ∧ Int.gcd A B = 1 := by
  have hg : 0 < (Int.gcd n d : Int) := by
    have := Int.gcd_pos_of_ne_zero_right n hd
    omega
  obtain ⟨a, ha⟩ : (Int.gcd n d : Int) ∣ n := Int.gcd_dvd_left ..
  obtain ⟨c, hc⟩ : (Int.gcd n d : Int) ∣ d := Int.gcd_dvd_right ..
  have e1 : n / (Int.gcd n d : Int) = a := by
    conv => lhs; lhs; rw [ha]
    exact Int.mul_ediv_cancel_left a (by omega)
  have e2 : d / (Int.gcd n d : Int) = c := by
    conv => lhs; lhs; rw [hc]
    exact Int.mul_ediv_cancel_left c (by omega)
  have e3 := Int.gcd_ediv_gcd_ediv_gcd (i := n) (j := d) (by omega)
  rw [e1, e2] at e3
  exact ⟨_, a, c, hg, rfl, ha, hc, e1, e2, e3⟩

theorem pos_of_mul {g B : Int} (hg : 0 < g) (h : 1 ≤ g * B) : 1 ≤ B := by
  refine Classical.byContradiction fun hn => ?_
  have : g * B ≤ g * 0 := Int.mul_le_mul_of_nonneg_left (by omega) (by omega)
  omega

/-! ### Products -/
/-! ### Sums -/
def sumX (a b : Rat2) : Int := a.1 * (b.2 / (Int.gcd a.2 b.2 : Int))
def sumY (a b : Rat2) : Int := b.1 * (a.2 / (Int.gcd a.2 b.2 : Int))
def sumD (a b : Rat2) : Int := (a.2 / (Int.gcd a.2 b.2 : Int)) * b.2
theorem sum_ok {a b : Rat2} (ha : 1 ≤ a.2) (hb : 1 ≤ b.2) : 1 ≤ sumD a b ∧ (sumX a b + sumY a b) * (a.2 * b.2) = (a.1 * b.2 + b.1 * a.2) * sumD a b := by
  obtain ⟨g, A, B, hg, eg, e1, e2, e3, e4, c1⟩ := gcd_parts (n := a.2) (d := b.2) (by omega)
  have hA : 1 ≤ A := pos_of_mul hg (by omega)
  unfold sumX sumY sumD
  rw [e3, e4]
  constructor
  · have : 1 * 1 ≤ A * b.2 := Int.mul_le_mul hA hb (by omega) (by omega)
    omega
  · rw [e1, e2, Int.add_mul, Int.add_mul]
    simp only [Int.mul_assoc, Int.mul_comm, Int.mul_left_comm]

/-- The functions of the package, with their error numbers. -/
def addR (a b : Rat2) : Rat2 × Int :=
  if validQ a && validQ b then
    if inR (sumX a b) && (inR (sumY a b) && (inR (sumD a b) && inR (sumX a b + sumY a b))) then (redQ (sumX a b + sumY a b) (sumD a b), 0) else ((0, 0), 5)
  else ((0, 0), 8)
def subR (a b : Rat2) : Rat2 × Int := if validQ a && validQ b then addR a (-b.1, b.2) else ((0, 0), 8)
def lessR (a b : Rat2) : Bool := validQ a && (validQ b && decide (a.1 * b.2 < b.1 * a.2))

theorem redQ_bd {n d : Int} (hd : 1 ≤ d) (hn : inR n = true) (hD : inR d = true) : validQ (redQ n d) = true := by
  rw [validQ_iff]
  refine ⟨redQ_low hd, ?_⟩
  obtain ⟨g, A, B, hg, eg, e1, e2, e3, e4, c1⟩ := gcd_parts (n := n) (d := d) (by omega)
  have hB : 1 ≤ B := pos_of_mul hg (by omega)
  rw [inR_iff] at hn hD
  unfold redQ
  rw [e3, e4]
  simp only
  have b1 : 1 * B ≤ g * B := Int.mul_le_mul_of_nonneg_right (by omega) (by omega)
  refine ⟨by omega, ?_⟩
  rcases Int.le_total 0 A with h | h
  · have : 1 * A ≤ g * A := Int.mul_le_mul_of_nonneg_right (by omega) h
    omega
  · have : 1 * (-A) ≤ g * (-A) := Int.mul_le_mul_of_nonneg_right (by omega) (by omega)
    simp only [Int.mul_neg] at this
    omega

/-- What a sum is, if there is one. -/
theorem addR_ok {a b : Rat2} (ha : validQ a = true) (hb : validQ b = true) : (addR a b).2 = 5 ∨ ((addR a b).2 = 0 ∧ validQ (addR a b).1 = true ∧ (addR a b).1.1 * (a.2 * b.2) = (a.1 * b.2 + b.1 * a.2) * (addR a b).1.2) := by
  have la := (validQ_iff.1 ha).1
  have lb := (validQ_iff.1 hb).1
  unfold addR
  rw [ha, hb]
  simp only [Bool.and_self, if_true]
  by_cases h : (inR (sumX a b) && (inR (sumY a b) && (inR (sumD a b) && inR (sumX a b + sumY a b)))) = true
  · rw [if_pos h]
    simp only [Bool.and_eq_true] at h
    obtain ⟨h1, h2, h3, h4⟩ := h
    obtain ⟨s1, s2⟩ := sum_ok (a := a) (b := b) la.den lb.den
    refine .inr ⟨rfl, redQ_bd s1 h4 h3, ?_⟩
    have v := redQ_val (n := sumX a b + sumY a b) s1
    simp only
    generalize redQ (sumX a b + sumY a b) (sumD a b) = q at v
    generalize sumX a b + sumY a b = S at *
    generalize sumD a b = D at *
    have hD : D ≠ 0 := by omega
    refine Int.eq_of_mul_eq_mul_right hD ?_
    calc q.1 * (a.2 * b.2) * D = q.1 * D * (a.2 * b.2) := by simp only [Int.mul_assoc, Int.mul_comm, Int.mul_left_comm]
      _ = S * q.2 * (a.2 * b.2) := by rw [v]
      _ = S * (a.2 * b.2) * q.2 := by simp only [Int.mul_assoc, Int.mul_comm, Int.mul_left_comm]
      _ = (a.1 * b.2 + b.1 * a.2) * D * q.2 := by rw [s2]
      _ = (a.1 * b.2 + b.1 * a.2) * q.2 * D := by simp only [Int.mul_assoc, Int.mul_comm, Int.mul_left_comm]
  · rw [if_neg h]
    exact .inl rfl

theorem neg_valid {b : Rat2} (hb : validQ b = true) : validQ (-b.1, b.2) = true := by
  rw [validQ_iff] at hb ⊢
  obtain ⟨l, h1, h2, h3⟩ := hb
  refine ⟨⟨l.den, ?_⟩, h1, by simp only; omega, by simp only; omega⟩
  show Int.gcd (-b.1) b.2 = 1
  rw [Int.neg_gcd]
  exact l.cop

/-! ### Quotients -/
/-! ### The order -/
theorem less_asymm {a b : Rat2} (h : lessR a b = true) : lessR b a = false := by
  unfold lessR at *
  simp only [Bool.and_eq_true, decide_eq_true_eq] at h
  rw [h.1, h.2.1, decide_eq_false (by omega)]
  rfl
theorem less_none {a b : Rat2} (ha : validQ a = true) (hb : validQ b = true) : (a = b) ↔ (lessR a b = false ∧ lessR b a = false) := by
  have la := (validQ_iff.1 ha).1
  have lb := (validQ_iff.1 hb).1
  unfold lessR
  rw [ha, hb]
  simp only [Bool.true_and, decide_eq_false_iff_not]
  constructor
  · rintro rfl
    exact ⟨by omega, by omega⟩
  · rintro ⟨h1, h2⟩
    exact la.uniq lb (by omega)
theorem less_trans {a b c : Rat2} (h1 : lessR a b = true) (h2 : lessR b c = true) : lessR a c = true := by
  unfold lessR at *
  simp only [Bool.and_eq_true, decide_eq_true_eq] at *
  obtain ⟨va, vb, h1⟩ := h1
  obtain ⟨_, vc, h2⟩ := h2
  refine ⟨va, vc, ?_⟩
  have da := (validQ_iff.1 va).1.den
  have db := (validQ_iff.1 vb).1.den
  have dc := (validQ_iff.1 vc).1.den
  have m1 : a.1 * b.2 * c.2 < b.1 * a.2 * c.2 := Int.mul_lt_mul_of_pos_right h1 (by omega)
  have m2 : b.1 * c.2 * a.2 < c.1 * b.2 * a.2 := Int.mul_lt_mul_of_pos_right h2 (by omega)
  have e1 : b.1 * a.2 * c.2 = b.1 * c.2 * a.2 := by simp only [Int.mul_assoc, Int.mul_comm, Int.mul_left_comm]
  have m3 : a.1 * c.2 * b.2 < c.1 * a.2 * b.2 := by
    have e2 : a.1 * b.2 * c.2 = a.1 * c.2 * b.2 := by simp only [Int.mul_assoc, Int.mul_comm, Int.mul_left_comm]
    have e3 : c.1 * b.2 * a.2 = c.1 * a.2 * b.2 := by simp only [Int.mul_assoc, Int.mul_comm, Int.mul_left_comm]
    omega
  exact Int.lt_of_mul_lt_mul_right m3 (by omega)
/-- The order is that of the differences. -/
theorem less_sub {a b : Rat2} (ha : validQ a = true) (hb : validQ b = true) (h : (subR b a).2 = 0) : decide ((subR b a).1.1 > 0) = lessR a b := by
  have la := (validQ_iff.1 ha).1
  have lb := (validQ_iff.1 hb).1
  have hna := neg_valid ha
  unfold subR at h ⊢
  rw [ha, hb] at h ⊢
  simp only [Bool.and_self, if_true] at h ⊢
  rcases addR_ok hb hna with h5 | ⟨_, hv, hval⟩
  · rw [h] at h5; cases h5
  · unfold lessR
    rw [ha, hb]
    simp only [Bool.true_and]
    generalize (addR b (-a.1, a.2)).1 = q at hv hval ⊢
    simp only at hval
    have dq := (validQ_iff.1 hv).1.den
    have da := la.den
    have db := lb.den
    have hp : 0 < b.2 * a.2 := Int.mul_pos (by omega) (by omega)
    have e : b.1 * a.2 + -a.1 * b.2 = b.1 * a.2 - a.1 * b.2 := by rw [Int.neg_mul]; omega
    rw [e] at hval
    apply decide_eq_decide.2
    constructor
    · intro h1
      have : 0 < q.1 * (b.2 * a.2) := Int.mul_pos h1 hp
      rw [hval] at this
      have := Int.pos_of_mul_pos_left this (by omega)
      omega
    · intro h1
      have : 0 < (b.1 * a.2 - a.1 * b.2) * q.2 := Int.mul_pos (by omega) (by omega)
      rw [← hval] at this
      exact Int.pos_of_mul_pos_left this hp
end
end Go.Lift

/- Exact rational numbers: how the reference compares and multiplies; products of 128 bits. -/
namespace Go.Lift
noncomputable section
set_option linter.unusedVariables false
set_option linter.unusedSimpArgs false

/-- The high half of a product of two numbers of 64 bits, as the library makes it. -/
theorem mul_hi {x y : Nat} :
    (x / 4294967296) * (y / 4294967296) + ((x / 4294967296) * (y % 4294967296) + (x % 4294967296) * (y % 4294967296) / 4294967296) / 4294967296 +
      (((x / 4294967296) * (y % 4294967296) + (x % 4294967296) * (y % 4294967296) / 4294967296) % 4294967296 + (x % 4294967296) * (y / 4294967296)) / 4294967296 = x * y / 18446744073709551616 := by
  have ex := Nat.div_add_mod x 4294967296
  have ey := Nat.div_add_mod y 4294967296
  generalize x / 4294967296 = x1 at *
  generalize x % 4294967296 = x0 at *
  generalize y / 4294967296 = y1 at *
  generalize y % 4294967296 = y0 at *
  have e : x * y = 18446744073709551616 * (x1 * y1) + 4294967296 * (x1 * y0) + 4294967296 * (x0 * y1) + x0 * y0 := by
    rw [← ex, ← ey, Nat.add_mul, Nat.mul_add, Nat.mul_add]
    have a1 : 4294967296 * x1 * (4294967296 * y1) = 18446744073709551616 * (x1 * y1) := by
      rw [Nat.mul_mul_mul_comm]
    have a2 : 4294967296 * x1 * y0 = 4294967296 * (x1 * y0) := Nat.mul_assoc ..
    have a3 : x0 * (4294967296 * y1) = 4294967296 * (x0 * y1) := Nat.mul_left_comm ..
    rw [a1, a2, a3]
    omega
  rw [e]
  generalize x1 * y1 = p
  generalize x1 * y0 = q
  generalize x0 * y1 = r
  generalize x0 * y0 = s
  omega

/-- Products of 128 bits compare as the products do. -/
theorem hilo_lt {p q : Nat} : (p / 18446744073709551616 < q / 18446744073709551616 ∨ (p / 18446744073709551616 = q / 18446744073709551616 ∧ p % 18446744073709551616 < q % 18446744073709551616)) ↔ p < q := by omega
end
end Go.Lift

/- Exact rational numbers: small numbers; ratios that are drawn. -/
namespace Go.Lift
noncomputable section
set_option linter.unusedVariables false
set_option linter.unusedSimpArgs false

/-- The statements' own remainder. -/
theorem mod_bd (x : Int) {n : Int} (hn : 0 < n) : 0 ≤ Int.tmod (Int.tmod x n + n) n ∧ Int.tmod (Int.tmod x n + n) n < n := by
  have h1 : -n < Int.tmod x n := by
    rcases Int.le_total 0 x with h | h
    · have := Int.tmod_nonneg n h
      omega
    · have e : Int.tmod x n = -Int.tmod (-x) n := by rw [Int.neg_tmod]; omega
      have := Int.tmod_lt_of_pos (-x) hn
      omega
  exact ⟨Int.tmod_nonneg n (by omega), Int.tmod_lt_of_pos _ hn⟩

end
end Go.Lift

/- The code's ratios, function by function: what each one computes, for all inputs. -/
namespace Go.Lift
open Go.RowKit Go.IntWalk
noncomputable section
set_option linter.unusedVariables false
set_option linter.unusedSimpArgs false
set_option maxRecDepth 10000

theorem u64_mod (n : Int) : IntKind.u64.wrap n = n % 18446744073709551616 := by
  unfold IntKind.wrap
  simp [IntKind.signed, IntKind.bits]

theorem bits_lo (x : Nat) : bitsOf .and .u64 (x : Int) 4294967295 = ((x % 4294967296 : Nat) : Int) := by
  show IntKind.u64.wrap _ = _
  rw [u64_mod]
  have h : (BitVec.ofInt 64 (x : Int) &&& BitVec.ofInt 64 4294967295).toNat = x % 4294967296 := by
    rw [BitVec.toNat_and]
    have e1 : (BitVec.ofInt 64 (x : Int)).toNat = x % 2 ^ 64 := by simp [BitVec.toNat_ofInt]
    have e2 : (BitVec.ofInt 64 4294967295).toNat = 2 ^ 32 - 1 := by decide
    rw [e1, e2, Nat.and_two_pow_sub_one_eq_mod]
    omega
  show ((BitVec.ofInt 64 (x : Int) &&& BitVec.ofInt 64 4294967295).toNat : Int) % _ = _
  rw [h]
  omega

theorem bits_hi (x : Nat) : shiftOf .shr .u64 (x : Int) 32 = ((x / 4294967296 : Nat) : Int) := by
  show Int.fdiv (x : Int) (2 ^ 32) = _
  rw [Int.fdiv_eq_ediv_of_nonneg _ (by decide)]
  norm_cast

theorem u64_nat {n : Nat} (h : n < 18446744073709551616) : IntKind.u64.wrap (n : Int) = n := by rw [u64_mod]; omega

theorem mul64_eq {β : Type} {x y : Nat} (hx : x < 18446744073709551616) (hy : y < 18446744073709551616) (k : Int → Int → Option β) :
    zq2t (x : Int) (y : Int) k = k ((x * y / 18446744073709551616 : Nat) : Int) ((x * y % 18446744073709551616 : Nat) : Int) := by
  have hm := mul_hi (x := x) (y := y)
  have lo : ∀ n : Nat, n % 4294967296 < 4294967296 := fun n => Nat.mod_lt _ (by decide)
  have hi : ∀ n : Nat, n < 18446744073709551616 → n / 4294967296 < 4294967296 := fun n h => by omega
  have mm : ∀ a b : Nat, a < 4294967296 → b < 4294967296 → a * b ≤ 4294967295 * 4294967295 := fun a b h1 h2 => Nat.mul_le_mul (by omega) (by omega)
  have b00 := mm _ _ (lo x) (lo y)
  have b10 := mm _ _ (hi x hx) (lo y)
  have b01 := mm _ _ (lo x) (hi y hy)
  have b11 := mm _ _ (hi x hx) (hi y hy)
  unfold zq2t zq2q
  simp only [bits_lo, bits_hi, c_pos (show (0 : Int) ≤ 32 by decide), ← Int.natCast_mul]
  rw [u64_nat (n := x % 4294967296 * (y % 4294967296)) (by omega), u64_nat (n := x / 4294967296 * (y % 4294967296)) (by omega), u64_nat (n := x % 4294967296 * (y / 4294967296)) (by omega), u64_nat (n := x / 4294967296 * (y / 4294967296)) (by omega)]
  simp only [bits_lo, bits_hi, ← Int.natCast_add]
  rw [u64_nat (n := x / 4294967296 * (y % 4294967296) + x % 4294967296 * (y % 4294967296) / 4294967296) (by omega)]
  simp only [bits_lo, bits_hi, ← Int.natCast_add]
  have hT : x / 4294967296 * (y % 4294967296) + x % 4294967296 * (y % 4294967296) / 4294967296 < 18446744073709551616 := by omega
  generalize x / 4294967296 * (y % 4294967296) + x % 4294967296 * (y % 4294967296) / 4294967296 = T at *
  have hW : T % 4294967296 + x % 4294967296 * (y / 4294967296) < 18446744073709551616 := by omega
  rw [u64_nat hW]
  simp only [bits_lo, bits_hi, ← Int.natCast_add]
  generalize hW' : (T % 4294967296 + x % 4294967296 * (y / 4294967296)) / 4294967296 = W at *
  have hxy : x * y < 18446744073709551616 * 18446744073709551616 := by
    rcases Nat.eq_zero_or_pos x with rfl | h
    · omega
    · exact Nat.lt_of_le_of_lt (Nat.mul_le_mul (Nat.le_of_lt_succ (Nat.lt_succ_of_lt hx)) (Nat.le_of_lt_succ (Nat.lt_succ_of_lt hy)) |> fun _ => Nat.mul_le_mul (Nat.le_pred_of_lt hx) (Nat.le_pred_of_lt hy)) (by decide)
  have hq : x * y / 18446744073709551616 < 18446744073709551616 := Nat.div_lt_of_lt_mul hxy
  rw [u64_nat (n := x / 4294967296 * (y / 4294967296) + T / 4294967296) (by omega)]
  simp only [← Int.natCast_add]
  rw [u64_nat (by omega), u64_mod, hm]
  rfl

theorem gcdI_gcd {n d : Int} (hd : 0 ≤ d) : gcdI (n.natAbs : Int) d = (Int.gcd n d : Int) := by
  unfold gcdI
  rw [Int.toNat_natCast]
  have : d.toNat = d.natAbs := by omega
  rw [this]
  rfl

theorem tdiv_gcdl (n d : Int) : Int.tdiv n (Int.gcd n d : Int) = n / (Int.gcd n d : Int) := Int.tdiv_eq_ediv_of_dvd (Int.gcd_dvd_left ..)
theorem tdiv_gcdr (n d : Int) : Int.tdiv d (Int.gcd n d : Int) = d / (Int.gcd n d : Int) := Int.tdiv_eq_ediv_of_dvd (Int.gcd_dvd_right ..)

/-- A quotient by a divisor is no greater. -/
theorem quo_bd {n g : Int} (hg : 0 < g) (h : g ∣ n) {M : Int} (h1 : -M ≤ n) (h2 : n ≤ M) : -M ≤ n / g ∧ n / g ≤ M := by
  obtain ⟨q, rfl⟩ := h
  rw [Int.mul_ediv_cancel_left _ (by omega)]
  have hM : 0 ≤ M := by omega
  rcases Int.le_total 0 q with hq | hq
  · have : q ≤ g * q := by
      have := Int.mul_le_mul_of_nonneg_right (show 1 ≤ g by omega) hq
      omega
    exact ⟨by omega, by omega⟩
  · have : g * q ≤ q := by
      have := Int.mul_le_mul_of_nonpos_right (show 1 ≤ g by omega) hq
      omega
    exact ⟨by omega, by omega⟩

theorem quo_pos {n g : Int} (hg : 0 < g) (h : g ∣ n) (h1 : 1 ≤ n) : 1 ≤ n / g := by
  obtain ⟨q, rfl⟩ := h
  rw [Int.mul_ediv_cancel_left _ (by omega)]
  exact pos_of_mul hg h1

theorem ratio_Valid_eq {β : Type} (r : Int × Int) (k : Bool → Option β) : zq30 r k = k (validQ r) := by
  unfold zq30 zq2x validQ
  by_cases h1 : 1 ≤ r.2
  · refine (c_pos h1).trans ?_
    by_cases h2 : r.2 ≤ 4611686018427387904
    · refine (c_pos h2).trans ?_
      refine (ratio_within_eq _ _).trans ?_
      by_cases h3 : -4611686018427387904 ≤ r.1 ∧ r.1 ≤ 4611686018427387904
      · refine (c_pos h3).trans ?_
        refine (ratio_size_eq (by omega) _).trans ?_
        refine (ratio_gcd_eq (by omega) (by omega) (by omega) _).trans (k_eq ?_)
        rw [gcdI_gcd (by omega), decide_eq_true h1, decide_eq_true (show r.2 ≤ RM from h2), inR_iff.2 h3]
        simp only [Bool.true_and]
        congr 1
        exact propext ⟨fun h => by omega, fun h => by omega⟩
      · refine (c_neg h3).trans (k_eq ?_)
        have : inR r.1 = false := by
          cases h : inR r.1 with
          | false => rfl
          | true => exact absurd (inR_iff.1 h) h3
        rw [this]; simp
    · refine (c_neg h2).trans (k_eq ?_)
      rw [decide_eq_false (show ¬ r.2 ≤ RM from h2)]; simp
  · refine (c_neg h1).trans (k_eq ?_)
    rw [decide_eq_false h1]; simp

theorem natAbs_mul_cast (a b : Int) : (((a.natAbs * b.natAbs : Nat) : Int)) = if (decide (a < 0)) == (decide (b < 0)) then a * b else -(a * b) := by
  rw [Int.natCast_mul]
  by_cases ha : a < 0 <;> by_cases hb : b < 0
  · simp only [ha, hb, decide_true, beq_self_eq_true, if_true]
    rw [show (a.natAbs : Int) = -a by omega, show (b.natAbs : Int) = -b by omega, Int.neg_mul_neg]
  · simp only [ha, hb, decide_true, decide_false]
    rw [show (a.natAbs : Int) = -a by omega, show (b.natAbs : Int) = b by omega, Int.neg_mul]
    simp
  · simp only [ha, hb, decide_true, decide_false]
    rw [show (a.natAbs : Int) = a by omega, show (b.natAbs : Int) = -b by omega, Int.mul_neg]
    simp
  · simp only [ha, hb, decide_false, beq_self_eq_true, if_true]
    rw [show (a.natAbs : Int) = a by omega, show (b.natAbs : Int) = b by omega]

theorem inR_abs {a b : Int} : inR (a * b) = decide (a.natAbs * b.natAbs ≤ 4611686018427387904) := by
  have h : (a * b).natAbs = a.natAbs * b.natAbs := Int.natAbs_mul a b
  rw [← h]
  unfold inR
  rw [← Bool.decide_and]
  congr 1
  exact propext ⟨fun h => by have h1 := h.1; have h2 := h.2; simp only [RM] at h1 h2; omega, fun h => by simp only [RM]; omega⟩

theorem ratio_times_eq {β : Type} {a b : Int} (ha : -RM ≤ a ∧ a ≤ RM) (hb : -RM ≤ b ∧ b ≤ RM) (k : Int → Bool → Option β) : zq3l a b k = cond (inR (a * b)) (k (a * b) true) (k 0 false) := by
  have ha' : -4611686018427387904 ≤ a ∧ a ≤ 4611686018427387904 := ha
  have hb' : -4611686018427387904 ≤ b ∧ b ≤ 4611686018427387904 := hb
  unfold zq3l zq3i
  refine (ratio_size_eq (by omega) _).trans ?_
  refine (ratio_size_eq (by omega) _).trans ?_
  rw [u64_nat (by omega), u64_nat (by omega)]
  refine (mul64_eq (by omega) (by omega) _).trans ?_
  have hc := natAbs_mul_cast a b
  rw [inR_abs]
  generalize hp : a.natAbs * b.natAbs = p at *
  by_cases hle : p ≤ 4611686018427387904
  · rw [decide_eq_true hle, c_t]
    have e1 : p / 18446744073709551616 = 0 := by omega
    have e2 : p % 18446744073709551616 = p := by omega
    rw [e1, e2]
    refine (c_npos rfl).trans ?_
    refine (c_neg (by omega)).trans ?_
    have w : IntKind.i64.wrap (p : Int) = p := i64_in _ (by omega)
    cases hs : (decide (a < 0)) == (decide (b < 0)) with
    | true =>
      rw [hs, if_pos rfl] at hc
      simp only [Bool.not_true, c_f]
      rw [w, hc]
    | false =>
      rw [hs] at hc
      simp only [Bool.false_eq_true, if_false] at hc
      simp only [Bool.not_false, c_t]
      rw [w, i64_in _ (by omega), hc]
      congr 1
      omega
  · rw [decide_eq_false hle, c_f]
    by_cases h0 : ((p / 18446744073709551616 : Nat) : Int) = 0
    · refine (c_npos h0).trans ?_
      exact c_pos (by omega)
    · exact c_nneg h0

theorem ratio_plus_eq {β : Type} {a b : Int} (ha : inR a = true) (hb : inR b = true) (k : Int → Bool → Option β) : zq1c a b k = cond (inR (a + b)) (k (a + b) true) (k 0 false) := by
  have ha' : -4611686018427387904 ≤ a ∧ a ≤ 4611686018427387904 := inR_iff.1 ha
  have hb' : -4611686018427387904 ≤ b ∧ b ≤ 4611686018427387904 := inR_iff.1 hb
  have hin : inR (a + b) = decide (-4611686018427387904 ≤ a + b ∧ a + b ≤ 4611686018427387904) := by
    unfold inR
    rw [← Bool.decide_and]
  rw [hin]
  have w3 : -4611686018427387904 ≤ a + b ∧ a + b ≤ 4611686018427387904 → IntKind.i64.wrap (a + b) = a + b := fun h => i64_in _ (by omega)
  unfold zq1c zq19
  by_cases h1 : 0 < a
  · refine (c_pos h1).trans ?_
    rw [i64_in (4611686018427387904 - a) (by omega)]
    by_cases h2 : 4611686018427387904 - a < b
    · refine (c_pos h2).trans ?_
      exact (c_neg (by omega)).symm
    · refine (c_neg h2).trans ?_
      refine (c_neg (by omega)).trans ?_
      rw [w3 (by omega)]
      exact (c_pos (by omega)).symm
  · refine (c_neg h1).trans ?_
    by_cases h2 : a < 0
    · refine (c_pos h2).trans ?_
      rw [i64_in (-4611686018427387904 - a) (by omega)]
      by_cases h3 : b < -4611686018427387904 - a
      · refine (c_pos h3).trans ?_
        exact (c_neg (by omega)).symm
      · refine (c_neg h3).trans ?_
        rw [w3 (by omega)]
        exact (c_pos (by omega)).symm
    · refine (c_neg h2).trans ?_
      rw [w3 (by omega)]
      exact (c_pos (by omega)).symm
end
end Go.Lift

/- The code's ratios: sums, products, quotients, which is less. -/
namespace Go.Lift
open Go.RowKit Go.IntWalk
noncomputable section
set_option linter.unusedVariables false
set_option linter.unusedSimpArgs false
set_option maxRecDepth 10000

theorem gcdI_gcd' {n d : Int} (hn : 0 ≤ n) (hd : 0 ≤ d) : gcdI n d = (Int.gcd n d : Int) := by
  have := gcdI_gcd (n := n) hd
  rwa [show (n.natAbs : Int) = n by omega] at this

theorem c_tt {β : Type} {p : Bool} {a b : Option β} (h : p = true) : cond p a b = a := by subst h; rfl
theorem c_ff {β : Type} {p : Bool} {a b : Option β} (h : p = false) : cond p a b = b := by subst h; rfl

structure VB (a : Rat2) : Prop where
  low : Low a
  d1 : 1 ≤ a.2
  d2 : a.2 ≤ 4611686018427387904
  n1 : -4611686018427387904 ≤ a.1
  n2 : a.1 ≤ 4611686018427387904

theorem vb {a : Rat2} (h : validQ a = true) : VB a := by
  obtain ⟨l, h1, h2, h3⟩ := validQ_iff.1 h
  exact ⟨l, l.den, h1, h2, h3⟩

theorem ratio_Add_eq {β : Type} (a b : Rat2) (k : Rat2 → Int → Option β) : zq50 a b k = k (addR a b).1 (addR a b).2 := by
  unfold zq50 zq4x addR
  refine (ratio_Valid_eq _ _).trans ?_
  cases va : validQ a with
  | false => rfl
  | true =>
    simp only [Bool.not_true, c_f, Bool.true_and]
    refine (ratio_Valid_eq _ _).trans ?_
    cases vb' : validQ b with
    | false => rfl
    | true =>
      simp only [Bool.not_true, c_f, if_true]
      have A := vb va
      have B := vb vb'
      have a1 := A.d1; have a2 := A.d2; have a3 := A.n1; have a4 := A.n2
      have b1 := B.d1; have b2 := B.d2; have b3 := B.n1; have b4 := B.n2
      refine (ratio_gcd_eq (by omega) (by omega) (by omega) _).trans ?_
      rw [gcdI_gcd' (by omega) (by omega)]
      have hg : 0 < (Int.gcd a.2 b.2 : Int) := gcd_pos' b1
      have q1 := quo_bd hg (Int.gcd_dvd_right ..) (M := 4611686018427387904) (n := b.2) (by omega) (by omega)
      have q2 := quo_bd hg (Int.gcd_dvd_left ..) (M := 4611686018427387904) (n := a.2) (by omega) (by omega)
      have p1 := quo_pos hg (Int.gcd_dvd_right ..) (n := b.2) (by omega)
      have p2 := quo_pos hg (Int.gcd_dvd_left ..) (n := a.2) (by omega)
      simp only [tdiv_gcdr, tdiv_gcdl, i64_in (b.2 / (Int.gcd a.2 b.2 : Int)) (by omega), i64_in (a.2 / (Int.gcd a.2 b.2 : Int)) (by omega)]
      have hg0 : ¬ ((Int.gcd a.2 b.2 : Int) = 0) := by omega
      have t1 : ∀ k : Int → Bool → Option β, zq3l a.1 (b.2 / (Int.gcd a.2 b.2 : Int)) k = cond (inR (sumX a b)) (k (sumX a b) true) (k 0 false) := fun k => ratio_times_eq ⟨a3, a4⟩ q1 k
      have t2 : ∀ k : Int → Bool → Option β, zq3l b.1 (a.2 / (Int.gcd a.2 b.2 : Int)) k = cond (inR (sumY a b)) (k (sumY a b) true) (k 0 false) := fun k => ratio_times_eq ⟨b3, b4⟩ q2 k
      have t3 : ∀ k : Int → Bool → Option β, zq3l (a.2 / (Int.gcd a.2 b.2 : Int)) b.2 k = cond (inR (sumD a b)) (k (sumD a b) true) (k 0 false) := fun k => ratio_times_eq q2 ⟨by simp only [RM]; omega, b2⟩ k
      simp only [t1, t2, t3, c_nneg hg0]
      by_cases h1 : inR (sumX a b) = true
      · refine (c_tt h1).trans ?_
        by_cases h2 : inR (sumY a b) = true
        · refine (c_tt h2).trans ?_
          by_cases h3 : inR (sumD a b) = true
          · refine (c_tt h3).trans ?_
            refine (c_ff rfl).trans ?_
            refine (c_ff rfl).trans ?_
            refine (c_ff rfl).trans ?_
            refine (ratio_plus_eq h1 h2 _).trans ?_
            by_cases h4 : inR (sumX a b + sumY a b) = true
            · refine (c_tt h4).trans ?_
              refine (c_ff rfl).trans ?_
              have hd1 := (sum_ok (a := a) (b := b) a1 b1).1
              have hd2 := inR_iff.1 h3
              refine (ratio_New_eq (inR_iff.1 h4) ⟨hd1, hd2.2⟩ _).trans ?_
              rw [gcdI_gcd (by omega), tdiv_gcdl, tdiv_gcdr, h1, h2, h3, h4]
              rfl
            · refine (c_ff (by simpa using h4)).trans ?_
              refine (c_tt rfl).trans ?_
              simp [h4]
          · refine (c_ff (by simpa using h3)).trans ?_
            refine (c_ff rfl).trans ?_
            refine (c_ff rfl).trans ?_
            refine (c_tt rfl).trans ?_
            simp [h3]
        · refine (c_ff (by simpa using h2)).trans ?_
          by_cases h3 : inR (sumD a b) = true
          · refine (c_tt h3).trans ?_
            refine (c_ff rfl).trans ?_
            refine (c_tt rfl).trans ?_
            simp [h2]
          · refine (c_ff (by simpa using h3)).trans ?_
            refine (c_ff rfl).trans ?_
            refine (c_tt rfl).trans ?_
            simp [h2]
      · refine (c_ff (by simpa using h1)).trans ?_
        by_cases h2 : inR (sumY a b) = true
        · refine (c_tt h2).trans ?_
          by_cases h3 : inR (sumD a b) = true
          · refine (c_tt h3).trans ?_
            refine (c_tt rfl).trans ?_
            simp [h1]
          · refine (c_ff (by simpa using h3)).trans ?_
            refine (c_tt rfl).trans ?_
            simp [h1]
        · refine (c_ff (by simpa using h2)).trans ?_
          by_cases h3 : inR (sumD a b) = true
          · refine (c_tt h3).trans ?_
            refine (c_tt rfl).trans ?_
            simp [h1]
          · refine (c_ff (by simpa using h3)).trans ?_
            refine (c_tt rfl).trans ?_
            simp [h1]

theorem ratio_Sub_eq {β : Type} (a b : Rat2) (k : Rat2 → Int → Option β) : zq57 a b k = k (subR a b).1 (subR a b).2 := by
  unfold zq57 zq54 subR
  refine (ratio_Valid_eq _ _).trans ?_
  cases va : validQ a with
  | false => rfl
  | true =>
    refine (ratio_Valid_eq _ _).trans ?_
    cases vb' : validQ b with
    | false => rfl
    | true =>
      have B := vb vb'
      have b3 := B.n1; have b4 := B.n2
      simp only [Bool.not_true, Bool.and_self, if_true, c_f]
      rw [i64_in (0 - b.1) (by omega), show 0 - b.1 = -b.1 by omega]
      exact ratio_Add_eq _ _ _

theorem ratio_below_eq {β : Type} {a b c d : Int} (ha : 0 ≤ a ∧ a ≤ 4611686018427387904) (hb : 0 ≤ b ∧ b ≤ 4611686018427387904) (hc : 0 ≤ c ∧ c ≤ 4611686018427387904) (hd : 0 ≤ d ∧ d ≤ 4611686018427387904) (k : Bool → Option β) :
    zq3z a b c d k = k (decide (a * b < c * d)) := by
  obtain ⟨x, rfl⟩ := Int.eq_ofNat_of_zero_le ha.1
  obtain ⟨y, rfl⟩ := Int.eq_ofNat_of_zero_le hb.1
  obtain ⟨z, rfl⟩ := Int.eq_ofNat_of_zero_le hc.1
  obtain ⟨w, rfl⟩ := Int.eq_ofNat_of_zero_le hd.1
  unfold zq3z zq3w
  rw [u64_nat (by omega), u64_nat (by omega), u64_nat (by omega), u64_nat (by omega)]
  refine (mul64_eq (by omega) (by omega) _).trans ?_
  refine (mul64_eq (by omega) (by omega) _).trans ?_
  have h := @hilo_lt (x * y) (z * w)
  rw [← Int.natCast_mul, ← Int.natCast_mul]
  by_cases h1 : x * y / 18446744073709551616 < z * w / 18446744073709551616
  · refine (c_pos (by omega)).trans (k_eq ?_)
    exact (decide_eq_true (by have := h.1 (.inl h1); omega)).symm
  · refine (c_neg (by omega)).trans ?_
    by_cases h2 : x * y / 18446744073709551616 = z * w / 18446744073709551616
    · refine (c_pos (by omega)).trans (k_eq ?_)
      congr 1
      exact propext ⟨fun q => by have := h.1 (.inr ⟨h2, by omega⟩); omega, fun q => by
        rcases h.2 (by omega) with q1 | q1
        · exact absurd q1 h1
        · omega⟩
    · refine (c_neg (by omega)).trans (k_eq ?_)
      exact (decide_eq_false fun q => by
        rcases h.2 (by omega) with q1 | q1
        · exact h1 q1
        · exact h2 q1.1).symm
end
end Go.Lift

/- The examples of the chapter on ratios. -/
namespace Go.Lift
noncomputable section
set_option maxRecDepth 100000
theorem law02_sane_eq {β : Type} (k : Bool → Option β) : zq6l k = k true := by kernel_rfl
end
end Go.Lift

/- The code's ratios: which is less; ratios that are drawn. -/
namespace Go.Lift
open Go.RowKit Go.IntWalk
noncomputable section
set_option linter.unusedVariables false
set_option linter.unusedSimpArgs false
set_option maxRecDepth 10000

theorem ratio_Less_eq {β : Type} (a b : Rat2) (k : Bool → Option β) : zq6e a b k = k (lessR a b) := by
  unfold zq6e zq65 lessR
  refine (ratio_Valid_eq _ _).trans ?_
  cases va : validQ a with
  | false => rfl
  | true =>
    refine (c_ff rfl).trans ?_
    refine (ratio_Valid_eq _ _).trans ?_
    cases vb' : validQ b with
    | false => rfl
    | true =>
      have A := vb va
      have B := vb vb'
      have a1 := A.d1; have a2 := A.d2; have a3 := A.n1; have a4 := A.n2
      have b1 := B.d1; have b2 := B.d2; have b3 := B.n1; have b4 := B.n2
      simp only [Bool.true_and]
      unfold zq6c zq63 zq62
      refine (c_ff rfl).trans ?_
      by_cases ha : a.1 < 0
      · refine (c_pos ha).trans ?_
        unfold zq6a zq60 zq5z
        by_cases hb : b.1 < 0
        · refine (c_pos hb).trans ?_
          rw [i64_in (0 - b.1) (by omega), i64_in (0 - a.1) (by omega)]
          refine (ratio_below_eq (by omega) (by omega) (by omega) (by omega) _).trans (k_eq ?_)
          rw [show 0 - b.1 = -b.1 by omega, show 0 - a.1 = -a.1 by omega, Int.neg_mul, Int.neg_mul]
          congr 1
          exact propext ⟨fun h => by omega, fun h => by omega⟩
        · refine (c_neg hb).trans ?_
          refine (c_pos ha).trans (k_eq ?_)
          have h1 : a.1 * b.2 < 0 := Int.mul_neg_of_neg_of_pos ha (by omega)
          have h2 : 0 ≤ b.1 * a.2 := Int.mul_nonneg (by omega) (by omega)
          rw [decide_eq_true (show a.1 < b.1 by omega), decide_eq_true (show a.1 * b.2 < b.1 * a.2 by omega)]
      · refine (c_neg ha).trans ?_
        unfold zq6a zq60 zq5z
        refine (c_ff rfl).trans ?_
        refine (c_neg ha).trans ?_
        by_cases hb : b.1 < 0
        · refine (c_pos hb).trans (k_eq ?_)
          have h1 : b.1 * a.2 < 0 := Int.mul_neg_of_neg_of_pos hb (by omega)
          have h2 : 0 ≤ a.1 * b.2 := Int.mul_nonneg (by omega) (by omega)
          rw [decide_eq_false (show ¬ a.1 < b.1 by omega), decide_eq_false (show ¬ a.1 * b.2 < b.1 * a.2 by omega)]
        · refine (c_neg hb).trans ?_
          unfold zq68 zq5x zq5w
          exact ratio_below_eq (by omega) (by omega) (by omega) (by omega) _

/-- The remainder that is not negative. -/
def modI (x n : Int) : Int := Int.tmod (Int.tmod x n + n) n
theorem modI_bd (x : Int) {n : Int} (hn : 0 < n) : 0 ≤ modI x n ∧ modI x n < n := mod_bd x hn
theorem made_Mod_eq2 {β : Type} (x : Int) {n : Int} (hn : 0 < n) (hn2 : n ≤ 1000000) (k : Int → Option β) : zq5 x n k = k (modI x n) := by
  have h1 : Int.tmod x n < n := Int.tmod_lt_of_pos _ hn
  have h2 : -n < Int.tmod x n := by
    have := Int.tmod_lt_of_pos (-x) hn
    rw [Int.neg_tmod] at this
    omega
  unfold zq5 zq2
  rw [i64_in _ (by omega)]
  refine (c_nneg (by omega)).trans ?_
  exact c_nneg (by omega)

theorem ref02_New_red {β : Type} {num den : Int} (h : -4611686018427387904 ≤ num ∧ num ≤ 4611686018427387904) (hd : 1 ≤ den ∧ den ≤ 4611686018427387904) (k : Int × Int → Int → Option β) : zq3e num den k = k (redQ num den) 0 := by
  rw [ref02_New_eq h hd, gcdI_gcd (by omega), tdiv_gcdl, tdiv_gcdr]
  rfl
theorem redQ_valid {num den : Int} (h : -4611686018427387904 ≤ num ∧ num ≤ 4611686018427387904) (hd : 1 ≤ den ∧ den ≤ 4611686018427387904) : validQ (redQ num den) = true :=
  redQ_bd hd.1 (inR_iff.2 h) (inR_iff.2 ⟨by simp only [RM]; omega, hd.2⟩)

theorem draw_eq (n d : Int) : ∃ x : Rat2, validQ x = true ∧ ∀ (β : Type) (k : Rat2 → Option β), zq46 n d k = k x := by
  have m5 := modI_bd n (n := 5) (by decide)
  have m9 := modI_bd d (n := 9) (by decide)
  have m7 := modI_bd n (n := 7) (by decide)
  have m99 := modI_bd n (n := 99) (by decide)
  have m201 := modI_bd n (n := 201) (by decide)
  have m60 := modI_bd d (n := 60) (by decide)
  by_cases h0 : modI n 5 = 0
  · refine ⟨redQ (4611686018427387904 - modI d 9) (1 + modI n 7), redQ_valid (by omega) (by omega), fun β k => ?_⟩
    unfold zq46 zq43
    refine (made_Mod_eq2 _ (by decide) (by decide) _).trans ?_
    refine (c_pos h0).trans ?_
    refine (made_Mod_eq2 _ (by decide) (by decide) _).trans ?_
    refine (made_Mod_eq2 _ (by decide) (by decide) _).trans ?_
    rw [i64_in _ (by omega), i64_in _ (by omega)]
    exact ref02_New_red (by omega) (by omega) _
  · by_cases h1 : modI n 5 = 1
    · refine ⟨redQ (modI n 99 - 49) (4611686018427387904 - modI d 9), redQ_valid (by omega) (by omega), fun β k => ?_⟩
      unfold zq46 zq43
      refine (made_Mod_eq2 _ (by decide) (by decide) _).trans ?_
      refine (c_neg h0).trans ?_
      refine (c_pos h1).trans ?_
      refine (made_Mod_eq2 _ (by decide) (by decide) _).trans ?_
      refine (made_Mod_eq2 _ (by decide) (by decide) _).trans ?_
      rw [i64_in _ (by omega), i64_in _ (by omega)]
      exact ref02_New_red (by omega) (by omega) _
    · refine ⟨redQ (modI n 201 - 100) (1 + modI d 60), redQ_valid (by omega) (by omega), fun β k => ?_⟩
      unfold zq46 zq43
      refine (made_Mod_eq2 _ (by decide) (by decide) _).trans ?_
      refine (c_neg h0).trans ?_
      refine (c_neg h1).trans ?_
      refine (made_Mod_eq2 _ (by decide) (by decide) _).trans ?_
      refine (made_Mod_eq2 _ (by decide) (by decide) _).trans ?_
      rw [i64_in _ (by omega), i64_in _ (by omega)]
      exact ref02_New_red (by omega) (by omega) _
end
end Go.Lift

/- RatioOrder: one of less, equal, greater; transitive; the order of the differences. -/
namespace Go.Lift
open Go.RowKit Go.IntWalk
noncomputable section
set_option linter.unusedVariables false
set_option maxRecDepth 10000

theorem eq2_iff (x y : Rat2) : (decide (x.1 = y.1) && (decide (x.2 = y.2) && true)) = decide (x = y) := by
  obtain ⟨x1, x2⟩ := x
  obtain ⟨y1, y2⟩ := y
  simp only [Bool.and_true, ← Bool.decide_and, Prod.mk.injEq]

theorem order_p1 {β : Type} {x y : Rat2} (hx : validQ x = true) (hy : validQ y = true) (k : Bool → Option β) : zq6z k (lessR x y) x.1 x.2 y.1 y.2 = k true := by
  unfold zq6z zq6u zq6t
  refine (ratio_Sub_eq _ _ _).trans ?_
  by_cases h : (subR y x).2 = 0
  · refine (c_npos h).trans ?_
    have := less_sub hx hy h
    refine (c_tt ?_).trans (law02_sane_eq _)
    rw [← this]
    simp
  · exact (c_nneg h).trans (law02_sane_eq _)

theorem law_order {β : Type} (a b c d n : Int) (k : Bool → Option β) : zq71 a b c d n k = k true := by
  obtain ⟨x, hx, dx⟩ := draw_eq a b
  obtain ⟨y, hy, dy⟩ := draw_eq c d
  obtain ⟨z, hz, dz⟩ := draw_eq n a
  unfold zq71 zq6w
  refine (dx _ _).trans ?_
  refine (dy _ _).trans ?_
  refine (dz _ _).trans ?_
  refine (ratio_Less_eq _ _ _).trans ?_
  refine (ratio_Less_eq _ _ _).trans ?_
  have hn := less_none hx hy
  have P := order_p1 hx hy k
  cases h1 : lessR x y with
  | true =>
    rw [h1] at P
    have h2 := less_asymm h1
    have hne : (decide (x.1 = y.1) && (decide (x.2 = y.2) && true)) = false := by
      rw [eq2_iff]
      exact decide_eq_false fun h => by have := (hn.1 h).1; rw [h1] at this; cases this
    rw [h2, hne]
    refine (c_tt rfl).trans ?_
    refine (c_ff rfl).trans ?_
    refine (c_ff rfl).trans ?_
    refine (c_ff rfl).trans ?_
    refine (c_tt rfl).trans ?_
    refine (ratio_Less_eq _ _ _).trans ?_
    cases h3 : lessR y z with
    | false => exact (c_ff rfl).trans P
    | true =>
      refine (c_tt rfl).trans ?_
      refine (ratio_Less_eq _ _ _).trans ?_
      rw [less_trans h1 h3]
      exact (c_ff rfl).trans P
  | false =>
    rw [h1] at P
    refine (c_ff rfl).trans ?_
    refine (c_tt rfl).trans ?_
    cases h2 : lessR y x with
    | false =>
      have he : x = y := hn.2 ⟨h1, h2⟩
      rw [eq2_iff, decide_eq_true he]
      refine (c_ff rfl).trans ?_
      exact (c_ff rfl).trans P
    | true =>
      rw [eq2_iff, decide_eq_false fun h => by have := (hn.1 h).2; rw [h2] at this; cases this]
      refine (c_ff rfl).trans ?_
      exact (c_ff rfl).trans P
end
end Go.Lift

