/- Part6: Fn0, LBase, LRatio, LRat, LRat2, LRat3, LRatFn, LRatFn2, LRatSane, LRatFn3, LRatOrder, LRatProds. -/
import Derived.Test.YtaecjejknbbndaaDoorProg
import Derived.KernelRfl
import Derived.Test.YtaecjejknbbndaaDoorPart5
namespace Go.Lift
open Go.Proofs
noncomputable section
set_option maxRecDepth 100000
set_option linter.unusedVariables false



def tab : List (Nat × TI) := [
  (3, ⟨false, 1, 8, [.int .i64 (0 : Int)], [], none, none, (some (.int .i64)), (some .i64), false, false, none, none⟩),
  (4, ⟨false, 1, 1, [.bool false], [], none, none, (some .bool), none, true, false, none, none⟩),
  (9, ⟨false, 1, 16, [.str ([] : List UInt8)], [], none, none, (some .str), none, false, true, none, none⟩),
  (24, ⟨true, 2, 16, [.int .i64 (0 : Int), .int .i64 (0 : Int)], [(0, 1, false), (1, 1, false)], none, none, (some (.prod (.int .i64) (.int .i64))), none, false, false, (some [.i, .i]), none⟩),
  (46, ⟨false, 1, 16, [.err true], [], none, none, (some .err), none, false, false, none, none⟩),
  (55, ⟨false, 1, 8, [.int .u64 (0 : Int)], [], none, none, (some (.int .u64)), (some .u64), false, false, none, none⟩)]

theorem tab_ok : TOk Tryd.prog (look tab) := TOk_of (by kernel_rfl)
theorem mixed : Tryd.prog.follows .mixedOrders = true := by kernel_rfl

/-- pagewatch/pagewatchmade.Mod -/
abbrev zq0 := {β : Type} → Int → Int → (Int → Option β) → Option β
def zq1 (c : zq0) : Spec :=
  ⟨[(false, [.data (.int .i64)]), (false, [.data (.int .i64)])], [], [(false, [.data (.int .i64)])], [], fun x k => c x.1.1.1 x.1.2.1.1 (fun r0 => k (((r0, ()), ()), ()))⟩
section
@[reducible] def made_Mod_X : Ctx := ⟨look tab, pick1 [], false, false, false⟩
def zq2 {β : Type} (x : Int) (n : Int) (k : (Int → Option β)) : Option β :=
  cond (!decide (n = 0))
  (cond (!decide (n = 0))
  (let t : Int := (Int.tmod (IntKind.i64.wrap ((Int.tmod x n) + n)) n);
  k t)
  none)
  none
theorem zq3 (hΓ : ΓOk Tryd.prog made_Mod_X.Γ) : SpecOk Tryd.prog 18 (zq1 (zq2)) :=
  spec_exec (X := made_Mod_X) (Λ := pick1 []) (rs := [.tmp 4]) (c := bodyOf Tryd.f18) mixed tab_ok hΓ Tryd.func18 (by kernel_rfl) (by kernel_rfl) (by kernel_rfl) (by kernel_rfl) CutsOk_nil (fun x k r h => Eq.trans (b := (zq1 (zq2)).run x k) (by kernel_rfl) h)
end
theorem zq4Γ : ΓOk Tryd.prog (pick1 []) := ΓOk_nil
def zq5 : zq0 := zq2
theorem zq6 : SpecOk Tryd.prog 18 (zq1 zq5) := zq3 zq4Γ

/-- strconv.Itoa -/
def zq7 : Shelf.Ren :=
      { 
      f := fun x =>
        match x with
        | 171 => 29
        | 243 => 46
        | 246 => 52
        | 283 => 59
        | 284 => 60
        | 285 => 61
        | 286 => 62
        | 129 => 71
        | 317 => 70
        | 318 => 72
        | 319 => 73
        | 320 => 74
        | 337 => 79
        | 338 => 80
        | n => n,
      t := fun x =>
        match x with
        | 3 => 3
        | 9 => 9
        | 2 => 2
        | 4 => 4
        | 171 => 69
        | 0 => 0
        | 53 => 55
        | 37 => 62
        | 5 => 5
        | 173 => 72
        | 212 => 82
        | 51 => 83
        | 20 => 20
        | 213 => 84
        | 46 => 68
        | 232 => 95
        | 233 => 96
        | n => n,
      g := fun x =>
        match x with
        | 17 => 3
        | 18 => 4
        | 19 => 5
        | n => n }
theorem zq8 : Go.Proofs.LaysM.n171 Tryd.prog zq7 :=
  { mixed := by kernel_rfl,
    f129 := Eq.trans Tryd.func71 (congrArg some (by kernel_rfl)),
    f171 := Eq.trans Tryd.func29 (congrArg some (by kernel_rfl)),
    f243 := Eq.trans Tryd.func46 (congrArg some (by kernel_rfl)),
    f246 := Eq.trans Tryd.func52 (congrArg some (by kernel_rfl)),
    f283 := Eq.trans Tryd.func59 (congrArg some (by kernel_rfl)),
    f284 := Eq.trans Tryd.func60 (congrArg some (by kernel_rfl)),
    f285 := Eq.trans Tryd.func61 (congrArg some (by kernel_rfl)),
    f286 := Eq.trans Tryd.func62 (congrArg some (by kernel_rfl)),
    f317 := Eq.trans Tryd.func70 (congrArg some (by kernel_rfl)),
    f318 := Eq.trans Tryd.func72 (congrArg some (by kernel_rfl)),
    f319 := Eq.trans Tryd.func73 (congrArg some (by kernel_rfl)),
    f320 := Eq.trans Tryd.func74 (congrArg some (by kernel_rfl)),
    f337 := Eq.trans Tryd.func79 (congrArg some (by kernel_rfl)),
    f338 := Eq.trans Tryd.func80 (congrArg some (by kernel_rfl)),
    t0 := Tryd.underlying0,
    a0 := Tryd.isAgg0,
    z0 := Tryd.sizeOf0,
    v0 := Tryd.zeroValue0,
    t2 := Tryd.underlying2,
    a2 := Tryd.isAgg2,
    z2 := Tryd.sizeOf2,
    v2 := Tryd.zeroValue2,
    t3 := Tryd.underlying3,
    a3 := Tryd.isAgg3,
    z3 := Tryd.sizeOf3,
    v3 := Tryd.zeroValue3,
    t4 := Tryd.underlying4,
    a4 := Tryd.isAgg4,
    z4 := Tryd.sizeOf4,
    v4 := Tryd.zeroValue4,
    t5 := Tryd.underlying5,
    a5 := Tryd.isAgg5,
    z5 := Tryd.sizeOf5,
    v5 := Tryd.zeroValue5,
    t9 := Tryd.underlying9,
    a9 := Tryd.isAgg9,
    z9 := Tryd.sizeOf9,
    v9 := Tryd.zeroValue9,
    t20 := Tryd.underlying20,
    a20 := Tryd.isAgg20,
    z20 := Tryd.sizeOf20,
    v20 := Tryd.zeroValue20,
    t37 := Tryd.underlying62,
    a37 := Tryd.isAgg62,
    z37 := Tryd.sizeOf62,
    v37 := Tryd.zeroValue62,
    t46 := Tryd.underlying68,
    a46 := Tryd.isAgg68,
    z46 := Tryd.sizeOf68,
    v46 := Tryd.zeroValue68,
    t51 := Tryd.underlying83,
    a51 := Tryd.isAgg83,
    z51 := Tryd.sizeOf83,
    v51 := Tryd.zeroValue83,
    t53 := Tryd.underlying55,
    a53 := Tryd.isAgg55,
    z53 := Tryd.sizeOf55,
    v53 := Tryd.zeroValue55,
    t171 := Tryd.underlying69,
    a171 := Tryd.isAgg69,
    z171 := Tryd.sizeOf69,
    v171 := Tryd.zeroValue69,
    t173 := Tryd.underlying72,
    a173 := Tryd.isAgg72,
    z173 := Tryd.sizeOf72,
    v173 := Tryd.zeroValue72,
    t212 := Tryd.underlying82,
    a212 := Tryd.isAgg82,
    z212 := Tryd.sizeOf82,
    v212 := Tryd.zeroValue82,
    t213 := Tryd.underlying84,
    a213 := Tryd.isAgg84,
    z213 := Tryd.sizeOf84,
    t232 := Tryd.underlying95,
    a232 := Tryd.isAgg95,
    z232 := Tryd.sizeOf95,
    v232 := Tryd.zeroValue95,
    t233 := Tryd.underlying96,
    a233 := Tryd.isAgg96,
    z233 := Tryd.sizeOf96,
    v233 := Tryd.zeroValue96,
    g17 := by kernel_rfl,
    g18 := by kernel_rfl,
    g19 := by kernel_rfl,
    i0 := by kernel_rfl,
    i2 := by kernel_rfl,
    i3 := by kernel_rfl,
    i4 := by kernel_rfl,
    i5 := by kernel_rfl,
    i9 := by kernel_rfl,
    i20 := by kernel_rfl,
    i37 := by kernel_rfl,
    i46 := by kernel_rfl,
    i51 := by kernel_rfl,
    i53 := by kernel_rfl,
    i171 := by kernel_rfl,
    i173 := by kernel_rfl,
    i212 := by kernel_rfl,
    i232 := by kernel_rfl,
    i233 := by kernel_rfl,
    m17 := by kernel_rfl,
    m18 := by kernel_rfl,
    m19 := by kernel_rfl }
abbrev zq9 := itoaT
def zqa (c : zq9) : Spec := itoaS c
def zqb : zq9 := fun x k => itoaF x k
theorem zqc : SpecOk Tryd.prog 29 (zqa zqb) :=
  itoa_ok zq8 rfl (g := 3) (by kernel_rfl) ⟨_, Tryd.func29, by kernel_rfl, by kernel_rfl⟩

/-- strings.Cut -/
def zqd : Shelf.Ren :=
      { 
      f := fun x =>
        match x with
        | 145 => 30
        | 220 => 47
        | 219 => 53
        | 217 => 63
        | 225 => 64
        | 224 => 65
        | 267 => 66
        | 266 => 75
        | 314 => 76
        | n => n,
      t := fun x =>
        match x with
        | 9 => 9
        | 4 => 4
        | 59 => 43
        | 3 => 3
        | 5 => 5
        | 46 => 68
        | 146 => 86
        | 51 => 83
        | n => n,
      g := fun x =>
        match x with
        | 1 => 0
        | n => n }
theorem zqe : Go.Proofs.Lays.n145 Tryd.prog zqd :=
  { mixed := by kernel_rfl,
    f145 := Eq.trans Tryd.func30 (congrArg some (by kernel_rfl)),
    f217 := Eq.trans Tryd.func63 (congrArg some (by kernel_rfl)),
    f219 := Eq.trans Tryd.func53 (congrArg some (by kernel_rfl)),
    f220 := Eq.trans Tryd.func47 (congrArg some (by kernel_rfl)),
    f224 := Eq.trans Tryd.func65 (congrArg some (by kernel_rfl)),
    f225 := Eq.trans Tryd.func64 (congrArg some (by kernel_rfl)),
    f266 := Eq.trans Tryd.func75 (congrArg some (by kernel_rfl)),
    f267 := Eq.trans Tryd.func66 (congrArg some (by kernel_rfl)),
    f314 := Eq.trans Tryd.func76 (congrArg some (by kernel_rfl)),
    t3 := Tryd.underlying3,
    a3 := Tryd.isAgg3,
    z3 := Tryd.sizeOf3,
    v3 := Tryd.zeroValue3,
    t4 := Tryd.underlying4,
    a4 := Tryd.isAgg4,
    z4 := Tryd.sizeOf4,
    v4 := Tryd.zeroValue4,
    t5 := Tryd.underlying5,
    a5 := Tryd.isAgg5,
    z5 := Tryd.sizeOf5,
    v5 := Tryd.zeroValue5,
    t9 := Tryd.underlying9,
    a9 := Tryd.isAgg9,
    z9 := Tryd.sizeOf9,
    v9 := Tryd.zeroValue9,
    t46 := Tryd.underlying68,
    a46 := Tryd.isAgg68,
    z46 := Tryd.sizeOf68,
    v46 := Tryd.zeroValue68,
    t51 := Tryd.underlying83,
    a51 := Tryd.isAgg83,
    z51 := Tryd.sizeOf83,
    v51 := Tryd.zeroValue83,
    t59 := Tryd.underlying43,
    a59 := Tryd.isAgg43,
    z59 := Tryd.sizeOf43,
    v59 := Tryd.zeroValue43,
    t146 := Tryd.underlying86,
    a146 := Tryd.isAgg86,
    z146 := Tryd.sizeOf86,
    v146 := Tryd.zeroValue86,
    g1 := by kernel_rfl }
abbrev zqf := cutT
def zqg (c : zqf) : Spec := cutS c
def zqh : zqf := fun x y k => cutF x y k
theorem zqi : SpecOk Tryd.prog 30 (zqg zqh) :=
  cut_ok zqe rfl (of_decide_eq_true (by kernel_rfl)) (fun w0 h0 => Go.Proofs.cell_of_shapedOpen_int (P := Tryd.prog) (g := 0) (t := 3) (zero := #[.int .i64 0]) h0 (of_decide_eq_true (by kernel_rfl)) (by kernel_rfl) rfl (by kernel_rfl) (by kernel_rfl) Tryd.underlying3) ⟨_, Tryd.func30, by kernel_rfl, by kernel_rfl⟩

/-- strconv.Atoi -/
def zqj : Shelf.Ren :=
      { 
      f := fun x =>
        match x with
        | 172 => 31
        | 244 => 48
        | 245 => 49
        | 247 => 54
        | 279 => 55
        | 280 => 56
        | 281 => 57
        | 282 => 58
        | 287 => 67
        | 316 => 68
        | 171 => 29
        | 205 => 69
        | 321 => 77
        | 322 => 78
        | 243 => 46
        | 246 => 52
        | 283 => 59
        | 284 => 60
        | 285 => 61
        | 286 => 62
        | 129 => 71
        | 317 => 70
        | 318 => 72
        | 319 => 73
        | 320 => 74
        | 337 => 79
        | 338 => 80
        | n => n,
      t := fun x =>
        match x with
        | 9 => 9
        | 3 => 3
        | 75 => 46
        | 76 => 47
        | 4 => 4
        | 5 => 5
        | 167 => 61
        | 37 => 62
        | 0 => 0
        | 85 => 63
        | 2 => 2
        | 168 => 65
        | 53 => 55
        | 175 => 75
        | 46 => 68
        | 210 => 79
        | 127 => 90
        | 145 => 93
        | 143 => 91
        | 21 => 21
        | 171 => 69
        | 173 => 72
        | 212 => 82
        | 51 => 83
        | 20 => 20
        | 213 => 84
        | 232 => 95
        | 233 => 96
        | 80 => 97
        | n => n,
      g := fun x =>
        match x with
        | 15 => 1
        | 16 => 2
        | 17 => 3
        | 18 => 4
        | 19 => 5
        | n => n }
theorem zqk : Go.Proofs.LaysC.n172 Tryd.prog zqj :=
  { mixed := by kernel_rfl,
    f129 := Eq.trans Tryd.func71 (congrArg some (by kernel_rfl)),
    f171 := Eq.trans Tryd.func29 (congrArg some (by kernel_rfl)),
    f172 := Eq.trans Tryd.func31 (congrArg some (by kernel_rfl)),
    f205 := Eq.trans Tryd.func69 (congrArg some (by kernel_rfl)),
    f243 := Eq.trans Tryd.func46 (congrArg some (by kernel_rfl)),
    f244 := Eq.trans Tryd.func48 (congrArg some (by kernel_rfl)),
    f245 := Eq.trans Tryd.func49 (congrArg some (by kernel_rfl)),
    f246 := Eq.trans Tryd.func52 (congrArg some (by kernel_rfl)),
    f247 := Eq.trans Tryd.func54 (congrArg some (by kernel_rfl)),
    f279 := Eq.trans Tryd.func55 (congrArg some (by kernel_rfl)),
    f280 := Eq.trans Tryd.func56 (congrArg some (by kernel_rfl)),
    f281 := Eq.trans Tryd.func57 (congrArg some (by kernel_rfl)),
    f282 := Eq.trans Tryd.func58 (congrArg some (by kernel_rfl)),
    f283 := Eq.trans Tryd.func59 (congrArg some (by kernel_rfl)),
    f284 := Eq.trans Tryd.func60 (congrArg some (by kernel_rfl)),
    f285 := Eq.trans Tryd.func61 (congrArg some (by kernel_rfl)),
    f286 := Eq.trans Tryd.func62 (congrArg some (by kernel_rfl)),
    f287 := Eq.trans Tryd.func67 (congrArg some (by kernel_rfl)),
    f316 := Eq.trans Tryd.func68 (congrArg some (by kernel_rfl)),
    f317 := Eq.trans Tryd.func70 (congrArg some (by kernel_rfl)),
    f318 := Eq.trans Tryd.func72 (congrArg some (by kernel_rfl)),
    f319 := Eq.trans Tryd.func73 (congrArg some (by kernel_rfl)),
    f320 := Eq.trans Tryd.func74 (congrArg some (by kernel_rfl)),
    f321 := Eq.trans Tryd.func77 (congrArg some (by kernel_rfl)),
    f322 := Eq.trans Tryd.func78 (congrArg some (by kernel_rfl)),
    f337 := Eq.trans Tryd.func79 (congrArg some (by kernel_rfl)),
    f338 := Eq.trans Tryd.func80 (congrArg some (by kernel_rfl)),
    t0 := Tryd.underlying0,
    a0 := Tryd.isAgg0,
    z0 := Tryd.sizeOf0,
    v0 := Tryd.zeroValue0,
    t2 := Tryd.underlying2,
    a2 := Tryd.isAgg2,
    z2 := Tryd.sizeOf2,
    v2 := Tryd.zeroValue2,
    t3 := Tryd.underlying3,
    a3 := Tryd.isAgg3,
    z3 := Tryd.sizeOf3,
    v3 := Tryd.zeroValue3,
    t4 := Tryd.underlying4,
    a4 := Tryd.isAgg4,
    z4 := Tryd.sizeOf4,
    v4 := Tryd.zeroValue4,
    t5 := Tryd.underlying5,
    a5 := Tryd.isAgg5,
    z5 := Tryd.sizeOf5,
    v5 := Tryd.zeroValue5,
    t9 := Tryd.underlying9,
    a9 := Tryd.isAgg9,
    z9 := Tryd.sizeOf9,
    v9 := Tryd.zeroValue9,
    t20 := Tryd.underlying20,
    a20 := Tryd.isAgg20,
    z20 := Tryd.sizeOf20,
    v20 := Tryd.zeroValue20,
    t21 := Tryd.underlying21,
    a21 := Tryd.isAgg21,
    z21 := Tryd.sizeOf21,
    v21 := Tryd.zeroValue21,
    t37 := Tryd.underlying62,
    a37 := Tryd.isAgg62,
    z37 := Tryd.sizeOf62,
    v37 := Tryd.zeroValue62,
    t46 := Tryd.underlying68,
    a46 := Tryd.isAgg68,
    z46 := Tryd.sizeOf68,
    v46 := Tryd.zeroValue68,
    t51 := Tryd.underlying83,
    a51 := Tryd.isAgg83,
    z51 := Tryd.sizeOf83,
    v51 := Tryd.zeroValue83,
    t53 := Tryd.underlying55,
    a53 := Tryd.isAgg55,
    z53 := Tryd.sizeOf55,
    v53 := Tryd.zeroValue55,
    t75 := Tryd.underlying46,
    a75 := Tryd.isAgg46,
    z75 := Tryd.sizeOf46,
    v75 := Tryd.zeroValue46,
    t76 := Tryd.underlying47,
    a76 := Tryd.isAgg47,
    z76 := Tryd.sizeOf47,
    v76 := Tryd.zeroValue47,
    t85 := Tryd.underlying63,
    a85 := Tryd.isAgg63,
    z85 := Tryd.sizeOf63,
    v85 := Tryd.zeroValue63,
    t127 := Tryd.underlying90,
    a127 := Tryd.isAgg90,
    z127 := Tryd.sizeOf90,
    v127 := Tryd.zeroValue90,
    t143 := Tryd.underlying91,
    a143 := Tryd.isAgg91,
    z143 := Tryd.sizeOf91,
    v143 := Tryd.zeroValue91,
    t145 := Tryd.underlying93,
    a145 := Tryd.isAgg93,
    z145 := Tryd.sizeOf93,
    v145 := Tryd.zeroValue93,
    t167 := Tryd.underlying61,
    a167 := Tryd.isAgg61,
    z167 := Tryd.sizeOf61,
    v167 := Tryd.zeroValue61,
    t168 := Tryd.underlying65,
    a168 := Tryd.isAgg65,
    z168 := Tryd.sizeOf65,
    v168 := Tryd.zeroValue65,
    t171 := Tryd.underlying69,
    a171 := Tryd.isAgg69,
    z171 := Tryd.sizeOf69,
    v171 := Tryd.zeroValue69,
    t173 := Tryd.underlying72,
    a173 := Tryd.isAgg72,
    z173 := Tryd.sizeOf72,
    v173 := Tryd.zeroValue72,
    t175 := Tryd.underlying75,
    a175 := Tryd.isAgg75,
    z175 := Tryd.sizeOf75,
    v175 := Tryd.zeroValue75,
    t210 := Tryd.underlying79,
    a210 := Tryd.isAgg79,
    z210 := Tryd.sizeOf79,
    v210 := Tryd.zeroValue79,
    t212 := Tryd.underlying82,
    a212 := Tryd.isAgg82,
    z212 := Tryd.sizeOf82,
    v212 := Tryd.zeroValue82,
    t213 := Tryd.underlying84,
    a213 := Tryd.isAgg84,
    z213 := Tryd.sizeOf84,
    t232 := Tryd.underlying95,
    a232 := Tryd.isAgg95,
    z232 := Tryd.sizeOf95,
    v232 := Tryd.zeroValue95,
    t233 := Tryd.underlying96,
    a233 := Tryd.isAgg96,
    z233 := Tryd.sizeOf96,
    v233 := Tryd.zeroValue96,
    g15 := by kernel_rfl,
    g16 := by kernel_rfl,
    g17 := by kernel_rfl,
    g18 := by kernel_rfl,
    g19 := by kernel_rfl,
    t80 := Tryd.underlying97,
    a80 := Tryd.isAgg97,
    z80 := Tryd.sizeOf97,
    v80 := Tryd.zeroValue97,
    i0 := by kernel_rfl,
    i2 := by kernel_rfl,
    i3 := by kernel_rfl,
    i4 := by kernel_rfl,
    i5 := by kernel_rfl,
    i9 := by kernel_rfl,
    i20 := by kernel_rfl,
    i21 := by kernel_rfl,
    i37 := by kernel_rfl,
    i46 := by kernel_rfl,
    i51 := by kernel_rfl,
    i53 := by kernel_rfl,
    i75 := by kernel_rfl,
    i76 := by kernel_rfl,
    i80 := by kernel_rfl,
    i85 := by kernel_rfl,
    i127 := by kernel_rfl,
    i143 := by kernel_rfl,
    i145 := by kernel_rfl,
    i167 := by kernel_rfl,
    i168 := by kernel_rfl,
    i171 := by kernel_rfl,
    i173 := by kernel_rfl,
    i175 := by kernel_rfl,
    i210 := by kernel_rfl,
    i212 := by kernel_rfl,
    i232 := by kernel_rfl,
    i233 := by kernel_rfl,
    m15 := by kernel_rfl,
    m16 := by kernel_rfl,
    m17 := by kernel_rfl,
    m18 := by kernel_rfl,
    m19 := by kernel_rfl,
    c0 := by kernel_rfl,
    c2 := by kernel_rfl,
    c3 := by kernel_rfl,
    c4 := by kernel_rfl,
    c5 := by kernel_rfl,
    c9 := by kernel_rfl,
    c20 := by kernel_rfl,
    c21 := by kernel_rfl,
    c37 := by kernel_rfl,
    c46 := by kernel_rfl,
    c51 := by kernel_rfl,
    c53 := by kernel_rfl,
    c75 := by kernel_rfl,
    c76 := by kernel_rfl,
    c80 := by kernel_rfl,
    c85 := by kernel_rfl,
    c127 := by kernel_rfl,
    c143 := by kernel_rfl,
    c145 := by kernel_rfl,
    c167 := by kernel_rfl,
    c168 := by kernel_rfl,
    c171 := by kernel_rfl,
    c173 := by kernel_rfl,
    c175 := by kernel_rfl,
    c210 := by kernel_rfl,
    c212 := by kernel_rfl,
    c213 := by kernel_rfl,
    c232 := by kernel_rfl,
    c233 := by kernel_rfl }
abbrev zql := atoiT
def zqm (c : zql) : Spec := atoiS c
def zqn : zql := fun x k => atoiF x k
theorem zqo : SpecOk Tryd.prog 31 (zqm zqn) :=
  atoi_ok zqk rfl (by kernel_rfl) (by kernel_rfl) ⟨_, Tryd.func31, by kernel_rfl, by kernel_rfl⟩

/-- pagewatch/ratio.gcd -/
abbrev zqp := {β : Type} → Int → Int → (Int → Option β) → Option β
def zqq (c : zqp) : Spec :=
  ⟨[(false, [.data (.int .i64)]), (false, [.data (.int .i64)])], [], [(false, [.data (.int .i64)])], [], fun x k => c x.1.1.1 x.1.2.1.1 (fun r0 => k (((r0, ()), ()), ()))⟩
noncomputable def ratio_gcd_p1_code : Code := codeAt 12 (bodyOf Tryd.f33)
abbrev zqr (β : Type) := Int → Option β
abbrev zqs := {β : Type} → zqr β → Int → Int → Option β
def zqt : View := ⟨0, [0, 1], [(false, [.data (.int .i64)]), (false, [.data (.int .i64)])], []⟩
def zqu : List (AExit × View) := [(.exit 0, ⟨0, [0], [(false, [.data (.int .i64)])], []⟩)]
@[reducible] def ratio_gcd_p1_G (p : zqs) {β : Type} (d : zqt.den) (ks : Outs.K β zqu) : Option β :=
  p (fun a0 => ks.1 (((a0, ()), ()), ())) d.1.1.1 d.1.2.1.1
section
@[reducible] def ratio_gcd_X : Ctx := ⟨look tab, pick1 [], false, false, false⟩
def zqv {β : Type} (rec : Int → Int → Option β) (k1 : zqr β) (a : Int) (b : Int) : Option β :=
  cond (!decide (b = (0 : Int)))
  (cond (!decide (b = 0))
  (rec b (Int.tmod a b))
  none)
  (k1 a)
def zqw {β : Type} : Nat → zqr β → Int → Int → Option β
  | 0 => fun _ _ _ => none
  | i + 1 => fun k1 a b => zqv (zqw i k1) k1 a b
theorem zqx (hΓ : ΓOk Tryd.prog ratio_gcd_X.Γ) (i : Nat) : PieceOk Tryd.prog 12 0 ratio_gcd_p1_code zqt zqu (ratio_gcd_p1_G (zqw i)) := by
  rw [show ratio_gcd_p1_code = .loop (loopBody ratio_gcd_p1_code) by kernel_rfl]
  exact piece_loop (X := ratio_gcd_X) (p := 1) (Λ := pick1 []) (G := fun i => @fun β d ks => ratio_gcd_p1_G (zqw i) d ks) mixed tab_ok hΓ rfl (by kernel_rfl) CutsOk_nil (fun _ _ => rfl) (fun i => @fun β d ks r h => Eq.trans (b := ratio_gcd_p1_G (zqw (i + 1)) d ks) (by kernel_rfl) h) i
def zqy (p1 : zqs) {β : Type} (a : Int) (b : Int) (k : (Int → Option β)) : Option β :=
  p1 (fun (a2 : Int) =>
  k a2) a b
theorem zqz (hΓ : ΓOk Tryd.prog ratio_gcd_X.Γ) (p1 : zqs) (hp1 : PieceOk Tryd.prog 12 0 ratio_gcd_p1_code zqt zqu (ratio_gcd_p1_G p1)) : SpecOk Tryd.prog 33 (zqq (zqy p1)) :=
  spec_exec (X := ratio_gcd_X) (Λ := pick1 [(12, pieceCut zqt zqu (ratio_gcd_p1_G p1))]) (rs := [.tmp 4]) (c := bodyOf Tryd.f33) mixed tab_ok hΓ Tryd.func33 (by kernel_rfl) (by kernel_rfl) (by kernel_rfl) (by kernel_rfl) (CutsOk_cons (q := 12) (c' := ratio_gcd_p1_code) (by kernel_rfl) rfl hp1 CutsOk_nil) (fun x k r h => Eq.trans (b := (zqq (zqy p1)).run x k) (by kernel_rfl) h)
end
theorem zq10Γ : ΓOk Tryd.prog (pick1 []) := ΓOk_nil
def zq11 (m : Nat) : zqs := zqw m
theorem zq12 {β : Type} (i : Nat) (k1 a b) : (zq11 (i + 1) k1 a b : Option β) = zqv (zq11 i k1) k1 a b := rfl
def zq13 : zqs := zq11 fuel
theorem zq14 : PieceOk Tryd.prog 12 0 ratio_gcd_p1_code zqt zqu (ratio_gcd_p1_G zq13) := zqx zq10Γ fuel
def zq15 : zqp := zqy zq13
theorem zq16 : SpecOk Tryd.prog 33 (zqq zq15) := zqz zq10Γ zq13 zq14

/-- pagewatch/ratio.plus -/
abbrev zq17 := {β : Type} → Int → Int → (Int → Bool → Option β) → Option β
def zq18 (c : zq17) : Spec :=
  ⟨[(false, [.data (.int .i64)]), (false, [.data (.int .i64)])], [], [(false, [.data (.int .i64)]), (false, [.data .bool])], [], fun x k => c x.1.1.1 x.1.2.1.1 (fun r0 r1 => k (((r0, ()), (r1, ()), ()), ()))⟩
section
@[reducible] def ratio_plus_X : Ctx := ⟨look tab, pick1 [], false, false, false⟩
def zq19 {β : Type} (a : Int) (b : Int) (k : (Int → Bool → Option β)) : Option β :=
  cond (decide ((0 : Int) < a))
  (cond (decide ((IntKind.i64.wrap ((4611686018427387904 : Int) - a)) < b))
  (k (0 : Int) false)
  (cond (decide (a < (0 : Int)))
  (cond (decide (b < (IntKind.i64.wrap ((-4611686018427387904 : Int) - a))))
  (k (0 : Int) false)
  (let t : Int := (IntKind.i64.wrap (a + b));
  k t true))
  (let t : Int := (IntKind.i64.wrap (a + b));
  k t true)))
  (cond (decide (a < (0 : Int)))
  (cond (decide (b < (IntKind.i64.wrap ((-4611686018427387904 : Int) - a))))
  (k (0 : Int) false)
  (let t : Int := (IntKind.i64.wrap (a + b));
  k t true))
  (let t : Int := (IntKind.i64.wrap (a + b));
  k t true))
theorem zq1a (hΓ : ΓOk Tryd.prog ratio_plus_X.Γ) : SpecOk Tryd.prog 35 (zq18 (zq19)) :=
  spec_exec (X := ratio_plus_X) (Λ := pick1 []) (rs := [.tmp 4, .tmp 5]) (c := bodyOf Tryd.f35) mixed tab_ok hΓ Tryd.func35 (by kernel_rfl) (by kernel_rfl) (by kernel_rfl) (by kernel_rfl) CutsOk_nil (fun x k r h => Eq.trans (b := (zq18 (zq19)).run x k) (by kernel_rfl) h)
end
theorem zq1bΓ : ΓOk Tryd.prog (pick1 []) := ΓOk_nil
def zq1c : zq17 := zq19
theorem zq1d : SpecOk Tryd.prog 35 (zq18 zq1c) := zq1a zq1bΓ

/-- pagewatch/ratio.within -/
abbrev zq1e := {β : Type} → Int → (Bool → Option β) → Option β
def zq1f (c : zq1e) : Spec :=
  ⟨[(false, [.data (.int .i64)])], [], [(false, [.data .bool])], [], fun x k => c x.1.1.1 (fun r0 => k (((r0, ()), ()), ()))⟩
section
@[reducible] def ratio_within_X : Ctx := ⟨look tab, pick1 [], false, false, false⟩
def zq1g {β : Type} (n : Int) (k : (Bool → Option β)) : Option β :=
  cond (decide ((-4611686018427387904 : Int) ≤ n))
  (let t : Bool := (decide (n ≤ (4611686018427387904 : Int)));
  k t)
  (k false)
theorem zq1h (hΓ : ΓOk Tryd.prog ratio_within_X.Γ) : SpecOk Tryd.prog 36 (zq1f (zq1g)) :=
  spec_exec (X := ratio_within_X) (Λ := pick1 []) (rs := [.tmp 2]) (c := bodyOf Tryd.f36) mixed tab_ok hΓ Tryd.func36 (by kernel_rfl) (by kernel_rfl) (by kernel_rfl) (by kernel_rfl) CutsOk_nil (fun x k r h => Eq.trans (b := (zq1f (zq1g)).run x k) (by kernel_rfl) h)
end
theorem zq1iΓ : ΓOk Tryd.prog (pick1 []) := ΓOk_nil
def zq1j : zq1e := zq1g
theorem zq1k : SpecOk Tryd.prog 36 (zq1f zq1j) := zq1h zq1iΓ

/-- pagewatch/ratio.size -/
abbrev zq1l := {β : Type} → Int → (Int → Option β) → Option β
def zq1m (c : zq1l) : Spec :=
  ⟨[(false, [.data (.int .i64)])], [], [(false, [.data (.int .i64)])], [], fun x k => c x.1.1.1 (fun r0 => k (((r0, ()), ()), ()))⟩
section
@[reducible] def ratio_size_X : Ctx := ⟨look tab, pick1 [], false, false, false⟩
def zq1n {β : Type} (n : Int) (k : (Int → Option β)) : Option β :=
  cond (decide (n < (0 : Int)))
  (let t : Int := (IntKind.i64.wrap (0 - n));
  k t)
  (k n)
theorem zq1o (hΓ : ΓOk Tryd.prog ratio_size_X.Γ) : SpecOk Tryd.prog 37 (zq1m (zq1n)) :=
  spec_exec (X := ratio_size_X) (Λ := pick1 []) (rs := [.tmp 2]) (c := bodyOf Tryd.f37) mixed tab_ok hΓ Tryd.func37 (by kernel_rfl) (by kernel_rfl) (by kernel_rfl) (by kernel_rfl) CutsOk_nil (fun x k r h => Eq.trans (b := (zq1m (zq1n)).run x k) (by kernel_rfl) h)
end
theorem zq1pΓ : ΓOk Tryd.prog (pick1 []) := ΓOk_nil
def zq1q : zq1l := zq1n
theorem zq1r : SpecOk Tryd.prog 37 (zq1m zq1q) := zq1o zq1pΓ

/-- pagewatch/pagewatchref02.gcd -/
abbrev zq1s := {β : Type} → Int → Int → (Int → Option β) → Option β
def zq1t (c : zq1s) : Spec :=
  ⟨[(false, [.data (.int .i64)]), (false, [.data (.int .i64)])], [], [(false, [.data (.int .i64)])], [], fun x k => c x.1.1.1 x.1.2.1.1 (fun r0 => k (((r0, ()), ()), ()))⟩
noncomputable def ref02_gcd_p1_code : Code := codeAt 12 (bodyOf Tryd.f40)
abbrev zq1u (β : Type) := Int → Option β
abbrev zq1v := {β : Type} → zq1u β → Int → Int → Option β
def zq1w : View := ⟨0, [0, 1], [(false, [.data (.int .i64)]), (false, [.data (.int .i64)])], []⟩
def zq1x : List (AExit × View) := [(.exit 0, ⟨0, [0], [(false, [.data (.int .i64)])], []⟩)]
@[reducible] def ref02_gcd_p1_G (p : zq1v) {β : Type} (d : zq1w.den) (ks : Outs.K β zq1x) : Option β :=
  p (fun a0 => ks.1 (((a0, ()), ()), ())) d.1.1.1 d.1.2.1.1
section
@[reducible] def ref02_gcd_X : Ctx := ⟨look tab, pick1 [], false, false, false⟩
def zq1y {β : Type} (rec : Int → Int → Option β) (k1 : zq1u β) (a : Int) (b : Int) : Option β :=
  cond (!decide (b = (0 : Int)))
  (cond (!decide (b = 0))
  (rec b (Int.tmod a b))
  none)
  (k1 a)
def zq1z {β : Type} : Nat → zq1u β → Int → Int → Option β
  | 0 => fun _ _ _ => none
  | i + 1 => fun k1 a b => zq1y (zq1z i k1) k1 a b
theorem zq20 (hΓ : ΓOk Tryd.prog ref02_gcd_X.Γ) (i : Nat) : PieceOk Tryd.prog 12 0 ref02_gcd_p1_code zq1w zq1x (ref02_gcd_p1_G (zq1z i)) := by
  rw [show ref02_gcd_p1_code = .loop (loopBody ref02_gcd_p1_code) by kernel_rfl]
  exact piece_loop (X := ref02_gcd_X) (p := 1) (Λ := pick1 []) (G := fun i => @fun β d ks => ref02_gcd_p1_G (zq1z i) d ks) mixed tab_ok hΓ rfl (by kernel_rfl) CutsOk_nil (fun _ _ => rfl) (fun i => @fun β d ks r h => Eq.trans (b := ref02_gcd_p1_G (zq1z (i + 1)) d ks) (by kernel_rfl) h) i
def zq21 (p1 : zq1v) {β : Type} (a : Int) (b : Int) (k : (Int → Option β)) : Option β :=
  p1 (fun (a2 : Int) =>
  k a2) a b
theorem zq22 (hΓ : ΓOk Tryd.prog ref02_gcd_X.Γ) (p1 : zq1v) (hp1 : PieceOk Tryd.prog 12 0 ref02_gcd_p1_code zq1w zq1x (ref02_gcd_p1_G p1)) : SpecOk Tryd.prog 40 (zq1t (zq21 p1)) :=
  spec_exec (X := ref02_gcd_X) (Λ := pick1 [(12, pieceCut zq1w zq1x (ref02_gcd_p1_G p1))]) (rs := [.tmp 4]) (c := bodyOf Tryd.f40) mixed tab_ok hΓ Tryd.func40 (by kernel_rfl) (by kernel_rfl) (by kernel_rfl) (by kernel_rfl) (CutsOk_cons (q := 12) (c' := ref02_gcd_p1_code) (by kernel_rfl) rfl hp1 CutsOk_nil) (fun x k r h => Eq.trans (b := (zq1t (zq21 p1)).run x k) (by kernel_rfl) h)
end
theorem zq23Γ : ΓOk Tryd.prog (pick1 []) := ΓOk_nil
def zq24 (m : Nat) : zq1v := zq1z m
theorem zq25 {β : Type} (i : Nat) (k1 a b) : (zq24 (i + 1) k1 a b : Option β) = zq1y (zq24 i k1) k1 a b := rfl
def zq26 : zq1v := zq24 fuel
theorem zq27 : PieceOk Tryd.prog 12 0 ref02_gcd_p1_code zq1w zq1x (ref02_gcd_p1_G zq26) := zq20 zq23Γ fuel
def zq28 : zq1s := zq21 zq26
theorem zq29 : SpecOk Tryd.prog 40 (zq1t zq28) := zq22 zq23Γ zq26 zq27

/-- pagewatch/pagewatchref02.size -/
abbrev zq2a := {β : Type} → Int → (Int → Option β) → Option β
def zq2b (c : zq2a) : Spec :=
  ⟨[(false, [.data (.int .i64)])], [], [(false, [.data (.int .i64)])], [], fun x k => c x.1.1.1 (fun r0 => k (((r0, ()), ()), ()))⟩
section
@[reducible] def ref02_size_X : Ctx := ⟨look tab, pick1 [], false, false, false⟩
def zq2c {β : Type} (n : Int) (k : (Int → Option β)) : Option β :=
  cond (decide (n < (0 : Int)))
  (let t : Int := (IntKind.i64.wrap (0 - n));
  k t)
  (k n)
theorem zq2d (hΓ : ΓOk Tryd.prog ref02_size_X.Γ) : SpecOk Tryd.prog 42 (zq2b (zq2c)) :=
  spec_exec (X := ref02_size_X) (Λ := pick1 []) (rs := [.tmp 2]) (c := bodyOf Tryd.f42) mixed tab_ok hΓ Tryd.func42 (by kernel_rfl) (by kernel_rfl) (by kernel_rfl) (by kernel_rfl) CutsOk_nil (fun x k r h => Eq.trans (b := (zq2b (zq2c)).run x k) (by kernel_rfl) h)
end
theorem zq2eΓ : ΓOk Tryd.prog (pick1 []) := ΓOk_nil
def zq2f : zq2a := zq2c
theorem zq2g : SpecOk Tryd.prog 42 (zq2b zq2f) := zq2d zq2eΓ

/-- pagewatch/pagewatchref02.in -/
abbrev zq2h := {β : Type} → Int → (Bool → Option β) → Option β
def zq2i (c : zq2h) : Spec :=
  ⟨[(false, [.data (.int .i64)])], [], [(false, [.data .bool])], [], fun x k => c x.1.1.1 (fun r0 => k (((r0, ()), ()), ()))⟩
section
@[reducible] def ref02_in_X : Ctx := ⟨look tab, pick1 [], false, false, false⟩
def zq2j {β : Type} (n : Int) (k : (Bool → Option β)) : Option β :=
  cond (decide ((-4611686018427387904 : Int) ≤ n))
  (let t : Bool := (decide (n ≤ (4611686018427387904 : Int)));
  k t)
  (k false)
theorem zq2k (hΓ : ΓOk Tryd.prog ref02_in_X.Γ) : SpecOk Tryd.prog 44 (zq2i (zq2j)) :=
  spec_exec (X := ref02_in_X) (Λ := pick1 []) (rs := [.tmp 2]) (c := bodyOf Tryd.f44) mixed tab_ok hΓ Tryd.func44 (by kernel_rfl) (by kernel_rfl) (by kernel_rfl) (by kernel_rfl) CutsOk_nil (fun x k r h => Eq.trans (b := (zq2i (zq2j)).run x k) (by kernel_rfl) h)
end
theorem zq2lΓ : ΓOk Tryd.prog (pick1 []) := ΓOk_nil
def zq2m : zq2h := zq2j
theorem zq2n : SpecOk Tryd.prog 44 (zq2i zq2m) := zq2k zq2lΓ

/-- math/bits.Mul64 -/
abbrev zq2o := {β : Type} → Int → Int → (Int → Int → Option β) → Option β
def zq2p (c : zq2o) : Spec :=
  ⟨[(false, [.data (.int .u64)]), (false, [.data (.int .u64)])], [], [(false, [.data (.int .u64)]), (false, [.data (.int .u64)])], [], fun x k => c x.1.1.1 x.1.2.1.1 (fun r0 r1 => k (((r0, ()), (r1, ()), ()), ()))⟩
section
@[reducible] def math_bits_Mul64_X : Ctx := ⟨look tab, pick1 [], false, false, false⟩
def zq2q {β : Type} (x : Int) (y : Int) (k : (Int → Int → Option β)) : Option β :=
  let x0 : Int := (bitsOf .and .u64 x (4294967295 : Int));
  cond (decide (0 ≤ (32 : Int)))
  (let x1 : Int := (shiftOf .shr .u64 x (32 : Int));
  let y0 : Int := (bitsOf .and .u64 y (4294967295 : Int));
  cond (decide (0 ≤ (32 : Int)))
  (let y1 : Int := (shiftOf .shr .u64 y (32 : Int));
  let w0 : Int := (IntKind.u64.wrap (x0 * y0));
  cond (decide (0 ≤ (32 : Int)))
  (let t : Int := (IntKind.u64.wrap ((IntKind.u64.wrap (x1 * y0)) + (shiftOf .shr .u64 w0 (32 : Int))));
  let w1 : Int := (bitsOf .and .u64 t (4294967295 : Int));
  cond (decide (0 ≤ (32 : Int)))
  (let w2 : Int := (shiftOf .shr .u64 t (32 : Int));
  let w12 : Int := (IntKind.u64.wrap (w1 + (IntKind.u64.wrap (x0 * y1))));
  cond (decide (0 ≤ (32 : Int)))
  (let hi : Int := (IntKind.u64.wrap ((IntKind.u64.wrap ((IntKind.u64.wrap (x1 * y1)) + w2)) + (shiftOf .shr .u64 w12 (32 : Int))));
  let lo : Int := (IntKind.u64.wrap (x * y));
  k hi lo)
  none)
  none)
  none)
  none)
  none
theorem zq2r (hΓ : ΓOk Tryd.prog math_bits_Mul64_X.Γ) : SpecOk Tryd.prog 50 (zq2p (zq2q)) :=
  spec_exec (X := math_bits_Mul64_X) (Λ := pick1 []) (rs := [.tmp 4, .tmp 5]) (c := bodyOf Tryd.f50) mixed tab_ok hΓ Tryd.func50 (by kernel_rfl) (by kernel_rfl) (by kernel_rfl) (by kernel_rfl) CutsOk_nil (fun x k r h => Eq.trans (b := (zq2p (zq2q)).run x k) (by kernel_rfl) h)
end
theorem zq2sΓ : ΓOk Tryd.prog (pick1 []) := ΓOk_nil
def zq2t : zq2o := zq2q
theorem zq2u : SpecOk Tryd.prog 50 (zq2p zq2t) := zq2r zq2sΓ

/-- pagewatch/ratio.Valid -/
abbrev zq2v := {β : Type} → (Int × Int) → (Bool → Option β) → Option β
def zq2w (c : zq2v) : Spec :=
  ⟨[(true, [.data (.prod (.int .i64) (.int .i64))])], [], [(false, [.data .bool])], [], fun x k => c x.1.1.1 (fun r0 => k (((r0, ()), ()), ()))⟩
section
variable (c_ratio_gcd : zqp) (c_ratio_size : zq1l) (c_ratio_within : zq1e)
@[reducible] def ratio_Valid_X : Ctx := ⟨look tab, pick1 [(33, .spec (zqq c_ratio_gcd)), (37, .spec (zq1m c_ratio_size)), (36, .spec (zq1f c_ratio_within))], false, false, false⟩
def zq2x {β : Type} (r_ : (Int × Int)) (k : (Bool → Option β)) : Option β :=
  cond (decide ((1 : Int) ≤ r_.2))
  (cond (decide (r_.2 ≤ (4611686018427387904 : Int)))
  (c_ratio_within r_.1 (fun (rwithin : Bool) =>
  cond rwithin
  (c_ratio_size r_.1 (fun (rsize : Int) =>
  c_ratio_gcd rsize r_.2 (fun (rgcd : Int) =>
  let t : Bool := (decide (rgcd = (1 : Int)));
  k t)))
  (k false)))
  (k false))
  (k false)
theorem zq2y (hΓ : ΓOk Tryd.prog (ratio_Valid_X c_ratio_gcd c_ratio_size c_ratio_within).Γ) : SpecOk Tryd.prog 15 (zq2w (zq2x c_ratio_gcd c_ratio_size c_ratio_within)) :=
  spec_exec (X := (ratio_Valid_X c_ratio_gcd c_ratio_size c_ratio_within)) (Λ := pick1 []) (rs := [.tmp 2]) (c := bodyOf Tryd.f15) mixed tab_ok hΓ Tryd.func15 (by kernel_rfl) (by kernel_rfl) (by kernel_rfl) (by kernel_rfl) CutsOk_nil (fun x k r h => Eq.trans (b := (zq2w (zq2x c_ratio_gcd c_ratio_size c_ratio_within)).run x k) (by kernel_rfl) h)
end
theorem zq2zΓ : ΓOk Tryd.prog (pick1 [(33, .spec (zqq zq15)), (37, .spec (zq1m zq1q)), (36, .spec (zq1f zq1j))]) := (ΓOk_cons zq16 (ΓOk_cons zq1r (ΓOk_cons zq1k ΓOk_nil)))
def zq30 : zq2v := zq2x zq15 zq1q zq1j
theorem zq31 : SpecOk Tryd.prog 15 (zq2w zq30) := zq2y zq15 zq1q zq1j zq2zΓ

/-- pagewatch/ratio.New -/
abbrev zq32 := {β : Type} → Int → Int → ((Int × Int) → Int → Option β) → Option β
def zq33 (c : zq32) : Spec :=
  ⟨[(false, [.data (.int .i64)]), (false, [.data (.int .i64)])], [], [(true, [.data (.prod (.int .i64) (.int .i64))]), (false, [.data (.int .i64)])], [], fun x k => c x.1.1.1 x.1.2.1.1 (fun r0 r1 => k (((r0, ()), (r1, ()), ()), ()))⟩
section
variable (c_ratio_gcd : zqp) (c_ratio_size : zq1l) (c_ratio_within : zq1e)
@[reducible] def ratio_New_X : Ctx := ⟨look tab, pick1 [(33, .spec (zqq c_ratio_gcd)), (37, .spec (zq1m c_ratio_size)), (36, .spec (zq1f c_ratio_within))], false, false, false⟩
def zq34 {β : Type} (num : Int) (den : Int) (k : ((Int × Int) → Int → Option β)) : Option β :=
  cond (decide (den < (1 : Int)))
  (k ((0 : Int), (0 : Int)) (1 : Int))
  (cond (decide ((4611686018427387904 : Int) < den))
  (k ((0 : Int), (0 : Int)) (1 : Int))
  (c_ratio_within num (fun (rwithin : Bool) =>
  cond (!rwithin)
  (k ((0 : Int), (0 : Int)) (1 : Int))
  (c_ratio_size num (fun (rsize : Int) =>
  c_ratio_gcd rsize den (fun (rgcd : Int) =>
  cond (!decide (rgcd = 0))
  (cond (!decide (rgcd = 0))
  (k ((IntKind.i64.wrap (Int.tdiv num rgcd)), (IntKind.i64.wrap (Int.tdiv den rgcd))) (0 : Int))
  none)
  none))))))
theorem zq35 (hΓ : ΓOk Tryd.prog (ratio_New_X c_ratio_gcd c_ratio_size c_ratio_within).Γ) : SpecOk Tryd.prog 27 (zq33 (zq34 c_ratio_gcd c_ratio_size c_ratio_within)) :=
  spec_exec (X := (ratio_New_X c_ratio_gcd c_ratio_size c_ratio_within)) (Λ := pick1 []) (rs := [.cell 4 24, .tmp 5]) (c := bodyOf Tryd.f27) mixed tab_ok hΓ Tryd.func27 (by kernel_rfl) (by kernel_rfl) (by kernel_rfl) (by kernel_rfl) CutsOk_nil (fun x k r h => Eq.trans (b := (zq33 (zq34 c_ratio_gcd c_ratio_size c_ratio_within)).run x k) (by kernel_rfl) h)
end
theorem zq36Γ : ΓOk Tryd.prog (pick1 [(33, .spec (zqq zq15)), (37, .spec (zq1m zq1q)), (36, .spec (zq1f zq1j))]) := (ΓOk_cons zq16 (ΓOk_cons zq1r (ΓOk_cons zq1k ΓOk_nil)))
def zq37 : zq32 := zq34 zq15 zq1q zq1j
theorem zq38 : SpecOk Tryd.prog 27 (zq33 zq37) := zq35 zq15 zq1q zq1j zq36Γ

/-- pagewatch/pagewatchref02.New -/
abbrev zq39 := {β : Type} → Int → Int → ((Int × Int) → Int → Option β) → Option β
def zq3a (c : zq39) : Spec :=
  ⟨[(false, [.data (.int .i64)]), (false, [.data (.int .i64)])], [], [(true, [.data (.prod (.int .i64) (.int .i64))]), (false, [.data (.int .i64)])], [], fun x k => c x.1.1.1 x.1.2.1.1 (fun r0 r1 => k (((r0, ()), (r1, ()), ()), ()))⟩
section
variable (c_ref02_gcd : zq1s) (c_ref02_in : zq2h) (c_ref02_size : zq2a)
@[reducible] def ref02_New_X : Ctx := ⟨look tab, pick1 [(40, .spec (zq1t c_ref02_gcd)), (44, .spec (zq2i c_ref02_in)), (42, .spec (zq2b c_ref02_size))], false, false, false⟩
def zq3b {β : Type} (num : Int) (den : Int) (k : ((Int × Int) → Int → Option β)) : Option β :=
  c_ref02_in num (fun (rin : Bool) =>
  cond (!rin)
  (k ((0 : Int), (0 : Int)) (1 : Int))
  (cond (decide (den < (1 : Int)))
  (k ((0 : Int), (0 : Int)) (1 : Int))
  (cond (decide ((4611686018427387904 : Int) < den))
  (k ((0 : Int), (0 : Int)) (1 : Int))
  (c_ref02_size num (fun (rsize : Int) =>
  c_ref02_gcd rsize den (fun (rgcd : Int) =>
  cond (!decide (rgcd = 0))
  (cond (!decide (rgcd = 0))
  (k ((IntKind.i64.wrap (Int.tdiv num rgcd)), (IntKind.i64.wrap (Int.tdiv den rgcd))) (0 : Int))
  none)
  none))))))
theorem zq3c (hΓ : ΓOk Tryd.prog (ref02_New_X c_ref02_gcd c_ref02_in c_ref02_size).Γ) : SpecOk Tryd.prog 28 (zq3a (zq3b c_ref02_gcd c_ref02_in c_ref02_size)) :=
  spec_exec (X := (ref02_New_X c_ref02_gcd c_ref02_in c_ref02_size)) (Λ := pick1 []) (rs := [.cell 4 24, .tmp 5]) (c := bodyOf Tryd.f28) mixed tab_ok hΓ Tryd.func28 (by kernel_rfl) (by kernel_rfl) (by kernel_rfl) (by kernel_rfl) CutsOk_nil (fun x k r h => Eq.trans (b := (zq3a (zq3b c_ref02_gcd c_ref02_in c_ref02_size)).run x k) (by kernel_rfl) h)
end
theorem zq3dΓ : ΓOk Tryd.prog (pick1 [(40, .spec (zq1t zq28)), (44, .spec (zq2i zq2m)), (42, .spec (zq2b zq2f))]) := (ΓOk_cons zq29 (ΓOk_cons zq2n (ΓOk_cons zq2g ΓOk_nil)))
def zq3e : zq39 := zq3b zq28 zq2m zq2f
theorem zq3f : SpecOk Tryd.prog 28 (zq3a zq3e) := zq3c zq28 zq2m zq2f zq3dΓ

/-- pagewatch/ratio.times -/
abbrev zq3g := {β : Type} → Int → Int → (Int → Bool → Option β) → Option β
def zq3h (c : zq3g) : Spec :=
  ⟨[(false, [.data (.int .i64)]), (false, [.data (.int .i64)])], [], [(false, [.data (.int .i64)]), (false, [.data .bool])], [], fun x k => c x.1.1.1 x.1.2.1.1 (fun r0 r1 => k (((r0, ()), (r1, ()), ()), ()))⟩
section
variable (c_math_bits_Mul64 : zq2o) (c_ratio_size : zq1l)
@[reducible] def ratio_times_X : Ctx := ⟨look tab, pick1 [(50, .spec (zq2p c_math_bits_Mul64)), (37, .spec (zq1m c_ratio_size))], false, false, false⟩
def zq3i {β : Type} (a : Int) (b : Int) (k : (Int → Bool → Option β)) : Option β :=
  c_ratio_size a (fun (rsize : Int) =>
  c_ratio_size b (fun (rsize2 : Int) =>
  c_math_bits_Mul64 (IntKind.u64.wrap rsize) (IntKind.u64.wrap rsize2) (fun (rMul64 : Int) (rMul642 : Int) =>
  cond (!decide (rMul64 = (0 : Int)))
  (k (0 : Int) false)
  (cond (decide ((4611686018427387904 : Int) < rMul642))
  (k (0 : Int) false)
  (cond (!((decide (a < (0 : Int))) == (decide (b < (0 : Int)))))
  (let t : Int := (IntKind.i64.wrap (0 - (IntKind.i64.wrap rMul642)));
  k t true)
  (let t : Int := (IntKind.i64.wrap rMul642);
  k t true))))))
theorem zq3j (hΓ : ΓOk Tryd.prog (ratio_times_X c_math_bits_Mul64 c_ratio_size).Γ) : SpecOk Tryd.prog 34 (zq3h (zq3i c_math_bits_Mul64 c_ratio_size)) :=
  spec_exec (X := (ratio_times_X c_math_bits_Mul64 c_ratio_size)) (Λ := pick1 []) (rs := [.tmp 4, .tmp 5]) (c := bodyOf Tryd.f34) mixed tab_ok hΓ Tryd.func34 (by kernel_rfl) (by kernel_rfl) (by kernel_rfl) (by kernel_rfl) CutsOk_nil (fun x k r h => Eq.trans (b := (zq3h (zq3i c_math_bits_Mul64 c_ratio_size)).run x k) (by kernel_rfl) h)
end
theorem zq3kΓ : ΓOk Tryd.prog (pick1 [(50, .spec (zq2p zq2t)), (37, .spec (zq1m zq1q))]) := (ΓOk_cons zq2u (ΓOk_cons zq1r ΓOk_nil))
def zq3l : zq3g := zq3i zq2t zq1q
theorem zq3m : SpecOk Tryd.prog 34 (zq3h zq3l) := zq3j zq2t zq1q zq3kΓ

/-- pagewatch/ratio.product -/
abbrev zq3n := {β : Type} → (Int × Int) → (Int × Int) → ((Int × Int) → Int → Option β) → Option β
def zq3o (c : zq3n) : Spec :=
  ⟨[(true, [.data (.prod (.int .i64) (.int .i64))]), (true, [.data (.prod (.int .i64) (.int .i64))])], [], [(true, [.data (.prod (.int .i64) (.int .i64))]), (false, [.data (.int .i64)])], [], fun x k => c x.1.1.1 x.1.2.1.1 (fun r0 r1 => k (((r0, ()), (r1, ()), ()), ()))⟩
section
variable (c_ratio_gcd : zqp) (c_ratio_size : zq1l) (c_ratio_times : zq3g)
@[reducible] def ratio_product_X : Ctx := ⟨look tab, pick1 [(33, .spec (zqq c_ratio_gcd)), (37, .spec (zq1m c_ratio_size)), (34, .spec (zq3h c_ratio_times))], false, false, false⟩
def zq3p {β : Type} (a : (Int × Int)) (b : (Int × Int)) (k : ((Int × Int) → Int → Option β)) : Option β :=
  c_ratio_size a.1 (fun (rsize : Int) =>
  c_ratio_gcd rsize b.2 (fun (rgcd : Int) =>
  c_ratio_size b.1 (fun (rsize2 : Int) =>
  c_ratio_gcd rsize2 a.2 (fun (rgcd2 : Int) =>
  cond (!decide (rgcd = 0))
  (cond (!decide (rgcd2 = 0))
  (c_ratio_times (IntKind.i64.wrap (Int.tdiv a.1 rgcd)) (IntKind.i64.wrap (Int.tdiv b.1 rgcd2)) (fun (rtimes : Int) (rtimes2 : Bool) =>
  cond (!decide (rgcd2 = 0))
  (cond (!decide (rgcd = 0))
  (c_ratio_times (IntKind.i64.wrap (Int.tdiv a.2 rgcd2)) (IntKind.i64.wrap (Int.tdiv b.2 rgcd)) (fun (rtimes3 : Int) (rtimes4 : Bool) =>
  cond (!rtimes2)
  (k ((0 : Int), (0 : Int)) (5 : Int))
  (cond (!rtimes4)
  (k ((0 : Int), (0 : Int)) (5 : Int))
  (k (rtimes, rtimes3) (0 : Int)))))
  none)
  none))
  none)
  none))))
theorem zq3q (hΓ : ΓOk Tryd.prog (ratio_product_X c_ratio_gcd c_ratio_size c_ratio_times).Γ) : SpecOk Tryd.prog 38 (zq3o (zq3p c_ratio_gcd c_ratio_size c_ratio_times)) :=
  spec_exec (X := (ratio_product_X c_ratio_gcd c_ratio_size c_ratio_times)) (Λ := pick1 []) (rs := [.cell 4 24, .tmp 5]) (c := bodyOf Tryd.f38) mixed tab_ok hΓ Tryd.func38 (by kernel_rfl) (by kernel_rfl) (by kernel_rfl) (by kernel_rfl) CutsOk_nil (fun x k r h => Eq.trans (b := (zq3o (zq3p c_ratio_gcd c_ratio_size c_ratio_times)).run x k) (by kernel_rfl) h)
end
theorem zq3rΓ : ΓOk Tryd.prog (pick1 [(33, .spec (zqq zq15)), (37, .spec (zq1m zq1q)), (34, .spec (zq3h zq3l))]) := (ΓOk_cons zq16 (ΓOk_cons zq1r (ΓOk_cons zq3m ΓOk_nil)))
def zq3s : zq3n := zq3p zq15 zq1q zq3l
theorem zq3t : SpecOk Tryd.prog 38 (zq3o zq3s) := zq3q zq15 zq1q zq3l zq3rΓ

/-- pagewatch/pagewatchlaw02.draw -/
abbrev zq3u := {β : Type} → Int → Int → ((Int × Int) → Option β) → Option β
def zq3v (c : zq3u) : Spec :=
  ⟨[(false, [.data (.int .i64)]), (false, [.data (.int .i64)])], [], [(true, [.data (.prod (.int .i64) (.int .i64))])], [], fun x k => c x.1.1.1 x.1.2.1.1 (fun r0 => k (((r0, ()), ()), ()))⟩
section
variable (c_made_Mod : zq0) (c_ref02_New : zq39)
@[reducible] def law02_draw_X : Ctx := ⟨look tab, pick1 [(18, .spec (zq1 c_made_Mod)), (28, .spec (zq3a c_ref02_New))], false, false, false⟩
def zq3w {β : Type} (n : Int) (d : Int) (k : ((Int × Int) → Option β)) : Option β :=
  c_made_Mod n (5 : Int) (fun (rMod : Int) =>
  let t : Bool := (decide (rMod = (0 : Int)));
  cond t
  (c_made_Mod d (9 : Int) (fun (rMod2 : Int) =>
  c_made_Mod n (7 : Int) (fun (rMod3 : Int) =>
  c_ref02_New (IntKind.i64.wrap ((4611686018427387904 : Int) - rMod2)) (IntKind.i64.wrap ((1 : Int) + rMod3)) (fun (rNew : (Int × Int)) (rNew2 : Int) =>
  k rNew))))
  (let t2 : Bool := (decide (rMod = (1 : Int)));
  cond t2
  (c_made_Mod n (99 : Int) (fun (rMod2 : Int) =>
  c_made_Mod d (9 : Int) (fun (rMod3 : Int) =>
  c_ref02_New (IntKind.i64.wrap (rMod2 - (49 : Int))) (IntKind.i64.wrap ((4611686018427387904 : Int) - rMod3)) (fun (rNew : (Int × Int)) (rNew2 : Int) =>
  k rNew))))
  (c_made_Mod n (201 : Int) (fun (rMod2 : Int) =>
  c_made_Mod d (60 : Int) (fun (rMod3 : Int) =>
  c_ref02_New (IntKind.i64.wrap (rMod2 - (100 : Int))) (IntKind.i64.wrap ((1 : Int) + rMod3)) (fun (rNew : (Int × Int)) (rNew2 : Int) =>
  k rNew))))))
theorem zq3x (hΓ : ΓOk Tryd.prog (law02_draw_X c_made_Mod c_ref02_New).Γ) : SpecOk Tryd.prog 9 (zq3v (zq3w c_made_Mod c_ref02_New)) :=
  spec_exec (X := (law02_draw_X c_made_Mod c_ref02_New)) (Λ := pick1 []) (rs := [.cell 4 24]) (c := bodyOf Tryd.f9) mixed tab_ok hΓ Tryd.func9 (by kernel_rfl) (by kernel_rfl) (by kernel_rfl) (by kernel_rfl) CutsOk_nil (fun x k r h => Eq.trans (b := (zq3v (zq3w c_made_Mod c_ref02_New)).run x k) (by kernel_rfl) h)
end
theorem zq3yΓ : ΓOk Tryd.prog (pick1 [(18, .spec (zq1 zq5)), (28, .spec (zq3a zq3e))]) := (ΓOk_cons zq6 (ΓOk_cons zq3f ΓOk_nil))
def zq3z : zq3u := zq3w zq5 zq3e
theorem zq40 : SpecOk Tryd.prog 9 (zq3v zq3z) := zq3x zq5 zq3e zq3yΓ

/-- pagewatch/ratio.Text -/
abbrev zq41 := {β : Type} → (Int × Int) → ((List UInt8) → Option β) → Option β
def zq42 (c : zq41) : Spec :=
  ⟨[(true, [.data (.prod (.int .i64) (.int .i64))])], [], [(false, [.data .str])], [], fun x k => c x.1.1.1 (fun r0 => k (((r0, ()), ()), ()))⟩
section
variable (c_ratio_Valid : zq2v) (c_strconv_Itoa : zq9)
@[reducible] def ratio_Text_X : Ctx := ⟨look tab, pick1 [(15, .spec (zq2w c_ratio_Valid)), (29, .spec (zqa c_strconv_Itoa))], false, false, false⟩
def zq43 {β : Type} (r_ : (Int × Int)) (k : ((List UInt8) → Option β)) : Option β :=
  c_ratio_Valid r_ (fun (rValid : Bool) =>
  cond (!rValid)
  (k ([] : List UInt8))
  (let t : Bool := (decide (r_.2 = (1 : Int)));
  cond t
  (c_strconv_Itoa r_.1 (fun (rItoa : List UInt8) =>
  k rItoa))
  (c_strconv_Itoa r_.1 (fun (rItoa : List UInt8) =>
  cond (decide (List.length rItoa + List.length ([47] : List UInt8) ≤ 9223372036854775807))
  (c_strconv_Itoa r_.2 (fun (rItoa2 : List UInt8) =>
  cond (decide (List.length (rItoa ++ ([47] : List UInt8)) + List.length rItoa2 ≤ 9223372036854775807))
  (let t2 : List UInt8 := ((rItoa ++ ([47] : List UInt8)) ++ rItoa2);
  k t2)
  none))
  none))))
theorem zq44 (hΓ : ΓOk Tryd.prog (ratio_Text_X c_ratio_Valid c_strconv_Itoa).Γ) : SpecOk Tryd.prog 10 (zq42 (zq43 c_ratio_Valid c_strconv_Itoa)) :=
  spec_exec (X := (ratio_Text_X c_ratio_Valid c_strconv_Itoa)) (Λ := pick1 []) (rs := [.tmp 2]) (c := bodyOf Tryd.f10) mixed tab_ok hΓ Tryd.func10 (by kernel_rfl) (by kernel_rfl) (by kernel_rfl) (by kernel_rfl) CutsOk_nil (fun x k r h => Eq.trans (b := (zq42 (zq43 c_ratio_Valid c_strconv_Itoa)).run x k) (by kernel_rfl) h)
end
theorem zq45Γ : ΓOk Tryd.prog (pick1 [(15, .spec (zq2w zq30)), (29, .spec (zqa zqb))]) := (ΓOk_cons zq31 (ΓOk_cons zqc ΓOk_nil))
def zq46 : zq41 := zq43 zq30 zqb
theorem zq47 : SpecOk Tryd.prog 10 (zq42 zq46) := zq44 zq30 zqb zq45Γ

/-- pagewatch/ratio.Parse -/
abbrev zq48 := {β : Type} → (List UInt8) → ((Int × Int) → Int → Option β) → Option β
def zq49 (c : zq48) : Spec :=
  ⟨[(false, [.data .str])], [], [(true, [.data (.prod (.int .i64) (.int .i64))]), (false, [.data (.int .i64)])], [], fun x k => c x.1.1.1 (fun r0 r1 => k (((r0, ()), (r1, ()), ()), ()))⟩
noncomputable def ratio_Parse_p1_code : Code := codeAt 127 (bodyOf Tryd.f11)
abbrev zq4a (β : Type) := Int → Int → Int → Option β
abbrev zq4b := {β : Type} → zq4a β → (List UInt8) → Bool → Bool → Int → Int → Int → Int → Option β
def zq4c : View := ⟨0, [0, 2, 7, 8, 9], [(false, [.data .str]), (false, [.ptr 0 0]), (false, [.ptr 1 0]), (false, [.data .err]), (false, [.data .err])], [.cells 24 [.data (.int .i64), .data (.int .i64)], .cells 24 [.data (.int .i64), .data (.int .i64)]]⟩
def zq4d : List (AExit × View) := [(.ret, ⟨0, [2, 3], [(false, [.ptr 0 0]), (false, [.data (.int .i64)])], [.cells 24 [.data (.int .i64), .data (.int .i64)]]⟩)]
@[reducible] def ratio_Parse_p1_G (p : zq4b) {β : Type} (d : zq4c.den) (ks : Outs.K β zq4d) : Option β :=
  p (fun a0 a1 a2 => ks.1 (((), (a0, ()), ()), ((a1, a2, ()), ()))) d.1.1.1 d.1.2.2.2.1.1 d.1.2.2.2.2.1.1 d.2.1.1 d.2.1.2.1 d.2.2.1.1 d.2.2.1.2.1
section
variable (c_ratio_Text : zq41) (c_strconv_Atoi : zql) (c_strings_Cut : zqf)
@[reducible] def ratio_Parse_X : Ctx := ⟨look tab, pick1 [(10, .spec (zq42 c_ratio_Text)), (31, .spec (zqm c_strconv_Atoi)), (30, .spec (zqg c_strings_Cut))], false, false, false⟩
def zq4e {β : Type} (k1 : zq4a β) (text : List UInt8) (e : Bool) (f : Bool) (t2 : Int) (t22 : Int) (r_ : Int) (r_2 : Int) : Option β :=
  cond (!e)
  (k1 (2 : Int) (0 : Int) (0 : Int))
  (cond (!f)
  (k1 (2 : Int) (0 : Int) (0 : Int))
  (cond (decide (text = ([] : List UInt8)))
  (k1 (2 : Int) (0 : Int) (0 : Int))
  (c_ratio_Text (r_, r_2) (fun (rText : List UInt8) =>
  cond (!decide (rText = text))
  (k1 (2 : Int) (0 : Int) (0 : Int))
  (k1 (0 : Int) r_ r_2)))))
def zq4f {β : Type} (k1 : zq4a β) (text : List UInt8) (e : Bool) (f : Bool) (t2 : Int) (t22 : Int) (r_ : Int) (r_2 : Int) : Option β := zq4e c_ratio_Text k1 text e f t2 t22 r_ r_2
theorem zq4g (hΓ : ΓOk Tryd.prog (ratio_Parse_X c_ratio_Text c_strconv_Atoi c_strings_Cut).Γ) : PieceOk Tryd.prog 48 0 ratio_Parse_p1_code zq4c zq4d (ratio_Parse_p1_G (zq4f c_ratio_Text)) :=
  piece_exec (X := (ratio_Parse_X c_ratio_Text c_strconv_Atoi c_strings_Cut)) (p := 127) (Λ := pick1 []) mixed tab_ok hΓ (by kernel_rfl) CutsOk_nil (fun d ks r h => Eq.trans (b := ratio_Parse_p1_G (zq4f c_ratio_Text) d ks) (by kernel_rfl) h)
def zq4h (p1 : zq4b) {β : Type} (text : List UInt8) (k : ((Int × Int) → Int → Option β)) : Option β :=
  c_strings_Cut text ([47] : List UInt8) (fun (rCut : List UInt8) (rCut2 : List UInt8) (rCut3 : Bool) =>
  c_strconv_Atoi rCut (fun (rAtoi : Int) (rAtoi2 : Bool) =>
  cond rCut3
  (c_strconv_Atoi rCut2 (fun (rAtoi3 : Int) (rAtoi4 : Bool) =>
  p1 (fun (t3 : Int) (t2 : Int) (t22 : Int) =>
  k (t2, t22) t3) text rAtoi2 rAtoi4 (0 : Int) (0 : Int) rAtoi rAtoi3))
  (p1 (fun (t3 : Int) (t2 : Int) (t22 : Int) =>
  k (t2, t22) t3) text rAtoi2 true (0 : Int) (0 : Int) rAtoi (1 : Int))))
theorem zq4i (hΓ : ΓOk Tryd.prog (ratio_Parse_X c_ratio_Text c_strconv_Atoi c_strings_Cut).Γ) (p1 : zq4b) (hp1 : PieceOk Tryd.prog 48 0 ratio_Parse_p1_code zq4c zq4d (ratio_Parse_p1_G p1)) : SpecOk Tryd.prog 11 (zq49 (zq4h c_strconv_Atoi c_strings_Cut p1)) :=
  spec_exec (X := (ratio_Parse_X c_ratio_Text c_strconv_Atoi c_strings_Cut)) (Λ := pick1 [(127, pieceCut zq4c zq4d (ratio_Parse_p1_G p1))]) (rs := [.cell 2 24, .tmp 3]) (c := bodyOf Tryd.f11) mixed tab_ok hΓ Tryd.func11 (by kernel_rfl) (by kernel_rfl) (by kernel_rfl) (by kernel_rfl) (CutsOk_cons (q := 127) (c' := ratio_Parse_p1_code) (by kernel_rfl) rfl hp1 CutsOk_nil) (fun x k r h => Eq.trans (b := (zq49 (zq4h c_strconv_Atoi c_strings_Cut p1)).run x k) (by kernel_rfl) h)
end
theorem zq4jΓ : ΓOk Tryd.prog (pick1 [(10, .spec (zq42 zq46)), (31, .spec (zqm zqn)), (30, .spec (zqg zqh))]) := (ΓOk_cons zq47 (ΓOk_cons zqo (ΓOk_cons zqi ΓOk_nil)))
def zq4k : zq4b := zq4f zq46
theorem zq4l : PieceOk Tryd.prog 48 0 ratio_Parse_p1_code zq4c zq4d (ratio_Parse_p1_G zq4k) := zq4g zq46 zqn zqh zq4jΓ
def zq4m : zq48 := zq4h zqn zqh zq4k
theorem zq4n : SpecOk Tryd.prog 11 (zq49 zq4m) := zq4i zq46 zqn zqh zq4jΓ zq4k zq4l

/-- pagewatch/ratio.Add -/
abbrev zq4o := {β : Type} → (Int × Int) → (Int × Int) → ((Int × Int) → Int → Option β) → Option β
def zq4p (c : zq4o) : Spec :=
  ⟨[(true, [.data (.prod (.int .i64) (.int .i64))]), (true, [.data (.prod (.int .i64) (.int .i64))])], [], [(true, [.data (.prod (.int .i64) (.int .i64))]), (false, [.data (.int .i64)])], [], fun x k => c x.1.1.1 x.1.2.1.1 (fun r0 r1 => k (((r0, ()), (r1, ()), ()), ()))⟩
section
variable (c_ratio_New : zq32) (c_ratio_Valid : zq2v) (c_ratio_gcd : zqp) (c_ratio_plus : zq17) (c_ratio_times : zq3g)
@[reducible] def ratio_Add_X : Ctx := ⟨look tab, pick1 [(27, .spec (zq33 c_ratio_New)), (15, .spec (zq2w c_ratio_Valid)), (33, .spec (zqq c_ratio_gcd)), (35, .spec (zq18 c_ratio_plus)), (34, .spec (zq3h c_ratio_times))], false, false, false⟩
def zq4q {β : Type} (a : (Int × Int)) (b : (Int × Int)) (k : ((Int × Int) → Int → Option β)) : Option β :=
  c_ratio_Valid a (fun (rValid : Bool) =>
  cond (!rValid)
  (k ((0 : Int), (0 : Int)) (8 : Int))
  (c_ratio_Valid b (fun (rValid2 : Bool) =>
  cond (!rValid2)
  (k ((0 : Int), (0 : Int)) (8 : Int))
  (c_ratio_gcd a.2 b.2 (fun (rgcd : Int) =>
  cond (!decide (rgcd = 0))
  (c_ratio_times a.1 (IntKind.i64.wrap (Int.tdiv b.2 rgcd)) (fun (rtimes : Int) (rtimes2 : Bool) =>
  cond (!decide (rgcd = 0))
  (c_ratio_times b.1 (IntKind.i64.wrap (Int.tdiv a.2 rgcd)) (fun (rtimes3 : Int) (rtimes4 : Bool) =>
  cond (!decide (rgcd = 0))
  (c_ratio_times (IntKind.i64.wrap (Int.tdiv a.2 rgcd)) b.2 (fun (rtimes5 : Int) (rtimes6 : Bool) =>
  cond (!rtimes2)
  (k ((0 : Int), (0 : Int)) (5 : Int))
  (cond (!rtimes4)
  (k ((0 : Int), (0 : Int)) (5 : Int))
  (cond (!rtimes6)
  (k ((0 : Int), (0 : Int)) (5 : Int))
  (c_ratio_plus rtimes rtimes3 (fun (rplus : Int) (rplus2 : Bool) =>
  cond (!rplus2)
  (k ((0 : Int), (0 : Int)) (5 : Int))
  (c_ratio_New rplus rtimes5 (fun (rNew : (Int × Int)) (rNew2 : Int) =>
  k rNew rNew2))))))))
  none))
  none))
  none)))))
theorem zq4r (hΓ : ΓOk Tryd.prog (ratio_Add_X c_ratio_New c_ratio_Valid c_ratio_gcd c_ratio_plus c_ratio_times).Γ) : SpecOk Tryd.prog 13 (zq4p (zq4q c_ratio_New c_ratio_Valid c_ratio_gcd c_ratio_plus c_ratio_times)) :=
  spec_exec (X := (ratio_Add_X c_ratio_New c_ratio_Valid c_ratio_gcd c_ratio_plus c_ratio_times)) (Λ := pick1 []) (rs := [.cell 4 24, .tmp 5]) (c := bodyOf Tryd.f13) mixed tab_ok hΓ Tryd.func13 (by kernel_rfl) (by kernel_rfl) (by kernel_rfl) (by kernel_rfl) CutsOk_nil (fun x k r h => Eq.trans (b := (zq4p (zq4q c_ratio_New c_ratio_Valid c_ratio_gcd c_ratio_plus c_ratio_times)).run x k) (by kernel_rfl) h)
end
theorem zq4sΓ : ΓOk Tryd.prog (pick1 [(27, .spec (zq33 zq37)), (15, .spec (zq2w zq30)), (33, .spec (zqq zq15)), (35, .spec (zq18 zq1c)), (34, .spec (zq3h zq3l))]) := (ΓOk_cons zq38 (ΓOk_cons zq31 (ΓOk_cons zq16 (ΓOk_cons zq1d (ΓOk_cons zq3m ΓOk_nil)))))
def zq4t : zq4o := zq4q zq37 zq30 zq15 zq1c zq3l
theorem zq4u : SpecOk Tryd.prog 13 (zq4p zq4t) := zq4r zq37 zq30 zq15 zq1c zq3l zq4sΓ

/-- pagewatch/ratio.Mul -/
abbrev zq4v := {β : Type} → (Int × Int) → (Int × Int) → ((Int × Int) → Int → Option β) → Option β
def zq4w (c : zq4v) : Spec :=
  ⟨[(true, [.data (.prod (.int .i64) (.int .i64))]), (true, [.data (.prod (.int .i64) (.int .i64))])], [], [(true, [.data (.prod (.int .i64) (.int .i64))]), (false, [.data (.int .i64)])], [], fun x k => c x.1.1.1 x.1.2.1.1 (fun r0 r1 => k (((r0, ()), (r1, ()), ()), ()))⟩
section
variable (c_ratio_Valid : zq2v) (c_ratio_product : zq3n)
@[reducible] def ratio_Mul_X : Ctx := ⟨look tab, pick1 [(15, .spec (zq2w c_ratio_Valid)), (38, .spec (zq3o c_ratio_product))], false, false, false⟩
def zq4x {β : Type} (a : (Int × Int)) (b : (Int × Int)) (k : ((Int × Int) → Int → Option β)) : Option β :=
  c_ratio_Valid a (fun (rValid : Bool) =>
  cond (!rValid)
  (k ((0 : Int), (0 : Int)) (8 : Int))
  (c_ratio_Valid b (fun (rValid2 : Bool) =>
  cond (!rValid2)
  (k ((0 : Int), (0 : Int)) (8 : Int))
  (c_ratio_product a b (fun (rproduct : (Int × Int)) (rproduct2 : Int) =>
  k rproduct rproduct2)))))
theorem zq4y (hΓ : ΓOk Tryd.prog (ratio_Mul_X c_ratio_Valid c_ratio_product).Γ) : SpecOk Tryd.prog 16 (zq4w (zq4x c_ratio_Valid c_ratio_product)) :=
  spec_exec (X := (ratio_Mul_X c_ratio_Valid c_ratio_product)) (Λ := pick1 []) (rs := [.cell 4 24, .tmp 5]) (c := bodyOf Tryd.f16) mixed tab_ok hΓ Tryd.func16 (by kernel_rfl) (by kernel_rfl) (by kernel_rfl) (by kernel_rfl) CutsOk_nil (fun x k r h => Eq.trans (b := (zq4w (zq4x c_ratio_Valid c_ratio_product)).run x k) (by kernel_rfl) h)
end
theorem zq4zΓ : ΓOk Tryd.prog (pick1 [(15, .spec (zq2w zq30)), (38, .spec (zq3o zq3s))]) := (ΓOk_cons zq31 (ΓOk_cons zq3t ΓOk_nil))
def zq50 : zq4v := zq4x zq30 zq3s
theorem zq51 : SpecOk Tryd.prog 16 (zq4w zq50) := zq4y zq30 zq3s zq4zΓ

/-- pagewatch/ratio.Div -/
abbrev zq52 := {β : Type} → (Int × Int) → (Int × Int) → ((Int × Int) → Int → Option β) → Option β
def zq53 (c : zq52) : Spec :=
  ⟨[(true, [.data (.prod (.int .i64) (.int .i64))]), (true, [.data (.prod (.int .i64) (.int .i64))])], [], [(true, [.data (.prod (.int .i64) (.int .i64))]), (false, [.data (.int .i64)])], [], fun x k => c x.1.1.1 x.1.2.1.1 (fun r0 r1 => k (((r0, ()), (r1, ()), ()), ()))⟩
noncomputable def ratio_Div_p1_code : Code := codeAt 7 (bodyOf Tryd.f17)
noncomputable def ratio_Div_p2_code : Code := codeAt 25 (bodyOf Tryd.f17)
abbrev zq54 (β : Type) := Int → Int → Int → Option β
abbrev zq55 := {β : Type} → zq54 β → Int → Int → Int → Int → Int → Int → Option β
def zq56 : View := ⟨0, [2, 3, 4], [(false, [.ptr 0 0]), (false, [.ptr 1 0]), (false, [.ptr 2 0])], [.cells 24 [.data (.int .i64), .data (.int .i64)], .cells 24 [.data (.int .i64), .data (.int .i64)], .cells 24 [.data (.int .i64), .data (.int .i64)]]⟩
def zq57 : List (AExit × View) := [(.ret, ⟨0, [4, 5], [(false, [.ptr 0 0]), (false, [.data (.int .i64)])], [.cells 24 [.data (.int .i64), .data (.int .i64)]]⟩)]
@[reducible] def ratio_Div_p1_G (p : zq55) {β : Type} (d : zq56.den) (ks : Outs.K β zq57) : Option β :=
  p (fun a0 a1 a2 => ks.1 (((), (a0, ()), ()), ((a1, a2, ()), ()))) d.2.1.1 d.2.1.2.1 d.2.2.1.1 d.2.2.1.2.1 d.2.2.2.1.1 d.2.2.2.1.2.1
abbrev zq58 (β : Type) := Int → Int → Int → Option β
abbrev zq59 (β : Type) := Int → Int → Int → Int → Int → Int → Option β
abbrev zq5a := {β : Type} → zq58 β → zq59 β → Bool → Int → Int → Int → Int → Int → Int → Option β
def zq5b : View := ⟨0, [2, 3, 4, 7], [(false, [.ptr 0 0]), (false, [.ptr 1 0]), (false, [.ptr 2 0]), (false, [.data .bool])], [.cells 24 [.data (.int .i64), .data (.int .i64)], .cells 24 [.data (.int .i64), .data (.int .i64)], .cells 24 [.data (.int .i64), .data (.int .i64)]]⟩
def zq5c : List (AExit × View) := [(.ret, ⟨0, [4, 5], [(false, [.ptr 0 0]), (false, [.data (.int .i64)])], [.cells 24 [.data (.int .i64), .data (.int .i64)]]⟩), (.normal, ⟨0, [2, 3, 4], [(false, [.ptr 0 0]), (false, [.ptr 1 0]), (false, [.ptr 2 0])], [.cells 24 [.data (.int .i64), .data (.int .i64)], .cells 24 [.data (.int .i64), .data (.int .i64)], .cells 24 [.data (.int .i64), .data (.int .i64)]]⟩)]
@[reducible] def ratio_Div_p2_G (p : zq5a) {β : Type} (d : zq5b.den) (ks : Outs.K β zq5c) : Option β :=
  p (fun a0 a1 a2 => ks.1 (((), (a0, ()), ()), ((a1, a2, ()), ()))) (fun a0 a1 a2 a3 a4 a5 => ks.2.1 (((), (), (), ()), ((a0, a1, ()), (a2, a3, ()), (a4, a5, ()), ()))) d.1.2.2.2.1.1 d.2.1.1 d.2.1.2.1 d.2.2.1.1 d.2.2.1.2.1 d.2.2.2.1.1 d.2.2.2.1.2.1
section
variable (c_ratio_Valid : zq2v) (c_ratio_product : zq3n) (c_ratio_size : zq1l)
@[reducible] def ratio_Div_X : Ctx := ⟨look tab, pick1 [(15, .spec (zq2w c_ratio_Valid)), (38, .spec (zq3o c_ratio_product)), (37, .spec (zq1m c_ratio_size))], false, false, false⟩
def zq5d {β : Type} (k1 : zq54 β) (a : Int) (a2 : Int) (b : Int) (b2 : Int) (t4 : Int) (t42 : Int) : Option β :=
  c_ratio_size b (fun (rsize : Int) =>
  cond (decide (b < (0 : Int)))
  (c_ratio_product (a, a2) ((IntKind.i64.wrap (0 - b2)), rsize) (fun (rproduct : (Int × Int)) (rproduct2 : Int) =>
  k1 rproduct2 rproduct.1 rproduct.2))
  (c_ratio_product (a, a2) (b2, rsize) (fun (rproduct : (Int × Int)) (rproduct2 : Int) =>
  k1 rproduct2 rproduct.1 rproduct.2)))
def zq5e {β : Type} (k1 : zq54 β) (a : Int) (a2 : Int) (b : Int) (b2 : Int) (t4 : Int) (t42 : Int) : Option β := zq5d c_ratio_product c_ratio_size k1 a a2 b b2 t4 t42
theorem zq5f (hΓ : ΓOk Tryd.prog (ratio_Div_X c_ratio_Valid c_ratio_product c_ratio_size).Γ) : PieceOk Tryd.prog 40 0 ratio_Div_p1_code zq56 zq57 (ratio_Div_p1_G (zq5e c_ratio_product c_ratio_size)) :=
  piece_exec (X := (ratio_Div_X c_ratio_Valid c_ratio_product c_ratio_size)) (p := 7) (Λ := pick1 []) mixed tab_ok hΓ (by kernel_rfl) CutsOk_nil (fun d ks r h => Eq.trans (b := ratio_Div_p1_G (zq5e c_ratio_product c_ratio_size) d ks) (by kernel_rfl) h)
def zq5g {β : Type} (k1 : zq58 β) (k2 : zq59 β) (t7 : Bool) (a : Int) (a2 : Int) (b : Int) (b2 : Int) (t4 : Int) (t42 : Int) : Option β :=
  cond t7
  (k1 (8 : Int) (0 : Int) (0 : Int))
  (cond (decide (b = (0 : Int)))
  (k1 (1 : Int) (0 : Int) (0 : Int))
  (k2 a a2 b b2 t4 t42))
def zq5h {β : Type} (k1 : zq58 β) (k2 : zq59 β) (t7 : Bool) (a : Int) (a2 : Int) (b : Int) (b2 : Int) (t4 : Int) (t42 : Int) : Option β := zq5g k1 k2 t7 a a2 b b2 t4 t42
theorem zq5i (hΓ : ΓOk Tryd.prog (ratio_Div_X c_ratio_Valid c_ratio_product c_ratio_size).Γ) : PieceOk Tryd.prog 40 0 ratio_Div_p2_code zq5b zq5c (ratio_Div_p2_G (zq5h)) :=
  piece_exec (X := (ratio_Div_X c_ratio_Valid c_ratio_product c_ratio_size)) (p := 25) (Λ := pick1 []) mixed tab_ok hΓ (by kernel_rfl) CutsOk_nil (fun d ks r h => Eq.trans (b := ratio_Div_p2_G (zq5h) d ks) (by kernel_rfl) h)
def zq5j (p1 : zq55) (p2 : zq5a) {β : Type} (a : (Int × Int)) (b : (Int × Int)) (k : ((Int × Int) → Int → Option β)) : Option β :=
  c_ratio_Valid a (fun (rValid : Bool) =>
  cond (!rValid)
  (p2 (fun (t5 : Int) (t4 : Int) (t42 : Int) =>
  k (t4, t42) t5) (fun (a2 : Int) (a3 : Int) (b2 : Int) (b3 : Int) (t4 : Int) (t42 : Int) =>
  p1 (fun (t5 : Int) (t43 : Int) (t44 : Int) =>
  k (t43, t44) t5) a2 a3 b2 b3 t4 t42) true a.1 a.2 b.1 b.2 (0 : Int) (0 : Int))
  (c_ratio_Valid b (fun (rValid2 : Bool) =>
  p2 (fun (t5 : Int) (t4 : Int) (t42 : Int) =>
  k (t4, t42) t5) (fun (a2 : Int) (a3 : Int) (b2 : Int) (b3 : Int) (t4 : Int) (t42 : Int) =>
  p1 (fun (t5 : Int) (t43 : Int) (t44 : Int) =>
  k (t43, t44) t5) a2 a3 b2 b3 t4 t42) (!rValid2) a.1 a.2 b.1 b.2 (0 : Int) (0 : Int))))
theorem zq5k (hΓ : ΓOk Tryd.prog (ratio_Div_X c_ratio_Valid c_ratio_product c_ratio_size).Γ) (p1 : zq55) (p2 : zq5a) (hp1 : PieceOk Tryd.prog 40 0 ratio_Div_p1_code zq56 zq57 (ratio_Div_p1_G p1)) (hp2 : PieceOk Tryd.prog 40 0 ratio_Div_p2_code zq5b zq5c (ratio_Div_p2_G p2)) : SpecOk Tryd.prog 17 (zq53 (zq5j c_ratio_Valid p1 p2)) :=
  spec_exec (X := (ratio_Div_X c_ratio_Valid c_ratio_product c_ratio_size)) (Λ := pick1 [(7, pieceCut zq56 zq57 (ratio_Div_p1_G p1)), (25, pieceCut zq5b zq5c (ratio_Div_p2_G p2))]) (rs := [.cell 4 24, .tmp 5]) (c := bodyOf Tryd.f17) mixed tab_ok hΓ Tryd.func17 (by kernel_rfl) (by kernel_rfl) (by kernel_rfl) (by kernel_rfl) (CutsOk_cons (q := 7) (c' := ratio_Div_p1_code) (by kernel_rfl) rfl hp1 (CutsOk_cons (q := 25) (c' := ratio_Div_p2_code) (by kernel_rfl) rfl hp2 CutsOk_nil)) (fun x k r h => Eq.trans (b := (zq53 (zq5j c_ratio_Valid p1 p2)).run x k) (by kernel_rfl) h)
end
theorem zq5lΓ : ΓOk Tryd.prog (pick1 [(15, .spec (zq2w zq30)), (38, .spec (zq3o zq3s)), (37, .spec (zq1m zq1q))]) := (ΓOk_cons zq31 (ΓOk_cons zq3t (ΓOk_cons zq1r ΓOk_nil)))
def zq5m : zq55 := zq5e zq3s zq1q
theorem zq5n : PieceOk Tryd.prog 40 0 ratio_Div_p1_code zq56 zq57 (ratio_Div_p1_G zq5m) := zq5f zq30 zq3s zq1q zq5lΓ
def zq5o : zq5a := zq5h
theorem zq5p : PieceOk Tryd.prog 40 0 ratio_Div_p2_code zq5b zq5c (ratio_Div_p2_G zq5o) := zq5i zq30 zq3s zq1q zq5lΓ
def zq5q : zq52 := zq5j zq30 zq5m zq5o
theorem zq5r : SpecOk Tryd.prog 17 (zq53 zq5q) := zq5k zq30 zq3s zq1q zq5lΓ zq5m zq5o zq5n zq5p

/-- pagewatch/pagewatchlaw02.sane -/
abbrev zq5s := {β : Type} → (Bool → Option β) → Option β
def zq5t (c : zq5s) : Spec :=
  ⟨[], [], [(false, [.data .bool])], [], fun x k => c  (fun r0 => k (((r0, ()), ()), ()))⟩
section
variable (c_ratio_Add : zq4o) (c_ratio_Mul : zq4v) (c_ratio_Parse : zq48) (c_ratio_Text : zq41)
@[reducible] def law02_sane_X : Ctx := ⟨look tab, pick1 [(13, .spec (zq4p c_ratio_Add)), (16, .spec (zq4w c_ratio_Mul)), (11, .spec (zq49 c_ratio_Parse)), (10, .spec (zq42 c_ratio_Text))], false, false, false⟩
def zq5u {β : Type} (k : (Bool → Option β)) : Option β :=
  c_ratio_Add ((1 : Int), (6 : Int)) ((1 : Int), (3 : Int)) (fun (rAdd : (Int × Int)) (rAdd2 : Int) =>
  c_ratio_Mul ((4611686018427387904 : Int), (1 : Int)) ((2 : Int), (1 : Int)) (fun (rMul : (Int × Int)) (rMul2 : Int) =>
  c_ratio_Parse ([50, 47, 52] : List UInt8) (fun (rParse : (Int × Int)) (rParse2 : Int) =>
  cond (decide (rAdd2 = (0 : Int)))
  (cond (decide (rAdd.1 = (1 : Int)) && (decide (rAdd.2 = (2 : Int)) && true))
  (cond (decide (rMul2 = (5 : Int)))
  (cond (decide (rParse2 = (2 : Int)))
  (c_ratio_Text rAdd (fun (rText : List UInt8) =>
  let t : Bool := (decide (rText = ([49, 47, 50] : List UInt8)));
  k t))
  (k false))
  (k false))
  (k false))
  (k false))))
theorem zq5v (hΓ : ΓOk Tryd.prog (law02_sane_X c_ratio_Add c_ratio_Mul c_ratio_Parse c_ratio_Text).Γ) : SpecOk Tryd.prog 8 (zq5t (zq5u c_ratio_Add c_ratio_Mul c_ratio_Parse c_ratio_Text)) :=
  spec_exec (X := (law02_sane_X c_ratio_Add c_ratio_Mul c_ratio_Parse c_ratio_Text)) (Λ := pick1 []) (rs := [.tmp 0]) (c := bodyOf Tryd.f8) mixed tab_ok hΓ Tryd.func8 (by kernel_rfl) (by kernel_rfl) (by kernel_rfl) (by kernel_rfl) CutsOk_nil (fun x k r h => Eq.trans (b := (zq5t (zq5u c_ratio_Add c_ratio_Mul c_ratio_Parse c_ratio_Text)).run x k) (by kernel_rfl) h)
end
theorem zq5wΓ : ΓOk Tryd.prog (pick1 [(13, .spec (zq4p zq4t)), (16, .spec (zq4w zq50)), (11, .spec (zq49 zq4m)), (10, .spec (zq42 zq46))]) := (ΓOk_cons zq4u (ΓOk_cons zq51 (ΓOk_cons zq4n (ΓOk_cons zq47 ΓOk_nil))))
def zq5x : zq5s := zq5u zq4t zq50 zq4m zq46
theorem zq5y : SpecOk Tryd.prog 8 (zq5t zq5x) := zq5v zq4t zq50 zq4m zq46 zq5wΓ

/-- pagewatch/pagewatchlaw02.RatioProducts -/
abbrev zq5z := {β : Type} → Int → Int → Int → Int → Int → (Bool → Option β) → Option β
def zq60 (c : zq5z) : Spec :=
  ⟨[(false, [.data (.int .i64)]), (false, [.data (.int .i64)]), (false, [.data (.int .i64)]), (false, [.data (.int .i64)]), (false, [.data (.int .i64)])], [], [(false, [.data .bool])], [], fun x k => c x.1.1.1 x.1.2.1.1 x.1.2.2.1.1 x.1.2.2.2.1.1 x.1.2.2.2.2.1.1 (fun r0 => k (((r0, ()), ()), ()))⟩
noncomputable def law02_RatioProducts_p1_code : Code := codeAt 127 (bodyOf Tryd.f5)
noncomputable def law02_RatioProducts_p2_code : Code := codeAt 253 (bodyOf Tryd.f5)
abbrev zq61 (β : Type) := Bool → Option β
abbrev zq62 := {β : Type} → zq61 β → Int → Int → Int → Option β
def zq63 : View := ⟨0, [0, 1, 4], [(false, [.data (.int .i64)]), (false, [.data (.int .i64)]), (false, [.data (.int .i64)])], []⟩
def zq64 : List (AExit × View) := [(.ret, ⟨0, [10], [(false, [.data .bool])], []⟩)]
@[reducible] def law02_RatioProducts_p1_G (p : zq62) {β : Type} (d : zq63.den) (ks : Outs.K β zq64) : Option β :=
  p (fun a0 => ks.1 (((a0, ()), ()), ())) d.1.1.1 d.1.2.1.1 d.1.2.2.1.1
abbrev zq65 (β : Type) := Bool → Option β
abbrev zq66 (β : Type) := Int → Int → Int → Option β
abbrev zq67 := {β : Type} → zq65 β → zq66 β → Int → Int → Int → Bool → Int → Int → Int → Int → Int → Int → Option β
def zq68 : View := ⟨0, [0, 1, 4, 11, 12, 13, 64], [(false, [.data (.int .i64)]), (false, [.data (.int .i64)]), (false, [.data (.int .i64)]), (false, [.ptr 0 0]), (false, [.ptr 1 0]), (false, [.ptr 2 0]), (false, [.data .bool])], [.cells 24 [.data (.int .i64), .data (.int .i64)], .cells 24 [.data (.int .i64), .data (.int .i64)], .cells 24 [.data (.int .i64), .data (.int .i64)]]⟩
def zq69 : List (AExit × View) := [(.ret, ⟨0, [10], [(false, [.data .bool])], []⟩), (.normal, ⟨0, [0, 1, 4], [(false, [.data (.int .i64)]), (false, [.data (.int .i64)]), (false, [.data (.int .i64)])], []⟩)]
@[reducible] def law02_RatioProducts_p2_G (p : zq67) {β : Type} (d : zq68.den) (ks : Outs.K β zq69) : Option β :=
  p (fun a0 => ks.1 (((a0, ()), ()), ())) (fun a0 a1 a2 => ks.2.1 (((a0, ()), (a1, ()), (a2, ()), ()), ())) d.1.1.1 d.1.2.1.1 d.1.2.2.1.1 d.1.2.2.2.2.2.2.1.1 d.2.1.1 d.2.1.2.1 d.2.2.1.1 d.2.2.1.2.1 d.2.2.2.1.1 d.2.2.2.1.2.1
section
variable (c_law02_draw : zq3u) (c_law02_sane : zq5s) (c_made_Mod : zq0) (c_ratio_Add : zq4o) (c_ratio_Div : zq52) (c_ratio_Mul : zq4v)
@[reducible] def law02_RatioProducts_X : Ctx := ⟨look tab, pick1 [(9, .spec (zq3v c_law02_draw)), (8, .spec (zq5t c_law02_sane)), (18, .spec (zq1 c_made_Mod)), (13, .spec (zq4p c_ratio_Add)), (17, .spec (zq53 c_ratio_Div)), (16, .spec (zq4w c_ratio_Mul))], false, false, false⟩
def zq6a {β : Type} (k1 : zq61 β) (a : Int) (b : Int) (n : Int) : Option β :=
  c_made_Mod a (50 : Int) (fun (rMod : Int) =>
  c_made_Mod b (9 : Int) (fun (rMod2 : Int) =>
  c_made_Mod n (30 : Int) (fun (rMod3 : Int) =>
  c_ratio_Div (rMod, (1 : Int)) ((IntKind.i64.wrap ((1 : Int) + rMod2)), (1 : Int)) (fun (rDiv : (Int × Int)) (rDiv2 : Int) =>
  c_ratio_Add rDiv (rMod3, (1 : Int)) (fun (rAdd : (Int × Int)) (rAdd2 : Int) =>
  c_ratio_Mul rAdd ((IntKind.i64.wrap ((1 : Int) + rMod2)), (1 : Int)) (fun (rMul : (Int × Int)) (rMul2 : Int) =>
  c_ratio_Mul rDiv ((IntKind.i64.wrap ((1 : Int) + rMod2)), (1 : Int)) (fun (rMul3 : (Int × Int)) (rMul4 : Int) =>
  c_ratio_Mul (rMod3, (1 : Int)) ((IntKind.i64.wrap ((1 : Int) + rMod2)), (1 : Int)) (fun (rMul5 : (Int × Int)) (rMul6 : Int) =>
  c_ratio_Add rMul3 rMul5 (fun (rAdd3 : (Int × Int)) (rAdd4 : Int) =>
  cond (decide (rAdd2 = (0 : Int)))
  (cond (decide (rMul2 = (0 : Int)))
  (cond (decide (rMul4 = (0 : Int)))
  (cond (decide (rMul6 = (0 : Int)))
  (cond (decide (rAdd4 = (0 : Int)))
  (cond (decide (rMul.1 = rAdd3.1) && (decide (rMul.2 = rAdd3.2) && true))
  (c_law02_sane  (fun (rsane : Bool) =>
  k1 rsane))
  (k1 false))
  (k1 false))
  (k1 false))
  (k1 false))
  (k1 false))
  (k1 false))))))))))
def zq6b {β : Type} (k1 : zq61 β) (a : Int) (b : Int) (n : Int) : Option β := zq6a c_law02_sane c_made_Mod c_ratio_Add c_ratio_Div c_ratio_Mul k1 a b n
theorem zq6c (hΓ : ΓOk Tryd.prog (law02_RatioProducts_X c_law02_draw c_law02_sane c_made_Mod c_ratio_Add c_ratio_Div c_ratio_Mul).Γ) : PieceOk Tryd.prog 150 0 law02_RatioProducts_p1_code zq63 zq64 (law02_RatioProducts_p1_G (zq6b c_law02_sane c_made_Mod c_ratio_Add c_ratio_Div c_ratio_Mul)) :=
  piece_exec (X := (law02_RatioProducts_X c_law02_draw c_law02_sane c_made_Mod c_ratio_Add c_ratio_Div c_ratio_Mul)) (p := 127) (Λ := pick1 []) mixed tab_ok hΓ (by kernel_rfl) CutsOk_nil (fun d ks r h => Eq.trans (b := law02_RatioProducts_p1_G (zq6b c_law02_sane c_made_Mod c_ratio_Add c_ratio_Div c_ratio_Mul) d ks) (by kernel_rfl) h)
def zq6d {β : Type} (k1 : zq65 β) (k2 : zq66 β) (a : Int) (b : Int) (n : Int) (t64 : Bool) (x : Int) (x2 : Int) (y : Int) (y2 : Int) (u : Int) (u2 : Int) : Option β :=
  cond t64
  (c_ratio_Div (u, u2) (y, y2) (fun (rDiv : (Int × Int)) (rDiv2 : Int) =>
  cond (!decide (rDiv2 = (0 : Int)))
  (k1 false)
  (cond (!(decide (rDiv.1 = x) && (decide (rDiv.2 = x2) && true)))
  (k1 false)
  (k2 a b n))))
  (k2 a b n)
def zq6e {β : Type} (k1 : zq65 β) (k2 : zq66 β) (a : Int) (b : Int) (n : Int) (t64 : Bool) (x : Int) (x2 : Int) (y : Int) (y2 : Int) (u : Int) (u2 : Int) : Option β := zq6d c_ratio_Div k1 k2 a b n t64 x x2 y y2 u u2
theorem zq6f (hΓ : ΓOk Tryd.prog (law02_RatioProducts_X c_law02_draw c_law02_sane c_made_Mod c_ratio_Add c_ratio_Div c_ratio_Mul).Γ) : PieceOk Tryd.prog 150 0 law02_RatioProducts_p2_code zq68 zq69 (law02_RatioProducts_p2_G (zq6e c_ratio_Div)) :=
  piece_exec (X := (law02_RatioProducts_X c_law02_draw c_law02_sane c_made_Mod c_ratio_Add c_ratio_Div c_ratio_Mul)) (p := 253) (Λ := pick1 []) mixed tab_ok hΓ (by kernel_rfl) CutsOk_nil (fun d ks r h => Eq.trans (b := law02_RatioProducts_p2_G (zq6e c_ratio_Div) d ks) (by kernel_rfl) h)
def zq6g (p1 : zq62) (p2 : zq67) {β : Type} (a : Int) (b : Int) (c : Int) (d : Int) (n : Int) (k : (Bool → Option β)) : Option β :=
  c_law02_draw a b (fun (rdraw : (Int × Int)) =>
  c_law02_draw c d (fun (rdraw2 : (Int × Int)) =>
  c_ratio_Mul rdraw rdraw2 (fun (rMul : (Int × Int)) (rMul2 : Int) =>
  c_ratio_Mul rdraw2 rdraw (fun (rMul3 : (Int × Int)) (rMul4 : Int) =>
  cond (!(decide (rMul.1 = rMul3.1) && (decide (rMul.2 = rMul3.2) && true)))
  (k false)
  (cond (!decide (rMul2 = rMul4))
  (k false)
  (cond (decide (rMul2 = (0 : Int)))
  (p2 (fun (t10 : Bool) =>
  k t10) (fun (a2 : Int) (b2 : Int) (n2 : Int) =>
  p1 (fun (t10 : Bool) =>
  k t10) a2 b2 n2) a b n (!decide (rdraw2.1 = (0 : Int))) rdraw.1 rdraw.2 rdraw2.1 rdraw2.2 rMul.1 rMul.2)
  (p2 (fun (t10 : Bool) =>
  k t10) (fun (a2 : Int) (b2 : Int) (n2 : Int) =>
  p1 (fun (t10 : Bool) =>
  k t10) a2 b2 n2) a b n false rdraw.1 rdraw.2 rdraw2.1 rdraw2.2 rMul.1 rMul.2)))))))
theorem zq6h (hΓ : ΓOk Tryd.prog (law02_RatioProducts_X c_law02_draw c_law02_sane c_made_Mod c_ratio_Add c_ratio_Div c_ratio_Mul).Γ) (p1 : zq62) (p2 : zq67) (hp1 : PieceOk Tryd.prog 150 0 law02_RatioProducts_p1_code zq63 zq64 (law02_RatioProducts_p1_G p1)) (hp2 : PieceOk Tryd.prog 150 0 law02_RatioProducts_p2_code zq68 zq69 (law02_RatioProducts_p2_G p2)) : SpecOk Tryd.prog 5 (zq60 (zq6g c_law02_draw c_ratio_Mul p1 p2)) :=
  spec_exec (X := (law02_RatioProducts_X c_law02_draw c_law02_sane c_made_Mod c_ratio_Add c_ratio_Div c_ratio_Mul)) (Λ := pick1 [(127, pieceCut zq63 zq64 (law02_RatioProducts_p1_G p1)), (253, pieceCut zq68 zq69 (law02_RatioProducts_p2_G p2))]) (rs := [.tmp 10]) (c := bodyOf Tryd.f5) mixed tab_ok hΓ Tryd.func5 (by kernel_rfl) (by kernel_rfl) (by kernel_rfl) (by kernel_rfl) (CutsOk_cons (q := 127) (c' := law02_RatioProducts_p1_code) (by kernel_rfl) rfl hp1 (CutsOk_cons (q := 253) (c' := law02_RatioProducts_p2_code) (by kernel_rfl) rfl hp2 CutsOk_nil)) (fun x k r h => Eq.trans (b := (zq60 (zq6g c_law02_draw c_ratio_Mul p1 p2)).run x k) (by kernel_rfl) h)
end
theorem zq6iΓ : ΓOk Tryd.prog (pick1 [(9, .spec (zq3v zq3z)), (8, .spec (zq5t zq5x)), (18, .spec (zq1 zq5)), (13, .spec (zq4p zq4t)), (17, .spec (zq53 zq5q)), (16, .spec (zq4w zq50))]) := (ΓOk_cons zq40 (ΓOk_cons zq5y (ΓOk_cons zq6 (ΓOk_cons zq4u (ΓOk_cons zq5r (ΓOk_cons zq51 ΓOk_nil))))))
def zq6j : zq62 := zq6b zq5x zq5 zq4t zq5q zq50
theorem zq6k : PieceOk Tryd.prog 150 0 law02_RatioProducts_p1_code zq63 zq64 (law02_RatioProducts_p1_G zq6j) := zq6c zq3z zq5x zq5 zq4t zq5q zq50 zq6iΓ
def zq6l : zq67 := zq6e zq5q
theorem zq6m : PieceOk Tryd.prog 150 0 law02_RatioProducts_p2_code zq68 zq69 (law02_RatioProducts_p2_G zq6l) := zq6f zq3z zq5x zq5 zq4t zq5q zq50 zq6iΓ
def zq6n : zq5z := zq6g zq3z zq50 zq6j zq6l
theorem zq6o : SpecOk Tryd.prog 5 (zq60 zq6n) := zq6h zq3z zq5x zq5 zq4t zq5q zq50 zq6iΓ zq6j zq6l zq6k zq6m
end
end Go.Lift
/- Plain lemmas about functional forms: tests that are known, loops. -/
namespace Go.Lift
open Go.RowKit Go.IntWalk

section
variable {β : Type}
/-! ### Tests -/
theorem c_pos {p : Prop} [Decidable p] {a b : Option β} (h : p) : cond (decide p) a b = a := by rw [decide_eq_true h]; rfl
theorem c_neg {p : Prop} [Decidable p] {a b : Option β} (h : ¬ p) : cond (decide p) a b = b := by rw [decide_eq_false h]; rfl
theorem c_npos {p : Prop} [Decidable p] {a b : Option β} (h : p) : cond (!decide p) a b = b := by rw [decide_eq_true h]; rfl
theorem c_nneg {p : Prop} [Decidable p] {a b : Option β} (h : ¬ p) : cond (!decide p) a b = a := by rw [decide_eq_false h]; rfl
theorem c_t {a b : Option β} : cond true a b = a := rfl
theorem c_f {a b : Option β} : cond false a b = b := rfl
theorem k_eq {γ : Type} {k : γ → Option β} {x y : γ} (h : x = y) : k x = k y := by rw [h]

/-! ### Loops over the numbers from 0 on -/
end
end Go.Lift

/- Ratios in plain Lean: the greatest common divisor, New, Less. -/
namespace Go.Lift
open Go.RowKit Go.IntWalk
noncomputable section
set_option linter.unusedVariables false
set_option linter.unusedSimpArgs false
set_option maxRecDepth 10000

theorem tmod_nat {a b : Int} (ha : 0 ≤ a) (hb : 0 < b) : Int.tmod a b = ((a.toNat % b.toNat : Nat) : Int) := by
  obtain ⟨m, rfl⟩ := Int.eq_ofNat_of_zero_le ha
  obtain ⟨n, rfl⟩ := Int.eq_ofNat_of_zero_le (Int.le_of_lt hb)
  simp [Int.tmod]

/-- The greatest common divisor. -/
def gcdI (a b : Int) : Int := (Nat.gcd a.toNat b.toNat : Nat)

theorem gcdI_zero {a : Int} (ha : 0 ≤ a) : gcdI a 0 = a := by
  simp [gcdI]
  omega

theorem gcdI_step {a b : Int} (ha : 0 ≤ a) (hb : 0 < b) : gcdI b (Int.tmod a b) = gcdI a b := by
  have h := tmod_nat ha hb
  unfold gcdI
  rw [h, Int.toNat_natCast, Nat.gcd_comm b.toNat, ← Nat.gcd_rec, Nat.gcd_comm]

theorem gcdI_pos {a b : Int} (hb : 0 < b) : 1 ≤ gcdI a b := by
  have : 0 < Nat.gcd a.toNat b.toNat := Nat.gcd_pos_of_pos_right _ (by omega)
  unfold gcdI
  omega

theorem gcdI_le {a b : Int} (hb : 0 < b) : gcdI a b ≤ b := by
  have : Nat.gcd a.toNat b.toNat ≤ b.toNat := Nat.gcd_le_right _ (by omega)
  unfold gcdI
  omega

theorem ref02_gcd_n {β : Type} : ∀ (N : Nat) (a b : Int) (f : Nat), 0 ≤ a → 0 ≤ b → b.toNat ≤ N → N < f → ∀ k1 : Int → Option β, zq24 f k1 a b = k1 (gcdI a b) := by
  intro N
  induction N with
  | zero =>
    intro a b f ha hb hN hf k1
    obtain ⟨f, rfl⟩ : ∃ f', f = f' + 1 := ⟨f - 1, by omega⟩
    have : b = 0 := by omega
    subst this
    rw [zq25, gcdI_zero ha]
    unfold zq1y
    exact c_npos rfl
  | succ N ih =>
    intro a b f ha hb hN hf k1
    obtain ⟨f, rfl⟩ : ∃ f', f = f' + 1 := ⟨f - 1, by omega⟩
    rw [zq25]
    unfold zq1y
    by_cases h0 : b = 0
    · subst h0
      rw [gcdI_zero ha]
      exact c_npos rfl
    · have hb0 : 0 < b := by omega
      have h1 := tmod_nat ha hb0
      have h2 : a.toNat % b.toNat < b.toNat := Nat.mod_lt _ (by omega)
      refine (c_nneg h0).trans ?_
      refine (c_nneg h0).trans ?_
      refine (ih b (Int.tmod a b) f hb (by omega) (by omega) (by omega) k1).trans ?_
      rw [gcdI_step ha hb0]

theorem ref02_gcd_eq {β : Type} {a b : Int} (ha : 0 ≤ a) (hb : 0 ≤ b) (hb2 : b ≤ 9223372036854775807) (k : Int → Option β) : zq28 a b k = k (gcdI a b) := by
  unfold zq28 zq21 zq26
  exact ref02_gcd_n b.toNat a b fuel ha hb (Nat.le_refl _) (lt_fuel (by omega)) _

theorem ref02_size_eq {β : Type} {n : Int} (h : -9223372036854775807 ≤ n ∧ n ≤ 9223372036854775807) (k : Int → Option β) : zq2f n k = k (n.natAbs : Int) := by
  unfold zq2f zq2c
  by_cases hn : n < 0
  · refine (c_pos hn).trans (k_eq ?_)
    rw [i64_in _ (by omega)]
    omega
  · refine (c_neg hn).trans (k_eq ?_)
    omega

theorem ref02_in_eq {β : Type} (n : Int) (k : Bool → Option β) : zq2m n k = k (decide (-4611686018427387904 ≤ n ∧ n ≤ 4611686018427387904)) := by
  unfold zq2m zq2j
  by_cases h1 : -4611686018427387904 ≤ n
  · refine (c_pos h1).trans (k_eq ?_)
    by_cases h2 : n ≤ 4611686018427387904
    · rw [decide_eq_true h2, decide_eq_true (show _ ∧ _ from ⟨h1, h2⟩)]
    · rw [decide_eq_false h2, decide_eq_false (show ¬ (_ ∧ _) from fun h => h2 h.2)]
  · refine (c_neg h1).trans (k_eq ?_)
    rw [decide_eq_false (show ¬ (_ ∧ _) from fun h => h1 h.1)]

theorem ref02_New_eq {β : Type} {num den : Int} (h : -4611686018427387904 ≤ num ∧ num ≤ 4611686018427387904) (hd : 1 ≤ den ∧ den ≤ 4611686018427387904) (k : Int × Int → Int → Option β) :
    zq3e num den k = k (num.tdiv (gcdI num.natAbs den), den.tdiv (gcdI num.natAbs den)) 0 := by
  have hg := gcdI_pos (a := (num.natAbs : Int)) (b := den) (by omega)
  have hg2 := gcdI_le (a := (num.natAbs : Int)) (b := den) (by omega)
  have w1 : IntKind.i64.wrap (num.tdiv (gcdI num.natAbs den)) = num.tdiv (gcdI num.natAbs den) := by
    refine i64_in _ ?_
    have h1 : (num.tdiv (gcdI num.natAbs den)).natAbs = num.natAbs / (gcdI num.natAbs den).natAbs := Int.natAbs_tdiv _ _
    have h2 : num.natAbs / (gcdI num.natAbs den).natAbs ≤ num.natAbs := Nat.div_le_self _ _
    omega
  have w2 : IntKind.i64.wrap (den.tdiv (gcdI num.natAbs den)) = den.tdiv (gcdI num.natAbs den) := by
    refine i64_in _ ?_
    have h1 : (den.tdiv (gcdI num.natAbs den)).natAbs = den.natAbs / (gcdI num.natAbs den).natAbs := Int.natAbs_tdiv _ _
    have h2 : den.natAbs / (gcdI num.natAbs den).natAbs ≤ den.natAbs := Nat.div_le_self _ _
    omega
  unfold zq3e zq3b
  refine (ref02_in_eq num _).trans ?_
  rw [decide_eq_true h]
  simp only [Bool.not_true, c_f]
  refine (c_neg (by omega)).trans ?_
  refine (c_neg (by omega)).trans ?_
  refine (ref02_size_eq (by omega) _).trans ?_
  refine (ref02_gcd_eq (by omega) (by omega) (by omega) _).trans ?_
  refine (c_nneg (by omega)).trans ?_
  refine (c_nneg (by omega)).trans ?_
  rw [w1, w2]

theorem ratio_gcd_n {β : Type} : ∀ (N : Nat) (a b : Int) (f : Nat), 0 ≤ a → 0 ≤ b → b.toNat ≤ N → N < f → ∀ k1 : Int → Option β, zq11 f k1 a b = k1 (gcdI a b) := by
  intro N
  induction N with
  | zero =>
    intro a b f ha hb hN hf k1
    obtain ⟨f, rfl⟩ : ∃ f', f = f' + 1 := ⟨f - 1, by omega⟩
    have : b = 0 := by omega
    subst this
    rw [zq12, gcdI_zero ha]
    unfold zqv
    exact c_npos rfl
  | succ N ih =>
    intro a b f ha hb hN hf k1
    obtain ⟨f, rfl⟩ : ∃ f', f = f' + 1 := ⟨f - 1, by omega⟩
    rw [zq12]
    unfold zqv
    by_cases h0 : b = 0
    · subst h0
      rw [gcdI_zero ha]
      exact c_npos rfl
    · have hb0 : 0 < b := by omega
      have h1 := tmod_nat ha hb0
      have h2 : a.toNat % b.toNat < b.toNat := Nat.mod_lt _ (by omega)
      refine (c_nneg h0).trans ?_
      refine (c_nneg h0).trans ?_
      refine (ih b (Int.tmod a b) f hb (by omega) (by omega) (by omega) k1).trans ?_
      rw [gcdI_step ha hb0]

theorem ratio_gcd_eq {β : Type} {a b : Int} (ha : 0 ≤ a) (hb : 0 ≤ b) (hb2 : b ≤ 9223372036854775807) (k : Int → Option β) : zq15 a b k = k (gcdI a b) := by
  unfold zq15 zqy zq13
  exact ratio_gcd_n b.toNat a b fuel ha hb (Nat.le_refl _) (lt_fuel (by omega)) _

theorem ratio_size_eq {β : Type} {n : Int} (h : -9223372036854775807 ≤ n ∧ n ≤ 9223372036854775807) (k : Int → Option β) : zq1q n k = k (n.natAbs : Int) := by
  unfold zq1q zq1n
  by_cases hn : n < 0
  · refine (c_pos hn).trans (k_eq ?_)
    rw [i64_in _ (by omega)]
    omega
  · refine (c_neg hn).trans (k_eq ?_)
    omega

theorem ratio_within_eq {β : Type} (n : Int) (k : Bool → Option β) : zq1j n k = k (decide (-4611686018427387904 ≤ n ∧ n ≤ 4611686018427387904)) := by
  unfold zq1j zq1g
  by_cases h1 : -4611686018427387904 ≤ n
  · refine (c_pos h1).trans (k_eq ?_)
    by_cases h2 : n ≤ 4611686018427387904
    · rw [decide_eq_true h2, decide_eq_true (show _ ∧ _ from ⟨h1, h2⟩)]
    · rw [decide_eq_false h2, decide_eq_false (show ¬ (_ ∧ _) from fun h => h2 h.2)]
  · refine (c_neg h1).trans (k_eq ?_)
    rw [decide_eq_false (show ¬ (_ ∧ _) from fun h => h1 h.1)]

theorem ratio_New_eq {β : Type} {num den : Int} (h : -4611686018427387904 ≤ num ∧ num ≤ 4611686018427387904) (hd : 1 ≤ den ∧ den ≤ 4611686018427387904) (k : Int × Int → Int → Option β) :
    zq37 num den k = k (num.tdiv (gcdI num.natAbs den), den.tdiv (gcdI num.natAbs den)) 0 := by
  have hg := gcdI_pos (a := (num.natAbs : Int)) (b := den) (by omega)
  have hg2 := gcdI_le (a := (num.natAbs : Int)) (b := den) (by omega)
  have w1 : IntKind.i64.wrap (num.tdiv (gcdI num.natAbs den)) = num.tdiv (gcdI num.natAbs den) := by
    refine i64_in _ ?_
    have h1 : (num.tdiv (gcdI num.natAbs den)).natAbs = num.natAbs / (gcdI num.natAbs den).natAbs := Int.natAbs_tdiv _ _
    have h2 : num.natAbs / (gcdI num.natAbs den).natAbs ≤ num.natAbs := Nat.div_le_self _ _
    omega
  have w2 : IntKind.i64.wrap (den.tdiv (gcdI num.natAbs den)) = den.tdiv (gcdI num.natAbs den) := by
    refine i64_in _ ?_
    have h1 : (den.tdiv (gcdI num.natAbs den)).natAbs = den.natAbs / (gcdI num.natAbs den).natAbs := Int.natAbs_tdiv _ _
    have h2 : den.natAbs / (gcdI num.natAbs den).natAbs ≤ den.natAbs := Nat.div_le_self _ _
    omega
  unfold zq37 zq34
  refine (c_neg (by omega)).trans ?_
  refine (c_neg (by omega)).trans ?_
  refine (ratio_within_eq num _).trans ?_
  rw [decide_eq_true h]
  simp only [Bool.not_true, c_f]
  refine (ratio_size_eq (by omega) _).trans ?_
  refine (ratio_gcd_eq (by omega) (by omega) (by omega) _).trans ?_
  refine (c_nneg (by omega)).trans ?_
  refine (c_nneg (by omega)).trans ?_
  rw [w1, w2]


end
end Go.Lift

/- Exact rational numbers: plain arithmetic for the chapter 2. -/
namespace Go.Lift
noncomputable section
set_option linter.unusedVariables false
set_option linter.unusedSimpArgs false

abbrev Rat2 := Int × Int
abbrev RM : Int := 4611686018427387904
def inR (n : Int) : Bool := decide (-RM ≤ n) && decide (n ≤ RM)
theorem inR_iff {n : Int} : inR n = true ↔ -RM ≤ n ∧ n ≤ RM := by simp [inR]
/-- In lowest terms, whatever the size. -/
structure Low (r : Rat2) : Prop where
  den : 1 ≤ r.2
  cop : Int.gcd r.1 r.2 = 1
def validQ (r : Rat2) : Bool := decide (1 ≤ r.2) && (decide (r.2 ≤ RM) && (inR r.1 && decide (Int.gcd r.1 r.2 = 1)))
theorem validQ_iff {r : Rat2} : validQ r = true ↔ Low r ∧ r.2 ≤ RM ∧ -RM ≤ r.1 ∧ r.1 ≤ RM := by
  simp only [validQ, Bool.and_eq_true, decide_eq_true_eq, inR_iff]
  exact ⟨fun h => ⟨⟨h.1, h.2.2.2⟩, h.2.1, h.2.2.1⟩, fun h => ⟨h.1.den, h.2.1, h.2.2, h.1.cop⟩⟩

theorem cop_dvd {k n m : Int} (h : Int.gcd k n = 1) (hd : k ∣ n * m) : k ∣ m := by
  have h1 := Int.dvd_gcd_mul_iff_dvd_mul.2 hd
  rw [h] at h1
  simpa using h1
theorem cop_mul {k m n : Int} (h1 : Int.gcd k m = 1) (h2 : Int.gcd k n = 1) : Int.gcd k (m * n) = 1 := by
  have h := Int.gcd_mul_right_dvd_mul_gcd k m n
  rw [h1, h2] at h
  exact Nat.dvd_one.1 h
theorem cop_sub {a b c d : Int} (h : Int.gcd (c * a) (d * b) = 1) : Int.gcd a b = 1 := by
  have h1 : Int.gcd a b ∣ Int.gcd (c * a) b := Int.gcd_dvd_gcd_mul_left_left a b c
  have h2 : Int.gcd (c * a) b ∣ Int.gcd (c * a) (d * b) := Int.gcd_dvd_gcd_mul_left_right (c * a) b d
  have h3 := Nat.dvd_trans h1 h2
  rw [h] at h3
  exact Nat.dvd_one.1 h3

/-- A fraction has one form in lowest terms. -/
theorem Low.uniq {a b : Rat2} (ha : Low a) (hb : Low b) (h : a.1 * b.2 = b.1 * a.2) : a = b := by
  have h1 : a.2 ∣ b.2 := by
    have : a.2 ∣ a.1 * b.2 := ⟨b.1, by rw [h, Int.mul_comm]⟩
    exact cop_dvd (by rw [Int.gcd_comm]; exact ha.cop) this
  have h2 : b.2 ∣ a.2 := by
    have : b.2 ∣ b.1 * a.2 := ⟨a.1, by rw [← h, Int.mul_comm]⟩
    exact cop_dvd (by rw [Int.gcd_comm]; exact hb.cop) this
  have hd : a.2 = b.2 := Int.le_antisymm (Int.le_of_dvd (by have := hb.den; omega) h1) (Int.le_of_dvd (by have := ha.den; omega) h2)
  have hn : a.1 = b.1 := by
    rw [hd] at h
    exact Int.eq_of_mul_eq_mul_right (by have := hb.den; omega) h
  exact Prod.ext hn hd

/-! ### New -/
def redQ (n d : Int) : Rat2 := (n / Int.gcd n d, d / Int.gcd n d)
theorem gcd_pos' {n d : Int} (hd : 1 ≤ d) : 0 < (Int.gcd n d : Int) := by
  have : 0 < Int.gcd n d := Int.gcd_pos_of_ne_zero_right n (by omega)
  omega
theorem redQ_low {n d : Int} (hd : 1 ≤ d) : Low (redQ n d) := by
  have hg := gcd_pos' (n := n) hd
  constructor
  · unfold redQ
    simp only
    have h2 : (Int.gcd n d : Int) ∣ d := Int.gcd_dvd_right ..
    obtain ⟨c, hc⟩ := h2
    have hc1 : 1 ≤ c := by
      refine Classical.byContradiction fun hn => ?_
      have : (Int.gcd n d : Int) * c ≤ (Int.gcd n d : Int) * 0 := Int.mul_le_mul_of_nonneg_left (by omega) (by omega)
      omega
    have : d / (Int.gcd n d : Int) = c := by
      conv => lhs; lhs; rw [hc]
      exact Int.mul_ediv_cancel_left c (by omega)
    omega
  · unfold redQ
    exact Int.gcd_ediv_gcd_ediv_gcd (by omega)
/-- What two numbers are made of. -/
theorem gcd_parts {n d : Int} (hd : d ≠ 0) : ∃ g A B : Int, 0 < g ∧ (Int.gcd n d : Int) = g ∧ n = g * A ∧ d = g * B ∧ n / (Int.gcd n d : Int) = A ∧ d / (Int.gcd n d : Int) = B ∧ Int.gcd A B = 1 := by
  have hg : 0 < (Int.gcd n d : Int) := by
    have := Int.gcd_pos_of_ne_zero_right n hd
    omega
  obtain ⟨a, ha⟩ : (Int.gcd n d : Int) ∣ n := Int.gcd_dvd_left ..
  obtain ⟨c, hc⟩ : (Int.gcd n d : Int) ∣ d := Int.gcd_dvd_right ..
  have e1 : n / (Int.gcd n d : Int) = a := by
    conv => lhs; lhs; rw [ha]
    exact Int.mul_ediv_cancel_left a (by omega)
  have e2 : d / (Int.gcd n d : Int) = c := by
    conv => lhs; lhs; rw [hc]
    exact Int.mul_ediv_cancel_left c (by omega)
  have e3 := Int.gcd_ediv_gcd_ediv_gcd (i := n) (j := d) (by omega)
  rw [e1, e2] at e3
  exact ⟨_, a, c, hg, rfl, ha, hc, e1, e2, e3⟩

theorem pos_of_mul {g B : Int} (hg : 0 < g) (h : 1 ≤ g * B) : 1 ≤ B := by
  refine Classical.byContradiction fun hn => ?_
  have : g * B ≤ g * 0 := Int.mul_le_mul_of_nonneg_left (by omega) (by omega)
  omega

/-! ### Products -/
def prodQ (a b : Rat2) : Rat2 :=
  ((a.1 / (Int.gcd a.1 b.2 : Int)) * (b.1 / (Int.gcd b.1 a.2 : Int)), (a.2 / (Int.gcd b.1 a.2 : Int)) * (b.2 / (Int.gcd a.1 b.2 : Int)))

theorem prodQ_ok {a b : Rat2} (ha : Low a) (hb : Low b) : Low (prodQ a b) ∧ (prodQ a b).1 * (a.2 * b.2) = (a.1 * b.1) * (prodQ a b).2 := by
  have da := ha.den
  have db := hb.den
  obtain ⟨g, A, B, hg, eg, e1, e2, e3, e4, c1⟩ := gcd_parts (n := a.1) (d := b.2) (by omega)
  obtain ⟨h, C, D, hh, eh, f1, f2, f3, f4, c2⟩ := gcd_parts (n := b.1) (d := a.2) (by omega)
  have hB : 1 ≤ B := pos_of_mul hg (by omega)
  have hD : 1 ≤ D := pos_of_mul hh (by omega)
  have c3 : Int.gcd A D = 1 := by
    have := ha.cop
    rw [e1, f2] at this
    exact cop_sub this
  have c4 : Int.gcd C B = 1 := by
    have := hb.cop
    rw [f1, e2] at this
    exact cop_sub this
  have e : prodQ a b = (A * C, D * B) := by
    unfold prodQ
    rw [e3, e4, f3, f4]
  rw [e]
  refine ⟨⟨?_, ?_⟩, ?_⟩
  · show 1 ≤ D * B
    have : 1 * 1 ≤ D * B := Int.mul_le_mul hD hB (by omega) (by omega)
    omega
  · show Int.gcd (A * C) (D * B) = 1
    rw [Int.gcd_comm]
    refine cop_mul ?_ ?_
    · rw [Int.gcd_comm]
      exact cop_mul c3 c1
    · rw [Int.gcd_comm]
      exact cop_mul c2 c4
  · show A * C * (a.2 * b.2) = a.1 * b.1 * (D * B)
    rw [e1, f1, e2, f2]
    simp only [Int.mul_assoc, Int.mul_comm, Int.mul_left_comm]

theorem prodQ_comm (a b : Rat2) : prodQ a b = prodQ b a := by
  unfold prodQ
  rw [Int.mul_comm (a.1 / _), Int.mul_comm (a.2 / _)]

/-! ### Sums -/
def sumX (a b : Rat2) : Int := a.1 * (b.2 / (Int.gcd a.2 b.2 : Int))
def sumY (a b : Rat2) : Int := b.1 * (a.2 / (Int.gcd a.2 b.2 : Int))
def sumD (a b : Rat2) : Int := (a.2 / (Int.gcd a.2 b.2 : Int)) * b.2
theorem sum_ok {a b : Rat2} (ha : 1 ≤ a.2) (hb : 1 ≤ b.2) : 1 ≤ sumD a b ∧ (sumX a b + sumY a b) * (a.2 * b.2) = (a.1 * b.2 + b.1 * a.2) * sumD a b := by
  obtain ⟨g, A, B, hg, eg, e1, e2, e3, e4, c1⟩ := gcd_parts (n := a.2) (d := b.2) (by omega)
  have hA : 1 ≤ A := pos_of_mul hg (by omega)
  unfold sumX sumY sumD
  rw [e3, e4]
  constructor
  · have : 1 * 1 ≤ A * b.2 := Int.mul_le_mul hA hb (by omega) (by omega)
    omega
  · rw [e1, e2, Int.add_mul, Int.add_mul]
    simp only [Int.mul_assoc, Int.mul_comm, Int.mul_left_comm]

/-- The functions of the package, with their error numbers. -/
def addR (a b : Rat2) : Rat2 × Int :=
  if validQ a && validQ b then
    if inR (sumX a b) && (inR (sumY a b) && (inR (sumD a b) && inR (sumX a b + sumY a b))) then (redQ (sumX a b + sumY a b) (sumD a b), 0) else ((0, 0), 5)
  else ((0, 0), 8)
def prodR (a b : Rat2) : Rat2 × Int := if inR (prodQ a b).1 && inR (prodQ a b).2 then (prodQ a b, 0) else ((0, 0), 5)
def mulR (a b : Rat2) : Rat2 × Int := if validQ a && validQ b then prodR a b else ((0, 0), 8)
def invQ (b : Rat2) : Rat2 := if b.1 < 0 then (-b.2, -b.1) else (b.2, b.1)
def divR (a b : Rat2) : Rat2 × Int := if validQ a && validQ b then (if b.1 = 0 then ((0, 0), 1) else prodR a (invQ b)) else ((0, 0), 8)
theorem redQ_bd {n d : Int} (hd : 1 ≤ d) (hn : inR n = true) (hD : inR d = true) : validQ (redQ n d) = true := by
  rw [validQ_iff]
  refine ⟨redQ_low hd, ?_⟩
  obtain ⟨g, A, B, hg, eg, e1, e2, e3, e4, c1⟩ := gcd_parts (n := n) (d := d) (by omega)
  have hB : 1 ≤ B := pos_of_mul hg (by omega)
  rw [inR_iff] at hn hD
  unfold redQ
  rw [e3, e4]
  simp only
  have b1 : 1 * B ≤ g * B := Int.mul_le_mul_of_nonneg_right (by omega) (by omega)
  refine ⟨by omega, ?_⟩
  rcases Int.le_total 0 A with h | h
  · have : 1 * A ≤ g * A := Int.mul_le_mul_of_nonneg_right (by omega) h
    omega
  · have : 1 * (-A) ≤ g * (-A) := Int.mul_le_mul_of_nonneg_right (by omega) (by omega)
    simp only [Int.mul_neg] at this
    omega

/-! ### Quotients -/
theorem invQ_low {b : Rat2} (hb : Low b) (h : b.1 ≠ 0) : Low (invQ b) := by
  have d := hb.den
  unfold invQ
  split
  · refine ⟨by simp only; omega, ?_⟩
    show Int.gcd (-b.2) (-b.1) = 1
    rw [Int.neg_gcd, Int.gcd_neg, Int.gcd_comm]
    exact hb.cop
  · refine ⟨by simp only; omega, ?_⟩
    show Int.gcd b.2 b.1 = 1
    rw [Int.gcd_comm]
    exact hb.cop
theorem invQ_val {b : Rat2} : (invQ b).1 * b.1 = b.2 * (invQ b).2 := by
  unfold invQ
  split
  · simp only [Int.neg_mul, Int.mul_neg]
  · rfl

theorem mulR_comm (a b : Rat2) : mulR a b = mulR b a := by
  unfold mulR prodR
  rw [Bool.and_comm, prodQ_comm]

theorem prodR_ok {a b : Rat2} (ha : Low a) (hb : Low b) : (prodR a b).2 = 5 ∨ ((prodR a b).2 = 0 ∧ (prodR a b).1 = prodQ a b ∧ validQ (prodR a b).1 = true) := by
  obtain ⟨l, v⟩ := prodQ_ok ha hb
  unfold prodR
  by_cases h : (inR (prodQ a b).1 && inR (prodQ a b).2) = true
  · rw [if_pos h]
    rw [Bool.and_eq_true, inR_iff, inR_iff] at h
    exact .inr ⟨rfl, rfl, validQ_iff.2 ⟨l, by simp only; omega, by simp only; omega⟩⟩
  · rw [if_neg h]
    exact .inl rfl

/-- Division undoes multiplication. -/
theorem mul_div {x y : Rat2} (hx : validQ x = true) (hy : validQ y = true) (h : (mulR x y).2 = 0) (h0 : y.1 ≠ 0) : divR (mulR x y).1 y = (x, 0) := by
  obtain ⟨lx, x1, x2, x3⟩ := validQ_iff.1 hx
  have ly := (validQ_iff.1 hy).1
  unfold mulR at h ⊢
  rw [hx, hy] at h ⊢
  simp only [Bool.and_self, if_true] at h ⊢
  rcases prodR_ok lx ly with h5 | ⟨_, he, hv⟩
  · rw [h] at h5; cases h5
  · rw [he] at hv ⊢
    obtain ⟨lp, vp⟩ := prodQ_ok lx ly
    have li := invQ_low ly h0
    obtain ⟨lq, vq⟩ := prodQ_ok lp li
    have iv := @invQ_val y
    have e : prodQ (prodQ x y) (invQ y) = x := by
      refine lq.uniq lx ?_
      generalize prodQ (prodQ x y) (invQ y) = q at *
      generalize prodQ x y = p at *
      generalize invQ y = j at *
      have d1 := lx.den
      have d2 := ly.den
      have d3 := lp.den
      have d4 := li.den
      have hne : p.2 * j.2 * y.2 ≠ 0 := by
        have h1 : 0 < p.2 * j.2 := Int.mul_pos (by omega) (by omega)
        have h2 : 0 < p.2 * j.2 * y.2 := Int.mul_pos h1 (by omega)
        omega
      refine Int.eq_of_mul_eq_mul_right hne ?_
      calc q.1 * x.2 * (p.2 * j.2 * y.2) = q.1 * (p.2 * j.2) * (x.2 * y.2) := by simp only [Int.mul_assoc, Int.mul_comm, Int.mul_left_comm]
        _ = p.1 * j.1 * q.2 * (x.2 * y.2) := by rw [vq]
        _ = p.1 * (x.2 * y.2) * (j.1 * q.2) := by simp only [Int.mul_assoc, Int.mul_comm, Int.mul_left_comm]
        _ = x.1 * y.1 * p.2 * (j.1 * q.2) := by rw [vp]
        _ = j.1 * y.1 * (x.1 * p.2 * q.2) := by simp only [Int.mul_assoc, Int.mul_comm, Int.mul_left_comm]
        _ = y.2 * j.2 * (x.1 * p.2 * q.2) := by rw [iv]
        _ = x.1 * q.2 * (p.2 * j.2 * y.2) := by simp only [Int.mul_assoc, Int.mul_comm, Int.mul_left_comm]
    unfold divR
    rw [hv, hy]
    simp only [Bool.and_self, if_true]
    rw [if_neg h0]
    unfold prodR
    rw [e]
    have i1 : inR x.1 = true := inR_iff.2 ⟨x2, x3⟩
    have i2 : inR x.2 = true := inR_iff.2 ⟨by have := lx.den; omega, x1⟩
    rw [i1, i2]
    rfl

/-! ### The order -/
end
end Go.Lift

/- Exact rational numbers: how the reference compares and multiplies; products of 128 bits. -/
namespace Go.Lift
noncomputable section
set_option linter.unusedVariables false
set_option linter.unusedSimpArgs false

/-- The high half of a product of two numbers of 64 bits, as the library makes it. -/
theorem mul_hi {x y : Nat} :
    (x / 4294967296) * (y / 4294967296) + ((x / 4294967296) * (y % 4294967296) + (x % 4294967296) * (y % 4294967296) / 4294967296) / 4294967296 +
      (((x / 4294967296) * (y % 4294967296) + (x % 4294967296) * (y % 4294967296) / 4294967296) % 4294967296 + (x % 4294967296) * (y / 4294967296)) / 4294967296 = x * y / 18446744073709551616 := by
  have ex := Nat.div_add_mod x 4294967296
  have ey := Nat.div_add_mod y 4294967296
  generalize x / 4294967296 = x1 at *
  generalize x % 4294967296 = x0 at *
  generalize y / 4294967296 = y1 at *
  generalize y % 4294967296 = y0 at *
  have e : x * y = 18446744073709551616 * (x1 * y1) + 4294967296 * (x1 * y0) + 4294967296 * (x0 * y1) + x0 * y0 := by
    rw [← ex, ← ey, Nat.add_mul, Nat.mul_add, Nat.mul_add]
    have a1 : 4294967296 * x1 * (4294967296 * y1) = 18446744073709551616 * (x1 * y1) := by
      rw [Nat.mul_mul_mul_comm]
    have a2 : 4294967296 * x1 * y0 = 4294967296 * (x1 * y0) := Nat.mul_assoc ..
    have a3 : x0 * (4294967296 * y1) = 4294967296 * (x0 * y1) := Nat.mul_left_comm ..
    rw [a1, a2, a3]
    omega
  rw [e]
  generalize x1 * y1 = p
  generalize x1 * y0 = q
  generalize x0 * y1 = r
  generalize x0 * y0 = s
  omega

end
end Go.Lift

/- Exact rational numbers: small numbers; ratios that are drawn. -/
namespace Go.Lift
noncomputable section
set_option linter.unusedVariables false
set_option linter.unusedSimpArgs false

/-- Products are distributive over small sums: one case. -/
def distr1 (m c n : Nat) : Bool :=
  let p0 : Rat2 := ((m : Int), 1)
  let q : Rat2 := (1 + (c : Int), 1)
  let r : Rat2 := ((n : Int), 1)
  let p := (divR p0 q).1
  let s := addR p r
  let l := mulR s.1 q
  let m' := mulR p q
  let k := mulR r q
  let t := addR m'.1 k.1
  decide (s.2 = 0) && (decide (l.2 = 0) && (decide (m'.2 = 0) && (decide (k.2 = 0) && (decide (t.2 = 0) && (decide (l.1.1 = t.1.1) && decide (l.1.2 = t.1.2))))))

theorem distr_all : ((List.range 50).all fun m => (List.range 9).all fun c => (List.range 30).all fun n => distr1 m c n) = true := by decide +kernel

theorem distr {m c n : Nat} (hm : m < 50) (hc : c < 9) (hn : n < 30) : distr1 m c n = true := by
  have h := distr_all
  rw [List.all_eq_true] at h
  have h1 := h m (List.mem_range.2 hm)
  rw [List.all_eq_true] at h1
  have h2 := h1 c (List.mem_range.2 hc)
  rw [List.all_eq_true] at h2
  exact h2 n (List.mem_range.2 hn)

/-- The statements' own remainder. -/
theorem mod_bd (x : Int) {n : Int} (hn : 0 < n) : 0 ≤ Int.tmod (Int.tmod x n + n) n ∧ Int.tmod (Int.tmod x n + n) n < n := by
  have h1 : -n < Int.tmod x n := by
    rcases Int.le_total 0 x with h | h
    · have := Int.tmod_nonneg n h
      omega
    · have e : Int.tmod x n = -Int.tmod (-x) n := by rw [Int.neg_tmod]; omega
      have := Int.tmod_lt_of_pos (-x) hn
      omega
  exact ⟨Int.tmod_nonneg n (by omega), Int.tmod_lt_of_pos _ hn⟩

end
end Go.Lift

/- The code's ratios, function by function: what each one computes, for all inputs. -/
namespace Go.Lift
open Go.RowKit Go.IntWalk
noncomputable section
set_option linter.unusedVariables false
set_option linter.unusedSimpArgs false
set_option maxRecDepth 10000

theorem u64_mod (n : Int) : IntKind.u64.wrap n = n % 18446744073709551616 := by
  unfold IntKind.wrap
  simp [IntKind.signed, IntKind.bits]

theorem bits_lo (x : Nat) : bitsOf .and .u64 (x : Int) 4294967295 = ((x % 4294967296 : Nat) : Int) := by
  show IntKind.u64.wrap _ = _
  rw [u64_mod]
  have h : (BitVec.ofInt 64 (x : Int) &&& BitVec.ofInt 64 4294967295).toNat = x % 4294967296 := by
    rw [BitVec.toNat_and]
    have e1 : (BitVec.ofInt 64 (x : Int)).toNat = x % 2 ^ 64 := by simp [BitVec.toNat_ofInt]
    have e2 : (BitVec.ofInt 64 4294967295).toNat = 2 ^ 32 - 1 := by decide
    rw [e1, e2, Nat.and_two_pow_sub_one_eq_mod]
    omega
  show ((BitVec.ofInt 64 (x : Int) &&& BitVec.ofInt 64 4294967295).toNat : Int) % _ = _
  rw [h]
  omega

theorem bits_hi (x : Nat) : shiftOf .shr .u64 (x : Int) 32 = ((x / 4294967296 : Nat) : Int) := by
  show Int.fdiv (x : Int) (2 ^ 32) = _
  rw [Int.fdiv_eq_ediv_of_nonneg _ (by decide)]
  norm_cast

theorem u64_nat {n : Nat} (h : n < 18446744073709551616) : IntKind.u64.wrap (n : Int) = n := by rw [u64_mod]; omega

theorem mul64_eq {β : Type} {x y : Nat} (hx : x < 18446744073709551616) (hy : y < 18446744073709551616) (k : Int → Int → Option β) :
    zq2t (x : Int) (y : Int) k = k ((x * y / 18446744073709551616 : Nat) : Int) ((x * y % 18446744073709551616 : Nat) : Int) := by
  have hm := mul_hi (x := x) (y := y)
  have lo : ∀ n : Nat, n % 4294967296 < 4294967296 := fun n => Nat.mod_lt _ (by decide)
  have hi : ∀ n : Nat, n < 18446744073709551616 → n / 4294967296 < 4294967296 := fun n h => by omega
  have mm : ∀ a b : Nat, a < 4294967296 → b < 4294967296 → a * b ≤ 4294967295 * 4294967295 := fun a b h1 h2 => Nat.mul_le_mul (by omega) (by omega)
  have b00 := mm _ _ (lo x) (lo y)
  have b10 := mm _ _ (hi x hx) (lo y)
  have b01 := mm _ _ (lo x) (hi y hy)
  have b11 := mm _ _ (hi x hx) (hi y hy)
  unfold zq2t zq2q
  simp only [bits_lo, bits_hi, c_pos (show (0 : Int) ≤ 32 by decide), ← Int.natCast_mul]
  rw [u64_nat (n := x % 4294967296 * (y % 4294967296)) (by omega), u64_nat (n := x / 4294967296 * (y % 4294967296)) (by omega), u64_nat (n := x % 4294967296 * (y / 4294967296)) (by omega), u64_nat (n := x / 4294967296 * (y / 4294967296)) (by omega)]
  simp only [bits_lo, bits_hi, ← Int.natCast_add]
  rw [u64_nat (n := x / 4294967296 * (y % 4294967296) + x % 4294967296 * (y % 4294967296) / 4294967296) (by omega)]
  simp only [bits_lo, bits_hi, ← Int.natCast_add]
  have hT : x / 4294967296 * (y % 4294967296) + x % 4294967296 * (y % 4294967296) / 4294967296 < 18446744073709551616 := by omega
  generalize x / 4294967296 * (y % 4294967296) + x % 4294967296 * (y % 4294967296) / 4294967296 = T at *
  have hW : T % 4294967296 + x % 4294967296 * (y / 4294967296) < 18446744073709551616 := by omega
  rw [u64_nat hW]
  simp only [bits_lo, bits_hi, ← Int.natCast_add]
  generalize hW' : (T % 4294967296 + x % 4294967296 * (y / 4294967296)) / 4294967296 = W at *
  have hxy : x * y < 18446744073709551616 * 18446744073709551616 := by
    rcases Nat.eq_zero_or_pos x with rfl | h
    · omega
    · exact Nat.lt_of_le_of_lt (Nat.mul_le_mul (Nat.le_of_lt_succ (Nat.lt_succ_of_lt hx)) (Nat.le_of_lt_succ (Nat.lt_succ_of_lt hy)) |> fun _ => Nat.mul_le_mul (Nat.le_pred_of_lt hx) (Nat.le_pred_of_lt hy)) (by decide)
  have hq : x * y / 18446744073709551616 < 18446744073709551616 := Nat.div_lt_of_lt_mul hxy
  rw [u64_nat (n := x / 4294967296 * (y / 4294967296) + T / 4294967296) (by omega)]
  simp only [← Int.natCast_add]
  rw [u64_nat (by omega), u64_mod, hm]
  rfl

theorem gcdI_gcd {n d : Int} (hd : 0 ≤ d) : gcdI (n.natAbs : Int) d = (Int.gcd n d : Int) := by
  unfold gcdI
  rw [Int.toNat_natCast]
  have : d.toNat = d.natAbs := by omega
  rw [this]
  rfl

theorem tdiv_gcdl (n d : Int) : Int.tdiv n (Int.gcd n d : Int) = n / (Int.gcd n d : Int) := Int.tdiv_eq_ediv_of_dvd (Int.gcd_dvd_left ..)
theorem tdiv_gcdr (n d : Int) : Int.tdiv d (Int.gcd n d : Int) = d / (Int.gcd n d : Int) := Int.tdiv_eq_ediv_of_dvd (Int.gcd_dvd_right ..)

/-- A quotient by a divisor is no greater. -/
theorem quo_bd {n g : Int} (hg : 0 < g) (h : g ∣ n) {M : Int} (h1 : -M ≤ n) (h2 : n ≤ M) : -M ≤ n / g ∧ n / g ≤ M := by
  obtain ⟨q, rfl⟩ := h
  rw [Int.mul_ediv_cancel_left _ (by omega)]
  have hM : 0 ≤ M := by omega
  rcases Int.le_total 0 q with hq | hq
  · have : q ≤ g * q := by
      have := Int.mul_le_mul_of_nonneg_right (show 1 ≤ g by omega) hq
      omega
    exact ⟨by omega, by omega⟩
  · have : g * q ≤ q := by
      have := Int.mul_le_mul_of_nonpos_right (show 1 ≤ g by omega) hq
      omega
    exact ⟨by omega, by omega⟩

theorem quo_pos {n g : Int} (hg : 0 < g) (h : g ∣ n) (h1 : 1 ≤ n) : 1 ≤ n / g := by
  obtain ⟨q, rfl⟩ := h
  rw [Int.mul_ediv_cancel_left _ (by omega)]
  exact pos_of_mul hg h1

theorem ratio_Valid_eq {β : Type} (r : Int × Int) (k : Bool → Option β) : zq30 r k = k (validQ r) := by
  unfold zq30 zq2x validQ
  by_cases h1 : 1 ≤ r.2
  · refine (c_pos h1).trans ?_
    by_cases h2 : r.2 ≤ 4611686018427387904
    · refine (c_pos h2).trans ?_
      refine (ratio_within_eq _ _).trans ?_
      by_cases h3 : -4611686018427387904 ≤ r.1 ∧ r.1 ≤ 4611686018427387904
      · refine (c_pos h3).trans ?_
        refine (ratio_size_eq (by omega) _).trans ?_
        refine (ratio_gcd_eq (by omega) (by omega) (by omega) _).trans (k_eq ?_)
        rw [gcdI_gcd (by omega), decide_eq_true h1, decide_eq_true (show r.2 ≤ RM from h2), inR_iff.2 h3]
        simp only [Bool.true_and]
        congr 1
        exact propext ⟨fun h => by omega, fun h => by omega⟩
      · refine (c_neg h3).trans (k_eq ?_)
        have : inR r.1 = false := by
          cases h : inR r.1 with
          | false => rfl
          | true => exact absurd (inR_iff.1 h) h3
        rw [this]; simp
    · refine (c_neg h2).trans (k_eq ?_)
      rw [decide_eq_false (show ¬ r.2 ≤ RM from h2)]; simp
  · refine (c_neg h1).trans (k_eq ?_)
    rw [decide_eq_false h1]; simp

theorem natAbs_mul_cast (a b : Int) : (((a.natAbs * b.natAbs : Nat) : Int)) = if (decide (a < 0)) == (decide (b < 0)) then a * b else -(a * b) := by
  rw [Int.natCast_mul]
  by_cases ha : a < 0 <;> by_cases hb : b < 0
  · simp only [ha, hb, decide_true, beq_self_eq_true, if_true]
    rw [show (a.natAbs : Int) = -a by omega, show (b.natAbs : Int) = -b by omega, Int.neg_mul_neg]
  · simp only [ha, hb, decide_true, decide_false]
    rw [show (a.natAbs : Int) = -a by omega, show (b.natAbs : Int) = b by omega, Int.neg_mul]
    simp
  · simp only [ha, hb, decide_true, decide_false]
    rw [show (a.natAbs : Int) = a by omega, show (b.natAbs : Int) = -b by omega, Int.mul_neg]
    simp
  · simp only [ha, hb, decide_false, beq_self_eq_true, if_true]
    rw [show (a.natAbs : Int) = a by omega, show (b.natAbs : Int) = b by omega]

theorem inR_abs {a b : Int} : inR (a * b) = decide (a.natAbs * b.natAbs ≤ 4611686018427387904) := by
  have h : (a * b).natAbs = a.natAbs * b.natAbs := Int.natAbs_mul a b
  rw [← h]
  unfold inR
  rw [← Bool.decide_and]
  congr 1
  exact propext ⟨fun h => by have h1 := h.1; have h2 := h.2; simp only [RM] at h1 h2; omega, fun h => by simp only [RM]; omega⟩

theorem ratio_times_eq {β : Type} {a b : Int} (ha : -RM ≤ a ∧ a ≤ RM) (hb : -RM ≤ b ∧ b ≤ RM) (k : Int → Bool → Option β) : zq3l a b k = cond (inR (a * b)) (k (a * b) true) (k 0 false) := by
  have ha' : -4611686018427387904 ≤ a ∧ a ≤ 4611686018427387904 := ha
  have hb' : -4611686018427387904 ≤ b ∧ b ≤ 4611686018427387904 := hb
  unfold zq3l zq3i
  refine (ratio_size_eq (by omega) _).trans ?_
  refine (ratio_size_eq (by omega) _).trans ?_
  rw [u64_nat (by omega), u64_nat (by omega)]
  refine (mul64_eq (by omega) (by omega) _).trans ?_
  have hc := natAbs_mul_cast a b
  rw [inR_abs]
  generalize hp : a.natAbs * b.natAbs = p at *
  by_cases hle : p ≤ 4611686018427387904
  · rw [decide_eq_true hle, c_t]
    have e1 : p / 18446744073709551616 = 0 := by omega
    have e2 : p % 18446744073709551616 = p := by omega
    rw [e1, e2]
    refine (c_npos rfl).trans ?_
    refine (c_neg (by omega)).trans ?_
    have w : IntKind.i64.wrap (p : Int) = p := i64_in _ (by omega)
    cases hs : (decide (a < 0)) == (decide (b < 0)) with
    | true =>
      rw [hs, if_pos rfl] at hc
      simp only [Bool.not_true, c_f]
      rw [w, hc]
    | false =>
      rw [hs] at hc
      simp only [Bool.false_eq_true, if_false] at hc
      simp only [Bool.not_false, c_t]
      rw [w, i64_in _ (by omega), hc]
      congr 1
      omega
  · rw [decide_eq_false hle, c_f]
    by_cases h0 : ((p / 18446744073709551616 : Nat) : Int) = 0
    · refine (c_npos h0).trans ?_
      exact c_pos (by omega)
    · exact c_nneg h0

theorem ratio_plus_eq {β : Type} {a b : Int} (ha : inR a = true) (hb : inR b = true) (k : Int → Bool → Option β) : zq1c a b k = cond (inR (a + b)) (k (a + b) true) (k 0 false) := by
  have ha' : -4611686018427387904 ≤ a ∧ a ≤ 4611686018427387904 := inR_iff.1 ha
  have hb' : -4611686018427387904 ≤ b ∧ b ≤ 4611686018427387904 := inR_iff.1 hb
  have hin : inR (a + b) = decide (-4611686018427387904 ≤ a + b ∧ a + b ≤ 4611686018427387904) := by
    unfold inR
    rw [← Bool.decide_and]
  rw [hin]
  have w3 : -4611686018427387904 ≤ a + b ∧ a + b ≤ 4611686018427387904 → IntKind.i64.wrap (a + b) = a + b := fun h => i64_in _ (by omega)
  unfold zq1c zq19
  by_cases h1 : 0 < a
  · refine (c_pos h1).trans ?_
    rw [i64_in (4611686018427387904 - a) (by omega)]
    by_cases h2 : 4611686018427387904 - a < b
    · refine (c_pos h2).trans ?_
      exact (c_neg (by omega)).symm
    · refine (c_neg h2).trans ?_
      refine (c_neg (by omega)).trans ?_
      rw [w3 (by omega)]
      exact (c_pos (by omega)).symm
  · refine (c_neg h1).trans ?_
    by_cases h2 : a < 0
    · refine (c_pos h2).trans ?_
      rw [i64_in (-4611686018427387904 - a) (by omega)]
      by_cases h3 : b < -4611686018427387904 - a
      · refine (c_pos h3).trans ?_
        exact (c_neg (by omega)).symm
      · refine (c_neg h3).trans ?_
        rw [w3 (by omega)]
        exact (c_pos (by omega)).symm
    · refine (c_neg h2).trans ?_
      rw [w3 (by omega)]
      exact (c_pos (by omega)).symm
end
end Go.Lift

/- The code's ratios: sums, products, quotients, which is less. -/
namespace Go.Lift
open Go.RowKit Go.IntWalk
noncomputable section
set_option linter.unusedVariables false
set_option linter.unusedSimpArgs false
set_option maxRecDepth 10000

theorem gcdI_gcd' {n d : Int} (hn : 0 ≤ n) (hd : 0 ≤ d) : gcdI n d = (Int.gcd n d : Int) := by
  have := gcdI_gcd (n := n) hd
  rwa [show (n.natAbs : Int) = n by omega] at this

theorem c_tt {β : Type} {p : Bool} {a b : Option β} (h : p = true) : cond p a b = a := by subst h; rfl
theorem c_ff {β : Type} {p : Bool} {a b : Option β} (h : p = false) : cond p a b = b := by subst h; rfl

structure VB (a : Rat2) : Prop where
  low : Low a
  d1 : 1 ≤ a.2
  d2 : a.2 ≤ 4611686018427387904
  n1 : -4611686018427387904 ≤ a.1
  n2 : a.1 ≤ 4611686018427387904

theorem vb {a : Rat2} (h : validQ a = true) : VB a := by
  obtain ⟨l, h1, h2, h3⟩ := validQ_iff.1 h
  exact ⟨l, l.den, h1, h2, h3⟩

theorem ratio_Add_eq {β : Type} (a b : Rat2) (k : Rat2 → Int → Option β) : zq4t a b k = k (addR a b).1 (addR a b).2 := by
  unfold zq4t zq4q addR
  refine (ratio_Valid_eq _ _).trans ?_
  cases va : validQ a with
  | false => rfl
  | true =>
    simp only [Bool.not_true, c_f, Bool.true_and]
    refine (ratio_Valid_eq _ _).trans ?_
    cases vb' : validQ b with
    | false => rfl
    | true =>
      simp only [Bool.not_true, c_f, if_true]
      have A := vb va
      have B := vb vb'
      have a1 := A.d1; have a2 := A.d2; have a3 := A.n1; have a4 := A.n2
      have b1 := B.d1; have b2 := B.d2; have b3 := B.n1; have b4 := B.n2
      refine (ratio_gcd_eq (by omega) (by omega) (by omega) _).trans ?_
      rw [gcdI_gcd' (by omega) (by omega)]
      have hg : 0 < (Int.gcd a.2 b.2 : Int) := gcd_pos' b1
      have q1 := quo_bd hg (Int.gcd_dvd_right ..) (M := 4611686018427387904) (n := b.2) (by omega) (by omega)
      have q2 := quo_bd hg (Int.gcd_dvd_left ..) (M := 4611686018427387904) (n := a.2) (by omega) (by omega)
      have p1 := quo_pos hg (Int.gcd_dvd_right ..) (n := b.2) (by omega)
      have p2 := quo_pos hg (Int.gcd_dvd_left ..) (n := a.2) (by omega)
      simp only [tdiv_gcdr, tdiv_gcdl, i64_in (b.2 / (Int.gcd a.2 b.2 : Int)) (by omega), i64_in (a.2 / (Int.gcd a.2 b.2 : Int)) (by omega)]
      have hg0 : ¬ ((Int.gcd a.2 b.2 : Int) = 0) := by omega
      have t1 : ∀ k : Int → Bool → Option β, zq3l a.1 (b.2 / (Int.gcd a.2 b.2 : Int)) k = cond (inR (sumX a b)) (k (sumX a b) true) (k 0 false) := fun k => ratio_times_eq ⟨a3, a4⟩ q1 k
      have t2 : ∀ k : Int → Bool → Option β, zq3l b.1 (a.2 / (Int.gcd a.2 b.2 : Int)) k = cond (inR (sumY a b)) (k (sumY a b) true) (k 0 false) := fun k => ratio_times_eq ⟨b3, b4⟩ q2 k
      have t3 : ∀ k : Int → Bool → Option β, zq3l (a.2 / (Int.gcd a.2 b.2 : Int)) b.2 k = cond (inR (sumD a b)) (k (sumD a b) true) (k 0 false) := fun k => ratio_times_eq q2 ⟨by simp only [RM]; omega, b2⟩ k
      simp only [t1, t2, t3, c_nneg hg0]
      by_cases h1 : inR (sumX a b) = true
      · refine (c_tt h1).trans ?_
        by_cases h2 : inR (sumY a b) = true
        · refine (c_tt h2).trans ?_
          by_cases h3 : inR (sumD a b) = true
          · refine (c_tt h3).trans ?_
            refine (c_ff rfl).trans ?_
            refine (c_ff rfl).trans ?_
            refine (c_ff rfl).trans ?_
            refine (ratio_plus_eq h1 h2 _).trans ?_
            by_cases h4 : inR (sumX a b + sumY a b) = true
            · refine (c_tt h4).trans ?_
              refine (c_ff rfl).trans ?_
              have hd1 := (sum_ok (a := a) (b := b) a1 b1).1
              have hd2 := inR_iff.1 h3
              refine (ratio_New_eq (inR_iff.1 h4) ⟨hd1, hd2.2⟩ _).trans ?_
              rw [gcdI_gcd (by omega), tdiv_gcdl, tdiv_gcdr, h1, h2, h3, h4]
              rfl
            · refine (c_ff (by simpa using h4)).trans ?_
              refine (c_tt rfl).trans ?_
              simp [h4]
          · refine (c_ff (by simpa using h3)).trans ?_
            refine (c_ff rfl).trans ?_
            refine (c_ff rfl).trans ?_
            refine (c_tt rfl).trans ?_
            simp [h3]
        · refine (c_ff (by simpa using h2)).trans ?_
          by_cases h3 : inR (sumD a b) = true
          · refine (c_tt h3).trans ?_
            refine (c_ff rfl).trans ?_
            refine (c_tt rfl).trans ?_
            simp [h2]
          · refine (c_ff (by simpa using h3)).trans ?_
            refine (c_ff rfl).trans ?_
            refine (c_tt rfl).trans ?_
            simp [h2]
      · refine (c_ff (by simpa using h1)).trans ?_
        by_cases h2 : inR (sumY a b) = true
        · refine (c_tt h2).trans ?_
          by_cases h3 : inR (sumD a b) = true
          · refine (c_tt h3).trans ?_
            refine (c_tt rfl).trans ?_
            simp [h1]
          · refine (c_ff (by simpa using h3)).trans ?_
            refine (c_tt rfl).trans ?_
            simp [h1]
        · refine (c_ff (by simpa using h2)).trans ?_
          by_cases h3 : inR (sumD a b) = true
          · refine (c_tt h3).trans ?_
            refine (c_tt rfl).trans ?_
            simp [h1]
          · refine (c_ff (by simpa using h3)).trans ?_
            refine (c_tt rfl).trans ?_
            simp [h1]

theorem ratio_product_eq {β : Type} {a b : Rat2} (A : VB a) (B : VB b) (k : Rat2 → Int → Option β) : zq3s a b k = k (prodR a b).1 (prodR a b).2 := by
  have a1 := A.d1; have a2 := A.d2; have a3 := A.n1; have a4 := A.n2
  have b1 := B.d1; have b2 := B.d2; have b3 := B.n1; have b4 := B.n2
  unfold zq3s zq3p prodR
  refine (ratio_size_eq (by omega) _).trans ?_
  refine (ratio_gcd_eq (by omega) (by omega) (by omega) _).trans ?_
  refine (ratio_size_eq (by omega) _).trans ?_
  refine (ratio_gcd_eq (by omega) (by omega) (by omega) _).trans ?_
  rw [gcdI_gcd (by omega), gcdI_gcd (by omega)]
  have hg : 0 < (Int.gcd a.1 b.2 : Int) := gcd_pos' b1
  have hh : 0 < (Int.gcd b.1 a.2 : Int) := gcd_pos' a1
  have q1 := quo_bd hg (Int.gcd_dvd_left ..) (M := 4611686018427387904) (n := a.1) (by omega) (by omega)
  have q2 := quo_bd hh (Int.gcd_dvd_left ..) (M := 4611686018427387904) (n := b.1) (by omega) (by omega)
  have q3 := quo_bd hh (Int.gcd_dvd_right ..) (M := 4611686018427387904) (n := a.2) (by omega) (by omega)
  have q4 := quo_bd hg (Int.gcd_dvd_right ..) (M := 4611686018427387904) (n := b.2) (by omega) (by omega)
  simp only [tdiv_gcdr, tdiv_gcdl, i64_in (a.1 / (Int.gcd a.1 b.2 : Int)) (by omega), i64_in (b.1 / (Int.gcd b.1 a.2 : Int)) (by omega), i64_in (a.2 / (Int.gcd b.1 a.2 : Int)) (by omega), i64_in (b.2 / (Int.gcd a.1 b.2 : Int)) (by omega)]
  have t1 : ∀ k : Int → Bool → Option β, zq3l (a.1 / (Int.gcd a.1 b.2 : Int)) (b.1 / (Int.gcd b.1 a.2 : Int)) k = cond (inR (prodQ a b).1) (k (prodQ a b).1 true) (k 0 false) := fun k => ratio_times_eq q1 q2 k
  have t2 : ∀ k : Int → Bool → Option β, zq3l (a.2 / (Int.gcd b.1 a.2 : Int)) (b.2 / (Int.gcd a.1 b.2 : Int)) k = cond (inR (prodQ a b).2) (k (prodQ a b).2 true) (k 0 false) := fun k => ratio_times_eq q3 q4 k
  simp only [t1, t2, c_nneg (show ¬ ((Int.gcd a.1 b.2 : Int) = 0) by omega), c_nneg (show ¬ ((Int.gcd b.1 a.2 : Int) = 0) by omega)]
  cases h1 : inR (prodQ a b).1 <;> cases h2 : inR (prodQ a b).2 <;> rfl

theorem ratio_Mul_eq {β : Type} (a b : Rat2) (k : Rat2 → Int → Option β) : zq50 a b k = k (mulR a b).1 (mulR a b).2 := by
  unfold zq50 zq4x mulR
  refine (ratio_Valid_eq _ _).trans ?_
  cases va : validQ a with
  | false => rfl
  | true =>
    refine (ratio_Valid_eq _ _).trans ?_
    cases vb' : validQ b with
    | false => rfl
    | true => exact ratio_product_eq (vb va) (vb vb') k

theorem inv_vb {b : Rat2} (B : VB b) (h : b.1 ≠ 0) : VB (invQ b) := by
  have b1 := B.d1; have b2 := B.d2; have b3 := B.n1; have b4 := B.n2
  refine ⟨invQ_low B.low h, (invQ_low B.low h).den, ?_, ?_, ?_⟩ <;> unfold invQ <;> split <;> simp only <;> omega

theorem ratio_Div_eq {β : Type} (a b : Rat2) (k : Rat2 → Int → Option β) : zq5q a b k = k (divR a b).1 (divR a b).2 := by
  unfold zq5q zq5j divR
  refine (ratio_Valid_eq _ _).trans ?_
  cases va : validQ a with
  | false => rfl
  | true =>
    refine (ratio_Valid_eq _ _).trans ?_
    cases vb' : validQ b with
    | false => rfl
    | true =>
      have B := vb vb'
      have b1 := B.d1; have b2 := B.d2; have b3 := B.n1; have b4 := B.n2
      simp only [Bool.not_true, Bool.and_self, if_true]
      unfold zq5o zq5h zq5g
      by_cases h0 : b.1 = 0
      · refine (c_pos h0).trans ?_
        rw [if_pos h0]
      · refine (c_neg h0).trans ?_
        rw [if_neg h0]
        unfold zq5m zq5e zq5d
        refine (ratio_size_eq (by omega) _).trans ?_
        have hI := inv_vb B h0
        by_cases hn : b.1 < 0
        · refine (c_pos hn).trans ?_
          have e : ((IntKind.i64.wrap (0 - b.2)), (b.1.natAbs : Int)) = invQ b := by
            unfold invQ
            rw [if_pos hn, i64_in _ (by omega)]
            exact Prod.ext (by simp only; omega) (by simp only; omega)
          rw [e]
          exact ratio_product_eq (vb va) hI _
        · refine (c_neg hn).trans ?_
          have e : (b.2, (b.1.natAbs : Int)) = invQ b := by
            unfold invQ
            rw [if_neg hn]
            exact Prod.ext rfl (by simp only; omega)
          rw [e]
          exact ratio_product_eq (vb va) hI _

end
end Go.Lift

/- The examples of the chapter on ratios. -/
namespace Go.Lift
noncomputable section
set_option maxRecDepth 100000
theorem law02_sane_eq {β : Type} (k : Bool → Option β) : zq5x k = k true := by kernel_rfl
end
end Go.Lift

/- The code's ratios: which is less; ratios that are drawn. -/
namespace Go.Lift
open Go.RowKit Go.IntWalk
noncomputable section
set_option linter.unusedVariables false
set_option linter.unusedSimpArgs false
set_option maxRecDepth 10000

/-- The remainder that is not negative. -/
def modI (x n : Int) : Int := Int.tmod (Int.tmod x n + n) n
theorem modI_bd (x : Int) {n : Int} (hn : 0 < n) : 0 ≤ modI x n ∧ modI x n < n := mod_bd x hn
theorem made_Mod_eq2 {β : Type} (x : Int) {n : Int} (hn : 0 < n) (hn2 : n ≤ 1000000) (k : Int → Option β) : zq5 x n k = k (modI x n) := by
  have h1 : Int.tmod x n < n := Int.tmod_lt_of_pos _ hn
  have h2 : -n < Int.tmod x n := by
    have := Int.tmod_lt_of_pos (-x) hn
    rw [Int.neg_tmod] at this
    omega
  unfold zq5 zq2
  rw [i64_in _ (by omega)]
  refine (c_nneg (by omega)).trans ?_
  exact c_nneg (by omega)

theorem ref02_New_red {β : Type} {num den : Int} (h : -4611686018427387904 ≤ num ∧ num ≤ 4611686018427387904) (hd : 1 ≤ den ∧ den ≤ 4611686018427387904) (k : Int × Int → Int → Option β) : zq3e num den k = k (redQ num den) 0 := by
  rw [ref02_New_eq h hd, gcdI_gcd (by omega), tdiv_gcdl, tdiv_gcdr]
  rfl
theorem redQ_valid {num den : Int} (h : -4611686018427387904 ≤ num ∧ num ≤ 4611686018427387904) (hd : 1 ≤ den ∧ den ≤ 4611686018427387904) : validQ (redQ num den) = true :=
  redQ_bd hd.1 (inR_iff.2 h) (inR_iff.2 ⟨by simp only [RM]; omega, hd.2⟩)

theorem draw_eq (n d : Int) : ∃ x : Rat2, validQ x = true ∧ ∀ (β : Type) (k : Rat2 → Option β), zq3z n d k = k x := by
  have m5 := modI_bd n (n := 5) (by decide)
  have m9 := modI_bd d (n := 9) (by decide)
  have m7 := modI_bd n (n := 7) (by decide)
  have m99 := modI_bd n (n := 99) (by decide)
  have m201 := modI_bd n (n := 201) (by decide)
  have m60 := modI_bd d (n := 60) (by decide)
  by_cases h0 : modI n 5 = 0
  · refine ⟨redQ (4611686018427387904 - modI d 9) (1 + modI n 7), redQ_valid (by omega) (by omega), fun β k => ?_⟩
    unfold zq3z zq3w
    refine (made_Mod_eq2 _ (by decide) (by decide) _).trans ?_
    refine (c_pos h0).trans ?_
    refine (made_Mod_eq2 _ (by decide) (by decide) _).trans ?_
    refine (made_Mod_eq2 _ (by decide) (by decide) _).trans ?_
    rw [i64_in _ (by omega), i64_in _ (by omega)]
    exact ref02_New_red (by omega) (by omega) _
  · by_cases h1 : modI n 5 = 1
    · refine ⟨redQ (modI n 99 - 49) (4611686018427387904 - modI d 9), redQ_valid (by omega) (by omega), fun β k => ?_⟩
      unfold zq3z zq3w
      refine (made_Mod_eq2 _ (by decide) (by decide) _).trans ?_
      refine (c_neg h0).trans ?_
      refine (c_pos h1).trans ?_
      refine (made_Mod_eq2 _ (by decide) (by decide) _).trans ?_
      refine (made_Mod_eq2 _ (by decide) (by decide) _).trans ?_
      rw [i64_in _ (by omega), i64_in _ (by omega)]
      exact ref02_New_red (by omega) (by omega) _
    · refine ⟨redQ (modI n 201 - 100) (1 + modI d 60), redQ_valid (by omega) (by omega), fun β k => ?_⟩
      unfold zq3z zq3w
      refine (made_Mod_eq2 _ (by decide) (by decide) _).trans ?_
      refine (c_neg h0).trans ?_
      refine (c_neg h1).trans ?_
      refine (made_Mod_eq2 _ (by decide) (by decide) _).trans ?_
      refine (made_Mod_eq2 _ (by decide) (by decide) _).trans ?_
      rw [i64_in _ (by omega), i64_in _ (by omega)]
      exact ref02_New_red (by omega) (by omega) _
end
end Go.Lift

/- RatioOrder: one of less, equal, greater; transitive; the order of the differences. -/
namespace Go.Lift
open Go.RowKit Go.IntWalk
noncomputable section
set_option linter.unusedVariables false
set_option maxRecDepth 10000

theorem eq2_iff (x y : Rat2) : (decide (x.1 = y.1) && (decide (x.2 = y.2) && true)) = decide (x = y) := by
  obtain ⟨x1, x2⟩ := x
  obtain ⟨y1, y2⟩ := y
  simp only [Bool.and_true, ← Bool.decide_and, Prod.mk.injEq]

end
end Go.Lift

/- RatioProducts: the order does not matter, division undoes it, distributive over small sums. -/
namespace Go.Lift
open Go.RowKit Go.IntWalk
noncomputable section
set_option linter.unusedVariables false
set_option maxRecDepth 10000

theorem prod_p1 {β : Type} (a b n : Int) (k : Bool → Option β) : zq6j k a b n = k true := by
  have m1 := modI_bd a (n := 50) (by decide)
  have m2 := modI_bd b (n := 9) (by decide)
  have m3 := modI_bd n (n := 30) (by decide)
  have hd := distr (m := (modI a 50).toNat) (c := (modI b 9).toNat) (n := (modI n 30).toNat) (by omega) (by omega) (by omega)
  unfold distr1 at hd
  rw [show (((modI a 50).toNat : Nat) : Int) = modI a 50 by omega, show (((modI b 9).toNat : Nat) : Int) = modI b 9 by omega, show (((modI n 30).toNat : Nat) : Int) = modI n 30 by omega] at hd
  simp only [Bool.and_eq_true, decide_eq_true_eq] at hd
  obtain ⟨d1, d2, d3, d4, d5, d6, d7⟩ := hd
  unfold zq6j zq6b zq6a
  refine (made_Mod_eq2 _ (by decide) (by decide) _).trans ?_
  refine (made_Mod_eq2 _ (by decide) (by decide) _).trans ?_
  refine (made_Mod_eq2 _ (by decide) (by decide) _).trans ?_
  rw [i64_in _ (by omega)]
  refine (ratio_Div_eq _ _ _).trans ?_
  refine (ratio_Add_eq _ _ _).trans ?_
  refine (ratio_Mul_eq _ _ _).trans ?_
  refine (ratio_Mul_eq _ _ _).trans ?_
  refine (ratio_Mul_eq _ _ _).trans ?_
  refine (ratio_Add_eq _ _ _).trans ?_
  refine (c_pos d1).trans ?_
  refine (c_pos d2).trans ?_
  refine (c_pos d3).trans ?_
  refine (c_pos d4).trans ?_
  refine (c_pos d5).trans ?_
  refine (c_tt (by rw [decide_eq_true d6, decide_eq_true d7]; rfl)).trans ?_
  exact law02_sane_eq _

theorem law_products {β : Type} (a b c d n : Int) (k : Bool → Option β) : zq6n a b c d n k = k true := by
  obtain ⟨x, hx, dx⟩ := draw_eq a b
  obtain ⟨y, hy, dy⟩ := draw_eq c d
  unfold zq6n zq6g
  refine (dx _ _).trans ?_
  refine (dy _ _).trans ?_
  refine (ratio_Mul_eq _ _ _).trans ?_
  refine (ratio_Mul_eq _ _ _).trans ?_
  rw [mulR_comm y x]
  refine (c_ff (by rw [eq2_iff]; simp)).trans ?_
  refine (c_ff (by simp)).trans ?_
  by_cases h : (mulR x y).2 = 0
  · refine (c_pos h).trans ?_
    unfold zq6l zq6e zq6d
    by_cases h0 : y.1 = 0
    · exact (c_ff (by simp [h0])).trans (prod_p1 _ _ _ _)
    · refine (c_tt (by simp [h0])).trans ?_
      refine (ratio_Div_eq _ _ _).trans ?_
      have e := mul_div hx hy h h0
      have e' : divR ((mulR x y).1.1, (mulR x y).1.2) (y.1, y.2) = (x, 0) := e
      rw [e']
      refine (c_ff rfl).trans ?_
      refine (c_ff (by simp)).trans ?_
      exact prod_p1 _ _ _ _
  · refine (c_neg h).trans ?_
    unfold zq6l zq6e zq6d
    exact (c_ff rfl).trans (prod_p1 _ _ _ _)
end
end Go.Lift

