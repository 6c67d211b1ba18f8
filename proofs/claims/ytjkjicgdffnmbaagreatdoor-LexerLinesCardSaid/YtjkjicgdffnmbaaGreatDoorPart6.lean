/- Part6: Fn0, LBase, LDice, LLexWords, LLexSane, LLexBack, LLexLine, LLexLines. -/
import Derived.Test.YtjkjicgdffnmbaaGreatDoorProg
import Derived.KernelRfl
import Derived.Lib.TrimAscii
import Derived.Test.YtjkjicgdffnmbaaGreatDoorPart5
namespace Go.Lift
open Go.Proofs
noncomputable section
set_option maxRecDepth 100000
set_option linter.unusedVariables false

abbrev zq0 := (Int × (List UInt8 × Int))
abbrev zq1 : Ty := (.prod (.int .i64) (.prod .str (.int .i64)))

def tab : List (Nat × TI) := [
  (3, ⟨false, 1, 8, [.int .i64 (0 : Int)], [], none, none, (some (.int .i64)), (some .i64), false, false, none, none⟩),
  (4, ⟨false, 1, 1, [.bool false], [], none, none, (some .bool), none, true, false, none, none⟩),
  (5, ⟨false, 1, 1, [.int .u8 (0 : Int)], [], none, none, (some (.int .u8)), (some .u8), false, false, none, none⟩),
  (9, ⟨false, 1, 16, [.str ([] : List UInt8)], [], none, none, (some .str), none, false, true, none, none⟩),
  (23, ⟨true, 3, 32, [.int .i64 (0 : Int), .str ([] : List UInt8), .int .i64 (0 : Int)], [(0, 1, false), (1, 1, false), (2, 1, false)], none, none, (some zq1), none, false, false, (some [.i, .s, .i]), none⟩),
  (24, ⟨false, 1, 24, [.nils], [], (some 3), none, (some (.slice (.int .i64))), none, false, false, none, none⟩),
  (30, ⟨false, 1, 24, [.nils], [], (some 9), none, (some (.slice .str)), none, false, false, none, none⟩),
  (36, ⟨false, 1, 24, [.nils], [], (some 23), none, (some (.slice zq1)), none, false, false, none, none⟩),
  (48, ⟨true, 2, 32, [.nils, .int .i64 (0 : Int)], [(0, 1, false), (1, 1, false)], none, none, (some (.prod (.slice (.int .i64)) (.int .i64))), none, false, false, none, none⟩),
  (68, ⟨true, 3, 24, [.int .i64 (0 : Int), .int .i64 (0 : Int), .int .i64 (0 : Int)], [(0, 1, false), (1, 1, false), (2, 1, false)], none, none, (some (.prod (.int .i64) (.prod (.int .i64) (.int .i64)))), none, false, false, (some [.i, .i, .i]), none⟩),
  (80, ⟨false, 1, 16, [.err true], [], none, none, (some .err), none, false, false, none, none⟩),
  (135, ⟨true, 12, 96, [.int .i64 (0 : Int), .int .i64 (0 : Int), .int .i64 (0 : Int), .int .i64 (0 : Int), .int .i64 (0 : Int), .int .i64 (0 : Int), .int .i64 (0 : Int), .int .i64 (0 : Int), .int .i64 (0 : Int), .int .i64 (0 : Int), .int .i64 (0 : Int), .int .i64 (0 : Int)], [], (some 3), (some 12), (some (.prod (.int .i64) (.prod (.int .i64) (.prod (.int .i64) (.prod (.int .i64) (.prod (.int .i64) (.prod (.int .i64) (.prod (.int .i64) (.prod (.int .i64) (.prod (.int .i64) (.prod (.int .i64) (.prod (.int .i64) (.int .i64))))))))))))), none, false, false, (some [.i, .i, .i, .i, .i, .i, .i, .i, .i, .i, .i, .i]), none⟩)]

theorem tab_ok : TOk Tryz.prog (look tab) := TOk_of (by kernel_rfl)
theorem mixed : Tryz.prog.follows .mixedOrders = true := by kernel_rfl

/-- pagewatch/pagewatchmade.Light -/
abbrev zq2 := {β : Type} → (List Int) → (Bool → Option β) → Option β
def zq3 (c : zq2) : Spec :=
  ⟨[(false, [.data (.slice (.int .i64))])], [], [(false, [.data .bool])], [], fun x k => c x.1.1.1 (fun r0 => k (((r0, ()), ()), ()))⟩
section
@[reducible] def made_Light_X : Ctx := ⟨look tab, pick1 [], false, false, false, false⟩
def zq4 {β : Type} (l : List Int) (k : (Bool → Option β)) : Option β :=
  let t : Bool := (decide ((List.length l : Int) ≤ (500 : Int)));
  k t
theorem zq5 (hΓ : ΓOk Tryz.prog made_Light_X.Γ) : SpecOk Tryz.prog 6 (zq3 (zq4)) :=
  spec_exec (X := made_Light_X) (Λ := pick1 []) (rs := [.tmp 2]) (c := bodyOf Tryz.f6) mixed tab_ok hΓ Tryz.func6 (by kernel_rfl) (by kernel_rfl) (by kernel_rfl) (by kernel_rfl) CutsOk_nil (fun x k r h => Eq.trans (b := (zq3 (zq4)).run x k) (by kernel_rfl) h)
end
theorem zq6Γ : ΓOk Tryz.prog (pick1 []) := ΓOk_nil
def zq7 : zq2 := zq4
theorem zq8 : SpecOk Tryz.prog 6 (zq3 zq7) := zq5 zq6Γ

/-- pagewatch/pagewatchmade.Roll -/
abbrev zq9 := {β : Type} → (List Int) → ((List Int × Int) → Option β) → Option β
def zqa (c : zq9) : Spec :=
  ⟨[(false, [.data (.slice (.int .i64))])], [], [(false, [.ptr 0 0])], [.cells 48 [.data (.prod (.slice (.int .i64)) (.int .i64))]], fun x k => c x.1.1.1 (fun r0 => k (((), ()), ((r0, ()), ())))⟩
section
@[reducible] def made_Roll_X : Ctx := ⟨look tab, pick1 [], false, false, false, false⟩
def zqb {β : Type} (l : List Int) (k : ((List Int × Int) → Option β)) : Option β :=
  k (l, (0 : Int))
theorem zqc (hΓ : ΓOk Tryz.prog made_Roll_X.Γ) : SpecOk Tryz.prog 8 (zqa (zqb)) :=
  spec_exec (X := made_Roll_X) (Λ := pick1 []) (rs := [.tmp 2]) (c := bodyOf Tryz.f8) mixed tab_ok hΓ Tryz.func8 (by kernel_rfl) (by kernel_rfl) (by kernel_rfl) (by kernel_rfl) CutsOk_nil (fun x k r h => Eq.trans (b := (zqa (zqb)).run x k) (by kernel_rfl) h)
end
theorem zqdΓ : ΓOk Tryz.prog (pick1 []) := ΓOk_nil
def zqe : zq9 := zqb
theorem zqf : SpecOk Tryz.prog 8 (zqa zqe) := zqc zqdΓ

/-- (*pagewatch/pagewatchmade.Dice).Next -/
abbrev zqg := {β : Type} → Int → (List Int × Int) → (Int → (List Int × Int) → Option β) → Option β
def zqh (c : zqg) : Spec :=
  ⟨[(false, [.ptr 0 0]), (false, [.data (.int .i64)])], [.cells 48 [.data (.prod (.slice (.int .i64)) (.int .i64))]], [(false, [.data (.int .i64)])], [.cells 48 [.data (.prod (.slice (.int .i64)) (.int .i64))]], fun x k => c x.1.2.1.1 x.2.1.1 (fun r0 r1 => k (((r0, ()), ()), ((r1, ()), ())))⟩
section
@[reducible] def made_Dice_Next_X : Ctx := ⟨look tab, pick1 [], false, false, false, false⟩
def zqi {β : Type} (n : Int) (d : (List Int × Int)) (k : (Int → (List Int × Int) → Option β)) : Option β :=
  cond (decide ((List.length d.1 : Int) ≤ d.2))
  (k (0 : Int) d)
  (cond (decide (n < (1 : Int)))
  (k (0 : Int) d)
  (cond (decide (0 ≤ d.2) && decide (d.2 < (List.length d.1 : Int)))
  (let e : Int := List.getD d.1 (Int.toNat d.2) (0 : Int);
  cond (!decide (n = 0))
  (cond (decide ((Int.tmod e n) < (0 : Int)))
  (let x : Int := (IntKind.i64.wrap ((Int.tmod e n) + n));
  k x (d.1, (IntKind.i64.wrap (d.2 + (1 : Int)))))
  (k (Int.tmod e n) (d.1, (IntKind.i64.wrap (d.2 + (1 : Int))))))
  none)
  none))
theorem zqj (hΓ : ΓOk Tryz.prog made_Dice_Next_X.Γ) : SpecOk Tryz.prog 9 (zqh (zqi)) :=
  spec_exec (X := made_Dice_Next_X) (Λ := pick1 []) (rs := [.tmp 4]) (c := bodyOf Tryz.f9) mixed tab_ok hΓ Tryz.func9 (by kernel_rfl) (by kernel_rfl) (by kernel_rfl) (by kernel_rfl) CutsOk_nil (fun x k r h => Eq.trans (b := (zqh (zqi)).run x k) (by kernel_rfl) h)
end
theorem zqkΓ : ΓOk Tryz.prog (pick1 []) := ΓOk_nil
def zql : zqg := zqi
theorem zqm : SpecOk Tryz.prog 9 (zqh zql) := zqj zqkΓ

/-- pagewatch/pagewatchlaw06.words -/
abbrev zqn := {β : Type} → ((List (List UInt8)) → Option β) → Option β
def zqo (c : zqn) : Spec :=
  ⟨[], [], [(false, [.rowh 0])], [.row 9 .str], fun x k => c  (fun r0 => k (((), ()), (r0, ())))⟩
section
@[reducible] def law06_words_X : Ctx := ⟨look tab, pick1 [], false, false, false, false⟩
def zqp {β : Type} (k : ((List (List UInt8)) → Option β)) : Option β :=
  let l : List (List UInt8) := ([([97] : List UInt8), ([122, 57, 95, 45] : List UInt8), ([65] : List UInt8), ([57, 97] : List UInt8), ([48] : List UInt8), ([48, 48] : List UInt8), ([55] : List UInt8), ([57, 57, 57, 57, 57, 57, 57, 57, 57] : List UInt8), ([49, 48, 48, 48, 48, 48, 48, 48, 48, 48] : List UInt8), ([48, 49] : List UInt8), ([50, 52, 58, 48, 48] : List UInt8), ([50, 52, 58, 48, 48, 58, 48, 49] : List UInt8), ([50, 51, 58, 53, 57, 58, 53, 57] : List UInt8), ([49, 50, 58, 54, 48] : List UInt8), ([49, 58, 48, 48] : List UInt8), ([50, 48, 50, 54, 45, 48, 50, 45, 50, 56] : List UInt8), ([50, 48, 50, 54, 45, 48, 50, 45, 50, 57] : List UInt8), ([50, 48, 50, 52, 45, 48, 50, 45, 50, 57] : List UInt8), ([49, 57, 54, 57, 45, 49, 50, 45, 51, 49] : List UInt8), ([50, 50, 52, 48, 45, 49, 50, 45, 51, 49] : List UInt8), ([50, 50, 52, 49, 45, 48, 49, 45, 48, 49] : List UInt8), ([43, 49, 56, 58, 48, 48] : List UInt8), ([43, 49, 56, 58, 48, 49] : List UInt8), ([45, 48, 48, 58, 48, 48] : List UInt8), ([45, 49, 55, 58, 53, 57] : List UInt8), ([43, 49, 58, 48, 48] : List UInt8), ([50, 48, 50, 54, 45, 48, 49, 45, 48, 49, 84, 48, 48, 58, 48, 48, 58, 48, 48, 90] : List UInt8), ([50, 48, 50, 54, 45, 48, 49, 45, 48, 49, 84, 50, 52, 58, 48, 48, 58, 48, 48, 90] : List UInt8), ([50, 48, 50, 54, 45, 49, 51, 45, 48, 49, 84, 48, 48, 58, 48, 48, 58, 48, 48, 90] : List UInt8), ([50, 48, 50, 54, 45, 48, 49, 45, 48, 49, 116, 48, 48, 58, 48, 48, 58, 48, 48, 90] : List UInt8), ([97, 98, 99, 100, 101, 102, 103, 104, 105, 106, 107, 108, 109, 110, 111, 112, 113, 114, 115, 116, 117, 118, 119, 120] : List UInt8), ([97, 98, 99, 100, 101, 102, 103, 104, 105, 106, 107, 108, 109, 110, 111, 112, 113, 114, 115, 116, 117, 118, 119, 120, 121] : List UInt8), ([] : List UInt8), ([35] : List UInt8), ([97, 35, 98] : List UInt8), ([110, 111, 98, 111, 100, 121] : List UInt8)] : List (List UInt8));
  k l
theorem zqq (hΓ : ΓOk Tryz.prog law06_words_X.Γ) : SpecOk Tryz.prog 10 (zqo (zqp)) :=
  spec_exec (X := law06_words_X) (Λ := pick1 []) (rs := [.tmp 0]) (c := bodyOf Tryz.f10) mixed tab_ok hΓ Tryz.func10 (by kernel_rfl) (by kernel_rfl) (by kernel_rfl) (by kernel_rfl) CutsOk_nil (fun x k r h => Eq.trans (b := (zqo (zqp)).run x k) (by kernel_rfl) h)
end
theorem zqrΓ : ΓOk Tryz.prog (pick1 []) := ΓOk_nil
def zqs : zqn := zqp
theorem zqt : SpecOk Tryz.prog 10 (zqo zqs) := zqq zqrΓ

/-- pagewatch/pagewatchlaw06.same -/
abbrev zqu := {β : Type} → (List zq0) → (List zq0) → (Bool → Option β) → Option β
def zqv (c : zqu) : Spec :=
  ⟨[(false, [.data (.slice zq1)]), (false, [.data (.slice zq1)])], [], [(false, [.data .bool])], [], fun x k => c x.1.1.1 x.1.2.1.1 (fun r0 => k (((r0, ()), ()), ()))⟩
noncomputable def law06_same_p1_code : Code := codeAt 58 (bodyOf Tryz.f15)
abbrev zqw (β : Type) := Bool → Option β
abbrev zqx (β : Type) := Unit → Option β
abbrev zqy := {β : Type} → zqw β → zqx β → (List zq0) → (List zq0) → Int → Int → Option β
def zqz : View := ⟨0, [0, 1, 12, 13], [(false, [.data (.slice zq1)]), (false, [.data (.slice zq1)]), (false, [.data (.int .i64)]), (false, [.data (.int .i64)])], []⟩
def zq10 : List (AExit × View) := [(.ret, ⟨0, [4], [(false, [.data .bool])], []⟩), (.exit 0, ⟨0, [], [], []⟩)]
@[reducible] def law06_same_p1_G (p : zqy) {β : Type} (d : zqz.den) (ks : Outs.K β zq10) : Option β :=
  p (fun a0 => ks.1 (((a0, ()), ()), ())) (fun _ => ks.2.1 ((), ())) d.1.1.1 d.1.2.1.1 d.1.2.2.1.1 d.1.2.2.2.1.1
section
@[reducible] def law06_same_X : Ctx := ⟨look tab, pick1 [], false, false, false, false⟩
def zq11 {β : Type} (rec : (List zq0) → (List zq0) → Int → Int → Option β) (k1 : zqw β) (k2 : zqx β) (a : List zq0) (b : List zq0) (t12 : Int) (t13 : Int) : Option β :=
  cond (decide (t13 < t12))
  (cond (decide (0 ≤ t13) && decide (t13 < (List.length a : Int)))
  (let e : zq0 := List.getD a (Int.toNat t13) ((0 : Int), (([] : List UInt8), (0 : Int)));
  cond (decide (0 ≤ t13) && decide (t13 < (List.length b : Int)))
  (let e2 : zq0 := List.getD b (Int.toNat t13) ((0 : Int), (([] : List UInt8), (0 : Int)));
  cond (!(decide (e.1 = e2.1) && (decide (e.2.1 = e2.2.1) && (decide (e.2.2 = e2.2.2) && true))))
  (k1 false)
  (rec a b t12 (IntKind.i64.wrap (t13 + (1 : Int)))))
  none)
  none)
  (k2 ())
def zq12 {β : Type} : Nat → zqw β → zqx β → (List zq0) → (List zq0) → Int → Int → Option β
  | 0 => fun _ _ _ _ _ _ => none
  | i + 1 => fun k1 k2 a b t12 t13 => zq11 (zq12 i k1 k2) k1 k2 a b t12 t13
theorem zq13 (hΓ : ΓOk Tryz.prog law06_same_X.Γ) (i : Nat) : PieceOk Tryz.prog 26 0 law06_same_p1_code zqz zq10 (law06_same_p1_G (zq12 i)) := by
  rw [show law06_same_p1_code = .loop (loopBody law06_same_p1_code) by kernel_rfl]
  exact piece_loop (X := law06_same_X) (p := 1) (Λ := pick1 []) (G := fun i => @fun β d ks => law06_same_p1_G (zq12 i) d ks) mixed tab_ok hΓ rfl (by kernel_rfl) CutsOk_nil (fun _ _ => rfl) (fun i => @fun β d ks r h => Eq.trans (b := law06_same_p1_G (zq12 (i + 1)) d ks) (by kernel_rfl) h) i
def zq14 (p1 : zqy) {β : Type} (a : List zq0) (b : List zq0) (k : (Bool → Option β)) : Option β :=
  cond (!decide ((List.length a : Int) = (List.length b : Int)))
  (k false)
  (p1 (fun (t4 : Bool) =>
  k t4) (fun (_ : Unit) =>
  k true) a b (List.length a : Int) (0 : Int))
theorem zq15 (hΓ : ΓOk Tryz.prog law06_same_X.Γ) (p1 : zqy) (hp1 : PieceOk Tryz.prog 26 0 law06_same_p1_code zqz zq10 (law06_same_p1_G p1)) : SpecOk Tryz.prog 15 (zqv (zq14 p1)) :=
  spec_exec (X := law06_same_X) (Λ := pick1 [(58, pieceCut zqz zq10 (law06_same_p1_G p1))]) (rs := [.tmp 4]) (c := bodyOf Tryz.f15) mixed tab_ok hΓ Tryz.func15 (by kernel_rfl) (by kernel_rfl) (by kernel_rfl) (by kernel_rfl) (CutsOk_cons (q := 58) (c' := law06_same_p1_code) (by kernel_rfl) rfl hp1 CutsOk_nil) (fun x k r h => Eq.trans (b := (zqv (zq14 p1)).run x k) (by kernel_rfl) h)
end
theorem zq16Γ : ΓOk Tryz.prog (pick1 []) := ΓOk_nil
def zq17 (m : Nat) : zqy := zq12 m
theorem zq18 {β : Type} (i : Nat) (k1 k2 a b t12 t13) : (zq17 (i + 1) k1 k2 a b t12 t13 : Option β) = zq11 (zq17 i k1 k2) k1 k2 a b t12 t13 := rfl
def zq19 : zqy := zq17 fuel
theorem zq1a : PieceOk Tryz.prog 26 0 law06_same_p1_code zqz zq10 (law06_same_p1_G zq19) := zq13 zq16Γ fuel
def zq1b : zqu := zq14 zq19
theorem zq1c : SpecOk Tryz.prog 15 (zqv zq1b) := zq15 zq16Γ zq19 zq1a

/-- strings.Cut -/
def zq1d : Shelf.Ren :=
      { 
      f := fun x =>
        match x with
        | 145 => 26
        | 220 => 44
        | 219 => 61
        | 217 => 72
        | 225 => 73
        | 224 => 74
        | 267 => 75
        | 266 => 90
        | 314 => 91
        | n => n,
      t := fun x =>
        match x with
        | 9 => 9
        | 4 => 4
        | 59 => 53
        | 3 => 3
        | 5 => 5
        | 46 => 98
        | 146 => 119
        | 51 => 88
        | n => n,
      g := fun x =>
        match x with
        | 1 => 2
        | n => n }
theorem zq1e : Go.Proofs.Lays.n145 Tryz.prog zq1d :=
  { mixed := by kernel_rfl,
    f145 := Eq.trans Tryz.func26 (congrArg some (by kernel_rfl)),
    f217 := Eq.trans Tryz.func72 (congrArg some (by kernel_rfl)),
    f219 := Eq.trans Tryz.func61 (congrArg some (by kernel_rfl)),
    f220 := Eq.trans Tryz.func44 (congrArg some (by kernel_rfl)),
    f224 := Eq.trans Tryz.func74 (congrArg some (by kernel_rfl)),
    f225 := Eq.trans Tryz.func73 (congrArg some (by kernel_rfl)),
    f266 := Eq.trans Tryz.func90 (congrArg some (by kernel_rfl)),
    f267 := Eq.trans Tryz.func75 (congrArg some (by kernel_rfl)),
    f314 := Eq.trans Tryz.func91 (congrArg some (by kernel_rfl)),
    t3 := Tryz.underlying3,
    a3 := Tryz.isAgg3,
    z3 := Tryz.sizeOf3,
    v3 := Tryz.zeroValue3,
    t4 := Tryz.underlying4,
    a4 := Tryz.isAgg4,
    z4 := Tryz.sizeOf4,
    v4 := Tryz.zeroValue4,
    t5 := Tryz.underlying5,
    a5 := Tryz.isAgg5,
    z5 := Tryz.sizeOf5,
    v5 := Tryz.zeroValue5,
    t9 := Tryz.underlying9,
    a9 := Tryz.isAgg9,
    z9 := Tryz.sizeOf9,
    v9 := Tryz.zeroValue9,
    t46 := Tryz.underlying98,
    a46 := Tryz.isAgg98,
    z46 := Tryz.sizeOf98,
    v46 := Tryz.zeroValue98,
    t51 := Tryz.underlying88,
    a51 := Tryz.isAgg88,
    z51 := Tryz.sizeOf88,
    v51 := Tryz.zeroValue88,
    t59 := Tryz.underlying53,
    a59 := Tryz.isAgg53,
    z59 := Tryz.sizeOf53,
    v59 := Tryz.zeroValue53,
    t146 := Tryz.underlying119,
    a146 := Tryz.isAgg119,
    z146 := Tryz.sizeOf119,
    v146 := Tryz.zeroValue119,
    g1 := by kernel_rfl }
abbrev zq1f := cutT
def zq1g (c : zq1f) : Spec := cutS c
def zq1h : zq1f := fun x y k => cutF x y k
theorem zq1i : SpecOk Tryz.prog 26 (zq1g zq1h) :=
  cut_ok zq1e rfl (of_decide_eq_true (by kernel_rfl)) (fun w0 h0 => Go.Proofs.cell_of_shapedOpen_int (P := Tryz.prog) (g := 2) (t := 3) (zero := #[.int .i64 0]) h0 (of_decide_eq_true (by kernel_rfl)) (by kernel_rfl) rfl (by kernel_rfl) (by kernel_rfl) Tryz.underlying3) ⟨_, Tryz.func26, by kernel_rfl, by kernel_rfl⟩

/-- strings.Fields -/
def zq1j : Shelf.Ren :=
      { 
      f := fun x =>
        match x with
        | 157 => 27
        | 229 => 45
        | 199 => 46
        | 261 => 62
        | 311 => 76
        | 312 => 77
        | n => n,
      t := fun x =>
        match x with
        | 9 => 9
        | 31 => 30
        | 3 => 3
        | 5 => 5
        | 4 => 4
        | 119 => 69
        | 0 => 0
        | 40 => 71
        | 152 => 85
        | 21 => 21
        | 154 => 87
        | 51 => 88
        | 141 => 90
        | 196 => 102
        | 193 => 99
        | 198 => 105
        | 49 => 103
        | 194 => 100
        | 201 => 108
        | 226 => 121
        | 46 => 98
        | 227 => 122
        | n => n,
      g := fun x =>
        match x with
        | 0 => 0
        | 6 => 1
        | n => n }
theorem zq1k : Go.Proofs.Lays.n157 Tryz.prog zq1j :=
  { mixed := by kernel_rfl,
    f157 := Eq.trans Tryz.func27 (congrArg some (by kernel_rfl)),
    f199 := Eq.trans Tryz.func46 (congrArg some (by kernel_rfl)),
    f229 := Eq.trans Tryz.func45 (congrArg some (by kernel_rfl)),
    f261 := Eq.trans Tryz.func62 (congrArg some (by kernel_rfl)),
    f311 := Eq.trans Tryz.func76 (congrArg some (by kernel_rfl)),
    f312 := Eq.trans Tryz.func77 (congrArg some (by kernel_rfl)),
    t0 := Tryz.underlying0,
    a0 := Tryz.isAgg0,
    z0 := Tryz.sizeOf0,
    v0 := Tryz.zeroValue0,
    t3 := Tryz.underlying3,
    a3 := Tryz.isAgg3,
    z3 := Tryz.sizeOf3,
    v3 := Tryz.zeroValue3,
    t4 := Tryz.underlying4,
    a4 := Tryz.isAgg4,
    z4 := Tryz.sizeOf4,
    v4 := Tryz.zeroValue4,
    t5 := Tryz.underlying5,
    a5 := Tryz.isAgg5,
    z5 := Tryz.sizeOf5,
    v5 := Tryz.zeroValue5,
    t9 := Tryz.underlying9,
    a9 := Tryz.isAgg9,
    z9 := Tryz.sizeOf9,
    v9 := Tryz.zeroValue9,
    t21 := Tryz.underlying21,
    a21 := Tryz.isAgg21,
    z21 := Tryz.sizeOf21,
    v21 := Tryz.zeroValue21,
    t31 := Tryz.underlying30,
    a31 := Tryz.isAgg30,
    z31 := Tryz.sizeOf30,
    v31 := Tryz.zeroValue30,
    t40 := Tryz.underlying71,
    a40 := Tryz.isAgg71,
    z40 := Tryz.sizeOf71,
    v40 := Tryz.zeroValue71,
    t46 := Tryz.underlying98,
    a46 := Tryz.isAgg98,
    z46 := Tryz.sizeOf98,
    v46 := Tryz.zeroValue98,
    t49 := Tryz.underlying103,
    a49 := Tryz.isAgg103,
    z49 := Tryz.sizeOf103,
    v49 := Tryz.zeroValue103,
    t51 := Tryz.underlying88,
    a51 := Tryz.isAgg88,
    z51 := Tryz.sizeOf88,
    v51 := Tryz.zeroValue88,
    t119 := Tryz.underlying69,
    a119 := Tryz.isAgg69,
    z119 := Tryz.sizeOf69,
    t141 := Tryz.underlying90,
    a141 := Tryz.isAgg90,
    z141 := Tryz.sizeOf90,
    v141 := Tryz.zeroValue90,
    t152 := Tryz.underlying85,
    a152 := Tryz.isAgg85,
    z152 := Tryz.sizeOf85,
    v152 := Tryz.zeroValue85,
    t154 := Tryz.underlying87,
    a154 := Tryz.isAgg87,
    z154 := Tryz.sizeOf87,
    v154 := Tryz.zeroValue87,
    t193 := Tryz.underlying99,
    a193 := Tryz.isAgg99,
    z193 := Tryz.sizeOf99,
    v193 := Tryz.zeroValue99,
    t194 := Tryz.underlying100,
    a194 := Tryz.isAgg100,
    z194 := Tryz.sizeOf100,
    v194 := Tryz.zeroValue100,
    t196 := Tryz.underlying102,
    a196 := Tryz.isAgg102,
    z196 := Tryz.sizeOf102,
    v196 := Tryz.zeroValue102,
    t198 := Tryz.underlying105,
    a198 := Tryz.isAgg105,
    z198 := Tryz.sizeOf105,
    v198 := Tryz.zeroValue105,
    t201 := Tryz.underlying108,
    a201 := Tryz.isAgg108,
    z201 := Tryz.sizeOf108,
    v201 := Tryz.zeroValue108,
    t226 := Tryz.underlying121,
    a226 := Tryz.isAgg121,
    z226 := Tryz.sizeOf121,
    v226 := Tryz.zeroValue121,
    t227 := Tryz.underlying122,
    a227 := Tryz.isAgg122,
    z227 := Tryz.sizeOf122,
    v227 := Tryz.zeroValue122,
    g0 := by kernel_rfl,
    g6 := by kernel_rfl }
abbrev zq1l := fieldsT
def zq1m (c : zq1l) : Spec := fieldsRS 9 c
def zq1n : zq1l := fun x k => fieldsF x k
theorem zq1o : SpecOk Tryz.prog 27 (zq1m zq1n) :=
  fields_ok zq1k rfl rfl (by kernel_rfl) (by kernel_rfl) (by kernel_rfl) (by kernel_rfl) ⟨_, Tryz.func27, by kernel_rfl, by kernel_rfl⟩

/-- pagewatch/lexer.small -/
abbrev zq1p := {β : Type} → Int → (Bool → Option β) → Option β
def zq1q (c : zq1p) : Spec :=
  ⟨[(false, [.data (.int .u8)])], [], [(false, [.data .bool])], [], fun x k => c x.1.1.1 (fun r0 => k (((r0, ()), ()), ()))⟩
section
@[reducible] def lexer_small_X : Ctx := ⟨look tab, pick1 [], false, false, false, false⟩
def zq1r {β : Type} (c : Int) (k : (Bool → Option β)) : Option β :=
  cond (decide ((97 : Int) ≤ c))
  (let t : Bool := (decide (c ≤ (122 : Int)));
  k t)
  (k false)
theorem zq1s (hΓ : ΓOk Tryz.prog lexer_small_X.Γ) : SpecOk Tryz.prog 29 (zq1q (zq1r)) :=
  spec_exec (X := lexer_small_X) (Λ := pick1 []) (rs := [.tmp 2]) (c := bodyOf Tryz.f29) mixed tab_ok hΓ Tryz.func29 (by kernel_rfl) (by kernel_rfl) (by kernel_rfl) (by kernel_rfl) CutsOk_nil (fun x k r h => Eq.trans (b := (zq1q (zq1r)).run x k) (by kernel_rfl) h)
end
theorem zq1tΓ : ΓOk Tryz.prog (pick1 []) := ΓOk_nil
def zq1u : zq1p := zq1r
theorem zq1v : SpecOk Tryz.prog 29 (zq1q zq1u) := zq1s zq1tΓ

/-- pagewatch/lexer.digit -/
abbrev zq1w := {β : Type} → Int → (Bool → Option β) → Option β
def zq1x (c : zq1w) : Spec :=
  ⟨[(false, [.data (.int .u8)])], [], [(false, [.data .bool])], [], fun x k => c x.1.1.1 (fun r0 => k (((r0, ()), ()), ()))⟩
section
@[reducible] def lexer_digit_X : Ctx := ⟨look tab, pick1 [], false, false, false, false⟩
def zq1y {β : Type} (c : Int) (k : (Bool → Option β)) : Option β :=
  cond (decide ((48 : Int) ≤ c))
  (let t : Bool := (decide (c ≤ (57 : Int)));
  k t)
  (k false)
theorem zq1z (hΓ : ΓOk Tryz.prog lexer_digit_X.Γ) : SpecOk Tryz.prog 30 (zq1x (zq1y)) :=
  spec_exec (X := lexer_digit_X) (Λ := pick1 []) (rs := [.tmp 2]) (c := bodyOf Tryz.f30) mixed tab_ok hΓ Tryz.func30 (by kernel_rfl) (by kernel_rfl) (by kernel_rfl) (by kernel_rfl) CutsOk_nil (fun x k r h => Eq.trans (b := (zq1x (zq1y)).run x k) (by kernel_rfl) h)
end
theorem zq20Γ : ΓOk Tryz.prog (pick1 []) := ΓOk_nil
def zq21 : zq1w := zq1y
theorem zq22 : SpecOk Tryz.prog 30 (zq1x zq21) := zq1z zq20Γ

/-- strings.Contains -/
def zq23 : Shelf.Ren :=
      { 
      f := fun x =>
        match x with
        | 144 => 38
        | 143 => 54
        | 219 => 61
        | 217 => 72
        | 225 => 73
        | 224 => 74
        | 267 => 75
        | 266 => 90
        | 314 => 91
        | n => n,
      t := fun x =>
        match x with
        | 9 => 9
        | 4 => 4
        | 3 => 3
        | 5 => 5
        | 46 => 98
        | 146 => 119
        | 51 => 88
        | n => n,
      g := fun x =>
        match x with
        | 1 => 2
        | n => n }
theorem zq24 : Go.Proofs.Lays.n144 Tryz.prog zq23 :=
  { mixed := by kernel_rfl,
    f143 := Eq.trans Tryz.func54 (congrArg some (by kernel_rfl)),
    f144 := Eq.trans Tryz.func38 (congrArg some (by kernel_rfl)),
    f217 := Eq.trans Tryz.func72 (congrArg some (by kernel_rfl)),
    f219 := Eq.trans Tryz.func61 (congrArg some (by kernel_rfl)),
    f224 := Eq.trans Tryz.func74 (congrArg some (by kernel_rfl)),
    f225 := Eq.trans Tryz.func73 (congrArg some (by kernel_rfl)),
    f266 := Eq.trans Tryz.func90 (congrArg some (by kernel_rfl)),
    f267 := Eq.trans Tryz.func75 (congrArg some (by kernel_rfl)),
    f314 := Eq.trans Tryz.func91 (congrArg some (by kernel_rfl)),
    t3 := Tryz.underlying3,
    a3 := Tryz.isAgg3,
    z3 := Tryz.sizeOf3,
    v3 := Tryz.zeroValue3,
    t4 := Tryz.underlying4,
    a4 := Tryz.isAgg4,
    z4 := Tryz.sizeOf4,
    v4 := Tryz.zeroValue4,
    t5 := Tryz.underlying5,
    a5 := Tryz.isAgg5,
    z5 := Tryz.sizeOf5,
    v5 := Tryz.zeroValue5,
    t9 := Tryz.underlying9,
    a9 := Tryz.isAgg9,
    z9 := Tryz.sizeOf9,
    v9 := Tryz.zeroValue9,
    t46 := Tryz.underlying98,
    a46 := Tryz.isAgg98,
    z46 := Tryz.sizeOf98,
    v46 := Tryz.zeroValue98,
    t51 := Tryz.underlying88,
    a51 := Tryz.isAgg88,
    z51 := Tryz.sizeOf88,
    v51 := Tryz.zeroValue88,
    t146 := Tryz.underlying119,
    a146 := Tryz.isAgg119,
    z146 := Tryz.sizeOf119,
    v146 := Tryz.zeroValue119,
    g1 := by kernel_rfl }
abbrev zq25 := containsT
def zq26 (c : zq25) : Spec := containsS c
def zq27 : zq25 := fun x y k => containsF x y k
theorem zq28 : SpecOk Tryz.prog 38 (zq26 zq27) :=
  contains_ok zq24 rfl (of_decide_eq_true (by kernel_rfl)) (fun w0 h0 => Go.Proofs.cell_of_shapedOpen_int (P := Tryz.prog) (g := 2) (t := 3) (zero := #[.int .i64 0]) h0 (of_decide_eq_true (by kernel_rfl)) (by kernel_rfl) rfl (by kernel_rfl) (by kernel_rfl) Tryz.underlying3) ⟨_, Tryz.func38, by kernel_rfl, by kernel_rfl⟩

/-- strconv.Itoa -/
def zq29 : Shelf.Ren :=
      { 
      f := fun x =>
        match x with
        | 171 => 47
        | 243 => 63
        | 246 => 78
        | 283 => 92
        | 284 => 93
        | 285 => 94
        | 286 => 95
        | 129 => 111
        | 317 => 110
        | 318 => 112
        | 319 => 113
        | 320 => 114
        | 337 => 123
        | 338 => 124
        | n => n,
      t := fun x =>
        match x with
        | 3 => 3
        | 9 => 9
        | 2 => 2
        | 4 => 4
        | 171 => 123
        | 0 => 0
        | 53 => 74
        | 37 => 92
        | 5 => 5
        | 173 => 126
        | 212 => 144
        | 51 => 88
        | 20 => 20
        | 213 => 145
        | 46 => 98
        | 232 => 162
        | 233 => 163
        | n => n,
      g := fun x =>
        match x with
        | 17 => 5
        | 18 => 8
        | 19 => 9
        | n => n }
theorem zq2a : Go.Proofs.LaysM.n171 Tryz.prog zq29 :=
  { mixed := by kernel_rfl,
    f129 := Eq.trans Tryz.func111 (congrArg some (by kernel_rfl)),
    f171 := Eq.trans Tryz.func47 (congrArg some (by kernel_rfl)),
    f243 := Eq.trans Tryz.func63 (congrArg some (by kernel_rfl)),
    f246 := Eq.trans Tryz.func78 (congrArg some (by kernel_rfl)),
    f283 := Eq.trans Tryz.func92 (congrArg some (by kernel_rfl)),
    f284 := Eq.trans Tryz.func93 (congrArg some (by kernel_rfl)),
    f285 := Eq.trans Tryz.func94 (congrArg some (by kernel_rfl)),
    f286 := Eq.trans Tryz.func95 (congrArg some (by kernel_rfl)),
    f317 := Eq.trans Tryz.func110 (congrArg some (by kernel_rfl)),
    f318 := Eq.trans Tryz.func112 (congrArg some (by kernel_rfl)),
    f319 := Eq.trans Tryz.func113 (congrArg some (by kernel_rfl)),
    f320 := Eq.trans Tryz.func114 (congrArg some (by kernel_rfl)),
    f337 := Eq.trans Tryz.func123 (congrArg some (by kernel_rfl)),
    f338 := Eq.trans Tryz.func124 (congrArg some (by kernel_rfl)),
    t0 := Tryz.underlying0,
    a0 := Tryz.isAgg0,
    z0 := Tryz.sizeOf0,
    v0 := Tryz.zeroValue0,
    t2 := Tryz.underlying2,
    a2 := Tryz.isAgg2,
    z2 := Tryz.sizeOf2,
    v2 := Tryz.zeroValue2,
    t3 := Tryz.underlying3,
    a3 := Tryz.isAgg3,
    z3 := Tryz.sizeOf3,
    v3 := Tryz.zeroValue3,
    t4 := Tryz.underlying4,
    a4 := Tryz.isAgg4,
    z4 := Tryz.sizeOf4,
    v4 := Tryz.zeroValue4,
    t5 := Tryz.underlying5,
    a5 := Tryz.isAgg5,
    z5 := Tryz.sizeOf5,
    v5 := Tryz.zeroValue5,
    t9 := Tryz.underlying9,
    a9 := Tryz.isAgg9,
    z9 := Tryz.sizeOf9,
    v9 := Tryz.zeroValue9,
    t20 := Tryz.underlying20,
    a20 := Tryz.isAgg20,
    z20 := Tryz.sizeOf20,
    v20 := Tryz.zeroValue20,
    t37 := Tryz.underlying92,
    a37 := Tryz.isAgg92,
    z37 := Tryz.sizeOf92,
    v37 := Tryz.zeroValue92,
    t46 := Tryz.underlying98,
    a46 := Tryz.isAgg98,
    z46 := Tryz.sizeOf98,
    v46 := Tryz.zeroValue98,
    t51 := Tryz.underlying88,
    a51 := Tryz.isAgg88,
    z51 := Tryz.sizeOf88,
    v51 := Tryz.zeroValue88,
    t53 := Tryz.underlying74,
    a53 := Tryz.isAgg74,
    z53 := Tryz.sizeOf74,
    v53 := Tryz.zeroValue74,
    t171 := Tryz.underlying123,
    a171 := Tryz.isAgg123,
    z171 := Tryz.sizeOf123,
    v171 := Tryz.zeroValue123,
    t173 := Tryz.underlying126,
    a173 := Tryz.isAgg126,
    z173 := Tryz.sizeOf126,
    v173 := Tryz.zeroValue126,
    t212 := Tryz.underlying144,
    a212 := Tryz.isAgg144,
    z212 := Tryz.sizeOf144,
    v212 := Tryz.zeroValue144,
    t213 := Tryz.underlying145,
    a213 := Tryz.isAgg145,
    z213 := Tryz.sizeOf145,
    t232 := Tryz.underlying162,
    a232 := Tryz.isAgg162,
    z232 := Tryz.sizeOf162,
    v232 := Tryz.zeroValue162,
    t233 := Tryz.underlying163,
    a233 := Tryz.isAgg163,
    z233 := Tryz.sizeOf163,
    v233 := Tryz.zeroValue163,
    g17 := by kernel_rfl,
    g18 := by kernel_rfl,
    g19 := by kernel_rfl,
    i0 := by kernel_rfl,
    i2 := by kernel_rfl,
    i3 := by kernel_rfl,
    i4 := by kernel_rfl,
    i5 := by kernel_rfl,
    i9 := by kernel_rfl,
    i20 := by kernel_rfl,
    i37 := by kernel_rfl,
    i46 := by kernel_rfl,
    i51 := by kernel_rfl,
    i53 := by kernel_rfl,
    i171 := by kernel_rfl,
    i173 := by kernel_rfl,
    i212 := by kernel_rfl,
    i232 := by kernel_rfl,
    i233 := by kernel_rfl,
    m17 := by kernel_rfl,
    m18 := by kernel_rfl,
    m19 := by kernel_rfl }
abbrev zq2b := itoaT
def zq2c (c : zq2b) : Spec := itoaS c
def zq2d : zq2b := fun x k => itoaF x k
theorem zq2e : SpecOk Tryz.prog 47 (zq2c zq2d) :=
  itoa_ok zq2a rfl (g := 5) (by kernel_rfl) ⟨_, Tryz.func47, by kernel_rfl, by kernel_rfl⟩

/-- strings.Split -/
def zq2f : Shelf.Ren :=
      { 
      f := fun x =>
        match x with
        | 146 => 57
        | 221 => 68
        | 268 => 83
        | 138 => 84
        | 143 => 54
        | 195 => 104
        | 197 => 105
        | 218 => 106
        | 219 => 61
        | 260 => 120
        | 217 => 72
        | 225 => 73
        | 224 => 74
        | 267 => 75
        | 266 => 90
        | 314 => 91
        | n => n,
      t := fun x =>
        match x with
        | 9 => 9
        | 31 => 30
        | 3 => 3
        | 4 => 4
        | 0 => 0
        | 105 => 136
        | 21 => 21
        | 5 => 5
        | 46 => 98
        | 119 => 69
        | 139 => 161
        | 138 => 160
        | 146 => 119
        | 51 => 88
        | n => n,
      g := fun x =>
        match x with
        | 1 => 2
        | 3 => 6
        | 4 => 7
        | n => n }
theorem zq2g : Go.Proofs.Lays.n146 Tryz.prog zq2f :=
  { mixed := by kernel_rfl,
    f138 := Eq.trans Tryz.func84 (congrArg some (by kernel_rfl)),
    f143 := Eq.trans Tryz.func54 (congrArg some (by kernel_rfl)),
    f146 := Eq.trans Tryz.func57 (congrArg some (by kernel_rfl)),
    f195 := Eq.trans Tryz.func104 (congrArg some (by kernel_rfl)),
    f197 := Eq.trans Tryz.func105 (congrArg some (by kernel_rfl)),
    f217 := Eq.trans Tryz.func72 (congrArg some (by kernel_rfl)),
    f218 := Eq.trans Tryz.func106 (congrArg some (by kernel_rfl)),
    f219 := Eq.trans Tryz.func61 (congrArg some (by kernel_rfl)),
    f221 := Eq.trans Tryz.func68 (congrArg some (by kernel_rfl)),
    f224 := Eq.trans Tryz.func74 (congrArg some (by kernel_rfl)),
    f225 := Eq.trans Tryz.func73 (congrArg some (by kernel_rfl)),
    f260 := Eq.trans Tryz.func120 (congrArg some (by kernel_rfl)),
    f266 := Eq.trans Tryz.func90 (congrArg some (by kernel_rfl)),
    f267 := Eq.trans Tryz.func75 (congrArg some (by kernel_rfl)),
    f268 := Eq.trans Tryz.func83 (congrArg some (by kernel_rfl)),
    f314 := Eq.trans Tryz.func91 (congrArg some (by kernel_rfl)),
    t0 := Tryz.underlying0,
    a0 := Tryz.isAgg0,
    z0 := Tryz.sizeOf0,
    v0 := Tryz.zeroValue0,
    t3 := Tryz.underlying3,
    a3 := Tryz.isAgg3,
    z3 := Tryz.sizeOf3,
    v3 := Tryz.zeroValue3,
    t4 := Tryz.underlying4,
    a4 := Tryz.isAgg4,
    z4 := Tryz.sizeOf4,
    v4 := Tryz.zeroValue4,
    t5 := Tryz.underlying5,
    a5 := Tryz.isAgg5,
    z5 := Tryz.sizeOf5,
    v5 := Tryz.zeroValue5,
    t9 := Tryz.underlying9,
    a9 := Tryz.isAgg9,
    z9 := Tryz.sizeOf9,
    v9 := Tryz.zeroValue9,
    t21 := Tryz.underlying21,
    a21 := Tryz.isAgg21,
    z21 := Tryz.sizeOf21,
    v21 := Tryz.zeroValue21,
    t31 := Tryz.underlying30,
    a31 := Tryz.isAgg30,
    z31 := Tryz.sizeOf30,
    v31 := Tryz.zeroValue30,
    t46 := Tryz.underlying98,
    a46 := Tryz.isAgg98,
    z46 := Tryz.sizeOf98,
    v46 := Tryz.zeroValue98,
    t51 := Tryz.underlying88,
    a51 := Tryz.isAgg88,
    z51 := Tryz.sizeOf88,
    v51 := Tryz.zeroValue88,
    t105 := Tryz.underlying136,
    a105 := Tryz.isAgg136,
    z105 := Tryz.sizeOf136,
    v105 := Tryz.zeroValue136,
    t119 := Tryz.underlying69,
    a119 := Tryz.isAgg69,
    z119 := Tryz.sizeOf69,
    t138 := Tryz.underlying160,
    a138 := Tryz.isAgg160,
    z138 := Tryz.sizeOf160,
    v138 := Tryz.zeroValue160,
    t139 := Tryz.underlying161,
    a139 := Tryz.isAgg161,
    z139 := Tryz.sizeOf161,
    v139 := Tryz.zeroValue161,
    t146 := Tryz.underlying119,
    a146 := Tryz.isAgg119,
    z146 := Tryz.sizeOf119,
    v146 := Tryz.zeroValue119,
    g1 := by kernel_rfl,
    g3 := by kernel_rfl,
    g4 := by kernel_rfl }
abbrev zq2h := splitT
def zq2i (c : zq2h) : Spec := splitRS 9 c
def zq2j : zq2h := fun x y k => splitF x y k
theorem zq2k : SpecOk Tryz.prog 57 (zq2i zq2j) :=
  splitR_ok zq2g rfl rfl (by kernel_rfl) (of_decide_eq_true (by kernel_rfl)) (fun w0 h0 => Go.Proofs.cell_of_shapedOpen_int (P := Tryz.prog) (g := 2) (t := 3) (zero := #[.int .i64 0]) h0 (of_decide_eq_true (by kernel_rfl)) (by kernel_rfl) rfl (by kernel_rfl) (by kernel_rfl) Tryz.underlying3) ⟨_, Tryz.func57, by kernel_rfl, by kernel_rfl⟩

/-- strconv.Atoi -/
def zq2l : Shelf.Ren :=
      { 
      f := fun x =>
        match x with
        | 172 => 58
        | 244 => 69
        | 245 => 70
        | 247 => 85
        | 279 => 86
        | 280 => 87
        | 281 => 88
        | 282 => 89
        | 287 => 107
        | 316 => 108
        | 171 => 47
        | 205 => 109
        | 321 => 121
        | 322 => 122
        | 243 => 63
        | 246 => 78
        | 283 => 92
        | 284 => 93
        | 285 => 94
        | 286 => 95
        | 129 => 111
        | 317 => 110
        | 318 => 112
        | 319 => 113
        | 320 => 114
        | 337 => 123
        | 338 => 124
        | n => n,
      t := fun x =>
        match x with
        | 9 => 9
        | 3 => 3
        | 75 => 80
        | 76 => 81
        | 4 => 4
        | 5 => 5
        | 167 => 113
        | 37 => 92
        | 0 => 0
        | 85 => 114
        | 2 => 2
        | 168 => 116
        | 53 => 74
        | 175 => 138
        | 46 => 98
        | 210 => 141
        | 127 => 150
        | 145 => 154
        | 143 => 152
        | 21 => 21
        | 171 => 123
        | 173 => 126
        | 212 => 144
        | 51 => 88
        | 20 => 20
        | 213 => 145
        | 232 => 162
        | 233 => 163
        | 80 => 134
        | n => n,
      g := fun x =>
        match x with
        | 15 => 3
        | 16 => 4
        | 17 => 5
        | 18 => 8
        | 19 => 9
        | n => n }
theorem zq2m : Go.Proofs.LaysC.n172 Tryz.prog zq2l :=
  { mixed := by kernel_rfl,
    f129 := Eq.trans Tryz.func111 (congrArg some (by kernel_rfl)),
    f171 := Eq.trans Tryz.func47 (congrArg some (by kernel_rfl)),
    f172 := Eq.trans Tryz.func58 (congrArg some (by kernel_rfl)),
    f205 := Eq.trans Tryz.func109 (congrArg some (by kernel_rfl)),
    f243 := Eq.trans Tryz.func63 (congrArg some (by kernel_rfl)),
    f244 := Eq.trans Tryz.func69 (congrArg some (by kernel_rfl)),
    f245 := Eq.trans Tryz.func70 (congrArg some (by kernel_rfl)),
    f246 := Eq.trans Tryz.func78 (congrArg some (by kernel_rfl)),
    f247 := Eq.trans Tryz.func85 (congrArg some (by kernel_rfl)),
    f279 := Eq.trans Tryz.func86 (congrArg some (by kernel_rfl)),
    f280 := Eq.trans Tryz.func87 (congrArg some (by kernel_rfl)),
    f281 := Eq.trans Tryz.func88 (congrArg some (by kernel_rfl)),
    f282 := Eq.trans Tryz.func89 (congrArg some (by kernel_rfl)),
    f283 := Eq.trans Tryz.func92 (congrArg some (by kernel_rfl)),
    f284 := Eq.trans Tryz.func93 (congrArg some (by kernel_rfl)),
    f285 := Eq.trans Tryz.func94 (congrArg some (by kernel_rfl)),
    f286 := Eq.trans Tryz.func95 (congrArg some (by kernel_rfl)),
    f287 := Eq.trans Tryz.func107 (congrArg some (by kernel_rfl)),
    f316 := Eq.trans Tryz.func108 (congrArg some (by kernel_rfl)),
    f317 := Eq.trans Tryz.func110 (congrArg some (by kernel_rfl)),
    f318 := Eq.trans Tryz.func112 (congrArg some (by kernel_rfl)),
    f319 := Eq.trans Tryz.func113 (congrArg some (by kernel_rfl)),
    f320 := Eq.trans Tryz.func114 (congrArg some (by kernel_rfl)),
    f321 := Eq.trans Tryz.func121 (congrArg some (by kernel_rfl)),
    f322 := Eq.trans Tryz.func122 (congrArg some (by kernel_rfl)),
    f337 := Eq.trans Tryz.func123 (congrArg some (by kernel_rfl)),
    f338 := Eq.trans Tryz.func124 (congrArg some (by kernel_rfl)),
    t0 := Tryz.underlying0,
    a0 := Tryz.isAgg0,
    z0 := Tryz.sizeOf0,
    v0 := Tryz.zeroValue0,
    t2 := Tryz.underlying2,
    a2 := Tryz.isAgg2,
    z2 := Tryz.sizeOf2,
    v2 := Tryz.zeroValue2,
    t3 := Tryz.underlying3,
    a3 := Tryz.isAgg3,
    z3 := Tryz.sizeOf3,
    v3 := Tryz.zeroValue3,
    t4 := Tryz.underlying4,
    a4 := Tryz.isAgg4,
    z4 := Tryz.sizeOf4,
    v4 := Tryz.zeroValue4,
    t5 := Tryz.underlying5,
    a5 := Tryz.isAgg5,
    z5 := Tryz.sizeOf5,
    v5 := Tryz.zeroValue5,
    t9 := Tryz.underlying9,
    a9 := Tryz.isAgg9,
    z9 := Tryz.sizeOf9,
    v9 := Tryz.zeroValue9,
    t20 := Tryz.underlying20,
    a20 := Tryz.isAgg20,
    z20 := Tryz.sizeOf20,
    v20 := Tryz.zeroValue20,
    t21 := Tryz.underlying21,
    a21 := Tryz.isAgg21,
    z21 := Tryz.sizeOf21,
    v21 := Tryz.zeroValue21,
    t37 := Tryz.underlying92,
    a37 := Tryz.isAgg92,
    z37 := Tryz.sizeOf92,
    v37 := Tryz.zeroValue92,
    t46 := Tryz.underlying98,
    a46 := Tryz.isAgg98,
    z46 := Tryz.sizeOf98,
    v46 := Tryz.zeroValue98,
    t51 := Tryz.underlying88,
    a51 := Tryz.isAgg88,
    z51 := Tryz.sizeOf88,
    v51 := Tryz.zeroValue88,
    t53 := Tryz.underlying74,
    a53 := Tryz.isAgg74,
    z53 := Tryz.sizeOf74,
    v53 := Tryz.zeroValue74,
    t75 := Tryz.underlying80,
    a75 := Tryz.isAgg80,
    z75 := Tryz.sizeOf80,
    v75 := Tryz.zeroValue80,
    t76 := Tryz.underlying81,
    a76 := Tryz.isAgg81,
    z76 := Tryz.sizeOf81,
    v76 := Tryz.zeroValue81,
    t85 := Tryz.underlying114,
    a85 := Tryz.isAgg114,
    z85 := Tryz.sizeOf114,
    v85 := Tryz.zeroValue114,
    t127 := Tryz.underlying150,
    a127 := Tryz.isAgg150,
    z127 := Tryz.sizeOf150,
    v127 := Tryz.zeroValue150,
    t143 := Tryz.underlying152,
    a143 := Tryz.isAgg152,
    z143 := Tryz.sizeOf152,
    v143 := Tryz.zeroValue152,
    t145 := Tryz.underlying154,
    a145 := Tryz.isAgg154,
    z145 := Tryz.sizeOf154,
    v145 := Tryz.zeroValue154,
    t167 := Tryz.underlying113,
    a167 := Tryz.isAgg113,
    z167 := Tryz.sizeOf113,
    v167 := Tryz.zeroValue113,
    t168 := Tryz.underlying116,
    a168 := Tryz.isAgg116,
    z168 := Tryz.sizeOf116,
    v168 := Tryz.zeroValue116,
    t171 := Tryz.underlying123,
    a171 := Tryz.isAgg123,
    z171 := Tryz.sizeOf123,
    v171 := Tryz.zeroValue123,
    t173 := Tryz.underlying126,
    a173 := Tryz.isAgg126,
    z173 := Tryz.sizeOf126,
    v173 := Tryz.zeroValue126,
    t175 := Tryz.underlying138,
    a175 := Tryz.isAgg138,
    z175 := Tryz.sizeOf138,
    v175 := Tryz.zeroValue138,
    t210 := Tryz.underlying141,
    a210 := Tryz.isAgg141,
    z210 := Tryz.sizeOf141,
    v210 := Tryz.zeroValue141,
    t212 := Tryz.underlying144,
    a212 := Tryz.isAgg144,
    z212 := Tryz.sizeOf144,
    v212 := Tryz.zeroValue144,
    t213 := Tryz.underlying145,
    a213 := Tryz.isAgg145,
    z213 := Tryz.sizeOf145,
    t232 := Tryz.underlying162,
    a232 := Tryz.isAgg162,
    z232 := Tryz.sizeOf162,
    v232 := Tryz.zeroValue162,
    t233 := Tryz.underlying163,
    a233 := Tryz.isAgg163,
    z233 := Tryz.sizeOf163,
    v233 := Tryz.zeroValue163,
    g15 := by kernel_rfl,
    g16 := by kernel_rfl,
    g17 := by kernel_rfl,
    g18 := by kernel_rfl,
    g19 := by kernel_rfl,
    t80 := Tryz.underlying134,
    a80 := Tryz.isAgg134,
    z80 := Tryz.sizeOf134,
    v80 := Tryz.zeroValue134,
    i0 := by kernel_rfl,
    i2 := by kernel_rfl,
    i3 := by kernel_rfl,
    i4 := by kernel_rfl,
    i5 := by kernel_rfl,
    i9 := by kernel_rfl,
    i20 := by kernel_rfl,
    i21 := by kernel_rfl,
    i37 := by kernel_rfl,
    i46 := by kernel_rfl,
    i51 := by kernel_rfl,
    i53 := by kernel_rfl,
    i75 := by kernel_rfl,
    i76 := by kernel_rfl,
    i80 := by kernel_rfl,
    i85 := by kernel_rfl,
    i127 := by kernel_rfl,
    i143 := by kernel_rfl,
    i145 := by kernel_rfl,
    i167 := by kernel_rfl,
    i168 := by kernel_rfl,
    i171 := by kernel_rfl,
    i173 := by kernel_rfl,
    i175 := by kernel_rfl,
    i210 := by kernel_rfl,
    i212 := by kernel_rfl,
    i232 := by kernel_rfl,
    i233 := by kernel_rfl,
    m15 := by kernel_rfl,
    m16 := by kernel_rfl,
    m17 := by kernel_rfl,
    m18 := by kernel_rfl,
    m19 := by kernel_rfl,
    c0 := by kernel_rfl,
    c2 := by kernel_rfl,
    c3 := by kernel_rfl,
    c4 := by kernel_rfl,
    c5 := by kernel_rfl,
    c9 := by kernel_rfl,
    c20 := by kernel_rfl,
    c21 := by kernel_rfl,
    c37 := by kernel_rfl,
    c46 := by kernel_rfl,
    c51 := by kernel_rfl,
    c53 := by kernel_rfl,
    c75 := by kernel_rfl,
    c76 := by kernel_rfl,
    c80 := by kernel_rfl,
    c85 := by kernel_rfl,
    c127 := by kernel_rfl,
    c143 := by kernel_rfl,
    c145 := by kernel_rfl,
    c167 := by kernel_rfl,
    c168 := by kernel_rfl,
    c171 := by kernel_rfl,
    c173 := by kernel_rfl,
    c175 := by kernel_rfl,
    c210 := by kernel_rfl,
    c212 := by kernel_rfl,
    c213 := by kernel_rfl,
    c232 := by kernel_rfl,
    c233 := by kernel_rfl }
abbrev zq2n := atoiT
def zq2o (c : zq2n) : Spec := atoiS c
def zq2p : zq2n := fun x k => atoiF x k
theorem zq2q : SpecOk Tryz.prog 58 (zq2o zq2p) :=
  atoi_ok zq2m rfl (by kernel_rfl) (by kernel_rfl) ⟨_, Tryz.func58, by kernel_rfl, by kernel_rfl⟩

/-- strings.Repeat -/
def zq2r : Shelf.Ren :=
      { 
      f := fun x =>
        match x with
        | 105 => 79
        | 212 => 96
        | 99 => 97
        | 165 => 98
        | 166 => 99
        | 170 => 100
        | 169 => 101
        | 263 => 115
        | 264 => 116
        | 206 => 117
        | 240 => 118
        | 241 => 119
        | 276 => 125
        | 277 => 126
        | n => n,
      t := fun x =>
        match x with
        | 9 => 9
        | 3 => 3
        | 4 => 4
        | 20 => 20
        | 0 => 0
        | 46 => 98
        | 109 => 128
        | 5 => 5
        | 72 => 132
        | 76 => 81
        | 51 => 88
        | 146 => 119
        | 53 => 74
        | 148 => 148
        | 70 => 130
        | 37 => 92
        | 75 => 80
        | 127 => 150
        | 164 => 156
        | 80 => 134
        | n => n,
      g := fun x => x }
theorem zq2s : Go.Proofs.Lays.n105 Tryz.prog zq2r :=
  { mixed := by kernel_rfl,
    f99 := Eq.trans Tryz.func97 (congrArg some (by kernel_rfl)),
    f105 := Eq.trans Tryz.func79 (congrArg some (by kernel_rfl)),
    f165 := Eq.trans Tryz.func98 (congrArg some (by kernel_rfl)),
    f166 := Eq.trans Tryz.func99 (congrArg some (by kernel_rfl)),
    f169 := Eq.trans Tryz.func101 (congrArg some (by kernel_rfl)),
    f170 := Eq.trans Tryz.func100 (congrArg some (by kernel_rfl)),
    f206 := Eq.trans Tryz.func117 (congrArg some (by kernel_rfl)),
    f212 := Eq.trans Tryz.func96 (congrArg some (by kernel_rfl)),
    f240 := Eq.trans Tryz.func118 (congrArg some (by kernel_rfl)),
    f241 := Eq.trans Tryz.func119 (congrArg some (by kernel_rfl)),
    f263 := Eq.trans Tryz.func115 (congrArg some (by kernel_rfl)),
    f264 := Eq.trans Tryz.func116 (congrArg some (by kernel_rfl)),
    f276 := Eq.trans Tryz.func125 (congrArg some (by kernel_rfl)),
    f277 := Eq.trans Tryz.func126 (congrArg some (by kernel_rfl)),
    t0 := Tryz.underlying0,
    a0 := Tryz.isAgg0,
    z0 := Tryz.sizeOf0,
    v0 := Tryz.zeroValue0,
    t3 := Tryz.underlying3,
    a3 := Tryz.isAgg3,
    z3 := Tryz.sizeOf3,
    v3 := Tryz.zeroValue3,
    t4 := Tryz.underlying4,
    a4 := Tryz.isAgg4,
    z4 := Tryz.sizeOf4,
    v4 := Tryz.zeroValue4,
    t5 := Tryz.underlying5,
    a5 := Tryz.isAgg5,
    z5 := Tryz.sizeOf5,
    v5 := Tryz.zeroValue5,
    t9 := Tryz.underlying9,
    a9 := Tryz.isAgg9,
    z9 := Tryz.sizeOf9,
    v9 := Tryz.zeroValue9,
    t20 := Tryz.underlying20,
    a20 := Tryz.isAgg20,
    z20 := Tryz.sizeOf20,
    v20 := Tryz.zeroValue20,
    t37 := Tryz.underlying92,
    a37 := Tryz.isAgg92,
    z37 := Tryz.sizeOf92,
    v37 := Tryz.zeroValue92,
    t46 := Tryz.underlying98,
    a46 := Tryz.isAgg98,
    z46 := Tryz.sizeOf98,
    v46 := Tryz.zeroValue98,
    t51 := Tryz.underlying88,
    a51 := Tryz.isAgg88,
    z51 := Tryz.sizeOf88,
    v51 := Tryz.zeroValue88,
    t53 := Tryz.underlying74,
    a53 := Tryz.isAgg74,
    z53 := Tryz.sizeOf74,
    v53 := Tryz.zeroValue74,
    t70 := Tryz.underlying130,
    a70 := Tryz.isAgg130,
    z70 := Tryz.sizeOf130,
    v70 := Tryz.zeroValue130,
    t72 := Tryz.underlying132,
    a72 := Tryz.isAgg132,
    z72 := Tryz.sizeOf132,
    v72 := Tryz.zeroValue132,
    t75 := Tryz.underlying80,
    a75 := Tryz.isAgg80,
    z75 := Tryz.sizeOf80,
    v75 := Tryz.zeroValue80,
    t76 := Tryz.underlying81,
    a76 := Tryz.isAgg81,
    z76 := Tryz.sizeOf81,
    v76 := Tryz.zeroValue81,
    t109 := Tryz.underlying128,
    a109 := Tryz.isAgg128,
    z109 := Tryz.sizeOf128,
    v109 := Tryz.zeroValue128,
    t127 := Tryz.underlying150,
    a127 := Tryz.isAgg150,
    z127 := Tryz.sizeOf150,
    v127 := Tryz.zeroValue150,
    t146 := Tryz.underlying119,
    a146 := Tryz.isAgg119,
    z146 := Tryz.sizeOf119,
    v146 := Tryz.zeroValue119,
    t148 := Tryz.underlying148,
    a148 := Tryz.isAgg148,
    z148 := Tryz.sizeOf148,
    v148 := Tryz.zeroValue148,
    t164 := Tryz.underlying156,
    a164 := Tryz.isAgg156,
    z164 := Tryz.sizeOf156,
    v164 := Tryz.zeroValue156 }
abbrev zq2t := repeatT
def zq2u (c : zq2t) : Spec := repeatS c
def zq2v : zq2t := fun x y k => repeatF x y k
theorem zq2w : SpecOk Tryz.prog 79 (zq2u zq2v) :=
  repeat_ok zq2s { sizeBuilder := by kernel_rfl, liesBuilder := by kernel_rfl, t5 := Tryz.underlying5, a5 := Tryz.isAgg5, z5 := Tryz.sizeOf5, v5 := Tryz.zeroValue5, infoByte := by kernel_rfl, cellsByte := by kernel_rfl, sizeByte := by kernel_rfl, neB5 := by decide } rfl ⟨_, Tryz.func79, by kernel_rfl, by kernel_rfl⟩

/-- pagewatch/civil.floor -/
abbrev zq2x := {β : Type} → Int → Int → (Int → Option β) → Option β
def zq2y (c : zq2x) : Spec :=
  ⟨[(false, [.data (.int .i64)]), (false, [.data (.int .i64)])], [], [(false, [.data (.int .i64)])], [], fun x k => c x.1.1.1 x.1.2.1.1 (fun r0 => k (((r0, ()), ()), ()))⟩
section
@[reducible] def civil_floor_X : Ctx := ⟨look tab, pick1 [], false, false, false, false⟩
def zq2z {β : Type} (a : Int) (b : Int) (k : (Int → Option β)) : Option β :=
  cond (!decide (b = 0))
  (let q : Int := (IntKind.i64.wrap (Int.tdiv a b));
  cond (!decide (b = 0))
  (cond (decide ((Int.tmod a b) < (0 : Int)))
  (let q2 : Int := (IntKind.i64.wrap (q - (1 : Int)));
  k q2)
  (k q))
  none)
  none
theorem zq30 (hΓ : ΓOk Tryz.prog civil_floor_X.Γ) : SpecOk Tryz.prog 102 (zq2y (zq2z)) :=
  spec_exec (X := civil_floor_X) (Λ := pick1 []) (rs := [.tmp 4]) (c := bodyOf Tryz.f102) mixed tab_ok hΓ Tryz.func102 (by kernel_rfl) (by kernel_rfl) (by kernel_rfl) (by kernel_rfl) CutsOk_nil (fun x k r h => Eq.trans (b := (zq2y (zq2z)).run x k) (by kernel_rfl) h)
end
theorem zq31Γ : ΓOk Tryz.prog (pick1 []) := ΓOk_nil
def zq32 : zq2x := zq2z
theorem zq33 : SpecOk Tryz.prog 102 (zq2y zq32) := zq30 zq31Γ

/-- pagewatch/civil.Leap -/
abbrev zq34 := {β : Type} → Int → (Bool → Option β) → Option β
def zq35 (c : zq34) : Spec :=
  ⟨[(false, [.data (.int .i64)])], [], [(false, [.data .bool])], [], fun x k => c x.1.1.1 (fun r0 => k (((r0, ()), ()), ()))⟩
section
@[reducible] def civil_Leap_X : Ctx := ⟨look tab, pick1 [], false, false, false, false⟩
def zq36 {β : Type} (year : Int) (k : (Bool → Option β)) : Option β :=
  cond (!decide ((4 : Int) = 0))
  (cond (decide ((Int.tmod year (4 : Int)) = (0 : Int)))
  (cond (!decide ((100 : Int) = 0))
  (cond (!decide ((Int.tmod year (100 : Int)) = (0 : Int)))
  (k true)
  (cond (!decide ((400 : Int) = 0))
  (let t : Bool := (decide ((Int.tmod year (400 : Int)) = (0 : Int)));
  k t)
  none))
  none)
  (k false))
  none
theorem zq37 (hΓ : ΓOk Tryz.prog civil_Leap_X.Γ) : SpecOk Tryz.prog 103 (zq35 (zq36)) :=
  spec_exec (X := civil_Leap_X) (Λ := pick1 []) (rs := [.tmp 2]) (c := bodyOf Tryz.f103) mixed tab_ok hΓ Tryz.func103 (by kernel_rfl) (by kernel_rfl) (by kernel_rfl) (by kernel_rfl) CutsOk_nil (fun x k r h => Eq.trans (b := (zq35 (zq36)).run x k) (by kernel_rfl) h)
end
theorem zq38Γ : ΓOk Tryz.prog (pick1 []) := ΓOk_nil
def zq39 : zq34 := zq36
theorem zq3a : SpecOk Tryz.prog 103 (zq35 zq39) := zq37 zq38Γ

/-- pagewatch/lexer.Name -/
abbrev zq3b := {β : Type} → (List UInt8) → (Bool → Option β) → Option β
def zq3c (c : zq3b) : Spec :=
  ⟨[(false, [.data .str])], [], [(false, [.data .bool])], [], fun x k => c x.1.1.1 (fun r0 => k (((r0, ()), ()), ()))⟩
noncomputable def lexer_Name_p1_code : Code := codeAt 58 (bodyOf Tryz.f16)
abbrev zq3d (β : Type) := Bool → Option β
abbrev zq3e (β : Type) := Unit → Option β
abbrev zq3f := {β : Type} → zq3d β → zq3e β → (List UInt8) → Int → Int → Option β
def zq3g : View := ⟨0, [0, 19, 20], [(false, [.data .str]), (false, [.data (.int .i64)]), (false, [.data (.int .i64)])], []⟩
def zq3h : List (AExit × View) := [(.ret, ⟨0, [2], [(false, [.data .bool])], []⟩), (.exit 0, ⟨0, [], [], []⟩)]
@[reducible] def lexer_Name_p1_G (p : zq3f) {β : Type} (d : zq3g.den) (ks : Outs.K β zq3h) : Option β :=
  p (fun a0 => ks.1 (((a0, ()), ()), ())) (fun _ => ks.2.1 ((), ())) d.1.1.1 d.1.2.1.1 d.1.2.2.1.1
section
variable (c_lexer_digit : zq1w) (c_lexer_small : zq1p)
@[reducible] def lexer_Name_X : Ctx := ⟨look tab, pick1 [(30, .spec (zq1x c_lexer_digit)), (29, .spec (zq1q c_lexer_small))], false, false, false, false⟩
def zq3i {β : Type} (rec : (List UInt8) → Int → Int → Option β) (k1 : zq3d β) (k2 : zq3e β) (s : List UInt8) (t19 : Int) (t20 : Int) : Option β :=
  cond (decide (t20 < t19))
  (cond (decide (0 ≤ t20) && decide (t20 < (List.length s : Int)))
  (let c : Int := ((List.getD s (Int.toNat t20) 0).toNat : Int);
  c_lexer_small c (fun (rsmall : Bool) =>
  cond (!rsmall)
  (c_lexer_digit c (fun (rdigit : Bool) =>
  cond (!rdigit)
  (cond (!decide (c = (95 : Int)))
  (cond (!decide (c = (45 : Int)))
  (k1 false)
  (rec s t19 (IntKind.i64.wrap (t20 + (1 : Int)))))
  (rec s t19 (IntKind.i64.wrap (t20 + (1 : Int)))))
  (rec s t19 (IntKind.i64.wrap (t20 + (1 : Int))))))
  (rec s t19 (IntKind.i64.wrap (t20 + (1 : Int))))))
  none)
  (k2 ())
def zq3j {β : Type} : Nat → zq3d β → zq3e β → (List UInt8) → Int → Int → Option β
  | 0 => fun _ _ _ _ _ => none
  | i + 1 => fun k1 k2 s t19 t20 => zq3i c_lexer_digit c_lexer_small (zq3j i k1 k2) k1 k2 s t19 t20
theorem zq3k (hΓ : ΓOk Tryz.prog (lexer_Name_X c_lexer_digit c_lexer_small).Γ) (i : Nat) : PieceOk Tryz.prog 43 0 lexer_Name_p1_code zq3g zq3h (lexer_Name_p1_G (zq3j c_lexer_digit c_lexer_small i)) := by
  rw [show lexer_Name_p1_code = .loop (loopBody lexer_Name_p1_code) by kernel_rfl]
  exact piece_loop (X := (lexer_Name_X c_lexer_digit c_lexer_small)) (p := 1) (Λ := pick1 []) (G := fun i => @fun β d ks => lexer_Name_p1_G (zq3j c_lexer_digit c_lexer_small i) d ks) mixed tab_ok hΓ rfl (by kernel_rfl) CutsOk_nil (fun _ _ => rfl) (fun i => @fun β d ks r h => Eq.trans (b := lexer_Name_p1_G (zq3j c_lexer_digit c_lexer_small (i + 1)) d ks) (by kernel_rfl) h) i
def zq3l (p1 : zq3f) {β : Type} (s : List UInt8) (k : (Bool → Option β)) : Option β :=
  cond (decide (s = ([] : List UInt8)))
  (k false)
  (cond (decide ((24 : Int) < (List.length s : Int)))
  (k false)
  (cond (decide (0 ≤ (0 : Int)) && decide ((0 : Int) < (List.length s : Int)))
  (c_lexer_small ((List.getD s (Int.toNat (0 : Int)) 0).toNat : Int) (fun (rsmall : Bool) =>
  cond (!rsmall)
  (k false)
  (p1 (fun (t2 : Bool) =>
  k t2) (fun (_ : Unit) =>
  k true) s (List.length s : Int) (0 : Int))))
  none))
theorem zq3m (hΓ : ΓOk Tryz.prog (lexer_Name_X c_lexer_digit c_lexer_small).Γ) (p1 : zq3f) (hp1 : PieceOk Tryz.prog 43 0 lexer_Name_p1_code zq3g zq3h (lexer_Name_p1_G p1)) : SpecOk Tryz.prog 16 (zq3c (zq3l c_lexer_small p1)) :=
  spec_exec (X := (lexer_Name_X c_lexer_digit c_lexer_small)) (Λ := pick1 [(58, pieceCut zq3g zq3h (lexer_Name_p1_G p1))]) (rs := [.tmp 2]) (c := bodyOf Tryz.f16) mixed tab_ok hΓ Tryz.func16 (by kernel_rfl) (by kernel_rfl) (by kernel_rfl) (by kernel_rfl) (CutsOk_cons (q := 58) (c' := lexer_Name_p1_code) (by kernel_rfl) rfl hp1 CutsOk_nil) (fun x k r h => Eq.trans (b := (zq3c (zq3l c_lexer_small p1)).run x k) (by kernel_rfl) h)
end
theorem zq3nΓ : ΓOk Tryz.prog (pick1 [(30, .spec (zq1x zq21)), (29, .spec (zq1q zq1u))]) := (ΓOk_cons zq22 (ΓOk_cons zq1v ΓOk_nil))
def zq3o (m : Nat) : zq3f := zq3j zq21 zq1u m
theorem zq3p {β : Type} (i : Nat) (k1 k2 s t19 t20) : (zq3o (i + 1) k1 k2 s t19 t20 : Option β) = zq3i zq21 zq1u (zq3o i k1 k2) k1 k2 s t19 t20 := rfl
def zq3q : zq3f := zq3o fuel
theorem zq3r : PieceOk Tryz.prog 43 0 lexer_Name_p1_code zq3g zq3h (lexer_Name_p1_G zq3q) := zq3k zq21 zq1u zq3nΓ fuel
def zq3s : zq3b := zq3l zq1u zq3q
theorem zq3t : SpecOk Tryz.prog 16 (zq3c zq3s) := zq3m zq21 zq1u zq3nΓ zq3q zq3r

/-- pagewatch/lexer.number -/
abbrev zq3u := {β : Type} → (List UInt8) → (Int → Bool → Option β) → Option β
def zq3v (c : zq3u) : Spec :=
  ⟨[(false, [.data .str])], [], [(false, [.data (.int .i64)]), (false, [.data .bool])], [], fun x k => c x.1.1.1 (fun r0 r1 => k (((r0, ()), (r1, ()), ()), ()))⟩
noncomputable def lexer_number_p1_code : Code := codeAt 26 (bodyOf Tryz.f42)
abbrev zq3w (β : Type) := Int → Bool → Option β
abbrev zq3x (β : Type) := (List UInt8) → Option β
abbrev zq3y := {β : Type} → zq3w β → zq3x β → (List UInt8) → Int → Int → Option β
def zq3z : View := ⟨0, [0, 8, 9], [(false, [.data .str]), (false, [.data (.int .i64)]), (false, [.data (.int .i64)])], []⟩
def zq40 : List (AExit × View) := [(.ret, ⟨0, [2, 3], [(false, [.data (.int .i64)]), (false, [.data .bool])], []⟩), (.exit 0, ⟨0, [0], [(false, [.data .str])], []⟩)]
@[reducible] def lexer_number_p1_G (p : zq3y) {β : Type} (d : zq3z.den) (ks : Outs.K β zq40) : Option β :=
  p (fun a0 a1 => ks.1 (((a0, ()), (a1, ()), ()), ())) (fun a0 => ks.2.1 (((a0, ()), ()), ())) d.1.1.1 d.1.2.1.1 d.1.2.2.1.1
section
variable (c_lexer_digit : zq1w) (c_strconv_Atoi : zq2n)
@[reducible] def lexer_number_X : Ctx := ⟨look tab, pick1 [(30, .spec (zq1x c_lexer_digit)), (58, .spec (zq2o c_strconv_Atoi))], false, false, false, false⟩
def zq41 {β : Type} (rec : (List UInt8) → Int → Int → Option β) (k1 : zq3w β) (k2 : zq3x β) (s : List UInt8) (t8 : Int) (t9 : Int) : Option β :=
  cond (decide (t9 < t8))
  (cond (decide (0 ≤ t9) && decide (t9 < (List.length s : Int)))
  (c_lexer_digit ((List.getD s (Int.toNat t9) 0).toNat : Int) (fun (rdigit : Bool) =>
  cond (!rdigit)
  (k1 (0 : Int) false)
  (rec s t8 (IntKind.i64.wrap (t9 + (1 : Int))))))
  none)
  (k2 s)
def zq42 {β : Type} : Nat → zq3w β → zq3x β → (List UInt8) → Int → Int → Option β
  | 0 => fun _ _ _ _ _ => none
  | i + 1 => fun k1 k2 s t8 t9 => zq41 c_lexer_digit (zq42 i k1 k2) k1 k2 s t8 t9
theorem zq43 (hΓ : ΓOk Tryz.prog (lexer_number_X c_lexer_digit c_strconv_Atoi).Γ) (i : Nat) : PieceOk Tryz.prog 31 0 lexer_number_p1_code zq3z zq40 (lexer_number_p1_G (zq42 c_lexer_digit i)) := by
  rw [show lexer_number_p1_code = .loop (loopBody lexer_number_p1_code) by kernel_rfl]
  exact piece_loop (X := (lexer_number_X c_lexer_digit c_strconv_Atoi)) (p := 1) (Λ := pick1 []) (G := fun i => @fun β d ks => lexer_number_p1_G (zq42 c_lexer_digit i) d ks) mixed tab_ok hΓ rfl (by kernel_rfl) CutsOk_nil (fun _ _ => rfl) (fun i => @fun β d ks r h => Eq.trans (b := lexer_number_p1_G (zq42 c_lexer_digit (i + 1)) d ks) (by kernel_rfl) h) i
def zq44 (p1 : zq3y) {β : Type} (s : List UInt8) (k : (Int → Bool → Option β)) : Option β :=
  p1 (fun (t2 : Int) (t3 : Bool) =>
  k t2 t3) (fun (s2 : List UInt8) =>
  c_strconv_Atoi s2 (fun (rAtoi : Int) (rAtoi2 : Bool) =>
  cond rAtoi2
  (let t : Bool := (decide ((List.length s2 : Int) ≤ (9 : Int)));
  k rAtoi t)
  (k rAtoi false))) s (List.length s : Int) (0 : Int)
theorem zq45 (hΓ : ΓOk Tryz.prog (lexer_number_X c_lexer_digit c_strconv_Atoi).Γ) (p1 : zq3y) (hp1 : PieceOk Tryz.prog 31 0 lexer_number_p1_code zq3z zq40 (lexer_number_p1_G p1)) : SpecOk Tryz.prog 42 (zq3v (zq44 c_strconv_Atoi p1)) :=
  spec_exec (X := (lexer_number_X c_lexer_digit c_strconv_Atoi)) (Λ := pick1 [(26, pieceCut zq3z zq40 (lexer_number_p1_G p1))]) (rs := [.tmp 2, .tmp 3]) (c := bodyOf Tryz.f42) mixed tab_ok hΓ Tryz.func42 (by kernel_rfl) (by kernel_rfl) (by kernel_rfl) (by kernel_rfl) (CutsOk_cons (q := 26) (c' := lexer_number_p1_code) (by kernel_rfl) rfl hp1 CutsOk_nil) (fun x k r h => Eq.trans (b := (zq3v (zq44 c_strconv_Atoi p1)).run x k) (by kernel_rfl) h)
end
theorem zq46Γ : ΓOk Tryz.prog (pick1 [(30, .spec (zq1x zq21)), (58, .spec (zq2o zq2p))]) := (ΓOk_cons zq22 (ΓOk_cons zq2q ΓOk_nil))
def zq47 (m : Nat) : zq3y := zq42 zq21 m
theorem zq48 {β : Type} (i : Nat) (k1 k2 s t8 t9) : (zq47 (i + 1) k1 k2 s t8 t9 : Option β) = zq41 zq21 (zq47 i k1 k2) k1 k2 s t8 t9 := rfl
def zq49 : zq3y := zq47 fuel
theorem zq4a : PieceOk Tryz.prog 31 0 lexer_number_p1_code zq3z zq40 (lexer_number_p1_G zq49) := zq43 zq21 zq2p zq46Γ fuel
def zq4b : zq3u := zq44 zq2p zq49
theorem zq4c : SpecOk Tryz.prog 42 (zq3v zq4b) := zq45 zq21 zq2p zq46Γ zq49 zq4a

/-- pagewatch/lexer.two -/
abbrev zq4d := {β : Type} → (List UInt8) → (Int → Bool → Option β) → Option β
def zq4e (c : zq4d) : Spec :=
  ⟨[(false, [.data .str])], [], [(false, [.data (.int .i64)]), (false, [.data .bool])], [], fun x k => c x.1.1.1 (fun r0 r1 => k (((r0, ()), (r1, ()), ()), ()))⟩
section
variable (c_lexer_number : zq3u)
@[reducible] def lexer_two_X : Ctx := ⟨look tab, pick1 [(42, .spec (zq3v c_lexer_number))], false, false, false, false⟩
def zq4f {β : Type} (s : List UInt8) (k : (Int → Bool → Option β)) : Option β :=
  c_lexer_number s (fun (rnumber : Int) (rnumber2 : Bool) =>
  cond rnumber2
  (let t : Bool := (decide ((List.length s : Int) = (2 : Int)));
  k rnumber t)
  (k rnumber false))
theorem zq4g (hΓ : ΓOk Tryz.prog (lexer_two_X c_lexer_number).Γ) : SpecOk Tryz.prog 55 (zq4e (zq4f c_lexer_number)) :=
  spec_exec (X := (lexer_two_X c_lexer_number)) (Λ := pick1 []) (rs := [.tmp 2, .tmp 3]) (c := bodyOf Tryz.f55) mixed tab_ok hΓ Tryz.func55 (by kernel_rfl) (by kernel_rfl) (by kernel_rfl) (by kernel_rfl) CutsOk_nil (fun x k r h => Eq.trans (b := (zq4e (zq4f c_lexer_number)).run x k) (by kernel_rfl) h)
end
theorem zq4hΓ : ΓOk Tryz.prog (pick1 [(42, .spec (zq3v zq4b))]) := (ΓOk_cons zq4c ΓOk_nil)
def zq4i : zq4d := zq4f zq4b
theorem zq4j : SpecOk Tryz.prog 55 (zq4e zq4i) := zq4g zq4b zq4hΓ

/-- pagewatch/lexer.digits -/
abbrev zq4k := {β : Type} → Int → Int → ((List UInt8) → Option β) → Option β
def zq4l (c : zq4k) : Spec :=
  ⟨[(false, [.data (.int .i64)]), (false, [.data (.int .i64)])], [], [(false, [.data .str])], [], fun x k => c x.1.1.1 x.1.2.1.1 (fun r0 => k (((r0, ()), ()), ()))⟩
section
variable (c_strconv_Itoa : zq2b) (c_strings_Repeat : zq2t)
@[reducible] def lexer_digits_X : Ctx := ⟨look tab, pick1 [(47, .spec (zq2c c_strconv_Itoa)), (79, .spec (zq2u c_strings_Repeat))], false, false, false, false⟩
def zq4m {β : Type} (x : Int) (n : Int) (k : ((List UInt8) → Option β)) : Option β :=
  c_strconv_Itoa x (fun (rItoa : List UInt8) =>
  c_strings_Repeat ([48] : List UInt8) (if (IntKind.i64.wrap (n - (List.length rItoa : Int))) > (0 : Int) then (IntKind.i64.wrap (n - (List.length rItoa : Int))) else (0 : Int)) (fun (rRepeat : List UInt8) =>
  cond (decide (List.length rRepeat + List.length rItoa ≤ 9223372036854775807))
  (k (rRepeat ++ rItoa))
  none))
theorem zq4n (hΓ : ΓOk Tryz.prog (lexer_digits_X c_strconv_Itoa c_strings_Repeat).Γ) : SpecOk Tryz.prog 64 (zq4l (zq4m c_strconv_Itoa c_strings_Repeat)) :=
  spec_exec (X := (lexer_digits_X c_strconv_Itoa c_strings_Repeat)) (Λ := pick1 []) (rs := [.tmp 4]) (c := bodyOf Tryz.f64) mixed tab_ok hΓ Tryz.func64 (by kernel_rfl) (by kernel_rfl) (by kernel_rfl) (by kernel_rfl) CutsOk_nil (fun x k r h => Eq.trans (b := (zq4l (zq4m c_strconv_Itoa c_strings_Repeat)).run x k) (by kernel_rfl) h)
end
theorem zq4oΓ : ΓOk Tryz.prog (pick1 [(47, .spec (zq2c zq2d)), (79, .spec (zq2u zq2v))]) := (ΓOk_cons zq2e (ΓOk_cons zq2w ΓOk_nil))
def zq4p : zq4k := zq4m zq2d zq2v
theorem zq4q : SpecOk Tryz.prog 64 (zq4l zq4p) := zq4n zq2d zq2v zq4oΓ

/-- pagewatch/civil.count -/
abbrev zq4r := {β : Type} → Int → (Int → Option β) → Option β
def zq4s (c : zq4r) : Spec :=
  ⟨[(false, [.data (.int .i64)])], [], [(false, [.data (.int .i64)])], [], fun x k => c x.1.1.1 (fun r0 => k (((r0, ()), ()), ()))⟩
section
variable (c_civil_floor : zq2x)
@[reducible] def civil_count_X : Ctx := ⟨look tab, pick1 [(102, .spec (zq2y c_civil_floor))], false, false, false, false⟩
def zq4t {β : Type} (year : Int) (k : (Int → Option β)) : Option β :=
  let y : Int := (IntKind.i64.wrap (year - (1 : Int)));
  c_civil_floor y (4 : Int) (fun (rfloor : Int) =>
  c_civil_floor y (100 : Int) (fun (rfloor2 : Int) =>
  c_civil_floor y (400 : Int) (fun (rfloor3 : Int) =>
  let t : Int := (IntKind.i64.wrap ((IntKind.i64.wrap ((IntKind.i64.wrap ((IntKind.i64.wrap ((IntKind.i64.wrap ((365 : Int) * (IntKind.i64.wrap (year - (1970 : Int))))) + rfloor)) - rfloor2)) + rfloor3)) - (477 : Int)));
  k t)))
theorem zq4u (hΓ : ΓOk Tryz.prog (civil_count_X c_civil_floor).Γ) : SpecOk Tryz.prog 80 (zq4s (zq4t c_civil_floor)) :=
  spec_exec (X := (civil_count_X c_civil_floor)) (Λ := pick1 []) (rs := [.tmp 2]) (c := bodyOf Tryz.f80) mixed tab_ok hΓ Tryz.func80 (by kernel_rfl) (by kernel_rfl) (by kernel_rfl) (by kernel_rfl) CutsOk_nil (fun x k r h => Eq.trans (b := (zq4s (zq4t c_civil_floor)).run x k) (by kernel_rfl) h)
end
theorem zq4vΓ : ΓOk Tryz.prog (pick1 [(102, .spec (zq2y zq32))]) := (ΓOk_cons zq33 ΓOk_nil)
def zq4w : zq4r := zq4t zq32
theorem zq4x : SpecOk Tryz.prog 80 (zq4s zq4w) := zq4u zq32 zq4vΓ

/-- pagewatch/civil.year -/
abbrev zq4y := {β : Type} → Int → (Int → Option β) → Option β
def zq4z (c : zq4y) : Spec :=
  ⟨[(false, [.data (.int .i64)])], [], [(false, [.data (.int .i64)])], [], fun x k => c x.1.1.1 (fun r0 => k (((r0, ()), ()), ()))⟩
noncomputable def civil_year_p1_code : Code := codeAt 28 (bodyOf Tryz.f81)
abbrev zq50 (β : Type) := Int → Option β
abbrev zq51 := {β : Type} → zq50 β → Int → Int → Option β
def zq52 : View := ⟨0, [0, 3], [(false, [.data (.int .i64)]), (false, [.data (.int .i64)])], []⟩
def zq53 : List (AExit × View) := [(.exit 0, ⟨0, [3], [(false, [.data (.int .i64)])], []⟩)]
@[reducible] def civil_year_p1_G (p : zq51) {β : Type} (d : zq52.den) (ks : Outs.K β zq53) : Option β :=
  p (fun a0 => ks.1 (((a0, ()), ()), ())) d.1.1.1 d.1.2.1.1
section
variable (c_civil_count : zq4r) (c_civil_floor : zq2x)
@[reducible] def civil_year_X : Ctx := ⟨look tab, pick1 [(80, .spec (zq4s c_civil_count)), (102, .spec (zq2y c_civil_floor))], false, false, false, false⟩
def zq54 {β : Type} (rec : Int → Int → Option β) (k1 : zq50 β) (day : Int) (y : Int) : Option β :=
  c_civil_count (IntKind.i64.wrap (y + (1 : Int))) (fun (rcount : Int) =>
  cond (decide (rcount ≤ day))
  (let y2 : Int := (IntKind.i64.wrap (y + (1 : Int)));
  rec day y2)
  (k1 y))
def zq55 {β : Type} : Nat → zq50 β → Int → Int → Option β
  | 0 => fun _ _ _ => none
  | i + 1 => fun k1 day y => zq54 c_civil_count (zq55 i k1) k1 day y
theorem zq56 (hΓ : ΓOk Tryz.prog (civil_year_X c_civil_count c_civil_floor).Γ) (i : Nat) : PieceOk Tryz.prog 15 0 civil_year_p1_code zq52 zq53 (civil_year_p1_G (zq55 c_civil_count i)) := by
  rw [show civil_year_p1_code = .loop (loopBody civil_year_p1_code) by kernel_rfl]
  exact piece_loop (X := (civil_year_X c_civil_count c_civil_floor)) (p := 1) (Λ := pick1 []) (G := fun i => @fun β d ks => civil_year_p1_G (zq55 c_civil_count i) d ks) mixed tab_ok hΓ rfl (by kernel_rfl) CutsOk_nil (fun _ _ => rfl) (fun i => @fun β d ks r h => Eq.trans (b := civil_year_p1_G (zq55 c_civil_count (i + 1)) d ks) (by kernel_rfl) h) i
def zq57 (p1 : zq51) {β : Type} (day : Int) (k : (Int → Option β)) : Option β :=
  c_civil_floor day (366 : Int) (fun (rfloor : Int) =>
  let y : Int := (IntKind.i64.wrap ((1970 : Int) + rfloor));
  p1 (fun (y2 : Int) =>
  k y2) day y)
theorem zq58 (hΓ : ΓOk Tryz.prog (civil_year_X c_civil_count c_civil_floor).Γ) (p1 : zq51) (hp1 : PieceOk Tryz.prog 15 0 civil_year_p1_code zq52 zq53 (civil_year_p1_G p1)) : SpecOk Tryz.prog 81 (zq4z (zq57 c_civil_floor p1)) :=
  spec_exec (X := (civil_year_X c_civil_count c_civil_floor)) (Λ := pick1 [(28, pieceCut zq52 zq53 (civil_year_p1_G p1))]) (rs := [.tmp 2]) (c := bodyOf Tryz.f81) mixed tab_ok hΓ Tryz.func81 (by kernel_rfl) (by kernel_rfl) (by kernel_rfl) (by kernel_rfl) (CutsOk_cons (q := 28) (c' := civil_year_p1_code) (by kernel_rfl) rfl hp1 CutsOk_nil) (fun x k r h => Eq.trans (b := (zq4z (zq57 c_civil_floor p1)).run x k) (by kernel_rfl) h)
end
theorem zq59Γ : ΓOk Tryz.prog (pick1 [(80, .spec (zq4s zq4w)), (102, .spec (zq2y zq32))]) := (ΓOk_cons zq4x (ΓOk_cons zq33 ΓOk_nil))
def zq5a (m : Nat) : zq51 := zq55 zq4w m
theorem zq5b {β : Type} (i : Nat) (k1 day y) : (zq5a (i + 1) k1 day y : Option β) = zq54 zq4w (zq5a i k1) k1 day y := rfl
def zq5c : zq51 := zq5a fuel
theorem zq5d : PieceOk Tryz.prog 15 0 civil_year_p1_code zq52 zq53 (civil_year_p1_G zq5c) := zq56 zq4w zq32 zq59Γ fuel
def zq5e : zq4y := zq57 zq32 zq5c
theorem zq5f : SpecOk Tryz.prog 81 (zq4z zq5e) := zq58 zq4w zq32 zq59Γ zq5c zq5d

/-- pagewatch/civil.Days -/
abbrev zq5g := {β : Type} → Int → Int → (Int → Option β) → Option β
def zq5h (c : zq5g) : Spec :=
  ⟨[(false, [.data (.int .i64)]), (false, [.data (.int .i64)])], [], [(false, [.data (.int .i64)])], [], fun x k => c x.1.1.1 x.1.2.1.1 (fun r0 => k (((r0, ()), ()), ()))⟩
section
variable (c_civil_Leap : zq34)
@[reducible] def civil_Days_X : Ctx := ⟨look tab, pick1 [(103, .spec (zq35 c_civil_Leap))], false, false, false, false⟩
def zq5i {β : Type} (year : Int) (month : Int) (k : (Int → Option β)) : Option β :=
  cond (decide (month < (1 : Int)))
  (k (0 : Int))
  (cond (decide ((12 : Int) < month))
  (k (0 : Int))
  (cond (decide (month = (2 : Int)))
  (c_civil_Leap year (fun (rLeap : Bool) =>
  cond rLeap
  (k (29 : Int))
  (cond (decide ((IntKind.i64.wrap (month - (1 : Int))) = (0 : Int)))
  (k (31 : Int))
  (cond (decide ((IntKind.i64.wrap (month - (1 : Int))) = (1 : Int)))
  (k (28 : Int))
  (cond (decide ((IntKind.i64.wrap (month - (1 : Int))) = (2 : Int)))
  (k (31 : Int))
  (cond (decide ((IntKind.i64.wrap (month - (1 : Int))) = (3 : Int)))
  (k (30 : Int))
  (cond (decide ((IntKind.i64.wrap (month - (1 : Int))) = (4 : Int)))
  (k (31 : Int))
  (cond (decide ((IntKind.i64.wrap (month - (1 : Int))) = (5 : Int)))
  (k (30 : Int))
  (cond (decide ((IntKind.i64.wrap (month - (1 : Int))) = (6 : Int)))
  (k (31 : Int))
  (cond (decide ((IntKind.i64.wrap (month - (1 : Int))) = (7 : Int)))
  (k (31 : Int))
  (cond (decide ((IntKind.i64.wrap (month - (1 : Int))) = (8 : Int)))
  (k (30 : Int))
  (cond (decide ((IntKind.i64.wrap (month - (1 : Int))) = (9 : Int)))
  (k (31 : Int))
  (cond (decide ((IntKind.i64.wrap (month - (1 : Int))) = (10 : Int)))
  (k (30 : Int))
  (cond (decide ((IntKind.i64.wrap (month - (1 : Int))) = (11 : Int)))
  (k (31 : Int))
  (none)))))))))))))))
  (cond (decide ((IntKind.i64.wrap (month - (1 : Int))) = (0 : Int)))
  (k (31 : Int))
  (cond (decide ((IntKind.i64.wrap (month - (1 : Int))) = (1 : Int)))
  (k (28 : Int))
  (cond (decide ((IntKind.i64.wrap (month - (1 : Int))) = (2 : Int)))
  (k (31 : Int))
  (cond (decide ((IntKind.i64.wrap (month - (1 : Int))) = (3 : Int)))
  (k (30 : Int))
  (cond (decide ((IntKind.i64.wrap (month - (1 : Int))) = (4 : Int)))
  (k (31 : Int))
  (cond (decide ((IntKind.i64.wrap (month - (1 : Int))) = (5 : Int)))
  (k (30 : Int))
  (cond (decide ((IntKind.i64.wrap (month - (1 : Int))) = (6 : Int)))
  (k (31 : Int))
  (cond (decide ((IntKind.i64.wrap (month - (1 : Int))) = (7 : Int)))
  (k (31 : Int))
  (cond (decide ((IntKind.i64.wrap (month - (1 : Int))) = (8 : Int)))
  (k (30 : Int))
  (cond (decide ((IntKind.i64.wrap (month - (1 : Int))) = (9 : Int)))
  (k (31 : Int))
  (cond (decide ((IntKind.i64.wrap (month - (1 : Int))) = (10 : Int)))
  (k (30 : Int))
  (cond (decide ((IntKind.i64.wrap (month - (1 : Int))) = (11 : Int)))
  (k (31 : Int))
  (none)))))))))))))))
theorem zq5j (hΓ : ΓOk Tryz.prog (civil_Days_X c_civil_Leap).Γ) : SpecOk Tryz.prog 82 (zq5h (zq5i c_civil_Leap)) :=
  spec_exec (X := (civil_Days_X c_civil_Leap)) (Λ := pick1 []) (rs := [.tmp 4]) (c := bodyOf Tryz.f82) mixed tab_ok hΓ Tryz.func82 (by kernel_rfl) (by kernel_rfl) (by kernel_rfl) (by kernel_rfl) CutsOk_nil (fun x k r h => Eq.trans (b := (zq5h (zq5i c_civil_Leap)).run x k) (by kernel_rfl) h)
end
theorem zq5kΓ : ΓOk Tryz.prog (pick1 [(103, .spec (zq35 zq39))]) := (ΓOk_cons zq3a ΓOk_nil)
def zq5l : zq5g := zq5i zq39
theorem zq5m : SpecOk Tryz.prog 82 (zq5h zq5l) := zq5j zq39 zq5kΓ

/-- pagewatch/lexer.clock -/
abbrev zq5n := {β : Type} → (List UInt8) → (Int → Bool → Option β) → Option β
def zq5o (c : zq5n) : Spec :=
  ⟨[(false, [.data .str])], [], [(false, [.data (.int .i64)]), (false, [.data .bool])], [], fun x k => c x.1.1.1 (fun r0 r1 => k (((r0, ()), (r1, ()), ()), ()))⟩
noncomputable def lexer_clock_p1_code : Code := codeAt 250 (bodyOf Tryz.f41)
abbrev zq5p (β : Type) := Int → Bool → Option β
abbrev zq5q (β : Type) := Int → Option β
abbrev zq5r := {β : Type} → zq5p β → zq5q β → Int → Int → Int → (List (List UInt8)) → Option β
def zq5s : View := ⟨0, [5, 23, 24, 25], [(false, [.data (.int .i64)]), (false, [.rowh 0]), (false, [.data (.int .i64)]), (false, [.data (.int .i64)])], [.row 9 .str]⟩
def zq5t : List (AExit × View) := [(.ret, ⟨0, [2, 3], [(false, [.data (.int .i64)]), (false, [.data .bool])], []⟩), (.exit 0, ⟨0, [5], [(false, [.data (.int .i64)])], []⟩)]
@[reducible] def lexer_clock_p1_G (p : zq5r) {β : Type} (d : zq5s.den) (ks : Outs.K β zq5t) : Option β :=
  p (fun a0 a1 => ks.1 (((a0, ()), (a1, ()), ()), ())) (fun a0 => ks.2.1 (((a0, ()), ()), ())) d.1.1.1 d.1.2.2.1.1 d.1.2.2.2.1.1 d.2.1
section
variable (c_lexer_two : zq4d) (c_strings_Split : zq2h)
@[reducible] def lexer_clock_X : Ctx := ⟨look tab, pick1 [(55, .spec (zq4e c_lexer_two)), (57, .spec (zq2i c_strings_Split))], false, true, false, false⟩
def zq5u {β : Type} (rec : Int → Int → Int → (List (List UInt8)) → Option β) (k1 : zq5p β) (k2 : zq5q β) (n : Int) (t24 : Int) (t25 : Int) (t23 : List (List UInt8)) : Option β :=
  cond (decide (t25 < t24))
  (cond (decide (0 ≤ t25) && decide (t25 < (List.length t23 : Int)))
  (let x : List UInt8 := (List.getD t23 (Int.toNat t25) ([] : List UInt8));
  c_lexer_two x (fun (rtwo : Int) (rtwo2 : Bool) =>
  cond (!rtwo2)
  (k1 (0 : Int) false)
  (cond (decide ((0 : Int) < t25))
  (cond (decide ((59 : Int) < rtwo))
  (k1 (0 : Int) false)
  (let n2 : Int := (IntKind.i64.wrap ((IntKind.i64.wrap ((60 : Int) * n)) + rtwo));
  rec n2 t24 (IntKind.i64.wrap (t25 + (1 : Int))) t23))
  (let n2 : Int := (IntKind.i64.wrap ((IntKind.i64.wrap ((60 : Int) * n)) + rtwo));
  rec n2 t24 (IntKind.i64.wrap (t25 + (1 : Int))) t23))))
  none)
  (k2 n)
def zq5v {β : Type} : Nat → zq5p β → zq5q β → Int → Int → Int → (List (List UInt8)) → Option β
  | 0 => fun _ _ _ _ _ _ => none
  | i + 1 => fun k1 k2 n t24 t25 t23 => zq5u c_lexer_two (zq5v i k1 k2) k1 k2 n t24 t25 t23
theorem zq5w (hΓ : ΓOk Tryz.prog (lexer_clock_X c_lexer_two c_strings_Split).Γ) (i : Nat) : PieceOk Tryz.prog 53 0 lexer_clock_p1_code zq5s zq5t (lexer_clock_p1_G (zq5v c_lexer_two i)) := by
  rw [show lexer_clock_p1_code = .loop (loopBody lexer_clock_p1_code) by kernel_rfl]
  exact piece_loop (X := (lexer_clock_X c_lexer_two c_strings_Split)) (p := 1) (Λ := pick1 []) (G := fun i => @fun β d ks => lexer_clock_p1_G (zq5v c_lexer_two i) d ks) mixed tab_ok hΓ rfl (by kernel_rfl) CutsOk_nil (fun _ _ => rfl) (fun i => @fun β d ks r h => Eq.trans (b := lexer_clock_p1_G (zq5v c_lexer_two (i + 1)) d ks) (by kernel_rfl) h) i
def zq5x (p1 : zq5r) {β : Type} (s : List UInt8) (k : (Int → Bool → Option β)) : Option β :=
  c_strings_Split s ([58] : List UInt8) (fun (lrSplit : List (List UInt8)) =>
  cond (decide ((List.length lrSplit : Int) < (2 : Int)))
  (k (0 : Int) false)
  (cond (decide ((3 : Int) < (List.length lrSplit : Int)))
  (k (0 : Int) false)
  (let l : List (List UInt8) := ([([48, 48] : List UInt8)] : List (List UInt8));
  cond (decide ((List.length lrSplit + List.length l) * 16 ≤ roomMax))
  (let l2 : List (List UInt8) := (lrSplit ++ l);
  cond (decide (0 ≤ (3 : Int)) && decide ((3 : Int) ≤ (List.length l2 : Int)))
  (let l3 : List (List UInt8) := (List.take (Int.toNat (3 : Int)) l2);
  p1 (fun (t2 : Int) (t3 : Bool) =>
  k t2 t3) (fun (n : Int) =>
  let t : Bool := (decide (n ≤ (86400 : Int)));
  k n t) (0 : Int) (List.length l3 : Int) (0 : Int) l3)
  none)
  none)))
theorem zq5y (hΓ : ΓOk Tryz.prog (lexer_clock_X c_lexer_two c_strings_Split).Γ) (p1 : zq5r) (hp1 : PieceOk Tryz.prog 53 0 lexer_clock_p1_code zq5s zq5t (lexer_clock_p1_G p1)) : SpecOk Tryz.prog 41 (zq5o (zq5x c_strings_Split p1)) :=
  spec_exec (X := (lexer_clock_X c_lexer_two c_strings_Split)) (Λ := pick1 [(250, pieceCut zq5s zq5t (lexer_clock_p1_G p1))]) (rs := [.tmp 2, .tmp 3]) (c := bodyOf Tryz.f41) mixed tab_ok hΓ Tryz.func41 (by kernel_rfl) (by kernel_rfl) (by kernel_rfl) (by kernel_rfl) (CutsOk_cons (q := 250) (c' := lexer_clock_p1_code) (by kernel_rfl) rfl hp1 CutsOk_nil) (fun x k r h => Eq.trans (b := (zq5o (zq5x c_strings_Split p1)).run x k) (by kernel_rfl) h)
end
theorem zq5zΓ : ΓOk Tryz.prog (pick1 [(55, .spec (zq4e zq4i)), (57, .spec (zq2i zq2j))]) := (ΓOk_cons zq4j (ΓOk_cons zq2k ΓOk_nil))
def zq60 (m : Nat) : zq5r := zq5v zq4i m
theorem zq61 {β : Type} (i : Nat) (k1 k2 n t24 t25 t23) : (zq60 (i + 1) k1 k2 n t24 t25 t23 : Option β) = zq5u zq4i (zq60 i k1 k2) k1 k2 n t24 t25 t23 := rfl
def zq62 : zq5r := zq60 fuel
theorem zq63 : PieceOk Tryz.prog 53 0 lexer_clock_p1_code zq5s zq5t (lexer_clock_p1_G zq62) := zq5w zq4i zq2j zq5zΓ fuel
def zq64 : zq5n := zq5x zq2j zq62
theorem zq65 : SpecOk Tryz.prog 41 (zq5o zq64) := zq5y zq4i zq2j zq5zΓ zq62 zq63

/-- pagewatch/lexer.hours -/
abbrev zq66 := {β : Type} → Int → Bool → ((List UInt8) → Option β) → Option β
def zq67 (c : zq66) : Spec :=
  ⟨[(false, [.data (.int .i64)]), (false, [.data .bool])], [], [(false, [.data .str])], [], fun x k => c x.1.1.1 x.1.2.1.1 (fun r0 => k (((r0, ()), ()), ()))⟩
section
variable (c_lexer_digits : zq4k)
@[reducible] def lexer_hours_X : Ctx := ⟨look tab, pick1 [(64, .spec (zq4l c_lexer_digits))], false, false, false, false⟩
def zq68 {β : Type} (n : Int) (seconds : Bool) (k : ((List UInt8) → Option β)) : Option β :=
  cond (!decide ((3600 : Int) = 0))
  (c_lexer_digits (IntKind.i64.wrap (Int.tdiv n (3600 : Int))) (2 : Int) (fun (rdigits : List UInt8) =>
  cond (decide (List.length rdigits + List.length ([58] : List UInt8) ≤ 9223372036854775807))
  (cond (!decide ((60 : Int) = 0))
  (cond (!decide ((60 : Int) = 0))
  (c_lexer_digits (Int.tmod (IntKind.i64.wrap (Int.tdiv n (60 : Int))) (60 : Int)) (2 : Int) (fun (rdigits2 : List UInt8) =>
  cond (decide (List.length (rdigits ++ ([58] : List UInt8)) + List.length rdigits2 ≤ 9223372036854775807))
  (let s : List UInt8 := ((rdigits ++ ([58] : List UInt8)) ++ rdigits2);
  cond seconds
  (cond (!decide ((60 : Int) = 0))
  (c_lexer_digits (Int.tmod n (60 : Int)) (2 : Int) (fun (rdigits3 : List UInt8) =>
  cond (decide (List.length ([58] : List UInt8) + List.length rdigits3 ≤ 9223372036854775807))
  (cond (decide (List.length s + List.length (([58] : List UInt8) ++ rdigits3) ≤ 9223372036854775807))
  (let s2 : List UInt8 := (s ++ (([58] : List UInt8) ++ rdigits3));
  k s2)
  none)
  none))
  none)
  (k s))
  none))
  none)
  none)
  none))
  none
theorem zq69 (hΓ : ΓOk Tryz.prog (lexer_hours_X c_lexer_digits).Γ) : SpecOk Tryz.prog 48 (zq67 (zq68 c_lexer_digits)) :=
  spec_exec (X := (lexer_hours_X c_lexer_digits)) (Λ := pick1 []) (rs := [.tmp 4]) (c := bodyOf Tryz.f48) mixed tab_ok hΓ Tryz.func48 (by kernel_rfl) (by kernel_rfl) (by kernel_rfl) (by kernel_rfl) CutsOk_nil (fun x k r h => Eq.trans (b := (zq67 (zq68 c_lexer_digits)).run x k) (by kernel_rfl) h)
end
theorem zq6aΓ : ΓOk Tryz.prog (pick1 [(64, .spec (zq4l zq4p))]) := (ΓOk_cons zq4q ΓOk_nil)
def zq6b : zq66 := zq68 zq4p
theorem zq6c : SpecOk Tryz.prog 48 (zq67 zq6b) := zq69 zq4p zq6aΓ

/-- pagewatch/civil.DateOf -/
abbrev zq6d := {β : Type} → Int → ((Int × (Int × Int)) → Int → Option β) → Option β
def zq6e (c : zq6d) : Spec :=
  ⟨[(false, [.data (.int .i64)])], [], [(true, [.data (.prod (.int .i64) (.prod (.int .i64) (.int .i64)))]), (false, [.data (.int .i64)])], [], fun x k => c x.1.1.1 (fun r0 r1 => k (((r0, ()), (r1, ()), ()), ()))⟩
noncomputable def civil_DateOf_p1_code : Code := codeAt 124 (bodyOf Tryz.f65)
abbrev zq6f (β : Type) := Int → Int → Int → Int → Int → Int → Int → Option β
abbrev zq6g := {β : Type} → zq6f β → Int → Int → Int → Int → Int → Int → Int → Option β
def zq6h : View := ⟨0, [2, 4, 5], [(false, [.ptr 0 0]), (false, [.ptr 1 0]), (false, [.data (.int .i64)])], [.cells 68 [.data (.int .i64), .data (.int .i64), .data (.int .i64)], .cells 68 [.data (.int .i64), .data (.int .i64), .data (.int .i64)]]⟩
def zq6i : List (AExit × View) := [(.exit 0, ⟨0, [2, 4, 5], [(false, [.ptr 0 0]), (false, [.ptr 1 0]), (false, [.data (.int .i64)])], [.cells 68 [.data (.int .i64), .data (.int .i64), .data (.int .i64)], .cells 68 [.data (.int .i64), .data (.int .i64), .data (.int .i64)]]⟩)]
@[reducible] def civil_DateOf_p1_G (p : zq6g) {β : Type} (d : zq6h.den) (ks : Outs.K β zq6i) : Option β :=
  p (fun a0 a1 a2 a3 a4 a5 a6 => ks.1 (((), (), (a0, ()), ()), ((a1, a2, a3, ()), (a4, a5, a6, ()), ()))) d.1.2.2.1.1 d.2.1.1 d.2.1.2.1 d.2.1.2.2.1 d.2.2.1.1 d.2.2.1.2.1 d.2.2.1.2.2.1
section
variable (c_civil_Days : zq5g) (c_civil_count : zq4r) (c_civil_year : zq4y)
@[reducible] def civil_DateOf_X : Ctx := ⟨look tab, pick1 [(82, .spec (zq5h c_civil_Days)), (80, .spec (zq4s c_civil_count)), (81, .spec (zq4z c_civil_year))], false, false, false, false⟩
def zq6j {β : Type} (rec : Int → Int → Int → Int → Int → Int → Int → Option β) (k1 : zq6f β) (rest : Int) (t2 : Int) (t22 : Int) (t23 : Int) (d : Int) (d2 : Int) (d3 : Int) : Option β :=
  c_civil_Days d d2 (fun (rDays : Int) =>
  cond (decide (rDays ≤ rest))
  (c_civil_Days d d2 (fun (rDays2 : Int) =>
  let rest2 : Int := (IntKind.i64.wrap (rest - rDays2));
  rec rest2 t2 t22 t23 d (IntKind.i64.wrap (d2 + (1 : Int))) d3))
  (k1 rest t2 t22 t23 d d2 d3))
def zq6k {β : Type} : Nat → zq6f β → Int → Int → Int → Int → Int → Int → Int → Option β
  | 0 => fun _ _ _ _ _ _ _ _ => none
  | i + 1 => fun k1 rest t2 t22 t23 d d2 d3 => zq6j c_civil_Days (zq6k i k1) k1 rest t2 t22 t23 d d2 d3
theorem zq6l (hΓ : ΓOk Tryz.prog (civil_DateOf_X c_civil_Days c_civil_count c_civil_year).Γ) (i : Nat) : PieceOk Tryz.prog 45 0 civil_DateOf_p1_code zq6h zq6i (civil_DateOf_p1_G (zq6k c_civil_Days i)) := by
  rw [show civil_DateOf_p1_code = .loop (loopBody civil_DateOf_p1_code) by kernel_rfl]
  exact piece_loop (X := (civil_DateOf_X c_civil_Days c_civil_count c_civil_year)) (p := 1) (Λ := pick1 []) (G := fun i => @fun β d ks => civil_DateOf_p1_G (zq6k c_civil_Days i) d ks) mixed tab_ok hΓ rfl (by kernel_rfl) CutsOk_nil (fun _ _ => rfl) (fun i => @fun β d ks r h => Eq.trans (b := civil_DateOf_p1_G (zq6k c_civil_Days (i + 1)) d ks) (by kernel_rfl) h) i
def zq6m (p1 : zq6g) {β : Type} (day : Int) (k : ((Int × (Int × Int)) → Int → Option β)) : Option β :=
  c_civil_count (1970 : Int) (fun (rcount : Int) =>
  cond (decide (day < rcount))
  (k ((0 : Int), ((0 : Int), (0 : Int))) (1 : Int))
  (c_civil_count (2241 : Int) (fun (rcount2 : Int) =>
  cond (decide (rcount2 ≤ day))
  (k ((0 : Int), ((0 : Int), (0 : Int))) (1 : Int))
  (c_civil_year day (fun (ryear : Int) =>
  c_civil_count ryear (fun (rcount3 : Int) =>
  let rest : Int := (IntKind.i64.wrap (day - rcount3));
  p1 (fun (rest2 : Int) (t2 : Int) (t22 : Int) (t23 : Int) (d : Int) (d2 : Int) (d3 : Int) =>
  k (d, (d2, (IntKind.i64.wrap (rest2 + (1 : Int))))) (0 : Int)) rest (0 : Int) (0 : Int) (0 : Int) ryear (1 : Int) (0 : Int)))))))
theorem zq6n (hΓ : ΓOk Tryz.prog (civil_DateOf_X c_civil_Days c_civil_count c_civil_year).Γ) (p1 : zq6g) (hp1 : PieceOk Tryz.prog 45 0 civil_DateOf_p1_code zq6h zq6i (civil_DateOf_p1_G p1)) : SpecOk Tryz.prog 65 (zq6e (zq6m c_civil_count c_civil_year p1)) :=
  spec_exec (X := (civil_DateOf_X c_civil_Days c_civil_count c_civil_year)) (Λ := pick1 [(124, pieceCut zq6h zq6i (civil_DateOf_p1_G p1))]) (rs := [.cell 2 68, .tmp 3]) (c := bodyOf Tryz.f65) mixed tab_ok hΓ Tryz.func65 (by kernel_rfl) (by kernel_rfl) (by kernel_rfl) (by kernel_rfl) (CutsOk_cons (q := 124) (c' := civil_DateOf_p1_code) (by kernel_rfl) rfl hp1 CutsOk_nil) (fun x k r h => Eq.trans (b := (zq6e (zq6m c_civil_count c_civil_year p1)).run x k) (by kernel_rfl) h)
end
theorem zq6oΓ : ΓOk Tryz.prog (pick1 [(82, .spec (zq5h zq5l)), (80, .spec (zq4s zq4w)), (81, .spec (zq4z zq5e))]) := (ΓOk_cons zq5m (ΓOk_cons zq4x (ΓOk_cons zq5f ΓOk_nil)))
def zq6p (m : Nat) : zq6g := zq6k zq5l m
theorem zq6q {β : Type} (i : Nat) (k1 rest t2 t22 t23 d d2 d3) : (zq6p (i + 1) k1 rest t2 t22 t23 d d2 d3 : Option β) = zq6j zq5l (zq6p i k1) k1 rest t2 t22 t23 d d2 d3 := rfl
def zq6r : zq6g := zq6p fuel
theorem zq6s : PieceOk Tryz.prog 45 0 civil_DateOf_p1_code zq6h zq6i (civil_DateOf_p1_G zq6r) := zq6l zq5l zq4w zq5e zq6oΓ fuel
def zq6t : zq6d := zq6m zq4w zq5e zq6r
theorem zq6u : SpecOk Tryz.prog 65 (zq6e zq6t) := zq6n zq5l zq4w zq5e zq6oΓ zq6r zq6s

/-- pagewatch/civil.Valid -/
abbrev zq6v := {β : Type} → (Int × (Int × Int)) → (Bool → Option β) → Option β
def zq6w (c : zq6v) : Spec :=
  ⟨[(true, [.data (.prod (.int .i64) (.prod (.int .i64) (.int .i64)))])], [], [(false, [.data .bool])], [], fun x k => c x.1.1.1 (fun r0 => k (((r0, ()), ()), ()))⟩
section
variable (c_civil_Days : zq5g)
@[reducible] def civil_Valid_X : Ctx := ⟨look tab, pick1 [(82, .spec (zq5h c_civil_Days))], false, false, false, false⟩
def zq6x {β : Type} (d : (Int × (Int × Int))) (k : (Bool → Option β)) : Option β :=
  cond (decide ((1970 : Int) ≤ d.1))
  (cond (decide (d.1 ≤ (2240 : Int)))
  (cond (decide ((1 : Int) ≤ d.2.2))
  (c_civil_Days d.1 d.2.1 (fun (rDays : Int) =>
  k (decide (d.2.2 ≤ rDays))))
  (k false))
  (k false))
  (k false)
theorem zq6y (hΓ : ΓOk Tryz.prog (civil_Valid_X c_civil_Days).Γ) : SpecOk Tryz.prog 66 (zq6w (zq6x c_civil_Days)) :=
  spec_exec (X := (civil_Valid_X c_civil_Days)) (Λ := pick1 []) (rs := [.tmp 2]) (c := bodyOf Tryz.f66) mixed tab_ok hΓ Tryz.func66 (by kernel_rfl) (by kernel_rfl) (by kernel_rfl) (by kernel_rfl) CutsOk_nil (fun x k r h => Eq.trans (b := (zq6w (zq6x c_civil_Days)).run x k) (by kernel_rfl) h)
end
theorem zq6zΓ : ΓOk Tryz.prog (pick1 [(82, .spec (zq5h zq5l))]) := (ΓOk_cons zq5m ΓOk_nil)
def zq70 : zq6v := zq6x zq5l
theorem zq71 : SpecOk Tryz.prog 66 (zq6w zq70) := zq6y zq5l zq6zΓ

/-- pagewatch/civil.number -/
abbrev zq72 := {β : Type} → (Int × (Int × Int)) → (Int → Option β) → Option β
def zq73 (c : zq72) : Spec :=
  ⟨[(true, [.data (.prod (.int .i64) (.prod (.int .i64) (.int .i64)))])], [], [(false, [.data (.int .i64)])], [], fun x k => c x.1.1.1 (fun r0 => k (((r0, ()), ()), ()))⟩
noncomputable def civil_number_p1_code : Code := codeAt 58 (bodyOf Tryz.f67)
abbrev zq74 (β : Type) := Int → Option β
abbrev zq75 := {β : Type} → zq74 β → Int → Int → Int → Int → Int → Option β
def zq76 : View := ⟨0, [1, 3, 4], [(false, [.ptr 0 0]), (false, [.data (.int .i64)]), (false, [.data (.int .i64)])], [.cells 68 [.data (.int .i64), .data (.int .i64), .data (.int .i64)]]⟩
def zq77 : List (AExit × View) := [(.exit 0, ⟨0, [3], [(false, [.data (.int .i64)])], []⟩)]
@[reducible] def civil_number_p1_G (p : zq75) {β : Type} (d : zq76.den) (ks : Outs.K β zq77) : Option β :=
  p (fun a0 => ks.1 (((a0, ()), ()), ())) d.1.2.1.1 d.1.2.2.1.1 d.2.1.1 d.2.1.2.1 d.2.1.2.2.1
section
variable (c_civil_Days : zq5g) (c_civil_count : zq4r)
@[reducible] def civil_number_X : Ctx := ⟨look tab, pick1 [(82, .spec (zq5h c_civil_Days)), (80, .spec (zq4s c_civil_count))], false, false, false, false⟩
def zq78 {β : Type} (rec : Int → Int → Int → Int → Int → Option β) (k1 : zq74 β) (n : Int) (m : Int) (d : Int) (d2 : Int) (d3 : Int) : Option β :=
  cond (decide (m < d2))
  (c_civil_Days d m (fun (rDays : Int) =>
  let n2 : Int := (IntKind.i64.wrap (n + rDays));
  let m2 : Int := (IntKind.i64.wrap (m + (1 : Int)));
  rec n2 m2 d d2 d3))
  (k1 n)
def zq79 {β : Type} : Nat → zq74 β → Int → Int → Int → Int → Int → Option β
  | 0 => fun _ _ _ _ _ _ => none
  | i + 1 => fun k1 n m d d2 d3 => zq78 c_civil_Days (zq79 i k1) k1 n m d d2 d3
theorem zq7a (hΓ : ΓOk Tryz.prog (civil_number_X c_civil_Days c_civil_count).Γ) (i : Nat) : PieceOk Tryz.prog 25 0 civil_number_p1_code zq76 zq77 (civil_number_p1_G (zq79 c_civil_Days i)) := by
  rw [show civil_number_p1_code = .loop (loopBody civil_number_p1_code) by kernel_rfl]
  exact piece_loop (X := (civil_number_X c_civil_Days c_civil_count)) (p := 1) (Λ := pick1 []) (G := fun i => @fun β d ks => civil_number_p1_G (zq79 c_civil_Days i) d ks) mixed tab_ok hΓ rfl (by kernel_rfl) CutsOk_nil (fun _ _ => rfl) (fun i => @fun β d ks r h => Eq.trans (b := civil_number_p1_G (zq79 c_civil_Days (i + 1)) d ks) (by kernel_rfl) h) i
def zq7b (p1 : zq75) {β : Type} (d : (Int × (Int × Int))) (k : (Int → Option β)) : Option β :=
  c_civil_count d.1 (fun (rcount : Int) =>
  let n : Int := (IntKind.i64.wrap ((IntKind.i64.wrap (rcount + d.2.2)) - (1 : Int)));
  p1 (fun (n2 : Int) =>
  k n2) n (1 : Int) d.1 d.2.1 d.2.2)
theorem zq7c (hΓ : ΓOk Tryz.prog (civil_number_X c_civil_Days c_civil_count).Γ) (p1 : zq75) (hp1 : PieceOk Tryz.prog 25 0 civil_number_p1_code zq76 zq77 (civil_number_p1_G p1)) : SpecOk Tryz.prog 67 (zq73 (zq7b c_civil_count p1)) :=
  spec_exec (X := (civil_number_X c_civil_Days c_civil_count)) (Λ := pick1 [(58, pieceCut zq76 zq77 (civil_number_p1_G p1))]) (rs := [.tmp 2]) (c := bodyOf Tryz.f67) mixed tab_ok hΓ Tryz.func67 (by kernel_rfl) (by kernel_rfl) (by kernel_rfl) (by kernel_rfl) (CutsOk_cons (q := 58) (c' := civil_number_p1_code) (by kernel_rfl) rfl hp1 CutsOk_nil) (fun x k r h => Eq.trans (b := (zq73 (zq7b c_civil_count p1)).run x k) (by kernel_rfl) h)
end
theorem zq7dΓ : ΓOk Tryz.prog (pick1 [(82, .spec (zq5h zq5l)), (80, .spec (zq4s zq4w))]) := (ΓOk_cons zq5m (ΓOk_cons zq4x ΓOk_nil))
def zq7e (m : Nat) : zq75 := zq79 zq5l m
theorem zq7f {β : Type} (i : Nat) (k1 n m d d2 d3) : (zq7e (i + 1) k1 n m d d2 d3 : Option β) = zq78 zq5l (zq7e i k1) k1 n m d d2 d3 := rfl
def zq7g : zq75 := zq7e fuel
theorem zq7h : PieceOk Tryz.prog 25 0 civil_number_p1_code zq76 zq77 (civil_number_p1_G zq7g) := zq7a zq5l zq4w zq7dΓ fuel
def zq7i : zq72 := zq7b zq4w zq7g
theorem zq7j : SpecOk Tryz.prog 67 (zq73 zq7i) := zq7c zq5l zq4w zq7dΓ zq7g zq7h

/-- pagewatch/lexer.offset -/
abbrev zq7k := {β : Type} → (List UInt8) → (Int → Bool → Option β) → Option β
def zq7l (c : zq7k) : Spec :=
  ⟨[(false, [.data .str])], [], [(false, [.data (.int .i64)]), (false, [.data .bool])], [], fun x k => c x.1.1.1 (fun r0 r1 => k (((r0, ()), (r1, ()), ()), ()))⟩
noncomputable def lexer_offset_p1_code : Code := codeAt 15 (bodyOf Tryz.f37)
abbrev zq7m (β : Type) := Int → Bool → Option β
abbrev zq7n := {β : Type} → zq7m β → (List UInt8) → Int → Bool → Option β
def zq7o : View := ⟨0, [0, 4, 5], [(false, [.data .str]), (false, [.data (.int .i64)]), (false, [.data .bool])], []⟩
def zq7p : List (AExit × View) := [(.ret, ⟨0, [2, 3], [(false, [.data (.int .i64)]), (false, [.data .bool])], []⟩)]
@[reducible] def lexer_offset_p1_G (p : zq7n) {β : Type} (d : zq7o.den) (ks : Outs.K β zq7p) : Option β :=
  p (fun a0 a1 => ks.1 (((a0, ()), (a1, ()), ()), ())) d.1.1.1 d.1.2.1.1 d.1.2.2.1.1
section
variable (c_lexer_clock : zq5n)
@[reducible] def lexer_offset_X : Ctx := ⟨look tab, pick1 [(41, .spec (zq5o c_lexer_clock))], false, false, false, false⟩
def zq7q {β : Type} (k1 : zq7m β) (s : List UInt8) (n : Int) (ok : Bool) : Option β :=
  cond ok
  (cond (decide ((List.length s : Int) = (6 : Int)))
  (cond (decide ((-64800 : Int) ≤ n))
  (let t : Bool := (decide (n ≤ (64800 : Int)));
  k1 n t)
  (k1 n false))
  (k1 n false))
  (k1 n false)
def zq7r {β : Type} (k1 : zq7m β) (s : List UInt8) (n : Int) (ok : Bool) : Option β := zq7q k1 s n ok
theorem zq7s (hΓ : ΓOk Tryz.prog (lexer_offset_X c_lexer_clock).Γ) : PieceOk Tryz.prog 32 0 lexer_offset_p1_code zq7o zq7p (lexer_offset_p1_G (zq7r)) :=
  piece_exec (X := (lexer_offset_X c_lexer_clock)) (p := 15) (Λ := pick1 []) mixed tab_ok hΓ (by kernel_rfl) CutsOk_nil (fun d ks r h => Eq.trans (b := lexer_offset_p1_G (zq7r) d ks) (by kernel_rfl) h)
def zq7t (p1 : zq7n) {β : Type} (s : List UInt8) (k : (Int → Bool → Option β)) : Option β :=
  cond (decide (0 ≤ (1 : Int)) && (decide ((1 : Int) ≤ (List.length s : Int)) && decide ((List.length s : Int) ≤ (List.length s : Int))))
  (c_lexer_clock (List.drop (Int.toNat (1 : Int)) (List.take (Int.toNat (List.length s : Int)) s)) (fun (rclock : Int) (rclock2 : Bool) =>
  cond (decide (0 ≤ (0 : Int)) && decide ((0 : Int) < (List.length s : Int)))
  (cond (decide (((List.getD s (Int.toNat (0 : Int)) 0).toNat : Int) = (45 : Int)))
  (let n : Int := (IntKind.i64.wrap (0 - rclock));
  p1 (fun (t2 : Int) (t3 : Bool) =>
  k t2 t3) s n rclock2)
  (p1 (fun (t2 : Int) (t3 : Bool) =>
  k t2 t3) s rclock rclock2))
  none))
  none
theorem zq7u (hΓ : ΓOk Tryz.prog (lexer_offset_X c_lexer_clock).Γ) (p1 : zq7n) (hp1 : PieceOk Tryz.prog 32 0 lexer_offset_p1_code zq7o zq7p (lexer_offset_p1_G p1)) : SpecOk Tryz.prog 37 (zq7l (zq7t c_lexer_clock p1)) :=
  spec_exec (X := (lexer_offset_X c_lexer_clock)) (Λ := pick1 [(15, pieceCut zq7o zq7p (lexer_offset_p1_G p1))]) (rs := [.tmp 2, .tmp 3]) (c := bodyOf Tryz.f37) mixed tab_ok hΓ Tryz.func37 (by kernel_rfl) (by kernel_rfl) (by kernel_rfl) (by kernel_rfl) (CutsOk_cons (q := 15) (c' := lexer_offset_p1_code) (by kernel_rfl) rfl hp1 CutsOk_nil) (fun x k r h => Eq.trans (b := (zq7l (zq7t c_lexer_clock p1)).run x k) (by kernel_rfl) h)
end
theorem zq7vΓ : ΓOk Tryz.prog (pick1 [(41, .spec (zq5o zq64))]) := (ΓOk_cons zq65 ΓOk_nil)
def zq7w : zq7n := zq7r
theorem zq7x : PieceOk Tryz.prog 32 0 lexer_offset_p1_code zq7o zq7p (lexer_offset_p1_G zq7w) := zq7s zq64 zq7vΓ
def zq7y : zq7k := zq7t zq64 zq7w
theorem zq7z : SpecOk Tryz.prog 37 (zq7l zq7y) := zq7u zq64 zq7vΓ zq7w zq7x

/-- pagewatch/lexer.dated -/
abbrev zq80 := {β : Type} → Int → ((List UInt8) → Bool → Option β) → Option β
def zq81 (c : zq80) : Spec :=
  ⟨[(false, [.data (.int .i64)])], [], [(false, [.data .str]), (false, [.data .bool])], [], fun x k => c x.1.1.1 (fun r0 r1 => k (((r0, ()), (r1, ()), ()), ()))⟩
section
variable (c_civil_DateOf : zq6d) (c_lexer_digits : zq4k)
@[reducible] def lexer_dated_X : Ctx := ⟨look tab, pick1 [(65, .spec (zq6e c_civil_DateOf)), (64, .spec (zq4l c_lexer_digits))], false, false, false, false⟩
def zq82 {β : Type} (day : Int) (k : ((List UInt8) → Bool → Option β)) : Option β :=
  c_civil_DateOf day (fun (rDateOf : (Int × (Int × Int))) (rDateOf2 : Int) =>
  c_lexer_digits rDateOf.1 (4 : Int) (fun (rdigits : List UInt8) =>
  cond (decide (List.length rdigits + List.length ([45] : List UInt8) ≤ 9223372036854775807))
  (c_lexer_digits rDateOf.2.1 (2 : Int) (fun (rdigits2 : List UInt8) =>
  cond (decide (List.length (rdigits ++ ([45] : List UInt8)) + List.length rdigits2 ≤ 9223372036854775807))
  (cond (decide (List.length ((rdigits ++ ([45] : List UInt8)) ++ rdigits2) + List.length ([45] : List UInt8) ≤ 9223372036854775807))
  (c_lexer_digits rDateOf.2.2 (2 : Int) (fun (rdigits3 : List UInt8) =>
  cond (decide (List.length (((rdigits ++ ([45] : List UInt8)) ++ rdigits2) ++ ([45] : List UInt8)) + List.length rdigits3 ≤ 9223372036854775807))
  (let t : List UInt8 := ((((rdigits ++ ([45] : List UInt8)) ++ rdigits2) ++ ([45] : List UInt8)) ++ rdigits3);
  let t2 : Bool := (decide (rDateOf2 = (0 : Int)));
  k t t2)
  none))
  none)
  none))
  none))
theorem zq83 (hΓ : ΓOk Tryz.prog (lexer_dated_X c_civil_DateOf c_lexer_digits).Γ) : SpecOk Tryz.prog 49 (zq81 (zq82 c_civil_DateOf c_lexer_digits)) :=
  spec_exec (X := (lexer_dated_X c_civil_DateOf c_lexer_digits)) (Λ := pick1 []) (rs := [.tmp 2, .tmp 3]) (c := bodyOf Tryz.f49) mixed tab_ok hΓ Tryz.func49 (by kernel_rfl) (by kernel_rfl) (by kernel_rfl) (by kernel_rfl) CutsOk_nil (fun x k r h => Eq.trans (b := (zq81 (zq82 c_civil_DateOf c_lexer_digits)).run x k) (by kernel_rfl) h)
end
theorem zq84Γ : ΓOk Tryz.prog (pick1 [(65, .spec (zq6e zq6t)), (64, .spec (zq4l zq4p))]) := (ΓOk_cons zq6u (ΓOk_cons zq4q ΓOk_nil))
def zq85 : zq80 := zq82 zq6t zq4p
theorem zq86 : SpecOk Tryz.prog 49 (zq81 zq85) := zq83 zq6t zq4p zq84Γ

/-- pagewatch/civil.Day -/
abbrev zq87 := {β : Type} → (Int × (Int × Int)) → (Int → Int → Option β) → Option β
def zq88 (c : zq87) : Spec :=
  ⟨[(true, [.data (.prod (.int .i64) (.prod (.int .i64) (.int .i64)))])], [], [(false, [.data (.int .i64)]), (false, [.data (.int .i64)])], [], fun x k => c x.1.1.1 (fun r0 r1 => k (((r0, ()), (r1, ()), ()), ()))⟩
section
variable (c_civil_Valid : zq6v) (c_civil_number : zq72)
@[reducible] def civil_Day_X : Ctx := ⟨look tab, pick1 [(66, .spec (zq6w c_civil_Valid)), (67, .spec (zq73 c_civil_number))], false, false, false, false⟩
def zq89 {β : Type} (d : (Int × (Int × Int))) (k : (Int → Int → Option β)) : Option β :=
  c_civil_Valid d (fun (rValid : Bool) =>
  cond (!rValid)
  (k (0 : Int) (1 : Int))
  (c_civil_number d (fun (rnumber : Int) =>
  k rnumber (0 : Int))))
theorem zq8a (hΓ : ΓOk Tryz.prog (civil_Day_X c_civil_Valid c_civil_number).Γ) : SpecOk Tryz.prog 56 (zq88 (zq89 c_civil_Valid c_civil_number)) :=
  spec_exec (X := (civil_Day_X c_civil_Valid c_civil_number)) (Λ := pick1 []) (rs := [.tmp 2, .tmp 3]) (c := bodyOf Tryz.f56) mixed tab_ok hΓ Tryz.func56 (by kernel_rfl) (by kernel_rfl) (by kernel_rfl) (by kernel_rfl) CutsOk_nil (fun x k r h => Eq.trans (b := (zq88 (zq89 c_civil_Valid c_civil_number)).run x k) (by kernel_rfl) h)
end
theorem zq8bΓ : ΓOk Tryz.prog (pick1 [(66, .spec (zq6w zq70)), (67, .spec (zq73 zq7i))]) := (ΓOk_cons zq71 (ΓOk_cons zq7j ΓOk_nil))
def zq8c : zq87 := zq89 zq70 zq7i
theorem zq8d : SpecOk Tryz.prog 56 (zq88 zq8c) := zq8a zq70 zq7i zq8bΓ

/-- pagewatch/lexer.text -/
abbrev zq8e := {β : Type} → zq0 → ((List UInt8) → Bool → Option β) → Option β
def zq8f (c : zq8e) : Spec :=
  ⟨[(true, [.data zq1])], [], [(false, [.data .str]), (false, [.data .bool])], [], fun x k => c x.1.1.1 (fun r0 r1 => k (((r0, ()), (r1, ()), ()), ()))⟩
noncomputable def lexer_text_p1_code : Code := codeAt 861 (bodyOf Tryz.f32)
noncomputable def lexer_text_p2_code : Code := codeAt 27643 (bodyOf Tryz.f32)
abbrev zq8g (β : Type) := (List UInt8) → Bool → Option β
abbrev zq8h := {β : Type} → zq8g β → Bool → Int → (List UInt8) → Int → Option β
def zq8i : View := ⟨0, [1, 4], [(false, [.ptr 0 0]), (false, [.data .bool])], [.cells 23 [.data (.int .i64), .data .str, .data (.int .i64)]]⟩
def zq8j : List (AExit × View) := [(.ret, ⟨0, [2, 3], [(false, [.data .str]), (false, [.data .bool])], []⟩)]
@[reducible] def lexer_text_p1_G (p : zq8h) {β : Type} (d : zq8i.den) (ks : Outs.K β zq8j) : Option β :=
  p (fun a0 a1 => ks.1 (((a0, ()), (a1, ()), ()), ())) d.1.2.1.1 d.2.1.1 d.2.1.2.1 d.2.1.2.2.1
abbrev zq8k (β : Type) := (List UInt8) → Bool → Option β
abbrev zq8l := {β : Type} → zq8k β → Int → (List UInt8) → Option β
def zq8m : View := ⟨0, [5, 6], [(false, [.data (.int .i64)]), (false, [.data .str])], []⟩
def zq8n : List (AExit × View) := [(.ret, ⟨0, [2, 3], [(false, [.data .str]), (false, [.data .bool])], []⟩)]
@[reducible] def lexer_text_p2_G (p : zq8l) {β : Type} (d : zq8m.den) (ks : Outs.K β zq8n) : Option β :=
  p (fun a0 a1 => ks.1 (((a0, ()), (a1, ()), ()), ())) d.1.1.1 d.1.2.1.1
section
variable (c_lexer_dated : zq80) (c_lexer_hours : zq66) (c_strconv_Itoa : zq2b)
@[reducible] def lexer_text_X : Ctx := ⟨look tab, pick1 [(49, .spec (zq81 c_lexer_dated)), (48, .spec (zq67 c_lexer_hours)), (47, .spec (zq2c c_strconv_Itoa))], false, false, false, false⟩
def zq8o {β : Type} (k1 : zq8g β) (ok : Bool) (t : Int) (t2 : List UInt8) (t3 : Int) : Option β :=
  cond (!decide ((60 : Int) = 0))
  (c_lexer_hours t3 (!decide ((Int.tmod t3 (60 : Int)) = (0 : Int))) (fun (rhours : List UInt8) =>
  k1 rhours ok))
  none
def zq8p {β : Type} (k1 : zq8g β) (ok : Bool) (t : Int) (t2 : List UInt8) (t3 : Int) : Option β := zq8o c_lexer_hours k1 ok t t2 t3
theorem zq8q (hΓ : ΓOk Tryz.prog (lexer_text_X c_lexer_dated c_lexer_hours c_strconv_Itoa).Γ) : PieceOk Tryz.prog 95 0 lexer_text_p1_code zq8i zq8j (lexer_text_p1_G (zq8p c_lexer_hours)) :=
  piece_exec (X := (lexer_text_X c_lexer_dated c_lexer_hours c_strconv_Itoa)) (p := 861) (Λ := pick1 []) mixed tab_ok hΓ (by kernel_rfl) CutsOk_nil (fun d ks r h => Eq.trans (b := lexer_text_p1_G (zq8p c_lexer_hours) d ks) (by kernel_rfl) h)
def zq8r {β : Type} (k1 : zq8k β) (n : Int) (sign : List UInt8) : Option β :=
  c_lexer_hours n false (fun (rhours : List UInt8) =>
  cond (decide (List.length sign + List.length rhours ≤ 9223372036854775807))
  (cond (decide ((0 : Int) ≤ n))
  (cond (decide (n ≤ (64800 : Int)))
  (cond (!decide ((60 : Int) = 0))
  (let t : Bool := (decide ((Int.tmod n (60 : Int)) = (0 : Int)));
  k1 (sign ++ rhours) t)
  none)
  (k1 (sign ++ rhours) false))
  (k1 (sign ++ rhours) false))
  none)
def zq8s {β : Type} (k1 : zq8k β) (n : Int) (sign : List UInt8) : Option β := zq8r c_lexer_hours k1 n sign
theorem zq8t (hΓ : ΓOk Tryz.prog (lexer_text_X c_lexer_dated c_lexer_hours c_strconv_Itoa).Γ) : PieceOk Tryz.prog 95 0 lexer_text_p2_code zq8m zq8n (lexer_text_p2_G (zq8s c_lexer_hours)) :=
  piece_exec (X := (lexer_text_X c_lexer_dated c_lexer_hours c_strconv_Itoa)) (p := 27643) (Λ := pick1 []) mixed tab_ok hΓ (by kernel_rfl) CutsOk_nil (fun d ks r h => Eq.trans (b := lexer_text_p2_G (zq8s c_lexer_hours) d ks) (by kernel_rfl) h)
def zq8u (p1 : zq8h) (p2 : zq8l) {β : Type} (t : zq0) (k : ((List UInt8) → Bool → Option β)) : Option β :=
  let t2 : Bool := (decide (t.1 = (1 : Int)));
  cond t2
  (c_strconv_Itoa t.2.2 (fun (rItoa : List UInt8) =>
  cond (decide ((0 : Int) ≤ t.2.2))
  (let t3 : Bool := (decide (t.2.2 ≤ (999999999 : Int)));
  k rItoa t3)
  (k rItoa false)))
  (let t3 : Bool := (decide (t.1 = (2 : Int)));
  cond t3
  (cond (decide ((0 : Int) ≤ t.2.2))
  (let ok : Bool := (decide (t.2.2 ≤ (86400 : Int)));
  p1 (fun (t22 : List UInt8) (t32 : Bool) =>
  k t22 t32) ok t.1 t.2.1 t.2.2)
  (p1 (fun (t22 : List UInt8) (t32 : Bool) =>
  k t22 t32) false t.1 t.2.1 t.2.2))
  (let t4 : Bool := (decide (t.1 = (3 : Int)));
  cond t4
  (c_lexer_dated t.2.2 (fun (rdated : List UInt8) (rdated2 : Bool) =>
  k rdated rdated2))
  (let t5 : Bool := (decide (t.1 = (4 : Int)));
  cond t5
  (cond (decide (t.2.2 < (0 : Int)))
  (let n : Int := (IntKind.i64.wrap (0 - t.2.2));
  p2 (fun (t22 : List UInt8) (t32 : Bool) =>
  k t22 t32) n ([45] : List UInt8))
  (p2 (fun (t22 : List UInt8) (t32 : Bool) =>
  k t22 t32) t.2.2 ([43] : List UInt8)))
  (let t6 : Bool := (decide (t.1 = (5 : Int)));
  cond t6
  (cond (!decide ((86400 : Int) = 0))
  (c_lexer_dated (IntKind.i64.wrap (Int.tdiv t.2.2 (86400 : Int))) (fun (rdated : List UInt8) (rdated2 : Bool) =>
  cond (decide (List.length rdated + List.length ([84] : List UInt8) ≤ 9223372036854775807))
  (cond (!decide ((86400 : Int) = 0))
  (c_lexer_hours (Int.tmod t.2.2 (86400 : Int)) true (fun (rhours : List UInt8) =>
  cond (decide (List.length (rdated ++ ([84] : List UInt8)) + List.length rhours ≤ 9223372036854775807))
  (cond (decide (List.length ((rdated ++ ([84] : List UInt8)) ++ rhours) + List.length ([90] : List UInt8) ≤ 9223372036854775807))
  (cond rdated2
  (let t7 : List UInt8 := (((rdated ++ ([84] : List UInt8)) ++ rhours) ++ ([90] : List UInt8));
  let t8 : Bool := (decide ((0 : Int) ≤ t.2.2));
  k t7 t8)
  (let t7 : List UInt8 := (((rdated ++ ([84] : List UInt8)) ++ rhours) ++ ([90] : List UInt8));
  k t7 false))
  none)
  none))
  none)
  none))
  none)
  (k ([] : List UInt8) false)))))
theorem zq8v (hΓ : ΓOk Tryz.prog (lexer_text_X c_lexer_dated c_lexer_hours c_strconv_Itoa).Γ) (p1 : zq8h) (p2 : zq8l) (hp1 : PieceOk Tryz.prog 95 0 lexer_text_p1_code zq8i zq8j (lexer_text_p1_G p1)) (hp2 : PieceOk Tryz.prog 95 0 lexer_text_p2_code zq8m zq8n (lexer_text_p2_G p2)) : SpecOk Tryz.prog 32 (zq8f (zq8u c_lexer_dated c_lexer_hours c_strconv_Itoa p1 p2)) :=
  spec_exec (X := (lexer_text_X c_lexer_dated c_lexer_hours c_strconv_Itoa)) (Λ := pick1 [(861, pieceCut zq8i zq8j (lexer_text_p1_G p1)), (27643, pieceCut zq8m zq8n (lexer_text_p2_G p2))]) (rs := [.tmp 2, .tmp 3]) (c := bodyOf Tryz.f32) mixed tab_ok hΓ Tryz.func32 (by kernel_rfl) (by kernel_rfl) (by kernel_rfl) (by kernel_rfl) (CutsOk_cons (q := 861) (c' := lexer_text_p1_code) (by kernel_rfl) rfl hp1 (CutsOk_cons (q := 27643) (c' := lexer_text_p2_code) (by kernel_rfl) rfl hp2 CutsOk_nil)) (fun x k r h => Eq.trans (b := (zq8f (zq8u c_lexer_dated c_lexer_hours c_strconv_Itoa p1 p2)).run x k) (by kernel_rfl) h)
end
theorem zq8wΓ : ΓOk Tryz.prog (pick1 [(49, .spec (zq81 zq85)), (48, .spec (zq67 zq6b)), (47, .spec (zq2c zq2d))]) := (ΓOk_cons zq86 (ΓOk_cons zq6c (ΓOk_cons zq2e ΓOk_nil)))
def zq8x : zq8h := zq8p zq6b
theorem zq8y : PieceOk Tryz.prog 95 0 lexer_text_p1_code zq8i zq8j (lexer_text_p1_G zq8x) := zq8q zq85 zq6b zq2d zq8wΓ
def zq8z : zq8l := zq8s zq6b
theorem zq90 : PieceOk Tryz.prog 95 0 lexer_text_p2_code zq8m zq8n (lexer_text_p2_G zq8z) := zq8t zq85 zq6b zq2d zq8wΓ
def zq91 : zq8e := zq8u zq85 zq6b zq2d zq8x zq8z
theorem zq92 : SpecOk Tryz.prog 32 (zq8f zq91) := zq8v zq85 zq6b zq2d zq8wΓ zq8x zq8z zq8y zq90

/-- pagewatch/lexer.date -/
abbrev zq93 := {β : Type} → (List UInt8) → (Int → Bool → Option β) → Option β
def zq94 (c : zq93) : Spec :=
  ⟨[(false, [.data .str])], [], [(false, [.data (.int .i64)]), (false, [.data .bool])], [], fun x k => c x.1.1.1 (fun r0 r1 => k (((r0, ()), (r1, ()), ()), ()))⟩
section
variable (c_civil_Day : zq87) (c_lexer_number : zq3u) (c_lexer_two : zq4d)
@[reducible] def lexer_date_X : Ctx := ⟨look tab, pick1 [(56, .spec (zq88 c_civil_Day)), (42, .spec (zq3v c_lexer_number)), (55, .spec (zq4e c_lexer_two))], false, false, false, false⟩
def zq95 {β : Type} (s : List UInt8) (k : (Int → Bool → Option β)) : Option β :=
  cond (!decide ((List.length s : Int) = (10 : Int)))
  (k (0 : Int) false)
  (cond (decide (0 ≤ (4 : Int)) && decide ((4 : Int) < (List.length s : Int)))
  (cond (!decide (((List.getD s (Int.toNat (4 : Int)) 0).toNat : Int) = (45 : Int)))
  (k (0 : Int) false)
  (cond (decide (0 ≤ (7 : Int)) && decide ((7 : Int) < (List.length s : Int)))
  (cond (!decide (((List.getD s (Int.toNat (7 : Int)) 0).toNat : Int) = (45 : Int)))
  (k (0 : Int) false)
  (cond (decide (0 ≤ (0 : Int)) && (decide ((0 : Int) ≤ (4 : Int)) && decide ((4 : Int) ≤ (List.length s : Int))))
  (c_lexer_number (List.drop (Int.toNat (0 : Int)) (List.take (Int.toNat (4 : Int)) s)) (fun (rnumber : Int) (rnumber2 : Bool) =>
  cond (decide (0 ≤ (5 : Int)) && (decide ((5 : Int) ≤ (7 : Int)) && decide ((7 : Int) ≤ (List.length s : Int))))
  (c_lexer_two (List.drop (Int.toNat (5 : Int)) (List.take (Int.toNat (7 : Int)) s)) (fun (rtwo : Int) (rtwo2 : Bool) =>
  cond (decide (0 ≤ (8 : Int)) && (decide ((8 : Int) ≤ (List.length s : Int)) && decide ((List.length s : Int) ≤ (List.length s : Int))))
  (c_lexer_two (List.drop (Int.toNat (8 : Int)) (List.take (Int.toNat (List.length s : Int)) s)) (fun (rtwo3 : Int) (rtwo4 : Bool) =>
  c_civil_Day (rnumber, (rtwo, rtwo3)) (fun (rDay : Int) (rDay2 : Int) =>
  cond rnumber2
  (cond rtwo2
  (cond rtwo4
  (let t : Bool := (decide (rDay2 = (0 : Int)));
  k rDay t)
  (k rDay false))
  (k rDay false))
  (k rDay false))))
  none))
  none))
  none))
  none))
  none)
theorem zq96 (hΓ : ΓOk Tryz.prog (lexer_date_X c_civil_Day c_lexer_number c_lexer_two).Γ) : SpecOk Tryz.prog 40 (zq94 (zq95 c_civil_Day c_lexer_number c_lexer_two)) :=
  spec_exec (X := (lexer_date_X c_civil_Day c_lexer_number c_lexer_two)) (Λ := pick1 []) (rs := [.tmp 2, .tmp 3]) (c := bodyOf Tryz.f40) mixed tab_ok hΓ Tryz.func40 (by kernel_rfl) (by kernel_rfl) (by kernel_rfl) (by kernel_rfl) CutsOk_nil (fun x k r h => Eq.trans (b := (zq94 (zq95 c_civil_Day c_lexer_number c_lexer_two)).run x k) (by kernel_rfl) h)
end
theorem zq97Γ : ΓOk Tryz.prog (pick1 [(56, .spec (zq88 zq8c)), (42, .spec (zq3v zq4b)), (55, .spec (zq4e zq4i))]) := (ΓOk_cons zq8d (ΓOk_cons zq4c (ΓOk_cons zq4j ΓOk_nil)))
def zq98 : zq93 := zq95 zq8c zq4b zq4i
theorem zq99 : SpecOk Tryz.prog 40 (zq94 zq98) := zq96 zq8c zq4b zq4i zq97Γ

/-- pagewatch/lexer.Text -/
abbrev zq9a := {β : Type} → zq0 → ((List UInt8) → Int → Option β) → Option β
def zq9b (c : zq9a) : Spec :=
  ⟨[(true, [.data zq1])], [], [(false, [.data .str]), (false, [.data (.int .i64)])], [], fun x k => c x.1.1.1 (fun r0 r1 => k (((r0, ()), (r1, ()), ()), ()))⟩
section
variable (c_lexer_Name : zq3b) (c_lexer_text : zq8e)
@[reducible] def lexer_Text_X : Ctx := ⟨look tab, pick1 [(16, .spec (zq3c c_lexer_Name)), (32, .spec (zq8f c_lexer_text))], false, false, false, false⟩
def zq9c {β : Type} (t : zq0) (k : ((List UInt8) → Int → Option β)) : Option β :=
  cond (decide (t.1 = (0 : Int)))
  (c_lexer_Name t.2.1 (fun (rName : Bool) =>
  cond (!rName)
  (k ([] : List UInt8) (8 : Int))
  (cond (!decide (t.2.2 = (0 : Int)))
  (k ([] : List UInt8) (8 : Int))
  (k t.2.1 (0 : Int)))))
  (c_lexer_text t (fun (rtext : List UInt8) (rtext2 : Bool) =>
  cond (!rtext2)
  (k ([] : List UInt8) (8 : Int))
  (cond (!decide (t.2.1 = ([] : List UInt8)))
  (k ([] : List UInt8) (8 : Int))
  (k rtext (0 : Int)))))
theorem zq9d (hΓ : ΓOk Tryz.prog (lexer_Text_X c_lexer_Name c_lexer_text).Γ) : SpecOk Tryz.prog 19 (zq9b (zq9c c_lexer_Name c_lexer_text)) :=
  spec_exec (X := (lexer_Text_X c_lexer_Name c_lexer_text)) (Λ := pick1 []) (rs := [.tmp 2, .tmp 3]) (c := bodyOf Tryz.f19) mixed tab_ok hΓ Tryz.func19 (by kernel_rfl) (by kernel_rfl) (by kernel_rfl) (by kernel_rfl) CutsOk_nil (fun x k r h => Eq.trans (b := (zq9b (zq9c c_lexer_Name c_lexer_text)).run x k) (by kernel_rfl) h)
end
theorem zq9eΓ : ΓOk Tryz.prog (pick1 [(16, .spec (zq3c zq3s)), (32, .spec (zq8f zq91))]) := (ΓOk_cons zq3t (ΓOk_cons zq92 ΓOk_nil))
def zq9f : zq9a := zq9c zq3s zq91
theorem zq9g : SpecOk Tryz.prog 19 (zq9b zq9f) := zq9d zq3s zq91 zq9eΓ

/-- pagewatch/lexer.instant -/
abbrev zq9h := {β : Type} → (List UInt8) → (Int → Bool → Option β) → Option β
def zq9i (c : zq9h) : Spec :=
  ⟨[(false, [.data .str])], [], [(false, [.data (.int .i64)]), (false, [.data .bool])], [], fun x k => c x.1.1.1 (fun r0 r1 => k (((r0, ()), (r1, ()), ()), ()))⟩
section
variable (c_lexer_clock : zq5n) (c_lexer_date : zq93)
@[reducible] def lexer_instant_X : Ctx := ⟨look tab, pick1 [(41, .spec (zq5o c_lexer_clock)), (40, .spec (zq94 c_lexer_date))], false, false, false, false⟩
def zq9j {β : Type} (s : List UInt8) (k : (Int → Bool → Option β)) : Option β :=
  cond (!decide ((List.length s : Int) = (20 : Int)))
  (k (0 : Int) false)
  (cond (decide (0 ≤ (10 : Int)) && decide ((10 : Int) < (List.length s : Int)))
  (cond (!decide (((List.getD s (Int.toNat (10 : Int)) 0).toNat : Int) = (84 : Int)))
  (k (0 : Int) false)
  (cond (decide (0 ≤ (19 : Int)) && decide ((19 : Int) < (List.length s : Int)))
  (cond (!decide (((List.getD s (Int.toNat (19 : Int)) 0).toNat : Int) = (90 : Int)))
  (k (0 : Int) false)
  (cond (decide (0 ≤ (0 : Int)) && (decide ((0 : Int) ≤ (10 : Int)) && decide ((10 : Int) ≤ (List.length s : Int))))
  (c_lexer_date (List.drop (Int.toNat (0 : Int)) (List.take (Int.toNat (10 : Int)) s)) (fun (rdate : Int) (rdate2 : Bool) =>
  cond (decide (0 ≤ (11 : Int)) && (decide ((11 : Int) ≤ (19 : Int)) && decide ((19 : Int) ≤ (List.length s : Int))))
  (c_lexer_clock (List.drop (Int.toNat (11 : Int)) (List.take (Int.toNat (19 : Int)) s)) (fun (rclock : Int) (rclock2 : Bool) =>
  cond rdate2
  (cond rclock2
  (let t : Int := (IntKind.i64.wrap ((IntKind.i64.wrap (rdate * (86400 : Int))) + rclock));
  let t2 : Bool := (decide (rclock < (86400 : Int)));
  k t t2)
  (let t : Int := (IntKind.i64.wrap ((IntKind.i64.wrap (rdate * (86400 : Int))) + rclock));
  k t false))
  (let t : Int := (IntKind.i64.wrap ((IntKind.i64.wrap (rdate * (86400 : Int))) + rclock));
  k t false)))
  none))
  none))
  none))
  none)
theorem zq9k (hΓ : ΓOk Tryz.prog (lexer_instant_X c_lexer_clock c_lexer_date).Γ) : SpecOk Tryz.prog 39 (zq9i (zq9j c_lexer_clock c_lexer_date)) :=
  spec_exec (X := (lexer_instant_X c_lexer_clock c_lexer_date)) (Λ := pick1 []) (rs := [.tmp 2, .tmp 3]) (c := bodyOf Tryz.f39) mixed tab_ok hΓ Tryz.func39 (by kernel_rfl) (by kernel_rfl) (by kernel_rfl) (by kernel_rfl) CutsOk_nil (fun x k r h => Eq.trans (b := (zq9i (zq9j c_lexer_clock c_lexer_date)).run x k) (by kernel_rfl) h)
end
theorem zq9lΓ : ΓOk Tryz.prog (pick1 [(41, .spec (zq5o zq64)), (40, .spec (zq94 zq98))]) := (ΓOk_cons zq65 (ΓOk_cons zq99 ΓOk_nil))
def zq9m : zq9h := zq9j zq64 zq98
theorem zq9n : SpecOk Tryz.prog 39 (zq9i zq9m) := zq9k zq64 zq98 zq9lΓ

/-- pagewatch/lexer.form -/
abbrev zq9o := {β : Type} → (List UInt8) → (Int → Int → Bool → Option β) → Option β
def zq9p (c : zq9o) : Spec :=
  ⟨[(false, [.data .str])], [], [(false, [.data (.int .i64)]), (false, [.data (.int .i64)]), (false, [.data .bool])], [], fun x k => c x.1.1.1 (fun r0 r1 r2 => k (((r0, ()), (r1, ()), (r2, ()), ()), ()))⟩
noncomputable def lexer_form_p1_code : Code := codeAt 7 (bodyOf Tryz.f21)
noncomputable def lexer_form_p2_code : Code := codeAt 215 (bodyOf Tryz.f21)
abbrev zq9q (β : Type) := Int → Int → Bool → Option β
abbrev zq9r := {β : Type} → zq9q β → (List UInt8) → Option β
def zq9s : View := ⟨0, [0], [(false, [.data .str])], []⟩
def zq9t : List (AExit × View) := [(.ret, ⟨0, [2, 3, 4], [(false, [.data (.int .i64)]), (false, [.data (.int .i64)]), (false, [.data .bool])], []⟩)]
@[reducible] def lexer_form_p1_G (p : zq9r) {β : Type} (d : zq9s.den) (ks : Outs.K β zq9t) : Option β :=
  p (fun a0 a1 a2 => ks.1 (((a0, ()), (a1, ()), (a2, ()), ()), ())) d.1.1.1
abbrev zq9u (β : Type) := Int → Int → Bool → Option β
abbrev zq9v (β : Type) := (List UInt8) → Option β
abbrev zq9w := {β : Type} → zq9u β → zq9v β → (List UInt8) → Bool → Option β
def zq9x : View := ⟨0, [0, 23], [(false, [.data .str]), (false, [.data .bool])], []⟩
def zq9y : List (AExit × View) := [(.ret, ⟨0, [2, 3, 4], [(false, [.data (.int .i64)]), (false, [.data (.int .i64)]), (false, [.data .bool])], []⟩), (.normal, ⟨0, [0], [(false, [.data .str])], []⟩)]
@[reducible] def lexer_form_p2_G (p : zq9w) {β : Type} (d : zq9x.den) (ks : Outs.K β zq9y) : Option β :=
  p (fun a0 a1 a2 => ks.1 (((a0, ()), (a1, ()), (a2, ()), ()), ())) (fun a0 => ks.2.1 (((a0, ()), ()), ())) d.1.1.1 d.1.2.1.1
section
variable (c_lexer_Name : zq3b) (c_lexer_clock : zq5n) (c_lexer_date : zq93) (c_lexer_instant : zq9h) (c_lexer_number : zq3u) (c_lexer_offset : zq7k) (c_lexer_small : zq1p) (c_strings_Contains : zq25)
@[reducible] def lexer_form_X : Ctx := ⟨look tab, pick1 [(16, .spec (zq3c c_lexer_Name)), (41, .spec (zq5o c_lexer_clock)), (40, .spec (zq94 c_lexer_date)), (39, .spec (zq9i c_lexer_instant)), (42, .spec (zq3v c_lexer_number)), (37, .spec (zq7l c_lexer_offset)), (29, .spec (zq1q c_lexer_small)), (38, .spec (zq26 c_strings_Contains))], false, false, false, false⟩
def zq9z {β : Type} (k1 : zq9q β) (s : List UInt8) : Option β :=
  c_lexer_number s (fun (rnumber : Int) (rnumber2 : Bool) =>
  cond rnumber2
  (cond (decide (0 ≤ (0 : Int)) && decide ((0 : Int) < (List.length s : Int)))
  (cond (!decide (((List.getD s (Int.toNat (0 : Int)) 0).toNat : Int) = (48 : Int)))
  (k1 (1 : Int) rnumber true)
  (let t : Bool := (decide (s = ([48] : List UInt8)));
  k1 (1 : Int) rnumber t))
  none)
  (k1 (1 : Int) rnumber false))
def zqa0 {β : Type} (k1 : zq9q β) (s : List UInt8) : Option β := zq9z c_lexer_number k1 s
theorem zqa1 (hΓ : ΓOk Tryz.prog (lexer_form_X c_lexer_Name c_lexer_clock c_lexer_date c_lexer_instant c_lexer_number c_lexer_offset c_lexer_small c_strings_Contains).Γ) : PieceOk Tryz.prog 83 0 lexer_form_p1_code zq9s zq9t (lexer_form_p1_G (zqa0 c_lexer_number)) :=
  piece_exec (X := (lexer_form_X c_lexer_Name c_lexer_clock c_lexer_date c_lexer_instant c_lexer_number c_lexer_offset c_lexer_small c_strings_Contains)) (p := 7) (Λ := pick1 []) mixed tab_ok hΓ (by kernel_rfl) CutsOk_nil (fun d ks r h => Eq.trans (b := lexer_form_p1_G (zqa0 c_lexer_number) d ks) (by kernel_rfl) h)
def zqa2 {β : Type} (k1 : zq9u β) (k2 : zq9v β) (s : List UInt8) (t23 : Bool) : Option β :=
  cond t23
  (c_lexer_offset s (fun (roffset : Int) (roffset2 : Bool) =>
  k1 (4 : Int) roffset roffset2))
  (c_strings_Contains s ([84] : List UInt8) (fun (rContains : Bool) =>
  cond rContains
  (c_lexer_instant s (fun (rinstant : Int) (rinstant2 : Bool) =>
  k1 (5 : Int) rinstant rinstant2))
  (c_strings_Contains s ([45] : List UInt8) (fun (rContains2 : Bool) =>
  cond rContains2
  (c_lexer_date s (fun (rdate : Int) (rdate2 : Bool) =>
  k1 (3 : Int) rdate rdate2))
  (c_strings_Contains s ([58] : List UInt8) (fun (rContains3 : Bool) =>
  cond rContains3
  (c_lexer_clock s (fun (rclock : Int) (rclock2 : Bool) =>
  k1 (2 : Int) rclock rclock2))
  (k2 s)))))))
def zqa3 {β : Type} (k1 : zq9u β) (k2 : zq9v β) (s : List UInt8) (t23 : Bool) : Option β := zqa2 c_lexer_clock c_lexer_date c_lexer_instant c_lexer_offset c_strings_Contains k1 k2 s t23
theorem zqa4 (hΓ : ΓOk Tryz.prog (lexer_form_X c_lexer_Name c_lexer_clock c_lexer_date c_lexer_instant c_lexer_number c_lexer_offset c_lexer_small c_strings_Contains).Γ) : PieceOk Tryz.prog 83 0 lexer_form_p2_code zq9x zq9y (lexer_form_p2_G (zqa3 c_lexer_clock c_lexer_date c_lexer_instant c_lexer_offset c_strings_Contains)) :=
  piece_exec (X := (lexer_form_X c_lexer_Name c_lexer_clock c_lexer_date c_lexer_instant c_lexer_number c_lexer_offset c_lexer_small c_strings_Contains)) (p := 215) (Λ := pick1 []) mixed tab_ok hΓ (by kernel_rfl) CutsOk_nil (fun d ks r h => Eq.trans (b := lexer_form_p2_G (zqa3 c_lexer_clock c_lexer_date c_lexer_instant c_lexer_offset c_strings_Contains) d ks) (by kernel_rfl) h)
def zqa5 (p1 : zq9r) (p2 : zq9w) {β : Type} (s : List UInt8) (k : (Int → Int → Bool → Option β)) : Option β :=
  cond (decide (0 ≤ (0 : Int)) && decide ((0 : Int) < (List.length s : Int)))
  (let c : Int := ((List.getD s (Int.toNat (0 : Int)) 0).toNat : Int);
  c_lexer_small c (fun (rsmall : Bool) =>
  cond rsmall
  (c_lexer_Name s (fun (rName : Bool) =>
  k (0 : Int) (0 : Int) rName))
  (cond (decide (c = (43 : Int)))
  (p2 (fun (t2 : Int) (t3 : Int) (t4 : Bool) =>
  k t2 t3 t4) (fun (s2 : List UInt8) =>
  p1 (fun (t2 : Int) (t3 : Int) (t4 : Bool) =>
  k t2 t3 t4) s2) s true)
  (let t : Bool := (decide (c = (45 : Int)));
  p2 (fun (t2 : Int) (t3 : Int) (t4 : Bool) =>
  k t2 t3 t4) (fun (s2 : List UInt8) =>
  p1 (fun (t2 : Int) (t3 : Int) (t4 : Bool) =>
  k t2 t3 t4) s2) s t))))
  none
theorem zqa6 (hΓ : ΓOk Tryz.prog (lexer_form_X c_lexer_Name c_lexer_clock c_lexer_date c_lexer_instant c_lexer_number c_lexer_offset c_lexer_small c_strings_Contains).Γ) (p1 : zq9r) (p2 : zq9w) (hp1 : PieceOk Tryz.prog 83 0 lexer_form_p1_code zq9s zq9t (lexer_form_p1_G p1)) (hp2 : PieceOk Tryz.prog 83 0 lexer_form_p2_code zq9x zq9y (lexer_form_p2_G p2)) : SpecOk Tryz.prog 21 (zq9p (zqa5 c_lexer_Name c_lexer_small p1 p2)) :=
  spec_exec (X := (lexer_form_X c_lexer_Name c_lexer_clock c_lexer_date c_lexer_instant c_lexer_number c_lexer_offset c_lexer_small c_strings_Contains)) (Λ := pick1 [(7, pieceCut zq9s zq9t (lexer_form_p1_G p1)), (215, pieceCut zq9x zq9y (lexer_form_p2_G p2))]) (rs := [.tmp 2, .tmp 3, .tmp 4]) (c := bodyOf Tryz.f21) mixed tab_ok hΓ Tryz.func21 (by kernel_rfl) (by kernel_rfl) (by kernel_rfl) (by kernel_rfl) (CutsOk_cons (q := 7) (c' := lexer_form_p1_code) (by kernel_rfl) rfl hp1 (CutsOk_cons (q := 215) (c' := lexer_form_p2_code) (by kernel_rfl) rfl hp2 CutsOk_nil)) (fun x k r h => Eq.trans (b := (zq9p (zqa5 c_lexer_Name c_lexer_small p1 p2)).run x k) (by kernel_rfl) h)
end
theorem zqa7Γ : ΓOk Tryz.prog (pick1 [(16, .spec (zq3c zq3s)), (41, .spec (zq5o zq64)), (40, .spec (zq94 zq98)), (39, .spec (zq9i zq9m)), (42, .spec (zq3v zq4b)), (37, .spec (zq7l zq7y)), (29, .spec (zq1q zq1u)), (38, .spec (zq26 zq27))]) := (ΓOk_cons zq3t (ΓOk_cons zq65 (ΓOk_cons zq99 (ΓOk_cons zq9n (ΓOk_cons zq4c (ΓOk_cons zq7z (ΓOk_cons zq1v (ΓOk_cons zq28 ΓOk_nil))))))))
def zqa8 : zq9r := zqa0 zq4b
theorem zqa9 : PieceOk Tryz.prog 83 0 lexer_form_p1_code zq9s zq9t (lexer_form_p1_G zqa8) := zqa1 zq3s zq64 zq98 zq9m zq4b zq7y zq1u zq27 zqa7Γ
def zqaa : zq9w := zqa3 zq64 zq98 zq9m zq7y zq27
theorem zqab : PieceOk Tryz.prog 83 0 lexer_form_p2_code zq9x zq9y (lexer_form_p2_G zqaa) := zqa4 zq3s zq64 zq98 zq9m zq4b zq7y zq1u zq27 zqa7Γ
def zqac : zq9o := zqa5 zq3s zq1u zqa8 zqaa
theorem zqad : SpecOk Tryz.prog 21 (zq9p zqac) := zqa6 zq3s zq64 zq98 zq9m zq4b zq7y zq1u zq27 zqa7Γ zqa8 zqaa zqa9 zqab

/-- pagewatch/lexer.Token -/
abbrev zqae := {β : Type} → (List UInt8) → (zq0 → Int → Option β) → Option β
def zqaf (c : zqae) : Spec :=
  ⟨[(false, [.data .str])], [], [(true, [.data zq1]), (false, [.data (.int .i64)])], [], fun x k => c x.1.1.1 (fun r0 r1 => k (((r0, ()), (r1, ()), ()), ()))⟩
section
variable (c_lexer_form : zq9o)
@[reducible] def lexer_Token_X : Ctx := ⟨look tab, pick1 [(21, .spec (zq9p c_lexer_form))], false, false, false, false⟩
def zqag {β : Type} (word : List UInt8) (k : (zq0 → Int → Option β)) : Option β :=
  cond (decide (word = ([] : List UInt8)))
  (k ((0 : Int), (([] : List UInt8), (0 : Int))) (2 : Int))
  (c_lexer_form word (fun (rform : Int) (rform2 : Int) (rform3 : Bool) =>
  cond (!rform3)
  (k ((0 : Int), (([] : List UInt8), (0 : Int))) (2 : Int))
  (let t : Bool := (decide (rform = (0 : Int)));
  cond t
  (k (rform, (word, (0 : Int))) (0 : Int))
  (k (rform, (([] : List UInt8), rform2)) (0 : Int)))))
theorem zqah (hΓ : ΓOk Tryz.prog (lexer_Token_X c_lexer_form).Γ) : SpecOk Tryz.prog 11 (zqaf (zqag c_lexer_form)) :=
  spec_exec (X := (lexer_Token_X c_lexer_form)) (Λ := pick1 []) (rs := [.cell 2 23, .tmp 3]) (c := bodyOf Tryz.f11) mixed tab_ok hΓ Tryz.func11 (by kernel_rfl) (by kernel_rfl) (by kernel_rfl) (by kernel_rfl) CutsOk_nil (fun x k r h => Eq.trans (b := (zqaf (zqag c_lexer_form)).run x k) (by kernel_rfl) h)
end
theorem zqaiΓ : ΓOk Tryz.prog (pick1 [(21, .spec (zq9p zqac))]) := (ΓOk_cons zqad ΓOk_nil)
def zqaj : zqae := zqag zqac
theorem zqak : SpecOk Tryz.prog 11 (zqaf zqaj) := zqah zqac zqaiΓ

/-- pagewatch/lexer.Line -/
abbrev zqal := {β : Type} → (List UInt8) → (Int → (List zq0) → Option β) → Option β
def zqam (c : zqal) : Spec :=
  ⟨[(false, [.data .str])], [], [(false, [.rowh 0]), (false, [.data (.int .i64)])], [.row 23 zq1], fun x k => c x.1.1.1 (fun r0 r1 => k (((), (r0, ()), ()), (r1, ())))⟩
noncomputable def lexer_Line_p1_code : Code := codeAt 58 (bodyOf Tryz.f13)
noncomputable def lexer_Line_p2_code : Code := codeAt 506 (bodyOf Tryz.f13)
abbrev zqan (β : Type) := Int → (List zq0) → Option β
abbrev zqao (β : Type) := (List UInt8) → Option β
abbrev zqap := {β : Type} → zqan β → zqao β → (List UInt8) → Int → Int → Option β
def zqaq : View := ⟨0, [0, 14, 15], [(false, [.data .str]), (false, [.data (.int .i64)]), (false, [.data (.int .i64)])], []⟩
def zqar : List (AExit × View) := [(.ret, ⟨0, [2, 3], [(false, [.rowh 0]), (false, [.data (.int .i64)])], [.row 23 zq1]⟩), (.exit 0, ⟨0, [0], [(false, [.data .str])], []⟩)]
@[reducible] def lexer_Line_p1_G (p : zqap) {β : Type} (d : zqaq.den) (ks : Outs.K β zqar) : Option β :=
  p (fun a0 a1 => ks.1 (((), (a0, ()), ()), (a1, ()))) (fun a0 => ks.2.1 (((a0, ()), ()), ())) d.1.1.1 d.1.2.1.1 d.1.2.2.1.1
abbrev zqas (β : Type) := Int → (List zq0) → Option β
abbrev zqat (β : Type) := (List zq0) → Option β
abbrev zqau := {β : Type} → zqas β → zqat β → Int → Int → (List zq0) → (List (List UInt8)) → Option β
def zqav : View := ⟨0, [5, 36, 37, 38], [(false, [.rowh 0]), (false, [.rowh 1]), (false, [.data (.int .i64)]), (false, [.data (.int .i64)])], [.row 23 zq1, .row 9 .str]⟩
def zqaw : List (AExit × View) := [(.ret, ⟨0, [2, 3], [(false, [.rowh 0]), (false, [.data (.int .i64)])], [.row 23 zq1]⟩), (.exit 2, ⟨0, [5], [(false, [.rowh 0])], [.row 23 zq1]⟩)]
@[reducible] def lexer_Line_p2_G (p : zqau) {β : Type} (d : zqav.den) (ks : Outs.K β zqaw) : Option β :=
  p (fun a0 a1 => ks.1 (((), (a0, ()), ()), (a1, ()))) (fun a0 => ks.2.1 (((), ()), (a0, ()))) d.1.2.2.1.1 d.1.2.2.2.1.1 d.2.1 d.2.2.1
section
variable (c_lexer_Token : zqae) (c_strings_Cut : zq1f) (c_strings_Fields : zq1l)
@[reducible] def lexer_Line_X : Ctx := ⟨look tab, pick1 [(11, .spec (zqaf c_lexer_Token)), (26, .spec (zq1g c_strings_Cut)), (27, .spec (zq1m c_strings_Fields))], false, false, false, false⟩
def zqax {β : Type} (rec : (List UInt8) → Int → Int → Option β) (k1 : zqan β) (k2 : zqao β) (text : List UInt8) (t14 : Int) (t15 : Int) : Option β :=
  cond (decide (t15 < t14))
  (cond (decide (0 ≤ t15) && decide (t15 < (List.length text : Int)))
  (cond (decide (((List.getD text (Int.toNat t15) 0).toNat : Int) < (32 : Int)))
  (k1 (2 : Int) ([] : List zq0))
  (cond (decide (0 ≤ t15) && decide (t15 < (List.length text : Int)))
  (cond (decide ((126 : Int) < ((List.getD text (Int.toNat t15) 0).toNat : Int)))
  (k1 (2 : Int) ([] : List zq0))
  (rec text t14 (IntKind.i64.wrap (t15 + (1 : Int)))))
  none))
  none)
  (k2 text)
def zqay {β : Type} : Nat → zqan β → zqao β → (List UInt8) → Int → Int → Option β
  | 0 => fun _ _ _ _ _ => none
  | i + 1 => fun k1 k2 text t14 t15 => zqax (zqay i k1 k2) k1 k2 text t14 t15
theorem zqaz (hΓ : ΓOk Tryz.prog (lexer_Line_X c_lexer_Token c_strings_Cut c_strings_Fields).Γ) (i : Nat) : PieceOk Tryz.prog 56 0 lexer_Line_p1_code zqaq zqar (lexer_Line_p1_G (zqay i)) := by
  rw [show lexer_Line_p1_code = .loop (loopBody lexer_Line_p1_code) by kernel_rfl]
  exact piece_loop (X := (lexer_Line_X c_lexer_Token c_strings_Cut c_strings_Fields)) (p := 1) (Λ := pick1 []) (G := fun i => @fun β d ks => lexer_Line_p1_G (zqay i) d ks) mixed tab_ok hΓ rfl (by kernel_rfl) CutsOk_nil (fun _ _ => rfl) (fun i => @fun β d ks r h => Eq.trans (b := lexer_Line_p1_G (zqay (i + 1)) d ks) (by kernel_rfl) h) i
def zqb0 {β : Type} (rec : Int → Int → (List zq0) → (List (List UInt8)) → Option β) (k1 : zqas β) (k2 : zqat β) (t37 : Int) (t38 : Int) (out : List zq0) (t36 : List (List UInt8)) : Option β :=
  cond (decide (t38 < t37))
  (cond (decide (0 ≤ t38) && decide (t38 < (List.length t36 : Int)))
  (let w : List UInt8 := (List.getD t36 (Int.toNat t38) ([] : List UInt8));
  c_lexer_Token w (fun (rToken : zq0) (rToken2 : Int) =>
  cond (!decide (rToken2 = (0 : Int)))
  (k1 rToken2 ([] : List zq0))
  (let l : List zq0 := ([rToken] : List zq0);
  cond (decide ((List.length out + List.length l) * 32 ≤ roomMax))
  (let l2 : List zq0 := (out ++ l);
  rec t37 (IntKind.i64.wrap (t38 + (1 : Int))) l2 t36)
  none)))
  none)
  (k2 out)
def zqb1 {β : Type} : Nat → zqas β → zqat β → Int → Int → (List zq0) → (List (List UInt8)) → Option β
  | 0 => fun _ _ _ _ _ _ => none
  | i + 1 => fun k1 k2 t37 t38 out t36 => zqb0 c_lexer_Token (zqb1 i k1 k2) k1 k2 t37 t38 out t36
theorem zqb2 (hΓ : ΓOk Tryz.prog (lexer_Line_X c_lexer_Token c_strings_Cut c_strings_Fields).Γ) (i : Nat) : PieceOk Tryz.prog 56 0 lexer_Line_p2_code zqav zqaw (lexer_Line_p2_G (zqb1 c_lexer_Token i)) := by
  rw [show lexer_Line_p2_code = .loop (loopBody lexer_Line_p2_code) by kernel_rfl]
  exact piece_loop (X := (lexer_Line_X c_lexer_Token c_strings_Cut c_strings_Fields)) (p := 1) (Λ := pick1 []) (G := fun i => @fun β d ks => lexer_Line_p2_G (zqb1 c_lexer_Token i) d ks) mixed tab_ok hΓ rfl (by kernel_rfl) CutsOk_nil (fun _ _ => rfl) (fun i => @fun β d ks r h => Eq.trans (b := lexer_Line_p2_G (zqb1 c_lexer_Token (i + 1)) d ks) (by kernel_rfl) h) i
def zqb3 (p1 : zqap) (p2 : zqau) {β : Type} (text : List UInt8) (k : (Int → (List zq0) → Option β)) : Option β :=
  cond (decide ((512 : Int) < (List.length text : Int)))
  (k (5 : Int) ([] : List zq0))
  (p1 (fun (t3 : Int) (t2 : List zq0) =>
  k t3 t2) (fun (text2 : List UInt8) =>
  c_strings_Cut text2 ([35] : List UInt8) (fun (rCut : List UInt8) (rCut2 : List UInt8) (rCut3 : Bool) =>
  c_strings_Fields rCut (fun (lrFields : List (List UInt8)) =>
  p2 (fun (t3 : Int) (t2 : List zq0) =>
  k t3 t2) (fun (out : List zq0) =>
  k (0 : Int) out) (List.length lrFields : Int) (0 : Int) ([] : List zq0) lrFields))) text (List.length text : Int) (0 : Int))
theorem zqb4 (hΓ : ΓOk Tryz.prog (lexer_Line_X c_lexer_Token c_strings_Cut c_strings_Fields).Γ) (p1 : zqap) (p2 : zqau) (hp1 : PieceOk Tryz.prog 56 0 lexer_Line_p1_code zqaq zqar (lexer_Line_p1_G p1)) (hp2 : PieceOk Tryz.prog 56 0 lexer_Line_p2_code zqav zqaw (lexer_Line_p2_G p2)) : SpecOk Tryz.prog 13 (zqam (zqb3 c_strings_Cut c_strings_Fields p1 p2)) :=
  spec_exec (X := (lexer_Line_X c_lexer_Token c_strings_Cut c_strings_Fields)) (Λ := pick1 [(58, pieceCut zqaq zqar (lexer_Line_p1_G p1)), (506, pieceCut zqav zqaw (lexer_Line_p2_G p2))]) (rs := [.tmp 2, .tmp 3]) (c := bodyOf Tryz.f13) mixed tab_ok hΓ Tryz.func13 (by kernel_rfl) (by kernel_rfl) (by kernel_rfl) (by kernel_rfl) (CutsOk_cons (q := 58) (c' := lexer_Line_p1_code) (by kernel_rfl) rfl hp1 (CutsOk_cons (q := 506) (c' := lexer_Line_p2_code) (by kernel_rfl) rfl hp2 CutsOk_nil)) (fun x k r h => Eq.trans (b := (zqam (zqb3 c_strings_Cut c_strings_Fields p1 p2)).run x k) (by kernel_rfl) h)
end
theorem zqb5Γ : ΓOk Tryz.prog (pick1 [(11, .spec (zqaf zqaj)), (26, .spec (zq1g zq1h)), (27, .spec (zq1m zq1n))]) := (ΓOk_cons zqak (ΓOk_cons zq1i (ΓOk_cons zq1o ΓOk_nil)))
def zqb6 (m : Nat) : zqap := zqay m
theorem zqb7 {β : Type} (i : Nat) (k1 k2 text t14 t15) : (zqb6 (i + 1) k1 k2 text t14 t15 : Option β) = zqax (zqb6 i k1 k2) k1 k2 text t14 t15 := rfl
def zqb8 : zqap := zqb6 fuel
theorem zqb9 : PieceOk Tryz.prog 56 0 lexer_Line_p1_code zqaq zqar (lexer_Line_p1_G zqb8) := zqaz zqaj zq1h zq1n zqb5Γ fuel
def zqba (m : Nat) : zqau := zqb1 zqaj m
theorem zqbb {β : Type} (i : Nat) (k1 k2 t37 t38 out t36) : (zqba (i + 1) k1 k2 t37 t38 out t36 : Option β) = zqb0 zqaj (zqba i k1 k2) k1 k2 t37 t38 out t36 := rfl
def zqbc : zqau := zqba fuel
theorem zqbd : PieceOk Tryz.prog 56 0 lexer_Line_p2_code zqav zqaw (lexer_Line_p2_G zqbc) := zqb2 zqaj zq1h zq1n zqb5Γ fuel
def zqbe : zqal := zqb3 zq1h zq1n zqb8 zqbc
theorem zqbf : SpecOk Tryz.prog 13 (zqam zqbe) := zqb4 zqaj zq1h zq1n zqb5Γ zqb8 zqbc zqb9 zqbd

/-- pagewatch/pagewatchlaw06.sane -/
abbrev zqbg := {β : Type} → (Bool → Option β) → Option β
def zqbh (c : zqbg) : Spec :=
  ⟨[], [], [(false, [.data .bool])], [], fun x k => c  (fun r0 => k (((r0, ()), ()), ()))⟩
section
variable (c_lexer_Line : zqal) (c_lexer_Text : zq9a) (c_lexer_Token : zqae)
@[reducible] def law06_sane_X : Ctx := ⟨look tab, pick1 [(13, .spec (zqam c_lexer_Line)), (19, .spec (zq9b c_lexer_Text)), (11, .spec (zqaf c_lexer_Token))], false, false, false, false⟩
def zqbi {β : Type} (k : (Bool → Option β)) : Option β :=
  c_lexer_Token ([50, 48, 50, 54, 45, 48, 51, 45, 50, 57, 84, 48, 49, 58, 48, 48, 58, 48, 48, 90] : List UInt8) (fun (rToken : zq0) (rToken2 : Int) =>
  c_lexer_Token ([50, 52, 58, 48, 48] : List UInt8) (fun (rToken3 : zq0) (rToken4 : Int) =>
  c_lexer_Token ([50, 52, 58, 48, 49] : List UInt8) (fun (rToken5 : zq0) (rToken6 : Int) =>
  c_lexer_Line ([97, 32, 35, 32, 98] : List UInt8) (fun (rLine : Int) (lrLine : List zq0) =>
  c_lexer_Text ((4 : Int), (([] : List UInt8), (-5400 : Int))) (fun (rText : List UInt8) (rText2 : Int) =>
  cond (decide (rToken2 = (0 : Int)))
  (cond (decide (rToken4 = (0 : Int)))
  (cond (decide (rToken6 = (2 : Int)))
  (cond (decide (rLine = (0 : Int)))
  (cond (decide (rText2 = (0 : Int)))
  (cond (decide (rToken.1 = (5 : Int)) && (decide (rToken.2.1 = ([] : List UInt8)) && (decide (rToken.2.2 = (1774746000 : Int)) && true)))
  (cond (decide (rToken3.2.2 = (86400 : Int)))
  (cond (decide ((List.length lrLine : Int) = (1 : Int)))
  (let t : Bool := (decide (rText = ([45, 48, 49, 58, 51, 48] : List UInt8)));
  k t)
  (k false))
  (k false))
  (k false))
  (k false))
  (k false))
  (k false))
  (k false))
  (k false))))))
theorem zqbj (hΓ : ΓOk Tryz.prog (law06_sane_X c_lexer_Line c_lexer_Text c_lexer_Token).Γ) : SpecOk Tryz.prog 7 (zqbh (zqbi c_lexer_Line c_lexer_Text c_lexer_Token)) :=
  spec_exec (X := (law06_sane_X c_lexer_Line c_lexer_Text c_lexer_Token)) (Λ := pick1 []) (rs := [.tmp 0]) (c := bodyOf Tryz.f7) mixed tab_ok hΓ Tryz.func7 (by kernel_rfl) (by kernel_rfl) (by kernel_rfl) (by kernel_rfl) CutsOk_nil (fun x k r h => Eq.trans (b := (zqbh (zqbi c_lexer_Line c_lexer_Text c_lexer_Token)).run x k) (by kernel_rfl) h)
end
theorem zqbkΓ : ΓOk Tryz.prog (pick1 [(13, .spec (zqam zqbe)), (19, .spec (zq9b zq9f)), (11, .spec (zqaf zqaj))]) := (ΓOk_cons zqbf (ΓOk_cons zq9g (ΓOk_cons zqak ΓOk_nil)))
def zqbl : zqbg := zqbi zqbe zq9f zqaj
theorem zqbm : SpecOk Tryz.prog 7 (zqbh zqbl) := zqbj zqbe zq9f zqaj zqbkΓ

/-- pagewatch/pagewatchlaw06.LexerLines -/
abbrev zqbn := {β : Type} → (List Int) → Int → (Bool → Option β) → Option β
def zqbo (c : zqbn) : Spec :=
  ⟨[(false, [.data (.slice (.int .i64))]), (false, [.data (.int .u8)])], [], [(false, [.data .bool])], [], fun x k => c x.1.1.1 x.1.2.1.1 (fun r0 => k (((r0, ()), ()), ()))⟩
noncomputable def law06_LexerLines_p2_code : Code := codeAt 1018 (bodyOf Tryz.f5)
noncomputable def law06_LexerLines_p1_code : Code := codeAt 1658 (loopBody law06_LexerLines_p2_code)
abbrev zqbp (β : Type) := Int → (List UInt8) → Int → (List UInt8) → (List Int) → Int → (List zq0) → (List (List UInt8)) → Option β
abbrev zqbq := {β : Type} → zqbp β → Int → (List UInt8) → Int → (List UInt8) → Int → (List Int) → Int → (List zq0) → (List (List UInt8)) → Option β
def zqbr : View := ⟨0, [1, 5, 6, 7, 8, 9, 10, 13], [(false, [.data (.int .u8)]), (false, [.ptr 0 0]), (false, [.rowh 1]), (false, [.data .str]), (false, [.rowh 2]), (false, [.data (.int .i64)]), (false, [.data .str]), (false, [.data (.int .i64)])], [.cells 48 [.data (.slice (.int .i64)), .data (.int .i64)], .row 23 zq1, .row 9 .str]⟩
def zqbs : List (AExit × View) := [(.exit 2, ⟨0, [1, 5, 6, 7, 8, 9, 10], [(false, [.data (.int .u8)]), (false, [.ptr 0 0]), (false, [.rowh 1]), (false, [.data .str]), (false, [.rowh 2]), (false, [.data (.int .i64)]), (false, [.data .str])], [.cells 48 [.data (.slice (.int .i64)), .data (.int .i64)], .row 23 zq1, .row 9 .str]⟩)]
@[reducible] def law06_LexerLines_p1_G (p : zqbq) {β : Type} (d : zqbr.den) (ks : Outs.K β zqbs) : Option β :=
  p (fun a0 a1 a2 a3 a4 a5 a6 a7 => ks.1 (((a0, ()), (), (), (a1, ()), (), (a2, ()), (a3, ()), ()), ((a4, a5, ()), a6, a7, ()))) d.1.1.1 d.1.2.2.2.1.1 d.1.2.2.2.2.2.1.1 d.1.2.2.2.2.2.2.1.1 d.1.2.2.2.2.2.2.2.1.1 d.2.1.1 d.2.1.2.1 d.2.2.1 d.2.2.2.1
abbrev zqbt (β : Type) := (List UInt8) → (List zq0) → Option β
abbrev zqbu := {β : Type} → zqbt β → Int → (List UInt8) → Int → (List Int) → Int → (List zq0) → (List (List UInt8)) → Option β
def zqbv : View := ⟨0, [1, 5, 6, 7, 8, 9], [(false, [.data (.int .u8)]), (false, [.ptr 0 0]), (false, [.rowh 1]), (false, [.data .str]), (false, [.rowh 2]), (false, [.data (.int .i64)])], [.cells 48 [.data (.slice (.int .i64)), .data (.int .i64)], .row 23 zq1, .row 9 .str]⟩
def zqbw : List (AExit × View) := [(.exit 0, ⟨0, [6, 7], [(false, [.rowh 0]), (false, [.data .str])], [.row 23 zq1]⟩)]
@[reducible] def law06_LexerLines_p2_G (p : zqbu) {β : Type} (d : zqbv.den) (ks : Outs.K β zqbw) : Option β :=
  p (fun a0 a1 => ks.1 (((), (a0, ()), ()), (a1, ()))) d.1.1.1 d.1.2.2.2.1.1 d.1.2.2.2.2.2.1.1 d.2.1.1 d.2.1.2.1 d.2.2.1 d.2.2.2.1
section
variable (c_law06_same : zqu) (c_law06_sane : zqbg) (c_law06_words : zqn) (c_lexer_Line : zqal) (c_lexer_Token : zqae) (c_made_Dice_Next : zqg) (c_made_Light : zq2) (c_made_Roll : zq9)
@[reducible] def law06_LexerLines_X : Ctx := ⟨look tab, pick1 [(15, .spec (zqv c_law06_same)), (7, .spec (zqbh c_law06_sane)), (10, .spec (zqo c_law06_words)), (13, .spec (zqam c_lexer_Line)), (11, .spec (zqaf c_lexer_Token)), (9, .spec (zqh c_made_Dice_Next)), (6, .spec (zq3 c_made_Light)), (8, .spec (zqa c_made_Roll))], false, false, false, false⟩
def zqbx {β : Type} (rec : Int → (List UInt8) → Int → (List UInt8) → Int → (List Int) → Int → (List zq0) → (List (List UInt8)) → Option β) (k1 : zqbp β) (spaces : Int) (line : List UInt8) (i_ : Int) (w : List UInt8) (n : Int) (d : List Int) (d2 : Int) (want : List zq0) (l : List (List UInt8)) : Option β :=
  cond (decide ((0 : Int) ≤ n))
  (cond (decide (List.length line + List.length ([32] : List UInt8) ≤ 9223372036854775807))
  (let line2 : List UInt8 := (line ++ ([32] : List UInt8));
  let n2 : Int := (IntKind.i64.wrap (n - (1 : Int)));
  rec spaces line2 i_ w n2 d d2 want l)
  none)
  (k1 spaces line i_ w d d2 want l)
def zqby {β : Type} : Nat → zqbp β → Int → (List UInt8) → Int → (List UInt8) → Int → (List Int) → Int → (List zq0) → (List (List UInt8)) → Option β
  | 0 => fun _ _ _ _ _ _ _ _ _ _ => none
  | i + 1 => fun k1 spaces line i_ w n d d2 want l => zqbx (zqby i k1) k1 spaces line i_ w n d d2 want l
theorem zqbz (hΓ : ΓOk Tryz.prog (law06_LexerLines_X c_law06_same c_law06_sane c_law06_words c_lexer_Line c_lexer_Token c_made_Dice_Next c_made_Light c_made_Roll).Γ) (i : Nat) : PieceOk Tryz.prog 92 0 law06_LexerLines_p1_code zqbr zqbs (law06_LexerLines_p1_G (zqby i)) := by
  rw [show law06_LexerLines_p1_code = .loop (loopBody law06_LexerLines_p1_code) by kernel_rfl]
  exact piece_loop (X := (law06_LexerLines_X c_law06_same c_law06_sane c_law06_words c_lexer_Line c_lexer_Token c_made_Dice_Next c_made_Light c_made_Roll)) (p := 1) (Λ := pick1 []) (G := fun i => @fun β d ks => law06_LexerLines_p1_G (zqby i) d ks) mixed tab_ok hΓ rfl (by kernel_rfl) CutsOk_nil (fun _ _ => rfl) (fun i => @fun β d ks r h => Eq.trans (b := law06_LexerLines_p1_G (zqby (i + 1)) d ks) (by kernel_rfl) h) i
def zqc0 (p1 : zqbq) {β : Type} (rec : Int → (List UInt8) → Int → (List Int) → Int → (List zq0) → (List (List UInt8)) → Option β) (k1 : zqbt β) (spaces : Int) (line : List UInt8) (i_ : Int) (d : List Int) (d2 : Int) (want : List zq0) (l : List (List UInt8)) : Option β :=
  cond (decide (i_ < (9 : Int)))
  (c_made_Dice_Next (List.length l : Int) (d, d2) (fun (rNext : Int) (mrNext : (List Int × Int)) =>
  cond (decide (0 ≤ rNext) && decide (rNext < (List.length l : Int)))
  (let w : List UInt8 := (List.getD l (Int.toNat rNext) ([] : List UInt8));
  c_lexer_Token w (fun (rToken : zq0) (rToken2 : Int) =>
  cond (!decide (rToken2 = (0 : Int)))
  (let i_2 : Int := (IntKind.i64.wrap (i_ + (1 : Int)));
  rec spaces line i_2 mrNext.1 mrNext.2 want l)
  (let l2 : List zq0 := ([rToken] : List zq0);
  cond (decide ((List.length want + List.length l2) * 32 ≤ roomMax))
  (let l3 : List zq0 := (want ++ l2);
  cond (!decide ((4 : Int) = 0))
  (let n : Int := (IntKind.i64.wrap (Int.tmod spaces (4 : Int)));
  p1 (fun (spaces2 : Int) (line2 : List UInt8) (i_2 : Int) (w2 : List UInt8) (d3 : List Int) (d4 : Int) (want2 : List zq0) (l4 : List (List UInt8)) =>
  cond (decide (List.length line2 + List.length w2 ≤ 9223372036854775807))
  (let i_3 : Int := (IntKind.i64.wrap (i_2 + (1 : Int)));
  rec spaces2 (line2 ++ w2) i_3 d3 d4 want2 l4)
  none) spaces line i_ w n mrNext.1 mrNext.2 l3 l)
  none)
  none)))
  none))
  (k1 line want)
def zqc1 (p1 : zqbq) {β : Type} : Nat → zqbt β → Int → (List UInt8) → Int → (List Int) → Int → (List zq0) → (List (List UInt8)) → Option β
  | 0 => fun _ _ _ _ _ _ _ _ => none
  | i + 1 => fun k1 spaces line i_ d d2 want l => zqc0 c_lexer_Token c_made_Dice_Next p1 (zqc1 p1 i k1) k1 spaces line i_ d d2 want l
theorem zqc2 (hΓ : ΓOk Tryz.prog (law06_LexerLines_X c_law06_same c_law06_sane c_law06_words c_lexer_Line c_lexer_Token c_made_Dice_Next c_made_Light c_made_Roll).Γ) (p1 : zqbq) (hp1 : PieceOk Tryz.prog 92 0 law06_LexerLines_p1_code zqbr zqbs (law06_LexerLines_p1_G p1)) (i : Nat) : PieceOk Tryz.prog 92 0 law06_LexerLines_p2_code zqbv zqbw (law06_LexerLines_p2_G (zqc1 c_lexer_Token c_made_Dice_Next p1 i)) := by
  rw [show law06_LexerLines_p2_code = .loop (loopBody law06_LexerLines_p2_code) by kernel_rfl]
  exact piece_loop (X := (law06_LexerLines_X c_law06_same c_law06_sane c_law06_words c_lexer_Line c_lexer_Token c_made_Dice_Next c_made_Light c_made_Roll)) (p := 1) (Λ := pick1 [(1658, pieceCut zqbr zqbs (law06_LexerLines_p1_G p1))]) (G := fun i => @fun β d ks => law06_LexerLines_p2_G (zqc1 c_lexer_Token c_made_Dice_Next p1 i) d ks) mixed tab_ok hΓ rfl (by kernel_rfl) (CutsOk_cons (q := 1658) (c' := law06_LexerLines_p1_code) (by kernel_rfl) rfl hp1 CutsOk_nil) (fun _ _ => rfl) (fun i => @fun β d ks r h => Eq.trans (b := law06_LexerLines_p2_G (zqc1 c_lexer_Token c_made_Dice_Next p1 (i + 1)) d ks) (by kernel_rfl) h) i
def zqc3 (p2 : zqbu) {β : Type} (t : List Int) (spaces : Int) (k : (Bool → Option β)) : Option β :=
  c_made_Light t (fun (rLight : Bool) =>
  cond (!rLight)
  (c_law06_sane  (fun (rsane : Bool) =>
  k rsane))
  (c_made_Roll t (fun (mrRoll : (List Int × Int)) =>
  c_law06_words  (fun (lrwords : List (List UInt8)) =>
  p2 (fun (line : List UInt8) (want : List zq0) =>
  c_lexer_Line line (fun (rLine : Int) (lrLine : List zq0) =>
  cond (decide (List.length line + List.length ([32, 35, 32] : List UInt8) ≤ 9223372036854775807))
  (cond (decide (List.length (line ++ ([32, 35, 32] : List UInt8)) + List.length line ≤ 9223372036854775807))
  (cond (decide (List.length ((line ++ ([32, 35, 32] : List UInt8)) ++ line) + List.length ([32, 126] : List UInt8) ≤ 9223372036854775807))
  (c_lexer_Line (((line ++ ([32, 35, 32] : List UInt8)) ++ line) ++ ([32, 126] : List UInt8)) (fun (rLine2 : Int) (lrLine2 : List zq0) =>
  cond (decide (rLine = (0 : Int)))
  (cond (decide (rLine2 = (0 : Int)))
  (c_law06_same lrLine want (fun (rsame : Bool) =>
  cond rsame
  (c_law06_same lrLine2 want (fun (rsame2 : Bool) =>
  cond rsame2
  (c_law06_sane  (fun (rsane : Bool) =>
  k rsane))
  (k false)))
  (k false)))
  (k false))
  (k false)))
  none)
  none)
  none)) spaces ([] : List UInt8) (0 : Int) mrRoll.1 mrRoll.2 ([] : List zq0) lrwords))))
theorem zqc4 (hΓ : ΓOk Tryz.prog (law06_LexerLines_X c_law06_same c_law06_sane c_law06_words c_lexer_Line c_lexer_Token c_made_Dice_Next c_made_Light c_made_Roll).Γ) (p2 : zqbu) (hp2 : PieceOk Tryz.prog 92 0 law06_LexerLines_p2_code zqbv zqbw (law06_LexerLines_p2_G p2)) : SpecOk Tryz.prog 5 (zqbo (zqc3 c_law06_same c_law06_sane c_law06_words c_lexer_Line c_made_Light c_made_Roll p2)) :=
  spec_exec (X := (law06_LexerLines_X c_law06_same c_law06_sane c_law06_words c_lexer_Line c_lexer_Token c_made_Dice_Next c_made_Light c_made_Roll)) (Λ := pick1 [(1018, pieceCut zqbv zqbw (law06_LexerLines_p2_G p2))]) (rs := [.tmp 4]) (c := bodyOf Tryz.f5) mixed tab_ok hΓ Tryz.func5 (by kernel_rfl) (by kernel_rfl) (by kernel_rfl) (by kernel_rfl) (CutsOk_cons (q := 1018) (c' := law06_LexerLines_p2_code) (by kernel_rfl) rfl hp2 CutsOk_nil) (fun x k r h => Eq.trans (b := (zqbo (zqc3 c_law06_same c_law06_sane c_law06_words c_lexer_Line c_made_Light c_made_Roll p2)).run x k) (by kernel_rfl) h)
end
theorem zqc5Γ : ΓOk Tryz.prog (pick1 [(15, .spec (zqv zq1b)), (7, .spec (zqbh zqbl)), (10, .spec (zqo zqs)), (13, .spec (zqam zqbe)), (11, .spec (zqaf zqaj)), (9, .spec (zqh zql)), (6, .spec (zq3 zq7)), (8, .spec (zqa zqe))]) := (ΓOk_cons zq1c (ΓOk_cons zqbm (ΓOk_cons zqt (ΓOk_cons zqbf (ΓOk_cons zqak (ΓOk_cons zqm (ΓOk_cons zq8 (ΓOk_cons zqf ΓOk_nil))))))))
def zqc6 (m : Nat) : zqbq := zqby m
theorem zqc7 {β : Type} (i : Nat) (k1 spaces line i_ w n d d2 want l) : (zqc6 (i + 1) k1 spaces line i_ w n d d2 want l : Option β) = zqbx (zqc6 i k1) k1 spaces line i_ w n d d2 want l := rfl
def zqc8 : zqbq := zqc6 fuel
theorem zqc9 : PieceOk Tryz.prog 92 0 law06_LexerLines_p1_code zqbr zqbs (law06_LexerLines_p1_G zqc8) := zqbz zq1b zqbl zqs zqbe zqaj zql zq7 zqe zqc5Γ fuel
def zqca (m : Nat) : zqbu := zqc1 zqaj zql zqc8 m
theorem zqcb {β : Type} (i : Nat) (k1 spaces line i_ d d2 want l) : (zqca (i + 1) k1 spaces line i_ d d2 want l : Option β) = zqc0 zqaj zql zqc8 (zqca i k1) k1 spaces line i_ d d2 want l := rfl
def zqcc : zqbu := zqca fuel
theorem zqcd : PieceOk Tryz.prog 92 0 law06_LexerLines_p2_code zqbv zqbw (law06_LexerLines_p2_G zqcc) := zqc2 zq1b zqbl zqs zqbe zqaj zql zq7 zqe zqc5Γ zqc8 zqc9 fuel
def zqce : zqbn := zqc3 zq1b zqbl zqs zqbe zq7 zqe zqcc
theorem zqcf : SpecOk Tryz.prog 5 (zqbo zqce) := zqc4 zq1b zqbl zqs zqbe zqaj zql zq7 zqe zqc5Γ zqcc zqcd
end
end Go.Lift
/- Plain lemmas about functional forms: tests that are known, loops. -/
namespace Go.Lift
open Go.RowKit Go.IntWalk

section
variable {β : Type}
/-! ### Tests -/
theorem c_inb {i n : Int} {a b : Option β} (h : 0 ≤ i ∧ i < n) : cond (decide (0 ≤ i) && decide (i < n)) a b = a := by
  rw [decide_eq_true h.1, decide_eq_true h.2]; rfl
theorem c_room {n : Nat} {a b : Option β} (h : n ≤ 140737488355328) : cond (decide (n ≤ roomMax)) a b = a := by
  rw [decide_eq_true (p := n ≤ roomMax) h]; rfl
theorem c_pos {p : Prop} [Decidable p] {a b : Option β} (h : p) : cond (decide p) a b = a := by rw [decide_eq_true h]; rfl
theorem c_neg {p : Prop} [Decidable p] {a b : Option β} (h : ¬ p) : cond (decide p) a b = b := by rw [decide_eq_false h]; rfl
theorem c_npos {p : Prop} [Decidable p] {a b : Option β} (h : p) : cond (!decide p) a b = b := by rw [decide_eq_true h]; rfl
theorem c_nneg {p : Prop} [Decidable p] {a b : Option β} (h : ¬ p) : cond (!decide p) a b = a := by rw [decide_eq_false h]; rfl
theorem c_t {a b : Option β} : cond true a b = a := rfl
/-! ### Loops over the numbers from 0 on -/
/-- A walk over a list that may end early. -/
def walk {α σ ε : Type} (g : Nat → α → σ → ε ⊕ σ) : List α → Nat → σ → ε ⊕ σ
  | [], _, s => .inr s
  | x :: r, j, s =>
    match g j x s with
    | .inl e => .inl e
    | .inr s' => walk g r (j + 1) s'

def sumK {ε σ : Type} (E : ε → Option β) (K : σ → Option β) : ε ⊕ σ → Option β
  | .inl e => E e
  | .inr s => K s

theorem walk_loop {α σ ε : Type} (F : Nat → Int → σ → Option β) (g : Nat → α → σ → ε ⊕ σ) (E : ε → Option β) (K : σ → Option β) (d : α) (xs : List α)
    (h1 : ∀ (m i : Nat) s, i < xs.length → F (m + 1) (i : Int) s = sumK E (fun s' => F m ((i : Int) + 1) s') (g i (xs.getD i d) s))
    (h2 : ∀ (m : Nat) s, F (m + 1) (xs.length : Int) s = K s) :
    ∀ (r : List α) (j fuel : Nat) (s : σ), xs.drop j = r → j + r.length = xs.length → r.length < fuel → F fuel (j : Int) s = sumK E K (walk g r j s)
  | r, j, 0, s, _, _, h => absurd h (Nat.not_lt_zero _)
  | [], j, m + 1, s, hd, hj, _ => by
    simp only [List.length_nil, Nat.add_zero] at hj
    subst hj
    rw [h2]; rfl
  | x :: r, j, m + 1, s, hd, hj, hm => by
    simp only [List.length_cons] at hj hm
    have h3 : j < xs.length := by omega
    have hx : xs.getD j d = x := by
      rw [List.drop_eq_getElem_cons h3] at hd
      injection hd with hd1 hd2
      simp [List.getD, h3, hd1]
    have hr : xs.drop (j + 1) = r := by
      rw [List.drop_eq_getElem_cons h3] at hd
      injection hd with hd1 hd2
    rw [h1 m j s h3, hx, walk]
    cases hg : g j x s with
    | inl e => rfl
    | inr s' =>
      simp only [sumK]
      exact walk_loop F g E K d xs h1 h2 r (j + 1) m s' hr (by omega) (by omega)

theorem walk_loop0 {α σ ε : Type} (F : Nat → Int → σ → Option β) (g : Nat → α → σ → ε ⊕ σ) (E : ε → Option β) (K : σ → Option β) (d : α) (xs : List α) (s : σ) (n : Nat) (hn : xs.length < n)
    (h1 : ∀ (m i : Nat) s, i < xs.length → F (m + 1) (i : Int) s = sumK E (fun s' => F m ((i : Int) + 1) s') (g i (xs.getD i d) s))
    (h2 : ∀ (m : Nat) s, F (m + 1) (xs.length : Int) s = K s) : F n 0 s = sumK E K (walk g xs 0 s) :=
  walk_loop F g E K d xs h1 h2 xs 0 n s rfl (by simp) hn

/-- A loop that only looks: every element, or out. -/
theorem check_loop {α : Type} (F : Nat → Int → Option β) (p : α → Bool) (E K : Option β) (d : α) (xs : List α) (n : Nat) (hn : xs.length < n)
    (h1 : ∀ (m i : Nat), i < xs.length → F (m + 1) (i : Int) = cond (p (xs.getD i d)) (F m ((i : Int) + 1)) E)
    (h2 : ∀ (m : Nat), F (m + 1) (xs.length : Int) = K) : F n 0 = cond (xs.all p) K E := by
  have h := walk_loop0 (ε := Unit) (fun m i (_ : Unit) => F m i) (fun _ x s => cond (p x) (.inr s) (.inl ())) (fun _ => E) (fun _ => K) d xs () n hn
    (fun m i s hi => by rw [h1 m i hi]; cases p (xs.getD i d) <;> rfl) (fun m s => h2 m)
  rw [h]
  have key : ∀ (l : List α) (j : Nat), sumK (fun _ => E) (fun _ => K) (walk (ε := Unit) (fun _ x (s : Unit) => cond (p x) (.inr s) (.inl ())) l j ()) = cond (l.all p) K E := by
    intro l
    induction l with
    | nil => intro j; rfl
    | cons x l ih =>
      intro j
      simp only [walk, List.all_cons]
      cases p x with
      | true => simpa using ih (j + 1)
      | false => rfl
  exact key xs 0

end
end Go.Lift

/- The dice in plain Lean. -/
namespace Go.Lift
open Go.RowKit Go.IntWalk
noncomputable section
set_option linter.unusedVariables false
set_option linter.unusedSimpArgs false

abbrev Dice := List Int × Int
def DiceOk (d : Dice) : Prop := 0 ≤ d.2 ∧ d.2 ≤ d.1.length ∧ d.1.length ≤ 500

theorem light_eq {β : Type} (l : List Int) (k : Bool → Option β) : zq7 l k = k (decide ((l.length : Int) ≤ 500)) := by
  simp only [zq7, zq4]
theorem roll_eq {β : Type} (l : List Int) (k : Dice → Option β) : zqe l k = k (l, 0) := by
  simp only [zqe, zqb]
theorem roll_ok {l : List Int} (h : (l.length : Int) ≤ 500) : DiceOk (l, 0) := ⟨by simp, by simp, by show l.length ≤ 500; omega⟩

theorem next_ok {n : Int} {d : Dice} (hd : DiceOk d) (hn : 1 ≤ n ∧ n ≤ 4611686018427387904) :
    ∃ x d', 0 ≤ x ∧ x < n ∧ DiceOk d' ∧ ∀ {β : Type} (k : Int → Dice → Option β), zql n d k = k x d' := by
  obtain ⟨h1, h2, h3⟩ := hd
  by_cases ha : (d.1.length : Int) ≤ d.2
  · exact ⟨0, d, by omega, by omega, ⟨h1, h2, h3⟩, fun k => by simp (disch := omega) only [zql, zqi, c_pos]⟩
  · generalize hv : List.getD d.1 (Int.toNat d.2) (0 : Int) = v
    have hm1 := Int.tmod_lt_of_pos v (show 0 < n by omega)
    have hm2 : -n < Int.tmod v n := by
      have h5 := Int.tmod_lt_of_pos (-v) (show 0 < n by omega)
      rw [Int.neg_tmod] at h5
      omega
    have hd' : DiceOk (d.1, d.2 + 1) := ⟨by show (0 : Int) ≤ d.2 + 1; omega, by show d.2 + 1 ≤ (d.1.length : Int); omega, h3⟩
    by_cases hc : Int.tmod v n < 0
    · refine ⟨Int.tmod v n + n, (d.1, d.2 + 1), by omega, by omega, hd', fun k => ?_⟩
      simp (disch := omega) only [zql, zqi, hv, c_pos, c_neg, c_inb, c_nneg, i64_in]
    · refine ⟨Int.tmod v n, (d.1, d.2 + 1), by omega, by omega, hd', fun k => ?_⟩
      simp (disch := omega) only [zql, zqi, hv, c_pos, c_neg, c_inb, c_nneg, i64_in]

end
end Go.Lift

/- The words of chapter 6's laws, one by one: what the code's Token and Text make of them. -/
namespace Go.Lift
noncomputable section
set_option maxRecDepth 100000
set_option linter.unusedVariables false

/-- A token: its kind, its text, its number. -/
abbrev Tok := Int × List UInt8 × Int
/-- What becomes of a word: the token, and the token's word. -/
structure WordIs (w : List UInt8) (t : Tok) (s : List UInt8) : Prop where
  tok : ∀ {β : Type} (k : Tok → Int → Option β), zqaj w k = k t 0
  txt : ∀ {β : Type} (k : List UInt8 → Int → Option β), zq9f t k = k s 0
  back : ∀ {β : Type} (k : Tok → Int → Option β), zqaj s k = k t 0
  short : s.length ≤ w.length
def WordNot (w : List UInt8) : Prop := ∀ {β : Type} (k : Tok → Int → Option β), zqaj w k = k (0, [], 0) 2
def WordOk (w : List UInt8) : Prop := (∃ t s, WordIs w t s ∧ w ≠ [] ∧ ∀ c ∈ w, 33 ≤ c.toNat ∧ c.toNat ≤ 126 ∧ c ≠ 35) ∨ WordNot w

theorem word0 : WordIs [97] (0, [97], 0) [97] := ⟨fun k => by kernel_rfl, fun k => by kernel_rfl, fun k => by kernel_rfl, by decide⟩
theorem word1 : WordIs [122, 57, 95, 45] (0, [122, 57, 95, 45], 0) [122, 57, 95, 45] := ⟨fun k => by kernel_rfl, fun k => by kernel_rfl, fun k => by kernel_rfl, by decide⟩
theorem word2 : WordNot [65] := fun k => by kernel_rfl
theorem word3 : WordNot [57, 97] := fun k => by kernel_rfl
theorem word4 : WordIs [48] (1, [], 0) [48] := ⟨fun k => by kernel_rfl, fun k => by kernel_rfl, fun k => by kernel_rfl, by decide⟩
theorem word5 : WordNot [48, 48] := fun k => by kernel_rfl
theorem word6 : WordIs [55] (1, [], 7) [55] := ⟨fun k => by kernel_rfl, fun k => by kernel_rfl, fun k => by kernel_rfl, by decide⟩
theorem word7 : WordIs [57, 57, 57, 57, 57, 57, 57, 57, 57] (1, [], 999999999) [57, 57, 57, 57, 57, 57, 57, 57, 57] := ⟨fun k => by kernel_rfl, fun k => by kernel_rfl, fun k => by kernel_rfl, by decide⟩
theorem word8 : WordNot [49, 48, 48, 48, 48, 48, 48, 48, 48, 48] := fun k => by kernel_rfl
theorem word9 : WordNot [48, 49] := fun k => by kernel_rfl
theorem word10 : WordIs [50, 52, 58, 48, 48] (2, [], 86400) [50, 52, 58, 48, 48] := ⟨fun k => by kernel_rfl, fun k => by kernel_rfl, fun k => by kernel_rfl, by decide⟩
theorem word11 : WordNot [50, 52, 58, 48, 48, 58, 48, 49] := fun k => by kernel_rfl
theorem word12 : WordIs [50, 51, 58, 53, 57, 58, 53, 57] (2, [], 86399) [50, 51, 58, 53, 57, 58, 53, 57] := ⟨fun k => by kernel_rfl, fun k => by kernel_rfl, fun k => by kernel_rfl, by decide⟩
theorem word13 : WordNot [49, 50, 58, 54, 48] := fun k => by kernel_rfl
theorem word14 : WordNot [49, 58, 48, 48] := fun k => by kernel_rfl
theorem word15 : WordIs [50, 48, 50, 54, 45, 48, 50, 45, 50, 56] (3, [], 20512) [50, 48, 50, 54, 45, 48, 50, 45, 50, 56] := ⟨fun k => by kernel_rfl, fun k => by kernel_rfl, fun k => by kernel_rfl, by decide⟩
theorem word16 : WordNot [50, 48, 50, 54, 45, 48, 50, 45, 50, 57] := fun k => by kernel_rfl
theorem word17 : WordIs [50, 48, 50, 52, 45, 48, 50, 45, 50, 57] (3, [], 19782) [50, 48, 50, 52, 45, 48, 50, 45, 50, 57] := ⟨fun k => by kernel_rfl, fun k => by kernel_rfl, fun k => by kernel_rfl, by decide⟩
theorem word18 : WordNot [49, 57, 54, 57, 45, 49, 50, 45, 51, 49] := fun k => by kernel_rfl
theorem word19 : WordIs [50, 50, 52, 48, 45, 49, 50, 45, 51, 49] (3, [], 98980) [50, 50, 52, 48, 45, 49, 50, 45, 51, 49] := ⟨fun k => by kernel_rfl, fun k => by kernel_rfl, fun k => by kernel_rfl, by decide⟩
theorem word20 : WordNot [50, 50, 52, 49, 45, 48, 49, 45, 48, 49] := fun k => by kernel_rfl
theorem word21 : WordIs [43, 49, 56, 58, 48, 48] (4, [], 64800) [43, 49, 56, 58, 48, 48] := ⟨fun k => by kernel_rfl, fun k => by kernel_rfl, fun k => by kernel_rfl, by decide⟩
theorem word22 : WordNot [43, 49, 56, 58, 48, 49] := fun k => by kernel_rfl
theorem word23 : WordIs [45, 48, 48, 58, 48, 48] (4, [], 0) [43, 48, 48, 58, 48, 48] := ⟨fun k => by kernel_rfl, fun k => by kernel_rfl, fun k => by kernel_rfl, by decide⟩
theorem word24 : WordIs [45, 49, 55, 58, 53, 57] (4, [], -64740) [45, 49, 55, 58, 53, 57] := ⟨fun k => by kernel_rfl, fun k => by kernel_rfl, fun k => by kernel_rfl, by decide⟩
theorem word25 : WordNot [43, 49, 58, 48, 48] := fun k => by kernel_rfl
theorem word26 : WordIs [50, 48, 50, 54, 45, 48, 49, 45, 48, 49, 84, 48, 48, 58, 48, 48, 58, 48, 48, 90] (5, [], 1767225600) [50, 48, 50, 54, 45, 48, 49, 45, 48, 49, 84, 48, 48, 58, 48, 48, 58, 48, 48, 90] := ⟨fun k => by kernel_rfl, fun k => by kernel_rfl, fun k => by kernel_rfl, by decide⟩
theorem word27 : WordNot [50, 48, 50, 54, 45, 48, 49, 45, 48, 49, 84, 50, 52, 58, 48, 48, 58, 48, 48, 90] := fun k => by kernel_rfl
theorem word28 : WordNot [50, 48, 50, 54, 45, 49, 51, 45, 48, 49, 84, 48, 48, 58, 48, 48, 58, 48, 48, 90] := fun k => by kernel_rfl
theorem word29 : WordNot [50, 48, 50, 54, 45, 48, 49, 45, 48, 49, 116, 48, 48, 58, 48, 48, 58, 48, 48, 90] := fun k => by kernel_rfl
theorem word30 : WordIs [97, 98, 99, 100, 101, 102, 103, 104, 105, 106, 107, 108, 109, 110, 111, 112, 113, 114, 115, 116, 117, 118, 119, 120] (0, [97, 98, 99, 100, 101, 102, 103, 104, 105, 106, 107, 108, 109, 110, 111, 112, 113, 114, 115, 116, 117, 118, 119, 120], 0) [97, 98, 99, 100, 101, 102, 103, 104, 105, 106, 107, 108, 109, 110, 111, 112, 113, 114, 115, 116, 117, 118, 119, 120] := ⟨fun k => by kernel_rfl, fun k => by kernel_rfl, fun k => by kernel_rfl, by decide⟩
theorem word31 : WordNot [97, 98, 99, 100, 101, 102, 103, 104, 105, 106, 107, 108, 109, 110, 111, 112, 113, 114, 115, 116, 117, 118, 119, 120, 121] := fun k => by kernel_rfl
theorem word32 : WordNot [] := fun k => by kernel_rfl
theorem word33 : WordNot [35] := fun k => by kernel_rfl
theorem word34 : WordNot [97, 35, 98] := fun k => by kernel_rfl
theorem word35 : WordIs [110, 111, 98, 111, 100, 121] (0, [110, 111, 98, 111, 100, 121], 0) [110, 111, 98, 111, 100, 121] := ⟨fun k => by kernel_rfl, fun k => by kernel_rfl, fun k => by kernel_rfl, by decide⟩
def words06 : List (List UInt8) := [[97], [122, 57, 95, 45], [65], [57, 97], [48], [48, 48], [55], [57, 57, 57, 57, 57, 57, 57, 57, 57], [49, 48, 48, 48, 48, 48, 48, 48, 48, 48], [48, 49], [50, 52, 58, 48, 48], [50, 52, 58, 48, 48, 58, 48, 49], [50, 51, 58, 53, 57, 58, 53, 57], [49, 50, 58, 54, 48], [49, 58, 48, 48], [50, 48, 50, 54, 45, 48, 50, 45, 50, 56], [50, 48, 50, 54, 45, 48, 50, 45, 50, 57], [50, 48, 50, 52, 45, 48, 50, 45, 50, 57], [49, 57, 54, 57, 45, 49, 50, 45, 51, 49], [50, 50, 52, 48, 45, 49, 50, 45, 51, 49], [50, 50, 52, 49, 45, 48, 49, 45, 48, 49], [43, 49, 56, 58, 48, 48], [43, 49, 56, 58, 48, 49], [45, 48, 48, 58, 48, 48], [45, 49, 55, 58, 53, 57], [43, 49, 58, 48, 48], [50, 48, 50, 54, 45, 48, 49, 45, 48, 49, 84, 48, 48, 58, 48, 48, 58, 48, 48, 90], [50, 48, 50, 54, 45, 48, 49, 45, 48, 49, 84, 50, 52, 58, 48, 48, 58, 48, 48, 90], [50, 48, 50, 54, 45, 49, 51, 45, 48, 49, 84, 48, 48, 58, 48, 48, 58, 48, 48, 90], [50, 48, 50, 54, 45, 48, 49, 45, 48, 49, 116, 48, 48, 58, 48, 48, 58, 48, 48, 90], [97, 98, 99, 100, 101, 102, 103, 104, 105, 106, 107, 108, 109, 110, 111, 112, 113, 114, 115, 116, 117, 118, 119, 120], [97, 98, 99, 100, 101, 102, 103, 104, 105, 106, 107, 108, 109, 110, 111, 112, 113, 114, 115, 116, 117, 118, 119, 120, 121], [], [35], [97, 35, 98], [110, 111, 98, 111, 100, 121]]
theorem words_eq {β : Type} (k : List (List UInt8) → Option β) : zqs k = k words06 := by kernel_rfl
theorem words_ok : ∀ w ∈ words06, WordOk w := by
  intro w hw
  simp only [words06, List.mem_cons, List.not_mem_nil, or_false] at hw
  rcases hw with rfl | rfl | rfl | rfl | rfl | rfl | rfl | rfl | rfl | rfl | rfl | rfl | rfl | rfl | rfl | rfl | rfl | rfl | rfl | rfl | rfl | rfl | rfl | rfl | rfl | rfl | rfl | rfl | rfl | rfl | rfl | rfl | rfl | rfl | rfl | rfl
  · exact .inl ⟨_, _, word0, by decide, by decide⟩
  · exact .inl ⟨_, _, word1, by decide, by decide⟩
  · exact .inr word2
  · exact .inr word3
  · exact .inl ⟨_, _, word4, by decide, by decide⟩
  · exact .inr word5
  · exact .inl ⟨_, _, word6, by decide, by decide⟩
  · exact .inl ⟨_, _, word7, by decide, by decide⟩
  · exact .inr word8
  · exact .inr word9
  · exact .inl ⟨_, _, word10, by decide, by decide⟩
  · exact .inr word11
  · exact .inl ⟨_, _, word12, by decide, by decide⟩
  · exact .inr word13
  · exact .inr word14
  · exact .inl ⟨_, _, word15, by decide, by decide⟩
  · exact .inr word16
  · exact .inl ⟨_, _, word17, by decide, by decide⟩
  · exact .inr word18
  · exact .inl ⟨_, _, word19, by decide, by decide⟩
  · exact .inr word20
  · exact .inl ⟨_, _, word21, by decide, by decide⟩
  · exact .inr word22
  · exact .inl ⟨_, _, word23, by decide, by decide⟩
  · exact .inl ⟨_, _, word24, by decide, by decide⟩
  · exact .inr word25
  · exact .inl ⟨_, _, word26, by decide, by decide⟩
  · exact .inr word27
  · exact .inr word28
  · exact .inr word29
  · exact .inl ⟨_, _, word30, by decide, by decide⟩
  · exact .inr word31
  · exact .inr word32
  · exact .inr word33
  · exact .inr word34
  · exact .inl ⟨_, _, word35, by decide, by decide⟩
end
end Go.Lift

/- The examples of chapter 6. -/
namespace Go.Lift
noncomputable section
set_option maxRecDepth 100000
theorem sane06 {β : Type} (k : Bool → Option β) : zqbl k = k true := by kernel_rfl
end
end Go.Lift

/- LexerBack: a word that is written from a token is read as this token, and is a shortest one. -/
namespace Go.Lift
open Go.RowKit Go.IntWalk
noncomputable section
set_option linter.unusedVariables false
set_option linter.unusedSimpArgs false
set_option maxRecDepth 10000

section
variable {β : Type}
theorem x_f {b : Bool} {x y : Option β} (h : b = false) : cond b x y = y := by rw [h]; rfl
theorem x_t {b : Bool} {x y : Option β} (h : b = true) : cond b x y = x := by rw [h]; rfl
theorem words_len : words06.length = 36 := rfl
theorem words_get {i : Nat} (h : i < 36) : WordOk (words06.getD i []) := by
  have h : i < words06.length := h
  have : words06.getD i [] = words06[i] := by simp [List.getD, h]
  rw [this]
  exact words_ok _ (List.getElem_mem h)

end
end
end Go.Lift

/- Lines of words (chapter 6): what stands between spaces, and what stands ahead of a '#'. -/
namespace Go.Lift
set_option linter.unusedVariables false
set_option linter.unusedSimpArgs false
set_option maxRecDepth 10000

abbrev plainB (c : UInt8) : Prop := 33 ≤ c.toNat ∧ c.toNat ≤ 126
theorem f_nil (f : Nat) (cur : List UInt8) : Lib.fieldsGoD (f + 1) cur [] = if cur = [] then [] else [cur] := by
  rw [Lib.fieldsGoD, if_pos rfl]
theorem f_space (f : Nat) (cur l : List UInt8) : Lib.fieldsGoD (f + 1) cur (32 :: l) = (if cur = [] then [] else [cur]) ++ Lib.fieldsGoD f [] l := by
  rw [Lib.fieldsGoD, if_neg (by simp), Lib.decodeL_ascii 32 l (by decide)]
  rw [if_pos (by decide)]
  rfl
theorem f_char (f : Nat) (cur l : List UInt8) {c : UInt8} (h : plainB c) : Lib.fieldsGoD (f + 1) cur (c :: l) = Lib.fieldsGoD f (cur ++ [c]) l := by
  obtain ⟨h1, h2⟩ := h
  rw [Lib.fieldsGoD, if_neg (by simp), Lib.decodeL_ascii c l (by omega)]
  have : Lib.isSpaceR c.toNat = false := by
    unfold Lib.isSpaceR
    simp only [Bool.or_eq_false_iff, Bool.and_eq_false_iff, decide_eq_false_iff_not, beq_eq_false_iff_ne]
    omega
  rw [if_neg (by simp [this])]
  rfl
theorem f_word : ∀ (w cur l : List UInt8) (f : Nat), (∀ c ∈ w, plainB c) → Lib.fieldsGoD (f + w.length) cur (w ++ l) = Lib.fieldsGoD f (cur ++ w) l
  | [], cur, l, f, _ => by simp
  | c :: w, cur, l, f, h => by
    rw [List.length_cons, ← Nat.add_assoc, List.cons_append, f_char _ _ _ (h c (by simp)), f_word w (cur ++ [c]) l f fun x hx => h x (by simp [hx])]
    simp
theorem f_spaces : ∀ (n : Nat) (l : List UInt8) (f : Nat), Lib.fieldsGoD (f + n) [] (List.replicate n 32 ++ l) = Lib.fieldsGoD f [] l
  | 0, l, f => rfl
  | n + 1, l, f => by
    rw [← Nat.add_assoc, List.replicate_succ, List.cons_append, f_space]
    simp only [if_true, List.nil_append]
    exact f_spaces n l f

/-- A line: each word behind n + 1 spaces. -/
def lineOf (n : Nat) (ws : List (List UInt8)) : List UInt8 := ws.flatMap fun w => List.replicate (n + 1) 32 ++ w
theorem lineOf_cons (n : Nat) (w : List UInt8) (ws : List (List UInt8)) : lineOf n (w :: ws) = List.replicate (n + 1) 32 ++ (w ++ lineOf n ws) := by
  simp [lineOf]
theorem lineOf_snoc (n : Nat) (w : List UInt8) (ws : List (List UInt8)) : lineOf n (ws ++ [w]) = lineOf n ws ++ (List.replicate (n + 1) 32 ++ w) := by
  simp [lineOf]

theorem f_line (n : Nat) {t : List UInt8} (ht : t = [] ∨ t = [32]) : ∀ (ws : List (List UInt8)) (cur : List UInt8) (f : Nat), (∀ w ∈ ws, w ≠ [] ∧ ∀ c ∈ w, plainB c) → (lineOf n ws ++ t).length < f →
    Lib.fieldsGoD f cur (lineOf n ws ++ t) = (if cur = [] then [] else [cur]) ++ ws
  | [], cur, f, _, hf => by
    obtain ⟨f, rfl⟩ : ∃ f', f = f' + 1 := ⟨f - 1, by omega⟩
    rcases ht with rfl | rfl
    · show Lib.fieldsGoD (f + 1) cur [] = _
      rw [f_nil]; simp
    · show Lib.fieldsGoD (f + 1) cur [32] = _
      rw [f_space]
      have : 1 < f + 1 := by simpa [lineOf] using hf
      obtain ⟨f, rfl⟩ : ∃ f', f = f' + 1 := ⟨f - 1, by omega⟩
      rw [f_nil]; simp
  | w :: ws, cur, f, h, hf => by
    have hw := h w (by simp)
    have hl : (lineOf n (w :: ws) ++ t).length = n + 1 + (w.length + (lineOf n ws ++ t).length) := by
      rw [lineOf_cons]; simp only [List.length_append, List.length_replicate]; omega
    obtain ⟨f, rfl⟩ : ∃ f', f = f' + w.length + n + 1 := ⟨f - (w.length + n + 1), by omega⟩
    rw [lineOf_cons, List.append_assoc, List.append_assoc, List.replicate_succ, List.cons_append, f_space]
    have e1 := f_spaces n (w ++ (lineOf n ws ++ t)) (f + w.length)
    rw [e1, f_word w [] _ f hw.2, List.nil_append, f_line n ht ws w f (fun x hx => h x (by simp [hx])) (by omega), if_neg hw.1]
    rfl
theorem fields_line (n : Nat) {t : List UInt8} (ht : t = [] ∨ t = [32]) {ws : List (List UInt8)} (h : ∀ w ∈ ws, w ≠ [] ∧ ∀ c ∈ w, plainB c) : Lib.fieldsD (lineOf n ws ++ t) = ws := by
  unfold Lib.fieldsD
  rw [f_line n ht ws [] _ h (by omega)]
  rfl

theorem index_no : ∀ {l : List UInt8}, (∀ c ∈ l, c ≠ 35) → Lib.index l [35] = -1
  | [], _ => rfl
  | c :: l, h => by
    have h1 := index_no (l := l) fun x hx => h x (by simp [hx])
    have h2 := h c (by simp)
    unfold Lib.index
    rw [h1]
    have : List.isPrefixOf [35] (c :: l) = false := by
      simp [List.isPrefixOf]
      exact fun e => h2 e.symm
    rw [this]
    rfl
theorem index_at : ∀ {l : List UInt8} (r : List UInt8), (∀ c ∈ l, c ≠ 35) → Lib.index (l ++ 35 :: r) [35] = (l.length : Int)
  | [], r, _ => by
    show Lib.index (35 :: r) [35] = 0
    unfold Lib.index
    simp [List.isPrefixOf]
  | c :: l, r, h => by
    have h1 := index_at (l := l) r fun x hx => h x (by simp [hx])
    have h2 := h c (by simp)
    rw [List.cons_append]
    unfold Lib.index
    rw [h1]
    have : List.isPrefixOf [35] (c :: (l ++ 35 :: r)) = false := by
      simp [List.isPrefixOf]
      exact fun e => h2 e.symm
    rw [this]
    have h3 : ((l.length : Int) == -1) = false := by rw [beq_eq_false_iff_ne]; omega
    simp [h3]
theorem cut_no {l : List UInt8} (h : ∀ c ∈ l, c ≠ 35) : (Lib.cut l [35]).1 = l := by
  unfold Lib.cut
  rw [index_no h]
  rfl
theorem cut_at {l : List UInt8} (r : List UInt8) (h : ∀ c ∈ l, c ≠ 35) : (Lib.cut (l ++ 35 :: r) [35]).1 = l := by
  unfold Lib.cut
  rw [index_at r h, if_pos (by omega)]
  show List.take (l.length : Int).toNat (l ++ 35 :: r) = l
  rw [Int.toNat_natCast, List.take_left]
end Go.Lift

/- LexerLines: words that are joined by spaces are read one by one, and what follows '#' does not count. -/
namespace Go.Lift
open Go.RowKit Go.IntWalk
noncomputable section
set_option linter.unusedVariables false
set_option linter.unusedSimpArgs false
set_option maxRecDepth 10000

abbrev tok0 : Tok := (0, [], 0)
/-- Words with their tokens. -/
abbrev WT := List UInt8 × Tok
structure WtOk (p : WT) : Prop where
  tok : ∀ {β : Type} (k : Tok → Int → Option β), zqaj p.1 k = k p.2 0
  ne : p.1 ≠ []
  plain : ∀ c ∈ p.1, plainB c
  hash : ∀ c ∈ p.1, c ≠ 35
  len : p.1.length ≤ 24

section
variable {β : Type}
theorem line_p1 {text : List UInt8} (hl : text.length ≤ 512) (h : ∀ c ∈ text, 32 ≤ c.toNat ∧ c.toNat ≤ 126) (k1 : zqan β) (k2 : zqao β) : zqb8 k1 k2 text (text.length : Int) 0 = k2 text := by
  refine (check_loop (fun m i => zqb6 m k1 k2 text (text.length : Int) i) (fun _ => true) (k1 2 []) (k2 text) 0 text fuel (lt_fuel (by omega)) (fun m i hi => ?_) (fun m => ?_)).trans ?_
  · have hc := h (text.getD i 0) (by
      have : text.getD i 0 = text[i] := by simp [List.getD, hi]
      rw [this]; exact List.getElem_mem hi)
    simp only [zqb7, zqax, Int.toNat_natCast]
    refine (c_pos (by omega)).trans ?_
    refine (c_inb (by omega)).trans ?_
    refine (c_neg (by omega)).trans ?_
    refine (c_inb (by omega)).trans ?_
    refine (c_neg (by omega)).trans ?_
    rw [i64_in ((i : Int) + 1) (by omega)]
    rfl
  · simp only [zqb7, zqax]
    exact c_neg (by omega)
  · have : (text.all fun _ => true) = true := List.all_eq_true.2 fun _ _ => rfl
    rw [this]; rfl
theorem line_p2 {ps : List WT} (hl : ps.length ≤ 512) (h : ∀ p ∈ ps, WtOk p) (k1 : zqas β) (k2 : zqat β) : zqbc k1 k2 ((ps.map (·.1)).length : Int) 0 [] (ps.map (·.1)) = k2 (ps.map (·.2)) := by
  have key : ∀ (r pre : List WT) (m : Nat), ps = pre ++ r → r.length < m → zqba m k1 k2 ((ps.map (·.1)).length : Int) (pre.length : Int) (pre.map (·.2)) (ps.map (·.1)) = k2 (ps.map (·.2)) := by
    intro r
    induction r with
    | nil =>
      intro pre m hp hm
      obtain ⟨m, rfl⟩ : ∃ m', m = m' + 1 := ⟨m - 1, by simp at hm; omega⟩
      rw [List.append_nil] at hp
      subst hp
      simp only [zqbb, zqb0]
      exact c_neg (by rw [List.length_map]; omega)
    | cons p r ih =>
      intro pre m hp hm
      obtain ⟨m, rfl⟩ : ∃ m', m = m' + 1 := ⟨m - 1, by simp at hm; omega⟩
      have hlen : ps.length = pre.length + (r.length + 1) := by rw [hp]; simp
      have hg : (ps.map (·.1)).getD pre.length ([] : List UInt8) = p.1 := by rw [hp]; simp [List.getD]
      have hn := ih (pre ++ [p]) m (by rw [hp]; simp) (by simp at hm; omega)
      rw [List.map_append, List.length_append, List.length_singleton] at hn
      simp only [zqbb, zqb0, Int.toNat_natCast, hg]
      refine (c_pos (by rw [List.length_map]; omega)).trans ?_
      refine (c_inb (by rw [List.length_map]; omega)).trans ?_
      refine ((h p (by rw [hp]; simp)).tok _).trans ?_
      refine (c_npos rfl).trans ?_
      refine (c_room (by simp only [List.length_map, List.length_cons, List.length_nil]; omega)).trans ?_
      rw [i64_in ((pre.length : Int) + 1) (by omega)]
      exact hn
  exact key ps [] fuel rfl (lt_fuel (by omega))

theorem line_all {n : Nat} {ps : List WT} (h : ∀ p ∈ ps, WtOk p) : ∀ c ∈ lineOf n (ps.map (·.1)), 32 ≤ c.toNat ∧ c.toNat ≤ 126 ∧ c ≠ 35 := by
  intro c hc
  unfold lineOf at hc
  obtain ⟨w, hw, hc⟩ := List.mem_flatMap.1 hc
  obtain ⟨p, hp, rfl⟩ := List.mem_map.1 hw
  rcases List.mem_append.1 hc with hc | hc
  · rw [(List.mem_replicate.1 hc).2]
    decide
  · have h1 := (h p hp).plain c hc
    exact ⟨by omega, by omega, (h p hp).hash c hc⟩

theorem lexer_line {n : Nat} {ps : List WT} (h : ∀ p ∈ ps, WtOk p) (hf : ps.length ≤ 512) {text t : List UInt8} (ht : t = [] ∨ t = [32]) (hcut : (Lib.cut text [35]).1 = lineOf n (ps.map (·.1)) ++ t) (hl : text.length ≤ 512) (hc : ∀ c ∈ text, 32 ≤ c.toNat ∧ c.toNat ≤ 126)
    (k : Int → List Tok → Option β) : zqbe text k = k 0 (ps.map (·.2)) := by
  unfold zqbe zqb3
  refine (c_neg (by omega)).trans ?_
  refine (line_p1 hl hc _ _).trans ?_
  have hcl : (Lib.cut text [35]).1.length ≤ text.length := by
    unfold Lib.cut
    split
    · simp only [List.length_take]; omega
    · exact Nat.le_refl _
  refine (c_pos (show text.length < 4294967281 by omega)).trans ?_
  rw [hcut] at hcl ⊢
  refine (c_pos (show (lineOf n (ps.map (·.1)) ++ t).length < 4294967281 by omega)).trans ?_
  rw [fields_line n ht (fun w hw => by
    obtain ⟨p, hp, rfl⟩ := List.mem_map.1 hw
    exact ⟨(h p hp).ne, (h p hp).plain⟩)]
  exact line_p2 hf h _ _

theorem same_tok {l : List Tok} (hl : l.length ≤ 1000) (k : Bool → Option β) : zq1b l l k = k true := by
  unfold zq1b zq14
  refine (c_npos rfl).trans ?_
  refine (check_loop (fun m i => zq17 m (fun t4 => k t4) (fun _ => k true) l l (l.length : Int) i) (fun _ => true) (k false) (k true) tok0 l fuel (lt_fuel (by omega)) (fun m i hi => ?_) (fun m => ?_)).trans ?_
  · simp only [zq18, zq11, Int.toNat_natCast]
    refine (c_pos (by omega)).trans ?_
    refine (c_inb (by omega)).trans ?_
    refine (c_inb (by omega)).trans ?_
    refine (x_f (by simp)).trans ?_
    rw [i64_in ((i : Int) + 1) (by omega)]
    rfl
  · simp only [zq18, zq11]
    exact c_neg (by omega)
  · have : (l.all fun _ => true) = true := List.all_eq_true.2 fun _ _ => rfl
    rw [this]; rfl

/-! ### The law's loops -/
theorem lines_p1 {spaces : Int} {i_ : Int} {w : List UInt8} {d : Dice} {want : List Tok} {l : List (List UInt8)} : ∀ (n : Nat) (m : Nat) (line : List UInt8), n < m → n ≤ 10 → line.length + n ≤ 1000 → ∀ (k1 : zqbp β),
    zqc6 m k1 spaces line i_ w ((n : Int) - 1) d.1 d.2 want l = k1 spaces (line ++ List.replicate n 32) i_ w d.1 d.2 want l := by
  intro n
  induction n with
  | zero =>
    intro m line hm hn hl k1
    obtain ⟨m, rfl⟩ : ∃ m', m = m' + 1 := ⟨m - 1, by omega⟩
    simp only [zqc7, zqbx]
    refine (c_neg (by omega)).trans ?_
    simp
  | succ n ih =>
    intro m line hm hn hl k1
    obtain ⟨m, rfl⟩ : ∃ m', m = m' + 1 := ⟨m - 1, by omega⟩
    simp only [zqc7, zqbx]
    refine (c_pos (by omega)).trans ?_
    refine (c_pos (by simp only [List.length_cons, List.length_nil]; omega)).trans ?_
    rw [show IntKind.i64.wrap (((n + 1 : Nat) : Int) - 1 - 1) = (n : Int) - 1 by rw [i64_in _ (by omega)]; omega]
    refine (ih m (line ++ [32]) (by omega) (by omega) (by simp; omega) k1).trans ?_
    rw [List.append_assoc, List.replicate_succ]
    rfl

theorem lines_p2 {spaces : Int} {n : Nat} (hn : n ≤ 3) (hsp : Int.tmod spaces 4 = (n : Int)) : ∀ (j i m : Nat) (d : Dice) (ps : List WT), i + j = 9 → j < m → ps.length ≤ i → (∀ p ∈ ps, WtOk p) → (lineOf n (ps.map (·.1))).length ≤ 28 * i → DiceOk d →
    ∃ ps' : List WT, ps'.length ≤ 9 ∧ (∀ p ∈ ps', WtOk p) ∧ (lineOf n (ps'.map (·.1))).length ≤ 252 ∧ ∀ {β : Type} (k1 : zqbt β),
      zqca m k1 spaces (lineOf n (ps.map (·.1))) (i : Int) d.1 d.2 (ps.map (·.2)) words06 = k1 (lineOf n (ps'.map (·.1))) (ps'.map (·.2)) := by
  intro j
  induction j with
  | zero =>
    intro i m d ps hi hm hl hok hlen hd
    obtain ⟨m, rfl⟩ : ∃ m', m = m' + 1 := ⟨m - 1, by omega⟩
    refine ⟨ps, by omega, hok, by omega, fun k1 => ?_⟩
    simp only [zqcb, zqc0]
    exact c_neg (by omega)
  | succ j ih =>
    intro i m d ps hi hm hl hok hlen hd
    obtain ⟨m, rfl⟩ : ∃ m', m = m' + 1 := ⟨m - 1, by omega⟩
    have hwl : (words06.length : Int) = 36 := by rw [words_len]; rfl
    obtain ⟨x, d', a1, a2, hd', f⟩ := next_ok (n := (words06.length : Int)) hd (by omega)
    have hxlt : x.toNat < words06.length := by omega
    have hwmem : words06.getD x.toNat [] ∈ words06 := by
      have : words06.getD x.toNat [] = words06[x.toNat] := by simp [List.getD, hxlt]
      rw [this]; exact List.getElem_mem hxlt
    rcases words_get (i := x.toNat) (by omega) with ⟨t, s, h, hne, hpl⟩ | h
    · have hw24 : (words06.getD x.toNat []).length ≤ 24 ∨ True := .inr trivial
      have hlen24 : (words06.getD x.toNat []).length ≤ 24 := by
        have key : ∀ w ∈ words06, w.length ≤ 24 ∨ WordNot w := by
          intro w hw
          simp only [words06, List.mem_cons, List.not_mem_nil, or_false] at hw
          rcases hw with rfl | rfl | rfl | rfl | rfl | rfl | rfl | rfl | rfl | rfl | rfl | rfl | rfl | rfl | rfl | rfl | rfl | rfl | rfl | rfl | rfl | rfl | rfl | rfl | rfl | rfl | rfl | rfl | rfl | rfl | rfl | rfl | rfl | rfl | rfl | rfl
          all_goals first | (exact .inl (by decide)) | exact .inr word31
        rcases key _ hwmem with hk | hk
        · exact hk
        · exfalso
          have e := (hk (fun (_ : Tok) e => some e)).symm.trans (h.tok (fun (_ : Tok) e => some e))
          cases e
      have hp : WtOk (words06.getD x.toNat [], t) := ⟨h.tok, hne, fun c hc => ⟨(hpl c hc).1, (hpl c hc).2.1⟩, fun c hc => (hpl c hc).2.2, hlen24⟩
      have hsn : lineOf n ((ps ++ [(words06.getD x.toNat [], t)]).map (·.1)) = lineOf n (ps.map (·.1)) ++ (List.replicate (n + 1) 32 ++ words06.getD x.toNat []) := by
        rw [List.map_append]; exact lineOf_snoc n _ _
      obtain ⟨ps', h1, h2, h3, h4⟩ := ih (i + 1) m d' (ps ++ [(words06.getD x.toNat [], t)]) (by omega) (by omega) (by simp; omega) (fun q hq => by
        rcases List.mem_append.1 hq with hq | hq
        · exact hok q hq
        · rw [List.mem_singleton.1 hq]; exact hp) (by rw [hsn]; simp only [List.length_append, List.length_replicate]; omega) hd'
      refine ⟨ps', h1, h2, h3, fun {β'} k1 => ?_⟩
      have h4 := h4 k1
      simp only [zqcb, zqc0]
      refine (c_pos (by omega)).trans ?_
      refine (f _).trans ?_
      refine (c_inb (by omega)).trans ?_
      refine (h.tok _).trans ?_
      refine (c_npos rfl).trans ?_
      refine (c_room (by simp only [List.length_map, List.length_cons, List.length_nil]; omega)).trans ?_
      refine (c_nneg (by decide)).trans ?_
      rw [hsp, i64_in ((n : Int)) (by omega)]
      have hp1 := fun k1 => lines_p1 (β := β') (spaces := spaces) (i_ := (i : Int)) (w := words06.getD x.toNat []) (d := d') (want := ps.map (·.2) ++ [t]) (l := words06) (n + 1) fuel (lineOf n (ps.map (·.1))) (lt_fuel (by omega)) (by omega) (by omega) k1
      rw [show (((n + 1 : Nat) : Int) - 1) = (n : Int) by omega] at hp1
      refine (hp1 _).trans ?_
      refine (c_pos (by simp only [List.length_append, List.length_replicate]; omega)).trans ?_
      rw [i64_in ((i : Int) + 1) (by omega)]
      rw [hsn, List.map_append] at h4
      rw [List.append_assoc]
      exact h4
    · obtain ⟨ps', h1, h2, h3, h4⟩ := ih (i + 1) m d' ps (by omega) (by omega) (by omega) hok (by omega) hd'
      refine ⟨ps', h1, h2, h3, fun k1 => ?_⟩
      simp only [zqcb, zqc0]
      refine (c_pos (by omega)).trans ?_
      refine (f _).trans ?_
      refine (c_inb (by omega)).trans ?_
      refine (h _).trans ?_
      refine (c_nneg (by decide)).trans ?_
      rw [i64_in ((i : Int) + 1) (by omega)]
      exact h4 k1

theorem lexerLines (t : List Int) {spaces : Int} (hs : 0 ≤ spaces ∧ spaces ≤ 255) (k : Bool → Option β) : zqce t spaces k = k true := by
  unfold zqce zqc3
  refine (light_eq t _).trans ?_
  by_cases hl : (t.length : Int) ≤ 500
  · rw [decide_eq_true hl]
    refine (x_f rfl).trans ?_
    refine (roll_eq t _).trans ?_
    refine (words_eq _).trans ?_
    have hm1 := Int.tmod_nonneg (a := spaces) 4 (by omega)
    have hm2 := Int.tmod_lt_of_pos spaces (show (0 : Int) < 4 by decide)
    obtain ⟨ps, h1, h2, h3, h4⟩ := lines_p2 (spaces := spaces) (n := (Int.tmod spaces 4).toNat) (by omega) (by omega) 9 0 fuel (t, 0) [] rfl (lt_fuel (by omega)) (Nat.le_refl _) (by simp) (by simp [lineOf]) (roll_ok hl)
    refine (h4 _).trans ?_
    generalize hL : lineOf (Int.tmod spaces 4).toNat (ps.map (·.1)) = L at h3 h4 ⊢
    have hall : ∀ c ∈ L, 32 ≤ c.toNat ∧ c.toNat ≤ 126 ∧ c ≠ 35 := by rw [← hL]; exact line_all h2
    refine (lexer_line (n := (Int.tmod spaces 4).toNat) h2 (by omega) (t := []) (.inl rfl) (by rw [cut_no fun c hc => (hall c hc).2.2, hL, List.append_nil]) (by omega) (fun c hc => ⟨(hall c hc).1, (hall c hc).2.1⟩) _).trans ?_
    refine (c_pos (by simp only [List.length_cons, List.length_nil]; omega)).trans ?_
    refine (c_pos (by simp only [List.length_append, List.length_cons, List.length_nil]; omega)).trans ?_
    refine (c_pos (by simp only [List.length_append, List.length_cons, List.length_nil]; omega)).trans ?_
    have e2 : ((L ++ [32, 35, 32]) ++ L) ++ [32, 126] = (L ++ [32]) ++ 35 :: (32 :: (L ++ [32, 126])) := by simp
    refine (lexer_line (n := (Int.tmod spaces 4).toNat) h2 (by omega) (t := [32]) (.inr rfl) (by
      rw [e2, cut_at, hL]
      intro c hc
      rcases List.mem_append.1 hc with hc | hc
      · exact (hall c hc).2.2
      · rw [List.mem_singleton.1 hc]; decide) (by simp only [List.length_append, List.length_cons, List.length_nil]; omega) (fun c hc => by
      simp only [List.mem_append, List.mem_cons, List.not_mem_nil, or_false] at hc
      rcases hc with ((hc | rfl | rfl | rfl) | hc) | rfl | rfl
      · exact ⟨(hall c hc).1, (hall c hc).2.1⟩
      · decide
      · decide
      · decide
      · exact ⟨(hall c hc).1, (hall c hc).2.1⟩
      · decide
      · decide) _).trans ?_
    refine (c_pos rfl).trans ?_
    refine (c_pos rfl).trans ?_
    refine (same_tok (by rw [List.length_map]; omega) _).trans ?_
    refine c_t.trans ?_
    refine (same_tok (by rw [List.length_map]; omega) _).trans ?_
    refine c_t.trans ?_
    exact sane06 _
  · rw [decide_eq_false hl]
    refine (x_t rfl).trans ?_
    exact sane06 _
end
end
end Go.Lift

